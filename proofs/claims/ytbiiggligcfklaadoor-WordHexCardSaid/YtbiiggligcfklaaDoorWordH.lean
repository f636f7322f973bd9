/- The law WordHex. -/
import Derived.Test.YtbiiggligcfklaaDoorWordB
namespace Go.Proofs.YtbiiggligcfklaaDoor
open Go Go.RowKit

def lowF (d : Nat) : Nat := if d < 10 then 48 + d else 87 + d
def upF (d : Nat) : Nat := if d < 10 then 48 + d else 55 + d
theorem lowF_dig (d : Nat) (h : d < 16) : digW (lowF d) = d := by
  unfold lowF
  by_cases h' : d < 10
  · rw [if_pos h']; exact digW_dec h'
  · rw [if_neg h']; unfold digW; rw [if_neg (by omega), if_pos (by omega)]; omega
theorem upF_dig (d : Nat) (h : d < 16) : digW (upF d) = d := by
  unfold upF
  by_cases h' : d < 10
  · rw [if_pos h']; exact digW_dec h'
  · rw [if_neg h']; unfold digW; rw [if_neg (by omega), if_neg (by omega), if_pos (by omega)]; omega
def sLow : ByteArray := ⟨#[48, 49, 50, 51, 52, 53, 54, 55, 56, 57, 97, 98, 99, 100, 101, 102]⟩
def sUp : ByteArray := ⟨#[48, 49, 50, 51, 52, 53, 54, 55, 56, 57, 65, 66, 67, 68, 69, 70]⟩
theorem low_cut : ∀ r : Nat, r < 16 → sLow.extract r (r + 1) = strB [lowF r] := by decide
theorem up_cut : ∀ r : Nat, r < 16 → sUp.extract r (r + 1) = strB [upF r] := by decide
theorem run_hex (S : ByteArray) (hS : S.size = 16) (f : Nat → Nat) (hf : ∀ r : Nat, r < 16 → S.extract r (r + 1) = strB [f r]) (r : Nat) (hr : r < 16) (W : World) : (Instr.slice 9 (.string S) (some (.int .u64 (r : Int))) (some (.int .u64 ((r : Int) + 1))) none).run Tryd.prog W = .ok (.string (strB [f r])) W := by
  rw [run_slice_string_if W 9 _ .u64 .u64 (r : Int) ((r : Int) + 1) Tryd.underlying9, if_pos, if_pos]
  · have h1 : (r : Int).toNat = r := by omega
    have h2 : ((r : Int) + 1).toNat = r + 1 := by omega
    rw [h1, h2]
    exact congrArg (fun x => Result.ok (Value.string x) W) (hf r hr)
  · omega
  · rw [hS]
    omega

theorem parse_hexed {f : Nat → Nat} (hf : ∀ d, d < 16 → digW (f d) = d) {n v : Nat} (h1 : 1 ≤ n) (hn : n ≤ 16) (hv : v < 18446744073709551616) : parseW (48 :: 120 :: hexW f n v) = .ok (v % 16 ^ n) := by
  unfold parseW
  rw [if_pos (by rfl), if_neg (by simp [hexW_length]; omega)]
  have hm : foldW 16 0 (hexW f n v) = v % 16 ^ n := by rw [hexW_fold hf, Nat.zero_mul, Nat.zero_add]
  have hle : v % 16 ^ n ≤ v := Nat.mod_le _ _
  show shiftW 2 (parseFrom 16 16 0 0 (hexW f n v)) = _
  rw [parseFrom_ok (by omega) _ _ _ (hexW_digit hf n v) (by rw [hexW_length]; omega) (by rw [hm]; unfold MaxW; omega), hm]
  rfl
theorem parse_hexed_long {f : Nat → Nat} (hf : ∀ d, d < 16 → digW (f d) = d) (v : Nat) : parseW (48 :: 120 :: hexW f 17 v) = .error 18 := by
  unfold parseW
  rw [if_pos (by rfl), if_neg (by simp [hexW_length])]
  show shiftW 2 (parseFrom 16 16 0 0 (hexW f 17 v)) = _
  rw [parseFrom_long (by omega) _ _ _ (hexW_digit hf 17 v) (by omega) (by rw [hexW_length]; omega) (by
    rw [show 16 - 0 = 16 from rfl, hexW_take f 16 v, hexW_fold hf, Nat.zero_mul, Nat.zero_add]
    have := Nat.mod_lt (v / 16) (show 0 < 16 ^ 16 by decide)
    unfold MaxW
    omega)]
  rfl

theorem hexW_byte {f : Nat → Nat} (hf : ∀ d, d < 16 → f d < 256) : ∀ (n v c : Nat), c ∈ hexW f n v → c < 256
  | 0, v, c, hc => by simp [hexW] at hc
  | n + 1, v, c, hc => by
    rw [hexW] at hc
    rcases List.mem_cons.1 hc with rfl | hc
    · exact hf _ (Nat.mod_lt _ (by omega))
    · exact hexW_byte hf n v c hc

set_option maxRecDepth 100000 in
set_option maxHeartbeats 1000000 in
theorem hex_main (v : Nat) (large : Bool) (m : Int) (w : World) (hg : Laid w) (hv : v < 18446744073709551616) (hm0 : -9223372036854775808 ≤ m) (hm1 : m ≤ 9223372036854775807)
    (S : ByteArray) (f : Nat → Nat) (hS : S = if large then sUp else sLow) (hrun : ∀ (r : Nat), r < 16 → ∀ W, (Instr.slice 9 (.string S) (some (.int .u64 (r : Int))) (some (.int .u64 ((r : Int) + 1))) none).run Tryd.prog W = .ok (.string (strB [f r])) W)
    (hf : ∀ d, d < 16 → digW (f d) = d) (hf2 : ∀ d, d < 16 → f d < 256) :
    Calls Tryd.prog 6 #[.int .u64 v, .bool large, .int .i64 m] w fun e w' => e = .returned (.bool true) ∧ Kept [] w w' := by
  have HG := hid hg
  have HR := hid hrun
  have HF := hid hf
  have HF2 := hid hf2
  have hwi := hid (within_ok m 17 (by decide) hm0 hm1 (by decide))
  have hq0 := Int.emod_nonneg m (show (17 : Int) ≠ 0 by decide)
  have hq1 := Int.emod_lt_of_pos m (show (0 : Int) < 17 by decide)
  obtain ⟨k, hk⟩ : ∃ k : Nat, m % 17 = (k : Int) := ⟨(m % 17).toNat, by omega⟩
  rw [hk] at hwi hq1
  have hk17 : k < 17 := by omega
  obtain ⟨n, hn⟩ : ∃ n : Nat, 1 + (k : Int) = (n : Int) := ⟨1 + k, by omega⟩
  have hn1 : 1 ≤ n := by omega
  have hn2 : n ≤ 17 := by omega
  have HS := hid hS
  clear hg hrun hf hf2 hk hq0 hS
  go_enter Tryd.func6, Tryd.ntmps6
  go_wp2_with fail
  refine (hwi.out _).mono ?_
  rintro e w2 ⟨rfl, rfl⟩
  go_upto_if 17 with fail
  go_cut [9] (fun s9 wx => w = wx ∧ s9 = .string S)
  case first =>
    cases large
    · go_wp2_with fail
      go_meet
      exact ⟨rfl, by rw [HS.out]; rfl⟩
    · go_wp2_with fail
      go_meet
      exact ⟨rfl, by rw [HS.out]; rfl⟩
  case rest =>
    obtain ⟨rfl, rfl⟩ := hcut
    clear hwi
    go_wp2_with fail
    go_loop [8, 10, 11] (fun s8 s10 s11 => ∃ i : Nat, i ≤ n ∧ s8 = .string (strB (hexW f i v)) ∧ s10 = .int .u64 (v / 16 ^ i : Nat) ∧ s11 = .int .i64 i) (fun _ _ s11 => n - (intOf s11).toNat)
    case atStart => exact ⟨0, Nat.zero_le _, rfl, by rw [Nat.pow_zero, Nat.div_one], rfl⟩
    case round =>
      obtain ⟨i, hi, rfl, rfl, rfl⟩ := hrel
      by_cases hlt : i < n
      · obtain ⟨x, hx⟩ : ∃ x, v / 16 ^ i = x := ⟨_, rfl⟩
        have hxv : x < 18446744073709551616 := by rw [← hx]; exact Nat.lt_of_le_of_lt (Nat.div_le_self _ _) hv
        have hxn := hid (show v / 16 ^ (i + 1) = x / 16 by rw [Nat.pow_succ, ← Nat.div_div_eq_div_mul, hx])
        have hh := hid (show hexW f (i + 1) v = f (x % 16) :: hexW f i v by rw [hexW, hx])
        obtain ⟨q, hq⟩ : ∃ q, x / 16 = q := ⟨_, rfl⟩
        obtain ⟨r, hr⟩ : ∃ r, x % 16 = r := ⟨_, rfl⟩
        rw [hx]
        have hqI : (x : Int) / 16 = (q : Int) := by omega
        have hrI : (x : Int) % 16 = (r : Int) := by omega
        have hr16 : r < 16 := by omega
        have hsl := HR.out r hr16
        rw [hq] at hxn
        rw [hr] at hh
        have hwr : IntKind.u64.wrap ((r : Int) + 1) = (r : Int) + 1 := IntWalk.u64_in _ ⟨by omega, by omega⟩
        obtain ⟨s1, hs1⟩ : ∃ s1, strB [f r] = s1 := ⟨_, rfl⟩
        obtain ⟨s2, hs2⟩ : ∃ s2, strB (hexW f i v) = s2 := ⟨_, rfl⟩
        have hcat : ¬ (9223372036854775807 < s1.size + s2.size) := by
          have h1 : s1.size = 1 := by rw [← hs1, strB_size]; rfl
          have h2 : s2.size = i := by rw [← hs2, strB_size, hexW_length]
          omega
        have HS3 := hid (show s1 ++ s2 = strB (hexW f (i + 1) v) by rw [← hs1, ← hs2, hh.out]; exact strB_cons _ _)
        rw [hs1] at hsl
        rw [hs2]
        clear hx hq hr hs1 hs2
        go_wp2_with fail
        go_round
        case rel => exact ⟨i + 1, by omega, congrArg Value.string HS3.out, by rw [hxn.out], by go_num⟩
        case measure => simp [intOf]; omega
      · obtain rfl : i = n := by omega
        obtain ⟨s2, hs2⟩ : ∃ s2, strB (hexW f i v) = s2 := ⟨_, rfl⟩
        obtain ⟨t, ht⟩ : ∃ t, (⟨#[48, 120]⟩ : ByteArray) ++ s2 = t := ⟨_, rfl⟩
        have hc256 : ∀ c, c ∈ (48 :: 120 :: hexW f i v) → c < 256 := by
          intro c hc
          rcases List.mem_cons.1 hc with rfl | hc
          · omega
          rcases List.mem_cons.1 hc with rfl | hc
          · omega
          exact hexW_byte HF2.out i v c hc
        have hbt : byt t = 48 :: 120 :: hexW f i v := by
          rw [← ht, ← hs2, show (⟨#[48, 120]⟩ : ByteArray) = strB [48, 120] by decide, strB_append]
          exact byt_strB _ hc256
        have hts : t.size = i + 2 := by rw [← byt_length, hbt]; simp [hexW_length]
        have hs2z : s2.size = i := by rw [← hs2, strB_size, hexW_length]
        have hcat : ¬ (9223372036854775807 < 2 + s2.size) := by omega
        have hcat' : ¬ (9223372036854775807 < (⟨#[48, 120]⟩ : ByteArray).size + s2.size) := by show ¬ (9223372036854775807 < 2 + s2.size); omega
        have HP := hid (parse_ok t (by omega))
        rw [hbt] at HP
        rw [hs2]
        clear hs2 hc256 hbt hts hs2z
        go_wp2_with fail
        refine (HP.out _).mono ?_
        rintro e w2 ⟨x, rfl, hE⟩
        by_cases h17 : i = 17
        · subst h17
          unfold ParseOut at hE
          rw [parse_hexed_long HF.out v] at hE
          obtain ⟨y, rfl, bx, rfl, -, hB, hK2⟩ := hE
          have HB := hid hB
          have HK2 := hid hK2
          clear hB hK2
          go_wp2_with fail
          refine (no_ok _ _ _ _).mono ?_
          rintro e w4 ⟨fb, rfl, hF, hfb, hK4⟩
          have HF4 := hid hF
          have HK4 := hid hK4
          clear hF hK4
          go_wp2_with fail
          refine (same_hit bx fb sWord 18 6 (by decide) (by decide) _ (HG.out.keptN (HK2.out.trans HK4.out)) (HB.out.keptN HK4.out) HF4.out).mono ?_
          rintro e w5 ⟨rfl, hK5⟩
          have HK5 := hid hK5
          clear hK5
          go_wp2_with fail
          refine (awake_ok _ (HG.out.keptN ((HK2.out.trans HK4.out).trans HK5.out))).mono ?_
          rintro e w6 ⟨rfl, hK6⟩
          have HK6 := hid hK6
          clear hK6
          go_wp2_with fail
          go_ret
          exact ⟨rfl, ((HK2.out.trans HK4.out).trans HK5.out).trans HK6.out⟩
        · unfold ParseOut at hE
          rw [parse_hexed HF.out hn1 (by omega) hv] at hE
          obtain ⟨rfl, rfl⟩ := hE
          by_cases h16 : i = 16
          · subst h16
            rw [Nat.mod_eq_of_lt (show v < 16 ^ 16 from hv)]
            go_wp2_with fail
            refine (awake_ok _ HG.out).mono ?_
            rintro e w6 ⟨rfl, hK6⟩
            have HK6 := hid hK6
            clear hK6
            go_wp2_with fail
            go_ret
            exact ⟨rfl, HK6.out⟩
          · have hi15 : i < 16 := by omega
            obtain ⟨g, hg⟩ : ∃ g, 16 ^ i = g := ⟨_, rfl⟩
            have hg1 : 0 < g := by rw [← hg]; exact Nat.pow_pos (by omega)
            have hg2 : g ≤ 1152921504606846976 := by
              have h4 : (16 : Nat) ^ i ≤ 16 ^ 15 := Nat.pow_le_pow_right (by omega) (by omega)
              rw [hg] at h4
              exact h4
            have hpow : IntKind.u64.wrap (2 ^ (4 * i)) = (g : Int) := by
              have h2 : ((2 : Int) ^ (4 * i)) = (g : Int) := by
                rw [Int.pow_mul, ← hg, Int.natCast_pow]
                rfl
              rw [h2]
              exact IntWalk.u64_in _ ⟨by omega, by omega⟩
            have hg0 : (g : Int) ≠ 0 := by omega
            rw [hg]
            clear hg
            go_wp2_with fail
            refine (awake_ok _ HG.out).mono ?_
            rintro e w6 ⟨rfl, hK6⟩
            have HK6 := hid hK6
            clear hK6
            go_wp2_with fail
            go_ret
            exact ⟨rfl, HK6.out⟩

theorem hex_law (a : Int) (large : Bool) (m : Int) (w : World) (hg : Laid w) (h0 : 0 ≤ a) (h1 : a ≤ 18446744073709551615) (hm0 : -9223372036854775808 ≤ m) (hm1 : m ≤ 9223372036854775807) :
    Calls Tryd.prog 6 #[.int .u64 a, .bool large, .int .i64 m] w fun e w' => e = .returned (.bool true) ∧ Kept [] w w' := by
  obtain ⟨v, rfl⟩ : ∃ v : Nat, a = (v : Int) := ⟨a.toNat, by omega⟩
  have hv : v < 18446744073709551616 := by omega
  cases large with
  | false => exact hex_main v false m w hg hv hm0 hm1 sLow lowF rfl (fun r hr W => run_hex sLow rfl lowF low_cut r hr W) lowF_dig (fun d hd => by unfold lowF; split <;> omega)
  | true => exact hex_main v true m w hg hv hm0 hm1 sUp upF rfl (fun r hr W => run_hex sUp rfl upF up_cut r hr W) upF_dig (fun d hd => by unfold upF; split <;> omega)

end Go.Proofs.YtbiiggligcfklaaDoor
