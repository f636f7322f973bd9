/- The document's Print; the laws WordPrints, WordBuckets. -/
import Derived.Test.YtbiiggligcfklaaDoorWordA
import Derived.Laws.DeepStrings4
namespace Go.Proofs.YtbiiggligcfklaaDoor
open Go Go.RowKit

theorem run_ten (r : Nat) (hr : r < 10) (W : World) : (Instr.slice 9 (.string ⟨#[48, 49, 50, 51, 52, 53, 54, 55, 56, 57]⟩) (some (.int .u64 (r : Int))) (some (.int .u64 ((r : Int) + 1))) none).run Tryd.prog W = .ok (.string (strB [48 + r])) W := by
  rw [run_slice_string_if W 9 _ .u64 .u64 (r : Int) ((r : Int) + 1) Tryd.underlying9, if_pos, if_pos]
  · have h1 : (r : Int).toNat = r := by omega
    have h2 : ((r : Int) + 1).toNat = r + 1 := by omega
    rw [h1, h2]
    exact congrArg (fun x => Result.ok (Value.string x) W) (ten_cut r hr)
  · omega
  · constructor
    · omega
    · show (r : Int) + 1 ≤ ((10 : Nat) : Int)
      omega

set_option maxRecDepth 100000 in
set_option maxHeartbeats 400000 in
theorem rprint_ok (v : Nat) (hv : v < 18446744073709551616) (w : World) :
    Calls Tryd.prog 11 #[.int .u64 v] w fun e w' => e = .returned (.string (strB (dec v))) ∧ w = w' := by
  have hd20 := dec_20 hv
  obtain ⟨D, hD⟩ : ∃ D, dec v = D := ⟨_, rfl⟩
  rw [hD] at hd20 ⊢
  have HD := hid hD
  clear hD
  go_enter Tryd.func11, Tryd.ntmps11
  go_wp2_with fail
  go_loop [0, 3] (fun s0 s3 => ∃ (u : Nat) (l : List Nat), s0 = .int .u64 u ∧ s3 = .string (strB l) ∧ dec u ++ l = D ∧ u < 18446744073709551616) (fun s0 _ => (intOf s0).toNat)
  case atStart => exact ⟨v, [], rfl, rfl, by rw [List.append_nil]; exact HD.out, hv⟩
  case round =>
    obtain ⟨u, l, rfl, rfl, hDl, hu⟩ := hrel
    obtain ⟨q, hq⟩ : ∃ q, u / 10 = q := ⟨_, rfl⟩
    obtain ⟨r, hr⟩ : ∃ r, u % 10 = r := ⟨_, rfl⟩
    have hqI : (u : Int) / 10 = (q : Int) := by omega
    have hrI : (u : Int) % 10 = (r : Int) := by omega
    have hr10 : r < 10 := by omega
    have hsl := run_ten r hr10
    have hql : q < 18446744073709551616 := by omega
    have hqu : q ≠ 0 → q < u := by omega
    have HDL := hid hDl
    have HU := hid (show dec u = if q = 0 then [48 + r] else dec q ++ [48 + r] by
      by_cases h : u < 10
      · have h0 : q = 0 := by omega
        have h1 : r = u := by omega
        rw [if_pos h0, dec_small h, h1]
      · have h0 : q ≠ 0 := by omega
        rw [if_neg h0, dec_large h, hq, hr])
    obtain ⟨s1, hs1⟩ : ∃ s1, strB [48 + r] = s1 := ⟨_, rfl⟩
    obtain ⟨s2, hs2⟩ : ∃ s2, strB l = s2 := ⟨_, rfl⟩
    obtain ⟨s3, hs3⟩ : ∃ s3, s1 ++ s2 = s3 := ⟨_, rfl⟩
    have HS3 := hid (show s3 = strB ((48 + r) :: l) by rw [← hs3, ← hs1, ← hs2]; exact strB_cons _ _)
    have hcat : ¬ (9223372036854775807 < s1.size + s2.size) := by
      have h1 : s1.size = 1 := by rw [← hs1, strB_size]; rfl
      have h2 : s2.size = l.length := by rw [← hs2, strB_size]
      have h3 := congrArg List.length HDL.out
      rw [List.length_append] at h3
      omega
    have hcat' : s1.size + s2.size ≤ 9223372036854775807 := by omega
    rw [hs1] at hsl
    rw [hs2]
    clear hDl hq hr hs1 hs2
    by_cases h0 : q = 0
    · subst h0
      have hwr : IntKind.u64.wrap ((r : Int) + 1) = (r : Int) + 1 := IntWalk.u64_in _ ⟨by omega, by omega⟩
      go_wp2_with fail
      go_ret
      have hD := HDL.out
      rw [HU.out, if_pos trivial] at hD
      exact ⟨by rw [← hD]; exact congrArg (fun x => Ending.returned (Value.string x)) HS3.out, rfl⟩
    · have h0' : ((q : Int) == 0) = false := by simp; omega
      have HH0 := hid h0
      have hlt := hqu h0
      have hwr : IntKind.u64.wrap ((r : Int) + 1) = (r : Int) + 1 := IntWalk.u64_in _ ⟨by omega, by omega⟩
      clear h0 hqu
      go_wp2_with fail
      go_round
      case rel => exact ⟨q, (48 + r) :: l, rfl, congrArg Value.string HS3.out, by
        have := HDL.out
        rw [HU.out, if_neg HH0.out, List.append_assoc] at this
        exact this, hql⟩
      case measure => simp [intOf]; omega

set_option maxHeartbeats 1000000 in
theorem prints_law (a : Int) (w : World) (hg : Laid w) (h0 : 0 ≤ a) (h1 : a ≤ 18446744073709551615) :
    Calls Tryd.prog 3 #[.int .u64 a] w fun e w' => e = .returned (.bool true) ∧ Kept [] w w' := by
  obtain ⟨v, rfl⟩ : ∃ v : Nat, a = (v : Int) := ⟨a.toNat, by omega⟩
  have hv : v < 18446744073709551616 := by omega
  have HG := hid hg
  clear hg
  go_enter Tryd.func3, Tryd.ntmps3
  go_wp2_with fail
  refine (print_ok v hv _).mono ?_
  rintro e w1 ⟨rfl, hK1⟩
  have HK1 := hid hK1
  clear hK1
  go_wp2_with fail
  refine (rprint_ok v hv _).mono ?_
  rintro e w2 ⟨rfl, rfl⟩
  go_wp2_with fail
  refine (awake_ok _ (HG.out.keptN HK1.out)).mono ?_
  rintro e w3 ⟨rfl, hK3⟩
  have HK3 := hid hK3
  clear hK3
  go_wp2_with fail
  go_ret
  exact ⟨rfl, HK1.out.trans HK3.out⟩

set_option maxHeartbeats 1000000 in
theorem buckets_law (a n : Int) (w : World) (hg : Laid w) (h0 : 0 ≤ a) (h1 : a ≤ 18446744073709551615) (h2 : -9223372036854775808 ≤ n) (h3 : n ≤ 9223372036854775807) :
    Calls Tryd.prog 9 #[.int .u64 a, .int .i64 n] w fun e w' => e = .returned (.bool true) ∧ Kept [] w w' := by
  obtain ⟨v, rfl⟩ : ∃ v : Nat, a = (v : Int) := ⟨a.toNat, by omega⟩
  have HG := hid hg
  clear hg
  by_cases hn : n < 1
  · go_enter Tryd.func9, Tryd.ntmps9
    go_wp2_with fail
    refine (bucket_none v n hn _).mono ?_
    rintro e w1 ⟨rfl, rfl⟩
    go_wp2_with fail
    refine (rbucket_none v n hn _).mono ?_
    rintro e w1 ⟨rfl, rfl⟩
    go_wp2_with fail
    refine (awake_ok _ HG.out).mono ?_
    rintro e w3 ⟨rfl, hK3⟩
    have HK3 := hid hK3
    clear hK3
    go_wp2_with fail
    go_ret
    exact ⟨rfl, HK3.out⟩
  · obtain ⟨m, rfl⟩ : ∃ m : Nat, n = (m : Int) := ⟨n.toNat, by omega⟩
    have hm : 1 ≤ m := by omega
    have hm2 : m ≤ 9223372036854775807 := by omega
    have hlt := bktN_lt v hm
    have hok1 := hid (bucket_ok v m hm hm2)
    have hok2 := hid (rbucket_ok v m hm hm2)
    generalize bktN v m = k at *
    have q1 : (0 : Int) ≤ (k : Int) := by omega
    have q2 : (k : Int) < (m : Int) := by omega
    clear hn
    go_enter Tryd.func9, Tryd.ntmps9
    go_wp2_with fail
    refine (hok1.out _).mono ?_
    rintro e w1 ⟨rfl, rfl⟩
    go_wp2_with fail
    refine (hok2.out _).mono ?_
    rintro e w1 ⟨rfl, rfl⟩
    go_wp2_with fail
    refine (awake_ok _ HG.out).mono ?_
    rintro e w3 ⟨rfl, hK3⟩
    have HK3 := hid hK3
    clear hK3
    go_wp2_with fail
    go_ret
    exact ⟨rfl, HK3.out⟩

end Go.Proofs.YtbiiggligcfklaaDoor
