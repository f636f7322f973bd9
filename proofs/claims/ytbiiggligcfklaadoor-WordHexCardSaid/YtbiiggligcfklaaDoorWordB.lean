/- The law WordBack. -/
import Derived.Test.YtbiiggligcfklaaDoorWordS
import Derived.Test.YtbiiggligcfklaaDoorKeep
namespace Go.Proofs.YtbiiggligcfklaaDoor
open Go Go.RowKit

theorem isHex_digits {l : List Nat} (h : ∀ c, c ∈ l → 48 ≤ c ∧ c ≤ 57) : isHex l = false := by
  cases e : isHex l with
  | false => rfl
  | true =>
    unfold isHex at e
    simp at e
    have := h 120 (List.mem_of_getElem? e.2)
    omega
theorem digW_digit {c : Nat} (h : 48 ≤ c ∧ c ≤ 57) : digW c < 10 := by unfold digW; rw [if_pos h]; omega
theorem parseW_digits {l : List Nat} (h : ∀ c, c ∈ l → 48 ≤ c ∧ c ≤ 57) (h0 : l.length ≠ 0) (h1 : l.length ≤ 20) (h2 : foldW 10 0 l ≤ MaxW) : parseW l = .ok (foldW 10 0 l) := by
  unfold parseW
  rw [isHex_digits h, if_neg (by simp), if_neg h0]
  exact parseFrom_ok (by omega) l 0 0 (fun c hc => digW_digit (h c hc)) (by omega) h2
theorem parseW_longer {l : List Nat} (h : ∀ c, c ∈ l → 48 ≤ c ∧ c ≤ 57) (h1 : 20 < l.length) : ∃ p, parseW l = .error p := by
  unfold parseW
  rw [isHex_digits h, if_neg (by simp), if_neg (by omega)]
  exact parseFrom_err l 0 0 (by omega) (by omega)
theorem fold_noughts (k : Nat) (l : List Nat) : foldW 10 0 (List.replicate k 48 ++ l) = foldW 10 0 l := by
  induction k with
  | zero => simp
  | succ k ih => rw [List.replicate_succ, List.cons_append, foldW_cons]; exact ih
theorem strB_append (l m : List Nat) : strB l ++ strB m = strB (l ++ m) := by
  apply ByteArray.ext
  simp [strB, strOfNums]
def sNoughts : ByteArray := ⟨#[48, 48, 48, 48, 48, 48, 48, 48, 48, 48, 48, 48, 48, 48, 48, 48, 48, 48, 48, 48]⟩
theorem noughts_cut : ∀ k : Nat, k < 21 → sNoughts.extract 0 k = strB (List.replicate k 48) := by decide
theorem run_noughts (k : Nat) (hk : k < 21) (W : World) : (Instr.slice 9 (.string ⟨#[48, 48, 48, 48, 48, 48, 48, 48, 48, 48, 48, 48, 48, 48, 48, 48, 48, 48, 48, 48]⟩) none (some (.int .i64 (k : Int))) none).run Tryd.prog W = .ok (.string (strB (List.replicate k 48))) W := by
  rw [run_slice_string_to_if W 9 _ .i64 (k : Int) Tryd.underlying9, if_pos]
  · have h2 : ((k : Int)).toNat = k := by omega
    rw [h2]
    exact congrArg (fun x => Result.ok (Value.string x) W) (noughts_cut k hk)
  · constructor
    · omega
    · show (k : Int) ≤ ((20 : Nat) : Int)
      omega

theorem byt_dec (v : Nat) : byt (strB (dec v)) = dec v := byt_strB _ (fun c hc => by have := dec_digit v c hc; omega)

set_option maxRecDepth 100000 in
set_option maxHeartbeats 1000000 in
theorem back_law (a m : Int) (w : World) (hg : Laid w) (h0 : 0 ≤ a) (h1 : a ≤ 18446744073709551615) (hm0 : -9223372036854775808 ≤ m) (hm1 : m ≤ 9223372036854775807) :
    Calls Tryd.prog 5 #[.int .u64 a, .int .i64 m] w fun e w' => e = .returned (.bool true) ∧ Kept [] w w' := by
  obtain ⟨v, rfl⟩ : ∃ v : Nat, a = (v : Int) := ⟨a.toNat, by omega⟩
  have hv : v < 18446744073709551616 := by omega
  have HG := hid hg
  have HPR := hid (print_ok v hv)
  have hl1 := dec_pos v
  have hl2 := dec_20 hv
  obtain ⟨s, hs⟩ : ∃ s, strB (dec v) = s := ⟨_, rfl⟩
  have hsz : s.size = (dec v).length := by rw [← hs, strB_size]
  have hby : byt s = dec v := by rw [← hs]; exact byt_dec v
  have hp0 : 0 < s.size := by omega
  have hget := byt_get hp0
  rw [hby] at hget
  have hpar := hid (show parseW (byt s) = .ok v by
    rw [hby, parseW_digits (dec_digit v) (by omega) hl2 (by rw [dec_fold]; unfold MaxW; omega), dec_fold])
  rw [hs] at HPR
  have hwi := hid (within_ok m 21 (by decide) hm0 hm1 (by decide))
  have hq0 := Int.emod_nonneg m (show (21 : Int) ≠ 0 by decide)
  have hq1 := Int.emod_lt_of_pos m (show (0 : Int) < 21 by decide)
  obtain ⟨k, hk⟩ : ∃ k : Nat, m % 21 = (k : Int) := ⟨(m % 21).toNat, by omega⟩
  rw [hk] at hwi hq1
  have hk21 : k < 21 := by omega
  have hsl := run_noughts k hk21
  obtain ⟨z, hz⟩ : ∃ z, strB (List.replicate k 48) = z := ⟨_, rfl⟩
  have hzs : z.size = k := by rw [← hz, strB_size]; simp
  rw [hz] at hsl
  obtain ⟨t, ht⟩ : ∃ t, z ++ s = t := ⟨_, rfl⟩
  have hbt : byt t = List.replicate k 48 ++ dec v := by
    rw [← ht, ← hz, ← hs, strB_append]
    refine byt_strB _ (fun c hc => ?_)
    rcases List.mem_append.1 hc with h | h
    · rw [(List.mem_replicate.1 h).2]; omega
    · have := dec_digit v c h; omega
  have hts : t.size = k + s.size := by rw [← byt_length, hbt, List.length_append, hsz]; simp
  have hdg : ∀ c, c ∈ byt t → 48 ≤ c ∧ c ≤ 57 := by
    rw [hbt]
    intro c hc
    rcases List.mem_append.1 hc with h | h
    · rw [(List.mem_replicate.1 h).2]; omega
    · exact dec_digit v c h
  have HD := hid hdg
  have HBT := hid hbt
  have hcat : ¬ (9223372036854775807 < z.size + s.size) := by omega
  have HV0 := hid (show ((s[0]'hp0).toNat = 48 → v = 0) from fun e => Classical.byContradiction fun hne => dec_head v hne (by rw [hget, e]))
  have HTS := hid hts
  have hs20 : s.size ≤ 20 := by omega
  have hs1 : 1 ≤ s.size := by omega
  have HP := hid (parse_ok s (by omega))
  have HPT := hid (parse_ok t (by omega))
  have hn1 : ¬ (s.size < 1) := by omega
  clear hs hsz hby hget hk hz hbt hts hdg hg h0 h1 hl1 hl2 hzs
  go_enter Tryd.func5, Tryd.ntmps5
  go_wp2_with fail
  refine (HPR.out _).mono ?_
  rintro e w1 ⟨rfl, hK1⟩
  have HK1 := hid hK1
  clear hK1
  go_wp2_with fail
  refine (hwi.out _).mono ?_
  rintro e w2 ⟨rfl, rfl⟩
  go_wp2_with fail
  refine (HP.out _).mono ?_
  rintro e w2 ⟨x, rfl, hE⟩
  unfold ParseOut at hE
  rw [hpar.out] at hE
  obtain ⟨rfl, rfl⟩ := hE
  by_cases h48 : (s[0]'hp0).toNat = 48
  · obtain rfl := HV0.out h48
    have q0 : (((s[0]'hp0).toNat : Nat) : Int) = 48 := by omega
    clear h48
    go_wp2_with fail
    by_cases hlen : k + s.size ≤ 20
    · have hpt := hid (show parseW (byt t) = .ok 0 by
        rw [parseW_digits HD.out (by rw [byt_length, HTS.out]; omega) (by rw [byt_length, HTS.out]; exact hlen) (by rw [HBT.out, fold_noughts, dec_fold]; unfold MaxW; omega), HBT.out, fold_noughts, dec_fold])
      refine (HPT.out _).mono ?_
      rintro e w2 ⟨x, rfl, hE⟩
      unfold ParseOut at hE
      rw [hpt.out] at hE
      obtain ⟨rfl, rfl⟩ := hE
      have hts := HTS.out
      have hle : t.size ≤ 20 := by omega
      clear hts
      go_wp2_with fail
      refine (awake_ok _ (HG.out.keptN HK1.out)).mono ?_
      rintro e w3 ⟨rfl, hK3⟩
      have HK3 := hid hK3
      clear hK3
      go_wp2_with fail
      go_ret
      exact ⟨rfl, HK1.out.trans HK3.out⟩
    · obtain ⟨pp, hpp⟩ := parseW_longer HD.out (by rw [byt_length, HTS.out]; omega)
      have hpt := hid hpp
      clear hpp
      refine (HPT.out _).mono ?_
      rintro e w2 ⟨x, rfl, hE⟩
      unfold ParseOut at hE
      rw [hpt.out] at hE
      obtain ⟨y, rfl, bx, rfl, -, hB, hK2⟩ := hE
      have HK2 := hid hK2
      have hts := HTS.out
      have hle : ¬ t.size ≤ 20 := by omega
      clear hts hB hK2
      go_wp2_with fail
      refine (awake_ok _ (HG.out.keptN (HK1.out.trans HK2.out))).mono ?_
      rintro e w3 ⟨rfl, hK3⟩
      have HK3 := hid hK3
      clear hK3
      go_wp2_with fail
      go_ret
      exact ⟨rfl, (HK1.out.trans HK2.out).trans HK3.out⟩
  · have q0 : ¬ (((s[0]'hp0).toNat : Nat) : Int) = 48 := by omega
    clear h48
    go_wp2_with fail
    by_cases hlen : k + s.size ≤ 20
    · have hpt := hid (show parseW (byt t) = .ok v by
        rw [parseW_digits HD.out (by rw [byt_length, HTS.out]; omega) (by rw [byt_length, HTS.out]; exact hlen) (by rw [HBT.out, fold_noughts, dec_fold]; unfold MaxW; omega), HBT.out, fold_noughts, dec_fold])
      refine (HPT.out _).mono ?_
      rintro e w2 ⟨x, rfl, hE⟩
      unfold ParseOut at hE
      rw [hpt.out] at hE
      obtain ⟨rfl, rfl⟩ := hE
      have hts := HTS.out
      have hle : t.size ≤ 20 := by omega
      clear hts
      go_wp2_with fail
      refine (awake_ok _ (HG.out.keptN HK1.out)).mono ?_
      rintro e w3 ⟨rfl, hK3⟩
      have HK3 := hid hK3
      clear hK3
      go_wp2_with fail
      go_ret
      exact ⟨rfl, HK1.out.trans HK3.out⟩
    · obtain ⟨pp, hpp⟩ := parseW_longer HD.out (by rw [byt_length, HTS.out]; omega)
      have hpt := hid hpp
      clear hpp
      refine (HPT.out _).mono ?_
      rintro e w2 ⟨x, rfl, hE⟩
      unfold ParseOut at hE
      rw [hpt.out] at hE
      obtain ⟨y, rfl, bx, rfl, -, hB, hK2⟩ := hE
      have HK2 := hid hK2
      have hts := HTS.out
      have hle : ¬ t.size ≤ 20 := by omega
      clear hts hB hK2
      go_wp2_with fail
      refine (awake_ok _ (HG.out.keptN (HK1.out.trans HK2.out))).mono ?_
      rintro e w3 ⟨rfl, hK3⟩
      have HK3 := hid hK3
      clear hK3
      go_wp2_with fail
      go_ret
      exact ⟨rfl, (HK1.out.trans HK2.out).trans HK3.out⟩

end Go.Proofs.YtbiiggligcfklaaDoor
