/- package clock: the law ClockOff. -/
import Derived.Test.YtcaikpfdhdbioaaDoorClockW
import Derived.Test.YtcaikpfdhdbioaaDoorClockD
import Derived.Test.YtcaikpfdhdbioaaDoorKeep
import Derived.Test.YtcaikpfdhdbioaaDoorOpen
import Derived.Deep.DeepCutAuto
import Derived.Deep.CutBlock
namespace Go.Proofs.YtcaikpfdhdbioaaDoor
open Go Go.RowKit

def offS (f : Nat → Bool) (n : Nat) : List Th := ((List.range n).filter fun j => !f j).map fun j => ⟨3, j + 1, j + 1⟩
theorem offS_mem {f : Nat → Bool} {n : Nat} {t : Th} (h : t ∈ offS f n) : ∃ j, j < n ∧ t = ⟨3, j + 1, j + 1⟩ := by
  obtain ⟨j, hj, rfl⟩ := List.mem_map.1 h
  have := (List.mem_filter.1 hj).1
  exact ⟨j, by simpa using this, rfl⟩
theorem offS_keep {f : Nat → Bool} {n : Nat} (h : f n = false) : offS f (n + 1) = offS f n ++ [⟨3, n + 1, n + 1⟩] := by simp [offS, List.range_succ, h]
theorem offS_drop {f : Nat → Bool} {n : Nat} (h : f n = true) : offS f (n + 1) = offS f n := by simp [offS, List.range_succ, h]
theorem off_ins (f : Nat → Bool) (n : Nat) : insT ⟨3, n + 1, n + 1⟩ (offS f n) = offS f n ++ [⟨3, n + 1, n + 1⟩] := by
  have h := ins_at (t := ⟨3, n + 1, n + 1⟩) (A := offS f n) (B := []) ?_ (by simp)
  · rw [List.append_nil] at h
    exact h
  · intro a ha
    obtain ⟨j, hj, rfl⟩ := offS_mem ha
    simp [Ah]
    omega
theorem off_out (f : Nat → Bool) (n : Nat) : outT (n + 1) (offS f n ++ [⟨3, n + 1, n + 1⟩]) = offS f n := by
  unfold outT
  rw [List.filter_append, List.filter_cons_of_neg (by simp), List.filter_nil, List.append_nil, List.filter_eq_self]
  intro a ha
  obtain ⟨j, hj, rfl⟩ := offS_mem ha
  simp
  omega
theorem offS_len (f : Nat → Bool) (n : Nat) : (offS f n).length ≤ n := by
  unfold offS
  rw [List.length_map]
  exact Nat.le_trans (List.length_filter_le _ _) (by simp)
theorem off_none' {w : World} {cb : Nat} {T : List Nat} {S : List Th} {last now : Nat} (h : ClockIs w cb T S last now) (x : Nat) (hx : x < 18446744073709551616) (hno : ∀ t, t ∈ S → t.x ≠ x) (xv : Int) (e : xv = x) :
    Calls Tryd.prog 9 #[.pointer (some ⟨cb, 0, none⟩), .int .u64 xv] w fun e w' => e = .returned (.bool false) ∧ Kept [] w w' := by
  subst e
  exact off_none h x hx hno
theorem off_some' {w : World} {cb : Nat} {T : List Nat} {S : List Th} {last now : Nat} (h : ClockIs w cb T S last now) (hS : S.length ≤ 100000) (hla : last ≤ 1000001) {t : Th} (ht : t ∈ S) (xv : Int) (e : xv = t.x) :
    Calls Tryd.prog 9 #[.pointer (some ⟨cb, 0, none⟩), .int .u64 xv] w fun e w' => e = .returned (.bool true) ∧ ∃ T', ClockIs w' cb T' (outT t.h S) last now ∧ (∀ x, x ∈ T' → x ∈ T) ∧ Kept T w w' := by
  subst e
  exact off_some h hS hla ht
theorem arm_never' {w : World} {cb : Nat} {T : List Nat} {S : List Th} {last now : Nat} (h : ClockIs w cb T S last now) (id : Nat) (h0 : id ≠ 0) (hi : id < 18446744073709551616) (hno : ∀ t, t ∈ S → t.x ≠ id) (xv : Int) (e : xv = id) :
    Calls Tryd.prog 6 #[.pointer (some ⟨cb, 0, none⟩), .int .u64 xv, .int .u64 18446744073709551615] w fun e w' => e = .returned .nilIface ∧ Kept [] w w' := by
  subst e
  exact arm_never h id h0 hi hno
theorem arm_twice' {w : World} {cb : Nat} {T : List Nat} {S : List Th} {last now : Nat} (h : ClockIs w cb T S last now) {t : Th} (ht : t ∈ S) (h0 : t.x ≠ 0) (d : Nat) (xv dv : Int) (e : xv = t.x) (e2 : dv = d) :
    Calls Tryd.prog 6 #[.pointer (some ⟨cb, 0, none⟩), .int .u64 xv, .int .u64 dv] w fun e w' => ∃ v, e = .returned v ∧ ErrOut sClock 0 8 w v w' := by
  subst e; subst e2
  exact arm_twice h ht h0 d

set_option maxRecDepth 100000 in
set_option maxHeartbeats 4000000 in
theorem off_law (aA : Option Addr) (len cA : Nat) (f : Nat → Bool) (ticks : Int) (w : World) (hg : Laid w) (hA : BoolsAt w aA len f) (t0 : -9223372036854775808 ≤ ticks) (t1 : ticks ≤ 9223372036854775807) :
    Calls Tryd.prog 3 #[.slice aA len cA, .int .i64 ticks] w fun e w' => e = .returned (.bool true) ∧ Kept [] w w' := by
  have hlen : len ≤ 9223372036854775807 := by have := hA.small; unfold maxLen at this; omega
  obtain ⟨n, hn⟩ : ∃ n, min len 30 = n := ⟨_, rfl⟩
  have hn30 : n ≤ 30 := by omega
  have hnl : n ≤ len := by omega
  have HA := hid hA
  have HG := hid hg
  have HW := hid (within_ok ticks 8 (by decide) t0 t1 (by decide))
  obtain ⟨k, hk⟩ : ∃ k : Nat, ticks % 8 = (k : Int) := ⟨(ticks % 8).toNat, by have := Int.emod_nonneg ticks (show (8 : Int) ≠ 0 by decide); omega⟩
  have hk8 : k < 8 := by have := Int.emod_lt_of_pos ticks (show (0 : Int) < 8 by decide); omega
  rw [hk] at HW
  clear hA hg hk t0 t1
  go_enter Tryd.func3, Tryd.ntmps3
  go_wp2_with fail
  refine (newclock_ok w).mono ?_
  rintro e w1 ⟨cb, T1, rfl, hT1, hC1, hK1⟩
  have HC1 := hid hC1
  have HT1 := hid hT1
  have HK1 := hid hK1
  clear hC1 hK1 hT1
  go_upto_region 4 with fail
  go_cut [5, 6] (fun s5 s6 wx => s5 = .pointer (some ⟨cb, 0, none⟩) ∧ s6 = .int .i64 n ∧ wx = w1)
  case first =>
    by_cases h30 : 30 < len
    · have E := hid (show n = 30 by omega)
      have h1 : (30 : Int) < (len : Int) := by omega
      clear hn h30
      go_wp2_with fail
      go_meet
      exact ⟨rfl, by rw [E.out]; rfl, rfl⟩
    · have E := hid (show n = len by omega)
      have h1 : ¬ (30 : Int) < (len : Int) := by omega
      clear hn h30
      go_wp2_with fail
      go_meet
      exact ⟨rfl, by rw [E.out], rfl⟩
  case rest =>
    obtain ⟨rfl, rfl, rfl⟩ := hcut
    clear hn
    go_wp2_with fail
    go_loopw [7, 8] (fun s7 s8 wr => ∃ (i want : Nat) (T : List Nat), i ≤ n ∧ s8 = .int .i64 i ∧ s7 = .int .i64 want ∧ want = (offS f i).length ∧ ClockIs wr cb T (offS f i) i 0 ∧ (∀ x, x ∈ T → w.heap.size ≤ x) ∧ Kept [] w wr) (fun _ s8 _ => n - (intOf s8).toNat)
    case atStart => exact ⟨0, 0, T1, Nat.zero_le _, rfl, rfl, rfl, HC1.out, HT1.out, HK1.out⟩
    case round =>
      obtain ⟨i, want, T, hi, rfl, rfl, hwant, hC, hT, hK⟩ := hrel
      have HC := hid hC
      have HT := hid hT
      have HK := hid hK
      have HWANT := hid hwant
      have hwl : want ≤ i := by rw [hwant]; exact offS_len f i
      have hsl := offS_len f i
      clear hC hT hK hwant
      by_cases hlt : i < n
      · obtain ⟨b, o, rfl, hb, hcell⟩ := HA.out.cell i (by omega)
        have HCELL := hid hcell
        have HA1 := hid (arm_ok' HC.out (by omega) (by omega) (i + 1) 3 (by omega) (by omega) (by decide) (fun t ht => by
          obtain ⟨j, hj, rfl⟩ := offS_mem ht; simp; omega) ((i : Int) + 1) 3 (by omega) rfl)
        rw [off_ins] at HA1
        clear hcell
        go_wp2_with fail
        refine HA1.out.mono ?_
        rintro e w2 ⟨rfl, T2, hC2, hT2, hK2⟩
        have HC2 := hid hC2
        have HT2 := hid (fresh_trans HT.out HK.out hT2)
        have HK2 := hid (HK.out.trans' hK2 (fun x hx => .inr (HT.out x hx)))
        clear hC2 hT2 hK2 HA1
        have hmem : (⟨3, i + 1, i + 1⟩ : Th) ∈ offS f i ++ [⟨3, i + 1, i + 1⟩] := List.mem_append.2 (.inr (List.mem_singleton.2 rfl))
        have HMEM := hid hmem
        have HA2 := hid (arm_twice' HC2.out hmem (by simp) 9 ((i : Int) + 1) 9 (by simp) rfl)
        clear hmem
        go_wp2_with fail
        refine HA2.out.mono ?_
        rintro e w3 ⟨v3, rfl, b3, rfl, hb3, hB3, hK3⟩
        have HB3 := hid hB3
        have HK3 := hid hK3
        clear hB3 hK3 HA2
        go_wp2_with fail
        refine (no_ok _ _ _ _).mono ?_
        rintro e w4 ⟨fb, rfl, hF4, hfb, hK4⟩
        have HF4 := hid hF4
        have HK4 := hid (HK3.out.trans hK4)
        have HB4 := hid (HB3.out.keptN hK4)
        clear hF4 hK4
        go_wp2_with fail
        refine (same_hit b3 fb sClock 0 8 (by decide) (by decide) _ (HG.out.keptN (HK2.out.trans HK4.out)) HB4.out HF4.out).mono ?_
        rintro e w5 ⟨rfl, hK5⟩
        have HK5 := hid (HK4.out.trans hK5)
        have HC5 := hid (HC2.out.keptN HK5.out)
        clear hK5
        have hno : ∀ t, t ∈ offS f i ++ [⟨3, i + 1, i + 1⟩] → t.x ≠ i + 101 := fun t ht => by
          rcases List.mem_append.1 ht with ht | ht
          · obtain ⟨j, hj, rfl⟩ := offS_mem ht; simp; omega
          · simp at ht; rw [ht]; simp
        have HNO := hid hno
        have HA3 := hid (arm_never' HC5.out (i + 101) (by omega) (by omega) hno ((i : Int) + 1 + 100) (by omega))
        clear hno
        go_wp2_with fail
        refine HA3.out.mono ?_
        rintro e w6 ⟨rfl, hK6⟩
        have HK6 := hid (HK5.out.trans hK6)
        have HC6 := hid (HC5.out.keptN hK6)
        have HA4 := hid (off_none' HC6.out (i + 101) (by omega) HNO.out ((i : Int) + 1 + 100) (by omega))
        clear hK6
        go_wp2_with fail
        refine HA4.out.mono ?_
        rintro e w7 ⟨rfl, hK7⟩
        have HK7 := hid (HK2.out.trans (HK6.out.trans hK7))
        have HC7 := hid (HC6.out.keptN hK7)
        have hcell := HK7.out.cellSome HCELL.out (by simp)
        have hl1 : (offS f i ++ [(⟨3, i + 1, i + 1⟩ : Th)]).length ≤ 100000 := by rw [List.length_append]; simp; omega
        clear hK7
        by_cases hf : f i = true
        · have HF := hid hf
          rw [hf] at hcell
          have HA5 := hid (off_some' HC7.out hl1 (by omega) HMEM.out ((i : Int) + 1) (by simp))
          simp only [off_out] at HA5
          clear hf hl1
          go_wp2_with fail
          refine HA5.out.mono ?_
          rintro e w8 ⟨rfl, T8, hC8, hT8, hK8⟩
          have HC8 := hid hC8
          have HT8 := hid (fun x (hx : x ∈ T8) => HT2.out x (hT8 x hx))
          have HK8 := hid (HK7.out.trans' hK8 (fun x hx => .inr (HT2.out x hx)))
          have HA6 := hid (off_none' hC8 (i + 1) (by omega) (fun t ht => by obtain ⟨j, hj, rfl⟩ := offS_mem ht; simp; omega) ((i : Int) + 1) (by omega))
          clear hC8 hT8 hK8 HA5
          go_wp2_with fail
          refine HA6.out.mono ?_
          rintro e w9 ⟨rfl, hK9⟩
          have HK9 := hid (HK8.out.trans hK9)
          have HC9 := hid (HC8.out.keptN hK9)
          clear hK9
          go_wp2_with fail
          go_roundw
          case rel => exact ⟨i + 1, want, T8, by omega, by go_num, rfl, by rw [offS_drop HF.out]; exact HWANT.out, by rw [offS_drop HF.out]; exact HC9.out, HT8.out, HK9.out⟩
          case measure => simp [intOf]; omega
        · have hf' : f i = false := by simpa using hf
          have HF := hid hf'
          rw [hf'] at hcell
          clear hf hf' hl1
          go_wp2_with fail
          go_roundw
          case rel => exact ⟨i + 1, want + 1, T2, by omega, by go_num, by go_num, by rw [offS_keep HF.out, List.length_append, ← HWANT.out]; rfl, by rw [offS_keep HF.out]; exact HC7.out, HT2.out, HK7.out⟩
          case measure => simp [intOf]; omega
      · obtain rfl : i = n := by omega
        obtain ⟨S, hS⟩ : ∃ S, offS f i = S := ⟨_, rfl⟩
        have HS3 := hid (fun t (ht : t ∈ S) => (show t.d = 3 by rw [← hS] at ht; obtain ⟨j, hj, rfl⟩ := offS_mem ht; rfl))
        rw [hS] at HC HWANT
        have HC' := hid HC.out
        clear hS hsl HC
        go_wp2_with fail
        refine (HW.out _).mono ?_
        rintro e w2 ⟨rfl, rfl⟩
        go_wp2_with fail
        go_loopw [11, 12] (fun s11 s12 wr => ∃ (u got : Nat) (T : List Nat), u ≤ k ∧ s12 = .int .i64 u ∧ s11 = .int .i64 got ∧ got = (if u < 3 then 0 else want) ∧ ClockIs wr cb T (if u < 3 then S else []) i u ∧ (∀ x, x ∈ T → w.heap.size ≤ x) ∧ Kept [] w wr) (fun _ s12 _ => k - (intOf s12).toNat)
        case atStart => exact ⟨0, 0, T, Nat.zero_le _, rfl, rfl, rfl, HC'.out, HT.out, HK.out⟩
        case round =>
          obtain ⟨u, got, T, hu, rfl, rfl, hgot, hC, hT, hK⟩ := hrel
          have HC := hid hC
          have HT := hid hT
          have HK := hid hK
          have HGOT := hid hgot
          have hgl : got ≤ 30 := by rw [hgot]; split <;> omega
          clear hC hT hK hgot
          by_cases hlt : u < k
          · have hsp : (if u < 3 then S else []) = (if u + 1 = 3 then S else []) ++ (if u + 1 < 3 then S else []) := by
              by_cases h1 : u + 1 < 3
              · rw [if_pos (by omega), if_neg (by omega), if_pos h1]; rfl
              · by_cases h2 : u + 1 = 3
                · rw [if_pos (by omega), if_pos h2, if_neg h1, List.append_nil]
                · rw [if_neg (by omega), if_neg h2, if_neg h1]; rfl
            have HC2 := hid HC.out
            rw [hsp] at HC2
            have hll : ((if u + 1 = 3 then S else []) ++ (if u + 1 < 3 then S else [])).length ≤ 100000 := by
              rw [← hsp]
              have := HWANT.out
              split
              · omega
              · simp
            have HTI := hid (tick_ok HC2.out hll (by omega) (by omega) (fun s hs => by
              split at hs
              · rename_i h3; have := HS3.out s hs; omega
              · cases hs) (fun s hs => by
              split at hs
              · rename_i h3; have := HS3.out s hs; omega
              · cases hs))
            obtain ⟨m, hm⟩ : ∃ m, (if u + 1 = 3 then S else []).length = m := ⟨_, rfl⟩
            rw [hm] at HTI
            have HM := hid (show got + m = (if u + 1 < 3 then 0 else want) by
              have h1 := HGOT.out
              have h2 := HWANT.out
              rw [← hm]
              by_cases h3 : u + 1 < 3
              · rw [if_pos h3, h1, if_pos (by omega), if_neg (by omega)]; rfl
              · rw [if_neg h3]
                by_cases h4 : u + 1 = 3
                · rw [if_pos h4, h1, if_pos (by omega)]; omega
                · rw [if_neg h4, h1, if_neg (by omega)]; rfl)
            have hml : got + m ≤ 30 := by have := HM.out; split at this <;> omega
            clear hsp hll hm
            go_wp2_with fail
            refine HTI.out.mono ?_
            rintro e w3 ⟨v3, T3, rfl, hC3, hT3, hR3, hK3⟩
            obtain ⟨a3, c3, rfl⟩ := own_form' hR3
            have HC3 := hid hC3
            have HT3 := hid (fun x (hx : x ∈ T3) => HT.out x (hT3 x hx))
            have HK3 := hid (HK.out.trans' hK3 (fun x hx => .inr (HT.out x hx)))
            clear hC3 hT3 hR3 hK3 HTI
            go_wp2_with fail
            go_roundw
            case rel => exact ⟨u + 1, got + m, T3, by omega, by go_num, by go_num, HM.out, HC3.out, HT3.out, HK3.out⟩
            case measure => simp [intOf]; omega
          · obtain rfl : u = k := by omega
            by_cases h3 : u < 3
            · have h3I : (u : Int) < 3 := by omega
              have hg0 : got = 0 := by rw [HGOT.out, if_pos h3]
              subst hg0
              have HC2 := hid HC.out
              rw [if_pos h3] at HC2
              have hwl2 := HWANT.out
              have HAR := hid (armed_ok HC2.out)
              rw [← hwl2] at HAR
              clear hwl2 h3
              go_wp2_with fail
              refine HAR.out.mono ?_
              rintro e w3 ⟨rfl, rfl⟩
              go_wp2_with fail
              refine (awake_ok _).mono ?_
              rintro e w5 ⟨rfl, hK5⟩
              have HK5 := hid hK5
              clear hK5
              go_wp2_with fail
              go_ret
              exact ⟨rfl, HK.out.trans HK5.out⟩
            · have h3I : ¬ (u : Int) < 3 := by omega
              have hg0 : got = want := by rw [HGOT.out, if_neg h3]
              subst hg0
              have HC2 := hid HC.out
              rw [if_neg h3] at HC2
              have HAR := hid (armed_ok HC2.out)
              clear h3
              go_wp2_with fail
              refine HAR.out.mono ?_
              rintro e w3 ⟨rfl, rfl⟩
              go_wp2_with fail
              refine (awake_ok _).mono ?_
              rintro e w5 ⟨rfl, hK5⟩
              have HK5 := hid hK5
              clear hK5
              go_wp2_with fail
              go_ret
              exact ⟨rfl, HK.out.trans HK5.out⟩

end Go.Proofs.YtcaikpfdhdbioaaDoor
