/- package ring: the law RingDrops. -/
import Derived.Test.YtccfkpopjapmnaaDoorRingNews
namespace Go.Proofs.YtccfkpopjapmnaaDoor
open Go Go.RowKit

/-- The argument's values. -/
def argL (g : Nat → Nat → Int) (k : Nat) : List Int := (List.range k).map fun i => g i 0
theorem argL_length (g : Nat → Nat → Int) (k : Nat) : (argL g k).length = k := by simp [argL]
theorem argL_snoc (g : Nat → Nat → Int) (k : Nat) : argL g k ++ [g k 0] = argL g (k + 1) := by simp [argL, List.range_succ]
theorem argL_get (g : Nat → Nat → Int) {k i : Nat} (h : i < k) : (argL g k)[i]? = some (g i 0) := by simp [argL, h]

/-- The first one that is v, so far. -/
def FirstIs (g : Nat → Nat → Int) (v : Int) (k : Nat) (F : Int) : Prop :=
  (F = -1 ∧ ∀ j, j < k → g j 0 ≠ v) ∨ (∃ p : Nat, F = p ∧ p < k ∧ g p 0 = v ∧ ∀ j, j < p → g j 0 ≠ v)

set_option maxRecDepth 100000 in
set_option maxHeartbeats 4000000 in
theorem drops_law (a : Option Addr) (len cap : Nat) (g : Nat → Nat → Int) (v : Int) (w : World) (hg : Laid w) (hA : IntRows w a len [.u64] g) :
    Calls Tryd.prog 6 #[.slice a len cap, .int .u64 v] w fun e w' => e = .returned (.bool true) ∧ Kept [] w w' := by
  have HG := hid hg
  have HAR := hid hA
  have hlen : len ≤ 9223372036854775807 := by have := hA.small; unfold maxLen at this; omega
  clear hg hA
  go_enter Tryd.func6, Tryd.ntmps6
  go_wp2_with fail
  refine (new_ok 100 (by decide) (by decide) w).mono ?_
  rintro e w1 ⟨b, bl, rfl, hb, hbl, hR, hK⟩
  have HR1 := hid hR
  have HK1 := hid hK
  clear hR hK
  by_cases hbig : 100 < len
  · go_wp2_with fail
    refine (awake_ok _ (HG.out.keptN HK1.out)).mono ?_
    rintro e w7 ⟨rfl, hK7⟩
    have HK7 := hid hK7
    clear hK7
    go_wp2_with fail
    go_ret
    exact ⟨rfl, HK1.out.trans HK7.out⟩
  · go_wp2_with fail
    go_loopw [7, 8] (fun s7 i wr => ∃ (k : Nat) (F : Int), k ≤ len ∧ s7 = .int .i64 F ∧ i = .int .i64 k ∧ FirstIs g v k F ∧ RingAt wr b bl 100 0 (argL g k) ∧ Kept [] w wr) (fun _ i _ => len - (intOf i).toNat)
    case atStart => exact ⟨0, -1, Nat.zero_le _, rfl, rfl, .inl ⟨rfl, fun j hj => by omega⟩, HR1.out, HK1.out⟩
    case round =>
      obtain ⟨k, F, hk, rfl, rfl, hF, hR, hK⟩ := hrel
      have HR := hid hR
      have HK := hid hK
      have HF := hid hF
      clear hR hK hF
      by_cases hlt : k < len
      · obtain ⟨ba, offa, rfl, hba, hca⟩ := HAR.out.cell k hlt
        have hca0 := hca 0 .u64 rfl
        simp only [List.length_cons, List.length_nil, Nat.zero_add, Nat.mul_one, Nat.add_zero] at hca0
        have hc0 := HK.out.cellSome hca0 (by simp)
        have HC0 := hid hca0
        obtain ⟨x, hx⟩ : ∃ x, g k 0 = x := ⟨_, rfl⟩
        rw [hx] at hc0
        have HX := hid hx
        clear hca hca0 hx
        go_wp2_with fail
        refine (put_ok HR.out (by rw [argL_length]; omega) x).mono ?_
        rintro e w3 ⟨rfl, hR, hK⟩
        rw [← HX.out, argL_snoc] at hR
        have HR3 := hid hR
        have HK3 := hid (HK.out.trans' hK (by simp; omega))
        have hc3 := HK3.out.cellSome HC0.out (by simp)
        rw [HX.out] at hc3
        clear hR hK hc0
        by_cases hxv : x = v
        · have hxb : (x == v) = true := by simpa using hxv
          have HXV := hid hxv
          clear hxv
          by_cases hF0 : F < 0
          · have hF' := hid (show F = -1 ∧ ∀ j, j < k → g j 0 ≠ v by
              rcases HF.out with h | ⟨p, rfl, h⟩
              · exact h
              · omega)
            go_wp2_with fail
            go_roundw
            case rel => exact ⟨k + 1, k, by omega, rfl, by go_num, .inr ⟨k, rfl, by omega, by rw [HX.out, HXV.out], hF'.out.2⟩, HR3.out, HK3.out⟩
            case measure => simp [intOf]; omega
          · have hF' := hid (show FirstIs g v (k + 1) F by
              rcases HF.out with ⟨rfl, _⟩ | ⟨p, rfl, h1, h2, h3⟩
              · omega
              · exact .inr ⟨p, rfl, by omega, h2, h3⟩)
            go_wp2_with fail
            go_roundw
            case rel => exact ⟨k + 1, F, by omega, rfl, by go_num, hF'.out, HR3.out, HK3.out⟩
            case measure => simp [intOf]; omega
        · have hxb : (x == v) = false := by simpa using hxv
          have hF' := hid (show FirstIs g v (k + 1) F by
            rcases HF.out with ⟨h0, h1⟩ | ⟨p, h0, h1, h2, h3⟩
            · refine .inl ⟨h0, fun j hj => ?_⟩
              rcases Nat.lt_succ_iff_lt_or_eq.1 hj with hj | hj
              · exact h1 j hj
              · subst hj; rw [HX.out]; exact hxv
            · exact .inr ⟨p, h0, by omega, h2, h3⟩)
          clear hxv
          go_wp2_with fail
          go_roundw
          case rel => exact ⟨k + 1, F, by omega, rfl, by go_num, hF'.out, HR3.out, HK3.out⟩
          case measure => simp [intOf]; omega
      · obtain rfl : k = len := by omega
        obtain ⟨L, hL⟩ : ∃ L, argL g k = L := ⟨_, rfl⟩
        have HL := hid hL
        rw [hL] at HR
        clear hL
        have hmem := hid (show decide (v ∈ L) = decide (0 ≤ F) by
          rw [← HL.out]
          rcases HF.out with ⟨rfl, h⟩ | ⟨p, rfl, h1, h2, h3⟩
          · rw [decide_eq_false, decide_eq_false (by omega)]
            intro hm
            simp only [argL, List.mem_map, List.mem_range] at hm
            obtain ⟨j, hj, e⟩ := hm
            exact h j hj e
          · rw [decide_eq_true, decide_eq_true (by omega)]
            simp only [argL, List.mem_map, List.mem_range]
            exact ⟨p, h1, h2⟩)
        go_wp2_with fail
        refine (drop_ok HR.out v).mono ?_
        rintro e w3 ⟨rfl, hR, hK⟩
        rw [hmem.out]
        have HR3 := hid hR
        have HK3 := hid (HK.out.trans' hK (by simp; omega))
        clear hR hK
        have hF1 : (decide (0 ≤ F) != decide (0 ≤ F)) = false := by simp
        go_wp2_with fail
        refine (all_ok HR3.out 1000 (by decide)).mono ?_
        rintro e w4 ⟨vl, rfl, hV, hK⟩
        have hll := HL.out ▸ argL_length g k
        have hle : (L.erase v).length ≤ k := by have := List.length_erase_le (a := v) (l := L); omega
        rw [List.take_of_length_le (by have : (1000 : Int).toNat = 1000 := rfl; omega)] at hV
        have HV := hid hV
        have HK4 := hid (HK3.out.trans hK)
        obtain ⟨aV, cV, rfl⟩ := own_form' hV
        clear hV hK hll
        -- where each of the argument's stands behind the drop
        have hpos := hid (show (F = -1 ∧ (L.erase v).length = k ∧ ∀ j, j < k → (L.erase v)[j]? = some (g j 0)) ∨ (∃ p : Nat, F = p ∧ p < k ∧ (L.erase v).length + 1 = k ∧ (∀ j, j < p → (L.erase v)[j]? = some (g j 0)) ∧ (∀ j, p < j → j < k → (L.erase v)[j - 1]? = some (g j 0))) by
          rw [← HL.out]
          rcases HF.out with ⟨rfl, h⟩ | ⟨p, rfl, h1, h2, h3⟩
          · have hno : ∀ j : Nat, (argL g k)[j]? ≠ some v := by
              intro j hj
              have hjk : j < k := by have := (List.getElem?_eq_some_iff.1 hj).1; rwa [argL_length] at this
              rw [argL_get g hjk] at hj
              exact h j hjk (Option.some.inj hj)
            rw [(erase_none hno).1]
            exact .inl ⟨rfl, argL_length g k, fun j hj => argL_get g hj⟩
          · have hp : (argL g k)[p]? = some v := by rw [argL_get g h1, h2]
            rw [erase_at (argL g k) v p hp (fun j hj => by rw [argL_get g (by omega)]; exact fun e => h3 j hj (Option.some.inj e))]
            refine .inr ⟨p, rfl, h1, ?_, ?_, ?_⟩
            · rw [List.length_eraseIdx, argL_length, if_pos h1]; omega
            · intro j hj
              rw [List.getElem?_eraseIdx, if_pos hj, argL_get g (by omega)]
            · intro j hj hjk
              rw [List.getElem?_eraseIdx, if_neg (by omega), show j - 1 + 1 = j by omega, argL_get g hjk])
        obtain ⟨D, hD⟩ : ∃ D, L.erase v = D := ⟨_, rfl⟩
        rw [hD] at HV hle hpos ⊢
        obtain ⟨nd, hnd⟩ : ∃ nd, D.length = nd := ⟨_, rfl⟩
        rw [hnd] at HV hle hpos ⊢
        clear hD hnd
        go_wp2_with fail
        go_loopw [11, 12] (fun s11 s12 wr => ∃ (c j : Nat), c ≤ nd ∧ j ≤ k ∧ s11 = .int .i64 c ∧ s12 = .int .i64 j ∧ c = (if 0 ≤ F ∧ F < j then j - 1 else j) ∧ ∃ m, wr = w4.drewN m) (fun _ s12 _ => k - (intOf s12).toNat)
        case atStart => exact ⟨0, 0, Nat.zero_le _, Nat.zero_le _, rfl, rfl, by split <;> rfl, 0, rfl⟩
        case round =>
          obtain ⟨c, j, hc, hj, rfl, rfl, hcj, m, rfl⟩ := hrel
          have HCJ := hid hcj
          clear hcj
          by_cases hjk : j < k
          · by_cases hjF : (j : Int) = F
            · have hjb : ((j : Int) == F) = true := by simpa using hjF
              have HJF := hid hjF
              clear hjF
              go_wp2_with fail
              go_roundw
              case rel => exact ⟨c, j + 1, hc, by omega, rfl, by go_num, by
                have e1 := HCJ.out
                have e2 := HJF.out
                rw [if_neg (by omega)] at e1
                rw [if_pos (by omega)]
                omega, m, rfl⟩
              case measure => simp [intOf]; omega
            · have hjb : ((j : Int) == F) = false := by simpa using hjF
              have hDc : c < nd ∧ D[c]? = some (g j 0) := by
                have e1 := HCJ.out
                rcases hpos.out with ⟨e2, e3, e4⟩ | ⟨p, e2, e3, e4, e5, e6⟩
                · rw [if_neg (by omega)] at e1
                  subst e1
                  exact ⟨by omega, e4 _ hjk⟩
                · by_cases hpj : p < j
                  · rw [if_pos (by omega)] at e1
                    subst e1
                    exact ⟨by omega, e6 _ hpj hjk⟩
                  · rw [if_neg (by omega)] at e1
                    subst e1
                    exact ⟨by omega, e5 _ (by omega)⟩
              obtain ⟨hcn, hDj⟩ := hDc
              obtain ⟨ba, offa, rfl, hba, hca⟩ := HAR.out.cell j hjk
              have hca0 := hca 0 .u64 rfl
              simp only [List.length_cons, List.length_nil, Nat.zero_add, Nat.mul_one, Nat.add_zero] at hca0
              have d1 := HK4.out.cellSome hca0 (by simp)
              obtain ⟨gV, eV, d0⟩ : ∃ gV, aV = some ⟨gV, 0, none⟩ ∧ w4.cell? ⟨gV, c, none⟩ = some (.int .u64 (g j 0)) := by
                obtain ⟨k', rfl⟩ : ∃ k', nd = k' + 1 := ⟨nd - 1, by omega⟩
                obtain ⟨gV, c', e1, -⟩ := own_form HV.out
                cases e1
                exact ⟨gV, rfl, own_cell HV.out (GV_get hDj)⟩
              subst eV
              generalize g j 0 = x at d0 d1
              have HJF := hid hjF
              clear hca hca0 hDj hjF
              go_wp2_with fail
              go_quiet (fail)
              go_wp2_with fail
              go_roundw
              case rel => exact ⟨c + 1, j + 1, by omega, by omega, by go_num, by go_num, by
                have e1 := HCJ.out
                have e2 := HJF.out
                by_cases e3 : 0 ≤ F ∧ F < j
                · rw [if_pos e3] at e1
                  rw [if_pos (by omega)]
                  omega
                · rw [if_neg e3] at e1
                  rw [if_neg (by omega)]
                  omega, _, rfl⟩
              case measure => simp [intOf]; omega
          · obtain rfl : j = k := by omega
            have hcn : ((c : Int) == (nd : Int)) = true := by
              have e1 := HCJ.out
              have : c = nd := by
                rcases hpos.out with ⟨e2, e3, e4⟩ | ⟨p, e2, e3, e4, e5, e6⟩
                · rw [if_neg (by omega)] at e1; omega
                · rw [if_pos (by omega)] at e1; omega
              simp [this]
            go_wp2_with fail
            refine (awake_ok _ (HG.out.keptN (HK4.out.drewN m))).mono ?_
            rintro e w7 ⟨rfl, hK7⟩
            have HK7 := hid hK7
            clear hK7
            go_wp2_with fail
            go_ret
            exact ⟨rfl, (HK4.out.drewN m).trans HK7.out⟩

end Go.Proofs.YtccfkpopjapmnaaDoor
