/- package ring: Drop. -/
import Derived.Test.YtccfkpopjapmnaaDoorRing
import Derived.Test.YtccfkpopjapmnaaDoorLib2
namespace Go.Proofs.YtccfkpopjapmnaaDoor
open Go Go.RowKit

theorem erase_at : ∀ (L : List Int) (v : Int) (i : Nat), L[i]? = some v → (∀ j, j < i → L[j]? ≠ some v) → L.erase v = L.eraseIdx i
  | [], v, i, h, _ => by simp at h
  | x :: L, v, 0, h, _ => by
    simp at h
    subst h
    simp
  | x :: L, v, i + 1, h, hb => by
    have hx : x ≠ v := fun e => hb 0 (by omega) (by simp [e])
    rw [List.erase_cons_tail (by simpa using hx), List.eraseIdx_cons_succ]
    rw [erase_at L v i (by simpa using h) (fun j hj => by have := hb (j + 1) (by omega); simpa using this)]

theorem erase_none {L : List Int} {v : Int} (hb : ∀ j : Nat, L[j]? ≠ some v) : L.erase v = L ∧ ¬ v ∈ L := by
  have : ¬ v ∈ L := fun h => by obtain ⟨j, hj⟩ := List.getElem?_of_mem h; exact hb j hj
  exact ⟨List.erase_of_not_mem this, this⟩

theorem at_ok' {w : World} {b bl M fr : Nat} {L : List Int} (h : RingAt w b bl M fr L) (i : Nat) (hi : i < M) (iv : Int) (he : iv = (i : Int)) :
    Calls Tryd.prog 25 #[.pointer (some ⟨b, 0, none⟩), .int .i64 iv] w fun e w' => e = .returned (.pointer (some ⟨bl, (fr + i) % M, none⟩)) ∧ ∃ m, w' = w.drewN m := by
  subst he
  exact at_ok h i hi

set_option maxRecDepth 100000 in
set_option maxHeartbeats 2000000 in
theorem drop_ok {w : World} {b bl M fr : Nat} {L : List Int} (h : RingAt w b bl M fr L) (v : Int) :
    Calls Tryd.prog 17 #[.pointer (some ⟨b, 0, none⟩), .int .u64 v] w fun e w' => e = .returned (.bool (decide (v ∈ L))) ∧ RingAt w' b bl M fr (L.erase v) ∧ Kept [b, bl] w w' := by
  have c2 := h.c2
  have hM := h.small
  have hne := h.ne
  have hlen := h.len
  obtain ⟨n, hn⟩ : ∃ n, L.length = n := ⟨_, rfl⟩
  rw [hn] at c2 hlen
  have HN := hid hn
  have H := hid h
  clear h hn
  go_enter Tryd.func17, Tryd.ntmps17
  go_wp2_with fail
  go_loopw [11] (fun i wr => ∃ k : Nat, k ≤ n ∧ i = .int .i64 k ∧ (∀ j, j < k → L[j]? ≠ some v) ∧ ∃ m, wr = w.drewN m) (fun i _ => n - (intOf i).toNat)
  case atStart => exact ⟨0, Nat.zero_le _, rfl, fun j hj => by omega, 0, rfl⟩
  case round =>
    obtain ⟨k, hk, rfl, hb, m, rfl⟩ := hrel
    have HB := hid hb
    clear hb
    by_cases hlt : k < n
    · obtain ⟨x, hx⟩ : ∃ x, L[k]? = some x := ⟨_, List.getElem?_eq_getElem (by rw [HN.out]; exact hlt)⟩
      have H1 := hid (H.out.keptN ((Kept.refl _ _).drewN m))
      have HX := hid hx
      clear hx
      by_cases e : x = v
      · have hxv : (x != v) = false := by simpa using e
        have HE := hid e
        clear e
        go_wp2_with fail
        refine (at_ok H1.out k (by omega)).mono ?_
        rintro e w2 ⟨rfl, hm⟩
        have HK2 := hid (Kept.drawn (S := [b, bl]) hm)
        have H2 := hid (H1.out.keptN (Kept.drawn hm))
        have d0 := H2.out.cell HX.out
        clear hm c2
        go_wp2_with fail
        go_loopw [6] (fun s6 wr => ∃ (kk : Nat) (X : List Int), k ≤ kk ∧ kk + 1 ≤ n ∧ s6 = .int .i64 kk ∧ RingAt wr b bl M fr X ∧ X.length = n ∧ (∀ j, X[j]? = if k ≤ j ∧ j < kk then L[j + 1]? else L[j]?) ∧ Kept [b, bl] w2 wr) (fun s6 _ => n - (intOf s6).toNat)
        case atStart => exact ⟨k, L, Nat.le_refl _, by omega, rfl, H2.out, HN.out, fun j => by rw [if_neg (by omega)], Kept.refl _ _⟩
        case round =>
          obtain ⟨kk, X, hk1, hk2, rfl, hR, hXn, hXj, hKr⟩ := hrel
          have HR := hid hR
          have HXN := hid hXn
          have HXJ := hid hXj
          have HKR := hid hKr
          have e2 := hR.c2
          rw [hXn] at e2
          have z2 := hR.head.frozen 2
          clear hR hXn hXj hKr d0
          by_cases hin : kk + 1 < n
          · obtain ⟨y, hy⟩ : ∃ y, L[kk + 1]? = some y := ⟨_, List.getElem?_eq_getElem (by rw [HN.out]; exact hin)⟩
            have hXy : X[kk + 1]? = some y := by rw [HXJ.out, if_neg (by omega)]; exact hy
            have HY := hid hy
            have HXY := hid hXy
            clear hy hXy
            go_wp2_with fail
            refine (at_ok HR.out kk (by omega)).mono ?_
            rintro e w4 ⟨rfl, hm4⟩
            have HK4 := hid (Kept.drawn (S := [b, bl]) hm4)
            have H4 := hid (HR.out.keptN (Kept.drawn hm4))
            clear hm4 e2
            go_wp2_with fail
            refine (at_ok' H4.out (kk + 1) (by omega) _ (by omega)).mono ?_
            rintro e w5 ⟨rfl, hm5⟩
            have HK5 := hid (Kept.drawn (S := [b, bl]) hm5)
            have H5 := hid (H4.out.keptN (Kept.drawn hm5))
            clear hm5
            have d1 := H5.out.cell HXY.out
            obtain ⟨u, d2⟩ := H5.out.any kk
            have z3 := H5.out.froz ((fr + kk) % M)
            have hset := hid (H5.out.set (i := kk) (by omega) y)
            go_wp2_with fail
            go_roundw
            case rel =>
              refine ⟨kk + 1, X.set kk y, by omega, by omega, by go_num, hset.out, by rw [List.length_set]; exact HXN.out, ?_, ((HKR.out.trans HK4.out).trans HK5.out).setCell (.inl (by simp)) _⟩
              intro j
              by_cases ej : j = kk
              · subst ej
                rw [List.getElem?_set_self (by rw [HXN.out]; omega), if_pos (by omega), HY.out]
              · rw [List.getElem?_set_ne (fun e' => ej e'.symm), HXJ.out]
                by_cases e1 : k ≤ j ∧ j < kk
                · rw [if_pos e1, if_pos (by omega)]
                · rw [if_neg e1, if_neg (by omega)]
            case measure => simp [intOf]; omega
          · obtain ⟨n', rfl⟩ : ∃ n', n = n' + 1 := ⟨n - 1, by omega⟩
            have hless := hid (HR.out.less HXN.out)
            go_wp2_with fail
            go_ret
            have hmem : v ∈ L := List.mem_of_getElem? (i := k) (by rw [HX.out, HE.out])
            refine ⟨by rw [decide_eq_true hmem]; rfl, ?_, ?_⟩
            · have e3 : L.erase v = X.take n' := by
                rw [erase_at L v k (by rw [HX.out, HE.out]) HB.out]
                apply List.ext_getElem?
                intro j
                rw [List.getElem?_eraseIdx, List.getElem?_take, HXJ.out]
                have hL := HN.out
                by_cases e4 : j < n'
                · rw [if_pos e4]
                  by_cases e5 : j < k
                  · rw [if_pos e5, if_neg (by omega)]
                  · rw [if_neg e5, if_pos (by omega)]
                · rw [if_neg e4]
                  by_cases e5 : j < k
                  · omega
                  · rw [if_neg e5, List.getElem?_eq_none (by omega)]
              rw [e3]
              exact hless.out
            · exact ((((Kept.refl [b, bl] w).drewN m).trans HK2.out).trans HKR.out).setCell (.inl (by simp)) _
      · have hxv : (x != v) = true := by simpa using e
        have HE := hid e
        clear e
        go_wp2_with fail
        refine (at_ok H1.out k (by omega)).mono ?_
        rintro e w2 ⟨rfl, hm⟩
        have H2 := hid (H1.out.keptN (Kept.drawn hm))
        have d0 := H2.out.cell HX.out
        have HM := hid hm
        clear hm c2
        go_wp2_with fail
        go_roundw
        case rel =>
          refine ⟨k + 1, by omega, by go_num, ?_, ?_⟩
          · intro j hj
            rcases Nat.lt_succ_iff_lt_or_eq.1 hj with hj | hj
            · exact HB.out j hj
            · subst hj
              rw [HX.out]
              exact fun e => HE.out (Option.some.inj e)
          · obtain ⟨m2, rfl⟩ := HM.out
            exact ⟨m + m2, World.drewN_drewN ..⟩
        case measure => simp [intOf]; omega
    · have hnone := hid (erase_none (L := L) (v := v) (fun j => by
        by_cases hj : j < k
        · exact HB.out j hj
        · rw [List.getElem?_eq_none (by have := HN.out; omega)]; simp))
      go_wp2_with fail
      go_ret
      refine ⟨by rw [decide_eq_false hnone.out.2]; rfl, ?_, (Kept.refl _ _).drewN m⟩
      rw [hnone.out.1]
      exact H.out.keptN ((Kept.refl _ _).drewN m)

end Go.Proofs.YtccfkpopjapmnaaDoor
