/- package waitq: both queues tell the same: same. -/
import Derived.Test.YtenahekdhepnfaaDoorWaitI
import Derived.Test.YtenahekdhepnfaaDoorWaitB
import Derived.Test.YtenahekdhepnfaaDoorWords
import Derived.Test.YtenahekdhepnfaaDoorOpen
namespace Go.Proofs.YtenahekdhepnfaaDoor
open Go Go.RowKit

/-- Both queues tell the same. -/
structure BothQ (w0 : World) (qb lb mb rb n : Nat) (Q : List Slp) (w : World) : Prop where
  ex : ∃ U, WaitsAt w qb lb mb n Q ∧ RQIs w rb U Q n ∧ (∀ x, x ∈ qb :: owned lb mb Q → x ∉ U) ∧ (∀ x, x ∈ qb :: owned lb mb Q → w0.heap.size ≤ x) ∧ ∀ x, x ∈ U → w0.heap.size ≤ x
  kept : Kept [] w0 w
theorem BothQ.keptN {w0 w w' : World} {qb lb mb rb n : Nat} {Q : List Slp} (h : BothQ w0 qb lb mb rb n Q w) (k : Kept [] w w') : BothQ w0 qb lb mb rb n Q w' := by
  obtain ⟨U, h1, h2, h3⟩ := h.ex
  exact ⟨⟨U, h1.keptN k, h2.keptN k, h3⟩, h.kept.trans k⟩
theorem WaitsAt.all_lt {w : World} {qb lb mb n : Nat} {Q : List Slp} (h : WaitsAt w qb lb mb n Q) : ∀ x, x ∈ qb :: owned lb mb Q → x < w.heap.size := by
  intro x hx
  rcases List.mem_cons.1 hx with rfl | hx
  · exact h.lists.head.lt
  · exact h.owned_lt x hx
/-- A call of the queues, then the like one of the document's. -/
theorem BothQ.step {w0 w w1 w2 : World} {qb lb mb rb n : Nat} {Q Q' : List Slp} {U U' : List Nat} (hk : Kept [] w0 w) (hU : ∀ x, x ∈ U → x < w.heap.size) (hTU : ∀ x, x ∈ qb :: owned lb mb Q → x ∉ U) (hT0 : ∀ x, x ∈ qb :: owned lb mb Q → w0.heap.size ≤ x) (hU0 : ∀ x, x ∈ U → w0.heap.size ≤ x)
    (c1 : WaitsAt w1 qb lb mb n Q') (hT' : ∀ x, x ∈ owned lb mb Q' → x ∈ owned lb mb Q ∨ w.heap.size ≤ x) (k1 : Kept (owned lb mb Q) w w1) (c2 : RQIs w2 rb U' Q' n) (hU' : ∀ x, x ∈ U' → x ∈ U ∨ w1.heap.size ≤ x) (k2 : Kept U w1 w2) : BothQ w0 qb lb mb rb n Q' w2 := by
  have hs := hk.size
  have hs1 := k1.size
  have hT'' : ∀ x, x ∈ qb :: owned lb mb Q' → x ∈ qb :: owned lb mb Q ∨ w.heap.size ≤ x := fun x hx => by
    rcases List.mem_cons.1 hx with rfl | hx
    · exact .inl (by simp)
    · rcases hT' x hx with h | h
      · exact .inl (List.mem_cons_of_mem _ h)
      · exact .inr h
  have hd : ∀ x, x ∈ qb :: owned lb mb Q' → x ∉ U := fun x hx hu => by
    rcases hT'' x hx with h1 | h1
    · exact hTU x h1 hu
    · have := hU x hu; omega
  refine ⟨⟨U', c1.kept k2 (hd qb (by simp)) (fun x hx => hd x (List.mem_cons_of_mem _ hx)), c2, fun x hx hu => ?_, fun x hx => ?_, fun x hx => ?_⟩, (hk.trans' k1 (fun x hx => .inr (hT0 x (List.mem_cons_of_mem _ hx)))).trans' k2 (fun x hx => .inr (hU0 x hx))⟩
  · rcases hU' x hu with h1 | h1
    · exact hd x hx h1
    · have := c1.all_lt x hx; omega
  · rcases hT'' x hx with h1 | h1
    · exact hT0 x h1
    · omega
  · rcases hU' x hx with h1 | h1
    · exact hU0 x h1
    · omega

theorem tell_any {w : World} {qb lb mb n : Nat} {Q : List Slp} (h : WaitsAt w qb lb mb n Q) (hn : 1 ≤ n) (b : Int) (hQ : Q.length ≤ 1000000) :
    Calls Tryd.prog 11 #[.pointer (some ⟨qb, 0, none⟩), .int .i64 b] w fun e w' => ∃ v, e = .returned v ∧ w'.ownsRow w.heap.size 36 1 v (inB Q n b).length (GV (idsOf (inB Q n b))) ∧ Kept [] w w' := by
  by_cases hb : b < 0 ∨ (n : Int) ≤ b
  · rw [inB_bad Q n hn b hb]
    refine (tell_bad h b hb).mono ?_
    rintro e w1 ⟨rfl, rfl⟩
    exact ⟨_, rfl, World.ownsRow_nil _ _ _ _, Kept.refl _ _⟩
  · obtain ⟨c, rfl⟩ : ∃ c : Nat, b = (c : Int) := ⟨b.toNat, by omega⟩
    rw [inB_nat]
    exact tell_ok h c (by omega) hQ

set_option maxRecDepth 100000 in
set_option maxHeartbeats 4000000 in
theorem qsame_ok {w : World} {qb lb mb rb n : Nat} {Q : List Slp} {U : List Nat} (hW : WaitsAt w qb lb mb n Q) (hR : RQIs w rb U Q n) (hn1 : 1 ≤ n) (hn2 : n ≤ 64) (hQ : Q.length ≤ 100000) :
    Calls Tryd.prog 20 #[.pointer (some ⟨qb, 0, none⟩), .pointer (some ⟨rb, 0, none⟩)] w fun e w' => e = .returned (.bool true) ∧ Kept [] w w' := by
  have HW := hid hW
  have HR := hid hR
  obtain ⟨v, -, h⟩ := hR
  obtain ⟨m, hm⟩ : ∃ m, Q.length = m := ⟨_, rfl⟩
  have hrow := h.row
  rw [hm] at hQ hrow
  obtain ⟨av, cv, rfl⟩ := own_form' hrow
  have HC0 := hid (h.head.cell (o := 0) rfl)
  have HC1 := hid (h.head.cell (o := 1) rfl)
  have HM := hid hm
  have HLE := hid (fun b => show (inB Q n b).length ≤ m from Nat.le_trans (List.length_filter_le _ _) (by omega))
  clear h hm hrow hW
  go_enter Tryd.func20, Tryd.ntmps20
  go_wp2_with fail
  go_loopw [5] (fun s5 wr => ∃ b : Int, -1 ≤ b ∧ b ≤ (n : Int) + 1 ∧ s5 = .int .i64 b ∧ Kept [] w wr) (fun s5 _ => ((n : Int) + 1 - intOf s5).toNat)
  case atStart => exact ⟨-1, by omega, by omega, rfl, Kept.refl _ _⟩
  case round =>
    obtain ⟨b, hb0, hb1, rfl, hK⟩ := hrel
    have HK := hid hK
    have c0 := hK.cellSome HC0.out (by simp)
    have c1 := hK.cellSome HC1.out (by simp)
    clear hK
    by_cases hbn : b ≤ (n : Int)
    · have HTE := hid (tell_any (HW.out.keptN HK.out) hn1 b (by rw [HM.out]; omega))
      have HRE := hid (fun (W : World) (hK : Kept [] wr W) => rbuck_ok ((HR.out.keptN HK.out).keptN hK) (by rw [HM.out]; omega) hn1 hn2 b)
      have hLE := HLE.out b
      go_wp2_with fail
      refine HTE.out.mono ?_
      rintro e w4 ⟨v4, rfl, hv4, hK4⟩
      obtain ⟨a4, q4, rfl⟩ := own_form' hv4
      have HV4 := hid hv4
      have HK4 := hid hK4
      clear hv4 hK4
      go_wp2_with fail
      refine (HRE.out _ HK4.out).mono ?_
      rintro e w5 ⟨v5, rfl, hv5, hK5⟩
      obtain ⟨a5, q5, rfl⟩ := own_form' hv5
      have HWO := hid (words_ok (.slice a4 (inB Q n b).length q4) (.slice a5 (inB Q n b).length q5) (inB Q n b).length (idsOf (inB Q n b)) (by omega) _ (own_src (own_keptN HV4.out hK5)) (own_src hv5))
      have HK5 := hid (HK4.out.trans hK5)
      clear hv5 hK5
      go_wp2_with fail
      refine HWO.out.mono ?_
      rintro e w6 ⟨rfl, hK6⟩
      have HK6 := hid ((HK.out.trans HK5.out).trans hK6)
      clear hK6
      go_wp2_with fail
      go_roundw
      case rel => exact ⟨b + 1, by omega, by omega, by go_num, HK6.out⟩
      case measure => simp [intOf]; omega
    · have HLN := hid (fun (W : World) (hK : Kept [] wr W) => len_ok ((HW.out.keptN HK.out).keptN hK))
      rw [HM.out] at HLN
      have hme : ((m : Int) == (m : Int)) = true := by simp
      go_wp2_with fail
      go_region_held3 (fun w' => w'.cell? ⟨rb, 0, none⟩ = some (.slice av m cv)) (first | exact c0) (first | (go_at_call 10; refine (HLN.out _ ((Kept.refl [] _).drew)).mono ?_; rintro e w6 ⟨rfl, rfl⟩))
      go_wp2_with fail
      go_ret
      exact ⟨rfl, HK.out.drew⟩

end Go.Proofs.YtenahekdhepnfaaDoor
