/- The document's queues (distaffref09): Put, Bucket, NewQueues, Move: contracts. -/
import Derived.Test.YtenahekdhepnfaaDoorWaitK
import Derived.Test.YtenahekdhepnfaaDoorSame
namespace Go.Proofs.YtenahekdhepnfaaDoor
open Go Go.RowKit

set_option maxRecDepth 100000 in
set_option maxHeartbeats 1000000 in
theorem rput_zero {w : World} {rb : Nat} {U : List Nat} {Q : List Slp} {n : Nat} (_ : RQIs w rb U Q n) (id addr mask : Nat) (hi : id = 0) :
    Calls Tryd.prog 35 #[.pointer (some ⟨rb, 0, none⟩), .int .u64 id, .int .u64 addr, .int .u64 mask] w fun e w' => ∃ b, e = .returned (.pointer (some ⟨b, 0, none⟩)) ∧ FailAt w' b sWaitq 0 1 ∧ Kept [] w w' := by
  subst hi
  go_enter Tryd.func35, Tryd.ntmps35
  go_wp2_with fail
  refine (no_ok _ _ _ _).mono ?_
  rintro e w2 ⟨b, rfl, hF, hb, hK⟩
  have HF := hid hF
  have HK := hid hK
  clear hF hK
  go_wp2_with fail
  go_ret
  exact ⟨b, rfl, HF.out, HK.out⟩
set_option maxRecDepth 100000 in
set_option maxHeartbeats 1000000 in
theorem rput_twice {w : World} {rb : Nat} {U : List Nat} {Q : List Slp} {n : Nat} (h : RQIs w rb U Q n) (hQ : Q.length ≤ 100000) (hnd : (Q.map (·.id)).Nodup) {s : Slp} (hs : s ∈ Q) (h0 : s.id ≠ 0) (addr mask : Nat) :
    Calls Tryd.prog 35 #[.pointer (some ⟨rb, 0, none⟩), .int .u64 s.id, .int .u64 addr, .int .u64 mask] w fun e w' => ∃ b, e = .returned (.pointer (some ⟨b, 0, none⟩)) ∧ FailAt w' b sWaitq 0 8 ∧ Kept [] w w' := by
  obtain ⟨p, hpl, hp, hbf⟩ := id_place hnd hs
  have HF := hid (rfind_some h hQ hpl hp hbf)
  have hid0 : ((s.id : Int) == 0) = false := by simp; exact h0
  have hp0 : (0 : Int) ≤ (p : Int) := by omega
  clear h hs hp hbf hnd
  go_enter Tryd.func35, Tryd.ntmps35
  go_wp2_with fail
  refine HF.out.mono ?_
  rintro e w1 ⟨rfl, rfl⟩
  go_wp2_with fail
  refine (no_ok _ _ _ _).mono ?_
  rintro e w2 ⟨b, rfl, hF, hb, hK⟩
  have HF2 := hid hF
  have HK := hid hK
  clear hF hK
  go_wp2_with fail
  go_ret
  exact ⟨b, rfl, HF2.out, HK.out⟩

set_option maxRecDepth 100000 in
set_option maxHeartbeats 2000000 in
theorem rput_ok {w : World} {rb : Nat} {U : List Nat} {Q : List Slp} {n : Nat} (h : RQIs w rb U Q n) (hQ : Q.length ≤ 100000) (id addr mask blk : Nat) (h0 : id ≠ 0) (hx : ∀ s, s ∈ Q → s.id ≠ id) :
    Calls Tryd.prog 35 #[.pointer (some ⟨rb, 0, none⟩), .int .u64 id, .int .u64 addr, .int .u64 mask] w fun e w' => e = .returned (.pointer none) ∧ ∃ U', RQIs w' rb U' (Q ++ [⟨id, addr, mask, blk⟩]) n ∧ (∀ y, y ∈ U' → y ∈ U ∨ w.heap.size ≤ y) ∧ Kept U w w' := by
  have HF := hid (rfind_none h hQ id hx)
  have hid0 : ((id : Int) == 0) = false := by simp; exact h0
  obtain ⟨v, rfl, h⟩ := h
  obtain ⟨m, hm⟩ : ∃ m, Q.length = m := ⟨_, rfl⟩
  have hrow := h.row
  rw [hm] at hQ hrow
  obtain ⟨av, cv, rfl⟩ := own_form' hrow
  have c0 := h.head.cell (o := 0) rfl
  have hlt := h.head.lt
  have H := hid h
  have HM := hid hm
  have HR := hid hrow
  clear h hx hm hrow
  go_enter Tryd.func35, Tryd.ntmps35
  go_wp2_with fail
  refine HF.out.mono ?_
  rintro e w1 ⟨rfl, rfl⟩
  go_wp2_with (first
    | (at_builtin; refine wp_appN rfl (.tmp 18) (.tmp 22) 78 102 rfl Tryd.underlying78 info_waiter rfl (by decide) w.heap.size (.slice (some ⟨w.heap.size, 0, none⟩) 0 0) 0 [] rfl (own_emptyS w _ _) (.slice av m cv) m (SV Q) rfl (own_src (own_keptN HR.out ((Kept.refl [] w).alloc _))) (SV_one _) (by omega) (by decide) (by simp) ?_; intro v3 w3 hW3 hK3 _; have HK3 := hid (show Kept [] w w3 from ((Kept.refl [] w).alloc (.cells #[] 102)).trans' hK3 (fun y hy => .inr (by simp [Value.ownBlock] at hy; omega))); have c0' := HK3.out.cellSome c0 (by simp); have HW3 := hid (show w3.ownsRow w.heap.size 102 3 v3 m (SV Q) by simpa using hW3); have hsz3 := HK3.out.size; clear hW3 hK3)
    | (at_builtin; refine wp_app1 rfl (.tmp 23) (.tmp 28) 78 102 rfl Tryd.underlying78 info_waiter rfl (by decide) w.heap.size v3 m (SV Q) rfl (own_keptN HW3.out ((Kept.refl [] w3).alloc _)) w3.heap.size 1 [.int .u64 id, .int .u64 addr, .int .u64 mask] rfl rfl (Blk.newA _ _ rfl) (by simp [Value.oneCell']) (by omega) (by decide) (by simp; omega) ?_; intro gg cap' w4 hW4 hgg hK4; have HK4 := hid (show Kept [] w w4 from (HK3.out.alloc (.cells #[.int .u64 id, .int .u64 addr, .int .u64 mask] 102)).trans' hK4 (fun y hy => .inr (own_ge HW3.out y hy))); have HW4 := hid hW4; have c0'' := HK4.out.cellSome c0 (by simp); have f0 := (H.out.head.keptN HK4.out).frozen 0; clear c0' hW4 hgg hK4))
  have hrow4 : w4.ownsRow w.heap.size 102 3 (.slice (some ⟨gg, 0, none⟩) (m + 1) cap') (Q ++ [(⟨id, addr, mask, blk⟩ : Slp)]).length (SV (Q ++ [⟨id, addr, mask, blk⟩])) := by
    have := HW4.out
    rw [SV_append]
    rw [show (Q ++ [(⟨id, addr, mask, blk⟩ : Slp)]).length = m + 1 by simp [HM.out]]
    exact this
  have hlay := H.out.lay HK4.out hrow4
  go_ret
  exact ⟨rfl, _, hlay.1, hlay.2.1, hlay.2.2⟩

set_option maxRecDepth 100000 in
set_option maxHeartbeats 1000000 in
theorem rnew_ok (n : Nat) (hn1 : 1 ≤ n) (hn2 : n ≤ 64) (w : World) :
    Calls Tryd.prog 18 #[.int .i64 n] w fun e w' => ∃ rb, e = .returned (.tuple #[.pointer (some ⟨rb, 0, none⟩), .pointer none]) ∧ w.heap.size ≤ rb ∧ RQIs w' rb [rb] [] n ∧ Kept [] w w' := by
  go_enter Tryd.func18, Tryd.ntmps18
  go_wp2_with fail
  go_ret2
  exact ⟨w.heap.size, rfl, Nat.le_refl _, ⟨.slice none 0 0, by simp [Value.ownBlock], Blk.newA _ _ rfl, World.ownsRow_nil _ _ _ _, by simp [Value.ownBlock]⟩, (Kept.refl _ _).alloc _⟩

set_option maxRecDepth 100000 in
set_option maxHeartbeats 1000000 in
theorem rmove_none {w : World} {rb : Nat} {U : List Nat} {Q : List Slp} {n : Nat} (h : RQIs w rb U Q n) (hQ : Q.length ≤ 100000) (hlt : ∀ s, s ∈ Q → s.mask < 18446744073709551616) (fr to : Nat) (hq : Q.find? (fits fr 0 true) = none) :
    Calls Tryd.prog 30 #[.pointer (some ⟨rb, 0, none⟩), .int .u64 fr, .int .u64 to] w fun e w' => e = .returned (.tuple #[.int .u64 0, .bool false]) ∧ w = w' := by
  have HF := hid (rfirst_ok h hQ hlt fr 0 (by omega) true (p := Q.length) (fun j s _ hs => by simpa using List.find?_eq_none.1 hq s (List.mem_of_getElem? hs)) (fun s hs => by rw [List.getElem?_eq_none (Nat.le_refl _)] at hs; cases hs))
  rw [placeI_ge (Nat.le_refl _)] at HF
  clear h hq hlt
  go_enter Tryd.func30, Tryd.ntmps30
  go_wp2_with fail
  refine HF.out.mono ?_
  rintro e w1 ⟨rfl, rfl⟩
  go_wp2_with fail
  go_ret2
  exact ⟨rfl, rfl⟩

end Go.Proofs.YtenahekdhepnfaaDoor
