/- The document's queues (distaffref09): Move, Bucket: contracts. -/
import Derived.Test.YtenahekdhepnfaaDoorWaitS
import Derived.Deep.RegionLaw
namespace Go.Proofs.YtenahekdhepnfaaDoor
open Go Go.RowKit

theorem own_empty2 (w : World) (o : Obj) (e size : Nat) : ((w.alloc (.cells #[] e)).alloc o).ownsRow w.heap.size e size (.slice (some ⟨w.heap.size, 0, none⟩) 0 0) 0 [] := own_keptN (own_emptyS w e size) ((Kept.refl _ _).alloc _)
theorem own_empty3 (w : World) (o : Obj) (e size : Nat) : ((w.alloc o).alloc (.cells #[] e)).ownsRow w.heap.size e size (.slice (some ⟨w.heap.size + 1, 0, none⟩) 0 0) 0 [] := by
  have h := own_mono (own_emptyS (w.alloc o) e size) (base' := w.heap.size) (by simp)
  rwa [show (w.alloc o).heap.size = w.heap.size + 1 by simp] at h

set_option maxRecDepth 100000 in
set_option maxHeartbeats 8000000 in
theorem rmove_some {w : World} {rb : Nat} {U : List Nat} {Q : List Slp} {n : Nat} (h : RQIs w rb U Q n) (hQ : Q.length ≤ 100000) (hnd : (Q.map (·.id)).Nodup) (hlt : ∀ s, s ∈ Q → s.mask < 18446744073709551616) (fr to : Nat) {s : Slp} (hq : Q.find? (fits fr 0 true) = some s) :
    Calls Tryd.prog 30 #[.pointer (some ⟨rb, 0, none⟩), .int .u64 fr, .int .u64 to] w fun e w' => e = .returned (.tuple #[.int .u64 s.id, .bool true]) ∧ ∃ U', RQIs w' rb U' (rem Q s.id ++ [{ s with addr := to }]) n ∧ (∀ y, y ∈ U' → y ∈ U ∨ w.heap.size ≤ y) ∧ Kept U w w' := by
  obtain ⟨p, hp, hs, hP, hbf⟩ := find_place hq
  have HF := hid (rfirst_ok h hQ hlt fr 0 (by omega) true (p := p) hbf (fun t ht => by rw [hs] at ht; cases ht; exact hP))
  rw [placeI_lt hp] at HF
  have HO := hid (rout_ok h hQ hnd hs)
  have hge : ¬ (p : Int) < 0 := by omega
  have hrl : (rem Q s.id).length ≤ Q.length := List.length_filter_le _ _
  clear h hq hs hP hbf hlt hnd
  go_enter Tryd.func30, Tryd.ntmps30
  go_wp2_with fail
  refine HF.out.mono ?_
  rintro e w1 ⟨rfl, rfl⟩
  go_wp2_with fail
  refine HO.out.mono ?_
  rintro e w1 ⟨rfl, U1, ⟨v1, rfl, h1⟩, hU1, hK1⟩
  obtain ⟨m1, hm1⟩ : ∃ m1, (rem Q s.id).length = m1 := ⟨_, rfl⟩
  have hrow1 := h1.row
  rw [hm1] at hrow1 hrl
  obtain ⟨av, cv, rfl⟩ := own_form' hrow1
  have hlt1 := h1.head.lt
  obtain ⟨w2, hw2⟩ : ∃ w2, (w1.alloc (.cells #[.int .u64 s.id, .int .u64 s.addr, .int .u64 s.mask] 102)).setCell ⟨w1.heap.size, 1, none⟩ (.int .u64 to) = w2 := ⟨_, rfl⟩
  have hK2 : Kept [] w1 w2 := by rw [← hw2]; exact ((Kept.refl [] w1).alloc _).setCell (.inr (Nat.le_refl _)) _
  have hB2 : Blk w2 w1.heap.size [.int .u64 s.id, .int .u64 to, .int .u64 s.mask] := by rw [← hw2]; exact (Blk.newA #[.int .u64 s.id, .int .u64 s.addr, .int .u64 s.mask] _ rfl).set 1 _
  obtain ⟨wd, hwd⟩ : ∃ wd, w2.drew = wd := ⟨_, rfl⟩
  have hKd : Kept [] w1 wd := by rw [← hwd]; exact hK2.drew
  have hBd : Blk wd w1.heap.size [.int .u64 s.id, .int .u64 to, .int .u64 s.mask] := by rw [← hwd]; exact hB2.keptN ((Kept.refl [] _).drew)
  have c0 := (h1.head.keptN hKd).cell (o := 0) rfl
  have b0 := hBd.cell (o := 0) rfl
  have b1 := hBd.cell (o := 1) rfl
  have b2 := hBd.cell (o := 2) rfl
  have hltd := hBd.lt
  have hltr : rb < wd.heap.size := by omega
  have HKD := hid hKd
  have HBD := hid hBd
  have HRD := hid (own_keptN hrow1 hKd)
  have H1 := hid h1
  have HM1 := hid hm1
  have HU1 := hid hU1
  have HK1 := hid hK1
  clear h1 hU1 hK1 hm1 hrow1 hK2 hB2 hKd hBd
  go_wp2_with fail
  go_region_law (first
    | (refine step_appN rfl (.tmp 21) (.tmp 25) 78 102 rfl Tryd.underlying78 info_waiter rfl (by decide) wd.heap.size (.slice (some ⟨wd.heap.size, 0, none⟩) 0 0) 0 [] rfl (own_emptyS wd _ _) (.slice av m1 cv) m1 (SV (rem Q s.id)) rfl (own_src (own_keptN HRD.out ((Kept.refl [] wd).alloc (.cells #[] 102)))) (SV_one _) (by omega) (by decide) (by simp) ?_; intro v3 w3 hW3 hK3; have HK3 := hid (show Kept [] wd w3 from ((Kept.refl [] wd).alloc (.cells #[] 102) : Kept [] wd _).trans' hK3 (fun y hy => .inr (by simp [Value.ownBlock] at hy; omega)));  have c0' := HK3.out.cellSome c0 (by simp); have b0' := HK3.out.cellSome b0 (by simp); have b1' := HK3.out.cellSome b1 (by simp); have b2' := HK3.out.cellSome b2 (by simp); have HW3 := hid (show w3.ownsRow wd.heap.size 102 3 v3 m1 (SV (rem Q s.id)) by simpa using hW3); have hsz3 := HK3.out.size; clear hW3 hK3)
    | (refine step_appN rfl (.tmp 21) (.tmp 25) 78 102 rfl Tryd.underlying78 info_waiter rfl (by decide) wd.heap.size (.slice (some ⟨wd.heap.size, 0, none⟩) 0 0) 0 [] rfl (own_empty2 wd (.cells #[.int .u64 s.id, .int .u64 to, .int .u64 s.mask] 102) _ _) (.slice av m1 cv) m1 (SV (rem Q s.id)) rfl (own_src (own_keptN HRD.out (((Kept.refl [] wd).alloc (.cells #[] 102)).alloc (.cells #[.int .u64 s.id, .int .u64 to, .int .u64 s.mask] 102)))) (SV_one _) (by omega) (by decide) (by simp; omega) ?_; intro v3 w3 hW3 hK3; have HK3 := hid (show Kept [] wd w3 from (((Kept.refl [] wd).alloc (.cells #[] 102)).alloc (.cells #[.int .u64 s.id, .int .u64 to, .int .u64 s.mask] 102) : Kept [] wd _).trans' hK3 (fun y hy => .inr (by simp [Value.ownBlock] at hy; omega))); have HB3 : Blk w3 (wd.heap.size + 1) [.int .u64 s.id, .int .u64 to, .int .u64 s.mask] := ((Blk.newA #[.int .u64 s.id, .int .u64 to, .int .u64 s.mask] _ (by simp) : Blk ((wd.alloc (.cells #[] 102)).alloc (.cells #[.int .u64 s.id, .int .u64 to, .int .u64 s.mask] 102)) (wd.heap.size + 1) _)).kept hK3 (by simp [Value.ownBlock]); have c0' := HK3.out.cellSome c0 (by simp); have b0' := HK3.out.cellSome b0 (by simp); have b1' := HK3.out.cellSome b1 (by simp); have b2' := HK3.out.cellSome b2 (by simp); have HW3 := hid (show w3.ownsRow wd.heap.size 102 3 v3 m1 (SV (rem Q s.id)) by simpa using hW3); have hsz3 := HK3.out.size; clear hW3 hK3)
    | (refine step_appN rfl (.tmp 21) (.tmp 25) 78 102 rfl Tryd.underlying78 info_waiter rfl (by decide) wd.heap.size (.slice (some ⟨wd.heap.size + 1, 0, none⟩) 0 0) 0 [] rfl (own_empty3 wd (.cells #[.int .u64 s.id, .int .u64 to, .int .u64 s.mask] 102) _ _) (.slice av m1 cv) m1 (SV (rem Q s.id)) rfl (own_src (own_keptN HRD.out (((Kept.refl [] wd).alloc (.cells #[.int .u64 s.id, .int .u64 to, .int .u64 s.mask] 102)).alloc (.cells #[] 102)))) (SV_one _) (by omega) (by decide) (by simp; omega) ?_; intro v3 w3 hW3 hK3; have HK3 := hid (show Kept [] wd w3 from (((Kept.refl [] wd).alloc (.cells #[.int .u64 s.id, .int .u64 to, .int .u64 s.mask] 102)).alloc (.cells #[] 102) : Kept [] wd _).trans' hK3 (fun y hy => .inr (by simp [Value.ownBlock] at hy; omega))); have HB3 : Blk w3 wd.heap.size [.int .u64 s.id, .int .u64 to, .int .u64 s.mask] := ((Blk.newA #[.int .u64 s.id, .int .u64 to, .int .u64 s.mask] _ rfl : Blk (wd.alloc (.cells #[.int .u64 s.id, .int .u64 to, .int .u64 s.mask] 102)) wd.heap.size _).alloc (.cells #[] 102)).kept hK3 (by simp [Value.ownBlock]); have c0' := HK3.out.cellSome c0 (by simp); have b0' := HK3.out.cellSome b0 (by simp); have b1' := HK3.out.cellSome b1 (by simp); have b2' := HK3.out.cellSome b2 (by simp); have HW3 := hid (show w3.ownsRow wd.heap.size 102 3 v3 m1 (SV (rem Q s.id)) by simpa using hW3); have hsz3 := HK3.out.size; clear hW3 hK3)
    | (refine step_app1 rfl (.tmp 26) (.tmp 28) 78 102 rfl Tryd.underlying78 info_waiter rfl (by decide) wd.heap.size v3 m1 (SV (rem Q s.id)) rfl (own_keptN HW3.out ((Kept.refl [] w3).alloc (.cells #[.int .u64 s.id, .int .u64 to, .int .u64 s.mask] 102))) w3.heap.size 1 [.int .u64 s.id, .int .u64 to, .int .u64 s.mask] rfl rfl (Blk.newA _ _ rfl) (by simp [Value.oneCell']) (by omega) (by decide) (by simp; omega) ?_; intro gg cap' w4 hW4 hK4; have HK4 := hid (show Kept [] wd w4 from (HK3.out.alloc (.cells #[.int .u64 s.id, .int .u64 to, .int .u64 s.mask] 102)).trans' hK4 (fun y hy => .inr (own_ge HW3.out y hy))); have HW4 := hid hW4; have c0'' := HK4.out.cellSome c0 (by simp); have b0'' := HK4.out.cellSome b0 (by simp); have f0 := ((H1.out.head.keptN HKD.out).keptN HK4.out).frozen 0; clear c0' b0' b1' b2' hW4 hK4)
    | (refine step_app1 rfl (.tmp 26) (.tmp 28) 78 102 rfl Tryd.underlying78 info_waiter rfl (by decide) wd.heap.size v3 m1 (SV (rem Q s.id)) rfl (HW3.out) (wd.heap.size + 1) 1 [.int .u64 s.id, .int .u64 to, .int .u64 s.mask] rfl rfl (HB3) (by simp [Value.oneCell']) (by omega) (by decide) (by omega) ?_; intro gg cap' w4 hW4 hK4; have HK4 := hid (show Kept [] wd w4 from (HK3.out).trans' hK4 (fun y hy => .inr (own_ge HW3.out y hy))); have HW4 := hid hW4; have c0'' := HK4.out.cellSome c0 (by simp); have b0'' := HK4.out.cellSome b0 (by simp); have f0 := ((H1.out.head.keptN HKD.out).keptN HK4.out).frozen 0; clear c0' b0' b1' b2' hW4 hK4)
    | (refine step_app1 rfl (.tmp 26) (.tmp 28) 78 102 rfl Tryd.underlying78 info_waiter rfl (by decide) wd.heap.size v3 m1 (SV (rem Q s.id)) rfl (HW3.out) wd.heap.size 1 [.int .u64 s.id, .int .u64 to, .int .u64 s.mask] rfl rfl (HB3) (by simp [Value.oneCell']) (by omega) (by decide) (by omega) ?_; intro gg cap' w4 hW4 hK4; have HK4 := hid (show Kept [] wd w4 from (HK3.out).trans' hK4 (fun y hy => .inr (own_ge HW3.out y hy))); have HW4 := hid hW4; have c0'' := HK4.out.cellSome c0 (by simp); have b0'' := HK4.out.cellSome b0 (by simp); have f0 := ((H1.out.head.keptN HKD.out).keptN HK4.out).frozen 0; clear c0' b0' b1' b2' hW4 hK4))
  all_goals
    have hrow4 : w4.ownsRow w1.heap.size 102 3 (.slice (some ⟨gg, 0, none⟩) (m1 + 1) cap') (rem Q s.id ++ [({ s with addr := to } : Slp)]).length (SV (rem Q s.id ++ [{ s with addr := to }])) := by
      have := own_mono HW4.out HKD.out.size
      rw [SV_append]
      rw [show (rem Q s.id ++ [({ s with addr := to } : Slp)]).length = m1 + 1 by simp [HM1.out]]
      exact this
    have hlay := H1.out.lay (HKD.out.trans HK4.out) hrow4
    have hs1 := HK1.out.size
    go_wp2_with fail
    go_ret2
    refine ⟨rfl, _, hlay.1, fun y hy => ?_, HK1.out.trans' hlay.2.2 (fun y hy => HU1.out y hy)⟩
    rcases hlay.2.1 y hy with h1 | h1
    · exact HU1.out y h1
    · exact .inr (by omega)

end Go.Proofs.YtenahekdhepnfaaDoor
