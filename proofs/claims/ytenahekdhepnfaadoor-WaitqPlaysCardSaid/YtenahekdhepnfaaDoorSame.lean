/- distaffkeep.Same and No: an error against what the document says. -/
import Derived.Test.YtenahekdhepnfaaDoorErr
import Derived.Test.YtenahekdhepnfaaDoorMix
import Derived.Deep.DeepMust
namespace Go.Proofs.YtenahekdhepnfaaDoor
open Go Go.RowKit Go.Extern.Stop Go.Stop Go.Extern

set_option maxRecDepth 100000 in
set_option maxHeartbeats 4000000 in
/-- errors.As of a kind: it is no *api.At. -/
theorem as_miss (k : Int) (t : Nat) (old : Value) (w : World) (hg : Laid w) (ht0 : Blk w t [old]) :
    Calls Tryd.prog 23 #[.iface 30 (.int .i64 k), .iface 66 (.pointer (some ⟨t, 0, none⟩))] w fun ev w' => ev = .returned (.bool false) ∧ Kept [] w w' := by
  have h6 := @run_callFunc_extern Tryd.prog 39 _ vofExt Tryd.func39 (by kernel_rfl) (by kernel_rfl) (by kernel_rfl) (by kernel_rfl)
  have h7 := @run_callFunc_extern Tryd.prog 40 _ typExt Tryd.func40 (by kernel_rfl) (by kernel_rfl) (by kernel_rfl) (by kernel_rfl)
  have h8 := @run_callFunc_extern Tryd.prog 41 _ nilExt Tryd.func41 (by kernel_rfl) (by kernel_rfl) (by kernel_rfl) (by kernel_rfl)
  have h27 := @run_callFunc_extern Tryd.prog 68 _ kndExt Tryd.func68 (by kernel_rfl) (by kernel_rfl) (by kernel_rfl) (by kernel_rfl)
  have h37 := @run_callFunc_extern Tryd.prog 80 _ elmExt Tryd.func80 (by kernel_rfl) (by kernel_rfl) (by kernel_rfl) (by kernel_rfl)
  have h38 := @run_callFunc_extern Tryd.prog 81 _ impExt Tryd.func81 (by kernel_rfl) (by kernel_rfl) (by kernel_rfl) (by kernel_rfl)
  have h10 := @run_callFunc_extern Tryd.prog 49 _ ReflectliteType.typeOf Tryd.func49 (by kernel_rfl) (by kernel_rfl) (by kernel_rfl) (by kernel_rfl)
  have h35 := @run_callFunc_extern Tryd.prog 78 _ assExt Tryd.func78 (by kernel_rfl) (by kernel_rfl) (by kernel_rfl) (by kernel_rfl)
  have tO := x_typeOfErr
  have mA := x_methodAssignableTo
  have a25 := x_assErr
  have f6 := x_vof
  have f7 := x_typ
  have mK := x_methodKind
  have mE := x_methodElem
  have mI := x_methodImplements
  have k27 := x_kindPP
  have k25 := x_kindP
  have e27 := x_elem
  have i25 := x_implements
  have q1 := x_asErr
  have q2 := x_unErr
  have q3 := x_unsErr
  have hlt := hg.pos
  have htl := ht0.lt
  have n8 := x_isNil ⟨w.heap.size, 0, none⟩ ⟨t, 0, none⟩ ((w.alloc (.cells #[.pointer (some ⟨t, 0, none⟩)] 66)).alloc (.cells #[.pointer (some ⟨1, 66, none⟩), .pointer (some ⟨w.heap.size, 0, none⟩), .int .u64 150] 88)) (by simp)
  have hg2 := (hg.keptN ((((Kept.refl [] w).alloc (.cells #[.pointer (some ⟨t, 0, none⟩)] 66)).alloc (.cells #[.pointer (some ⟨1, 66, none⟩), .pointer (some ⟨w.heap.size, 0, none⟩), .int .u64 150] 88))))
  unfold Laid at hg2
  clear ht0 hg
  go_enter Tryd.func23, Tryd.ntmps23
  go_wp2
  refine wp_loop_rounds 1 ?_
  rw [rounds_succ]
  go_wp2
  go_ret
  exact ⟨rfl, (((Kept.refl _ _).alloc _).alloc _).alloc _⟩

/-- What the document says: the error with its place. -/
def FailAt (w : World) (b : Nat) (layer : ByteArray) (n k : Int) : Prop :=
  ∃ b1 b2, Blk w b [.slice (some ⟨b1, 0, none⟩) 1 1, .slice (some ⟨b2, 0, none⟩) 1 1, .int .i64 k] ∧ Blk w b1 [.string layer] ∧ Blk w b2 [.int .i64 n]
theorem FailAt.kept {S : List Nat} {w w' : World} {b : Nat} {layer : ByteArray} {n k : Int} (h : FailAt w b layer n k) (kp : Kept S w w') (hS : ∀ x, x ∈ S → w.heap.size ≤ x) : FailAt w' b layer n k := by
  obtain ⟨b1, b2, h1, h2, h3⟩ := h
  exact ⟨b1, b2, h1.kept kp (fun h => by have := hS _ h; have := h1.lt; omega), h2.kept kp (fun h => by have := hS _ h; have := h2.lt; omega), h3.kept kp (fun h => by have := hS _ h; have := h3.lt; omega)⟩
theorem FailAt.keptN {w w' : World} {b : Nat} {layer : ByteArray} {n k : Int} (h : FailAt w b layer n k) (kp : Kept [] w w') : FailAt w' b layer n k := h.kept kp (by simp)

theorem no_ok (layer : ByteArray) (n k : Int) (w : World) :
    Calls Tryd.prog 8 #[.string layer, .int .i64 n, .int .i64 k] w fun e w' => ∃ b, e = .returned (.pointer (some ⟨b, 0, none⟩)) ∧ FailAt w' b layer n k ∧ w.heap.size ≤ b ∧ Kept [] w w' := by
  go_enter Tryd.func8, Tryd.ntmps8
  go_wp2
  go_ret
  exact ⟨w.heap.size + 2, rfl, ⟨w.heap.size, w.heap.size + 1, Blk.newA _ _ (by simp), ((Blk.newA #[.string layer] _ rfl).alloc _).alloc _, (Blk.newA #[.int .i64 n] _ (by simp)).alloc _⟩, by omega, ((((Kept.refl _ _).alloc _).alloc _).alloc _)⟩

theorem same_nil_nil (w : World) : Calls Tryd.prog 7 #[.nilIface, .pointer none] w fun e w' => e = .returned (.bool true) ∧ w = w' := by
  go_enter Tryd.func7, Tryd.ntmps7
  go_wp2_with fail
  go_ret
  exact ⟨rfl, rfl⟩
theorem same_err_nil (a : Addr) (w : World) : Calls Tryd.prog 7 #[.iface 64 (.pointer (some a)), .pointer none] w fun e w' => e = .returned (.bool false) ∧ w = w' := by
  go_enter Tryd.func7, Tryd.ntmps7
  go_wp2_with fail
  go_ret
  exact ⟨rfl, rfl⟩

set_option maxRecDepth 100000 in
set_option maxHeartbeats 4000000 in
theorem same_hit (b fb : Nat) (layer : ByteArray) (n k : Int) (hk1 : 1 ≤ k) (hk2 : k ≤ 10) (w : World) (hg : Laid w) (hb : Blk w b [.string layer, .int .i64 n, .iface 30 (.int .i64 k)]) (hf : FailAt w fb layer n k) :
    Calls Tryd.prog 7 #[.iface 64 (.pointer (some ⟨b, 0, none⟩)), .pointer (some ⟨fb, 0, none⟩)] w fun e w' => e = .returned (.bool true) ∧ Kept [] w w' := by
  obtain ⟨b1, b2, hf0, hf1, hf2⟩ := hf
  have c0 := hf0.cell (o := 0) rfl
  have c1 := hf0.cell (o := 1) rfl
  have c2 := hf0.cell (o := 2) rfl
  have d0 := hf1.cell (o := 0) rfl
  have d1 := hf2.cell (o := 0) rfl
  have e0 := hb.cell (o := 0) rfl
  have e1 := hb.cell (o := 1) rfl
  have e2 := hb.cell (o := 2) rfl
  have HB := hid hb
  have HF0 := hid hf0
  have HF1 := hid hf1
  have HF2 := hid hf2
  have HG := hid hg
  clear hb hf0 hf1 hf2 hg
  go_enter Tryd.func7, Tryd.ntmps7
  go_wp2_with fail
  go_quiet ((go_at_call 22; refine Calls.quiet_of_same ((kind_at b (.string layer) (.int .i64 n) k hk1 hk2 _ ?_).mono fun _ _ h => ⟨h.1, h.2.symm⟩); exact HB.out))
  rename_i nq
  have hne : Hid (w.drewN nq = w.drewN nq) := rfl
  go_wp2_with fail
  go_loopw [0, 5] (fun v i wr => wr = w.drewN nq ∧ v = .iface 64 (.pointer (some ⟨b, 0, none⟩)) ∧ i = .int .i64 0 ∨ (v = .iface 30 (.int .i64 k) ∧ i = .int .i64 1 ∧ Kept [] w wr)) (fun _ i _ => 1 - (intOf i).toNat)
  case atStart => exact .inl ⟨rfl, rfl, rfl⟩
  case round =>
    rcases hrel with ⟨rfl, rfl, rfl⟩ | ⟨rfl, rfl, hK⟩
    · have l0 := HF0.out.lt
      have l1 := HF1.out.lt
      have l2 := HF2.out.lt
      have l3 := HB.out.lt
      go_wp2_with fail
      refine wp_region_any (by kernel_rfl) ?_
      refine wpAny_take (i := 0) (v := .iface 64 (.pointer (some ⟨b, 0, none⟩))) rfl (by kernel_rfl) (by kernel_rfl) (by kernel_rfl) (fun _ _ _ h => h) (.inl ⟨rfl, fun _ => rfl⟩) ?_
      simp only [Act.put, List.setIfInBounds_toArray]
      refine wpAny_one (i := 1) (by kernel_rfl) rfl rfl (fun K hK => ?_)
      go_wp2_with fail
      refine wpAny_one (i := 2) (by kernel_rfl) rfl rfl (fun K hK => ?_)
      go_wp2_with fail
      refine (as_hit ⟨b, 0, none⟩ w.heap.size (.pointer none) _ ?_ ?_).mono ?_
      · exact HG.out.keptN ((((Kept.refl _ _).drewN _).alloc _).drew)
      · exact (Blk.newA _ _ rfl).drew
      rintro e w2 ⟨rfl, ht, hk⟩
      have kk := Kept.trans' ((((Kept.refl [] w).drewN nq).alloc (.cells #[.pointer none] 64)).drew) hk (by simp)
      have q0 := kk.cellSome c0 (by simp)
      have q1 := kk.cellSome c1 (by simp)
      have q2 := kk.cellSome d0 (by simp)
      have q3 := kk.cellSome d1 (by simp)
      have q4 := kk.cellSome e0 (by simp)
      have q5 := kk.cellSome e1 (by simp)
      have q7 := kk.cellSome e2 (by simp)
      have q6 := ht.cell (o := 0) rfl
      have HKK := hid kk
      have HT := hid ht
      clear kk ht hk c0 c1 c2 d0 d1 e0 e1 e2
      go_wp2_with fail
      refine wpAny_one (i := 3) (by kernel_rfl) rfl rfl (fun K hK => ?_)
      go_wp2_with fail
      refine wpAny_one (i := 4) (by kernel_rfl) rfl rfl (fun K hK => ?_)
      go_wp2_with fail
      refine wpAny_quiet_from 5 _ rfl rfl (by kernel_rfl) (by kernel_rfl) ?_
      simp only [List.drop_succ_cons, List.drop_zero]
      repeat (go_big_quiet_step (fail))
      refine wpQuiet_nil ?_
      intro _ hw'
      obtain ⟨nq2, hw''⟩ := hw'
      subst hw''
      go_wp2_with fail
      go_roundw
      case rel => exact .inr ⟨rfl, rfl, HKK.out.drewN nq2⟩
      case measure => simp [intOf]
    · have c0' := hK.cellSome c0 (by simp)
      have c1' := hK.cellSome c1 (by simp)
      have HK := hid hK
      clear hK c0 c1 c2 d0 d1 e0 e1 e2
      go_wp2_with fail
      refine (as_miss k _ (.pointer none) _ ?_ (Blk.newA _ _ rfl)).mono ?_
      · exact (HG.out.keptN HK.out).keptN ((Kept.refl _ _).alloc _)
      · rintro e w2 ⟨rfl, hk⟩
        have HK2 := hid hk
        clear hk
        go_wp2_with fail
        go_ret
        exact ⟨rfl, (HK.out.alloc _).trans HK2.out⟩

end Go.Proofs.YtenahekdhepnfaaDoor
