/- package waitq: Bucket; what is refused. -/
import Derived.Test.YtenahekdhepnfaaDoorWaitW
import Derived.Test.YtenahekdhepnfaaDoorWaitV
import Derived.Test.YtenahekdhepnfaaDoorSame
import Derived.Test.YtenahekdhepnfaaDoorKeep
namespace Go.Proofs.YtenahekdhepnfaaDoor
open Go Go.RowKit

def sWaitq : ByteArray := ⟨#[119, 97, 105, 116, 113]⟩
def GV (l : List Int) : List Value := l.map (.int .u64)
theorem GV_snoc (l : List Int) (x : Int) : GV (l ++ [x]) = GV l ++ [.int .u64 x] := by simp [GV]
def idsOf (l : List Slp) : List Int := l.map fun s => (s.id : Int)
theorem idsOf_take {l : List Slp} {j : Nat} {t : Slp} (h : l[j]? = some t) : idsOf (l.take (j + 1)) = idsOf (l.take j) ++ [(t.id : Int)] := by
  obtain ⟨h1, h2⟩ := List.getElem?_eq_some_iff.1 h
  unfold idsOf
  rw [List.take_succ_eq_append_getElem h1, List.map_append, h2]
  rfl
theorem info_u64 : (Tryd.prog.info? 36).map (fun i => (i.zero, i.size, i.bytes)) = some (some (.int .u64 0), 1, 8) := by kernel_rfl

theorem qfail_ok (k : Int) (w : World) :
    Calls Tryd.prog 21 #[.iface 30 (.int .i64 k)] w fun e w' => ∃ v, e = .returned v ∧ ErrOut sWaitq 0 k w v w' := by
  go_enter Tryd.func21, Tryd.ntmps21
  go_wp2_with fail
  go_ret
  exact ⟨_, rfl, _, rfl, Nat.le_refl _, Blk.newA _ _ rfl, (Kept.refl _ _).alloc _⟩

theorem new_bad (n : Int) (h : n < 1 ∨ 64 < n) (w : World) :
    Calls Tryd.prog 6 #[.int .i64 n] w fun e w' => ∃ v, e = .returned (.tuple #[.pointer none, v]) ∧ ErrOut sWaitq 0 1 w v w' := by
  rcases h with h | h
  all_goals
    go_enter Tryd.func6, Tryd.ntmps6
    go_wp2_with fail
    refine (qfail_ok 1 _).mono ?_
    rintro e w' ⟨v, rfl, hv⟩
    go_wp2_with fail
    go_ret2
    exact ⟨v, rfl, hv⟩

theorem tell_bad {w : World} {qb lb mb n : Nat} {Q : List Slp} (h : WaitsAt w qb lb mb n Q) (b : Int) (hb : b < 0 ∨ (n : Int) ≤ b) :
    Calls Tryd.prog 11 #[.pointer (some ⟨qb, 0, none⟩), .int .i64 b] w fun e w' => e = .returned (.slice none 0 0) ∧ w = w' := by
  have c0 := h.lists.head.cell (o := 0) rfl
  clear h
  rcases hb with hb | hb
  · go_enter Tryd.func11, Tryd.ntmps11
    go_wp2_with fail
    go_ret
    exact ⟨rfl, rfl⟩
  · have hb0 : ¬ b < 0 := by omega
    go_enter Tryd.func11, Tryd.ntmps11
    go_wp2_with fail
    go_ret
    exact ⟨rfl, rfl⟩

set_option maxRecDepth 100000 in
set_option maxHeartbeats 2000000 in
theorem tell_ok {w : World} {qb lb mb n : Nat} {Q : List Slp} (h : WaitsAt w qb lb mb n Q) (b : Nat) (hb : b < n) (hQ : Q.length ≤ 1000000) :
    Calls Tryd.prog 11 #[.pointer (some ⟨qb, 0, none⟩), .int .i64 b] w fun e w' => ∃ v, e = .returned v ∧ w'.ownsRow w.heap.size 36 1 v (bks Q n b).length (GV (idsOf (bks Q n b))) ∧ Kept [] w w' := by
  have c0 := h.lists.head.cell (o := 0) rfl
  have r0 := (ends_get h.lists.rows hb).1
  have hll : (bks Q n b).length ≤ Q.length := List.length_filter_le _ _
  obtain ⟨l, hl⟩ : ∃ l, bks Q n b = l := ⟨_, rfl⟩
  rw [hl] at r0 hll ⊢
  have hb0 : (0 : Int) ≤ (b : Int) := by omega
  have hb1 : (b : Int) < (n : Int) := by omega
  have hnb : ¬ n ≤ b := by omega
  have hnb' : decide (n ≤ b) = false := by simp; omega
  have H := hid h
  have HL := hid hl
  have HE := hid (fun (j : Nat) (t : Slp) (ht : l[j]? = some t) => (show Blk w t.blk (cellsAt l j t) by
    have := H.out.lists.each b j t (by rw [HL.out]; exact ht)
    rw [HL.out] at this
    exact this))
  have HINJ := hid (fun (i : Nat) (s : Slp) (j : Nat) (t : Slp) (h1 : l[i]? = some s) (h2 : l[j]? = some t) (e : s.blk = t.blk) => (H.out.lists.inj b i s b j t (by rw [HL.out]; exact h1) (by rw [HL.out]; exact h2) e).2)
  clear h hl
  go_enter Tryd.func11, Tryd.ntmps11
  go_wp2_with fail
  go_loopw [5, 6] (fun v s6 wr => ∃ j : Nat, j ≤ l.length ∧ s6 = lnk l[j]? ∧ wr.ownsRow w.heap.size 36 1 v j (GV (idsOf (l.take j))) ∧ Kept [] w wr) (fun _ s6 _ => l.length - placeOf l s6)
  case atStart => exact ⟨0, Nat.zero_le _, rfl, ⟨rfl, .inl ⟨rfl, rfl⟩⟩, Kept.refl _ _⟩
  case round =>
    obtain ⟨j, hj, rfl, hv, hK⟩ := hrel
    have HV := hid hv
    have HK := hid hK
    have hpl := hid (placeOf_eq HINJ.out hj)
    clear hv hK c0 r0
    cases ht : l[j]? with
    | none =>
      have hjl : j = l.length := by
        rw [List.getElem?_eq_none_iff] at ht
        omega
      subst hjl
      simp only [lnk.eq_1]
      clear ht
      go_wp2_with fail
      go_ret
      have := HV.out
      rw [List.take_of_length_le (Nat.le_refl _)] at this
      exact ⟨_, rfl, this, HK.out⟩
    | some t =>
      rw [ht] at hpl
      have hjl := (List.getElem?_eq_some_iff.1 ht).1
      have hpn := hid (placeOf_eq HINJ.out (show j + 1 ≤ l.length from hjl))
      have hT := HE.out j t ht
      have d0 := HK.out.cellSome (hT.cell (o := 0) rfl) (by simp)
      have htl := hT.lt
      have HTJ := hid ht
      have HT := hid hT
      obtain ⟨nx, hnx⟩ : ∃ nx, lnk l[j + 1]? = nx := ⟨_, rfl⟩
      have HNX := hid hnx
      simp only [lnk.eq_2]
      clear hT ht hnx
      go_wp2_with (at_builtin; go_must (refine wp_app1 rfl _ _ 33 36 rfl Tryd.underlying33 info_u64 rfl (Nat.lt_succ_self 0) w.heap.size u5 j (GV (idsOf (l.take j))) rfl ?c1 wr.heap.size 1 [.int .u64 t.id] rfl rfl (Blk.newA _ _ rfl) ?c2 ?c3 (Nat.le_of_ble_eq_true rfl) ?c4 ?_))
      case c1 => exact own_keptN HV.out ((Kept.refl _ _).alloc _)
      case c2 => simp [Value.oneCell']
      case c3 => omega
      case c4 => have := HK.out.size; simp; omega
      intro gg cap' w3 hW hgg hK
      have HW3 := hid hW
      have HK3 := hid (HK.out.trans' (((Kept.refl _ wr).alloc (.cells #[.int .u64 t.id] 36)).trans hK) (fun x hx => .inr (own_ge HV.out x hx)))
      have d4 := HK3.out.cellSome (HT.out.cell (o := 4) rfl) (by simp)
      rw [HNX.out] at d4
      have hnf : nx = .pointer none ∨ ∃ q, nx = .pointer (some ⟨q, 0, none⟩) := by
        rw [← HNX.out]
        cases l[j + 1]? with
        | none => exact .inl rfl
        | some u => exact .inr ⟨u.blk, rfl⟩
      clear hW hK d0
      rcases hnf with rfl | ⟨q, rfl⟩
      all_goals
        go_wp2_with fail
        go_roundw
        case rel => exact ⟨j + 1, hjl, HNX.out.symm, by rw [idsOf_take HTJ.out, GV_snoc]; exact HW3.out, HK3.out⟩
        case measure =>
          have h1 := hpn.out
          rw [HNX.out] at h1
          have h2 := hpl.out
          rw [lnk.eq_2] at h2
          rw [h1, h2]
          omega

end Go.Proofs.YtenahekdhepnfaaDoor
