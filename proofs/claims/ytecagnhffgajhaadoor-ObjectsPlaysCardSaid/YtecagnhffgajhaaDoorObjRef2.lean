/- The document's Objects (distaffref09): Make, Find, Gone, Kind, All. -/
import Derived.Test.YtecagnhffgajhaaDoorObjRef
namespace Go.Proofs.YtecagnhffgajhaaDoor
open Go Go.RowKit

theorem rowsOf_set0 {k : Nat} (f : Nat → Nat → Value) {n p : Nat} (v : Value) (hp : p < n) (hj : 0 < k) :
    (rowsOf k f n).set (p * k) v = rowsOf k (fun p' j' => if p' = p ∧ j' = 0 then v else f p' j') n := rowsOf_set f v hp hj
/-- What the document's answers: an error with its place. -/
def FailOut (layer : ByteArray) (n k : Int) (w : World) (v : Value) (w' : World) : Prop :=
  ∃ b, v = .pointer (some ⟨b, 0, none⟩) ∧ FailAt w' b layer n k ∧ w.heap.size ≤ b ∧ Kept [] w w'

theorem rno_ok (layer : ByteArray) (n k : Int) (w : World) :
    Calls Tryd.prog 9 #[.string layer, .int .i64 n, .int .i64 k] w fun e w' => ∃ v, e = .returned v ∧ FailOut layer n k w v w' :=
  (no_ok layer n k w).mono fun _ _ ⟨b, h1, h2, h3, h4⟩ => ⟨_, h1, b, rfl, h2, h3, h4⟩

def RMakeOut (ro rl rt n : Nat) (f : Nat → Row) (kind addr : Int) (w : World) (v : Value) (w' : World) : Prop :=
  match freeOf f n with
  | some p => v = .tuple #[.int .u64 (p + 1 + 64 * (f p).times), .pointer none] ∧ RObjs w' ro rl rt n (fun q => if q = p then givenRow p (f p) kind addr else f q) ∧ Kept [rl, rt] w w'
  | none => ∃ x, v = .tuple #[.int .u64 0, x] ∧ FailOut sObjects 0 3 w x w'

theorem rmake_bad (ro : Nat) (kind addr : Int) (h : kind < 1 ∨ 6 < kind) (w : World) :
    Calls Tryd.prog 22 #[.pointer (some ⟨ro, 0, none⟩), .int .i64 kind, .int .u64 addr] w fun e w' => ∃ v, e = .returned (.tuple #[.int .u64 0, v]) ∧ FailOut sObjects 0 1 w v w' := by
  rcases h with h | h
  all_goals
    go_enter Tryd.func22, Tryd.ntmps22
    go_wp2_with (go_at_call 9; refine (rno_ok _ _ _ _).mono ?_; rintro e w' ⟨v, rfl, hv⟩)
    go_ret2
    exact ⟨v, rfl, hv⟩

set_option maxRecDepth 100000 in
set_option maxHeartbeats 1000000 in
theorem rmake_ok {w : World} {ro rl rt n : Nat} {f : Nat → Row} (hO : RObjs w ro rl rt n f) (kind addr : Int) (h1 : 1 ≤ kind) (h6 : kind ≤ 6) (hs : ∀ p, p < n → 0 ≤ (f p).times ∧ (f p).times ≤ 1000000) :
    Calls Tryd.prog 22 #[.pointer (some ⟨ro, 0, none⟩), .int .i64 kind, .int .u64 addr] w fun e w' => ∃ v, e = .returned v ∧ RMakeOut ro rl rt n f kind addr w v w' := by
  have c0 := hO.c0
  have c1 := hO.c1
  have hn := hO.small
  have hH := hid hO
  have HS := hid hs
  clear hO hs
  go_enter Tryd.func22, Tryd.ntmps22
  go_wp2_with fail
  go_loop [8] (fun i => ∃ k : Nat, k ≤ n ∧ i = .int .i64 k ∧ ∀ q, q < k → (f q).handle ≠ 0) (fun i => n - (intOf i).toNat)
  case atStart => exact ⟨0, Nat.zero_le _, rfl, fun q h => by omega⟩
  case round =>
    obtain ⟨k, hk, rfl, hb⟩ := hrel
    have HB := hid hb
    clear hb
    by_cases hlt : k < n
    · have d0 := hH.out.cell hlt 0 (by omega)
      have d1 := hH.out.cell hlt 1 (by omega)
      have d2 := hH.out.cell hlt 2 (by omega)
      have d3 := hH.out.tcell hlt
      have z0 := hH.out.rows.frozen (k * 3 + 0)
      have z1 := hH.out.rows.frozen (k * 3 + 1)
      have z2 := hH.out.rows.frozen (k * 3 + 2)
      have z3 := hH.out.taken.frozen k
      simp only [Row.o, Nat.add_zero] at d0 d1 d2 z0
      obtain ⟨t0, t1⟩ := HS.out k hlt
      by_cases e : (f k).handle = 0
      · have hfree := hid (freeOf_some hlt e HB.out)
        have hne1 := hH.out.ne1
        have hne2 := hH.out.ne2
        have hne3 := hH.out.ne3
        generalize hr : f k = r at *
        rw [e] at d0
        have HE := hid e
        have HR := hid hr
        clear e hr
        go_wp2_with fail
        go_ret2
        refine ⟨_, rfl, ?_⟩
        unfold RMakeOut
        rw [hfree.out]
        obtain rfl := HR.out
        refine ⟨rfl, ⟨?_, ?_, ?_, hn, hne1, hne2, hne3⟩, ?_⟩
        · exact ((((hH.out.head.set_ne _ _ _ hne1).set_ne _ _ _ hne1).set_ne _ _ _ hne1).set_ne _ _ _ hne2)
        · refine Blk.eq ((((hH.out.rows.set _ _).set _ _).set _ _).set_ne _ _ _ hne3) ?_
          rw [rowsOf_set0 _ _ hlt (by omega), rowsOf_set _ _ hlt (by omega), rowsOf_set _ _ hlt (by omega)]
          apply rowsOf_congr
          intro p j hp hj
          by_cases e : p = k
          · subst e
            match j, hj with
            | 0, _ => simp [givenRow, Row.o]
            | 1, _ => simp [givenRow, Row.o]
            | 2, _ => simp [givenRow, Row.o]
          · simp [e]
        · refine Blk.eq ((((hH.out.taken.set_ne _ _ _ hne3.symm).set_ne _ _ _ hne3.symm).set_ne _ _ _ hne3.symm).set _ _) ?_
          rw [show k = k * 1 + 0 by omega, rowsOf_set _ _ hlt (by omega)]
          apply rowsOf_congr
          intro p j hp hj
          by_cases e : p = k
          · subst e
            obtain rfl : j = 0 := by omega
            simp [givenRow, Row.t]
          · simp [e]
        · exact ((((Kept.refl _ _).setCell (.inl (by simp)) _).setCell (.inl (by simp)) _).setCell (.inl (by simp)) _).setCell (.inl (by simp)) _
      · have e' : ((f k).handle == 0) = false := by simpa using e
        go_wp2_with fail
        go_round
        case rel => exact ⟨k + 1, by omega, by go_num, fun q hq => by
          rcases Nat.lt_succ_iff_lt_or_eq.1 hq with h | h
          · exact HB.out q h
          · subst h; exact e⟩
        case measure => simp [intOf]; omega
    · go_wp2_with (go_at_call 9; refine (rno_ok _ _ _ _).mono ?_; rintro e w' ⟨v, rfl, hv⟩)
      go_ret2
      refine ⟨_, rfl, ?_⟩
      unfold RMakeOut
      rw [freeOf_none (fun q hq => HB.out q (by omega))]
      exact ⟨_, rfl, hv⟩

def RFindOut (n : Nat) (f : Nat → Row) (h kind : Int) (w : World) (v : Value) (w' : World) : Prop :=
  match placeOf f n h with
  | some p => if (f p).kind = kind then v = .tuple #[.int .u64 (f p).addr, .pointer none] ∧ w = w' else ∃ x, v = .tuple #[.int .u64 0, x] ∧ FailOut sObjects 0 1 w x w'
  | none => ∃ x, v = .tuple #[.int .u64 0, x] ∧ FailOut sObjects 0 7 w x w'

set_option maxRecDepth 100000 in
set_option maxHeartbeats 1000000 in
theorem rfind_ok {w : World} {ro rl rt n : Nat} {f : Nat → Row} (hO : RObjs w ro rl rt n f) (hG : GoodF f n) (h kind : Int) (h0 : 0 ≤ h) (hh : h < 18446744073709551616) :
    Calls Tryd.prog 17 #[.pointer (some ⟨ro, 0, none⟩), .int .u64 h, .int .i64 kind] w fun e w' => ∃ v, e = .returned v ∧ RFindOut n f h kind w v w' := by
  have hof := place_ok hO hG h h0 hh
  have hn := hO.small
  cases hp : placeOf f n h with
  | none =>
    have HP := hid hp
    rw [placeI_none hp] at hof
    have HF := hid hof
    clear hp hof hO
    go_enter Tryd.func17, Tryd.ntmps17
    go_wp2_with (first | (go_at_call 30; refine HF.out.mono ?_; rintro e w' ⟨rfl, rfl⟩) | (go_at_call 9; refine (rno_ok _ _ _ _).mono ?_; rintro e w' ⟨v, rfl, hv⟩))
    go_ret2
    refine ⟨_, rfl, ?_⟩
    unfold RFindOut
    rw [HP.out]
    exact ⟨_, rfl, hv⟩
  | some k =>
    obtain ⟨hlt, -⟩ := placeOf_lt hp
    have c0 := hO.c0
    have c3 := hO.cell hlt 2 (by omega)
    have c4 := hO.cell hlt 1 (by omega)
    simp only [Row.o] at c3 c4
    have HP := hid hp
    rw [placeI_some hp] at hof
    have HF := hid hof
    clear hp hof hO
    by_cases e : (f k).kind = kind
    · have e' : ((f k).kind != kind) = false := by simpa using e
      have HE := hid e
      clear e
      go_enter Tryd.func17, Tryd.ntmps17
      go_wp2_with (first | (go_at_call 30; refine HF.out.mono ?_; rintro e w' ⟨rfl, rfl⟩))
      go_ret2
      refine ⟨_, rfl, ?_⟩
      unfold RFindOut
      rw [HP.out]
      show if (f k).kind = kind then _ else _
      rw [if_pos HE.out]
      exact ⟨rfl, rfl⟩
    · have e' : ((f k).kind != kind) = true := by simpa using e
      have HE := hid e
      clear e
      go_enter Tryd.func17, Tryd.ntmps17
      go_wp2_with (first | (go_at_call 30; refine HF.out.mono ?_; rintro e w' ⟨rfl, rfl⟩) | (go_at_call 9; refine (rno_ok _ _ _ _).mono ?_; rintro e w' ⟨v, rfl, hv⟩))
      go_ret2
      refine ⟨_, rfl, ?_⟩
      unfold RFindOut
      rw [HP.out]
      show if (f k).kind = kind then _ else _
      rw [if_neg HE.out]
      exact ⟨_, rfl, hv⟩

theorem rkind_ok {w : World} {ro rl rt n : Nat} {f : Nat → Row} (hO : RObjs w ro rl rt n f) (hG : GoodF f n) (h : Int) (h0 : 0 ≤ h) (hh : h < 18446744073709551616) :
    Calls Tryd.prog 21 #[.pointer (some ⟨ro, 0, none⟩), .int .u64 h] w fun e w' => e = .returned (.int .i64 (kindOf f n h)) ∧ w = w' := by
  have hof := place_ok hO hG h h0 hh
  have hn := hO.small
  unfold kindOf
  cases hp : placeOf f n h with
  | none =>
    rw [placeI_none hp] at hof
    have HF := hid hof
    clear hp hof hO
    go_enter Tryd.func21, Tryd.ntmps21
    go_wp2_with (first | (go_at_call 30; refine HF.out.mono ?_; rintro e w' ⟨rfl, rfl⟩))
    go_ret
    exact ⟨rfl, rfl⟩
  | some k =>
    obtain ⟨hlt, -⟩ := placeOf_lt hp
    have c0 := hO.c0
    have c3 := hO.cell hlt 2 (by omega)
    simp only [Row.o] at c3
    rw [placeI_some hp] at hof
    have HF := hid hof
    clear hp hof hO
    go_enter Tryd.func21, Tryd.ntmps21
    go_wp2_with (first | (go_at_call 30; refine HF.out.mono ?_; rintro e w' ⟨rfl, rfl⟩))
    go_ret
    exact ⟨rfl, rfl⟩

def RGoneOut (ro rl rt n : Nat) (f : Nat → Row) (h : Int) (w : World) (v : Value) (w' : World) : Prop :=
  match placeOf f n h with
  | some p => v = .pointer none ∧ RObjs w' ro rl rt n (fun q => if q = p then goneRow (f p) else f q) ∧ Kept [rl, rt] w w'
  | none => FailOut sObjects 0 7 w v w'

set_option maxRecDepth 100000 in
set_option maxHeartbeats 1000000 in
theorem rgone_ok {w : World} {ro rl rt n : Nat} {f : Nat → Row} (hO : RObjs w ro rl rt n f) (hG : GoodF f n) (h : Int) (h0 : 0 ≤ h) (hh : h < 18446744073709551616) :
    Calls Tryd.prog 19 #[.pointer (some ⟨ro, 0, none⟩), .int .u64 h] w fun e w' => ∃ v, e = .returned v ∧ RGoneOut ro rl rt n f h w v w' := by
  have hof := place_ok hO hG h h0 hh
  have hn := hO.small
  cases hp : placeOf f n h with
  | none =>
    have HP := hid hp
    rw [placeI_none hp] at hof
    have HF := hid hof
    clear hp hof hO
    go_enter Tryd.func19, Tryd.ntmps19
    go_wp2_with (first | (go_at_call 30; refine HF.out.mono ?_; rintro e w' ⟨rfl, rfl⟩) | (go_at_call 9; refine (rno_ok _ _ _ _).mono ?_; rintro e w' ⟨v, rfl, hv⟩))
    go_ret
    refine ⟨_, rfl, ?_⟩
    unfold RGoneOut
    rw [HP.out]
    exact hv
  | some k =>
    obtain ⟨hlt, -⟩ := placeOf_lt hp
    have c0 := hO.c0
    have d0 := hO.cell hlt 0 (by omega)
    have d1 := hO.cell hlt 1 (by omega)
    have d2 := hO.cell hlt 2 (by omega)
    have z0 := hO.rows.frozen (k * 3 + 0)
    have z1 := hO.rows.frozen (k * 3 + 1)
    have z2 := hO.rows.frozen (k * 3 + 2)
    simp only [Row.o, Nat.add_zero] at d0 d1 d2 z0
    have HP := hid hp
    rw [placeI_some hp] at hof
    have HF := hid hof
    have hH := hid hO
    clear hp hof hO
    go_enter Tryd.func19, Tryd.ntmps19
    go_wp2_with (first | (go_at_call 30; refine HF.out.mono ?_; rintro e w' ⟨rfl, rfl⟩))
    go_ret
    refine ⟨_, rfl, ?_⟩
    unfold RGoneOut
    rw [HP.out]
    refine ⟨rfl, ⟨?_, ?_, ?_, hn, hH.out.ne1, hH.out.ne2, hH.out.ne3⟩, ?_⟩
    · exact (((hH.out.head.set_ne _ _ _ hH.out.ne1).set_ne _ _ _ hH.out.ne1).set_ne _ _ _ hH.out.ne1)
    · refine Blk.eq (((hH.out.rows.set _ _).set _ _).set _ _) ?_
      rw [rowsOf_set0 _ _ hlt (by omega), rowsOf_set _ _ hlt (by omega), rowsOf_set _ _ hlt (by omega)]
      apply rowsOf_congr
      intro p j hp hj
      by_cases e : p = k
      · subst e
        match j, hj with
        | 0, _ => simp [goneRow, Row.o]
        | 1, _ => simp [goneRow, Row.o]
        | 2, _ => simp [goneRow, Row.o]
      · simp [e]
    · refine Blk.eq (((hH.out.taken.set_ne _ _ _ hH.out.ne3.symm).set_ne _ _ _ hH.out.ne3.symm).set_ne _ _ _ hH.out.ne3.symm) ?_
      apply rowsOf_congr
      intro p j hp hj
      by_cases e : p = k
      · subst e
        simp [goneRow, Row.t]
      · simp [e]
    · exact (((Kept.refl _ _).setCell (.inl (by simp)) _).setCell (.inl (by simp)) _).setCell (.inl (by simp)) _

def aliveR (f : Nat → Row) (n : Nat) : List Row := ((List.range n).filter fun p => (f p).handle != 0).map f
theorem aliveR_succ_no {f : Nat → Row} {n : Nat} (h : (f n).handle = 0) : aliveR f (n + 1) = aliveR f n := by
  simp [aliveR, List.range_succ, List.filter_append, h]
theorem aliveR_succ_yes {f : Nat → Row} {n : Nat} (h : (f n).handle ≠ 0) : aliveR f (n + 1) = aliveR f n ++ [f n] := by
  simp [aliveR, List.range_succ, List.filter_append, h]
theorem aliveR_length_le (f : Nat → Row) (n : Nat) : (aliveR f n).length ≤ n := by
  unfold aliveR
  rw [List.length_map]
  exact Nat.le_trans (List.length_filter_le _ _) (by simp)
theorem alive_aliveR (f : Nat → Row) (n : Nat) : alive f n = (aliveR f n).map fun r => (r.handle, r.addr) := by simp [alive, aliveR]
def objV (r : Row) : List Value := [.int .u64 r.handle, .int .u64 r.addr, .int .i64 r.kind]
def objsV (l : List Row) : List Value := l.flatMap objV
theorem objsV_snoc (l : List Row) (x : Row) : objsV (l ++ [x]) = objsV l ++ objV x := by simp [objsV]

set_option maxRecDepth 100000 in
set_option maxHeartbeats 1000000 in
theorem rAll_ok {w : World} {ro rl rt n : Nat} {f : Nat → Row} (hO : RObjs w ro rl rt n f) :
    Calls Tryd.prog 15 #[.pointer (some ⟨ro, 0, none⟩)] w fun e w' => ∃ v, e = .returned v ∧ w'.ownsRow w.heap.size 47 3 v (aliveR f n).length (objsV (aliveR f n)) ∧ Kept [] w w' := by
  have hn := hO.small
  have hH := hid hO
  clear hO
  go_enter Tryd.func15, Tryd.ntmps15
  go_wp2_with fail
  go_loopw [3, 4] (fun v i wr => ∃ k : Nat, k ≤ n ∧ i = .int .i64 k ∧ wr.ownsRow w.heap.size 47 3 v (aliveR f k).length (objsV (aliveR f k)) ∧ Kept [] w wr) (fun _ i _ => n - (intOf i).toNat)
  case atStart => exact ⟨0, Nat.zero_le _, rfl, ⟨rfl, .inl ⟨rfl, rfl⟩⟩, Kept.refl _ _⟩
  case round =>
    obtain ⟨k, hk, rfl, hv, hK⟩ := hrel
    have HV := hid hv
    have HK := hid hK
    clear hv hK
    have c0 := HK.out.cellSome hH.out.c0 (by simp)
    by_cases hlt : k < n
    · have d0 := HK.out.cellSome (hH.out.cell hlt 0 (by omega)) (by simp)
      have d1 := HK.out.cellSome (hH.out.cell hlt 1 (by omega)) (by simp)
      have d2 := HK.out.cellSome (hH.out.cell hlt 2 (by omega)) (by simp)
      simp only [Row.o, Nat.add_zero] at d0 d1 d2
      have hle := aliveR_length_le f k
      by_cases e : (f k).handle = 0
      · have e' : ((f k).handle != 0) = false := by simpa using e
        have HE := hid e
        clear e
        go_wp2_with fail
        go_roundw
        case rel => exact ⟨k + 1, by omega, by go_num, by rw [aliveR_succ_no HE.out]; exact HV.out, HK.out⟩
        case measure => simp [intOf]; omega
      · have e' : ((f k).handle != 0) = true := by simpa using e
        have HE := hid e
        clear e
        go_wp2_with (at_builtin; go_must (refine wp_app1 rfl _ _ 44 47 rfl Tryd.underlying44 info_object rfl (Nat.le_of_ble_eq_true rfl) w.heap.size u3 (aliveR f k).length (objsV (aliveR f k)) rfl ?c1 wr.heap.size 1 [.int .u64 (f k).handle, .int .u64 (f k).addr, .int .i64 (f k).kind] rfl rfl (Blk.newA _ _ rfl) ?c2 ?c3 (Nat.le_of_ble_eq_true rfl) ?c4 ?_))
        case c1 => exact own_keptN HV.out ((Kept.refl _ _).alloc _)
        case c2 => simp [Value.oneCell']
        case c3 => omega
        case c4 => have := HK.out.size; simp; omega
        intro gg cap' w3 hW hgg hK
        have HW3 := hid hW
        have HK4 := hid (((Kept.refl _ wr).alloc _).trans hK)
        clear hW hK
        go_wp2_with fail
        go_roundw
        case rel => exact ⟨k + 1, by omega, by go_num, by rw [aliveR_succ_yes HE.out, objsV_snoc, List.length_append]; exact HW3.out, HK.out.trans' HK4.out (fun x hx => .inr (own_ge HV.out x hx))⟩
        case measure => simp [intOf]; omega
    · obtain rfl : k = n := by omega
      go_wp2_with fail
      go_ret
      exact ⟨_, rfl, HV.out, HK.out⟩

end Go.Proofs.YtecagnhffgajhaaDoor
