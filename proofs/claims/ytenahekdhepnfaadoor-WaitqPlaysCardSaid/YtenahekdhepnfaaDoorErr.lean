/- Errors: errors.Is and errors.As at an *api.At that wraps an api.Err; distaffkeep's No, kind and Same. -/
import Derived.Test.YtenahekdhepnfaaDoorProg
import Derived.Test.YtenahekdhepnfaaDoorLib
import Derived.LaidEql
import Derived.Stop.Asserts
import Derived.RowKitTokens
import Derived.LoopN
import Derived.Deep.QuietTactic
import Derived.BigQuiet
namespace Go.Proofs.YtenahekdhepnfaaDoor
open Go Go.RowKit Go.Extern.Stop Go.Stop Go.Extern


/-! ### closed facts -/
theorem x_eq (a b : Int) (w : World) : (binOp .eql 24 (.iface 30 (.int .i64 a)) (.iface 30 (.int .i64 b))).run Tryd.prog w = .ok (.bool (a == b)) w := by kernel_rfl
theorem x_eqAt (a : Addr) (b : Int) (w : World) : (binOp .eql 24 (.iface 64 (.pointer (some a))) (.iface 30 (.int .i64 b))).run Tryd.prog w = .ok (.bool false) w := by kernel_rfl
theorem x_isErr (v : Value) (w : World) : (Instr.typeAssert (.iface 30 v) 24 120 true).run Tryd.prog w = .ok (.tuple #[.nilIface, .bool false]) w := run_typeAssert_lacksB Tryd.underlying120 (by kernel_rfl) (by kernel_rfl) v _ w
theorem x_isAt (v : Value) (w : World) : (Instr.typeAssert (.iface 64 v) 24 120 true).run Tryd.prog w = .ok (.tuple #[.nilIface, .bool false]) w := run_typeAssert_lacksB Tryd.underlying120 (by kernel_rfl) (by kernel_rfl) v _ w
theorem x_asErr (v : Value) (w : World) : (Instr.typeAssert (.iface 30 v) 24 111 true).run Tryd.prog w = .ok (.tuple #[.nilIface, .bool false]) w := run_typeAssert_lacksB Tryd.underlying111 (by kernel_rfl) (by kernel_rfl) v _ w
theorem x_unErr (v : Value) (w : World) : (Instr.typeAssert (.iface 30 v) 24 114 true).run Tryd.prog w = .ok (.tuple #[.nilIface, .bool false]) w := run_typeAssert_lacksB Tryd.underlying114 (by kernel_rfl) (by kernel_rfl) v _ w
theorem x_unAt (v : Value) (w : World) : (Instr.typeAssert (.iface 64 v) 24 114 true).run Tryd.prog w = .ok (.tuple #[.iface 64 v, .bool true]) w := by kernel_rfl
theorem x_unsErr (v : Value) (w : World) : (Instr.typeAssert (.iface 30 v) 24 116 true).run Tryd.prog w = .ok (.tuple #[.nilIface, .bool false]) w := run_typeAssert_lacksB Tryd.underlying116 (by kernel_rfl) (by kernel_rfl) v _ w
theorem x_unwrap (a : Addr) (w : World) : (Go.method 252 64 (.pointer (some a)) "Unwrap").run Tryd.prog w = .ok (73, .pointer (some a)) w := by kernel_rfl
theorem x_unwrapNil (a : Addr) (w : World) : (Go.nilAhead 252 64 (.pointer (some a)) "Unwrap").run Tryd.prog w = .ok (some false) w := by kernel_rfl
theorem x_typeOfErr (v : Value) (w : World) : (ReflectliteType.typeOf #[.iface 30 v]).run Tryd.prog w = .ok (.iface 107 (.agg #[.pointer (some ⟨1, 30, none⟩)])) w := by kernel_rfl
theorem x_methodComparable (h : Value) (w : World) : (Go.method 252 107 (.agg #[h]) "Comparable").run Tryd.prog w = .ok (79, .agg #[h]) w := by kernel_rfl
def cmpExt : Array Value → Sem Value := ReflectliteType.method fun t => do Rtype.noPackHeld "Comparable" t; pure (Value.bool (← typeInfo t).comparable)
theorem x_comparable (w : World) : (cmpExt #[.agg #[.pointer (some ⟨1, 30, none⟩)]]).run Tryd.prog w = .ok (.bool true) w := by kernel_rfl

/-- errors.Is of a kind in a kind. -/
theorem unwrap_ok (b : Nat) (layer : Value) (n : Value) (e : Value) (w : World) (h : Blk w b [layer, n, e]) :
    Calls Tryd.prog 73 #[.pointer (some ⟨b, 0, none⟩)] w fun r w' => r = .returned e ∧ w = w' := by
  have c2 := h.cell (o := 2) (v := e) rfl
  go_enter Tryd.func73, Tryd.ntmps73
  go_wp2
  go_ret
  exact ⟨rfl, rfl⟩

set_option maxRecDepth 100000 in
set_option maxHeartbeats 4000000 in
theorem is_at (b : Nat) (layer : Value) (n : Value) (k : Int) (t : Int) (w : World) (h : Blk w b [layer, n, .iface 30 (.int .i64 k)]) :
    Calls Tryd.prog 50 #[.iface 64 (.pointer (some ⟨b, 0, none⟩)), .iface 30 (.int .i64 t), .bool true] w fun r w' => r = .returned (.bool (k == t)) ∧ w = w' := by
  have e1 := x_eq
  have e2 := x_eqAt
  have e3 := x_isErr
  have e4 := x_isAt
  have e5 := x_unErr
  have e6 := x_unAt
  have e7 := x_unsErr
  have e8 := x_unwrap
  have e9 := x_unwrapNil
  have H := hid h
  clear h
  go_enter Tryd.func50, Tryd.ntmps50
  go_wp2_with fail
  refine wp_loop_rounds 2 ?_
  rw [rounds_succ]
  go_wp2_with (go_at_call 73; refine (unwrap_ok b layer n _ _ H.out).mono ?_; rintro e w' ⟨rfl, rfl⟩)
  rw [rounds_succ]
  cases hkt : (k == t) with
  | true =>
    go_wp2_with fail
    go_ret
    exact ⟨by rw [hkt]; rfl, rfl⟩
  | false =>
    go_wp2_with fail
    go_ret
    exact ⟨by rw [hkt]; rfl, rfl⟩

set_option maxRecDepth 100000 in
set_option maxHeartbeats 4000000 in
theorem Is_at (b : Nat) (layer : Value) (n : Value) (k : Int) (t : Int) (w : World) (h : Blk w b [layer, n, .iface 30 (.int .i64 k)]) :
    Calls Tryd.prog 38 #[.iface 64 (.pointer (some ⟨b, 0, none⟩)), .iface 30 (.int .i64 t)] w fun r w' => r = .returned (.bool (k == t)) ∧ w = w' := by
  have h1 := @run_callFunc_extern Tryd.prog 49 _ ReflectliteType.typeOf Tryd.func49 (by kernel_rfl) (by kernel_rfl) (by kernel_rfl) (by kernel_rfl)
  have h2 := @run_callFunc_extern Tryd.prog 79 _ cmpExt Tryd.func79 (by kernel_rfl) (by kernel_rfl) (by kernel_rfl) (by kernel_rfl)
  have e1 := x_typeOfErr
  have e2 := x_methodComparable
  have e3 := x_comparable
  have H := hid h
  clear h
  go_enter Tryd.func38, Tryd.ntmps38
  go_wp2_with (go_at_call 50; refine (is_at b layer n k t _ H.out).mono ?_; rintro e w' ⟨rfl, rfl⟩)
  go_ret
  exact ⟨rfl, rfl⟩

set_option maxRecDepth 100000 in
set_option maxHeartbeats 4000000 in
theorem kind_at (b : Nat) (layer : Value) (n : Value) (k : Int) (hk1 : 1 ≤ k) (hk2 : k ≤ 10) (w : World) (h : Blk w b [layer, n, .iface 30 (.int .i64 k)]) :
    Calls Tryd.prog 22 #[.iface 64 (.pointer (some ⟨b, 0, none⟩))] w fun r w' => r = .returned (.int .i64 k) ∧ w = w' := by
  have H := hid h
  clear h
  go_enter Tryd.func22, Tryd.ntmps22
  go_wp2_with fail
  go_loop [3, 4] (fun f i => ∃ j : Int, 1 ≤ j ∧ j ≤ 11 ∧ i = .int .i64 j ∧ f = .int .i64 (if k < j then k else 0)) (fun _ i => (11 - intOf i).toNat)
  case atStart => exact ⟨1, by omega, by omega, rfl, by rw [if_neg (by omega)]⟩
  case round =>
    obtain ⟨j, hj1, hj2, rfl, rfl⟩ := hrel
    by_cases hlt : j ≤ 10
    · by_cases e : k = j
      · subst e
        rw [if_neg (by omega)]
        go_wp2_with (go_at_call 38; refine (Is_at b layer n k k _ H.out).mono ?_; rintro e w' ⟨rfl, rfl⟩; rw [beq_self_eq_true k])
        go_round
        case rel => exact ⟨k + 1, by omega, by omega, rfl, by rw [if_pos (by omega)]⟩
        case measure => simp [intOf]; omega
      · have e' : (k == j) = false := by simpa using e
        have hf : (if k < j then k else 0) = if k < j + 1 then k else 0 := by
          by_cases h : k < j
          · rw [if_pos h, if_pos (by omega)]
          · rw [if_neg h, if_neg (by omega)]
        have HF := hid hf
        clear hf
        generalize hq : (if k < j then k else 0) = q at *
        have HQ := hid hq
        clear hq
        go_wp2_with (go_at_call 38; refine (Is_at b layer n k j _ H.out).mono ?_; rintro e w' ⟨rfl, rfl⟩; rw [e'])
        go_round
        case rel => exact ⟨j + 1, by omega, by omega, rfl, by rw [HF.out]⟩
        case measure => simp [intOf]; omega
    · rw [if_pos (by omega)]
      go_wp2_with fail
      go_ret
      exact ⟨rfl, rfl⟩

/-! ### errors.As: the entries for internal/reflectlite -/
def vofExt : Array Value → Sem Value := fun args => ReflectliteValue.unpack (args.getD 0 (.tuple #[]))
def typExt : Array Value → Sem Value := ReflectliteValue.methodAny (ReflectliteValue.valueError "reflectlite.Value.Type" 0) (fun t _ _ _ => ReflectliteType.toType t)
def nilExt : Array Value → Sem Value := ReflectliteValue.method (ReflectliteValue.valueError "reflectlite.Value.IsNil" 0) ReflectliteValue.isNil
def kndExt : Array Value → Sem Value := ReflectliteType.abiMethod fun t => do pure (.int .u8 (← Rtype.kind t))
def elmExt : Array Value → Sem Value := ReflectliteType.method ReflectliteType.elem
def impExt : Array Value → Sem Value := ReflectliteType.relation "Implements" ReflectliteType.implements_
def assExt : Array Value → Sem Value := ReflectliteType.relation "AssignableTo" ReflectliteType.assignableTo
def velExt : Array Value → Sem Value := ReflectliteValue.method (ReflectliteValue.valueError "reflectlite.Value.Elem" 0) ReflectliteValue.elem

theorem x_vof (t : Addr) (w : World) : (vofExt #[.iface 66 (.pointer (some t))]).run Tryd.prog w
    = .ok (.agg #[.pointer (some ⟨1, 66, none⟩), .pointer (some ⟨w.heap.size, 0, none⟩), .int .u64 150]) (w.alloc (.cells #[.pointer (some t)] 66)) := by kernel_rfl
theorem x_typ (a : Addr) (w : World) : (typExt #[.agg #[.pointer (some ⟨1, 66, none⟩), .pointer (some a), .int .u64 150]]).run Tryd.prog w = .ok (.iface 107 (.agg #[.pointer (some ⟨1, 66, none⟩)])) w := by kernel_rfl
theorem x_methodKind (h : Value) (w : World) : (Go.method 252 107 (.agg #[h]) "Kind").run Tryd.prog w = .ok (68, h) w := by kernel_rfl
theorem x_kindPP (w : World) : (kndExt #[.pointer (some ⟨1, 66, none⟩)]).run Tryd.prog w = .ok (.int .u8 22) w := by kernel_rfl
theorem x_kindP (w : World) : (kndExt #[.pointer (some ⟨1, 64, none⟩)]).run Tryd.prog w = .ok (.int .u8 22) w := by kernel_rfl
theorem rlm (z : Sem Value) (f : TypeId → Addr → Nat → Nat → Sem Value) (v : Value) :
    ReflectliteValue.method z f #[v] = (do match ← ReflectliteValue.parts v with | none => z | some (t, a, fl) => f t a fl (fl % 32)) := rfl
theorem x_parts (a : Addr) (w : World) : (ReflectliteValue.parts (.agg #[.pointer (some ⟨1, 66, none⟩), .pointer (some a), .int .u64 150])).run Tryd.prog w = .ok (some (66, a, 150)) w := by kernel_rfl
theorem x_isNil (a p : Addr) (W : World) (ha : W.cell? a = some (.pointer (some p))) :
    (nilExt #[.agg #[.pointer (some ⟨1, 66, none⟩), .pointer (some a), .int .u64 150]]).run Tryd.prog W = .ok (.bool false) W := by
  unfold nilExt
  rw [rlm]
  simp only [Sem.run_bind, x_parts, Result.andThen]
  simp [ReflectliteValue.isNil, loadVar, isAgg, underlying, Tryd.underlying66, ha, Result.andThen]
theorem x_methodElem (h : Value) (w : World) : (Go.method 252 107 (.agg #[h]) "Elem").run Tryd.prog w = .ok (80, .agg #[h]) w := by kernel_rfl
theorem x_methodImplements (h : Value) (w : World) : (Go.method 252 107 (.agg #[h]) "Implements").run Tryd.prog w = .ok (81, .agg #[h]) w := by kernel_rfl
theorem x_methodAssignableTo (h : Value) (w : World) : (Go.method 252 107 (.agg #[h]) "AssignableTo").run Tryd.prog w = .ok (78, .agg #[h]) w := by kernel_rfl
theorem x_elem (w : World) : (elmExt #[.agg #[.pointer (some ⟨1, 66, none⟩)]]).run Tryd.prog w = .ok (.iface 107 (.agg #[.pointer (some ⟨1, 64, none⟩)])) w := by kernel_rfl
theorem x_implements (w : World) : (impExt #[.agg #[.pointer (some ⟨1, 64, none⟩)], .iface 107 (.agg #[.pointer (some ⟨1, 24, none⟩)])]).run Tryd.prog w = .ok (.bool true) w := by kernel_rfl
theorem x_typeOfAt (v : Value) (w : World) : (ReflectliteType.typeOf #[.iface 64 v]).run Tryd.prog w = .ok (.iface 107 (.agg #[.pointer (some ⟨1, 64, none⟩)])) w := by kernel_rfl
theorem x_assAt (w : World) : (assExt #[.agg #[.pointer (some ⟨1, 64, none⟩)], .iface 107 (.agg #[.pointer (some ⟨1, 64, none⟩)])]).run Tryd.prog w = .ok (.bool true) w := by kernel_rfl
theorem x_assErr (w : World) : (assExt #[.agg #[.pointer (some ⟨1, 30, none⟩)], .iface 107 (.agg #[.pointer (some ⟨1, 64, none⟩)])]).run Tryd.prog w = .ok (.bool false) w := by kernel_rfl
theorem x_vofAt (e : Addr) (w : World) : (vofExt #[.iface 64 (.pointer (some e))]).run Tryd.prog w
    = .ok (.agg #[.pointer (some ⟨1, 64, none⟩), .pointer (some ⟨w.heap.size, 0, none⟩), .int .u64 150]) (w.alloc (.cells #[.pointer (some e)] 64)) := by kernel_rfl
theorem x_elemOf (w : World) : (Rtype.elem? 66).run Tryd.prog w = .ok (some 64) w := by kernel_rfl
theorem x_mk (p : Addr) (w : World) : (ReflectliteValue.mk 64 p ReflectliteValue.flagAddr).run Tryd.prog w = .ok (.agg #[.pointer (some ⟨1, 64, none⟩), .pointer (some p), .int .u64 406]) w := by kernel_rfl
theorem x_velem (a p : Addr) (W : World) (ha : W.cell? a = some (.pointer (some p))) :
    (velExt #[.agg #[.pointer (some ⟨1, 66, none⟩), .pointer (some a), .int .u64 150]]).run Tryd.prog W
      = .ok (.agg #[.pointer (some ⟨1, 64, none⟩), .pointer (some p), .int .u64 406]) W := by
  unfold velExt
  rw [rlm]
  simp only [Sem.run_bind, x_parts, Result.andThen]
  simp [ReflectliteValue.elem, loadVar, isAgg, underlying, Tryd.underlying66, ha, Result.andThen, x_elemOf, x_mk]
theorem rls (v x : Value) : ReflectliteValue.set #[v, x] = (do
    let (some (dst, a, fl), some (src, b, _)) := (← ReflectliteValue.parts v, ← ReflectliteValue.parts x)
      | unsupported (.noEntry "extern/(internal/reflectlite.Value).Set.zeroValue")
    if fl / ReflectliteValue.flagAddr % 2 == 0 then unsupported (.noEntry "extern/(internal/reflectlite.Value).Set.unaddressable")
    let val ← loadVar src b
    if ← Rtype.directlyAssignable dst src then storeVar dst a val
    else if ← Rtype.implements dst src then
      if (← Rtype.kind src) == 20 then
        match val with
        | .nilIface => unsupported (.noEntry "extern/reflectlite: a nil value of one interface type handed on as a value of another")
        | _ => storeVar dst a val
      else storeVar dst a (.iface src val)
    else panicString ("reflectlite.Set: value of type " ++ (← Rtype.spelt src) ++ " is not assignable to type " ++ (← Rtype.spelt dst))
    pure (.tuple #[])) := rfl
theorem x_partsA (a : Addr) (w : World) : (ReflectliteValue.parts (.agg #[.pointer (some ⟨1, 64, none⟩), .pointer (some a), .int .u64 406])).run Tryd.prog w = .ok (some (64, a, 406)) w := by kernel_rfl
theorem x_partsB (a : Addr) (w : World) : (ReflectliteValue.parts (.agg #[.pointer (some ⟨1, 64, none⟩), .pointer (some a), .int .u64 150])).run Tryd.prog w = .ok (some (64, a, 150)) w := by kernel_rfl
theorem x_direct (w : World) : (Rtype.directlyAssignable 64 64).run Tryd.prog w = .ok true w := by kernel_rfl
theorem x_set (ta b e : Addr) (old : Value) (W : World) (hb : W.cell? b = some (.pointer (some e))) (ht : W.cell? ta = some old) (hf : W.frozen? ta = false) :
    (ReflectliteValue.set #[.agg #[.pointer (some ⟨1, 64, none⟩), .pointer (some ta), .int .u64 406], .agg #[.pointer (some ⟨1, 64, none⟩), .pointer (some b), .int .u64 150]]).run Tryd.prog W
      = .ok (.tuple #[]) (W.setCell ta (.pointer (some e))) := by
  rw [rls]
  simp only [Sem.run_bind, x_partsA, x_partsB, Result.andThen]
  simp [ReflectliteValue.flagAddr, loadVar, isAgg, underlying, Tryd.underlying64, hb, Result.andThen, x_direct, storeVar, Value.cells, storeCells, Addr.add]
  rw [run_store Tryd.prog W ta _ _ (by rfl)]
  simp [ht, hf]

/-- errors.errorType holds reflectlite's handle of the type error. -/
def Laid (w : World) : Prop := w.cell? ⟨0, 0, none⟩ = some (.iface 107 (.agg #[.pointer (some ⟨1, 24, none⟩)]))
theorem Laid.kept {S : List Nat} {w w' : World} (h : Laid w) (k : Kept S w w') (h0 : 0 ∉ S) : Laid w' := k.cellSome h h0
theorem Laid.keptN {w w' : World} (h : Laid w) (k : Kept [] w w') : Laid w' := k.cellSome h (by simp)
theorem Laid.pos {w : World} (h : Laid w) : 0 < w.heap.size := World.block_lt_of_cell? _ _ h

set_option maxRecDepth 100000 in
set_option maxHeartbeats 4000000 in
theorem as_hit (e : Addr) (t : Nat) (old : Value) (w : World) (hg : Laid w) (ht0 : Blk w t [old]) :
    Calls Tryd.prog 23 #[.iface 64 (.pointer (some e)), .iface 66 (.pointer (some ⟨t, 0, none⟩))] w fun ev w' => ev = .returned (.bool true) ∧ Blk w' t [.pointer (some e)] ∧ Kept [t] w w' := by
  have h6 := @run_callFunc_extern Tryd.prog 39 _ vofExt Tryd.func39 (by kernel_rfl) (by kernel_rfl) (by kernel_rfl) (by kernel_rfl)
  have h7 := @run_callFunc_extern Tryd.prog 40 _ typExt Tryd.func40 (by kernel_rfl) (by kernel_rfl) (by kernel_rfl) (by kernel_rfl)
  have h8 := @run_callFunc_extern Tryd.prog 41 _ nilExt Tryd.func41 (by kernel_rfl) (by kernel_rfl) (by kernel_rfl) (by kernel_rfl)
  have h27 := @run_callFunc_extern Tryd.prog 68 _ kndExt Tryd.func68 (by kernel_rfl) (by kernel_rfl) (by kernel_rfl) (by kernel_rfl)
  have h37 := @run_callFunc_extern Tryd.prog 80 _ elmExt Tryd.func80 (by kernel_rfl) (by kernel_rfl) (by kernel_rfl) (by kernel_rfl)
  have h38 := @run_callFunc_extern Tryd.prog 81 _ impExt Tryd.func81 (by kernel_rfl) (by kernel_rfl) (by kernel_rfl) (by kernel_rfl)
  have h10 := @run_callFunc_extern Tryd.prog 49 _ ReflectliteType.typeOf Tryd.func49 (by kernel_rfl) (by kernel_rfl) (by kernel_rfl) (by kernel_rfl)
  have h35 := @run_callFunc_extern Tryd.prog 78 _ assExt Tryd.func78 (by kernel_rfl) (by kernel_rfl) (by kernel_rfl) (by kernel_rfl)
  have h11 := @run_callFunc_extern Tryd.prog 51 _ velExt Tryd.func51 (by kernel_rfl) (by kernel_rfl) (by kernel_rfl) (by kernel_rfl)
  have h12 := @run_callFunc_extern Tryd.prog 52 _ ReflectliteValue.set Tryd.func52 (by kernel_rfl) (by kernel_rfl) (by kernel_rfl) (by kernel_rfl)
  have tO := x_typeOfAt
  have mA := x_methodAssignableTo
  have a25 := x_assAt
  have v25 := x_vofAt
  have f6 := x_vof
  have f7 := x_typ
  have mK := x_methodKind
  have mE := x_methodElem
  have mI := x_methodImplements
  have k27 := x_kindPP
  have k25 := x_kindP
  have e27 := x_elem
  have i25 := x_implements
  have hlt := hg.pos
  have htl := ht0.lt
  have T0 := hid ht0
  have n8 := x_isNil ⟨w.heap.size, 0, none⟩ ⟨t, 0, none⟩ ((w.alloc (.cells #[.pointer (some ⟨t, 0, none⟩)] 66)).alloc (.cells #[.pointer (some ⟨1, 66, none⟩), .pointer (some ⟨w.heap.size, 0, none⟩), .int .u64 150] 88)) (by simp)
  have hg2 := (hg.keptN ((((Kept.refl [] w).alloc (.cells #[.pointer (some ⟨t, 0, none⟩)] 66)).alloc (.cells #[.pointer (some ⟨1, 66, none⟩), .pointer (some ⟨w.heap.size, 0, none⟩), .int .u64 150] 88))))
  unfold Laid at hg2
  have el := x_velem ⟨w.heap.size, 0, none⟩ ⟨t, 0, none⟩ (((w.alloc (.cells #[.pointer (some ⟨t, 0, none⟩)] 66)).alloc (.cells #[.pointer (some ⟨1, 66, none⟩), .pointer (some ⟨w.heap.size, 0, none⟩), .int .u64 150] 88)).alloc (.cells #[.pointer (some ⟨1, 66, none⟩), .pointer (some ⟨w.heap.size, 0, none⟩), .int .u64 150] 88)) (by rw [World.cell?_alloc_lt _ _ ⟨w.heap.size, 0, none⟩ (by simp; omega)]; simp)
  have hT3 := ((((ht0.alloc (.cells #[.pointer (some ⟨t, 0, none⟩)] 66)).alloc (.cells #[.pointer (some ⟨1, 66, none⟩), .pointer (some ⟨w.heap.size, 0, none⟩), .int .u64 150] 88)).alloc (.cells #[.pointer (some ⟨1, 66, none⟩), .pointer (some ⟨w.heap.size, 0, none⟩), .int .u64 150] 88)).alloc (.cells #[.pointer (some e)] 64))
  have st := x_set ⟨t, 0, none⟩ ⟨w.heap.size + 1 + 1 + 1, 0, none⟩ e old ((((w.alloc (.cells #[.pointer (some ⟨t, 0, none⟩)] 66)).alloc (.cells #[.pointer (some ⟨1, 66, none⟩), .pointer (some ⟨w.heap.size, 0, none⟩), .int .u64 150] 88)).alloc (.cells #[.pointer (some ⟨1, 66, none⟩), .pointer (some ⟨w.heap.size, 0, none⟩), .int .u64 150] 88)).alloc (.cells #[.pointer (some e)] 64))
    (by rw [World.cell?_alloc_at _ _ _ _ (by simp)]; rfl) (hT3.cell rfl) (hT3.frozen 0)
  clear ht0 hT3 hg
  go_enter Tryd.func23, Tryd.ntmps23
  go_wp2
  refine wp_loop_rounds 1 ?_
  rw [rounds_succ]
  go_wp2
  go_ret
  refine ⟨rfl, ?_, ?_⟩
  · exact ((((T0.out.alloc _).alloc _).alloc _).alloc _).set 0 _
  · exact ((((Kept.refl _ _).alloc _).alloc _).alloc _).alloc _ |>.setCell (.inl (by simp)) _

end Go.Proofs.YtenahekdhepnfaaDoor
