/- Look-ups in maps inside a region that draws its order and only reads, up to its last operation. No program in sight. -/
import Derived.Test.YtcaikpfdhdbioaaDoorMap
import Derived.StillTailTactics
namespace Go.Proofs.YtcaikpfdhdbioaaDoor
open Go Go.RowKit

theorem wpStill_of {P : Program} {ops : Array Oper} {w : World} {Q : Act → Prop} {o : Oper} {rest : List Oper} {a : Act} {v : Value} (hg : o.guard = none) (hrun : (execOp a.eval o).run P w = .ok (.value v) w) (h : wpStill P ops w Q rest (a.put o.dst v)) : wpStill P ops w Q (o :: rest) a := by
  show if Region.wanted o (yielded ops a.tmps) then o.still P a w (wpStill P ops w Q rest) else wpStill P ops w Q rest (a.put o.dst undef)
  rw [if_pos (by simp [Region.wanted, hg])]
  unfold Oper.still
  rw [hrun, Oper.stillUpon_value]
  exact h
/-- 'm[k]' and 'v, ok := m[k]'. -/
theorem wpStill_mapGet {P : Program} {ops : Array Oper} {w : World} {Q : Act → Prop} {o : Oper} {rest : List Oper} {a : Act} (hg : o.guard = none) (m x : Operand) (t kt et : TypeId) (c : Bool) (hop : o.op = Op.lookup t m x c)
    (ht : P.underlying t = some (.map kt et)) {q : IntKind} (hk : P.underlying kt = some (.int q)) {z : Value} (hz : (zeroValue et).run P w = .ok z w) {b n : Nat} {f : Int → Option Value} (hm : a.eval m = .map (some b)) (h : MapIs w q b n f) {key : Int} (hw : (Lit.int q key).wf = true) (hx : a.eval x = .int q key)
    (hK : wpStill P ops w Q rest (a.put o.dst (if c then .tuple #[(f key).getD z, .bool (f key).isSome] else (f key).getD z))) : wpStill P ops w Q (o :: rest) a := by
  refine wpStill_of hg ?_ hK
  have hrun := h.run_lookup ht hk hz hw c
  simp [execOp, hop, hm, hx, hrun, Result.andThen]
/-- 'm[k]', where something is there. -/
theorem wpStill_mapGet1 {P : Program} {ops : Array Oper} {w : World} {Q : Act → Prop} {o : Oper} {rest : List Oper} {a : Act} (hg : o.guard = none) (m x : Operand) (t kt et : TypeId) (hop : o.op = Op.lookup t m x false)
    (ht : P.underlying t = some (.map kt et)) {q : IntKind} (hk : P.underlying kt = some (.int q)) {z : Value} (hz : (zeroValue et).run P w = .ok z w) {b n : Nat} {f : Int → Option Value} (hm : a.eval m = .map (some b)) (h : MapIs w q b n f) {key : Int} (hw : (Lit.int q key).wf = true) (hx : a.eval x = .int q key) {v : Value} (hf : f key = some v)
    (hK : wpStill P ops w Q rest (a.put o.dst v)) : wpStill P ops w Q (o :: rest) a :=
  wpStill_mapGet hg m x t kt et false hop ht hk hz hm h hw hx (by rw [hf]; exact hK)

end Go.Proofs.YtcaikpfdhdbioaaDoor
