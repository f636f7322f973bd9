/- Regions that draw their order and hold one call in their midst: the forced operations one by one, then one quiet walk. No program in sight. -/
import Derived.RegionTactic
import Derived.Deep.Quiet
import Derived.Deep.QuietTactic
import Derived.BigQuiet
import Derived.WalkKit
namespace Go.Proofs.YtenahekdhepnfaaDoor
open Go
variable {P : Program} {ops : Array Oper} {Q : Exit → Act → World → Prop}

/-- One operation alone may come up. -/
theorem wpAny_one {i : Nat} {o : Oper} {fuel : Nat} {listed : Array Bool} {a : Act} {w : World} (hr : Region.ready .any ops listed = [i]) (ho : ops[i]? = some o) (hw : Region.wanted o (yielded ops a.tmps) = true)
    (h : ∀ K' : Act → World → Prop, (∀ a w, wpAny P .any ops Q fuel (listed.setIfInBounds i true) a w → K' a w) → Oper.wp P o a w K' Q) : wpAny P .any ops Q (fuel + 1) listed a w :=
  wpAny_ready hr (by simp) (AllReady.cons ho (fun K' hK => by rw [if_pos hw]; exact h K' hK) AllReady.nil)

/-- From here on all is quiet: the operations from k on, in the text's order. -/
theorem wpAny_quiet_from {fuel : Nat} {listed : Array Bool} {a : Act} {w : World} (k : Nat) (l : List Oper) (hl : ops.toList.drop k = l) (hlen : fuel = l.length) (hs : Region.noSelect ops = true)
    (hB : Region.lexFrom .any ops l.length k listed = true) (h : wpQuiet P ops (fun w' => ∃ n, w' = w.drewN n) (fun a' => ∀ w', (∃ n, w' = w.drewN n) → Q .normal a' w') l a) : wpAny P .any ops Q fuel listed a w := by
  subst hlen
  refine wpAny_of_quiet (C := fun w' => ∃ n, w' = w.drewN n) (Q := fun a' => ∀ w', (∃ n, w' = w.drewN n) → Q .normal a' w') (fun _ w' hw' h => h w' hw') _ _ _ _ ⟨0, rfl⟩ (wpAnyQ_lex hs l k listed a ?_ hB h)
  intro j
  rw [← hl, List.getElem?_drop, Array.getElem?_toList]

end Go.Proofs.YtenahekdhepnfaaDoor
