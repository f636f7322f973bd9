/-
  No cell of these rows narrows 'for every input' (looked for: loops, veiled, ifaces, maps, wideKeys, modest, calm, conditions, laid).
  DERIVED. THE GIVEN ROWS OF THIS SEAT. 3 by the template 'for every input the law returns true; each argument reads behind the call as it read before'; 0 by the template 'total and deterministic' (their statements: YtcaikpfdhdbioaaTotals.lean).
  GIVEN WITH THE SEED: the statements are not yours to turn. If you find one false, say at which input.
  Laid BY PROGRAM, IN A SANDBOX (cutbox-rows.mjs): the forced cells as the released guide's own fill.sh prints them over the translation d7b54888eedcd970… (all of the seat's roots in one cut). By AI agents, Wed Nov 11 2026. No macro, syntax, notation, axiom, sorry.
-/
import Derived.Test.YtcaikpfdhdbioaaChecked
import GoSem.Claim
import GoSem.ClaimJoined
import GoSem.ClaimMapViews
import Derived.JoinedTies
import Derived.KernelRfl
namespace Go.Proofs.Ytcaikpfdhdbioaa
/- THE CELL 'sum', in the pinned program and in every row, IS THE sha256 OF THE DUMP (.gsa) THAT YtcaikpfdhdbioaaProg.lean LOADS. Nothing in Lean hashes anything: it is a label: what it is worth is what the hold of that sum in a sandbox is worth. -/
noncomputable def Try.pinned : Pinned := { name := "ytcaikpfdhdbioaa", sum := "d7b54888eedcd970f137f6af410c2a10440fa12310ed8b6209a36fc20b8726e1", checked := Try.checked }
namespace Rows
def none {H : Type} : Left H := { results := [], args := [] }

/-- 'distafflaw08.ClockOwn': WHATEVER THE INPUT: true; the input reads as it did. -/
def clockOwnSpec : ChangeSpec := { name := "clockOwn", fn := fun _ => fun
  | [d] => { results := [.lit (.bool true)], args := [d] }
  | _ => none }
def clockOwnRow : OpenClaim := { program := "ytcaikpfdhdbioaa", sum := "d7b54888eedcd970f137f6af410c2a10440fa12310ed8b6209a36fc20b8726e1", func := "distaff/distafflaw08.ClockOwn", spec := "clockOwn", apart := false }
def ClockOwnSaid : Prop := clockOwnRow.holds Try.pinned (OpenSpec.ofChange clockOwnSpec)

/-- ITS FALSE NEIGHBOUR: 'it returns false'. Refute it at one input. -/
def clockOwnWrong : ChangeSpec := { name := "clockOwn", fn := fun _ => fun
  | [d] => { results := [.lit (.bool false)], args := [d] }
  | _ => none }
def ClockOwnWrongFalsely : Prop := clockOwnRow.holds Try.pinned (OpenSpec.ofChange clockOwnWrong)

/-- 'distafflaw08.ClockOnce': WHATEVER THE INPUT: true; the input reads as it did. -/
def clockOnceSpec : ChangeSpec := { name := "clockOnce", fn := fun _ => fun
  | [d] => { results := [.lit (.bool true)], args := [d] }
  | _ => none }
def clockOnceRow : OpenClaim := { program := "ytcaikpfdhdbioaa", sum := "d7b54888eedcd970f137f6af410c2a10440fa12310ed8b6209a36fc20b8726e1", func := "distaff/distafflaw08.ClockOnce", spec := "clockOnce", apart := false }
def ClockOnceSaid : Prop := clockOnceRow.holds Try.pinned (OpenSpec.ofChange clockOnceSpec)

/-- ITS FALSE NEIGHBOUR: 'it returns false'. Refute it at one input. -/
def clockOnceWrong : ChangeSpec := { name := "clockOnce", fn := fun _ => fun
  | [d] => { results := [.lit (.bool false)], args := [d] }
  | _ => none }
def ClockOnceWrongFalsely : Prop := clockOnceRow.holds Try.pinned (OpenSpec.ofChange clockOnceWrong)

/-- 'distafflaw08.ClockAfter': WHATEVER THE INPUT: true; the input reads as it did. -/
def clockAfterSpec : ChangeSpec := { name := "clockAfter", fn := fun _ => fun
  | [d1, d2] => { results := [.lit (.bool true)], args := [d1, d2] }
  | _ => none }
def clockAfterRow : OpenClaim := { program := "ytcaikpfdhdbioaa", sum := "d7b54888eedcd970f137f6af410c2a10440fa12310ed8b6209a36fc20b8726e1", func := "distaff/distafflaw08.ClockAfter", spec := "clockAfter", apart := false }
def ClockAfterSaid : Prop := clockAfterRow.holds Try.pinned (OpenSpec.ofChange clockAfterSpec)

/-- ITS FALSE NEIGHBOUR: 'it returns false'. Refute it at one input. -/
def clockAfterWrong : ChangeSpec := { name := "clockAfter", fn := fun _ => fun
  | [d1, d2] => { results := [.lit (.bool false)], args := [d1, d2] }
  | _ => none }
def ClockAfterWrongFalsely : Prop := clockAfterRow.holds Try.pinned (OpenSpec.ofChange clockAfterWrong)

/- THE SECOND FORM. 'bulk': how many values and letters a reading holds, each counted each time it is reached (what is shared counts as often as it is met; a slice's spare places count too). A statement '..UptoSaid' is the law's where the arguments, and the package variables that the reading takes, are together of bulk at most 1048576: NARROWER than '..Said'. Prove '..Said' where nothing that the law and all that it calls make is longer than what came in: it says more and counts as full. Else prove '..UptoSaid'. A law counts once. -/
mutual
def uptoBulk {H : Type} : DataW H → Nat
  | .lit (.string bytes) => bytes.length + 1
  | .lit _ => 1
  | .nil => 1
  | .ptr d => uptoBulk d + 1
  | .slice elems spare => uptoBulkAll elems + uptoBulkAll spare + 1
  | .agg parts => uptoBulkAll parts + 1
  | .iface _ d => uptoBulk d + 1
  | .map entries => uptoBulkEntries entries + 1
  | .held _ => 1
def uptoBulkAll {H : Type} : List (DataW H) → Nat
  | [] => 0
  | d :: r => uptoBulk d + uptoBulkAll r
def uptoBulkEntries {H : Type} : List (Lit × DataW H) → Nat
  | [] => 0
  | x :: r => uptoBulkEntry x + uptoBulkEntries r
def uptoBulkEntry {H : Type} : Lit × DataW H → Nat
  | (.string bytes, d) => bytes.length + uptoBulk d + 1
  | (_, d) => uptoBulk d + 1
 end
def uptoSmall : (H : Type) → List (DataW H) → Bool := fun _ ds => decide (uptoBulkAll ds ≤ 1048576)
def OpenSpec.upto (s : _root_.Go.ChangeSpec) : _root_.Go.OpenSpec := { _root_.Go.OpenSpec.ofChange s with cond := some uptoSmall }

/-- 'distafflaw08.ClockOwn', WHERE WHAT IT READS IS OF BULK AT MOST 1048576: true; the input reads as it did. -/
def clockOwnUptoRow : OpenClaim := { program := "ytcaikpfdhdbioaa", sum := "d7b54888eedcd970f137f6af410c2a10440fa12310ed8b6209a36fc20b8726e1", func := "distaff/distafflaw08.ClockOwn", spec := "clockOwn", apart := false, narrowed := true }
def ClockOwnUptoSaid : Prop := clockOwnUptoRow.holds Try.pinned (OpenSpec.upto clockOwnSpec)

/-- 'distafflaw08.ClockOnce', WHERE WHAT IT READS IS OF BULK AT MOST 1048576: true; the input reads as it did. -/
def clockOnceUptoRow : OpenClaim := { program := "ytcaikpfdhdbioaa", sum := "d7b54888eedcd970f137f6af410c2a10440fa12310ed8b6209a36fc20b8726e1", func := "distaff/distafflaw08.ClockOnce", spec := "clockOnce", apart := false, narrowed := true }
def ClockOnceUptoSaid : Prop := clockOnceUptoRow.holds Try.pinned (OpenSpec.upto clockOnceSpec)

/-- 'distafflaw08.ClockAfter', WHERE WHAT IT READS IS OF BULK AT MOST 1048576: true; the input reads as it did. -/
def clockAfterUptoRow : OpenClaim := { program := "ytcaikpfdhdbioaa", sum := "d7b54888eedcd970f137f6af410c2a10440fa12310ed8b6209a36fc20b8726e1", func := "distaff/distafflaw08.ClockAfter", spec := "clockAfter", apart := false, narrowed := true }
def ClockAfterUptoSaid : Prop := clockAfterUptoRow.holds Try.pinned (OpenSpec.upto clockAfterSpec)

end Rows
end Go.Proofs.Ytcaikpfdhdbioaa
