/-
  No cell of these rows narrows 'for every input' (looked for: loops, veiled, ifaces, maps, wideKeys, modest, calm, conditions, laid).
  DERIVED. THE GIVEN ROWS OF THIS SEAT. 4 by the template 'for every input the law returns true; each argument reads behind the call as it read before'; 0 by the template 'total and deterministic' (their statements: YtfjmpjmkdboclaaTotals.lean).
  GIVEN WITH THE SEED: the statements are not yours to turn. If you find one false, say at which input.
  Laid BY PROGRAM, IN A SANDBOX (cutbox-rows.mjs): the forced cells as the released guide's own fill.sh prints them over the translation 6344259bf9d9c817… (all of the seat's roots in one cut). By AI agents, Wed Nov 11 2026. No macro, syntax, notation, axiom, sorry.
-/
import Derived.Test.YtfjmpjmkdboclaaChecked
import GoSem.Claim
import GoSem.ClaimJoined
import GoSem.ClaimMapViews
import Derived.JoinedTies
import Derived.KernelRfl
namespace Go.Proofs.Ytfjmpjmkdboclaa
/- THE CELL 'sum', in the pinned program and in every row, IS THE sha256 OF THE DUMP (.gsa) THAT YtfjmpjmkdboclaaProg.lean LOADS. Nothing in Lean hashes anything: it is a label: what it is worth is what the hold of that sum in a sandbox is worth. -/
noncomputable def Try.pinned : Pinned := { name := "ytfjmpjmkdboclaa", sum := "6344259bf9d9c817701a62edc90c2ff3a6fbd27e35105247256b6a90b0172193", checked := Try.checked }
namespace Rows
def none {H : Type} : Left H := { results := [], args := [] }

/-- 'sennetlaw04.RowsFewer': WHATEVER THE INPUT: true; the input reads as it did. -/
def rowsFewerSpec : ChangeSpec := { name := "rowsFewer", fn := fun _ => fun
  | [d1, d2, d3] => { results := [.lit (.bool true)], args := [d1, d2, d3] }
  | _ => none }
def rowsFewerRow : OpenClaim := { program := "ytfjmpjmkdboclaa", sum := "6344259bf9d9c817701a62edc90c2ff3a6fbd27e35105247256b6a90b0172193", func := "sennet/sennetlaw04.RowsFewer", spec := "rowsFewer", unfollowed := true, recurses := true, apart := false }
def RowsFewerSaid : Prop := rowsFewerRow.holds Try.pinned (OpenSpec.ofChange rowsFewerSpec)

/-- ITS FALSE NEIGHBOUR: 'it returns false'. Refute it at one input. -/
def rowsFewerWrong : ChangeSpec := { name := "rowsFewer", fn := fun _ => fun
  | [d1, d2, d3] => { results := [.lit (.bool false)], args := [d1, d2, d3] }
  | _ => none }
def RowsFewerWrongFalsely : Prop := rowsFewerRow.holds Try.pinned (OpenSpec.ofChange rowsFewerWrong)

/-- 'sennetlaw04.RowsCircles': WHATEVER THE INPUT: true; the input reads as it did. -/
def rowsCirclesSpec : ChangeSpec := { name := "rowsCircles", fn := fun _ => fun
  | [d] => { results := [.lit (.bool true)], args := [d] }
  | _ => none }
def rowsCirclesRow : OpenClaim := { program := "ytfjmpjmkdboclaa", sum := "6344259bf9d9c817701a62edc90c2ff3a6fbd27e35105247256b6a90b0172193", func := "sennet/sennetlaw04.RowsCircles", spec := "rowsCircles", unfollowed := true, recurses := true, apart := false }
def RowsCirclesSaid : Prop := rowsCirclesRow.holds Try.pinned (OpenSpec.ofChange rowsCirclesSpec)

/-- ITS FALSE NEIGHBOUR: 'it returns false'. Refute it at one input. -/
def rowsCirclesWrong : ChangeSpec := { name := "rowsCircles", fn := fun _ => fun
  | [d] => { results := [.lit (.bool false)], args := [d] }
  | _ => none }
def RowsCirclesWrongFalsely : Prop := rowsCirclesRow.holds Try.pinned (OpenSpec.ofChange rowsCirclesWrong)

/-- 'sennetlaw04.RowsMust': WHATEVER THE INPUT: true; the input reads as it did. -/
def rowsMustSpec : ChangeSpec := { name := "rowsMust", fn := fun _ => fun
  | [d1, d2] => { results := [.lit (.bool true)], args := [d1, d2] }
  | _ => none }
def rowsMustRow : OpenClaim := { program := "ytfjmpjmkdboclaa", sum := "6344259bf9d9c817701a62edc90c2ff3a6fbd27e35105247256b6a90b0172193", func := "sennet/sennetlaw04.RowsMust", spec := "rowsMust", unfollowed := true, recurses := true, apart := false }
def RowsMustSaid : Prop := rowsMustRow.holds Try.pinned (OpenSpec.ofChange rowsMustSpec)

/-- ITS FALSE NEIGHBOUR: 'it returns false'. Refute it at one input. -/
def rowsMustWrong : ChangeSpec := { name := "rowsMust", fn := fun _ => fun
  | [d1, d2] => { results := [.lit (.bool false)], args := [d1, d2] }
  | _ => none }
def RowsMustWrongFalsely : Prop := rowsMustRow.holds Try.pinned (OpenSpec.ofChange rowsMustWrong)

/-- 'sennetlaw04.RowsNoLess': WHATEVER THE INPUT: true; the input reads as it did. -/
def rowsNoLessSpec : ChangeSpec := { name := "rowsNoLess", fn := fun _ => fun
  | [d1, d2, d3] => { results := [.lit (.bool true)], args := [d1, d2, d3] }
  | _ => none }
def rowsNoLessRow : OpenClaim := { program := "ytfjmpjmkdboclaa", sum := "6344259bf9d9c817701a62edc90c2ff3a6fbd27e35105247256b6a90b0172193", func := "sennet/sennetlaw04.RowsNoLess", spec := "rowsNoLess", unfollowed := true, recurses := true, apart := false }
def RowsNoLessSaid : Prop := rowsNoLessRow.holds Try.pinned (OpenSpec.ofChange rowsNoLessSpec)

/-- ITS FALSE NEIGHBOUR: 'it returns false'. Refute it at one input. -/
def rowsNoLessWrong : ChangeSpec := { name := "rowsNoLess", fn := fun _ => fun
  | [d1, d2, d3] => { results := [.lit (.bool false)], args := [d1, d2, d3] }
  | _ => none }
def RowsNoLessWrongFalsely : Prop := rowsNoLessRow.holds Try.pinned (OpenSpec.ofChange rowsNoLessWrong)

/- THE SECOND FORM. 'bulk': how many values and letters a reading holds, each counted each time it is reached (what is shared counts as often as it is met; a slice's spare places count too). A statement '..UptoSaid' is the law's where the arguments, and the package variables that the reading takes, are together of bulk at most 1048576: NARROWER than '..Said'. Prove '..Said' where nothing that the law and all that it calls make is longer than what came in: it says more and counts as full. Else prove '..UptoSaid'. A law counts once. -/
mutual
def uptoBulk {H : Type} : DataW H → Nat
  | .lit (.string bytes) => bytes.length + 1
  | .lit _ => 1
  | .nil => 1
  | .ptr d => uptoBulk d + 1
  | .slice elems spare => uptoBulkAll elems + uptoBulkAll spare + 1
  | .agg parts => uptoBulkAll parts + 1
  | .iface _ d => uptoBulk d + 1
  | .map entries => uptoBulkEntries entries + 1
  | .held _ => 1
def uptoBulkAll {H : Type} : List (DataW H) → Nat
  | [] => 0
  | d :: r => uptoBulk d + uptoBulkAll r
def uptoBulkEntries {H : Type} : List (Lit × DataW H) → Nat
  | [] => 0
  | x :: r => uptoBulkEntry x + uptoBulkEntries r
def uptoBulkEntry {H : Type} : Lit × DataW H → Nat
  | (.string bytes, d) => bytes.length + uptoBulk d + 1
  | (_, d) => uptoBulk d + 1
 end
def uptoSmall : (H : Type) → List (DataW H) → Bool := fun _ ds => decide (uptoBulkAll ds ≤ 1048576)
def OpenSpec.upto (s : _root_.Go.ChangeSpec) : _root_.Go.OpenSpec := { _root_.Go.OpenSpec.ofChange s with cond := some uptoSmall }

/-- 'sennetlaw04.RowsFewer', WHERE WHAT IT READS IS OF BULK AT MOST 1048576: true; the input reads as it did. -/
def rowsFewerUptoRow : OpenClaim := { program := "ytfjmpjmkdboclaa", sum := "6344259bf9d9c817701a62edc90c2ff3a6fbd27e35105247256b6a90b0172193", func := "sennet/sennetlaw04.RowsFewer", spec := "rowsFewer", unfollowed := true, recurses := true, apart := false, narrowed := true }
def RowsFewerUptoSaid : Prop := rowsFewerUptoRow.holds Try.pinned (OpenSpec.upto rowsFewerSpec)

/-- 'sennetlaw04.RowsCircles', WHERE WHAT IT READS IS OF BULK AT MOST 1048576: true; the input reads as it did. -/
def rowsCirclesUptoRow : OpenClaim := { program := "ytfjmpjmkdboclaa", sum := "6344259bf9d9c817701a62edc90c2ff3a6fbd27e35105247256b6a90b0172193", func := "sennet/sennetlaw04.RowsCircles", spec := "rowsCircles", unfollowed := true, recurses := true, apart := false, narrowed := true }
def RowsCirclesUptoSaid : Prop := rowsCirclesUptoRow.holds Try.pinned (OpenSpec.upto rowsCirclesSpec)

/-- 'sennetlaw04.RowsMust', WHERE WHAT IT READS IS OF BULK AT MOST 1048576: true; the input reads as it did. -/
def rowsMustUptoRow : OpenClaim := { program := "ytfjmpjmkdboclaa", sum := "6344259bf9d9c817701a62edc90c2ff3a6fbd27e35105247256b6a90b0172193", func := "sennet/sennetlaw04.RowsMust", spec := "rowsMust", unfollowed := true, recurses := true, apart := false, narrowed := true }
def RowsMustUptoSaid : Prop := rowsMustUptoRow.holds Try.pinned (OpenSpec.upto rowsMustSpec)

/-- 'sennetlaw04.RowsNoLess', WHERE WHAT IT READS IS OF BULK AT MOST 1048576: true; the input reads as it did. -/
def rowsNoLessUptoRow : OpenClaim := { program := "ytfjmpjmkdboclaa", sum := "6344259bf9d9c817701a62edc90c2ff3a6fbd27e35105247256b6a90b0172193", func := "sennet/sennetlaw04.RowsNoLess", spec := "rowsNoLess", unfollowed := true, recurses := true, apart := false, narrowed := true }
def RowsNoLessUptoSaid : Prop := rowsNoLessUptoRow.holds Try.pinned (OpenSpec.upto rowsNoLessSpec)

end Rows
end Go.Proofs.Ytfjmpjmkdboclaa
