/-
  No cell of these rows narrows 'for every input' (looked for: loops, veiled, ifaces, maps, wideKeys, modest, calm, conditions, laid).
  DERIVED. THE GIVEN ROWS OF THIS SEAT. 5 by the template 'for every input the law returns true; each argument reads behind the call as it read before'; 0 by the template 'total and deterministic' (their statements: YteccpjijlkjneaaTotals.lean).
  GIVEN WITH THE SEED: the statements are not yours to turn. If you find one false, say at which input.
  Laid BY PROGRAM, IN A SANDBOX (cutbox-rows.mjs): the forced cells as the released guide's own fill.sh prints them over the translation 92d7dda6b748380a… (all of the seat's roots in one cut). By AI agents, Wed Nov 11 2026. No macro, syntax, notation, axiom, sorry.
-/
import Derived.Test.YteccpjijlkjneaaChecked
import GoSem.Claim
import GoSem.ClaimJoined
import GoSem.ClaimMapViews
import Derived.JoinedTies
import Derived.KernelRfl
namespace Go.Proofs.Yteccpjijlkjneaa
/- THE CELL 'sum', in the pinned program and in every row, IS THE sha256 OF THE DUMP (.gsa) THAT YteccpjijlkjneaaProg.lean LOADS. Nothing in Lean hashes anything: it is a label: what it is worth is what the hold of that sum in a sandbox is worth. -/
noncomputable def Try.pinned : Pinned := { name := "yteccpjijlkjneaa", sum := "92d7dda6b748380ad68df8c6a6368e5acf01a9fb4915553fe25405d82f355590", checked := Try.checked }
namespace Rows
def none {H : Type} : Left H := { results := [], args := [] }

/-- 'droverlaw15.ShareOrders': WHATEVER THE INPUT: true; the input reads as it did. -/
def shareOrdersSpec : ChangeSpec := { name := "shareOrders", fn := fun _ => fun
  | [d1, d2] => { results := [.lit (.bool true)], args := [d1, d2] }
  | _ => none }
def shareOrdersRow : OpenClaim := { program := "yteccpjijlkjneaa", sum := "92d7dda6b748380ad68df8c6a6368e5acf01a9fb4915553fe25405d82f355590", func := "drover/droverlaw15.ShareOrders", spec := "shareOrders", recurses := true, apart := false }
def ShareOrdersSaid : Prop := shareOrdersRow.holds Try.pinned (OpenSpec.ofChange shareOrdersSpec)

/-- ITS FALSE NEIGHBOUR: 'it returns false'. Refute it at one input. -/
def shareOrdersWrong : ChangeSpec := { name := "shareOrders", fn := fun _ => fun
  | [d1, d2] => { results := [.lit (.bool false)], args := [d1, d2] }
  | _ => none }
def ShareOrdersWrongFalsely : Prop := shareOrdersRow.holds Try.pinned (OpenSpec.ofChange shareOrdersWrong)

/-- 'droverlaw15.ShareTurns': WHATEVER THE INPUT: true; the input reads as it did. -/
def shareTurnsSpec : ChangeSpec := { name := "shareTurns", fn := fun _ => fun
  | [d1, d2, d3] => { results := [.lit (.bool true)], args := [d1, d2, d3] }
  | _ => none }
def shareTurnsRow : OpenClaim := { program := "yteccpjijlkjneaa", sum := "92d7dda6b748380ad68df8c6a6368e5acf01a9fb4915553fe25405d82f355590", func := "drover/droverlaw15.ShareTurns", spec := "shareTurns", recurses := true, apart := false }
def ShareTurnsSaid : Prop := shareTurnsRow.holds Try.pinned (OpenSpec.ofChange shareTurnsSpec)

/-- ITS FALSE NEIGHBOUR: 'it returns false'. Refute it at one input. -/
def shareTurnsWrong : ChangeSpec := { name := "shareTurns", fn := fun _ => fun
  | [d1, d2, d3] => { results := [.lit (.bool false)], args := [d1, d2, d3] }
  | _ => none }
def ShareTurnsWrongFalsely : Prop := shareTurnsRow.holds Try.pinned (OpenSpec.ofChange shareTurnsWrong)

/-- 'droverlaw15.ShareMoves': WHATEVER THE INPUT: true; the input reads as it did. -/
def shareMovesSpec : ChangeSpec := { name := "shareMoves", fn := fun _ => fun
  | [d1, d2, d3] => { results := [.lit (.bool true)], args := [d1, d2, d3] }
  | _ => none }
def shareMovesRow : OpenClaim := { program := "yteccpjijlkjneaa", sum := "92d7dda6b748380ad68df8c6a6368e5acf01a9fb4915553fe25405d82f355590", func := "drover/droverlaw15.ShareMoves", spec := "shareMoves", recurses := true, apart := false }
def ShareMovesSaid : Prop := shareMovesRow.holds Try.pinned (OpenSpec.ofChange shareMovesSpec)

/-- ITS FALSE NEIGHBOUR: 'it returns false'. Refute it at one input. -/
def shareMovesWrong : ChangeSpec := { name := "shareMoves", fn := fun _ => fun
  | [d1, d2, d3] => { results := [.lit (.bool false)], args := [d1, d2, d3] }
  | _ => none }
def ShareMovesWrongFalsely : Prop := shareMovesRow.holds Try.pinned (OpenSpec.ofChange shareMovesWrong)

/-- 'droverlaw15.ShareFirsts': WHATEVER THE INPUT: true; the input reads as it did. -/
def shareFirstsSpec : ChangeSpec := { name := "shareFirsts", fn := fun _ => fun
  | [d1, d2, d3] => { results := [.lit (.bool true)], args := [d1, d2, d3] }
  | _ => none }
def shareFirstsRow : OpenClaim := { program := "yteccpjijlkjneaa", sum := "92d7dda6b748380ad68df8c6a6368e5acf01a9fb4915553fe25405d82f355590", func := "drover/droverlaw15.ShareFirsts", spec := "shareFirsts", recurses := true, apart := false }
def ShareFirstsSaid : Prop := shareFirstsRow.holds Try.pinned (OpenSpec.ofChange shareFirstsSpec)

/-- ITS FALSE NEIGHBOUR: 'it returns false'. Refute it at one input. -/
def shareFirstsWrong : ChangeSpec := { name := "shareFirsts", fn := fun _ => fun
  | [d1, d2, d3] => { results := [.lit (.bool false)], args := [d1, d2, d3] }
  | _ => none }
def ShareFirstsWrongFalsely : Prop := shareFirstsRow.holds Try.pinned (OpenSpec.ofChange shareFirstsWrong)

/-- 'droverlaw15.ShareFirst': WHATEVER THE INPUT: true; the input reads as it did. -/
def shareFirstSpec : ChangeSpec := { name := "shareFirst", fn := fun _ => fun
  | [d1, d2] => { results := [.lit (.bool true)], args := [d1, d2] }
  | _ => none }
def shareFirstRow : OpenClaim := { program := "yteccpjijlkjneaa", sum := "92d7dda6b748380ad68df8c6a6368e5acf01a9fb4915553fe25405d82f355590", func := "drover/droverlaw15.ShareFirst", spec := "shareFirst", recurses := true, apart := false }
def ShareFirstSaid : Prop := shareFirstRow.holds Try.pinned (OpenSpec.ofChange shareFirstSpec)

/-- ITS FALSE NEIGHBOUR: 'it returns false'. Refute it at one input. -/
def shareFirstWrong : ChangeSpec := { name := "shareFirst", fn := fun _ => fun
  | [d1, d2] => { results := [.lit (.bool false)], args := [d1, d2] }
  | _ => none }
def ShareFirstWrongFalsely : Prop := shareFirstRow.holds Try.pinned (OpenSpec.ofChange shareFirstWrong)

/- THE SECOND FORM. 'bulk': how many values and letters a reading holds, each counted each time it is reached (what is shared counts as often as it is met; a slice's spare places count too). A statement '..UptoSaid' is the law's where the arguments, and the package variables that the reading takes, are together of bulk at most 1048576: NARROWER than '..Said'. Prove '..Said' where nothing that the law and all that it calls make is longer than what came in: it says more and counts as full. Else prove '..UptoSaid'. A law counts once. -/
mutual
def uptoBulk {H : Type} : DataW H → Nat
  | .lit (.string bytes) => bytes.length + 1
  | .lit _ => 1
  | .nil => 1
  | .ptr d => uptoBulk d + 1
  | .slice elems spare => uptoBulkAll elems + uptoBulkAll spare + 1
  | .agg parts => uptoBulkAll parts + 1
  | .iface _ d => uptoBulk d + 1
  | .map entries => uptoBulkEntries entries + 1
  | .held _ => 1
def uptoBulkAll {H : Type} : List (DataW H) → Nat
  | [] => 0
  | d :: r => uptoBulk d + uptoBulkAll r
def uptoBulkEntries {H : Type} : List (Lit × DataW H) → Nat
  | [] => 0
  | x :: r => uptoBulkEntry x + uptoBulkEntries r
def uptoBulkEntry {H : Type} : Lit × DataW H → Nat
  | (.string bytes, d) => bytes.length + uptoBulk d + 1
  | (_, d) => uptoBulk d + 1
 end
def uptoSmall : (H : Type) → List (DataW H) → Bool := fun _ ds => decide (uptoBulkAll ds ≤ 1048576)
def OpenSpec.upto (s : _root_.Go.ChangeSpec) : _root_.Go.OpenSpec := { _root_.Go.OpenSpec.ofChange s with cond := some uptoSmall }

/-- 'droverlaw15.ShareOrders', WHERE WHAT IT READS IS OF BULK AT MOST 1048576: true; the input reads as it did. -/
def shareOrdersUptoRow : OpenClaim := { program := "yteccpjijlkjneaa", sum := "92d7dda6b748380ad68df8c6a6368e5acf01a9fb4915553fe25405d82f355590", func := "drover/droverlaw15.ShareOrders", spec := "shareOrders", recurses := true, apart := false, narrowed := true }
def ShareOrdersUptoSaid : Prop := shareOrdersUptoRow.holds Try.pinned (OpenSpec.upto shareOrdersSpec)

/-- 'droverlaw15.ShareTurns', WHERE WHAT IT READS IS OF BULK AT MOST 1048576: true; the input reads as it did. -/
def shareTurnsUptoRow : OpenClaim := { program := "yteccpjijlkjneaa", sum := "92d7dda6b748380ad68df8c6a6368e5acf01a9fb4915553fe25405d82f355590", func := "drover/droverlaw15.ShareTurns", spec := "shareTurns", recurses := true, apart := false, narrowed := true }
def ShareTurnsUptoSaid : Prop := shareTurnsUptoRow.holds Try.pinned (OpenSpec.upto shareTurnsSpec)

/-- 'droverlaw15.ShareMoves', WHERE WHAT IT READS IS OF BULK AT MOST 1048576: true; the input reads as it did. -/
def shareMovesUptoRow : OpenClaim := { program := "yteccpjijlkjneaa", sum := "92d7dda6b748380ad68df8c6a6368e5acf01a9fb4915553fe25405d82f355590", func := "drover/droverlaw15.ShareMoves", spec := "shareMoves", recurses := true, apart := false, narrowed := true }
def ShareMovesUptoSaid : Prop := shareMovesUptoRow.holds Try.pinned (OpenSpec.upto shareMovesSpec)

/-- 'droverlaw15.ShareFirsts', WHERE WHAT IT READS IS OF BULK AT MOST 1048576: true; the input reads as it did. -/
def shareFirstsUptoRow : OpenClaim := { program := "yteccpjijlkjneaa", sum := "92d7dda6b748380ad68df8c6a6368e5acf01a9fb4915553fe25405d82f355590", func := "drover/droverlaw15.ShareFirsts", spec := "shareFirsts", recurses := true, apart := false, narrowed := true }
def ShareFirstsUptoSaid : Prop := shareFirstsUptoRow.holds Try.pinned (OpenSpec.upto shareFirstsSpec)

/-- 'droverlaw15.ShareFirst', WHERE WHAT IT READS IS OF BULK AT MOST 1048576: true; the input reads as it did. -/
def shareFirstUptoRow : OpenClaim := { program := "yteccpjijlkjneaa", sum := "92d7dda6b748380ad68df8c6a6368e5acf01a9fb4915553fe25405d82f355590", func := "drover/droverlaw15.ShareFirst", spec := "shareFirst", recurses := true, apart := false, narrowed := true }
def ShareFirstUptoSaid : Prop := shareFirstUptoRow.holds Try.pinned (OpenSpec.upto shareFirstSpec)

end Rows
end Go.Proofs.Yteccpjijlkjneaa
