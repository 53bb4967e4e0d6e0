/-
  No cell of these rows narrows 'for every input' (looked for: loops, veiled, ifaces, maps, wideKeys, modest, calm, conditions, laid).
  DERIVED. THE GIVEN ROWS OF THIS SEAT. 6 by the template 'for every input the law returns true; each argument reads behind the call as it read before'; 0 by the template 'total and deterministic' (their statements: YtobgolceggeogaaTotals.lean).
  GIVEN WITH THE SEED: the statements are not yours to turn. If you find one false, say at which input.
  Laid BY PROGRAM, IN A SANDBOX (cutbox-rows.mjs): the forced cells as the released guide's own fill.sh prints them over the translation 3dfcbd98ff593961… (all of the seat's roots in one cut). By AI agents, Wed Nov 11 2026. No macro, syntax, notation, axiom, sorry.
-/
import Derived.Test.YtobgolceggeogaaChecked
import GoSem.Claim
import GoSem.ClaimJoined
import GoSem.ClaimMapViews
import Derived.JoinedTies
import Derived.KernelRfl
namespace Go.Proofs.Ytobgolceggeogaa
/- THE CELL 'sum', in the pinned program and in every row, IS THE sha256 OF THE DUMP (.gsa) THAT YtobgolceggeogaaProg.lean LOADS. Nothing in Lean hashes anything: it is a label: what it is worth is what the hold of that sum in a sandbox is worth. -/
noncomputable def Try.pinned : Pinned := { name := "ytobgolceggeogaa", sum := "3dfcbd98ff593961980f574b8faa8949d59e432b48da13cc5fe847ea23755c05", checked := Try.checked }
namespace Rows
def none {H : Type} : Left H := { results := [], args := [] }

/-- 'droverlaw13.LedgerAll': WHATEVER THE INPUT: true; the input reads as it did. -/
def ledgerAllSpec : ChangeSpec := { name := "ledgerAll", fn := fun _ => fun
  | [d1, d2] => { results := [.lit (.bool true)], args := [d1, d2] }
  | _ => none }
def ledgerAllRow : OpenClaim := { program := "ytobgolceggeogaa", sum := "3dfcbd98ff593961980f574b8faa8949d59e432b48da13cc5fe847ea23755c05", func := "drover/droverlaw13.LedgerAll", spec := "ledgerAll", apart := false }
def LedgerAllSaid : Prop := ledgerAllRow.holds Try.pinned (OpenSpec.ofChange ledgerAllSpec)

/-- ITS FALSE NEIGHBOUR: 'it returns false'. Refute it at one input. -/
def ledgerAllWrong : ChangeSpec := { name := "ledgerAll", fn := fun _ => fun
  | [d1, d2] => { results := [.lit (.bool false)], args := [d1, d2] }
  | _ => none }
def LedgerAllWrongFalsely : Prop := ledgerAllRow.holds Try.pinned (OpenSpec.ofChange ledgerAllWrong)

/-- 'droverlaw13.LedgerFull': WHATEVER THE INPUT: true; the input reads as it did. -/
def ledgerFullSpec : ChangeSpec := { name := "ledgerFull", fn := fun _ => fun
  | [d1, d2] => { results := [.lit (.bool true)], args := [d1, d2] }
  | _ => none }
def ledgerFullRow : OpenClaim := { program := "ytobgolceggeogaa", sum := "3dfcbd98ff593961980f574b8faa8949d59e432b48da13cc5fe847ea23755c05", func := "drover/droverlaw13.LedgerFull", spec := "ledgerFull", apart := false }
def LedgerFullSaid : Prop := ledgerFullRow.holds Try.pinned (OpenSpec.ofChange ledgerFullSpec)

/-- ITS FALSE NEIGHBOUR: 'it returns false'. Refute it at one input. -/
def ledgerFullWrong : ChangeSpec := { name := "ledgerFull", fn := fun _ => fun
  | [d1, d2] => { results := [.lit (.bool false)], args := [d1, d2] }
  | _ => none }
def LedgerFullWrongFalsely : Prop := ledgerFullRow.holds Try.pinned (OpenSpec.ofChange ledgerFullWrong)

/-- 'droverlaw13.LedgerHolds': WHATEVER THE INPUT: true; the input reads as it did. -/
def ledgerHoldsSpec : ChangeSpec := { name := "ledgerHolds", fn := fun _ => fun
  | [d1, d2] => { results := [.lit (.bool true)], args := [d1, d2] }
  | _ => none }
def ledgerHoldsRow : OpenClaim := { program := "ytobgolceggeogaa", sum := "3dfcbd98ff593961980f574b8faa8949d59e432b48da13cc5fe847ea23755c05", func := "drover/droverlaw13.LedgerHolds", spec := "ledgerHolds", apart := false }
def LedgerHoldsSaid : Prop := ledgerHoldsRow.holds Try.pinned (OpenSpec.ofChange ledgerHoldsSpec)

/-- ITS FALSE NEIGHBOUR: 'it returns false'. Refute it at one input. -/
def ledgerHoldsWrong : ChangeSpec := { name := "ledgerHolds", fn := fun _ => fun
  | [d1, d2] => { results := [.lit (.bool false)], args := [d1, d2] }
  | _ => none }
def LedgerHoldsWrongFalsely : Prop := ledgerHoldsRow.holds Try.pinned (OpenSpec.ofChange ledgerHoldsWrong)

/-- 'droverlaw13.LedgerBack': WHATEVER THE INPUT: true; the input reads as it did. -/
def ledgerBackSpec : ChangeSpec := { name := "ledgerBack", fn := fun _ => fun
  | [d1, d2, d3] => { results := [.lit (.bool true)], args := [d1, d2, d3] }
  | _ => none }
def ledgerBackRow : OpenClaim := { program := "ytobgolceggeogaa", sum := "3dfcbd98ff593961980f574b8faa8949d59e432b48da13cc5fe847ea23755c05", func := "drover/droverlaw13.LedgerBack", spec := "ledgerBack", apart := false }
def LedgerBackSaid : Prop := ledgerBackRow.holds Try.pinned (OpenSpec.ofChange ledgerBackSpec)

/-- ITS FALSE NEIGHBOUR: 'it returns false'. Refute it at one input. -/
def ledgerBackWrong : ChangeSpec := { name := "ledgerBack", fn := fun _ => fun
  | [d1, d2, d3] => { results := [.lit (.bool false)], args := [d1, d2, d3] }
  | _ => none }
def LedgerBackWrongFalsely : Prop := ledgerBackRow.holds Try.pinned (OpenSpec.ofChange ledgerBackWrong)

/-- 'droverlaw13.LedgerPlays': WHATEVER THE INPUT: true; the input reads as it did. -/
def ledgerPlaysSpec : ChangeSpec := { name := "ledgerPlays", fn := fun _ => fun
  | [d] => { results := [.lit (.bool true)], args := [d] }
  | _ => none }
def ledgerPlaysRow : OpenClaim := { program := "ytobgolceggeogaa", sum := "3dfcbd98ff593961980f574b8faa8949d59e432b48da13cc5fe847ea23755c05", func := "drover/droverlaw13.LedgerPlays", spec := "ledgerPlays", unfollowed := true, recurses := true, apart := false }
def LedgerPlaysSaid : Prop := ledgerPlaysRow.holds Try.pinned (OpenSpec.ofChange ledgerPlaysSpec)

/-- ITS FALSE NEIGHBOUR: 'it returns false'. Refute it at one input. -/
def ledgerPlaysWrong : ChangeSpec := { name := "ledgerPlays", fn := fun _ => fun
  | [d] => { results := [.lit (.bool false)], args := [d] }
  | _ => none }
def LedgerPlaysWrongFalsely : Prop := ledgerPlaysRow.holds Try.pinned (OpenSpec.ofChange ledgerPlaysWrong)

/-- 'droverlaw13.LedgerNil': WHATEVER THE INPUT: true; the input reads as it did. -/
def ledgerNilSpec : ChangeSpec := { name := "ledgerNil", fn := fun _ => fun
  | [d1, d2] => { results := [.lit (.bool true)], args := [d1, d2] }
  | _ => none }
def ledgerNilRow : OpenClaim := { program := "ytobgolceggeogaa", sum := "3dfcbd98ff593961980f574b8faa8949d59e432b48da13cc5fe847ea23755c05", func := "drover/droverlaw13.LedgerNil", spec := "ledgerNil", unfollowed := true, recurses := true, apart := false }
def LedgerNilSaid : Prop := ledgerNilRow.holds Try.pinned (OpenSpec.ofChange ledgerNilSpec)

/-- ITS FALSE NEIGHBOUR: 'it returns false'. Refute it at one input. -/
def ledgerNilWrong : ChangeSpec := { name := "ledgerNil", fn := fun _ => fun
  | [d1, d2] => { results := [.lit (.bool false)], args := [d1, d2] }
  | _ => none }
def LedgerNilWrongFalsely : Prop := ledgerNilRow.holds Try.pinned (OpenSpec.ofChange ledgerNilWrong)

/- THE SECOND FORM. 'bulk': how many values and letters a reading holds, each counted each time it is reached (what is shared counts as often as it is met; a slice's spare places count too). A statement '..UptoSaid' is the law's where the arguments, and the package variables that the reading takes, are together of bulk at most 1048576: NARROWER than '..Said'. Prove '..Said' where nothing that the law and all that it calls make is longer than what came in: it says more and counts as full. Else prove '..UptoSaid'. A law counts once. -/
mutual
def uptoBulk {H : Type} : DataW H → Nat
  | .lit (.string bytes) => bytes.length + 1
  | .lit _ => 1
  | .nil => 1
  | .ptr d => uptoBulk d + 1
  | .slice elems spare => uptoBulkAll elems + uptoBulkAll spare + 1
  | .agg parts => uptoBulkAll parts + 1
  | .iface _ d => uptoBulk d + 1
  | .map entries => uptoBulkEntries entries + 1
  | .held _ => 1
def uptoBulkAll {H : Type} : List (DataW H) → Nat
  | [] => 0
  | d :: r => uptoBulk d + uptoBulkAll r
def uptoBulkEntries {H : Type} : List (Lit × DataW H) → Nat
  | [] => 0
  | x :: r => uptoBulkEntry x + uptoBulkEntries r
def uptoBulkEntry {H : Type} : Lit × DataW H → Nat
  | (.string bytes, d) => bytes.length + uptoBulk d + 1
  | (_, d) => uptoBulk d + 1
 end
def uptoSmall : (H : Type) → List (DataW H) → Bool := fun _ ds => decide (uptoBulkAll ds ≤ 1048576)
def OpenSpec.upto (s : _root_.Go.ChangeSpec) : _root_.Go.OpenSpec := { _root_.Go.OpenSpec.ofChange s with cond := some uptoSmall }

/-- 'droverlaw13.LedgerAll', WHERE WHAT IT READS IS OF BULK AT MOST 1048576: true; the input reads as it did. -/
def ledgerAllUptoRow : OpenClaim := { program := "ytobgolceggeogaa", sum := "3dfcbd98ff593961980f574b8faa8949d59e432b48da13cc5fe847ea23755c05", func := "drover/droverlaw13.LedgerAll", spec := "ledgerAll", apart := false, narrowed := true }
def LedgerAllUptoSaid : Prop := ledgerAllUptoRow.holds Try.pinned (OpenSpec.upto ledgerAllSpec)

/-- 'droverlaw13.LedgerFull', WHERE WHAT IT READS IS OF BULK AT MOST 1048576: true; the input reads as it did. -/
def ledgerFullUptoRow : OpenClaim := { program := "ytobgolceggeogaa", sum := "3dfcbd98ff593961980f574b8faa8949d59e432b48da13cc5fe847ea23755c05", func := "drover/droverlaw13.LedgerFull", spec := "ledgerFull", apart := false, narrowed := true }
def LedgerFullUptoSaid : Prop := ledgerFullUptoRow.holds Try.pinned (OpenSpec.upto ledgerFullSpec)

/-- 'droverlaw13.LedgerHolds', WHERE WHAT IT READS IS OF BULK AT MOST 1048576: true; the input reads as it did. -/
def ledgerHoldsUptoRow : OpenClaim := { program := "ytobgolceggeogaa", sum := "3dfcbd98ff593961980f574b8faa8949d59e432b48da13cc5fe847ea23755c05", func := "drover/droverlaw13.LedgerHolds", spec := "ledgerHolds", apart := false, narrowed := true }
def LedgerHoldsUptoSaid : Prop := ledgerHoldsUptoRow.holds Try.pinned (OpenSpec.upto ledgerHoldsSpec)

/-- 'droverlaw13.LedgerBack', WHERE WHAT IT READS IS OF BULK AT MOST 1048576: true; the input reads as it did. -/
def ledgerBackUptoRow : OpenClaim := { program := "ytobgolceggeogaa", sum := "3dfcbd98ff593961980f574b8faa8949d59e432b48da13cc5fe847ea23755c05", func := "drover/droverlaw13.LedgerBack", spec := "ledgerBack", apart := false, narrowed := true }
def LedgerBackUptoSaid : Prop := ledgerBackUptoRow.holds Try.pinned (OpenSpec.upto ledgerBackSpec)

/-- 'droverlaw13.LedgerPlays', WHERE WHAT IT READS IS OF BULK AT MOST 1048576: true; the input reads as it did. -/
def ledgerPlaysUptoRow : OpenClaim := { program := "ytobgolceggeogaa", sum := "3dfcbd98ff593961980f574b8faa8949d59e432b48da13cc5fe847ea23755c05", func := "drover/droverlaw13.LedgerPlays", spec := "ledgerPlays", unfollowed := true, recurses := true, apart := false, narrowed := true }
def LedgerPlaysUptoSaid : Prop := ledgerPlaysUptoRow.holds Try.pinned (OpenSpec.upto ledgerPlaysSpec)

/-- 'droverlaw13.LedgerNil', WHERE WHAT IT READS IS OF BULK AT MOST 1048576: true; the input reads as it did. -/
def ledgerNilUptoRow : OpenClaim := { program := "ytobgolceggeogaa", sum := "3dfcbd98ff593961980f574b8faa8949d59e432b48da13cc5fe847ea23755c05", func := "drover/droverlaw13.LedgerNil", spec := "ledgerNil", unfollowed := true, recurses := true, apart := false, narrowed := true }
def LedgerNilUptoSaid : Prop := ledgerNilUptoRow.holds Try.pinned (OpenSpec.upto ledgerNilSpec)

end Rows
end Go.Proofs.Ytobgolceggeogaa
