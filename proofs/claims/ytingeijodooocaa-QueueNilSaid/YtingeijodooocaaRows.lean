/-
  No cell of these rows narrows 'for every input' (looked for: loops, veiled, ifaces, maps, wideKeys, modest, calm, conditions, laid).
  DERIVED. THE GIVEN ROWS OF THIS SEAT. 5 by the template 'for every input the law returns true; each argument reads behind the call as it read before'; 0 by the template 'total and deterministic' (their statements: YtingeijodooocaaTotals.lean).
  GIVEN WITH THE SEED: the statements are not yours to turn. If you find one false, say at which input.
  Laid BY PROGRAM, IN A SANDBOX (cutbox-rows.mjs): the forced cells as the released guide's own fill.sh prints them over the translation 387d0fa30cbbe97e… (all of the seat's roots in one cut). By AI agents, Wed Nov 11 2026. No macro, syntax, notation, axiom, sorry.
-/
import Derived.Test.YtingeijodooocaaChecked
import GoSem.Claim
import GoSem.ClaimJoined
import GoSem.ClaimMapViews
import Derived.JoinedTies
import Derived.KernelRfl
namespace Go.Proofs.Ytingeijodooocaa
/- THE CELL 'sum', in the pinned program and in every row, IS THE sha256 OF THE DUMP (.gsa) THAT YtingeijodooocaaProg.lean LOADS. Nothing in Lean hashes anything: it is a label: what it is worth is what the hold of that sum in a sandbox is worth. -/
noncomputable def Try.pinned : Pinned := { name := "ytingeijodooocaa", sum := "387d0fa30cbbe97ea71f8c3f46d76c07aaeee5cfa7a044197ce2008cb9eb86ba", checked := Try.checked }
namespace Rows
def none {H : Type} : Left H := { results := [], args := [] }

/-- 'droverlaw14.QueueTop': WHATEVER THE INPUT: true; the input reads as it did. -/
def queueTopSpec : ChangeSpec := { name := "queueTop", fn := fun _ => fun
  | [d] => { results := [.lit (.bool true)], args := [d] }
  | _ => none }
def queueTopRow : OpenClaim := { program := "ytingeijodooocaa", sum := "387d0fa30cbbe97ea71f8c3f46d76c07aaeee5cfa7a044197ce2008cb9eb86ba", func := "drover/droverlaw14.QueueTop", spec := "queueTop", inPlace := ["internal/bytealg.abigen_runtime_cmpstring"], unfollowed := true, recurses := true, apart := false }
def QueueTopSaid : Prop := queueTopRow.holds Try.pinned (OpenSpec.ofChange queueTopSpec)

/-- ITS FALSE NEIGHBOUR: 'it returns false'. Refute it at one input. -/
def queueTopWrong : ChangeSpec := { name := "queueTop", fn := fun _ => fun
  | [d] => { results := [.lit (.bool false)], args := [d] }
  | _ => none }
def QueueTopWrongFalsely : Prop := queueTopRow.holds Try.pinned (OpenSpec.ofChange queueTopWrong)

/-- 'droverlaw14.QueueBack': WHATEVER THE INPUT: true; the input reads as it did. -/
def queueBackSpec : ChangeSpec := { name := "queueBack", fn := fun _ => fun
  | [d1, d2] => { results := [.lit (.bool true)], args := [d1, d2] }
  | _ => none }
def queueBackRow : OpenClaim := { program := "ytingeijodooocaa", sum := "387d0fa30cbbe97ea71f8c3f46d76c07aaeee5cfa7a044197ce2008cb9eb86ba", func := "drover/droverlaw14.QueueBack", spec := "queueBack", unfollowed := true, recurses := true, apart := false }
def QueueBackSaid : Prop := queueBackRow.holds Try.pinned (OpenSpec.ofChange queueBackSpec)

/-- ITS FALSE NEIGHBOUR: 'it returns false'. Refute it at one input. -/
def queueBackWrong : ChangeSpec := { name := "queueBack", fn := fun _ => fun
  | [d1, d2] => { results := [.lit (.bool false)], args := [d1, d2] }
  | _ => none }
def QueueBackWrongFalsely : Prop := queueBackRow.holds Try.pinned (OpenSpec.ofChange queueBackWrong)

/-- 'droverlaw14.QueueOrder': WHATEVER THE INPUT: true; the input reads as it did. -/
def queueOrderSpec : ChangeSpec := { name := "queueOrder", fn := fun _ => fun
  | [d] => { results := [.lit (.bool true)], args := [d] }
  | _ => none }
def queueOrderRow : OpenClaim := { program := "ytingeijodooocaa", sum := "387d0fa30cbbe97ea71f8c3f46d76c07aaeee5cfa7a044197ce2008cb9eb86ba", func := "drover/droverlaw14.QueueOrder", spec := "queueOrder", inPlace := ["internal/bytealg.abigen_runtime_cmpstring"], unfollowed := true, recurses := true, apart := false }
def QueueOrderSaid : Prop := queueOrderRow.holds Try.pinned (OpenSpec.ofChange queueOrderSpec)

/-- ITS FALSE NEIGHBOUR: 'it returns false'. Refute it at one input. -/
def queueOrderWrong : ChangeSpec := { name := "queueOrder", fn := fun _ => fun
  | [d] => { results := [.lit (.bool false)], args := [d] }
  | _ => none }
def QueueOrderWrongFalsely : Prop := queueOrderRow.holds Try.pinned (OpenSpec.ofChange queueOrderWrong)

/-- 'droverlaw14.QueuePlays': WHATEVER THE INPUT: true; the input reads as it did. -/
def queuePlaysSpec : ChangeSpec := { name := "queuePlays", fn := fun _ => fun
  | [d] => { results := [.lit (.bool true)], args := [d] }
  | _ => none }
def queuePlaysRow : OpenClaim := { program := "ytingeijodooocaa", sum := "387d0fa30cbbe97ea71f8c3f46d76c07aaeee5cfa7a044197ce2008cb9eb86ba", func := "drover/droverlaw14.QueuePlays", spec := "queuePlays", inPlace := ["internal/bytealg.abigen_runtime_cmpstring"], unfollowed := true, recurses := true, apart := false }
def QueuePlaysSaid : Prop := queuePlaysRow.holds Try.pinned (OpenSpec.ofChange queuePlaysSpec)

/-- ITS FALSE NEIGHBOUR: 'it returns false'. Refute it at one input. -/
def queuePlaysWrong : ChangeSpec := { name := "queuePlays", fn := fun _ => fun
  | [d] => { results := [.lit (.bool false)], args := [d] }
  | _ => none }
def QueuePlaysWrongFalsely : Prop := queuePlaysRow.holds Try.pinned (OpenSpec.ofChange queuePlaysWrong)

/-- 'droverlaw14.QueueNil': WHATEVER THE INPUT: true; the input reads as it did. -/
def queueNilSpec : ChangeSpec := { name := "queueNil", fn := fun _ => fun
  | [d] => { results := [.lit (.bool true)], args := [d] }
  | _ => none }
def queueNilRow : OpenClaim := { program := "ytingeijodooocaa", sum := "387d0fa30cbbe97ea71f8c3f46d76c07aaeee5cfa7a044197ce2008cb9eb86ba", func := "drover/droverlaw14.QueueNil", spec := "queueNil", inPlace := ["internal/bytealg.abigen_runtime_cmpstring"], unfollowed := true, recurses := true, apart := false }
def QueueNilSaid : Prop := queueNilRow.holds Try.pinned (OpenSpec.ofChange queueNilSpec)

/-- ITS FALSE NEIGHBOUR: 'it returns false'. Refute it at one input. -/
def queueNilWrong : ChangeSpec := { name := "queueNil", fn := fun _ => fun
  | [d] => { results := [.lit (.bool false)], args := [d] }
  | _ => none }
def QueueNilWrongFalsely : Prop := queueNilRow.holds Try.pinned (OpenSpec.ofChange queueNilWrong)

/- THE SECOND FORM. 'bulk': how many values and letters a reading holds, each counted each time it is reached (what is shared counts as often as it is met; a slice's spare places count too). A statement '..UptoSaid' is the law's where the arguments, and the package variables that the reading takes, are together of bulk at most 1048576: NARROWER than '..Said'. Prove '..Said' where nothing that the law and all that it calls make is longer than what came in: it says more and counts as full. Else prove '..UptoSaid'. A law counts once. -/
mutual
def uptoBulk {H : Type} : DataW H → Nat
  | .lit (.string bytes) => bytes.length + 1
  | .lit _ => 1
  | .nil => 1
  | .ptr d => uptoBulk d + 1
  | .slice elems spare => uptoBulkAll elems + uptoBulkAll spare + 1
  | .agg parts => uptoBulkAll parts + 1
  | .iface _ d => uptoBulk d + 1
  | .map entries => uptoBulkEntries entries + 1
  | .held _ => 1
def uptoBulkAll {H : Type} : List (DataW H) → Nat
  | [] => 0
  | d :: r => uptoBulk d + uptoBulkAll r
def uptoBulkEntries {H : Type} : List (Lit × DataW H) → Nat
  | [] => 0
  | x :: r => uptoBulkEntry x + uptoBulkEntries r
def uptoBulkEntry {H : Type} : Lit × DataW H → Nat
  | (.string bytes, d) => bytes.length + uptoBulk d + 1
  | (_, d) => uptoBulk d + 1
 end
def uptoSmall : (H : Type) → List (DataW H) → Bool := fun _ ds => decide (uptoBulkAll ds ≤ 1048576)
def OpenSpec.upto (s : _root_.Go.ChangeSpec) : _root_.Go.OpenSpec := { _root_.Go.OpenSpec.ofChange s with cond := some uptoSmall }

/-- 'droverlaw14.QueueTop', WHERE WHAT IT READS IS OF BULK AT MOST 1048576: true; the input reads as it did. -/
def queueTopUptoRow : OpenClaim := { program := "ytingeijodooocaa", sum := "387d0fa30cbbe97ea71f8c3f46d76c07aaeee5cfa7a044197ce2008cb9eb86ba", func := "drover/droverlaw14.QueueTop", spec := "queueTop", inPlace := ["internal/bytealg.abigen_runtime_cmpstring"], unfollowed := true, recurses := true, apart := false, narrowed := true }
def QueueTopUptoSaid : Prop := queueTopUptoRow.holds Try.pinned (OpenSpec.upto queueTopSpec)

/-- 'droverlaw14.QueueBack', WHERE WHAT IT READS IS OF BULK AT MOST 1048576: true; the input reads as it did. -/
def queueBackUptoRow : OpenClaim := { program := "ytingeijodooocaa", sum := "387d0fa30cbbe97ea71f8c3f46d76c07aaeee5cfa7a044197ce2008cb9eb86ba", func := "drover/droverlaw14.QueueBack", spec := "queueBack", unfollowed := true, recurses := true, apart := false, narrowed := true }
def QueueBackUptoSaid : Prop := queueBackUptoRow.holds Try.pinned (OpenSpec.upto queueBackSpec)

/-- 'droverlaw14.QueueOrder', WHERE WHAT IT READS IS OF BULK AT MOST 1048576: true; the input reads as it did. -/
def queueOrderUptoRow : OpenClaim := { program := "ytingeijodooocaa", sum := "387d0fa30cbbe97ea71f8c3f46d76c07aaeee5cfa7a044197ce2008cb9eb86ba", func := "drover/droverlaw14.QueueOrder", spec := "queueOrder", inPlace := ["internal/bytealg.abigen_runtime_cmpstring"], unfollowed := true, recurses := true, apart := false, narrowed := true }
def QueueOrderUptoSaid : Prop := queueOrderUptoRow.holds Try.pinned (OpenSpec.upto queueOrderSpec)

/-- 'droverlaw14.QueuePlays', WHERE WHAT IT READS IS OF BULK AT MOST 1048576: true; the input reads as it did. -/
def queuePlaysUptoRow : OpenClaim := { program := "ytingeijodooocaa", sum := "387d0fa30cbbe97ea71f8c3f46d76c07aaeee5cfa7a044197ce2008cb9eb86ba", func := "drover/droverlaw14.QueuePlays", spec := "queuePlays", inPlace := ["internal/bytealg.abigen_runtime_cmpstring"], unfollowed := true, recurses := true, apart := false, narrowed := true }
def QueuePlaysUptoSaid : Prop := queuePlaysUptoRow.holds Try.pinned (OpenSpec.upto queuePlaysSpec)

/-- 'droverlaw14.QueueNil', WHERE WHAT IT READS IS OF BULK AT MOST 1048576: true; the input reads as it did. -/
def queueNilUptoRow : OpenClaim := { program := "ytingeijodooocaa", sum := "387d0fa30cbbe97ea71f8c3f46d76c07aaeee5cfa7a044197ce2008cb9eb86ba", func := "drover/droverlaw14.QueueNil", spec := "queueNil", inPlace := ["internal/bytealg.abigen_runtime_cmpstring"], unfollowed := true, recurses := true, apart := false, narrowed := true }
def QueueNilUptoSaid : Prop := queueNilUptoRow.holds Try.pinned (OpenSpec.upto queueNilSpec)

end Rows
end Go.Proofs.Ytingeijodooocaa
