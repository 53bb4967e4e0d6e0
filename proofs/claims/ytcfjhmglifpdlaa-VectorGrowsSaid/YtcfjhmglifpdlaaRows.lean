/-
  No cell of these rows narrows 'for every input' (looked for: loops, veiled, ifaces, maps, wideKeys, modest, calm, conditions, laid).
  DERIVED. THE GIVEN ROWS OF THIS SEAT. 6 by the template 'for every input the law returns true; each argument reads behind the call as it read before'; 0 by the template 'total and deterministic' (their statements: YtcfjhmglifpdlaaTotals.lean).
  GIVEN WITH THE SEED: the statements are not yours to turn. If you find one false, say at which input.
  Laid BY PROGRAM, IN A SANDBOX (cutbox-rows.mjs): the forced cells as the released guide's own fill.sh prints them over the translation c0f03470d3ed1d25… (all of the seat's roots in one cut). By AI agents, Wed Nov 11 2026. No macro, syntax, notation, axiom, sorry.
-/
import Derived.Test.YtcfjhmglifpdlaaChecked
import GoSem.Claim
import GoSem.ClaimJoined
import GoSem.ClaimMapViews
import Derived.JoinedTies
import Derived.KernelRfl
namespace Go.Proofs.Ytcfjhmglifpdlaa
/- THE CELL 'sum', in the pinned program and in every row, IS THE sha256 OF THE DUMP (.gsa) THAT YtcfjhmglifpdlaaProg.lean LOADS. Nothing in Lean hashes anything: it is a label: what it is worth is what the hold of that sum in a sandbox is worth. -/
noncomputable def Try.pinned : Pinned := { name := "ytcfjhmglifpdlaa", sum := "c0f03470d3ed1d250f52b2cda17d07973257172c738a94dd6e67f1b17550fc8c", checked := Try.checked }
namespace Rows
def none {H : Type} : Left H := { results := [], args := [] }

/-- 'droverlaw03.VectorSums': WHATEVER THE INPUT: true; the input reads as it did. -/
def vectorSumsSpec : ChangeSpec := { name := "vectorSums", fn := fun _ => fun
  | [d] => { results := [.lit (.bool true)], args := [d] }
  | _ => none }
def vectorSumsRow : OpenClaim := { program := "ytcfjhmglifpdlaa", sum := "c0f03470d3ed1d250f52b2cda17d07973257172c738a94dd6e67f1b17550fc8c", func := "drover/droverlaw03.VectorSums", spec := "vectorSums", apart := false }
def VectorSumsSaid : Prop := vectorSumsRow.holds Try.pinned (OpenSpec.ofChange vectorSumsSpec)

/-- ITS FALSE NEIGHBOUR: 'it returns false'. Refute it at one input. -/
def vectorSumsWrong : ChangeSpec := { name := "vectorSums", fn := fun _ => fun
  | [d] => { results := [.lit (.bool false)], args := [d] }
  | _ => none }
def VectorSumsWrongFalsely : Prop := vectorSumsRow.holds Try.pinned (OpenSpec.ofChange vectorSumsWrong)

/-- 'droverlaw03.VectorReckons': WHATEVER THE INPUT: true; the input reads as it did. -/
def vectorReckonsSpec : ChangeSpec := { name := "vectorReckons", fn := fun _ => fun
  | [d1, d2] => { results := [.lit (.bool true)], args := [d1, d2] }
  | _ => none }
def vectorReckonsRow : OpenClaim := { program := "ytcfjhmglifpdlaa", sum := "c0f03470d3ed1d250f52b2cda17d07973257172c738a94dd6e67f1b17550fc8c", func := "drover/droverlaw03.VectorReckons", spec := "vectorReckons", apart := false }
def VectorReckonsSaid : Prop := vectorReckonsRow.holds Try.pinned (OpenSpec.ofChange vectorReckonsSpec)

/-- ITS FALSE NEIGHBOUR: 'it returns false'. Refute it at one input. -/
def vectorReckonsWrong : ChangeSpec := { name := "vectorReckons", fn := fun _ => fun
  | [d1, d2] => { results := [.lit (.bool false)], args := [d1, d2] }
  | _ => none }
def VectorReckonsWrongFalsely : Prop := vectorReckonsRow.holds Try.pinned (OpenSpec.ofChange vectorReckonsWrong)

/-- 'droverlaw03.VectorBack': WHATEVER THE INPUT: true; the input reads as it did. -/
def vectorBackSpec : ChangeSpec := { name := "vectorBack", fn := fun _ => fun
  | [d1, d2] => { results := [.lit (.bool true)], args := [d1, d2] }
  | _ => none }
def vectorBackRow : OpenClaim := { program := "ytcfjhmglifpdlaa", sum := "c0f03470d3ed1d250f52b2cda17d07973257172c738a94dd6e67f1b17550fc8c", func := "drover/droverlaw03.VectorBack", spec := "vectorBack", apart := false }
def VectorBackSaid : Prop := vectorBackRow.holds Try.pinned (OpenSpec.ofChange vectorBackSpec)

/-- ITS FALSE NEIGHBOUR: 'it returns false'. Refute it at one input. -/
def vectorBackWrong : ChangeSpec := { name := "vectorBack", fn := fun _ => fun
  | [d1, d2] => { results := [.lit (.bool false)], args := [d1, d2] }
  | _ => none }
def VectorBackWrongFalsely : Prop := vectorBackRow.holds Try.pinned (OpenSpec.ofChange vectorBackWrong)

/-- 'droverlaw03.VectorAsks': WHATEVER THE INPUT: true; the input reads as it did. -/
def vectorAsksSpec : ChangeSpec := { name := "vectorAsks", fn := fun _ => fun
  | [d1, d2] => { results := [.lit (.bool true)], args := [d1, d2] }
  | _ => none }
def vectorAsksRow : OpenClaim := { program := "ytcfjhmglifpdlaa", sum := "c0f03470d3ed1d250f52b2cda17d07973257172c738a94dd6e67f1b17550fc8c", func := "drover/droverlaw03.VectorAsks", spec := "vectorAsks", apart := false }
def VectorAsksSaid : Prop := vectorAsksRow.holds Try.pinned (OpenSpec.ofChange vectorAsksSpec)

/-- ITS FALSE NEIGHBOUR: 'it returns false'. Refute it at one input. -/
def vectorAsksWrong : ChangeSpec := { name := "vectorAsks", fn := fun _ => fun
  | [d1, d2] => { results := [.lit (.bool false)], args := [d1, d2] }
  | _ => none }
def VectorAsksWrongFalsely : Prop := vectorAsksRow.holds Try.pinned (OpenSpec.ofChange vectorAsksWrong)

/-- 'droverlaw03.VectorShares': WHATEVER THE INPUT: true; the input reads as it did. -/
def vectorSharesSpec : ChangeSpec := { name := "vectorShares", fn := fun _ => fun
  | [d1, d2, d3] => { results := [.lit (.bool true)], args := [d1, d2, d3] }
  | _ => none }
def vectorSharesRow : OpenClaim := { program := "ytcfjhmglifpdlaa", sum := "c0f03470d3ed1d250f52b2cda17d07973257172c738a94dd6e67f1b17550fc8c", func := "drover/droverlaw03.VectorShares", spec := "vectorShares", apart := false }
def VectorSharesSaid : Prop := vectorSharesRow.holds Try.pinned (OpenSpec.ofChange vectorSharesSpec)

/-- ITS FALSE NEIGHBOUR: 'it returns false'. Refute it at one input. -/
def vectorSharesWrong : ChangeSpec := { name := "vectorShares", fn := fun _ => fun
  | [d1, d2, d3] => { results := [.lit (.bool false)], args := [d1, d2, d3] }
  | _ => none }
def VectorSharesWrongFalsely : Prop := vectorSharesRow.holds Try.pinned (OpenSpec.ofChange vectorSharesWrong)

/-- 'droverlaw03.VectorGrows': WHATEVER THE INPUT: true; the input reads as it did. -/
def vectorGrowsSpec : ChangeSpec := { name := "vectorGrows", fn := fun _ => fun
  | [d1, d2] => { results := [.lit (.bool true)], args := [d1, d2] }
  | _ => none }
def vectorGrowsRow : OpenClaim := { program := "ytcfjhmglifpdlaa", sum := "c0f03470d3ed1d250f52b2cda17d07973257172c738a94dd6e67f1b17550fc8c", func := "drover/droverlaw03.VectorGrows", spec := "vectorGrows", apart := false }
def VectorGrowsSaid : Prop := vectorGrowsRow.holds Try.pinned (OpenSpec.ofChange vectorGrowsSpec)

/-- ITS FALSE NEIGHBOUR: 'it returns false'. Refute it at one input. -/
def vectorGrowsWrong : ChangeSpec := { name := "vectorGrows", fn := fun _ => fun
  | [d1, d2] => { results := [.lit (.bool false)], args := [d1, d2] }
  | _ => none }
def VectorGrowsWrongFalsely : Prop := vectorGrowsRow.holds Try.pinned (OpenSpec.ofChange vectorGrowsWrong)

/- THE SECOND FORM. 'bulk': how many values and letters a reading holds, each counted each time it is reached (what is shared counts as often as it is met; a slice's spare places count too). A statement '..UptoSaid' is the law's where the arguments, and the package variables that the reading takes, are together of bulk at most 1048576: NARROWER than '..Said'. Prove '..Said' where nothing that the law and all that it calls make is longer than what came in: it says more and counts as full. Else prove '..UptoSaid'. A law counts once. -/
mutual
def uptoBulk {H : Type} : DataW H → Nat
  | .lit (.string bytes) => bytes.length + 1
  | .lit _ => 1
  | .nil => 1
  | .ptr d => uptoBulk d + 1
  | .slice elems spare => uptoBulkAll elems + uptoBulkAll spare + 1
  | .agg parts => uptoBulkAll parts + 1
  | .iface _ d => uptoBulk d + 1
  | .map entries => uptoBulkEntries entries + 1
  | .held _ => 1
def uptoBulkAll {H : Type} : List (DataW H) → Nat
  | [] => 0
  | d :: r => uptoBulk d + uptoBulkAll r
def uptoBulkEntries {H : Type} : List (Lit × DataW H) → Nat
  | [] => 0
  | x :: r => uptoBulkEntry x + uptoBulkEntries r
def uptoBulkEntry {H : Type} : Lit × DataW H → Nat
  | (.string bytes, d) => bytes.length + uptoBulk d + 1
  | (_, d) => uptoBulk d + 1
 end
def uptoSmall : (H : Type) → List (DataW H) → Bool := fun _ ds => decide (uptoBulkAll ds ≤ 1048576)
def OpenSpec.upto (s : _root_.Go.ChangeSpec) : _root_.Go.OpenSpec := { _root_.Go.OpenSpec.ofChange s with cond := some uptoSmall }

/-- 'droverlaw03.VectorSums', WHERE WHAT IT READS IS OF BULK AT MOST 1048576: true; the input reads as it did. -/
def vectorSumsUptoRow : OpenClaim := { program := "ytcfjhmglifpdlaa", sum := "c0f03470d3ed1d250f52b2cda17d07973257172c738a94dd6e67f1b17550fc8c", func := "drover/droverlaw03.VectorSums", spec := "vectorSums", apart := false, narrowed := true }
def VectorSumsUptoSaid : Prop := vectorSumsUptoRow.holds Try.pinned (OpenSpec.upto vectorSumsSpec)

/-- 'droverlaw03.VectorReckons', WHERE WHAT IT READS IS OF BULK AT MOST 1048576: true; the input reads as it did. -/
def vectorReckonsUptoRow : OpenClaim := { program := "ytcfjhmglifpdlaa", sum := "c0f03470d3ed1d250f52b2cda17d07973257172c738a94dd6e67f1b17550fc8c", func := "drover/droverlaw03.VectorReckons", spec := "vectorReckons", apart := false, narrowed := true }
def VectorReckonsUptoSaid : Prop := vectorReckonsUptoRow.holds Try.pinned (OpenSpec.upto vectorReckonsSpec)

/-- 'droverlaw03.VectorBack', WHERE WHAT IT READS IS OF BULK AT MOST 1048576: true; the input reads as it did. -/
def vectorBackUptoRow : OpenClaim := { program := "ytcfjhmglifpdlaa", sum := "c0f03470d3ed1d250f52b2cda17d07973257172c738a94dd6e67f1b17550fc8c", func := "drover/droverlaw03.VectorBack", spec := "vectorBack", apart := false, narrowed := true }
def VectorBackUptoSaid : Prop := vectorBackUptoRow.holds Try.pinned (OpenSpec.upto vectorBackSpec)

/-- 'droverlaw03.VectorAsks', WHERE WHAT IT READS IS OF BULK AT MOST 1048576: true; the input reads as it did. -/
def vectorAsksUptoRow : OpenClaim := { program := "ytcfjhmglifpdlaa", sum := "c0f03470d3ed1d250f52b2cda17d07973257172c738a94dd6e67f1b17550fc8c", func := "drover/droverlaw03.VectorAsks", spec := "vectorAsks", apart := false, narrowed := true }
def VectorAsksUptoSaid : Prop := vectorAsksUptoRow.holds Try.pinned (OpenSpec.upto vectorAsksSpec)

/-- 'droverlaw03.VectorShares', WHERE WHAT IT READS IS OF BULK AT MOST 1048576: true; the input reads as it did. -/
def vectorSharesUptoRow : OpenClaim := { program := "ytcfjhmglifpdlaa", sum := "c0f03470d3ed1d250f52b2cda17d07973257172c738a94dd6e67f1b17550fc8c", func := "drover/droverlaw03.VectorShares", spec := "vectorShares", apart := false, narrowed := true }
def VectorSharesUptoSaid : Prop := vectorSharesUptoRow.holds Try.pinned (OpenSpec.upto vectorSharesSpec)

/-- 'droverlaw03.VectorGrows', WHERE WHAT IT READS IS OF BULK AT MOST 1048576: true; the input reads as it did. -/
def vectorGrowsUptoRow : OpenClaim := { program := "ytcfjhmglifpdlaa", sum := "c0f03470d3ed1d250f52b2cda17d07973257172c738a94dd6e67f1b17550fc8c", func := "drover/droverlaw03.VectorGrows", spec := "vectorGrows", apart := false, narrowed := true }
def VectorGrowsUptoSaid : Prop := vectorGrowsUptoRow.holds Try.pinned (OpenSpec.upto vectorGrowsSpec)

end Rows
end Go.Proofs.Ytcfjhmglifpdlaa
