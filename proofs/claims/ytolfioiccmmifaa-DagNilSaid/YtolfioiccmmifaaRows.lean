/-
  No cell of these rows narrows 'for every input' (looked for: loops, veiled, ifaces, maps, wideKeys, modest, calm, conditions, laid).
  DERIVED. THE GIVEN ROWS OF THIS SEAT. 6 by the template 'for every input the law returns true; each argument reads behind the call as it read before'; 0 by the template 'total and deterministic' (their statements: YtolfioiccmmifaaTotals.lean).
  GIVEN WITH THE SEED: the statements are not yours to turn. If you find one false, say at which input.
  Laid BY PROGRAM, IN A SANDBOX (cutbox-rows.mjs): the forced cells as the released guide's own fill.sh prints them over the translation 7bbeb558c2d2c7f6… (all of the seat's roots in one cut). By AI agents, Wed Nov 11 2026. No macro, syntax, notation, axiom, sorry.
-/
import Derived.Test.YtolfioiccmmifaaChecked
import GoSem.Claim
import GoSem.ClaimJoined
import GoSem.ClaimMapViews
import Derived.JoinedTies
import Derived.KernelRfl
namespace Go.Proofs.Ytolfioiccmmifaa
/- THE CELL 'sum', in the pinned program and in every row, IS THE sha256 OF THE DUMP (.gsa) THAT YtolfioiccmmifaaProg.lean LOADS. Nothing in Lean hashes anything: it is a label: what it is worth is what the hold of that sum in a sandbox is worth. -/
noncomputable def Try.pinned : Pinned := { name := "ytolfioiccmmifaa", sum := "7bbeb558c2d2c7f6d3ff95058b351907f299bd102fccb7e0e4327ac6c4b68c39", checked := Try.checked }
namespace Rows
def none {H : Type} : Left H := { results := [], args := [] }

/-- 'droverlaw12.DagCycles': WHATEVER THE INPUT: true; the input reads as it did. -/
def dagCyclesSpec : ChangeSpec := { name := "dagCycles", fn := fun _ => fun
  | [d1, d2] => { results := [.lit (.bool true)], args := [d1, d2] }
  | _ => none }
def dagCyclesRow : OpenClaim := { program := "ytolfioiccmmifaa", sum := "7bbeb558c2d2c7f6d3ff95058b351907f299bd102fccb7e0e4327ac6c4b68c39", func := "drover/droverlaw12.DagCycles", spec := "dagCycles", recurses := true, apart := false }
def DagCyclesSaid : Prop := dagCyclesRow.holds Try.pinned (OpenSpec.ofChange dagCyclesSpec)

/-- ITS FALSE NEIGHBOUR: 'it returns false'. Refute it at one input. -/
def dagCyclesWrong : ChangeSpec := { name := "dagCycles", fn := fun _ => fun
  | [d1, d2] => { results := [.lit (.bool false)], args := [d1, d2] }
  | _ => none }
def DagCyclesWrongFalsely : Prop := dagCyclesRow.holds Try.pinned (OpenSpec.ofChange dagCyclesWrong)

/-- 'droverlaw12.DagOrder': WHATEVER THE INPUT: true; the input reads as it did. -/
def dagOrderSpec : ChangeSpec := { name := "dagOrder", fn := fun _ => fun
  | [d] => { results := [.lit (.bool true)], args := [d] }
  | _ => none }
def dagOrderRow : OpenClaim := { program := "ytolfioiccmmifaa", sum := "7bbeb558c2d2c7f6d3ff95058b351907f299bd102fccb7e0e4327ac6c4b68c39", func := "drover/droverlaw12.DagOrder", spec := "dagOrder", recurses := true, apart := false }
def DagOrderSaid : Prop := dagOrderRow.holds Try.pinned (OpenSpec.ofChange dagOrderSpec)

/-- ITS FALSE NEIGHBOUR: 'it returns false'. Refute it at one input. -/
def dagOrderWrong : ChangeSpec := { name := "dagOrder", fn := fun _ => fun
  | [d] => { results := [.lit (.bool false)], args := [d] }
  | _ => none }
def DagOrderWrongFalsely : Prop := dagOrderRow.holds Try.pinned (OpenSpec.ofChange dagOrderWrong)

/-- 'droverlaw12.DagReleases': WHATEVER THE INPUT: true; the input reads as it did. -/
def dagReleasesSpec : ChangeSpec := { name := "dagReleases", fn := fun _ => fun
  | [d] => { results := [.lit (.bool true)], args := [d] }
  | _ => none }
def dagReleasesRow : OpenClaim := { program := "ytolfioiccmmifaa", sum := "7bbeb558c2d2c7f6d3ff95058b351907f299bd102fccb7e0e4327ac6c4b68c39", func := "drover/droverlaw12.DagReleases", spec := "dagReleases", recurses := true, apart := false }
def DagReleasesSaid : Prop := dagReleasesRow.holds Try.pinned (OpenSpec.ofChange dagReleasesSpec)

/-- ITS FALSE NEIGHBOUR: 'it returns false'. Refute it at one input. -/
def dagReleasesWrong : ChangeSpec := { name := "dagReleases", fn := fun _ => fun
  | [d] => { results := [.lit (.bool false)], args := [d] }
  | _ => none }
def DagReleasesWrongFalsely : Prop := dagReleasesRow.holds Try.pinned (OpenSpec.ofChange dagReleasesWrong)

/-- 'droverlaw12.DagFails': WHATEVER THE INPUT: true; the input reads as it did. -/
def dagFailsSpec : ChangeSpec := { name := "dagFails", fn := fun _ => fun
  | [d1, d2] => { results := [.lit (.bool true)], args := [d1, d2] }
  | _ => none }
def dagFailsRow : OpenClaim := { program := "ytolfioiccmmifaa", sum := "7bbeb558c2d2c7f6d3ff95058b351907f299bd102fccb7e0e4327ac6c4b68c39", func := "drover/droverlaw12.DagFails", spec := "dagFails", recurses := true, apart := false }
def DagFailsSaid : Prop := dagFailsRow.holds Try.pinned (OpenSpec.ofChange dagFailsSpec)

/-- ITS FALSE NEIGHBOUR: 'it returns false'. Refute it at one input. -/
def dagFailsWrong : ChangeSpec := { name := "dagFails", fn := fun _ => fun
  | [d1, d2] => { results := [.lit (.bool false)], args := [d1, d2] }
  | _ => none }
def DagFailsWrongFalsely : Prop := dagFailsRow.holds Try.pinned (OpenSpec.ofChange dagFailsWrong)

/-- 'droverlaw12.DagPlays': WHATEVER THE INPUT: true; the input reads as it did. -/
def dagPlaysSpec : ChangeSpec := { name := "dagPlays", fn := fun _ => fun
  | [d] => { results := [.lit (.bool true)], args := [d] }
  | _ => none }
def dagPlaysRow : OpenClaim := { program := "ytolfioiccmmifaa", sum := "7bbeb558c2d2c7f6d3ff95058b351907f299bd102fccb7e0e4327ac6c4b68c39", func := "drover/droverlaw12.DagPlays", spec := "dagPlays", recurses := true, apart := false }
def DagPlaysSaid : Prop := dagPlaysRow.holds Try.pinned (OpenSpec.ofChange dagPlaysSpec)

/-- ITS FALSE NEIGHBOUR: 'it returns false'. Refute it at one input. -/
def dagPlaysWrong : ChangeSpec := { name := "dagPlays", fn := fun _ => fun
  | [d] => { results := [.lit (.bool false)], args := [d] }
  | _ => none }
def DagPlaysWrongFalsely : Prop := dagPlaysRow.holds Try.pinned (OpenSpec.ofChange dagPlaysWrong)

/-- 'droverlaw12.DagNil': WHATEVER THE INPUT: true; the input reads as it did. -/
def dagNilSpec : ChangeSpec := { name := "dagNil", fn := fun _ => fun
  | [d1, d2] => { results := [.lit (.bool true)], args := [d1, d2] }
  | _ => none }
def dagNilRow : OpenClaim := { program := "ytolfioiccmmifaa", sum := "7bbeb558c2d2c7f6d3ff95058b351907f299bd102fccb7e0e4327ac6c4b68c39", func := "drover/droverlaw12.DagNil", spec := "dagNil", recurses := true, apart := false }
def DagNilSaid : Prop := dagNilRow.holds Try.pinned (OpenSpec.ofChange dagNilSpec)

/-- ITS FALSE NEIGHBOUR: 'it returns false'. Refute it at one input. -/
def dagNilWrong : ChangeSpec := { name := "dagNil", fn := fun _ => fun
  | [d1, d2] => { results := [.lit (.bool false)], args := [d1, d2] }
  | _ => none }
def DagNilWrongFalsely : Prop := dagNilRow.holds Try.pinned (OpenSpec.ofChange dagNilWrong)

/- THE SECOND FORM. 'bulk': how many values and letters a reading holds, each counted each time it is reached (what is shared counts as often as it is met; a slice's spare places count too). A statement '..UptoSaid' is the law's where the arguments, and the package variables that the reading takes, are together of bulk at most 1048576: NARROWER than '..Said'. Prove '..Said' where nothing that the law and all that it calls make is longer than what came in: it says more and counts as full. Else prove '..UptoSaid'. A law counts once. -/
mutual
def uptoBulk {H : Type} : DataW H → Nat
  | .lit (.string bytes) => bytes.length + 1
  | .lit _ => 1
  | .nil => 1
  | .ptr d => uptoBulk d + 1
  | .slice elems spare => uptoBulkAll elems + uptoBulkAll spare + 1
  | .agg parts => uptoBulkAll parts + 1
  | .iface _ d => uptoBulk d + 1
  | .map entries => uptoBulkEntries entries + 1
  | .held _ => 1
def uptoBulkAll {H : Type} : List (DataW H) → Nat
  | [] => 0
  | d :: r => uptoBulk d + uptoBulkAll r
def uptoBulkEntries {H : Type} : List (Lit × DataW H) → Nat
  | [] => 0
  | x :: r => uptoBulkEntry x + uptoBulkEntries r
def uptoBulkEntry {H : Type} : Lit × DataW H → Nat
  | (.string bytes, d) => bytes.length + uptoBulk d + 1
  | (_, d) => uptoBulk d + 1
 end
def uptoSmall : (H : Type) → List (DataW H) → Bool := fun _ ds => decide (uptoBulkAll ds ≤ 1048576)
def OpenSpec.upto (s : _root_.Go.ChangeSpec) : _root_.Go.OpenSpec := { _root_.Go.OpenSpec.ofChange s with cond := some uptoSmall }

/-- 'droverlaw12.DagCycles', WHERE WHAT IT READS IS OF BULK AT MOST 1048576: true; the input reads as it did. -/
def dagCyclesUptoRow : OpenClaim := { program := "ytolfioiccmmifaa", sum := "7bbeb558c2d2c7f6d3ff95058b351907f299bd102fccb7e0e4327ac6c4b68c39", func := "drover/droverlaw12.DagCycles", spec := "dagCycles", recurses := true, apart := false, narrowed := true }
def DagCyclesUptoSaid : Prop := dagCyclesUptoRow.holds Try.pinned (OpenSpec.upto dagCyclesSpec)

/-- 'droverlaw12.DagOrder', WHERE WHAT IT READS IS OF BULK AT MOST 1048576: true; the input reads as it did. -/
def dagOrderUptoRow : OpenClaim := { program := "ytolfioiccmmifaa", sum := "7bbeb558c2d2c7f6d3ff95058b351907f299bd102fccb7e0e4327ac6c4b68c39", func := "drover/droverlaw12.DagOrder", spec := "dagOrder", recurses := true, apart := false, narrowed := true }
def DagOrderUptoSaid : Prop := dagOrderUptoRow.holds Try.pinned (OpenSpec.upto dagOrderSpec)

/-- 'droverlaw12.DagReleases', WHERE WHAT IT READS IS OF BULK AT MOST 1048576: true; the input reads as it did. -/
def dagReleasesUptoRow : OpenClaim := { program := "ytolfioiccmmifaa", sum := "7bbeb558c2d2c7f6d3ff95058b351907f299bd102fccb7e0e4327ac6c4b68c39", func := "drover/droverlaw12.DagReleases", spec := "dagReleases", recurses := true, apart := false, narrowed := true }
def DagReleasesUptoSaid : Prop := dagReleasesUptoRow.holds Try.pinned (OpenSpec.upto dagReleasesSpec)

/-- 'droverlaw12.DagFails', WHERE WHAT IT READS IS OF BULK AT MOST 1048576: true; the input reads as it did. -/
def dagFailsUptoRow : OpenClaim := { program := "ytolfioiccmmifaa", sum := "7bbeb558c2d2c7f6d3ff95058b351907f299bd102fccb7e0e4327ac6c4b68c39", func := "drover/droverlaw12.DagFails", spec := "dagFails", recurses := true, apart := false, narrowed := true }
def DagFailsUptoSaid : Prop := dagFailsUptoRow.holds Try.pinned (OpenSpec.upto dagFailsSpec)

/-- 'droverlaw12.DagPlays', WHERE WHAT IT READS IS OF BULK AT MOST 1048576: true; the input reads as it did. -/
def dagPlaysUptoRow : OpenClaim := { program := "ytolfioiccmmifaa", sum := "7bbeb558c2d2c7f6d3ff95058b351907f299bd102fccb7e0e4327ac6c4b68c39", func := "drover/droverlaw12.DagPlays", spec := "dagPlays", recurses := true, apart := false, narrowed := true }
def DagPlaysUptoSaid : Prop := dagPlaysUptoRow.holds Try.pinned (OpenSpec.upto dagPlaysSpec)

/-- 'droverlaw12.DagNil', WHERE WHAT IT READS IS OF BULK AT MOST 1048576: true; the input reads as it did. -/
def dagNilUptoRow : OpenClaim := { program := "ytolfioiccmmifaa", sum := "7bbeb558c2d2c7f6d3ff95058b351907f299bd102fccb7e0e4327ac6c4b68c39", func := "drover/droverlaw12.DagNil", spec := "dagNil", recurses := true, apart := false, narrowed := true }
def DagNilUptoSaid : Prop := dagNilUptoRow.holds Try.pinned (OpenSpec.upto dagNilSpec)

end Rows
end Go.Proofs.Ytolfioiccmmifaa
