/-
  No cell of these rows narrows 'for every input' (looked for: loops, veiled, ifaces, maps, wideKeys, modest, calm, conditions, laid).
  DERIVED. THE GIVEN ROWS OF THIS SEAT. 6 by the template 'for every input the law returns true; each argument reads behind the call as it read before'; 0 by the template 'total and deterministic' (their statements: YtkplhobiciddoaaTotals.lean).
  GIVEN WITH THE SEED: the statements are not yours to turn. If you find one false, say at which input.
  Laid BY PROGRAM, IN A SANDBOX (cutbox-rows.mjs): the forced cells as the released guide's own fill.sh prints them over the translation db9365a10dfdabdb… (all of the seat's roots in one cut). By AI agents, Wed Nov 11 2026. No macro, syntax, notation, axiom, sorry.
-/
import Derived.Test.YtkplhobiciddoaaChecked
import GoSem.Claim
import GoSem.ClaimJoined
import GoSem.ClaimMapViews
import Derived.JoinedTies
import Derived.KernelRfl
namespace Go.Proofs.Ytkplhobiciddoaa
/- THE CELL 'sum', in the pinned program and in every row, IS THE sha256 OF THE DUMP (.gsa) THAT YtkplhobiciddoaaProg.lean LOADS. Nothing in Lean hashes anything: it is a label: what it is worth is what the hold of that sum in a sandbox is worth. -/
noncomputable def Try.pinned : Pinned := { name := "ytkplhobiciddoaa", sum := "db9365a10dfdabdbfc5734235dce27517a5fb5505c3518def828576d4bfc995a", checked := Try.checked }
namespace Rows
def none {H : Type} : Left H := { results := [], args := [] }

/-- 'droverlaw19.WorkerStale': WHATEVER THE INPUT: true; the input reads as it did. -/
def workerStaleSpec : ChangeSpec := { name := "workerStale", fn := fun _ => fun
  | [d1, d2, d3] => { results := [.lit (.bool true)], args := [d1, d2, d3] }
  | _ => none }
def workerStaleRow : OpenClaim := { program := "ytkplhobiciddoaa", sum := "db9365a10dfdabdbfc5734235dce27517a5fb5505c3518def828576d4bfc995a", func := "drover/droverlaw19.WorkerStale", spec := "workerStale", unfollowed := true, recurses := true, apart := false }
def WorkerStaleSaid : Prop := workerStaleRow.holds Try.pinned (OpenSpec.ofChange workerStaleSpec)

/-- ITS FALSE NEIGHBOUR: 'it returns false'. Refute it at one input. -/
def workerStaleWrong : ChangeSpec := { name := "workerStale", fn := fun _ => fun
  | [d1, d2, d3] => { results := [.lit (.bool false)], args := [d1, d2, d3] }
  | _ => none }
def WorkerStaleWrongFalsely : Prop := workerStaleRow.holds Try.pinned (OpenSpec.ofChange workerStaleWrong)

/-- 'droverlaw19.WorkerEpochs': WHATEVER THE INPUT: true; the input reads as it did. -/
def workerEpochsSpec : ChangeSpec := { name := "workerEpochs", fn := fun _ => fun
  | [d1, d2] => { results := [.lit (.bool true)], args := [d1, d2] }
  | _ => none }
def workerEpochsRow : OpenClaim := { program := "ytkplhobiciddoaa", sum := "db9365a10dfdabdbfc5734235dce27517a5fb5505c3518def828576d4bfc995a", func := "drover/droverlaw19.WorkerEpochs", spec := "workerEpochs", inPlace := ["internal/bytealg.abigen_runtime_cmpstring"], unfollowed := true, recurses := true, apart := false }
def WorkerEpochsSaid : Prop := workerEpochsRow.holds Try.pinned (OpenSpec.ofChange workerEpochsSpec)

/-- ITS FALSE NEIGHBOUR: 'it returns false'. Refute it at one input. -/
def workerEpochsWrong : ChangeSpec := { name := "workerEpochs", fn := fun _ => fun
  | [d1, d2] => { results := [.lit (.bool false)], args := [d1, d2] }
  | _ => none }
def WorkerEpochsWrongFalsely : Prop := workerEpochsRow.holds Try.pinned (OpenSpec.ofChange workerEpochsWrong)

/-- 'droverlaw19.WorkerHeard': WHATEVER THE INPUT: true; the input reads as it did. -/
def workerHeardSpec : ChangeSpec := { name := "workerHeard", fn := fun _ => fun
  | [d1, d2] => { results := [.lit (.bool true)], args := [d1, d2] }
  | _ => none }
def workerHeardRow : OpenClaim := { program := "ytkplhobiciddoaa", sum := "db9365a10dfdabdbfc5734235dce27517a5fb5505c3518def828576d4bfc995a", func := "drover/droverlaw19.WorkerHeard", spec := "workerHeard", inPlace := ["internal/bytealg.abigen_runtime_cmpstring"], unfollowed := true, recurses := true, apart := false }
def WorkerHeardSaid : Prop := workerHeardRow.holds Try.pinned (OpenSpec.ofChange workerHeardSpec)

/-- ITS FALSE NEIGHBOUR: 'it returns false'. Refute it at one input. -/
def workerHeardWrong : ChangeSpec := { name := "workerHeard", fn := fun _ => fun
  | [d1, d2] => { results := [.lit (.bool false)], args := [d1, d2] }
  | _ => none }
def WorkerHeardWrongFalsely : Prop := workerHeardRow.holds Try.pinned (OpenSpec.ofChange workerHeardWrong)

/-- 'droverlaw19.WorkerPlays': WHATEVER THE INPUT: true; the input reads as it did. -/
def workerPlaysSpec : ChangeSpec := { name := "workerPlays", fn := fun _ => fun
  | [d] => { results := [.lit (.bool true)], args := [d] }
  | _ => none }
def workerPlaysRow : OpenClaim := { program := "ytkplhobiciddoaa", sum := "db9365a10dfdabdbfc5734235dce27517a5fb5505c3518def828576d4bfc995a", func := "drover/droverlaw19.WorkerPlays", spec := "workerPlays", inPlace := ["internal/bytealg.abigen_runtime_cmpstring"], unfollowed := true, recurses := true, apart := false }
def WorkerPlaysSaid : Prop := workerPlaysRow.holds Try.pinned (OpenSpec.ofChange workerPlaysSpec)

/-- ITS FALSE NEIGHBOUR: 'it returns false'. Refute it at one input. -/
def workerPlaysWrong : ChangeSpec := { name := "workerPlays", fn := fun _ => fun
  | [d] => { results := [.lit (.bool false)], args := [d] }
  | _ => none }
def WorkerPlaysWrongFalsely : Prop := workerPlaysRow.holds Try.pinned (OpenSpec.ofChange workerPlaysWrong)

/-- 'droverlaw19.WorkerFull': WHATEVER THE INPUT: true; the input reads as it did. -/
def workerFullSpec : ChangeSpec := { name := "workerFull", fn := fun _ => fun
  | [d1, d2] => { results := [.lit (.bool true)], args := [d1, d2] }
  | _ => none }
def workerFullRow : OpenClaim := { program := "ytkplhobiciddoaa", sum := "db9365a10dfdabdbfc5734235dce27517a5fb5505c3518def828576d4bfc995a", func := "drover/droverlaw19.WorkerFull", spec := "workerFull", inPlace := ["internal/bytealg.abigen_runtime_cmpstring"], unfollowed := true, recurses := true, apart := false }
def WorkerFullSaid : Prop := workerFullRow.holds Try.pinned (OpenSpec.ofChange workerFullSpec)

/-- ITS FALSE NEIGHBOUR: 'it returns false'. Refute it at one input. -/
def workerFullWrong : ChangeSpec := { name := "workerFull", fn := fun _ => fun
  | [d1, d2] => { results := [.lit (.bool false)], args := [d1, d2] }
  | _ => none }
def WorkerFullWrongFalsely : Prop := workerFullRow.holds Try.pinned (OpenSpec.ofChange workerFullWrong)

/-- 'droverlaw19.WorkerNil': WHATEVER THE INPUT: true; the input reads as it did. -/
def workerNilSpec : ChangeSpec := { name := "workerNil", fn := fun _ => fun
  | [d1, d2, d3] => { results := [.lit (.bool true)], args := [d1, d2, d3] }
  | _ => none }
def workerNilRow : OpenClaim := { program := "ytkplhobiciddoaa", sum := "db9365a10dfdabdbfc5734235dce27517a5fb5505c3518def828576d4bfc995a", func := "drover/droverlaw19.WorkerNil", spec := "workerNil", inPlace := ["internal/bytealg.abigen_runtime_cmpstring"], unfollowed := true, recurses := true, apart := false }
def WorkerNilSaid : Prop := workerNilRow.holds Try.pinned (OpenSpec.ofChange workerNilSpec)

/-- ITS FALSE NEIGHBOUR: 'it returns false'. Refute it at one input. -/
def workerNilWrong : ChangeSpec := { name := "workerNil", fn := fun _ => fun
  | [d1, d2, d3] => { results := [.lit (.bool false)], args := [d1, d2, d3] }
  | _ => none }
def WorkerNilWrongFalsely : Prop := workerNilRow.holds Try.pinned (OpenSpec.ofChange workerNilWrong)

/- THE SECOND FORM. 'bulk': how many values and letters a reading holds, each counted each time it is reached (what is shared counts as often as it is met; a slice's spare places count too). A statement '..UptoSaid' is the law's where the arguments, and the package variables that the reading takes, are together of bulk at most 1048576: NARROWER than '..Said'. Prove '..Said' where nothing that the law and all that it calls make is longer than what came in: it says more and counts as full. Else prove '..UptoSaid'. A law counts once. -/
mutual
def uptoBulk {H : Type} : DataW H → Nat
  | .lit (.string bytes) => bytes.length + 1
  | .lit _ => 1
  | .nil => 1
  | .ptr d => uptoBulk d + 1
  | .slice elems spare => uptoBulkAll elems + uptoBulkAll spare + 1
  | .agg parts => uptoBulkAll parts + 1
  | .iface _ d => uptoBulk d + 1
  | .map entries => uptoBulkEntries entries + 1
  | .held _ => 1
def uptoBulkAll {H : Type} : List (DataW H) → Nat
  | [] => 0
  | d :: r => uptoBulk d + uptoBulkAll r
def uptoBulkEntries {H : Type} : List (Lit × DataW H) → Nat
  | [] => 0
  | x :: r => uptoBulkEntry x + uptoBulkEntries r
def uptoBulkEntry {H : Type} : Lit × DataW H → Nat
  | (.string bytes, d) => bytes.length + uptoBulk d + 1
  | (_, d) => uptoBulk d + 1
 end
def uptoSmall : (H : Type) → List (DataW H) → Bool := fun _ ds => decide (uptoBulkAll ds ≤ 1048576)
def OpenSpec.upto (s : _root_.Go.ChangeSpec) : _root_.Go.OpenSpec := { _root_.Go.OpenSpec.ofChange s with cond := some uptoSmall }

/-- 'droverlaw19.WorkerStale', WHERE WHAT IT READS IS OF BULK AT MOST 1048576: true; the input reads as it did. -/
def workerStaleUptoRow : OpenClaim := { program := "ytkplhobiciddoaa", sum := "db9365a10dfdabdbfc5734235dce27517a5fb5505c3518def828576d4bfc995a", func := "drover/droverlaw19.WorkerStale", spec := "workerStale", unfollowed := true, recurses := true, apart := false, narrowed := true }
def WorkerStaleUptoSaid : Prop := workerStaleUptoRow.holds Try.pinned (OpenSpec.upto workerStaleSpec)

/-- 'droverlaw19.WorkerEpochs', WHERE WHAT IT READS IS OF BULK AT MOST 1048576: true; the input reads as it did. -/
def workerEpochsUptoRow : OpenClaim := { program := "ytkplhobiciddoaa", sum := "db9365a10dfdabdbfc5734235dce27517a5fb5505c3518def828576d4bfc995a", func := "drover/droverlaw19.WorkerEpochs", spec := "workerEpochs", inPlace := ["internal/bytealg.abigen_runtime_cmpstring"], unfollowed := true, recurses := true, apart := false, narrowed := true }
def WorkerEpochsUptoSaid : Prop := workerEpochsUptoRow.holds Try.pinned (OpenSpec.upto workerEpochsSpec)

/-- 'droverlaw19.WorkerHeard', WHERE WHAT IT READS IS OF BULK AT MOST 1048576: true; the input reads as it did. -/
def workerHeardUptoRow : OpenClaim := { program := "ytkplhobiciddoaa", sum := "db9365a10dfdabdbfc5734235dce27517a5fb5505c3518def828576d4bfc995a", func := "drover/droverlaw19.WorkerHeard", spec := "workerHeard", inPlace := ["internal/bytealg.abigen_runtime_cmpstring"], unfollowed := true, recurses := true, apart := false, narrowed := true }
def WorkerHeardUptoSaid : Prop := workerHeardUptoRow.holds Try.pinned (OpenSpec.upto workerHeardSpec)

/-- 'droverlaw19.WorkerPlays', WHERE WHAT IT READS IS OF BULK AT MOST 1048576: true; the input reads as it did. -/
def workerPlaysUptoRow : OpenClaim := { program := "ytkplhobiciddoaa", sum := "db9365a10dfdabdbfc5734235dce27517a5fb5505c3518def828576d4bfc995a", func := "drover/droverlaw19.WorkerPlays", spec := "workerPlays", inPlace := ["internal/bytealg.abigen_runtime_cmpstring"], unfollowed := true, recurses := true, apart := false, narrowed := true }
def WorkerPlaysUptoSaid : Prop := workerPlaysUptoRow.holds Try.pinned (OpenSpec.upto workerPlaysSpec)

/-- 'droverlaw19.WorkerFull', WHERE WHAT IT READS IS OF BULK AT MOST 1048576: true; the input reads as it did. -/
def workerFullUptoRow : OpenClaim := { program := "ytkplhobiciddoaa", sum := "db9365a10dfdabdbfc5734235dce27517a5fb5505c3518def828576d4bfc995a", func := "drover/droverlaw19.WorkerFull", spec := "workerFull", inPlace := ["internal/bytealg.abigen_runtime_cmpstring"], unfollowed := true, recurses := true, apart := false, narrowed := true }
def WorkerFullUptoSaid : Prop := workerFullUptoRow.holds Try.pinned (OpenSpec.upto workerFullSpec)

/-- 'droverlaw19.WorkerNil', WHERE WHAT IT READS IS OF BULK AT MOST 1048576: true; the input reads as it did. -/
def workerNilUptoRow : OpenClaim := { program := "ytkplhobiciddoaa", sum := "db9365a10dfdabdbfc5734235dce27517a5fb5505c3518def828576d4bfc995a", func := "drover/droverlaw19.WorkerNil", spec := "workerNil", inPlace := ["internal/bytealg.abigen_runtime_cmpstring"], unfollowed := true, recurses := true, apart := false, narrowed := true }
def WorkerNilUptoSaid : Prop := workerNilUptoRow.holds Try.pinned (OpenSpec.upto workerNilSpec)

end Rows
end Go.Proofs.Ytkplhobiciddoaa
