/-
  No cell of these rows narrows 'for every input' (looked for: loops, veiled, ifaces, maps, wideKeys, modest, calm, conditions, laid).
  DERIVED. THE GIVEN ROWS OF THIS SEAT. 6 by the template 'for every input the law returns true; each argument reads behind the call as it read before'; 0 by the template 'total and deterministic' (their statements: YtacffoobeebleaaTotals.lean).
  GIVEN WITH THE SEED: the statements are not yours to turn. If you find one false, say at which input.
  Laid BY PROGRAM, IN A SANDBOX (cutbox-rows.mjs): the forced cells as the released guide's own fill.sh prints them over the translation 844580ad734c3ec8… (all of the seat's roots in one cut). By AI agents, Wed Nov 11 2026. No macro, syntax, notation, axiom, sorry.
-/
import Derived.Test.YtacffoobeebleaaChecked
import GoSem.Claim
import GoSem.ClaimJoined
import GoSem.ClaimMapViews
import Derived.JoinedTies
import Derived.KernelRfl
namespace Go.Proofs.Ytacffoobeebleaa
/- THE CELL 'sum', in the pinned program and in every row, IS THE sha256 OF THE DUMP (.gsa) THAT YtacffoobeebleaaProg.lean LOADS. Nothing in Lean hashes anything: it is a label: what it is worth is what the hold of that sum in a sandbox is worth. -/
noncomputable def Try.pinned : Pinned := { name := "ytacffoobeebleaa", sum := "844580ad734c3ec8e212ea763838301cad8694085d42af50fc99faa8ce03e406", checked := Try.checked }
namespace Rows
def none {H : Type} : Left H := { results := [], args := [] }

/-- 'droverlaw10.TimerRings': WHATEVER THE INPUT: true; the input reads as it did. -/
def timerRingsSpec : ChangeSpec := { name := "timerRings", fn := fun _ => fun
  | [d1, d2] => { results := [.lit (.bool true)], args := [d1, d2] }
  | _ => none }
def timerRingsRow : OpenClaim := { program := "ytacffoobeebleaa", sum := "844580ad734c3ec8e212ea763838301cad8694085d42af50fc99faa8ce03e406", func := "drover/droverlaw10.TimerRings", spec := "timerRings", unfollowed := true, recurses := true, apart := false }
def TimerRingsSaid : Prop := timerRingsRow.holds Try.pinned (OpenSpec.ofChange timerRingsSpec)

/-- ITS FALSE NEIGHBOUR: 'it returns false'. Refute it at one input. -/
def timerRingsWrong : ChangeSpec := { name := "timerRings", fn := fun _ => fun
  | [d1, d2] => { results := [.lit (.bool false)], args := [d1, d2] }
  | _ => none }
def TimerRingsWrongFalsely : Prop := timerRingsRow.holds Try.pinned (OpenSpec.ofChange timerRingsWrong)

/-- 'droverlaw10.TimerOrder': WHATEVER THE INPUT: true; the input reads as it did. -/
def timerOrderSpec : ChangeSpec := { name := "timerOrder", fn := fun _ => fun
  | [d1, d2] => { results := [.lit (.bool true)], args := [d1, d2] }
  | _ => none }
def timerOrderRow : OpenClaim := { program := "ytacffoobeebleaa", sum := "844580ad734c3ec8e212ea763838301cad8694085d42af50fc99faa8ce03e406", func := "drover/droverlaw10.TimerOrder", spec := "timerOrder", unfollowed := true, recurses := true, apart := false }
def TimerOrderSaid : Prop := timerOrderRow.holds Try.pinned (OpenSpec.ofChange timerOrderSpec)

/-- ITS FALSE NEIGHBOUR: 'it returns false'. Refute it at one input. -/
def timerOrderWrong : ChangeSpec := { name := "timerOrder", fn := fun _ => fun
  | [d1, d2] => { results := [.lit (.bool false)], args := [d1, d2] }
  | _ => none }
def TimerOrderWrongFalsely : Prop := timerOrderRow.holds Try.pinned (OpenSpec.ofChange timerOrderWrong)

/-- 'droverlaw10.TimerFull': WHATEVER THE INPUT: true; the input reads as it did. -/
def timerFullSpec : ChangeSpec := { name := "timerFull", fn := fun _ => fun
  | [d1, d2] => { results := [.lit (.bool true)], args := [d1, d2] }
  | _ => none }
def timerFullRow : OpenClaim := { program := "ytacffoobeebleaa", sum := "844580ad734c3ec8e212ea763838301cad8694085d42af50fc99faa8ce03e406", func := "drover/droverlaw10.TimerFull", spec := "timerFull", unfollowed := true, recurses := true, apart := false }
def TimerFullSaid : Prop := timerFullRow.holds Try.pinned (OpenSpec.ofChange timerFullSpec)

/-- ITS FALSE NEIGHBOUR: 'it returns false'. Refute it at one input. -/
def timerFullWrong : ChangeSpec := { name := "timerFull", fn := fun _ => fun
  | [d1, d2] => { results := [.lit (.bool false)], args := [d1, d2] }
  | _ => none }
def TimerFullWrongFalsely : Prop := timerFullRow.holds Try.pinned (OpenSpec.ofChange timerFullWrong)

/-- 'droverlaw10.TimerPlays': WHATEVER THE INPUT: true; the input reads as it did. -/
def timerPlaysSpec : ChangeSpec := { name := "timerPlays", fn := fun _ => fun
  | [d] => { results := [.lit (.bool true)], args := [d] }
  | _ => none }
def timerPlaysRow : OpenClaim := { program := "ytacffoobeebleaa", sum := "844580ad734c3ec8e212ea763838301cad8694085d42af50fc99faa8ce03e406", func := "drover/droverlaw10.TimerPlays", spec := "timerPlays", unfollowed := true, recurses := true, apart := false }
def TimerPlaysSaid : Prop := timerPlaysRow.holds Try.pinned (OpenSpec.ofChange timerPlaysSpec)

/-- ITS FALSE NEIGHBOUR: 'it returns false'. Refute it at one input. -/
def timerPlaysWrong : ChangeSpec := { name := "timerPlays", fn := fun _ => fun
  | [d] => { results := [.lit (.bool false)], args := [d] }
  | _ => none }
def TimerPlaysWrongFalsely : Prop := timerPlaysRow.holds Try.pinned (OpenSpec.ofChange timerPlaysWrong)

/-- 'droverlaw10.TimerLatest': WHATEVER THE INPUT: true; the input reads as it did. -/
def timerLatestSpec : ChangeSpec := { name := "timerLatest", fn := fun _ => fun
  | [d1, d2, d3] => { results := [.lit (.bool true)], args := [d1, d2, d3] }
  | _ => none }
def timerLatestRow : OpenClaim := { program := "ytacffoobeebleaa", sum := "844580ad734c3ec8e212ea763838301cad8694085d42af50fc99faa8ce03e406", func := "drover/droverlaw10.TimerLatest", spec := "timerLatest", unfollowed := true, recurses := true, apart := false }
def TimerLatestSaid : Prop := timerLatestRow.holds Try.pinned (OpenSpec.ofChange timerLatestSpec)

/-- ITS FALSE NEIGHBOUR: 'it returns false'. Refute it at one input. -/
def timerLatestWrong : ChangeSpec := { name := "timerLatest", fn := fun _ => fun
  | [d1, d2, d3] => { results := [.lit (.bool false)], args := [d1, d2, d3] }
  | _ => none }
def TimerLatestWrongFalsely : Prop := timerLatestRow.holds Try.pinned (OpenSpec.ofChange timerLatestWrong)

/-- 'droverlaw10.TimerNil': WHATEVER THE INPUT: true; the input reads as it did. -/
def timerNilSpec : ChangeSpec := { name := "timerNil", fn := fun _ => fun
  | [d1, d2] => { results := [.lit (.bool true)], args := [d1, d2] }
  | _ => none }
def timerNilRow : OpenClaim := { program := "ytacffoobeebleaa", sum := "844580ad734c3ec8e212ea763838301cad8694085d42af50fc99faa8ce03e406", func := "drover/droverlaw10.TimerNil", spec := "timerNil", unfollowed := true, recurses := true, apart := false }
def TimerNilSaid : Prop := timerNilRow.holds Try.pinned (OpenSpec.ofChange timerNilSpec)

/-- ITS FALSE NEIGHBOUR: 'it returns false'. Refute it at one input. -/
def timerNilWrong : ChangeSpec := { name := "timerNil", fn := fun _ => fun
  | [d1, d2] => { results := [.lit (.bool false)], args := [d1, d2] }
  | _ => none }
def TimerNilWrongFalsely : Prop := timerNilRow.holds Try.pinned (OpenSpec.ofChange timerNilWrong)

/- THE SECOND FORM. 'bulk': how many values and letters a reading holds, each counted each time it is reached (what is shared counts as often as it is met; a slice's spare places count too). A statement '..UptoSaid' is the law's where the arguments, and the package variables that the reading takes, are together of bulk at most 1048576: NARROWER than '..Said'. Prove '..Said' where nothing that the law and all that it calls make is longer than what came in: it says more and counts as full. Else prove '..UptoSaid'. A law counts once. -/
mutual
def uptoBulk {H : Type} : DataW H → Nat
  | .lit (.string bytes) => bytes.length + 1
  | .lit _ => 1
  | .nil => 1
  | .ptr d => uptoBulk d + 1
  | .slice elems spare => uptoBulkAll elems + uptoBulkAll spare + 1
  | .agg parts => uptoBulkAll parts + 1
  | .iface _ d => uptoBulk d + 1
  | .map entries => uptoBulkEntries entries + 1
  | .held _ => 1
def uptoBulkAll {H : Type} : List (DataW H) → Nat
  | [] => 0
  | d :: r => uptoBulk d + uptoBulkAll r
def uptoBulkEntries {H : Type} : List (Lit × DataW H) → Nat
  | [] => 0
  | x :: r => uptoBulkEntry x + uptoBulkEntries r
def uptoBulkEntry {H : Type} : Lit × DataW H → Nat
  | (.string bytes, d) => bytes.length + uptoBulk d + 1
  | (_, d) => uptoBulk d + 1
 end
def uptoSmall : (H : Type) → List (DataW H) → Bool := fun _ ds => decide (uptoBulkAll ds ≤ 1048576)
def OpenSpec.upto (s : _root_.Go.ChangeSpec) : _root_.Go.OpenSpec := { _root_.Go.OpenSpec.ofChange s with cond := some uptoSmall }

/-- 'droverlaw10.TimerRings', WHERE WHAT IT READS IS OF BULK AT MOST 1048576: true; the input reads as it did. -/
def timerRingsUptoRow : OpenClaim := { program := "ytacffoobeebleaa", sum := "844580ad734c3ec8e212ea763838301cad8694085d42af50fc99faa8ce03e406", func := "drover/droverlaw10.TimerRings", spec := "timerRings", unfollowed := true, recurses := true, apart := false, narrowed := true }
def TimerRingsUptoSaid : Prop := timerRingsUptoRow.holds Try.pinned (OpenSpec.upto timerRingsSpec)

/-- 'droverlaw10.TimerOrder', WHERE WHAT IT READS IS OF BULK AT MOST 1048576: true; the input reads as it did. -/
def timerOrderUptoRow : OpenClaim := { program := "ytacffoobeebleaa", sum := "844580ad734c3ec8e212ea763838301cad8694085d42af50fc99faa8ce03e406", func := "drover/droverlaw10.TimerOrder", spec := "timerOrder", unfollowed := true, recurses := true, apart := false, narrowed := true }
def TimerOrderUptoSaid : Prop := timerOrderUptoRow.holds Try.pinned (OpenSpec.upto timerOrderSpec)

/-- 'droverlaw10.TimerFull', WHERE WHAT IT READS IS OF BULK AT MOST 1048576: true; the input reads as it did. -/
def timerFullUptoRow : OpenClaim := { program := "ytacffoobeebleaa", sum := "844580ad734c3ec8e212ea763838301cad8694085d42af50fc99faa8ce03e406", func := "drover/droverlaw10.TimerFull", spec := "timerFull", unfollowed := true, recurses := true, apart := false, narrowed := true }
def TimerFullUptoSaid : Prop := timerFullUptoRow.holds Try.pinned (OpenSpec.upto timerFullSpec)

/-- 'droverlaw10.TimerPlays', WHERE WHAT IT READS IS OF BULK AT MOST 1048576: true; the input reads as it did. -/
def timerPlaysUptoRow : OpenClaim := { program := "ytacffoobeebleaa", sum := "844580ad734c3ec8e212ea763838301cad8694085d42af50fc99faa8ce03e406", func := "drover/droverlaw10.TimerPlays", spec := "timerPlays", unfollowed := true, recurses := true, apart := false, narrowed := true }
def TimerPlaysUptoSaid : Prop := timerPlaysUptoRow.holds Try.pinned (OpenSpec.upto timerPlaysSpec)

/-- 'droverlaw10.TimerLatest', WHERE WHAT IT READS IS OF BULK AT MOST 1048576: true; the input reads as it did. -/
def timerLatestUptoRow : OpenClaim := { program := "ytacffoobeebleaa", sum := "844580ad734c3ec8e212ea763838301cad8694085d42af50fc99faa8ce03e406", func := "drover/droverlaw10.TimerLatest", spec := "timerLatest", unfollowed := true, recurses := true, apart := false, narrowed := true }
def TimerLatestUptoSaid : Prop := timerLatestUptoRow.holds Try.pinned (OpenSpec.upto timerLatestSpec)

/-- 'droverlaw10.TimerNil', WHERE WHAT IT READS IS OF BULK AT MOST 1048576: true; the input reads as it did. -/
def timerNilUptoRow : OpenClaim := { program := "ytacffoobeebleaa", sum := "844580ad734c3ec8e212ea763838301cad8694085d42af50fc99faa8ce03e406", func := "drover/droverlaw10.TimerNil", spec := "timerNil", unfollowed := true, recurses := true, apart := false, narrowed := true }
def TimerNilUptoSaid : Prop := timerNilUptoRow.holds Try.pinned (OpenSpec.upto timerNilSpec)

end Rows
end Go.Proofs.Ytacffoobeebleaa
