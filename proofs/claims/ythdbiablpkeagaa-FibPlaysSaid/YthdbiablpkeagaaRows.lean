/-
  No cell of these rows narrows 'for every input' (looked for: loops, veiled, ifaces, maps, wideKeys, modest, calm, conditions, laid).
  DERIVED. THE GIVEN ROWS OF THIS SEAT. 5 by the template 'for every input the law returns true; each argument reads behind the call as it read before'; 0 by the template 'total and deterministic' (their statements: YthdbiablpkeagaaTotals.lean).
  GIVEN WITH THE SEED: the statements are not yours to turn. If you find one false, say at which input.
  Laid BY PROGRAM, IN A SANDBOX (cutbox-rows.mjs): the forced cells as the released guide's own fill.sh prints them over the translation 3afbd589f778eda1… (all of the seat's roots in one cut). By AI agents, Wed Nov 11 2026. No macro, syntax, notation, axiom, sorry.
-/
import Derived.Test.YthdbiablpkeagaaChecked
import GoSem.Claim
import GoSem.ClaimJoined
import GoSem.ClaimMapViews
import Derived.JoinedTies
import Derived.KernelRfl
namespace Go.Proofs.Ythdbiablpkeagaa
/- THE CELL 'sum', in the pinned program and in every row, IS THE sha256 OF THE DUMP (.gsa) THAT YthdbiablpkeagaaProg.lean LOADS. Nothing in Lean hashes anything: it is a label: what it is worth is what the hold of that sum in a sandbox is worth. -/
noncomputable def Try.pinned : Pinned := { name := "ythdbiablpkeagaa", sum := "3afbd589f778eda1045af41eb1fd07f1a2b10482bc695ddd5f6645d26c8d0519", checked := Try.checked }
namespace Rows
def none {H : Type} : Left H := { results := [], args := [] }

/-- 'droverlaw08.FibSorts': WHATEVER THE INPUT: true; the input reads as it did. -/
def fibSortsSpec : ChangeSpec := { name := "fibSorts", fn := fun _ => fun
  | [d] => { results := [.lit (.bool true)], args := [d] }
  | _ => none }
def fibSortsRow : OpenClaim := { program := "ythdbiablpkeagaa", sum := "3afbd589f778eda1045af41eb1fd07f1a2b10482bc695ddd5f6645d26c8d0519", func := "drover/droverlaw08.FibSorts", spec := "fibSorts", apart := false }
def FibSortsSaid : Prop := fibSortsRow.holds Try.pinned (OpenSpec.ofChange fibSortsSpec)

/-- ITS FALSE NEIGHBOUR: 'it returns false'. Refute it at one input. -/
def fibSortsWrong : ChangeSpec := { name := "fibSorts", fn := fun _ => fun
  | [d] => { results := [.lit (.bool false)], args := [d] }
  | _ => none }
def FibSortsWrongFalsely : Prop := fibSortsRow.holds Try.pinned (OpenSpec.ofChange fibSortsWrong)

/-- 'droverlaw08.FibMelds': WHATEVER THE INPUT: true; the input reads as it did. -/
def fibMeldsSpec : ChangeSpec := { name := "fibMelds", fn := fun _ => fun
  | [d1, d2] => { results := [.lit (.bool true)], args := [d1, d2] }
  | _ => none }
def fibMeldsRow : OpenClaim := { program := "ythdbiablpkeagaa", sum := "3afbd589f778eda1045af41eb1fd07f1a2b10482bc695ddd5f6645d26c8d0519", func := "drover/droverlaw08.FibMelds", spec := "fibMelds", apart := false }
def FibMeldsSaid : Prop := fibMeldsRow.holds Try.pinned (OpenSpec.ofChange fibMeldsSpec)

/-- ITS FALSE NEIGHBOUR: 'it returns false'. Refute it at one input. -/
def fibMeldsWrong : ChangeSpec := { name := "fibMelds", fn := fun _ => fun
  | [d1, d2] => { results := [.lit (.bool false)], args := [d1, d2] }
  | _ => none }
def FibMeldsWrongFalsely : Prop := fibMeldsRow.holds Try.pinned (OpenSpec.ofChange fibMeldsWrong)

/-- 'droverlaw08.FibGoes': WHATEVER THE INPUT: true; the input reads as it did. -/
def fibGoesSpec : ChangeSpec := { name := "fibGoes", fn := fun _ => fun
  | [d1, d2] => { results := [.lit (.bool true)], args := [d1, d2] }
  | _ => none }
def fibGoesRow : OpenClaim := { program := "ythdbiablpkeagaa", sum := "3afbd589f778eda1045af41eb1fd07f1a2b10482bc695ddd5f6645d26c8d0519", func := "drover/droverlaw08.FibGoes", spec := "fibGoes", apart := false }
def FibGoesSaid : Prop := fibGoesRow.holds Try.pinned (OpenSpec.ofChange fibGoesSpec)

/-- ITS FALSE NEIGHBOUR: 'it returns false'. Refute it at one input. -/
def fibGoesWrong : ChangeSpec := { name := "fibGoes", fn := fun _ => fun
  | [d1, d2] => { results := [.lit (.bool false)], args := [d1, d2] }
  | _ => none }
def FibGoesWrongFalsely : Prop := fibGoesRow.holds Try.pinned (OpenSpec.ofChange fibGoesWrong)

/-- 'droverlaw08.FibPlays': WHATEVER THE INPUT: true; the input reads as it did. -/
def fibPlaysSpec : ChangeSpec := { name := "fibPlays", fn := fun _ => fun
  | [d] => { results := [.lit (.bool true)], args := [d] }
  | _ => none }
def fibPlaysRow : OpenClaim := { program := "ythdbiablpkeagaa", sum := "3afbd589f778eda1045af41eb1fd07f1a2b10482bc695ddd5f6645d26c8d0519", func := "drover/droverlaw08.FibPlays", spec := "fibPlays", apart := false }
def FibPlaysSaid : Prop := fibPlaysRow.holds Try.pinned (OpenSpec.ofChange fibPlaysSpec)

/-- ITS FALSE NEIGHBOUR: 'it returns false'. Refute it at one input. -/
def fibPlaysWrong : ChangeSpec := { name := "fibPlays", fn := fun _ => fun
  | [d] => { results := [.lit (.bool false)], args := [d] }
  | _ => none }
def FibPlaysWrongFalsely : Prop := fibPlaysRow.holds Try.pinned (OpenSpec.ofChange fibPlaysWrong)

/-- 'droverlaw08.FibNil': WHATEVER THE INPUT: true; the input reads as it did. -/
def fibNilSpec : ChangeSpec := { name := "fibNil", fn := fun _ => fun
  | [d1, d2] => { results := [.lit (.bool true)], args := [d1, d2] }
  | _ => none }
def fibNilRow : OpenClaim := { program := "ythdbiablpkeagaa", sum := "3afbd589f778eda1045af41eb1fd07f1a2b10482bc695ddd5f6645d26c8d0519", func := "drover/droverlaw08.FibNil", spec := "fibNil", apart := false }
def FibNilSaid : Prop := fibNilRow.holds Try.pinned (OpenSpec.ofChange fibNilSpec)

/-- ITS FALSE NEIGHBOUR: 'it returns false'. Refute it at one input. -/
def fibNilWrong : ChangeSpec := { name := "fibNil", fn := fun _ => fun
  | [d1, d2] => { results := [.lit (.bool false)], args := [d1, d2] }
  | _ => none }
def FibNilWrongFalsely : Prop := fibNilRow.holds Try.pinned (OpenSpec.ofChange fibNilWrong)

/- THE SECOND FORM. 'bulk': how many values and letters a reading holds, each counted each time it is reached (what is shared counts as often as it is met; a slice's spare places count too). A statement '..UptoSaid' is the law's where the arguments, and the package variables that the reading takes, are together of bulk at most 1048576: NARROWER than '..Said'. Prove '..Said' where nothing that the law and all that it calls make is longer than what came in: it says more and counts as full. Else prove '..UptoSaid'. A law counts once. -/
mutual
def uptoBulk {H : Type} : DataW H → Nat
  | .lit (.string bytes) => bytes.length + 1
  | .lit _ => 1
  | .nil => 1
  | .ptr d => uptoBulk d + 1
  | .slice elems spare => uptoBulkAll elems + uptoBulkAll spare + 1
  | .agg parts => uptoBulkAll parts + 1
  | .iface _ d => uptoBulk d + 1
  | .map entries => uptoBulkEntries entries + 1
  | .held _ => 1
def uptoBulkAll {H : Type} : List (DataW H) → Nat
  | [] => 0
  | d :: r => uptoBulk d + uptoBulkAll r
def uptoBulkEntries {H : Type} : List (Lit × DataW H) → Nat
  | [] => 0
  | x :: r => uptoBulkEntry x + uptoBulkEntries r
def uptoBulkEntry {H : Type} : Lit × DataW H → Nat
  | (.string bytes, d) => bytes.length + uptoBulk d + 1
  | (_, d) => uptoBulk d + 1
 end
def uptoSmall : (H : Type) → List (DataW H) → Bool := fun _ ds => decide (uptoBulkAll ds ≤ 1048576)
def OpenSpec.upto (s : _root_.Go.ChangeSpec) : _root_.Go.OpenSpec := { _root_.Go.OpenSpec.ofChange s with cond := some uptoSmall }

/-- 'droverlaw08.FibSorts', WHERE WHAT IT READS IS OF BULK AT MOST 1048576: true; the input reads as it did. -/
def fibSortsUptoRow : OpenClaim := { program := "ythdbiablpkeagaa", sum := "3afbd589f778eda1045af41eb1fd07f1a2b10482bc695ddd5f6645d26c8d0519", func := "drover/droverlaw08.FibSorts", spec := "fibSorts", apart := false, narrowed := true }
def FibSortsUptoSaid : Prop := fibSortsUptoRow.holds Try.pinned (OpenSpec.upto fibSortsSpec)

/-- 'droverlaw08.FibMelds', WHERE WHAT IT READS IS OF BULK AT MOST 1048576: true; the input reads as it did. -/
def fibMeldsUptoRow : OpenClaim := { program := "ythdbiablpkeagaa", sum := "3afbd589f778eda1045af41eb1fd07f1a2b10482bc695ddd5f6645d26c8d0519", func := "drover/droverlaw08.FibMelds", spec := "fibMelds", apart := false, narrowed := true }
def FibMeldsUptoSaid : Prop := fibMeldsUptoRow.holds Try.pinned (OpenSpec.upto fibMeldsSpec)

/-- 'droverlaw08.FibGoes', WHERE WHAT IT READS IS OF BULK AT MOST 1048576: true; the input reads as it did. -/
def fibGoesUptoRow : OpenClaim := { program := "ythdbiablpkeagaa", sum := "3afbd589f778eda1045af41eb1fd07f1a2b10482bc695ddd5f6645d26c8d0519", func := "drover/droverlaw08.FibGoes", spec := "fibGoes", apart := false, narrowed := true }
def FibGoesUptoSaid : Prop := fibGoesUptoRow.holds Try.pinned (OpenSpec.upto fibGoesSpec)

/-- 'droverlaw08.FibPlays', WHERE WHAT IT READS IS OF BULK AT MOST 1048576: true; the input reads as it did. -/
def fibPlaysUptoRow : OpenClaim := { program := "ythdbiablpkeagaa", sum := "3afbd589f778eda1045af41eb1fd07f1a2b10482bc695ddd5f6645d26c8d0519", func := "drover/droverlaw08.FibPlays", spec := "fibPlays", apart := false, narrowed := true }
def FibPlaysUptoSaid : Prop := fibPlaysUptoRow.holds Try.pinned (OpenSpec.upto fibPlaysSpec)

/-- 'droverlaw08.FibNil', WHERE WHAT IT READS IS OF BULK AT MOST 1048576: true; the input reads as it did. -/
def fibNilUptoRow : OpenClaim := { program := "ythdbiablpkeagaa", sum := "3afbd589f778eda1045af41eb1fd07f1a2b10482bc695ddd5f6645d26c8d0519", func := "drover/droverlaw08.FibNil", spec := "fibNil", apart := false, narrowed := true }
def FibNilUptoSaid : Prop := fibNilUptoRow.holds Try.pinned (OpenSpec.upto fibNilSpec)

end Rows
end Go.Proofs.Ythdbiablpkeagaa
