/-
  No cell of these rows narrows 'for every input' (looked for: loops, veiled, ifaces, maps, wideKeys, modest, calm, conditions, laid).
  DERIVED. THE GIVEN ROWS OF THIS SEAT. 5 by the template 'for every input the law returns true; each argument reads behind the call as it read before'; 0 by the template 'total and deterministic' (their statements: YtbkopmgfkokmgaaTotals.lean).
  GIVEN WITH THE SEED: the statements are not yours to turn. If you find one false, say at which input.
  Laid BY PROGRAM, IN A SANDBOX (cutbox-rows.mjs): the forced cells as the released guide's own fill.sh prints them over the translation 99b9910576c93dbb… (all of the seat's roots in one cut). By AI agents, Wed Nov 11 2026. No macro, syntax, notation, axiom, sorry.
-/
import Derived.Test.YtbkopmgfkokmgaaChecked
import GoSem.Claim
import GoSem.ClaimJoined
import GoSem.ClaimMapViews
import Derived.JoinedTies
import Derived.KernelRfl
namespace Go.Proofs.Ytbkopmgfkokmgaa
/- THE CELL 'sum', in the pinned program and in every row, IS THE sha256 OF THE DUMP (.gsa) THAT YtbkopmgfkokmgaaProg.lean LOADS. Nothing in Lean hashes anything: it is a label: what it is worth is what the hold of that sum in a sandbox is worth. -/
noncomputable def Try.pinned : Pinned := { name := "ytbkopmgfkokmgaa", sum := "99b9910576c93dbbb9523484a10965e0fc9209cda25baa65f7d4c4394588f45d", checked := Try.checked }
namespace Rows
def none {H : Type} : Left H := { results := [], args := [] }

/-- 'droverlaw02.RatioMakes': WHATEVER THE INPUT: true; the input reads as it did. -/
def ratioMakesSpec : ChangeSpec := { name := "ratioMakes", fn := fun _ => fun
  | [d1, d2] => { results := [.lit (.bool true)], args := [d1, d2] }
  | _ => none }
def ratioMakesRow : OpenClaim := { program := "ytbkopmgfkokmgaa", sum := "99b9910576c93dbbb9523484a10965e0fc9209cda25baa65f7d4c4394588f45d", func := "drover/droverlaw02.RatioMakes", spec := "ratioMakes", apart := false }
def RatioMakesSaid : Prop := ratioMakesRow.holds Try.pinned (OpenSpec.ofChange ratioMakesSpec)

/-- ITS FALSE NEIGHBOUR: 'it returns false'. Refute it at one input. -/
def ratioMakesWrong : ChangeSpec := { name := "ratioMakes", fn := fun _ => fun
  | [d1, d2] => { results := [.lit (.bool false)], args := [d1, d2] }
  | _ => none }
def RatioMakesWrongFalsely : Prop := ratioMakesRow.holds Try.pinned (OpenSpec.ofChange ratioMakesWrong)

/-- 'droverlaw02.RatioOrder': WHATEVER THE INPUT: true; the input reads as it did. -/
def ratioOrderSpec : ChangeSpec := { name := "ratioOrder", fn := fun _ => fun
  | [d1, d2] => { results := [.lit (.bool true)], args := [d1, d2] }
  | _ => none }
def ratioOrderRow : OpenClaim := { program := "ytbkopmgfkokmgaa", sum := "99b9910576c93dbbb9523484a10965e0fc9209cda25baa65f7d4c4394588f45d", func := "drover/droverlaw02.RatioOrder", spec := "ratioOrder", apart := false }
def RatioOrderSaid : Prop := ratioOrderRow.holds Try.pinned (OpenSpec.ofChange ratioOrderSpec)

/-- ITS FALSE NEIGHBOUR: 'it returns false'. Refute it at one input. -/
def ratioOrderWrong : ChangeSpec := { name := "ratioOrder", fn := fun _ => fun
  | [d1, d2] => { results := [.lit (.bool false)], args := [d1, d2] }
  | _ => none }
def RatioOrderWrongFalsely : Prop := ratioOrderRow.holds Try.pinned (OpenSpec.ofChange ratioOrderWrong)

/-- 'droverlaw02.RatioParts': WHATEVER THE INPUT: true; the input reads as it did. -/
def ratioPartsSpec : ChangeSpec := { name := "ratioParts", fn := fun _ => fun
  | [d] => { results := [.lit (.bool true)], args := [d] }
  | _ => none }
def ratioPartsRow : OpenClaim := { program := "ytbkopmgfkokmgaa", sum := "99b9910576c93dbbb9523484a10965e0fc9209cda25baa65f7d4c4394588f45d", func := "drover/droverlaw02.RatioParts", spec := "ratioParts", inPlace := ["math/bits.Add64", "math/bits.Sub64"], named := ["math/bits.divideError", "math/bits.overflowError"], apart := false }
def RatioPartsSaid : Prop := ratioPartsRow.holds Try.pinned (OpenSpec.ofChange ratioPartsSpec)

/-- ITS FALSE NEIGHBOUR: 'it returns false'. Refute it at one input. -/
def ratioPartsWrong : ChangeSpec := { name := "ratioParts", fn := fun _ => fun
  | [d] => { results := [.lit (.bool false)], args := [d] }
  | _ => none }
def RatioPartsWrongFalsely : Prop := ratioPartsRow.holds Try.pinned (OpenSpec.ofChange ratioPartsWrong)

/-- 'droverlaw02.RatioReckons': WHATEVER THE INPUT: true; the input reads as it did. -/
def ratioReckonsSpec : ChangeSpec := { name := "ratioReckons", fn := fun _ => fun
  | [d1, d2] => { results := [.lit (.bool true)], args := [d1, d2] }
  | _ => none }
def ratioReckonsRow : OpenClaim := { program := "ytbkopmgfkokmgaa", sum := "99b9910576c93dbbb9523484a10965e0fc9209cda25baa65f7d4c4394588f45d", func := "drover/droverlaw02.RatioReckons", spec := "ratioReckons", inPlace := ["math/bits.Add64", "math/bits.Sub64"], named := ["math/bits.divideError", "math/bits.overflowError"], apart := false }
def RatioReckonsSaid : Prop := ratioReckonsRow.holds Try.pinned (OpenSpec.ofChange ratioReckonsSpec)

/-- ITS FALSE NEIGHBOUR: 'it returns false'. Refute it at one input. -/
def ratioReckonsWrong : ChangeSpec := { name := "ratioReckons", fn := fun _ => fun
  | [d1, d2] => { results := [.lit (.bool false)], args := [d1, d2] }
  | _ => none }
def RatioReckonsWrongFalsely : Prop := ratioReckonsRow.holds Try.pinned (OpenSpec.ofChange ratioReckonsWrong)

/-- 'droverlaw02.RatioBack': WHATEVER THE INPUT: true; the input reads as it did. -/
def ratioBackSpec : ChangeSpec := { name := "ratioBack", fn := fun _ => fun
  | [d1, d2] => { results := [.lit (.bool true)], args := [d1, d2] }
  | _ => none }
def ratioBackRow : OpenClaim := { program := "ytbkopmgfkokmgaa", sum := "99b9910576c93dbbb9523484a10965e0fc9209cda25baa65f7d4c4394588f45d", func := "drover/droverlaw02.RatioBack", spec := "ratioBack", inPlace := ["math/bits.Add64", "math/bits.Sub64"], named := ["math/bits.divideError", "math/bits.overflowError"], apart := false }
def RatioBackSaid : Prop := ratioBackRow.holds Try.pinned (OpenSpec.ofChange ratioBackSpec)

/-- ITS FALSE NEIGHBOUR: 'it returns false'. Refute it at one input. -/
def ratioBackWrong : ChangeSpec := { name := "ratioBack", fn := fun _ => fun
  | [d1, d2] => { results := [.lit (.bool false)], args := [d1, d2] }
  | _ => none }
def RatioBackWrongFalsely : Prop := ratioBackRow.holds Try.pinned (OpenSpec.ofChange ratioBackWrong)

/- THE SECOND FORM. 'bulk': how many values and letters a reading holds, each counted each time it is reached (what is shared counts as often as it is met; a slice's spare places count too). A statement '..UptoSaid' is the law's where the arguments, and the package variables that the reading takes, are together of bulk at most 1048576: NARROWER than '..Said'. Prove '..Said' where nothing that the law and all that it calls make is longer than what came in: it says more and counts as full. Else prove '..UptoSaid'. A law counts once. -/
mutual
def uptoBulk {H : Type} : DataW H → Nat
  | .lit (.string bytes) => bytes.length + 1
  | .lit _ => 1
  | .nil => 1
  | .ptr d => uptoBulk d + 1
  | .slice elems spare => uptoBulkAll elems + uptoBulkAll spare + 1
  | .agg parts => uptoBulkAll parts + 1
  | .iface _ d => uptoBulk d + 1
  | .map entries => uptoBulkEntries entries + 1
  | .held _ => 1
def uptoBulkAll {H : Type} : List (DataW H) → Nat
  | [] => 0
  | d :: r => uptoBulk d + uptoBulkAll r
def uptoBulkEntries {H : Type} : List (Lit × DataW H) → Nat
  | [] => 0
  | x :: r => uptoBulkEntry x + uptoBulkEntries r
def uptoBulkEntry {H : Type} : Lit × DataW H → Nat
  | (.string bytes, d) => bytes.length + uptoBulk d + 1
  | (_, d) => uptoBulk d + 1
 end
def uptoSmall : (H : Type) → List (DataW H) → Bool := fun _ ds => decide (uptoBulkAll ds ≤ 1048576)
def OpenSpec.upto (s : _root_.Go.ChangeSpec) : _root_.Go.OpenSpec := { _root_.Go.OpenSpec.ofChange s with cond := some uptoSmall }

/-- 'droverlaw02.RatioMakes', WHERE WHAT IT READS IS OF BULK AT MOST 1048576: true; the input reads as it did. -/
def ratioMakesUptoRow : OpenClaim := { program := "ytbkopmgfkokmgaa", sum := "99b9910576c93dbbb9523484a10965e0fc9209cda25baa65f7d4c4394588f45d", func := "drover/droverlaw02.RatioMakes", spec := "ratioMakes", apart := false, narrowed := true }
def RatioMakesUptoSaid : Prop := ratioMakesUptoRow.holds Try.pinned (OpenSpec.upto ratioMakesSpec)

/-- 'droverlaw02.RatioOrder', WHERE WHAT IT READS IS OF BULK AT MOST 1048576: true; the input reads as it did. -/
def ratioOrderUptoRow : OpenClaim := { program := "ytbkopmgfkokmgaa", sum := "99b9910576c93dbbb9523484a10965e0fc9209cda25baa65f7d4c4394588f45d", func := "drover/droverlaw02.RatioOrder", spec := "ratioOrder", apart := false, narrowed := true }
def RatioOrderUptoSaid : Prop := ratioOrderUptoRow.holds Try.pinned (OpenSpec.upto ratioOrderSpec)

/-- 'droverlaw02.RatioParts', WHERE WHAT IT READS IS OF BULK AT MOST 1048576: true; the input reads as it did. -/
def ratioPartsUptoRow : OpenClaim := { program := "ytbkopmgfkokmgaa", sum := "99b9910576c93dbbb9523484a10965e0fc9209cda25baa65f7d4c4394588f45d", func := "drover/droverlaw02.RatioParts", spec := "ratioParts", inPlace := ["math/bits.Add64", "math/bits.Sub64"], named := ["math/bits.divideError", "math/bits.overflowError"], apart := false, narrowed := true }
def RatioPartsUptoSaid : Prop := ratioPartsUptoRow.holds Try.pinned (OpenSpec.upto ratioPartsSpec)

/-- 'droverlaw02.RatioReckons', WHERE WHAT IT READS IS OF BULK AT MOST 1048576: true; the input reads as it did. -/
def ratioReckonsUptoRow : OpenClaim := { program := "ytbkopmgfkokmgaa", sum := "99b9910576c93dbbb9523484a10965e0fc9209cda25baa65f7d4c4394588f45d", func := "drover/droverlaw02.RatioReckons", spec := "ratioReckons", inPlace := ["math/bits.Add64", "math/bits.Sub64"], named := ["math/bits.divideError", "math/bits.overflowError"], apart := false, narrowed := true }
def RatioReckonsUptoSaid : Prop := ratioReckonsUptoRow.holds Try.pinned (OpenSpec.upto ratioReckonsSpec)

/-- 'droverlaw02.RatioBack', WHERE WHAT IT READS IS OF BULK AT MOST 1048576: true; the input reads as it did. -/
def ratioBackUptoRow : OpenClaim := { program := "ytbkopmgfkokmgaa", sum := "99b9910576c93dbbb9523484a10965e0fc9209cda25baa65f7d4c4394588f45d", func := "drover/droverlaw02.RatioBack", spec := "ratioBack", inPlace := ["math/bits.Add64", "math/bits.Sub64"], named := ["math/bits.divideError", "math/bits.overflowError"], apart := false, narrowed := true }
def RatioBackUptoSaid : Prop := ratioBackUptoRow.holds Try.pinned (OpenSpec.upto ratioBackSpec)

end Rows
end Go.Proofs.Ytbkopmgfkokmgaa
