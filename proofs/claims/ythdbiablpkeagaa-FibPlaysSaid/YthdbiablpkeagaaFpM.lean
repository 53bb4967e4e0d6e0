/- FibPlays: one step, whatever the call. -/
import Derived.Test.YthdbiablpkeagaaFpE
namespace Go.Proofs.Ythdbiablpkeagaa
open Go.RowKit
variable {B N : Nat} {A : Nat → Nat} {Q : Nat → Prop} {w w' : World}
theorem step_any (hP : P3 B w A N Q) (hN : N < 100000) (kd hh nn : Int) (k : K3) (hk : okW k) : Calls Try.prog 19 #[lA A 0 1 2, lA A 3 4 5, oA kd hh nn k.1 k.2.1 k.2.2] w fun e w' => e = .returned (.bool true) ∧ Fin B N A Q w w' := by
  by_cases n1 : kd = 1
  · subst n1; exact step_1 hP hN hh nn k hk
  by_cases n2 : kd = 2
  · subst n2; exact step_2 hP hN hh nn k hk
  by_cases n3 : kd = 3
  · subst n3; exact step_3 hP hN hh nn k hk
  by_cases n4 : kd = 4
  · subst n4; exact step_4 hP hN hh nn k hk
  by_cases n5 : kd = 5
  · subst n5; exact step_5 hP hN hh nn k hk
  by_cases n6 : kd = 6
  · subst n6; exact step_6 hP hN hh nn k hk
  by_cases n7 : kd = 7
  · subst n7; exact step_7 hP hN hh nn k hk
  exact step_o hP hN kd hh nn k hk n1 n2 n3 n4 n5 n6 n7
end Go.Proofs.Ythdbiablpkeagaa
