/- Chapter 13's ledger, in plain Lean: accounts as a function of the name's bytes; what Open, Used, Take and Give come to. No program is in sight. -/
import Derived.Test.YtobgolceggeogaaMap
import Derived.Test.YtobgolceggeogaaVec
namespace Go.Proofs.Ytobgolceggeogaa
/-- An account: its limit, and what is used of it. -/
abbrev Acct := V × V
abbrev Acc := List UInt8 → Option Acct
abbrev Sums := List UInt8 → Option V
def zeroA : Acct := (zeroV, zeroV)
def acctV (x : Acct) : Value := .agg #[.int .i64 x.1.1, .int .i64 x.1.2.1, .int .i64 x.1.2.2.1, .int .i64 x.1.2.2.2, .int .i64 x.2.1, .int .i64 x.2.2.1, .int .i64 x.2.2.2.1, .int .i64 x.2.2.2.2]
theorem acctV_inj : ∀ x y, acctV x = acctV y → x = y := by
  rintro ⟨⟨a, b, c, d⟩, e, f, g, h⟩ ⟨⟨a', b', c', d'⟩, e', f', g', h'⟩ e1
  simp [acctV] at e1
  simp [e1]
theorem vv_inj : ∀ x y, vv x = vv y → x = y := by
  rintro ⟨a, b, c, d⟩ ⟨a', b', c', d'⟩ e1
  simp [vv] at e1
  simp [e1]
/-- Open. -/
def openE (A : Acc) (n : Nat) (k : List UInt8) (v : V) : Int := if okV v then (if (A k).isSome || decide (n < 64) then 0 else 6) else 4
def openA (A : Acc) (n : Nat) (k : List UInt8) (v : V) : Acc := if openE A n k v = 0 then putA A k (v, ((A k).getD zeroA).2) else A
def openN (A : Acc) (n : Nat) (k : List UInt8) (v : V) : Nat := if openE A n k v = 0 then (if (A k).isSome then n else n + 1) else n
/-- An entry: a name and an amount. -/
abbrev Ent := ByteArray × V
def nm (e : Ent) : List UInt8 := e.1.data.toList
def cap1 (x : Int) : Int := min x 1099511627777
def capV (s v : V) : V := (cap1 (s.1 + v.1), cap1 (s.2.1 + v.2.1), cap1 (s.2.2.1 + v.2.2.1), cap1 (s.2.2.2 + v.2.2.2))
def sumStep (S : Sums) (e : Ent) : Sums := putA S (nm e) (capV ((S (nm e)).getD zeroV) e.2)
def sumsOf (l : List Ent) : Sums := l.foldl sumStep noA
def gathE (A : Acc) (l : List Ent) : Int := if l.all (fun e => okV e.2) then (if l.all (fun e => (A (nm e)).isSome) then 0 else 3) else 4
def usedOf (A : Acc) (k : List UInt8) : V := ((A k).getD zeroA).2
def limOf (A : Acc) (k : List UInt8) : V := ((A k).getD zeroA).1
def takeFits (A : Acc) (S : Sums) (k : List UInt8) : Bool := fitsV (addV (usedOf A k) ((S k).getD zeroV)) (limOf A k)
def giveFits (A : Acc) (S : Sums) (k : List UInt8) : Bool := fitsV ((S k).getD zeroV) (usedOf A k)
def takeA (A : Acc) (S : Sums) : Acc := fun k => match S k with | some s => (A k).map (fun a => (a.1, addV a.2 s)) | none => A k
def giveA (A : Acc) (S : Sums) : Acc := fun k => match S k with | some s => (A k).map (fun a => (a.1, subV a.2 s)) | none => A k
def takeE (A : Acc) (l : List Ent) : Int := if gathE A l = 0 then (if l.all (fun e => takeFits A (sumsOf l) (nm e)) then 0 else 9) else gathE A l
def giveE (A : Acc) (l : List Ent) : Int := if gathE A l = 0 then (if l.all (fun e => giveFits A (sumsOf l) (nm e)) then 0 else 2) else gathE A l
def takeR (A : Acc) (l : List Ent) : Acc := if takeE A l = 0 then takeA A (sumsOf l) else A
def giveR (A : Acc) (l : List Ent) : Acc := if giveE A l = 0 then giveA A (sumsOf l) else A
/-- What holds of every ledger: limits are formed, and what is used is. -/
def Inv (A : Acc) : Prop := ∀ k x, A k = some x → okV x.1 = true ∧ okV x.2 = true
theorem inv_none : Inv noA := fun k x h => by cases h
theorem Inv.open_ {A : Acc} (h : Inv A) (n : Nat) (k : List UInt8) (v : V) : Inv (openA A n k v) := by
  unfold openA
  split
  · rename_i h0
    have hv : okV v = true := by
      cases e : okV v
      · simp [openE, e] at h0
      · rfl
    intro j x hj
    by_cases e : j = k
    · subst e
      rw [putA_same] at hj
      cases hj
      refine ⟨hv, ?_⟩
      cases hA : A j with
      | none => rfl
      | some y => exact (h j y hA).2
    · rw [putA_other _ _ e] at hj
      exact h j x hj
  · exact h
end Go.Proofs.Ytobgolceggeogaa
