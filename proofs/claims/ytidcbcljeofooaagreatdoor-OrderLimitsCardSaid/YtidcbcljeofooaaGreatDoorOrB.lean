/- Chapter 20, plain law: commands; what a line says; which are formed. -/
import Derived.Test.YtidcbcljeofooaaGreatDoorOrA
import Derived.Test.YtidcbcljeofooaaGreatDoorVec
import Derived.Test.YtidcbcljeofooaaGreatDoorWrd
namespace Go.Proofs.YtidcbcljeofooaaGreatDoor
structure Jb where
  id : Int
  ten : ByteArray
  pri : Int
  run : Int
  par : List Int
  tsk : List V
  st : Int
  att : Int
  nod : List ByteArray
  start : Int
  don : List ByteArray
deriving DecidableEq
structure Cm where
  kind : Int
  tn : ByteArray
  tw : Int
  tq : V
  job : Jb
  node : ByteArray
  ep : Int
  vec : V
  num : Int
  att : Int
deriving DecidableEq
def noStr : ByteArray := ⟨#[]⟩
def jb0 : Jb := ⟨0, ⟨#[]⟩, 0, 0, [], [], 0, 0, [], 0, []⟩
def cm0 : Cm := ⟨0, ⟨#[]⟩, 0, zeroV, jb0, ⟨#[]⟩, 0, zeroV, 0, 0⟩
def idB (n : Int) : Bool := decide (1 ≤ n ∧ n ≤ 100)
def epB (n : Int) : Bool := decide (1 ≤ n ∧ n ≤ 2147483647)
/-- Parents: rising, each a job's number other than the job's. -/
def parB (id : Int) (l : List Int) : Bool := l.all (fun p => idB p && decide (p ≠ id)) && decide (l.Pairwise (· < ·))
def jobB (j : Jb) : Bool :=
  idB j.id && nameB j.ten && decide (0 ≤ j.pri ∧ j.pri ≤ 100) && decide (1 ≤ j.run ∧ j.run ≤ 1000) && decide (j.par.length ≤ 4) && decide (1 ≤ j.tsk.length ∧ j.tsk.length ≤ 6)
    && parB j.id j.par && j.tsk.all okV && decide (j.st = 0 ∧ j.att = 0 ∧ j.start = 0) && decide (j.nod = [] ∧ j.don = [])
def tenB (n : ByteArray) (w : Int) (q : V) : Bool := nameB n && decide (1 ≤ w ∧ w ≤ 1000) && okV q
def rowsB (c : Cm) : Bool :=
  if c.kind = 1 then tenB c.tn c.tw c.tq && decide (c.node = ⟨#[]⟩ ∧ c.ep = 0 ∧ c.num = 0 ∧ c.att = 0)
  else if c.kind = 2 then jobB c.job && decide (c.node = ⟨#[]⟩ ∧ c.ep = 0 ∧ c.num = 0 ∧ c.att = 0)
  else if c.kind = 3 ∨ c.kind = 4 then idB c.num && decide (c.node = ⟨#[]⟩ ∧ c.ep = 0 ∧ c.att = 0)
  else if c.kind = 5 then nameB c.node && epB c.ep && okV c.vec && decide (c.num = 0 ∧ c.att = 0)
  else if c.kind = 6 then nameB c.node && epB c.ep && decide (c.num = 0 ∧ c.att = 0)
  else if c.kind = 7 ∨ c.kind = 8 then nameB c.node && epB c.ep && idB c.num && epB c.att
  else if c.kind = 9 ∨ c.kind = 10 then decide (c.node = ⟨#[]⟩ ∧ c.ep = 0 ∧ c.num = 0 ∧ c.att = 0)
  else false
/-- What is not named is nothing. -/
def onlyB (c : Cm) : Bool := decide (c.kind = 2 ∨ c.job = jb0) && decide (c.kind = 1 ∨ (c.tn = ⟨#[]⟩ ∧ c.tw = 0 ∧ c.tq = zeroV)) && decide (c.kind = 5 ∨ c.vec = zeroV)
def formB (c : Cm) : Bool := onlyB c && rowsB c
/-- How many words, and the Kind. -/
def cntP (a : List UInt8) : Nat × Nat :=
  if a = [116, 101, 110, 97, 110, 116] then (4, 1)
  else if a = [117, 112] then (4, 5)
  else if a = [115, 117, 98, 109, 105, 116] then (7, 2)
  else if a = [99, 97, 110, 99, 101, 108] then (2, 3)
  else if a = [113, 117, 101, 114, 121] then (2, 4)
  else if a = [98, 101, 97, 116] then (3, 6)
  else if a = [100, 111, 110, 101] then (5, 7)
  else if a = [102, 97, 105, 108] then (5, 8)
  else if a = [116, 105, 99, 107] then (1, 9)
  else if a = [110, 111, 100, 101, 115] then (1, 10)
  else (0, 0)
def kindP (w : List ByteArray) : Nat := match w with
  | [] => 0
  | a :: _ => if (cntP a.data.toList).1 ≠ 0 ∧ (w.length = (cntP a.data.toList).1 ∨ ((cntP a.data.toList).2 = 2 ∧ (cntP a.data.toList).1 < w.length)) then (cntP a.data.toList).2 else 0
def vI (v : Nat × Nat × Nat × Nat) : V := (v.1, v.2.1, v.2.2.1, v.2.2.2)
abbrev wd (w : List ByteArray) (i : Nat) : ByteArray := w.getD i ⟨#[]⟩
abbrev wl (w : List ByteArray) (i : Nat) : List UInt8 := (wd w i).data.toList
/-- A word's number. -/
def wn (w : List ByteArray) (i : Nat) : Option Int := (numP (wl w i)).map fun n : Nat => (n : Int)
def wv (w : List ByteArray) (i : Nat) : Option V := (vecP (wl w i)).map vI
def jobP (w : List ByteArray) : Option Jb := match wn w 1, wn w 3, wn w 4, lstP (wl w 5), allP vecP ((w.drop 6).map (·.data.toList)) with
  | some a, some p, some t, some l, some m => some ⟨a, wd w 2, p, t, l, m.map vI, 0, 0, [], 0, []⟩
  | _, _, _, _, _ => none
def cmdP (k : Nat) (w : List ByteArray) : Option Cm :=
  if k = 1 then (match wn w 2, wv w 3 with | some a, some v => some { cm0 with kind := k, tn := wd w 1, tw := a, tq := v } | _, _ => none)
  else if k = 2 then (match jobP w with | some j => some { cm0 with kind := k, job := j } | none => none)
  else if k = 3 ∨ k = 4 then (match wn w 1 with | some a => some { cm0 with kind := k, num := a } | none => none)
  else if k = 5 then (match wn w 2, wv w 3 with | some a, some v => some { cm0 with kind := k, node := wd w 1, ep := a, vec := v } | _, _ => none)
  else if k = 6 then (match wn w 2 with | some a => some { cm0 with kind := k, node := wd w 1, ep := a } | none => none)
  else if k = 7 ∨ k = 8 then (match wn w 2, wn w 3, wn w 4 with | some a, some b, some c => some { cm0 with kind := k, node := wd w 1, ep := a, num := b, att := c } | _, _, _ => none)
  else some { cm0 with kind := k }
/-- What a line says. -/
def lineP (s : ByteArray) : Cm × Int :=
  if 512 < s.size then (cm0, 1)
  else if (wres s).2.2 ≠ 0 then (cm0, (wres s).2.2)
  else if kindP (wres s).1 = 0 then (cm0, 13)
  else match cmdP (kindP (wres s).1) (wres s).1 with
    | none => (cm0, 12)
    | some c => if formB c then (c, 0) else (cm0, 4)
end Go.Proofs.YtidcbcljeofooaaGreatDoor
