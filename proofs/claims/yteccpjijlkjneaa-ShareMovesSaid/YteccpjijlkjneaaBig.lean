/- Numbers as lists of 256 bits, the lowest first: the cells of such a block, and how its loops go on bit by bit. No program is in sight. -/
import Derived.Below
import Derived.Laws.Rows
namespace Go.Proofs.Yteccpjijlkjneaa
/-- The 256 cells of a number. -/
def bigA (n : Nat) : Array Value := Array.ofFn (fun i : Fin 256 => Value.bool (n.testBit i))
theorem bigA_size (n : Nat) : (bigA n).size = 256 := by unfold bigA; simp
theorem bigA_get (n i : Nat) (h : i < 256) : (bigA n)[i]? = some (.bool (n.testBit i)) := by
  unfold bigA
  rw [Array.getElem?_ofFn]
  simp [h]
theorem bigA_one (n : Nat) : (bigA n).all (·.oneCell') = true := by
  rw [Array.all_eq_true_iff_forall_mem]
  intro v hv
  unfold bigA at hv
  rw [Array.mem_ofFn] at hv
  obtain ⟨i, rfl⟩ := hv
  rfl
theorem bigA_ext {a b : Nat} (h : ∀ i, i < 256 → a.testBit i = b.testBit i) : bigA a = bigA b := by
  unfold bigA
  congr 1
  funext i
  rw [h i i.isLt]
theorem bigA_mod (a : Nat) : bigA (a % 2 ^ 256) = bigA a := bigA_ext fun i hi => by
  rw [Nat.testBit_mod_two_pow]; simp [hi]
/-- One bit more of a number is laid. -/
theorem bigA_step (S k : Nat) (hk : k < 256) : (bigA (S % 2 ^ k)).setIfInBounds k (.bool (S.testBit k)) = bigA (S % 2 ^ (k + 1)) := by
  apply Array.ext
  · simp [bigA_size]
  · intro i h1 h2
    rw [Array.size_setIfInBounds, bigA_size] at h1
    apply Option.some.inj
    rw [← Array.getElem?_eq_getElem, ← Array.getElem?_eq_getElem, Array.getElem?_setIfInBounds, bigA_size, bigA_get _ _ h1]
    by_cases hik : k = i
    · subst hik
      rw [if_pos rfl, if_pos hk, bigA_get _ _ hk, Nat.testBit_mod_two_pow]
      simp
    · rw [if_neg hik, bigA_get _ _ h1, Nat.testBit_mod_two_pow, Nat.testBit_mod_two_pow]
      have : decide (i < k) = decide (i < k + 1) := by rw [decide_eq_decide]; omega
      rw [this]
theorem mod_succ' (n k : Nat) : n % 2 ^ (k + 1) = 2 ^ k * (n.testBit k).toNat + n % 2 ^ k := by
  rw [Nat.mod_pow_succ, Nat.toNat_testBit, Nat.add_comm]
theorem bit_eq (n k : Nat) : n.testBit k = decide (n / 2 ^ k % 2 = 1) := Nat.testBit_eq_decide_div_mod_eq
/-- What is carried into bit k. -/
def carB (a b k : Nat) : Bool := decide (2 ^ k ≤ a % 2 ^ k + b % 2 ^ k)
theorem carB_zero (a b : Nat) : carB a b 0 = false := by unfold carB; simp [Nat.mod_one]
theorem carB_succ (a b k : Nat) : carB a b (k + 1) = (a.testBit k && b.testBit k || carB a b k && (a.testBit k || b.testBit k)) := by
  unfold carB
  rw [mod_succ', mod_succ', Nat.pow_succ]
  have hp := Nat.two_pow_pos k
  have ha := Nat.mod_lt a hp
  have hb := Nat.mod_lt b hp
  generalize a % 2 ^ k = x at *
  generalize b % 2 ^ k = y at *
  generalize 2 ^ k = p at *
  rw [Bool.eq_iff_iff]
  cases a.testBit k <;> cases b.testBit k <;> simp <;> omega
theorem add_bit (a b k : Nat) : (a + b).testBit k = ((a.testBit k != b.testBit k) != carB a b k) := by
  have hp := Nat.two_pow_pos k
  have ha := Nat.div_add_mod a (2 ^ k)
  have hb := Nat.div_add_mod b (2 ^ k)
  have ha' := Nat.mod_lt a hp
  have hb' := Nat.mod_lt b hp
  have e : (a + b) / 2 ^ k = a / 2 ^ k + b / 2 ^ k + (carB a b k).toNat := by
    unfold carB
    rw [Nat.add_div hp]
    by_cases h : 2 ^ k ≤ a % 2 ^ k + b % 2 ^ k <;> simp [h]
  rw [bit_eq, bit_eq, bit_eq, e]
  generalize a / 2 ^ k = x
  generalize b / 2 ^ k = y
  rw [Bool.eq_iff_iff]
  cases carB a b k <;> simp <;> omega
/-- What is borrowed out of bit k. -/
def borB (a b k : Nat) : Bool := decide (a % 2 ^ k < b % 2 ^ k)
theorem borB_zero (a b : Nat) : borB a b 0 = false := by unfold borB; simp [Nat.mod_one]
theorem borB_succ (a b k : Nat) : borB a b (k + 1) = (!a.testBit k && b.testBit k || borB a b k && a.testBit k == b.testBit k) := by
  unfold borB
  rw [mod_succ', mod_succ']
  have hp := Nat.two_pow_pos k
  have ha := Nat.mod_lt a hp
  have hb := Nat.mod_lt b hp
  generalize a % 2 ^ k = x at *
  generalize b % 2 ^ k = y at *
  generalize 2 ^ k = p at *
  rw [Bool.eq_iff_iff]
  cases a.testBit k <;> cases b.testBit k <;> simp <;> omega
theorem sub_bit {a b : Nat} (h : b ≤ a) (k : Nat) : (a - b).testBit k = ((a.testBit k != b.testBit k) != borB a b k) := by
  obtain ⟨c, rfl⟩ := Nat.le.dest h
  have e : b + c - b = c := by omega
  rw [e, add_bit]
  have hb : borB (b + c) b k = carB b c k := by
    unfold borB carB
    have hp := Nat.two_pow_pos k
    have hb' := Nat.mod_lt b hp
    have hc' := Nat.mod_lt c hp
    rw [decide_eq_decide, Nat.add_mod]
    generalize b % 2 ^ k = x at *
    generalize c % 2 ^ k = y at *
    generalize 2 ^ k = p at *
    by_cases h : p ≤ x + y
    · rw [Nat.mod_eq_sub_mod h, Nat.mod_eq_of_lt (by omega)]; omega
    · rw [Nat.mod_eq_of_lt (by omega)]; omega
  rw [hb]
  cases b.testBit k <;> cases c.testBit k <;> cases carB b c k <;> rfl
/-- Twice as much: bit by bit. -/
theorem up_bit (a k : Nat) : (2 * a).testBit (k + 1) = a.testBit k := by
  rw [Nat.testBit_succ]; congr 1; omega
theorem up_zero (a : Nat) : (2 * a).testBit 0 = false := by simp
/-- The product, bit by bit of the second factor. -/
theorem mul_step (a n k : Nat) : a * (n % 2 ^ (k + 1)) = a * (n % 2 ^ k) + (if n.testBit k then a * 2 ^ k else 0) := by
  rw [mod_succ', Nat.mul_add, Nat.add_comm]
  cases n.testBit k <;> simp
/-- The highest bit in which two differ decides. -/
theorem lt_of_bits {a b k : Nat} (hhi : a / 2 ^ (k + 1) = b / 2 ^ (k + 1)) (ha : a.testBit k = false) (hb : b.testBit k = true) : a < b := by
  have h1 := Nat.div_add_mod a (2 ^ (k + 1))
  have h2 := Nat.div_add_mod b (2 ^ (k + 1))
  rw [hhi] at h1
  rw [mod_succ', ha] at h1
  rw [mod_succ', hb] at h2
  have h3 := Nat.mod_lt a (Nat.two_pow_pos k)
  simp at h1 h2
  omega
theorem hi_step {a b k : Nat} (hhi : a / 2 ^ (k + 1) = b / 2 ^ (k + 1)) (h : a.testBit k = b.testBit k) : a / 2 ^ k = b / 2 ^ k := by
  have e : ∀ n : Nat, n / 2 ^ (k + 1) = n / 2 ^ k / 2 := fun n => by rw [Nat.pow_succ, Nat.div_div_eq_div_mul]
  rw [e, e] at hhi
  rw [bit_eq, bit_eq, decide_eq_decide] at h
  omega
end Go.Proofs.Yteccpjijlkjneaa
