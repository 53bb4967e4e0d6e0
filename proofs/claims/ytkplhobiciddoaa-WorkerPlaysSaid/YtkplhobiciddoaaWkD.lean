/- The sort of the nodes by their names: the closure's contract, and a row of nodes ahead of the sort and behind it. -/
import Derived.Test.YtkplhobiciddoaaWkC
import Derived.Test.YtkplhobiciddoaaWkS
import Derived.Sort.OwnSorted
namespace Go.Proofs.Ytkplhobiciddoaa
open Go.RowKit Go.Maps Go.WideShapes Go.Shelf Go.Lib Go.Sort
instance : Inhabited Nd := ⟨zeroN⟩
def cmpN (x y : Nd) : Int := Lib.compareBytes x.name.data.toList y.name.data.toList
theorem cmpL_lt : ∀ (a b : List UInt8), Lib.compareBytes a b < 0 ↔ a < b
  | [], [] => by simp [Lib.compareBytes]
  | [], y :: b => by simp [Lib.compareBytes]
  | x :: a, [] => by simp [Lib.compareBytes]
  | x :: a, y :: b => by
    unfold Lib.compareBytes
    rw [List.cons_lt_cons_iff]
    by_cases h : x < y
    · rw [if_pos h]
      exact ⟨fun _ => .inl h, fun _ => by omega⟩
    · rw [if_neg h]
      by_cases h2 : y < x
      · rw [if_pos h2]
        constructor
        · intro q; omega
        · rintro (q | ⟨rfl, -⟩)
          · exact absurd q h
          · exact absurd h2 h
      · rw [if_neg h2, cmpL_lt a b]
        have e : x = y := by
          have h3 : ¬ x.toNat < y.toNat := fun q => h (UInt8.lt_iff_toNat_lt.2 q)
          have h4 : ¬ y.toNat < x.toNat := fun q => h2 (UInt8.lt_iff_toNat_lt.2 q)
          exact UInt8.toNat_inj.1 (by omega)
        constructor
        · intro q; exact .inr ⟨e, q⟩
        · rintro (q | ⟨-, q⟩)
          · exact absurd q h
          · exact q
theorem ltN_iff (x y : Nd) : ltOf cmpN x y = ltS x.name y.name := by
  unfold ltOf cmpN ltS
  rw [bytesLess_eq, Bool.eq_iff_iff, decide_eq_true_iff, cmpL_lt]
  simp [Go.Lib.toList_data]
theorem swoN : SWO (ltOf cmpN) := by
  refine ⟨fun x => by rw [ltN_iff]; exact ltS_irr _, fun x y z h k => ?_, fun x y z h k => ?_⟩
  · rw [ltN_iff] at *; exact ltS_tr h k
  · rw [ltN_iff] at *
    cases e : ltS x.name z.name with
    | false => rfl
    | true =>
      cases e2 : ltS z.name y.name with
      | true => have := ltS_tr e e2; rw [h] at this; cases this
      | false =>
        have := ltS_tri k e2
        rw [this] at h; rw [h] at e; cases e
theorem flatN_get (l : List Nd) : ∀ j, j < l.length * 8 → (flatN l)[j]? = some ((cellsN l.toArray[j / 8]!)[j % 8]!) := by
  induction l with
  | nil => intro j h; simp at h
  | cons x l ih =>
    intro j h
    by_cases h8 : j < 8
    · rw [show j / 8 = 0 by omega, show j % 8 = j by omega]
      simp only [flatN]
      rw [List.getElem?_append_left (by simpa [cellsN] using h8)]
      have : j < (cellsN x).length := by simpa [cellsN] using h8
      simp [this]
    · have hj : j - 8 < l.length * 8 := by simp at h; omega
      have h1 := ih (j - 8) hj
      simp only [flatN]
      rw [List.getElem?_append_right (by simp [cellsN]; omega), show (cellsN x).length = 8 from rfl, h1, show j / 8 = (j - 8) / 8 + 1 by omega, show j % 8 = (j - 8) % 8 by omega]
      have h2 : (j - 8) / 8 < l.length := by omega
      simp [h2]
theorem flatK_flatN (l : List Nd) : (flatK cellsN 8 l.toArray).toList = flatN l := by
  apply List.ext_getElem?
  intro j
  by_cases hj : j < l.length * 8
  · have h1 : j < (flatK cellsN 8 l.toArray).size := by simpa using hj
    rw [flatN_get l j hj, Array.getElem?_toList, Array.getElem?_eq_getElem h1]
    have := get_flatK cellsN 8 l.toArray j (by simpa using hj)
    rw [getElem!_pos _ j h1] at this
    rw [this]
  · rw [List.getElem?_eq_none (by simp; omega), List.getElem?_eq_none (by rw [flatN_length]; omega)]
theorem holdsN {w : World} {g : Nat} {cur : Array Value} {e : TypeId} {ss : List Nd} (hb : w.heap[g]? = some (.cells cur e (0, 0))) (ht : cur.toList.take (ss.length * 8) = flatN ss) : HoldsK cellsN 8 w g 0 ss.toArray := by
  intro j hj
  have hj' : j < ss.length * 8 := by simpa using hj
  refine ⟨?_, by simp [World.frozen?, hb]⟩
  have h1 : (cur.toList.take (ss.length * 8))[j]? = (flatN ss)[j]? := by rw [ht]
  rw [List.getElem?_take_of_lt hj', ← flatK_flatN] at h1
  simp only [World.cell?, hb, Nat.zero_add]
  simp only [Option.isSome_none, Bool.false_eq_true, if_false]
  rw [← Array.getElem?_toList, h1, Array.getElem?_toList, Array.getElem?_eq_getElem hj, getElem!_pos _ j hj]
  rfl
theorem take_putK (cur F : Array Value) (h : F.size ≤ cur.size) : (putCells id 0 F cur).toList.take F.size = F.toList := by
  apply List.ext_getElem?
  intro j
  by_cases hj : j < F.size
  · rw [List.getElem?_take_of_lt hj, Array.getElem?_toList]
    simp [putCells, hj, show j < cur.size by omega]
  · rw [List.getElem?_take_eq_none (by omega), List.getElem?_eq_none (by simp; omega)]
theorem heap_putK {w : World} {g n : Nat} {os : Array Obj} {cur : Array Value} {e : TypeId} {fr : Nat × Nat} (d : Array Value) (hb : w.heap[g]? = some (.cells cur e fr)) :
    (grow (putRow id (Sort.ahead w n) g 0 d) os).heap[g]? = some (.cells (putCells id 0 d cur) e fr) := by
  have hg : g < w.heap.size := (Array.getElem?_eq_some_iff.1 hb).1
  rw [heap_grow_old _ _ (by simpa using hg)]
  simp [putRow, mapBlock, Sort.ahead, Array.getElem?_modify, hb, onCells]
theorem grownBy_putK {w : World} {g n : Nat} {os : Array Obj} (d : Array Value) : w.grownBy (grow (putRow id (Sort.ahead w n) g 0 d) os) (some g) := by
  refine ⟨rfl, rfl, rfl, by simp, fun k hk hne => ?_⟩
  rw [heap_grow_old _ _ (by simpa using hk)]
  have : g ≠ k := fun e => hne (by rw [e])
  simp [putRow, mapBlock, Sort.ahead, Array.getElem?_modify, this]
theorem ownsRow_putN {w : World} {base g cap n : Nat} {e : TypeId} {os : Array Obj} {cur : Array Value} {ts : List Nd} (hbase : base ≤ g) (hb : w.heap[g]? = some (.cells cur e (0, 0)))
    (h1 : ts.length ≤ cap) (h2 : cap ≤ maxLen) (h3 : cur.size = cap * 8) :
    (sortWorldK cellsN 8 w g 0 n ts.toArray os).ownsRow base e 8 (.slice (some ⟨g, 0, none⟩) ts.length cap) ts.length (flatN ts) := by
  have hs : (flatK cellsN 8 ts.toArray).size = ts.length * 8 := by simp
  refine ⟨flatN_length ts, .inr ⟨g, cap, _, rfl, hbase, heap_putK _ hb, h1, h2, by simp [putCells, h3], ?_⟩⟩
  rw [← hs, take_putK _ _ (by rw [hs, h3]; omega), flatK_flatN]
theorem rising_unique : ∀ {a b : List Nd}, Rising a → Rising b → a.Perm b → a = b
  | [], b, _, _, p => by rw [List.nil_perm.1 p]
  | x :: a, [], _, _, p => absurd p.length_eq (by simp)
  | x :: a, y :: b, ha, hb, p => by
    obtain ⟨a1, a2⟩ := List.pairwise_cons.1 ha
    obtain ⟨b1, b2⟩ := List.pairwise_cons.1 hb
    have e : x = y := by
      rcases List.mem_cons.1 (p.mem_iff.1 (List.mem_cons_self (a := x) (l := a))) with e | hx
      · exact e
      · rcases List.mem_cons.1 (p.mem_iff.2 (List.mem_cons_self (a := y) (l := b))) with e | hy
        · exact e.symm
        · have h := ltS_tr (a1 y hy) (b1 x hx)
          rw [ltS_irr] at h; cases h
    subst e
    rw [rising_unique a2 b2 ((List.perm_cons x).1 p)]
/-- What the sort leaves is the rising list. -/
theorem sorted_is {L ss : List Nd} (hr : Rising L) (p : ss.Perm L) : (insertionSort (ltOf cmpN) ss.toArray 0 ss.toArray.size).toList = L := by
  obtain ⟨⟨h1, -, h3⟩, h4⟩ := insertionSort_holds swoN ss.toArray 0 ss.toArray.size (Nat.zero_le _) (Nat.le_refl _)
  generalize insertionSort (ltOf cmpN) ss.toArray 0 ss.toArray.size = d' at h1 h3 h4
  have hp : d'.toList.Perm L := by
    have e1 : d'.extract 0 ss.toArray.size = d' := by rw [← h1]; simp
    have e2 : ss.toArray.extract 0 ss.toArray.size = ss.toArray := by simp
    rw [e1, e2] at h3
    exact h3.trans (by simpa using p)
  refine rising_unique ?_ hr hp
  have hL : L.Nodup := List.Pairwise.imp (fun {a b} hab e => by rw [e, ltS_irr] at hab; cases hab) hr
  have hd : d'.toList.Nodup := hp.nodup_iff.2 hL
  unfold Rising
  rw [List.pairwise_iff_getElem]
  intro i j hi hj hij
  simp only [Array.length_toList] at hi hj
  have h5 := h4 i j (Nat.zero_le _) hij (by rw [← h1]; exact hj)
  rw [getElem!_pos d' j hj, getElem!_pos d' i hi, ltN_iff] at h5
  simp only [Array.getElem_toList]
  cases e : ltS d'[i].name d'[j].name with
  | true => rfl
  | false =>
    have e2 := ltS_tri e h5
    have hi' : d'[i] ∈ L := hp.mem_iff.1 (by simp)
    have hj' : d'[j] ∈ L := hp.mem_iff.1 (by simp)
    have e3 : d'[i] = d'[j] := by
      have q1 := fnd_of_mem hr hi'
      have q2 := fnd_of_mem hr hj'
      rw [e2, q2] at q1
      exact (Option.some.inj q1).symm
    have := (List.pairwise_iff_getElem.1 hd) i j (by simpa using hi) (by simpa using hj) hij
    simp [e3] at this
set_option maxRecDepth 20000 in
set_option maxHeartbeats 1000000 in
theorem closureN (x y : Nd) (W : World) : Calls Try.prog 31 #[.agg (cellsN x).toArray, .agg (cellsN y).toArray] W fun e w' => e = .returned (.int .i64 (cmpN x y)) ∧ ∃ q os', w' = grow (W.drewN q) os' := by
  have hcon := fun W' => Try.strings_Compare x.name y.name W'
  unfold cmpN
  generalize Lib.compareBytes x.name.data.toList y.name.data.toList = r at hcon ⊢
  simp only [cellsN]
  go_enter Try.func31, Try.ntmps31
  go_wp2_with (go_at_call 32; refine (hcon _).mono ?_; rintro e w' ⟨rfl, rfl⟩)
  go_ret
  exact ⟨rfl, 0, _, by rw [alloc_eq_grow, alloc_eq_grow, grow_grow]; rfl⟩
end Go.Proofs.Ytkplhobiciddoaa
