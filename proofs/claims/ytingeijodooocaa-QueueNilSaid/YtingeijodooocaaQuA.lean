/- Chapter 14: slices.SortFunc over a row of waiters: the comparator, the row behind it. -/
import Derived.Test.YtingeijodooocaaQuSh
import Derived.Test.YtingeijodooocaaQuV
import Derived.Test.YtingeijodooocaaRws
import Derived.Sort.OwnSorted
namespace Go.Proofs.Ytingeijodooocaa
open Go.RowKit Go.Sort
def fW (v : Wt) : Nat → Value
  | 0 => .int .i64 v.job
  | 1 => .string v.ten
  | _ => .int .i64 v.pri
theorem fW_one (u : Wt) (c : Nat) : (fW u c).oneCell' = true := by unfold fW; split <;> rfl
theorem fW_range (u : Wt) : (List.range 3).map (fW u) = [.int .i64 u.job, .string u.ten, .int .i64 u.pri] := rfl
def encW (v : Wt) : List Value := [.int .i64 v.job, .string v.ten, .int .i64 v.pri]
instance : Inhabited Wt := ⟨⟨0, ByteArray.empty, 0⟩⟩
theorem encW_one : ∀ (x : Wt), ∀ v ∈ encW x, v.oneCell' = true := by
  intro x v hv
  simp only [encW, List.mem_cons, List.not_mem_nil, or_false] at hv
  rcases hv with rfl | rfl | rfl <;> rfl
theorem flat_eq (d : Array Wt) : (flatK encW 3 d).toList = flatR 3 fW d.toList := by
  refine flatR_ext (by simp) fun i x hx c hc => ?_
  have hi : i < d.size := by have := (List.getElem?_eq_some_iff.1 hx).1; simpa using this
  have hlt : i * 3 + c < d.size * 3 := by omega
  have h1 := get_flatK encW 3 d (i * 3 + c) hlt
  have e1 : (i * 3 + c) / 3 = i := by omega
  have e2 : (i * 3 + c) % 3 = c := by omega
  rw [e1, e2] at h1
  have h2 : d[i]! = x := by
    rw [getElem!_pos d i hi]
    rw [Array.getElem?_toList, Array.getElem?_eq_getElem hi] at hx
    injection hx
  rw [h2] at h1
  have h3 : (flatK encW 3 d).toList[i * 3 + c]? = some ((flatK encW 3 d)[i * 3 + c]!) := by
    rw [Array.getElem?_toList, Array.getElem?_eq_getElem (by rw [size_flatK]; exact hlt), getElem!_pos _ _ (by rw [size_flatK]; exact hlt)]
  rw [h3, h1]
  match c, hc with
  | 0, _ => rfl
  | 1, _ => rfl
  | 2, _ => rfl
/-- What the comparator says. -/
def cfW (x y : Wt) : Int := if cmpZ y.pri x.pri ≠ 0 then cmpZ y.pri x.pri else cmpZ x.job y.job
theorem cfW_lt (x y : Wt) : Go.Proofs.ltOf cfW x y = decide (y.pri < x.pri ∨ (y.pri = x.pri ∧ x.job < y.job)) := by
  unfold Go.Proofs.ltOf cfW cmpZ
  congr 1
  by_cases a : y.pri < x.pri
  · simp [a]
  · by_cases b : x.pri < y.pri
    · have : ¬ y.pri = x.pri := by omega
      simp [a, b, this]
    · have e : y.pri = x.pri := by omega
      by_cases c : x.job < y.job
      · simp [e, c]
      · by_cases d : y.job < x.job
        · simp [e, c, d]
        · simp [e, c, d]
theorem cfW_swo : SWO (Go.Proofs.ltOf cfW) where
  irrefl x := by rw [cfW_lt]; simp
  trans x y z h k := by rw [cfW_lt, decide_eq_true_eq] at *; omega
  ntrans x y z h k := by rw [cfW_lt, decide_eq_false_iff_not] at *; omega
variable {B n cap : Nat} {w w' : World} {M : List Wt}
theorem grown3 (W : World) (a b c : Obj) : ∃ q os', (((W.alloc a).alloc b).alloc c).drew = grow (W.drewN q) os' :=
  ⟨1, #[a] ++ #[b] ++ #[c], by rw [alloc_eq_grow, alloc_eq_grow, alloc_eq_grow, grow_grow, grow_grow, drew_grow]; rfl⟩
set_option maxRecDepth 20000 in
set_option maxHeartbeats 2000000 in
theorem cmpW_any (x y : Wt) (W : World) : Calls Try.prog 30 #[.agg (encW x).toArray, .agg (encW y).toArray] W fun e w' => e = .returned (.int .i64 (cfW x y)) ∧ ∃ q os', w' = grow (W.drewN q) os' := by
  obtain ⟨v, hv⟩ : ∃ v, v = cfW x y := ⟨_, rfl⟩
  have HY : Hid ((if cmpZ y.pri x.pri ≠ 0 then cmpZ y.pri x.pri else cmpZ x.job y.job) = v) := hv.symm
  rw [← hv]
  obtain ⟨a, b, c⟩ := x
  obtain ⟨a', b', c'⟩ := y
  simp only [encW] at HY ⊢
  clear hv
  go_enter Try.func30, Try.ntmps30
  go_upto_region 1 with fail
  go_region_held3 (fun w' => w'.cell? ⟨W.heap.size + 1, 2, none⟩ = some (.int .i64 c') ∧ w'.cell? ⟨W.heap.size, 2, none⟩ = some (.int .i64 c) ∧ w'.cell? ⟨W.heap.size, 0, none⟩ = some (.int .i64 a) ∧ w'.cell? ⟨W.heap.size + 1, 0, none⟩ = some (.int .i64 a')) ((refine ⟨?_, ?_, ?_, ?_⟩) <;> (first | (go_keep; done) | (with_reducible assumption))) (first | (go_at_call 32; refine (cmpT_any _ _ _).mono ?_; rintro e w4 ⟨rfl, rfl⟩) | (go_at_call 31; refine (or2v HY _ (by (repeat (first | (with_reducible assumption) | (with_reducible exact alloc_at _ _) | ((with_reducible apply alloc_at'); (simp; done)) | (with_reducible apply alloc_at_lt) | (with_reducible apply heap_drew_at) | (with_reducible apply heap_drewN_at) | (with_reducible apply heap_setCell_same) | ((with_reducible apply heap_set_ne); (first | omega | (dsimp only; omega) | (simp; done) | (simp; omega))) | (with_reducible apply setRow_at) | ((with_reducible apply setRow_ne); (first | omega | (dsimp only; omega) | (simp; done) | (simp; omega))))))).mono ?_; rintro e w4 ⟨rfl, rfl⟩))
  all_goals
    go_wp2
    go_ret
    exact ⟨rfl, grown3 _ _ _ _⟩
theorem perm_full {d d' : Array Wt} (h : PermIn 0 d.size d d') : d'.toList.Perm d.toList := by
  obtain ⟨h1, -, h3⟩ := h
  have e1 : d'.extract 0 d.size = d' := by rw [← h1]; simp
  have e2 : d.extract 0 d.size = d := by simp
  rw [e1, e2] at h3
  exact h3
/-- The row behind the sort. -/
theorem rowW_sorted {g m : Nat} {os : Array Obj} {F : List Value} (h : w.ownsRow B 29 3 (.slice (some ⟨g, 0, none⟩) n cap) n F) (N : List Wt) (hN : N.length = n) :
    (sortWorldK encW 3 w g 0 m N.toArray os).ownsRow B 29 3 (.slice (some ⟨g, 0, none⟩) n cap) n (flatR 3 fW N) ∧ w.grownBy (sortWorldK encW 3 w g 0 m N.toArray os) (some g) := by
  obtain ⟨h1, ⟨h4, -⟩ | ⟨g', cap', cur, h4, hg, hh, hc, hmx, hs, -⟩⟩ := h
  · cases h4
  · cases h4
    have hgl := lt_of_at hh
    have hfl : (flatK encW 3 N.toArray).toList = flatR 3 fW N := flat_eq N.toArray
    have hsz : (flatK encW 3 N.toArray).size = n * 3 := by simp [hN]
    refine ⟨⟨by rw [flatR_len, hN], .inr ⟨g, cap, putCells id 0 (flatK encW 3 N.toArray) cur, rfl, hg, ?_, hc, hmx, by simp [putCells, hs], ?_⟩⟩, rfl, rfl, rfl, by simp [sortWorldK, putRowK], fun k hk hne => ?_⟩
    · unfold sortWorldK putRowK
      rw [heap_grow_old _ _ (by simpa using hgl)]
      simp [putRow, mapBlock, Sort.ahead, Array.getElem?_modify, hh, onCells]
    · rw [← hfl]
      have hle : n * 3 ≤ cur.size := by rw [hs]; omega
      refine List.ext_getElem? fun j => ?_
      by_cases hj : j < n * 3
      · rw [List.getElem?_take_of_lt hj, Array.getElem?_toList, Array.getElem?_toList]
        have hj2 : j < (flatK encW 3 N.toArray).size := by omega
        simp only [putCells, Array.getElem?_mapIdx]
        rw [Array.getElem?_eq_getElem (show j < cur.size by omega), Array.getElem?_eq_getElem hj2]
        simp only [Nat.sub_zero, Nat.zero_le, Nat.zero_add, true_and, Option.map_some, size_flatK, List.size_toArray, id]
        rw [if_pos (by rw [hN]; exact hj), getElem!_pos (flatK encW 3 N.toArray) j hj2]
      · rw [List.getElem?_take_eq_none (by omega), List.getElem?_eq_none (by rw [Array.length_toList, hsz]; omega)]
    · unfold sortWorldK putRowK
      rw [heap_grow_old _ _ (by simpa using hk)]
      have : g ≠ k := fun e => hne (by rw [e])
      simp [putRow, mapBlock, Sort.ahead, Array.getElem?_modify, this]
theorem holdsW {g : Nat} (h : w.ownsRow B 29 3 (.slice (some ⟨g, 0, none⟩) n cap) n (flatR 3 fW M)) (hn : M.length = n) : HoldsK encW 3 w g 0 M.toArray := by
  obtain ⟨h1, ⟨h4, -⟩ | ⟨g', cap', cur, h4, hg, hh, hc, hmx, hs, ht⟩⟩ := h
  · cases h4
  · cases h4
    intro j hj
    rw [size_flatK] at hj
    have hj2 : j < n * 3 := by simpa [hn] using hj
    refine ⟨?_, by simp [World.frozen?, hh]⟩
    rw [Nat.zero_add, blk_cell hh]
    have h5 : (flatR 3 fW M)[j]? = some ((flatK encW 3 M.toArray)[j]!) := by
      rw [← flat_eq M.toArray, Array.getElem?_toList, Array.getElem?_eq_getElem (by rw [size_flatK]; exact hj), getElem!_pos _ _ (by rw [size_flatK]; exact hj)]
    rw [← ht, List.getElem?_take_of_lt hj2, Array.getElem?_toList] at h5
    exact h5
/-- What the sort makes: the waiters of one tenant in their order. -/
theorem sortW_any (v : Value) (h : w.ownsRow B 29 3 v n (flatR 3 fW M)) (hn : n ≤ 1000) :
    Calls Try.prog 29 #[v, .func (.func 30) #[] #[]] w fun e w' => e = .returned (.tuple #[]) ∧ ∃ N : List Wt, N.Perm M ∧ N.Pairwise (fun x y => ¬ (x.pri < y.pri ∨ (y.pri = x.pri ∧ y.job < x.job))) ∧ w'.ownsRow B 29 3 v n (flatR 3 fW N) ∧ w.grownBy w' v.ownBlock := by
  have hl := rowR_len h (by omega)
  by_cases h0 : n = 0
  · subst h0
    obtain ⟨A, cap, rfl⟩ := rowR_shape h
    have hM : M = [] := List.eq_nil_of_length_eq_zero hl
    subst hM
    have := AnyF.slices_SortFunc_none Try.sortW A cap (.func (.func 30) #[] #[]) w
    refine this.mono ?_
    rintro e w' ⟨rfl, rfl⟩
    exact ⟨rfl, [], List.Perm.refl _, List.Pairwise.nil, h, World.grownBy.refl _ _⟩
  · obtain ⟨g, cap, rfl, -, hgl, -, -⟩ := rowR_cells h (by omega)
    have eg : ∀ args w, (callFunc 30 args).run Try.prog w = .ok (.enter 30 args) w := enters_of Try.func30 (by kernel_rfl) rfl
    have hcon := AnyQ.slices_SortFunc Try.sortW 3 Try.isAgg29 Try.sizeOf29 encW (fun _ => rfl) encW_one cfW cfW_swo 30 #[] g 0 cap M.toArray w eg (fun _ _ _ _ x y => cmpW_any x y _) (holdsW h hl) hgl (by simp; omega)
    rw [show M.toArray.size = n by simpa using hl] at hcon
    refine hcon.mono ?_
    rintro e w' ⟨rfl, d', m, os, hp, hs, rfl⟩
    have hp2 : d'.toList.Perm M := by
      have := perm_full (d := M.toArray) (d' := d') (by rw [show M.toArray.size = n by simpa using hl]; exact hp)
      simpa using this
    have hdl : d'.toList.length = n := by rw [hp2.length_eq]; exact hl
    obtain ⟨r1, r2⟩ := rowW_sorted (m := m) (os := os) h d'.toList hdl
    refine ⟨rfl, d'.toList, hp2, ?_, by simpa using r1, by simpa [Value.ownBlock] using r2⟩
    rw [List.pairwise_iff_getElem]
    intro i j hi hj hij
    have hj2 : j < d'.size := by simpa using hj
    have hi2 : i < d'.size := by simpa using hi
    have := hs i j (Nat.zero_le _) hij (by rw [← hdl]; simpa using hj)
    rw [cfW_lt, decide_eq_false_iff_not, getElem!_pos d' i hi2, getElem!_pos d' j hj2] at this
    simp only [Array.getElem_toList]
    omega
end Go.Proofs.Ytingeijodooocaa
