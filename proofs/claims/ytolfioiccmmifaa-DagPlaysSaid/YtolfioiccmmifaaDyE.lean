/- DagOrder, plain; scripts that came in. -/
import Derived.Test.YtolfioiccmmifaaDyD
namespace Go.Proofs.Ytolfioiccmmifaa
open Go.RowKit
variable {B H n i x id : Nat} {w w' : World} {R R' : Nat → Value} {G G' : Gr} {v : Value} {F : List Nat}
/-- A call of the script: its kind, its number, its parents' slice and what it holds. -/
abbrev OpD := Int × Int × (Option Addr × Nat × Nat) × List Int
def SlO (W : World) (A : Option Addr) (n : Nat) (l : List OpD) : Prop :=
  n = l.length ∧ (l = [] ∨ ∃ b off, A = some ⟨b, off, none⟩ ∧ b < W.heap.size ∧ ∀ k, (h : k < l.length) → W.cell? ⟨b, off + k * 3, none⟩ = some (.int .i64 l[k].1) ∧ W.cell? ⟨b, off + k * 3 + 1, none⟩ = some (.int .i64 l[k].2.1) ∧ W.cell? ⟨b, off + k * 3 + 2, none⟩ = some (.slice l[k].2.2.1.1 l[k].2.2.1.2.1 l[k].2.2.1.2.2)) ∧
    ∀ o ∈ l, SlZ W o.2.2.1.1 o.2.2.1.2.1 o.2.2.2 ∧ o.2.2.1.2.1 ≤ maxLen
theorem SlO.one {W : World} {A : Option Addr} {n k : Nat} {l : List OpD} (h : SlO W A n l) (hk : k < n) :
    ∃ (o : OpD) (b off : Nat), o ∈ l ∧ A = some ⟨b, off, none⟩ ∧ b < W.heap.size ∧ (∀ wr, Below W.heap.size W wr → wr.cell? ⟨b, off + k * 3, none⟩ = some (.int .i64 o.1) ∧ wr.cell? ⟨b, off + k * 3 + 1, none⟩ = some (.int .i64 o.2.1) ∧ wr.cell? ⟨b, off + k * 3 + 2, none⟩ = some (.slice o.2.2.1.1 o.2.2.1.2.1 o.2.2.1.2.2)) ∧ SlZ W o.2.2.1.1 o.2.2.1.2.1 o.2.2.2 ∧ o.2.2.1.2.1 ≤ maxLen := by
  obtain ⟨rfl, rfl | ⟨b, off, rfl, hbl, hh⟩, hw⟩ := h
  · simp at hk
  · obtain ⟨h0, h1, h2⟩ := hh k hk
    have hm := hw _ (List.getElem_mem hk)
    exact ⟨l[k], b, off, List.getElem_mem hk, rfl, hbl, fun wr hb => ⟨by rw [hb.cell hbl]; exact h0, by rw [hb.cell hbl]; exact h1, by rw [hb.cell hbl]; exact h2⟩, hm.1, hm.2⟩
/-- A script of a size that is looked at. -/
def Few (n : Nat) (l : List OpD) : Prop := (∀ o ∈ l, o.2.2.1.2.1 ≤ 300) ∧ n ≤ 150
instance (n : Nat) (l : List OpD) : Decidable (Few n l) := by unfold Few; infer_instance
set_option maxHeartbeats 2000000 in
theorem few_any {A : Option Addr} {n cap : Nat} {l : List OpD} (h : SlO w A n l) (hn : n ≤ maxLen) : Calls Try.prog 12 #[.slice A n cap] w fun e w' => e = .returned (.bool (decide (Few n l))) ∧ w = w' := by
  have HS := hid h
  have hnb : (n : Int) ≤ 9223372036854775807 := by unfold maxLen at hn; omega
  obtain ⟨r, hr⟩ : ∃ r, r = decide (Few n l) := ⟨_, rfl⟩
  have HR := hid hr
  rw [← hr]
  clear h hn hr
  go_enter Try.func12, Try.ntmps12
  go_wp2_with fail
  go_loopw [3] (fun iv wr => ∃ i : Nat, i ≤ n ∧ iv = .int .i64 i ∧ Hid (∀ j (hj : j < l.length), j < i → l[j].2.2.1.2.1 ≤ 300) ∧ wr = w) (fun iv _ => n - (intOf iv).toNat)
  case atStart => exact ⟨0, Nat.zero_le _, rfl, hid (fun j _ hj => by omega), rfl⟩
  case round =>
    obtain ⟨i, hi, rfl, HA, rfl⟩ := hrel
    by_cases hin : i < n
    · have HK1 : Hid (i + 1 ≤ n) := hin
      have HMS : Hid (n - (i + 1) < n - i) := by unfold Hid; omega
      have hii : (i : Int) < (n : Int) := by omega
      obtain ⟨e1, rfl | ⟨b, off, rfl, hl, hc⟩, hw⟩ := HS.out
      · simp at e1; omega
      · have c2 := (hc i (by omega)).2.2
        obtain ⟨o, ho⟩ : ∃ o, l[i]? = some o := ⟨_, List.getElem?_eq_getElem (by omega)⟩
        obtain ⟨hi', eo⟩ := List.getElem?_eq_some_iff.1 ho
        rw [eo] at c2
        have HM : Hid (o ∈ l) := by rw [← eo]; exact List.getElem_mem _
        have HO := hid ho
        clear eo hi'
        have hmx := (hw o HM.out).2
        obtain ⟨k0, k1, ⟨A2, n2, c2'⟩, zs⟩ := o
        simp only at c2 hmx
        have hn2 : (n2 : Int) ≤ 9223372036854775807 := by unfold maxLen at hmx; omega
        clear hc e1 hin hi ho hw hmx
        by_cases h1 : (300 : Int) < (n2 : Int)
        · have F : r = false := by
            rw [HR.out]
            refine decide_eq_false fun q => ?_
            have := q.1 _ HM.out
            simp only at this
            omega
          subst F
          go_wp2
          go_ret
          exact ⟨rfl, rfl⟩
        · have HA2 : Hid (∀ j (hj : j < l.length), j < i + 1 → l[j].2.2.1.2.1 ≤ 300) := fun j hj hji => by
            by_cases q : j = i
            · subst q
              have := HO.out
              rw [List.getElem?_eq_getElem hj] at this
              injection this with this
              rw [this]
              simp only
              omega
            · exact HA.out j hj (by omega)
          go_wp2
          go_roundw
          case rel => exact ⟨i + 1, HK1.out, by go_num, HA2, by trivial⟩
          case measure => have := HMS.out; simp [intOf]; omega
    · have hii : ¬ (i : Int) < (n : Int) := by omega
      have F : (decide ((n : Int) ≤ 150)) = r := by
        rw [HR.out, decide_eq_decide]
        have hall : ∀ o ∈ l, o.2.2.1.2.1 ≤ 300 := fun o ho => by
          obtain ⟨j, hj, rfl⟩ := List.mem_iff_getElem.1 ho
          exact HA.out j hj (by have := HS.out.1; omega)
        exact ⟨fun q => ⟨hall, by omega⟩, fun q => by have := q.2; omega⟩
      have F' : (decide (n ≤ 150)) = r := by
        rw [← F, decide_eq_decide]; omega
      clear hi hin HR
      go_wp2
      go_ret
      exact ⟨by first | rfl | (simp [F, F']; done) | (rw [← F]; rfl), rfl⟩
/-- The jobs that are there, in the order in which they came. -/
structure Th (G : Gr) (T : List Nat) : Prop where
  ok : G.Ok
  nd : T.Nodup
  mem : ∀ x, x ∈ T ↔ G.st x ≠ 0
theorem Th.start : Th gr0 [] := ⟨ok0, List.nodup_nil, fun _ => ⟨(fun h => nomatch h), fun h => absurd rfl h⟩⟩
theorem Th.len {T : List Nat} (h : Th G T) : T.length ≤ 100 := len100 h.nd fun x hx => h.ok.rng x ((h.mem x).1 hx)
theorem Th.add {T l : List Nat} (h : Th G T) (hf : G.Fit id l) : Th (G.add id l) (T ++ [id]) := by
  refine ⟨h.ok.add hf, List.nodup_append.2 ⟨h.nd, by simp, fun a ha b hb e => ?_⟩, fun x => ?_⟩
  · rw [List.mem_singleton] at hb
    subst hb; subst e
    exact (h.mem a).1 ha hf.ab
  · rw [List.mem_append, List.mem_singleton, h.mem]
    show _ ↔ upd G.st id 1 x ≠ 0
    by_cases e : x = id
    · subst e; rw [upd_same]; simp
    · rw [upd_ne _ _ e]; simp [e]
/-- One pass over all jobs: O0 was taken ahead of it. -/
structure Ps (G : Gr) (T O0 : List Nat) (j : Nat) (O : List Nat) : Prop where
  nd : O.Nodup
  sub : ∀ x ∈ O, x ∈ T
  old : ∀ x ∈ O0, x ∈ O
  le : O0.length ≤ O.length
  got : ∀ x ∈ T.take j, x ∉ O0 → (∀ p ∈ G.pa x, p ∈ O0 ∨ p ∉ T) → x ∈ O
theorem Ps.start {T O : List Nat} (hn : O.Nodup) (hs : ∀ x ∈ O, x ∈ T) : Ps G T O 0 O := ⟨hn, hs, fun _ h => h, Nat.le_refl _, fun _ hx => by rw [List.take_zero] at hx; cases hx⟩
/-- Is the job taken? -/
def tkn (G : Gr) (T O : List Nat) (x k : Nat) : Bool := decide (x ∉ O) && ((G.pa x).take k).all (fun p => decide (p ∈ O) || decide (p ∉ T))
theorem tkn_next {T O : List Nat} {x k p : Nat} (h : (G.pa x)[k]? = some p) : tkn G T O x (k + 1) = (tkn G T O x k && (decide (p ∈ O) || decide (p ∉ T))) := by
  unfold tkn
  rw [take_next h, List.all_append, Bool.and_assoc]
  simp
theorem Ps.yes {T O0 O : List Nat} {j x : Nat} (h : Ps G T O0 j O) (hx : T[j]? = some x) (ht : tkn G T O x (G.pa x).length = true) : Ps G T O0 (j + 1) (O ++ [x]) := by
  unfold tkn at ht
  rw [List.take_length, Bool.and_eq_true, decide_eq_true_eq] at ht
  obtain ⟨hi, e⟩ := getq hx
  have hxT : x ∈ T := by rw [← e]; exact List.getElem_mem _
  refine ⟨List.nodup_append.2 ⟨h.nd, by simp, fun a ha b hb q => ?_⟩, fun y hy => ?_, fun y hy => by simp [h.old y hy], by simp; have := h.le; omega, fun y hy h1 h2 => ?_⟩
  · rw [List.mem_singleton] at hb
    subst hb; subst q
    exact ht.1 ha
  · rw [List.mem_append, List.mem_singleton] at hy
    rcases hy with hy | rfl
    · exact h.sub y hy
    · exact hxT
  · rw [take_next hx, List.mem_append, List.mem_singleton] at hy
    rcases hy with hy | rfl
    · simp [h.got y hy h1 h2]
    · simp
theorem Ps.no {T O0 O : List Nat} {j x : Nat} (h : Ps G T O0 j O) (hx : T[j]? = some x) (ht : tkn G T O x (G.pa x).length = false) : Ps G T O0 (j + 1) O := by
  refine ⟨h.nd, h.sub, h.old, h.le, fun y hy h1 h2 => ?_⟩
  rw [take_next hx, List.mem_append, List.mem_singleton] at hy
  rcases hy with hy | rfl
  · exact h.got y hy h1 h2
  · by_cases q : y ∈ O
    · exact q
    · exfalso
      have : tkn G T O y (G.pa y).length = true := by
        unfold tkn
        rw [List.take_length, Bool.and_eq_true, decide_eq_true_eq]
        refine ⟨q, List.all_eq_true.2 fun p hp => ?_⟩
        rcases h2 p hp with z | z
        · simp [h.old p z]
        · simp [z]
      rw [this] at ht; cases ht
/-- A pass takes at least one more, unless all are taken. -/
theorem Ps.more {T O0 O : List Nat} (hT : Th G T) (h : Ps G T O0 T.length O) (hn0 : O0.Nodup) (_ : ∀ x ∈ O0, x ∈ T) (hl : O0.length < T.length) : O0.length + 1 ≤ O.length := by
  obtain ⟨x, hx, hp⟩ := first_of hT.ok _ (T.filter (fun y => decide (y ∉ O0))) (Nat.le_refl _) (fun e => by
    have : ∀ y ∈ T, y ∈ O0 := fun y hy => by
      by_cases q : y ∈ O0
      · exact q
      · exfalso
        have : y ∈ T.filter (fun y => decide (y ∉ O0)) := List.mem_filter.2 ⟨hy, decide_eq_true q⟩
        rw [e] at this; cases this
    have := nodup_len hT.nd this
    omega) (fun y hy => (hT.mem y).1 (List.mem_filter.1 hy).1)
  obtain ⟨h1, h2⟩ := List.mem_filter.1 hx
  rw [decide_eq_true_eq] at h2
  have hxO := h.got x (by rw [List.take_length]; exact h1) h2 (fun p hp1 => by
    by_cases q : p ∈ T
    · left
      by_cases z : p ∈ O0
      · exact z
      · exact absurd (List.mem_filter.2 ⟨q, decide_eq_true z⟩) (hp p hp1)
    · exact .inr q)
  have := nodup_len (l := x :: O0) (m := O) (List.nodup_cons.2 ⟨h2, hn0⟩) (fun y hy => by
    rw [List.mem_cons] at hy
    rcases hy with rfl | hy
    · exact hxO
    · exact h.old y hy)
  simpa using this
end Go.Proofs.Ytolfioiccmmifaa
