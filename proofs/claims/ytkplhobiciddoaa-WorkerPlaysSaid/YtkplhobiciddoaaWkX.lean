/- Contracts of chapter 19's Live and Expire. -/
import Derived.Test.YtkplhobiciddoaaWkG
import Derived.Test.YtkplhobiciddoaaWkT
namespace Go.Proofs.Ytkplhobiciddoaa
open Go.RowKit Go.Maps Go.WideShapes Go.Sort
set_option maxRecDepth 20000 in
set_option maxHeartbeats 1000000 in
theorem live_b (B T : Nat) (L : List Nd) (w : World) (h : TabB B w T L) :
    Calls Try.prog 15 #[.pointer (some ⟨T, 0, none⟩)] w fun e w' => ∃ v, e = .returned v ∧ w'.ownsRow w.heap.size 34 8 v (lives L).length (flatN (lives L)) ∧ Below w.heap.size w w' := by
  have hA := all_b B T L w h
  have hlen : L.length ≤ 12 := by obtain ⟨nm, v, m, h⟩ := h; exact h.len
  clear h
  go_enter Try.func15, Try.ntmps15
  go_wp2_with fail
  refine hA.mono ?_
  rintro e w1 ⟨v, rfl, hrow, -, hb⟩
  obtain ⟨A, cap, rfl⟩ := rowN_slice hrow
  have hD := deleteF w.heap.size _ L w1 hb.size hrow hlen
  clear hrow hA
  go_wp2_with fail
  refine hD.mono ?_
  rintro e w2 ⟨v2, rfl, hrow2, hb2⟩
  go_wp2
  go_ret
  exact ⟨v2, rfl, hrow2, hb.trans hb2⟩
set_option maxRecDepth 20000 in
set_option maxHeartbeats 1000000 in
theorem live_nil (w : World) : Calls Try.prog 15 #[.pointer none] w fun e w' => ∃ v, e = .returned v ∧ w'.ownsRow w.heap.size 34 8 v 0 [] ∧ Below w.heap.size w w' := by
  have hA := all_nil w
  go_enter Try.func15, Try.ntmps15
  go_wp2_with fail
  refine hA.mono ?_
  rintro e w1 ⟨rfl, hb⟩
  have hD := deleteF w.heap.size (.slice none 0 0) [] w1 hb.size (World.ownsRow_nil _ _ _ _) (by simp)
  clear hA
  go_wp2_with fail
  refine hD.mono ?_
  rintro e w2 ⟨v2, rfl, hrow2, hb2⟩
  go_wp2
  go_ret
  exact ⟨v2, rfl, hrow2, hb.trans hb2⟩
/-- The names that have come out are dead. -/
def kill (S : List Al) (x : Nd) : Nd := if S.any (fun a => decide (a.1 = x.name)) = true then { x with live := false } else x
theorem kill_name (S : List Al) (x : Nd) : (kill S x).name = x.name := by unfold kill; split <;> rfl
theorem rising_ext {a b : List Nd} (ha : Rising a) (hb : Rising b) (h : ∀ k, fnd a k = fnd b k) : a = b := by
  have nd : ∀ {l : List Nd}, Rising l → l.Nodup := fun hr => List.Pairwise.imp (fun {a b} hab e => by rw [e, ltS_irr] at hab; cases hab) hr
  have mem : ∀ {a b : List Nd}, Rising a → Rising b → (∀ k, fnd a k = fnd b k) → ∀ x, x ∈ a → x ∈ b := fun ha _ h x hx => by
    have h1 := fnd_of_mem ha hx
    rw [h] at h1
    exact (mem_of_fnd h1).1
  exact rising_unique ha hb ((List.perm_ext_iff_of_nodup (nd ha) (nd hb)).2 fun x => ⟨mem ha hb h x, mem hb ha (fun k => (h k).symm) x⟩)
/-- Under way: M is L with the names of S dead. -/
structure Kd (L M : List Nd) (S : List Al) : Prop where
  ris : Rising M
  len : M.length = L.length
  f : ∀ k, fnd M k = (fnd L k).map (kill S)
theorem Kd.start {L : List Nd} (h : Rising L) : Kd L L [] := ⟨h, rfl, fun k => by cases fnd L k <;> simp [kill]⟩
theorem Kd.step {L M : List Nd} {S : List Al} (h : Kd L M S) (a : Al) {x : Nd} (hx : fnd M (ky a.1) = some x) : Kd L (putN M { x with live := false }) (S ++ [a]) := by
  have hn : x.name = a.1 := bytes_inj (mem_of_fnd hx).2
  refine ⟨rising_put h.ris _, ?_, fun k => ?_⟩
  · rw [put_length h.ris, if_pos (by simp only; rw [hn, hx]; rfl)]
    exact h.len
  · rw [fnd_put]
    simp only [putA, hn]
    have hf := h.f k
    by_cases e : k = ky a.1
    · subst e
      rw [if_pos rfl]
      have hf2 := h.f (ky a.1)
      rw [hx] at hf2
      cases hL : fnd L (ky a.1) with
      | none => rw [hL] at hf2; cases hf2
      | some y =>
        rw [hL] at hf2
        simp only [Option.map_some] at hf2 ⊢
        have hy : y.name = a.1 := bytes_inj (mem_of_fnd hL).2
        have e2 : x = kill S y := Option.some.inj hf2
        rw [e2]
        unfold kill
        have h1 : (S ++ [a]).any (fun a => decide (a.1 = y.name)) = true := by simp [hy]
        rw [if_pos h1]
        split <;> simp [hy]
    · rw [if_neg e, hf]
      cases hL : fnd L k with
      | none => rfl
      | some y =>
        simp only [Option.map_some]
        have hy : ky y.name = k := (mem_of_fnd hL).2
        have hne : ¬ a.1 = y.name := fun q => e (by rw [q, hy])
        have h1 : (S ++ [a]).any (fun a => decide (a.1 = y.name)) = S.any (fun a => decide (a.1 = y.name)) := by simp [hne]
        unfold kill
        rw [h1]
theorem rising_map {L : List Nd} {f : Nd → Nd} (hf : ∀ x, (f x).name = x.name) (h : Rising L) : Rising (L.map f) := by
  unfold Rising
  rw [List.pairwise_map]
  exact List.Pairwise.imp (fun {a b} hab => by rw [hf, hf]; exact hab) h
theorem fnd_map {f : Nd → Nd} (hf : ∀ x, (f x).name = x.name) : ∀ (L : List Nd) (k : List UInt8), fnd (L.map f) k = (fnd L k).map f
  | [], _ => rfl
  | x :: l, k => by
    rw [List.map_cons, fnd_cons, fnd_cons, hf, fnd_map hf l k]
    split <;> rfl
theorem exp_name (now : Int) (x : Nd) : (if outN now x then { x with live := false } else x).name = x.name := by split <;> rfl
/-- At the end it is what Expire makes of it. -/
theorem Kd.fin {L M : List Nd} {out l0 l1 : List Al} {now : Int} (h : Kd L M out) (hr : Rising L) (hk : Lk L l0) (hd : DueR now l0 out l1) : M = expL L now := by
  refine rising_ext h.ris (rising_map (exp_name now) hr) fun k => ?_
  unfold expL
  rw [h.f, fnd_map (exp_name now)]
  cases hL : fnd L k with
  | none => rfl
  | some x =>
    simp only [Option.map_some]
    congr 1
    obtain ⟨hx, hxk⟩ := mem_of_fnd hL
    unfold kill
    by_cases e : outN now x = true
    · rw [if_pos e]
      simp only [outN, Bool.and_eq_true, decide_eq_true_eq] at e
      have h1 : (x.name, x.seen + 10) ∈ out := (hd.out_iff _).2 ⟨(hk _).2 ⟨x, hx, e.1, rfl⟩, e.2⟩
      have h2 : out.any (fun a => decide (a.1 = x.name)) = true := List.any_eq_true.2 ⟨_, h1, by simp⟩
      rw [if_pos h2]
    · rw [if_neg e]
      by_cases h2 : out.any (fun a => decide (a.1 = x.name)) = true
      · obtain ⟨a, ha, hn⟩ := List.any_eq_true.1 h2
        obtain ⟨h3, h4⟩ := (hd.out_iff a).1 ha
        obtain ⟨y, hy, hyl, rfl⟩ := (hk a).1 h3
        simp only [decide_eq_true_eq] at hn
        have h5 := fnd_of_mem hr hy
        rw [hn, fnd_of_mem hr hx] at h5
        cases h5
        exact absurd (by simp [outN, hyl]; exact h4) e
      · rw [if_neg h2]
theorem Lk.expire {L : List Nd} {out l0 l1 : List Al} {now : Int} (hk : Lk L l0) (hd : DueR now l0 out l1) : Lk (expL L now) l1 := by
  intro a
  rw [hd.left_iff, hk]
  unfold expL
  constructor
  · rintro ⟨⟨x, hx, hl, rfl⟩, hn⟩
    refine ⟨x, List.mem_map.2 ⟨x, hx, ?_⟩, hl, rfl⟩
    rw [if_neg (by simp [outN, hl]; simpa using hn)]
  · rintro ⟨y, hy, hl, rfl⟩
    obtain ⟨x, hx, rfl⟩ := List.mem_map.1 hy
    by_cases e : outN now x = true
    · rw [if_pos e] at hl; cases hl
    · rw [if_neg e] at hl ⊢
      refine ⟨⟨x, hx, hl, rfl⟩, fun h => e ?_⟩
      simp [outN, hl]
      exact h
/-- The names that come out, sorted, are those of the nodes whose leases are over. -/
theorem sorted_unique {α : Type} {r : α → α → Prop} (anti : ∀ x y, r x y → r y x → x = y) : ∀ {a b : List α}, a.Pairwise r → b.Pairwise r → a.Perm b → a = b
  | [], b, _, _, p => by rw [List.nil_perm.1 p]
  | x :: a, [], _, _, p => absurd p.length_eq (by simp)
  | x :: a, y :: b, ha, hb, p => by
    obtain ⟨a1, a2⟩ := List.pairwise_cons.1 ha
    obtain ⟨b1, b2⟩ := List.pairwise_cons.1 hb
    have e : x = y := by
      rcases List.mem_cons.1 (p.mem_iff.1 (List.mem_cons_self (a := x) (l := a))) with e | hx
      · exact e
      · rcases List.mem_cons.1 (p.mem_iff.2 (List.mem_cons_self (a := y) (l := b))) with e | hy
        · exact e.symm
        · exact anti _ _ (a1 y hy) (b1 x hx)
    subst e
    rw [sorted_unique anti a2 b2 ((List.perm_cons x).1 p)]
theorem ltS_ky (a b : ByteArray) : ltS a b = true ↔ ky a < ky b := by
  unfold ltS
  rw [bytesLess_eq]
  simp [Go.Lib.toList_data]
theorem names_out {L : List Nd} {out l0 l1 : List Al} {now : Int} (hk : Lk L l0) (hr : Rising L) (hd : DueR now l0 out l1) (hu : ∀ x ∈ l0, ∀ y ∈ l0, x.1 = y.1 → x = y) :
    ((out.map (fun a => ky a.1)).mergeSort (fun x y => decide (x ≤ y))) = (expO L now).map (fun x => ky x.name) := by
  have hE : (expO L now).Pairwise (fun x y => ltS x.name y.name = true) := List.Pairwise.filter _ hr
  have n1 : (out.map (fun a => ky a.1)).Nodup := by
    unfold List.Nodup
    rw [List.pairwise_map]
    refine List.Pairwise.imp_of_mem ?_ hd.sorted
    intro a b ha hb hab e
    have := hu a ((hd.out_iff a).1 ha).1 b ((hd.out_iff b).1 hb).1 (bytes_inj e)
    subst this
    rw [ltA_irr] at hab; cases hab
  have n2 : ((expO L now).map (fun x => ky x.name)).Nodup := by
    unfold List.Nodup
    rw [List.pairwise_map]
    refine List.Pairwise.imp ?_ hE
    intro a b hab e
    rw [bytes_inj e, ltS_irr] at hab; cases hab
  have p : (out.map (fun a => ky a.1)).Perm ((expO L now).map (fun x => ky x.name)) := by
    refine (List.perm_ext_iff_of_nodup n1 n2).2 fun s => ?_
    simp only [List.mem_map]
    constructor
    · rintro ⟨a, ha, rfl⟩
      obtain ⟨h3, h4⟩ := (hd.out_iff a).1 ha
      obtain ⟨y, hy, hyl, rfl⟩ := (hk a).1 h3
      refine ⟨y, ?_, rfl⟩
      unfold expO
      rw [List.mem_filter]
      exact ⟨hy, by simp [outN, hyl]; exact h4⟩
    · rintro ⟨y, hy, rfl⟩
      unfold expO at hy
      rw [List.mem_filter] at hy
      obtain ⟨hy1, hy2⟩ := hy
      simp only [outN, Bool.and_eq_true, decide_eq_true_eq] at hy2
      exact ⟨(y.name, y.seen + 10), (hd.out_iff _).2 ⟨(hk _).2 ⟨y, hy1, hy2.1, rfl⟩, hy2.2⟩, rfl⟩
  have s1 : ((out.map (fun a => ky a.1)).mergeSort (fun x y => decide (x ≤ y))).Pairwise (fun x y => x ≤ y) := by
    have := List.pairwise_mergeSort (le := fun (x y : List UInt8) => decide (x ≤ y)) (fun a b c h1 h2 => by simp only [decide_eq_true_eq] at *; exact List.le_trans h1 h2) (fun a b => by simp only [Bool.or_eq_true, decide_eq_true_eq]; exact List.le_total a b) (out.map (fun a => ky a.1))
    exact List.Pairwise.imp (fun h => by simpa using h) this
  have s2 : ((expO L now).map (fun x => ky x.name)).Pairwise (fun x y => x ≤ y) := by
    rw [List.pairwise_map]
    refine List.Pairwise.imp ?_ hE
    intro a b hab
    exact List.le_of_lt ((ltS_ky _ _).1 hab)
  exact sorted_unique (fun x y h1 h2 => List.le_antisymm h1 h2) s1 s2 ((List.mergeSort_perm _ _).trans p)
end Go.Proofs.Ytkplhobiciddoaa
