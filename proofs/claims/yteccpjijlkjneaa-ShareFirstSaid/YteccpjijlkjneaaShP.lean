/- Chapter 15, plain: sorted names, ranks, what comes out of the heap. No program is in sight. -/
import Derived.Test.YteccpjijlkjneaaShL
import Derived.Test.YteccpjijlkjneaaFbG
import Derived.Lib.SlicesCompact
namespace Go.Proofs.Yteccpjijlkjneaa
open Go.WideShapes
abbrev sortK (ks : List (List UInt8)) : List (List UInt8) := ks.mergeSort fun x y => decide (x ≤ y)
theorem sortK_le (ks : List (List UInt8)) : (sortK ks).Pairwise (fun x y => x ≤ y) := by
  have := List.pairwise_mergeSort (le := fun (x y : List UInt8) => decide (x ≤ y)) (fun a b c h1 h2 => by simp only [decide_eq_true_eq] at *; exact List.le_trans h1 h2) (fun a b => by simp only [Bool.or_eq_true, decide_eq_true_eq]; exact List.le_total a b) ks
  exact List.Pairwise.imp (fun h => by simpa using h) this
theorem sortK_perm (ks : List (List UInt8)) : (sortK ks).Perm ks := List.mergeSort_perm _ _
theorem sortK_lt {ks : List (List UInt8)} (h : ks.Nodup) : (sortK ks).Pairwise (fun x y => x < y) := by
  have h1 := sortK_le ks
  have h2 : (sortK ks).Nodup := (sortK_perm ks).nodup_iff.2 h
  refine (List.Pairwise.and h1 h2).imp fun ⟨a, b⟩ => ?_
  rcases List.le_iff_lt_or_eq.1 a with q | q
  · exact q
  · exact absurd q b
theorem compact_nodup {ks : List (List UInt8)} (h : ks.Nodup) : Go.Lib.compact ks = ks := by
  refine Go.Lib.compact_all ks fun j hj => ?_
  by_cases h0 : j = 0
  · subst h0; simp [Go.Lib.keeps]
  · refine Go.Lib.keeps_pos ?_
    rw [getElem!_pos _ j (by simpa using hj), getElem!_pos _ (j - 1) (by simp; omega)]
    simp only [List.getElem_toArray]
    intro e
    have := (List.getElem_inj h).1 e
    omega
theorem compact_le (ks : List (List UInt8)) : (Go.Lib.compact ks).length ≤ ks.length := by
  unfold Go.Lib.compact Go.Lib.compactUpTo
  rw [List.length_map]
  exact Nat.le_trans (List.length_filter_le _ _) (by simp)
/-- Of a sorted row something goes just where a name stands twice. -/
theorem compact_dup {ks : List (List UInt8)} (hs : ks.Pairwise (fun x y => x ≤ y)) : (Go.Lib.compact ks).length < ks.length ↔ ¬ ks.Nodup := by
  constructor
  · intro h hn
    rw [compact_nodup hn] at h
    omega
  · intro hn
    have hle := compact_le ks
    rcases Nat.lt_or_ge (Go.Lib.compact ks).length ks.length with q | q
    · exact q
    · exfalso
      apply hn
      have e : (Go.Lib.compact ks).length = ks.length := by omega
      unfold Go.Lib.compact Go.Lib.compactUpTo at e
      rw [List.length_map] at e
      have e2 : ((List.range ks.length).filter (Go.Lib.keeps ks.toArray)).length = (List.range ks.length).length := by rw [List.length_range]; exact e
      have key := List.length_filter_eq_length_iff.1 e2
      have adj : ∀ j (h1 : j + 1 < ks.length), ks[j] < ks[j + 1] := fun j h1 => by
        have hk := key (j + 1) (List.mem_range.2 h1)
        unfold Go.Lib.keeps at hk
        rw [decide_eq_true_eq] at hk
        rcases hk with hk | hk
        · omega
        · rw [getElem!_pos _ (j + 1) (by simpa using h1), getElem!_pos _ (j + 1 - 1) (by simp; omega)] at hk
          simp only [List.getElem_toArray, Nat.add_sub_cancel] at hk
          have := List.pairwise_iff_getElem.1 hs j (j + 1) (by omega) h1 (by omega)
          rcases List.le_iff_lt_or_eq.1 this with z | z
          · exact z
          · exact absurd z.symm hk
      have far : ∀ d i (h1 : i + d + 1 < ks.length), ks[i] < ks[i + d + 1] := by
        intro d
        induction d with
        | zero => intro i h1; exact adj i h1
        | succ d ih =>
          intro i h1
          have a := ih i (by omega)
          have b := adj (i + d + 1) (by omega)
          exact List.lt_trans a b
      refine List.pairwise_iff_getElem.2 fun i j hi hj hij => ?_
      have hf := far (j - i - 1) i (by omega)
      have ej : i + (j - i - 1) + 1 = j := by omega
      simp only [ej] at hf
      intro e
      rw [e] at hf
      exact List.lt_irrefl _ hf
/-- The key of a usage: its share, and its name's rank. -/
def kOf (W : V4) (ns : List (List UInt8)) (u : Us) : K3 := ((sh W u).1.1, (sh W u).1.2, (ns.idxOf (ky u.name) : Nat))
variable {W : V4} {l : List Us} {ns : List (List UInt8)} {s s' : Hp} {i x : Nat} {ps : List Nat}
/-- The first i keys were put in. -/
structure InK (W : V4) (l : List Us) (ns : List (List UInt8)) (s : Hp) (i : Nat) : Prop where
  m : s.m = i
  th : ∀ z, s.th z = decide (z < i)
  key : ∀ z u, z < i → l[z]? = some u → s.key z = kOf W ns u
theorem InK.next {u : Us} (h : InK W l ns s i) (hu : l[i]? = some u) (sk : SameK (s.insS (kOf W ns u)) s') : InK W l ns s' (i + 1) := by
  refine ⟨by rw [sk.1]; show s.m + 1 = _; rw [h.m], fun z => ?_, fun z v hz hv => ?_⟩
  · rw [sk.2.2]
    show up s.th s.m true z = _
    by_cases e : z = s.m
    · rw [e, up_same, h.m]; simp
    · rw [up_ne _ _ e, h.th z, decide_eq_decide]; have := h.m; omega
  · rw [sk.2.1]
    show up s.key s.m _ z = _
    by_cases e : z = s.m
    · rw [e, up_same]
      rw [e, h.m, hu] at hv
      injection hv with hv
      rw [hv]
    · rw [up_ne _ _ e]
      exact h.key z v (by have := h.m; omega) hv
/-- What was popped comes in order, ahead of what is left. -/
structure PopS (W : V4) (l : List Us) (ns : List (List UInt8)) (s : Hp) (ps : List Nat) : Prop where
  m : s.m = l.length
  th : ∀ z, s.th z = decide (z < l.length ∧ z ∉ ps)
  key : ∀ z u, z ∉ ps → l[z]? = some u → s.key z = kOf W ns u
  nd : ps.Nodup
  lt : ∀ z ∈ ps, z < l.length
  ord : ps.Pairwise (fun a b => ∀ u v, l[a]? = some u → l[b]? = some v → Ltk (kOf W ns u) a (kOf W ns v) b)
  fwd : ∀ a ∈ ps, ∀ z, z < l.length → z ∉ ps → ∀ u v, l[a]? = some u → l[z]? = some v → Ltk (kOf W ns u) a (kOf W ns v) z
theorem PopS.start (h : InK W l ns s l.length) : PopS W l ns s [] :=
  ⟨h.m, fun z => by rw [h.th z]; simp, fun z u _ hu => h.key z u (by obtain ⟨q, -⟩ := List.getElem?_eq_some_iff.1 hu; exact q) hu, List.nodup_nil, (fun _ h => nomatch h), List.Pairwise.nil, (fun _ h => nomatch h)⟩
theorem PopS.next (h : PopS W l ns s ps) (tx : s.th x = true) (hmin : ∀ z, s.th z = true → z = x ∨ s.lt x z) (sk : SameK (s.clear x) s') : (x < l.length ∧ x ∉ ps) ∧ PopS W l ns s' (ps ++ [x]) := by
  have hx : x < l.length ∧ x ∉ ps := by
    have := h.th x
    rw [tx] at this
    simpa using this.symm
  refine ⟨hx, by rw [sk.1]; exact h.m, fun z => ?_, fun z u hz hu => ?_, ?_, fun z hz => ?_, ?_, fun a ha z hz hzp u v hu hv => ?_⟩
  · rw [sk.2.2]
    show up s.th x false z = _
    by_cases e : z = x
    · rw [e, up_same]; simp
    · rw [up_ne _ _ e, h.th z, decide_eq_decide]; simp [e]
  · rw [sk.2.1]
    show up s.key x _ z = _
    rw [List.mem_append, List.mem_singleton] at hz
    rw [up_ne _ _ (fun e => hz (.inr e))]
    exact h.key z u (fun e => hz (.inl e)) hu
  · refine List.nodup_append.2 ⟨h.nd, by simp, fun a ha b hb => ?_⟩
    rw [List.mem_singleton] at hb
    subst hb
    intro e
    exact hx.2 (e ▸ ha)
  · rw [List.mem_append, List.mem_singleton] at hz
    rcases hz with hz | rfl
    · exact h.lt z hz
    · exact hx.1
  · refine List.pairwise_append.2 ⟨h.ord, by simp, fun a ha b hb u v hu hv => ?_⟩
    rw [List.mem_singleton] at hb
    subst hb
    exact h.fwd a ha b hx.1 hx.2 u v hu hv
  · rw [List.mem_append, List.mem_singleton] at hzp
    have hzp1 : z ∉ ps := fun e => hzp (.inl e)
    have hzx : z ≠ x := fun e => hzp (.inr e)
    rw [List.mem_append, List.mem_singleton] at ha
    rcases ha with ha | rfl
    · exact h.fwd a ha z hz hzp1 u v hu hv
    · have htz : s.th z = true := by rw [h.th z]; simp [hz, hzp1]
      have := (hmin z htz).resolve_left hzx
      unfold Hp.lt at this
      rw [h.key a u hx.2 hu, h.key z v hzp1 hv] at this
      exact this
theorem nodup_lenS : ∀ {l m : List Nat}, l.Nodup → (∀ x ∈ l, x ∈ m) → l.length ≤ m.length
  | [], _, _, _ => Nat.zero_le _
  | x :: t, m, h, hs => by
    rw [List.nodup_cons] at h
    have hx := hs x (by simp)
    have ih := nodup_lenS (m := m.erase x) h.2 (fun y hy => (List.mem_erase_of_ne (fun e : y = x => h.1 (by rw [← e]; exact hy))).2 (hs y (by simp [hy])))
    rw [List.length_erase_of_mem hx] at ih
    have : 0 < m.length := List.length_pos_of_mem hx
    simp
    omega
theorem PopS.len (h : PopS W l ns s ps) : ps.length ≤ l.length := by
  have := nodup_lenS (m := List.range l.length) h.nd fun x hx => List.mem_range.2 (h.lt x hx)
  simpa using this
def us0 : Us := ⟨ByteArray.empty, 0, 0, 0, 0, 0⟩
def namesO (l : List Us) (ps : List Nat) : List (List UInt8) := ps.map fun z => ky (l.getD z us0).name
theorem rank_at {u : Us} (hp : ns.Perm (l.map fun u => ky u.name)) (hu : u ∈ l) : ∃ h : ns.idxOf (ky u.name) < ns.length, ns[ns.idxOf (ky u.name)] = ky u.name := by
  have hm : ky u.name ∈ ns := hp.mem_iff.2 (List.mem_map_of_mem hu)
  exact ⟨List.idxOf_lt_length_of_mem hm, List.getElem_idxOf _⟩
/-- All popped: the usages in the order of tenants. -/
theorem PopS.whole (h : PopS W l ns s ps) (hl : l.length ≤ ps.length) (hnd : (l.map fun u => ky u.name).Nodup) (hp : ns.Perm (l.map fun u => ky u.name)) (hs : ns.Pairwise (fun x y => x < y)) :
    SrtO W l (ps.map fun z => l.getD z us0) ∧ (ps.map fun z => l.getD z us0).map (fun u => ky u.name) = namesO l ps := by
  have hall : ∀ z, z ∈ ps ↔ z < l.length := fun z => by
    refine ⟨h.lt z, fun hz => ?_⟩
    by_cases q : z ∈ ps
    · exact q
    · have := nodup_lenS (l := z :: ps) (m := List.range l.length) (List.nodup_cons.2 ⟨q, h.nd⟩) (fun x hx => by
        rw [List.mem_cons] at hx
        rw [List.mem_range]
        rcases hx with rfl | hx
        · exact hz
        · exact h.lt x hx)
      simp at this
      omega
  have hperm : ps.Perm (List.range l.length) := (List.perm_ext_iff_of_nodup h.nd List.nodup_range).2 fun z => by rw [hall z, List.mem_range]
  refine ⟨⟨?_, ?_⟩, by unfold namesO; rw [List.map_map]; rfl⟩
  · have h1 := hperm.map (fun z => l.getD z us0)
    have h2 : (List.range l.length).map (fun z => l.getD z us0) = l := by
      apply List.ext_getElem
      · simp
      · intro i h1 h2
        simp [h2]
    rw [h2] at h1
    exact h1
  · rw [List.pairwise_map]
    refine (List.Pairwise.and h.ord h.nd).imp_of_mem fun {a b} ha hb ⟨hab, hne⟩ => ?_
    have la := h.lt a ha
    have lb := h.lt b hb
    have ea : l.getD a us0 = l[a] := by simp [la]
    have eb : l.getD b us0 = l[b] := by simp [lb]
    rw [ea, eb]
    have hk := hab l[a] l[b] (List.getElem?_eq_getElem la) (List.getElem?_eq_getElem lb)
    obtain ⟨ra, ea2⟩ := rank_at hp (List.getElem_mem la)
    obtain ⟨rb, eb2⟩ := rank_at hp (List.getElem_mem lb)
    have hnn : ky l[a].name ≠ ky l[b].name := fun e => by
      have h3 : (l.map fun u => ky u.name)[a]'(by simpa using la) = (l.map fun u => ky u.name)[b]'(by simpa using lb) := by simpa using e
      exact hne ((List.getElem_inj hnd).1 h3)
    unfold Ltk kOf at hk
    simp only at hk
    rcases hk with hk | ⟨hk, hk2 | ⟨hk2, -⟩⟩
    · exact .inl hk
    · refine .inr ⟨hk, ?_⟩
      rw [← ea2, ← eb2]
      exact List.pairwise_iff_getElem.1 hs _ _ ra rb (by omega)
    · exfalso
      apply hnn
      rw [← ea2, ← eb2]
      simp only [show ns.idxOf (ky l[a].name) = ns.idxOf (ky l[b].name) by omega]
end Go.Proofs.Yteccpjijlkjneaa
