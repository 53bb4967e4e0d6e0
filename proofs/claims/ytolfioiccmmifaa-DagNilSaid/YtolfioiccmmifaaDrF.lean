/- Chapter 12's reference graph: jobs are put behind, and stored. -/
import Derived.Test.YtolfioiccmmifaaDrE
import Derived.Deep.DeepCutAuto
import Derived.Deep.RegionLaw
import Derived.Deep.Upon
namespace Go.Proofs.Ytolfioiccmmifaa
open Go.RowKit
variable {B H g cap : Nat} {w w' wr : World} {P P' : Nat → Value} {G G' : Gr} {J J' : List Nat} {v v' : Value}
theorem RefJ.cong (h : RefJ B w H v P G J) (e : ∀ x ∈ J, P' x = P x ∧ G'.st x = G.st x ∧ G'.pa x = G.pa x) : RefJ B w H v P' G' J := by
  refine ⟨h.hB, h.blk, ?_, fun x hx => ?_⟩
  · rw [show flatJ P' G' J = flatJ P G J from (flatJ_ext (flatJ_length P' G' J) fun i x hi c hc => by
      rw [flatJ_at hi hc]
      obtain ⟨e1, e2, -⟩ := e x (List.mem_of_getElem? hi)
      unfold cellJ
      rw [e1, e2])]
    exact h.row
  · obtain ⟨e1, -, e3⟩ := e x hx
    rw [e1, e3]
    exact h.par x hx
theorem own_type {b n z k : Nat} {T : TypeId} {v : Value} {xs : List Value} (h : w.ownsRow b T z v n xs) (e : v.ownBlock = some k) : ∃ cs f, w.heap[k]? = some (.cells cs T f) := by
  obtain ⟨-, ⟨rfl, -⟩ | ⟨g, cap, cur, rfl, hg, hh, -⟩⟩ := h
  · cases e
  · injection e with e
    simp only at e
    subst e
    exact ⟨_, _, hh⟩
/-- A row of numbers is no row of jobs. -/
theorem own_apart {b n k b2 n2 : Nat} {v u : Value} {xs ys : List Value} (h : w.ownsRow b 2 1 v n xs) (h2 : w.ownsRow b2 65 3 u n2 ys) (e : v.ownBlock = some k) : u.ownBlock ≠ some k := fun e2 => by
  obtain ⟨_, _, q1⟩ := own_type h e
  obtain ⟨_, _, q2⟩ := own_type h2 e2
  exact ne_of_types q1 q2 (by decide) rfl
theorem own_noH {b n k H : Nat} {v : Value} {xs : List Value} {cs : Array Value} (h : w.ownsRow b 2 1 v n xs) (h2 : w.heap[H]? = some (.cells cs 45 (0, 0))) (e : v.ownBlock = some k) : k ≠ H := by
  obtain ⟨_, _, q1⟩ := own_type h e
  exact ne_of_types q1 h2 (by decide)
theorem RefJ.rowNe (h : RefJ B w H v P G J) : v.ownBlock ≠ some H := fun e => by
  obtain ⟨_, _, q1⟩ := own_type h.row e
  exact ne_of_types q1 h.blk (by decide) rfl
/-- Whatever is kept but the graph's own blocks keeps the parents' rows. -/
theorem RefJ.parKept (h : RefJ B w H v P G J) (t : Tur (FootW H v) w w') {b n : Nat} {u : Value} {xs : List Value} (hu : w.ownsRow b 2 1 u n xs) : w'.ownsRow b 2 1 u n xs :=
  rowN_kept hu fun k hk => t.kept k (hu.lt k hk).2 (by
    rintro (q | q)
    · exact own_noH hu h.blk hk q
    · exact own_apart hu h.row hk q)
/-- A job is stored. -/
theorem RefJ.setj {i x : Nat} (h : RefJ B w H (.slice (some ⟨g, 0, none⟩) J.length cap) P G J) (hi : i < J.length) (hx : w.ownsRow B 2 1 (P x) (G.pa x).length (rowD (G.pa x))) :
    RefJ B (((w.setCell ⟨g, i * 3, none⟩ (.int .i64 (x : Nat))).setCell ⟨g, i * 3 + 1, none⟩ (P x)).setCell ⟨g, i * 3 + 2, none⟩ (.int .i64 (G.st x : Nat))) H (.slice (some ⟨g, 0, none⟩) (J.set i x).length cap) P G (J.set i x) ∧
    Tur (FootW H (.slice (some ⟨g, 0, none⟩) J.length cap)) w (((w.setCell ⟨g, i * 3, none⟩ (.int .i64 (x : Nat))).setCell ⟨g, i * 3 + 1, none⟩ (P x)).setCell ⟨g, i * 3 + 2, none⟩ (.int .i64 (G.st x : Nat))) := by
  have t : Tur (FootW H (.slice (some ⟨g, 0, none⟩) J.length cap)) w (((w.setCell ⟨g, i * 3, none⟩ (.int .i64 (x : Nat))).setCell ⟨g, i * 3 + 1, none⟩ (P x)).setCell ⟨g, i * 3 + 2, none⟩ (.int .i64 (G.st x : Nat))) :=
    ((Tur.set _ (.inl (.inr rfl))).then (Tur.set _ (.inl (.inr rfl)))).then (Tur.set _ (.inl (.inr rfl)))
  have hgH : H ≠ g := fun e => h.rowNe (by rw [e]; rfl)
  have hle : (J.set i x).length = J.length := List.length_set
  rw [hle]
  refine ⟨⟨h.hB, heap_set_ne hgH (heap_set_ne hgH (heap_set_ne hgH h.blk)), ?_, fun y hy => ?_⟩, t⟩
  · have h3 := ((h.row.stored (i * 3) (.int .i64 (x : Nat))).1.stored (i * 3 + 1) (P x)).1.stored (i * 3 + 2) (.int .i64 (G.st x : Nat))
    have e : (((flatJ P G J).set (i * 3) (.int .i64 (x : Nat))).set (i * 3 + 1) (P x)).set (i * 3 + 2) (.int .i64 (G.st x : Nat)) = flatJ P G (J.set i x) := flatJ_ext (by simp [flatJ_length]) fun j z hj c hc => by
      have hjl : j < J.length := by obtain ⟨q, -⟩ := getq hj; simpa using q
      by_cases q : j = i
      · subst q
        rw [List.getElem?_set_self hjl] at hj
        injection hj with hj
        subst hj
        match c, hc with
        | 0, _ => rw [List.getElem?_set_ne (by omega), List.getElem?_set_ne (by omega), Nat.add_zero, List.getElem?_set_self (by rw [flatJ_length]; omega)]; rfl
        | 1, _ => rw [List.getElem?_set_ne (by omega), List.getElem?_set_self (by rw [List.length_set, flatJ_length]; omega)]; rfl
        | 2, _ => rw [List.getElem?_set_self (by rw [List.length_set, List.length_set, flatJ_length]; omega)]; rfl
      · rw [List.getElem?_set_ne (fun e => q e.symm)] at hj
        rw [List.getElem?_set_ne (by omega), List.getElem?_set_ne (by omega), List.getElem?_set_ne (by omega), flatJ_at hj hc]
    rw [← e, hle]
    exact h3.1
  · rcases List.mem_or_eq_of_mem_set hy with q | rfl
    · exact h.parKept t (h.par y q)
    · exact h.parKept t hx
/-- A state is stored. -/
theorem RefJ.setSt {i x : Nat} (h : RefJ B w H (.slice (some ⟨g, 0, none⟩) J.length cap) P G J) (hn : J.Nodup) (hi : J[i]? = some x) (s : Nat) :
    RefJ B (w.setCell ⟨g, i * 3 + 2, none⟩ (.int .i64 (s : Nat))) H (.slice (some ⟨g, 0, none⟩) J.length cap) P ⟨upd G.st x s, G.X, G.pe⟩ J ∧ Tur (FootW H (.slice (some ⟨g, 0, none⟩) J.length cap)) w (w.setCell ⟨g, i * 3 + 2, none⟩ (.int .i64 (s : Nat))) := by
  have t : Tur (FootW H (.slice (some ⟨g, 0, none⟩) J.length cap)) w (w.setCell ⟨g, i * 3 + 2, none⟩ (.int .i64 (s : Nat))) := Tur.set _ (.inl (.inr rfl))
  have hgH : H ≠ g := fun e => h.rowNe (by rw [e]; rfl)
  refine ⟨⟨h.hB, heap_set_ne hgH h.blk, ?_, fun y hy => h.parKept t (h.par y hy)⟩, t⟩
  have h3 := h.row.stored (i * 3 + 2) (.int .i64 (s : Nat))
  have e : (flatJ P G J).set (i * 3 + 2) (.int .i64 (s : Nat)) = flatJ P ⟨upd G.st x s, G.X, G.pe⟩ J := flatJ_ext (by simp [flatJ_length]) fun j z hj c hc => by
    obtain ⟨hjl, -⟩ := getq hj
    by_cases q : j = i
    · subst q
      rw [hi] at hj
      injection hj with hj
      subst hj
      match c, hc with
      | 0, _ => rw [List.getElem?_set_ne (by omega), flatJ_at hi (by omega)]; rfl
      | 1, _ => rw [List.getElem?_set_ne (by omega), flatJ_at hi (by omega)]; rfl
      | 2, _ =>
        rw [List.getElem?_set_self (by rw [flatJ_length]; omega)]
        show _ = some (Value.int .i64 ((upd G.st x s x : Nat) : Int))
        rw [upd_same]
    · have hz : z ≠ x := fun e => q (nodup_at hn hj (e ▸ hi))
      rw [List.getElem?_set_ne (by omega), flatJ_at hj hc]
      match c, hc with
      | 0, _ => rfl
      | 1, _ => rfl
      | 2, _ =>
        show some (Value.int .i64 ((G.st z : Nat) : Int)) = some (Value.int .i64 ((upd G.st x s z : Nat) : Int))
        rw [upd_ne _ _ hz]
  rw [← e]
  exact h3.1
theorem infoJ : (Try.prog.info? 65).map (fun i => (i.size, i.bytes)) = some (3, 40) ∧ ((Try.prog.info? 65).bind (·.zero)).map (fun z => z.cells.size) = some 3 := by
  constructor <;> kernel_rfl
theorem infoJ2 : ∃ i z, Try.prog.info? 65 = some i ∧ i.zero = some z ∧ i.size = 3 ∧ i.bytes = 40 ∧ z.cells.size = 3 := by
  obtain ⟨h1, h2⟩ := infoJ
  cases e : Try.prog.info? 65 with
  | none => rw [e] at h1; cases h1
  | some i =>
    rw [e] at h1 h2
    simp only [Option.map_some, Option.bind_some] at h1 h2
    injection h1 with h1
    injection h1 with h3 h4
    cases ez : i.zero with
    | none => rw [ez] at h2; cases h2
    | some z =>
      rw [ez] at h2
      simp only [Option.map_some] at h2
      injection h2 with h2
      exact ⟨i, z, rfl, ez, h3, h4, h2⟩
theorem flatJ_snoc (P : Nat → Value) (G : Gr) (J : List Nat) (y : Nat) : flatJ P G (J ++ [y]) = flatJ P G J ++ [.int .i64 (y : Nat), P y, .int .i64 (G.st y : Nat)] := by
  refine (flatJ_ext (by simp [flatJ_length]; omega) fun j z hj c hc => ?_).symm
  by_cases q : j < J.length
  · rw [List.getElem?_append_left q] at hj
    rw [List.getElem?_append_left (by rw [flatJ_length]; omega), flatJ_at hj hc]
  · have hjl : j = J.length := by obtain ⟨q1, -⟩ := getq hj; simp at q1; omega
    subst hjl
    rw [List.getElem?_append_right (Nat.le_refl _), Nat.sub_self] at hj
    injection hj with hj
    subst hj
    rw [List.getElem?_append_right (by rw [flatJ_length]; omega), flatJ_length, show J.length * 3 + c - J.length * 3 = c by omega]
    match c, hc with
    | 0, _ | 1, _ | 2, _ => rfl
/-- A job is put behind, and the slice stored. -/
theorem app_stepJ {W : World} {A : Option Addr} {capv c y : Nat} (hW : RefJ B W H (.slice A J.length capv) P G J) (ad : Addr) (hnews : ∀ j u, [Value.int .i64 (y : Nat), P y, .int .i64 (G.st y : Nat)][j]? = some u → W.cell? (ad.add j) = some u) (hy : W.ownsRow B 2 1 (P y) (G.pa y).length (rowD (G.pa y))) (hb : J.length ≤ 1000) :
    ∃ g cap w4, (Builtin.append_ #[43, 43] 43 #[.slice A J.length capv, .slice (some ad) 1 c]).run Try.prog W = .ok (.slice (some ⟨g, 0, none⟩) (J.length + 1) cap) w4 ∧
      w4.heap[H]? = some (.cells #[.slice A J.length capv] 45 (0, 0)) ∧ RefJ B (w4.setCell ⟨H, 0, none⟩ (.slice (some ⟨g, 0, none⟩) (J.length + 1) cap)) H (.slice (some ⟨g, 0, none⟩) (J ++ [y]).length cap) P G (J ++ [y]) ∧ Tur (FootW H (.slice A J.length capv)) W (w4.setCell ⟨H, 0, none⟩ (.slice (some ⟨g, 0, none⟩) (J.length + 1) cap)) ∧
      (∀ k, FootW H (.slice (some ⟨g, 0, none⟩) (J.length + 1) cap) k → FootW H (.slice A J.length capv) k ∨ W.heap.size ≤ k) ∧ g ≠ H := by
  have sH := hW.ltH
  obtain ⟨i0, z0, hi, hz0, hz1, hz2, hz3⟩ := infoJ2
  obtain ⟨A2, c2, hPy⟩ := row_shape hy
  obtain ⟨g, cap, w4, happ, hown, hG4, hat, hgl⟩ := run_append_lies (P := Try.prog) (w := W) 43 43 B 65 i0 z0 3 40 Try.underlying43 hi hz0 hz1 hz2 hz3 (by omega)
    (.slice A J.length capv) J.length (flatJ P G J) hW.row ad 1 c [Value.int .i64 (y : Nat), P y, .int .i64 (G.st y : Nat)] rfl hnews (by
      intro u hu
      simp only [List.mem_cons, List.not_mem_nil, or_false] at hu
      rcases hu with rfl | rfl | rfl
      · rfl
      · rw [hPy]; rfl
      · rfl) (by omega) (by unfold maxLen; omega) (by omega) hW.le W.heap.size rfl
  rw [← flatJ_snoc] at hown
  have hgH : g ≠ H := by
    rcases hat with e | e
    · intro e2
      subst e2
      exact hW.rowNe e
    · omega
  have H4 : w4.heap[H]? = some (.cells #[.slice A J.length capv] 45 (0, 0)) := (hG4.block H sH (fun e => hW.rowNe e.symm)).trans hW.blk
  have t : Tur (FootW H (.slice A J.length capv)) W (w4.setCell ⟨H, 0, none⟩ (.slice (some ⟨g, 0, none⟩) (J.length + 1) cap)) := (Tur.of_grown hG4 (fun g hg => .inl (.inr hg))).then (Tur.set _ (.inl (.inl rfl)))
  refine ⟨g, cap, w4, happ, H4, ⟨hW.hB, at_of ⟨_, heap_setCell_same _ _ _ _ _ _ H4, ?_⟩, ?_, fun x hx => ?_⟩, t, ?_, hgH⟩
  · simp
  · rw [List.length_append]
    obtain ⟨h3, h4 | ⟨g', cap', cur, h5, hg', hh, rest⟩⟩ := hown
    · exact absurd h4.2 (by omega)
    · cases h5
      exact ⟨h3, .inr ⟨g, cap, cur, rfl, hg', heap_set_ne hgH hh, rest⟩⟩
  · rw [List.mem_append, List.mem_singleton] at hx
    rcases hx with hx | rfl
    · exact hW.parKept t (hW.par x hx)
    · exact hW.parKept t hy
  · rintro k (rfl | e)
    · exact .inl (.inl rfl)
    · injection e with e
      simp only at e
      subst e
      rcases hat with e | e
      · exact .inl (.inr e)
      · exact .inr (by omega)
end Go.Proofs.Ytolfioiccmmifaa
