/- Chapter 12: rows are appended; what descends from a job, in memory (below). -/
import Derived.Test.YtolfioiccmmifaaDgB
import Derived.Deep.AppendLies
namespace Go.Proofs.Ytolfioiccmmifaa
open Go.RowKit
variable {B H : Nat} {w w' : World} {R R' : Nat → Value} {G G' : Gr}
/-- Numbers are appended to a row of the call's own. -/
theorem app_src {b n n2 cap cap2 : Nat} {A A2 : Option Addr} {xs zs : List Int} (ho : w.ownsRow b 2 1 (.slice A n cap) n (rowZ xs)) (hs : SlZ w A2 n2 zs) (hn : n + n2 ≤ 1048576) (hb : b ≤ w.heap.size) :
    ∃ A' cap' w', (Builtin.append_ #[31, 31] 31 #[.slice A n cap, .slice A2 n2 cap2]).run Try.prog w = .ok (.slice A' (n + n2) cap') w' ∧ w'.ownsRow b 2 1 (.slice A' (n + n2) cap') (n + n2) (rowZ (xs ++ zs)) ∧ w.grownBy w' (Value.slice A n cap).ownBlock ∧
      ∀ g, (Value.slice A' (n + n2) cap').ownBlock = some g → (Value.slice A n cap).ownBlock = some g ∨ w.heap.size ≤ g := by
  obtain ⟨i0, z0, hi, hz0, hz1, hz2, hz3⟩ := infoZ2
  obtain ⟨h1, h2⟩ := hs
  by_cases h0 : n2 = 0
  · obtain rfl : zs = [] := List.eq_nil_of_length_eq_zero (by omega)
    have hsrc : Src Try.prog i0.size 31 (.slice A2 n2 cap2) 0 [] w := by
      rw [h0]
      cases A2 with
      | none => exact Src.ofNil w Try.underlying31 cap2
      | some a => exact Src.ofSlice w Try.underlying31 a 0 cap2 [] (by simp) (fun j u h => by simp at h) (fun u h => nomatch h)
    have hle : n ≤ cap := by
      obtain ⟨-, ⟨h3, h4⟩ | ⟨g', cap', cur, h3, -, -, hle, -⟩⟩ := ho
      · injection h3 with _ e1 e2; omega
      · injection h3 with _ e1 e2; omega
    have happ := run_append_nothing (P := Try.prog) w 31 31 31 2 i0 Try.underlying31 hi A n cap hle _ hsrc
    rw [List.append_nil, show n + n2 = n by omega]
    exact ⟨A, cap, w, happ, ho, World.grownBy.refl _ _, fun g hg => .inl hg⟩
  · rcases h2 with rfl | ⟨b2, off, rfl, hl, hc⟩
    · exact absurd h1 h0
    · obtain ⟨g, cap', w', happ, hown, hG, hat, hgl⟩ := run_append_lies (P := Try.prog) (w := w) 31 31 b 2 i0 z0 1 8 Try.underlying31 hi hz0 hz1 hz2 hz3 (by omega)
        (.slice A n cap) n (rowZ xs) ho ⟨b2, off, none⟩ n2 cap2 (rowZ zs) (by simp; omega) (fun j u hu => by
          obtain ⟨hj, rfl⟩ := rowZ_get zs hu
          have e0 : (⟨b2, off, none⟩ : Addr).add j = ⟨b2, off + j, none⟩ := by unfold Addr.add; split <;> simp_all
          rw [e0]; exact hc j hj) (rowZ_one zs) (by omega) (by unfold maxLen; omega) (by omega) hb w.heap.size rfl
      refine ⟨some ⟨g, 0, none⟩, cap', w', happ, ?_, hG, fun q hq => ?_⟩
      · rw [rowZ, List.map_append]; exact hown
      · injection hq with hq
        simp only at hq
        subst hq
        rcases hat with e | e
        · exact .inl e
        · exact .inr (by omega)
theorem row_cap {b n z cap : Nat} {A : Option Addr} {T : TypeId} {xs : List Value} (h : w.ownsRow b T z (.slice A n cap) n xs) : n ≤ cap := by
  obtain ⟨-, ⟨h3, h4⟩ | ⟨g', cap', cur, h3, -, -, hle, -⟩⟩ := h
  · injection h3 with _ e1 e2; omega
  · injection h3 with _ e1 e2; omega
/-- The row without its last. -/
theorem row_init {b n cap : Nat} {A : Option Addr} {xs : List Int} {x : Int} (h : w.ownsRow b 2 1 (.slice A (n + 1) cap) (n + 1) (rowZ (xs ++ [x]))) : w.ownsRow b 2 1 (.slice A n cap) n (rowZ xs) ∧ ∃ g, A = some ⟨g, 0, none⟩ := by
  obtain ⟨h1, ⟨h3, h4⟩ | ⟨g, cap', cur, h3, hg, hh, hle, hmx, hsz, ht⟩⟩ := h
  · omega
  · injection h3 with e1 e2 e3
    subst e1 e3
    have hl : xs.length = n := by simp at h1; exact h1
    refine ⟨⟨by simp [hl], .inr ⟨g, cap, cur, rfl, hg, hh, by omega, hmx, hsz, ?_⟩⟩, g, rfl⟩
    have : (cur.toList.take ((n + 1) * 1)).take n = (rowZ (xs ++ [x])).take n := by rw [ht]
    rw [List.take_take, Nat.mul_one, Nat.min_eq_left (by omega)] at this
    rw [Nat.mul_one, this, rowZ, List.map_append, List.take_left' (by simp [hl])]
/-- The search: out is what was seen, todo what is still to be looked at. -/
structure Bw (G : Gr) (id : Nat) (out todo : List Nat) : Prop where
  nd : out.Nodup
  r1 : ∀ x ∈ out, G.Rch id x
  r2 : ∀ x ∈ todo, G.Rch id x
  cl : ∀ x, x = id ∨ x ∈ out → ∀ c ∈ G.ch x, c ∈ out ∨ c ∈ todo
  lt : todo.length ≤ 100 * (out.length + 1)
theorem Bw.start (ok : G.Lnk) (id : Nat) : Bw G id [] (G.ch id) := by
  refine ⟨List.nodup_nil, (fun _ h => nomatch h), fun x hx => .one ((ok.chm _ _).1 hx), fun x hx c hc => ?_, ?_⟩
  · rcases hx with rfl | hx
    · exact .inr hc
    · cases hx
  · have := ok.chl id
    simp
    omega
theorem Bw.skip {id x : Nat} {out t : List Nat} (h : Bw G id out (t ++ [x])) (hx : x ∈ out) : Bw G id out t := by
  refine ⟨h.nd, h.r1, fun y hy => h.r2 y (by simp [hy]), fun y hy c hc => ?_, ?_⟩
  · rcases h.cl y hy c hc with q | q
    · exact .inl q
    · rw [List.mem_append, List.mem_singleton] at q
      rcases q with q | q
      · exact .inr q
      · rw [q]; exact .inl hx
  · have := h.lt
    simp at this
    omega
theorem Bw.look {id x : Nat} {out t : List Nat} (ok : G.Lnk) (h : Bw G id out (t ++ [x])) (hx : x ∉ out) : Bw G id (out ++ [x]) (t ++ G.ch x) := by
  have hr : G.Rch id x := h.r2 x (by simp)
  refine ⟨List.nodup_append.2 ⟨h.nd, by simp, fun a ha b hb => ?_⟩, fun y hy => ?_, fun y hy => ?_, fun y hy c hc => ?_, ?_⟩
  · rw [List.mem_singleton] at hb
    subst hb
    intro e
    subst e
    exact hx ha
  · rw [List.mem_append, List.mem_singleton] at hy
    rcases hy with hy | rfl
    · exact h.r1 y hy
    · exact hr
  · rw [List.mem_append] at hy
    rcases hy with hy | hy
    · exact h.r2 y (by simp [hy])
    · exact .step hr ((ok.chm _ _).1 hy)
  · rw [List.mem_append, List.mem_singleton] at hy
    have old : y = id ∨ y ∈ out → c ∈ out ++ [x] ∨ c ∈ t ++ G.ch x := fun q => by
      rcases h.cl y q c hc with q | q
      · exact .inl (by simp [q])
      · rw [List.mem_append, List.mem_singleton] at q
        rcases q with q | q
        · exact .inr (by simp [q])
        · exact .inl (by simp [q])
    rcases hy with hy | hy | hy
    · exact old (.inl hy)
    · exact old (.inr hy)
    · subst hy; exact .inr (by simp [hc])
  · have h1 := h.lt
    have h2 := ok.chl x
    simp at h1 ⊢
    omega
theorem Bw.done {id : Nat} {out : List Nat} (ok : G.Lnk) (h : Bw G id out []) : ∀ x, x ∈ out ↔ x ≤ 100 ∧ G.Rch id x := by
  intro x
  constructor
  · intro hx
    have := h.r1 x hx
    exact ⟨(ok.rch this).2.2, this⟩
  · rintro ⟨-, hx⟩
    induction hx with
    | one q =>
      rcases h.cl id (.inl rfl) _ ((ok.chm _ _).2 q) with q | q
      · exact q
      · cases q
    | step _ q ih =>
      rcases h.cl _ (.inr ih) _ ((ok.chm _ _).2 q) with q | q
      · exact q
      · cases q
theorem Bw.len {id : Nat} {out todo : List Nat} (ok : G.Lnk) (h : Bw G id out todo) : out.length ≤ 100 := len100 h.nd fun x hx => (ok.rch (h.r1 x hx)).2
/-- The search's own blocks. -/
structure Lw (b : Nat) (wr : World) (S : Nat) (v6 v7 : Value) (out todo : List Nat) : Prop where
  sn : wr.heap[S]? = some (.cells (arrS fun x => decide (x ∈ out)) 70 (0, 0))
  o : wr.ownsRow b 2 1 v6 out.length (rowD out)
  t : wr.ownsRow b 2 1 v7 todo.length (rowD todo)
  ap : ∀ g, v6.ownBlock = some g → v7.ownBlock ≠ some g
  hS : b ≤ S
theorem ne_of_types {k S : Nat} {c1 c2 : Array Value} {T1 T2 : TypeId} {f1 f2 : Nat × Nat} (h1 : w.heap[k]? = some (.cells c1 T1 f1)) (h2 : w.heap[S]? = some (.cells c2 T2 f2)) (hT : T1 ≠ T2) : k ≠ S := fun e => by
  rw [e, h2] at h1
  injection h1 with h1
  injection h1 with _ h3
  exact hT h3.symm
theorem row_neS {b n k S : Nat} {v : Value} {xs : List Value} {cs : Array Value} (h : w.ownsRow b 2 1 v n xs) (hS : w.heap[S]? = some (.cells cs 70 (0, 0))) (e : v.ownBlock = some k) : k ≠ S := by
  obtain ⟨-, ⟨h3, h4⟩ | ⟨g', cap', cur, h3, -, hh, -⟩⟩ := h
  · rw [h3] at e; cases e
  · rw [h3] at e
    injection e with e
    simp only at e
    subst e
    exact ne_of_types hh hS (by decide)
theorem grown_row {b n z : Nat} {v u : Value} {xs : List Value} {T : TypeId} (h : w.ownsRow b T z v n xs) (hg : w.grownBy w' u.ownBlock) (ha : ∀ g, v.ownBlock = some g → u.ownBlock ≠ some g) : w'.ownsRow b T z v n xs :=
  rowN_kept h fun g hg2 => hg.block g (h.lt g hg2).2 (fun e => ha g hg2 e.symm)
theorem toZ_snoc (l : List Nat) (x : Nat) : toZ l ++ [(x : Int)] = toZ (l ++ [x]) := by simp [toZ]
theorem toZ_app (l m : List Nat) : toZ l ++ toZ m = toZ (l ++ m) := by simp [toZ]
theorem seen_upd (out : List Nat) (x : Nat) : upd (fun y => decide (y ∈ out)) x true = fun y => decide (y ∈ out ++ [x]) := by
  funext y
  unfold upd
  by_cases e : y = x <;> simp [e]
/-- A new one is marked, and put behind those that were seen. -/
theorem mark_step {b S x cap6 : Nat} {A6 : Option Addr} {v7 : Value} {out t : List Nat} (h : Lw b w S (.slice A6 out.length cap6) v7 out t) (hx : x < 101) (hb : b ≤ w.heap.size) (hl : out.length ≤ 100000) :
    ∃ A' cap' w', (Builtin.append_ #[31, 31] 31 #[.slice A6 out.length cap6, .slice (some ⟨w.heap.size, 0, none⟩) 1 1]).run Try.prog ((w.setCell ⟨S, x, none⟩ (.bool true)).alloc (.cells #[.int .i64 (x : Int)] 2)) = .ok (.slice A' (out.length + 1) cap') w' ∧
      Lw b w' S (.slice A' (out ++ [x]).length cap') v7 (out ++ [x]) t ∧ Below b w w' ∧ w.heap.size ≤ w'.heap.size := by
  have hSl := lt_of_at h.sn
  have S3 : (w.setCell ⟨S, x, none⟩ (.bool true)).heap[S]? = some (.cells (arrS fun y => decide (y ∈ out ++ [x])) 70 (0, 0)) := at_of ⟨_, heap_setCell_same _ _ _ _ _ _ h.sn, by rw [arrS_set _ hx, seen_upd]⟩
  have O3 : (w.setCell ⟨S, x, none⟩ (.bool true)).ownsRow b 2 1 (.slice A6 out.length cap6) out.length (rowD out) := rowN_kept h.o fun g hg => heap_setCell_other w ⟨S, x, none⟩ g _ (row_neS h.o h.sn hg)
  have T3 : (w.setCell ⟨S, x, none⟩ (.bool true)).ownsRow b 2 1 v7 t.length (rowD t) := rowN_kept h.t fun g hg => heap_setCell_other w ⟨S, x, none⟩ g _ (row_neS h.t h.sn hg)
  have hsz : (w.setCell ⟨S, x, none⟩ (.bool true)).heap.size = w.heap.size := World.size_setCell _ _ _
  have hne : ∀ g, (Value.slice A6 out.length cap6).ownBlock = some g → S ≠ g := fun g hg e => row_neS h.o h.sn hg e.symm
  have B3 : Below b w ((w.setCell ⟨S, x, none⟩ (.bool true)).alloc (.cells #[.int .i64 (x : Int)] 2)) := by
    have hS := h.hS
    refine Below.alloc (Below.setCell (Below.refl _ _) hS _) (by rw [hsz]; exact hb) _
  generalize hW : w.setCell ⟨S, x, none⟩ (.bool true) = W at *
  have a1 := alloc_at W (.cells #[.int .i64 (x : Int)] 2)
  rw [hsz] at a1
  obtain ⟨A', cap', w', happ, hown, hG, hat⟩ := app_src (cap2 := 1) (O3.alloc (.cells #[.int .i64 (x : Int)] 2)) (slz_one a1) (by omega) (by simp; omega)
  have hsz2 := hG.size
  simp only [World.size_alloc, hsz] at hsz2
  rw [toZ_snoc] at hown
  refine ⟨A', cap', w', happ, ⟨?_, ?_, ?_, fun g hg => ?_, h.hS⟩, ?_, by omega⟩
  · exact (hG.block S (by simp; omega) (fun e => (hne S e.symm) rfl)).trans (alloc_at_lt S3 _)
  · rw [List.length_append]; exact hown
  · exact grown_row (T3.alloc _) hG (fun g hg e => h.ap g e hg)
  · rw [List.length_append] at hg
    intro e
    rcases hat g hg with q | q
    · exact h.ap g q e
    · have := (h.t.lt g e).2
      simp only [World.size_alloc, hsz] at q
      omega
  · refine B3.trans ?_
    exact Tur.below (Tur.of_grown (F := fun k => (Value.slice A6 out.length cap6).ownBlock = some k) hG (fun g hg => .inl hg)) (by simp; omega) (fun k hk => (h.o.lt k hk).1)
/-- Its children are put behind what is still to be looked at. -/
theorem more_step {b S cap7 cap2 n2 : Nat} {A7 A2 : Option Addr} {v6 : Value} {out t : List Nat} {cs : List Nat} (h : Lw b w S v6 (.slice A7 t.length cap7) out t) (hs : SlZ w A2 n2 (toZ cs)) (hb : b ≤ w.heap.size) (hl : t.length + n2 ≤ 1048576) :
    ∃ A' cap' w', (Builtin.append_ #[31, 31] 31 #[.slice A7 t.length cap7, .slice A2 n2 cap2]).run Try.prog w = .ok (.slice A' (t.length + n2) cap') w' ∧
      Lw b w' S v6 (.slice A' (t ++ cs).length cap') out (t ++ cs) ∧ Below b w w' := by
  have hSl := lt_of_at h.sn
  obtain ⟨A', cap', w', happ, hown, hG, hat⟩ := app_src (cap2 := cap2) h.t hs hl hb
  have hn2 : n2 = cs.length := by have := hs.1; simpa using this
  rw [toZ_app] at hown
  refine ⟨A', cap', w', happ, ⟨?_, ?_, ?_, fun g hg => ?_, h.hS⟩, ?_⟩
  · exact (hG.block S hSl (fun e => row_neS h.t h.sn e.symm rfl)).trans h.sn
  · exact grown_row h.o hG (fun g hg e => h.ap g hg e)
  · rw [List.length_append, ← hn2]; exact hown
  · intro e
    rw [List.length_append, ← hn2] at e
    rcases hat g e with q | q
    · exact h.ap g hg q
    · have := (h.o.lt g hg).2
      omega
  · exact Tur.below (Tur.of_grown (F := fun k => (Value.slice A7 t.length cap7).ownBlock = some k) hG (fun g hg => .inl hg)) hb (fun k hk => (h.t.lt k hk).1)
end Go.Proofs.Ytolfioiccmmifaa
