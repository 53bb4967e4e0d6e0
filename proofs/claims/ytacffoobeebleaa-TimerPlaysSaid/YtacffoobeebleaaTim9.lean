/- Contracts of chapter 10's New, Get, Cancel, Next, Len, and of all calls on no clock. -/
import Derived.Test.YtacffoobeebleaaTim8
namespace Go.Proofs.Ytacffoobeebleaa
open Go.RowKit Go.Maps Go.WideShapes
/-- An empty clock, as it is laid. -/
theorem Clk.start {B c : Nat} {w : World} (hB : B ≤ c) (h : w.heap[c]? = some (.cells #[.slice none 0 0, .map none] 61 (0, 0))) : Clk B w c (.slice none 0 0) none [] :=
  ⟨⟨noA, ⟨hB, h, ⟨rfl, .inl ⟨rfl, rfl⟩⟩, (fun _ e => nomatch e), ⟨rfl, rfl⟩⟩, (fun _ _ => ⟨(fun e => nomatch e), (fun ⟨j, hj, _⟩ => absurd hj (Nat.not_lt_zero j))⟩)⟩, (fun _ h => nomatch h), Nat.le_trans hB (Nat.le_of_lt (lt_of_at h)), (fun k _ hk => absurd hk (Nat.not_lt_zero k)), Nat.zero_le _⟩
set_option maxHeartbeats 400000 in
theorem new_any (w : World) : Calls Try.prog 10 #[] w fun e w' => e = .returned (.pointer (some ⟨w.heap.size, 0, none⟩)) ∧ Below w.heap.size w w' ∧ Clk w.heap.size w' w.heap.size (.slice none 0 0) none [] := by
  go_enter Try.func10, Try.ntmps10
  go_wp2
  all_goals
    go_ret
    exact ⟨rfl, (by repeat (first | with_reducible assumption | with_reducible exact Below.refl _ _ | with_reducible refine Below.drew ?_ | with_reducible refine below_drewN ?_ _ | with_reducible refine below_alloc ?_ _ | with_reducible refine Below.alloc ?_ (by first | omega | (simp; done) | (simp; omega)) _ | with_reducible refine Below.setCell ?_ (by first | omega | (simp; done) | (simp; omega)) _ | with_reducible refine below_setRow ?_ (by first | omega | (simp; done) | (simp; omega)) _)), Clk.start (Nat.le_refl _) (by first | exact (by (repeat (first | (with_reducible assumption) | (with_reducible exact alloc_at _ _) | ((with_reducible apply alloc_at'); (simp; done)) | (with_reducible apply alloc_at_lt) | (with_reducible apply heap_drew_at) | (with_reducible apply heap_drewN_at) | (with_reducible apply heap_setCell_same) | ((with_reducible apply heap_set_ne); (first | omega | (dsimp only; omega) | (simp; done) | (simp; omega))) | (with_reducible apply setRow_at) | ((with_reducible apply setRow_ne); (first | omega | (dsimp only; omega) | (simp; done) | (simp; omega)))))) | exact at_of (by apply Exists.intro; refine ⟨?_, ?_⟩; (focus ((repeat (first | (with_reducible assumption) | (with_reducible exact alloc_at _ _) | ((with_reducible apply alloc_at'); (simp; done)) | (with_reducible apply alloc_at_lt) | (with_reducible apply heap_drew_at) | (with_reducible apply heap_drewN_at) | (with_reducible apply heap_setCell_same) | ((with_reducible apply heap_set_ne); (first | omega | (dsimp only; omega) | (simp; done) | (simp; omega))) | (with_reducible apply setRow_at) | ((with_reducible apply setRow_ne); (first | omega | (dsimp only; omega) | (simp; done) | (simp; omega))))))); simp))⟩
theorem lenc_any (B c : Nat) (v : Value) (m : Option Nat) (l : List Al) (w : World) (h : Clk B w c v m l) :
    Calls Try.prog 12 #[.pointer (some ⟨c, 0, none⟩)] w fun e w' => e = .returned (.int .i64 l.length) ∧ Below w.heap.size w w' := by
  obtain ⟨I, h1, -⟩ := h.st
  exact len_any B c l.length v m l I w h1
set_option maxHeartbeats 1000000 in
theorem get_old (B c : Nat) (v : Value) (m : Option Nat) (l : List Al) (s : ByteArray) (i : Nat) (w : World) (h : Clk B w c v m l) (hs : s.size ≤ maxLen) (hi : i < l.length) (e : (el l i).1 = s) :
    Calls Try.prog 19 #[.pointer (some ⟨c, 0, none⟩), .string s] w fun e w' => e = .returned (.tuple #[.int .i64 (el l i).2, .int .i64 0]) ∧ Below w.heap.size w w' := by
  obtain ⟨I, h1, h2⟩ := h.st
  have hlook := h1.map.look_ok hs
  rw [h2.has hi e] at hlook
  simp only [Option.getD_some, Option.isSome_some] at hlook
  obtain ⟨c0, c1, cf⟩ := h1.cell
  obtain ⟨g, cap, rfl, -, -, hgl, -, hcell⟩ := h1.cells (by omega)
  obtain ⟨ci0, ci1⟩ := hcell i hi
  have hlt := h1.lt
  have hii : (i : Int) < l.length := by omega
  clear h h1 h2 hs e hcell cf
  go_enter Try.func19, Try.ntmps19
  go_wp2
  go_ret2
  exact ⟨rfl, Below.refl _ _⟩
set_option maxHeartbeats 1000000 in
theorem get_none (B c : Nat) (v : Value) (m : Option Nat) (l : List Al) (s : ByteArray) (w : World) (h : Clk B w c v m l) (hs : s.size ≤ maxLen) (hn : hasN l s = false) :
    Calls Try.prog 19 #[.pointer (some ⟨c, 0, none⟩), .string s] w fun e w' => e = .returned (.tuple #[.int .i64 0, .int .i64 3]) ∧ Below w.heap.size w w' := by
  obtain ⟨I, h1, h2⟩ := h.st
  have hlook := h1.map.look_ok hs
  rw [h2.not hn] at hlook
  simp only [Option.getD_none, Option.isSome_none] at hlook
  obtain ⟨c0, c1, cf⟩ := h1.cell
  have hlt := h1.lt
  clear h h1 h2 hs hn cf
  go_enter Try.func19, Try.ntmps19
  go_wp2
  go_ret2
  exact ⟨rfl, Below.refl _ _⟩
/-- Get, at every name. -/
theorem get_any (B c : Nat) (v : Value) (m : Option Nat) (l : List Al) (s : ByteArray) (w : World) (h : Clk B w c v m l) (hs : s.size ≤ maxLen) :
    ∃ t q : Int, ((q = 0 ∧ (s, t) ∈ l) ∨ (q = 3 ∧ t = 0 ∧ hasN l s = false)) ∧ Calls Try.prog 19 #[.pointer (some ⟨c, 0, none⟩), .string s] w fun e w' => e = .returned (.tuple #[.int .i64 t, .int .i64 q]) ∧ Below w.heap.size w w' := by
  cases hh : hasN l s with
  | true =>
    obtain ⟨i, hi, e⟩ := (hasN_iff l s).1 hh
    exact ⟨_, 0, .inl ⟨rfl, by rw [← e]; exact el_mem hi⟩, get_old B c v m l s i w h hs hi e⟩
  | false => exact ⟨0, 3, .inr ⟨rfl, rfl, rfl⟩, get_none B c v m l s w h hs hh⟩
/-- What Cancel leaves. -/
def CancelR (l : List Al) (s : ByteArray) (l' : List Al) : Prop := (l'.length + (if hasN l s = true then 1 else 0) = l.length) ∧ ∀ x, x ∈ l' ↔ x ∈ l ∧ x.1 ≠ s
theorem take_mem {l : List Al} {k : Nat} (h : l.length = k + 1) (hd : ∀ i j, i < l.length → j < l.length → (el l i).1 = (el l j).1 → i = j) (x : Al) : x ∈ l.take k ↔ x ∈ l ∧ x.1 ≠ (el l k).1 := by
  constructor
  · intro hx
    obtain ⟨i, hi, rfl⟩ := mem_el hx
    have hik : i < k := by simp at hi; omega
    rw [el_take hik]
    exact ⟨el_mem (by omega), fun e => by have := hd i k (by omega) (by omega) e; omega⟩
  · rintro ⟨hx, hne⟩
    obtain ⟨i, hi, rfl⟩ := mem_el hx
    have hik : i < k := by
      have : i ≠ k := fun e => hne (by rw [e])
      omega
    rw [← el_take (l := l) hik]
    exact el_mem (by simp; omega)
theorem apart_perm {l l' : List Al} (p : l'.Perm l) (h : ∀ x ∈ l, ∀ y ∈ l, x.1 = y.1 → x = y) (hn : l.Nodup) : ∀ i j, i < l'.length → j < l'.length → (el l' i).1 = (el l' j).1 → i = j := by
  intro i j hi hj e
  have h1 := h _ (p.mem_iff.1 (el_mem hi)) _ (p.mem_iff.1 (el_mem hj)) e
  have hn' : l'.Nodup := p.symm.nodup hn
  rw [el_eq hi, el_eq hj] at h1
  exact (List.getElem_inj hn').1 h1
theorem Clk.names {B c : Nat} {w : World} {v : Value} {m : Option Nat} {l : List Al} (h : Clk B w c v m l) : (∀ x ∈ l, ∀ y ∈ l, x.1 = y.1 → x = y) ∧ l.Nodup := by
  refine ⟨fun x hx y hy e => ?_, ?_⟩
  · obtain ⟨i, hi, rfl⟩ := mem_el hx
    obtain ⟨j, hj, rfl⟩ := mem_el hy
    rw [h.inj hi hj e]
  · rw [List.nodup_iff_pairwise_ne, List.pairwise_iff_getElem]
    intro i j hi hj hij e
    have := h.inj hi hj (by rw [el_eq hi, el_eq hj, e])
    omega
set_option maxHeartbeats 1000000 in
theorem cancel_old (B c b : Nat) (v : Value) (l : List Al) (s : ByteArray) (i : Nat) (w : World) (h : Clk B w c v (some b) l) (hs : s.size ≤ maxLen) (hi : i < l.length) (e : (el l i).1 = s) :
    Calls Try.prog 15 #[.pointer (some ⟨c, 0, none⟩), .string s] w fun e w' => e = .returned (.int .i64 0) ∧ CPost B w w' c v (some b) (fun l' => l'.length + 1 = l.length ∧ ∀ x, x ∈ l' ↔ x ∈ l ∧ x.1 ≠ s) := by
  have HG := hid h
  have HS := hid hs
  have HI : Hid (i < l.length) := hi
  have HE := hid e
  clear h hs hi e
  go_enter Try.func15, Try.ntmps15
  go_wp2_with fail
  refine (get_old B c v (some b) l s i w HG.out HS.out HI.out HE.out).mono ?_
  rintro e w1 ⟨rfl, hb1⟩
  have G1 := hid (HG.out.below hb1)
  have HB1 := hid hb1
  clear hb1
  have hlook : (Instr.lookup 59 (.map (some b)) (.string s) false).run Try.prog w1 = .ok (.int .i64 i) w1 := by
    obtain ⟨I, h1, h2⟩ := G1.out.st
    have := h1.map.look HS.out
    rw [h2.has HI.out HE.out] at this
    exact this
  have c1 : w1.cell? ⟨c, 1, none⟩ = some (.map (some b)) := by
    obtain ⟨I, h1, h2⟩ := G1.out.st
    exact h1.cell.2.1
  have hlt : c < w1.heap.size := G1.out.lt
  go_wp2_with fail
  refine (hrem_g B c l.length b v l i w1 G1.out.good (by have := G1.out.len; omega) (by have := G1.out.len; omega) HI.out).mono ?_
  rintro e w2 ⟨rfl, h2⟩
  have H2 := hid h2
  clear h2 hlook c1
  go_wp2
  go_ret
  obtain ⟨v2, g2, t2, f2⟩ := H2.out
  obtain ⟨hp, pm, hlast⟩ := outL_law HI.out G1.out.hp
  have hn := G1.out.names
  have hi0 := HI.out
  have hle := G1.out.len
  have hlen : (outL l i).length = l.length := pm.length_eq
  have htk : ((outL l i).take (l.length - 1)).length = l.length - 1 := by simp; omega
  have hmem := fun x => take_mem (l := outL l i) (k := l.length - 1) (by omega) (apart_perm pm hn.1 hn.2) x
  refine ⟨rfl, v2, some b, _, Clk.of_good g2 htk.symm (by rw [htk]; exact fun k h0 hk => by rw [el_take hk, el_take (by omega)]; exact hp k h0 hk) (by omega), ⟨by omega, fun x => ?_⟩, (Tur.of_below HB1.out).then t2, fun k hk => ?_⟩
  · rw [hmem, pm.mem_iff, hlast, HE.out]
  · rcases f2 k hk with h | h
    · exact .inl h
    · right; have := HB1.out.size; omega
set_option maxHeartbeats 1000000 in
theorem cancel_none (B c : Nat) (v : Value) (m : Option Nat) (l : List Al) (s : ByteArray) (w : World) (h : Clk B w c v m l) (hs : s.size ≤ maxLen) (hn : hasN l s = false) :
    Calls Try.prog 15 #[.pointer (some ⟨c, 0, none⟩), .string s] w fun e w' => e = .returned (.int .i64 3) ∧ Below w.heap.size w w' := by
  have HG := hid h
  have HS := hid hs
  have HN := hid hn
  clear h hs hn
  go_enter Try.func15, Try.ntmps15
  go_wp2_with fail
  refine (get_none B c v m l s w HG.out HS.out HN.out).mono ?_
  rintro e w1 ⟨rfl, hb1⟩
  go_wp2
  go_ret
  exact ⟨rfl, hb1⟩
/-- Cancel, at every name. -/
theorem cancel_any (B c : Nat) (v : Value) (m : Option Nat) (l : List Al) (s : ByteArray) (w : World) (h : Clk B w c v m l) (hs : s.size ≤ maxLen) :
    Calls Try.prog 15 #[.pointer (some ⟨c, 0, none⟩), .string s] w fun e w' => e = .returned (.int .i64 (if hasN l s = true then 0 else 3)) ∧ CPost B w w' c v m (CancelR l s) := by
  unfold CancelR
  cases hh : hasN l s with
  | true =>
    obtain ⟨i, hi, e⟩ := (hasN_iff l s).1 hh
    obtain ⟨b, rfl⟩ : ∃ b, m = some b := by
      cases m with
      | none =>
        obtain ⟨I, h1, h2⟩ := h.st
        obtain ⟨-, hI⟩ : _ ∧ I = noA := h1.map
        have := h2.has hi e
        rw [hI] at this; cases this
      | some b => exact ⟨b, rfl⟩
    refine (cancel_old B c b v l s i w h hs hi e).mono ?_
    rintro e w' ⟨rfl, v', m', l', q1, q2, q3⟩
    exact ⟨rfl, v', m', l', q1, q2, q3⟩
  | false =>
    refine (cancel_none B c v m l s w h hs hh).mono ?_
    rintro e w' ⟨rfl, hb⟩
    refine ⟨rfl, CPost.same h hb ⟨by simp, fun x => ⟨fun hx => ⟨hx, fun e => ?_⟩, fun hx => hx.1⟩⟩⟩
    obtain ⟨i, hi, rfl⟩ := mem_el hx
    have := (hasN_iff l s).2 ⟨i, hi, e⟩
    rw [hh] at this; cases this
theorem infoAlS : (Try.prog.info? 34).map (·.size) = some 2 := by kernel_rfl
set_option maxHeartbeats 1000000 in
theorem next_none (B c : Nat) (v : Value) (m : Option Nat) (w : World) (h : Clk B w c v m []) :
    Calls Try.prog 20 #[.pointer (some ⟨c, 0, none⟩)] w fun e w' => e = .returned (.tuple #[.agg #[.string ByteArray.empty, .int .i64 0], .int .i64 3]) ∧ Below w.heap.size w w' := by
  have HG := hid h
  clear h
  go_enter Try.func20, Try.ntmps20
  go_wp2_with fail
  refine (lenc_any B c v m [] _ (HG.out.below (below_alloc (Below.refl _ _) _))).mono ?_
  rintro e w1 ⟨rfl, hb1⟩
  have A1 := below_at hb1 (n := w.heap.size) (by first | omega | (simp; done) | (simp; omega)) (by (repeat (first | (with_reducible assumption) | (with_reducible exact alloc_at _ _) | ((with_reducible apply alloc_at'); (simp; done)) | (with_reducible apply alloc_at_lt) | (with_reducible apply heap_drew_at) | (with_reducible apply heap_drewN_at) | (with_reducible apply heap_setCell_same) | ((with_reducible apply heap_set_ne); (first | omega | (dsimp only; omega) | (simp; done) | (simp; omega))) | (with_reducible apply setRow_at) | ((with_reducible apply setRow_ne); (first | omega | (dsimp only; omega) | (simp; done) | (simp; omega))))))
  have B1 : Below w.heap.size w w1 := Below.trans (by repeat (first | with_reducible assumption | with_reducible exact Below.refl _ _ | with_reducible refine Below.drew ?_ | with_reducible refine below_drewN ?_ _ | with_reducible refine below_alloc ?_ _ | with_reducible refine Below.alloc ?_ (by first | omega | (simp; done) | (simp; omega)) _ | with_reducible refine Below.setCell ?_ (by first | omega | (simp; done) | (simp; omega)) _ | with_reducible refine below_setRow ?_ (by first | omega | (simp; done) | (simp; omega)) _)) (hb1.mono (by first | omega | (simp; done) | (simp; omega)))
  obtain ⟨a0, a1, af⟩ := two A1
  have la := lt_of_at A1
  clear hb1
  rw [show (Value.int .i64 ((([] : List Al).length : Nat) : Int)) = .int .i64 0 from rfl]
  go_wp2
  all_goals
    refine ret_row2 rfl w.heap.size #[.string ByteArray.empty, .int .i64 0] 34 _ rfl Try.underlying34 rfl infoAlS rfl (by apply Exists.intro; refine ⟨?_, ?_⟩; (focus ((repeat (first | (with_reducible assumption) | (with_reducible exact alloc_at _ _) | ((with_reducible apply alloc_at'); (simp; done)) | (with_reducible apply alloc_at_lt) | (with_reducible apply heap_drew_at) | (with_reducible apply heap_drewN_at) | (with_reducible apply heap_setCell_same) | ((with_reducible apply heap_set_ne); (first | omega | (dsimp only; omega) | (simp; done) | (simp; omega))) | (with_reducible apply setRow_at) | ((with_reducible apply setRow_ne); (first | omega | (dsimp only; omega) | (simp; done) | (simp; omega))))))); first | rfl | (simp; done) | (simp; rfl)) ⟨rfl, (by repeat (first | with_reducible assumption | with_reducible exact Below.refl _ _ | with_reducible refine Below.drew ?_ | with_reducible refine below_drewN ?_ _ | with_reducible refine below_alloc ?_ _ | with_reducible refine Below.alloc ?_ (by first | omega | (simp; done) | (simp; omega)) _ | with_reducible refine Below.setCell ?_ (by first | omega | (simp; done) | (simp; omega)) _ | with_reducible refine below_setRow ?_ (by first | omega | (simp; done) | (simp; omega)) _))⟩
set_option maxHeartbeats 1000000 in
theorem next_some (B c : Nat) (v : Value) (m : Option Nat) (l : List Al) (w : World) (h : Clk B w c v m l) (h0 : 0 < l.length) :
    Calls Try.prog 20 #[.pointer (some ⟨c, 0, none⟩)] w fun e w' => e = .returned (.tuple #[.agg #[.string (el l 0).1, .int .i64 (el l 0).2], .int .i64 0]) ∧ Below w.heap.size w w' := by
  have HG := hid h
  have H0 : Hid (0 < l.length) := h0
  clear h h0
  go_enter Try.func20, Try.ntmps20
  go_wp2_with fail
  refine (lenc_any B c v m l _ (HG.out.below (below_alloc (Below.refl _ _) _))).mono ?_
  rintro e w1 ⟨rfl, hb1⟩
  have A1 := below_at hb1 (n := w.heap.size) (by first | omega | (simp; done) | (simp; omega)) (by (repeat (first | (with_reducible assumption) | (with_reducible exact alloc_at _ _) | ((with_reducible apply alloc_at'); (simp; done)) | (with_reducible apply alloc_at_lt) | (with_reducible apply heap_drew_at) | (with_reducible apply heap_drewN_at) | (with_reducible apply heap_setCell_same) | ((with_reducible apply heap_set_ne); (first | omega | (dsimp only; omega) | (simp; done) | (simp; omega))) | (with_reducible apply setRow_at) | ((with_reducible apply setRow_ne); (first | omega | (dsimp only; omega) | (simp; done) | (simp; omega))))))
  have B1 : Below w.heap.size w w1 := Below.trans (by repeat (first | with_reducible assumption | with_reducible exact Below.refl _ _ | with_reducible refine Below.drew ?_ | with_reducible refine below_drewN ?_ _ | with_reducible refine below_alloc ?_ _ | with_reducible refine Below.alloc ?_ (by first | omega | (simp; done) | (simp; omega)) _ | with_reducible refine Below.setCell ?_ (by first | omega | (simp; done) | (simp; omega)) _ | with_reducible refine below_setRow ?_ (by first | omega | (simp; done) | (simp; omega)) _)) (hb1.mono (by first | omega | (simp; done) | (simp; omega)))
  obtain ⟨a0, a1, af⟩ := two A1
  have la := lt_of_at A1
  have G1 := HG.out.below B1
  obtain ⟨I, h1, h2⟩ := G1.st
  obtain ⟨g, cap, rfl, -, -, hgl, -, hcell⟩ := h1.cells H0.out
  obtain ⟨c0, -⟩ := h1.cell
  obtain ⟨ci0, ci1⟩ := hcell 0 H0.out
  have hlt := h1.lt
  have hl0 : (0 : Int) < l.length := by have := H0.out; omega
  have hl1 : ((l.length : Int) == 0) = false := by simp; intro e; simp [e] at hl0
  simp only [Nat.zero_mul, Nat.zero_add] at ci0 ci1
  clear hb1 G1 h1 h2 hcell
  go_wp2
  all_goals
    refine ret_row2 rfl w.heap.size #[.string (el l 0).1, .int .i64 (el l 0).2] 34 _ rfl Try.underlying34 rfl infoAlS rfl (by apply Exists.intro; refine ⟨?_, ?_⟩; (focus ((repeat (first | (with_reducible assumption) | (with_reducible exact alloc_at _ _) | ((with_reducible apply alloc_at'); (simp; done)) | (with_reducible apply alloc_at_lt) | (with_reducible apply heap_drew_at) | (with_reducible apply heap_drewN_at) | (with_reducible apply heap_setCell_same) | ((with_reducible apply heap_set_ne); (first | omega | (dsimp only; omega) | (simp; done) | (simp; omega))) | (with_reducible apply setRow_at) | ((with_reducible apply setRow_ne); (first | omega | (dsimp only; omega) | (simp; done) | (simp; omega))))))); simp) ⟨rfl, (by repeat (first | with_reducible assumption | with_reducible exact Below.refl _ _ | with_reducible refine Below.drew ?_ | with_reducible refine below_drewN ?_ _ | with_reducible refine below_alloc ?_ _ | with_reducible refine Below.alloc ?_ (by first | omega | (simp; done) | (simp; omega)) _ | with_reducible refine Below.setCell ?_ (by first | omega | (simp; done) | (simp; omega)) _ | with_reducible refine below_setRow ?_ (by first | omega | (simp; done) | (simp; omega)) _))⟩
end Go.Proofs.Ytacffoobeebleaa
