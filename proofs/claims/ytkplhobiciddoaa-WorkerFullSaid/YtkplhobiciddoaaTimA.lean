/- Contract of chapter 10's Due: what rings by now comes out in order, the rest stays. -/
import Derived.Test.YtkplhobiciddoaaTim9
namespace Go.Proofs.Ytkplhobiciddoaa
open Go.RowKit
/-- Due under way: out has come out, l is left, of l0. -/
structure DueI (now : Int) (l0 out l : List Al) : Prop where
  sorted : out.Pairwise (fun x y => ltA x y = true)
  due : ∀ x ∈ out, x.2 ≤ now
  ahead : ∀ x ∈ out, ∀ y ∈ l, ltA x y = true
  mem : ∀ x, x ∈ l0 ↔ x ∈ out ∨ x ∈ l
  len : out.length + l.length = l0.length
/-- What Due gives and leaves. -/
structure DueR (now : Int) (l0 out l : List Al) : Prop where
  sorted : out.Pairwise (fun x y => ltA x y = true)
  out_iff : ∀ x, x ∈ out ↔ x ∈ l0 ∧ x.2 ≤ now
  left_iff : ∀ x, x ∈ l ↔ x ∈ l0 ∧ ¬ x.2 ≤ now
  len : out.length + l.length = l0.length
theorem DueI.start (now : Int) (l : List Al) : DueI now l [] l := ⟨.nil, (fun _ h => nomatch h), (fun _ h => nomatch h), (fun x => by simp), by simp⟩
theorem DueI.step {now : Int} {l0 out l l' : List Al} (h : DueI now l0 out l) (h0 : 0 < l.length) (hr : ∀ y ∈ l, ltA y (el l 0) = false) (hn : (el l 0).2 ≤ now) (hlen : l'.length + 1 = l.length)
    (hm : ∀ x, x ∈ l' ↔ x ∈ l ∧ x.1 ≠ (el l 0).1) (hu : ∀ x ∈ l, ∀ y ∈ l, x.1 = y.1 → x = y) : DueI now l0 (out ++ [el l 0]) l' := by
  have h00 := el_mem h0
  refine ⟨?_, ?_, ?_, fun x => ?_, ?_⟩
  · rw [List.pairwise_append]
    refine ⟨h.sorted, List.pairwise_singleton _ _, fun x hx y hy => ?_⟩
    rw [List.mem_singleton] at hy; subst hy
    exact h.ahead x hx _ h00
  · intro x hx
    rcases List.mem_append.1 hx with hx | hx
    · exact h.due x hx
    · rw [List.mem_singleton] at hx; subst hx; exact hn
  · intro x hx y hy
    obtain ⟨hy1, hy2⟩ := (hm y).1 hy
    rcases List.mem_append.1 hx with hx | hx
    · exact h.ahead x hx y hy1
    · rw [List.mem_singleton] at hx; subst hx
      cases e : ltA (el l 0) y
      · exact absurd (by rw [ltA_tri (hr y hy1) e]) hy2
      · rfl
  · rw [h.mem, List.mem_append, List.mem_singleton, hm]
    constructor
    · rintro (hx | hx)
      · exact .inl (.inl hx)
      · by_cases e : x.1 = (el l 0).1
        · exact .inl (.inr (hu x hx _ h00 e))
        · exact .inr ⟨hx, e⟩
    · rintro ((hx | rfl) | ⟨hx, -⟩)
      · exact .inl hx
      · exact .inr h00
      · exact .inr hx
  · have := h.len
    simp; omega
theorem DueI.end_ {now : Int} {l0 out l : List Al} (h : DueI now l0 out l) (hl : ∀ y ∈ l, ¬ y.2 ≤ now) : DueR now l0 out l := by
  refine ⟨h.sorted, fun x => ?_, fun x => ?_, h.len⟩
  · rw [h.mem]
    constructor
    · intro hx; exact ⟨.inl hx, h.due x hx⟩
    · rintro ⟨hx | hx, hn⟩
      · exact hx
      · exact absurd hn (hl x hx)
  · rw [h.mem]
    constructor
    · intro hx; exact ⟨.inr hx, hl x hx⟩
    · rintro ⟨hx | hx, hn⟩
      · exact absurd (h.due x hx) hn
      · exact hx
theorem root_late {l : List Al} {now : Int} (hr : ∀ y ∈ l, ltA y (el l 0) = false) (hn : ¬ (el l 0).2 ≤ now) : ∀ y ∈ l, ¬ y.2 ≤ now := by
  intro y hy e
  have h1 := hr y hy
  have : ltA y (el l 0) = true := by rw [ltA_iff]; left; omega
  rw [h1] at this; cases this
theorem Clk.root {zn : Value} {B c : Nat} {w : World} {v : Value} {m : Option Nat} {l : List Al} (h : Clk B w c zn v m l) : ∀ y ∈ l, ltA y (el l 0) = false := by
  intro y hy
  obtain ⟨i, hi, rfl⟩ := mem_el hy
  exact h.hp.root i hi
/-- How many alarms the clock's slice has. -/
def clkLen (w : World) (c : Nat) : Nat := match w.cell? ⟨c, 1, none⟩ with | some (.slice _ n _) => n | _ => 0
theorem Clk.clkLen {zn : Value} {B c : Nat} {w : World} {v : Value} {m : Option Nat} {l : List Al} (h : Clk B w c zn v m l) : clkLen w c = l.length := by
  obtain ⟨I, h1, -⟩ := h.st
  obtain ⟨A, cap, rfl⟩ := h1.slice
  unfold Go.Proofs.Ytkplhobiciddoaa.clkLen
  rw [h1.cell.1]
/-- Due under way, in memory. -/
structure DueM (B : Nat) (w wr : World) (c : Nat) (zn : Value) (v0 : Value) (m0 : Option Nat) (now : Int) (l0 : List Al) (vo : Value) (v : Value) (m : Option Nat) (out l : List Al) : Prop where
  clk : Clk B wr c zn v m l
  row : wr.ownsRow w.heap.size 71 2 vo out.length (flatT out)
  apart : ∀ g, vo.ownBlock = some g → ¬ Foot c v m g
  tur : Tur (Foot c v0 m0) w wr
  foot : ∀ k, Foot c v m k → Foot c v0 m0 k ∨ w.heap.size ≤ k
  due : DueI now l0 out l
theorem row_slice {w : World} {B n : Nat} {v : Value} {t : TypeId} {xs : List Value} {z : Nat} (h : w.ownsRow B t z v n xs) : ∃ A cap, v = .slice A n cap := by
  obtain ⟨-, ⟨rfl, h0⟩ | ⟨g, cap, cur, rfl, _⟩⟩ := h
  · exact ⟨none, 0, by rw [h0]⟩
  · exact ⟨_, cap, rfl⟩
theorem DueM.below {zn : Value} {B c : Nat} {w wr w' : World} {v0 vo v : Value} {m0 m : Option Nat} {now : Int} {l0 out l : List Al} (h : DueM B w wr c zn v0 m0 now l0 vo v m out l) (hb : Below wr.heap.size wr w') : DueM B w w' c zn v0 m0 now l0 vo v m out l :=
  ⟨h.clk.below hb, ownsRow_at h.row (fun g hg => hb.block g (h.row.lt g hg).2), h.apart, h.tur.then (Tur.of_below hb), h.foot, h.due⟩
theorem wpList_append_eq {P : Program} {w : World} {ops : Array Oper} {rest : List Oper} {o : Oper} {a : Act} {Q : Exit → Act → World → Prop} {v' : Value} {w' : World} (hgd : o.guard = none) (s x : Operand) (t : TypeId)
    (ho : o.op = .call { callee := .builtin .append, args := #[s, x], argTypes := #[t, t] }) {v y : Value} (hs : a.eval s = v) (hx : a.eval x = y) (hr : (Builtin.append_ #[t, t] o.type #[v, y]).run P w = .ok v' w')
    (h : wpList P ops Q rest (a.put o.dst v') w') : wpList P ops Q (o :: rest) a w := by
  refine wpList_plain hgd fun K hK => ?_
  unfold Oper.wp execOp
  simp only [ho, resolve, invoke, builtin, Sem.run_bind, Sem.run_pure, Result.andThen_ok, List.map_toArray, List.map_cons, List.map_nil, hs, hx, hr]
  exact hK _ _ h
set_option maxRecDepth 20000 in
set_option maxHeartbeats 2000000 in
theorem due_any {zn : Value} (B c : Nat) (v : Value) (m : Option Nat) (l : List Al) (now : Int) (w : World) (h : Clk B w c zn v m l) :
    Calls Try.prog 25 #[.pointer (some ⟨c, 1, none⟩), .int .i64 now] w fun e w' => ∃ vo v' m' out l', e = .returned vo ∧ DueM B w w' c zn v m now l vo v' m' out l' ∧ DueR now l out l' := by
  have HG := hid h
  clear h
  go_enter Try.func25, Try.ntmps25
  go_wp2
  go_loopw [5] (fun s wr => ∃ vo, vo = s ∧ Hid (∃ v' m' out l', DueM B w wr c zn v m now l vo v' m' out l')) (fun _ wr => clkLen wr c)
  case atStart => exact ⟨_, rfl, v, m, [], l, HG.out, ⟨rfl, .inl ⟨rfl, rfl⟩⟩, (fun g e => nomatch e), Tur.refl _ _, fun k hk => .inl hk, DueI.start _ _⟩
  case round =>
    obtain ⟨vo, rfl, hrel⟩ := hrel
    obtain ⟨v1, m1, out, l1, D⟩ := hrel.out
    have HD := hid D
    clear hrel D
    go_wp2_with fail
    refine (lenc_any B c v1 m1 l1 wr HD.out.clk).mono ?_
    rintro e w1 ⟨rfl, hb1⟩
    have D1 := hid (HD.out.below hb1)
    have HB1 := hid hb1
    clear hb1
    rcases Nat.eq_zero_or_pos l1.length with h0 | h0
    · obtain rfl : l1 = [] := List.length_eq_zero_iff.1 h0
      rw [show (Value.int .i64 ((([] : List Al).length : Nat) : Int)) = .int .i64 0 from rfl]
      go_wp2
      go_ret
      exact ⟨_, _, _, _, _, rfl, D1.out, D1.out.due.end_ (fun _ h => nomatch h)⟩
    · have H0 := hid h0
      obtain ⟨b, rfl⟩ : ∃ b, m1 = some b := by
        cases m1 with
        | none =>
          obtain ⟨I, h1, h2⟩ := D1.out.clk.st
          obtain ⟨hn0, -⟩ : l1.length = 0 ∧ I = noA := h1.map
          omega
        | some b => exact ⟨b, rfl⟩
      obtain ⟨g, cap, hv, hgl, c0, ci1⟩ : ∃ g cap, v1 = .slice (some ⟨g, 0, none⟩) l1.length cap ∧ g < w1.heap.size ∧ w1.cell? ⟨c, 1, none⟩ = some (.slice (some ⟨g, 0, none⟩) l1.length cap) ∧ w1.cell? ⟨g, 1, none⟩ = some (.int .i64 (el l1 0).2) := by
        obtain ⟨I, h1, h2⟩ := D1.out.clk.st
        obtain ⟨g, cap, hv, -, -, hgl, -, hcell⟩ := h1.cells h0
        refine ⟨g, cap, hv, hgl, by rw [← hv]; exact h1.cell.1, ?_⟩
        have := (hcell 0 h0).2
        simpa using this
      have hlt := D1.out.clk.lt
      have hl0 : (0 : Int) < l1.length := by omega
      clear hv
      by_cases hnow : (el l1 0).2 ≤ now
      · have tA := fun w => tassert (.agg #[.string (el l1 0).1, .int .i64 (el l1 0).2]) w
        have HN := hid hnow
        go_wp2_with fail
        refine (hpop_g B c l1.length b v1 l1 w1 D1.out.clk.good (by have := D1.out.clk.len; omega) (by have := D1.out.clk.len; omega) h0).mono ?_
        obtain ⟨hp, pm, hlast⟩ := popL_law h0 D1.out.clk.hp
        rw [hlast]
        rintro e w2 ⟨rfl, v2, g2, t2, f2⟩
        have hlen := pm.length_eq
        have htk : ((popL l1).take (l1.length - 1)).length = l1.length - 1 := by simp; omega
        have hn := D1.out.clk.names
        have hmem := fun x => take_mem (l := popL l1) (k := l1.length - 1) (by omega) (apart_perm pm hn.1 hn.2) x
        have C2 : Clk B w2 c zn v2 (some b) ((popL l1).take (l1.length - 1)) := Clk.of_good g2 htk.symm (by rw [htk]; exact fun k h0 hk => by rw [el_take hk, el_take (by omega)]; exact hp k h0 hk) (by have := D1.out.clk.len; omega)
        have DI : DueI now l (out ++ [el l1 0]) ((popL l1).take (l1.length - 1)) := D1.out.due.step h0 D1.out.clk.root hnow (by omega) (fun x => by rw [hmem, pm.mem_iff, hlast]) hn.1
        have R2 : w2.ownsRow w.heap.size 71 2 vo out.length (flatT out) := ownsRow_at D1.out.row (fun g hg => t2.kept g (D1.out.row.lt g hg).2 (D1.out.apart g hg))
        have hrow2 := R2.lt
        have hbW : w.heap.size ≤ w2.heap.size := Nat.le_trans D1.out.tur.size t2.size
        have hol : out.length ≤ 100000 := by
          have := D1.out.due.len
          have := HG.out.len
          omega
        obtain ⟨g', cap', w4, happ, hown4, hG4, hgc⟩ := app_al (B := w.heap.size) (W := w2.alloc (.cells #[.string (el l1 0).1, .int .i64 (el l1 0).2] 71)) (by simp; omega) (ownsRow_at (w' := w2.alloc (.cells #[.string (el l1 0).1, .int .i64 (el l1 0).2] 71)) R2 (fun g hg => Below.heap_alloc _ _ _ (hrow2 g hg).2)) hol 58 (el l1 0) ⟨w2.heap.size, 0, none⟩ (World.news_of_block (alloc_at w2 _))
        have DM : Hid (DueM B w w4 c zn v m now l (.slice (some ⟨g', 0, none⟩) (out.length + 1) cap') v2 (some b) (out ++ [el l1 0]) ((popL l1).take (l1.length - 1))) := by
          have hap2 : ∀ g, vo.ownBlock = some g → ¬ Foot c v2 (some b) g := fun g hg hf => by
            rcases f2 g hf with h | h
            · exact D1.out.apart g hg h
            · have := (D1.out.row.lt g hg).2; omega
          refine ⟨C2.at (by have := hG4.size; simp at this; omega) (fun k hk => ?_), by rw [show (out ++ [el l1 0]).length = out.length + 1 by simp]; exact hown4, ?_, ?_, ?_, DI⟩
          · rw [hG4.block k (by have := (C2.foot hk).2; simp; omega) (fun e => hap2 k e.symm hk)]
            exact Below.heap_alloc _ _ _ (C2.foot hk).2
          · intro g hg hf
            cases hg
            rcases hgc with h | h
            · exact hap2 _ h hf
            · have h5 : g' < w2.heap.size := (C2.foot hf).2
              simp at h; omega
          · exact ((D1.out.tur.trans t2 D1.out.foot).then (Tur.of_below (below_alloc (Below.refl _ _) _))).trans (Tur.of_grown (F := fun k => vo.ownBlock = some k) hG4 (fun k e => .inl e)) (fun i hi => .inr (hrow2 i hi).1)
          · intro k hk
            rcases f2 k hk with h | h
            · exact D1.out.foot k h
            · right; have := D1.out.tur.size; omega
        have HAPP := hid happ
        clear happ hown4 hG4 hgc C2 DI R2 hrow2 g2 t2 f2 hp pm hlast hmem hn htk hlen hol hnow
        have HLT : Hid (((popL l1).take (l1.length - 1)).length < l1.length) := by unfold Hid; simp; omega
        go_wp2_with (at_builtin; refine wpList_append_eq rfl _ _ _ rfl rfl rfl HAPP.out ?_)
        go_roundw
        case rel => exact ⟨_, rfl, _, _, _, _, DM.out⟩
        case measure =>
          rw [DM.out.clk.clkLen, HD.out.clk.clkLen]
          exact HLT.out
      · have hn' := hid (root_late D1.out.clk.root hnow)
        go_wp2
        go_ret
        exact ⟨_, _, _, _, _, rfl, D1.out, D1.out.due.end_ (fun y hy => by have := hn'.out y hy; omega)⟩
end Go.Proofs.Ytkplhobiciddoaa
