/- Two clocks side by side; rows of alarms that grow by what Due gives. -/
import Derived.Test.YtacffoobeebleaaTimE
import Derived.Test.YtacffoobeebleaaTimQ
namespace Go.Proofs.Ytacffoobeebleaa
open Go.RowKit
theorem flatT_one (l : List Al) : ∀ u ∈ flatT l, u.oneCell' = true := by
  induction l with
  | nil => intro u h; simp [flatT] at h
  | cons v l ih =>
    intro u h
    simp only [flatT, List.mem_append] at h
    rcases h with h | h
    · exact cellsT_one v u h
    · exact ih u h
/-- Some alarms that lie somewhere are appended to a row. -/
theorem app_als {B : Nat} {W : World} {v : Value} {l l' : List Al} {c : Nat} (hB : B ≤ W.heap.size) (hown : W.ownsRow B 34 2 v l.length (flatT l)) (hm : l.length + l'.length ≤ 100000) (ty : TypeId) (ad : Addr) (had : ∀ j u, (flatT l')[j]? = some u → W.cell? (ad.add j) = some u) :
    ∃ v' w', (Builtin.append_ #[31, 31] ty #[v, .slice (some ad) l'.length c]).run Try.prog W = .ok v' w' ∧ w'.ownsRow B 34 2 v' (l ++ l').length (flatT (l ++ l')) ∧ W.grownBy w' v.ownBlock ∧ (v'.ownBlock = v.ownBlock ∨ v'.ownBlock = some W.heap.size) := by
  obtain ⟨i0, hi, hz0, hz1, hz2⟩ := info_al
  obtain ⟨v', w', h1, h2, h3, -, h7⟩ := run_append_own_at (P := Try.prog) W B 31 ty 34 i0 _ 2 24 Try.underlying31 hi hz0 hz1 hz2 rfl (by omega) _ l.length (flatT l) hown ad l'.length c (flatT l') (flatT_length l') had (flatT_one l') (by unfold maxLen; omega) (by omega) hB
  refine ⟨v', w', h1, ?_, h3, h7⟩
  rw [List.length_append, flatT_append]
  exact h2
theorem addr_add (b o i : Nat) : (⟨b, o, none⟩ : Addr).add i = ⟨b, o + i, none⟩ := by unfold Addr.add; split <;> simp_all
/-- A row is appended to a row. -/
theorem app_row {B B' : Nat} {W : World} {v vo : Value} {l out : List Al} (hB : B ≤ W.heap.size) (hown : W.ownsRow B 34 2 v l.length (flatT l)) (hsrc : W.ownsRow B' 34 2 vo out.length (flatT out)) (hm : l.length + out.length ≤ 100000) (ty : TypeId) :
    ∃ v' w', (Builtin.append_ #[31, 31] ty #[v, vo]).run Try.prog W = .ok v' w' ∧ w'.ownsRow B 34 2 v' (l ++ out).length (flatT (l ++ out)) ∧ W.grownBy w' v.ownBlock ∧ (v'.ownBlock = v.ownBlock ∨ v'.ownBlock = some W.heap.size) := by
  obtain ⟨hx, ⟨rfl, h0⟩ | ⟨g, cap, cur, rfl, hg, hh, h1, h2, h3, h4⟩⟩ := hsrc
  · obtain rfl : out = [] := List.length_eq_zero_iff.1 h0
    obtain ⟨i0, hi, hz0, hz1, hz2⟩ := info_al
    exact ⟨v, W, run_append_owned_none W B 31 ty 34 i0 2 Try.underlying31 hi v l.length (flatT l) hown, by simpa using hown, ⟨rfl, rfl, rfl, Nat.le_refl _, fun _ _ _ => rfl⟩, .inl rfl⟩
  · refine app_als hB hown hm ty ⟨g, 0, none⟩ (fun j u hj => ?_)
    rw [addr_add, Nat.zero_add, blk_cell hh]
    rw [← h4, List.getElem?_take] at hj
    split at hj
    · simpa using hj
    · cases hj
/-- A row that grows beside a clock. -/
structure RowM (B : Nat) (w wr : World) (c : Nat) (v0 : Value) (m0 : Option Nat) (vo : Value) (v : Value) (m : Option Nat) (out l : List Al) : Prop where
  clk : Clk B wr c v m l
  row : wr.ownsRow w.heap.size 34 2 vo out.length (flatT out)
  apart : ∀ g, vo.ownBlock = some g → ¬ Foot c v m g
  tur : Tur (Foot c v0 m0) w wr
  foot : ∀ k, Foot c v m k → Foot c v0 m0 k ∨ w.heap.size ≤ k
theorem DueM.rowM {B c : Nat} {w wr : World} {v0 vo v : Value} {m0 m : Option Nat} {now : Int} {l0 out l : List Al} (h : DueM B w wr c v0 m0 now l0 vo v m out l) : RowM B w wr c v0 m0 vo v m out l := ⟨h.clk, h.row, h.apart, h.tur, h.foot⟩
theorem RowM.below {B c : Nat} {w wr w' : World} {v0 vo v : Value} {m0 m : Option Nat} {out l : List Al} (h : RowM B w wr c v0 m0 vo v m out l) (hb : Below wr.heap.size wr w') : RowM B w w' c v0 m0 vo v m out l :=
  ⟨h.clk.below hb, ownsRow_at h.row (fun g hg => hb.block g (h.row.lt g hg).2), h.apart, h.tur.then (Tur.of_below hb), h.foot⟩
/-- What Due gives is appended to the row. -/
theorem RowM.append {B c : Nat} {w wr w2 : World} {v0 vo v vd v2 : Value} {m0 m m2 : Option Nat} {now : Int} {out l od l2 : List Al} (h : RowM B w wr c v0 m0 vo v m out l) (d : DueM B wr w2 c v m now l vd v2 m2 od l2) (hm : out.length + od.length ≤ 100000) (ty : TypeId) :
    ∃ v' w', (Builtin.append_ #[31, 31] ty #[vo, vd]).run Try.prog w2 = .ok v' w' ∧ RowM B w w' c v0 m0 v' v2 m2 (out ++ od) l2 := by
  have hrow2 : w2.ownsRow w.heap.size 34 2 vo out.length (flatT out) := ownsRow_at h.row (fun g hg => d.tur.kept g (h.row.lt g hg).2 (h.apart g hg))
  have hap : ∀ g, vo.ownBlock = some g → ¬ Foot c v2 m2 g := fun g hg hf => by
    rcases d.foot g hf with h1 | h1
    · exact h.apart g hg h1
    · have := (h.row.lt g hg).2; omega
  obtain ⟨v', w', hrun, hrow, hG, hv⟩ := app_row (B := w.heap.size) (Nat.le_trans h.tur.size d.tur.size) hrow2 d.row hm ty
  refine ⟨v', w', hrun, d.clk.at hG.size (fun k hk => hG.block k (d.clk.foot hk).2 (fun e => hap k e.symm hk)), hrow, ?_, ?_, fun k hk => ?_⟩
  · intro g hg hf
    rcases hv with e | e
    · exact hap g (by rw [← e]; exact hg) hf
    · rw [e] at hg
      cases hg
      have := (d.clk.foot hf).2
      omega
  · exact (h.tur.trans d.tur h.foot).trans (Tur.of_grown (F := fun k => vo.ownBlock = some k) hG (fun k e => .inl e)) (fun i hi => .inr (h.row.lt i hi).1)
  · rcases d.foot k hk with h1 | h1
    · exact h.foot k h1
    · right; have := h.tur.size; omega
/-- Two clocks, set alike. -/
structure TwoM (B : Nat) (wr : World) (ca cb : Nat) (va vb : Value) (ma mb : Option Nat) (la lb : List Al) : Prop where
  a : Clk B wr ca va ma la
  b : Clk B wr cb vb mb lb
  apart : ∀ k, Foot ca va ma k → ¬ Foot cb vb mb k
  mem : ∀ x, x ∈ la ↔ x ∈ lb
  len : la.length = lb.length
theorem TwoM.below {B : Nat} {wr w' : World} {ca cb : Nat} {va vb : Value} {ma mb : Option Nat} {la lb : List Al} (h : TwoM B wr ca cb va vb ma mb la lb) (hb : Below wr.heap.size wr w') : TwoM B w' ca cb va vb ma mb la lb :=
  ⟨h.a.below hb, h.b.below hb, h.apart, h.mem, h.len⟩
/-- The same is set in both. -/
theorem TwoM.set {B : Nat} {w0 w1 w2 : World} {ca cb : Nat} {va vb va' vb' : Value} {ma mb ma' mb' : Option Nat} {la lb la' lb' : List Al} {s : ByteArray} {t : Int} (h : TwoM B w0 ca cb va vb ma mb la lb)
    (ka : Clk B w1 ca va' ma' la') (qa : SetR la s t la') (_ta : Tur (Foot ca va ma) w0 w1) (fa : ∀ k, Foot ca va' ma' k → Foot ca va ma k ∨ w0.heap.size ≤ k)
    (kb : Clk B w2 cb vb' mb' lb') (qb : SetR lb s t lb') (tb : Tur (Foot cb vb mb) w1 w2) (fb : ∀ k, Foot cb vb' mb' k → Foot cb vb mb k ∨ w1.heap.size ≤ k) : TwoM B w2 ca cb va' vb' ma' mb' la' lb' := by
  have h1 : ∀ k, Foot ca va' ma' k → ¬ Foot cb vb mb k := fun k hk hf => by
    rcases fa k hk with h2 | h2
    · exact h.apart k h2 hf
    · have := (h.b.foot hf).2; omega
  obtain ⟨q1, q2⟩ := setR_same h.mem h.len qa qb
  refine ⟨ka.tur tb h1, kb, fun k hk hf => ?_, q1, q2⟩
  rcases fb k hf with h2 | h2
  · exact h1 k hk h2
  · have := (ka.foot hk).2; omega
end Go.Proofs.Ytacffoobeebleaa
