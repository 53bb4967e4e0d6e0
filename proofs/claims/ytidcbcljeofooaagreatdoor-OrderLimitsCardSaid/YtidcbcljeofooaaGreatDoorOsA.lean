/- Chapter 20: what is alike is told alike: lists of numbers, vectors and names; jobs; commands. -/
import Derived.Test.YtidcbcljeofooaaGreatDoorOrL
namespace Go.Proofs.YtidcbcljeofooaaGreatDoor
open Go.RowKit Go.WideShapes
variable {w w' : World}
theorem slS_at {W : World} {A : Option Addr} {n i : Nat} {l : List ByteArray} (h : SlG 1 fS w A n l) (hb : Below w.heap.size w W) (hi : i < l.length) : ∃ b off, A = some ⟨b, off, none⟩ ∧ b < W.heap.size ∧ W.cell? ⟨b, off + i, none⟩ = some (.string (l.getD i ⟨#[]⟩)) := by
  obtain ⟨b, off, e, hlt, hc⟩ := h.one hb (List.getElem?_eq_getElem hi)
  refine ⟨b, off, e, hlt, ?_⟩
  have := hc 0 (by omega)
  rw [Nat.mul_one, Nat.add_zero] at this
  rw [this]
  show some (fS _ 0) = _
  unfold fS
  rw [List.getD_eq_getElem?_getD, List.getElem?_eq_getElem hi]; rfl
set_option maxHeartbeats 2000000 in
theorem same_ints {A A2 : Option Addr} {n n2 : Nat} {zs : List Int} (c c2 : Nat) (h : SlG 1 fZ w A n zs) (h2 : SlG 1 fZ w A2 n2 zs) (hn : n ≤ 140737488355328) : Calls Tryz.prog 62 #[.slice A n c, .slice A2 n2 c2] w fun e w' => e = .returned (.bool true) ∧ Below w.heap.size w w' := by
  obtain rfl : n = n2 := h.1.trans h2.1.symm
  have hnb : (n : Int) ≤ 140737488355328 := by omega
  have HL := hid h.1
  have HS := hid h
  have HT := hid h2
  clear h h2 hn
  go_enter Tryz.func62, Tryz.ntmps62
  go_wp2_with fail
  go_loopw [5] (fun iv wr => ∃ i : Nat, i ≤ n ∧ iv = .int .i64 i ∧ Hid (Below w.heap.size w wr)) (fun iv _ => n - (intOf iv).toNat)
  case atStart => exact ⟨0, Nat.zero_le _, rfl, hid (Below.refl _ _)⟩
  case round =>
    obtain ⟨i, hi, rfl, HB⟩ := hrel
    by_cases hin : i < n
    · have HK1 : Hid (i + 1 ≤ n) := hin
      have HMS : Hid (n - (i + 1) < n - i) := by unfold Hid; omega
      have hii : (i : Int) < (n : Int) := by omega
      have hil : i < zs.length := by have := HL.out; unfold Hid at this; omega
      obtain ⟨b, off, rfl, hl, c0⟩ := slZ_at HS.out HB.out hil
      obtain ⟨b2, off2, rfl, hl2, c1⟩ := slZ_at HT.out HB.out hil
      obtain ⟨z, hz⟩ : ∃ z, z = zs.getD i 0 := ⟨_, rfl⟩
      rw [← hz] at c0 c1
      have hz1 : (z != z) = false := by simp
      have hz2 : (z == z) = true := by simp
      have HB2 : Hid (Below w.heap.size w wr.drew) := HB.out.drew
      clear hin hi hz hil
      go_upto_region 6 with (fail)
      go_region
      go_wp2
      go_roundw
      case rel => exact ⟨i + 1, HK1.out, by go_num, HB2⟩
      case measure => have := HMS.out; simp [intOf]; omega
    · have hii : ¬ (i : Int) < (n : Int) := by omega
      clear hi hin
      go_wp2
      go_ret
      exact ⟨rfl, HB.out⟩
set_option maxHeartbeats 2000000 in
theorem same_strs {A A2 : Option Addr} {n n2 : Nat} {zs : List ByteArray} (c c2 : Nat) (h : SlG 1 fS w A n zs) (h2 : SlG 1 fS w A2 n2 zs) (hn : n ≤ 140737488355328) : Calls Tryz.prog 64 #[.slice A n c, .slice A2 n2 c2] w fun e w' => e = .returned (.bool true) ∧ Below w.heap.size w w' := by
  obtain rfl : n = n2 := h.1.trans h2.1.symm
  have hnb : (n : Int) ≤ 140737488355328 := by omega
  have HL := hid h.1
  have HS := hid h
  have HT := hid h2
  clear h h2 hn
  go_enter Tryz.func64, Tryz.ntmps64
  go_wp2_with fail
  go_loopw [5] (fun iv wr => ∃ i : Nat, i ≤ n ∧ iv = .int .i64 i ∧ Hid (Below w.heap.size w wr)) (fun iv _ => n - (intOf iv).toNat)
  case atStart => exact ⟨0, Nat.zero_le _, rfl, hid (Below.refl _ _)⟩
  case round =>
    obtain ⟨i, hi, rfl, HB⟩ := hrel
    by_cases hin : i < n
    · have HK1 : Hid (i + 1 ≤ n) := hin
      have HMS : Hid (n - (i + 1) < n - i) := by unfold Hid; omega
      have hii : (i : Int) < (n : Int) := by omega
      have hil : i < zs.length := by have := HL.out; unfold Hid at this; omega
      obtain ⟨b, off, rfl, hl, c0⟩ := slS_at HS.out HB.out hil
      obtain ⟨b2, off2, rfl, hl2, c1⟩ := slS_at HT.out HB.out hil
      obtain ⟨z, hz⟩ : ∃ z, z = zs.getD i ⟨#[]⟩ := ⟨_, rfl⟩
      rw [← hz] at c0 c1
      have hz2 : (z.toList == z.toList) = true := by simp
      have HB2 : Hid (Below w.heap.size w wr.drew) := HB.out.drew
      clear hin hi hz hil
      go_upto_region 6 with (fail)
      go_region
      go_wp2
      go_roundw
      case rel => exact ⟨i + 1, HK1.out, by go_num, HB2⟩
      case measure => have := HMS.out; simp [intOf]; omega
    · have hii : ¬ (i : Int) < (n : Int) := by omega
      clear hi hin
      go_wp2
      go_ret
      exact ⟨rfl, HB.out⟩
set_option maxHeartbeats 2000000 in
theorem same_vecs {A A2 : Option Addr} {n n2 : Nat} {zs : List V} (c c2 : Nat) (h : SlG 4 fV w A n zs) (h2 : SlG 4 fV w A2 n2 zs) (hn : n ≤ 140737488355328) : Calls Tryz.prog 63 #[.slice A n c, .slice A2 n2 c2] w fun e w' => e = .returned (.bool true) ∧ Below w.heap.size w w' := by
  obtain rfl : n = n2 := h.1.trans h2.1.symm
  have hnb : (n : Int) ≤ 140737488355328 := by omega
  have HL := hid h.1
  have HS := hid h
  have HT := hid h2
  clear h h2 hn
  go_enter Tryz.func63, Tryz.ntmps63
  go_wp2_with fail
  go_loopw [5] (fun iv wr => ∃ i : Nat, i ≤ n ∧ iv = .int .i64 i ∧ Hid (Below w.heap.size w wr)) (fun iv _ => n - (intOf iv).toNat)
  case atStart => exact ⟨0, Nat.zero_le _, rfl, hid (Below.refl _ _)⟩
  case round =>
    obtain ⟨i, hi, rfl, HB⟩ := hrel
    by_cases hin : i < n
    · have HK1 : Hid (i + 1 ≤ n) := hin
      have HMS : Hid (n - (i + 1) < n - i) := by unfold Hid; omega
      have hii : (i : Int) < (n : Int) := by omega
      have hil : i < zs.length := by have := HL.out; unfold Hid at this; omega
      obtain ⟨b, off, rfl, hl, c0, c1, c2, c3⟩ := slV_at HS.out HB.out hil
      obtain ⟨b2, off2, rfl, hl2, d0, d1, d2, d3⟩ := slV_at HT.out HB.out hil
      obtain ⟨z, hz⟩ : ∃ z, z = zs.getD i zeroV := ⟨_, rfl⟩
      rw [← hz] at c0 c1 c2 c3 d0 d1 d2 d3
      clear hz
      obtain ⟨z0, z1, z2, z3⟩ := z
      simp only at c0 c1 c2 c3 d0 d1 d2 d3
      have HB2 : Hid (Below w.heap.size w wr.drew) := HB.out.drew
      clear hin hi hil
      go_upto_region 6 with (fail)
      go_region
      go_wp2
      go_roundw
      case rel => exact ⟨i + 1, HK1.out, by go_num, HB2⟩
      case measure => have := HMS.out; simp [intOf]; omega
    · have hii : ¬ (i : Int) < (n : Int) := by omega
      clear hi hin
      go_wp2
      go_ret
      exact ⟨rfl, HB.out⟩
/-- Tenants, vectors, strings, numbers against themselves. -/
theorem eqT_self (a : ByteArray) (n : Int) (v : V) : eqTB a n v a n v = true := (eqTB_iff _ _ _ _ _ _).2 ⟨rfl, rfl, rfl⟩
set_option maxHeartbeats 4000000 in
set_option maxRecDepth 20000 in
theorem same_job {j : Jb} {s s' : Sls} (hl : JbL j) (h : Sl4 w j s) (h' : Sl4 w j s') : Calls Tryz.prog 29 #[.agg (jbB j s), .agg (jbB j s')] w fun e w' => e = .returned (.bool true) ∧ Below w.heap.size w w' := by
  have H1 := hid (fun W (hb : Below w.heap.size w W) => same_ints s.c1 s'.c1 (h.p.below hb) (h'.p.below hb) hl.p)
  have H2 := hid (fun W (hb : Below w.heap.size w W) => same_vecs s.c2 s'.c2 (h.t.below hb) (h'.t.below hb) hl.t)
  have H3 := hid (fun W (hb : Below w.heap.size w W) => same_strs s.c3 s'.c3 (h.n.below hb) (h'.n.below hb) hl.n)
  have H4 := hid (fun W (hb : Below w.heap.size w W) => same_strs s.c4 s'.c4 (h.d.below hb) (h'.d.below hb) hl.d)
  clear h h' hl
  obtain ⟨id, ten, pri, run, par, tsk, st, att, nod, start, don⟩ := j
  obtain ⟨a1, c1, a2, c2, a3, c3, a4, c4⟩ := s
  obtain ⟨b1, d1, b2, d2, b3, d3, b4, d4⟩ := s'
  unfold jbB
  simp only at H1 H2 H3 H4
  simp only
  have hz : ∀ z : Int, (z != z) = false := fun z => by simp
  have hs : ∀ z : ByteArray, (z.toList == z.toList) = true := fun z => by simp
  go_enter Tryz.func29, Tryz.ntmps29
  go_wp2_with fail
  refine (H1.out _ (by repeat (first | with_reducible assumption | with_reducible exact Below.refl _ _ | with_reducible refine Below.drew ?_ | with_reducible refine below_drewN ?_ _ | with_reducible refine below_alloc ?_ _ | with_reducible refine Below.alloc ?_ (by first | omega | (simp; done) | (simp; omega)) _ | with_reducible refine Below.setCell ?_ (by first | omega | (simp; done) | (simp; omega)) _ | with_reducible refine below_setRow ?_ (by first | omega | (simp; done) | (simp; omega)) _))).mono ?_
  rintro e w1 ⟨rfl, hb1⟩
  have B1 : Below w.heap.size w w1 := ((below_alloc (below_alloc (Below.refl _ w) _) _)).trans (hb1.mono (by simp; omega))
  have HB1 := hid B1
  obtain ⟨hc1, hf1⟩ := bcell hb1
  have lz1 : w.heap.size + 1 < w1.heap.size := by have := hb1.size; simp at this; omega
  have lz1' : w.heap.size < w1.heap.size := by omega
  clear H1 B1 hb1
  go_wp2_with fail
  refine (H2.out _ HB1.out).mono ?_
  rintro e w2 ⟨rfl, hb2⟩
  have HB2 := hid (HB1.out.trans (hb2.mono HB1.out.size))
  obtain ⟨hc2, hf2⟩ := bcell hb2
  have lz2 : w.heap.size + 1 < w2.heap.size := by have := hb2.size; omega
  have lz2' : w.heap.size < w2.heap.size := by omega
  clear H2 hb2
  go_wp2_with fail
  refine (H3.out _ HB2.out).mono ?_
  rintro e w3 ⟨rfl, hb3⟩
  have HB3 := hid (HB2.out.trans (hb3.mono HB2.out.size))
  obtain ⟨hc3, hf3⟩ := bcell hb3
  clear H3 hb3
  go_wp2_with fail
  refine (H4.out _ HB3.out).mono ?_
  rintro e w4 ⟨rfl, hb4⟩
  have HB4 := hid (HB3.out.trans (hb4.mono HB3.out.size))
  clear H4 hb4
  go_wp2_with fail
  go_ret
  exact ⟨rfl, HB4.out⟩
set_option maxHeartbeats 4000000 in
set_option maxRecDepth 20000 in
theorem same_cmd {c : Cm} {s s' : Sls} (hl : CmL w c s) (h' : Sl4 w c.job s') : Calls Tryz.prog 11 #[.agg (cmB c s), .agg (cmB c s')] w fun e w' => e = .returned (.bool true) ∧ Below w.heap.size w w' := by
  have HJ := hid (fun W (hb : Below w.heap.size w W) => same_job hl.job (hl.sl.below hb) (h'.below hb))
  clear hl h'
  obtain ⟨kind, tn, tw, ⟨t0, t1, t2, t3⟩, job, node, ep, ⟨v0, v1, v2, v3⟩, num, att⟩ := c
  obtain ⟨id, ten, pri, run, par, tsk, st, jatt, nod, start, don⟩ := job
  obtain ⟨a1, c1, a2, c2, a3, c3, a4, c4⟩ := s
  obtain ⟨b1, d1, b2, d2, b3, d3, b4, d4⟩ := s'
  unfold jbB at HJ
  unfold cmB
  simp only at HJ
  simp only
  have eT := fun W => eqT tn tw (t0, t1, t2, t3) tn tw (t0, t1, t2, t3) W
  rw [eqT_self] at eT
  simp only at eT
  have hz : ∀ z : Int, (z == z) = true := fun z => by simp
  have hs : ∀ z : ByteArray, (z.toList == z.toList) = true := fun z => by simp
  go_enter Tryz.func11, Tryz.ntmps11
  go_wp2_with fail
  refine (HJ.out _ (by repeat (first | with_reducible assumption | with_reducible exact Below.refl _ _ | with_reducible refine Below.drew ?_ | with_reducible refine below_drewN ?_ _ | with_reducible refine below_alloc ?_ _ | with_reducible refine Below.alloc ?_ (by first | omega | (simp; done) | (simp; omega)) _ | with_reducible refine Below.setCell ?_ (by first | omega | (simp; done) | (simp; omega)) _ | with_reducible refine below_setRow ?_ (by first | omega | (simp; done) | (simp; omega)) _))).mono ?_
  rintro e w1 ⟨rfl, hb1⟩
  have B1 : Below w.heap.size w w1 := ((below_alloc (below_alloc (Below.refl _ w) _) _)).trans (hb1.mono (by simp; omega))
  have HB1 := hid B1
  obtain ⟨hc1, hf1⟩ := bcell hb1
  have lz1 : w.heap.size + 1 < w1.heap.size := by have := hb1.size; simp at this; omega
  have lz1' : w.heap.size < w1.heap.size := by omega
  clear HJ B1 hb1
  go_wp2_with fail
  go_ret
  exact ⟨rfl, HB1.out⟩
end Go.Proofs.YtidcbcljeofooaaGreatDoor
