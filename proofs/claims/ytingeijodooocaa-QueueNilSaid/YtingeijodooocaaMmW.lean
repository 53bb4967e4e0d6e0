/- Chapter 14's interval heap: swap, paired. -/
import Derived.Test.YtingeijodooocaaMmV
import Derived.Test.YtingeijodooocaaFl2
import Derived.Deep.DeepCutAuto
import Derived.IntWalk
namespace Go.Proofs.Ytingeijodooocaa
open Go.RowKit
variable {B H : Nat} {w w' : World} {va vk vs : Value} {S : Mm}
/-- Two places' entries changed. -/
def Mm.sw (S : Mm) (i j : Nat) : Mm := { S with e := swf S.e i j, s := upf (upf S.s (S.e j) (i + 1)) (S.e i) (j + 1) }
theorem sw_upf (e : Nat → Nat) (i j : Nat) : upf (upf e i (e j)) j (e i) = swf e i j := by
  funext k
  rfl
theorem Lnk.inj (h : Lnk S) : Inj S.n S.e := fun i j hi hj e => by
  have a := (h.at_ i hi).2
  have b := (h.at_ j hj).2
  rw [e, b] at a
  omega
theorem Lnk.sw {i j : Nat} (h : Lnk S) (hi : i < S.n) (hj : j < S.n) : Lnk (S.sw i j) := by
  have inj := h.inj
  have ai := h.at_ i hi
  have aj := h.at_ j hj
  refine ⟨h.mb, h.nb, fun k hk => ?_, fun x hx hs => ?_⟩
  · show swf S.e i j k < S.m ∧ upf (upf S.s (S.e j) (i + 1)) (S.e i) (j + 1) (swf S.e i j k) = k + 1
    rcases swf_or S.e i j k with ⟨q, e⟩ | ⟨q0, q, e⟩ | ⟨q0, q, e⟩ <;> rw [e]
    · subst q
      exact ⟨ai.1, by unfold upf; rw [if_pos rfl]⟩
    · subst q
      have hne : S.e j ≠ S.e k := fun x => q0 (inj _ _ hi hj x.symm)
      exact ⟨aj.1, by unfold upf; rw [if_neg hne, if_pos rfl]⟩
    · have ak := h.at_ k hk
      have n1 : S.e k ≠ S.e i := fun x => q (inj _ _ hk hi x)
      have n2 : S.e k ≠ S.e j := fun x => q0 (inj _ _ hk hj x)
      exact ⟨ak.1, by unfold upf; rw [if_neg n1, if_neg n2]; exact ak.2⟩
  · show upf (upf S.s (S.e j) (i + 1)) (S.e i) (j + 1) x ≤ S.n ∧ swf S.e i j (upf (upf S.s (S.e j) (i + 1)) (S.e i) (j + 1) x - 1) = x
    have hs' : upf (upf S.s (S.e j) (i + 1)) (S.e i) (j + 1) x ≠ 0 := hs
    unfold upf at hs' ⊢
    by_cases q1 : x = S.e i
    · rw [if_pos q1]
      exact ⟨hj, by rw [Nat.add_sub_cancel, swf_r, q1]⟩
    · rw [if_neg q1] at hs' ⊢
      by_cases q2 : x = S.e j
      · rw [if_pos q2]
        exact ⟨hi, by rw [Nat.add_sub_cancel, swf_l, q2]⟩
      · rw [if_neg q2] at hs' ⊢
        obtain ⟨g1, g2⟩ := h.gone x hx hs'
        refine ⟨g1, ?_⟩
        rw [swf_o _ (fun e => q1 (by rw [← g2, e])) (fun e => q2 (by rw [← g2, e]))]
        exact g2
/-- Who is there is not changed. -/
theorem Lnk.sw_live {i j : Nat} (h : Lnk S) (hi : i < S.n) (hj : j < S.n) (x : Nat) : (S.sw i j).s x = 0 ↔ S.s x = 0 := by
  show upf (upf S.s (S.e j) (i + 1)) (S.e i) (j + 1) x = 0 ↔ _
  have ai := h.at_ i hi
  have aj := h.at_ j hj
  unfold upf
  by_cases q1 : x = S.e i
  · rw [if_pos q1, q1, ai.2]; omega
  · rw [if_neg q1]
    by_cases q2 : x = S.e j
    · rw [if_pos q2, q2, aj.2]; omega
    · rw [if_neg q2]
set_option maxRecDepth 20000 in
set_option maxHeartbeats 4000000 in
theorem mswap_g {i j : Nat} (h : MmV B w H va vk vs S) (hl : Lnk S) (hi : i < S.n) (hj : j < S.n) :
    Calls Try.prog 53 #[.pointer (some ⟨H, 0, none⟩), .int .i64 i, .int .i64 j] w fun e w' => e = .returned (.tuple #[]) ∧ MmV B w' H va vk vs (S.sw i j) ∧ Tur (FootM H va vk vs) w w' := by
  obtain ⟨c0, -, c2⟩ := h.head
  have hlH := h.ltH
  obtain ⟨g, cap, rfl, -, hgl, hgf, hca⟩ := rowI_cells h.ra (by omega)
  have hm : 0 < S.m := by have := hl.nb; omega
  obtain ⟨g2, cap2, rfl, -, hgl2, hgf2, hcs⟩ := rowI_cells h.rs hm
  have ai := hca i hi
  have aj := hca j hj
  have mi := hl.at_ i hi
  have mj := hl.at_ j hj
  have ii : (i : Int) < (S.n : Int) := by omega
  have jj : (j : Int) < (S.n : Int) := by omega
  have hgH := h.hH g (.inl rfl)
  have hg2H := h.hH g2 (.inr (.inr rfl))
  have hgg : g ≠ g2 := fun e => (h.ap g rfl).2 (by rw [e]; rfl)
  have HH := hid h
  have HL := hid hl
  have HI := hid hi
  have HJ := hid hj
  clear h hl hca hcs hi hj
  go_enter Try.func53, Try.ntmps53
  go_upto_region 0 with fail
  go_cut [6] (fun s6 wx => s6 = .pointer (some ⟨H, 0, none⟩) ∧ MmV B wx H (.slice (some ⟨g, 0, none⟩) S.n cap) vk (.slice (some ⟨g2, 0, none⟩) S.m cap2) ⟨S.n, S.m, swf S.e i j, S.s, S.k⟩ ∧ Tur (FootM H (.slice (some ⟨g, 0, none⟩) S.n cap) vk (.slice (some ⟨g2, 0, none⟩) S.m cap2)) w wx)
  case first =>
    have ea : ∀ lx_ : Lat w.heap.size w, lx_.w.cell? ⟨H, 0, none⟩ = some (.slice (some ⟨g, 0, none⟩) S.n cap) := fun lx_ => by rw [lx_.cell _ _ hlH]; exact c0
    have ei : ∀ lx_ : Lat w.heap.size w, lx_.w.cell? ⟨g, i, none⟩ = some (.int .i64 (S.e i : Nat)) := fun lx_ => by rw [lx_.cell _ _ hgl]; exact ai
    have ej : ∀ lx_ : Lat w.heap.size w, lx_.w.cell? ⟨g, j, none⟩ = some (.int .i64 (S.e j : Nat)) := fun lx_ => by rw [lx_.cell _ _ hgl]; exact aj
    refine wp_region_float1 (C := fun w' => ∃ x : Lat w.heap.size w, w' = x.w) 9 25 25 9 [0, 1, 2, 3, 4, 5, 6, 7, 8, 10, 11, 12, 13, 14, 15, 16, 17, 18, 19, 20, 21, 22, 23, 24] (some 15) (.tmp 2) (by kernel_rfl) ⟨_, rfl, rfl, rfl, rfl⟩ (fun _ _ _ _ h => h) (by kernel_rfl) (by rfl) ⟨⟨w.drew, (Below.refl _ _).drew⟩, rfl⟩ ?_
    simp only [List.take_succ_cons, List.take_zero, List.drop_succ_cons, List.drop_zero, List.eraseIdx_cons_succ, List.eraseIdx_cons_zero, Act.put, Act.eval, List.setIfInBounds_toArray, List.set_cons_zero, List.set_cons_succ]
    repeat (go_big_quiet_step (fail))
    refine wpQuiet_nil ?_
    clear ea ei ej
    rintro w1 ⟨x1, hx1⟩
    have hb1 := x1.h
    rw [← hx1] at hb1
    clear hx1 x1
    have s1 := hb1.size
    have gi : w1.cell? ⟨g, i, none⟩ = some (.int .i64 (S.e i : Nat)) := (hb1.cell (p := ⟨g, i, none⟩) hgl).trans ai
    have gj : w1.cell? ⟨g, j, none⟩ = some (.int .i64 (S.e j : Nat)) := (hb1.cell (p := ⟨g, j, none⟩) hgl).trans aj
    have gf : ∀ i, w1.frozen? ⟨g, i, none⟩ = false := fun i => (hb1.frozen (p := ⟨g, i, none⟩) hgl).trans (hgf i)
    have C1 := (HH.out.below hb1).setE HI.out (S.e j)
    have C2 := MmV.setE (S := ⟨S.n, S.m, upf S.e i (S.e j), S.s, S.k⟩) (i := j) C1 HJ.out (S.e i)
    have e2 : upf (upf S.e i (S.e j)) j (S.e i) = swf S.e i j := sw_upf _ _ _
    have C2 : MmV B ((w1.setCell ⟨g, i, none⟩ (.int .i64 (S.e j : Nat))).setCell ⟨g, j, none⟩ (.int .i64 (S.e i : Nat))) H (.slice (some ⟨g, 0, none⟩) S.n cap) vk (.slice (some ⟨g2, 0, none⟩) S.m cap2) ⟨S.n, S.m, swf S.e i j, S.s, S.k⟩ := by
      rw [← e2]; exact C2
    have F1 : FootM H (.slice (some ⟨g, 0, none⟩) S.n cap) vk (.slice (some ⟨g2, 0, none⟩) S.m cap2) g := .inr (.inl rfl)
    have T2 : Tur (FootM H (.slice (some ⟨g, 0, none⟩) S.n cap) vk (.slice (some ⟨g2, 0, none⟩) S.m cap2)) w ((w1.setCell ⟨g, i, none⟩ (.int .i64 (S.e j : Nat))).setCell ⟨g, j, none⟩ (.int .i64 (S.e i : Nat))) :=
      ((Tur.of_below hb1).then (Tur.set _ (.inl F1))).then (Tur.set _ (.inl F1))
    have HC2 := hid C2
    have HT2 := hid T2

    clear C1 C2 T2 e2 c0 c2 ai aj hgf hgf2 hb1
    by_cases hij : i = j
    · subst hij
      go_wp2
      go_meet
      exact ⟨rfl, HC2.out, HT2.out⟩
    · have hij2 : ¬ j = i := fun e => hij e.symm
      go_wp2
      go_meet
      exact ⟨rfl, HC2.out, HT2.out⟩
  case rest =>
    obtain ⟨rfl, HC2, HT2⟩ := hcut
    obtain ⟨w2, rfl⟩ : ∃ wx_ : World, wx_ = wc := ⟨_, rfl⟩
    have HC2 := hid HC2
    have HT2 := hid HT2
    clear c0 c2 ai aj hgf hgf2
    go_upto_region 1 with fail
    obtain ⟨c0, -, c2⟩ := HC2.out.head
    have hlH2 := HC2.out.ltH
    obtain ⟨g', cap', hv', -, hgl', -, hca'⟩ := rowI_cells HC2.out.ra (by show 0 < S.n; have := HI.out; omega)
    obtain ⟨g2', cap2', hv2', -, hgl2', hgf2', hcs'⟩ := rowI_cells HC2.out.rs hm
    cases hv'
    cases hv2'
    have di : w2.cell? ⟨g, i, none⟩ = some (.int .i64 (S.e j : Nat)) := by have := hca' i HI.out; rw [this]; show some (Value.int .i64 (swf S.e i j i : Nat)) = _; rw [swf_l]
    have dj : w2.cell? ⟨g, j, none⟩ = some (.int .i64 (S.e i : Nat)) := by have := hca' j HJ.out; rw [this]; show some (Value.int .i64 (swf S.e i j j : Nat)) = _; rw [swf_r]
    have mi' : (S.e i : Int) < (S.m : Int) := by have := mi.1; omega
    have mj' : (S.e j : Int) < (S.m : Int) := by have := mj.1; omega
    have ea : ∀ lx_ : Lat w2.heap.size w2, lx_.w.cell? ⟨H, 0, none⟩ = some (.slice (some ⟨g, 0, none⟩) S.n cap) := fun lx_ => by rw [lx_.cell _ _ hlH2]; exact c0
    have es : ∀ lx_ : Lat w2.heap.size w2, lx_.w.cell? ⟨H, 2, none⟩ = some (.slice (some ⟨g2, 0, none⟩) S.m cap2) := fun lx_ => by rw [lx_.cell _ _ hlH2]; exact c2
    have ei : ∀ lx_ : Lat w2.heap.size w2, lx_.w.cell? ⟨g, i, none⟩ = some (.int .i64 (S.e j : Nat)) := fun lx_ => by rw [lx_.cell _ _ hgl']; exact di
    have ej : ∀ lx_ : Lat w2.heap.size w2, lx_.w.cell? ⟨g, j, none⟩ = some (.int .i64 (S.e i : Nat)) := fun lx_ => by rw [lx_.cell _ _ hgl']; exact dj
    have hnb : S.m ≤ 1000000 := HL.out.mb
    have hnm : S.n ≤ S.m := HL.out.nb
    have iw1 : IntKind.i64.wrap ((i : Int) + 1) = (i : Int) + 1 := IntWalk.i64_in _ (by omega)
    have jw1 : IntKind.i64.wrap ((j : Int) + 1) = (j : Int) + 1 := IntWalk.i64_in _ (by omega)
    refine wp_region_float2B (C := fun w' => ∃ x : Lat w2.heap.size w2, w' = x.w) 24 25 27 27 24 [0, 1, 2, 3, 4, 5, 6, 7, 8, 9, 10, 11, 12, 13, 14, 15, 16, 17, 18, 19, 20, 21, 22, 23, 26] (some 56) (some 57) (.int .i64 ((j : Int) + 1)) (.tmp 2) (by kernel_rfl) ⟨_, rfl, rfl, rfl, rfl⟩ ⟨_, rfl, rfl, rfl, fun _ => exec_add rfl rfl rfl jw1⟩ (fun _ _ _ _ h => h) (fun _ _ _ _ h => h) (by kernel_rfl) (by rfl) ⟨⟨w2.drew, (Below.refl _ _).drew⟩, rfl⟩ ?_
    simp only [List.take_succ_cons, List.take_zero, List.drop_succ_cons, List.drop_zero, List.eraseIdx_cons_succ, List.eraseIdx_cons_zero, Act.put, Act.eval, List.setIfInBounds_toArray, List.set_cons_zero, List.set_cons_succ]
    repeat (go_big_quiet_step (fail))
    refine wpQuiet_nil ?_
    clear ea es ei ej
    rintro w3 ⟨x3, hx3⟩
    have hb3 := x3.h
    rw [← hx3] at hb3
    clear hx3 x3
    have s3 := hb3.size
    have ki : w3.cell? ⟨g2, S.e i, none⟩ = some (.int .i64 (S.s (S.e i) : Nat)) := (hb3.cell (p := ⟨g2, S.e i, none⟩) hgl2').trans (hcs' _ mi.1)
    have kj : w3.cell? ⟨g2, S.e j, none⟩ = some (.int .i64 (S.s (S.e j) : Nat)) := (hb3.cell (p := ⟨g2, S.e j, none⟩) hgl2').trans (hcs' _ mj.1)
    have kf : ∀ i, w3.frozen? ⟨g2, i, none⟩ = false := fun i => (hb3.frozen (p := ⟨g2, i, none⟩) hgl2').trans (hgf2' i)
    have C3 := MmV.setS (S := ⟨S.n, S.m, swf S.e i j, S.s, S.k⟩) (i := S.e j) (HC2.out.below hb3) mj.1 (i + 1)
    have C4 := MmV.setS (S := ⟨S.n, S.m, swf S.e i j, upf S.s (S.e j) (i + 1), S.k⟩) (i := S.e i) C3 mi.1 (j + 1)
    have F2 : FootM H (.slice (some ⟨g, 0, none⟩) S.n cap) vk (.slice (some ⟨g2, 0, none⟩) S.m cap2) g2 := .inr (.inr (.inr rfl))
    have T4 : Tur (FootM H (.slice (some ⟨g, 0, none⟩) S.n cap) vk (.slice (some ⟨g2, 0, none⟩) S.m cap2)) w ((w3.setCell ⟨g2, S.e j, none⟩ (.int .i64 ((i + 1 : Nat) : Int))).setCell ⟨g2, S.e i, none⟩ (.int .i64 ((j + 1 : Nat) : Int))) :=
      ((HT2.out.then (Tur.of_below hb3)).then (Tur.set _ (.inl F2))).then (Tur.set _ (.inl F2))
    have HC4 := hid C4
    have HT4 := hid T4
    clear C3 C4 T4 hb3 HC2 HT2 hcs' hca' c0 c2 di dj
    rw [Int.natCast_add, Int.natCast_add] at HC4 HT4
    by_cases hij : i = j
    · subst hij
      go_wp2
      go_end0
      exact ⟨rfl, HC4.out, HT4.out⟩
    · have hne : ¬ S.e j = S.e i := fun e => hij (HL.out.inj _ _ HI.out HJ.out e.symm)
      have hne2 : ¬ S.e i = S.e j := fun e => hne e.symm
      go_wp2
      go_end0
      exact ⟨rfl, HC4.out, HT4.out⟩end Go.Proofs.Ytingeijodooocaa
