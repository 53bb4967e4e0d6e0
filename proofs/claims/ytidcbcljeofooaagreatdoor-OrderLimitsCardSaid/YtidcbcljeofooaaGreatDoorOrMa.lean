/- Chapter 20: the program's Formed, Kind by Kind. -/
import Derived.Test.YtidcbcljeofooaaGreatDoorOrL
namespace Go.Proofs.YtidcbcljeofooaaGreatDoor
open Go.RowKit Go.WideShapes
set_option maxHeartbeats 16000000 in
set_option maxRecDepth 20000 in
theorem oformed_o {w : World} {c : Cm} {s : Sls} (hk : ∀ k : Int, 1 ≤ k → k ≤ 10 → c.kind ≠ k) (h : CmL w c s) : Calls Tryz.prog 15 #[.agg (cmB c s)] w fun e w' => e = .returned (.bool (formB c)) ∧ Below w.heap.size w w' := by
  obtain ⟨kind, tn, tw, ⟨t0, t1, t2, t3⟩, job, node, ep, ⟨v0, v1, v2, v3⟩, num, att⟩ := c
  simp only at hk
  have HND := hid h.node
  have HEM := hid (fun W => empty_any job s W h.job)
  have HWF := hid (fun W (hb : Below w.heap.size w W) => wformed_job job s W h.job (h.sl.below hb) h.ten)
  have k1 := hk 1 (by omega) (by omega)
  have k2 := hk 2 (by omega) (by omega)
  have k3 := hk 3 (by omega) (by omega)
  have k4 := hk 4 (by omega) (by omega)
  have k5 := hk 5 (by omega) (by omega)
  have k6 := hk 6 (by omega) (by omega)
  have k7 := hk 7 (by omega) (by omega)
  have k8 := hk 8 (by omega) (by omega)
  have k9 := hk 9 (by omega) (by omega)
  have k10 := hk 10 (by omega) (by omega)
  have HK := hid hk
  clear hk
  have eT := fun W => eqT tn tw (t0, t1, t2, t3) ⟨#[]⟩ 0 zeroV W
  simp only [zeroV] at eT
  obtain ⟨bT, hbT⟩ : ∃ b, b = eqTB tn tw (t0, t1, t2, t3) ⟨#[]⟩ 0 zeroV := ⟨_, rfl⟩
  simp only [zeroV] at hbT
  simp only [← hbT] at eT
  have HBT := hid hbT
  clear h hbT
  obtain ⟨a1, c1, a2, c2, a3, c3, a4, c4⟩ := s
  obtain ⟨id, ten, pri, run, par, tsk, st, jatt, nod, start, don⟩ := job
  unfold cmB
  unfold jbB at HEM
  unfold jbB at HWF
  simp only at HWF
  simp only at HEM
  simp only
  obtain ⟨j, hj⟩ : ∃ j : Jb, j = ⟨id, ten, pri, run, par, tsk, st, jatt, nod, start, don⟩ := ⟨_, rfl⟩
  simp only [← hj] at HEM
  simp only [← hj] at HWF
  have HJ := hid hj
  rw [← hj]
  clear hj
  go_enter Tryz.func15, Tryz.ntmps15
  go_wp2_with (first | (go_at_call 36; refine (HEM.out _).mono ?_; rintro e w2 ⟨rfl, hb2⟩; obtain ⟨hc2, hf2⟩ := bcell hb2; have lz2 : w.heap.size < w2.heap.size := (by have := hb2.size; (try rw [World.size_alloc] at this); omega)) | (go_at_call 38; refine (id_any _ _).mono ?_; rintro e w3 ⟨rfl, hb3⟩; obtain ⟨hc3, hf3⟩ := bcell hb3; have lz3 : w.heap.size < w3.heap.size := (by have := hb3.size; (try rw [World.size_alloc] at this); omega)) | (go_at_call 39; refine (name_any node _ HND.out).mono ?_; rintro e w4 ⟨rfl, hb4⟩; obtain ⟨hc4, hf4⟩ := bcell hb4; have lz4 : w.heap.size < w4.heap.size := (by have := hb4.size; (try rw [World.size_alloc] at this); omega)) | (go_at_call_of 40 (Value.int IntKind.i64 ep); refine (ep_any _ _).mono ?_; rintro e w5 ⟨rfl, hb5⟩; obtain ⟨hc5, hf5⟩ := bcell hb5; have lz5 : w.heap.size < w5.heap.size := (by have := hb5.size; (try rw [World.size_alloc] at this); omega)) | (go_at_call_of 40 (Value.int IntKind.i64 att); refine (ep_any _ _).mono ?_; rintro e w6 ⟨rfl, hb6⟩; obtain ⟨hc6, hf6⟩ := bcell hb6; have lz6 : w.heap.size < w6.heap.size := (by have := hb6.size; (try rw [World.size_alloc] at this); omega)) | (go_at_call 41; refine (vecf_any (v0, v1, v2, v3) _).mono ?_; rintro e w7 ⟨rfl, hb7⟩) | (go_at_call 37; refine (HWF.out _ (by first | exact below_one hb2 | exact (by repeat (first | with_reducible assumption | with_reducible exact Below.refl _ _ | with_reducible refine Below.drew ?_ | with_reducible refine below_drewN ?_ _ | with_reducible refine below_alloc ?_ _ | with_reducible refine Below.alloc ?_ (by first | omega | (simp; done) | (simp; omega)) _ | with_reducible refine Below.setCell ?_ (by first | omega | (simp; done) | (simp; omega)) _ | with_reducible refine below_setRow ?_ (by first | omega | (simp; done) | (simp; omega)) _)))).mono ?_; rintro e w8 ⟨rfl, hb8⟩))
  all_goals go_ret
  all_goals refine ⟨congrArg (fun b => Ending.returned (Value.bool b)) ?_, (by repeat (first | exact (Below.refl _ _) | with_reducible assumption | exact below_alloc (Below.refl _ _) _ | (refine Below.trans ?_ (hb8.mono ?_); rotate_left; (show w.heap.size ≤ _; omega)) | (refine Below.trans ?_ (hb7.mono ?_); rotate_left; (show w.heap.size ≤ _; omega)) | (refine Below.trans ?_ (hb6.mono ?_); rotate_left; (show w.heap.size ≤ _; omega)) | (refine Below.trans ?_ (hb5.mono ?_); rotate_left; (show w.heap.size ≤ _; omega)) | (refine Below.trans ?_ (hb4.mono ?_); rotate_left; (show w.heap.size ≤ _; omega)) | (refine Below.trans ?_ (hb3.mono ?_); rotate_left; (show w.heap.size ≤ _; omega)) | exact below_one hb2 | exact below_one hb8))⟩
  all_goals (try have hvz := vz_no ‹(!v0 == 0) = true ∨ (!v1 == 0) = true ∨ (!v2 == 0) = true ∨ (!v3 == 0) = true›); (try have hvz := vz_yes ‹(!v0 == 0) = false ∧ (!v1 == 0) = false ∧ (!v2 == 0) = false ∧ (!v3 == 0) = false›)
  all_goals (try clear hc2 hf2); (try clear hc3 hf3); (try clear hc4 hf4); (try clear hc5 hf5); (try clear hc6 hf6); (try clear eT)
  all_goals rw [formB_o HK.out]
set_option maxHeartbeats 16000000 in
set_option maxRecDepth 20000 in
theorem oformed_1 {w : World} {c : Cm} {s : Sls} (hk : c.kind = 1) (h : CmL w c s) : Calls Tryz.prog 15 #[.agg (cmB c s)] w fun e w' => e = .returned (.bool (formB c)) ∧ Below w.heap.size w w' := by
  obtain ⟨kind, tn, tw, ⟨t0, t1, t2, t3⟩, job, node, ep, ⟨v0, v1, v2, v3⟩, num, att⟩ := c
  simp only at hk
  have HND := hid h.node
  have HEM := hid (fun W => empty_any job s W h.job)
  have HWF := hid (fun W (_ : Below w.heap.size w W) => wformed_ten tn tw (t0, t1, t2, t3) W h.tn)
  subst hk
  have eT := fun W => eqT tn tw (t0, t1, t2, t3) ⟨#[]⟩ 0 zeroV W
  simp only [zeroV] at eT
  obtain ⟨bT, hbT⟩ : ∃ b, b = eqTB tn tw (t0, t1, t2, t3) ⟨#[]⟩ 0 zeroV := ⟨_, rfl⟩
  simp only [zeroV] at hbT
  simp only [← hbT] at eT
  have HBT := hid hbT
  clear h hbT
  obtain ⟨a1, c1, a2, c2, a3, c3, a4, c4⟩ := s
  obtain ⟨id, ten, pri, run, par, tsk, st, jatt, nod, start, don⟩ := job
  unfold cmB
  unfold jbB at HEM
  simp only at HEM
  simp only
  obtain ⟨j, hj⟩ : ∃ j : Jb, j = ⟨id, ten, pri, run, par, tsk, st, jatt, nod, start, don⟩ := ⟨_, rfl⟩
  simp only [← hj] at HEM
  have HJ := hid hj
  rw [← hj]
  clear hj
  go_enter Tryz.func15, Tryz.ntmps15
  go_wp2_with (first | (go_at_call 36; refine (HEM.out _).mono ?_; rintro e w2 ⟨rfl, hb2⟩; obtain ⟨hc2, hf2⟩ := bcell hb2; have lz2 : w.heap.size < w2.heap.size := (by have := hb2.size; (try rw [World.size_alloc] at this); omega)) | (go_at_call 38; refine (id_any _ _).mono ?_; rintro e w3 ⟨rfl, hb3⟩; obtain ⟨hc3, hf3⟩ := bcell hb3; have lz3 : w.heap.size < w3.heap.size := (by have := hb3.size; (try rw [World.size_alloc] at this); omega)) | (go_at_call 39; refine (name_any node _ HND.out).mono ?_; rintro e w4 ⟨rfl, hb4⟩; obtain ⟨hc4, hf4⟩ := bcell hb4; have lz4 : w.heap.size < w4.heap.size := (by have := hb4.size; (try rw [World.size_alloc] at this); omega)) | (go_at_call_of 40 (Value.int IntKind.i64 ep); refine (ep_any _ _).mono ?_; rintro e w5 ⟨rfl, hb5⟩; obtain ⟨hc5, hf5⟩ := bcell hb5; have lz5 : w.heap.size < w5.heap.size := (by have := hb5.size; (try rw [World.size_alloc] at this); omega)) | (go_at_call_of 40 (Value.int IntKind.i64 att); refine (ep_any _ _).mono ?_; rintro e w6 ⟨rfl, hb6⟩; obtain ⟨hc6, hf6⟩ := bcell hb6; have lz6 : w.heap.size < w6.heap.size := (by have := hb6.size; (try rw [World.size_alloc] at this); omega)) | (go_at_call 41; refine (vecf_any (v0, v1, v2, v3) _).mono ?_; rintro e w7 ⟨rfl, hb7⟩) | (go_at_call 37; refine (HWF.out _ (by first | exact below_one hb2 | exact (by repeat (first | with_reducible assumption | with_reducible exact Below.refl _ _ | with_reducible refine Below.drew ?_ | with_reducible refine below_drewN ?_ _ | with_reducible refine below_alloc ?_ _ | with_reducible refine Below.alloc ?_ (by first | omega | (simp; done) | (simp; omega)) _ | with_reducible refine Below.setCell ?_ (by first | omega | (simp; done) | (simp; omega)) _ | with_reducible refine below_setRow ?_ (by first | omega | (simp; done) | (simp; omega)) _)))).mono ?_; rintro e w8 ⟨rfl, hb8⟩))
  all_goals go_ret
  all_goals refine ⟨congrArg (fun b => Ending.returned (Value.bool b)) ?_, (by repeat (first | exact (Below.refl _ _) | with_reducible assumption | exact below_alloc (Below.refl _ _) _ | (refine Below.trans ?_ (hb8.mono ?_); rotate_left; (show w.heap.size ≤ _; omega)) | (refine Below.trans ?_ (hb7.mono ?_); rotate_left; (show w.heap.size ≤ _; omega)) | (refine Below.trans ?_ (hb6.mono ?_); rotate_left; (show w.heap.size ≤ _; omega)) | (refine Below.trans ?_ (hb5.mono ?_); rotate_left; (show w.heap.size ≤ _; omega)) | (refine Below.trans ?_ (hb4.mono ?_); rotate_left; (show w.heap.size ≤ _; omega)) | (refine Below.trans ?_ (hb3.mono ?_); rotate_left; (show w.heap.size ≤ _; omega)) | exact below_one hb2 | exact below_one hb8))⟩
  all_goals (try have hvz := vz_no ‹(!v0 == 0) = true ∨ (!v1 == 0) = true ∨ (!v2 == 0) = true ∨ (!v3 == 0) = true›); (try have hvz := vz_yes ‹(!v0 == 0) = false ∧ (!v1 == 0) = false ∧ (!v2 == 0) = false ∧ (!v3 == 0) = false›)
  all_goals (try clear hc2 hf2); (try clear hc3 hf3); (try clear hc4 hf4); (try clear hc5 hf5); (try clear hc6 hf6); (try clear eT)
  all_goals rw [formB_1 (j := j) rfl HBT.out]
  all_goals simp [*]
  all_goals (rw [Bool.eq_iff_iff]; simp)
set_option maxHeartbeats 16000000 in
set_option maxRecDepth 20000 in
theorem oformed_2 {w : World} {c : Cm} {s : Sls} (hk : c.kind = 2) (h : CmL w c s) : Calls Tryz.prog 15 #[.agg (cmB c s)] w fun e w' => e = .returned (.bool (formB c)) ∧ Below w.heap.size w w' := by
  obtain ⟨kind, tn, tw, ⟨t0, t1, t2, t3⟩, job, node, ep, ⟨v0, v1, v2, v3⟩, num, att⟩ := c
  simp only at hk
  have HND := hid h.node
  have HEM := hid (fun W => empty_any job s W h.job)
  have HWF := hid (fun W (hb : Below w.heap.size w W) => wformed_job job s W h.job (h.sl.below hb) h.ten)
  subst hk
  have eT := fun W => eqT tn tw (t0, t1, t2, t3) ⟨#[]⟩ 0 zeroV W
  simp only [zeroV] at eT
  obtain ⟨bT, hbT⟩ : ∃ b, b = eqTB tn tw (t0, t1, t2, t3) ⟨#[]⟩ 0 zeroV := ⟨_, rfl⟩
  simp only [zeroV] at hbT
  simp only [← hbT] at eT
  have HBT := hid hbT
  clear h hbT
  obtain ⟨a1, c1, a2, c2, a3, c3, a4, c4⟩ := s
  obtain ⟨id, ten, pri, run, par, tsk, st, jatt, nod, start, don⟩ := job
  unfold cmB
  unfold jbB at HEM
  unfold jbB at HWF
  simp only at HWF
  simp only at HEM
  simp only
  obtain ⟨j, hj⟩ : ∃ j : Jb, j = ⟨id, ten, pri, run, par, tsk, st, jatt, nod, start, don⟩ := ⟨_, rfl⟩
  simp only [← hj] at HEM
  simp only [← hj] at HWF
  have HJ := hid hj
  rw [← hj]
  clear hj
  go_enter Tryz.func15, Tryz.ntmps15
  go_wp2_with (first | (go_at_call 36; refine (HEM.out _).mono ?_; rintro e w2 ⟨rfl, hb2⟩; obtain ⟨hc2, hf2⟩ := bcell hb2; have lz2 : w.heap.size < w2.heap.size := (by have := hb2.size; (try rw [World.size_alloc] at this); omega)) | (go_at_call 38; refine (id_any _ _).mono ?_; rintro e w3 ⟨rfl, hb3⟩; obtain ⟨hc3, hf3⟩ := bcell hb3; have lz3 : w.heap.size < w3.heap.size := (by have := hb3.size; (try rw [World.size_alloc] at this); omega)) | (go_at_call 39; refine (name_any node _ HND.out).mono ?_; rintro e w4 ⟨rfl, hb4⟩; obtain ⟨hc4, hf4⟩ := bcell hb4; have lz4 : w.heap.size < w4.heap.size := (by have := hb4.size; (try rw [World.size_alloc] at this); omega)) | (go_at_call_of 40 (Value.int IntKind.i64 ep); refine (ep_any _ _).mono ?_; rintro e w5 ⟨rfl, hb5⟩; obtain ⟨hc5, hf5⟩ := bcell hb5; have lz5 : w.heap.size < w5.heap.size := (by have := hb5.size; (try rw [World.size_alloc] at this); omega)) | (go_at_call_of 40 (Value.int IntKind.i64 att); refine (ep_any _ _).mono ?_; rintro e w6 ⟨rfl, hb6⟩; obtain ⟨hc6, hf6⟩ := bcell hb6; have lz6 : w.heap.size < w6.heap.size := (by have := hb6.size; (try rw [World.size_alloc] at this); omega)) | (go_at_call 41; refine (vecf_any (v0, v1, v2, v3) _).mono ?_; rintro e w7 ⟨rfl, hb7⟩) | (go_at_call 37; refine (HWF.out _ (by first | exact below_one hb2 | exact (by repeat (first | with_reducible assumption | with_reducible exact Below.refl _ _ | with_reducible refine Below.drew ?_ | with_reducible refine below_drewN ?_ _ | with_reducible refine below_alloc ?_ _ | with_reducible refine Below.alloc ?_ (by first | omega | (simp; done) | (simp; omega)) _ | with_reducible refine Below.setCell ?_ (by first | omega | (simp; done) | (simp; omega)) _ | with_reducible refine below_setRow ?_ (by first | omega | (simp; done) | (simp; omega)) _)))).mono ?_; rintro e w8 ⟨rfl, hb8⟩))
  all_goals go_ret
  all_goals refine ⟨congrArg (fun b => Ending.returned (Value.bool b)) ?_, (by repeat (first | exact (Below.refl _ _) | with_reducible assumption | exact below_alloc (Below.refl _ _) _ | (refine Below.trans ?_ (hb8.mono ?_); rotate_left; (show w.heap.size ≤ _; omega)) | (refine Below.trans ?_ (hb7.mono ?_); rotate_left; (show w.heap.size ≤ _; omega)) | (refine Below.trans ?_ (hb6.mono ?_); rotate_left; (show w.heap.size ≤ _; omega)) | (refine Below.trans ?_ (hb5.mono ?_); rotate_left; (show w.heap.size ≤ _; omega)) | (refine Below.trans ?_ (hb4.mono ?_); rotate_left; (show w.heap.size ≤ _; omega)) | (refine Below.trans ?_ (hb3.mono ?_); rotate_left; (show w.heap.size ≤ _; omega)) | exact below_one hb2 | exact below_one hb8))⟩
  all_goals (try have hvz := vz_no ‹(!v0 == 0) = true ∨ (!v1 == 0) = true ∨ (!v2 == 0) = true ∨ (!v3 == 0) = true›); (try have hvz := vz_yes ‹(!v0 == 0) = false ∧ (!v1 == 0) = false ∧ (!v2 == 0) = false ∧ (!v3 == 0) = false›)
  all_goals (try clear hc2 hf2); (try clear hc3 hf3); (try clear hc4 hf4); (try clear hc5 hf5); (try clear hc6 hf6); (try clear eT)
  all_goals rw [formB_2 (j := j) rfl HBT.out]
  all_goals simp [*]
  all_goals (rw [Bool.eq_iff_iff]; simp)
set_option maxHeartbeats 16000000 in
set_option maxRecDepth 20000 in
theorem oformed_3 {w : World} {c : Cm} {s : Sls} (hk : c.kind = 3) (h : CmL w c s) : Calls Tryz.prog 15 #[.agg (cmB c s)] w fun e w' => e = .returned (.bool (formB c)) ∧ Below w.heap.size w w' := by
  obtain ⟨kind, tn, tw, ⟨t0, t1, t2, t3⟩, job, node, ep, ⟨v0, v1, v2, v3⟩, num, att⟩ := c
  simp only at hk
  have HND := hid h.node
  have HEM := hid (fun W => empty_any job s W h.job)
  have HWF := hid (fun W (hb : Below w.heap.size w W) => wformed_job job s W h.job (h.sl.below hb) h.ten)
  subst hk
  have eT := fun W => eqT tn tw (t0, t1, t2, t3) ⟨#[]⟩ 0 zeroV W
  simp only [zeroV] at eT
  obtain ⟨bT, hbT⟩ : ∃ b, b = eqTB tn tw (t0, t1, t2, t3) ⟨#[]⟩ 0 zeroV := ⟨_, rfl⟩
  simp only [zeroV] at hbT
  simp only [← hbT] at eT
  have HBT := hid hbT
  clear h hbT
  obtain ⟨a1, c1, a2, c2, a3, c3, a4, c4⟩ := s
  obtain ⟨id, ten, pri, run, par, tsk, st, jatt, nod, start, don⟩ := job
  unfold cmB
  unfold jbB at HEM
  unfold jbB at HWF
  simp only at HWF
  simp only at HEM
  simp only
  obtain ⟨j, hj⟩ : ∃ j : Jb, j = ⟨id, ten, pri, run, par, tsk, st, jatt, nod, start, don⟩ := ⟨_, rfl⟩
  simp only [← hj] at HEM
  simp only [← hj] at HWF
  have HJ := hid hj
  rw [← hj]
  clear hj
  go_enter Tryz.func15, Tryz.ntmps15
  go_wp2_with (first | (go_at_call 36; refine (HEM.out _).mono ?_; rintro e w2 ⟨rfl, hb2⟩; obtain ⟨hc2, hf2⟩ := bcell hb2; have lz2 : w.heap.size < w2.heap.size := (by have := hb2.size; (try rw [World.size_alloc] at this); omega)) | (go_at_call 38; refine (id_any _ _).mono ?_; rintro e w3 ⟨rfl, hb3⟩; obtain ⟨hc3, hf3⟩ := bcell hb3; have lz3 : w.heap.size < w3.heap.size := (by have := hb3.size; (try rw [World.size_alloc] at this); omega)) | (go_at_call 39; refine (name_any node _ HND.out).mono ?_; rintro e w4 ⟨rfl, hb4⟩; obtain ⟨hc4, hf4⟩ := bcell hb4; have lz4 : w.heap.size < w4.heap.size := (by have := hb4.size; (try rw [World.size_alloc] at this); omega)) | (go_at_call_of 40 (Value.int IntKind.i64 ep); refine (ep_any _ _).mono ?_; rintro e w5 ⟨rfl, hb5⟩; obtain ⟨hc5, hf5⟩ := bcell hb5; have lz5 : w.heap.size < w5.heap.size := (by have := hb5.size; (try rw [World.size_alloc] at this); omega)) | (go_at_call_of 40 (Value.int IntKind.i64 att); refine (ep_any _ _).mono ?_; rintro e w6 ⟨rfl, hb6⟩; obtain ⟨hc6, hf6⟩ := bcell hb6; have lz6 : w.heap.size < w6.heap.size := (by have := hb6.size; (try rw [World.size_alloc] at this); omega)) | (go_at_call 41; refine (vecf_any (v0, v1, v2, v3) _).mono ?_; rintro e w7 ⟨rfl, hb7⟩) | (go_at_call 37; refine (HWF.out _ (by first | exact below_one hb2 | exact (by repeat (first | with_reducible assumption | with_reducible exact Below.refl _ _ | with_reducible refine Below.drew ?_ | with_reducible refine below_drewN ?_ _ | with_reducible refine below_alloc ?_ _ | with_reducible refine Below.alloc ?_ (by first | omega | (simp; done) | (simp; omega)) _ | with_reducible refine Below.setCell ?_ (by first | omega | (simp; done) | (simp; omega)) _ | with_reducible refine below_setRow ?_ (by first | omega | (simp; done) | (simp; omega)) _)))).mono ?_; rintro e w8 ⟨rfl, hb8⟩))
  all_goals go_ret
  all_goals refine ⟨congrArg (fun b => Ending.returned (Value.bool b)) ?_, (by repeat (first | exact (Below.refl _ _) | with_reducible assumption | exact below_alloc (Below.refl _ _) _ | (refine Below.trans ?_ (hb8.mono ?_); rotate_left; (show w.heap.size ≤ _; omega)) | (refine Below.trans ?_ (hb7.mono ?_); rotate_left; (show w.heap.size ≤ _; omega)) | (refine Below.trans ?_ (hb6.mono ?_); rotate_left; (show w.heap.size ≤ _; omega)) | (refine Below.trans ?_ (hb5.mono ?_); rotate_left; (show w.heap.size ≤ _; omega)) | (refine Below.trans ?_ (hb4.mono ?_); rotate_left; (show w.heap.size ≤ _; omega)) | (refine Below.trans ?_ (hb3.mono ?_); rotate_left; (show w.heap.size ≤ _; omega)) | exact below_one hb2 | exact below_one hb8))⟩
  all_goals (try have hvz := vz_no ‹(!v0 == 0) = true ∨ (!v1 == 0) = true ∨ (!v2 == 0) = true ∨ (!v3 == 0) = true›); (try have hvz := vz_yes ‹(!v0 == 0) = false ∧ (!v1 == 0) = false ∧ (!v2 == 0) = false ∧ (!v3 == 0) = false›)
  all_goals (try clear hc2 hf2); (try clear hc3 hf3); (try clear hc4 hf4); (try clear hc5 hf5); (try clear hc6 hf6); (try clear eT)
  all_goals rw [formB_3 (j := j) rfl HBT.out]
  all_goals simp [*]
  all_goals (rw [Bool.eq_iff_iff]; simp)
set_option maxHeartbeats 16000000 in
set_option maxRecDepth 20000 in
theorem oformed_4 {w : World} {c : Cm} {s : Sls} (hk : c.kind = 4) (h : CmL w c s) : Calls Tryz.prog 15 #[.agg (cmB c s)] w fun e w' => e = .returned (.bool (formB c)) ∧ Below w.heap.size w w' := by
  obtain ⟨kind, tn, tw, ⟨t0, t1, t2, t3⟩, job, node, ep, ⟨v0, v1, v2, v3⟩, num, att⟩ := c
  simp only at hk
  have HND := hid h.node
  have HEM := hid (fun W => empty_any job s W h.job)
  have HWF := hid (fun W (hb : Below w.heap.size w W) => wformed_job job s W h.job (h.sl.below hb) h.ten)
  subst hk
  have eT := fun W => eqT tn tw (t0, t1, t2, t3) ⟨#[]⟩ 0 zeroV W
  simp only [zeroV] at eT
  obtain ⟨bT, hbT⟩ : ∃ b, b = eqTB tn tw (t0, t1, t2, t3) ⟨#[]⟩ 0 zeroV := ⟨_, rfl⟩
  simp only [zeroV] at hbT
  simp only [← hbT] at eT
  have HBT := hid hbT
  clear h hbT
  obtain ⟨a1, c1, a2, c2, a3, c3, a4, c4⟩ := s
  obtain ⟨id, ten, pri, run, par, tsk, st, jatt, nod, start, don⟩ := job
  unfold cmB
  unfold jbB at HEM
  unfold jbB at HWF
  simp only at HWF
  simp only at HEM
  simp only
  obtain ⟨j, hj⟩ : ∃ j : Jb, j = ⟨id, ten, pri, run, par, tsk, st, jatt, nod, start, don⟩ := ⟨_, rfl⟩
  simp only [← hj] at HEM
  simp only [← hj] at HWF
  have HJ := hid hj
  rw [← hj]
  clear hj
  go_enter Tryz.func15, Tryz.ntmps15
  go_wp2_with (first | (go_at_call 36; refine (HEM.out _).mono ?_; rintro e w2 ⟨rfl, hb2⟩; obtain ⟨hc2, hf2⟩ := bcell hb2; have lz2 : w.heap.size < w2.heap.size := (by have := hb2.size; (try rw [World.size_alloc] at this); omega)) | (go_at_call 38; refine (id_any _ _).mono ?_; rintro e w3 ⟨rfl, hb3⟩; obtain ⟨hc3, hf3⟩ := bcell hb3; have lz3 : w.heap.size < w3.heap.size := (by have := hb3.size; (try rw [World.size_alloc] at this); omega)) | (go_at_call 39; refine (name_any node _ HND.out).mono ?_; rintro e w4 ⟨rfl, hb4⟩; obtain ⟨hc4, hf4⟩ := bcell hb4; have lz4 : w.heap.size < w4.heap.size := (by have := hb4.size; (try rw [World.size_alloc] at this); omega)) | (go_at_call_of 40 (Value.int IntKind.i64 ep); refine (ep_any _ _).mono ?_; rintro e w5 ⟨rfl, hb5⟩; obtain ⟨hc5, hf5⟩ := bcell hb5; have lz5 : w.heap.size < w5.heap.size := (by have := hb5.size; (try rw [World.size_alloc] at this); omega)) | (go_at_call_of 40 (Value.int IntKind.i64 att); refine (ep_any _ _).mono ?_; rintro e w6 ⟨rfl, hb6⟩; obtain ⟨hc6, hf6⟩ := bcell hb6; have lz6 : w.heap.size < w6.heap.size := (by have := hb6.size; (try rw [World.size_alloc] at this); omega)) | (go_at_call 41; refine (vecf_any (v0, v1, v2, v3) _).mono ?_; rintro e w7 ⟨rfl, hb7⟩) | (go_at_call 37; refine (HWF.out _ (by first | exact below_one hb2 | exact (by repeat (first | with_reducible assumption | with_reducible exact Below.refl _ _ | with_reducible refine Below.drew ?_ | with_reducible refine below_drewN ?_ _ | with_reducible refine below_alloc ?_ _ | with_reducible refine Below.alloc ?_ (by first | omega | (simp; done) | (simp; omega)) _ | with_reducible refine Below.setCell ?_ (by first | omega | (simp; done) | (simp; omega)) _ | with_reducible refine below_setRow ?_ (by first | omega | (simp; done) | (simp; omega)) _)))).mono ?_; rintro e w8 ⟨rfl, hb8⟩))
  all_goals go_ret
  all_goals refine ⟨congrArg (fun b => Ending.returned (Value.bool b)) ?_, (by repeat (first | exact (Below.refl _ _) | with_reducible assumption | exact below_alloc (Below.refl _ _) _ | (refine Below.trans ?_ (hb8.mono ?_); rotate_left; (show w.heap.size ≤ _; omega)) | (refine Below.trans ?_ (hb7.mono ?_); rotate_left; (show w.heap.size ≤ _; omega)) | (refine Below.trans ?_ (hb6.mono ?_); rotate_left; (show w.heap.size ≤ _; omega)) | (refine Below.trans ?_ (hb5.mono ?_); rotate_left; (show w.heap.size ≤ _; omega)) | (refine Below.trans ?_ (hb4.mono ?_); rotate_left; (show w.heap.size ≤ _; omega)) | (refine Below.trans ?_ (hb3.mono ?_); rotate_left; (show w.heap.size ≤ _; omega)) | exact below_one hb2 | exact below_one hb8))⟩
  all_goals (try have hvz := vz_no ‹(!v0 == 0) = true ∨ (!v1 == 0) = true ∨ (!v2 == 0) = true ∨ (!v3 == 0) = true›); (try have hvz := vz_yes ‹(!v0 == 0) = false ∧ (!v1 == 0) = false ∧ (!v2 == 0) = false ∧ (!v3 == 0) = false›)
  all_goals (try clear hc2 hf2); (try clear hc3 hf3); (try clear hc4 hf4); (try clear hc5 hf5); (try clear hc6 hf6); (try clear eT)
  all_goals rw [formB_4 (j := j) rfl HBT.out]
  all_goals simp [*]
  all_goals (rw [Bool.eq_iff_iff]; simp)
set_option maxHeartbeats 16000000 in
set_option maxRecDepth 20000 in
theorem oformed_5 {w : World} {c : Cm} {s : Sls} (hk : c.kind = 5) (h : CmL w c s) : Calls Tryz.prog 15 #[.agg (cmB c s)] w fun e w' => e = .returned (.bool (formB c)) ∧ Below w.heap.size w w' := by
  obtain ⟨kind, tn, tw, ⟨t0, t1, t2, t3⟩, job, node, ep, ⟨v0, v1, v2, v3⟩, num, att⟩ := c
  simp only at hk
  have HND := hid h.node
  have HEM := hid (fun W => empty_any job s W h.job)
  have HWF := hid (fun W (hb : Below w.heap.size w W) => wformed_job job s W h.job (h.sl.below hb) h.ten)
  subst hk
  have eT := fun W => eqT tn tw (t0, t1, t2, t3) ⟨#[]⟩ 0 zeroV W
  simp only [zeroV] at eT
  obtain ⟨bT, hbT⟩ : ∃ b, b = eqTB tn tw (t0, t1, t2, t3) ⟨#[]⟩ 0 zeroV := ⟨_, rfl⟩
  simp only [zeroV] at hbT
  simp only [← hbT] at eT
  have HBT := hid hbT
  clear h hbT
  obtain ⟨a1, c1, a2, c2, a3, c3, a4, c4⟩ := s
  obtain ⟨id, ten, pri, run, par, tsk, st, jatt, nod, start, don⟩ := job
  unfold cmB
  unfold jbB at HEM
  unfold jbB at HWF
  simp only at HWF
  simp only at HEM
  simp only
  obtain ⟨j, hj⟩ : ∃ j : Jb, j = ⟨id, ten, pri, run, par, tsk, st, jatt, nod, start, don⟩ := ⟨_, rfl⟩
  simp only [← hj] at HEM
  simp only [← hj] at HWF
  have HJ := hid hj
  rw [← hj]
  clear hj
  go_enter Tryz.func15, Tryz.ntmps15
  go_wp2_with (first | (go_at_call 36; refine (HEM.out _).mono ?_; rintro e w2 ⟨rfl, hb2⟩; obtain ⟨hc2, hf2⟩ := bcell hb2; have lz2 : w.heap.size < w2.heap.size := (by have := hb2.size; (try rw [World.size_alloc] at this); omega)) | (go_at_call 38; refine (id_any _ _).mono ?_; rintro e w3 ⟨rfl, hb3⟩; obtain ⟨hc3, hf3⟩ := bcell hb3; have lz3 : w.heap.size < w3.heap.size := (by have := hb3.size; (try rw [World.size_alloc] at this); omega)) | (go_at_call 39; refine (name_any node _ HND.out).mono ?_; rintro e w4 ⟨rfl, hb4⟩; obtain ⟨hc4, hf4⟩ := bcell hb4; have lz4 : w.heap.size < w4.heap.size := (by have := hb4.size; (try rw [World.size_alloc] at this); omega)) | (go_at_call_of 40 (Value.int IntKind.i64 ep); refine (ep_any _ _).mono ?_; rintro e w5 ⟨rfl, hb5⟩; obtain ⟨hc5, hf5⟩ := bcell hb5; have lz5 : w.heap.size < w5.heap.size := (by have := hb5.size; (try rw [World.size_alloc] at this); omega)) | (go_at_call_of 40 (Value.int IntKind.i64 att); refine (ep_any _ _).mono ?_; rintro e w6 ⟨rfl, hb6⟩; obtain ⟨hc6, hf6⟩ := bcell hb6; have lz6 : w.heap.size < w6.heap.size := (by have := hb6.size; (try rw [World.size_alloc] at this); omega)) | (go_at_call 41; refine (vecf_any (v0, v1, v2, v3) _).mono ?_; rintro e w7 ⟨rfl, hb7⟩) | (go_at_call 37; refine (HWF.out _ (by first | exact below_one hb2 | exact (by repeat (first | with_reducible assumption | with_reducible exact Below.refl _ _ | with_reducible refine Below.drew ?_ | with_reducible refine below_drewN ?_ _ | with_reducible refine below_alloc ?_ _ | with_reducible refine Below.alloc ?_ (by first | omega | (simp; done) | (simp; omega)) _ | with_reducible refine Below.setCell ?_ (by first | omega | (simp; done) | (simp; omega)) _ | with_reducible refine below_setRow ?_ (by first | omega | (simp; done) | (simp; omega)) _)))).mono ?_; rintro e w8 ⟨rfl, hb8⟩))
  all_goals go_ret
  all_goals refine ⟨congrArg (fun b => Ending.returned (Value.bool b)) ?_, (by repeat (first | exact (Below.refl _ _) | with_reducible assumption | exact below_alloc (Below.refl _ _) _ | (refine Below.trans ?_ (hb8.mono ?_); rotate_left; (show w.heap.size ≤ _; omega)) | (refine Below.trans ?_ (hb7.mono ?_); rotate_left; (show w.heap.size ≤ _; omega)) | (refine Below.trans ?_ (hb6.mono ?_); rotate_left; (show w.heap.size ≤ _; omega)) | (refine Below.trans ?_ (hb5.mono ?_); rotate_left; (show w.heap.size ≤ _; omega)) | (refine Below.trans ?_ (hb4.mono ?_); rotate_left; (show w.heap.size ≤ _; omega)) | (refine Below.trans ?_ (hb3.mono ?_); rotate_left; (show w.heap.size ≤ _; omega)) | exact below_one hb2 | exact below_one hb8))⟩
  all_goals (try have hvz := vz_no ‹(!v0 == 0) = true ∨ (!v1 == 0) = true ∨ (!v2 == 0) = true ∨ (!v3 == 0) = true›); (try have hvz := vz_yes ‹(!v0 == 0) = false ∧ (!v1 == 0) = false ∧ (!v2 == 0) = false ∧ (!v3 == 0) = false›)
  all_goals (try clear hc2 hf2); (try clear hc3 hf3); (try clear hc4 hf4); (try clear hc5 hf5); (try clear hc6 hf6); (try clear eT)
  all_goals rw [formB_5 (j := j) rfl HBT.out]
  all_goals simp [*]
end Go.Proofs.YtidcbcljeofooaaGreatDoor
