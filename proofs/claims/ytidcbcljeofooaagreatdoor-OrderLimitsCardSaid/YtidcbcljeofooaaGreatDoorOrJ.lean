/- Chapter 20: the program's Formed: jobs and records of package wire. -/
import Derived.Test.YtidcbcljeofooaaGreatDoorOrH
namespace Go.Proofs.YtidcbcljeofooaaGreatDoor
open Go.RowKit Go.WideShapes
set_option maxHeartbeats 8000000 in
set_option maxRecDepth 20000 in
theorem job_any (j : Jb) (s : Sls) (w : World) (hl : JbL j) (hm : Sl4 w j s) (hs : j.ten.size ≤ maxLen) :
    Calls Tryz.prog 68 #[.agg (jbB j s)] w fun e w' => e = .returned (.bool (jobB j)) ∧ Below w.heap.size w w' := by
  obtain ⟨id, ten, pri, run, par, tsk, st, att, nod, start, don⟩ := j
  have HM := hid hm
  have HNA := hid (fun W => name_any ten W hs)
  obtain ⟨l1, l2, l3, l4⟩ := hl
  simp only at l1 l2 l3 l4
  have FF : ∀ X, ¬ JbF ⟨id, ten, pri, run, par, tsk, st, att, nod, start, don⟩ → Below w.heap.size w X → Hid ((Ending.returned (.bool false)) = .returned (.bool (jobB ⟨id, ten, pri, run, par, tsk, st, att, nod, start, don⟩)) ∧ Below w.heap.size w X) := fun X h hb => ⟨by rw [jobB_no h], hb⟩
  have HF := hid FF
  clear FF hm hs
  unfold jbB
  simp only
  obtain ⟨a1, c1, a2, c2, a3, c3, a4, c4⟩ := s
  simp only
  have i1 : IntKind.i64.wrap ((nod.length : Int) + (don.length : Int)) = (nod.length : Int) + (don.length : Int) := IntWalk.i64_in _ (by omega)
  have HI1 := hid i1
  have HLN := hid (⟨l3, l4⟩ : nod.length ≤ 140737488355328 ∧ don.length ≤ 140737488355328)
  clear i1 l1 l2 l3 l4
  go_enter Tryz.func68, Tryz.ntmps68
  go_upto_region 3 with (first | (go_at_call 69; refine (wid_any _ _).mono ?_; rintro e w2 ⟨rfl, hb2⟩; obtain ⟨hc2, hf2⟩ := bcell hb2; have lz2 : w.heap.size < w2.heap.size := (by have := hb2.size; rw [World.size_alloc] at this; omega)) | (go_at_call 39; refine (HNA.out _).mono ?_; rintro e w3 ⟨rfl, hb3⟩; obtain ⟨hc3, hf3⟩ := bcell hb3; have lz3 : w.heap.size < w3.heap.size := (by have := hb3.size; omega)))
  all_goals try (go_ret; exact (HF.out _ (by rintro ⟨f1, f2, f3, f4, f5, f6, f7, f8, f9, f10⟩; simp only at f1 f2 f3 f4 f5 f6 f7 f8 f9 f10; first | contradiction | omega) (by first | exact below_two hb2 hb3 | exact below_one hb2)).out)
  go_upto_region 5 with fail
  all_goals try (go_ret; exact (HF.out _ (by rintro ⟨f1, f2, f3, f4, f5, f6, f7, f8, f9, f10⟩; simp only at f1 f2 f3 f4 f5 f6 f7 f8 f9 f10; first | contradiction | omega) (below_two hb2 hb3)).out)
  have B3 := hid (below_two hb2 hb3)
  have X3 : Hid (w3.heap[w.heap.size]? = some (.cells #[.int .i64 id, .string ten, .int .i64 pri, .int .i64 run, .slice a1 par.length c1, .slice a2 tsk.length c2, .int .i64 st, .int .i64 att, .slice a3 nod.length c3, .int .i64 start, .slice a4 don.length c4] 31 (0, 0))) := (hb3.block _ lz2).trans ((hb2.block _ (by simp)).trans (alloc_at w _))
  have GD : Hid (idB id = true ∧ nameB ten = true ∧ (0 ≤ pri ∧ pri ≤ 100) ∧ (1 ≤ run ∧ run ≤ 1000) ∧ par.length ≤ 4 ∧ (1 ≤ tsk.length ∧ tsk.length ≤ 6)) := by
    unfold Hid
    refine ⟨by assumption, by assumption, ?_, ?_, ?_, ?_⟩ <;> omega
  have e4 : w3.cell? ⟨w.heap.size, 4, none⟩ = some (.slice a1 par.length c1) := (blk_cell X3.out 4).trans rfl
  have HI0 : Hid (Below w3.heap.size w3 w3 ∧ parU id par 0) := ⟨Below.refl _ _, parU_zero _ _⟩
  have lz := lz3
  clear hc2 hf2 hc3 hf3 lz2 lz3 hb2 hb3 HNA
  go_wp2_with fail
  go_loopw [56] (fun c wr => ∃ i : Nat, c = .int .i64 i ∧ i ≤ par.length ∧ Hid (Below w3.heap.size w3 wr ∧ parU id par i)) (fun c _ => par.length - (intOf c).toNat)
  case atStart => exact ⟨0, rfl, Nat.zero_le _, HI0⟩
  case round =>
    clear HI0 e4
    obtain ⟨i, rfl, hi, HI⟩ := hrel
    have lzr : w.heap.size < wr.heap.size := Nat.lt_of_lt_of_le lz HI.out.1.size
    have XR : wr.heap[w.heap.size]? = some (.cells #[.int .i64 id, .string ten, .int .i64 pri, .int .i64 run, .slice a1 par.length c1, .slice a2 tsk.length c2, .int .i64 st, .int .i64 att, .slice a3 nod.length c3, .int .i64 start, .slice a4 don.length c4] 31 (0, 0)) := (HI.out.1.block _ lz).trans X3.out
    have e0 : wr.cell? ⟨w.heap.size, 0, none⟩ = some (.int .i64 id) := (blk_cell XR 0).trans rfl
    have e4 : wr.cell? ⟨w.heap.size, 4, none⟩ = some (.slice a1 par.length c1) := (blk_cell XR 4).trans rfl
    have BR := hid (B3.out.trans (HI.out.1.mono B3.out.size))
    by_cases hin : i < par.length
    · obtain ⟨b, off, rfl, hbl, hcb⟩ := slZ_at HM.out.p BR.out hin
      obtain ⟨p, hp⟩ : ∃ p, p = par.getD i 0 := ⟨_, rfl⟩
      rw [← hp] at hcb
      have HP : Hid (par[i]? = some p) := by
        unfold Hid
        rw [hp, List.getD_eq_getElem?_getD, List.getElem?_eq_getElem hin]; rfl
      have hii : (i : Int) < (par.length : Int) := by omega
      have HIN := hid hin
      cases i with
      | zero =>
        clear hp hin hi XR
        simp only [Nat.add_zero] at hcb
        go_wp2_with (first | (go_at_call 69; refine (wid_any _ _).mono ?_; rintro e w5 ⟨rfl, hb5⟩; obtain ⟨hc5, hf5⟩ := bcell hb5))
        all_goals first
          | (go_ret; exact (HF.out _ (by rintro ⟨f1, f2, f3, f4, f5, f6, f7, f8, f9, f10⟩; simp only at f7; rw [parU_bad HP.out (by first | (left; simpa using ‹¬ idB p = true›) | (right; left; assumption))] at f7; cases f7) (BR.out.trans (hb5.mono BR.out.size))).out)
          | skip
        go_roundw
        case rel => exact ⟨1, by go_num, HIN.out, HI.out.1.trans (hb5.mono HI.out.1.size), parU_next HI.out.2 HP.out (by assumption) (by assumption) (.inl rfl)⟩
        case measure => have := HIN.out; simp [intOf]; omega
      | succ k =>
        have hkl : k < par.length := by have := HIN.out; omega
        obtain ⟨b', off', e', -, hcb2⟩ := slZ_at (i := k) HM.out.p BR.out hkl
        injection e' with e'
        injection e' with e1 e2
        subst e1 e2
        clear hkl
        obtain ⟨q, hq⟩ : ∃ q, q = par.getD k 0 := ⟨_, rfl⟩
        rw [← hq] at hcb2
        have HQ := hid hq
        clear hp hin hi XR hq
        go_wp2_with (first | (go_at_call 69; refine (wid_any _ _).mono ?_; rintro e w5 ⟨rfl, hb5⟩; obtain ⟨hc5, hf5⟩ := bcell hb5))
        all_goals first
          | (go_ret; exact (HF.out _ (by rintro ⟨f1, f2, f3, f4, f5, f6, f7, f8, f9, f10⟩; simp only at f7; rw [parU_bad HP.out (by first | (left; simpa using ‹¬ idB p = true›) | (right; left; assumption) | (right; right; rw [Nat.add_sub_cancel, ← HQ.out]; exact ⟨Nat.succ_pos _, by rcases ‹(p == id) = true ∨ p ≤ q› with h | h; exact absurd (beq_iff_eq.1 h) ‹¬ p = id›; exact h⟩))] at f7; cases f7) (BR.out.trans (hb5.mono BR.out.size))).out)
          | skip
        go_roundw
        case rel => exact ⟨k + 1 + 1, by go_num, HIN.out, HI.out.1.trans (hb5.mono HI.out.1.size), parU_next HI.out.2 HP.out (by assumption) (by assumption) (.inr (by rw [Nat.add_sub_cancel, ← HQ.out]; exact (‹(p == id) = false ∧ q < p›).2))⟩
        case measure => have := HIN.out; simp [intOf]; omega
    · obtain rfl : i = par.length := by omega
      have hii : ¬ (par.length : Int) < (par.length : Int) := by omega
      have PAR := hid (parU_all HI.out.2)
      clear hin hi XR e0
      have e5 : wr.cell? ⟨w.heap.size, 5, none⟩ = some (.slice a2 tsk.length c2) := (blk_cell ((HI.out.1.block _ lz).trans X3.out) 5).trans rfl
      have HJ0 : Hid (Below wr.heap.size wr wr ∧ (tsk.take 0).all okV = true) := ⟨Below.refl _ _, by rw [List.take_zero]; rfl⟩
      have XR := hid ((HI.out.1.block _ lz).trans X3.out)
      clear HI e4
      rename World => wo
      go_wp2_with fail
      go_loopw [88] (fun c wr => ∃ i : Nat, c = .int .i64 i ∧ i ≤ tsk.length ∧ Hid (Below wo.heap.size wo wr ∧ (tsk.take i).all okV = true)) (fun c _ => tsk.length - (intOf c).toNat)
      case atStart => exact ⟨0, rfl, Nat.zero_le _, HJ0⟩
      case round =>
        clear HJ0 e5
        obtain ⟨i, rfl, hi, HI⟩ := hrel
        have BR2 := hid (BR.out.trans (HI.out.1.mono BR.out.size))
        by_cases hin : i < tsk.length
        · obtain ⟨b, off, rfl, hbl, q0, q1, q2, q3⟩ := slV_at HM.out.t BR2.out hin
          obtain ⟨v, hv⟩ : ∃ v, v = tsk.getD i zeroV := ⟨_, rfl⟩
          rw [← hv] at q0 q1 q2 q3
          have HV : Hid (tsk[i]? = some v) := by
            unfold Hid
            rw [hv, List.getD_eq_getElem?_getD, List.getElem?_eq_getElem hin]; rfl
          have hii : (i : Int) < (tsk.length : Int) := by omega
          have HIN := hid hin
          clear hv hin hi
          go_wp2_with (first | (go_at_call 41; refine (vecf_any v _).mono ?_; rintro e w5 ⟨rfl, hb5⟩))
          all_goals first
            | (go_ret; exact (HF.out _ (by rintro ⟨f1, f2, f3, f4, f5, f6, f7, f8, f9, f10⟩; simp only at f8; rw [List.all_eq_true] at f8; have f8v := f8 v (List.mem_of_getElem? HV.out); have hx := ‹(!okV v) = true›; rw [f8v] at hx; cases hx) (BR2.out.trans ((below_one hb5).mono BR2.out.size))).out)
            | skip
          go_roundw
          case rel => exact ⟨i + 1, by go_num, HIN.out, HI.out.1.trans ((below_one hb5).mono HI.out.1.size), by rw [List.take_add_one, HV.out, List.all_append, HI.out.2]; simpa using ‹(!okV v) = false›⟩
          case measure => have := HIN.out; simp [intOf]; omega
        · obtain rfl : i = tsk.length := by omega
          have hii : ¬ (tsk.length : Int) < (tsk.length : Int) := by omega
          have TSK : Hid (tsk.all okV = true) := by have := HI.out.2; rw [List.take_length] at this; exact this
          clear hin hi
          have XW := (HI.out.1.block _ lzr).trans XR.out
          have e6 : wr.cell? ⟨w.heap.size, 6, none⟩ = some (.int .i64 st) := (blk_cell XW 6).trans rfl
          have e7 : wr.cell? ⟨w.heap.size, 7, none⟩ = some (.int .i64 att) := (blk_cell XW 7).trans rfl
          have e8 : wr.cell? ⟨w.heap.size, 8, none⟩ = some (.slice a3 nod.length c3) := (blk_cell XW 8).trans rfl
          have e9 : wr.cell? ⟨w.heap.size, 9, none⟩ = some (.int .i64 start) := (blk_cell XW 9).trans rfl
          have e10 : wr.cell? ⟨w.heap.size, 10, none⟩ = some (.slice a4 don.length c4) := (blk_cell XW 10).trans rfl
          have i1 := HI1.out
          clear XW
          go_wp2
          all_goals go_ret
          all_goals refine ⟨congrArg (fun b => Ending.returned (Value.bool b)) ?_, BR2.out⟩
          all_goals clear e6 e7 e8 e9 e10 i1
          all_goals first
            | exact (jobB_no (fun f => by obtain ⟨f1, f2, f3, f4, f5, f6, f7, f8, f9, f10⟩ := f; simp only at f9; omega)).symm
            | skip
          obtain rfl : st = 0 := by assumption
          obtain rfl : att = 0 := by assumption
          obtain rfl : start = 0 := by assumption
          by_cases hz : nod = [] ∧ don = []
          · have hj : JbF ⟨id, ten, pri, run, par, tsk, 0, 0, nod, 0, don⟩ := ⟨GD.out.1, GD.out.2.1, GD.out.2.2.1, GD.out.2.2.2.1, GD.out.2.2.2.2.1, GD.out.2.2.2.2.2, PAR.out, TSK.out, ⟨rfl, rfl, rfl⟩, hz⟩
            rw [(jobB_iff _).2 hj]
            obtain ⟨rfl, rfl⟩ := hz
            rfl
          · rw [jobB_no (fun f => hz f.nod), beq_eq_false_iff_ne]
            intro h
            exact hz ⟨List.eq_nil_of_length_eq_zero (by omega), List.eq_nil_of_length_eq_zero (by omega)⟩
end Go.Proofs.YtidcbcljeofooaaGreatDoor
