/- Chapter 12's reference graph: Free. -/
import Derived.Test.YtolfioiccmmifaaDrA
namespace Go.Proofs.Ytolfioiccmmifaa
open Go.RowKit
variable {B H g cap : Nat} {w w' : World} {P P' : Nat → Value} {G G' : Gr} {J J' : List Nat} {v : Value}
/-- Its cells, in whatever world comes behind. -/
theorem RefJ.facts {A : Option Addr} {n : Nat} (h : RefJ B w H (.slice A n cap) P G J) {i x : Nat} (hx : J[i]? = some x) : ∃ g, A = some ⟨g, 0, none⟩ ∧ n = J.length ∧ g ≠ H ∧ ∀ W, Below w.heap.size w W → H < W.heap.size ∧ g < W.heap.size ∧ W.cell? ⟨H, 0, none⟩ = some (.slice (some ⟨g, 0, none⟩) J.length cap) ∧
    ∀ i x, J[i]? = some x → W.cell? ⟨g, i * 3, none⟩ = some (.int .i64 (x : Nat)) ∧ W.cell? ⟨g, i * 3 + 1, none⟩ = some (P x) ∧ W.cell? ⟨g, i * 3 + 2, none⟩ = some (.int .i64 (G.st x : Nat)) := by
  obtain ⟨g, cap2, e, hgH, hgl, -, hc⟩ := h.open_ (by obtain ⟨_, _⟩ := getq hx; omega)
  injection e with e1 e2 e3
  subst e1 e2 e3
  refine ⟨g, rfl, rfl, hgH, fun W hb => ⟨Nat.lt_of_lt_of_le h.ltH hb.size, Nat.lt_of_lt_of_le hgl hb.size, ?_, fun i x hi => ?_⟩⟩
  · rw [hb.cell h.ltH]; exact h.head.1
  · rw [hb.cell hgl, hb.cell hgl, hb.cell hgl]; exact hc i x hi
/-- The parents' row of a job, in whatever world comes behind. -/
theorem RefJ.rowOf (h : RefJ B w H v P G J) {x : Nat} (hx : x ∈ J) {A : Option Addr} {n c : Nat} (e : P x = .slice A n c) : n = (G.pa x).length ∧ ∀ W, Below w.heap.size w W → W.ownsRow B 2 1 (.slice A n c) n (rowD (G.pa x)) := by
  have hr := h.par x hx
  rw [e] at hr
  obtain ⟨A2, c2, e2⟩ := row_shape hr
  injection e2 with e3 e4 e5
  subst e4
  refine ⟨rfl, fun W hb => ?_⟩
  have := (h.below hb).par x hx
  rw [e] at this
  exact this
/-- Is it free, as a list of jobs tells? -/
def Gr.frR (G : Gr) (J : List Nat) (x : Int) : Prop := ∃ y ∈ J, x = ((y : Nat) : Int) ∧ G.st y = 1 ∧ ∀ p ∈ G.pa y, p ∈ J ∧ G.st p = 2
instance (G : Gr) (J : List Nat) (x : Int) : Decidable (G.frR J x) := by unfold Gr.frR; infer_instance
set_option maxRecDepth 20000 in
set_option maxHeartbeats 8000000 in
theorem rfree_g (h : RefJ B w H v P G J) (hn : J.Nodup) (hm : J.length ≤ 1000) (hq : ∀ x ∈ J, (G.pa x).length ≤ 1000) (x : Int) : Calls Try.prog 19 #[.pointer (some ⟨H, 0, none⟩), .int .i64 x] w fun e w' => e = .returned (.bool (decide (G.frR J x))) ∧ Below w.heap.size w w' := by
  have HV := hid h
  have hl := h.ltH
  have HN := hid hn
  have HM := hid hm
  have HF := hid (find_g h hm x)
  obtain ⟨r, hr⟩ : ∃ r, r = decide (G.frR J x) := ⟨_, rfl⟩
  have HR := hid hr
  rw [← hr]
  have HQ := hid hq
  obtain ⟨A, cap, rfl⟩ := row_shape h.row
  obtain ⟨m, hme⟩ : ∃ m, m = J.length := ⟨_, rfl⟩
  rw [← hme] at HV
  have HME := hid hme
  have hmb : (m : Int) ≤ 1000 := by omega
  clear h hn hm hr hq hme
  go_enter Try.func19, Try.ntmps19
  go_wp2_with fail
  refine HF.out.mono ?_
  rintro e w1 ⟨⟨k, rfl, hk⟩, hb1⟩
  have HB1 := hid hb1
  rcases hk with ⟨i, y, rfl, hi, rfl⟩ | ⟨rfl, hno⟩
  case inr =>
    have F : r = false := by
      rw [HR.out]
      exact decide_eq_false fun ⟨y, hy, e, _⟩ => hno y hy e.symm
    subst F
    clear hno hb1 HF
    go_wp2
    go_ret
    exact ⟨rfl, HB1.out⟩
  case inl =>
    obtain ⟨g, rfl, e2, hgH, hfa⟩ := HV.out.facts hi
    subst e2
    have HFA := hid hfa
    have HI := hid hi
    have hyJ := List.mem_of_getElem? hi
    have hii : (i : Int) < (J.length : Int) := by obtain ⟨_, _⟩ := getq hi; omega
    obtain ⟨A2, c2, hp⟩ := row_shape (HV.out.par y hyJ)
    obtain ⟨n2, hn2⟩ : ∃ n2, n2 = (G.pa y).length := ⟨_, rfl⟩
    rw [← hn2] at hp
    have HP := hid hp
    have HRO := hid (HV.out.rowOf hyJ hp).2
    have hnb : (n2 : Int) ≤ 1000 := by have := HQ.out y hyJ; omega
    have HN2 := hid hn2
    obtain ⟨l1, l2, c0, hc⟩ := hfa w1 hb1
    obtain ⟨-, -, y2⟩ := hc i y hi
    have HYJ := hid hyJ
    clear hc hi hyJ hfa hn2 hp HF hl
    by_cases hs : G.st y = 1
    case neg =>
      have F : r = false := by
        rw [HR.out]
        refine decide_eq_false fun ⟨z, hz, e, h1, _⟩ => hs ?_
        have : z = y := by omega
        rw [← this]; exact h1
      subst F
      have hne : (((G.st y : Nat) : Int) == 1) = false := by
        simp only [beq_eq_false_iff_ne]; omega
      have hne2 : (((G.st y : Nat) : Int) != 1) = true := by simp [bne, hne]
      clear hb1 hs
      go_wp2
      go_ret
      exact ⟨rfl, HB1.out⟩
    case pos =>
      have hst : ((G.st y : Nat) : Int) = 1 := by omega
      rw [hst] at y2
      have HS := hid hs
      clear hb1 hs hst
      go_wp2_with fail
      go_loopw [6] (fun iv wr => ∃ j : Nat, j ≤ n2 ∧ iv = .int .i64 j ∧ Hid (∀ p ∈ (G.pa y).take j, p ∈ J ∧ G.st p = 2) ∧ Below w.heap.size w wr) (fun iv _ => n2 - (intOf iv).toNat)
      case atStart => exact ⟨0, Nat.zero_le _, rfl, hid (fun p hp => by rw [List.take_zero] at hp; cases hp), HB1.out⟩
      case round =>
        clear l1 l2 c0 y2
        obtain ⟨j, hj, rfl, HA, hb⟩ := hrel
        have HB := hid hb
        obtain ⟨l1, l2, c0, hc⟩ := HFA.out wr hb
        obtain ⟨-, y1, -⟩ := hc i y HI.out
        rw [HP.out] at y1
        clear hc
        by_cases hjn : j < n2
        · have HJ1 : Hid (j + 1 ≤ n2) := hjn
          have HMS : Hid (n2 - (j + 1) < n2 - j) := by unfold Hid; omega
          have hjj : (j : Int) < (n2 : Int) := by omega
          obtain ⟨g9, p, rfl, hg9, cp, hmp, hpp⟩ := row_elem (HRO.out wr hb) (i := j) (by have := HN2.out; omega)
          have HPP := hid hpp
          have HF2 := hid (find_g (HV.out.below hb) HM.out (p : Int))
          have HMP := hid hmp
          clear hjn hj hmp hpp
          go_wp2_with fail
          refine HF2.out.mono ?_
          rintro e w8 ⟨⟨k, rfl, hk⟩, hb8⟩
          have HB8 := hid (HB.out.trans (hb8.mono HB.out.size))
          clear HF2 hb8 hb l1 l2 c0 y1
          rcases hk with ⟨q, z, rfl, hqz, ez⟩ | ⟨rfl, hno⟩
          case inr =>
            have F : r = false := by
              rw [HR.out]
              refine decide_eq_false fun ⟨z, hz, e, _, h3⟩ => ?_
              have : z = y := by omega
              subst this
              exact hno p (h3 p HMP.out).1 rfl
            subst F
            clear hno
            go_wp2
            go_ret
            exact ⟨rfl, HB8.out⟩
          case inl =>
            have e3 : z = p := by omega
            subst e3
            clear ez
            obtain ⟨l1, l2, c0, hc⟩ := HFA.out w8 HB8.out
            obtain ⟨-, -, z2⟩ := hc q z hqz
            have hqq : (q : Int) < (J.length : Int) := by obtain ⟨_, _⟩ := getq hqz; omega
            have HZJ := hid (List.mem_of_getElem? hqz)
            clear hc hqz
            by_cases hs2 : G.st z = 2
            · have hst : ((G.st z : Nat) : Int) = 2 := by omega
              rw [hst] at z2
              have HA2 : Hid (∀ p ∈ (G.pa y).take (j + 1), p ∈ J ∧ G.st p = 2) := fun p hp => by
                rw [take_next HPP.out, List.mem_append, List.mem_singleton] at hp
                rcases hp with hp | rfl
                · exact HA.out p hp
                · exact ⟨HZJ.out, hs2⟩
              clear hs2 hst
              go_wp2
              go_roundw
              case rel => exact ⟨j + 1, HJ1.out, by go_num, HA2, HB8.out⟩
              case measure => have := HMS.out; simp [intOf]; omega
            · have F : r = false := by
                rw [HR.out]
                refine decide_eq_false fun ⟨z', hz, e, _, h3⟩ => ?_
                have : z' = y := by omega
                subst this
                exact hs2 (h3 z HMP.out).2
              subst F
              have hne : (((G.st z : Nat) : Int) == 2) = false := by
                simp only [beq_eq_false_iff_ne]; omega
              have hne2 : (((G.st z : Nat) : Int) != 2) = true := by simp [bne, hne]
              clear hs2
              go_wp2
              go_ret
              exact ⟨rfl, HB8.out⟩
        · have hjj : ¬ (j : Int) < (n2 : Int) := by omega
          have F : r = true := by
            rw [HR.out]
            refine decide_eq_true ⟨y, HYJ.out, rfl, HS.out, fun p hp => ?_⟩
            have := HA.out p
            rw [List.take_of_length_le (by have := HN2.out; omega)] at this
            exact this hp
          subst F
          clear hjn hj hb
          go_wp2
          go_ret
          exact ⟨rfl, HB.out⟩
end Go.Proofs.Ytolfioiccmmifaa
