/- Chapter 12's reference graph: Fail. -/
import Derived.Test.YtolfioiccmmifaaDrH
import Derived.Deep.LoopGhost
import Derived.Deep.RegionHeld3
namespace Go.Proofs.Ytolfioiccmmifaa
open Go.RowKit
variable {B H g cap : Nat} {w w' wr : World} {P P' : Nat → Value} {G G' : Gr} {J J' : List Nat} {v v' : Value}
open Classical in
/-- What goes with y. -/
noncomputable def Gr.goes (G : Gr) (y x : Nat) : Bool := decide (x ≠ y ∧ G.st x = 1 ∧ G.Rch y x)
open Classical in
theorem goes_no {y x : Nat} (h : ¬ (x ≠ y ∧ G.st x = 1 ∧ G.Rch y x)) : G.goes y x = false := by unfold Gr.goes; exact decide_eq_false h
open Classical in
theorem goes_yes {y x : Nat} (h : x ≠ y ∧ G.st x = 1 ∧ G.Rch y x) : G.goes y x = true := by unfold Gr.goes; exact decide_eq_true h
/-- All of a list are failed. -/
def Gr.fails (G : Gr) (l : List Nat) : Gr := ⟨fun x => if x ∈ l then 3 else G.st x, G.X, G.pe⟩
theorem fails_snoc (G : Gr) (l : List Nat) (x : Nat) : (G.fails l).put x 3 = G.fails (l ++ [x]) := by
  unfold Gr.fails Gr.put
  congr 1
  funext z
  by_cases e : z = x
  · subst e; rw [upd_same]; simp
  · rw [upd_ne _ _ e]
    by_cases q : z ∈ l <;> simp [q, e]
theorem fails_one (G : Gr) (x : Nat) : G.put x 3 = G.fails [x] := by
  unfold Gr.fails Gr.put
  congr 1
  funext z
  by_cases e : z = x
  · subst e; rw [upd_same]; simp
  · rw [upd_ne _ _ e]; simp [e]
/-- What is found above a job's parents tells whether it descends. -/
theorem above_rch {x y : Nat} (hs : G.st x ≠ 0) : (y ∈ G.pa x ∨ ∃ z ∈ G.pa x, G.Rch y z) ↔ G.Rch y x := by
  constructor
  · rintro (h | ⟨z, hz, h⟩)
    · exact .one ⟨hs, h⟩
    · exact .step h ⟨hs, hz⟩
  · intro h
    obtain ⟨c, h1, h2⟩ := h.last
    rcases h2 with rfl | h2
    · exact .inl h1.2
    · exact .inr ⟨c, h1.2, h2⟩
/-- What Fail answers, and what is there behind it. -/
inductive FailR (B H : Nat) (w : World) (v : Value) (P : Nat → Value) (G : Gr) (J : List Nat) (id : Int) (e : Ending) (w' : World) : Prop
  | none : (∀ y ∈ J, ((y : Nat) : Int) ≠ id) → e = .returned (.tuple #[.slice none 0 0, .int .i64 3]) → Below w.heap.size w w' → FailR B H w v P G J id e w'
  | state {y : Nat} : id = y → y ∈ J → G.st y ≠ 1 → e = .returned (.tuple #[.slice none 0 0, .int .i64 10]) → Below w.heap.size w w' → FailR B H w v P G J id e w'
  | ok {y : Nat} : id = y → y ∈ J → G.st y = 1 → (∃ v', e = .returned (.tuple #[v', .int .i64 0]) ∧ w'.ownsRow w.heap.size 2 1 v' (J.filter (G.goes y)).length (rowD (J.filter (G.goes y)))) → RefJ B w' H v P (G.fails (y :: J.filter (G.goes y))) J → Tur (FootW H v) w w' → FailR B H w v P G J id e w'
set_option maxRecDepth 100000 in
set_option maxHeartbeats 16000000 in
theorem rfail_g (id : Int) (h : RefJ B w H v P G J) (hn : J.Nodup) (ok : G.Ok) (hJ : ∀ x, x ∈ J ↔ G.st x ≠ 0) :
    Calls Try.prog 31 #[.pointer (some ⟨H, 0, none⟩), .int .i64 id] w fun e w' => FailR B H w v P G J id e w' := by
  have HV := hid h
  have HN := hid hn
  have hm : J.length ≤ 100 := len100 hn fun x hx => ok.rng x ((hJ x).1 hx)
  have HM := hid hm
  have HOK := hid ok
  have HJ := hid hJ
  obtain ⟨A0, c0, rfl⟩ := row_shape h.row
  have hlH := h.ltH
  have HF := hid (find_g h (by omega) id)
  have hJb : (J.length : Int) ≤ 100 := by omega
  clear h hn hm hJ ok
  go_enter Try.func31, Try.ntmps31
  go_wp2_with fail
  refine HF.out.mono ?_
  rintro e w1 ⟨⟨k, rfl, hk⟩, hb1⟩
  have HB1 := hid hb1
  clear HF
  rcases hk with ⟨q, y, rfl, hqy, rfl⟩ | ⟨rfl, hno⟩
  case inr =>
    have FIN := hid hno
    clear hno hb1
    go_wp2
    go_ret2
    exact .none FIN.out rfl HB1.out
  case inl =>
  have hyJ := List.mem_of_getElem? hqy
  have HYJ := hid hyJ
  have HQY := hid hqy
  have hqq : (q : Int) < (J.length : Int) := by obtain ⟨_, _⟩ := getq hqy; omega
  have hql : q < J.length := (getq hqy).1
  obtain ⟨g, rfl, -, hgH, hfa⟩ := HV.out.facts hqy
  have HV1 := hid (HV.out.below hb1)
  obtain ⟨l1, l2, m0, mf, gf, hc⟩ := HV1.out.here (by omega)
  obtain ⟨-, -, y2⟩ := hc q y hqy
  clear hc hb1 hyJ hfa hqy
  by_cases hst : G.st y = 1
  case neg =>
    have FIN := hid hst
    have hne : (((G.st y : Nat) : Int) == 1) = false := by
      simp only [beq_eq_false_iff_ne]; omega
    have hne2 : (((G.st y : Nat) : Int) != 1) = true := by simp [bne, hne]
    clear hst hql
    go_wp2
    go_ret2
    exact .state rfl HYJ.out FIN.out rfl HB1.out
  case pos =>
  have HST := hid hst
  have hs1 : ((G.st y : Nat) : Int) = 1 := by omega
  rw [hs1] at y2
  have HRA : Hid (w1.ownsRow w.heap.size 2 1 (.slice none 0 0) ([] : List Nat).length (rowD []) ∧ Below w.heap.size w w1) := ⟨World.ownsRow_nil _ _ _ _, HB1.out⟩
  clear hst hs1 HB1 hql HV1
  go_wp2_with fail
  go_loopw [7, 8] (fun sv iv wr => ∃ (i : Nat) (M : List Nat) (v : Value), i ≤ J.length ∧ v = sv ∧ iv = .int .i64 i ∧ Hid (M = (J.take i).filter (G.goes y)) ∧ Hid (wr.ownsRow w.heap.size 2 1 v M.length (rowD M) ∧ Below w.heap.size w wr)) (fun _ iv _ => J.length - (intOf iv).toNat)
  case atStart => exact ⟨0, [], _, Nat.zero_le _, rfl, rfl, hid (by simp), HRA⟩
  case round =>
    clear HRA l1 l2 m0 mf gf y2
    obtain ⟨i, M, v, hi, rfl, rfl, HM', HI⟩ := hrel
    obtain ⟨A5, c5, rfl⟩ := row_shape HI.out.1
    have HVR := hid (HV.out.below HI.out.2)
    obtain ⟨l1, l2, m0, mf, gf, hc⟩ := HVR.out.here (by obtain ⟨_, _⟩ := getq HQY.out; omega)
    by_cases hin : i < J.length
    · have HI1 : Hid (i + 1 ≤ J.length) := hin
      have HMS : Hid (J.length - (i + 1) < J.length - i) := by unfold Hid; omega
      have hii : (i : Int) < (J.length : Int) := by omega
      obtain ⟨x, hx⟩ : ∃ x, J[i]? = some x := ⟨_, List.getElem?_eq_getElem hin⟩
      have HX := hid hx
      have hxJ := List.mem_of_getElem? hx
      obtain ⟨x0, x1, x2⟩ := hc i x hx
      have NEXT : G.goes y x = false → Hid (M = (J.take (i + 1)).filter (G.goes y)) := fun e => by
        unfold Hid
        rw [filter_nextN HX.out, e, HM'.out]; simp
      by_cases hiq : i = q
      · have hxy : x = y := by
          have := HQY.out
          rw [← hiq, hx] at this
          injection this
        have HM2 := NEXT (goes_no fun q => q.1 hxy)
        have hne : ((i : Int) == (q : Int)) = false ∨ True := .inr trivial
        have hne2 : ((i : Int) != (q : Int)) = false := by rw [hiq]; simp
        clear hc hin hi hx hxJ NEXT hiq hxy hne HM' HVR
        go_wp2
        go_roundw
        case rel => exact ⟨i + 1, M, _, HI1.out, rfl, by go_num, HM2, HI⟩
        case measure => have := HMS.out; simp [intOf]; omega
      · have hxy : x ≠ y := fun e => hiq (nodup_at HN.out hx (e ▸ HQY.out))
        have hne : ((i : Int) == (q : Int)) = false := by simp only [beq_eq_false_iff_ne]; omega
        have hne2 : ((i : Int) != (q : Int)) = true := by simp [bne, hne]
        by_cases hs : G.st x = 1
        · have hs1 : ((G.st x : Nat) : Int) = 1 := by omega
          rw [hs1] at x2
          obtain ⟨A7, c7, hp7⟩ := row_shape (HVR.out.par x hxJ)
          have HAB := above_g (c := c7) HVR.out HN.out (by have := HM.out; omega) HOK.out HJ.out (slz_row (by have := HVR.out.par x hxJ; rw [hp7] at this; exact this)) (nodup_of_lt (HOK.out.psort x)) (HOK.out.pr x)
          obtain ⟨n7, hn7⟩ : ∃ n7, n7 = (G.pa x).length := ⟨_, rfl⟩
          rw [← hn7] at hp7 HAB
          rw [hp7] at x1
          have HAB := hid HAB
          have HS := hid hs
          have HXY := hid hxy
          have HNX := hid NEXT
          clear hc hin hi hx hxJ NEXT hiq hxy hs hs1 hp7 hn7
          go_wp2_with fail
          refine HAB.out.mono ?_
          rintro e w8 ⟨v8, rfl, out, hrow8, hol, hom, hb8⟩
          obtain ⟨A6, c6, rfl⟩ := row_shape hrow8
          have HIN := hid (in_any (cap := c6) (y : Int) (slz_row hrow8) (by omega))
          have HI8 : Hid (w8.ownsRow w.heap.size 2 1 (.slice A5 M.length c5) M.length (rowD M) ∧ Below w.heap.size w w8) := ⟨rowN_kept HI.out.1 fun k hk => hb8.block k (HI.out.1.lt k hk).2, HI.out.2.trans (hb8.mono HI.out.2.size)⟩
          have HV8 := hid (HV.out.below HI8.out.2)
          have HOM : Hid (y ∈ out ↔ G.Rch y x) := (hom y).trans (above_rch (by have := HS.out; omega))
          have hob : (out.length : Int) ≤ 100 := by omega
          clear l1 l2 m0 mf gf x0 x1 x2 HAB hrow8 hol hom hb8 HVR HI
          obtain ⟨l1, l2, m0, mf, gf, hc⟩ := HV8.out.here (by obtain ⟨_, _⟩ := getq HQY.out; omega)
          obtain ⟨x0, -, -⟩ := hc i x HX.out
          clear hc
          by_cases hyo : y ∈ out
          · rw [decide_eq_true (memZ.2 hyo)] at HIN
            have hML : M.length ≤ 100 := by
              rw [HM'.out]
              have := List.length_filter_le (G.goes y) (J.take i)
              rw [List.length_take] at this
              have := HM.out
              omega
            have hMb : (M.length : Int) ≤ 100 := by omega
            obtain ⟨A9, c9, w9, happ, hrow9, hb9⟩ := row_app (x := x) HI8.out.1 (by omega) HI8.out.2.size
            have HAPP := hid happ
            have HM2 : Hid (M ++ [x] = (J.take (i + 1)).filter (G.goes y)) := by
              unfold Hid
              rw [filter_nextN HX.out, goes_yes ⟨HXY.out, HS.out, HOM.out.1 hyo⟩, HM'.out]; rfl
            have HR9 : Hid (w9.ownsRow w.heap.size 2 1 (.slice A9 (M.length + 1) c9) (M ++ [x]).length (rowD (M ++ [x])) ∧ Below w.heap.size w w9) := ⟨by rw [List.length_append]; exact hrow9, HI8.out.2.trans hb9⟩
            clear hyo HOM HNX hML happ hrow9 hb9 HI8 HV8 HM'
            go_wp2_with fail
            refine HIN.out.mono ?_
            rintro e w10 ⟨rfl, rfl⟩
            clear HIN
            go_wp2_with (first | (at_builtin; refine wpList_append_eq rfl _ _ _ rfl rfl rfl HAPP.out ?_))
            go_roundw
            case rel => exact ⟨i + 1, M ++ [x], _, HI1.out, rfl, by go_num, HM2, HR9⟩
            case measure => have := HMS.out; simp [intOf]; omega
          · rw [decide_eq_false (fun q => hyo (memZ.1 q))] at HIN
            have HM2 := HNX.out (goes_no fun q => hyo (HOM.out.2 q.2.2))
            clear hyo HOM HNX HV8 HM'
            go_wp2_with fail
            refine HIN.out.mono ?_
            rintro e w10 ⟨rfl, rfl⟩
            clear HIN
            go_wp2
            go_roundw
            case rel => exact ⟨i + 1, M, _, HI1.out, rfl, by go_num, HM2, HI8⟩
            case measure => have := HMS.out; simp [intOf]; omega
        · have HM2 := NEXT (goes_no fun q => hs q.2.1)
          have hne3 : (((G.st x : Nat) : Int) == 1) = false := by
            simp only [beq_eq_false_iff_ne]; omega
          clear hc hin hi hx hxJ NEXT hiq hxy HM' HVR hs
          go_wp2
          go_roundw
          case rel => exact ⟨i + 1, M, _, HI1.out, rfl, by go_num, HM2, HI⟩
          case measure => have := HMS.out; simp [intOf]; omega
    · have hii : ¬ (i : Int) < (J.length : Int) := by omega
      obtain ⟨-, -, y2⟩ := hc q y HQY.out
      have S := HVR.out.setSt HN.out HQY.out 3
      rw [show ((3 : Nat) : Int) = 3 by rfl] at S
      have S1 : RefJ B (wr.setCell ⟨g, q * 3 + 2, none⟩ (.int .i64 3)) H (.slice (some ⟨g, 0, none⟩) J.length c0) P (G.put y 3) J := S.1
      rw [fails_one] at S1
      have eM : M = J.filter (G.goes y) := by rw [HM'.out, List.take_of_length_le (by omega)]
      have HEM := hid eM
      have HML : Hid (M.length ≤ 100) := by
        have := List.length_filter_le (G.goes y) J
        rw [← eM] at this
        have := HM.out
        unfold Hid; omega
      have HL2 : Hid ((wr.setCell ⟨g, q * 3 + 2, none⟩ (.int .i64 3)).ownsRow w.heap.size 2 1 (.slice A5 M.length c5) M.length (rowD M) ∧ RefJ B (wr.setCell ⟨g, q * 3 + 2, none⟩ (.int .i64 3)) H (.slice (some ⟨g, 0, none⟩) J.length c0) P (G.fails (y :: M.take 0)) J ∧ Tur (FootW H (.slice (some ⟨g, 0, none⟩) J.length c0)) w (wr.setCell ⟨g, q * 3 + 2, none⟩ (.int .i64 3))) := ⟨HVR.out.parKept S.2 HI.out.1, S1, (Tur.of_below HI.out.2).then S.2⟩
      have hMb : (M.length : Int) ≤ 100 := by have := HML.out; omega
      clear hc hin hi HI S S1 eM HM' HVR
      go_wp2_with fail
      go_loopg [9] M.length (fun gk jv wr => ∃ j : Nat, j + gk = M.length ∧ jv = .int .i64 j ∧ Hid (wr.ownsRow w.heap.size 2 1 (.slice A5 M.length c5) M.length (rowD M) ∧ RefJ B wr H (.slice (some ⟨g, 0, none⟩) J.length c0) P (G.fails (y :: M.take j)) J ∧ Tur (FootW H (.slice (some ⟨g, 0, none⟩) J.length c0)) w wr))
      case atStart => exact ⟨0, by omega, rfl, HL2⟩
      case round =>
        clear HL2 l1 l2 m0 mf gf y2
        obtain ⟨j, hj, rfl, HI⟩ := hrel
        have HGJ := hid hj
        have hql : 0 < J.length := by obtain ⟨_, _⟩ := getq HQY.out; omega
        obtain ⟨l1, l2, m0, mf, gf, hc⟩ := HI.out.2.1.here hql
        by_cases hjn : j < M.length
        · have hjj : (j : Int) < (M.length : Int) := by omega
          have hjb : (j : Int) ≤ 100 := by omega
          obtain ⟨g9, p, rfl, hg9, cp, hmp, hpp⟩ := row_elem HI.out.1 hjn
          have HPP := hid hpp
          have hpJ : p ∈ J := by rw [HEM.out] at hmp; exact (List.mem_filter.1 hmp).1
          obtain ⟨a, ha, ea⟩ := List.mem_iff_getElem.1 hpJ
          have haq : J[a]? = some p := by rw [List.getElem?_eq_getElem ha, ea]
          have HAQ := hid haq
          have haa : (a : Int) < (J.length : Int) := by omega
          obtain ⟨-, -, a2⟩ := hc a p haq
          obtain ⟨sa, hsa⟩ : ∃ sa : Int, sa = (((G.fails (y :: M.take j)).st p : Nat) : Int) := ⟨_, rfl⟩
          rw [← hsa] at a2
          have HFI : Hid (∀ W, Below wr.heap.size wr W → Calls Try.prog 32 #[.pointer (some ⟨H, 0, none⟩), .int .i64 p] W fun e w' => e = .returned (.int .i64 a) ∧ Below W.heap.size W w') := fun W hb => find_yes (HI.out.2.1.below hb) (by have := HM.out; omega) HN.out HAQ.out
          have KEEP : Hid (∀ W, Below wr.heap.size wr W → H < W.heap.size ∧ g < W.heap.size ∧ W.cell? ⟨H, 0, none⟩ = some (.slice (some ⟨g, 0, none⟩) J.length c0) ∧ (∀ o, W.frozen? ⟨g, o, none⟩ = false) ∧ W.cell? ⟨g, a * 3 + 2, none⟩ = some (.int .i64 sa) ∧ W.cell? ⟨g9, j, none⟩ = some (.int .i64 (p : Nat))) := fun W hb => by
            obtain ⟨h1, h2, h3, h4, h5, h6⟩ := (HI.out.2.1.below hb).here hql
            refine ⟨h1, h2, h3, h5, by rw [hb.cell l2]; exact a2, by rw [hb.cell hg9]; exact cp⟩
          have FIN : Hid (∀ W, Below wr.heap.size wr W → Hid ((W.setCell ⟨g, a * 3 + 2, none⟩ (.int .i64 3)).ownsRow w.heap.size 2 1 (.slice (some ⟨g9, 0, none⟩) M.length c5) M.length (rowD M) ∧ RefJ B (W.setCell ⟨g, a * 3 + 2, none⟩ (.int .i64 3)) H (.slice (some ⟨g, 0, none⟩) J.length c0) P (G.fails (y :: M.take (j + 1))) J ∧ Tur (FootW H (.slice (some ⟨g, 0, none⟩) J.length c0)) w (W.setCell ⟨g, a * 3 + 2, none⟩ (.int .i64 3)))) := fun W hb => by
            have hW := HI.out.2.1.below hb
            have S := hW.setSt HN.out HAQ.out 3
            rw [show ((3 : Nat) : Int) = 3 by rfl] at S
            have S1 : RefJ B (W.setCell ⟨g, a * 3 + 2, none⟩ (.int .i64 3)) H (.slice (some ⟨g, 0, none⟩) J.length c0) P ((G.fails (y :: M.take j)).put p 3) J := S.1
            rw [fails_snoc, List.cons_append, ← take_next HPP.out] at S1
            exact ⟨hW.parKept S.2 (rowN_kept HI.out.1 fun k hk => hb.block k (HI.out.1.lt k hk).2), S1, (HI.out.2.2.then (Tur.of_below hb)).then S.2⟩
          clear hc hpJ haq ha ea hsa hmp hpp HI
          go_upto_region 16 with (fail)
          have BEL : Below wr.heap.size wr wr.drew := Below.drew (Below.refl _ _)
          obtain ⟨h1, h2, h3, h4, h5, h6⟩ := KEEP.out _ BEL
          go_region_with (go_at_call 32; refine (HFI.out _ BEL).mono ?_; rintro e w9 ⟨rfl, hb9⟩; have HB9 : Hid (Below wr.heap.size wr w9) := BEL.trans (hb9.mono BEL.size); obtain ⟨k1, k2, k3, k4, k5, k6⟩ := KEEP.out _ HB9.out)
          all_goals
            have F9 := FIN.out _ HB9.out
            clear k1 k2 k3 k4 k5 k6 h1 h2 h3 h4 h5 h6
            go_wp2_with fail
            go_roundg (M.length - (j + 1))
            case rel => exact ⟨j + 1, by omega, by go_num, F9⟩
            case measure => omega
        · obtain rfl : j = M.length := by omega
          have hjj : ¬ (M.length : Int) < (M.length : Int) := by omega
          have FIN : Hid (wr.ownsRow w.heap.size 2 1 (.slice A5 M.length c5) (J.filter (G.goes y)).length (rowD (J.filter (G.goes y))) ∧ RefJ B wr H (.slice (some ⟨g, 0, none⟩) J.length c0) P (G.fails (y :: J.filter (G.goes y))) J ∧ Tur (FootW H (.slice (some ⟨g, 0, none⟩) J.length c0)) w wr) := ⟨by rw [← HEM.out]; exact HI.out.1, by rw [← HEM.out]; have := HI.out.2.1; rw [List.take_length] at this; exact this, HI.out.2.2⟩
          clear hc hjn HI hj
          go_wp2
          go_ret2
          exact .ok rfl HYJ.out HST.out ⟨_, rfl, FIN.out.1⟩ FIN.out.2.1 FIN.out.2.2
end Go.Proofs.Ytolfioiccmmifaa
