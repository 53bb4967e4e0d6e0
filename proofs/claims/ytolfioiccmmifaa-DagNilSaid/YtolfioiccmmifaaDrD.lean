/- Chapter 12's reference graph: Above. -/
import Derived.Test.YtolfioiccmmifaaDrC
namespace Go.Proofs.Ytolfioiccmmifaa
open Go.RowKit
variable {B H g cap : Nat} {w w' : World} {P P' : Nat → Value} {G G' : Gr} {J J' : List Nat} {v : Value}
/-- What is found above l, as far as the first i are gone through. -/
structure Aw (G : Gr) (l out : List Nat) (i : Nat) : Prop where
  nd : out.Nodup
  inl : ∀ x ∈ l, x ∈ out
  from_ : ∀ x ∈ out, x ∈ l ∨ ∃ y ∈ l, G.Rch x y
  clo : ∀ y ∈ out.take i, ∀ p ∈ G.pa y, p ∈ out
theorem Aw.start {l : List Nat} (hn : l.Nodup) : Aw G l l 0 := ⟨hn, fun _ h => h, fun _ h => .inl h, fun y hy => by rw [List.take_zero] at hy; cases hy⟩
theorem Aw.rng {l out : List Nat} {i : Nat} (h : Aw G l out i) (ok : G.Ok) (hl : ∀ x ∈ l, 1 ≤ x ∧ x ≤ 100) : ∀ x ∈ out, 1 ≤ x ∧ x ≤ 100 := fun x hx => by
  rcases h.from_ x hx with q | ⟨y, -, q⟩
  · exact hl x q
  · exact (ok.rch q).1
theorem Aw.len {l out : List Nat} {i : Nat} (h : Aw G l out i) (ok : G.Ok) (hl : ∀ x ∈ l, 1 ≤ x ∧ x ≤ 100) : out.length ≤ 100 := len100 h.nd (h.rng ok hl)
theorem Aw.add {l out : List Nat} {i y p : Nat} (h : Aw G l out i) (ok : G.Ok) (hi : i ≤ out.length) (hy : y ∈ out) (hp : p ∈ G.pa y) (hno : p ∉ out) : Aw G l (out ++ [p]) i := by
  have hst : G.st y ≠ 0 := fun e => by rw [ok.abs y e] at hp; cases hp
  have hpar : G.Par p y := ⟨hst, hp⟩
  refine ⟨List.nodup_append.2 ⟨h.nd, by simp, fun a ha b hb e => ?_⟩, fun x hx => by simp [h.inl x hx], fun x hx => ?_, fun z hz q hq => ?_⟩
  · rw [List.mem_singleton] at hb
    subst hb; subst e
    exact hno ha
  · rw [List.mem_append, List.mem_singleton] at hx
    rcases hx with hx | rfl
    · exact h.from_ x hx
    · right
      rcases h.from_ y hy with q | ⟨z, hz, q⟩
      · exact ⟨y, q, .one hpar⟩
      · exact ⟨z, hz, .head hpar (.inr q)⟩
  · rw [List.take_append_of_le_length hi] at hz
    simp [h.clo z hz q hq]
theorem Aw.next {l out : List Nat} {i y : Nat} (h : Aw G l out i) (hy : out[i]? = some y) (hp : ∀ p ∈ G.pa y, p ∈ out) : Aw G l out (i + 1) := by
  refine ⟨h.nd, h.inl, h.from_, fun z hz q hq => ?_⟩
  rw [take_next hy, List.mem_append, List.mem_singleton] at hz
  rcases hz with hz | rfl
  · exact h.clo z hz q hq
  · exact hp q hq
theorem Aw.done {l out : List Nat} (h : Aw G l out out.length) (x : Nat) : x ∈ out ↔ x ∈ l ∨ ∃ y ∈ l, G.Rch x y := by
  refine ⟨h.from_ x, fun q => ?_⟩
  rcases q with q | ⟨y, hy, q⟩
  · exact h.inl x q
  · have key : ∀ a b, G.Rch a b → b ∈ out → a ∈ out := by
      intro a b hr
      induction hr with
      | one hp => exact fun hb => h.clo _ (by rw [List.take_length]; exact hb) _ hp.2
      | step _ hp ih => exact fun hb => ih (h.clo _ (by rw [List.take_length]; exact hb) _ hp.2)
    exact key x y q (h.inl y hy)
/-- One more is put behind an own row. -/
theorem row_app {b n cap x : Nat} {A : Option Addr} {xs : List Nat} (ho : w.ownsRow b 2 1 (.slice A n cap) n (rowD xs)) (hn : n ≤ 100000) (hb : b ≤ w.heap.size) :
    ∃ A' cap' w', (Builtin.append_ #[31, 31] 31 #[.slice A n cap, .slice (some ⟨w.heap.size, 0, none⟩) 1 1]).run Try.prog (w.alloc (.cells #[.int .i64 (x : Int)] 2)) = .ok (.slice A' (n + 1) cap') w' ∧
      w'.ownsRow b 2 1 (.slice A' (n + 1) cap') (n + 1) (rowD (xs ++ [x])) ∧ Below b w w' := by
  have hb0 : Below w.heap.size w (w.alloc (.cells #[.int .i64 (x : Int)] 2)) := (by repeat (first | with_reducible assumption | with_reducible exact Below.refl _ _ | with_reducible refine Below.drew ?_ | with_reducible refine below_drewN ?_ _ | with_reducible refine below_alloc ?_ _ | with_reducible refine Below.alloc ?_ (by first | omega | (simp; done) | (simp; omega)) _ | with_reducible refine Below.setCell ?_ (by first | omega | (simp; done) | (simp; omega)) _ | with_reducible refine below_setRow ?_ (by first | omega | (simp; done) | (simp; omega)) _))
  have ha : (w.alloc (.cells #[.int .i64 (x : Int)] 2)).heap[w.heap.size]? = some (.cells #[.int .i64 (x : Int)] 2 (0, 0)) := alloc_at w _
  obtain ⟨A', cap', w', happ, hown, hG, -⟩ := app_src (cap2 := 1) (rowN_kept ho fun k hk => hb0.block k (ho.lt k hk).2) (slz_one ha) (by omega) (Nat.le_trans hb hb0.size)
  rw [toZ_snoc] at hown
  have t : Tur (fun g => (Value.slice A n cap).ownBlock = some g) w w' := (Tur.of_below hb0).then (Tur.of_grown hG (fun g hg => .inl hg))
  exact ⟨A', cap', w', happ, hown, t.below hb (fun g hg => (ho.lt g hg).1)⟩
theorem memZ {y : Nat} {M : List Nat} : ((y : Int) ∈ toZ M) ↔ y ∈ M := by
  rw [toZ_mem]
  constructor
  · rintro ⟨z, hz, e⟩
    have : z = y := by omega
    subst this
    exact hz
  · exact fun h => ⟨y, h, rfl⟩
/-- A list that came in. -/
theorem slz_elem {A : Option Addr} {n i : Nat} {l : List Nat} (h : SlZ w A n (toZ l)) (hi : i < n) : ∃ b off x, A = some ⟨b, off, none⟩ ∧ b < w.heap.size ∧ l[i]? = some x ∧ ∀ wr, Below w.heap.size w wr → wr.cell? ⟨b, off + i, none⟩ = some (.int .i64 (x : Nat)) := by
  obtain ⟨h1, h2 | ⟨b, off, rfl, hl, hc⟩⟩ := h
  · rw [h2] at h1; simp at h1; omega
  · have hl2 : (toZ l).length = l.length := by simp
    have hi2 : i < l.length := by omega
    refine ⟨b, off, l[i], rfl, hl, List.getElem?_eq_getElem hi2, fun wr hb => ?_⟩
    rw [hb.cell hl, hc i (by omega), List.getD_eq_getElem?_getD, List.getElem?_map, List.getElem?_eq_getElem hi2]
    rfl
/-- What Above has found. -/
def AboveP (w : World) (G : Gr) (l : List Nat) (v' : Value) (w' : World) : Prop :=
  ∃ out, w'.ownsRow w.heap.size 2 1 v' out.length (rowD out) ∧ out.length ≤ 100 ∧ (∀ x, x ∈ out ↔ x ∈ l ∨ ∃ y ∈ l, G.Rch x y) ∧ Below w.heap.size w w'
set_option maxRecDepth 20000 in
set_option maxHeartbeats 16000000 in
theorem above_g {A : Option Addr} {n c : Nat} {l : List Nat} (h : RefJ B w H v P G J) (hn : J.Nodup) (hm : J.length ≤ 1000) (ok : G.Ok) (hJ : ∀ x, x ∈ J ↔ G.st x ≠ 0) (hs : SlZ w A n (toZ l)) (hl : l.Nodup) (hr : ∀ x ∈ l, 1 ≤ x ∧ x ≤ 100) :
    Calls Try.prog 34 #[.pointer (some ⟨H, 0, none⟩), .slice A n c] w fun e w' => ∃ v', e = .returned v' ∧ AboveP w G l v' w' := by
  have HV := hid h
  have HN := hid hn
  have HM := hid hm
  have HOK := hid ok
  have HJ := hid hJ
  have HS := hid hs
  have HL := hid hl
  have HR := hid hr
  have hln : l.length = n := by have := hs.1; simpa using this.symm
  have HLN := hid hln
  have hn1 : n ≤ 100 := by rw [← hln]; exact len100 hl hr
  have hnb : (n : Int) ≤ 100 := by omega
  obtain ⟨A0, c0, rfl⟩ := row_shape h.row
  have hlH := h.ltH
  have HRA : Hid (w.ownsRow w.heap.size 2 1 (.slice none 0 0) ([] : List Nat).length (rowD []) ∧ Below w.heap.size w w) := ⟨World.ownsRow_nil _ _ _ _, Below.refl _ _⟩
  clear h hn hm ok hJ hs hl hr hln hn1
  go_enter Try.func34, Try.ntmps34
  go_wp2_with fail
  go_loopw [5, 6] (fun sv iv wr => ∃ (i : Nat) (M : List Nat) (v : Value), i ≤ n ∧ v = sv ∧ iv = .int .i64 i ∧ Hid (M = l.take i) ∧ Hid (wr.ownsRow w.heap.size 2 1 v M.length (rowD M) ∧ Below w.heap.size w wr)) (fun _ iv _ => n - (intOf iv).toNat)
  case atStart => exact ⟨0, [], _, Nat.zero_le _, rfl, rfl, hid (by simp), HRA⟩
  case round =>
    clear HRA
    obtain ⟨i, M, v, hi, rfl, rfl, HM', HI⟩ := hrel
    by_cases hin : i < n
    · have HI1 : Hid (i + 1 ≤ n) := hin
      have HMS : Hid (n - (i + 1) < n - i) := by unfold Hid; omega
      have hii : (i : Int) < (n : Int) := by omega
      obtain ⟨b, off, x, rfl, hbl, hx, hcx⟩ := slz_elem HS.out hin
      have cx := hcx wr HI.out.2
      have hbr : b < wr.heap.size := Nat.lt_of_lt_of_le hbl HI.out.2.size
      obtain ⟨A5, c5, rfl⟩ := row_shape HI.out.1
      have hMl : M.length = i := by rw [HM'.out, List.length_take, HLN.out]; omega
      have hno : x ∉ M := fun q => by
        rw [HM'.out] at q
        obtain ⟨j, hj, e⟩ := List.mem_iff_getElem.1 q
        rw [List.getElem_take] at e
        rw [List.length_take] at hj
        obtain ⟨hxl, e2⟩ := getq hx
        have := (List.getElem_inj HL.out).1 (e.trans e2.symm)
        omega
      have HIN := hid (in_any (cap := c5) (x : Int) (slz_row HI.out.1) (by omega))
      rw [decide_eq_false (fun q => hno (memZ.1 q))] at HIN
      obtain ⟨A6, c6, w6, happ, hrow6, hb6⟩ := row_app (x := x) HI.out.1 (by omega) HI.out.2.size
      have HAPP := hid happ
      have HM2 : Hid (M ++ [x] = l.take (i + 1)) := by unfold Hid; rw [HM'.out, take_next hx]
      have HR6 : Hid (w6.ownsRow w.heap.size 2 1 (.slice A6 (M.length + 1) c6) (M ++ [x]).length (rowD (M ++ [x])) ∧ Below w.heap.size w w6) := ⟨by rw [List.length_append]; exact hrow6, HI.out.2.trans hb6⟩
      have hMb : (M.length : Int) ≤ 100 := by omega
      clear hin hi hbl hx hcx hMl hno happ hrow6 hb6 HI HM'
      go_wp2_with fail
      refine HIN.out.mono ?_
      rintro e w8 ⟨rfl, rfl⟩
      clear HIN
      go_wp2_with (first | (at_builtin; refine wpList_append_eq rfl _ _ _ rfl rfl rfl HAPP.out ?_))
      go_roundw
      case rel => exact ⟨i + 1, M ++ [x], _, HI1.out, rfl, by go_num, HM2, HR6⟩
      case measure => have := HMS.out; simp [intOf]; omega
    · have hii : ¬ (i : Int) < (n : Int) := by omega
      have eM : M = l := by rw [HM'.out, List.take_of_length_le (by have := HLN.out; omega)]
      subst eM
      have HRB : Hid (wr.ownsRow w.heap.size 2 1 v M.length (rowD M) ∧ Aw G M M 0 ∧ Below w.heap.size w wr) := ⟨HI.out.1, Aw.start HL.out, HI.out.2⟩
      obtain ⟨A5, c5, rfl⟩ := row_shape HI.out.1
      clear hin hi HI HM' HS
      go_wp2_with fail
      go_loopw [5, 7] (fun sv iv wr => ∃ (i : Nat) (O : List Nat) (v : Value), i ≤ O.length ∧ v = sv ∧ iv = .int .i64 i ∧ Hid (wr.ownsRow w.heap.size 2 1 v O.length (rowD O) ∧ Aw G M O i ∧ Below w.heap.size w wr)) (fun _ iv _ => 101 - (intOf iv).toNat)
      case atStart => exact ⟨0, M, _, Nat.zero_le _, rfl, rfl, HRB⟩
      case round =>
        clear HRB
        obtain ⟨i, O, v, hi, rfl, rfl, HI⟩ := hrel
        obtain ⟨A5, c5, rfl⟩ := row_shape HI.out.1
        have hOl := HI.out.2.1.len HOK.out HR.out
        have hOb : (O.length : Int) ≤ 100 := by omega
        by_cases hin : i < O.length
        · have HMS : Hid (101 - (i + 1) < 101 - i) := by unfold Hid; omega
          have hii : (i : Int) < (O.length : Int) := by omega
          have hib : (i : Int) ≤ 100 := by omega
          have HIN1 := hid hin
          obtain ⟨g9, y, rfl, hg9, cy, hmy, hyq⟩ := row_elem HI.out.1 hin
          have HYQ := hid hyq
          have HYM := hid hmy
          have HF := hid (find_g (HV.out.below HI.out.2.2) HM.out (y : Int))
          have HB := hid HI.out.2.2
          clear hin hi hmy hyq hOl
          go_wp2_with fail
          refine HF.out.mono ?_
          rintro e w8 ⟨⟨k, rfl, hk⟩, hb8⟩
          have HI8 : Hid (w8.ownsRow w.heap.size 2 1 (.slice (some ⟨g9, 0, none⟩) O.length c5) O.length (rowD O) ∧ Aw G M O i ∧ Below w.heap.size w w8) := ⟨rowN_kept HI.out.1 fun k hk => hb8.block k (HI.out.1.lt k hk).2, HI.out.2.1, HB.out.trans (hb8.mono HB.out.size)⟩
          clear hb8 HF HI HB cy hg9
          rcases hk with ⟨q, z, rfl, hqz, ez⟩ | ⟨rfl, hno⟩
          case inr =>
            have HREL : Hid (w8.ownsRow w.heap.size 2 1 (.slice (some ⟨g9, 0, none⟩) O.length c5) O.length (rowD O) ∧ Aw G M O (i + 1) ∧ Below w.heap.size w w8) := ⟨HI8.out.1, HI8.out.2.1.next HYQ.out (fun p hp => by
              have : G.st y = 0 := by
                by_cases q : G.st y = 0
                · exact q
                · exact absurd rfl (hno y ((HJ.out y).2 q))
              rw [HOK.out.abs y this] at hp; cases hp), HI8.out.2.2⟩
            clear hno HI8
            go_wp2_with fail
            go_loopw [5, 9] (fun sv jv wr => sv = .slice (some ⟨g9, 0, none⟩) O.length c5 ∧ jv = .int .i64 0 ∧ wr = w8) (fun _ _ _ => 0)
            case atStart => exact ⟨rfl, rfl, rfl⟩
            case round =>
              obtain ⟨rfl, rfl, rfl⟩ := hrel
              go_wp2
              go_roundw
              case rel => exact ⟨i + 1, O, _, HIN1.out, rfl, by go_num, HREL⟩
              case measure => have := HMS.out; simp [intOf]; omega
          case inl =>
            have e3 : z = y := by omega
            subst e3
            clear ez
            obtain ⟨g, rfl, -, hgH, hfa⟩ := HV.out.facts hqz
            have HFA := hid hfa
            have HQZ := hid hqz
            have hzJ := List.mem_of_getElem? hqz
            have hqq : (q : Int) < (J.length : Int) := by obtain ⟨_, _⟩ := getq hqz; omega
            have hJb : (J.length : Int) ≤ 1000 := by have := HM.out; omega
            obtain ⟨A2, c2, hp⟩ := row_shape (HV.out.par z hzJ)
            obtain ⟨pz, hpz⟩ : ∃ pz, pz = G.pa z := ⟨_, rfl⟩
            have HRO := (HV.out.rowOf hzJ hp).2
            rw [← hpz] at hp HRO
            have HRO := hid HRO
            have HP := hid hp
            have HPZ := hid hpz
            have hpl : pz.length ≤ 100 := by rw [hpz]; exact HOK.out.pal z
            have HPL := hid hpl
            have hpb : (pz.length : Int) ≤ 100 := by omega
            have HRC : Hid (w8.ownsRow w.heap.size 2 1 (.slice (some ⟨g9, 0, none⟩) O.length c5) O.length (rowD O) ∧ Aw G M O i ∧ Below w.heap.size w w8 ∧ O[i]? = some z ∧ ∀ p ∈ pz.take 0, p ∈ O) := ⟨HI8.out.1, HI8.out.2.1, HI8.out.2.2, HYQ.out, fun p hp => by rw [List.take_zero] at hp; cases hp⟩
            clear hfa hqz hzJ hp hpz hpl HI8 HYQ HYM HIN1
            go_wp2_with fail
            go_loopw [5, 9] (fun sv jv wr => ∃ (j : Nat) (O : List Nat) (v : Value), j ≤ pz.length ∧ v = sv ∧ jv = .int .i64 j ∧ Hid (wr.ownsRow w.heap.size 2 1 v O.length (rowD O) ∧ Aw G M O i ∧ Below w.heap.size w wr ∧ O[i]? = some z ∧ ∀ p ∈ pz.take j, p ∈ O)) (fun _ jv _ => pz.length - (intOf jv).toNat)
            case atStart => exact ⟨0, O, _, Nat.zero_le _, rfl, rfl, HRC⟩
            case round =>
              clear HRC
              obtain ⟨j, O, v, hj, rfl, rfl, HI⟩ := hrel
              obtain ⟨A5, c5, rfl⟩ := row_shape HI.out.1
              have hOl := HI.out.2.1.len HOK.out HR.out
              have hOb : (O.length : Int) ≤ 100 := by omega
              have hiO : i < O.length := (getq HI.out.2.2.2.1).1
              have hB := HI.out.2.2.1
              obtain ⟨l1, l2, k0, hc⟩ := HFA.out wr hB
              obtain ⟨-, y1, -⟩ := hc q z HQZ.out
              rw [HP.out] at y1
              clear hc
              by_cases hjn : j < pz.length
              · have hjj : (j : Int) < (pz.length : Int) := by omega
                have HJ1 : Hid (j + 1 ≤ pz.length) := hjn
                have HMJ : Hid (pz.length - (j + 1) < pz.length - j) := by unfold Hid; omega
                obtain ⟨g7, p, rfl, hg7, cp, hmp, hpp⟩ := row_elem (HRO.out wr hB) hjn
                have HIN := hid (in_any (cap := c5) (p : Int) (slz_row HI.out.1) (by omega))
                by_cases hpO : p ∈ O
                · rw [decide_eq_true (memZ.2 hpO)] at HIN
                  have HREL : Hid (wr.ownsRow w.heap.size 2 1 (.slice A5 O.length c5) O.length (rowD O) ∧ Aw G M O i ∧ Below w.heap.size w wr ∧ O[i]? = some z ∧ ∀ p ∈ pz.take (j + 1), p ∈ O) := ⟨HI.out.1, HI.out.2.1, hB, HI.out.2.2.2.1, fun r hr => by
                    rw [take_next hpp, List.mem_append, List.mem_singleton] at hr
                    rcases hr with hr | rfl
                    · exact HI.out.2.2.2.2 r hr
                    · exact hpO⟩
                  clear hj hjn hmp hpp hpO HI hB hOl hiO
                  go_wp2_with fail
                  refine HIN.out.mono ?_
                  rintro e w9 ⟨rfl, rfl⟩
                  clear HIN
                  go_wp2
                  go_roundw
                  case rel => exact ⟨j + 1, O, _, HJ1.out, rfl, by go_num, HREL⟩
                  case measure => have := HMJ.out; simp [intOf]; omega
                · rw [decide_eq_false (fun q => hpO (memZ.1 q))] at HIN
                  obtain ⟨A6, c6, w6, happ, hrow6, hb6⟩ := row_app (x := p) HI.out.1 (by omega) hB.size
                  have HAPP := hid happ
                  have HREL : Hid (w6.ownsRow w.heap.size 2 1 (.slice A6 (O.length + 1) c6) (O ++ [p]).length (rowD (O ++ [p])) ∧ Aw G M (O ++ [p]) i ∧ Below w.heap.size w w6 ∧ (O ++ [p])[i]? = some z ∧ ∀ r ∈ pz.take (j + 1), r ∈ O ++ [p]) := ⟨by rw [List.length_append]; exact hrow6, HI.out.2.1.add HOK.out (by omega) (List.mem_of_getElem? HI.out.2.2.2.1) (by rw [← HPZ.out]; exact hmp) hpO, hB.trans hb6, by rw [List.getElem?_append_left hiO]; exact HI.out.2.2.2.1, fun r hr => by
                    rw [take_next hpp, List.mem_append, List.mem_singleton] at hr
                    rcases hr with hr | rfl
                    · simp [HI.out.2.2.2.2 r hr]
                    · simp⟩
                  clear hj hjn hmp hpp hpO HI hB hOl hiO happ hrow6 hb6
                  go_wp2_with fail
                  refine HIN.out.mono ?_
                  rintro e w9 ⟨rfl, rfl⟩
                  clear HIN
                  go_wp2_with (first | (at_builtin; refine wpList_append_eq rfl _ _ _ rfl rfl rfl HAPP.out ?_))
                  go_roundw
                  case rel => exact ⟨j + 1, O ++ [p], _, HJ1.out, rfl, by go_num, HREL⟩
                  case measure => have := HMJ.out; simp [intOf]; omega
              · have hjj : ¬ (j : Int) < (pz.length : Int) := by omega
                have HIO : Hid (i + 1 ≤ O.length) := hiO
                have HREL : Hid (wr.ownsRow w.heap.size 2 1 (.slice A5 O.length c5) O.length (rowD O) ∧ Aw G M O (i + 1) ∧ Below w.heap.size w wr) := ⟨HI.out.1, HI.out.2.1.next HI.out.2.2.2.1 (fun p hp => HI.out.2.2.2.2 p (by rw [List.take_of_length_le (by omega), HPZ.out]; exact hp)), hB⟩
                clear hj hjn HI hB hOl hiO
                go_wp2
                go_roundw
                case rel => exact ⟨i + 1, O, _, HIO.out, rfl, by go_num, HREL⟩
                case measure => have := HMS.out; simp [intOf]; omega
        · have hii : ¬ (i : Int) < (O.length : Int) := by omega
          have hib : (i : Int) ≤ 100 := by omega
          obtain rfl : i = O.length := by omega
          have FIN : Hid (AboveP w G M (.slice A5 O.length c5) wr) := ⟨O, HI.out.1, hOl, HI.out.2.1.done, HI.out.2.2⟩
          clear hin hi HI hOl
          go_wp2
          go_ret
          exact ⟨_, rfl, FIN.out⟩
end Go.Proofs.Ytolfioiccmmifaa
