/- Chapter 20, plain law: what is printed is parsed to what it was; what is parsed is printed within its line (OrderBack). -/
import Derived.Test.YtidcbcljeofooaaGreatDoorOrE
import Derived.Test.YtidcbcljeofooaaGreatDoorNmp
namespace Go.Proofs.YtidcbcljeofooaaGreatDoor
open Go.Lib
theorem nb_bare {s : ByteArray} (h : nameB s = true) : bareB s.data.toList = true := by
  rw [bareB_iff]
  have hp := name_pos h
  have hl : s.data.toList.length = s.size := by simp
  refine ⟨fun e => by rw [e] at hl; simp at hl; omega, fun c hc => ?_⟩
  obtain ⟨j, hj, rfl⟩ := List.mem_iff_getElem.1 hc
  have h1 := name_bytes h j (by omega)
  have h2 := NB_no h1
  have e : s.data.toList[j] = s.get! j := by
    rw [← Go.Lib.getD_get!', List.getD_eq_getElem?_getD, List.getElem?_eq_getElem hj]; rfl
  rw [e]
  exact ⟨h2.1, h2.2.1⟩
def goodW (a : ByteArray) : Prop := bareB a.data.toList = true ∧ (chkA a 0 0).2.2 = 0
theorem good_name {a : ByteArray} (h : nameB a = true) : goodW a := ⟨nb_bare h, name_ok h⟩
theorem good_safe {l : List UInt8} (h : safe l = true) : goodW (sB l) := ⟨by rw [sB_list]; exact safe_bare h, ck_safe ((safe_iff l).1 h).2⟩
/-- Good words, with blanks between them, are cut to themselves. -/
theorem wres_jn {w : List ByteArray} (h : ∀ a ∈ w, goodW a) : wres (sB (jn w)) = (w, 0, 0) :=
  (wres_cut (chk_jn w fun a ha => (h a ha).2)).1 w (cut_jn fun a ha => (h a ha).1)
theorem lineP_good {w : List ByteArray} (h : ∀ a ∈ w, goodW a) (hs : (jn w).length ≤ 512) {c : Cm} (hk : kindP w ≠ 0) (hc : cmdP (kindP w) w = some c) (hf : formB c = true) : lineP (sB (jn w)) = (c, 0) := by
  have hz : (sB (jn w)).size ≤ 512 := by
    show (jn w).toArray.size ≤ 512
    rw [List.size_toArray]; exact hs
  rw [lineP_short hz, wres_jn h]
  unfold restP
  rw [if_neg (by simp), if_neg hk, hc]
  simp only
  rw [if_pos hf]
theorem and_t {a b : Bool} (h : (a && b) = true) : a = true ∧ b = true := (Bool.and_eq_true _ _).mp h
theorem id_bd {n : Int} (h : idB n = true) : 1 ≤ n ∧ n ≤ 100 := of_decide_eq_true h
theorem ep_bd {n : Int} (h : epB n = true) : 1 ≤ n ∧ n ≤ 2147483647 := of_decide_eq_true h
theorem wn_at {w : List ByteArray} {i : Nat} {n : Int} (h : wd w i = sB (dgT n)) (h0 : 0 ≤ n) (h1 : n < 10000000000000) : wn w i = some n := by
  unfold wn wl
  rw [h, sB_list]
  exact wn_dg h0 h1
theorem wv_at {w : List ByteArray} {i : Nat} {v : V} (h : wd w i = sB (vecT v)) (hv : okV v = true) : wv w i = some v := by
  unfold wv wl
  rw [h, sB_list]
  exact vecP_T hv
theorem allV {l : List V} (h : l.all okV = true) : (allP vecP ((l.map fun v => sB (vecT v)).map (·.data.toList))).map (·.map vI) = some l := by
  induction l with
  | nil => rfl
  | cons v t ih =>
    rw [List.all_cons, Bool.and_eq_true] at h
    have h1 := vecP_T h.1
    have h2 := ih h.2
    rw [List.map_cons, List.map_cons, sB_list]
    unfold allP
    cases hv : vecP (vecT v) with
    | none => rw [hv] at h1; cases h1
    | some x =>
      rw [hv] at h1
      cases ht : allP vecP ((t.map fun v => sB (vecT v)).map (·.data.toList)) with
      | none => rw [ht] at h2; cases h2
      | some m =>
        rw [ht] at h2
        injection h1 with h1
        injection h2 with h2
        simp only [Option.map_some, List.map_cons, h1, h2]
structure Fm (c : Cm) : Prop where
  good : ∀ a ∈ cmdT c, goodW a
  kind : kindP (cmdT c) ≠ 0
  back : cmdP (kindP (cmdT c)) (cmdT c) = some c
theorem good_cons {a : ByteArray} {l : List ByteArray} (h : goodW a) (h2 : ∀ x ∈ l, goodW x) : ∀ x ∈ a :: l, goodW x := by
  intro x hx
  rw [List.mem_cons] at hx
  rcases hx with rfl | hx
  · exact h
  · exact h2 x hx
theorem good_nil : ∀ x ∈ ([] : List ByteArray), goodW x := fun x hx => (by cases hx)
theorem good_dg {n : Int} (h : 0 ≤ n) : goodW (sB (dgT n)) := good_safe (dg_safe h)
theorem good_w (l : List UInt8) (h : safe l = true) : goodW (sB l) := good_safe h
theorem kindP_cons {a : ByteArray} {l : List ByteArray} {n k : Nat} (h : cntP a.data.toList = (n, k)) (hn : n ≠ 0) (hl : l.length + 1 = n ∨ (k = 2 ∧ n < l.length + 1)) : kindP (a :: l) = k := by
  unfold kindP
  simp only [h, List.length_cons]
  rw [if_pos ⟨hn, hl⟩]
/-- A formed command and its words. -/
theorem form_words {c : Cm} (h : formB c = true) : Fm c := by
  obtain ⟨kind, tn, tw, tq, job, node, ep, vec, num, att⟩ := c
  unfold formB at h
  obtain ⟨ho, hr⟩ := and_t h
  unfold onlyB at ho
  rw [Bool.and_eq_true, Bool.and_eq_true, decide_eq_true_eq, decide_eq_true_eq, decide_eq_true_eq] at ho
  obtain ⟨⟨o1, o2⟩, o3⟩ := ho
  simp only at o1 o2 o3
  unfold rowsB at hr
  simp only at hr
  by_cases k1 : kind = 1
  · subst k1
    rw [if_pos rfl] at hr
    obtain ⟨r1, r2⟩ := and_t hr
    unfold tenB at r1
    obtain ⟨r1, r5⟩ := and_t r1
    obtain ⟨r1, r4⟩ := and_t r1
    rw [decide_eq_true_eq] at r2 r4
    obtain ⟨rfl, rfl, rfl, rfl⟩ := r2
    obtain rfl : job = jb0 := by rcases o1 with q | q; · omega
                                 · exact q
    obtain rfl : vec = zeroV := by rcases o3 with q | q; · omega
                                   · exact q
    have e : cmdT ⟨1, tn, tw, tq, jb0, ⟨#[]⟩, 0, zeroV, 0, 0⟩ = [sB [116, 101, 110, 97, 110, 116], tn, sB (dgT tw), sB (vecT tq)] := rfl
    have ek : kindP [sB [116, 101, 110, 97, 110, 116], tn, sB (dgT tw), sB (vecT tq)] = 1 := kindP_cons (n := 4) (by decide) (by omega) (.inl rfl)
    refine ⟨?_, ?_, ?_⟩
    · rw [e]
      exact good_cons (good_w _ (by decide)) (good_cons (good_name r1) (good_cons (good_dg (by omega)) (good_cons (good_safe (vecT_safe r5)) good_nil)))
    · rw [e, ek]; decide
    · rw [e, ek]
      unfold cmdP
      rw [if_pos rfl, wn_at (n := tw) rfl (by omega) (by omega), wv_at (v := tq) rfl r5]
      rfl
  · rw [if_neg k1] at hr
    obtain ⟨rfl, rfl, rfl⟩ : tn = ⟨#[]⟩ ∧ tw = 0 ∧ tq = zeroV := by rcases o2 with q | q; · exact absurd q k1
                                                                    · exact q
    by_cases k2 : kind = 2
    · subst k2
      rw [if_pos rfl] at hr
      obtain ⟨r1, r2⟩ := and_t hr
      rw [decide_eq_true_eq] at r2
      obtain ⟨rfl, rfl, rfl, rfl⟩ := r2
      obtain rfl : vec = zeroV := by rcases o3 with q | q; · omega
                                     · exact q
      unfold jobB at r1
      obtain ⟨t9, r10⟩ := and_t r1
      obtain ⟨t8, r9⟩ := and_t t9
      obtain ⟨t7, r8⟩ := and_t t8
      obtain ⟨t6, r7⟩ := and_t t7
      obtain ⟨t5, r6⟩ := and_t t6
      obtain ⟨t4, r5⟩ := and_t t5
      obtain ⟨t3, r4⟩ := and_t t4
      obtain ⟨t2, r3⟩ := and_t t3
      obtain ⟨s1, s2⟩ := and_t t2
      clear r1 t9 t8 t7 t6 t5 t4 t3 t2
      obtain ⟨id, ten, pri, run, par, tsk, st, att, nod, start, don⟩ := job
      simp only at s1 s2 r3 r4 r5 r6 r7 r8 r9 r10
      rw [decide_eq_true_eq] at r3 r4 r5 r6 r9 r10
      obtain ⟨rfl, rfl, rfl⟩ := r9
      obtain ⟨rfl, rfl⟩ := r10
      have r1 := id_bd s1
      unfold parB at r7
      obtain ⟨p1, p2⟩ := and_t r7
      rw [decide_eq_true_eq] at p2
      rw [List.all_eq_true] at p1
      have p3 : ∀ n ∈ par, 0 ≤ n ∧ n < 10000000000000 := fun n hn => by have := id_bd (and_t (p1 n hn)).1; omega
      have e : cmdT ⟨2, ⟨#[]⟩, 0, zeroV, ⟨id, ten, pri, run, par, tsk, 0, 0, [], 0, []⟩, ⟨#[]⟩, 0, zeroV, 0, 0⟩ = sB [115, 117, 98, 109, 105, 116] :: sB (dgT id) :: ten :: sB (dgT pri) :: sB (dgT run) :: sB (lstT par) :: tsk.map fun v => sB (vecT v) := rfl
      have ek : kindP (sB [115, 117, 98, 109, 105, 116] :: sB (dgT id) :: ten :: sB (dgT pri) :: sB (dgT run) :: sB (lstT par) :: tsk.map fun v => sB (vecT v)) = 2 := by
        refine kindP_cons (n := 7) (k := 2) (by decide) (by omega) ?_
        rw [List.length_cons, List.length_cons, List.length_cons, List.length_cons, List.length_cons, List.length_map]
        rcases Nat.lt_or_ge 1 tsk.length with q | q
        · exact .inr ⟨rfl, by omega⟩
        · exact .inl (by omega)
      refine ⟨?_, ?_, ?_⟩
      · rw [e]
        refine good_cons (good_w _ (by decide)) (good_cons (good_dg (by omega)) (good_cons (good_name s2) (good_cons (good_dg (by omega)) (good_cons (good_dg (by omega)) (good_cons (good_safe (lstT_safe fun n hn => (p3 n hn).1)) fun x hx => ?_)))))
        rw [List.mem_map] at hx
        obtain ⟨v, hv, rfl⟩ := hx
        rw [List.all_eq_true] at r8
        exact good_safe (vecT_safe (r8 v hv))
      · rw [e, ek]; decide
      · rw [e, ek]
        unfold cmdP jobP
        rw [if_neg (by decide), if_pos rfl, wn_at (n := id) rfl (by omega) (by omega), wn_at (n := pri) rfl (by omega) (by omega), wn_at (n := run) rfl (by omega) (by omega)]
        have e5 : wl (sB [115, 117, 98, 109, 105, 116] :: sB (dgT id) :: ten :: sB (dgT pri) :: sB (dgT run) :: sB (lstT par) :: tsk.map fun v => sB (vecT v)) 5 = lstT par := sB_list _
        have e6 : (sB [115, 117, 98, 109, 105, 116] :: sB (dgT id) :: ten :: sB (dgT pri) :: sB (dgT run) :: sB (lstT par) :: tsk.map fun v => sB (vecT v)).drop 6 = tsk.map fun v => sB (vecT v) := rfl
        rw [e5, e6, lstP_T p3 p2]
        have e7 := allV r8
        cases hm : allP vecP ((tsk.map fun v => sB (vecT v)).map (·.data.toList)) with
        | none => rw [hm] at e7; cases e7
        | some m =>
          rw [hm] at e7
          injection e7 with e7
          simp only [e7]
          rfl
    · rw [if_neg k2] at hr
      obtain rfl : job = jb0 := by rcases o1 with q | q; · exact absurd q k2
                                   · exact q
      by_cases k3 : kind = 3 ∨ kind = 4
      · rw [if_pos k3] at hr
        obtain ⟨r1, r2⟩ := and_t hr
        rw [decide_eq_true_eq] at r2
        obtain ⟨rfl, rfl, rfl⟩ := r2
        have r1 := id_bd r1
        obtain rfl : vec = zeroV := by rcases o3 with q | q; · omega
                                       · exact q
        rcases k3 with rfl | rfl
        · have e : cmdT ⟨3, ⟨#[]⟩, 0, zeroV, jb0, ⟨#[]⟩, 0, zeroV, num, 0⟩ = [sB [99, 97, 110, 99, 101, 108], sB (dgT num)] := rfl
          have ek : kindP [sB [99, 97, 110, 99, 101, 108], sB (dgT num)] = 3 := kindP_cons (n := 2) (by decide) (by omega) (.inl rfl)
          refine ⟨?_, ?_, ?_⟩
          · rw [e]; exact good_cons (good_w _ (by decide)) (good_cons (good_dg (by omega)) good_nil)
          · rw [e, ek]; decide
          · rw [e, ek]
            unfold cmdP
            rw [if_neg (by decide), if_neg (by decide), if_pos (by decide), wn_at (n := num) rfl (by omega) (by omega)]
            rfl
        · have e : cmdT ⟨4, ⟨#[]⟩, 0, zeroV, jb0, ⟨#[]⟩, 0, zeroV, num, 0⟩ = [sB [113, 117, 101, 114, 121], sB (dgT num)] := rfl
          have ek : kindP [sB [113, 117, 101, 114, 121], sB (dgT num)] = 4 := kindP_cons (n := 2) (by decide) (by omega) (.inl rfl)
          refine ⟨?_, ?_, ?_⟩
          · rw [e]; exact good_cons (good_w _ (by decide)) (good_cons (good_dg (by omega)) good_nil)
          · rw [e, ek]; decide
          · rw [e, ek]
            unfold cmdP
            rw [if_neg (by decide), if_neg (by decide), if_pos (by decide), wn_at (n := num) rfl (by omega) (by omega)]
            rfl
      · rw [if_neg k3] at hr
        by_cases k5 : kind = 5
        · subst k5
          rw [if_pos rfl] at hr
          obtain ⟨r1, r4⟩ := and_t hr
          obtain ⟨r1, r3⟩ := and_t r1
          obtain ⟨r1, r2⟩ := and_t r1
          rw [decide_eq_true_eq] at r4
          obtain ⟨rfl, rfl⟩ := r4
          have r2 := ep_bd r2
          have e : cmdT ⟨5, ⟨#[]⟩, 0, zeroV, jb0, node, ep, vec, 0, 0⟩ = [sB [117, 112], node, sB (dgT ep), sB (vecT vec)] := rfl
          have ek : kindP [sB [117, 112], node, sB (dgT ep), sB (vecT vec)] = 5 := kindP_cons (n := 4) (by decide) (by omega) (.inl rfl)
          refine ⟨?_, ?_, ?_⟩
          · rw [e]; exact good_cons (good_w _ (by decide)) (good_cons (good_name r1) (good_cons (good_dg (by omega)) (good_cons (good_safe (vecT_safe r3)) good_nil)))
          · rw [e, ek]; decide
          · rw [e, ek]
            unfold cmdP
            rw [if_neg (by decide), if_neg (by decide), if_neg (by decide), if_pos rfl, wn_at (n := ep) rfl (by omega) (by omega), wv_at (v := vec) rfl r3]
            rfl
        · rw [if_neg k5] at hr
          obtain rfl : vec = zeroV := by rcases o3 with q | q; · exact absurd q k5
                                         · exact q
          by_cases k6 : kind = 6
          · subst k6
            rw [if_pos rfl] at hr
            obtain ⟨r1, r4⟩ := and_t hr
            obtain ⟨r1, r2⟩ := and_t r1
            rw [decide_eq_true_eq] at r4
            obtain ⟨rfl, rfl⟩ := r4
            have r2 := ep_bd r2
            have e : cmdT ⟨6, ⟨#[]⟩, 0, zeroV, jb0, node, ep, zeroV, 0, 0⟩ = [sB [98, 101, 97, 116], node, sB (dgT ep)] := rfl
            have ek : kindP [sB [98, 101, 97, 116], node, sB (dgT ep)] = 6 := kindP_cons (n := 3) (by decide) (by omega) (.inl rfl)
            refine ⟨?_, ?_, ?_⟩
            · rw [e]; exact good_cons (good_w _ (by decide)) (good_cons (good_name r1) (good_cons (good_dg (by omega)) good_nil))
            · rw [e, ek]; decide
            · rw [e, ek]
              unfold cmdP
              rw [if_neg (by decide), if_neg (by decide), if_neg (by decide), if_neg (by decide), if_pos rfl, wn_at (n := ep) rfl (by omega) (by omega)]
              rfl
          · rw [if_neg k6] at hr
            by_cases k7 : kind = 7 ∨ kind = 8
            · rw [if_pos k7] at hr
              obtain ⟨r1, r4⟩ := and_t hr
              obtain ⟨r1, r3⟩ := and_t r1
              obtain ⟨r1, r2⟩ := and_t r1
              have r2 := ep_bd r2
              have r3 := id_bd r3
              have r4 := ep_bd r4
              rcases k7 with rfl | rfl
              · have e : cmdT ⟨7, ⟨#[]⟩, 0, zeroV, jb0, node, ep, zeroV, num, att⟩ = [sB [100, 111, 110, 101], node, sB (dgT ep), sB (dgT num), sB (dgT att)] := rfl
                have ek : kindP [sB [100, 111, 110, 101], node, sB (dgT ep), sB (dgT num), sB (dgT att)] = 7 := kindP_cons (n := 5) (by decide) (by omega) (.inl rfl)
                refine ⟨?_, ?_, ?_⟩
                · rw [e]; exact good_cons (good_w _ (by decide)) (good_cons (good_name r1) (good_cons (good_dg (by omega)) (good_cons (good_dg (by omega)) (good_cons (good_dg (by omega)) good_nil))))
                · rw [e, ek]; decide
                · rw [e, ek]
                  unfold cmdP
                  rw [if_neg (by decide), if_neg (by decide), if_neg (by decide), if_neg (by decide), if_neg (by decide), if_pos (by decide), wn_at (n := ep) rfl (by omega) (by omega), wn_at (n := num) rfl (by omega) (by omega), wn_at (n := att) rfl (by omega) (by omega)]
                  rfl
              · have e : cmdT ⟨8, ⟨#[]⟩, 0, zeroV, jb0, node, ep, zeroV, num, att⟩ = [sB [102, 97, 105, 108], node, sB (dgT ep), sB (dgT num), sB (dgT att)] := rfl
                have ek : kindP [sB [102, 97, 105, 108], node, sB (dgT ep), sB (dgT num), sB (dgT att)] = 8 := kindP_cons (n := 5) (by decide) (by omega) (.inl rfl)
                refine ⟨?_, ?_, ?_⟩
                · rw [e]; exact good_cons (good_w _ (by decide)) (good_cons (good_name r1) (good_cons (good_dg (by omega)) (good_cons (good_dg (by omega)) (good_cons (good_dg (by omega)) good_nil))))
                · rw [e, ek]; decide
                · rw [e, ek]
                  unfold cmdP
                  rw [if_neg (by decide), if_neg (by decide), if_neg (by decide), if_neg (by decide), if_neg (by decide), if_pos (by decide), wn_at (n := ep) rfl (by omega) (by omega), wn_at (n := num) rfl (by omega) (by omega), wn_at (n := att) rfl (by omega) (by omega)]
                  rfl
            · rw [if_neg k7] at hr
              by_cases k9 : kind = 9 ∨ kind = 10
              · rw [if_pos k9, decide_eq_true_eq] at hr
                obtain ⟨rfl, rfl, rfl, rfl⟩ := hr
                rcases k9 with rfl | rfl
                · have e : cmdT ⟨9, ⟨#[]⟩, 0, zeroV, jb0, ⟨#[]⟩, 0, zeroV, 0, 0⟩ = [sB [116, 105, 99, 107]] := rfl
                  have ek : kindP [sB [116, 105, 99, 107]] = 9 := kindP_cons (n := 1) (by decide) (by omega) (.inl rfl)
                  refine ⟨?_, ?_, ?_⟩
                  · rw [e]; exact good_cons (good_w _ (by decide)) good_nil
                  · rw [e, ek]; decide
                  · rw [e, ek]; rfl
                · have e : cmdT ⟨10, ⟨#[]⟩, 0, zeroV, jb0, ⟨#[]⟩, 0, zeroV, 0, 0⟩ = [sB [110, 111, 100, 101, 115]] := rfl
                  have ek : kindP [sB [110, 111, 100, 101, 115]] = 10 := kindP_cons (n := 1) (by decide) (by omega) (.inl rfl)
                  refine ⟨?_, ?_, ?_⟩
                  · rw [e]; exact good_cons (good_w _ (by decide)) good_nil
                  · rw [e, ek]; decide
                  · rw [e, ek]; rfl
              · rw [if_neg k9] at hr; cases hr
/-- What is printed is parsed to what it was. -/
theorem print_back {c : Cm} {L : List UInt8} (h : printP c = (L, 0)) : lineP (sB L) = (c, 0) := by
  unfold printP at h
  by_cases hf : formB c = true
  · rw [if_pos hf] at h
    by_cases hl : 512 < (jn (cmdT c)).length
    · rw [if_pos hl] at h; injection h with _ h; cases h
    · rw [if_neg hl] at h
      injection h with h _
      subst h
      have F := form_words hf
      exact lineP_good F.good (by omega) F.kind F.back hf
  · rw [if_neg hf] at h; injection h with _ h; cases h
/-- What words take in a line. -/
def cost (l : List ByteArray) : Nat := (l.map fun a => a.size + 1).sum
theorem cost_app (a b : List ByteArray) : cost (a ++ b) = cost a + cost b := by unfold cost; simp
theorem cost_one (b : List UInt8) : cost [sB b] = b.length + 1 := by
  show b.toArray.size + 1 + 0 = _
  rw [List.size_toArray]
theorem wstep_cost {q c : Nat} {x : UInt8} {b b' : List UInt8} {l l' : List ByteArray} {q' : Nat} (h : wstep q c [x] b l = some (q', b', l')) : cost l' + b'.length ≤ cost l + b.length + 1 := by
  have e : cost (l ++ [⟨b.toArray⟩]) = cost l + (b.length + 1) := by rw [cost_app]; exact congrArg (cost l + ·) (cost_one b)
  unfold wstep at h
  repeat' split at h
  all_goals first
    | (cases h; done)
    | (injection h with h; injection h with h1 h; injection h with h2 h3; subst h2 h3; first | (rw [e]; simp; omega) | (simp; omega) | simp)
theorem bw_cost : ∀ (t : List UInt8) (q : Nat) (b : List UInt8) (l r : List ByteArray), bw q b l t = some r → cost r ≤ cost l + b.length + t.length + 1 := by
  intro t
  induction t with
  | nil =>
    intro q b l r h
    have e : cost (l ++ [⟨b.toArray⟩]) = cost l + (b.length + 1) := by rw [cost_app]; exact congrArg (cost l + ·) (cost_one b)
    unfold bw at h
    repeat' split at h
    all_goals first
      | (cases h; done)
      | (injection h with h; subst h; first | (rw [e]; simp; omega) | (simp; omega))
  | cons c t ih =>
    intro q b l r h
    unfold bw at h
    cases hw : wstep q c.toNat [c] b l with
    | none => rw [hw] at h; cases h
    | some x =>
      obtain ⟨q', b', l'⟩ := x
      rw [hw] at h
      have h1 := ih q' b' l' r h
      have h2 := wstep_cost hw
      rw [List.length_cons]
      omega
theorem jn_cost : ∀ (l : List ByteArray), (jn l).length ≤ cost l - 1 := by
  intro l
  induction l with
  | nil => simp [jn]
  | cons a t ih =>
    have ha : a.data.toList.length = a.size := by simp
    cases t with
    | nil =>
      unfold jn cost
      simp
    | cons b t =>
      unfold jn
      rw [List.length_append, List.length_cons]
      have e : cost (a :: b :: t) = a.size + 1 + cost (b :: t) := by unfold cost; simp
      have e2 : 1 ≤ cost (b :: t) := by unfold cost; simp; omega
      rw [e]
      omega
theorem spl_back (c : UInt8) : ∀ (t acc : List UInt8), join (splG c acc t) [c] = acc ++ t := by
  intro t
  induction t with
  | nil => intro acc; unfold splG; rw [join_one, List.append_nil]
  | cons x t ih =>
    intro acc
    unfold splG
    split
    · rename_i e
      subst e
      have h := ih []
      cases hs : splG x [] t with
      | nil => have := splG_ne x t []; rw [hs] at this; simp at this
      | cons y r =>
        rw [hs] at h
        rw [join_cons] at h ⊢
        have e2 : joinTail [x] (y :: r) = x :: (y ++ joinTail [x] r) := by simp [joinTail]
        rw [e2, h]
        simp
    · rw [ih]
      simp
theorem numP_T {l : List UInt8} {n : Nat} (h : numP l = some n) : l = dgT (n : Int) := by rw [dgT, itoa_nat]; exact dec_of h
theorem vecP_back {l : List UInt8} {x : Nat × Nat × Nat × Nat} (h : vecP l = some x) : l = vecT (vI x) := by
  have hb := spl_back 58 l []
  rw [List.nil_append] at hb
  unfold vecP at h
  split at h
  · rename_i a b c d e
    cases ha : numP a with
    | none => rw [ha] at h; cases h
    | some a' =>
      cases hb' : numP b with
      | none => rw [ha, hb'] at h; cases h
      | some b' =>
        cases hc : numP c with
        | none => rw [ha, hb', hc] at h; cases h
        | some c' =>
          cases hd : numP d with
          | none => rw [ha, hb', hc, hd] at h; cases h
          | some d' =>
            rw [ha, hb', hc, hd] at h
            injection h with h
            subst h
            rw [← hb, show splG 58 [] l = [a, b, c, d] from e]
            unfold vecT vI
            rw [← numP_T ha, ← numP_T hb', ← numP_T hc, ← numP_T hd]
  · cases h
theorem sB_self (a : ByteArray) : sB a.data.toList = a := by cases a; simp [sB]
theorem wn_T {w : List ByteArray} {i : Nat} {n : Int} (h : wn w i = some n) : wd w i = sB (dgT n) := by
  unfold wn at h
  cases hn : numP (wl w i) with
  | none => rw [hn] at h; cases h
  | some m =>
    rw [hn] at h
    injection h with h
    subst h
    rw [← numP_T hn, sB_self]
theorem wv_T {w : List ByteArray} {i : Nat} {v : V} (h : wv w i = some v) : wd w i = sB (vecT v) := by
  unfold wv at h
  cases hn : vecP (wl w i) with
  | none => rw [hn] at h; cases h
  | some m =>
    rw [hn] at h
    injection h with h
    subst h
    rw [← vecP_back hn, sB_self]
/-- What digits take. -/
def dcost (l : List Int) : Nat := (l.map fun n => (dgT n).length + 1).sum
theorem insD_cost (l : List Int) (x : Int) : dcost (insD l x) ≤ dcost l + ((dgT x).length + 1) := by
  induction l with
  | nil => simp [insD, dcost]
  | cons y t ih =>
    unfold insD
    split
    · unfold dcost; simp; omega
    · split
      · omega
      · unfold dcost at ih ⊢; simp at ih ⊢; omega
theorem ded_cost (l : List Int) : ∀ acc, dcost (l.foldl insD acc) ≤ dcost acc + dcost l := by
  induction l with
  | nil => intro acc; simp [dcost]
  | cons x t ih =>
    intro acc
    rw [List.foldl_cons]
    have h1 := ih (insD acc x)
    have h2 := insD_cost acc x
    have e : dcost (x :: t) = (dgT x).length + 1 + dcost t := by unfold dcost; simp
    rw [e]
    omega
theorem join_dcost (c : UInt8) (n : Int) (t : List Int) : (join ((n :: t).map dgT) [c]).length + 1 = dcost (n :: t) := by
  rw [List.map_cons, join_length]
  have e : lens (dgT n :: t.map dgT) + (t.length + 1) = dcost (n :: t) := by
    unfold lens dcost
    simp only [List.map_cons, List.sum_cons, List.map_map]
    have : (t.map (List.length ∘ dgT)).sum + t.length = (t.map fun n => (dgT n).length + 1).sum := by
      induction t with
      | nil => rfl
      | cons y t ih => simp only [List.map_cons, List.sum_cons, List.length_cons, Function.comp] at ih ⊢; omega
    have e2 : (List.map ((fun x => x.length) ∘ dgT) t).sum = (t.map (List.length ∘ dgT)).sum := rfl
    rw [e2]
    omega
  rw [List.length_map]
  simp only [List.length_cons, List.length_nil]
  omega
theorem allP_dgT {l : List (List UInt8)} {m : List Nat} (h : allP numP l = some m) : l = (m.map fun n : Nat => (n : Int)).map dgT := by
  induction l generalizing m with
  | nil => cases h; rfl
  | cons a t ih =>
    unfold allP at h
    cases ha : numP a with
    | none => rw [ha] at h; cases h
    | some n =>
      cases ht : allP numP t with
      | none => rw [ha, ht] at h; cases h
      | some m' =>
        rw [ha, ht] at h
        injection h with h
        subst h
        rw [List.map_cons, List.map_cons, ← numP_T ha, ← ih ht]
theorem lstP_cost {l : List UInt8} {zs : List Int} (h : lstP l = some zs) : (lstT zs).length ≤ l.length := by
  unfold lstP at h
  split at h
  · rename_i e
    injection h with h
    subst h; subst e
    exact Nat.le_refl _
  · have hb := spl_back 44 l []
    rw [List.nil_append] at hb
    cases hm : allP numP (spl 44 l) with
    | none => rw [hm] at h; cases h
    | some m =>
      rw [hm] at h
      injection h with h
      have e := allP_dgT hm
      have hne := splG_ne 44 l []
      obtain ⟨zm, hzm⟩ : ∃ zm, zm = m.map fun n : Nat => (n : Int) := ⟨_, rfl⟩
      rw [← hzm] at h e
      cases zm with
      | nil => rw [show splG 44 [] l = _ from e] at hne; simp at hne
      | cons n t =>
        rw [show splG 44 [] l = _ from e] at hb
        have h1 := join_dcost 44 n t
        rw [hb] at h1
        have h2 : dcost zs ≤ dcost (n :: t) := by
          rw [← h]
          have := ded_cost (n :: t) []
          unfold ded
          have e0 : dcost [] = 0 := rfl
          omega
        have hz : zs ≠ [] := fun e => by
          have := (ded_mem (n :: t) n).2 (by simp)
          rw [h, e] at this
          cases this
        unfold lstT
        rw [if_neg hz]
        cases zs with
        | nil => exact absurd rfl hz
        | cons z r =>
          have h3 := join_dcost 44 z r
          omega
theorem list_of (w : List ByteArray) : ∀ n, w.length = n → w = (List.range n).map (wd w) := by
  intro n hn
  refine List.ext_getElem? fun i => ?_
  by_cases hi : i < n
  · rw [List.getElem?_map, List.getElem?_range hi, Option.map_some, List.getElem?_eq_getElem (by omega)]
    congr 1
    rw [wd, List.getD_eq_getElem?_getD, List.getElem?_eq_getElem (by omega)]; rfl
  · rw [List.getElem?_eq_none (by omega), List.getElem?_eq_none (by simp; omega)]
theorem cntP_word {a : List UInt8} {k : Nat} (h : (cntP a).2 = k) (h0 : (cntP a).1 ≠ 0) : 
    (k = 1 ∧ a = [116, 101, 110, 97, 110, 116] ∧ (cntP a).1 = 4) ∨ (k = 5 ∧ a = [117, 112] ∧ (cntP a).1 = 4) ∨ (k = 2 ∧ a = [115, 117, 98, 109, 105, 116] ∧ (cntP a).1 = 7) ∨ (k = 3 ∧ a = [99, 97, 110, 99, 101, 108] ∧ (cntP a).1 = 2)
      ∨ (k = 4 ∧ a = [113, 117, 101, 114, 121] ∧ (cntP a).1 = 2) ∨ (k = 6 ∧ a = [98, 101, 97, 116] ∧ (cntP a).1 = 3) ∨ (k = 7 ∧ a = [100, 111, 110, 101] ∧ (cntP a).1 = 5) ∨ (k = 8 ∧ a = [102, 97, 105, 108] ∧ (cntP a).1 = 5)
      ∨ (k = 9 ∧ a = [116, 105, 99, 107] ∧ (cntP a).1 = 1) ∨ (k = 10 ∧ a = [110, 111, 100, 101, 115] ∧ (cntP a).1 = 1) := by
  by_cases e1 : a = [116, 101, 110, 97, 110, 116]
  · subst e1; left; exact ⟨h.symm, rfl, rfl⟩
  by_cases e2 : a = [117, 112]
  · subst e2; right; left; exact ⟨h.symm, rfl, rfl⟩
  by_cases e3 : a = [115, 117, 98, 109, 105, 116]
  · subst e3; right; right; left; exact ⟨h.symm, rfl, rfl⟩
  by_cases e4 : a = [99, 97, 110, 99, 101, 108]
  · subst e4; right; right; right; left; exact ⟨h.symm, rfl, rfl⟩
  by_cases e5 : a = [113, 117, 101, 114, 121]
  · subst e5; right; right; right; right; left; exact ⟨h.symm, rfl, rfl⟩
  by_cases e6 : a = [98, 101, 97, 116]
  · subst e6; right; right; right; right; right; left; exact ⟨h.symm, rfl, rfl⟩
  by_cases e7 : a = [100, 111, 110, 101]
  · subst e7; right; right; right; right; right; right; left; exact ⟨h.symm, rfl, rfl⟩
  by_cases e8 : a = [102, 97, 105, 108]
  · subst e8; right; right; right; right; right; right; right; left; exact ⟨h.symm, rfl, rfl⟩
  by_cases e9 : a = [116, 105, 99, 107]
  · subst e9; right; right; right; right; right; right; right; right; left; exact ⟨h.symm, rfl, rfl⟩
  by_cases e10 : a = [110, 111, 100, 101, 115]
  · subst e10; right; right; right; right; right; right; right; right; right; exact ⟨h.symm, rfl, rfl⟩
  exfalso
  apply h0
  unfold cntP
  rw [if_neg e1, if_neg e2, if_neg e3, if_neg e4, if_neg e5, if_neg e6, if_neg e7, if_neg e8, if_neg e9, if_neg e10]
theorem kind_ws {ws : List ByteArray} {k : Nat} (h : kindP ws = k) (h0 : k ≠ 0) : ∃ a t, ws = a :: t ∧ (cntP a.data.toList).2 = k ∧ (cntP a.data.toList).1 ≠ 0 ∧ (ws.length = (cntP a.data.toList).1 ∨ (k = 2 ∧ (cntP a.data.toList).1 < ws.length)) := by
  cases ws with
  | nil => exact absurd h.symm h0
  | cons a t =>
    unfold kindP at h
    simp only at h
    split at h
    · rename_i q
      refine ⟨a, t, rfl, h, q.1, ?_⟩
      rw [← h]
      exact q.2
    · exact absurd h.symm h0
theorem wd0 (a : ByteArray) (t : List ByteArray) {l : List UInt8} (h : a.data.toList = l) : wd (a :: t) 0 = sB l := by
  show a = _
  rw [← h, sB_self]
theorem sB_size (l : List UInt8) : (sB l).size = l.length := by show l.toArray.size = _; simp
theorem cost_set {ws : List ByteArray} {n : Nat} (hl : ws.length = n) {vs : List ByteArray} (h : vs = (List.range n).map (wd ws)) : cost vs = cost ws := by rw [h, ← list_of ws n hl]
theorem cost_cons (a : ByteArray) (l : List ByteArray) : cost (a :: l) = a.size + 1 + cost l := by unfold cost; simp
theorem allV_T {ws : List ByteArray} {m : List (Nat × Nat × Nat × Nat)} (h : allP vecP (ws.map (·.data.toList)) = some m) : ws = (m.map vI).map fun v => sB (vecT v) := by
  induction ws generalizing m with
  | nil => cases h; rfl
  | cons a t ih =>
    rw [List.map_cons] at h
    unfold allP at h
    cases ha : vecP a.data.toList with
    | none => rw [ha] at h; cases h
    | some n =>
      cases ht : allP vecP (t.map (·.data.toList)) with
      | none => rw [ha, ht] at h; cases h
      | some m' =>
        rw [ha, ht] at h
        injection h with h
        subst h
        rw [List.map_cons, List.map_cons, ← vecP_back ha, sB_self, ← ih ht]
theorem seven {ws : List ByteArray} (h : 6 ≤ ws.length) : ws = wd ws 0 :: wd ws 1 :: wd ws 2 :: wd ws 3 :: wd ws 4 :: wd ws 5 :: ws.drop 6 := by
  match ws, h with
  | a :: b :: c :: d :: e :: f :: t, _ => rfl
/-- What is parsed is printed within its line. -/
theorem cmd_cost {ws : List ByteArray} {k : Nat} {c : Cm} (hk : kindP ws = k) (h0 : k ≠ 0) (hc : cmdP k ws = some c) : cost (cmdT c) ≤ cost ws := by
  obtain ⟨a, t, hw, h1, h2, h3⟩ := kind_ws hk h0
  have hfst : ∀ l, a.data.toList = l → wd ws 0 = sB l := fun l hl => by rw [hw]; exact wd0 a t hl
  rcases cntP_word h1 h2 with ⟨rfl, e, n⟩ | ⟨rfl, e, n⟩ | ⟨rfl, e, n⟩ | ⟨rfl, e, n⟩ | ⟨rfl, e, n⟩ | ⟨rfl, e, n⟩ | ⟨rfl, e, n⟩ | ⟨rfl, e, n⟩ | ⟨rfl, e, n⟩ | ⟨rfl, e, n⟩ <;> rw [n] at h3 <;> have hf := hfst _ e
  · have hl : ws.length = 4 := by omega
    unfold cmdP at hc
    rw [if_pos rfl] at hc
    cases q1 : wn ws 2 with
    | none => rw [q1] at hc; cases hc
    | some x =>
      cases q2 : wv ws 3 with
      | none => rw [q1, q2] at hc; cases hc
      | some v =>
        rw [q1, q2] at hc
        injection hc with hc
        subst hc
        refine Nat.le_of_eq (cost_set hl ?_)
        show [sB [116, 101, 110, 97, 110, 116], wd ws 1, sB (dgT x), sB (vecT v)] = [wd ws 0, wd ws 1, wd ws 2, wd ws 3]
        rw [hf, wn_T q1, wv_T q2]
  · have hl : ws.length = 4 := by omega
    unfold cmdP at hc
    rw [if_neg (by decide), if_neg (by decide), if_neg (by decide), if_pos rfl] at hc
    cases q1 : wn ws 2 with
    | none => rw [q1] at hc; cases hc
    | some x =>
      cases q2 : wv ws 3 with
      | none => rw [q1, q2] at hc; cases hc
      | some v =>
        rw [q1, q2] at hc
        injection hc with hc
        subst hc
        refine Nat.le_of_eq (cost_set hl ?_)
        show [sB [117, 112], wd ws 1, sB (dgT x), sB (vecT v)] = [wd ws 0, wd ws 1, wd ws 2, wd ws 3]
        rw [hf, wn_T q1, wv_T q2]
  · have hl : 7 ≤ ws.length := by omega
    unfold cmdP at hc
    rw [if_neg (by decide), if_pos rfl] at hc
    cases qj : jobP ws with
    | none => rw [qj] at hc; cases hc
    | some j =>
      rw [qj] at hc
      injection hc with hc
      subst hc
      unfold jobP at qj
      cases q1 : wn ws 1 with
      | none => rw [q1] at qj; cases qj
      | some x1 =>
        cases q3 : wn ws 3 with
        | none => rw [q1, q3] at qj; cases qj
        | some x3 =>
          cases q4 : wn ws 4 with
          | none => rw [q1, q3, q4] at qj; cases qj
          | some x4 =>
            cases q5 : lstP (wl ws 5) with
            | none => rw [q1, q3, q4, q5] at qj; cases qj
            | some zs =>
              cases q6 : allP vecP ((ws.drop 6).map (·.data.toList)) with
              | none => rw [q1, q3, q4, q5, q6] at qj; cases qj
              | some m =>
                rw [q1, q3, q4, q5, q6] at qj
                injection qj with qj
                subst qj
                have e6 := allV_T q6
                have e5 := lstP_cost q5
                have h5 : (wl ws 5).length = (wd ws 5).size := by simp
                have ez : (sB (lstT zs)).size ≤ (wd ws 5).size := by rw [sB_size]; omega
                conv => rhs; rw [seven (ws := ws) (by omega)]
                show cost (sB [115, 117, 98, 109, 105, 116] :: sB (dgT x1) :: wd ws 2 :: sB (dgT x3) :: sB (dgT x4) :: sB (lstT zs) :: (m.map vI).map fun v => sB (vecT v)) ≤ _
                rw [← e6, ← wn_T q1, ← wn_T q3, ← wn_T q4, ← hf]
                simp only [cost_cons]
                omega
  · have hl : ws.length = 2 := by omega
    unfold cmdP at hc
    rw [if_neg (by decide), if_neg (by decide), if_pos (by decide)] at hc
    cases q1 : wn ws 1 with
    | none => rw [q1] at hc; cases hc
    | some x =>
      rw [q1] at hc
      injection hc with hc
      subst hc
      refine Nat.le_of_eq (cost_set hl ?_)
      show [sB [99, 97, 110, 99, 101, 108], sB (dgT x)] = [wd ws 0, wd ws 1]
      rw [hf, wn_T q1]
  · have hl : ws.length = 2 := by omega
    unfold cmdP at hc
    rw [if_neg (by decide), if_neg (by decide), if_pos (by decide)] at hc
    cases q1 : wn ws 1 with
    | none => rw [q1] at hc; cases hc
    | some x =>
      rw [q1] at hc
      injection hc with hc
      subst hc
      refine Nat.le_of_eq (cost_set hl ?_)
      show [sB [113, 117, 101, 114, 121], sB (dgT x)] = [wd ws 0, wd ws 1]
      rw [hf, wn_T q1]
  · have hl : ws.length = 3 := by omega
    unfold cmdP at hc
    rw [if_neg (by decide), if_neg (by decide), if_neg (by decide), if_neg (by decide), if_pos rfl] at hc
    cases q1 : wn ws 2 with
    | none => rw [q1] at hc; cases hc
    | some x =>
      rw [q1] at hc
      injection hc with hc
      subst hc
      refine Nat.le_of_eq (cost_set hl ?_)
      show [sB [98, 101, 97, 116], wd ws 1, sB (dgT x)] = [wd ws 0, wd ws 1, wd ws 2]
      rw [hf, wn_T q1]
  · have hl : ws.length = 5 := by omega
    unfold cmdP at hc
    rw [if_neg (by decide), if_neg (by decide), if_neg (by decide), if_neg (by decide), if_neg (by decide), if_pos (by decide)] at hc
    cases q1 : wn ws 2 with
    | none => rw [q1] at hc; cases hc
    | some x =>
      cases q2 : wn ws 3 with
      | none => rw [q1, q2] at hc; cases hc
      | some y =>
        cases q3 : wn ws 4 with
        | none => rw [q1, q2, q3] at hc; cases hc
        | some z =>
          rw [q1, q2, q3] at hc
          injection hc with hc
          subst hc
          refine Nat.le_of_eq (cost_set hl ?_)
          show [sB [100, 111, 110, 101], wd ws 1, sB (dgT x), sB (dgT y), sB (dgT z)] = [wd ws 0, wd ws 1, wd ws 2, wd ws 3, wd ws 4]
          rw [hf, wn_T q1, wn_T q2, wn_T q3]
  · have hl : ws.length = 5 := by omega
    unfold cmdP at hc
    rw [if_neg (by decide), if_neg (by decide), if_neg (by decide), if_neg (by decide), if_neg (by decide), if_pos (by decide)] at hc
    cases q1 : wn ws 2 with
    | none => rw [q1] at hc; cases hc
    | some x =>
      cases q2 : wn ws 3 with
      | none => rw [q1, q2] at hc; cases hc
      | some y =>
        cases q3 : wn ws 4 with
        | none => rw [q1, q2, q3] at hc; cases hc
        | some z =>
          rw [q1, q2, q3] at hc
          injection hc with hc
          subst hc
          refine Nat.le_of_eq (cost_set hl ?_)
          show [sB [102, 97, 105, 108], wd ws 1, sB (dgT x), sB (dgT y), sB (dgT z)] = [wd ws 0, wd ws 1, wd ws 2, wd ws 3, wd ws 4]
          rw [hf, wn_T q1, wn_T q2, wn_T q3]
  · have hl : ws.length = 1 := by omega
    have hc2 : some ({ cm0 with kind := 9 }) = some c := hc
    injection hc2 with hc2
    subst hc2
    refine Nat.le_of_eq (cost_set hl ?_)
    show [sB [116, 105, 99, 107]] = [wd ws 0]
    rw [hf]
  · have hl : ws.length = 1 := by omega
    have hc2 : some ({ cm0 with kind := 10 }) = some c := hc
    injection hc2 with hc2
    subst hc2
    refine Nat.le_of_eq (cost_set hl ?_)
    show [sB [110, 111, 100, 101, 115]] = [wd ws 0]
    rw [hf]
theorem form0 : formB cm0 = false := by decide
theorem line_err {s : ByteArray} (h : (lineP s).2 ≠ 0) : (lineP s).1 = cm0 := by
  unfold lineP at h ⊢
  split
  · rfl
  · rename_i h1
    rw [if_neg h1] at h
    split
    · rfl
    · rename_i h2
      rw [if_neg h2] at h
      split
      · rfl
      · rename_i h3
        rw [if_neg h3] at h
        split
        · rfl
        · rename_i c e
          rw [e] at h
          simp only at h
          split
          · rename_i hf
            rw [if_pos hf] at h
            exact absurd rfl h
          · rfl
/-- What is parsed is formed, and printed to a line that is parsed alike. -/
theorem line_back {s : ByteArray} {d : Cm} (h : lineP s = (d, 0)) : formB d = true ∧ ∃ L, printP d = (L, 0) ∧ lineP (sB L) = (d, 0) := by
  have key : formB d = true ∧ (jn (cmdT d)).length ≤ 512 := by
    unfold lineP at h
    by_cases h1 : 512 < s.size
    · rw [if_pos h1] at h; injection h with _ h; cases h
    rw [if_neg h1] at h
    by_cases h2 : (wres s).2.2 = 0
    · rw [if_neg (by rw [h2]; simp)] at h
      by_cases h3 : kindP (wres s).1 = 0
      · rw [if_pos h3] at h; injection h with _ h; cases h
      rw [if_neg h3] at h
      cases hc : cmdP (kindP (wres s).1) (wres s).1 with
      | none => rw [hc] at h; injection h with _ h; cases h
      | some c =>
        rw [hc] at h
        simp only at h
        by_cases hf : formB c = true
        · rw [if_pos hf] at h
          injection h with h _
          subst h
          refine ⟨hf, ?_⟩
          have hk := cmd_cost rfl h3 hc
          have hchk : (chkA s 0 0).2.2 = 0 := by
            rcases Classical.em ((chkA s 0 0).2.2 = 0) with q | q
            · exact q
            · rw [wres_chk q] at h2; exact h2
          cases hcw : cutW s with
          | none => have := (wres_cut hchk).2 hcw; rw [h2] at this; cases this
          | some r =>
            have e := (wres_cut hchk).1 r hcw
            rw [e] at hk
            have h4 := bw_cost _ _ _ _ _ hcw
            have hl : s.data.toList.length = s.size := by simp
            have h5 := jn_cost (cmdT c)
            have e0 : cost [] = 0 := rfl
            simp only [List.length_nil] at h4
            rw [e0, hl] at h4
            simp only at hk
            omega
        · rw [if_neg hf] at h; injection h with _ h; cases h
    · rw [if_pos h2] at h
      injection h with _ h
      exact absurd h h2
  have hp : printP d = (jn (cmdT d), 0) := by
    unfold printP
    rw [if_pos key.1, if_neg (by omega)]
  exact ⟨key.1, _, hp, print_back hp⟩
end Go.Proofs.YtidcbcljeofooaaGreatDoor
