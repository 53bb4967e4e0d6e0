/- Chapter 13's reference as a function of the key, its row rising. -/
import Derived.Test.YtobgolceggeogaaRefI
import Derived.Test.YtobgolceggeogaaRefH
namespace Go.Proofs.Ytobgolceggeogaa
open Go.RowKit
def RowO (A : Acc) (n : Nat) (l : List RA) : Prop := Row A n l ∧ RisR l
def RefO (B : Nat) (w : World) (R n : Nat) (A : Acc) : Prop := ∃ v l, RefL B w R v l ∧ RowO A n l
theorem RefO.below {B R n : Nat} {A : Acc} {w w' : World} (h : RefO B w R n A) (hb : Below w.heap.size w w') : RefO B w' R n A := by
  obtain ⟨v, l, h1, h2⟩ := h
  exact ⟨v, l, h1.below hb, h2⟩
theorem RefPost.toO {B R n : Nat} {A : Acc} {w w' : World} {l : List RA} (h : RefPost B w w' R l) (hr : RowO A n l) : RefO B w' R n A ∧ Below B w w' ∧ KeptT w w' := by
  obtain ⟨⟨v, h1⟩, h2, h3⟩ := h
  exact ⟨⟨v, l, h1, hr⟩, h2, h3⟩
theorem ropen_o (B R n : Nat) (A : Acc) (s : ByteArray) (a b c d : Int) (w : World) (hB : B ≤ w.heap.size) (hR : RefO B w R n A) (hn : n ≤ 64) :
    Calls Try.prog 14 #[.pointer (some ⟨R, 0, none⟩), .string s, .agg #[.int .i64 a, .int .i64 b, .int .i64 c, .int .i64 d]] w fun e w' =>
      e = .returned (.int .i64 (openE A n s.data.toList (a, b, c, d))) ∧ RefO B w' R (openN A n s.data.toList (a, b, c, d)) (openA A n s.data.toList (a, b, c, d)) ∧ Below B w w' ∧ KeptT w w' := by
  obtain ⟨v, l, h1, h2⟩ := hR
  have hl := h2.1.1
  have hA := h2.1.2.2 s
  by_cases hv : okV (a, b, c, d) = true
  · rcases look_find l s with ⟨k1, k2⟩ | ⟨k, hk, k1, k2, k3⟩
    · rw [k2] at hA
      by_cases h64 : 64 ≤ l.length
      · have e : openE A n s.data.toList (a, b, c, d) = 6 := by unfold openE; rw [if_pos hv, hA]; simp; omega
        refine (ropen_full B R v l s a b c d w hB h1 (by omega) hv k1 h64).mono ?_
        rintro x w' ⟨rfl, hp⟩
        unfold openA openN
        rw [e, if_neg (by decide), if_neg (by decide)]
        exact ⟨rfl, hp.toO h2⟩
      · have e : openE A n s.data.toList (a, b, c, d) = 0 := by unfold openE; rw [if_pos hv, hA]; simp; omega
        refine (ropen_place B R v l s a b c d w hB h1 (by omega) hv k1 (by omega)).mono ?_
        rintro x w' ⟨rfl, k, hk, hg, hlo, hp⟩
        unfold openA openN
        rw [e, if_pos rfl, if_pos rfl, hA]
        exact ⟨rfl, hp.toO ⟨h2.1.ins k (s, (a, b, c, d), zeroV) k2, h2.2.place hk (s, (a, b, c, d), zeroV) (fun y hy e => (look_none l s).1 k2 (List.mem_map.2 ⟨y, hy, e⟩)) hg hlo⟩⟩
    · rw [k3] at hA
      have e : openE A n s.data.toList (a, b, c, d) = 0 := by unfold openE; rw [if_pos hv, hA]; simp
      refine (ropen_old B R v l s a b c d w hB h1 (by omega) hv k k1 hk).mono ?_
      rintro x w' ⟨rfl, hp⟩
      unfold openA openN
      rw [e, if_pos rfl, if_pos rfl, hA]
      have r : RowO _ _ _ := ⟨h2.1.set hk (l[k].1, (a, b, c, d), l[k].2.2) rfl, h2.2.set hk (l[k].1, (a, b, c, d), l[k].2.2) rfl⟩
      simp only [k2] at r hp
      exact ⟨rfl, hp.toO r⟩
  · have hv' : okV (a, b, c, d) = false := by simpa using hv
    have e : openE A n s.data.toList (a, b, c, d) = 4 := by unfold openE; rw [hv']; rfl
    refine (ropen_form B R v l s a b c d w hB h1 hv').mono ?_
    rintro x w' ⟨rfl, hp⟩
    unfold openA openN
    rw [e, if_neg (by decide), if_neg (by decide)]
    exact ⟨rfl, hp.toO h2⟩
theorem rclose_o (B R n : Nat) (A : Acc) (s : ByteArray) (w : World) (hB : B ≤ w.heap.size) (hR : RefO B w R n A) (hn : n ≤ 64) :
    Calls Try.prog 17 #[.pointer (some ⟨R, 0, none⟩), .string s] w fun e w' =>
      e = .returned (.int .i64 (closeE A s.data.toList)) ∧ RefO B w' R (closeN A n s.data.toList) (closeA A s.data.toList) ∧ Below B w w' ∧ KeptT w w' := by
  obtain ⟨v, l, h1, h2⟩ := hR
  have hl := h2.1.1
  have hA := h2.1.2.2 s
  rcases look_find l s with ⟨k1, k2⟩ | ⟨k, hk, k1, k2, k3⟩
  · rw [k2] at hA
    have e : closeE A s.data.toList = 3 := by unfold closeE; rw [hA]
    refine (rclose_none B R v l s w hB h1 (by omega) k1).mono ?_
    rintro x w' ⟨rfl, hp⟩
    unfold closeA closeN
    rw [e, if_neg (by decide), if_neg (by decide)]
    exact ⟨rfl, hp.toO h2⟩
  · rw [k3] at hA
    by_cases hu : l[k].2.2 = zeroV
    · have e : closeE A s.data.toList = 0 := by unfold closeE; rw [hA]; exact if_pos hu
      refine (rclose_ok B R v l s w hB h1 (by omega) k k1 hk hu).mono ?_
      rintro x w' ⟨rfl, hp⟩
      unfold closeA closeN
      rw [e, if_pos rfl, if_pos rfl]
      have r : RowO _ _ _ := ⟨h2.1.del hk, h2.2.del k⟩
      rw [k2] at r
      exact ⟨rfl, hp.toO r⟩
    · have e : closeE A s.data.toList = 10 := by unfold closeE; rw [hA]; exact if_neg hu
      refine (rclose_used B R v l s w hB h1 (by omega) k k1 hk hu).mono ?_
      rintro x w' ⟨rfl, hp⟩
      unfold closeA closeN
      rw [e, if_neg (by decide), if_neg (by decide)]
      exact ⟨rfl, hp.toO h2⟩
theorem RisR.appE {L : List RA} (h : RisR L) (e : Ent) : RisR (appE L e) := by
  unfold Go.Proofs.Ytobgolceggeogaa.appE
  by_cases hk : (findI L e.1).toNat < L.length
  · refine h.set hk _ ?_
    simp only [accI, List.getD, List.getElem?_eq_getElem hk, Option.getD_some]
  · rw [List.set_eq_of_length_le (by omega)]
    exact h
theorem RisR.givE {L : List RA} (h : RisR L) (e : Ent) : RisR (givE L e) := by
  unfold Go.Proofs.Ytobgolceggeogaa.givE
  by_cases hk : (findI L e.1).toNat < L.length
  · refine h.set hk _ ?_
    simp only [accI, List.getD, List.getElem?_eq_getElem hk, Option.getD_some]
  · rw [List.set_eq_of_length_le (by omega)]
    exact h
theorem RisR.appI : ∀ (l : List Ent) {L : List RA} (_ : RisR L), RisR (appI L l)
  | [], _, h => h
  | e :: l, _, h => RisR.appI l (h.appE e)
theorem RisR.givI : ∀ (l : List Ent) {L : List RA} (_ : RisR L), RisR (givI L l)
  | [], _, h => h
  | e :: l, _, h => RisR.givI l (h.givE e)
theorem rtakes_o (B R n : Nat) (A : Acc) (S : Option Addr) (len cap : Nat) (l : List Ent) (w : World) (hB : B ≤ w.heap.size) (hR : RefO B w R n A) (hn : n ≤ 64) (hi : Inv A) (hl : SlE w S len l) (hm : l.length ≤ 100000) (hpo : ∀ b off, S = some ⟨b, off, none⟩ → ∃ o, w.heap[b]? = some o ∧ notRef o) :
    Calls Try.prog 15 #[.pointer (some ⟨R, 0, none⟩), .slice S len cap] w fun e w' => e = .returned (.int .i64 (takeE A l)) ∧ RefO B w' R n (takeR A l) ∧ Below B w w' ∧ KeptT w w' := by
  obtain ⟨v, L, hRL, hrow⟩ := hR
  have hLn : L.length ≤ 100000 := by have := hrow.1.1; omega
  obtain ⟨hlen, hl0⟩ := hl
  have hnil : l = [] → Calls Try.prog 15 #[.pointer (some ⟨R, 0, none⟩), .slice S len cap] w fun e w' => e = .returned (.int .i64 (takeE A l)) ∧ RefO B w' R n (takeR A l) ∧ Below B w w' ∧ KeptT w w' := fun h0 => by
    subst h0
    have hz : len = 0 := hlen
    subst hz
    have e1 : takeE A [] = 0 := rfl
    have e2 : takeR A [] = A := rfl
    rw [e1, e2]
    exact (rtake_empty R S cap w).mono fun e w' ⟨q1, q2⟩ => ⟨q1, ⟨v, L, hRL.below q2, hrow⟩, q2.mono hB, keptT_below q2⟩
  rcases hl0 with h0 | ⟨b, off, rfl, hb, hE⟩
  · exact hnil h0
  · by_cases h0 : l = []
    · exact hnil h0
    · by_cases hw0 : wrongI L l = 0
      · have hg : gathE A l = 0 := by rw [← wrong_gath hrow.1]; exact hw0
        have hv := gath_form hg
        have hf := (wrong_zero hw0).2
        have hok : ∀ x ∈ L, okV x.2.1 = true ∧ okV x.2.2 = true := fun x hx => by
          obtain ⟨i, hi', rfl⟩ := List.mem_iff_getElem.1 hx
          have hap := hrow.1.apart hi'
          have h9 : A L[i].1.data.toList = some L[i].2 := by
            rw [hrow.1.2.2]
            rcases look_find L L[i].1 with ⟨-, h2⟩ | ⟨k, hk, h1, h2, h3⟩
            · exact absurd (List.mem_map.2 ⟨L[i], hx, rfl⟩) ((look_none L L[i].1).1 h2)
            · have : k = i := nodup_at hrow.1.2.1 hk hi' h2
              subst this
              exact h3
          exact hi _ _ h9
        have hall : l.all (chkI L l) = l.all (fun e => takeFits A (sumsOf l) (nm e)) := by
          rw [Bool.eq_iff_iff, List.all_eq_true, List.all_eq_true]
          exact ⟨fun h e he => by rw [← chk_fits hrow.1 hi hv (hf e he)]; exact h e he, fun h e he => by rw [chk_fits hrow.1 hi hv (hf e he)]; exact h e he⟩
        have hpos : 0 < L.length := by
          obtain ⟨e, he⟩ := List.exists_mem_of_ne_nil l h0
          obtain ⟨j, hj, -⟩ := findI_hit L e.1 (hf e he)
          omega
        obtain ⟨g, rcap, rfl, -⟩ := hRL.row hpos
        have hpn : n = L.length := hrow.1.1
        by_cases hq : l.all (chkI L l) = true
        · have hE0 : takeE A l = 0 := by unfold takeE; rw [if_pos hg, ← hall, if_pos hq]
          rw [hE0]
          refine (rtake_fits B R g rcap L.length len L b off cap l w hB hRL rfl hLn hb hE hlen hm hok hw0 hq (hpo b off rfl)).mono fun e w' ⟨q1, q2⟩ => ⟨q1, ?_⟩
          have hr2 := Row.take l hrow.1 hf
          rw [← Taken.takeR (taken_of hi hE0)] at hr2
          exact q2.toO ⟨hr2, RisR.appI l hrow.2⟩
        · have hq : l.all (chkI L l) = false := by simpa using hq
          have hE0 : takeE A l = 9 := by unfold takeE; rw [if_pos hg, ← hall, hq]; rfl
          have hR0 : takeR A l = A := by unfold takeR; rw [hE0]; rfl
          rw [hE0, hR0]
          exact (rtake_quota B R g rcap L.length len L b off cap l w hB hRL rfl hLn hb hE hlen hm hok hw0 hq).mono fun e w' ⟨q1, q2⟩ => ⟨q1, q2.toO hrow⟩
      · have hg : gathE A l ≠ 0 := by rw [← wrong_gath hrow.1]; exact hw0
        have hE0 : takeE A l = wrongI L l := by unfold takeE; rw [if_neg hg, wrong_gath hrow.1]
        have hR0 : takeR A l = A := by unfold takeR; rw [if_neg (by rw [hE0]; exact hw0)]
        rw [hE0, hR0]
        exact (rtake_wrong B R v L b off cap len l w hRL hLn hb hE hlen hm hw0).mono fun e w' ⟨q1, q2⟩ => ⟨q1, ⟨v, L, hRL.below q2, hrow⟩, q2.mono hB, keptT_below q2⟩
theorem rgives_o (B R n : Nat) (A : Acc) (S : Option Addr) (len cap : Nat) (l : List Ent) (w : World) (hB : B ≤ w.heap.size) (hR : RefO B w R n A) (hn : n ≤ 64) (hi : Inv A) (hl : SlE w S len l) (hm : l.length ≤ 100000) (hpo : ∀ b off, S = some ⟨b, off, none⟩ → ∃ o, w.heap[b]? = some o ∧ notRef o) :
    Calls Try.prog 37 #[.pointer (some ⟨R, 0, none⟩), .slice S len cap] w fun e w' => e = .returned (.int .i64 (giveE A l)) ∧ RefO B w' R n (giveR A l) ∧ Below B w w' ∧ KeptT w w' := by
  obtain ⟨v, L, hRL, hrow⟩ := hR
  have hLn : L.length ≤ 100000 := by have := hrow.1.1; omega
  obtain ⟨hlen, hl0⟩ := hl
  have hnil : l = [] → Calls Try.prog 37 #[.pointer (some ⟨R, 0, none⟩), .slice S len cap] w fun e w' => e = .returned (.int .i64 (giveE A l)) ∧ RefO B w' R n (giveR A l) ∧ Below B w w' ∧ KeptT w w' := fun h0 => by
    subst h0
    have hz : len = 0 := hlen
    subst hz
    have e1 : giveE A [] = 0 := rfl
    have e2 : giveR A [] = A := rfl
    rw [e1, e2]
    exact (rgive_empty R S cap w).mono fun e w' ⟨q1, q2⟩ => ⟨q1, ⟨v, L, hRL.below q2, hrow⟩, q2.mono hB, keptT_below q2⟩
  rcases hl0 with h0 | ⟨b, off, rfl, hb, hE⟩
  · exact hnil h0
  · by_cases h0 : l = []
    · exact hnil h0
    · by_cases hw0 : wrongI L l = 0
      · have hg : gathE A l = 0 := by rw [← wrong_gath hrow.1]; exact hw0
        have hv := gath_form hg
        have hf := (wrong_zero hw0).2
        have hok : ∀ x ∈ L, okV x.2.1 = true ∧ okV x.2.2 = true := fun x hx => by
          obtain ⟨i, hi', rfl⟩ := List.mem_iff_getElem.1 hx
          have hap := hrow.1.apart hi'
          have h9 : A L[i].1.data.toList = some L[i].2 := by
            rw [hrow.1.2.2]
            rcases look_find L L[i].1 with ⟨-, h2⟩ | ⟨k, hk, h1, h2, h3⟩
            · exact absurd (List.mem_map.2 ⟨L[i], hx, rfl⟩) ((look_none L L[i].1).1 h2)
            · have : k = i := nodup_at hrow.1.2.1 hk hi' h2
              subst this
              exact h3
          exact hi _ _ h9
        have hall : l.all (chkJ L l) = l.all (fun e => giveFits A (sumsOf l) (nm e)) := by
          rw [Bool.eq_iff_iff, List.all_eq_true, List.all_eq_true]
          exact ⟨fun h e he => by rw [← chk_gives hrow.1 hi hv (hf e he)]; exact h e he, fun h e he => by rw [chk_gives hrow.1 hi hv (hf e he)]; exact h e he⟩
        have hpos : 0 < L.length := by
          obtain ⟨e, he⟩ := List.exists_mem_of_ne_nil l h0
          obtain ⟨j, hj, -⟩ := findI_hit L e.1 (hf e he)
          omega
        obtain ⟨g, rcap, rfl, -⟩ := hRL.row hpos
        have hpn : n = L.length := hrow.1.1
        by_cases hq : l.all (chkJ L l) = true
        · have hE0 : giveE A l = 0 := by unfold giveE; rw [if_pos hg, ← hall, if_pos hq]
          rw [hE0]
          refine (rgive_fits B R g rcap L.length len L b off cap l w hB hRL rfl hLn hb hE hlen hm hok hw0 hq (hpo b off rfl)).mono fun e w' ⟨q1, q2⟩ => ⟨q1, ?_⟩
          have hr2 := Row.give l hrow.1 hf
          rw [← giveR_step hi hE0] at hr2
          exact q2.toO ⟨hr2, RisR.givI l hrow.2⟩
        · have hq : l.all (chkJ L l) = false := by simpa using hq
          have hE0 : giveE A l = 2 := by unfold giveE; rw [if_pos hg, ← hall, hq]; rfl
          have hR0 : giveR A l = A := by unfold giveR; rw [hE0]; rfl
          rw [hE0, hR0]
          exact (rgive_range B R g rcap L.length len L b off cap l w hB hRL rfl hLn hb hE hlen hm hok hw0 hq).mono fun e w' ⟨q1, q2⟩ => ⟨q1, q2.toO hrow⟩
      · have hg : gathE A l ≠ 0 := by rw [← wrong_gath hrow.1]; exact hw0
        have hE0 : giveE A l = wrongI L l := by unfold giveE; rw [if_neg hg, wrong_gath hrow.1]
        have hR0 : giveR A l = A := by unfold giveR; rw [if_neg (by rw [hE0]; exact hw0)]
        rw [hE0, hR0]
        exact (rgive_wrong B R v L b off cap len l w hRL hLn hb hE hlen hm hw0).mono fun e w' ⟨q1, q2⟩ => ⟨q1, ⟨v, L, hRL.below q2, hrow⟩, q2.mono hB, keptT_below q2⟩
end Go.Proofs.Ytobgolceggeogaa
