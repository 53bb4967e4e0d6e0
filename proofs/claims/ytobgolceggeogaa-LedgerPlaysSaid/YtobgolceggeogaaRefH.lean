/- Chapter 13's reference: Take and Give whole, as functions of the key. -/
import Derived.Test.YtobgolceggeogaaRefG
namespace Go.Proofs.Ytobgolceggeogaa
open Go.RowKit
set_option maxRecDepth 20000 in
set_option maxHeartbeats 4000000 in
theorem rwrong_empty (R : Nat) (S : Option Addr) (cap : Nat) (w : World) :
    Calls Try.prog 33 #[.pointer (some ⟨R, 0, none⟩), .slice S 0 cap] w fun e w' => e = .returned (.int .i64 0) ∧ Below w.heap.size w w' := by
  go_enter Try.func33, Try.ntmps33
  go_wp2
  refine wp_loop_rounds 1 ?_
  rw [rounds_succ]
  go_wp2
  refine wp_loop_rounds 1 ?_
  rw [rounds_succ]
  go_wp2
  go_ret
  exact ⟨rfl, Below.refl _ _⟩
set_option maxRecDepth 20000 in
set_option maxHeartbeats 4000000 in
theorem rtake_empty (R : Nat) (S : Option Addr) (cap : Nat) (w : World) :
    Calls Try.prog 15 #[.pointer (some ⟨R, 0, none⟩), .slice S 0 cap] w fun e w' => e = .returned (.int .i64 0) ∧ Below w.heap.size w w' := by
  go_enter Try.func15, Try.ntmps15
  go_wp2_with fail
  refine (rwrong_empty R S cap w).mono ?_
  rintro e w1 ⟨rfl, hb1⟩
  go_wp2
  refine wp_loop_rounds 1 ?_
  rw [rounds_succ]
  go_wp2
  refine wp_loop_rounds 1 ?_
  rw [rounds_succ]
  go_wp2
  go_ret
  exact ⟨rfl, hb1⟩
set_option maxRecDepth 20000 in
set_option maxHeartbeats 4000000 in
theorem rtake_wrong (B R : Nat) (v : Value) (L : List RA) (p off cap n : Nat) (l : List Ent) (w : World) (hR : RefL B w R v L) (hL : L.length ≤ 100000) (hp : p < w.heap.size) (hl : HoldsE w p off l) (hn : n = l.length) (hm : l.length ≤ 100000) (hw0 : wrongI L l ≠ 0) :
    Calls Try.prog 15 #[.pointer (some ⟨R, 0, none⟩), .slice (some ⟨p, off, none⟩) n cap] w fun e w' => e = .returned (.int .i64 (wrongI L l)) ∧ Below w.heap.size w w' := by
  have hw := rwrong_any B R v L p off cap l w hR hL hp hl hm
  rw [← hn] at hw
  obtain ⟨r, hr⟩ : ∃ r, r = wrongI L l := ⟨_, rfl⟩
  rw [← hr] at hw hw0 ⊢
  have hne : (r != 0) = true := by rw [bne_iff_ne]; exact hw0
  clear hr hR hl hn
  go_enter Try.func15, Try.ntmps15
  go_wp2_with fail
  refine hw.mono ?_
  rintro e w1 ⟨rfl, hb1⟩
  go_wp2
  go_ret
  exact ⟨rfl, hb1⟩
theorem nodup_at {L : List RA} (h : (L.map (·.1)).Nodup) {i j : Nat} (hi : i < L.length) (hj : j < L.length) (e : L[i].1 = L[j].1) : i = j := by
  have h1 := List.pairwise_iff_getElem.1 h
  have key : ∀ a b, (ha : a < L.length) → (hb : b < L.length) → a < b → L[a].1 ≠ L[b].1 := fun a b ha hb hab => by
    have := h1 a b (by simpa using ha) (by simpa using hb) hab
    simpa using this
  rcases Nat.lt_trichotomy i j with h2 | h2 | h2
  · exact absurd e (key i j hi hj h2)
  · exact h2
  · exact absurd e.symm (key j i hj hi h2)
theorem rtakes_b (B R n : Nat) (A : Acc) (S : Option Addr) (len cap : Nat) (l : List Ent) (w : World) (hB : B ≤ w.heap.size) (hR : RefB B w R n A) (hn : n ≤ 64) (hi : Inv A) (hl : SlE w S len l) (hm : l.length ≤ 100000) (hpo : ∀ b off, S = some ⟨b, off, none⟩ → ∃ o, w.heap[b]? = some o ∧ notRef o) :
    Calls Try.prog 15 #[.pointer (some ⟨R, 0, none⟩), .slice S len cap] w fun e w' => e = .returned (.int .i64 (takeE A l)) ∧ RefB B w' R n (takeR A l) ∧ Below B w w' ∧ KeptT w w' := by
  obtain ⟨v, L, hRL, hrow⟩ := hR
  have hLn : L.length ≤ 100000 := by have := hrow.1; omega
  obtain ⟨hlen, hl0⟩ := hl
  have hnil : l = [] → Calls Try.prog 15 #[.pointer (some ⟨R, 0, none⟩), .slice S len cap] w fun e w' => e = .returned (.int .i64 (takeE A l)) ∧ RefB B w' R n (takeR A l) ∧ Below B w w' ∧ KeptT w w' := fun h0 => by
    subst h0
    have hz : len = 0 := hlen
    subst hz
    have e1 : takeE A [] = 0 := rfl
    have e2 : takeR A [] = A := rfl
    rw [e1, e2]
    exact (rtake_empty R S cap w).mono fun e w' ⟨q1, q2⟩ => ⟨q1, ⟨v, L, hRL.below q2, hrow⟩, q2.mono hB, keptT_below q2⟩
  rcases hl0 with h0 | ⟨b, off, rfl, hb, hE⟩
  · exact hnil h0
  · by_cases h0 : l = []
    · exact hnil h0
    · by_cases hw0 : wrongI L l = 0
      · have hg : gathE A l = 0 := by rw [← wrong_gath hrow]; exact hw0
        have hv := gath_form hg
        have hf := (wrong_zero hw0).2
        have hok : ∀ x ∈ L, okV x.2.1 = true ∧ okV x.2.2 = true := fun x hx => by
          obtain ⟨i, hi', rfl⟩ := List.mem_iff_getElem.1 hx
          have hap := hrow.apart hi'
          have h9 : A L[i].1.data.toList = some L[i].2 := by
            rw [hrow.2.2]
            rcases look_find L L[i].1 with ⟨-, h2⟩ | ⟨k, hk, h1, h2, h3⟩
            · exact absurd (List.mem_map.2 ⟨L[i], hx, rfl⟩) ((look_none L L[i].1).1 h2)
            · have : k = i := nodup_at hrow.2.1 hk hi' h2
              subst this
              exact h3
          exact hi _ _ h9
        have hall : l.all (chkI L l) = l.all (fun e => takeFits A (sumsOf l) (nm e)) := by
          rw [Bool.eq_iff_iff, List.all_eq_true, List.all_eq_true]
          exact ⟨fun h e he => by rw [← chk_fits hrow hi hv (hf e he)]; exact h e he, fun h e he => by rw [chk_fits hrow hi hv (hf e he)]; exact h e he⟩
        have hpos : 0 < L.length := by
          obtain ⟨e, he⟩ := List.exists_mem_of_ne_nil l h0
          obtain ⟨j, hj, -⟩ := findI_hit L e.1 (hf e he)
          omega
        obtain ⟨g, rcap, rfl, -⟩ := hRL.row hpos
        have hpn : n = L.length := hrow.1
        by_cases hq : l.all (chkI L l) = true
        · have hE0 : takeE A l = 0 := by unfold takeE; rw [if_pos hg, ← hall, if_pos hq]
          rw [hE0]
          refine (rtake_fits B R g rcap L.length len L b off cap l w hB hRL rfl hLn hb hE hlen hm hok hw0 hq (hpo b off rfl)).mono fun e w' ⟨q1, q2⟩ => ⟨q1, ?_⟩
          have hr2 := Row.take l hrow hf
          rw [← Taken.takeR (taken_of hi hE0)] at hr2
          exact q2.to hr2
        · have hq : l.all (chkI L l) = false := by simpa using hq
          have hE0 : takeE A l = 9 := by unfold takeE; rw [if_pos hg, ← hall, hq]; rfl
          have hR0 : takeR A l = A := by unfold takeR; rw [hE0]; rfl
          rw [hE0, hR0]
          exact (rtake_quota B R g rcap L.length len L b off cap l w hB hRL rfl hLn hb hE hlen hm hok hw0 hq).mono fun e w' ⟨q1, q2⟩ => ⟨q1, q2.to hrow⟩
      · have hg : gathE A l ≠ 0 := by rw [← wrong_gath hrow]; exact hw0
        have hE0 : takeE A l = wrongI L l := by unfold takeE; rw [if_neg hg, wrong_gath hrow]
        have hR0 : takeR A l = A := by unfold takeR; rw [if_neg (by rw [hE0]; exact hw0)]
        rw [hE0, hR0]
        exact (rtake_wrong B R v L b off cap len l w hRL hLn hb hE hlen hm hw0).mono fun e w' ⟨q1, q2⟩ => ⟨q1, ⟨v, L, hRL.below q2, hrow⟩, q2.mono hB, keptT_below q2⟩
set_option maxRecDepth 20000 in
set_option maxHeartbeats 4000000 in
theorem rgive_empty (R : Nat) (S : Option Addr) (cap : Nat) (w : World) :
    Calls Try.prog 37 #[.pointer (some ⟨R, 0, none⟩), .slice S 0 cap] w fun e w' => e = .returned (.int .i64 0) ∧ Below w.heap.size w w' := by
  go_enter Try.func37, Try.ntmps37
  go_wp2_with fail
  refine (rwrong_empty R S cap w).mono ?_
  rintro e w1 ⟨rfl, hb1⟩
  go_wp2
  refine wp_loop_rounds 1 ?_
  rw [rounds_succ]
  go_wp2
  refine wp_loop_rounds 1 ?_
  rw [rounds_succ]
  go_wp2
  go_ret
  exact ⟨rfl, hb1⟩
set_option maxRecDepth 20000 in
set_option maxHeartbeats 4000000 in
theorem rgive_wrong (B R : Nat) (v : Value) (L : List RA) (p off cap n : Nat) (l : List Ent) (w : World) (hR : RefL B w R v L) (hL : L.length ≤ 100000) (hp : p < w.heap.size) (hl : HoldsE w p off l) (hn : n = l.length) (hm : l.length ≤ 100000) (hw0 : wrongI L l ≠ 0) :
    Calls Try.prog 37 #[.pointer (some ⟨R, 0, none⟩), .slice (some ⟨p, off, none⟩) n cap] w fun e w' => e = .returned (.int .i64 (wrongI L l)) ∧ Below w.heap.size w w' := by
  have hw := rwrong_any B R v L p off cap l w hR hL hp hl hm
  rw [← hn] at hw
  obtain ⟨r, hr⟩ : ∃ r, r = wrongI L l := ⟨_, rfl⟩
  rw [← hr] at hw hw0 ⊢
  have hne : (r != 0) = true := by rw [bne_iff_ne]; exact hw0
  clear hr hR hl hn
  go_enter Try.func37, Try.ntmps37
  go_wp2_with fail
  refine hw.mono ?_
  rintro e w1 ⟨rfl, hb1⟩
  go_wp2
  go_ret
  exact ⟨rfl, hb1⟩
theorem rgives_b (B R n : Nat) (A : Acc) (S : Option Addr) (len cap : Nat) (l : List Ent) (w : World) (hB : B ≤ w.heap.size) (hR : RefB B w R n A) (hn : n ≤ 64) (hi : Inv A) (hl : SlE w S len l) (hm : l.length ≤ 100000) (hpo : ∀ b off, S = some ⟨b, off, none⟩ → ∃ o, w.heap[b]? = some o ∧ notRef o) :
    Calls Try.prog 37 #[.pointer (some ⟨R, 0, none⟩), .slice S len cap] w fun e w' => e = .returned (.int .i64 (giveE A l)) ∧ RefB B w' R n (giveR A l) ∧ Below B w w' ∧ KeptT w w' := by
  obtain ⟨v, L, hRL, hrow⟩ := hR
  have hLn : L.length ≤ 100000 := by have := hrow.1; omega
  obtain ⟨hlen, hl0⟩ := hl
  have hnil : l = [] → Calls Try.prog 37 #[.pointer (some ⟨R, 0, none⟩), .slice S len cap] w fun e w' => e = .returned (.int .i64 (giveE A l)) ∧ RefB B w' R n (giveR A l) ∧ Below B w w' ∧ KeptT w w' := fun h0 => by
    subst h0
    have hz : len = 0 := hlen
    subst hz
    have e1 : giveE A [] = 0 := rfl
    have e2 : giveR A [] = A := rfl
    rw [e1, e2]
    exact (rgive_empty R S cap w).mono fun e w' ⟨q1, q2⟩ => ⟨q1, ⟨v, L, hRL.below q2, hrow⟩, q2.mono hB, keptT_below q2⟩
  rcases hl0 with h0 | ⟨b, off, rfl, hb, hE⟩
  · exact hnil h0
  · by_cases h0 : l = []
    · exact hnil h0
    · by_cases hw0 : wrongI L l = 0
      · have hg : gathE A l = 0 := by rw [← wrong_gath hrow]; exact hw0
        have hv := gath_form hg
        have hf := (wrong_zero hw0).2
        have hok : ∀ x ∈ L, okV x.2.1 = true ∧ okV x.2.2 = true := fun x hx => by
          obtain ⟨i, hi', rfl⟩ := List.mem_iff_getElem.1 hx
          have hap := hrow.apart hi'
          have h9 : A L[i].1.data.toList = some L[i].2 := by
            rw [hrow.2.2]
            rcases look_find L L[i].1 with ⟨-, h2⟩ | ⟨k, hk, h1, h2, h3⟩
            · exact absurd (List.mem_map.2 ⟨L[i], hx, rfl⟩) ((look_none L L[i].1).1 h2)
            · have : k = i := nodup_at hrow.2.1 hk hi' h2
              subst this
              exact h3
          exact hi _ _ h9
        have hall : l.all (chkJ L l) = l.all (fun e => giveFits A (sumsOf l) (nm e)) := by
          rw [Bool.eq_iff_iff, List.all_eq_true, List.all_eq_true]
          exact ⟨fun h e he => by rw [← chk_gives hrow hi hv (hf e he)]; exact h e he, fun h e he => by rw [chk_gives hrow hi hv (hf e he)]; exact h e he⟩
        have hpos : 0 < L.length := by
          obtain ⟨e, he⟩ := List.exists_mem_of_ne_nil l h0
          obtain ⟨j, hj, -⟩ := findI_hit L e.1 (hf e he)
          omega
        obtain ⟨g, rcap, rfl, -⟩ := hRL.row hpos
        have hpn : n = L.length := hrow.1
        by_cases hq : l.all (chkJ L l) = true
        · have hE0 : giveE A l = 0 := by unfold giveE; rw [if_pos hg, ← hall, if_pos hq]
          rw [hE0]
          refine (rgive_fits B R g rcap L.length len L b off cap l w hB hRL rfl hLn hb hE hlen hm hok hw0 hq (hpo b off rfl)).mono fun e w' ⟨q1, q2⟩ => ⟨q1, ?_⟩
          have hr2 := Row.give l hrow hf
          rw [← giveR_step hi hE0] at hr2
          exact q2.to hr2
        · have hq : l.all (chkJ L l) = false := by simpa using hq
          have hE0 : giveE A l = 2 := by unfold giveE; rw [if_pos hg, ← hall, hq]; rfl
          have hR0 : giveR A l = A := by unfold giveR; rw [hE0]; rfl
          rw [hE0, hR0]
          exact (rgive_range B R g rcap L.length len L b off cap l w hB hRL rfl hLn hb hE hlen hm hok hw0 hq).mono fun e w' ⟨q1, q2⟩ => ⟨q1, q2.to hrow⟩
      · have hg : gathE A l ≠ 0 := by rw [← wrong_gath hrow]; exact hw0
        have hE0 : giveE A l = wrongI L l := by unfold giveE; rw [if_neg hg, wrong_gath hrow]
        have hR0 : giveR A l = A := by unfold giveR; rw [if_neg (by rw [hE0]; exact hw0)]
        rw [hE0, hR0]
        exact (rgive_wrong B R v L b off cap len l w hRL hLn hb hE hlen hm hw0).mono fun e w' ⟨q1, q2⟩ => ⟨q1, ⟨v, L, hRL.below q2, hrow⟩, q2.mono hB, keptT_below q2⟩
end Go.Proofs.Ytobgolceggeogaa
