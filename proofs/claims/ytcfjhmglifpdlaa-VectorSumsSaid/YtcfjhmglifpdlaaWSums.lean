/- The walk of VectorSums: every list of vectors has the sum that the reference has. Asked: that the slice takes no more than the form's reach. -/
import Derived.Test.YtcfjhmglifpdlaaVecS
import Derived.OwnWalk
import Derived.Laws.AppendOwnNone
namespace Go.Proofs.Ytcfjhmglifpdlaa
open Go.RowKit
theorem infoVz : (Try.prog.info? 25).map (fun i => (i.zero, i.size, i.bytes)) = some (some (.agg #[.int .i64 0, .int .i64 0, .int .i64 0, .int .i64 0]), 4, 32) := by kernel_rfl
set_option maxHeartbeats 2000000 in
theorem sums_some (b off : Nat) (spot : Option Nat) (cap n : Nat) (l : List V) (w : World) (hn : n = l.length) (hsz : n * 32 ≤ 140737488351232) (hl : HoldsA w (some ⟨b, off, spot⟩) l) (hpos : 0 < n → spot = none) : Calls Try.prog 3 #[.slice (some ⟨b, off, spot⟩) n cap] w fun e w' => e = .returned (.bool true) ∧ Below w.heap.size w w' := by
  obtain ⟨i0, hi, hz0, hz1, hz2⟩ := info_parts infoVz
  obtain ⟨⟨⟨r0, r1, r2, r3⟩, m⟩, hr⟩ : ∃ r, sumR l = r := ⟨_, rfl⟩
  have HR := hid hr
  have HN := hid hn
  clear hr hn
  go_enter Try.func3, Try.ntmps3
  go_wp2_with fail
  refine (awake_any _).mono ?_
  rintro e w1 ⟨rfl, hb1⟩
  have hs1 := hb1.size
  have hnews : ∀ j u, (flatV l)[j]? = some u → w1.cell? ((⟨b, off, spot⟩ : Addr).add j) = some u := by
    rcases hl.below hb1 with rfl | ⟨b', off', e, _, h⟩
    · intro j u hu; simp [flatV] at hu
    · injection e with e; rw [e]; exact h.flat
  have HNW := hid hnews
  clear hnews
  go_wp2_with (at_builtin; go_loud (refine wpList_append_own _ rfl (.tmp 10) (.tmp 11) 22 rfl w.heap.size 25 i0 (.agg #[.int .i64 0, .int .i64 0, .int .i64 0, .int .i64 0]) 4 32 Try.underlying22 hi hz0 hz1 hz2 rfl (by decide) _ 0 [] rfl ⟨rfl, .inl ⟨rfl, rfl⟩⟩ ⟨b, off, spot⟩ n cap (flatV l) rfl (by rw [flatV_length, HN.out]) HNW.out (flatV_one l) (by unfold maxLen; omega) (by omega) hs1 ?_); intro v1 w2 hown hgrow hnil; rw [Nat.zero_add, List.nil_append] at hown; obtain ⟨A1, cap1, rfl, hl1⟩ := holdsA_of_own HN.out hown; have hB2 := hb1.grown hgrow hs1 (fun k h => by cases h); clear hown hgrow hnil HNW hb1)
  refine (sum_all A1 n cap1 l _ HN.out (by have := HN.out; omega) hl1).mono ?_
  rintro e w3 ⟨rfl, hb3⟩
  rw [HR.out]
  have hB3 : Below w.heap.size w w3 := Below.trans hB2 (hb3.mono hB2.size)
  have hs3 := hB3.size
  clear hb3
  unfold vv
  go_wp2_with fail
  refine (rsum_all _ _ _ l _ HN.out (by have := HN.out; omega) (hl.below (by repeat (first | with_reducible assumption | with_reducible exact Below.refl _ _ | with_reducible refine Below.drew ?_ | with_reducible refine below_drewN ?_ _ | with_reducible refine below_alloc ?_ _ | with_reducible refine Below.alloc ?_ (by first | omega | (simp; done) | (simp; omega)) _ | with_reducible refine Below.setCell ?_ (by first | omega | (simp; done) | (simp; omega)) _)))).mono ?_
  rintro e w4 ⟨rfl, hb4⟩
  rw [HR.out]
  unfold vv
  have hs4 := hb4.size
  try simp only [World.size_alloc] at hs4
  have X : w4.heap[w3.heap.size]? = some (.cells #[.int .i64 r0, .int .i64 r1, .int .i64 r2, .int .i64 r3] 25 (0, 0)) := below_at hb4 (by first | omega | (simp; done) | (simp; omega)) (by (repeat (first | (with_reducible assumption) | (with_reducible exact alloc_at _ _) | ((with_reducible apply alloc_at'); (simp; done)) | (with_reducible apply alloc_at_lt) | (with_reducible apply heap_drew_at) | (with_reducible apply heap_drewN_at) | (with_reducible apply heap_setCell_same) | ((with_reducible apply heap_set_ne); (first | omega | (simp; done) | (simp; omega))))))
  have B4 : Below w.heap.size w w4 := Below.trans (by repeat (first | with_reducible assumption | with_reducible exact Below.refl _ _ | with_reducible refine Below.drew ?_ | with_reducible refine below_drewN ?_ _ | with_reducible refine below_alloc ?_ _ | with_reducible refine Below.alloc ?_ (by first | omega | (simp; done) | (simp; omega)) _ | with_reducible refine Below.setCell ?_ (by first | omega | (simp; done) | (simp; omega)) _)) (hb4.mono (by first | omega | (simp; done) | (simp; omega)))
  have hl4 : w3.heap.size < w4.heap.size := by omega
  clear hb4
  obtain ⟨X0, X1, X2, X3, Xf⟩ := four X
  go_wp2
  go_ret
  exact ⟨by first | rfl | simp, (by repeat (first | with_reducible assumption | with_reducible exact Below.refl _ _ | with_reducible refine Below.drew ?_ | with_reducible refine below_drewN ?_ _ | with_reducible refine below_alloc ?_ _ | with_reducible refine Below.alloc ?_ (by first | omega | (simp; done) | (simp; omega)) _ | with_reducible refine Below.setCell ?_ (by first | omega | (simp; done) | (simp; omega)) _))⟩
set_option maxHeartbeats 2000000 in
theorem sums_none (l : List V) (w : World) (hn : (0 : Nat) = l.length) : Calls Try.prog 3 #[.slice none 0 0] w fun e w' => e = .returned (.bool true) ∧ Below w.heap.size w w' := by
  obtain ⟨i0, hi, hz0, hz1, hz2⟩ := info_parts infoVz
  obtain ⟨⟨⟨r0, r1, r2, r3⟩, m⟩, hr⟩ : ∃ r, sumR l = r := ⟨_, rfl⟩
  have HR := hid hr
  have HN := hid hn
  clear hr hn
  go_enter Try.func3, Try.ntmps3
  go_wp2_with fail
  refine (awake_any _).mono ?_
  rintro e w1 ⟨rfl, hb1⟩
  have hs1 := hb1.size
  have hl : HoldsA w none l := .inl (List.length_eq_zero_iff.1 HN.out.symm)
  obtain ⟨A1, n, cap1, hl1, hA1, hn0, hc0⟩ : ∃ (A1 : Option Addr) (n cap1 : Nat), HoldsA w1 A1 l ∧ A1 = none ∧ n = 0 ∧ cap1 = 0 := ⟨none, 0, 0, .inl (List.length_eq_zero_iff.1 HN.out.symm), rfl, rfl, rfl⟩
  subst hA1 hn0 hc0
  go_wp2_with (at_builtin; refine wpList_append_own_none rfl (.tmp 10) (.tmp 11) 22 rfl w.heap.size 25 i0 4 Try.underlying22 hi _ 0 [] rfl ⟨rfl, .inl ⟨rfl, rfl⟩⟩ rfl ?_)
  have hB2 := hb1
  refine (sum_all none 0 0 l _ HN.out (by have := HN.out; omega) hl1).mono ?_
  rintro e w3 ⟨rfl, hb3⟩
  rw [HR.out]
  have hB3 : Below w.heap.size w w3 := Below.trans hB2 (hb3.mono hB2.size)
  have hs3 := hB3.size
  clear hb3
  unfold vv
  go_wp2_with fail
  refine (rsum_all _ _ _ l _ HN.out (by have := HN.out; omega) (hl.below (by repeat (first | with_reducible assumption | with_reducible exact Below.refl _ _ | with_reducible refine Below.drew ?_ | with_reducible refine below_drewN ?_ _ | with_reducible refine below_alloc ?_ _ | with_reducible refine Below.alloc ?_ (by first | omega | (simp; done) | (simp; omega)) _ | with_reducible refine Below.setCell ?_ (by first | omega | (simp; done) | (simp; omega)) _)))).mono ?_
  rintro e w4 ⟨rfl, hb4⟩
  rw [HR.out]
  unfold vv
  have hs4 := hb4.size
  try simp only [World.size_alloc] at hs4
  have X : w4.heap[w3.heap.size]? = some (.cells #[.int .i64 r0, .int .i64 r1, .int .i64 r2, .int .i64 r3] 25 (0, 0)) := below_at hb4 (by first | omega | (simp; done) | (simp; omega)) (by (repeat (first | (with_reducible assumption) | (with_reducible exact alloc_at _ _) | ((with_reducible apply alloc_at'); (simp; done)) | (with_reducible apply alloc_at_lt) | (with_reducible apply heap_drew_at) | (with_reducible apply heap_drewN_at) | (with_reducible apply heap_setCell_same) | ((with_reducible apply heap_set_ne); (first | omega | (simp; done) | (simp; omega))))))
  have B4 : Below w.heap.size w w4 := Below.trans (by repeat (first | with_reducible assumption | with_reducible exact Below.refl _ _ | with_reducible refine Below.drew ?_ | with_reducible refine below_drewN ?_ _ | with_reducible refine below_alloc ?_ _ | with_reducible refine Below.alloc ?_ (by first | omega | (simp; done) | (simp; omega)) _ | with_reducible refine Below.setCell ?_ (by first | omega | (simp; done) | (simp; omega)) _)) (hb4.mono (by first | omega | (simp; done) | (simp; omega)))
  have hl4 : w3.heap.size < w4.heap.size := by omega
  clear hb4
  obtain ⟨X0, X1, X2, X3, Xf⟩ := four X
  go_wp2
  go_ret
  exact ⟨by first | rfl | simp, (by repeat (first | with_reducible assumption | with_reducible exact Below.refl _ _ | with_reducible refine Below.drew ?_ | with_reducible refine below_drewN ?_ _ | with_reducible refine below_alloc ?_ _ | with_reducible refine Below.alloc ?_ (by first | omega | (simp; done) | (simp; omega)) _ | with_reducible refine Below.setCell ?_ (by first | omega | (simp; done) | (simp; omega)) _))⟩
theorem vectorSums_any (A : Option Addr) (cap n : Nat) (l : List V) (w : World) (hn : n = l.length) (hsz : n * 32 ≤ 140737488351232) (hl : HoldsA w A l) (hA : A = none → n = 0 ∧ cap = 0) (hs : ∀ a, A = some a → ∃ b off spot, a = ⟨b, off, spot⟩ ∧ (0 < n → spot = none)) :
    Calls Try.prog 3 #[.slice A n cap] w fun e w' => e = .returned (.bool true) ∧ Below w.heap.size w w' := by
  cases A with
  | none =>
    obtain ⟨rfl, rfl⟩ := hA rfl
    exact sums_none l w hn
  | some a =>
    obtain ⟨b, off, spot, rfl, hp⟩ := hs a rfl
    exact sums_some b off spot cap n l w hn hsz hl hp
end Go.Proofs.Ytcfjhmglifpdlaa
