/- The contract of the reference's Sum: of whatever slice of vectors. -/
import Derived.Test.YtcfjhmglifpdlaaVec3
namespace Go.Proofs.Ytcfjhmglifpdlaa
open Go.RowKit
set_option maxHeartbeats 1000000 in
theorem rsum_any (b off cap : Nat) (l : List V) (w : World) (hb : b < w.heap.size) (hm : l.length ≤ 9223372036854775807) (hl : HoldsV w b off l) :
    Calls Try.prog 11 #[.slice (some ⟨b, off, none⟩) l.length cap] w fun e w' => e = .returned (.tuple #[vv (sumR l).1, .int .i64 (sumR l).2]) ∧ Below w.heap.size w w' := by
  go_enter Try.func11, Try.ntmps11
  go_wp2
  go_loopw [4] (fun i wr => ∃ k : Nat, k ≤ l.length ∧ i = .int .i64 k ∧ Hid (l.all okV = (l.drop k).all okV) ∧ Below (w.heap.size + 1) (w.alloc (.cells #[.int .i64 0, .int .i64 0, .int .i64 0, .int .i64 0] 25)) wr) (fun i _ => l.length - (intOf i).toNat)
  case atStart => exact ⟨0, Nat.zero_le _, rfl, rfl, Below.refl _ _⟩
  case round =>
    obtain ⟨k, hk, rfl, hall, hbel⟩ := hrel
    have hsz := hbel.size
    simp only [World.size_alloc] at hsz
    have hle : w.heap.size ≤ wr.heap.size := by omega
    have hblk := below_at hbel (n := w.heap.size) (by omega) (alloc_at _ _)
    have HB := hid hblk
    clear hblk
    by_cases hlt : k < l.length
    · have hv := hl k hlt
      have hd := all_drop hlt
      generalize l[k] = v at hv hd
      obtain ⟨x0, x1, x2, x3⟩ := v
      obtain ⟨v0, v1, v2, v3⟩ := hv
      have c0 : wr.cell? ⟨b, off + k * 4, none⟩ = some (.int .i64 x0) := by rw [hbel.cell (by simp; omega), World.cell?_alloc_lt _ _ _ hb]; exact v0
      have c1 : wr.cell? ⟨b, off + k * 4 + 1, none⟩ = some (.int .i64 x1) := by rw [hbel.cell (by simp; omega), World.cell?_alloc_lt _ _ _ hb]; exact v1
      have c2 : wr.cell? ⟨b, off + k * 4 + 2, none⟩ = some (.int .i64 x2) := by rw [hbel.cell (by simp; omega), World.cell?_alloc_lt _ _ _ hb]; exact v2
      have c3 : wr.cell? ⟨b, off + k * 4 + 3, none⟩ = some (.int .i64 x3) := by rw [hbel.cell (by simp; omega), World.cell?_alloc_lt _ _ _ hb]; exact v3
      have HD := hid hd
      clear hd v0 v1 v2 v3
      by_cases hf : formedB x0 x1 x2 x3 = true
      · go_wp2_with (go_at_call 18; refine (rformed_any _ _ _ _ _).mono ?_; rintro e w2 ⟨rfl, hb2⟩; obtain ⟨hc2, hf2⟩ := bcell hb2)
        go_roundw
        case rel => exact ⟨k + 1, by omega, by go_num, by unfold Hid; rw [hall.out, HD.out]; simp [okV, hf], hbel.trans (hb2.mono (by omega))⟩
        case measure => simp [intOf]; omega
      · have hf' : formedB x0 x1 x2 x3 = false := by simpa using hf
        clear hf
        go_wp2_with (go_at_call 18; refine (rformed_any _ _ _ _ _).mono ?_; rintro e w2 ⟨rfl, hb2⟩; obtain ⟨z0, z1, z2, z3, zf⟩ := four (below_at hb2 (by omega) HB.out))
        refine ret_row2 rfl w.heap.size #[.int .i64 0, .int .i64 0, .int .i64 0, .int .i64 0] 25 _ rfl Try.underlying25 rfl infoV rfl ⟨_, set4 (below_at hb2 (by omega) HB.out) _ _ _ _, rfl⟩ ⟨?_, ?_⟩
        · rw [sumR_form (by rw [hall.out, HD.out]; simp [okV, hf'])]; rfl
        · have hb3 : Below w.heap.size w w2 := ((Below.refl _ _).alloc (Nat.le_refl _) _).trans ((hbel.mono (by omega)).trans (hb2.mono (by omega)))
          exact (by repeat (first | with_reducible assumption | with_reducible exact Below.refl _ _ | with_reducible refine Below.drew ?_ | with_reducible refine below_drewN ?_ _ | with_reducible refine below_alloc ?_ _ | with_reducible refine Below.alloc ?_ (by first | omega | (simp; done) | (simp; omega)) _ | with_reducible refine Below.setCell ?_ (by first | omega | (simp; done) | (simp; omega)) _))
    · obtain rfl : k = l.length := by omega
      have hall2 : Hid (l.all okV = true) := by unfold Hid; rw [hall.out]; simp
      clear hall
      go_wp2
      obtain ⟨wo, rfl⟩ : ∃ wo : World, wo = wr := ⟨_, rfl⟩
      have hbw : Below w.heap.size w wo := ((Below.refl _ _).alloc (Nat.le_refl _) _).trans (hbel.mono (by omega))
      clear hbel
      go_loopw [6] (fun i wr => ∃ (k : Nat) (s0 s1 s2 s3 : Int), k ≤ l.length ∧ i = .int .i64 k ∧ Hid (sumGo zeroV l = sumGo (s0, s1, s2, s3) (l.drop k)) ∧ okV (s0, s1, s2, s3) = true ∧
        Below w.heap.size w wr ∧ wr.heap[w.heap.size]? = some (.cells #[.int .i64 0, .int .i64 0, .int .i64 0, .int .i64 0] 25 (0, 0)) ∧
        wr.heap[wo.heap.size]? = some (.cells #[.int .i64 s0, .int .i64 s1, .int .i64 s2, .int .i64 s3] 25 (0, 0)) ∧ wo.heap.size < wr.heap.size) (fun i _ => l.length - (intOf i).toNat)
      case atStart => exact ⟨0, 0, 0, 0, 0, Nat.zero_le _, rfl, rfl, by decide, hbw.alloc (by omega) _, alloc_at_lt HB.out _, alloc_at _ _, by simp⟩
      case round =>
        obtain ⟨k, s0, s1, s2, s3, hk, rfl, hgo, hs, hbel, hbz, hbs, hsz2⟩ := hrel
        obtain ⟨⟨l0, r0⟩, ⟨l1, r1⟩, ⟨l2, r2⟩, ⟨l3, r3⟩⟩ := (okV_iff _).1 hs
        simp only at l0 r0 l1 r1 l2 r2 l3 r3
        replace hs := hid hs
        have HZ := hid hbz
        have HS := hid hbs
        clear hbz hbs
        by_cases hlt : k < l.length
        · have hv := hl k hlt
          have hd := sumGo_drop (s := (s0, s1, s2, s3)) hlt
          have hok : okV l[k] = true := List.all_eq_true.1 hall2.out _ (List.getElem_mem hlt)
          generalize l[k] = v at hv hd hok
          obtain ⟨x0, x1, x2, x3⟩ := v
          obtain ⟨v0, v1, v2, v3⟩ := hv
          obtain ⟨⟨m0, n0⟩, ⟨m1, n1⟩, ⟨m2, n2⟩, ⟨m3, n3⟩⟩ := (okV_iff _).1 hok
          simp only at m0 n0 m1 n1 m2 n2 m3 n3
          have c0 : wr.cell? ⟨b, off + k * 4, none⟩ = some (.int .i64 x0) := by rw [hbel.cell hb]; exact v0
          have c1 : wr.cell? ⟨b, off + k * 4 + 1, none⟩ = some (.int .i64 x1) := by rw [hbel.cell hb]; exact v1
          have c2 : wr.cell? ⟨b, off + k * 4 + 2, none⟩ = some (.int .i64 x2) := by rw [hbel.cell hb]; exact v2
          have c3 : wr.cell? ⟨b, off + k * 4 + 3, none⟩ = some (.int .i64 x3) := by rw [hbel.cell hb]; exact v3
          obtain ⟨z0, z1, z2, z3, zf⟩ := four HZ.out
          obtain ⟨t0, t1, t2, t3, tf⟩ := four HS.out
          have HD := hid hd
          replace hok := hid hok
          clear hd v0 v1 v2 v3
          have hwo : w.heap.size < wo.heap.size := by omega
          have hne1 : w.heap.size ≠ wo.heap.size := by omega
          have hne2 : wo.heap.size ≠ w.heap.size := by omega
          have hwr : w.heap.size < wr.heap.size := by omega
          have hbr : b < wr.heap.size := by omega
          have e0 : ∀ x : Lat wr.heap.size wr, x.w.cell? ⟨b, off + k * 4, none⟩ = some (.int .i64 x0) := fun x => by rw [x.cell _ _ hbr]; exact c0
          have e1 : ∀ x : Lat wr.heap.size wr, x.w.cell? ⟨b, off + k * 4 + 1, none⟩ = some (.int .i64 x1) := fun x => by rw [x.cell _ _ hbr]; exact c1
          have e2 : ∀ x : Lat wr.heap.size wr, x.w.cell? ⟨b, off + k * 4 + 2, none⟩ = some (.int .i64 x2) := fun x => by rw [x.cell _ _ hbr]; exact c2
          have e3 : ∀ x : Lat wr.heap.size wr, x.w.cell? ⟨b, off + k * 4 + 3, none⟩ = some (.int .i64 x3) := fun x => by rw [x.cell _ _ hbr]; exact c3
          have d0 : ∀ x : Lat wr.heap.size wr, x.w.cell? ⟨wo.heap.size, 0, none⟩ = some (.int .i64 s0) := fun x => by rw [x.cell _ _ hsz2]; exact t0
          have d1 : ∀ x : Lat wr.heap.size wr, x.w.cell? ⟨wo.heap.size, 1, none⟩ = some (.int .i64 s1) := fun x => by rw [x.cell _ _ hsz2]; exact t1
          have d2 : ∀ x : Lat wr.heap.size wr, x.w.cell? ⟨wo.heap.size, 2, none⟩ = some (.int .i64 s2) := fun x => by rw [x.cell _ _ hsz2]; exact t2
          have d3 : ∀ x : Lat wr.heap.size wr, x.w.cell? ⟨wo.heap.size, 3, none⟩ = some (.int .i64 s3) := fun x => by rw [x.cell _ _ hsz2]; exact t3
          by_cases hok2 : okV (addV (s0, s1, s2, s3) (x0, x1, x2, x3)) = true
          · have ho := (okV_iff _).1 hok2
            simp only [addV] at ho
            have hcall : ∀ W, Calls Try.prog 13 #[.agg #[.int .i64 s0, .int .i64 s1, .int .i64 s2, .int .i64 s3], .agg #[.int .i64 x0, .int .i64 x1, .int .i64 x2, .int .i64 x3]] W fun e w' => e = .returned (.tuple #[.agg #[.int .i64 (s0 + x0), .int .i64 (s1 + x1), .int .i64 (s2 + x2), .int .i64 (s3 + x3)], .int .i64 0]) ∧ Below W.heap.size W w' := fun W => by
              have h := radd_any s0 s1 s2 s3 x0 x1 x2 x3 W
              rw [addR_ok (x := (s0, s1, s2, s3)) (y := (x0, x1, x2, x3)) hs.out hok.out hok2] at h
              exact h
            have HC := hid hcall
            clear hcall
            go_wp2
            go_region_held3 (fun w' => Below wr.heap.size wr w' ∧ (∀ b o, b < wr.heap.size → w'.cell? ⟨b, o, none⟩ = wr.cell? ⟨b, o, none⟩) ∧ ∀ b o, b < wr.heap.size → w'.frozen? ⟨b, o, none⟩ = wr.frozen? ⟨b, o, none⟩) (first | ((try go_split_ands); (try dsimp only); refine same_of ?_; (repeat (first | with_reducible assumption | with_reducible exact Below.refl _ _ | with_reducible refine Below.drew ?_ | with_reducible refine below_drewN ?_ _ | with_reducible refine below_alloc ?_ _ | with_reducible refine Below.alloc ?_ (by first | omega | (simp; done) | (simp; omega)) _ | with_reducible refine Below.setCell ?_ (by first | omega | (simp; done) | (simp; omega)) _)); done) | ((try go_split_ands); (try dsimp only); refine same_of ?_; (repeat (first | with_reducible refine below_call ?_ hb4 | with_reducible assumption | with_reducible exact Below.refl _ _ | with_reducible refine Below.drew ?_ | with_reducible refine below_alloc ?_ _)); done)) ((go_at_call 13; refine (HC.out _).mono ?_; rintro e w4 ⟨rfl, hb4⟩; obtain ⟨hc4, hf4⟩ := bcell hb4))
            all_goals go_wp2
            all_goals
              obtain ⟨hb5, -, -⟩ : Below wr.heap.size wr _ ∧ _ ∧ _ := by assumption
              have hz := below_at hb5 (n := w.heap.size) (by omega) HZ.out
              have hs5 := below_at hb5 (n := wo.heap.size) (by omega) HS.out
              have hB5 := Below.trans hbel (hb5.mono (by omega))
              have hsz5 := hb5.size
              clear hc4 hf4 hb4 hb5
              go_roundw
              case rel =>
                refine ⟨k + 1, s0 + x0, s1 + x1, s2 + x2, s3 + x3, by omega, by go_num, ?_, ?_, (by repeat (first | with_reducible assumption | with_reducible exact Below.refl _ _ | with_reducible refine Below.drew ?_ | with_reducible refine below_drewN ?_ _ | with_reducible refine below_alloc ?_ _ | with_reducible refine Below.alloc ?_ (by first | omega | (simp; done) | (simp; omega)) _ | with_reducible refine Below.setCell ?_ (by first | omega | (simp; done) | (simp; omega)) _)), (by (repeat (first | (with_reducible assumption) | (with_reducible exact alloc_at _ _) | ((with_reducible apply alloc_at'); (simp; done)) | (with_reducible apply alloc_at_lt) | (with_reducible apply heap_drew_at) | (with_reducible apply heap_drewN_at) | (with_reducible apply heap_setCell_same) | ((with_reducible apply heap_set_ne); (first | omega | (simp; done) | (simp; omega)))))), ?_, ?_⟩
                · unfold Hid; rw [hgo.out, HD.out, if_pos hok2]; rfl
                · exact hok2
                · exact set4 hs5 (.int .i64 (s0 + x0)) (.int .i64 (s1 + x1)) (.int .i64 (s2 + x2)) (.int .i64 (s3 + x3))
                · simp at hsz5 ⊢; omega
              case measure => simp [intOf]; omega
          · have hok3 : okV (addV (s0, s1, s2, s3) (x0, x1, x2, x3)) = false := by simpa using hok2
            have hng : Hid (sumGo zeroV l = none) := by unfold Hid; rw [hgo.out, HD.out, if_neg hok2]
            clear hok2
            have hcall : ∀ W, Calls Try.prog 13 #[.agg #[.int .i64 s0, .int .i64 s1, .int .i64 s2, .int .i64 s3], .agg #[.int .i64 x0, .int .i64 x1, .int .i64 x2, .int .i64 x3]] W fun e w' => e = .returned (.tuple #[.agg #[.int .i64 0, .int .i64 0, .int .i64 0, .int .i64 0], .int .i64 7]) ∧ Below W.heap.size W w' := fun W => by
              have h := radd_any s0 s1 s2 s3 x0 x1 x2 x3 W
              rw [addR_over (x := (s0, s1, s2, s3)) (y := (x0, x1, x2, x3)) hs.out hok.out hok3] at h
              exact h
            have HC := hid hcall
            clear hcall
            go_wp2
            go_region_held3 (fun w' => Below wr.heap.size wr w' ∧ (∀ b o, b < wr.heap.size → w'.cell? ⟨b, o, none⟩ = wr.cell? ⟨b, o, none⟩) ∧ ∀ b o, b < wr.heap.size → w'.frozen? ⟨b, o, none⟩ = wr.frozen? ⟨b, o, none⟩) (first | ((try go_split_ands); (try dsimp only); refine same_of ?_; (repeat (first | with_reducible assumption | with_reducible exact Below.refl _ _ | with_reducible refine Below.drew ?_ | with_reducible refine below_drewN ?_ _ | with_reducible refine below_alloc ?_ _ | with_reducible refine Below.alloc ?_ (by first | omega | (simp; done) | (simp; omega)) _ | with_reducible refine Below.setCell ?_ (by first | omega | (simp; done) | (simp; omega)) _)); done) | ((try go_split_ands); (try dsimp only); refine same_of ?_; (repeat (first | with_reducible refine below_call ?_ hb4 | with_reducible assumption | with_reducible exact Below.refl _ _ | with_reducible refine Below.drew ?_ | with_reducible refine below_alloc ?_ _)); done)) ((go_at_call 13; refine (HC.out _).mono ?_; rintro e w4 ⟨rfl, hb4⟩; obtain ⟨hc4, hf4⟩ := bcell hb4))
            all_goals go_wp2
            all_goals
              obtain ⟨hb5, -, -⟩ : Below wr.heap.size wr _ ∧ _ ∧ _ := by assumption
              have hz := below_at hb5 (n := w.heap.size) (by omega) HZ.out
              have hs5 := below_at hb5 (n := wo.heap.size) (by omega) HS.out
              have hB5 := Below.trans hbel (hb5.mono (by omega))
              have hsz5 := hb5.size
              clear hc4 hf4 hb4 hb5
              refine ret_row2 rfl w.heap.size #[.int .i64 0, .int .i64 0, .int .i64 0, .int .i64 0] 25 _ rfl Try.underlying25 rfl infoV rfl (by apply Exists.intro; refine ⟨?_, ?_⟩; (focus ((repeat (first | (with_reducible assumption) | (with_reducible exact alloc_at _ _) | ((with_reducible apply alloc_at'); (simp; done)) | (with_reducible apply alloc_at_lt) | (with_reducible apply heap_drew_at) | (with_reducible apply heap_drewN_at) | (with_reducible apply heap_setCell_same) | ((with_reducible apply heap_set_ne); (first | omega | (simp; done) | (simp; omega))))))); simp) ⟨?_, (by repeat (first | with_reducible assumption | with_reducible exact Below.refl _ _ | with_reducible refine Below.drew ?_ | with_reducible refine below_drewN ?_ _ | with_reducible refine below_alloc ?_ _ | with_reducible refine Below.alloc ?_ (by first | omega | (simp; done) | (simp; omega)) _ | with_reducible refine Below.setCell ?_ (by first | omega | (simp; done) | (simp; omega)) _))⟩
              rw [sumR_over hall2.out hng.out]; rfl
        · obtain rfl : k = l.length := by omega
          have hgo2 : Hid (sumGo zeroV l = some (s0, s1, s2, s3)) := by unfold Hid; rw [hgo.out]; simp [sumGo]
          clear hgo
          obtain ⟨z0, z1, z2, z3, zf⟩ := four HZ.out
          obtain ⟨t0, t1, t2, t3, tf⟩ := four HS.out
          have hwo : w.heap.size < wo.heap.size := by omega
          have hne1 : w.heap.size ≠ wo.heap.size := by omega
          have hne2 : wo.heap.size ≠ w.heap.size := by omega
          have hwr : w.heap.size < wr.heap.size := by omega
          go_wp2
          have hz := HZ.out
          refine ret_row2 rfl w.heap.size #[.int .i64 s0, .int .i64 s1, .int .i64 s2, .int .i64 s3] 25 _ rfl Try.underlying25 rfl infoV rfl (by apply Exists.intro; refine ⟨?_, ?_⟩; (focus ((repeat (first | (with_reducible assumption) | (with_reducible exact alloc_at _ _) | ((with_reducible apply alloc_at'); (simp; done)) | (with_reducible apply alloc_at_lt) | (with_reducible apply heap_drew_at) | (with_reducible apply heap_drewN_at) | (with_reducible apply heap_setCell_same) | ((with_reducible apply heap_set_ne); (first | omega | (simp; done) | (simp; omega))))))); simp) ⟨?_, (by repeat (first | with_reducible assumption | with_reducible exact Below.refl _ _ | with_reducible refine Below.drew ?_ | with_reducible refine below_drewN ?_ _ | with_reducible refine below_alloc ?_ _ | with_reducible refine Below.alloc ?_ (by first | omega | (simp; done) | (simp; omega)) _ | with_reducible refine Below.setCell ?_ (by first | omega | (simp; done) | (simp; omega)) _))⟩
          rw [sumR_ok hall2.out hgo2.out]; rfl
end Go.Proofs.Ytcfjhmglifpdlaa
