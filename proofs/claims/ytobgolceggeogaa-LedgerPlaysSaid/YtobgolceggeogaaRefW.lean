/- Chapter 13's reference: Take at lists of entries. -/
import Derived.Test.YtobgolceggeogaaRefV
import Derived.Test.YtobgolceggeogaaRefS
namespace Go.Proofs.Ytobgolceggeogaa
open Go.RowKit
theorem findI_hit : ∀ (L : List RA) (s : ByteArray), 0 ≤ findI L s → ∃ j, ∃ h : j < L.length, findI L s = j ∧ L[j].1 = s
  | [], s, h => by simp [findI] at h
  | x :: L, s, h => by
    unfold findI at h ⊢
    by_cases e : x.1 = s
    · rw [if_pos e]; exact ⟨0, by simp, rfl, e⟩
    · rw [if_neg e] at h ⊢
      by_cases h0 : findI L s < 0
      · rw [if_pos h0] at h; omega
      · rw [if_neg h0] at h ⊢
        obtain ⟨j, hj, e1, e2⟩ := findI_hit L s (by omega)
        exact ⟨j + 1, by simpa using hj, by rw [e1]; rfl, by simpa using e2⟩
/-- The account of a name. -/
def accI (L : List RA) (s : ByteArray) : RA := L.getD (findI L s).toNat (s, zeroV, zeroV)
theorem accI_at {L : List RA} {s : ByteArray} {j : Nat} (h : j < L.length) (e : findI L s = j) : accI L s = L[j] := by
  unfold accI
  rw [e, Int.toNat_natCast, List.getD, List.getElem?_eq_getElem h]
  rfl
def chkQ (L : List RA) (l : List Ent) (e : Ent) (q : Nat) : Bool := decide (cmpV (accI L e.1).2.2 q + sumI l e.1 q ≤ cmpV (accI L e.1).2.1 q)
def chkI (L : List RA) (l : List Ent) (e : Ent) : Bool := chkQ L l e 0 && chkQ L l e 1 && chkQ L l e 2 && chkQ L l e 3
theorem chkQ_name {L : List RA} {l : List Ent} {e e' : Ent} {q : Nat} (h : e.1 = e'.1) : chkQ L l e q = chkQ L l e' q := by
  unfold chkQ
  rw [h]
theorem chkI_all {L : List RA} {l : List Ent} {e : Ent} (h : ∀ r, r < 4 → chkQ L l e r = true) : chkI L l e = true := by
  unfold chkI
  rw [h 0 (by omega), h 1 (by omega), h 2 (by omega), h 3 (by omega)]
  rfl
theorem chkI_not {L : List RA} {l : List Ent} {e : Ent} {q : Nat} (hq : q < 4) (h : chkQ L l e q = false) : chkI L l e = false := by
  unfold chkI
  match q, hq with
  | 0, _ => simp [h]
  | 1, _ => simp [h]
  | 2, _ => simp [h]
  | 3, _ => simp [h]
theorem wrong_zero {L : List RA} {l : List Ent} (h : wrongI L l = 0) : (∀ e ∈ l, okV e.2 = true) ∧ ∀ e ∈ l, 0 ≤ findI L e.1 := by
  unfold wrongI at h
  split at h
  · rename_i h1
    split at h
    · rename_i h2
      exact ⟨fun e he => by have := List.all_eq_true.1 h1 e he; exact this, fun e he => by have := List.all_eq_true.1 h2 e he; simpa using this⟩
    · omega
  · omega
theorem sumI_ok {l : List Ent} {s : ByteArray} {i : Nat} (hv : ∀ e ∈ l, okV e.2 = true) : 0 ≤ sumI l s i ∧ sumI l s i ≤ 3298534883328 := by
  have key : ∀ (r : List Ent) (n : Int), (∀ e ∈ r, okV e.2 = true) → 0 ≤ n ∧ n ≤ 3298534883328 → 0 ≤ r.foldl (sumF s i) n ∧ r.foldl (sumF s i) n ≤ 3298534883328 := by
    intro r
    induction r with
    | nil => intro n _ h; exact h
    | cons e r ih =>
      intro n hr hn
      refine ih _ (fun x hx => hr x (by simp [hx])) ?_
      have := cmpV_ok (hr e (by simp)) i
      unfold sumF
      split <;> omega
  exact key l 0 hv (by omega)
theorem acct_used {W : World} {xY : Nat} {y0 : ByteArray} {y1 y2 y3 y4 y5 y6 y7 y8 : Int} (h : W.heap[xY]? = some (.cells #[.string y0, .int .i64 y1, .int .i64 y2, .int .i64 y3, .int .i64 y4, .int .i64 y5, .int .i64 y6, .int .i64 y7, .int .i64 y8] 73 (0, 0))) {q : Nat} (hq : q < 4) : W.cell? ⟨xY, 5 + q, none⟩ = some (.int .i64 (cmpV (y5, y6, y7, y8) q)) := by
  match q, hq with
  | 0, _ => exact (blk_cell h 5).trans rfl
  | 1, _ => exact (blk_cell h 6).trans rfl
  | 2, _ => exact (blk_cell h 7).trans rfl
  | 3, _ => exact (blk_cell h 8).trans rfl
theorem acct_lim {W : World} {xY : Nat} {y0 : ByteArray} {y1 y2 y3 y4 y5 y6 y7 y8 : Int} (h : W.heap[xY]? = some (.cells #[.string y0, .int .i64 y1, .int .i64 y2, .int .i64 y3, .int .i64 y4, .int .i64 y5, .int .i64 y6, .int .i64 y7, .int .i64 y8] 73 (0, 0))) {q : Nat} (hq : q < 4) : W.cell? ⟨xY, 1 + q, none⟩ = some (.int .i64 (cmpV (y1, y2, y3, y4) q)) := by
  match q, hq with
  | 0, _ => exact (blk_cell h 1).trans rfl
  | 1, _ => exact (blk_cell h 2).trans rfl
  | 2, _ => exact (blk_cell h 3).trans rfl
  | 3, _ => exact (blk_cell h 4).trans rfl
set_option maxRecDepth 20000 in
set_option maxHeartbeats 4000000 in
theorem rtake_quota (B R g rcap m n : Nat) (L : List RA) (p off cap : Nat) (l : List Ent) (w : World) (hB : B ≤ w.heap.size) (hR : RefL B w R (.slice (some ⟨g, 0, none⟩) m rcap) L) (hmn : m = L.length) (hm : L.length ≤ 100000) (hp : p < w.heap.size) (hl : HoldsE w p off l) (hn : n = l.length) (hlen : l.length ≤ 100000) (hok : ∀ x ∈ L, okV x.2.1 = true ∧ okV x.2.2 = true) (hw0 : wrongI L l = 0) (hq9 : l.all (chkI L l) = false) :
    Calls Try.prog 15 #[.pointer (some ⟨R, 0, none⟩), .slice (some ⟨p, off, none⟩) n cap] w fun e w' => e = .returned (.int .i64 9) ∧ RefPost B w w' R L := by
  have hw := rwrong_any B R _ L p off cap l w hR hm hp hl hlen
  rw [hw0, ← hn] at hw
  have HN := hid hn
  have HE := hid hl
  have HRL := hid hR
  have HML := hid hm
  have HMN := hid hmn
  have HOK := hid hok
  have HW := hid (wrong_zero hw0)
  have HBB := hid hB
  rw [← hn] at hlen
  have HQ9 := hid hq9
  clear hn hl hR hm hmn hok hw0 hq9
  go_enter Try.func15, Try.ntmps15
  go_wp2_with fail
  refine hw.mono ?_
  rintro e w1 ⟨rfl, hb1⟩
  have HB1 := hid hb1
  clear hb1 hw
  go_wp2_with fail
  go_loopw [6] (fun i wr => ∃ k : Nat, k ≤ n ∧ i = .int .i64 k ∧ Hid ((l.take k).all (chkI L l) = true) ∧ Hid (Below w.heap.size w wr)) (fun i _ => n - (intOf i).toNat)
  case atStart => exact ⟨0, Nat.zero_le _, rfl, rfl, HB1⟩
  case round =>
    obtain ⟨k, hkn, rfl, HA, HB⟩ := hrel
    clear HB1
    have hsr := HB.out.size
    by_cases hk : k < n
    · have ki : (k : Int) < (n : Int) := by omega
      have hkl : k < l.length := by have := HN.out; omega
      obtain ⟨j, hj, hfj, hnj⟩ := findI_hit L l[k].1 (HW.out.2 l[k] (List.getElem_mem _))
      obtain ⟨-, b0, -⟩ := HE.out.below hp HB.out k hkl
      obtain ⟨s, hs⟩ : ∃ s, s = l[k].1 := ⟨_, rfl⟩
      rw [← hs] at b0 hfj hnj
      have hacc := accI_at hj hfj
      obtain ⟨y, hy⟩ : ∃ y, y = L[j] := ⟨_, rfl⟩
      obtain ⟨hy1, hy2⟩ := HOK.out L[j] (List.getElem_mem _)
      rw [← hy] at hacc hnj hy1 hy2
      have HS := hid hs
      have HKL := hid hkl
      have HACC := hid hacc
      have RR := HRL.out.below HB.out
      obtain ⟨-, hgl, hgf, hcell⟩ := RR.cells (by omega)
      have hcy : ∀ c, c < 9 → wr.cell? ⟨g, j * 9 + c, none⟩ = (cellsA y)[c]? := fun c hc => by rw [hy]; exact hcell j hj c hc
      have rc : wr.cell? ⟨R, 0, none⟩ = some (.slice (some ⟨g, 0, none⟩) m rcap) := (blk_cell RR.2.1 0).trans rfl
      have hlR := lt_of_at RR.2.1
      have hpr : p < wr.heap.size := Nat.lt_of_lt_of_le hp hsr
      have hfi : ∀ W, Below wr.heap.size wr W → Calls Try.prog 32 #[.pointer (some ⟨R, 0, none⟩), .string s] W fun e w' => e = .returned (.int .i64 j) ∧ Below W.heap.size W w' := fun W h => by have h2 := rfind_any B R _ L s W (RR.below h) HML.out; rw [hfj] at h2; exact h2
      have hjm : (j : Int) < (m : Int) := by have := HMN.out; omega
      have HK1 : Hid (k + 1 ≤ n) := hk
      have HM1 : Hid (n - (k + 1) < n - k) := by unfold Hid; omega
      have HY1 := hid hy1
      have HY2 := hid hy2
      clear hcell hy hs hkn hacc hfj hj hy1 hy2 RR hsr
      obtain ⟨y0, ⟨y1, y2, y3, y4⟩, y5, y6, y7, y8⟩ := y
      simp only at hnj
      subst hnj
      have y_0 : wr.cell? ⟨g, j * 9, none⟩ = some (.string y0) := (hcy 0 (by omega)).trans rfl
      have y_1 : wr.cell? ⟨g, j * 9 + 1, none⟩ = some (.int .i64 y1) := (hcy 1 (by omega)).trans rfl
      have y_2 : wr.cell? ⟨g, j * 9 + 2, none⟩ = some (.int .i64 y2) := (hcy 2 (by omega)).trans rfl
      have y_3 : wr.cell? ⟨g, j * 9 + 3, none⟩ = some (.int .i64 y3) := (hcy 3 (by omega)).trans rfl
      have y_4 : wr.cell? ⟨g, j * 9 + 4, none⟩ = some (.int .i64 y4) := (hcy 4 (by omega)).trans rfl
      have y_5 : wr.cell? ⟨g, j * 9 + 5, none⟩ = some (.int .i64 y5) := (hcy 5 (by omega)).trans rfl
      have y_6 : wr.cell? ⟨g, j * 9 + 6, none⟩ = some (.int .i64 y6) := (hcy 6 (by omega)).trans rfl
      have y_7 : wr.cell? ⟨g, j * 9 + 7, none⟩ = some (.int .i64 y7) := (hcy 7 (by omega)).trans rfl
      have y_8 : wr.cell? ⟨g, j * 9 + 8, none⟩ = some (.int .i64 y8) := (hcy 8 (by omega)).trans rfl
      clear hcy
      go_upto_region 7 with fail
      go_cut [7] (fun s7_ wx => ∃ xY : Nat, s7_ = .pointer (some ⟨xY, 0, none⟩) ∧ Below wr.heap.size wr wx ∧ wx.heap[xY]? = some (.cells #[.string y0, .int .i64 y1, .int .i64 y2, .int .i64 y3, .int .i64 y4, .int .i64 y5, .int .i64 y6, .int .i64 y7, .int .i64 y8] 73 (0, 0)))
      case first =>
        go_region_held3 (fun w' => Below wr.heap.size wr w' ∧ (∀ b o, b < wr.heap.size → w'.cell? ⟨b, o, none⟩ = wr.cell? ⟨b, o, none⟩) ∧ ∀ b o, b < wr.heap.size → w'.frozen? ⟨b, o, none⟩ = wr.frozen? ⟨b, o, none⟩) (first | ((try go_split_ands); (try dsimp only); refine same_of ?_; (repeat (first | with_reducible assumption | with_reducible exact Below.refl _ _ | with_reducible refine Below.drew ?_ | with_reducible refine below_drewN ?_ _ | with_reducible refine below_alloc ?_ _ | with_reducible refine Below.alloc ?_ (by first | omega | (simp; done) | (simp; omega)) _ | with_reducible refine Below.setCell ?_ (by first | omega | (simp; done) | (simp; omega)) _ | with_reducible refine below_setRow ?_ (by first | omega | (simp; done) | (simp; omega)) _)); done) | ((try go_split_ands); (try dsimp only); refine same_of ?_; (repeat (first | with_reducible refine below_call ?_ hb91 | with_reducible assumption | with_reducible exact Below.refl _ _ | with_reducible refine Below.drew ?_ | with_reducible refine below_alloc ?_ _ | with_reducible refine Below.setCell ?_ (by (try have qz_hb91 := hb91.size); (try simp only [World.size_alloc, World.size_setCell, heap_drew] at qz_hb91); (try (obtain ⟨qy_hb91, -, -⟩ : Below _ _ w91 ∧ _ ∧ _ := by assumption; have qx_hb91 := qy_hb91.size)); first | omega | (dsimp only; omega)) _)); done)) (first | (go_at_call_of 32 (Value.pointer (some ⟨R, 0, none⟩)); refine (hfi _ (by repeat (first | with_reducible assumption | with_reducible exact Below.refl _ _ | with_reducible refine Below.drew ?_ | with_reducible refine below_drewN ?_ _ | with_reducible refine below_alloc ?_ _ | with_reducible refine Below.alloc ?_ (by first | omega | (simp; done) | (simp; omega)) _ | with_reducible refine Below.setCell ?_ (by first | omega | (simp; done) | (simp; omega)) _ | with_reducible refine below_setRow ?_ (by first | omega | (simp; done) | (simp; omega)) _))).mono ?_; rintro e w91 ⟨rfl, hb91⟩; obtain ⟨hc91, hf91⟩ := bcell hb91; have hs91 := hb91.size; (try simp only [World.size_alloc, World.size_setCell, heap_drew] at hs91); (try have hl91_w1_0 : wr.heap.size < w91.heap.size := by omega)))
        all_goals
          go_wp2_with fail
          obtain ⟨hb98, -, -⟩ : Below wr.heap.size wr _ ∧ _ ∧ _ := by assumption
          go_meet
          exact ⟨_, rfl, (by repeat (first | with_reducible assumption | with_reducible exact Below.refl _ _ | with_reducible refine Below.drew ?_ | with_reducible refine below_drewN ?_ _ | with_reducible refine below_alloc ?_ _ | with_reducible refine Below.alloc ?_ (by first | omega | (simp; done) | (simp; omega)) _ | with_reducible refine Below.setCell ?_ (by first | omega | (simp; done) | (simp; omega)) _ | with_reducible refine below_setRow ?_ (by first | omega | (simp; done) | (simp; omega)) _)), at_of (by apply Exists.intro; refine ⟨?_, ?_⟩; (focus ((repeat (first | ((with_reducible refine below_at hb91 ?_ ?_); (focus (first | omega | (dsimp only; omega) | (simp; done) | (simp; omega)))) | (with_reducible assumption) | (with_reducible exact alloc_at _ _) | ((with_reducible apply alloc_at'); (simp; done)) | (with_reducible apply alloc_at_lt) | (with_reducible apply heap_drew_at) | (with_reducible apply heap_drewN_at) | (with_reducible apply heap_setCell_same) | ((with_reducible apply heap_set_ne); (first | omega | (dsimp only; omega) | (simp; done) | (simp; omega))) | (with_reducible apply setRow_at) | ((with_reducible apply setRow_ne); (first | omega | (dsimp only; omega) | (simp; done) | (simp; omega))))))); simp)⟩
      case rest =>
        obtain ⟨xY, rfl, hb2, Y_2⟩ := hcut
        obtain ⟨w2, rfl⟩ : ∃ wx_ : World, wx_ = wc := ⟨_, rfl⟩
        have B2 : Hid (Below w.heap.size w w2) := HB.out.trans (hb2.mono HB.out.size)
        have HY := hid Y_2
        clear hb2 Y_2 y_0 y_1 y_2 y_3 y_4 y_5 y_6 y_7 y_8 rc hlR hgl hgf hpr hfi b0
        go_wp2_with fail
        go_loopw [8] (fun i wx => ∃ q : Nat, q ≤ 4 ∧ i = .int .i64 q ∧ Hid (∀ r, r < q → chkQ L l (y0, zeroV) r = true) ∧ Hid (wx.heap[xY]? = some (.cells #[.string y0, .int .i64 y1, .int .i64 y2, .int .i64 y3, .int .i64 y4, .int .i64 y5, .int .i64 y6, .int .i64 y7, .int .i64 y8] 73 (0, 0))) ∧ Hid (Below w.heap.size w wx)) (fun i _ => 4 - (intOf i).toNat)
        case atStart => exact ⟨0, by omega, rfl, fun r h => by omega, HY, B2⟩
        case round =>
          clear HY B2
          obtain ⟨q, hq4, rfl, HQ, HY, HB2⟩ := hrel
          by_cases hq : q < 4
          · have qi : (q : Int) < 4 := by omega
            have hpx : p < wr.heap.size := Nat.lt_of_lt_of_le hp HB2.out.size
            obtain ⟨u, hu⟩ : ∃ u, u = cmpV (y5, y6, y7, y8) q := ⟨_, rfl⟩
            obtain ⟨v, hv⟩ : ∃ v, v = cmpV (y1, y2, y3, y4) q := ⟨_, rfl⟩
            obtain ⟨S, hS⟩ : ∃ S, S = sumI l y0 q := ⟨_, rfl⟩
            have hsum : ∀ lx_ : Lat wr.heap.size wr, Calls Try.prog 34 #[.slice (some ⟨p, off, none⟩) n cap, .string y0, .int .i64 q] lx_.w fun e w' => e = .returned (.int .i64 S) ∧ Below lx_.w.heap.size lx_.w w' := fun lx_ => by
              have hbl : Below w.heap.size w lx_.w := HB2.out.trans (lx_.h.mono HB2.out.size)
              rw [hS, HN.out]
              exact rsum_any p off cap q y0 l lx_.w (Nat.lt_of_lt_of_le hp hbl.size) (HE.out.below hp hbl) hq HW.out.1 (by rw [← HN.out]; exact hlen)
            have hlY := lt_of_at HY.out
            have c5 : wr.cell? ⟨xY, 5 + q, none⟩ = some (.int .i64 u) := by
              rw [hu]; exact acct_used HY.out hq
            have c1 : wr.cell? ⟨xY, 1 + q, none⟩ = some (.int .i64 v) := by
              rw [hv]; exact acct_lim HY.out hq
            obtain ⟨u0, u1⟩ := cmpV_ok HY2.out q
            obtain ⟨s0, s1⟩ := sumI_ok (s := y0) (i := q) HW.out.1
            rw [← hS] at s0 s1
            rw [← hu] at u0 u1
            have iw : IntKind.i64.wrap (u + S) = u + S := IntWalk.i64_in _ (by omega)
            have HCQ : Hid (chkQ L l (y0, zeroV) q = decide (u + S ≤ v)) := by
              unfold Hid chkQ
              rw [HACC.out, hu, hS, hv]
            have HK4 : Hid (q + 1 ≤ 4) := hq
            have HM4 : Hid (4 - (q + 1) < 4 - q) := by unfold Hid; omega
            have HQL := hid hq
            clear hu hv hS hq4
            go_upto_region 11 with fail
            have e0 : ∀ lx_ : Lat wr.heap.size wr, lx_.w.cell? ⟨xY, 0, none⟩ = some (.string y0) := fun lx_ => by rw [lx_.cell _ _ hlY]; exact (blk_cell HY.out 0).trans rfl
            have e5 : ∀ lx_ : Lat wr.heap.size wr, lx_.w.cell? ⟨xY, 5 + q, none⟩ = some (.int .i64 u) := fun lx_ => by rw [lx_.cell _ _ hlY]; exact c5
            have e1 : ∀ lx_ : Lat wr.heap.size wr, lx_.w.cell? ⟨xY, 1 + q, none⟩ = some (.int .i64 v) := fun lx_ => by rw [lx_.cell _ _ hlY]; exact c1
            refine wp_region_lat (by kernel_rfl) (by kernel_rfl) ?_
            repeat (go_big_quiet_step ((go_at_call 34; exact lat_of (Nat.le_refl _) (hsum _))))
            refine wpQuiet_nil ?_
            rintro w3 ⟨x3, hx3⟩
            have hb3 := x3.h
            rw [← hx3] at hb3
            clear hx3 x3 e0 e1 e5 hsum c5 c1 iw
            have HY3 := hid (below_at hb3 hlY HY.out)
            have HB3 : Hid (Below w.heap.size w w3) := HB2.out.trans (hb3.mono HB2.out.size)
            clear hb3 hlY
            by_cases hc : u + S ≤ v
            · have HQ2 : Hid (∀ r, r < q + 1 → chkQ L l (y0, zeroV) r = true) := fun r hr => by
                by_cases e : r = q
                · rw [e, HCQ.out]; simpa using hc
                · exact HQ.out r (by omega)
              clear s0 s1 u0 u1
              go_wp2
              go_roundw
              case rel => exact ⟨q + 1, HK4.out, by go_num, HQ2, HY3, HB3⟩
              case measure => have := HM4.out; simp [intOf]; omega
            · clear s0 s1 u0 u1
              go_wp2
              go_ret
              exact ⟨rfl, RefPost.same HRL.out HBB.out HB3.out⟩
          · obtain rfl : q = 4 := by omega
            have HA2 : Hid ((l.take (k + 1)).all (chkI L l) = true) := all_next HKL.out HA.out (by
              have h9 := chkI_all (L := L) (l := l) (e := (y0, zeroV)) HQ.out
              unfold chkI chkQ at h9 ⊢
              simp only at h9
              rw [← HS.out]; exact h9)
            clear hq hq4
            go_wp2
            go_roundw
            case rel => exact ⟨k + 1, HK1.out, by go_num, HA2, HB2⟩
            case measure => have := HM1.out; simp [intOf]; omega
    · have HAL : Hid (l.all (chkI L l) = true) := by
        have := HA.out
        rwa [List.take_of_length_le (by have := HN.out; omega)] at this
      exact absurd (HAL.out.symm.trans HQ9.out) (by simp)
end Go.Proofs.Ytobgolceggeogaa
