/- Chapter 13's reference: Give at lists of entries. -/
import Derived.Test.YtobgolceggeogaaRefX
namespace Go.Proofs.Ytobgolceggeogaa
open Go.RowKit
def chkG (L : List RA) (l : List Ent) (e : Ent) (q : Nat) : Bool := decide (sumI l e.1 q ≤ cmpV (accI L e.1).2.2 q)
def chkJ (L : List RA) (l : List Ent) (e : Ent) : Bool := chkG L l e 0 && chkG L l e 1 && chkG L l e 2 && chkG L l e 3
theorem chkG_name {L : List RA} {l : List Ent} {e e' : Ent} {q : Nat} (h : e.1 = e'.1) : chkG L l e q = chkG L l e' q := by
  unfold chkG
  rw [h]
theorem chkJ_all {L : List RA} {l : List Ent} {e : Ent} (h : ∀ r, r < 4 → chkG L l e r = true) : chkJ L l e = true := by
  unfold chkJ
  rw [h 0 (by omega), h 1 (by omega), h 2 (by omega), h 3 (by omega)]
  rfl
theorem chkJ_not {L : List RA} {l : List Ent} {e : Ent} {q : Nat} (hq : q < 4) (h : chkG L l e q = false) : chkJ L l e = false := by
  unfold chkJ
  match q, hq with
  | 0, _ => simp [h]
  | 1, _ => simp [h]
  | 2, _ => simp [h]
  | 3, _ => simp [h]
/-- q resources taken away. -/
def subQ (u v : V) (q : Nat) : V := (if 0 < q then u.1 - v.1 else u.1, if 1 < q then u.2.1 - v.2.1 else u.2.1, if 2 < q then u.2.2.1 - v.2.2.1 else u.2.2.1, if 3 < q then u.2.2.2 - v.2.2.2 else u.2.2.2)
theorem subU_zero (u v : V) : subQ u v 0 = u := rfl
theorem subU_four (u v : V) : subQ u v 4 = subV u v := rfl
theorem subU_at (u v : V) {q : Nat} (hq : q < 4) : cmpV (subQ u v q) q = cmpV u q := by
  match q, hq with
  | 0, _ => rfl
  | 1, _ => rfl
  | 2, _ => rfl
  | 3, _ => rfl
theorem subU_set (s : ByteArray) (lim u v : V) {q : Nat} (hq : q < 4) : cellsA (s, lim, subQ u v (q + 1)) = (cellsA (s, lim, subQ u v q)).set (5 + q) (.int .i64 (cmpV u q - cmpV v q)) := by
  match q, hq with
  | 0, _ => rfl
  | 1, _ => rfl
  | 2, _ => rfl
  | 3, _ => rfl
/-- One entry is given back. -/
def givE (L : List RA) (e : Ent) : List RA := L.set (findI L e.1).toNat ((accI L e.1).1, (accI L e.1).2.1, subV (accI L e.1).2.2 e.2)
def givI (L : List RA) (l : List Ent) : List RA := l.foldl givE L
theorem givI_next {L : List RA} {l : List Ent} {k : Nat} (h : k < l.length) : givI L (l.take (k + 1)) = givE (givI L (l.take k)) l[k] := by
  have h1 : l.take (k + 1) = l.take k ++ [l[k]] := by rw [List.take_add_one, List.getElem?_eq_getElem h]; rfl
  unfold givI
  rw [h1, List.foldl_append]
  rfl
theorem givE_len (L : List RA) (e : Ent) : (givE L e).length = L.length := by unfold givE; rw [List.length_set]
theorem givE_find {L : List RA} {e : Ent} (s : ByteArray) : findI (givE L e) s = findI L s := by
  unfold givE
  by_cases h : (findI L e.1).toNat < L.length
  · refine findI_set L s _ _ h ?_
    simp only [accI, List.getD, List.getElem?_eq_getElem h, Option.getD_some]
  · rw [List.set_eq_of_length_le (by omega)]
theorem givI_inv (L : List RA) : ∀ (l : List Ent), (givI L l).length = L.length ∧ ∀ s, findI (givI L l) s = findI L s := by
  suffices h : ∀ (l : List Ent) (M : List RA), M.length = L.length → (∀ s, findI M s = findI L s) → (l.foldl givE M).length = L.length ∧ ∀ s, findI (l.foldl givE M) s = findI L s from fun l => h l L rfl (fun _ => rfl)
  intro l
  induction l with
  | nil => intro M h1 h2; exact ⟨h1, h2⟩
  | cons e l ih =>
    intro M h1 h2
    rw [List.foldl_cons]
    exact ih _ (by rw [givE_len, h1]) (fun s => by rw [givE_find, h2])
theorem cmpV_sub (u v : V) (q : Nat) : cmpV (subV u v) q = cmpV u q - cmpV v q := by
  unfold cmpV subV
  split <;> rfl
/-- What is used stays small. -/
theorem givI_small (L : List RA) (hL : ∀ x ∈ L, ∀ q, 0 ≤ cmpV x.2.2 q ∧ cmpV x.2.2 q ≤ 1099511627776) : ∀ (l : List Ent), (∀ e ∈ l, okV e.2 = true) → ∀ x ∈ givI L l, ∀ q, -(1099511627776 * (l.length : Int)) ≤ cmpV x.2.2 q ∧ cmpV x.2.2 q ≤ 1099511627776 := by
  suffices h : ∀ (l : List Ent) (M : List RA) (c : Int), 0 ≤ c → (∀ e ∈ l, okV e.2 = true) → (∀ x ∈ M, ∀ q, -(1099511627776 * c) ≤ cmpV x.2.2 q ∧ cmpV x.2.2 q ≤ 1099511627776) → ∀ x ∈ l.foldl givE M, ∀ q, -(1099511627776 * (c + (l.length : Int))) ≤ cmpV x.2.2 q ∧ cmpV x.2.2 q ≤ 1099511627776 from fun l hl x hx q => by
    have := h l L 0 (by omega) hl (fun x hx q => by have := hL x hx q; omega) x hx q
    omega
  intro l
  induction l with
  | nil => intro M c hc _ h x hx q; have := h x hx q; simp; omega
  | cons e l ih =>
    intro M c hc hl h x hx q
    rw [List.foldl_cons] at hx
    have := ih (givE M e) (c + 1) (by omega) (fun y hy => hl y (by simp [hy])) (fun y hy r => by
      have he := cmpV_ok (hl e (by simp)) r
      unfold givE at hy
      rcases List.mem_or_eq_of_mem_set hy with hy | rfl
      · have := h y hy r; omega
      · simp only [cmpV_sub]
        have h0 : -(1099511627776 * c) ≤ cmpV (accI M e.1).2.2 r ∧ cmpV (accI M e.1).2.2 r ≤ 1099511627776 := by
          unfold accI
          by_cases hh : (findI M e.1).toNat < M.length
          · rw [List.getD, List.getElem?_eq_getElem hh, Option.getD_some]
            exact h _ (List.getElem_mem _) r
          · rw [List.getD, List.getElem?_eq_none (by omega), Option.getD_none]
            have z : cmpV zeroV r = 0 := by unfold cmpV; split <;> rfl
            rw [z]; omega
        omega) x hx q
    simp only [List.length_cons]
    push_cast
    omega
set_option maxRecDepth 20000 in
set_option maxHeartbeats 4000000 in
theorem rgive_range (B R g rcap m n : Nat) (L : List RA) (p off cap : Nat) (l : List Ent) (w : World) (hB : B ≤ w.heap.size) (hR : RefL B w R (.slice (some ⟨g, 0, none⟩) m rcap) L) (hmn : m = L.length) (hm : L.length ≤ 100000) (hp : p < w.heap.size) (hl : HoldsE w p off l) (hn : n = l.length) (hlen : l.length ≤ 100000) (hok : ∀ x ∈ L, okV x.2.1 = true ∧ okV x.2.2 = true) (hw0 : wrongI L l = 0) (hq9 : l.all (chkJ L l) = false) :
    Calls Try.prog 37 #[.pointer (some ⟨R, 0, none⟩), .slice (some ⟨p, off, none⟩) n cap] w fun e w' => e = .returned (.int .i64 2) ∧ RefPost B w w' R L := by
  have hw := rwrong_any B R _ L p off cap l w hR hm hp hl hlen
  rw [hw0, ← hn] at hw
  have HN := hid hn
  have HE := hid hl
  have HRL := hid hR
  have HML := hid hm
  have HMN := hid hmn
  have HOK := hid hok
  have HW := hid (wrong_zero hw0)
  have HBB := hid hB
  rw [← hn] at hlen
  have HQ9 := hid hq9
  clear hn hl hR hm hmn hok hw0 hq9
  go_enter Try.func37, Try.ntmps37
  go_wp2_with fail
  refine hw.mono ?_
  rintro e w1 ⟨rfl, hb1⟩
  have HB1 := hid hb1
  clear hb1 hw
  go_wp2_with fail
  go_loopw [6] (fun i wr => ∃ k : Nat, k ≤ n ∧ i = .int .i64 k ∧ Hid ((l.take k).all (chkJ L l) = true) ∧ Hid (Below w.heap.size w wr)) (fun i _ => n - (intOf i).toNat)
  case atStart => exact ⟨0, Nat.zero_le _, rfl, rfl, HB1⟩
  case round =>
    obtain ⟨k, hkn, rfl, HA, HB⟩ := hrel
    clear HB1
    have hsr := HB.out.size
    by_cases hk : k < n
    · have ki : (k : Int) < (n : Int) := by omega
      have hkl : k < l.length := by have := HN.out; omega
      obtain ⟨j, hj, hfj, hnj⟩ := findI_hit L l[k].1 (HW.out.2 l[k] (List.getElem_mem _))
      obtain ⟨-, b0, -⟩ := HE.out.below hp HB.out k hkl
      obtain ⟨s, hs⟩ : ∃ s, s = l[k].1 := ⟨_, rfl⟩
      rw [← hs] at b0 hfj hnj
      have hacc := accI_at hj hfj
      obtain ⟨y, hy⟩ : ∃ y, y = L[j] := ⟨_, rfl⟩
      obtain ⟨hy1, hy2⟩ := HOK.out L[j] (List.getElem_mem _)
      rw [← hy] at hacc hnj hy1 hy2
      have HS := hid hs
      have HKL := hid hkl
      have HACC := hid hacc
      have RR := HRL.out.below HB.out
      obtain ⟨-, hgl, hgf, hcell⟩ := RR.cells (by omega)
      have hcy : ∀ c, c < 9 → wr.cell? ⟨g, j * 9 + c, none⟩ = (cellsA y)[c]? := fun c hc => by rw [hy]; exact hcell j hj c hc
      have rc : wr.cell? ⟨R, 0, none⟩ = some (.slice (some ⟨g, 0, none⟩) m rcap) := (blk_cell RR.2.1 0).trans rfl
      have hlR := lt_of_at RR.2.1
      have hpr : p < wr.heap.size := Nat.lt_of_lt_of_le hp hsr
      have hfi : ∀ W, Below wr.heap.size wr W → Calls Try.prog 32 #[.pointer (some ⟨R, 0, none⟩), .string s] W fun e w' => e = .returned (.int .i64 j) ∧ Below W.heap.size W w' := fun W h => by have h2 := rfind_any B R _ L s W (RR.below h) HML.out; rw [hfj] at h2; exact h2
      have hjm : (j : Int) < (m : Int) := by have := HMN.out; omega
      have HK1 : Hid (k + 1 ≤ n) := hk
      have HM1 : Hid (n - (k + 1) < n - k) := by unfold Hid; omega
      have HY1 := hid hy1
      have HY2 := hid hy2
      clear hcell hy hs hkn hacc hfj hj hy1 hy2 RR hsr
      obtain ⟨y0, ⟨y1, y2, y3, y4⟩, y5, y6, y7, y8⟩ := y
      simp only at hnj
      subst hnj
      have y_0 : wr.cell? ⟨g, j * 9, none⟩ = some (.string y0) := (hcy 0 (by omega)).trans rfl
      have y_1 : wr.cell? ⟨g, j * 9 + 1, none⟩ = some (.int .i64 y1) := (hcy 1 (by omega)).trans rfl
      have y_2 : wr.cell? ⟨g, j * 9 + 2, none⟩ = some (.int .i64 y2) := (hcy 2 (by omega)).trans rfl
      have y_3 : wr.cell? ⟨g, j * 9 + 3, none⟩ = some (.int .i64 y3) := (hcy 3 (by omega)).trans rfl
      have y_4 : wr.cell? ⟨g, j * 9 + 4, none⟩ = some (.int .i64 y4) := (hcy 4 (by omega)).trans rfl
      have y_5 : wr.cell? ⟨g, j * 9 + 5, none⟩ = some (.int .i64 y5) := (hcy 5 (by omega)).trans rfl
      have y_6 : wr.cell? ⟨g, j * 9 + 6, none⟩ = some (.int .i64 y6) := (hcy 6 (by omega)).trans rfl
      have y_7 : wr.cell? ⟨g, j * 9 + 7, none⟩ = some (.int .i64 y7) := (hcy 7 (by omega)).trans rfl
      have y_8 : wr.cell? ⟨g, j * 9 + 8, none⟩ = some (.int .i64 y8) := (hcy 8 (by omega)).trans rfl
      clear hcy
      go_upto_region 7 with fail
      go_cut [7] (fun s7_ wx => ∃ xY : Nat, s7_ = .pointer (some ⟨xY, 0, none⟩) ∧ Below wr.heap.size wr wx ∧ wx.heap[xY]? = some (.cells #[.string y0, .int .i64 y1, .int .i64 y2, .int .i64 y3, .int .i64 y4, .int .i64 y5, .int .i64 y6, .int .i64 y7, .int .i64 y8] 73 (0, 0)))
      case first =>
        go_region_held3 (fun w' => Below wr.heap.size wr w' ∧ (∀ b o, b < wr.heap.size → w'.cell? ⟨b, o, none⟩ = wr.cell? ⟨b, o, none⟩) ∧ ∀ b o, b < wr.heap.size → w'.frozen? ⟨b, o, none⟩ = wr.frozen? ⟨b, o, none⟩) (first | ((try go_split_ands); (try dsimp only); refine same_of ?_; (repeat (first | with_reducible assumption | with_reducible exact Below.refl _ _ | with_reducible refine Below.drew ?_ | with_reducible refine below_drewN ?_ _ | with_reducible refine below_alloc ?_ _ | with_reducible refine Below.alloc ?_ (by first | omega | (simp; done) | (simp; omega)) _ | with_reducible refine Below.setCell ?_ (by first | omega | (simp; done) | (simp; omega)) _ | with_reducible refine below_setRow ?_ (by first | omega | (simp; done) | (simp; omega)) _)); done) | ((try go_split_ands); (try dsimp only); refine same_of ?_; (repeat (first | with_reducible refine below_call ?_ hb91 | with_reducible assumption | with_reducible exact Below.refl _ _ | with_reducible refine Below.drew ?_ | with_reducible refine below_alloc ?_ _ | with_reducible refine Below.setCell ?_ (by (try have qz_hb91 := hb91.size); (try simp only [World.size_alloc, World.size_setCell, heap_drew] at qz_hb91); (try (obtain ⟨qy_hb91, -, -⟩ : Below _ _ w91 ∧ _ ∧ _ := by assumption; have qx_hb91 := qy_hb91.size)); first | omega | (dsimp only; omega)) _)); done)) (first | (go_at_call_of 32 (Value.pointer (some ⟨R, 0, none⟩)); refine (hfi _ (by repeat (first | with_reducible assumption | with_reducible exact Below.refl _ _ | with_reducible refine Below.drew ?_ | with_reducible refine below_drewN ?_ _ | with_reducible refine below_alloc ?_ _ | with_reducible refine Below.alloc ?_ (by first | omega | (simp; done) | (simp; omega)) _ | with_reducible refine Below.setCell ?_ (by first | omega | (simp; done) | (simp; omega)) _ | with_reducible refine below_setRow ?_ (by first | omega | (simp; done) | (simp; omega)) _))).mono ?_; rintro e w91 ⟨rfl, hb91⟩; obtain ⟨hc91, hf91⟩ := bcell hb91; have hs91 := hb91.size; (try simp only [World.size_alloc, World.size_setCell, heap_drew] at hs91); (try have hl91_w1_0 : wr.heap.size < w91.heap.size := by omega)))
        all_goals
          go_wp2_with fail
          obtain ⟨hb98, -, -⟩ : Below wr.heap.size wr _ ∧ _ ∧ _ := by assumption
          go_meet
          exact ⟨_, rfl, (by repeat (first | with_reducible assumption | with_reducible exact Below.refl _ _ | with_reducible refine Below.drew ?_ | with_reducible refine below_drewN ?_ _ | with_reducible refine below_alloc ?_ _ | with_reducible refine Below.alloc ?_ (by first | omega | (simp; done) | (simp; omega)) _ | with_reducible refine Below.setCell ?_ (by first | omega | (simp; done) | (simp; omega)) _ | with_reducible refine below_setRow ?_ (by first | omega | (simp; done) | (simp; omega)) _)), at_of (by apply Exists.intro; refine ⟨?_, ?_⟩; (focus ((repeat (first | ((with_reducible refine below_at hb91 ?_ ?_); (focus (first | omega | (dsimp only; omega) | (simp; done) | (simp; omega)))) | (with_reducible assumption) | (with_reducible exact alloc_at _ _) | ((with_reducible apply alloc_at'); (simp; done)) | (with_reducible apply alloc_at_lt) | (with_reducible apply heap_drew_at) | (with_reducible apply heap_drewN_at) | (with_reducible apply heap_setCell_same) | ((with_reducible apply heap_set_ne); (first | omega | (dsimp only; omega) | (simp; done) | (simp; omega))) | (with_reducible apply setRow_at) | ((with_reducible apply setRow_ne); (first | omega | (dsimp only; omega) | (simp; done) | (simp; omega))))))); simp)⟩
      case rest =>
        obtain ⟨xY, rfl, hb2, Y_2⟩ := hcut
        obtain ⟨w2, rfl⟩ : ∃ wx_ : World, wx_ = wc := ⟨_, rfl⟩
        have B2 : Hid (Below w.heap.size w w2) := HB.out.trans (hb2.mono HB.out.size)
        have HY := hid Y_2
        clear hb2 Y_2 y_0 y_1 y_2 y_3 y_4 y_5 y_6 y_7 y_8 rc hlR hgl hgf hpr hfi b0
        go_wp2_with fail
        go_loopw [8] (fun i wx => ∃ q : Nat, q ≤ 4 ∧ i = .int .i64 q ∧ Hid (∀ r, r < q → chkG L l (y0, zeroV) r = true) ∧ Hid (wx.heap[xY]? = some (.cells #[.string y0, .int .i64 y1, .int .i64 y2, .int .i64 y3, .int .i64 y4, .int .i64 y5, .int .i64 y6, .int .i64 y7, .int .i64 y8] 73 (0, 0))) ∧ Hid (Below w.heap.size w wx)) (fun i _ => 4 - (intOf i).toNat)
        case atStart => exact ⟨0, by omega, rfl, fun r h => by omega, HY, B2⟩
        case round =>
          clear HY B2
          obtain ⟨q, hq4, rfl, HQ, HY, HB2⟩ := hrel
          by_cases hq : q < 4
          · have qi : (q : Int) < 4 := by omega
            have hpx : p < wr.heap.size := Nat.lt_of_lt_of_le hp HB2.out.size
            obtain ⟨u, hu⟩ : ∃ u, u = cmpV (y5, y6, y7, y8) q := ⟨_, rfl⟩
            obtain ⟨S, hS⟩ : ∃ S, S = sumI l y0 q := ⟨_, rfl⟩
            have hsum : ∀ lx_ : Lat wr.heap.size wr, Calls Try.prog 34 #[.slice (some ⟨p, off, none⟩) n cap, .string y0, .int .i64 q] lx_.w fun e w' => e = .returned (.int .i64 S) ∧ Below lx_.w.heap.size lx_.w w' := fun lx_ => by
              have hbl : Below w.heap.size w lx_.w := HB2.out.trans (lx_.h.mono HB2.out.size)
              rw [hS, HN.out]
              exact rsum_any p off cap q y0 l lx_.w (Nat.lt_of_lt_of_le hp hbl.size) (HE.out.below hp hbl) hq HW.out.1 (by rw [← HN.out]; exact hlen)
            have hlY := lt_of_at HY.out
            have c5 : wr.cell? ⟨xY, 5 + q, none⟩ = some (.int .i64 u) := by
              rw [hu]; exact acct_used HY.out hq
            obtain ⟨u0, u1⟩ := cmpV_ok HY2.out q
            obtain ⟨s0, s1⟩ := sumI_ok (s := y0) (i := q) HW.out.1
            rw [← hS] at s0 s1
            rw [← hu] at u0 u1
            have HCQ : Hid (chkG L l (y0, zeroV) q = decide (S ≤ u)) := by
              unfold Hid chkG
              rw [HACC.out, hu, hS]
            have HK4 : Hid (q + 1 ≤ 4) := hq
            have HM4 : Hid (4 - (q + 1) < 4 - q) := by unfold Hid; omega
            have HQL := hid hq
            clear hu hS hq4
            go_upto_region 11 with fail
            have e0 : ∀ lx_ : Lat wr.heap.size wr, lx_.w.cell? ⟨xY, 0, none⟩ = some (.string y0) := fun lx_ => by rw [lx_.cell _ _ hlY]; exact (blk_cell HY.out 0).trans rfl
            have e5 : ∀ lx_ : Lat wr.heap.size wr, lx_.w.cell? ⟨xY, 5 + q, none⟩ = some (.int .i64 u) := fun lx_ => by rw [lx_.cell _ _ hlY]; exact c5
            refine wp_region_lat (by kernel_rfl) (by kernel_rfl) ?_
            repeat (go_big_quiet_step ((go_at_call 34; exact lat_of (Nat.le_refl _) (hsum _))))
            refine wpQuiet_nil ?_
            rintro w3 ⟨x3, hx3⟩
            have hb3 := x3.h
            rw [← hx3] at hb3
            clear hx3 x3 e0 e5 hsum c5
            have HY3 := hid (below_at hb3 hlY HY.out)
            have HB3 : Hid (Below w.heap.size w w3) := HB2.out.trans (hb3.mono HB2.out.size)
            clear hb3 hlY
            by_cases hc : S ≤ u
            · have HQ2 : Hid (∀ r, r < q + 1 → chkG L l (y0, zeroV) r = true) := fun r hr => by
                by_cases e : r = q
                · rw [e, HCQ.out]; simpa using hc
                · exact HQ.out r (by omega)
              clear s0 s1 u0 u1
              go_wp2
              go_roundw
              case rel => exact ⟨q + 1, HK4.out, by go_num, HQ2, HY3, HB3⟩
              case measure => have := HM4.out; simp [intOf]; omega
            · clear s0 s1 u0 u1
              go_wp2
              go_ret
              exact ⟨rfl, RefPost.same HRL.out HBB.out HB3.out⟩
          · obtain rfl : q = 4 := by omega
            have HA2 : Hid ((l.take (k + 1)).all (chkJ L l) = true) := all_next HKL.out HA.out (by
              have h9 := chkJ_all (L := L) (l := l) (e := (y0, zeroV)) HQ.out
              unfold chkJ chkG at h9 ⊢
              simp only at h9
              rw [← HS.out]; exact h9)
            clear hq hq4
            go_wp2
            go_roundw
            case rel => exact ⟨k + 1, HK1.out, by go_num, HA2, HB2⟩
            case measure => have := HM1.out; simp [intOf]; omega
    · have HAL : Hid (l.all (chkJ L l) = true) := by
        have := HA.out
        rwa [List.take_of_length_le (by have := HN.out; omega)] at this
      exact absurd (HAL.out.symm.trans HQ9.out) (by simp)
set_option maxRecDepth 20000 in
set_option maxHeartbeats 4000000 in
theorem rgive_fits (B R g rcap m n : Nat) (L : List RA) (p off cap : Nat) (l : List Ent) (w : World) (hB : B ≤ w.heap.size) (hR : RefL B w R (.slice (some ⟨g, 0, none⟩) m rcap) L) (hmn : m = L.length) (hm : L.length ≤ 100000) (hp : p < w.heap.size) (hl : HoldsE w p off l) (hn : n = l.length) (hlen : l.length ≤ 100000) (hok : ∀ x ∈ L, okV x.2.1 = true ∧ okV x.2.2 = true) (hw0 : wrongI L l = 0) (hq9 : l.all (chkJ L l) = true) (hpo : ∃ o, w.heap[p]? = some o ∧ notRef o) :
    Calls Try.prog 37 #[.pointer (some ⟨R, 0, none⟩), .slice (some ⟨p, off, none⟩) n cap] w fun e w' => e = .returned (.int .i64 0) ∧ RefPost B w w' R (givI L l) := by
  have hw := rwrong_any B R _ L p off cap l w hR hm hp hl hlen
  rw [hw0, ← hn] at hw
  have HN := hid hn
  have HE := hid hl
  have HRL := hid hR
  have HML := hid hm
  have HMN := hid hmn
  have HOK := hid hok
  have HW := hid (wrong_zero hw0)
  have HBB := hid hB
  have HPO := hid hpo
  rw [← hn] at hlen
  have HQ9 := hid hq9
  clear hn hl hR hm hmn hok hw0 hq9 hpo
  go_enter Try.func37, Try.ntmps37
  go_wp2_with fail
  refine hw.mono ?_
  rintro e w1 ⟨rfl, hb1⟩
  have HB1 := hid hb1
  clear hb1 hw
  go_wp2_with fail
  go_loopw [6] (fun i wr => ∃ k : Nat, k ≤ n ∧ i = .int .i64 k ∧ Hid ((l.take k).all (chkJ L l) = true) ∧ Hid (Below w.heap.size w wr)) (fun i _ => n - (intOf i).toNat)
  case atStart => exact ⟨0, Nat.zero_le _, rfl, rfl, HB1⟩
  case round =>
    obtain ⟨k, hkn, rfl, HA, HB⟩ := hrel
    clear HB1
    have hsr := HB.out.size
    by_cases hk : k < n
    · have ki : (k : Int) < (n : Int) := by omega
      have hkl : k < l.length := by have := HN.out; omega
      obtain ⟨j, hj, hfj, hnj⟩ := findI_hit L l[k].1 (HW.out.2 l[k] (List.getElem_mem _))
      obtain ⟨-, b0, -⟩ := HE.out.below hp HB.out k hkl
      obtain ⟨s, hs⟩ : ∃ s, s = l[k].1 := ⟨_, rfl⟩
      rw [← hs] at b0 hfj hnj
      have hacc := accI_at hj hfj
      obtain ⟨y, hy⟩ : ∃ y, y = L[j] := ⟨_, rfl⟩
      obtain ⟨hy1, hy2⟩ := HOK.out L[j] (List.getElem_mem _)
      rw [← hy] at hacc hnj hy1 hy2
      have HS := hid hs
      have HKL := hid hkl
      have HACC := hid hacc
      have RR := HRL.out.below HB.out
      obtain ⟨-, hgl, hgf, hcell⟩ := RR.cells (by omega)
      have hcy : ∀ c, c < 9 → wr.cell? ⟨g, j * 9 + c, none⟩ = (cellsA y)[c]? := fun c hc => by rw [hy]; exact hcell j hj c hc
      have rc : wr.cell? ⟨R, 0, none⟩ = some (.slice (some ⟨g, 0, none⟩) m rcap) := (blk_cell RR.2.1 0).trans rfl
      have hlR := lt_of_at RR.2.1
      have hpr : p < wr.heap.size := Nat.lt_of_lt_of_le hp hsr
      have hfi : ∀ W, Below wr.heap.size wr W → Calls Try.prog 32 #[.pointer (some ⟨R, 0, none⟩), .string s] W fun e w' => e = .returned (.int .i64 j) ∧ Below W.heap.size W w' := fun W h => by have h2 := rfind_any B R _ L s W (RR.below h) HML.out; rw [hfj] at h2; exact h2
      have hjm : (j : Int) < (m : Int) := by have := HMN.out; omega
      have HK1 : Hid (k + 1 ≤ n) := hk
      have HM1 : Hid (n - (k + 1) < n - k) := by unfold Hid; omega
      have HY1 := hid hy1
      have HY2 := hid hy2
      clear hcell hy hs hkn hacc hfj hj hy1 hy2 RR hsr
      obtain ⟨y0, ⟨y1, y2, y3, y4⟩, y5, y6, y7, y8⟩ := y
      simp only at hnj
      subst hnj
      have y_0 : wr.cell? ⟨g, j * 9, none⟩ = some (.string y0) := (hcy 0 (by omega)).trans rfl
      have y_1 : wr.cell? ⟨g, j * 9 + 1, none⟩ = some (.int .i64 y1) := (hcy 1 (by omega)).trans rfl
      have y_2 : wr.cell? ⟨g, j * 9 + 2, none⟩ = some (.int .i64 y2) := (hcy 2 (by omega)).trans rfl
      have y_3 : wr.cell? ⟨g, j * 9 + 3, none⟩ = some (.int .i64 y3) := (hcy 3 (by omega)).trans rfl
      have y_4 : wr.cell? ⟨g, j * 9 + 4, none⟩ = some (.int .i64 y4) := (hcy 4 (by omega)).trans rfl
      have y_5 : wr.cell? ⟨g, j * 9 + 5, none⟩ = some (.int .i64 y5) := (hcy 5 (by omega)).trans rfl
      have y_6 : wr.cell? ⟨g, j * 9 + 6, none⟩ = some (.int .i64 y6) := (hcy 6 (by omega)).trans rfl
      have y_7 : wr.cell? ⟨g, j * 9 + 7, none⟩ = some (.int .i64 y7) := (hcy 7 (by omega)).trans rfl
      have y_8 : wr.cell? ⟨g, j * 9 + 8, none⟩ = some (.int .i64 y8) := (hcy 8 (by omega)).trans rfl
      clear hcy
      go_upto_region 7 with fail
      go_cut [7] (fun s7_ wx => ∃ xY : Nat, s7_ = .pointer (some ⟨xY, 0, none⟩) ∧ Below wr.heap.size wr wx ∧ wx.heap[xY]? = some (.cells #[.string y0, .int .i64 y1, .int .i64 y2, .int .i64 y3, .int .i64 y4, .int .i64 y5, .int .i64 y6, .int .i64 y7, .int .i64 y8] 73 (0, 0)))
      case first =>
        go_region_held3 (fun w' => Below wr.heap.size wr w' ∧ (∀ b o, b < wr.heap.size → w'.cell? ⟨b, o, none⟩ = wr.cell? ⟨b, o, none⟩) ∧ ∀ b o, b < wr.heap.size → w'.frozen? ⟨b, o, none⟩ = wr.frozen? ⟨b, o, none⟩) (first | ((try go_split_ands); (try dsimp only); refine same_of ?_; (repeat (first | with_reducible assumption | with_reducible exact Below.refl _ _ | with_reducible refine Below.drew ?_ | with_reducible refine below_drewN ?_ _ | with_reducible refine below_alloc ?_ _ | with_reducible refine Below.alloc ?_ (by first | omega | (simp; done) | (simp; omega)) _ | with_reducible refine Below.setCell ?_ (by first | omega | (simp; done) | (simp; omega)) _ | with_reducible refine below_setRow ?_ (by first | omega | (simp; done) | (simp; omega)) _)); done) | ((try go_split_ands); (try dsimp only); refine same_of ?_; (repeat (first | with_reducible refine below_call ?_ hb91 | with_reducible assumption | with_reducible exact Below.refl _ _ | with_reducible refine Below.drew ?_ | with_reducible refine below_alloc ?_ _ | with_reducible refine Below.setCell ?_ (by (try have qz_hb91 := hb91.size); (try simp only [World.size_alloc, World.size_setCell, heap_drew] at qz_hb91); (try (obtain ⟨qy_hb91, -, -⟩ : Below _ _ w91 ∧ _ ∧ _ := by assumption; have qx_hb91 := qy_hb91.size)); first | omega | (dsimp only; omega)) _)); done)) (first | (go_at_call_of 32 (Value.pointer (some ⟨R, 0, none⟩)); refine (hfi _ (by repeat (first | with_reducible assumption | with_reducible exact Below.refl _ _ | with_reducible refine Below.drew ?_ | with_reducible refine below_drewN ?_ _ | with_reducible refine below_alloc ?_ _ | with_reducible refine Below.alloc ?_ (by first | omega | (simp; done) | (simp; omega)) _ | with_reducible refine Below.setCell ?_ (by first | omega | (simp; done) | (simp; omega)) _ | with_reducible refine below_setRow ?_ (by first | omega | (simp; done) | (simp; omega)) _))).mono ?_; rintro e w91 ⟨rfl, hb91⟩; obtain ⟨hc91, hf91⟩ := bcell hb91; have hs91 := hb91.size; (try simp only [World.size_alloc, World.size_setCell, heap_drew] at hs91); (try have hl91_w1_0 : wr.heap.size < w91.heap.size := by omega)))
        all_goals
          go_wp2_with fail
          obtain ⟨hb98, -, -⟩ : Below wr.heap.size wr _ ∧ _ ∧ _ := by assumption
          go_meet
          exact ⟨_, rfl, (by repeat (first | with_reducible assumption | with_reducible exact Below.refl _ _ | with_reducible refine Below.drew ?_ | with_reducible refine below_drewN ?_ _ | with_reducible refine below_alloc ?_ _ | with_reducible refine Below.alloc ?_ (by first | omega | (simp; done) | (simp; omega)) _ | with_reducible refine Below.setCell ?_ (by first | omega | (simp; done) | (simp; omega)) _ | with_reducible refine below_setRow ?_ (by first | omega | (simp; done) | (simp; omega)) _)), at_of (by apply Exists.intro; refine ⟨?_, ?_⟩; (focus ((repeat (first | ((with_reducible refine below_at hb91 ?_ ?_); (focus (first | omega | (dsimp only; omega) | (simp; done) | (simp; omega)))) | (with_reducible assumption) | (with_reducible exact alloc_at _ _) | ((with_reducible apply alloc_at'); (simp; done)) | (with_reducible apply alloc_at_lt) | (with_reducible apply heap_drew_at) | (with_reducible apply heap_drewN_at) | (with_reducible apply heap_setCell_same) | ((with_reducible apply heap_set_ne); (first | omega | (dsimp only; omega) | (simp; done) | (simp; omega))) | (with_reducible apply setRow_at) | ((with_reducible apply setRow_ne); (first | omega | (dsimp only; omega) | (simp; done) | (simp; omega))))))); simp)⟩
      case rest =>
        obtain ⟨xY, rfl, hb2, Y_2⟩ := hcut
        obtain ⟨w2, rfl⟩ : ∃ wx_ : World, wx_ = wc := ⟨_, rfl⟩
        have B2 : Hid (Below w.heap.size w w2) := HB.out.trans (hb2.mono HB.out.size)
        have HY := hid Y_2
        clear hb2 Y_2 y_0 y_1 y_2 y_3 y_4 y_5 y_6 y_7 y_8 rc hlR hgl hgf hpr hfi b0
        go_wp2_with fail
        go_loopw [8] (fun i wx => ∃ q : Nat, q ≤ 4 ∧ i = .int .i64 q ∧ Hid (∀ r, r < q → chkG L l (y0, zeroV) r = true) ∧ Hid (wx.heap[xY]? = some (.cells #[.string y0, .int .i64 y1, .int .i64 y2, .int .i64 y3, .int .i64 y4, .int .i64 y5, .int .i64 y6, .int .i64 y7, .int .i64 y8] 73 (0, 0))) ∧ Hid (Below w.heap.size w wx)) (fun i _ => 4 - (intOf i).toNat)
        case atStart => exact ⟨0, by omega, rfl, fun r h => by omega, HY, B2⟩
        case round =>
          clear HY B2
          obtain ⟨q, hq4, rfl, HQ, HY, HB2⟩ := hrel
          by_cases hq : q < 4
          · have qi : (q : Int) < 4 := by omega
            have hpx : p < wr.heap.size := Nat.lt_of_lt_of_le hp HB2.out.size
            obtain ⟨u, hu⟩ : ∃ u, u = cmpV (y5, y6, y7, y8) q := ⟨_, rfl⟩
            obtain ⟨S, hS⟩ : ∃ S, S = sumI l y0 q := ⟨_, rfl⟩
            have hsum : ∀ lx_ : Lat wr.heap.size wr, Calls Try.prog 34 #[.slice (some ⟨p, off, none⟩) n cap, .string y0, .int .i64 q] lx_.w fun e w' => e = .returned (.int .i64 S) ∧ Below lx_.w.heap.size lx_.w w' := fun lx_ => by
              have hbl : Below w.heap.size w lx_.w := HB2.out.trans (lx_.h.mono HB2.out.size)
              rw [hS, HN.out]
              exact rsum_any p off cap q y0 l lx_.w (Nat.lt_of_lt_of_le hp hbl.size) (HE.out.below hp hbl) hq HW.out.1 (by rw [← HN.out]; exact hlen)
            have hlY := lt_of_at HY.out
            have c5 : wr.cell? ⟨xY, 5 + q, none⟩ = some (.int .i64 u) := by
              rw [hu]; exact acct_used HY.out hq
            obtain ⟨u0, u1⟩ := cmpV_ok HY2.out q
            obtain ⟨s0, s1⟩ := sumI_ok (s := y0) (i := q) HW.out.1
            rw [← hS] at s0 s1
            rw [← hu] at u0 u1
            have HCQ : Hid (chkG L l (y0, zeroV) q = decide (S ≤ u)) := by
              unfold Hid chkG
              rw [HACC.out, hu, hS]
            have HK4 : Hid (q + 1 ≤ 4) := hq
            have HM4 : Hid (4 - (q + 1) < 4 - q) := by unfold Hid; omega
            have HQL := hid hq
            clear hu hS hq4
            go_upto_region 11 with fail
            have e0 : ∀ lx_ : Lat wr.heap.size wr, lx_.w.cell? ⟨xY, 0, none⟩ = some (.string y0) := fun lx_ => by rw [lx_.cell _ _ hlY]; exact (blk_cell HY.out 0).trans rfl
            have e5 : ∀ lx_ : Lat wr.heap.size wr, lx_.w.cell? ⟨xY, 5 + q, none⟩ = some (.int .i64 u) := fun lx_ => by rw [lx_.cell _ _ hlY]; exact c5
            refine wp_region_lat (by kernel_rfl) (by kernel_rfl) ?_
            repeat (go_big_quiet_step ((go_at_call 34; exact lat_of (Nat.le_refl _) (hsum _))))
            refine wpQuiet_nil ?_
            rintro w3 ⟨x3, hx3⟩
            have hb3 := x3.h
            rw [← hx3] at hb3
            clear hx3 x3 e0 e5 hsum c5
            have HY3 := hid (below_at hb3 hlY HY.out)
            have HB3 : Hid (Below w.heap.size w w3) := HB2.out.trans (hb3.mono HB2.out.size)
            clear hb3 hlY
            by_cases hc : S ≤ u
            · have HQ2 : Hid (∀ r, r < q + 1 → chkG L l (y0, zeroV) r = true) := fun r hr => by
                by_cases e : r = q
                · rw [e, HCQ.out]; simpa using hc
                · exact HQ.out r (by omega)
              clear s0 s1 u0 u1
              go_wp2
              go_roundw
              case rel => exact ⟨q + 1, HK4.out, by go_num, HQ2, HY3, HB3⟩
              case measure => have := HM4.out; simp [intOf]; omega
            · clear s0 s1 u0 u1
              have HAF : Hid False := by
                have h8 := List.all_eq_true.1 HQ9.out l[k] (List.getElem_mem HKL.out)
                have h7 : chkG L l (y0, zeroV) q = false := by rw [HCQ.out]; simp; omega
                have h6 : chkJ L l l[k] = false := chkJ_not HQL.out ((chkG_name (e' := (y0, zeroV)) HS.out.symm).trans h7)
                rw [h6] at h8; cases h8
              exact HAF.out.elim
          · obtain rfl : q = 4 := by omega
            have HA2 : Hid ((l.take (k + 1)).all (chkJ L l) = true) := all_next HKL.out HA.out (by
              have h9 := chkJ_all (L := L) (l := l) (e := (y0, zeroV)) HQ.out
              unfold chkJ chkG at h9 ⊢
              simp only at h9
              rw [← HS.out]; exact h9)
            clear hq hq4
            go_wp2
            go_roundw
            case rel => exact ⟨k + 1, HK1.out, by go_num, HA2, HB2⟩
            case measure => have := HM1.out; simp [intOf]; omega
    · have HAL : Hid (l.all (chkJ L l) = true) := by
        have := HA.out
        rwa [List.take_of_length_le (by have := HN.out; omega)] at this
      clear HA HAL
      have ki : ¬ (k : Int) < (n : Int) := by omega
      clear hkn hk
      go_wp2_with fail
      clear ki
      go_loopw [9] (fun i wr => ∃ k : Nat, k ≤ n ∧ i = .int .i64 k ∧ Hid (RefL B wr R (.slice (some ⟨g, 0, none⟩) m rcap) (givI L (l.take k))) ∧ Hid (Below B w wr) ∧ Hid (KeptT w wr)) (fun i _ => n - (intOf i).toNat)
      case atStart => exact ⟨0, Nat.zero_le _, rfl, HRL.out.below HB.out, HB.out.mono HBB.out, keptT_below HB.out⟩
      case round =>
        clear HB
        obtain ⟨k, hkn, rfl, HR2, HB2, HK2⟩ := hrel
        by_cases hk : k < n
        · have ki : (k : Int) < (n : Int) := by omega
          have hkl : k < l.length := by have := HN.out; omega
          have hbk : wr.heap[p]? = w.heap[p]? := by obtain ⟨o, ho, hno⟩ := HPO.out; rw [HK2.out p o ho hno, ho]
          have HEr := hid (HE.out.at_world hbk)
          obtain ⟨M, hM⟩ : ∃ M, M = givI L (l.take k) := ⟨_, rfl⟩
          obtain ⟨hlm, hfm⟩ := givI_inv L (l.take k)
          have hsm := givI_small L (fun x hx q => cmpV_ok (HOK.out x hx).2 q) (l.take k) (fun e he => HW.out.1 e (List.mem_of_mem_take he))
          have hR2 := HR2.out
          rw [← hM] at hlm hfm hsm hR2
          have hmm : m = M.length := by rw [hlm]; exact HMN.out
          obtain ⟨j, hj, hfj, hnj⟩ := findI_hit M l[k].1 (by rw [hfm]; exact HW.out.2 l[k] (List.getElem_mem _))
          have hacc := accI_at hj hfj
          have HNX : Hid (givI L (l.take (k + 1)) = M.set j ((accI M l[k].1).1, (accI M l[k].1).2.1, subV (accI M l[k].1).2.2 l[k].2)) := by
            unfold Hid
            rw [givI_next hkl, ← hM, givE, hfj, Int.toNat_natCast]
          obtain ⟨e, he⟩ : ∃ e, e = l[k] := ⟨_, rfl⟩
          have hs0 := hsm M[j] (List.getElem_mem _)
          have hv0 := cmpV_ok (HW.out.1 l[k] (List.getElem_mem _))
          rw [hacc] at HNX
          obtain ⟨y, hy⟩ : ∃ y, y = M[j] := ⟨_, rfl⟩
          have hRR : RefL B wr R (.slice (some ⟨g, 0, none⟩) m rcap) (M.set j y) := by rw [hy, List.set_getElem_self]; exact hR2
          rw [← hy] at HNX hs0 hnj
          have hHE : ∀ q, q < 4 → ∀ W : World, W.heap[p]? = w.heap[p]? → W.cell? ⟨p, off + k * 5 + 1 + q, none⟩ = some (.int .i64 (cmpV e.2 q)) := fun q hq W hW => by rw [he]; exact ent_cell (HE.out.at_world hW) hkl hq
          have hHN : ∀ W : World, W.heap[p]? = w.heap[p]? → W.cell? ⟨p, off + k * 5, none⟩ = some (.string y.1) := fun W hW => by rw [hnj]; exact (HE.out.at_world hW k hkl).2.1
          rw [← he] at HNX hnj hv0 hfj
          have hln : ((l.take k).length : Int) ≤ 100000 := by rw [List.length_take]; have := HN.out; omega
          have HS0 : Hid (∀ q, -(1099511627776 * 100001) ≤ cmpV y.2.2 q ∧ cmpV y.2.2 q ≤ 1099511627776) := fun q => by have := hs0 q; omega
          have HV0 : Hid (∀ q, 0 ≤ cmpV e.2 q ∧ cmpV e.2 q ≤ 1099511627776) := hv0
          have HHE := hid hHE
          have HHN := hid hHN
          have HRR := hid hRR
          have HK1 : Hid (k + 1 ≤ n) := hk
          have HM1 : Hid (n - (k + 1) < n - k) := by unfold Hid; omega
          have HMM := hid hmm
          have HMF : Hid (findI M y.1 = j) := by rw [hnj]; exact hfj
          obtain ⟨ev, rfl⟩ : ∃ ev, e = (y.1, ev) := ⟨e.2, by rw [hnj]⟩
          clear hR2 hsm hfm hlm hacc hnj hs0 hv0 hy hM hHE hHN hRR hln hmm hfj he hkn hbk
          obtain ⟨s, lim, us⟩ := y
          have hjm : (j : Int) < (m : Int) := by have := HMM.out; omega
          go_wp2_with fail
          go_loopw [10] (fun i wx => ∃ q : Nat, q ≤ 4 ∧ i = .int .i64 q ∧ Hid (RefL B wx R (.slice (some ⟨g, 0, none⟩) m rcap) (M.set j (s, lim, subQ us ev q))) ∧ Hid (Below B w wx) ∧ Hid (KeptT w wx)) (fun i _ => 4 - (intOf i).toNat)
          case atStart => exact ⟨0, by omega, rfl, HRR, HB2, HK2⟩
          case round =>
            clear HB2 HK2
            obtain ⟨q, hq4, rfl, HR3, HB3, HK3⟩ := hrel
            by_cases hq : q < 4
            · have qi : (q : Int) < 4 := by omega
              have hbk : wr.heap[p]? = w.heap[p]? := by obtain ⟨o, ho, hno⟩ := HPO.out; rw [HK3.out p o ho hno, ho]
              have hR3 : RefL B wr R (.slice (some ⟨g, 0, none⟩) M.length rcap) (M.set j (s, lim, subQ us ev q)) := by rw [← HMM.out]; exact HR3.out
              obtain ⟨hgR, hgl, -, hc⟩ := hR3.cellsP hj
              obtain ⟨a, ha⟩ : ∃ a, a = cmpV us q := ⟨_, rfl⟩
              obtain ⟨b, hb⟩ : ∃ b, b = cmpV ev q := ⟨_, rfl⟩
              have cY : wr.cell? ⟨g, j * 9 + 5 + q, none⟩ = some (.int .i64 a) := by
                rw [Nat.add_assoc]
                exact (hc (5 + q) (by omega)).trans ((cells_used s lim _ hq).trans (by rw [subU_at us ev hq, ha]))
              have cE : wr.cell? ⟨p, off + k * 5 + 1 + q, none⟩ = some (.int .i64 b) := by rw [hb]; exact HHE.out q hq wr hbk
              have cN : wr.cell? ⟨p, off + k * 5, none⟩ = some (.string s) := HHN.out wr hbk
              have cR : wr.cell? ⟨R, 0, none⟩ = some (.slice (some ⟨g, 0, none⟩) m rcap) := (blk_cell HR3.out.2.1 0).trans rfl
              have hlR := lt_of_at HR3.out.2.1
              have hlp : p < wr.heap.size := by obtain ⟨o, ho, hno⟩ := HPO.out; exact lt_of_at (HK3.out p o ho hno)
              have hF : ∀ lx_ : Lat wr.heap.size wr, Calls Try.prog 32 #[.pointer (some ⟨R, 0, none⟩), .string s] lx_.w fun e w' => e = .returned (.int .i64 j) ∧ Below lx_.w.heap.size lx_.w w' := fun lx_ => by
                have h2 := rfind_any B R _ _ s lx_.w (HR3.out.below lx_.h) (by rw [List.length_set, ← HMM.out, HMN.out]; exact HML.out)
                rw [findI_set M s j _ hj (by rw [hj_name HMF.out hj])] at h2
                have h3 : findI M s = j := HMF.out
                rw [h3] at h2
                exact h2
              have hA := HS0.out q
              have hB := HV0.out q
              (try simp only at hA); (try simp only at hB)
              rw [← ha] at hA
              rw [← hb] at hB
              obtain ⟨a0, a1⟩ := hA
              obtain ⟨b0, b1⟩ := hB
              have ew : IntKind.i64.wrap (a - b) = a - b := IntWalk.i64_in _ (by omega)
              have HCS : Hid (cellsA (s, lim, subQ us ev (q + 1)) = (cellsA (s, lim, subQ us ev q)).set (5 + q) (.int .i64 (a - b))) := by rw [ha, hb]; exact subU_set s lim us ev hq
              have HK4 : Hid (q + 1 ≤ 4) := hq
              have HM4 : Hid (4 - (q + 1) < 4 - q) := by unfold Hid; omega
              have HQL := hid hq
              clear ha hb hR3 hc hbk hq4 a0 a1 b0 b1
              go_upto_region 19 with fail
              have eR : ∀ lx_ : Lat wr.heap.size wr, lx_.w.cell? ⟨R, 0, none⟩ = some (.slice (some ⟨g, 0, none⟩) m rcap) := fun lx_ => by rw [lx_.cell _ _ hlR]; exact cR
              have eY : ∀ lx_ : Lat wr.heap.size wr, lx_.w.cell? ⟨g, j * 9 + 5 + q, none⟩ = some (.int .i64 a) := fun lx_ => by rw [lx_.cell _ _ hgl]; exact cY
              have e0 : ∀ lx_ : Lat wr.heap.size wr, lx_.w.cell? ⟨p, off + k * 5, none⟩ = some (.string s) := fun lx_ => by rw [lx_.cell _ _ hlp]; exact cN
              have e1 : ∀ lx_ : Lat wr.heap.size wr, lx_.w.cell? ⟨p, off + k * 5 + 1 + q, none⟩ = some (.int .i64 b) := fun lx_ => by rw [lx_.cell _ _ hlp]; exact cE
              refine wp_region_lat_tail 27 (by kernel_rfl) (by kernel_rfl) ?_
              simp only [List.take_succ_cons, List.take_zero, List.drop_succ_cons, List.drop_zero]
              repeat (go_big_quiet_step ((go_at_call 32; exact lat_of (Nat.le_refl _) (hF _))))
              refine wpQuiet_nil ?_
              rintro w91 ⟨x91, hx91⟩
              have hb91 := x91.h
              rw [← hx91] at hb91
              clear hx91 x91 hF eR eY e0 e1 cR cY cN cE
              have hR91 : RefL B w91 R (.slice (some ⟨g, 0, none⟩) M.length rcap) (M.set j (s, lim, subQ us ev q)) := by rw [← HMM.out]; exact HR3.out.below hb91
              obtain ⟨-, hgl91, hgf91, hc91⟩ := hR91.cellsP hj
              have eY91 : w91.cell? ⟨g, j * 9 + 5 + q, none⟩ = some (.int .i64 (cmpV us q)) := by
                rw [Nat.add_assoc]
                exact (hc91 (5 + q) (by omega)).trans ((cells_used s lim _ HQL.out).trans (by rw [subU_at us ev HQL.out]))
              obtain ⟨RR1, kt, bl⟩ := row_put (c := 5 + q) _ hR91 hgR hj (by omega) (s, lim, subQ us ev (q + 1)) (.int .i64 (a - b)) HCS.out
              rw [← Nat.add_assoc] at RR1 kt bl
              rw [← HMM.out] at RR1
              have HRN := hid RR1
              have HKN := hid ((HK3.out.trans (keptT_below hb91)).trans kt)
              have HBN := hid ((HB3.out.trans (hb91.mono (Nat.le_trans HBB.out HB3.out.size))).trans bl)
              clear hc91 hR91 RR1 kt bl hb91 hlR hlp
              go_wp2
              go_roundw
              case rel => exact ⟨q + 1, HK4.out, by go_num, HRN, HBN, HKN⟩
              case measure => have := HM4.out; simp [intOf]; omega
            · obtain rfl : q = 4 := by omega
              have HRN : Hid (RefL B wr R (.slice (some ⟨g, 0, none⟩) m rcap) (givI L (l.take (k + 1)))) := by
                unfold Hid
                rw [HNX.out, ← subU_four]
                exact HR3.out
              clear hq hq4
              go_wp2
              go_roundw
              case rel => exact ⟨k + 1, HK1.out, by go_num, HRN, HB3, HK3⟩
              case measure => have := HM1.out; simp [intOf]; omega
        · have ki : ¬ (k : Int) < (n : Int) := by omega
          have HFI : Hid (RefPost B w wr R (givI L l)) := by
            have h9 := HR2.out
            rw [List.take_of_length_le (by have := HN.out; omega)] at h9
            exact ⟨⟨_, h9⟩, HB2.out, HK2.out⟩
          clear hkn hk
          go_wp2
          go_ret
          exact ⟨rfl, HFI.out⟩
end Go.Proofs.Ytobgolceggeogaa
