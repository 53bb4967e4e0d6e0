/- Chapter 12: New, right, at, Free, Parents. -/
import Derived.Test.YtolfioiccmmifaaDgM
namespace Go.Proofs.Ytolfioiccmmifaa
open Go.RowKit
variable {B H : Nat} {w w' : World} {R R' : Nat → Value} {G G' : Gr}
attribute [local go_sem ↓] zeroG
theorem new_g (B : Nat) (w : World) (hB : B ≤ w.heap.size) : Calls Try.prog 10 #[] w fun e w' => e = .returned (.pointer (some ⟨w.heap.size, 0, none⟩)) ∧ Below w.heap.size w w' ∧ GrV B w' w.heap.size (fun _ => .slice none 0 0) gr0 := by
  go_enter Try.func10, Try.ntmps10
  go_wp2
  go_ret
  exact ⟨rfl, (by repeat (first | with_reducible assumption | with_reducible exact Below.refl _ _ | with_reducible refine Below.drew ?_ | with_reducible refine below_drewN ?_ _ | with_reducible refine below_alloc ?_ _ | with_reducible refine Below.alloc ?_ (by first | omega | (simp; done) | (simp; omega)) _ | with_reducible refine Below.setCell ?_ (by first | omega | (simp; done) | (simp; omega)) _ | with_reducible refine below_setRow ?_ (by first | omega | (simp; done) | (simp; omega)) _)), GrV.start hB (by (repeat (first | (with_reducible assumption) | (with_reducible exact alloc_at _ _) | ((with_reducible apply alloc_at'); (simp; done)) | (with_reducible apply alloc_at_lt) | (with_reducible apply heap_drew_at) | (with_reducible apply heap_drewN_at) | (with_reducible apply heap_setCell_same) | ((with_reducible apply heap_set_ne); (first | omega | (dsimp only; omega) | (simp; done) | (simp; omega))) | (with_reducible apply setRow_at) | ((with_reducible apply setRow_ne); (first | omega | (dsimp only; omega) | (simp; done) | (simp; omega))))))⟩
def okId (z : Int) : Prop := 1 ≤ z ∧ z ≤ 100
instance (z : Int) : Decidable (okId z) := by unfold okId; infer_instance
set_option maxHeartbeats 2000000 in
theorem right_any {A : Option Addr} {n cap : Nat} {zs : List Int} (h : SlZ w A n zs) (hn : n ≤ 1048576) : Calls Try.prog 23 #[.slice A n cap] w fun e w' => e = .returned (.bool (decide (∀ z ∈ zs, okId z))) ∧ w = w' := by
  have HS := hid h
  have HNB := hid hn
  have hnb : (n : Int) ≤ 1048576 := by omega
  clear h hn
  go_enter Try.func23, Try.ntmps23
  go_wp2_with fail
  go_loopw [7] (fun iv wr => ∃ i : Nat, i ≤ n ∧ iv = .int .i64 i ∧ Hid (∀ j, j < i → okId (zs.getD j 0)) ∧ wr = w) (fun iv _ => n - (intOf iv).toNat)
  case atStart => exact ⟨0, Nat.zero_le _, rfl, hid (fun j hj => by omega), rfl⟩
  case round =>
    obtain ⟨i, hi, rfl, HA, rfl⟩ := hrel
    by_cases hin : i < n
    · have HK1 : Hid (i + 1 ≤ n) := hin
      have HMS : Hid (n - (i + 1) < n - i) := by unfold Hid; omega
      have hii : (i : Int) < (n : Int) := by omega
      obtain ⟨e1, rfl | ⟨b, off, rfl, hl, hc⟩⟩ := HS.out
      · simp at e1; omega
      · have c0 := hc i (by omega)
        obtain ⟨z, hz⟩ : ∃ z, z = zs.getD i 0 := ⟨_, rfl⟩
        have HM : Hid (z ∈ zs) := by
          rw [hz, List.getD_eq_getElem?_getD, List.getElem?_eq_getElem (by omega)]
          exact List.getElem_mem _
        rw [← hz] at c0
        have HZ := hid hz
        clear hc e1 hin hi hz
        by_cases h1 : z < 1
        · have F : decide (∀ z ∈ zs, okId z) = false := decide_eq_false fun q => by
            have := (q z HM.out).1; omega
          go_wp2
          go_ret
          first | exact ⟨rfl, rfl⟩ | (rw [F]; exact ⟨rfl, rfl⟩)
        · by_cases h2 : (100 : Int) < z
          · have F : decide (∀ z ∈ zs, okId z) = false := decide_eq_false fun q => by
              have := (q z HM.out).2; omega
            go_wp2
            go_ret
            first | exact ⟨rfl, rfl⟩ | (rw [F]; exact ⟨rfl, rfl⟩)
          · have HA2 : Hid (∀ j, j < i + 1 → okId (zs.getD j 0)) := fun j hj => by
              by_cases q : j = i
              · rw [q, ← HZ.out]; exact ⟨by omega, by omega⟩
              · exact HA.out j (by omega)
            go_wp2
            go_roundw
            case rel => exact ⟨i + 1, HK1.out, by go_num, HA2, by trivial⟩
            case measure => have := HMS.out; simp [intOf]; omega
    · have F : decide (∀ z ∈ zs, okId z) = true := decide_eq_true fun z hz => by
        obtain ⟨j, hj, rfl⟩ := List.mem_iff_getElem.1 hz
        have := HA.out j (by have := HS.out.1; omega)
        rw [List.getD_eq_getElem?_getD, List.getElem?_eq_getElem hj] at this
        exact this
      have hii : ¬ (i : Int) < (n : Int) := by omega
      clear hi hin
      go_wp2
      go_ret
      first | exact ⟨rfl, rfl⟩ | (rw [F]; exact ⟨rfl, rfl⟩)
theorem slz_one {W : World} {b : Nat} {x : Int} {T : TypeId} (h : W.heap[b]? = some (.cells #[.int .i64 x] T (0, 0))) : SlZ W (some ⟨b, 0, none⟩) 1 [x] :=
  ⟨rfl, .inr ⟨b, 0, rfl, lt_of_at h, fun j hj => by
    have : j = 0 := by simpa using hj
    subst this
    exact (blk_cell h _).trans rfl⟩⟩
theorem right_one (x : Int) (w : World) (b c : Nat) {T : TypeId} (h : w.heap[b]? = some (.cells #[.int .i64 x] T (0, 0))) : Calls Try.prog 23 #[.slice (some ⟨b, 0, none⟩) 1 c] w fun e w' => e = .returned (.bool (decide (okId x))) ∧ w = w' := by
  have := right_any (cap := c) (slz_one h) (by omega)
  simpa using this
/-- The job is there. -/
def Gr.has (G : Gr) (z : Int) : Prop := okId z ∧ G.st z.toNat ≠ 0
instance (G : Gr) (z : Int) : Decidable (G.has z) := by unfold Gr.has; infer_instance
set_option maxRecDepth 20000 in
set_option maxHeartbeats 2000000 in
theorem at_no (h : GrV B w H R G) (x : Int) (hx : ¬ G.has x) : Calls Try.prog 29 #[.pointer (some ⟨H, 0, none⟩), .int .i64 x] w fun e w' => e = .returned (.pointer none) ∧ Below w.heap.size w w' := by
  have HH := hid h
  have HR : Hid (∀ W b c, W.heap[b]? = some (.cells #[.int .i64 x] 2 (0, 0)) → Calls Try.prog 23 #[.slice (some ⟨b, 0, none⟩) 1 c] W fun e w' => e = .returned (.bool (decide (okId x))) ∧ W = w') := fun W b c hb => right_one x W b c hb
  by_cases hk : okId x
  · have HZ : G.st x.toNat = 0 := by
      by_cases q : G.st x.toNat = 0
      · exact q
      · exact absurd ⟨hk, q⟩ hx
    obtain ⟨y, rfl⟩ : ∃ y : Nat, x = (y : Int) := ⟨x.toNat, by have := hk.1; omega⟩
    have c0 := (h.cells (i := y) (by have := hk.2; omega)).1
    rw [show ((y : Int).toNat) = y by omega] at HZ
    rw [HZ] at c0
    rw [decide_eq_true hk] at HR
    have hy : (y : Int) < 101 := by have := hk.2; omega
    have hlH := h.ltH
    clear h hx hk HZ
    go_enter Try.func29, Try.ntmps29
    go_wp2_with fail
    refine (HR.out _ _ _ (by (repeat (first | (with_reducible assumption) | (with_reducible exact alloc_at _ _) | ((with_reducible apply alloc_at'); (simp; done)) | (with_reducible apply alloc_at_lt) | (with_reducible apply heap_drew_at) | (with_reducible apply heap_drewN_at) | (with_reducible apply heap_setCell_same) | ((with_reducible apply heap_set_ne); (first | omega | (dsimp only; omega) | (simp; done) | (simp; omega))) | (with_reducible apply setRow_at) | ((with_reducible apply setRow_ne); (first | omega | (dsimp only; omega) | (simp; done) | (simp; omega))))))).mono ?_
    rintro e w1 ⟨rfl, rfl⟩
    go_wp2
    go_ret
    exact ⟨rfl, (by repeat (first | with_reducible assumption | with_reducible exact Below.refl _ _ | with_reducible refine Below.drew ?_ | with_reducible refine below_drewN ?_ _ | with_reducible refine below_alloc ?_ _ | with_reducible refine Below.alloc ?_ (by first | omega | (simp; done) | (simp; omega)) _ | with_reducible refine Below.setCell ?_ (by first | omega | (simp; done) | (simp; omega)) _ | with_reducible refine below_setRow ?_ (by first | omega | (simp; done) | (simp; omega)) _))⟩
  · rw [decide_eq_false hk] at HR
    clear h hx hk
    go_enter Try.func29, Try.ntmps29
    go_wp2_with fail
    refine (HR.out _ _ _ (by (repeat (first | (with_reducible assumption) | (with_reducible exact alloc_at _ _) | ((with_reducible apply alloc_at'); (simp; done)) | (with_reducible apply alloc_at_lt) | (with_reducible apply heap_drew_at) | (with_reducible apply heap_drewN_at) | (with_reducible apply heap_setCell_same) | ((with_reducible apply heap_set_ne); (first | omega | (dsimp only; omega) | (simp; done) | (simp; omega))) | (with_reducible apply setRow_at) | ((with_reducible apply setRow_ne); (first | omega | (dsimp only; omega) | (simp; done) | (simp; omega))))))).mono ?_
    rintro e w1 ⟨rfl, rfl⟩
    go_wp2
    go_ret
    exact ⟨rfl, (by repeat (first | with_reducible assumption | with_reducible exact Below.refl _ _ | with_reducible refine Below.drew ?_ | with_reducible refine below_drewN ?_ _ | with_reducible refine below_alloc ?_ _ | with_reducible refine Below.alloc ?_ (by first | omega | (simp; done) | (simp; omega)) _ | with_reducible refine Below.setCell ?_ (by first | omega | (simp; done) | (simp; omega)) _ | with_reducible refine below_setRow ?_ (by first | omega | (simp; done) | (simp; omega)) _))⟩
set_option maxRecDepth 20000 in
set_option maxHeartbeats 2000000 in
theorem at_yes (h : GrV B w H R G) {y : Nat} (hy1 : 1 ≤ y) (hy2 : y ≤ 100) (hs : G.st y ≠ 0) : Calls Try.prog 29 #[.pointer (some ⟨H, 0, none⟩), .int .i64 y] w fun e w' => e = .returned (.pointer (some ⟨H, y * 4, none⟩)) ∧ Below w.heap.size w w' := by
  have HR : Hid (∀ W b c, W.heap[b]? = some (.cells #[.int .i64 (y : Int)] 2 (0, 0)) → Calls Try.prog 23 #[.slice (some ⟨b, 0, none⟩) 1 c] W fun e w' => e = .returned (.bool true) ∧ W = w') := fun W b c hb => by
    have := right_one (y : Int) W b c hb
    have hok : okId (y : Int) := ⟨by omega, by omega⟩
    rw [decide_eq_true hok] at this
    exact this
  have c0 := (h.cells (i := y) (by omega)).1
  have hy : (y : Int) < 101 := by omega
  have hlH := h.ltH
  have hne : ((((G.st y : Nat) : Int)) == 0) = false := by simp; omega
  generalize ((G.st y : Nat) : Int) = s at *
  clear h hs hy1 hy2
  go_enter Try.func29, Try.ntmps29
  go_wp2_with fail
  refine (HR.out _ _ _ (by (repeat (first | (with_reducible assumption) | (with_reducible exact alloc_at _ _) | ((with_reducible apply alloc_at'); (simp; done)) | (with_reducible apply alloc_at_lt) | (with_reducible apply heap_drew_at) | (with_reducible apply heap_drewN_at) | (with_reducible apply heap_setCell_same) | ((with_reducible apply heap_set_ne); (first | omega | (dsimp only; omega) | (simp; done) | (simp; omega))) | (with_reducible apply setRow_at) | ((with_reducible apply setRow_ne); (first | omega | (dsimp only; omega) | (simp; done) | (simp; omega))))))).mono ?_
  rintro e w1 ⟨rfl, rfl⟩
  go_wp2
  go_ret
  exact ⟨rfl, (by repeat (first | with_reducible assumption | with_reducible exact Below.refl _ _ | with_reducible refine Below.drew ?_ | with_reducible refine below_drewN ?_ _ | with_reducible refine below_alloc ?_ _ | with_reducible refine Below.alloc ?_ (by first | omega | (simp; done) | (simp; omega)) _ | with_reducible refine Below.setCell ?_ (by first | omega | (simp; done) | (simp; omega)) _ | with_reducible refine below_setRow ?_ (by first | omega | (simp; done) | (simp; omega)) _))⟩
theorem Gr.has_nat {z : Int} (h : G.has z) : ∃ y : Nat, z = (y : Int) ∧ 1 ≤ y ∧ y ≤ 100 ∧ G.st y ≠ 0 := by
  obtain ⟨⟨h1, h2⟩, h3⟩ := h
  exact ⟨z.toNat, by omega, by omega, by omega, h3⟩
/-- Is a job free? -/
def Gr.freeZ (G : Gr) (z : Int) : Prop := G.has z ∧ G.st z.toNat = 1 ∧ G.pe z.toNat = 0
instance (G : Gr) (z : Int) : Decidable (G.freeZ z) := by unfold Gr.freeZ; infer_instance
def Gr.freeB (G : Gr) (z : Int) : Bool := decide (G.freeZ z)
theorem row_base {b b' n z : Nat} {v : Value} {T : TypeId} {xs : List Value} (h : w.ownsRow b T z v n xs) (hb : b' ≤ b) : w.ownsRow b' T z v n xs := by
  obtain ⟨h1, h2 | ⟨g, cap, cur, rfl, hg, rest⟩⟩ := h
  · exact ⟨h1, .inl h2⟩
  · exact ⟨h1, .inr ⟨g, cap, cur, rfl, Nat.le_trans hb hg, rest⟩⟩
set_option maxRecDepth 20000 in
set_option maxHeartbeats 2000000 in
theorem free_g (h : GrV B w H R G) (x : Int) : Calls Try.prog 16 #[.pointer (some ⟨H, 0, none⟩), .int .i64 x] w fun e w' => e = .returned (.bool (G.freeB x)) ∧ Below w.heap.size w w' := by
  by_cases hx : G.has x
  · obtain ⟨y, rfl, hy1, hy2, hs⟩ := Gr.has_nat hx
    have HA := hid (at_yes h hy1 hy2 hs)
    have HH := hid h
    have HY := hid hy2
    have HV : Hid (G.freeB (y : Int) = decide (((G.st y : Nat) : Int) = 1 ∧ G.pe y = 0)) := by
      unfold Gr.freeB
      by_cases q : ((G.st y : Nat) : Int) = 1 ∧ G.pe y = 0
      · rw [decide_eq_true q]
        refine decide_eq_true ⟨hx, ?_, ?_⟩
        · rw [show ((y : Int).toNat) = y by omega]; omega
        · rw [show ((y : Int).toNat) = y by omega]; exact q.2
      · rw [decide_eq_false q]
        refine decide_eq_false fun z => q ?_
        obtain ⟨-, z1, z2⟩ := z
        rw [show ((y : Int).toNat) = y by omega] at z1 z2
        exact ⟨by omega, z2⟩
    generalize G.freeB (y : Int) = r at *
    clear h hx hy1 hy2 hs
    go_enter Try.func16, Try.ntmps16
    go_wp2_with fail
    refine HA.out.mono ?_
    rintro e w1 ⟨rfl, hb1⟩
    have HH1 := hid (HH.out.below hb1)
    obtain ⟨c0, -, -, c3⟩ := HH1.out.cells (i := y) (by have := HY.out; omega)
    have HB1 := hid hb1
    generalize ((G.st y : Nat) : Int) = s at *
    generalize G.pe y = p at *
    clear hb1 HA
    by_cases e1 : s = 1
    · subst e1
      by_cases e2 : p = 0
      · subst e2
        have F : r = true := by rw [HV.out]; simp
        go_wp2
        go_ret
        exact ⟨by first | rfl | (rw [F]; rfl) | rw [F], HB1.out⟩
      · have F : r = false := by rw [HV.out]; simp [e2]
        have e2' : (p == 0) = false := by simpa using e2
        go_wp2
        go_ret
        exact ⟨by first | rfl | (rw [F]; rfl) | rw [F], HB1.out⟩
    · have F : r = false := by rw [HV.out]; simp [e1]
      have e1' : (s == 1) = false := by simpa using e1
      go_wp2
      go_ret
      exact ⟨by first | rfl | (rw [F]; rfl) | rw [F], HB1.out⟩
  · have HA := hid (at_no h x hx)
    have F : G.freeB x = false := by
      unfold Gr.freeB
      exact decide_eq_false fun q => hx q.1
    rw [F]
    clear h hx F
    go_enter Try.func16, Try.ntmps16
    go_wp2_with fail
    refine HA.out.mono ?_
    rintro e w1 ⟨rfl, hb1⟩
    have HB1 := hid hb1
    clear hb1 HA
    go_wp2
    go_ret
    exact ⟨rfl, HB1.out⟩
theorem slz_row {n : Nat} {A : Option Addr} {cap : Nat} {zs : List Int} (h : w.ownsRow B 2 1 (.slice A n cap) n (rowZ zs)) : SlZ w A n zs := by
  have hl : zs.length = n := by have := h.1; simpa using this
  refine ⟨hl.symm, ?_⟩
  by_cases h0 : zs = []
  · exact .inl h0
  · have : 0 < zs.length := List.length_pos_iff.2 h0
    obtain ⟨g, c, e, -, hg, -, hc⟩ := getD_row h (by omega)
    injection e with e1 e2 e3
    exact .inr ⟨g, 0, e1, hg, fun j hj => by rw [Nat.zero_add]; exact hc j (by omega)⟩
set_option maxRecDepth 20000 in
set_option maxHeartbeats 2000000 in
theorem parents_no (h : GrV B w H R G) (x : Int) (hx : ¬ G.has x) : Calls Try.prog 13 #[.pointer (some ⟨H, 0, none⟩), .int .i64 x] w fun e w' => e = .returned (.tuple #[.slice none 0 0, .int .i64 3]) ∧ Below w.heap.size w w' := by
  have HA := hid (at_no h x hx)
  clear h hx
  go_enter Try.func13, Try.ntmps13
  go_wp2_with fail
  refine HA.out.mono ?_
  rintro e w1 ⟨rfl, hb1⟩
  have HB1 := hid hb1
  clear hb1 HA
  go_wp2
  go_ret2
  exact ⟨rfl, HB1.out⟩
set_option maxRecDepth 20000 in
set_option maxHeartbeats 2000000 in
theorem parents_yes (h : GrV B w H R G) (ok : G.Ok) {y : Nat} (hy1 : 1 ≤ y) (hy2 : y ≤ 100) (hs : G.st y ≠ 0) : Calls Try.prog 13 #[.pointer (some ⟨H, 0, none⟩), .int .i64 y] w fun e w' => (∃ v', e = .returned (.tuple #[v', .int .i64 0]) ∧ w'.ownsRow w.heap.size 2 1 v' (G.pa y).length (rowD (G.pa y))) ∧ Below w.heap.size w w' := by
  have HA := hid (at_yes h hy1 hy2 hs)
  have HH := hid h
  have HY := hid hy2
  have HL := hid (ok.pal y)
  have hlH := h.ltH
  clear h hy1 hy2 hs ok
  go_enter Try.func13, Try.ntmps13
  go_wp2_with fail
  refine HA.out.mono ?_
  rintro e w1 ⟨rfl, hb1⟩
  have HH1 := hid (HH.out.below hb1)
  obtain ⟨-, c1, -, -⟩ := HH1.out.cells (i := y) (by have := HY.out; omega)
  have hr := HH1.out.rw (2 * y) (by have := HY.out; omega)
  obtain ⟨A, cap, eA⟩ := row_shape hr
  rw [eA] at c1 hr
  have HCL := hid (clone_row (cap := cap) (slz_row hr) (by have := HL.out; unfold Gr.pa at this; omega))
  have HB1 := hid hb1
  have HS1 : Hid (w.heap.size ≤ w1.heap.size) := hb1.size
  clear hb1 HA hr
  go_wp2_with fail
  refine HCL.out.mono ?_
  rintro e w2 ⟨v', rfl, hrow, hb2⟩
  have HROW := hid hrow
  have HB2 := hid (HB1.out.trans (hb2.mono HS1.out))
  clear HCL hrow hb2
  go_wp2
  go_ret2
  refine ⟨⟨_, rfl, ?_⟩, HB2.out⟩
  exact row_base HROW.out HS1.out
end Go.Proofs.Ytolfioiccmmifaa
