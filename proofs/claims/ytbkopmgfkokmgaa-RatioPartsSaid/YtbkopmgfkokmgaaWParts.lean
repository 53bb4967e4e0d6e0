/- The walk of RatioParts: a sum times a number is the sum of the products, and divided by it again it is the sum. Asked: that the numbers are words. -/
import Derived.Test.YtbkopmgfkokmgaaWRBack
import Derived.Deep.DeepCutAuto
namespace Go.Proofs.Ytbkopmgfkokmgaa
open Go.RowKit
set_option maxRecDepth 100000 in
set_option maxHeartbeats 4000000 in
theorem parts_r1 (an ad bn bd cn cd sn sd pn pd xn xd yn yd zn zd e1 e2 e3 e4 e5 : Int) (w : World) (hq : (e1 != 0) = true)
    (HA : Hid (∀ W, Calls Try.prog 15 #[.agg #[.int .u64 an, .int .u64 ad], .agg #[.int .u64 bn, .int .u64 bd]] W fun e w' => e = .returned (.tuple #[.agg #[.int .u64 sn, .int .u64 sd], .int .i64 e1]) ∧ Below W.heap.size W w')) (HP : Hid (∀ W, Calls Try.prog 16 #[.agg #[.int .u64 sn, .int .u64 sd], .agg #[.int .u64 cn, .int .u64 cd]] W fun e w' => e = .returned (.tuple #[.agg #[.int .u64 pn, .int .u64 pd], .int .i64 e2]) ∧ Below W.heap.size W w')) (HX : Hid (∀ W, Calls Try.prog 16 #[.agg #[.int .u64 an, .int .u64 ad], .agg #[.int .u64 cn, .int .u64 cd]] W fun e w' => e = .returned (.tuple #[.agg #[.int .u64 xn, .int .u64 xd], .int .i64 e3]) ∧ Below W.heap.size W w')) (HY : Hid (∀ W, Calls Try.prog 16 #[.agg #[.int .u64 bn, .int .u64 bd], .agg #[.int .u64 cn, .int .u64 cd]] W fun e w' => e = .returned (.tuple #[.agg #[.int .u64 yn, .int .u64 yd], .int .i64 e4]) ∧ Below W.heap.size W w')) (HZ : Hid (∀ W, Calls Try.prog 15 #[.agg #[.int .u64 xn, .int .u64 xd], .agg #[.int .u64 yn, .int .u64 yd]] W fun e w' => e = .returned (.tuple #[.agg #[.int .u64 zn, .int .u64 zd], .int .i64 e5]) ∧ Below W.heap.size W w')) :
    Calls Try.prog 5 #[.agg #[.int .u64 an, .int .u64 ad, .int .u64 bn, .int .u64 bd, .int .u64 cn, .int .u64 cd]] w fun e w' => e = .returned (.bool true) ∧ Below w.heap.size w w' := by
  go_enter Try.func5, Try.ntmps5
  go_upto_region 1 with fail
  obtain ⟨wo, hwo⟩ : ∃ wo : World, wo = w.alloc (.cells #[.int .u64 an, .int .u64 ad, .int .u64 bn, .int .u64 bd, .int .u64 cn, .int .u64 cd] 38) := ⟨_, rfl⟩
  rw [← hwo]
  have hT : wo.heap[w.heap.size]? = some (.cells #[.int .u64 an, .int .u64 ad, .int .u64 bn, .int .u64 bd, .int .u64 cn, .int .u64 cd] 38 (0, 0)) := by rw [hwo]; exact alloc_at _ _
  have hB0 : Below w.heap.size w wo := by rw [hwo]; exact (by repeat (first | with_reducible assumption | with_reducible exact Below.refl _ _ | with_reducible refine Below.drew ?_ | with_reducible refine below_drewN ?_ _ | with_reducible refine below_alloc ?_ _ | with_reducible refine Below.alloc ?_ (by first | omega | (simp; done) | (simp; omega)) _ | with_reducible refine Below.setCell ?_ (by first | omega | (simp; done) | (simp; omega)) _ | with_reducible refine below_setRow ?_ (by first | omega | (simp; done) | (simp; omega)) _))
  have hs0 : w.heap.size < wo.heap.size := by rw [hwo]; simp
  have c0 := blk_cell hT 0
  have c1 := blk_cell hT 1
  have c2 := blk_cell hT 2
  have c3 := blk_cell hT 3
  have c4 := blk_cell hT 4
  have c5 := blk_cell hT 5
  simp at c0 c1 c2 c3 c4 c5
  clear hwo hT
  go_cut [3, 4, 5] (fun s5 s6 s7 wx => ∃ x y z : Nat, s5 = .pointer (some ⟨x, 0, none⟩) ∧ s6 = .pointer (some ⟨y, 0, none⟩) ∧ s7 = .pointer (some ⟨z, 0, none⟩) ∧ Below w.heap.size w wx ∧
    wx.heap[x]? = some (.cells #[.int .u64 an, .int .u64 ad] 24 (0, 0)) ∧ wx.heap[y]? = some (.cells #[.int .u64 bn, .int .u64 bd] 24 (0, 0)) ∧ wx.heap[z]? = some (.cells #[.int .u64 cn, .int .u64 cd] 24 (0, 0)))
  case first =>
    go_region_held3 (fun w' => Below wo.heap.size wo w' ∧ (∀ b o, b < wo.heap.size → w'.cell? ⟨b, o, none⟩ = wo.cell? ⟨b, o, none⟩) ∧ ∀ b o, b < wo.heap.size → w'.frozen? ⟨b, o, none⟩ = wo.frozen? ⟨b, o, none⟩) (first | ((try go_split_ands); (try dsimp only); refine same_of ?_; (repeat (first | with_reducible assumption | with_reducible exact Below.refl _ _ | with_reducible refine Below.drew ?_ | with_reducible refine below_drewN ?_ _ | with_reducible refine below_alloc ?_ _ | with_reducible refine Below.alloc ?_ (by first | omega | (simp; done) | (simp; omega)) _ | with_reducible refine Below.setCell ?_ (by first | omega | (simp; done) | (simp; omega)) _ | with_reducible refine below_setRow ?_ (by first | omega | (simp; done) | (simp; omega)) _)); done)) (fail)
    all_goals (go_wp2_with fail; go_meet; exact ⟨_, _, _, rfl, rfl, rfl, (by repeat (first | with_reducible assumption | with_reducible exact Below.refl _ _ | with_reducible refine Below.drew ?_ | with_reducible refine below_drewN ?_ _ | with_reducible refine below_alloc ?_ _ | with_reducible refine Below.alloc ?_ (by first | omega | (simp; done) | (simp; omega)) _ | with_reducible refine Below.setCell ?_ (by first | omega | (simp; done) | (simp; omega)) _ | with_reducible refine below_setRow ?_ (by first | omega | (simp; done) | (simp; omega)) _)), (by (repeat (first | (with_reducible assumption) | (with_reducible exact alloc_at _ _) | ((with_reducible apply alloc_at'); (simp; done)) | (with_reducible apply alloc_at_lt) | (with_reducible apply heap_drew_at) | (with_reducible apply heap_drewN_at) | (with_reducible apply heap_setCell_same) | ((with_reducible apply heap_set_ne); (first | omega | (dsimp only; omega) | (simp; done) | (simp; omega))) | (with_reducible apply setRow_at) | ((with_reducible apply setRow_ne); (first | omega | (dsimp only; omega) | (simp; done) | (simp; omega)))))), (by (repeat (first | (with_reducible assumption) | (with_reducible exact alloc_at _ _) | ((with_reducible apply alloc_at'); (simp; done)) | (with_reducible apply alloc_at_lt) | (with_reducible apply heap_drew_at) | (with_reducible apply heap_drewN_at) | (with_reducible apply heap_setCell_same) | ((with_reducible apply heap_set_ne); (first | omega | (dsimp only; omega) | (simp; done) | (simp; omega))) | (with_reducible apply setRow_at) | ((with_reducible apply setRow_ne); (first | omega | (dsimp only; omega) | (simp; done) | (simp; omega)))))), (by (repeat (first | (with_reducible assumption) | (with_reducible exact alloc_at _ _) | ((with_reducible apply alloc_at'); (simp; done)) | (with_reducible apply alloc_at_lt) | (with_reducible apply heap_drew_at) | (with_reducible apply heap_drewN_at) | (with_reducible apply heap_setCell_same) | ((with_reducible apply heap_set_ne); (first | omega | (dsimp only; omega) | (simp; done) | (simp; omega))) | (with_reducible apply setRow_at) | ((with_reducible apply setRow_ne); (first | omega | (dsimp only; omega) | (simp; done) | (simp; omega))))))⟩)
  case rest =>
    obtain ⟨x, y, z, rfl, rfl, rfl, hB, hX, hY, hZ⟩ := hcut
    clear c0 c1 c2 c3 c4 c5 hB0 hs0 wo
    have hx := lt_of_at hX
    have hy := lt_of_at hY
    have hz := lt_of_at hZ
    have hsz := hB.size
    go_wp2_with fail
    refine (awake2_any _).mono ?_
    rintro e w1 ⟨rfl, hb1⟩
    have hs1 := hb1.size
    try simp only [World.size_alloc, World.size_setCell] at hs1
    have A_1 : w1.heap[x]? = some (.cells #[.int .u64 an, .int .u64 ad] 24 (0, 0)) := below_at hb1 (by first | omega | (simp; done) | (simp; omega)) (by (repeat (first | (with_reducible assumption) | (with_reducible exact alloc_at _ _) | ((with_reducible apply alloc_at'); (simp; done)) | (with_reducible apply alloc_at_lt) | (with_reducible apply heap_drew_at) | (with_reducible apply heap_drewN_at) | (with_reducible apply heap_setCell_same) | ((with_reducible apply heap_set_ne); (first | omega | (dsimp only; omega) | (simp; done) | (simp; omega))) | (with_reducible apply setRow_at) | ((with_reducible apply setRow_ne); (first | omega | (dsimp only; omega) | (simp; done) | (simp; omega))))))
    have B_1 : w1.heap[y]? = some (.cells #[.int .u64 bn, .int .u64 bd] 24 (0, 0)) := below_at hb1 (by first | omega | (simp; done) | (simp; omega)) (by (repeat (first | (with_reducible assumption) | (with_reducible exact alloc_at _ _) | ((with_reducible apply alloc_at'); (simp; done)) | (with_reducible apply alloc_at_lt) | (with_reducible apply heap_drew_at) | (with_reducible apply heap_drewN_at) | (with_reducible apply heap_setCell_same) | ((with_reducible apply heap_set_ne); (first | omega | (dsimp only; omega) | (simp; done) | (simp; omega))) | (with_reducible apply setRow_at) | ((with_reducible apply setRow_ne); (first | omega | (dsimp only; omega) | (simp; done) | (simp; omega))))))
    have C_1 : w1.heap[z]? = some (.cells #[.int .u64 cn, .int .u64 cd] 24 (0, 0)) := below_at hb1 (by first | omega | (simp; done) | (simp; omega)) (by (repeat (first | (with_reducible assumption) | (with_reducible exact alloc_at _ _) | ((with_reducible apply alloc_at'); (simp; done)) | (with_reducible apply alloc_at_lt) | (with_reducible apply heap_drew_at) | (with_reducible apply heap_drewN_at) | (with_reducible apply heap_setCell_same) | ((with_reducible apply heap_set_ne); (first | omega | (dsimp only; omega) | (simp; done) | (simp; omega))) | (with_reducible apply setRow_at) | ((with_reducible apply setRow_ne); (first | omega | (dsimp only; omega) | (simp; done) | (simp; omega))))))
    have B1 : Below w.heap.size w w1 := Below.trans (by repeat (first | with_reducible assumption | with_reducible exact Below.refl _ _ | with_reducible refine Below.drew ?_ | with_reducible refine below_drewN ?_ _ | with_reducible refine below_alloc ?_ _ | with_reducible refine Below.alloc ?_ (by first | omega | (simp; done) | (simp; omega)) _ | with_reducible refine Below.setCell ?_ (by first | omega | (simp; done) | (simp; omega)) _ | with_reducible refine below_setRow ?_ (by first | omega | (simp; done) | (simp; omega)) _)) (hb1.mono (by first | omega | (simp; done) | (simp; omega)))
    clear hb1
    have Ac0 : w1.cell? ⟨x, 0, none⟩ = some (.int .u64 an) := (blk_cell A_1 0).trans rfl
    have Ac1 : w1.cell? ⟨x, 1, none⟩ = some (.int .u64 ad) := (blk_cell A_1 1).trans rfl
    have Acf := blk_free A_1
    have Bc0 : w1.cell? ⟨y, 0, none⟩ = some (.int .u64 bn) := (blk_cell B_1 0).trans rfl
    have Bc1 : w1.cell? ⟨y, 1, none⟩ = some (.int .u64 bd) := (blk_cell B_1 1).trans rfl
    have Bcf := blk_free B_1
    have Cc0 : w1.cell? ⟨z, 0, none⟩ = some (.int .u64 cn) := (blk_cell C_1 0).trans rfl
    have Cc1 : w1.cell? ⟨z, 1, none⟩ = some (.int .u64 cd) := (blk_cell C_1 1).trans rfl
    have Ccf := blk_free C_1
    have Al1 : x < w1.heap.size := by omega
    have Bl1 : y < w1.heap.size := by omega
    have Cl1 : z < w1.heap.size := by omega
    go_wp2_with fail
    refine (HA.out _).mono ?_
    rintro e w2 ⟨rfl, hb2⟩
    have hs2 := hb2.size
    try simp only [World.size_alloc, World.size_setCell] at hs2
    have A_2 : w2.heap[x]? = some (.cells #[.int .u64 an, .int .u64 ad] 24 (0, 0)) := below_at hb2 (by first | omega | (simp; done) | (simp; omega)) (by (repeat (first | (with_reducible assumption) | (with_reducible exact alloc_at _ _) | ((with_reducible apply alloc_at'); (simp; done)) | (with_reducible apply alloc_at_lt) | (with_reducible apply heap_drew_at) | (with_reducible apply heap_drewN_at) | (with_reducible apply heap_setCell_same) | ((with_reducible apply heap_set_ne); (first | omega | (dsimp only; omega) | (simp; done) | (simp; omega))) | (with_reducible apply setRow_at) | ((with_reducible apply setRow_ne); (first | omega | (dsimp only; omega) | (simp; done) | (simp; omega))))))
    have B_2 : w2.heap[y]? = some (.cells #[.int .u64 bn, .int .u64 bd] 24 (0, 0)) := below_at hb2 (by first | omega | (simp; done) | (simp; omega)) (by (repeat (first | (with_reducible assumption) | (with_reducible exact alloc_at _ _) | ((with_reducible apply alloc_at'); (simp; done)) | (with_reducible apply alloc_at_lt) | (with_reducible apply heap_drew_at) | (with_reducible apply heap_drewN_at) | (with_reducible apply heap_setCell_same) | ((with_reducible apply heap_set_ne); (first | omega | (dsimp only; omega) | (simp; done) | (simp; omega))) | (with_reducible apply setRow_at) | ((with_reducible apply setRow_ne); (first | omega | (dsimp only; omega) | (simp; done) | (simp; omega))))))
    have C_2 : w2.heap[z]? = some (.cells #[.int .u64 cn, .int .u64 cd] 24 (0, 0)) := below_at hb2 (by first | omega | (simp; done) | (simp; omega)) (by (repeat (first | (with_reducible assumption) | (with_reducible exact alloc_at _ _) | ((with_reducible apply alloc_at'); (simp; done)) | (with_reducible apply alloc_at_lt) | (with_reducible apply heap_drew_at) | (with_reducible apply heap_drewN_at) | (with_reducible apply heap_setCell_same) | ((with_reducible apply heap_set_ne); (first | omega | (dsimp only; omega) | (simp; done) | (simp; omega))) | (with_reducible apply setRow_at) | ((with_reducible apply setRow_ne); (first | omega | (dsimp only; omega) | (simp; done) | (simp; omega))))))
    have B2 : Below w.heap.size w w2 := Below.trans (by repeat (first | with_reducible assumption | with_reducible exact Below.refl _ _ | with_reducible refine Below.drew ?_ | with_reducible refine below_drewN ?_ _ | with_reducible refine below_alloc ?_ _ | with_reducible refine Below.alloc ?_ (by first | omega | (simp; done) | (simp; omega)) _ | with_reducible refine Below.setCell ?_ (by first | omega | (simp; done) | (simp; omega)) _ | with_reducible refine below_setRow ?_ (by first | omega | (simp; done) | (simp; omega)) _)) (hb2.mono (by first | omega | (simp; done) | (simp; omega)))
    clear hb2 A_1 B_1 C_1
    clear Ac0 Ac1 Acf
    clear Bc0 Bc1 Bcf
    clear Cc0 Cc1 Ccf
    have Ac0 : w2.cell? ⟨x, 0, none⟩ = some (.int .u64 an) := (blk_cell A_2 0).trans rfl
    have Ac1 : w2.cell? ⟨x, 1, none⟩ = some (.int .u64 ad) := (blk_cell A_2 1).trans rfl
    have Acf := blk_free A_2
    have Bc0 : w2.cell? ⟨y, 0, none⟩ = some (.int .u64 bn) := (blk_cell B_2 0).trans rfl
    have Bc1 : w2.cell? ⟨y, 1, none⟩ = some (.int .u64 bd) := (blk_cell B_2 1).trans rfl
    have Bcf := blk_free B_2
    have Cc0 : w2.cell? ⟨z, 0, none⟩ = some (.int .u64 cn) := (blk_cell C_2 0).trans rfl
    have Cc1 : w2.cell? ⟨z, 1, none⟩ = some (.int .u64 cd) := (blk_cell C_2 1).trans rfl
    have Ccf := blk_free C_2
    have Al2 : x < w2.heap.size := by omega
    have Bl2 : y < w2.heap.size := by omega
    have Cl2 : z < w2.heap.size := by omega
    go_wp2_with fail
    refine (HP.out _).mono ?_
    rintro e w3 ⟨rfl, hb3⟩
    have hs3 := hb3.size
    try simp only [World.size_alloc, World.size_setCell] at hs3
    have A_3 : w3.heap[x]? = some (.cells #[.int .u64 an, .int .u64 ad] 24 (0, 0)) := below_at hb3 (by first | omega | (simp; done) | (simp; omega)) (by (repeat (first | (with_reducible assumption) | (with_reducible exact alloc_at _ _) | ((with_reducible apply alloc_at'); (simp; done)) | (with_reducible apply alloc_at_lt) | (with_reducible apply heap_drew_at) | (with_reducible apply heap_drewN_at) | (with_reducible apply heap_setCell_same) | ((with_reducible apply heap_set_ne); (first | omega | (dsimp only; omega) | (simp; done) | (simp; omega))) | (with_reducible apply setRow_at) | ((with_reducible apply setRow_ne); (first | omega | (dsimp only; omega) | (simp; done) | (simp; omega))))))
    have B_3 : w3.heap[y]? = some (.cells #[.int .u64 bn, .int .u64 bd] 24 (0, 0)) := below_at hb3 (by first | omega | (simp; done) | (simp; omega)) (by (repeat (first | (with_reducible assumption) | (with_reducible exact alloc_at _ _) | ((with_reducible apply alloc_at'); (simp; done)) | (with_reducible apply alloc_at_lt) | (with_reducible apply heap_drew_at) | (with_reducible apply heap_drewN_at) | (with_reducible apply heap_setCell_same) | ((with_reducible apply heap_set_ne); (first | omega | (dsimp only; omega) | (simp; done) | (simp; omega))) | (with_reducible apply setRow_at) | ((with_reducible apply setRow_ne); (first | omega | (dsimp only; omega) | (simp; done) | (simp; omega))))))
    have C_3 : w3.heap[z]? = some (.cells #[.int .u64 cn, .int .u64 cd] 24 (0, 0)) := below_at hb3 (by first | omega | (simp; done) | (simp; omega)) (by (repeat (first | (with_reducible assumption) | (with_reducible exact alloc_at _ _) | ((with_reducible apply alloc_at'); (simp; done)) | (with_reducible apply alloc_at_lt) | (with_reducible apply heap_drew_at) | (with_reducible apply heap_drewN_at) | (with_reducible apply heap_setCell_same) | ((with_reducible apply heap_set_ne); (first | omega | (dsimp only; omega) | (simp; done) | (simp; omega))) | (with_reducible apply setRow_at) | ((with_reducible apply setRow_ne); (first | omega | (dsimp only; omega) | (simp; done) | (simp; omega))))))
    have S_3 : w3.heap[w2.heap.size]? = some (.cells #[.int .u64 sn, .int .u64 sd] 24 (0, 0)) := below_at hb3 (by first | omega | (simp; done) | (simp; omega)) (by (repeat (first | (with_reducible assumption) | (with_reducible exact alloc_at _ _) | ((with_reducible apply alloc_at'); (simp; done)) | (with_reducible apply alloc_at_lt) | (with_reducible apply heap_drew_at) | (with_reducible apply heap_drewN_at) | (with_reducible apply heap_setCell_same) | ((with_reducible apply heap_set_ne); (first | omega | (dsimp only; omega) | (simp; done) | (simp; omega))) | (with_reducible apply setRow_at) | ((with_reducible apply setRow_ne); (first | omega | (dsimp only; omega) | (simp; done) | (simp; omega))))))
    have B3 : Below w.heap.size w w3 := Below.trans (by repeat (first | with_reducible assumption | with_reducible exact Below.refl _ _ | with_reducible refine Below.drew ?_ | with_reducible refine below_drewN ?_ _ | with_reducible refine below_alloc ?_ _ | with_reducible refine Below.alloc ?_ (by first | omega | (simp; done) | (simp; omega)) _ | with_reducible refine Below.setCell ?_ (by first | omega | (simp; done) | (simp; omega)) _ | with_reducible refine below_setRow ?_ (by first | omega | (simp; done) | (simp; omega)) _)) (hb3.mono (by first | omega | (simp; done) | (simp; omega)))
    clear hb3 A_2 B_2 C_2
    clear Ac0 Ac1 Acf
    clear Bc0 Bc1 Bcf
    clear Cc0 Cc1 Ccf
    have Ac0 : w3.cell? ⟨x, 0, none⟩ = some (.int .u64 an) := (blk_cell A_3 0).trans rfl
    have Ac1 : w3.cell? ⟨x, 1, none⟩ = some (.int .u64 ad) := (blk_cell A_3 1).trans rfl
    have Acf := blk_free A_3
    have Bc0 : w3.cell? ⟨y, 0, none⟩ = some (.int .u64 bn) := (blk_cell B_3 0).trans rfl
    have Bc1 : w3.cell? ⟨y, 1, none⟩ = some (.int .u64 bd) := (blk_cell B_3 1).trans rfl
    have Bcf := blk_free B_3
    have Cc0 : w3.cell? ⟨z, 0, none⟩ = some (.int .u64 cn) := (blk_cell C_3 0).trans rfl
    have Cc1 : w3.cell? ⟨z, 1, none⟩ = some (.int .u64 cd) := (blk_cell C_3 1).trans rfl
    have Ccf := blk_free C_3
    have Sc0 : w3.cell? ⟨w2.heap.size, 0, none⟩ = some (.int .u64 sn) := (blk_cell S_3 0).trans rfl
    have Sc1 : w3.cell? ⟨w2.heap.size, 1, none⟩ = some (.int .u64 sd) := (blk_cell S_3 1).trans rfl
    have Scf := blk_free S_3
    have Al3 : x < w3.heap.size := by omega
    have Bl3 : y < w3.heap.size := by omega
    have Cl3 : z < w3.heap.size := by omega
    have Sl3 : w2.heap.size < w3.heap.size := by omega
    go_wp2_with fail
    refine (HX.out _).mono ?_
    rintro e w4 ⟨rfl, hb4⟩
    have hs4 := hb4.size
    try simp only [World.size_alloc, World.size_setCell] at hs4
    have A_4 : w4.heap[x]? = some (.cells #[.int .u64 an, .int .u64 ad] 24 (0, 0)) := below_at hb4 (by first | omega | (simp; done) | (simp; omega)) (by (repeat (first | (with_reducible assumption) | (with_reducible exact alloc_at _ _) | ((with_reducible apply alloc_at'); (simp; done)) | (with_reducible apply alloc_at_lt) | (with_reducible apply heap_drew_at) | (with_reducible apply heap_drewN_at) | (with_reducible apply heap_setCell_same) | ((with_reducible apply heap_set_ne); (first | omega | (dsimp only; omega) | (simp; done) | (simp; omega))) | (with_reducible apply setRow_at) | ((with_reducible apply setRow_ne); (first | omega | (dsimp only; omega) | (simp; done) | (simp; omega))))))
    have B_4 : w4.heap[y]? = some (.cells #[.int .u64 bn, .int .u64 bd] 24 (0, 0)) := below_at hb4 (by first | omega | (simp; done) | (simp; omega)) (by (repeat (first | (with_reducible assumption) | (with_reducible exact alloc_at _ _) | ((with_reducible apply alloc_at'); (simp; done)) | (with_reducible apply alloc_at_lt) | (with_reducible apply heap_drew_at) | (with_reducible apply heap_drewN_at) | (with_reducible apply heap_setCell_same) | ((with_reducible apply heap_set_ne); (first | omega | (dsimp only; omega) | (simp; done) | (simp; omega))) | (with_reducible apply setRow_at) | ((with_reducible apply setRow_ne); (first | omega | (dsimp only; omega) | (simp; done) | (simp; omega))))))
    have C_4 : w4.heap[z]? = some (.cells #[.int .u64 cn, .int .u64 cd] 24 (0, 0)) := below_at hb4 (by first | omega | (simp; done) | (simp; omega)) (by (repeat (first | (with_reducible assumption) | (with_reducible exact alloc_at _ _) | ((with_reducible apply alloc_at'); (simp; done)) | (with_reducible apply alloc_at_lt) | (with_reducible apply heap_drew_at) | (with_reducible apply heap_drewN_at) | (with_reducible apply heap_setCell_same) | ((with_reducible apply heap_set_ne); (first | omega | (dsimp only; omega) | (simp; done) | (simp; omega))) | (with_reducible apply setRow_at) | ((with_reducible apply setRow_ne); (first | omega | (dsimp only; omega) | (simp; done) | (simp; omega))))))
    have S_4 : w4.heap[w2.heap.size]? = some (.cells #[.int .u64 sn, .int .u64 sd] 24 (0, 0)) := below_at hb4 (by first | omega | (simp; done) | (simp; omega)) (by (repeat (first | (with_reducible assumption) | (with_reducible exact alloc_at _ _) | ((with_reducible apply alloc_at'); (simp; done)) | (with_reducible apply alloc_at_lt) | (with_reducible apply heap_drew_at) | (with_reducible apply heap_drewN_at) | (with_reducible apply heap_setCell_same) | ((with_reducible apply heap_set_ne); (first | omega | (dsimp only; omega) | (simp; done) | (simp; omega))) | (with_reducible apply setRow_at) | ((with_reducible apply setRow_ne); (first | omega | (dsimp only; omega) | (simp; done) | (simp; omega))))))
    have P_4 : w4.heap[w3.heap.size]? = some (.cells #[.int .u64 pn, .int .u64 pd] 24 (0, 0)) := below_at hb4 (by first | omega | (simp; done) | (simp; omega)) (by (repeat (first | (with_reducible assumption) | (with_reducible exact alloc_at _ _) | ((with_reducible apply alloc_at'); (simp; done)) | (with_reducible apply alloc_at_lt) | (with_reducible apply heap_drew_at) | (with_reducible apply heap_drewN_at) | (with_reducible apply heap_setCell_same) | ((with_reducible apply heap_set_ne); (first | omega | (dsimp only; omega) | (simp; done) | (simp; omega))) | (with_reducible apply setRow_at) | ((with_reducible apply setRow_ne); (first | omega | (dsimp only; omega) | (simp; done) | (simp; omega))))))
    have B4 : Below w.heap.size w w4 := Below.trans (by repeat (first | with_reducible assumption | with_reducible exact Below.refl _ _ | with_reducible refine Below.drew ?_ | with_reducible refine below_drewN ?_ _ | with_reducible refine below_alloc ?_ _ | with_reducible refine Below.alloc ?_ (by first | omega | (simp; done) | (simp; omega)) _ | with_reducible refine Below.setCell ?_ (by first | omega | (simp; done) | (simp; omega)) _ | with_reducible refine below_setRow ?_ (by first | omega | (simp; done) | (simp; omega)) _)) (hb4.mono (by first | omega | (simp; done) | (simp; omega)))
    clear hb4 A_3 B_3 C_3 S_3
    clear Ac0 Ac1 Acf
    clear Bc0 Bc1 Bcf
    clear Cc0 Cc1 Ccf
    clear Sc0 Sc1 Scf
    have Ac0 : w4.cell? ⟨x, 0, none⟩ = some (.int .u64 an) := (blk_cell A_4 0).trans rfl
    have Ac1 : w4.cell? ⟨x, 1, none⟩ = some (.int .u64 ad) := (blk_cell A_4 1).trans rfl
    have Acf := blk_free A_4
    have Bc0 : w4.cell? ⟨y, 0, none⟩ = some (.int .u64 bn) := (blk_cell B_4 0).trans rfl
    have Bc1 : w4.cell? ⟨y, 1, none⟩ = some (.int .u64 bd) := (blk_cell B_4 1).trans rfl
    have Bcf := blk_free B_4
    have Cc0 : w4.cell? ⟨z, 0, none⟩ = some (.int .u64 cn) := (blk_cell C_4 0).trans rfl
    have Cc1 : w4.cell? ⟨z, 1, none⟩ = some (.int .u64 cd) := (blk_cell C_4 1).trans rfl
    have Ccf := blk_free C_4
    have Sc0 : w4.cell? ⟨w2.heap.size, 0, none⟩ = some (.int .u64 sn) := (blk_cell S_4 0).trans rfl
    have Sc1 : w4.cell? ⟨w2.heap.size, 1, none⟩ = some (.int .u64 sd) := (blk_cell S_4 1).trans rfl
    have Scf := blk_free S_4
    have Pc0 : w4.cell? ⟨w3.heap.size, 0, none⟩ = some (.int .u64 pn) := (blk_cell P_4 0).trans rfl
    have Pc1 : w4.cell? ⟨w3.heap.size, 1, none⟩ = some (.int .u64 pd) := (blk_cell P_4 1).trans rfl
    have Pcf := blk_free P_4
    have Al4 : x < w4.heap.size := by omega
    have Bl4 : y < w4.heap.size := by omega
    have Cl4 : z < w4.heap.size := by omega
    have Sl4 : w2.heap.size < w4.heap.size := by omega
    have Pl4 : w3.heap.size < w4.heap.size := by omega
    go_wp2_with fail
    refine (HY.out _).mono ?_
    rintro e w5 ⟨rfl, hb5⟩
    have hs5 := hb5.size
    try simp only [World.size_alloc, World.size_setCell] at hs5
    have A_5 : w5.heap[x]? = some (.cells #[.int .u64 an, .int .u64 ad] 24 (0, 0)) := below_at hb5 (by first | omega | (simp; done) | (simp; omega)) (by (repeat (first | (with_reducible assumption) | (with_reducible exact alloc_at _ _) | ((with_reducible apply alloc_at'); (simp; done)) | (with_reducible apply alloc_at_lt) | (with_reducible apply heap_drew_at) | (with_reducible apply heap_drewN_at) | (with_reducible apply heap_setCell_same) | ((with_reducible apply heap_set_ne); (first | omega | (dsimp only; omega) | (simp; done) | (simp; omega))) | (with_reducible apply setRow_at) | ((with_reducible apply setRow_ne); (first | omega | (dsimp only; omega) | (simp; done) | (simp; omega))))))
    have B_5 : w5.heap[y]? = some (.cells #[.int .u64 bn, .int .u64 bd] 24 (0, 0)) := below_at hb5 (by first | omega | (simp; done) | (simp; omega)) (by (repeat (first | (with_reducible assumption) | (with_reducible exact alloc_at _ _) | ((with_reducible apply alloc_at'); (simp; done)) | (with_reducible apply alloc_at_lt) | (with_reducible apply heap_drew_at) | (with_reducible apply heap_drewN_at) | (with_reducible apply heap_setCell_same) | ((with_reducible apply heap_set_ne); (first | omega | (dsimp only; omega) | (simp; done) | (simp; omega))) | (with_reducible apply setRow_at) | ((with_reducible apply setRow_ne); (first | omega | (dsimp only; omega) | (simp; done) | (simp; omega))))))
    have C_5 : w5.heap[z]? = some (.cells #[.int .u64 cn, .int .u64 cd] 24 (0, 0)) := below_at hb5 (by first | omega | (simp; done) | (simp; omega)) (by (repeat (first | (with_reducible assumption) | (with_reducible exact alloc_at _ _) | ((with_reducible apply alloc_at'); (simp; done)) | (with_reducible apply alloc_at_lt) | (with_reducible apply heap_drew_at) | (with_reducible apply heap_drewN_at) | (with_reducible apply heap_setCell_same) | ((with_reducible apply heap_set_ne); (first | omega | (dsimp only; omega) | (simp; done) | (simp; omega))) | (with_reducible apply setRow_at) | ((with_reducible apply setRow_ne); (first | omega | (dsimp only; omega) | (simp; done) | (simp; omega))))))
    have S_5 : w5.heap[w2.heap.size]? = some (.cells #[.int .u64 sn, .int .u64 sd] 24 (0, 0)) := below_at hb5 (by first | omega | (simp; done) | (simp; omega)) (by (repeat (first | (with_reducible assumption) | (with_reducible exact alloc_at _ _) | ((with_reducible apply alloc_at'); (simp; done)) | (with_reducible apply alloc_at_lt) | (with_reducible apply heap_drew_at) | (with_reducible apply heap_drewN_at) | (with_reducible apply heap_setCell_same) | ((with_reducible apply heap_set_ne); (first | omega | (dsimp only; omega) | (simp; done) | (simp; omega))) | (with_reducible apply setRow_at) | ((with_reducible apply setRow_ne); (first | omega | (dsimp only; omega) | (simp; done) | (simp; omega))))))
    have P_5 : w5.heap[w3.heap.size]? = some (.cells #[.int .u64 pn, .int .u64 pd] 24 (0, 0)) := below_at hb5 (by first | omega | (simp; done) | (simp; omega)) (by (repeat (first | (with_reducible assumption) | (with_reducible exact alloc_at _ _) | ((with_reducible apply alloc_at'); (simp; done)) | (with_reducible apply alloc_at_lt) | (with_reducible apply heap_drew_at) | (with_reducible apply heap_drewN_at) | (with_reducible apply heap_setCell_same) | ((with_reducible apply heap_set_ne); (first | omega | (dsimp only; omega) | (simp; done) | (simp; omega))) | (with_reducible apply setRow_at) | ((with_reducible apply setRow_ne); (first | omega | (dsimp only; omega) | (simp; done) | (simp; omega))))))
    have X_5 : w5.heap[w4.heap.size]? = some (.cells #[.int .u64 xn, .int .u64 xd] 24 (0, 0)) := below_at hb5 (by first | omega | (simp; done) | (simp; omega)) (by (repeat (first | (with_reducible assumption) | (with_reducible exact alloc_at _ _) | ((with_reducible apply alloc_at'); (simp; done)) | (with_reducible apply alloc_at_lt) | (with_reducible apply heap_drew_at) | (with_reducible apply heap_drewN_at) | (with_reducible apply heap_setCell_same) | ((with_reducible apply heap_set_ne); (first | omega | (dsimp only; omega) | (simp; done) | (simp; omega))) | (with_reducible apply setRow_at) | ((with_reducible apply setRow_ne); (first | omega | (dsimp only; omega) | (simp; done) | (simp; omega))))))
    have B5 : Below w.heap.size w w5 := Below.trans (by repeat (first | with_reducible assumption | with_reducible exact Below.refl _ _ | with_reducible refine Below.drew ?_ | with_reducible refine below_drewN ?_ _ | with_reducible refine below_alloc ?_ _ | with_reducible refine Below.alloc ?_ (by first | omega | (simp; done) | (simp; omega)) _ | with_reducible refine Below.setCell ?_ (by first | omega | (simp; done) | (simp; omega)) _ | with_reducible refine below_setRow ?_ (by first | omega | (simp; done) | (simp; omega)) _)) (hb5.mono (by first | omega | (simp; done) | (simp; omega)))
    clear hb5 A_4 B_4 C_4 S_4 P_4
    clear Ac0 Ac1 Acf
    clear Bc0 Bc1 Bcf
    clear Cc0 Cc1 Ccf
    clear Sc0 Sc1 Scf
    clear Pc0 Pc1 Pcf
    have Ac0 : w5.cell? ⟨x, 0, none⟩ = some (.int .u64 an) := (blk_cell A_5 0).trans rfl
    have Ac1 : w5.cell? ⟨x, 1, none⟩ = some (.int .u64 ad) := (blk_cell A_5 1).trans rfl
    have Acf := blk_free A_5
    have Bc0 : w5.cell? ⟨y, 0, none⟩ = some (.int .u64 bn) := (blk_cell B_5 0).trans rfl
    have Bc1 : w5.cell? ⟨y, 1, none⟩ = some (.int .u64 bd) := (blk_cell B_5 1).trans rfl
    have Bcf := blk_free B_5
    have Cc0 : w5.cell? ⟨z, 0, none⟩ = some (.int .u64 cn) := (blk_cell C_5 0).trans rfl
    have Cc1 : w5.cell? ⟨z, 1, none⟩ = some (.int .u64 cd) := (blk_cell C_5 1).trans rfl
    have Ccf := blk_free C_5
    have Sc0 : w5.cell? ⟨w2.heap.size, 0, none⟩ = some (.int .u64 sn) := (blk_cell S_5 0).trans rfl
    have Sc1 : w5.cell? ⟨w2.heap.size, 1, none⟩ = some (.int .u64 sd) := (blk_cell S_5 1).trans rfl
    have Scf := blk_free S_5
    have Pc0 : w5.cell? ⟨w3.heap.size, 0, none⟩ = some (.int .u64 pn) := (blk_cell P_5 0).trans rfl
    have Pc1 : w5.cell? ⟨w3.heap.size, 1, none⟩ = some (.int .u64 pd) := (blk_cell P_5 1).trans rfl
    have Pcf := blk_free P_5
    have Xc0 : w5.cell? ⟨w4.heap.size, 0, none⟩ = some (.int .u64 xn) := (blk_cell X_5 0).trans rfl
    have Xc1 : w5.cell? ⟨w4.heap.size, 1, none⟩ = some (.int .u64 xd) := (blk_cell X_5 1).trans rfl
    have Xcf := blk_free X_5
    have Al5 : x < w5.heap.size := by omega
    have Bl5 : y < w5.heap.size := by omega
    have Cl5 : z < w5.heap.size := by omega
    have Sl5 : w2.heap.size < w5.heap.size := by omega
    have Pl5 : w3.heap.size < w5.heap.size := by omega
    have Xl5 : w4.heap.size < w5.heap.size := by omega
    go_wp2_with fail
    refine (HZ.out _).mono ?_
    rintro e w6 ⟨rfl, hb6⟩
    have hs6 := hb6.size
    try simp only [World.size_alloc, World.size_setCell] at hs6
    have A_6 : w6.heap[x]? = some (.cells #[.int .u64 an, .int .u64 ad] 24 (0, 0)) := below_at hb6 (by first | omega | (simp; done) | (simp; omega)) (by (repeat (first | (with_reducible assumption) | (with_reducible exact alloc_at _ _) | ((with_reducible apply alloc_at'); (simp; done)) | (with_reducible apply alloc_at_lt) | (with_reducible apply heap_drew_at) | (with_reducible apply heap_drewN_at) | (with_reducible apply heap_setCell_same) | ((with_reducible apply heap_set_ne); (first | omega | (dsimp only; omega) | (simp; done) | (simp; omega))) | (with_reducible apply setRow_at) | ((with_reducible apply setRow_ne); (first | omega | (dsimp only; omega) | (simp; done) | (simp; omega))))))
    have B_6 : w6.heap[y]? = some (.cells #[.int .u64 bn, .int .u64 bd] 24 (0, 0)) := below_at hb6 (by first | omega | (simp; done) | (simp; omega)) (by (repeat (first | (with_reducible assumption) | (with_reducible exact alloc_at _ _) | ((with_reducible apply alloc_at'); (simp; done)) | (with_reducible apply alloc_at_lt) | (with_reducible apply heap_drew_at) | (with_reducible apply heap_drewN_at) | (with_reducible apply heap_setCell_same) | ((with_reducible apply heap_set_ne); (first | omega | (dsimp only; omega) | (simp; done) | (simp; omega))) | (with_reducible apply setRow_at) | ((with_reducible apply setRow_ne); (first | omega | (dsimp only; omega) | (simp; done) | (simp; omega))))))
    have C_6 : w6.heap[z]? = some (.cells #[.int .u64 cn, .int .u64 cd] 24 (0, 0)) := below_at hb6 (by first | omega | (simp; done) | (simp; omega)) (by (repeat (first | (with_reducible assumption) | (with_reducible exact alloc_at _ _) | ((with_reducible apply alloc_at'); (simp; done)) | (with_reducible apply alloc_at_lt) | (with_reducible apply heap_drew_at) | (with_reducible apply heap_drewN_at) | (with_reducible apply heap_setCell_same) | ((with_reducible apply heap_set_ne); (first | omega | (dsimp only; omega) | (simp; done) | (simp; omega))) | (with_reducible apply setRow_at) | ((with_reducible apply setRow_ne); (first | omega | (dsimp only; omega) | (simp; done) | (simp; omega))))))
    have S_6 : w6.heap[w2.heap.size]? = some (.cells #[.int .u64 sn, .int .u64 sd] 24 (0, 0)) := below_at hb6 (by first | omega | (simp; done) | (simp; omega)) (by (repeat (first | (with_reducible assumption) | (with_reducible exact alloc_at _ _) | ((with_reducible apply alloc_at'); (simp; done)) | (with_reducible apply alloc_at_lt) | (with_reducible apply heap_drew_at) | (with_reducible apply heap_drewN_at) | (with_reducible apply heap_setCell_same) | ((with_reducible apply heap_set_ne); (first | omega | (dsimp only; omega) | (simp; done) | (simp; omega))) | (with_reducible apply setRow_at) | ((with_reducible apply setRow_ne); (first | omega | (dsimp only; omega) | (simp; done) | (simp; omega))))))
    have P_6 : w6.heap[w3.heap.size]? = some (.cells #[.int .u64 pn, .int .u64 pd] 24 (0, 0)) := below_at hb6 (by first | omega | (simp; done) | (simp; omega)) (by (repeat (first | (with_reducible assumption) | (with_reducible exact alloc_at _ _) | ((with_reducible apply alloc_at'); (simp; done)) | (with_reducible apply alloc_at_lt) | (with_reducible apply heap_drew_at) | (with_reducible apply heap_drewN_at) | (with_reducible apply heap_setCell_same) | ((with_reducible apply heap_set_ne); (first | omega | (dsimp only; omega) | (simp; done) | (simp; omega))) | (with_reducible apply setRow_at) | ((with_reducible apply setRow_ne); (first | omega | (dsimp only; omega) | (simp; done) | (simp; omega))))))
    have X_6 : w6.heap[w4.heap.size]? = some (.cells #[.int .u64 xn, .int .u64 xd] 24 (0, 0)) := below_at hb6 (by first | omega | (simp; done) | (simp; omega)) (by (repeat (first | (with_reducible assumption) | (with_reducible exact alloc_at _ _) | ((with_reducible apply alloc_at'); (simp; done)) | (with_reducible apply alloc_at_lt) | (with_reducible apply heap_drew_at) | (with_reducible apply heap_drewN_at) | (with_reducible apply heap_setCell_same) | ((with_reducible apply heap_set_ne); (first | omega | (dsimp only; omega) | (simp; done) | (simp; omega))) | (with_reducible apply setRow_at) | ((with_reducible apply setRow_ne); (first | omega | (dsimp only; omega) | (simp; done) | (simp; omega))))))
    have Y_6 : w6.heap[w5.heap.size]? = some (.cells #[.int .u64 yn, .int .u64 yd] 24 (0, 0)) := below_at hb6 (by first | omega | (simp; done) | (simp; omega)) (by (repeat (first | (with_reducible assumption) | (with_reducible exact alloc_at _ _) | ((with_reducible apply alloc_at'); (simp; done)) | (with_reducible apply alloc_at_lt) | (with_reducible apply heap_drew_at) | (with_reducible apply heap_drewN_at) | (with_reducible apply heap_setCell_same) | ((with_reducible apply heap_set_ne); (first | omega | (dsimp only; omega) | (simp; done) | (simp; omega))) | (with_reducible apply setRow_at) | ((with_reducible apply setRow_ne); (first | omega | (dsimp only; omega) | (simp; done) | (simp; omega))))))
    have B6 : Below w.heap.size w w6 := Below.trans (by repeat (first | with_reducible assumption | with_reducible exact Below.refl _ _ | with_reducible refine Below.drew ?_ | with_reducible refine below_drewN ?_ _ | with_reducible refine below_alloc ?_ _ | with_reducible refine Below.alloc ?_ (by first | omega | (simp; done) | (simp; omega)) _ | with_reducible refine Below.setCell ?_ (by first | omega | (simp; done) | (simp; omega)) _ | with_reducible refine below_setRow ?_ (by first | omega | (simp; done) | (simp; omega)) _)) (hb6.mono (by first | omega | (simp; done) | (simp; omega)))
    clear hb6 A_5 B_5 C_5 S_5 P_5 X_5
    clear Ac0 Ac1 Acf
    clear Bc0 Bc1 Bcf
    clear Cc0 Cc1 Ccf
    clear Sc0 Sc1 Scf
    clear Pc0 Pc1 Pcf
    clear Xc0 Xc1 Xcf
    have Ac0 : w6.cell? ⟨x, 0, none⟩ = some (.int .u64 an) := (blk_cell A_6 0).trans rfl
    have Ac1 : w6.cell? ⟨x, 1, none⟩ = some (.int .u64 ad) := (blk_cell A_6 1).trans rfl
    have Acf := blk_free A_6
    have Bc0 : w6.cell? ⟨y, 0, none⟩ = some (.int .u64 bn) := (blk_cell B_6 0).trans rfl
    have Bc1 : w6.cell? ⟨y, 1, none⟩ = some (.int .u64 bd) := (blk_cell B_6 1).trans rfl
    have Bcf := blk_free B_6
    have Cc0 : w6.cell? ⟨z, 0, none⟩ = some (.int .u64 cn) := (blk_cell C_6 0).trans rfl
    have Cc1 : w6.cell? ⟨z, 1, none⟩ = some (.int .u64 cd) := (blk_cell C_6 1).trans rfl
    have Ccf := blk_free C_6
    have Sc0 : w6.cell? ⟨w2.heap.size, 0, none⟩ = some (.int .u64 sn) := (blk_cell S_6 0).trans rfl
    have Sc1 : w6.cell? ⟨w2.heap.size, 1, none⟩ = some (.int .u64 sd) := (blk_cell S_6 1).trans rfl
    have Scf := blk_free S_6
    have Pc0 : w6.cell? ⟨w3.heap.size, 0, none⟩ = some (.int .u64 pn) := (blk_cell P_6 0).trans rfl
    have Pc1 : w6.cell? ⟨w3.heap.size, 1, none⟩ = some (.int .u64 pd) := (blk_cell P_6 1).trans rfl
    have Pcf := blk_free P_6
    have Xc0 : w6.cell? ⟨w4.heap.size, 0, none⟩ = some (.int .u64 xn) := (blk_cell X_6 0).trans rfl
    have Xc1 : w6.cell? ⟨w4.heap.size, 1, none⟩ = some (.int .u64 xd) := (blk_cell X_6 1).trans rfl
    have Xcf := blk_free X_6
    have Yc0 : w6.cell? ⟨w5.heap.size, 0, none⟩ = some (.int .u64 yn) := (blk_cell Y_6 0).trans rfl
    have Yc1 : w6.cell? ⟨w5.heap.size, 1, none⟩ = some (.int .u64 yd) := (blk_cell Y_6 1).trans rfl
    have Ycf := blk_free Y_6
    have Al6 : x < w6.heap.size := by omega
    have Bl6 : y < w6.heap.size := by omega
    have Cl6 : z < w6.heap.size := by omega
    have Sl6 : w2.heap.size < w6.heap.size := by omega
    have Pl6 : w3.heap.size < w6.heap.size := by omega
    have Xl6 : w4.heap.size < w6.heap.size := by omega
    have Yl6 : w5.heap.size < w6.heap.size := by omega
    go_wp2
    go_ret
    exact ⟨by first | rfl | simp, (by repeat (first | with_reducible assumption | with_reducible exact Below.refl _ _ | with_reducible refine Below.drew ?_ | with_reducible refine below_drewN ?_ _ | with_reducible refine below_alloc ?_ _ | with_reducible refine Below.alloc ?_ (by first | omega | (simp; done) | (simp; omega)) _ | with_reducible refine Below.setCell ?_ (by first | omega | (simp; done) | (simp; omega)) _ | with_reducible refine below_setRow ?_ (by first | omega | (simp; done) | (simp; omega)) _))⟩
set_option maxRecDepth 100000 in
set_option maxHeartbeats 4000000 in
theorem parts_r2 (an ad bn bd cn cd sn sd pn pd xn xd yn yd zn zd e2 e3 e4 e5 : Int) (w : World) (hq : (e2 != 0) = true)
    (HA : Hid (∀ W, Calls Try.prog 15 #[.agg #[.int .u64 an, .int .u64 ad], .agg #[.int .u64 bn, .int .u64 bd]] W fun e w' => e = .returned (.tuple #[.agg #[.int .u64 sn, .int .u64 sd], .int .i64 0]) ∧ Below W.heap.size W w')) (HP : Hid (∀ W, Calls Try.prog 16 #[.agg #[.int .u64 sn, .int .u64 sd], .agg #[.int .u64 cn, .int .u64 cd]] W fun e w' => e = .returned (.tuple #[.agg #[.int .u64 pn, .int .u64 pd], .int .i64 e2]) ∧ Below W.heap.size W w')) (HX : Hid (∀ W, Calls Try.prog 16 #[.agg #[.int .u64 an, .int .u64 ad], .agg #[.int .u64 cn, .int .u64 cd]] W fun e w' => e = .returned (.tuple #[.agg #[.int .u64 xn, .int .u64 xd], .int .i64 e3]) ∧ Below W.heap.size W w')) (HY : Hid (∀ W, Calls Try.prog 16 #[.agg #[.int .u64 bn, .int .u64 bd], .agg #[.int .u64 cn, .int .u64 cd]] W fun e w' => e = .returned (.tuple #[.agg #[.int .u64 yn, .int .u64 yd], .int .i64 e4]) ∧ Below W.heap.size W w')) (HZ : Hid (∀ W, Calls Try.prog 15 #[.agg #[.int .u64 xn, .int .u64 xd], .agg #[.int .u64 yn, .int .u64 yd]] W fun e w' => e = .returned (.tuple #[.agg #[.int .u64 zn, .int .u64 zd], .int .i64 e5]) ∧ Below W.heap.size W w')) :
    Calls Try.prog 5 #[.agg #[.int .u64 an, .int .u64 ad, .int .u64 bn, .int .u64 bd, .int .u64 cn, .int .u64 cd]] w fun e w' => e = .returned (.bool true) ∧ Below w.heap.size w w' := by
  go_enter Try.func5, Try.ntmps5
  go_upto_region 1 with fail
  obtain ⟨wo, hwo⟩ : ∃ wo : World, wo = w.alloc (.cells #[.int .u64 an, .int .u64 ad, .int .u64 bn, .int .u64 bd, .int .u64 cn, .int .u64 cd] 38) := ⟨_, rfl⟩
  rw [← hwo]
  have hT : wo.heap[w.heap.size]? = some (.cells #[.int .u64 an, .int .u64 ad, .int .u64 bn, .int .u64 bd, .int .u64 cn, .int .u64 cd] 38 (0, 0)) := by rw [hwo]; exact alloc_at _ _
  have hB0 : Below w.heap.size w wo := by rw [hwo]; exact (by repeat (first | with_reducible assumption | with_reducible exact Below.refl _ _ | with_reducible refine Below.drew ?_ | with_reducible refine below_drewN ?_ _ | with_reducible refine below_alloc ?_ _ | with_reducible refine Below.alloc ?_ (by first | omega | (simp; done) | (simp; omega)) _ | with_reducible refine Below.setCell ?_ (by first | omega | (simp; done) | (simp; omega)) _ | with_reducible refine below_setRow ?_ (by first | omega | (simp; done) | (simp; omega)) _))
  have hs0 : w.heap.size < wo.heap.size := by rw [hwo]; simp
  have c0 := blk_cell hT 0
  have c1 := blk_cell hT 1
  have c2 := blk_cell hT 2
  have c3 := blk_cell hT 3
  have c4 := blk_cell hT 4
  have c5 := blk_cell hT 5
  simp at c0 c1 c2 c3 c4 c5
  clear hwo hT
  go_cut [3, 4, 5] (fun s5 s6 s7 wx => ∃ x y z : Nat, s5 = .pointer (some ⟨x, 0, none⟩) ∧ s6 = .pointer (some ⟨y, 0, none⟩) ∧ s7 = .pointer (some ⟨z, 0, none⟩) ∧ Below w.heap.size w wx ∧
    wx.heap[x]? = some (.cells #[.int .u64 an, .int .u64 ad] 24 (0, 0)) ∧ wx.heap[y]? = some (.cells #[.int .u64 bn, .int .u64 bd] 24 (0, 0)) ∧ wx.heap[z]? = some (.cells #[.int .u64 cn, .int .u64 cd] 24 (0, 0)))
  case first =>
    go_region_held3 (fun w' => Below wo.heap.size wo w' ∧ (∀ b o, b < wo.heap.size → w'.cell? ⟨b, o, none⟩ = wo.cell? ⟨b, o, none⟩) ∧ ∀ b o, b < wo.heap.size → w'.frozen? ⟨b, o, none⟩ = wo.frozen? ⟨b, o, none⟩) (first | ((try go_split_ands); (try dsimp only); refine same_of ?_; (repeat (first | with_reducible assumption | with_reducible exact Below.refl _ _ | with_reducible refine Below.drew ?_ | with_reducible refine below_drewN ?_ _ | with_reducible refine below_alloc ?_ _ | with_reducible refine Below.alloc ?_ (by first | omega | (simp; done) | (simp; omega)) _ | with_reducible refine Below.setCell ?_ (by first | omega | (simp; done) | (simp; omega)) _ | with_reducible refine below_setRow ?_ (by first | omega | (simp; done) | (simp; omega)) _)); done)) (fail)
    all_goals (go_wp2_with fail; go_meet; exact ⟨_, _, _, rfl, rfl, rfl, (by repeat (first | with_reducible assumption | with_reducible exact Below.refl _ _ | with_reducible refine Below.drew ?_ | with_reducible refine below_drewN ?_ _ | with_reducible refine below_alloc ?_ _ | with_reducible refine Below.alloc ?_ (by first | omega | (simp; done) | (simp; omega)) _ | with_reducible refine Below.setCell ?_ (by first | omega | (simp; done) | (simp; omega)) _ | with_reducible refine below_setRow ?_ (by first | omega | (simp; done) | (simp; omega)) _)), (by (repeat (first | (with_reducible assumption) | (with_reducible exact alloc_at _ _) | ((with_reducible apply alloc_at'); (simp; done)) | (with_reducible apply alloc_at_lt) | (with_reducible apply heap_drew_at) | (with_reducible apply heap_drewN_at) | (with_reducible apply heap_setCell_same) | ((with_reducible apply heap_set_ne); (first | omega | (dsimp only; omega) | (simp; done) | (simp; omega))) | (with_reducible apply setRow_at) | ((with_reducible apply setRow_ne); (first | omega | (dsimp only; omega) | (simp; done) | (simp; omega)))))), (by (repeat (first | (with_reducible assumption) | (with_reducible exact alloc_at _ _) | ((with_reducible apply alloc_at'); (simp; done)) | (with_reducible apply alloc_at_lt) | (with_reducible apply heap_drew_at) | (with_reducible apply heap_drewN_at) | (with_reducible apply heap_setCell_same) | ((with_reducible apply heap_set_ne); (first | omega | (dsimp only; omega) | (simp; done) | (simp; omega))) | (with_reducible apply setRow_at) | ((with_reducible apply setRow_ne); (first | omega | (dsimp only; omega) | (simp; done) | (simp; omega)))))), (by (repeat (first | (with_reducible assumption) | (with_reducible exact alloc_at _ _) | ((with_reducible apply alloc_at'); (simp; done)) | (with_reducible apply alloc_at_lt) | (with_reducible apply heap_drew_at) | (with_reducible apply heap_drewN_at) | (with_reducible apply heap_setCell_same) | ((with_reducible apply heap_set_ne); (first | omega | (dsimp only; omega) | (simp; done) | (simp; omega))) | (with_reducible apply setRow_at) | ((with_reducible apply setRow_ne); (first | omega | (dsimp only; omega) | (simp; done) | (simp; omega))))))⟩)
  case rest =>
    obtain ⟨x, y, z, rfl, rfl, rfl, hB, hX, hY, hZ⟩ := hcut
    clear c0 c1 c2 c3 c4 c5 hB0 hs0 wo
    have hx := lt_of_at hX
    have hy := lt_of_at hY
    have hz := lt_of_at hZ
    have hsz := hB.size
    go_wp2_with fail
    refine (awake2_any _).mono ?_
    rintro e w1 ⟨rfl, hb1⟩
    have hs1 := hb1.size
    try simp only [World.size_alloc, World.size_setCell] at hs1
    have A_1 : w1.heap[x]? = some (.cells #[.int .u64 an, .int .u64 ad] 24 (0, 0)) := below_at hb1 (by first | omega | (simp; done) | (simp; omega)) (by (repeat (first | (with_reducible assumption) | (with_reducible exact alloc_at _ _) | ((with_reducible apply alloc_at'); (simp; done)) | (with_reducible apply alloc_at_lt) | (with_reducible apply heap_drew_at) | (with_reducible apply heap_drewN_at) | (with_reducible apply heap_setCell_same) | ((with_reducible apply heap_set_ne); (first | omega | (dsimp only; omega) | (simp; done) | (simp; omega))) | (with_reducible apply setRow_at) | ((with_reducible apply setRow_ne); (first | omega | (dsimp only; omega) | (simp; done) | (simp; omega))))))
    have B_1 : w1.heap[y]? = some (.cells #[.int .u64 bn, .int .u64 bd] 24 (0, 0)) := below_at hb1 (by first | omega | (simp; done) | (simp; omega)) (by (repeat (first | (with_reducible assumption) | (with_reducible exact alloc_at _ _) | ((with_reducible apply alloc_at'); (simp; done)) | (with_reducible apply alloc_at_lt) | (with_reducible apply heap_drew_at) | (with_reducible apply heap_drewN_at) | (with_reducible apply heap_setCell_same) | ((with_reducible apply heap_set_ne); (first | omega | (dsimp only; omega) | (simp; done) | (simp; omega))) | (with_reducible apply setRow_at) | ((with_reducible apply setRow_ne); (first | omega | (dsimp only; omega) | (simp; done) | (simp; omega))))))
    have C_1 : w1.heap[z]? = some (.cells #[.int .u64 cn, .int .u64 cd] 24 (0, 0)) := below_at hb1 (by first | omega | (simp; done) | (simp; omega)) (by (repeat (first | (with_reducible assumption) | (with_reducible exact alloc_at _ _) | ((with_reducible apply alloc_at'); (simp; done)) | (with_reducible apply alloc_at_lt) | (with_reducible apply heap_drew_at) | (with_reducible apply heap_drewN_at) | (with_reducible apply heap_setCell_same) | ((with_reducible apply heap_set_ne); (first | omega | (dsimp only; omega) | (simp; done) | (simp; omega))) | (with_reducible apply setRow_at) | ((with_reducible apply setRow_ne); (first | omega | (dsimp only; omega) | (simp; done) | (simp; omega))))))
    have B1 : Below w.heap.size w w1 := Below.trans (by repeat (first | with_reducible assumption | with_reducible exact Below.refl _ _ | with_reducible refine Below.drew ?_ | with_reducible refine below_drewN ?_ _ | with_reducible refine below_alloc ?_ _ | with_reducible refine Below.alloc ?_ (by first | omega | (simp; done) | (simp; omega)) _ | with_reducible refine Below.setCell ?_ (by first | omega | (simp; done) | (simp; omega)) _ | with_reducible refine below_setRow ?_ (by first | omega | (simp; done) | (simp; omega)) _)) (hb1.mono (by first | omega | (simp; done) | (simp; omega)))
    clear hb1
    have Ac0 : w1.cell? ⟨x, 0, none⟩ = some (.int .u64 an) := (blk_cell A_1 0).trans rfl
    have Ac1 : w1.cell? ⟨x, 1, none⟩ = some (.int .u64 ad) := (blk_cell A_1 1).trans rfl
    have Acf := blk_free A_1
    have Bc0 : w1.cell? ⟨y, 0, none⟩ = some (.int .u64 bn) := (blk_cell B_1 0).trans rfl
    have Bc1 : w1.cell? ⟨y, 1, none⟩ = some (.int .u64 bd) := (blk_cell B_1 1).trans rfl
    have Bcf := blk_free B_1
    have Cc0 : w1.cell? ⟨z, 0, none⟩ = some (.int .u64 cn) := (blk_cell C_1 0).trans rfl
    have Cc1 : w1.cell? ⟨z, 1, none⟩ = some (.int .u64 cd) := (blk_cell C_1 1).trans rfl
    have Ccf := blk_free C_1
    have Al1 : x < w1.heap.size := by omega
    have Bl1 : y < w1.heap.size := by omega
    have Cl1 : z < w1.heap.size := by omega
    go_wp2_with fail
    refine (HA.out _).mono ?_
    rintro e w2 ⟨rfl, hb2⟩
    have hs2 := hb2.size
    try simp only [World.size_alloc, World.size_setCell] at hs2
    have A_2 : w2.heap[x]? = some (.cells #[.int .u64 an, .int .u64 ad] 24 (0, 0)) := below_at hb2 (by first | omega | (simp; done) | (simp; omega)) (by (repeat (first | (with_reducible assumption) | (with_reducible exact alloc_at _ _) | ((with_reducible apply alloc_at'); (simp; done)) | (with_reducible apply alloc_at_lt) | (with_reducible apply heap_drew_at) | (with_reducible apply heap_drewN_at) | (with_reducible apply heap_setCell_same) | ((with_reducible apply heap_set_ne); (first | omega | (dsimp only; omega) | (simp; done) | (simp; omega))) | (with_reducible apply setRow_at) | ((with_reducible apply setRow_ne); (first | omega | (dsimp only; omega) | (simp; done) | (simp; omega))))))
    have B_2 : w2.heap[y]? = some (.cells #[.int .u64 bn, .int .u64 bd] 24 (0, 0)) := below_at hb2 (by first | omega | (simp; done) | (simp; omega)) (by (repeat (first | (with_reducible assumption) | (with_reducible exact alloc_at _ _) | ((with_reducible apply alloc_at'); (simp; done)) | (with_reducible apply alloc_at_lt) | (with_reducible apply heap_drew_at) | (with_reducible apply heap_drewN_at) | (with_reducible apply heap_setCell_same) | ((with_reducible apply heap_set_ne); (first | omega | (dsimp only; omega) | (simp; done) | (simp; omega))) | (with_reducible apply setRow_at) | ((with_reducible apply setRow_ne); (first | omega | (dsimp only; omega) | (simp; done) | (simp; omega))))))
    have C_2 : w2.heap[z]? = some (.cells #[.int .u64 cn, .int .u64 cd] 24 (0, 0)) := below_at hb2 (by first | omega | (simp; done) | (simp; omega)) (by (repeat (first | (with_reducible assumption) | (with_reducible exact alloc_at _ _) | ((with_reducible apply alloc_at'); (simp; done)) | (with_reducible apply alloc_at_lt) | (with_reducible apply heap_drew_at) | (with_reducible apply heap_drewN_at) | (with_reducible apply heap_setCell_same) | ((with_reducible apply heap_set_ne); (first | omega | (dsimp only; omega) | (simp; done) | (simp; omega))) | (with_reducible apply setRow_at) | ((with_reducible apply setRow_ne); (first | omega | (dsimp only; omega) | (simp; done) | (simp; omega))))))
    have B2 : Below w.heap.size w w2 := Below.trans (by repeat (first | with_reducible assumption | with_reducible exact Below.refl _ _ | with_reducible refine Below.drew ?_ | with_reducible refine below_drewN ?_ _ | with_reducible refine below_alloc ?_ _ | with_reducible refine Below.alloc ?_ (by first | omega | (simp; done) | (simp; omega)) _ | with_reducible refine Below.setCell ?_ (by first | omega | (simp; done) | (simp; omega)) _ | with_reducible refine below_setRow ?_ (by first | omega | (simp; done) | (simp; omega)) _)) (hb2.mono (by first | omega | (simp; done) | (simp; omega)))
    clear hb2 A_1 B_1 C_1
    clear Ac0 Ac1 Acf
    clear Bc0 Bc1 Bcf
    clear Cc0 Cc1 Ccf
    have Ac0 : w2.cell? ⟨x, 0, none⟩ = some (.int .u64 an) := (blk_cell A_2 0).trans rfl
    have Ac1 : w2.cell? ⟨x, 1, none⟩ = some (.int .u64 ad) := (blk_cell A_2 1).trans rfl
    have Acf := blk_free A_2
    have Bc0 : w2.cell? ⟨y, 0, none⟩ = some (.int .u64 bn) := (blk_cell B_2 0).trans rfl
    have Bc1 : w2.cell? ⟨y, 1, none⟩ = some (.int .u64 bd) := (blk_cell B_2 1).trans rfl
    have Bcf := blk_free B_2
    have Cc0 : w2.cell? ⟨z, 0, none⟩ = some (.int .u64 cn) := (blk_cell C_2 0).trans rfl
    have Cc1 : w2.cell? ⟨z, 1, none⟩ = some (.int .u64 cd) := (blk_cell C_2 1).trans rfl
    have Ccf := blk_free C_2
    have Al2 : x < w2.heap.size := by omega
    have Bl2 : y < w2.heap.size := by omega
    have Cl2 : z < w2.heap.size := by omega
    go_wp2_with fail
    refine (HP.out _).mono ?_
    rintro e w3 ⟨rfl, hb3⟩
    have hs3 := hb3.size
    try simp only [World.size_alloc, World.size_setCell] at hs3
    have A_3 : w3.heap[x]? = some (.cells #[.int .u64 an, .int .u64 ad] 24 (0, 0)) := below_at hb3 (by first | omega | (simp; done) | (simp; omega)) (by (repeat (first | (with_reducible assumption) | (with_reducible exact alloc_at _ _) | ((with_reducible apply alloc_at'); (simp; done)) | (with_reducible apply alloc_at_lt) | (with_reducible apply heap_drew_at) | (with_reducible apply heap_drewN_at) | (with_reducible apply heap_setCell_same) | ((with_reducible apply heap_set_ne); (first | omega | (dsimp only; omega) | (simp; done) | (simp; omega))) | (with_reducible apply setRow_at) | ((with_reducible apply setRow_ne); (first | omega | (dsimp only; omega) | (simp; done) | (simp; omega))))))
    have B_3 : w3.heap[y]? = some (.cells #[.int .u64 bn, .int .u64 bd] 24 (0, 0)) := below_at hb3 (by first | omega | (simp; done) | (simp; omega)) (by (repeat (first | (with_reducible assumption) | (with_reducible exact alloc_at _ _) | ((with_reducible apply alloc_at'); (simp; done)) | (with_reducible apply alloc_at_lt) | (with_reducible apply heap_drew_at) | (with_reducible apply heap_drewN_at) | (with_reducible apply heap_setCell_same) | ((with_reducible apply heap_set_ne); (first | omega | (dsimp only; omega) | (simp; done) | (simp; omega))) | (with_reducible apply setRow_at) | ((with_reducible apply setRow_ne); (first | omega | (dsimp only; omega) | (simp; done) | (simp; omega))))))
    have C_3 : w3.heap[z]? = some (.cells #[.int .u64 cn, .int .u64 cd] 24 (0, 0)) := below_at hb3 (by first | omega | (simp; done) | (simp; omega)) (by (repeat (first | (with_reducible assumption) | (with_reducible exact alloc_at _ _) | ((with_reducible apply alloc_at'); (simp; done)) | (with_reducible apply alloc_at_lt) | (with_reducible apply heap_drew_at) | (with_reducible apply heap_drewN_at) | (with_reducible apply heap_setCell_same) | ((with_reducible apply heap_set_ne); (first | omega | (dsimp only; omega) | (simp; done) | (simp; omega))) | (with_reducible apply setRow_at) | ((with_reducible apply setRow_ne); (first | omega | (dsimp only; omega) | (simp; done) | (simp; omega))))))
    have S_3 : w3.heap[w2.heap.size]? = some (.cells #[.int .u64 sn, .int .u64 sd] 24 (0, 0)) := below_at hb3 (by first | omega | (simp; done) | (simp; omega)) (by (repeat (first | (with_reducible assumption) | (with_reducible exact alloc_at _ _) | ((with_reducible apply alloc_at'); (simp; done)) | (with_reducible apply alloc_at_lt) | (with_reducible apply heap_drew_at) | (with_reducible apply heap_drewN_at) | (with_reducible apply heap_setCell_same) | ((with_reducible apply heap_set_ne); (first | omega | (dsimp only; omega) | (simp; done) | (simp; omega))) | (with_reducible apply setRow_at) | ((with_reducible apply setRow_ne); (first | omega | (dsimp only; omega) | (simp; done) | (simp; omega))))))
    have B3 : Below w.heap.size w w3 := Below.trans (by repeat (first | with_reducible assumption | with_reducible exact Below.refl _ _ | with_reducible refine Below.drew ?_ | with_reducible refine below_drewN ?_ _ | with_reducible refine below_alloc ?_ _ | with_reducible refine Below.alloc ?_ (by first | omega | (simp; done) | (simp; omega)) _ | with_reducible refine Below.setCell ?_ (by first | omega | (simp; done) | (simp; omega)) _ | with_reducible refine below_setRow ?_ (by first | omega | (simp; done) | (simp; omega)) _)) (hb3.mono (by first | omega | (simp; done) | (simp; omega)))
    clear hb3 A_2 B_2 C_2
    clear Ac0 Ac1 Acf
    clear Bc0 Bc1 Bcf
    clear Cc0 Cc1 Ccf
    have Ac0 : w3.cell? ⟨x, 0, none⟩ = some (.int .u64 an) := (blk_cell A_3 0).trans rfl
    have Ac1 : w3.cell? ⟨x, 1, none⟩ = some (.int .u64 ad) := (blk_cell A_3 1).trans rfl
    have Acf := blk_free A_3
    have Bc0 : w3.cell? ⟨y, 0, none⟩ = some (.int .u64 bn) := (blk_cell B_3 0).trans rfl
    have Bc1 : w3.cell? ⟨y, 1, none⟩ = some (.int .u64 bd) := (blk_cell B_3 1).trans rfl
    have Bcf := blk_free B_3
    have Cc0 : w3.cell? ⟨z, 0, none⟩ = some (.int .u64 cn) := (blk_cell C_3 0).trans rfl
    have Cc1 : w3.cell? ⟨z, 1, none⟩ = some (.int .u64 cd) := (blk_cell C_3 1).trans rfl
    have Ccf := blk_free C_3
    have Sc0 : w3.cell? ⟨w2.heap.size, 0, none⟩ = some (.int .u64 sn) := (blk_cell S_3 0).trans rfl
    have Sc1 : w3.cell? ⟨w2.heap.size, 1, none⟩ = some (.int .u64 sd) := (blk_cell S_3 1).trans rfl
    have Scf := blk_free S_3
    have Al3 : x < w3.heap.size := by omega
    have Bl3 : y < w3.heap.size := by omega
    have Cl3 : z < w3.heap.size := by omega
    have Sl3 : w2.heap.size < w3.heap.size := by omega
    go_wp2_with fail
    refine (HX.out _).mono ?_
    rintro e w4 ⟨rfl, hb4⟩
    have hs4 := hb4.size
    try simp only [World.size_alloc, World.size_setCell] at hs4
    have A_4 : w4.heap[x]? = some (.cells #[.int .u64 an, .int .u64 ad] 24 (0, 0)) := below_at hb4 (by first | omega | (simp; done) | (simp; omega)) (by (repeat (first | (with_reducible assumption) | (with_reducible exact alloc_at _ _) | ((with_reducible apply alloc_at'); (simp; done)) | (with_reducible apply alloc_at_lt) | (with_reducible apply heap_drew_at) | (with_reducible apply heap_drewN_at) | (with_reducible apply heap_setCell_same) | ((with_reducible apply heap_set_ne); (first | omega | (dsimp only; omega) | (simp; done) | (simp; omega))) | (with_reducible apply setRow_at) | ((with_reducible apply setRow_ne); (first | omega | (dsimp only; omega) | (simp; done) | (simp; omega))))))
    have B_4 : w4.heap[y]? = some (.cells #[.int .u64 bn, .int .u64 bd] 24 (0, 0)) := below_at hb4 (by first | omega | (simp; done) | (simp; omega)) (by (repeat (first | (with_reducible assumption) | (with_reducible exact alloc_at _ _) | ((with_reducible apply alloc_at'); (simp; done)) | (with_reducible apply alloc_at_lt) | (with_reducible apply heap_drew_at) | (with_reducible apply heap_drewN_at) | (with_reducible apply heap_setCell_same) | ((with_reducible apply heap_set_ne); (first | omega | (dsimp only; omega) | (simp; done) | (simp; omega))) | (with_reducible apply setRow_at) | ((with_reducible apply setRow_ne); (first | omega | (dsimp only; omega) | (simp; done) | (simp; omega))))))
    have C_4 : w4.heap[z]? = some (.cells #[.int .u64 cn, .int .u64 cd] 24 (0, 0)) := below_at hb4 (by first | omega | (simp; done) | (simp; omega)) (by (repeat (first | (with_reducible assumption) | (with_reducible exact alloc_at _ _) | ((with_reducible apply alloc_at'); (simp; done)) | (with_reducible apply alloc_at_lt) | (with_reducible apply heap_drew_at) | (with_reducible apply heap_drewN_at) | (with_reducible apply heap_setCell_same) | ((with_reducible apply heap_set_ne); (first | omega | (dsimp only; omega) | (simp; done) | (simp; omega))) | (with_reducible apply setRow_at) | ((with_reducible apply setRow_ne); (first | omega | (dsimp only; omega) | (simp; done) | (simp; omega))))))
    have S_4 : w4.heap[w2.heap.size]? = some (.cells #[.int .u64 sn, .int .u64 sd] 24 (0, 0)) := below_at hb4 (by first | omega | (simp; done) | (simp; omega)) (by (repeat (first | (with_reducible assumption) | (with_reducible exact alloc_at _ _) | ((with_reducible apply alloc_at'); (simp; done)) | (with_reducible apply alloc_at_lt) | (with_reducible apply heap_drew_at) | (with_reducible apply heap_drewN_at) | (with_reducible apply heap_setCell_same) | ((with_reducible apply heap_set_ne); (first | omega | (dsimp only; omega) | (simp; done) | (simp; omega))) | (with_reducible apply setRow_at) | ((with_reducible apply setRow_ne); (first | omega | (dsimp only; omega) | (simp; done) | (simp; omega))))))
    have P_4 : w4.heap[w3.heap.size]? = some (.cells #[.int .u64 pn, .int .u64 pd] 24 (0, 0)) := below_at hb4 (by first | omega | (simp; done) | (simp; omega)) (by (repeat (first | (with_reducible assumption) | (with_reducible exact alloc_at _ _) | ((with_reducible apply alloc_at'); (simp; done)) | (with_reducible apply alloc_at_lt) | (with_reducible apply heap_drew_at) | (with_reducible apply heap_drewN_at) | (with_reducible apply heap_setCell_same) | ((with_reducible apply heap_set_ne); (first | omega | (dsimp only; omega) | (simp; done) | (simp; omega))) | (with_reducible apply setRow_at) | ((with_reducible apply setRow_ne); (first | omega | (dsimp only; omega) | (simp; done) | (simp; omega))))))
    have B4 : Below w.heap.size w w4 := Below.trans (by repeat (first | with_reducible assumption | with_reducible exact Below.refl _ _ | with_reducible refine Below.drew ?_ | with_reducible refine below_drewN ?_ _ | with_reducible refine below_alloc ?_ _ | with_reducible refine Below.alloc ?_ (by first | omega | (simp; done) | (simp; omega)) _ | with_reducible refine Below.setCell ?_ (by first | omega | (simp; done) | (simp; omega)) _ | with_reducible refine below_setRow ?_ (by first | omega | (simp; done) | (simp; omega)) _)) (hb4.mono (by first | omega | (simp; done) | (simp; omega)))
    clear hb4 A_3 B_3 C_3 S_3
    clear Ac0 Ac1 Acf
    clear Bc0 Bc1 Bcf
    clear Cc0 Cc1 Ccf
    clear Sc0 Sc1 Scf
    have Ac0 : w4.cell? ⟨x, 0, none⟩ = some (.int .u64 an) := (blk_cell A_4 0).trans rfl
    have Ac1 : w4.cell? ⟨x, 1, none⟩ = some (.int .u64 ad) := (blk_cell A_4 1).trans rfl
    have Acf := blk_free A_4
    have Bc0 : w4.cell? ⟨y, 0, none⟩ = some (.int .u64 bn) := (blk_cell B_4 0).trans rfl
    have Bc1 : w4.cell? ⟨y, 1, none⟩ = some (.int .u64 bd) := (blk_cell B_4 1).trans rfl
    have Bcf := blk_free B_4
    have Cc0 : w4.cell? ⟨z, 0, none⟩ = some (.int .u64 cn) := (blk_cell C_4 0).trans rfl
    have Cc1 : w4.cell? ⟨z, 1, none⟩ = some (.int .u64 cd) := (blk_cell C_4 1).trans rfl
    have Ccf := blk_free C_4
    have Sc0 : w4.cell? ⟨w2.heap.size, 0, none⟩ = some (.int .u64 sn) := (blk_cell S_4 0).trans rfl
    have Sc1 : w4.cell? ⟨w2.heap.size, 1, none⟩ = some (.int .u64 sd) := (blk_cell S_4 1).trans rfl
    have Scf := blk_free S_4
    have Pc0 : w4.cell? ⟨w3.heap.size, 0, none⟩ = some (.int .u64 pn) := (blk_cell P_4 0).trans rfl
    have Pc1 : w4.cell? ⟨w3.heap.size, 1, none⟩ = some (.int .u64 pd) := (blk_cell P_4 1).trans rfl
    have Pcf := blk_free P_4
    have Al4 : x < w4.heap.size := by omega
    have Bl4 : y < w4.heap.size := by omega
    have Cl4 : z < w4.heap.size := by omega
    have Sl4 : w2.heap.size < w4.heap.size := by omega
    have Pl4 : w3.heap.size < w4.heap.size := by omega
    go_wp2_with fail
    refine (HY.out _).mono ?_
    rintro e w5 ⟨rfl, hb5⟩
    have hs5 := hb5.size
    try simp only [World.size_alloc, World.size_setCell] at hs5
    have A_5 : w5.heap[x]? = some (.cells #[.int .u64 an, .int .u64 ad] 24 (0, 0)) := below_at hb5 (by first | omega | (simp; done) | (simp; omega)) (by (repeat (first | (with_reducible assumption) | (with_reducible exact alloc_at _ _) | ((with_reducible apply alloc_at'); (simp; done)) | (with_reducible apply alloc_at_lt) | (with_reducible apply heap_drew_at) | (with_reducible apply heap_drewN_at) | (with_reducible apply heap_setCell_same) | ((with_reducible apply heap_set_ne); (first | omega | (dsimp only; omega) | (simp; done) | (simp; omega))) | (with_reducible apply setRow_at) | ((with_reducible apply setRow_ne); (first | omega | (dsimp only; omega) | (simp; done) | (simp; omega))))))
    have B_5 : w5.heap[y]? = some (.cells #[.int .u64 bn, .int .u64 bd] 24 (0, 0)) := below_at hb5 (by first | omega | (simp; done) | (simp; omega)) (by (repeat (first | (with_reducible assumption) | (with_reducible exact alloc_at _ _) | ((with_reducible apply alloc_at'); (simp; done)) | (with_reducible apply alloc_at_lt) | (with_reducible apply heap_drew_at) | (with_reducible apply heap_drewN_at) | (with_reducible apply heap_setCell_same) | ((with_reducible apply heap_set_ne); (first | omega | (dsimp only; omega) | (simp; done) | (simp; omega))) | (with_reducible apply setRow_at) | ((with_reducible apply setRow_ne); (first | omega | (dsimp only; omega) | (simp; done) | (simp; omega))))))
    have C_5 : w5.heap[z]? = some (.cells #[.int .u64 cn, .int .u64 cd] 24 (0, 0)) := below_at hb5 (by first | omega | (simp; done) | (simp; omega)) (by (repeat (first | (with_reducible assumption) | (with_reducible exact alloc_at _ _) | ((with_reducible apply alloc_at'); (simp; done)) | (with_reducible apply alloc_at_lt) | (with_reducible apply heap_drew_at) | (with_reducible apply heap_drewN_at) | (with_reducible apply heap_setCell_same) | ((with_reducible apply heap_set_ne); (first | omega | (dsimp only; omega) | (simp; done) | (simp; omega))) | (with_reducible apply setRow_at) | ((with_reducible apply setRow_ne); (first | omega | (dsimp only; omega) | (simp; done) | (simp; omega))))))
    have S_5 : w5.heap[w2.heap.size]? = some (.cells #[.int .u64 sn, .int .u64 sd] 24 (0, 0)) := below_at hb5 (by first | omega | (simp; done) | (simp; omega)) (by (repeat (first | (with_reducible assumption) | (with_reducible exact alloc_at _ _) | ((with_reducible apply alloc_at'); (simp; done)) | (with_reducible apply alloc_at_lt) | (with_reducible apply heap_drew_at) | (with_reducible apply heap_drewN_at) | (with_reducible apply heap_setCell_same) | ((with_reducible apply heap_set_ne); (first | omega | (dsimp only; omega) | (simp; done) | (simp; omega))) | (with_reducible apply setRow_at) | ((with_reducible apply setRow_ne); (first | omega | (dsimp only; omega) | (simp; done) | (simp; omega))))))
    have P_5 : w5.heap[w3.heap.size]? = some (.cells #[.int .u64 pn, .int .u64 pd] 24 (0, 0)) := below_at hb5 (by first | omega | (simp; done) | (simp; omega)) (by (repeat (first | (with_reducible assumption) | (with_reducible exact alloc_at _ _) | ((with_reducible apply alloc_at'); (simp; done)) | (with_reducible apply alloc_at_lt) | (with_reducible apply heap_drew_at) | (with_reducible apply heap_drewN_at) | (with_reducible apply heap_setCell_same) | ((with_reducible apply heap_set_ne); (first | omega | (dsimp only; omega) | (simp; done) | (simp; omega))) | (with_reducible apply setRow_at) | ((with_reducible apply setRow_ne); (first | omega | (dsimp only; omega) | (simp; done) | (simp; omega))))))
    have X_5 : w5.heap[w4.heap.size]? = some (.cells #[.int .u64 xn, .int .u64 xd] 24 (0, 0)) := below_at hb5 (by first | omega | (simp; done) | (simp; omega)) (by (repeat (first | (with_reducible assumption) | (with_reducible exact alloc_at _ _) | ((with_reducible apply alloc_at'); (simp; done)) | (with_reducible apply alloc_at_lt) | (with_reducible apply heap_drew_at) | (with_reducible apply heap_drewN_at) | (with_reducible apply heap_setCell_same) | ((with_reducible apply heap_set_ne); (first | omega | (dsimp only; omega) | (simp; done) | (simp; omega))) | (with_reducible apply setRow_at) | ((with_reducible apply setRow_ne); (first | omega | (dsimp only; omega) | (simp; done) | (simp; omega))))))
    have B5 : Below w.heap.size w w5 := Below.trans (by repeat (first | with_reducible assumption | with_reducible exact Below.refl _ _ | with_reducible refine Below.drew ?_ | with_reducible refine below_drewN ?_ _ | with_reducible refine below_alloc ?_ _ | with_reducible refine Below.alloc ?_ (by first | omega | (simp; done) | (simp; omega)) _ | with_reducible refine Below.setCell ?_ (by first | omega | (simp; done) | (simp; omega)) _ | with_reducible refine below_setRow ?_ (by first | omega | (simp; done) | (simp; omega)) _)) (hb5.mono (by first | omega | (simp; done) | (simp; omega)))
    clear hb5 A_4 B_4 C_4 S_4 P_4
    clear Ac0 Ac1 Acf
    clear Bc0 Bc1 Bcf
    clear Cc0 Cc1 Ccf
    clear Sc0 Sc1 Scf
    clear Pc0 Pc1 Pcf
    have Ac0 : w5.cell? ⟨x, 0, none⟩ = some (.int .u64 an) := (blk_cell A_5 0).trans rfl
    have Ac1 : w5.cell? ⟨x, 1, none⟩ = some (.int .u64 ad) := (blk_cell A_5 1).trans rfl
    have Acf := blk_free A_5
    have Bc0 : w5.cell? ⟨y, 0, none⟩ = some (.int .u64 bn) := (blk_cell B_5 0).trans rfl
    have Bc1 : w5.cell? ⟨y, 1, none⟩ = some (.int .u64 bd) := (blk_cell B_5 1).trans rfl
    have Bcf := blk_free B_5
    have Cc0 : w5.cell? ⟨z, 0, none⟩ = some (.int .u64 cn) := (blk_cell C_5 0).trans rfl
    have Cc1 : w5.cell? ⟨z, 1, none⟩ = some (.int .u64 cd) := (blk_cell C_5 1).trans rfl
    have Ccf := blk_free C_5
    have Sc0 : w5.cell? ⟨w2.heap.size, 0, none⟩ = some (.int .u64 sn) := (blk_cell S_5 0).trans rfl
    have Sc1 : w5.cell? ⟨w2.heap.size, 1, none⟩ = some (.int .u64 sd) := (blk_cell S_5 1).trans rfl
    have Scf := blk_free S_5
    have Pc0 : w5.cell? ⟨w3.heap.size, 0, none⟩ = some (.int .u64 pn) := (blk_cell P_5 0).trans rfl
    have Pc1 : w5.cell? ⟨w3.heap.size, 1, none⟩ = some (.int .u64 pd) := (blk_cell P_5 1).trans rfl
    have Pcf := blk_free P_5
    have Xc0 : w5.cell? ⟨w4.heap.size, 0, none⟩ = some (.int .u64 xn) := (blk_cell X_5 0).trans rfl
    have Xc1 : w5.cell? ⟨w4.heap.size, 1, none⟩ = some (.int .u64 xd) := (blk_cell X_5 1).trans rfl
    have Xcf := blk_free X_5
    have Al5 : x < w5.heap.size := by omega
    have Bl5 : y < w5.heap.size := by omega
    have Cl5 : z < w5.heap.size := by omega
    have Sl5 : w2.heap.size < w5.heap.size := by omega
    have Pl5 : w3.heap.size < w5.heap.size := by omega
    have Xl5 : w4.heap.size < w5.heap.size := by omega
    go_wp2_with fail
    refine (HZ.out _).mono ?_
    rintro e w6 ⟨rfl, hb6⟩
    have hs6 := hb6.size
    try simp only [World.size_alloc, World.size_setCell] at hs6
    have A_6 : w6.heap[x]? = some (.cells #[.int .u64 an, .int .u64 ad] 24 (0, 0)) := below_at hb6 (by first | omega | (simp; done) | (simp; omega)) (by (repeat (first | (with_reducible assumption) | (with_reducible exact alloc_at _ _) | ((with_reducible apply alloc_at'); (simp; done)) | (with_reducible apply alloc_at_lt) | (with_reducible apply heap_drew_at) | (with_reducible apply heap_drewN_at) | (with_reducible apply heap_setCell_same) | ((with_reducible apply heap_set_ne); (first | omega | (dsimp only; omega) | (simp; done) | (simp; omega))) | (with_reducible apply setRow_at) | ((with_reducible apply setRow_ne); (first | omega | (dsimp only; omega) | (simp; done) | (simp; omega))))))
    have B_6 : w6.heap[y]? = some (.cells #[.int .u64 bn, .int .u64 bd] 24 (0, 0)) := below_at hb6 (by first | omega | (simp; done) | (simp; omega)) (by (repeat (first | (with_reducible assumption) | (with_reducible exact alloc_at _ _) | ((with_reducible apply alloc_at'); (simp; done)) | (with_reducible apply alloc_at_lt) | (with_reducible apply heap_drew_at) | (with_reducible apply heap_drewN_at) | (with_reducible apply heap_setCell_same) | ((with_reducible apply heap_set_ne); (first | omega | (dsimp only; omega) | (simp; done) | (simp; omega))) | (with_reducible apply setRow_at) | ((with_reducible apply setRow_ne); (first | omega | (dsimp only; omega) | (simp; done) | (simp; omega))))))
    have C_6 : w6.heap[z]? = some (.cells #[.int .u64 cn, .int .u64 cd] 24 (0, 0)) := below_at hb6 (by first | omega | (simp; done) | (simp; omega)) (by (repeat (first | (with_reducible assumption) | (with_reducible exact alloc_at _ _) | ((with_reducible apply alloc_at'); (simp; done)) | (with_reducible apply alloc_at_lt) | (with_reducible apply heap_drew_at) | (with_reducible apply heap_drewN_at) | (with_reducible apply heap_setCell_same) | ((with_reducible apply heap_set_ne); (first | omega | (dsimp only; omega) | (simp; done) | (simp; omega))) | (with_reducible apply setRow_at) | ((with_reducible apply setRow_ne); (first | omega | (dsimp only; omega) | (simp; done) | (simp; omega))))))
    have S_6 : w6.heap[w2.heap.size]? = some (.cells #[.int .u64 sn, .int .u64 sd] 24 (0, 0)) := below_at hb6 (by first | omega | (simp; done) | (simp; omega)) (by (repeat (first | (with_reducible assumption) | (with_reducible exact alloc_at _ _) | ((with_reducible apply alloc_at'); (simp; done)) | (with_reducible apply alloc_at_lt) | (with_reducible apply heap_drew_at) | (with_reducible apply heap_drewN_at) | (with_reducible apply heap_setCell_same) | ((with_reducible apply heap_set_ne); (first | omega | (dsimp only; omega) | (simp; done) | (simp; omega))) | (with_reducible apply setRow_at) | ((with_reducible apply setRow_ne); (first | omega | (dsimp only; omega) | (simp; done) | (simp; omega))))))
    have P_6 : w6.heap[w3.heap.size]? = some (.cells #[.int .u64 pn, .int .u64 pd] 24 (0, 0)) := below_at hb6 (by first | omega | (simp; done) | (simp; omega)) (by (repeat (first | (with_reducible assumption) | (with_reducible exact alloc_at _ _) | ((with_reducible apply alloc_at'); (simp; done)) | (with_reducible apply alloc_at_lt) | (with_reducible apply heap_drew_at) | (with_reducible apply heap_drewN_at) | (with_reducible apply heap_setCell_same) | ((with_reducible apply heap_set_ne); (first | omega | (dsimp only; omega) | (simp; done) | (simp; omega))) | (with_reducible apply setRow_at) | ((with_reducible apply setRow_ne); (first | omega | (dsimp only; omega) | (simp; done) | (simp; omega))))))
    have X_6 : w6.heap[w4.heap.size]? = some (.cells #[.int .u64 xn, .int .u64 xd] 24 (0, 0)) := below_at hb6 (by first | omega | (simp; done) | (simp; omega)) (by (repeat (first | (with_reducible assumption) | (with_reducible exact alloc_at _ _) | ((with_reducible apply alloc_at'); (simp; done)) | (with_reducible apply alloc_at_lt) | (with_reducible apply heap_drew_at) | (with_reducible apply heap_drewN_at) | (with_reducible apply heap_setCell_same) | ((with_reducible apply heap_set_ne); (first | omega | (dsimp only; omega) | (simp; done) | (simp; omega))) | (with_reducible apply setRow_at) | ((with_reducible apply setRow_ne); (first | omega | (dsimp only; omega) | (simp; done) | (simp; omega))))))
    have Y_6 : w6.heap[w5.heap.size]? = some (.cells #[.int .u64 yn, .int .u64 yd] 24 (0, 0)) := below_at hb6 (by first | omega | (simp; done) | (simp; omega)) (by (repeat (first | (with_reducible assumption) | (with_reducible exact alloc_at _ _) | ((with_reducible apply alloc_at'); (simp; done)) | (with_reducible apply alloc_at_lt) | (with_reducible apply heap_drew_at) | (with_reducible apply heap_drewN_at) | (with_reducible apply heap_setCell_same) | ((with_reducible apply heap_set_ne); (first | omega | (dsimp only; omega) | (simp; done) | (simp; omega))) | (with_reducible apply setRow_at) | ((with_reducible apply setRow_ne); (first | omega | (dsimp only; omega) | (simp; done) | (simp; omega))))))
    have B6 : Below w.heap.size w w6 := Below.trans (by repeat (first | with_reducible assumption | with_reducible exact Below.refl _ _ | with_reducible refine Below.drew ?_ | with_reducible refine below_drewN ?_ _ | with_reducible refine below_alloc ?_ _ | with_reducible refine Below.alloc ?_ (by first | omega | (simp; done) | (simp; omega)) _ | with_reducible refine Below.setCell ?_ (by first | omega | (simp; done) | (simp; omega)) _ | with_reducible refine below_setRow ?_ (by first | omega | (simp; done) | (simp; omega)) _)) (hb6.mono (by first | omega | (simp; done) | (simp; omega)))
    clear hb6 A_5 B_5 C_5 S_5 P_5 X_5
    clear Ac0 Ac1 Acf
    clear Bc0 Bc1 Bcf
    clear Cc0 Cc1 Ccf
    clear Sc0 Sc1 Scf
    clear Pc0 Pc1 Pcf
    clear Xc0 Xc1 Xcf
    have Ac0 : w6.cell? ⟨x, 0, none⟩ = some (.int .u64 an) := (blk_cell A_6 0).trans rfl
    have Ac1 : w6.cell? ⟨x, 1, none⟩ = some (.int .u64 ad) := (blk_cell A_6 1).trans rfl
    have Acf := blk_free A_6
    have Bc0 : w6.cell? ⟨y, 0, none⟩ = some (.int .u64 bn) := (blk_cell B_6 0).trans rfl
    have Bc1 : w6.cell? ⟨y, 1, none⟩ = some (.int .u64 bd) := (blk_cell B_6 1).trans rfl
    have Bcf := blk_free B_6
    have Cc0 : w6.cell? ⟨z, 0, none⟩ = some (.int .u64 cn) := (blk_cell C_6 0).trans rfl
    have Cc1 : w6.cell? ⟨z, 1, none⟩ = some (.int .u64 cd) := (blk_cell C_6 1).trans rfl
    have Ccf := blk_free C_6
    have Sc0 : w6.cell? ⟨w2.heap.size, 0, none⟩ = some (.int .u64 sn) := (blk_cell S_6 0).trans rfl
    have Sc1 : w6.cell? ⟨w2.heap.size, 1, none⟩ = some (.int .u64 sd) := (blk_cell S_6 1).trans rfl
    have Scf := blk_free S_6
    have Pc0 : w6.cell? ⟨w3.heap.size, 0, none⟩ = some (.int .u64 pn) := (blk_cell P_6 0).trans rfl
    have Pc1 : w6.cell? ⟨w3.heap.size, 1, none⟩ = some (.int .u64 pd) := (blk_cell P_6 1).trans rfl
    have Pcf := blk_free P_6
    have Xc0 : w6.cell? ⟨w4.heap.size, 0, none⟩ = some (.int .u64 xn) := (blk_cell X_6 0).trans rfl
    have Xc1 : w6.cell? ⟨w4.heap.size, 1, none⟩ = some (.int .u64 xd) := (blk_cell X_6 1).trans rfl
    have Xcf := blk_free X_6
    have Yc0 : w6.cell? ⟨w5.heap.size, 0, none⟩ = some (.int .u64 yn) := (blk_cell Y_6 0).trans rfl
    have Yc1 : w6.cell? ⟨w5.heap.size, 1, none⟩ = some (.int .u64 yd) := (blk_cell Y_6 1).trans rfl
    have Ycf := blk_free Y_6
    have Al6 : x < w6.heap.size := by omega
    have Bl6 : y < w6.heap.size := by omega
    have Cl6 : z < w6.heap.size := by omega
    have Sl6 : w2.heap.size < w6.heap.size := by omega
    have Pl6 : w3.heap.size < w6.heap.size := by omega
    have Xl6 : w4.heap.size < w6.heap.size := by omega
    have Yl6 : w5.heap.size < w6.heap.size := by omega
    go_wp2
    go_ret
    exact ⟨by first | rfl | simp, (by repeat (first | with_reducible assumption | with_reducible exact Below.refl _ _ | with_reducible refine Below.drew ?_ | with_reducible refine below_drewN ?_ _ | with_reducible refine below_alloc ?_ _ | with_reducible refine Below.alloc ?_ (by first | omega | (simp; done) | (simp; omega)) _ | with_reducible refine Below.setCell ?_ (by first | omega | (simp; done) | (simp; omega)) _ | with_reducible refine below_setRow ?_ (by first | omega | (simp; done) | (simp; omega)) _))⟩
set_option maxRecDepth 100000 in
set_option maxHeartbeats 4000000 in
theorem parts_r3 (an ad bn bd cn cd sn sd pn pd xn xd yn yd zn zd e3 e4 e5 : Int) (w : World) (hq : (e3 != 0) = true)
    (HA : Hid (∀ W, Calls Try.prog 15 #[.agg #[.int .u64 an, .int .u64 ad], .agg #[.int .u64 bn, .int .u64 bd]] W fun e w' => e = .returned (.tuple #[.agg #[.int .u64 sn, .int .u64 sd], .int .i64 0]) ∧ Below W.heap.size W w')) (HP : Hid (∀ W, Calls Try.prog 16 #[.agg #[.int .u64 sn, .int .u64 sd], .agg #[.int .u64 cn, .int .u64 cd]] W fun e w' => e = .returned (.tuple #[.agg #[.int .u64 pn, .int .u64 pd], .int .i64 0]) ∧ Below W.heap.size W w')) (HX : Hid (∀ W, Calls Try.prog 16 #[.agg #[.int .u64 an, .int .u64 ad], .agg #[.int .u64 cn, .int .u64 cd]] W fun e w' => e = .returned (.tuple #[.agg #[.int .u64 xn, .int .u64 xd], .int .i64 e3]) ∧ Below W.heap.size W w')) (HY : Hid (∀ W, Calls Try.prog 16 #[.agg #[.int .u64 bn, .int .u64 bd], .agg #[.int .u64 cn, .int .u64 cd]] W fun e w' => e = .returned (.tuple #[.agg #[.int .u64 yn, .int .u64 yd], .int .i64 e4]) ∧ Below W.heap.size W w')) (HZ : Hid (∀ W, Calls Try.prog 15 #[.agg #[.int .u64 xn, .int .u64 xd], .agg #[.int .u64 yn, .int .u64 yd]] W fun e w' => e = .returned (.tuple #[.agg #[.int .u64 zn, .int .u64 zd], .int .i64 e5]) ∧ Below W.heap.size W w')) :
    Calls Try.prog 5 #[.agg #[.int .u64 an, .int .u64 ad, .int .u64 bn, .int .u64 bd, .int .u64 cn, .int .u64 cd]] w fun e w' => e = .returned (.bool true) ∧ Below w.heap.size w w' := by
  go_enter Try.func5, Try.ntmps5
  go_upto_region 1 with fail
  obtain ⟨wo, hwo⟩ : ∃ wo : World, wo = w.alloc (.cells #[.int .u64 an, .int .u64 ad, .int .u64 bn, .int .u64 bd, .int .u64 cn, .int .u64 cd] 38) := ⟨_, rfl⟩
  rw [← hwo]
  have hT : wo.heap[w.heap.size]? = some (.cells #[.int .u64 an, .int .u64 ad, .int .u64 bn, .int .u64 bd, .int .u64 cn, .int .u64 cd] 38 (0, 0)) := by rw [hwo]; exact alloc_at _ _
  have hB0 : Below w.heap.size w wo := by rw [hwo]; exact (by repeat (first | with_reducible assumption | with_reducible exact Below.refl _ _ | with_reducible refine Below.drew ?_ | with_reducible refine below_drewN ?_ _ | with_reducible refine below_alloc ?_ _ | with_reducible refine Below.alloc ?_ (by first | omega | (simp; done) | (simp; omega)) _ | with_reducible refine Below.setCell ?_ (by first | omega | (simp; done) | (simp; omega)) _ | with_reducible refine below_setRow ?_ (by first | omega | (simp; done) | (simp; omega)) _))
  have hs0 : w.heap.size < wo.heap.size := by rw [hwo]; simp
  have c0 := blk_cell hT 0
  have c1 := blk_cell hT 1
  have c2 := blk_cell hT 2
  have c3 := blk_cell hT 3
  have c4 := blk_cell hT 4
  have c5 := blk_cell hT 5
  simp at c0 c1 c2 c3 c4 c5
  clear hwo hT
  go_cut [3, 4, 5] (fun s5 s6 s7 wx => ∃ x y z : Nat, s5 = .pointer (some ⟨x, 0, none⟩) ∧ s6 = .pointer (some ⟨y, 0, none⟩) ∧ s7 = .pointer (some ⟨z, 0, none⟩) ∧ Below w.heap.size w wx ∧
    wx.heap[x]? = some (.cells #[.int .u64 an, .int .u64 ad] 24 (0, 0)) ∧ wx.heap[y]? = some (.cells #[.int .u64 bn, .int .u64 bd] 24 (0, 0)) ∧ wx.heap[z]? = some (.cells #[.int .u64 cn, .int .u64 cd] 24 (0, 0)))
  case first =>
    go_region_held3 (fun w' => Below wo.heap.size wo w' ∧ (∀ b o, b < wo.heap.size → w'.cell? ⟨b, o, none⟩ = wo.cell? ⟨b, o, none⟩) ∧ ∀ b o, b < wo.heap.size → w'.frozen? ⟨b, o, none⟩ = wo.frozen? ⟨b, o, none⟩) (first | ((try go_split_ands); (try dsimp only); refine same_of ?_; (repeat (first | with_reducible assumption | with_reducible exact Below.refl _ _ | with_reducible refine Below.drew ?_ | with_reducible refine below_drewN ?_ _ | with_reducible refine below_alloc ?_ _ | with_reducible refine Below.alloc ?_ (by first | omega | (simp; done) | (simp; omega)) _ | with_reducible refine Below.setCell ?_ (by first | omega | (simp; done) | (simp; omega)) _ | with_reducible refine below_setRow ?_ (by first | omega | (simp; done) | (simp; omega)) _)); done)) (fail)
    all_goals (go_wp2_with fail; go_meet; exact ⟨_, _, _, rfl, rfl, rfl, (by repeat (first | with_reducible assumption | with_reducible exact Below.refl _ _ | with_reducible refine Below.drew ?_ | with_reducible refine below_drewN ?_ _ | with_reducible refine below_alloc ?_ _ | with_reducible refine Below.alloc ?_ (by first | omega | (simp; done) | (simp; omega)) _ | with_reducible refine Below.setCell ?_ (by first | omega | (simp; done) | (simp; omega)) _ | with_reducible refine below_setRow ?_ (by first | omega | (simp; done) | (simp; omega)) _)), (by (repeat (first | (with_reducible assumption) | (with_reducible exact alloc_at _ _) | ((with_reducible apply alloc_at'); (simp; done)) | (with_reducible apply alloc_at_lt) | (with_reducible apply heap_drew_at) | (with_reducible apply heap_drewN_at) | (with_reducible apply heap_setCell_same) | ((with_reducible apply heap_set_ne); (first | omega | (dsimp only; omega) | (simp; done) | (simp; omega))) | (with_reducible apply setRow_at) | ((with_reducible apply setRow_ne); (first | omega | (dsimp only; omega) | (simp; done) | (simp; omega)))))), (by (repeat (first | (with_reducible assumption) | (with_reducible exact alloc_at _ _) | ((with_reducible apply alloc_at'); (simp; done)) | (with_reducible apply alloc_at_lt) | (with_reducible apply heap_drew_at) | (with_reducible apply heap_drewN_at) | (with_reducible apply heap_setCell_same) | ((with_reducible apply heap_set_ne); (first | omega | (dsimp only; omega) | (simp; done) | (simp; omega))) | (with_reducible apply setRow_at) | ((with_reducible apply setRow_ne); (first | omega | (dsimp only; omega) | (simp; done) | (simp; omega)))))), (by (repeat (first | (with_reducible assumption) | (with_reducible exact alloc_at _ _) | ((with_reducible apply alloc_at'); (simp; done)) | (with_reducible apply alloc_at_lt) | (with_reducible apply heap_drew_at) | (with_reducible apply heap_drewN_at) | (with_reducible apply heap_setCell_same) | ((with_reducible apply heap_set_ne); (first | omega | (dsimp only; omega) | (simp; done) | (simp; omega))) | (with_reducible apply setRow_at) | ((with_reducible apply setRow_ne); (first | omega | (dsimp only; omega) | (simp; done) | (simp; omega))))))⟩)
  case rest =>
    obtain ⟨x, y, z, rfl, rfl, rfl, hB, hX, hY, hZ⟩ := hcut
    clear c0 c1 c2 c3 c4 c5 hB0 hs0 wo
    have hx := lt_of_at hX
    have hy := lt_of_at hY
    have hz := lt_of_at hZ
    have hsz := hB.size
    go_wp2_with fail
    refine (awake2_any _).mono ?_
    rintro e w1 ⟨rfl, hb1⟩
    have hs1 := hb1.size
    try simp only [World.size_alloc, World.size_setCell] at hs1
    have A_1 : w1.heap[x]? = some (.cells #[.int .u64 an, .int .u64 ad] 24 (0, 0)) := below_at hb1 (by first | omega | (simp; done) | (simp; omega)) (by (repeat (first | (with_reducible assumption) | (with_reducible exact alloc_at _ _) | ((with_reducible apply alloc_at'); (simp; done)) | (with_reducible apply alloc_at_lt) | (with_reducible apply heap_drew_at) | (with_reducible apply heap_drewN_at) | (with_reducible apply heap_setCell_same) | ((with_reducible apply heap_set_ne); (first | omega | (dsimp only; omega) | (simp; done) | (simp; omega))) | (with_reducible apply setRow_at) | ((with_reducible apply setRow_ne); (first | omega | (dsimp only; omega) | (simp; done) | (simp; omega))))))
    have B_1 : w1.heap[y]? = some (.cells #[.int .u64 bn, .int .u64 bd] 24 (0, 0)) := below_at hb1 (by first | omega | (simp; done) | (simp; omega)) (by (repeat (first | (with_reducible assumption) | (with_reducible exact alloc_at _ _) | ((with_reducible apply alloc_at'); (simp; done)) | (with_reducible apply alloc_at_lt) | (with_reducible apply heap_drew_at) | (with_reducible apply heap_drewN_at) | (with_reducible apply heap_setCell_same) | ((with_reducible apply heap_set_ne); (first | omega | (dsimp only; omega) | (simp; done) | (simp; omega))) | (with_reducible apply setRow_at) | ((with_reducible apply setRow_ne); (first | omega | (dsimp only; omega) | (simp; done) | (simp; omega))))))
    have C_1 : w1.heap[z]? = some (.cells #[.int .u64 cn, .int .u64 cd] 24 (0, 0)) := below_at hb1 (by first | omega | (simp; done) | (simp; omega)) (by (repeat (first | (with_reducible assumption) | (with_reducible exact alloc_at _ _) | ((with_reducible apply alloc_at'); (simp; done)) | (with_reducible apply alloc_at_lt) | (with_reducible apply heap_drew_at) | (with_reducible apply heap_drewN_at) | (with_reducible apply heap_setCell_same) | ((with_reducible apply heap_set_ne); (first | omega | (dsimp only; omega) | (simp; done) | (simp; omega))) | (with_reducible apply setRow_at) | ((with_reducible apply setRow_ne); (first | omega | (dsimp only; omega) | (simp; done) | (simp; omega))))))
    have B1 : Below w.heap.size w w1 := Below.trans (by repeat (first | with_reducible assumption | with_reducible exact Below.refl _ _ | with_reducible refine Below.drew ?_ | with_reducible refine below_drewN ?_ _ | with_reducible refine below_alloc ?_ _ | with_reducible refine Below.alloc ?_ (by first | omega | (simp; done) | (simp; omega)) _ | with_reducible refine Below.setCell ?_ (by first | omega | (simp; done) | (simp; omega)) _ | with_reducible refine below_setRow ?_ (by first | omega | (simp; done) | (simp; omega)) _)) (hb1.mono (by first | omega | (simp; done) | (simp; omega)))
    clear hb1
    have Ac0 : w1.cell? ⟨x, 0, none⟩ = some (.int .u64 an) := (blk_cell A_1 0).trans rfl
    have Ac1 : w1.cell? ⟨x, 1, none⟩ = some (.int .u64 ad) := (blk_cell A_1 1).trans rfl
    have Acf := blk_free A_1
    have Bc0 : w1.cell? ⟨y, 0, none⟩ = some (.int .u64 bn) := (blk_cell B_1 0).trans rfl
    have Bc1 : w1.cell? ⟨y, 1, none⟩ = some (.int .u64 bd) := (blk_cell B_1 1).trans rfl
    have Bcf := blk_free B_1
    have Cc0 : w1.cell? ⟨z, 0, none⟩ = some (.int .u64 cn) := (blk_cell C_1 0).trans rfl
    have Cc1 : w1.cell? ⟨z, 1, none⟩ = some (.int .u64 cd) := (blk_cell C_1 1).trans rfl
    have Ccf := blk_free C_1
    have Al1 : x < w1.heap.size := by omega
    have Bl1 : y < w1.heap.size := by omega
    have Cl1 : z < w1.heap.size := by omega
    go_wp2_with fail
    refine (HA.out _).mono ?_
    rintro e w2 ⟨rfl, hb2⟩
    have hs2 := hb2.size
    try simp only [World.size_alloc, World.size_setCell] at hs2
    have A_2 : w2.heap[x]? = some (.cells #[.int .u64 an, .int .u64 ad] 24 (0, 0)) := below_at hb2 (by first | omega | (simp; done) | (simp; omega)) (by (repeat (first | (with_reducible assumption) | (with_reducible exact alloc_at _ _) | ((with_reducible apply alloc_at'); (simp; done)) | (with_reducible apply alloc_at_lt) | (with_reducible apply heap_drew_at) | (with_reducible apply heap_drewN_at) | (with_reducible apply heap_setCell_same) | ((with_reducible apply heap_set_ne); (first | omega | (dsimp only; omega) | (simp; done) | (simp; omega))) | (with_reducible apply setRow_at) | ((with_reducible apply setRow_ne); (first | omega | (dsimp only; omega) | (simp; done) | (simp; omega))))))
    have B_2 : w2.heap[y]? = some (.cells #[.int .u64 bn, .int .u64 bd] 24 (0, 0)) := below_at hb2 (by first | omega | (simp; done) | (simp; omega)) (by (repeat (first | (with_reducible assumption) | (with_reducible exact alloc_at _ _) | ((with_reducible apply alloc_at'); (simp; done)) | (with_reducible apply alloc_at_lt) | (with_reducible apply heap_drew_at) | (with_reducible apply heap_drewN_at) | (with_reducible apply heap_setCell_same) | ((with_reducible apply heap_set_ne); (first | omega | (dsimp only; omega) | (simp; done) | (simp; omega))) | (with_reducible apply setRow_at) | ((with_reducible apply setRow_ne); (first | omega | (dsimp only; omega) | (simp; done) | (simp; omega))))))
    have C_2 : w2.heap[z]? = some (.cells #[.int .u64 cn, .int .u64 cd] 24 (0, 0)) := below_at hb2 (by first | omega | (simp; done) | (simp; omega)) (by (repeat (first | (with_reducible assumption) | (with_reducible exact alloc_at _ _) | ((with_reducible apply alloc_at'); (simp; done)) | (with_reducible apply alloc_at_lt) | (with_reducible apply heap_drew_at) | (with_reducible apply heap_drewN_at) | (with_reducible apply heap_setCell_same) | ((with_reducible apply heap_set_ne); (first | omega | (dsimp only; omega) | (simp; done) | (simp; omega))) | (with_reducible apply setRow_at) | ((with_reducible apply setRow_ne); (first | omega | (dsimp only; omega) | (simp; done) | (simp; omega))))))
    have B2 : Below w.heap.size w w2 := Below.trans (by repeat (first | with_reducible assumption | with_reducible exact Below.refl _ _ | with_reducible refine Below.drew ?_ | with_reducible refine below_drewN ?_ _ | with_reducible refine below_alloc ?_ _ | with_reducible refine Below.alloc ?_ (by first | omega | (simp; done) | (simp; omega)) _ | with_reducible refine Below.setCell ?_ (by first | omega | (simp; done) | (simp; omega)) _ | with_reducible refine below_setRow ?_ (by first | omega | (simp; done) | (simp; omega)) _)) (hb2.mono (by first | omega | (simp; done) | (simp; omega)))
    clear hb2 A_1 B_1 C_1
    clear Ac0 Ac1 Acf
    clear Bc0 Bc1 Bcf
    clear Cc0 Cc1 Ccf
    have Ac0 : w2.cell? ⟨x, 0, none⟩ = some (.int .u64 an) := (blk_cell A_2 0).trans rfl
    have Ac1 : w2.cell? ⟨x, 1, none⟩ = some (.int .u64 ad) := (blk_cell A_2 1).trans rfl
    have Acf := blk_free A_2
    have Bc0 : w2.cell? ⟨y, 0, none⟩ = some (.int .u64 bn) := (blk_cell B_2 0).trans rfl
    have Bc1 : w2.cell? ⟨y, 1, none⟩ = some (.int .u64 bd) := (blk_cell B_2 1).trans rfl
    have Bcf := blk_free B_2
    have Cc0 : w2.cell? ⟨z, 0, none⟩ = some (.int .u64 cn) := (blk_cell C_2 0).trans rfl
    have Cc1 : w2.cell? ⟨z, 1, none⟩ = some (.int .u64 cd) := (blk_cell C_2 1).trans rfl
    have Ccf := blk_free C_2
    have Al2 : x < w2.heap.size := by omega
    have Bl2 : y < w2.heap.size := by omega
    have Cl2 : z < w2.heap.size := by omega
    go_wp2_with fail
    refine (HP.out _).mono ?_
    rintro e w3 ⟨rfl, hb3⟩
    have hs3 := hb3.size
    try simp only [World.size_alloc, World.size_setCell] at hs3
    have A_3 : w3.heap[x]? = some (.cells #[.int .u64 an, .int .u64 ad] 24 (0, 0)) := below_at hb3 (by first | omega | (simp; done) | (simp; omega)) (by (repeat (first | (with_reducible assumption) | (with_reducible exact alloc_at _ _) | ((with_reducible apply alloc_at'); (simp; done)) | (with_reducible apply alloc_at_lt) | (with_reducible apply heap_drew_at) | (with_reducible apply heap_drewN_at) | (with_reducible apply heap_setCell_same) | ((with_reducible apply heap_set_ne); (first | omega | (dsimp only; omega) | (simp; done) | (simp; omega))) | (with_reducible apply setRow_at) | ((with_reducible apply setRow_ne); (first | omega | (dsimp only; omega) | (simp; done) | (simp; omega))))))
    have B_3 : w3.heap[y]? = some (.cells #[.int .u64 bn, .int .u64 bd] 24 (0, 0)) := below_at hb3 (by first | omega | (simp; done) | (simp; omega)) (by (repeat (first | (with_reducible assumption) | (with_reducible exact alloc_at _ _) | ((with_reducible apply alloc_at'); (simp; done)) | (with_reducible apply alloc_at_lt) | (with_reducible apply heap_drew_at) | (with_reducible apply heap_drewN_at) | (with_reducible apply heap_setCell_same) | ((with_reducible apply heap_set_ne); (first | omega | (dsimp only; omega) | (simp; done) | (simp; omega))) | (with_reducible apply setRow_at) | ((with_reducible apply setRow_ne); (first | omega | (dsimp only; omega) | (simp; done) | (simp; omega))))))
    have C_3 : w3.heap[z]? = some (.cells #[.int .u64 cn, .int .u64 cd] 24 (0, 0)) := below_at hb3 (by first | omega | (simp; done) | (simp; omega)) (by (repeat (first | (with_reducible assumption) | (with_reducible exact alloc_at _ _) | ((with_reducible apply alloc_at'); (simp; done)) | (with_reducible apply alloc_at_lt) | (with_reducible apply heap_drew_at) | (with_reducible apply heap_drewN_at) | (with_reducible apply heap_setCell_same) | ((with_reducible apply heap_set_ne); (first | omega | (dsimp only; omega) | (simp; done) | (simp; omega))) | (with_reducible apply setRow_at) | ((with_reducible apply setRow_ne); (first | omega | (dsimp only; omega) | (simp; done) | (simp; omega))))))
    have S_3 : w3.heap[w2.heap.size]? = some (.cells #[.int .u64 sn, .int .u64 sd] 24 (0, 0)) := below_at hb3 (by first | omega | (simp; done) | (simp; omega)) (by (repeat (first | (with_reducible assumption) | (with_reducible exact alloc_at _ _) | ((with_reducible apply alloc_at'); (simp; done)) | (with_reducible apply alloc_at_lt) | (with_reducible apply heap_drew_at) | (with_reducible apply heap_drewN_at) | (with_reducible apply heap_setCell_same) | ((with_reducible apply heap_set_ne); (first | omega | (dsimp only; omega) | (simp; done) | (simp; omega))) | (with_reducible apply setRow_at) | ((with_reducible apply setRow_ne); (first | omega | (dsimp only; omega) | (simp; done) | (simp; omega))))))
    have B3 : Below w.heap.size w w3 := Below.trans (by repeat (first | with_reducible assumption | with_reducible exact Below.refl _ _ | with_reducible refine Below.drew ?_ | with_reducible refine below_drewN ?_ _ | with_reducible refine below_alloc ?_ _ | with_reducible refine Below.alloc ?_ (by first | omega | (simp; done) | (simp; omega)) _ | with_reducible refine Below.setCell ?_ (by first | omega | (simp; done) | (simp; omega)) _ | with_reducible refine below_setRow ?_ (by first | omega | (simp; done) | (simp; omega)) _)) (hb3.mono (by first | omega | (simp; done) | (simp; omega)))
    clear hb3 A_2 B_2 C_2
    clear Ac0 Ac1 Acf
    clear Bc0 Bc1 Bcf
    clear Cc0 Cc1 Ccf
    have Ac0 : w3.cell? ⟨x, 0, none⟩ = some (.int .u64 an) := (blk_cell A_3 0).trans rfl
    have Ac1 : w3.cell? ⟨x, 1, none⟩ = some (.int .u64 ad) := (blk_cell A_3 1).trans rfl
    have Acf := blk_free A_3
    have Bc0 : w3.cell? ⟨y, 0, none⟩ = some (.int .u64 bn) := (blk_cell B_3 0).trans rfl
    have Bc1 : w3.cell? ⟨y, 1, none⟩ = some (.int .u64 bd) := (blk_cell B_3 1).trans rfl
    have Bcf := blk_free B_3
    have Cc0 : w3.cell? ⟨z, 0, none⟩ = some (.int .u64 cn) := (blk_cell C_3 0).trans rfl
    have Cc1 : w3.cell? ⟨z, 1, none⟩ = some (.int .u64 cd) := (blk_cell C_3 1).trans rfl
    have Ccf := blk_free C_3
    have Sc0 : w3.cell? ⟨w2.heap.size, 0, none⟩ = some (.int .u64 sn) := (blk_cell S_3 0).trans rfl
    have Sc1 : w3.cell? ⟨w2.heap.size, 1, none⟩ = some (.int .u64 sd) := (blk_cell S_3 1).trans rfl
    have Scf := blk_free S_3
    have Al3 : x < w3.heap.size := by omega
    have Bl3 : y < w3.heap.size := by omega
    have Cl3 : z < w3.heap.size := by omega
    have Sl3 : w2.heap.size < w3.heap.size := by omega
    go_wp2_with fail
    refine (HX.out _).mono ?_
    rintro e w4 ⟨rfl, hb4⟩
    have hs4 := hb4.size
    try simp only [World.size_alloc, World.size_setCell] at hs4
    have A_4 : w4.heap[x]? = some (.cells #[.int .u64 an, .int .u64 ad] 24 (0, 0)) := below_at hb4 (by first | omega | (simp; done) | (simp; omega)) (by (repeat (first | (with_reducible assumption) | (with_reducible exact alloc_at _ _) | ((with_reducible apply alloc_at'); (simp; done)) | (with_reducible apply alloc_at_lt) | (with_reducible apply heap_drew_at) | (with_reducible apply heap_drewN_at) | (with_reducible apply heap_setCell_same) | ((with_reducible apply heap_set_ne); (first | omega | (dsimp only; omega) | (simp; done) | (simp; omega))) | (with_reducible apply setRow_at) | ((with_reducible apply setRow_ne); (first | omega | (dsimp only; omega) | (simp; done) | (simp; omega))))))
    have B_4 : w4.heap[y]? = some (.cells #[.int .u64 bn, .int .u64 bd] 24 (0, 0)) := below_at hb4 (by first | omega | (simp; done) | (simp; omega)) (by (repeat (first | (with_reducible assumption) | (with_reducible exact alloc_at _ _) | ((with_reducible apply alloc_at'); (simp; done)) | (with_reducible apply alloc_at_lt) | (with_reducible apply heap_drew_at) | (with_reducible apply heap_drewN_at) | (with_reducible apply heap_setCell_same) | ((with_reducible apply heap_set_ne); (first | omega | (dsimp only; omega) | (simp; done) | (simp; omega))) | (with_reducible apply setRow_at) | ((with_reducible apply setRow_ne); (first | omega | (dsimp only; omega) | (simp; done) | (simp; omega))))))
    have C_4 : w4.heap[z]? = some (.cells #[.int .u64 cn, .int .u64 cd] 24 (0, 0)) := below_at hb4 (by first | omega | (simp; done) | (simp; omega)) (by (repeat (first | (with_reducible assumption) | (with_reducible exact alloc_at _ _) | ((with_reducible apply alloc_at'); (simp; done)) | (with_reducible apply alloc_at_lt) | (with_reducible apply heap_drew_at) | (with_reducible apply heap_drewN_at) | (with_reducible apply heap_setCell_same) | ((with_reducible apply heap_set_ne); (first | omega | (dsimp only; omega) | (simp; done) | (simp; omega))) | (with_reducible apply setRow_at) | ((with_reducible apply setRow_ne); (first | omega | (dsimp only; omega) | (simp; done) | (simp; omega))))))
    have S_4 : w4.heap[w2.heap.size]? = some (.cells #[.int .u64 sn, .int .u64 sd] 24 (0, 0)) := below_at hb4 (by first | omega | (simp; done) | (simp; omega)) (by (repeat (first | (with_reducible assumption) | (with_reducible exact alloc_at _ _) | ((with_reducible apply alloc_at'); (simp; done)) | (with_reducible apply alloc_at_lt) | (with_reducible apply heap_drew_at) | (with_reducible apply heap_drewN_at) | (with_reducible apply heap_setCell_same) | ((with_reducible apply heap_set_ne); (first | omega | (dsimp only; omega) | (simp; done) | (simp; omega))) | (with_reducible apply setRow_at) | ((with_reducible apply setRow_ne); (first | omega | (dsimp only; omega) | (simp; done) | (simp; omega))))))
    have P_4 : w4.heap[w3.heap.size]? = some (.cells #[.int .u64 pn, .int .u64 pd] 24 (0, 0)) := below_at hb4 (by first | omega | (simp; done) | (simp; omega)) (by (repeat (first | (with_reducible assumption) | (with_reducible exact alloc_at _ _) | ((with_reducible apply alloc_at'); (simp; done)) | (with_reducible apply alloc_at_lt) | (with_reducible apply heap_drew_at) | (with_reducible apply heap_drewN_at) | (with_reducible apply heap_setCell_same) | ((with_reducible apply heap_set_ne); (first | omega | (dsimp only; omega) | (simp; done) | (simp; omega))) | (with_reducible apply setRow_at) | ((with_reducible apply setRow_ne); (first | omega | (dsimp only; omega) | (simp; done) | (simp; omega))))))
    have B4 : Below w.heap.size w w4 := Below.trans (by repeat (first | with_reducible assumption | with_reducible exact Below.refl _ _ | with_reducible refine Below.drew ?_ | with_reducible refine below_drewN ?_ _ | with_reducible refine below_alloc ?_ _ | with_reducible refine Below.alloc ?_ (by first | omega | (simp; done) | (simp; omega)) _ | with_reducible refine Below.setCell ?_ (by first | omega | (simp; done) | (simp; omega)) _ | with_reducible refine below_setRow ?_ (by first | omega | (simp; done) | (simp; omega)) _)) (hb4.mono (by first | omega | (simp; done) | (simp; omega)))
    clear hb4 A_3 B_3 C_3 S_3
    clear Ac0 Ac1 Acf
    clear Bc0 Bc1 Bcf
    clear Cc0 Cc1 Ccf
    clear Sc0 Sc1 Scf
    have Ac0 : w4.cell? ⟨x, 0, none⟩ = some (.int .u64 an) := (blk_cell A_4 0).trans rfl
    have Ac1 : w4.cell? ⟨x, 1, none⟩ = some (.int .u64 ad) := (blk_cell A_4 1).trans rfl
    have Acf := blk_free A_4
    have Bc0 : w4.cell? ⟨y, 0, none⟩ = some (.int .u64 bn) := (blk_cell B_4 0).trans rfl
    have Bc1 : w4.cell? ⟨y, 1, none⟩ = some (.int .u64 bd) := (blk_cell B_4 1).trans rfl
    have Bcf := blk_free B_4
    have Cc0 : w4.cell? ⟨z, 0, none⟩ = some (.int .u64 cn) := (blk_cell C_4 0).trans rfl
    have Cc1 : w4.cell? ⟨z, 1, none⟩ = some (.int .u64 cd) := (blk_cell C_4 1).trans rfl
    have Ccf := blk_free C_4
    have Sc0 : w4.cell? ⟨w2.heap.size, 0, none⟩ = some (.int .u64 sn) := (blk_cell S_4 0).trans rfl
    have Sc1 : w4.cell? ⟨w2.heap.size, 1, none⟩ = some (.int .u64 sd) := (blk_cell S_4 1).trans rfl
    have Scf := blk_free S_4
    have Pc0 : w4.cell? ⟨w3.heap.size, 0, none⟩ = some (.int .u64 pn) := (blk_cell P_4 0).trans rfl
    have Pc1 : w4.cell? ⟨w3.heap.size, 1, none⟩ = some (.int .u64 pd) := (blk_cell P_4 1).trans rfl
    have Pcf := blk_free P_4
    have Al4 : x < w4.heap.size := by omega
    have Bl4 : y < w4.heap.size := by omega
    have Cl4 : z < w4.heap.size := by omega
    have Sl4 : w2.heap.size < w4.heap.size := by omega
    have Pl4 : w3.heap.size < w4.heap.size := by omega
    go_wp2_with fail
    refine (HY.out _).mono ?_
    rintro e w5 ⟨rfl, hb5⟩
    have hs5 := hb5.size
    try simp only [World.size_alloc, World.size_setCell] at hs5
    have A_5 : w5.heap[x]? = some (.cells #[.int .u64 an, .int .u64 ad] 24 (0, 0)) := below_at hb5 (by first | omega | (simp; done) | (simp; omega)) (by (repeat (first | (with_reducible assumption) | (with_reducible exact alloc_at _ _) | ((with_reducible apply alloc_at'); (simp; done)) | (with_reducible apply alloc_at_lt) | (with_reducible apply heap_drew_at) | (with_reducible apply heap_drewN_at) | (with_reducible apply heap_setCell_same) | ((with_reducible apply heap_set_ne); (first | omega | (dsimp only; omega) | (simp; done) | (simp; omega))) | (with_reducible apply setRow_at) | ((with_reducible apply setRow_ne); (first | omega | (dsimp only; omega) | (simp; done) | (simp; omega))))))
    have B_5 : w5.heap[y]? = some (.cells #[.int .u64 bn, .int .u64 bd] 24 (0, 0)) := below_at hb5 (by first | omega | (simp; done) | (simp; omega)) (by (repeat (first | (with_reducible assumption) | (with_reducible exact alloc_at _ _) | ((with_reducible apply alloc_at'); (simp; done)) | (with_reducible apply alloc_at_lt) | (with_reducible apply heap_drew_at) | (with_reducible apply heap_drewN_at) | (with_reducible apply heap_setCell_same) | ((with_reducible apply heap_set_ne); (first | omega | (dsimp only; omega) | (simp; done) | (simp; omega))) | (with_reducible apply setRow_at) | ((with_reducible apply setRow_ne); (first | omega | (dsimp only; omega) | (simp; done) | (simp; omega))))))
    have C_5 : w5.heap[z]? = some (.cells #[.int .u64 cn, .int .u64 cd] 24 (0, 0)) := below_at hb5 (by first | omega | (simp; done) | (simp; omega)) (by (repeat (first | (with_reducible assumption) | (with_reducible exact alloc_at _ _) | ((with_reducible apply alloc_at'); (simp; done)) | (with_reducible apply alloc_at_lt) | (with_reducible apply heap_drew_at) | (with_reducible apply heap_drewN_at) | (with_reducible apply heap_setCell_same) | ((with_reducible apply heap_set_ne); (first | omega | (dsimp only; omega) | (simp; done) | (simp; omega))) | (with_reducible apply setRow_at) | ((with_reducible apply setRow_ne); (first | omega | (dsimp only; omega) | (simp; done) | (simp; omega))))))
    have S_5 : w5.heap[w2.heap.size]? = some (.cells #[.int .u64 sn, .int .u64 sd] 24 (0, 0)) := below_at hb5 (by first | omega | (simp; done) | (simp; omega)) (by (repeat (first | (with_reducible assumption) | (with_reducible exact alloc_at _ _) | ((with_reducible apply alloc_at'); (simp; done)) | (with_reducible apply alloc_at_lt) | (with_reducible apply heap_drew_at) | (with_reducible apply heap_drewN_at) | (with_reducible apply heap_setCell_same) | ((with_reducible apply heap_set_ne); (first | omega | (dsimp only; omega) | (simp; done) | (simp; omega))) | (with_reducible apply setRow_at) | ((with_reducible apply setRow_ne); (first | omega | (dsimp only; omega) | (simp; done) | (simp; omega))))))
    have P_5 : w5.heap[w3.heap.size]? = some (.cells #[.int .u64 pn, .int .u64 pd] 24 (0, 0)) := below_at hb5 (by first | omega | (simp; done) | (simp; omega)) (by (repeat (first | (with_reducible assumption) | (with_reducible exact alloc_at _ _) | ((with_reducible apply alloc_at'); (simp; done)) | (with_reducible apply alloc_at_lt) | (with_reducible apply heap_drew_at) | (with_reducible apply heap_drewN_at) | (with_reducible apply heap_setCell_same) | ((with_reducible apply heap_set_ne); (first | omega | (dsimp only; omega) | (simp; done) | (simp; omega))) | (with_reducible apply setRow_at) | ((with_reducible apply setRow_ne); (first | omega | (dsimp only; omega) | (simp; done) | (simp; omega))))))
    have X_5 : w5.heap[w4.heap.size]? = some (.cells #[.int .u64 xn, .int .u64 xd] 24 (0, 0)) := below_at hb5 (by first | omega | (simp; done) | (simp; omega)) (by (repeat (first | (with_reducible assumption) | (with_reducible exact alloc_at _ _) | ((with_reducible apply alloc_at'); (simp; done)) | (with_reducible apply alloc_at_lt) | (with_reducible apply heap_drew_at) | (with_reducible apply heap_drewN_at) | (with_reducible apply heap_setCell_same) | ((with_reducible apply heap_set_ne); (first | omega | (dsimp only; omega) | (simp; done) | (simp; omega))) | (with_reducible apply setRow_at) | ((with_reducible apply setRow_ne); (first | omega | (dsimp only; omega) | (simp; done) | (simp; omega))))))
    have B5 : Below w.heap.size w w5 := Below.trans (by repeat (first | with_reducible assumption | with_reducible exact Below.refl _ _ | with_reducible refine Below.drew ?_ | with_reducible refine below_drewN ?_ _ | with_reducible refine below_alloc ?_ _ | with_reducible refine Below.alloc ?_ (by first | omega | (simp; done) | (simp; omega)) _ | with_reducible refine Below.setCell ?_ (by first | omega | (simp; done) | (simp; omega)) _ | with_reducible refine below_setRow ?_ (by first | omega | (simp; done) | (simp; omega)) _)) (hb5.mono (by first | omega | (simp; done) | (simp; omega)))
    clear hb5 A_4 B_4 C_4 S_4 P_4
    clear Ac0 Ac1 Acf
    clear Bc0 Bc1 Bcf
    clear Cc0 Cc1 Ccf
    clear Sc0 Sc1 Scf
    clear Pc0 Pc1 Pcf
    have Ac0 : w5.cell? ⟨x, 0, none⟩ = some (.int .u64 an) := (blk_cell A_5 0).trans rfl
    have Ac1 : w5.cell? ⟨x, 1, none⟩ = some (.int .u64 ad) := (blk_cell A_5 1).trans rfl
    have Acf := blk_free A_5
    have Bc0 : w5.cell? ⟨y, 0, none⟩ = some (.int .u64 bn) := (blk_cell B_5 0).trans rfl
    have Bc1 : w5.cell? ⟨y, 1, none⟩ = some (.int .u64 bd) := (blk_cell B_5 1).trans rfl
    have Bcf := blk_free B_5
    have Cc0 : w5.cell? ⟨z, 0, none⟩ = some (.int .u64 cn) := (blk_cell C_5 0).trans rfl
    have Cc1 : w5.cell? ⟨z, 1, none⟩ = some (.int .u64 cd) := (blk_cell C_5 1).trans rfl
    have Ccf := blk_free C_5
    have Sc0 : w5.cell? ⟨w2.heap.size, 0, none⟩ = some (.int .u64 sn) := (blk_cell S_5 0).trans rfl
    have Sc1 : w5.cell? ⟨w2.heap.size, 1, none⟩ = some (.int .u64 sd) := (blk_cell S_5 1).trans rfl
    have Scf := blk_free S_5
    have Pc0 : w5.cell? ⟨w3.heap.size, 0, none⟩ = some (.int .u64 pn) := (blk_cell P_5 0).trans rfl
    have Pc1 : w5.cell? ⟨w3.heap.size, 1, none⟩ = some (.int .u64 pd) := (blk_cell P_5 1).trans rfl
    have Pcf := blk_free P_5
    have Xc0 : w5.cell? ⟨w4.heap.size, 0, none⟩ = some (.int .u64 xn) := (blk_cell X_5 0).trans rfl
    have Xc1 : w5.cell? ⟨w4.heap.size, 1, none⟩ = some (.int .u64 xd) := (blk_cell X_5 1).trans rfl
    have Xcf := blk_free X_5
    have Al5 : x < w5.heap.size := by omega
    have Bl5 : y < w5.heap.size := by omega
    have Cl5 : z < w5.heap.size := by omega
    have Sl5 : w2.heap.size < w5.heap.size := by omega
    have Pl5 : w3.heap.size < w5.heap.size := by omega
    have Xl5 : w4.heap.size < w5.heap.size := by omega
    go_wp2_with fail
    refine (HZ.out _).mono ?_
    rintro e w6 ⟨rfl, hb6⟩
    have hs6 := hb6.size
    try simp only [World.size_alloc, World.size_setCell] at hs6
    have A_6 : w6.heap[x]? = some (.cells #[.int .u64 an, .int .u64 ad] 24 (0, 0)) := below_at hb6 (by first | omega | (simp; done) | (simp; omega)) (by (repeat (first | (with_reducible assumption) | (with_reducible exact alloc_at _ _) | ((with_reducible apply alloc_at'); (simp; done)) | (with_reducible apply alloc_at_lt) | (with_reducible apply heap_drew_at) | (with_reducible apply heap_drewN_at) | (with_reducible apply heap_setCell_same) | ((with_reducible apply heap_set_ne); (first | omega | (dsimp only; omega) | (simp; done) | (simp; omega))) | (with_reducible apply setRow_at) | ((with_reducible apply setRow_ne); (first | omega | (dsimp only; omega) | (simp; done) | (simp; omega))))))
    have B_6 : w6.heap[y]? = some (.cells #[.int .u64 bn, .int .u64 bd] 24 (0, 0)) := below_at hb6 (by first | omega | (simp; done) | (simp; omega)) (by (repeat (first | (with_reducible assumption) | (with_reducible exact alloc_at _ _) | ((with_reducible apply alloc_at'); (simp; done)) | (with_reducible apply alloc_at_lt) | (with_reducible apply heap_drew_at) | (with_reducible apply heap_drewN_at) | (with_reducible apply heap_setCell_same) | ((with_reducible apply heap_set_ne); (first | omega | (dsimp only; omega) | (simp; done) | (simp; omega))) | (with_reducible apply setRow_at) | ((with_reducible apply setRow_ne); (first | omega | (dsimp only; omega) | (simp; done) | (simp; omega))))))
    have C_6 : w6.heap[z]? = some (.cells #[.int .u64 cn, .int .u64 cd] 24 (0, 0)) := below_at hb6 (by first | omega | (simp; done) | (simp; omega)) (by (repeat (first | (with_reducible assumption) | (with_reducible exact alloc_at _ _) | ((with_reducible apply alloc_at'); (simp; done)) | (with_reducible apply alloc_at_lt) | (with_reducible apply heap_drew_at) | (with_reducible apply heap_drewN_at) | (with_reducible apply heap_setCell_same) | ((with_reducible apply heap_set_ne); (first | omega | (dsimp only; omega) | (simp; done) | (simp; omega))) | (with_reducible apply setRow_at) | ((with_reducible apply setRow_ne); (first | omega | (dsimp only; omega) | (simp; done) | (simp; omega))))))
    have S_6 : w6.heap[w2.heap.size]? = some (.cells #[.int .u64 sn, .int .u64 sd] 24 (0, 0)) := below_at hb6 (by first | omega | (simp; done) | (simp; omega)) (by (repeat (first | (with_reducible assumption) | (with_reducible exact alloc_at _ _) | ((with_reducible apply alloc_at'); (simp; done)) | (with_reducible apply alloc_at_lt) | (with_reducible apply heap_drew_at) | (with_reducible apply heap_drewN_at) | (with_reducible apply heap_setCell_same) | ((with_reducible apply heap_set_ne); (first | omega | (dsimp only; omega) | (simp; done) | (simp; omega))) | (with_reducible apply setRow_at) | ((with_reducible apply setRow_ne); (first | omega | (dsimp only; omega) | (simp; done) | (simp; omega))))))
    have P_6 : w6.heap[w3.heap.size]? = some (.cells #[.int .u64 pn, .int .u64 pd] 24 (0, 0)) := below_at hb6 (by first | omega | (simp; done) | (simp; omega)) (by (repeat (first | (with_reducible assumption) | (with_reducible exact alloc_at _ _) | ((with_reducible apply alloc_at'); (simp; done)) | (with_reducible apply alloc_at_lt) | (with_reducible apply heap_drew_at) | (with_reducible apply heap_drewN_at) | (with_reducible apply heap_setCell_same) | ((with_reducible apply heap_set_ne); (first | omega | (dsimp only; omega) | (simp; done) | (simp; omega))) | (with_reducible apply setRow_at) | ((with_reducible apply setRow_ne); (first | omega | (dsimp only; omega) | (simp; done) | (simp; omega))))))
    have X_6 : w6.heap[w4.heap.size]? = some (.cells #[.int .u64 xn, .int .u64 xd] 24 (0, 0)) := below_at hb6 (by first | omega | (simp; done) | (simp; omega)) (by (repeat (first | (with_reducible assumption) | (with_reducible exact alloc_at _ _) | ((with_reducible apply alloc_at'); (simp; done)) | (with_reducible apply alloc_at_lt) | (with_reducible apply heap_drew_at) | (with_reducible apply heap_drewN_at) | (with_reducible apply heap_setCell_same) | ((with_reducible apply heap_set_ne); (first | omega | (dsimp only; omega) | (simp; done) | (simp; omega))) | (with_reducible apply setRow_at) | ((with_reducible apply setRow_ne); (first | omega | (dsimp only; omega) | (simp; done) | (simp; omega))))))
    have Y_6 : w6.heap[w5.heap.size]? = some (.cells #[.int .u64 yn, .int .u64 yd] 24 (0, 0)) := below_at hb6 (by first | omega | (simp; done) | (simp; omega)) (by (repeat (first | (with_reducible assumption) | (with_reducible exact alloc_at _ _) | ((with_reducible apply alloc_at'); (simp; done)) | (with_reducible apply alloc_at_lt) | (with_reducible apply heap_drew_at) | (with_reducible apply heap_drewN_at) | (with_reducible apply heap_setCell_same) | ((with_reducible apply heap_set_ne); (first | omega | (dsimp only; omega) | (simp; done) | (simp; omega))) | (with_reducible apply setRow_at) | ((with_reducible apply setRow_ne); (first | omega | (dsimp only; omega) | (simp; done) | (simp; omega))))))
    have B6 : Below w.heap.size w w6 := Below.trans (by repeat (first | with_reducible assumption | with_reducible exact Below.refl _ _ | with_reducible refine Below.drew ?_ | with_reducible refine below_drewN ?_ _ | with_reducible refine below_alloc ?_ _ | with_reducible refine Below.alloc ?_ (by first | omega | (simp; done) | (simp; omega)) _ | with_reducible refine Below.setCell ?_ (by first | omega | (simp; done) | (simp; omega)) _ | with_reducible refine below_setRow ?_ (by first | omega | (simp; done) | (simp; omega)) _)) (hb6.mono (by first | omega | (simp; done) | (simp; omega)))
    clear hb6 A_5 B_5 C_5 S_5 P_5 X_5
    clear Ac0 Ac1 Acf
    clear Bc0 Bc1 Bcf
    clear Cc0 Cc1 Ccf
    clear Sc0 Sc1 Scf
    clear Pc0 Pc1 Pcf
    clear Xc0 Xc1 Xcf
    have Ac0 : w6.cell? ⟨x, 0, none⟩ = some (.int .u64 an) := (blk_cell A_6 0).trans rfl
    have Ac1 : w6.cell? ⟨x, 1, none⟩ = some (.int .u64 ad) := (blk_cell A_6 1).trans rfl
    have Acf := blk_free A_6
    have Bc0 : w6.cell? ⟨y, 0, none⟩ = some (.int .u64 bn) := (blk_cell B_6 0).trans rfl
    have Bc1 : w6.cell? ⟨y, 1, none⟩ = some (.int .u64 bd) := (blk_cell B_6 1).trans rfl
    have Bcf := blk_free B_6
    have Cc0 : w6.cell? ⟨z, 0, none⟩ = some (.int .u64 cn) := (blk_cell C_6 0).trans rfl
    have Cc1 : w6.cell? ⟨z, 1, none⟩ = some (.int .u64 cd) := (blk_cell C_6 1).trans rfl
    have Ccf := blk_free C_6
    have Sc0 : w6.cell? ⟨w2.heap.size, 0, none⟩ = some (.int .u64 sn) := (blk_cell S_6 0).trans rfl
    have Sc1 : w6.cell? ⟨w2.heap.size, 1, none⟩ = some (.int .u64 sd) := (blk_cell S_6 1).trans rfl
    have Scf := blk_free S_6
    have Pc0 : w6.cell? ⟨w3.heap.size, 0, none⟩ = some (.int .u64 pn) := (blk_cell P_6 0).trans rfl
    have Pc1 : w6.cell? ⟨w3.heap.size, 1, none⟩ = some (.int .u64 pd) := (blk_cell P_6 1).trans rfl
    have Pcf := blk_free P_6
    have Xc0 : w6.cell? ⟨w4.heap.size, 0, none⟩ = some (.int .u64 xn) := (blk_cell X_6 0).trans rfl
    have Xc1 : w6.cell? ⟨w4.heap.size, 1, none⟩ = some (.int .u64 xd) := (blk_cell X_6 1).trans rfl
    have Xcf := blk_free X_6
    have Yc0 : w6.cell? ⟨w5.heap.size, 0, none⟩ = some (.int .u64 yn) := (blk_cell Y_6 0).trans rfl
    have Yc1 : w6.cell? ⟨w5.heap.size, 1, none⟩ = some (.int .u64 yd) := (blk_cell Y_6 1).trans rfl
    have Ycf := blk_free Y_6
    have Al6 : x < w6.heap.size := by omega
    have Bl6 : y < w6.heap.size := by omega
    have Cl6 : z < w6.heap.size := by omega
    have Sl6 : w2.heap.size < w6.heap.size := by omega
    have Pl6 : w3.heap.size < w6.heap.size := by omega
    have Xl6 : w4.heap.size < w6.heap.size := by omega
    have Yl6 : w5.heap.size < w6.heap.size := by omega
    go_wp2
    go_ret
    exact ⟨by first | rfl | simp, (by repeat (first | with_reducible assumption | with_reducible exact Below.refl _ _ | with_reducible refine Below.drew ?_ | with_reducible refine below_drewN ?_ _ | with_reducible refine below_alloc ?_ _ | with_reducible refine Below.alloc ?_ (by first | omega | (simp; done) | (simp; omega)) _ | with_reducible refine Below.setCell ?_ (by first | omega | (simp; done) | (simp; omega)) _ | with_reducible refine below_setRow ?_ (by first | omega | (simp; done) | (simp; omega)) _))⟩
set_option maxRecDepth 100000 in
set_option maxHeartbeats 4000000 in
theorem parts_r4 (an ad bn bd cn cd sn sd pn pd xn xd yn yd zn zd e4 e5 : Int) (w : World) (hq : (e4 != 0) = true)
    (HA : Hid (∀ W, Calls Try.prog 15 #[.agg #[.int .u64 an, .int .u64 ad], .agg #[.int .u64 bn, .int .u64 bd]] W fun e w' => e = .returned (.tuple #[.agg #[.int .u64 sn, .int .u64 sd], .int .i64 0]) ∧ Below W.heap.size W w')) (HP : Hid (∀ W, Calls Try.prog 16 #[.agg #[.int .u64 sn, .int .u64 sd], .agg #[.int .u64 cn, .int .u64 cd]] W fun e w' => e = .returned (.tuple #[.agg #[.int .u64 pn, .int .u64 pd], .int .i64 0]) ∧ Below W.heap.size W w')) (HX : Hid (∀ W, Calls Try.prog 16 #[.agg #[.int .u64 an, .int .u64 ad], .agg #[.int .u64 cn, .int .u64 cd]] W fun e w' => e = .returned (.tuple #[.agg #[.int .u64 xn, .int .u64 xd], .int .i64 0]) ∧ Below W.heap.size W w')) (HY : Hid (∀ W, Calls Try.prog 16 #[.agg #[.int .u64 bn, .int .u64 bd], .agg #[.int .u64 cn, .int .u64 cd]] W fun e w' => e = .returned (.tuple #[.agg #[.int .u64 yn, .int .u64 yd], .int .i64 e4]) ∧ Below W.heap.size W w')) (HZ : Hid (∀ W, Calls Try.prog 15 #[.agg #[.int .u64 xn, .int .u64 xd], .agg #[.int .u64 yn, .int .u64 yd]] W fun e w' => e = .returned (.tuple #[.agg #[.int .u64 zn, .int .u64 zd], .int .i64 e5]) ∧ Below W.heap.size W w')) :
    Calls Try.prog 5 #[.agg #[.int .u64 an, .int .u64 ad, .int .u64 bn, .int .u64 bd, .int .u64 cn, .int .u64 cd]] w fun e w' => e = .returned (.bool true) ∧ Below w.heap.size w w' := by
  go_enter Try.func5, Try.ntmps5
  go_upto_region 1 with fail
  obtain ⟨wo, hwo⟩ : ∃ wo : World, wo = w.alloc (.cells #[.int .u64 an, .int .u64 ad, .int .u64 bn, .int .u64 bd, .int .u64 cn, .int .u64 cd] 38) := ⟨_, rfl⟩
  rw [← hwo]
  have hT : wo.heap[w.heap.size]? = some (.cells #[.int .u64 an, .int .u64 ad, .int .u64 bn, .int .u64 bd, .int .u64 cn, .int .u64 cd] 38 (0, 0)) := by rw [hwo]; exact alloc_at _ _
  have hB0 : Below w.heap.size w wo := by rw [hwo]; exact (by repeat (first | with_reducible assumption | with_reducible exact Below.refl _ _ | with_reducible refine Below.drew ?_ | with_reducible refine below_drewN ?_ _ | with_reducible refine below_alloc ?_ _ | with_reducible refine Below.alloc ?_ (by first | omega | (simp; done) | (simp; omega)) _ | with_reducible refine Below.setCell ?_ (by first | omega | (simp; done) | (simp; omega)) _ | with_reducible refine below_setRow ?_ (by first | omega | (simp; done) | (simp; omega)) _))
  have hs0 : w.heap.size < wo.heap.size := by rw [hwo]; simp
  have c0 := blk_cell hT 0
  have c1 := blk_cell hT 1
  have c2 := blk_cell hT 2
  have c3 := blk_cell hT 3
  have c4 := blk_cell hT 4
  have c5 := blk_cell hT 5
  simp at c0 c1 c2 c3 c4 c5
  clear hwo hT
  go_cut [3, 4, 5] (fun s5 s6 s7 wx => ∃ x y z : Nat, s5 = .pointer (some ⟨x, 0, none⟩) ∧ s6 = .pointer (some ⟨y, 0, none⟩) ∧ s7 = .pointer (some ⟨z, 0, none⟩) ∧ Below w.heap.size w wx ∧
    wx.heap[x]? = some (.cells #[.int .u64 an, .int .u64 ad] 24 (0, 0)) ∧ wx.heap[y]? = some (.cells #[.int .u64 bn, .int .u64 bd] 24 (0, 0)) ∧ wx.heap[z]? = some (.cells #[.int .u64 cn, .int .u64 cd] 24 (0, 0)))
  case first =>
    go_region_held3 (fun w' => Below wo.heap.size wo w' ∧ (∀ b o, b < wo.heap.size → w'.cell? ⟨b, o, none⟩ = wo.cell? ⟨b, o, none⟩) ∧ ∀ b o, b < wo.heap.size → w'.frozen? ⟨b, o, none⟩ = wo.frozen? ⟨b, o, none⟩) (first | ((try go_split_ands); (try dsimp only); refine same_of ?_; (repeat (first | with_reducible assumption | with_reducible exact Below.refl _ _ | with_reducible refine Below.drew ?_ | with_reducible refine below_drewN ?_ _ | with_reducible refine below_alloc ?_ _ | with_reducible refine Below.alloc ?_ (by first | omega | (simp; done) | (simp; omega)) _ | with_reducible refine Below.setCell ?_ (by first | omega | (simp; done) | (simp; omega)) _ | with_reducible refine below_setRow ?_ (by first | omega | (simp; done) | (simp; omega)) _)); done)) (fail)
    all_goals (go_wp2_with fail; go_meet; exact ⟨_, _, _, rfl, rfl, rfl, (by repeat (first | with_reducible assumption | with_reducible exact Below.refl _ _ | with_reducible refine Below.drew ?_ | with_reducible refine below_drewN ?_ _ | with_reducible refine below_alloc ?_ _ | with_reducible refine Below.alloc ?_ (by first | omega | (simp; done) | (simp; omega)) _ | with_reducible refine Below.setCell ?_ (by first | omega | (simp; done) | (simp; omega)) _ | with_reducible refine below_setRow ?_ (by first | omega | (simp; done) | (simp; omega)) _)), (by (repeat (first | (with_reducible assumption) | (with_reducible exact alloc_at _ _) | ((with_reducible apply alloc_at'); (simp; done)) | (with_reducible apply alloc_at_lt) | (with_reducible apply heap_drew_at) | (with_reducible apply heap_drewN_at) | (with_reducible apply heap_setCell_same) | ((with_reducible apply heap_set_ne); (first | omega | (dsimp only; omega) | (simp; done) | (simp; omega))) | (with_reducible apply setRow_at) | ((with_reducible apply setRow_ne); (first | omega | (dsimp only; omega) | (simp; done) | (simp; omega)))))), (by (repeat (first | (with_reducible assumption) | (with_reducible exact alloc_at _ _) | ((with_reducible apply alloc_at'); (simp; done)) | (with_reducible apply alloc_at_lt) | (with_reducible apply heap_drew_at) | (with_reducible apply heap_drewN_at) | (with_reducible apply heap_setCell_same) | ((with_reducible apply heap_set_ne); (first | omega | (dsimp only; omega) | (simp; done) | (simp; omega))) | (with_reducible apply setRow_at) | ((with_reducible apply setRow_ne); (first | omega | (dsimp only; omega) | (simp; done) | (simp; omega)))))), (by (repeat (first | (with_reducible assumption) | (with_reducible exact alloc_at _ _) | ((with_reducible apply alloc_at'); (simp; done)) | (with_reducible apply alloc_at_lt) | (with_reducible apply heap_drew_at) | (with_reducible apply heap_drewN_at) | (with_reducible apply heap_setCell_same) | ((with_reducible apply heap_set_ne); (first | omega | (dsimp only; omega) | (simp; done) | (simp; omega))) | (with_reducible apply setRow_at) | ((with_reducible apply setRow_ne); (first | omega | (dsimp only; omega) | (simp; done) | (simp; omega))))))⟩)
  case rest =>
    obtain ⟨x, y, z, rfl, rfl, rfl, hB, hX, hY, hZ⟩ := hcut
    clear c0 c1 c2 c3 c4 c5 hB0 hs0 wo
    have hx := lt_of_at hX
    have hy := lt_of_at hY
    have hz := lt_of_at hZ
    have hsz := hB.size
    go_wp2_with fail
    refine (awake2_any _).mono ?_
    rintro e w1 ⟨rfl, hb1⟩
    have hs1 := hb1.size
    try simp only [World.size_alloc, World.size_setCell] at hs1
    have A_1 : w1.heap[x]? = some (.cells #[.int .u64 an, .int .u64 ad] 24 (0, 0)) := below_at hb1 (by first | omega | (simp; done) | (simp; omega)) (by (repeat (first | (with_reducible assumption) | (with_reducible exact alloc_at _ _) | ((with_reducible apply alloc_at'); (simp; done)) | (with_reducible apply alloc_at_lt) | (with_reducible apply heap_drew_at) | (with_reducible apply heap_drewN_at) | (with_reducible apply heap_setCell_same) | ((with_reducible apply heap_set_ne); (first | omega | (dsimp only; omega) | (simp; done) | (simp; omega))) | (with_reducible apply setRow_at) | ((with_reducible apply setRow_ne); (first | omega | (dsimp only; omega) | (simp; done) | (simp; omega))))))
    have B_1 : w1.heap[y]? = some (.cells #[.int .u64 bn, .int .u64 bd] 24 (0, 0)) := below_at hb1 (by first | omega | (simp; done) | (simp; omega)) (by (repeat (first | (with_reducible assumption) | (with_reducible exact alloc_at _ _) | ((with_reducible apply alloc_at'); (simp; done)) | (with_reducible apply alloc_at_lt) | (with_reducible apply heap_drew_at) | (with_reducible apply heap_drewN_at) | (with_reducible apply heap_setCell_same) | ((with_reducible apply heap_set_ne); (first | omega | (dsimp only; omega) | (simp; done) | (simp; omega))) | (with_reducible apply setRow_at) | ((with_reducible apply setRow_ne); (first | omega | (dsimp only; omega) | (simp; done) | (simp; omega))))))
    have C_1 : w1.heap[z]? = some (.cells #[.int .u64 cn, .int .u64 cd] 24 (0, 0)) := below_at hb1 (by first | omega | (simp; done) | (simp; omega)) (by (repeat (first | (with_reducible assumption) | (with_reducible exact alloc_at _ _) | ((with_reducible apply alloc_at'); (simp; done)) | (with_reducible apply alloc_at_lt) | (with_reducible apply heap_drew_at) | (with_reducible apply heap_drewN_at) | (with_reducible apply heap_setCell_same) | ((with_reducible apply heap_set_ne); (first | omega | (dsimp only; omega) | (simp; done) | (simp; omega))) | (with_reducible apply setRow_at) | ((with_reducible apply setRow_ne); (first | omega | (dsimp only; omega) | (simp; done) | (simp; omega))))))
    have B1 : Below w.heap.size w w1 := Below.trans (by repeat (first | with_reducible assumption | with_reducible exact Below.refl _ _ | with_reducible refine Below.drew ?_ | with_reducible refine below_drewN ?_ _ | with_reducible refine below_alloc ?_ _ | with_reducible refine Below.alloc ?_ (by first | omega | (simp; done) | (simp; omega)) _ | with_reducible refine Below.setCell ?_ (by first | omega | (simp; done) | (simp; omega)) _ | with_reducible refine below_setRow ?_ (by first | omega | (simp; done) | (simp; omega)) _)) (hb1.mono (by first | omega | (simp; done) | (simp; omega)))
    clear hb1
    have Ac0 : w1.cell? ⟨x, 0, none⟩ = some (.int .u64 an) := (blk_cell A_1 0).trans rfl
    have Ac1 : w1.cell? ⟨x, 1, none⟩ = some (.int .u64 ad) := (blk_cell A_1 1).trans rfl
    have Acf := blk_free A_1
    have Bc0 : w1.cell? ⟨y, 0, none⟩ = some (.int .u64 bn) := (blk_cell B_1 0).trans rfl
    have Bc1 : w1.cell? ⟨y, 1, none⟩ = some (.int .u64 bd) := (blk_cell B_1 1).trans rfl
    have Bcf := blk_free B_1
    have Cc0 : w1.cell? ⟨z, 0, none⟩ = some (.int .u64 cn) := (blk_cell C_1 0).trans rfl
    have Cc1 : w1.cell? ⟨z, 1, none⟩ = some (.int .u64 cd) := (blk_cell C_1 1).trans rfl
    have Ccf := blk_free C_1
    have Al1 : x < w1.heap.size := by omega
    have Bl1 : y < w1.heap.size := by omega
    have Cl1 : z < w1.heap.size := by omega
    go_wp2_with fail
    refine (HA.out _).mono ?_
    rintro e w2 ⟨rfl, hb2⟩
    have hs2 := hb2.size
    try simp only [World.size_alloc, World.size_setCell] at hs2
    have A_2 : w2.heap[x]? = some (.cells #[.int .u64 an, .int .u64 ad] 24 (0, 0)) := below_at hb2 (by first | omega | (simp; done) | (simp; omega)) (by (repeat (first | (with_reducible assumption) | (with_reducible exact alloc_at _ _) | ((with_reducible apply alloc_at'); (simp; done)) | (with_reducible apply alloc_at_lt) | (with_reducible apply heap_drew_at) | (with_reducible apply heap_drewN_at) | (with_reducible apply heap_setCell_same) | ((with_reducible apply heap_set_ne); (first | omega | (dsimp only; omega) | (simp; done) | (simp; omega))) | (with_reducible apply setRow_at) | ((with_reducible apply setRow_ne); (first | omega | (dsimp only; omega) | (simp; done) | (simp; omega))))))
    have B_2 : w2.heap[y]? = some (.cells #[.int .u64 bn, .int .u64 bd] 24 (0, 0)) := below_at hb2 (by first | omega | (simp; done) | (simp; omega)) (by (repeat (first | (with_reducible assumption) | (with_reducible exact alloc_at _ _) | ((with_reducible apply alloc_at'); (simp; done)) | (with_reducible apply alloc_at_lt) | (with_reducible apply heap_drew_at) | (with_reducible apply heap_drewN_at) | (with_reducible apply heap_setCell_same) | ((with_reducible apply heap_set_ne); (first | omega | (dsimp only; omega) | (simp; done) | (simp; omega))) | (with_reducible apply setRow_at) | ((with_reducible apply setRow_ne); (first | omega | (dsimp only; omega) | (simp; done) | (simp; omega))))))
    have C_2 : w2.heap[z]? = some (.cells #[.int .u64 cn, .int .u64 cd] 24 (0, 0)) := below_at hb2 (by first | omega | (simp; done) | (simp; omega)) (by (repeat (first | (with_reducible assumption) | (with_reducible exact alloc_at _ _) | ((with_reducible apply alloc_at'); (simp; done)) | (with_reducible apply alloc_at_lt) | (with_reducible apply heap_drew_at) | (with_reducible apply heap_drewN_at) | (with_reducible apply heap_setCell_same) | ((with_reducible apply heap_set_ne); (first | omega | (dsimp only; omega) | (simp; done) | (simp; omega))) | (with_reducible apply setRow_at) | ((with_reducible apply setRow_ne); (first | omega | (dsimp only; omega) | (simp; done) | (simp; omega))))))
    have B2 : Below w.heap.size w w2 := Below.trans (by repeat (first | with_reducible assumption | with_reducible exact Below.refl _ _ | with_reducible refine Below.drew ?_ | with_reducible refine below_drewN ?_ _ | with_reducible refine below_alloc ?_ _ | with_reducible refine Below.alloc ?_ (by first | omega | (simp; done) | (simp; omega)) _ | with_reducible refine Below.setCell ?_ (by first | omega | (simp; done) | (simp; omega)) _ | with_reducible refine below_setRow ?_ (by first | omega | (simp; done) | (simp; omega)) _)) (hb2.mono (by first | omega | (simp; done) | (simp; omega)))
    clear hb2 A_1 B_1 C_1
    clear Ac0 Ac1 Acf
    clear Bc0 Bc1 Bcf
    clear Cc0 Cc1 Ccf
    have Ac0 : w2.cell? ⟨x, 0, none⟩ = some (.int .u64 an) := (blk_cell A_2 0).trans rfl
    have Ac1 : w2.cell? ⟨x, 1, none⟩ = some (.int .u64 ad) := (blk_cell A_2 1).trans rfl
    have Acf := blk_free A_2
    have Bc0 : w2.cell? ⟨y, 0, none⟩ = some (.int .u64 bn) := (blk_cell B_2 0).trans rfl
    have Bc1 : w2.cell? ⟨y, 1, none⟩ = some (.int .u64 bd) := (blk_cell B_2 1).trans rfl
    have Bcf := blk_free B_2
    have Cc0 : w2.cell? ⟨z, 0, none⟩ = some (.int .u64 cn) := (blk_cell C_2 0).trans rfl
    have Cc1 : w2.cell? ⟨z, 1, none⟩ = some (.int .u64 cd) := (blk_cell C_2 1).trans rfl
    have Ccf := blk_free C_2
    have Al2 : x < w2.heap.size := by omega
    have Bl2 : y < w2.heap.size := by omega
    have Cl2 : z < w2.heap.size := by omega
    go_wp2_with fail
    refine (HP.out _).mono ?_
    rintro e w3 ⟨rfl, hb3⟩
    have hs3 := hb3.size
    try simp only [World.size_alloc, World.size_setCell] at hs3
    have A_3 : w3.heap[x]? = some (.cells #[.int .u64 an, .int .u64 ad] 24 (0, 0)) := below_at hb3 (by first | omega | (simp; done) | (simp; omega)) (by (repeat (first | (with_reducible assumption) | (with_reducible exact alloc_at _ _) | ((with_reducible apply alloc_at'); (simp; done)) | (with_reducible apply alloc_at_lt) | (with_reducible apply heap_drew_at) | (with_reducible apply heap_drewN_at) | (with_reducible apply heap_setCell_same) | ((with_reducible apply heap_set_ne); (first | omega | (dsimp only; omega) | (simp; done) | (simp; omega))) | (with_reducible apply setRow_at) | ((with_reducible apply setRow_ne); (first | omega | (dsimp only; omega) | (simp; done) | (simp; omega))))))
    have B_3 : w3.heap[y]? = some (.cells #[.int .u64 bn, .int .u64 bd] 24 (0, 0)) := below_at hb3 (by first | omega | (simp; done) | (simp; omega)) (by (repeat (first | (with_reducible assumption) | (with_reducible exact alloc_at _ _) | ((with_reducible apply alloc_at'); (simp; done)) | (with_reducible apply alloc_at_lt) | (with_reducible apply heap_drew_at) | (with_reducible apply heap_drewN_at) | (with_reducible apply heap_setCell_same) | ((with_reducible apply heap_set_ne); (first | omega | (dsimp only; omega) | (simp; done) | (simp; omega))) | (with_reducible apply setRow_at) | ((with_reducible apply setRow_ne); (first | omega | (dsimp only; omega) | (simp; done) | (simp; omega))))))
    have C_3 : w3.heap[z]? = some (.cells #[.int .u64 cn, .int .u64 cd] 24 (0, 0)) := below_at hb3 (by first | omega | (simp; done) | (simp; omega)) (by (repeat (first | (with_reducible assumption) | (with_reducible exact alloc_at _ _) | ((with_reducible apply alloc_at'); (simp; done)) | (with_reducible apply alloc_at_lt) | (with_reducible apply heap_drew_at) | (with_reducible apply heap_drewN_at) | (with_reducible apply heap_setCell_same) | ((with_reducible apply heap_set_ne); (first | omega | (dsimp only; omega) | (simp; done) | (simp; omega))) | (with_reducible apply setRow_at) | ((with_reducible apply setRow_ne); (first | omega | (dsimp only; omega) | (simp; done) | (simp; omega))))))
    have S_3 : w3.heap[w2.heap.size]? = some (.cells #[.int .u64 sn, .int .u64 sd] 24 (0, 0)) := below_at hb3 (by first | omega | (simp; done) | (simp; omega)) (by (repeat (first | (with_reducible assumption) | (with_reducible exact alloc_at _ _) | ((with_reducible apply alloc_at'); (simp; done)) | (with_reducible apply alloc_at_lt) | (with_reducible apply heap_drew_at) | (with_reducible apply heap_drewN_at) | (with_reducible apply heap_setCell_same) | ((with_reducible apply heap_set_ne); (first | omega | (dsimp only; omega) | (simp; done) | (simp; omega))) | (with_reducible apply setRow_at) | ((with_reducible apply setRow_ne); (first | omega | (dsimp only; omega) | (simp; done) | (simp; omega))))))
    have B3 : Below w.heap.size w w3 := Below.trans (by repeat (first | with_reducible assumption | with_reducible exact Below.refl _ _ | with_reducible refine Below.drew ?_ | with_reducible refine below_drewN ?_ _ | with_reducible refine below_alloc ?_ _ | with_reducible refine Below.alloc ?_ (by first | omega | (simp; done) | (simp; omega)) _ | with_reducible refine Below.setCell ?_ (by first | omega | (simp; done) | (simp; omega)) _ | with_reducible refine below_setRow ?_ (by first | omega | (simp; done) | (simp; omega)) _)) (hb3.mono (by first | omega | (simp; done) | (simp; omega)))
    clear hb3 A_2 B_2 C_2
    clear Ac0 Ac1 Acf
    clear Bc0 Bc1 Bcf
    clear Cc0 Cc1 Ccf
    have Ac0 : w3.cell? ⟨x, 0, none⟩ = some (.int .u64 an) := (blk_cell A_3 0).trans rfl
    have Ac1 : w3.cell? ⟨x, 1, none⟩ = some (.int .u64 ad) := (blk_cell A_3 1).trans rfl
    have Acf := blk_free A_3
    have Bc0 : w3.cell? ⟨y, 0, none⟩ = some (.int .u64 bn) := (blk_cell B_3 0).trans rfl
    have Bc1 : w3.cell? ⟨y, 1, none⟩ = some (.int .u64 bd) := (blk_cell B_3 1).trans rfl
    have Bcf := blk_free B_3
    have Cc0 : w3.cell? ⟨z, 0, none⟩ = some (.int .u64 cn) := (blk_cell C_3 0).trans rfl
    have Cc1 : w3.cell? ⟨z, 1, none⟩ = some (.int .u64 cd) := (blk_cell C_3 1).trans rfl
    have Ccf := blk_free C_3
    have Sc0 : w3.cell? ⟨w2.heap.size, 0, none⟩ = some (.int .u64 sn) := (blk_cell S_3 0).trans rfl
    have Sc1 : w3.cell? ⟨w2.heap.size, 1, none⟩ = some (.int .u64 sd) := (blk_cell S_3 1).trans rfl
    have Scf := blk_free S_3
    have Al3 : x < w3.heap.size := by omega
    have Bl3 : y < w3.heap.size := by omega
    have Cl3 : z < w3.heap.size := by omega
    have Sl3 : w2.heap.size < w3.heap.size := by omega
    go_wp2_with fail
    refine (HX.out _).mono ?_
    rintro e w4 ⟨rfl, hb4⟩
    have hs4 := hb4.size
    try simp only [World.size_alloc, World.size_setCell] at hs4
    have A_4 : w4.heap[x]? = some (.cells #[.int .u64 an, .int .u64 ad] 24 (0, 0)) := below_at hb4 (by first | omega | (simp; done) | (simp; omega)) (by (repeat (first | (with_reducible assumption) | (with_reducible exact alloc_at _ _) | ((with_reducible apply alloc_at'); (simp; done)) | (with_reducible apply alloc_at_lt) | (with_reducible apply heap_drew_at) | (with_reducible apply heap_drewN_at) | (with_reducible apply heap_setCell_same) | ((with_reducible apply heap_set_ne); (first | omega | (dsimp only; omega) | (simp; done) | (simp; omega))) | (with_reducible apply setRow_at) | ((with_reducible apply setRow_ne); (first | omega | (dsimp only; omega) | (simp; done) | (simp; omega))))))
    have B_4 : w4.heap[y]? = some (.cells #[.int .u64 bn, .int .u64 bd] 24 (0, 0)) := below_at hb4 (by first | omega | (simp; done) | (simp; omega)) (by (repeat (first | (with_reducible assumption) | (with_reducible exact alloc_at _ _) | ((with_reducible apply alloc_at'); (simp; done)) | (with_reducible apply alloc_at_lt) | (with_reducible apply heap_drew_at) | (with_reducible apply heap_drewN_at) | (with_reducible apply heap_setCell_same) | ((with_reducible apply heap_set_ne); (first | omega | (dsimp only; omega) | (simp; done) | (simp; omega))) | (with_reducible apply setRow_at) | ((with_reducible apply setRow_ne); (first | omega | (dsimp only; omega) | (simp; done) | (simp; omega))))))
    have C_4 : w4.heap[z]? = some (.cells #[.int .u64 cn, .int .u64 cd] 24 (0, 0)) := below_at hb4 (by first | omega | (simp; done) | (simp; omega)) (by (repeat (first | (with_reducible assumption) | (with_reducible exact alloc_at _ _) | ((with_reducible apply alloc_at'); (simp; done)) | (with_reducible apply alloc_at_lt) | (with_reducible apply heap_drew_at) | (with_reducible apply heap_drewN_at) | (with_reducible apply heap_setCell_same) | ((with_reducible apply heap_set_ne); (first | omega | (dsimp only; omega) | (simp; done) | (simp; omega))) | (with_reducible apply setRow_at) | ((with_reducible apply setRow_ne); (first | omega | (dsimp only; omega) | (simp; done) | (simp; omega))))))
    have S_4 : w4.heap[w2.heap.size]? = some (.cells #[.int .u64 sn, .int .u64 sd] 24 (0, 0)) := below_at hb4 (by first | omega | (simp; done) | (simp; omega)) (by (repeat (first | (with_reducible assumption) | (with_reducible exact alloc_at _ _) | ((with_reducible apply alloc_at'); (simp; done)) | (with_reducible apply alloc_at_lt) | (with_reducible apply heap_drew_at) | (with_reducible apply heap_drewN_at) | (with_reducible apply heap_setCell_same) | ((with_reducible apply heap_set_ne); (first | omega | (dsimp only; omega) | (simp; done) | (simp; omega))) | (with_reducible apply setRow_at) | ((with_reducible apply setRow_ne); (first | omega | (dsimp only; omega) | (simp; done) | (simp; omega))))))
    have P_4 : w4.heap[w3.heap.size]? = some (.cells #[.int .u64 pn, .int .u64 pd] 24 (0, 0)) := below_at hb4 (by first | omega | (simp; done) | (simp; omega)) (by (repeat (first | (with_reducible assumption) | (with_reducible exact alloc_at _ _) | ((with_reducible apply alloc_at'); (simp; done)) | (with_reducible apply alloc_at_lt) | (with_reducible apply heap_drew_at) | (with_reducible apply heap_drewN_at) | (with_reducible apply heap_setCell_same) | ((with_reducible apply heap_set_ne); (first | omega | (dsimp only; omega) | (simp; done) | (simp; omega))) | (with_reducible apply setRow_at) | ((with_reducible apply setRow_ne); (first | omega | (dsimp only; omega) | (simp; done) | (simp; omega))))))
    have B4 : Below w.heap.size w w4 := Below.trans (by repeat (first | with_reducible assumption | with_reducible exact Below.refl _ _ | with_reducible refine Below.drew ?_ | with_reducible refine below_drewN ?_ _ | with_reducible refine below_alloc ?_ _ | with_reducible refine Below.alloc ?_ (by first | omega | (simp; done) | (simp; omega)) _ | with_reducible refine Below.setCell ?_ (by first | omega | (simp; done) | (simp; omega)) _ | with_reducible refine below_setRow ?_ (by first | omega | (simp; done) | (simp; omega)) _)) (hb4.mono (by first | omega | (simp; done) | (simp; omega)))
    clear hb4 A_3 B_3 C_3 S_3
    clear Ac0 Ac1 Acf
    clear Bc0 Bc1 Bcf
    clear Cc0 Cc1 Ccf
    clear Sc0 Sc1 Scf
    have Ac0 : w4.cell? ⟨x, 0, none⟩ = some (.int .u64 an) := (blk_cell A_4 0).trans rfl
    have Ac1 : w4.cell? ⟨x, 1, none⟩ = some (.int .u64 ad) := (blk_cell A_4 1).trans rfl
    have Acf := blk_free A_4
    have Bc0 : w4.cell? ⟨y, 0, none⟩ = some (.int .u64 bn) := (blk_cell B_4 0).trans rfl
    have Bc1 : w4.cell? ⟨y, 1, none⟩ = some (.int .u64 bd) := (blk_cell B_4 1).trans rfl
    have Bcf := blk_free B_4
    have Cc0 : w4.cell? ⟨z, 0, none⟩ = some (.int .u64 cn) := (blk_cell C_4 0).trans rfl
    have Cc1 : w4.cell? ⟨z, 1, none⟩ = some (.int .u64 cd) := (blk_cell C_4 1).trans rfl
    have Ccf := blk_free C_4
    have Sc0 : w4.cell? ⟨w2.heap.size, 0, none⟩ = some (.int .u64 sn) := (blk_cell S_4 0).trans rfl
    have Sc1 : w4.cell? ⟨w2.heap.size, 1, none⟩ = some (.int .u64 sd) := (blk_cell S_4 1).trans rfl
    have Scf := blk_free S_4
    have Pc0 : w4.cell? ⟨w3.heap.size, 0, none⟩ = some (.int .u64 pn) := (blk_cell P_4 0).trans rfl
    have Pc1 : w4.cell? ⟨w3.heap.size, 1, none⟩ = some (.int .u64 pd) := (blk_cell P_4 1).trans rfl
    have Pcf := blk_free P_4
    have Al4 : x < w4.heap.size := by omega
    have Bl4 : y < w4.heap.size := by omega
    have Cl4 : z < w4.heap.size := by omega
    have Sl4 : w2.heap.size < w4.heap.size := by omega
    have Pl4 : w3.heap.size < w4.heap.size := by omega
    go_wp2_with fail
    refine (HY.out _).mono ?_
    rintro e w5 ⟨rfl, hb5⟩
    have hs5 := hb5.size
    try simp only [World.size_alloc, World.size_setCell] at hs5
    have A_5 : w5.heap[x]? = some (.cells #[.int .u64 an, .int .u64 ad] 24 (0, 0)) := below_at hb5 (by first | omega | (simp; done) | (simp; omega)) (by (repeat (first | (with_reducible assumption) | (with_reducible exact alloc_at _ _) | ((with_reducible apply alloc_at'); (simp; done)) | (with_reducible apply alloc_at_lt) | (with_reducible apply heap_drew_at) | (with_reducible apply heap_drewN_at) | (with_reducible apply heap_setCell_same) | ((with_reducible apply heap_set_ne); (first | omega | (dsimp only; omega) | (simp; done) | (simp; omega))) | (with_reducible apply setRow_at) | ((with_reducible apply setRow_ne); (first | omega | (dsimp only; omega) | (simp; done) | (simp; omega))))))
    have B_5 : w5.heap[y]? = some (.cells #[.int .u64 bn, .int .u64 bd] 24 (0, 0)) := below_at hb5 (by first | omega | (simp; done) | (simp; omega)) (by (repeat (first | (with_reducible assumption) | (with_reducible exact alloc_at _ _) | ((with_reducible apply alloc_at'); (simp; done)) | (with_reducible apply alloc_at_lt) | (with_reducible apply heap_drew_at) | (with_reducible apply heap_drewN_at) | (with_reducible apply heap_setCell_same) | ((with_reducible apply heap_set_ne); (first | omega | (dsimp only; omega) | (simp; done) | (simp; omega))) | (with_reducible apply setRow_at) | ((with_reducible apply setRow_ne); (first | omega | (dsimp only; omega) | (simp; done) | (simp; omega))))))
    have C_5 : w5.heap[z]? = some (.cells #[.int .u64 cn, .int .u64 cd] 24 (0, 0)) := below_at hb5 (by first | omega | (simp; done) | (simp; omega)) (by (repeat (first | (with_reducible assumption) | (with_reducible exact alloc_at _ _) | ((with_reducible apply alloc_at'); (simp; done)) | (with_reducible apply alloc_at_lt) | (with_reducible apply heap_drew_at) | (with_reducible apply heap_drewN_at) | (with_reducible apply heap_setCell_same) | ((with_reducible apply heap_set_ne); (first | omega | (dsimp only; omega) | (simp; done) | (simp; omega))) | (with_reducible apply setRow_at) | ((with_reducible apply setRow_ne); (first | omega | (dsimp only; omega) | (simp; done) | (simp; omega))))))
    have S_5 : w5.heap[w2.heap.size]? = some (.cells #[.int .u64 sn, .int .u64 sd] 24 (0, 0)) := below_at hb5 (by first | omega | (simp; done) | (simp; omega)) (by (repeat (first | (with_reducible assumption) | (with_reducible exact alloc_at _ _) | ((with_reducible apply alloc_at'); (simp; done)) | (with_reducible apply alloc_at_lt) | (with_reducible apply heap_drew_at) | (with_reducible apply heap_drewN_at) | (with_reducible apply heap_setCell_same) | ((with_reducible apply heap_set_ne); (first | omega | (dsimp only; omega) | (simp; done) | (simp; omega))) | (with_reducible apply setRow_at) | ((with_reducible apply setRow_ne); (first | omega | (dsimp only; omega) | (simp; done) | (simp; omega))))))
    have P_5 : w5.heap[w3.heap.size]? = some (.cells #[.int .u64 pn, .int .u64 pd] 24 (0, 0)) := below_at hb5 (by first | omega | (simp; done) | (simp; omega)) (by (repeat (first | (with_reducible assumption) | (with_reducible exact alloc_at _ _) | ((with_reducible apply alloc_at'); (simp; done)) | (with_reducible apply alloc_at_lt) | (with_reducible apply heap_drew_at) | (with_reducible apply heap_drewN_at) | (with_reducible apply heap_setCell_same) | ((with_reducible apply heap_set_ne); (first | omega | (dsimp only; omega) | (simp; done) | (simp; omega))) | (with_reducible apply setRow_at) | ((with_reducible apply setRow_ne); (first | omega | (dsimp only; omega) | (simp; done) | (simp; omega))))))
    have X_5 : w5.heap[w4.heap.size]? = some (.cells #[.int .u64 xn, .int .u64 xd] 24 (0, 0)) := below_at hb5 (by first | omega | (simp; done) | (simp; omega)) (by (repeat (first | (with_reducible assumption) | (with_reducible exact alloc_at _ _) | ((with_reducible apply alloc_at'); (simp; done)) | (with_reducible apply alloc_at_lt) | (with_reducible apply heap_drew_at) | (with_reducible apply heap_drewN_at) | (with_reducible apply heap_setCell_same) | ((with_reducible apply heap_set_ne); (first | omega | (dsimp only; omega) | (simp; done) | (simp; omega))) | (with_reducible apply setRow_at) | ((with_reducible apply setRow_ne); (first | omega | (dsimp only; omega) | (simp; done) | (simp; omega))))))
    have B5 : Below w.heap.size w w5 := Below.trans (by repeat (first | with_reducible assumption | with_reducible exact Below.refl _ _ | with_reducible refine Below.drew ?_ | with_reducible refine below_drewN ?_ _ | with_reducible refine below_alloc ?_ _ | with_reducible refine Below.alloc ?_ (by first | omega | (simp; done) | (simp; omega)) _ | with_reducible refine Below.setCell ?_ (by first | omega | (simp; done) | (simp; omega)) _ | with_reducible refine below_setRow ?_ (by first | omega | (simp; done) | (simp; omega)) _)) (hb5.mono (by first | omega | (simp; done) | (simp; omega)))
    clear hb5 A_4 B_4 C_4 S_4 P_4
    clear Ac0 Ac1 Acf
    clear Bc0 Bc1 Bcf
    clear Cc0 Cc1 Ccf
    clear Sc0 Sc1 Scf
    clear Pc0 Pc1 Pcf
    have Ac0 : w5.cell? ⟨x, 0, none⟩ = some (.int .u64 an) := (blk_cell A_5 0).trans rfl
    have Ac1 : w5.cell? ⟨x, 1, none⟩ = some (.int .u64 ad) := (blk_cell A_5 1).trans rfl
    have Acf := blk_free A_5
    have Bc0 : w5.cell? ⟨y, 0, none⟩ = some (.int .u64 bn) := (blk_cell B_5 0).trans rfl
    have Bc1 : w5.cell? ⟨y, 1, none⟩ = some (.int .u64 bd) := (blk_cell B_5 1).trans rfl
    have Bcf := blk_free B_5
    have Cc0 : w5.cell? ⟨z, 0, none⟩ = some (.int .u64 cn) := (blk_cell C_5 0).trans rfl
    have Cc1 : w5.cell? ⟨z, 1, none⟩ = some (.int .u64 cd) := (blk_cell C_5 1).trans rfl
    have Ccf := blk_free C_5
    have Sc0 : w5.cell? ⟨w2.heap.size, 0, none⟩ = some (.int .u64 sn) := (blk_cell S_5 0).trans rfl
    have Sc1 : w5.cell? ⟨w2.heap.size, 1, none⟩ = some (.int .u64 sd) := (blk_cell S_5 1).trans rfl
    have Scf := blk_free S_5
    have Pc0 : w5.cell? ⟨w3.heap.size, 0, none⟩ = some (.int .u64 pn) := (blk_cell P_5 0).trans rfl
    have Pc1 : w5.cell? ⟨w3.heap.size, 1, none⟩ = some (.int .u64 pd) := (blk_cell P_5 1).trans rfl
    have Pcf := blk_free P_5
    have Xc0 : w5.cell? ⟨w4.heap.size, 0, none⟩ = some (.int .u64 xn) := (blk_cell X_5 0).trans rfl
    have Xc1 : w5.cell? ⟨w4.heap.size, 1, none⟩ = some (.int .u64 xd) := (blk_cell X_5 1).trans rfl
    have Xcf := blk_free X_5
    have Al5 : x < w5.heap.size := by omega
    have Bl5 : y < w5.heap.size := by omega
    have Cl5 : z < w5.heap.size := by omega
    have Sl5 : w2.heap.size < w5.heap.size := by omega
    have Pl5 : w3.heap.size < w5.heap.size := by omega
    have Xl5 : w4.heap.size < w5.heap.size := by omega
    go_wp2_with fail
    refine (HZ.out _).mono ?_
    rintro e w6 ⟨rfl, hb6⟩
    have hs6 := hb6.size
    try simp only [World.size_alloc, World.size_setCell] at hs6
    have A_6 : w6.heap[x]? = some (.cells #[.int .u64 an, .int .u64 ad] 24 (0, 0)) := below_at hb6 (by first | omega | (simp; done) | (simp; omega)) (by (repeat (first | (with_reducible assumption) | (with_reducible exact alloc_at _ _) | ((with_reducible apply alloc_at'); (simp; done)) | (with_reducible apply alloc_at_lt) | (with_reducible apply heap_drew_at) | (with_reducible apply heap_drewN_at) | (with_reducible apply heap_setCell_same) | ((with_reducible apply heap_set_ne); (first | omega | (dsimp only; omega) | (simp; done) | (simp; omega))) | (with_reducible apply setRow_at) | ((with_reducible apply setRow_ne); (first | omega | (dsimp only; omega) | (simp; done) | (simp; omega))))))
    have B_6 : w6.heap[y]? = some (.cells #[.int .u64 bn, .int .u64 bd] 24 (0, 0)) := below_at hb6 (by first | omega | (simp; done) | (simp; omega)) (by (repeat (first | (with_reducible assumption) | (with_reducible exact alloc_at _ _) | ((with_reducible apply alloc_at'); (simp; done)) | (with_reducible apply alloc_at_lt) | (with_reducible apply heap_drew_at) | (with_reducible apply heap_drewN_at) | (with_reducible apply heap_setCell_same) | ((with_reducible apply heap_set_ne); (first | omega | (dsimp only; omega) | (simp; done) | (simp; omega))) | (with_reducible apply setRow_at) | ((with_reducible apply setRow_ne); (first | omega | (dsimp only; omega) | (simp; done) | (simp; omega))))))
    have C_6 : w6.heap[z]? = some (.cells #[.int .u64 cn, .int .u64 cd] 24 (0, 0)) := below_at hb6 (by first | omega | (simp; done) | (simp; omega)) (by (repeat (first | (with_reducible assumption) | (with_reducible exact alloc_at _ _) | ((with_reducible apply alloc_at'); (simp; done)) | (with_reducible apply alloc_at_lt) | (with_reducible apply heap_drew_at) | (with_reducible apply heap_drewN_at) | (with_reducible apply heap_setCell_same) | ((with_reducible apply heap_set_ne); (first | omega | (dsimp only; omega) | (simp; done) | (simp; omega))) | (with_reducible apply setRow_at) | ((with_reducible apply setRow_ne); (first | omega | (dsimp only; omega) | (simp; done) | (simp; omega))))))
    have S_6 : w6.heap[w2.heap.size]? = some (.cells #[.int .u64 sn, .int .u64 sd] 24 (0, 0)) := below_at hb6 (by first | omega | (simp; done) | (simp; omega)) (by (repeat (first | (with_reducible assumption) | (with_reducible exact alloc_at _ _) | ((with_reducible apply alloc_at'); (simp; done)) | (with_reducible apply alloc_at_lt) | (with_reducible apply heap_drew_at) | (with_reducible apply heap_drewN_at) | (with_reducible apply heap_setCell_same) | ((with_reducible apply heap_set_ne); (first | omega | (dsimp only; omega) | (simp; done) | (simp; omega))) | (with_reducible apply setRow_at) | ((with_reducible apply setRow_ne); (first | omega | (dsimp only; omega) | (simp; done) | (simp; omega))))))
    have P_6 : w6.heap[w3.heap.size]? = some (.cells #[.int .u64 pn, .int .u64 pd] 24 (0, 0)) := below_at hb6 (by first | omega | (simp; done) | (simp; omega)) (by (repeat (first | (with_reducible assumption) | (with_reducible exact alloc_at _ _) | ((with_reducible apply alloc_at'); (simp; done)) | (with_reducible apply alloc_at_lt) | (with_reducible apply heap_drew_at) | (with_reducible apply heap_drewN_at) | (with_reducible apply heap_setCell_same) | ((with_reducible apply heap_set_ne); (first | omega | (dsimp only; omega) | (simp; done) | (simp; omega))) | (with_reducible apply setRow_at) | ((with_reducible apply setRow_ne); (first | omega | (dsimp only; omega) | (simp; done) | (simp; omega))))))
    have X_6 : w6.heap[w4.heap.size]? = some (.cells #[.int .u64 xn, .int .u64 xd] 24 (0, 0)) := below_at hb6 (by first | omega | (simp; done) | (simp; omega)) (by (repeat (first | (with_reducible assumption) | (with_reducible exact alloc_at _ _) | ((with_reducible apply alloc_at'); (simp; done)) | (with_reducible apply alloc_at_lt) | (with_reducible apply heap_drew_at) | (with_reducible apply heap_drewN_at) | (with_reducible apply heap_setCell_same) | ((with_reducible apply heap_set_ne); (first | omega | (dsimp only; omega) | (simp; done) | (simp; omega))) | (with_reducible apply setRow_at) | ((with_reducible apply setRow_ne); (first | omega | (dsimp only; omega) | (simp; done) | (simp; omega))))))
    have Y_6 : w6.heap[w5.heap.size]? = some (.cells #[.int .u64 yn, .int .u64 yd] 24 (0, 0)) := below_at hb6 (by first | omega | (simp; done) | (simp; omega)) (by (repeat (first | (with_reducible assumption) | (with_reducible exact alloc_at _ _) | ((with_reducible apply alloc_at'); (simp; done)) | (with_reducible apply alloc_at_lt) | (with_reducible apply heap_drew_at) | (with_reducible apply heap_drewN_at) | (with_reducible apply heap_setCell_same) | ((with_reducible apply heap_set_ne); (first | omega | (dsimp only; omega) | (simp; done) | (simp; omega))) | (with_reducible apply setRow_at) | ((with_reducible apply setRow_ne); (first | omega | (dsimp only; omega) | (simp; done) | (simp; omega))))))
    have B6 : Below w.heap.size w w6 := Below.trans (by repeat (first | with_reducible assumption | with_reducible exact Below.refl _ _ | with_reducible refine Below.drew ?_ | with_reducible refine below_drewN ?_ _ | with_reducible refine below_alloc ?_ _ | with_reducible refine Below.alloc ?_ (by first | omega | (simp; done) | (simp; omega)) _ | with_reducible refine Below.setCell ?_ (by first | omega | (simp; done) | (simp; omega)) _ | with_reducible refine below_setRow ?_ (by first | omega | (simp; done) | (simp; omega)) _)) (hb6.mono (by first | omega | (simp; done) | (simp; omega)))
    clear hb6 A_5 B_5 C_5 S_5 P_5 X_5
    clear Ac0 Ac1 Acf
    clear Bc0 Bc1 Bcf
    clear Cc0 Cc1 Ccf
    clear Sc0 Sc1 Scf
    clear Pc0 Pc1 Pcf
    clear Xc0 Xc1 Xcf
    have Ac0 : w6.cell? ⟨x, 0, none⟩ = some (.int .u64 an) := (blk_cell A_6 0).trans rfl
    have Ac1 : w6.cell? ⟨x, 1, none⟩ = some (.int .u64 ad) := (blk_cell A_6 1).trans rfl
    have Acf := blk_free A_6
    have Bc0 : w6.cell? ⟨y, 0, none⟩ = some (.int .u64 bn) := (blk_cell B_6 0).trans rfl
    have Bc1 : w6.cell? ⟨y, 1, none⟩ = some (.int .u64 bd) := (blk_cell B_6 1).trans rfl
    have Bcf := blk_free B_6
    have Cc0 : w6.cell? ⟨z, 0, none⟩ = some (.int .u64 cn) := (blk_cell C_6 0).trans rfl
    have Cc1 : w6.cell? ⟨z, 1, none⟩ = some (.int .u64 cd) := (blk_cell C_6 1).trans rfl
    have Ccf := blk_free C_6
    have Sc0 : w6.cell? ⟨w2.heap.size, 0, none⟩ = some (.int .u64 sn) := (blk_cell S_6 0).trans rfl
    have Sc1 : w6.cell? ⟨w2.heap.size, 1, none⟩ = some (.int .u64 sd) := (blk_cell S_6 1).trans rfl
    have Scf := blk_free S_6
    have Pc0 : w6.cell? ⟨w3.heap.size, 0, none⟩ = some (.int .u64 pn) := (blk_cell P_6 0).trans rfl
    have Pc1 : w6.cell? ⟨w3.heap.size, 1, none⟩ = some (.int .u64 pd) := (blk_cell P_6 1).trans rfl
    have Pcf := blk_free P_6
    have Xc0 : w6.cell? ⟨w4.heap.size, 0, none⟩ = some (.int .u64 xn) := (blk_cell X_6 0).trans rfl
    have Xc1 : w6.cell? ⟨w4.heap.size, 1, none⟩ = some (.int .u64 xd) := (blk_cell X_6 1).trans rfl
    have Xcf := blk_free X_6
    have Yc0 : w6.cell? ⟨w5.heap.size, 0, none⟩ = some (.int .u64 yn) := (blk_cell Y_6 0).trans rfl
    have Yc1 : w6.cell? ⟨w5.heap.size, 1, none⟩ = some (.int .u64 yd) := (blk_cell Y_6 1).trans rfl
    have Ycf := blk_free Y_6
    have Al6 : x < w6.heap.size := by omega
    have Bl6 : y < w6.heap.size := by omega
    have Cl6 : z < w6.heap.size := by omega
    have Sl6 : w2.heap.size < w6.heap.size := by omega
    have Pl6 : w3.heap.size < w6.heap.size := by omega
    have Xl6 : w4.heap.size < w6.heap.size := by omega
    have Yl6 : w5.heap.size < w6.heap.size := by omega
    go_wp2
    go_ret
    exact ⟨by first | rfl | simp, (by repeat (first | with_reducible assumption | with_reducible exact Below.refl _ _ | with_reducible refine Below.drew ?_ | with_reducible refine below_drewN ?_ _ | with_reducible refine below_alloc ?_ _ | with_reducible refine Below.alloc ?_ (by first | omega | (simp; done) | (simp; omega)) _ | with_reducible refine Below.setCell ?_ (by first | omega | (simp; done) | (simp; omega)) _ | with_reducible refine below_setRow ?_ (by first | omega | (simp; done) | (simp; omega)) _))⟩
set_option maxRecDepth 100000 in
set_option maxHeartbeats 4000000 in
theorem parts_r5 (an ad bn bd cn cd sn sd pn pd xn xd yn yd zn zd e5 : Int) (w : World) (hq : (e5 != 0) = true)
    (HA : Hid (∀ W, Calls Try.prog 15 #[.agg #[.int .u64 an, .int .u64 ad], .agg #[.int .u64 bn, .int .u64 bd]] W fun e w' => e = .returned (.tuple #[.agg #[.int .u64 sn, .int .u64 sd], .int .i64 0]) ∧ Below W.heap.size W w')) (HP : Hid (∀ W, Calls Try.prog 16 #[.agg #[.int .u64 sn, .int .u64 sd], .agg #[.int .u64 cn, .int .u64 cd]] W fun e w' => e = .returned (.tuple #[.agg #[.int .u64 pn, .int .u64 pd], .int .i64 0]) ∧ Below W.heap.size W w')) (HX : Hid (∀ W, Calls Try.prog 16 #[.agg #[.int .u64 an, .int .u64 ad], .agg #[.int .u64 cn, .int .u64 cd]] W fun e w' => e = .returned (.tuple #[.agg #[.int .u64 xn, .int .u64 xd], .int .i64 0]) ∧ Below W.heap.size W w')) (HY : Hid (∀ W, Calls Try.prog 16 #[.agg #[.int .u64 bn, .int .u64 bd], .agg #[.int .u64 cn, .int .u64 cd]] W fun e w' => e = .returned (.tuple #[.agg #[.int .u64 yn, .int .u64 yd], .int .i64 0]) ∧ Below W.heap.size W w')) (HZ : Hid (∀ W, Calls Try.prog 15 #[.agg #[.int .u64 xn, .int .u64 xd], .agg #[.int .u64 yn, .int .u64 yd]] W fun e w' => e = .returned (.tuple #[.agg #[.int .u64 zn, .int .u64 zd], .int .i64 e5]) ∧ Below W.heap.size W w')) :
    Calls Try.prog 5 #[.agg #[.int .u64 an, .int .u64 ad, .int .u64 bn, .int .u64 bd, .int .u64 cn, .int .u64 cd]] w fun e w' => e = .returned (.bool true) ∧ Below w.heap.size w w' := by
  go_enter Try.func5, Try.ntmps5
  go_upto_region 1 with fail
  obtain ⟨wo, hwo⟩ : ∃ wo : World, wo = w.alloc (.cells #[.int .u64 an, .int .u64 ad, .int .u64 bn, .int .u64 bd, .int .u64 cn, .int .u64 cd] 38) := ⟨_, rfl⟩
  rw [← hwo]
  have hT : wo.heap[w.heap.size]? = some (.cells #[.int .u64 an, .int .u64 ad, .int .u64 bn, .int .u64 bd, .int .u64 cn, .int .u64 cd] 38 (0, 0)) := by rw [hwo]; exact alloc_at _ _
  have hB0 : Below w.heap.size w wo := by rw [hwo]; exact (by repeat (first | with_reducible assumption | with_reducible exact Below.refl _ _ | with_reducible refine Below.drew ?_ | with_reducible refine below_drewN ?_ _ | with_reducible refine below_alloc ?_ _ | with_reducible refine Below.alloc ?_ (by first | omega | (simp; done) | (simp; omega)) _ | with_reducible refine Below.setCell ?_ (by first | omega | (simp; done) | (simp; omega)) _ | with_reducible refine below_setRow ?_ (by first | omega | (simp; done) | (simp; omega)) _))
  have hs0 : w.heap.size < wo.heap.size := by rw [hwo]; simp
  have c0 := blk_cell hT 0
  have c1 := blk_cell hT 1
  have c2 := blk_cell hT 2
  have c3 := blk_cell hT 3
  have c4 := blk_cell hT 4
  have c5 := blk_cell hT 5
  simp at c0 c1 c2 c3 c4 c5
  clear hwo hT
  go_cut [3, 4, 5] (fun s5 s6 s7 wx => ∃ x y z : Nat, s5 = .pointer (some ⟨x, 0, none⟩) ∧ s6 = .pointer (some ⟨y, 0, none⟩) ∧ s7 = .pointer (some ⟨z, 0, none⟩) ∧ Below w.heap.size w wx ∧
    wx.heap[x]? = some (.cells #[.int .u64 an, .int .u64 ad] 24 (0, 0)) ∧ wx.heap[y]? = some (.cells #[.int .u64 bn, .int .u64 bd] 24 (0, 0)) ∧ wx.heap[z]? = some (.cells #[.int .u64 cn, .int .u64 cd] 24 (0, 0)))
  case first =>
    go_region_held3 (fun w' => Below wo.heap.size wo w' ∧ (∀ b o, b < wo.heap.size → w'.cell? ⟨b, o, none⟩ = wo.cell? ⟨b, o, none⟩) ∧ ∀ b o, b < wo.heap.size → w'.frozen? ⟨b, o, none⟩ = wo.frozen? ⟨b, o, none⟩) (first | ((try go_split_ands); (try dsimp only); refine same_of ?_; (repeat (first | with_reducible assumption | with_reducible exact Below.refl _ _ | with_reducible refine Below.drew ?_ | with_reducible refine below_drewN ?_ _ | with_reducible refine below_alloc ?_ _ | with_reducible refine Below.alloc ?_ (by first | omega | (simp; done) | (simp; omega)) _ | with_reducible refine Below.setCell ?_ (by first | omega | (simp; done) | (simp; omega)) _ | with_reducible refine below_setRow ?_ (by first | omega | (simp; done) | (simp; omega)) _)); done)) (fail)
    all_goals (go_wp2_with fail; go_meet; exact ⟨_, _, _, rfl, rfl, rfl, (by repeat (first | with_reducible assumption | with_reducible exact Below.refl _ _ | with_reducible refine Below.drew ?_ | with_reducible refine below_drewN ?_ _ | with_reducible refine below_alloc ?_ _ | with_reducible refine Below.alloc ?_ (by first | omega | (simp; done) | (simp; omega)) _ | with_reducible refine Below.setCell ?_ (by first | omega | (simp; done) | (simp; omega)) _ | with_reducible refine below_setRow ?_ (by first | omega | (simp; done) | (simp; omega)) _)), (by (repeat (first | (with_reducible assumption) | (with_reducible exact alloc_at _ _) | ((with_reducible apply alloc_at'); (simp; done)) | (with_reducible apply alloc_at_lt) | (with_reducible apply heap_drew_at) | (with_reducible apply heap_drewN_at) | (with_reducible apply heap_setCell_same) | ((with_reducible apply heap_set_ne); (first | omega | (dsimp only; omega) | (simp; done) | (simp; omega))) | (with_reducible apply setRow_at) | ((with_reducible apply setRow_ne); (first | omega | (dsimp only; omega) | (simp; done) | (simp; omega)))))), (by (repeat (first | (with_reducible assumption) | (with_reducible exact alloc_at _ _) | ((with_reducible apply alloc_at'); (simp; done)) | (with_reducible apply alloc_at_lt) | (with_reducible apply heap_drew_at) | (with_reducible apply heap_drewN_at) | (with_reducible apply heap_setCell_same) | ((with_reducible apply heap_set_ne); (first | omega | (dsimp only; omega) | (simp; done) | (simp; omega))) | (with_reducible apply setRow_at) | ((with_reducible apply setRow_ne); (first | omega | (dsimp only; omega) | (simp; done) | (simp; omega)))))), (by (repeat (first | (with_reducible assumption) | (with_reducible exact alloc_at _ _) | ((with_reducible apply alloc_at'); (simp; done)) | (with_reducible apply alloc_at_lt) | (with_reducible apply heap_drew_at) | (with_reducible apply heap_drewN_at) | (with_reducible apply heap_setCell_same) | ((with_reducible apply heap_set_ne); (first | omega | (dsimp only; omega) | (simp; done) | (simp; omega))) | (with_reducible apply setRow_at) | ((with_reducible apply setRow_ne); (first | omega | (dsimp only; omega) | (simp; done) | (simp; omega))))))⟩)
  case rest =>
    obtain ⟨x, y, z, rfl, rfl, rfl, hB, hX, hY, hZ⟩ := hcut
    clear c0 c1 c2 c3 c4 c5 hB0 hs0 wo
    have hx := lt_of_at hX
    have hy := lt_of_at hY
    have hz := lt_of_at hZ
    have hsz := hB.size
    go_wp2_with fail
    refine (awake2_any _).mono ?_
    rintro e w1 ⟨rfl, hb1⟩
    have hs1 := hb1.size
    try simp only [World.size_alloc, World.size_setCell] at hs1
    have A_1 : w1.heap[x]? = some (.cells #[.int .u64 an, .int .u64 ad] 24 (0, 0)) := below_at hb1 (by first | omega | (simp; done) | (simp; omega)) (by (repeat (first | (with_reducible assumption) | (with_reducible exact alloc_at _ _) | ((with_reducible apply alloc_at'); (simp; done)) | (with_reducible apply alloc_at_lt) | (with_reducible apply heap_drew_at) | (with_reducible apply heap_drewN_at) | (with_reducible apply heap_setCell_same) | ((with_reducible apply heap_set_ne); (first | omega | (dsimp only; omega) | (simp; done) | (simp; omega))) | (with_reducible apply setRow_at) | ((with_reducible apply setRow_ne); (first | omega | (dsimp only; omega) | (simp; done) | (simp; omega))))))
    have B_1 : w1.heap[y]? = some (.cells #[.int .u64 bn, .int .u64 bd] 24 (0, 0)) := below_at hb1 (by first | omega | (simp; done) | (simp; omega)) (by (repeat (first | (with_reducible assumption) | (with_reducible exact alloc_at _ _) | ((with_reducible apply alloc_at'); (simp; done)) | (with_reducible apply alloc_at_lt) | (with_reducible apply heap_drew_at) | (with_reducible apply heap_drewN_at) | (with_reducible apply heap_setCell_same) | ((with_reducible apply heap_set_ne); (first | omega | (dsimp only; omega) | (simp; done) | (simp; omega))) | (with_reducible apply setRow_at) | ((with_reducible apply setRow_ne); (first | omega | (dsimp only; omega) | (simp; done) | (simp; omega))))))
    have C_1 : w1.heap[z]? = some (.cells #[.int .u64 cn, .int .u64 cd] 24 (0, 0)) := below_at hb1 (by first | omega | (simp; done) | (simp; omega)) (by (repeat (first | (with_reducible assumption) | (with_reducible exact alloc_at _ _) | ((with_reducible apply alloc_at'); (simp; done)) | (with_reducible apply alloc_at_lt) | (with_reducible apply heap_drew_at) | (with_reducible apply heap_drewN_at) | (with_reducible apply heap_setCell_same) | ((with_reducible apply heap_set_ne); (first | omega | (dsimp only; omega) | (simp; done) | (simp; omega))) | (with_reducible apply setRow_at) | ((with_reducible apply setRow_ne); (first | omega | (dsimp only; omega) | (simp; done) | (simp; omega))))))
    have B1 : Below w.heap.size w w1 := Below.trans (by repeat (first | with_reducible assumption | with_reducible exact Below.refl _ _ | with_reducible refine Below.drew ?_ | with_reducible refine below_drewN ?_ _ | with_reducible refine below_alloc ?_ _ | with_reducible refine Below.alloc ?_ (by first | omega | (simp; done) | (simp; omega)) _ | with_reducible refine Below.setCell ?_ (by first | omega | (simp; done) | (simp; omega)) _ | with_reducible refine below_setRow ?_ (by first | omega | (simp; done) | (simp; omega)) _)) (hb1.mono (by first | omega | (simp; done) | (simp; omega)))
    clear hb1
    have Ac0 : w1.cell? ⟨x, 0, none⟩ = some (.int .u64 an) := (blk_cell A_1 0).trans rfl
    have Ac1 : w1.cell? ⟨x, 1, none⟩ = some (.int .u64 ad) := (blk_cell A_1 1).trans rfl
    have Acf := blk_free A_1
    have Bc0 : w1.cell? ⟨y, 0, none⟩ = some (.int .u64 bn) := (blk_cell B_1 0).trans rfl
    have Bc1 : w1.cell? ⟨y, 1, none⟩ = some (.int .u64 bd) := (blk_cell B_1 1).trans rfl
    have Bcf := blk_free B_1
    have Cc0 : w1.cell? ⟨z, 0, none⟩ = some (.int .u64 cn) := (blk_cell C_1 0).trans rfl
    have Cc1 : w1.cell? ⟨z, 1, none⟩ = some (.int .u64 cd) := (blk_cell C_1 1).trans rfl
    have Ccf := blk_free C_1
    have Al1 : x < w1.heap.size := by omega
    have Bl1 : y < w1.heap.size := by omega
    have Cl1 : z < w1.heap.size := by omega
    go_wp2_with fail
    refine (HA.out _).mono ?_
    rintro e w2 ⟨rfl, hb2⟩
    have hs2 := hb2.size
    try simp only [World.size_alloc, World.size_setCell] at hs2
    have A_2 : w2.heap[x]? = some (.cells #[.int .u64 an, .int .u64 ad] 24 (0, 0)) := below_at hb2 (by first | omega | (simp; done) | (simp; omega)) (by (repeat (first | (with_reducible assumption) | (with_reducible exact alloc_at _ _) | ((with_reducible apply alloc_at'); (simp; done)) | (with_reducible apply alloc_at_lt) | (with_reducible apply heap_drew_at) | (with_reducible apply heap_drewN_at) | (with_reducible apply heap_setCell_same) | ((with_reducible apply heap_set_ne); (first | omega | (dsimp only; omega) | (simp; done) | (simp; omega))) | (with_reducible apply setRow_at) | ((with_reducible apply setRow_ne); (first | omega | (dsimp only; omega) | (simp; done) | (simp; omega))))))
    have B_2 : w2.heap[y]? = some (.cells #[.int .u64 bn, .int .u64 bd] 24 (0, 0)) := below_at hb2 (by first | omega | (simp; done) | (simp; omega)) (by (repeat (first | (with_reducible assumption) | (with_reducible exact alloc_at _ _) | ((with_reducible apply alloc_at'); (simp; done)) | (with_reducible apply alloc_at_lt) | (with_reducible apply heap_drew_at) | (with_reducible apply heap_drewN_at) | (with_reducible apply heap_setCell_same) | ((with_reducible apply heap_set_ne); (first | omega | (dsimp only; omega) | (simp; done) | (simp; omega))) | (with_reducible apply setRow_at) | ((with_reducible apply setRow_ne); (first | omega | (dsimp only; omega) | (simp; done) | (simp; omega))))))
    have C_2 : w2.heap[z]? = some (.cells #[.int .u64 cn, .int .u64 cd] 24 (0, 0)) := below_at hb2 (by first | omega | (simp; done) | (simp; omega)) (by (repeat (first | (with_reducible assumption) | (with_reducible exact alloc_at _ _) | ((with_reducible apply alloc_at'); (simp; done)) | (with_reducible apply alloc_at_lt) | (with_reducible apply heap_drew_at) | (with_reducible apply heap_drewN_at) | (with_reducible apply heap_setCell_same) | ((with_reducible apply heap_set_ne); (first | omega | (dsimp only; omega) | (simp; done) | (simp; omega))) | (with_reducible apply setRow_at) | ((with_reducible apply setRow_ne); (first | omega | (dsimp only; omega) | (simp; done) | (simp; omega))))))
    have B2 : Below w.heap.size w w2 := Below.trans (by repeat (first | with_reducible assumption | with_reducible exact Below.refl _ _ | with_reducible refine Below.drew ?_ | with_reducible refine below_drewN ?_ _ | with_reducible refine below_alloc ?_ _ | with_reducible refine Below.alloc ?_ (by first | omega | (simp; done) | (simp; omega)) _ | with_reducible refine Below.setCell ?_ (by first | omega | (simp; done) | (simp; omega)) _ | with_reducible refine below_setRow ?_ (by first | omega | (simp; done) | (simp; omega)) _)) (hb2.mono (by first | omega | (simp; done) | (simp; omega)))
    clear hb2 A_1 B_1 C_1
    clear Ac0 Ac1 Acf
    clear Bc0 Bc1 Bcf
    clear Cc0 Cc1 Ccf
    have Ac0 : w2.cell? ⟨x, 0, none⟩ = some (.int .u64 an) := (blk_cell A_2 0).trans rfl
    have Ac1 : w2.cell? ⟨x, 1, none⟩ = some (.int .u64 ad) := (blk_cell A_2 1).trans rfl
    have Acf := blk_free A_2
    have Bc0 : w2.cell? ⟨y, 0, none⟩ = some (.int .u64 bn) := (blk_cell B_2 0).trans rfl
    have Bc1 : w2.cell? ⟨y, 1, none⟩ = some (.int .u64 bd) := (blk_cell B_2 1).trans rfl
    have Bcf := blk_free B_2
    have Cc0 : w2.cell? ⟨z, 0, none⟩ = some (.int .u64 cn) := (blk_cell C_2 0).trans rfl
    have Cc1 : w2.cell? ⟨z, 1, none⟩ = some (.int .u64 cd) := (blk_cell C_2 1).trans rfl
    have Ccf := blk_free C_2
    have Al2 : x < w2.heap.size := by omega
    have Bl2 : y < w2.heap.size := by omega
    have Cl2 : z < w2.heap.size := by omega
    go_wp2_with fail
    refine (HP.out _).mono ?_
    rintro e w3 ⟨rfl, hb3⟩
    have hs3 := hb3.size
    try simp only [World.size_alloc, World.size_setCell] at hs3
    have A_3 : w3.heap[x]? = some (.cells #[.int .u64 an, .int .u64 ad] 24 (0, 0)) := below_at hb3 (by first | omega | (simp; done) | (simp; omega)) (by (repeat (first | (with_reducible assumption) | (with_reducible exact alloc_at _ _) | ((with_reducible apply alloc_at'); (simp; done)) | (with_reducible apply alloc_at_lt) | (with_reducible apply heap_drew_at) | (with_reducible apply heap_drewN_at) | (with_reducible apply heap_setCell_same) | ((with_reducible apply heap_set_ne); (first | omega | (dsimp only; omega) | (simp; done) | (simp; omega))) | (with_reducible apply setRow_at) | ((with_reducible apply setRow_ne); (first | omega | (dsimp only; omega) | (simp; done) | (simp; omega))))))
    have B_3 : w3.heap[y]? = some (.cells #[.int .u64 bn, .int .u64 bd] 24 (0, 0)) := below_at hb3 (by first | omega | (simp; done) | (simp; omega)) (by (repeat (first | (with_reducible assumption) | (with_reducible exact alloc_at _ _) | ((with_reducible apply alloc_at'); (simp; done)) | (with_reducible apply alloc_at_lt) | (with_reducible apply heap_drew_at) | (with_reducible apply heap_drewN_at) | (with_reducible apply heap_setCell_same) | ((with_reducible apply heap_set_ne); (first | omega | (dsimp only; omega) | (simp; done) | (simp; omega))) | (with_reducible apply setRow_at) | ((with_reducible apply setRow_ne); (first | omega | (dsimp only; omega) | (simp; done) | (simp; omega))))))
    have C_3 : w3.heap[z]? = some (.cells #[.int .u64 cn, .int .u64 cd] 24 (0, 0)) := below_at hb3 (by first | omega | (simp; done) | (simp; omega)) (by (repeat (first | (with_reducible assumption) | (with_reducible exact alloc_at _ _) | ((with_reducible apply alloc_at'); (simp; done)) | (with_reducible apply alloc_at_lt) | (with_reducible apply heap_drew_at) | (with_reducible apply heap_drewN_at) | (with_reducible apply heap_setCell_same) | ((with_reducible apply heap_set_ne); (first | omega | (dsimp only; omega) | (simp; done) | (simp; omega))) | (with_reducible apply setRow_at) | ((with_reducible apply setRow_ne); (first | omega | (dsimp only; omega) | (simp; done) | (simp; omega))))))
    have S_3 : w3.heap[w2.heap.size]? = some (.cells #[.int .u64 sn, .int .u64 sd] 24 (0, 0)) := below_at hb3 (by first | omega | (simp; done) | (simp; omega)) (by (repeat (first | (with_reducible assumption) | (with_reducible exact alloc_at _ _) | ((with_reducible apply alloc_at'); (simp; done)) | (with_reducible apply alloc_at_lt) | (with_reducible apply heap_drew_at) | (with_reducible apply heap_drewN_at) | (with_reducible apply heap_setCell_same) | ((with_reducible apply heap_set_ne); (first | omega | (dsimp only; omega) | (simp; done) | (simp; omega))) | (with_reducible apply setRow_at) | ((with_reducible apply setRow_ne); (first | omega | (dsimp only; omega) | (simp; done) | (simp; omega))))))
    have B3 : Below w.heap.size w w3 := Below.trans (by repeat (first | with_reducible assumption | with_reducible exact Below.refl _ _ | with_reducible refine Below.drew ?_ | with_reducible refine below_drewN ?_ _ | with_reducible refine below_alloc ?_ _ | with_reducible refine Below.alloc ?_ (by first | omega | (simp; done) | (simp; omega)) _ | with_reducible refine Below.setCell ?_ (by first | omega | (simp; done) | (simp; omega)) _ | with_reducible refine below_setRow ?_ (by first | omega | (simp; done) | (simp; omega)) _)) (hb3.mono (by first | omega | (simp; done) | (simp; omega)))
    clear hb3 A_2 B_2 C_2
    clear Ac0 Ac1 Acf
    clear Bc0 Bc1 Bcf
    clear Cc0 Cc1 Ccf
    have Ac0 : w3.cell? ⟨x, 0, none⟩ = some (.int .u64 an) := (blk_cell A_3 0).trans rfl
    have Ac1 : w3.cell? ⟨x, 1, none⟩ = some (.int .u64 ad) := (blk_cell A_3 1).trans rfl
    have Acf := blk_free A_3
    have Bc0 : w3.cell? ⟨y, 0, none⟩ = some (.int .u64 bn) := (blk_cell B_3 0).trans rfl
    have Bc1 : w3.cell? ⟨y, 1, none⟩ = some (.int .u64 bd) := (blk_cell B_3 1).trans rfl
    have Bcf := blk_free B_3
    have Cc0 : w3.cell? ⟨z, 0, none⟩ = some (.int .u64 cn) := (blk_cell C_3 0).trans rfl
    have Cc1 : w3.cell? ⟨z, 1, none⟩ = some (.int .u64 cd) := (blk_cell C_3 1).trans rfl
    have Ccf := blk_free C_3
    have Sc0 : w3.cell? ⟨w2.heap.size, 0, none⟩ = some (.int .u64 sn) := (blk_cell S_3 0).trans rfl
    have Sc1 : w3.cell? ⟨w2.heap.size, 1, none⟩ = some (.int .u64 sd) := (blk_cell S_3 1).trans rfl
    have Scf := blk_free S_3
    have Al3 : x < w3.heap.size := by omega
    have Bl3 : y < w3.heap.size := by omega
    have Cl3 : z < w3.heap.size := by omega
    have Sl3 : w2.heap.size < w3.heap.size := by omega
    go_wp2_with fail
    refine (HX.out _).mono ?_
    rintro e w4 ⟨rfl, hb4⟩
    have hs4 := hb4.size
    try simp only [World.size_alloc, World.size_setCell] at hs4
    have A_4 : w4.heap[x]? = some (.cells #[.int .u64 an, .int .u64 ad] 24 (0, 0)) := below_at hb4 (by first | omega | (simp; done) | (simp; omega)) (by (repeat (first | (with_reducible assumption) | (with_reducible exact alloc_at _ _) | ((with_reducible apply alloc_at'); (simp; done)) | (with_reducible apply alloc_at_lt) | (with_reducible apply heap_drew_at) | (with_reducible apply heap_drewN_at) | (with_reducible apply heap_setCell_same) | ((with_reducible apply heap_set_ne); (first | omega | (dsimp only; omega) | (simp; done) | (simp; omega))) | (with_reducible apply setRow_at) | ((with_reducible apply setRow_ne); (first | omega | (dsimp only; omega) | (simp; done) | (simp; omega))))))
    have B_4 : w4.heap[y]? = some (.cells #[.int .u64 bn, .int .u64 bd] 24 (0, 0)) := below_at hb4 (by first | omega | (simp; done) | (simp; omega)) (by (repeat (first | (with_reducible assumption) | (with_reducible exact alloc_at _ _) | ((with_reducible apply alloc_at'); (simp; done)) | (with_reducible apply alloc_at_lt) | (with_reducible apply heap_drew_at) | (with_reducible apply heap_drewN_at) | (with_reducible apply heap_setCell_same) | ((with_reducible apply heap_set_ne); (first | omega | (dsimp only; omega) | (simp; done) | (simp; omega))) | (with_reducible apply setRow_at) | ((with_reducible apply setRow_ne); (first | omega | (dsimp only; omega) | (simp; done) | (simp; omega))))))
    have C_4 : w4.heap[z]? = some (.cells #[.int .u64 cn, .int .u64 cd] 24 (0, 0)) := below_at hb4 (by first | omega | (simp; done) | (simp; omega)) (by (repeat (first | (with_reducible assumption) | (with_reducible exact alloc_at _ _) | ((with_reducible apply alloc_at'); (simp; done)) | (with_reducible apply alloc_at_lt) | (with_reducible apply heap_drew_at) | (with_reducible apply heap_drewN_at) | (with_reducible apply heap_setCell_same) | ((with_reducible apply heap_set_ne); (first | omega | (dsimp only; omega) | (simp; done) | (simp; omega))) | (with_reducible apply setRow_at) | ((with_reducible apply setRow_ne); (first | omega | (dsimp only; omega) | (simp; done) | (simp; omega))))))
    have S_4 : w4.heap[w2.heap.size]? = some (.cells #[.int .u64 sn, .int .u64 sd] 24 (0, 0)) := below_at hb4 (by first | omega | (simp; done) | (simp; omega)) (by (repeat (first | (with_reducible assumption) | (with_reducible exact alloc_at _ _) | ((with_reducible apply alloc_at'); (simp; done)) | (with_reducible apply alloc_at_lt) | (with_reducible apply heap_drew_at) | (with_reducible apply heap_drewN_at) | (with_reducible apply heap_setCell_same) | ((with_reducible apply heap_set_ne); (first | omega | (dsimp only; omega) | (simp; done) | (simp; omega))) | (with_reducible apply setRow_at) | ((with_reducible apply setRow_ne); (first | omega | (dsimp only; omega) | (simp; done) | (simp; omega))))))
    have P_4 : w4.heap[w3.heap.size]? = some (.cells #[.int .u64 pn, .int .u64 pd] 24 (0, 0)) := below_at hb4 (by first | omega | (simp; done) | (simp; omega)) (by (repeat (first | (with_reducible assumption) | (with_reducible exact alloc_at _ _) | ((with_reducible apply alloc_at'); (simp; done)) | (with_reducible apply alloc_at_lt) | (with_reducible apply heap_drew_at) | (with_reducible apply heap_drewN_at) | (with_reducible apply heap_setCell_same) | ((with_reducible apply heap_set_ne); (first | omega | (dsimp only; omega) | (simp; done) | (simp; omega))) | (with_reducible apply setRow_at) | ((with_reducible apply setRow_ne); (first | omega | (dsimp only; omega) | (simp; done) | (simp; omega))))))
    have B4 : Below w.heap.size w w4 := Below.trans (by repeat (first | with_reducible assumption | with_reducible exact Below.refl _ _ | with_reducible refine Below.drew ?_ | with_reducible refine below_drewN ?_ _ | with_reducible refine below_alloc ?_ _ | with_reducible refine Below.alloc ?_ (by first | omega | (simp; done) | (simp; omega)) _ | with_reducible refine Below.setCell ?_ (by first | omega | (simp; done) | (simp; omega)) _ | with_reducible refine below_setRow ?_ (by first | omega | (simp; done) | (simp; omega)) _)) (hb4.mono (by first | omega | (simp; done) | (simp; omega)))
    clear hb4 A_3 B_3 C_3 S_3
    clear Ac0 Ac1 Acf
    clear Bc0 Bc1 Bcf
    clear Cc0 Cc1 Ccf
    clear Sc0 Sc1 Scf
    have Ac0 : w4.cell? ⟨x, 0, none⟩ = some (.int .u64 an) := (blk_cell A_4 0).trans rfl
    have Ac1 : w4.cell? ⟨x, 1, none⟩ = some (.int .u64 ad) := (blk_cell A_4 1).trans rfl
    have Acf := blk_free A_4
    have Bc0 : w4.cell? ⟨y, 0, none⟩ = some (.int .u64 bn) := (blk_cell B_4 0).trans rfl
    have Bc1 : w4.cell? ⟨y, 1, none⟩ = some (.int .u64 bd) := (blk_cell B_4 1).trans rfl
    have Bcf := blk_free B_4
    have Cc0 : w4.cell? ⟨z, 0, none⟩ = some (.int .u64 cn) := (blk_cell C_4 0).trans rfl
    have Cc1 : w4.cell? ⟨z, 1, none⟩ = some (.int .u64 cd) := (blk_cell C_4 1).trans rfl
    have Ccf := blk_free C_4
    have Sc0 : w4.cell? ⟨w2.heap.size, 0, none⟩ = some (.int .u64 sn) := (blk_cell S_4 0).trans rfl
    have Sc1 : w4.cell? ⟨w2.heap.size, 1, none⟩ = some (.int .u64 sd) := (blk_cell S_4 1).trans rfl
    have Scf := blk_free S_4
    have Pc0 : w4.cell? ⟨w3.heap.size, 0, none⟩ = some (.int .u64 pn) := (blk_cell P_4 0).trans rfl
    have Pc1 : w4.cell? ⟨w3.heap.size, 1, none⟩ = some (.int .u64 pd) := (blk_cell P_4 1).trans rfl
    have Pcf := blk_free P_4
    have Al4 : x < w4.heap.size := by omega
    have Bl4 : y < w4.heap.size := by omega
    have Cl4 : z < w4.heap.size := by omega
    have Sl4 : w2.heap.size < w4.heap.size := by omega
    have Pl4 : w3.heap.size < w4.heap.size := by omega
    go_wp2_with fail
    refine (HY.out _).mono ?_
    rintro e w5 ⟨rfl, hb5⟩
    have hs5 := hb5.size
    try simp only [World.size_alloc, World.size_setCell] at hs5
    have A_5 : w5.heap[x]? = some (.cells #[.int .u64 an, .int .u64 ad] 24 (0, 0)) := below_at hb5 (by first | omega | (simp; done) | (simp; omega)) (by (repeat (first | (with_reducible assumption) | (with_reducible exact alloc_at _ _) | ((with_reducible apply alloc_at'); (simp; done)) | (with_reducible apply alloc_at_lt) | (with_reducible apply heap_drew_at) | (with_reducible apply heap_drewN_at) | (with_reducible apply heap_setCell_same) | ((with_reducible apply heap_set_ne); (first | omega | (dsimp only; omega) | (simp; done) | (simp; omega))) | (with_reducible apply setRow_at) | ((with_reducible apply setRow_ne); (first | omega | (dsimp only; omega) | (simp; done) | (simp; omega))))))
    have B_5 : w5.heap[y]? = some (.cells #[.int .u64 bn, .int .u64 bd] 24 (0, 0)) := below_at hb5 (by first | omega | (simp; done) | (simp; omega)) (by (repeat (first | (with_reducible assumption) | (with_reducible exact alloc_at _ _) | ((with_reducible apply alloc_at'); (simp; done)) | (with_reducible apply alloc_at_lt) | (with_reducible apply heap_drew_at) | (with_reducible apply heap_drewN_at) | (with_reducible apply heap_setCell_same) | ((with_reducible apply heap_set_ne); (first | omega | (dsimp only; omega) | (simp; done) | (simp; omega))) | (with_reducible apply setRow_at) | ((with_reducible apply setRow_ne); (first | omega | (dsimp only; omega) | (simp; done) | (simp; omega))))))
    have C_5 : w5.heap[z]? = some (.cells #[.int .u64 cn, .int .u64 cd] 24 (0, 0)) := below_at hb5 (by first | omega | (simp; done) | (simp; omega)) (by (repeat (first | (with_reducible assumption) | (with_reducible exact alloc_at _ _) | ((with_reducible apply alloc_at'); (simp; done)) | (with_reducible apply alloc_at_lt) | (with_reducible apply heap_drew_at) | (with_reducible apply heap_drewN_at) | (with_reducible apply heap_setCell_same) | ((with_reducible apply heap_set_ne); (first | omega | (dsimp only; omega) | (simp; done) | (simp; omega))) | (with_reducible apply setRow_at) | ((with_reducible apply setRow_ne); (first | omega | (dsimp only; omega) | (simp; done) | (simp; omega))))))
    have S_5 : w5.heap[w2.heap.size]? = some (.cells #[.int .u64 sn, .int .u64 sd] 24 (0, 0)) := below_at hb5 (by first | omega | (simp; done) | (simp; omega)) (by (repeat (first | (with_reducible assumption) | (with_reducible exact alloc_at _ _) | ((with_reducible apply alloc_at'); (simp; done)) | (with_reducible apply alloc_at_lt) | (with_reducible apply heap_drew_at) | (with_reducible apply heap_drewN_at) | (with_reducible apply heap_setCell_same) | ((with_reducible apply heap_set_ne); (first | omega | (dsimp only; omega) | (simp; done) | (simp; omega))) | (with_reducible apply setRow_at) | ((with_reducible apply setRow_ne); (first | omega | (dsimp only; omega) | (simp; done) | (simp; omega))))))
    have P_5 : w5.heap[w3.heap.size]? = some (.cells #[.int .u64 pn, .int .u64 pd] 24 (0, 0)) := below_at hb5 (by first | omega | (simp; done) | (simp; omega)) (by (repeat (first | (with_reducible assumption) | (with_reducible exact alloc_at _ _) | ((with_reducible apply alloc_at'); (simp; done)) | (with_reducible apply alloc_at_lt) | (with_reducible apply heap_drew_at) | (with_reducible apply heap_drewN_at) | (with_reducible apply heap_setCell_same) | ((with_reducible apply heap_set_ne); (first | omega | (dsimp only; omega) | (simp; done) | (simp; omega))) | (with_reducible apply setRow_at) | ((with_reducible apply setRow_ne); (first | omega | (dsimp only; omega) | (simp; done) | (simp; omega))))))
    have X_5 : w5.heap[w4.heap.size]? = some (.cells #[.int .u64 xn, .int .u64 xd] 24 (0, 0)) := below_at hb5 (by first | omega | (simp; done) | (simp; omega)) (by (repeat (first | (with_reducible assumption) | (with_reducible exact alloc_at _ _) | ((with_reducible apply alloc_at'); (simp; done)) | (with_reducible apply alloc_at_lt) | (with_reducible apply heap_drew_at) | (with_reducible apply heap_drewN_at) | (with_reducible apply heap_setCell_same) | ((with_reducible apply heap_set_ne); (first | omega | (dsimp only; omega) | (simp; done) | (simp; omega))) | (with_reducible apply setRow_at) | ((with_reducible apply setRow_ne); (first | omega | (dsimp only; omega) | (simp; done) | (simp; omega))))))
    have B5 : Below w.heap.size w w5 := Below.trans (by repeat (first | with_reducible assumption | with_reducible exact Below.refl _ _ | with_reducible refine Below.drew ?_ | with_reducible refine below_drewN ?_ _ | with_reducible refine below_alloc ?_ _ | with_reducible refine Below.alloc ?_ (by first | omega | (simp; done) | (simp; omega)) _ | with_reducible refine Below.setCell ?_ (by first | omega | (simp; done) | (simp; omega)) _ | with_reducible refine below_setRow ?_ (by first | omega | (simp; done) | (simp; omega)) _)) (hb5.mono (by first | omega | (simp; done) | (simp; omega)))
    clear hb5 A_4 B_4 C_4 S_4 P_4
    clear Ac0 Ac1 Acf
    clear Bc0 Bc1 Bcf
    clear Cc0 Cc1 Ccf
    clear Sc0 Sc1 Scf
    clear Pc0 Pc1 Pcf
    have Ac0 : w5.cell? ⟨x, 0, none⟩ = some (.int .u64 an) := (blk_cell A_5 0).trans rfl
    have Ac1 : w5.cell? ⟨x, 1, none⟩ = some (.int .u64 ad) := (blk_cell A_5 1).trans rfl
    have Acf := blk_free A_5
    have Bc0 : w5.cell? ⟨y, 0, none⟩ = some (.int .u64 bn) := (blk_cell B_5 0).trans rfl
    have Bc1 : w5.cell? ⟨y, 1, none⟩ = some (.int .u64 bd) := (blk_cell B_5 1).trans rfl
    have Bcf := blk_free B_5
    have Cc0 : w5.cell? ⟨z, 0, none⟩ = some (.int .u64 cn) := (blk_cell C_5 0).trans rfl
    have Cc1 : w5.cell? ⟨z, 1, none⟩ = some (.int .u64 cd) := (blk_cell C_5 1).trans rfl
    have Ccf := blk_free C_5
    have Sc0 : w5.cell? ⟨w2.heap.size, 0, none⟩ = some (.int .u64 sn) := (blk_cell S_5 0).trans rfl
    have Sc1 : w5.cell? ⟨w2.heap.size, 1, none⟩ = some (.int .u64 sd) := (blk_cell S_5 1).trans rfl
    have Scf := blk_free S_5
    have Pc0 : w5.cell? ⟨w3.heap.size, 0, none⟩ = some (.int .u64 pn) := (blk_cell P_5 0).trans rfl
    have Pc1 : w5.cell? ⟨w3.heap.size, 1, none⟩ = some (.int .u64 pd) := (blk_cell P_5 1).trans rfl
    have Pcf := blk_free P_5
    have Xc0 : w5.cell? ⟨w4.heap.size, 0, none⟩ = some (.int .u64 xn) := (blk_cell X_5 0).trans rfl
    have Xc1 : w5.cell? ⟨w4.heap.size, 1, none⟩ = some (.int .u64 xd) := (blk_cell X_5 1).trans rfl
    have Xcf := blk_free X_5
    have Al5 : x < w5.heap.size := by omega
    have Bl5 : y < w5.heap.size := by omega
    have Cl5 : z < w5.heap.size := by omega
    have Sl5 : w2.heap.size < w5.heap.size := by omega
    have Pl5 : w3.heap.size < w5.heap.size := by omega
    have Xl5 : w4.heap.size < w5.heap.size := by omega
    go_wp2_with fail
    refine (HZ.out _).mono ?_
    rintro e w6 ⟨rfl, hb6⟩
    have hs6 := hb6.size
    try simp only [World.size_alloc, World.size_setCell] at hs6
    have A_6 : w6.heap[x]? = some (.cells #[.int .u64 an, .int .u64 ad] 24 (0, 0)) := below_at hb6 (by first | omega | (simp; done) | (simp; omega)) (by (repeat (first | (with_reducible assumption) | (with_reducible exact alloc_at _ _) | ((with_reducible apply alloc_at'); (simp; done)) | (with_reducible apply alloc_at_lt) | (with_reducible apply heap_drew_at) | (with_reducible apply heap_drewN_at) | (with_reducible apply heap_setCell_same) | ((with_reducible apply heap_set_ne); (first | omega | (dsimp only; omega) | (simp; done) | (simp; omega))) | (with_reducible apply setRow_at) | ((with_reducible apply setRow_ne); (first | omega | (dsimp only; omega) | (simp; done) | (simp; omega))))))
    have B_6 : w6.heap[y]? = some (.cells #[.int .u64 bn, .int .u64 bd] 24 (0, 0)) := below_at hb6 (by first | omega | (simp; done) | (simp; omega)) (by (repeat (first | (with_reducible assumption) | (with_reducible exact alloc_at _ _) | ((with_reducible apply alloc_at'); (simp; done)) | (with_reducible apply alloc_at_lt) | (with_reducible apply heap_drew_at) | (with_reducible apply heap_drewN_at) | (with_reducible apply heap_setCell_same) | ((with_reducible apply heap_set_ne); (first | omega | (dsimp only; omega) | (simp; done) | (simp; omega))) | (with_reducible apply setRow_at) | ((with_reducible apply setRow_ne); (first | omega | (dsimp only; omega) | (simp; done) | (simp; omega))))))
    have C_6 : w6.heap[z]? = some (.cells #[.int .u64 cn, .int .u64 cd] 24 (0, 0)) := below_at hb6 (by first | omega | (simp; done) | (simp; omega)) (by (repeat (first | (with_reducible assumption) | (with_reducible exact alloc_at _ _) | ((with_reducible apply alloc_at'); (simp; done)) | (with_reducible apply alloc_at_lt) | (with_reducible apply heap_drew_at) | (with_reducible apply heap_drewN_at) | (with_reducible apply heap_setCell_same) | ((with_reducible apply heap_set_ne); (first | omega | (dsimp only; omega) | (simp; done) | (simp; omega))) | (with_reducible apply setRow_at) | ((with_reducible apply setRow_ne); (first | omega | (dsimp only; omega) | (simp; done) | (simp; omega))))))
    have S_6 : w6.heap[w2.heap.size]? = some (.cells #[.int .u64 sn, .int .u64 sd] 24 (0, 0)) := below_at hb6 (by first | omega | (simp; done) | (simp; omega)) (by (repeat (first | (with_reducible assumption) | (with_reducible exact alloc_at _ _) | ((with_reducible apply alloc_at'); (simp; done)) | (with_reducible apply alloc_at_lt) | (with_reducible apply heap_drew_at) | (with_reducible apply heap_drewN_at) | (with_reducible apply heap_setCell_same) | ((with_reducible apply heap_set_ne); (first | omega | (dsimp only; omega) | (simp; done) | (simp; omega))) | (with_reducible apply setRow_at) | ((with_reducible apply setRow_ne); (first | omega | (dsimp only; omega) | (simp; done) | (simp; omega))))))
    have P_6 : w6.heap[w3.heap.size]? = some (.cells #[.int .u64 pn, .int .u64 pd] 24 (0, 0)) := below_at hb6 (by first | omega | (simp; done) | (simp; omega)) (by (repeat (first | (with_reducible assumption) | (with_reducible exact alloc_at _ _) | ((with_reducible apply alloc_at'); (simp; done)) | (with_reducible apply alloc_at_lt) | (with_reducible apply heap_drew_at) | (with_reducible apply heap_drewN_at) | (with_reducible apply heap_setCell_same) | ((with_reducible apply heap_set_ne); (first | omega | (dsimp only; omega) | (simp; done) | (simp; omega))) | (with_reducible apply setRow_at) | ((with_reducible apply setRow_ne); (first | omega | (dsimp only; omega) | (simp; done) | (simp; omega))))))
    have X_6 : w6.heap[w4.heap.size]? = some (.cells #[.int .u64 xn, .int .u64 xd] 24 (0, 0)) := below_at hb6 (by first | omega | (simp; done) | (simp; omega)) (by (repeat (first | (with_reducible assumption) | (with_reducible exact alloc_at _ _) | ((with_reducible apply alloc_at'); (simp; done)) | (with_reducible apply alloc_at_lt) | (with_reducible apply heap_drew_at) | (with_reducible apply heap_drewN_at) | (with_reducible apply heap_setCell_same) | ((with_reducible apply heap_set_ne); (first | omega | (dsimp only; omega) | (simp; done) | (simp; omega))) | (with_reducible apply setRow_at) | ((with_reducible apply setRow_ne); (first | omega | (dsimp only; omega) | (simp; done) | (simp; omega))))))
    have Y_6 : w6.heap[w5.heap.size]? = some (.cells #[.int .u64 yn, .int .u64 yd] 24 (0, 0)) := below_at hb6 (by first | omega | (simp; done) | (simp; omega)) (by (repeat (first | (with_reducible assumption) | (with_reducible exact alloc_at _ _) | ((with_reducible apply alloc_at'); (simp; done)) | (with_reducible apply alloc_at_lt) | (with_reducible apply heap_drew_at) | (with_reducible apply heap_drewN_at) | (with_reducible apply heap_setCell_same) | ((with_reducible apply heap_set_ne); (first | omega | (dsimp only; omega) | (simp; done) | (simp; omega))) | (with_reducible apply setRow_at) | ((with_reducible apply setRow_ne); (first | omega | (dsimp only; omega) | (simp; done) | (simp; omega))))))
    have B6 : Below w.heap.size w w6 := Below.trans (by repeat (first | with_reducible assumption | with_reducible exact Below.refl _ _ | with_reducible refine Below.drew ?_ | with_reducible refine below_drewN ?_ _ | with_reducible refine below_alloc ?_ _ | with_reducible refine Below.alloc ?_ (by first | omega | (simp; done) | (simp; omega)) _ | with_reducible refine Below.setCell ?_ (by first | omega | (simp; done) | (simp; omega)) _ | with_reducible refine below_setRow ?_ (by first | omega | (simp; done) | (simp; omega)) _)) (hb6.mono (by first | omega | (simp; done) | (simp; omega)))
    clear hb6 A_5 B_5 C_5 S_5 P_5 X_5
    clear Ac0 Ac1 Acf
    clear Bc0 Bc1 Bcf
    clear Cc0 Cc1 Ccf
    clear Sc0 Sc1 Scf
    clear Pc0 Pc1 Pcf
    clear Xc0 Xc1 Xcf
    have Ac0 : w6.cell? ⟨x, 0, none⟩ = some (.int .u64 an) := (blk_cell A_6 0).trans rfl
    have Ac1 : w6.cell? ⟨x, 1, none⟩ = some (.int .u64 ad) := (blk_cell A_6 1).trans rfl
    have Acf := blk_free A_6
    have Bc0 : w6.cell? ⟨y, 0, none⟩ = some (.int .u64 bn) := (blk_cell B_6 0).trans rfl
    have Bc1 : w6.cell? ⟨y, 1, none⟩ = some (.int .u64 bd) := (blk_cell B_6 1).trans rfl
    have Bcf := blk_free B_6
    have Cc0 : w6.cell? ⟨z, 0, none⟩ = some (.int .u64 cn) := (blk_cell C_6 0).trans rfl
    have Cc1 : w6.cell? ⟨z, 1, none⟩ = some (.int .u64 cd) := (blk_cell C_6 1).trans rfl
    have Ccf := blk_free C_6
    have Sc0 : w6.cell? ⟨w2.heap.size, 0, none⟩ = some (.int .u64 sn) := (blk_cell S_6 0).trans rfl
    have Sc1 : w6.cell? ⟨w2.heap.size, 1, none⟩ = some (.int .u64 sd) := (blk_cell S_6 1).trans rfl
    have Scf := blk_free S_6
    have Pc0 : w6.cell? ⟨w3.heap.size, 0, none⟩ = some (.int .u64 pn) := (blk_cell P_6 0).trans rfl
    have Pc1 : w6.cell? ⟨w3.heap.size, 1, none⟩ = some (.int .u64 pd) := (blk_cell P_6 1).trans rfl
    have Pcf := blk_free P_6
    have Xc0 : w6.cell? ⟨w4.heap.size, 0, none⟩ = some (.int .u64 xn) := (blk_cell X_6 0).trans rfl
    have Xc1 : w6.cell? ⟨w4.heap.size, 1, none⟩ = some (.int .u64 xd) := (blk_cell X_6 1).trans rfl
    have Xcf := blk_free X_6
    have Yc0 : w6.cell? ⟨w5.heap.size, 0, none⟩ = some (.int .u64 yn) := (blk_cell Y_6 0).trans rfl
    have Yc1 : w6.cell? ⟨w5.heap.size, 1, none⟩ = some (.int .u64 yd) := (blk_cell Y_6 1).trans rfl
    have Ycf := blk_free Y_6
    have Al6 : x < w6.heap.size := by omega
    have Bl6 : y < w6.heap.size := by omega
    have Cl6 : z < w6.heap.size := by omega
    have Sl6 : w2.heap.size < w6.heap.size := by omega
    have Pl6 : w3.heap.size < w6.heap.size := by omega
    have Xl6 : w4.heap.size < w6.heap.size := by omega
    have Yl6 : w5.heap.size < w6.heap.size := by omega
    go_wp2
    go_ret
    exact ⟨by first | rfl | simp, (by repeat (first | with_reducible assumption | with_reducible exact Below.refl _ _ | with_reducible refine Below.drew ?_ | with_reducible refine below_drewN ?_ _ | with_reducible refine below_alloc ?_ _ | with_reducible refine Below.alloc ?_ (by first | omega | (simp; done) | (simp; omega)) _ | with_reducible refine Below.setCell ?_ (by first | omega | (simp; done) | (simp; omega)) _ | with_reducible refine below_setRow ?_ (by first | omega | (simp; done) | (simp; omega)) _))⟩
set_option maxRecDepth 100000 in
set_option maxHeartbeats 4000000 in
theorem parts_z (an ad bn bd cn cd sn sd pn pd xn xd yn yd zn zd  : Int) (w : World) (hc : (cn == 0) = true)
    (HA : Hid (∀ W, Calls Try.prog 15 #[.agg #[.int .u64 an, .int .u64 ad], .agg #[.int .u64 bn, .int .u64 bd]] W fun e w' => e = .returned (.tuple #[.agg #[.int .u64 sn, .int .u64 sd], .int .i64 0]) ∧ Below W.heap.size W w')) (HP : Hid (∀ W, Calls Try.prog 16 #[.agg #[.int .u64 sn, .int .u64 sd], .agg #[.int .u64 cn, .int .u64 cd]] W fun e w' => e = .returned (.tuple #[.agg #[.int .u64 0, .int .u64 1], .int .i64 0]) ∧ Below W.heap.size W w')) (HX : Hid (∀ W, Calls Try.prog 16 #[.agg #[.int .u64 an, .int .u64 ad], .agg #[.int .u64 cn, .int .u64 cd]] W fun e w' => e = .returned (.tuple #[.agg #[.int .u64 xn, .int .u64 xd], .int .i64 0]) ∧ Below W.heap.size W w')) (HY : Hid (∀ W, Calls Try.prog 16 #[.agg #[.int .u64 bn, .int .u64 bd], .agg #[.int .u64 cn, .int .u64 cd]] W fun e w' => e = .returned (.tuple #[.agg #[.int .u64 yn, .int .u64 yd], .int .i64 0]) ∧ Below W.heap.size W w')) (HZ : Hid (∀ W, Calls Try.prog 15 #[.agg #[.int .u64 xn, .int .u64 xd], .agg #[.int .u64 yn, .int .u64 yd]] W fun e w' => e = .returned (.tuple #[.agg #[.int .u64 0, .int .u64 1], .int .i64 0]) ∧ Below W.heap.size W w')) :
    Calls Try.prog 5 #[.agg #[.int .u64 an, .int .u64 ad, .int .u64 bn, .int .u64 bd, .int .u64 cn, .int .u64 cd]] w fun e w' => e = .returned (.bool true) ∧ Below w.heap.size w w' := by
  go_enter Try.func5, Try.ntmps5
  go_upto_region 1 with fail
  obtain ⟨wo, hwo⟩ : ∃ wo : World, wo = w.alloc (.cells #[.int .u64 an, .int .u64 ad, .int .u64 bn, .int .u64 bd, .int .u64 cn, .int .u64 cd] 38) := ⟨_, rfl⟩
  rw [← hwo]
  have hT : wo.heap[w.heap.size]? = some (.cells #[.int .u64 an, .int .u64 ad, .int .u64 bn, .int .u64 bd, .int .u64 cn, .int .u64 cd] 38 (0, 0)) := by rw [hwo]; exact alloc_at _ _
  have hB0 : Below w.heap.size w wo := by rw [hwo]; exact (by repeat (first | with_reducible assumption | with_reducible exact Below.refl _ _ | with_reducible refine Below.drew ?_ | with_reducible refine below_drewN ?_ _ | with_reducible refine below_alloc ?_ _ | with_reducible refine Below.alloc ?_ (by first | omega | (simp; done) | (simp; omega)) _ | with_reducible refine Below.setCell ?_ (by first | omega | (simp; done) | (simp; omega)) _ | with_reducible refine below_setRow ?_ (by first | omega | (simp; done) | (simp; omega)) _))
  have hs0 : w.heap.size < wo.heap.size := by rw [hwo]; simp
  have c0 := blk_cell hT 0
  have c1 := blk_cell hT 1
  have c2 := blk_cell hT 2
  have c3 := blk_cell hT 3
  have c4 := blk_cell hT 4
  have c5 := blk_cell hT 5
  simp at c0 c1 c2 c3 c4 c5
  clear hwo hT
  go_cut [3, 4, 5] (fun s5 s6 s7 wx => ∃ x y z : Nat, s5 = .pointer (some ⟨x, 0, none⟩) ∧ s6 = .pointer (some ⟨y, 0, none⟩) ∧ s7 = .pointer (some ⟨z, 0, none⟩) ∧ Below w.heap.size w wx ∧
    wx.heap[x]? = some (.cells #[.int .u64 an, .int .u64 ad] 24 (0, 0)) ∧ wx.heap[y]? = some (.cells #[.int .u64 bn, .int .u64 bd] 24 (0, 0)) ∧ wx.heap[z]? = some (.cells #[.int .u64 cn, .int .u64 cd] 24 (0, 0)))
  case first =>
    go_region_held3 (fun w' => Below wo.heap.size wo w' ∧ (∀ b o, b < wo.heap.size → w'.cell? ⟨b, o, none⟩ = wo.cell? ⟨b, o, none⟩) ∧ ∀ b o, b < wo.heap.size → w'.frozen? ⟨b, o, none⟩ = wo.frozen? ⟨b, o, none⟩) (first | ((try go_split_ands); (try dsimp only); refine same_of ?_; (repeat (first | with_reducible assumption | with_reducible exact Below.refl _ _ | with_reducible refine Below.drew ?_ | with_reducible refine below_drewN ?_ _ | with_reducible refine below_alloc ?_ _ | with_reducible refine Below.alloc ?_ (by first | omega | (simp; done) | (simp; omega)) _ | with_reducible refine Below.setCell ?_ (by first | omega | (simp; done) | (simp; omega)) _ | with_reducible refine below_setRow ?_ (by first | omega | (simp; done) | (simp; omega)) _)); done)) (fail)
    all_goals (go_wp2_with fail; go_meet; exact ⟨_, _, _, rfl, rfl, rfl, (by repeat (first | with_reducible assumption | with_reducible exact Below.refl _ _ | with_reducible refine Below.drew ?_ | with_reducible refine below_drewN ?_ _ | with_reducible refine below_alloc ?_ _ | with_reducible refine Below.alloc ?_ (by first | omega | (simp; done) | (simp; omega)) _ | with_reducible refine Below.setCell ?_ (by first | omega | (simp; done) | (simp; omega)) _ | with_reducible refine below_setRow ?_ (by first | omega | (simp; done) | (simp; omega)) _)), (by (repeat (first | (with_reducible assumption) | (with_reducible exact alloc_at _ _) | ((with_reducible apply alloc_at'); (simp; done)) | (with_reducible apply alloc_at_lt) | (with_reducible apply heap_drew_at) | (with_reducible apply heap_drewN_at) | (with_reducible apply heap_setCell_same) | ((with_reducible apply heap_set_ne); (first | omega | (dsimp only; omega) | (simp; done) | (simp; omega))) | (with_reducible apply setRow_at) | ((with_reducible apply setRow_ne); (first | omega | (dsimp only; omega) | (simp; done) | (simp; omega)))))), (by (repeat (first | (with_reducible assumption) | (with_reducible exact alloc_at _ _) | ((with_reducible apply alloc_at'); (simp; done)) | (with_reducible apply alloc_at_lt) | (with_reducible apply heap_drew_at) | (with_reducible apply heap_drewN_at) | (with_reducible apply heap_setCell_same) | ((with_reducible apply heap_set_ne); (first | omega | (dsimp only; omega) | (simp; done) | (simp; omega))) | (with_reducible apply setRow_at) | ((with_reducible apply setRow_ne); (first | omega | (dsimp only; omega) | (simp; done) | (simp; omega)))))), (by (repeat (first | (with_reducible assumption) | (with_reducible exact alloc_at _ _) | ((with_reducible apply alloc_at'); (simp; done)) | (with_reducible apply alloc_at_lt) | (with_reducible apply heap_drew_at) | (with_reducible apply heap_drewN_at) | (with_reducible apply heap_setCell_same) | ((with_reducible apply heap_set_ne); (first | omega | (dsimp only; omega) | (simp; done) | (simp; omega))) | (with_reducible apply setRow_at) | ((with_reducible apply setRow_ne); (first | omega | (dsimp only; omega) | (simp; done) | (simp; omega))))))⟩)
  case rest =>
    obtain ⟨x, y, z, rfl, rfl, rfl, hB, hX, hY, hZ⟩ := hcut
    clear c0 c1 c2 c3 c4 c5 hB0 hs0 wo
    have hx := lt_of_at hX
    have hy := lt_of_at hY
    have hz := lt_of_at hZ
    have hsz := hB.size
    go_wp2_with fail
    refine (awake2_any _).mono ?_
    rintro e w1 ⟨rfl, hb1⟩
    have hs1 := hb1.size
    try simp only [World.size_alloc, World.size_setCell] at hs1
    have A_1 : w1.heap[x]? = some (.cells #[.int .u64 an, .int .u64 ad] 24 (0, 0)) := below_at hb1 (by first | omega | (simp; done) | (simp; omega)) (by (repeat (first | (with_reducible assumption) | (with_reducible exact alloc_at _ _) | ((with_reducible apply alloc_at'); (simp; done)) | (with_reducible apply alloc_at_lt) | (with_reducible apply heap_drew_at) | (with_reducible apply heap_drewN_at) | (with_reducible apply heap_setCell_same) | ((with_reducible apply heap_set_ne); (first | omega | (dsimp only; omega) | (simp; done) | (simp; omega))) | (with_reducible apply setRow_at) | ((with_reducible apply setRow_ne); (first | omega | (dsimp only; omega) | (simp; done) | (simp; omega))))))
    have B_1 : w1.heap[y]? = some (.cells #[.int .u64 bn, .int .u64 bd] 24 (0, 0)) := below_at hb1 (by first | omega | (simp; done) | (simp; omega)) (by (repeat (first | (with_reducible assumption) | (with_reducible exact alloc_at _ _) | ((with_reducible apply alloc_at'); (simp; done)) | (with_reducible apply alloc_at_lt) | (with_reducible apply heap_drew_at) | (with_reducible apply heap_drewN_at) | (with_reducible apply heap_setCell_same) | ((with_reducible apply heap_set_ne); (first | omega | (dsimp only; omega) | (simp; done) | (simp; omega))) | (with_reducible apply setRow_at) | ((with_reducible apply setRow_ne); (first | omega | (dsimp only; omega) | (simp; done) | (simp; omega))))))
    have C_1 : w1.heap[z]? = some (.cells #[.int .u64 cn, .int .u64 cd] 24 (0, 0)) := below_at hb1 (by first | omega | (simp; done) | (simp; omega)) (by (repeat (first | (with_reducible assumption) | (with_reducible exact alloc_at _ _) | ((with_reducible apply alloc_at'); (simp; done)) | (with_reducible apply alloc_at_lt) | (with_reducible apply heap_drew_at) | (with_reducible apply heap_drewN_at) | (with_reducible apply heap_setCell_same) | ((with_reducible apply heap_set_ne); (first | omega | (dsimp only; omega) | (simp; done) | (simp; omega))) | (with_reducible apply setRow_at) | ((with_reducible apply setRow_ne); (first | omega | (dsimp only; omega) | (simp; done) | (simp; omega))))))
    have B1 : Below w.heap.size w w1 := Below.trans (by repeat (first | with_reducible assumption | with_reducible exact Below.refl _ _ | with_reducible refine Below.drew ?_ | with_reducible refine below_drewN ?_ _ | with_reducible refine below_alloc ?_ _ | with_reducible refine Below.alloc ?_ (by first | omega | (simp; done) | (simp; omega)) _ | with_reducible refine Below.setCell ?_ (by first | omega | (simp; done) | (simp; omega)) _ | with_reducible refine below_setRow ?_ (by first | omega | (simp; done) | (simp; omega)) _)) (hb1.mono (by first | omega | (simp; done) | (simp; omega)))
    clear hb1
    have Ac0 : w1.cell? ⟨x, 0, none⟩ = some (.int .u64 an) := (blk_cell A_1 0).trans rfl
    have Ac1 : w1.cell? ⟨x, 1, none⟩ = some (.int .u64 ad) := (blk_cell A_1 1).trans rfl
    have Acf := blk_free A_1
    have Bc0 : w1.cell? ⟨y, 0, none⟩ = some (.int .u64 bn) := (blk_cell B_1 0).trans rfl
    have Bc1 : w1.cell? ⟨y, 1, none⟩ = some (.int .u64 bd) := (blk_cell B_1 1).trans rfl
    have Bcf := blk_free B_1
    have Cc0 : w1.cell? ⟨z, 0, none⟩ = some (.int .u64 cn) := (blk_cell C_1 0).trans rfl
    have Cc1 : w1.cell? ⟨z, 1, none⟩ = some (.int .u64 cd) := (blk_cell C_1 1).trans rfl
    have Ccf := blk_free C_1
    have Al1 : x < w1.heap.size := by omega
    have Bl1 : y < w1.heap.size := by omega
    have Cl1 : z < w1.heap.size := by omega
    go_wp2_with fail
    refine (HA.out _).mono ?_
    rintro e w2 ⟨rfl, hb2⟩
    have hs2 := hb2.size
    try simp only [World.size_alloc, World.size_setCell] at hs2
    have A_2 : w2.heap[x]? = some (.cells #[.int .u64 an, .int .u64 ad] 24 (0, 0)) := below_at hb2 (by first | omega | (simp; done) | (simp; omega)) (by (repeat (first | (with_reducible assumption) | (with_reducible exact alloc_at _ _) | ((with_reducible apply alloc_at'); (simp; done)) | (with_reducible apply alloc_at_lt) | (with_reducible apply heap_drew_at) | (with_reducible apply heap_drewN_at) | (with_reducible apply heap_setCell_same) | ((with_reducible apply heap_set_ne); (first | omega | (dsimp only; omega) | (simp; done) | (simp; omega))) | (with_reducible apply setRow_at) | ((with_reducible apply setRow_ne); (first | omega | (dsimp only; omega) | (simp; done) | (simp; omega))))))
    have B_2 : w2.heap[y]? = some (.cells #[.int .u64 bn, .int .u64 bd] 24 (0, 0)) := below_at hb2 (by first | omega | (simp; done) | (simp; omega)) (by (repeat (first | (with_reducible assumption) | (with_reducible exact alloc_at _ _) | ((with_reducible apply alloc_at'); (simp; done)) | (with_reducible apply alloc_at_lt) | (with_reducible apply heap_drew_at) | (with_reducible apply heap_drewN_at) | (with_reducible apply heap_setCell_same) | ((with_reducible apply heap_set_ne); (first | omega | (dsimp only; omega) | (simp; done) | (simp; omega))) | (with_reducible apply setRow_at) | ((with_reducible apply setRow_ne); (first | omega | (dsimp only; omega) | (simp; done) | (simp; omega))))))
    have C_2 : w2.heap[z]? = some (.cells #[.int .u64 cn, .int .u64 cd] 24 (0, 0)) := below_at hb2 (by first | omega | (simp; done) | (simp; omega)) (by (repeat (first | (with_reducible assumption) | (with_reducible exact alloc_at _ _) | ((with_reducible apply alloc_at'); (simp; done)) | (with_reducible apply alloc_at_lt) | (with_reducible apply heap_drew_at) | (with_reducible apply heap_drewN_at) | (with_reducible apply heap_setCell_same) | ((with_reducible apply heap_set_ne); (first | omega | (dsimp only; omega) | (simp; done) | (simp; omega))) | (with_reducible apply setRow_at) | ((with_reducible apply setRow_ne); (first | omega | (dsimp only; omega) | (simp; done) | (simp; omega))))))
    have B2 : Below w.heap.size w w2 := Below.trans (by repeat (first | with_reducible assumption | with_reducible exact Below.refl _ _ | with_reducible refine Below.drew ?_ | with_reducible refine below_drewN ?_ _ | with_reducible refine below_alloc ?_ _ | with_reducible refine Below.alloc ?_ (by first | omega | (simp; done) | (simp; omega)) _ | with_reducible refine Below.setCell ?_ (by first | omega | (simp; done) | (simp; omega)) _ | with_reducible refine below_setRow ?_ (by first | omega | (simp; done) | (simp; omega)) _)) (hb2.mono (by first | omega | (simp; done) | (simp; omega)))
    clear hb2 A_1 B_1 C_1
    clear Ac0 Ac1 Acf
    clear Bc0 Bc1 Bcf
    clear Cc0 Cc1 Ccf
    have Ac0 : w2.cell? ⟨x, 0, none⟩ = some (.int .u64 an) := (blk_cell A_2 0).trans rfl
    have Ac1 : w2.cell? ⟨x, 1, none⟩ = some (.int .u64 ad) := (blk_cell A_2 1).trans rfl
    have Acf := blk_free A_2
    have Bc0 : w2.cell? ⟨y, 0, none⟩ = some (.int .u64 bn) := (blk_cell B_2 0).trans rfl
    have Bc1 : w2.cell? ⟨y, 1, none⟩ = some (.int .u64 bd) := (blk_cell B_2 1).trans rfl
    have Bcf := blk_free B_2
    have Cc0 : w2.cell? ⟨z, 0, none⟩ = some (.int .u64 cn) := (blk_cell C_2 0).trans rfl
    have Cc1 : w2.cell? ⟨z, 1, none⟩ = some (.int .u64 cd) := (blk_cell C_2 1).trans rfl
    have Ccf := blk_free C_2
    have Al2 : x < w2.heap.size := by omega
    have Bl2 : y < w2.heap.size := by omega
    have Cl2 : z < w2.heap.size := by omega
    go_wp2_with fail
    refine (HP.out _).mono ?_
    rintro e w3 ⟨rfl, hb3⟩
    have hs3 := hb3.size
    try simp only [World.size_alloc, World.size_setCell] at hs3
    have A_3 : w3.heap[x]? = some (.cells #[.int .u64 an, .int .u64 ad] 24 (0, 0)) := below_at hb3 (by first | omega | (simp; done) | (simp; omega)) (by (repeat (first | (with_reducible assumption) | (with_reducible exact alloc_at _ _) | ((with_reducible apply alloc_at'); (simp; done)) | (with_reducible apply alloc_at_lt) | (with_reducible apply heap_drew_at) | (with_reducible apply heap_drewN_at) | (with_reducible apply heap_setCell_same) | ((with_reducible apply heap_set_ne); (first | omega | (dsimp only; omega) | (simp; done) | (simp; omega))) | (with_reducible apply setRow_at) | ((with_reducible apply setRow_ne); (first | omega | (dsimp only; omega) | (simp; done) | (simp; omega))))))
    have B_3 : w3.heap[y]? = some (.cells #[.int .u64 bn, .int .u64 bd] 24 (0, 0)) := below_at hb3 (by first | omega | (simp; done) | (simp; omega)) (by (repeat (first | (with_reducible assumption) | (with_reducible exact alloc_at _ _) | ((with_reducible apply alloc_at'); (simp; done)) | (with_reducible apply alloc_at_lt) | (with_reducible apply heap_drew_at) | (with_reducible apply heap_drewN_at) | (with_reducible apply heap_setCell_same) | ((with_reducible apply heap_set_ne); (first | omega | (dsimp only; omega) | (simp; done) | (simp; omega))) | (with_reducible apply setRow_at) | ((with_reducible apply setRow_ne); (first | omega | (dsimp only; omega) | (simp; done) | (simp; omega))))))
    have C_3 : w3.heap[z]? = some (.cells #[.int .u64 cn, .int .u64 cd] 24 (0, 0)) := below_at hb3 (by first | omega | (simp; done) | (simp; omega)) (by (repeat (first | (with_reducible assumption) | (with_reducible exact alloc_at _ _) | ((with_reducible apply alloc_at'); (simp; done)) | (with_reducible apply alloc_at_lt) | (with_reducible apply heap_drew_at) | (with_reducible apply heap_drewN_at) | (with_reducible apply heap_setCell_same) | ((with_reducible apply heap_set_ne); (first | omega | (dsimp only; omega) | (simp; done) | (simp; omega))) | (with_reducible apply setRow_at) | ((with_reducible apply setRow_ne); (first | omega | (dsimp only; omega) | (simp; done) | (simp; omega))))))
    have S_3 : w3.heap[w2.heap.size]? = some (.cells #[.int .u64 sn, .int .u64 sd] 24 (0, 0)) := below_at hb3 (by first | omega | (simp; done) | (simp; omega)) (by (repeat (first | (with_reducible assumption) | (with_reducible exact alloc_at _ _) | ((with_reducible apply alloc_at'); (simp; done)) | (with_reducible apply alloc_at_lt) | (with_reducible apply heap_drew_at) | (with_reducible apply heap_drewN_at) | (with_reducible apply heap_setCell_same) | ((with_reducible apply heap_set_ne); (first | omega | (dsimp only; omega) | (simp; done) | (simp; omega))) | (with_reducible apply setRow_at) | ((with_reducible apply setRow_ne); (first | omega | (dsimp only; omega) | (simp; done) | (simp; omega))))))
    have B3 : Below w.heap.size w w3 := Below.trans (by repeat (first | with_reducible assumption | with_reducible exact Below.refl _ _ | with_reducible refine Below.drew ?_ | with_reducible refine below_drewN ?_ _ | with_reducible refine below_alloc ?_ _ | with_reducible refine Below.alloc ?_ (by first | omega | (simp; done) | (simp; omega)) _ | with_reducible refine Below.setCell ?_ (by first | omega | (simp; done) | (simp; omega)) _ | with_reducible refine below_setRow ?_ (by first | omega | (simp; done) | (simp; omega)) _)) (hb3.mono (by first | omega | (simp; done) | (simp; omega)))
    clear hb3 A_2 B_2 C_2
    clear Ac0 Ac1 Acf
    clear Bc0 Bc1 Bcf
    clear Cc0 Cc1 Ccf
    have Ac0 : w3.cell? ⟨x, 0, none⟩ = some (.int .u64 an) := (blk_cell A_3 0).trans rfl
    have Ac1 : w3.cell? ⟨x, 1, none⟩ = some (.int .u64 ad) := (blk_cell A_3 1).trans rfl
    have Acf := blk_free A_3
    have Bc0 : w3.cell? ⟨y, 0, none⟩ = some (.int .u64 bn) := (blk_cell B_3 0).trans rfl
    have Bc1 : w3.cell? ⟨y, 1, none⟩ = some (.int .u64 bd) := (blk_cell B_3 1).trans rfl
    have Bcf := blk_free B_3
    have Cc0 : w3.cell? ⟨z, 0, none⟩ = some (.int .u64 cn) := (blk_cell C_3 0).trans rfl
    have Cc1 : w3.cell? ⟨z, 1, none⟩ = some (.int .u64 cd) := (blk_cell C_3 1).trans rfl
    have Ccf := blk_free C_3
    have Sc0 : w3.cell? ⟨w2.heap.size, 0, none⟩ = some (.int .u64 sn) := (blk_cell S_3 0).trans rfl
    have Sc1 : w3.cell? ⟨w2.heap.size, 1, none⟩ = some (.int .u64 sd) := (blk_cell S_3 1).trans rfl
    have Scf := blk_free S_3
    have Al3 : x < w3.heap.size := by omega
    have Bl3 : y < w3.heap.size := by omega
    have Cl3 : z < w3.heap.size := by omega
    have Sl3 : w2.heap.size < w3.heap.size := by omega
    go_wp2_with fail
    refine (HX.out _).mono ?_
    rintro e w4 ⟨rfl, hb4⟩
    have hs4 := hb4.size
    try simp only [World.size_alloc, World.size_setCell] at hs4
    have A_4 : w4.heap[x]? = some (.cells #[.int .u64 an, .int .u64 ad] 24 (0, 0)) := below_at hb4 (by first | omega | (simp; done) | (simp; omega)) (by (repeat (first | (with_reducible assumption) | (with_reducible exact alloc_at _ _) | ((with_reducible apply alloc_at'); (simp; done)) | (with_reducible apply alloc_at_lt) | (with_reducible apply heap_drew_at) | (with_reducible apply heap_drewN_at) | (with_reducible apply heap_setCell_same) | ((with_reducible apply heap_set_ne); (first | omega | (dsimp only; omega) | (simp; done) | (simp; omega))) | (with_reducible apply setRow_at) | ((with_reducible apply setRow_ne); (first | omega | (dsimp only; omega) | (simp; done) | (simp; omega))))))
    have B_4 : w4.heap[y]? = some (.cells #[.int .u64 bn, .int .u64 bd] 24 (0, 0)) := below_at hb4 (by first | omega | (simp; done) | (simp; omega)) (by (repeat (first | (with_reducible assumption) | (with_reducible exact alloc_at _ _) | ((with_reducible apply alloc_at'); (simp; done)) | (with_reducible apply alloc_at_lt) | (with_reducible apply heap_drew_at) | (with_reducible apply heap_drewN_at) | (with_reducible apply heap_setCell_same) | ((with_reducible apply heap_set_ne); (first | omega | (dsimp only; omega) | (simp; done) | (simp; omega))) | (with_reducible apply setRow_at) | ((with_reducible apply setRow_ne); (first | omega | (dsimp only; omega) | (simp; done) | (simp; omega))))))
    have C_4 : w4.heap[z]? = some (.cells #[.int .u64 cn, .int .u64 cd] 24 (0, 0)) := below_at hb4 (by first | omega | (simp; done) | (simp; omega)) (by (repeat (first | (with_reducible assumption) | (with_reducible exact alloc_at _ _) | ((with_reducible apply alloc_at'); (simp; done)) | (with_reducible apply alloc_at_lt) | (with_reducible apply heap_drew_at) | (with_reducible apply heap_drewN_at) | (with_reducible apply heap_setCell_same) | ((with_reducible apply heap_set_ne); (first | omega | (dsimp only; omega) | (simp; done) | (simp; omega))) | (with_reducible apply setRow_at) | ((with_reducible apply setRow_ne); (first | omega | (dsimp only; omega) | (simp; done) | (simp; omega))))))
    have S_4 : w4.heap[w2.heap.size]? = some (.cells #[.int .u64 sn, .int .u64 sd] 24 (0, 0)) := below_at hb4 (by first | omega | (simp; done) | (simp; omega)) (by (repeat (first | (with_reducible assumption) | (with_reducible exact alloc_at _ _) | ((with_reducible apply alloc_at'); (simp; done)) | (with_reducible apply alloc_at_lt) | (with_reducible apply heap_drew_at) | (with_reducible apply heap_drewN_at) | (with_reducible apply heap_setCell_same) | ((with_reducible apply heap_set_ne); (first | omega | (dsimp only; omega) | (simp; done) | (simp; omega))) | (with_reducible apply setRow_at) | ((with_reducible apply setRow_ne); (first | omega | (dsimp only; omega) | (simp; done) | (simp; omega))))))
    have P_4 : w4.heap[w3.heap.size]? = some (.cells #[.int .u64 0, .int .u64 1] 24 (0, 0)) := below_at hb4 (by first | omega | (simp; done) | (simp; omega)) (by (repeat (first | (with_reducible assumption) | (with_reducible exact alloc_at _ _) | ((with_reducible apply alloc_at'); (simp; done)) | (with_reducible apply alloc_at_lt) | (with_reducible apply heap_drew_at) | (with_reducible apply heap_drewN_at) | (with_reducible apply heap_setCell_same) | ((with_reducible apply heap_set_ne); (first | omega | (dsimp only; omega) | (simp; done) | (simp; omega))) | (with_reducible apply setRow_at) | ((with_reducible apply setRow_ne); (first | omega | (dsimp only; omega) | (simp; done) | (simp; omega))))))
    have B4 : Below w.heap.size w w4 := Below.trans (by repeat (first | with_reducible assumption | with_reducible exact Below.refl _ _ | with_reducible refine Below.drew ?_ | with_reducible refine below_drewN ?_ _ | with_reducible refine below_alloc ?_ _ | with_reducible refine Below.alloc ?_ (by first | omega | (simp; done) | (simp; omega)) _ | with_reducible refine Below.setCell ?_ (by first | omega | (simp; done) | (simp; omega)) _ | with_reducible refine below_setRow ?_ (by first | omega | (simp; done) | (simp; omega)) _)) (hb4.mono (by first | omega | (simp; done) | (simp; omega)))
    clear hb4 A_3 B_3 C_3 S_3
    clear Ac0 Ac1 Acf
    clear Bc0 Bc1 Bcf
    clear Cc0 Cc1 Ccf
    clear Sc0 Sc1 Scf
    have Ac0 : w4.cell? ⟨x, 0, none⟩ = some (.int .u64 an) := (blk_cell A_4 0).trans rfl
    have Ac1 : w4.cell? ⟨x, 1, none⟩ = some (.int .u64 ad) := (blk_cell A_4 1).trans rfl
    have Acf := blk_free A_4
    have Bc0 : w4.cell? ⟨y, 0, none⟩ = some (.int .u64 bn) := (blk_cell B_4 0).trans rfl
    have Bc1 : w4.cell? ⟨y, 1, none⟩ = some (.int .u64 bd) := (blk_cell B_4 1).trans rfl
    have Bcf := blk_free B_4
    have Cc0 : w4.cell? ⟨z, 0, none⟩ = some (.int .u64 cn) := (blk_cell C_4 0).trans rfl
    have Cc1 : w4.cell? ⟨z, 1, none⟩ = some (.int .u64 cd) := (blk_cell C_4 1).trans rfl
    have Ccf := blk_free C_4
    have Sc0 : w4.cell? ⟨w2.heap.size, 0, none⟩ = some (.int .u64 sn) := (blk_cell S_4 0).trans rfl
    have Sc1 : w4.cell? ⟨w2.heap.size, 1, none⟩ = some (.int .u64 sd) := (blk_cell S_4 1).trans rfl
    have Scf := blk_free S_4
    have Pc0 : w4.cell? ⟨w3.heap.size, 0, none⟩ = some (.int .u64 0) := (blk_cell P_4 0).trans rfl
    have Pc1 : w4.cell? ⟨w3.heap.size, 1, none⟩ = some (.int .u64 1) := (blk_cell P_4 1).trans rfl
    have Pcf := blk_free P_4
    have Al4 : x < w4.heap.size := by omega
    have Bl4 : y < w4.heap.size := by omega
    have Cl4 : z < w4.heap.size := by omega
    have Sl4 : w2.heap.size < w4.heap.size := by omega
    have Pl4 : w3.heap.size < w4.heap.size := by omega
    go_wp2_with fail
    refine (HY.out _).mono ?_
    rintro e w5 ⟨rfl, hb5⟩
    have hs5 := hb5.size
    try simp only [World.size_alloc, World.size_setCell] at hs5
    have A_5 : w5.heap[x]? = some (.cells #[.int .u64 an, .int .u64 ad] 24 (0, 0)) := below_at hb5 (by first | omega | (simp; done) | (simp; omega)) (by (repeat (first | (with_reducible assumption) | (with_reducible exact alloc_at _ _) | ((with_reducible apply alloc_at'); (simp; done)) | (with_reducible apply alloc_at_lt) | (with_reducible apply heap_drew_at) | (with_reducible apply heap_drewN_at) | (with_reducible apply heap_setCell_same) | ((with_reducible apply heap_set_ne); (first | omega | (dsimp only; omega) | (simp; done) | (simp; omega))) | (with_reducible apply setRow_at) | ((with_reducible apply setRow_ne); (first | omega | (dsimp only; omega) | (simp; done) | (simp; omega))))))
    have B_5 : w5.heap[y]? = some (.cells #[.int .u64 bn, .int .u64 bd] 24 (0, 0)) := below_at hb5 (by first | omega | (simp; done) | (simp; omega)) (by (repeat (first | (with_reducible assumption) | (with_reducible exact alloc_at _ _) | ((with_reducible apply alloc_at'); (simp; done)) | (with_reducible apply alloc_at_lt) | (with_reducible apply heap_drew_at) | (with_reducible apply heap_drewN_at) | (with_reducible apply heap_setCell_same) | ((with_reducible apply heap_set_ne); (first | omega | (dsimp only; omega) | (simp; done) | (simp; omega))) | (with_reducible apply setRow_at) | ((with_reducible apply setRow_ne); (first | omega | (dsimp only; omega) | (simp; done) | (simp; omega))))))
    have C_5 : w5.heap[z]? = some (.cells #[.int .u64 cn, .int .u64 cd] 24 (0, 0)) := below_at hb5 (by first | omega | (simp; done) | (simp; omega)) (by (repeat (first | (with_reducible assumption) | (with_reducible exact alloc_at _ _) | ((with_reducible apply alloc_at'); (simp; done)) | (with_reducible apply alloc_at_lt) | (with_reducible apply heap_drew_at) | (with_reducible apply heap_drewN_at) | (with_reducible apply heap_setCell_same) | ((with_reducible apply heap_set_ne); (first | omega | (dsimp only; omega) | (simp; done) | (simp; omega))) | (with_reducible apply setRow_at) | ((with_reducible apply setRow_ne); (first | omega | (dsimp only; omega) | (simp; done) | (simp; omega))))))
    have S_5 : w5.heap[w2.heap.size]? = some (.cells #[.int .u64 sn, .int .u64 sd] 24 (0, 0)) := below_at hb5 (by first | omega | (simp; done) | (simp; omega)) (by (repeat (first | (with_reducible assumption) | (with_reducible exact alloc_at _ _) | ((with_reducible apply alloc_at'); (simp; done)) | (with_reducible apply alloc_at_lt) | (with_reducible apply heap_drew_at) | (with_reducible apply heap_drewN_at) | (with_reducible apply heap_setCell_same) | ((with_reducible apply heap_set_ne); (first | omega | (dsimp only; omega) | (simp; done) | (simp; omega))) | (with_reducible apply setRow_at) | ((with_reducible apply setRow_ne); (first | omega | (dsimp only; omega) | (simp; done) | (simp; omega))))))
    have P_5 : w5.heap[w3.heap.size]? = some (.cells #[.int .u64 0, .int .u64 1] 24 (0, 0)) := below_at hb5 (by first | omega | (simp; done) | (simp; omega)) (by (repeat (first | (with_reducible assumption) | (with_reducible exact alloc_at _ _) | ((with_reducible apply alloc_at'); (simp; done)) | (with_reducible apply alloc_at_lt) | (with_reducible apply heap_drew_at) | (with_reducible apply heap_drewN_at) | (with_reducible apply heap_setCell_same) | ((with_reducible apply heap_set_ne); (first | omega | (dsimp only; omega) | (simp; done) | (simp; omega))) | (with_reducible apply setRow_at) | ((with_reducible apply setRow_ne); (first | omega | (dsimp only; omega) | (simp; done) | (simp; omega))))))
    have X_5 : w5.heap[w4.heap.size]? = some (.cells #[.int .u64 xn, .int .u64 xd] 24 (0, 0)) := below_at hb5 (by first | omega | (simp; done) | (simp; omega)) (by (repeat (first | (with_reducible assumption) | (with_reducible exact alloc_at _ _) | ((with_reducible apply alloc_at'); (simp; done)) | (with_reducible apply alloc_at_lt) | (with_reducible apply heap_drew_at) | (with_reducible apply heap_drewN_at) | (with_reducible apply heap_setCell_same) | ((with_reducible apply heap_set_ne); (first | omega | (dsimp only; omega) | (simp; done) | (simp; omega))) | (with_reducible apply setRow_at) | ((with_reducible apply setRow_ne); (first | omega | (dsimp only; omega) | (simp; done) | (simp; omega))))))
    have B5 : Below w.heap.size w w5 := Below.trans (by repeat (first | with_reducible assumption | with_reducible exact Below.refl _ _ | with_reducible refine Below.drew ?_ | with_reducible refine below_drewN ?_ _ | with_reducible refine below_alloc ?_ _ | with_reducible refine Below.alloc ?_ (by first | omega | (simp; done) | (simp; omega)) _ | with_reducible refine Below.setCell ?_ (by first | omega | (simp; done) | (simp; omega)) _ | with_reducible refine below_setRow ?_ (by first | omega | (simp; done) | (simp; omega)) _)) (hb5.mono (by first | omega | (simp; done) | (simp; omega)))
    clear hb5 A_4 B_4 C_4 S_4 P_4
    clear Ac0 Ac1 Acf
    clear Bc0 Bc1 Bcf
    clear Cc0 Cc1 Ccf
    clear Sc0 Sc1 Scf
    clear Pc0 Pc1 Pcf
    have Ac0 : w5.cell? ⟨x, 0, none⟩ = some (.int .u64 an) := (blk_cell A_5 0).trans rfl
    have Ac1 : w5.cell? ⟨x, 1, none⟩ = some (.int .u64 ad) := (blk_cell A_5 1).trans rfl
    have Acf := blk_free A_5
    have Bc0 : w5.cell? ⟨y, 0, none⟩ = some (.int .u64 bn) := (blk_cell B_5 0).trans rfl
    have Bc1 : w5.cell? ⟨y, 1, none⟩ = some (.int .u64 bd) := (blk_cell B_5 1).trans rfl
    have Bcf := blk_free B_5
    have Cc0 : w5.cell? ⟨z, 0, none⟩ = some (.int .u64 cn) := (blk_cell C_5 0).trans rfl
    have Cc1 : w5.cell? ⟨z, 1, none⟩ = some (.int .u64 cd) := (blk_cell C_5 1).trans rfl
    have Ccf := blk_free C_5
    have Sc0 : w5.cell? ⟨w2.heap.size, 0, none⟩ = some (.int .u64 sn) := (blk_cell S_5 0).trans rfl
    have Sc1 : w5.cell? ⟨w2.heap.size, 1, none⟩ = some (.int .u64 sd) := (blk_cell S_5 1).trans rfl
    have Scf := blk_free S_5
    have Pc0 : w5.cell? ⟨w3.heap.size, 0, none⟩ = some (.int .u64 0) := (blk_cell P_5 0).trans rfl
    have Pc1 : w5.cell? ⟨w3.heap.size, 1, none⟩ = some (.int .u64 1) := (blk_cell P_5 1).trans rfl
    have Pcf := blk_free P_5
    have Xc0 : w5.cell? ⟨w4.heap.size, 0, none⟩ = some (.int .u64 xn) := (blk_cell X_5 0).trans rfl
    have Xc1 : w5.cell? ⟨w4.heap.size, 1, none⟩ = some (.int .u64 xd) := (blk_cell X_5 1).trans rfl
    have Xcf := blk_free X_5
    have Al5 : x < w5.heap.size := by omega
    have Bl5 : y < w5.heap.size := by omega
    have Cl5 : z < w5.heap.size := by omega
    have Sl5 : w2.heap.size < w5.heap.size := by omega
    have Pl5 : w3.heap.size < w5.heap.size := by omega
    have Xl5 : w4.heap.size < w5.heap.size := by omega
    go_wp2_with fail
    refine (HZ.out _).mono ?_
    rintro e w6 ⟨rfl, hb6⟩
    have hs6 := hb6.size
    try simp only [World.size_alloc, World.size_setCell] at hs6
    have A_6 : w6.heap[x]? = some (.cells #[.int .u64 an, .int .u64 ad] 24 (0, 0)) := below_at hb6 (by first | omega | (simp; done) | (simp; omega)) (by (repeat (first | (with_reducible assumption) | (with_reducible exact alloc_at _ _) | ((with_reducible apply alloc_at'); (simp; done)) | (with_reducible apply alloc_at_lt) | (with_reducible apply heap_drew_at) | (with_reducible apply heap_drewN_at) | (with_reducible apply heap_setCell_same) | ((with_reducible apply heap_set_ne); (first | omega | (dsimp only; omega) | (simp; done) | (simp; omega))) | (with_reducible apply setRow_at) | ((with_reducible apply setRow_ne); (first | omega | (dsimp only; omega) | (simp; done) | (simp; omega))))))
    have B_6 : w6.heap[y]? = some (.cells #[.int .u64 bn, .int .u64 bd] 24 (0, 0)) := below_at hb6 (by first | omega | (simp; done) | (simp; omega)) (by (repeat (first | (with_reducible assumption) | (with_reducible exact alloc_at _ _) | ((with_reducible apply alloc_at'); (simp; done)) | (with_reducible apply alloc_at_lt) | (with_reducible apply heap_drew_at) | (with_reducible apply heap_drewN_at) | (with_reducible apply heap_setCell_same) | ((with_reducible apply heap_set_ne); (first | omega | (dsimp only; omega) | (simp; done) | (simp; omega))) | (with_reducible apply setRow_at) | ((with_reducible apply setRow_ne); (first | omega | (dsimp only; omega) | (simp; done) | (simp; omega))))))
    have C_6 : w6.heap[z]? = some (.cells #[.int .u64 cn, .int .u64 cd] 24 (0, 0)) := below_at hb6 (by first | omega | (simp; done) | (simp; omega)) (by (repeat (first | (with_reducible assumption) | (with_reducible exact alloc_at _ _) | ((with_reducible apply alloc_at'); (simp; done)) | (with_reducible apply alloc_at_lt) | (with_reducible apply heap_drew_at) | (with_reducible apply heap_drewN_at) | (with_reducible apply heap_setCell_same) | ((with_reducible apply heap_set_ne); (first | omega | (dsimp only; omega) | (simp; done) | (simp; omega))) | (with_reducible apply setRow_at) | ((with_reducible apply setRow_ne); (first | omega | (dsimp only; omega) | (simp; done) | (simp; omega))))))
    have S_6 : w6.heap[w2.heap.size]? = some (.cells #[.int .u64 sn, .int .u64 sd] 24 (0, 0)) := below_at hb6 (by first | omega | (simp; done) | (simp; omega)) (by (repeat (first | (with_reducible assumption) | (with_reducible exact alloc_at _ _) | ((with_reducible apply alloc_at'); (simp; done)) | (with_reducible apply alloc_at_lt) | (with_reducible apply heap_drew_at) | (with_reducible apply heap_drewN_at) | (with_reducible apply heap_setCell_same) | ((with_reducible apply heap_set_ne); (first | omega | (dsimp only; omega) | (simp; done) | (simp; omega))) | (with_reducible apply setRow_at) | ((with_reducible apply setRow_ne); (first | omega | (dsimp only; omega) | (simp; done) | (simp; omega))))))
    have P_6 : w6.heap[w3.heap.size]? = some (.cells #[.int .u64 0, .int .u64 1] 24 (0, 0)) := below_at hb6 (by first | omega | (simp; done) | (simp; omega)) (by (repeat (first | (with_reducible assumption) | (with_reducible exact alloc_at _ _) | ((with_reducible apply alloc_at'); (simp; done)) | (with_reducible apply alloc_at_lt) | (with_reducible apply heap_drew_at) | (with_reducible apply heap_drewN_at) | (with_reducible apply heap_setCell_same) | ((with_reducible apply heap_set_ne); (first | omega | (dsimp only; omega) | (simp; done) | (simp; omega))) | (with_reducible apply setRow_at) | ((with_reducible apply setRow_ne); (first | omega | (dsimp only; omega) | (simp; done) | (simp; omega))))))
    have X_6 : w6.heap[w4.heap.size]? = some (.cells #[.int .u64 xn, .int .u64 xd] 24 (0, 0)) := below_at hb6 (by first | omega | (simp; done) | (simp; omega)) (by (repeat (first | (with_reducible assumption) | (with_reducible exact alloc_at _ _) | ((with_reducible apply alloc_at'); (simp; done)) | (with_reducible apply alloc_at_lt) | (with_reducible apply heap_drew_at) | (with_reducible apply heap_drewN_at) | (with_reducible apply heap_setCell_same) | ((with_reducible apply heap_set_ne); (first | omega | (dsimp only; omega) | (simp; done) | (simp; omega))) | (with_reducible apply setRow_at) | ((with_reducible apply setRow_ne); (first | omega | (dsimp only; omega) | (simp; done) | (simp; omega))))))
    have Y_6 : w6.heap[w5.heap.size]? = some (.cells #[.int .u64 yn, .int .u64 yd] 24 (0, 0)) := below_at hb6 (by first | omega | (simp; done) | (simp; omega)) (by (repeat (first | (with_reducible assumption) | (with_reducible exact alloc_at _ _) | ((with_reducible apply alloc_at'); (simp; done)) | (with_reducible apply alloc_at_lt) | (with_reducible apply heap_drew_at) | (with_reducible apply heap_drewN_at) | (with_reducible apply heap_setCell_same) | ((with_reducible apply heap_set_ne); (first | omega | (dsimp only; omega) | (simp; done) | (simp; omega))) | (with_reducible apply setRow_at) | ((with_reducible apply setRow_ne); (first | omega | (dsimp only; omega) | (simp; done) | (simp; omega))))))
    have B6 : Below w.heap.size w w6 := Below.trans (by repeat (first | with_reducible assumption | with_reducible exact Below.refl _ _ | with_reducible refine Below.drew ?_ | with_reducible refine below_drewN ?_ _ | with_reducible refine below_alloc ?_ _ | with_reducible refine Below.alloc ?_ (by first | omega | (simp; done) | (simp; omega)) _ | with_reducible refine Below.setCell ?_ (by first | omega | (simp; done) | (simp; omega)) _ | with_reducible refine below_setRow ?_ (by first | omega | (simp; done) | (simp; omega)) _)) (hb6.mono (by first | omega | (simp; done) | (simp; omega)))
    clear hb6 A_5 B_5 C_5 S_5 P_5 X_5
    clear Ac0 Ac1 Acf
    clear Bc0 Bc1 Bcf
    clear Cc0 Cc1 Ccf
    clear Sc0 Sc1 Scf
    clear Pc0 Pc1 Pcf
    clear Xc0 Xc1 Xcf
    have Ac0 : w6.cell? ⟨x, 0, none⟩ = some (.int .u64 an) := (blk_cell A_6 0).trans rfl
    have Ac1 : w6.cell? ⟨x, 1, none⟩ = some (.int .u64 ad) := (blk_cell A_6 1).trans rfl
    have Acf := blk_free A_6
    have Bc0 : w6.cell? ⟨y, 0, none⟩ = some (.int .u64 bn) := (blk_cell B_6 0).trans rfl
    have Bc1 : w6.cell? ⟨y, 1, none⟩ = some (.int .u64 bd) := (blk_cell B_6 1).trans rfl
    have Bcf := blk_free B_6
    have Cc0 : w6.cell? ⟨z, 0, none⟩ = some (.int .u64 cn) := (blk_cell C_6 0).trans rfl
    have Cc1 : w6.cell? ⟨z, 1, none⟩ = some (.int .u64 cd) := (blk_cell C_6 1).trans rfl
    have Ccf := blk_free C_6
    have Sc0 : w6.cell? ⟨w2.heap.size, 0, none⟩ = some (.int .u64 sn) := (blk_cell S_6 0).trans rfl
    have Sc1 : w6.cell? ⟨w2.heap.size, 1, none⟩ = some (.int .u64 sd) := (blk_cell S_6 1).trans rfl
    have Scf := blk_free S_6
    have Pc0 : w6.cell? ⟨w3.heap.size, 0, none⟩ = some (.int .u64 0) := (blk_cell P_6 0).trans rfl
    have Pc1 : w6.cell? ⟨w3.heap.size, 1, none⟩ = some (.int .u64 1) := (blk_cell P_6 1).trans rfl
    have Pcf := blk_free P_6
    have Xc0 : w6.cell? ⟨w4.heap.size, 0, none⟩ = some (.int .u64 xn) := (blk_cell X_6 0).trans rfl
    have Xc1 : w6.cell? ⟨w4.heap.size, 1, none⟩ = some (.int .u64 xd) := (blk_cell X_6 1).trans rfl
    have Xcf := blk_free X_6
    have Yc0 : w6.cell? ⟨w5.heap.size, 0, none⟩ = some (.int .u64 yn) := (blk_cell Y_6 0).trans rfl
    have Yc1 : w6.cell? ⟨w5.heap.size, 1, none⟩ = some (.int .u64 yd) := (blk_cell Y_6 1).trans rfl
    have Ycf := blk_free Y_6
    have Al6 : x < w6.heap.size := by omega
    have Bl6 : y < w6.heap.size := by omega
    have Cl6 : z < w6.heap.size := by omega
    have Sl6 : w2.heap.size < w6.heap.size := by omega
    have Pl6 : w3.heap.size < w6.heap.size := by omega
    have Xl6 : w4.heap.size < w6.heap.size := by omega
    have Yl6 : w5.heap.size < w6.heap.size := by omega
    go_wp2
    go_ret
    exact ⟨by first | rfl | simp, (by repeat (first | with_reducible assumption | with_reducible exact Below.refl _ _ | with_reducible refine Below.drew ?_ | with_reducible refine below_drewN ?_ _ | with_reducible refine below_alloc ?_ _ | with_reducible refine Below.alloc ?_ (by first | omega | (simp; done) | (simp; omega)) _ | with_reducible refine Below.setCell ?_ (by first | omega | (simp; done) | (simp; omega)) _ | with_reducible refine below_setRow ?_ (by first | omega | (simp; done) | (simp; omega)) _))⟩
set_option maxRecDepth 100000 in
set_option maxHeartbeats 4000000 in
theorem parts_k (an ad bn bd cn cd sn sd pn pd xn xd yn yd zn zd  : Int) (w : World) (hc : (cn == 0) = false) (hd : (cd == 0) = false) (HK : Hid (∀ W, Calls Try.prog 16 #[.agg #[.int .u64 pn, .int .u64 pd], .agg #[.int .u64 cd, .int .u64 cn]] W fun e w' => e = .returned (.tuple #[.agg #[.int .u64 sn, .int .u64 sd], .int .i64 0]) ∧ Below W.heap.size W w'))
    (HA : Hid (∀ W, Calls Try.prog 15 #[.agg #[.int .u64 an, .int .u64 ad], .agg #[.int .u64 bn, .int .u64 bd]] W fun e w' => e = .returned (.tuple #[.agg #[.int .u64 sn, .int .u64 sd], .int .i64 0]) ∧ Below W.heap.size W w')) (HP : Hid (∀ W, Calls Try.prog 16 #[.agg #[.int .u64 sn, .int .u64 sd], .agg #[.int .u64 cn, .int .u64 cd]] W fun e w' => e = .returned (.tuple #[.agg #[.int .u64 pn, .int .u64 pd], .int .i64 0]) ∧ Below W.heap.size W w')) (HX : Hid (∀ W, Calls Try.prog 16 #[.agg #[.int .u64 an, .int .u64 ad], .agg #[.int .u64 cn, .int .u64 cd]] W fun e w' => e = .returned (.tuple #[.agg #[.int .u64 xn, .int .u64 xd], .int .i64 0]) ∧ Below W.heap.size W w')) (HY : Hid (∀ W, Calls Try.prog 16 #[.agg #[.int .u64 bn, .int .u64 bd], .agg #[.int .u64 cn, .int .u64 cd]] W fun e w' => e = .returned (.tuple #[.agg #[.int .u64 yn, .int .u64 yd], .int .i64 0]) ∧ Below W.heap.size W w')) (HZ : Hid (∀ W, Calls Try.prog 15 #[.agg #[.int .u64 xn, .int .u64 xd], .agg #[.int .u64 yn, .int .u64 yd]] W fun e w' => e = .returned (.tuple #[.agg #[.int .u64 pn, .int .u64 pd], .int .i64 0]) ∧ Below W.heap.size W w')) :
    Calls Try.prog 5 #[.agg #[.int .u64 an, .int .u64 ad, .int .u64 bn, .int .u64 bd, .int .u64 cn, .int .u64 cd]] w fun e w' => e = .returned (.bool true) ∧ Below w.heap.size w w' := by
  go_enter Try.func5, Try.ntmps5
  go_upto_region 1 with fail
  obtain ⟨wo, hwo⟩ : ∃ wo : World, wo = w.alloc (.cells #[.int .u64 an, .int .u64 ad, .int .u64 bn, .int .u64 bd, .int .u64 cn, .int .u64 cd] 38) := ⟨_, rfl⟩
  rw [← hwo]
  have hT : wo.heap[w.heap.size]? = some (.cells #[.int .u64 an, .int .u64 ad, .int .u64 bn, .int .u64 bd, .int .u64 cn, .int .u64 cd] 38 (0, 0)) := by rw [hwo]; exact alloc_at _ _
  have hB0 : Below w.heap.size w wo := by rw [hwo]; exact (by repeat (first | with_reducible assumption | with_reducible exact Below.refl _ _ | with_reducible refine Below.drew ?_ | with_reducible refine below_drewN ?_ _ | with_reducible refine below_alloc ?_ _ | with_reducible refine Below.alloc ?_ (by first | omega | (simp; done) | (simp; omega)) _ | with_reducible refine Below.setCell ?_ (by first | omega | (simp; done) | (simp; omega)) _ | with_reducible refine below_setRow ?_ (by first | omega | (simp; done) | (simp; omega)) _))
  have hs0 : w.heap.size < wo.heap.size := by rw [hwo]; simp
  have c0 := blk_cell hT 0
  have c1 := blk_cell hT 1
  have c2 := blk_cell hT 2
  have c3 := blk_cell hT 3
  have c4 := blk_cell hT 4
  have c5 := blk_cell hT 5
  simp at c0 c1 c2 c3 c4 c5
  clear hwo hT
  go_cut [3, 4, 5] (fun s5 s6 s7 wx => ∃ x y z : Nat, s5 = .pointer (some ⟨x, 0, none⟩) ∧ s6 = .pointer (some ⟨y, 0, none⟩) ∧ s7 = .pointer (some ⟨z, 0, none⟩) ∧ Below w.heap.size w wx ∧
    wx.heap[x]? = some (.cells #[.int .u64 an, .int .u64 ad] 24 (0, 0)) ∧ wx.heap[y]? = some (.cells #[.int .u64 bn, .int .u64 bd] 24 (0, 0)) ∧ wx.heap[z]? = some (.cells #[.int .u64 cn, .int .u64 cd] 24 (0, 0)))
  case first =>
    go_region_held3 (fun w' => Below wo.heap.size wo w' ∧ (∀ b o, b < wo.heap.size → w'.cell? ⟨b, o, none⟩ = wo.cell? ⟨b, o, none⟩) ∧ ∀ b o, b < wo.heap.size → w'.frozen? ⟨b, o, none⟩ = wo.frozen? ⟨b, o, none⟩) (first | ((try go_split_ands); (try dsimp only); refine same_of ?_; (repeat (first | with_reducible assumption | with_reducible exact Below.refl _ _ | with_reducible refine Below.drew ?_ | with_reducible refine below_drewN ?_ _ | with_reducible refine below_alloc ?_ _ | with_reducible refine Below.alloc ?_ (by first | omega | (simp; done) | (simp; omega)) _ | with_reducible refine Below.setCell ?_ (by first | omega | (simp; done) | (simp; omega)) _ | with_reducible refine below_setRow ?_ (by first | omega | (simp; done) | (simp; omega)) _)); done)) (fail)
    all_goals (go_wp2_with fail; go_meet; exact ⟨_, _, _, rfl, rfl, rfl, (by repeat (first | with_reducible assumption | with_reducible exact Below.refl _ _ | with_reducible refine Below.drew ?_ | with_reducible refine below_drewN ?_ _ | with_reducible refine below_alloc ?_ _ | with_reducible refine Below.alloc ?_ (by first | omega | (simp; done) | (simp; omega)) _ | with_reducible refine Below.setCell ?_ (by first | omega | (simp; done) | (simp; omega)) _ | with_reducible refine below_setRow ?_ (by first | omega | (simp; done) | (simp; omega)) _)), (by (repeat (first | (with_reducible assumption) | (with_reducible exact alloc_at _ _) | ((with_reducible apply alloc_at'); (simp; done)) | (with_reducible apply alloc_at_lt) | (with_reducible apply heap_drew_at) | (with_reducible apply heap_drewN_at) | (with_reducible apply heap_setCell_same) | ((with_reducible apply heap_set_ne); (first | omega | (dsimp only; omega) | (simp; done) | (simp; omega))) | (with_reducible apply setRow_at) | ((with_reducible apply setRow_ne); (first | omega | (dsimp only; omega) | (simp; done) | (simp; omega)))))), (by (repeat (first | (with_reducible assumption) | (with_reducible exact alloc_at _ _) | ((with_reducible apply alloc_at'); (simp; done)) | (with_reducible apply alloc_at_lt) | (with_reducible apply heap_drew_at) | (with_reducible apply heap_drewN_at) | (with_reducible apply heap_setCell_same) | ((with_reducible apply heap_set_ne); (first | omega | (dsimp only; omega) | (simp; done) | (simp; omega))) | (with_reducible apply setRow_at) | ((with_reducible apply setRow_ne); (first | omega | (dsimp only; omega) | (simp; done) | (simp; omega)))))), (by (repeat (first | (with_reducible assumption) | (with_reducible exact alloc_at _ _) | ((with_reducible apply alloc_at'); (simp; done)) | (with_reducible apply alloc_at_lt) | (with_reducible apply heap_drew_at) | (with_reducible apply heap_drewN_at) | (with_reducible apply heap_setCell_same) | ((with_reducible apply heap_set_ne); (first | omega | (dsimp only; omega) | (simp; done) | (simp; omega))) | (with_reducible apply setRow_at) | ((with_reducible apply setRow_ne); (first | omega | (dsimp only; omega) | (simp; done) | (simp; omega))))))⟩)
  case rest =>
    obtain ⟨x, y, z, rfl, rfl, rfl, hB, hX, hY, hZ⟩ := hcut
    clear c0 c1 c2 c3 c4 c5 hB0 hs0 wo
    have hx := lt_of_at hX
    have hy := lt_of_at hY
    have hz := lt_of_at hZ
    have hsz := hB.size
    go_wp2_with fail
    refine (awake2_any _).mono ?_
    rintro e w1 ⟨rfl, hb1⟩
    have hs1 := hb1.size
    try simp only [World.size_alloc, World.size_setCell] at hs1
    have A_1 : w1.heap[x]? = some (.cells #[.int .u64 an, .int .u64 ad] 24 (0, 0)) := below_at hb1 (by first | omega | (simp; done) | (simp; omega)) (by (repeat (first | (with_reducible assumption) | (with_reducible exact alloc_at _ _) | ((with_reducible apply alloc_at'); (simp; done)) | (with_reducible apply alloc_at_lt) | (with_reducible apply heap_drew_at) | (with_reducible apply heap_drewN_at) | (with_reducible apply heap_setCell_same) | ((with_reducible apply heap_set_ne); (first | omega | (dsimp only; omega) | (simp; done) | (simp; omega))) | (with_reducible apply setRow_at) | ((with_reducible apply setRow_ne); (first | omega | (dsimp only; omega) | (simp; done) | (simp; omega))))))
    have B_1 : w1.heap[y]? = some (.cells #[.int .u64 bn, .int .u64 bd] 24 (0, 0)) := below_at hb1 (by first | omega | (simp; done) | (simp; omega)) (by (repeat (first | (with_reducible assumption) | (with_reducible exact alloc_at _ _) | ((with_reducible apply alloc_at'); (simp; done)) | (with_reducible apply alloc_at_lt) | (with_reducible apply heap_drew_at) | (with_reducible apply heap_drewN_at) | (with_reducible apply heap_setCell_same) | ((with_reducible apply heap_set_ne); (first | omega | (dsimp only; omega) | (simp; done) | (simp; omega))) | (with_reducible apply setRow_at) | ((with_reducible apply setRow_ne); (first | omega | (dsimp only; omega) | (simp; done) | (simp; omega))))))
    have C_1 : w1.heap[z]? = some (.cells #[.int .u64 cn, .int .u64 cd] 24 (0, 0)) := below_at hb1 (by first | omega | (simp; done) | (simp; omega)) (by (repeat (first | (with_reducible assumption) | (with_reducible exact alloc_at _ _) | ((with_reducible apply alloc_at'); (simp; done)) | (with_reducible apply alloc_at_lt) | (with_reducible apply heap_drew_at) | (with_reducible apply heap_drewN_at) | (with_reducible apply heap_setCell_same) | ((with_reducible apply heap_set_ne); (first | omega | (dsimp only; omega) | (simp; done) | (simp; omega))) | (with_reducible apply setRow_at) | ((with_reducible apply setRow_ne); (first | omega | (dsimp only; omega) | (simp; done) | (simp; omega))))))
    have B1 : Below w.heap.size w w1 := Below.trans (by repeat (first | with_reducible assumption | with_reducible exact Below.refl _ _ | with_reducible refine Below.drew ?_ | with_reducible refine below_drewN ?_ _ | with_reducible refine below_alloc ?_ _ | with_reducible refine Below.alloc ?_ (by first | omega | (simp; done) | (simp; omega)) _ | with_reducible refine Below.setCell ?_ (by first | omega | (simp; done) | (simp; omega)) _ | with_reducible refine below_setRow ?_ (by first | omega | (simp; done) | (simp; omega)) _)) (hb1.mono (by first | omega | (simp; done) | (simp; omega)))
    clear hb1
    have Ac0 : w1.cell? ⟨x, 0, none⟩ = some (.int .u64 an) := (blk_cell A_1 0).trans rfl
    have Ac1 : w1.cell? ⟨x, 1, none⟩ = some (.int .u64 ad) := (blk_cell A_1 1).trans rfl
    have Acf := blk_free A_1
    have Bc0 : w1.cell? ⟨y, 0, none⟩ = some (.int .u64 bn) := (blk_cell B_1 0).trans rfl
    have Bc1 : w1.cell? ⟨y, 1, none⟩ = some (.int .u64 bd) := (blk_cell B_1 1).trans rfl
    have Bcf := blk_free B_1
    have Cc0 : w1.cell? ⟨z, 0, none⟩ = some (.int .u64 cn) := (blk_cell C_1 0).trans rfl
    have Cc1 : w1.cell? ⟨z, 1, none⟩ = some (.int .u64 cd) := (blk_cell C_1 1).trans rfl
    have Ccf := blk_free C_1
    have Al1 : x < w1.heap.size := by omega
    have Bl1 : y < w1.heap.size := by omega
    have Cl1 : z < w1.heap.size := by omega
    go_wp2_with fail
    refine (HA.out _).mono ?_
    rintro e w2 ⟨rfl, hb2⟩
    have hs2 := hb2.size
    try simp only [World.size_alloc, World.size_setCell] at hs2
    have A_2 : w2.heap[x]? = some (.cells #[.int .u64 an, .int .u64 ad] 24 (0, 0)) := below_at hb2 (by first | omega | (simp; done) | (simp; omega)) (by (repeat (first | (with_reducible assumption) | (with_reducible exact alloc_at _ _) | ((with_reducible apply alloc_at'); (simp; done)) | (with_reducible apply alloc_at_lt) | (with_reducible apply heap_drew_at) | (with_reducible apply heap_drewN_at) | (with_reducible apply heap_setCell_same) | ((with_reducible apply heap_set_ne); (first | omega | (dsimp only; omega) | (simp; done) | (simp; omega))) | (with_reducible apply setRow_at) | ((with_reducible apply setRow_ne); (first | omega | (dsimp only; omega) | (simp; done) | (simp; omega))))))
    have B_2 : w2.heap[y]? = some (.cells #[.int .u64 bn, .int .u64 bd] 24 (0, 0)) := below_at hb2 (by first | omega | (simp; done) | (simp; omega)) (by (repeat (first | (with_reducible assumption) | (with_reducible exact alloc_at _ _) | ((with_reducible apply alloc_at'); (simp; done)) | (with_reducible apply alloc_at_lt) | (with_reducible apply heap_drew_at) | (with_reducible apply heap_drewN_at) | (with_reducible apply heap_setCell_same) | ((with_reducible apply heap_set_ne); (first | omega | (dsimp only; omega) | (simp; done) | (simp; omega))) | (with_reducible apply setRow_at) | ((with_reducible apply setRow_ne); (first | omega | (dsimp only; omega) | (simp; done) | (simp; omega))))))
    have C_2 : w2.heap[z]? = some (.cells #[.int .u64 cn, .int .u64 cd] 24 (0, 0)) := below_at hb2 (by first | omega | (simp; done) | (simp; omega)) (by (repeat (first | (with_reducible assumption) | (with_reducible exact alloc_at _ _) | ((with_reducible apply alloc_at'); (simp; done)) | (with_reducible apply alloc_at_lt) | (with_reducible apply heap_drew_at) | (with_reducible apply heap_drewN_at) | (with_reducible apply heap_setCell_same) | ((with_reducible apply heap_set_ne); (first | omega | (dsimp only; omega) | (simp; done) | (simp; omega))) | (with_reducible apply setRow_at) | ((with_reducible apply setRow_ne); (first | omega | (dsimp only; omega) | (simp; done) | (simp; omega))))))
    have B2 : Below w.heap.size w w2 := Below.trans (by repeat (first | with_reducible assumption | with_reducible exact Below.refl _ _ | with_reducible refine Below.drew ?_ | with_reducible refine below_drewN ?_ _ | with_reducible refine below_alloc ?_ _ | with_reducible refine Below.alloc ?_ (by first | omega | (simp; done) | (simp; omega)) _ | with_reducible refine Below.setCell ?_ (by first | omega | (simp; done) | (simp; omega)) _ | with_reducible refine below_setRow ?_ (by first | omega | (simp; done) | (simp; omega)) _)) (hb2.mono (by first | omega | (simp; done) | (simp; omega)))
    clear hb2 A_1 B_1 C_1
    clear Ac0 Ac1 Acf
    clear Bc0 Bc1 Bcf
    clear Cc0 Cc1 Ccf
    have Ac0 : w2.cell? ⟨x, 0, none⟩ = some (.int .u64 an) := (blk_cell A_2 0).trans rfl
    have Ac1 : w2.cell? ⟨x, 1, none⟩ = some (.int .u64 ad) := (blk_cell A_2 1).trans rfl
    have Acf := blk_free A_2
    have Bc0 : w2.cell? ⟨y, 0, none⟩ = some (.int .u64 bn) := (blk_cell B_2 0).trans rfl
    have Bc1 : w2.cell? ⟨y, 1, none⟩ = some (.int .u64 bd) := (blk_cell B_2 1).trans rfl
    have Bcf := blk_free B_2
    have Cc0 : w2.cell? ⟨z, 0, none⟩ = some (.int .u64 cn) := (blk_cell C_2 0).trans rfl
    have Cc1 : w2.cell? ⟨z, 1, none⟩ = some (.int .u64 cd) := (blk_cell C_2 1).trans rfl
    have Ccf := blk_free C_2
    have Al2 : x < w2.heap.size := by omega
    have Bl2 : y < w2.heap.size := by omega
    have Cl2 : z < w2.heap.size := by omega
    go_wp2_with fail
    refine (HP.out _).mono ?_
    rintro e w3 ⟨rfl, hb3⟩
    have hs3 := hb3.size
    try simp only [World.size_alloc, World.size_setCell] at hs3
    have A_3 : w3.heap[x]? = some (.cells #[.int .u64 an, .int .u64 ad] 24 (0, 0)) := below_at hb3 (by first | omega | (simp; done) | (simp; omega)) (by (repeat (first | (with_reducible assumption) | (with_reducible exact alloc_at _ _) | ((with_reducible apply alloc_at'); (simp; done)) | (with_reducible apply alloc_at_lt) | (with_reducible apply heap_drew_at) | (with_reducible apply heap_drewN_at) | (with_reducible apply heap_setCell_same) | ((with_reducible apply heap_set_ne); (first | omega | (dsimp only; omega) | (simp; done) | (simp; omega))) | (with_reducible apply setRow_at) | ((with_reducible apply setRow_ne); (first | omega | (dsimp only; omega) | (simp; done) | (simp; omega))))))
    have B_3 : w3.heap[y]? = some (.cells #[.int .u64 bn, .int .u64 bd] 24 (0, 0)) := below_at hb3 (by first | omega | (simp; done) | (simp; omega)) (by (repeat (first | (with_reducible assumption) | (with_reducible exact alloc_at _ _) | ((with_reducible apply alloc_at'); (simp; done)) | (with_reducible apply alloc_at_lt) | (with_reducible apply heap_drew_at) | (with_reducible apply heap_drewN_at) | (with_reducible apply heap_setCell_same) | ((with_reducible apply heap_set_ne); (first | omega | (dsimp only; omega) | (simp; done) | (simp; omega))) | (with_reducible apply setRow_at) | ((with_reducible apply setRow_ne); (first | omega | (dsimp only; omega) | (simp; done) | (simp; omega))))))
    have C_3 : w3.heap[z]? = some (.cells #[.int .u64 cn, .int .u64 cd] 24 (0, 0)) := below_at hb3 (by first | omega | (simp; done) | (simp; omega)) (by (repeat (first | (with_reducible assumption) | (with_reducible exact alloc_at _ _) | ((with_reducible apply alloc_at'); (simp; done)) | (with_reducible apply alloc_at_lt) | (with_reducible apply heap_drew_at) | (with_reducible apply heap_drewN_at) | (with_reducible apply heap_setCell_same) | ((with_reducible apply heap_set_ne); (first | omega | (dsimp only; omega) | (simp; done) | (simp; omega))) | (with_reducible apply setRow_at) | ((with_reducible apply setRow_ne); (first | omega | (dsimp only; omega) | (simp; done) | (simp; omega))))))
    have S_3 : w3.heap[w2.heap.size]? = some (.cells #[.int .u64 sn, .int .u64 sd] 24 (0, 0)) := below_at hb3 (by first | omega | (simp; done) | (simp; omega)) (by (repeat (first | (with_reducible assumption) | (with_reducible exact alloc_at _ _) | ((with_reducible apply alloc_at'); (simp; done)) | (with_reducible apply alloc_at_lt) | (with_reducible apply heap_drew_at) | (with_reducible apply heap_drewN_at) | (with_reducible apply heap_setCell_same) | ((with_reducible apply heap_set_ne); (first | omega | (dsimp only; omega) | (simp; done) | (simp; omega))) | (with_reducible apply setRow_at) | ((with_reducible apply setRow_ne); (first | omega | (dsimp only; omega) | (simp; done) | (simp; omega))))))
    have B3 : Below w.heap.size w w3 := Below.trans (by repeat (first | with_reducible assumption | with_reducible exact Below.refl _ _ | with_reducible refine Below.drew ?_ | with_reducible refine below_drewN ?_ _ | with_reducible refine below_alloc ?_ _ | with_reducible refine Below.alloc ?_ (by first | omega | (simp; done) | (simp; omega)) _ | with_reducible refine Below.setCell ?_ (by first | omega | (simp; done) | (simp; omega)) _ | with_reducible refine below_setRow ?_ (by first | omega | (simp; done) | (simp; omega)) _)) (hb3.mono (by first | omega | (simp; done) | (simp; omega)))
    clear hb3 A_2 B_2 C_2
    clear Ac0 Ac1 Acf
    clear Bc0 Bc1 Bcf
    clear Cc0 Cc1 Ccf
    have Ac0 : w3.cell? ⟨x, 0, none⟩ = some (.int .u64 an) := (blk_cell A_3 0).trans rfl
    have Ac1 : w3.cell? ⟨x, 1, none⟩ = some (.int .u64 ad) := (blk_cell A_3 1).trans rfl
    have Acf := blk_free A_3
    have Bc0 : w3.cell? ⟨y, 0, none⟩ = some (.int .u64 bn) := (blk_cell B_3 0).trans rfl
    have Bc1 : w3.cell? ⟨y, 1, none⟩ = some (.int .u64 bd) := (blk_cell B_3 1).trans rfl
    have Bcf := blk_free B_3
    have Cc0 : w3.cell? ⟨z, 0, none⟩ = some (.int .u64 cn) := (blk_cell C_3 0).trans rfl
    have Cc1 : w3.cell? ⟨z, 1, none⟩ = some (.int .u64 cd) := (blk_cell C_3 1).trans rfl
    have Ccf := blk_free C_3
    have Sc0 : w3.cell? ⟨w2.heap.size, 0, none⟩ = some (.int .u64 sn) := (blk_cell S_3 0).trans rfl
    have Sc1 : w3.cell? ⟨w2.heap.size, 1, none⟩ = some (.int .u64 sd) := (blk_cell S_3 1).trans rfl
    have Scf := blk_free S_3
    have Al3 : x < w3.heap.size := by omega
    have Bl3 : y < w3.heap.size := by omega
    have Cl3 : z < w3.heap.size := by omega
    have Sl3 : w2.heap.size < w3.heap.size := by omega
    go_wp2_with fail
    refine (HX.out _).mono ?_
    rintro e w4 ⟨rfl, hb4⟩
    have hs4 := hb4.size
    try simp only [World.size_alloc, World.size_setCell] at hs4
    have A_4 : w4.heap[x]? = some (.cells #[.int .u64 an, .int .u64 ad] 24 (0, 0)) := below_at hb4 (by first | omega | (simp; done) | (simp; omega)) (by (repeat (first | (with_reducible assumption) | (with_reducible exact alloc_at _ _) | ((with_reducible apply alloc_at'); (simp; done)) | (with_reducible apply alloc_at_lt) | (with_reducible apply heap_drew_at) | (with_reducible apply heap_drewN_at) | (with_reducible apply heap_setCell_same) | ((with_reducible apply heap_set_ne); (first | omega | (dsimp only; omega) | (simp; done) | (simp; omega))) | (with_reducible apply setRow_at) | ((with_reducible apply setRow_ne); (first | omega | (dsimp only; omega) | (simp; done) | (simp; omega))))))
    have B_4 : w4.heap[y]? = some (.cells #[.int .u64 bn, .int .u64 bd] 24 (0, 0)) := below_at hb4 (by first | omega | (simp; done) | (simp; omega)) (by (repeat (first | (with_reducible assumption) | (with_reducible exact alloc_at _ _) | ((with_reducible apply alloc_at'); (simp; done)) | (with_reducible apply alloc_at_lt) | (with_reducible apply heap_drew_at) | (with_reducible apply heap_drewN_at) | (with_reducible apply heap_setCell_same) | ((with_reducible apply heap_set_ne); (first | omega | (dsimp only; omega) | (simp; done) | (simp; omega))) | (with_reducible apply setRow_at) | ((with_reducible apply setRow_ne); (first | omega | (dsimp only; omega) | (simp; done) | (simp; omega))))))
    have C_4 : w4.heap[z]? = some (.cells #[.int .u64 cn, .int .u64 cd] 24 (0, 0)) := below_at hb4 (by first | omega | (simp; done) | (simp; omega)) (by (repeat (first | (with_reducible assumption) | (with_reducible exact alloc_at _ _) | ((with_reducible apply alloc_at'); (simp; done)) | (with_reducible apply alloc_at_lt) | (with_reducible apply heap_drew_at) | (with_reducible apply heap_drewN_at) | (with_reducible apply heap_setCell_same) | ((with_reducible apply heap_set_ne); (first | omega | (dsimp only; omega) | (simp; done) | (simp; omega))) | (with_reducible apply setRow_at) | ((with_reducible apply setRow_ne); (first | omega | (dsimp only; omega) | (simp; done) | (simp; omega))))))
    have S_4 : w4.heap[w2.heap.size]? = some (.cells #[.int .u64 sn, .int .u64 sd] 24 (0, 0)) := below_at hb4 (by first | omega | (simp; done) | (simp; omega)) (by (repeat (first | (with_reducible assumption) | (with_reducible exact alloc_at _ _) | ((with_reducible apply alloc_at'); (simp; done)) | (with_reducible apply alloc_at_lt) | (with_reducible apply heap_drew_at) | (with_reducible apply heap_drewN_at) | (with_reducible apply heap_setCell_same) | ((with_reducible apply heap_set_ne); (first | omega | (dsimp only; omega) | (simp; done) | (simp; omega))) | (with_reducible apply setRow_at) | ((with_reducible apply setRow_ne); (first | omega | (dsimp only; omega) | (simp; done) | (simp; omega))))))
    have P_4 : w4.heap[w3.heap.size]? = some (.cells #[.int .u64 pn, .int .u64 pd] 24 (0, 0)) := below_at hb4 (by first | omega | (simp; done) | (simp; omega)) (by (repeat (first | (with_reducible assumption) | (with_reducible exact alloc_at _ _) | ((with_reducible apply alloc_at'); (simp; done)) | (with_reducible apply alloc_at_lt) | (with_reducible apply heap_drew_at) | (with_reducible apply heap_drewN_at) | (with_reducible apply heap_setCell_same) | ((with_reducible apply heap_set_ne); (first | omega | (dsimp only; omega) | (simp; done) | (simp; omega))) | (with_reducible apply setRow_at) | ((with_reducible apply setRow_ne); (first | omega | (dsimp only; omega) | (simp; done) | (simp; omega))))))
    have B4 : Below w.heap.size w w4 := Below.trans (by repeat (first | with_reducible assumption | with_reducible exact Below.refl _ _ | with_reducible refine Below.drew ?_ | with_reducible refine below_drewN ?_ _ | with_reducible refine below_alloc ?_ _ | with_reducible refine Below.alloc ?_ (by first | omega | (simp; done) | (simp; omega)) _ | with_reducible refine Below.setCell ?_ (by first | omega | (simp; done) | (simp; omega)) _ | with_reducible refine below_setRow ?_ (by first | omega | (simp; done) | (simp; omega)) _)) (hb4.mono (by first | omega | (simp; done) | (simp; omega)))
    clear hb4 A_3 B_3 C_3 S_3
    clear Ac0 Ac1 Acf
    clear Bc0 Bc1 Bcf
    clear Cc0 Cc1 Ccf
    clear Sc0 Sc1 Scf
    have Ac0 : w4.cell? ⟨x, 0, none⟩ = some (.int .u64 an) := (blk_cell A_4 0).trans rfl
    have Ac1 : w4.cell? ⟨x, 1, none⟩ = some (.int .u64 ad) := (blk_cell A_4 1).trans rfl
    have Acf := blk_free A_4
    have Bc0 : w4.cell? ⟨y, 0, none⟩ = some (.int .u64 bn) := (blk_cell B_4 0).trans rfl
    have Bc1 : w4.cell? ⟨y, 1, none⟩ = some (.int .u64 bd) := (blk_cell B_4 1).trans rfl
    have Bcf := blk_free B_4
    have Cc0 : w4.cell? ⟨z, 0, none⟩ = some (.int .u64 cn) := (blk_cell C_4 0).trans rfl
    have Cc1 : w4.cell? ⟨z, 1, none⟩ = some (.int .u64 cd) := (blk_cell C_4 1).trans rfl
    have Ccf := blk_free C_4
    have Sc0 : w4.cell? ⟨w2.heap.size, 0, none⟩ = some (.int .u64 sn) := (blk_cell S_4 0).trans rfl
    have Sc1 : w4.cell? ⟨w2.heap.size, 1, none⟩ = some (.int .u64 sd) := (blk_cell S_4 1).trans rfl
    have Scf := blk_free S_4
    have Pc0 : w4.cell? ⟨w3.heap.size, 0, none⟩ = some (.int .u64 pn) := (blk_cell P_4 0).trans rfl
    have Pc1 : w4.cell? ⟨w3.heap.size, 1, none⟩ = some (.int .u64 pd) := (blk_cell P_4 1).trans rfl
    have Pcf := blk_free P_4
    have Al4 : x < w4.heap.size := by omega
    have Bl4 : y < w4.heap.size := by omega
    have Cl4 : z < w4.heap.size := by omega
    have Sl4 : w2.heap.size < w4.heap.size := by omega
    have Pl4 : w3.heap.size < w4.heap.size := by omega
    go_wp2_with fail
    refine (HY.out _).mono ?_
    rintro e w5 ⟨rfl, hb5⟩
    have hs5 := hb5.size
    try simp only [World.size_alloc, World.size_setCell] at hs5
    have A_5 : w5.heap[x]? = some (.cells #[.int .u64 an, .int .u64 ad] 24 (0, 0)) := below_at hb5 (by first | omega | (simp; done) | (simp; omega)) (by (repeat (first | (with_reducible assumption) | (with_reducible exact alloc_at _ _) | ((with_reducible apply alloc_at'); (simp; done)) | (with_reducible apply alloc_at_lt) | (with_reducible apply heap_drew_at) | (with_reducible apply heap_drewN_at) | (with_reducible apply heap_setCell_same) | ((with_reducible apply heap_set_ne); (first | omega | (dsimp only; omega) | (simp; done) | (simp; omega))) | (with_reducible apply setRow_at) | ((with_reducible apply setRow_ne); (first | omega | (dsimp only; omega) | (simp; done) | (simp; omega))))))
    have B_5 : w5.heap[y]? = some (.cells #[.int .u64 bn, .int .u64 bd] 24 (0, 0)) := below_at hb5 (by first | omega | (simp; done) | (simp; omega)) (by (repeat (first | (with_reducible assumption) | (with_reducible exact alloc_at _ _) | ((with_reducible apply alloc_at'); (simp; done)) | (with_reducible apply alloc_at_lt) | (with_reducible apply heap_drew_at) | (with_reducible apply heap_drewN_at) | (with_reducible apply heap_setCell_same) | ((with_reducible apply heap_set_ne); (first | omega | (dsimp only; omega) | (simp; done) | (simp; omega))) | (with_reducible apply setRow_at) | ((with_reducible apply setRow_ne); (first | omega | (dsimp only; omega) | (simp; done) | (simp; omega))))))
    have C_5 : w5.heap[z]? = some (.cells #[.int .u64 cn, .int .u64 cd] 24 (0, 0)) := below_at hb5 (by first | omega | (simp; done) | (simp; omega)) (by (repeat (first | (with_reducible assumption) | (with_reducible exact alloc_at _ _) | ((with_reducible apply alloc_at'); (simp; done)) | (with_reducible apply alloc_at_lt) | (with_reducible apply heap_drew_at) | (with_reducible apply heap_drewN_at) | (with_reducible apply heap_setCell_same) | ((with_reducible apply heap_set_ne); (first | omega | (dsimp only; omega) | (simp; done) | (simp; omega))) | (with_reducible apply setRow_at) | ((with_reducible apply setRow_ne); (first | omega | (dsimp only; omega) | (simp; done) | (simp; omega))))))
    have S_5 : w5.heap[w2.heap.size]? = some (.cells #[.int .u64 sn, .int .u64 sd] 24 (0, 0)) := below_at hb5 (by first | omega | (simp; done) | (simp; omega)) (by (repeat (first | (with_reducible assumption) | (with_reducible exact alloc_at _ _) | ((with_reducible apply alloc_at'); (simp; done)) | (with_reducible apply alloc_at_lt) | (with_reducible apply heap_drew_at) | (with_reducible apply heap_drewN_at) | (with_reducible apply heap_setCell_same) | ((with_reducible apply heap_set_ne); (first | omega | (dsimp only; omega) | (simp; done) | (simp; omega))) | (with_reducible apply setRow_at) | ((with_reducible apply setRow_ne); (first | omega | (dsimp only; omega) | (simp; done) | (simp; omega))))))
    have P_5 : w5.heap[w3.heap.size]? = some (.cells #[.int .u64 pn, .int .u64 pd] 24 (0, 0)) := below_at hb5 (by first | omega | (simp; done) | (simp; omega)) (by (repeat (first | (with_reducible assumption) | (with_reducible exact alloc_at _ _) | ((with_reducible apply alloc_at'); (simp; done)) | (with_reducible apply alloc_at_lt) | (with_reducible apply heap_drew_at) | (with_reducible apply heap_drewN_at) | (with_reducible apply heap_setCell_same) | ((with_reducible apply heap_set_ne); (first | omega | (dsimp only; omega) | (simp; done) | (simp; omega))) | (with_reducible apply setRow_at) | ((with_reducible apply setRow_ne); (first | omega | (dsimp only; omega) | (simp; done) | (simp; omega))))))
    have X_5 : w5.heap[w4.heap.size]? = some (.cells #[.int .u64 xn, .int .u64 xd] 24 (0, 0)) := below_at hb5 (by first | omega | (simp; done) | (simp; omega)) (by (repeat (first | (with_reducible assumption) | (with_reducible exact alloc_at _ _) | ((with_reducible apply alloc_at'); (simp; done)) | (with_reducible apply alloc_at_lt) | (with_reducible apply heap_drew_at) | (with_reducible apply heap_drewN_at) | (with_reducible apply heap_setCell_same) | ((with_reducible apply heap_set_ne); (first | omega | (dsimp only; omega) | (simp; done) | (simp; omega))) | (with_reducible apply setRow_at) | ((with_reducible apply setRow_ne); (first | omega | (dsimp only; omega) | (simp; done) | (simp; omega))))))
    have B5 : Below w.heap.size w w5 := Below.trans (by repeat (first | with_reducible assumption | with_reducible exact Below.refl _ _ | with_reducible refine Below.drew ?_ | with_reducible refine below_drewN ?_ _ | with_reducible refine below_alloc ?_ _ | with_reducible refine Below.alloc ?_ (by first | omega | (simp; done) | (simp; omega)) _ | with_reducible refine Below.setCell ?_ (by first | omega | (simp; done) | (simp; omega)) _ | with_reducible refine below_setRow ?_ (by first | omega | (simp; done) | (simp; omega)) _)) (hb5.mono (by first | omega | (simp; done) | (simp; omega)))
    clear hb5 A_4 B_4 C_4 S_4 P_4
    clear Ac0 Ac1 Acf
    clear Bc0 Bc1 Bcf
    clear Cc0 Cc1 Ccf
    clear Sc0 Sc1 Scf
    clear Pc0 Pc1 Pcf
    have Ac0 : w5.cell? ⟨x, 0, none⟩ = some (.int .u64 an) := (blk_cell A_5 0).trans rfl
    have Ac1 : w5.cell? ⟨x, 1, none⟩ = some (.int .u64 ad) := (blk_cell A_5 1).trans rfl
    have Acf := blk_free A_5
    have Bc0 : w5.cell? ⟨y, 0, none⟩ = some (.int .u64 bn) := (blk_cell B_5 0).trans rfl
    have Bc1 : w5.cell? ⟨y, 1, none⟩ = some (.int .u64 bd) := (blk_cell B_5 1).trans rfl
    have Bcf := blk_free B_5
    have Cc0 : w5.cell? ⟨z, 0, none⟩ = some (.int .u64 cn) := (blk_cell C_5 0).trans rfl
    have Cc1 : w5.cell? ⟨z, 1, none⟩ = some (.int .u64 cd) := (blk_cell C_5 1).trans rfl
    have Ccf := blk_free C_5
    have Sc0 : w5.cell? ⟨w2.heap.size, 0, none⟩ = some (.int .u64 sn) := (blk_cell S_5 0).trans rfl
    have Sc1 : w5.cell? ⟨w2.heap.size, 1, none⟩ = some (.int .u64 sd) := (blk_cell S_5 1).trans rfl
    have Scf := blk_free S_5
    have Pc0 : w5.cell? ⟨w3.heap.size, 0, none⟩ = some (.int .u64 pn) := (blk_cell P_5 0).trans rfl
    have Pc1 : w5.cell? ⟨w3.heap.size, 1, none⟩ = some (.int .u64 pd) := (blk_cell P_5 1).trans rfl
    have Pcf := blk_free P_5
    have Xc0 : w5.cell? ⟨w4.heap.size, 0, none⟩ = some (.int .u64 xn) := (blk_cell X_5 0).trans rfl
    have Xc1 : w5.cell? ⟨w4.heap.size, 1, none⟩ = some (.int .u64 xd) := (blk_cell X_5 1).trans rfl
    have Xcf := blk_free X_5
    have Al5 : x < w5.heap.size := by omega
    have Bl5 : y < w5.heap.size := by omega
    have Cl5 : z < w5.heap.size := by omega
    have Sl5 : w2.heap.size < w5.heap.size := by omega
    have Pl5 : w3.heap.size < w5.heap.size := by omega
    have Xl5 : w4.heap.size < w5.heap.size := by omega
    go_wp2_with fail
    refine (HZ.out _).mono ?_
    rintro e w6 ⟨rfl, hb6⟩
    have hs6 := hb6.size
    try simp only [World.size_alloc, World.size_setCell] at hs6
    have A_6 : w6.heap[x]? = some (.cells #[.int .u64 an, .int .u64 ad] 24 (0, 0)) := below_at hb6 (by first | omega | (simp; done) | (simp; omega)) (by (repeat (first | (with_reducible assumption) | (with_reducible exact alloc_at _ _) | ((with_reducible apply alloc_at'); (simp; done)) | (with_reducible apply alloc_at_lt) | (with_reducible apply heap_drew_at) | (with_reducible apply heap_drewN_at) | (with_reducible apply heap_setCell_same) | ((with_reducible apply heap_set_ne); (first | omega | (dsimp only; omega) | (simp; done) | (simp; omega))) | (with_reducible apply setRow_at) | ((with_reducible apply setRow_ne); (first | omega | (dsimp only; omega) | (simp; done) | (simp; omega))))))
    have B_6 : w6.heap[y]? = some (.cells #[.int .u64 bn, .int .u64 bd] 24 (0, 0)) := below_at hb6 (by first | omega | (simp; done) | (simp; omega)) (by (repeat (first | (with_reducible assumption) | (with_reducible exact alloc_at _ _) | ((with_reducible apply alloc_at'); (simp; done)) | (with_reducible apply alloc_at_lt) | (with_reducible apply heap_drew_at) | (with_reducible apply heap_drewN_at) | (with_reducible apply heap_setCell_same) | ((with_reducible apply heap_set_ne); (first | omega | (dsimp only; omega) | (simp; done) | (simp; omega))) | (with_reducible apply setRow_at) | ((with_reducible apply setRow_ne); (first | omega | (dsimp only; omega) | (simp; done) | (simp; omega))))))
    have C_6 : w6.heap[z]? = some (.cells #[.int .u64 cn, .int .u64 cd] 24 (0, 0)) := below_at hb6 (by first | omega | (simp; done) | (simp; omega)) (by (repeat (first | (with_reducible assumption) | (with_reducible exact alloc_at _ _) | ((with_reducible apply alloc_at'); (simp; done)) | (with_reducible apply alloc_at_lt) | (with_reducible apply heap_drew_at) | (with_reducible apply heap_drewN_at) | (with_reducible apply heap_setCell_same) | ((with_reducible apply heap_set_ne); (first | omega | (dsimp only; omega) | (simp; done) | (simp; omega))) | (with_reducible apply setRow_at) | ((with_reducible apply setRow_ne); (first | omega | (dsimp only; omega) | (simp; done) | (simp; omega))))))
    have S_6 : w6.heap[w2.heap.size]? = some (.cells #[.int .u64 sn, .int .u64 sd] 24 (0, 0)) := below_at hb6 (by first | omega | (simp; done) | (simp; omega)) (by (repeat (first | (with_reducible assumption) | (with_reducible exact alloc_at _ _) | ((with_reducible apply alloc_at'); (simp; done)) | (with_reducible apply alloc_at_lt) | (with_reducible apply heap_drew_at) | (with_reducible apply heap_drewN_at) | (with_reducible apply heap_setCell_same) | ((with_reducible apply heap_set_ne); (first | omega | (dsimp only; omega) | (simp; done) | (simp; omega))) | (with_reducible apply setRow_at) | ((with_reducible apply setRow_ne); (first | omega | (dsimp only; omega) | (simp; done) | (simp; omega))))))
    have P_6 : w6.heap[w3.heap.size]? = some (.cells #[.int .u64 pn, .int .u64 pd] 24 (0, 0)) := below_at hb6 (by first | omega | (simp; done) | (simp; omega)) (by (repeat (first | (with_reducible assumption) | (with_reducible exact alloc_at _ _) | ((with_reducible apply alloc_at'); (simp; done)) | (with_reducible apply alloc_at_lt) | (with_reducible apply heap_drew_at) | (with_reducible apply heap_drewN_at) | (with_reducible apply heap_setCell_same) | ((with_reducible apply heap_set_ne); (first | omega | (dsimp only; omega) | (simp; done) | (simp; omega))) | (with_reducible apply setRow_at) | ((with_reducible apply setRow_ne); (first | omega | (dsimp only; omega) | (simp; done) | (simp; omega))))))
    have X_6 : w6.heap[w4.heap.size]? = some (.cells #[.int .u64 xn, .int .u64 xd] 24 (0, 0)) := below_at hb6 (by first | omega | (simp; done) | (simp; omega)) (by (repeat (first | (with_reducible assumption) | (with_reducible exact alloc_at _ _) | ((with_reducible apply alloc_at'); (simp; done)) | (with_reducible apply alloc_at_lt) | (with_reducible apply heap_drew_at) | (with_reducible apply heap_drewN_at) | (with_reducible apply heap_setCell_same) | ((with_reducible apply heap_set_ne); (first | omega | (dsimp only; omega) | (simp; done) | (simp; omega))) | (with_reducible apply setRow_at) | ((with_reducible apply setRow_ne); (first | omega | (dsimp only; omega) | (simp; done) | (simp; omega))))))
    have Y_6 : w6.heap[w5.heap.size]? = some (.cells #[.int .u64 yn, .int .u64 yd] 24 (0, 0)) := below_at hb6 (by first | omega | (simp; done) | (simp; omega)) (by (repeat (first | (with_reducible assumption) | (with_reducible exact alloc_at _ _) | ((with_reducible apply alloc_at'); (simp; done)) | (with_reducible apply alloc_at_lt) | (with_reducible apply heap_drew_at) | (with_reducible apply heap_drewN_at) | (with_reducible apply heap_setCell_same) | ((with_reducible apply heap_set_ne); (first | omega | (dsimp only; omega) | (simp; done) | (simp; omega))) | (with_reducible apply setRow_at) | ((with_reducible apply setRow_ne); (first | omega | (dsimp only; omega) | (simp; done) | (simp; omega))))))
    have B6 : Below w.heap.size w w6 := Below.trans (by repeat (first | with_reducible assumption | with_reducible exact Below.refl _ _ | with_reducible refine Below.drew ?_ | with_reducible refine below_drewN ?_ _ | with_reducible refine below_alloc ?_ _ | with_reducible refine Below.alloc ?_ (by first | omega | (simp; done) | (simp; omega)) _ | with_reducible refine Below.setCell ?_ (by first | omega | (simp; done) | (simp; omega)) _ | with_reducible refine below_setRow ?_ (by first | omega | (simp; done) | (simp; omega)) _)) (hb6.mono (by first | omega | (simp; done) | (simp; omega)))
    clear hb6 A_5 B_5 C_5 S_5 P_5 X_5
    clear Ac0 Ac1 Acf
    clear Bc0 Bc1 Bcf
    clear Cc0 Cc1 Ccf
    clear Sc0 Sc1 Scf
    clear Pc0 Pc1 Pcf
    clear Xc0 Xc1 Xcf
    have Ac0 : w6.cell? ⟨x, 0, none⟩ = some (.int .u64 an) := (blk_cell A_6 0).trans rfl
    have Ac1 : w6.cell? ⟨x, 1, none⟩ = some (.int .u64 ad) := (blk_cell A_6 1).trans rfl
    have Acf := blk_free A_6
    have Bc0 : w6.cell? ⟨y, 0, none⟩ = some (.int .u64 bn) := (blk_cell B_6 0).trans rfl
    have Bc1 : w6.cell? ⟨y, 1, none⟩ = some (.int .u64 bd) := (blk_cell B_6 1).trans rfl
    have Bcf := blk_free B_6
    have Cc0 : w6.cell? ⟨z, 0, none⟩ = some (.int .u64 cn) := (blk_cell C_6 0).trans rfl
    have Cc1 : w6.cell? ⟨z, 1, none⟩ = some (.int .u64 cd) := (blk_cell C_6 1).trans rfl
    have Ccf := blk_free C_6
    have Sc0 : w6.cell? ⟨w2.heap.size, 0, none⟩ = some (.int .u64 sn) := (blk_cell S_6 0).trans rfl
    have Sc1 : w6.cell? ⟨w2.heap.size, 1, none⟩ = some (.int .u64 sd) := (blk_cell S_6 1).trans rfl
    have Scf := blk_free S_6
    have Pc0 : w6.cell? ⟨w3.heap.size, 0, none⟩ = some (.int .u64 pn) := (blk_cell P_6 0).trans rfl
    have Pc1 : w6.cell? ⟨w3.heap.size, 1, none⟩ = some (.int .u64 pd) := (blk_cell P_6 1).trans rfl
    have Pcf := blk_free P_6
    have Xc0 : w6.cell? ⟨w4.heap.size, 0, none⟩ = some (.int .u64 xn) := (blk_cell X_6 0).trans rfl
    have Xc1 : w6.cell? ⟨w4.heap.size, 1, none⟩ = some (.int .u64 xd) := (blk_cell X_6 1).trans rfl
    have Xcf := blk_free X_6
    have Yc0 : w6.cell? ⟨w5.heap.size, 0, none⟩ = some (.int .u64 yn) := (blk_cell Y_6 0).trans rfl
    have Yc1 : w6.cell? ⟨w5.heap.size, 1, none⟩ = some (.int .u64 yd) := (blk_cell Y_6 1).trans rfl
    have Ycf := blk_free Y_6
    have Al6 : x < w6.heap.size := by omega
    have Bl6 : y < w6.heap.size := by omega
    have Cl6 : z < w6.heap.size := by omega
    have Sl6 : w2.heap.size < w6.heap.size := by omega
    have Pl6 : w3.heap.size < w6.heap.size := by omega
    have Xl6 : w4.heap.size < w6.heap.size := by omega
    have Yl6 : w5.heap.size < w6.heap.size := by omega
    go_wp2_with fail
    refine (HK.out _).mono ?_
    rintro e w7 ⟨rfl, hb7⟩
    have hs7 := hb7.size
    try simp only [World.size_alloc, World.size_setCell] at hs7
    have A_7 : w7.heap[x]? = some (.cells #[.int .u64 an, .int .u64 ad] 24 (0, 0)) := below_at hb7 (by first | omega | (simp; done) | (simp; omega)) (by (repeat (first | (with_reducible assumption) | (with_reducible exact alloc_at _ _) | ((with_reducible apply alloc_at'); (simp; done)) | (with_reducible apply alloc_at_lt) | (with_reducible apply heap_drew_at) | (with_reducible apply heap_drewN_at) | (with_reducible apply heap_setCell_same) | ((with_reducible apply heap_set_ne); (first | omega | (dsimp only; omega) | (simp; done) | (simp; omega))) | (with_reducible apply setRow_at) | ((with_reducible apply setRow_ne); (first | omega | (dsimp only; omega) | (simp; done) | (simp; omega))))))
    have B_7 : w7.heap[y]? = some (.cells #[.int .u64 bn, .int .u64 bd] 24 (0, 0)) := below_at hb7 (by first | omega | (simp; done) | (simp; omega)) (by (repeat (first | (with_reducible assumption) | (with_reducible exact alloc_at _ _) | ((with_reducible apply alloc_at'); (simp; done)) | (with_reducible apply alloc_at_lt) | (with_reducible apply heap_drew_at) | (with_reducible apply heap_drewN_at) | (with_reducible apply heap_setCell_same) | ((with_reducible apply heap_set_ne); (first | omega | (dsimp only; omega) | (simp; done) | (simp; omega))) | (with_reducible apply setRow_at) | ((with_reducible apply setRow_ne); (first | omega | (dsimp only; omega) | (simp; done) | (simp; omega))))))
    have C_7 : w7.heap[z]? = some (.cells #[.int .u64 cn, .int .u64 cd] 24 (0, 0)) := below_at hb7 (by first | omega | (simp; done) | (simp; omega)) (by (repeat (first | (with_reducible assumption) | (with_reducible exact alloc_at _ _) | ((with_reducible apply alloc_at'); (simp; done)) | (with_reducible apply alloc_at_lt) | (with_reducible apply heap_drew_at) | (with_reducible apply heap_drewN_at) | (with_reducible apply heap_setCell_same) | ((with_reducible apply heap_set_ne); (first | omega | (dsimp only; omega) | (simp; done) | (simp; omega))) | (with_reducible apply setRow_at) | ((with_reducible apply setRow_ne); (first | omega | (dsimp only; omega) | (simp; done) | (simp; omega))))))
    have S_7 : w7.heap[w2.heap.size]? = some (.cells #[.int .u64 sn, .int .u64 sd] 24 (0, 0)) := below_at hb7 (by first | omega | (simp; done) | (simp; omega)) (by (repeat (first | (with_reducible assumption) | (with_reducible exact alloc_at _ _) | ((with_reducible apply alloc_at'); (simp; done)) | (with_reducible apply alloc_at_lt) | (with_reducible apply heap_drew_at) | (with_reducible apply heap_drewN_at) | (with_reducible apply heap_setCell_same) | ((with_reducible apply heap_set_ne); (first | omega | (dsimp only; omega) | (simp; done) | (simp; omega))) | (with_reducible apply setRow_at) | ((with_reducible apply setRow_ne); (first | omega | (dsimp only; omega) | (simp; done) | (simp; omega))))))
    have P_7 : w7.heap[w3.heap.size]? = some (.cells #[.int .u64 pn, .int .u64 pd] 24 (0, 0)) := below_at hb7 (by first | omega | (simp; done) | (simp; omega)) (by (repeat (first | (with_reducible assumption) | (with_reducible exact alloc_at _ _) | ((with_reducible apply alloc_at'); (simp; done)) | (with_reducible apply alloc_at_lt) | (with_reducible apply heap_drew_at) | (with_reducible apply heap_drewN_at) | (with_reducible apply heap_setCell_same) | ((with_reducible apply heap_set_ne); (first | omega | (dsimp only; omega) | (simp; done) | (simp; omega))) | (with_reducible apply setRow_at) | ((with_reducible apply setRow_ne); (first | omega | (dsimp only; omega) | (simp; done) | (simp; omega))))))
    have X_7 : w7.heap[w4.heap.size]? = some (.cells #[.int .u64 xn, .int .u64 xd] 24 (0, 0)) := below_at hb7 (by first | omega | (simp; done) | (simp; omega)) (by (repeat (first | (with_reducible assumption) | (with_reducible exact alloc_at _ _) | ((with_reducible apply alloc_at'); (simp; done)) | (with_reducible apply alloc_at_lt) | (with_reducible apply heap_drew_at) | (with_reducible apply heap_drewN_at) | (with_reducible apply heap_setCell_same) | ((with_reducible apply heap_set_ne); (first | omega | (dsimp only; omega) | (simp; done) | (simp; omega))) | (with_reducible apply setRow_at) | ((with_reducible apply setRow_ne); (first | omega | (dsimp only; omega) | (simp; done) | (simp; omega))))))
    have Y_7 : w7.heap[w5.heap.size]? = some (.cells #[.int .u64 yn, .int .u64 yd] 24 (0, 0)) := below_at hb7 (by first | omega | (simp; done) | (simp; omega)) (by (repeat (first | (with_reducible assumption) | (with_reducible exact alloc_at _ _) | ((with_reducible apply alloc_at'); (simp; done)) | (with_reducible apply alloc_at_lt) | (with_reducible apply heap_drew_at) | (with_reducible apply heap_drewN_at) | (with_reducible apply heap_setCell_same) | ((with_reducible apply heap_set_ne); (first | omega | (dsimp only; omega) | (simp; done) | (simp; omega))) | (with_reducible apply setRow_at) | ((with_reducible apply setRow_ne); (first | omega | (dsimp only; omega) | (simp; done) | (simp; omega))))))
    have Z_7 : w7.heap[w6.heap.size]? = some (.cells #[.int .u64 pn, .int .u64 pd] 24 (0, 0)) := below_at hb7 (by first | omega | (simp; done) | (simp; omega)) (by (repeat (first | (with_reducible assumption) | (with_reducible exact alloc_at _ _) | ((with_reducible apply alloc_at'); (simp; done)) | (with_reducible apply alloc_at_lt) | (with_reducible apply heap_drew_at) | (with_reducible apply heap_drewN_at) | (with_reducible apply heap_setCell_same) | ((with_reducible apply heap_set_ne); (first | omega | (dsimp only; omega) | (simp; done) | (simp; omega))) | (with_reducible apply setRow_at) | ((with_reducible apply setRow_ne); (first | omega | (dsimp only; omega) | (simp; done) | (simp; omega))))))
    have B7 : Below w.heap.size w w7 := Below.trans (by repeat (first | with_reducible assumption | with_reducible exact Below.refl _ _ | with_reducible refine Below.drew ?_ | with_reducible refine below_drewN ?_ _ | with_reducible refine below_alloc ?_ _ | with_reducible refine Below.alloc ?_ (by first | omega | (simp; done) | (simp; omega)) _ | with_reducible refine Below.setCell ?_ (by first | omega | (simp; done) | (simp; omega)) _ | with_reducible refine below_setRow ?_ (by first | omega | (simp; done) | (simp; omega)) _)) (hb7.mono (by first | omega | (simp; done) | (simp; omega)))
    clear hb7 A_6 B_6 C_6 S_6 P_6 X_6 Y_6
    clear Ac0 Ac1 Acf
    clear Bc0 Bc1 Bcf
    clear Cc0 Cc1 Ccf
    clear Sc0 Sc1 Scf
    clear Pc0 Pc1 Pcf
    clear Xc0 Xc1 Xcf
    clear Yc0 Yc1 Ycf
    have Ac0 : w7.cell? ⟨x, 0, none⟩ = some (.int .u64 an) := (blk_cell A_7 0).trans rfl
    have Ac1 : w7.cell? ⟨x, 1, none⟩ = some (.int .u64 ad) := (blk_cell A_7 1).trans rfl
    have Acf := blk_free A_7
    have Bc0 : w7.cell? ⟨y, 0, none⟩ = some (.int .u64 bn) := (blk_cell B_7 0).trans rfl
    have Bc1 : w7.cell? ⟨y, 1, none⟩ = some (.int .u64 bd) := (blk_cell B_7 1).trans rfl
    have Bcf := blk_free B_7
    have Cc0 : w7.cell? ⟨z, 0, none⟩ = some (.int .u64 cn) := (blk_cell C_7 0).trans rfl
    have Cc1 : w7.cell? ⟨z, 1, none⟩ = some (.int .u64 cd) := (blk_cell C_7 1).trans rfl
    have Ccf := blk_free C_7
    have Sc0 : w7.cell? ⟨w2.heap.size, 0, none⟩ = some (.int .u64 sn) := (blk_cell S_7 0).trans rfl
    have Sc1 : w7.cell? ⟨w2.heap.size, 1, none⟩ = some (.int .u64 sd) := (blk_cell S_7 1).trans rfl
    have Scf := blk_free S_7
    have Pc0 : w7.cell? ⟨w3.heap.size, 0, none⟩ = some (.int .u64 pn) := (blk_cell P_7 0).trans rfl
    have Pc1 : w7.cell? ⟨w3.heap.size, 1, none⟩ = some (.int .u64 pd) := (blk_cell P_7 1).trans rfl
    have Pcf := blk_free P_7
    have Xc0 : w7.cell? ⟨w4.heap.size, 0, none⟩ = some (.int .u64 xn) := (blk_cell X_7 0).trans rfl
    have Xc1 : w7.cell? ⟨w4.heap.size, 1, none⟩ = some (.int .u64 xd) := (blk_cell X_7 1).trans rfl
    have Xcf := blk_free X_7
    have Yc0 : w7.cell? ⟨w5.heap.size, 0, none⟩ = some (.int .u64 yn) := (blk_cell Y_7 0).trans rfl
    have Yc1 : w7.cell? ⟨w5.heap.size, 1, none⟩ = some (.int .u64 yd) := (blk_cell Y_7 1).trans rfl
    have Ycf := blk_free Y_7
    have Zc0 : w7.cell? ⟨w6.heap.size, 0, none⟩ = some (.int .u64 pn) := (blk_cell Z_7 0).trans rfl
    have Zc1 : w7.cell? ⟨w6.heap.size, 1, none⟩ = some (.int .u64 pd) := (blk_cell Z_7 1).trans rfl
    have Zcf := blk_free Z_7
    have Al7 : x < w7.heap.size := by omega
    have Bl7 : y < w7.heap.size := by omega
    have Cl7 : z < w7.heap.size := by omega
    have Sl7 : w2.heap.size < w7.heap.size := by omega
    have Pl7 : w3.heap.size < w7.heap.size := by omega
    have Xl7 : w4.heap.size < w7.heap.size := by omega
    have Yl7 : w5.heap.size < w7.heap.size := by omega
    have Zl7 : w6.heap.size < w7.heap.size := by omega
    go_wp2
    go_ret
    exact ⟨by first | rfl | simp, (by repeat (first | with_reducible assumption | with_reducible exact Below.refl _ _ | with_reducible refine Below.drew ?_ | with_reducible refine below_drewN ?_ _ | with_reducible refine below_alloc ?_ _ | with_reducible refine Below.alloc ?_ (by first | omega | (simp; done) | (simp; omega)) _ | with_reducible refine Below.setCell ?_ (by first | omega | (simp; done) | (simp; omega)) _ | with_reducible refine below_setRow ?_ (by first | omega | (simp; done) | (simp; omega)) _))⟩
end Go.Proofs.Ytbkopmgfkokmgaa
