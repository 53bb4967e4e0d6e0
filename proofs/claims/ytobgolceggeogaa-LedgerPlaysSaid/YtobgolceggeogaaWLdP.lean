/- LedgerPlays' walk: whatever calls a ledger is given, in whatever order, it answers what a list of accounts would. -/
import Derived.Test.YtobgolceggeogaaLdS
import Derived.Test.YtobgolceggeogaaLdU
import Derived.Deep.RegionWith
namespace Go.Proofs.Ytobgolceggeogaa
open Go.RowKit Go.Maps
theorem SlO.one {B n k : Nat} {w wr : World} {A : Option Addr} {ops : List OpD} (h : SlO w A n ops) (hb : Below w.heap.size w wr) (hB : w.heap.size ≤ B) (hk : k < n) :
    ∃ o b off, o ∈ ops ∧ A = some ⟨b, off, none⟩ ∧ wr.cell? ⟨b, off + k * 7, none⟩ = some (.int .i64 o.kind) ∧ wr.cell? ⟨b, off + k * 7 + 1, none⟩ = some (.string o.name) ∧
    wr.cell? ⟨b, off + k * 7 + 2, none⟩ = some (.int .i64 o.v.1) ∧ wr.cell? ⟨b, off + k * 7 + 3, none⟩ = some (.int .i64 o.v.2.1) ∧ wr.cell? ⟨b, off + k * 7 + 4, none⟩ = some (.int .i64 o.v.2.2.1) ∧ wr.cell? ⟨b, off + k * 7 + 5, none⟩ = some (.int .i64 o.v.2.2.2) ∧
    wr.cell? ⟨b, off + k * 7 + 6, none⟩ = some (.slice o.s o.n o.cap) ∧ o.name.size ≤ maxLen ∧ SlB B wr o.s o.n o.l := by
  obtain ⟨rfl, rfl | ⟨b, off, rfl, hbl, hh⟩⟩ := h
  · simp at hk
  · obtain ⟨h0, h1, h2, h3, h4, h5, h6, h7, ⟨h8, h9⟩, -⟩ := hh k hk
    refine ⟨ops[k], b, off, List.getElem_mem hk, rfl, by rw [hb.cell hbl]; exact h0, by rw [hb.cell hbl]; exact h1, by rw [hb.cell hbl]; exact h2, by rw [hb.cell hbl]; exact h3, by rw [hb.cell hbl]; exact h4, by rw [hb.cell hbl]; exact h5, by rw [hb.cell hbl]; exact h6, h7, h8, ?_⟩
    rcases h9 with h9 | ⟨b', off', e, hb', hE⟩
    · exact .inl h9
    · exact .inr ⟨b', off', e, Nat.lt_of_lt_of_le hb' hB, hE.at_world (hb.block b' hb')⟩
/-- The ledger and the reference. -/
def PairL (B : Nat) (w : World) (L R : Nat) : Prop := ∃ n A, KeyLe A ∧ LedB B w L n A ∧ RefO B w R n A
theorem PairL.below {B L R : Nat} {w w' : World} (h : PairL B w L R) (hb : Below w.heap.size w w') : PairL B w' L R := by
  obtain ⟨n, A, h0, h1, h2⟩ := h
  exact ⟨n, A, h0, h1.below hb, h2.below hb⟩
theorem PairL.le {B L R : Nat} {w : World} (h : PairL B w L R) : B ≤ w.heap.size := by
  obtain ⟨n, A, h0, h1, h2⟩ := h
  exact Nat.le_trans h1.2.2.1 (Nat.le_of_lt h1.lt)
theorem PairL.step {B L R n len cap : Nat} {w : World} {S : Option Addr} {l : List Ent} (h : PairL B w L R) (he : SlB B w S len l) (s : ByteArray) (k a b c d : Int) (hs : s.size ≤ maxLen) (hm : len ≤ 2000) :
    Calls Try.prog 24 #[.pointer (some ⟨L, 0, none⟩), .pointer (some ⟨R, 0, none⟩), .agg #[.int .i64 k, .string s, .int .i64 a, .int .i64 b, .int .i64 c, .int .i64 d, .slice S len cap]] w fun e w' => e = .returned (.bool true) ∧ PairL B w' L R ∧ Below B w w' := by
  obtain ⟨n, A, h0, h1, h2⟩ := h
  exact (stepL_any B L R n A s k a b c d S len cap l w ⟨h1, h2, he⟩ hs hm h0).mono fun e w' ⟨q1, n', A', q0, q2, q3⟩ => ⟨q1, ⟨n', A', q0, q2.led, q2.ref⟩, q3⟩
theorem refO_start {B R : Nat} {w : World} (hB : B ≤ R) (h : w.heap[R]? = some (.cells #[.slice none 0 0] 39 (0, 0))) : RefO B w R 0 noA := ⟨.slice none 0 0, [], ⟨hB, h, by simp [flatA], .inl ⟨rfl, rfl⟩⟩, Row.nil, RisR.nil⟩
set_option maxRecDepth 20000 in
set_option maxHeartbeats 16000000 in
theorem ledgerPlays_any (A : Option Addr) (n cap : Nat) (ops : List OpD) (w : World) (hs : SlO w A n ops) (hn : n ≤ maxLen) (hsz : ∀ x ∈ ops, x.n ≤ 281474976710656) :
    Calls Try.prog 7 #[.slice A n cap] w fun e w' => e = .returned (.bool true) ∧ Below w.heap.size w w' := by
  have HS := hid hs
  have HSZ := hid hsz
  have HNM := hid hn
  clear hs hsz hn
  go_enter Try.func7, Try.ntmps7
  go_wp2_with fail
  refine (awake_any w).mono ?_
  rintro e w1 ⟨rfl, hb1⟩
  have B1 := hid hb1
  clear hb1
  go_wp2_with fail
  refine (few_yes A n cap ops w1 (HS.out.below B1.out) HNM.out HSZ.out).mono ?_
  rintro e w2 ⟨⟨b, rfl, hb⟩, hb2⟩
  have B2 := hid (B1.out.trans (hb2.mono B1.out.size))
  have HB := hid hb
  clear hb2 hb
  cases b with
  | false =>
    go_wp2_with fail
    refine (awake_any w2).mono ?_
    rintro e w3 ⟨rfl, hb3⟩
    have B3 := B2.out.trans (hb3.mono B2.out.size)
    go_wp2
    go_ret
    exact ⟨rfl, B3⟩
  | true =>
    obtain ⟨hlen, hon⟩ := HB.out rfl
    have HON := hid hon
    have hn400 : n ≤ 400 := by rw [HS.out.1]; exact hlen
    clear hlen hon
    go_wp2_with fail
    refine (new_b w2.heap.size w2 (Nat.le_refl _)).mono ?_
    rintro e w3 ⟨rfl, hb3, k3⟩
    have B3 := hid (B2.out.trans (hb3.mono B2.out.size))
    have K3 := hid k3
    have HB3 := hid hb3
    clear hb3 k3
    go_upto_region 5 with fail
    refine wp_name ?_
    intro w4 hw4
    have b4 : Below w3.heap.size w3 w4 := by rw [hw4]; exact (by repeat (first | with_reducible assumption | with_reducible exact Below.refl _ _ | with_reducible refine Below.drew ?_ | with_reducible refine below_drewN ?_ _ | with_reducible refine below_alloc ?_ _ | with_reducible refine Below.alloc ?_ (by first | omega | (simp; done) | (simp; omega)) _ | with_reducible refine Below.setCell ?_ (by first | omega | (simp; done) | (simp; omega)) _ | with_reducible refine below_setRow ?_ (by first | omega | (simp; done) | (simp; omega)) _))
    have X4 : w4.heap[w3.heap.size]? = some (.cells #[.slice none 0 0] 39 (0, 0)) := by rw [hw4]; exact at_of (by apply Exists.intro; refine ⟨?_, ?_⟩; (focus ((repeat (first | (with_reducible assumption) | (with_reducible exact alloc_at _ _) | ((with_reducible apply alloc_at'); (simp; done)) | (with_reducible apply alloc_at_lt) | (with_reducible apply heap_drew_at) | (with_reducible apply heap_drewN_at) | (with_reducible apply heap_setCell_same) | ((with_reducible apply heap_set_ne); (first | omega | (dsimp only; omega) | (simp; done) | (simp; omega))) | (with_reducible apply setRow_at) | ((with_reducible apply setRow_ne); (first | omega | (dsimp only; omega) | (simp; done) | (simp; omega))))))); simp)
    have B4 := hid (B3.out.trans (b4.mono B3.out.size))
    have P4 : Hid (PairL w2.heap.size w4 w2.heap.size w3.heap.size) := ⟨_, _, (fun k h => by simp [noA] at h), K3.out.below b4, refO_start HB3.out.size X4⟩
    have Z : Hid (w.heap.size ≤ w2.heap.size) := B2.out.size
    clear hw4 b4 X4
    obtain ⟨c, hc⟩ : ∃ c, c = w2.heap.size := ⟨_, rfl⟩
    obtain ⟨R, hR⟩ : ∃ R, R = w3.heap.size := ⟨_, rfl⟩
    rw [← hR] at P4 ⊢
    rw [← hc] at P4 Z ⊢
    clear hc hR K3 HB3 HB B3 B2 B1 w3 w2 w1
    go_wp2
    go_loopw [5] (fun i wr => ∃ k : Nat, k ≤ n ∧ i = .int .i64 k ∧ Hid (PairL c wr c R ∧ Below w.heap.size w wr)) (fun i _ => n - (intOf i).toNat)
    case atStart => exact ⟨0, Nat.zero_le _, rfl, P4.out, B4.out⟩
    case round =>
      obtain ⟨k, hk, rfl, hh⟩ := hrel
      have HP := hid hh.out.1
      have HBR := hid hh.out.2
      clear hh
      by_cases hkn : k < n
      · have HK : Hid (k + 1 ≤ n) := hkn
        have HM1 : Hid (n - (k + 1) < n - k) := by unfold Hid; omega
        have hki : (k : Int) < (n : Int) := by omega
        obtain ⟨o, b, off, hmem, rfl, z0, z1, z2, z3, z4, z5, z6, hname, hsl⟩ := HS.out.one HBR.out Z.out hkn
        have hlen := HON.out o hmem
        obtain ⟨kd, nm, ⟨a, b', c', d⟩, S, len, cp, l⟩ := o
        simp only at z0 z1 z2 z3 z4 z5 z6 hname hsl hlen
        have HST := hid (HP.out.step (n := 0) (cap := cp) hsl nm kd a b' c' d hname hlen)
        clear hk hkn hname hsl hmem hlen
        go_wp2_with fail
        refine HST.out.mono ?_
        rintro e w5 ⟨rfl, P5, b5⟩
        have HF : Hid (PairL c w5 c R ∧ Below w.heap.size w w5) := ⟨P5, HBR.out.trans (b5.mono Z.out)⟩
        clear P5 b5 HST z0 z1 z2 z3 z4 z5 z6
        go_wp2
        go_roundw
        case rel => exact ⟨k + 1, HK.out, by go_num, HF⟩
        case measure => have := HM1.out; simp [intOf]; omega
      · obtain rfl : k = n := by omega
        obtain ⟨m, Ac, hkey, hL, hR⟩ := HP.out
        obtain ⟨ls, hls, h7, h8, -, hrow⟩ := names_eq hL hR
        have HKY : Hid (∀ j, (h : j < ls.length) → ls[j].1.size ≤ maxLen) := fun j hj => by
          have h1 := hkey ls[j].1.data.toList (by
            rw [hrow.1.2.2]
            cases hl : look ls ls[j].1 with
            | some y => rfl
            | none => exact absurd (List.mem_map.2 ⟨ls[j], List.getElem_mem hj, rfl⟩) ((look_none ls _).1 hl))
          rw [Array.length_toList] at h1
          exact h1
        have hn64 := hL.1
        have H7 := hid h7
        have HL := hid hL
        have HR := hid hR.toB
        obtain ⟨q, hq⟩ : ∃ q, q = ls.length := ⟨_, rfl⟩
        have HQ := hid hq
        have hq64 : q ≤ 64 := by omega
        have HZ : Hid (c ≤ wr.heap.size) := HP.out.le
        clear h7 hL hR hls hq hkey hrow
        go_wp2_with fail
        refine (h8 wr (Below.refl _ _)).mono ?_
        rintro e w5 ⟨v5, rfl, r5, hb5⟩
        have B5 := hid hb5
        obtain ⟨A5, cap5, rfl⟩ := sliceS r5
        have HR5 := hid r5
        rw [← HQ.out]
        clear r5 hb5 hkn hk h8
        go_wp2_with fail
        go_loopw [7] (fun i w6 => ∃ j : Nat, j ≤ q ∧ i = .int .i64 j ∧ Hid (Below w5.heap.size w5 w6)) (fun i _ => q - (intOf i).toNat)
        case atStart => exact ⟨0, Nat.zero_le _, rfl, Below.refl _ _⟩
        case round =>
          obtain ⟨j, hj, rfl, B6⟩ := hrel
          have B56 := hid (B5.out.trans (B6.out.mono B5.out.size))
          by_cases hjq : j < q
          · have hji : (j : Int) < (q : Int) := by omega
            have HK1 : Hid (j + 1 ≤ q) := hjq
            have HM1 : Hid (q - (j + 1) < q - j) := by unfold Hid; omega
            obtain ⟨g, cap', e5, hg, hcell⟩ := rowS_cells HR5.out rfl (by have := HQ.out; omega)
            injection e5 with e5 e7 e6
            subst e5
            subst e6
            clear e7
            have hsz := HKY.out j (by have := HQ.out; omega)
            have z := (B6.out.cell (p := ⟨g, j, none⟩) hg).trans (hcell j (by have := HQ.out; omega))
            generalize ls[j].1 = s at hsz z
            have HU : Hid (∀ W, Below wr.heap.size wr W → Calls Try.prog 13 #[.pointer (some ⟨c, 0, none⟩), .string s] W fun e w' => e = .returned (.tuple #[vv (usedOf Ac s.data.toList), .int .i64 (if (Ac s.data.toList).isSome then 0 else 3)]) ∧ Below W.heap.size W w') := fun W hW => used_b c c m Ac s W ((HL.out.below B56.out).below hW) hsz
            have HV : Hid (∀ W, Below wr.heap.size wr W → Calls Try.prog 26 #[.pointer (some ⟨R, 0, none⟩), .string s] W fun e w' => e = .returned (.tuple #[vv (usedOf Ac s.data.toList), .int .i64 (if (Ac s.data.toList).isSome then 0 else 3)]) ∧ Below W.heap.size W w') := fun W hW => rused_b c R m Ac s W ((HR.out.below B56.out).below hW) hn64
            generalize (if (Ac s.data.toList).isSome = true then (0 : Int) else 3) = er at HU HV
            generalize usedOf Ac s.data.toList = v at HU HV
            obtain ⟨z0, z1, z2, z3⟩ := v
            simp only [vv] at HU HV
            have HE := hid (eqVt z0 z1 z2 z3)
            have hlg : g < wr.heap.size := Nat.lt_of_lt_of_le hg B6.out.size
            clear hcell hsz hjq hj
            go_wp2_with fail
            refine (HU.out _ (by repeat (first | with_reducible assumption | with_reducible exact Below.refl _ _ | with_reducible refine Below.drew ?_ | with_reducible refine below_drewN ?_ _ | with_reducible refine below_alloc ?_ _ | with_reducible refine Below.alloc ?_ (by first | omega | (simp; done) | (simp; omega)) _ | with_reducible refine Below.setCell ?_ (by first | omega | (simp; done) | (simp; omega)) _ | with_reducible refine below_setRow ?_ (by first | omega | (simp; done) | (simp; omega)) _))).mono ?_
            rintro e w7 ⟨rfl, hb7⟩
            have z7 := (hb7.cell (p := ⟨g, j, none⟩) hlg).trans z
            have hlg7 : g < w7.heap.size := Nat.lt_of_lt_of_le hlg hb7.size
            have HB7 := hid hb7
            clear z hb7
            go_upto_region 15 with fail
            refine wp_name ?_
            intro w8 hw8
            have b8 : Below w7.heap.size w7 w8 := by rw [hw8]; exact (by repeat (first | with_reducible assumption | with_reducible exact Below.refl _ _ | with_reducible refine Below.drew ?_ | with_reducible refine below_drewN ?_ _ | with_reducible refine below_alloc ?_ _ | with_reducible refine Below.alloc ?_ (by first | omega | (simp; done) | (simp; omega)) _ | with_reducible refine Below.setCell ?_ (by first | omega | (simp; done) | (simp; omega)) _ | with_reducible refine below_setRow ?_ (by first | omega | (simp; done) | (simp; omega)) _))
            have N8 : w8.heap[w7.heap.size]? = some (.cells #[.int .i64 z0, .int .i64 z1, .int .i64 z2, .int .i64 z3] 29 (0, 0)) := by rw [hw8]; exact at_of (by apply Exists.intro; refine ⟨?_, ?_⟩; (focus ((repeat (first | (with_reducible assumption) | (with_reducible exact alloc_at _ _) | ((with_reducible apply alloc_at'); (simp; done)) | (with_reducible apply alloc_at_lt) | (with_reducible apply heap_drew_at) | (with_reducible apply heap_drewN_at) | (with_reducible apply heap_setCell_same) | ((with_reducible apply heap_set_ne); (first | omega | (dsimp only; omega) | (simp; done) | (simp; omega))) | (with_reducible apply setRow_at) | ((with_reducible apply setRow_ne); (first | omega | (dsimp only; omega) | (simp; done) | (simp; omega))))))); simp)
            have z8 := (b8.cell (p := ⟨g, j, none⟩) hlg7).trans z7
            have hlg8 : g < w8.heap.size := Nat.lt_of_lt_of_le hlg7 b8.size
            have HB8 := hid (HB7.out.trans (b8.mono HB7.out.size))
            clear hw8 b8 z7
            go_wp2_with fail
            refine (HV.out _ HB8.out).mono ?_
            rintro e w9 ⟨rfl, hb9⟩
            have N9 := below_at hb9 (lt_of_at N8) N8
            have HB9 := hid (HB8.out.trans (hb9.mono HB8.out.size))
            have n0 : w9.cell? ⟨w7.heap.size, 0, none⟩ = some (.int .i64 z0) := (blk_cell N9 0).trans rfl
            have n1 : w9.cell? ⟨w7.heap.size, 1, none⟩ = some (.int .i64 z1) := (blk_cell N9 1).trans rfl
            have n2 : w9.cell? ⟨w7.heap.size, 2, none⟩ = some (.int .i64 z2) := (blk_cell N9 2).trans rfl
            have n3 : w9.cell? ⟨w7.heap.size, 3, none⟩ = some (.int .i64 z3) := (blk_cell N9 3).trans rfl
            have nl := lt_of_at N9
            have hE := HE.out
            clear hb9 z8 N8 N9 hlg hlg7 hlg8
            go_wp2
            go_roundw
            case rel => exact ⟨j + 1, HK1.out, by go_num, B6.out.trans (Below.mono (B := wr.heap.size) (HB9.out.trans (Below.mono (B := w9.heap.size) (by repeat (first | with_reducible assumption | with_reducible exact Below.refl _ _ | with_reducible refine Below.drew ?_ | with_reducible refine below_drewN ?_ _ | with_reducible refine below_alloc ?_ _ | with_reducible refine Below.alloc ?_ (by first | omega | (simp; done) | (simp; omega)) _ | with_reducible refine Below.setCell ?_ (by first | omega | (simp; done) | (simp; omega)) _ | with_reducible refine below_setRow ?_ (by first | omega | (simp; done) | (simp; omega)) _)) HB9.out.size)) B6.out.size)⟩
            case measure => have := HM1.out; simp [intOf]; omega
          · obtain rfl : j = q := by omega
            go_wp2_with fail
            refine (H7.out wr B56.out).mono ?_
            rintro e w7 ⟨v7, rfl, r7, hb7⟩
            have B57 := hid (B6.out.trans (hb7.mono B6.out.size))
            have HR7 := hid r7
            have HR57 := hid (ownsRow_at HR5.out (fun g hg => B57.out.block g (HR5.out.lt g hg).2))
            clear r7 hb7
            go_wp2_with fail
            have hq9 := HQ.out
            subst hq9
            refine (sameS_eq w7 v7 _ ls HR7.out HR57.out (by have := HQ.out; omega)).mono ?_
            rintro e w8 ⟨rfl, hb8⟩
            have B58 := hid (B57.out.trans (hb8.mono B57.out.size))
            clear hb8
            go_wp2
            go_ret
            exact ⟨rfl, HBR.out.trans (((B5.out.trans (B58.out.mono B5.out.size))).mono HBR.out.size)⟩
end Go.Proofs.Ytobgolceggeogaa
