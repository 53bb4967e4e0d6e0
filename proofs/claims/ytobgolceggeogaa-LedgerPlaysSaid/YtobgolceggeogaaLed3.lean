/- Contract of chapter 13's gathered: the sums of the entries, each under its name, or the error of the first check that fails. -/
import Derived.Test.YtobgolceggeogaaLed2
import Derived.Test.YtobgolceggeogaaLedS
import Derived.Lib.MinMax
namespace Go.Proofs.Ytobgolceggeogaa
open Go.RowKit
/-- The slice's cells hold the list of entries, five cells each. -/
def HoldsE (w : World) (b off : Nat) (l : List Ent) : Prop :=
  ∀ j, (h : j < l.length) → l[j].1.size ≤ maxLen ∧ w.cell? ⟨b, off + j * 5, none⟩ = some (.string l[j].1) ∧ w.cell? ⟨b, off + j * 5 + 1, none⟩ = some (.int .i64 l[j].2.1) ∧ w.cell? ⟨b, off + j * 5 + 2, none⟩ = some (.int .i64 l[j].2.2.1) ∧
    w.cell? ⟨b, off + j * 5 + 3, none⟩ = some (.int .i64 l[j].2.2.2.1) ∧ w.cell? ⟨b, off + j * 5 + 4, none⟩ = some (.int .i64 l[j].2.2.2.2)
theorem HoldsE.below {w w' : World} {b off : Nat} {l : List Ent} (h : HoldsE w b off l) (hb : b < w.heap.size) (hw : Below w.heap.size w w') : HoldsE w' b off l := by
  intro j hj
  obtain ⟨hs, h0, h1, h2, h3, h4⟩ := h j hj
  exact ⟨hs, by rw [hw.cell hb]; exact h0, by rw [hw.cell hb]; exact h1, by rw [hw.cell hb]; exact h2, by rw [hw.cell hb]; exact h3, by rw [hw.cell hb]; exact h4⟩
theorem HoldsE.at_world {w w' : World} {b off : Nat} {l : List Ent} (h : HoldsE w b off l) (e : w'.heap[b]? = w.heap[b]?) : HoldsE w' b off l := by
  have key : ∀ i, w'.cell? ⟨b, i, none⟩ = w.cell? ⟨b, i, none⟩ := fun i => World.cell?_of_block e
  intro j hj
  obtain ⟨hs, h0, h1, h2, h3, h4⟩ := h j hj
  exact ⟨hs, (key _).trans h0, (key _).trans h1, (key _).trans h2, (key _).trans h3, (key _).trans h4⟩
def okE (e : Ent) : Bool := okV e.2
def hasE (A : Acc) (e : Ent) : Bool := (A (nm e)).isSome
theorem gathE_eq (A : Acc) (l : List Ent) : gathE A l = if l.all okE = true then (if l.all (hasE A) = true then 0 else 3) else 4 := rfl
theorem gathE_form {A : Acc} {l : List Ent} (h : l.all okE = false) : gathE A l = 4 := by
  rw [gathE_eq, h]; rfl
theorem gathE_none {A : Acc} {l : List Ent} (h : l.all okE = true) (h2 : l.all (hasE A) = false) : gathE A l = 3 := by
  rw [gathE_eq, h, h2]; rfl
theorem gathE_ok {A : Acc} {l : List Ent} (h : l.all okE = true) (h2 : l.all (hasE A) = true) : gathE A l = 0 := by
  rw [gathE_eq, h, h2]; rfl
theorem allE_drop {l : List Ent} {p : Ent → Bool} {k : Nat} (hk : k < l.length) : (l.drop k).all p = (p l[k] && (l.drop (k + 1)).all p) := by
  rw [List.drop_eq_getElem_cons hk, List.all_cons]
/-- What gathered answers. -/
def Gathered (w w' : World) (A : Acc) (l : List Ent) (e : Ending) : Prop :=
  Below w.heap.size w w' ∧ (gathE A l ≠ 0 → e = .returned (.tuple #[.map none, .int .i64 (gathE A l)])) ∧
  (gathE A l = 0 → ∃ sb n', e = .returned (.tuple #[.map (some sb), .int .i64 0]) ∧ w.heap.size ≤ sb ∧ OwnsM w' Try.prog 9 vv sb n' (sumsOf l))
set_option maxHeartbeats 2000000 in
theorem gath_any (L n : Nat) (m : Option Nat) (A : Acc) (b off cap : Nat) (l : List Ent) (w : World) (hL : Led w L m n A) (hb : b < w.heap.size) (hm : l.length ≤ maxLen) (hl : HoldsE w b off l) :
    Calls Try.prog 30 #[.pointer (some ⟨L, 0, none⟩), .slice (some ⟨b, off, none⟩) l.length cap] w fun e w' => Gathered w w' A l e := by
  have hlt := led_lt hL
  have hm' : l.length ≤ 9223372036854775807 := by unfold maxLen at hm; omega
  have HM := hid hm
  have HL := hid hL
  clear hm hL
  have hmk : ∀ w', (Instr.makeMap 66 none).run Try.prog w' = .ok (.map (some w'.heap.size)) (w'.alloc (.map #[] 0)) := fun w' => run_makeMap _ w'
  go_enter Try.func30, Try.ntmps30
  go_wp2
  go_loopw [18] (fun i wr => ∃ k : Nat, k ≤ l.length ∧ i = .int .i64 k ∧ Hid (l.all okE = (l.drop k).all okE) ∧ Below w.heap.size w wr) (fun i _ => l.length - (intOf i).toNat)
  case atStart => exact ⟨0, Nat.zero_le _, rfl, rfl, Below.refl _ _⟩
  case round =>
    obtain ⟨k, hk, rfl, hall, hbel⟩ := hrel
    have hsz := hbel.size
    by_cases hlt : k < l.length
    · have hv := hl k hlt
      have hd := allE_drop (p := okE) hlt
      generalize l[k] = v at hv hd
      obtain ⟨s, x0, x1, x2, x3⟩ := v
      obtain ⟨hs, v, v0, v1, v2, v3⟩ := hv
      have cs : wr.cell? ⟨b, off + k * 5, none⟩ = some (.string s) := by rw [hbel.cell hb]; exact v
      have c0 : wr.cell? ⟨b, off + k * 5 + 1, none⟩ = some (.int .i64 x0) := by rw [hbel.cell hb]; exact v0
      have c1 : wr.cell? ⟨b, off + k * 5 + 2, none⟩ = some (.int .i64 x1) := by rw [hbel.cell hb]; exact v1
      have c2 : wr.cell? ⟨b, off + k * 5 + 3, none⟩ = some (.int .i64 x2) := by rw [hbel.cell hb]; exact v2
      have c3 : wr.cell? ⟨b, off + k * 5 + 4, none⟩ = some (.int .i64 x3) := by rw [hbel.cell hb]; exact v3
      have HD := hid hd
      clear hd v v0 v1 v2 v3 hs
      by_cases hf : formedB x0 x1 x2 x3 = true
      · go_wp2_with (go_at_call 29; refine (formed_any _ _ _ _ _).mono ?_; rintro e w2 ⟨rfl, hb2⟩; obtain ⟨hc2, hf2⟩ := bcell hb2)
        go_roundw
        case rel => exact ⟨k + 1, by omega, by go_num, by unfold Hid; rw [hall.out, HD.out]; simp [okE, okV, hf], (hbel.alloc (by omega) _).trans (hb2.mono (by simp; omega))⟩
        case measure => simp [intOf]; omega
      · have hf' : formedB x0 x1 x2 x3 = false := by simpa using hf
        clear hf
        go_wp2_with (go_at_call 29; refine (formed_any _ _ _ _ _).mono ?_; rintro e w2 ⟨rfl, hb2⟩; obtain ⟨hc2, hf2⟩ := bcell hb2)
        have hg : gathE A l = 4 := gathE_form (by rw [hall.out, HD.out]; simp [okE, okV, hf'])
        go_ret2
        exact ⟨(hbel.alloc (by omega) _).trans (hb2.mono (by simp; omega)), fun _ => (by rw [hg]; rfl), fun h => by rw [hg] at h; cases h⟩
    · obtain rfl : k = l.length := by omega
      have hall2 : Hid (l.all okE = true) := by unfold Hid; rw [hall.out]; simp
      clear hall
      obtain ⟨wo, rfl⟩ : ∃ wo : World, wo = wr := ⟨_, rfl⟩
      have hbw : Below w.heap.size w wo := hbel
      go_wp2
      go_loopw [30] (fun i wr => ∃ (k n' : Nat), k ≤ l.length ∧ i = .int .i64 k ∧ n' ≤ k ∧ Hid (l.all (hasE A) = (l.drop k).all (hasE A)) ∧ Below w.heap.size w wr ∧ Hid (OwnsM wr Try.prog 9 vv wo.heap.size n' (sumsOf (l.take k))) ∧ wo.heap.size < wr.heap.size) (fun i _ => l.length - (intOf i).toNat)
      case atStart => exact ⟨0, 0, Nat.zero_le _, rfl, Nat.le_refl _, rfl, (by repeat (first | with_reducible assumption | with_reducible exact Below.refl _ _ | with_reducible refine Below.drew ?_ | with_reducible refine below_drewN ?_ _ | with_reducible refine below_alloc ?_ _ | with_reducible refine Below.alloc ?_ (by first | omega | (simp; done) | (simp; omega)) _ | with_reducible refine Below.setCell ?_ (by first | omega | (simp; done) | (simp; omega)) _ | with_reducible refine below_setRow ?_ (by first | omega | (simp; done) | (simp; omega)) _)), OwnsM.made _ _ _ _, by simp⟩
      case round =>
        obtain ⟨k, n', hk, rfl, hn', hgo, hbel, hown, hsz2⟩ := hrel
        by_cases hlt : k < l.length
        · have hv := hl k hlt
          have hd := allE_drop (p := hasE A) hlt
          have hst := sumsOf_take hlt
          have hok : okE l[k] = true := List.all_eq_true.1 hall2.out _ (List.getElem_mem hlt)
          generalize l[k] = v at hv hd hok hst
          obtain ⟨s, x0, x1, x2, x3⟩ := v
          obtain ⟨hs, v, v0, v1, v2, v3⟩ := hv
          obtain ⟨⟨m0, n0⟩, ⟨m1, n1⟩, ⟨m2, n2⟩, ⟨m3, n3⟩⟩ := (okV_iff _).1 hok
          simp only at m0 n0 m1 n1 m2 n2 m3 n3
          have cs : wr.cell? ⟨b, off + k * 5, none⟩ = some (.string s) := by rw [hbel.cell hb]; exact v
          have c0 : wr.cell? ⟨b, off + k * 5 + 1, none⟩ = some (.int .i64 x0) := by rw [hbel.cell hb]; exact v0
          have c1 : wr.cell? ⟨b, off + k * 5 + 2, none⟩ = some (.int .i64 x1) := by rw [hbel.cell hb]; exact v1
          have c2 : wr.cell? ⟨b, off + k * 5 + 3, none⟩ = some (.int .i64 x2) := by rw [hbel.cell hb]; exact v2
          have c3 : wr.cell? ⟨b, off + k * 5 + 4, none⟩ = some (.int .i64 x3) := by rw [hbel.cell hb]; exact v3
          have HD := hid hd
          have HS := hid hs
          have HT := hid hst
          clear hd v v0 v1 v2 v3 hok hst hs
          have hLr := HL.out.below hbel
          have hg := fun o => get_any L n m A s (wr.alloc o) (hLr.below ((Below.refl _ _).alloc (Nat.le_refl _) o)) HS.out
          clear hLr
          cases hA : A s.data.toList with
          | none =>
            rw [hA] at hg
            simp only [Option.getD_none, Option.isSome_none, Bool.false_eq_true, if_false, acctV, zeroA, zeroV] at hg
            go_wp2_with (go_at_call 31; refine (hg _).mono ?_; rintro e w2 ⟨rfl, hb2⟩; obtain ⟨hc2, hf2⟩ := bcell hb2)
            have hg : gathE A l = 3 := gathE_none hall2.out (by rw [hgo.out, HD.out]; simp [hasE, nm, hA])
            go_ret2
            exact ⟨(Below.trans (hbel.alloc (by omega) _) (hb2.mono (by simp; omega))).alloc (by have := hb2.size; simp at this; omega) _, fun _ => (by rw [hg]; rfl), fun h => by rw [hg] at h; cases h⟩
          | some y =>
            obtain ⟨⟨y0, y1, y2, y3⟩, z0, z1, z2, z3⟩ := y
            rw [hA] at hg
            simp only [Option.getD_some, Option.isSome_some, if_true, acctV] at hg
            go_wp2_with fail
            refine (hg _).mono ?_
            rintro e w2 ⟨rfl, hb2⟩
            have hs2 := hb2.size
            simp only [World.size_alloc] at hs2
            have E2 : w2.heap[wr.heap.size]? = some (.cells #[.string s, .int .i64 x0, .int .i64 x1, .int .i64 x2, .int .i64 x3] 31 (0, 0)) := below_at hb2 (by simp) (by (repeat (first | (with_reducible assumption) | (with_reducible exact alloc_at _ _) | ((with_reducible apply alloc_at'); (simp; done)) | (with_reducible apply alloc_at_lt) | (with_reducible apply heap_drew_at) | (with_reducible apply heap_drewN_at) | (with_reducible apply heap_setCell_same) | ((with_reducible apply heap_set_ne); (first | omega | (dsimp only; omega) | (simp; done) | (simp; omega))) | (with_reducible apply setRow_at) | ((with_reducible apply setRow_ne); (first | omega | (dsimp only; omega) | (simp; done) | (simp; omega))))))
            have B2 : Below w.heap.size w w2 := (hbel.alloc (by omega) _).trans (hb2.mono (by simp; omega))
            have own2 : OwnsM w2 Try.prog 9 vv wo.heap.size n' (sumsOf (l.take k)) := OwnsM.at hown.out ((hb2.block _ (by simp; omega)).trans (Below.heap_alloc _ _ _ hsz2))
            have hso := (sumsOf_ok (all_take hall2.out k)).getD s.data.toList
            have hlook : ∀ o, (Instr.lookup 66 (.map (some wo.heap.size)) (.string s) false).run Try.prog (w2.alloc o) = .ok (vv ((sumsOf (l.take k) s.data.toList).getD zeroV)) (w2.alloc o) := fun o => OwnsM.look (OwnsM.at own2 (Below.heap_alloc _ _ _ (OwnsM.lt own2))) vv_inj Try.underlying9 Try.underlying66 (zero_vec _) HS.out
            obtain ⟨t, ht⟩ : ∃ t, t = (sumsOf (l.take k) s.data.toList).getD zeroV := ⟨_, rfl⟩
            rw [← ht] at hlook hso
            have HTT := hid ht
            clear ht
            obtain ⟨t0, t1, t2, t3⟩ := t
            unfold ok2 at hso
            obtain ⟨⟨p0, q0⟩, ⟨p1, q1⟩, ⟨p2, q2⟩, ⟨p3, q3⟩⟩ := hso
            simp only [vv] at hlook
            simp only at p0 q0 p1 q1 p2 q2 p3 q3
            have OWN2 := hid own2
            have HE2 := hid E2
            have es : w2.cell? ⟨wr.heap.size, 0, none⟩ = some (.string s) := (blk_cell E2 0).trans rfl
            have e0 : w2.cell? ⟨wr.heap.size, 1, none⟩ = some (.int .i64 x0) := (blk_cell E2 1).trans rfl
            have e1 : w2.cell? ⟨wr.heap.size, 2, none⟩ = some (.int .i64 x1) := (blk_cell E2 2).trans rfl
            have e2 : w2.cell? ⟨wr.heap.size, 3, none⟩ = some (.int .i64 x2) := (blk_cell E2 3).trans rfl
            have e3 : w2.cell? ⟨wr.heap.size, 4, none⟩ = some (.int .i64 x3) := (blk_cell E2 4).trans rfl
            have ef := blk_free E2
            have k2 : wr.heap.size < w2.heap.size := by omega
            clear own2 E2 hb2 hbel hown cs c0 c1 c2 c3 hg
            go_wp2
            refine wp_loop_rounds 5 ?_
            iterate 4 (rw [rounds_succ]; go_wp2)
            rw [rounds_succ]
            go_upto_region 20 with fail
            refine wp_name ?_
            intro w3 hw3
            have hE2 := HE2.out
            have S3 : w3.heap[w2.heap.size + 1]? = some (.cells #[.int .i64 (min (t0 + x0) 1099511627777), .int .i64 (min (t1 + x1) 1099511627777), .int .i64 (min (t2 + x2) 1099511627777), .int .i64 (min (t3 + x3) 1099511627777)] 29 (0, 0)) := by rw [hw3]; exact at_of (by apply Exists.intro; refine ⟨?_, ?_⟩; (focus ((repeat (first | (with_reducible assumption) | (with_reducible exact alloc_at _ _) | ((with_reducible apply alloc_at'); (simp; done)) | (with_reducible apply alloc_at_lt) | (with_reducible apply heap_drew_at) | (with_reducible apply heap_drewN_at) | (with_reducible apply heap_setCell_same) | ((with_reducible apply heap_set_ne); (first | omega | (dsimp only; omega) | (simp; done) | (simp; omega))) | (with_reducible apply setRow_at) | ((with_reducible apply setRow_ne); (first | omega | (dsimp only; omega) | (simp; done) | (simp; omega))))))); simp)
            have E3 : w3.heap[wr.heap.size]? = some (.cells #[.string s, .int .i64 x0, .int .i64 x1, .int .i64 x2, .int .i64 x3] 31 (0, 0)) := by rw [hw3]; exact (by (repeat (first | (with_reducible assumption) | (with_reducible exact alloc_at _ _) | ((with_reducible apply alloc_at'); (simp; done)) | (with_reducible apply alloc_at_lt) | (with_reducible apply heap_drew_at) | (with_reducible apply heap_drewN_at) | (with_reducible apply heap_setCell_same) | ((with_reducible apply heap_set_ne); (first | omega | (dsimp only; omega) | (simp; done) | (simp; omega))) | (with_reducible apply setRow_at) | ((with_reducible apply setRow_ne); (first | omega | (dsimp only; omega) | (simp; done) | (simp; omega))))))
            have B3 : Below w2.heap.size w2 w3 := by rw [hw3]; exact (by repeat (first | with_reducible assumption | with_reducible exact Below.refl _ _ | with_reducible refine Below.drew ?_ | with_reducible refine below_drewN ?_ _ | with_reducible refine below_alloc ?_ _ | with_reducible refine Below.alloc ?_ (by first | omega | (simp; done) | (simp; omega)) _ | with_reducible refine Below.setCell ?_ (by first | omega | (simp; done) | (simp; omega)) _ | with_reducible refine below_setRow ?_ (by first | omega | (simp; done) | (simp; omega)) _))
            clear hw3 es e0 e1 e2 e3 ef hE2
            have es : w3.cell? ⟨wr.heap.size, 0, none⟩ = some (.string s) := (blk_cell E3 0).trans rfl
            obtain ⟨f0, f1, f2, f3, ff⟩ := four S3
            have own3 : OwnsM w3 Try.prog 9 vv wo.heap.size n' (sumsOf (l.take k)) := OwnsM.at OWN2.out (B3.block _ (OwnsM.lt OWN2.out))
            obtain ⟨w4, hrun, ho4, hg4, hs4⟩ := OwnsM.store own3 vv_inj Try.underlying9 Try.underlying66 (Nat.lt_of_le_of_lt hn' (Nat.lt_of_lt_of_le hlt HM.out)) HS.out (capV (t0, t1, t2, t3) (x0, x1, x2, x3))
            simp only [vv, capV, cap1] at hrun
            have s3 := B3.size
            clear own3
            go_wp2
            go_roundw
            case rel =>
              refine ⟨k + 1, (if (sumsOf (l.take k) s.data.toList).isSome = true then n' else n' + 1), by omega, by go_num, ?_, ?_, ?_, ?_, by omega⟩
              rotate_left 3
              · have : sumsOf (l.take (k + 1)) = putA (sumsOf (l.take k)) s.data.toList (capV (t0, t1, t2, t3) (x0, x1, x2, x3)) := by rw [HT.out, HTT.out]; rfl
                rw [this]
                exact ho4
              · split <;> omega
              · unfold Hid; rw [hgo.out, HD.out]; simp [hasE, nm, hA]
              · exact (B2.trans (B3.mono B2.size)).trans (below_grown hg4 (by omega) (fun j e => by cases e; exact hbw.size))
            case measure => simp [intOf]; omega
        · obtain rfl : k = l.length := by omega
          have hg : gathE A l = 0 := gathE_ok hall2.out (by rw [hgo.out]; simp)
          go_wp2
          go_ret2
          refine ⟨hbel, fun h => absurd hg h, fun _ => ⟨_, n', rfl, hbw.size, ?_⟩⟩
          have := hown.out
          rwa [List.take_length] at this
set_option maxHeartbeats 2000000 in
theorem gath_nil (L n : Nat) (m : Option Nat) (A : Acc) (Ao : Option Addr) (cap : Nat) (w : World) (hL : Led w L m n A) :
    Calls Try.prog 30 #[.pointer (some ⟨L, 0, none⟩), .slice Ao 0 cap] w fun e w' => Gathered w w' A [] e := by
  have hmk : ∀ w', (Instr.makeMap 66 none).run Try.prog w' = .ok (.map (some w'.heap.size)) (w'.alloc (.map #[] 0)) := fun w' => run_makeMap _ w'
  clear hL
  go_enter Try.func30, Try.ntmps30
  go_wp2
  refine wp_loop_rounds 1 ?_
  rw [rounds_succ]
  go_wp2
  refine wp_loop_rounds 1 ?_
  rw [rounds_succ]
  go_wp2
  go_ret2
  exact ⟨(by repeat (first | with_reducible assumption | with_reducible exact Below.refl _ _ | with_reducible refine Below.drew ?_ | with_reducible refine below_drewN ?_ _ | with_reducible refine below_alloc ?_ _ | with_reducible refine Below.alloc ?_ (by first | omega | (simp; done) | (simp; omega)) _ | with_reducible refine Below.setCell ?_ (by first | omega | (simp; done) | (simp; omega)) _ | with_reducible refine below_setRow ?_ (by first | omega | (simp; done) | (simp; omega)) _)), fun h => absurd rfl h, fun _ => ⟨_, 0, rfl, Nat.le_refl _, OwnsM.made _ _ _ _⟩⟩
/-- The slice holds the list: its cells, or there is none. -/
def SlE (w : World) (S : Option Addr) (len : Nat) (l : List Ent) : Prop := len = l.length ∧ (l = [] ∨ ∃ b off, S = some ⟨b, off, none⟩ ∧ b < w.heap.size ∧ HoldsE w b off l)
theorem SlE.below {w w' : World} {S : Option Addr} {len : Nat} {l : List Ent} (h : SlE w S len l) (hw : Below w.heap.size w w') : SlE w' S len l := by
  obtain ⟨h0, h | ⟨b, off, e, hb, h⟩⟩ := h
  · exact ⟨h0, .inl h⟩
  · exact ⟨h0, .inr ⟨b, off, e, Nat.lt_of_lt_of_le hb hw.size, h.below hb hw⟩⟩
theorem gath_all (L n : Nat) (m : Option Nat) (A : Acc) (S : Option Addr) (len cap : Nat) (l : List Ent) (w : World) (hL : Led w L m n A) (hm : l.length ≤ maxLen) (hl : SlE w S len l) :
    Calls Try.prog 30 #[.pointer (some ⟨L, 0, none⟩), .slice S len cap] w fun e w' => Gathered w w' A l e := by
  obtain ⟨rfl, rfl | ⟨b, off, rfl, hb, hl⟩⟩ := hl
  · exact gath_nil L n m A S cap w hL
  · exact gath_any L n m A b off cap l w hL hb hm hl
end Go.Proofs.Ytobgolceggeogaa
