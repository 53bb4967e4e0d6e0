/- Chapter 13's reference at lists of entries: sum, wrong; and its Names. -/
import Derived.Test.YtobgolceggeogaaRefN
import Derived.Test.YtobgolceggeogaaLed3
import Derived.IntWalk
namespace Go.Proofs.Ytobgolceggeogaa
open Go.RowKit
/-- One resource of a vector. -/
def cmpV (v : V) : Nat → Int
  | 0 => v.1
  | 1 => v.2.1
  | 2 => v.2.2.1
  | _ => v.2.2.2
theorem cmpV_ok {v : V} (h : okV v = true) (i : Nat) : 0 ≤ cmpV v i ∧ cmpV v i ≤ 1099511627776 := by
  obtain ⟨h0, h1, h2, h3⟩ := (okV_iff _).1 h
  unfold cmpV
  split
  · exact ⟨h0.1, h0.2⟩
  · exact ⟨h1.1, h1.2⟩
  · exact ⟨h2.1, h2.2⟩
  · exact ⟨h3.1, h3.2⟩
def sumF (s : ByteArray) (i : Nat) (n : Int) (e : Ent) : Int := if n ≤ 2199023255552 ∧ e.1 = s then n + cmpV e.2 i else n
/-- What the entries of a name come to, of one resource; it stops above twice the limit. -/
def sumI (l : List Ent) (s : ByteArray) (i : Nat) : Int := l.foldl (sumF s i) 0
theorem sumI_next {l : List Ent} {s : ByteArray} {i k : Nat} (h : k < l.length) : sumI (l.take (k + 1)) s i = sumF s i (sumI (l.take k) s i) l[k] := by
  have h1 : l.take (k + 1) = l.take k ++ [l[k]] := by rw [List.take_add_one, List.getElem?_eq_getElem h]; rfl
  unfold sumI
  rw [h1, List.foldl_append]
  rfl
theorem sumI_stop {l : List Ent} {s : ByteArray} {i k : Nat} (h : 2199023255552 < sumI (l.take k) s i) : sumI l s i = sumI (l.take k) s i := by
  have key : ∀ (r : List Ent) (n : Int), 2199023255552 < n → r.foldl (sumF s i) n = n := by
    intro r
    induction r with
    | nil => intro n _; rfl
    | cons e r ih =>
      intro n hn
      have : sumF s i n e = n := by unfold sumF; rw [if_neg (fun h => by omega)]
      rw [List.foldl_cons, this, ih n hn]
  conv => lhs; rw [← List.take_append_drop k l]
  unfold sumI at h ⊢
  rw [List.foldl_append]
  exact key _ _ h
set_option maxRecDepth 20000 in
set_option maxHeartbeats 4000000 in
theorem rsum_any (p off cap i : Nat) (s : ByteArray) (l : List Ent) (w : World) (hp : p < w.heap.size) (hl : HoldsE w p off l) (hi : i < 4) (hv : ∀ e ∈ l, okV e.2 = true) (hm : l.length ≤ 100000) :
    Calls Try.prog 34 #[.slice (some ⟨p, off, none⟩) l.length cap, .string s, .int .i64 i] w fun e w' => e = .returned (.int .i64 (sumI l s i)) ∧ Below w.heap.size w w' := by
  obtain ⟨r, hr⟩ : ∃ r, r = sumI l s i := ⟨_, rfl⟩
  rw [← hr]
  have HR := hid hr
  have HL := hid hl
  have HV := hid hv
  have HI := hid hi
  obtain ⟨n, hn⟩ : ∃ n, n = l.length := ⟨_, rfl⟩
  have HN := hid hn
  rw [← hn] at hm ⊢
  clear hr hl hv hn
  go_enter Try.func34, Try.ntmps34
  go_wp2_with fail
  go_loopw [7, 8] (fun s7 s8 wr => ∃ (k : Nat) (m : Int), k ≤ n ∧ s7 = .int .i64 m ∧ s8 = .int .i64 k ∧ Hid (m = sumI (l.take k) s i) ∧ Hid (0 ≤ m ∧ m ≤ 3298534883328) ∧ w = wr) (fun _ j _ => n - (intOf j).toNat)
  case atStart => exact ⟨0, 0, Nat.zero_le _, rfl, rfl, rfl, by unfold Hid; omega, rfl⟩
  case round =>
    obtain ⟨k, m, hkn, rfl, rfl, HM, HB, rfl⟩ := hrel
    have hm0 := HB.out.1
    have hm1 := HB.out.2
    by_cases hk : k < n
    · have ki : (k : Int) < (n : Int) := by omega
      have hkl : k < l.length := by have := HN.out; omega
      by_cases h2 : m ≤ 2199023255552
      · obtain ⟨-, q0, q1, q2, q3, q4⟩ := HL.out k hkl
        obtain ⟨hc0, hc1⟩ := cmpV_ok (HV.out l[k] (List.getElem_mem _)) i
        obtain ⟨x, hx⟩ : ∃ x, x = l[k] := ⟨_, rfl⟩
        have HSN : Hid (sumI (l.take (k + 1)) s i = sumF s i m x) := by unfold Hid; rw [sumI_next hkl, ← HM.out, ← hx]
        rw [← hx] at q0 q1 q2 q3 q4 hc0 hc1
        obtain ⟨x0, x1, x2, x3, x4⟩ := x
        simp only at q0 q1 q2 q3 q4 hc0 hc1
        have qi : w.cell? ⟨p, off + k * 5 + 1 + i, none⟩ = some (.int .i64 (cmpV (x1, x2, x3, x4) i)) := by
          have hi4 := HI.out
          match i, hi4 with
          | 0, _ => exact q1
          | 1, _ => exact q2
          | 2, _ => exact q3
          | 3, _ => exact q4
        obtain ⟨y, hy⟩ : ∃ y, y = cmpV (x1, x2, x3, x4) i := ⟨_, rfl⟩
        rw [← hy] at qi hc0 hc1
        have HY := hid hy
        have HK1 : Hid (k + 1 ≤ n) := hk
        have HM1 : Hid (n - (k + 1) < n - k) := by unfold Hid; omega
        have iw : IntKind.i64.wrap (m + y) = m + y := IntWalk.i64_in _ (by omega)
        have HB2 : Hid (0 ≤ m + y ∧ m + y ≤ 3298534883328) := by unfold Hid; omega
        have ii : (i : Int) < 4 := by omega
        clear hy hx q1 q2 q3 q4 hkl hkn
        by_cases he : x0 = s
        · subst he
          have HS2 : Hid (m + y = sumI (l.take (k + 1)) x0 i) := by
            unfold Hid
            rw [HSN.out, sumF, if_pos ⟨h2, rfl⟩, HY.out]
          go_wp2
          go_roundw
          case rel => exact ⟨k + 1, m + y, HK1.out, by go_num, by go_num, HS2, HB2, by first | trivial | rfl⟩
          case measure => have := HM1.out; simp [intOf]; omega
        · have hE := str_ne he
          have HS2 : Hid (m = sumI (l.take (k + 1)) s i) := by
            unfold Hid
            rw [HSN.out, sumF, if_neg (fun h => he h.2)]
          go_wp2
          go_roundw
          case rel => exact ⟨k + 1, m, HK1.out, by go_num, by go_num, HS2, HB, by first | trivial | rfl⟩
          case measure => have := HM1.out; simp [intOf]; omega
      · have HE : Hid (r = m) := by
          unfold Hid
          rw [HR.out, HM.out]
          exact sumI_stop (by rw [← HM.out]; omega)
        go_wp2
        go_ret
        exact ⟨by rw [HE.out]; rfl, Below.refl _ _⟩
    · have HE : Hid (r = m) := by
        unfold Hid
        rw [HR.out, HM.out, List.take_of_length_le (by have := HN.out; omega)]
      have ki : ¬ (k : Int) < (n : Int) := by omega
      go_wp2
      go_ret
      exact ⟨by rw [HE.out]; rfl, Below.refl _ _⟩
/-- wrong: the error of the first check that fails. -/
def wrongI (L : List RA) (l : List Ent) : Int := if l.all okE = true then (if l.all (fun e => decide (0 ≤ findI L e.1)) = true then 0 else 3) else 4
theorem all_next {l : List Ent} {f : Ent → Bool} {k : Nat} (h : k < l.length) (h1 : (l.take k).all f = true) (h2 : f l[k] = true) : (l.take (k + 1)).all f = true := by
  have e : l.take (k + 1) = l.take k ++ [l[k]] := by rw [List.take_add_one, List.getElem?_eq_getElem h]; rfl
  rw [e, List.all_append, h1]
  simp [h2]
theorem all_not {l : List Ent} {f : Ent → Bool} {k : Nat} (h : k < l.length) (h2 : f l[k] = false) : l.all f = false := by
  rw [List.all_eq_false]
  exact ⟨l[k], List.getElem_mem _, by simp [h2]⟩
set_option maxRecDepth 20000 in
set_option maxHeartbeats 4000000 in
theorem rwrong_any (B R : Nat) (v : Value) (L : List RA) (p off cap : Nat) (l : List Ent) (w : World) (hR : RefL B w R v L) (hL : L.length ≤ 100000) (hp : p < w.heap.size) (hl : HoldsE w p off l) (hm : l.length ≤ 100000) :
    Calls Try.prog 33 #[.pointer (some ⟨R, 0, none⟩), .slice (some ⟨p, off, none⟩) l.length cap] w fun e w' => e = .returned (.int .i64 (wrongI L l)) ∧ Below w.heap.size w w' := by
  obtain ⟨r, hr⟩ : ∃ r, r = wrongI L l := ⟨_, rfl⟩
  rw [← hr]
  have HR := hid hr
  have HL := hid hl
  have HRL := hid hR
  obtain ⟨n, hn⟩ : ∃ n, n = l.length := ⟨_, rfl⟩
  have HN := hid hn
  rw [← hn] at hm ⊢
  clear hr hl hn hR
  go_enter Try.func33, Try.ntmps33
  go_wp2_with fail
  go_loopw [5] (fun i wr => ∃ k : Nat, k ≤ n ∧ i = .int .i64 k ∧ Hid ((l.take k).all okE = true) ∧ Hid (Below w.heap.size w wr)) (fun i _ => n - (intOf i).toNat)
  case atStart => exact ⟨0, Nat.zero_le _, rfl, rfl, Below.refl _ _⟩
  case round =>
    obtain ⟨k, hkn, rfl, HA, HB⟩ := hrel
    by_cases hk : k < n
    · have ki : (k : Int) < (n : Int) := by omega
      have hkl : k < l.length := by have := HN.out; omega
      obtain ⟨-, q0, q1, q2, q3, q4⟩ := HL.out.below hp HB.out k hkl
      obtain ⟨x, hx⟩ : ∃ x, x = l[k] := ⟨_, rfl⟩
      rw [← hx] at q0 q1 q2 q3 q4
      have HX := hid hx
      have hpr : p < wr.heap.size := Nat.lt_of_lt_of_le hp HB.out.size
      obtain ⟨x0, x1, x2, x3, x4⟩ := x
      simp only at q0 q1 q2 q3 q4
      have HK1 : Hid (k + 1 ≤ n) := hk
      have HKL := hid hkl
      have HM1 : Hid (n - (k + 1) < n - k) := by unfold Hid; omega
      clear hx hkn
      cases ho : okV (x1, x2, x3, x4) with
      | true =>
        have hF : ∀ W, Calls Try.prog 22 #[.agg #[.int .i64 x1, .int .i64 x2, .int .i64 x3, .int .i64 x4]] W fun e w' => e = .returned (.bool true) ∧ Below W.heap.size W w' := fun W => by have h := rformed_any x1 x2 x3 x4 W; rw [show formedB x1 x2 x3 x4 = true from ho] at h; exact h
        have HA2 : Hid ((l.take (k + 1)).all okE = true) := all_next HKL.out HA.out (by rw [← HX.out]; exact ho)
        clear ho
        go_wp2_with fail
        refine (hF _).mono ?_
        rintro e w2 ⟨rfl, hb2⟩
        have HB2 : Hid (Below w.heap.size w w2) := HB.out.trans (hb2.mono HB.out.size)
        clear hb2 q0 q1 q2 q3 q4 hpr
        go_wp2
        go_roundw
        case rel => exact ⟨k + 1, HK1.out, by go_num, HA2, HB2⟩
        case measure => have := HM1.out; simp [intOf]; omega
      | false =>
        have hF : ∀ W, Calls Try.prog 22 #[.agg #[.int .i64 x1, .int .i64 x2, .int .i64 x3, .int .i64 x4]] W fun e w' => e = .returned (.bool false) ∧ Below W.heap.size W w' := fun W => by have h := rformed_any x1 x2 x3 x4 W; rw [show formedB x1 x2 x3 x4 = false from ho] at h; exact h
        have HE : Hid (r = 4) := by
          unfold Hid
          rw [HR.out, wrongI, all_not (f := okE) HKL.out (by rw [← HX.out]; exact ho)]
          rfl
        clear ho
        go_wp2_with fail
        refine (hF _).mono ?_
        rintro e w2 ⟨rfl, hb2⟩
        have HB2 : Hid (Below w.heap.size w w2) := HB.out.trans (hb2.mono HB.out.size)
        clear hb2 q0 q1 q2 q3 q4 hpr
        go_wp2
        go_ret
        exact ⟨by rw [HE.out]; rfl, HB2.out⟩
    · have ki : ¬ (k : Int) < (n : Int) := by omega
      have HAL : Hid (l.all okE = true) := by
        have := HA.out
        rwa [List.take_of_length_le (by have := HN.out; omega)] at this
      clear hkn hk
      go_wp2_with fail
      clear ki
      go_loopw [6] (fun i wr => ∃ k : Nat, k ≤ n ∧ i = .int .i64 k ∧ Hid ((l.take k).all (fun e => decide (0 ≤ findI L e.1)) = true) ∧ Hid (Below w.heap.size w wr)) (fun i _ => n - (intOf i).toNat)
      case atStart => exact ⟨0, Nat.zero_le _, rfl, rfl, HB⟩
      case round =>
        clear HA HB
        obtain ⟨k, hkn, rfl, HA, HB⟩ := hrel
        by_cases hk : k < n
        · have ki : (k : Int) < (n : Int) := by omega
          have hkl : k < l.length := by have := HN.out; omega
          obtain ⟨-, q0, -⟩ := HL.out.below hp HB.out k hkl
          obtain ⟨x, hx⟩ : ∃ x, x = l[k] := ⟨_, rfl⟩
          rw [← hx] at q0
          have HX := hid hx
          obtain ⟨x0, xv⟩ := x
          simp only at q0
          have hpr : p < wr.heap.size := Nat.lt_of_lt_of_le hp HB.out.size
          have HK1 : Hid (k + 1 ≤ n) := hk
          have HKL := hid hkl
          have HM1 : Hid (n - (k + 1) < n - k) := by unfold Hid; omega
          clear hx hkn
          go_wp2_with fail
          refine (rfind_any B R v L x0 wr (HRL.out.below HB.out) hL).mono ?_
          rintro e w2 ⟨rfl, hb2⟩
          have HB2 : Hid (Below w.heap.size w w2) := HB.out.trans (hb2.mono HB.out.size)
          have hge := findI_ge L x0
          obtain ⟨f, hf⟩ : ∃ f, f = findI L x0 := ⟨_, rfl⟩
          rw [← hf] at hge ⊢
          have HFF := hid hf
          clear hb2 q0 hpr hf
          by_cases h0 : f < 0
          · have HE : Hid (r = 3) := by
              unfold Hid
              rw [HR.out, wrongI, HAL.out, if_pos rfl, all_not (f := fun e => decide (0 ≤ findI L e.1)) HKL.out (by rw [← HX.out]; simp only; rw [← HFF.out]; simp; omega)]
              rfl
            go_wp2
            go_ret
            exact ⟨by rw [HE.out]; rfl, HB2.out⟩
          · have HA2 : Hid ((l.take (k + 1)).all (fun e => decide (0 ≤ findI L e.1)) = true) := all_next HKL.out HA.out (by rw [← HX.out]; simp only; rw [← HFF.out]; simp; omega)
            go_wp2
            go_roundw
            case rel => exact ⟨k + 1, HK1.out, by go_num, HA2, HB2⟩
            case measure => have := HM1.out; simp [intOf]; omega
        · have ki : ¬ (k : Int) < (n : Int) := by omega
          have HE : Hid (r = 0) := by
            have := HA.out
            rw [List.take_of_length_le (by have := HN.out; omega)] at this
            unfold Hid
            rw [HR.out, wrongI, HAL.out, this]
            rfl
          go_wp2
          go_ret
          exact ⟨by rw [HE.out]; rfl, HB.out⟩
end Go.Proofs.Ytobgolceggeogaa
