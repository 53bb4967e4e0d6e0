/- Chapter 1: contracts of the program's Check and Name. -/
import Derived.Test.YtidcbcljeofooaaGreatDoorProg
import Derived.Test.YtidcbcljeofooaaGreatDoorCls
import Derived.Test.YtidcbcljeofooaaGreatDoorRunP
import Derived.Shelf.Unicode.DecodeSlow
import Derived.Deep.Upon
import Derived.IntWalk
import Derived.OwnWalk
import Derived.Laws.RangeAny
namespace Go.Proofs.YtidcbcljeofooaaGreatDoor
open Go.RowKit
/-- The iterator at block b stands at place p. -/
def itAt (w : World) (b : Nat) (s : ByteArray) (p : Nat) : World := { w with heap := w.heap.setIfInBounds b (.stringIter s p) }
theorem itAt_heap {w : World} {b : Nat} {s : ByteArray} {p : Nat} (h : b < w.heap.size) : (itAt w b s p).heap[b]? = some (.stringIter s p) := by
  unfold itAt; simp [h]
theorem itAt_below {w : World} {b : Nat} {s : ByteArray} {p : Nat} : Below b w (itAt w b s p) :=
  ⟨rfl, rfl, rfl, by simp [itAt], fun k hk => by simp [itAt, show ¬ b = k by omega]⟩
theorem next_more {w : World} {b : Nat} {s : ByteArray} {p : Nat} {ty : TypeId} (h : w.heap[b]? = some (.stringIter s p)) (hp : p < s.size) :
    (Instr.next (.pointer (some ⟨b, 0, none⟩)) true ty).run Tryz.prog w = .ok (.tuple #[.bool true, .int .i64 p, .int .i32 (Utf8.decode s p).1]) (itAt w b s (p + (Utf8.decode s p).2)) := by
  simp only [Instr.next, getObj, setObj, Sem.run_bind, Sem.run, h, Result.andThen, hp, if_true]
  simp [goInt, itAt]
theorem next_over {w : World} {b : Nat} {s : ByteArray} {p : Nat} {ty : TypeId} (h : w.heap[b]? = some (.stringIter s p)) (hp : ¬ p < s.size) :
    (Instr.next (.pointer (some ⟨b, 0, none⟩)) true ty).run Tryz.prog w = .ok (.tuple #[.bool false]) w := by
  simp only [Instr.next, getObj, Sem.run_bind, Sem.run, h, Result.andThen, hp, if_false]
  simp
/-- A range over s under way: its iterator lies at block b. -/
structure It (w wr : World) (b : Nat) (s : ByteArray) (p : Nat) : Prop where
  bel : Below b w wr
  it : wr.heap[b]? = some (.stringIter s p)
  le : p ≤ s.size
theorem It.pos {w wr : World} {b : Nat} {s : ByteArray} {p : Nat} (h : It w wr b s p) : wr.iterPos b = p := by unfold World.iterPos; rw [h.it]
theorem It.on {w wr : World} {b : Nat} {s : ByteArray} {p : Nat} (h : It w wr b s p) (hp : p < s.size) : It w (itAt wr b s (p + (Utf8.decode s p).2)) b s (p + (Utf8.decode s p).2) :=
  ⟨h.bel.trans itAt_below, itAt_heap (lt_of_at h.it), dec_le hp⟩
theorem It.below {w wr w' : World} {b : Nat} {s : ByteArray} {p : Nat} (h : It w wr b s p) (hb : Below wr.heap.size wr w') : It w w' b s p :=
  ⟨h.bel.trans (hb.mono (Nat.le_of_lt (lt_of_at h.it))), (hb.block b (lt_of_at h.it)).trans h.it, h.le⟩
theorem dec_max (s : ByteArray) (p : Nat) : (Utf8.decode s p).1 ≤ 2147483647 := decode_le s p
theorem size_le {s : ByteArray} (h : s.size ≤ maxLen) : s.size ≤ 9223372036854775807 := by unfold maxLen at h; omega
set_option maxHeartbeats 1000000 in
theorem check_any (s : ByteArray) (w : World) (hs : s.size ≤ maxLen) (hdec : ∀ i W, Below w.heap.size w W → i < s.size → Calls Tryz.prog 75 #[.string (s.extract i s.size)] W fun e w' => e = .returned (.tuple #[.int .i32 (Utf8.decode s i).1, .int .i64 (Utf8.decode s i).2]) ∧ Below W.heap.size W w') :
    Calls Tryz.prog 50 #[.string s] w fun e w' => e = .returned (.tuple #[.int .i64 (chkA s 0 0).1, .int .i64 (chkA s 0 0).2.1, .int .i64 (chkA s 0 0).2.2]) ∧ Below w.heap.size w w' := by
  have hsz := size_le hs
  have HD := hid hdec
  clear hs hdec
  go_enter Tryz.func50, Tryz.ntmps50
  go_wp2
  go_loopw [5] (fun c wr => ∃ p n : Nat, c = .int .i64 n ∧ n ≤ p ∧ Hid (It w wr w.heap.size s p) ∧ Hid (chkA s p n = chkA s 0 0)) (fun _ wr => s.size - wr.iterPos w.heap.size)
  case atStart => exact ⟨0, 0, rfl, Nat.le_refl _, ⟨below_alloc (Below.refl _ _) _, World.iter_heap w s 0, Nat.zero_le _⟩, rfl⟩
  case round =>
    obtain ⟨p, n, rfl, hnp, HI, HC⟩ := hrel
    by_cases hp : p < s.size
    · have hnx := fun ty => next_more (ty := ty) HI.out.it hp
      have HI2 := hid (HI.out.on hp)
      have hmx := dec_max s p
      obtain ⟨c, k, hck⟩ : ∃ c k, Utf8.decode s p = (c, k) := ⟨_, _, rfl⟩
      have HK := hid hck
      have HPK : Hid (1 ≤ k ∧ p + k ≤ s.size) := by have h1 := dec_pos hp; have h2 := dec_le hp; rw [hck] at h1 h2; exact ⟨h1, h2⟩
      rw [hck] at hnx HI2 hmx
      simp only at hnx HI2 hmx
      have HP : Hid (p < s.size ∧ n ≤ p) := ⟨hp, hnp⟩
      obtain ⟨w2, hw2⟩ : ∃ w2, w2 = itAt wr w.heap.size s (p + k) := ⟨_, rfl⟩
      rw [← hw2] at hnx HI2
      have hpi : (p : Int) ≤ (s.size : Int) := by omega
      have iw : IntKind.i64.wrap ((n : Int) + 1) = (n : Int) + 1 := IntWalk.i64_in _ (by omega)
      have HI' := HI
      clear hck hw2 hp HI
      by_cases hc : c = 65533
      · subst hc
        go_wp2_with fail
        refine (HD.out p _ (HI2.out.bel) HP.out.1).mono ?_
        rintro e w3 ⟨rfl, hb3⟩
        rw [HK.out]
        have HI3 := hid (HI2.out.below hb3)
        clear hb3 hnx
        by_cases hk : k = 1
        · subst hk
          have HR : Hid (chkA s 0 0 = (0, p, 12)) := by unfold Hid; rw [← HC.out]; exact chkA_bad HP.out.1 HK.out
          go_wp2
          go_ret3
          refine ⟨?_, HI3.out.bel⟩
          rw [HR.out]
          rfl
        · have hki : ¬ (k : Int) = 1 := by omega
          have HR : Hid (chkA s (p + k) (n + 1) = chkA s 0 0) := by
            unfold Hid
            rw [← HC.out, chkA_step (n := n) HP.out.1 (by rw [HK.out]; simp [hk]) (by rw [HK.out]; simp), HK.out]
          go_wp2
          go_roundw
          case rel => exact ⟨p + k, n + 1, by go_num, by have := HP.out.2; have := HPK.out.1; omega, HI3.out, HR.out⟩
          case measure => rw [HI3.out.pos, HI'.out.pos]; have := HPK.out; omega
      · have hci : ¬ (c : Int) = 65533 := by omega
        have hnd : Utf8.decode s p ≠ (65533, 1) := by rw [HK.out]; simp [hc]
        by_cases hf : c < 32 ∨ c = 127
        · have HR : Hid (chkA s 0 0 = (0, p, 4)) := by unfold Hid; rw [← HC.out]; exact chkA_form HP.out.1 hnd (by rw [HK.out]; exact hf)
          clear hnd
          by_cases hf1 : c < 32
          · have hf1i : (c : Int) < 32 := by omega
            clear hf
            go_wp2
            go_ret3
            refine ⟨?_, HI2.out.bel⟩
            rw [HR.out]
            rfl
          · obtain rfl : c = 127 := by omega
            clear hf
            go_wp2
            go_ret3
            refine ⟨?_, HI2.out.bel⟩
            rw [HR.out]
            rfl
        · have hf1 : ¬ (c : Int) < 32 := by omega
          have hf2 : ¬ (c : Int) = 127 := by omega
          have HR : Hid (chkA s (p + k) (n + 1) = chkA s 0 0) := by
            unfold Hid
            rw [← HC.out, chkA_step (n := n) HP.out.1 hnd (by rw [HK.out]; exact hf), HK.out]
          clear hnd hf
          go_wp2
          go_roundw
          case rel => exact ⟨p + k, n + 1, by go_num, by have := HP.out.2; have := HPK.out.1; omega, HI2.out, HR.out⟩
          case measure => rw [HI2.out.pos, HI'.out.pos]; have := HPK.out; omega
    · have hnx := fun ty => next_over (ty := ty) HI.out.it hp
      have HR : Hid (chkA s 0 0 = (n, 0, 0)) := by unfold Hid; rw [← HC.out]; exact chkA_end hp
      clear hp
      go_wp2
      go_ret3
      refine ⟨?_, HI.out.bel⟩
      rw [HR.out]
      rfl
theorem inName_iff (c : Nat) : inName c = true ↔ (97 ≤ c ∧ c ≤ 122) ∨ (48 ≤ c ∧ c ≤ 57) ∨ c = 45 ∨ c = 95 ∨ (945 ≤ c ∧ c ≤ 969) := by
  unfold inName
  simp only [Bool.or_eq_true, Bool.and_eq_true, decide_eq_true_eq, beq_iff_eq]
  omega
set_option maxHeartbeats 2000000 in
theorem name_any (s : ByteArray) (w : World) (hs : s.size ≤ maxLen) :
    Calls Tryz.prog 39 #[.string s] w fun e w' => e = .returned (.bool (nameB s)) ∧ Below w.heap.size w w' := by
  have hsz := size_le hs
  clear hs
  go_enter Tryz.func39, Tryz.ntmps39
  go_wp2
  go_loopw [3] (fun c wr => ∃ p n : Nat, c = .int .i64 n ∧ n ≤ p ∧ Hid (It w wr w.heap.size s p) ∧ Hid (nmsA s p n = nmsA s 0 0)) (fun _ wr => s.size - wr.iterPos w.heap.size)
  case atStart => exact ⟨0, 0, rfl, Nat.le_refl _, ⟨below_alloc (Below.refl _ _) _, World.iter_heap w s 0, Nat.zero_le _⟩, rfl⟩
  case round =>
    obtain ⟨p, n, rfl, hnp, HI, HC⟩ := hrel
    by_cases hp : p < s.size
    · have hnx := fun ty => next_more (ty := ty) HI.out.it hp
      have HI2 := hid (HI.out.on hp)
      have hmx := dec_max s p
      obtain ⟨c, k, hck⟩ : ∃ c k, Utf8.decode s p = (c, k) := ⟨_, _, rfl⟩
      have HK := hid hck
      have HPK : Hid (1 ≤ k ∧ p + k ≤ s.size) := by have h1 := dec_pos hp; have h2 := dec_le hp; rw [hck] at h1 h2; exact ⟨h1, h2⟩
      rw [hck] at hnx HI2 hmx
      simp only at hnx HI2 hmx
      have HP : Hid (p < s.size ∧ n ≤ p) := ⟨hp, hnp⟩
      obtain ⟨w2, hw2⟩ : ∃ w2, w2 = itAt wr w.heap.size s (p + k) := ⟨_, rfl⟩
      rw [← hw2] at hnx HI2
      have iw : IntKind.i64.wrap ((n : Int) + 1) = (n : Int) + 1 := IntWalk.i64_in _ (by omega)
      have HI' := HI
      clear hck hw2 hp HI hnp
      cases hc : inName c with
      | true =>
        have HR : Hid (nmsA s (p + k) (n + 1) = nmsA s 0 0) := by
          unfold Hid
          rw [← HC.out, nmsA_eq s p n, if_pos HP.out.1, HK.out, if_pos hc]
        have hcc := (inName_iff c).1 hc
        clear hc hmx
        rcases hcc with ⟨h1, h2⟩ | ⟨h1, h2⟩ | rfl | rfl | ⟨h1, h2⟩
        · have a1 : (97 : Int) ≤ (c : Int) := by omega
          have a2 : (c : Int) ≤ 122 := by omega
          clear h1 h2
          go_wp2
          go_roundw
          case rel => exact ⟨p + k, n + 1, by go_num, by have := HP.out.2; have := HPK.out.1; omega, HI2.out, HR.out⟩
          case measure => rw [HI2.out.pos, HI'.out.pos]; have := HPK.out; omega
        · have a0 : ¬ (97 : Int) ≤ (c : Int) := by omega
          have a1 : (48 : Int) ≤ (c : Int) := by omega
          have a2 : (c : Int) ≤ 57 := by omega
          clear h1 h2
          go_wp2
          go_roundw
          case rel => exact ⟨p + k, n + 1, by go_num, by have := HP.out.2; have := HPK.out.1; omega, HI2.out, HR.out⟩
          case measure => rw [HI2.out.pos, HI'.out.pos]; have := HPK.out; omega
        · go_wp2
          go_roundw
          case rel => exact ⟨p + k, n + 1, by go_num, by have := HP.out.2; have := HPK.out.1; omega, HI2.out, HR.out⟩
          case measure => rw [HI2.out.pos, HI'.out.pos]; have := HPK.out; omega
        · go_wp2
          go_roundw
          case rel => exact ⟨p + k, n + 1, by go_num, by have := HP.out.2; have := HPK.out.1; omega, HI2.out, HR.out⟩
          case measure => rw [HI2.out.pos, HI'.out.pos]; have := HPK.out; omega
        · have a0 : (97 : Int) ≤ (c : Int) := by omega
          have a1 : ¬ (c : Int) ≤ 122 := by omega
          have a2 : (48 : Int) ≤ (c : Int) := by omega
          have a3 : ¬ (c : Int) ≤ 57 := by omega
          have a4 : ((c : Int) == 45) = false := by simp; omega
          have a5 : ((c : Int) == 95) = false := by simp; omega
          have a6 : (945 : Int) ≤ (c : Int) := by omega
          have a7 : (c : Int) ≤ 969 := by omega
          clear h1 h2
          go_wp2
          go_roundw
          case rel => exact ⟨p + k, n + 1, by go_num, by have := HP.out.2; have := HPK.out.1; omega, HI2.out, HR.out⟩
          case measure => rw [HI2.out.pos, HI'.out.pos]; have := HPK.out; omega
      | false =>
        have HR : Hid (nameB s = false) := by
          unfold Hid nameB
          rw [← HC.out, nmsA_eq s p n, if_pos HP.out.1, HK.out, if_neg (by rw [hc]; simp)]
        have hcc : ¬ ((97 ≤ c ∧ c ≤ 122) ∨ (48 ≤ c ∧ c ≤ 57) ∨ c = 45 ∨ c = 95 ∨ (945 ≤ c ∧ c ≤ 969)) := fun h => by rw [(inName_iff c).2 h] at hc; cases hc
        have b4 : ((c : Int) == 45) = false := by simp; omega
        have b5 : ((c : Int) == 95) = false := by simp; omega
        clear hc hmx
        have q : c < 45 ∨ (45 < c ∧ c < 48) ∨ (57 < c ∧ c < 97) ∨ (122 < c ∧ c < 945) ∨ 969 < c := by omega
        clear hcc
        rcases q with q | q | q | q | q
        · have a1 : ¬ (97 : Int) ≤ (c : Int) := by omega
          have a2 : ¬ (48 : Int) ≤ (c : Int) := by omega
          have a3 : ¬ (945 : Int) ≤ (c : Int) := by omega
          clear q
          go_wp2
          go_ret
          exact ⟨by rw [HR.out]; rfl, HI2.out.bel⟩
        · have a1 : ¬ (97 : Int) ≤ (c : Int) := by omega
          have a2 : ¬ (48 : Int) ≤ (c : Int) := by omega
          have a3 : ¬ (945 : Int) ≤ (c : Int) := by omega
          clear q
          go_wp2
          go_ret
          exact ⟨by rw [HR.out]; rfl, HI2.out.bel⟩
        · have a1 : ¬ (97 : Int) ≤ (c : Int) := by omega
          have a2 : (48 : Int) ≤ (c : Int) := by omega
          have a4 : ¬ (c : Int) ≤ 57 := by omega
          have a3 : ¬ (945 : Int) ≤ (c : Int) := by omega
          clear q
          go_wp2
          go_ret
          exact ⟨by rw [HR.out]; rfl, HI2.out.bel⟩
        · have a1 : (97 : Int) ≤ (c : Int) := by omega
          have a0 : ¬ (c : Int) ≤ 122 := by omega
          have a2 : (48 : Int) ≤ (c : Int) := by omega
          have a4 : ¬ (c : Int) ≤ 57 := by omega
          have a3 : ¬ (945 : Int) ≤ (c : Int) := by omega
          clear q
          go_wp2
          go_ret
          exact ⟨by rw [HR.out]; rfl, HI2.out.bel⟩
        · have a1 : (97 : Int) ≤ (c : Int) := by omega
          have a0 : ¬ (c : Int) ≤ 122 := by omega
          have a2 : (48 : Int) ≤ (c : Int) := by omega
          have a4 : ¬ (c : Int) ≤ 57 := by omega
          have a3 : (945 : Int) ≤ (c : Int) := by omega
          have a5 : ¬ (c : Int) ≤ 969 := by omega
          clear q
          go_wp2
          go_ret
          exact ⟨by rw [HR.out]; rfl, HI2.out.bel⟩
    · have hnx := fun ty => next_over (ty := ty) HI.out.it hp
      have HR : Hid (nmsA s 0 0 = some n) := by unfold Hid; rw [← HC.out, nmsA_eq, if_neg hp]
      have HN : Hid (nameB s = (decide (1 ≤ n) && decide (n ≤ 16))) := by unfold Hid nameB; rw [HR.out]
      clear hp hnp
      by_cases h1 : 1 ≤ n
      · have a1 : (1 : Int) ≤ (n : Int) := by omega
        by_cases h2 : n ≤ 16
        · have a2 : (n : Int) ≤ 16 := by omega
          go_wp2
          go_ret
          refine ⟨?_, HI.out.bel⟩
          rw [HN.out]; simp [h1, h2]
        · have a2 : ¬ (n : Int) ≤ 16 := by omega
          go_wp2
          go_ret
          refine ⟨?_, HI.out.bel⟩
          rw [HN.out]; simp [h1, h2]
      · have a1 : ¬ (1 : Int) ≤ (n : Int) := by omega
        go_wp2
        go_ret
        refine ⟨?_, HI.out.bel⟩
        rw [HN.out]; simp [h1]
end Go.Proofs.YtidcbcljeofooaaGreatDoor
