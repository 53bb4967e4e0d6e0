/- Chapter 20: the program's reader: number. -/
import Derived.Test.YtidcbcljeofooaaGreatDoorRunA
import Derived.Test.YtidcbcljeofooaaGreatDoorOrD
namespace Go.Proofs.YtidcbcljeofooaaGreatDoor
open Go.RowKit
/-- The reader's block says b; nothing else has turned. -/
def Rdr (R : Nat) (b : Bool) (w w' : World) : Prop := w'.heap[R]? = some (.cells #[.bool b] 63 (0, 0)) ∧ w.grownBy w' (some R)
theorem Rdr.size {R : Nat} {b : Bool} {w w' : World} (h : Rdr R b w w') : w.heap.size ≤ w'.heap.size := h.2.size
theorem Rdr.trans {R : Nat} {b b' : Bool} {w w' w'' : World} (h : Rdr R b w w') (h' : Rdr R b' w' w'') : Rdr R b' w w'' :=
  ⟨h'.1, h'.2.os.trans h.2.os, h'.2.tape.trans h.2.tape, h'.2.output.trans h.2.output, Nat.le_trans h.size h'.size, fun k hk hn => (h'.2.block k (Nat.lt_of_lt_of_le hk h.size) hn).trans (h.2.block k hk hn)⟩
theorem rdr_below {R : Nat} {b : Bool} {w w' : World} (h : Below w.heap.size w w') (hR : w'.heap[R]? = some (.cells #[.bool b] 63 (0, 0))) : Rdr R b w w' := ⟨hR, h.os, h.tape, h.output, h.size, fun k hk _ => h.block k hk⟩
theorem rdr_set {R : Nat} {b b' : Bool} {w w' : World} (h : Rdr R b w w') : Rdr R b' w (w'.setCell ⟨R, 0, none⟩ (.bool b')) := by
  refine ⟨?_, h.2.os, h.2.tape, h.2.output, by simpa [World.setCell] using h.2.size, fun k hk hn => (Below.heap_setCell _ _ _ k (fun e => hn (by rw [e]))).trans (h.2.block k hk hn)⟩
  have := heap_setCell_same w' R 0 _ _ (.bool b') h.1
  simpa using this
theorem okN_bad {L : List UInt8} {p : Nat} {c : UInt8} (hp : L[p]? = some c) (h : isD c = false) : okN L = false := by
  cases h2 : okN L with
  | false => rfl
  | true =>
    rw [okN_iff, List.all_eq_true] at h2
    have := h2.1 c (List.mem_of_getElem? hp)
    rw [h] at this; cases this
theorem okN_zero {L : List UInt8} {p : Nat} (hp : p < L.length) (h0 : 0 < p) (h : L.getD 0 0 = 48) : okN L = false := by
  cases h2 : okN L with
  | false => rfl
  | true =>
    rw [okN_iff] at h2
    rcases h2.2.2.2 with q | q
    · omega
    · exact absurd h q
theorem okN_long {L : List UInt8} {p : Nat} (hp : p < L.length) (h : 13 ≤ p) : okN L = false := by
  cases h2 : okN L with
  | false => rfl
  | true => rw [okN_iff] at h2; omega
/-- How far a number has been read. -/
structure Nm (L : List UInt8) (p : Nat) : Prop where
  le : p ≤ L.length
  dig : (L.take p).all isD = true
  few : p ≤ 13
  lead : p ≤ 1 ∨ L.getD 0 0 ≠ 48
theorem Nm.next {L : List UInt8} {p : Nat} {c : UInt8} (h : Nm L p) (hc : L[p]? = some c) (hd : isD c = true) (h0 : p = 0 ∨ L.getD 0 0 ≠ 48) (h13 : p < 13) : Nm L (p + 1) ∧ valD (L.take (p + 1)) = 10 * valD (L.take p) + (c.toNat - 48) := by
  have hp := (List.getElem?_eq_some_iff.1 hc).1
  have e : L.take (p + 1) = L.take p ++ [c] := by rw [List.take_add_one, hc]; rfl
  refine ⟨⟨hp, ?_, h13, ?_⟩, by rw [e, valD_snoc]⟩
  · rw [e, List.all_append, h.dig]; simp [hd]
  · rcases h0 with q | q
    · left; omega
    · exact .inr q
theorem Nm.lt {L : List UInt8} {p : Nat} (h : Nm L p) : valD (L.take p) < 10000000000000 := by
  have h1 := valD_lt _ h.dig
  have h2 : (L.take p).length ≤ 13 := by rw [List.length_take]; have := h.few; omega
  have h3 : 10 ^ (L.take p).length ≤ 10 ^ 13 := Nat.pow_le_pow_right (by omega) h2
  omega
theorem Nm.done {L : List UInt8} (h : Nm L L.length) (h0 : 0 < L.length) : okN L = true ∧ valD (L.take L.length) = valD L := by
  rw [List.take_length]
  have hd := h.dig
  rw [List.take_length] at hd
  refine ⟨(okN_iff L).2 ⟨hd, h0, h.few, ?_⟩, rfl⟩
  rcases h.lead with q | q
  · left; omega
  · exact .inr q
/-- What a number answers. -/
def NumQ (R : Nat) (bad : Bool) (L : List UInt8) (w : World) (e : Ending) (w' : World) : Prop :=
  ∃ n : Int, e = .returned (.int .i64 n) ∧ (∀ m : Nat, numP L = some m → n = m) ∧ Rdr R (bad || (numP L).isNone) w w'
theorem numQ_bad {R : Nat} {bad : Bool} {L : List UInt8} {w w' : World} (h : okN L = false) (hw : Rdr R true w w') : NumQ R bad L w (.returned (.int .i64 0)) w' := by
  refine ⟨0, rfl, fun m hm => ?_, ?_⟩
  · rw [numP_none h] at hm; cases hm
  · rw [numP_none h]; simpa using hw
theorem dec_byte {s : ByteArray} {p : Nat} (_hp : p < s.size) : ((s.get! p).toNat < 128 ∧ Utf8.decode s p = ((s.get! p).toNat, 1)) ∨ (128 ≤ (s.get! p).toNat ∧ 128 ≤ (Utf8.decode s p).1) := by
  by_cases hv : Utf8.decode s p = (65533, 1)
  · by_cases h : (s.get! p).toNat < 128
    · left
      refine ⟨h, ?_⟩
      rw [Go.Lib.decode_at]
      unfold Go.Lib.decodeN
      rw [if_pos h]
    · right
      exact ⟨by omega, by rw [hv]; decide⟩
  · rcases dec_shape hv with ⟨h1, h2⟩ | ⟨h1, h2, -⟩
    · exact .inl ⟨h1, h2⟩
    · exact .inr ⟨h1, h2⟩
theorem get_idx (s : ByteArray) (i : Nat) (h : i < s.size) : s.get! i = s[i]'h := getElem!_pos s.data i h
theorem list_at {s : ByteArray} {p : Nat} (hp : p < s.size) : s.data.toList[p]? = some (s.get! p) := by
  have hl : p < s.data.toList.length := by simpa using hp
  rw [List.getElem?_eq_getElem hl, ← Go.Lib.getD_get!', List.getD_eq_getElem?_getD, List.getElem?_eq_getElem hl]; rfl
set_option maxHeartbeats 4000000 in
set_option maxRecDepth 20000 in
theorem number_any (s : ByteArray) (w : World) (R : Nat) (bad : Bool) (hR : w.heap[R]? = some (.cells #[.bool bad] 63 (0, 0))) (hs : s.size ≤ 1048576) :
    Calls Tryz.prog 54 #[.pointer (some ⟨R, 0, none⟩), .string s] w (NumQ R bad s.data.toList w) := by
  have HR := hid hR
  have hsz : s.size ≤ 9223372036854775807 := by omega
  clear hR hs
  have hlr : R < w.heap.size := lt_of_at HR.out
  have HI0 : Hid (It w (w.alloc (.stringIter s 0)) w.heap.size s 0) := ⟨below_alloc (Below.refl _ _) _, World.iter_heap w s 0, Nat.zero_le _⟩
  have HN0 : Hid (Nm s.data.toList 0) := ⟨Nat.zero_le _, rfl, by omega, .inl (by omega)⟩
  go_enter Tryz.func54, Tryz.ntmps54
  go_wp2
  go_loopw [5] (fun c wr => ∃ p n : Nat, c = .int .i64 n ∧ Hid (It w wr w.heap.size s p) ∧ Hid (Nm s.data.toList p ∧ valD (s.data.toList.take p) = n)) (fun _ wr => s.size - wr.iterPos w.heap.size)
  case atStart => exact ⟨0, 0, rfl, HI0, HN0.out, rfl⟩
  case round =>
    clear HI0 HN0
    obtain ⟨p, n, rfl, HI, HN⟩ := hrel
    have hb := HI.out.bel
    have hRr : wr.heap[R]? = some (.cells #[.bool bad] 63 (0, 0)) := (hb.block R hlr).trans HR.out
    by_cases hp : p < s.size
    · have hnx := fun ty => next_more (ty := ty) HI.out.it hp
      have HI2 := hid (HI.out.on hp)
      have HB := hid (dec_byte hp)
      have HL := hid (list_at hp)
      have hmx := dec_max s p
      obtain ⟨c, k, hck⟩ : ∃ c k, Utf8.decode s p = (c, k) := ⟨_, _, rfl⟩
      have HK := hid hck
      have HPK : Hid (1 ≤ k ∧ p + k ≤ s.size) := by have h1 := dec_pos hp; have h2 := dec_le hp; rw [hck] at h1 h2; exact ⟨h1, h2⟩
      rw [hck] at hnx HI2 HB hmx
      simp only at hnx HI2 HB hmx
      have HP : Hid (p < s.size) := hp
      obtain ⟨w2, hw2⟩ : ∃ w2, w2 = itAt wr w.heap.size s (p + k) := ⟨_, rfl⟩
      rw [← hw2] at hnx HI2
      have hR2 : w2.heap[R]? = some (.cells #[.bool bad] 63 (0, 0)) := (HI2.out.bel.block R hlr).trans HR.out
      have hf2 : w2.frozen? ⟨R, 0, none⟩ = false := blk_free hR2 0
      have hc2 : w2.cell? ⟨R, 0, none⟩ = some (.bool bad) := (blk_cell hR2 0).trans rfl
      have FIN : ∀ (_ : okN s.data.toList = false), NumQ R bad s.data.toList w (.returned (.int .i64 0)) (w2.setCell ⟨R, 0, none⟩ (.bool true)) := fun hok =>
        numQ_bad hok (rdr_set (rdr_below HI2.out.bel hR2))
      have FH := hid FIN
      have h48 : Hid (48 ≤ c ∧ c ≤ 57 → isD (s.get! p) = true ∧ (s.get! p).toNat = c ∧ k = 1) := by
        intro hc
        rcases HB.out with ⟨h1, h2⟩ | ⟨h1, h2⟩
        · injection h2 with h2 h3
          exact ⟨(isD_iff _).2 (by omega), h2.symm, h3⟩
        · omega
      have hnd : Hid (¬ (48 ≤ c ∧ c ≤ 57) → isD (s.get! p) = false) := by
        intro hc
        cases q : isD (s.get! p) with
        | false => rfl
        | true =>
          rw [isD_iff] at q
          rcases HB.out with ⟨h1, h2⟩ | ⟨h1, h2⟩
          · injection h2 with h2 h3; omega
          · omega
      clear hck hw2 FIN HB
      by_cases h1 : c < 48
      · have h1i : (c : Int) < 48 := by omega
        have HO := hid (FH.out (okN_bad HL.out (hnd.out (by omega))))
        clear h48 hnd HL hmx h1 HN
        go_wp2
        go_ret
        exact HO.out
      · have h1i : ¬ (c : Int) < 48 := by omega
        by_cases h2 : 57 < c
        · have h2i : (57 : Int) < (c : Int) := by omega
          have HO := hid (FH.out (okN_bad HL.out (hnd.out (by omega))))
          clear h48 hnd HL hmx h1 h2 HN
          go_wp2
          go_ret
          exact HO.out
        · have h2i : ¬ (57 : Int) < (c : Int) := by omega
          obtain ⟨hd, hgc, rfl⟩ := h48.out ⟨by omega, by omega⟩
          have HD := hid hd
          have HG := hid hgc
          have HC := hid (⟨by omega, by omega⟩ : 48 ≤ c ∧ c ≤ 57)
          clear h48 hnd h1 h2 hd hgc hmx
          have c1 : (48 : Int) ≤ (c : Int) := by omega
          have c2 : (c : Int) ≤ 57 := by omega
          have FIN2 : ∀ (h0 : p = 0 ∨ s.data.toList.getD 0 0 ≠ 48) (h13 : p < 13), Hid (Nm s.data.toList (p + 1) ∧ valD (s.data.toList.take (p + 1)) = 10 * n + (c - 48)) := fun h0 h13 => by
            obtain ⟨q1, q2⟩ := HN.out.1.next HL.out HD.out h0 h13
            rw [HN.out.2, HG.out] at q2
            exact ⟨q1, q2⟩
          have hnl : Hid (n < 10000000000000) := by have := HN.out.1.lt; rw [HN.out.2] at this; exact this
          have hl0 : s.data.toList.length = s.size := by simp
          have GO : (p = 0 ∨ s.data.toList.getD 0 0 ≠ 48) → (p < 13) → True := fun _ _ => trivial
          have iw1 : IntKind.i64.wrap (10 * (n : Int)) = 10 * (n : Int) := IntWalk.i64_in _ (by have := hnl.out; omega)
          have iw2 : IntKind.i32.wrap ((c : Int) - 48) = (c : Int) - 48 := IntWalk.i32_in _ (by omega)
          have iw3 : IntKind.i64.wrap ((c : Int) - 48) = (c : Int) - 48 := IntWalk.i64_in _ (by omega)
          have iw4 : IntKind.i64.wrap (10 * (n : Int) + ((c : Int) - 48)) = 10 * (n : Int) + ((c : Int) - 48) := IntWalk.i64_in _ (by have := hnl.out; omega)
          by_cases h0 : p = 0
          · subst h0
            have F2 := FIN2 (.inl rfl) (by omega)
            clear FIN2 GO HN HL HD hl0 FH
            go_wp2
            go_roundw
            case rel => exact ⟨0 + 1, 10 * n + (c - 48), by have := HC.out; simp only [Int.natCast_add, Int.natCast_mul]; congr 2; omega, HI2, F2⟩
            case measure => rw [HI2.out.pos, HI.out.pos]; have := HPK.out; omega
          · have hp0 : (0 : Int) < (p : Int) := by omega
            have hs0 : (0 : Int) < (s.size : Int) := by omega
            have h0s : 0 < s.size := by omega
            obtain ⟨x0, hx0⟩ : ∃ x0, s[0]'h0s = x0 := ⟨_, rfl⟩
            have hz : Hid (s.data.toList.getD 0 0 = x0) := by
              have := list_at h0s
              rw [get_idx s 0 h0s, hx0] at this
              unfold Hid
              rw [List.getD_eq_getElem?_getD, this]; rfl
            by_cases q : x0 = 48
            · have q1 : (x0.toNat : Int) = 48 := by rw [q]; rfl
              have HO := hid (FH.out (okN_zero (p := p) (by omega) (by omega) (by rw [hz.out]; exact q)))
              clear FIN2 GO HN HL HD hl0 FH hp q hz h0
              go_wp2
              go_ret
              exact HO.out
            · have q1 : ¬ (x0.toNat : Int) = 48 := by
                intro e
                exact q (UInt8.toNat_inj.1 (by show x0.toNat = 48; omega))
              by_cases h13 : p < 13
              · have h13i : ¬ (13 : Int) ≤ (p : Int) := by omega
                have F2 := FIN2 (.inr (by rw [hz.out]; exact q)) h13
                clear FIN2 GO HN HL HD hl0 FH hp q hz h0 h13
                go_wp2
                go_roundw
                case rel => exact ⟨p + 1, 10 * n + (c - 48), by have := HC.out; simp only [Int.natCast_add, Int.natCast_mul]; congr 2; omega, HI2, F2⟩
                case measure => rw [HI2.out.pos, HI.out.pos]; have := HPK.out; omega
              · have h13i : (13 : Int) ≤ (p : Int) := by omega
                have HO := hid (FH.out (okN_long (p := p) (by omega) (by omega)))
                clear FIN2 GO HN HL HD hl0 FH hp q hz h0 h13
                go_wp2
                go_ret
                exact HO.out
    · have hnx := fun ty => next_over (ty := ty) HI.out.it hp
      have hl0 : s.data.toList.length = s.size := by simp
      have hple := HI.out.le
      obtain rfl : p = s.size := by omega
      have hf2 : wr.frozen? ⟨R, 0, none⟩ = false := blk_free hRr 0
      have hc2 : wr.cell? ⟨R, 0, none⟩ = some (.bool bad) := (blk_cell hRr 0).trans rfl
      have HW := hid (rdr_below (b := bad) hb hRr)
      by_cases h0 : s.size = 0
      · have he : s = ⟨#[]⟩ := by
          apply ByteArray.ext
          exact Array.eq_empty_of_size_eq_zero h0
        have hn0 : Hid (n = 0) := by
          have := HN.out.2
          rw [h0] at this
          exact this.symm
        have FIN : Hid (NumQ R bad s.data.toList w (.returned (.int .i64 n)) (wr.setCell ⟨R, 0, none⟩ (.bool true))) := by
          rw [hn0.out]
          exact numQ_bad (by rw [he]; rfl) (rdr_set HW.out)
        clear HN hn0
        subst he
        cases bad with
        | true =>
          go_wp2
          go_ret
          exact FIN.out
        | false =>
          go_wp2
          go_ret
          exact FIN.out
      · have hne : ¬ s = ⟨#[]⟩ := fun e => h0 (by rw [e]; rfl)
        have FIN : Hid (NumQ R bad s.data.toList w (.returned (.int .i64 n)) (wr.setCell ⟨R, 0, none⟩ (.bool bad))) := by
          have h1 := HN.out.1
          have h2 := HN.out.2
          rw [← hl0] at h1 h2
          obtain ⟨h3, h4⟩ := h1.done (by omega)
          refine ⟨n, rfl, fun m hm => ?_, ?_⟩
          · rw [numP_ok h3] at hm
            injection hm with hm
            rw [← hm, ← h4, h2]
          · rw [numP_ok h3]
            have := rdr_set (b' := bad) HW.out
            simpa using this
        have hse : s.toList.isEmpty = false := by
          rw [Go.Lib.toList_data]
          cases hq : s.data.toList with
          | nil => exact absurd (by rw [← hl0, hq]; rfl) h0
          | cons _ _ => rfl
        clear HN hp
        cases bad with
        | true =>
          go_wp2
          go_ret
          exact FIN.out
        | false =>
          go_wp2
          go_ret
          exact FIN.out
end Go.Proofs.YtidcbcljeofooaaGreatDoor
