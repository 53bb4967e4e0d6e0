/- Chapter 1: the contract of the program's Words. -/
import Derived.Test.YtidcbcljeofooaaGreatDoorWrA
import Derived.Test.YtidcbcljeofooaaGreatDoorDgT
namespace Go.Proofs.YtidcbcljeofooaaGreatDoor
open Go.RowKit
theorem row_mono {w : World} {B B' t z k : Nat} {v : Value} {xs : List Value} (hB : B ≤ B') (h : w.ownsRow B' t z v k xs) : w.ownsRow B t z v k xs := by
  obtain ⟨h3, h4 | ⟨g, cap, cur, rfl, hg, rest⟩⟩ := h
  · exact ⟨h3, .inl h4⟩
  · exact ⟨h3, .inr ⟨g, cap, cur, rfl, Nat.le_trans hB hg, rest⟩⟩
theorem Wd.start {w w1 : World} {s : ByteArray} (h : w.heap.size ≤ w1.heap.size) (hb : Below w.heap.size w w1) : Wd w ((w1.alloc (.cells #[.pointer none, .slice none 0 0] 90)).alloc (.stringIter s 0)) s w1.heap.size 0 [] [] (.slice none 0 0) := by
  have hz : (w1.alloc (.cells #[.pointer none, .slice none 0 0] 90)).heap.size = w1.heap.size + 1 := by simp
  refine ⟨h, (hb.alloc h _).alloc (by rw [hz]; omega) _, ?_, Nat.zero_le _, .inl ⟨Nat.le_refl _, .slice none 0 0, ?_, World.ownsRowF_nil _ _ _ _, by simp [Value.ownBlock]⟩, ⟨rfl, .inl ⟨rfl, rfl⟩⟩, by simp⟩
  · rw [← hz]; exact alloc_at _ _
  · rw [Below.heap_alloc _ _ _ (by rw [hz]; omega)]; exact alloc_at _ _
/-- The words' contract, as callers take it. -/
def WordsQ (s : ByteArray) (w : World) (e : Ending) (w' : World) : Prop :=
  ∃ v, e = .returned (.tuple #[v, .int .i64 (wres s).2.1, .int .i64 (wres s).2.2]) ∧ w'.ownsRow w.heap.size 9 1 v (wres s).1.length (flatS (wres s).1) ∧ Below w.heap.size w w'
theorem wordsQ_bad {s : ByteArray} {w w' : World} {k : Nat} {x : Int} (h : wres s = ([], k, x)) (hb : Below w.heap.size w w') {y z : Int} (hy : y = k) (hz : z = x) : WordsQ s w (.returned (.tuple #[.slice none 0 0, .int .i64 y, .int .i64 z])) w' := by
  subst hy; subst hz
  refine ⟨_, by rw [h], ?_, hb⟩
  rw [h]
  exact ⟨rfl, .inl ⟨rfl, rfl⟩⟩
theorem wordsQ_ok {s : ByteArray} {w w' : World} {B p : Nat} {bs : List UInt8} {l : List ByteArray} {v : Value} (h : wres s = (l, 0, 0)) (hW : Wd w w' s B p bs l v) : WordsQ s w (.returned (.tuple #[v, .int .i64 0, .int .i64 0])) w' := by
  refine ⟨v, by rw [h]; rfl, ?_, hW.bel⟩
  rw [h]
  exact row_mono hW.le hW.row
theorem wres_no {s : ByteArray} {k : Nat} (h0 : (chkA s 0 0).2.2 = 0) (h : wgoA s 0 0 [] [] = .inl k) : wres s = ([], k, 4) := by
  unfold wres; rw [if_neg (by rw [h0]; simp), h]
theorem wres_ok {s : ByteArray} {l : List ByteArray} (h0 : (chkA s 0 0).2.2 = 0) (h : wgoA s 0 0 [] [] = .inr l) : wres s = (l, 0, 0) := by
  unfold wres; rw [if_neg (by rw [h0]; simp), h]
theorem wres_bad {s : ByteArray} (h0 : ¬ (chkA s 0 0).2.2 = 0) : wres s = ([], (chkA s 0 0).2.1, (chkA s 0 0).2.2) := by
  unfold wres; rw [if_pos h0]
theorem len4 {bs : List UInt8} {c p k : Nat} (h : bs.length ≤ 4 * p) (hk : 1 ≤ k) : (bs ++ Lib.encodeRune (c : Int)).length ≤ 4 * (p + k) := by
  have := enc_len c
  simp; omega
theorem cells4 (bs : List UInt8) (c : Nat) : Lib.byteCells bs ++ Lib.runeCells (c : Int) = Lib.byteCells (bs ++ Lib.encodeRune (c : Int)) := by
  rw [Lib.byteCells_append, Lib.byteCells_encodeRune]
set_option maxHeartbeats 8000000 in
set_option maxRecDepth 20000 in
theorem words_any (s : ByteArray) (w : World) (hs : s.size ≤ 4294967296) (hdec : ∀ i W, Below w.heap.size w W → i < s.size → Calls Tryz.prog 75 #[.string (s.extract i s.size)] W fun e w' => e = .returned (.tuple #[.int .i32 (Utf8.decode s i).1, .int .i64 (Utf8.decode s i).2]) ∧ Below W.heap.size W w') :
    Calls Tryz.prog 23 #[.string s] w (WordsQ s w) := by
  have HD := hid hdec
  clear hdec
  have HS := hid hs
  clear hs
  go_enter Tryz.func23, Tryz.ntmps23
  go_wp2_with fail
  refine (check_any s _ (by have := HS.out; unfold maxLen; omega) HD.out).mono ?_
  rintro e w1 ⟨rfl, hb1⟩
  have HB1 := hid hb1
  clear hb1 HD
  by_cases he : (chkA s 0 0).2.2 = 0
  · have HE := hid he
    rw [he]
    clear he
    have hsi : (s.size : Int) ≤ 4294967296 := by have := HS.out; omega
    go_wp2
    go_loopw [8, 10] (fun v r wr => ∃ (vo : Value) (q p : Nat), vo = v ∧ r = .int .i64 q ∧ q ≤ 4 ∧ Hid (∃ bs l, Wd w wr s w1.heap.size p bs l vo ∧ wgoA s p q bs l = wgoA s 0 0 [] [])) (fun _ _ wr => s.size - wr.iterPos (w1.heap.size + 1))
    case atStart => exact ⟨_, 0, 0, rfl, rfl, by omega, [], [], Wd.start HB1.out.size HB1.out, rfl⟩
    case round =>
      obtain ⟨v, q, p, rfl, rfl, hq, hrel⟩ := hrel
      obtain ⟨bs, l, D, E⟩ := hrel.out
      have HW := hid D
      have HC := hid E
      clear hrel D E
      obtain ⟨A0, cap0, rfl⟩ : ∃ A cap, v = .slice A l.length cap := rowS_slice HW.out.row
      have hbnd : Hid (l.length ≤ 4294967296) := by have h1 := HW.out.small; have h2 := HW.out.ple; have h3 := HS.out; show l.length ≤ 4294967296; omega
      by_cases hp : p < s.size
      · have hnx := fun ty => next_more (ty := ty) HW.out.it hp
        have HW2 := hid (HW.out.next hp)
        have hmx := dec_max s p
        obtain ⟨c, k, hck⟩ : ∃ c k, Utf8.decode s p = (c, k) := ⟨_, _, rfl⟩
        have HK := hid hck
        have HPK : Hid (1 ≤ k ∧ p + k ≤ s.size) := by have h1 := dec_pos hp; have h2 := dec_le hp; rw [hck] at h1 h2; exact ⟨h1, h2⟩
        rw [hck] at hnx HW2 hmx
        simp only at hnx HW2 hmx
        have HP : Hid (p < s.size) := hp
        obtain ⟨w2, hw2⟩ : ∃ w2, w2 = itAt wr (w1.heap.size + 1) s (p + k) := ⟨_, rfl⟩
        rw [← hw2] at hnx HW2
        have hpi : (p : Int) ≤ (s.size : Int) := by omega
        clear hck hw2 hp
        have hwrite : ∀ bs', Hid (bs' = bs) → Calls Tryz.prog 51 #[.pointer (some ⟨w1.heap.size, 0, none⟩), .int .i32 (c : Int)] w2 fun e w' => (∃ x : Int, e = .returned (.tuple #[.int .i64 x, .nilIface])) ∧ Wd w w' s w1.heap.size (p + k) (bs ++ Lib.encodeRune (c : Int)) l (.slice A0 l.length cap0) := by
          intro _ _
          have hl := HW2.out.small
          have h9 := HW2.out.ple
          have hss := HS.out
          have hlen : (Lib.byteCells bs).length + 4 ≤ 140737488355328 := by rw [Lib.byteCells_length]; omega
          have hBw : w1.heap.size ≤ w2.heap.size := by have := HW2.out.size; omega
          refine (wrune_any w1.heap.size w1.heap.size (Lib.byteCells bs) c (by omega) (by omega) w2 HW2.out.bd hlen hBw).mono ?_
          rintro e w3 ⟨hx, hb3, hbel3, hk3⟩
          refine ⟨hx, HW2.out.wrote (.inr ?_) hbel3 hk3 (len4 HW.out.small.1 HPK.out.1)⟩
          rw [← cells4]; exact hb3
        have hstr : ∀ W, Hid (Wd w W s w1.heap.size (p + k) bs l (.slice A0 l.length cap0)) → Calls Tryz.prog 52 #[.pointer (some ⟨w1.heap.size, 0, none⟩)] W fun e w' => e = .returned (.string ⟨bs.toArray⟩) ∧ Wd w w' s w1.heap.size (p + k) bs l (.slice A0 l.length cap0) := by
          intro W HX
          refine (Tryz.Builder_String_any_k w1.heap.size w1.heap.size bs W HX.out.bd (by have := HX.out.size; omega)).mono ?_
          rintro e w3 ⟨rfl, hb3, hbel3, hk3⟩
          exact ⟨rfl, HX.out.wrote hb3 hbel3 hk3 HX.out.small.1⟩
        have hres : ∀ W l2 v2, Hid (Wd w W s w1.heap.size (p + k) bs l2 v2) → Calls Tryz.prog 53 #[.pointer (some ⟨w1.heap.size, 0, none⟩)] W fun e w' => e = .returned (.tuple #[]) ∧ Wd w w' s w1.heap.size (p + k) [] l2 v2 := by
          intro W l2 v2 HX
          refine (breset_any w1.heap.size w1.heap.size (Lib.byteCells bs) W HX.out.bd).mono ?_
          rintro e w3 ⟨rfl, hb3, hbel3, hk3⟩
          exact ⟨rfl, HX.out.wrote hb3 hbel3 hk3 (by simp)⟩
        obtain rfl | rfl | rfl | rfl | rfl : q = 0 ∨ q = 1 ∨ q = 2 ∨ q = 3 ∨ q = 4 := by omega
        · by_cases h32 : c = 32
          · subst h32
            clear hmx
            have HR := hid ((wgoA_on (q' := 0) (b' := bs) (l' := l) HP.out HK.out (by unfold wstep; simp)).symm.trans HC.out)
            go_wp2
            go_roundw
            case rel => exact ⟨_, 0, p + k, rfl, rfl, by omega, bs, l, HW2.out, HR.out⟩
            case measure => rw [HW2.out.pos, HW.out.pos]; have := HPK.out; have := HP.out; omega
          · have i32 : ((c : Int) == 32) = false := by rw [beq_eq_false_iff_ne]; omega
            have j32 : ((c : Int) != 32) = true := by rw [bne_iff_ne]; omega
            by_cases h34 : c = 34
            · subst h34
              clear hmx
              have HR := hid ((wgoA_on (q' := 2) (b' := bs) (l' := l) HP.out HK.out (by unfold wstep; simp)).symm.trans HC.out)
              go_wp2
              go_roundw
              case rel => exact ⟨_, 2, p + k, rfl, rfl, by omega, bs, l, HW2.out, HR.out⟩
              case measure => rw [HW2.out.pos, HW.out.pos]; have := HPK.out; have := HP.out; omega
            · have i34 : ((c : Int) == 34) = false := by rw [beq_eq_false_iff_ne]; omega
              have j34 : ((c : Int) != 34) = true := by rw [bne_iff_ne]; omega
              clear hmx
              have HR := hid ((wgoA_on (q' := 1) (b' := bs ++ Lib.encodeRune (c : Int)) (l' := l) HP.out HK.out (by unfold wstep; simp [h32, h34])).symm.trans HC.out)
              go_wp2_with fail
              refine (hwrite bs rfl).mono ?_
              rintro e w3 ⟨⟨x, rfl⟩, D3⟩
              have HW3 := hid D3
              clear D3
              go_wp2
              go_roundw
              case rel => exact ⟨_, 1, p + k, rfl, rfl, by omega, _, _, HW3.out, HR.out⟩
              case measure => rw [HW3.out.pos, HW.out.pos]; have := HPK.out; have := HP.out; omega
        · by_cases h32 : c = 32
          · subst h32
            clear hmx
            have HR := hid ((wgoA_on (q' := 0) (b' := []) (l' := l ++ [⟨bs.toArray⟩]) HP.out HK.out (by unfold wstep; simp)).symm.trans HC.out)
            go_wp2_with fail
            refine (hstr w2 HW2).mono ?_
            rintro e w3 ⟨rfl, D3⟩
            have HW3 := hid D3
            clear D3
            obtain ⟨g, cap', w4, happ, D4⟩ := HW3.out.put ⟨bs.toArray⟩ 29 (by have := HW.out.small.2; have := HPK.out.1; omega) (by have := HS.out; omega)
            have HAPP := hid happ
            have HW4 := hid D4
            clear happ D4
            go_wp2_with (at_builtin; refine wpList_append_eq rfl _ _ _ rfl rfl rfl HAPP.out ?_)
            go_wp2_with fail
            refine (hres w4 _ _ HW4).mono ?_
            rintro e w5 ⟨rfl, D5⟩
            have HW5 := hid D5
            clear D5
            go_wp2
            go_roundw
            case rel => exact ⟨_, 0, p + k, rfl, rfl, by omega, _, _, HW5.out, HR.out⟩
            case measure => rw [HW5.out.pos, HW.out.pos]; have := HPK.out; have := HP.out; omega
          · have i32 : ((c : Int) == 32) = false := by rw [beq_eq_false_iff_ne]; omega
            have j32 : ((c : Int) != 32) = true := by rw [bne_iff_ne]; omega
            by_cases h34 : c = 34
            · subst h34
              clear hmx
              have HR := hid (wres_no HE.out (HC.out.symm.trans (wgoA_no HP.out HK.out (by unfold wstep; simp))))
              go_wp2
              go_ret3
              exact wordsQ_bad HR.out HW2.out.bel rfl rfl
            · have i34 : ((c : Int) == 34) = false := by rw [beq_eq_false_iff_ne]; omega
              have j34 : ((c : Int) != 34) = true := by rw [bne_iff_ne]; omega
              clear hmx
              have HR := hid ((wgoA_on (q' := 1) (b' := bs ++ Lib.encodeRune (c : Int)) (l' := l) HP.out HK.out (by unfold wstep; simp [h32, h34])).symm.trans HC.out)
              go_wp2_with fail
              refine (hwrite bs rfl).mono ?_
              rintro e w3 ⟨⟨x, rfl⟩, D3⟩
              have HW3 := hid D3
              clear D3
              go_wp2
              go_roundw
              case rel => exact ⟨_, 1, p + k, rfl, rfl, by omega, _, _, HW3.out, HR.out⟩
              case measure => rw [HW3.out.pos, HW.out.pos]; have := HPK.out; have := HP.out; omega
        · by_cases h92 : c = 92
          · subst h92
            clear hmx
            have HR := hid ((wgoA_on (q' := 3) (b' := bs) (l' := l) HP.out HK.out (by unfold wstep; simp)).symm.trans HC.out)
            go_wp2
            go_roundw
            case rel => exact ⟨_, 3, p + k, rfl, rfl, by omega, bs, l, HW2.out, HR.out⟩
            case measure => rw [HW2.out.pos, HW.out.pos]; have := HPK.out; have := HP.out; omega
          · have i92 : ((c : Int) == 92) = false := by rw [beq_eq_false_iff_ne]; omega
            have j92 : ((c : Int) != 92) = true := by rw [bne_iff_ne]; omega
            by_cases h34 : c = 34
            · subst h34
              clear hmx
              have HR := hid ((wgoA_on (q' := 4) (b' := []) (l' := l ++ [⟨bs.toArray⟩]) HP.out HK.out (by unfold wstep; simp)).symm.trans HC.out)
              go_wp2_with fail
              refine (hstr w2 HW2).mono ?_
              rintro e w3 ⟨rfl, D3⟩
              have HW3 := hid D3
              clear D3
              obtain ⟨g, cap', w4, happ, D4⟩ := HW3.out.put ⟨bs.toArray⟩ 29 (by have := HW.out.small.2; have := HPK.out.1; omega) (by have := HS.out; omega)
              have HAPP := hid happ
              have HW4 := hid D4
              clear happ D4
              go_wp2_with (at_builtin; refine wpList_append_eq rfl _ _ _ rfl rfl rfl HAPP.out ?_)
              go_wp2_with fail
              refine (hres w4 _ _ HW4).mono ?_
              rintro e w5 ⟨rfl, D5⟩
              have HW5 := hid D5
              clear D5
              go_wp2
              go_roundw
              case rel => exact ⟨_, 4, p + k, rfl, rfl, by omega, _, _, HW5.out, HR.out⟩
              case measure => rw [HW5.out.pos, HW.out.pos]; have := HPK.out; have := HP.out; omega
            · have i34 : ((c : Int) == 34) = false := by rw [beq_eq_false_iff_ne]; omega
              have j34 : ((c : Int) != 34) = true := by rw [bne_iff_ne]; omega
              clear hmx
              have HR := hid ((wgoA_on (q' := 2) (b' := bs ++ Lib.encodeRune (c : Int)) (l' := l) HP.out HK.out (by unfold wstep; simp [h92, h34])).symm.trans HC.out)
              go_wp2_with fail
              refine (hwrite bs rfl).mono ?_
              rintro e w3 ⟨⟨x, rfl⟩, D3⟩
              have HW3 := hid D3
              clear D3
              go_wp2
              go_roundw
              case rel => exact ⟨_, 2, p + k, rfl, rfl, by omega, _, _, HW3.out, HR.out⟩
              case measure => rw [HW3.out.pos, HW.out.pos]; have := HPK.out; have := HP.out; omega
        · by_cases h34 : c = 34
          · subst h34
            clear hmx
            have HR := hid ((wgoA_on (q' := 2) (b' := bs ++ Lib.encodeRune ((34 : Nat) : Int)) (l' := l) HP.out HK.out (by unfold wstep; simp)).symm.trans HC.out)
            go_wp2_with fail
            refine (hwrite bs rfl).mono ?_
            rintro e w3 ⟨⟨x, rfl⟩, D3⟩
            have HW3 := hid D3
            clear D3
            go_wp2
            go_roundw
            case rel => exact ⟨_, 2, p + k, rfl, rfl, by omega, _, _, HW3.out, HR.out⟩
            case measure => rw [HW3.out.pos, HW.out.pos]; have := HPK.out; have := HP.out; omega
          · have i34 : ((c : Int) == 34) = false := by rw [beq_eq_false_iff_ne]; omega
            have j34 : ((c : Int) != 34) = true := by rw [bne_iff_ne]; omega
            by_cases h92 : c = 92
            · subst h92
              clear hmx
              have HR := hid ((wgoA_on (q' := 2) (b' := bs ++ Lib.encodeRune ((92 : Nat) : Int)) (l' := l) HP.out HK.out (by unfold wstep; simp)).symm.trans HC.out)
              go_wp2_with fail
              refine (hwrite bs rfl).mono ?_
              rintro e w3 ⟨⟨x, rfl⟩, D3⟩
              have HW3 := hid D3
              clear D3
              go_wp2
              go_roundw
              case rel => exact ⟨_, 2, p + k, rfl, rfl, by omega, _, _, HW3.out, HR.out⟩
              case measure => rw [HW3.out.pos, HW.out.pos]; have := HPK.out; have := HP.out; omega
            · have i92 : ((c : Int) == 92) = false := by rw [beq_eq_false_iff_ne]; omega
              have j92 : ((c : Int) != 92) = true := by rw [bne_iff_ne]; omega
              clear hmx
              have HR := hid (wres_no HE.out (HC.out.symm.trans (wgoA_no HP.out HK.out (by unfold wstep; simp [h34, h92]))))
              go_wp2
              go_ret3
              exact wordsQ_bad HR.out HW2.out.bel rfl rfl
        · by_cases h32 : c = 32
          · subst h32
            clear hmx
            have HR := hid ((wgoA_on (q' := 0) (b' := bs) (l' := l) HP.out HK.out (by unfold wstep; simp)).symm.trans HC.out)
            go_wp2
            go_roundw
            case rel => exact ⟨_, 0, p + k, rfl, rfl, by omega, bs, l, HW2.out, HR.out⟩
            case measure => rw [HW2.out.pos, HW.out.pos]; have := HPK.out; have := HP.out; omega
          · have i32 : ((c : Int) == 32) = false := by rw [beq_eq_false_iff_ne]; omega
            have j32 : ((c : Int) != 32) = true := by rw [bne_iff_ne]; omega
            clear hmx
            have HR := hid (wres_no HE.out (HC.out.symm.trans (wgoA_no HP.out HK.out (by unfold wstep; simp [h32]))))
            go_wp2
            go_ret3
            exact wordsQ_bad HR.out HW2.out.bel rfl rfl
      · have hnx := fun ty => next_over (ty := ty) HW.out.it hp
        have HR := hid (HC.out.symm.trans (wgoA_end hp))
        clear hp
        obtain rfl | rfl | rfl | rfl | rfl : q = 0 ∨ q = 1 ∨ q = 2 ∨ q = 3 ∨ q = 4 := by omega
        · go_wp2
          go_ret3
          exact wordsQ_ok (wres_ok HE.out HR.out) HW.out
        · have hstr : Calls Tryz.prog 52 #[.pointer (some ⟨w1.heap.size, 0, none⟩)] wr fun e w' => e = .returned (.string ⟨bs.toArray⟩) ∧ Wd w w' s w1.heap.size p bs l (.slice A0 l.length cap0) := by
            refine (Tryz.Builder_String_any_k w1.heap.size w1.heap.size bs wr HW.out.bd (by have := HW.out.size; omega)).mono ?_
            rintro e w3 ⟨rfl, hb3, hbel3, hk3⟩
            exact ⟨rfl, HW.out.wrote hb3 hbel3 hk3 HW.out.small.1⟩
          go_wp2_with fail
          refine hstr.mono ?_
          rintro e w3 ⟨rfl, D3⟩
          have HW3 := hid D3
          clear D3 hstr
          obtain ⟨g, cap', w4, happ, hrow4, hgrow4⟩ := app_str (B := w1.heap.size) (W := w3.alloc (.cells #[.string ⟨bs.toArray⟩] 9)) (by have := HW3.out.size; simp; omega) (rowS_at (w' := w3.alloc (.cells #[.string ⟨bs.toArray⟩] 9)) HW3.out.row (fun g hg => Below.heap_alloc _ _ _ (HW3.out.row.lt g hg).2)) (by have := hbnd.out; omega) 29 ⟨bs.toArray⟩ ⟨w3.heap.size, 0, none⟩ (World.news_of_block (alloc_at w3 _))
          have HAPP := hid happ
          have HROW := hid hrow4
          have HB4 : Hid (Below w.heap.size w w4) := (HW3.out.bel.alloc (by have := HW3.out.le; have := HW3.out.size; omega) _).grown hgrow4 (by have := HW3.out.le; have := HW3.out.size; simp; omega) (fun k hk => Nat.le_trans HW3.out.le (HW3.out.row.lt k hk).1)
          clear happ hrow4 hgrow4
          go_wp2_with (at_builtin; refine wpList_append_eq rfl _ _ _ rfl rfl rfl HAPP.out ?_)
          go_wp2
          go_ret3
          have hres := wres_ok HE.out HR.out
          refine ⟨_, by rw [hres]; rfl, ?_, HB4.out⟩
          rw [hres]
          have := row_mono HW3.out.le HROW.out
          simpa using this
        · go_wp2
          go_ret3
          exact wordsQ_bad (wres_no HE.out HR.out) HW.out.bel rfl rfl
        · go_wp2
          go_ret3
          exact wordsQ_bad (wres_no HE.out HR.out) HW.out.bel rfl rfl
        · go_wp2
          go_ret3
          exact wordsQ_ok (wres_ok HE.out HR.out) HW.out
  · have hr := wres_bad he
    generalize (chkA s 0 0).2.2 = x at *
    generalize (chkA s 0 0).2.1 = y at *
    have HR := hid hr
    clear hr
    go_wp2
    go_ret3
    exact wordsQ_bad HR.out HB1.out rfl rfl
end Go.Proofs.YtidcbcljeofooaaGreatDoor
