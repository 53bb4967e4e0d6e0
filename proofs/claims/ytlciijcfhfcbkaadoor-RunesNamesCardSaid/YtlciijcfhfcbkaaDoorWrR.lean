/- Chapter 1: the reference's Words, by the automaton over bytes; the comparison of two lists of words. -/
import Derived.Test.YtlciijcfhfcbkaaDoorWrW
import Derived.Test.YtlciijcfhfcbkaaDoorWrQ
import Derived.Test.YtlciijcfhfcbkaaDoorRunF
namespace Go.Proofs.YtlciijcfhfcbkaaDoor
open Go.RowKit
section
variable {s : ByteArray} {i k : Nat} {b : List UInt8} {l : List ByteArray}
theorem sp_on (hi : i < s.size) (h : (s.get! i).toNat = 32) : bgoA s i 0 b l = bgoA s (i + 1) 0 b l := bgoA_on hi (by unfold wstep; simp [h])
theorem quo_on (hi : i < s.size) (h : (s.get! i).toNat = 34) : bgoA s i 0 b l = bgoA s (i + 1) 2 b l := bgoA_on hi (by unfold wstep; simp [h])
theorem beh_no (hi : i < s.size) (h : ¬ (s.get! i).toNat = 32) : bgoA s i 4 b l = .inl i := bgoA_no hi (by unfold wstep; simp [h])
theorem beh_sp (hi : i < s.size) (h : (s.get! i).toNat = 32) : bgoA s i 4 b l = bgoA s i 0 b l := by
  rw [sp_on hi h]; exact bgoA_on hi (by unfold wstep; simp [h])
theorem beh_end (hi : ¬ i < s.size) : bgoA s i 4 b l = bgoA s i 0 b l := by rw [bgoA_end hi, bgoA_end hi]; rfl
theorem bare_no (hi : i < s.size) (h : (s.get! i).toNat = 34) : bgoA s i 1 b l = .inl i := bgoA_no hi (by unfold wstep; simp [h])
theorem bare_sp (hi : i < s.size) (h : (s.get! i).toNat = 32) : bgoA s i 1 b l = bgoA s i 0 [] (l ++ [⟨b.toArray⟩]) := by
  rw [sp_on (b := []) (l := l ++ [ByteArray.mk b.toArray]) hi h]; exact bgoA_on hi (by unfold wstep; simp [h])
theorem bare_end (hi : ¬ i < s.size) : bgoA s i 1 b l = bgoA s i 0 [] (l ++ [⟨b.toArray⟩]) := by rw [bgoA_end hi, bgoA_end hi]; rfl
end
theorem bare_run (s : ByteArray) (l : List ByteArray) : ∀ k i b, i + k ≤ s.size → (∀ j, j < k → (s.get! (i + j)).toNat ≠ 32 ∧ (s.get! (i + j)).toNat ≠ 34) → bgoA s i 1 b l = bgoA s (i + k) 1 (b ++ (s.data.toList.drop i).take k) l := by
  intro k
  induction k with
  | zero => intro i b _ _; simp
  | succ k ih =>
    intro i b hi hb
    have h0 := hb 0 (by omega)
    rw [Nat.add_zero] at h0
    rw [bgoA_on (q' := 1) (b' := b ++ [s.get! i]) (l' := l) (by omega) (by unfold wstep; simp [h0.1, h0.2]), ih (i + 1) _ (by omega) (fun j hj => by have := hb (j + 1) (by omega); rwa [show i + (j + 1) = i + 1 + j by omega] at this), show i + 1 + k = i + (k + 1) by omega, drop_get (show i < s.size by omega), List.take_succ_cons]
    simp
theorem bare_word {s : ByteArray} {l : List ByteArray} {i k : Nat} (hk : i < k) (hs : k ≤ s.size) (hb : ∀ j, i ≤ j → j < k → (s.get! j).toNat ≠ 32 ∧ (s.get! j).toNat ≠ 34) : bgoA s i 0 [] l = bgoA s k 1 (s.extract i k).data.toList l := by
  have h0 := hb i (Nat.le_refl _) hk
  rw [bgoA_on (q' := 1) (b' := [s.get! i]) (l' := l) (by omega) (by unfold wstep; simp [h0.1, h0.2]), bare_run s l (k - (i + 1)) (i + 1) _ (by omega) (fun j hj => hb _ (by omega) (by omega)), show i + 1 + (k - (i + 1)) = k by omega]
  congr 1
  rw [ByteArray.data_extract, Array.toList_extract, List.extract_eq_take_drop, drop_get (show i < s.size by omega), show k - i = (k - (i + 1)) + 1 by omega, List.take_succ_cons]
  rfl
/-- The reference's Words under way. -/
structure Rd (w wr : World) (s : ByteArray) (p : Nat) (l : List ByteArray) (v : Value) : Prop where
  bel : Below w.heap.size w wr
  row : wr.ownsRow w.heap.size 9 1 v l.length (flatS l)
  go : bgoA s 0 0 [] [] = bgoA s p 0 [] l
  small : l.length ≤ p
  ple : p ≤ s.size
section
variable {w wr wq : World} {s : ByteArray} {p : Nat} {l : List ByteArray} {v : Value}
theorem Rd.step (h : Rd w wr s p l v) (hb : Below wr.heap.size wr wq) : Rd w wq s p l v :=
  ⟨h.bel.trans (hb.mono h.bel.size), rowS_at h.row (fun g hg => hb.block g (h.row.lt g hg).2), h.go, h.small, h.ple⟩
theorem Rd.on (h : Rd w wr s p l v) (hp : p < s.size) (hg : bgoA s p 0 [] l = bgoA s (p + 1) 0 [] l) : Rd w wr s (p + 1) l v :=
  ⟨h.bel, h.row, h.go.trans hg, by have := h.small; omega, hp⟩
theorem Rd.put (h : Rd w wr s p l v) (hs : s.size ≤ 8000000000000) (x : ByteArray) (ty : TypeId) {p' : Nat} (hp' : p < p') (hp2 : p' ≤ s.size) (hg : bgoA s p 0 [] l = bgoA s p' 0 [] (l ++ [x])) :
    ∃ g cap' w', (Builtin.append_ #[27, 27] ty #[v, .slice (some ⟨wr.heap.size, 0, none⟩) 1 1]).run Tryd.prog (wr.alloc (.cells #[.string x] 9)) = .ok (.slice (some ⟨g, 0, none⟩) (l.length + 1) cap') w' ∧
      Rd w w' s p' (l ++ [x]) (.slice (some ⟨g, 0, none⟩) (l.length + 1) cap') := by
  have hsz := h.bel.size
  have hlt := fun g hg => (h.row.lt g hg).2
  obtain ⟨g, cap', w', h1, h2, h3⟩ := app_str (B := w.heap.size) (W := wr.alloc (.cells #[.string x] 9)) (by simp; omega) (rowS_at (w' := wr.alloc (.cells #[.string x] 9)) h.row (fun g hg => Below.heap_alloc _ _ _ (hlt g hg))) (by have := h.small; have := h.ple; omega) ty x ⟨wr.heap.size, 0, none⟩ (World.news_of_block (alloc_at wr _))
  refine ⟨g, cap', w', h1, ?_, by rw [show (l ++ [x]).length = l.length + 1 by simp]; exact h2, h.go.trans hg, by have := h.small; simp; omega, hp2⟩
  exact (h.bel.alloc (by omega) _).grown h3 (by simp; omega) (fun k hk => (h.row.lt k hk).1)
theorem wres_bno {k : Nat} (h0 : (chkA s 0 0).2.2 = 0) (h : bgoA s 0 0 [] [] = .inl k) : wres s = ([], k, 4) := wres_no h0 ((words_bytes h0).trans h)
theorem Rd.bad (D : Rd w wr s p l v) (h0 : (chkA s 0 0).2.2 = 0) {k : Nat} {y : Int} (hg : bgoA s p 0 [] l = .inl k) (hy : y = k) (hb : Below w.heap.size w wq) : WordsQ s w (.returned (.tuple #[.slice none 0 0, .int .i64 y, .int .i64 4])) wq :=
  wordsQ_bad (wres_bno h0 (D.go.trans hg)) hb hy rfl
theorem Rd.done (D : Rd w wr s p l v) (h0 : (chkA s 0 0).2.2 = 0) (hp : ¬ p < s.size) : WordsQ s w (.returned (.tuple #[v, .int .i64 0, .int .i64 0])) wr := by
  have hr : wres s = (l, 0, 0) := wres_ok h0 ((words_bytes h0).trans (D.go.trans (bgoA_end hp)))
  refine ⟨v, by rw [hr]; rfl, ?_, D.bel⟩
  rw [hr]; exact D.row
end
theorem ext_mk (s : ByteArray) (i k : Nat) : (⟨(s.extract i k).data.toList.toArray⟩ : ByteArray) = s.extract i k := by cases (s.extract i k); simp
set_option maxHeartbeats 8000000 in
set_option maxRecDepth 20000 in
theorem rwords_any (s : ByteArray) (w : World) (hs : s.size ≤ 4294967296) :
    Calls Tryd.prog 14 #[.string s] w (WordsQ s w) := by
  have HS := hid hs
  have hsz : (s.size : Int) ≤ 4294967296 := by omega
  clear hs
  go_enter Tryd.func14, Tryd.ntmps14
  go_wp2_with fail
  refine (rcheck_any s _ (by have := HS.out; omega)).mono ?_
  rintro e w1 ⟨rfl, hb1⟩
  have HB1 := hid hb1
  clear hb1
  by_cases he : (chkA s 0 0).2.2 = 0
  case neg =>
    have hr := wres_bad he
    have hx : ((chkA s 0 0).2.2 != 0) = true := by rw [bne_iff_ne]; exact he
    generalize (chkA s 0 0).2.2 = x at *
    generalize (chkA s 0 0).2.1 = y at *
    have HR := hid hr
    clear hr he
    go_wp2
    go_ret3
    exact wordsQ_bad HR.out HB1.out rfl rfl
  have HE := hid he
  rw [he]
  clear he
  go_wp2
  go_loopw [8, 9] (fun v i wr => ∃ (vo : Value) (p : Nat), vo = v ∧ i = .int .i64 p ∧ Hid (∃ l, Rd w wr s p l vo)) (fun _ i _ => s.size - (intOf i).toNat)
  case atStart => exact ⟨_, 0, rfl, rfl, [], HB1.out, ⟨rfl, .inl ⟨rfl, rfl⟩⟩, rfl, Nat.le_refl _, Nat.zero_le _⟩
  case round =>
    obtain ⟨v, p, rfl, rfl, hrel⟩ := hrel
    obtain ⟨l, D⟩ := hrel.out
    clear hrel
    have HD := hid D
    clear D
    have hple := HD.out.ple
    have iw1 : IntKind.i64.wrap ((p : Int) + 1) = (p : Int) + 1 := IntWalk.i64_in _ (by omega)
    obtain ⟨A0, cap0, rfl⟩ : ∃ A cap, v = .slice A l.length cap := rowS_slice HD.out.row
    obtain ⟨wo, rfl⟩ : ∃ wo : World, wo = wr := ⟨_, rfl⟩
    by_cases hp : p < s.size
    · have hpi : (p : Int) < (s.size : Int) := by omega
      obtain ⟨x, hx⟩ : ∃ x, s[p]'hp = x := ⟨_, rfl⟩
      have hb : x.toNat < 256 := x.toNat_lt
      have hg : Hid (s.get! p = x) := (get_at s p hp).trans hx
      have HP := hid hp
      by_cases h32 : x.toNat = 32
      · have t1 : ((x.toNat : Int) == 32) = true := by rw [beq_iff_eq]; omega
        have HR := hid (HD.out.on hp (sp_on hp (by rw [hg.out]; exact h32)))
        clear h32 hb hg
        go_wp2
        go_roundw
        case rel => exact ⟨_, p + 1, rfl, by go_num, _, HR.out⟩
        case measure => have := HP.out; simp only [intOf]; omega
      have t1 : ((x.toNat : Int) == 32) = false := by rw [beq_eq_false_iff_ne]; omega
      by_cases h34 : x.toNat = 34
      · have t2 : ((x.toNat : Int) == 34) = true := by rw [beq_iff_eq]; omega
        have HQ : Hid (∀ l, bgoA s p 0 [] l = bgoA s (p + 1) 2 [] l) := fun l => quo_on hp (by rw [hg.out]; exact h34)
        clear h32 h34 hb hg
        go_wp2_with fail
        refine (quoted_any s p _ (by have := HS.out; omega) HP.out).mono ?_
        rintro e w2 ⟨⟨k, rfl, hk⟩ | ⟨v', k, bs, rfl, hk0, hks, hrow, hk⟩, hb2⟩
        · have HD2 := hid (HD.out.step hb2)
          have HK : Hid (bgoA s p 0 [] l = .inl k) := (HQ.out l).trans (hk l)
          clear hb2 hk
          go_wp2
          go_ret3
          exact HD2.out.bad HE.out HK.out rfl HD2.out.bel
        · have HD2 := hid (HD.out.step hb2)
          have HK : Hid (bgoA s p 0 [] l = bgoA s k 4 [] (l ++ [⟨bs.toArray⟩])) := (HQ.out l).trans (hk l)
          have HL : Hid (p < k ∧ k ≤ s.size) := ⟨hk0, hks⟩
          have hconv := fun W' (hW : W' = w2) => by
            subst hW; exact row_string hrow
          obtain ⟨A1, cap1, rfl⟩ : ∃ A cap, v' = .slice A bs.length cap := rowS_slice hrow
          have hconv2 := hconv w2 rfl
          clear hb2 hk hrow hconv
          by_cases hkl : k < s.size
          · have hki : (k : Int) < (s.size : Int) := by omega
            obtain ⟨y, hy⟩ : ∃ x, s[k]'hkl = x := ⟨_, rfl⟩
            have hby : y.toNat < 256 := y.toNat_lt
            have hgy : Hid (s.get! k = y) := (get_at s k hkl).trans hy
            by_cases k32 : y.toNat = 32
            · have u1 : ((y.toNat : Int) != 32) = false := by rw [bne_eq_false_iff_eq]; omega
              obtain ⟨g, cap', w4, happ, D4⟩ := HD2.out.put (by have := HS.out; omega) ⟨bs.toArray⟩ 27 hk0 hks (HK.out.trans (beh_sp hkl (by rw [hgy.out]; exact k32)))
              have HAPP := hid happ
              have HD4 := hid D4
              clear happ D4 k32 hby hgy hk0 hks
              go_wp2_with (at_builtin; refine wpList_append_eq rfl _ _ _ rfl rfl rfl HAPP.out ?_)
              go_roundw
              case rel => exact ⟨_, k, rfl, rfl, _, HD4.out⟩
              case measure => have := HL.out; simp only [intOf]; omega
            · have u1 : ((y.toNat : Int) != 32) = true := by rw [bne_iff_ne]; omega
              have HN : Hid (bgoA s p 0 [] l = .inl k) := HK.out.trans (beh_no hkl (by rw [hgy.out]; exact k32))
              clear k32 hby hgy hk0 hks
              go_wp2
              go_ret3
              exact HD2.out.bad HE.out HN.out rfl HD2.out.bel
          · have hki : ¬ (k : Int) < (s.size : Int) := by omega
            obtain ⟨g, cap', w4, happ, D4⟩ := HD2.out.put (by have := HS.out; omega) ⟨bs.toArray⟩ 27 hk0 hks (HK.out.trans (beh_end hkl))
            have HAPP := hid happ
            have HD4 := hid D4
            clear happ D4 hk0 hks
            go_wp2_with (at_builtin; refine wpList_append_eq rfl _ _ _ rfl rfl rfl HAPP.out ?_)
            go_roundw
            case rel => exact ⟨_, k, rfl, rfl, _, HD4.out⟩
            case measure => have := HL.out; simp only [intOf]; omega
      have t2 : ((x.toNat : Int) == 34) = false := by rw [beq_eq_false_iff_ne]; omega
      have HX : Hid ((s.get! p).toNat ≠ 32 ∧ (s.get! p).toNat ≠ 34) := by unfold Hid; rw [hg.out]; exact ⟨h32, h34⟩
      clear h32 h34 hb hg
      go_wp2
      go_loopw [13] (fun k wx => ∃ q : Nat, k = .int .i64 q ∧ wx = wo ∧ p ≤ q ∧ q ≤ s.size ∧ Hid (∀ j, p ≤ j → j < q → (s.get! j).toNat ≠ 32 ∧ (s.get! j).toNat ≠ 34)) (fun k _ => s.size - (intOf k).toNat)
      case atStart => exact ⟨p, rfl, rfl, Nat.le_refl _, by omega, fun j h1 h2 => by omega⟩
      case round =>
        obtain ⟨q, rfl, rfl, hpq, hqs, HJ⟩ := hrel
        have iwq : IntKind.i64.wrap ((q : Int) + 1) = (q : Int) + 1 := IntWalk.i64_in _ (by omega)
        by_cases hq : q < s.size
        · have hqi : (q : Int) < (s.size : Int) := by omega
          obtain ⟨y, hy⟩ : ∃ x, s[q]'hq = x := ⟨_, rfl⟩
          have hby : y.toNat < 256 := y.toNat_lt
          have hgy : Hid (s.get! q = y) := (get_at s q hq).trans hy
          by_cases k32 : y.toNat = 32
          · have u1 : ((y.toNat : Int) != 32) = false := by rw [bne_eq_false_iff_eq]; omega
            have u2 : ((y.toNat : Int) == 34) = false := by rw [beq_eq_false_iff_ne]; omega
            have hlt : p < q := by
              rcases Nat.lt_or_ge p q with h | h
              · exact h
              · obtain rfl : p = q := by omega
                have h1 := HX.out.1
                rw [hgy.out] at h1
                exact absurd k32 h1
            have hpqi : (p : Int) ≤ (q : Int) := by omega
            have hqsi : (q : Int) ≤ (s.size : Int) := by omega
            obtain ⟨g, cap', w4, happ, D4⟩ := HD.out.put (by have := HS.out; omega) (s.extract p q) 27 hlt hqs (((bare_word hlt hqs HJ.out).trans (bare_sp hq (by rw [hgy.out]; exact k32))).trans (by rw [ext_mk]))
            have HAPP := hid happ
            have HD4 := hid D4
            clear happ D4 k32 hby hgy hpq hqs
            go_wp2_with (at_builtin; refine wpList_append_eq rfl _ _ _ rfl rfl rfl HAPP.out ?_)
            go_roundw
            case rel => exact ⟨_, q, rfl, rfl, _, HD4.out⟩
            case measure => have := HP.out; simp only [intOf]; omega
          · have u1 : ((y.toNat : Int) != 32) = true := by rw [bne_iff_ne]; omega
            by_cases k34 : y.toNat = 34
            · have u2 : ((y.toNat : Int) != 34) = false := by rw [bne_eq_false_iff_eq]; omega
              have u3 : ((y.toNat : Int) == 34) = true := by rw [beq_iff_eq]; omega
              have hlt : p < q := by
                rcases Nat.lt_or_ge p q with h | h
                · exact h
                · obtain rfl : p = q := by omega
                  have h1 := HX.out.2
                  rw [hgy.out] at h1
                  exact absurd k34 h1
              have HN : Hid (bgoA s p 0 [] l = .inl q) := (bare_word hlt hqs HJ.out).trans (bare_no hq (by rw [hgy.out]; exact k34))
              clear k32 k34 hby hgy hpq hqs hlt
              go_wp2
              go_ret3
              exact HD.out.bad HE.out HN.out rfl HD.out.bel
            · have u2 : ((y.toNat : Int) != 34) = true := by rw [bne_iff_ne]; omega
              have HJ2 : Hid (∀ j, p ≤ j → j < q + 1 → (s.get! j).toNat ≠ 32 ∧ (s.get! j).toNat ≠ 34) := fun j h1 h2 => by
                rcases Nat.lt_or_ge j q with h | h
                · exact HJ.out j h1 h
                · obtain rfl : j = q := by omega
                  rw [hgy.out]; exact ⟨k32, k34⟩
              have HQ : Hid (p ≤ q + 1 ∧ q + 1 ≤ s.size) := ⟨by omega, hq⟩
              clear k32 k34 hby hgy hpq hqs
              go_wp2
              go_roundw
              case rel => exact ⟨q + 1, by go_num, (by trivial), HQ.out.1, HQ.out.2, HJ2.out⟩
              case measure => have := HQ.out; simp only [intOf]; omega
        · have hqi : ¬ (q : Int) < (s.size : Int) := by omega
          have hlt : p < q := by omega
          have hpqi : (p : Int) ≤ (q : Int) := by omega
          have hqsi : (q : Int) ≤ (s.size : Int) := by omega
          obtain ⟨g, cap', w4, happ, D4⟩ := HD.out.put (by have := HS.out; omega) (s.extract p q) 27 hlt hqs (((bare_word hlt hqs HJ.out).trans (bare_end hq)).trans (by rw [ext_mk]))
          have HAPP := hid happ
          have HD4 := hid D4
          clear happ D4 hpq hqs
          go_wp2_with (at_builtin; refine wpList_append_eq rfl _ _ _ rfl rfl rfl HAPP.out ?_)
          go_roundw
          case rel => exact ⟨_, q, rfl, rfl, _, HD4.out⟩
          case measure => have := HP.out; simp only [intOf]; omega
    · have hpi : ¬ (p : Int) < (s.size : Int) := by omega
      have HN := hid hp
      clear hp
      go_wp2
      go_ret3
      exact HD.out.done HE.out HN.out
end Go.Proofs.YtlciijcfhfcbkaaDoor
