/- Chapter 1: the reference's quoted, by the automaton over bytes. -/
import Derived.Test.YtlciijcfhfcbkaaDoorWrW
import Derived.Test.YtlciijcfhfcbkaaDoorWrb
import Derived.Test.YtlciijcfhfcbkaaDoorRunB
import Derived.Laws.BytesArg
namespace Go.Proofs.YtlciijcfhfcbkaaDoor
open Go.RowKit
theorem wend2 (s : ByteArray) (b : List UInt8) (l : List ByteArray) : wend s 2 b l = .inl s.size := rfl
theorem wend3 (s : ByteArray) (b : List UInt8) (l : List ByteArray) : wend s 3 b l = .inl s.size := rfl
section
variable {s : ByteArray} {i : Nat} {b : List UInt8} {l : List ByteArray}
theorem quo_end (h : ¬ i < s.size) : bgoA s i 2 b l = .inl s.size := bgoA_end h
theorem quo_close (hi : i < s.size) (h : (s.get! i).toNat = 34) : bgoA s i 2 b l = bgoA s (i + 1) 4 [] (l ++ [⟨b.toArray⟩]) := bgoA_on hi (by unfold wstep; simp [h])
theorem quo_esc_end (hi : i < s.size) (h : (s.get! i).toNat = 92) (h2 : ¬ i + 1 < s.size) : bgoA s i 2 b l = bgoA s (i + 1) 2 b l := by
  rw [bgoA_on (q' := 3) (b' := b) (l' := l) hi (by unfold wstep; simp [h]), bgoA_end h2, bgoA_end h2]; rfl
theorem quo_esc (hi : i < s.size) (h : (s.get! i).toNat = 92) (h2 : i + 1 < s.size) (h3 : (s.get! (i + 1)).toNat = 34 ∨ (s.get! (i + 1)).toNat = 92) : bgoA s i 2 b l = bgoA s (i + 2) 2 (b ++ [s.get! (i + 1)]) l := by
  rw [bgoA_on (q' := 3) (b' := b) (l' := l) hi (by unfold wstep; simp [h])]
  exact bgoA_on h2 (by unfold wstep; simp [h3])
theorem quo_bad (hi : i < s.size) (h : (s.get! i).toNat = 92) (h2 : i + 1 < s.size) (h3 : ¬ (s.get! (i + 1)).toNat = 34) (h4 : ¬ (s.get! (i + 1)).toNat = 92) : bgoA s i 2 b l = .inl (i + 1) := by
  rw [bgoA_on (q' := 3) (b' := b) (l' := l) hi (by unfold wstep; simp [h])]
  exact bgoA_no h2 (by unfold wstep; simp [h3, h4])
theorem quo_put (hi : i < s.size) (h : ¬ (s.get! i).toNat = 34) (h' : ¬ (s.get! i).toNat = 92) : bgoA s i 2 b l = bgoA s (i + 1) 2 (b ++ [s.get! i]) l := bgoA_on hi (by unfold wstep; simp [h, h'])
end
theorem info_u8 : ∃ i0, Tryd.prog.info? 5 = some i0 ∧ i0.zero = some (.int .u8 0) ∧ i0.size = 1 ∧ i0.bytes = 1 := info_parts (by kernel_rfl)
theorem app_byte {B : Nat} {W : World} {v : Value} {l : List UInt8} (hB : B ≤ W.heap.size) (hR : W.ownsRow B 5 1 v l.length (Lib.byteCells l)) (hm : l.length ≤ 100000000000000) (ty : TypeId) (x : UInt8) (ad : Addr) (had : ∀ j u, ([Value.int .u8 x.toNat])[j]? = some u → W.cell? (ad.add j) = some u) :
    ∃ g cap' w', (Builtin.append_ #[39, 39] ty #[v, .slice (some ad) 1 1]).run Tryd.prog W = .ok (.slice (some ⟨g, 0, none⟩) (l.length + 1) cap') w' ∧
      w'.ownsRow B 5 1 (.slice (some ⟨g, 0, none⟩) (l.length + 1) cap') (l.length + 1) (Lib.byteCells (l ++ [x])) ∧ W.grownBy w' v.ownBlock := by
  obtain ⟨i0, hi, hz0, hz1, hz2⟩ := info_u8
  obtain ⟨v', w', h1, h2, h3, -⟩ := run_append_own (P := Tryd.prog) W B 39 ty 5 i0 _ 1 1 Tryd.underlying39 hi hz0 hz1 hz2 rfl (by omega) v l.length (Lib.byteCells l) hR ad 1 1 [.int .u8 x.toNat] rfl had (fun u hu => by simp at hu; subst hu; rfl) (by unfold maxLen; omega) (by omega) hB
  have h2' : w'.ownsRow B 5 1 v' (l.length + 1) (Lib.byteCells (l ++ [x])) := by
    rw [Lib.byteCells_append]; exact h2
  obtain ⟨h4, ⟨rfl, h0⟩ | ⟨g, cap', cur, rfl, rest⟩⟩ := h2'
  · omega
  · exact ⟨g, cap', w', h1, ⟨h4, .inr ⟨g, cap', cur, rfl, rest⟩⟩, h3⟩
theorem str_bytes (l : List UInt8) : strOfNums (l.map fun x => (x.toNat : Int)) = ⟨l.toArray⟩ := by
  apply ByteArray.ext
  apply Array.toList_inj.1
  rw [strOfNums_data, List.map_map]
  conv => rhs; rw [← List.map_id l]
  apply List.map_congr_left
  intro x _
  simp
/-- 'string(b)' of a row that is owned. -/
theorem row_string {W : World} {B : Nat} {v : Value} {l : List UInt8} (h : W.ownsRow B 5 1 v l.length (Lib.byteCells l)) : (convert 39 9 v).run Tryd.prog W = .ok (.string ⟨l.toArray⟩) W := by
  obtain ⟨h4, ⟨rfl, h0⟩ | ⟨g, cap, cur, rfl, hg, hh, hn, hm, hs, ht⟩⟩ := h
  · obtain rfl : l = [] := List.length_eq_zero_iff.1 h0
    exact run_convert_bytes_nil (P := Tryd.prog) W 39 5 Tryd.underlying39 Tryd.underlying5 0 0 9 Tryd.underlying9
  · have := run_convert_bytes_arg (P := Tryd.prog) W 39 5 Tryd.underlying39 Tryd.underlying5 g 0 l.length cap (l.map fun x => (x.toNat : Int)) (by simp) (fun i hi => by
      rw [Nat.zero_add, blk_cell hh, ← Array.getElem?_toList]
      have e1 := congrArg (·[i]?) ht
      simp only [List.getElem?_take, Nat.mul_one, if_pos hi] at e1
      rw [e1]
      simp [Lib.byteCells, hi]) 9 Tryd.underlying9
    rw [this, str_bytes l]
/-- quoted's contract: the place where it doesn't go on, or the word and the place behind it. -/
def QuoQ (s : ByteArray) (i0 : Nat) (w : World) (e : Ending) (w' : World) : Prop :=
  ((∃ k : Nat, e = .returned (.tuple #[.slice none 0 0, .int .i64 k, .bool false]) ∧ ∀ l, bgoA s (i0 + 1) 2 [] l = .inl k) ∨
   (∃ v k bs, e = .returned (.tuple #[v, .int .i64 (k : Nat), .bool true]) ∧ i0 < k ∧ k ≤ s.size ∧ w'.ownsRow w.heap.size 5 1 v bs.length (Lib.byteCells bs) ∧ ∀ l, bgoA s (i0 + 1) 2 [] l = bgoA s k 4 [] (l ++ [⟨bs.toArray⟩]))) ∧ Below w.heap.size w w'
/-- quoted under way. -/
structure Qd (w wr : World) (s : ByteArray) (i0 p : Nat) (bs : List UInt8) (v : Value) : Prop where
  bel : Below w.heap.size w wr
  row : wr.ownsRow w.heap.size 5 1 v bs.length (Lib.byteCells bs)
  go : ∀ l, bgoA s (i0 + 1) 2 [] l = bgoA s p 2 bs l
  small : bs.length ≤ p
  from0 : i0 < p
  ple : p ≤ s.size
theorem Qd.put {w wr : World} {s : ByteArray} {i0 p : Nat} {bs : List UInt8} {v : Value} (h : Qd w wr s i0 p bs v) (hs : s.size ≤ 100000000000000) (x : UInt8) (ty : TypeId) {p' : Nat} (hp' : p < p') (hp2 : p' ≤ s.size) (hg : ∀ l, bgoA s p 2 bs l = bgoA s p' 2 (bs ++ [x]) l) :
    ∃ g cap' w', (Builtin.append_ #[39, 39] ty #[v, .slice (some ⟨wr.heap.size, 0, none⟩) 1 1]).run Tryd.prog (wr.alloc (.cells #[.int .u8 x.toNat] 5)) = .ok (.slice (some ⟨g, 0, none⟩) (bs.length + 1) cap') w' ∧
      Qd w w' s i0 p' (bs ++ [x]) (.slice (some ⟨g, 0, none⟩) (bs.length + 1) cap') := by
  have hsz := h.bel.size
  have hlt := fun g hg => (h.row.lt g hg).2
  obtain ⟨g, cap', w', h1, h2, h3⟩ := app_byte (B := w.heap.size) (W := wr.alloc (.cells #[.int .u8 x.toNat] 5)) (by simp; omega) (rowS_at (w' := wr.alloc (.cells #[.int .u8 x.toNat] 5)) h.row (fun g hg => Below.heap_alloc _ _ _ (hlt g hg))) (by have := h.small; have := h.ple; omega) ty x ⟨wr.heap.size, 0, none⟩ (World.news_of_block (alloc_at wr _))
  refine ⟨g, cap', w', h1, ?_, by rw [show (bs ++ [x]).length = bs.length + 1 by simp]; exact h2, fun l => (h.go l).trans (hg l), by have := h.small; simp; omega, by have := h.from0; omega, hp2⟩
  exact (h.bel.alloc (by omega) _).grown h3 (by simp; omega) (fun k hk => (h.row.lt k hk).1)
theorem quo_no {s : ByteArray} {i0 k : Nat} {w w' : World} {y : Int} (hb : Below w.heap.size w w') (h : ∀ l, bgoA s (i0 + 1) 2 [] l = .inl k) (hy : y = k) : QuoQ s i0 w (.returned (.tuple #[.slice none 0 0, .int .i64 y, .bool false])) w' := by
  subst hy
  exact ⟨.inl ⟨k, rfl, h⟩, hb⟩
theorem quo_ok {s : ByteArray} {i0 p : Nat} {bs : List UInt8} {v : Value} {w w' : World} {y : Int} (D : Qd w w' s i0 p bs v) (hp : p < s.size) (h : (s.get! p).toNat = 34) (hy : y = (p : Int) + 1) : QuoQ s i0 w (.returned (.tuple #[v, .int .i64 y, .bool true])) w' := by
  subst hy
  exact ⟨.inr ⟨v, p + 1, bs, rfl, by have := D.from0; omega, hp, D.row, fun l => (D.go l).trans (quo_close hp h)⟩, D.bel⟩
set_option maxHeartbeats 4000000 in
set_option maxRecDepth 20000 in
theorem quoted_any (s : ByteArray) (i0 : Nat) (w : World) (hs : s.size ≤ 100000000000000) (hi : i0 < s.size) : Calls Tryd.prog 22 #[.string s, .int .i64 i0] w (QuoQ s i0 w) := by
  have HS := hid hs
  have hsz : (s.size : Int) ≤ 100000000000000 := by omega
  have HI := hid hi
  have iw0 : IntKind.i64.wrap ((i0 : Int) + 1) = (i0 : Int) + 1 := IntWalk.i64_in _ (by omega)
  clear hs hi
  go_enter Tryd.func22, Tryd.ntmps22
  go_wp2
  go_loopw [1, 7] (fun i v wr => ∃ (vo : Value) (p : Nat), vo = v ∧ i = .int .i64 p ∧ Hid (∃ bs, Qd w wr s i0 p bs vo)) (fun i _ _ => s.size - (intOf i).toNat)
  case atStart => exact ⟨_, i0 + 1, rfl, by go_num, [], Below.refl _ _, ⟨rfl, .inl ⟨rfl, rfl⟩⟩, fun _ => rfl, by simp, by omega, HI.out⟩
  case round =>
    obtain ⟨v, p, rfl, rfl, hrel⟩ := hrel
    obtain ⟨bs, D⟩ := hrel.out
    clear hrel
    have HD := hid D
    clear D
    have hple := HD.out.ple
    have iw1 : IntKind.i64.wrap ((p : Int) + 1) = (p : Int) + 1 := IntWalk.i64_in _ (by omega)
    obtain ⟨A0, cap0, rfl⟩ : ∃ A cap, v = .slice A bs.length cap := rowS_slice HD.out.row
    by_cases hp : p < s.size
    · have hpi : (p : Int) < (s.size : Int) := by omega
      obtain ⟨x, hx⟩ : ∃ x, s[p]'hp = x := ⟨_, rfl⟩
      have hb : x.toNat < 256 := x.toNat_lt
      have hg : Hid (s.get! p = x) := (get_at s p hp).trans hx
      have HP := hid hp
      by_cases h34 : x.toNat = 34
      · have t1 : ((x.toNat : Int) != 34) = false := by rw [bne_eq_false_iff_eq]; omega
        have HR : Hid ((s.get! p).toNat = 34) := by unfold Hid; rw [hg.out]; exact h34
        have hnle : ¬ (s.size : Int) ≤ (p : Int) := by omega
        clear h34 hb hg
        go_wp2
        go_ret3
        exact quo_ok HD.out HP.out HR.out rfl
      · have t1 : ((x.toNat : Int) != 34) = true := by rw [bne_iff_ne]; omega
        have HN : Hid (¬ (s.get! p).toNat = 34) := by unfold Hid; rw [hg.out]; exact h34
        by_cases h92 : x.toNat = 92
        · have t2 : ((x.toNat : Int) == 92) = true := by rw [beq_iff_eq]; omega
          have HE : Hid ((s.get! p).toNat = 92) := by unfold Hid; rw [hg.out]; exact h92
          clear h34 h92 hb hg
          by_cases hp1 : p + 1 < s.size
          · have hp1i : (p : Int) + 1 < (s.size : Int) := by omega
            have it1 : ((p : Int) + 1).toNat = p + 1 := by omega
            have iz1 : (0 : Int) ≤ (p : Int) + 1 := by omega
            have iw2 : IntKind.i64.wrap ((p : Int) + 1 + 1) = (p : Int) + 2 := by rw [IntWalk.i64_in _ (by omega)]; omega
            obtain ⟨y, hy⟩ : ∃ x, s[p + 1]'hp1 = x := ⟨_, rfl⟩
            have hby : y.toNat < 256 := y.toNat_lt
            have hgy : Hid (s.get! (p + 1) = y) := (get_at s (p + 1) hp1).trans hy
            have HP1 := hid hp1
            by_cases k34 : y.toNat = 34
            · have u1 : ((y.toNat : Int) != 34) = false := by rw [bne_eq_false_iff_eq]; omega
              have hgo : ∀ l, bgoA s p 2 bs l = bgoA s (p + 2) 2 (bs ++ [y]) l := fun l => by rw [← hgy.out]; exact quo_esc HP.out HE.out HP1.out (.inl (by rw [hgy.out]; exact k34))
              obtain ⟨g, cap', w4, happ, D4⟩ := HD.out.put HS.out y 39 (p' := p + 2) (by omega) (by omega) hgo
              have HAPP := hid happ
              have HD4 := hid D4
              clear happ D4 hgo k34 hby hgy
              go_wp2_with (at_builtin; refine wpList_append_eq rfl _ _ _ rfl rfl rfl HAPP.out ?_)
              go_roundw
              case rel => exact ⟨_, p + 2, rfl, by go_num, _, HD4.out⟩
              case measure => have := HP.out; simp only [intOf]; omega
            · have u1 : ((y.toNat : Int) != 34) = true := by rw [bne_iff_ne]; omega
              by_cases k92 : y.toNat = 92
              · have u2 : ((y.toNat : Int) != 92) = false := by rw [bne_eq_false_iff_eq]; omega
                have hgo : ∀ l, bgoA s p 2 bs l = bgoA s (p + 2) 2 (bs ++ [y]) l := fun l => by rw [← hgy.out]; exact quo_esc HP.out HE.out HP1.out (.inr (by rw [hgy.out]; exact k92))
                obtain ⟨g, cap', w4, happ, D4⟩ := HD.out.put HS.out y 39 (p' := p + 2) (by omega) (by omega) hgo
                have HAPP := hid happ
                have HD4 := hid D4
                clear happ D4 hgo k34 k92 hby hgy
                go_wp2_with (at_builtin; refine wpList_append_eq rfl _ _ _ rfl rfl rfl HAPP.out ?_)
                go_roundw
                case rel => exact ⟨_, p + 2, rfl, by go_num, _, HD4.out⟩
                case measure => have := HP.out; simp only [intOf]; omega
              · have u2 : ((y.toNat : Int) != 92) = true := by rw [bne_iff_ne]; omega
                have hgo : Hid (∀ l, bgoA s (i0 + 1) 2 [] l = .inl (p + 1)) := fun l => (HD.out.go l).trans (quo_bad HP.out HE.out HP1.out (by rw [hgy.out]; exact k34) (by rw [hgy.out]; exact k92))
                clear k34 k92 hby hgy
                go_wp2
                go_ret3
                exact quo_no HD.out.bel hgo.out rfl
          · have hp1i : ¬ (p : Int) + 1 < (s.size : Int) := by omega
            have hgo : Hid (Qd w wr s i0 (p + 1) bs (.slice A0 bs.length cap0)) := ⟨HD.out.bel, HD.out.row, fun l => (HD.out.go l).trans (quo_esc_end HP.out HE.out hp1), by have := HD.out.small; omega, by have := HD.out.from0; omega, HP.out⟩
            go_wp2
            go_roundw
            case rel => exact ⟨_, p + 1, rfl, by go_num, _, hgo.out⟩
            case measure => have := HP.out; simp only [intOf]; omega
        · have t2 : ((x.toNat : Int) == 92) = false := by rw [beq_eq_false_iff_ne]; omega
          have hgo : ∀ l, bgoA s p 2 bs l = bgoA s (p + 1) 2 (bs ++ [x]) l := fun l => by rw [← hg.out]; exact quo_put HP.out HN.out (by rw [hg.out]; exact h92)
          obtain ⟨g, cap', w4, happ, D4⟩ := HD.out.put HS.out x 39 (p' := p + 1) (by omega) (by omega) hgo
          have HAPP := hid happ
          have HD4 := hid D4
          clear happ D4 hgo h34 h92 hb hg
          go_wp2_with (at_builtin; refine wpList_append_eq rfl _ _ _ rfl rfl rfl HAPP.out ?_)
          go_roundw
          case rel => exact ⟨_, p + 1, rfl, by go_num, _, HD4.out⟩
          case measure => have := HP.out; simp only [intOf]; omega
    · have hpi : ¬ (p : Int) < (s.size : Int) := by omega
      have hle : (s.size : Int) ≤ (p : Int) := by omega
      have hgo : Hid (∀ l, bgoA s (i0 + 1) 2 [] l = .inl s.size) := fun l => (HD.out.go l).trans (quo_end hp)
      clear hp
      go_wp2
      go_ret3
      exact quo_no HD.out.bel hgo.out rfl
end Go.Proofs.YtlciijcfhfcbkaaDoor
