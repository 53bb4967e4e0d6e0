/- Chapter 13's statement: plain: the entries as the reference has them. -/
import Derived.Test.YtobgolceggeogaaRefZ
import Derived.Test.YtobgolceggeogaaRefN
namespace Go.Proofs.Ytobgolceggeogaa
open Go.RowKit
theorem infoRe : (Try.prog.info? 42).map (fun i => (i.zero, i.size, i.bytes)) = some (some (.agg #[.string ByteArray.empty, .int .i64 0, .int .i64 0, .int .i64 0, .int .i64 0]), 5, 48) := by kernel_rfl
theorem app_re {W : World} {B n : Nat} {v : Value} {l : List Ent} (hB : B ≤ W.heap.size) (hown : W.ownsRow B 42 5 v n (flatE l)) (hm : n ≤ 3000) (x : Ent) (ad : Addr) (had : ∀ j u, (flatE [x])[j]? = some u → W.cell? (ad.add j) = some u) :
    ∃ v' w', (Builtin.append_ #[43, 43] 43 #[v, .slice (some ad) 1 1]).run Try.prog W = .ok v' w' ∧ w'.ownsRow B 42 5 v' (n + 1) (flatE (l ++ [x])) ∧ W.grownBy w' v.ownBlock := by
  obtain ⟨i0, hi, hz0, hz1, hz2⟩ := info_parts infoRe
  obtain ⟨v', w', h1, h2, h3, -⟩ := run_append_own (P := Try.prog) W B 43 43 42 i0 _ 5 48 Try.underlying43 hi hz0 hz1 hz2 rfl (by omega) v n (flatE l) hown ad 1 1 (flatE [x]) rfl had (flatE_one _) (by unfold maxLen; omega) (by omega) hB
  exact ⟨v', w', h1, by rw [flatE_append]; exact h2, h3⟩
theorem ownsRow_at {w w' : World} {B : Nat} {v : Value} {t : TypeId} {z k : Nat} {xs : List Value} (h : w.ownsRow B t z v k xs) (e : ∀ g, v.ownBlock = some g → w'.heap[g]? = w.heap[g]?) : w'.ownsRow B t z v k xs := by
  obtain ⟨h3, h4 | ⟨g, cap, cur, rfl, hg, hh, rest⟩⟩ := h
  · exact ⟨h3, .inl h4⟩
  · exact ⟨h3, .inr ⟨g, cap, cur, rfl, hg, (e g rfl).trans hh, rest⟩⟩
theorem heap_drew_keep {w : World} {o : Obj} {g : Nat} (h : g < w.heap.size) : (w.alloc o).drew.heap[g]? = w.heap[g]? := Below.block (B := w.heap.size) (((Below.refl _ _).alloc (Nat.le_refl _) _).drew) g h
theorem slice_re {w : World} {B n : Nat} {v : Value} {xs : List Value} (h : w.ownsRow B 42 5 v n xs) : ∃ A cap, v = .slice A n cap := by
  obtain ⟨-, ⟨rfl, h0⟩ | ⟨g, cap, cur, rfl, _⟩⟩ := h
  · exact ⟨none, 0, by rw [h0]⟩
  · exact ⟨_, cap, rfl⟩
set_option maxRecDepth 20000 in
set_option maxHeartbeats 4000000 in
theorem plain_any (S : Option Addr) (len cap : Nat) (l : List Ent) (w : World) (hl : SlE w S len l) (hm : len ≤ 2500) :
    Calls Try.prog 36 #[.slice S len cap] w fun e w' => ∃ v, e = .returned v ∧ w'.ownsRow w.heap.size 42 5 v len (flatE l) ∧ Below w.heap.size w w' := by
  obtain ⟨hlen, hS⟩ := hl
  have HLEN := hid hlen
  have HSS := hid hS
  clear hlen hS
  go_enter Try.func36, Try.ntmps36
  go_wp2_with fail
  go_loopw [3, 4] (fun s3 i wr => ∃ (k : Nat) (v3 : Value), k ≤ len ∧ v3 = s3 ∧ i = .int .i64 k ∧ Hid (wr.ownsRow w.heap.size 42 5 v3 k (flatE (l.take k))) ∧ Hid (Below w.heap.size w wr)) (fun _ i _ => len - (intOf i).toNat)
  case atStart => exact ⟨0, _, Nat.zero_le _, rfl, rfl, World.ownsRow_nil _ _ _ _, Below.refl _ _⟩
  case round =>
    obtain ⟨k, v3, hkn, rfl, rfl, HO, HB⟩ := hrel
    by_cases hk : k < len
    · have hkl : k < l.length := by have := HLEN.out; omega
      obtain ⟨b, off, rfl, hb, hE⟩ : ∃ b off, S = some ⟨b, off, none⟩ ∧ b < w.heap.size ∧ HoldsE w b off l := by
        rcases HSS.out with h | h
        · rw [h] at hkl; simp at hkl
        · exact h
      obtain ⟨-, q0, q1, q2, q3, q4⟩ := hE.below hb HB.out k hkl
      obtain ⟨x, hx⟩ : ∃ x, x = l[k] := ⟨_, rfl⟩
      rw [← hx] at q0 q1 q2 q3 q4
      have HTK : Hid (l.take (k + 1) = l.take k ++ [x]) := by unfold Hid; rw [List.take_add_one, List.getElem?_eq_getElem hkl, hx]; rfl
      have hbr : b < wr.heap.size := Nat.lt_of_lt_of_le hb HB.out.size
      obtain ⟨x0, x1, x2, x3, x4⟩ := x
      simp only at q0 q1 q2 q3 q4
      have HK1 : Hid (k + 1 ≤ len) := hk
      have HM1 : Hid (len - (k + 1) < len - k) := by unfold Hid; omega
      have kl : (k : Int) < (len : Int) := by omega
      have ho := HO.out
      obtain ⟨A3, cap3, rfl⟩ := slice_re ho
      have ho2 : (wr.alloc (.cells #[.string x0, .int .i64 x1, .int .i64 x2, .int .i64 x3, .int .i64 x4] 42)).drew.ownsRow w.heap.size 42 5 (.slice A3 k cap3) k (flatE (l.take k)) := ownsRow_at ho (fun g hg => heap_drew_keep (ho.lt g hg).2)
      obtain ⟨v8, w8, happ, hown8, hg8⟩ := app_re (by have := HB.out.size; simp; omega) ho2 (by omega) (x0, x1, x2, x3, x4) ⟨wr.heap.size, 0, none⟩ (World.news_of_block (heap_drew_at (alloc_at wr (.cells #[.string x0, .int .i64 x1, .int .i64 x2, .int .i64 x3, .int .i64 x4] 42 (0, 0)))))
      have HAPP := hid happ
      have HN8 : Hid (w8.ownsRow w.heap.size 42 5 v8 (k + 1) (flatE (l.take (k + 1)))) := by
        unfold Hid
        rw [HTK.out]
        exact hown8
      have HB8 : Hid (Below w.heap.size w w8) := ((HB.out.alloc HB.out.size _).drew).trans (below_grown hg8 (by have := HB.out.size; simp; omega) (fun j e => (ho.lt j e).1))
      clear hx hkn happ hown8 hg8 ho ho2 hE
      go_upto_region 5 with fail
      go_region_law (refine step_append_eq rfl (.tmp 11) (.tmp 23) 43 rfl (v := .slice A3 k cap3) (y := .slice (some ⟨wr.heap.size, 0, none⟩) 1 1) (by simp [Act.eval, Act.put]) (by simp [Act.eval, Act.put]) HAPP.out ?_)
      all_goals
        go_wp2
        go_roundw
        case rel => exact ⟨k + 1, _, HK1.out, rfl, by go_num, HN8, HB8⟩
        case measure => have := HM1.out; simp [intOf]; omega
    · obtain rfl : k = len := by omega
      have HF : Hid (wr.ownsRow w.heap.size 42 5 v3 k (flatE l)) := by
        have := HO.out
        rwa [List.take_of_length_le (by have := HLEN.out; omega)] at this
      have ki : ¬ (k : Int) < (k : Int) := by omega
      go_wp2
      go_ret
      exact ⟨_, rfl, HF.out, HB.out⟩
end Go.Proofs.Ytobgolceggeogaa
