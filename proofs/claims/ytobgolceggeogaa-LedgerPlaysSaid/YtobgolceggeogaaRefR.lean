/- The reference's ledger of chapter 13 as a function of the key: Open, Take at one entry, Close, Left. -/
import Derived.Test.YtobgolceggeogaaRefS
import Derived.Test.YtobgolceggeogaaRefQ
import Derived.Test.YtobgolceggeogaaRefU
import Derived.Test.YtobgolceggeogaaRefC
import Derived.Test.YtobgolceggeogaaLedC
namespace Go.Proofs.Ytobgolceggeogaa
open Go.RowKit
def look (l : List RA) (s : ByteArray) : Option Acct := match l with
  | [] => none
  | x :: l => if x.1 = s then some x.2 else look l s
theorem look_append (a b : List RA) (s : ByteArray) : look (a ++ b) s = (look a s).or (look b s) := by
  induction a with
  | nil => simp [look]
  | cons x a ih => simp only [List.cons_append, look]; split <;> simp [ih]
theorem look_none (l : List RA) (s : ByteArray) : look l s = none ↔ s ∉ l.map (·.1) := by
  induction l with
  | nil => simp [look]
  | cons x a ih =>
    simp only [look, List.map_cons, List.mem_cons, not_or]
    split
    · rename_i h; simp [h]
    · rename_i h; rw [ih]; exact ⟨fun q => ⟨Ne.symm h, q⟩, fun q => q.2⟩
theorem look_find (l : List RA) (s : ByteArray) : (findI l s = -1 ∧ look l s = none) ∨ ∃ k, ∃ h : k < l.length, findI l s = k ∧ l[k].1 = s ∧ look l s = some l[k].2 := by
  induction l with
  | nil => exact .inl ⟨rfl, rfl⟩
  | cons x l ih =>
    simp only [findI, look]
    split
    · rename_i h
      exact .inr ⟨0, by simp, rfl, h, rfl⟩
    · rcases ih with ⟨h1, h2⟩ | ⟨k, hk, h1, h2, h3⟩
      · exact .inl ⟨by rw [h1]; rfl, h2⟩
      · refine .inr ⟨k + 1, by simp; omega, ?_, by simpa using h2, by simpa using h3⟩
        rw [if_neg (by omega), h1]; omega
theorem key_eq {s t : ByteArray} (h : s.data.toList = t.data.toList) : s = t := ByteArray.ext (Array.ext' h)
/-- The row says what the function says; no name is there twice. -/
def Row (A : Acc) (n : Nat) (l : List RA) : Prop := n = l.length ∧ (l.map (·.1)).Nodup ∧ ∀ s : ByteArray, A s.data.toList = look l s
theorem Row.nil : Row noA 0 [] := ⟨rfl, by simp, fun _ => rfl⟩
theorem parts {l : List RA} {k : Nat} (hk : k < l.length) : l = l.take k ++ l[k] :: l.drop (k + 1) := by simp
theorem Row.apart {A : Acc} {n : Nat} {l : List RA} (h : Row A n l) {k : Nat} (hk : k < l.length) : look (l.take k) l[k].1 = none ∧ look (l.drop (k + 1)) l[k].1 = none := by
  have h1 := h.2.1
  rw [parts hk, List.map_append, List.map_cons, List.nodup_append, List.nodup_cons] at h1
  rw [look_none, look_none]
  exact ⟨fun q => h1.2.2 _ q _ (by simp) rfl, h1.2.1.1⟩
theorem Row.set {A : Acc} {n : Nat} {l : List RA} (h : Row A n l) {k : Nat} (hk : k < l.length) (x : RA) (hx : x.1 = l[k].1) : Row (putA A x.1.data.toList x.2) n (l.set k x) := by
  obtain ⟨a1, a2⟩ := h.apart hk
  refine ⟨by rw [List.length_set]; exact h.1, ?_, fun s => ?_⟩
  · have e : (l.set k x).map (·.1) = l.map (·.1) := by
      rw [List.map_set, hx]
      have : l[k].1 = (l.map (·.1))[k]'(by simpa using hk) := by simp
      rw [this, List.set_getElem_self]
    rw [e]; exact h.2.1
  · rw [List.set_eq_take_append_cons_drop, if_pos hk, look_append]
    have h3 := h.2.2 s
    rw [parts hk, look_append] at h3
    unfold putA
    by_cases e : s = x.1
    · subst e
      rw [if_pos rfl, hx, a1]; simp [look, hx]
    · rw [if_neg (fun q => e (key_eq q)), h3]
      simp [look, hx, show ¬ l[k].1 = s from fun q => e (by rw [hx, q])]
theorem Row.ins {A : Acc} {n : Nat} {l : List RA} (h : Row A n l) (k : Nat) (x : RA) (hx : look l x.1 = none) : Row (putA A x.1.data.toList x.2) (n + 1) (l.take k ++ x :: l.drop k) := by
  have h0 := hx
  rw [← List.take_append_drop k l, look_append, Option.or_eq_none_iff] at hx
  obtain ⟨a1, a2⟩ := hx
  refine ⟨?_, ?_, fun s => ?_⟩
  · have := congrArg List.length (List.take_append_drop k l)
    simp only [List.length_append, List.length_cons] at this ⊢
    have := h.1
    omega
  · have h1 := h.2.1
    rw [← List.take_append_drop k l, List.map_append, List.nodup_append] at h1
    rw [look_none] at a1 a2
    rw [List.map_append, List.map_cons, List.nodup_append, List.nodup_cons]
    refine ⟨h1.1, ⟨a2, h1.2.1⟩, fun a ha b hb => ?_⟩
    rcases List.mem_cons.1 hb with rfl | hb
    · intro e; exact a1 (e ▸ ha)
    · exact h1.2.2 a ha b hb
  · rw [look_append]
    have h3 := h.2.2 s
    rw [← List.take_append_drop k l, look_append] at h3
    unfold putA
    by_cases e : s = x.1
    · subst e
      rw [if_pos rfl, a1]; simp [look]
    · rw [if_neg (fun q => e (key_eq q)), h3]
      simp [look, show ¬ x.1 = s from fun q => e q.symm]
theorem Row.del {A : Acc} {n : Nat} {l : List RA} (h : Row A n l) {k : Nat} (hk : k < l.length) : Row (delA A l[k].1.data.toList) (n - 1) (l.take k ++ l.drop (k + 1)) := by
  obtain ⟨a1, a2⟩ := h.apart hk
  refine ⟨by have := h.1; simp; omega, ?_, fun s => ?_⟩
  · refine List.Nodup.sublist ?_ h.2.1
    refine List.Sublist.map _ ?_
    conv => rhs; rw [parts hk]
    exact List.Sublist.append (List.Sublist.refl _) (List.sublist_cons_self _ _)
  · rw [look_append]
    have h3 := h.2.2 s
    rw [parts hk, look_append] at h3
    unfold delA
    by_cases e : s = l[k].1
    · subst e
      rw [if_pos rfl, a1, a2]; rfl
    · rw [if_neg (fun q => e (key_eq q)), h3]
      simp [look, show ¬ l[k].1 = s from fun q => e q.symm]
/-- The reference's ledger behind R holds what A says. -/
def RefB (B : Nat) (w : World) (R n : Nat) (A : Acc) : Prop := ∃ v l, RefL B w R v l ∧ Row A n l
theorem RefB.below {B R n : Nat} {A : Acc} {w w' : World} (h : RefB B w R n A) (hb : Below w.heap.size w w') : RefB B w' R n A := by
  obtain ⟨v, l, h1, h2⟩ := h
  exact ⟨v, l, h1.below hb, h2⟩
theorem RefPost.to {B R n : Nat} {A : Acc} {w w' : World} {l : List RA} (h : RefPost B w w' R l) (hr : Row A n l) : RefB B w' R n A ∧ Below B w w' ∧ KeptT w w' := by
  obtain ⟨⟨v, h1⟩, h2, h3⟩ := h
  exact ⟨⟨v, l, h1, hr⟩, h2, h3⟩
theorem ropen_b (B R n : Nat) (A : Acc) (s : ByteArray) (a b c d : Int) (w : World) (hB : B ≤ w.heap.size) (hR : RefB B w R n A) (hn : n ≤ 64) :
    Calls Try.prog 14 #[.pointer (some ⟨R, 0, none⟩), .string s, .agg #[.int .i64 a, .int .i64 b, .int .i64 c, .int .i64 d]] w fun e w' =>
      e = .returned (.int .i64 (openE A n s.data.toList (a, b, c, d))) ∧ RefB B w' R (openN A n s.data.toList (a, b, c, d)) (openA A n s.data.toList (a, b, c, d)) ∧ Below B w w' ∧ KeptT w w' := by
  obtain ⟨v, l, h1, h2⟩ := hR
  have hl := h2.1
  have hA := h2.2.2 s
  by_cases hv : okV (a, b, c, d) = true
  · rcases look_find l s with ⟨k1, k2⟩ | ⟨k, hk, k1, k2, k3⟩
    · rw [k2] at hA
      by_cases h64 : 64 ≤ l.length
      · have e : openE A n s.data.toList (a, b, c, d) = 6 := by unfold openE; rw [if_pos hv, hA]; simp; omega
        refine (ropen_full B R v l s a b c d w hB h1 (by omega) hv k1 h64).mono ?_
        rintro x w' ⟨rfl, hp⟩
        unfold openA openN
        rw [e, if_neg (by decide), if_neg (by decide)]
        exact ⟨rfl, hp.to h2⟩
      · have e : openE A n s.data.toList (a, b, c, d) = 0 := by unfold openE; rw [if_pos hv, hA]; simp; omega
        refine (ropen_new B R v l s a b c d w hB h1 (by omega) hv k1 (by omega)).mono ?_
        rintro x w' ⟨rfl, k, hk, hp⟩
        unfold openA openN
        rw [e, if_pos rfl, if_pos rfl, hA]
        exact ⟨rfl, hp.to (h2.ins k (s, (a, b, c, d), zeroV) k2)⟩
    · rw [k3] at hA
      have e : openE A n s.data.toList (a, b, c, d) = 0 := by unfold openE; rw [if_pos hv, hA]; simp
      refine (ropen_old B R v l s a b c d w hB h1 (by omega) hv k k1 hk).mono ?_
      rintro x w' ⟨rfl, hp⟩
      unfold openA openN
      rw [e, if_pos rfl, if_pos rfl, hA]
      have r := h2.set hk (l[k].1, (a, b, c, d), l[k].2.2) rfl
      simp only [k2] at r hp
      exact ⟨rfl, hp.to r⟩
  · have hv' : okV (a, b, c, d) = false := by simpa using hv
    have e : openE A n s.data.toList (a, b, c, d) = 4 := by unfold openE; rw [hv']; rfl
    refine (ropen_form B R v l s a b c d w hB h1 hv').mono ?_
    rintro x w' ⟨rfl, hp⟩
    unfold openA openN
    rw [e, if_neg (by decide), if_neg (by decide)]
    exact ⟨rfl, hp.to h2⟩
theorem rclose_b (B R n : Nat) (A : Acc) (s : ByteArray) (w : World) (hB : B ≤ w.heap.size) (hR : RefB B w R n A) (hn : n ≤ 64) :
    Calls Try.prog 17 #[.pointer (some ⟨R, 0, none⟩), .string s] w fun e w' =>
      e = .returned (.int .i64 (closeE A s.data.toList)) ∧ RefB B w' R (closeN A n s.data.toList) (closeA A s.data.toList) ∧ Below B w w' ∧ KeptT w w' := by
  obtain ⟨v, l, h1, h2⟩ := hR
  have hl := h2.1
  have hA := h2.2.2 s
  rcases look_find l s with ⟨k1, k2⟩ | ⟨k, hk, k1, k2, k3⟩
  · rw [k2] at hA
    have e : closeE A s.data.toList = 3 := by unfold closeE; rw [hA]
    refine (rclose_none B R v l s w hB h1 (by omega) k1).mono ?_
    rintro x w' ⟨rfl, hp⟩
    unfold closeA closeN
    rw [e, if_neg (by decide), if_neg (by decide)]
    exact ⟨rfl, hp.to h2⟩
  · rw [k3] at hA
    by_cases hu : l[k].2.2 = zeroV
    · have e : closeE A s.data.toList = 0 := by unfold closeE; rw [hA]; exact if_pos hu
      refine (rclose_ok B R v l s w hB h1 (by omega) k k1 hk hu).mono ?_
      rintro x w' ⟨rfl, hp⟩
      unfold closeA closeN
      rw [e, if_pos rfl, if_pos rfl]
      have r := h2.del hk
      rw [k2] at r
      exact ⟨rfl, hp.to r⟩
    · have e : closeE A s.data.toList = 10 := by unfold closeE; rw [hA]; exact if_neg hu
      refine (rclose_used B R v l s w hB h1 (by omega) k k1 hk hu).mono ?_
      rintro x w' ⟨rfl, hp⟩
      unfold closeA closeN
      rw [e, if_neg (by decide), if_neg (by decide)]
      exact ⟨rfl, hp.to h2⟩
theorem rleft_b (B R n : Nat) (A : Acc) (s : ByteArray) (w : World) (hR : RefB B w R n A) (hn : n ≤ 64) (hi : Inv A) :
    Calls Try.prog 19 #[.pointer (some ⟨R, 0, none⟩), .string s] w fun e w' =>
      e = .returned (.tuple #[vv (leftOf A s.data.toList), .int .i64 (if (A s.data.toList).isSome then 0 else 3)]) ∧ Below w.heap.size w w' := by
  obtain ⟨v, l, h1, h2⟩ := hR
  have hl := h2.1
  have hA := h2.2.2 s
  rcases look_find l s with ⟨k1, k2⟩ | ⟨k, hk, k1, k2, k3⟩
  · rw [k2] at hA
    refine (rleft_none B R v l s w h1 (by omega) k1).mono ?_
    rintro x w' ⟨rfl, hp⟩
    refine ⟨?_, hp⟩
    unfold leftOf limOf usedOf
    rw [hA]
    rfl
  · rw [k3] at hA
    refine (rleft_some B R v l s w h1 (by omega) k k1 hk (hi _ _ hA)).mono ?_
    rintro x w' ⟨rfl, hp⟩
    refine ⟨?_, hp⟩
    unfold leftOf limOf usedOf
    rw [hA]
    rfl
theorem capV_ok {v : V} (h : okV v = true) : capV zeroV v = v := by
  obtain ⟨⟨-, h1⟩, ⟨-, h2⟩, ⟨-, h3⟩, ⟨-, h4⟩⟩ := (okV_iff v).1 h
  obtain ⟨a, b, c, d⟩ := v
  simp only [capV, zeroV, cap1, Prod.mk.injEq] at *
  refine ⟨?_, ?_, ?_, ?_⟩ <;> omega
theorem sums_one (s : ByteArray) {v : V} (h : okV v = true) : sumsOf [(s, v)] = putA noA s.data.toList v := by
  simp only [sumsOf, List.foldl_cons, List.foldl_nil, sumStep, nm]
  rw [show ((noA : Sums) s.data.toList).getD zeroV = zeroV from rfl, capV_ok h]
theorem gath_one (A : Acc) (s : ByteArray) (v : V) : gathE A [(s, v)] = if okV v then (if (A s.data.toList).isSome then 0 else 3) else 4 := by
  simp [gathE, nm]
theorem take_one (A : Acc) (s : ByteArray) {v : V} (h : okV v = true) (x : Acct) (hA : A s.data.toList = some x) : takeE A [(s, v)] = if fitsV (addV x.2 v) x.1 then 0 else 9 := by
  unfold takeE
  rw [gath_one, if_pos h, hA, sums_one s h]
  simp only [Option.isSome_some, if_true, List.all_cons, List.all_nil, Bool.and_true, takeFits, nm, usedOf, limOf, hA, putA_same, Option.getD_some]
theorem takeR_one (A : Acc) (s : ByteArray) {v : V} (h : okV v = true) (x : Acct) (hA : A s.data.toList = some x) (h0 : takeE A [(s, v)] = 0) : takeR A [(s, v)] = putA A s.data.toList (x.1, addV x.2 v) := by
  unfold takeR
  rw [if_pos h0, sums_one s h]
  funext k
  unfold takeA putA
  by_cases e : k = s.data.toList
  · subst e; simp [hA]
  · simp [e, noA]
theorem rtake_b (B R n : Nat) (A : Acc) (s : ByteArray) (a b c d : Int) (p cap : Nat) (w : World) (hB : B ≤ w.heap.size) (hR : RefB B w R n A) (hn : n ≤ 64) (hi : Inv A) (hp : w.heap[p]? = some (.cells #[.string s, .int .i64 a, .int .i64 b, .int .i64 c, .int .i64 d] 42 (0, 0))) :
    Calls Try.prog 15 #[.pointer (some ⟨R, 0, none⟩), .slice (some ⟨p, 0, none⟩) 1 cap] w fun e w' =>
      e = .returned (.int .i64 (takeE A [(s, a, b, c, d)])) ∧ RefB B w' R n (takeR A [(s, a, b, c, d)]) ∧ Below B w w' ∧ KeptT w w' := by
  obtain ⟨v, l, h1, h2⟩ := hR
  have hl := h2.1
  have hA := h2.2.2 s
  by_cases hv : okV (a, b, c, d) = true
  · rcases look_find l s with ⟨k1, k2⟩ | ⟨k, hk, k1, k2, k3⟩
    · rw [k2] at hA
      have e : takeE A [(s, a, b, c, d)] = 3 := by unfold takeE; rw [gath_one, if_pos hv, hA]; rfl
      refine (rtake_none B R v l s a b c d p cap w hB h1 (by omega) hp hv k1).mono ?_
      rintro x w' ⟨rfl, hp⟩
      unfold takeR
      rw [e, if_neg (by decide)]
      exact ⟨rfl, hp.to h2⟩
    · rw [k3] at hA
      obtain ⟨g, rcap, rfl, -⟩ := h1.row (by omega)
      obtain ⟨o1, o2⟩ := hi _ _ hA
      obtain ⟨y, hy⟩ : ∃ y, l[k] = y := ⟨_, rfl⟩
      rw [hy] at hA o1 o2 k2
      obtain ⟨y0, ⟨y1, y2, y3, y4⟩, y5, y6, y7, y8⟩ := y
      simp only at k2
      subst k2
      have e := take_one A y0 hv _ hA
      have hf : fitsV (addV (y5, y6, y7, y8) (a, b, c, d)) (y1, y2, y3, y4) = true ↔ (y5 + a ≤ y1 ∧ y6 + b ≤ y2 ∧ y7 + c ≤ y3 ∧ y8 + d ≤ y4) := by
        rw [fitsV_iff]; exact Iff.rfl
      have hno : ¬ (y5 + a ≤ y1 ∧ y6 + b ≤ y2 ∧ y7 + c ≤ y3 ∧ y8 + d ≤ y4) → takeE A [(y0, a, b, c, d)] = 9 := fun q => by
        rw [e, if_neg (fun q' => q (hf.1 q'))]
      have hq : takeE A [(y0, a, b, c, d)] = 9 → ∀ w', RefPost B w w' R l → takeE A [(y0, a, b, c, d)] = 9 ∧ RefB B w' R n (takeR A [(y0, a, b, c, d)]) ∧ Below B w w' ∧ KeptT w w' := fun q w' hp => by
        refine ⟨q, ?_⟩
        unfold takeR
        rw [q, if_neg (by decide)]
        exact hp.to h2
      by_cases f0 : y5 + a ≤ y1
      · by_cases f1 : y6 + b ≤ y2
        · by_cases f2 : y7 + c ≤ y3
          · by_cases f3 : y8 + d ≤ y4
            · have e0 : takeE A [(y0, a, b, c, d)] = 0 := by rw [e, if_pos (hf.2 ⟨f0, f1, f2, f3⟩)]
              refine (rtake_ok B R g rcap l y0 a b c d y1 y2 y3 y4 y5 y6 y7 y8 p cap w hB h1 (by omega) hp k k1 hk hy o1 o2 hv f0 f1 f2 f3).mono ?_
              rintro x w' ⟨rfl, hp⟩
              rw [e0, takeR_one A y0 hv _ hA e0]
              have r := h2.set hk (y0, (y1, y2, y3, y4), y5 + a, y6 + b, y7 + c, y8 + d) (by rw [hy])
              exact ⟨rfl, hp.to r⟩
            · refine (rtake_quota3 B R g rcap l y0 a b c d y1 y2 y3 y4 y5 y6 y7 y8 p cap w hB h1 (by omega) hp k k1 hk hy o1 o2 hv f0 f1 f2 (by omega)).mono ?_
              rintro x w' ⟨rfl, hp⟩
              obtain ⟨q, r⟩ := hq (hno (by omega)) w' hp
              exact ⟨by rw [q], r⟩
          · refine (rtake_quota2 B R g rcap l y0 a b c d y1 y2 y3 y4 y5 y6 y7 y8 p cap w hB h1 (by omega) hp k k1 hk hy o1 o2 hv f0 f1 (by omega)).mono ?_
            rintro x w' ⟨rfl, hp⟩
            obtain ⟨q, r⟩ := hq (hno (by omega)) w' hp
            exact ⟨by rw [q], r⟩
        · refine (rtake_quota1 B R g rcap l y0 a b c d y1 y2 y3 y4 y5 y6 y7 y8 p cap w hB h1 (by omega) hp k k1 hk hy o1 o2 hv f0 (by omega)).mono ?_
          rintro x w' ⟨rfl, hp⟩
          obtain ⟨q, r⟩ := hq (hno (by omega)) w' hp
          exact ⟨by rw [q], r⟩
      · refine (rtake_quota0 B R g rcap l y0 a b c d y1 y2 y3 y4 y5 y6 y7 y8 p cap w hB h1 (by omega) hp k k1 hk hy o1 o2 hv (by omega)).mono ?_
        rintro x w' ⟨rfl, hp⟩
        obtain ⟨q, r⟩ := hq (hno (by omega)) w' hp
        exact ⟨by rw [q], r⟩
  · have hv' : okV (a, b, c, d) = false := by simpa using hv
    have e : takeE A [(s, a, b, c, d)] = 4 := by unfold takeE; rw [gath_one, hv']; rfl
    refine (rtake_form B R v l s a b c d p cap w hB h1 (by omega) hp hv').mono ?_
    rintro x w' ⟨rfl, hp⟩
    unfold takeR
    rw [e, if_neg (by decide)]
    exact ⟨rfl, hp.to h2⟩
end Go.Proofs.Ytobgolceggeogaa
