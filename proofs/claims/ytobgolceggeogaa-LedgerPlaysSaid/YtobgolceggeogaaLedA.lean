/- LedgerAll: the plain law, and its walk: of entries that are refused together none is taken. Asked: the slice holds the list of its entries. -/
import Derived.Test.YtobgolceggeogaaLedW
import Derived.OwnWalk
import Derived.Deep.AppendLies
namespace Go.Proofs.Ytobgolceggeogaa
open Go.RowKit
/-- The entries' cells, one behind the other. -/
def flatE : List Ent → List Value
  | [] => []
  | e :: l => .string e.1 :: .int .i64 e.2.1 :: .int .i64 e.2.2.1 :: .int .i64 e.2.2.2.1 :: .int .i64 e.2.2.2.2 :: flatE l
theorem flatE_length (l : List Ent) : (flatE l).length = l.length * 5 := by
  induction l with
  | nil => rfl
  | cons v l ih => simp only [flatE, List.length_cons, ih]; omega
theorem flatE_append (l l' : List Ent) : flatE (l ++ l') = flatE l ++ flatE l' := by
  induction l with
  | nil => rfl
  | cons v l ih => simp [flatE, ih]
theorem flatE_one (l : List Ent) : ∀ u ∈ flatE l, u.oneCell' = true := by
  induction l with
  | nil => intro u h; simp [flatE] at h
  | cons v l ih =>
    intro u h
    simp only [flatE, List.mem_cons] at h
    rcases h with rfl | rfl | rfl | rfl | rfl | h
    · rfl
    · rfl
    · rfl
    · rfl
    · rfl
    · exact ih u h
theorem flatE_at (l : List Ent) : ∀ j, (h : j < l.length) → (flatE l)[j * 5]? = some (.string l[j].1) ∧ (flatE l)[j * 5 + 1]? = some (.int .i64 l[j].2.1) ∧ (flatE l)[j * 5 + 2]? = some (.int .i64 l[j].2.2.1) ∧ (flatE l)[j * 5 + 3]? = some (.int .i64 l[j].2.2.2.1) ∧ (flatE l)[j * 5 + 4]? = some (.int .i64 l[j].2.2.2.2) := by
  induction l with
  | nil => intro j h; simp at h
  | cons v l ih =>
    intro j h
    cases j with
    | zero => simp [flatE]
    | succ j =>
      have hj : j < l.length := by simpa using h
      have := ih j hj
      simp only [flatE, show (j + 1) * 5 = j * 5 + 1 + 1 + 1 + 1 + 1 by omega, List.getElem?_cons_succ, List.getElem_cons_succ]
      exact this
/-- A row of the call's own that holds the entries' cells reads as the entries. -/
theorem slE_of_own {w : World} {base : Nat} {v : Value} {l : List Ent} (hz : ∀ e ∈ l, e.1.size ≤ maxLen) (h : w.ownsRow base 31 5 v l.length (flatE l)) :
    ∃ A cap, v = .slice A l.length cap ∧ SlE w A l.length l := by
  obtain ⟨_, ⟨rfl, h0⟩ | ⟨g, cap, cur, rfl, _, hh, _, _, _, ht⟩⟩ := h
  · exact ⟨none, 0, by rw [h0], rfl, .inl (List.length_eq_zero_iff.1 h0)⟩
  · refine ⟨_, cap, rfl, rfl, .inr ⟨g, 0, rfl, lt_of_at hh, ?_⟩⟩
    have key : ∀ i u, (flatE l)[i]? = some u → w.cell? ⟨g, 0 + i, none⟩ = some u := by
      intro i u hu
      rw [blk_cell hh, Nat.zero_add]
      rw [← ht, List.getElem?_take] at hu
      split at hu
      · simpa using hu
      · cases hu
    intro j hj
    obtain ⟨f0, f1, f2, f3, f4⟩ := flatE_at l j hj
    exact ⟨hz _ (List.getElem_mem hj), key _ _ f0, key _ _ f1, key _ _ f2, key _ _ f3, key _ _ f4⟩
theorem infoEz : (Try.prog.info? 31).map (fun i => (i.zero, i.size, i.bytes)) = some (some (.agg #[.string ByteArray.empty, .int .i64 0, .int .i64 0, .int .i64 0, .int .i64 0]), 5, 48) := by kernel_rfl
/-- One entry is appended. -/
theorem app_one {W : World} {base n : Nat} {v : Value} {l : List Ent} (hn : n = l.length) (hown : W.ownsRow base 31 5 v n (flatE l)) (hm : n ≤ 1000) (hbase : base ≤ W.heap.size) (s : ByteArray) (x0 x1 x2 x3 : Int) :
    ∃ v' w', (Builtin.append_ #[22, 22] 22 #[v, .slice (some ⟨W.heap.size, 0, none⟩) 1 1]).run Try.prog (W.alloc (.cells #[.string s, .int .i64 x0, .int .i64 x1, .int .i64 x2, .int .i64 x3] 31)) = .ok v' w' ∧
      w'.ownsRow base 31 5 v' (n + 1) (flatE (l ++ [(s, x0, x1, x2, x3)])) ∧ Below base W w' := by
  obtain ⟨i0, hi, hz0, hz1, hz2⟩ := info_parts infoEz
  obtain ⟨v', w', h1, h2, h3, -⟩ := run_append_own (P := Try.prog) (W.alloc (.cells #[.string s, .int .i64 x0, .int .i64 x1, .int .i64 x2, .int .i64 x3] 31)) base 22 22 31 i0 _ 5 48 Try.underlying22 hi hz0 hz1 hz2 rfl (by omega) v n (flatE l) (hown.alloc _)
    ⟨W.heap.size, 0, none⟩ 1 1 (flatE [(s, x0, x1, x2, x3)]) rfl (World.news_of_block (alloc_at _ _)) (flatE_one _) (by unfold maxLen; omega) (by omega) (by simp; omega)
  refine ⟨v', w', h1, ?_, ?_⟩
  · rw [flatE_append]; exact h2
  · refine Below.grown ((Below.refl _ _).alloc hbase _) h3 (by simp; omega) (fun k hk => ((hown.lt) k hk).1)
/-- 'append', its equation at hand. -/
theorem wpList_append_eq {P : Program} {w : World} {ops : Array Oper} {rest : List Oper} {o : Oper} {a : Act} {Q : Exit → Act → World → Prop} {v' : Value} {w' : World} (hgd : o.guard = none) (s x : Operand) (t : TypeId)
    (ho : o.op = .call { callee := .builtin .append, args := #[s, x], argTypes := #[t, t] }) {v y : Value} (hs : a.eval s = v) (hx : a.eval x = y) (hr : (Builtin.append_ #[t, t] o.type #[v, y]).run P w = .ok v' w')
    (h : wpList P ops Q rest (a.put o.dst v') w') : wpList P ops Q (o :: rest) a w := by
  refine wpList_plain hgd fun K hK => ?_
  unfold Oper.wp execOp
  simp only [ho, resolve, invoke, builtin, Sem.run_bind, Sem.run_pure, Result.andThen_ok, List.map_toArray, List.map_cons, List.map_nil, hs, hx, hr]
  exact hK _ _ h
def aOf : Option Ent → List Ent
  | some e => [(sa, e.2)]
  | none => []
/-- What LedgerAll appends in its first i rounds. -/
def allL (l : List Ent) (k : Nat) : Nat → List Ent
  | 0 => []
  | i + 1 => allL l k i ++ ((if i = k then [(sb', 0, 0, 1, 0)] else []) ++ aOf l[i]?)
theorem allL_len (l : List Ent) (k : Nat) : ∀ i, (allL l k i).length ≤ 2 * i
  | 0 => by simp [allL]
  | i + 1 => by
    have := allL_len l k i
    simp only [allL, List.length_append]
    have h1 : (if i = k then [((sb', 0, 0, 1, 0) : Ent)] else []).length ≤ 1 := by split <;> simp
    have h2 : (aOf l[i]?).length ≤ 1 := by cases l[i]? <;> simp [aOf]
    omega
theorem allL_names (l : List Ent) (k : Nat) : ∀ i, ∀ e ∈ allL l k i, e.1 = sa ∨ e = (sb', 0, 0, 1, 0)
  | 0, e, h => by simp [allL] at h
  | i + 1, e, h => by
    simp only [allL, List.mem_append] at h
    rcases h with h | h | h
    · exact allL_names l k i e h
    · split at h
      · right; simpa using h
      · simp at h
    · left
      cases hx : l[i]? with
      | none => rw [hx] at h; simp [aOf] at h
      | some x => rw [hx] at h; simp [aOf] at h; rw [h]
theorem allL_has (l : List Ent) (k : Nat) : ∀ i, k < i → (sb', 0, 0, 1, 0) ∈ allL l k i
  | 0, h => by omega
  | i + 1, h => by
    simp only [allL, List.mem_append]
    by_cases e : i = k
    · right; left; rw [if_pos e]; simp
    · left; exact allL_has l k i (by omega)
def third (S : Sums) (k : List UInt8) : Int := ((S k).getD zeroV).2.2.1
theorem third_step {S : Sums} (hS : SumsOk S) (e : Ent) (he : okV e.2 = true) (k : List UInt8) : third S k ≤ third (sumStep S e) k ∧ (k = nm e → e.2.2.2.1 ≤ third (sumStep S e) k) := by
  obtain ⟨h0, h1, h2, h3⟩ := (okV_iff _).1 he
  obtain ⟨g0, g1, g2, g3⟩ := hS.getD k
  unfold ok2 at g2
  by_cases e1 : k = nm e
  · subst e1
    unfold third
    rw [show sumStep S e (nm e) = some (capV ((S (nm e)).getD zeroV) e.2) from putA_same _ _ _]
    simp only [Option.getD_some, capV, cap1]
    omega
  · unfold third
    rw [show sumStep S e k = S k from putA_other _ _ e1]
    exact ⟨Int.le_refl _, fun h => absurd h e1⟩
theorem third_go : ∀ (l : List Ent) (S : Sums), SumsOk S → (∀ e ∈ l, okV e.2 = true) → ∀ k, third S k ≤ third (l.foldl sumStep S) k ∧ ∀ e ∈ l, k = nm e → e.2.2.2.1 ≤ third (l.foldl sumStep S) k
  | [], S, _, _, k => ⟨Int.le_refl _, fun e h => by simp at h⟩
  | e :: l, S, hS, ha, k => by
    have h1 := third_step hS e (ha e (by simp)) k
    have h2 := third_go l (sumStep S e) (hS.step e (ha e (by simp))) (fun x hx => ha x (by simp [hx])) k
    refine ⟨Int.le_trans h1.1 h2.1, fun x hx hk => ?_⟩
    rcases List.mem_cons.1 hx with rfl | hx
    · exact Int.le_trans (h1.2 hk) h2.1
    · exact h2.2 x hx hk
def maxV : V := (1099511627776, 1099511627776, 1099511627776, 1099511627776)
/-- The two accounts. -/
def accAB : Acc := putA (putA noA sa.data.toList (maxV, zeroV)) sb'.data.toList (zeroV, zeroV)
theorem accAB_a : accAB sa.data.toList = some (maxV, zeroV) := by kernel_rfl
theorem accAB_b : accAB sb'.data.toList = some (zeroV, zeroV) := by kernel_rfl
/-- THE PLAIN LAW: the b among them is refused, so nothing is taken. -/
theorem all_law (l : List Ent) (k i : Nat) (hk : k < i) : (takeE accAB (allL l k i) = 9 ∨ takeE accAB (allL l k i) = 4) ∧ takeR accAB (allL l k i) = accAB := by
  have hhas : (allL l k i).all (hasE accAB) = true := by
    rw [List.all_eq_true]
    intro e he
    unfold hasE nm
    rcases allL_names l k i e he with h | h
    · rw [h, accAB_a]; rfl
    · rw [h, accAB_b]; rfl
  cases hok : (allL l k i).all okE with
  | false =>
    obtain ⟨h1, h2⟩ := takeE_form (gathE_form (A := accAB) hok) (by decide)
    exact ⟨.inr h1, h2⟩
  | true =>
    have hm := allL_has l k i hk
    obtain ⟨s, hs⟩ := Option.isSome_iff_exists.1 (sums_mem hm)
    have h3 := (third_go (allL l k i) noA sumsOk_none (fun e he => List.all_eq_true.1 hok e he) (nm (sb', 0, 0, 1, 0))).2 _ hm rfl
    unfold third at h3
    rw [show (allL l k i).foldl sumStep noA = sumsOf (allL l k i) from rfl, hs] at h3
    simp only [Option.getD_some] at h3
    have hf : takeFits accAB (sumsOf (allL l k i)) (nm (sb', 0, 0, 1, 0)) = false := by
      unfold takeFits usedOf limOf
      rw [hs, show accAB (nm (sb', 0, 0, 1, 0)) = some (zeroV, zeroV) from accAB_b]
      simp only [Option.getD_some, fitsV, fitsB, addV, zeroV]
      exact decide_eq_false (by omega)
    obtain ⟨h1, h2⟩ := takeE_not (gathE_ok hok hhas) hs hf
    exact ⟨.inl h1, h2⟩
set_option maxHeartbeats 4000000 in
theorem ledgerAll_any (S : Option Addr) (len cap : Nat) (l : List Ent) (a : Int) (w : World) (ha : 0 ≤ a ∧ a ≤ 255) (hl : SlE w S len l) :
    Calls Try.prog 3 #[.slice S len cap, .int .u8 a] w fun e w' => e = .returned (.bool true) ∧ Below w.heap.size w w' := by
  obtain ⟨ha0, ha1⟩ := ha
  have hlen := hl.1
  go_enter Try.func3, Try.ntmps3
  go_wp2_with fail
  refine (awake_any w).mono ?_
  rintro e w1 ⟨rfl, hb1⟩
  have hs1 := hb1.size
  by_cases hbig : (len : Int) ≤ 100
  · go_wp2_with fail
    refine (new_b w.heap.size w1 hs1).mono ?_
    rintro e w2 ⟨rfl, hb2, hL2⟩
    have B2 : Below w.heap.size w w2 := hb1.trans (hb2.mono hs1)
    have hs2 := B2.size
    have hl2 := hl.below B2
    go_wp2_with fail
    refine (open_b w.heap.size w1.heap.size 0 noA sa 1099511627776 1099511627776 1099511627776 1099511627776 w2 hs2 hL2 sa_le).mono ?_
    rintro e w3 ⟨he3, hL3, hB3, -⟩
    obtain rfl : e = .returned (.int .i64 0) := he3
    have B3 : Below w.heap.size w w3 := B2.trans hB3
    have hs3 := B3.size
    go_wp2_with fail
    refine (open_b w.heap.size w1.heap.size _ _ sb' 0 0 0 0 w3 hs3 hL3 sb_le).mono ?_
    rintro e w4 ⟨he4, hL4', hB4, -⟩
    obtain rfl : e = .returned (.int .i64 0) := he4
    have hL4 : LedB w.heap.size w4 w1.heap.size 2 accAB := hL4'
    have B4 : Below w.heap.size w w4 := B3.trans hB4
    have hs4 := B4.size
    have hl4 := hl.below B4
    clear hL2 hL3 hL4' hB3 hB4 hb2 hl2
    have HL4 := hid hL4
    have HSL := hid hl4
    clear hL4 hl hl4
    have hdiv : ((len : Int) + 1) ≠ 0 := by omega
    have hdiv' : ((l.length : Int) + 1) ≠ 0 := by omega
    go_upto_region 8 with fail
    obtain ⟨k, hk, hkl⟩ : ∃ k : Nat, a % ((l.length : Int) + 1) = k ∧ k ≤ l.length := ⟨(a % ((l.length : Int) + 1)).toNat, by
      have := Int.emod_nonneg a hdiv'
      omega, by
      have := Int.emod_lt_of_pos a (show (0 : Int) < (l.length : Int) + 1 by omega)
      omega⟩
    rw [hk]
    have HB : Hid (l.length ≤ 100) := by unfold Hid; omega
    have hm' : l.length ≤ 9223372036854775000 := by omega
    rename (l.length : Int) ≤ 100 => h100
    clear hk hdiv' hdiv ha0 ha1 h100 hbig
    go_wp2
    go_loopw [7, 8] (fun v i wr => ∃ j : Nat, j ≤ l.length + 1 ∧ i = .int .i64 j ∧ Hid (wr.ownsRow w4.heap.size 31 5 v (allL l k j).length (flatE (allL l k j))) ∧ Below w4.heap.size w4 wr) (fun _ i _ => l.length + 1 - (intOf i).toNat)
    case atStart => exact ⟨0, by omega, rfl, World.ownsRow_nil _ _ _ _, Below.refl _ _⟩
    case round =>
      obtain ⟨j, hj, rfl, hown, hbel⟩ := hrel
      have hsr := hbel.size
      have hal := allL_len l k j
      have h100 := HB.out
      have M1 : Hid (j ≤ l.length → l.length + 1 - (j + 1) < l.length + 1 - j) := by unfold Hid; omega
      by_cases hjl : j < l.length
      · have h9 : j ≤ l.length := by omega
        obtain ⟨-, rfl | ⟨b, off, rfl, hb, hh⟩⟩ := HSL.out
        · simp at hjl
        · have hx : aOf l[j]? = [(sa, l[j].2)] := by rw [List.getElem?_eq_getElem hjl]; rfl
          have hv := hh j hjl
          generalize l[j] = v at hv hx
          obtain ⟨s, x0, x1, x2, x3⟩ := v
          obtain ⟨-, -, v0_, v1_, v2_, v3_⟩ := hv
          by_cases hjk : j = k
          · subst hjk
            obtain ⟨v5, w5, happ5, hown5, hb5⟩ := app_one rfl hown.out (by omega) hsr ⟨#[98]⟩ 0 0 1 0
            have hs5 := hb5.size
            have HAPP5 := hid happ5
            clear happ5
            obtain ⟨v6, w6, happ6, hown6, hb6⟩ := app_one (by simp) hown5 (by omega) (Nat.le_trans hsr hs5) ⟨#[97]⟩ x0 x1 x2 x3
            have hs6 := hb6.size
            have HAPP6 := hid happ6
            clear happ6
            have hst : allL l j j ++ [((sb', 0, 0, 1, 0) : Ent)] ++ [((sa, x0, x1, x2, x3) : Ent)] = allL l j (j + 1) := by simp only [allL]; rw [hx]; simp
            have hst2 : (allL l j j).length + 1 + 1 = (allL l j (j + 1)).length := by rw [← hst]; simp
            have HO : Hid (w6.ownsRow w4.heap.size 31 5 v6 (allL l j (j + 1)).length (flatE (allL l j (j + 1)))) := by unfold Hid; rw [← hst2, ← hst]; exact hown6
            have BW : Below w4.heap.size w4 w6 := ((hbel).trans hb5).trans hb6
            have szw := BW.size
            have c0 : w5.cell? ⟨b, off + j * 5 + 1, none⟩ = some (.int .i64 x0) := by rw [(hbel.trans hb5).cell hb]; exact v0_
            have c1 : w5.cell? ⟨b, off + j * 5 + 2, none⟩ = some (.int .i64 x1) := by rw [(hbel.trans hb5).cell hb]; exact v1_
            have c2 : w5.cell? ⟨b, off + j * 5 + 3, none⟩ = some (.int .i64 x2) := by rw [(hbel.trans hb5).cell hb]; exact v2_
            have c3 : w5.cell? ⟨b, off + j * 5 + 4, none⟩ = some (.int .i64 x3) := by rw [(hbel.trans hb5).cell hb]; exact v3_
            have R1 : Hid (j ≤ l.length) := by unfold Hid; omega
            clear hown hown5 hown6 hst hst2 hal hx hb5 hb6 h100
            go_upto_region 13 with (at_builtin; refine wpList_append_eq rfl _ _ _ rfl rfl rfl HAPP5.out ?_)
            go_wp2_with (at_builtin; refine wpList_append_eq rfl _ _ _ rfl rfl rfl HAPP6.out ?_)
            go_roundw
            case rel => exact ⟨j + 1, Nat.succ_le_succ R1.out, by go_num, HO, BW⟩
            case measure =>
              have := M1.out R1.out
              simp [intOf]
              omega
          · have hE : ((j : Int) == (k : Int)) = false := by simp; omega
            obtain ⟨v5, w5, happ5, hown5, hb5⟩ := app_one rfl hown.out (by omega) hsr ⟨#[97]⟩ x0 x1 x2 x3
            have hs5 := hb5.size
            have HAPP5 := hid happ5
            clear happ5
            have hst : allL l k j ++ [((sa, x0, x1, x2, x3) : Ent)] = allL l k (j + 1) := by simp only [allL]; rw [if_neg hjk, hx]; try simp only [List.nil_append, List.append_nil]
            have hst2 : (allL l k j).length + 1 = (allL l k (j + 1)).length := by rw [← hst]; simp
            have HO : Hid (w5.ownsRow w4.heap.size 31 5 v5 (allL l k (j + 1)).length (flatE (allL l k (j + 1)))) := by unfold Hid; rw [← hst2, ← hst]; exact hown5
            have BW : Below w4.heap.size w4 w5 := (hbel).trans hb5
            have szw := BW.size
            have c0 : wr.cell? ⟨b, off + j * 5 + 1, none⟩ = some (.int .i64 x0) := by rw [hbel.cell hb]; exact v0_
            have c1 : wr.cell? ⟨b, off + j * 5 + 2, none⟩ = some (.int .i64 x1) := by rw [hbel.cell hb]; exact v1_
            have c2 : wr.cell? ⟨b, off + j * 5 + 3, none⟩ = some (.int .i64 x2) := by rw [hbel.cell hb]; exact v2_
            have c3 : wr.cell? ⟨b, off + j * 5 + 4, none⟩ = some (.int .i64 x3) := by rw [hbel.cell hb]; exact v3_
            have R1 : Hid (j ≤ l.length) := by unfold Hid; omega
            clear hown hown5 hst hst2 hal hx hb5 h100
            go_wp2_with (first | (at_builtin; refine wpList_append_eq rfl _ _ _ rfl rfl rfl HAPP5.out ?_))
            go_roundw
            case rel => exact ⟨j + 1, Nat.succ_le_succ R1.out, by go_num, HO, BW⟩
            case measure =>
              have := M1.out R1.out
              simp [intOf]
              omega
      · by_cases hjt : j = l.length
        · have hx : aOf l[j]? = [] := by rw [List.getElem?_eq_none (by omega)]; rfl
          by_cases hjk : j = k
          · subst hjk
            obtain ⟨v5, w5, happ5, hown5, hb5⟩ := app_one rfl hown.out (by omega) hsr ⟨#[98]⟩ 0 0 1 0
            have hs5 := hb5.size
            have HAPP5 := hid happ5
            clear happ5
            have hst : allL l j j ++ [((sb', 0, 0, 1, 0) : Ent)] = allL l j (j + 1) := by simp only [allL]; rw [hx]; simp
            have hst2 : (allL l j j).length + 1 = (allL l j (j + 1)).length := by rw [← hst]; simp
            have HO : Hid (w5.ownsRow w4.heap.size 31 5 v5 (allL l j (j + 1)).length (flatE (allL l j (j + 1)))) := by unfold Hid; rw [← hst2, ← hst]; exact hown5
            have BW : Below w4.heap.size w4 w5 := (hbel).trans hb5
            have szw := BW.size
            have R1 : Hid (j ≤ l.length) := by unfold Hid; omega
            clear hown hown5 hst hst2 hal hx hb5 h100
            have jl : ¬ j < l.length := by omega
            clear hjt
            go_wp2_with (first | (at_builtin; refine wpList_append_eq rfl _ _ _ rfl rfl rfl HAPP5.out ?_))
            go_roundw
            case rel => exact ⟨j + 1, Nat.succ_le_succ R1.out, by go_num, HO, BW⟩
            case measure =>
              have := M1.out R1.out
              simp [intOf]
              omega
          · have hE : ((j : Int) == (k : Int)) = false := by simp; omega
            have hst : allL l k j = allL l k (j + 1) := by simp only [allL]; rw [if_neg hjk, hx]; try simp only [List.nil_append, List.append_nil]
            have hst2 : (allL l k j).length = (allL l k (j + 1)).length := by rw [← hst]
            have HO : Hid (wr.ownsRow w4.heap.size 31 5 u7 (allL l k (j + 1)).length (flatE (allL l k (j + 1)))) := by unfold Hid; rw [← hst2, ← hst]; exact hown.out
            have BW : Below w4.heap.size w4 wr := hbel
            have szw := BW.size
            have R1 : Hid (j ≤ l.length) := by unfold Hid; omega
            clear hown hst hst2 hal hx h100
            have jl : ¬ j < l.length := by omega
            clear hjt
            go_wp2
            go_roundw
            case rel => exact ⟨j + 1, Nat.succ_le_succ R1.out, by go_num, HO, BW⟩
            case measure =>
              have := M1.out R1.out
              simp [intOf]
              omega
        · obtain rfl : j = l.length + 1 := by omega
          have hns : ∀ e ∈ allL l k (l.length + 1), e.1.size ≤ maxLen := fun e he => by
            rcases allL_names l k _ e he with h | h
            · rw [h]; exact sa_le
            · rw [h]; exact sb_le
          obtain ⟨A, cap', rfl, hsl⟩ := slE_of_own hns hown.out
          obtain ⟨hlaw, hlaw2⟩ := all_law l k (l.length + 1) (by omega)
          have hcnt : (allL l k (l.length + 1)).length ≤ maxLen := by unfold maxLen; omega
          have hLr := HL4.out.below hbel
          have Br : Below w.heap.size w wr := B4.trans (hbel.mono hs4)
          have hsr2 := Br.size
          clear hown hal hns h100
          go_wp2_with fail
          refine (take_b w.heap.size w1.heap.size 2 accAB A _ cap' _ wr hsr2 hLr hcnt hsl).mono ?_
          rintro e w5 ⟨rfl, hL5, hB5, -⟩
          rw [hlaw2] at hL5
          have B5 := Br.trans hB5
          have hs5 := B5.size
          obtain ⟨q, hq⟩ : ∃ q, q = takeE accAB (allL l k (l.length + 1)) := ⟨_, rfl⟩
          rw [← hq] at hlaw ⊢
          clear hq hlaw2 hcnt hsl hLr
          go_wp2_with fail
          refine (used_b w.heap.size w1.heap.size 2 accAB sa w5 hL5 sa_le).mono ?_
          rintro e w6 ⟨he6, hb6⟩
          obtain rfl : e = .returned (.tuple #[.agg #[.int .i64 0, .int .i64 0, .int .i64 0, .int .i64 0], .int .i64 0]) := he6
          have hs6 := hb6.size
          have B6 : Below w.heap.size w w6 := B5.trans (hb6.mono hs5)
          have hL6 := hL5.below hb6
          have hs60 := B6.size
          clear hL5
          go_wp2_with fail
          refine (used_b w.heap.size w1.heap.size 2 accAB sb' _ (hL6.below ((Below.refl _ _).alloc (Nat.le_refl _) _)) sb_le).mono ?_
          rintro e w7 ⟨he7, hb7⟩
          obtain rfl : e = .returned (.tuple #[.agg #[.int .i64 0, .int .i64 0, .int .i64 0, .int .i64 0], .int .i64 0]) := he7
          have hs7 := hb7.size
          simp only [World.size_alloc] at hs7
          have X : w7.heap[w6.heap.size]? = some (.cells #[.int .i64 0, .int .i64 0, .int .i64 0, .int .i64 0] 29 (0, 0)) := below_at hb7 (by first | omega | (simp; done) | (simp; omega)) (by (repeat (first | (with_reducible assumption) | (with_reducible exact alloc_at _ _) | ((with_reducible apply alloc_at'); (simp; done)) | (with_reducible apply alloc_at_lt) | (with_reducible apply heap_drew_at) | (with_reducible apply heap_drewN_at) | (with_reducible apply heap_setCell_same) | ((with_reducible apply heap_set_ne); (first | omega | (dsimp only; omega) | (simp; done) | (simp; omega))) | (with_reducible apply setRow_at) | ((with_reducible apply setRow_ne); (first | omega | (dsimp only; omega) | (simp; done) | (simp; omega))))))
          have B7 : Below w.heap.size w w7 := Below.trans (by repeat (first | with_reducible assumption | with_reducible exact Below.refl _ _ | with_reducible refine Below.drew ?_ | with_reducible refine below_drewN ?_ _ | with_reducible refine below_alloc ?_ _ | with_reducible refine Below.alloc ?_ (by first | omega | (simp; done) | (simp; omega)) _ | with_reducible refine Below.setCell ?_ (by first | omega | (simp; done) | (simp; omega)) _ | with_reducible refine below_setRow ?_ (by first | omega | (simp; done) | (simp; omega)) _)) (hb7.mono (by first | omega | (simp; done) | (simp; omega)))
          have hl7 : w6.heap.size < w7.heap.size := by omega
          clear hb7 hL6
          obtain ⟨X0, X1, X2, X3, Xf⟩ := four X
          rcases hlaw with rfl | rfl
          · go_wp2
            go_ret
            exact ⟨by first | rfl | simp, (by repeat (first | with_reducible assumption | with_reducible exact Below.refl _ _ | with_reducible refine Below.drew ?_ | with_reducible refine below_drewN ?_ _ | with_reducible refine below_alloc ?_ _ | with_reducible refine Below.alloc ?_ (by first | omega | (simp; done) | (simp; omega)) _ | with_reducible refine Below.setCell ?_ (by first | omega | (simp; done) | (simp; omega)) _ | with_reducible refine below_setRow ?_ (by first | omega | (simp; done) | (simp; omega)) _))⟩
          · go_wp2
            go_ret
            exact ⟨by first | rfl | simp, (by repeat (first | with_reducible assumption | with_reducible exact Below.refl _ _ | with_reducible refine Below.drew ?_ | with_reducible refine below_drewN ?_ _ | with_reducible refine below_alloc ?_ _ | with_reducible refine Below.alloc ?_ (by first | omega | (simp; done) | (simp; omega)) _ | with_reducible refine Below.setCell ?_ (by first | omega | (simp; done) | (simp; omega)) _ | with_reducible refine below_setRow ?_ (by first | omega | (simp; done) | (simp; omega)) _))⟩
  · go_wp2_with fail
    refine (awake_any w1).mono ?_
    rintro e w2 ⟨rfl, hb2⟩
    go_wp2
    go_ret
    exact ⟨rfl, hb1.trans (hb2.mono hs1)⟩
end Go.Proofs.Ytobgolceggeogaa
