/- Chapter 20: digits, joined numbers, words told. -/
import Derived.Test.YtidcbcljeofooaaGreatDoorOrY
import Derived.Lib.AppendIntMem
namespace Go.Proofs.YtidcbcljeofooaaGreatDoor
open Go.RowKit
/-- The tables that the walks read. -/
structure Tb (w : World) : Prop where
  u : Lib.Utf8Tabs 0 1 w
  p : Lib.TabIs Tryz.prog w "internal/strconv.uint64pow10" .u64 Lib.pow10Tab
theorem var_lt {P : Program} {w : World} {n : String} {cs : Array Value} (h : w.var? P n = some cs) : ∃ g t f, P.globalNamed n = some g ∧ w.heap[g]? = some (.cells cs t f) := by
  unfold World.var? at h
  cases hg : P.globalNamed n with
  | none => rw [hg] at h; cases h
  | some g =>
    rw [hg] at h
    simp only [Option.bind_some] at h
    cases hh : w.heap[g]? with
    | none => rw [hh] at h; cases h
    | some o =>
      rw [hh] at h
      cases o <;> first | (cases h; done) | skip
      rename_i a b c
      injection h with h
      subst h
      exact ⟨g, b, c, rfl, hh⟩
theorem tab_below {P : Program} {w w' : World} {n : String} {k : IntKind} {zs : List Int} (h : Lib.TabIs P w n k zs) (hb : Below w.heap.size w w') : Lib.TabIs P w' n k zs := by
  obtain ⟨g, t, f, hg, hh⟩ := var_lt h
  unfold Lib.TabIs World.var?
  rw [hg]
  simp only [Option.bind_some]
  rw [hb.block g (lt_of_at hh), hh]
theorem Tb.below {w w' : World} (h : Tb w) (hb : Below w.heap.size w w') : Tb w' := ⟨tabs_below h.u (tabs_size h.u) hb, tab_below h.p hb⟩
theorem digits_any (n : Int) (w : World) (h0 : -9223372036854775808 ≤ n) (h1 : n ≤ 9223372036854775807) (hT : Tb w) :
    Calls Tryz.prog 30 #[.int .i64 n] w fun e w' => e = .returned (.string (sB (dgT n))) ∧ Below w.heap.size w w' := by
  have HF := hid (Tryz.strconv_FormatInt_10 n h0 h1 w hT.p)
  clear hT
  go_enter Tryz.func30, Tryz.ntmps30
  go_wp2_with fail
  refine HF.out.mono ?_
  rintro e w2 ⟨rfl, k, os, rfl⟩
  have HB := hid (Go.Lib.below_grow w.heap.size w (Nat.le_refl _) k os)
  go_wp2_with fail
  go_ret
  exact ⟨rfl, HB.out⟩
/-- Numbers joined. -/
def joinT (sep : List UInt8) (l : List Int) : List UInt8 := if l = [] then [45] else Go.Lib.join (l.map dgT) sep
theorem joinT_lst (l : List Int) : joinT [44] l = lstT l := rfl
theorem joinT_vec (v : V) : joinT [58] [v.1, v.2.1, v.2.2.1, v.2.2.2] = vecT v := rfl
/-- A word is put behind a row. -/
theorem rowS_app {B n cap : Nat} {A : Option Addr} {w T : World} {g : Nat} {zs : List ByteArray} {x : ByteArray} (h : w.ownsRow B 9 1 (.slice A n cap) n (flatR 1 fS zs)) (hn : n + 1 ≤ 1000000) (hB : B ≤ w.heap.size) (hb : Below w.heap.size w T) (hg : T.heap[g]? = some (.cells #[.string x] 9 (0, 0))) :
    ∃ g' cap' w8, (Builtin.append_ #[29, 29] 29 #[.slice A n cap, .slice (some ⟨g, 0, none⟩) 1 1]).run Tryz.prog T = .ok (.slice (some ⟨g', 0, none⟩) (n + 1) cap') w8 ∧
      w8.ownsRow B 9 1 (.slice (some ⟨g', 0, none⟩) (n + 1) cap') (n + 1) (flatR 1 fS (zs ++ [x])) ∧ Below B T w8 := by
  obtain ⟨g', cap', w8, happ, hown, -, -, -, hb8⟩ := rowR_app (m := [x]) (f := fS) recS (by omega) fS_one (rowR_below h hb) (by simp; omega) (by simp; omega) (Nat.le_trans hB hb.size) ⟨g, 0, none⟩ 1 (by simp) (fun o u hx => by
    have ho : o < 1 := by
      have := (List.getElem?_eq_some_iff.1 hx).1
      rw [flatR_len] at this
      simpa using this
    have e0 : (⟨g, 0, none⟩ : Addr).add o = ⟨g, o, none⟩ := by unfold Addr.add; split <;> simp_all
    rw [e0, blk_cell hg, ← hx, flatR_one]
    have : o = 0 := by omega
    subst this
    rfl)
  exact ⟨g', cap', w8, happ, hown, hb8⟩
/-- Words under way. -/
structure JnI (B1 : Nat) (l : List Int) (i : Nat) (v : Value) (w wr : World) : Prop where
  row : wr.ownsRow B1 9 1 v i (flatR 1 fS ((l.take i).map fun n => sB (dgT n)))
  bel : Below w.heap.size w wr
  le : B1 ≤ wr.heap.size
theorem dg_len (n : Int) (h0 : -9223372036854775808 ≤ n) (h1 : n ≤ 9223372036854775807) : (dgT n).length ≤ 21 := by
  have key : ∀ u : Nat, u < 10 ^ 20 → (Go.Lib.decDigits u).length ≤ 20 := by
    intro u hu
    rw [Go.Lib.decDigits_length]
    rcases Nat.lt_or_ge 20 (Go.Lib.nDigits u) with q | q
    · exfalso
      have hb : ∀ v, 1 < Go.Lib.nDigits v → 10 ^ (Go.Lib.nDigits v - 1) ≤ v := by
        intro v
        induction v using Nat.strongRecOn with
        | _ v ih =>
          intro hv
          by_cases h10 : v < 10
          · rw [Go.Lib.nDigits_small h10] at hv; omega
          · rw [Go.Lib.nDigits_big h10] at hv ⊢
            by_cases h1 : 1 < Go.Lib.nDigits (v / 10)
            · have := ih (v / 10) (by omega) h1
              rw [show Go.Lib.nDigits (v / 10) + 1 - 1 = (Go.Lib.nDigits (v / 10) - 1) + 1 by omega, Nat.pow_succ]
              omega
            · have : Go.Lib.nDigits (v / 10) = 1 := by have := Go.Lib.nDigits_pos (v / 10); omega
              rw [this]; omega
      have h1 := hb u (by omega)
      have h2 : 10 ^ 20 ≤ 10 ^ (Go.Lib.nDigits u - 1) := Nat.pow_le_pow_right (by omega) (by omega)
      omega
    · exact q
  unfold dgT Go.Lib.itoa
  split
  · have := key n.natAbs (by omega)
    rw [List.length_cons]; omega
  · have := key n.toNat (by omega)
    omega
theorem lens_le {N : Nat} : ∀ (xs : List (List UInt8)), (∀ x ∈ xs, x.length ≤ N) → Go.Lib.lens xs ≤ N * xs.length := by
  intro xs
  induction xs with
  | nil => intro _; simp [Go.Lib.lens]
  | cons y r ih =>
    intro h
    have h1 := h y (by simp)
    have h2 := ih fun x hx => h x (by simp [hx])
    unfold Go.Lib.lens at h2 ⊢
    rw [List.map_cons, List.sum_cons, List.length_cons, Nat.mul_succ]
    omega
theorem join_small {N : Nat} {xs : List (List UInt8)} {sep : List UInt8} (h : ∀ x ∈ xs, x.length ≤ N) : (Go.Lib.join xs sep).length ≤ (N + sep.length) * xs.length := by
  cases xs with
  | nil => simp [Go.Lib.join_nil]
  | cons y r =>
    rw [Go.Lib.join_length]
    have := lens_le _ h
    rw [List.length_cons] at *
    rw [Nat.add_mul, Nat.mul_succ sep.length]
    omega
set_option maxHeartbeats 4000000 in
set_option maxRecDepth 20000 in
theorem joined_any {A : Option Addr} {n c : Nat} {l : List Int} {sep : ByteArray} (w : World) (h : SlG 1 fZ w A n l) (hn : n ≤ 1000) (hsep : sep.size ≤ 10) (hr : ∀ z ∈ l, -9223372036854775808 ≤ z ∧ z ≤ 9223372036854775807) (hT : Tb w) :
    Calls Tryz.prog 31 #[.slice A n c, .string sep] w fun e w' => e = .returned (.string (sB (joinT sep.data.toList l))) ∧ Below w.heap.size w w' := by
  have HS := hid h
  have HT := hid hT
  have HR := hid hr
  have HL := hid (⟨h.1, hn⟩ : n = l.length ∧ n ≤ 1000)
  have HSEP := hid hsep
  have hnb : (n : Int) ≤ 1000 := by omega
  clear h hT hr hn hsep
  have HI0 : Hid (JnI w.heap.size l 0 (.slice none 0 0) w w) := ⟨by rw [List.take_zero]; exact World.ownsRow_nil _ _ _ _, Below.refl _ _, Nat.le_refl _⟩
  go_enter Tryz.func31, Tryz.ntmps31
  go_wp2_with fail
  go_loopw [5, 10] (fun lv iv wr => ∃ (i : Nat) (A2 : Option Addr) (cap : Nat), i ≤ n ∧ lv = .slice A2 i cap ∧ iv = .int .i64 i ∧ Hid (JnI w.heap.size l i lv w wr)) (fun _ iv _ => n - (intOf iv).toNat)
  case atStart => exact ⟨0, none, 0, Nat.zero_le _, rfl, rfl, HI0⟩
  case round =>
    clear HI0
    obtain ⟨i, A2, cap, hi, rfl, rfl, HI⟩ := hrel
    by_cases hin : i < n
    · have HK1 : Hid (i + 1 ≤ n) := hin
      have HMS : Hid (n - (i + 1) < n - i) := by unfold Hid; omega
      have hii : (i : Int) < (n : Int) := by omega
      have hil : i < l.length := by have := HL.out.1; omega
      obtain ⟨b, off, rfl, hbl, c0⟩ := slZ_at HS.out HI.out.bel hil
      obtain ⟨z, hz⟩ : ∃ z, z = l.getD i 0 := ⟨_, rfl⟩
      rw [← hz] at c0
      have HZ : Hid (l[i]? = some z) := by unfold Hid; rw [hz, List.getD_eq_getElem?_getD, List.getElem?_eq_getElem hil]; rfl
      have HD := hid (digits_any z wr (HR.out z (List.mem_of_getElem? HZ.out)).1 (HR.out z (List.mem_of_getElem? HZ.out)).2 (HT.out.below HI.out.bel))
      clear hin hi hz hil
      go_wp2_with fail
      refine HD.out.mono ?_
      rintro e w2 ⟨rfl, hb2⟩
      clear HD c0
      have hrow2 := rowR_below HI.out.row hb2
      have hB2 : w.heap.size ≤ w2.heap.size := Nat.le_trans HI.out.le hb2.size
      obtain ⟨g', cap', w3, happ, hown, hb3⟩ := rowS_app (x := sB (dgT z)) hrow2 (by have := HK1.out; have := HL.out.2; omega) hB2 (below_alloc (Below.refl _ w2) _) (alloc_at w2 _)
      have HAPP := hid happ
      have HI3 : Hid (JnI w.heap.size l (i + 1) (.slice (some ⟨g', 0, none⟩) (i + 1) cap') w w3) := by
        have b2 := HI.out.bel.trans (hb2.mono HI.out.bel.size)
        have b3 : Below w.heap.size w w3 := (below_alloc b2 _).trans hb3
        refine ⟨?_, b3, b3.size⟩
        rw [List.take_add_one, HZ.out, Option.toList_some, List.map_append]
        exact hown
      clear happ hown hb3 hrow2 hB2 hb2 HI
      go_wp2_with (first | (at_builtin; refine wpList_append_eq rfl _ _ _ rfl rfl rfl HAPP.out ?_))
      go_roundw
      case rel => exact ⟨i + 1, _, _, HK1.out, rfl, by go_num, HI3⟩
      case measure => have := HMS.out; simp [intOf]; omega
    · obtain rfl : i = n := by omega
      have hii : ¬ (i : Int) < (i : Int) := by omega
      clear hin hi
      have HROW : Hid (wr.ownsRow w.heap.size 9 1 (.slice A2 i cap) i (flatR 1 fS (l.map fun n => sB (dgT n)))) := by
        have := HI.out.row
        rw [List.take_of_length_le (by have := HL.out.1; omega)] at this
        exact this
      by_cases h0 : i = 0
      · have hl : l = [] := List.eq_nil_of_length_eq_zero (by have := HL.out.1; omega)
        have h0i : (i : Int) = 0 := by omega
        have hv : sB (joinT sep.data.toList l) = ⟨#[45]⟩ := by rw [hl]; rfl
        have HV0 := hid hv
        have HB := hid HI.out.bel
        subst h0
        clear HI HROW hl hv
        go_wp2
        go_ret
        exact ⟨by rw [HV0.out]; rfl, HB.out⟩
      · have h0i : ¬ (i : Int) = 0 := by omega
        obtain ⟨g, cap2, e, hg, hgl, -, hcel⟩ := rowR_cells HROW.out (by omega)
        injection e with e1 e2 e3
        subst e1 e3
        have hml : (l.map fun n => sB (dgT n)).length = i := by rw [List.length_map]; exact HL.out.1.symm
        have hcap : i ≤ cap := by
          obtain ⟨-, ⟨q, -⟩ | ⟨g3, cap3, cur3, q, -, -, hc3, -⟩⟩ := HROW.out
          · cases q
          · injection q with q1 q2 q3; rw [q3]; exact hc3
        have hjl : (Go.Lib.join ((l.map fun n => sB (dgT n)).map (·.data.toList)) sep.data.toList).length ≤ 140737488355328 := by
          have hx : ∀ x ∈ (l.map fun n => sB (dgT n)).map (·.data.toList), x.length ≤ 21 := by
            intro x hx
            rw [List.map_map, List.mem_map] at hx
            obtain ⟨m, hm, rfl⟩ := hx
            have := HR.out m hm
            show (sB (dgT m)).data.toList.length ≤ 21
            rw [sB_list]
            exact dg_len m this.1 this.2
          have h1 := join_small (sep := sep.data.toList) hx
          rw [List.length_map, hml] at h1
          have h2 : sep.data.toList.length = sep.size := by simp
          rw [h2] at h1
          have h3 := HSEP.out
          have h4 := HL.out.2
          have h5 : (21 + sep.size) * i ≤ 31 * 1000 := Nat.mul_le_mul (by omega) h4
          omega
        have HJ := Tryz.strings_Join g 0 cap (l.map fun n => sB (dgT n)) sep wr (fun j x hx => by
          have := hcel j x hx 0 (by omega)
          rw [Nat.mul_one, Nat.add_zero] at this
          rw [Nat.zero_add]
          exact this) hgl (by rw [hml]; have := HL.out.2; omega) (by rw [hml]; exact hcap) hjl
        rw [hml] at HJ
        have HV : ((⟨(Go.Lib.join ((l.map fun n => sB (dgT n)).map (·.data.toList)) sep.data.toList).toArray⟩ : ByteArray) = sB (joinT sep.data.toList l)) := by
          unfold joinT
          rw [if_neg (fun e => h0 (by rw [← hml, e]; rfl)), List.map_map]
          have : ((fun x : ByteArray => x.data.toList) ∘ fun n => sB (dgT n)) = dgT := by
            funext m
            exact sB_list _
          rw [this]
          rfl
        rw [HV] at HJ
        have HJ2 := hid HJ
        clear HV
        have HB := hid HI.out.bel
        clear HJ HI HROW hcel hjl hml hg hgl e2
        go_wp2_with fail
        refine HJ2.out.mono ?_
        rintro e w5 ⟨rfl, hb5⟩
        have HB5 := hid (HB.out.trans (hb5.mono HB.out.size))
        clear hb5
        go_wp2
        go_ret
        exact ⟨rfl, HB5.out⟩
set_option maxHeartbeats 4000000 in
theorem told_any {b off cap : Nat} {ws : List ByteArray} (w : World) (hc : ∀ (j : Nat) x, ws[j]? = some x → w.cell? ⟨b, off + j, none⟩ = some (.string x)) (hb : b < w.heap.size) (hn : ws.length ≤ 1000000) (hcap : ws.length ≤ cap) (hl : (jn ws).length ≤ 140737488355328) :
    Calls Tryz.prog 32 #[.slice (some ⟨b, off, none⟩) ws.length cap] w fun e w' => e = .returned (.string (sB (jn ws))) ∧ Below w.heap.size w w' := by
  have e0 : (⟨#[32]⟩ : ByteArray).data.toList = [32] := rfl
  have HJ := hid (Tryz.strings_Join b off cap ws ⟨#[32]⟩ w hc hb (by omega) hcap (by rw [e0, ← jn_join]; exact hl))
  rw [e0, ← jn_join] at HJ
  clear hc hb hn hcap hl e0
  go_enter Tryz.func32, Tryz.ntmps32
  go_wp2_with fail
  refine HJ.out.mono ?_
  rintro e w5 ⟨rfl, hb5⟩
  have HB := hid hb5
  clear hb5
  go_wp2_with fail
  go_ret
  exact ⟨rfl, HB.out⟩
theorem dec4 (s : ByteArray) (i : Nat) : (Utf8.decode s i).2 ≤ 4 := by
  rw [Go.Lib.decode_at]
  unfold Go.Lib.decodeN
  repeat' split
  all_goals simp
theorem nms_size (s : ByteArray) : ∀ d i n m, s.size - i ≤ d → nmsA s i n = some m → s.size - i ≤ 4 * (m - n) ∧ n ≤ m := by
  intro d
  induction d with
  | zero =>
    intro i n m hd h
    rw [nmsA_eq, if_neg (by omega)] at h
    injection h with h
    subst h
    omega
  | succ d ih =>
    intro i n m hd h
    by_cases hi : i < s.size
    · rw [nmsA_eq, if_pos hi] at h
      split at h
      · have h1 := dec_pos hi
        have h2 := dec4 s i
        have h3 := ih _ _ _ (by omega) h
        omega
      · cases h
    · rw [nmsA_eq, if_neg hi] at h
      injection h with h
      subst h
      omega
theorem name_size {s : ByteArray} (h : nameB s = true) : s.size ≤ 64 := by
  obtain ⟨m, h1, h2, h3⟩ := name_some h
  have := nms_size s s.size 0 0 m (by omega) h1
  omega
end Go.Proofs.YtidcbcljeofooaaGreatDoor
