/- DagOrder's walk. -/
import Derived.Test.YtolfioiccmmifaaDyE
namespace Go.Proofs.Ytolfioiccmmifaa
open Go.RowKit
theorem mem_toZ' {y : Nat} {M : List Nat} : ((y : Int) ∈ toZ M) ↔ y ∈ M := by
  rw [toZ_mem]
  constructor
  · rintro ⟨z, hz, e⟩
    have : z = y := by omega
    subst this
    exact hz
  · exact fun h => ⟨y, h, rfl⟩
/-- What an Add leaves: the graph and the row of those that are there. -/
theorem add_th {b H : Nat} {wr : World} {R : Nat → Value} {G : Gr} {v : Value} {T : List Nat} (hg : GF b wr H R G v T) (hT : Th G T) (id : Int) {A : Option Addr} {n cap : Nat} {zs : List Int} (hs : SlZ wr A n zs) (hn : n ≤ 100000) :
    Calls Try.prog 11 #[.pointer (some ⟨H, 0, none⟩), .int .i64 id, .slice A n cap] wr fun e w' => ∃ (okb : Bool) (er : Int), e = .returned (.tuple #[.bool okb, .int .i64 er]) ∧ Below b wr w' ∧
      ((er = 0 ∧ ∃ R' G' y, id = ((y : Nat) : Int) ∧ GF b w' H R' G' v T ∧ Th G' (T ++ [y])) ∨ (er ≠ 0 ∧ GF b w' H R G v T)) := by
  refine (add_g hg.g hT.ok id hs hn).mono ?_
  intro e w' hp
  have bad : ∀ {er : Int}, er ≠ 0 → Below wr.heap.size wr w' → e = .returned (.tuple #[.bool false, .int .i64 er]) → ∃ (okb : Bool) (er : Int), e = .returned (.tuple #[.bool okb, .int .i64 er]) ∧ Below b wr w' ∧
      ((er = 0 ∧ ∃ R' G' y, id = ((y : Nat) : Int) ∧ GF b w' H R' G' v T ∧ Th G' (T ++ [y])) ∨ (er ≠ 0 ∧ GF b w' H R G v T)) := fun h0 hb he => ⟨false, _, he, hb.mono hg.g.le, .inr ⟨h0, hg.below hb⟩⟩
  cases hp with
  | range _ h1 h2 => exact bad (by decide) h2 h1
  | twice _ _ h1 h2 => exact bad (by decide) h2 h1
  | cycle _ _ _ h1 h2 => exact bad (by decide) h2 h1
  | state _ _ _ _ h1 h2 => exact bad (by decide) h2 h1
  | ok h0 hf h1 h2 h3 =>
    obtain ⟨R', h4, h5⟩ := h2
    exact ⟨_, 0, h1, hg.g.belowB h3 (Nat.le_refl _), .inl ⟨rfl, R', _, id.toNat, by have := h0.1.1; omega, hg.graph h4 h5 h3, hT.add hf⟩⟩
set_option maxRecDepth 100000 in
set_option maxHeartbeats 16000000 in
theorem dagOrder_any (A : Option Addr) (n cap : Nat) (l : List OpD) (w : World) (hs : SlO w A n l) (hn : n ≤ maxLen) :
    Calls Try.prog 4 #[.slice A n cap] w fun e w' => e = .returned (.bool true) ∧ Below w.heap.size w w' := by
  have HS := hid hs
  have HFE : Hid (∀ W, Below w.heap.size w W → Calls Try.prog 12 #[.slice A n cap] W fun e w' => e = .returned (.bool (decide (Few n l))) ∧ W = w') := fun W hb => few_any (w := W) (by
    obtain ⟨h1, h2, h3⟩ := hs
    refine ⟨h1, ?_, fun o ho => ⟨(h3 o ho).1.below hb, (h3 o ho).2⟩⟩
    rcases h2 with h2 | ⟨b, off, e, hbl, hc⟩
    · exact .inl h2
    · refine .inr ⟨b, off, e, Nat.lt_of_lt_of_le hbl hb.size, fun k hk => ?_⟩
      rw [hb.cell hbl, hb.cell hbl, hb.cell hbl]
      exact hc k hk) hn
  clear hs hn
  go_enter Try.func4, Try.ntmps4
  go_wp2_with fail
  refine (awake_g w).mono ?_
  rintro e w1 ⟨rfl, hb1⟩
  have B1 := hid hb1
  clear hb1
  go_wp2_with fail
  refine (HFE.out _ B1.out).mono ?_
  rintro e w2 ⟨rfl, rfl⟩
  by_cases hfew : Few n l
  case neg =>
    rw [decide_eq_false hfew]
    clear hfew
    go_wp2_with fail
    refine (awake_g w1).mono ?_
    rintro e w2 ⟨rfl, hb2⟩
    have B2 := B1.out.trans (hb2.mono B1.out.size)
    go_wp2
    go_ret
    exact ⟨rfl, B2⟩
  rw [decide_eq_true hfew]
  have HF := hid hfew
  have hnb : (n : Int) ≤ 150 := by have := hfew.2; omega
  clear hfew
  go_wp2_with fail
  refine (new_g w.heap.size w1 B1.out.size).mono ?_
  rintro e w2 ⟨rfl, hb2, hG2⟩
  have B2 := hid (B1.out.trans (hb2.mono B1.out.size))
  obtain ⟨H, hH⟩ : ∃ H, H = w1.heap.size := ⟨_, rfl⟩
  rw [← hH] at hG2 ⊢
  have HRA : Hid (GF w.heap.size w2 H (fun _ => .slice none 0 0) gr0 (.slice none 0 0) [] ∧ Th gr0 [] ∧ Below w.heap.size w w2) := ⟨⟨hG2, World.ownsRow_nil _ _ _ _, (fun k hk => nomatch hk)⟩, Th.start, B2.out⟩
  clear hb2 hG2 hH B1 B2 HFE w1
  go_wp2_with fail
  go_loopw [4, 5] (fun tv iv wr => ∃ (i : Nat) (R : Nat → Value) (G : Gr) (v : Value) (T : List Nat), i ≤ n ∧ v = tv ∧ iv = .int .i64 i ∧ Hid (GF w.heap.size wr H R G v T ∧ Th G T ∧ Below w.heap.size w wr)) (fun _ iv _ => n - (intOf iv).toNat)
  case atStart => exact ⟨0, _, _, _, [], Nat.zero_le _, rfl, rfl, HRA⟩
  case round =>
    clear HRA
    obtain ⟨i, R, G, v, T, hi, rfl, rfl, HI⟩ := hrel
    by_cases hin : i < n
    · have HK1 : Hid (i + 1 ≤ n) := hin
      have HMS : Hid (n - (i + 1) < n - i) := by unfold Hid; omega
      have hii : (i : Int) < (n : Int) := by omega
      have hib : (i : Int) ≤ 150 := by omega
      obtain ⟨⟨kd, id, ⟨A2, n2, c2⟩, zs⟩, b, off, hmem, rfl, hbl, hcell, hz, hn2⟩ := HS.out.one hin
      simp only at hcell hz hn2
      obtain ⟨c0, c1, c2'⟩ := hcell wr HI.out.2.2
      have hbr : b < wr.heap.size := Nat.lt_of_lt_of_le hbl HI.out.2.2.size
      have HBL := hid hbl
      have HCE := hid hcell
      have hn3 : n2 ≤ 300 := HF.out.1 _ hmem
      clear hin hi hcell
      by_cases hk1 : kd = 1
      · subst hk1
        have HADD := hid (add_th (cap := c2) ((HI.out.1).below (w' := wr.drew) (by repeat (first | with_reducible assumption | with_reducible exact Below.refl _ _ | with_reducible refine Below.drew ?_ | with_reducible refine below_drewN ?_ _ | with_reducible refine below_alloc ?_ _ | with_reducible refine Below.alloc ?_ (by first | omega | (simp; done) | (simp; omega)) _ | with_reducible refine Below.setCell ?_ (by first | omega | (simp; done) | (simp; omega)) _ | with_reducible refine below_setRow ?_ (by first | omega | (simp; done) | (simp; omega)) _))) HI.out.2.1 id ((hz.below HI.out.2.2).below (w' := wr.drew) (by repeat (first | with_reducible assumption | with_reducible exact Below.refl _ _ | with_reducible refine Below.drew ?_ | with_reducible refine below_drewN ?_ _ | with_reducible refine below_alloc ?_ _ | with_reducible refine Below.alloc ?_ (by first | omega | (simp; done) | (simp; omega)) _ | with_reducible refine Below.setCell ?_ (by first | omega | (simp; done) | (simp; omega)) _ | with_reducible refine below_setRow ?_ (by first | omega | (simp; done) | (simp; omega)) _))) (by omega))
        obtain ⟨A4, cap4, rfl⟩ := row_shape HI.out.1.r
        have HTL := hid HI.out.2.1.len
        have hTb : (T.length : Int) ≤ 100 := by have := HTL.out; omega
        have HBW := hid HI.out.2.2
        have HTH := hid HI.out.2.1
        have HZ : Hid (w.heap.size ≤ wr.heap.size) := HI.out.2.2.size
        clear hmem hbl hz hn2 hn3 HI
        go_upto_region 9 with (fail)
        go_region_held3 (fun w' => w'.cell? ⟨b, off + i * 3, none⟩ = some (.int .i64 1) ∧ w'.cell? ⟨b, off + i * 3 + 1, none⟩ = some (.int .i64 id) ∧ w'.cell? ⟨b, off + i * 3 + 2, none⟩ = some (.slice A2 n2 c2)) (first | (go_keep; done) | ((try go_split_ands); (try dsimp only); exact HCE.out _ HB9.out)) (first | (go_at_call 11; refine HADD.out.mono ?_; rintro e w9 ⟨okb, er, rfl, hb9, hres9⟩; have HB9 : Hid (Below w.heap.size w w9) := HBW.out.trans ((Below.drew (Below.refl _ _)).trans hb9); have HRES9 := hid hres9; clear hres9 hb9))
        all_goals
          clear HADD c0 c1 c2'
          have hb9r : b < w9.heap.size := Nat.lt_of_lt_of_le HBL.out HB9.out.size
          have d1 := (HCE.out _ HB9.out).2.1
          rcases HRES9.out with ⟨rfl, R', G', y, rfl, hgf, hth⟩ | ⟨hne, hgf⟩
          · obtain ⟨A8, cap8, w10, happ, hgf2, hb10, -, -⟩ := hgf.app (by have := HTL.out; omega) y
            have HAPP := hid happ
            have HR10 : Hid (GF w.heap.size w10 H R' G' (.slice A8 (T.length + 1) cap8) (T ++ [y]) ∧ Th G' (T ++ [y]) ∧ Below w.heap.size w w10) := ⟨hgf2, hth, HB9.out.trans hb10⟩
            clear happ hgf hth hgf2 hb10 HRES9
            go_wp2_with (first | (at_builtin; refine wpList_append_eq rfl _ _ _ rfl rfl rfl HAPP.out ?_))
            go_roundw
            case rel => exact ⟨i + 1, _, _, _, _, HK1.out, rfl, by go_num, HR10⟩
            case measure => have := HMS.out; simp [intOf]; omega
          · have hne' : (er == 0) = false := by simpa using hne
            have HR9 : Hid (GF w.heap.size w9 H R G (.slice A4 T.length cap4) T ∧ Th G T ∧ Below w.heap.size w w9) := ⟨hgf, HTH.out, HB9.out⟩
            clear hgf HRES9 hne
            go_wp2
            go_roundw
            case rel => exact ⟨i + 1, _, _, _, _, HK1.out, rfl, by go_num, HR9⟩
            case measure => have := HMS.out; simp [intOf]; omega
      · have hk1' : (kd == 1) = false := by simpa using hk1
        have HR2 := hid HI.out
        clear hmem hbl hz hn2 hn3 hk1 HI
        go_wp2
        go_roundw
        case rel => exact ⟨i + 1, _, _, _, _, HK1.out, rfl, by go_num, HR2⟩
        case measure => have := HMS.out; simp [intOf]; omega
    · have hii : ¬ (i : Int) < (n : Int) := by omega
      obtain ⟨A4, cap4, rfl⟩ := row_shape HI.out.1.r
      have HTH := hid HI.out.2.1
      have HTL := hid HI.out.2.1.len
      have hTb : (T.length : Int) ≤ 100 := by have := HTL.out; omega
      have HRD : Hid (Rd w.heap.size w wr H R G (.slice none 0 0) (.slice A4 T.length cap4) [] T ∧ ([] : List Nat).Nodup ∧ (∀ x ∈ ([] : List Nat), x ∈ T) ∧ min 0 T.length ≤ ([] : List Nat).length) :=
        ⟨⟨⟨HI.out.1.g, World.ownsRow_nil _ _ _ _, (fun k hk => nomatch hk)⟩, HI.out.1.r, (fun g _ q => nomatch q), HI.out.2.2⟩, List.nodup_nil, (fun x hx => nomatch hx), by simp⟩
      clear HI hi hin HS HF hnb
      go_wp2_with fail
      go_loopw [8, 9] (fun sv tv wr => ∃ (t : Nat) (O : List Nat) (v : Value), t ≤ T.length + 1 ∧ v = sv ∧ tv = .int .i64 t ∧ Hid (Rd w.heap.size w wr H R G v (.slice A4 T.length cap4) O T ∧ O.Nodup ∧ (∀ x ∈ O, x ∈ T) ∧ min t T.length ≤ O.length)) (fun _ tv _ => T.length + 1 - (intOf tv).toNat)
      case atStart => exact ⟨0, [], _, Nat.zero_le _, rfl, rfl, HRD⟩
      case round =>
        clear HRD
        obtain ⟨t, O0, v0, ht, rfl, rfl, HI⟩ := hrel
        by_cases htn : t ≤ T.length
        · have htt : (t : Int) ≤ (T.length : Int) := by omega
          have htb : (t : Int) ≤ 100 := by omega
          have HT1 : Hid (t + 1 ≤ T.length + 1) := by unfold Hid; omega
          have HMT : Hid (T.length + 1 - (t + 1) < T.length + 1 - t) := by unfold Hid; omega
          have HRD : Hid (Rd w.heap.size w wr H R G v0 (.slice A4 T.length cap4) O0 T ∧ Ps G T O0 0 O0) := ⟨HI.out.1, Ps.start HI.out.2.1 HI.out.2.2.1⟩
          have HO0 := hid HI.out.2
          clear ht htn HI
          go_wp2_with fail
          go_loopw [8, 10] (fun sv jv wr => ∃ (j : Nat) (O : List Nat) (v : Value), j ≤ T.length ∧ v = sv ∧ jv = .int .i64 j ∧ Hid (Rd w.heap.size w wr H R G v (.slice A4 T.length cap4) O T ∧ Ps G T O0 j O)) (fun _ jv _ => T.length - (intOf jv).toNat)
          case atStart => exact ⟨0, O0, _, Nat.zero_le _, rfl, rfl, HRD⟩
          case round =>
            clear HRD
            obtain ⟨j, O, v, hj, rfl, rfl, HI⟩ := hrel
            by_cases hjn : j < T.length
            · have hjj : (j : Int) < (T.length : Int) := by omega
              have hjb : (j : Int) ≤ 100 := by omega
              have HJ1 : Hid (j + 1 ≤ T.length) := hjn
              have HMJ : Hid (T.length - (j + 1) < T.length - j) := by unfold Hid; omega
              obtain ⟨A5, cap5, rfl⟩ := row_shape HI.out.1.gf.r
              obtain ⟨g5, x, rfl, hg5, cx, hmx, hxj⟩ := row_elem HI.out.1.l hjn
              have HXJ := hid hxj
              have hst := (HTH.out.mem x).1 hmx
              have hrx := HTH.out.ok.rng x hst
              have HPA := hid (parents_yes HI.out.1.gf.g HTH.out.ok (y := x) hrx.1 hrx.2 hst)
              have HPL : Hid ((G.pa x).length ≤ 100) := HTH.out.ok.pal x
              have HTK0 : Hid (tkn G T O x 0 = decide (x ∉ O)) := by unfold Hid tkn; rw [List.take_zero]; simp
              have HTKN : Hid (∀ k p, (G.pa x)[k]? = some p → tkn G T O x (k + 1) = (tkn G T O x k && (decide (p ∈ O) || decide (p ∉ T)))) := fun k p hp => tkn_next hp
              obtain ⟨px, hpx⟩ : ∃ px, px = G.pa x := ⟨_, rfl⟩
              rw [← hpx] at HPA HPL HTKN
              have HPX := hid hpx
              have HOL : Hid (O.length ≤ 100) := by
                have := nodup_len HI.out.2.nd HI.out.2.sub
                have := HTL.out
                unfold Hid; omega
              have HCX := hid cx
              have HG5 := hid hg5
              clear hj hjn hmx hxj hst hrx hpx
              go_wp2_with fail
              refine HPA.out.mono ?_
              rintro e w8 ⟨⟨v8, rfl, hrow8⟩, hb8⟩
              have HI8 : Hid (Rd w.heap.size w w8 H R G (.slice A5 O.length cap5) (.slice (some ⟨g5, 0, none⟩) T.length cap4) O T ∧ Ps G T O0 j O) := ⟨HI.out.1.below hb8, HI.out.2⟩
              have cx8 : w8.cell? ⟨g5, j, none⟩ = some (.int .i64 (x : Nat)) := (hb8.cell HG5.out).trans HCX.out
              have hg8 : g5 < w8.heap.size := Nat.lt_of_lt_of_le HG5.out hb8.size
              have HROW8 := hid hrow8
              obtain ⟨A8, cap8, rfl⟩ := row_shape hrow8
              have hpl : (px.length : Int) ≤ 100 := by have := HPL.out; omega
              have HIN0 := hid (in_any (cap := cap5) (x : Int) (slz_row HI8.out.1.gf.r) (by have := HOL.out; omega))
              have hq : decide ((x : Int) ∈ toZ O) = !tkn G T O x 0 := by
                rw [HTK0.out]
                by_cases q : x ∈ O
                · simp [q, mem_toZ']
                · simp [q, mem_toZ']
              rw [hq] at HIN0
              obtain ⟨r0, hr0⟩ : ∃ r, r = tkn G T O x 0 := ⟨_, rfl⟩
              rw [← hr0] at HIN0
              have HR0 := hid hr0
              have hnn : (!(!r0)) = r0 := by cases r0 <;> rfl
              clear hrow8 hb8 HPA HI cx hg5 hq hr0 HTK0
              go_wp2_with fail
              refine HIN0.out.mono ?_
              rintro e w9 ⟨rfl, rfl⟩
              go_wp2_with fail
              go_loopw [13, 14] (fun uv kv wr => ∃ (k : Nat) (u : Bool), k ≤ px.length ∧ uv = .bool u ∧ Hid (u = tkn G T O x k) ∧ kv = .int .i64 k ∧ wr = w8) (fun _ kv _ => px.length - (intOf kv).toNat)
              case atStart => exact ⟨0, r0, Nat.zero_le _, by first | rfl | simp, HR0, rfl, rfl⟩
              case round =>
                obtain ⟨k, u, hk, rfl, HU, rfl, rfl⟩ := hrel
                by_cases hkn : k < px.length
                · have hkk : (k : Int) < (px.length : Int) := by omega
                  have HK1 : Hid (k + 1 ≤ px.length) := hkn
                  have HMK : Hid (px.length - (k + 1) < px.length - k) := by unfold Hid; omega
                  obtain ⟨g9, p, rfl, hg9, cp, hmp, hp⟩ := row_elem HROW8.out hkn
                  have HUN := hid (HTKN.out k p hp)
                  have HIN := hid (in_any (cap := cap5) (p : Int) (slz_row HI8.out.1.gf.r) (by have := HOL.out; omega))
                  have HIT := hid (in_any (cap := cap4) (p : Int) (slz_row HI8.out.1.l) (by have := HTL.out; omega))
                  clear hmp hp hk hkn
                  cases u with
                  | false =>
                    have HUT : Hid (false = tkn G T O x (k + 1)) := by unfold Hid; rw [HUN.out, ← HU.out]; rfl
                    go_wp2
                    go_roundw
                    case rel => exact ⟨k + 1, false, HK1.out, rfl, HUT, by go_num, by trivial⟩
                    case measure => have := HMK.out; simp [intOf]; omega
                  | true =>
                    obtain ⟨r, hr⟩ : ∃ r, r = decide ((p : Int) ∈ toZ O) := ⟨_, rfl⟩
                    obtain ⟨q, hq⟩ : ∃ r, r = decide ((p : Int) ∈ toZ T) := ⟨_, rfl⟩
                    rw [← hr] at HIN
                    rw [← hq] at HIT
                    have HUT : Hid ((r || !q) = tkn G T O x (k + 1)) := by
                      unfold Hid
                      rw [HUN.out, ← HU.out, hr, hq, Bool.true_and]
                      have e1 : decide ((p : Int) ∈ toZ O) = decide (p ∈ O) := by rw [decide_eq_decide]; exact mem_toZ'
                      have e2 : decide ((p : Int) ∈ toZ T) = decide (p ∈ T) := by rw [decide_eq_decide]; exact mem_toZ'
                      rw [e1, e2]
                      by_cases z : p ∈ T <;> simp [z]
                    clear hr hq HU
                    cases r with
                    | true =>
                      have HUT2 : Hid (true = tkn G T O x (k + 1)) := by unfold Hid; rw [← HUT.out]; rfl
                      go_wp2_with fail
                      refine HIN.out.mono ?_
                      rintro e w9 ⟨rfl, rfl⟩
                      go_wp2
                      go_roundw
                      case rel => exact ⟨k + 1, true, HK1.out, rfl, HUT2, by go_num, by trivial⟩
                      case measure => have := HMK.out; simp [intOf]; omega
                    | false =>
                      have HUT2 : Hid ((!q) = tkn G T O x (k + 1)) := by unfold Hid; rw [← HUT.out]; rfl
                      go_wp2_with fail
                      refine HIN.out.mono ?_
                      rintro e w9 ⟨rfl, rfl⟩
                      go_wp2_with fail
                      refine HIT.out.mono ?_
                      rintro e w9 ⟨rfl, rfl⟩
                      go_wp2
                      go_roundw
                      case rel => exact ⟨k + 1, !q, HK1.out, rfl, HUT2, by go_num, by trivial⟩
                      case measure => have := HMK.out; simp [intOf]; omega
                · obtain rfl : k = px.length := by omega
                  have hkk : ¬ (px.length : Int) < (px.length : Int) := by omega
                  have HUL : Hid (tkn G T O x (G.pa x).length = u) := by unfold Hid; rw [HU.out, HPX.out]
                  clear hk hkn HU
                  cases u with
                  | false =>
                    have HREL : Hid (Rd w.heap.size w wr H R G (.slice A5 O.length cap5) (.slice (some ⟨g5, 0, none⟩) T.length cap4) O T ∧ Ps G T O0 (j + 1) O) := ⟨HI8.out.1, HI8.out.2.no HXJ.out HUL.out⟩
                    clear HI8 HUL
                    go_wp2
                    go_roundw
                    case rel => exact ⟨j + 1, O, _, HJ1.out, rfl, by go_num, HREL⟩
                    case measure => have := HMJ.out; simp [intOf]; omega
                  | true =>
                    obtain ⟨A6, cap6, w10, happ, hrd⟩ := HI8.out.1.app (y := x) (by have := HOL.out; omega)
                    have HAPP := hid happ
                    have HREL : Hid (Rd w.heap.size w w10 H R G (.slice A6 (O.length + 1) cap6) (.slice (some ⟨g5, 0, none⟩) T.length cap4) (O ++ [x]) T ∧ Ps G T O0 (j + 1) (O ++ [x])) := ⟨hrd, HI8.out.2.yes HXJ.out HUL.out⟩
                    clear happ hrd HI8 HUL
                    go_wp2_with (first | (at_builtin; refine wpList_append_eq rfl _ _ _ rfl rfl rfl HAPP.out ?_))
                    go_roundw
                    case rel => exact ⟨j + 1, O ++ [x], _, HJ1.out, rfl, by go_num, HREL⟩
                    case measure => have := HMJ.out; simp [intOf]; omega
            · obtain rfl : j = T.length := by omega
              have hjj : ¬ (T.length : Int) < (T.length : Int) := by omega
              have HREL : Hid (Rd w.heap.size w wr H R G v (.slice A4 T.length cap4) O T ∧ O.Nodup ∧ (∀ x ∈ O, x ∈ T) ∧ min (t + 1) T.length ≤ O.length) := ⟨HI.out.1, HI.out.2.nd, HI.out.2.sub, by
                have h1 := HO0.out.2.2
                have h2 := HI.out.2.le
                by_cases q : O0.length < T.length
                · have := HI.out.2.more HTH.out HO0.out.1 HO0.out.2.1 q
                  omega
                · omega⟩
              clear HI HO0 hj hjn
              go_wp2
              go_roundw
              case rel => exact ⟨t + 1, O, _, HT1.out, rfl, by go_num, HREL⟩
              case measure => have := HMT.out; simp [intOf]; omega
        · obtain ⟨A5, cap5, rfl⟩ := row_shape HI.out.1.gf.r
          have htt : ¬ (t : Int) ≤ (T.length : Int) := by omega
          have htb : (t : Int) ≤ 101 := by omega
          have hol : O0.length = T.length := by
            have h1 := HI.out.2.2.2
            have h2 := nodup_len HI.out.2.1 HI.out.2.2.1
            omega
          have HB := hid HI.out.1.bel
          have hob : (O0.length : Int) ≤ 100 := by omega
          clear HI ht htn
          go_wp2
          go_ret
          exact ⟨by simp, HB.out⟩
end Go.Proofs.Ytolfioiccmmifaa
