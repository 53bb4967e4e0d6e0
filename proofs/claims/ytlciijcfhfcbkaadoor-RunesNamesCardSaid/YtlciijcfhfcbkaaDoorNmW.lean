/- Chapter 1: ContainsAny of a name and two marks: none is met; Quote of a name. -/
import Derived.Test.YtlciijcfhfcbkaaDoorShg
import Derived.WalkMore
import Derived.Deep.DeepCutAuto
import Derived.Deep.CutBlock
import Derived.Test.YtlciijcfhfcbkaaDoorRunA
import Derived.Test.YtlciijcfhfcbkaaDoorNmp
import Derived.Test.YtlciijcfhfcbkaaDoorRunC
namespace Go.Proofs.YtlciijcfhfcbkaaDoor
open Go.RowKit
/-- A blank and a quotation mark. -/
def chQ : ByteArray := ⟨#[32, 34]⟩
theorem ib_all : ((List.range 128).all fun c => !inName c || (Lib.indexByte chQ.data.toList (UInt8.ofNat c) == -1)) = true := by decide +kernel
theorem ib_name {c : Nat} (hc : c < 128) (h : inName c = true) : Lib.indexByte chQ.data.toList ((c : Int)).toNat.toUInt8 = -1 := by
  have := List.all_eq_true.1 ib_all c (List.mem_range.2 hc)
  rw [h] at this
  simpa using this
/-- The two bytes of a Greek letter. -/
def grB (c : Nat) : ByteArray := ⟨#[UInt8.ofNat (192 + c / 64), UInt8.ofNat (128 + c % 64)]⟩
theorem conv_gr (c : Nat) (h1 : 945 ≤ c) (h2 : c ≤ 969) (w : World) : (convert 21 9 (.int .i32 (c : Int))).run Tryd.prog w = .ok (.string (grB c)) w := by
  have h : c = 945 ∨ c = 946 ∨ c = 947 ∨ c = 948 ∨ c = 949 ∨ c = 950 ∨ c = 951 ∨ c = 952 ∨ c = 953 ∨ c = 954 ∨ c = 955 ∨ c = 956 ∨ c = 957 ∨ c = 958 ∨ c = 959 ∨ c = 960 ∨ c = 961 ∨ c = 962 ∨ c = 963 ∨ c = 964 ∨ c = 965 ∨ c = 966 ∨ c = 967 ∨ c = 968 ∨ c = 969 := by omega
  clear h1 h2
  rcases h with rfl | rfl | rfl | rfl | rfl | rfl | rfl | rfl | rfl | rfl | rfl | rfl | rfl | rfl | rfl | rfl | rfl | rfl | rfl | rfl | rfl | rfl | rfl | rfl | rfl
  all_goals (show Sem.run _ _ _ = Result.ok _ _; kernel_rfl)
set_option maxHeartbeats 4000000 in
set_option maxRecDepth 200000 in
theorem irune_gr (c : Nat) (h1 : 945 ≤ c) (h2 : c ≤ 969) (w : World) : Calls Tryd.prog 34 #[.string chQ, .int .i32 (c : Int)] w fun e w' => e = .returned (.int .i64 (-1)) ∧ Below w.heap.size w w' := by
  have hv := conv_gr c h1 h2
  have a1 : (0 : Int) ≤ (c : Int) := by omega
  have a2 : ¬ (c : Int) < 128 := by omega
  have a3 : ((c : Int) == 65533) = false := by rw [beq_eq_false_iff_ne]; omega
  have hvr : Lib.validRune (c : Int) = true := by unfold Lib.validRune; rw [decide_eq_true_eq]; omega
  have hsz : (grB c).size = 2 := rfl
  obtain ⟨x1, hx1⟩ : ∃ x : UInt8, (grB c)[1]'(by show 1 < 2; omega) = x := ⟨_, rfl⟩
  have hxv : x1.toNat = 128 + c % 64 := by
    rw [← hx1]
    show (UInt8.ofNat (128 + c % 64)).toNat = _
    simp
    omega
  obtain ⟨ch, hch⟩ : ∃ ch, ch = chQ := ⟨_, rfl⟩
  obtain ⟨y1, hy1⟩ : ∃ y : UInt8, chQ[1]'(by show 1 < 2; omega) = y := ⟨_, rfl⟩
  have hyv : y1.toNat = 34 := by rw [← hy1]; rfl
  have t1 : ((y1.toNat : Int) != (x1.toNat : Int)) = true := by rw [bne_iff_ne]; omega
  have hcs : ch.size = 2 := by rw [hch]; rfl
  have hy1' : ch[1]'(by omega) = y1 := by subst hch; exact hy1
  rw [← hch]
  obtain ⟨rs, hrs⟩ : ∃ rs, rs = grB c := ⟨_, rfl⟩
  rw [← hrs] at hv
  have hsz' : rs.size = 2 := by rw [hrs]; exact hsz
  have hx1' : rs[1]'(by omega) = x1 := by subst hrs; exact hx1
  clear h1 h2 hxv hx1 hsz hrs hyv hy1 hch
  go_enter Tryd.func34, Tryd.ntmps34
  go_wp2_with (go_at_call 42; refine (Tryd.utf8_ValidRune _ _).mono ?_; rintro e w' ⟨rfl, hw⟩; rw [hw, hvr])
  go_step3
  go_upto_region 5 with fail
  refine wp_loop_rounds 1 ?_
  rw [rounds_succ]
  go_upto_region 6 with fail
  go_step3
  go_upto_region 6 with fail
  refine wp_region_lat (by kernel_rfl) (by kernel_rfl) ?_
  repeat (go_big_quiet_step (fail))
  refine wpQuiet_nil ?_
  rintro wy ⟨xy_, hxy⟩
  have hby := xy_.h
  rw [← hxy] at hby
  clear hxy xy_
  go_upto_region 7 with fail
  have hex : ch.extract 2 2 = ByteArray.empty := by
    apply ByteArray.ext
    simp
  have hsl : ∀ W : World, (Instr.slice 9 (.string ch) (some (.int .i64 2)) none none).run Tryd.prog W = .ok (.string ByteArray.empty) W := by
    intro W
    have := run_slice_string_l (P := Tryd.prog) (w := W) 9 ch Tryd.underlying9 .i64 2 (by omega) (by omega)
    rw [hcs] at this
    rw [← hex]
    exact this
  obtain ⟨em, hem⟩ : ∃ em, em = ByteArray.empty := ⟨_, rfl⟩
  rw [← hem] at hsl
  clear hex
  have hIB : ∀ W (k : Int), Calls Tryd.prog 41 #[.string em, .int .u8 k] W fun e w' => e = .returned (.int .i64 (-1)) ∧ Below W.heap.size W w' := by
    intro W k
    subst hem
    refine (Tryd.strings_IndexByte ByteArray.empty k W).mono ?_
    rintro e w' ⟨rfl, rfl⟩
    exact ⟨rfl, Below.refl _ _⟩
  clear hem
  refine wp_region_lat (by kernel_rfl) (by kernel_rfl) ?_
  repeat (go_big_quiet_step (first | (go_at_call 41; exact lat_of (Nat.le_refl _) (hIB _ _))))
  refine wpQuiet_nil ?_
  rintro wz ⟨xz_, hxz⟩
  have hbz := xz_.h
  rw [← hxz] at hbz
  clear hxz xz_
  go_wp2
  rw [Exit.noGoto_ret]
  go_wp2
  rw [Exit.noGoto_ret]
  go_ret
  exact ⟨rfl, hby.trans (hbz.mono hby.size)⟩
theorem irune_name (c : Nat) (h : inName c = true) (w : World) : Calls Tryd.prog 34 #[.string chQ, .int .i32 (c : Int)] w fun e w' => e = .returned (.int .i64 (-1)) ∧ Below w.heap.size w w' := by
  by_cases hc : c < 128
  · refine (Tryd.strings_IndexRune_ascii chQ (c : Int) w (by omega) (by omega)).mono ?_
    rintro e w' ⟨rfl, rfl⟩
    rw [ib_name hc h]
    exact ⟨rfl, Below.refl _ _⟩
  · have h1 := (inName_iff c).1 h
    exact irune_gr c (by omega) (by omega) w
open Go.Lib in
theorem dec_four {s : ByteArray} {i : Nat} : (Utf8.decode s i).2 ≤ 4 := by
  rw [decode_at]
  rcases decodeN_shape (s.size - i) (s.get! i).toNat (s.get! (i + 1)).toNat (s.get! (i + 2)).toNat (s.get! (i + 3)).toNat with ⟨c, e⟩ | ⟨c1, c2, c3, cv, e⟩ | ⟨c1, c2, c3, c4, cv, cs, e⟩ | ⟨c1, c2, c3, c4, c5, cv, cw, e⟩ | e <;> rw [e] <;> simp
theorem nms_size (s : ByteArray) : ∀ d i n m, s.size - i ≤ d → nmsA s i n = some m → s.size - i + 4 * n ≤ 4 * m := by
  intro d
  induction d with
  | zero =>
    intro i n m h e
    rw [nmsA_eq, if_neg (by omega)] at e
    cases e
    omega
  | succ d ih =>
    intro i n m h e
    rw [nmsA_eq] at e
    split at e
    · rename_i hi
      split at e
      · have h1 := dec_pos hi
        have h2 := dec_four (s := s) (i := i)
        have := ih _ _ _ (by omega) e
        omega
      · cases e
    · cases e; omega
/-- A name is short. -/
theorem name_size {s : ByteArray} (h : nameB s = true) : s.size ≤ 64 := by
  obtain ⟨m, hm, -, h2⟩ := name_some h
  have := nms_size s s.size 0 0 m (by omega) hm
  omega
theorem no_any {s : ByteArray} (h : nameB s = true) : Lib.NoAny s.data.toList chQ.data.toList s.data.toList.length := by
  intro j b hj hb
  have hjs : j < s.size := by rw [Lib.size_eq]; exact hj
  have h1 := NB_no (name_bytes h j hjs)
  have hg : s.get! j = b := by
    rw [get_at s j hjs]
    have := Lib.data_getElem? s j hjs
    rw [this] at hb
    exact Option.some.inj hb
  rw [hg] at h1
  show ([32, 34] : List UInt8).contains b = false
  rw [List.contains_eq_mem]
  simp only [decide_eq_false_iff_not, List.mem_cons, List.mem_nil_iff, or_false, not_or]
  refine ⟨fun e => h1.1 (by rw [e]; rfl), fun e => h1.2.1 (by rw [e]; rfl)⟩
theorem nms_next {s : ByteArray} {p n m : Nat} (hp : p < s.size) (h : nmsA s p n = some m) : inName (Utf8.decode s p).1 = true ∧ nmsA s (p + (Utf8.decode s p).2) (n + 1) = some m := by
  rw [nmsA_eq, if_pos hp] at h
  split at h
  · rename_i hn
    exact ⟨hn, h⟩
  · cases h
set_option maxHeartbeats 1000000 in
set_option maxRecDepth 20000 in
theorem iany_short (s : ByteArray) (w : World) (h8 : s.size ≤ 8) (h : nameB s = true) : Calls Tryd.prog 29 #[.string s, .string chQ] w fun e w' => e = .returned (.int .i64 (-1)) ∧ Below w.heap.size w w' := by
  obtain ⟨m, hm, -, -⟩ := name_some h
  have HM := hid hm
  clear hm h
  have hemp : chQ.toList.isEmpty = false := by rw [Lib.toList_data]; rfl
  have hn1 : ((chQ.size : Int) == 1) = false := by decide
  have h8z : decide ((8 : Int) < (s.size : Int)) = false := decide_eq_false (by omega)
  have hI := fun c hc W => irune_name c hc W
  obtain ⟨ch, hch⟩ : ∃ ch, ch = chQ := ⟨_, rfl⟩
  rw [← hch] at hI hemp hn1 ⊢
  have HIR := hid hI
  clear hch hI
  go_enter Tryd.func29, Tryd.ntmps29
  go_wp2_with (go_at_call 35; refine (Any.strings_shouldUseASCIISet Tryd.lays226 _ _).mono ?_; rintro e w' ⟨rfl, hw⟩; rw [hw, h8z])
  go_loopw [9, 10] (fun _ _ wr => ∃ p n : Nat, Hid (It w wr w.heap.size s p) ∧ Hid (nmsA s p n = some m)) (fun _ _ wr => s.size - wr.iterPos w.heap.size)
  case atStart => exact ⟨0, 0, ⟨below_alloc (Below.refl _ _) _, World.iter_heap w s 0, Nat.zero_le _⟩, HM.out⟩
  case round =>
    obtain ⟨p, n, HI, HC⟩ := hrel
    by_cases hp : p < s.size
    · have hnx := fun ty => next_more (ty := ty) HI.out.it hp
      have HI2 := hid (HI.out.on hp)
      obtain ⟨hin, hnm⟩ := nms_next hp HC.out
      obtain ⟨c, k, hck⟩ : ∃ c k, Utf8.decode s p = (c, k) := ⟨_, _, rfl⟩
      have HPK : Hid (1 ≤ k ∧ p + k ≤ s.size) := by have h1 := dec_pos hp; have h2 := dec_le hp; rw [hck] at h1 h2; exact ⟨h1, h2⟩
      rw [hck] at hnx HI2 hin hnm
      simp only at hnx HI2 hin hnm
      obtain ⟨w2, hw2⟩ : ∃ w2, w2 = itAt wr w.heap.size s (p + k) := ⟨_, rfl⟩
      rw [← hw2] at hnx HI2
      have HIN := hid hin
      have HN := hid hnm
      have HI' := HI
      clear hck hw2 hp HI hin hnm
      go_wp2_with fail
      refine (HIR.out c HIN.out _).mono ?_
      rintro e w3 ⟨rfl, hb3⟩
      have HI3 := hid (HI2.out.below hb3)
      clear hb3
      go_wp2
      go_roundw
      case rel => exact ⟨p + k, n + 1, HI3.out, HN.out⟩
      case measure => rw [HI3.out.pos, HI'.out.pos]; have := HPK.out; omega
    · have hnx := fun ty => next_over (ty := ty) HI.out.it hp
      clear hp
      go_wp2
      go_ret
      exact ⟨rfl, HI.out.bel⟩
theorem iany_name (s : ByteArray) (w : World) (h : nameB s = true) : Calls Tryd.prog 29 #[.string s, .string chQ] w fun e w' => e = .returned (.int .i64 (-1)) ∧ Below w.heap.size w w' := by
  by_cases h8 : s.size ≤ 8
  · exact iany_short s w h8 h
  · have hz := name_size h
    refine (Tryd.strings_IndexAny_long (zero_of_info (n := 256) (by kernel_rfl)).1 s chQ w (by decide) (by omega) (by omega) (by decide) (fun j b hb => ?_)).mono ?_
    · have hm : b ∈ chQ.data.toList := List.mem_of_getElem? hb
      have : b = 32 ∨ b = 34 := by simpa [chQ] using hm
      rcases this with rfl | rfl <;> decide
    · rintro e w' ⟨rfl, rfl⟩
      rw [Lib.indexAny_none (no_any h)]
      exact ⟨rfl, ((Below.refl _ _).alloc (Nat.le_refl _) _).alloc (by simp) _⟩
theorem cany_name (s : ByteArray) (w : World) (h : nameB s = true) : Calls Tryd.prog 23 #[.string s, .string chQ] w fun e w' => e = .returned (.bool false) ∧ Below w.heap.size w w' := by
  have hI := hid (iany_name s w h)
  clear h
  obtain ⟨ch, hch⟩ : ∃ ch, ch = chQ := ⟨_, rfl⟩
  rw [← hch] at hI ⊢
  clear hch
  go_enter Tryd.func23, Tryd.ntmps23
  go_wp2_with fail
  refine hI.out.mono ?_
  rintro e w1 ⟨rfl, hb1⟩
  go_wp2
  go_ret
  exact ⟨rfl, hb1⟩
/-- A name stands for itself. -/
theorem quote_name (s : ByteArray) (w : World) (h : nameB s = true) : Calls Tryd.prog 16 #[.string s] w fun e w' => e = .returned (.string s) ∧ Below w.heap.size w w' := by
  have hI := hid (cany_name s w h)
  have hp := name_pos h
  have hne : s.toList.isEmpty = false := by
    rw [Lib.toList_data]
    cases hl : s.data.toList with
    | nil => have := Lib.size_eq s; rw [hl, List.length_nil] at this; omega
    | cons _ _ => rfl
  clear h hp
  go_enter Tryd.func16, Tryd.ntmps16
  go_wp2_with fail
  refine hI.out.mono ?_
  rintro e w1 ⟨rfl, hb1⟩
  go_wp2
  go_ret
  exact ⟨rfl, hb1⟩
end Go.Proofs.YtlciijcfhfcbkaaDoor
