/- Chapter 19's All: the nodes rising by their names, in a row of the call's own. -/
import Derived.Test.YtkplhobiciddoaaWkD
namespace Go.Proofs.Ytkplhobiciddoaa
open Go.RowKit Go.Maps Go.WideShapes Go.Shelf Go.Lib Go.Sort
theorem hlenN (n : Nat) (W : World) (h : n ≤ 12) : Calls Try.prog 43 #[.int .u64 n] W fun e w' => (∃ l : Int, e = .returned (.int .i64 l)) ∧ w' = W :=
  (Any.bits_Len Try.lays125 n W (by omega) (by omega)).mono fun _ _ ⟨he, hw⟩ => ⟨⟨_, he⟩, hw⟩
theorem aggNd (w : World) : (isAgg 34).run Try.prog w = .ok true w := by kernel_rfl
theorem sizeNd (w : World) : (Go.sizeOf 34).run Try.prog w = .ok 8 w := by kernel_rfl
theorem sortN (blk cap : Nat) (d : Array Nd) (w : World) (hH : HoldsK cellsN 8 w blk 0 d) (hblk : blk < w.heap.size) (h12 : d.size ≤ 12) :
    Calls Try.prog 46 #[.slice (some ⟨blk, 0, none⟩) d.size cap, .func (.func 31) #[] #[]] w fun e w' => e = .returned (.tuple #[]) ∧ ∃ n os, w' = sortWorldK cellsN 8 w blk 0 n (insertionSort (ltOf cmpN) d 0 d.size) os :=
  AnyQ.slices_SortFunc_small Try.sortK46 8 aggNd sizeNd cellsN (fun _ => rfl) cellsN_one cmpN 31 #[] blk 0 cap d w (enters_of Try.func31 (by kernel_rfl) rfl) (fun _ _ _ _ x y => closureN x y _) hH hblk h12 hlenN
set_option maxRecDepth 20000 in
set_option maxHeartbeats 1000000 in
theorem insNil (g : Nat) (w : World) : Calls Try.prog 76 #[.slice none 0 0, .int .i64 0, .int .i64 0, .func (.func g) #[] #[]] w fun e w' => e = .returned (.tuple #[]) ∧ w' = w := by
  go_enter Try.func76, Try.ntmps76
  go_wp2
  refine wp_loop_rounds 1 ?_
  rw [rounds_succ]
  go_wp2
  go_end0
  exact ⟨rfl, rfl⟩
set_option maxRecDepth 20000 in
set_option maxHeartbeats 1000000 in
theorem pdqNil (g : Nat) (l : Int) (w : World) : Calls Try.prog 66 #[.slice none 0 0, .int .i64 0, .int .i64 0, .int .i64 l, .func (.func g) #[] #[]] w fun e w' => e = .returned (.tuple #[]) ∧ w' = w := by
  have hi := insNil g w
  go_enter Try.func66, Try.ntmps66
  go_wp2
  refine wp_loop_rounds 1 ?_
  rw [rounds_succ]
  go_wp2_with fail
  refine hi.mono ?_
  rintro e w' ⟨rfl, rfl⟩
  go_wp2
  (try simp only [Exit.inBlock, Exit.then]); refine bodyPost_ret (results_none rfl _ _ _) rfl ?_
  exact ⟨rfl, rfl⟩
set_option maxRecDepth 20000 in
set_option maxHeartbeats 1000000 in
theorem sortNil (g : Nat) (w : World) : Calls Try.prog 46 #[.slice none 0 0, .func (.func g) #[] #[]] w fun e w' => e = .returned (.tuple #[]) ∧ w' = w := by
  have hl := hlenN 0 w (by omega)
  have hp := fun l => pdqNil g l w
  go_enter Try.func46, Try.ntmps46
  go_wp2_with fail
  refine hl.mono ?_
  rintro e w' ⟨⟨l, rfl⟩, rfl⟩
  go_wp2_with fail
  refine (hp l).mono ?_
  rintro e w' ⟨rfl, rfl⟩
  go_wp2
  go_end0
  exact ⟨rfl, rfl⟩
set_option maxRecDepth 100000 in
set_option maxHeartbeats 1000000 in
theorem collect_in (F : Fence) (n : Nat) (hf : F.fn 45) (hf2 : F.fn 65) (hro : F.round = none) (hn : 4 ≤ n) (g : Nat) (lb : Array Value) (hFg : F.fn g) (eg : ∀ args w, (callFunc g args).run Try.prog w = .ok (.enter g args) w)
    (L : List Nd) (hL : L.length ≤ 12) (w : World) (hseq : ∀ w', Below w.heap.size w w' → SeqStopsK F (n - 1 - 1) Try.prog g lb (fun x : Nd => #[ndV x]) KeepsWalks (fun ss => ss.Perm L) (fun _ => True) L.length w') :
    CallsIn F n Try.prog 45 #[.func (.func g) #[] lb] w fun e w' => ∃ (v : Value) (ss : List Nd), e = .returned v ∧ ss.Perm L ∧ w'.ownsRow w.heap.size 34 8 v ss.length (flatN ss) ∧ (v = .slice none 0 0 ↔ ss = []) ∧ Below w.heap.size w w' := by
  have h1 : 1 ≤ n := by omega
  refine callsIn_of_wp Try.func45 rfl hf ?_ hro
  simp only [Try.ntmps45, List.size_toArray, List.length_cons, List.length_nil, Nat.reduceAdd, Nat.reduceSub, Array.replicate_succ, Array.replicate_zero, List.push_toArray, List.append_toArray, List.nil_append, List.cons_append]
  gi_wp2_with (gi_at_call 65; refine (appendSeq_in F (n - 1) hf2 hro (by omega) g lb hFg eg L hL _ hseq).mono ?_; rintro e w' ⟨v, ss, rfl, hS, hrow, hnil, hb⟩)
  go_ret
  exact ⟨v, ss, rfl, hS, hrow, hnil, hb⟩
theorem ownsRow_base {W : World} {base base' : Nat} {e : TypeId} {size : Nat} {v : Value} {k : Nat} {xs : List Value} (h : W.ownsRow base e size v k xs) (hb : base' ≤ base) : W.ownsRow base' e size v k xs := by
  refine ⟨h.1, ?_⟩
  rcases h.2 with hn | ⟨g, cap, cur, hv, hbg, rest⟩
  · exact .inl hn
  · exact .inr ⟨g, cap, cur, hv, Nat.le_trans hb hbg, rest⟩
set_option maxRecDepth 100000 in
set_option maxHeartbeats 1000000 in
theorem sortedF (Bm : Nat) (nm : Option Nat) (L : List Nd) (w : World) (hr : Rising L) (hL : L.length ≤ 12) (hBm : Bm < w.heap.size) (hm : w.cell? ⟨Bm, 0, none⟩ = some (.map nm)) (hown : NodM w nm L) :
    Calls Try.prog 29 #[.func (.func 47) #[] #[.pointer (some ⟨Bm, 0, none⟩)], .func (.func 31) #[] #[]] w fun e w' => ∃ v, e = .returned v ∧ w'.ownsRow w.heap.size 34 8 v L.length (flatN L) ∧ (v = .slice none 0 0 ↔ L = []) ∧ Below w.heap.size w w' := by
  refine (callsIn_wide (n := 8)).1 ?_
  have hseq : ∀ w', Below w.heap.size w w' → SeqStopsK Fence.wide (8 - 1 - 1 - 1) Try.prog 47 #[.pointer (some ⟨Bm, 0, none⟩)] (fun x : Nd => #[ndV x]) KeepsWalks (fun ss => ss.Perm L) (fun _ => True) L.length w' := fun w' hb =>
    values_stops Fence.wide _ trivial rfl (by omega) Bm nm L hr w' (Nat.lt_of_lt_of_le hBm hb.size) ((hb.cell (p := ⟨Bm, 0, none⟩) hBm).trans hm) (hown.at (fun b e => hb.block b (by subst e; exact hown.lt)))
  refine callsIn_of_wp Try.func29 rfl trivial ?_ rfl
  simp only [Try.ntmps29, List.size_toArray, List.length_cons, List.length_nil, Nat.reduceAdd, Nat.reduceSub, Array.replicate_succ, Array.replicate_zero, List.push_toArray, List.append_toArray, List.nil_append, List.cons_append]
  gi_wp2
  refine ⟨trivial, ?_⟩
  refine (collect_in Fence.wide (8 - 1) trivial trivial rfl (by omega) 47 #[.pointer (some ⟨Bm, 0, none⟩)] trivial (enters_of Try.func47 (by kernel_rfl) rfl) L hL _ hseq).mono ?_
  rintro e W ⟨v, ss, rfl, hS, hrow, hnil, hb⟩
  rcases hrow.2 with ⟨rfl, hz⟩ | ⟨gb, cap, cur, rfl, hbase, hgb, r1, r2, r3, r4⟩
  · have hss : ss = [] := List.eq_nil_of_length_eq_zero hz
    subst hss
    obtain rfl : L = [] := List.nil_perm.1 hS
    gi_wp2
    refine ⟨trivial, ?_⟩
    refine (callsIn_wide.2 (sortNil _ W)).mono ?_
    rintro e w' ⟨rfl, rfl⟩
    gi_wp2
    go_ret
    exact ⟨.slice none 0 0, rfl, by simpa using hrow, by simp, hb⟩
  · have hlen : ss.length = L.length := hS.length_eq
    have hgl : gb < W.heap.size := lt_of_at hgb
    have cS := sortN gb cap ss.toArray W (holdsN hgb r4) hgl (by simpa [hlen] using hL)
    have hsort := sorted_is hr hS
    have harr : insertionSort (ltOf cmpN) ss.toArray 0 ss.toArray.size = L.toArray := by rw [← hsort]
    rw [harr, show ss.toArray.size = ss.length by simp] at cS
    clear harr hsort
    obtain ⟨Q, hQ⟩ : ∃ Q, Q = L.toArray := ⟨_, rfl⟩
    rw [← hQ, hlen] at cS
    gi_wp2
    refine ⟨trivial, ?_⟩
    refine (callsIn_wide.2 cS).mono ?_
    rintro e w' ⟨rfl, nn, os, rfl⟩
    gi_wp2
    go_ret
    subst hQ
    refine ⟨_, rfl, ?_, ?_, hb.grown (grownBy_putK _) hb.size (fun j hj => by cases hj; exact hbase)⟩
    · exact ownsRow_putN hbase hgb (by omega) r2 r3
    · constructor
      · intro e; cases e
      · intro e
        have : ss = [] := by rw [e] at hS; exact List.perm_nil.1 hS
        have := hnil.2 this
        cases this
set_option maxRecDepth 20000 in
set_option maxHeartbeats 1000000 in
theorem all_any (B T : Nat) (nm : Option Nat) (v : Value) (m : Option Nat) (L : List Nd) (w : World) (h : TabS B w T nm v m L) :
    Calls Try.prog 16 #[.pointer (some ⟨T, 0, none⟩)] w fun e w' => ∃ v, e = .returned v ∧ w'.ownsRow w.heap.size 34 8 v L.length (flatN L) ∧ (v = .slice none 0 0 ↔ L = []) ∧ Below w.heap.size w w' := by
  have hlt := h.lt
  obtain ⟨hc, hf⟩ := h.tcell
  have hV := (callsIn_wide (n := 5)).1 (values_in Fence.wide 5 trivial rfl nm w)
  have hB : Below w.heap.size w (w.alloc (.cells #[.map nm] 57)) := (Below.refl _ _).alloc (Nat.le_refl _) _
  have hS := sortedF w.heap.size nm L (w.alloc (.cells #[.map nm] 57)) h.ris h.len (by simp) ((blk_cell (alloc_at _ _) 0).trans rfl) (h.map.at (fun b e => hB.block b (by subst e; exact h.map.lt)))
  clear h
  go_enter Try.func16, Try.ntmps16
  go_wp2_with fail
  refine hV.mono ?_
  rintro e w1 ⟨rfl, rfl⟩
  go_wp2_with fail
  refine hS.mono ?_
  rintro e w2 ⟨v2, rfl, hrow, hnil, hb⟩
  go_wp2
  go_ret
  exact ⟨v2, rfl, ownsRow_base hrow (by simp), hnil, hB.trans (hb.mono hB.size)⟩
theorem all_b (B T : Nat) (L : List Nd) (w : World) (h : TabB B w T L) :
    Calls Try.prog 16 #[.pointer (some ⟨T, 0, none⟩)] w fun e w' => ∃ v, e = .returned v ∧ w'.ownsRow w.heap.size 34 8 v L.length (flatN L) ∧ (v = .slice none 0 0 ↔ L = []) ∧ Below w.heap.size w w' := by
  obtain ⟨nm, v, m, h⟩ := h
  exact all_any B T nm v m L w h
set_option maxRecDepth 20000 in
set_option maxHeartbeats 1000000 in
theorem all_nil (w : World) : Calls Try.prog 16 #[.pointer none] w fun e w' => e = .returned (.slice none 0 0) ∧ Below w.heap.size w w' := by
  go_enter Try.func16, Try.ntmps16
  go_wp2
  go_ret
  exact ⟨rfl, Below.refl _ _⟩
end Go.Proofs.Ytkplhobiciddoaa
