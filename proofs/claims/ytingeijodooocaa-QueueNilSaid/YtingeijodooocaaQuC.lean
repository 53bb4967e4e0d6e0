/- Chapter 14's queue: Tenants. -/
import Derived.Test.YtingeijodooocaaQuB
import Derived.Test.YtingeijodooocaaQuK
import Derived.Sort.KeysCollected
import Derived.Maps.Keyed
namespace Go.Proofs.Ytingeijodooocaa
open Go.RowKit Go.Sort Go.Maps
theorem cmpB_lt : ∀ (a b : List UInt8), Lib.compareBytes a b < 0 ↔ a < b
  | [], [] => by simp [Lib.compareBytes]
  | [], _ :: _ => by simp [Lib.compareBytes]
  | _ :: _, [] => by simp [Lib.compareBytes]
  | x :: a, y :: b => by
    unfold Lib.compareBytes
    rw [List.cons_lt_cons_iff]
    by_cases h1 : x < y
    · simp [h1]
    · by_cases h2 : y < x
      · have : ¬ x = y := fun e => by rw [e] at h2; exact UInt8.lt_irrefl y h2
        simp [h1, h2, this]
      · have e : x = y := UInt8.le_antisymm (UInt8.not_lt.1 h2) (UInt8.not_lt.1 h1)
        simp [e, cmpB_lt a b]
theorem cmpB_swo : SWO (Go.Proofs.ltOf Lib.compareBytes) where
  irrefl x := by unfold Go.Proofs.ltOf; rw [decide_eq_false_iff_not, cmpB_lt]; exact lt_irr x
  trans x y z h k := by
    unfold Go.Proofs.ltOf at *
    rw [decide_eq_true_eq, cmpB_lt] at *
    exact List.lt_trans h k
  ntrans x y z h k := by
    unfold Go.Proofs.ltOf at *
    rw [decide_eq_false_iff_not, cmpB_lt] at *
    exact fun e => h (Classical.byContradiction fun h2 => k (by
      rcases Classical.em (x = y) with e2 | e2
      · rw [← e2]; exact e
      · exact absurd (List.le_antisymm (List.not_lt.1 (fun q => k (List.lt_trans q e))) (List.not_lt.1 h2)) (fun e3 => e2 e3)))
variable {B n cap : Nat} {w w' : World} {ss : List (List UInt8)}
theorem permS_full {d d' : Array (List UInt8)} (h : PermIn 0 d.size d d') : d'.toList.Perm d.toList := by
  obtain ⟨h1, -, h3⟩ := h
  have e1 : d'.extract 0 d.size = d' := by rw [← h1]; simp
  have e2 : d.extract 0 d.size = d := by simp
  rw [e1, e2] at h3
  exact h3
theorem sortS_any (v : Value) (h : w.ownsRow B 9 1 v ss.length (ss.map encStr)) (hn : ss.length ≤ 1000) :
    Calls Try.prog 45 #[v, .func (.func 27) #[] #[]] w fun e w' => e = .returned (.tuple #[]) ∧ ∃ N : List (List UInt8), N.Perm ss ∧ N.Pairwise (fun x y => ¬ y < x) ∧ w'.ownsRow B 9 1 v ss.length (N.map encStr) ∧ w.grownBy w' v.ownBlock := by
  rcases hrow : h.2 with ⟨rfl, h0⟩ | ⟨g, cp, cur, rfl, hbase, hh, h1, h2, h3, h4⟩
  · have hs : ss = [] := List.eq_nil_of_length_eq_zero h0
    subst hs
    have := AnyF.slices_SortFunc_none { Try.sortS with } none 0 (.func (.func 27) #[] #[]) w
    refine this.mono ?_
    rintro e w' ⟨rfl, rfl⟩
    exact ⟨rfl, [], List.Perm.refl _, List.Pairwise.nil, h, World.grownBy.refl _ _⟩
  · have hH : Holds encStr w g 0 ss.toArray := holds_of_block hh (by simpa using h4)
    have hgl : g < w.heap.size := lt_of_at hh
    have eg : ∀ args w, (callFunc 27 args).run Try.prog w = .ok (.enter 27 args) w := enters_of Try.func27 (by kernel_rfl) rfl
    have hcmp : ∀ (x y : List UInt8) (W : World), Calls Try.prog 27 (#[encStr x, encStr y] ++ #[]) W fun e w' => e = .returned (.int .i64 (Lib.compareBytes x y)) ∧ ∃ q os', w' = grow (W.drewN q) os' := fun x y W => by
      have := Any.strings_Compare Try.laysCmp ⟨x.toArray⟩ ⟨y.toArray⟩ W
      refine Calls.mono this ?_
      rintro e w' ⟨rfl, rfl⟩
      exact ⟨by simp, 0, #[], by rw [grow_empty]; rfl⟩
    have hcon := Any.slices_SortFunc Try.sortS encStr (fun _ => rfl) Lib.compareBytes cmpB_swo 27 #[] g 0 cp ss.toArray w eg (fun _ _ _ _ x y => hcmp x y _) hH hgl (by simp; omega)
    rw [show ss.toArray.size = ss.length by simp] at hcon
    refine Calls.mono hcon ?_
    rintro e w' ⟨rfl, d', m, os, hp, hs, rfl⟩
    have hp2 : d'.toList.Perm ss := by
      have := permS_full (d := ss.toArray) (d' := d') (by simpa using hp)
      simpa using this
    have hdl : d'.toList.length = ss.length := hp2.length_eq
    refine ⟨rfl, d'.toList, hp2, ?_, ?_, ?_⟩
    · rw [List.pairwise_iff_getElem]
      intro i j hi hj hij
      have hj2 : j < d'.size := by simpa using hj
      have hi2 : i < d'.size := by simpa using hi
      have := hs i j (Nat.zero_le _) hij (by rw [← hdl]; simpa using hj)
      unfold Go.Proofs.ltOf at this
      rw [getElem!_pos d' i hi2, getElem!_pos d' j hj2, decide_eq_false_iff_not, cmpB_lt] at this
      simpa using this
    · have := ownsRow_sorted (n := m) (os := os) (ts := d'.toList) hdl hbase hh h1 h2 h3
      simpa [Go.Proofs.sortWorld] using this
    · have := grownBy_sorted (w := w) (g := g) (n := m) (os := os) d'
      simpa [Go.Proofs.sortWorld, Value.ownBlock] using this
theorem sortedF_any (fv : Value) (S : List (List UInt8) → Prop) (W : World) (hS : ∀ ss, S ss → ss.length ≤ 1000)
    (hC : Calls Try.prog 44 #[fv] W fun e w' => ∃ (v : Value) (ss : List (List UInt8)), e = .returned v ∧ S ss ∧ w'.ownsRow W.heap.size 9 1 v ss.length (ss.map encStr) ∧ Below W.heap.size W w') :
    Calls Try.prog 25 #[fv, .func (.func 27) #[] #[]] W fun e w' => ∃ (v : Value) (ss N : List (List UInt8)), e = .returned v ∧ S ss ∧ N.Perm ss ∧ N.Pairwise (fun x y => ¬ y < x) ∧ w'.ownsRow W.heap.size 9 1 v N.length (N.map encStr) ∧ Below W.heap.size W w' := by
  go_enter Try.func25, Try.ntmps25
  go_wp2_with fail
  refine hC.mono ?_
  rintro e w1 ⟨v, ss, rfl, hs, hrow, hb⟩
  have hcon := sortS_any v hrow (hS _ hs)
  have HR := hid hrow
  have HB := hid hb
  have HS := hid hs
  clear hC hS hrow hb hs
  go_wp2_with fail
  refine hcon.mono ?_
  rintro e w2 ⟨rfl, N, hp, hpw, hrow2, hg⟩
  have HF := hid (And.intro hp (And.intro hpw (And.intro hrow2 hg)))
  clear hp hpw hrow2 hg hcon
  go_wp2
  go_ret
  refine ⟨v, ss, N, rfl, HS.out, HF.out.1, HF.out.2.1, ?_, ?_⟩
  · rw [HF.out.1.length_eq]; exact HF.out.2.2.1
  · exact HB.out.trans (below_grown HF.out.2.2.2 HB.out.size (fun g e => (HR.out.lt g e).1))
theorem tn_ex {L : List Wt} (h : SrtQ L) : ∃ ks, IsTn L ks ∧ ks.length ≤ L.length := by
  have key : ∀ i, i ≤ L.length → ∃ ks, IsTn (L.take i) ks ∧ ks.length ≤ i := by
    intro i
    induction i with
    | zero => intro _; exact ⟨[], by simpa using IsTn.nil, Nat.le_refl _⟩
    | succ i ih =>
      intro hi
      obtain ⟨ks, hk, hl⟩ := ih (by omega)
      obtain ⟨v, hv⟩ : ∃ v, L[i]? = some v := ⟨_, List.getElem?_eq_getElem (by omega)⟩
      by_cases h0 : i = 0
      · exact ⟨_, hk.more h hv (.inl h0), by simp; omega⟩
      · obtain ⟨u, hu⟩ : ∃ u, L[i - 1]? = some u := ⟨_, List.getElem?_eq_getElem (by omega)⟩
        by_cases e : u.ky = v.ky
        · exact ⟨_, IsTn.same hv hk (by omega) hu e, by omega⟩
        · exact ⟨_, hk.more h hv (.inr ⟨u, hu, e⟩), by simp; omega⟩
  have := key L.length (Nat.le_refl _)
  rwa [List.take_length] at this
variable {q nA nH c : Nat} {m : Option (Nat × Nat)} {A : WMap} {Hm : HMap} {D : List UInt8 → Hd} {L : List Wt}
theorem IsTn.sorted {ks N ss : List (List UInt8)} (hk : IsTn L ks) (h1 : ss.Perm ks) (h2 : N.Perm ss) (h3 : N.Pairwise (fun x y => ¬ y < x)) : N = ks := by
  have hp := h2.trans h1
  have hnd : N.Nodup := hp.nodup_iff.2 (List.Pairwise.imp (fun {a b} hab e => by rw [e] at hab; exact lt_irr _ hab) hk.pw)
  refine rise_unique (List.Pairwise.imp (fun {a b} hab => ?_) (List.Pairwise.and h3 hnd)) hk.pw fun x => hp.mem_iff
  exact Classical.byContradiction fun h => hab.2 (List.le_antisymm (List.not_lt.1 hab.1) (List.not_lt.1 h))
set_option maxRecDepth 20000 in
set_option maxHeartbeats 2000000 in
theorem qtenants_g (h : QuV B w q m nA A nH Hm D L c) (hn : L.length ≤ 1000) :
    Calls Try.prog 12 #[.pointer (some ⟨q, 0, none⟩)] w fun e w' => ∃ (v : Value) (ks : List (List UInt8)), e = .returned v ∧ IsTn L ks ∧ w'.ownsRow w.heap.size 9 1 v ks.length (ks.map encStr) ∧ Below w.heap.size w w' := by
  obtain ⟨ks, hk, hkl⟩ := tn_ex h.srt
  have hlt := h.r.ltq
  have hc := h.r.head.2
  have hK := (callsIn_wide (n := 5)).1 (AnyZ.keys_in Try.keysH Fence.wide 5 trivial rfl (m.map (·.2)) w)
  have hnH := h.cnt
  have hS : Calls Try.prog 25 #[.func (.func 46) #[] #[.pointer (some ⟨w.heap.size, 0, none⟩)], .func (.func 27) #[] #[]] (w.alloc (.cells #[.map (m.map (·.2))] 52)) fun e w' => ∃ (v : Value) (ss N : List (List UInt8)), e = .returned v ∧ ss.Perm ks ∧ N.Perm ss ∧ N.Pairwise (fun x y => ¬ y < x) ∧ w'.ownsRow (w.alloc (.cells #[.map (m.map (·.2))] 52)).heap.size 9 1 v N.length (N.map encStr) ∧ Below (w.alloc (.cells #[.map (m.map (·.2))] 52)).heap.size (w.alloc (.cells #[.map (m.map (·.2))] 52)) w' := by
    refine sortedF_any _ (fun ss => ss.Perm ks) _ (fun ss e => by rw [e.length_eq]; omega) ?_
    rcases m with _ | ⟨bm, bh⟩
    · obtain ⟨-, -, -, e4⟩ := h.r.off rfl
      have hseq : SeqGives Fence.wide 3 Try.prog 46 #[.pointer (some ⟨w.heap.size, 0, none⟩)] encStr (fun ss : List (List UInt8) => ss = []) 0 (w.alloc (.cells #[.map none] 52)) :=
        AnyZ.keys_gives_nil (ρ := Try.keysH_ren) { Try.keysH with } Fence.wide _ trivial rfl w.heap.size _ (by simp) (by simp)
      refine ((callsIn_wide (n := 5)).1 (AnyZ.collect_in Try.collectS Fence.wide 5 trivial trivial rfl (by omega) _ _ trivial (enters_of Try.func46 (by kernel_rfl) rfl) _ 0 (Nat.zero_le _) (by omega) _ hseq)).mono ?_
      rintro e w' ⟨v, ss, rfl, e1, hrow, -, hb⟩
      refine ⟨v, ss, rfl, ?_, hrow, hb⟩
      have : ks = [] := List.eq_nil_iff_forall_not_mem.2 fun k hkm => by
        obtain ⟨b, hb⟩ := (h.has k).2 ((hk.mem k).1 hkm)
        rw [e4] at hb
        cases hb
      rw [e1, this]
    · obtain ⟨-, ⟨D0, hD, hSe, hz⟩, -⟩ := h.r.on bm bh rfl
      have hbl := hD.lt
      have hD2 : (w.alloc (.cells #[.map (some bh)] 52)).ownsMap Try.prog 9 (reads mkH) bh nH D0 := by
        obtain ⟨es, clock, hb, Ft, hs, hD⟩ := hD
        exact ⟨es, clock, (Below.heap_alloc _ _ bh hbl).trans hb, Ft, hs, hD⟩
      have hseq : SeqGives Fence.wide 3 Try.prog 46 #[.pointer (some ⟨w.heap.size, 0, none⟩)] encStr (fun ss => ss.Perm (strKeys D0)) (Maps.size D0) (w.alloc (.cells #[.map (some bh)] 52)) :=
        AnyZ.keys_gives (ρ := Try.keysH_ren) { Try.keysH with } Fence.wide _ trivial rfl (by omega) w.heap.size bh nH D0 _ (by simp) (by simp) hD2
      refine ((callsIn_wide (n := 5)).1 (AnyZ.collect_in Try.collectS Fence.wide 5 trivial trivial rfl (by omega) _ _ trivial (enters_of Try.func46 (by kernel_rfl) rfl) _ (Maps.size D0) (by rw [hz]; unfold maxLen; omega) (by rw [hz]; omega) _ hseq)).mono ?_
      rintro e w' ⟨v, ss, rfl, e1, hrow, -, hb⟩
      refine ⟨v, ss, rfl, ?_, hrow, hb⟩
      refine e1.trans (Go.Collected.perm (left := fun _ => false) (D0 := D0) ⟨List.Pairwise.imp (fun {a b} hab e => by rw [e] at hab; exact lt_irr _ hab) hk.pw, fun x => ?_⟩ hD (string_keyed Try.underlying9) Try.underlying9 (fun _ => rfl)).symm
      rw [hSe.has, hk.mem, ← h.has]
      cases Hm x <;> simp
  have HK := hid hk
  have hB : Below w.heap.size w (w.alloc (.cells #[.map (m.map (·.2))] 52)) := (Below.refl _ _).alloc (Nat.le_refl _) _
  have HBA := hid hB
  generalize m.map (·.2) = mm at *
  clear h hk hB hnH
  go_enter Try.func12, Try.ntmps12
  go_wp2_with fail
  refine hK.mono ?_
  rintro e w1 ⟨rfl, rfl⟩
  go_wp2_with fail
  refine hS.mono ?_
  rintro e w2 ⟨v, ss, N, rfl, h1, h2, h3, hrow, hb⟩
  have e2 := HK.out.sorted h1 h2 h3
  subst e2
  have FIN : Hid (w2.ownsRow w.heap.size 9 1 v N.length (N.map encStr) ∧ Below w.heap.size w w2) := ⟨ownsRow_base_a hrow (by simp), HBA.out.trans (hb.mono HBA.out.size)⟩
  clear h1 h2 h3 hrow hb hS hK
  go_wp2
  go_ret
  exact ⟨v, N, rfl, HK.out, FIN.out.1, FIN.out.2⟩
end Go.Proofs.Ytingeijodooocaa
