/- Chapter 10: the reference's Get and Due at one entry; the law's same on equal rows. -/
import Derived.Test.YtacffoobeebleaaTimW
namespace Go.Proofs.Ytacffoobeebleaa
open Go.RowKit
/-- Get of the reference, in one. -/
theorem rget_any (B R : Nat) (v : Value) (l : List Al) (s : ByteArray) (w : World) (h : RefK B w R v l) (hm : l.length ≤ 100000) :
    ∃ t q : Int, ((q = 0 ∧ (s, t) ∈ l) ∨ (q = 3 ∧ t = 0 ∧ hasN l s = false)) ∧ Calls Try.prog 26 #[.pointer (some ⟨R, 0, none⟩), .string s] w fun e w' => e = .returned (.tuple #[.int .i64 t, .int .i64 q]) ∧ Below w.heap.size w w' := by
  cases hh : hasN l s with
  | true =>
    obtain ⟨k, hk, e, hn⟩ := least_name hh
    refine ⟨(el l k).2, 0, .inl ⟨rfl, ?_⟩, rget_old B R v l s k w h hm hk e hn⟩
    rw [← e]
    exact el_mem hk
  | false => exact ⟨0, 3, .inr ⟨rfl, rfl, rfl⟩, rget_none B R v l s w h hm hh⟩
theorem rdue_any (B R : Nat) (v : Value) (l : List Al) (now : Int) (w : World) (h : RefK B w R v l) (hm : l.length ≤ 1024) (hs : Sorted l) :
    Calls Try.prog 18 #[.pointer (some ⟨R, 0, none⟩), .int .i64 now] w fun e w' => RDue B w w' R v now l e := by
  rcases id h.row with ⟨rfl, rfl⟩ | ⟨g, o, cap, cur, rfl, -⟩
  · exact rdue_nil B R now w h
  · exact rdue_row B R g o cap l now w h hm hs
set_option maxRecDepth 20000 in
set_option maxHeartbeats 4000000 in
theorem same_eq {B B' : Nat} (w : World) (vo vr : Value) (wh : List Al) (hP : w.ownsRow B 34 2 vo wh.length (flatT wh)) (hR : RowO B' w vr wh) (hm : wh.length ≤ 1024) :
    Calls Try.prog 17 #[vo, vr] w fun e w' => e = .returned (.bool true) ∧ Below w.heap.size w w' := by
  obtain ⟨Aw, capw, rfl⟩ := row_slice hP
  obtain ⟨Ap, capp, rfl⟩ := hR.slice
  have RW := hid hP
  have RP := hid hR
  have WL : Hid (wh.length ≤ 1024) := hm
  clear hP hR hm
  go_enter Try.func17, Try.ntmps17
  go_wp2
  go_loopw [5] (fun i wx => ∃ q : Nat, q ≤ wh.length ∧ i = .int .i64 q ∧ Hid (Below w.heap.size w wx)) (fun i _ => wh.length - (intOf i).toNat)
  case atStart => exact ⟨0, Nat.zero_le _, rfl, Below.refl _ _⟩
  case round =>
    obtain ⟨q, hq, rfl, hbq⟩ := hrel
    by_cases hql : q < wh.length
    · have hqi : (q : Int) < (wh.length : Int) := by omega
      have HQ : Hid (q + 1 ≤ wh.length) := hql
      obtain ⟨g, cp, hv, -, hgl, hcell⟩ := row_cells RW.out (by omega)
      obtain ⟨g2, o2, cp2, hv2, -, -, hgl2, -, hcell2⟩ := RP.out.cells (by omega)
      cases hv
      cases hv2
      obtain ⟨p0, p1⟩ := hcell q hql
      obtain ⟨r0, r1⟩ := hcell2 q hql
      obtain ⟨⟨s, x⟩, hx⟩ : ∃ x, x = el wh q := ⟨_, rfl⟩
      rw [← hx] at p0 p1 r0 r1
      have hb := hbq.out
      have s0 := hb.size
      have g1 : g < wr.heap.size := by omega
      have g3 : g2 < wr.heap.size := by omega
      have e0 : ∀ lx_ : Lat wr.heap.size wr, lx_.w.cell? ⟨g, q * 2, none⟩ = some (.string s) := fun lx_ => by rw [lx_.cell _ _ g1]; exact (hb.cell (p := ⟨g, q * 2, none⟩) hgl).trans p0
      have e1 : ∀ lx_ : Lat wr.heap.size wr, lx_.w.cell? ⟨g, q * 2 + 1, none⟩ = some (.int .i64 x) := fun lx_ => by rw [lx_.cell _ _ g1]; exact (hb.cell (p := ⟨g, q * 2 + 1, none⟩) hgl).trans p1
      have e2 : ∀ lx_ : Lat wr.heap.size wr, lx_.w.cell? ⟨g2, o2 + q * 2, none⟩ = some (.string s) := fun lx_ => by rw [lx_.cell _ _ g3]; exact (hb.cell (p := ⟨g2, o2 + q * 2, none⟩) hgl2).trans r0
      have e3 : ∀ lx_ : Lat wr.heap.size wr, lx_.w.cell? ⟨g2, o2 + q * 2 + 1, none⟩ = some (.int .i64 x) := fun lx_ => by rw [lx_.cell _ _ g3]; exact (hb.cell (p := ⟨g2, o2 + q * 2 + 1, none⟩) hgl2).trans r1
      have iw5 : IntKind.i64.wrap ((q : Int) + 1) = (q : Int) + 1 := IntWalk.i64_in _ (by have := WL.out; omega)
      clear hx p0 p1 r0 r1 hcell hcell2 hb s0 hq
      go_upto_region 6 with fail
      refine wp_region_lat (by kernel_rfl) (by kernel_rfl) ?_
      repeat (go_big_quiet_step (fail))
      refine wpQuiet_nil ?_
      clear e0 e1 e2 e3
      rintro wy ⟨xy_, hxy⟩
      have hby := xy_.h
      rw [← hxy] at hby
      have HBY : Hid (Below w.heap.size w wy) := hbq.out.trans (hby.mono hbq.out.size)
      clear hxy xy_ hby
      go_wp2
      go_roundw
      case rel => exact ⟨q + 1, HQ.out, by go_num, HBY⟩
      case measure => have := HQ.out; simp [intOf]; omega
    · obtain rfl : q = wh.length := by omega
      clear hql hq
      go_wp2
      go_ret
      exact ⟨rfl, hbq.out⟩
end Go.Proofs.Ytacffoobeebleaa
