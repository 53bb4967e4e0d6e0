/- Chapter 14: what Go calls equal of two waiters; plain laws of push and remove. -/
import Derived.Test.YtingeijodooocaaQuG
namespace Go.Proofs.Ytingeijodooocaa
open Go.RowKit
theorem eqInt (d : Nat) (a b : Int) (w : World) : (Op.equalIn (d + 1) 2 (.int .i64 a) (.int .i64 b)).run Try.prog w = .ok (a == b) w := by
  rw [Op.equalIn]
  simp only [Sem.run_bind, run_underlying Try.underlying2, Result.andThen_ok]
  simp
theorem eqStr (d : Nat) (a b : ByteArray) (w : World) : (Op.equalIn (d + 1) 9 (.string a) (.string b)).run Try.prog w = .ok (a == b) w := by
  rw [Op.equalIn]
  simp only [Sem.run_bind, run_underlying Try.underlying9, Result.andThen_ok]
  simp
theorem sizeI (w : World) : (sizeOf 2).run Try.prog w = .ok 1 w := by kernel_rfl
theorem aggI (w : World) : (isAgg 2).run Try.prog w = .ok false w := by kernel_rfl
theorem aggS (w : World) : (isAgg 9).run Try.prog w = .ok false w := by kernel_rfl
theorem partI (cs : Array Value) (o : Nat) (w : World) : (part 2 cs o).run Try.prog w = (match cs[o]? with | some v => (pure v : Sem Value) | none => stuck "part: no such cell").run Try.prog w := by
  simp only [part, Sem.run_bind, aggI, Result.andThen_ok]
  rfl
theorem partS (cs : Array Value) (o : Nat) (w : World) : (part 9 cs o).run Try.prog w = (match cs[o]? with | some v => (pure v : Sem Value) | none => stuck "part: no such cell").run Try.prog w := by
  simp only [part, Sem.run_bind, aggS, Result.andThen_ok]
  rfl
theorem bytes_beq (a b : ByteArray) : (a == b) = true ↔ a = b := by
  obtain ⟨a⟩ := a
  obtain ⟨b⟩ := b
  show (a == b) = true ↔ _
  simp
theorem stoodQ : Try.prog.stoodInHeld 29 = false := by kernel_rfl
theorem stoodR : Try.prog.stoodInHeld 56 = false := by kernel_rfl
theorem eqWq' (d : Nat) (a c : Int) (b : ByteArray) (w : World) : (Op.equalIn (d + 1 + 1) 29 (.agg #[.int .i64 a, .string b, .int .i64 c]) (.agg #[.int .i64 a, .string b, .int .i64 c])).run Try.prog w = .ok true w := by
  have hb := (bytes_beq b b).2 rfl
  rw [Op.equalIn]
  simp only [Sem.run_bind, run_underlying Try.underlying29, Result.andThen_ok, run_program, stoodQ]
  simp [partI, partS, eqInt, eqStr, Sem.run_bind, hb]
theorem eqWr' (d : Nat) (a c : Int) (b : ByteArray) (w : World) : (Op.equalIn (d + 1 + 1) 56 (.agg #[.int .i64 a, .string b, .int .i64 c]) (.agg #[.int .i64 a, .string b, .int .i64 c])).run Try.prog w = .ok true w := by
  have hb := (bytes_beq b b).2 rfl
  rw [Op.equalIn]
  simp only [Sem.run_bind, run_underlying Try.underlying56, Result.andThen_ok, run_program, stoodR]
  simp [partI, partS, eqInt, eqStr, Sem.run_bind, hb]
theorem eqWq (a c : Int) (b : ByteArray) (w : World) : (Op.equalIn 10000 29 (.agg #[.int .i64 a, .string b, .int .i64 c]) (.agg #[.int .i64 a, .string b, .int .i64 c])).run Try.prog w = .ok true w := eqWq' 9998 a c b w
theorem eqWr (a c : Int) (b : ByteArray) (w : World) : (Op.equalIn 10000 56 (.agg #[.int .i64 a, .string b, .int .i64 c]) (.agg #[.int .i64 a, .string b, .int .i64 c])).run Try.prog w = .ok true w := eqWr' 9998 a c b w
/-! plain: what is pushed and taken out again -/
variable {L : List Wt} {v : Wt}
theorem err_ok (h : errQ L v = 0) : okR v = true ∧ fndQ L v.job = none := by
  unfold errQ at h
  split at h
  · split at h
    · cases h
    · rename_i h1 h2
      refine ⟨h1, ?_⟩
      cases e : fndQ L v.job with
      | none => rfl
      | some x => rw [e] at h2; exact absurd rfl h2
  · cases h
theorem ins_srt (h : SrtQ L) (he : errQ L v = 0) : SrtQ (insQ v L) := h.ins fun x hx => fnd_none.1 (err_ok he).2 x hx
theorem ins_fnd (h : SrtQ L) (he : errQ L v = 0) : fndQ (insQ v L) v.job = some v := (ins_srt h he).fnd (mem_insQ.2 (.inl rfl))
theorem ins_err (h : SrtQ L) (he : errQ L v = 0) : errQ (insQ v L) v = 5 := by
  unfold errQ
  rw [if_pos (err_ok he).1, ins_fnd h he]
  rfl
theorem ins_del (h : SrtQ L) (he : errQ L v = 0) : delQ v.job (insQ v L) = L := by
  have hn := fnd_none.1 (err_ok he).2
  refine SrtQ.unique ((ins_srt h he).del _) h fun x => ?_
  rw [mem_delQ, mem_insQ]
  constructor
  · rintro ⟨e | e, h2⟩
    · exact absurd (by rw [e]) h2
    · exact e
  · intro hx
    exact ⟨.inr hx, hn x hx⟩
theorem ins_rem (h : SrtQ L) (he : errQ L v = 0) : remE (insQ v L) v.job = 0 := by
  unfold remE
  rw [ins_fnd h he]; rfl
theorem rem_none (he : errQ L v = 0) : remE L v.job = 3 := by
  unfold remE
  rw [(err_ok he).2]; rfl
end Go.Proofs.Ytingeijodooocaa
