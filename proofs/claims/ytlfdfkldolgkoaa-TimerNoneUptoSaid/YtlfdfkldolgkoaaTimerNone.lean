/- The layer timer: TimerNone, plain. -/
import Derived.Test.YtlfdfkldolgkoaaTmNone2
namespace Go.Proofs.Ytlfdfkldolgkoaa.X
open Go.Proofs.Ytlfdfkldolgkoaa.HL
set_option linter.unusedVariables false
set_option maxRecDepth 100000
/-- The heap behind the check of what the document tells. -/
noncomputable def A0 : HS := ((rollcalllaw09_awake.f (disp 2000 4) (fun _ => none) 2000 S0).getD (false, S0)).2
theorem awake_run : rollcalllaw09_awake.f (disp 2000 4) (fun _ => none) 2000 S0 = some (true, A0) := by kernel_rfl
theorem of_fst {α : Type} {o : Option (Bool × α)} (h : o.map (·.1) = some true) : ∃ s, o = some (true, s) := by
  cases o with
  | none => cases h
  | some p => obtain ⟨b, s⟩ := p; simp only [Option.map_some, Option.some.injEq] at h; subst h; exact ⟨s, rfl⟩
theorem timerNone_spec (x : List UInt8) (n : Int) : ∃ S', rollcalllaw09_TimerNone.f (disp 2000 4) (fun _ => none) 2000 x n S0 = some (true, S') := by
  unfold rollcalllaw09_TimerNone.f
  rw [awake_run, Option.bind_some, if_neg (by simp)]
  by_cases h : (x.length : Int) > 20
  · rw [if_pos h]; exact ⟨_, rfl⟩
  rw [if_neg h]
  exact of_fst (by kernel_rfl)
theorem timerNone_call (W : World) (a : List UInt8) (n : Int) (w : (Lit.int .i64 n).wf = true) : HCall Try.prog W.heap.size W B0 5 [.str a, .int .i64 n] S0 (fun v _ => v = .bool true) :=
  let ⟨_, h⟩ := timerNone_spec a n
  (rollcalllaw09_TimerNone.snd (disp_snd 4) (fun _ _ h => by cases h) h).mono fun _ _ h => h.1
end Go.Proofs.Ytlfdfkldolgkoaa.X
