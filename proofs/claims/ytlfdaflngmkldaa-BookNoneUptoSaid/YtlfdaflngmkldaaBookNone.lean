/- The layer book: BookNone, plain. -/
import Derived.Test.YtlfdaflngmkldaaBkNone2
namespace Go.Proofs.Ytlfdaflngmkldaa.X
open Go.Proofs.Ytlfdaflngmkldaa.HL
set_option linter.unusedVariables false
set_option maxRecDepth 100000
/-- The heap behind the check of what the document tells. -/
noncomputable def A0 : HS := ((rollcalllaw02_awake.f (disp 2000 4) (fun _ => none) 2000 S0).getD (false, S0)).2
theorem awake_run : rollcalllaw02_awake.f (disp 2000 4) (fun _ => none) 2000 S0 = some (true, A0) := by kernel_rfl
theorem of_fst {α : Type} {o : Option (Bool × α)} (h : o.map (·.1) = some true) : ∃ s, o = some (true, s) := by
  cases o with
  | none => cases h
  | some p => obtain ⟨b, s⟩ := p; simp only [Option.map_some, Option.some.injEq] at h; subst h; exact ⟨s, rfl⟩
theorem bookNone_spec (x : List UInt8) (n : Int) : ∃ S', rollcalllaw02_BookNone.f (disp 2000 4) (fun _ => none) 2000 x n S0 = some (true, S') := by
  unfold rollcalllaw02_BookNone.f
  rw [awake_run, Option.bind_some, if_neg (by simp)]
  by_cases h : (x.length : Int) > 30
  · rw [if_pos h]; exact ⟨_, rfl⟩
  rw [if_neg h]
  exact of_fst (by kernel_rfl)
theorem bookNone_call (W : World) (a : List UInt8) (n : Int) (w : (Lit.int .i64 n).wf = true) : HCall Try.prog W.heap.size W B0 6 [.str a, .int .i64 n] S0 (fun v _ => v = .bool true) :=
  let ⟨_, h⟩ := bookNone_spec a n
  (rollcalllaw02_BookNone.snd (disp_snd 4) (fun _ _ h => by cases h) h).mono fun _ _ h => h.1
end Go.Proofs.Ytlfdaflngmkldaa.X
