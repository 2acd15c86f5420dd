/- That world, the arguments. What is read there. The row can be met. It starts no goroutine. -/
import Derived.Test.YtfningkbcfhheaaGreatDoorTwC
import Derived.Test.YtfningkbcfhheaaGreatDoorCards
import Derived.WalkKit
import Derived.ProofKit
import Derived.OpenShut
import Derived.Deep.DeepHandedRow
import Derived.Lib.LaidTab
import Derived.Lay
import Derived.Deep.DeepWitnessRowRef
set_option linter.unusedVariables false
set_option linter.unusedSimpArgs false
namespace Go.Proofs.YtfningkbcfhheaaGreatDoor
open Go Go.ChangeShapes Go.WideShapes Go.ChangeAt Go.RowKit Go.ChangeMaps
set_option linter.unusedVariables false
set_option maxRecDepth 100000
namespace WholeLimit
theorem wf3 (os : Os) : Input.okWideB Tryz.prog (wW os) 6 ⟨#[], #[.int .u8 0], []⟩ = true := by kernel_rfl
end WholeLimit
namespace WholeLimit
theorem reads (os : Os) {H : Type} (enc : TypeId × Value → H) : ∃ places, DataW.whole enc Tryz.prog (wW os).memory Tryz.f6.params.toList Rows.wholeLimitSpec.vars false #[.int .u8 0].toList 300 = some ([.lit (.int .u8 0)], [], places) :=
  ⟨[], by kernel_rfl⟩
end WholeLimit
namespace WholeLimit
theorem preRow (os : Os) (H : Type) (enc : TypeId × Value → H) : (Rows.OpenSpec.upto Rows.wholeLimitSpec).preRow enc Tryz.prog Tryz.f6 Rows.wholeLimitUptoRow.domain false Rows.wholeLimitUptoRow.laid (wW os).memory #[.int .u8 0] := by
  obtain ⟨places, hx⟩ := reads os enc
  exact OpenSpec.preRow_of_cond 300 hx (by kernel_rfl) (fun k hk => by cases hk; kernel_rfl) (by kernel_rfl) (laid_met os)
end WholeLimit
namespace WholeLimit
theorem goes_none : Tryz.pinned.checked.prog.funcs.toList.all (fun g => !g.goes) = true := by kernel_rfl
theorem goes_no {P : Program} (h : P.funcs.toList.all (fun g => !g.goes) = true) (s : String) : P.goesFrom s = false := by
  have h1 : ∀ g ∈ P.funcs, Func.goes g = false := fun g hg => by
    have := List.all_eq_true.1 h g (by simpa using hg)
    simpa using this
  have h2 : ∀ f : FuncId, (P.funcs[f]?).any Func.goes = false := fun f => by
    cases hf : P.funcs[f]? with
    | none => rfl
    | some g => exact h1 g (Array.mem_of_getElem? hf)
  unfold Program.goesFrom
  cases P.funcNamed s with
  | none => rfl
  | some f =>
    show P.goes f = false
    unfold Program.goes
    rw [Bool.or_eq_false_iff]
    refine ⟨?_, ?_⟩
    · rw [List.any_eq_false]; intro g _; simp [h2 g]
    · rw [Bool.and_eq_false_iff]; right
      rw [Array.any_eq_false']
      intro g hg
      simp [h1 g hg]
theorem goesT : false = Rows.wholeLimitUptoRow.goesBy Tryz.pinned.checked.prog := by
  unfold OpenClaim.goesBy Program.goesAt
  rw [goes_no goes_none, Bool.false_or, show Rows.wholeLimitUptoRow.start = .entering from rfl]
end WholeLimit
end Go.Proofs.YtfningkbcfhheaaGreatDoor
