/- WholeLimit: for every input whose bulk is within the row's bound the law returns true, and each argument reads behind the call as it read before. -/
import Derived.Test.YtfningkbcfhheaaGreatDoorTwK
import Derived.Test.YtfningkbcfhheaaGreatDoorPart50
import Derived.Test.YtfningkbcfhheaaGreatDoorTwB
import Derived.Test.YtfningkbcfhheaaGreatDoorTiF
set_option linter.unusedVariables false
set_option linter.unusedSimpArgs false
namespace Go.Proofs.YtfningkbcfhheaaGreatDoor
open Go.Proofs.YtfningkbcfhheaaGreatDoor.HL Go.ChangeShapes Go.WideShapes Go.ChangeAt Go.RowKit Go.ChangeMaps
set_option linter.unusedVariables false
set_option maxRecDepth 100000
namespace WholeLimit
theorem plain (f : FuncId) (fn : Func) (hf : Tryz.pinned.checked.prog.funcNamed "rollcall/rollcalltop.WholeLimit" = some f) (hfn : Tryz.pinned.checked.prog.funcs[f]? = some fn) :
    true = Tryz.pinned.checked.prog.looks [] ∧ ∀ (j : Nat) t, fn.params[j]? = some t → Tryz.pinned.checked.prog.wantsStandIn t = false := by
  obtain rfl : f = 6 := Option.some.inj ((show Tryz.prog.funcNamed "rollcall/rollcalltop.WholeLimit" = some 6 by kernel_rfl).symm.trans hf) |>.symm
  obtain rfl : fn = Tryz.f6 := (Option.some.inj (Tryz.func6.symm.trans hfn)).symm
  refine ⟨looks_is, fun j t ht => ?_⟩
  rw [Tryz.params6] at ht
  obtain rfl : t = 5 := by simpa using Array.mem_of_getElem? ht
  exact (show Tryz.prog.wantsStandIn 5 = false by kernel_rfl)
theorem proved : Rows.WholeLimitUptoCardSaid :=
  Claim7.holds_tied_plain_at .later [] _ _ _ _ saidUpto (fun _ h => by cases h) wfT (fun _ h => by cases h) row_tie rfl ⟨rfl, rfl⟩ mainT rfl plain goesT
end WholeLimit
#print axioms WholeLimit.proved
end Go.Proofs.YtfningkbcfhheaaGreatDoor
