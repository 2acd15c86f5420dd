/- The layer HL, part 22: capacities, clear, appended zeros, slices that overlap. The layer HL, part 23: slices.Insert and slices.Delete as operations of the abstract heap: capacities are opened ahead of a call and put away behind it. -/
import Derived.Lib.Overlaps
import Derived.Test.YtgplnlknejbglaaDoorPart6
set_option linter.unusedVariables false
set_option linter.unusedSimpArgs false
namespace Go.Proofs.YtgplnlknejbglaaDoor.HL
open Go.RowKit (Below)
instance instDecHA : DecidableEq HA := fun ⟨a,b,c⟩ ⟨d,e,f⟩ => decidable_of_iff (a = d ∧ b = e ∧ c = f) (by simp)
instance instDecSl : DecidableEq Sl := fun ⟨a,b,c⟩ ⟨d,e,f⟩ => decidable_of_iff (a = d ∧ b = e ∧ c = f) (by simp)
section
variable {P : Program} {base : Nat} {W0 : World} {a : HAct} {S : HS} {o : Oper}
end
end Go.Proofs.YtgplnlknejbglaaDoor.HL
set_option linter.unusedVariables false
set_option linter.unusedSimpArgs false
namespace Go.Proofs.YtgplnlknejbglaaDoor.HL
open Go.RowKit (Below)
section
variable {P : Program} {base : Nat} {W0 : World} {β0 β : Bt} {S : HS} {w : World}
theorem Rel.as {S' : HS} (h : Rel base W0 β S w) (h1 : ∀ i,S'.heap i = S.heap i) (h2 : S'.next = S.next) (h3 : ∀ i,S'.mrk i = 1) : Rel base W0 β S' w :=
 h.mark (funext h1) h2 fun i => by rw [h3]; exact .of_lt (by omega) fun h => absurd rfl h
end
/-! ### what Insert computes, in plain -/
section
variable {P : Program} {base : Nat} {W0 : World} {β0 : Bt} {fid : FuncId} {S : HS}
end
section
variable {P : Program} {base : Nat} {W0 : World} {β0 : Bt} {fid : FuncId} {S : HS}
end
end Go.Proofs.YtgplnlknejbglaaDoor.HL
