/- The layer HL, part 20: functions without a body, that the model answers itself. The layer HL, part 21: arrays of scalars. -/
import Derived.Laws.Externs
import Derived.Test.YtbmfomkfmpppiaaGreatPart5
namespace Go.Proofs.YtbmfomkfmpppiaaGreat.HL
open Go.RowKit (Below)
structure ExtAt (P : Program) (f : FuncId) (e : Array Value → Sem Value) : Prop where
 is : ∃ fn,P.funcs[f]? = some fn ∧ (fn.name == "runtime.NumGoroutine") = false ∧ fn.body.isNone = true ∧ Extern.findNext fn = none ∧ Extern.find fn = some e
section
variable {P : Program} {base : Nat} {W0 : World} {a : HAct} {S : HS} {o : Oper}
end
section
variable {P : Program} {base : Nat} {W0 : World} {a : HAct} {S : HS} {o : Oper}
end
end Go.Proofs.YtbmfomkfmpppiaaGreat.HL
