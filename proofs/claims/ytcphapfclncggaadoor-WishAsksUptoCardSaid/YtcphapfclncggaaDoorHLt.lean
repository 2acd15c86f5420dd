/- The layer HL, part 20: functions without a body, that the model answers itself. -/
import Derived.Test.YtcphapfclncggaaDoorHLo
import Derived.Laws.Externs
namespace Go.Proofs.YtcphapfclncggaaDoor.HL
open Go.RowKit (Below)

structure ExtAt (P : Program) (f : FuncId) (e : Array Value → Sem Value) : Prop where
  is : ∃ fn, P.funcs[f]? = some fn ∧ (fn.name == "runtime.NumGoroutine") = false ∧ fn.body.isNone = true ∧ Extern.findNext fn = none ∧ Extern.find fn = some e

section
variable {P : Program} {base : Nat} {W0 : World} {a : HAct} {S : HS} {o : Oper}
theorem ok_ext {f : FuncId} {e : Array Value → Sem Value} {xs : Array Operand} {tys : Array TypeId} {vs : List HV} {v : HV} (ho : o.op = .call ⟨.value (.func f), xs, tys⟩) (hf : ExtAt P f e) (hxs : Evs a xs vs)
    (hrun : ∀ (β : Bt) (w : World) (vs' : Array Value), VRels β vs vs' → ∃ v', (e vs').run P w = .ok v' w ∧ VRel β v v') : OpOk P base W0 o a S v S := by
  refine ⟨by rw [ho]; simp, fun β w a' h1 h2 => ?_⟩
  obtain ⟨fn, q1, q2, q3, q4, q5⟩ := hf.is
  obtain ⟨v', g1, g2⟩ := hrun β w _ (hxs.rel h2)
  refine ⟨β, w, v', Le.refl _, .inl ?_, g2, h1⟩
  have hc := run_callFunc_extern q1 q2 q3 q4 q5 (xs.map a'.eval) w
  rw [g1] at hc
  simp only [Result.andThen_ok] at hc
  simp only [execOp, ho, resolve, Act.eval, invoke, Sem.run_bind]
  simp [Deferred.ofValue, hc]

def bidx (s : List UInt8) (c : Int) : Int := firstIdx ⟨s.toArray⟩ c.toNat.toUInt8
theorem ok_idxByte {f : FuncId} {x y : Operand} {tys : Array TypeId} {s : List UInt8} {c : Int} (ho : o.op = .call ⟨.value (.func f), #[x, y], tys⟩) (hf : ExtAt P f Extern.BytealgIndexByte.indexByte) (hx : Ev a x (.str s)) (hy : Ev a y (.int .u8 c)) : OpOk P base W0 o a S (.int .i64 (bidx s c)) S := by
  refine ok_ext ho hf (Evs.cons hx (Evs.cons hy Evs.nil)) fun β w vs' h => ?_
  obtain ⟨hl, hv⟩ := h
  obtain ⟨u1, u2, rfl⟩ : ∃ u1 u2, vs' = #[u1, u2] := by
    obtain ⟨l⟩ := vs'
    match l, hl with
    | [u1, u2], _ => exact ⟨u1, u2, rfl⟩
  have h1 := hv 0 (.str s) u1 rfl rfl
  have h2 := hv 1 (.int .u8 c) u2 rfl rfl
  cases h1
  cases h2
  exact ⟨_, run_indexByte_string _ _ _, .int _ _⟩
theorem ok_noEscape {f : FuncId} {x : Operand} {tys : Array TypeId} {v : HV} (ho : o.op = .call ⟨.value (.func f), #[x], tys⟩) (hf : ExtAt P f Extern.AbiNoEscape.same) (hx : Ev a x v) : OpOk P base W0 o a S v S := by
  refine ok_ext ho hf (Evs.cons hx Evs.nil) fun β w vs' h => ?_
  obtain ⟨hl, hv⟩ := h
  obtain ⟨u1, rfl⟩ : ∃ u1, vs' = #[u1] := by
    obtain ⟨l⟩ := vs'
    match l, hl with
    | [u1], _ => exact ⟨u1, rfl⟩
  exact ⟨u1, rfl, hv 0 v u1 rfl rfl⟩
end
end Go.Proofs.YtcphapfclncggaaDoor.HL
