/- SetStays: for every input whose bulk is within the row's bound the law returns true, and each argument reads behind the call as it read before. -/
import Derived.Test.YtpdainofeaombaaSsStays
import Derived.Test.YtpdainofeaombaaHLr
import Derived.Test.YtpdainofeaombaaRows
namespace Go.Proofs.Ytpdainofeaombaa
open Go.Proofs.Ytpdainofeaombaa.HL Go.ChangeShapes Go.WideShapes Go.ChangeAt Go.RowKit Go.ChangeMaps
set_option linter.unusedVariables false
set_option maxRecDepth 100000
theorem own : ownKnob Try.prog.godebug = none := by kernel_rfl
theorem laid : laidOutB Try.prog = true := by kernel_rfl
namespace SetStays
theorem contract (H : Type) (enc : TypeId × Value → H) (W : World) (base : Nat) (args : Array Value) (ds gs : List (DataW H)) (before : List MemPlace)
    (hval : ∀ (j : Nat) t v, Try.f5.params[j]? = some t → args[j]? = some v → Value.okWide Try.prog W .any base t v)
    (hW : DataW.Whole enc Try.prog Try.f5.params.toList Rows.setStaysSpec.vars false W args.toList ds gs before) :
    Calls Try.prog 5 args W fun e W' => ∃ v, e = .returned v ∧ Rows.setStaysSpec.post enc Try.prog Try.f5 false true false false W args v W' := by
  have hW' := hW
  obtain ⟨p, q, hA0, hV, hpq, hfz, hnd⟩ := hW
  have hA : DataW.TrodAll enc Try.prog W 0 (fun _ => true) true Try.f5.params.toList args.toList ds p := hA0
  rw [Try.params5] at hA hval
  obtain ⟨v0, vs0, d0, ds0, p0, q0, hargs, rfl, rfl, h0, hA⟩ := trodAll_cons hA
  obtain ⟨v1, vs1, d1, ds1, p1, q1, rfl, rfl, rfl, h1, hA⟩ := trodAll_cons hA
  obtain ⟨rfl, rfl, rfl⟩ := trodAll_nil hA
  obtain rfl : args = #[v0, v1] := by cases args; simp_all
  obtain ⟨o0, t0, sl0, rows0, ao0, vr0, as0, fit0⟩ := open_arg (ks := [.int .i64]) Try.underlying24 (by kernel_rfl) (by decide) (elemB_out (by kernel_rfl)) (hval 0 24 v0 rfl rfl) h0
  obtain ⟨o1, t1, sl1, rows1, ao1, vr1, as1, fit1⟩ := open_arg (ks := [.int .i64]) Try.underlying24 (by kernel_rfl) (by decide) (elemB_out (by kernel_rfl)) (hval 1 24 v1 rfl rfl) h1
  have hrel : Rel W.heap.size W (BA [t0, t1]) (SA [o0, o1]) W := relA rfl (by
    intro i x t hx ht
    rcases i with _ | i
    · cases hx; cases ht; exact ao0
    · rcases i with _ | i
      · cases hx; cases ht; exact ao1
      · simp at hx)
  have hc := X.setStays_call W (BA [t0, t1]) (SA [o0, o1]) (sl0 0) rows0 (as0 _ 0 rfl (by simp only [SA, List.length_cons, List.length_nil]; omega)) fit0 (sl1 1) rows1 (as1 _ 1 rfl (by simp only [SA, List.length_cons, List.length_nil]; omega)) fit1
  refine (hc.calls hrel (.cons (vr0 _ 0 rfl) (.cons (vr1 _ 1 rfl) (.nil _))) (fun v S1 h => h)).mono fun e W' ⟨he, hb⟩ => ⟨_, he, post_true laid (by kernel_rfl) rfl rfl hW' hb (by kernel_rfl) Try.underlying4⟩
set_option maxRecDepth 100000 in
theorem lifted (os : Os) (started : os.Started) (H : Type) (enc : TypeId × Value → H) (F : Stop.Interp) :
    ReturnsInHanded {} Try.checked os 5 .any ((Rows.OpenSpec.upto Rows.setStaysSpec).pre6 enc Try.prog Try.f5 Rows.setStaysUptoRow.domain false) (((Rows.OpenSpec.upto Rows.setStaysSpec).at F).post enc Try.prog Try.f5 false true false false) := by
  refine returnsInHanded_of_cond (C := Try.checked) (s := Rows.OpenSpec.upto Rows.setStaysSpec) (k := Rows.uptoSmall) rfl own started (by kernel_rfl) Try.func5
    (OpenSpec.witness (enc := enc) (C := Try.checked) (s := Rows.OpenSpec.upto Rows.setStaysSpec) (k := Rows.uptoSmall) rfl false ⟨#[], #[.slice none 0 0, .slice none 0 0], []⟩ 8 (by kernel_rfl) (by kernel_rfl) (by kernel_rfl)
      (x := ([.nil, .nil], [], [])) (by kernel_rfl) rfl (by kernel_rfl)) ?_
  intro W base args ds gs before hval hW _ hk _
  exact contract H enc W base args ds gs before hval hW
theorem over : Rows.setStaysUptoRow.holds Try.pinned (Rows.OpenSpec.upto Rows.setStaysSpec) :=
  OpenClaim.holds_of_cond 5 Try.f5 rfl rfl rfl rfl rfl rfl rfl ⟨rfl, rfl, rfl, rfl, rfl⟩ rfl rfl rfl rfl rfl (by kernel_rfl) Try.func5 (by kernel_rfl)
    (of_decide_eq_true (by kernel_rfl)) (by unfold Func.isWrapper; first | (rw [if_pos (by decide +kernel)]; kernel_rfl) | (rw [if_neg (by decide +kernel)]; exact ⟨rfl, rfl⟩))
    (fun os started H enc _ F => lifted os started H enc F)
theorem proved : Rows.SetStaysUptoSaid := over
end SetStays
#print axioms SetStays.proved
end Go.Proofs.Ytpdainofeaombaa
