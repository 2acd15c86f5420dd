/- PairStays: for every input whose bulk is within the row's bound the law returns true, and each argument reads behind the call as it read before. -/
import Derived.Test.YtdgmehfhgppheaaPsLaw
import Derived.Test.YtdgmehfhgppheaaHLr
import Derived.Test.YtdgmehfhgppheaaRows
namespace Go.Proofs.Ytdgmehfhgppheaa
open Go.Proofs.Ytdgmehfhgppheaa.HL Go.ChangeShapes Go.WideShapes Go.ChangeAt Go.RowKit Go.ChangeMaps
set_option linter.unusedVariables false
set_option maxRecDepth 100000
theorem own : ownKnob Try.prog.godebug = none := by kernel_rfl
theorem laid : laidOutB Try.prog = true := by kernel_rfl
namespace PairStays
theorem contract (H : Type) (enc : TypeId × Value → H) (W : World) (base : Nat) (args : Array Value) (ds gs : List (DataW H)) (before : List MemPlace)
    (hval : ∀ (j : Nat) t v, Try.f5.params[j]? = some t → args[j]? = some v → Value.okWide Try.prog W .any base t v)
    (hW : DataW.Whole enc Try.prog Try.f5.params.toList Rows.pairStaysSpec.vars false W args.toList ds gs before) :
    Calls Try.prog 5 args W fun e W' => ∃ v, e = .returned v ∧ Rows.pairStaysSpec.post enc Try.prog Try.f5 false true false false W args v W' := by
  have hW' := hW
  obtain ⟨p, q, hA0, hV, hpq, hfz, hnd⟩ := hW
  have hA : DataW.TrodAll enc Try.prog W 0 (fun _ => true) true Try.f5.params.toList args.toList ds p := hA0
  rw [Try.params5] at hA hval
  obtain ⟨v0, vs0, d0, ds0, p0, q0, hargs, rfl, rfl, h0, hA⟩ := trodAll_cons hA
  obtain ⟨rfl, rfl, rfl⟩ := trodAll_nil hA
  obtain rfl : args = #[v0] := by cases args; simp_all
  obtain ⟨o0, t0, sl0, rows0, ao0, vr0, as0, fit0⟩ := open_arg (ks := [.int .i64]) Try.underlying43 (by kernel_rfl) (by decide) (elemB_out (by kernel_rfl)) (hval 0 43 v0 rfl rfl) h0
  have hrel : Rel W.heap.size W (BA [t0]) (SA [o0]) W := relA rfl (by
    intro i x t hx ht
    rcases i with _ | i
    · cases hx; cases ht; exact ao0
    · simp at hx)
  have hc := X.pairStays_call W (BA [t0]) (SA [o0]) (sl0 0) rows0 (as0 _ 0 rfl (by simp only [SA, List.length_cons, List.length_nil]; omega)) fit0
  refine (hc.calls hrel (.cons (vr0 _ 0 rfl) (.nil _)) (fun v S1 h => h)).mono fun e W' ⟨he, hb⟩ => ⟨_, he, post_true laid (by kernel_rfl) rfl rfl hW' hb (by kernel_rfl) Try.underlying4⟩
set_option maxRecDepth 100000 in
theorem lifted (os : Os) (started : os.Started) (H : Type) (enc : TypeId × Value → H) (F : Stop.Interp) :
    ReturnsInHanded {} Try.checked os 5 .any ((Rows.OpenSpec.upto Rows.pairStaysSpec).pre6 enc Try.prog Try.f5 Rows.pairStaysUptoRow.domain false) (((Rows.OpenSpec.upto Rows.pairStaysSpec).at F).post enc Try.prog Try.f5 false true false false) := by
  refine returnsInHanded_of_cond (C := Try.checked) (s := Rows.OpenSpec.upto Rows.pairStaysSpec) (k := Rows.uptoSmall) rfl own started (by kernel_rfl) Try.func5
    (OpenSpec.witness (enc := enc) (C := Try.checked) (s := Rows.OpenSpec.upto Rows.pairStaysSpec) (k := Rows.uptoSmall) rfl false ⟨#[], #[.slice none 0 0], []⟩ 8 (by kernel_rfl) (by kernel_rfl) (by kernel_rfl)
      (x := ([.nil], [], [])) (by kernel_rfl) rfl (by kernel_rfl)) ?_
  intro W base args ds gs before hval hW _ hk _
  exact contract H enc W base args ds gs before hval hW
theorem over : Rows.pairStaysUptoRow.holds Try.pinned (Rows.OpenSpec.upto Rows.pairStaysSpec) :=
  OpenClaim.holds_of_cond 5 Try.f5 rfl rfl rfl rfl rfl rfl rfl ⟨rfl, rfl, rfl, rfl, rfl⟩ rfl rfl rfl rfl rfl (by kernel_rfl) Try.func5 (by kernel_rfl)
    (of_decide_eq_true (by kernel_rfl)) (by unfold Func.isWrapper; first | (rw [if_pos (by decide +kernel)]; kernel_rfl) | (rw [if_neg (by decide +kernel)]; exact ⟨rfl, rfl⟩))
    (fun os started H enc _ F => lifted os started H enc F)
theorem proved : Rows.PairStaysUptoSaid := over
end PairStays
#print axioms PairStays.proved
end Go.Proofs.Ytdgmehfhgppheaa
