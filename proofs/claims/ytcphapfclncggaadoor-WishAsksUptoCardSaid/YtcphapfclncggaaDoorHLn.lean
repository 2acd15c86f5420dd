/- The layer HL, part 14: from a call's answer to what a law's row asks. -/
import Derived.Test.YtcphapfclncggaaDoorHLm
import Derived.Carry
import Derived.WalkKit
import Derived.ProofKit
import Derived.OpenShut
import Derived.JoinedCond
import Derived.ChangeMaps5
namespace Go.Proofs.YtcphapfclncggaaDoor.HL
open Go.RowKit Go.ChangeShapes Go.WideShapes Go.ChangeAt

theorem trodAll_keeps {H : Type} {enc : TypeId × Value → H} {P : Program} (hl : laidOutB P = true) {W W' : World} (hb : Below W.heap.size W W') : ∀ {ts : List TypeId} {vs : List Value} {ds : List (DataW H)} {ps : List MemPlace},
    DataW.TrodAll enc P W 0 (fun _ => true) true ts vs ds ps → ts.all (fun t => P.readableRec t && decide (t < P.types.size)) = true → ∀ sp : Nat → Bool, (∀ p ∈ ps, sp p.block = true) → (∀ p ∈ ps, p.block < W.heap.size) → DataW.TrodAll enc P W' 0 sp true ts vs ds ps := by
  intro ts
  induction ts with
  | nil => intro vs ds ps h _ sp _ _; obtain ⟨rfl, rfl, rfl⟩ := trodAll_nil h; exact trodAll_mk0
  | cons t ts ih =>
    intro vs ds ps h ha sp hs hlt
    obtain ⟨v, vs', d, ds', p, q, rfl, rfl, rfl, h1, h2⟩ := trodAll_cons h
    simp only [List.all_cons, Bool.and_eq_true, decide_eq_true_eq] at ha
    exact trodAll_cons_mk (WideElems.Trod_stays hl ha.1.1 ha.1.2 h1 (fun x hx => hb.same (hlt x (by simp [hx]))) (fun x hx => hs x (by simp [hx]))) (ih h2 ha.2 sp (fun x hx => hs x (by simp [hx])) (fun x hx => hlt x (by simp [hx])))

theorem post_true {H : Type} {enc : TypeId × Value → H} {P : Program} {f : Func} {s : ChangeSpec} {W W' : World} {args : Array Value} {ds gs : List (DataW H)} {before : List MemPlace} {b : TypeId} (hl : laidOutB P = true) (hts : f.params.toList.all (fun t => P.readableRec t && decide (t < P.types.size)) = true)
    (hv : s.vars = []) (hfn : s.fn H ds = { results := [.lit (.bool true)], args := ds }) (hW : DataW.Whole enc P f.params.toList s.vars false W args.toList ds gs before) (hb : Below W.heap.size W W') (hrt : f.resultTypes = #[b]) (hbool : P.underlying b = some .bool) :
    s.post enc P f false true false false W args (.bool true) W' := by
  have hWo := hW
  obtain ⟨p, q, hA, hV, hpq, hfz, hnd⟩ := hW
  rw [hv] at hV
  obtain ⟨rfl, rfl⟩ := trodVars_none hV
  have hsz : f.resultTypes.size = 1 := by rw [hrt]; rfl
  have hpl : p = before := by rw [hpq]; simp
  subst hpl
  have hlt : ∀ x ∈ p, x.block < W.heap.size := fun x hx => by simpa using hWo.lt x hx
  have hres : ∀ (b0 : Nat) (sp : Nat → Bool) (hd : Bool), DataW.TrodAll enc P W' b0 sp hd f.resultTypes.toList ((Value.bool true).resultList f.resultTypes.size) (s.fn H (ds ++ [])).results [] := by
    intro b0 sp hd
    rw [List.append_nil, hfn, hrt]
    exact trodAll_cons_mk (p := []) (p' := []) (shut_bool hbool _) trodAll_mk0
  have hargs : ∀ sp : Nat → Bool, (∀ x ∈ p, sp x.block = true) → DataW.TrodAll enc P W' 0 sp true f.params.toList args.toList (s.fn H (ds ++ [])).args p := by
    intro sp hs
    rw [List.append_nil, hfn]
    exact trodAll_keeps hl hb hA hts sp hs hlt
  have hvars : ∀ sp : Nat → Bool, (∀ x ∈ p, sp x.block = true) → DataW.TrodVars enc P W' sp s.vars (s.fn H (ds ++ [])).vars [] := by
    intro sp _
    rw [hv, List.append_nil, hfn]
    exact rfl
  have hold : ∀ x ∈ p, (fun b => decide (b < W.heap.size)) x.block = true := fun x hx => by simpa using hlt x hx
  refine ⟨ds, [], p, [], p, [], hWo, hres _ _ _, hargs _ hold, hvars _ hold, World.keptBut_mono (fun x hx => ⟨hx, ?_⟩) (hb.frame (· ∈ p)), fun _ => ?_⟩
  · exact Or.inr (by simpa using hx)
  · refine ⟨ok_one hrt rfl (okWide_bool_mk hbool _), _, _, ([] ++ p) ++ [], ⟨[] ++ p, [], trodAll_append (hargs _ (fun _ _ => rfl)) (hres _ _ _), hvars _ (fun _ _ => rfl), rfl, ?_, ?_⟩, ?_⟩
    · intro b off hp
      have hp' : MemPlace.cell b off ∈ p := by simpa using hp
      rw [hb.frozen (hlt _ hp')]
      exact hfz b off hp'
    · intro ha; cases ha
    · intro x hx _
      simpa using hx

def S0 : HS := ⟨fun _ => .dead, 0, fun _ => 0⟩
def B0 : Bt := fun _ => .none
theorem rel0 (W : World) : Rel W.heap.size W B0 S0 W :=
  ⟨Below.refl _ _, Nat.le_refl _, fun _ _ => ⟨rfl, rfl⟩, fun _ _ h => by simp [B0, Tgt.block] at h, fun _ => trivial, fun _ _ _ _ h => by simp [S0, HObj.own] at h⟩

theorem HCall.calls {P : Program} {W : World} {β0 : Bt} {f : FuncId} {args : List HV} {args' : Array Value} {S : HS} {R : HV → HS → Prop} (h : HCall P W.heap.size W β0 f args S R) (hrel : Rel W.heap.size W β0 S W) (ha : VRels β0 args args') (hR : ∀ v S', R v S' → v = .bool true) :
    Calls P f args' W (fun e W' => e = .returned (.bool true) ∧ Below W.heap.size W W') := by
  intro cs
  obtain ⟨β', v, S', v', w', fr, g1, g2, g3, g4, g5, g6, g7⟩ := h β0 W args' (Le.refl _) hrel ha cs
  have := hR _ _ g2
  subst this
  cases g3
  exact ⟨_, w', fr, ⟨rfl, g4.below⟩, g5, g6, g7⟩
end Go.Proofs.YtcphapfclncggaaDoor.HL
