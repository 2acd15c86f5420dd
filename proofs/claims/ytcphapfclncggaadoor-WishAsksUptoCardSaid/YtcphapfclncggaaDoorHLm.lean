/- The layer HL, part 13: more rules for printed functions. -/
import Derived.Test.YtcphapfclncggaaDoorHLl
namespace Go.Proofs.YtcphapfclncggaaDoor.HL
open Go.RowKit (Below)

section
variable {P : Program} {base : Nat} {W0 : World} {β0 : Bt} {f : FuncId} {ro : Option Nat} {k : List Item} {a : HAct} {S : HS} {R : HV → HS → Prop} {o : Oper}
theorem hr_scope {c : Code} (h : HRun P base W0 β0 f ro (.code c :: .inScope c :: k) a S R) : HRun P base W0 β0 f ro (.code (.scope c) :: k) a S R := h.calm fun _ _ _ _ => step_lone_go (by simp [stepG, stepG.exec, Frame.atR])
theorem hr_inScope {c : Code} (h : HRun P base W0 β0 f ro k a S R) : HRun P base W0 β0 f ro (.inScope c :: k) a S R := h.calm fun _ _ _ _ => step_lone_go (by simp [stepG, stepG.exec, Frame.atR])
theorem q_scope {c x : Code} (hc : c = .scope x) (h : HRun P base W0 β0 f ro (.code x :: .inScope x :: k) a S R) : HRun P base W0 β0 f ro (.code c :: k) a S R := by subst hc; exact hr_scope h
theorem q_label {c : Code} {l : Nat} (hc : c = .label l) (h : HRun P base W0 β0 f ro k a S R) : HRun P base W0 β0 f ro (.code c :: k) a S R := by subst hc; exact hr_label h

theorem ok_alloc_e {t : TypeId} {zv : Value} {r : List HV} {S' : HS} (ho : o.op = .alloc t) (ht : (P.info? t).map (·.zero) = some (some zv)) (hz : ∀ β, VRels β r zv.cells) (hr : 0 < r.length) (hf : r.all (·.flat) = true) (hq : S' = S.new (.cells r.length [r] true)) :
    OpOk P base W0 o a S (.ptr (some (.cell0 S.next))) S' := hq ▸ ok_alloc_s ho ht hz hr hf
theorem ok_box_e {t : TypeId} {x : Operand} {v : HV} {S' : HS} (ho : o.op = .box t x) (hx : Ev a x v) (hr : 0 < v.cells.length) (hf : v.cells.all (·.flat) = true) (hq : S' = S.new (.cells v.cells.length [v.cells] true)) :
    OpOk P base W0 o a S (.ptr (some (.cell0 S.next))) S' := hq ▸ ok_box_s ho hx hr hf

theorem dF_cells {v w : HV} (h : dF v = some w) : v = w ∧ w.cells = [w] ∧ w.flat = true := by
  cases v <;> simp [dF] at h <;> (subst h; exact ⟨rfl, rfl, rfl⟩)
theorem ok_box_fn {t : TypeId} {x : Operand} {v w : HV} {S' : HS} (ho : o.op = .box t x) (hx : Ev a x v) (hF : dF v = some w) (hq : S' = S.new (.cells 1 [[w]] true)) : OpOk P base W0 o a S (.ptr (some (.cell0 S.next))) S' := by
  obtain ⟨rfl, h1, h2⟩ := dF_cells hF
  exact ok_box_e ho hx (by rw [h1]; exact Nat.zero_lt_one) (by rw [h1]; simp [h2]) (by rw [h1]; exact hq)
theorem ok_store_fn {t : TypeId} {x y : Operand} {e : Option HA} {ad : HA} {v w : HV} {S' : HS} (ho : o.op = .store t x y) (ht : ∃ i, P.info? t = some i ∧ i.size = 1) (hx : Ev a x (.ptr e)) (he : e = some ad) (hy : Ev a y v) (hF : dF v = some w) (hv : S.sets ad [w] = some S') : OpOk P base W0 o a S (.tup []) S' := by
  obtain ⟨rfl, h1, h2⟩ := dF_cells hF
  exact ok_store_s ho (by rw [h1]; exact ht) hx he hy (by rw [h1]; simp [h2]) (by rw [h1]; exact hv)

/-! what is behind a range loop -/
def pcode : Option Code → Option Nat
  | none => some 0
  | some .ret => some 1
  | some (.exit id) => some (id + 2)
  | _ => none
theorem pcode0 {q : Option Code} {n : Nat} (h : pcode q = some n) (hn : n = 0) : q = none := by
  subst hn
  unfold pcode at h
  split at h <;> simp_all
theorem pcode1 {q : Option Code} {n : Nat} (h : pcode q = some n) (hn : n = 1) : q = some .ret := by
  subst hn
  unfold pcode at h
  split at h <;> simp_all
theorem pcodeX {q : Option Code} {n i : Nat} (h : pcode q = some n) (hn : n = i + 2) : q = some (.exit i) := by
  subst hn
  unfold pcode at h
  split at h <;> simp_all
theorem jumped_none : jumped none k = k := rfl
theorem jumped_some {c : Code} : jumped (some c) k = .code c :: k := rfl

def args0 : List HV → Option Unit | [] => some () | _ => none
def args1 : List HV → Option HV | [x] => some x | _ => none
def args2 : List HV → Option (HV × HV) | [x, y] => some (x, y) | _ => none
def args3 : List HV → Option (HV × HV × HV) | [x, y, z] => some (x, y, z) | _ => none
theorem args0_out {vs : List HV} {u : Unit} (h : args0 vs = some u) : vs = [] := by
  unfold args0 at h; split at h <;> simp_all
theorem args1_out {vs : List HV} {u : HV} (h : args1 vs = some u) : vs = [u] := by
  unfold args1 at h; split at h <;> simp_all
theorem args2_out {vs : List HV} {u : HV × HV} (h : args2 vs = some u) : vs = [u.1, u.2] := by
  unfold args2 at h; split at h
  · cases h; rfl
  · cases h
theorem args3_out {vs : List HV} {u : HV × HV × HV} (h : args3 vs = some u) : vs = [u.1, u.2.1, u.2.2] := by
  unfold args3 at h; split at h
  · cases h; rfl
  · cases h
def dU : HV → Option Unit | .tup [] => some () | _ => none
theorem dU_out {v : HV} {u : Unit} (h : dU v = some u) : v = .tup [] := by
  unfold dU at h; split at h <;> simp_all
def dA1 : HV → Option HV | .agg [x] => some x | _ => none
def dA2 : HV → Option (HV × HV) | .agg [x, y] => some (x, y) | _ => none
def dA3 : HV → Option (HV × HV × HV) | .agg [x, y, z] => some (x, y, z) | _ => none
def dA4 : HV → Option (HV × HV × HV × HV) | .agg [x, y, z, u] => some (x, y, z, u) | _ => none
theorem dA1_out {v u : HV} (h : dA1 v = some u) : v = .agg [u] := by
  unfold dA1 at h; split at h
  · cases h; rfl
  · cases h
theorem dA2_out {v : HV} {u : HV × HV} (h : dA2 v = some u) : v = .agg [u.1, u.2] := by
  unfold dA2 at h; split at h
  · cases h; rfl
  · cases h
theorem dA3_out {v : HV} {u : HV × HV × HV} (h : dA3 v = some u) : v = .agg [u.1, u.2.1, u.2.2] := by
  unfold dA3 at h; split at h
  · cases h; rfl
  · cases h
theorem dA4_out {v : HV} {u : HV × HV × HV × HV} (h : dA4 v = some u) : v = .agg [u.1, u.2.1, u.2.2.1, u.2.2.2] := by
  unfold dA4 at h; split at h
  · cases h; rfl
  · cases h
def args4 : List HV → Option (HV × HV × HV × HV) | [a, b, c, d] => some (a, b, c, d) | _ => none
theorem args4_out {vs : List HV} {u : HV × HV × HV × HV} (h : args4 vs = some u) : vs = [u.1, u.2.1, u.2.2.1, u.2.2.2] := by
  unfold args4 at h; split at h
  · cases h; rfl
  · cases h
def args5 : List HV → Option (HV × HV × HV × HV × HV) | [a, b, c, d, e] => some (a, b, c, d, e) | _ => none
theorem args5_out {vs : List HV} {u : HV × HV × HV × HV × HV} (h : args5 vs = some u) : vs = [u.1, u.2.1, u.2.2.1, u.2.2.2.1, u.2.2.2.2] := by
  unfold args5 at h; split at h
  · cases h; rfl
  · cases h
def args6 : List HV → Option (HV × HV × HV × HV × HV × HV) | [a, b, c, d, e, f] => some (a, b, c, d, e, f) | _ => none
theorem args6_out {vs : List HV} {u : HV × HV × HV × HV × HV × HV} (h : args6 vs = some u) : vs = [u.1, u.2.1, u.2.2.1, u.2.2.2.1, u.2.2.2.2.1, u.2.2.2.2.2] := by
  unfold args6 at h; split at h
  · cases h; rfl
  · cases h
def args7 : List HV → Option (HV × HV × HV × HV × HV × HV × HV) | [a, b, c, d, e, f, g] => some (a, b, c, d, e, f, g) | _ => none
theorem args7_out {vs : List HV} {u : HV × HV × HV × HV × HV × HV × HV} (h : args7 vs = some u) : vs = [u.1, u.2.1, u.2.2.1, u.2.2.2.1, u.2.2.2.2.1, u.2.2.2.2.2.1, u.2.2.2.2.2.2] := by
  unfold args7 at h; split at h
  · cases h; rfl
  · cases h
def args8 : List HV → Option (HV × HV × HV × HV × HV × HV × HV × HV) | [a, b, c, d, e, f, g, h] => some (a, b, c, d, e, f, g, h) | _ => none
theorem args8_out {vs : List HV} {u : HV × HV × HV × HV × HV × HV × HV × HV} (h : args8 vs = some u) : vs = [u.1, u.2.1, u.2.2.1, u.2.2.2.1, u.2.2.2.2.1, u.2.2.2.2.2.1, u.2.2.2.2.2.2.1, u.2.2.2.2.2.2.2] := by
  unfold args8 at h; split at h
  · cases h; rfl
  · cases h
def dA5 : HV → Option (HV × HV × HV × HV × HV) | .agg [a, b, c, d, e] => some (a, b, c, d, e) | _ => none
theorem dA5_out {v : HV} {u : HV × HV × HV × HV × HV} (h : dA5 v = some u) : v = .agg [u.1, u.2.1, u.2.2.1, u.2.2.2.1, u.2.2.2.2] := by
  unfold dA5 at h; split at h
  · cases h; rfl
  · cases h
def dA6 : HV → Option (HV × HV × HV × HV × HV × HV) | .agg [a, b, c, d, e, f] => some (a, b, c, d, e, f) | _ => none
theorem dA6_out {v : HV} {u : HV × HV × HV × HV × HV × HV} (h : dA6 v = some u) : v = .agg [u.1, u.2.1, u.2.2.1, u.2.2.2.1, u.2.2.2.2.1, u.2.2.2.2.2] := by
  unfold dA6 at h; split at h
  · cases h; rfl
  · cases h
def dA7 : HV → Option (HV × HV × HV × HV × HV × HV × HV) | .agg [a, b, c, d, e, f, g] => some (a, b, c, d, e, f, g) | _ => none
theorem dA7_out {v : HV} {u : HV × HV × HV × HV × HV × HV × HV} (h : dA7 v = some u) : v = .agg [u.1, u.2.1, u.2.2.1, u.2.2.2.1, u.2.2.2.2.1, u.2.2.2.2.2.1, u.2.2.2.2.2.2] := by
  unfold dA7 at h; split at h
  · cases h; rfl
  · cases h
def dA8 : HV → Option (HV × HV × HV × HV × HV × HV × HV × HV) | .agg [a, b, c, d, e, f, g, h] => some (a, b, c, d, e, f, g, h) | _ => none
theorem dA8_out {v : HV} {u : HV × HV × HV × HV × HV × HV × HV × HV} (h : dA8 v = some u) : v = .agg [u.1, u.2.1, u.2.2.1, u.2.2.2.1, u.2.2.2.2.1, u.2.2.2.2.2.1, u.2.2.2.2.2.2.1, u.2.2.2.2.2.2.2] := by
  unfold dA8 at h; split at h
  · cases h; rfl
  · cases h
theorem q_yield2 {l : Nat} {vs : List HV} {u0 : Unit} {ps : Array Tmp} {pl : List Tmp} {assign body : Code} (hl : LoopAt β0 l f a ps assign body) (hS : S.lp l = some u0) (hp : ps.toList = pl) (hn : vs.length = pl.length)
    (h : HRun P base W0 β0 f (some l) [.code assign, .beginRound, .code body] { tmps := HAct.params a.tmps pl vs, defers := [] } S R) : HInv P base W0 β0 (.fn (.yield l) [] []) vs S R := by
  subst hp
  exact q_yield hl hS (by simpa using hn) h

/-! ### results that stand in cells -/
theorem gets_run {β : Bt} {w : World} (h : Rel base W0 β S w) {t : TypeId} {ad : HA} {vs : List HV} {n : Nat} (ht : IsAgg P t n) (hn : n = vs.length) (hv : GetsAt S ad 0 vs) (h0 : 0 < vs.length) {a' : Value} (hp : VRel β (.ptr (some ad)) a') :
    ∃ v' ad', a' = .pointer (some ad') ∧ (loadVar t ad').run P w = .ok v' w ∧ VRel β (.agg vs) v' := by
  have hg := gets_of hv h0
  subst hn
  unfold HS.gets at hg
  cases hr : S.row ad.id ad.i with
  | none => rw [hr] at hg; cases hg
  | some r =>
    rw [hr, Option.bind_some] at hg
    split at hg
    · rename_i hle
      injection hg with hg
      obtain ⟨b, o1, z, n1, tot, arr, ty, fr, q1, q2, q3, q4, q5, q6⟩ := h.row hr
      have e := ptr_unique hp (VRel.ptr (i := ad.i) (j := ad.j) q1)
      refine ⟨.agg (arr.extract (o1 + ad.i * z + ad.j) (o1 + ad.i * z + ad.j + vs.length)), _, e, ?_, .agg ?_ ?_⟩
      · have := run_loadCells (P := P) (o := o1 + ad.i * z + ad.j) q2 vs.length 0 #[] (by omega)
        simp only [Nat.add_zero, Array.empty_append] at this
        simp [loadVar, ht.isAgg, ht.size, loadCells, this]
      · simp; omega
      · intro i v v' k1 k2
        rw [← hg, List.getElem?_take] at k1
        split at k1
        · rw [List.getElem?_drop] at k1
          obtain ⟨_, v2, m1, m2⟩ := q6 _ _ k1
          rw [Array.getElem?_extract] at k2
          split at k2
          · rw [show o1 + ad.i * z + ad.j + i = o1 + ad.i * z + (ad.j + i) by omega, m1] at k2
            cases k2; exact m2
          · cases k2
        · cases k1
    · cases hg
inductive ResAt (P : Program) (a : HAct) (S : HS) : ResultVar → HV → Prop
  | tmp {t : Tmp} {v : HV} (h : a.tmps[t]? = some v) : ResAt P a S (.tmp t) v
  | cell {x : Tmp} {t : TypeId} {e : Option HA} {ad : HA} {v : HV} (h : a.tmps[x]? = some (.ptr e)) (he : e = some ad) (ht : Scalar P t) (hv : S.get ad = some v) : ResAt P a S (.cell x t) v
  | agg {x : Tmp} {t : TypeId} {e : Option HA} {ad : HA} {vs : List HV} (h : a.tmps[x]? = some (.ptr e)) (he : e = some ad) (ht : IsAgg P t vs.length) (hv : GetsAt S ad 0 vs) (h0 : 0 < vs.length) : ResAt P a S (.cell x t) (.agg vs)
theorem ResAt.run {β : Bt} {w : World} {a' : Act} (hS : Rel base W0 β S w) (ha : ARel β a a') {r : ResultVar} {v : HV} (h : ResAt P a S r v) :
    ∃ v', Sem.run P (match r with | .tmp t => pure (a'.tmps.getD t undef) | .cell x t => do loadVar t (← asAddr (a'.tmps.getD x undef))) w = .ok v' w ∧ VRel β v v' := by
  cases h with
  | tmp h =>
    obtain ⟨v', g1, g2⟩ := ha.tmps.get h
    exact ⟨v', by simp [Array.getD_eq_getD_getElem?, g1], g2⟩
  | @cell x t e ad _ h he ht hv =>
    subst he
    obtain ⟨p', g1, g2⟩ := ha.tmps.get h
    obtain ⟨b, off, v', k1, k2, k3⟩ := hS.get hv
    have e := ptr_unique g2 k1
    subst e
    exact ⟨v', by simp [Array.getD_eq_getD_getElem?, g1, asAddr, loadVar, ht.isAgg, k2], k3⟩
  | @agg x t e ad vs h he ht hv h0 =>
    subst he
    obtain ⟨p', g1, g2⟩ := ha.tmps.get h
    obtain ⟨v', ad', e, k2, k3⟩ := gets_run hS ht rfl hv h0 g2
    subst e
    exact ⟨v', by simp [Array.getD_eq_getD_getElem?, g1, asAddr, k2], k3⟩
theorem resL1 {fn : Func} {r : ResultVar} {v : HV} (h : fn.results = #[r]) (hr : ResAt P a S r v) : ResOk P base W0 fn a S v := by
  intro β w a' hS ha
  obtain ⟨v', g1, g2⟩ := hr.run hS ha
  refine ⟨v', ?_, g2⟩
  unfold results
  rw [h]
  cases r <;> simp_all

def resF (tmps : Array Value) : ResultVar → Sem Value
  | .tmp t => pure (tmps.getD t undef)
  | .cell x t => do loadVar t (← asAddr (tmps.getD x undef))
theorem ResAt.runF {β : Bt} {w : World} {a' : Act} (hS : Rel base W0 β S w) (ha : ARel β a a') {r : ResultVar} {v : HV} (h : ResAt P a S r v) : ∃ v', (resF a'.tmps r).run P w = .ok v' w ∧ VRel β v v' := by
  obtain ⟨v', g1, g2⟩ := h.run hS ha
  cases r with
  | tmp t => exact ⟨v', g1, g2⟩
  | cell x t => exact ⟨v', g1, g2⟩
inductive ResAts (P : Program) (a : HAct) (S : HS) : List ResultVar → List HV → Prop
  | nil : ResAts P a S [] []
  | cons {r : ResultVar} {v : HV} {rs : List ResultVar} {vs : List HV} (h : ResAt P a S r v) (k : ResAts P a S rs vs) : ResAts P a S (r :: rs) (v :: vs)
theorem resL_run {β : Bt} {w : World} {a' : Act} (hS : Rel base W0 β S w) (ha : ARel β a a') {rs : List ResultVar} {vs : List HV} (h : ResAts P a S rs vs) :
    ∃ vs' : List Value, (rs.mapM (resF a'.tmps)).run P w = .ok vs' w ∧ VRels β vs vs'.toArray := by
  induction h with
  | nil => exact ⟨[], by simp, VRels.nil β⟩
  | @cons r v rs vs h k ih =>
    obtain ⟨v', g1, g2⟩ := h.runF hS ha
    obtain ⟨vs', g3, g4⟩ := ih
    exact ⟨v' :: vs', by simp [List.mapM_cons, Sem.run_bind, g1, g3], VRels.cons g2 g4⟩
theorem resL {fn : Func} {rs : List ResultVar} {vs : List HV} (h : fn.results = rs.toArray) (hr : ResAts P a S rs vs) (hn : vs.length ≠ 1) : ResOk P base W0 fn a S (.tup vs) := by
  intro β w a' hS ha
  obtain ⟨vs', g1, g2⟩ := resL_run hS ha hr
  have hl : vs'.length ≠ 1 := by have := g2.1; simp at this; omega
  refine ⟨.tuple vs'.toArray, ?_, VRels.tup g2⟩
  have e : results fn a'.tmps = (do let vs ← rs.toArray.mapM (resF a'.tmps); pure (if h : vs.size = 1 then vs[0] else .tuple vs)) := by
    unfold results
    rw [h]
    congr 1
  rw [e, List.mapM_toArray]
  simp only [Sem.run_bind, Sem.run_map, g1, Result.andThen_ok, Sem.run_pure]
  simp [hl]
end
end Go.Proofs.YtcphapfclncggaaDoor.HL
