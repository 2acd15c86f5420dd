/- The layer HL, part 2: runs of a frame over the abstract heap; the rules of control, calls, returns and ranges over functions. -/
import Derived.Test.YtcphapfclncggaaDoorHLa
namespace Go.Proofs.YtcphapfclncggaaDoor.HL
open Go.RowKit (Below)

def RoRel (β : Bt) : Option Nat → Option Nat → Prop
  | none, none => True
  | some l, some b => ∃ L, β l = .loop b L
  | _, _ => False
theorem RoRel.mono {β β' : Bt} (hb : Le β β') : ∀ {x y : Option Nat}, RoRel β x y → RoRel β' x y
  | none, none, _ => trivial
  | some _, some _, ⟨L, h⟩ => ⟨L, hb.eq h (by simp)⟩
  | none, some _, h => h.elim
  | some _, none, h => h.elim

section
variable (P : Program) (base : Nat) (W0 : World)

def Ends (ro : Option Nat) (f : FuncId) (m : Machine) (cs : List Frame) (v' : Value) (w' : World) : Prop :=
  match ro with
  | none => ∃ fr, Steps P m (lone fr cs w') ∧ fr.fn = f ∧ fr.leaving P w' (.returned v')
  | some _ => ∃ c cs', cs = c :: cs' ∧ Steps P m (lone (c.finish v') cs' w')

theorem Ends.of_steps {ro : Option Nat} {f : FuncId} {m m1 : Machine} {cs : List Frame} {v' : Value} {w' : World} (h : Steps P m m1) (k : Ends P ro f m1 cs v' w') : Ends P ro f m cs v' w' := by
  cases ro with
  | none => obtain ⟨fr, h1, h2⟩ := k; exact ⟨fr, h.trans h1, h2⟩
  | some l => obtain ⟨c, cs', h1, h2⟩ := k; exact ⟨c, cs', h1, h.trans h2⟩

/-- What is left to do, done: a result and a heap that R takes. -/
def HRun (β0 : Bt) (f : FuncId) (ro : Option Nat) (k : List Item) (a : HAct) (S : HS) (R : HV → HS → Prop) : Prop :=
  ∀ (β : Bt) (w : World) (a' : Act), Le β0 β → Rel base W0 β S w → ARel β a a' →
  ∀ (b : Frame) (cs : List Frame), b.fn = f → b.kind = .normal → RoRel β ro b.roundOf → (ro.isSome = true → cs ≠ []) →
    ∃ (β' : Bt) (v : HV) (S' : HS) (v' : Value) (w' : World), Le β β' ∧ R v S' ∧ VRel β' v v' ∧ Rel base W0 β' S' w' ∧ Ends P b.roundOf f (lone (b.atR a' k) cs w) cs v' w'

/-- A call of a function. -/
def HCall (β0 : Bt) (f : FuncId) (args : List HV) (S : HS) (R : HV → HS → Prop) : Prop :=
  ∀ (β : Bt) (w : World) (args' : Array Value), Le β0 β → Rel base W0 β S w → VRels β args args' → ∀ cs : List Frame,
    ∃ (β' : Bt) (v : HV) (S' : HS) (v' : Value) (w' : World) (fr : Frame), Le β β' ∧ R v S' ∧ VRel β' v v' ∧ Rel base W0 β' S' w' ∧
      Steps P (lone (Frame.enter P f args' .normal) cs w) (lone fr cs w') ∧ fr.fn = f ∧ fr.leaving P w' (.returned v')

def startOf (nx : Next) (c : Frame) (cs : List Frame) (w : World) : Option Machine :=
  match nx with
  | .enter f as => some (lone (Frame.enter P f as .normal) (c :: cs) w)
  | .round l f tmps assign body => some (lone (Frame.round l f tmps assign body .normal) (c :: cs) w)
  | _ => none

/-- A call of a function value. -/
def HInv (β0 : Bt) (fv : HV) (vs : List HV) (S : HS) (R : HV → HS → Prop) : Prop :=
  ∀ (β : Bt) (w : World) (fv' : Value) (vs' : Array Value), Le β0 β → Rel base W0 β S w → VRel β fv fv' → VRels β vs vs' →
    ∃ (d : Deferred) (nx : Next), (Deferred.ofValue fv' vs').run P w = .ok d w ∧ (invoke d.target d.args).run P w = .ok nx w ∧ ∀ (c : Frame) (cs : List Frame), ∃ m, startOf P nx c cs w = some m ∧
      ∃ (β' : Bt) (v : HV) (S' : HS) (v' : Value) (w' : World), Le β β' ∧ R v S' ∧ VRel β' v v' ∧ Rel base W0 β' S' w' ∧ Steps P m (lone (c.finish v') cs w')
end

section
variable {P : Program} {base : Nat} {W0 : World} {β0 : Bt} {f : FuncId} {ro : Option Nat} {k : List Item} {a : HAct} {S : HS} {R : HV → HS → Prop}

theorem HRun.mono {R' : HV → HS → Prop} (h : HRun P base W0 β0 f ro k a S R) (hR : ∀ v S', R v S' → R' v S') : HRun P base W0 β0 f ro k a S R' :=
  fun β w a' h1 h2 h3 b cs h4 h5 h6 h7 => let ⟨β', v, S', v', w', g1, g2, g3⟩ := h β w a' h1 h2 h3 b cs h4 h5 h6 h7; ⟨β', v, S', v', w', g1, hR _ _ g2, g3⟩
theorem HRun.up {β1 : Bt} (h : HRun P base W0 β0 f ro k a S R) (hb : Le β0 β1) : HRun P base W0 β1 f ro k a S R :=
  fun β w a' h1 => h β w a' (hb.trans h1)
theorem HCall.mono {args : List HV} {R' : HV → HS → Prop} (h : HCall P base W0 β0 f args S R) (hR : ∀ v S', R v S' → R' v S') : HCall P base W0 β0 f args S R' :=
  fun β w args' h1 h2 h3 cs => let ⟨β', v, S', v', w', fr, g1, g2, g3⟩ := h β w args' h1 h2 h3 cs; ⟨β', v, S', v', w', fr, g1, hR _ _ g2, g3⟩
theorem HCall.up {args : List HV} {β1 : Bt} (h : HCall P base W0 β0 f args S R) (hb : Le β0 β1) : HCall P base W0 β1 f args S R :=
  fun β w a' h1 => h β w a' (hb.trans h1)
theorem HInv.mono {fv : HV} {vs : List HV} {R' : HV → HS → Prop} (h : HInv P base W0 β0 fv vs S R) (hR : ∀ v S', R v S' → R' v S') : HInv P base W0 β0 fv vs S R' := by
  intro β w fv' vs' h1 h2 h3 h4
  obtain ⟨d, nx, g1, g2, g3⟩ := h β w fv' vs' h1 h2 h3 h4
  refine ⟨d, nx, g1, g2, fun c cs => ?_⟩
  obtain ⟨m, hm, β', v, S', v', w', g4, g5, g6⟩ := g3 c cs
  exact ⟨m, hm, β', v, S', v', w', g4, hR _ _ g5, g6⟩
theorem HInv.up {fv : HV} {vs : List HV} {β1 : Bt} (h : HInv P base W0 β0 fv vs S R) (hb : Le β0 β1) : HInv P base W0 β1 fv vs S R :=
  fun β w fv' vs' h1 => h β w fv' vs' (hb.trans h1)

/-- One step of the machine that changes neither heap nor temporaries. -/
theorem HRun.calm {k' : List Item} (hs : ∀ (b : Frame) (a' : Act) (cs : List Frame) (w : World), step P (lone (b.atR a' k) cs w) = .next (lone (b.atR a' k') cs w))
    (h : HRun P base W0 β0 f ro k' a S R) : HRun P base W0 β0 f ro k a S R := by
  intro β w a' h1 h2 h3 b cs h4 h5 h6 h7
  obtain ⟨β', v, S', v', w', g1, g2, g3, g4, g5⟩ := h β w a' h1 h2 h3 b cs h4 h5 h6 h7
  exact ⟨β', v, S', v', w', g1, g2, g3, g4, g5.of_steps (P := P) (.one (hs b a' cs w))⟩
theorem hr_skip (h : HRun P base W0 β0 f ro k a S R) : HRun P base W0 β0 f ro (.code .skip :: k) a S R := h.calm fun _ _ _ _ => stepR_skip
theorem hr_label {l : Nat} (h : HRun P base W0 β0 f ro k a S R) : HRun P base W0 β0 f ro (.code (.label l) :: k) a S R := h.calm fun _ _ _ _ => stepR_label
theorem hr_inBlock {id : Nat} (h : HRun P base W0 β0 f ro k a S R) : HRun P base W0 β0 f ro (.inBlock id :: k) a S R := h.calm fun _ _ _ _ => stepR_inBlock
theorem hr_seq {x y : Code} (h : HRun P base W0 β0 f ro (.code x :: .code y :: k) a S R) : HRun P base W0 β0 f ro (.code (.seq x y) :: k) a S R := h.calm fun _ _ _ _ => stepR_seq
theorem hr_block {id : Nat} {c : Code} (h : HRun P base W0 β0 f ro (.code c :: .inBlock id :: k) a S R) : HRun P base W0 β0 f ro (.code (.block id c) :: k) a S R := h.calm fun _ _ _ _ => stepR_block
theorem hr_loop {c : Code} (h : HRun P base W0 β0 f ro (.code c :: .inLoop c :: k) a S R) : HRun P base W0 β0 f ro (.code (.loop c) :: k) a S R := h.calm fun _ _ _ _ => stepR_loop
theorem hr_inLoop {c : Code} (h : HRun P base W0 β0 f ro (.code c :: .inLoop c :: k) a S R) : HRun P base W0 β0 f ro (.inLoop c :: k) a S R := h.calm fun _ _ _ _ => stepR_inLoop
theorem hr_exit {id : Nat} {k' : List Item} (hx : exitTo id k = some k') (h : HRun P base W0 β0 f ro k' a S R) : HRun P base W0 β0 f ro (.code (.exit id) :: k) a S R := h.calm fun _ _ _ _ => stepR_exit hx
theorem hr_region {id : Nat} {ops : Array Oper} {is : List Nat} (hi : List.range ops.size = is) (h : HRun P base W0 β0 f ro (.inRegion ops is :: k) a S R) : HRun P base W0 β0 f ro (.code (.region id ops false) :: k) a S R := by
  subst hi; exact h.calm fun _ _ _ _ => stepR_region
theorem hr_region_end {ops : Array Oper} (h : HRun P base W0 β0 f ro k a S R) : HRun P base W0 β0 f ro (.inRegion ops [] :: k) a S R := h.calm fun _ _ _ _ => stepR_region_end
theorem hr_cond {c : Operand} {x y : Code} {t : Bool} (hc : Ev a c (.bool t)) (h : HRun P base W0 β0 f ro (.code (if t then x else y) :: k) a S R) : HRun P base W0 β0 f ro (.code (.cond c x y) :: k) a S R := by
  intro β w a' h1 h2 h3 b cs h4 h5 h6 h7
  obtain ⟨β', v, S', v', w', g1, g2, g3, g4, g5⟩ := h β w a' h1 h2 h3 b cs h4 h5 h6 h7
  have hv : a'.eval c = .bool t := by
    have := hc.rel h3
    generalize a'.eval c = x at this
    cases this; rfl
  exact ⟨β', v, S', v', w', g1, g2, g3, g4, g5.of_steps (P := P) (.one (stepR_cond hv))⟩
theorem hr_cond_t {c : Operand} {x y : Code} (hc : Ev a c (.bool true)) (h : HRun P base W0 β0 f ro (.code x :: k) a S R) : HRun P base W0 β0 f ro (.code (.cond c x y) :: k) a S R := hr_cond hc h
theorem hr_cond_f {c : Operand} {x y : Code} (hc : Ev a c (.bool false)) (h : HRun P base W0 β0 f ro (.code y :: k) a S R) : HRun P base W0 β0 f ro (.code (.cond c x y) :: k) a S R := hr_cond hc h

/-! ### One operation -/
/-- The operation o, made in any world that the heap S stands for, gives v, and leaves a world for S'. -/
def OpOk (P : Program) (base : Nat) (W0 : World) (o : Oper) (a : HAct) (S : HS) (v : HV) (S' : HS) : Prop :=
  (∀ c, o.op ≠ .defer c) ∧
  ∀ (β : Bt) (w : World) (a' : Act), Rel base W0 β S w → ARel β a a' → ∃ (β' : Bt) (w' : World) (v' : Value), Le β β' ∧
    ((execOp a'.eval o).run P w = .ok (.value v') w' ∨ ((execOp a'.eval o).run P w = .ok .skip w' ∧ v' = undef)) ∧ VRel β' v v' ∧ Rel base W0 β' S' w'

def Wants (a : HAct) (ops : Array Oper) (o : Oper) : Prop :=
  match o.guard with
  | none => True
  | some (j, want) => ∃ t, (ops[j]?).bind (·.dst) = some t ∧ a.tmps[t]? = some (.bool want)
def Skips (a : HAct) (ops : Array Oper) (o : Oper) : Prop :=
  match o.guard with
  | none => False
  | some (j, want) => ∃ t, (ops[j]?).bind (·.dst) = some t ∧ (a.tmps[t]? = some (.bool (!want)) ∨ a.tmps[t]? = some (.tup []))
theorem yielded_none {β : Bt} {a' : Act} {ops : Array Oper} (h : ARel β a a') {j : Nat} {t : Tmp} (h1 : (ops[j]?).bind (·.dst) = some t) (h2 : a.tmps[t]? = some (.tup [])) : yielded ops a'.tmps j = none := by
  obtain ⟨v', h3, h4⟩ := h.tmps.get h2
  cases h4
  simp [yielded, h1, h3]
theorem yielded_of {β : Bt} {a' : Act} {ops : Array Oper} (h : ARel β a a') {j : Nat} {t : Tmp} {q : Bool} (h1 : (ops[j]?).bind (·.dst) = some t) (h2 : a.tmps[t]? = some (.bool q)) : yielded ops a'.tmps j = some q := by
  obtain ⟨v', h3, h4⟩ := h.tmps.get h2
  cases h4
  simp [yielded, h1, h3]
theorem Wants.wanted {β : Bt} {a' : Act} {ops : Array Oper} {o : Oper} (h : ARel β a a') (hw : Wants a ops o) : Region.wanted o (yielded ops a'.tmps) = true := by
  unfold Wants at hw
  unfold Region.wanted
  cases hg : o.guard with
  | none => rfl
  | some q =>
    obtain ⟨j, want⟩ := q
    rw [hg] at hw
    obtain ⟨t, h1, h2⟩ := hw
    simp [yielded_of h h1 h2]
theorem Skips.unwanted {β : Bt} {a' : Act} {ops : Array Oper} {o : Oper} (h : ARel β a a') (hw : Skips a ops o) : Region.wanted o (yielded ops a'.tmps) = false := by
  unfold Skips at hw
  unfold Region.wanted
  cases hg : o.guard with
  | none => rw [hg] at hw; exact hw.elim
  | some q =>
    obtain ⟨j, want⟩ := q
    rw [hg] at hw
    obtain ⟨t, h1, h2 | h2⟩ := hw
    · simp [yielded_of h h1 h2]
    · simp [yielded_none h h1 h2]

theorem stepR_op_value {P : Program} {b : Frame} {a : Act} {k : List Item} {cs : List Frame} {w w' : World} {ops : Array Oper} {i : Nat} {rest : List Nat} {o : Oper} {v : Value}
    (ho : ops[i]? = some o) (hw : Region.wanted o (yielded ops a.tmps) = true) (hd : ∀ c, o.op ≠ .defer c)
    (hr : (execOp a.eval o).run P w = .ok (.value v) w' ∨ ((execOp a.eval o).run P w = .ok .skip w' ∧ v = undef)) :
    step P (lone (b.atR a (.inRegion ops (i :: rest) :: k)) cs w) = .next (lone (b.atR (a.put o.dst v) (.inRegion ops rest :: k)) cs w') := by
  have hfin : (b.atR a (.inRegion ops (i :: rest) :: k)).finish v = b.atR (a.put o.dst v) (.inRegion ops rest :: k) := by
    rw [Frame.finish_atR, ho]; rfl
  refine step_lone_go ?_
  rw [stepGR_op ho hw, Oper.semAt_eq _ _ _ hd, ← hfin]
  rcases hr with hr | ⟨hr, rfl⟩ <;> simp [stepG.apply, Sem.runT_eq, hr, GStep.bare_after]

theorem stepR_op_start {P : Program} {b : Frame} {a : Act} {k : List Item} {cs : List Frame} {w w' : World} {ops : Array Oper} {i : Nat} {rest : List Nat} {o : Oper} {nx : Next} {m : Machine}
    (ho : ops[i]? = some o) (hw : Region.wanted o (yielded ops a.tmps) = true) (hd : ∀ c, o.op ≠ .defer c)
    (hr : (execOp a.eval o).run P w = .ok nx w') (hm : startOf P nx (b.atR a (.inRegion ops (i :: rest) :: k)) cs w' = some m) :
    step P (lone (b.atR a (.inRegion ops (i :: rest) :: k)) cs w) = .next m := by
  cases nx with
  | enter g as =>
    simp only [startOf, Option.some.injEq] at hm
    subst hm
    refine step_lone_go ?_
    rw [stepGR_op ho hw, Oper.semAt_eq _ _ _ hd]
    simp [stepG.apply, Sem.runT_eq, hr, GStep.bare_after, Frame.atR]
  | round l g tmps assign body =>
    simp only [startOf, Option.some.injEq] at hm
    subst hm
    refine step_lone_go ?_
    rw [stepGR_op ho hw, Oper.semAt_eq _ _ _ hd]
    simp [stepG.apply, Sem.runT_eq, hr, GStep.bare_after]
  | _ => simp [startOf] at hm

theorem hr_op {ops : Array Oper} {i : Nat} {rest : List Nat} {o : Oper} {v : HV} {S' : HS} (ho : ops[i]? = some o) (hw : Wants a ops o) (hop : OpOk P base W0 o a S v S')
    (h : HRun P base W0 β0 f ro (.inRegion ops rest :: k) (a.put o.dst v) S' R) : HRun P base W0 β0 f ro (.inRegion ops (i :: rest) :: k) a S R := by
  intro β w a' h1 h2 h3 b cs h4 h5 h6 h7
  obtain ⟨β1, w1, v1, e1, e2, e3, e4⟩ := hop.2 β w a' h2 h3
  obtain ⟨β', v2, S2, v', w', g1, g2, g3, g4, g5⟩ := h β1 w1 (a'.put o.dst v1) (h1.trans e1) e4 ((h3.mono e1).put e3 _) b cs h4 h5 (h6.mono e1) h7
  exact ⟨β', v2, S2, v', w', e1.trans g1, g2, g3, g4, g5.of_steps (P := P) (.one (stepR_op_value ho (hw.wanted h3) hop.1 e2))⟩
theorem hr_op_skip {ops : Array Oper} {i : Nat} {rest : List Nat} {o : Oper} (ho : ops[i]? = some o) (hw : Skips a ops o)
    (h : HRun P base W0 β0 f ro (.inRegion ops rest :: k) (a.put o.dst (.tup [])) S R) : HRun P base W0 β0 f ro (.inRegion ops (i :: rest) :: k) a S R := by
  intro β w a' h1 h2 h3 b cs h4 h5 h6 h7
  obtain ⟨β', v2, S2, v', w', g1, g2, g3, g4, g5⟩ := h β w (a'.put o.dst undef) h1 h2 (h3.put (VRel.undef β) _) b cs h4 h5 h6 h7
  have hs := stepR_op_skip (P := P) (b := b) (a := a') (k := k) (cs := cs) (w := w) (ops := ops) (i := i) (rest := rest) (by simp [ho, hw.unwanted h3])
  simp only [ho, Option.bind_some] at hs
  exact ⟨β', v2, S2, v', w', g1, g2, g3, g4, g5.of_steps (P := P) (.one hs)⟩

/-- The operands of a call. -/
def Evs (a : HAct) (xs : Array Operand) (vs : List HV) : Prop := vs.length = xs.size ∧ ∀ (i : Nat) (x : Operand) (v : HV), xs[i]? = some x → vs[i]? = some v → Ev a x v
theorem Evs.rel {β : Bt} {a' : Act} (h : ARel β a a') {xs : Array Operand} {vs : List HV} (e : Evs a xs vs) : VRels β vs (xs.map a'.eval) := by
  refine ⟨by simp [e.1], fun i v v' h1 h2 => ?_⟩
  rw [Array.getElem?_map] at h2
  cases hx : xs[i]? with
  | none => rw [hx] at h2; cases h2
  | some x =>
    rw [hx] at h2; cases h2
    exact (e.2 i x v hx h1).rel h
theorem Evs.nil : Evs a #[] [] := ⟨rfl, fun i x v h => by simp at h⟩
theorem Evs.cons {x : Operand} {v : HV} {xs : List Operand} {vs : List HV} (h : Ev a x v) (k : Evs a xs.toArray vs) : Evs a (x :: xs).toArray (v :: vs) := by
  refine ⟨by have := k.1; simp at this ⊢; exact this, fun i y u h1 h2 => ?_⟩
  cases i with
  | zero => simp at h1 h2; subst h1; subst h2; exact h
  | succ i => simp at h1 h2; exact k.2 i y u (by simpa using h1) h2

theorem hr_call {ops : Array Oper} {i : Nat} {rest : List Nat} {o : Oper} {fx : Operand} {xs : Array Operand} {tys : Array TypeId} {fv : HV} {vs : List HV} {R1 : HV → HS → Prop}
    (ho : ops[i]? = some o) (hw : Wants a ops o) (hc : o.op = .call ⟨.value fx, xs, tys⟩) (hf : Ev a fx fv) (hxs : Evs a xs vs) (hi : HInv P base W0 β0 fv vs S R1)
    (h : ∀ v S', R1 v S' → HRun P base W0 β0 f ro (.inRegion ops rest :: k) (a.put o.dst v) S' R) : HRun P base W0 β0 f ro (.inRegion ops (i :: rest) :: k) a S R := by
  intro β w a' h1 h2 h3 b cs h4 h5 h6 h7
  obtain ⟨d, nx, g1, g2, g3⟩ := hi β w (a'.eval fx) (xs.map a'.eval) h1 h2 (hf.rel h3) (hxs.rel h3)
  obtain ⟨m, hm, β1, v, S1, v1, w1, e1, e2, e3, e4, e5⟩ := g3 (b.atR a' (.inRegion ops (i :: rest) :: k)) cs
  have hstep := stepR_op_start (P := P) (b := b) (a := a') (k := k) (cs := cs) (w := w) (w' := w) (ops := ops) (i := i) (rest := rest) (o := o) (nx := nx) (m := m) ho (hw.wanted h3)
    (by intro c; rw [hc]; simp) (by simp [execOp, hc, resolve, g1, g2]) hm
  have hfin : (b.atR a' (.inRegion ops (i :: rest) :: k)).finish v1 = b.atR (a'.put o.dst v1) (.inRegion ops rest :: k) := by
    rw [Frame.finish_atR, ho]; rfl
  rw [hfin] at e5
  obtain ⟨β', v2, S2, v', w', q1, q2, q3, q4, q5⟩ := h v S1 e2 β1 w1 (a'.put o.dst v1) (h1.trans e1) e4 ((h3.mono e1).put e3 _) b cs h4 h5 (h6.mono e1) h7
  exact ⟨β', v2, S2, v', w', e1.trans q1, q2, q3, q4, q5.of_steps (P := P) (.head hstep e5)⟩

/-! ### Functions -/
structure FnAt (P : Program) (f : FuncId) (fn : Func) : Prop where
  at_ : P.funcs[f]? = some fn
  name : (fn.name == "runtime.NumGoroutine") = false

theorem HInv.func {fn : Func} {first cap vs : List HV} {c : Code} (hf : FnAt P f fn) (hb : fn.body = some c) (h : HCall P base W0 β0 f (first ++ vs ++ cap) S R) : HInv P base W0 β0 (.fn (.func f) first cap) vs S R := by
  intro β w fv' vs' h1 h2 h3 h4
  cases h3 with
  | @fn _ _ _ first' cap' e1 e2 e3 e4 =>
    refine ⟨⟨.fn (.func f) cap', first' ++ vs'⟩, .enter f (first' ++ vs' ++ cap'), by simp [Deferred.ofValue], ?_, fun c cs => ⟨_, rfl, ?_⟩⟩
    · have hn := beq_eq_false_iff_ne.1 hf.name
      simp [invoke, callFunc, hf.at_, hb, hn]
    · obtain ⟨β', v, S', v', w', fr, g1, g2, g3, g4, g5, g6, g7⟩ := h β w (first' ++ vs' ++ cap') h1 h2 ((VRels.append (VRels.append ⟨e1, e2⟩ h4) ⟨e3, e4⟩)) (c :: cs)
      exact ⟨β', v, S', v', w', g1, g2, g3, g4, g5.trans (.one (step_leave_returned g7))⟩

theorem HCall.of_run {fn : Func} {c : Code} {args : List HV} (hf : P.funcs[f]? = some fn) (hb : fn.body = some c)
    (h : HRun P base W0 β0 f none [.code c] { tmps := args ++ List.replicate (fn.ntmps - args.length) (.tup []), defers := [] } S R) : HCall P base W0 β0 f args S R := by
  intro β w args' h1 h2 h3 cs
  let b : Frame := { (default : Frame) with fn := f, kind := .normal, roundOf := none }
  have henter : Frame.enter P f args' .normal = b.atR { tmps := args' ++ Array.replicate (fn.ntmps - args'.size) undef, defers := [] } [.code c] := by
    simp [Frame.enter, Frame.atR, hf, hb, b]
  obtain ⟨β', v, S', v', w', g1, g2, g3, g4, g5⟩ := h β w { tmps := args' ++ Array.replicate (fn.ntmps - args'.size) undef, defers := [] } h1 h2
    ⟨h3.append (by rw [h3.1]; exact VRels.replicate (VRel.undef β) _), ⟨rfl, fun i d d' h => by simp at h⟩⟩ b cs rfl rfl trivial (by simp)
  obtain ⟨fr, s1, s2, s3⟩ := g5
  exact ⟨β', v, S', v', w', fr, g1, g2, g3, g4, by rw [henter]; exact s1, s2, s3⟩

/-! ### Returns -/
/-- The results' variables, read. -/
def ResOk (P : Program) (base : Nat) (W0 : World) (fn : Func) (a : HAct) (S : HS) (v : HV) : Prop :=
  ∀ (β : Bt) (w : World) (a' : Act), Rel base W0 β S w → ARel β a a' → ∃ v', (results fn a'.tmps).run P w = .ok v' w ∧ VRel β v v'

theorem Rel.kill {β : Bt} {w : World} (h : Rel base W0 β S w) (id : Nat) : Rel base W0 β (S.put id .dead) w := by
  refine ⟨h.below, h.size, fun i hi => ?_, h.lt, fun i => ?_, fun i j b hij h1 h2 => ?_⟩
  · have := h.fresh i hi
    refine ⟨this.1, ?_⟩
    simp only [HS.put]
    split
    · rfl
    · exact this.2
  · simp only [HS.put]
    split
    · trivial
    · exact h.objs i
  · simp only [HS.put] at h1 h2
    split at h1
    · cases h1
    · split at h2
      · cases h2
      · exact h.disj i j b hij h1 h2

/-- A block of the call's own that holds no cells of any live object is turned. -/
theorem Rel.setObj {β : Bt} {w : World} (h : Rel base W0 β S w) {id b : Nat} {o : HObj} {o' : Obj} (hid : (β id).block = some b) (hb : base ≤ b) (hown : (S.heap id).own = true) (hal : (S.heap id).alive = true)
    (ho : ObjRel base β { w with heap := w.heap.setIfInBounds b o' } id (S.mrk id) o) :
    Rel base W0 β (S.put id o) { w with heap := w.heap.setIfInBounds b o' } := by
  have hget : ∀ j, j ≠ b → (w.heap.setIfInBounds b o')[j]? = w.heap[j]? := fun j hj => by
    rw [Array.getElem?_setIfInBounds, if_neg (fun e => hj e.symm)]
  refine ⟨h.below.trans ⟨rfl, rfl, rfl, by simp, fun j hj => hget j (by omega)⟩, by simpa using h.size, fun i hi => ?_, fun i c hc => by simpa using h.lt i c hc, fun i => ?_, fun i j c hij h1 h2 h3 => ?_⟩
  · have hf := h.fresh i hi
    refine ⟨hf.1, ?_⟩
    simp only [HS.put]
    split
    · rename_i e; subst e; rw [hf.2] at hal; cases hal
    · exact hf.2
  · simp only [HS.put]
    split
    · rename_i e; subst e; exact ho
    · rename_i e
      have h1 := h.objs i
      cases hS : S.heap i with
      | dead => trivial
      | cells z rows own =>
        rw [hS] at h1
        obtain ⟨b1, o1, tot, arr, t, fr, q1, q2, q3⟩ := h1
        have hne : b1 ≠ b := fun e1 => h.disj id i b (fun e2 => e e2.symm) hown (by rw [hS]; rfl) hid (by rw [q1]; simp [Tgt.block, e1])
        exact ⟨b1, o1, tot, arr, t, fr, q1, (hget b1 hne).trans q2, q3⟩
      | map es =>
        rw [hS] at h1
        obtain ⟨b1, es', clk, q1, q2, q3, q4⟩ := h1
        have hne : b1 ≠ b := fun e1 => h.disj id i b (fun e2 => e e2.symm) hown (by rw [hS]; rfl) hid (by rw [q1]; simp [Tgt.block, e1])
        exact ⟨b1, es', clk, q1, q2, (hget b1 hne).trans q3, q4⟩
      | loop st pend =>
        rw [hS] at h1
        obtain ⟨b1, L, q1, q2, q3⟩ := h1
        have hne : b1 ≠ b := fun e1 => h.disj id i b (fun e2 => e e2.symm) hown (by rw [hS]; rfl) hid (by rw [q1]; simp [Tgt.block, e1])
        exact ⟨b1, L, q1, q2, (hget b1 hne).trans q3⟩
      | defer =>
        rw [hS] at h1
        obtain ⟨b1, q1, q2, q3⟩ := h1
        have hne : b1 ≠ b := fun e1 => h.disj id i b (fun e2 => e e2.symm) hown (by rw [hS]; rfl) hid (by rw [q1]; simp [Tgt.block, e1])
        exact ⟨b1, q1, q2, (hget b1 hne).trans q3⟩
  · simp only [HS.put] at h1 h2
    by_cases e1 : i = id
    · subst e1
      rw [if_neg (fun e => hij e.symm)] at h2
      exact h.disj i j c hij hown h2 h3
    · rw [if_neg e1] at h1
      by_cases e2 : j = id
      · subst e2
        exact h.disj i j c hij h1 hal h3
      · rw [if_neg e2] at h2
        exact h.disj i j c hij h1 h2 h3

/-- The blocks of the rounds' deferred calls are shut. -/
def HS.kills (S : HS) : List Nat → HS
  | [] => S
  | d :: ds => (S.put d .dead).kills ds
def Defers (S : HS) : List Nat → Prop
  | [] => True
  | d :: ds => S.heap d = .defer ∧ Defers (S.put d .dead) ds

theorem hr_leave {β : Bt} {fr : Frame} {cs : List Frame} : ∀ (ds : List Nat) (S : HS) (w : World) (ds' : List Deferred), Rel base W0 β S w → DRel β ds ds' → Defers S ds →
    ∃ w', Rel base W0 β (S.kills ds) w' ∧ (fr.mode = .returning → Steps P (lone { fr with defers := ds' } cs w) (lone { fr with defers := [] } cs w')) := by
  intro ds
  induction ds with
  | nil =>
    intro S w ds' h hd _
    obtain rfl : ds' = [] := by have := hd.1; cases ds' <;> simp_all
    exact ⟨w, h, fun _ => .refl P _⟩
  | cons d ds ih =>
    intro S w ds' h hd hS
    cases ds' with
    | nil => have := hd.1; simp at this
    | cons d' ds' =>
      obtain ⟨b, hb, hb'⟩ := hd.2 0 d d' rfl rfl
      obtain ⟨hdef, hrest⟩ := hS
      have ho := h.objs d
      rw [hdef] at ho
      obtain ⟨b1, q1, q2, q3⟩ := ho
      rw [hb] at q1
      cases q1
      have hR := h.setObj (id := d) (b := b) (o := .dead) (o' := .deferred none) (by rw [hb]; rfl) q2 (by rw [hdef]; rfl) (by rw [hdef]; rfl) trivial
      have hd2 : DRel β ds ds' := ⟨by have := hd.1; simpa using this, fun i x x' h1 h2 => hd.2 (i + 1) x x' (by simpa using h1) (by simpa using h2)⟩
      obtain ⟨w', g1, g2⟩ := ih (S.put d .dead) _ ds' hR hd2 hrest
      refine ⟨w', g1, fun hm => .head (step_collected (r := b) (calls := []) (by show fr.mode ≠ .run; rw [hm]; simp) rfl hb' ?_) (g2 hm)⟩
      simp [Instr.takeDeferred, getObj, setObj, Sem.run, q3]

theorem hr_ret {fn : Func} {v : HV} (hf : P.funcs[f]? = some fn) (hres : ResOk P base W0 fn a (S.kills a.defers) v) (hd : Defers S a.defers) (hR : R v (S.kills a.defers)) :
    HRun P base W0 β0 f none (.code .ret :: k) a S R := by
  intro β w a' h1 h2 h3 b cs h4 h5 h6 h7
  have hro : b.roundOf = none := by
    cases hb : b.roundOf with
    | none => rfl
    | some x => rw [hb] at h6; exact h6.elim
  let fr : Frame := { b.atR a' (.code .ret :: k) with mode := .returning }
  obtain ⟨w', g1, g2⟩ := hr_leave (P := P) (fr := fr) (cs := cs) a.defers S w a'.defers h2 h3.defers hd
  obtain ⟨v', g3, g4⟩ := hres β w' a' g1 h3
  rw [hro]
  refine ⟨β, v, _, v', w', .refl β, hR, g4, g1, { fr with defers := [] }, (Steps.head (stepR_ret hro) (g2 rfl)), h4, rfl, rfl, h5, fn, ?_, g3⟩
  show P.funcs[b.fn]? = some fn
  rw [h4]; exact hf
theorem hr_end {fn : Func} {v : HV} (hf : P.funcs[f]? = some fn) (hres : ResOk P base W0 fn a (S.kills a.defers) v) (hd : Defers S a.defers) (hR : R v (S.kills a.defers)) :
    HRun P base W0 β0 f none [] a S R := by
  intro β w a' h1 h2 h3 b cs h4 h5 h6 h7
  have hro : b.roundOf = none := by
    cases hb : b.roundOf with
    | none => rfl
    | some x => rw [hb] at h6; exact h6.elim
  let fr : Frame := { b.atR a' [] with mode := .returning }
  obtain ⟨w', g1, g2⟩ := hr_leave (P := P) (fr := fr) (cs := cs) a.defers S w a'.defers h2 h3.defers hd
  obtain ⟨v', g3, g4⟩ := hres β w' a' g1 h3
  rw [hro]
  refine ⟨β, v, _, v', w', .refl β, hR, g4, g1, { fr with defers := [] }, (Steps.head (stepR_end hro) (g2 rfl)), h4, rfl, rfl, h5, fn, ?_, g3⟩
  show P.funcs[b.fn]? = some fn
  rw [h4]; exact hf

theorem res0 {fn : Func} (h : fn.results = #[]) : ResOk P base W0 fn a S (.tup []) :=
  fun β w a' _ _ => ⟨.tuple #[], by simp [results, h], VRel.undef β⟩
theorem res1 {fn : Func} {t : Tmp} {v : HV} (h : fn.results = #[.tmp t]) (hv : a.tmps[t]? = some v) : ResOk P base W0 fn a S v := by
  intro β w a' _ h3
  obtain ⟨v', g1, g2⟩ := h3.tmps.get hv
  exact ⟨v', by simp [results, h, Array.getD_eq_getD_getElem?, g1], g2⟩
theorem res2 {fn : Func} {t u : Tmp} {v x : HV} (h : fn.results = #[.tmp t, .tmp u]) (hv : a.tmps[t]? = some v) (hx : a.tmps[u]? = some x) : ResOk P base W0 fn a S (.tup [v, x]) := by
  intro β w a' _ h3
  obtain ⟨v', g1, g2⟩ := h3.tmps.get hv
  obtain ⟨x', g3, g4⟩ := h3.tmps.get hx
  exact ⟨.tuple #[v', x'], by simp [results, h, Array.getD_eq_getD_getElem?, g1, g3], VRels.tup (VRels.cons g2 (VRels.cons g4 (VRels.nil β)))⟩
theorem res3 {fn : Func} {t u s : Tmp} {v x y : HV} (h : fn.results = #[.tmp t, .tmp u, .tmp s]) (hv : a.tmps[t]? = some v) (hx : a.tmps[u]? = some x) (hy : a.tmps[s]? = some y) : ResOk P base W0 fn a S (.tup [v, x, y]) := by
  intro β w a' _ h3
  obtain ⟨v', g1, g2⟩ := h3.tmps.get hv
  obtain ⟨x', g3, g4⟩ := h3.tmps.get hx
  obtain ⟨y', g5, g6⟩ := h3.tmps.get hy
  exact ⟨.tuple #[v', x', y'], by simp [results, h, Array.getD_eq_getD_getElem?, g1, g3, g5], VRels.tup (VRels.cons g2 (VRels.cons g4 (VRels.cons g6 (VRels.nil β))))⟩
theorem res4 {fn : Func} {t u s r : Tmp} {v x y z : HV} (h : fn.results = #[.tmp t, .tmp u, .tmp s, .tmp r]) (hv : a.tmps[t]? = some v) (hx : a.tmps[u]? = some x) (hy : a.tmps[s]? = some y) (hz : a.tmps[r]? = some z) : ResOk P base W0 fn a S (.tup [v, x, y, z]) := by
  intro β w a' _ h3
  obtain ⟨v', g1, g2⟩ := h3.tmps.get hv
  obtain ⟨x', g3, g4⟩ := h3.tmps.get hx
  obtain ⟨y', g5, g6⟩ := h3.tmps.get hy
  obtain ⟨z', g7, g8⟩ := h3.tmps.get hz
  exact ⟨.tuple #[v', x', y', z'], by simp [results, h, Array.getD_eq_getD_getElem?, g1, g3, g5, g7], VRels.tup (VRels.cons g2 (VRels.cons g4 (VRels.cons g6 (VRels.cons g8 (VRels.nil β)))))⟩
end
end Go.Proofs.YtcphapfclncggaaDoor.HL
