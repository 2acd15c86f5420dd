/- The layer HL, part 3: ranges over functions: the statement, the rounds; the tables of functions. -/
import Derived.Test.YtcphapfclncggaaDoorHLb
namespace Go.Proofs.YtcphapfclncggaaDoor.HL
open Go.RowKit (Below)
section
variable {P : Program} {base : Nat} {W0 : World} {β0 : Bt} {f : FuncId} {ro : Option Nat} {k : List Item} {a : HAct} {S : HS} {R : HV → HS → Prop}

theorem eval_const (a : Act) (v : Value) : a.eval (.const v) = v := rfl

/-- The record of a loop: what it was made of. -/
def LoopAt (β : Bt) (l : Nat) (f : FuncId) (a : HAct) (ps : Array Tmp) (assign body : Code) : Prop :=
  ∃ b L, β l = .loop b L ∧ L.fn = f ∧ L.params = ps ∧ L.assign = assign ∧ L.body = body ∧ VRels β a.tmps L.tmps
theorem LoopAt.mono {β β' : Bt} (hb : Le β β') {l : Nat} {ps : Array Tmp} {assign body : Code} (h : LoopAt β l f a ps assign body) : LoopAt β' l f a ps assign body :=
  let ⟨b, L, h1, h2, h3, h4, h5, h6⟩ := h
  ⟨b, L, hb.eq h1 (by simp), h2, h3, h4, h5, h6.mono hb⟩

/-- A new block for a new object. -/
theorem Rel.allocM {β : Bt} {w : World} (h : Rel base W0 β S w) (o' : Obj) (o : HObj) (m : Nat) (t : Tgt) (ht : t.block = some w.heap.size)
    (ho : ∀ β', Le β β' → β' S.next = t → ObjRel base β' { w with heap := w.heap.push o' } S.next m o) :
    ∃ β', Le β β' ∧ β' S.next = t ∧ Rel base W0 β' (S.newM o m) { w with heap := w.heap.push o' } := by
  let β' : Bt := fun i => if i = S.next then t else β i
  have hle : Le β β' := fun i hi => by
    have : i ≠ S.next := fun e => hi (by rw [e]; exact (h.fresh S.next (Nat.le_refl _)).1)
    simp [β', this]
  have hat : β' S.next = t := by simp [β']
  have hoth : ∀ i, i ≠ S.next → β' i = β i := fun i hi => by simp [β', hi]
  have hget : ∀ j, j < w.heap.size → (w.heap.push o')[j]? = w.heap[j]? := fun j hj => by
    rw [Array.getElem?_push, if_neg (by omega)]
  have hltβ : ∀ i b, (β i).block = some b → b < w.heap.size := h.lt
  refine ⟨β', hle, hat, h.below.trans ⟨rfl, rfl, rfl, by simp, fun j hj => hget j (Nat.lt_of_lt_of_le hj h.size)⟩, by simpa using Nat.le_succ_of_le h.size, fun i hi => ?_, fun i b hb => ?_, fun i => ?_, fun i j b hij h1 h2 h3 => ?_⟩
  · simp only [HS.newM] at hi ⊢
    have hf := h.fresh i (by omega)
    rw [hoth i (by omega), if_neg (by omega)]
    exact hf
  · by_cases e : i = S.next
    · rw [e, hat, ht] at hb; cases hb; simp
    · rw [hoth i e] at hb; have := h.lt i b hb; simp; omega
  · by_cases e : i = S.next
    · subst e
      simp only [HS.newM, if_true]
      exact ho β' hle hat
    · simp only [HS.newM, if_neg e]
      have h1 := h.objs i
      cases hS : S.heap i with
      | dead => trivial
      | cells z rows own =>
        rw [hS] at h1
        obtain ⟨b1, o1, tot, arr, ty, fr, q1, q2, q3, q4, q5, q6, q7⟩ := h1
        exact ⟨b1, o1, tot, arr, ty, fr, (hoth i e).trans q1, (hget b1 (hltβ i b1 (by rw [q1]; rfl))).trans q2, q3, q4, q5, q6.mono hle, q7⟩
      | map es =>
        rw [hS] at h1
        obtain ⟨b1, es', clk, q1, q2, q3, q4⟩ := h1
        exact ⟨b1, es', clk, (hoth i e).trans q1, q2, (hget b1 (hltβ i b1 (by rw [q1]; rfl))).trans q3, q4.mono hle⟩
      | loop st pend =>
        rw [hS] at h1
        obtain ⟨b1, L, q1, q2, q3⟩ := h1
        exact ⟨b1, L, (hoth i e).trans q1, q2, (hget b1 (hltβ i b1 (by rw [q1]; rfl))).trans q3⟩
      | defer =>
        rw [hS] at h1
        obtain ⟨b1, q1, q2, q3⟩ := h1
        exact ⟨b1, (hoth i e).trans q1, q2, (hget b1 (hltβ i b1 (by rw [q1]; rfl))).trans q3⟩
  · have hnew : (S.heap S.next) = .dead := (h.fresh S.next (Nat.le_refl _)).2
    by_cases e1 : i = S.next
    · subst e1
      rw [hat, ht] at h3; cases h3
      intro h4
      rw [hoth j (fun e => hij e.symm)] at h4
      exact Nat.lt_irrefl _ (h.lt j _ h4)
    · rw [hoth i e1] at h3
      by_cases e2 : j = S.next
      · subst e2
        rw [hat, ht]
        intro h4
        cases h4
        exact Nat.lt_irrefl _ (h.lt i _ h3)
      · rw [hoth j e2]
        simp only [HS.newM, if_neg e1] at h1
        simp only [HS.newM, if_neg e2] at h2
        exact h.disj i j b hij h1 h2 h3

theorem Rel.alloc {β : Bt} {w : World} (h : Rel base W0 β S w) (o' : Obj) (o : HObj) (t : Tgt) (ht : t.block = some w.heap.size)
    (ho : ∀ β', Le β β' → β' S.next = t → ObjRel base β' { w with heap := w.heap.push o' } S.next 0 o) :
    ∃ β', Le β β' ∧ β' S.next = t ∧ Rel base W0 β' (S.new o) { w with heap := w.heap.push o' } := h.allocM o' o 0 t ht ho

/-- One step of the machine that changes the heap alone. -/
theorem HRun.turn {k' : List Item} {S1 : HS} (hs : ∀ (β : Bt) (w : World) (b : Frame), Rel base W0 β S w → RoRel β ro b.roundOf → ∃ w1, Rel base W0 β S1 w1 ∧ ∀ (a' : Act) (cs : List Frame), step P (lone (b.atR a' k) cs w) = .next (lone (b.atR a' k') cs w1))
    (h : HRun P base W0 β0 f ro k' a S1 R) : HRun P base W0 β0 f ro k a S R := by
  intro β w a' h1 h2 h3 b cs h4 h5 h6 h7
  obtain ⟨w1, e1, e2⟩ := hs β w b h2 h6
  obtain ⟨β', v, S', v', w', g1, g2, g3, g4, g5⟩ := h β w1 a' h1 e1 h3 b cs h4 h5 h6 h7
  exact ⟨β', v, S', v', w', g1, g2, g3, g4, g5.of_steps (P := P) (.one (e2 a' cs))⟩

theorem Rel.turnLoop {β : Bt} {w : World} (h : Rel base W0 β S w) {l b : Nat} {L : LInfo} {st : LoopState} {pend : Option Code} (hl : S.heap l = .loop st pend) (hb : β l = .loop b L) (st' : LoopState) (pend' : Option Code) :
    w.heap[b]? = some (L.obj st pend) ∧ Rel base W0 β (S.put l (.loop st' pend')) { w with heap := w.heap.setIfInBounds b (L.obj st' pend') } := by
  have h1 := h.objs l
  rw [hl] at h1
  obtain ⟨b1, L1, q1, q2, q3⟩ := h1
  rw [hb] at q1
  cases q1
  refine ⟨q3, h.setObj (by rw [hb]; rfl) q2 (by rw [hl]; rfl) (by rw [hl]; rfl) ⟨b, L, hb, q2, ?_⟩⟩
  rw [Array.getElem?_setIfInBounds, if_pos rfl, if_pos (Array.getElem?_eq_some_iff.1 q3).1]

theorem hr_beginRound {l : Nat} {pend : Option Code} (hl : S.heap l = .loop .ready pend) (h : HRun P base W0 β0 f (some l) k a (S.put l (.loop .busy pend)) R) : HRun P base W0 β0 f (some l) (.beginRound :: k) a S R := by
  refine HRun.turn (fun β w b hR hro => ?_) h
  cases hb : b.roundOf with
  | none => rw [hb] at hro; exact hro.elim
  | some x =>
    rw [hb] at hro
    obtain ⟨L, hL⟩ := hro
    obtain ⟨q1, q2⟩ := hR.turnLoop hl hL .busy pend
    exact ⟨_, q2, fun a' cs => stepR_beginRound hb (by simp [Instr.beginRound, Instr.getLoop, getObj, setObj, Sem.run, q1, LInfo.obj])⟩

theorem HRun.roundEnd {l : Nat} {st : LoopState} {pend : Option Code} {jump : Option Code} (hl : S.heap l = .loop st pend)
    (hs : ∀ (b : Frame) (a' : Act) (c : Frame) (cs : List Frame) (w w' : World) (x : Nat) (v : Value), b.roundOf = some x → b.kind = .normal → (Instr.endRound x jump).run P w = .ok v w' → step P (lone (b.atR a' k) (c :: cs) w) = .next (lone (c.finish v) cs w'))
    (hR : R (.bool jump.isNone) (S.put l (.loop (if jump.isNone then .ready else .done) jump))) : HRun P base W0 β0 f (some l) k a S R := by
  intro β w a' h1 h2 h3 b cs h4 h5 h6 h7
  cases hb : b.roundOf with
  | none => rw [hb] at h6; exact h6.elim
  | some x =>
    rw [hb] at h6
    obtain ⟨L, hL⟩ := h6
    obtain ⟨q1, q2⟩ := h2.turnLoop hl hL (if jump.isNone then .ready else .done) jump
    cases cs with
    | nil => exact absurd rfl (h7 rfl)
    | cons c cs =>
      refine ⟨β, _, _, .bool jump.isNone, _, .refl β, hR, .bool _, q2, c, cs, rfl, .one (hs b a' c cs w _ x _ hb h5 ?_)⟩
      simp [Instr.endRound, Instr.getLoop, getObj, setObj, Sem.run, q1, LInfo.obj]
theorem hr_round_end {l : Nat} {st : LoopState} {pend : Option Code} (hl : S.heap l = .loop st pend) (hR : R (.bool true) (S.put l (.loop .ready none))) : HRun P base W0 β0 f (some l) [] a S R :=
  HRun.roundEnd (jump := none) hl (fun _ _ _ _ _ _ _ _ hb hk hr => stepR_round_end hb hk hr) hR
theorem hr_round_ret {l : Nat} {st : LoopState} {pend : Option Code} (hl : S.heap l = .loop st pend) (hR : R (.bool false) (S.put l (.loop .done (some .ret)))) : HRun P base W0 β0 f (some l) (.code .ret :: k) a S R :=
  HRun.roundEnd (jump := some .ret) hl (fun _ _ _ _ _ _ _ _ hb hk hr => stepR_round_ret hb hk hr) hR
theorem hr_round_exit {l id : Nat} {st : LoopState} {pend : Option Code} (hx : exitTo id k = none) (hl : S.heap l = .loop st pend) (hR : R (.bool false) (S.put l (.loop .done (some (.exit id))))) : HRun P base W0 β0 f (some l) (.code (.exit id) :: k) a S R :=
  HRun.roundEnd (jump := some (.exit id)) hl (fun _ _ _ _ _ _ _ _ hb hk hr => stepR_round_exit hb hk hx hr) hR

/-- The frame of a round: the record's temporaries, the loop's variables among them. -/
def HAct.params (ts : List HV) : List Tmp → List HV → List HV
  | p :: ps, v :: vs => HAct.params (ts.set p v) ps vs
  | _, _ => ts
theorem params_rel {β : Bt} : ∀ (ps : List Tmp) (vs : List HV) (vs' : List Value) (ts : List HV) (ts' : Array Value), VRels β ts ts' → VRels β vs vs'.toArray →
    VRels β (HAct.params ts ps vs) ((ps.zip vs').foldl (fun tmps (t, a) => tmps.setIfInBounds t a) ts') := by
  intro ps
  induction ps with
  | nil => intro vs vs' ts ts' h _; simpa [HAct.params] using h
  | cons p ps ih =>
    intro vs vs' ts ts' h k
    cases vs with
    | nil =>
      obtain rfl : vs' = [] := by have := k.1; cases vs' <;> simp_all
      simpa [HAct.params] using h
    | cons v vs =>
      cases vs' with
      | nil => have := k.1; simp at this
      | cons v' vs' =>
        have hv : VRel β v v' := k.2 0 v v' rfl (by simp)
        have hvs : VRels β vs vs'.toArray := ⟨by have := k.1; simp at this ⊢; exact this, fun i x x' h1 h2 => k.2 (i + 1) x x' (by simpa using h1) (by simpa using h2)⟩
        simpa [HAct.params] using ih vs vs' (ts.set p v) _ (h.set hv p) hvs

/-- A call of yield. -/
theorem HInv.yield {l : Nat} {vs : List HV} {ps : Array Tmp} {assign body : Code} {st : LoopState} {pend : Option Code} (hl : LoopAt β0 l f a ps assign body) (hS : S.heap l = .loop st pend) (hn : vs.length = ps.size)
    (h : HRun P base W0 β0 f (some l) [.code assign, .beginRound, .code body] { tmps := HAct.params a.tmps ps.toList vs, defers := [] } S R) : HInv P base W0 β0 (.fn (.yield l) [] []) vs S R := by
  intro β w fv' vs' h1 h2 h3 h4
  cases h3 with
  | @yld _ b L hb =>
    obtain ⟨b1, L1, q1, q2, q3, q4, q5, q6⟩ := hl.mono h1
    rw [hb] at q1
    cases q1
    have ho := h2.objs l
    rw [hS] at ho
    obtain ⟨b2, L2, r1, r2, r3⟩ := ho
    rw [hb] at r1
    cases r1
    let ts' := (ps.zip vs').foldl (fun tmps (t, a) => tmps.setIfInBounds t a) L.tmps
    have hts : VRels β (HAct.params a.tmps ps.toList vs) ts' := by
      have := params_rel ps.toList vs vs'.toList a.tmps L.tmps q6 (by simpa using h4)
      have e : ts' = ((ps.toList.zip vs'.toList).foldl (fun tmps (t, a) => tmps.setIfInBounds t a) L.tmps) := by
        simp only [ts']
        rw [← Array.foldl_toList, Array.toList_zip]
      rw [e]; exact this
    refine ⟨⟨.fn (.yield b) #[], vs'⟩, .round b f ts' assign body, by simp [Deferred.ofValue], ?_, fun c cs => ⟨_, rfl, ?_⟩⟩
    · have hsz : vs'.size = ps.size := h4.1 ▸ hn
      simp [invoke, Instr.yield, Instr.getLoop, getObj, Sem.run, r3, LInfo.obj, hsz, q2, q4, q5, ts', q3]
    · let fr : Frame := { (default : Frame) with fn := f, kind := .normal, roundOf := some b }
      have he : Frame.round b f ts' assign body .normal = fr.atR { tmps := ts', defers := [] } [.code assign, .beginRound, .code body] := by
        simp [Frame.round, Frame.atR, fr]
      obtain ⟨β', v, S', v', w', g1, g2, g3, g4, g5⟩ := h β w { tmps := ts', defers := [] } h1 h2 ⟨hts, ⟨rfl, fun i d d' h => by simp at h⟩⟩ fr (c :: cs) rfl rfl ⟨L, hb⟩ (by simp)
      obtain ⟨c1, cs1, e1, e2⟩ := g5
      cases e1
      exact ⟨β', v, S', v', w', g1, g2, g3, g4, by rw [he]; exact e2⟩

/-- The pending jump. -/
def jumped (pend : Option Code) (k : List Item) : List Item := (pend.map Item.code).toList ++ k

theorem stepR_range_start {P : Program} {b : Frame} {a : Act} {k : List Item} {cs : List Frame} {w w1 : World} {g : Operand} {ps : Array Tmp} {assign body : Code} {l : Nat} {mark : List Deferred} {d : Deferred} {nx : Next} {m : Machine}
    (he : (Instr.enterLoop b.fn a.tmps ps assign body b.roundOf).run P w = .ok (l, mark) w1)
    (hres : (Deferred.ofValue (a.eval g) #[.func (.yield l) #[] #[]]).run P w1 = .ok d w1) (hinv : (invoke d.target d.args).run P w1 = .ok nx w1)
    (hm : startOf P nx (b.atR { a with defers := mark ++ a.defers } (.inRangeFunc l :: k)) cs w1 = some m) :
    step P (lone (b.atR a (.code (.rangeFunc g ps assign body) :: k)) cs w) = .next m := by
  have hev := Frame.eval_atR b { a with defers := mark ++ a.defers } (.inRangeFunc l :: k)
  simp only [Frame.atR] at hev
  have hres' : Sem.run P (resolve ({ tmps := a.tmps, defers := mark ++ a.defers } : Act).eval { callee := .value g, args := #[.const (.func (.yield l) #[] #[])], argTypes := #[] } 0) w1 = .ok d w1 := by
    have hE : ({ tmps := a.tmps, defers := mark ++ a.defers } : Act).eval = a.eval := funext fun x => by cases x <;> rfl
    rw [hE]
    simpa [resolve, eval_const] using hres
  cases nx with
  | enter fi as =>
    simp only [startOf, Option.some.injEq] at hm
    subst hm
    exact step_lone_go (by simp [stepG, stepG.exec, Frame.atR, Sem.runT_eq, he, GStep.bare_after, stepG.apply, hev, Sem.run_bind, hres', hinv, Result.andThen])
  | round l' fi tmps as bd =>
    simp only [startOf, Option.some.injEq] at hm
    subst hm
    exact step_lone_go (by simp [stepG, stepG.exec, Frame.atR, Sem.runT_eq, he, GStep.bare_after, stepG.apply, hev, Sem.run_bind, hres', hinv, Result.andThen])
  | _ => simp [startOf] at hm

theorem hr_range_step {g : Operand} {ps : Array Tmp} {assign body : Code} {fv : HV} {R1 : HV → HS → Prop} {S1 : HS} {l : Nat} {ds : List Nat}
    (hg : Ev a g fv)
    (henter : ∀ (β : Bt) (w : World) (a' : Act) (x : Option Nat), Rel base W0 β S w → ARel β a a' → RoRel β ro x → ∃ β1 w1 b1 mark D, Le β β1 ∧ Rel base W0 β1 S1 w1 ∧ β1 l = .loop b1 { fn := f, tmps := a'.tmps, params := ps, assign := assign, body := body, defers := D } ∧
      (Instr.enterLoop f a'.tmps ps assign body x).run P w = .ok (b1, mark) w1 ∧ DRel β1 ds (mark ++ a'.defers))
    (hcall : ∀ β1, Le β0 β1 → LoopAt β1 l f a ps assign body → HInv P base W0 β1 fv [.fn (.yield l) [] []] S1 R1)
    (hend : ∀ v S2, R1 v S2 → ∃ st pend, S2.heap l = .loop st pend ∧ st ≠ .busy ∧ HRun P base W0 β0 f ro (jumped pend k) { a with defers := ds } (S2.put l (.loop .exhausted pend)) R) :
    HRun P base W0 β0 f ro (.code (.rangeFunc g ps assign body) :: k) a S R := by
  intro β w a' h1 h2 h3 b cs h4 h5 h6 h7
  obtain ⟨β1, w1, b1, mark, D, e1, e2, e3, e4, e5⟩ := henter β w a' b.roundOf h2 h3 h6
  have hLA : LoopAt β1 l f a ps assign body := ⟨b1, _, e3, rfl, rfl, rfl, rfl, h3.tmps.mono e1⟩
  obtain ⟨d, nx, n1, n2, n3⟩ := hcall β1 (h1.trans e1) hLA β1 w1 (a'.eval g) #[.func (.yield b1) #[] #[]] (.refl β1) e2 ((hg.rel h3).mono e1) (VRels.cons (.yld e3) (VRels.nil β1))
  obtain ⟨m, hm, β2, v, S2, v', w2, g1, g2, g3, g4, g5⟩ := n3 (b.atR { a' with defers := mark ++ a'.defers } (.inRangeFunc b1 :: k)) cs
  obtain ⟨st, pend, r1, r2, r3⟩ := hend v S2 g2
  have henter' := stepR_range_start (P := P) (b := b) (a := a') (k := k) (cs := cs) (w := w) (g := g) (ps := ps) (assign := assign) (body := body) (l := b1) (mark := mark) (w1 := w1) (d := d) (nx := nx) (m := m)
    (by rw [h4]; exact e4) n1 n2 hm
  rw [finish_atR_inRangeFunc] at g5
  obtain ⟨q1, q2⟩ := g4.turnLoop r1 (g1.eq e3 (by simp)) .exhausted pend
  have hendl := stepR_endRangeFunc (P := P) (b := b) (a := { a' with defers := mark ++ a'.defers }) (k := k) (cs := cs) (w := w2) (l := b1) (jump := pend)
    (w' := _) (by
      show (Instr.endLoop b1).run P w2 = .ok pend { w2 with heap := w2.heap.setIfInBounds b1 (LInfo.obj { fn := f, tmps := a'.tmps, params := ps, assign := assign, body := body, defers := D } .exhausted pend) }
      simp [Instr.endLoop, Instr.getLoop, getObj, setObj, Sem.run, q1, LInfo.obj, r2])
  obtain ⟨β3, v3, S3, v3', w3, t1, t2, t3, t4, t5⟩ := r3 β2 _ { a' with defers := mark ++ a'.defers } (h1.trans (e1.trans g1)) q2 ⟨h3.tmps.mono (e1.trans g1), e5.mono g1⟩ b cs h4 h5 (h6.mono (e1.trans g1)) h7
  exact ⟨β3, v3, S3, v3', w3, e1.trans (g1.trans t1), t2, t3, t4, t5.of_steps (P := P) (.head henter' (g5.trans (.one hendl)))⟩
end
end Go.Proofs.YtcphapfclncggaaDoor.HL
