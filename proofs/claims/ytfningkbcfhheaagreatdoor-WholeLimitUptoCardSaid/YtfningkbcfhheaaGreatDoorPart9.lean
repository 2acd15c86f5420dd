/- The layer HI, part 10: calls that are put off till the function's end. The layer HI, part 12: what is made early, in reserved places. The layer HI, part 13: statements of open order in which something new is made beside a call. The layer HI, part 14: the order that a statement draws, makers among its operations (after HLo's draw_go2). The layer HI, part 15: a statement of open order, makers among its operations: from its start to its end. -/
import Derived.Test.YtfningkbcfhheaaGreatDoorPart8
import Derived.Defers
import Derived.Test.YtfningkbcfhheaaGreatDoorPart3
set_option linter.unusedVariables false
set_option linter.unusedSimpArgs false
namespace Go.Proofs.YtfningkbcfhheaaGreatDoor.HL
set_option linter.unusedVariables false
section
variable {P : Program} {base : Nat} {W0 : Env} {β0 : Bt} {f : FuncId} {ro : Option Nat} {a : HAct} {S : HS} {k : List Item} {R : HV → HS → Prop}
theorem Rel.note {β : Bt} {w : World} (h : Rel base W0 β S w) (t : Tgt) (ht : t.block = none) (o : HObj) (m : Nat) (ho : ∀ β',Le β β' → β' S.next = t → ObjRel base W0 β' w S.next m o) :
  ∃ β',Le β β' ∧ β' S.next = t ∧ Rel base W0 β' (S.newM o m) w := by
 let β' : Bt := fun i => if i = S.next then t else β i
 have hle : Le β β' := fun i hi => by
  have : i ≠ S.next := fun e => hi (by rw [e]; exact (h.fresh S.next (Nat.le_refl _)).1)
  simp [β',this]
 have hat : β' S.next = t := by simp [β']
 have hoth : ∀ i,i ≠ S.next → β' i = β i := fun i hi => by simp [β',hi]
 refine ⟨β',hle,hat,h.below,h.size,fun i hi => ?_,fun i b hb => ?_,fun i => ?_,fun i j b hij h1 h2 h3 => ?_⟩
 ·simp only [HS.newM] at hi ⊢
  have hf := h.fresh i (by omega)
  rw [hoth i (by omega),if_neg (by omega)]
  exact hf
 ·by_cases e : i = S.next
  ·rw [e,hat,ht] at hb; cases hb
  ·rw [hoth i e] at hb; exact h.lt i b hb
 ·by_cases e : i = S.next
  ·subst e
   simp only [HS.newM,if_true]
   exact ho β' hle hat
  ·simp only [HS.newM,if_neg e]
   have h1 := h.objs i
   cases hS : S.heap i with
   | dead => trivial
   | cells z rows own =>
    rw [hS] at h1
    obtain ⟨b1,o1,tot,arr,ty,fr,q1,q2,q3,q4,q5,q6,q7⟩ := h1
    exact ⟨b1,o1,tot,arr,ty,fr,(hoth i e).trans q1,q2,q3,q4,q5,q6.mono hle,q7⟩
   | map es =>
    rw [hS] at h1
    obtain ⟨b1,es',clk,q1,q2,q3,q4⟩ := h1
    exact ⟨b1,es',clk,(hoth i e).trans q1,q2,q3,q4.mono hle⟩
   | loop st pend =>
    rw [hS] at h1
    obtain ⟨b1,L,q1,q2⟩ := h1
    exact ⟨b1,L,(hoth i e).trans q1,q2⟩
   | defer =>
    rw [hS] at h1
    obtain ⟨b1,q1,q2⟩ := h1
    exact ⟨b1,(hoth i e).trans q1,q2⟩
   | call g vs =>
    rw [hS] at h1
    obtain ⟨args',q1,q2⟩ := h1
    exact ⟨args',(hoth i e).trans q1,q2.mono hle⟩
   | opq => rw [hS] at h1; exact W0.stable _ _ _ _ _ h1 hle (hoth i e) fun _ _ => rfl
 ·have hi : i ≠ S.next := fun e => by rw [e,hat,ht] at h3; cases h3
  rw [hoth i hi] at h3
  by_cases e2 : j = S.next
  ·subst e2; rw [hat,ht]; intro h4; cases h4
  ·rw [hoth j e2]
   simp only [HS.newM,if_neg hi] at h1
   simp only [HS.newM,if_neg e2] at h2
   exact h.disj i j b hij h1 h2 h3
theorem hr_defer {ops : Array Oper} {i : Nat} {rest : List Nat} {o : Oper} {g : FuncId} {xs : Array Operand} {tys : Array TypeId} {vs : List HV}
  (ho : ops[i]? = some o) (hg : o.guard = none) (hdst : o.dst = none) (hc : o.op = .defer ⟨.value (.func g),xs,tys⟩) (hxs : Evs a xs vs)
  (h : HRun P base W0 β0 f none (.inRegion ops rest :: k) { a with defers := S.next :: a.defers } (S.new (.call g vs)) R) : HRun P base W0 β0 f none (.inRegion ops (i :: rest) :: k) a S R := by
 intro β w a' h1 h2 h3 b cs h4 h5 h6 h7
 have hro : b.roundOf = none := by
  cases hb : b.roundOf with
  | none => rfl
  | some x => rw [hb] at h6; exact h6.elim
 let d : Deferred := { target := .fn (.func g) #[],args := xs.map a'.eval }
 obtain ⟨β1,e1,e2,e3⟩ := h2.note (.dcall d) rfl (.call g vs) 0 fun β' hb hn => ⟨xs.map a'.eval,hn,(hxs.rel h3).mono hb⟩
 have hd : DRel β1 (S.next :: a.defers) (d :: a'.defers) := by
  refine ⟨by simp [h3.defers.1],fun j x x' q1 q2 => ?_⟩
  cases j with
  | zero => simp at q1 q2; subst q1; subst q2; exact .inr e2
  | succ j => exact (h3.defers.mono e1).2 j x x' (by simpa using q1) (by simpa using q2)
 obtain ⟨β',v2,S2,v',w',g1,g2,g3,g4,g5⟩ := h β1 w { a' with defers := d :: a'.defers } (h1.trans e1) e3 ⟨h3.tmps.mono e1,hd⟩ b cs h4 h5 (h6.mono e1) h7
 refine ⟨β',v2,S2,v',w',e1.trans g1,g2,g3,g4,g5.of_steps (P := P) (.one ?_)⟩
 have hw : Region.wanted o (yielded ops a'.tmps) = true := by simp [Region.wanted,hg]
 refine step_lone_go ?_
 rw [stepGR_op ho hw,hro,Oper.semAt_none]
 have hx : (execOp a'.eval o).run P w = .ok (.defer d) w := by
  simp [execOp,hc,resolve,Act.eval,Deferred.ofValue,d]
 have hfin : ({ b.atR a' (.inRegion ops (i :: rest) :: k) with defers := d :: a'.defers } : Frame).finish undef = b.atR { a' with defers := d :: a'.defers } (.inRegion ops rest :: k) := by
  have := Frame.finish_atR b { a' with defers := d :: a'.defers } ops i rest k undef
  rw [ho] at this
  simp only [Option.bind_some,hdst] at this
  exact this
 rw [← hfin]
 simp [stepG.apply,Sem.runT_eq,hx,GStep.bare_after,Frame.atR]
def HLeave (P : Program) (base : Nat) (W0 : Env) (β0 : Bt) (ds : List Nat) (S : HS) (R : HS → Prop) : Prop :=
 ∀ (β : Bt) (w : World) (ds' : List Deferred),Le β0 β → Rel base W0 β S w → DRel β ds ds' → ∀ (fr : Frame) (cs : List Frame),fr.mode = .returning →
  ∃ (β' : Bt) (S' : HS) (w' : World),Le β β' ∧ R S' ∧ Rel base W0 β' S' w' ∧ Steps P (lone { fr with defers := ds' } cs w) (lone { fr with defers := [] } cs w')
theorem HLeave.nil {R : HS → Prop} (h : R S) : HLeave P base W0 β0 [] S R := by
 intro β w ds' h1 h2 h3 fr cs hm
 obtain rfl : ds' = [] := by have := h3.1; cases ds' <;> simp_all
 exact ⟨β,S,w,.refl β,h,h2,.refl P _⟩
theorem DRel.tail {β : Bt} {d : Nat} {ds : List Nat} {d' : Deferred} {ds' : List Deferred} (h : DRel β (d :: ds) (d' :: ds')) : DRel β ds ds' :=
 ⟨by have := h.1; simpa using this,fun i x x' h1 h2 => h.2 (i + 1) x x' (by simpa using h1) (by simpa using h2)⟩
theorem HLeave.mark {R : HS → Prop} {d : Nat} {ds : List Nat} (hd : S.heap d = .defer) (h : HLeave P base W0 β0 ds (S.put d .dead) R) : HLeave P base W0 β0 (d :: ds) S R := by
 intro β w ds' h1 h2 h3 fr cs hm
 cases ds' with
 | nil => have := h3.1; simp at this
 | cons d' ds' =>
  have ho := h2.objs d
  rw [hd] at ho
  obtain ⟨b1,q1,q2,q3⟩ := ho
  obtain ⟨b,hb,hb'⟩ : ∃ b,β d = .obj b ∧ d'.target = .collected b := (h3.2 0 d d' rfl rfl).elim id (fun g => by rw [q1] at g; cases g)
  rw [hb] at q1
  obtain rfl : b = b1 := by cases q1; rfl
  have hR := h2.setObj (id := d) (b := b) (o := .dead) (o' := .deferred none) (by rw [hb]; rfl) q2 (by rw [hd]; rfl) (by rw [hd]; rfl) trivial
  obtain ⟨β',S',w',g1,g2,g3,g4⟩ := h β _ ds' h1 hR h3.tail fr cs hm
  refine ⟨β',S',w',g1,g2,g3,.head (step_collected (r := b) (calls := []) (by show fr.mode ≠ .run; rw [hm]; simp) rfl hb' ?_) g4⟩
  simp [Instr.takeDeferred,getObj,setObj,Sem.run,q3]
theorem HLeave.call {R : HS → Prop} {d : Nat} {ds : List Nat} {g : FuncId} {vs : List HV} {fn : Func} {c : Code} {R1 : HV → HS → Prop} (hd : S.heap d = .call g vs) (hf : FnAt P g fn) (hb : fn.body = some c)
  (hc : ∀ β1,Le β0 β1 → HCallA P base W0 β1 g vs S R1) (h : ∀ v S1,R1 v S1 → HLeave P base W0 β0 ds S1 R) : HLeave P base W0 β0 (d :: ds) S R := by
 intro β w ds' h1 h2 h3 fr cs hm
 cases ds' with
 | nil => have := h3.1; simp at this
 | cons d' ds' =>
  have ho := h2.objs d
  rw [hd] at ho
  obtain ⟨args',q1,q2⟩ := ho
  obtain rfl : d' = { target := .fn (.func g) #[],args := args' } := by
   rcases h3.2 0 d d' rfl rfl with ⟨b,e1,e2⟩ | e
   ·rw [q1] at e1; cases e1
   ·rw [q1] at e; cases e; rfl
  have hn := beq_eq_false_iff_ne.1 hf.name
  have hi : (invoke (.fn (.func g) #[]) args').run P w = .ok (.enter g args') w := by simp [invoke,callFunc,hf.at_,hb,hn]
  obtain ⟨β1,v,S1,v',w1,fx,e1,e2,e3,e4,e5,e6,e7,e8⟩ := hc β h1 β w args' (.refl β) h2 q2 .deferred ({ fr with defers := ds' } :: cs)
  have s1 := step_defer (P := P) (fr := { fr with defers := { target := .fn (.func g) #[],args := args' } :: ds' }) (cs := cs) (w := w) (by show fr.mode ≠ .run; rw [hm]; simp) rfl rfl hi
  have s2 := step_going_returned (P := P) (c := { fr with defers := ds' }) (cs := cs) e7 e8
  have hset : settle fr.mode = fr.mode := by rw [hm]; rfl
  obtain ⟨β',S',w',g1,g2,g3,g4⟩ := h v S1 e2 β1 w1 ds' (h1.trans e1) e4 (h3.tail.mono e1) fr cs hm
  refine ⟨β',S',w',e1.trans g1,g2,g3,.head s1 (e5.trans (.head s2 ?_))⟩
  show Steps P (lone { { fr with defers := ds' } with mode := settle fr.mode } cs w1) _
  rw [hset]
  exact g4
theorem hr_retD {fn : Func} (hf : P.funcs[f]? = some fn) (hl : HLeave P base W0 β0 a.defers S fun S' => ∃ v,ResOk P base W0 fn a S' v ∧ R v S') : HRun P base W0 β0 f none (.code .ret :: k) a S R := by
 intro β w a' h1 h2 h3 b cs h4 h5 h6 h7
 have hro : b.roundOf = none := by
  cases hb : b.roundOf with
  | none => rfl
  | some x => rw [hb] at h6; exact h6.elim
 let fr : Frame := { b.atR a' (.code .ret :: k) with mode := .returning }
 obtain ⟨β1,S1,w1,g1,⟨v,hres,hR⟩,g3,g4⟩ := hl β w a'.defers h1 h2 h3.defers fr cs rfl
 obtain ⟨v',g5,g6⟩ := hres β1 w1 a' g3 (h3.mono g1)
 rw [hro]
 exact ⟨β1,v,_,v',w1,g1,hR,g6,g3,{ fr with defers := [] },(Steps.head (stepR_ret hro) g4),h4,rfl,rfl,rfl,fn,by rw [show ({ fr with defers := [] } : Frame).fn = f from h4]; exact hf,g5⟩
theorem hr_endD {fn : Func} (hf : P.funcs[f]? = some fn) (hl : HLeave P base W0 β0 a.defers S fun S' => ∃ v,ResOk P base W0 fn a S' v ∧ R v S') : HRun P base W0 β0 f none [] a S R := by
 intro β w a' h1 h2 h3 b cs h4 h5 h6 h7
 have hro : b.roundOf = none := by
  cases hb : b.roundOf with
  | none => rfl
  | some x => rw [hb] at h6; exact h6.elim
 let fr : Frame := { b.atR a' [] with mode := .returning }
 obtain ⟨β1,S1,w1,g1,⟨v,hres,hR⟩,g3,g4⟩ := hl β w a'.defers h1 h2 h3.defers fr cs rfl
 obtain ⟨v',g5,g6⟩ := hres β1 w1 a' g3 (h3.mono g1)
 rw [hro]
 exact ⟨β1,v,_,v',w1,g1,hR,g6,g3,{ fr with defers := [] },(Steps.head (stepR_end hro) g4),h4,rfl,rfl,rfl,fn,by rw [show ({ fr with defers := [] } : Frame).fn = f from h4]; exact hf,g5⟩
end
section
variable {P : Program} {base : Nat} {W0 E E' : Env} {β0 β β' : Bt} {S T : HS} {w w1 : World}
def HV.idFree : HV → Bool
 | .bool _ => true
 | .int _ _ => true
 | .str _ => true
 | .ptr none => true
 | .sl none _ _ => true
 | .map none => true
 | .nilFn => true
 | .nilIf => true
 | _ => false
theorem VRel.free {v : HV} {v' : Value} (hv : v.idFree = true) (h : VRel β v v') : VRel β' v v' := by
 cases h <;> simp only [HV.idFree,Bool.false_eq_true] at hv
 case bool b => exact .bool b
 case int k n => exact .int k n
 case str s => exact .str s
 case ptrNil => exact .ptrNil
 case slNil c => exact .slNil c
 case mapNil => exact .mapNil
 case nilFn => exact .nilFn
 case nilIf => exact .nilIf
def goodOb (ob : HObj) : Bool :=
 match ob with
 | .cells _ rows true => rows.all fun r => r.all HV.idFree
 | .map [] => true
 | _ => false
def AliveP (base a : Nat) (ob : HObj) (β : Bt) (hp : Array Obj) : Prop :=
 match ob with
 | .cells z rows true => ∃ b o tot arr t fr,β a = .mem b o z rows.length tot ∧ hp[b]? = some (.cells arr t fr) ∧ arr.size = tot ∧ o + rows.length * z ≤ tot ∧ 0 < z ∧ RowsRel β rows arr o z ∧
   base ≤ b ∧ (∀ i,i < tot → ¬ (fr.1 ≤ i ∧ i < fr.2)) ∧ (∀ v' ∈ arr.toList,v'.oneCell' = true)
 | .map [] => ∃ b es' clk,β a = .obj b ∧ base ≤ b ∧ hp[b]? = some (.map es' clk) ∧ EntRel β [] es'
 | _ => False
theorem AliveP.stable {a : Nat} {ob : HObj} {hp hp' : Array Obj} (h : AliveP base a ob β hp) (hb : Le β β') (ha : β' a = β a) (hk : ∀ b,(β a).block = some b → hp'[b]? = hp[b]?) : AliveP base a ob β' hp' := by
 unfold AliveP at h ⊢
 split at h
 ·obtain ⟨b,o,tot,arr,t,fr,q1,q2,q3,q4,q5,q6,q7⟩ := h
  exact ⟨b,o,tot,arr,t,fr,ha.trans q1,(hk b (by rw [q1]; rfl)).trans q2,q3,q4,q5,q6.mono hb,q7⟩
 ·obtain ⟨b,es',clk,q1,q2,q3,q4⟩ := h
  exact ⟨b,es',clk,ha.trans q1,q2,(hk b (by rw [q1]; rfl)).trans q3,q4.mono hb⟩
 ·exact h.elim
theorem AliveP.down {a : Nat} {ob : HObj} {hp hp' : Array Obj} (h0 : AliveP base a ob β hp) (h1 : AliveP base a ob β' hp') (hb : Le β β') : AliveP base a ob β hp' := by
 unfold AliveP at h0 h1 ⊢
 split at h0
 ·obtain ⟨b0,o0,tot0,arr0,t0,fr0,p1,p2,p3,p4,p5,p6,p7⟩ := h0
  obtain ⟨b,o,tot,arr,t,fr,q1,q2,q3,q4,q5,q6,q7⟩ := h1
  rw [hb.eq p1 (by simp)] at q1
  cases q1
  exact ⟨_,_,_,arr,t,fr,p1,q2,q3,q4,q5,RowsRel.down hb p6 q6,q7⟩
 ·obtain ⟨b0,es0,clk0,p1,p2,p3,p4⟩ := h0
  obtain ⟨b,es',clk,q1,q2,q3,q4⟩ := h1
  rw [hb.eq p1 (by simp)] at q1
  cases q1
  exact ⟨_,es',clk,p1,q2,q3,EntRel.down hb p4 q4⟩
 ·exact h0.elim
def Env.ext (W0 : Env) (base : Nat) (st : Nat → Option (Option HObj)) : Env where
 w0 := W0.w0
 phi id β hp := match st id with
  | none => W0.phi id β hp
  | some none => β id = .none
  | some (some ob) => AliveP base id ob β hp
 stable id β β' w w' h hb he hk := by
  split at h <;> rename_i q
  ·exact W0.stable id β β' w w' h hb he hk
  ·exact he.trans h
  ·exact h.stable hb he hk
 down id β β' w w' h h' hb := by
  split at h <;> rename_i q
  ·rw [q] at h'; exact W0.down id β β' w w' h h' hb
  ·exact h
  ·rw [q] at h'; exact h.down h' hb
theorem Rel.env (h : Rel base E β S w) (hw : E'.w0 = E.w0) (hp : ∀ id,S.heap id = .opq → E.phi id β w.heap → E'.phi id β w.heap) : Rel base E' β S w := by
 refine ⟨hw ▸ h.below,h.size,h.fresh,h.lt,fun i => ?_,h.disj⟩
 have h1 := h.objs i
 cases hS : S.heap i <;> rw [hS] at h1
 case opq => exact hp i hS h1
 all_goals exact h1
theorem Rel.resv {m : Nat} (h : Rel base E β S w) (hp : E.phi S.next β w.heap) : Rel base E β (S.newM .opq m) w := by
 have hn := (h.fresh S.next (Nat.le_refl _)).1
 refine ⟨h.below,h.size,fun i hi => ?_,h.lt,fun i => ?_,fun i j b hij h1 h2 h3 => ?_⟩
 ·simp only [HS.newM] at hi ⊢
  rw [if_neg (by omega)]
  exact h.fresh i (by omega)
 ·simp only [HS.newM]
  by_cases e : i = S.next
  ·subst e; rw [if_pos rfl,if_pos rfl]; exact hp
  ·rw [if_neg e,if_neg e]; exact h.objs i
 ·have hi : i ≠ S.next := fun e => by rw [e,hn] at h3; cases h3
  by_cases e2 : j = S.next
  ·subst e2; rw [hn]; intro h4; cases h4
  ·simp only [HS.newM,if_neg hi] at h1
   simp only [HS.newM,if_neg e2] at h2
   exact h.disj i j b hij h1 h2 h3
theorem own_alive {o : HObj} (h : o.own = true) : o.alive = true := by cases o <;> first | rfl | exact h
theorem Rel.make {β1 : Bt} {ob : HObj} {m a : Nat} (h0 : Rel base E β T w) (h1 : Rel base E β1 (T.newM ob m) w1) (hb : Le β β1) (ha : β a = .none) (hT : T.heap a = .opq) (hg : goodOb ob = true) (hE : E'.w0 = E.w0)
  (ho : ∀ id,id ≠ a → T.heap id = .opq → ∀ β hp,E.phi id β hp → E'.phi id β hp) (hm : ∀ β hp,AliveP base a ob β hp → E'.phi a β hp) :
  ∃ β2,Le β β2 ∧ β2 a = β1 T.next ∧ Rel base E' β2 T w1 := by
 have h2 : Rel base E β T w1 := h0.forget h1 hb (Ext.newM _ _ _)
 have hlt : ∀ i,(T.heap i).alive = true → i < T.next := fun i hi => Nat.lt_of_not_le fun hn => by rw [(h0.fresh i hn).2] at hi; cases hi
 have han : a < T.next := hlt a (by rw [hT]; rfl)
 have hown : ob.own = true := by
  unfold goodOb at hg
  split at hg
  ·rfl
  ·rfl
  ·cases hg
 have hn : (T.newM ob m).heap T.next = ob := by simp [HS.newM]
 have hold : ∀ i,i < T.next → (T.newM ob m).heap i = T.heap i := fun i hi => by simp [HS.newM,show i ≠ T.next by omega]
 have hat : ∀ j b,(β j).block = some b → β1 j = β j := fun j b hj => hb j fun e => by rw [e] at hj; cases hj
 let β2 : Bt := fun i => if i = a then β1 T.next else β i
 have ha2 : β2 a = β1 T.next := by simp [β2]
 have hne : ∀ i,i ≠ a → β2 i = β i := fun i hi => by simp [β2,hi]
 have hle : Le β β2 := fun i hi => hne i fun e => hi (by rw [e]; exact ha)
 refine ⟨β2,hle,ha2,hE ▸ h2.below,h2.size,fun i hi => ?_,fun i b hi => ?_,fun i => ?_,fun i j b hij q1 q2 q3 => ?_⟩
 ·rw [hne i (by omega)]; exact h2.fresh i hi
 ·by_cases e : i = a
  ·rw [e,ha2] at hi; exact h1.lt _ _ hi
  ·rw [hne i e] at hi; exact h2.lt _ _ hi
 ·by_cases e : i = a
  ·subst e
   rw [hT]
   refine hm _ _ ?_
   have hob := h1.objs T.next
   rw [hn] at hob
   unfold goodOb at hg
   unfold AliveP
   split at hg
   ·rename_i z rows
    obtain ⟨b,o,tot,arr,t,fr,g1,g2,g3,g4,g5,g6,g7⟩ := hob
    refine ⟨b,o,tot,arr,t,fr,ha2.trans g1,g2,g3,g4,g5,fun k row hk => ⟨(g6 k row hk).1,fun j v hv => ?_⟩,(g7 rfl).1,(g7 rfl).2.1,(g7 rfl).2.2.1⟩
    obtain ⟨k1,v',k2,k3⟩ := (g6 k row hk).2 j v hv
    exact ⟨k1,v',k2,k3.free (List.all_eq_true.1 (List.all_eq_true.1 hg row (List.mem_of_getElem? hk)) v (List.mem_of_getElem? hv))⟩
   ·obtain ⟨b,es',clk,g1,g2,g3,g4⟩ := hob
    exact ⟨b,es',clk,ha2.trans g1,g2,g3,g4.1,fun k x y z hk => by simp at hk⟩
   ·cases hg
  ·have hob := h2.objs i
   cases hS : T.heap i with
   | dead => trivial
   | cells z rows own =>
    rw [hS] at hob
    obtain ⟨b1,o1,tot,arr,ty,fr,g1,g2,g3,g4,g5,g6,g7⟩ := hob
    exact ⟨b1,o1,tot,arr,ty,fr,(hne i e).trans g1,g2,g3,g4,g5,g6.mono hle,g7⟩
   | map es =>
    rw [hS] at hob
    obtain ⟨b1,es',clk,g1,g2,g3,g4⟩ := hob
    exact ⟨b1,es',clk,(hne i e).trans g1,g2,g3,g4.mono hle⟩
   | loop st pend =>
    rw [hS] at hob
    obtain ⟨b1,L,g1,g2⟩ := hob
    exact ⟨b1,L,(hne i e).trans g1,g2⟩
   | defer =>
    rw [hS] at hob
    obtain ⟨b1,g1,g2⟩ := hob
    exact ⟨b1,(hne i e).trans g1,g2⟩
   | call g vs =>
    rw [hS] at hob
    obtain ⟨args',g1,g2⟩ := hob
    exact ⟨args',(hne i e).trans g1,g2.mono hle⟩
   | opq =>
    rw [hS] at hob
    exact E'.stable _ _ _ _ _ (ho i e hS _ _ hob) hle (hne i e) fun _ _ => rfl
 ·by_cases e : i = a
  ·subst e
   rw [ha2] at q3
   rw [hne j fun e => hij e.symm]
   intro q4
   have hj := hlt j q2
   refine h1.disj T.next j b (by omega) (by rw [hn]; exact hown) (by rw [hold j hj]; exact q2) q3 ?_
   rw [hat j b q4]; exact q4
  ·rw [hne i e] at q3
   have hi := hlt i (own_alive q1)
   by_cases e2 : j = a
   ·subst e2
    rw [ha2]
    exact h1.disj i T.next b (by omega) (by rw [hold i hi]; exact q1) (by rw [hn]; exact own_alive hown) (by rw [hat i b q3]; exact q3)
   ·rw [hne j e2]
    exact h2.disj i j b hij q1 q2 q3
def HS.settle (S : HS) (a : Nat) (ob : HObj) : HS := { heap := fun i => if i = a then ob else S.heap i,next := S.next,mrk := fun i => if i = a then 1 else S.mrk i }
theorem Rel.settle {a : Nat} {ob : HObj} (h : Rel base E β S w) (hS : S.heap a = .opq) (hp : E.phi a β w.heap → AliveP base a ob β w.heap) (hg : goodOb ob = true) : Rel base E β (S.settle a ob) w := by
 have ho := h.objs a
 rw [hS] at ho
 have hal := hp ho
 have han : a < S.next := Nat.lt_of_not_le fun hn => by have := (h.fresh a hn).2; rw [hS] at this; cases this
 refine ⟨h.below,h.size,fun i hi => ?_,h.lt,fun i => ?_,fun i j b hij h1 h2 h3 => ?_⟩
 ·simp only [HS.settle] at hi ⊢
  rw [if_neg (by omega)]; exact h.fresh i hi
 ·simp only [HS.settle]
  by_cases e : i = a
  ·subst e
   rw [if_pos rfl,if_pos rfl]
   unfold goodOb at hg
   unfold AliveP at hal
   split at hg
   ·obtain ⟨b,o,tot,arr,t,fr,g1,g2,g3,g4,g5,g6,g7,g8,g9⟩ := hal
    exact ⟨b,o,tot,arr,t,fr,g1,g2,g3,g4,g5,g6,fun _ => ⟨g7,g8,g9,.one⟩⟩
   ·exact hal
   ·cases hg
  ·rw [if_neg e,if_neg e]; exact h.objs i
 ·have key : ∀ k,((S.settle a ob).heap k).own = true → (S.heap k).own = true := fun k hk => by
   simp only [HS.settle] at hk
   by_cases e : k = a
   ·rw [e,hS]; rfl
   ·rw [if_neg e] at hk; exact hk
  have key2 : ∀ k,((S.settle a ob).heap k).alive = true → (S.heap k).alive = true := fun k hk => by
   simp only [HS.settle] at hk
   by_cases e : k = a
   ·rw [e,hS]; rfl
   ·rw [if_neg e] at hk; exact hk
  exact h.disj i j b hij (key i h1) (key2 j h2) h3
def HV.ren (a : Nat) : HV → HV
 | .ptr (some ad) => .ptr (some ⟨a,ad.i,ad.j⟩)
 | .sl (some q) l c => .sl (some (a,q.2)) l c
 | .map (some _) => .map (some a)
 | v => v
def HV.isAt (n : Nat) : HV → Bool
 | .ptr (some ad) => Nat.beq ad.id n
 | .sl (some q) _ _ => Nat.beq q.1 n
 | .map (some r) => Nat.beq r n
 | _ => false
theorem VRel.ren {β1 β2 : Bt} {a n : Nat} {v : HV} {v' : Value} (h : VRel β1 v v') (hv : v.isAt n = true) (ha : β2 a = β1 n) : VRel β2 (v.ren a) v' := by
 cases h <;> simp only [HV.isAt,Bool.false_eq_true] at hv
 case ptr h => rw [Nat.eq_of_beq_eq_true hv] at h; exact .ptr (ha.trans h)
 case sl h h1 h2 h3 h4 h5 => rw [Nat.eq_of_beq_eq_true hv] at h; exact .sl (ha.trans h) h1 h2 h3 h4 h5
 case slEnd h h2 h3 h4 => rw [Nat.eq_of_beq_eq_true hv] at h; exact .slEnd (ha.trans h) h2 h3 h4
 case map h => rw [Nat.eq_of_beq_eq_true hv] at h; exact .map (ha.trans h)
end
section
variable {P : Program} {base : Nat} {W0 E E' : Env} {β0 : Bt} {f : FuncId} {ro : Option Nat} {a : HAct} {S S' : HS} {k : List Item} {R : HV → HS → Prop} {ops : Array Oper}
def HRunE (P : Program) (base : Nat) (E W0 : Env) (β0 : Bt) (f : FuncId) (ro : Option Nat) (k : List Item) (a : HAct) (S : HS) (R : HV → HS → Prop) : Prop :=
 ∀ (β : Bt) (w : World) (a' : Act),Le β0 β → Rel base E β S w → ARel β a a' →
 ∀ (b : Frame) (cs : List Frame),b.fn = f → (ro.isSome = true → b.kind = .normal) → RoRel β ro b.roundOf → (ro.isSome = true → cs ≠ []) →
  ∃ (β' : Bt) (v : HV) (S' : HS) (v' : Value) (w' : World),Le β β' ∧ R v S' ∧ VRel β' v v' ∧ Rel base W0 β' S' w' ∧ Ends P b.roundOf f b.kind (lone (b.atR a' k) cs w) cs v' w'
theorem HRunE.of (h : HRun P base W0 β0 f ro k a S' R) (hs : ∀ β w,Rel base E β S w → Rel base W0 β S' w) : HRunE P base E W0 β0 f ro k a S R :=
 fun β w a' h1 h2 h3 b cs h4 h5 h6 h7 => h β w a' h1 (hs β w h2) h3 b cs h4 h5 h6 h7
theorem HRunE.to (h : HRunE P base E W0 β0 f ro k a S' R) (hs : ∀ β w,Rel base W0 β S w → Rel base E β S' w) : HRun P base W0 β0 f ro k a S R :=
 fun β w a' h1 h2 h3 b cs h4 h5 h6 h7 => h β w a' h1 (hs β w h2) h3 b cs h4 h5 h6 h7
theorem HRunE.env (h : HRunE P base E' W0 β0 f ro k a S' R) (hs : ∀ β w,Rel base E β S w → Rel base E' β S' w) : HRunE P base E W0 β0 f ro k a S R :=
 fun β w a' h1 h2 h3 b cs h4 h5 h6 h7 => h β w a' h1 (hs β w h2) h3 b cs h4 h5 h6 h7
theorem he_op {i : Nat} {rest : List Nat} {o : Oper} {v : HV} (ho : ops[i]? = some o) (hw : Wants a ops o) (hop : OpOk P base E o a S v S')
  (h : HRunE P base E W0 β0 f ro (.inRegion ops rest :: k) (a.put o.dst v) S' R) : HRunE P base E W0 β0 f ro (.inRegion ops (i :: rest) :: k) a S R := by
 intro β w a' h1 h2 h3 b cs h4 h5 h6 h7
 obtain ⟨β1,w1,v1,e1,e2,e3,e4⟩ := hop.2 β w a' h2 h3
 obtain ⟨β',v2,S2,v',w',g1,g2,g3,g4,g5⟩ := h β1 w1 (a'.put o.dst v1) (h1.trans e1) e4 ((h3.mono e1).put e3 _) b cs h4 h5 (h6.mono e1) h7
 exact ⟨β',v2,S2,v',w',e1.trans g1,g2,g3,g4,g5.of_steps (P := P) (.one (stepR_op_value ho (hw.wanted h3) hop.1 e2))⟩
theorem he_skip {i : Nat} {rest : List Nat} {o : Oper} (ho : ops[i]? = some o) (hw : Skips a ops o)
  (h : HRunE P base E W0 β0 f ro (.inRegion ops rest :: k) (a.put o.dst (.tup [])) S R) : HRunE P base E W0 β0 f ro (.inRegion ops (i :: rest) :: k) a S R := by
 intro β w a' h1 h2 h3 b cs h4 h5 h6 h7
 obtain ⟨β',v2,S2,v',w',g1,g2,g3,g4,g5⟩ := h β w (a'.put o.dst undef) h1 h2 (h3.put (VRel.undef β) _) b cs h4 h5 h6 h7
 have hs := stepR_op_skip (P := P) (b := b) (a := a') (k := k) (cs := cs) (w := w) (ops := ops) (i := i) (rest := rest) (by simp [ho,hw.unwanted h3])
 simp only [ho,Option.bind_some] at hs
 exact ⟨β',v2,S2,v',w',g1,g2,g3,g4,g5.of_steps (P := P) (.one hs)⟩
theorem he_call {i : Nat} {rest : List Nat} {o : Oper} {fx : Operand} {xs : Array Operand} {tys : Array TypeId} {fv : HV} {vs : List HV} {R1 : HV → HS → Prop}
  (ho : ops[i]? = some o) (hw : Wants a ops o) (hc : o.op = .call ⟨.value fx,xs,tys⟩) (hf : Ev a fx fv) (hxs : Evs a xs vs) (hi : HInv P base E β0 fv vs S R1)
  (h : ∀ v S',R1 v S' → HRunE P base E W0 β0 f ro (.inRegion ops rest :: k) (a.put o.dst v) S' R) : HRunE P base E W0 β0 f ro (.inRegion ops (i :: rest) :: k) a S R := by
 intro β w a' h1 h2 h3 b cs h4 h5 h6 h7
 obtain ⟨d,nx,g1,g2,g3⟩ := hi β w (a'.eval fx) (xs.map a'.eval) h1 h2 (hf.rel h3) (hxs.rel h3)
 obtain ⟨m,hm,β1,v,S1,v1,w1,e1,e2,e3,e4,e5⟩ := g3 (b.atR a' (.inRegion ops (i :: rest) :: k)) cs
 have hstep := stepR_op_start (P := P) (b := b) (a := a') (k := k) (cs := cs) (w := w) (w' := w) (ops := ops) (i := i) (rest := rest) (o := o) (nx := nx) (m := m) ho (hw.wanted h3)
  (by intro c; rw [hc]; simp) (by simp [execOp,hc,resolve,g1,g2]) hm
 have hfin : (b.atR a' (.inRegion ops (i :: rest) :: k)).finish v1 = b.atR (a'.put o.dst v1) (.inRegion ops rest :: k) := by
  rw [Frame.finish_atR,ho]; rfl
 rw [hfin] at e5
 obtain ⟨β',v2,S2,v',w',q1,q2,q3,q4,q5⟩ := h v S1 e2 β1 w1 (a'.put o.dst v1) (h1.trans e1) e4 ((h3.mono e1).put e3 _) b cs h4 h5 (h6.mono e1) h7
 exact ⟨β',v2,S2,v',w',e1.trans q1,q2,q3,q4,q5.of_steps (P := P) (.head hstep e5)⟩
theorem wants_unmask {B : HAct} {o : Oper} (hw : Wants (B.mask (o.looksAt ops)) ops o) : Wants B ops o := by
 unfold Wants at hw ⊢
 cases hg : o.guard with
 | none => trivial
 | some q =>
  obtain ⟨j,want⟩ := q
  rw [hg] at hw
  obtain ⟨t,h1,h2⟩ := hw
  exact ⟨t,h1,mask_at h2 (looks_guard hg h1)⟩
theorem opok_unmask {B : HAct} {o : Oper} {v : HV} (hsel : ∀ cs b,o.op ≠ .select cs b) (hop : OpOk P base E o (B.mask (o.looksAt ops)) S v S') : OpOk P base E o B S v S' := by
 refine ⟨hop.1,fun β w a' h1 h2 => ?_⟩
 obtain ⟨β',w',v',g1,g2,g3,g4⟩ := hop.2 β w (maskC a' (o.looksAt ops)) h1 (mask_rel h2 _)
 have e : execOp (maskC a' (o.looksAt ops)).eval o = execOp a'.eval o := execOp_congr o hsel fun x hx => mask_eval fun t ht => looks_operand (by rw [← ht]; exact hx)
 rw [e] at g2
 exact ⟨β',w',v',g1,g2,g3,g4⟩
theorem he_quiet {B : HAct} {i : Nat} {rest : List Nat} {o : Oper} {v : HV} (ho : ops[i]? = some o) (hq : QAt2 P base E β0 ops o (B.mask (o.looksAt ops)) S v S')
  (h : HRunE P base E W0 β0 f ro (.inRegion ops rest :: k) (B.put o.dst v) S' R) : HRunE P base E W0 β0 f ro (.inRegion ops (i :: rest) :: k) B S R := by
 rcases hq with ⟨hw,hq⟩ | ⟨hs,rfl,rfl⟩
 ·have hw' := wants_unmask hw
  rcases hq with ⟨hsel,hop⟩ | ⟨fx,xs,tys,fv,vs,hc,hf,hxs,hi⟩
  ·exact he_op ho hw' (opok_unmask hsel hop) h
  ·refine he_call ho hw' hc (hf.unmask fun t ht => looks_operand (by rw [hc,← ht]; simp [Op.operands,Call.operands])) ⟨hxs.1,fun j x u q1 q2 => (hxs.2 j x u q1 q2).unmask fun t ht => looks_operand (by
    rw [hc,← ht]; simp only [Op.operands,Call.operands]; exact Array.mem_append_right _ (Array.mem_of_getElem? q1))⟩ hi ?_
   rintro _ _ ⟨rfl,rfl⟩
   exact h
 ·refine he_skip ho ?_ h
  unfold Skips at hs ⊢
  cases hg : o.guard with
  | none => rw [hg] at hs; exact hs
  | some q =>
   obtain ⟨j,want⟩ := q
   rw [hg] at hs
   obtain ⟨t,h1,h2⟩ := hs
   exact ⟨t,h1,h2.imp (fun h2 => mask_at h2 (looks_guard hg h1)) (fun h2 => mask_at h2 (looks_guard hg h1))⟩
def Makes (P : Program) (base : Nat) (ops : Array Oper) (o : Oper) (A : HAct) (v : HV) (r : Nat) (ob : HObj) : Prop :=
 o.guard = none ∧ goodOb ob = true ∧ (∀ cs b,o.op ≠ .select cs b) ∧ ∃ m,∀ (E : Env) (T : HS),∃ vn : HV,vn.isAt T.next = true ∧ v = vn.ren r ∧ OpOk P base E o A T vn (T.newM ob m)
theorem he_make {B : HAct} {i r : Nat} {rest : List Nat} {o : Oper} {v : HV} {ob : HObj} (ho : ops[i]? = some o) (hm : Makes P base ops o (B.mask (o.looksAt ops)) v r ob) (hr : S.heap r = .opq)
  (h0 : ∀ β hp,E.phi r β hp → β r = .none) (hE : E'.w0 = E.w0) (hoth : ∀ id,id ≠ r → S.heap id = .opq → ∀ β hp,E.phi id β hp → E'.phi id β hp) (hmade : ∀ β hp,AliveP base r ob β hp → E'.phi r β hp)
  (h : HRunE P base E' W0 β0 f ro (.inRegion ops rest :: k) (B.put o.dst v) S R) : HRunE P base E W0 β0 f ro (.inRegion ops (i :: rest) :: k) B S R := by
 obtain ⟨hg,hgood,hsel,m,hall⟩ := hm
 obtain ⟨vn,hat,rfl,hop⟩ := hall E S
 have hop := opok_unmask hsel hop
 have hw : Wants B ops o := by unfold Wants; rw [hg]; trivial
 intro β w a' h1 h2 h3 b cs h4 h5 h6 h7
 obtain ⟨β1,w1,v1,e1,e2,e3,e4⟩ := hop.2 β w a' h2 h3
 have hnone : β r = .none := by have := h2.objs r; rw [hr] at this; exact h0 _ _ this
 obtain ⟨β2,k1,k2,k3⟩ := h2.make e4 e1 hnone hr hgood hE hoth hmade
 obtain ⟨β',v2,S2,v',w',g1,g2,g3,g4,g5⟩ := h β2 w1 (a'.put o.dst v1) (h1.trans k1) k3 ((h3.mono k1).put (e3.ren hat k2) _) b cs h4 h5 (h6.mono k1) h7
 exact ⟨β',v2,S2,v',w',k1.trans g1,g2,g3,g4,g5.of_steps (P := P) (.one (stepR_op_value ho (hw.wanted h3) hop.1 e2))⟩
end
section
variable {P : Program} {base : Nat} {W0 : Env} {β0 : Bt} {f : FuncId} {ro : Option Nat} {k : List Item} {R : HV → HS → Prop} {ops : Array Oper}
def envL (W0 : Env) (base : Nat) (who : Nat → Option (Nat × HObj)) (L : Nat → Bool) : Env := W0.ext base fun id => (who id).map fun q => if L q.1 then some q.2 else none
theorem envL_phi {who : Nat → Option (Nat × HObj)} {L : Nat → Bool} {id : Nat} {β : Bt} {hp : Array Obj} : (envL W0 base who L).phi id β hp = match (who id).map fun q => if L q.1 then some q.2 else none with
  | none => W0.phi id β hp
  | some none => β id = .none
  | some (some ob) => AliveP base id ob β hp := rfl
theorem envL_same {who : Nat → Option (Nat × HObj)} {L L' : Nat → Bool} {id : Nat} (h : ∀ q,who id = some q → L q.1 = L' q.1) (β : Bt) (hp : Array Obj) : (envL W0 base who L).phi id β hp = (envL W0 base who L').phi id β hp := by
 rw [envL_phi,envL_phi]
 cases hw : who id with
 | none => rfl
 | some q => simp only [Option.map_some,h q hw]
def Step4 (P : Program) (base : Nat) (β0 : Bt) (ops : Array Oper) (cls : Nat → Nat) (mk : Nat → Option (Nat × HObj)) (Hp Hq : Nat → HS) (j : Nat) (o : Oper) (A : HAct) (v : HV) : Prop :=
 match mk j with
 | some q => Hp (j + 1) = Hp j ∧ Makes P base ops o (A.mask (o.looksAt ops)) v q.1 q.2
 | none => (cls j = 0 ∧ Hp (j + 1) = Hp j ∧ ∀ E T,QAt2 P base E β0 ops o (A.mask (o.looksAt ops)) T v T) ∨
  (cls j = 2 ∧ ∀ E,QAt2 P base E β0 ops o (A.mask (o.looksAt ops)) (Hq j) v (Hp (j + 1))) ∨
  (cls j = 3 ∧ Hp (j + 1) = Hp j ∧ ∀ E,QAt2 P base E β0 ops o (A.mask (o.looksAt ops)) (Hp j) v (Hp j) ∧
   (∀ w,j < w → w < ops.size → cls w = 2 → ((Region.before ops).getD w 0).testBit j = false → QAt2 P base E β0 ops o (A.mask (o.looksAt ops)) (Hp (w + 1)) v (Hp (w + 1))) ∧
   (∀ w,w < j → cls w = 2 → ((Region.before ops).getD j 0).testBit w = false → QAt2 P base E β0 ops o (A.mask (o.looksAt ops)) (Hp w) v (Hp w)))
theorem draw_go4 {cls : Nat → Nat} {md : Region.Mode} {a0 b : HAct} {val : Nat → HV} {Hp Hq : Nat → HS} {who mk : Nat → Option (Nat × HObj)} (hd : DrawOk2 ops cls)
  (hwm : ∀ i r ob,mk i = some (r,ob) → who r = some (i,ob)) (hmw : ∀ r i ob,who r = some (i,ob) → mk i = some (r,ob)) (hmc : ∀ i q,mk i = some q → cls i = 0 ∧ i < ops.size)
  (hopq : ∀ i r ob,mk i = some (r,ob) → ∀ q,q ≤ ops.size → (∀ w,w < q → cls w = 2 → ¬ Anc ops i w) → (Hp q).heap r = .opq)
  (hset : ∀ j,j < ops.size → cls j = 2 → ∀ L : Nat → Bool,(∀ i,Anc ops i j → L i = true) → ∀ β w,Rel base (envL W0 base who L) β (Hp j) w → Rel base (envL W0 base who L) β (Hq j) w)
  (hq : ∀ j o,j < ops.size → ops[j]? = some o → ∃ A,Agrees ops a0 val ops.size (fun l => l < j) A ∧ Step4 P base β0 ops cls mk Hp Hq j o A (val j)) (hb : Agrees ops a0 val ops.size (fun l => l < ops.size) b)
  (hrest : ∀ L : Nat → Bool,(∀ i,i < ops.size → L i = true) → HRunE P base (envL W0 base who L) W0 β0 f ro (.inRegion ops [] :: k) b (Hp ops.size) R) :
  ∀ (r : Nat) (listed : Array Bool) (fuel t : Nat) (B : HAct) (T : HS),listed.size = ops.size → Closed ops (fun j => j < ops.size ∧ listed.getD j true = true) →
   Agrees ops a0 val ops.size (fun j => j < ops.size ∧ listed.getD j true = true) B → (∃ q,q ≤ ops.size ∧ (∀ w,w < ops.size → listed.getD w true = true → cls w = 2 → w < q) ∧ (∀ w,w < q → cls w = 2 → listed.getD w true = true) ∧ T = Hp q) →
   ((List.range ops.size).filter (fun j => !listed.getD j true)).length = r → r ≤ fuel →
   HRunE P base (envL W0 base who fun i => listed.getD i true) W0 β0 f ro (.inRegion ops (Region.linearise.go md ops fuel t listed []) :: k) B T R := by
 have hconst : ∀ x y,x ≤ y → y ≤ ops.size → (∀ w,x ≤ w → w < y → cls w ≠ 2) → Hp x = Hp y := by
  intro x y hxy
  induction y with
  | zero => intro _ _; rw [show x = 0 by omega]
  | succ y ihy =>
   intro hy hno
   by_cases e : x = y + 1
   ·rw [e]
   ·rw [ihy (by omega) (by omega) fun w h1 h2 => hno w h1 (by omega)]
    obtain ⟨A,_,hc⟩ := hq y ops[y] (by omega) (Array.getElem?_eq_getElem (by omega))
    have hne := hno y (by omega) (by omega)
    unfold Step4 at hc
    split at hc
    ·exact hc.1.symm
    ·rcases hc with hc | hc | hc
     ·exact hc.2.1.symm
     ·exact absurd hc.1 hne
     ·exact hc.2.1.symm
 intro r
 induction r with
 | zero =>
  intro listed fuel t B T hsz hcl hB hH hr hf
  have hall : ∀ j,j < ops.size → listed.getD j true = true := by
   intro j hj
   cases hc : listed.getD j true with
   | true => rfl
   | false =>
    have : j ∈ (List.range ops.size).filter (fun j => !listed.getD j true) := by simp only [List.mem_filter,List.mem_range]; exact ⟨hj,by rw [hc]; rfl⟩
    have := List.length_pos_of_mem this
    omega
  have heq : B = b := hB.eq hb fun i hi => ⟨fun _ => hi,fun _ => ⟨by omega,hall i hi⟩⟩
  have hT : T = Hp ops.size := by
   obtain ⟨q,q1,q2,q3,q4⟩ := hH
   rw [q4]
   refine hconst q _ q1 (Nat.le_refl _) fun w h1 h2 h3 => ?_
   have := q2 w h2 (hall w h2) h3
   omega
  have hnil : Region.linearise.go md ops fuel t listed [] = [] := by
   cases fuel with
   | zero => rfl
   | succ fuel =>
    rw [go_cons]
    have hemp : Region.ready md ops listed = [] := by
     cases hr' : Region.ready md ops listed with
     | nil => rfl
     | cons x xs =>
      obtain ⟨h1,h2,_⟩ := mem_ready (md := md) (ops := ops) (listed := listed) (i := x) (by rw [hr']; simp)
      rw [hall x h1] at h2; cases h2
    rw [hemp]; rfl
  rw [hnil,heq,hT]
  exact hrest _ hall
 | succ r ih =>
  intro listed fuel t B T hsz hcl hB hH hr hf
  -- there is an operation that is ready
  obtain ⟨rk,hrk⟩ := hd.rank md
  have hex : ∃ j,j < ops.size ∧ listed.getD j true = false ∧ ∀ i,i < ops.size → rk i < rk j → listed.getD i true = true := by
   have hne : ∃ j,j < ops.size ∧ listed.getD j true = false := by
    cases hl : (List.range ops.size).filter (fun j => !listed.getD j true) with
    | nil => rw [hl] at hr; simp at hr
    | cons x xs =>
     have : x ∈ (List.range ops.size).filter (fun j => !listed.getD j true) := by rw [hl]; simp
     simp only [List.mem_filter,List.mem_range,Bool.not_eq_true'] at this
     exact ⟨x,this.1,this.2⟩
   have key : ∀ n j,rk j = n → j < ops.size → listed.getD j true = false → ∃ j,j < ops.size ∧ listed.getD j true = false ∧ ∀ i,i < ops.size → rk i < rk j → listed.getD i true = true := by
    intro n
    induction n using Nat.strongRecOn with
    | _ n ihn =>
     intro j hn h1 h2
     by_cases hmin : ∀ i,i < ops.size → rk i < rk j → listed.getD i true = true
     ·exact ⟨j,h1,h2,hmin⟩
     ·simp only [Classical.not_forall] at hmin
      obtain ⟨i,hi,hi2,hi3⟩ := hmin
      exact ihn (rk i) (by omega) i rfl hi (by simpa using hi3)
   obtain ⟨j,h1,h2⟩ := hne
   exact key _ j rfl h1 h2
  obtain ⟨j0,hj1,hj2,hj3⟩ := hex
  have hj0 : j0 ∈ Region.ready md ops listed := by
   unfold Region.ready
   simp only [List.mem_filter,List.mem_range,Bool.and_eq_true,Bool.not_eq_true']
   refine ⟨hj1,hj2,?_⟩
   rw [Array.getElem?_eq_getElem hj1]
   simp only [Option.map_some,Option.getD_some,Array.all_eq_true',Bool.or_eq_true,Bool.not_eq_true']
   intro e he
   cases hb2 : Region.binds md e with
   | false => exact .inl rfl
   | true =>
    right
    obtain ⟨g1,g2⟩ := hrk j0 _ (Array.getElem?_eq_getElem hj1) e he hb2
    have := hj3 e.on g2 g1
    rw [Array.getD_eq_getD_getElem?] at this ⊢
    rw [Array.getElem?_eq_getElem (by omega)] at this ⊢
    exact this
  cases fuel with
  | zero => omega
  | succ fuel =>
   have hpos : 0 < (Region.ready md ops listed).length := List.length_pos_of_mem hj0
   have hlt : t % (Region.ready md ops listed).length < (Region.ready md ops listed).length := Nat.mod_lt _ hpos
   rw [go_cons,List.getElem?_eq_getElem hlt]
   simp only []
   generalize hi : (Region.ready md ops listed)[t % (Region.ready md ops listed).length] = i
   have hmem : i ∈ Region.ready md ops listed := by rw [← hi]; exact List.getElem_mem hlt
   obtain ⟨i1,i2,i3⟩ := mem_ready hmem
   have ho : ops[i]? = some ops[i] := Array.getElem?_eq_getElem i1
   have hXi : ¬ (i < ops.size ∧ listed.getD i true = true) := fun h => by rw [i2] at h; cases h.2
   -- what it waits for has been made
   have hanc : ∀ l,Anc ops l i → l < ops.size ∧ listed.getD l true = true := by
    have key : ∀ l j,Anc ops l j → j = i → l < ops.size ∧ listed.getD l true = true := by
     intro l j ha
     induction ha with
     | @edge l j o e ho2 he hb2 hi2 =>
      intro hj
      subst hj
      have hlt2 := hd.low _ _ ho2 e he hb2
      have := i3 o ho2 e he hb2
      rw [hi2] at this hlt2
      refine ⟨by omega,?_⟩
      rw [Array.getD_eq_getD_getElem?] at this ⊢
      rw [Array.getElem?_eq_getElem (by omega)] at this ⊢
      exact this
     | @trans l j q h k _ ih2 =>
      intro hq2
      exact hcl.anc h (ih2 hq2)
    exact fun l hl => key l i hl rfl
   obtain ⟨A,hA1,hA2⟩ := hq i _ i1 ho
   have hmask : A.mask ((ops[i]).looksAt ops) = B.mask ((ops[i]).looksAt ops) := by
    refine mask_congr (by rw [hA1.len,hB.len]) fun t2 ht2 => hA1.congr hB fun w y hw hy hdst => ?_
    rcases hd.look i w _ y t2 i1 hw ho hy hdst ht2 with ⟨h1,h2⟩ | ⟨h1,h2⟩
    ·exact ⟨fun _ => hanc w h2,fun _ => h1⟩
    ·refine ⟨fun h => by omega,fun h => ?_⟩
     exact absurd (hcl.anc h2 h) hXi
   unfold Step4 at hA2
   rw [hmask] at hA2
   obtain ⟨q,q1,q2,q3,q4⟩ := hH
   -- where the heap is something to it,it is the one that it has in the text's order
   have hheap : cls i ≠ 0 → cls i ≠ 3 → T = Hp i := by
    intro hc0 hc3
    rw [q4]
    rcases Nat.le_total q i with hle | hle
    ·refine hconst q i hle (by omega) fun w h1 h2 h3 => ?_
     have := q2 w (by omega) (hanc w (hd.ord w i h2 i1 (.inl ⟨h3,hc0,hc3⟩))).2 h3
     omega
    ·refine (hconst i q hle q1 fun w h1 h2 h3 => ?_).symm
     have hw := q3 w h2 h3
     rcases Nat.eq_or_lt_of_le h1 with e | h4
     ·rw [← e,i2] at hw; cases hw
     ·exact hXi (hcl.anc (hd.ord i w h4 (by omega) (.inr ⟨hc0,hc3,h3⟩)) ⟨by omega,hw⟩)
   have hget : ∀ j,j < ops.size → ((listed.setIfInBounds i true).getD j true = true ↔ (listed.getD j true = true ∨ j = i)) := by
    intro j hj
    rw [Array.getD_eq_getD_getElem?,Array.getElem?_setIfInBounds]
    by_cases e : i = j
    ·subst e; rw [if_pos rfl,if_pos (by omega)]; simp
    ·rw [if_neg e,← Array.getD_eq_getD_getElem?]
     exact ⟨fun h => .inl h,fun h => h.resolve_right fun h2 => e h2.symm⟩
   have hkeep : cls i ≠ 2 → ∃ q,q ≤ ops.size ∧ (∀ w,w < ops.size → (listed.setIfInBounds i true).getD w true = true → cls w = 2 → w < q) ∧ (∀ w,w < q → cls w = 2 → (listed.setIfInBounds i true).getD w true = true) ∧ T = Hp q := by
    intro hne
    refine ⟨q,q1,fun w hw hl hc => ?_,fun w hw hc => (hget w (by omega)).2 (.inl (q3 w hw hc)),q4⟩
    rcases (hget w hw).1 hl with h | h
    ·exact q2 w hw h hc
    ·subst h; exact absurd hc hne
   have hXeq : (fun j => (j < ops.size ∧ listed.getD j true = true) ∨ j = i) = (fun j => j < ops.size ∧ (listed.setIfInBounds i true).getD j true = true) := by
    funext j
    simp only [eq_iff_iff]
    constructor
    ·rintro (⟨h1,h2⟩ | rfl)
     ·exact ⟨h1,(hget j h1).2 (.inl h2)⟩
     ·exact ⟨i1,(hget j i1).2 (.inr rfl)⟩
    ·rintro ⟨h1,h2⟩
     rcases (hget j h1).1 h2 with h | h
     ·exact .inl ⟨h1,h⟩
     ·exact .inr h
   have hgo : ∀ T',(∃ q,q ≤ ops.size ∧ (∀ w,w < ops.size → (listed.setIfInBounds i true).getD w true = true → cls w = 2 → w < q) ∧ (∀ w,w < q → cls w = 2 → (listed.setIfInBounds i true).getD w true = true) ∧ T' = Hp q) →
     HRunE P base (envL W0 base who fun j => (listed.setIfInBounds i true).getD j true) W0 β0 f ro (.inRegion ops (Region.linearise.go md ops fuel (t / (Region.ready md ops listed).length) (listed.setIfInBounds i true) []) :: k) (B.put (ops[i]).dst (val i)) T' R := by
    intro T' hH'
    refine ih _ fuel _ _ _ (by simp [hsz]) ?_ ?_ hH' ?_ (by omega)
    ·intro j o hXj hoj e he hb2
     have hlt2 := hd.low _ _ hoj e he hb2
     rcases (hget j hXj.1).1 hXj.2 with h | h
     ·have := hcl j o ⟨hXj.1,h⟩ hoj e he hb2
      exact ⟨this.1,(hget _ this.1).2 (.inl this.2)⟩
     ·subst h
      have := hanc e.on (.edge hoj he hb2 rfl)
      exact ⟨this.1,(hget _ this.1).2 (.inl this.2)⟩
    ·rw [← hXeq]
     exact hB.step2 hd i1 ho hXi
    ·-- one less
     have hcount : ∀ (l : List Nat),l.Nodup → i ∈ l → (∀ j ∈ l,j < ops.size) → (l.filter (fun j => !listed.getD j true)).length = (l.filter (fun j => !(listed.setIfInBounds i true).getD j true)).length + 1 := by
      intro l
      induction l with
      | nil => intro _ h; simp at h
      | cons x l ihl =>
       intro hnd hmem2 hall
       rw [List.nodup_cons] at hnd
       have hb1 : ∀ j,j < ops.size → j ≠ i → (listed.setIfInBounds i true).getD j true = listed.getD j true := by
        intro j hj hne
        rw [Array.getD_eq_getD_getElem?,Array.getElem?_setIfInBounds,if_neg (fun e => hne e.symm),← Array.getD_eq_getD_getElem?]
       rcases List.mem_cons.1 hmem2 with rfl | hml
       ·have e1 : (!listed.getD i true) = true := by rw [i2]; rfl
        have e2 : (!(listed.setIfInBounds i true).getD i true) = false := by rw [(hget i i1).2 (.inr rfl)]; rfl
        rw [List.filter_cons_of_pos (by exact e1),List.filter_cons_of_neg (by rw [e2]; simp)]
        simp only [List.length_cons,Nat.add_right_cancel_iff]
        congr 1
        apply List.filter_congr
        intro j hj
        rw [hb1 j (hall j (by simp [hj])) (fun e => hnd.1 (e ▸ hj))]
       ·have hne : x ≠ i := fun e => hnd.1 (e ▸ hml)
        have hx := hb1 x (hall x (by simp)) hne
        have := ihl hnd.2 hml (fun j hj => hall j (by simp [hj]))
        simp only [List.filter_cons,hx]
        split
        ·simp only [List.length_cons]; omega
        ·exact this
     have := hcount (List.range ops.size) List.nodup_range (by simpa using i1) (fun j hj => by simpa using hj)
     omega
   have hlist : ∀ i',i' ≠ i → (listed.setIfInBounds i true).getD i' true = listed.getD i' true := by
    intro i' hne
    rw [Array.getD_eq_getD_getElem?,Array.getElem?_setIfInBounds,if_neg (fun e => hne e.symm),← Array.getD_eq_getD_getElem?]
   split at hA2
   ·-- made,in its reserved place
    rename_i rq hmk
    obtain ⟨r0,ob⟩ := rq
    have hwho := hwm i r0 ob hmk
    have hc0 := (hmc i _ hmk).1
    refine he_make ho hA2.2 (E' := envL W0 base who fun j => (listed.setIfInBounds i true).getD j true) ?_ ?_ rfl ?_ ?_ (hgo T (hkeep (by omega)))
    ·rw [q4]
     refine hopq i r0 ob hmk q q1 fun w hw hcw ha => ?_
     exact hXi (hcl.anc ha ⟨by omega,q3 w hw hcw⟩)
    ·intro β hp h
     rw [envL_phi,hwho] at h
     simp only [Option.map_some,i2] at h
     exact h
    ·intro id hne _ β hp h
     rw [envL_same (L' := fun j => (listed.setIfInBounds i true).getD j true) (fun z hz => ?_)] at h
     ·exact h
     ·refine (hlist z.1 fun e => ?_).symm
      have := hmw id z.1 z.2 hz
      rw [e,hmk] at this
      cases this
      exact hne rfl
    ·intro β hp h
     rw [envL_phi,hwho]
     simp only [Option.map_some,(hget i i1).2 (.inr rfl)]
     exact h
   ·rename_i hmk
    have henv : ∀ T',HRunE P base (envL W0 base who fun j => (listed.setIfInBounds i true).getD j true) W0 β0 f ro (.inRegion ops (Region.linearise.go md ops fuel (t / (Region.ready md ops listed).length) (listed.setIfInBounds i true) []) :: k) (B.put (ops[i]).dst (val i)) T' R →
      HRunE P base (envL W0 base who fun j => listed.getD j true) W0 β0 f ro (.inRegion ops (Region.linearise.go md ops fuel (t / (Region.ready md ops listed).length) (listed.setIfInBounds i true) []) :: k) (B.put (ops[i]).dst (val i)) T' R := by
     intro T' h
     refine h.env fun β w hrel => hrel.env rfl fun id _ hphi => ?_
     rw [envL_same (L' := fun j => (listed.setIfInBounds i true).getD j true) (fun z hz => ?_)] at hphi
     ·exact hphi
     ·refine (hlist z.1 fun e => ?_).symm
      have := hmw id z.1 z.2 hz
      rw [e,hmk] at this
      cases this
    rcases hA2 with ⟨hc,hx,hA2⟩ | ⟨hc,hA2⟩ | ⟨hc3,hx,hA2⟩
    ·exact he_quiet ho (hA2 _ T) (henv _ (hgo T (hkeep (by omega))))
    ·have hT : T = Hp i := hheap (by omega) (by omega)
     rw [hT]
     refine HRunE.env ?_ (hset i i1 hc _ fun l hl => (hanc l hl).2)
     refine he_quiet ho (hA2 _) (henv _ (hgo _ ⟨i + 1,by omega,fun w hw hl hcw => ?_,fun w hw hcw => ?_,rfl⟩))
     ·rcases (hget w hw).1 hl with h | h
      ·rcases Nat.lt_or_ge i w with h5 | h5
       ·exact absurd (hcl.anc (hd.ord i w h5 hw (.inl ⟨hc,by omega,by omega⟩)) ⟨hw,h⟩) hXi
       ·omega
      ·omega
     ·rcases Nat.eq_or_lt_of_le (Nat.le_of_lt_succ hw) with e | h5
      ·exact (hget w (by omega)).2 (.inr e)
      ·exact (hget w (by omega)).2 (.inl (hanc w (hd.ord w i h5 i1 (.inl ⟨hcw,by omega,by omega⟩))).2)
    ·obtain ⟨hA2,hA3,hA4⟩ := hA2 (envL W0 base who fun j => listed.getD j true)
     refine he_quiet ho ?_ (henv _ (hgo T (hkeep (by omega))))
     rw [q4]
     rcases Nat.le_total q i with hle | hle
     ·have key : ∀ d y,i - y = d → q ≤ y → y ≤ i → QAt2 P base (envL W0 base who fun j => listed.getD j true) β0 ops ops[i] (B.mask ((ops[i]).looksAt ops)) (Hp y) (val i) (Hp y) := by
       intro d
       induction d with
       | zero => intro y h0 _ h2; rw [show y = i by omega]; exact hA2
       | succ d ihd =>
        intro y h0 h1 h2
        by_cases hcy : cls y = 2
        ·refine hA4 y (by omega) hcy ?_
         cases hbit : ((Region.before ops).getD i 0).testBit y with
         | false => rfl
         | true =>
          have := q2 y (by omega) (hanc y (before_anc hbit)).2 hcy
          omega
        ·have hy := ihd (y + 1) (by omega) (by omega) (by omega)
         rw [hconst y (y + 1) (by omega) (by omega) fun w g1 g2 g3 => by
          have : w = y := by omega
          subst this; exact hcy g3]
         exact hy
      exact key _ q rfl (Nat.le_refl _) hle
     ·have key : ∀ y,i ≤ y → y ≤ q → QAt2 P base (envL W0 base who fun j => listed.getD j true) β0 ops ops[i] (B.mask ((ops[i]).looksAt ops)) (Hp y) (val i) (Hp y) := by
       intro y
       induction y with
       | zero => intro h1 _; rw [show (0 : Nat) = i by omega]; exact hA2
       | succ y ihy =>
        intro h1 h2
        by_cases e : i = y + 1
        ·rw [← e]; exact hA2
        ·have hy := ihy (by omega) (by omega)
         by_cases hcy : cls y = 2
         ·have hyl := q3 y (by omega) hcy
          have hne : i ≠ y := fun e => by rw [e] at hc3; omega
          refine hA3 y (by omega) (by omega) hcy ?_
          cases hbit : ((Region.before ops).getD y 0).testBit i with
          | false => rfl
          | true => exact absurd (hcl.anc (before_anc hbit) ⟨by omega,hyl⟩) hXi
         ·rw [← hconst y (y + 1) (by omega) (by omega) fun w g1 g2 g3 => by
           have : w = y := by omega
           subst this; exact hcy g3]
          exact hy
      exact key q hle (Nat.le_refl _)
end
section
variable {P : Program} {base : Nat} {W0 E : Env} {β0 : Bt} {f : FuncId} {ro : Option Nat} {k : List Item} {R : HV → HS → Prop} {ops : Array Oper} {S : HS}
def HS.resv : Nat → HS → HS
 | 0,S => S
 | n + 1,S => HS.resv n (S.newM .opq 1)
theorem Rel.resvs {β : Bt} {w : World} : ∀ (n : Nat) {S : HS},Rel base E β S w → (∀ t,t < n → E.phi (S.next + t) β w.heap) → Rel base E β (HS.resv n S) w := by
 intro n
 induction n with
 | zero => intro S h _; exact h
 | succ n ih =>
  intro S h hp
  refine ih (h.resv (hp 0 (by omega))) fun t ht => ?_
  have := hp (t + 1) (by omega)
  rw [show (S.newM HObj.opq 1).next + t = S.next + (t + 1) by show S.next + 1 + t = _; omega]
  exact this
def HS.settles (S : HS) : List (Nat × HObj) → HS
 | [] => S
 | q :: l => (S.settle q.1 q.2).settles l
theorem Rel.settles {β : Bt} {w : World} : ∀ (l : List (Nat × HObj)) {S : HS},Rel base E β S w → (l.map (·.1)).Nodup → (∀ q ∈ l,S.heap q.1 = .opq ∧ goodOb q.2 = true ∧ (E.phi q.1 β w.heap → AliveP base q.1 q.2 β w.heap)) → Rel base E β (S.settles l) w := by
 intro l
 induction l with
 | nil => intro S h _ _; exact h
 | cons q l ih =>
  intro S h hnd hl
  obtain ⟨h1,h2,h3⟩ := hl q (by simp)
  simp only [List.map_cons,List.nodup_cons] at hnd
  refine ih (h.settle h1 h3 h2) hnd.2 fun z hz => ?_
  obtain ⟨g1,g2,g3⟩ := hl z (by simp [hz])
  refine ⟨?_,g2,g3⟩
  have hne : z.1 ≠ q.1 := fun e => hnd.1 (by rw [← e]; exact List.mem_map_of_mem hz)
  show (if z.1 = q.1 then q.2 else S.heap z.1) = .opq
  rw [if_neg hne]; exact g1
theorem q_draw4 {c : Code} {id n : Nat} {a b : HAct} {cls : Nat → Nat} {val : Nat → HV} {Hp Hq : Nat → HS} {who mk : Nat → Option (Nat × HObj)} {fin : List (Nat × HObj)} (hc : c = .region id ops true) (hd : DrawOk2 ops cls)
  (hH0 : Hp 0 = S.resv n) (hwn : ∀ r q,who r = some q → S.next ≤ r) (hwt : ∀ t,t < n → ∃ q,who (S.next + t) = some q)
  (hwm : ∀ i r ob,mk i = some (r,ob) → who r = some (i,ob)) (hmw : ∀ r i ob,who r = some (i,ob) → mk i = some (r,ob)) (hmc : ∀ i q,mk i = some q → cls i = 0 ∧ i < ops.size)
  (hopq : ∀ i r ob,mk i = some (r,ob) → ∀ q,q ≤ ops.size → (∀ w,w < q → cls w = 2 → ¬ Anc ops i w) → (Hp q).heap r = .opq)
  (hset : ∀ j,j < ops.size → cls j = 2 → ∃ l : List (Nat × HObj),Hq j = (Hp j).settles l ∧ (l.map (·.1)).Nodup ∧ ∀ q ∈ l,(Hp j).heap q.1 = .opq ∧ goodOb q.2 = true ∧ ∃ i,who q.1 = some (i,q.2) ∧ Anc ops i j)
  (hq : ∀ j o,j < ops.size → ops[j]? = some o → ∃ A,Agrees ops a val ops.size (fun l => l < j) A ∧ Step4 P base β0 ops cls mk Hp Hq j o A (val j)) (hb : Agrees ops a val ops.size (fun l => l < ops.size) b)
  (hfin : (fin.map (·.1)).Nodup ∧ (∀ q ∈ fin,(Hp ops.size).heap q.1 = .opq ∧ goodOb q.2 = true ∧ ∃ i,who q.1 = some (i,q.2)) ∧ ∀ r q,who r = some q → ((Hp ops.size).settles fin).heap r ≠ .opq)
  (h : HRun P base W0 β0 f ro (.inRegion ops [] :: k) b ((Hp ops.size).settles fin) R) : HRun P base W0 β0 f ro (.code c :: k) a S R := by
 subst hc
 have alive : ∀ (L : Nat → Bool) (r i : Nat) (ob : HObj) (β : Bt) (hp : Array Obj),who r = some (i,ob) → L i = true → (envL W0 base who L).phi r β hp → AliveP base r ob β hp := by
  intro L r i ob β hp h1 h2 h3
  rw [envL_phi,h1] at h3
  simp only [Option.map_some,h2] at h3
  exact h3
 have hset' : ∀ j,j < ops.size → cls j = 2 → ∀ L : Nat → Bool,(∀ i,Anc ops i j → L i = true) → ∀ β w,Rel base (envL W0 base who L) β (Hp j) w → Rel base (envL W0 base who L) β (Hq j) w := by
  intro j hj hcj L hL β w hrel
  obtain ⟨l,e,hnd,hl⟩ := hset j hj hcj
  rw [e]
  refine hrel.settles l hnd fun q hq => ?_
  obtain ⟨g1,g2,i,g3,g4⟩ := hl q hq
  exact ⟨g1,g2,alive L q.1 i q.2 β w.heap g3 (hL i g4)⟩
 have hrest : ∀ L : Nat → Bool,(∀ i,i < ops.size → L i = true) → HRunE P base (envL W0 base who L) W0 β0 f ro (.inRegion ops [] :: k) b (Hp ops.size) R := by
  intro L hL
  refine HRunE.of h fun β w hrel => ?_
  refine (hrel.settles fin hfin.1 fun q hq => ?_).env rfl fun r hr hphi => ?_
  ·obtain ⟨g1,g2,i,g3⟩ := hfin.2.1 q hq
   exact ⟨g1,g2,alive L q.1 i q.2 β w.heap g3 (hL i (hmc i _ (hmw _ _ _ g3)).2)⟩
  ·cases hw : who r with
   | none => rw [envL_phi,hw] at hphi; exact hphi
   | some q => exact absurd hr (hfin.2.2 r q hw)
 intro β w a' g1 g2 g3 bb cs g4 g5 g6 g7
 obtain ⟨md,tt,hsch⟩ : ∃ md tt,Region.schedule (P.follows .mixedOrders) ops (w.tape w.drawn (.order bb.fn id)) = Region.linearise md ops tt := by
  unfold Region.schedule
  split <;> exact ⟨_,_,rfl⟩
 have hgo := draw_go4 (md := md) (P := P) (base := base) (W0 := W0) (β0 := β0) (f := f) (ro := ro) (k := k) (R := R) (a0 := a) (b := b) (val := val) (Hp := Hp) (Hq := Hq) (who := who) (mk := mk) hd hwm hmw hmc hopq hset' hq hb hrest
  ((List.range ops.size).filter (fun j => !(Array.replicate ops.size false).getD j true)).length (Array.replicate ops.size false) ops.size tt a (Hp 0) (by simp) (fun j o hj => by
   have := hj.2; simp [Array.getD_eq_getD_getElem?,hj.1] at this)
  ⟨rfl,rfl,fun i o t _ hX => by have := hX.2; simp [Array.getD_eq_getD_getElem?,hX.1] at this,fun t _ => rfl⟩
  ⟨0,Nat.zero_le _,fun w hw h => by simp [Array.getD_eq_getD_getElem?,hw] at h,fun w hw => by omega,rfl⟩ rfl (by
   have := List.length_filter_le (fun j => !(Array.replicate ops.size false).getD j true) (List.range ops.size)
   simpa using this)
 have hw : Rel base W0 β S { w with drawn := w.drawn + 1 } :=
  ⟨⟨g2.below.os,g2.below.tape,g2.below.output,g2.below.size,g2.below.block⟩,g2.size,g2.fresh,g2.lt,g2.objs,g2.disj⟩
 have hw' : Rel base (envL W0 base who fun i => (Array.replicate ops.size false).getD i true) β (Hp 0) { w with drawn := w.drawn + 1 } := by
  rw [hH0]
  have h0 : Rel base (envL W0 base who fun i => (Array.replicate ops.size false).getD i true) β S { w with drawn := w.drawn + 1 } := by
   refine hw.env rfl fun r hr hphi => ?_
   cases hwr : who r with
   | none => rw [envL_phi,hwr]; exact hphi
   | some q => have := (hw.fresh r (hwn r q hwr)).2; rw [this] at hr; cases hr
  refine h0.resvs n fun t ht => ?_
  obtain ⟨q,hq'⟩ := hwt t ht
  have hlt := (hmc q.1 _ (hmw _ q.1 q.2 hq')).2
  rw [envL_phi,hq']
  simp only [Option.map_some,Array.getD_eq_getD_getElem?,Array.getElem?_replicate,if_pos hlt,Option.getD_some]
  exact (hw.fresh _ (by omega)).1
 obtain ⟨β',v,S',v',w',k1,k2,k3,k4,k5⟩ := hgo β { w with drawn := w.drawn + 1 } a' g1 hw' g3 bb cs g4 g5 g6 g7
 refine ⟨β',v,S',v',w',k1,k2,k3,k4,k5.of_steps (P := P) (.one ?_)⟩
 have := stepR_region_draw (P := P) (b := bb) (a := a') (k := k) (cs := cs) (w := w) (ops := ops) (id := id)
 rw [hsch] at this
 exact this
end
end Go.Proofs.YtfningkbcfhheaaGreatDoor.HL
