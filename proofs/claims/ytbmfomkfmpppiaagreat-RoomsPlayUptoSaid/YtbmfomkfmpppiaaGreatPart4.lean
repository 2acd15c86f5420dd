/- The layer HL, part 14: from a call's answer to what a law's row asks. The layer HL, part 15: statements whose order is open, effects among them. The layer HL, part 15: plain laws of the abstract heap. -/
import Derived.Carry
import Derived.WalkKit
import Derived.ProofKit
import Derived.OpenShut
import Derived.JoinedCond
import Derived.ChangeMaps5
import Derived.Test.YtbmfomkfmpppiaaGreatPart3
namespace Go.Proofs.YtbmfomkfmpppiaaGreat.HL
open Go.RowKit Go.ChangeShapes Go.WideShapes Go.ChangeAt
theorem Zadv {H : Type} {enc : TypeId × Value → H} {P : Program} (hl : laidOutB P = true) {W W' : World} (hb : Below W.heap.size W W') : ∀ {ts : List TypeId} {vs : List Value} {ds : List (DataW H)} {ps : List MemPlace},
  DataW.TrodAll enc P W 0 (fun _ => true) true ts vs ds ps → ts.all (fun t => P.readableRec t && decide (t < P.types.size)) = true → ∀ sp : Nat → Bool,(∀ p ∈ ps,sp p.block = true) → (∀ p ∈ ps,p.block < W.heap.size) → DataW.TrodAll enc P W' 0 sp true ts vs ds ps := by
 intro ts
 induction ts with
 | nil => intro vs ds ps h _ sp _ _; obtain ⟨rfl,rfl,rfl⟩ := trodAll_nil h; exact trodAll_mk0
 | cons t ts ih =>
  intro vs ds ps h ha sp hs hlt
  obtain ⟨v,vs',d,ds',p,q,rfl,rfl,rfl,h1,h2⟩ := trodAll_cons h
  simp only [List.all_cons,Bool.and_eq_true,decide_eq_true_eq] at ha
  exact trodAll_cons_mk (WideElems.Trod_stays hl ha.1.1 ha.1.2 h1 (fun x hx => hb.same (hlt x (by simp [hx]))) (fun x hx => hs x (by simp [hx]))) (ih h2 ha.2 sp (fun x hx => hs x (by simp [hx])) (fun x hx => hlt x (by simp [hx])))
theorem post_true {H : Type} {enc : TypeId × Value → H} {P : Program} {f : Func} {s : ChangeSpec} {W W' : World} {args : Array Value} {ds gs : List (DataW H)} {before : List MemPlace} {b : TypeId} (hl : laidOutB P = true) (hts : f.params.toList.all (fun t => P.readableRec t && decide (t < P.types.size)) = true)
  (hv : s.vars = []) (hfn : s.fn H ds = { results := [.lit (.bool true)],args := ds }) (hW : DataW.Whole enc P f.params.toList s.vars false W args.toList ds gs before) (hb : Below W.heap.size W W') (hrt : f.resultTypes = #[b]) (hbool : P.underlying b = some .bool) :
  s.post enc P f false true false false W args (.bool true) W' := by
 have hWo := hW
 obtain ⟨p,q,hA,hV,hpq,hfz,hnd⟩ := hW
 rw [hv] at hV
 obtain ⟨rfl,rfl⟩ := trodVars_none hV
 have hsz : f.resultTypes.size = 1 := by rw [hrt]; rfl
 have hpl : p = before := by rw [hpq]; simp
 subst hpl
 have hlt : ∀ x ∈ p,x.block < W.heap.size := fun x hx => by simpa using hWo.lt x hx
 have hres : ∀ (b0 : Nat) (sp : Nat → Bool) (hd : Bool),DataW.TrodAll enc P W' b0 sp hd f.resultTypes.toList ((Value.bool true).resultList f.resultTypes.size) (s.fn H (ds ++ [])).results [] := by
  intro b0 sp hd
  rw [Ya5,hfn,hrt]
  exact trodAll_cons_mk (p := []) (p' := []) (shut_bool hbool _) trodAll_mk0
 have hargs : ∀ sp : Nat → Bool,(∀ x ∈ p,sp x.block = true) → DataW.TrodAll enc P W' 0 sp true f.params.toList args.toList (s.fn H (ds ++ [])).args p := by
  intro sp hs
  rw [Ya5,hfn]
  exact Zadv hl hb hA hts sp hs hlt
 have hvars : ∀ sp : Nat → Bool,(∀ x ∈ p,sp x.block = true) → DataW.TrodVars enc P W' sp s.vars (s.fn H (ds ++ [])).vars [] := by
  intro sp _
  rw [hv,Ya5,hfn]
  exact rfl
 have hold : ∀ x ∈ p,(fun b => decide (b < W.heap.size)) x.block = true := fun x hx => by simpa using hlt x hx
 refine ⟨ds,[],p,[],p,[],hWo,hres _ _ _,hargs _ hold,hvars _ hold,World.keptBut_mono (fun x hx => ⟨hx,?_⟩) (hb.frame (· ∈ p)),fun _ => ?_⟩
 ·exact Or.inr (by simpa using hx)
 ·refine ⟨ok_one hrt rfl (okWide_bool_mk hbool _),_,_,([] ++ p) ++ [],⟨[] ++ p,[],trodAll_append (hargs _ (fun _ _ => rfl)) (hres _ _ _),hvars _ (fun _ _ => rfl),rfl,?_,?_⟩,?_⟩
  ·intro b off hp
   have hp' : MemPlace.cell b off ∈ p := by simpa using hp
   rw [hb.frozen (hlt _ hp')]
   exact hfz b off hp'
  ·intro ha; cases ha
  ·intro x hx _
   simpa using hx
def S0 : HS := ⟨fun _ => .dead,0,fun _ => 0⟩
def B0 : Bt := fun _ => .none
theorem rel0 (W : World) : Rel W.heap.size W B0 S0 W :=
 ⟨Below.refl _ _,Yaa _,fun _ _ => ⟨rfl,rfl⟩,fun _ _ h => by simp [B0,Tgt.block] at h,fun _ => trivial,fun _ _ _ _ h => by simp [S0,HObj.own] at h⟩
theorem HCall.calls {P : Program} {W : World} {β0 : Bt} {f : FuncId} {args : List HV} {args' : Array Value} {S : HS} {R : HV → HS → Prop} (h : HCall P W.heap.size W β0 f args S R) (hrel : Rel W.heap.size W β0 S W) (ha : VRels β0 args args') (hR : ∀ v S',R v S' → v = .bool true) :
  Calls P f args' W (fun e W' => e = .returned (.bool true) ∧ Below W.heap.size W W') := by
 intro cs
 obtain ⟨β',v,S',v',w',fr,g1,g2,g3,g4,g5,g6,g7⟩ := h β0 W args' (Le.refl _) hrel ha cs
 have := hR _ _ g2
 subst this
 cases g3
 exact ⟨_,w',fr,⟨rfl,g4.below⟩,g5,g6,g7⟩
end Go.Proofs.YtbmfomkfmpppiaaGreat.HL
namespace Go.Proofs.YtbmfomkfmpppiaaGreat.HL
set_option linter.unusedVariables false
open Go.RowKit (Below)
section
variable {P : Program} {base : Nat} {W0 : World} {β0 : Bt} {f : FuncId} {ro : Option Nat} {k : List Item} {R : HV → HS → Prop} {ops : Array Oper}
def QOk2 (P : Program) (base : Nat) (W0 : World) (β0 : Bt) (o : Oper) (a : HAct) (S : HS) (v : HV) (S' : HS) : Prop :=
 ((∀ cs b,o.op ≠ .select cs b) ∧ OpOk P base W0 o a S v S') ∨
 ∃ fx xs tys fv vs,o.op = .call ⟨.value fx,xs,tys⟩ ∧ Ev a fx fv ∧ Evs a xs vs ∧ HInv P base W0 β0 fv vs S (fun v1 S1 => v1 = v ∧ S1 = S')
def QAt2 (P : Program) (base : Nat) (W0 : World) (β0 : Bt) (ops : Array Oper) (o : Oper) (a : HAct) (S : HS) (v : HV) (S' : HS) : Prop :=
 (Wants a ops o ∧ QOk2 P base W0 β0 o a S v S') ∨ (Skips a ops o ∧ v = .tup [] ∧ S' = S)
theorem Zais {B : HAct} {i : Nat} {rest : List Nat} {o : Oper} {v : HV} {S S' : HS} (ho : ops[i]? = some o) (hq : QAt2 P base W0 β0 ops o (B.mask (o.looksAt ops)) S v S')
  (h : HRun P base W0 β0 f ro (.inRegion ops rest :: k) (B.put o.dst v) S' R) : HRun P base W0 β0 f ro (.inRegion ops (i :: rest) :: k) B S R := by
 have hgd : ∀ g b,o.guard = some (g,b) → ∀ t,(ops[g]?).bind (·.dst) = some t → (o.looksAt ops).contains t = true := fun g b h1 t h2 => Zafv h1 h2
 rcases hq with ⟨hw,hq⟩ | ⟨hs,rfl,rfl⟩
 ·have hw' : Wants B ops o := by
   unfold Wants at hw ⊢
   cases hg : o.guard with
   | none => trivial
   | some q =>
    obtain ⟨j,want⟩ := q
    rw [hg] at hw
    obtain ⟨t,h1,h2⟩ := hw
    exact ⟨t,h1,Zadt h2 (hgd j want hg t h1)⟩
  rcases hq with ⟨hsel,hop⟩ | ⟨fx,xs,tys,fv,vs,hc,hf,hxs,hi⟩
  ·refine hr_op ho hw' ⟨hop.1,fun β w a' h1 h2 => ?_⟩ h
   obtain ⟨β',w',v',g1,g2,g3,g4⟩ := hop.2 β w (Zafu a' (o.looksAt ops)) h1 (mask_rel h2 _)
   have e : execOp (Zafu a' (o.looksAt ops)).eval o = execOp a'.eval o := execOp_congr o hsel fun x hx => Zaik fun t ht => Zaac (by rw [← ht]; exact hx)
   rw [e] at g2
   exact ⟨β',w',v',g1,g2,g3,g4⟩
  ·refine Zafn ho hw' hc (hf.unmask fun t ht => Zaac (by rw [hc,← ht]; simp [Op.operands,Call.operands])) ⟨hxs.1,fun j x u q1 q2 => (hxs.2 j x u q1 q2).unmask fun t ht => Zaac (by
    rw [hc,← ht]; simp only [Op.operands,Call.operands]; exact Array.mem_append_right _ (Array.mem_of_getElem? q1))⟩ hi ?_
   rintro _ _ ⟨rfl,rfl⟩
   exact h
 ·refine Zabo ho ?_ h
  unfold Skips at hs ⊢
  cases hg : o.guard with
  | none => rw [hg] at hs; exact hs
  | some q =>
   obtain ⟨j,want⟩ := q
   rw [hg] at hs
   obtain ⟨t,h1,h2⟩ := hs
   exact ⟨t,h1,h2.imp (fun h2 => Zadt h2 (hgd j want hg t h1)) (fun h2 => Zadt h2 (hgd j want hg t h1))⟩
def QCls (c : Nat) (S S' : HS) (p : HS → HS → Prop) : Prop :=
 match c with
 | 0 => S' = S ∧ ∀ T,p T T
 | 2 => p S S'
 | _ => S' = S ∧ p S S
def LateOk (ops : Array Oper) (cls : Nat → Nat) (i : Nat) (p : HS → Prop) (i0 : Nat) (vs : List (HV × HS)) : Prop :=
 ∀ j v S',vs[j]? = some (v,S') → cls (i0 + j) = 2 → ((Region.before ops).getD (i0 + j) 0).testBit i = false → p S'
def PastOk (ops : Array Oper) (i : Nat) (p : HS → Prop) (past : List (Nat × HS)) : Prop := ∀ q ∈ past,((Region.before ops).getD i 0).testBit q.1 = true ∨ p q.2
inductive QChain2 (P : Program) (base : Nat) (W0 : World) (β0 : Bt) (ops : Array Oper) (cls : Nat → Nat) : List (Nat × HS) → Nat → HAct → HS → List (HV × HS) → HAct → HS → Prop
 | nil (past : List (Nat × HS)) (a : HAct) (S : HS) : QChain2 P base W0 β0 ops cls past ops.size a S [] a S
 | cons {past past' : List (Nat × HS)} {i : Nat} {a : HAct} {S S' : HS} {o : Oper} {v : HV} {vs : List (HV × HS)} {b : HAct} {Sn : HS} (ho : ops[i]? = some o) (hq : QCls (cls i) S S' fun T T' => QAt2 P base W0 β0 ops o (a.mask (o.looksAt ops)) T v T')
   (hl : cls i = 3 → LateOk ops cls i (fun T => QAt2 P base W0 β0 ops o (a.mask (o.looksAt ops)) T v T) (i + 1) vs)
   (hb : cls i = 3 → PastOk ops i (fun T => QAt2 P base W0 β0 ops o (a.mask (o.looksAt ops)) T v T) past) (hp : (∀ q ∈ past,q ∈ past') ∧ (cls i = 2 → (i,S) ∈ past'))
   (h : QChain2 P base W0 β0 ops cls past' (i + 1) (a.put o.dst v) S' vs b Sn) : QChain2 P base W0 β0 ops cls past i a S ((v,S') :: vs) b Sn
def Zadw (ops : Array Oper) (cls rk : List Nat) : Bool :=
 let b := Region.before ops
 let n := ops.size
 (List.range n).all (fun j => match ops[j]? with
  | some o => o.after.all (fun e => (!Region.binds .any e || decide (e.on < j)) && (!Region.binds .text e || decide (e.on < j)) && (!Region.binds .gc e || decide (rk.getD e.on 0 < rk.getD j 0)) && decide (e.on < n))
  | none => true) &&
 ((List.range n).all fun i => (List.range n).all fun w =>
  match ops[i]?,ops[w]? with
  | some x,some y =>
   match y.dst with
   | none => true
   | some t => (decide (i = w) && !(x.looksAt ops).contains t) || (!decide (i = w) && decide (x.dst ≠ some t) && (!(x.looksAt ops).contains t || (decide (w < i) && (b.getD i 0).testBit w) || (decide (i < w) && (b.getD w 0).testBit i)))
  | _,_ => true) &&
 ((List.range n).all fun w => (List.range w).all fun i => !((cls.getD i 0 == 2 && cls.getD w 0 != 0 && cls.getD w 0 != 3) || (cls.getD i 0 != 0 && cls.getD i 0 != 3 && cls.getD w 0 == 2)) || (b.getD w 0).testBit i)
structure DrawOk2 (ops : Array Oper) (cls : Nat → Nat) : Prop where
 low : ∀ (j : Nat) (o : Oper),ops[j]? = some o → ∀ e ∈ o.after,Region.binds .any e = true → e.on < j
 rank : ∀ md : Region.Mode,∃ r : Nat → Nat,∀ (j : Nat) (o : Oper),ops[j]? = some o → ∀ e ∈ o.after,Region.binds md e = true → r e.on < r j ∧ e.on < ops.size
 diff : ∀ i w x y t,i < ops.size → w < ops.size → ops[i]? = some x → ops[w]? = some y → y.dst = some t → i ≠ w → x.dst ≠ some t
 look : ∀ i w x y t,i < ops.size → w < ops.size → ops[i]? = some x → ops[w]? = some y → y.dst = some t → (x.looksAt ops).contains t = true → (w < i ∧ Anc ops w i) ∨ (i < w ∧ Anc ops i w)
 ord : ∀ i w,i < w → w < ops.size → (cls i = 2 ∧ cls w ≠ 0 ∧ cls w ≠ 3) ∨ (cls i ≠ 0 ∧ cls i ≠ 3 ∧ cls w = 2) → Anc ops i w
theorem Zafx {cls rk : List Nat} (h : Zadw ops cls rk = true) : DrawOk2 ops (fun i => cls.getD i 0) := by
 unfold Zadw at h
 simp only [Bool.and_eq_true,List.all_eq_true,List.mem_range] at h
 obtain ⟨⟨h1,h2⟩,h3⟩ := h
 have hlow : ∀ (j : Nat) (o : Oper),ops[j]? = some o → ∀ e ∈ o.after,(Region.binds .any e = true → e.on < j) ∧ (Region.binds .text e = true → e.on < j) ∧ (Region.binds .gc e = true → rk.getD e.on 0 < rk.getD j 0) ∧ e.on < ops.size := by
  intro j o ho e he
  have := h1 j (Array.getElem?_eq_some_iff.1 ho).1
  rw [ho] at this
  simp only [Array.all_eq_true',Bool.and_eq_true,Bool.or_eq_true,Bool.not_eq_true',decide_eq_true_eq] at this
  obtain ⟨⟨⟨q1,q2⟩,q3⟩,q4⟩ := this e he
  exact ⟨fun hb => q1.resolve_left (by rw [hb]; simp),fun hb => q2.resolve_left (by rw [hb]; simp),fun hb => q3.resolve_left (by rw [hb]; simp),q4⟩
 refine ⟨fun j o ho e he => (hlow j o ho e he).1,fun md => ?_,fun i w x y t hi hw hx hy ht hne => ?_,fun i w x y t hi hw hx hy ht hl => ?_,fun i w hiw hw hc => ?_⟩
 ·cases md with
  | any => exact ⟨fun j => j,fun j o ho e he hb => ⟨(hlow j o ho e he).1 hb,(hlow j o ho e he).2.2.2⟩⟩
  | text => exact ⟨fun j => j,fun j o ho e he hb => ⟨(hlow j o ho e he).2.1 hb,(hlow j o ho e he).2.2.2⟩⟩
  | gc => exact ⟨fun j => rk.getD j 0,fun j o ho e he hb => ⟨(hlow j o ho e he).2.2.1 hb,(hlow j o ho e he).2.2.2⟩⟩
 ·have := h2 i hi w hw
  rw [hx,hy] at this
  simp only [ht] at this
  simp only [Bool.or_eq_true,Bool.and_eq_true,decide_eq_true_eq,Bool.not_eq_true',decide_eq_false_iff_not] at this
  rcases this with h | h
  ·exact absurd h.1 hne
  ·exact h.1.2
 ·have := h2 i hi w hw
  rw [hx,hy] at this
  simp only [ht] at this
  simp only [Bool.or_eq_true,Bool.and_eq_true,decide_eq_true_eq,Bool.not_eq_true',decide_eq_false_iff_not] at this
  rcases this with h | ⟨_,(h | h) | h⟩
  ·rw [h.2] at hl; cases hl
  ·rw [h] at hl; cases hl
  ·exact .inl ⟨h.1,Zz6 h.2⟩
  ·exact .inr ⟨h.1,Zz6 h.2⟩
 ·have := h3 w hw i hiw
  simp only [Bool.or_eq_true,Bool.not_eq_true',Bool.or_eq_false_iff,Bool.and_eq_false_iff] at this
  rcases this with h | h
  ·exfalso
   obtain ⟨q1,q2⟩ := h
   rcases hc with ⟨c1,c2,c3⟩ | ⟨c1,c3,c2⟩
   ·rcases q1 with (q | q) | q
    ·simp only [beq_eq_false_iff_ne] at q; exact q c1
    ·simp only [bne_eq_false_iff_eq] at q; exact c2 q
    ·simp only [bne_eq_false_iff_eq] at q; exact c3 q
   ·rcases q2 with (q | q) | q
    ·simp only [bne_eq_false_iff_eq] at q; exact c1 q
    ·simp only [bne_eq_false_iff_eq] at q; exact c3 q
    ·simp only [beq_eq_false_iff_ne] at q; exact q c2
  ·exact Zz6 h
theorem Agrees.step2 {cls : Nat → Nat} {a0 : HAct} {val : Nat → HV} {X : Nat → Prop} {B : HAct} (hd : DrawOk2 ops cls) (h : Agrees ops a0 val ops.size X B) {i : Nat} {o : Oper} (him : i < ops.size) (ho : ops[i]? = some o) (hX : ¬ X i) :
  Agrees ops a0 val ops.size (fun j => X j ∨ j = i) (B.put o.dst (val i)) := by
 cases hdst : o.dst with
 | none =>
  refine ⟨h.len,h.defers,fun j x t hj hXj hx ht => ?_,fun t ht => h.rest t fun j x hj hXj hx => ht j x hj (.inl hXj) hx⟩
  rcases hXj with hXj | rfl
  ·exact h.made j x t hj hXj hx ht
  ·rw [ho] at hx; cases hx; rw [hdst] at ht; cases ht
 | some d =>
  refine ⟨by simp [HAct.put,h.len],h.defers,fun j x t hj hXj hx ht => ?_,fun t ht => ?_⟩
  ·rcases hXj with hXj | rfl
   ·have hne : j ≠ i := fun e => hX (e ▸ hXj)
    have hdt : d ≠ t := fun e => hd.diff i j o x t him hj ho hx ht (fun e => hne e.symm) (by rw [hdst,e])
    simp only [HAct.put]
    rw [List.getElem?_set_ne hdt]
    exact h.made j x t hj hXj hx ht
   ·rw [ho] at hx; cases hx
    rw [hdst] at ht; cases ht
    simp only [HAct.put,List.getElem?_set,h.len,if_true]
  ·have hdt : d ≠ t := fun e => ht i o him (.inr rfl) ho (by rw [hdst,e])
   simp only [HAct.put]
   rw [List.getElem?_set_ne hdt]
   exact h.rest t fun j x hj hXj hx => ht j x hj (.inl hXj) hx
theorem QChain2.len {cls : Nat → Nat} {a : HAct} {S : HS} {vs : List (HV × HS)} {b : HAct} {Sn : HS} {i0 : Nat} {past : List (Nat × HS)} (h : QChain2 P base W0 β0 ops cls past i0 a S vs b Sn) : i0 + vs.length = ops.size := by
 induction h with
 | nil => rfl
 | cons _ _ _ _ _ _ ih => simp only [List.length_cons]; omega
theorem QChain2.spell {cls : Nat → Nat} {a : HAct} {S : HS} {vs : List (HV × HS)} {b : HAct} {Sn : HS} {i0 : Nat} {past : List (Nat × HS)} (h : QChain2 P base W0 β0 ops cls past i0 a S vs b Sn) : ∀ (a0 : HAct) (val : Nat → HV) (Hp : Nat → HS),Hp i0 = S → (∀ j,i0 ≤ j → j < ops.size → (val j,Hp (j + 1)) = vs.getD (j - i0) (.tup [],Sn)) → DrawOk2 ops cls → (∀ w,w < i0 → cls w = 2 → (w,Hp w) ∈ past) → i0 ≤ ops.size ∧ Hp ops.size = Sn ∧ (Agrees ops a0 val ops.size (fun j => j < i0) a →
  (∀ j o,i0 ≤ j → j < ops.size → ops[j]? = some o → ∃ A,Agrees ops a0 val ops.size (fun l => l < j) A ∧ QCls (cls j) (Hp j) (Hp (j + 1)) (fun T T' => QAt2 P base W0 β0 ops o (A.mask (o.looksAt ops)) T (val j) T') ∧ (cls j = 3 → ∀ w,j < w → w < ops.size → cls w = 2 → ((Region.before ops).getD w 0).testBit j = false → QAt2 P base W0 β0 ops o (A.mask (o.looksAt ops)) (Hp (w + 1)) (val j) (Hp (w + 1))) ∧ (cls j = 3 → ∀ w,w < j → cls w = 2 → ((Region.before ops).getD j 0).testBit w = false → QAt2 P base W0 β0 ops o (A.mask (o.looksAt ops)) (Hp w) (val j) (Hp w))) ∧ Agrees ops a0 val ops.size (fun l => l < ops.size) b) := by
 induction h with
 | nil past a S => intro a0 val Hp h0 _ _ _; exact ⟨Yaa _,h0,fun h => ⟨fun j o h1 h2 => by omega,h⟩⟩
 | @cons past past' i a S S' o v vs b Sn ho hq hl hb hp h ih =>
  intro a0 val Hp h0 hval hd hpast
  have hi : i < ops.size := (Array.getElem?_eq_some_iff.1 ho).1
  have hv0 := hval i (Yaa _) hi
  simp only [Nat.sub_self,List.getD_cons_zero,Prod.mk.injEq] at hv0
  obtain ⟨g1,g2,g3⟩ := ih a0 val Hp hv0.2 (fun j h1 h2 => by rw [hval j (by omega) h2,show j - i = (j - (i + 1)) + 1 by omega]; rfl) hd (fun w hw hcw => by
   rcases Yan w i with h5 | h5
   ·exact hp.1 _ (hpast w h5 hcw)
   ·have : w = i := by omega
    subst this
    rw [h0]; exact hp.2 hcw)
  refine ⟨by omega,g2,fun hA => ?_⟩
  have hst := hA.step2 hd (i := i) hi ho (by omega)
  have heq : (fun j => j < i ∨ j = i) = (fun j => j < i + 1) := by funext j; simp only [eq_iff_iff]; omega
  rw [heq,hv0.1] at hst
  obtain ⟨k1,k2⟩ := g3 hst
  refine ⟨fun j o' h1 h2 h3 => ?_,k2⟩
  by_cases e : j = i
  ·subst e
   rw [ho] at h3; cases h3
   refine ⟨a,hA,by rw [hv0.1,h0,hv0.2]; exact hq,fun h3 w q1 q2 q3 q4 => ?_,fun h3 w q1 q2 q3 => by
    rcases hb h3 _ (hpast w q1 q2) with g | g
    ·rw [g] at q3; cases q3
    ·rw [hv0.1]; exact g⟩
   have hlen := h.len
   have hw := hval w (by omega) q2
   have hix : w - (j + 1) < vs.length := by omega
   rw [show w - j = (w - (j + 1)) + 1 by omega,List.getD_cons_succ,List.getD_eq_getElem?_getD,List.getElem?_eq_getElem hix,Option.getD_some] at hw
   have := hl h3 (w - (j + 1)) (val w) (Hp (w + 1)) (by rw [List.getElem?_eq_getElem hix,hw]) (by rw [show j + 1 + (w - (j + 1)) = w by omega]; exact q3) (by rw [show j + 1 + (w - (j + 1)) = w by omega]; exact q4)
   rw [hv0.1]; exact this
  ·exact k1 j o' (by omega) h2 h3
theorem draw_go2 {cls : Nat → Nat} {md : Region.Mode} {a0 b : HAct} {val : Nat → HV} {Hp : Nat → HS} (hd : DrawOk2 ops cls)
  (hq : ∀ j o,j < ops.size → ops[j]? = some o → ∃ A,Agrees ops a0 val ops.size (fun l => l < j) A ∧ QCls (cls j) (Hp j) (Hp (j + 1)) (fun T T' => QAt2 P base W0 β0 ops o (A.mask (o.looksAt ops)) T (val j) T') ∧ (cls j = 3 → ∀ w,j < w → w < ops.size → cls w = 2 → ((Region.before ops).getD w 0).testBit j = false → QAt2 P base W0 β0 ops o (A.mask (o.looksAt ops)) (Hp (w + 1)) (val j) (Hp (w + 1))) ∧ (cls j = 3 → ∀ w,w < j → cls w = 2 → ((Region.before ops).getD j 0).testBit w = false → QAt2 P base W0 β0 ops o (A.mask (o.looksAt ops)) (Hp w) (val j) (Hp w))) (hb : Agrees ops a0 val ops.size (fun l => l < ops.size) b)
  (hrest : HRun P base W0 β0 f ro (.inRegion ops [] :: k) b (Hp ops.size) R) :
  ∀ (r : Nat) (listed : Array Bool) (fuel t : Nat) (B : HAct) (T : HS),listed.size = ops.size → Closed ops (fun j => j < ops.size ∧ listed.getD j true = true) →
   Agrees ops a0 val ops.size (fun j => j < ops.size ∧ listed.getD j true = true) B → (∃ q,q ≤ ops.size ∧ (∀ w,w < ops.size → listed.getD w true = true → cls w = 2 → w < q) ∧ (∀ w,w < q → cls w = 2 → listed.getD w true = true) ∧ T = Hp q) →
   ((List.range ops.size).filter (fun j => !listed.getD j true)).length = r → r ≤ fuel →
   HRun P base W0 β0 f ro (.inRegion ops (Region.linearise.go md ops fuel t listed []) :: k) B T R := by
 have hconst : ∀ x y,x ≤ y → y ≤ ops.size → (∀ w,x ≤ w → w < y → cls w ≠ 2) → Hp x = Hp y := by
  intro x y hxy
  induction y with
  | zero => intro _ _; rw [show x = 0 by omega]
  | succ y ihy =>
   intro hy hno
   by_cases e : x = y + 1
   ·rw [e]
   ·rw [ihy (by omega) (by omega) fun w h1 h2 => hno w h1 (by omega)]
    obtain ⟨A,_,hc,_,_⟩ := hq y ops[y] (by omega) (Array.getElem?_eq_getElem (by omega))
    have hne := hno y (by omega) (by omega)
    unfold QCls at hc
    split at hc
    ·exact hc.1.symm
    ·rename_i h2; exact absurd h2 hne
    ·exact hc.1.symm
 intro r
 induction r with
 | zero =>
  intro listed fuel t B T hsz hcl hB hH hr hf
  have hall : ∀ j,j < ops.size → listed.getD j true = true := by
   intro j hj
   cases hc : listed.getD j true with
   | true => rfl
   | false =>
    have : j ∈ (List.range ops.size).filter (fun j => !listed.getD j true) := by simp only [Ya8,List.mem_range]; exact ⟨hj,by rw [hc]; rfl⟩
    have := List.length_pos_of_mem this
    omega
  have heq : B = b := hB.eq hb fun i hi => ⟨fun _ => hi,fun _ => ⟨by omega,hall i hi⟩⟩
  have hT : T = Hp ops.size := by
   obtain ⟨q,q1,q2,q3,q4⟩ := hH
   rw [q4]
   refine hconst q _ q1 (Yaa _) fun w h1 h2 h3 => ?_
   have := q2 w h2 (hall w h2) h3
   omega
  have hnil : Region.linearise.go md ops fuel t listed [] = [] := by
   cases fuel with
   | zero => rfl
   | succ fuel =>
    rw [Zain]
    have hemp : Region.ready md ops listed = [] := by
     cases hr' : Region.ready md ops listed with
     | nil => rfl
     | cons x xs =>
      obtain ⟨h1,h2,_⟩ := Zaev (md := md) (ops := ops) (listed := listed) (i := x) (by rw [hr']; simp)
      rw [hall x h1] at h2; cases h2
    rw [hemp]; rfl
  rw [hnil,heq,hT]
  exact hrest
 | succ r ih =>
  intro listed fuel t B T hsz hcl hB hH hr hf
  -- there is an operation that is ready
  obtain ⟨rk,hrk⟩ := hd.rank md
  have hex : ∃ j,j < ops.size ∧ listed.getD j true = false ∧ ∀ i,i < ops.size → rk i < rk j → listed.getD i true = true := by
   have hne : ∃ j,j < ops.size ∧ listed.getD j true = false := by
    cases hl : (List.range ops.size).filter (fun j => !listed.getD j true) with
    | nil => rw [hl] at hr; simp at hr
    | cons x xs =>
     have : x ∈ (List.range ops.size).filter (fun j => !listed.getD j true) := by rw [hl]; simp
     simp only [Ya8,List.mem_range,Bool.not_eq_true'] at this
     exact ⟨x,this.1,this.2⟩
   have key : ∀ n j,rk j = n → j < ops.size → listed.getD j true = false → ∃ j,j < ops.size ∧ listed.getD j true = false ∧ ∀ i,i < ops.size → rk i < rk j → listed.getD i true = true := by
    intro n
    induction n using Nat.strongRecOn with
    | _ n ihn =>
     intro j hn h1 h2
     by_cases hmin : ∀ i,i < ops.size → rk i < rk j → listed.getD i true = true
     ·exact ⟨j,h1,h2,hmin⟩
     ·simp only [Classical.not_forall] at hmin
      obtain ⟨i,hi,hi2,hi3⟩ := hmin
      exact ihn (rk i) (by omega) i rfl hi (by simpa using hi3)
   obtain ⟨j,h1,h2⟩ := hne
   exact key _ j rfl h1 h2
  obtain ⟨j0,hj1,hj2,hj3⟩ := hex
  have hj0 : j0 ∈ Region.ready md ops listed := by
   unfold Region.ready
   simp only [Ya8,List.mem_range,Bool.and_eq_true,Bool.not_eq_true']
   refine ⟨hj1,hj2,?_⟩
   rw [Array.getElem?_eq_getElem hj1]
   simp only [Option.map_some,Option.getD_some,Array.all_eq_true',Bool.or_eq_true,Bool.not_eq_true']
   intro e he
   cases hb2 : Region.binds md e with
   | false => exact .inl rfl
   | true =>
    right
    obtain ⟨g1,g2⟩ := hrk j0 _ (Array.getElem?_eq_getElem hj1) e he hb2
    have := hj3 e.on g2 g1
    rw [Array.getD_eq_getD_getElem?] at this ⊢
    rw [Array.getElem?_eq_getElem (by omega)] at this ⊢
    exact this
  cases fuel with
  | zero => omega
  | succ fuel =>
   have hpos : 0 < (Region.ready md ops listed).length := List.length_pos_of_mem hj0
   have hlt : t % (Region.ready md ops listed).length < (Region.ready md ops listed).length := Nat.mod_lt _ hpos
   rw [Zain,List.getElem?_eq_getElem hlt]
   simp only []
   generalize hi : (Region.ready md ops listed)[t % (Region.ready md ops listed).length] = i
   have hmem : i ∈ Region.ready md ops listed := by rw [← hi]; exact Yae hlt
   obtain ⟨i1,i2,i3⟩ := Zaev hmem
   have ho : ops[i]? = some ops[i] := Array.getElem?_eq_getElem i1
   have hXi : ¬ (i < ops.size ∧ listed.getD i true = true) := fun h => by rw [i2] at h; cases h.2
   -- what it waits for has been made
   have hanc : ∀ l,Anc ops l i → l < ops.size ∧ listed.getD l true = true := by
    have key : ∀ l j,Anc ops l j → j = i → l < ops.size ∧ listed.getD l true = true := by
     intro l j ha
     induction ha with
     | @edge l j o e ho2 he hb2 hi2 =>
      intro hj
      subst hj
      have hlt2 := hd.low _ _ ho2 e he hb2
      have := i3 o ho2 e he hb2
      rw [hi2] at this hlt2
      refine ⟨by omega,?_⟩
      rw [Array.getD_eq_getD_getElem?] at this ⊢
      rw [Array.getElem?_eq_getElem (by omega)] at this ⊢
      exact this
     | @trans l j q h k _ ih2 =>
      intro hq2
      exact hcl.anc h (ih2 hq2)
    exact fun l hl => key l i hl rfl
   obtain ⟨A,hA1,hA2,hA3,hA4⟩ := hq i _ i1 ho
   have hmask : A.mask ((ops[i]).looksAt ops) = B.mask ((ops[i]).looksAt ops) := by
    refine Zahj (by rw [hA1.len,hB.len]) fun t2 ht2 => hA1.congr hB fun w y hw hy hdst => ?_
    rcases hd.look i w _ y t2 i1 hw ho hy hdst ht2 with ⟨h1,h2⟩ | ⟨h1,h2⟩
    ·exact ⟨fun _ => hanc w h2,fun _ => h1⟩
    ·refine ⟨fun h => by omega,fun h => ?_⟩
     exact absurd (hcl.anc h2 h) hXi
   rw [hmask] at hA2 hA3 hA4
   obtain ⟨q,q1,q2,q3,q4⟩ := hH
   -- where the heap is something to it,it is the one that it has in the text's order
   have hheap : cls i ≠ 0 → cls i ≠ 3 → T = Hp i := by
    intro hc0 hc3
    rw [q4]
    rcases Nat.le_total q i with hle | hle
    ·refine hconst q i hle (by omega) fun w h1 h2 h3 => ?_
     have := q2 w (by omega) (hanc w (hd.ord w i h2 i1 (.inl ⟨h3,hc0,hc3⟩))).2 h3
     omega
    ·refine (hconst i q hle q1 fun w h1 h2 h3 => ?_).symm
     have hw := q3 w h2 h3
     rcases Nat.eq_or_lt_of_le h1 with e | h4
     ·rw [← e,i2] at hw; cases hw
     ·exact hXi (hcl.anc (hd.ord i w h4 (by omega) (.inr ⟨hc0,hc3,h3⟩)) ⟨by omega,hw⟩)
   have hget : ∀ j,j < ops.size → ((listed.setIfInBounds i true).getD j true = true ↔ (listed.getD j true = true ∨ j = i)) := by
    intro j hj
    rw [Array.getD_eq_getD_getElem?,Array.getElem?_setIfInBounds]
    by_cases e : i = j
    ·subst e; rw [if_pos rfl,if_pos (by omega)]; simp
    ·rw [if_neg e,← Array.getD_eq_getD_getElem?]
     exact ⟨fun h => .inl h,fun h => h.resolve_right fun h2 => e h2.symm⟩
   obtain ⟨T',hstep,hH'⟩ : ∃ T',QAt2 P base W0 β0 ops ops[i] (B.mask ((ops[i]).looksAt ops)) T (val i) T' ∧ ∃ q,q ≤ ops.size ∧ (∀ w,w < ops.size → (listed.setIfInBounds i true).getD w true = true → cls w = 2 → w < q) ∧ (∀ w,w < q → cls w = 2 → (listed.setIfInBounds i true).getD w true = true) ∧ T' = Hp q := by
    have hkeep : cls i ≠ 2 → ∃ q,q ≤ ops.size ∧ (∀ w,w < ops.size → (listed.setIfInBounds i true).getD w true = true → cls w = 2 → w < q) ∧ (∀ w,w < q → cls w = 2 → (listed.setIfInBounds i true).getD w true = true) ∧ T = Hp q := by
     intro hne
     refine ⟨q,q1,fun w hw hl hc => ?_,fun w hw hc => (hget w (by omega)).2 (.inl (q3 w hw hc)),q4⟩
     rcases (hget w hw).1 hl with h | h
     ·exact q2 w hw h hc
     ·subst h; exact absurd hc hne
    unfold QCls at hA2
    split at hA2
    ·rename_i hc; exact ⟨T,hA2.2 T,hkeep (by omega)⟩
    ·rename_i hc
     refine ⟨Hp (i + 1),by rw [hheap (by omega) (by omega)]; exact hA2,i + 1,by omega,fun w hw hl hcw => ?_,fun w hw hcw => ?_,rfl⟩
     ·rcases (hget w hw).1 hl with h | h
      ·rcases Yan i w with h5 | h5
       ·exact absurd (hcl.anc (hd.ord i w h5 hw (.inl ⟨hc,by omega,by omega⟩)) ⟨hw,h⟩) hXi
       ·omega
      ·omega
     ·rcases Nat.eq_or_lt_of_le (Nat.le_of_lt_succ hw) with e | h5
      ·exact (hget w (by omega)).2 (.inr e)
      ·exact (hget w (by omega)).2 (.inl (hanc w (hd.ord w i h5 i1 (.inl ⟨hcw,by omega,by omega⟩))).2)
    ·rename_i hc0 hc2
     by_cases hc3 : cls i = 3
     ·refine ⟨T,?_,hkeep hc2⟩
      rw [q4]
      rcases Nat.le_total q i with hle | hle
      ·have key : ∀ d y,i - y = d → q ≤ y → y ≤ i → QAt2 P base W0 β0 ops ops[i] (B.mask ((ops[i]).looksAt ops)) (Hp y) (val i) (Hp y) := by
        intro d
        induction d with
        | zero => intro y h0 _ h2; rw [show y = i by omega]; exact hA2.2
        | succ d ihd =>
         intro y h0 h1 h2
         by_cases hcy : cls y = 2
         ·refine hA4 hc3 y (by omega) hcy ?_
          cases hbit : ((Region.before ops).getD i 0).testBit y with
          | false => rfl
          | true =>
           have := q2 y (by omega) (hanc y (Zz6 hbit)).2 hcy
           omega
         ·have hy := ihd (y + 1) (by omega) (by omega) (by omega)
          rw [hconst y (y + 1) (by omega) (by omega) fun w g1 g2 g3 => by
           have : w = y := by omega
           subst this; exact hcy g3]
          exact hy
       exact key _ q rfl (Yaa _) hle
      ·have key : ∀ y,i ≤ y → y ≤ q → QAt2 P base W0 β0 ops ops[i] (B.mask ((ops[i]).looksAt ops)) (Hp y) (val i) (Hp y) := by
        intro y
        induction y with
        | zero => intro h1 _; rw [show (0 : Nat) = i by omega]; exact hA2.2
        | succ y ihy =>
         intro h1 h2
         by_cases e : i = y + 1
         ·rw [← e]; exact hA2.2
         ·have hy := ihy (by omega) (by omega)
          by_cases hcy : cls y = 2
          ·have hyl := q3 y (by omega) hcy
           have hne : i ≠ y := fun e => by rw [e] at hc3; omega
           refine hA3 hc3 y (by omega) (by omega) hcy ?_
           cases hbit : ((Region.before ops).getD y 0).testBit i with
           | false => rfl
           | true => exact absurd (hcl.anc (Zz6 hbit) ⟨by omega,hyl⟩) hXi
          ·rw [← hconst y (y + 1) (by omega) (by omega) fun w g1 g2 g3 => by
            have : w = y := by omega
            subst this; exact hcy g3]
           exact hy
       exact key q hle (Yaa _)
     ·exact ⟨T,by rw [hheap hc0 hc3]; exact hA2.2,hkeep hc2⟩
   refine Zais ho hstep ?_
   have hXeq : (fun j => (j < ops.size ∧ listed.getD j true = true) ∨ j = i) = (fun j => j < ops.size ∧ (listed.setIfInBounds i true).getD j true = true) := by
    funext j
    simp only [eq_iff_iff]
    constructor
    ·rintro (⟨h1,h2⟩ | rfl)
     ·exact ⟨h1,(hget j h1).2 (.inl h2)⟩
     ·exact ⟨i1,(hget j i1).2 (.inr rfl)⟩
    ·rintro ⟨h1,h2⟩
     rcases (hget j h1).1 h2 with h | h
     ·exact .inl ⟨h1,h⟩
     ·exact .inr h
   refine ih _ fuel _ _ _ (by simp [hsz]) ?_ ?_ hH' ?_ (by omega)
   ·intro j o hXj hoj e he hb2
    have hlt2 := hd.low _ _ hoj e he hb2
    rcases (hget j hXj.1).1 hXj.2 with h | h
    ·have := hcl j o ⟨hXj.1,h⟩ hoj e he hb2
     exact ⟨this.1,(hget _ this.1).2 (.inl this.2)⟩
    ·subst h
     have := hanc e.on (.edge hoj he hb2 rfl)
     exact ⟨this.1,(hget _ this.1).2 (.inl this.2)⟩
   ·rw [← hXeq]
    exact hB.step2 hd i1 ho hXi
   ·-- one less
    have hcount : ∀ (l : List Nat),l.Nodup → i ∈ l → (∀ j ∈ l,j < ops.size) → (l.filter (fun j => !listed.getD j true)).length = (l.filter (fun j => !(listed.setIfInBounds i true).getD j true)).length + 1 := by
     intro l
     induction l with
     | nil => intro _ h; simp at h
     | cons x l ihl =>
      intro hnd hmem2 hall
      rw [List.nodup_cons] at hnd
      have hb1 : ∀ j,j < ops.size → j ≠ i → (listed.setIfInBounds i true).getD j true = listed.getD j true := by
       intro j hj hne
       rw [Array.getD_eq_getD_getElem?,Array.getElem?_setIfInBounds,if_neg (fun e => hne e.symm),← Array.getD_eq_getD_getElem?]
      rcases Yac.1 hmem2 with rfl | hml
      ·have e1 : (!listed.getD i true) = true := by rw [i2]; rfl
       have e2 : (!(listed.setIfInBounds i true).getD i true) = false := by rw [(hget i i1).2 (.inr rfl)]; rfl
       rw [List.filter_cons_of_pos (by exact e1),List.filter_cons_of_neg (by rw [e2]; simp)]
       simp only [List.length_cons,Nat.add_right_cancel_iff]
       congr 1
       apply List.filter_congr
       intro j hj
       rw [hb1 j (hall j (by simp [hj])) (fun e => hnd.1 (e ▸ hj))]
      ·have hne : x ≠ i := fun e => hnd.1 (e ▸ hml)
       have hx := hb1 x (hall x (by simp)) hne
       have := ihl hnd.2 hml (fun j hj => hall j (by simp [hj]))
       simp only [List.filter_cons,hx]
       split
       ·simp only [List.length_cons]; omega
       ·exact this
    have := hcount (List.range ops.size) List.nodup_range (by simpa using i1) (fun j hj => by simpa using hj)
    omega
theorem q_draw2 {c : Code} {id : Nat} {a b : HAct} {S Sn : HS} {cls rk : List Nat} {vs : List (HV × HS)} (hc : c = .region id ops true) (hm : Zadw ops cls rk = true) (hq : QChain2 P base W0 β0 ops (fun i => cls.getD i 0) [] 0 a S vs b Sn)
  (h : HRun P base W0 β0 f ro (.inRegion ops [] :: k) b Sn R) : HRun P base W0 β0 f ro (.code c :: k) a S R := by
 subst hc
 have hd := Zafx hm
 let val : Nat → HV := fun j => (vs.getD j (.tup [],Sn)).1
 let Hp : Nat → HS := fun j => match j with | 0 => S | j + 1 => (vs.getD j (.tup [],Sn)).2
 obtain ⟨_,hHn,h2⟩ := hq.spell a val Hp rfl (fun j _ _ => by simp [val,Hp]) hd (fun w hw => by omega)
 obtain ⟨h3,h4⟩ := h2 ⟨rfl,rfl,fun i o t _ hX => by omega,fun t _ => rfl⟩
 intro β w a' g1 g2 g3 bb cs g4 g5 g6 g7
 obtain ⟨md,tt,hsch⟩ : ∃ md tt,Region.schedule (P.follows .mixedOrders) ops (w.tape w.drawn (.order bb.fn id)) = Region.linearise md ops tt := by
  unfold Region.schedule
  split <;> exact ⟨_,_,rfl⟩
 have hgo := draw_go2 (md := md) (P := P) (base := base) (W0 := W0) (β0 := β0) (f := f) (ro := ro) (k := k) (R := R) (a0 := a) (b := b) (val := val) (Hp := Hp) hd (fun j o hj ho => h3 j o (Yak _) hj ho) h4 (by rw [hHn]; exact h)
  ((List.range ops.size).filter (fun j => !(Array.replicate ops.size false).getD j true)).length (Array.replicate ops.size false) ops.size tt a S (by simp) (fun j o hj => by
   have := hj.2; simp [Array.getD_eq_getD_getElem?,hj.1] at this)
  ⟨rfl,rfl,fun i o t _ hX => by have := hX.2; simp [Array.getD_eq_getD_getElem?,hX.1] at this,fun t _ => rfl⟩
  ⟨0,Yak _,fun w hw h => by simp [Array.getD_eq_getD_getElem?,hw] at h,fun w hw => by omega,rfl⟩ rfl (by
   have := Ybg (fun j => !(Array.replicate ops.size false).getD j true) (List.range ops.size)
   simpa using this)
 have hw : Rel base W0 β S { w with drawn := w.drawn + 1 } :=
  ⟨⟨g2.below.os,g2.below.tape,g2.below.output,g2.below.size,g2.below.block⟩,g2.size,g2.fresh,g2.lt,g2.objs,g2.disj⟩
 obtain ⟨β',v,S',v',w',k1,k2,k3,k4,k5⟩ := hgo β { w with drawn := w.drawn + 1 } a' g1 hw g3 bb cs g4 g5 g6 g7
 refine ⟨β',v,S',v',w',k1,k2,k3,k4,k5.of_steps (P := P) (.one ?_)⟩
 have := stepR_region_draw (P := P) (b := bb) (a := a') (k := k) (cs := cs) (w := w) (ops := ops) (id := id)
 rw [hsch] at this
 exact this
def LatesOk (ops : Array Oper) (cls : Nat → Nat) (i : Nat) (vs : List (HV × HS)) (pend : List (Nat × (HS → Prop))) : Prop := ∀ q ∈ pend,LateOk ops cls q.1 q.2 i vs
def DrawGoP (P : Program) (base : Nat) (W0 : World) (β0 : Bt) (f : FuncId) (ro : Option Nat) (k : List Item) (ops : Array Oper) (cls : List Nat) (past : List (Nat × HS)) (pend : List (Nat × (HS → Prop))) (i : Nat) (a : HAct) (S : HS) (R : HV → HS → Prop) : Prop :=
 ∃ vs b Sn,QChain2 P base W0 β0 ops (fun i => cls.getD i 0) past i a S vs b Sn ∧ LatesOk ops (fun i => cls.getD i 0) i vs pend ∧ HRun P base W0 β0 f ro (.inRegion ops [] :: k) b Sn R
abbrev Zy2 (P : Program) (base : Nat) (W0 : World) (β0 : Bt) (f : FuncId) (ro : Option Nat) (k : List Item) (ops : Array Oper) (cls : List Nat) (i : Nat) (a : HAct) (S : HS) (R : HV → HS → Prop) : Prop :=
 DrawGoP P base W0 β0 f ro k ops cls [] [] i a S R
def Zait (P : Program) (base : Nat) (W0 : World) (β0 : Bt) (ops : Array Oper) (i : Nat) (a : HAct) (v : HV) (T : HS) : Prop := ∀ o,ops[i]? = some o → QAt2 P base W0 β0 ops o (a.mask (o.looksAt ops)) T v T
def PendOk (ops : Array Oper) (i : Nat) (S' : HS) : List (Nat × (HS → Prop)) → Prop
 | [] => True
 | q :: l => (((Region.before ops).getD i 0).testBit q.1 = true ∨ q.2 S') ∧ PendOk ops i S' l
theorem PendOk.mem {i : Nat} {S' : HS} : ∀ {l : List (Nat × (HS → Prop))},PendOk ops i S' l → ∀ q ∈ l,((Region.before ops).getD i 0).testBit q.1 = true ∨ q.2 S'
 | [],_,q,h => by cases h
 | x :: l,h,q,hq => by
  rcases Yac.1 hq with e | e
  ·subst e; exact h.1
  ·exact PendOk.mem h.2 q e
def XAt (P : Program) (base : Nat) (W0 : World) (β0 : Bt) (ops : Array Oper) (c i : Nat) (a : HAct) (S : HS) (dst : Option Tmp) (v : HV) (S' : HS) : Prop :=
 ∃ o,ops[i]? = some o ∧ o.dst = dst ∧ QCls c S S' fun T T' => QAt2 P base W0 β0 ops o (a.mask (o.looksAt ops)) T v T'
variable {cls : List Nat} {i : Nat} {a : HAct} {S S' : HS} {dst : Option Tmp} {v : HV} {op : Op} {ts : List Tmp}
theorem Zx8 {c : Code} {id : Nat} {rk : List Nat} (hc : c = .region id ops true) (hm : Zadw ops cls rk = true) (h : Zy2 P base W0 β0 f ro k ops cls 0 a S R) : HRun P base W0 β0 f ro (.code c :: k) a S R :=
 let ⟨_,_,_,h1,_,h2⟩ := h
 q_draw2 hc hm h1 h2
theorem Zx5 {past : List (Nat × HS)} {pend : List (Nat × (HS → Prop))} (hi : i = ops.size) (h : HRun P base W0 β0 f ro (.inRegion ops [] :: k) a S R) : DrawGoP P base W0 β0 f ro k ops cls past pend i a S R := by
 subst hi; exact ⟨[],a,S,.nil past a S,fun q _ j v S' hj => by simp at hj,h⟩
theorem x_goQ {past past' : List (Nat × HS)} {pend : List (Nat × (HS → Prop))} {c : Nat} (hx : XAt P base W0 β0 ops c i a S dst v S') (hc : cls.getD i 0 = c) (h3 : c ≠ 3) (hp : c ≠ 2 ∨ PendOk ops i S' pend) (hpp : (∀ q ∈ past,q ∈ past') ∧ (c = 2 → (i,S) ∈ past')) (h : DrawGoP P base W0 β0 f ro k ops cls past' pend (i + 1) (a.put dst v) S' R) : DrawGoP P base W0 β0 f ro k ops cls past pend i a S R := by
 obtain ⟨vs,b,Sn,h1,hl,h2⟩ := h
 obtain ⟨o,g1,g2,g3⟩ := hx
 subst g2
 refine ⟨_,b,Sn,.cons g1 (by rw [hc]; exact g3) (fun h => absurd (hc.symm.trans h) h3) (fun h => absurd (hc.symm.trans h) h3) ⟨hpp.1,fun h => hpp.2 (hc.symm.trans h)⟩ h1,fun q hq j v' T hj hcj hbit => ?_,h2⟩
 cases j with
 | zero =>
  simp only [List.getElem?_cons_zero,Option.some.injEq,Prod.mk.injEq] at hj
  rw [Nat.add_zero] at hcj hbit
  rcases hp with hp | hp
  ·exact absurd (hc.symm.trans hcj) hp
  ·rcases hp.mem q hq with h | h
   ·rw [h] at hbit; cases hbit
   ·rw [← hj.2]; exact h
 | succ j =>
  rw [show i + (j + 1) = i + 1 + j by omega] at hcj hbit
  exact hl q hq j v' T (by simpa using hj) hcj hbit
theorem Zaa1 {past : List (Nat × HS)} {pend : List (Nat × (HS → Prop))} {c : Nat} (hx : XAt P base W0 β0 ops c i a S dst v S') (hc : cls.getD i 0 = c) (h3 : c ≠ 3) (h2 : c ≠ 2) (h : DrawGoP P base W0 β0 f ro k ops cls past pend (i + 1) (a.put dst v) S' R) : DrawGoP P base W0 β0 f ro k ops cls past pend i a S R :=
 x_goQ hx hc h3 (.inl h2) ⟨fun _ h => h,fun h => absurd h h2⟩ h
theorem Zzc {past : List (Nat × HS)} {pend : List (Nat × (HS → Prop))} (hx : XAt P base W0 β0 ops 2 i a S dst v S') (hc : cls.getD i 0 = 2) (hp : PendOk ops i S' pend) (h : DrawGoP P base W0 β0 f ro k ops cls ((i,S) :: past) pend (i + 1) (a.put dst v) S' R) : DrawGoP P base W0 β0 f ro k ops cls past pend i a S R :=
 x_goQ hx hc (by decide) (.inr hp) ⟨fun _ h => Ya9 _ h,fun _ => Yba⟩ h
theorem DrawGoP.forget {past past' : List (Nat × HS)} {pend : List (Nat × (HS → Prop))} (hm : ∀ q ∈ past',q ∈ past) (h : DrawGoP P base W0 β0 f ro k ops cls past' pend i a S R) (hno : ∀ j,cls.getD j 0 ≠ 3) : DrawGoP P base W0 β0 f ro k ops cls past pend i a S R := by
 obtain ⟨vs,b,Sn,h1,hl,h2⟩ := h
 have key : ∀ {past' : List (Nat × HS)} {i : Nat} {a : HAct} {S : HS} {vs : List (HV × HS)} {b : HAct} {Sn : HS},QChain2 P base W0 β0 ops (fun i => cls.getD i 0) past' i a S vs b Sn → ∀ past,QChain2 P base W0 β0 ops (fun i => cls.getD i 0) past i a S vs b Sn := by
  intro past' i a S vs b Sn h
  induction h with
  | nil _ a S => intro past; exact .nil past a S
  | @cons p1 p2 i a S S' o v vs b Sn ho hq hl hb hp h ih =>
   intro past
   exact .cons ho hq hl (fun h3 => absurd h3 (hno i)) (past' := (i,S) :: past) ⟨fun _ h => Ya9 _ h,fun _ => Yba⟩ (ih _)
 exact ⟨vs,b,Sn,key h1 past,hl,h2⟩
theorem x_go {c : Nat} (hx : XAt P base W0 β0 ops c i a S dst v S') (hc : cls.getD i 0 = c) (h : Zy2 P base W0 β0 f ro k ops cls (i + 1) (a.put dst v) S' R) (h3 : cls.all (· != 3) = true := by decide) : Zy2 P base W0 β0 f ro k ops cls i a S R := by
 have hno : ∀ j,cls.getD j 0 ≠ 3 := by
  intro j hj
  rw [List.getD_eq_getElem?_getD] at hj
  cases hg : cls[j]? with
  | none => rw [hg] at hj; cases hj
  | some x =>
   rw [hg] at hj
   simp only [Option.getD_some] at hj
   subst hj
   have := List.all_eq_true.1 h3 3 (List.mem_of_getElem? hg)
   simp at this
 have hc3 : c ≠ 3 := fun e => hno i (hc.trans e)
 exact x_goQ (past' := [(i,S)]) hx hc hc3 (.inr trivial) ⟨fun _ h => (by cases h),fun _ => Yba⟩ (h.forget (fun _ h => (by cases h)) hno)
def PastOks (ops : Array Oper) (i : Nat) (p : HS → Prop) : List (Nat × HS) → Prop
 | [] => True
 | q :: l => (((Region.before ops).getD i 0).testBit q.1 = true ∨ p q.2) ∧ PastOks ops i p l
theorem PastOks.out {i : Nat} {p : HS → Prop} : ∀ {l : List (Nat × HS)},PastOks ops i p l → PastOk ops i p l
 | [],_,q,h => by cases h
 | x :: l,h,q,hq => by
  rcases Yac.1 hq with e | e
  ·subst e; exact h.1
  ·exact PastOks.out h.2 q e
theorem Zx3 {past : List (Nat × HS)} {pend : List (Nat × (HS → Prop))} (hx : XAt P base W0 β0 ops 1 i a S dst v S) (hc : cls.getD i 0 = 3) (hb : PastOks ops i (Zait P base W0 β0 ops i a v) past) (h : DrawGoP P base W0 β0 f ro k ops cls past ((i,Zait P base W0 β0 ops i a v) :: pend) (i + 1) (a.put dst v) S R) : DrawGoP P base W0 β0 f ro k ops cls past pend i a S R := by
 obtain ⟨vs,b,Sn,h1,hl,h2⟩ := h
 obtain ⟨o,g1,g2,g3⟩ := hx
 subst g2
 refine ⟨_,b,Sn,.cons g1 (by rw [hc]; exact g3) (fun _ j v' T hj hcj hbit => hl _ (Yba) j v' T hj hcj hbit o g1) (fun _ q hq => (hb.out q hq).imp id fun h => h o g1) ⟨fun _ h => h,fun h => by rw [hc] at h; cases h⟩ h1,fun q hq j v' T hj hcj hbit => ?_,h2⟩
 cases j with
 | zero => rw [Nat.add_zero] at hcj; simp only at hcj; rw [hc] at hcj; cases hcj
 | succ j =>
  rw [show i + (j + 1) = i + 1 + j by omega] at hcj hbit
  exact hl q (Ya9 _ hq) j v' T (by simpa using hj) hcj hbit
theorem l_op {T : HS} (ho : OpAt ops i dst op none) (hs : ∀ cs b,op ≠ .select cs b) (hl : ((ops[i]?).map (fun o => o.looksAt ops)) = some ts) (hop : ∀ o : Oper,o.op = op → OpOk P base W0 o (a.mask ts) T v T) : Zait P base W0 β0 ops i a v T := by
 intro o hoo
 obtain ⟨o',h1,h2,h3,h4⟩ := ho.out
 rw [hoo] at h1
 cases h1
 rw [hoo] at hl
 cases hl
 exact .inl ⟨by unfold Wants; rw [h4]; trivial,.inl ⟨by rw [h3]; exact hs,hop o h3⟩⟩
theorem f_op (ho : OpAt ops i dst op none) (hs : ∀ cs b,op ≠ .select cs b) (hl : ((ops[i]?).map (fun o => o.looksAt ops)) = some ts) (hop : ∀ (o : Oper) (T : HS),o.op = op → OpOk P base W0 o (a.mask ts) T v T) : XAt P base W0 β0 ops 0 i a S dst v S := by
 obtain ⟨o,h1,h2,h3,h4⟩ := ho.out
 rw [h1] at hl; cases hl
 exact ⟨o,h1,h2,rfl,fun T => .inl ⟨by unfold Wants; rw [h4]; trivial,.inl ⟨by rw [h3]; exact hs,hop o T h3⟩⟩⟩
theorem r_op (ho : OpAt ops i dst op none) (hs : ∀ cs b,op ≠ .select cs b) (hl : ((ops[i]?).map (fun o => o.looksAt ops)) = some ts) (hop : ∀ o : Oper,o.op = op → OpOk P base W0 o (a.mask ts) S v S) : XAt P base W0 β0 ops 1 i a S dst v S := by
 obtain ⟨o,h1,h2,h3,h4⟩ := ho.out
 rw [h1] at hl; cases hl
 exact ⟨o,h1,h2,rfl,.inl ⟨by unfold Wants; rw [h4]; trivial,.inl ⟨by rw [h3]; exact hs,hop o h3⟩⟩⟩
theorem e_op (ho : OpAt ops i dst op none) (hs : ∀ cs b,op ≠ .select cs b) (hl : ((ops[i]?).map (fun o => o.looksAt ops)) = some ts) (hop : ∀ o : Oper,o.op = op → OpOk P base W0 o (a.mask ts) S v S') : XAt P base W0 β0 ops 2 i a S dst v S' := by
 obtain ⟨o,h1,h2,h3,h4⟩ := ho.out
 rw [h1] at hl; cases hl
 exact ⟨o,h1,h2,.inl ⟨by unfold Wants; rw [h4]; trivial,.inl ⟨by rw [h3]; exact hs,hop o h3⟩⟩⟩
variable {j : Nat} {t : Tmp} {g c : Bool}
theorem f_op_g (ho : OpAt ops i dst op (some (j,g))) (hs : ∀ cs b,op ≠ .select cs b) (hl : ((ops[i]?).map (fun o => o.looksAt ops)) = some ts) (hj : Zyi ops j t) (hb : (a.mask ts).tmps[t]? = some (.bool c)) (hc : c = g) (hop : ∀ (o : Oper) (T : HS),o.op = op → OpOk P base W0 o (a.mask ts) T v T) : XAt P base W0 β0 ops 0 i a S dst v S := by
 subst hc
 obtain ⟨o,h1,h2,h3,h4⟩ := ho.out
 rw [h1] at hl; cases hl
 exact ⟨o,h1,h2,rfl,fun T => .inl ⟨by unfold Wants; rw [h4]; exact ⟨t,hj,hb⟩,.inl ⟨by rw [h3]; exact hs,hop o T h3⟩⟩⟩
theorem Zzu (ho : OpAt ops i dst op (some (j,g))) (hs : ∀ cs b,op ≠ .select cs b) (hl : ((ops[i]?).map (fun o => o.looksAt ops)) = some ts) (hj : Zyi ops j t) (hb : (a.mask ts).tmps[t]? = some (.bool c)) (hc : c = g) (hop : ∀ o : Oper,o.op = op → OpOk P base W0 o (a.mask ts) S v S) : XAt P base W0 β0 ops 1 i a S dst v S := by
 subst hc
 obtain ⟨o,h1,h2,h3,h4⟩ := ho.out
 rw [h1] at hl; cases hl
 exact ⟨o,h1,h2,rfl,.inl ⟨by unfold Wants; rw [h4]; exact ⟨t,hj,hb⟩,.inl ⟨by rw [h3]; exact hs,hop o h3⟩⟩⟩
theorem Zzz {T : HS} (ho : OpAt ops i dst op (some (j,g))) (hs : ∀ cs b,op ≠ .select cs b) (hl : ((ops[i]?).map (fun o => o.looksAt ops)) = some ts) (hj : Zyi ops j t) (hb : (a.mask ts).tmps[t]? = some (.bool c)) (hc : c = g) (hop : ∀ o : Oper,o.op = op → OpOk P base W0 o (a.mask ts) T v T) : Zait P base W0 β0 ops i a v T := by
 subst hc
 intro o hoo
 obtain ⟨o',h1,h2,h3,h4⟩ := ho.out
 rw [hoo] at h1
 cases h1
 rw [hoo] at hl
 cases hl
 exact .inl ⟨by unfold Wants; rw [h4]; exact ⟨t,hj,hb⟩,.inl ⟨by rw [h3]; exact hs,hop o h3⟩⟩
theorem Zyz {T : HS} (ho : OpAt ops i dst op (some (j,g))) (hl : ((ops[i]?).map (fun o => o.looksAt ops)) = some ts) (hj : Zyi ops j t) (hb : (a.mask ts).tmps[t]? = some (.bool c)) (hc : c = !g) : Zait P base W0 β0 ops i a (.tup []) T := by
 subst hc
 intro o hoo
 obtain ⟨o',h1,h2,h3,h4⟩ := ho.out
 rw [hoo] at h1
 cases h1
 rw [hoo] at hl
 cases hl
 exact .inr ⟨by unfold Skips; rw [h4]; exact ⟨t,hj,.inl hb⟩,rfl,rfl⟩
theorem f_skip (ho : OpAt ops i dst op (some (j,g))) (hl : ((ops[i]?).map (fun o => o.looksAt ops)) = some ts) (hj : Zyi ops j t) (hb : (a.mask ts).tmps[t]? = some (.bool c)) (hc : c = !g) : XAt P base W0 β0 ops 0 i a S dst (.tup []) S := by
 subst hc
 obtain ⟨o,h1,h2,h3,h4⟩ := ho.out
 rw [h1] at hl; cases hl
 exact ⟨o,h1,h2,rfl,fun T => .inr ⟨by unfold Skips; rw [h4]; exact ⟨t,hj,.inl hb⟩,rfl,rfl⟩⟩
theorem Zyt (ho : OpAt ops i dst op (some (j,g))) (hl : ((ops[i]?).map (fun o => o.looksAt ops)) = some ts) (hj : Zyi ops j t) (hb : (a.mask ts).tmps[t]? = some (.bool c)) (hc : c = !g) : XAt P base W0 β0 ops 1 i a S dst (.tup []) S := by
 subst hc
 obtain ⟨o,h1,h2,h3,h4⟩ := ho.out
 rw [h1] at hl; cases hl
 exact ⟨o,h1,h2,rfl,.inr ⟨by unfold Skips; rw [h4]; exact ⟨t,hj,.inl hb⟩,rfl,rfl⟩⟩
theorem e_skip (ho : OpAt ops i dst op (some (j,g))) (hl : ((ops[i]?).map (fun o => o.looksAt ops)) = some ts) (hj : Zyi ops j t) (hb : (a.mask ts).tmps[t]? = some (.bool c)) (hc : c = !g) : XAt P base W0 β0 ops 2 i a S dst (.tup []) S := by
 subst hc
 obtain ⟨o,h1,h2,h3,h4⟩ := ho.out
 rw [h1] at hl; cases hl
 exact ⟨o,h1,h2,.inr ⟨by unfold Skips; rw [h4]; exact ⟨t,hj,.inl hb⟩,rfl,rfl⟩⟩
theorem Zzg (ho : OpAt ops i dst op (some (j,g))) (hl : ((ops[i]?).map (fun o => o.looksAt ops)) = some ts) (hj : Zyi ops j t) (hb : (a.mask ts).tmps[t]? = some (.tup [])) : XAt P base W0 β0 ops 0 i a S dst (.tup []) S := by
 obtain ⟨o,h1,h2,h3,h4⟩ := ho.out
 rw [h1] at hl; cases hl
 exact ⟨o,h1,h2,rfl,fun T => .inr ⟨by unfold Skips; rw [h4]; exact ⟨t,hj,.inr hb⟩,rfl,rfl⟩⟩
theorem Zz0 (ho : OpAt ops i dst op (some (j,g))) (hl : ((ops[i]?).map (fun o => o.looksAt ops)) = some ts) (hj : Zyi ops j t) (hb : (a.mask ts).tmps[t]? = some (.tup [])) : XAt P base W0 β0 ops 1 i a S dst (.tup []) S := by
 obtain ⟨o,h1,h2,h3,h4⟩ := ho.out
 rw [h1] at hl; cases hl
 exact ⟨o,h1,h2,rfl,.inr ⟨by unfold Skips; rw [h4]; exact ⟨t,hj,.inr hb⟩,rfl,rfl⟩⟩
variable {fx : Operand} {xs : Array Operand} {tys : Array TypeId} {fv : HV} {ws : List HV}
theorem f_call (ho : OpAt ops i dst (.call ⟨.value fx,xs,tys⟩) none) (hl : ((ops[i]?).map (fun o => o.looksAt ops)) = some ts) (hf : Ev (a.mask ts) fx fv) (hxs : Evs (a.mask ts) xs ws) (hi : ∀ T,HInv P base W0 β0 fv ws T (fun v1 S1 => v1 = v ∧ S1 = T)) : XAt P base W0 β0 ops 0 i a S dst v S := by
 obtain ⟨o,h1,h2,h3,h4⟩ := ho.out
 rw [h1] at hl; cases hl
 exact ⟨o,h1,h2,rfl,fun T => .inl ⟨by unfold Wants; rw [h4]; trivial,.inr ⟨fx,xs,tys,fv,ws,h3,hf,hxs,hi T⟩⟩⟩
theorem Zaa3 (ho : OpAt ops i dst (.call ⟨.value fx,xs,tys⟩) none) (hl : ((ops[i]?).map (fun o => o.looksAt ops)) = some ts) (hf : Ev (a.mask ts) fx fv) (hxs : Evs (a.mask ts) xs ws) (hi : HInv P base W0 β0 fv ws S (fun v1 S1 => v1 = v ∧ S1 = S')) : XAt P base W0 β0 ops 2 i a S dst v S' := by
 obtain ⟨o,h1,h2,h3,h4⟩ := ho.out
 rw [h1] at hl; cases hl
 exact ⟨o,h1,h2,.inl ⟨by unfold Wants; rw [h4]; trivial,.inr ⟨fx,xs,tys,fv,ws,h3,hf,hxs,hi⟩⟩⟩
theorem Zyu (ho : OpAt ops i dst (.call ⟨.value fx,xs,tys⟩) (some (j,g))) (hl : ((ops[i]?).map (fun o => o.looksAt ops)) = some ts) (hj : Zyi ops j t) (hb : (a.mask ts).tmps[t]? = some (.bool c)) (hc : c = g) (hf : Ev (a.mask ts) fx fv) (hxs : Evs (a.mask ts) xs ws) (hi : HInv P base W0 β0 fv ws S (fun v1 S1 => v1 = v ∧ S1 = S')) : XAt P base W0 β0 ops 2 i a S dst v S' := by
 subst hc
 obtain ⟨o,h1,h2,h3,h4⟩ := ho.out
 rw [h1] at hl; cases hl
 exact ⟨o,h1,h2,.inl ⟨by unfold Wants; rw [h4]; exact ⟨t,hj,hb⟩,.inr ⟨fx,xs,tys,fv,ws,h3,hf,hxs,hi⟩⟩⟩
end
end Go.Proofs.YtbmfomkfmpppiaaGreat.HL
namespace Go.Proofs.YtbmfomkfmpppiaaGreat.HL
theorem Zx6 {n : Int} (h1 : -9223372036854775808 ≤ n) (h2 : n ≤ 9223372036854775807) : w64 n = n := by
 simp only [w64,IntKind.wrap,IntKind.signed,IntKind.bits]
 simp
 omega
theorem Zadc {s : List UInt8} {i : Nat} (h : i < s.length) : sat s (i : Int) = some s[i] := by
 simp [sat,h]
structure Fr (n : Nat) (S S' : HS) : Prop where
 le : S.next ≤ S'.next
 eq : ∀ id,id < n → S'.heap id = S.heap id
theorem Fr.refl (n : Nat) (S : HS) : Fr n S S := ⟨Yaa _,fun _ _ => rfl⟩
theorem Fr.trans {n : Nat} {A B C : HS} (h : Fr n A B) (k : Fr n B C) : Fr n A C := ⟨Ya2 h.le k.le,fun i hi => (k.eq i hi).trans (h.eq i hi)⟩
theorem Fr.mono {n m : Nat} {A B : HS} (h : Fr n A B) (hm : m ≤ n) : Fr m A B := ⟨h.le,fun i hi => h.eq i (Yai hi hm)⟩
theorem Fr.newM {n : Nat} {S : HS} (h : n ≤ S.next) (o : HObj) (m : Nat) : Fr n S (S.newM o m) := ⟨Nat.le_succ _,fun i hi => by simp [HS.newM,show i ≠ S.next by omega]⟩
theorem Fr.new {n : Nat} {S : HS} (h : n ≤ S.next) (o : HObj) : Fr n S (S.new o) := Fr.newM h o 0
theorem Fr.put {n id : Nat} {S : HS} (h : n ≤ id) (o : HObj) : Fr n S (S.put id o) := ⟨Yaa _,fun i hi => by simp [HS.put,show i ≠ id by omega]⟩
theorem Zx2 (S : HS) (o : HObj) : (S.new o).next = S.next + 1 := rfl
theorem Zxw (S : HS) (id : Nat) (o : HObj) : (S.put id o).next = S.next := rfl
theorem Zabd (S : HS) (o : HObj) (m : Nat) : (S.newM o m).heap S.next = o := by simp [HS.newM]
theorem Zxx (S : HS) (o : HObj) : (S.new o).heap S.next = o := Zabd S o 0
theorem Zyy {S : HS} {id : Nat} (o : HObj) (h : id < S.next) : (S.new o).heap id = S.heap id := by simp [HS.new,HS.newM,show id ≠ S.next by omega]
theorem new_oldM {S : HS} {id : Nat} (o : HObj) (m : Nat) (h : id < S.next) : (S.newM o m).heap id = S.heap id := by simp [HS.newM,show id ≠ S.next by omega]
theorem Zaew (S : HS) (o : HObj) (m : Nat) : (S.newM o m).next = S.next + 1 := rfl
theorem Zxv (S : HS) (id : Nat) (o : HObj) : (S.put id o).heap id = o := by simp [HS.put]
theorem Zxe {S : HS} {i id : Nat} (o : HObj) (h : i ≠ id) : (S.put id o).heap i = S.heap i := by simp [HS.put,h]
inductive Vec (n : Nat) (S : HS) (z : Nat) : Sl → List (List HV) → Prop
 | nil {c : Option Nat} : Vec n S z ⟨none,0,c⟩ []
 | open_ {id : Nat} {rows : List (List HV)} (h : S.heap id = .cells z rows true) (hn : n ≤ id) (hl : id < S.next) : Vec n S z ⟨some (id,0),rows.length,none⟩ rows
 | capped {id c : Nat} {rows all : List (List HV)} (h : S.heap id = .cells z all true) (hn : n ≤ id) (hl : id < S.next) (hc : all.length = c) (hr : rows.length ≤ c) (ht : all.take rows.length = rows) : Vec n S z ⟨some (id,0),rows.length,some c⟩ rows
theorem Vec.len {n z : Nat} {S : HS} {s : Sl} {rows : List (List HV)} (h : Vec n S z s rows) : s.len = rows.length := by cases h <;> rfl
theorem Vec.frame {n z m : Nat} {S S' : HS} {s : Sl} {rows : List (List HV)} (h : Vec n S z s rows) (hf : Fr m S S') (hm : S.next ≤ m) : Vec n S' z s rows := by
 cases h with
 | nil => exact .nil
 | open_ h hn hl => exact .open_ (by rw [hf.eq _ (by omega)]; exact h) hn (Yai hl hf.le)
 | capped h hn hl hc hr ht => exact .capped (by rw [hf.eq _ (by omega)]; exact h) hn (Yai hl hf.le) hc hr ht
theorem Vec.new {n z : Nat} {S : HS} {s : Sl} {rows : List (List HV)} (h : Vec n S z s rows) (o : HObj) : Vec n (S.new o) z s rows := h.frame (Fr.new (Yaa _) o) (Yaa _)
theorem Vec.rows {n z : Nat} {S : HS} {s : Sl} {rows : List (List HV)} (h : Vec n S z s rows) : S.rows s z = some rows := by
 cases h with
 | nil => simp [HS.rows]
 | open_ h hn hl => simp [HS.rows,h]
 | capped h hn hl hc hr ht => simp [HS.rows,h,ht]; omega
theorem Vec.app {n z : Nat} {S : HS} {s : Sl} {rows new : List (List HV)} (h : Vec n S z s rows) (hn : n ≤ S.next) (hl : rows.length + new.length ≤ 2147483648) : ∃ s' S',S.app s new z = some (s',S') ∧ Vec n S' z s' (rows ++ new) ∧ Fr n S S' := by
 unfold HS.app
 by_cases he : new = []
 ·subst he; rw [if_pos rfl]; exact ⟨s,S,rfl,by simpa using h,Fr.refl _ _⟩
 rw [if_neg he,if_pos (by rw [h.len]; exact hl)]
 have hne : 0 < new.length := List.length_pos_iff.2 he
 cases h with
 | nil =>
  refine ⟨_,_,rfl,?_,Fr.new hn _⟩
  exact .open_ (Zxx _ _) hn (by simp [Zx2])
 | @open_ id _ h hid hidl =>
  simp only [h,if_true]
  by_cases hfit : 0 + rows.length + new.length ≤ rows.length
  ·exfalso; omega
  rw [if_neg hfit,if_pos (by simp)]
  refine ⟨_,_,rfl,?_,(Fr.put hid _).trans (Fr.newM (by rw [Zxw]; exact hn) _ _)⟩
  have hv : ((S.put id .dead).newM (.cells z (rows.drop 0 ++ new) true) (mfg (S.mrk id))).heap S.next = .cells z (rows ++ new) true := Zabd _ _ _
  have := Vec.open_ (n := n) (z := z) hv hn (by simp [Zaew,Zxw])
  simpa using this
 | @capped id c _ all h hid hidl hc hr ht =>
  simp only [h,if_true]
  by_cases hfit : rows.length + new.length ≤ c
  ·rw [if_pos hfit]
   refine ⟨_,_,rfl,?_,Fr.put hid _⟩
   have hlen : (splice all (0 + rows.length) new).length = c := by
    simp [splice]; omega
   have e : (rows ++ new).length = rows.length + new.length := by simp
   rw [← e]
   refine .capped (Zxv _ _ _) hid hidl hlen (by rw [e]; exact hfit) ?_
   unfold splice
   rw [Nat.zero_add,ht,e,List.take_left' (by simp)]
  ·rw [if_neg hfit]
   refine ⟨_,_,rfl,?_,Fr.new hn _⟩
   have hv : (S.new (.cells z ((all.drop 0).take rows.length ++ new) true)).heap S.next = .cells z (rows ++ new) true := by rw [List.drop_zero,ht]; exact Zxx _ _
   have := Vec.open_ (n := n) (z := z) hv hn (by simp [Zx2])
   simpa using this
theorem Vec.lit {n z : Nat} {S : HS} (rows : List (List HV)) (hn : n ≤ S.next) : Vec n (S.lit rows z).2 z (S.lit rows z).1 rows := by
 exact .capped (Zxx _ _) hn (Yaw _) rfl (Yaa _) (Yao ..)
theorem Zzd {n z : Nat} {S : HS} (rows : List (List HV)) (hn : n ≤ S.next) : Fr n S (S.lit rows z).2 := Fr.new hn _
theorem Vec.make {n : Nat} {S : HS} {c : Int} {zr : List HV} (hn : n ≤ S.next) (hc : 0 ≤ c) (hc2 : c ≤ 2147483648) : ∃ s S',S.make 0 c zr = some (s,S') ∧ Vec n S' zr.length s [] ∧ Fr n S S' := by
 have e : S.make 0 c zr = some (⟨some (S.next,0),0,some c.toNat⟩,S.new (.cells zr.length (List.replicate c.toNat zr) true)) := by rw [HS.make,if_pos ⟨Int.le_refl _,hc,hc2⟩]; rfl
 exact ⟨_,_,e,.capped (rows := []) (Zxx _ _) hn (Yaw _) (by simp) (Yak _) rfl,Fr.new hn _⟩
theorem Zaex : ∀ (t : List UInt8),Zaaa (Zyg t) = some t := by
 intro t
 induction t with
 | nil => rfl
 | cons b t ih =>
  unfold Zaaa Zyg at ih ⊢
  rw [List.map_cons,List.mapM_cons,ih]
  simp [Zads]
theorem Vec.text {n : Nat} {S : HS} {s : Sl} {t : List UInt8} (h : Vec n S 1 s (Zyg t)) : S.text s = some t := by
 unfold HS.text
 rw [h.rows,obs,Zaex]
theorem Zadx (s t : List UInt8) : Zyg (s ++ t) = Zyg s ++ Zyg t := by simp [Zyg]
theorem Zabe {S : HS} {id : Nat} {v : HV} {b : Bool} (h : S.heap id = .cells 1 [[v]] b) : S.get (HA.cell0 id) = some v := by simp [HS.get,HS.row,h]
theorem Zab5 {S : HS} {id : Nat} {s : Bool} {b : Bool} (h : S.heap id = .cells 1 [[.bool s]] b) : S.ldB (HA.cell0 id) = some s := by rw [HS.ldB,Zabe h]; rfl
theorem Zza {S : HS} {id : Nat} {k : IntKind} {s : Int} {b : Bool} (h : S.heap id = .cells 1 [[.int k s]] b) : S.ldI k (HA.cell0 id) = some s := by rw [HS.ldI,Zabe h]; simp [dI]
theorem Zabf {S : HS} {id : Nat} {s : Option HA} {b : Bool} (h : S.heap id = .cells 1 [[.ptr s]] b) : S.ldP (HA.cell0 id) = some s := by rw [HS.ldP,Zabe h]; rfl
theorem Zy8 {S : HS} {id : Nat} {s : Sl} {b : Bool} (h : S.heap id = .cells 1 [[s.hv]] b) : S.ldSl (HA.cell0 id) = some s := by rw [HS.ldSl,Zabe h]; rfl
theorem Zze {S : HS} {id : Nat} {v : HV} (u : HV) (h : S.heap id = .cells 1 [[v]] true) : S.sets (HA.cell0 id) [u] = some (S.put id (.cells 1 [[u]] true)) := by simp [HS.sets,h]
theorem lp_at {S : HS} {l : Nat} {st : LoopState} {p : Option Code} (h : S.heap l = .loop st p) : S.lp l = some () := by simp [HS.lp,h]
theorem Zab6 {S : HS} {l : Nat} {p : Option Code} (h : S.heap l = .loop .ready p) : S.begin_ l = some (S.put l (.loop .busy p)) := by simp [HS.begin_,h]
theorem endr_at {S : HS} {l : Nat} {st : LoopState} {p : Option Code} (j : Option Code) (h : S.heap l = .loop st p) : S.endr l j = some (.bool j.isNone,S.put l (.loop (if j.isNone then .ready else .done) j)) := by simp [HS.endr,h]
end Go.Proofs.YtbmfomkfmpppiaaGreat.HL
