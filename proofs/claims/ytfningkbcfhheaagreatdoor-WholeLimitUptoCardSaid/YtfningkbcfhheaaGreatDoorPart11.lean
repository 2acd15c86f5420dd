/- The layer HI, part 17: from the chain to the run. The layer HI, part 7: the evaluator's answers are so. The layer HI, part 8: statements whose order is open. The layer HI, part 18: operations that make something. The layer HI, part 19: the evaluator at statements of open order in which something is made beside a call. The layer HI, part 20: the evaluator at statements of open order in which something is made beside a call: what it answers holds. The layer HI, part 21: functions that make but things of their own and answer with a value without pointers: an over may leave the heap as it is. The layer HI, part 9: slices.Insert and slices.Delete, met by what is known of them. The layer HI, part 22: runs cut at calls: a call is run once, from a heap of few objects, laid down as text; wherever it is met in such a heap, it answers so. The layer HI, part 23: the same cuts over abstract heaps, for a law's own function. -/
import Derived.Test.YtfningkbcfhheaaGreatDoorHIp
import Derived.Test.YtfningkbcfhheaaGreatDoorPart8
import Derived.Test.YtfningkbcfhheaaGreatDoorPart9
set_option linter.unusedVariables false
set_option linter.unusedSimpArgs false
namespace Go.Proofs.YtfningkbcfhheaaGreatDoor.HL
set_option linter.unusedVariables false
section
variable {P : Program} {base : Nat} {W0 : Env} {β0 : Bt} {f : FuncId} {ro : Option Nat} {k : List Item} {R : HV → HS → Prop} {ops : Array Oper} {cls : Nat → Nat} {mk : Nat → Option (Nat × HObj)} {S : HS}
theorem resv_old : ∀ (n : Nat) (S : HS) (i : Nat),i < S.next → (HS.resv n S).heap i = S.heap i := by
 intro n
 induction n with
 | zero => intro S i _; rfl
 | succ n ih =>
  intro S i hi
  show (HS.resv n (S.newM .opq 1)).heap i = _
  rw [ih _ _ (by show i < S.next + 1; omega)]
  show (if i = S.next then _ else S.heap i) = _
  rw [if_neg (by omega)]
theorem resv_opq : ∀ (n : Nat) (S : HS) (t : Nat),t < n → (HS.resv n S).heap (S.next + t) = .opq := by
 intro n
 induction n with
 | zero => intro S t h; omega
 | succ n ih =>
  intro S t ht
  show (HS.resv n (S.newM .opq 1)).heap _ = _
  cases t with
  | zero =>
   rw [resv_old _ _ _ (by show S.next + 0 < S.next + 1; omega)]
   show (if S.next + 0 = S.next then HObj.opq else _) = _
   rw [if_pos (Nat.add_zero _)]
  | succ t =>
   have := ih (S.newM .opq 1) t (by omega)
   rw [show S.next + (t + 1) = (S.newM HObj.opq 1).next + t by show _ = S.next + 1 + t; omega]
   exact this
open Classical in
theorem m_run {c : Code} {id n : Nat} {a b : HAct} {Sn : HS} {vs : List (HV × HS × HS)} {fin : List (Nat × HObj)} (hc : c = .region id ops true) (hd : DrawOk2 ops cls) (hch : MChain P base β0 ops cls mk [] 0 a (S.resv n) vs b Sn)
  (hms : ∀ i r ob,mk i = some (r,ob) → S.next ≤ r ∧ r < S.next + n ∧ i < ops.size ∧ cls i = 0) (hinj : ∀ i j r ob ob',mk i = some (r,ob) → mk j = some (r,ob') → i = j) (hall : ∀ t,t < n → ∃ i ob,mk i = some (S.next + t,ob))
  (hfin : (fin.map (·.1)).Nodup ∧ (∀ q ∈ fin,Sn.heap q.1 = .opq ∧ goodOb q.2 = true ∧ ∃ i,mk i = some q) ∧ ∀ i r ob,mk i = some (r,ob) → (Sn.settles fin).heap r ≠ .opq)
  (h : HRun P base W0 β0 f ro (.inRegion ops [] :: k) b (Sn.settles fin) R) : HRun P base W0 β0 f ro (.code c :: k) a S R := by
 let who : Nat → Option (Nat × HObj) := fun r => if h : ∃ q : Nat × HObj,mk q.1 = some (r,q.2) then some h.choose else none
 have hwm : ∀ i r ob,mk i = some (r,ob) → who r = some (i,ob) := by
  intro i r ob hi
  have hex : ∃ q : Nat × HObj,mk q.1 = some (r,q.2) := ⟨(i,ob),hi⟩
  have hw : who r = some hex.choose := by simp only [who,dif_pos hex]
  have hs := hex.choose_spec
  have e := hinj _ _ _ _ _ hs hi
  rw [hw]
  rw [e,hi] at hs
  cases hs' : hex.choose with
  | mk x y =>
   rw [hs'] at hs e
   cases hs
   simp only at e
   rw [e]
 have hmw : ∀ r i ob,who r = some (i,ob) → mk i = some (r,ob) := by
  intro r i ob hw
  by_cases hex : ∃ q : Nat × HObj,mk q.1 = some (r,q.2)
  ·have hw2 : who r = some hex.choose := by simp only [who,dif_pos hex]
   rw [hw] at hw2
   have hs := hex.choose_spec
   rw [← Option.some.inj hw2] at hs
   exact hs
  ·have hw2 : who r = none := by simp only [who,dif_neg hex]
   rw [hw] at hw2; cases hw2
 let val : Nat → HV := fun j => (vs.getD j (.tup [],Sn,Sn)).1
 let Hp : Nat → HS := fun j => match j with | 0 => S.resv n | j + 1 => (vs.getD j (.tup [],Sn,Sn)).2.1
 let Hq : Nat → HS := fun j => (vs.getD j (.tup [],Sn,Sn)).2.2
 obtain ⟨_,hHn,h2⟩ := hch.spell a val Hp Hq rfl (fun j _ _ => by simp [val,Hp,Hq]) hd (fun w hw => by omega)
 obtain ⟨h3,h4⟩ := h2 ⟨rfl,rfl,fun i o t _ hX => by omega,fun t _ => rfl⟩
 have hop : ∀ i r ob,mk i = some (r,ob) → ∀ q,q ≤ ops.size → (∀ w,w < q → cls w = 2 → ¬ Anc ops i w) → (Hp q).heap r = .opq := by
  intro i r ob hi q
  induction q with
  | zero =>
   intro _ _
   obtain ⟨g1,g2,_⟩ := hms i r ob hi
   have := resv_opq n S (r - S.next) (by omega)
   rw [show S.next + (r - S.next) = r by omega] at this
   exact this
  | succ q ih =>
   intro hq hw
   obtain ⟨_,k2,k3⟩ := h3 q ops[q] (Nat.zero_le _) (by omega) (Array.getElem?_eq_getElem (by omega))
   by_cases hcq : cls q = 2
   ·refine (k2 hcq).2 i r ob hi fun w hwq hcw => ?_
    cases hbit : ((Region.before ops).getD w 0).testBit i with
    | false => rfl
    | true => exact absurd (before_anc hbit) (hw w (by omega) hcw)
   ·rw [k3 hcq]; exact ih (by omega) fun w h1 h2 => hw w (by omega) h2
 refine q_draw4 (who := who) (mk := mk) (val := val) (Hp := Hp) (Hq := Hq) (cls := cls) (fin := fin) (n := n) hc hd rfl (fun r q hw => (hms q.1 r q.2 (hmw _ q.1 q.2 hw)).1) (fun t ht => ?_) hwm hmw (fun i q hi => ?_) hop (fun j hj hcj => ?_)
  (fun j o hj ho => (h3 j o (Nat.zero_le _) hj ho).1) h4 ?_ (by rw [hHn]; exact h)
 ·obtain ⟨i,ob,hi⟩ := hall t ht
  exact ⟨_,hwm _ _ _ hi⟩
 ·obtain ⟨_,_,g3,g4⟩ := hms i q.1 q.2 hi
  exact ⟨g4,g3⟩
 ·obtain ⟨_,k2,_⟩ := h3 j ops[j] (Nat.zero_le _) hj (Array.getElem?_eq_getElem hj)
  obtain ⟨⟨l,e1,e2,e3⟩,_⟩ := k2 hcj
  refine ⟨l,e1,e2,fun q hq => ?_⟩
  obtain ⟨g1,g2,i,g3,g4⟩ := e3 q hq
  exact ⟨g1,g2,i,hwm _ _ _ g3,g4⟩
 ·rw [hHn]
  refine ⟨hfin.1,fun q hq => ?_,fun r q hw => hfin.2.2 q.1 r q.2 (hmw _ _ _ hw)⟩
  obtain ⟨g1,g2,i,g3⟩ := hfin.2.1 q hq
  exact ⟨g1,g2,i,hwm _ _ _ g3⟩
end
end Go.Proofs.YtfningkbcfhheaaGreatDoor.HL
namespace Go.Proofs.YtfningkbcfhheaaGreatDoor.HL
set_option linter.unusedVariables false
open Go.RowKit (Below)
section
variable {P : Program} {base : Nat} {W0 : Env} {β0 : Bt} {K : Kn}
structure KnOk (P : Program) (base : Nat) (W0 : Env) (K : Kn) : Prop where
 idx : ∀ g ∈ K.idxB,ExtAt P g Extern.BytealgIndexByte.indexByte
 noe : ∀ g ∈ K.noE,ExtAt P g Extern.AbiNoEscape.same
 cnt : ∀ g ∈ K.cnt,ExtAt P g Extern.BytealgCount.count
 over : ∀ g r,K.over g = some r → ∀ β0 args c out,r args c = some out → HCall P base W0 β0 g args c.hs (fun v S1 => v = out.1 ∧ S1 = out.2.hs)
def ESound (β0 : Bt) (E : List LR) : Prop := ∀ r ∈ E,∃ a ds,Agr r.n r.F ds a ∧ LoopAt β0 r.l r.f a r.ps r.assign r.body
theorem ESound.up {β1 : Bt} {E : List LR} (h : ESound β0 E) (hb : Le β0 β1) : ESound β1 E := fun r hr => let ⟨a,ds,h1,h2⟩ := h r hr; ⟨a,ds,h1,h2.mono hb⟩
theorem ESound.cons {E : List LR} {r : LR} (h : ESound β0 E) (hr : ∃ a ds,Agr r.n r.F ds a ∧ LoopAt β0 r.l r.f a r.ps r.assign r.body) : ESound β0 (r :: E) := fun x hx => by
 rcases List.mem_cons.1 hx with rfl | hx
 ·exact hr
 ·exact h x hx
abbrev Is (r : Res) : HV → HS → Prop := fun v1 S1 => v1 = r.1 ∧ S1 = r.2.hs
def RecOk (P : Program) (base : Nat) (W0 : Env) (K : Kn) (rec : Rec) : Prop :=
 (∀ fv vs c E r,rec fv vs c E = some r → ∀ β0,ESound β0 E → HInv P base W0 β0 fv vs c.hs (Is r)) ∧
 (∀ g vs c E r,rec (.fn (.func g) [] []) vs c E = some r → K.over g = none → ∃ fn code,FnAt P g fn ∧ fn.body = some code ∧ ∀ β0,ESound β0 E → HCallA P base W0 β0 g vs c.hs (Is r))
def DrawOkF (P : Program) (base : Nat) (dr : DrawF) : Prop :=
 ∀ (W0 : Env) (K : Kn) (rec : Rec),(∀ W,KnOk P base W K) → (∀ W,RecOk P base W K rec) → ∀ (β0 : Bt) (E : List LR),ESound β0 E → ∀ (f : FuncId) (ro : Option Nat) (stk : List Item) (ops : Array Oper) (id n : Nat) (ds : List Nat) (kont : Fl → CS → Option Res) (r : Res),dstOk ops n = true →
  (∀ l c a,Agr n l ds a → kont l c = some r → HRun P base W0 β0 f ro stk a c.hs (Is r)) → ∀ l c a,Agr n l ds a → dr P K rec E ops kont l c = some r → HRun P base W0 β0 f ro (.code (.region id ops true) :: stk) a c.hs (Is r)
structure XOk (base : Nat) (W0 : Env) (β0 : Bt) (x : Xc) : Prop where
 kn : ∀ W,KnOk x.P base W x.K
 rc : ∀ W,RecOk x.P base W x.K x.rc
 dr : DrawOkF x.P base x.dr
 es : ESound β0 x.E
theorem wantR_out {n : Nat} {ds : List Nat} {a : HAct} {l : Fl} {ops : Array Oper} {o : Oper} {b : Bool} (ha : Agr n l ds a) (h : wantR l ops o = some b) : (b = true ∧ Wants a ops o) ∨ (b = false ∧ Skips a ops o) := by
 unfold wantR at h
 unfold Wants Skips
 cases hg : o.guard with
 | none => rw [hg] at h; cases h; exact .inl ⟨rfl,trivial⟩
 | some g =>
  obtain ⟨j,want⟩ := g
  rw [hg] at h
  replace h : wantG l ops (j,want) = some b := h
  unfold wantG at h
  simp only at h
  split at h
  ·rename_i t ht
   split at h
   ·rename_i q hq
    cases h
    have hq := ha.at_ _ _ hq
    cases want <;> cases q
    ·exact .inl ⟨rfl,t,ht,hq⟩
    ·exact .inr ⟨rfl,t,ht,.inl hq⟩
    ·exact .inr ⟨rfl,t,ht,.inl hq⟩
    ·exact .inl ⟨rfl,t,ht,hq⟩
   ·rename_i hq; cases h; exact .inr ⟨rfl,t,ht,.inr (ha.at_ _ _ hq)⟩
   ·cases h
  ·cases h
theorem callOp_out {op : Op} {fx : Operand} {xs : List Operand} (h : callOp op = some (fx,xs)) : ∃ tys,op = .call ⟨.value fx,xs.toArray,tys⟩ := by
 unfold callOp at h
 split at h
 ·rename_i c
  obtain ⟨callee,args,tys⟩ := c
  simp only at h
  split at h
  ·cases h; exact ⟨tys,by simp⟩
  ·cases h
 ·cases h
theorem extOf_out {fx : Operand} {g : FuncId} (h : extOf fx = some g) : fx = .func g := by
 unfold extOf at h
 split at h
 ·cases h; rfl
 ·cases h
theorem ext_ok {a : HAct} {S : HS} {o : Oper} {g : FuncId} {xs : List Operand} {vs : List HV} {v : HV} {tys : Array TypeId} (hK : KnOk P base W0 K) (ho : o.op = .call ⟨.value (.func g),xs.toArray,tys⟩) (hx : Evs a xs.toArray vs) (h : extR K g vs = some v) : OpOk P base W0 o a S v S := by
 have hlen : vs.length = xs.length := by simpa using hx.1
 unfold extR at h
 split at h
 ·rename_i hc
  have hm : g ∈ K.idxB := by simpa using hc
  split at h
  ·rename_i s n
   cases h
   match xs,hlen with
   | [x,y],_ => exact ok_idxByte ho (hK.idx g hm) (hx.2 0 x _ rfl rfl) (hx.2 1 y _ rfl rfl)
  ·cases h
 ·split at h
  ·rename_i hc
   have hm : g ∈ K.noE := by simpa using hc
   split at h
   ·rename_i u
    cases h
    match xs,hlen with
    | [x],_ => exact ok_noEscape ho (hK.noe g hm) (hx.2 0 x _ rfl rfl)
   ·cases h
  ·split at h
   ·rename_i hc
    have hm : g ∈ K.cnt := by simpa using hc
    split at h
    ·rename_i s n
     cases h
     match xs,hlen with
     | [x,y],_ => exact ok_count ho (hK.cnt g hm) (hx.2 0 x _ rfl rfl) (hx.2 1 y _ rfl rfl)
    ·cases h
   ·cases h
theorem evs_ev {n : Nat} {ds : List Nat} {a : HAct} {l : Fl} (ha : Agr n l ds a) {xs : List Operand} {vs : List HV} (h : xs.mapM (ev l) = some vs) : Evs a xs.toArray vs := evs_of (fun _ _ _ h => ev_ok ha h) h
theorem sets_put {S S' : HS} {ad : HA} {vs : List HV} (h : S.sets ad vs = some S') : ∃ o,S' = S.put ad.id o := by
 unfold HS.sets at h
 split at h
 ·split at h
  ·split at h
   ·cases h; exact ⟨_,rfl⟩
   ·cases h
  ·cases h
 ·cases h
theorem dO_op {x : Xc} {n : Nat} {ds : List Nat} {a : HAct} {l : Fl} {c : CS} {k : HV → CS → Option Res} {r : Res} (ha : Agr n l ds a) {op : Op} (h : dO op x l c k = some r) (hc : callOp op = none) :
  ∃ out c',opR x.P (ev l) op c.hs = some out ∧ c'.hs = out.2.1 ∧ k out.1 c' = some r := by
 have gen : ∀ {op : Op},dGen op x l c k = some r → ∃ out c',opR x.P (ev l) op c.hs = some out ∧ c'.hs = out.2.1 ∧ k out.1 c' = some r := fun {op} h => by
  replace h : (xP x fun P => dOut (opR P (ev l) op c.hs) c k) = some r := h
  rw [xP_eq] at h
  obtain ⟨out,h1,h2⟩ := bnd_out h
  obtain ⟨_,d2⟩ := opR_ok (P := x.P) (base := 0) (W0 := default) (a := a) (o := { (default : Oper) with op := op }) (fun y _ v hv => ev_ok ha hv) rfl h1
  obtain ⟨c',h3,h4⟩ := CS.syncK_out _ _ h2 d2
  rw [frcV_eq] at h3
  exact ⟨out,c',h1,h4,h3⟩
 have pure : ∀ {op : Op} {v : HV},opR x.P (ev l) op c.hs = some (same c.hs v) → k v c = some r → ∃ out c',opR x.P (ev l) op c.hs = some out ∧ c'.hs = out.2.1 ∧ k out.1 c' = some r := fun h1 h2 => ⟨_,c,h1,rfl,h2⟩
 cases op with
 | move y =>
  obtain ⟨v,h1,h2⟩ := bnd_out h
  exact pure (by show (ev l y).map _ = _; rw [h1]; rfl) h2
 | assign y =>
  obtain ⟨v,h1,h2⟩ := bnd_out h
  exact pure (by show (ev l y).map _ = _; rw [h1]; rfl) h2
 | load t y =>
  obtain ⟨vx,h1,h2⟩ := bnd_out h
  rw [xP_eq] at h2
  obtain ⟨v,h3,h4⟩ := bnd_out h2
  exact pure (by show (ev l y).bind _ = _; rw [h1,Option.bind_some,h3]; rfl) h4
 | store t y z =>
  obtain ⟨vx,h1,h2⟩ := bnd_out h
  obtain ⟨vy,h3,h4⟩ := bnd_out h2
  rw [xP_eq] at h4
  obtain ⟨out,h5,h6⟩ := bnd_out h4
  obtain ⟨id,h7,h8⟩ := bnd_out h6
  have hs := h5
  unfold storeR at hs
  split at hs
  ·split at hs
   ·split at hs
    ·obtain ⟨S',g1,g2⟩ := Option.map_eq_some_iff.1 hs
     subst g2
     cases h7
     obtain ⟨ob,rfl⟩ := sets_put g1
     obtain ⟨c',g3,g4⟩ := CS.syncP_out h8 (fun i hi => put_other _ hi) rfl rfl
     exact ⟨_,c',by show (ev l y).bind _ = _; rw [h1,Option.bind_some,h3,Option.bind_some]; exact h5,g4,g3⟩
    ·cases hs
   ·cases hs
  ·cases hs
 | nilCheck y =>
  obtain ⟨vx,h1,h2⟩ := bnd_out h
  obtain ⟨v,h3,h4⟩ := bnd_out h2
  exact pure (by show (ev l y).bind _ = _; rw [h1,Option.bind_some,h3]; rfl) h4
 | binOp op t y z ty =>
  obtain ⟨vx,h1,h2⟩ := bnd_out h
  obtain ⟨vy,h3,h4⟩ := bnd_out h2
  rw [xP_eq] at h4
  obtain ⟨v,h5,h6⟩ := bnd_out h4
  rw [frcV_eq] at h6
  exact pure (by show (ev l y).bind _ = _; rw [h1,Option.bind_some,h3,Option.bind_some,h5]; rfl) h6
 | unOp op t y =>
  obtain ⟨vx,h1,h2⟩ := bnd_out h
  obtain ⟨v,h3,h4⟩ := bnd_out h2
  rw [frcV_eq] at h4
  exact pure (by show (ev l y).bind _ = _; rw [h1,Option.bind_some,h3]; rfl) h4
 | fieldAddr s y f =>
  obtain ⟨vx,h1,h2⟩ := bnd_out h
  rw [xP_eq] at h2
  obtain ⟨v,h3,h4⟩ := bnd_out h2
  rw [frcV_eq] at h4
  exact pure (by show (ev l y).bind _ = _; rw [h1,Option.bind_some,h3]; rfl) h4
 | indexAddr t y z =>
  obtain ⟨vx,h1,h2⟩ := bnd_out h
  obtain ⟨vy,h3,h4⟩ := bnd_out h2
  rw [xP_eq] at h4
  obtain ⟨v,h5,h6⟩ := bnd_out h4
  rw [frcV_eq] at h6
  exact pure (by show (ev l y).bind _ = _; rw [h1,Option.bind_some,h3,Option.bind_some,h5]; rfl) h6
 | index t y z =>
  obtain ⟨vx,h1,h2⟩ := bnd_out h
  obtain ⟨vy,h3,h4⟩ := bnd_out h2
  rw [xP_eq] at h4
  obtain ⟨v,h5,h6⟩ := bnd_out h4
  rw [frcV_eq] at h6
  exact pure (by show (ev l y).bind _ = _; rw [h1,Option.bind_some,h3,Option.bind_some,h5]; rfl) h6
 | extract y i =>
  obtain ⟨vx,h1,h2⟩ := bnd_out h
  obtain ⟨vs,h3,h4⟩ := bnd_out h2
  obtain ⟨v,h5,h6⟩ := bnd_out h4
  obtain rfl := dT_out h3
  exact pure (by show oExt _ _ _ _ = _; unfold oExt; rw [h1]; simp only [h5]; rfl) h6
 | call cl =>
  obtain ⟨callee,args,tys⟩ := cl
  cases callee with
  | value fx => cases hc
  | invoke rv m => exact gen h
  | builtin b => exact gen h
 | _ => exact gen h
theorem dO_call {x : Xc} {l : Fl} {c : CS} {k : HV → CS → Option Res} {r : Res} {op : Op} {fx : Operand} {xs : List Operand} (h : dO op x l c k = some r) (hc : callOp op = some (fx,xs)) :
  ∃ fv vs,ev l fx = some fv ∧ xs.mapM (ev l) = some vs ∧ ((∃ v,((extOf fx).bind fun g => extR x.K g vs) = some v ∧ k v c = some r) ∨ ∃ q,x.rc fv vs c x.E = some q ∧ k q.1 q.2 = some r) := by
 obtain ⟨tys,rfl⟩ := callOp_out hc
 obtain ⟨fv,h1,h2⟩ := bnd_out h
 obtain ⟨vs,h3,h4⟩ := bnd_out h2
 rw [evL_eq] at h3
 refine ⟨fv,vs,h1,by simpa using h3,?_⟩
 cases he : (extOf fx).bind fun g => extR x.K g vs with
 | none =>
  rw [he] at h4
  obtain ⟨q,h5,h6⟩ := bnd_out h4
  exact .inr ⟨q,h5,h6⟩
 | some v => rw [he] at h4; exact .inl ⟨v,rfl,h4⟩
theorem dstOk_at {ops : Array Oper} {n i : Nat} {o : Oper} (h : dstOk ops n = true) (ho : ops[i]? = some o) : inB o.dst n = true := by
 unfold dstOk at h
 exact List.all_eq_true.1 h o (by have := Array.mem_of_getElem? ho; simpa using this)
theorem opsT_okT {x : Xc} (hx : XOk base W0 β0 x) {ro : Option Nat} {stk : List Item} {ops : Array Oper} {n : Nat} {ds : List Nat} {kont : Fl → CS → Option Res} {r : Res} {tl : List Nat} (hd : dstOk ops n = true)
  (hk : ∀ l c a,Agr n l ds a → kont l c = some r → HRun x.P base W0 β0 x.f ro (.inRegion ops tl :: stk) a c.hs (Is r)) :
  ∀ (L : List Oper) (i : Nat) (l : Fl) (c : CS) (a : HAct),Agr n l ds a → (∀ j o,L[j]? = some o → ops[i + j]? = some o) → opsT L x ops kont l c = some r → HRun x.P base W0 β0 x.f ro (.inRegion ops (List.range' i L.length ++ tl) :: stk) a c.hs (Is r) := by
 intro L
 induction L with
 | nil => intro i l c a ha _ h; exact hk l c a ha h
 | cons o L ih =>
  intro i l c a ha hL h
  have ho : ops[i]? = some o := hL 0 o rfl
  have hL' : ∀ j o',L[j]? = some o' → ops[i + 1 + j]? = some o' := fun j o' hj => by
   rw [show i + 1 + j = i + (j + 1) by omega]
   exact hL (j + 1) o' (by simpa using hj)
  have hdo := dstOk_at hd ho
  rw [List.length_cons,List.range'_succ,List.cons_append]
  replace h : olC o L (opsT L) x ops kont l c = some r := h
  rw [olC_eq] at h
  unfold olW at h
  split at h
  ·rename_i hw
   have hw := (wantR_out ha hw).elim (fun g => g.2) (fun g => absurd g.1 (by simp))
   cases hcall : callOp o.op with
   | none =>
    obtain ⟨out,c',h1,h2,h3⟩ := dO_op ha h hcall
    obtain ⟨d1,_⟩ := opR_ok (P := x.P) (base := base) (W0 := W0) (a := a) (fun y _ v hv => ev_ok ha hv) rfl h1
    have hrun := ih (i + 1) _ c' _ (ha.putO hdo out.1) hL' h3
    rw [h2] at hrun
    exact hr_op ho hw d1 hrun
   | some q =>
    obtain ⟨fx,xs⟩ := q
    obtain ⟨tys,hop⟩ := callOp_out hcall
    obtain ⟨fv,vs,h1,h2,h3⟩ := dO_call h hcall
    rcases h3 with ⟨v,h4,h5⟩ | ⟨q,h4,h5⟩
    ·obtain ⟨g,hg,hext⟩ := Option.bind_eq_some_iff.1 h4
     obtain rfl := extOf_out hg
     exact hr_op ho hw (ext_ok (hx.kn W0) hop (evs_ev ha h2) hext) (ih (i + 1) _ c _ (ha.putO hdo v) hL' h5)
    ·refine hr_call ho hw hop (ev_ok ha h1) (evs_ev ha h2) ((hx.rc W0).1 _ _ _ _ _ h4 β0 hx.es) ?_
     rintro v1 S1 ⟨rfl,rfl⟩
     exact ih (i + 1) _ q.2 _ (ha.putO hdo q.1) hL' h5
  ·rename_i hw
   have hw := (wantR_out ha hw).elim (fun g => absurd g.1 (by simp)) (fun g => g.2)
   exact hr_op_skip ho hw (ih (i + 1) _ c _ (ha.putO hdo _) hL' h)
  ·cases h
theorem opsT_ok {x : Xc} (hx : XOk base W0 β0 x) {ro : Option Nat} {stk : List Item} {ops : Array Oper} {n : Nat} {ds : List Nat} {kont : Fl → CS → Option Res} {r : Res} (hd : dstOk ops n = true)
  (hk : ∀ l c a,Agr n l ds a → kont l c = some r → HRun x.P base W0 β0 x.f ro stk a c.hs (Is r)) (L : List Oper) (i : Nat) (l : Fl) (c : CS) (a : HAct) (ha : Agr n l ds a) (hL : ∀ j o,L[j]? = some o → ops[i + j]? = some o)
  (h : opsT L x ops kont l c = some r) : HRun x.P base W0 β0 x.f ro (.inRegion ops (List.range' i L.length) :: stk) a c.hs (Is r) := by
 have := opsT_okT hx (ro := ro) (stk := stk) (tl := []) hd (fun l c a ha h => hr_region_end (hk l c a ha h)) L i l c a ha hL h
 rw [List.append_nil] at this
 exact this
theorem isDfr_out {o : Oper} {q : FuncId × List Operand} (h : isDfr o = some q) : ∃ xs tys,o.op = .defer ⟨.value (.func q.1),xs,tys⟩ ∧ q.2 = xs.toList ∧ o.guard = none ∧ o.dst = none := by
 unfold isDfr at h
 split at h
 ·rename_i g xs tys h1 h2 h3
  cases h
  exact ⟨xs,tys,h1,rfl,h2,h3⟩
 ·cases h
theorem opsD_ok {x : Xc} (hx : XOk base W0 β0 x) {stk : List Item} {ops : Array Oper} {ds : List Nat} {k : KF} {r : Res} (hd : dstOk ops x.n = true)
  (hk : ∀ l ds c a,Agr x.n l ds a → k l ds c = some r → HRun x.P base W0 β0 x.f x.ro stk a c.hs (Is r)) (l : Fl) (c : CS) (a : HAct) (ha : Agr x.n l ds a)
  (h : opsD x ops l ds c k = some r) : HRun x.P base W0 β0 x.f x.ro (.inRegion ops (List.range' 0 ops.toList.length) :: stk) a c.hs (Is r) := by
 unfold opsD at h
 split at h
 ·rename_i q hro hq
  obtain ⟨o,ho,hq⟩ := Option.bind_eq_some_iff.1 hq
  obtain ⟨xs,tys,e1,e2,e3,e4⟩ := isDfr_out hq
  obtain ⟨L,hL⟩ : ∃ L,ops.toList = L ++ [o] := ⟨_,(List.getLast?_eq_some_iff.1 ho).choose_spec⟩
  have hlast : ops[L.length]? = some o := by
   rw [← Array.getElem?_toList,hL]; simp
  rw [hL,List.dropLast_concat] at h
  rw [hL,List.length_append,List.length_singleton,List.range'_concat]
  simp only [Nat.zero_add,Nat.one_mul]
  refine opsT_okT hx (ro := x.ro) (stk := stk) (tl := [L.length]) hd (fun l c a ha h => ?_) L 0 l c a ha (fun j o' hj => ?_) h
  ·obtain ⟨vs,h1,h2⟩ := bnd_out h
   rw [evL_eq,e2] at h1
   obtain ⟨c',h3,h4⟩ := CS.syncK_out _ _ h2 (Off.newM _ _ _ (List.mem_singleton.2 rfl))
   have hrun := hk l (c.next :: ds) c' { a with defers := c.next :: a.defers } ⟨by rw [ha.ds],ha.len,ha.at_⟩ h3
   rw [h4] at hrun
   have hev := evs_ev ha h1
   rw [Array.toArray_toList] at hev
   rw [hro] at hrun ⊢
   exact hr_defer hlast e3 e4 e1 hev (hr_region_end hrun)
  ·rw [Nat.zero_add,← Array.getElem?_toList,hL]
   have hlt := (List.getElem?_eq_some_iff.1 hj).1
   rw [List.getElem?_append_left hlt]; exact hj
 ·exact opsT_ok hx hd (fun l c a ha h => hk l ds c a ha h) ops.toList 0 l c a ha (fun j o hj => by rw [Nat.zero_add]; simpa using hj) h
theorem gets_out {S : HS} {ad : HA} {n : Nat} {vs : List HV} (h : S.gets ad n = some vs) : vs.length = n ∧ GetsAt S ad 0 vs := by
 unfold HS.gets at h
 obtain ⟨row,h1,h2⟩ := Option.bind_eq_some_iff.1 h
 split at h2
 ·rename_i hle
  cases h2
  refine ⟨by simp; omega,?_⟩
  have key : ∀ (m j : Nat),ad.j + j + m ≤ row.length → GetsAt S ad j ((row.drop (ad.j + j)).take m) := by
   intro m
   induction m with
   | zero => intro j _; simp [GetsAt]
   | succ m ih =>
    intro j hj
    have hlt : ad.j + j < row.length := by omega
    rw [List.drop_eq_getElem_cons hlt,List.take_succ_cons]
    refine ⟨?_,?_⟩
    ·show (S.row ad.id ad.i).bind _ = _
     rw [h1,Option.bind_some]
     exact List.getElem?_eq_getElem hlt
    ·have := ih (j + 1) (by omega)
     rwa [show ad.j + (j + 1) = ad.j + j + 1 by omega] at this
  exact key n 0 (by omega)
 ·cases h2
theorem retV_ok {n : Nat} {ds : List Nat} {a : HAct} {l : Fl} {S : HS} {y : ResultVar} {v : HV} (ha : Agr n l ds a) (h : retV P l S y = some v) : ResAt P a S y v := by
 unfold retV at h
 split at h
 ·exact .tmp (ha.at_ _ _ h)
 ·split at h
  ·rename_i hx
   split at h
   ·rename_i hs; exact .cell (ha.at_ _ _ hx) rfl (shape_scalar hs) h
   ·rename_i hs
    split at h
    ·rename_i m hn
     obtain ⟨vs,h1,h2⟩ := Option.bind_eq_some_iff.1 h
     split at h2
     ·rename_i h0
      cases h2
      obtain ⟨rfl,g⟩ := gets_out h1
      exact .agg (ha.at_ _ _ hx) rfl (shape_agg hs hn) g h0
     ·cases h2
    ·cases h
   ·cases h
  ·cases h
theorem retVs_ok {n : Nat} {ds : List Nat} {a : HAct} {l : Fl} {S : HS} (ha : Agr n l ds a) : ∀ {rs : List ResultVar} {vs : List HV},rs.mapM (retV P l S) = some vs → ResAts P a S rs vs := by
 intro rs
 induction rs with
 | nil => intro vs h; simp at h; subst h; exact .nil
 | cons y rs ih =>
  intro vs h
  rw [List.mapM_cons] at h
  obtain ⟨v,h1,h⟩ := Option.bind_eq_some_iff.1 h
  obtain ⟨vs',h2,h⟩ := Option.bind_eq_some_iff.1 h
  cases h
  exact .cons (retV_ok ha h1) (ih h2)
theorem retR_ok {n : Nat} {ds : List Nat} {a : HAct} {l : Fl} {fn : Func} {S : HS} {v : HV} (ha : Agr n l ds a) (h : retR P fn l S = some v) : ResOk P base W0 fn a S v := by
 have hres : fn.results = fn.results.toList.toArray := by simp
 unfold retR at h
 split at h
 ·rename_i u hu
  cases h
  have g := retVs_ok ha hu
  generalize fn.results.toList = rs at hres g
  cases g with
  | cons h k => cases k with
   | nil => exact resL1 hres h
 ·rename_i vs hne hvs
  cases h
  refine resL hres (retVs_ok ha hvs) fun e => ?_
  match vs,e with
  | [y],_ => exact hne y rfl
 ·cases h
theorem leave_off : ∀ (ds : List Nat) {S S' : HS},S.leave ds = some S' → ∀ ids,(∀ d ∈ ds,d ∈ ids) → Off S S' ids := by
 intro ds
 induction ds with
 | nil => intro S S' h ids _; cases h; exact .refl _ _
 | cons d ds ih =>
  intro S S' h ids hd
  unfold HS.leave at h
  split at h
  ·exact (Off.put _ _ _ (hd d (by simp))).trans (ih h ids fun y hy => hd y (by simp [hy]))
  ·cases h
theorem leaveT_out {f : FuncId} {n : Nat} {ds : List Nat} {a : HAct} {l : Fl} {c : CS} {r : Res} (ha : Agr n l ds a) (h : leaveT P f l ds c = some r) : ∃ fn,P.funcs[f]? = some fn ∧ c.hs.leave a.defers = some r.2.hs ∧ ResOk P base W0 fn a r.2.hs r.1 := by
 obtain ⟨fn,hf,h⟩ := bnd_out h
 rw [ha.ds]
 cases ds with
 | nil =>
  obtain ⟨v,h1,h2⟩ := bnd_out h
  cases h2
  exact ⟨fn,hf,rfl,retR_ok ha h1⟩
 | cons d ds =>
  obtain ⟨S',h1,h2⟩ := bnd_out h
  obtain ⟨v,h3,h4⟩ := bnd_out h2
  obtain ⟨c',h5,h6⟩ := CS.syncK_out _ _ h4 (leave_off _ h1 _ fun _ h => h)
  cases h5
  subst h6
  exact ⟨fn,hf,h1,retR_ok ha h3⟩
theorem leaveD_ok {rec : Rec} {E : List LR} {fn : Func} {n : Nat} {l : Fl} {a : HAct} {ds0 : List Nat} {r : Res} (hr : RecOk P base W0 K rec) (hE : ESound β0 E) (ha : Agr n l ds0 a) : ∀ (ds : List Nat) (c : CS),leaveD P K rec E fn l ds c = some r →
  HLeave P base W0 β0 ds c.hs fun S' => ∃ v,ResOk P base W0 fn a S' v ∧ Is r v S' := by
 intro ds
 induction ds with
 | nil =>
  intro c h
  obtain ⟨v,h1,h2⟩ := bnd_out h
  cases h2
  exact .nil ⟨v,retR_ok ha h1,rfl,rfl⟩
 | cons d ds ih =>
  intro c h
  replace h : leaveO K rec E d (c.hs.heap d) (leaveD P K rec E fn l ds) c = some r := h
  unfold leaveO at h
  split at h
  ·rename_i g vs hd
   split at h
   ·rename_i ho
    obtain ⟨q,h3,h2⟩ := bnd_out h
    obtain ⟨fn',code,g1,g2,g3⟩ := hr.2 _ _ _ _ _ h3 ho
    refine HLeave.call hd g1 g2 (fun β1 hb => g3 β1 (hE.up hb)) ?_
    rintro v S1 ⟨rfl,rfl⟩
    exact ih _ h2
   ·cases h
  ·rename_i hd
   obtain ⟨c',h3,h4⟩ := CS.syncP_out h (fun i hi => put_other _ hi) rfl rfl
   refine HLeave.mark hd ?_
   rw [← h4]
   exact ih _ h3
  ·cases h
theorem leaveX_ok {rec : Rec} {E : List LR} {f : FuncId} {n : Nat} {l : Fl} {ds : List Nat} {c : CS} {a : HAct} {r : Res} (hr : RecOk P base W0 K rec) (hE : ESound β0 E) (ha : Agr n l ds a) (h : leaveX P K rec E f l ds c = some r) :
  (∀ stk,HRun P base W0 β0 f none (.code .ret :: stk) a c.hs (Is r)) ∧ HRun P base W0 β0 f none [] a c.hs (Is r) := by
 unfold leaveX at h
 cases hf : Nat.beq f K.dfn with
 | false =>
  rw [hf] at h
  obtain ⟨fn,g1,g2,g3⟩ := leaveT_out ha h
  exact ⟨fun stk => q_ret rfl g1 g2 g3 ⟨rfl,rfl⟩,q_end g1 g2 g3 ⟨rfl,rfl⟩⟩
 | true =>
  rw [hf] at h
  obtain ⟨fn,g1,g2⟩ := bnd_out h
  have hl := leaveD_ok (β0 := β0) hr hE ha ds c g2
  rw [← ha.ds] at hl
  exact ⟨fun stk => hr_retD g1 hl,hr_endD g1 hl⟩
theorem endT_out {l : Nat} {j : Option Code} {c : CS} {r : Res} (h : endT l j c = some r) : c.hs.endr l j = some (r.1,r.2.hs) := by
 obtain ⟨p,h1,h2⟩ := bnd_out h
 have hp := h1
 unfold HS.endr at hp
 split at hp
 ·cases hp
  obtain ⟨c',h3,h4⟩ := CS.syncP_out h2 (fun i hi => put_other _ hi) rfl rfl
  cases h3
  rw [h1,h4]
 ·cases hp
theorem findL_out {l : Nat} {r : LR} : ∀ {E : List LR},findL l E = some r → r ∈ E ∧ r.l = l := by
 intro E
 induction E with
 | nil => intro h; cases h
 | cons y E ih =>
  intro h
  replace h : (Bool.rec (motive := fun _ => Option LR) (findL l E) (some y) (Nat.beq y.l l) : Option LR) = some r := h
  rw [brec] at h
  cases hb : Nat.beq y.l l with
  | true => rw [hb,cond_true] at h; cases h; exact ⟨by simp,by simpa using hb⟩
  | false => rw [hb,cond_false] at h; exact ⟨List.mem_cons_of_mem _ (ih h).1,(ih h).2⟩
def KOk (P : Program) (base : Nat) (W0 : Env) (β0 : Bt) (f : FuncId) (ro : Option Nat) (n : Nat) (r : Res) (stk : List Item) (k : KF) : Prop := ∀ l ds c a,Agr n l ds a → k l ds c = some r → HRun P base W0 β0 f ro stk a c.hs (Is r)
def ExOk (P : Program) (base : Nat) (W0 : Env) (β0 : Bt) (f : FuncId) (ro : Option Nat) (n : Nat) (r : Res) (stk : List Item) (ex : List (Nat × KF)) : Prop :=
 ∀ id,match findK id ex with | some k => ∃ stk',exitTo id stk = some stk' ∧ KOk P base W0 β0 f ro n r stk' k | none => exitTo id stk = none
theorem ExOk.same {f : FuncId} {ro : Option Nat} {n : Nat} {r : Res} {stk stk1 : List Item} {ex : List (Nat × KF)} (h : ExOk P base W0 β0 f ro n r stk ex) (hs : ∀ id,exitTo id stk1 = exitTo id stk) : ExOk P base W0 β0 f ro n r stk1 ex := fun id => by
 have := h id
 rw [hs]; exact this
theorem findK_cons (id id' : Nat) (k : KF) (ex : List (Nat × KF)) : findK id ((id',k) :: ex) = cond (Nat.beq id' id) (some k) (findK id ex) := brec _ _ _
theorem exit_ok {x : Xc} {n : Nat} {r : Res} {stk : List Item} {ex : List (Nat × KF)} {id : Nat} {l : Fl} {ds : List Nat} {c : CS} {k : KF} {a : HAct} (he : ExOk x.P base W0 β0 x.f x.ro n r stk ex) (ha : Agr n l ds a) (h : cExit id x ex l ds c k = some r) : HRun x.P base W0 β0 x.f x.ro (.code (.exit id) :: stk) a c.hs (Is r) := by
 have := he id
 replace h : (Option.rec (motive := fun _ => Option Res) (bnd x.ro fun lo => endT lo (some (.exit id)) c) (fun k => k l ds c) (findK id ex) : Option Res) = some r := h
 cases hf : findK id ex with
 | some k' =>
  rw [hf] at this h
  obtain ⟨stk',h1,h2⟩ := this
  exact hr_exit h1 (h2 l ds c a ha h)
 | none =>
  rw [hf] at this h
  obtain ⟨lo,h1,h2⟩ := bnd_out h
  rw [h1]
  exact q_round_exit rfl this (endT_out h2) ⟨rfl,rfl⟩
theorem ret_ok {x : Xc} (hx : XOk base W0 β0 x) {n : Nat} {r : Res} {stk : List Item} {ex : List (Nat × KF)} {l : Fl} {ds : List Nat} {c : CS} {k : KF} {a : HAct} (ha : Agr n l ds a) (h : cRet x ex l ds c k = some r) : HRun x.P base W0 β0 x.f x.ro (.code .ret :: stk) a c.hs (Is r) := by
 replace h : (Option.rec (motive := fun _ => Option Res) (xP x fun P => leaveX P x.K x.rc x.E x.f l ds c) (fun lo => endT lo (some .ret) c) x.ro : Option Res) = some r := h
 rw [xP_eq] at h
 cases hro : x.ro with
 | none =>
  rw [hro] at h
  exact (leaveX_ok (hx.rc W0) hx.es ha h).1 stk
 | some lo => rw [hro] at h; exact q_round_ret rfl (endT_out h) ⟨rfl,rfl⟩
theorem pend_ok {x : Xc} (hx : XOk base W0 β0 x) {n : Nat} {r : Res} {stk : List Item} {ex : List (Nat × KF)} {j : Option Code} {l : Fl} {ds : List Nat} {c : CS} {k : KF} {a : HAct} (he : ExOk x.P base W0 β0 x.f x.ro n r stk ex) (hk : KOk x.P base W0 β0 x.f x.ro n r stk k) (ha : Agr n l ds a) (h : cPend j x ex l ds c k = some r) : HRun x.P base W0 β0 x.f x.ro (jumped j stk) a c.hs (Is r) := by
 unfold cPend at h
 split at h
 ·exact hk l ds c a ha h
 ·exact ret_ok hx (ex := ex) (k := k) ha h
 ·exact exit_ok (k := k) he ha h
 ·cases h
theorem finish_put {S S' : HS} {l : Nat} {p : Option Code} (h : S.finish l = some (p,S')) : ∃ o,S' = S.put l o := by
 obtain ⟨_,_,_,_,_,rfl⟩ := finish_out h
 exact ⟨_,rfl⟩
theorem cexec_ok {x : Xc} (hx : XOk base W0 β0 x) {r : Res} : ∀ (code : Code) (ex : List (Nat × KF)) (stk : List Item) (l : Fl) (ds : List Nat) (c : CS) (k : KF) (a : HAct),ExOk x.P base W0 β0 x.f x.ro x.n r stk ex → KOk x.P base W0 β0 x.f x.ro x.n r stk k → Agr x.n l ds a →
  cexec code x ex l ds c k = some r → HRun x.P base W0 β0 x.f x.ro (.code code :: stk) a c.hs (Is r) := by
 intro code
 induction code with
 | skip => intro ex stk l ds c k a he hk ha h; exact hr_skip (hk l ds c a ha h)
 | region id ops draw =>
  intro ex stk l ds c k a he hk ha h
  replace h : (Bool.rec (motive := fun _ => Option Res) none (Bool.rec (motive := fun _ => Option Res) (Bool.rec (motive := fun _ => Option Res) (opsT ops.toList x ops (fun l c => k l ds c) l c) (opsD x ops l ds c k) (Nat.beq x.f x.K.dfn)) (x.dr x.P x.K x.rc x.E ops (fun l c => k l ds c) l c) draw) (dstOk ops x.n) : Option Res) = some r := h
  cases hd : dstOk ops x.n with
  | false => rw [hd] at h; cases h
  | true =>
   rw [hd] at h
   cases draw with
   | true => exact hx.dr W0 x.K x.rc hx.kn hx.rc β0 x.E hx.es x.f x.ro stk ops id x.n ds _ r hd (fun l c a ha h => hk l ds c a ha h) l c a ha h
   | false =>
    have : HRun x.P base W0 β0 x.f x.ro (.inRegion ops (List.range' 0 ops.toList.length) :: stk) a c.hs (Is r) := by
     cases hf : Nat.beq x.f x.K.dfn with
     | false => rw [hf] at h; exact opsT_ok hx (ro := x.ro) (stk := stk) (r := r) hd (fun l c a ha h => hk l ds c a ha h) ops.toList 0 l c a ha (fun j o hj => by rw [Nat.zero_add]; simpa using hj) h
     | true => rw [hf] at h; exact opsD_ok hx hd hk l c a ha h
    refine hr_region ?_ this
    rw [List.range_eq_range']; simp
 | seq y z iha ihb =>
  intro ex stk l ds c k a he hk ha h
  refine hr_seq (iha ex (.code z :: stk) l ds c _ a (he.same fun _ => rfl) ?_ ha h)
  intro l ds c a ha h
  exact ihb ex stk l ds c k a he hk ha h
 | cond o y z iha ihb =>
  intro ex stk l ds c k a he hk ha h
  obtain ⟨v,h1,h2⟩ := bnd_out h
  obtain ⟨t,h3,h4⟩ := bnd_out h2
  obtain rfl := dB_out h3
  refine hr_cond (ev_ok ha h1) ?_
  cases t with
  | true => exact iha ex stk l ds c k a he hk ha h4
  | false => exact ihb ex stk l ds c k a he hk ha h4
 | block id y iha =>
  intro ex stk l ds c k a he hk ha h
  refine hr_block (iha ((id,k) :: ex) (.inBlock id :: stk) l ds c k a (fun id' => ?_) (fun l ds c a ha h => hr_inBlock (hk l ds c a ha h)) ha h)
  rw [findK_cons]
  by_cases e : id = id'
  ·subst e
   rw [show Nat.beq id id = true by simp,cond_true]
   exact ⟨stk,by simp [exitTo],hk⟩
  ·rw [nbeq_ne e,cond_false]
   have hx : exitTo id' (.inBlock id :: stk) = exitTo id' stk := by simp [exitTo,e]
   rw [hx]; exact he id'
 | loop y iha =>
  intro ex stk l ds c k a he hk ha h
  have key : ∀ m : Nat,KOk x.P base W0 β0 x.f x.ro x.n r (.inLoop y :: stk) (Nat.rec (motive := fun _ => KF) (fun _ _ _ => none) (fun _ ih l ds c => ddK l 0 fun l => cexec y x ex l ds c ih) m) := by
   intro m
   induction m with
   | zero => intro l ds c a ha h; cases h
   | succ m ih =>
    intro l ds c a ha h
    obtain ⟨l',h1,h2,_⟩ := ddK_out _ _ _ h
    exact hr_inLoop (iha ex (.inLoop y :: stk) l' ds c _ a (he.same fun _ => rfl) ih ⟨ha.ds,ha.len,fun t v hv => ha.at_ t v (h2 t v hv)⟩ h1)
  have key2 : ∀ m : Nat,(Nat.rec (motive := fun _ => KF) (fun _ _ _ => none) (fun _ ih l ds c => ddK l 0 fun l => cexec y x ex l ds c ih) m : KF) l ds c = some r → HRun x.P base W0 β0 x.f x.ro (.code (.loop y) :: stk) a c.hs (Is r) := by
   intro m h
   cases m with
   | zero => cases h
   | succ m =>
    obtain ⟨l',h1,h2,_⟩ := ddK_out _ _ _ h
    exact hr_loop (iha ex (.inLoop y :: stk) l' ds c _ a (he.same fun _ => rfl) (key m) ⟨ha.ds,ha.len,fun t v hv => ha.at_ t v (h2 t v hv)⟩ h1)
  exact key2 _ h
 | rangeFunc g ps assign body _ _ =>
  intro ex stk l ds c k a he hk ha h
  obtain ⟨fv,hfv,h⟩ := bnd_out h
  rw [frcN_eq] at h
  cases hro : x.ro with
  | none =>
   rw [hro] at h
   obtain ⟨c1,h1,h2⟩ := CS.syncK_out _ _ h (by
    refine Off.trans (S1 := c.hs.new .defer) (.newM _ _ _ ?_) (.newM _ _ _ ?_)
    ·show c.next ∈ _; simp
    ·show c.next + 1 ∈ _; simp)
   obtain ⟨q,hq,h1⟩ := bnd_out h1
   obtain ⟨p,hp,h1⟩ := bnd_out h1
   obtain ⟨ob,hob⟩ := finish_put hp
   obtain ⟨c3,h3,h4⟩ := CS.syncP_out h1 (fun i hi => by rw [hob]; exact put_other _ hi) (by rw [hob]; rfl) (by rw [hob]; rfl)
   have hag : Agr x.n l (c.next :: ds) { a with defers := c.next :: a.defers } := ⟨by rw [ha.ds],ha.len,ha.at_⟩
   have hrun := pend_ok hx he hk hag h3
   rw [hro] at hrun
   obtain ⟨st,pend',f1,f2,f3,f4⟩ := finish_out hp
   refine hr_range (R1 := Is q) (ev_ok ha hfv) (fun β1 l1 l2 => ?_) ?_
   ·have := (hx.rc W0).1 _ _ _ _ _ hq β1 ((hx.es.up l1).cons ⟨a,ds,ha,l2⟩)
    rw [h2] at this
    exact this
   ·rintro v1 S1 ⟨rfl,rfl⟩
    refine ⟨st,_,f1,f2,?_⟩
    rw [h4,f4,f3] at hrun
    exact hrun
  | some lo =>
   rw [hro] at h
   obtain ⟨u,hlp,h⟩ := bnd_out h
   obtain ⟨st0,pend0,hl0⟩ := lp_out hlp
   obtain ⟨c1,h1,h2⟩ := CS.syncK_out _ _ h (Off.newM _ _ _ (List.mem_singleton.2 rfl))
   obtain ⟨q,hq,h1⟩ := bnd_out h1
   obtain ⟨p,hp,h1⟩ := bnd_out h1
   obtain ⟨ob,hob⟩ := finish_put hp
   obtain ⟨c3,h3,h4⟩ := CS.syncP_out h1 (fun i hi => by rw [hob]; exact put_other _ hi) (by rw [hob]; rfl) (by rw [hob]; rfl)
   have hrun := pend_ok hx he hk ha h3
   rw [hro] at hrun
   obtain ⟨st,pend',f1,f2,f3,f4⟩ := finish_out hp
   refine hr_range_in hl0 (R1 := Is q) (ev_ok ha hfv) (fun β1 l1 l2 => ?_) ?_
   ·have := (hx.rc W0).1 _ _ _ _ _ hq β1 ((hx.es.up l1).cons ⟨a,ds,ha,l2⟩)
    rw [h2] at this
    exact this
   ·rintro v1 S1 ⟨rfl,rfl⟩
    refine ⟨st,_,f1,f2,?_⟩
    rw [h4,f4,f3] at hrun
    exact hrun
 | exit id => intro ex stk l ds c k a he hk ha h; exact exit_ok (k := k) he ha h
 | scope y iha => intro ex stk l ds c k a he hk ha h; exact hr_scope (iha ex (.inScope y :: stk) l ds c k a (he.same fun _ => rfl) (fun l ds c a ha h => hr_inScope (hk l ds c a ha h)) ha h)
 | label id => intro ex stk l ds c k a he hk ha h; exact hr_label (hk l ds c a ha h)
 | goto id => intro ex stk l ds c k a he hk ha h; cases h
 | ret => intro ex stk l ds c k a he hk ha h; exact ret_ok hx (ex := ex) (k := k) ha h
 | refuse w => intro ex stk l ds c k a he hk ha h; cases h
theorem exOk_nil {f : FuncId} {ro : Option Nat} {n : Nat} {r : Res} {stk : List Item} (h : ∀ id,exitTo id stk = none) : ExOk P base W0 β0 f ro n r stk [] := fun id => h id
theorem callF_okA {dr : DrawF} {rec : Rec} (hK : ∀ W,KnOk P base W K) (hd : DrawOkF P base dr) (hr : ∀ W,RecOk P base W K rec) {E : List LR} {g : FuncId} {vs : List HV} {c : CS} {r : Res} (ho : K.over g = none) (h : callF P K dr rec g vs c E = some r) :
  ∃ fn code,FnAt P g fn ∧ fn.body = some code ∧ ∀ β0,ESound β0 E → HCallA P base W0 β0 g vs c.hs (Is r) := by
 obtain ⟨fn,hf,h⟩ := bnd_out h
 obtain ⟨code,hb,h⟩ := bnd_out h
 unfold callB at h
 cases hn : fn.name == "runtime.NumGoroutine" with
 | true => rw [hn] at h; cases h
 | false =>
  rw [hn] at h
  refine ⟨fn,code,⟨hf,hn⟩,hb,fun β0 hE => ?_⟩
  rw [ho] at h
  replace h : (frcN (Nat.add vs.length (Nat.sub fn.ntmps vs.length)) fun n => cexec code ⟨P,K,dr,rec,E,n,g,none⟩ [] (mkL vs 0 .nil) [] c fun l ds c => leaveX P K rec E g l ds c) = some r := h
  rw [frcN_eq] at h
  refine HCallA.of_run hf hb ?_
  refine cexec_ok (x := ⟨P,K,dr,rec,E,vs.length + (fn.ntmps - vs.length),g,none⟩) ⟨hK,hr,hd,hE⟩ code [] [] (mkL vs 0 .nil) [] c _ _ (exOk_nil fun _ => rfl) ?_ (mkL_agr vs fn.ntmps) h
  intro l ds c a ha h
  exact (leaveX_ok (hr W0) hE ha h).2
theorem callF_ok {dr : DrawF} {rec : Rec} (hK : ∀ W,KnOk P base W K) (hd : DrawOkF P base dr) (hr : ∀ W,RecOk P base W K rec) {E : List LR} (hE : ESound β0 E) {g : FuncId} {vs : List HV} {c : CS} {r : Res} (h : callF P K dr rec g vs c E = some r) :
  ∃ fn code,FnAt P g fn ∧ fn.body = some code ∧ HCall P base W0 β0 g vs c.hs (Is r) := by
 cases ho : K.over g with
 | none =>
  obtain ⟨fn,code,g1,g2,g3⟩ := callF_okA hK hd hr ho h
  exact ⟨fn,code,g1,g2,(g3 β0 hE).call⟩
 | some q =>
  obtain ⟨fn,hf,h⟩ := bnd_out h
  obtain ⟨code,hb,h⟩ := bnd_out h
  unfold callB at h
  cases hn : fn.name == "runtime.NumGoroutine" with
  | true => rw [hn] at h; cases h
  | false =>
   rw [hn,ho] at h
   exact ⟨fn,code,⟨hf,hn⟩,hb,(hK W0).over _ _ ho β0 _ _ _ h⟩
theorem roundT_ok {dr : DrawF} {rec : Rec} (hK : ∀ W,KnOk P base W K) (hd : DrawOkF P base dr) (hr : ∀ W,RecOk P base W K rec) {E : List LR} (hE : ESound β0 E) {q : LR} (hq : q ∈ E) {vs : List HV} {c : CS} {r : Res} {u : Unit} (hlp : c.hs.lp q.l = some u) (h : roundT P K dr rec q.l q vs c E = some r) :
  HInv P base W0 β0 (.fn (.yield q.l) [] []) vs c.hs (Is r) := by
 unfold roundT at h
 cases hc : Nat.beq vs.length q.ps.size && q.ps.toList.all (fun p => Nat.ble (p + 1) q.n) with
 | false => rw [hc] at h; cases h
 | true =>
  rw [hc] at h
  simp only [Bool.and_eq_true] at hc
  obtain ⟨a,ds,ha,hl⟩ := hE q hq
  have ha0 : Agr q.n q.F [] { a with defers := [] } := ⟨rfl,ha.len,ha.at_⟩
  refine q_yield hl hlp (Nat.eq_of_beq_eq_true hc.1) ?_
  have hx : XOk base W0 β0 (⟨P,K,dr,rec,E,q.n,q.f,some q.l⟩ : Xc) := ⟨hK,hr,hd,hE⟩
  refine cexec_ok (x := ⟨P,K,dr,rec,E,q.n,q.f,some q.l⟩) hx q.assign [] [.beginRound,.code q.body] (mkP q.ps.toList vs q.F) [] c _ _ (exOk_nil fun _ => rfl) ?_ (mkP_agr q.ps.toList vs q.F _ ha0 hc.2) h
  intro l ds c a ha h
  obtain ⟨S',h1,h2⟩ := bnd_out h
  have hS := h1
  unfold HS.begin_ at hS
  split at hS
  ·cases hS
   obtain ⟨c',h3,h4⟩ := CS.syncP_out h2 (fun i hi => put_other _ hi) rfl rfl
   have hrun := cexec_ok (x := ⟨P,K,dr,rec,E,q.n,q.f,some q.l⟩) hx (r := r) q.body [] [] l ds c' _ a (exOk_nil fun _ => rfl) (fun l ds c a ha h => q_round_end (endT_out h) ⟨rfl,rfl⟩) ha h3
   rw [h4] at hrun
   exact q_begin h1 hrun
  ·cases hS
theorem callT_ok {dr : DrawF} {rec : Rec} (hK : ∀ W,KnOk P base W K) (hd : DrawOkF P base dr) (hr : ∀ W,RecOk P base W K rec) {E : List LR} (hE : ESound β0 E) {fv : HV} {vs : List HV} {c : CS} {r : Res}
  (h : callT P K dr rec fv vs c E = some r) : HInv P base W0 β0 fv vs c.hs (Is r) := by
 unfold callT at h
 split at h
 ·obtain ⟨fn,code,g1,g2,g3⟩ := callF_ok hK hd hr hE h
  exact HInv.func g1 g2 g3
 ·obtain ⟨q,h1,h2⟩ := bnd_out h
  obtain ⟨u,h3,h4⟩ := bnd_out h2
  obtain ⟨m1,rfl⟩ := findL_out h1
  exact roundT_ok hK hd hr hE m1 h3 h4
 ·cases h
theorem exec_ok {dr : DrawF} (hK : ∀ W,KnOk P base W K) (hd : DrawOkF P base dr) : ∀ n W,RecOk P base W K (exec P K dr n) := by
 intro n
 induction n with
 | zero => intro W; exact ⟨(by intro fv vs c E r h; cases h),(by intro g vs c E r h; cases h)⟩
 | succ n ih =>
  intro W
  refine ⟨fun fv vs c E r h β0 hE => callT_ok hK hd ih hE h,fun g vs c E r h ho => ?_⟩
  replace h : callF P K dr (exec P K dr n) g ([] ++ vs ++ []) c E = some r := h
  simp only [List.nil_append,List.append_nil] at h
  exact callF_okA hK hd ih ho h
theorem run_call {dr : DrawF} {n : Nat} {f : FuncId} {args : List HV} {c : CS} {r : Res} (hK : ∀ W,KnOk P base W K) (hd : DrawOkF P base dr) (h : exec P K dr (n + 1) (.fn (.func f) [] []) args c [] = some r) : HCall P base W0 β0 f args c.hs (Is r) := by
 replace h : callF P K dr (exec P K dr n) f ([] ++ args ++ []) c [] = some r := h
 simp only [List.nil_append,List.append_nil] at h
 obtain ⟨_,_,_,_,g⟩ := callF_ok hK hd (exec_ok hK hd n) (fun r hr => by cases hr) h
 exact g
end
end Go.Proofs.YtfningkbcfhheaaGreatDoor.HL
namespace Go.Proofs.YtfningkbcfhheaaGreatDoor.HL
set_option linter.unusedVariables false
noncomputable section
open Go.RowKit (Below)
def lenMap (P : Program) (tys : Array TypeId) : Bool := match tys.toList with | t :: _ => (match P.underlying t with | some (.map _ _) => true | _ => false) | _ => false
def freeOp (P : Program) (op : Op) : Bool :=
 match op with
 | .move _ => true
 | .assign _ => true
 | .pick _ _ _ => true
 | .build _ _ => true
 | .nilCheck _ => true
 | .binOp _ _ _ _ _ => true
 | .unOp _ _ _ => true
 | .fieldAddr _ _ _ => true
 | .field _ _ _ => true
 | .index _ _ _ => true
 | .extract _ _ => true
 | .makeFunc _ _ _ => true
 | .convert src dst _ => (match P.underlying dst with
  | some (.int _) => true
  | some .string => (match P.underlying src with | some .string => true | _ => false)
  | _ => false)
 | .slice t _ _ _ _ => (match P.underlying t with | some .string => true | _ => false)
 | .call c => (match c.callee with
  | .builtin b => (match b with | .len => !lenMap P c.argTypes | .cap => true | .min => true | .max => true | .unsafeSliceData => true | _ => false)
  | _ => false)
 | _ => false
def readOp (P : Program) (op : Op) : Bool :=
 match op with
 | .load _ _ => true
 | .indexAddr _ _ _ => true
 | .lookup _ _ _ _ => true
 | .slice _ _ _ _ _ => true
 | .convert _ dst _ => (match P.underlying dst with | some .string => true | some .unsafePointer => true | some (.pointer _) => true | _ => false)
 | .call c => (match c.callee with
  | .builtin b => (match b with | .len => true | _ => false)
  | _ => false)
 | _ => false
theorem map_same {x : Option HV} {S : HS} {r : Out} (h : x.map (same S) = some r) : ∃ v,r = same S v ∧ x = some v := by
 obtain ⟨v,h1,h2⟩ := Option.map_eq_some_iff.1 h
 exact ⟨v,h2.symm,h1⟩
theorem built1_same {P : Program} {S : HS} {b : Builtin} {tys : Array TypeId} {vx : HV} {r : Out} (hb : (match b with | .len => !lenMap P tys | .cap => true | .min => true | .max => true | .unsafeSliceData => true | _ => false) = true) (h : built1 P S b tys vx = some r) :
  ∃ v,r = same S v ∧ ∀ T,built1 P T b tys vx = some (same T v) := by
 unfold built1 at h ⊢
 cases b <;> simp only [Bool.false_eq_true] at hb h ⊢
 case len =>
  split at h
  ·rename_i ht
   try simp only [ht]
   split at h
   ·rename_i hu
    try simp only [hu]
    split at h
    ·cases h; exact ⟨_,rfl,fun T => rfl⟩
    ·cases h
   ·rename_i hu
    try simp only [hu]
    split at h
    ·cases h; exact ⟨_,rfl,fun T => rfl⟩
    ·cases h
   ·rename_i hu
    simp only [lenMap,ht,hu,Bool.not_true,Bool.false_eq_true] at hb
   ·cases h
  ·cases h
 case cap =>
  split at h
  ·rename_i ht
   try simp only [ht]
   split at h
   ·rename_i hu
    try simp only [hu]
    split at h
    ·obtain ⟨k,h1,h2⟩ := Option.map_eq_some_iff.1 h
     exact ⟨_,h2.symm,fun T => by rw [h1]; rfl⟩
    ·cases h
   ·cases h
  ·cases h
 case unsafeSliceData =>
  split at h
  ·obtain ⟨k,h1,h2⟩ := Option.map_eq_some_iff.1 h
   exact ⟨_,h2.symm,fun T => by rw [h1]; rfl⟩
  ·cases h
 all_goals cases h
theorem built2_same {P : Program} {S : HS} {b : Builtin} {tys : Array TypeId} {vx vy : HV} {r : Out} (hb : (match b with | .len => !lenMap P tys | .cap => true | .min => true | .max => true | .unsafeSliceData => true | _ => false) = true) (h : built2 P S b tys vx vy = some r) :
  ∃ v,r = same S v ∧ ∀ T,built2 P T b tys vx vy = some (same T v) := by
 unfold built2 at h ⊢
 cases b <;> simp only [Bool.false_eq_true] at hb h ⊢
 case min =>
  split at h
  ·split at h
   ·split at h
    ·rename_i hk; cases h; exact ⟨_,rfl,fun T => by simp only [if_pos hk]⟩
    ·cases h
   ·cases h
  ·cases h
 case max =>
  split at h
  ·split at h
   ·split at h
    ·rename_i hk; cases h; exact ⟨_,rfl,fun T => by simp only [if_pos hk]⟩
    ·cases h
   ·cases h
  ·cases h
 all_goals cases h
theorem opR_free {P : Program} {e : Operand → Option HV} {op : Op} {S : HS} {r : Out} (hf : freeOp P op = true) (h : opR P e op S = some r) : ∃ v,r = same S v ∧ ∀ T,opR P e op T = some (same T v) := by
 have one : ∀ {x : Option HV} {r : Out},x.map (same S) = some r → ∃ v,r = same S v ∧ ∀ T,x.map (same T) = some (same T v) := fun h => by
  obtain ⟨v,h1,h2⟩ := map_same h
  exact ⟨v,h1,fun T => by rw [h2]; rfl⟩
 cases op with
 | move x => exact one h
 | assign x => exact one h
 | pick c x y =>
  simp only [opR,oPick,oBuild,oLit,oFunc,oExt,oCall] at h ⊢
  split at h
  ·exact one h
  ·cases h
 | build t ps =>
  simp only [opR,oPick,oBuild,oLit,oFunc,oExt,oCall] at h ⊢
  split at h
  ·exact one h
  ·cases h
 | nilCheck x =>
  obtain ⟨vx,h1,h2⟩ := Option.bind_eq_some_iff.1 h
  obtain ⟨v,h3,h4⟩ := one h2
  exact ⟨v,h3,fun T => by simp only [opR,oMove,oPick,oBox,oBuild,oLit,oLoad,oStore,oNil,oBin,oUn,oConv,oFunc,oMap,oMake,oSlice,oFld,oField,oIdxA,oIdx,oLook,oMput,oExt,oCall,h1,Option.bind_some]; exact h4 T⟩
 | binOp bop t x y ty =>
  obtain ⟨vx,h1,h2⟩ := Option.bind_eq_some_iff.1 h
  obtain ⟨vy,h5,h6⟩ := Option.bind_eq_some_iff.1 h2
  obtain ⟨v,h3,h4⟩ := one h6
  exact ⟨v,h3,fun T => by simp only [opR,oMove,oPick,oBox,oBuild,oLit,oLoad,oStore,oNil,oBin,oUn,oConv,oFunc,oMap,oMake,oSlice,oFld,oField,oIdxA,oIdx,oLook,oMput,oExt,oCall,h1,h5,Option.bind_some]; exact h4 T⟩
 | unOp uop t x =>
  obtain ⟨vx,h1,h2⟩ := Option.bind_eq_some_iff.1 h
  obtain ⟨v,h3,h4⟩ := one h2
  exact ⟨v,h3,fun T => by simp only [opR,oMove,oPick,oBox,oBuild,oLit,oLoad,oStore,oNil,oBin,oUn,oConv,oFunc,oMap,oMake,oSlice,oFld,oField,oIdxA,oIdx,oLook,oMput,oExt,oCall,h1,Option.bind_some]; exact h4 T⟩
 | fieldAddr s x f =>
  obtain ⟨vx,h1,h2⟩ := Option.bind_eq_some_iff.1 h
  obtain ⟨v,h3,h4⟩ := one h2
  exact ⟨v,h3,fun T => by simp only [opR,oMove,oPick,oBox,oBuild,oLit,oLoad,oStore,oNil,oBin,oUn,oConv,oFunc,oMap,oMake,oSlice,oFld,oField,oIdxA,oIdx,oLook,oMput,oExt,oCall,h1,Option.bind_some]; exact h4 T⟩
 | field s x f =>
  obtain ⟨vx,h1,h2⟩ := Option.bind_eq_some_iff.1 h
  obtain ⟨v,h3,h4⟩ := one h2
  exact ⟨v,h3,fun T => by simp only [opR,oMove,oPick,oBox,oBuild,oLit,oLoad,oStore,oNil,oBin,oUn,oConv,oFunc,oMap,oMake,oSlice,oFld,oField,oIdxA,oIdx,oLook,oMput,oExt,oCall,h1,Option.bind_some]; exact h4 T⟩
 | index t x y =>
  obtain ⟨vx,h1,h2⟩ := Option.bind_eq_some_iff.1 h
  obtain ⟨vy,h5,h6⟩ := Option.bind_eq_some_iff.1 h2
  obtain ⟨v,h3,h4⟩ := one h6
  exact ⟨v,h3,fun T => by simp only [opR,oMove,oPick,oBox,oBuild,oLit,oLoad,oStore,oNil,oBin,oUn,oConv,oFunc,oMap,oMake,oSlice,oFld,oField,oIdxA,oIdx,oLook,oMput,oExt,oCall,h1,h5,Option.bind_some]; exact h4 T⟩
 | extract x i =>
  simp only [opR,oPick,oBuild,oLit,oFunc,oExt,oCall] at h ⊢
  split at h
  ·exact one h
  ·cases h
 | makeFunc fn fs cs =>
  cases fn with
  | func g =>
   simp only [opR,oPick,oBuild,oLit,oFunc,oExt,oCall] at h ⊢
   split at h
   ·rename_i hv
    split at h
    ·rename_i hw
     cases h
     exact ⟨_,rfl,fun T => rfl⟩
    ·cases h
   ·cases h
  | _ => cases h
 | convert src dst x =>
  obtain ⟨vx,h1,h2⟩ := Option.bind_eq_some_iff.1 h
  have key : ∃ v,r = same S v ∧ ∀ T,convR P T src dst vx = some (same T v) := by
   unfold freeOp at hf
   simp only at hf
   unfold convR at h2 ⊢
   split at h2
   ·cases h2
   ·rename_i ds hs
    simp only [hs] at hf ⊢
    split at hf
    ·rename_i hd
     simp only [hd] at h2 ⊢
     split at h2
     ·cases h2; exact ⟨_,rfl,fun T => rfl⟩
     ·cases h2
    ·rename_i hd
     simp only [hd] at h2 ⊢
     split at hf
     ·rename_i hds
      cases hds
      simp only at h2 ⊢
      split at h2
      ·cases h2; exact ⟨_,rfl,fun T => rfl⟩
      ·cases h2
     ·cases hf
    ·cases hf
  obtain ⟨v,h3,h4⟩ := key
  exact ⟨v,h3,fun T => by simp only [opR,oMove,oPick,oBox,oBuild,oLit,oLoad,oStore,oNil,oBin,oUn,oConv,oFunc,oMap,oMake,oSlice,oFld,oField,oIdxA,oIdx,oLook,oMput,oExt,oCall,h1,Option.bind_some]; exact h4 T⟩
 | slice t x lo hi mx =>
  obtain ⟨vx,h1,h2⟩ := Option.bind_eq_some_iff.1 h
  obtain ⟨v,h3,h4⟩ := map_same h2
  refine ⟨v,h3,fun T => ?_⟩
  simp only [opR,oMove,oPick,oBox,oBuild,oLit,oLoad,oStore,oNil,oBin,oUn,oConv,oFunc,oMap,oMake,oSlice,oFld,oField,oIdxA,oIdx,oLook,oMput,oExt,oCall,h1,Option.bind_some]
  have : sliceR P T e t vx lo hi mx = some v := by
   unfold freeOp at hf
   simp only at hf
   split at hf
   ·rename_i hu
    unfold sliceR at h4 ⊢
    split at h4
    ·cases h4
    ·rename_i hlo
     try simp only [hlo]
     split at h4
     ·exact h4
     ·simp only [hu] at h4; cases h4
     ·cases h4
   ·cases hf
  rw [this]; rfl
 | call c =>
  obtain ⟨callee,args,tys⟩ := c
  unfold freeOp at hf
  simp only at hf
  simp only [opR,oPick,oBuild,oLit,oFunc,oExt,oCall] at h ⊢
  split at hf
  ·rename_i b
   simp only at h ⊢
   split at h
   ·obtain ⟨vx,h1,h2⟩ := Option.bind_eq_some_iff.1 h
    obtain ⟨v,h3,h4⟩ := built1_same hf h2
    exact ⟨v,h3,fun T => by rw [h1,Option.bind_some]; exact h4 T⟩
   ·obtain ⟨vx,h1,h2⟩ := Option.bind_eq_some_iff.1 h
    obtain ⟨vy,h5,h6⟩ := Option.bind_eq_some_iff.1 h2
    obtain ⟨v,h3,h4⟩ := built2_same hf h6
    exact ⟨v,h3,fun T => by rw [h1,Option.bind_some,h5,Option.bind_some]; exact h4 T⟩
   ·cases h
  ·cases hf
 | _ => cases hf
theorem opR_read {P : Program} {e : Operand → Option HV} {op : Op} {S : HS} {r : Out} (hf : readOp P op = true) (h : opR P e op S = some r) : ∃ v,r = same S v := by
 cases op with
 | load t x =>
  obtain ⟨vx,h1,h2⟩ := Option.bind_eq_some_iff.1 h
  exact ⟨_,(map_same h2).choose_spec.1⟩
 | indexAddr t x y =>
  obtain ⟨vx,h1,h2⟩ := Option.bind_eq_some_iff.1 h
  obtain ⟨vy,h3,h4⟩ := Option.bind_eq_some_iff.1 h2
  exact ⟨_,(map_same h4).choose_spec.1⟩
 | lookup t x y ok =>
  obtain ⟨vx,h1,h2⟩ := Option.bind_eq_some_iff.1 h
  obtain ⟨vy,h3,h4⟩ := Option.bind_eq_some_iff.1 h2
  exact ⟨_,(map_same h4).choose_spec.1⟩
 | slice t x lo hi mx =>
  obtain ⟨vx,h1,h2⟩ := Option.bind_eq_some_iff.1 h
  exact ⟨_,(map_same h2).choose_spec.1⟩
 | convert src dst x =>
  obtain ⟨vx,h1,h2⟩ := Option.bind_eq_some_iff.1 h
  unfold readOp at hf
  simp only at hf
  unfold convR at h2
  split at h2
  ·cases h2
  ·split at hf
   ·rename_i hd
    simp only [hd] at h2
    split at h2
    ·split at h2
     ·cases h2; exact ⟨_,rfl⟩
     ·cases h2
    ·split at h2
     ·split at h2
      ·obtain ⟨t,h3,h4⟩ := Option.map_eq_some_iff.1 h2
       exact ⟨_,h4.symm⟩
      ·cases h2
     ·cases h2
    ·cases h2
   ·rename_i hd
    simp only [hd] at h2
    split at h2
    ·split at h2
     ·split at h2
      ·cases h2; exact ⟨_,rfl⟩
      ·cases h2
     ·cases h2
    ·cases h2
   ·rename_i hd
    simp only [hd] at h2
    split at h2
    ·split at h2
     ·split at h2
      ·cases h2; exact ⟨_,rfl⟩
      ·cases h2
     ·cases h2
    ·cases h2
   ·cases hf
 | call c =>
  obtain ⟨callee,args,tys⟩ := c
  unfold readOp at hf
  simp only at hf
  simp only [opR,oCall] at h
  split at hf
  ·rename_i b
   simp only at h
   cases b <;> simp only [Bool.false_eq_true] at hf
   split at h
   ·obtain ⟨vx,h1,h2⟩ := Option.bind_eq_some_iff.1 h
    unfold built1 at h2
    simp only at h2
    split at h2
    ·split at h2
     ·split at h2
      ·cases h2; exact ⟨_,rfl⟩
      ·cases h2
     ·split at h2
      ·cases h2; exact ⟨_,rfl⟩
      ·cases h2
     ·split at h2
      ·obtain ⟨es,h3,h4⟩ := Option.map_eq_some_iff.1 h2
       exact ⟨_,h4.symm⟩
      ·cases h2
     ·cases h2
    ·cases h2
   ·obtain ⟨vx,h1,h2⟩ := Option.bind_eq_some_iff.1 h
    obtain ⟨vy,h3,h4⟩ := Option.bind_eq_some_iff.1 h2
    cases h4
   ·cases h
  ·cases hf
 | _ => cases hf
def hvEq1 (x y : HV) : Bool :=
 match x with
 | .bool a => (match y with | .bool b => a == b | _ => false)
 | .int k m => (match y with | .int k' n => decide (k = k') && decide (m = n) | _ => false)
 | .str a => (match y with | .str b => decide (a = b) | _ => false)
 | .ptr none => (match y with | .ptr none => true | _ => false)
 | .ptr (some a) => (match y with | .ptr (some b) => Nat.beq a.id b.id && Nat.beq a.i b.i && Nat.beq a.j b.j | _ => false)
 | .sl a n c => (match y with | .sl a' n' c' => decide (a = a') && decide (n = n') && decide (c = c') | _ => false)
 | .map a => (match y with | .map b => decide (a = b) | _ => false)
 | .nilFn => (match y with | .nilFn => true | _ => false)
 | .tup [] => (match y with | .tup [] => true | _ => false)
 | .nilIf => (match y with | .nilIf => true | _ => false)
 | .fn (.func f) [] [] => (match y with | .fn (.func g) [] [] => Nat.beq f g | _ => false)
 | .fn (.yield f) [] [] => (match y with | .fn (.yield g) [] [] => Nat.beq f g | _ => false)
 | _ => false
theorem hvEq1_out {x y : HV} (h : hvEq1 x y = true) : x = y := by
 unfold hvEq1 at h
 split at h
 ·split at h
  ·simp at h; rw [h]
  ·cases h
 ·split at h
  ·simp at h; rw [h.1,h.2]
  ·cases h
 ·split at h
  ·simp at h; rw [h]
  ·cases h
 ·split at h
  ·rfl
  ·cases h
 ·rename_i a
  split at h
  ·rename_i b
   obtain ⟨a1,a2,a3⟩ := a
   obtain ⟨b1,b2,b3⟩ := b
   simp at h
   obtain ⟨⟨rfl,rfl⟩,rfl⟩ := h
   rfl
  ·cases h
 ·split at h
  ·simp at h; rw [h.1.1,h.1.2,h.2]
  ·cases h
 ·split at h
  ·simp at h; rw [h]
  ·cases h
 ·split at h
  ·rfl
  ·cases h
 ·split at h
  ·rfl
  ·cases h
 ·split at h
  ·rfl
  ·cases h
 ·split at h
  ·rw [Nat.eq_of_beq_eq_true h]
  ·cases h
 ·split at h
  ·rw [Nat.eq_of_beq_eq_true h]
  ·cases h
 ·cases h
def hvEqs : List HV → List HV → Bool
 | [],[] => true
 | x :: xs,y :: ys => hvEq1 x y && hvEqs xs ys
 | _,_ => false
theorem hvEqs_out : ∀ {xs ys : List HV},hvEqs xs ys = true → xs = ys
 | [],[],_ => rfl
 | x :: xs,y :: ys,h => by
  simp only [hvEqs,Bool.and_eq_true] at h
  rw [hvEq1_out h.1,hvEqs_out h.2]
 | [],_ :: _,h => by cases h
 | _ :: _,[],h => by cases h
def hvEq (x y : HV) : Bool :=
 match x with
 | .agg xs => (match y with | .agg ys => hvEqs xs ys | _ => false)
 | .fn (.func f) xs ys => (match y with | .fn (.func g) xs' ys' => Nat.beq f g && (hvEqs xs xs' && hvEqs ys ys') | _ => false)
 | x => hvEq1 x y
theorem hvEq_out {x y : HV} (h : hvEq x y = true) : x = y := by
 unfold hvEq at h
 split at h
 ·split at h
  ·rw [hvEqs_out h]
  ·cases h
 ·split at h
  ·simp only [Bool.and_eq_true] at h
   rw [Nat.eq_of_beq_eq_true h.1,hvEqs_out h.2.1,hvEqs_out h.2.2]
  ·cases h
 ·exact hvEq1_out h
def extCall (K : Kn) (op : Op) : Bool := match callOp op with | some (fx,_) => (match extOf fx with | some g => K.idxB.contains g || K.noE.contains g || K.cnt.contains g | none => false) | none => false
def clsOf (P : Program) (K : Kn) (o : Oper) : Nat := cond (freeOp P o.op || extCall K o.op) 0 (cond (readOp P o.op) 3 2)
def rankStep (ops : List Oper) (done : List Nat) : Nat → List Oper → Option Nat
 | _,[] => none
 | i,o :: L => if !done.contains i && o.after.all (fun e => !Region.binds .gc e || done.contains e.on) then some i else rankStep ops done (i + 1) L
def rankGo (ops : List Oper) : Nat → List Nat → List Nat
 | 0,done => done
 | n + 1,done => match rankStep ops done 0 ops with | some i => rankGo ops n (i :: done) | none => done
def ranks (ops : Array Oper) : List Nat :=
 let n := ops.size
 cond ((List.range n).all fun j => match ops[j]? with | some o => o.after.all (fun e => !Region.binds .gc e || decide (e.on < j)) | none => true) (List.range n)
  (let d := rankGo ops.toList n []
  (List.range n).map fun i => n - d.idxOf i)
def regOk (P : Program) (K : Kn) (ops : Array Oper) : Bool := drawOk2 ops (ops.toList.map (clsOf P K)) (ranks ops)
def lateB (P : Program) (ops : Array Oper) (o : Oper) (l : Fl) (v : HV) (T : CS) : Bool :=
 match wantR l ops o with
 | some true => (match opR P (ev l) o.op T.hs with | some r => hvEq r.1 v | none => false)
 | some false => hvEq1 v (.tup [])
 | none => false
def pastB (b : Nat) (g : CS → Bool) : List (Nat × CS) → Bool
 | [] => true
 | q :: l => (b.testBit q.1 || g q.2) && pastB b g l
def pendB (b : Nat) (c : CS) : List (Nat × (CS → Bool)) → Bool
 | [] => true
 | q :: l => (b.testBit q.1 || q.2 c) && pendB b c l
abbrev DL := Xc → Array Oper → (Fl → CS → Option Res) → Nat → List (Nat × CS) → List (Nat × (CS → Bool)) → Fl → CS → Option Res
def dlN : DL := fun x ops k i past pend l c => k l c
def dl0 (o : Oper) (ih : DL) : DL := fun x ops k i past pend l c =>
 match wantR l ops o with
 | some true => (match callOp o.op with
  | some q => bnd (evL l q.2) fun vs => bnd ((extOf q.1).bind fun g => extR x.K g vs) fun v => frcV v fun v => ih x ops k (i + 1) past pend (l.put o.dst v) c
  | none => dO o.op x l c fun v c' => ih x ops k (i + 1) past pend (l.put o.dst v) c')
 | some false => ih x ops k (i + 1) past pend (l.put o.dst (.tup [])) c
 | none => none
def dl3 (o : Oper) (ih : DL) : DL := fun x ops k i past pend l c =>
 match wantR l ops o with
 | some true => dO o.op x l c fun v c' => Bool.rec (motive := fun _ => Option Res) none (ih x ops k (i + 1) past ((i,lateB x.P ops o l v) :: pend) (l.put o.dst v) c') (pastB ((Region.before ops).getD i 0) (lateB x.P ops o l v) past)
 | some false => ih x ops k (i + 1) past pend (l.put o.dst (.tup [])) c
 | none => none
def dl2 (o : Oper) (ih : DL) : DL := fun x ops k i past pend l c =>
 match wantR l ops o with
 | some true => dO o.op x l c fun v c' => Bool.rec (motive := fun _ => Option Res) none (ih x ops k (i + 1) ((i,c) :: past) pend (l.put o.dst v) c') (pendB ((Region.before ops).getD i 0) c' pend)
 | some false => Bool.rec (motive := fun _ => Option Res) none (ih x ops k (i + 1) ((i,c) :: past) pend (l.put o.dst (.tup [])) c) (pendB ((Region.before ops).getD i 0) c pend)
 | none => none
def dlC (o : Oper) (_ : List Oper) (ih : DL) : DL := fun x ops k i past pend l c =>
 (match clsOf x.P x.K o with
 | 0 => dl0 o ih
 | 3 => dl3 o ih
 | _ => dl2 o ih) x ops k i past pend l c
def drawL (L : List Oper) : DL := List.rec (motive := fun _ => DL) dlN dlC L
section
variable {P : Program} {base : Nat} {W0 : Env} {β0 : Bt} {K : Kn}
theorem mask_get {a : HAct} {ts : List Tmp} {t : Tmp} {v : HV} (h : a.tmps[t]? = some v) (ht : ts.contains t = true) : (a.mask ts).tmps[t]? = some v := by
 have ht' : t ∈ ts := by simpa using ht
 simp [HAct.mask,maskL_get,h,ht']
theorem Ev.toMask {a : HAct} {ops : Array Oper} {o : Oper} {x : Operand} {v : HV} (h : Ev a x v) (hx : x ∈ o.op.operands) : Ev (a.mask (o.looksAt ops)) x v := by
 cases h with
 | tmp h => exact .tmp (mask_get h (looks_operand hx))
 | const h => exact .const h
 | func f => exact .func f
theorem Wants.toMask {a : HAct} {ops : Array Oper} {o : Oper} (h : Wants a ops o) : Wants (a.mask (o.looksAt ops)) ops o := by
 unfold Wants at h ⊢
 cases hg : o.guard with
 | none => trivial
 | some q =>
  obtain ⟨j,want⟩ := q
  rw [hg] at h
  obtain ⟨t,h1,h2⟩ := h
  exact ⟨t,h1,mask_get h2 (looks_guard hg h1)⟩
theorem Skips.toMask {a : HAct} {ops : Array Oper} {o : Oper} (h : Skips a ops o) : Skips (a.mask (o.looksAt ops)) ops o := by
 unfold Skips at h ⊢
 cases hg : o.guard with
 | none => rw [hg] at h; exact h
 | some q =>
  obtain ⟨j,want⟩ := q
  rw [hg] at h
  obtain ⟨t,h1,h2⟩ := h
  exact ⟨t,h1,h2.imp (fun h2 => mask_get h2 (looks_guard hg h1)) (fun h2 => mask_get h2 (looks_guard hg h1))⟩
theorem opR_nosel {e : Operand → Option HV} {op : Op} {S : HS} {r : Out} (h : opR P e op S = some r) : ∀ cs b,op ≠ .select cs b := by
 rintro cs b rfl; cases h
variable {n : Nat} {ds : List Nat} {a : HAct} {l : Fl}
theorem q_opR {ops : Array Oper} {o : Oper} {S : HS} {r : Out} (ha : Agr n l ds a) (hw : wantR l ops o = some true) (h : opR P (ev l) o.op S = some r) : QAt2 P base W0 β0 ops o (a.mask (o.looksAt ops)) S r.1 r.2.1 := by
 have hw := ((wantR_out ha hw).elim (fun g => g.2) (fun g => absurd g.1 (by simp))).toMask
 exact .inl ⟨hw,.inl ⟨opR_nosel h,(opR_ok (P := P) (base := base) (W0 := W0) (a := a.mask (o.looksAt ops)) (fun x hx v hv => (ev_ok ha hv).toMask hx) rfl h).1⟩⟩
theorem q_skips {ops : Array Oper} {o : Oper} (ha : Agr n l ds a) (hw : wantR l ops o = some false) (S : HS) : QAt2 P base W0 β0 ops o (a.mask (o.looksAt ops)) S (.tup []) S := by
 have hw := ((wantR_out ha hw).elim (fun g => absurd g.1 (by simp)) (fun g => g.2)).toMask
 exact .inr ⟨hw,rfl,rfl⟩
theorem q_ext {ops : Array Oper} {o : Oper} {fx : Operand} {xs : List Operand} {vs : List HV} {v : HV} (ha : Agr n l ds a) (hK : KnOk P base W0 K) (hw : wantR l ops o = some true) (hc : callOp o.op = some (fx,xs)) (hv : xs.mapM (ev l) = some vs) (h : ((extOf fx).bind fun g => extR K g vs) = some v) (S : HS) :
  QAt2 P base W0 β0 ops o (a.mask (o.looksAt ops)) S v S := by
 have hw := ((wantR_out ha hw).elim (fun g => g.2) (fun g => absurd g.1 (by simp))).toMask
 obtain ⟨tys,hop⟩ := callOp_out hc
 obtain ⟨g,hg,hext⟩ := Option.bind_eq_some_iff.1 h
 obtain rfl := extOf_out hg
 refine .inl ⟨hw,.inl ⟨by rw [hop]; simp,ext_ok hK hop (evs_of (fun x hx v hv => (ev_ok ha hv).toMask ?_) hv) hext⟩⟩
 rw [hop]
 simp [Op.operands,Call.operands,hx]
theorem clsOf_zero {o : Oper} (h : clsOf P K o = 0) : freeOp P o.op = true ∨ extCall K o.op = true := by
 unfold clsOf at h
 cases h1 : freeOp P o.op with
 | true => exact .inl rfl
 | false =>
  cases h2 : extCall K o.op with
  | true => exact .inr rfl
  | false => rw [h1,h2] at h; cases h3 : readOp P o.op <;> simp [h3] at h
theorem clsOf_three {o : Oper} (h : clsOf P K o = 3) : readOp P o.op = true := by
 unfold clsOf at h
 cases h1 : (freeOp P o.op || extCall K o.op) with
 | true => rw [h1] at h; cases h
 | false =>
  cases h3 : readOp P o.op with
  | true => rfl
  | false => rw [h1,h3] at h; cases h
theorem clsOf_two {o : Oper} (h0 : clsOf P K o ≠ 0) (h3 : clsOf P K o ≠ 3) : clsOf P K o = 2 := by
 unfold clsOf at h0 h3 ⊢
 cases h1 : (freeOp P o.op || extCall K o.op) with
 | true => rw [h1] at h0; exact absurd rfl h0
 | false =>
  cases h4 : readOp P o.op with
  | true => rw [h1,h4] at h3; exact absurd rfl h3
  | false => rfl
theorem read_call {op : Op} (h : readOp P op = true) : callOp op = none := by
 cases op <;> first | rfl | (cases h; done) | skip
 rename_i c
 obtain ⟨callee,args,tys⟩ := c
 unfold readOp at h
 simp only at h
 split at h
 ·rfl
 ·cases h
theorem late_out {ops : Array Oper} {o : Oper} {i : Nat} {c : CS} {v : HV} (ha : Agr n l ds a) (hc : clsOf P K o = 3) (ho : ops[i]? = some o) (h : lateB P ops o l v c = true) : LateP P base W0 β0 ops i a v c.hs := by
 intro o' ho'
 rw [ho] at ho'; cases ho'
 unfold lateB at h
 split at h
 ·rename_i hw
  split at h
  ·rename_i r hr
   obtain rfl := hvEq_out h
   obtain ⟨v,rfl⟩ := opR_read (clsOf_three hc) hr
   exact q_opR ha hw hr
  ·cases h
 ·rename_i hw; obtain rfl := hvEq1_out h; exact q_skips ha hw _
 ·cases h
inductive PRel : List (Nat × (CS → Bool)) → List (Nat × (HS → Prop)) → Prop
 | nil : PRel [] []
 | cons {i : Nat} {g : CS → Bool} {p : HS → Prop} {l : List (Nat × (CS → Bool))} {m : List (Nat × (HS → Prop))} (h : ∀ c,g c = true → p c.hs) (k : PRel l m) : PRel ((i,g) :: l) ((i,p) :: m)
 | free {i : Nat} {p : HS → Prop} {l : List (Nat × (CS → Bool))} {m : List (Nat × (HS → Prop))} (h : ∀ T,p T) (k : PRel l m) : PRel l ((i,p) :: m)
theorem PRel.pend {ops : Array Oper} {i : Nat} {c : CS} {l : List (Nat × (CS → Bool))} {m : List (Nat × (HS → Prop))} (h : PRel l m) (hb : pendB ((Region.before ops).getD i 0) c l = true) : PendOk ops i c.hs m := by
 induction h with
 | nil => trivial
 | cons h k ih =>
  simp only [pendB,Bool.and_eq_true,Bool.or_eq_true] at hb
  exact ⟨hb.1.imp id (h c),ih hb.2⟩
 | free h k ih => exact ⟨.inr (h _),ih hb⟩
theorem past_out {ops : Array Oper} {i : Nat} {g : CS → Bool} {p : HS → Prop} (hg : ∀ c,g c = true → p c.hs) : ∀ {l : List (Nat × CS)},pastB ((Region.before ops).getD i 0) g l = true → PastOks ops i p (l.map fun q => (q.1,q.2.hs)) := by
 intro l
 induction l with
 | nil => intro _; trivial
 | cons q l ih =>
  intro h
  simp only [pastB,Bool.and_eq_true,Bool.or_eq_true] at h
  exact ⟨h.1.imp id (hg _),ih h.2⟩
theorem past_free {ops : Array Oper} {i : Nat} {p : HS → Prop} (hp : ∀ T,p T) : ∀ {l : List (Nat × HS)},PastOks ops i p l := by
 intro l
 induction l with
 | nil => trivial
 | cons q l ih => exact ⟨.inr (hp _),ih⟩
theorem bif_out {b : Bool} {y : Option Res} {r : Res} (h : (Bool.rec (motive := fun _ => Option Res) none y b : Option Res) = some r) : b = true ∧ y = some r := by
 cases b with
 | false => cases h
 | true => exact ⟨rfl,h⟩
theorem drawL_ok {x : Xc} (hK : KnOk x.P base W0 x.K) (hr : RecOk x.P base W0 x.K x.rc) (hE : ESound β0 x.E) {f : FuncId} {ro : Option Nat} {stk : List Item} {ops : Array Oper} {kont : Fl → CS → Option Res} {r : Res} (hd : dstOk ops n = true)
  (hk : ∀ l c a,Agr n l ds a → kont l c = some r → HRun x.P base W0 β0 f ro stk a c.hs (Is r)) :
  ∀ (L : List Oper) (i : Nat) (past : List (Nat × CS)) (pend : List (Nat × (CS → Bool))) (pp : List (Nat × (HS → Prop))) (l : Fl) (c : CS) (a : HAct),Agr n l ds a → (∀ j o,L[j]? = some o → ops[i + j]? = some o) → i + L.length = ops.size → PRel pend pp →
   drawL L x ops kont i past pend l c = some r → DrawGoP x.P base W0 β0 f ro stk ops (ops.toList.map (clsOf x.P x.K)) (past.map fun q => (q.1,q.2.hs)) pp i a c.hs (Is r) := by
 intro L
 induction L with
 | nil =>
  intro i past pend pp l c a ha _ hi _ h
  exact x_rest (by simpa using hi) (hr_region_end (hk l c a ha h))
 | cons o L ih =>
  intro i past pend pp l c a ha hL hi hp h
  have ho : ops[i]? = some o := hL 0 o rfl
  have hL' : ∀ j o',L[j]? = some o' → ops[i + 1 + j]? = some o' := fun j o' hj => by
   rw [show i + 1 + j = i + (j + 1) by omega]
   exact hL (j + 1) o' (by simpa using hj)
  have hi' : i + 1 + L.length = ops.size := by rw [List.length_cons] at hi; omega
  have hdo := dstOk_at hd ho
  have hcl : (ops.toList.map (clsOf x.P x.K)).getD i 0 = clsOf x.P x.K o := by
   rw [List.getD_eq_getElem?_getD,List.getElem?_map,show ops.toList[i]? = some o by simpa using ho]
   rfl
  replace h : (match clsOf x.P x.K o with
   | 0 => dl0 o (drawL L)
   | 3 => dl3 o (drawL L)
   | _ => dl2 o (drawL L)) x ops kont i past pend l c = some r := h
  by_cases h0 : clsOf x.P x.K o = 0
  ·rw [h0] at h
   replace h : dl0 o (drawL L) x ops kont i past pend l c = some r := h
   unfold dl0 at h
   split at h
   ·rename_i hw
    split at h
    ·rename_i q hcall
     obtain ⟨fx,xs⟩ := q
     obtain ⟨vs,h1,h2⟩ := bnd_out h
     obtain ⟨v,h3,h4⟩ := bnd_out h2
     rw [frcV_eq] at h4
     rw [evL_eq] at h1
     exact x_goP (c := 0) ⟨o,ho,rfl,rfl,fun T => q_ext ha hK hw hcall h1 h3 T⟩ (hcl.trans h0) (by decide) (by decide) (ih (i + 1) past pend pp _ c _ (ha.putO hdo v) hL' hi' hp h4)
    ·rename_i hcall
     obtain ⟨out,c',h1,h2,h3⟩ := dO_op ha h hcall
     rcases clsOf_zero h0 with hf | hf
     ·obtain ⟨v,rfl,h4⟩ := opR_free hf h1
      have hgo := ih (i + 1) past pend pp _ c' _ (ha.putO hdo _) hL' hi' hp h3
      rw [h2] at hgo
      exact x_goP (c := 0) ⟨o,ho,rfl,rfl,fun T => q_opR ha hw (h4 T)⟩ (hcl.trans h0) (by decide) (by decide) hgo
     ·simp only [extCall,hcall] at hf; cases hf
   ·rename_i hw
    exact x_goP (c := 0) ⟨o,ho,rfl,rfl,fun T => q_skips ha hw T⟩ (hcl.trans h0) (by decide) (by decide) (ih (i + 1) past pend pp _ c _ (ha.putO hdo _) hL' hi' hp h)
   ·cases h
  by_cases h3 : clsOf x.P x.K o = 3
  ·rw [h3] at h
   replace h : dl3 o (drawL L) x ops kont i past pend l c = some r := h
   unfold dl3 at h
   split at h
   ·rename_i hw
    obtain ⟨out,c',h1,h2,h4⟩ := dO_op ha h (read_call (clsOf_three h3))
    obtain ⟨v,rfl⟩ := opR_read (clsOf_three h3) h1
    obtain ⟨hpast,h4⟩ := bif_out h4
    have hgo := ih (i + 1) past _ ((i,LateP x.P base W0 β0 ops i a v) :: pp) _ c' _ (ha.putO hdo _) hL' hi' (.cons (fun c hc => late_out ha h3 ho hc) hp) h4
    rw [h2] at hgo
    exact x_late ⟨o,ho,rfl,rfl,q_opR ha hw h1⟩ (hcl.trans h3) (past_out (fun c hc => late_out ha h3 ho hc) hpast) hgo
   ·rename_i hw
    have hall : ∀ T,LateP x.P base W0 β0 ops i a (.tup []) T := fun T o' ho' => by
     rw [ho] at ho'; cases ho'
     exact q_skips ha hw T
    have hgo := ih (i + 1) past pend ((i,LateP x.P base W0 β0 ops i a (.tup [])) :: pp) _ c _ (ha.putO hdo _) hL' hi' (.free hall hp) h
    exact x_late ⟨o,ho,rfl,rfl,q_skips ha hw _⟩ (hcl.trans h3) (past_free hall) hgo
   ·cases h
  ·have h2c := clsOf_two h0 h3
   rw [h2c] at h
   replace h : dl2 o (drawL L) x ops kont i past pend l c = some r := h
   unfold dl2 at h
   split at h
   ·rename_i hw
    cases hcall : callOp o.op with
    | none =>
     obtain ⟨out,c',h1,h2,h4⟩ := dO_op ha h hcall
     obtain ⟨hpend,h4⟩ := bif_out h4
     have hgo := ih (i + 1) ((i,c) :: past) pend pp _ c' _ (ha.putO hdo _) hL' hi' hp h4
     exact x_goE ⟨o,ho,rfl,by have := q_opR (base := base) (W0 := W0) (β0 := β0) ha hw h1; rw [← h2] at this; exact this⟩ (hcl.trans h2c) (hp.pend hpend) hgo
    | some q =>
     obtain ⟨fx,xs⟩ := q
     obtain ⟨tys,hop⟩ := callOp_out hcall
     have hm : ∀ y ∈ xs,y ∈ o.op.operands := fun y hy => by rw [hop]; simp [Op.operands,Call.operands,hy]
     obtain ⟨fv,vs,h1,h2,h4⟩ := dO_call h hcall
     rcases h4 with ⟨v,h5,h6⟩ | ⟨q,h5,h6⟩
     ·obtain ⟨hpend,h6⟩ := bif_out h6
      exact x_goE ⟨o,ho,rfl,q_ext ha hK hw hcall h2 h5 c.hs⟩ (hcl.trans h2c) (hp.pend hpend) (ih (i + 1) ((i,c) :: past) pend pp _ c _ (ha.putO hdo _) hL' hi' hp h6)
     ·obtain ⟨hpend,h6⟩ := bif_out h6
      have hw' := ((wantR_out ha hw).elim (fun g => g.2) (fun g => absurd g.1 (by simp))).toMask
      refine x_goE ⟨o,ho,rfl,.inl ⟨hw',.inr ⟨fx,xs.toArray,tys,fv,vs,hop,(ev_ok ha h1).toMask (by rw [hop]; simp [Op.operands,Call.operands]),evs_of (fun y hy v hv => (ev_ok ha hv).toMask (hm y hy)) h2,hr.1 _ _ _ _ _ h5 β0 hE⟩⟩⟩ (hcl.trans h2c) (hp.pend hpend) (ih (i + 1) ((i,c) :: past) pend pp _ q.2 _ (ha.putO hdo _) hL' hi' hp h6)
   ·rename_i hw
    obtain ⟨hpend,h⟩ := bif_out h
    exact x_goE ⟨o,ho,rfl,q_skips ha hw _⟩ (hcl.trans h2c) (hp.pend hpend) (ih (i + 1) ((i,c) :: past) pend pp _ c _ (ha.putO hdo _) hL' hi' hp h)
   ·cases h
end
end
section
variable {P : Program} {base : Nat} {W0 : Env} {ops : Array Oper}
def makerOp (op : Op) : Bool :=
 match op with
 | .alloc _ => true
 | .makeMap _ none => true
 | .buildSlice _ _ _ => true
 | _ => false
theorem opR_maker {e : Operand → Option HV} {op : Op} {T : HS} {r : Out} (hm : makerOp op = true) (h : opR P e op T = some r) :
  ∃ ob m,r.2.1 = T.newM ob m ∧ ∀ T' : HS,∃ vn : HV,vn.isAt T'.next = true ∧ (∀ x,vn.ren x = r.1.ren x) ∧ opR P e op T' = some (vn,T'.newM ob m,[T'.next]) := by
 unfold makerOp at hm
 split at hm
 ·rename_i t
  replace h : allocR P T t = some r := h
  unfold allocR at h
  split at h
  ·rename_i zr hz
   split at h
   ·rename_i hc
    cases h
    refine ⟨_,_,rfl,fun T' => ⟨.ptr (some (.cell0 T'.next)),by simp [HV.isAt,HA.cell0],fun x => rfl,?_⟩⟩
    show allocR P T' t = _
    unfold allocR
    rw [hz]
    simp only
    rw [if_pos hc]
   ·cases h
  ·cases h
 ·rename_i t
  cases h
  exact ⟨_,_,rfl,fun T' => ⟨.map (some T'.next),by simp [HV.isAt],fun x => rfl,rfl⟩⟩
 ·rename_i t n ps
  replace h : oLit P e T t n ps = some r := h
  unfold oLit at h
  split at h
  ·rename_i vs hvs
   unfold litR at h
   split at h
   ·rename_i e1 z zr he
    split at h
    ·rename_i hc
     cases h
     refine ⟨_,_,rfl,fun T' => ⟨(T'.lit (vs.map HV.cells) z).1.hv,by simp [HV.isAt,HS.lit,Sl.hv],fun x => rfl,?_⟩⟩
     show oLit P e T' t n ps = _
     unfold oLit
     rw [hvs]
     simp only
     unfold litR
     rw [he]
     simp only
     rw [if_pos hc]
     rfl
    ·cases h
   ·cases h
  ·cases h
 ·cases hm
theorem makes_of {o : Oper} {A : HAct} {e : Operand → Option HV} {T : HS} {r : Out} {rid : Nat} (he : ∀ x ∈ o.op.operands,∀ v,e x = some v → Ev A x v) (hm : makerOp o.op = true) (hg : o.guard = none) (h : opR P e o.op T = some r) (hgood : goodOb (r.2.1.heap T.next) = true) :
  Makes P base ops o A (r.1.ren rid) rid (r.2.1.heap T.next) := by
 obtain ⟨ob,m,h1,h2⟩ := opR_maker hm h
 have hob : r.2.1.heap T.next = ob := by rw [h1]; simp [HS.newM]
 rw [hob] at hgood ⊢
 refine ⟨hg,hgood,?_,m,fun E T' => ?_⟩
 ·intro cs b e
  rw [e] at hm; cases hm
 ·obtain ⟨vn,g1,g2,g3⟩ := h2 T'
  exact ⟨vn,g1,(g2 rid).symm,(opR_ok (P := P) (base := base) (W0 := E) (a := A) he rfl g3).1⟩
end
noncomputable section
def clsM (P : Program) (K : Kn) (ms : List (Nat × Nat)) (i : Nat) (o : Oper) : Nat := cond (ms.any fun q => Nat.beq q.1 i) 0 (clsOf P K o)
def makersOf (P : Program) (K : Kn) (ops : Array Oper) : List Nat :=
 let b := Region.before ops
 let n := ops.size
 let cl := ops.toList.map (clsOf P K)
 (List.range n).filter fun i => match ops[i]? with
  | some o => makerOp o.op && o.guard.isNone && ((List.range n).any fun w => !Nat.beq w i && Nat.beq (cl.getD w 0) 2 && !((b.getD i 0).testBit w) && !((b.getD w 0).testBit i))
  | none => false
def pickM (known : List (Nat × Nat × HObj)) (un : List (Nat × Nat)) : Option (List (Nat × HObj)) := un.mapM fun q => (known.find? fun z => Nat.beq z.1 q.1).map (·.2)
def settleC (c : CS) (l : List (Nat × HObj)) (k : CS → Option Res) : Option Res := CS.syncK (c.hs.settles l) k (l.map (·.1)) c
def isOpq (c : CS) (r : Nat) : Bool := match c.hs.heap r with | .opq => true | _ => false
abbrev ML := Xc → Array Oper → List (Nat × Nat) → (Fl → CS → Option Res) → Nat → List (Nat × CS) → List (Nat × (CS → Bool)) → List (Nat × Nat × HObj) → List (Nat × Nat) → Fl → CS → Option Res
def mlN : ML := fun x ops ms k i past pend known un l c => bnd (pickM known un) fun fin => settleC c fin fun c' => Bool.rec (motive := fun _ => Option Res) none (k l c') (ms.all fun q => !isOpq c' q.2)
def mlM (rid : Nat) (o : Oper) (ih : ML) : ML := fun x ops ms k i past pend known un l c =>
 Bool.rec (motive := fun _ => Option Res) none
  (bnd (opR x.P (ev l) o.op c.hs) fun r => Bool.rec (motive := fun _ => Option Res) none
   (frcV (r.1.ren rid) fun v => frcOb (r.2.1.heap c.next) fun ob => ih x ops ms k (i + 1) past pend ((i,rid,ob) :: known) un (l.put o.dst v) c) (goodOb (r.2.1.heap c.next)))
  (makerOp o.op && o.guard.isNone)
def ml0 (o : Oper) (ih : ML) : ML := fun x ops ms k i past pend known un l c =>
 match wantR l ops o with
 | some true => (match callOp o.op with
  | some q => bnd (evL l q.2) fun vs => bnd ((extOf q.1).bind fun g => extR x.K g vs) fun v => frcV v fun v => ih x ops ms k (i + 1) past pend known un (l.put o.dst v) c
  | none => dO o.op x l c fun v c' => ih x ops ms k (i + 1) past pend known un (l.put o.dst v) c')
 | some false => ih x ops ms k (i + 1) past pend known un (l.put o.dst (.tup [])) c
 | none => none
def ml3 (o : Oper) (ih : ML) : ML := fun x ops ms k i past pend known un l c =>
 match wantR l ops o with
 | some true => dO o.op x l c fun v c' => Bool.rec (motive := fun _ => Option Res) none (ih x ops ms k (i + 1) past ((i,lateB x.P ops o l v) :: pend) known un (l.put o.dst v) c') (pastB ((Region.before ops).getD i 0) (lateB x.P ops o l v) past)
 | some false => ih x ops ms k (i + 1) past pend known un (l.put o.dst (.tup [])) c
 | none => none
def ml2 (o : Oper) (ih : ML) : ML := fun x ops ms k i past pend known un l c =>
 match wantR l ops o with
 | some true => bnd (pickM known (un.filter fun q => ((Region.before ops).getD i 0).testBit q.1)) fun st => settleC c st fun c1 => dO o.op x l c1 fun v c' =>
   Bool.rec (motive := fun _ => Option Res) none (ih x ops ms k (i + 1) ((i,c) :: past) pend known (un.filter fun q => !((Region.before ops).getD i 0).testBit q.1) (l.put o.dst v) c')
    (pendB ((Region.before ops).getD i 0) c' pend && (un.filter fun q => !((Region.before ops).getD i 0).testBit q.1).all fun q => isOpq c' q.2)
 | some false => Bool.rec (motive := fun _ => Option Res) none (ih x ops ms k (i + 1) ((i,c) :: past) pend known un (l.put o.dst (.tup [])) c) (pendB ((Region.before ops).getD i 0) c pend)
 | none => none
def findM (ms : List (Nat × Nat)) (i : Nat) : Option (Nat × Nat) := ms.find? fun q => Nat.beq q.1 i
def mlC (o : Oper) (_ : List Oper) (ih : ML) : ML := fun x ops ms k i past pend known un l c =>
 (match findM ms i with
 | some q => mlM q.2 o ih
 | none => (match clsOf x.P x.K o with
  | 0 => ml0 o ih
  | 3 => ml3 o ih
  | _ => ml2 o ih)) x ops ms k i past pend known un l c
def drawM (L : List Oper) : ML := List.rec (motive := fun _ => ML) mlN mlC L
def regOkM (P : Program) (K : Kn) (ms : List (Nat × Nat)) (ops : Array Oper) : Bool := drawOk2 ops (ops.toList.zipIdx.map fun q => clsM P K ms q.2 q.1) (ranks ops)
def resvC (c : CS) (n : Nat) (k : CS → Option Res) : Option Res := CS.syncK (c.hs.resv n) k (List.range' c.next n) c
def drawW : DrawF := fun P K rec E ops k l c => Bool.rec (motive := fun _ => Option Res)
 (frcL (fun i k => frcN i k) (makersOf P K ops) fun mi => frcN c.next fun nx =>
  Bool.rec (motive := fun _ => Option Res) none
   (resvC c mi.length fun c0 => drawM ops.toList ⟨P,K,fun _ _ _ _ _ _ _ _ => none,rec,E,0,0,none⟩ ops (mi.zipIdx.map fun q => (q.1,nx + q.2)) k 0 [] [] [] (mi.zipIdx.map fun q => (q.1,nx + q.2)) l c0)
   (regOkM P K (mi.zipIdx.map fun q => (q.1,nx + q.2)) ops))
 (drawL ops.toList ⟨P,K,fun _ _ _ _ _ _ _ _ => none,rec,E,0,0,none⟩ ops k 0 [] [] l c) (regOk P K ops)
end
def lk (known : List (Nat × Nat × HObj)) (j : Nat) : Option (Nat × HObj) := (known.find? fun z => Nat.beq z.1 j).map (·.2)
theorem lk_mem {known : List (Nat × Nat × HObj)} {j : Nat} {z : Nat × HObj} (h : lk known j = some z) : (j,z.1,z.2) ∈ known := by
 unfold lk at h
 obtain ⟨y,h1,h2⟩ := Option.map_eq_some_iff.1 h
 have h3 := List.mem_of_find?_eq_some h1
 have h4 : (fun z : Nat × Nat × HObj => Nat.beq z.1 j) y = true := List.find?_some (p := fun z : Nat × Nat × HObj => Nat.beq z.1 j) h1
 simp only at h4
 have h5 : y.1 = j := Nat.eq_of_beq_eq_true h4
 subst h5
 subst h2
 exact h3
theorem lk_none {known : List (Nat × Nat × HObj)} {j : Nat} (h : ∀ z ∈ known,z.1 ≠ j) : lk known j = none := by
 unfold lk
 rw [List.find?_eq_none.2 (fun z hz hb => h z hz (Nat.eq_of_beq_eq_true hb))]
 rfl
theorem lk_cons_ne {known : List (Nat × Nat × HObj)} {x : Nat × Nat × HObj} {j : Nat} (h : x.1 ≠ j) : lk (x :: known) j = lk known j := by
 unfold lk
 rw [List.find?_cons_of_neg (p := fun z : Nat × Nat × HObj => Nat.beq z.1 j) (fun hb => h (Nat.eq_of_beq_eq_true hb))]
theorem lk_cons_eq {known : List (Nat × Nat × HObj)} {x : Nat × Nat × HObj} : lk (x :: known) x.1 = some x.2 := by
 unfold lk
 rw [List.find?_cons_of_pos (p := fun z : Nat × Nat × HObj => Nat.beq z.1 x.1) (by exact Nat.beq_refl _)]
 rfl
theorem settles_other : ∀ (l : List (Nat × HObj)) (S : HS) (i : Nat),i ∉ l.map (·.1) → (S.settles l).heap i = S.heap i ∧ (S.settles l).mrk i = S.mrk i := by
 intro l
 induction l with
 | nil => intro S i _; exact ⟨rfl,rfl⟩
 | cons q l ih =>
  intro S i hi
  simp only [List.map_cons,List.mem_cons,not_or] at hi
  obtain ⟨h1,h2⟩ := ih (S.settle q.1 q.2) i hi.2
  refine ⟨h1.trans ?_,h2.trans ?_⟩
  ·show (if i = q.1 then q.2 else S.heap i) = S.heap i
   rw [if_neg hi.1]
  ·show (if i = q.1 then 1 else S.mrk i) = S.mrk i
   rw [if_neg hi.1]
theorem settleC_out {c : CS} {l : List (Nat × HObj)} {k : CS → Option Res} {r : Res} (h : settleC c l k = some r) : ∃ c',k c' = some r ∧ c'.hs = c.hs.settles l :=
 CS.syncK_out _ _ h fun i hi => settles_other l c.hs i hi
theorem resv_other : ∀ (n : Nat) (S : HS) (i : Nat),(i < S.next ∨ S.next + n ≤ i) → (HS.resv n S).heap i = S.heap i ∧ (HS.resv n S).mrk i = S.mrk i := by
 intro n
 induction n with
 | zero => intro S i _; exact ⟨rfl,rfl⟩
 | succ n ih =>
  intro S i hi
  obtain ⟨h1,h2⟩ := ih (S.newM .opq 1) i (by show i < S.next + 1 ∨ S.next + 1 + n ≤ i; omega)
  refine ⟨h1.trans ?_,h2.trans ?_⟩
  ·show (if i = S.next then HObj.opq else S.heap i) = S.heap i
   rw [if_neg (by omega)]
  ·show (if i = S.next then 1 else S.mrk i) = S.mrk i
   rw [if_neg (by omega)]
theorem resvC_out {c : CS} {n : Nat} {k : CS → Option Res} {r : Res} (h : resvC c n k = some r) : ∃ c',k c' = some r ∧ c'.hs = c.hs.resv n := by
 refine CS.syncK_out _ _ h fun i hi => resv_other n c.hs i ?_
 have : ¬ (c.next ≤ i ∧ i < c.next + n) := fun g => hi (List.mem_range'_1.2 g)
 show i < c.next ∨ c.next + n ≤ i
 omega
theorem isOpq_iff {c : CS} {r : Nat} : isOpq c r = true ↔ c.hs.heap r = .opq := by
 unfold isOpq
 cases h : c.hs.heap r <;> simp
theorem pickM_out {known : List (Nat × Nat × HObj)} : ∀ {un : List (Nat × Nat)} {st : List (Nat × HObj)},pickM known un = some st → (∀ q ∈ un,∀ z,lk known q.1 = some z → z.1 = q.2) → st.map (·.1) = un.map (·.2) ∧ ∀ z ∈ st,∃ q ∈ un,lk known q.1 = some z := by
 intro un
 induction un with
 | nil =>
  intro st h _
  replace h : some [] = some st := h
  cases h
  exact ⟨rfl,fun z hz => by cases hz⟩
 | cons q un ih =>
  intro st h hq
  unfold pickM at h
  rw [List.mapM_cons] at h
  obtain ⟨z,h1,h2⟩ := Option.bind_eq_some_iff.1 h
  obtain ⟨st',h3,h4⟩ := Option.bind_eq_some_iff.1 h2
  replace h4 : some (z :: st') = some st := h4
  cases h4
  obtain ⟨g1,g2⟩ := ih h3 fun q' hq' => hq q' (List.mem_cons_of_mem _ hq')
  refine ⟨by rw [List.map_cons,List.map_cons,g1,hq q List.mem_cons_self z h1],fun y hy => ?_⟩
  rcases List.mem_cons.1 hy with rfl | hy
  ·exact ⟨q,List.mem_cons_self,h1⟩
  ·obtain ⟨q',k1,k2⟩ := g2 y hy
   exact ⟨q',List.mem_cons_of_mem _ k1,k2⟩
theorem findM_some {ms : List (Nat × Nat)} {i : Nat} {q : Nat × Nat} (h : findM ms i = some q) : q ∈ ms ∧ q.1 = i :=
 ⟨List.mem_of_find?_eq_some h,Nat.eq_of_beq_eq_true (List.find?_some (p := fun q : Nat × Nat => Nat.beq q.1 i) h)⟩
theorem findM_none {ms : List (Nat × Nat)} {i : Nat} (h : findM ms i = none) : ∀ q ∈ ms,q.1 ≠ i := fun q hq e => by
 have := List.find?_eq_none.1 h q hq
 exact this (by rw [e]; exact Nat.beq_refl _)
structure MsOk (ms : List (Nat × Nat)) (N : Nat) : Prop where
 fn : ∀ j r r',(j,r) ∈ ms → (j,r') ∈ ms → r = r'
 inj : ∀ j j' r,(j,r) ∈ ms → (j',r) ∈ ms → j = j'
 lt : ∀ q ∈ ms,q.1 < N
def clsL (P : Program) (K : Kn) (ms : List (Nat × Nat)) (ops : Array Oper) : List Nat := ops.toList.zipIdx.map fun q => clsM P K ms q.2 q.1
theorem clsL_at {P : Program} {K : Kn} {ms : List (Nat × Nat)} {ops : Array Oper} {i : Nat} {o : Oper} (ho : ops[i]? = some o) : (clsL P K ms ops).getD i 0 = clsM P K ms i o := by
 unfold clsL
 rw [List.getD_eq_getElem?_getD,List.getElem?_map,List.getElem?_zipIdx,show ops.toList[i]? = some o by simpa using ho]
 simp
theorem clsM_some {P : Program} {K : Kn} {ms : List (Nat × Nat)} {i : Nat} {o : Oper} {q : Nat × Nat} (h : findM ms i = some q) : clsM P K ms i o = 0 := by
 obtain ⟨h1,h2⟩ := findM_some h
 unfold clsM
 rw [List.any_eq_true.2 ⟨q,h1,by rw [h2]; exact Nat.beq_refl _⟩]
 rfl
theorem clsM_none {P : Program} {K : Kn} {ms : List (Nat × Nat)} {i : Nat} {o : Oper} (h : findM ms i = none) : clsM P K ms i o = clsOf P K o := by
 unfold clsM
 have : ms.any (fun q => Nat.beq q.1 i) = false := by
  rw [List.any_eq_false]
  intro q hq hb
  exact findM_none h q hq (Nat.eq_of_beq_eq_true hb)
 rw [this]
 rfl
section
variable {P : Program} {base : Nat} {W0 : Env} {β0 : Bt} {K : Kn} {n : Nat} {ds : List Nat}
def MClaim (P : Program) (base : Nat) (W0 : Env) (β0 : Bt) (f : FuncId) (ro : Option Nat) (stk : List Item) (ops : Array Oper) (ms : List (Nat × Nat)) (cls : Nat → Nat) (i : Nat) (past : List (Nat × HS)) (pp : List (Nat × (HS → Prop))) (known : List (Nat × Nat × HObj)) (a : HAct) (S : HS) (r : Res) : Prop :=
 ∃ (mk : Nat → Option (Nat × HObj)) (vs : List (HV × HS × HS)) (b : HAct) (Sn : HS) (fin : List (Nat × HObj)),
  (∀ j,j < i → mk j = lk known j) ∧ (∀ j q,i ≤ j → mk j = some q → (j,q.1) ∈ ms) ∧ (∀ q ∈ ms,i ≤ q.1 → ∃ ob,mk q.1 = some (q.2,ob)) ∧
  MChain P base β0 ops cls mk past i a S vs b Sn ∧ (∀ q ∈ pp,LateM ops cls q.1 q.2 i vs) ∧
  ((fin.map (·.1)).Nodup ∧ (∀ q ∈ fin,Sn.heap q.1 = .opq ∧ goodOb q.2 = true ∧ ∃ j,mk j = some q) ∧ ∀ q ∈ ms,(Sn.settles fin).heap q.2 ≠ .opq) ∧
  HRun P base W0 β0 f ro (.inRegion ops [] :: stk) b (Sn.settles fin) (Is r)
theorem MClaim.step {f : FuncId} {ro : Option Nat} {stk : List Item} {ops : Array Oper} {ms : List (Nat × Nat)} {cls : Nat → Nat} {i : Nat} {past past' : List (Nat × HS)} {pp pp' : List (Nat × (HS → Prop))} {known known' : List (Nat × Nat × HObj)} {a : HAct} {S Sq S' : HS} {o : Oper} {v : HV} {r : Res}
  (ho : ops[i]? = some o) (h : MClaim P base W0 β0 f ro stk ops ms cls (i + 1) past' pp' known' (a.put o.dst v) S' r) (hpp : ∀ q ∈ pp,q ∈ pp') (hp : (∀ q ∈ past,q ∈ past') ∧ (cls i = 2 → (i,S) ∈ past'))
  (hlk : ∀ j,j < i → lk known' j = lk known j) (hmi : ∀ q,lk known' i = some q → (i,q.1) ∈ ms) (hmi2 : ∀ q ∈ ms,q.1 = i → ∃ ob,lk known' i = some (q.2,ob))
  (hstep : ∀ (mk : Nat → Option (Nat × HObj)) (vs : List (HV × HS × HS)),(∀ j,j < i + 1 → mk j = lk known' j) → (∀ j q,i + 1 ≤ j → mk j = some q → (j,q.1) ∈ ms) → (∀ q ∈ pp',LateM ops cls q.1 q.2 (i + 1) vs) → MStep P base β0 ops cls mk past i o a S Sq S' v vs)
  (hlate : ∀ q ∈ pp,cls i = 2 → ((Region.before ops).getD i 0).testBit q.1 = false → q.2 S') : MClaim P base W0 β0 f ro stk ops ms cls i past pp known a S r := by
 obtain ⟨mk,vs,b,Sn,fin,h1,h2,h3,h4,h5,h6,h7⟩ := h
 refine ⟨mk,(v,S',Sq) :: vs,b,Sn,fin,fun j hj => (h1 j (by omega)).trans (hlk j hj),fun j q hj hq => ?_,fun q hq hi => ?_,.cons ho (hstep mk vs h1 h2 h5) hp h4,fun q hq j z hj hc hb => ?_,h6,h7⟩
 ·rcases Nat.lt_or_ge i j with g | g
  ·exact h2 j q (by omega) hq
  ·obtain rfl : j = i := by omega
   rw [h1 j (by omega)] at hq
   exact hmi q hq
 ·rcases Nat.lt_or_ge i q.1 with g | g
  ·exact h3 q hq (by omega)
  ·have e : q.1 = i := by omega
   obtain ⟨ob,hob⟩ := hmi2 q hq e
   exact ⟨ob,by rw [h1 q.1 (by omega),e]; exact hob⟩
 ·cases j with
  | zero =>
   replace hj : some (v,S',Sq) = some z := hj
   cases hj
   exact hlate q hq (by simpa using hc) (by simpa using hb)
  | succ j =>
   rw [List.getElem?_cons_succ] at hj
   exact h5 q (hpp q hq) j z hj (by rw [show i + 1 + j = i + (j + 1) by omega]; exact hc) (by rw [show i + 1 + j = i + (j + 1) by omega]; exact hb)
theorem drawM_ok {x : Xc} (hK : ∀ W,KnOk x.P base W x.K) (hr : ∀ W,RecOk x.P base W x.K x.rc) (hE : ESound β0 x.E) {f : FuncId} {ro : Option Nat} {stk : List Item} {ops : Array Oper} {kont : Fl → CS → Option Res} {r : Res} (hd : dstOk ops n = true)
  (hk : ∀ l c a,Agr n l ds a → kont l c = some r → HRun x.P base W0 β0 f ro stk a c.hs (Is r)) {ms : List (Nat × Nat)} (hms : MsOk ms ops.size) :
  ∀ (L : List Oper) (i : Nat) (past : List (Nat × CS)) (pend : List (Nat × (CS → Bool))) (pp : List (Nat × (HS → Prop))) (known : List (Nat × Nat × HObj)) (un : List (Nat × Nat)) (l : Fl) (c : CS) (a : HAct),Agr n l ds a → (∀ j o,L[j]? = some o → ops[i + j]? = some o) → i + L.length = ops.size → PRel pend pp →
   (∀ z ∈ known,z.1 < i ∧ (z.1,z.2.1) ∈ ms ∧ goodOb z.2.2 = true) → (∀ q ∈ un,q ∈ ms ∧ c.hs.heap q.2 = .opq) → (un.map (·.2)).Nodup →
   (∀ q ∈ ms,(∀ w,w < i → (clsL x.P x.K ms ops).getD w 0 = 2 → ((Region.before ops).getD w 0).testBit q.1 = false) → q ∈ un) →
   drawM L x ops ms kont i past pend known un l c = some r →
   MClaim x.P base W0 β0 f ro stk ops ms (fun i => (clsL x.P x.K ms ops).getD i 0) i (past.map fun q => (q.1,q.2.hs)) pp known a c.hs r := by
 intro L
 induction L with
 | nil =>
  intro i past pend pp known un l c a ha _ hi _ hkn hun hnd _ h
  obtain ⟨fin,h1,h2⟩ := bnd_out (show mlN x ops ms kont i past pend known un l c = some r from h)
  obtain ⟨c',h3,h4⟩ := settleC_out h2
  obtain ⟨h5,h6⟩ := bif_out h3
  obtain ⟨g1,g2⟩ := pickM_out h1 fun q hq z hz => by
   have := hkn _ (lk_mem hz)
   exact hms.fn q.1 _ _ this.2.1 (hun q hq).1
  have hsz : i = ops.size := by simpa using hi
  subst hsz
  refine ⟨lk known,[],a,c.hs,fin,fun _ _ => rfl,fun j q hj hq => ?_,fun q hq hj => ?_,.nil _ _ _,fun q _ j z hz => by simp at hz,⟨by rw [g1]; exact hnd,fun z hz => ?_,fun q hq => ?_⟩,hr_region_end ?_⟩
  ·have := (hkn _ (lk_mem hq)).1
   simp only at this
   omega
  ·have := hms.lt q hq
   omega
  ·obtain ⟨q,k1,k2⟩ := g2 z hz
   have hz2 := hkn _ (lk_mem k2)
   have e : z.1 = q.2 := hms.fn q.1 _ _ hz2.2.1 (hun q k1).1
   exact ⟨by rw [e]; exact (hun q k1).2,hz2.2.2,q.1,k2⟩
  ·rw [← h4]
   intro e
   have := List.all_eq_true.1 h5 q hq
   rw [isOpq_iff.2 e] at this
   cases this
  ·have := hk l c' a ha h6
   rw [h4] at this
   exact this
 | cons o L ih =>
  intro i past pend pp known un l c a ha hL hi hp hkn hun hnd hin h
  have ho : ops[i]? = some o := hL 0 o rfl
  have hL' : ∀ j o',L[j]? = some o' → ops[i + 1 + j]? = some o' := fun j o' hj => by
   rw [show i + 1 + j = i + (j + 1) by omega]
   exact hL (j + 1) o' (by simpa using hj)
  have hi' : i + 1 + L.length = ops.size := by rw [List.length_cons] at hi; omega
  have hdo := dstOk_at hd ho
  have hcl : (clsL x.P x.K ms ops).getD i 0 = clsM x.P x.K ms i o := clsL_at ho
  have hkn' : ∀ z ∈ known,z.1 < i + 1 ∧ (z.1,z.2.1) ∈ ms ∧ goodOb z.2.2 = true := fun z hz => ⟨by have := (hkn z hz).1; omega,(hkn z hz).2⟩
  have hlki : lk known i = none := lk_none fun z hz => by have := (hkn z hz).1; omega
  replace h : (match findM ms i with
   | some q => mlM q.2 o (drawM L)
   | none => (match clsOf x.P x.K o with
    | 0 => ml0 o (drawM L)
    | 3 => ml3 o (drawM L)
    | _ => ml2 o (drawM L))) x ops ms kont i past pend known un l c = some r := h
  cases hf : findM ms i with
  | some q =>
   rw [hf] at h
   obtain ⟨hq,hqi⟩ := findM_some hf
   have hc0 : (clsL x.P x.K ms ops).getD i 0 = 0 := hcl.trans (clsM_some hf)
   replace h : mlM q.2 o (drawM L) x ops ms kont i past pend known un l c = some r := h
   unfold mlM at h
   obtain ⟨h1,h2⟩ := bif_out h
   simp only [Bool.and_eq_true,Option.isNone_iff_eq_none] at h1
   obtain ⟨out,h3,h4⟩ := bnd_out h2
   obtain ⟨h5,h6⟩ := bif_out h4
   rw [frcV_eq,frcOb_eq] at h6
   have hqm : (i,q.2) ∈ ms := by rw [← hqi]; exact hq
   have hgo := ih (i + 1) past pend pp ((i,q.2,out.2.1.heap c.next) :: known) un _ c _ (ha.putO hdo _) hL' hi' hp (fun z hz => by
    rcases List.mem_cons.1 hz with rfl | hz
    ·exact ⟨Nat.lt_succ_self _,hqm,h5⟩
    ·exact hkn' z hz) hun hnd (fun q' hq' hw => hin q' hq' fun w hwi => hw w (by omega)) h6
   refine MClaim.step (Sq := c.hs) ho hgo (fun _ h => h) ⟨fun _ h => h,fun e => by rw [hc0] at e; cases e⟩ (fun j hj => lk_cons_ne (by simp only; omega)) (fun z hz => ?_) (fun q' hq' e => ?_) (fun mk vs m1 m2 m3 => ?_) (fun q' _ e => by rw [hc0] at e; cases e)
   ·rw [show lk ((i,q.2,out.2.1.heap c.next) :: known) i = some (q.2,out.2.1.heap c.next) from lk_cons_eq] at hz
    cases hz
    exact hqm
   ·refine ⟨out.2.1.heap c.next,?_⟩
    have : q'.2 = q.2 := hms.fn i _ _ (by rw [← e]; exact hq') hqm
    rw [this]
    exact lk_cons_eq
   ·have hmi : mk i = some (q.2,out.2.1.heap c.next) := (m1 i (Nat.lt_succ_self _)).trans lk_cons_eq
    unfold MStep
    rw [hmi]
    exact ⟨hc0,rfl,makes_of (fun y hy v hv => (ev_ok ha hv).toMask hy) h1.1 h1.2 h3 h5⟩
  | none =>
   rw [hf] at h
   have hcM : (clsL x.P x.K ms ops).getD i 0 = clsOf x.P x.K o := hcl.trans (clsM_none hf)
   have hmi0 : ∀ q,lk known i = some q → (i,q.1) ∈ ms := fun q hq => by rw [hlki] at hq; cases hq
   have hmi2 : ∀ q ∈ ms,q.1 = i → ∃ ob,lk known i = some (q.2,ob) := fun q hq e => absurd e (findM_none hf q hq)
   have hmk : ∀ mk : Nat → Option (Nat × HObj),(∀ j,j < i + 1 → mk j = lk known j) → mk i = none := fun mk m1 => (m1 i (Nat.lt_succ_self _)).trans hlki
   -- an operation that leaves the heap
   have quiet : ∀ (v : HV) (c' : CS) (pend' : List (Nat × (CS → Bool))) (pp' : List (Nat × (HS → Prop))),c'.hs = c.hs → clsOf x.P x.K o ≠ 2 → PRel pend' pp' → (∀ q ∈ pp,q ∈ pp') → drawM L x ops ms kont (i + 1) past pend' known un (l.put o.dst v) c' = some r →
     (∀ (mk : Nat → Option (Nat × HObj)) (vs : List (HV × HS × HS)),mk i = none → (∀ q ∈ pp',LateM ops (fun i => (clsL x.P x.K ms ops).getD i 0) q.1 q.2 (i + 1) vs) → MStep x.P base β0 ops (fun i => (clsL x.P x.K ms ops).getD i 0) mk (past.map fun q => (q.1,q.2.hs)) i o a c.hs c.hs c.hs v vs) →
     MClaim x.P base W0 β0 f ro stk ops ms (fun i => (clsL x.P x.K ms ops).getD i 0) i (past.map fun q => (q.1,q.2.hs)) pp known a c.hs r := by
    intro v c' pend' pp' hc' hne hp' hpp h hst
    have hgo := ih (i + 1) past pend' pp' known un _ c' _ (ha.putO hdo v) hL' hi' hp' hkn' (fun q hq => by rw [hc']; exact hun q hq) hnd (fun q' hq' hw => hin q' hq' fun w hwi => hw w (by omega)) h
    rw [hc'] at hgo
    exact MClaim.step (Sq := c.hs) ho hgo hpp ⟨fun _ h => h,fun e => absurd (hcM.symm.trans e) hne⟩ (fun _ _ => rfl) hmi0 hmi2 (fun mk vs m1 m2 m3 => hst mk vs (hmk mk m1) m3) (fun q' _ e => absurd (hcM.symm.trans e) hne)
   by_cases h0 : clsOf x.P x.K o = 0
   ·rw [h0] at h
    replace h : ml0 o (drawM L) x ops ms kont i past pend known un l c = some r := h
    have free : ∀ v c',c'.hs = c.hs → (∀ E T,QAt2 x.P base E β0 ops o (a.mask (o.looksAt ops)) T v T) → drawM L x ops ms kont (i + 1) past pend known un (l.put o.dst v) c' = some r → MClaim x.P base W0 β0 f ro stk ops ms (fun i => (clsL x.P x.K ms ops).getD i 0) i (past.map fun q => (q.1,q.2.hs)) pp known a c.hs r := fun v c' hc' hq h =>
     quiet v c' pend pp hc' (by rw [h0]; decide) hp (fun _ h => h) h fun mk vs hm _ => by
      unfold MStep
      rw [hm]
      exact .inl ⟨hcM.trans h0,rfl,hq⟩
    unfold ml0 at h
    split at h
    ·rename_i hw
     split at h
     ·rename_i q hcall
      obtain ⟨fx,xs⟩ := q
      obtain ⟨vs,h1,h2⟩ := bnd_out h
      obtain ⟨v,h3,h4⟩ := bnd_out h2
      rw [frcV_eq] at h4
      rw [evL_eq] at h1
      exact free v c rfl (fun E T => q_ext ha (hK E) hw hcall h1 h3 T) h4
     ·rename_i hcall
      obtain ⟨out,c',h1,h2,h3⟩ := dO_op ha h hcall
      rcases clsOf_zero h0 with hff | hff
      ·obtain ⟨v,rfl,h4⟩ := opR_free hff h1
       exact free _ c' h2 (fun E T => q_opR ha hw (h4 T)) h3
      ·simp only [extCall,hcall] at hff; cases hff
    ·rename_i hw
     exact free _ c rfl (fun E T => q_skips ha hw T) h
    ·cases h
   by_cases h3 : clsOf x.P x.K o = 3
   ·rw [h3] at h
    replace h : ml3 o (drawM L) x ops ms kont i past pend known un l c = some r := h
    unfold ml3 at h
    split at h
    ·rename_i hw
     obtain ⟨out,c',h1,h2,h4⟩ := dO_op ha h (read_call (clsOf_three h3))
     obtain ⟨v,rfl⟩ := opR_read (clsOf_three h3) h1
     obtain ⟨hpast,h4⟩ := bif_out h4
     have hlt : ∀ c2 : CS,lateB x.P ops o l v c2 = true → ∀ E,LateP x.P base E β0 ops i a v c2.hs := fun c2 hc E => late_out ha h3 ho hc
     refine quiet v c' _ ((i,fun T => ∀ E,LateP x.P base E β0 ops i a v T) :: pp) h2 (by rw [h3]; decide) (.cons hlt hp) (fun q hq => List.mem_cons_of_mem _ hq) h4 fun mk vs hm hl => ?_
     unfold MStep
     rw [hm]
     refine .inr (.inr ⟨hcM.trans h3,rfl,fun E => ⟨q_opR ha hw h1,fun j z hj hc hb => hl _ List.mem_cons_self j z hj hc hb E o ho,fun q hq => ?_⟩⟩)
     exact ((past_out (p := fun T => ∀ E,LateP x.P base E β0 ops i a v T) hlt hpast).out q hq).imp id fun h => h E o ho
    ·rename_i hw
     refine quiet _ c pend pp rfl (by rw [h3]; decide) hp (fun _ h => h) h fun mk vs hm _ => ?_
     unfold MStep
     rw [hm]
     exact .inr (.inr ⟨hcM.trans h3,rfl,fun E => ⟨q_skips ha hw _,fun _ _ _ _ _ => q_skips ha hw _,fun _ _ => .inr (q_skips ha hw _)⟩⟩)
    ·cases h
   ·have h2c := clsOf_two h0 h3
    rw [h2c] at h
    replace h : ml2 o (drawM L) x ops ms kont i past pend known un l c = some r := h
    unfold ml2 at h
    have hmem : ∀ (mk : Nat → Option (Nat × HObj)),(∀ j,j < i + 1 → mk j = lk known j) → (∀ j q,i + 1 ≤ j → mk j = some q → (j,q.1) ∈ ms) → ∀ j r ob,mk j = some (r,ob) → (j,r) ∈ ms := by
     intro mk m1 m2 j r ob hj
     rcases Nat.lt_or_ge j (i + 1) with g | g
     ·rw [m1 j g] at hj
      exact (hkn _ (lk_mem hj)).2.1
     ·exact m2 j _ g hj
    split at h
    ·rename_i hw
     obtain ⟨st,hst,h⟩ := bnd_out h
     obtain ⟨c1,h,hc1⟩ := settleC_out h
     obtain ⟨g1,g2⟩ := pickM_out hst fun q hq z hz => hms.fn q.1 _ _ (hkn _ (lk_mem hz)).2.1 (hun q (List.mem_filter.1 hq).1).1
     have eff : ∀ (v : HV) (c' : CS),(∀ E,QAt2 x.P base E β0 ops o (a.mask (o.looksAt ops)) c1.hs v c'.hs) →
       (pendB ((Region.before ops).getD i 0) c' pend && (un.filter fun q => !((Region.before ops).getD i 0).testBit q.1).all fun q => isOpq c' q.2) = true →
       drawM L x ops ms kont (i + 1) ((i,c) :: past) pend known (un.filter fun q => !((Region.before ops).getD i 0).testBit q.1) (l.put o.dst v) c' = some r →
       MClaim x.P base W0 β0 f ro stk ops ms (fun i => (clsL x.P x.K ms ops).getD i 0) i (past.map fun q => (q.1,q.2.hs)) pp known a c.hs r := by
      intro v c' hq hb h
      simp only [Bool.and_eq_true] at hb
      obtain ⟨hb1,hb2⟩ := hb
      have hopq : ∀ q ∈ un,((Region.before ops).getD i 0).testBit q.1 = false → c'.hs.heap q.2 = .opq := fun q hq hbit =>
       isOpq_iff.1 (List.all_eq_true.1 hb2 q (List.mem_filter.2 ⟨hq,by rw [hbit]; rfl⟩))
      have hgo := ih (i + 1) ((i,c) :: past) pend pp known _ _ c' _ (ha.putO hdo v) hL' hi' hp hkn' (fun q hq => by
       obtain ⟨k1,k2⟩ := List.mem_filter.1 hq
       exact ⟨(hun q k1).1,hopq q k1 (by simpa using k2)⟩) (hnd.sublist (List.Sublist.map _ List.filter_sublist)) (fun q hq hw => List.mem_filter.2 ⟨hin q hq fun w hwi => hw w (by omega),by rw [hw i (Nat.lt_succ_self _) (hcM.trans h2c)]; rfl⟩) h
      refine MClaim.step (Sq := c1.hs) ho hgo (fun _ h => h) ⟨fun _ h => List.mem_cons_of_mem _ h,fun _ => List.mem_cons_self⟩ (fun _ _ => rfl) hmi0 hmi2 (fun mk vs m1 m2 m3 => ?_) (fun q hq _ hbit => ?_)
      ·unfold MStep
       rw [hmk mk m1]
       refine .inr (.inl ⟨hcM.trans h2c,hq,⟨st,hc1,?_,fun z hz => ?_⟩,fun j r ob hj hw => ?_⟩)
       ·rw [g1]
        exact hnd.sublist (List.Sublist.map _ List.filter_sublist)
       ·obtain ⟨q,k1,k2⟩ := g2 z hz
        obtain ⟨k3,k4⟩ := List.mem_filter.1 k1
        have hz2 := hkn _ (lk_mem k2)
        have e : z.1 = q.2 := hms.fn q.1 _ _ hz2.2.1 (hun q k3).1
        exact ⟨by rw [e]; exact (hun q k3).2,hz2.2.2,q.1,(m1 q.1 (by have := hz2.1; simp only at this; omega)).trans k2,before_anc k4⟩
       ·have hjm := hmem mk m1 m2 j r ob hj
        exact hopq _ (hin _ hjm fun w hwi => hw w (by omega)) (hw i (Nat.le_refl _) (hcM.trans h2c))
      ·rcases (hp.pend hb1).mem q hq with k | k
       ·rw [hbit] at k; cases k
       ·exact k
     cases hcall : callOp o.op with
     | none =>
      obtain ⟨out,c',h1,h2,h4⟩ := dO_op ha h hcall
      obtain ⟨hb,h4⟩ := bif_out h4
      exact eff _ c' (fun E => by rw [h2]; exact q_opR ha hw h1) hb h4
     | some q =>
      obtain ⟨fx,xs⟩ := q
      obtain ⟨tys,hop⟩ := callOp_out hcall
      have hm : ∀ y ∈ xs,y ∈ o.op.operands := fun y hy => by rw [hop]; simp [Op.operands,Call.operands,hy]
      obtain ⟨fv,vs,h1,h2,h4⟩ := dO_call h hcall
      rcases h4 with ⟨v,h5,h6⟩ | ⟨q,h5,h6⟩
      ·obtain ⟨hb,h6⟩ := bif_out h6
       exact eff v c1 (fun E => q_ext ha (hK E) hw hcall h2 h5 c1.hs) hb h6
      ·obtain ⟨hb,h6⟩ := bif_out h6
       have hw' := ((wantR_out ha hw).elim (fun g => g.2) (fun g => absurd g.1 (by simp))).toMask
       exact eff q.1 q.2 (fun E => .inl ⟨hw',.inr ⟨fx,xs.toArray,tys,fv,vs,hop,(ev_ok ha h1).toMask (by rw [hop]; simp [Op.operands,Call.operands]),evs_of (fun y hy v hv => (ev_ok ha hv).toMask (hm y hy)) h2,(hr E).1 _ _ _ _ _ h5 β0 hE⟩⟩) hb h6
    ·rename_i hw
     obtain ⟨hb,h⟩ := bif_out h
     have hgo := ih (i + 1) ((i,c) :: past) pend pp known un _ c _ (ha.putO hdo _) hL' hi' hp hkn' hun hnd (fun q hq hw => hin q hq fun w hwi => hw w (by omega)) h
     refine MClaim.step (Sq := c.hs) ho hgo (fun _ h => h) ⟨fun _ h => List.mem_cons_of_mem _ h,fun _ => List.mem_cons_self⟩ (fun _ _ => rfl) hmi0 hmi2 (fun mk vs m1 m2 m3 => ?_) (fun q hq _ hbit => ?_)
     ·unfold MStep
      rw [hmk mk m1]
      refine .inr (.inl ⟨hcM.trans h2c,fun E => q_skips ha hw _,⟨[],rfl,List.nodup_nil,fun z hz => (by cases hz)⟩,fun j r ob hj hw => ?_⟩)
      exact (hun _ (hin _ (hmem mk m1 m2 j r ob hj) fun w hwi => hw w (by omega))).2
     ·rcases (hp.pend hb).mem q hq with k | k
      ·rw [hbit] at k; cases k
      ·exact k
    ·cases h
theorem drawW_ok : DrawOkF P base drawW := by
 intro W0 K rec hK hr β0 E hE f ro stk ops id n ds kont r hd hk l c a ha h
 unfold drawW at h
 cases hok : regOk P K ops with
 | true =>
  rw [hok] at h
  refine x_start rfl hok ?_
  exact drawL_ok (x := ⟨P,K,fun _ _ _ _ _ _ _ _ => none,rec,E,0,0,none⟩) (hK W0) (hr W0) hE hd hk ops.toList 0 [] [] [] l c a ha (fun j o hj => by rw [Nat.zero_add]; simpa using hj) (by simp) .nil h
 | false =>
  rw [hok] at h
  replace h : (frcL (fun i k => frcN i k) (makersOf P K ops) fun mi => frcN c.next fun nx =>
   Bool.rec (motive := fun _ => Option Res) none
    (resvC c mi.length fun c0 => drawM ops.toList ⟨P,K,fun _ _ _ _ _ _ _ _ => none,rec,E,0,0,none⟩ ops (mi.zipIdx.map fun q => (q.1,nx + q.2)) kont 0 [] [] [] (mi.zipIdx.map fun q => (q.1,nx + q.2)) l c0)
    (regOkM P K (mi.zipIdx.map fun q => (q.1,nx + q.2)) ops)) = some r := h
  rw [frcL_eq (fun a k => frcN_eq a k),frcN_eq] at h
  obtain ⟨h1,h2⟩ := bif_out h
  obtain ⟨c0,h3,h4⟩ := resvC_out h2
  have hmn : (makersOf P K ops).Nodup := (List.nodup_range).sublist List.filter_sublist
  have hml : ∀ j ∈ makersOf P K ops,j < ops.size := fun j hj => List.mem_range.1 (List.mem_filter.1 hj).1
  generalize makersOf P K ops = mi at h1 h2 h3 h4 hmn hml
  have hat : ∀ q ∈ (mi.zipIdx.map fun q => (q.1,c.next + q.2)),∃ k,∃ hk : k < mi.length,q = (mi[k],c.next + k) := fun q hq => by
   obtain ⟨k,hk,e⟩ := List.getElem_of_mem hq
   have hk' : k < mi.length := by simpa using hk
   refine ⟨k,hk',?_⟩
   rw [← e]
   simp
  have hto : ∀ k (hk : k < mi.length),(mi[k],c.next + k) ∈ (mi.zipIdx.map fun q => (q.1,c.next + q.2)) := fun k hk => by
   refine List.mem_map.2 ⟨(mi[k],k),?_,rfl⟩
   rw [List.mem_zipIdx_iff_getElem?]
   simp [hk]
  have hms : MsOk (mi.zipIdx.map fun q => (q.1,c.next + q.2)) ops.size := by
   refine ⟨fun j r1 r2 g1 g2 => ?_,fun j1 j2 r1 g1 g2 => ?_,fun q hq => ?_⟩
   ·obtain ⟨k1,hk1,e1⟩ := hat _ g1
    obtain ⟨k2,hk2,e2⟩ := hat _ g2
    simp only [Prod.mk.injEq] at e1 e2
    have hne := List.pairwise_iff_getElem.1 (List.nodup_iff_pairwise_ne.1 hmn)
    have : k1 = k2 := by
     rcases Nat.lt_trichotomy k1 k2 with g | g | g
     ·exact absurd (e1.1.symm.trans e2.1) (hne k1 k2 hk1 hk2 g)
     ·exact g
     ·exact absurd (e2.1.symm.trans e1.1) (hne k2 k1 hk2 hk1 g)
    omega
   ·obtain ⟨k1,hk1,e1⟩ := hat _ g1
    obtain ⟨k2,hk2,e2⟩ := hat _ g2
    simp only [Prod.mk.injEq] at e1 e2
    have : k1 = k2 := by omega
    subst this
    exact e1.1.trans e2.1.symm
   ·obtain ⟨k,hk,e⟩ := hat _ hq
    rw [e]
    exact hml _ (List.getElem_mem hk)
  have hnd : ((mi.zipIdx.map fun q => (q.1,c.next + q.2)).map (·.2)).Nodup := by
   rw [List.map_map]
   refine List.nodup_iff_pairwise_ne.2 (List.pairwise_iff_getElem.2 fun i j hi hj hij e => ?_)
   simp at e
   omega
  obtain ⟨mk,vs,b,Sn,fin,m1,m2,m3,m4,m5,m6,m7⟩ := drawM_ok (x := ⟨P,K,fun _ _ _ _ _ _ _ _ => none,rec,E,0,0,none⟩) (W0 := W0) hK hr hE hd hk hms ops.toList 0 [] [] [] [] _ l c0 a ha (fun j o hj => by rw [Nat.zero_add]; simpa using hj) (by simp) .nil (fun z hz => by cases hz) (fun q hq => ⟨hq,by
   obtain ⟨k,hk,e⟩ := hat _ hq
   rw [h4,e]
   exact resv_opq mi.length c.hs k hk⟩) hnd (fun q hq _ => hq) h3
  rw [h4] at m4
  have hmm : ∀ i r ob,mk i = some (r,ob) → (i,r) ∈ (mi.zipIdx.map fun q => (q.1,c.next + q.2)) := fun i r ob hi => m2 i _ (Nat.zero_le _) hi
  refine m_run (n := mi.length) (mk := mk) rfl (drawOk2_out h1) m4 (fun i r ob hi => ?_) (fun i j r ob ob' hi hj => hms.inj i j r (hmm _ _ _ hi) (hmm _ _ _ hj)) (fun t ht => ?_) ⟨m6.1,m6.2.1,fun i r ob hi => m6.2.2 _ (hmm _ _ _ hi)⟩ m7
  ·obtain ⟨k,hk,e⟩ := hat _ (hmm _ _ _ hi)
   simp only [Prod.mk.injEq] at e
   have hlt := hms.lt _ (hmm _ _ _ hi)
   refine ⟨by show c.next ≤ r; omega,by show r < c.next + mi.length; omega,hlt,?_⟩
   show (clsL P K _ ops).getD i 0 = 0
   rw [clsL_at (Array.getElem?_eq_getElem hlt)]
   unfold clsM
   rw [List.any_eq_true.2 ⟨_,hmm _ _ _ hi,Nat.beq_refl _⟩]
   rfl
  ·obtain ⟨ob,hob⟩ := m3 _ (hto t ht) (Nat.zero_le _)
   exact ⟨_,ob,hob⟩
end
section
variable {P : Program} {base : Nat} {W0 : Env} {S : HS}
theorem HCall.forgetV {β0 : Bt} {f : FuncId} {args : List HV} {v0 : HV} (hv : v0.idFree = true) (h : HCall P base W0 β0 f args S (fun v S1 => v = v0 ∧ Ext S S1)) : HCall P base W0 β0 f args S (fun v S1 => v = v0 ∧ S1 = S) := by
 intro β w args' hle hrel ha cs
 obtain ⟨β',v,S',v',w',fr,g1,⟨rfl,g2⟩,g3,g4,g5,g6,g7⟩ := h β w args' hle hrel ha cs
 exact ⟨β,_,S,v',w',fr,Le.refl _,⟨rfl,rfl⟩,g3.free hv,hrel.forget g4 g1 g2,g5,g6,g7⟩
end
noncomputable section
def insC (z : Nat) (args : List HV) (c : CS) : Option Res :=
 match args with
 | [.sl q n k,.int .i64 i,.sl q' n' k'] => (match c.hs.ins ⟨q,n,k⟩ i ⟨q',n',k'⟩ z with
  | some p => (match q with
   | none => CS.syncK p.2 (fun c' => some (p.1.hv,c')) [c.next] c
   | some a => CS.syncA p.2 (fun c' => some (p.1.hv,c')) [a.1,c.next,c.next + 1] c)
  | none => none)
 | _ => none
theorem insC_out {z : Nat} {args : List HV} {c : CS} {out : Res} (h : insC z args c = some out) : ∃ x0 x1 x2 p,args = [Sl.hv x0,.int .i64 x1,Sl.hv x2] ∧ c.hs.ins x0 x1 x2 z = some p ∧ out.1 = p.1.hv ∧ out.2.hs = p.2 := by
 unfold insC at h
 split at h
 ·rename_i q n k i q' n' k'
  split at h
  ·rename_i p hp
   refine ⟨⟨q,n,k⟩,i,⟨q',n',k'⟩,p,rfl,hp,?_⟩
   unfold HS.ins at hp
   obtain ⟨new,h1,h2⟩ := Option.bind_eq_some_iff.1 hp
   split at h2
   ·cases h2
   ·cases q with
    | none =>
     simp only at h2 h
     split at h2
     ·cases h2
      obtain ⟨c',g1,g2⟩ := CS.syncK_out _ _ h (Off.newM _ _ _ (List.mem_singleton.2 rfl))
      cases g1
      exact ⟨rfl,g2⟩
     ·cases h2
    | some a =>
     obtain ⟨id,off⟩ := a
     simp only at h2 h
     split at h2
     ·split at h2
      ·cases h2
       obtain ⟨c',g1,g2⟩ := CS.syncA_out rfl _ _ h (fun i hi => by
        simp only [List.mem_cons,List.not_mem_nil,or_false,not_or] at hi
        show (if i = c.next + 1 then _ else if i = c.next ∨ i = id then _ else c.hs.heap i) = _
        rw [if_neg hi.2.2,if_neg (fun g => g.elim hi.2.1 hi.1)])
       cases g1
       exact ⟨rfl,g2⟩
      ·cases h2
     ·cases h2
  ·cases h
 ·cases h
def delC (z : Nat) (args : List HV) (c : CS) : Option Res :=
 match args with
 | [.sl (some a) n k,.int .i64 i,.int .i64 j] => (match c.hs.del ⟨some a,n,k⟩ i j z with
  | some p => CS.syncA p.2 (fun c' => some (p.1.hv,c')) [a.1,c.next] c
  | none => none)
 | _ => none
theorem delC_out {z : Nat} {args : List HV} {c : CS} {out : Res} (h : delC z args c = some out) : ∃ x0 x1 x2 p,args = [Sl.hv x0,.int .i64 x1,.int .i64 x2] ∧ c.hs.del x0 x1 x2 z = some p ∧ out.1 = p.1.hv ∧ out.2.hs = p.2 := by
 unfold delC at h
 split at h
 ·rename_i a n k i j
  obtain ⟨id,off⟩ := a
  split at h
  ·rename_i p hp
   refine ⟨⟨some (id,off),n,k⟩,i,j,p,rfl,hp,?_⟩
   unfold HS.del at hp
   simp only at hp
   split at hp
   ·split at hp
    ·cases hp
     obtain ⟨c',g1,g2⟩ := CS.syncA_out rfl _ _ h (fun i hi => by
      simp only [List.mem_cons,List.not_mem_nil,or_false,not_or] at hi
      show (if i = c.next then _ else if i = id then _ else c.hs.heap i) = _
      rw [if_neg hi.2,if_neg hi.1])
     cases g1
     exact ⟨rfl,g2⟩
    ·cases hp
   ·cases hp
  ·cases h
 ·cases h
end
structure Kills (S T : HS) : Prop where
 next : S.next ≤ T.next
 obj : ∀ id,T.heap id = .dead ∨ (T.heap id = S.heap id ∧ T.mrk id = S.mrk id)
section
variable {P : Program} {base : Nat} {W0 : Env}
theorem Rel.kills {β : Bt} {S T : HS} {w : World} (h : Rel base W0 β S w) (k : Kills S T) : Rel base W0 β T w := by
 have same : ∀ id,T.heap id ≠ .dead → T.heap id = S.heap id := fun id hd => ((k.obj id).resolve_left hd).1
 refine ⟨h.below,h.size,fun id hid => ?_,h.lt,fun id => ?_,fun id id' b hne ho ha hb => ?_⟩
 ·obtain ⟨h1,h2⟩ := h.fresh id (Nat.le_trans k.next hid)
  exact ⟨h1,(k.obj id).elim (fun g => g) fun g => g.1.trans h2⟩
 ·rcases k.obj id with g | ⟨g1,g2⟩
  ·rw [g]; trivial
  ·rw [g1,g2]; exact h.objs id
 ·refine h.disj id id' b hne ?_ ?_ hb
  ·rw [← same id (fun e => by rw [e] at ho; cases ho)]; exact ho
  ·rw [← same id' (fun e => by rw [e] at ha; cases ha)]; exact ha
theorem HCall.kill {β0 : Bt} {f : FuncId} {args : List HV} {S T : HS} {v0 : HV} {D E : HS} (h : HCall P base W0 β0 f args T (fun v S1 => v = v0 ∧ S1 = D)) (k : Kills S T) (k2 : Kills D E) : HCall P base W0 β0 f args S (fun v S1 => v = v0 ∧ S1 = E) := by
 intro β w args' hle hrel ha cs
 obtain ⟨β',v,S',v',w',fr,g1,⟨rfl,rfl⟩,g3,g4,g5,g6,g7⟩ := h β w args' hle (hrel.kills k) ha cs
 exact ⟨β',_,E,v',w',fr,g1,⟨rfl,rfl⟩,g3,g4.kills k2,g5,g6,g7⟩
end
theorem Kills.refl (S : HS) : Kills S S := ⟨Nat.le_refl _,fun _ => .inr ⟨rfl,rfl⟩⟩
noncomputable section
abbrev OL1 := List (Nat × HObj × Nat)
def olk (A : OL1) (id : Nat) : Option (HObj × Nat) := List.rec (motive := fun _ => Option (HObj × Nat)) none (fun q _ ih => Bool.rec (motive := fun _ => Option (HObj × Nat)) ih (some q.2) (Nat.beq q.1 id)) A
theorem olk_cons (q : Nat × HObj × Nat) (A : OL1) (id : Nat) : olk (q :: A) id = if q.1 = id then some q.2 else olk A id := by
 show (Bool.rec (motive := fun _ => Option (HObj × Nat)) (olk A id) (some q.2) (Nat.beq q.1 id) : Option (HObj × Nat)) = _
 by_cases h : q.1 = id
 ·rw [if_pos h,h,show Nat.beq id id = true by simp]
 ·rw [if_neg h,nbeq_ne h]
def heapOf (A : OL1) (n : Nat) : HS := ⟨fun id => ((olk A id).map (·.1)).getD .dead,n,fun id => ((olk A id).map (·.2)).getD 0⟩
def tx (l : List Nat) : List UInt8 := l.map UInt8.ofNat
def bR (l : List Nat) : List (List HV) := l.map fun n => [.int .u8 (.ofNat n)]
section
variable {γ : Type}
def frT (v : HV) (k : HV → Option γ) : Option γ := match v with
 | .str s => frcS s fun s => k (.str s)
 | v => k v
theorem frT_eq (v : HV) (k : HV → Option γ) : frT v k = k v := by
 unfold frT
 split
 ·exact frcS_eq _ _
 ·rfl
def frE (e : HV × HV) (k : HV × HV → Option γ) : Option γ := frT e.1 fun a => frT e.2 fun b => k (a,b)
theorem frE_eq (e : HV × HV) (k : HV × HV → Option γ) : frE e k = k e := by unfold frE; rw [frT_eq,frT_eq]
def frO (o : HObj) (k : HObj → Option γ) : Option γ := match o with
 | .cells z rows own => frcL (frcL frT) rows fun rows => k (.cells z rows own)
 | .map es => frcL frE es fun es => k (.map es)
 | o => k o
theorem frO_eq (o : HObj) (k : HObj → Option γ) : frO o k = k o := by
 unfold frO
 split
 ·exact frcL_eq (frcL_eq frT_eq) _ _
 ·exact frcL_eq frE_eq _ _
 ·rfl
end
section
variable {γ : Type}
def bld (A : OL1) (k : Tr HObj → Tr Nat → Option γ) : Option γ := List.rec (motive := fun _ => (Tr HObj → Tr Nat → Option γ) → Option γ) (fun k => k .leaf .leaf) (fun q _ ih k => ih fun t m => frO q.2.1 fun o => Tr.setK 40 t q.1 o fun t => Tr.setK 40 m q.1 q.2.2 fun m => k t m) A k
theorem bld_out {r : γ} : ∀ (A : OL1) (k : Tr HObj → Tr Nat → Option γ),bld A k = some r → ∃ t m,k t m = some r ∧ ∀ id,t.get id = (olk A id).map (·.1) ∧ m.get id = (olk A id).map (·.2) := by
 intro A
 induction A with
 | nil => intro k h; exact ⟨.leaf,.leaf,h,fun id => ⟨rfl,rfl⟩⟩
 | cons q A ih =>
  intro k h
  obtain ⟨t,m,h1,h2⟩ := ih _ h
  rw [frO_eq] at h1
  obtain ⟨t',h3,h4⟩ := Tr.setK_out _ _ _ _ h1
  obtain ⟨m',h5,h6⟩ := Tr.setK_out _ _ _ _ h3
  refine ⟨t',m',h5,fun id => ?_⟩
  rw [h4,h6,olk_cons,(h2 id).1,(h2 id).2]
  by_cases e : q.1 = id
  ·subst e; simp
  ·rw [if_neg e,if_neg (fun h => e h.symm),if_neg (fun h => e h.symm)]
   exact ⟨rfl,rfl⟩
def bldC (A : OL1) (n : Nat) (k : CS → Option γ) : Option γ := bld A fun t m => frcN n fun n => k ⟨t,n,m,0⟩
theorem bldC_out {r : γ} {A : OL1} {n : Nat} {k : CS → Option γ} (h : bldC A n k = some r) : ∃ c,k c = some r ∧ c.hs = heapOf A n := by
 obtain ⟨t,m,h1,h2⟩ := bld_out A _ h
 rw [frcN_eq] at h1
 refine ⟨_,h1,?_⟩
 unfold CS.hs CS.mk_ heapOf
 congr 1
 ·funext id; rw [(h2 id).1]
 ·funext id; rw [(h2 id).2]
end
def byEq (xs : List UInt8) : List UInt8 → Bool := List.rec (motive := fun _ => List UInt8 → Bool) (fun ys => List.rec (motive := fun _ => Bool) true (fun _ _ _ => false) ys) (fun x _ ih ys => List.rec (motive := fun _ => Bool) false (fun y ys _ => Bool.rec false (ih ys) (Nat.beq x.toNat y.toNat)) ys) xs
theorem byEq_out : ∀ {xs ys : List UInt8},byEq xs ys = true → xs = ys := by
 intro xs
 induction xs with
 | nil => intro ys h; cases ys with | nil => rfl | cons y ys => cases h
 | cons x xs ih =>
  intro ys h
  cases ys with
  | nil => cases h
  | cons y ys =>
   replace h : (Bool.rec false (byEq xs ys) (Nat.beq x.toNat y.toNat) : Bool) = true := h
   cases hx : Nat.beq x.toNat y.toNat with
   | false => rw [hx] at h; cases h
   | true =>
    rw [hx] at h
    rw [ih h,UInt8.toNat_inj.1 (Nat.eq_of_beq_eq_true hx)]
def v1Eq (x y : HV) : Bool :=
 match x with
 | .str a => (match y with | .str b => byEq a b | _ => false)
 | x => hvEq x y
theorem v1Eq_out {x y : HV} (h : v1Eq x y = true) : x = y := by
 unfold v1Eq at h
 split at h
 ·split at h
  ·rw [byEq_out h]
  ·cases h
 ·exact hvEq_out h
def lEq {α : Type} (f : α → α → Bool) (xs : List α) : List α → Bool := List.rec (motive := fun _ => List α → Bool) (fun ys => List.rec (motive := fun _ => Bool) true (fun _ _ _ => false) ys) (fun x _ ih ys => List.rec (motive := fun _ => Bool) false (fun y ys _ => Bool.rec false (ih ys) (f x y)) ys) xs
theorem lEq_out {α : Type} {f : α → α → Bool} (hf : ∀ {x y},f x y = true → x = y) : ∀ {xs ys : List α},lEq f xs ys = true → xs = ys := by
 intro xs
 induction xs with
 | nil => intro ys h; cases ys with | nil => rfl | cons y ys => cases h
 | cons x xs ih =>
  intro ys h
  cases ys with
  | nil => cases h
  | cons y ys =>
   replace h : (Bool.rec false (lEq f xs ys) (f x y) : Bool) = true := h
   cases hx : f x y with
   | false => rw [hx] at h; cases h
   | true => rw [hx] at h; rw [ih h,hf hx]
def vEq (x y : HV) : Bool :=
 match x with
 | .agg xs => (match y with | .agg ys => lEq v1Eq xs ys | _ => false)
 | .tup xs => (match y with | .tup ys => lEq v1Eq xs ys | _ => false)
 | x => v1Eq x y
theorem vEq_out {x y : HV} (h : vEq x y = true) : x = y := by
 unfold vEq at h
 split at h
 ·split at h
  ·rw [lEq_out v1Eq_out h]
  ·cases h
 ·split at h
  ·rw [lEq_out v1Eq_out h]
  ·cases h
 ·exact v1Eq_out h
def eEq (x y : HV × HV) : Bool := v1Eq x.1 y.1 && v1Eq x.2 y.2
theorem eEq_out {x y : HV × HV} (h : eEq x y = true) : x = y := by
 unfold eEq at h
 rw [Bool.and_eq_true] at h
 exact Prod.ext (v1Eq_out h.1) (v1Eq_out h.2)
theorem beqB_out {a b : Bool} (h : (Bool.rec (!b) b a : Bool) = true) : a = b := by cases a <;> cases b <;> first | rfl | cases h
def oEq (x y : HObj) : Bool :=
 match x with
 | .cells z rows own => (match y with | .cells z' rows' own' => Nat.beq z z' && (Bool.rec (!own') own' own : Bool) && lEq (lEq v1Eq) rows rows' | _ => false)
 | .map es => (match y with | .map es' => lEq eEq es es' | _ => false)
 | _ => false
theorem oEq_out {x y : HObj} (h : oEq x y = true) : x = y := by
 unfold oEq at h
 split at h
 ·split at h
  ·rw [Bool.and_eq_true,Bool.and_eq_true] at h
   rw [Nat.eq_of_beq_eq_true h.1.1,beqB_out h.1.2,lEq_out (fun h => lEq_out v1Eq_out h) h.2]
  ·cases h
 ·split at h
  ·rw [lEq_out eEq_out h]
  ·cases h
 ·cases h
def subB (A : OL1) (n : Nat) (c : CS) : Bool := Bool.rec false (List.rec (motive := fun _ => Bool) true (fun q _ ih => Bool.rec false ih (Option.rec (motive := fun _ => Bool) false (fun o => oEq o q.2.1) (c.h.get q.1) && Nat.beq (c.mk_ q.1) q.2.2)) A) (Nat.ble c.next n)
theorem subB_out {A : OL1} {n : Nat} {c : CS} (h : subB A n c = true) : Kills c.hs (heapOf A n) := by
 unfold subB at h
 cases hn : Nat.ble c.next n with
 | false => rw [hn] at h; cases h
 | true =>
  rw [hn] at h
  replace h : (List.rec (motive := fun _ => Bool) true (fun q _ ih => Bool.rec false ih (Option.rec (motive := fun _ => Bool) false (fun o => oEq o q.2.1) (c.h.get q.1) && Nat.beq (c.mk_ q.1) q.2.2)) A : Bool) = true := h
  refine ⟨Nat.le_of_ble_eq_true hn,fun id => ?_⟩
  show ((olk A id).map (·.1)).getD .dead = .dead ∨ _
  suffices hs : olk A id = none ∨ (∃ o m,olk A id = some (o,m) ∧ c.hs.heap id = o ∧ c.hs.mrk id = m) by
   rcases hs with hs | ⟨o,m,h1,h2,h3⟩
   ·left; rw [hs]; rfl
   ·right
    refine ⟨?_,?_⟩
    ·show ((olk A id).map (·.1)).getD .dead = _
     rw [h1,h2]; rfl
    ·show ((olk A id).map (·.2)).getD 0 = _
     rw [h1,h3]; rfl
  clear hn
  induction A with
  | nil => exact .inl rfl
  | cons q A ih =>
   replace h : (Bool.rec false (List.rec (motive := fun _ => Bool) true (fun q _ ih => Bool.rec false ih (Option.rec (motive := fun _ => Bool) false (fun o => oEq o q.2.1) (c.h.get q.1) && Nat.beq (c.mk_ q.1) q.2.2)) A) (Option.rec (motive := fun _ => Bool) false (fun o => oEq o q.2.1) (c.h.get q.1) && Nat.beq (c.mk_ q.1) q.2.2) : Bool) = true := h
   cases hq : (Option.rec (motive := fun _ => Bool) false (fun o => oEq o q.2.1) (c.h.get q.1) && Nat.beq (c.mk_ q.1) q.2.2) with
   | false => rw [hq] at h; cases h
   | true =>
    rw [hq] at h
    rw [olk_cons]
    by_cases e : q.1 = id
    ·rw [if_pos e]
     right
     rw [Bool.and_eq_true] at hq
     refine ⟨q.2.1,q.2.2,rfl,?_,?_⟩
     ·have h1 := hq.1
      rw [e] at h1
      cases hg : c.h.get id with
      | none => rw [hg] at h1; cases h1
      | some o =>
       rw [hg] at h1
       show (c.h.get id).getD .dead = _
       rw [hg]
       exact oEq_out h1
     ·have h2 := Nat.eq_of_beq_eq_true hq.2
      rw [e] at h2
      exact h2
    ·rw [if_neg e]; exact ih h
structure Seg where
 args : List HV
 a : OL1
 n : Nat
 v : HV
 a' : OL1
 n' : Nat
def endB (v : HV) (A : OL1) (n : Nat) (r : Res) : Option Unit := Bool.rec (motive := fun _ => Option Unit) none (some ()) (vEq v r.1 && subB A n r.2)
def segB (P : Program) (K : Kn) (f : FuncId) (s : Seg) : Option Unit := bldC s.a s.n fun c => Option.rec (motive := fun _ => Option Unit) none (endB s.v s.a' s.n') (exec P K drawW 1000 (.fn (.func f) [] []) s.args c [])
def SegOk (P : Program) (f : FuncId) (s : Seg) : Prop := ∀ (base : Nat) (W0 : Env) (β0 : Bt),HCall P base W0 β0 f s.args (heapOf s.a s.n) (fun v S1 => v = s.v ∧ S1 = heapOf s.a' s.n')
theorem segB_ok {P : Program} {K : Kn} {f : FuncId} {s : Seg} (hK : ∀ base W,KnOk P base W K) (h : segB P K f s = some ()) : SegOk P f s := by
 intro base W0 β0
 obtain ⟨c,h1,h2⟩ := bldC_out h
 cases hr : exec P K drawW 1000 (.fn (.func f) [] []) s.args c [] with
 | none => rw [hr] at h1; cases h1
 | some r =>
  rw [hr] at h1
  replace h1 : endB s.v s.a' s.n' r = some () := h1
  unfold endB at h1
  cases hq : vEq s.v r.1 && subB s.a' s.n' r.2 with
  | false => rw [hq] at h1; cases h1
  | true =>
   rw [Bool.and_eq_true] at hq
   have hc : HCall P base W0 β0 f s.args c.hs (Is r) := run_call (n := 999) (hK base) (drawW_ok) hr
   rw [h2] at hc
   exact (hc.kill (.refl _) (subB_out hq.2)).mono fun v S1 g => ⟨g.1.trans (vEq_out hq.1).symm,g.2⟩
def segsB (P : Program) (K : Kn) (L : List (FuncId × Seg)) : Option Unit := List.rec (motive := fun _ => Option Unit) (some ()) (fun q _ ih => Option.rec (motive := fun _ => Option Unit) none (fun _ => ih) (segB P K q.1 q.2)) L
theorem segsB_ok {P : Program} {K : Kn} (hK : ∀ base W,KnOk P base W K) : ∀ {L : List (FuncId × Seg)},segsB P K L = some () → ∀ q ∈ L,SegOk P q.1 q.2 := by
 intro L
 induction L with
 | nil => intro _ q hq; cases hq
 | cons x L ih =>
  intro h q hq
  replace h : (Option.rec (motive := fun _ => Option Unit) none (fun _ => segsB P K L) (segB P K x.1 x.2) : Option Unit) = some () := h
  cases hx : segB P K x.1 x.2 with
  | none => rw [hx] at h; cases h
  | some u =>
   rw [hx] at h
   rcases List.mem_cons.1 hq with rfl | hq
   ·exact segB_ok hK hx
   ·exact ih h q hq
def segC (L : List Seg) (args : List HV) (c : CS) : Option Res :=
 List.rec (motive := fun _ => Option Res) none (fun s _ ih => Bool.rec (motive := fun _ => Option Res) ih (bldC s.a' s.n' fun c' => some (s.v,c')) (lEq vEq s.args args && subB s.a s.n c)) L
theorem segC_ok {P : Program} {base : Nat} {W0 : Env} {f : FuncId} {L : List Seg} (hL : ∀ s ∈ L,SegOk P f s) {β0 : Bt} {args : List HV} {c : CS} {out : Res} (h : segC L args c = some out) : HCall P base W0 β0 f args c.hs (fun v S1 => v = out.1 ∧ S1 = out.2.hs) := by
 induction L with
 | nil => cases h
 | cons s L ih =>
  replace h : (Bool.rec (motive := fun _ => Option Res) (segC L args c) (bldC s.a' s.n' fun c' => some (s.v,c')) (lEq vEq s.args args && subB s.a s.n c) : Option Res) = some out := h
  cases hq : lEq vEq s.args args && subB s.a s.n c with
  | false => rw [hq] at h; exact ih (fun s hs => hL s (.tail _ hs)) h
  | true =>
   rw [hq] at h
   rw [Bool.and_eq_true] at hq
   obtain ⟨c',h1,h2⟩ := bldC_out h
   cases h1
   have he : s.args = args := lEq_out vEq_out hq.1
   have := (hL s (.head _) base W0 β0).kill (subB_out hq.2) (.refl _)
   rw [he] at this
   rw [h2]
   exact this
abbrev OvT := List HV → CS → Option Res
def ovF (L : List (Nat × OvT)) (g : Nat) : Option OvT := List.rec (motive := fun _ => Option OvT) none (fun q _ ih => Bool.rec (motive := fun _ => Option OvT) ih (some q.2) (Nat.beq q.1 g)) L
def OvOk (P : Program) (g : Nat) (r : OvT) : Prop := ∀ (base : Nat) (W0 : Env) (β0 : Bt) (args : List HV) (c : CS) (out : Res),r args c = some out → HCall P base W0 β0 g args c.hs (fun v S1 => v = out.1 ∧ S1 = out.2.hs)
def OvAll (P : Program) (L : List (Nat × OvT)) : Prop := ∀ q ∈ L,OvOk P q.1 q.2
theorem OvAll.nil {P : Program} : OvAll P [] := fun q hq => by cases hq
theorem OvAll.cons {P : Program} {g : Nat} {r : OvT} {L : List (Nat × OvT)} (h : OvOk P g r) (k : OvAll P L) : OvAll P ((g,r) :: L) := fun q hq => by
 rcases List.mem_cons.1 hq with rfl | hq
 ·exact h
 ·exact k q hq
theorem ovF_ok {P : Program} : ∀ {L : List (Nat × OvT)},OvAll P L → ∀ g r,ovF L g = some r → OvOk P g r := by
 intro L
 induction L with
 | nil => intro _ g r h; cases h
 | cons q L ih =>
  intro hL g r h
  replace h : (Bool.rec (motive := fun _ => Option OvT) (ovF L g) (some q.2) (Nat.beq q.1 g) : Option OvT) = some r := h
  cases hq : Nat.beq q.1 g with
  | false => rw [hq] at h; exact ih (fun q hq => hL q (.tail _ hq)) g r h
  | true =>
   rw [hq] at h
   cases h
   rw [← Nat.eq_of_beq_eq_true hq]
   exact hL q (.head _)
theorem segC_ov {P : Program} {f : FuncId} {L : List Seg} (hL : ∀ s ∈ L,SegOk P f s) : OvOk P f (segC L) := fun _ _ _ _ _ _ h => segC_ok hL h
theorem SegOk.nil {P : Program} {f : FuncId} : ∀ s ∈ ([] : List Seg),SegOk P f s := fun s hs => by cases hs
theorem insC_ov {P : Program} {g z : Nat} (h : ∀ (base : Nat) (W0 : Env) (β0 : Bt) (x0 : Sl) (x1 : Int) (x2 : Sl) (S : HS) (p : Sl × HS),S.ins x0 x1 x2 z = some p → HCall P base W0 β0 g [x0.hv,.int .i64 x1,x2.hv] S (fun v S1 => v = p.1.hv ∧ S1 = p.2)) : OvOk P g (insC z) := by
 intro base W0 β0 args c out hr
 obtain ⟨x0,x1,x2,p,rfl,h1,h2,h3⟩ := insC_out hr
 exact (h base W0 β0 x0 x1 x2 c.hs p h1).mono fun v S1 g => ⟨g.1.trans h2.symm,g.2.trans h3.symm⟩
theorem delC_ov {P : Program} {g z : Nat} (h : ∀ (base : Nat) (W0 : Env) (β0 : Bt) (x0 : Sl) (x1 x2 : Int) (S : HS) (p : Sl × HS),S.del x0 x1 x2 z = some p → HCall P base W0 β0 g [x0.hv,.int .i64 x1,.int .i64 x2] S (fun v S1 => v = p.1.hv ∧ S1 = p.2)) : OvOk P g (delC z) := by
 intro base W0 β0 args c out hr
 obtain ⟨x0,x1,x2,p,rfl,h1,h2,h3⟩ := delC_out hr
 exact (h base W0 β0 x0 x1 x2 c.hs p h1).mono fun v S1 g => ⟨g.1.trans h2.symm,g.2.trans h3.symm⟩
end
noncomputable section
def subH (A : OL1) (n : Nat) (S : HS) : Bool := Bool.rec false (List.rec (motive := fun _ => Bool) true (fun q _ ih => Bool.rec false ih (oEq (S.heap q.1) q.2.1 && Nat.beq (S.mrk q.1) q.2.2)) A) (Nat.ble S.next n)
theorem subH_out {A : OL1} {n : Nat} {S : HS} (h : subH A n S = true) : Kills S (heapOf A n) := by
 unfold subH at h
 cases hn : Nat.ble S.next n with
 | false => rw [hn] at h; cases h
 | true =>
  rw [hn] at h
  replace h : (List.rec (motive := fun _ => Bool) true (fun q _ ih => Bool.rec false ih (oEq (S.heap q.1) q.2.1 && Nat.beq (S.mrk q.1) q.2.2)) A : Bool) = true := h
  refine ⟨Nat.le_of_ble_eq_true hn,fun id => ?_⟩
  show ((olk A id).map (·.1)).getD .dead = .dead ∨ _
  suffices hs : olk A id = none ∨ (∃ o m,olk A id = some (o,m) ∧ S.heap id = o ∧ S.mrk id = m) by
   rcases hs with hs | ⟨o,m,h1,h2,h3⟩
   ·left; rw [hs]; rfl
   ·right
    refine ⟨?_,?_⟩
    ·show ((olk A id).map (·.1)).getD .dead = _
     rw [h1,h2]; rfl
    ·show ((olk A id).map (·.2)).getD 0 = _
     rw [h1,h3]; rfl
  clear hn
  induction A with
  | nil => exact .inl rfl
  | cons q A ih =>
   replace h : (Bool.rec false (List.rec (motive := fun _ => Bool) true (fun q _ ih => Bool.rec false ih (oEq (S.heap q.1) q.2.1 && Nat.beq (S.mrk q.1) q.2.2)) A) (oEq (S.heap q.1) q.2.1 && Nat.beq (S.mrk q.1) q.2.2) : Bool) = true := h
   cases hq : (oEq (S.heap q.1) q.2.1 && Nat.beq (S.mrk q.1) q.2.2) with
   | false => rw [hq] at h; cases h
   | true =>
    rw [hq] at h
    rw [olk_cons]
    by_cases e : q.1 = id
    ·rw [if_pos e]
     right
     rw [Bool.and_eq_true] at hq
     subst e
     exact ⟨q.2.1,q.2.2,rfl,oEq_out hq.1,Nat.eq_of_beq_eq_true hq.2⟩
    ·rw [if_neg e]; exact ih h
def segH (L : List Seg) (args : List HV) (S : HS) : Option (HV × HS) :=
 List.rec (motive := fun _ => Option (HV × HS)) none (fun s _ ih => Bool.rec (motive := fun _ => Option (HV × HS)) ih (some (s.v,heapOf s.a' s.n')) (lEq vEq s.args args && subH s.a s.n S)) L
theorem segH_ok {P : Program} {base : Nat} {W0 : Env} {f : FuncId} {L : List Seg} (hL : ∀ s ∈ L,SegOk P f s) {β0 : Bt} {args : List HV} {S : HS} {out : HV × HS} (h : segH L args S = some out) : HCall P base W0 β0 f args S (fun v S1 => v = out.1 ∧ S1 = out.2) := by
 induction L with
 | nil => cases h
 | cons s L ih =>
  replace h : (Bool.rec (motive := fun _ => Option (HV × HS)) (segH L args S) (some (s.v,heapOf s.a' s.n')) (lEq vEq s.args args && subH s.a s.n S) : Option (HV × HS)) = some out := h
  cases hq : lEq vEq s.args args && subH s.a s.n S with
  | false => rw [hq] at h; exact ih (fun s hs => hL s (.tail _ hs)) h
  | true =>
   rw [hq] at h
   rw [Bool.and_eq_true] at hq
   cases h
   have he : s.args = args := lEq_out vEq_out hq.1
   have := (hL s (.head _) base W0 β0).kill (subH_out hq.2) (.refl _)
   rw [he] at this
   exact this
def sel (f : FuncId) (L : List (FuncId × Seg)) : List Seg := List.rec (motive := fun _ => List Seg) [] (fun q _ ih => Bool.rec (motive := fun _ => List Seg) ih (q.2 :: ih) (Nat.beq q.1 f)) L
theorem sel_ok {P : Program} {f : FuncId} : ∀ {L : List (FuncId × Seg)},(∀ q ∈ L,SegOk P q.1 q.2) → ∀ s ∈ sel f L,SegOk P f s := by
 intro L
 induction L with
 | nil => intro _ s hs; cases hs
 | cons q L ih =>
  intro h s hs
  replace hs : s ∈ (Bool.rec (motive := fun _ => List Seg) (sel f L) (q.2 :: sel f L) (Nat.beq q.1 f) : List Seg) := hs
  have ih' := ih (fun x hx => h x (.tail _ hx))
  cases hq : Nat.beq q.1 f with
  | false => rw [hq] at hs; exact ih' s hs
  | true =>
   rw [hq] at hs
   rcases List.mem_cons.1 hs with rfl | hs
   ·have := h q (.head _)
    rw [Nat.eq_of_beq_eq_true hq] at this
    exact this
   ·exact ih' s hs
theorem app_ok {P : Program} {A B : List (FuncId × Seg)} (h : ∀ q ∈ A,SegOk P q.1 q.2) (k : ∀ q ∈ B,SegOk P q.1 q.2) : ∀ q ∈ A ++ B,SegOk P q.1 q.2 := fun q hq => (List.mem_append.1 hq).elim (h q) (k q)
end
end Go.Proofs.YtfningkbcfhheaaGreatDoor.HL
