/- The layer HL, part 11: statements whose order is open. The layer HL, part 12: what printed functions are made of. The layer HL, part 13: more rules for printed functions. The layer HL, part 15: statements whose order is open, effects among them. The layer HL, part 15: plain laws of the abstract heap. -/
import Derived.Test.YtfningkbcfhheaaGreatDoorPart2
import Derived.Orders
set_option linter.unusedVariables false
set_option linter.unusedSimpArgs false
namespace Go.Proofs.YtfningkbcfhheaaGreatDoor.HL
open Go.RowKit (Below)
section
variable {P : Program} {base : Nat} {W0 : Env} {β0 : Bt} {f : FuncId} {ro : Option Nat} {k : List Item} {S : HS} {R : HV → HS → Prop} {ops : Array Oper}
def maskL : List HV → List Tmp → Nat → List HV
 | [],_,_ => []
 | v :: vs,ts,i => (if ts.contains i then v else .tup []) :: maskL vs ts (i + 1)
def HAct.mask (a : HAct) (ts : List Tmp) : HAct := { tmps := maskL a.tmps ts 0,defers := [] }
theorem maskL_len : ∀ (vs : List HV) (ts : List Tmp) (i : Nat),(maskL vs ts i).length = vs.length
 | [],_,_ => rfl
 | v :: vs,ts,i => by simp [maskL,maskL_len vs]
theorem maskL_get : ∀ (vs : List HV) (ts : List Tmp) (i j : Nat),(maskL vs ts i)[j]? = vs[j]?.map fun v => if ts.contains (i + j) then v else .tup []
 | [],_,_,_ => by simp [maskL]
 | v :: vs,ts,i,0 => by simp [maskL]
 | v :: vs,ts,i,j + 1 => by simp only [maskL,List.getElem?_cons_succ]; rw [maskL_get vs]; congr 2; funext x; rw [show i + 1 + j = i + (j + 1) by omega]
def maskC (a : Act) (ts : List Tmp) : Act := { tmps := a.tmps.mapIdx fun i v => if ts.contains i then v else undef,defers := [] }
theorem mask_rel {β : Bt} {a : HAct} {a' : Act} (h : ARel β a a') (ts : List Tmp) : ARel β (a.mask ts) (maskC a' ts) := by
 refine ⟨⟨by simp [HAct.mask,maskC,maskL_len,h.tmps.1],fun i v v' h1 h2 => ?_⟩,⟨rfl,fun i d d' h => by simp [HAct.mask] at h⟩⟩
 simp only [HAct.mask,maskL_get,Nat.zero_add] at h1
 simp only [maskC,Array.getElem?_mapIdx] at h2
 cases hv : a.tmps[i]? with
 | none => rw [hv] at h1; cases h1
 | some x =>
  obtain ⟨x',q1,q2⟩ := h.tmps.get hv
  rw [hv] at h1
  rw [q1] at h2
  simp only [Option.map_some,Option.some.injEq] at h1 h2
  subst h1 h2
  split
  ·exact q2
  ·exact VRel.undef β
theorem mask_eval {a : Act} {ts : List Tmp} {x : Operand} (h : ∀ t,x = .tmp t → ts.contains t = true) : (maskC a ts).eval x = a.eval x := by
 cases x with
 | tmp t =>
  have := h t rfl
  simp only [Act.eval,maskC,Array.getD_eq_getD_getElem?,Array.getElem?_mapIdx]
  cases ht : a.tmps[t]? with
  | none => rfl
  | some v => simp only [Option.map_some,this,if_true]
 | _ => rfl
theorem mask_at {a : HAct} {ts : List Tmp} {t : Tmp} {v : HV} (h : (a.mask ts).tmps[t]? = some v) (ht : ts.contains t = true) : a.tmps[t]? = some v := by
 simp only [HAct.mask,maskL_get,Nat.zero_add,ht,if_true] at h
 cases hv : a.tmps[t]? with
 | none => rw [hv] at h; cases h
 | some x => rw [hv] at h; simpa using h
theorem Ev.unmask {a : HAct} {ts : List Tmp} {x : Operand} {v : HV} (h : Ev (a.mask ts) x v) (hx : ∀ t,x = .tmp t → ts.contains t = true) : Ev a x v := by
 cases h with
 | tmp ht => exact .tmp (mask_at ht (hx _ rfl))
 | const hc => exact .const hc
 | func f => exact .func f
theorem looks_operand {o : Oper} {t : Tmp} (h : Operand.tmp t ∈ o.op.operands) : (o.looksAt ops).contains t = true := by
 simp only [List.contains_iff_mem,Oper.looksAt,List.mem_append,List.mem_filterMap]
 exact .inl ⟨.tmp t,by simpa using h,rfl⟩
theorem looks_guard {o : Oper} {g : Nat} {b : Bool} {t : Tmp} (h : o.guard = some (g,b)) (ht : (ops[g]?).bind (·.dst) = some t) : (o.looksAt ops).contains t = true := by
 simp only [List.contains_iff_mem,Oper.looksAt,List.mem_append,h,ht]
 exact .inr (by simp)
def QOk (P : Program) (base : Nat) (W0 : Env) (β0 : Bt) (o : Oper) (a : HAct) (S : HS) (v : HV) : Prop :=
 ((∀ cs b,o.op ≠ .select cs b) ∧ OpOk P base W0 o a S v S) ∨
 ∃ fx xs tys fv vs,o.op = .call ⟨.value fx,xs,tys⟩ ∧ Ev a fx fv ∧ Evs a xs vs ∧ HInv P base W0 β0 fv vs S (fun v1 S1 => v1 = v ∧ S1 = S)
def QAt (P : Program) (base : Nat) (W0 : Env) (β0 : Bt) (ops : Array Oper) (o : Oper) (a : HAct) (S : HS) (v : HV) : Prop :=
 (Wants a ops o ∧ QOk P base W0 β0 o a S v) ∨ (Skips a ops o ∧ v = .tup [])
inductive QChain (P : Program) (base : Nat) (W0 : Env) (β0 : Bt) (ops : Array Oper) (S : HS) : Nat → HAct → List HV → Nat → HAct → Prop
 | nil (i : Nat) (a : HAct) : QChain P base W0 β0 ops S i a [] i a
 | cons {i : Nat} {a : HAct} {o : Oper} {v : HV} {vs : List HV} {m : Nat} {b : HAct} (ho : ops[i]? = some o) (hq : QAt P base W0 β0 ops o (a.mask (o.looksAt ops)) S v) (h : QChain P base W0 β0 ops S (i + 1) (a.put o.dst v) vs m b) :
   QChain P base W0 β0 ops S i a (v :: vs) m b
inductive Anc (ops : Array Oper) : Nat → Nat → Prop
 | edge {i j : Nat} {o : Oper} {e : Edge} (ho : ops[j]? = some o) (he : e ∈ o.after) (hb : Region.binds .any e = true) (hi : e.on = i) : Anc ops i j
 | trans {i j l : Nat} (h : Anc ops i j) (k : Anc ops j l) : Anc ops i l
theorem before_go (L : List Oper) : ∀ (acc : Array Nat) (n : Nat),acc.size = n → (∀ j,j < n → ∀ i,(acc.getD j 0).testBit i = true → Anc ops i j) → (∀ j,L[j]? = ops[n + j]?) →
  ∀ j i,((L.foldl (fun acc o => acc.push (o.after.foldl (fun s e => if Region.binds .any e then s ||| 2 ^ e.on ||| acc.getD e.on 0 else s) 0)) acc).getD j 0).testBit i = true → Anc ops i j := by
 induction L with
 | nil =>
  intro acc n hn hacc _ j i h
  simp only [List.foldl_nil] at h
  by_cases hj : j < n
  ·exact hacc j hj i h
  ·rw [Array.getD_eq_getD_getElem?,Array.getElem?_eq_none (by omega)] at h; simp at h
 | cons o L ih =>
  intro acc n hn hacc hL j i h
  simp only [List.foldl_cons] at h
  have ho : ops[n]? = some o := by simpa using (hL 0).symm
  refine ih _ (n + 1) (by simp [hn]) (fun j hj i h => ?_) (fun j => by have := hL (j + 1); simpa [Nat.add_assoc,Nat.add_comm 1 j] using this) j i h
  by_cases hjn : j < n
  ·refine hacc j hjn i ?_
   rw [Array.getD_eq_getD_getElem?,Array.getElem?_push,if_neg (by omega)] at h
   rw [Array.getD_eq_getD_getElem?]; exact h
  ·obtain rfl : j = n := by omega
   rw [Array.getD_eq_getD_getElem?,Array.getElem?_push,if_pos hn.symm] at h
   simp only [Option.getD_some] at h
   rw [← Array.foldl_toList] at h
   have key : ∀ (es : List Edge) (s : Nat),(∀ e ∈ es,e ∈ o.after) → (∀ i,s.testBit i = true → Anc ops i j) → ∀ i,(es.foldl (fun s e => if Region.binds .any e then s ||| 2 ^ e.on ||| acc.getD e.on 0 else s) s).testBit i = true → Anc ops i j := by
    intro es
    induction es with
    | nil => intro s _ hs i h; exact hs i h
    | cons e es ihe =>
     intro s hm hs i h
     simp only [List.foldl_cons] at h
     refine ihe _ (fun e' he' => hm e' (by simp [he'])) (fun i h => ?_) i h
     split at h
     ·rename_i hb
      simp only [Nat.testBit_or,Nat.testBit_two_pow,Bool.or_eq_true,decide_eq_true_eq] at h
      rcases h with (h | h) | h
      ·exact hs i h
      ·exact .edge ho (hm e (by simp)) hb h
      ·by_cases hlt : e.on < j
       ·exact .trans (hacc e.on hlt i h) (.edge ho (hm e (by simp)) hb rfl)
       ·rw [Array.getD_eq_getD_getElem?,Array.getElem?_eq_none (by omega)] at h; simp at h
     ·exact hs i h
   exact key o.after.toList 0 (fun e he => by simpa using he) (fun i h => by simp at h) i h
theorem before_anc {i j : Nat} (h : ((Region.before ops).getD j 0).testBit i = true) : Anc ops i j := by
 unfold Region.before at h
 rw [← Array.foldl_toList] at h
 exact before_go ops.toList #[] 0 rfl (fun j hj => by omega) (fun j => by simp) j i h
def drawOk (ops : Array Oper) (m : Nat) : Bool :=
 let b := Region.before ops
 let n := ops.size
 decide (m ≤ n) &&
 (List.range n).all (fun j => match ops[j]? with | some o => o.after.all (fun e => decide (e.on < j)) | none => true) &&
 (decide (m = n) || (List.range m).all fun i => (b.getD m 0).testBit i) &&
 (List.range n).all (fun j => decide (j ≤ m) || (b.getD j 0).testBit (j - 1)) &&
 (List.range m).all fun i => (List.range m).all fun w =>
  match ops[i]?,ops[w]? with
  | some x,some y =>
   match y.dst with
   | none => true
   | some t => (decide (i = w) && !(x.looksAt ops).contains t) || (!decide (i = w) && decide (x.dst ≠ some t) && (!(x.looksAt ops).contains t || (decide (w < i) && (b.getD i 0).testBit w) || (decide (i < w) && (b.getD w 0).testBit i)))
  | _,_ => true
structure DrawOk (ops : Array Oper) (m : Nat) : Prop where
 le : m ≤ ops.size
 low : ∀ (j : Nat) (o : Oper),ops[j]? = some o → ∀ e ∈ o.after,e.on < j
 head : m < ops.size → ∀ i,i < m → Anc ops i m
 tail : ∀ j,m < j → j < ops.size → Anc ops (j - 1) j
 diff : ∀ i w x y t,i < m → w < m → ops[i]? = some x → ops[w]? = some y → y.dst = some t → i ≠ w → x.dst ≠ some t
 look : ∀ i w x y t,i < m → w < m → ops[i]? = some x → ops[w]? = some y → y.dst = some t → (x.looksAt ops).contains t = true → (w < i ∧ Anc ops w i) ∨ (i < w ∧ Anc ops i w)
theorem Anc.lt {m : Nat} (hd : DrawOk ops m) {i j : Nat} (h : Anc ops i j) : i < j := by
 induction h with
 | edge ho he hb hi => have := hd.low _ _ ho _ he; omega
 | trans _ _ h1 h2 => omega
def Closed (ops : Array Oper) (X : Nat → Prop) : Prop := ∀ j o,X j → ops[j]? = some o → ∀ e ∈ o.after,Region.binds .any e = true → X e.on
theorem Closed.anc {X : Nat → Prop} (h : Closed ops X) {i j : Nat} (ha : Anc ops i j) : X j → X i := by
 induction ha with
 | edge ho he hb hi => intro hj; have := h _ _ hj ho _ he hb; rw [hi] at this; exact this
 | trans _ _ h1 h2 => intro hl; exact h1 (h2 hl)
structure Agrees (ops : Array Oper) (a0 : HAct) (val : Nat → HV) (m : Nat) (X : Nat → Prop) (B : HAct) : Prop where
 len : B.tmps.length = a0.tmps.length
 defers : B.defers = a0.defers
 made : ∀ i o t,i < m → X i → ops[i]? = some o → o.dst = some t → B.tmps[t]? = (a0.tmps.set t (val i))[t]?
 rest : ∀ t,(∀ i o,i < m → X i → ops[i]? = some o → o.dst ≠ some t) → B.tmps[t]? = a0.tmps[t]?
theorem Agrees.step {a0 : HAct} {val : Nat → HV} {m : Nat} {X : Nat → Prop} {B : HAct} (hd : DrawOk ops m) (h : Agrees ops a0 val m X B) {i : Nat} {o : Oper} (him : i < m) (ho : ops[i]? = some o) (hX : ¬ X i) :
  Agrees ops a0 val m (fun j => X j ∨ j = i) (B.put o.dst (val i)) := by
 cases hdst : o.dst with
 | none =>
  refine ⟨h.len,h.defers,fun j x t hj hXj hx ht => ?_,fun t ht => h.rest t fun j x hj hXj hx => ht j x hj (.inl hXj) hx⟩
  rcases hXj with hXj | rfl
  ·exact h.made j x t hj hXj hx ht
  ·rw [ho] at hx; cases hx; rw [hdst] at ht; cases ht
 | some d =>
  refine ⟨by simp [HAct.put,h.len],h.defers,fun j x t hj hXj hx ht => ?_,fun t ht => ?_⟩
  ·rcases hXj with hXj | rfl
   ·have hne : j ≠ i := fun e => hX (e ▸ hXj)
    have hdt : d ≠ t := fun e => hd.diff i j o x t him hj ho hx ht (fun e => hne e.symm) (by rw [hdst,e])
    simp only [HAct.put]
    rw [List.getElem?_set_ne hdt]
    exact h.made j x t hj hXj hx ht
   ·rw [ho] at hx; cases hx
    rw [hdst] at ht; cases ht
    simp only [HAct.put,List.getElem?_set,h.len,if_true]
  ·have hdt : d ≠ t := fun e => ht i o him (.inr rfl) ho (by rw [hdst,e])
   simp only [HAct.put]
   rw [List.getElem?_set_ne hdt]
   exact h.rest t fun j x hj hXj hx => ht j x hj (.inl hXj) hx
theorem Agrees.congr {a0 : HAct} {val : Nat → HV} {m : Nat} {X Y : Nat → Prop} {B C : HAct} (h : Agrees ops a0 val m X B) (k : Agrees ops a0 val m Y C) {t : Tmp} (ht : ∀ i o,i < m → ops[i]? = some o → o.dst = some t → (X i ↔ Y i)) :
  B.tmps[t]? = C.tmps[t]? := by
 by_cases hw : ∃ i o,i < m ∧ X i ∧ ops[i]? = some o ∧ o.dst = some t
 ·obtain ⟨i,o,h1,h2,h3,h4⟩ := hw
  rw [h.made i o t h1 h2 h3 h4,k.made i o t h1 ((ht i o h1 h3 h4).1 h2) h3 h4]
 ·rw [h.rest t fun i o h1 h2 h3 h4 => hw ⟨i,o,h1,h2,h3,h4⟩,k.rest t fun i o h1 h2 h3 h4 => hw ⟨i,o,h1,(ht i o h1 h3 h4).2 h2,h3,h4⟩]
theorem mask_congr {B C : HAct} {ts : List Tmp} (hl : B.tmps.length = C.tmps.length) (h : ∀ t,ts.contains t = true → B.tmps[t]? = C.tmps[t]?) : B.mask ts = C.mask ts := by
 unfold HAct.mask
 congr 1
 apply List.ext_getElem?
 intro j
 rw [maskL_get,maskL_get,Nat.zero_add]
 by_cases hj : ts.contains j = true
 ·rw [h j hj]
 ·simp only [Bool.not_eq_true] at hj
  simp only [hj]
  by_cases hlt : j < B.tmps.length
  ·rw [List.getElem?_eq_getElem hlt,List.getElem?_eq_getElem (hl ▸ hlt)]; rfl
  ·rw [List.getElem?_eq_none (by omega),List.getElem?_eq_none (by omega)]
theorem QChain.spell {a : HAct} {vs : List HV} {m : Nat} {b : HAct} {i0 : Nat} (h : QChain P base W0 β0 ops S i0 a vs m b) : ∀ (a0 : HAct) (val : Nat → HV),(∀ j,i0 ≤ j → j < m → val j = vs.getD (j - i0) (.tup [])) → DrawOk ops m → i0 ≤ m ∧ (Agrees ops a0 val m (fun j => j < i0) a →
  (∀ j o,i0 ≤ j → j < m → ops[j]? = some o → ∃ A,Agrees ops a0 val m (fun l => l < j) A ∧ QAt P base W0 β0 ops o (A.mask (o.looksAt ops)) S (val j)) ∧ Agrees ops a0 val m (fun l => l < m) b) := by
 induction h with
 | nil i a => intro a0 val _ _; exact ⟨Nat.le_refl _,fun h => ⟨fun j o h1 h2 => by omega,h⟩⟩
 | @cons i a o v vs m b ho hq h ih =>
  intro a0 val hval hd
  obtain ⟨g1,g2⟩ := ih a0 val (fun j h1 h2 => by rw [hval j (by omega) h2,show j - i = (j - (i + 1)) + 1 by omega]; rfl) hd
  refine ⟨by omega,fun hA => ?_⟩
  have hv : val i = v := by rw [hval i (Nat.le_refl _) (by omega)]; simp
  have hst := hA.step hd (i := i) (by omega) ho (by omega)
  have heq : (fun j => j < i ∨ j = i) = (fun j => j < i + 1) := by funext j; simp only [eq_iff_iff]; omega
  rw [heq,hv] at hst
  obtain ⟨k1,k2⟩ := g2 hst
  refine ⟨fun j o' h1 h2 h3 => ?_,k2⟩
  by_cases e : j = i
  ·subst e
   rw [ho] at h3; cases h3
   exact ⟨a,hA,by rw [hv]; exact hq⟩
  ·exact k1 j o' (by omega) h2 h3
theorem Agrees.eq {a0 : HAct} {val : Nat → HV} {m : Nat} {X Y : Nat → Prop} {B C : HAct} (h : Agrees ops a0 val m X B) (k : Agrees ops a0 val m Y C) (hXY : ∀ i,i < m → (X i ↔ Y i)) : B = C := by
 obtain ⟨bt,bd⟩ := B
 obtain ⟨ct,cd⟩ := C
 have e1 : bt = ct := by
  apply List.ext_getElem?
  intro t
  exact h.congr k (t := t) fun i o h1 _ _ => hXY i h1
 have e2 : bd = cd := h.defers.trans k.defers.symm
 subst e1 e2
 rfl
theorem binds_any {md : Region.Mode} {e : Edge} (h : Region.binds .any e = true) : Region.binds md e = true := by
 unfold Region.binds at h ⊢
 split <;> simp_all
theorem mem_ready {md : Region.Mode} {listed : Array Bool} {i : Nat} (h : i ∈ Region.ready md ops listed) : i < ops.size ∧ listed.getD i true = false ∧ ∀ o,ops[i]? = some o → ∀ e ∈ o.after,Region.binds .any e = true → listed.getD e.on false = true := by
 unfold Region.ready at h
 simp only [List.mem_filter,List.mem_range,Bool.and_eq_true,Bool.not_eq_true'] at h
 obtain ⟨h1,h2,h3⟩ := h
 refine ⟨h1,h2,fun o ho e he hb => ?_⟩
 rw [ho] at h3
 simp only [Option.map_some,Option.getD_some,Array.all_eq_true',Bool.or_eq_true,Bool.not_eq_true'] at h3
 rcases h3 e he with h | h
 ·rw [binds_any hb] at h; cases h
 ·exact h
theorem go_cons {md : Region.Mode} {listed : Array Bool} {fuel t : Nat} : Region.linearise.go md ops (fuel + 1) t listed [] =
  match (Region.ready md ops listed)[t % (Region.ready md ops listed).length]? with
  | some i => i :: Region.linearise.go md ops fuel (t / (Region.ready md ops listed).length) (listed.setIfInBounds i true) []
  | none => [] := by
 simp only [Region.linearise.go]
 change (match (Region.ready md ops listed)[t % (Region.ready md ops listed).length]? with
  | some i => Region.linearise.go md ops fuel (t / (Region.ready md ops listed).length) (listed.setIfInBounds i true) [i]
  | none => [].reverse) = _
 cases (Region.ready md ops listed)[t % (Region.ready md ops listed).length]? with
 | none => rfl
 | some i => simp only []; rw [linearise_go_acc]; rfl
end
def letv {α β : Type} (x : α) (f : α → β) : β := f x
theorem leto {α β : Type} {x : α} {f : α → β} {r : β} (h : letv x f = r) : ∃ y,y = x ∧ f y = r := ⟨x,rfl,h⟩
theorem ifc {α : Type} {c : Prop} [Decidable c] {x y : α} {r : α} (h : (if c then x else y) = r) : (c ∧ x = r) ∨ (¬ c ∧ y = r) := by
 split at h
 ·rename_i hc; exact .inl ⟨hc,h⟩
 ·rename_i hc; exact .inr ⟨hc,h⟩
theorem bfalse {b : Bool} (h : ¬ b = true) : b = false := by cases b <;> simp_all
abbrev HA.fld (a : HA) (j : Nat) : HA := ⟨a.id,a.i,a.j + j⟩
abbrev HA.cell0 (id : Nat) : HA := ⟨id,0,0⟩
def HS.ldI (S : HS) (k : IntKind) (ad : HA) : Option Int := (S.get ad).bind (dI k)
def HS.ldB (S : HS) (ad : HA) : Option Bool := (S.get ad).bind dB
def HS.ldS (S : HS) (ad : HA) : Option (List UInt8) := (S.get ad).bind dS
def HS.ldP (S : HS) (ad : HA) : Option (Option HA) := (S.get ad).bind dP
def HS.ldSl (S : HS) (ad : HA) : Option Sl := (S.get ad).bind dSl
def sat (s : List UInt8) (n : Int) : Option UInt8 := if 0 ≤ n then s[n.toNat]? else none
abbrev mn (m n : Int) : Int := if n < m then n else m
abbrev mx (m n : Int) : Int := if n > m then n else m
abbrev iand (k : IntKind) (m n : Int) : Int := k.wrap (BitVec.ofInt k.bits m &&& BitVec.ofInt k.bits n).toNat
abbrev ior (k : IntKind) (m n : Int) : Int := k.wrap (BitVec.ofInt k.bits m ||| BitVec.ofInt k.bits n).toNat
def GetsAt (S : HS) (ad : HA) : Nat → List HV → Prop
 | _,[] => True
 | j,v :: vs => S.get (ad.fld j) = some v ∧ GetsAt S ad (j + 1) vs
section
variable {P : Program} {base : Nat} {W0 : Env} {a : HAct} {S : HS} {o : Oper}
theorem ldI_out {k : IntKind} {ad : HA} {n : Int} (h : S.ldI k ad = some n) : S.get ad = some (.int k n) := by
 obtain ⟨v,h1,h2⟩ := bindo h; rw [h1,dI_out h2]
theorem ldB_out {ad : HA} {n : Bool} (h : S.ldB ad = some n) : S.get ad = some (.bool n) := by
 obtain ⟨v,h1,h2⟩ := bindo h; rw [h1,dB_out h2]
theorem ldS_out {ad : HA} {n : List UInt8} (h : S.ldS ad = some n) : S.get ad = some (.str n) := by
 obtain ⟨v,h1,h2⟩ := bindo h; rw [h1,dS_out h2]
theorem ldP_out {ad : HA} {n : Option HA} (h : S.ldP ad = some n) : S.get ad = some (.ptr n) := by
 obtain ⟨v,h1,h2⟩ := bindo h; rw [h1,dP_out h2]
theorem ldSl_out {ad : HA} {n : Sl} (h : S.ldSl ad = some n) : S.get ad = some n.hv := by
 obtain ⟨v,h1,h2⟩ := bindo h; rw [h1,dSl_out h2]
theorem sat_out {s : List UInt8} {n : Int} {b : UInt8} (h : sat s n = some b) : 0 ≤ n ∧ s[n.toNat]? = some b := by
 unfold sat at h; split at h
 ·rename_i hn; exact ⟨hn,h⟩
 ·cases h
theorem gets_of {ad : HA} {vs : List HV} (h : GetsAt S ad 0 vs) (hne : 0 < vs.length) : S.gets ad vs.length = some vs := by
 have key : ∀ (vs : List HV) (j : Nat),GetsAt S ad j vs → ∀ i v,vs[i]? = some v → S.get (ad.fld (j + i)) = some v := by
  intro vs
  induction vs with
  | nil => intro j _ i v hv; simp at hv
  | cons x vs ih =>
   intro j hg i v hv
   cases i with
   | zero => simp at hv; subst hv; exact hg.1
   | succ i => rw [show j + (i + 1) = j + 1 + i by omega]; exact ih (j + 1) hg.2 i v (by simpa using hv)
 have hk := key vs 0 h
 cases vs with
 | nil => simp at hne
 | cons v0 vs' =>
  have h0 := hk 0 v0 rfl
  simp only [HS.get,Nat.add_zero] at h0
  unfold HS.gets
  cases hr : S.row ad.id ad.i with
  | none => simp [hr] at h0
  | some r =>
   have hall : ∀ i v,(v0 :: vs')[i]? = some v → r[ad.j + i]? = some v := by
    intro i v hv
    have := hk i v hv
    simp only [HS.get,hr,Option.bind_some,Nat.zero_add] at this
    exact this
   have hlast := hall vs'.length ((v0 :: vs')[vs'.length]'(by simp)) (by rw [List.getElem?_eq_getElem])
   have hlt : ad.j + vs'.length < r.length := (List.getElem?_eq_some_iff.1 hlast).1
   simp only [Option.bind_some]
   rw [if_pos (by simp; omega)]
   congr 1
   apply List.ext_getElem?
   intro i
   rw [List.getElem?_take]
   by_cases hi : i < (v0 :: vs').length
   ·rw [if_pos hi,List.getElem?_drop,hall i _ (List.getElem?_eq_getElem hi),List.getElem?_eq_getElem hi]
   ·rw [if_neg hi,List.getElem?_eq_none (by omega)]
theorem ok_pick_tt {c x y : Operand} {v : HV} {b : Bool} (ho : o.op = .pick c x y) (hc : Ev a c (.bool b)) (hb : b = true) (hx : Ev a x v) : OpOk P base W0 o a S v S := ok_pick_t ho (hb ▸ hc) hx
theorem ok_pick_ff {c x y : Operand} {v : HV} {b : Bool} (ho : o.op = .pick c x y) (hc : Ev a c (.bool b)) (hb : b = false) (hx : Ev a y v) : OpOk P base W0 o a S v S := ok_pick_f ho (hb ▸ hc) hx
theorem ok_nilCheck_p {x : Operand} {e : Option HA} {q : HA} (ho : o.op = .nilCheck x) (hx : Ev a x (.ptr e)) (he : e = some q) : OpOk P base W0 o a S (.ptr (some q)) S := by
 subst he; exact ok_nilCheck ho hx ⟨q,.inl rfl⟩
theorem ok_load_s {t : TypeId} {x : Operand} {e : Option HA} {ad : HA} {v : HV} (ho : o.op = .load t x) (ht : Scalar P t) (hx : Ev a x (.ptr e)) (he : e = some ad) (hv : S.get ad = some v) : OpOk P base W0 o a S v S := by
 subst he; exact ok_load ho ht hx hv
theorem ok_load_a {t : TypeId} {x : Operand} {e : Option HA} {ad : HA} {vs : List HV} (ho : o.op = .load t x) (ht : IsAgg P t vs.length) (hx : Ev a x (.ptr e)) (he : e = some ad) (hv : GetsAt S ad 0 vs) (hn : 0 < vs.length) : OpOk P base W0 o a S (.agg vs) S := by
 subst he; exact ok_load_agg ho ht hx (gets_of hv hn)
theorem ok_store_s {t : TypeId} {x y : Operand} {e : Option HA} {ad : HA} {v : HV} {S' : HS} (ho : o.op = .store t x y) (ht : ∃ i,P.info? t = some i ∧ i.size = v.cells.length) (hx : Ev a x (.ptr e)) (he : e = some ad) (hy : Ev a y v) (hf : v.cells.all (·.flat) = true)
  (hv : S.sets ad v.cells = some S') : OpOk P base W0 o a S (.tup []) S' := by
 subst he; exact ok_store ho ht hx hy rfl (fun u hu => List.all_eq_true.1 hf u hu) hv
theorem ok_fieldAddr_s {s : TypeId} {x : Operand} {f off u n : Nat} {e : Option HA} {ad : HA} (ho : o.op = .fieldAddr s x f) (hfi : fieldInfo P s f = some (off,u,n)) (hn : n ≠ 0) (hx : Ev a x (.ptr e)) (he : e = some ad) : OpOk P base W0 o a S (.ptr (some (ad.fld off))) S := by
 subst he; exact ok_fieldAddr ho hfi hn hx
theorem ok_alloc_s {t : TypeId} {zv : Value} {r : List HV} (ho : o.op = .alloc t) (ht : (P.info? t).map (·.zero) = some (some zv)) (hz : ∀ β,VRels β r zv.cells) (hr : 0 < r.length) (hf : r.all (·.flat) = true) :
  OpOk P base W0 o a S (.ptr (some (.cell0 S.next))) (S.new (.cells r.length [r] true)) := ok_alloc ho ht hz hr (fun v hv => List.all_eq_true.1 hf v hv)
theorem ok_box_s {t : TypeId} {x : Operand} {v : HV} (ho : o.op = .box t x) (hx : Ev a x v) (hr : 0 < v.cells.length) (hf : v.cells.all (·.flat) = true) :
  OpOk P base W0 o a S (.ptr (some (.cell0 S.next))) (S.new (.cells v.cells.length [v.cells] true)) := ok_box ho hx hr (fun u hu => List.all_eq_true.1 hf u hu)
theorem ok_buildSlice_s {t e z : Nat} {zr : List HV} (he : ElemAt P t e z zr) {n : Nat} {parts : Array (Nat × Operand)} {xs : List Operand} {vs : List HV} {p : Sl × HS} (ho : o.op = .buildSlice t n parts) (hp : parts.toList = xs.zipIdx.map fun p => (p.2,p.1)) (hn : xs.length = n) (hsm : n * z ≤ 65536)
  (hx : Evs a xs.toArray vs) (hz : vs.all (fun v => v.cells.length == z) = true) (hf : vs.all (fun v => v.cells.all (·.flat)) = true) (hq : p = S.lit (vs.map HV.cells) z) :
  OpOk P base W0 o a S p.1.hv p.2 := by
 subst hq
 exact ok_buildSlice he ho hp hn hsm hx (fun v hv => by simpa using List.all_eq_true.1 hz v hv) (fun v hv u hu => List.all_eq_true.1 (List.all_eq_true.1 hf v hv) u hu)
theorem ok_ofStr_s {src dst e : TypeId} {x : Operand} {s : List UInt8} {p : Sl × HS} (ho : o.op = .convert src dst x) (hs : P.underlying src = some .string) (hd : P.underlying dst = some (.slice e)) (he : P.underlying e = some (.int .u8)) (hx : Ev a x (.str s)) (hq : p = S.ofStr s) :
  OpOk P base W0 o a S p.1.hv p.2 := by
 subst hq; exact ok_bytes_of_str ho hs hd he hx
theorem ok_index_s {t : TypeId} {x y : Operand} {s : List UInt8} {k : IntKind} {n : Int} {b : UInt8} (ho : o.op = .index t x y) (ht : P.underlying t = some .string) (hx : Ev a x (.str s)) (hy : Ev a y (.int k n)) (hb : sat s n = some b) : OpOk P base W0 o a S (.int .u8 b.toNat) S :=
 ok_index ho ht hx hy (sat_out hb).1 (sat_out hb).2
end
section
variable {P : Program} {base : Nat} {W0 : Env} {β0 : Bt} {f : FuncId} {ro : Option Nat} {k : List Item} {R : HV → HS → Prop} {ops : Array Oper} {S : HS} {i : Nat} {a : HAct} {v : HV}
def DrawGo (P : Program) (base : Nat) (W0 : Env) (β0 : Bt) (f : FuncId) (ro : Option Nat) (k : List Item) (ops : Array Oper) (i : Nat) (a : HAct) (S : HS) (R : HV → HS → Prop) : Prop :=
 ∃ vs m b,QChain P base W0 β0 ops S i a vs m b ∧ drawOk ops m = true ∧ ∃ is,List.range' m (ops.size - m) = is ∧ HRun P base W0 β0 f ro (.inRegion ops is :: k) b S R
theorem DrawGo.cons {o : Oper} (ho : ops[i]? = some o) (hq : QAt P base W0 β0 ops o (a.mask (o.looksAt ops)) S v) (h : DrawGo P base W0 β0 f ro k ops (i + 1) (a.put o.dst v) S R) : DrawGo P base W0 β0 f ro k ops i a S R :=
 let ⟨vs,m,b,h1,h2⟩ := h
 ⟨v :: vs,m,b,.cons ho hq h1,h2⟩
end
theorem isAgg_mk2 {P : Program} {t n : Nat} (h1 : (match P.underlying t with | some (.struct _) => true | some (.array _ _) => true | _ => false) = true) (h2 : (P.info? t).map (·.size) = some n) : IsAgg P t n := by
 refine ⟨?_,size_mk' h2⟩
 cases h : P.underlying t with
 | none => rw [h] at h1; cases h1
 | some d => rw [h] at h1; cases d <;> simp at h1 <;> exact ⟨_,rfl,trivial⟩
def structPlaces (P : Program) (t : TypeId) : Option (List (Nat × Nat)) :=
 match P.underlying t with
 | some (.struct fs) => fs.toList.mapM fun f => (P.info? f.type).map fun i => (f.offset,i.size)
 | _ => none
theorem structAt_mk {P : Program} {t : Nat} {pl : List (Nat × Nat)} {zr : List HV} {zv : Value} (h1 : structPlaces P t = some pl) (h2 : (P.info? t).map (·.zero) = some (some zv)) (h3 : ∀ β,VRels β zr zv.cells) : StructAt P t pl zr := by
 unfold structPlaces at h1
 split at h1
 ·rename_i fs hfs
  refine ⟨⟨fs,hfs,fun w => ?_⟩,?_⟩
  ·have key : ∀ (l : List Field) (pl : List (Nat × Nat)),(l.mapM fun f => (P.info? f.type).map fun i => (f.offset,i.size)) = some pl → (l.mapM (m := Sem) fun f => do pure (f.offset,← sizeOf f.type)).run P w = .ok pl w := by
    intro l
    induction l with
    | nil => intro pl h; simp at h; subst h; simp
    | cons f l ih =>
     intro pl h
     simp only [List.mapM_cons] at h
     cases hi : P.info? f.type with
     | none => rw [hi] at h; cases h
     | some i =>
      rw [hi] at h
      simp only [Option.map_some,Option.bind_eq_bind,Option.bind_some] at h
      cases hl : l.mapM fun f => (P.info? f.type).map fun i => (f.offset,i.size) with
      | none => rw [hl] at h; cases h
      | some pl' =>
       rw [hl] at h
       simp at h
       subst h
       have := ih pl' hl
       simp only [List.mapM_cons,Sem.run_bind,Go.sizeOf,typeInfo,run_program,Result.andThen_ok,hi,Sem.run_pure] at this ⊢
       rw [this]
       rfl
   rw [← Array.toArray_toList (xs := fs),List.mapM_toArray]
   simp only [Sem.run_map,key fs.toList pl h1,Result.andThen_ok]
  ·cases hi : P.info? t with
   | none => rw [hi] at h2; cases h2
   | some q => rw [hi] at h2; exact ⟨q,zv,rfl,by simpa using h2,h3⟩
 ·cases h1
section
variable {P : Program} {base : Nat} {W0 : Env} {β0 : Bt} {f : FuncId} {ro : Option Nat} {k : List Item} {a : HAct} {S : HS} {R : HV → HS → Prop} {o : Oper}
theorem hr_scope {c : Code} (h : HRun P base W0 β0 f ro (.code c :: .inScope c :: k) a S R) : HRun P base W0 β0 f ro (.code (.scope c) :: k) a S R := h.calm fun _ _ _ _ => step_lone_go (by simp [stepG,stepG.exec,Frame.atR])
theorem hr_inScope {c : Code} (h : HRun P base W0 β0 f ro k a S R) : HRun P base W0 β0 f ro (.inScope c :: k) a S R := h.calm fun _ _ _ _ => step_lone_go (by simp [stepG,stepG.exec,Frame.atR])
theorem ok_alloc_e {t : TypeId} {zv : Value} {r : List HV} {S' : HS} (ho : o.op = .alloc t) (ht : (P.info? t).map (·.zero) = some (some zv)) (hz : ∀ β,VRels β r zv.cells) (hr : 0 < r.length) (hf : r.all (·.flat) = true) (hq : S' = S.new (.cells r.length [r] true)) :
  OpOk P base W0 o a S (.ptr (some (.cell0 S.next))) S' := hq ▸ ok_alloc_s ho ht hz hr hf
theorem ok_box_e {t : TypeId} {x : Operand} {v : HV} {S' : HS} (ho : o.op = .box t x) (hx : Ev a x v) (hr : 0 < v.cells.length) (hf : v.cells.all (·.flat) = true) (hq : S' = S.new (.cells v.cells.length [v.cells] true)) :
  OpOk P base W0 o a S (.ptr (some (.cell0 S.next))) S' := hq ▸ ok_box_s ho hx hr hf
theorem gets_run {β : Bt} {w : World} (h : Rel base W0 β S w) {t : TypeId} {ad : HA} {vs : List HV} {n : Nat} (ht : IsAgg P t n) (hn : n = vs.length) (hv : GetsAt S ad 0 vs) (h0 : 0 < vs.length) {a' : Value} (hp : VRel β (.ptr (some ad)) a') :
  ∃ v' ad',a' = .pointer (some ad') ∧ (loadVar t ad').run P w = .ok v' w ∧ VRel β (.agg vs) v' := by
 have hg := gets_of hv h0
 subst hn
 unfold HS.gets at hg
 cases hr : S.row ad.id ad.i with
 | none => rw [hr] at hg; cases hg
 | some r =>
  rw [hr,Option.bind_some] at hg
  split at hg
  ·rename_i hle
   injection hg with hg
   obtain ⟨b,o1,z,n1,tot,arr,ty,fr,q1,q2,q3,q4,q5,q6⟩ := h.row hr
   have e := ptr_unique hp (VRel.ptr (i := ad.i) (j := ad.j) q1)
   refine ⟨.agg (arr.extract (o1 + ad.i * z + ad.j) (o1 + ad.i * z + ad.j + vs.length)),_,e,?_,.agg ?_ ?_⟩
   ·have := run_loadCells (P := P) (o := o1 + ad.i * z + ad.j) q2 vs.length 0 #[] (by omega)
    simp only [Nat.add_zero,Array.empty_append] at this
    simp [loadVar,ht.isAgg,ht.size,loadCells,this]
   ·simp; omega
   ·intro i v v' k1 k2
    rw [← hg,List.getElem?_take] at k1
    split at k1
    ·rw [List.getElem?_drop] at k1
     obtain ⟨_,v2,m1,m2⟩ := q6 _ _ k1
     rw [Array.getElem?_extract] at k2
     split at k2
     ·rw [show o1 + ad.i * z + ad.j + i = o1 + ad.i * z + (ad.j + i) by omega,m1] at k2
      cases k2; exact m2
     ·cases k2
    ·cases k1
  ·cases hg
inductive ResAt (P : Program) (a : HAct) (S : HS) : ResultVar → HV → Prop
 | tmp {t : Tmp} {v : HV} (h : a.tmps[t]? = some v) : ResAt P a S (.tmp t) v
 | cell {x : Tmp} {t : TypeId} {e : Option HA} {ad : HA} {v : HV} (h : a.tmps[x]? = some (.ptr e)) (he : e = some ad) (ht : Scalar P t) (hv : S.get ad = some v) : ResAt P a S (.cell x t) v
 | agg {x : Tmp} {t : TypeId} {e : Option HA} {ad : HA} {vs : List HV} (h : a.tmps[x]? = some (.ptr e)) (he : e = some ad) (ht : IsAgg P t vs.length) (hv : GetsAt S ad 0 vs) (h0 : 0 < vs.length) : ResAt P a S (.cell x t) (.agg vs)
theorem ResAt.run {β : Bt} {w : World} {a' : Act} (hS : Rel base W0 β S w) (ha : ARel β a a') {r : ResultVar} {v : HV} (h : ResAt P a S r v) :
  ∃ v',Sem.run P (match r with | .tmp t => pure (a'.tmps.getD t undef) | .cell x t => do loadVar t (← asAddr (a'.tmps.getD x undef))) w = .ok v' w ∧ VRel β v v' := by
 cases h with
 | tmp h =>
  obtain ⟨v',g1,g2⟩ := ha.tmps.get h
  exact ⟨v',by simp [Array.getD_eq_getD_getElem?,g1],g2⟩
 | @cell x t e ad _ h he ht hv =>
  subst he
  obtain ⟨p',g1,g2⟩ := ha.tmps.get h
  obtain ⟨b,off,v',k1,k2,k3⟩ := hS.get hv
  have e := ptr_unique g2 k1
  subst e
  exact ⟨v',by simp [Array.getD_eq_getD_getElem?,g1,asAddr,loadVar,ht.isAgg,k2],k3⟩
 | @agg x t e ad vs h he ht hv h0 =>
  subst he
  obtain ⟨p',g1,g2⟩ := ha.tmps.get h
  obtain ⟨v',ad',e,k2,k3⟩ := gets_run hS ht rfl hv h0 g2
  subst e
  exact ⟨v',by simp [Array.getD_eq_getD_getElem?,g1,asAddr,k2],k3⟩
theorem resL1 {fn : Func} {r : ResultVar} {v : HV} (h : fn.results = #[r]) (hr : ResAt P a S r v) : ResOk P base W0 fn a S v := by
 intro β w a' hS ha
 obtain ⟨v',g1,g2⟩ := hr.run hS ha
 refine ⟨v',?_,g2⟩
 unfold results
 rw [h]
 cases r <;> simp_all
def resF (tmps : Array Value) : ResultVar → Sem Value
 | .tmp t => pure (tmps.getD t undef)
 | .cell x t => do loadVar t (← asAddr (tmps.getD x undef))
theorem ResAt.runF {β : Bt} {w : World} {a' : Act} (hS : Rel base W0 β S w) (ha : ARel β a a') {r : ResultVar} {v : HV} (h : ResAt P a S r v) : ∃ v',(resF a'.tmps r).run P w = .ok v' w ∧ VRel β v v' := by
 obtain ⟨v',g1,g2⟩ := h.run hS ha
 cases r with
 | tmp t => exact ⟨v',g1,g2⟩
 | cell x t => exact ⟨v',g1,g2⟩
inductive ResAts (P : Program) (a : HAct) (S : HS) : List ResultVar → List HV → Prop
 | nil : ResAts P a S [] []
 | cons {r : ResultVar} {v : HV} {rs : List ResultVar} {vs : List HV} (h : ResAt P a S r v) (k : ResAts P a S rs vs) : ResAts P a S (r :: rs) (v :: vs)
theorem resL_run {β : Bt} {w : World} {a' : Act} (hS : Rel base W0 β S w) (ha : ARel β a a') {rs : List ResultVar} {vs : List HV} (h : ResAts P a S rs vs) :
  ∃ vs' : List Value,(rs.mapM (resF a'.tmps)).run P w = .ok vs' w ∧ VRels β vs vs'.toArray := by
 induction h with
 | nil => exact ⟨[],by simp,VRels.nil β⟩
 | @cons r v rs vs h k ih =>
  obtain ⟨v',g1,g2⟩ := h.runF hS ha
  obtain ⟨vs',g3,g4⟩ := ih
  exact ⟨v' :: vs',by simp [List.mapM_cons,Sem.run_bind,g1,g3],VRels.cons g2 g4⟩
theorem resL {fn : Func} {rs : List ResultVar} {vs : List HV} (h : fn.results = rs.toArray) (hr : ResAts P a S rs vs) (hn : vs.length ≠ 1) : ResOk P base W0 fn a S (.tup vs) := by
 intro β w a' hS ha
 obtain ⟨vs',g1,g2⟩ := resL_run hS ha hr
 have hl : vs'.length ≠ 1 := by have := g2.1; simp at this; omega
 refine ⟨.tuple vs'.toArray,?_,VRels.tup g2⟩
 have e : results fn a'.tmps = (do let vs ← rs.toArray.mapM (resF a'.tmps); pure (if h : vs.size = 1 then vs[0] else .tuple vs)) := by
  unfold results
  rw [h]
  congr 1
 rw [e,List.mapM_toArray]
 simp only [Sem.run_bind,Sem.run_map,g1,Result.andThen_ok,Sem.run_pure]
 simp [hl]
end
end Go.Proofs.YtfningkbcfhheaaGreatDoor.HL
namespace Go.Proofs.YtfningkbcfhheaaGreatDoor.HL
set_option linter.unusedVariables false
open Go.RowKit (Below)
section
variable {P : Program} {base : Nat} {W0 : Env} {β0 : Bt} {f : FuncId} {ro : Option Nat} {k : List Item} {R : HV → HS → Prop} {ops : Array Oper}
def QOk2 (P : Program) (base : Nat) (W0 : Env) (β0 : Bt) (o : Oper) (a : HAct) (S : HS) (v : HV) (S' : HS) : Prop :=
 ((∀ cs b,o.op ≠ .select cs b) ∧ OpOk P base W0 o a S v S') ∨
 ∃ fx xs tys fv vs,o.op = .call ⟨.value fx,xs,tys⟩ ∧ Ev a fx fv ∧ Evs a xs vs ∧ HInv P base W0 β0 fv vs S (fun v1 S1 => v1 = v ∧ S1 = S')
def QAt2 (P : Program) (base : Nat) (W0 : Env) (β0 : Bt) (ops : Array Oper) (o : Oper) (a : HAct) (S : HS) (v : HV) (S' : HS) : Prop :=
 (Wants a ops o ∧ QOk2 P base W0 β0 o a S v S') ∨ (Skips a ops o ∧ v = .tup [] ∧ S' = S)
theorem hr_quiet2 {B : HAct} {i : Nat} {rest : List Nat} {o : Oper} {v : HV} {S S' : HS} (ho : ops[i]? = some o) (hq : QAt2 P base W0 β0 ops o (B.mask (o.looksAt ops)) S v S')
  (h : HRun P base W0 β0 f ro (.inRegion ops rest :: k) (B.put o.dst v) S' R) : HRun P base W0 β0 f ro (.inRegion ops (i :: rest) :: k) B S R := by
 have hgd : ∀ g b,o.guard = some (g,b) → ∀ t,(ops[g]?).bind (·.dst) = some t → (o.looksAt ops).contains t = true := fun g b h1 t h2 => looks_guard h1 h2
 rcases hq with ⟨hw,hq⟩ | ⟨hs,rfl,rfl⟩
 ·have hw' : Wants B ops o := by
   unfold Wants at hw ⊢
   cases hg : o.guard with
   | none => trivial
   | some q =>
    obtain ⟨j,want⟩ := q
    rw [hg] at hw
    obtain ⟨t,h1,h2⟩ := hw
    exact ⟨t,h1,mask_at h2 (hgd j want hg t h1)⟩
  rcases hq with ⟨hsel,hop⟩ | ⟨fx,xs,tys,fv,vs,hc,hf,hxs,hi⟩
  ·refine hr_op ho hw' ⟨hop.1,fun β w a' h1 h2 => ?_⟩ h
   obtain ⟨β',w',v',g1,g2,g3,g4⟩ := hop.2 β w (maskC a' (o.looksAt ops)) h1 (mask_rel h2 _)
   have e : execOp (maskC a' (o.looksAt ops)).eval o = execOp a'.eval o := execOp_congr o hsel fun x hx => mask_eval fun t ht => looks_operand (by rw [← ht]; exact hx)
   rw [e] at g2
   exact ⟨β',w',v',g1,g2,g3,g4⟩
  ·refine hr_call ho hw' hc (hf.unmask fun t ht => looks_operand (by rw [hc,← ht]; simp [Op.operands,Call.operands])) ⟨hxs.1,fun j x u q1 q2 => (hxs.2 j x u q1 q2).unmask fun t ht => looks_operand (by
    rw [hc,← ht]; simp only [Op.operands,Call.operands]; exact Array.mem_append_right _ (Array.mem_of_getElem? q1))⟩ hi ?_
   rintro _ _ ⟨rfl,rfl⟩
   exact h
 ·refine hr_op_skip ho ?_ h
  unfold Skips at hs ⊢
  cases hg : o.guard with
  | none => rw [hg] at hs; exact hs
  | some q =>
   obtain ⟨j,want⟩ := q
   rw [hg] at hs
   obtain ⟨t,h1,h2⟩ := hs
   exact ⟨t,h1,h2.imp (fun h2 => mask_at h2 (hgd j want hg t h1)) (fun h2 => mask_at h2 (hgd j want hg t h1))⟩
def QCls (c : Nat) (S S' : HS) (p : HS → HS → Prop) : Prop :=
 match c with
 | 0 => S' = S ∧ ∀ T,p T T
 | 2 => p S S'
 | _ => S' = S ∧ p S S
def LateOk (ops : Array Oper) (cls : Nat → Nat) (i : Nat) (p : HS → Prop) (i0 : Nat) (vs : List (HV × HS)) : Prop :=
 ∀ j v S',vs[j]? = some (v,S') → cls (i0 + j) = 2 → ((Region.before ops).getD (i0 + j) 0).testBit i = false → p S'
def PastOk (ops : Array Oper) (i : Nat) (p : HS → Prop) (past : List (Nat × HS)) : Prop := ∀ q ∈ past,((Region.before ops).getD i 0).testBit q.1 = true ∨ p q.2
inductive QChain2 (P : Program) (base : Nat) (W0 : Env) (β0 : Bt) (ops : Array Oper) (cls : Nat → Nat) : List (Nat × HS) → Nat → HAct → HS → List (HV × HS) → HAct → HS → Prop
 | nil (past : List (Nat × HS)) (a : HAct) (S : HS) : QChain2 P base W0 β0 ops cls past ops.size a S [] a S
 | cons {past past' : List (Nat × HS)} {i : Nat} {a : HAct} {S S' : HS} {o : Oper} {v : HV} {vs : List (HV × HS)} {b : HAct} {Sn : HS} (ho : ops[i]? = some o) (hq : QCls (cls i) S S' fun T T' => QAt2 P base W0 β0 ops o (a.mask (o.looksAt ops)) T v T')
   (hl : cls i = 3 → LateOk ops cls i (fun T => QAt2 P base W0 β0 ops o (a.mask (o.looksAt ops)) T v T) (i + 1) vs)
   (hb : cls i = 3 → PastOk ops i (fun T => QAt2 P base W0 β0 ops o (a.mask (o.looksAt ops)) T v T) past) (hp : (∀ q ∈ past,q ∈ past') ∧ (cls i = 2 → (i,S) ∈ past'))
   (h : QChain2 P base W0 β0 ops cls past' (i + 1) (a.put o.dst v) S' vs b Sn) : QChain2 P base W0 β0 ops cls past i a S ((v,S') :: vs) b Sn
def drawOk2 (ops : Array Oper) (cls rk : List Nat) : Bool :=
 let b := Region.before ops
 let n := ops.size
 (List.range n).all (fun j => match ops[j]? with
  | some o => o.after.all (fun e => (!Region.binds .any e || decide (e.on < j)) && (!Region.binds .text e || decide (e.on < j)) && (!Region.binds .gc e || decide (rk.getD e.on 0 < rk.getD j 0)) && decide (e.on < n))
  | none => true) &&
 ((List.range n).all fun i => (List.range n).all fun w =>
  match ops[i]?,ops[w]? with
  | some x,some y =>
   match y.dst with
   | none => true
   | some t => (decide (i = w) && !(x.looksAt ops).contains t) || (!decide (i = w) && decide (x.dst ≠ some t) && (!(x.looksAt ops).contains t || (decide (w < i) && (b.getD i 0).testBit w) || (decide (i < w) && (b.getD w 0).testBit i)))
  | _,_ => true) &&
 ((List.range n).all fun w => (List.range w).all fun i => !((cls.getD i 0 == 2 && cls.getD w 0 != 0 && cls.getD w 0 != 3) || (cls.getD i 0 != 0 && cls.getD i 0 != 3 && cls.getD w 0 == 2)) || (b.getD w 0).testBit i)
structure DrawOk2 (ops : Array Oper) (cls : Nat → Nat) : Prop where
 low : ∀ (j : Nat) (o : Oper),ops[j]? = some o → ∀ e ∈ o.after,Region.binds .any e = true → e.on < j
 rank : ∀ md : Region.Mode,∃ r : Nat → Nat,∀ (j : Nat) (o : Oper),ops[j]? = some o → ∀ e ∈ o.after,Region.binds md e = true → r e.on < r j ∧ e.on < ops.size
 diff : ∀ i w x y t,i < ops.size → w < ops.size → ops[i]? = some x → ops[w]? = some y → y.dst = some t → i ≠ w → x.dst ≠ some t
 look : ∀ i w x y t,i < ops.size → w < ops.size → ops[i]? = some x → ops[w]? = some y → y.dst = some t → (x.looksAt ops).contains t = true → (w < i ∧ Anc ops w i) ∨ (i < w ∧ Anc ops i w)
 ord : ∀ i w,i < w → w < ops.size → (cls i = 2 ∧ cls w ≠ 0 ∧ cls w ≠ 3) ∨ (cls i ≠ 0 ∧ cls i ≠ 3 ∧ cls w = 2) → Anc ops i w
theorem drawOk2_out {cls rk : List Nat} (h : drawOk2 ops cls rk = true) : DrawOk2 ops (fun i => cls.getD i 0) := by
 unfold drawOk2 at h
 simp only [Bool.and_eq_true,List.all_eq_true,List.mem_range] at h
 obtain ⟨⟨h1,h2⟩,h3⟩ := h
 have hlow : ∀ (j : Nat) (o : Oper),ops[j]? = some o → ∀ e ∈ o.after,(Region.binds .any e = true → e.on < j) ∧ (Region.binds .text e = true → e.on < j) ∧ (Region.binds .gc e = true → rk.getD e.on 0 < rk.getD j 0) ∧ e.on < ops.size := by
  intro j o ho e he
  have := h1 j (Array.getElem?_eq_some_iff.1 ho).1
  rw [ho] at this
  simp only [Array.all_eq_true',Bool.and_eq_true,Bool.or_eq_true,Bool.not_eq_true',decide_eq_true_eq] at this
  obtain ⟨⟨⟨q1,q2⟩,q3⟩,q4⟩ := this e he
  exact ⟨fun hb => q1.resolve_left (by rw [hb]; simp),fun hb => q2.resolve_left (by rw [hb]; simp),fun hb => q3.resolve_left (by rw [hb]; simp),q4⟩
 refine ⟨fun j o ho e he => (hlow j o ho e he).1,fun md => ?_,fun i w x y t hi hw hx hy ht hne => ?_,fun i w x y t hi hw hx hy ht hl => ?_,fun i w hiw hw hc => ?_⟩
 ·cases md with
  | any => exact ⟨fun j => j,fun j o ho e he hb => ⟨(hlow j o ho e he).1 hb,(hlow j o ho e he).2.2.2⟩⟩
  | text => exact ⟨fun j => j,fun j o ho e he hb => ⟨(hlow j o ho e he).2.1 hb,(hlow j o ho e he).2.2.2⟩⟩
  | gc => exact ⟨fun j => rk.getD j 0,fun j o ho e he hb => ⟨(hlow j o ho e he).2.2.1 hb,(hlow j o ho e he).2.2.2⟩⟩
 ·have := h2 i hi w hw
  rw [hx,hy] at this
  simp only [ht] at this
  simp only [Bool.or_eq_true,Bool.and_eq_true,decide_eq_true_eq,Bool.not_eq_true',decide_eq_false_iff_not] at this
  rcases this with h | h
  ·exact absurd h.1 hne
  ·exact h.1.2
 ·have := h2 i hi w hw
  rw [hx,hy] at this
  simp only [ht] at this
  simp only [Bool.or_eq_true,Bool.and_eq_true,decide_eq_true_eq,Bool.not_eq_true',decide_eq_false_iff_not] at this
  rcases this with h | ⟨_,(h | h) | h⟩
  ·rw [h.2] at hl; cases hl
  ·rw [h] at hl; cases hl
  ·exact .inl ⟨h.1,before_anc h.2⟩
  ·exact .inr ⟨h.1,before_anc h.2⟩
 ·have := h3 w hw i hiw
  simp only [Bool.or_eq_true,Bool.not_eq_true',Bool.or_eq_false_iff,Bool.and_eq_false_iff] at this
  rcases this with h | h
  ·exfalso
   obtain ⟨q1,q2⟩ := h
   rcases hc with ⟨c1,c2,c3⟩ | ⟨c1,c3,c2⟩
   ·rcases q1 with (q | q) | q
    ·simp only [beq_eq_false_iff_ne] at q; exact q c1
    ·simp only [bne_eq_false_iff_eq] at q; exact c2 q
    ·simp only [bne_eq_false_iff_eq] at q; exact c3 q
   ·rcases q2 with (q | q) | q
    ·simp only [bne_eq_false_iff_eq] at q; exact c1 q
    ·simp only [bne_eq_false_iff_eq] at q; exact c3 q
    ·simp only [beq_eq_false_iff_ne] at q; exact q c2
  ·exact before_anc h
theorem Agrees.step2 {cls : Nat → Nat} {a0 : HAct} {val : Nat → HV} {X : Nat → Prop} {B : HAct} (hd : DrawOk2 ops cls) (h : Agrees ops a0 val ops.size X B) {i : Nat} {o : Oper} (him : i < ops.size) (ho : ops[i]? = some o) (hX : ¬ X i) :
  Agrees ops a0 val ops.size (fun j => X j ∨ j = i) (B.put o.dst (val i)) := by
 cases hdst : o.dst with
 | none =>
  refine ⟨h.len,h.defers,fun j x t hj hXj hx ht => ?_,fun t ht => h.rest t fun j x hj hXj hx => ht j x hj (.inl hXj) hx⟩
  rcases hXj with hXj | rfl
  ·exact h.made j x t hj hXj hx ht
  ·rw [ho] at hx; cases hx; rw [hdst] at ht; cases ht
 | some d =>
  refine ⟨by simp [HAct.put,h.len],h.defers,fun j x t hj hXj hx ht => ?_,fun t ht => ?_⟩
  ·rcases hXj with hXj | rfl
   ·have hne : j ≠ i := fun e => hX (e ▸ hXj)
    have hdt : d ≠ t := fun e => hd.diff i j o x t him hj ho hx ht (fun e => hne e.symm) (by rw [hdst,e])
    simp only [HAct.put]
    rw [List.getElem?_set_ne hdt]
    exact h.made j x t hj hXj hx ht
   ·rw [ho] at hx; cases hx
    rw [hdst] at ht; cases ht
    simp only [HAct.put,List.getElem?_set,h.len,if_true]
  ·have hdt : d ≠ t := fun e => ht i o him (.inr rfl) ho (by rw [hdst,e])
   simp only [HAct.put]
   rw [List.getElem?_set_ne hdt]
   exact h.rest t fun j x hj hXj hx => ht j x hj (.inl hXj) hx
theorem QChain2.len {cls : Nat → Nat} {a : HAct} {S : HS} {vs : List (HV × HS)} {b : HAct} {Sn : HS} {i0 : Nat} {past : List (Nat × HS)} (h : QChain2 P base W0 β0 ops cls past i0 a S vs b Sn) : i0 + vs.length = ops.size := by
 induction h with
 | nil => rfl
 | cons _ _ _ _ _ _ ih => simp only [List.length_cons]; omega
theorem QChain2.spell {cls : Nat → Nat} {a : HAct} {S : HS} {vs : List (HV × HS)} {b : HAct} {Sn : HS} {i0 : Nat} {past : List (Nat × HS)} (h : QChain2 P base W0 β0 ops cls past i0 a S vs b Sn) : ∀ (a0 : HAct) (val : Nat → HV) (Hp : Nat → HS),Hp i0 = S → (∀ j,i0 ≤ j → j < ops.size → (val j,Hp (j + 1)) = vs.getD (j - i0) (.tup [],Sn)) → DrawOk2 ops cls → (∀ w,w < i0 → cls w = 2 → (w,Hp w) ∈ past) → i0 ≤ ops.size ∧ Hp ops.size = Sn ∧ (Agrees ops a0 val ops.size (fun j => j < i0) a →
  (∀ j o,i0 ≤ j → j < ops.size → ops[j]? = some o → ∃ A,Agrees ops a0 val ops.size (fun l => l < j) A ∧ QCls (cls j) (Hp j) (Hp (j + 1)) (fun T T' => QAt2 P base W0 β0 ops o (A.mask (o.looksAt ops)) T (val j) T') ∧ (cls j = 3 → ∀ w,j < w → w < ops.size → cls w = 2 → ((Region.before ops).getD w 0).testBit j = false → QAt2 P base W0 β0 ops o (A.mask (o.looksAt ops)) (Hp (w + 1)) (val j) (Hp (w + 1))) ∧ (cls j = 3 → ∀ w,w < j → cls w = 2 → ((Region.before ops).getD j 0).testBit w = false → QAt2 P base W0 β0 ops o (A.mask (o.looksAt ops)) (Hp w) (val j) (Hp w))) ∧ Agrees ops a0 val ops.size (fun l => l < ops.size) b) := by
 induction h with
 | nil past a S => intro a0 val Hp h0 _ _ _; exact ⟨Nat.le_refl _,h0,fun h => ⟨fun j o h1 h2 => by omega,h⟩⟩
 | @cons past past' i a S S' o v vs b Sn ho hq hl hb hp h ih =>
  intro a0 val Hp h0 hval hd hpast
  have hi : i < ops.size := (Array.getElem?_eq_some_iff.1 ho).1
  have hv0 := hval i (Nat.le_refl _) hi
  simp only [Nat.sub_self,List.getD_cons_zero,Prod.mk.injEq] at hv0
  obtain ⟨g1,g2,g3⟩ := ih a0 val Hp hv0.2 (fun j h1 h2 => by rw [hval j (by omega) h2,show j - i = (j - (i + 1)) + 1 by omega]; rfl) hd (fun w hw hcw => by
   rcases Nat.lt_or_ge w i with h5 | h5
   ·exact hp.1 _ (hpast w h5 hcw)
   ·have : w = i := by omega
    subst this
    rw [h0]; exact hp.2 hcw)
  refine ⟨by omega,g2,fun hA => ?_⟩
  have hst := hA.step2 hd (i := i) hi ho (by omega)
  have heq : (fun j => j < i ∨ j = i) = (fun j => j < i + 1) := by funext j; simp only [eq_iff_iff]; omega
  rw [heq,hv0.1] at hst
  obtain ⟨k1,k2⟩ := g3 hst
  refine ⟨fun j o' h1 h2 h3 => ?_,k2⟩
  by_cases e : j = i
  ·subst e
   rw [ho] at h3; cases h3
   refine ⟨a,hA,by rw [hv0.1,h0,hv0.2]; exact hq,fun h3 w q1 q2 q3 q4 => ?_,fun h3 w q1 q2 q3 => by
    rcases hb h3 _ (hpast w q1 q2) with g | g
    ·rw [g] at q3; cases q3
    ·rw [hv0.1]; exact g⟩
   have hlen := h.len
   have hw := hval w (by omega) q2
   have hix : w - (j + 1) < vs.length := by omega
   rw [show w - j = (w - (j + 1)) + 1 by omega,List.getD_cons_succ,List.getD_eq_getElem?_getD,List.getElem?_eq_getElem hix,Option.getD_some] at hw
   have := hl h3 (w - (j + 1)) (val w) (Hp (w + 1)) (by rw [List.getElem?_eq_getElem hix,hw]) (by rw [show j + 1 + (w - (j + 1)) = w by omega]; exact q3) (by rw [show j + 1 + (w - (j + 1)) = w by omega]; exact q4)
   rw [hv0.1]; exact this
  ·exact k1 j o' (by omega) h2 h3
theorem draw_go2 {cls : Nat → Nat} {md : Region.Mode} {a0 b : HAct} {val : Nat → HV} {Hp : Nat → HS} (hd : DrawOk2 ops cls)
  (hq : ∀ j o,j < ops.size → ops[j]? = some o → ∃ A,Agrees ops a0 val ops.size (fun l => l < j) A ∧ QCls (cls j) (Hp j) (Hp (j + 1)) (fun T T' => QAt2 P base W0 β0 ops o (A.mask (o.looksAt ops)) T (val j) T') ∧ (cls j = 3 → ∀ w,j < w → w < ops.size → cls w = 2 → ((Region.before ops).getD w 0).testBit j = false → QAt2 P base W0 β0 ops o (A.mask (o.looksAt ops)) (Hp (w + 1)) (val j) (Hp (w + 1))) ∧ (cls j = 3 → ∀ w,w < j → cls w = 2 → ((Region.before ops).getD j 0).testBit w = false → QAt2 P base W0 β0 ops o (A.mask (o.looksAt ops)) (Hp w) (val j) (Hp w))) (hb : Agrees ops a0 val ops.size (fun l => l < ops.size) b)
  (hrest : HRun P base W0 β0 f ro (.inRegion ops [] :: k) b (Hp ops.size) R) :
  ∀ (r : Nat) (listed : Array Bool) (fuel t : Nat) (B : HAct) (T : HS),listed.size = ops.size → Closed ops (fun j => j < ops.size ∧ listed.getD j true = true) →
   Agrees ops a0 val ops.size (fun j => j < ops.size ∧ listed.getD j true = true) B → (∃ q,q ≤ ops.size ∧ (∀ w,w < ops.size → listed.getD w true = true → cls w = 2 → w < q) ∧ (∀ w,w < q → cls w = 2 → listed.getD w true = true) ∧ T = Hp q) →
   ((List.range ops.size).filter (fun j => !listed.getD j true)).length = r → r ≤ fuel →
   HRun P base W0 β0 f ro (.inRegion ops (Region.linearise.go md ops fuel t listed []) :: k) B T R := by
 have hconst : ∀ x y,x ≤ y → y ≤ ops.size → (∀ w,x ≤ w → w < y → cls w ≠ 2) → Hp x = Hp y := by
  intro x y hxy
  induction y with
  | zero => intro _ _; rw [show x = 0 by omega]
  | succ y ihy =>
   intro hy hno
   by_cases e : x = y + 1
   ·rw [e]
   ·rw [ihy (by omega) (by omega) fun w h1 h2 => hno w h1 (by omega)]
    obtain ⟨A,_,hc,_,_⟩ := hq y ops[y] (by omega) (Array.getElem?_eq_getElem (by omega))
    have hne := hno y (by omega) (by omega)
    unfold QCls at hc
    split at hc
    ·exact hc.1.symm
    ·rename_i h2; exact absurd h2 hne
    ·exact hc.1.symm
 intro r
 induction r with
 | zero =>
  intro listed fuel t B T hsz hcl hB hH hr hf
  have hall : ∀ j,j < ops.size → listed.getD j true = true := by
   intro j hj
   cases hc : listed.getD j true with
   | true => rfl
   | false =>
    have : j ∈ (List.range ops.size).filter (fun j => !listed.getD j true) := by simp only [List.mem_filter,List.mem_range]; exact ⟨hj,by rw [hc]; rfl⟩
    have := List.length_pos_of_mem this
    omega
  have heq : B = b := hB.eq hb fun i hi => ⟨fun _ => hi,fun _ => ⟨by omega,hall i hi⟩⟩
  have hT : T = Hp ops.size := by
   obtain ⟨q,q1,q2,q3,q4⟩ := hH
   rw [q4]
   refine hconst q _ q1 (Nat.le_refl _) fun w h1 h2 h3 => ?_
   have := q2 w h2 (hall w h2) h3
   omega
  have hnil : Region.linearise.go md ops fuel t listed [] = [] := by
   cases fuel with
   | zero => rfl
   | succ fuel =>
    rw [go_cons]
    have hemp : Region.ready md ops listed = [] := by
     cases hr' : Region.ready md ops listed with
     | nil => rfl
     | cons x xs =>
      obtain ⟨h1,h2,_⟩ := mem_ready (md := md) (ops := ops) (listed := listed) (i := x) (by rw [hr']; simp)
      rw [hall x h1] at h2; cases h2
    rw [hemp]; rfl
  rw [hnil,heq,hT]
  exact hrest
 | succ r ih =>
  intro listed fuel t B T hsz hcl hB hH hr hf
  -- there is an operation that is ready
  obtain ⟨rk,hrk⟩ := hd.rank md
  have hex : ∃ j,j < ops.size ∧ listed.getD j true = false ∧ ∀ i,i < ops.size → rk i < rk j → listed.getD i true = true := by
   have hne : ∃ j,j < ops.size ∧ listed.getD j true = false := by
    cases hl : (List.range ops.size).filter (fun j => !listed.getD j true) with
    | nil => rw [hl] at hr; simp at hr
    | cons x xs =>
     have : x ∈ (List.range ops.size).filter (fun j => !listed.getD j true) := by rw [hl]; simp
     simp only [List.mem_filter,List.mem_range,Bool.not_eq_true'] at this
     exact ⟨x,this.1,this.2⟩
   have key : ∀ n j,rk j = n → j < ops.size → listed.getD j true = false → ∃ j,j < ops.size ∧ listed.getD j true = false ∧ ∀ i,i < ops.size → rk i < rk j → listed.getD i true = true := by
    intro n
    induction n using Nat.strongRecOn with
    | _ n ihn =>
     intro j hn h1 h2
     by_cases hmin : ∀ i,i < ops.size → rk i < rk j → listed.getD i true = true
     ·exact ⟨j,h1,h2,hmin⟩
     ·simp only [Classical.not_forall] at hmin
      obtain ⟨i,hi,hi2,hi3⟩ := hmin
      exact ihn (rk i) (by omega) i rfl hi (by simpa using hi3)
   obtain ⟨j,h1,h2⟩ := hne
   exact key _ j rfl h1 h2
  obtain ⟨j0,hj1,hj2,hj3⟩ := hex
  have hj0 : j0 ∈ Region.ready md ops listed := by
   unfold Region.ready
   simp only [List.mem_filter,List.mem_range,Bool.and_eq_true,Bool.not_eq_true']
   refine ⟨hj1,hj2,?_⟩
   rw [Array.getElem?_eq_getElem hj1]
   simp only [Option.map_some,Option.getD_some,Array.all_eq_true',Bool.or_eq_true,Bool.not_eq_true']
   intro e he
   cases hb2 : Region.binds md e with
   | false => exact .inl rfl
   | true =>
    right
    obtain ⟨g1,g2⟩ := hrk j0 _ (Array.getElem?_eq_getElem hj1) e he hb2
    have := hj3 e.on g2 g1
    rw [Array.getD_eq_getD_getElem?] at this ⊢
    rw [Array.getElem?_eq_getElem (by omega)] at this ⊢
    exact this
  cases fuel with
  | zero => omega
  | succ fuel =>
   have hpos : 0 < (Region.ready md ops listed).length := List.length_pos_of_mem hj0
   have hlt : t % (Region.ready md ops listed).length < (Region.ready md ops listed).length := Nat.mod_lt _ hpos
   rw [go_cons,List.getElem?_eq_getElem hlt]
   simp only []
   generalize hi : (Region.ready md ops listed)[t % (Region.ready md ops listed).length] = i
   have hmem : i ∈ Region.ready md ops listed := by rw [← hi]; exact List.getElem_mem hlt
   obtain ⟨i1,i2,i3⟩ := mem_ready hmem
   have ho : ops[i]? = some ops[i] := Array.getElem?_eq_getElem i1
   have hXi : ¬ (i < ops.size ∧ listed.getD i true = true) := fun h => by rw [i2] at h; cases h.2
   -- what it waits for has been made
   have hanc : ∀ l,Anc ops l i → l < ops.size ∧ listed.getD l true = true := by
    have key : ∀ l j,Anc ops l j → j = i → l < ops.size ∧ listed.getD l true = true := by
     intro l j ha
     induction ha with
     | @edge l j o e ho2 he hb2 hi2 =>
      intro hj
      subst hj
      have hlt2 := hd.low _ _ ho2 e he hb2
      have := i3 o ho2 e he hb2
      rw [hi2] at this hlt2
      refine ⟨by omega,?_⟩
      rw [Array.getD_eq_getD_getElem?] at this ⊢
      rw [Array.getElem?_eq_getElem (by omega)] at this ⊢
      exact this
     | @trans l j q h k _ ih2 =>
      intro hq2
      exact hcl.anc h (ih2 hq2)
    exact fun l hl => key l i hl rfl
   obtain ⟨A,hA1,hA2,hA3,hA4⟩ := hq i _ i1 ho
   have hmask : A.mask ((ops[i]).looksAt ops) = B.mask ((ops[i]).looksAt ops) := by
    refine mask_congr (by rw [hA1.len,hB.len]) fun t2 ht2 => hA1.congr hB fun w y hw hy hdst => ?_
    rcases hd.look i w _ y t2 i1 hw ho hy hdst ht2 with ⟨h1,h2⟩ | ⟨h1,h2⟩
    ·exact ⟨fun _ => hanc w h2,fun _ => h1⟩
    ·refine ⟨fun h => by omega,fun h => ?_⟩
     exact absurd (hcl.anc h2 h) hXi
   rw [hmask] at hA2 hA3 hA4
   obtain ⟨q,q1,q2,q3,q4⟩ := hH
   -- where the heap is something to it,it is the one that it has in the text's order
   have hheap : cls i ≠ 0 → cls i ≠ 3 → T = Hp i := by
    intro hc0 hc3
    rw [q4]
    rcases Nat.le_total q i with hle | hle
    ·refine hconst q i hle (by omega) fun w h1 h2 h3 => ?_
     have := q2 w (by omega) (hanc w (hd.ord w i h2 i1 (.inl ⟨h3,hc0,hc3⟩))).2 h3
     omega
    ·refine (hconst i q hle q1 fun w h1 h2 h3 => ?_).symm
     have hw := q3 w h2 h3
     rcases Nat.eq_or_lt_of_le h1 with e | h4
     ·rw [← e,i2] at hw; cases hw
     ·exact hXi (hcl.anc (hd.ord i w h4 (by omega) (.inr ⟨hc0,hc3,h3⟩)) ⟨by omega,hw⟩)
   have hget : ∀ j,j < ops.size → ((listed.setIfInBounds i true).getD j true = true ↔ (listed.getD j true = true ∨ j = i)) := by
    intro j hj
    rw [Array.getD_eq_getD_getElem?,Array.getElem?_setIfInBounds]
    by_cases e : i = j
    ·subst e; rw [if_pos rfl,if_pos (by omega)]; simp
    ·rw [if_neg e,← Array.getD_eq_getD_getElem?]
     exact ⟨fun h => .inl h,fun h => h.resolve_right fun h2 => e h2.symm⟩
   obtain ⟨T',hstep,hH'⟩ : ∃ T',QAt2 P base W0 β0 ops ops[i] (B.mask ((ops[i]).looksAt ops)) T (val i) T' ∧ ∃ q,q ≤ ops.size ∧ (∀ w,w < ops.size → (listed.setIfInBounds i true).getD w true = true → cls w = 2 → w < q) ∧ (∀ w,w < q → cls w = 2 → (listed.setIfInBounds i true).getD w true = true) ∧ T' = Hp q := by
    have hkeep : cls i ≠ 2 → ∃ q,q ≤ ops.size ∧ (∀ w,w < ops.size → (listed.setIfInBounds i true).getD w true = true → cls w = 2 → w < q) ∧ (∀ w,w < q → cls w = 2 → (listed.setIfInBounds i true).getD w true = true) ∧ T = Hp q := by
     intro hne
     refine ⟨q,q1,fun w hw hl hc => ?_,fun w hw hc => (hget w (by omega)).2 (.inl (q3 w hw hc)),q4⟩
     rcases (hget w hw).1 hl with h | h
     ·exact q2 w hw h hc
     ·subst h; exact absurd hc hne
    unfold QCls at hA2
    split at hA2
    ·rename_i hc; exact ⟨T,hA2.2 T,hkeep (by omega)⟩
    ·rename_i hc
     refine ⟨Hp (i + 1),by rw [hheap (by omega) (by omega)]; exact hA2,i + 1,by omega,fun w hw hl hcw => ?_,fun w hw hcw => ?_,rfl⟩
     ·rcases (hget w hw).1 hl with h | h
      ·rcases Nat.lt_or_ge i w with h5 | h5
       ·exact absurd (hcl.anc (hd.ord i w h5 hw (.inl ⟨hc,by omega,by omega⟩)) ⟨hw,h⟩) hXi
       ·omega
      ·omega
     ·rcases Nat.eq_or_lt_of_le (Nat.le_of_lt_succ hw) with e | h5
      ·exact (hget w (by omega)).2 (.inr e)
      ·exact (hget w (by omega)).2 (.inl (hanc w (hd.ord w i h5 i1 (.inl ⟨hcw,by omega,by omega⟩))).2)
    ·rename_i hc0 hc2
     by_cases hc3 : cls i = 3
     ·refine ⟨T,?_,hkeep hc2⟩
      rw [q4]
      rcases Nat.le_total q i with hle | hle
      ·have key : ∀ d y,i - y = d → q ≤ y → y ≤ i → QAt2 P base W0 β0 ops ops[i] (B.mask ((ops[i]).looksAt ops)) (Hp y) (val i) (Hp y) := by
        intro d
        induction d with
        | zero => intro y h0 _ h2; rw [show y = i by omega]; exact hA2.2
        | succ d ihd =>
         intro y h0 h1 h2
         by_cases hcy : cls y = 2
         ·refine hA4 hc3 y (by omega) hcy ?_
          cases hbit : ((Region.before ops).getD i 0).testBit y with
          | false => rfl
          | true =>
           have := q2 y (by omega) (hanc y (before_anc hbit)).2 hcy
           omega
         ·have hy := ihd (y + 1) (by omega) (by omega) (by omega)
          rw [hconst y (y + 1) (by omega) (by omega) fun w g1 g2 g3 => by
           have : w = y := by omega
           subst this; exact hcy g3]
          exact hy
       exact key _ q rfl (Nat.le_refl _) hle
      ·have key : ∀ y,i ≤ y → y ≤ q → QAt2 P base W0 β0 ops ops[i] (B.mask ((ops[i]).looksAt ops)) (Hp y) (val i) (Hp y) := by
        intro y
        induction y with
        | zero => intro h1 _; rw [show (0 : Nat) = i by omega]; exact hA2.2
        | succ y ihy =>
         intro h1 h2
         by_cases e : i = y + 1
         ·rw [← e]; exact hA2.2
         ·have hy := ihy (by omega) (by omega)
          by_cases hcy : cls y = 2
          ·have hyl := q3 y (by omega) hcy
           have hne : i ≠ y := fun e => by rw [e] at hc3; omega
           refine hA3 hc3 y (by omega) (by omega) hcy ?_
           cases hbit : ((Region.before ops).getD y 0).testBit i with
           | false => rfl
           | true => exact absurd (hcl.anc (before_anc hbit) ⟨by omega,hyl⟩) hXi
          ·rw [← hconst y (y + 1) (by omega) (by omega) fun w g1 g2 g3 => by
            have : w = y := by omega
            subst this; exact hcy g3]
           exact hy
       exact key q hle (Nat.le_refl _)
     ·exact ⟨T,by rw [hheap hc0 hc3]; exact hA2.2,hkeep hc2⟩
   refine hr_quiet2 ho hstep ?_
   have hXeq : (fun j => (j < ops.size ∧ listed.getD j true = true) ∨ j = i) = (fun j => j < ops.size ∧ (listed.setIfInBounds i true).getD j true = true) := by
    funext j
    simp only [eq_iff_iff]
    constructor
    ·rintro (⟨h1,h2⟩ | rfl)
     ·exact ⟨h1,(hget j h1).2 (.inl h2)⟩
     ·exact ⟨i1,(hget j i1).2 (.inr rfl)⟩
    ·rintro ⟨h1,h2⟩
     rcases (hget j h1).1 h2 with h | h
     ·exact .inl ⟨h1,h⟩
     ·exact .inr h
   refine ih _ fuel _ _ _ (by simp [hsz]) ?_ ?_ hH' ?_ (by omega)
   ·intro j o hXj hoj e he hb2
    have hlt2 := hd.low _ _ hoj e he hb2
    rcases (hget j hXj.1).1 hXj.2 with h | h
    ·have := hcl j o ⟨hXj.1,h⟩ hoj e he hb2
     exact ⟨this.1,(hget _ this.1).2 (.inl this.2)⟩
    ·subst h
     have := hanc e.on (.edge hoj he hb2 rfl)
     exact ⟨this.1,(hget _ this.1).2 (.inl this.2)⟩
   ·rw [← hXeq]
    exact hB.step2 hd i1 ho hXi
   ·-- one less
    have hcount : ∀ (l : List Nat),l.Nodup → i ∈ l → (∀ j ∈ l,j < ops.size) → (l.filter (fun j => !listed.getD j true)).length = (l.filter (fun j => !(listed.setIfInBounds i true).getD j true)).length + 1 := by
     intro l
     induction l with
     | nil => intro _ h; simp at h
     | cons x l ihl =>
      intro hnd hmem2 hall
      rw [List.nodup_cons] at hnd
      have hb1 : ∀ j,j < ops.size → j ≠ i → (listed.setIfInBounds i true).getD j true = listed.getD j true := by
       intro j hj hne
       rw [Array.getD_eq_getD_getElem?,Array.getElem?_setIfInBounds,if_neg (fun e => hne e.symm),← Array.getD_eq_getD_getElem?]
      rcases List.mem_cons.1 hmem2 with rfl | hml
      ·have e1 : (!listed.getD i true) = true := by rw [i2]; rfl
       have e2 : (!(listed.setIfInBounds i true).getD i true) = false := by rw [(hget i i1).2 (.inr rfl)]; rfl
       rw [List.filter_cons_of_pos (by exact e1),List.filter_cons_of_neg (by rw [e2]; simp)]
       simp only [List.length_cons,Nat.add_right_cancel_iff]
       congr 1
       apply List.filter_congr
       intro j hj
       rw [hb1 j (hall j (by simp [hj])) (fun e => hnd.1 (e ▸ hj))]
      ·have hne : x ≠ i := fun e => hnd.1 (e ▸ hml)
       have hx := hb1 x (hall x (by simp)) hne
       have := ihl hnd.2 hml (fun j hj => hall j (by simp [hj]))
       simp only [List.filter_cons,hx]
       split
       ·simp only [List.length_cons]; omega
       ·exact this
    have := hcount (List.range ops.size) List.nodup_range (by simpa using i1) (fun j hj => by simpa using hj)
    omega
theorem q_draw2 {c : Code} {id : Nat} {a b : HAct} {S Sn : HS} {cls rk : List Nat} {vs : List (HV × HS)} (hc : c = .region id ops true) (hm : drawOk2 ops cls rk = true) (hq : QChain2 P base W0 β0 ops (fun i => cls.getD i 0) [] 0 a S vs b Sn)
  (h : HRun P base W0 β0 f ro (.inRegion ops [] :: k) b Sn R) : HRun P base W0 β0 f ro (.code c :: k) a S R := by
 subst hc
 have hd := drawOk2_out hm
 let val : Nat → HV := fun j => (vs.getD j (.tup [],Sn)).1
 let Hp : Nat → HS := fun j => match j with | 0 => S | j + 1 => (vs.getD j (.tup [],Sn)).2
 obtain ⟨_,hHn,h2⟩ := hq.spell a val Hp rfl (fun j _ _ => by simp [val,Hp]) hd (fun w hw => by omega)
 obtain ⟨h3,h4⟩ := h2 ⟨rfl,rfl,fun i o t _ hX => by omega,fun t _ => rfl⟩
 intro β w a' g1 g2 g3 bb cs g4 g5 g6 g7
 obtain ⟨md,tt,hsch⟩ : ∃ md tt,Region.schedule (P.follows .mixedOrders) ops (w.tape w.drawn (.order bb.fn id)) = Region.linearise md ops tt := by
  unfold Region.schedule
  split <;> exact ⟨_,_,rfl⟩
 have hgo := draw_go2 (md := md) (P := P) (base := base) (W0 := W0) (β0 := β0) (f := f) (ro := ro) (k := k) (R := R) (a0 := a) (b := b) (val := val) (Hp := Hp) hd (fun j o hj ho => h3 j o (Nat.zero_le _) hj ho) h4 (by rw [hHn]; exact h)
  ((List.range ops.size).filter (fun j => !(Array.replicate ops.size false).getD j true)).length (Array.replicate ops.size false) ops.size tt a S (by simp) (fun j o hj => by
   have := hj.2; simp [Array.getD_eq_getD_getElem?,hj.1] at this)
  ⟨rfl,rfl,fun i o t _ hX => by have := hX.2; simp [Array.getD_eq_getD_getElem?,hX.1] at this,fun t _ => rfl⟩
  ⟨0,Nat.zero_le _,fun w hw h => by simp [Array.getD_eq_getD_getElem?,hw] at h,fun w hw => by omega,rfl⟩ rfl (by
   have := List.length_filter_le (fun j => !(Array.replicate ops.size false).getD j true) (List.range ops.size)
   simpa using this)
 have hw : Rel base W0 β S { w with drawn := w.drawn + 1 } :=
  ⟨⟨g2.below.os,g2.below.tape,g2.below.output,g2.below.size,g2.below.block⟩,g2.size,g2.fresh,g2.lt,g2.objs,g2.disj⟩
 obtain ⟨β',v,S',v',w',k1,k2,k3,k4,k5⟩ := hgo β { w with drawn := w.drawn + 1 } a' g1 hw g3 bb cs g4 g5 g6 g7
 refine ⟨β',v,S',v',w',k1,k2,k3,k4,k5.of_steps (P := P) (.one ?_)⟩
 have := stepR_region_draw (P := P) (b := bb) (a := a') (k := k) (cs := cs) (w := w) (ops := ops) (id := id)
 rw [hsch] at this
 exact this
def LatesOk (ops : Array Oper) (cls : Nat → Nat) (i : Nat) (vs : List (HV × HS)) (pend : List (Nat × (HS → Prop))) : Prop := ∀ q ∈ pend,LateOk ops cls q.1 q.2 i vs
def DrawGoP (P : Program) (base : Nat) (W0 : Env) (β0 : Bt) (f : FuncId) (ro : Option Nat) (k : List Item) (ops : Array Oper) (cls : List Nat) (past : List (Nat × HS)) (pend : List (Nat × (HS → Prop))) (i : Nat) (a : HAct) (S : HS) (R : HV → HS → Prop) : Prop :=
 ∃ vs b Sn,QChain2 P base W0 β0 ops (fun i => cls.getD i 0) past i a S vs b Sn ∧ LatesOk ops (fun i => cls.getD i 0) i vs pend ∧ HRun P base W0 β0 f ro (.inRegion ops [] :: k) b Sn R
abbrev DrawGo2 (P : Program) (base : Nat) (W0 : Env) (β0 : Bt) (f : FuncId) (ro : Option Nat) (k : List Item) (ops : Array Oper) (cls : List Nat) (i : Nat) (a : HAct) (S : HS) (R : HV → HS → Prop) : Prop :=
 DrawGoP P base W0 β0 f ro k ops cls [] [] i a S R
def LateP (P : Program) (base : Nat) (W0 : Env) (β0 : Bt) (ops : Array Oper) (i : Nat) (a : HAct) (v : HV) (T : HS) : Prop := ∀ o,ops[i]? = some o → QAt2 P base W0 β0 ops o (a.mask (o.looksAt ops)) T v T
def PendOk (ops : Array Oper) (i : Nat) (S' : HS) : List (Nat × (HS → Prop)) → Prop
 | [] => True
 | q :: l => (((Region.before ops).getD i 0).testBit q.1 = true ∨ q.2 S') ∧ PendOk ops i S' l
theorem PendOk.mem {i : Nat} {S' : HS} : ∀ {l : List (Nat × (HS → Prop))},PendOk ops i S' l → ∀ q ∈ l,((Region.before ops).getD i 0).testBit q.1 = true ∨ q.2 S'
 | [],_,q,h => by cases h
 | x :: l,h,q,hq => by
  rcases List.mem_cons.1 hq with e | e
  ·subst e; exact h.1
  ·exact PendOk.mem h.2 q e
def XAt (P : Program) (base : Nat) (W0 : Env) (β0 : Bt) (ops : Array Oper) (c i : Nat) (a : HAct) (S : HS) (dst : Option Tmp) (v : HV) (S' : HS) : Prop :=
 ∃ o,ops[i]? = some o ∧ o.dst = dst ∧ QCls c S S' fun T T' => QAt2 P base W0 β0 ops o (a.mask (o.looksAt ops)) T v T'
variable {cls : List Nat} {i : Nat} {a : HAct} {S S' : HS} {dst : Option Tmp} {v : HV} {op : Op} {ts : List Tmp}
theorem x_start {c : Code} {id : Nat} {rk : List Nat} (hc : c = .region id ops true) (hm : drawOk2 ops cls rk = true) (h : DrawGo2 P base W0 β0 f ro k ops cls 0 a S R) : HRun P base W0 β0 f ro (.code c :: k) a S R :=
 let ⟨_,_,_,h1,_,h2⟩ := h
 q_draw2 hc hm h1 h2
theorem x_rest {past : List (Nat × HS)} {pend : List (Nat × (HS → Prop))} (hi : i = ops.size) (h : HRun P base W0 β0 f ro (.inRegion ops [] :: k) a S R) : DrawGoP P base W0 β0 f ro k ops cls past pend i a S R := by
 subst hi; exact ⟨[],a,S,.nil past a S,fun q _ j v S' hj => by simp at hj,h⟩
theorem x_goQ {past past' : List (Nat × HS)} {pend : List (Nat × (HS → Prop))} {c : Nat} (hx : XAt P base W0 β0 ops c i a S dst v S') (hc : cls.getD i 0 = c) (h3 : c ≠ 3) (hp : c ≠ 2 ∨ PendOk ops i S' pend) (hpp : (∀ q ∈ past,q ∈ past') ∧ (c = 2 → (i,S) ∈ past')) (h : DrawGoP P base W0 β0 f ro k ops cls past' pend (i + 1) (a.put dst v) S' R) : DrawGoP P base W0 β0 f ro k ops cls past pend i a S R := by
 obtain ⟨vs,b,Sn,h1,hl,h2⟩ := h
 obtain ⟨o,g1,g2,g3⟩ := hx
 subst g2
 refine ⟨_,b,Sn,.cons g1 (by rw [hc]; exact g3) (fun h => absurd (hc.symm.trans h) h3) (fun h => absurd (hc.symm.trans h) h3) ⟨hpp.1,fun h => hpp.2 (hc.symm.trans h)⟩ h1,fun q hq j v' T hj hcj hbit => ?_,h2⟩
 cases j with
 | zero =>
  simp only [List.getElem?_cons_zero,Option.some.injEq,Prod.mk.injEq] at hj
  rw [Nat.add_zero] at hcj hbit
  rcases hp with hp | hp
  ·exact absurd (hc.symm.trans hcj) hp
  ·rcases hp.mem q hq with h | h
   ·rw [h] at hbit; cases hbit
   ·rw [← hj.2]; exact h
 | succ j =>
  rw [show i + (j + 1) = i + 1 + j by omega] at hcj hbit
  exact hl q hq j v' T (by simpa using hj) hcj hbit
theorem x_goP {past : List (Nat × HS)} {pend : List (Nat × (HS → Prop))} {c : Nat} (hx : XAt P base W0 β0 ops c i a S dst v S') (hc : cls.getD i 0 = c) (h3 : c ≠ 3) (h2 : c ≠ 2) (h : DrawGoP P base W0 β0 f ro k ops cls past pend (i + 1) (a.put dst v) S' R) : DrawGoP P base W0 β0 f ro k ops cls past pend i a S R :=
 x_goQ hx hc h3 (.inl h2) ⟨fun _ h => h,fun h => absurd h h2⟩ h
theorem x_goE {past : List (Nat × HS)} {pend : List (Nat × (HS → Prop))} (hx : XAt P base W0 β0 ops 2 i a S dst v S') (hc : cls.getD i 0 = 2) (hp : PendOk ops i S' pend) (h : DrawGoP P base W0 β0 f ro k ops cls ((i,S) :: past) pend (i + 1) (a.put dst v) S' R) : DrawGoP P base W0 β0 f ro k ops cls past pend i a S R :=
 x_goQ hx hc (by decide) (.inr hp) ⟨fun _ h => List.mem_cons_of_mem _ h,fun _ => List.mem_cons_self⟩ h
theorem DrawGoP.forget {past past' : List (Nat × HS)} {pend : List (Nat × (HS → Prop))} (hm : ∀ q ∈ past',q ∈ past) (h : DrawGoP P base W0 β0 f ro k ops cls past' pend i a S R) (hno : ∀ j,cls.getD j 0 ≠ 3) : DrawGoP P base W0 β0 f ro k ops cls past pend i a S R := by
 obtain ⟨vs,b,Sn,h1,hl,h2⟩ := h
 have key : ∀ {past' : List (Nat × HS)} {i : Nat} {a : HAct} {S : HS} {vs : List (HV × HS)} {b : HAct} {Sn : HS},QChain2 P base W0 β0 ops (fun i => cls.getD i 0) past' i a S vs b Sn → ∀ past,QChain2 P base W0 β0 ops (fun i => cls.getD i 0) past i a S vs b Sn := by
  intro past' i a S vs b Sn h
  induction h with
  | nil _ a S => intro past; exact .nil past a S
  | @cons p1 p2 i a S S' o v vs b Sn ho hq hl hb hp h ih =>
   intro past
   exact .cons ho hq hl (fun h3 => absurd h3 (hno i)) (past' := (i,S) :: past) ⟨fun _ h => List.mem_cons_of_mem _ h,fun _ => List.mem_cons_self⟩ (ih _)
 exact ⟨vs,b,Sn,key h1 past,hl,h2⟩
theorem x_go {c : Nat} (hx : XAt P base W0 β0 ops c i a S dst v S') (hc : cls.getD i 0 = c) (h : DrawGo2 P base W0 β0 f ro k ops cls (i + 1) (a.put dst v) S' R) (h3 : cls.all (· != 3) = true := by decide) : DrawGo2 P base W0 β0 f ro k ops cls i a S R := by
 have hno : ∀ j,cls.getD j 0 ≠ 3 := by
  intro j hj
  rw [List.getD_eq_getElem?_getD] at hj
  cases hg : cls[j]? with
  | none => rw [hg] at hj; cases hj
  | some x =>
   rw [hg] at hj
   simp only [Option.getD_some] at hj
   subst hj
   have := List.all_eq_true.1 h3 3 (List.mem_of_getElem? hg)
   simp at this
 have hc3 : c ≠ 3 := fun e => hno i (hc.trans e)
 exact x_goQ (past' := [(i,S)]) hx hc hc3 (.inr trivial) ⟨fun _ h => (by cases h),fun _ => List.mem_cons_self⟩ (h.forget (fun _ h => (by cases h)) hno)
def PastOks (ops : Array Oper) (i : Nat) (p : HS → Prop) : List (Nat × HS) → Prop
 | [] => True
 | q :: l => (((Region.before ops).getD i 0).testBit q.1 = true ∨ p q.2) ∧ PastOks ops i p l
theorem PastOks.out {i : Nat} {p : HS → Prop} : ∀ {l : List (Nat × HS)},PastOks ops i p l → PastOk ops i p l
 | [],_,q,h => by cases h
 | x :: l,h,q,hq => by
  rcases List.mem_cons.1 hq with e | e
  ·subst e; exact h.1
  ·exact PastOks.out h.2 q e
theorem x_late {past : List (Nat × HS)} {pend : List (Nat × (HS → Prop))} (hx : XAt P base W0 β0 ops 1 i a S dst v S) (hc : cls.getD i 0 = 3) (hb : PastOks ops i (LateP P base W0 β0 ops i a v) past) (h : DrawGoP P base W0 β0 f ro k ops cls past ((i,LateP P base W0 β0 ops i a v) :: pend) (i + 1) (a.put dst v) S R) : DrawGoP P base W0 β0 f ro k ops cls past pend i a S R := by
 obtain ⟨vs,b,Sn,h1,hl,h2⟩ := h
 obtain ⟨o,g1,g2,g3⟩ := hx
 subst g2
 refine ⟨_,b,Sn,.cons g1 (by rw [hc]; exact g3) (fun _ j v' T hj hcj hbit => hl _ (List.mem_cons_self) j v' T hj hcj hbit o g1) (fun _ q hq => (hb.out q hq).imp id fun h => h o g1) ⟨fun _ h => h,fun h => by rw [hc] at h; cases h⟩ h1,fun q hq j v' T hj hcj hbit => ?_,h2⟩
 cases j with
 | zero => rw [Nat.add_zero] at hcj; simp only at hcj; rw [hc] at hcj; cases hcj
 | succ j =>
  rw [show i + (j + 1) = i + 1 + j by omega] at hcj hbit
  exact hl q (List.mem_cons_of_mem _ hq) j v' T (by simpa using hj) hcj hbit
theorem f_op (ho : OpAt ops i dst op none) (hs : ∀ cs b,op ≠ .select cs b) (hl : ((ops[i]?).map (fun o => o.looksAt ops)) = some ts) (hop : ∀ (o : Oper) (T : HS),o.op = op → OpOk P base W0 o (a.mask ts) T v T) : XAt P base W0 β0 ops 0 i a S dst v S := by
 obtain ⟨o,h1,h2,h3,h4⟩ := ho.out
 rw [h1] at hl; cases hl
 exact ⟨o,h1,h2,rfl,fun T => .inl ⟨by unfold Wants; rw [h4]; trivial,.inl ⟨by rw [h3]; exact hs,hop o T h3⟩⟩⟩
theorem r_op (ho : OpAt ops i dst op none) (hs : ∀ cs b,op ≠ .select cs b) (hl : ((ops[i]?).map (fun o => o.looksAt ops)) = some ts) (hop : ∀ o : Oper,o.op = op → OpOk P base W0 o (a.mask ts) S v S) : XAt P base W0 β0 ops 1 i a S dst v S := by
 obtain ⟨o,h1,h2,h3,h4⟩ := ho.out
 rw [h1] at hl; cases hl
 exact ⟨o,h1,h2,rfl,.inl ⟨by unfold Wants; rw [h4]; trivial,.inl ⟨by rw [h3]; exact hs,hop o h3⟩⟩⟩
theorem e_op (ho : OpAt ops i dst op none) (hs : ∀ cs b,op ≠ .select cs b) (hl : ((ops[i]?).map (fun o => o.looksAt ops)) = some ts) (hop : ∀ o : Oper,o.op = op → OpOk P base W0 o (a.mask ts) S v S') : XAt P base W0 β0 ops 2 i a S dst v S' := by
 obtain ⟨o,h1,h2,h3,h4⟩ := ho.out
 rw [h1] at hl; cases hl
 exact ⟨o,h1,h2,.inl ⟨by unfold Wants; rw [h4]; trivial,.inl ⟨by rw [h3]; exact hs,hop o h3⟩⟩⟩
variable {j : Nat} {t : Tmp} {g c : Bool}
variable {fx : Operand} {xs : Array Operand} {tys : Array TypeId} {fv : HV} {ws : List HV}
end
end Go.Proofs.YtfningkbcfhheaaGreatDoor.HL
namespace Go.Proofs.YtfningkbcfhheaaGreatDoor.HL
theorem w64_id {n : Int} (h1 : -9223372036854775808 ≤ n) (h2 : n ≤ 9223372036854775807) : w64 n = n := by
 simp only [w64,IntKind.wrap,IntKind.signed,IntKind.bits]
 simp
 omega
theorem sat_lt {s : List UInt8} {i : Nat} (h : i < s.length) : sat s (i : Int) = some s[i] := by
 simp [sat,h]
structure Fr (n : Nat) (S S' : HS) : Prop where
 le : S.next ≤ S'.next
 eq : ∀ id,id < n → S'.heap id = S.heap id
theorem Fr.refl (n : Nat) (S : HS) : Fr n S S := ⟨Nat.le_refl _,fun _ _ => rfl⟩
theorem Fr.trans {n : Nat} {A B C : HS} (h : Fr n A B) (k : Fr n B C) : Fr n A C := ⟨Nat.le_trans h.le k.le,fun i hi => (k.eq i hi).trans (h.eq i hi)⟩
theorem Fr.mono {n m : Nat} {A B : HS} (h : Fr n A B) (hm : m ≤ n) : Fr m A B := ⟨h.le,fun i hi => h.eq i (Nat.lt_of_lt_of_le hi hm)⟩
theorem Fr.newM {n : Nat} {S : HS} (h : n ≤ S.next) (o : HObj) (m : Nat) : Fr n S (S.newM o m) := ⟨Nat.le_succ _,fun i hi => by simp [HS.newM,show i ≠ S.next by omega]⟩
theorem Fr.new {n : Nat} {S : HS} (h : n ≤ S.next) (o : HObj) : Fr n S (S.new o) := Fr.newM h o 0
theorem Fr.put {n id : Nat} {S : HS} (h : n ≤ id) (o : HObj) : Fr n S (S.put id o) := ⟨Nat.le_refl _,fun i hi => by simp [HS.put,show i ≠ id by omega]⟩
theorem new_next (S : HS) (o : HObj) : (S.new o).next = S.next + 1 := rfl
theorem put_next (S : HS) (id : Nat) (o : HObj) : (S.put id o).next = S.next := rfl
theorem new_hereM (S : HS) (o : HObj) (m : Nat) : (S.newM o m).heap S.next = o := by simp [HS.newM]
theorem new_here (S : HS) (o : HObj) : (S.new o).heap S.next = o := new_hereM S o 0
theorem new_old {S : HS} {id : Nat} (o : HObj) (h : id < S.next) : (S.new o).heap id = S.heap id := by simp [HS.new,HS.newM,show id ≠ S.next by omega]
theorem new_oldM {S : HS} {id : Nat} (o : HObj) (m : Nat) (h : id < S.next) : (S.newM o m).heap id = S.heap id := by simp [HS.newM,show id ≠ S.next by omega]
theorem new_nextM (S : HS) (o : HObj) (m : Nat) : (S.newM o m).next = S.next + 1 := rfl
theorem put_here (S : HS) (id : Nat) (o : HObj) : (S.put id o).heap id = o := by simp [HS.put]
theorem put_other {S : HS} {i id : Nat} (o : HObj) (h : i ≠ id) : (S.put id o).heap i = S.heap i := by simp [HS.put,h]
inductive Vec (n : Nat) (S : HS) (z : Nat) : Sl → List (List HV) → Prop
 | nil {c : Option Nat} : Vec n S z ⟨none,0,c⟩ []
 | open_ {id : Nat} {rows : List (List HV)} (h : S.heap id = .cells z rows true) (hn : n ≤ id) (hl : id < S.next) : Vec n S z ⟨some (id,0),rows.length,none⟩ rows
 | capped {id c : Nat} {rows all : List (List HV)} (h : S.heap id = .cells z all true) (hn : n ≤ id) (hl : id < S.next) (hc : all.length = c) (hr : rows.length ≤ c) (ht : all.take rows.length = rows) : Vec n S z ⟨some (id,0),rows.length,some c⟩ rows
theorem Vec.len {n z : Nat} {S : HS} {s : Sl} {rows : List (List HV)} (h : Vec n S z s rows) : s.len = rows.length := by cases h <;> rfl
theorem Vec.frame {n z m : Nat} {S S' : HS} {s : Sl} {rows : List (List HV)} (h : Vec n S z s rows) (hf : Fr m S S') (hm : S.next ≤ m) : Vec n S' z s rows := by
 cases h with
 | nil => exact .nil
 | open_ h hn hl => exact .open_ (by rw [hf.eq _ (by omega)]; exact h) hn (Nat.lt_of_lt_of_le hl hf.le)
 | capped h hn hl hc hr ht => exact .capped (by rw [hf.eq _ (by omega)]; exact h) hn (Nat.lt_of_lt_of_le hl hf.le) hc hr ht
theorem Vec.new {n z : Nat} {S : HS} {s : Sl} {rows : List (List HV)} (h : Vec n S z s rows) (o : HObj) : Vec n (S.new o) z s rows := h.frame (Fr.new (Nat.le_refl _) o) (Nat.le_refl _)
theorem Vec.rows {n z : Nat} {S : HS} {s : Sl} {rows : List (List HV)} (h : Vec n S z s rows) : S.rows s z = some rows := by
 cases h with
 | nil => simp [HS.rows]
 | open_ h hn hl => simp [HS.rows,h]
 | capped h hn hl hc hr ht => simp [HS.rows,h,ht]; omega
theorem Vec.app {n z : Nat} {S : HS} {s : Sl} {rows new : List (List HV)} (h : Vec n S z s rows) (hn : n ≤ S.next) (hl : rows.length + new.length ≤ 2147483648) : ∃ s' S',S.app s new z = some (s',S') ∧ Vec n S' z s' (rows ++ new) ∧ Fr n S S' := by
 unfold HS.app
 by_cases he : new = []
 ·subst he; rw [if_pos rfl]; exact ⟨s,S,rfl,by simpa using h,Fr.refl _ _⟩
 rw [if_neg he,if_pos (by rw [h.len]; exact hl)]
 have hne : 0 < new.length := List.length_pos_iff.2 he
 cases h with
 | nil =>
  refine ⟨_,_,rfl,?_,Fr.new hn _⟩
  exact .open_ (new_here _ _) hn (by simp [new_next])
 | @open_ id _ h hid hidl =>
  simp only [h,if_true]
  by_cases hfit : 0 + rows.length + new.length ≤ rows.length
  ·exfalso; omega
  rw [if_neg hfit,if_pos (by simp)]
  refine ⟨_,_,rfl,?_,(Fr.put hid _).trans (Fr.newM (by rw [put_next]; exact hn) _ _)⟩
  have hv : ((S.put id .dead).newM (.cells z (rows.drop 0 ++ new) true) (mfg (S.mrk id))).heap S.next = .cells z (rows ++ new) true := new_hereM _ _ _
  have := Vec.open_ (n := n) (z := z) hv hn (by simp [new_nextM,put_next])
  simpa using this
 | @capped id c _ all h hid hidl hc hr ht =>
  simp only [h,if_true]
  by_cases hfit : rows.length + new.length ≤ c
  ·rw [if_pos hfit]
   refine ⟨_,_,rfl,?_,Fr.put hid _⟩
   have hlen : (splice all (0 + rows.length) new).length = c := by
    simp [splice]; omega
   have e : (rows ++ new).length = rows.length + new.length := by simp
   rw [← e]
   refine .capped (put_here _ _ _) hid hidl hlen (by rw [e]; exact hfit) ?_
   unfold splice
   rw [Nat.zero_add,ht,e,List.take_left' (by simp)]
  ·rw [if_neg hfit]
   refine ⟨_,_,rfl,?_,Fr.new hn _⟩
   have hv : (S.new (.cells z ((all.drop 0).take rows.length ++ new) true)).heap S.next = .cells z (rows ++ new) true := by rw [List.drop_zero,ht]; exact new_here _ _
   have := Vec.open_ (n := n) (z := z) hv hn (by simp [new_next])
   simpa using this
theorem Vec.lit {n z : Nat} {S : HS} (rows : List (List HV)) (hn : n ≤ S.next) : Vec n (S.lit rows z).2 z (S.lit rows z).1 rows := by
 exact .capped (new_here _ _) hn (Nat.lt_succ_self _) rfl (Nat.le_refl _) (List.take_length ..)
theorem Vec.make {n : Nat} {S : HS} {c : Int} {zr : List HV} (hn : n ≤ S.next) (hc : 0 ≤ c) (hc2 : c ≤ 2147483648) : ∃ s S',S.make 0 c zr = some (s,S') ∧ Vec n S' zr.length s [] ∧ Fr n S S' := by
 have e : S.make 0 c zr = some (⟨some (S.next,0),0,some c.toNat⟩,S.new (.cells zr.length (List.replicate c.toNat zr) true)) := by rw [HS.make,if_pos ⟨Int.le_refl _,hc,hc2⟩]; rfl
 exact ⟨_,_,e,.capped (rows := []) (new_here _ _) hn (Nat.lt_succ_self _) (by simp) (Nat.zero_le _) rfl,Fr.new hn _⟩
theorem bytesOf_rows : ∀ (t : List UInt8),bytesOf (bytesRows t) = some t := by
 intro t
 induction t with
 | nil => rfl
 | cons b t ih =>
  unfold bytesOf bytesRows at ih ⊢
  rw [List.map_cons,List.mapM_cons,ih]
  simp [byteRow]
theorem Vec.text {n : Nat} {S : HS} {s : Sl} {t : List UInt8} (h : Vec n S 1 s (bytesRows t)) : S.text s = some t := by
 unfold HS.text
 rw [h.rows,Option.bind_some,bytesOf_rows]
theorem bytesRows_len (s : List UInt8) : (bytesRows s).length = s.length := by simp [bytesRows]
end Go.Proofs.YtfningkbcfhheaaGreatDoor.HL
