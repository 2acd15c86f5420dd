/- The layer HL, part 11: statements whose order is open. The layer HL, part 12: what printed functions are made of. The layer HL, part 13: more rules for printed functions. -/
import Derived.Orders
import Derived.Test.YtbmfomkfmpppiaaGreatPart2
namespace Go.Proofs.YtbmfomkfmpppiaaGreat.HL
open Go.RowKit (Below)
section
variable {P : Program} {base : Nat} {W0 : World} {β0 : Bt} {f : FuncId} {ro : Option Nat} {k : List Item} {S : HS} {R : HV → HS → Prop} {ops : Array Oper}
def Zaet : List HV → List Tmp → Nat → List HV
 | [],_,_ => []
 | v :: vs,ts,i => (if ts.contains i then v else .tup []) :: Zaet vs ts (i + 1)
def HAct.mask (a : HAct) (ts : List Tmp) : HAct := { tmps := Zaet a.tmps ts 0,defers := [] }
theorem Zaeu : ∀ (vs : List HV) (ts : List Tmp) (i : Nat),(Zaet vs ts i).length = vs.length
 | [],_,_ => rfl
 | v :: vs,ts,i => by simp [Zaet,Zaeu vs]
theorem Zaas : ∀ (vs : List HV) (ts : List Tmp) (i j : Nat),(Zaet vs ts i)[j]? = vs[j]?.map fun v => if ts.contains (i + j) then v else .tup []
 | [],_,_,_ => by simp [Zaet]
 | v :: vs,ts,i,0 => by simp [Zaet]
 | v :: vs,ts,i,j + 1 => by simp only [Zaet,List.getElem?_cons_succ]; rw [Zaas vs]; congr 2; funext x; rw [show i + 1 + j = i + (j + 1) by omega]
def Zafu (a : Act) (ts : List Tmp) : Act := { tmps := a.tmps.mapIdx fun i v => if ts.contains i then v else undef,defers := [] }
theorem mask_rel {β : Bt} {a : HAct} {a' : Act} (h : ARel β a a') (ts : List Tmp) : ARel β (a.mask ts) (Zafu a' ts) := by
 refine ⟨⟨by simp [HAct.mask,Zafu,Zaeu,h.tmps.1],fun i v v' h1 h2 => ?_⟩,⟨rfl,fun i d d' h => by simp [HAct.mask] at h⟩⟩
 simp only [HAct.mask,Zaas,Nat.zero_add] at h1
 simp only [Zafu,Array.getElem?_mapIdx] at h2
 cases hv : a.tmps[i]? with
 | none => rw [hv] at h1; cases h1
 | some x =>
  obtain ⟨x',q1,q2⟩ := h.tmps.get hv
  rw [hv] at h1
  rw [q1] at h2
  simp only [Option.map_some,Option.some.injEq] at h1 h2
  subst h1 h2
  split
  ·exact q2
  ·exact VRel.undef β
theorem Zaik {a : Act} {ts : List Tmp} {x : Operand} (h : ∀ t,x = .tmp t → ts.contains t = true) : (Zafu a ts).eval x = a.eval x := by
 cases x with
 | tmp t =>
  have := h t rfl
  simp only [Act.eval,Zafu,Array.getD_eq_getD_getElem?,Array.getElem?_mapIdx]
  cases ht : a.tmps[t]? with
  | none => rfl
  | some v => simp only [Option.map_some,this,if_true]
 | _ => rfl
theorem Zadt {a : HAct} {ts : List Tmp} {t : Tmp} {v : HV} (h : (a.mask ts).tmps[t]? = some v) (ht : ts.contains t = true) : a.tmps[t]? = some v := by
 simp only [HAct.mask,Zaas,Nat.zero_add,ht,if_true] at h
 cases hv : a.tmps[t]? with
 | none => rw [hv] at h; cases h
 | some x => rw [hv] at h; simpa using h
theorem Ev.unmask {a : HAct} {ts : List Tmp} {x : Operand} {v : HV} (h : Ev (a.mask ts) x v) (hx : ∀ t,x = .tmp t → ts.contains t = true) : Ev a x v := by
 cases h with
 | tmp ht => exact .tmp (Zadt ht (hx _ rfl))
 | const hc => exact .const hc
 | func f => exact .func f
theorem Zaac {o : Oper} {t : Tmp} (h : Operand.tmp t ∈ o.op.operands) : (o.looksAt ops).contains t = true := by
 simp only [List.contains_iff_mem,Oper.looksAt,Yab,List.mem_filterMap]
 exact .inl ⟨.tmp t,by simpa using h,rfl⟩
theorem Zafv {o : Oper} {g : Nat} {b : Bool} {t : Tmp} (h : o.guard = some (g,b)) (ht : (ops[g]?).bind (·.dst) = some t) : (o.looksAt ops).contains t = true := by
 simp only [List.contains_iff_mem,Oper.looksAt,Yab,h,ht]
 exact .inr (by simp)
inductive Anc (ops : Array Oper) : Nat → Nat → Prop
 | edge {i j : Nat} {o : Oper} {e : Edge} (ho : ops[j]? = some o) (he : e ∈ o.after) (hb : Region.binds .any e = true) (hi : e.on = i) : Anc ops i j
 | trans {i j l : Nat} (h : Anc ops i j) (k : Anc ops j l) : Anc ops i l
theorem Zail (L : List Oper) : ∀ (acc : Array Nat) (n : Nat),acc.size = n → (∀ j,j < n → ∀ i,(acc.getD j 0).testBit i = true → Anc ops i j) → (∀ j,L[j]? = ops[n + j]?) →
  ∀ j i,((L.foldl (fun acc o => acc.push (o.after.foldl (fun s e => if Region.binds .any e then s ||| 2 ^ e.on ||| acc.getD e.on 0 else s) 0)) acc).getD j 0).testBit i = true → Anc ops i j := by
 induction L with
 | nil =>
  intro acc n hn hacc _ j i h
  simp only [List.foldl_nil] at h
  by_cases hj : j < n
  ·exact hacc j hj i h
  ·rw [Array.getD_eq_getD_getElem?,Array.getElem?_eq_none (by omega)] at h; simp at h
 | cons o L ih =>
  intro acc n hn hacc hL j i h
  simp only [List.foldl_cons] at h
  have ho : ops[n]? = some o := by simpa using (hL 0).symm
  refine ih _ (n + 1) (by simp [hn]) (fun j hj i h => ?_) (fun j => by have := hL (j + 1); simpa [Nat.add_assoc,Nat.add_comm 1 j] using this) j i h
  by_cases hjn : j < n
  ·refine hacc j hjn i ?_
   rw [Array.getD_eq_getD_getElem?,Array.getElem?_push,if_neg (by omega)] at h
   rw [Array.getD_eq_getD_getElem?]; exact h
  ·obtain rfl : j = n := by omega
   rw [Array.getD_eq_getD_getElem?,Array.getElem?_push,if_pos hn.symm] at h
   simp only [Option.getD_some] at h
   rw [← Array.foldl_toList] at h
   have key : ∀ (es : List Edge) (s : Nat),(∀ e ∈ es,e ∈ o.after) → (∀ i,s.testBit i = true → Anc ops i j) → ∀ i,(es.foldl (fun s e => if Region.binds .any e then s ||| 2 ^ e.on ||| acc.getD e.on 0 else s) s).testBit i = true → Anc ops i j := by
    intro es
    induction es with
    | nil => intro s _ hs i h; exact hs i h
    | cons e es ihe =>
     intro s hm hs i h
     simp only [List.foldl_cons] at h
     refine ihe _ (fun e' he' => hm e' (by simp [he'])) (fun i h => ?_) i h
     split at h
     ·rename_i hb
      simp only [Nat.testBit_or,Nat.testBit_two_pow,Bool.or_eq_true,decide_eq_true_eq] at h
      rcases h with (h | h) | h
      ·exact hs i h
      ·exact .edge ho (hm e (by simp)) hb h
      ·by_cases hlt : e.on < j
       ·exact .trans (hacc e.on hlt i h) (.edge ho (hm e (by simp)) hb rfl)
       ·rw [Array.getD_eq_getD_getElem?,Array.getElem?_eq_none (by omega)] at h; simp at h
     ·exact hs i h
   exact key o.after.toList 0 (fun e he => by simpa using he) (fun i h => by simp at h) i h
theorem Zz6 {i j : Nat} (h : ((Region.before ops).getD j 0).testBit i = true) : Anc ops i j := by
 unfold Region.before at h
 rw [← Array.foldl_toList] at h
 exact Zail ops.toList #[] 0 rfl (fun j hj => by omega) (fun j => by simp) j i h
def Closed (ops : Array Oper) (X : Nat → Prop) : Prop := ∀ j o,X j → ops[j]? = some o → ∀ e ∈ o.after,Region.binds .any e = true → X e.on
theorem Closed.anc {X : Nat → Prop} (h : Closed ops X) {i j : Nat} (ha : Anc ops i j) : X j → X i := by
 induction ha with
 | edge ho he hb hi => intro hj; have := h _ _ hj ho _ he hb; rw [hi] at this; exact this
 | trans _ _ h1 h2 => intro hl; exact h1 (h2 hl)
structure Agrees (ops : Array Oper) (a0 : HAct) (val : Nat → HV) (m : Nat) (X : Nat → Prop) (B : HAct) : Prop where
 len : B.tmps.length = a0.tmps.length
 defers : B.defers = a0.defers
 made : ∀ i o t,i < m → X i → ops[i]? = some o → o.dst = some t → B.tmps[t]? = (a0.tmps.set t (val i))[t]?
 rest : ∀ t,(∀ i o,i < m → X i → ops[i]? = some o → o.dst ≠ some t) → B.tmps[t]? = a0.tmps[t]?
theorem Agrees.congr {a0 : HAct} {val : Nat → HV} {m : Nat} {X Y : Nat → Prop} {B C : HAct} (h : Agrees ops a0 val m X B) (k : Agrees ops a0 val m Y C) {t : Tmp} (ht : ∀ i o,i < m → ops[i]? = some o → o.dst = some t → (X i ↔ Y i)) :
  B.tmps[t]? = C.tmps[t]? := by
 by_cases hw : ∃ i o,i < m ∧ X i ∧ ops[i]? = some o ∧ o.dst = some t
 ·obtain ⟨i,o,h1,h2,h3,h4⟩ := hw
  rw [h.made i o t h1 h2 h3 h4,k.made i o t h1 ((ht i o h1 h3 h4).1 h2) h3 h4]
 ·rw [h.rest t fun i o h1 h2 h3 h4 => hw ⟨i,o,h1,h2,h3,h4⟩,k.rest t fun i o h1 h2 h3 h4 => hw ⟨i,o,h1,(ht i o h1 h3 h4).2 h2,h3,h4⟩]
theorem Zahj {B C : HAct} {ts : List Tmp} (hl : B.tmps.length = C.tmps.length) (h : ∀ t,ts.contains t = true → B.tmps[t]? = C.tmps[t]?) : B.mask ts = C.mask ts := by
 unfold HAct.mask
 congr 1
 apply List.ext_getElem?
 intro j
 rw [Zaas,Zaas,Nat.zero_add]
 by_cases hj : ts.contains j = true
 ·rw [h j hj]
 ·simp only [Bool.not_eq_true] at hj
  simp only [hj]
  by_cases hlt : j < B.tmps.length
  ·rw [List.getElem?_eq_getElem hlt,List.getElem?_eq_getElem (hl ▸ hlt)]; rfl
  ·rw [List.getElem?_eq_none (by omega),List.getElem?_eq_none (by omega)]
theorem Agrees.eq {a0 : HAct} {val : Nat → HV} {m : Nat} {X Y : Nat → Prop} {B C : HAct} (h : Agrees ops a0 val m X B) (k : Agrees ops a0 val m Y C) (hXY : ∀ i,i < m → (X i ↔ Y i)) : B = C := by
 obtain ⟨bt,bd⟩ := B
 obtain ⟨ct,cd⟩ := C
 have e1 : bt = ct := by
  apply List.ext_getElem?
  intro t
  exact h.congr k (t := t) fun i o h1 _ _ => hXY i h1
 have e2 : bd = cd := h.defers.trans k.defers.symm
 subst e1 e2
 rfl
theorem Zaim {md : Region.Mode} {e : Edge} (h : Region.binds .any e = true) : Region.binds md e = true := by
 unfold Region.binds at h ⊢
 split <;> simp_all
theorem Zaev {md : Region.Mode} {listed : Array Bool} {i : Nat} (h : i ∈ Region.ready md ops listed) : i < ops.size ∧ listed.getD i true = false ∧ ∀ o,ops[i]? = some o → ∀ e ∈ o.after,Region.binds .any e = true → listed.getD e.on false = true := by
 unfold Region.ready at h
 simp only [Ya8,List.mem_range,Bool.and_eq_true,Bool.not_eq_true'] at h
 obtain ⟨h1,h2,h3⟩ := h
 refine ⟨h1,h2,fun o ho e he hb => ?_⟩
 rw [ho] at h3
 simp only [Option.map_some,Option.getD_some,Array.all_eq_true',Bool.or_eq_true,Bool.not_eq_true'] at h3
 rcases h3 e he with h | h
 ·rw [Zaim hb] at h; cases h
 ·exact h
theorem Zain {md : Region.Mode} {listed : Array Bool} {fuel t : Nat} : Region.linearise.go md ops (fuel + 1) t listed [] =
  match (Region.ready md ops listed)[t % (Region.ready md ops listed).length]? with
  | some i => i :: Region.linearise.go md ops fuel (t / (Region.ready md ops listed).length) (listed.setIfInBounds i true) []
  | none => [] := by
 simp only [Region.linearise.go]
 change (match (Region.ready md ops listed)[t % (Region.ready md ops listed).length]? with
  | some i => Region.linearise.go md ops fuel (t / (Region.ready md ops listed).length) (listed.setIfInBounds i true) [i]
  | none => [].reverse) = _
 cases (Region.ready md ops listed)[t % (Region.ready md ops listed).length]? with
 | none => rfl
 | some i => simp only []; rw [linearise_go_acc]; rfl
end
def letv {α β : Type} (x : α) (f : α → β) : β := f x
theorem leto {α β : Type} {x : α} {f : α → β} {r : β} (h : letv x f = r) : ∃ y,y = x ∧ f y = r := ⟨x,rfl,h⟩
theorem ifc {α : Type} {c : Prop} [Decidable c] {x y : α} {r : α} (h : (if c then x else y) = r) : (c ∧ x = r) ∨ (¬ c ∧ y = r) := by
 split at h
 ·rename_i hc; exact .inl ⟨hc,h⟩
 ·rename_i hc; exact .inr ⟨hc,h⟩
theorem bfalse {b : Bool} (h : ¬ b = true) : b = false := by cases b <;> simp_all
abbrev HA.fld (a : HA) (j : Nat) : HA := ⟨a.id,a.i,a.j + j⟩
abbrev HA.cell0 (id : Nat) : HA := ⟨id,0,0⟩
def HS.ldI (S : HS) (k : IntKind) (ad : HA) : Option Int := (S.get ad).bind (dI k)
def HS.ldB (S : HS) (ad : HA) : Option Bool := (S.get ad).bind dB
def HS.ldS (S : HS) (ad : HA) : Option (List UInt8) := (S.get ad).bind dS
def HS.ldP (S : HS) (ad : HA) : Option (Option HA) := (S.get ad).bind dP
def HS.ldSl (S : HS) (ad : HA) : Option Sl := (S.get ad).bind dSl
def HS.ldM (S : HS) (ad : HA) : Option (Option Nat) := (S.get ad).bind dM
def HS.ldF (S : HS) (ad : HA) : Option HV := (S.get ad).bind dF
def sat (s : List UInt8) (n : Int) : Option UInt8 := if 0 ≤ n then s[n.toNat]? else none
abbrev mn (m n : Int) : Int := if n < m then n else m
abbrev mx (m n : Int) : Int := if n > m then n else m
def Zadb (S : HS) (ad : HA) : Nat → List HV → Prop
 | _,[] => True
 | j,v :: vs => S.get (ad.fld j) = some v ∧ Zadb S ad (j + 1) vs
section
variable {P : Program} {base : Nat} {W0 : World} {a : HAct} {S : HS} {o : Oper}
theorem Zxq {k : IntKind} {ad : HA} {n : Int} (h : S.ldI k ad = some n) : S.get ad = some (.int k n) := by
 obtain ⟨v,h1,h2⟩ := bindo h; rw [h1,Zaa2 h2]
theorem Zya {ad : HA} {n : Bool} (h : S.ldB ad = some n) : S.get ad = some (.bool n) := by
 obtain ⟨v,h1,h2⟩ := bindo h; rw [h1,Zaak h2]
theorem Zx4 {ad : HA} {n : List UInt8} (h : S.ldS ad = some n) : S.get ad = some (.str n) := by
 obtain ⟨v,h1,h2⟩ := bindo h; rw [h1,Zaes h2]
theorem Zx0 {ad : HA} {n : Option HA} (h : S.ldP ad = some n) : S.get ad = some (.ptr n) := by
 obtain ⟨v,h1,h2⟩ := bindo h; rw [h1,Zy3 h2]
theorem Zxj {ad : HA} {n : Sl} (h : S.ldSl ad = some n) : S.get ad = some n.hv := by
 obtain ⟨v,h1,h2⟩ := bindo h; rw [h1,dSl_out h2]
theorem Zaa8 {ad : HA} {n : Option Nat} (h : S.ldM ad = some n) : S.get ad = some (.map n) := by
 obtain ⟨v,h1,h2⟩ := bindo h; rw [h1,dM_out h2]
theorem Zach {ad : HA} {n : HV} (h : S.ldF ad = some n) : S.get ad = some n := by
 obtain ⟨v,h1,h2⟩ := bindo h; rw [h1,Zaal h2]
theorem Zaio {s : List UInt8} {n : Int} {b : UInt8} (h : sat s n = some b) : 0 ≤ n ∧ s[n.toNat]? = some b := by
 unfold sat at h; split at h
 ·rename_i hn; exact ⟨hn,h⟩
 ·cases h
theorem Zaip {ad : HA} {vs : List HV} (h : Zadb S ad 0 vs) (hne : 0 < vs.length) : S.gets ad vs.length = some vs := by
 have key : ∀ (vs : List HV) (j : Nat),Zadb S ad j vs → ∀ i v,vs[i]? = some v → S.get (ad.fld (j + i)) = some v := by
  intro vs
  induction vs with
  | nil => intro j _ i v hv; simp at hv
  | cons x vs ih =>
   intro j hg i v hv
   cases i with
   | zero => simp at hv; subst hv; exact hg.1
   | succ i => rw [show j + (i + 1) = j + 1 + i by omega]; exact ih (j + 1) hg.2 i v (by simpa using hv)
 have hk := key vs 0 h
 cases vs with
 | nil => simp at hne
 | cons v0 vs' =>
  have h0 := hk 0 v0 rfl
  simp only [HS.get,Nat.add_zero] at h0
  unfold HS.gets
  cases hr : S.row ad.id ad.i with
  | none => simp [hr] at h0
  | some r =>
   have hall : ∀ i v,(v0 :: vs')[i]? = some v → r[ad.j + i]? = some v := by
    intro i v hv
    have := hk i v hv
    simp only [HS.get,hr,obs,Nat.zero_add] at this
    exact this
   have hlast := hall vs'.length ((v0 :: vs')[vs'.length]'(by simp)) (by rw [List.getElem?_eq_getElem])
   have hlt : ad.j + vs'.length < r.length := (List.getElem?_eq_some_iff.1 hlast).1
   simp only [obs]
   rw [if_pos (by simp; omega)]
   congr 1
   apply List.ext_getElem?
   intro i
   rw [List.getElem?_take]
   by_cases hi : i < (v0 :: vs').length
   ·rw [if_pos hi,List.getElem?_drop,hall i _ (List.getElem?_eq_getElem hi),List.getElem?_eq_getElem hi]
   ·rw [if_neg hi,List.getElem?_eq_none (by omega)]
theorem Zxh {c x y : Operand} {v : HV} {b : Bool} (ho : o.op = .pick c x y) (hc : Ev a c (.bool b)) (hb : b = true) (hx : Ev a x v) : OpOk P base W0 o a S v S := Zaid ho (hb ▸ hc) hx
theorem Zxm {c x y : Operand} {v : HV} {b : Bool} (ho : o.op = .pick c x y) (hc : Ev a c (.bool b)) (hb : b = false) (hx : Ev a y v) : OpOk P base W0 o a S v S := Zaie ho (hb ▸ hc) hx
theorem Zadu {x : Operand} {e : Option HA} {q : HA} (ho : o.op = .nilCheck x) (hx : Ev a x (.ptr e)) (he : e = some q) : OpOk P base W0 o a S (.ptr (some q)) S := by
 subst he; exact Zafq ho hx ⟨q,.inl rfl⟩
theorem Zxs {t : TypeId} {x : Operand} {e : Option HA} {ad : HA} {v : HV} (ho : o.op = .load t x) (ht : Scalar P t) (hx : Ev a x (.ptr e)) (he : e = some ad) (hv : S.get ad = some v) : OpOk P base W0 o a S v S := by
 subst he; exact ok_load ho ht hx hv
theorem Zyl {t : TypeId} {x : Operand} {e : Option HA} {ad : HA} {vs : List HV} (ho : o.op = .load t x) (ht : IsAgg P t vs.length) (hx : Ev a x (.ptr e)) (he : e = some ad) (hv : Zadb S ad 0 vs) (hn : 0 < vs.length) : OpOk P base W0 o a S (.agg vs) S := by
 subst he; exact Zafs ho ht hx (Zaip hv hn)
theorem Zxk {t : TypeId} {x y : Operand} {e : Option HA} {ad : HA} {v : HV} {S' : HS} (ho : o.op = .store t x y) (ht : ∃ i,P.info? t = some i ∧ i.size = v.cells.length) (hx : Ev a x (.ptr e)) (he : e = some ad) (hy : Ev a y v) (hf : v.cells.all (·.flat) = true)
  (hv : S.sets ad v.cells = some S') : OpOk P base W0 o a S (.tup []) S' := by
 subst he; exact ok_store ho ht hx hy rfl (fun u hu => List.all_eq_true.1 hf u hu) hv
theorem Zac3 {s : TypeId} {x : Operand} {f off u n : Nat} {e : Option HA} {ad : HA} (ho : o.op = .fieldAddr s x f) (hfi : Zxy P s f = some (off,u,n)) (hn : n ≠ 0) (hx : Ev a x (.ptr e)) (he : e = some ad) : OpOk P base W0 o a S (.ptr (some (ad.fld off))) S := by
 subst he; exact Zaeq ho hfi hn hx
theorem Zahk {t : TypeId} {zv : Value} {r : List HV} (ho : o.op = .alloc t) (ht : (P.info? t).map (·.zero) = some (some zv)) (hz : ∀ β,VRels β r zv.cells) (hr : 0 < r.length) (hf : r.all (·.flat) = true) :
  OpOk P base W0 o a S (.ptr (some (.cell0 S.next))) (S.new (.cells r.length [r] true)) := ok_alloc ho ht hz hr (fun v hv => List.all_eq_true.1 hf v hv)
theorem ok_box_s {t : TypeId} {x : Operand} {v : HV} (ho : o.op = .box t x) (hx : Ev a x v) (hr : 0 < v.cells.length) (hf : v.cells.all (·.flat) = true) :
  OpOk P base W0 o a S (.ptr (some (.cell0 S.next))) (S.new (.cells v.cells.length [v.cells] true)) := ok_box ho hx hr (fun u hu => List.all_eq_true.1 hf u hu)
theorem Zxp {t e z : Nat} {zr : List HV} (he : ElemAt P t e z zr) {n : Nat} {parts : Array (Nat × Operand)} {xs : List Operand} {vs : List HV} {p : Sl × HS} (ho : o.op = .buildSlice t n parts) (hp : parts.toList = xs.zipIdx.map fun p => (p.2,p.1)) (hn : xs.length = n) (hsm : n * z ≤ 65536)
  (hx : Evs a xs.toArray vs) (hz : vs.all (fun v => v.cells.length == z) = true) (hf : vs.all (fun v => v.cells.all (·.flat)) = true) (hq : p = S.lit (vs.map HV.cells) z) :
  OpOk P base W0 o a S p.1.hv p.2 := by
 subst hq
 exact Zadr he ho hp hn hsm hx (fun v hv => by simpa using List.all_eq_true.1 hz v hv) (fun v hv u hu => List.all_eq_true.1 (List.all_eq_true.1 hf v hv) u hu)
theorem Zzv {t : TypeId} {x y : Operand} {s : List UInt8} {k : IntKind} {n : Int} {b : UInt8} (ho : o.op = .index t x y) (ht : P.underlying t = some .string) (hx : Ev a x (.str s)) (hy : Ev a y (.int k n)) (hb : sat s n = some b) : OpOk P base W0 o a S (.int .u8 b.toNat) S :=
 ok_index ho ht hx hy (Zaio hb).1 (Zaio hb).2
end
section
variable {P : Program} {base : Nat} {W0 : World} {β0 : Bt} {f : FuncId} {ro : Option Nat} {k : List Item} {R : HV → HS → Prop} {ops : Array Oper} {S : HS} {i : Nat} {a : HAct} {v : HV}
end
theorem Zabc {P : Program} {t n : Nat} (h1 : (match P.underlying t with | some (.struct _) => true | some (.array _ _) => true | _ => false) = true) (h2 : (P.info? t).map (·.size) = some n) : IsAgg P t n := by
 refine ⟨?_,size_mk' h2⟩
 cases h : P.underlying t with
 | none => rw [h] at h1; cases h1
 | some d => rw [h] at h1; cases d <;> simp at h1 <;> exact ⟨_,rfl,trivial⟩
def Zabv (P : Program) (t : TypeId) : Option (List (Nat × Nat)) :=
 match P.underlying t with
 | some (.struct fs) => fs.toList.mapM fun f => (P.info? f.type).map fun i => (f.offset,i.size)
 | _ => none
theorem Zyo {P : Program} {t : Nat} {pl : List (Nat × Nat)} {zr : List HV} {zv : Value} (h1 : Zabv P t = some pl) (h2 : (P.info? t).map (·.zero) = some (some zv)) (h3 : ∀ β,VRels β zr zv.cells) : StructAt P t pl zr := by
 unfold Zabv at h1
 split at h1
 ·rename_i fs hfs
  refine ⟨⟨fs,hfs,fun w => ?_⟩,?_⟩
  ·have key : ∀ (l : List Field) (pl : List (Nat × Nat)),(l.mapM fun f => (P.info? f.type).map fun i => (f.offset,i.size)) = some pl → (l.mapM (m := Sem) fun f => do pure (f.offset,← sizeOf f.type)).run P w = .ok pl w := by
    intro l
    induction l with
    | nil => intro pl h; simp at h; subst h; simp
    | cons f l ih =>
     intro pl h
     simp only [List.mapM_cons] at h
     cases hi : P.info? f.type with
     | none => rw [hi] at h; cases h
     | some i =>
      rw [hi] at h
      simp only [Option.map_some,Option.bind_eq_bind,obs] at h
      cases hl : l.mapM fun f => (P.info? f.type).map fun i => (f.offset,i.size) with
      | none => rw [hl] at h; cases h
      | some pl' =>
       rw [hl] at h
       simp at h
       subst h
       have := ih pl' hl
       simp only [List.mapM_cons,Sem.run_bind,Go.sizeOf,typeInfo,run_program,Result.andThen_ok,hi,Sem.run_pure] at this ⊢
       rw [this]
       rfl
   rw [← Array.toArray_toList (xs := fs),List.mapM_toArray]
   simp only [Sem.run_map,key fs.toList pl h1,Result.andThen_ok]
  ·cases hi : P.info? t with
   | none => rw [hi] at h2; cases h2
   | some q => rw [hi] at h2; exact ⟨q,zv,rfl,by simpa using h2,h3⟩
 ·cases h1
section
variable {P : Program} {base : Nat} {W0 : World} {β0 : Bt} {f : FuncId} {ro : Option Nat} {k : List Item} {a : HAct} {S : HS} {R : HV → HS → Prop} {o : Oper}
theorem Zx9 {t : TypeId} {zv : Value} {r : List HV} {S' : HS} (ho : o.op = .alloc t) (ht : (P.info? t).map (·.zero) = some (some zv)) (hz : ∀ β,VRels β r zv.cells) (hr : 0 < r.length) (hf : r.all (·.flat) = true) (hq : S' = S.new (.cells r.length [r] true)) :
  OpOk P base W0 o a S (.ptr (some (.cell0 S.next))) S' := hq ▸ Zahk ho ht hz hr hf
theorem Zyf {t : TypeId} {x : Operand} {v : HV} {S' : HS} (ho : o.op = .box t x) (hx : Ev a x v) (hr : 0 < v.cells.length) (hf : v.cells.all (·.flat) = true) (hq : S' = S.new (.cells v.cells.length [v.cells] true)) :
  OpOk P base W0 o a S (.ptr (some (.cell0 S.next))) S' := hq ▸ ok_box_s ho hx hr hf
theorem Zagq {v w : HV} (h : dF v = some w) : v = w ∧ w.cells = [w] ∧ w.flat = true := by
 cases v <;> simp [dF] at h <;> (subst h; exact ⟨rfl,rfl,rfl⟩)
theorem Zaci {t : TypeId} {x : Operand} {v w : HV} {S' : HS} (ho : o.op = .box t x) (hx : Ev a x v) (hF : dF v = some w) (hq : S' = S.new (.cells 1 [[w]] true)) : OpOk P base W0 o a S (.ptr (some (.cell0 S.next))) S' := by
 obtain ⟨rfl,h1,h2⟩ := Zagq hF
 exact Zyf ho hx (by rw [h1]; exact Nat.zero_lt_one) (by rw [h1]; simp [h2]) (by rw [h1]; exact hq)
theorem Zafw {t : TypeId} {x y : Operand} {e : Option HA} {ad : HA} {v w : HV} {S' : HS} (ho : o.op = .store t x y) (ht : ∃ i,P.info? t = some i ∧ i.size = 1) (hx : Ev a x (.ptr e)) (he : e = some ad) (hy : Ev a y v) (hF : dF v = some w) (hv : S.sets ad [w] = some S') : OpOk P base W0 o a S (.tup []) S' := by
 obtain ⟨rfl,h1,h2⟩ := Zagq hF
 exact Zxk ho (by rw [h1]; exact ht) hx he hy (by rw [h1]; simp [h2]) (by rw [h1]; exact hv)
def pcode : Option Code → Option Nat
 | none => some 0
 | some .ret => some 1
 | some (.exit id) => some (id + 2)
 | _ => none
theorem Zabw {q : Option Code} {n : Nat} (h : pcode q = some n) (hn : n = 0) : q = none := by
 subst hn
 unfold pcode at h
 split at h <;> simp_all
theorem Zagr {q : Option Code} {n : Nat} (h : pcode q = some n) (hn : n = 1) : q = some .ret := by
 subst hn
 unfold pcode at h
 split at h <;> simp_all
theorem Zyj : jumped none k = k := rfl
theorem Zyk {c : Code} : jumped (some c) k = .code c :: k := rfl
def args0 : List HV → Option Unit | [] => some () | _ => none
def Zaad : List HV → Option HV | [x] => some x | _ => none
def Zaae : List HV → Option (HV × HV) | [x,y] => some (x,y) | _ => none
def args3 : List HV → Option (HV × HV × HV) | [x,y,z] => some (x,y,z) | _ => none
theorem Zy7 {vs : List HV} {u : HV} (h : Zaad vs = some u) : vs = [u] := by
 unfold Zaad at h; split at h <;> simp_all
theorem Zzn {vs : List HV} {u : HV × HV} (h : Zaae vs = some u) : vs = [u.1,u.2] := by
 unfold Zaae at h; split at h
 ·cases h; rfl
 ·cases h
theorem Zaiq {vs : List HV} {u : HV × HV × HV} (h : args3 vs = some u) : vs = [u.1,u.2.1,u.2.2] := by
 unfold args3 at h; split at h
 ·cases h; rfl
 ·cases h
def dA1 : HV → Option HV | .agg [x] => some x | _ => none
def dA2 : HV → Option (HV × HV) | .agg [x,y] => some (x,y) | _ => none
def dA3 : HV → Option (HV × HV × HV) | .agg [x,y,z] => some (x,y,z) | _ => none
theorem dA2_out {v : HV} {u : HV × HV} (h : dA2 v = some u) : v = .agg [u.1,u.2] := by
 unfold dA2 at h; split at h
 ·cases h; rfl
 ·cases h
theorem Zair {v : HV} {u : HV × HV × HV} (h : dA3 v = some u) : v = .agg [u.1,u.2.1,u.2.2] := by
 unfold dA3 at h; split at h
 ·cases h; rfl
 ·cases h
theorem Zzy {l : Nat} {vs : List HV} {u0 : Unit} {ps : Array Tmp} {pl : List Tmp} {assign body : Code} (hl : LoopAt β0 l f a ps assign body) (hS : S.lp l = some u0) (hp : ps.toList = pl) (hn : vs.length = pl.length)
  (h : HRun P base W0 β0 f (some l) [.code assign,.beginRound,.code body] { tmps := HAct.params a.tmps pl vs,defers := [] } S R) : HInv P base W0 β0 (.fn (.yield l) [] []) vs S R := by
 subst hp
 exact q_yield hl hS (by simpa using hn) h
theorem gets_run {β : Bt} {w : World} (h : Rel base W0 β S w) {t : TypeId} {ad : HA} {vs : List HV} {n : Nat} (ht : IsAgg P t n) (hn : n = vs.length) (hv : Zadb S ad 0 vs) (h0 : 0 < vs.length) {a' : Value} (hp : VRel β (.ptr (some ad)) a') :
  ∃ v' ad',a' = .pointer (some ad') ∧ (loadVar t ad').run P w = .ok v' w ∧ VRel β (.agg vs) v' := by
 have hg := Zaip hv h0
 subst hn
 unfold HS.gets at hg
 cases hr : S.row ad.id ad.i with
 | none => rw [hr] at hg; cases hg
 | some r =>
  rw [hr,obs] at hg
  split at hg
  ·rename_i hle
   injection hg with hg
   obtain ⟨b,o1,z,n1,tot,arr,ty,fr,q1,q2,q3,q4,q5,q6⟩ := h.row hr
   have e := Zz5 hp (VRel.ptr (i := ad.i) (j := ad.j) q1)
   refine ⟨.agg (arr.extract (o1 + ad.i * z + ad.j) (o1 + ad.i * z + ad.j + vs.length)),_,e,?_,.agg ?_ ?_⟩
   ·have := Zy0 (P := P) (o := o1 + ad.i * z + ad.j) q2 vs.length 0 #[] (by omega)
    simp only [Nat.add_zero,Array.empty_append] at this
    simp [loadVar,ht.isAgg,ht.size,loadCells,this]
   ·simp; omega
   ·intro i v v' k1 k2
    rw [← hg,List.getElem?_take] at k1
    split at k1
    ·rw [List.getElem?_drop] at k1
     obtain ⟨_,v2,m1,m2⟩ := q6 _ _ k1
     rw [Array.getElem?_extract] at k2
     split at k2
     ·rw [show o1 + ad.i * z + ad.j + i = o1 + ad.i * z + (ad.j + i) by omega,m1] at k2
      cases k2; exact m2
     ·cases k2
    ·cases k1
  ·cases hg
inductive ResAt (P : Program) (a : HAct) (S : HS) : ResultVar → HV → Prop
 | tmp {t : Tmp} {v : HV} (h : a.tmps[t]? = some v) : ResAt P a S (.tmp t) v
 | cell {x : Tmp} {t : TypeId} {e : Option HA} {ad : HA} {v : HV} (h : a.tmps[x]? = some (.ptr e)) (he : e = some ad) (ht : Scalar P t) (hv : S.get ad = some v) : ResAt P a S (.cell x t) v
 | agg {x : Tmp} {t : TypeId} {e : Option HA} {ad : HA} {vs : List HV} (h : a.tmps[x]? = some (.ptr e)) (he : e = some ad) (ht : IsAgg P t vs.length) (hv : Zadb S ad 0 vs) (h0 : 0 < vs.length) : ResAt P a S (.cell x t) (.agg vs)
theorem ResAt.run {β : Bt} {w : World} {a' : Act} (hS : Rel base W0 β S w) (ha : ARel β a a') {r : ResultVar} {v : HV} (h : ResAt P a S r v) :
  ∃ v',Sem.run P (match r with | .tmp t => pure (a'.tmps.getD t undef) | .cell x t => do loadVar t (← asAddr (a'.tmps.getD x undef))) w = .ok v' w ∧ VRel β v v' := by
 cases h with
 | tmp h =>
  obtain ⟨v',g1,g2⟩ := ha.tmps.get h
  exact ⟨v',by simp [Array.getD_eq_getD_getElem?,g1],g2⟩
 | @cell x t e ad _ h he ht hv =>
  subst he
  obtain ⟨p',g1,g2⟩ := ha.tmps.get h
  obtain ⟨b,off,v',k1,k2,k3⟩ := hS.get hv
  have e := Zz5 g2 k1
  subst e
  exact ⟨v',by simp [Array.getD_eq_getD_getElem?,g1,asAddr,loadVar,ht.isAgg,k2],k3⟩
 | @agg x t e ad vs h he ht hv h0 =>
  subst he
  obtain ⟨p',g1,g2⟩ := ha.tmps.get h
  obtain ⟨v',ad',e,k2,k3⟩ := gets_run hS ht rfl hv h0 g2
  subst e
  exact ⟨v',by simp [Array.getD_eq_getD_getElem?,g1,asAddr,k2],k3⟩
theorem resL1 {fn : Func} {r : ResultVar} {v : HV} (h : fn.results = #[r]) (hr : ResAt P a S r v) : Zadm P base W0 fn a S v := by
 intro β w a' hS ha
 obtain ⟨v',g1,g2⟩ := hr.run hS ha
 refine ⟨v',?_,g2⟩
 unfold results
 rw [h]
 cases r <;> simp_all
def resF (tmps : Array Value) : ResultVar → Sem Value
 | .tmp t => pure (tmps.getD t undef)
 | .cell x t => do loadVar t (← asAddr (tmps.getD x undef))
theorem ResAt.runF {β : Bt} {w : World} {a' : Act} (hS : Rel base W0 β S w) (ha : ARel β a a') {r : ResultVar} {v : HV} (h : ResAt P a S r v) : ∃ v',(resF a'.tmps r).run P w = .ok v' w ∧ VRel β v v' := by
 obtain ⟨v',g1,g2⟩ := h.run hS ha
 cases r with
 | tmp t => exact ⟨v',g1,g2⟩
 | cell x t => exact ⟨v',g1,g2⟩
inductive ResAts (P : Program) (a : HAct) (S : HS) : List ResultVar → List HV → Prop
 | nil : ResAts P a S [] []
 | cons {r : ResultVar} {v : HV} {rs : List ResultVar} {vs : List HV} (h : ResAt P a S r v) (k : ResAts P a S rs vs) : ResAts P a S (r :: rs) (v :: vs)
theorem resL_run {β : Bt} {w : World} {a' : Act} (hS : Rel base W0 β S w) (ha : ARel β a a') {rs : List ResultVar} {vs : List HV} (h : ResAts P a S rs vs) :
  ∃ vs' : List Value,(rs.mapM (resF a'.tmps)).run P w = .ok vs' w ∧ VRels β vs vs'.toArray := by
 induction h with
 | nil => exact ⟨[],by simp,VRels.nil β⟩
 | @cons r v rs vs h k ih =>
  obtain ⟨v',g1,g2⟩ := h.runF hS ha
  obtain ⟨vs',g3,g4⟩ := ih
  exact ⟨v' :: vs',by simp [List.mapM_cons,Sem.run_bind,g1,g3],VRels.cons g2 g4⟩
theorem resL {fn : Func} {rs : List ResultVar} {vs : List HV} (h : fn.results = rs.toArray) (hr : ResAts P a S rs vs) (hn : vs.length ≠ 1) : Zadm P base W0 fn a S (.tup vs) := by
 intro β w a' hS ha
 obtain ⟨vs',g1,g2⟩ := resL_run hS ha hr
 have hl : vs'.length ≠ 1 := by have := g2.1; simp at this; omega
 refine ⟨.tuple vs'.toArray,?_,VRels.tup g2⟩
 have e : results fn a'.tmps = (do let vs ← rs.toArray.mapM (resF a'.tmps); pure (if h : vs.size = 1 then vs[0] else .tuple vs)) := by
  unfold results
  rw [h]
  congr 1
 rw [e,List.mapM_toArray]
 simp only [Sem.run_bind,Sem.run_map,g1,Result.andThen_ok,Sem.run_pure]
 simp [hl]
end
end Go.Proofs.YtbmfomkfmpppiaaGreat.HL
