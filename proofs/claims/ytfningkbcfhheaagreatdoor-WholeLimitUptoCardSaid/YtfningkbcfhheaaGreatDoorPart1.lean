/- The layer HL, part 1: an abstract heap, values over it, and their relation to the model's World. The layer HL, part 2: runs of a frame over the abstract heap; the rules of control, calls, returns and ranges over functions. The layer HL, part 3: ranges over functions: the statement, the rounds; the tables of functions. The layer HL, part 4: the two ways into a range over a function; tables of function values. The layer HL, part 5: operations that touch no memory. The layer HL, part 6: operations on memory. The layer HL, part 7: slices. The layer HL, part 8: append, make, literals, copy, texts and bytes. -/
import Derived.RangeFuncLeaves
import Derived.Below
import Derived.KernelRfl
set_option linter.unusedVariables false
set_option linter.unusedSimpArgs false
namespace Go.Proofs.YtfningkbcfhheaaGreatDoor.HL
open Go.RowKit (Below)
structure HA where
 id : Nat
 i : Nat
 j : Nat
inductive HV where
 | bool (b : Bool)
 | int (k : IntKind) (n : Int)
 | str (s : List UInt8)
 | ptr (a : Option HA)
 | sl (a : Option (Nat × Nat)) (len : Nat) (c : Option Nat)
 | map (r : Option Nat)
 | fn (f : Fn) (first cap : List HV)
 | nilFn
 | agg (cs : List HV)
 | tup (vs : List HV)
 | nilIf
 | junk
structure LInfo where
 fn : FuncId
 tmps : Array Value
 params : Array Tmp
 assign : Code
 body : Code
 defers : Nat
inductive Tgt where
 | none
 | mem (b o z n tot : Nat)
 | obj (b : Nat)
 | loop (b : Nat) (L : LInfo)
 | dcall (d : Deferred)
def Tgt.block : Tgt → Option Nat
 | .none => Option.none
 | .mem b _ _ _ _ => some b
 | .obj b => some b
 | .loop b _ => some b
 | .dcall _ => Option.none
abbrev Bt := Nat → Tgt
def Le (β β' : Bt) : Prop := ∀ id,β id ≠ .none → β' id = β id
theorem Le.refl (β : Bt) : Le β β := fun _ _ => rfl
theorem Le.trans {a b c : Bt} (h : Le a b) (k : Le b c) : Le a c := fun id hid => by
 have h1 := h id hid
 rw [← h1]; exact k id (by rw [h1]; exact hid)
theorem Le.eq {a b : Bt} (h : Le a b) {id : Nat} {t : Tgt} (ht : a id = t) (hn : t ≠ .none) : b id = t := by
 rw [h id (by rw [ht]; exact hn),ht]
inductive VRel (β : Bt) : HV → Value → Prop
 | bool (b : Bool) : VRel β (.bool b) (.bool b)
 | int (k : IntKind) (n : Int) : VRel β (.int k n) (.int k n)
 | str (s : List UInt8) : VRel β (.str s) (.string ⟨s.toArray⟩)
 | ptrNil : VRel β (.ptr none) (.pointer none)
 | ptr {id b o z n tot i j : Nat} (h : β id = .mem b o z n tot) : VRel β (.ptr (some ⟨id,i,j⟩)) (.pointer (some ⟨b,o + i * z + j,none⟩))
 | slNil (c : Option Nat) : VRel β (.sl none 0 c) (.slice none 0 0)
 | sl {id b o z n tot off len cap : Nat} {c : Option Nat} (h : β id = .mem b o z n tot) (h1 : len ≤ cap) (h2 : off + len ≤ n)
   (h3 : c = none → n ≤ off + cap) (h4 : ∀ q,c = some q → cap = q ∧ off + q ≤ n) (h5 : o + (off + cap) * z ≤ tot) :
   VRel β (.sl (some (id,off)) len c) (.slice (some ⟨b,o + off * z,none⟩) len cap)
 | slEnd {id b o z n tot off : Nat} {c : Option Nat} {ad : Addr} (h : β id = .mem b o z n tot) (h2 : off ≤ n) (h3 : c = none → n ≤ off) (h4 : ∀ q,c = some q → q = 0) :
   VRel β (.sl (some (id,off)) 0 c) (.slice (some ad) 0 0)
 | mapNil : VRel β (.map none) (.map none)
 | map {r b : Nat} (h : β r = .obj b) : VRel β (.map (some r)) (.map (some b))
 | fn {f : FuncId} {first cap : List HV} {first' cap' : Array Value} (h1 : first.length = first'.size)
   (h2 : ∀ (i : Nat) (v : HV) (v' : Value),first[i]? = some v → first'[i]? = some v' → VRel β v v') (h3 : cap.length = cap'.size)
   (h4 : ∀ (i : Nat) (v : HV) (v' : Value),cap[i]? = some v → cap'[i]? = some v' → VRel β v v') : VRel β (.fn (.func f) first cap) (.func (.func f) first' cap')
 | yld {l b : Nat} {L : LInfo} (h : β l = .loop b L) : VRel β (.fn (.yield l) [] []) (.func (.yield b) #[] #[])
 | nilFn : VRel β .nilFn .nilFunc
 | agg {cs : List HV} {cs' : Array Value} (h1 : cs.length = cs'.size) (h2 : ∀ (i : Nat) (v : HV) (v' : Value),cs[i]? = some v → cs'[i]? = some v' → VRel β v v') : VRel β (.agg cs) (.agg cs')
 | tup {cs : List HV} {cs' : Array Value} (h1 : cs.length = cs'.size) (h2 : ∀ (i : Nat) (v : HV) (v' : Value),cs[i]? = some v → cs'[i]? = some v' → VRel β v v') : VRel β (.tup cs) (.tuple cs')
 | nilIf : VRel β .nilIf .nilIface
 | junk {v' : Value} (h : v'.oneCell' = true) : VRel β .junk v'
theorem one_cells {v : Value} (h : v.oneCell' = true) : v.cells = #[v] := by
 cases v <;> simp [Value.oneCell'] at h <;> rfl
theorem VRel.mono {β β' : Bt} (hb : Le β β') {v : HV} {v' : Value} (h : VRel β v v') : VRel β' v v' := by
 induction h with
 | bool b => exact .bool b
 | int k n => exact .int k n
 | str s => exact .str s
 | ptrNil => exact .ptrNil
 | ptr h => exact .ptr (hb.eq h (by simp))
 | slNil c => exact .slNil c
 | sl h h1 h2 h3 h4 h5 => exact .sl (hb.eq h (by simp)) h1 h2 h3 h4 h5
 | slEnd h h2 h3 h4 => exact .slEnd (hb.eq h (by simp)) h2 h3 h4
 | mapNil => exact .mapNil
 | map h => exact .map (hb.eq h (by simp))
 | fn h1 _ h3 _ ih1 ih2 => exact .fn h1 ih1 h3 ih2
 | yld h => exact .yld (hb.eq h (by simp))
 | nilFn => exact .nilFn
 | agg h1 _ ih => exact .agg h1 ih
 | tup h1 _ ih => exact .tup h1 ih
 | nilIf => exact .nilIf
 | junk h => exact .junk h
def VRels (β : Bt) (vs : List HV) (vs' : Array Value) : Prop := vs.length = vs'.size ∧ ∀ (i : Nat) (v : HV) (v' : Value),vs[i]? = some v → vs'[i]? = some v' → VRel β v v'
theorem VRels.mono {β β' : Bt} (hb : Le β β') {vs : List HV} {vs' : Array Value} (h : VRels β vs vs') : VRels β' vs vs' :=
 ⟨h.1,fun i v v' h1 h2 => (h.2 i v v' h1 h2).mono hb⟩
theorem VRels.nil (β : Bt) : VRels β [] #[] := ⟨rfl,fun i v v' h => by simp at h⟩
theorem VRels.cons {β : Bt} {v : HV} {v' : Value} {vs : List HV} {vs' : List Value} (h : VRel β v v') (k : VRels β vs vs'.toArray) : VRels β (v :: vs) (v' :: vs').toArray := by
 refine ⟨by have := k.1; simp at this ⊢; exact this,fun i x x' h1 h2 => ?_⟩
 cases i with
 | zero => simp at h1 h2; subst h1; subst h2; exact h
 | succ i => simp at h1 h2; exact k.2 i x x' h1 (by simpa using h2)
theorem VRels.get {β : Bt} {vs : List HV} {vs' : Array Value} (h : VRels β vs vs') {i : Nat} {v : HV} (hv : vs[i]? = some v) : ∃ v',vs'[i]? = some v' ∧ VRel β v v' := by
 have hlt : i < vs.length := by
  rcases Nat.lt_or_ge i vs.length with h1 | h1
  ·exact h1
  ·rw [List.getElem?_eq_none h1] at hv; cases hv
 have h2 : vs'[i]? = some (vs'[i]'(h.1 ▸ hlt)) := by simp
 exact ⟨_,h2,h.2 i v _ hv h2⟩
theorem VRels.append {β : Bt} {vs ws : List HV} {vs' ws' : Array Value} (h : VRels β vs vs') (k : VRels β ws ws') : VRels β (vs ++ ws) (vs' ++ ws') := by
 refine ⟨by simp [h.1,k.1],fun i v v' h1 h2 => ?_⟩
 rw [List.getElem?_append] at h1
 rw [Array.getElem?_append] at h2
 split at h1
 ·rename_i hi; rw [if_pos (h.1 ▸ hi)] at h2; exact h.2 i v v' h1 h2
 ·rename_i hi; rw [if_neg (h.1 ▸ hi)] at h2; rw [h.1] at h1; exact k.2 _ v v' h1 h2
theorem VRels.set {β : Bt} {vs : List HV} {vs' : Array Value} (h : VRels β vs vs') {v : HV} {v' : Value} (hv : VRel β v v') (t : Nat) : VRels β (vs.set t v) (vs'.setIfInBounds t v') := by
 refine ⟨by simp [h.1],fun i x x' h1 h2 => ?_⟩
 rw [List.getElem?_set] at h1
 rw [Array.getElem?_setIfInBounds] at h2
 split at h1
 ·rename_i e; subst e
  split at h1
  ·rename_i hlt
   rw [if_pos rfl,if_pos (h.1 ▸ hlt)] at h2
   cases h1; cases h2; exact hv
  ·cases h1
 ·rename_i e; rw [if_neg e] at h2; exact h.2 i x x' h1 h2
theorem VRels.replicate {β : Bt} {v : HV} {v' : Value} (h : VRel β v v') (n : Nat) : VRels β (List.replicate n v) (Array.replicate n v') := by
 refine ⟨by simp,fun i x x' h1 h2 => ?_⟩
 simp [List.getElem?_replicate] at h1
 simp [Array.getElem?_replicate] at h2
 rw [← h1.2,← h2.2]; exact h
theorem VRels.tup {β : Bt} {vs : List HV} {vs' : Array Value} (h : VRels β vs vs') : VRel β (.tup vs) (.tuple vs') := .tup h.1 h.2
theorem VRels.agg {β : Bt} {vs : List HV} {vs' : Array Value} (h : VRels β vs vs') : VRel β (.agg vs) (.agg vs') := .agg h.1 h.2
theorem VRel.undef (β : Bt) : VRel β (.tup []) undef := VRels.tup (VRels.nil β)
def HV.cells : HV → List HV
 | .agg cs => cs
 | v => [v]
theorem VRel.cells {β : Bt} {v : HV} {v' : Value} (h : VRel β v v') : VRels β v.cells v'.cells := by
 cases h with
 | agg h1 h2 => exact ⟨h1,h2⟩
 | bool b => exact VRels.cons (.bool b) (VRels.nil β)
 | int k n => exact VRels.cons (.int k n) (VRels.nil β)
 | str s => exact VRels.cons (.str s) (VRels.nil β)
 | ptrNil => exact VRels.cons .ptrNil (VRels.nil β)
 | ptr h => exact VRels.cons (.ptr h) (VRels.nil β)
 | slNil c => exact VRels.cons (.slNil c) (VRels.nil β)
 | sl h h1 h2 h3 h4 h5 => exact VRels.cons (.sl h h1 h2 h3 h4 h5) (VRels.nil β)
 | slEnd h h2 h3 h4 => exact VRels.cons (.slEnd h h2 h3 h4) (VRels.nil β)
 | mapNil => exact VRels.cons .mapNil (VRels.nil β)
 | map h => exact VRels.cons (.map h) (VRels.nil β)
 | fn h1 h2 h3 h4 => exact VRels.cons (.fn h1 h2 h3 h4) (VRels.nil β)
 | yld h => exact VRels.cons (.yld h) (VRels.nil β)
 | nilFn => exact VRels.cons .nilFn (VRels.nil β)
 | tup h1 h2 => exact VRels.cons (.tup h1 h2) (VRels.nil β)
 | nilIf => exact VRels.cons .nilIf (VRels.nil β)
 | junk h => rw [one_cells h]; exact VRels.cons (.junk h) (VRels.nil β)
def HV.flat : HV → Bool
 | .agg _ => false
 | .tup _ => false
 | _ => true
inductive HObj where
 | dead
 | cells (z : Nat) (rows : List (List HV)) (own : Bool)
 | map (es : List (HV × HV))
 | loop (st : LoopState) (pend : Option Code)
 | defer
 | call (g : FuncId) (vs : List HV)
 | opq
structure HS where
 heap : Nat → HObj
 next : Nat
 mrk : Nat → Nat := fun _ => 0
def HS.put (S : HS) (id : Nat) (o : HObj) : HS := { S with heap := fun i => if i = id then o else S.heap i }
def HS.newM (S : HS) (o : HObj) (m : Nat) : HS := { heap := fun i => if i = S.next then o else S.heap i,next := S.next + 1,mrk := fun i => if i = S.next then m else S.mrk i }
def HS.new (S : HS) (o : HObj) : HS := S.newM o 0
def HObj.alive : HObj → Bool
 | .dead => false
 | _ => true
def HObj.own : HObj → Bool
 | .dead => false
 | .cells _ _ b => b
 | _ => true
def RowsRel (β : Bt) (rows : List (List HV)) (arr : Array Value) (o z : Nat) : Prop :=
 ∀ (i : Nat) (row : List HV),rows[i]? = some row → row.length = z ∧ ∀ (j : Nat) (v : HV),row[j]? = some v → v.flat = true ∧ ∃ v',arr[o + i * z + j]? = some v' ∧ VRel β v v'
theorem RowsRel.mono {β β' : Bt} (hb : Le β β') {rows : List (List HV)} {arr : Array Value} {o z : Nat} (h : RowsRel β rows arr o z) : RowsRel β' rows arr o z :=
 fun i row hr => ⟨(h i row hr).1,fun j v hv => let ⟨h0,v',h1,h2⟩ := (h i row hr).2 j v hv; ⟨h0,v',h1,h2.mono hb⟩⟩
def EntRel (β : Bt) (es : List (HV × HV)) (es' : Array MapEntry) : Prop :=
 es.length = es'.size ∧ ∀ (i : Nat) (k v : HV) (e : MapEntry),es[i]? = some (k,v) → es'[i]? = some e → VRel β k e.key ∧ VRel β v e.val
theorem EntRel.mono {β β' : Bt} (hb : Le β β') {es : List (HV × HV)} {es' : Array MapEntry} (h : EntRel β es es') : EntRel β' es es' :=
 ⟨h.1,fun i k v e h1 h2 => ⟨(h.2 i k v e h1 h2).1.mono hb,(h.2 i k v e h1 h2).2.mono hb⟩⟩
def LInfo.obj (L : LInfo) (st : LoopState) (pend : Option Code) : Obj :=
 .loop { state := st,pending := pend,fn := L.fn,tmps := L.tmps,params := L.params,assign := L.assign,body := L.body,defers := L.defers }
def MkOk (mk : Nat) (t : TypeId) (fr : Nat × Nat) (o : Nat) : Prop := (mk ≠ 1 → fr.2 ≤ fr.1) ∧ ∀ e,mk = e + 2 → t = e ∧ o = 0
def MkLe (a b : Nat) : Prop := (a ≠ 1 → b ≠ 1) ∧ ∀ e,a = e + 2 → b = e + 2
theorem MkOk.zero {t : TypeId} {fr : Nat × Nat} {o : Nat} (h : fr.2 ≤ fr.1) : MkOk 0 t fr o := ⟨fun _ => h,fun e he => by omega⟩
theorem MkOk.one {t : TypeId} {fr : Nat × Nat} {o : Nat} : MkOk 1 t fr o := ⟨fun h => absurd rfl h,fun e he => by omega⟩
theorem MkOk.typed {t : Nat} {fr : Nat × Nat} (h : fr.2 ≤ fr.1) : MkOk (t + 2) t fr 0 := ⟨fun _ => h,fun e he => ⟨Nat.add_right_cancel (m := 2) he,rfl⟩⟩
theorem MkOk.le {a b : Nat} {t : TypeId} {fr : Nat × Nat} {o : Nat} (h : MkOk b t fr o) (hl : MkLe a b) : MkOk a t fr o := ⟨fun g => h.1 (hl.1 g),fun e he => h.2 e (hl.2 e he)⟩
theorem MkLe.refl (a : Nat) : MkLe a a := ⟨id,fun _ h => h⟩
theorem MkLe.of_lt {a b : Nat} (h : a < 2) (hb : a ≠ 1 → b ≠ 1) : MkLe a b := ⟨hb,fun e he => by omega⟩
def mfg (m : Nat) : Nat := if m = 1 then 1 else 0
theorem MkOk.mfgOk {m : Nat} {t : TypeId} {fr : Nat × Nat} {o o' : Nat} (h : MkOk m t fr o) : MkOk (mfg m) t fr o' := by
 unfold mfg
 split
 ·exact .one
 ·rename_i g; exact .zero (h.1 g)
theorem mfg_lt (m : Nat) : mfg m < 2 := by unfold mfg; split <;> omega
structure Env where
 w0 : World
 phi : Nat → Bt → Array Obj → Prop
 stable : ∀ (id : Nat) (β β' : Bt) (w w' : Array Obj),phi id β w → Le β β' → β' id = β id → (∀ b,(β id).block = some b → w'[b]? = w[b]?) → phi id β' w'
 down : ∀ (id : Nat) (β β' : Bt) (w w' : Array Obj),phi id β w → phi id β' w' → Le β β' → phi id β w'
def Env.of (w : World) : Env := ⟨w,fun _ _ _ => False,fun _ _ _ _ _ h => h.elim,fun _ _ _ _ _ h => h.elim⟩
instance : Coe World Env := ⟨Env.of⟩
instance : Inhabited Env := ⟨Env.of default⟩
def ObjRel (base : Nat) (W0 : Env) (β : Bt) (w : World) (id : Nat) (mk : Nat) : HObj → Prop
 | .dead => True
 | .cells z rows own => ∃ b o tot arr t fr,β id = .mem b o z rows.length tot ∧ w.heap[b]? = some (.cells arr t fr) ∧ arr.size = tot ∧ o + rows.length * z ≤ tot ∧
   0 < z ∧ RowsRel β rows arr o z ∧ (own = true → base ≤ b ∧ (∀ i,i < tot → ¬ (fr.1 ≤ i ∧ i < fr.2)) ∧ (∀ v' ∈ arr.toList,v'.oneCell' = true) ∧ MkOk mk t fr o)
 | .map es => ∃ b es' clk,β id = .obj b ∧ base ≤ b ∧ w.heap[b]? = some (.map es' clk) ∧ EntRel β es es'
 | .loop st pend => ∃ b L,β id = .loop b L ∧ base ≤ b ∧ w.heap[b]? = some (L.obj st pend)
 | .defer => ∃ b,β id = .obj b ∧ base ≤ b ∧ w.heap[b]? = some (.deferred (some []))
 | .call g vs => ∃ args',β id = .dcall { target := .fn (.func g) #[],args := args' } ∧ VRels β vs args'
 | .opq => W0.phi id β w.heap
structure Rel (base : Nat) (W0 : Env) (β : Bt) (S : HS) (w : World) : Prop where
 below : Below base W0.w0 w
 size : base ≤ w.heap.size
 fresh : ∀ id,S.next ≤ id → β id = .none ∧ S.heap id = .dead
 lt : ∀ id b,(β id).block = some b → b < w.heap.size
 objs : ∀ id,ObjRel base W0 β w id (S.mrk id) (S.heap id)
 disj : ∀ id id' b,id ≠ id' → (S.heap id).own = true → (S.heap id').alive = true → (β id).block = some b → (β id').block ≠ some b
structure HAct where
 tmps : List HV
 defers : List Nat
def HAct.put (a : HAct) (dst : Option Tmp) (v : HV) : HAct :=
 match dst with
 | some d => { a with tmps := a.tmps.set d v }
 | none => a
def DAt (β : Bt) (d : Nat) (d' : Deferred) : Prop := (∃ b,β d = .obj b ∧ d'.target = .collected b) ∨ β d = .dcall d'
theorem DAt.mono {β β' : Bt} (hb : Le β β') {d : Nat} {d' : Deferred} (h : DAt β d d') : DAt β' d d' := h.imp (fun ⟨b,h1,h2⟩ => ⟨b,hb.eq h1 (by simp),h2⟩) (fun h => hb.eq h (by simp))
def DRel (β : Bt) (ds : List Nat) (ds' : List Deferred) : Prop :=
 ds.length = ds'.length ∧ ∀ (i : Nat) (d : Nat) (d' : Deferred),ds[i]? = some d → ds'[i]? = some d' → DAt β d d'
theorem DRel.mono {β β' : Bt} (hb : Le β β') {ds : List Nat} {ds' : List Deferred} (h : DRel β ds ds') : DRel β' ds ds' :=
 ⟨h.1,fun i d d' h1 h2 => (h.2 i d d' h1 h2).mono hb⟩
structure ARel (β : Bt) (a : HAct) (a' : Act) : Prop where
 tmps : VRels β a.tmps a'.tmps
 defers : DRel β a.defers a'.defers
theorem ARel.mono {β β' : Bt} (hb : Le β β') {a : HAct} {a' : Act} (h : ARel β a a') : ARel β' a a' := ⟨h.tmps.mono hb,h.defers.mono hb⟩
theorem ARel.put {β : Bt} {a : HAct} {a' : Act} (h : ARel β a a') {v : HV} {v' : Value} (hv : VRel β v v') (d : Option Tmp) : ARel β (a.put d v) (a'.put d v') := by
 cases d with
 | none => exact h
 | some d => exact ⟨h.tmps.set hv d,h.defers⟩
inductive Ev (a : HAct) : Operand → HV → Prop
 | tmp {t : Tmp} {v : HV} (h : a.tmps[t]? = some v) : Ev a (.tmp t) v
 | const {c : Value} {v : HV} (h : ∀ β,VRel β v c) : Ev a (.const c) v
 | func (f : FuncId) : Ev a (.func f) (.fn (.func f) [] [])
theorem Ev.rel {β : Bt} {a : HAct} {a' : Act} (h : ARel β a a') {x : Operand} {v : HV} (e : Ev a x v) : VRel β v (a'.eval x) := by
 cases e with
 | @tmp t _ ht =>
  obtain ⟨v',h1,h2⟩ := h.tmps.get ht
  have : a'.eval (.tmp t) = v' := by simp [Act.eval,Array.getD_eq_getD_getElem?,h1]
  rw [this]; exact h2
 | const hc => exact hc β
 | func f => exact .fn rfl (fun i v v' h => by simp at h) rfl (fun i v v' h => by simp at h)
theorem Ev.int {a : HAct} (k : IntKind) (n : Int) : Ev a (.const (.int k n)) (.int k n) := .const fun _ => .int k n
theorem Ev.bool {a : HAct} (b : Bool) : Ev a (.const (.bool b)) (.bool b) := .const fun _ => .bool b
theorem Ev.str {a : HAct} (s : List UInt8) : Ev a (.const (.string ⟨s.toArray⟩)) (.str s) := .const fun _ => .str s
def RoRel (β : Bt) : Option Nat → Option Nat → Prop
 | none,none => True
 | some l,some b => ∃ L,β l = .loop b L
 | _,_ => False
theorem RoRel.mono {β β' : Bt} (hb : Le β β') : ∀ {x y : Option Nat},RoRel β x y → RoRel β' x y
 | none,none,_ => trivial
 | some _,some _,⟨L,h⟩ => ⟨L,hb.eq h (by simp)⟩
 | none,some _,h => h.elim
 | some _,none,h => h.elim
section
variable (P : Program) (base : Nat) (W0 : Env)
def Ends (ro : Option Nat) (f : FuncId) (kd : CallKind) (m : Machine) (cs : List Frame) (v' : Value) (w' : World) : Prop :=
 match ro with
 | none => ∃ fr,Steps P m (lone fr cs w') ∧ fr.fn = f ∧ fr.kind = kd ∧ fr.going P w' (.returned v')
 | some _ => ∃ c cs',cs = c :: cs' ∧ Steps P m (lone (c.finish v') cs' w')
theorem Ends.of_steps {ro : Option Nat} {f : FuncId} {kd : CallKind} {m m1 : Machine} {cs : List Frame} {v' : Value} {w' : World} (h : Steps P m m1) (k : Ends P ro f kd m1 cs v' w') : Ends P ro f kd m cs v' w' := by
 cases ro with
 | none => obtain ⟨fr,h1,h2⟩ := k; exact ⟨fr,h.trans h1,h2⟩
 | some l => obtain ⟨c,cs',h1,h2⟩ := k; exact ⟨c,cs',h1,h.trans h2⟩
def HRun (β0 : Bt) (f : FuncId) (ro : Option Nat) (k : List Item) (a : HAct) (S : HS) (R : HV → HS → Prop) : Prop :=
 ∀ (β : Bt) (w : World) (a' : Act),Le β0 β → Rel base W0 β S w → ARel β a a' →
 ∀ (b : Frame) (cs : List Frame),b.fn = f → (ro.isSome = true → b.kind = .normal) → RoRel β ro b.roundOf → (ro.isSome = true → cs ≠ []) →
  ∃ (β' : Bt) (v : HV) (S' : HS) (v' : Value) (w' : World),Le β β' ∧ R v S' ∧ VRel β' v v' ∧ Rel base W0 β' S' w' ∧ Ends P b.roundOf f b.kind (lone (b.atR a' k) cs w) cs v' w'
def HCall (β0 : Bt) (f : FuncId) (args : List HV) (S : HS) (R : HV → HS → Prop) : Prop :=
 ∀ (β : Bt) (w : World) (args' : Array Value),Le β0 β → Rel base W0 β S w → VRels β args args' → ∀ cs : List Frame,
  ∃ (β' : Bt) (v : HV) (S' : HS) (v' : Value) (w' : World) (fr : Frame),Le β β' ∧ R v S' ∧ VRel β' v v' ∧ Rel base W0 β' S' w' ∧
   Steps P (lone (Frame.enter P f args' .normal) cs w) (lone fr cs w') ∧ fr.fn = f ∧ fr.leaving P w' (.returned v')
def HCallA (β0 : Bt) (f : FuncId) (args : List HV) (S : HS) (R : HV → HS → Prop) : Prop :=
 ∀ (β : Bt) (w : World) (args' : Array Value),Le β0 β → Rel base W0 β S w → VRels β args args' → ∀ (kd : CallKind) (cs : List Frame),
  ∃ (β' : Bt) (v : HV) (S' : HS) (v' : Value) (w' : World) (fr : Frame),Le β β' ∧ R v S' ∧ VRel β' v v' ∧ Rel base W0 β' S' w' ∧
   Steps P (lone (Frame.enter P f args' kd) cs w) (lone fr cs w') ∧ fr.fn = f ∧ fr.kind = kd ∧ fr.going P w' (.returned v')
theorem HCallA.call {β0 : Bt} {f : FuncId} {args : List HV} {S : HS} {R : HV → HS → Prop} (h : HCallA P base W0 β0 f args S R) : HCall P base W0 β0 f args S R := by
 intro β w args' h1 h2 h3 cs
 obtain ⟨β',v,S',v',w',fr,g1,g2,g3,g4,g5,g6,g7,g8,g9,g10⟩ := h β w args' h1 h2 h3 .normal cs
 exact ⟨β',v,S',v',w',fr,g1,g2,g3,g4,g5,g6,g8,g9,g7,g10⟩
def startOf (nx : Next) (c : Frame) (cs : List Frame) (w : World) : Option Machine :=
 match nx with
 | .enter f as => some (lone (Frame.enter P f as .normal) (c :: cs) w)
 | .round l f tmps assign body => some (lone (Frame.round l f tmps assign body .normal) (c :: cs) w)
 | _ => none
def HInv (β0 : Bt) (fv : HV) (vs : List HV) (S : HS) (R : HV → HS → Prop) : Prop :=
 ∀ (β : Bt) (w : World) (fv' : Value) (vs' : Array Value),Le β0 β → Rel base W0 β S w → VRel β fv fv' → VRels β vs vs' →
  ∃ (d : Deferred) (nx : Next),(Deferred.ofValue fv' vs').run P w = .ok d w ∧ (invoke d.target d.args).run P w = .ok nx w ∧ ∀ (c : Frame) (cs : List Frame),∃ m,startOf P nx c cs w = some m ∧
   ∃ (β' : Bt) (v : HV) (S' : HS) (v' : Value) (w' : World),Le β β' ∧ R v S' ∧ VRel β' v v' ∧ Rel base W0 β' S' w' ∧ Steps P m (lone (c.finish v') cs w')
end
section
variable {P : Program} {base : Nat} {W0 : Env} {β0 : Bt} {f : FuncId} {ro : Option Nat} {k : List Item} {a : HAct} {S : HS} {R : HV → HS → Prop}
theorem HRun.mono {R' : HV → HS → Prop} (h : HRun P base W0 β0 f ro k a S R) (hR : ∀ v S',R v S' → R' v S') : HRun P base W0 β0 f ro k a S R' :=
 fun β w a' h1 h2 h3 b cs h4 h5 h6 h7 => let ⟨β',v,S',v',w',g1,g2,g3⟩ := h β w a' h1 h2 h3 b cs h4 h5 h6 h7; ⟨β',v,S',v',w',g1,hR _ _ g2,g3⟩
theorem HRun.up {β1 : Bt} (h : HRun P base W0 β0 f ro k a S R) (hb : Le β0 β1) : HRun P base W0 β1 f ro k a S R :=
 fun β w a' h1 => h β w a' (hb.trans h1)
theorem HCall.mono {args : List HV} {R' : HV → HS → Prop} (h : HCall P base W0 β0 f args S R) (hR : ∀ v S',R v S' → R' v S') : HCall P base W0 β0 f args S R' :=
 fun β w args' h1 h2 h3 cs => let ⟨β',v,S',v',w',fr,g1,g2,g3⟩ := h β w args' h1 h2 h3 cs; ⟨β',v,S',v',w',fr,g1,hR _ _ g2,g3⟩
theorem HCall.up {args : List HV} {β1 : Bt} (h : HCall P base W0 β0 f args S R) (hb : Le β0 β1) : HCall P base W0 β1 f args S R :=
 fun β w a' h1 => h β w a' (hb.trans h1)
theorem HInv.mono {fv : HV} {vs : List HV} {R' : HV → HS → Prop} (h : HInv P base W0 β0 fv vs S R) (hR : ∀ v S',R v S' → R' v S') : HInv P base W0 β0 fv vs S R' := by
 intro β w fv' vs' h1 h2 h3 h4
 obtain ⟨d,nx,g1,g2,g3⟩ := h β w fv' vs' h1 h2 h3 h4
 refine ⟨d,nx,g1,g2,fun c cs => ?_⟩
 obtain ⟨m,hm,β',v,S',v',w',g4,g5,g6⟩ := g3 c cs
 exact ⟨m,hm,β',v,S',v',w',g4,hR _ _ g5,g6⟩
theorem HInv.up {fv : HV} {vs : List HV} {β1 : Bt} (h : HInv P base W0 β0 fv vs S R) (hb : Le β0 β1) : HInv P base W0 β1 fv vs S R :=
 fun β w fv' vs' h1 => h β w fv' vs' (hb.trans h1)
theorem HRun.calm {k' : List Item} (hs : ∀ (b : Frame) (a' : Act) (cs : List Frame) (w : World),step P (lone (b.atR a' k) cs w) = .next (lone (b.atR a' k') cs w))
  (h : HRun P base W0 β0 f ro k' a S R) : HRun P base W0 β0 f ro k a S R := by
 intro β w a' h1 h2 h3 b cs h4 h5 h6 h7
 obtain ⟨β',v,S',v',w',g1,g2,g3,g4,g5⟩ := h β w a' h1 h2 h3 b cs h4 h5 h6 h7
 exact ⟨β',v,S',v',w',g1,g2,g3,g4,g5.of_steps (P := P) (.one (hs b a' cs w))⟩
theorem hr_skip (h : HRun P base W0 β0 f ro k a S R) : HRun P base W0 β0 f ro (.code .skip :: k) a S R := h.calm fun _ _ _ _ => stepR_skip
theorem hr_label {l : Nat} (h : HRun P base W0 β0 f ro k a S R) : HRun P base W0 β0 f ro (.code (.label l) :: k) a S R := h.calm fun _ _ _ _ => stepR_label
theorem hr_inBlock {id : Nat} (h : HRun P base W0 β0 f ro k a S R) : HRun P base W0 β0 f ro (.inBlock id :: k) a S R := h.calm fun _ _ _ _ => stepR_inBlock
theorem hr_seq {x y : Code} (h : HRun P base W0 β0 f ro (.code x :: .code y :: k) a S R) : HRun P base W0 β0 f ro (.code (.seq x y) :: k) a S R := h.calm fun _ _ _ _ => stepR_seq
theorem hr_block {id : Nat} {c : Code} (h : HRun P base W0 β0 f ro (.code c :: .inBlock id :: k) a S R) : HRun P base W0 β0 f ro (.code (.block id c) :: k) a S R := h.calm fun _ _ _ _ => stepR_block
theorem hr_loop {c : Code} (h : HRun P base W0 β0 f ro (.code c :: .inLoop c :: k) a S R) : HRun P base W0 β0 f ro (.code (.loop c) :: k) a S R := h.calm fun _ _ _ _ => stepR_loop
theorem hr_inLoop {c : Code} (h : HRun P base W0 β0 f ro (.code c :: .inLoop c :: k) a S R) : HRun P base W0 β0 f ro (.inLoop c :: k) a S R := h.calm fun _ _ _ _ => stepR_inLoop
theorem hr_exit {id : Nat} {k' : List Item} (hx : exitTo id k = some k') (h : HRun P base W0 β0 f ro k' a S R) : HRun P base W0 β0 f ro (.code (.exit id) :: k) a S R := h.calm fun _ _ _ _ => stepR_exit hx
theorem hr_region {id : Nat} {ops : Array Oper} {is : List Nat} (hi : List.range ops.size = is) (h : HRun P base W0 β0 f ro (.inRegion ops is :: k) a S R) : HRun P base W0 β0 f ro (.code (.region id ops false) :: k) a S R := by
 subst hi; exact h.calm fun _ _ _ _ => stepR_region
theorem hr_region_end {ops : Array Oper} (h : HRun P base W0 β0 f ro k a S R) : HRun P base W0 β0 f ro (.inRegion ops [] :: k) a S R := h.calm fun _ _ _ _ => stepR_region_end
theorem hr_cond {c : Operand} {x y : Code} {t : Bool} (hc : Ev a c (.bool t)) (h : HRun P base W0 β0 f ro (.code (if t then x else y) :: k) a S R) : HRun P base W0 β0 f ro (.code (.cond c x y) :: k) a S R := by
 intro β w a' h1 h2 h3 b cs h4 h5 h6 h7
 obtain ⟨β',v,S',v',w',g1,g2,g3,g4,g5⟩ := h β w a' h1 h2 h3 b cs h4 h5 h6 h7
 have hv : a'.eval c = .bool t := by
  have := hc.rel h3
  generalize a'.eval c = x at this
  cases this; rfl
 exact ⟨β',v,S',v',w',g1,g2,g3,g4,g5.of_steps (P := P) (.one (stepR_cond hv))⟩
theorem hr_cond_t {c : Operand} {x y : Code} (hc : Ev a c (.bool true)) (h : HRun P base W0 β0 f ro (.code x :: k) a S R) : HRun P base W0 β0 f ro (.code (.cond c x y) :: k) a S R := hr_cond hc h
theorem hr_cond_f {c : Operand} {x y : Code} (hc : Ev a c (.bool false)) (h : HRun P base W0 β0 f ro (.code y :: k) a S R) : HRun P base W0 β0 f ro (.code (.cond c x y) :: k) a S R := hr_cond hc h
def OpOk (P : Program) (base : Nat) (W0 : Env) (o : Oper) (a : HAct) (S : HS) (v : HV) (S' : HS) : Prop :=
 (∀ c,o.op ≠ .defer c) ∧
 ∀ (β : Bt) (w : World) (a' : Act),Rel base W0 β S w → ARel β a a' → ∃ (β' : Bt) (w' : World) (v' : Value),Le β β' ∧
  ((execOp a'.eval o).run P w = .ok (.value v') w' ∨ ((execOp a'.eval o).run P w = .ok .skip w' ∧ v' = undef)) ∧ VRel β' v v' ∧ Rel base W0 β' S' w'
def Wants (a : HAct) (ops : Array Oper) (o : Oper) : Prop :=
 match o.guard with
 | none => True
 | some (j,want) => ∃ t,(ops[j]?).bind (·.dst) = some t ∧ a.tmps[t]? = some (.bool want)
def Skips (a : HAct) (ops : Array Oper) (o : Oper) : Prop :=
 match o.guard with
 | none => False
 | some (j,want) => ∃ t,(ops[j]?).bind (·.dst) = some t ∧ (a.tmps[t]? = some (.bool (!want)) ∨ a.tmps[t]? = some (.tup []))
theorem yielded_none {β : Bt} {a' : Act} {ops : Array Oper} (h : ARel β a a') {j : Nat} {t : Tmp} (h1 : (ops[j]?).bind (·.dst) = some t) (h2 : a.tmps[t]? = some (.tup [])) : yielded ops a'.tmps j = none := by
 obtain ⟨v',h3,h4⟩ := h.tmps.get h2
 cases h4
 simp [yielded,h1,h3]
theorem yielded_of {β : Bt} {a' : Act} {ops : Array Oper} (h : ARel β a a') {j : Nat} {t : Tmp} {q : Bool} (h1 : (ops[j]?).bind (·.dst) = some t) (h2 : a.tmps[t]? = some (.bool q)) : yielded ops a'.tmps j = some q := by
 obtain ⟨v',h3,h4⟩ := h.tmps.get h2
 cases h4
 simp [yielded,h1,h3]
theorem Wants.wanted {β : Bt} {a' : Act} {ops : Array Oper} {o : Oper} (h : ARel β a a') (hw : Wants a ops o) : Region.wanted o (yielded ops a'.tmps) = true := by
 unfold Wants at hw
 unfold Region.wanted
 cases hg : o.guard with
 | none => rfl
 | some q =>
  obtain ⟨j,want⟩ := q
  rw [hg] at hw
  obtain ⟨t,h1,h2⟩ := hw
  simp [yielded_of h h1 h2]
theorem Skips.unwanted {β : Bt} {a' : Act} {ops : Array Oper} {o : Oper} (h : ARel β a a') (hw : Skips a ops o) : Region.wanted o (yielded ops a'.tmps) = false := by
 unfold Skips at hw
 unfold Region.wanted
 cases hg : o.guard with
 | none => rw [hg] at hw; exact hw.elim
 | some q =>
  obtain ⟨j,want⟩ := q
  rw [hg] at hw
  obtain ⟨t,h1,h2 | h2⟩ := hw
  ·simp [yielded_of h h1 h2]
  ·simp [yielded_none h h1 h2]
theorem stepR_op_value {P : Program} {b : Frame} {a : Act} {k : List Item} {cs : List Frame} {w w' : World} {ops : Array Oper} {i : Nat} {rest : List Nat} {o : Oper} {v : Value}
  (ho : ops[i]? = some o) (hw : Region.wanted o (yielded ops a.tmps) = true) (hd : ∀ c,o.op ≠ .defer c)
  (hr : (execOp a.eval o).run P w = .ok (.value v) w' ∨ ((execOp a.eval o).run P w = .ok .skip w' ∧ v = undef)) :
  step P (lone (b.atR a (.inRegion ops (i :: rest) :: k)) cs w) = .next (lone (b.atR (a.put o.dst v) (.inRegion ops rest :: k)) cs w') := by
 have hfin : (b.atR a (.inRegion ops (i :: rest) :: k)).finish v = b.atR (a.put o.dst v) (.inRegion ops rest :: k) := by
  rw [Frame.finish_atR,ho]; rfl
 refine step_lone_go ?_
 rw [stepGR_op ho hw,Oper.semAt_eq _ _ _ hd,← hfin]
 rcases hr with hr | ⟨hr,rfl⟩ <;> simp [stepG.apply,Sem.runT_eq,hr,GStep.bare_after]
theorem stepR_op_start {P : Program} {b : Frame} {a : Act} {k : List Item} {cs : List Frame} {w w' : World} {ops : Array Oper} {i : Nat} {rest : List Nat} {o : Oper} {nx : Next} {m : Machine}
  (ho : ops[i]? = some o) (hw : Region.wanted o (yielded ops a.tmps) = true) (hd : ∀ c,o.op ≠ .defer c)
  (hr : (execOp a.eval o).run P w = .ok nx w') (hm : startOf P nx (b.atR a (.inRegion ops (i :: rest) :: k)) cs w' = some m) :
  step P (lone (b.atR a (.inRegion ops (i :: rest) :: k)) cs w) = .next m := by
 cases nx with
 | enter g as =>
  simp only [startOf,Option.some.injEq] at hm
  subst hm
  refine step_lone_go ?_
  rw [stepGR_op ho hw,Oper.semAt_eq _ _ _ hd]
  simp [stepG.apply,Sem.runT_eq,hr,GStep.bare_after,Frame.atR]
 | round l g tmps assign body =>
  simp only [startOf,Option.some.injEq] at hm
  subst hm
  refine step_lone_go ?_
  rw [stepGR_op ho hw,Oper.semAt_eq _ _ _ hd]
  simp [stepG.apply,Sem.runT_eq,hr,GStep.bare_after]
 | _ => simp [startOf] at hm
theorem hr_op {ops : Array Oper} {i : Nat} {rest : List Nat} {o : Oper} {v : HV} {S' : HS} (ho : ops[i]? = some o) (hw : Wants a ops o) (hop : OpOk P base W0 o a S v S')
  (h : HRun P base W0 β0 f ro (.inRegion ops rest :: k) (a.put o.dst v) S' R) : HRun P base W0 β0 f ro (.inRegion ops (i :: rest) :: k) a S R := by
 intro β w a' h1 h2 h3 b cs h4 h5 h6 h7
 obtain ⟨β1,w1,v1,e1,e2,e3,e4⟩ := hop.2 β w a' h2 h3
 obtain ⟨β',v2,S2,v',w',g1,g2,g3,g4,g5⟩ := h β1 w1 (a'.put o.dst v1) (h1.trans e1) e4 ((h3.mono e1).put e3 _) b cs h4 h5 (h6.mono e1) h7
 exact ⟨β',v2,S2,v',w',e1.trans g1,g2,g3,g4,g5.of_steps (P := P) (.one (stepR_op_value ho (hw.wanted h3) hop.1 e2))⟩
theorem hr_op_skip {ops : Array Oper} {i : Nat} {rest : List Nat} {o : Oper} (ho : ops[i]? = some o) (hw : Skips a ops o)
  (h : HRun P base W0 β0 f ro (.inRegion ops rest :: k) (a.put o.dst (.tup [])) S R) : HRun P base W0 β0 f ro (.inRegion ops (i :: rest) :: k) a S R := by
 intro β w a' h1 h2 h3 b cs h4 h5 h6 h7
 obtain ⟨β',v2,S2,v',w',g1,g2,g3,g4,g5⟩ := h β w (a'.put o.dst undef) h1 h2 (h3.put (VRel.undef β) _) b cs h4 h5 h6 h7
 have hs := stepR_op_skip (P := P) (b := b) (a := a') (k := k) (cs := cs) (w := w) (ops := ops) (i := i) (rest := rest) (by simp [ho,hw.unwanted h3])
 simp only [ho,Option.bind_some] at hs
 exact ⟨β',v2,S2,v',w',g1,g2,g3,g4,g5.of_steps (P := P) (.one hs)⟩
def Evs (a : HAct) (xs : Array Operand) (vs : List HV) : Prop := vs.length = xs.size ∧ ∀ (i : Nat) (x : Operand) (v : HV),xs[i]? = some x → vs[i]? = some v → Ev a x v
theorem Evs.rel {β : Bt} {a' : Act} (h : ARel β a a') {xs : Array Operand} {vs : List HV} (e : Evs a xs vs) : VRels β vs (xs.map a'.eval) := by
 refine ⟨by simp [e.1],fun i v v' h1 h2 => ?_⟩
 rw [Array.getElem?_map] at h2
 cases hx : xs[i]? with
 | none => rw [hx] at h2; cases h2
 | some x =>
  rw [hx] at h2; cases h2
  exact (e.2 i x v hx h1).rel h
theorem Evs.nil : Evs a #[] [] := ⟨rfl,fun i x v h => by simp at h⟩
theorem Evs.cons {x : Operand} {v : HV} {xs : List Operand} {vs : List HV} (h : Ev a x v) (k : Evs a xs.toArray vs) : Evs a (x :: xs).toArray (v :: vs) := by
 refine ⟨by have := k.1; simp at this ⊢; exact this,fun i y u h1 h2 => ?_⟩
 cases i with
 | zero => simp at h1 h2; subst h1; subst h2; exact h
 | succ i => simp at h1 h2; exact k.2 i y u (by simpa using h1) h2
theorem hr_call {ops : Array Oper} {i : Nat} {rest : List Nat} {o : Oper} {fx : Operand} {xs : Array Operand} {tys : Array TypeId} {fv : HV} {vs : List HV} {R1 : HV → HS → Prop}
  (ho : ops[i]? = some o) (hw : Wants a ops o) (hc : o.op = .call ⟨.value fx,xs,tys⟩) (hf : Ev a fx fv) (hxs : Evs a xs vs) (hi : HInv P base W0 β0 fv vs S R1)
  (h : ∀ v S',R1 v S' → HRun P base W0 β0 f ro (.inRegion ops rest :: k) (a.put o.dst v) S' R) : HRun P base W0 β0 f ro (.inRegion ops (i :: rest) :: k) a S R := by
 intro β w a' h1 h2 h3 b cs h4 h5 h6 h7
 obtain ⟨d,nx,g1,g2,g3⟩ := hi β w (a'.eval fx) (xs.map a'.eval) h1 h2 (hf.rel h3) (hxs.rel h3)
 obtain ⟨m,hm,β1,v,S1,v1,w1,e1,e2,e3,e4,e5⟩ := g3 (b.atR a' (.inRegion ops (i :: rest) :: k)) cs
 have hstep := stepR_op_start (P := P) (b := b) (a := a') (k := k) (cs := cs) (w := w) (w' := w) (ops := ops) (i := i) (rest := rest) (o := o) (nx := nx) (m := m) ho (hw.wanted h3)
  (by intro c; rw [hc]; simp) (by simp [execOp,hc,resolve,g1,g2]) hm
 have hfin : (b.atR a' (.inRegion ops (i :: rest) :: k)).finish v1 = b.atR (a'.put o.dst v1) (.inRegion ops rest :: k) := by
  rw [Frame.finish_atR,ho]; rfl
 rw [hfin] at e5
 obtain ⟨β',v2,S2,v',w',q1,q2,q3,q4,q5⟩ := h v S1 e2 β1 w1 (a'.put o.dst v1) (h1.trans e1) e4 ((h3.mono e1).put e3 _) b cs h4 h5 (h6.mono e1) h7
 exact ⟨β',v2,S2,v',w',e1.trans q1,q2,q3,q4,q5.of_steps (P := P) (.head hstep e5)⟩
structure FnAt (P : Program) (f : FuncId) (fn : Func) : Prop where
 at_ : P.funcs[f]? = some fn
 name : (fn.name == "runtime.NumGoroutine") = false
theorem HInv.func {fn : Func} {first cap vs : List HV} {c : Code} (hf : FnAt P f fn) (hb : fn.body = some c) (h : HCall P base W0 β0 f (first ++ vs ++ cap) S R) : HInv P base W0 β0 (.fn (.func f) first cap) vs S R := by
 intro β w fv' vs' h1 h2 h3 h4
 cases h3 with
 | @fn _ _ _ first' cap' e1 e2 e3 e4 =>
  refine ⟨⟨.fn (.func f) cap',first' ++ vs'⟩,.enter f (first' ++ vs' ++ cap'),by simp [Deferred.ofValue],?_,fun c cs => ⟨_,rfl,?_⟩⟩
  ·have hn := beq_eq_false_iff_ne.1 hf.name
   simp [invoke,callFunc,hf.at_,hb,hn]
  ·obtain ⟨β',v,S',v',w',fr,g1,g2,g3,g4,g5,g6,g7⟩ := h β w (first' ++ vs' ++ cap') h1 h2 ((VRels.append (VRels.append ⟨e1,e2⟩ h4) ⟨e3,e4⟩)) (c :: cs)
   exact ⟨β',v,S',v',w',g1,g2,g3,g4,g5.trans (.one (step_leave_returned g7))⟩
theorem HCallA.of_run {fn : Func} {c : Code} {args : List HV} (hf : P.funcs[f]? = some fn) (hb : fn.body = some c)
  (h : HRun P base W0 β0 f none [.code c] { tmps := args ++ List.replicate (fn.ntmps - args.length) (.tup []),defers := [] } S R) : HCallA P base W0 β0 f args S R := by
 intro β w args' h1 h2 h3 kd cs
 let b : Frame := { (default : Frame) with fn := f,kind := kd,roundOf := none }
 have henter : Frame.enter P f args' kd = b.atR { tmps := args' ++ Array.replicate (fn.ntmps - args'.size) undef,defers := [] } [.code c] := by
  simp [Frame.enter,Frame.atR,hf,hb,b]
 obtain ⟨β',v,S',v',w',g1,g2,g3,g4,g5⟩ := h β w { tmps := args' ++ Array.replicate (fn.ntmps - args'.size) undef,defers := [] } h1 h2
  ⟨h3.append (by rw [h3.1]; exact VRels.replicate (VRel.undef β) _),⟨rfl,fun i d d' h => by simp at h⟩⟩ b cs rfl (by simp) trivial (by simp)
 obtain ⟨fr,s1,s2,s3,s4⟩ := g5
 exact ⟨β',v,S',v',w',fr,g1,g2,g3,g4,by rw [henter]; exact s1,s2,s3,s4⟩
theorem HCall.of_run {fn : Func} {c : Code} {args : List HV} (hf : P.funcs[f]? = some fn) (hb : fn.body = some c)
  (h : HRun P base W0 β0 f none [.code c] { tmps := args ++ List.replicate (fn.ntmps - args.length) (.tup []),defers := [] } S R) : HCall P base W0 β0 f args S R := (HCallA.of_run hf hb h).call
def ResOk (P : Program) (base : Nat) (W0 : Env) (fn : Func) (a : HAct) (S : HS) (v : HV) : Prop :=
 ∀ (β : Bt) (w : World) (a' : Act),Rel base W0 β S w → ARel β a a' → ∃ v',(results fn a'.tmps).run P w = .ok v' w ∧ VRel β v v'
theorem Rel.kill {β : Bt} {w : World} (h : Rel base W0 β S w) (id : Nat) : Rel base W0 β (S.put id .dead) w := by
 refine ⟨h.below,h.size,fun i hi => ?_,h.lt,fun i => ?_,fun i j b hij h1 h2 => ?_⟩
 ·have := h.fresh i hi
  refine ⟨this.1,?_⟩
  simp only [HS.put]
  split
  ·rfl
  ·exact this.2
 ·simp only [HS.put]
  split
  ·trivial
  ·exact h.objs i
 ·simp only [HS.put] at h1 h2
  split at h1
  ·cases h1
  ·split at h2
   ·cases h2
   ·exact h.disj i j b hij h1 h2
theorem Rel.setObj {β : Bt} {w : World} (h : Rel base W0 β S w) {id b : Nat} {o : HObj} {o' : Obj} (hid : (β id).block = some b) (hb : base ≤ b) (hown : (S.heap id).own = true) (hal : (S.heap id).alive = true)
  (ho : ObjRel base W0 β { w with heap := w.heap.setIfInBounds b o' } id (S.mrk id) o) :
  Rel base W0 β (S.put id o) { w with heap := w.heap.setIfInBounds b o' } := by
 have hget : ∀ j,j ≠ b → (w.heap.setIfInBounds b o')[j]? = w.heap[j]? := fun j hj => by
  rw [Array.getElem?_setIfInBounds,if_neg (fun e => hj e.symm)]
 refine ⟨h.below.trans ⟨rfl,rfl,rfl,by simp,fun j hj => hget j (by omega)⟩,by simpa using h.size,fun i hi => ?_,fun i c hc => by simpa using h.lt i c hc,fun i => ?_,fun i j c hij h1 h2 h3 => ?_⟩
 ·have hf := h.fresh i hi
  refine ⟨hf.1,?_⟩
  simp only [HS.put]
  split
  ·rename_i e; subst e; rw [hf.2] at hal; cases hal
  ·exact hf.2
 ·simp only [HS.put]
  split
  ·rename_i e; subst e; exact ho
  ·rename_i e
   have h1 := h.objs i
   cases hS : S.heap i with
   | dead => trivial
   | cells z rows own =>
    rw [hS] at h1
    obtain ⟨b1,o1,tot,arr,t,fr,q1,q2,q3⟩ := h1
    have hne : b1 ≠ b := fun e1 => h.disj id i b (fun e2 => e e2.symm) hown (by rw [hS]; rfl) hid (by rw [q1]; simp [Tgt.block,e1])
    exact ⟨b1,o1,tot,arr,t,fr,q1,(hget b1 hne).trans q2,q3⟩
   | map es =>
    rw [hS] at h1
    obtain ⟨b1,es',clk,q1,q2,q3,q4⟩ := h1
    have hne : b1 ≠ b := fun e1 => h.disj id i b (fun e2 => e e2.symm) hown (by rw [hS]; rfl) hid (by rw [q1]; simp [Tgt.block,e1])
    exact ⟨b1,es',clk,q1,q2,(hget b1 hne).trans q3,q4⟩
   | loop st pend =>
    rw [hS] at h1
    obtain ⟨b1,L,q1,q2,q3⟩ := h1
    have hne : b1 ≠ b := fun e1 => h.disj id i b (fun e2 => e e2.symm) hown (by rw [hS]; rfl) hid (by rw [q1]; simp [Tgt.block,e1])
    exact ⟨b1,L,q1,q2,(hget b1 hne).trans q3⟩
   | defer =>
    rw [hS] at h1
    obtain ⟨b1,q1,q2,q3⟩ := h1
    have hne : b1 ≠ b := fun e1 => h.disj id i b (fun e2 => e e2.symm) hown (by rw [hS]; rfl) hid (by rw [q1]; simp [Tgt.block,e1])
    exact ⟨b1,q1,q2,(hget b1 hne).trans q3⟩
   | call g vs => rw [hS] at h1; exact h1
   | opq =>
    rw [hS] at h1
    exact W0.stable _ _ _ _ _ h1 (.refl β) rfl fun c hc => hget c fun e1 => h.disj id i b (fun e2 => e e2.symm) hown (by rw [hS]; rfl) hid (by rw [hc,e1])
 ·simp only [HS.put] at h1 h2
  by_cases e1 : i = id
  ·subst e1
   rw [if_neg (fun e => hij e.symm)] at h2
   exact h.disj i j c hij hown h2 h3
  ·rw [if_neg e1] at h1
   by_cases e2 : j = id
   ·subst e2
    exact h.disj i j c hij h1 hal h3
   ·rw [if_neg e2] at h2
    exact h.disj i j c hij h1 h2 h3
def HS.kills (S : HS) : List Nat → HS
 | [] => S
 | d :: ds => (S.put d .dead).kills ds
def Defers (S : HS) : List Nat → Prop
 | [] => True
 | d :: ds => S.heap d = .defer ∧ Defers (S.put d .dead) ds
theorem hr_leave {β : Bt} {fr : Frame} {cs : List Frame} : ∀ (ds : List Nat) (S : HS) (w : World) (ds' : List Deferred),Rel base W0 β S w → DRel β ds ds' → Defers S ds →
  ∃ w',Rel base W0 β (S.kills ds) w' ∧ (fr.mode = .returning → Steps P (lone { fr with defers := ds' } cs w) (lone { fr with defers := [] } cs w')) := by
 intro ds
 induction ds with
 | nil =>
  intro S w ds' h hd _
  obtain rfl : ds' = [] := by have := hd.1; cases ds' <;> simp_all
  exact ⟨w,h,fun _ => .refl P _⟩
 | cons d ds ih =>
  intro S w ds' h hd hS
  cases ds' with
  | nil => have := hd.1; simp at this
  | cons d' ds' =>
   obtain ⟨hdef,hrest⟩ := hS
   have ho := h.objs d
   rw [hdef] at ho
   obtain ⟨b1,q1,q2,q3⟩ := ho
   obtain ⟨b,hb,hb'⟩ : ∃ b,β d = .obj b ∧ d'.target = .collected b := (hd.2 0 d d' rfl rfl).elim id (fun g => by rw [q1] at g; cases g)
   rw [hb] at q1
   obtain rfl : b = b1 := by cases q1; rfl
   have hR := h.setObj (id := d) (b := b) (o := .dead) (o' := .deferred none) (by rw [hb]; rfl) q2 (by rw [hdef]; rfl) (by rw [hdef]; rfl) trivial
   have hd2 : DRel β ds ds' := ⟨by have := hd.1; simpa using this,fun i x x' h1 h2 => hd.2 (i + 1) x x' (by simpa using h1) (by simpa using h2)⟩
   obtain ⟨w',g1,g2⟩ := ih (S.put d .dead) _ ds' hR hd2 hrest
   refine ⟨w',g1,fun hm => .head (step_collected (r := b) (calls := []) (by show fr.mode ≠ .run; rw [hm]; simp) rfl hb' ?_) (g2 hm)⟩
   simp [Instr.takeDeferred,getObj,setObj,Sem.run,q3]
theorem hr_ret {fn : Func} {v : HV} (hf : P.funcs[f]? = some fn) (hres : ResOk P base W0 fn a (S.kills a.defers) v) (hd : Defers S a.defers) (hR : R v (S.kills a.defers)) :
  HRun P base W0 β0 f none (.code .ret :: k) a S R := by
 intro β w a' h1 h2 h3 b cs h4 h5 h6 h7
 have hro : b.roundOf = none := by
  cases hb : b.roundOf with
  | none => rfl
  | some x => rw [hb] at h6; exact h6.elim
 let fr : Frame := { b.atR a' (.code .ret :: k) with mode := .returning }
 obtain ⟨w',g1,g2⟩ := hr_leave (P := P) (fr := fr) (cs := cs) a.defers S w a'.defers h2 h3.defers hd
 obtain ⟨v',g3,g4⟩ := hres β w' a' g1 h3
 rw [hro]
 refine ⟨β,v,_,v',w',.refl β,hR,g4,g1,{ fr with defers := [] },(Steps.head (stepR_ret hro) (g2 rfl)),h4,rfl,rfl,rfl,fn,?_,g3⟩
 show P.funcs[b.fn]? = some fn
 rw [h4]; exact hf
theorem hr_end {fn : Func} {v : HV} (hf : P.funcs[f]? = some fn) (hres : ResOk P base W0 fn a (S.kills a.defers) v) (hd : Defers S a.defers) (hR : R v (S.kills a.defers)) :
  HRun P base W0 β0 f none [] a S R := by
 intro β w a' h1 h2 h3 b cs h4 h5 h6 h7
 have hro : b.roundOf = none := by
  cases hb : b.roundOf with
  | none => rfl
  | some x => rw [hb] at h6; exact h6.elim
 let fr : Frame := { b.atR a' [] with mode := .returning }
 obtain ⟨w',g1,g2⟩ := hr_leave (P := P) (fr := fr) (cs := cs) a.defers S w a'.defers h2 h3.defers hd
 obtain ⟨v',g3,g4⟩ := hres β w' a' g1 h3
 rw [hro]
 refine ⟨β,v,_,v',w',.refl β,hR,g4,g1,{ fr with defers := [] },(Steps.head (stepR_end hro) (g2 rfl)),h4,rfl,rfl,rfl,fn,?_,g3⟩
 show P.funcs[b.fn]? = some fn
 rw [h4]; exact hf
theorem res0 {fn : Func} (h : fn.results = #[]) : ResOk P base W0 fn a S (.tup []) :=
 fun β w a' _ _ => ⟨.tuple #[],by simp [results,h],VRel.undef β⟩
theorem res1 {fn : Func} {t : Tmp} {v : HV} (h : fn.results = #[.tmp t]) (hv : a.tmps[t]? = some v) : ResOk P base W0 fn a S v := by
 intro β w a' _ h3
 obtain ⟨v',g1,g2⟩ := h3.tmps.get hv
 exact ⟨v',by simp [results,h,Array.getD_eq_getD_getElem?,g1],g2⟩
end
section
variable {P : Program} {base : Nat} {W0 : Env} {β0 : Bt} {f : FuncId} {ro : Option Nat} {k : List Item} {a : HAct} {S : HS} {R : HV → HS → Prop}
theorem eval_const (a : Act) (v : Value) : a.eval (.const v) = v := rfl
def LoopAt (β : Bt) (l : Nat) (f : FuncId) (a : HAct) (ps : Array Tmp) (assign body : Code) : Prop :=
 ∃ b L,β l = .loop b L ∧ L.fn = f ∧ L.params = ps ∧ L.assign = assign ∧ L.body = body ∧ VRels β a.tmps L.tmps
theorem LoopAt.mono {β β' : Bt} (hb : Le β β') {l : Nat} {ps : Array Tmp} {assign body : Code} (h : LoopAt β l f a ps assign body) : LoopAt β' l f a ps assign body :=
 let ⟨b,L,h1,h2,h3,h4,h5,h6⟩ := h
 ⟨b,L,hb.eq h1 (by simp),h2,h3,h4,h5,h6.mono hb⟩
theorem Rel.allocM {β : Bt} {w : World} (h : Rel base W0 β S w) (o' : Obj) (o : HObj) (m : Nat) (t : Tgt) (ht : t.block = some w.heap.size)
  (ho : ∀ β',Le β β' → β' S.next = t → ObjRel base W0 β' { w with heap := w.heap.push o' } S.next m o) :
  ∃ β',Le β β' ∧ β' S.next = t ∧ Rel base W0 β' (S.newM o m) { w with heap := w.heap.push o' } := by
 let β' : Bt := fun i => if i = S.next then t else β i
 have hle : Le β β' := fun i hi => by
  have : i ≠ S.next := fun e => hi (by rw [e]; exact (h.fresh S.next (Nat.le_refl _)).1)
  simp [β',this]
 have hat : β' S.next = t := by simp [β']
 have hoth : ∀ i,i ≠ S.next → β' i = β i := fun i hi => by simp [β',hi]
 have hget : ∀ j,j < w.heap.size → (w.heap.push o')[j]? = w.heap[j]? := fun j hj => by
  rw [Array.getElem?_push,if_neg (by omega)]
 have hltβ : ∀ i b,(β i).block = some b → b < w.heap.size := h.lt
 refine ⟨β',hle,hat,h.below.trans ⟨rfl,rfl,rfl,by simp,fun j hj => hget j (Nat.lt_of_lt_of_le hj h.size)⟩,by simpa using Nat.le_succ_of_le h.size,fun i hi => ?_,fun i b hb => ?_,fun i => ?_,fun i j b hij h1 h2 h3 => ?_⟩
 ·simp only [HS.newM] at hi ⊢
  have hf := h.fresh i (by omega)
  rw [hoth i (by omega),if_neg (by omega)]
  exact hf
 ·by_cases e : i = S.next
  ·rw [e,hat,ht] at hb; cases hb; simp
  ·rw [hoth i e] at hb; have := h.lt i b hb; simp; omega
 ·by_cases e : i = S.next
  ·subst e
   simp only [HS.newM,if_true]
   exact ho β' hle hat
  ·simp only [HS.newM,if_neg e]
   have h1 := h.objs i
   cases hS : S.heap i with
   | dead => trivial
   | cells z rows own =>
    rw [hS] at h1
    obtain ⟨b1,o1,tot,arr,ty,fr,q1,q2,q3,q4,q5,q6,q7⟩ := h1
    exact ⟨b1,o1,tot,arr,ty,fr,(hoth i e).trans q1,(hget b1 (hltβ i b1 (by rw [q1]; rfl))).trans q2,q3,q4,q5,q6.mono hle,q7⟩
   | map es =>
    rw [hS] at h1
    obtain ⟨b1,es',clk,q1,q2,q3,q4⟩ := h1
    exact ⟨b1,es',clk,(hoth i e).trans q1,q2,(hget b1 (hltβ i b1 (by rw [q1]; rfl))).trans q3,q4.mono hle⟩
   | loop st pend =>
    rw [hS] at h1
    obtain ⟨b1,L,q1,q2,q3⟩ := h1
    exact ⟨b1,L,(hoth i e).trans q1,q2,(hget b1 (hltβ i b1 (by rw [q1]; rfl))).trans q3⟩
   | defer =>
    rw [hS] at h1
    obtain ⟨b1,q1,q2,q3⟩ := h1
    exact ⟨b1,(hoth i e).trans q1,q2,(hget b1 (hltβ i b1 (by rw [q1]; rfl))).trans q3⟩
   | call g vs =>
    rw [hS] at h1
    obtain ⟨args',q1,q2⟩ := h1
    exact ⟨args',(hoth i e).trans q1,q2.mono hle⟩
   | opq => rw [hS] at h1; exact W0.stable _ _ _ _ _ h1 hle (hoth i e) fun b hb => hget b (hltβ i b hb)
 ·have hnew : (S.heap S.next) = .dead := (h.fresh S.next (Nat.le_refl _)).2
  by_cases e1 : i = S.next
  ·subst e1
   rw [hat,ht] at h3; cases h3
   intro h4
   rw [hoth j (fun e => hij e.symm)] at h4
   exact Nat.lt_irrefl _ (h.lt j _ h4)
  ·rw [hoth i e1] at h3
   by_cases e2 : j = S.next
   ·subst e2
    rw [hat,ht]
    intro h4
    cases h4
    exact Nat.lt_irrefl _ (h.lt i _ h3)
   ·rw [hoth j e2]
    simp only [HS.newM,if_neg e1] at h1
    simp only [HS.newM,if_neg e2] at h2
    exact h.disj i j b hij h1 h2 h3
theorem Rel.alloc {β : Bt} {w : World} (h : Rel base W0 β S w) (o' : Obj) (o : HObj) (t : Tgt) (ht : t.block = some w.heap.size)
  (ho : ∀ β',Le β β' → β' S.next = t → ObjRel base W0 β' { w with heap := w.heap.push o' } S.next 0 o) :
  ∃ β',Le β β' ∧ β' S.next = t ∧ Rel base W0 β' (S.new o) { w with heap := w.heap.push o' } := h.allocM o' o 0 t ht ho
theorem HRun.turn {k' : List Item} {S1 : HS} (hs : ∀ (β : Bt) (w : World) (b : Frame),Rel base W0 β S w → RoRel β ro b.roundOf → ∃ w1,Rel base W0 β S1 w1 ∧ ∀ (a' : Act) (cs : List Frame),step P (lone (b.atR a' k) cs w) = .next (lone (b.atR a' k') cs w1))
  (h : HRun P base W0 β0 f ro k' a S1 R) : HRun P base W0 β0 f ro k a S R := by
 intro β w a' h1 h2 h3 b cs h4 h5 h6 h7
 obtain ⟨w1,e1,e2⟩ := hs β w b h2 h6
 obtain ⟨β',v,S',v',w',g1,g2,g3,g4,g5⟩ := h β w1 a' h1 e1 h3 b cs h4 h5 h6 h7
 exact ⟨β',v,S',v',w',g1,g2,g3,g4,g5.of_steps (P := P) (.one (e2 a' cs))⟩
theorem Rel.turnLoop {β : Bt} {w : World} (h : Rel base W0 β S w) {l b : Nat} {L : LInfo} {st : LoopState} {pend : Option Code} (hl : S.heap l = .loop st pend) (hb : β l = .loop b L) (st' : LoopState) (pend' : Option Code) :
  w.heap[b]? = some (L.obj st pend) ∧ Rel base W0 β (S.put l (.loop st' pend')) { w with heap := w.heap.setIfInBounds b (L.obj st' pend') } := by
 have h1 := h.objs l
 rw [hl] at h1
 obtain ⟨b1,L1,q1,q2,q3⟩ := h1
 rw [hb] at q1
 cases q1
 refine ⟨q3,h.setObj (by rw [hb]; rfl) q2 (by rw [hl]; rfl) (by rw [hl]; rfl) ⟨b,L,hb,q2,?_⟩⟩
 rw [Array.getElem?_setIfInBounds,if_pos rfl,if_pos (Array.getElem?_eq_some_iff.1 q3).1]
theorem hr_beginRound {l : Nat} {pend : Option Code} (hl : S.heap l = .loop .ready pend) (h : HRun P base W0 β0 f (some l) k a (S.put l (.loop .busy pend)) R) : HRun P base W0 β0 f (some l) (.beginRound :: k) a S R := by
 refine HRun.turn (fun β w b hR hro => ?_) h
 cases hb : b.roundOf with
 | none => rw [hb] at hro; exact hro.elim
 | some x =>
  rw [hb] at hro
  obtain ⟨L,hL⟩ := hro
  obtain ⟨q1,q2⟩ := hR.turnLoop hl hL .busy pend
  exact ⟨_,q2,fun a' cs => stepR_beginRound hb (by simp [Instr.beginRound,Instr.getLoop,getObj,setObj,Sem.run,q1,LInfo.obj])⟩
theorem HRun.roundEnd {l : Nat} {st : LoopState} {pend : Option Code} {jump : Option Code} (hl : S.heap l = .loop st pend)
  (hs : ∀ (b : Frame) (a' : Act) (c : Frame) (cs : List Frame) (w w' : World) (x : Nat) (v : Value),b.roundOf = some x → b.kind = .normal → (Instr.endRound x jump).run P w = .ok v w' → step P (lone (b.atR a' k) (c :: cs) w) = .next (lone (c.finish v) cs w'))
  (hR : R (.bool jump.isNone) (S.put l (.loop (if jump.isNone then .ready else .done) jump))) : HRun P base W0 β0 f (some l) k a S R := by
 intro β w a' h1 h2 h3 b cs h4 h5 h6 h7
 cases hb : b.roundOf with
 | none => rw [hb] at h6; exact h6.elim
 | some x =>
  rw [hb] at h6
  obtain ⟨L,hL⟩ := h6
  obtain ⟨q1,q2⟩ := h2.turnLoop hl hL (if jump.isNone then .ready else .done) jump
  cases cs with
  | nil => exact absurd rfl (h7 rfl)
  | cons c cs =>
   refine ⟨β,_,_,.bool jump.isNone,_,.refl β,hR,.bool _,q2,c,cs,rfl,.one (hs b a' c cs w _ x _ hb (h5 rfl) ?_)⟩
   simp [Instr.endRound,Instr.getLoop,getObj,setObj,Sem.run,q1,LInfo.obj]
theorem hr_round_end {l : Nat} {st : LoopState} {pend : Option Code} (hl : S.heap l = .loop st pend) (hR : R (.bool true) (S.put l (.loop .ready none))) : HRun P base W0 β0 f (some l) [] a S R :=
 HRun.roundEnd (jump := none) hl (fun _ _ _ _ _ _ _ _ hb hk hr => stepR_round_end hb hk hr) hR
theorem hr_round_ret {l : Nat} {st : LoopState} {pend : Option Code} (hl : S.heap l = .loop st pend) (hR : R (.bool false) (S.put l (.loop .done (some .ret)))) : HRun P base W0 β0 f (some l) (.code .ret :: k) a S R :=
 HRun.roundEnd (jump := some .ret) hl (fun _ _ _ _ _ _ _ _ hb hk hr => stepR_round_ret hb hk hr) hR
theorem hr_round_exit {l id : Nat} {st : LoopState} {pend : Option Code} (hx : exitTo id k = none) (hl : S.heap l = .loop st pend) (hR : R (.bool false) (S.put l (.loop .done (some (.exit id))))) : HRun P base W0 β0 f (some l) (.code (.exit id) :: k) a S R :=
 HRun.roundEnd (jump := some (.exit id)) hl (fun _ _ _ _ _ _ _ _ hb hk hr => stepR_round_exit hb hk hx hr) hR
def HAct.params (ts : List HV) : List Tmp → List HV → List HV
 | p :: ps,v :: vs => HAct.params (ts.set p v) ps vs
 | _,_ => ts
theorem params_rel {β : Bt} : ∀ (ps : List Tmp) (vs : List HV) (vs' : List Value) (ts : List HV) (ts' : Array Value),VRels β ts ts' → VRels β vs vs'.toArray →
  VRels β (HAct.params ts ps vs) ((ps.zip vs').foldl (fun tmps (t,a) => tmps.setIfInBounds t a) ts') := by
 intro ps
 induction ps with
 | nil => intro vs vs' ts ts' h _; simpa [HAct.params] using h
 | cons p ps ih =>
  intro vs vs' ts ts' h k
  cases vs with
  | nil =>
   obtain rfl : vs' = [] := by have := k.1; cases vs' <;> simp_all
   simpa [HAct.params] using h
  | cons v vs =>
   cases vs' with
   | nil => have := k.1; simp at this
   | cons v' vs' =>
    have hv : VRel β v v' := k.2 0 v v' rfl (by simp)
    have hvs : VRels β vs vs'.toArray := ⟨by have := k.1; simp at this ⊢; exact this,fun i x x' h1 h2 => k.2 (i + 1) x x' (by simpa using h1) (by simpa using h2)⟩
    simpa [HAct.params] using ih vs vs' (ts.set p v) _ (h.set hv p) hvs
theorem HInv.yield {l : Nat} {vs : List HV} {ps : Array Tmp} {assign body : Code} {st : LoopState} {pend : Option Code} (hl : LoopAt β0 l f a ps assign body) (hS : S.heap l = .loop st pend) (hn : vs.length = ps.size)
  (h : HRun P base W0 β0 f (some l) [.code assign,.beginRound,.code body] { tmps := HAct.params a.tmps ps.toList vs,defers := [] } S R) : HInv P base W0 β0 (.fn (.yield l) [] []) vs S R := by
 intro β w fv' vs' h1 h2 h3 h4
 cases h3 with
 | @yld _ b L hb =>
  obtain ⟨b1,L1,q1,q2,q3,q4,q5,q6⟩ := hl.mono h1
  rw [hb] at q1
  cases q1
  have ho := h2.objs l
  rw [hS] at ho
  obtain ⟨b2,L2,r1,r2,r3⟩ := ho
  rw [hb] at r1
  cases r1
  let ts' := (ps.zip vs').foldl (fun tmps (t,a) => tmps.setIfInBounds t a) L.tmps
  have hts : VRels β (HAct.params a.tmps ps.toList vs) ts' := by
   have := params_rel ps.toList vs vs'.toList a.tmps L.tmps q6 (by simpa using h4)
   have e : ts' = ((ps.toList.zip vs'.toList).foldl (fun tmps (t,a) => tmps.setIfInBounds t a) L.tmps) := by
    simp only [ts']
    rw [← Array.foldl_toList,Array.toList_zip]
   rw [e]; exact this
  refine ⟨⟨.fn (.yield b) #[],vs'⟩,.round b f ts' assign body,by simp [Deferred.ofValue],?_,fun c cs => ⟨_,rfl,?_⟩⟩
  ·have hsz : vs'.size = ps.size := h4.1 ▸ hn
   simp [invoke,Instr.yield,Instr.getLoop,getObj,Sem.run,r3,LInfo.obj,hsz,q2,q4,q5,ts',q3]
  ·let fr : Frame := { (default : Frame) with fn := f,kind := .normal,roundOf := some b }
   have he : Frame.round b f ts' assign body .normal = fr.atR { tmps := ts',defers := [] } [.code assign,.beginRound,.code body] := by
    simp [Frame.round,Frame.atR,fr]
   obtain ⟨β',v,S',v',w',g1,g2,g3,g4,g5⟩ := h β w { tmps := ts',defers := [] } h1 h2 ⟨hts,⟨rfl,fun i d d' h => by simp at h⟩⟩ fr (c :: cs) rfl (fun _ => rfl) ⟨L,hb⟩ (by simp)
   obtain ⟨c1,cs1,e1,e2⟩ := g5
   cases e1
   exact ⟨β',v,S',v',w',g1,g2,g3,g4,by rw [he]; exact e2⟩
def jumped (pend : Option Code) (k : List Item) : List Item := (pend.map Item.code).toList ++ k
theorem stepR_range_start {P : Program} {b : Frame} {a : Act} {k : List Item} {cs : List Frame} {w w1 : World} {g : Operand} {ps : Array Tmp} {assign body : Code} {l : Nat} {mark : List Deferred} {d : Deferred} {nx : Next} {m : Machine}
  (he : (Instr.enterLoop b.fn a.tmps ps assign body b.roundOf).run P w = .ok (l,mark) w1)
  (hres : (Deferred.ofValue (a.eval g) #[.func (.yield l) #[] #[]]).run P w1 = .ok d w1) (hinv : (invoke d.target d.args).run P w1 = .ok nx w1)
  (hm : startOf P nx (b.atR { a with defers := mark ++ a.defers } (.inRangeFunc l :: k)) cs w1 = some m) :
  step P (lone (b.atR a (.code (.rangeFunc g ps assign body) :: k)) cs w) = .next m := by
 have hev := Frame.eval_atR b { a with defers := mark ++ a.defers } (.inRangeFunc l :: k)
 simp only [Frame.atR] at hev
 have hres' : Sem.run P (resolve ({ tmps := a.tmps,defers := mark ++ a.defers } : Act).eval { callee := .value g,args := #[.const (.func (.yield l) #[] #[])],argTypes := #[] } 0) w1 = .ok d w1 := by
  have hE : ({ tmps := a.tmps,defers := mark ++ a.defers } : Act).eval = a.eval := funext fun x => by cases x <;> rfl
  rw [hE]
  simpa [resolve,eval_const] using hres
 cases nx with
 | enter fi as =>
  simp only [startOf,Option.some.injEq] at hm
  subst hm
  exact step_lone_go (by simp [stepG,stepG.exec,Frame.atR,Sem.runT_eq,he,GStep.bare_after,stepG.apply,hev,Sem.run_bind,hres',hinv,Result.andThen])
 | round l' fi tmps as bd =>
  simp only [startOf,Option.some.injEq] at hm
  subst hm
  exact step_lone_go (by simp [stepG,stepG.exec,Frame.atR,Sem.runT_eq,he,GStep.bare_after,stepG.apply,hev,Sem.run_bind,hres',hinv,Result.andThen])
 | _ => simp [startOf] at hm
theorem hr_range_step {g : Operand} {ps : Array Tmp} {assign body : Code} {fv : HV} {R1 : HV → HS → Prop} {S1 : HS} {l : Nat} {ds : List Nat}
  (hg : Ev a g fv)
  (henter : ∀ (β : Bt) (w : World) (a' : Act) (x : Option Nat),Rel base W0 β S w → ARel β a a' → RoRel β ro x → ∃ β1 w1 b1 mark D,Le β β1 ∧ Rel base W0 β1 S1 w1 ∧ β1 l = .loop b1 { fn := f,tmps := a'.tmps,params := ps,assign := assign,body := body,defers := D } ∧
   (Instr.enterLoop f a'.tmps ps assign body x).run P w = .ok (b1,mark) w1 ∧ DRel β1 ds (mark ++ a'.defers))
  (hcall : ∀ β1,Le β0 β1 → LoopAt β1 l f a ps assign body → HInv P base W0 β1 fv [.fn (.yield l) [] []] S1 R1)
  (hend : ∀ v S2,R1 v S2 → ∃ st pend,S2.heap l = .loop st pend ∧ st ≠ .busy ∧ HRun P base W0 β0 f ro (jumped pend k) { a with defers := ds } (S2.put l (.loop .exhausted pend)) R) :
  HRun P base W0 β0 f ro (.code (.rangeFunc g ps assign body) :: k) a S R := by
 intro β w a' h1 h2 h3 b cs h4 h5 h6 h7
 obtain ⟨β1,w1,b1,mark,D,e1,e2,e3,e4,e5⟩ := henter β w a' b.roundOf h2 h3 h6
 have hLA : LoopAt β1 l f a ps assign body := ⟨b1,_,e3,rfl,rfl,rfl,rfl,h3.tmps.mono e1⟩
 obtain ⟨d,nx,n1,n2,n3⟩ := hcall β1 (h1.trans e1) hLA β1 w1 (a'.eval g) #[.func (.yield b1) #[] #[]] (.refl β1) e2 ((hg.rel h3).mono e1) (VRels.cons (.yld e3) (VRels.nil β1))
 obtain ⟨m,hm,β2,v,S2,v',w2,g1,g2,g3,g4,g5⟩ := n3 (b.atR { a' with defers := mark ++ a'.defers } (.inRangeFunc b1 :: k)) cs
 obtain ⟨st,pend,r1,r2,r3⟩ := hend v S2 g2
 have henter' := stepR_range_start (P := P) (b := b) (a := a') (k := k) (cs := cs) (w := w) (g := g) (ps := ps) (assign := assign) (body := body) (l := b1) (mark := mark) (w1 := w1) (d := d) (nx := nx) (m := m)
  (by rw [h4]; exact e4) n1 n2 hm
 rw [finish_atR_inRangeFunc] at g5
 obtain ⟨q1,q2⟩ := g4.turnLoop r1 (g1.eq e3 (by simp)) .exhausted pend
 have hendl := stepR_endRangeFunc (P := P) (b := b) (a := { a' with defers := mark ++ a'.defers }) (k := k) (cs := cs) (w := w2) (l := b1) (jump := pend)
  (w' := _) (by
   show (Instr.endLoop b1).run P w2 = .ok pend { w2 with heap := w2.heap.setIfInBounds b1 (LInfo.obj { fn := f,tmps := a'.tmps,params := ps,assign := assign,body := body,defers := D } .exhausted pend) }
   simp [Instr.endLoop,Instr.getLoop,getObj,setObj,Sem.run,q1,LInfo.obj,r2])
 obtain ⟨β3,v3,S3,v3',w3,t1,t2,t3,t4,t5⟩ := r3 β2 _ { a' with defers := mark ++ a'.defers } (h1.trans (e1.trans g1)) q2 ⟨h3.tmps.mono (e1.trans g1),e5.mono g1⟩ b cs h4 h5 (h6.mono (e1.trans g1)) h7
 exact ⟨β3,v3,S3,v3',w3,e1.trans (g1.trans t1),t2,t3,t4,t5.of_steps (P := P) (.head henter' (g5.trans (.one hendl)))⟩
end
section
variable {P : Program} {base : Nat} {W0 : Env} {β0 : Bt} {f : FuncId} {ro : Option Nat} {k : List Item} {a : HAct} {S : HS} {R : HV → HS → Prop}
theorem enter_out (ps : Array Tmp) (assign body : Code) (β : Bt) (w : World) (a' : Act) (x : Option Nat) (h : Rel base W0 β S w) (ha : ARel β a a') (hx : RoRel β none x) :
  ∃ β1 w1 b1 mark D,Le β β1 ∧ Rel base W0 β1 ((S.new .defer).new (.loop .ready none)) w1 ∧ β1 (S.next + 1) = .loop b1 { fn := f,tmps := a'.tmps,params := ps,assign := assign,body := body,defers := D } ∧
   (Instr.enterLoop f a'.tmps ps assign body x).run P w = .ok (b1,mark) w1 ∧ DRel β1 (S.next :: a.defers) (mark ++ a'.defers) := by
 cases x with
 | some x => exact hx.elim
 | none =>
  obtain ⟨β1,g1,g2,g3⟩ := h.alloc (.deferred (some [])) .defer (.obj w.heap.size) rfl (fun β' _ hb => ⟨w.heap.size,hb,h.size,by simp⟩)
  let L : LInfo := { fn := f,tmps := a'.tmps,params := ps,assign := assign,body := body,defers := w.heap.size }
  obtain ⟨β2,q1,q2,q3⟩ := g3.alloc (L.obj .ready none) (.loop .ready none) (.loop (w.heap.size + 1) L) (by simp [Tgt.block]) (fun β' _ hb => ⟨w.heap.size + 1,L,hb,Nat.le_succ_of_le h.size,by show ((w.heap.push _).push _)[w.heap.size + 1]? = _; rw [Array.getElem?_push,if_pos (by simp)]⟩)
  refine ⟨β2,_,w.heap.size + 1,[{ target := .collected w.heap.size,args := #[] }],w.heap.size,g1.trans q1,q3,q2,by simp [Instr.enterLoop,L]; rfl,?_⟩
  refine ⟨by simp [ha.defers.1],fun i d d' h1 h2 => ?_⟩
  cases i with
  | zero =>
   simp at h1 h2
   subst h1; subst h2
   exact .inl ⟨w.heap.size,q1.eq g2 (by simp),rfl⟩
  | succ i => exact (ha.defers.mono (g1.trans q1)).2 i d d' (by simpa using h1) (by simpa using h2)
theorem enter_in {lo : Nat} {st : LoopState} {pend : Option Code} (hlo : S.heap lo = .loop st pend) (ps : Array Tmp) (assign body : Code) (β : Bt) (w : World) (a' : Act) (x : Option Nat) (h : Rel base W0 β S w) (ha : ARel β a a') (hx : RoRel β (some lo) x) :
  ∃ β1 w1 b1 mark D,Le β β1 ∧ Rel base W0 β1 (S.new (.loop .ready none)) w1 ∧ β1 S.next = .loop b1 { fn := f,tmps := a'.tmps,params := ps,assign := assign,body := body,defers := D } ∧
   (Instr.enterLoop f a'.tmps ps assign body x).run P w = .ok (b1,mark) w1 ∧ DRel β1 a.defers (mark ++ a'.defers) := by
 cases x with
 | none => exact hx.elim
 | some x =>
  obtain ⟨L0,hL0⟩ := hx
  have ho := h.objs lo
  rw [hlo] at ho
  obtain ⟨b0,L1,r1,r2,r3⟩ := ho
  rw [hL0] at r1
  cases r1
  let L : LInfo := { fn := f,tmps := a'.tmps,params := ps,assign := assign,body := body,defers := L0.defers }
  obtain ⟨β2,q1,q2,q3⟩ := h.alloc (L.obj .ready none) (.loop .ready none) (.loop w.heap.size L) (by simp [Tgt.block]) (fun β' _ hb => ⟨w.heap.size,L,hb,h.size,by simp⟩)
  refine ⟨β2,_,w.heap.size,[],L0.defers,q1,q3,q2,by simp [Instr.enterLoop,Instr.getLoop,getObj,Sem.run,r3,LInfo.obj,L],?_⟩
  simpa using ha.defers.mono q1
theorem hr_range {g : Operand} {ps : Array Tmp} {assign body : Code} {fv : HV} {R1 : HV → HS → Prop}
  (hg : Ev a g fv)
  (hcall : ∀ β1,Le β0 β1 → LoopAt β1 (S.next + 1) f a ps assign body → HInv P base W0 β1 fv [.fn (.yield (S.next + 1)) [] []] ((S.new .defer).new (.loop .ready none)) R1)
  (hend : ∀ v S2,R1 v S2 → ∃ st pend,S2.heap (S.next + 1) = .loop st pend ∧ st ≠ .busy ∧ HRun P base W0 β0 f none (jumped pend k) { a with defers := S.next :: a.defers } (S2.put (S.next + 1) (.loop .exhausted pend)) R) :
  HRun P base W0 β0 f none (.code (.rangeFunc g ps assign body) :: k) a S R :=
 hr_range_step hg (fun β w a' x h1 h2 h3 => enter_out ps assign body β w a' x h1 h2 h3) hcall hend
theorem hr_range_in {lo : Nat} {st0 : LoopState} {pend0 : Option Code} (hlo : S.heap lo = .loop st0 pend0) {g : Operand} {ps : Array Tmp} {assign body : Code} {fv : HV} {R1 : HV → HS → Prop}
  (hg : Ev a g fv)
  (hcall : ∀ β1,Le β0 β1 → LoopAt β1 S.next f a ps assign body → HInv P base W0 β1 fv [.fn (.yield S.next) [] []] (S.new (.loop .ready none)) R1)
  (hend : ∀ v S2,R1 v S2 → ∃ st pend,S2.heap S.next = .loop st pend ∧ st ≠ .busy ∧ HRun P base W0 β0 f (some lo) (jumped pend k) a (S2.put S.next (.loop .exhausted pend)) R) :
  HRun P base W0 β0 f (some lo) (.code (.rangeFunc g ps assign body) :: k) a S R :=
 hr_range_step hg (fun β w a' x h1 h2 h3 => enter_in hlo ps assign body β w a' x h1 h2 h3) hcall hend
abbrev Hd := Nat → Option (List HV → HS → Option (HV × HS))
def Hd.set (H : Hd) (l : Nat) (r : List HV → HS → Option (HV × HS)) : Hd := fun i => if i = l then some r else H i
def HSound (P : Program) (base : Nat) (W0 : Env) (β0 : Bt) (H : Hd) : Prop :=
 ∀ l r,H l = some r → ∀ vs S v S',r vs S = some (v,S') → HInv P base W0 β0 (.fn (.yield l) [] []) vs S (fun v1 S1 => v1 = v ∧ S1 = S')
theorem HSound.up {H : Hd} {β1 : Bt} (h : HSound P base W0 β0 H) (hb : Le β0 β1) : HSound P base W0 β1 H :=
 fun l r hl vs S v S' hr => (h l r hl vs S v S' hr).up hb
theorem HSound.set {H : Hd} (h : HSound P base W0 β0 H) {l : Nat} {r : List HV → HS → Option (HV × HS)}
  (hr : ∀ vs S v S',r vs S = some (v,S') → HInv P base W0 β0 (.fn (.yield l) [] []) vs S (fun v1 S1 => v1 = v ∧ S1 = S')) : HSound P base W0 β0 (H.set l r) := by
 intro i q hq vs S v S' hv
 unfold Hd.set at hq
 split at hq
 ·rename_i e; subst e; cases hq; exact hr vs S v S' hv
 ·exact h i q hq vs S v S' hv
end
theorem toList_mk (s : List UInt8) : (⟨s.toArray⟩ : ByteArray).toList = s := by
 have key : ∀ (n i : Nat) (r : List UInt8),s.length - i = n → ByteArray.toList.loop ⟨s.toArray⟩ i r = r.reverse ++ s.drop i := by
  intro n
  induction n with
  | zero =>
   intro i r h
   unfold ByteArray.toList.loop
   rw [if_neg (by simp [ByteArray.size]; omega),List.drop_eq_nil_of_le (by omega)]; simp
  | succ n ih =>
   intro i r h
   unfold ByteArray.toList.loop
   rw [if_pos (by simp [ByteArray.size]; omega),ih _ _ (by omega)]
   have hi : i < s.length := by omega
   rw [List.drop_eq_getElem_cons hi]
   simp [ByteArray.get!,hi]
 unfold ByteArray.toList
 rw [key s.length 0 [] (by omega)]; simp
theorem size_mk (s : List UInt8) : (⟨s.toArray⟩ : ByteArray).size = s.length := by simp [ByteArray.size]
theorem get_mk (s : List UInt8) (i : Nat) : (⟨s.toArray⟩ : ByteArray)[i]? = s[i]? := by
 rw [getElem?_def]
 by_cases h : i < s.length
 ·rw [dif_pos (by rw [size_mk]; exact h),List.getElem?_eq_getElem h]; rfl
 ·rw [dif_neg (by rw [size_mk]; exact h),List.getElem?_eq_none (by omega)]
theorem beq_mk (s t : List UInt8) : ((⟨s.toArray⟩ : ByteArray) == ⟨t.toArray⟩) = (s == t) := by
 show (s.toArray == t.toArray) = _
 simp
theorem append_mk (s t : List UInt8) : (⟨s.toArray⟩ : ByteArray) ++ ⟨t.toArray⟩ = ⟨(s ++ t).toArray⟩ := by
 show ByteArray.append _ _ = _
 simp [ByteArray.append]
theorem extract_mk (l : List UInt8) (a b : Nat) : (ByteArray.mk l.toArray).extract a b = ByteArray.mk ((l.drop a).take (b - a)).toArray := by
 apply ByteArray.ext
 simp [ByteArray.data_extract]
section
variable {P : Program} {base : Nat} {W0 : Env} {a : HAct} {S : HS} {o : Oper}
theorem Ev.at_int {β : Bt} {a' : Act} (h : ARel β a a') {x : Operand} {k : IntKind} {n : Int} (e : Ev a x (.int k n)) : a'.eval x = .int k n := by
 have := e.rel h
 generalize a'.eval x = y at this
 cases this; rfl
theorem Ev.at_bool {β : Bt} {a' : Act} (h : ARel β a a') {x : Operand} {n : Bool} (e : Ev a x (.bool n)) : a'.eval x = .bool n := by
 have := e.rel h
 generalize a'.eval x = y at this
 cases this; rfl
theorem Ev.at_str {β : Bt} {a' : Act} (h : ARel β a a') {x : Operand} {n : List UInt8} (e : Ev a x (.str n)) : a'.eval x = .string ⟨n.toArray⟩ := by
 have := e.rel h
 generalize a'.eval x = y at this
 cases this; rfl
theorem OpOk.pure {v : HV} (hd : ∀ c,o.op ≠ .defer c)
  (h : ∀ (β : Bt) (w : World) (a' : Act),Rel base W0 β S w → ARel β a a' → ∃ v',(execOp a'.eval o).run P w = .ok (.value v') w ∧ VRel β v v') : OpOk P base W0 o a S v S :=
 ⟨hd,fun β w a' h1 h2 => let ⟨v',g1,g2⟩ := h β w a' h1 h2; ⟨β,w,v',.refl β,.inl g1,g2,h1⟩⟩
theorem ok_move {x : Operand} {v : HV} (ho : o.op = .move x) (hx : Ev a x v) : OpOk P base W0 o a S v S :=
 .pure (by rw [ho]; simp) fun β w a' _ h2 => ⟨a'.eval x,by simp [execOp,ho],hx.rel h2⟩
theorem ok_assign {x : Operand} {v : HV} (ho : o.op = .assign x) (hx : Ev a x v) : OpOk P base W0 o a S v S :=
 .pure (by rw [ho]; simp) fun β w a' _ h2 => ⟨a'.eval x,by simp [execOp,ho],hx.rel h2⟩
theorem ok_pick_t {c x y : Operand} {v : HV} (ho : o.op = .pick c x y) (hc : Ev a c (.bool true)) (hx : Ev a x v) : OpOk P base W0 o a S v S :=
 .pure (by rw [ho]; simp) fun β w a' _ h2 => ⟨a'.eval x,by simp [execOp,ho,hc.at_bool h2,asBool],hx.rel h2⟩
theorem ok_pick_f {c x y : Operand} {v : HV} (ho : o.op = .pick c x y) (hc : Ev a c (.bool false)) (hy : Ev a y v) : OpOk P base W0 o a S v S :=
 .pure (by rw [ho]; simp) fun β w a' _ h2 => ⟨a'.eval y,by simp [execOp,ho,hc.at_bool h2,asBool],hy.rel h2⟩
def ibin (op : BinOp) (k : IntKind) (m n : Int) : Option HV :=
 match op with
 | .add => some (.int k (k.wrap (m + n)))
 | .sub => some (.int k (k.wrap (m - n)))
 | .mul => some (.int k (k.wrap (m * n)))
 | .quo => if n = 0 then none else some (.int k (k.wrap (m.tdiv n)))
 | .rem => if n = 0 then none else some (.int k (m.tmod n))
 | .and => some (.int k (k.wrap (BitVec.ofInt k.bits m &&& BitVec.ofInt k.bits n).toNat))
 | .or => some (.int k (k.wrap (BitVec.ofInt k.bits m ||| BitVec.ofInt k.bits n).toNat))
 | .xor => some (.int k (k.wrap (BitVec.ofInt k.bits m ^^^ BitVec.ofInt k.bits n).toNat))
 | .andNot => some (.int k (k.wrap (BitVec.ofInt k.bits m &&& ~~~ BitVec.ofInt k.bits n).toNat))
 | .eql => some (.bool (decide (m = n)))
 | .neq => some (.bool (!decide (m = n)))
 | .lss => some (.bool (decide (m < n)))
 | .leq => some (.bool (decide (m ≤ n)))
 | .gtr => some (.bool (decide (m > n)))
 | .geq => some (.bool (decide (m ≥ n)))
 | _ => none
theorem ok_ibin {op : BinOp} {t ty : TypeId} {x y : Operand} {k : IntKind} {m n : Int} {v : HV} (ho : o.op = .binOp op t x y ty) (hx : Ev a x (.int k m)) (hy : Ev a y (.int k n)) (hv : ibin op k m n = some v) : OpOk P base W0 o a S v S := by
 refine .pure (by rw [ho]; simp) fun β w a' _ h2 => ?_
 have e1 := hx.at_int h2
 have e2 := hy.at_int h2
 have e3 : (m == n) = decide (m = n) := by rw [Bool.eq_iff_iff]; simp
 have e4 : (m != n) = !decide (m = n) := by rw [bne,e3]
 cases op <;> simp only [ibin,Option.some.injEq,reduceCtorEq] at hv
 case quo =>
  split at hv
  ·cases hv
  ·rename_i hn
   cases hv
   exact ⟨_,by simp [execOp,ho,e1,e2,eqGuard,binOp,Op.intDiv,hn],.int _ _⟩
 case rem =>
  split at hv
  ·cases hv
  ·rename_i hn
   cases hv
   exact ⟨_,by simp [execOp,ho,e1,e2,eqGuard,binOp,Op.intDiv,hn],.int _ _⟩
 case eql => subst hv; exact ⟨.bool (decide (m = n)),by simp only [execOp,ho,e1,e2,eqGuard,binOp,Op.intCmp,e3]; simp,.bool _⟩
 case neq => subst hv; exact ⟨.bool (!decide (m = n)),by simp only [execOp,ho,e1,e2,eqGuard,binOp,Op.intCmp,e4]; simp,.bool _⟩
 case add => subst hv; exact ⟨_,by simp [execOp,ho,e1,e2,eqGuard,binOp,Op.intArith],.int _ _⟩
 case sub => subst hv; exact ⟨_,by simp [execOp,ho,e1,e2,eqGuard,binOp,Op.intArith],.int _ _⟩
 case mul => subst hv; exact ⟨_,by simp [execOp,ho,e1,e2,eqGuard,binOp,Op.intArith],.int _ _⟩
 case and => subst hv; exact ⟨_,by simp only [execOp,ho,e1,e2,eqGuard,binOp,Op.intBits,ne_eq,not_true_eq_false,if_false]; rfl,.int _ _⟩
 case or => subst hv; exact ⟨_,by simp only [execOp,ho,e1,e2,eqGuard,binOp,Op.intBits,ne_eq,not_true_eq_false,if_false]; rfl,.int _ _⟩
 case xor => subst hv; exact ⟨_,by simp only [execOp,ho,e1,e2,eqGuard,binOp,Op.intBits,ne_eq,not_true_eq_false,if_false]; rfl,.int _ _⟩
 case andNot => subst hv; exact ⟨_,by simp only [execOp,ho,e1,e2,eqGuard,binOp,Op.intBits,ne_eq,not_true_eq_false,if_false]; rfl,.int _ _⟩
 case lss => subst hv; exact ⟨_,by simp [execOp,ho,e1,e2,eqGuard,binOp,Op.intCmp],.bool _⟩
 case leq => subst hv; exact ⟨_,by simp [execOp,ho,e1,e2,eqGuard,binOp,Op.intCmp],.bool _⟩
 case gtr => subst hv; exact ⟨_,by simp [execOp,ho,e1,e2,eqGuard,binOp,Op.intCmp],.bool _⟩
 case geq => subst hv; exact ⟨_,by simp [execOp,ho,e1,e2,eqGuard,binOp,Op.intCmp],.bool _⟩
theorem ok_shl {t ty : TypeId} {x y : Operand} {k k' : IntKind} {m n : Int} (ho : o.op = .binOp .shl t x y ty) (hx : Ev a x (.int k m)) (hy : Ev a y (.int k' n)) (hn : 0 ≤ n) :
  OpOk P base W0 o a S (.int k (k.wrap (m * 2 ^ (min n.toNat k.bits)))) S :=
 .pure (by rw [ho]; simp) fun β w a' _ h2 => ⟨_,by simp [execOp,ho,hx.at_int h2,hy.at_int h2,eqGuard,binOp,Op.shift,show ¬ n < 0 by omega],.int _ _⟩
theorem ok_shr {t ty : TypeId} {x y : Operand} {k k' : IntKind} {m n : Int} (ho : o.op = .binOp .shr t x y ty) (hx : Ev a x (.int k m)) (hy : Ev a y (.int k' n)) (hn : 0 ≤ n) :
  OpOk P base W0 o a S (.int k (m.fdiv (2 ^ (min n.toNat k.bits)))) S :=
 .pure (by rw [ho]; simp) fun β w a' _ h2 => ⟨_,by simp [execOp,ho,hx.at_int h2,hy.at_int h2,eqGuard,binOp,Op.shift,show ¬ n < 0 by omega],.int _ _⟩
def slt : List UInt8 → List UInt8 → Bool
 | _,[] => false
 | [],_ :: _ => true
 | x :: xs,y :: ys => decide (x < y) || (x == y && slt xs ys)
theorem slt_eq : ∀ (x y : List UInt8),Op.bytesLess x y = slt x y
 | [],[] => rfl
 | _ :: _,[] => rfl
 | [],_ :: _ => rfl
 | x :: xs,y :: ys => by simp only [Op.bytesLess,slt,slt_eq xs ys]
def sbin (op : BinOp) (s t : List UInt8) : Option HV :=
 match op with
 | .add => if s.length + t.length ≤ 9223372036854775807 then some (.str (s ++ t)) else none
 | .eql => some (.bool (decide (s = t)))
 | .neq => some (.bool (!decide (s = t)))
 | .lss => some (.bool (slt s t))
 | .leq => some (.bool (slt s t || decide (s = t)))
 | .gtr => some (.bool (!(slt s t || decide (s = t))))
 | .geq => some (.bool (!slt s t))
 | _ => none
theorem beq_dec (s t : List UInt8) : (s == t) = decide (s = t) := by rw [Bool.eq_iff_iff]; simp
theorem ok_sbin {op : BinOp} {t ty : TypeId} {x y : Operand} {m n : List UInt8} {v : HV} (ho : o.op = .binOp op t x y ty) (hx : Ev a x (.str m)) (hy : Ev a y (.str n)) (hv : sbin op m n = some v) : OpOk P base W0 o a S v S := by
 refine .pure (by rw [ho]; simp) fun β w a' _ h2 => ?_
 have e1 := hx.at_str h2
 have e2 := hy.at_str h2
 cases op <;> simp only [sbin,Option.some.injEq,reduceCtorEq] at hv
 case add =>
  split at hv
  ·rename_i hn
   cases hv
   have hmax : IntKind.i64.max = 9223372036854775807 := by decide
   refine ⟨.string ⟨(m ++ n).toArray⟩,?_,.str _⟩
   simp only [execOp,ho,e1,e2,eqGuard,binOp,Op.stringOp,size_mk,append_mk,hmax]
   simp; omega
  ·cases hv
 all_goals
  subst hv
  exact ⟨_,by simp [execOp,ho,e1,e2,eqGuard,binOp,Op.stringOp,toList_mk,slt_eq,beq_dec],.bool _⟩
theorem equal_def (t : TypeId) (x y : Value) : Op.equal t x y = Op.equalIn (9999 + 1) t x y := rfl
theorem equalIn_bool {w : World} (d : Nat) {t : TypeId} (ht : P.underlying t = some .bool) (x y : Bool) : (Op.equalIn (d + 1) t (.bool x) (.bool y)).run P w = .ok (x == y) w := by
 unfold Op.equalIn; simp [underlying,ht]
theorem equalIn_ptr {w : World} (d : Nat) {t e : TypeId} (ht : P.underlying t = some (.pointer e)) (q : Option Addr) : (Op.equalIn (d + 1) t (.pointer q) (.pointer none)).run P w = .ok q.isNone w := by
 unfold Op.equalIn; cases q <;> simp [underlying,ht]
theorem equalIn_sl {w : World} (d : Nat) {t e : TypeId} (ht : P.underlying t = some (.slice e)) (q : Option Addr) (n c : Nat) : (Op.equalIn (d + 1) t (.slice q n c) (.slice none 0 0)).run P w = .ok q.isNone w := by
 unfold Op.equalIn; cases q <;> simp [underlying,ht]
theorem equalIn_map {w : World} (d : Nat) {t e e' : TypeId} (ht : P.underlying t = some (.map e e')) (q : Option Nat) : (Op.equalIn (d + 1) t (.map q) (.map none)).run P w = .ok q.isNone w := by
 unfold Op.equalIn; cases q <;> simp [underlying,ht]
theorem equalIn_nilFn {w : World} (d : Nat) {t : TypeId} {ps rs : Array TypeId} {va : Bool} (ht : P.underlying t = some (.func ps rs va)) : (Op.equalIn (d + 1) t .nilFunc .nilFunc).run P w = .ok true w := by
 unfold Op.equalIn; simp [underlying,ht]
theorem equalIn_fn {w : World} (d : Nat) {t : TypeId} {ps rs : Array TypeId} {va : Bool} (ht : P.underlying t = some (.func ps rs va)) (f : Fn) (xs ys : Array Value) : (Op.equalIn (d + 1) t (.func f xs ys) .nilFunc).run P w = .ok false w := by
 unfold Op.equalIn; simp [underlying,ht]
theorem ok_beq {op : BinOp} {t ty : TypeId} {x y : Operand} {m n : Bool} {q : Bool} (ho : o.op = .binOp op t x y ty) (ht : P.underlying t = some .bool) (hop : op = .eql ∧ q = (m == n) ∨ op = .neq ∧ q = !(m == n)) (hx : Ev a x (.bool m)) (hy : Ev a y (.bool n)) :
  OpOk P base W0 o a S (.bool q) S := by
 refine .pure (by rw [ho]; simp) fun β w a' _ h2 => ?_
 rcases hop with ⟨rfl,rfl⟩ | ⟨rfl,rfl⟩ <;>
  exact ⟨_,by simp [execOp,ho,hx.at_bool h2,hy.at_bool h2,eqGuard,binOp,equal_def,equalIn_bool 9999 ht],.bool _⟩
theorem ok_nil_ptr {op : BinOp} {t ty e : TypeId} {x : Operand} {q : Option HA} {b : Bool} (ho : o.op = .binOp op t x (.const (.pointer none)) ty) (ht : P.underlying t = some (.pointer e)) (hx : Ev a x (.ptr q))
  (hop : op = .eql ∧ b = q.isNone ∨ op = .neq ∧ b = !q.isNone) : OpOk P base W0 o a S (.bool b) S := by
 refine .pure (by rw [ho]; simp) fun β w a' _ h2 => ⟨.bool b,?_,.bool b⟩
 have hr := hx.rel h2
 generalize hxv : a'.eval x = xv at hr
 have hc : a'.eval (.const (.pointer none)) = .pointer none := rfl
 rcases hop with ⟨rfl,rfl⟩ | ⟨rfl,rfl⟩ <;> cases hr <;> simp [execOp,ho,hxv,hc,eqGuard,binOp,equal_def,equalIn_ptr 9999 ht]
theorem ok_nil_sl {op : BinOp} {t ty e : TypeId} {x : Operand} {q : Option (Nat × Nat)} {n : Nat} {z : Option Nat} {b : Bool} (ho : o.op = .binOp op t x (.const (.slice none 0 0)) ty) (ht : P.underlying t = some (.slice e)) (hx : Ev a x (.sl q n z))
  (hop : op = .eql ∧ b = q.isNone ∨ op = .neq ∧ b = !q.isNone) : OpOk P base W0 o a S (.bool b) S := by
 refine .pure (by rw [ho]; simp) fun β w a' _ h2 => ⟨.bool b,?_,.bool b⟩
 have hr := hx.rel h2
 generalize hxv : a'.eval x = xv at hr
 have hc : a'.eval (.const (.slice none 0 0)) = .slice none 0 0 := rfl
 rcases hop with ⟨rfl,rfl⟩ | ⟨rfl,rfl⟩ <;> cases hr <;> simp [execOp,ho,hxv,hc,eqGuard,binOp,equal_def,equalIn_sl 9999 ht]
theorem ok_nil_map {op : BinOp} {t ty e e' : TypeId} {x : Operand} {q : Option Nat} {b : Bool} (ho : o.op = .binOp op t x (.const (.map none)) ty) (ht : P.underlying t = some (.map e e')) (hx : Ev a x (.map q))
  (hop : op = .eql ∧ b = q.isNone ∨ op = .neq ∧ b = !q.isNone) : OpOk P base W0 o a S (.bool b) S := by
 refine .pure (by rw [ho]; simp) fun β w a' _ h2 => ⟨.bool b,?_,.bool b⟩
 have hr := hx.rel h2
 generalize hxv : a'.eval x = xv at hr
 have hc : a'.eval (.const (.map none)) = .map none := rfl
 rcases hop with ⟨rfl,rfl⟩ | ⟨rfl,rfl⟩ <;> cases hr <;> simp [execOp,ho,hxv,hc,eqGuard,binOp,equal_def,equalIn_map 9999 ht]
def HV.isNilFn : HV → Option Bool
 | .nilFn => some true
 | .fn .. => some false
 | _ => none
theorem ok_nil_fn {op : BinOp} {t ty : TypeId} {x : Operand} {v : HV} {n b : Bool} {ps rs : Array TypeId} {va : Bool} (ho : o.op = .binOp op t x (.const .nilFunc) ty) (ht : P.underlying t = some (.func ps rs va)) (hx : Ev a x v) (hn : v.isNilFn = some n)
  (hop : op = .eql ∧ b = n ∨ op = .neq ∧ b = !n) : OpOk P base W0 o a S (.bool b) S := by
 refine .pure (by rw [ho]; simp) fun β w a' _ h2 => ⟨.bool b,?_,.bool b⟩
 have hr := hx.rel h2
 generalize hxv : a'.eval x = xv at hr
 have hc : a'.eval (.const .nilFunc) = .nilFunc := rfl
 rcases hop with ⟨rfl,rfl⟩ | ⟨rfl,rfl⟩ <;> cases hr <;> simp only [HV.isNilFn,Option.some.injEq,reduceCtorEq] at hn <;> subst hn <;> simp [execOp,ho,hxv,hc,eqGuard,binOp,equal_def,equalIn_nilFn 9999 ht,equalIn_fn 9999 ht]
theorem ok_not {t : TypeId} {x : Operand} {b : Bool} (ho : o.op = .unOp .not t x) (hx : Ev a x (.bool b)) : OpOk P base W0 o a S (.bool (!b)) S :=
 .pure (by rw [ho]; simp) fun β w a' _ h2 => ⟨_,by simp [execOp,ho,hx.at_bool h2,Op.unary],.bool _⟩
theorem ok_neg {t : TypeId} {x : Operand} {k : IntKind} {n : Int} (ho : o.op = .unOp .neg t x) (hx : Ev a x (.int k n)) : OpOk P base W0 o a S (.int k (k.wrap (0 - n))) S :=
 .pure (by rw [ho]; simp) fun β w a' _ h2 => ⟨_,by simp only [execOp,ho,hx.at_int h2,Op.unary,Op.intArith]; simp,.int _ _⟩
theorem ok_conv_int {src dst : TypeId} {x : Operand} {k k' : IntKind} {n : Int} {d : TypeDesc} (ho : o.op = .convert src dst x) (hs : P.underlying src = some d) (hd : P.underlying dst = some (.int k')) (hx : Ev a x (.int k n)) :
  OpOk P base W0 o a S (.int k' (k'.wrap n)) S :=
 .pure (by rw [ho]; simp) fun β w a' _ h2 => ⟨_,by simp [execOp,ho,hx.at_int h2,convert,underlying,hs,hd,Conv.intToInt],.int _ _⟩
theorem ok_conv_str {src dst : TypeId} {x : Operand} {s : List UInt8} (ho : o.op = .convert src dst x) (hs : P.underlying src = some .string) (hd : P.underlying dst = some .string) (hx : Ev a x (.str s)) :
  OpOk P base W0 o a S (.str s) S :=
 .pure (by rw [ho]; simp) fun β w a' _ h2 => ⟨.string ⟨s.toArray⟩,by simp [execOp,ho,hx.at_str h2,convert,underlying,hs,hd],.str _⟩
theorem ok_extract {x : Operand} {i : Nat} {vs : List HV} {v : HV} (ho : o.op = .extract x i) (hx : Ev a x (.tup vs)) (hi : vs[i]? = some v) : OpOk P base W0 o a S v S := by
 refine .pure (by rw [ho]; simp) fun β w a' _ h2 => ?_
 have hr := hx.rel h2
 generalize hxv : a'.eval x = xv at hr
 cases hr with
 | tup e1 e2 =>
  obtain ⟨v',g1,g2⟩ := VRels.get ⟨e1,e2⟩ hi
  exact ⟨v',by simp [execOp,ho,hxv,Instr.extract,g1],g2⟩
theorem ok_index {t : TypeId} {x y : Operand} {s : List UInt8} {k : IntKind} {n : Int} {b : UInt8} (ho : o.op = .index t x y) (ht : P.underlying t = some .string) (hx : Ev a x (.str s)) (hy : Ev a y (.int k n)) (hn : 0 ≤ n) (hb : s[n.toNat]? = some b) :
  OpOk P base W0 o a S (.int .u8 b.toNat) S :=
 .pure (by rw [ho]; simp) fun β w a' _ h2 => ⟨_,by simp [execOp,ho,hx.at_str h2,hy.at_int h2,Instr.index,asIntOf,underlying,ht,hn,get_mk,hb],.int _ _⟩
theorem ok_nilCheck {x : Operand} {v : HV} (ho : o.op = .nilCheck x) (hx : Ev a x v) (hv : ∃ q,v = .ptr (some q) ∨ ∃ g xs ys,v = .fn g xs ys) : OpOk P base W0 o a S v S := by
 refine .pure (by rw [ho]; simp) fun β w a' _ h2 => ?_
 have hr := hx.rel h2
 generalize hxv : a'.eval x = xv at hr
 refine ⟨xv,?_,hr⟩
 obtain ⟨q,rfl | ⟨g,xs,ys,rfl⟩⟩ := hv
 ·cases hr; simp [execOp,ho,hxv]
 ·cases hr <;> simp [execOp,ho,hxv]
theorem ok_makeFunc {g : FuncId} {fs cs : Array Operand} {vs ws : List HV} (ho : o.op = .makeFunc (.func g) fs cs) (h1 : Evs a fs vs) (h2 : Evs a cs ws) : OpOk P base W0 o a S (.fn (.func g) vs ws) S :=
 .pure (by rw [ho]; simp) fun β w a' _ h => ⟨_,by simp [execOp,ho,Instr.makeFunc],.fn (h1.rel h).1 (h1.rel h).2 (h2.rel h).1 (h2.rel h).2⟩
theorem ok_len_str {x : Operand} {tys : Array TypeId} {t : TypeId} {s : List UInt8} (ho : o.op = .call ⟨.builtin .len,#[x],tys⟩) (h0 : tys[0]? = some t) (ht : P.underlying t = some .string) (hx : Ev a x (.str s)) : OpOk P base W0 o a S (.int .i64 s.length) S :=
 .pure (by rw [ho]; simp) fun β w a' _ h2 => ⟨_,by simp [execOp,ho,resolve,invoke,builtin,Builtin.len_,hx.at_str h2,h0,underlying,ht,goInt,size_mk],.int _ _⟩
theorem ok_len_sl {x : Operand} {tys : Array TypeId} {t e : TypeId} {q : Option (Nat × Nat)} {n : Nat} {z : Option Nat} (ho : o.op = .call ⟨.builtin .len,#[x],tys⟩) (h0 : tys[0]? = some t) (ht : P.underlying t = some (.slice e)) (hx : Ev a x (.sl q n z)) :
  OpOk P base W0 o a S (.int .i64 n) S := by
 refine .pure (by rw [ho]; simp) fun β w a' _ h2 => ?_
 have hr := hx.rel h2
 generalize hxv : a'.eval x = xv at hr
 cases hr <;> exact ⟨_,by simp [execOp,ho,resolve,invoke,builtin,Builtin.len_,hxv,h0,underlying,ht,goInt],.int _ _⟩
theorem ok_min {x y : Operand} {tys : Array TypeId} {k : IntKind} {m n : Int} (ho : o.op = .call ⟨.builtin .min,#[x,y],tys⟩) (hx : Ev a x (.int k m)) (hy : Ev a y (.int k n)) : OpOk P base W0 o a S (.int k (if n < m then n else m)) S :=
 .pure (by rw [ho]; simp) fun β w a' _ h2 => ⟨_,by simp [execOp,ho,resolve,invoke,builtin,Builtin.min_,Builtin.min2,hx.at_int h2,hy.at_int h2],.int _ _⟩
theorem ok_max {x y : Operand} {tys : Array TypeId} {k : IntKind} {m n : Int} (ho : o.op = .call ⟨.builtin .max,#[x,y],tys⟩) (hx : Ev a x (.int k m)) (hy : Ev a y (.int k n)) : OpOk P base W0 o a S (.int k (if n > m then n else m)) S :=
 .pure (by rw [ho]; simp) fun β w a' _ h2 => ⟨_,by simp [execOp,ho,resolve,invoke,builtin,Builtin.max_,Builtin.max2,hx.at_int h2,hy.at_int h2],.int _ _⟩
theorem ok_slice_str {t : TypeId} {x : Operand} {lo hi : Option Operand} {s : List UInt8} {l h : Int} {kl kh : IntKind} (ho : o.op = .slice t x lo hi none) (ht : P.underlying t = some .string) (hx : Ev a x (.str s))
  (hlo : (lo = none ∧ l = 0) ∨ ∃ y,lo = some y ∧ Ev a y (.int kl l)) (hhi : (hi = none ∧ h = s.length) ∨ ∃ y,hi = some y ∧ Ev a y (.int kh h)) (h0 : 0 ≤ l) (h1 : l ≤ h) (h2 : h ≤ s.length) :
  OpOk P base W0 o a S (.str ((s.drop l.toNat).take (h.toNat - l.toNat))) S := by
 refine .pure (by rw [ho]; simp) fun β w a' _ hr => ⟨.string ⟨((s.drop l.toNat).take (h.toNat - l.toNat)).toArray⟩,?_,.str _⟩
 have hh0 : 0 ≤ h := by omega
 have e1 : (((h.toNat : Nat) : Int)) = h := by omega
 rcases hlo with ⟨rfl,rfl⟩ | ⟨y,rfl,hy⟩ <;> rcases hhi with ⟨rfl,rfl⟩ | ⟨z,rfl,hz⟩
 ·simp [execOp,ho,hx.at_str hr,Instr.sliceAt,underlying,ht,Instr.slice,Instr.sliceBounds]
 ·simp [execOp,ho,hx.at_str hr,hz.at_int hr,Instr.sliceAt,underlying,ht,Instr.slice,Instr.sliceBounds,Instr.sliceBound,asIntOf,size_mk,extract_mk,hh0,h2]
 ·simp [execOp,ho,hx.at_str hr,hy.at_int hr,Instr.sliceAt,underlying,ht,Instr.slice,Instr.sliceBounds,Instr.sliceBound,asIntOf,size_mk,extract_mk,h0,h1]
 ·simp [execOp,ho,hx.at_str hr,hy.at_int hr,hz.at_int hr,Instr.sliceAt,underlying,ht,Instr.slice,Instr.sliceBounds,Instr.sliceBound,asIntOf,size_mk,extract_mk,hh0,h2,h0,e1,h1]
end
def HS.row (S : HS) (id i : Nat) : Option (List HV) :=
 match S.heap id with
 | .cells _ rows _ => rows[i]?
 | _ => none
def HS.get (S : HS) (ad : HA) : Option HV := (S.row ad.id ad.i).bind (·[ad.j]?)
def HS.gets (S : HS) (ad : HA) (n : Nat) : Option (List HV) :=
 (S.row ad.id ad.i).bind fun r => if ad.j + n ≤ r.length then some ((r.drop ad.j).take n) else none
def HS.sets (S : HS) (ad : HA) (vs : List HV) : Option HS :=
 match S.heap ad.id with
 | .cells z rows true =>
  match rows[ad.i]? with
  | some r => if ad.j + vs.length ≤ r.length then some (S.put ad.id (.cells z (rows.set ad.i (r.take ad.j ++ vs ++ r.drop (ad.j + vs.length))) true)) else none
  | none => none
 | _ => none
def HS.set (S : HS) (ad : HA) (v : HV) : Option HS := S.sets ad [v]
def World.setRow (w : World) (b : Nat) (arr : Array Value) (t : TypeId) (fr : Nat × Nat) : World := { w with heap := w.heap.setIfInBounds b (.cells arr t fr) }
theorem cell_of {w : World} {b : Nat} {arr : Array Value} {t : TypeId} {fr : Nat × Nat} (h : w.heap[b]? = some (.cells arr t fr)) (i : Nat) : w.cell? ⟨b,i,none⟩ = arr[i]? := by
 simp [World.cell?,h]
theorem frozen_of {w : World} {b : Nat} {arr : Array Value} {t : TypeId} {fr : Nat × Nat} (h : w.heap[b]? = some (.cells arr t fr)) (i : Nat) : w.frozen? ⟨b,i,none⟩ = (decide (fr.1 ≤ i) && decide (i < fr.2)) := by
 obtain ⟨lo,hi⟩ := fr
 simp [World.frozen?,h]
theorem setCell_of {w : World} {b : Nat} {arr : Array Value} {t : TypeId} {fr : Nat × Nat} (h : w.heap[b]? = some (.cells arr t fr)) (i : Nat) (v : Value) :
  w.setCell ⟨b,i,none⟩ v = World.setRow w b (arr.setIfInBounds i v) t fr := by
 unfold World.setCell World.setRow
 congr 1
 apply Array.ext_getElem?
 intro j
 rw [Array.getElem?_modify,Array.getElem?_setIfInBounds]
 by_cases e : b = j
 ·subst e
  rw [if_pos rfl,if_pos rfl,if_pos (Array.getElem?_eq_some_iff.1 h).1,h]; rfl
 ·rw [if_neg e,if_neg e]
theorem setRow_at {w : World} {b : Nat} {arr arr' : Array Value} {t : TypeId} {fr : Nat × Nat} (h : w.heap[b]? = some (.cells arr t fr)) : (World.setRow w b arr' t fr).heap[b]? = some (.cells arr' t fr) := by
 simp only [World.setRow]
 rw [Array.getElem?_setIfInBounds,if_pos rfl,if_pos (Array.getElem?_eq_some_iff.1 h).1]
theorem setRow_setRow (w : World) (b : Nat) (arr arr' : Array Value) (t : TypeId) (fr : Nat × Nat) : World.setRow (World.setRow w b arr t fr) b arr' t fr = World.setRow w b arr' t fr := by
 simp only [World.setRow]
 congr 1
 apply Array.ext_getElem?
 intro j
 simp only [Array.getElem?_setIfInBounds,Array.size_setIfInBounds]
 split <;> rfl
theorem setRow_self {w : World} {b : Nat} {arr : Array Value} {t : TypeId} {fr : Nat × Nat} (h : w.heap[b]? = some (.cells arr t fr)) : World.setRow w b arr t fr = w := by
 simp only [World.setRow]
 have : w.heap.setIfInBounds b (.cells arr t fr) = w.heap := by
  apply Array.ext_getElem?
  intro j
  rw [Array.getElem?_setIfInBounds]
  by_cases e : b = j
  ·subst e; rw [if_pos rfl,if_pos (Array.getElem?_eq_some_iff.1 h).1,h]
  ·rw [if_neg e]
 rw [this]
def over (arr : Array Value) (i : Nat) : List Value → Array Value
 | [] => arr
 | v :: vs => over (arr.setIfInBounds i v) (i + 1) vs
theorem over_size : ∀ (vs : List Value) (arr : Array Value) (i : Nat),(over arr i vs).size = arr.size
 | [],_,_ => rfl
 | v :: vs,arr,i => by simp [over,over_size vs]
theorem over_get : ∀ (vs : List Value) (arr : Array Value) (i j : Nat),i + vs.length ≤ arr.size → (over arr i vs)[j]? = if i ≤ j ∧ j < i + vs.length then vs[j - i]? else arr[j]?
 | [],arr,i,j,_ => by simp only [over,List.length_nil,Nat.add_zero]; rw [if_neg (by omega)]
 | v :: vs,arr,i,j,h => by
  simp only [over,List.length_cons] at h ⊢
  rw [over_get vs _ _ _ (by simp; omega),Array.getElem?_setIfInBounds]
  by_cases e : i = j
  ·subst e
   rw [if_neg (by omega),if_pos rfl,if_pos (by omega),if_pos (by omega)]; simp
  ·by_cases e2 : i + 1 ≤ j ∧ j < i + 1 + vs.length
   ·rw [if_pos e2,if_pos (by omega)]
    have : j - i = (j - (i + 1)) + 1 := by omega
    rw [this]; simp
   ·rw [if_neg e2,if_neg e,if_neg (by omega)]
theorem add_none (b o n : Nat) : (⟨b,o,none⟩ : Addr).add n = ⟨b,o + n,none⟩ := by
 unfold Addr.add
 split
 ·rename_i e; subst e; rfl
 ·rfl
theorem run_storeCells {P : Program} {b o : Nat} {t : TypeId} {fr : Nat × Nat} : ∀ (vs : List Value) (i : Nat) (w : World) (arr : Array Value),w.heap[b]? = some (.cells arr t fr) → o + i + vs.length ≤ arr.size →
  (∀ v ∈ vs,v.oneCell' = true) → (∀ j,j < arr.size → ¬ (fr.1 ≤ j ∧ j < fr.2)) → (storeCells ⟨b,o,none⟩ vs i).run P w = .ok () (World.setRow w b (over arr (o + i) vs) t fr) := by
 intro vs
 induction vs with
 | nil => intro i w arr h _ _ _; simp [storeCells,over,setRow_self h]
 | cons v vs ih =>
  intro i w arr h hsz hone hfr
  simp only [storeCells,Sem.run_bind,add_none]
  simp only [List.length_cons] at hsz
  have hlt : o + i < arr.size := by omega
  rw [run_store P w _ v _ (hone v (by simp)),cell_of h,frozen_of h]
  have hf : (decide (fr.1 ≤ o + i) && decide (o + i < fr.2)) = false := by
   have := hfr (o + i) hlt
   simp only [Bool.and_eq_false_iff,decide_eq_false_iff_not]
   omega
  rw [hf,Array.getElem?_eq_getElem hlt]
  simp only [Bool.false_eq_true,if_false,Result.andThen_ok]
  rw [setCell_of h,ih (i + 1) _ _ (setRow_at h) (by simp; omega) (fun v' hv => hone v' (by simp [hv])) (by simpa using hfr),setRow_setRow]
  rfl
theorem run_loadCells {P : Program} {b o : Nat} {t : TypeId} {fr : Nat × Nat} {w : World} {arr : Array Value} (h : w.heap[b]? = some (.cells arr t fr)) : ∀ (n i : Nat) (acc : Array Value),o + i + n ≤ arr.size →
  (loadCellsFrom ⟨b,o,none⟩ i n acc).run P w = .ok (acc ++ arr.extract (o + i) (o + i + n)) w := by
 intro n
 induction n with
 | zero => intro i acc _; simp [loadCellsFrom]; omega
 | succ n ih =>
  intro i acc hsz
  have hlt : o + i < arr.size := by omega
  simp only [loadCellsFrom,Sem.run_bind,add_none,run_load,cell_of h,Array.getElem?_eq_getElem hlt,Result.andThen_ok]
  rw [ih (i + 1) _ (by omega)]
  congr 1
  apply Array.ext_getElem?
  intro j
  simp only [Array.getElem?_append,Array.size_push,Array.getElem?_extract,Array.getElem?_push]
  by_cases e : j < acc.size
  ·rw [if_pos (by omega),if_neg (by omega),if_pos e]
  ·rw [if_neg e]
   by_cases e2 : j = acc.size
   ·subst e2
    rw [if_pos (by omega),if_pos rfl,if_pos (by omega)]
    simp [Array.getElem?_eq_getElem hlt]
   ·rw [if_neg (by omega)]
    have : j - (acc.size + 1) + (o + (i + 1)) = j - acc.size + (o + i) := by omega
    rw [show o + (i + 1) + (j - (acc.size + 1)) = o + i + (j - acc.size) by omega]
    congr 1
    simp only [eq_iff_iff]; omega
section
variable {P : Program} {base : Nat} {W0 : Env} {a : HAct} {S : HS} {o : Oper} {β : Bt} {w : World}
theorem VRel.one {v : HV} {v' : Value} (h : VRel β v v') (hf : v.flat = true) : v'.oneCell' = true ∧ v'.cells = #[v'] := by
 cases h <;> simp [HV.flat] at hf <;> first | (rename_i h0; exact ⟨h0,one_cells h0⟩) | simp [Value.oneCell',Value.cells]
theorem RowsRel.flatMem {rows : List (List HV)} {arr : Array Value} {o z : Nat} (h : RowsRel β rows arr o z) (hz : 0 < z) (hsz : arr.size = rows.length * z) (ho : o = 0) : ∀ v' ∈ arr.toList,v'.oneCell' = true := by
 intro v' hv'
 subst ho
 obtain ⟨k,hk⟩ := List.getElem?_of_mem hv'
 have hk' : arr[k]? = some v' := by simpa using hk
 have hlt : k < rows.length * z := by rw [← hsz]; exact (Array.getElem?_eq_some_iff.1 hk').1
 have h1 : k / z < rows.length := (Nat.div_lt_iff_lt_mul hz).2 hlt
 obtain ⟨g1,g2⟩ := h (k / z) _ (List.getElem?_eq_getElem h1)
 have h2 : k % z < (rows[k / z]).length := by rw [g1]; exact Nat.mod_lt _ hz
 obtain ⟨g3,v2,g4,g5⟩ := g2 (k % z) _ (List.getElem?_eq_getElem h2)
 rw [Nat.zero_add,Nat.div_add_mod'] at g4
 rw [hk'] at g4
 cases g4
 exact (g5.one g3).1
theorem over_mem : ∀ (vs : List Value) (arr : Array Value) (i : Nat),(∀ v ∈ arr.toList,v.oneCell' = true) → (∀ v ∈ vs,v.oneCell' = true) → ∀ v ∈ (over arr i vs).toList,v.oneCell' = true
 | [],arr,i,h1,_ => h1
 | x :: vs,arr,i,h1,h2 => over_mem vs _ (i + 1) (fun v hv => by
   rw [Array.toList_setIfInBounds] at hv
   rcases List.mem_or_eq_of_mem_set hv with hv | hv
   ·exact h1 v hv
   ·subst hv; exact h2 _ (by simp)) (fun v hv => h2 v (by simp [hv]))
theorem Rel.row (h : Rel base W0 β S w) {id i : Nat} {r : List HV} (hr : S.row id i = some r) :
  ∃ b o z n tot arr t fr,β id = .mem b o z n tot ∧ w.heap[b]? = some (.cells arr t fr) ∧ arr.size = tot ∧ r.length = z ∧ o + i * z + z ≤ tot ∧ (∀ j v,r[j]? = some v → v.flat = true ∧ ∃ v',arr[o + i * z + j]? = some v' ∧ VRel β v v') := by
 unfold HS.row at hr
 have ho := h.objs id
 cases hS : S.heap id with
 | cells z rows own =>
  rw [hS] at hr ho
  obtain ⟨b,o,tot,arr,t,fr,q1,q2,q3,q4,q5,q6,q7⟩ := ho
  have hi : i < rows.length := (List.getElem?_eq_some_iff.1 hr).1
  have hm : i * z + z ≤ rows.length * z := by rw [← Nat.succ_mul]; exact Nat.mul_le_mul_right z hi
  exact ⟨b,o,z,rows.length,tot,arr,t,fr,q1,q2,q3,(q6 i r hr).1,by omega,(q6 i r hr).2⟩
 | _ => rw [hS] at hr; cases hr
theorem Rel.get (h : Rel base W0 β S w) {ad : HA} {v : HV} (hv : S.get ad = some v) : ∃ b off v',VRel β (.ptr (some ad)) (.pointer (some ⟨b,off,none⟩)) ∧ w.cell? ⟨b,off,none⟩ = some v' ∧ VRel β v v' := by
 unfold HS.get at hv
 cases hr : S.row ad.id ad.i with
 | none => rw [hr] at hv; cases hv
 | some r =>
  rw [hr] at hv
  obtain ⟨b,o,z,n,tot,arr,t,fr,q1,q2,q3,q4,q5,q6⟩ := h.row hr
  obtain ⟨_,v',g1,g2⟩ := q6 ad.j v hv
  exact ⟨b,o + ad.i * z + ad.j,v',.ptr q1,by rw [cell_of q2]; exact g1,g2⟩
theorem ptr_unique {ad : HA} {x y : Value} (h : VRel β (.ptr (some ad)) x) (k : VRel β (.ptr (some ad)) y) : x = y := by
 cases h with
 | ptr h1 =>
  cases k with
  | ptr h2 => rw [h1] at h2; cases h2; rfl
def Scalar (P : Program) (t : TypeId) : Prop :=
 ∃ d,P.underlying t = some d ∧ match d with | .struct _ => False | .array _ _ => False | _ => True
theorem Scalar.isAgg {t : TypeId} (h : Scalar P t) : (isAgg t).run P w = .ok false w := by
 obtain ⟨d,h1,h2⟩ := h
 cases d <;> first | exact h2.elim | simp [Go.isAgg,underlying,h1]
def IsAgg (P : Program) (t : TypeId) (n : Nat) : Prop :=
 (∃ d,P.underlying t = some d ∧ match d with | .struct _ => True | .array _ _ => True | _ => False) ∧ ∃ i,P.info? t = some i ∧ i.size = n
theorem IsAgg.isAgg {t : TypeId} {n : Nat} (h : IsAgg P t n) : (isAgg t).run P w = .ok true w := by
 obtain ⟨⟨d,h1,h2⟩,_⟩ := h
 cases d <;> first | exact h2.elim | simp [Go.isAgg,underlying,h1]
theorem IsAgg.size {t : TypeId} {n : Nat} (h : IsAgg P t n) : (sizeOf t).run P w = .ok n w := by
 obtain ⟨_,i,h1,h2⟩ := h
 simp [Go.sizeOf,typeInfo,h1,h2]
theorem ok_load {t : TypeId} {x : Operand} {ad : HA} {v : HV} (ho : o.op = .load t x) (ht : Scalar P t) (hx : Ev a x (.ptr (some ad))) (hv : S.get ad = some v) : OpOk P base W0 o a S v S := by
 refine .pure (by rw [ho]; simp) fun β w a' h1 h2 => ?_
 obtain ⟨b,off,v',g1,g2,g3⟩ := h1.get hv
 have e := ptr_unique (hx.rel h2) g1
 exact ⟨v',by simp [execOp,ho,Instr.loadAt,e,Instr.sureAddr,loadVar,ht.isAgg,g2],g3⟩
theorem ok_load_agg {t : TypeId} {x : Operand} {ad : HA} {n : Nat} {vs : List HV} (ho : o.op = .load t x) (ht : IsAgg P t n) (hx : Ev a x (.ptr (some ad))) (hv : S.gets ad n = some vs) : OpOk P base W0 o a S (.agg vs) S := by
 refine .pure (by rw [ho]; simp) fun β w a' h1 h2 => ?_
 unfold HS.gets at hv
 cases hr : S.row ad.id ad.i with
 | none => rw [hr] at hv; cases hv
 | some r =>
  rw [hr,Option.bind_some] at hv
  split at hv
  ·rename_i hle
   cases hv
   obtain ⟨b,o1,z,n1,tot,arr,ty,fr,q1,q2,q3,q4,q5,q6⟩ := h1.row hr
   have e := ptr_unique (hx.rel h2) (VRel.ptr (i := ad.i) (j := ad.j) q1)
   refine ⟨.agg (arr.extract (o1 + ad.i * z + ad.j) (o1 + ad.i * z + ad.j + n)),?_,.agg ?_ ?_⟩
   ·have := run_loadCells (P := P) (o := o1 + ad.i * z + ad.j) q2 n 0 #[] (by omega)
    simp only [Nat.add_zero,Array.empty_append] at this
    simp [execOp,ho,Instr.loadAt,e,Instr.sureAddr,loadVar,ht.isAgg,ht.size,loadCells,this]
   ·simp; omega
   ·intro i v v' k1 k2
    rw [List.getElem?_take] at k1
    split at k1
    ·rw [List.getElem?_drop] at k1
     obtain ⟨_,v2,m1,m2⟩ := q6 _ _ k1
     rw [Array.getElem?_extract] at k2
     split at k2
     ·rw [show o1 + ad.i * z + ad.j + i = o1 + ad.i * z + (ad.j + i) by omega,m1] at k2
      cases k2; exact m2
     ·cases k2
    ·cases k1
  ·cases hv
theorem Rel.setRow (h : Rel base W0 β S w) {id z : Nat} {rows rows' : List (List HV)} (hS : S.heap id = .cells z rows true) {b o n tot : Nat} {arr arr' : Array Value} {t : TypeId} {fr : Nat × Nat} (hb : β id = .mem b o z n tot) (hw : w.heap[b]? = some (.cells arr t fr))
  (hsz : arr'.size = arr.size) (hlen : rows'.length = rows.length) (hrel : RowsRel β rows' arr' o z) (hone : ∀ v' ∈ arr'.toList,v'.oneCell' = true) : Rel base W0 β (S.put id (.cells z rows' true)) (World.setRow w b arr' t fr) := by
 have ho := h.objs id
 rw [hS] at ho
 obtain ⟨b1,o1,tot1,arr1,t1,fr1,q1,q2,q3,q4,q5,q6,q7⟩ := ho
 rw [hb] at q1
 cases q1
 rw [hw] at q2
 cases q2
 exact h.setObj (o' := .cells arr' t fr) (by rw [hb]; rfl) (q7 rfl).1 (by rw [hS]; rfl) (by rw [hS]; rfl)
  ⟨b,o,tot,arr',t,fr,by rw [hb,hlen],setRow_at hw,by rw [hsz]; exact q3,by rw [hlen]; exact q4,q5,hrel,fun _ => ⟨(q7 rfl).1,(q7 rfl).2.1,hone,(q7 rfl).2.2.2⟩⟩
theorem Rel.owned (h : Rel base W0 β S w) {id z : Nat} {rows : List (List HV)} (hS : S.heap id = .cells z rows true) :
  ∃ b o tot arr t fr,β id = .mem b o z rows.length tot ∧ w.heap[b]? = some (.cells arr t fr) ∧ arr.size = tot ∧ o + rows.length * z ≤ tot ∧ 0 < z ∧ RowsRel β rows arr o z ∧ base ≤ b ∧ (∀ i,i < tot → ¬ (fr.1 ≤ i ∧ i < fr.2)) ∧ (∀ v' ∈ arr.toList,v'.oneCell' = true) ∧ MkOk (S.mrk id) t fr o := by
 have ho := h.objs id
 rw [hS] at ho
 obtain ⟨b,o,tot,arr,t,fr,q1,q2,q3,q4,q5,q6,q7⟩ := ho
 exact ⟨b,o,tot,arr,t,fr,q1,q2,q3,q4,q5,q6,q7 rfl⟩
theorem mul_lt_rows {i k n z : Nat} (h : i < n) (hk : k < z) : i * z + k < n * z := by
 have h1 : i * z + z ≤ n * z := by rw [← Nat.succ_mul]; exact Nat.mul_le_mul_right z h
 omega
theorem rows_apart {i i' j j' z : Nat} (hj : j < z) (hj' : j' < z) (h : i * z + j = i' * z + j') : i = i' ∧ j = j' := by
 have hz : 0 < z := by omega
 have e1 : (i * z + j) / z = i := by rw [Nat.mul_comm,Nat.mul_add_div hz,Nat.div_eq_of_lt hj]; omega
 have e2 : (i' * z + j') / z = i' := by rw [Nat.mul_comm,Nat.mul_add_div hz,Nat.div_eq_of_lt hj']; omega
 have e3 : i = i' := by rw [← e1,← e2,h]
 subst e3
 exact ⟨rfl,by omega⟩
theorem Rel.sets (h : Rel base W0 β S w) {ad : HA} {vs : List HV} {vs' : Array Value} {S' : HS} (hv : S.sets ad vs = some S') (hvs : VRels β vs vs') (hf : ∀ v ∈ vs,v.flat = true) :
  ∃ b off w',VRel β (.ptr (some ad)) (.pointer (some ⟨b,off,none⟩)) ∧ (storeCells ⟨b,off,none⟩ vs'.toList).run P w = .ok () w' ∧ Rel base W0 β S' w' := by
 unfold HS.sets at hv
 split at hv
 ·rename_i z rows hS
  split at hv
  ·rename_i r hr
   split at hv
   ·rename_i hle
    cases hv
    obtain ⟨b,o,tot,arr,t,fr,q1,q2,q3,q4,q5,q6,q7,q8,q9,_⟩ := h.owned hS
    have hi : ad.i < rows.length := (List.getElem?_eq_some_iff.1 hr).1
    have hrz := (q6 ad.i r hr).1
    have hm : ad.i * z + z ≤ rows.length * z := by rw [← Nat.succ_mul]; exact Nat.mul_le_mul_right z hi
    have hl : vs'.toList.length = vs.length := by rw [hvs.1]; simp
    have hvone : ∀ v' ∈ vs'.toList,v'.oneCell' = true := by
     intro v' hv'
     obtain ⟨k,hk⟩ := List.getElem?_of_mem hv'
     have hk' : vs'[k]? = some v' := by simpa using hk
     have hkl : k < vs.length := by rw [hvs.1]; exact (Array.getElem?_eq_some_iff.1 hk').1
     have hvk : vs[k]? = some vs[k] := List.getElem?_eq_getElem hkl
     exact ((hvs.2 k _ _ hvk hk').one (hf _ (List.getElem_mem hkl))).1
    refine ⟨b,o + ad.i * z + ad.j,_,.ptr q1,run_storeCells vs'.toList 0 w arr q2 (by omega) hvone (by rw [q3]; exact q8),?_⟩
    ·refine h.setRow hS q1 q2 (by simp [over_size]) (by simp) ?_ (over_mem _ _ _ q9 hvone)
     intro i row hrow
     rw [List.getElem?_set] at hrow
     by_cases e : ad.i = i
     ·subst e
      rw [if_pos rfl,if_pos hi] at hrow
      cases hrow
      refine ⟨by simp; omega,fun j v hjv => ?_⟩
      rw [over_get _ _ _ _ (by omega),hl]
      simp only [Nat.add_zero]
      rw [List.getElem?_append] at hjv
      have hlen1 : (r.take ad.j ++ vs).length = ad.j + vs.length := by simp; omega
      by_cases c1 : j < ad.j + vs.length
      ·rw [hlen1,if_pos c1,List.getElem?_append] at hjv
       by_cases c2 : j < ad.j
       ·rw [if_pos (by simp; omega),List.getElem?_take,if_pos c2] at hjv
        rw [if_neg (by omega)]
        exact (q6 ad.i r hr).2 j v hjv
       ·rw [if_neg (by simp; omega)] at hjv
        have e1 : j - (r.take ad.j).length = j - ad.j := by simp; omega
        rw [e1] at hjv
        obtain ⟨v',g1,g2⟩ := hvs.get hjv
        rw [if_pos (by omega)]
        exact ⟨hf v (List.mem_of_getElem? hjv),v',by rw [show o + ad.i * z + j - (o + ad.i * z + ad.j) = j - ad.j by omega]; simpa using g1,g2⟩
      ·rw [hlen1,if_neg c1,List.getElem?_drop] at hjv
       rw [if_neg (by omega)]
       obtain ⟨g0,v',g1,g2⟩ := (q6 ad.i r hr).2 _ v hjv
       exact ⟨g0,v',by rw [← g1]; congr 1; omega,g2⟩
     ·rw [if_neg e] at hrow
      refine ⟨(q6 i row hrow).1,fun j v hjv => ?_⟩
      obtain ⟨g0,v',g1,g2⟩ := (q6 i row hrow).2 j v hjv
      refine ⟨g0,v',?_,g2⟩
      have hjz : j < z := by rw [← (q6 i row hrow).1]; exact (List.getElem?_eq_some_iff.1 hjv).1
      rw [over_get _ _ _ _ (by omega),hl,if_neg ?_]
      ·exact g1
      ·simp only [Nat.add_zero]
       intro hc
       have : ∃ k,k < z ∧ ad.i * z + k = i * z + j := ⟨i * z + j - ad.i * z,by omega,by omega⟩
       obtain ⟨k,hk1,hk2⟩ := this
       exact e (rows_apart hk1 hjz hk2).1
   ·cases hv
  ·cases hv
 ·cases hv
theorem ok_store {t : TypeId} {x y : Operand} {ad : HA} {v : HV} {n : Nat} {S' : HS} (ho : o.op = .store t x y) (ht : ∃ i,P.info? t = some i ∧ i.size = n) (hx : Ev a x (.ptr (some ad))) (hy : Ev a y v) (hn : v.cells.length = n) (hf : ∀ u ∈ v.cells,u.flat = true)
  (hv : S.sets ad v.cells = some S') : OpOk P base W0 o a S (.tup []) S' := by
 refine ⟨by rw [ho]; simp,fun β w a' h1 h2 => ?_⟩
 have hc := (hy.rel h2).cells
 obtain ⟨b,off,w',g1,g2,g3⟩ := h1.sets (P := P) hv hc hf
 have e := ptr_unique (hx.rel h2) g1
 obtain ⟨i,hi,hsz⟩ := ht
 refine ⟨β,w',undef,.refl β,.inr ⟨?_,rfl⟩,VRel.undef β,g3⟩
 have hsize : (a'.eval y).cells.size = i.size := by rw [hsz,← hn,hc.1]
 simp [execOp,ho,Instr.storeAt,e,Instr.sureAddr,storeVar,Go.sizeOf,typeInfo,hi,hsize,g2]
theorem Rel.newRowsM (h : Rel base W0 β S w) (rows : List (List HV)) (arr : Array Value) (t : TypeId) (fr : Nat × Nat) (z : Nat) (m : Nat) (hm : MkOk m t fr 0) (hz : 0 < z) (hlen : rows.length * z ≤ arr.size) (hrel : RowsRel β rows arr 0 z) (hfr : ∀ i,i < arr.size → ¬ (fr.1 ≤ i ∧ i < fr.2)) (hone : arr.size = rows.length * z ∨ ∀ v' ∈ arr.toList,v'.oneCell' = true) :
  ∃ β',Le β β' ∧ β' S.next = .mem w.heap.size 0 z rows.length arr.size ∧ Rel base W0 β' (S.newM (.cells z rows true) m) { w with heap := w.heap.push (.cells arr t fr) } := by
 refine h.allocM (.cells arr t fr) (.cells z rows true) m (.mem w.heap.size 0 z rows.length arr.size) rfl fun β' hle hb => ?_
 exact ⟨w.heap.size,0,arr.size,arr,t,fr,hb,by simp,rfl,by omega,hz,hrel.mono hle,fun _ => ⟨h.size,hfr,hone.elim (fun e => hrel.flatMem hz e rfl) fun e => e,hm⟩⟩
theorem Rel.newRows (h : Rel base W0 β S w) (rows : List (List HV)) (arr : Array Value) (t : TypeId) (z : Nat) (hz : 0 < z) (hlen : rows.length * z ≤ arr.size) (hrel : RowsRel β rows arr 0 z) (hone : arr.size = rows.length * z ∨ ∀ v' ∈ arr.toList,v'.oneCell' = true) :
  ∃ β',Le β β' ∧ β' S.next = .mem w.heap.size 0 z rows.length arr.size ∧ Rel base W0 β' (S.new (.cells z rows true)) { w with heap := w.heap.push (.cells arr t (0,0)) } :=
 h.newRowsM rows arr t (0,0) z 0 (.zero (Nat.le_refl _)) hz hlen hrel (fun i _ => by omega) hone
theorem rows_one {r : List HV} {arr : Array Value} (h : VRels β r arr) (hf : ∀ v ∈ r,v.flat = true) : RowsRel β [r] arr 0 r.length := by
 intro i row hrow
 cases i with
 | zero =>
  simp at hrow; subst hrow
  refine ⟨rfl,fun j v hv => ?_⟩
  obtain ⟨v',g1,g2⟩ := h.get hv
  exact ⟨hf v (List.mem_of_getElem? hv),v',by simpa using g1,g2⟩
 | succ i => simp at hrow
theorem ok_alloc {t : TypeId} {zv : Value} {r : List HV} (ho : o.op = .alloc t) (ht : (P.info? t).map (·.zero) = some (some zv)) (hz : ∀ β,VRels β r zv.cells) (hr : 0 < r.length) (hf : ∀ v ∈ r,v.flat = true) :
  OpOk P base W0 o a S (.ptr (some ⟨S.next,0,0⟩)) (S.new (.cells r.length [r] true)) := by
 refine ⟨by rw [ho]; simp,fun β w a' h1 h2 => ?_⟩
 obtain ⟨β',g1,g2,g3⟩ := h1.newRows [r] zv.cells t r.length hr (by simp [(hz β).1]) (rows_one (hz β) hf) (.inl (by simp [(hz β).1]))
 obtain ⟨i,hi,hi2⟩ : ∃ i,P.info? t = some i ∧ i.zero = some zv := by
  cases hc : P.info? t with
  | none => rw [hc] at ht; cases ht
  | some i => rw [hc] at ht; exact ⟨i,rfl,by simpa using ht⟩
 refine ⟨β',_,.pointer (some ⟨w.heap.size,0,none⟩),g1,.inl ?_,?_,g3⟩
 ·simp [execOp,ho,Instr.alloc,zeroValue,typeInfo,hi,hi2,newVar,newRow]
 ·simpa using VRel.ptr (i := 0) (j := 0) g2
theorem ok_box {t : TypeId} {x : Operand} {v : HV} (ho : o.op = .box t x) (hx : Ev a x v) (hr : 0 < v.cells.length) (hf : ∀ u ∈ v.cells,u.flat = true) :
  OpOk P base W0 o a S (.ptr (some ⟨S.next,0,0⟩)) (S.new (.cells v.cells.length [v.cells] true)) := by
 refine ⟨by rw [ho]; simp,fun β w a' h1 h2 => ?_⟩
 have hc := (hx.rel h2).cells
 obtain ⟨β',g1,g2,g3⟩ := h1.newRows [v.cells] (a'.eval x).cells t v.cells.length hr (by simp [hc.1]) (rows_one hc hf) (.inl (by simp [hc.1]))
 refine ⟨β',_,.pointer (some ⟨w.heap.size,0,none⟩),g1,.inl ?_,?_,g3⟩
 ·simp [execOp,ho,Instr.box,newVar,newRow]
 ·simpa using VRel.ptr (i := 0) (j := 0) g2
def fieldInfo (P : Program) (s : TypeId) (f : Nat) : Option (Nat × TypeId × Nat) :=
 match P.underlying s with
 | some (.struct fs) => (fs[f]?).bind fun x => (P.info? x.type).map fun i => (x.offset,x.type,i.size)
 | _ => none
theorem fieldInfo_out {s : TypeId} {f off u n : Nat} (h : fieldInfo P s f = some (off,u,n)) : ∃ fs x i,P.underlying s = some (.struct fs) ∧ fs[f]? = some x ∧ x.offset = off ∧ x.type = u ∧ P.info? u = some i ∧ i.size = n := by
 unfold fieldInfo at h
 split at h
 ·rename_i fs hfs
  cases hx : fs[f]? with
  | none => rw [hx] at h; cases h
  | some x =>
   rw [hx] at h
   cases hi : P.info? x.type with
   | none => simp [hi] at h
   | some i =>
    simp [hi] at h
    obtain ⟨h1,h2,h3⟩ := h
    exact ⟨fs,x,i,hfs,hx,h1,h2,by rw [← h2]; exact hi,h3⟩
 ·cases h
theorem ok_fieldAddr {s : TypeId} {x : Operand} {f off u n : Nat} {ad : HA} (ho : o.op = .fieldAddr s x f) (hfi : fieldInfo P s f = some (off,u,n)) (hn : n ≠ 0) (hx : Ev a x (.ptr (some ad))) : OpOk P base W0 o a S (.ptr (some ⟨ad.id,ad.i,ad.j + off⟩)) S := by
 refine .pure (by rw [ho]; simp) fun β w a' h1 h2 => ?_
 obtain ⟨fs,y,i,g1,g2,g3,g4,g5,g6⟩ := fieldInfo_out hfi
 have hr := hx.rel h2
 generalize hxv : a'.eval x = xv at hr
 obtain ⟨id,ai,aj⟩ := ad
 cases hr with
 | ptr hb =>
  refine ⟨_,?_,VRel.ptr (i := ai) (j := aj + off) hb⟩
  subst g4
  simp [execOp,ho,Instr.fieldAt,hxv,underlying,g1,g2,Instr.sureAddr,fieldPlace,Go.sizeOf,typeInfo,g5,g6,hn,add_none,g3]
  omega
theorem ok_field {s : TypeId} {x : Operand} {f off u n : Nat} {vs : List HV} {v : HV} (ho : o.op = .field s x f) (hfi : fieldInfo P s f = some (off,u,n)) (ht : Scalar P u) (hx : Ev a x (.agg vs)) (hv : vs[off]? = some v) : OpOk P base W0 o a S v S := by
 refine .pure (by rw [ho]; simp) fun β w a' h1 h2 => ?_
 obtain ⟨fs,y,i,g1,g2,g3,g4,g5,g6⟩ := fieldInfo_out hfi
 have hr := hx.rel h2
 generalize hxv : a'.eval x = xv at hr
 cases hr with
 | agg e1 e2 =>
  obtain ⟨v',m1,m2⟩ := VRels.get ⟨e1,e2⟩ hv
  subst g4
  exact ⟨v',by simp [execOp,ho,Instr.field,hxv,underlying,g1,g2,asAgg,part,ht.isAgg,g3,m1],m2⟩
structure Sl where
 a : Option (Nat × Nat)
 len : Nat
 cap : Option Nat
def Sl.hv (s : Sl) : HV := .sl s.a s.len s.cap
def Sl.nil : Sl := ⟨none,0,none⟩
def HS.idx (S : HS) (s : Sl) (i : Int) (z : Nat) : Option HA :=
 if 0 ≤ i ∧ i < s.len then
  match s.a with
  | some (id,off) =>
   match S.heap id with
   | .cells z' _ _ => if z' = z then some ⟨id,off + i.toNat,0⟩ else none
   | _ => none
  | none => none
 else none
theorem Rel.live (h : Rel base W0 β S w) {id z : Nat} {rows : List (List HV)} {own : Bool} (hS : S.heap id = .cells z rows own) :
  ∃ b o tot arr t fr,β id = .mem b o z rows.length tot ∧ w.heap[b]? = some (.cells arr t fr) ∧ arr.size = tot ∧ o + rows.length * z ≤ tot ∧ 0 < z ∧ RowsRel β rows arr o z := by
 have ho := h.objs id
 rw [hS] at ho
 obtain ⟨b,o,tot,arr,t,fr,q1,q2,q3,q4,q5,q6,q7⟩ := ho
 exact ⟨b,o,tot,arr,t,fr,q1,q2,q3,q4,q5,q6⟩
theorem ok_indexAddr {t e : TypeId} {x y : Operand} {s : Sl} {k : IntKind} {i : Int} {z : Nat} {ad : HA} (ho : o.op = .indexAddr t x y) (ht : P.underlying t = some (.slice e)) (hz : ∃ q,P.info? e = some q ∧ q.size = z) (hx : Ev a x s.hv) (hy : Ev a y (.int k i)) (hv : S.idx s i z = some ad) :
  OpOk P base W0 o a S (.ptr (some ad)) S := by
 refine .pure (by rw [ho]; simp) fun β w a' h1 h2 => ?_
 obtain ⟨sa,len,cap⟩ := s
 simp only [HS.idx] at hv
 split at hv
 ·rename_i hi
  cases sa with
  | none => cases hv
  | some p =>
   obtain ⟨id,off⟩ := p
   simp only at hv
   split at hv
   ·rename_i z' rows own hS
    split at hv
    ·rename_i hrl
     cases hv
     subst hrl
     obtain ⟨q,hq1,hq2⟩ := hz
     have hrx := hx.rel h2
     simp only [Sl.hv] at hrx
     generalize hxv : a'.eval x = xv at hrx
     cases hrx with
     | sl hb e1 e2 e3 e4 e5 =>
      obtain ⟨b,o1,tot,arr,ty,fr,q1,q2,q3,q4,q5,q6⟩ := h1.live hS
      rw [hb] at q1
      cases q1
      refine ⟨_,?_,VRel.ptr hb⟩
      simp [execOp,ho,Instr.indexAt,hxv,hy.at_int h2,asIntOf,underlying,ht,hi.1,hi.2,Go.sizeOf,typeInfo,hq1,add_none,hq2]
      rw [Nat.add_mul]; omega
     | slEnd hb e2 e3 e4 => have := hi.2; simp at this; omega
    ·cases hv
   ·cases hv
 ·cases hv
end
def HS.cut (S : HS) (s : Sl) (l h : Int) (z : Nat) : Option Sl :=
 if 0 ≤ l ∧ l ≤ h then
  match s.a with
  | none => if h = 0 then some ⟨none,0,s.cap⟩ else none
  | some (id,off) =>
   match S.heap id with
   | .cells z' rows _ =>
    if z' = z ∧ (h ≤ s.len ∨ (s.cap = none ∧ off + h.toNat ≤ rows.length) ∨ (∃ c,s.cap = some c ∧ h ≤ c)) then some ⟨some (id,off + l.toNat),h.toNat - l.toNat,s.cap.map (· - l.toNat)⟩ else none
   | _ => none
 else none
def HS.cut3 (S : HS) (s : Sl) (l h m : Int) (z : Nat) : Option Sl :=
 if 0 ≤ l ∧ l ≤ h ∧ h ≤ m then
  match s.a with
  | none => if m = 0 then some ⟨none,0,some 0⟩ else none
  | some (id,off) =>
   match S.heap id with
   | .cells z' rows _ =>
    if z' = z ∧ (m ≤ s.len ∨ (s.cap = none ∧ off + m.toNat ≤ rows.length) ∨ (∃ c,s.cap = some c ∧ m ≤ c)) then some ⟨some (id,off + l.toNat),h.toNat - l.toNat,some (m.toNat - l.toNat)⟩ else none
   | _ => none
 else none
def HS.rows (S : HS) (s : Sl) (z : Nat) : Option (List (List HV)) :=
 match s.a with
 | none => if s.len = 0 then some [] else none
 | some (id,off) =>
  match S.heap id with
  | .cells z' rows _ => if z' = z ∧ off + s.len ≤ rows.length then some ((rows.drop off).take s.len) else none
  | _ => none
def splice {α : Type} (rows : List α) (i : Nat) (new : List α) : List α := rows.take i ++ new ++ rows.drop (i + new.length)
def HS.app (S : HS) (s : Sl) (new : List (List HV)) (z : Nat) : Option (Sl × HS) :=
 if new = [] then some (s,S)
 else if s.len + new.length ≤ 2147483648 then
  match s.a with
  | none => if s.len = 0 then some (⟨some (S.next,0),new.length,none⟩,S.new (.cells z new true)) else none
  | some (id,off) =>
   match S.heap id with
   | .cells z' rows own =>
    if z' = z then
     match s.cap with
     | some c =>
      if s.len + new.length ≤ c then
       if own = true then some (⟨some (id,off),s.len + new.length,some c⟩,S.put id (.cells z (splice rows (off + s.len) new) true)) else none
      else some (⟨some (S.next,0),s.len + new.length,none⟩,S.new (.cells z ((rows.drop off).take s.len ++ new) true))
     | none =>
      if own = true then
       if off + s.len + new.length ≤ rows.length then some (⟨some (id,off),s.len + new.length,none⟩,S.put id (.cells z (splice rows (off + s.len) new) true))
       else if off + s.len = rows.length then some (⟨some (S.next,0),s.len + new.length,none⟩,(S.put id .dead).newM (.cells z (rows.drop off ++ new) true) (mfg (S.mrk id)))
       else none
      else none
    else none
   | _ => none
 else none
def HS.appT (S : HS) (s : Sl) (new : List (List HV)) (z : Nat) (e : Nat) : Option (Sl × HS) :=
 if new = [] then some (s,S)
 else if s.len + new.length ≤ 2147483648 then
  match s.a with
  | none => if s.len = 0 then some (⟨some (S.next,0),new.length,none⟩,S.newM (.cells z new true) (e + 2)) else none
  | some (id,off) =>
   match S.heap id with
   | .cells z' rows own =>
    if z' = z then
     match s.cap with
     | some c =>
      if s.len + new.length ≤ c then
       if own = true then some (⟨some (id,off),s.len + new.length,some c⟩,S.put id (.cells z (splice rows (off + s.len) new) true)) else none
      else some (⟨some (S.next,0),s.len + new.length,none⟩,S.newM (.cells z ((rows.drop off).take s.len ++ new) true) (e + 2))
     | none =>
      if own = true then
       if off + s.len + new.length ≤ rows.length then some (⟨some (id,off),s.len + new.length,none⟩,S.put id (.cells z (splice rows (off + s.len) new) true))
       else if off + s.len = rows.length then some (⟨some (S.next,0),s.len + new.length,none⟩,(S.put id .dead).newM (.cells z (rows.drop off ++ new) true) (if S.mrk id = e + 2 ∧ off = 0 then e + 2 else mfg (S.mrk id)))
       else none
      else none
    else none
   | _ => none
 else none
def HS.make (S : HS) (n c : Int) (zr : List HV) : Option (Sl × HS) :=
 if 0 ≤ n ∧ n ≤ c ∧ c ≤ 2147483648 then some (⟨some (S.next,0),n.toNat,some c.toNat⟩,S.new (.cells zr.length (List.replicate c.toNat zr) true)) else none
def HS.lit (S : HS) (rows : List (List HV)) (z : Nat) : Sl × HS := (⟨some (S.next,0),rows.length,some rows.length⟩,S.new (.cells z rows true))
def bytesRows (s : List UInt8) : List (List HV) := s.map fun b => [.int .u8 b.toNat]
def HS.ofStr (S : HS) (s : List UInt8) : Sl × HS := (⟨some (S.next,0),s.length,none⟩,S.newM (.cells 1 (bytesRows s) true) 1)
def byteOfRow : List HV → Option UInt8
 | [.int .u8 n] => some (UInt8.ofNat n.toNat)
 | _ => none
def HS.str (S : HS) (s : Sl) : Option (List UInt8) := (S.rows s 1).bind fun rows => rows.mapM byteOfRow
def HS.over (S : HS) (s : Sl) (new : List (List HV)) (z : Nat) : Option HS :=
 if new = [] then some S else
 match s.a with
 | none => none
 | some (id,off) =>
  match S.heap id with
  | .cells z' rows true => if z' = z ∧ new.length ≤ s.len ∧ off + new.length ≤ rows.length then some (S.put id (.cells z (splice rows off new) true)) else none
  | _ => none
section
variable {P : Program} {base : Nat} {W0 : Env} {a : HAct} {S : HS} {o : Oper} {β : Bt} {w : World}
def SizeIs (P : Program) (e z bytes : Nat) : Prop := ∃ q,P.info? e = some q ∧ q.size = z ∧ q.bytes = bytes
theorem SizeIs.run {e z by_ : Nat} (h : SizeIs P e z by_) : (sizeOf e).run P w = .ok z w := by
 obtain ⟨q,h1,h2,_⟩ := h; simp [Go.sizeOf,typeInfo,h1,h2]
theorem slice_core {cap l h m z by_ : Nat} {t e : TypeId} {x : Option Addr} {len : Nat} (ht : P.underlying t = some (.slice e)) (hz : SizeIs P e z by_) {lo hi mx : Option Value} (hb : (Instr.sliceBounds true len cap lo hi mx).run P w = .ok (l,h,m) w) :
  (Instr.sliceAt t (.slice x len cap) lo hi mx).run P w = .ok (.slice (if m = l then x else x.map (·.add (l * z))) (h - l) (m - l)) w := by
 obtain ⟨q,h1,h2,_⟩ := hz
 simp [Instr.sliceAt,underlying,ht,Instr.slice,hb,Go.sizeOf,typeInfo,h1,h2]
theorem ok_slice {t e z by_ : Nat} {x : Operand} {lo hi : Option Operand} {s s' : Sl} {l h : Int} {kl kh : IntKind} (ho : o.op = .slice t x lo hi none) (ht : P.underlying t = some (.slice e)) (hz : SizeIs P e z by_) (hx : Ev a x s.hv)
  (hlo : (lo = none ∧ l = 0) ∨ ∃ y,lo = some y ∧ Ev a y (.int kl l)) (hhi : (hi = none ∧ h = s.len) ∨ ∃ y,hi = some y ∧ Ev a y (.int kh h)) (hv : S.cut s l h z = some s') : OpOk P base W0 o a S s'.hv S := by
 refine .pure (by rw [ho]; simp) fun β w a' h1 h2 => ?_
 obtain ⟨sa,len,c⟩ := s
 have hrx := hx.rel h2
 simp only [Sl.hv] at hrx hhi
 generalize hxv : a'.eval x = xv at hrx
 unfold HS.cut at hv
 split at hv
 case isFalse => cases hv
 rename_i hlh
 have hbounds : ∀ (cap : Nat),h ≤ cap → len ≤ cap → (Instr.sliceBounds true len cap (lo.map a'.eval) (hi.map a'.eval) none).run P w = .ok (l.toNat,h.toNat,cap) w := by
  intro cap hc hlc
  have h0 : 0 ≤ h := by omega
  have e1 : ((h.toNat : Nat) : Int) = h := by omega
  rcases hlo with ⟨rfl,rfl⟩ | ⟨y,rfl,hy⟩ <;> rcases hhi with ⟨rfl,rfl⟩ | ⟨u,rfl,hu⟩
  ·simp [Instr.sliceBounds]
  ·simp [Instr.sliceBounds,Instr.sliceBound,asIntOf,hu.at_int h2,h0,hc]
  ·simp [Instr.sliceBounds,Instr.sliceBound,asIntOf,hy.at_int h2,hlh.1,hlh.2]
  ·simp [Instr.sliceBounds,Instr.sliceBound,asIntOf,hu.at_int h2,hy.at_int h2,h0,hc,hlh.1,e1,hlh.2]
 have hfin : ∀ (y : Option Addr) (cap : Nat),xv = .slice y len cap → h ≤ cap → len ≤ cap → (execOp a'.eval o).run P w = .ok (.value (.slice (if cap = l.toNat then y else y.map (·.add (l.toNat * z))) (h.toNat - l.toNat) (cap - l.toNat))) w := by
  intro y cap hy hc hlc
  have := slice_core (w := w) (x := y) ht hz (hbounds cap hc hlc)
  simp [execOp,ho,hxv,hy,this]
 cases sa with
 | none =>
  simp only at hv
  split at hv
  ·rename_i hh
   cases hv
   cases hrx with
   | slNil =>
    obtain rfl : l = 0 := by omega
    obtain rfl : h = 0 := hh
    exact ⟨_,hfin none 0 rfl (by omega) (Nat.le_refl _),by simpa [Sl.hv] using VRel.slNil c⟩
  ·cases hv
 | some p =>
  obtain ⟨id,off⟩ := p
  simp only at hv
  split at hv
  ·rename_i z' rows own hS
   split at hv
   ·rename_i hcond
    cases hv
    obtain ⟨rfl,hcond⟩ := hcond
    obtain ⟨b,o1,tot,arr,ty,fr,q1,q2,q3,q4,q5,q6⟩ := h1.live hS
    simp only [Sl.hv]
    cases hrx with
    | @sl _ b1 _ z2 n2 tot2 _ _ cap _ hb e1 e2 e3 e4 e5 =>
     rw [hb] at q1
     cases q1
     have hcap : h ≤ cap ∧ off + h.toNat ≤ rows.length := by
      rcases hcond with hc | ⟨hc1,hc2⟩ | ⟨q,hc1,hc2⟩
      ·exact ⟨by omega,by omega⟩
      ·have := e3 hc1; exact ⟨by omega,hc2⟩
      ·have := e4 q hc1; exact ⟨by omega,by omega⟩
     refine ⟨_,hfin _ cap rfl hcap.1 e1,?_⟩
     by_cases hm : cap = l.toNat
     ·rw [if_pos hm]
      have e0 : h.toNat - l.toNat = 0 := by omega
      have e00 : cap - l.toNat = 0 := by omega
      rw [e0,e00]
      refine .slEnd hb (by omega) (fun hc => ?_) (fun q hq => ?_)
      ·have := e3 (by simpa using hc); omega
      ·cases c with
       | none => cases hq
       | some q' =>
        have := e4 q' rfl
        simp at hq
        omega
     ·rw [if_neg hm]
      simp only [Option.map_some,add_none]
      have e9 : o1 + off * z' + l.toNat * z' = o1 + (off + l.toNat) * z' := by rw [Nat.add_mul]; omega
      rw [e9]
      refine .sl hb (by omega) (by omega) (fun hc => ?_) (fun q hq => ?_) ?_
      ·have := e3 (by simpa using hc); omega
      ·cases c with
       | none => cases hq
       | some q' =>
        have := e4 q' rfl
        simp at hq
        omega
      ·have : off + l.toNat + (cap - l.toNat) = off + cap := by omega
       rw [this]; exact e5
    | @slEnd _ b1 o2 z2 n2 tot2 _ _ ad hb e2 e3 e4 =>
     rw [hb] at q1
     cases q1
     have h0 : h = 0 := by
      rcases hcond with hc | ⟨hc1,hc2⟩ | ⟨q,hc1,hc2⟩
      ·simp at hc; omega
      ·have := e3 hc1; omega
      ·have := e4 q hc1; omega
     obtain rfl : l = 0 := by omega
     subst h0
     refine ⟨_,hfin _ 0 rfl (by omega) (Nat.le_refl _),?_⟩
     simp only [Int.toNat_zero,Nat.add_zero,Nat.sub_zero,if_true]
     refine .slEnd hb e2 (fun hc => e3 (by simpa using hc)) (fun q hq => ?_)
     cases c with
     | none => cases hq
     | some q' => have := e4 q' rfl; simp at hq; omega
   ·cases hv
  ·cases hv
theorem Rel.rows (h : Rel base W0 β S w) {s : Sl} {z : Nat} {rows : List (List HV)} (hr : S.rows s z = some rows) {xv : Value} (hx : VRel β s.hv xv) (n : Nat) (hn : n ≤ s.len) :
  ∃ arr : Array Value,(Builtin.firstCells z n xv).run P w = .ok arr w ∧ arr.size = n * z ∧ RowsRel β (rows.take n) arr 0 z := by
 obtain ⟨sa,len,c⟩ := s
 simp only [HS.rows] at hr
 simp only [Sl.hv] at hx
 cases sa with
 | none =>
  simp only at hr
  split at hr
  ·rename_i e
   cases hr
   subst e
   obtain rfl : n = 0 := by simpa using hn
   cases hx
   exact ⟨#[],by simp [Builtin.firstCells],by simp,fun i row hi => by simp at hi⟩
  ·cases hr
 | some p =>
  obtain ⟨id,off⟩ := p
  simp only at hr
  split at hr
  ·rename_i z' rws own hS
   split at hr
   ·rename_i hc
    cases hr
    obtain ⟨rfl,hle⟩ := hc
    obtain ⟨b,o1,tot,arr,ty,fr,q1,q2,q3,q4,q5,q6⟩ := h.live hS
    simp only at hn
    have hmul : (off + n) * z' ≤ rws.length * z' := Nat.mul_le_mul_right z' (by omega)
    rw [Nat.add_mul] at hmul
    cases hx with
    | sl hb e1 e2 e3 e4 e5 =>
     rw [hb] at q1
     cases q1
     have hl := run_loadCells (P := P) (o := o1 + off * z') q2 (n * z') 0 #[] (by omega)
     simp only [Nat.add_zero,Array.empty_append] at hl
     refine ⟨arr.extract (o1 + off * z') (o1 + off * z' + n * z'),by simpa [Builtin.firstCells,loadCells] using hl,by simp; omega,fun i row hi => ?_⟩
     rw [List.take_take,List.getElem?_take] at hi
     split at hi
     ·rename_i hin
      rw [List.getElem?_drop] at hi
      obtain ⟨g1,g2⟩ := q6 _ row hi
      refine ⟨g1,fun j v hv => ?_⟩
      obtain ⟨g3,v',g4,g5⟩ := g2 j v hv
      refine ⟨g3,v',?_,g5⟩
      have hj : j < z' := by rw [← g1]; exact (List.getElem?_eq_some_iff.1 hv).1
      have hi2 : i * z' + j < n * z' := mul_lt_rows (by omega) hj
      rw [Array.getElem?_extract,if_pos (by omega),← g4]
      congr 1
      rw [Nat.add_mul]; omega
     ·cases hi
    | slEnd hb e2 e3 e4 =>
     obtain rfl : n = 0 := by simpa using hn
     exact ⟨#[],by simp [Builtin.firstCells,loadCells,loadCellsFrom],by simp,fun i row hi => by simp at hi⟩
   ·cases hr
  ·cases hr
theorem RowsRel.append {rows new : List (List HV)} {arr arr' : Array Value} {z : Nat} (h : RowsRel β rows arr 0 z) (hsz : arr.size = rows.length * z) (k : RowsRel β new arr' 0 z) : RowsRel β (rows ++ new) (arr ++ arr') 0 z := by
 intro i row hi
 rw [List.getElem?_append] at hi
 split at hi
 ·rename_i hlt
  obtain ⟨g1,g2⟩ := h i row hi
  refine ⟨g1,fun j v hv => ?_⟩
  obtain ⟨g3,v',g4,g5⟩ := g2 j v hv
  refine ⟨g3,v',?_,g5⟩
  rw [Array.getElem?_append,if_pos (Array.getElem?_eq_some_iff.1 g4).1]; exact g4
 ·rename_i hlt
  obtain ⟨g1,g2⟩ := k _ row hi
  refine ⟨g1,fun j v hv => ?_⟩
  obtain ⟨g3,v',g4,g5⟩ := g2 j v hv
  refine ⟨g3,v',?_,g5⟩
  have : rows.length * z ≤ i * z := Nat.mul_le_mul_right z (by omega)
  rw [Array.getElem?_append,if_neg (by omega),← g4]
  congr 1
  rw [Nat.sub_mul]; omega
theorem RowsRel.weaken {rows : List (List HV)} {arr arr' : Array Value} {z : Nat} (h : RowsRel β rows arr 0 z) : RowsRel β rows (arr ++ arr') 0 z := by
 intro i row hi
 obtain ⟨g1,g2⟩ := h i row hi
 refine ⟨g1,fun j v hv => ?_⟩
 obtain ⟨g3,v',g4,g5⟩ := g2 j v hv
 exact ⟨g3,v',by rw [Array.getElem?_append,if_pos (Array.getElem?_eq_some_iff.1 g4).1]; exact g4,g5⟩
theorem RowsRel.splice {rows new : List (List HV)} {arr arrN : Array Value} {o z i : Nat} (h : RowsRel β rows arr o z) (hn : RowsRel β new arrN 0 z) (hsz : arrN.size = new.length * z) (hi : i + new.length ≤ rows.length) (htot : o + rows.length * z ≤ arr.size) :
  RowsRel β (HL.splice rows i new) (over arr (o + i * z) arrN.toList) o z := by
 have hm : (i + new.length) * z ≤ rows.length * z := Nat.mul_le_mul_right z hi
 rw [Nat.add_mul] at hm
 intro q row hq
 have hlen1 : (rows.take i ++ new).length = i + new.length := by simp; omega
 unfold HL.splice at hq
 rw [List.getElem?_append,hlen1] at hq
 by_cases c1 : q < i + new.length
 ·rw [if_pos c1,List.getElem?_append] at hq
  by_cases c2 : q < i
  ·rw [if_pos (by simp; omega),List.getElem?_take,if_pos c2] at hq
   obtain ⟨g1,g2⟩ := h q row hq
   refine ⟨g1,fun j v hv => ?_⟩
   obtain ⟨g3,v',g4,g5⟩ := g2 j v hv
   have hj : j < z := by rw [← g1]; exact (List.getElem?_eq_some_iff.1 hv).1
   have := mul_lt_rows c2 hj
   refine ⟨g3,v',?_,g5⟩
   rw [over_get _ _ _ _ (by simp [hsz]; omega),if_neg (by omega)]; exact g4
  ·rw [if_neg (by simp; omega)] at hq
   have e1 : q - (rows.take i).length = q - i := by simp; omega
   rw [e1] at hq
   obtain ⟨g1,g2⟩ := hn _ row hq
   refine ⟨g1,fun j v hv => ?_⟩
   obtain ⟨g3,v',g4,g5⟩ := g2 j v hv
   have hj : j < z := by rw [← g1]; exact (List.getElem?_eq_some_iff.1 hv).1
   have h2 := mul_lt_rows (show q - i < new.length by omega) hj
   refine ⟨g3,v',?_,g5⟩
   have e2 : q * z = i * z + (q - i) * z := by rw [← Nat.add_mul]; congr 1; omega
   rw [over_get _ _ _ _ (by simp [hsz]; omega),if_pos (by simp [hsz]; omega)]
   rw [show o + q * z + j - (o + i * z) = 0 + (q - i) * z + j by omega]
   simpa using g4
 ·rw [if_neg c1,List.getElem?_drop] at hq
  rw [show i + new.length + (q - (i + new.length)) = q by omega] at hq
  obtain ⟨g1,g2⟩ := h q row hq
  refine ⟨g1,fun j v hv => ?_⟩
  obtain ⟨g3,v',g4,g5⟩ := g2 j v hv
  refine ⟨g3,v',?_,g5⟩
  have hm2 : (i + new.length) * z ≤ q * z := Nat.mul_le_mul_right z (by omega)
  rw [Nat.add_mul] at hm2
  rw [over_get _ _ _ _ (by simp [hsz]; omega),if_neg (by simp [hsz]; omega)]; exact g4
theorem nextslicecap_le (need old : Nat) (h : old < need) : Builtin.nextslicecap need old ≤ 2 * need + 2000 := by
 unfold Builtin.nextslicecap
 split
 ·omega
 ·split
  ·omega
  ·unfold Builtin.growBy; split
   ·omega
   ·unfold Builtin.growBy; split
    ·omega
    ·unfold Builtin.growBy; split
     ·omega
     ·unfold Builtin.growBy; split
      ·omega
      ·unfold Builtin.growBy; omega
structure ElemAt (P : Program) (t e z : Nat) (zr : List HV) : Prop where
 slice : P.underlying t = some (.slice e)
 info : ∃ q zv,P.info? e = some q ∧ q.size = z ∧ q.bytes ≤ 4096 ∧ q.zero = some zv ∧ ∀ β,VRels β zr zv.cells
 pos : zr.length = z ∧ 0 < z
 flat : ∀ v ∈ zr,v.flat = true
theorem ElemAt.zero_one {t e z : Nat} {zr : List HV} (h : ElemAt P t e z zr) {q : TypeInfo} {zv : Value} (hq : P.info? e = some q) (hzv : q.zero = some zv) (n : Nat) : ∀ v' ∈ (Builtin.zeroCells zv.cells n).toList,v'.oneCell' = true := by
 obtain ⟨q',zv',h1,h2,h3,h4,h5⟩ := h.info
 rw [hq] at h1
 cases h1
 rw [hzv] at h4
 cases h4
 have hr := h5 (fun _ => .none)
 have hp : 0 < zv.cells.size := by rw [← hr.1,h.pos.1]; exact h.pos.2
 intro v' hv'
 simp only [Builtin.zeroCells,Array.toList_map,List.mem_map] at hv'
 obtain ⟨i,_,hi⟩ := hv'
 have hlt : i % zv.cells.size < zv.cells.size := Nat.mod_lt _ hp
 have hg : zv.cells[i % zv.cells.size]? = some v' := by
  rw [← hi,getElem!_pos zv.cells _ hlt,Array.getElem?_eq_getElem hlt]
 have hlz : i % zv.cells.size < zr.length := by rw [hr.1]; exact hlt
 exact ((hr.2 _ _ _ (List.getElem?_eq_getElem hlz) hg).one (h.flat _ (List.getElem_mem hlz))).1
theorem ElemAt.size {t e z : Nat} {zr : List HV} (h : ElemAt P t e z zr) : ∃ by_,SizeIs P e z by_ := by
 obtain ⟨q,zv,h1,h2,h3,_⟩ := h.info
 exact ⟨q.bytes,q,h1,h2,rfl⟩
def NoInt (P : Program) (u : TypeId) : Prop := (∃ e,P.underlying u = some (.slice e)) ∨ P.underlying u = some .string
theorem append_fits {t e z : Nat} {zr : List HV} (he : ElemAt P t e z zr) {tys : Array TypeId} {u : TypeId} (h0 : tys[0]? = some t) (h1 : tys[1]? = some u) (hu : NoInt P u) {x : Option Addr} {len cap n : Nat} {src : Value} {arrN : Array Value} {ty : TypeId}
  (hn : (Builtin.lenOf src).run P w = .ok n w) (hcells : (Builtin.firstCells z n src).run P w = .ok arrN w) (hle : len + n ≤ cap) :
  (Builtin.append_ tys ty #[.slice x len cap,src]).run P w = ((match x with | some a => storeCells (a.add (len * z)) arrN.toList | none => pure ()).run P w).andThen fun _ w' => .ok (.slice x (len + n) cap) w' := by
 obtain ⟨q,zv,q1,q2,q3,q4,q5⟩ := he.info
 rcases hu with ⟨e',hd⟩ | hd <;> cases x <;> simp [Builtin.append_,h0,h1,underlying,he.slice,hd,Go.sizeOf,typeInfo,q1,q2,hn,hle,hcells]
theorem append_grows {t e z : Nat} {zr : List HV} (he : ElemAt P t e z zr) {tys : Array TypeId} {u : TypeId} (h0 : tys[0]? = some t) (h1 : tys[1]? = some u) (hu : NoInt P u) {x : Option Addr} {len cap n : Nat} {src : Value} {arrN arrO : Array Value} {ty : TypeId}
  (hn : ∀ d,(Builtin.lenOf src).run P { w with drawn := d } = .ok n { w with drawn := d }) (hcells : ∀ d,(Builtin.firstCells z n src).run P { w with drawn := d } = .ok arrN { w with drawn := d })
  (hold : ∀ d,(Builtin.firstCells z len (.slice x len cap)).run P { w with drawn := d } = .ok arrO { w with drawn := d }) (hlt : cap < len + n) (hbound : len + n ≤ 2147483648) :
  ∃ (newCap : Nat) (rest : Array Value),len + n ≤ newCap ∧ rest.size = (newCap - (len + n)) * z ∧ (∀ v' ∈ rest.toList,v'.oneCell' = true) ∧
   (Builtin.append_ tys ty #[.slice x len cap,src]).run P w = .ok (.slice (some ⟨w.heap.size,0,none⟩) (len + n) newCap) { w with drawn := w.drawn + 1,heap := w.heap.push (.cells (arrO ++ arrN ++ rest) e) } := by
 obtain ⟨q,zv,q1,q2,q3,q4,q5⟩ := he.info
 have hzs : zv.cells.size = z := by rw [← (q5 (fun _ => .none)).1]; exact he.pos.1
 have hns := nextslicecap_le (len + n) cap hlt
 have hnum : Builtin.nextslicecap (len + n) cap * q.bytes ≤ 4294969296 * 4096 := Nat.mul_le_mul (by omega) q3
 have hmax : IntKind.i64.max = 9223372036854775807 := by decide
 refine ⟨(Question.appendCap (len + n) cap e).cut (w.tape w.drawn (.appendCap (len + n) cap e)),Builtin.zeroCells zv.cells ((Question.appendCap (len + n) cap e).cut (w.tape w.drawn (.appendCap (len + n) cap e)) - (len + n)),?_,?_,he.zero_one q1 q4 _,?_⟩
 ·simp only [Question.cut]; omega
 ·simp [Builtin.zeroCells,hzs]
 ·have n1 : ¬ len + n ≤ cap := by omega
  have hn0 := hn w.drawn
  have hn1 : (Builtin.lenOf src).run P w = .ok n w := hn0
  have hc : (Builtin.firstCells z n src).run P w.drew = .ok arrN w.drew := hcells (w.drawn + 1)
  have hO : (Builtin.firstCells z len (.slice x len cap)).run P w.drew = .ok arrO w.drew := hold (w.drawn + 1)
  have n4 : ¬ (281474976710656 < Builtin.nextslicecap (len + n) cap * q.bytes) := by omega
  have n5 : ¬ (9223372036854775807 < (len : Int) + (n : Int)) := by omega
  rcases hu with ⟨e',hd⟩ | hd <;> simp [Builtin.append_,h0,h1,hd,underlying,he.slice,Go.sizeOf,typeInfo,hn1,n1,n4,hmax,n5,q1,q2,q4,zeroValue,Question.forced,hO,hc,newRow] <;> rfl
end
end Go.Proofs.YtfningkbcfhheaaGreatDoor.HL
namespace Go.Proofs.YtfningkbcfhheaaGreatDoor.HL
set_option linter.unusedVariables false
open Go.RowKit (Below)
section
variable {P : Program} {base : Nat} {W0 : Env} {a : HAct} {S : HS} {o : Oper} {β : Bt} {w : World}
theorem HS.put_newM_comm {S : HS} {id : Nat} {o o' : HObj} {m : Nat} (h : id ≠ S.next) : (S.newM o m).put id o' = (S.put id o').newM o m := by
 have : (fun i => if i = id then o' else if i = S.next then o else S.heap i) = (fun i => if i = S.next then o else if i = id then o' else S.heap i) := by
  funext i
  by_cases e1 : i = id
  ·subst e1; rw [if_pos rfl,if_neg h,if_pos rfl]
  ·rw [if_neg e1,if_neg e1]
 show ({ heap := fun i => if i = id then o' else if i = S.next then o else S.heap i,next := S.next + 1,mrk := fun i => if i = S.next then m else S.mrk i } : HS) = { heap := fun i => if i = S.next then o else if i = id then o' else S.heap i,next := S.next + 1,mrk := fun i => if i = S.next then m else S.mrk i }
 rw [this]
theorem Rel.drawn (h : Rel base W0 β S w) (d : Nat) : Rel base W0 β S { w with drawn := d } :=
 ⟨⟨h.below.os,h.below.tape,h.below.output,h.below.size,h.below.block⟩,h.size,h.fresh,h.lt,h.objs,h.disj⟩
theorem Rel.rename (h : Rel base W0 β S w) {id z : Nat} {rows : List (List HV)} (hS : S.heap id = .cells z rows true) {b o n tot : Nat} {arr arr' : Array Value} {t : TypeId} {fr : Nat × Nat} (hb : β id = .mem b o z n tot) (hw : w.heap[b]? = some (.cells arr t fr))
  (hsz : arr'.size = arr.size) {o' : Nat} {rows' : List (List HV)} (hrel : RowsRel β rows' arr' o' z) (htot : o' + rows'.length * z ≤ tot) (hone : ∀ v' ∈ arr'.toList,v'.oneCell' = true) {m : Nat} (hm : MkOk (S.mrk id) t fr o → MkOk m t fr o') :
  ∃ β',Le β β' ∧ β' S.next = .mem b o' z rows'.length tot ∧ Rel base W0 β' ((S.put id .dead).newM (.cells z rows' true) m) (World.setRow w b arr' t fr) := by
 have ho := h.objs id
 rw [hS] at ho
 obtain ⟨b1,o1,tot1,arr1,t1,fr1,q1,q2,q3,q4,q5,q6,q7⟩ := ho
 rw [hb] at q1
 cases q1
 rw [hw] at q2
 cases q2
 obtain ⟨hbase,hfr,_,hmk⟩ := q7 rfl
 have hbid : (β id).block = some b := by rw [hb]; rfl
 let β' : Bt := fun i => if i = S.next then .mem b o' z rows'.length tot else β i
 have hle : Le β β' := fun i hi => by
  have : i ≠ S.next := fun e => hi (by rw [e]; exact (h.fresh S.next (Nat.le_refl _)).1)
  simp [β',this]
 have hat : β' S.next = .mem b o' z rows'.length tot := by simp [β']
 have hoth : ∀ i,i ≠ S.next → β' i = β i := fun i hi => by simp [β',hi]
 have hget : ∀ j,j ≠ b → (World.setRow w b arr' t fr).heap[j]? = w.heap[j]? := fun j hj => by
  simp only [World.setRow]
  rw [Array.getElem?_setIfInBounds,if_neg (fun e => hj e.symm)]
 have hheap : ∀ i,((S.put id .dead).newM (.cells z rows' true) m).heap i = if i = S.next then .cells z rows' true else if i = id then .dead else S.heap i := fun i => rfl
 have hmks : ∀ i,((S.put id .dead).newM (.cells z rows' true) m).mrk i = if i = S.next then m else S.mrk i := fun i => rfl
 refine ⟨β',hle,hat,h.below.trans ⟨rfl,rfl,rfl,by simp [World.setRow],fun j hj => hget j (by omega)⟩,by simpa [World.setRow] using h.size,fun i hi => ?_,fun i c hc => ?_,fun i => ?_,fun i j c hij h1 h2 h3 => ?_⟩
 ·simp only [HS.newM,HS.put] at hi
  have hf := h.fresh i (by omega)
  rw [hoth i (by omega),hheap,if_neg (by omega)]
  refine ⟨hf.1,?_⟩
  split
  ·rfl
  ·exact hf.2
 ·have e0 : (World.setRow w b arr' t fr).heap.size = w.heap.size := by simp [World.setRow]
  rw [e0]
  by_cases e : i = S.next
  ·rw [e,hat] at hc; cases hc; exact h.lt id b hbid
  ·rw [hoth i e] at hc; exact h.lt i c hc
 ·rw [hheap,hmks]
  by_cases e : i = S.next
  ·subst e
   rw [if_pos rfl,if_pos rfl]
   have hmk2 := hm hmk
   exact ⟨b,o',tot,arr',t,fr,hat,setRow_at hw,hsz.trans q3,htot,q5,hrel.mono hle,fun _ => ⟨hbase,hfr,hone,hmk2⟩⟩
  ·rw [if_neg e,if_neg e]
   by_cases e2 : i = id
   ·rw [if_pos e2]; trivial
   ·rw [if_neg e2]
    have h1 := h.objs i
    have hne : ∀ b1,(S.heap i).alive = true → (β i).block = some b1 → b1 ≠ b := fun b1 hal hb1 e1 =>
     h.disj id i b (fun e3 => e2 e3.symm) (by rw [hS]; rfl) hal hbid (by rw [hb1,e1])
    cases hSi : S.heap i with
    | dead => trivial
    | cells z1 rows1 own1 =>
     rw [hSi] at h1 hne
     obtain ⟨b1,o1,tot1,arr1,ty1,fr1,r1,r2,r3,r4,r5,r6,r7⟩ := h1
     exact ⟨b1,o1,tot1,arr1,ty1,fr1,(hoth i e).trans r1,(hget b1 (hne b1 rfl (by rw [r1]; rfl))).trans r2,r3,r4,r5,r6.mono hle,r7⟩
    | map es =>
     rw [hSi] at h1 hne
     obtain ⟨b1,es',clk,r1,r2,r3,r4⟩ := h1
     exact ⟨b1,es',clk,(hoth i e).trans r1,r2,(hget b1 (hne b1 rfl (by rw [r1]; rfl))).trans r3,r4.mono hle⟩
    | loop st pend =>
     rw [hSi] at h1 hne
     obtain ⟨b1,L,r1,r2,r3⟩ := h1
     exact ⟨b1,L,(hoth i e).trans r1,r2,(hget b1 (hne b1 rfl (by rw [r1]; rfl))).trans r3⟩
    | defer =>
     rw [hSi] at h1 hne
     obtain ⟨b1,r1,r2,r3⟩ := h1
     exact ⟨b1,(hoth i e).trans r1,r2,(hget b1 (hne b1 rfl (by rw [r1]; rfl))).trans r3⟩
    | call g vs =>
     rw [hSi] at h1
     obtain ⟨args',r1,r2⟩ := h1
     exact ⟨args',(hoth i e).trans r1,r2.mono hle⟩
    | opq => rw [hSi] at h1 hne; exact W0.stable _ _ _ _ _ h1 hle (hoth i e) fun b1 hb1 => hget b1 (hne b1 rfl hb1)
 ·rw [hheap] at h1 h2
  by_cases e1 : i = S.next
  ·subst e1
   rw [hat] at h3
   cases h3
   rw [if_neg (fun e => hij e.symm)] at h2
   by_cases e2 : j = id
   ·rw [if_pos e2] at h2; cases h2
   ·rw [if_neg e2] at h2
    rw [hoth j (fun e => hij e.symm)]
    exact h.disj id j b (fun e => e2 e.symm) (by rw [hS]; rfl) h2 hbid
  ·rw [if_neg e1] at h1
   rw [hoth i e1] at h3
   by_cases e2 : i = id
   ·rw [if_pos e2] at h1; cases h1
   ·rw [if_neg e2] at h1
    by_cases e3 : j = S.next
    ·rw [e3,hat]
     intro hc
     cases hc
     exact h.disj i id b e2 h1 (by rw [hS]; rfl) h3 hbid
    ·rw [if_neg e3] at h2
     rw [hoth j e3]
     by_cases e4 : j = id
     ·rw [if_pos e4] at h2; cases h2
     ·rw [if_neg e4] at h2
      exact h.disj i j c hij h1 h2 h3
theorem Rel.mark (h : Rel base W0 β S w) {S' : HS} (hh : S'.heap = S.heap) (hn : S'.next = S.next) (hm : ∀ i,MkLe (S'.mrk i) (S.mrk i)) : Rel base W0 β S' w := by
 refine ⟨h.below,h.size,fun i hi => by rw [hh]; exact h.fresh i (by omega),h.lt,fun i => ?_,fun i j b hij h1 h2 => ?_⟩
 ·have ho := h.objs i
  rw [hh]
  cases hS : S.heap i with
  | cells z rows own =>
   rw [hS] at ho
   obtain ⟨b,o,tot,arr,t,fr,q1,q2,q3,q4,q5,q6,q7⟩ := ho
   exact ⟨b,o,tot,arr,t,fr,q1,q2,q3,q4,q5,q6,fun hown => ⟨(q7 hown).1,(q7 hown).2.1,(q7 hown).2.2.1,(q7 hown).2.2.2.le (hm i)⟩⟩
  | dead => trivial
  | map es => rw [hS] at ho; exact ho
  | loop st pend => rw [hS] at ho; exact ho
  | defer => rw [hS] at ho; exact ho
  | call g vs => rw [hS] at ho; exact ho
  | opq => rw [hS] at ho; exact ho
 ·rw [hh] at h1 h2
  exact h.disj i j b hij h1 h2
theorem Rel.remark {id m : Nat} {o : HObj} (h : Rel base W0 β ((S.newM o m).put id .dead) w) {m' : Nat} (hm : MkLe m' m) : Rel base W0 β ((S.newM o m').put id .dead) w :=
 h.mark rfl rfl fun i => by
  simp only [HS.put,HS.newM]
  split
  ·exact hm
  ·exact .refl _
theorem RowsRel.drop {rows : List (List HV)} {arr : Array Value} {o z k : Nat} (h : RowsRel β rows arr o z) : RowsRel β (rows.drop k) arr (o + k * z) z := by
 intro i row hi
 rw [List.getElem?_drop] at hi
 obtain ⟨g1,g2⟩ := h _ row hi
 refine ⟨g1,fun j v hv => ?_⟩
 obtain ⟨g3,v',g4,g5⟩ := g2 j v hv
 exact ⟨g3,v',by rw [← g4]; congr 1; rw [Nat.add_mul]; omega,g5⟩
theorem RowsRel.behind {rows new : List (List HV)} {arr arrN : Array Value} {o z : Nat} (h : RowsRel β rows arr o z) (hn : RowsRel β new arrN 0 z) (hsz : arrN.size = new.length * z) (htot : o + (rows.length + new.length) * z ≤ arr.size) :
  RowsRel β (rows ++ new) (over arr (o + rows.length * z) arrN.toList) o z := by
 rw [Nat.add_mul] at htot
 intro q row hq
 rw [List.getElem?_append] at hq
 split at hq
 ·rename_i hlt
  obtain ⟨g1,g2⟩ := h q row hq
  refine ⟨g1,fun j v hv => ?_⟩
  obtain ⟨g3,v',g4,g5⟩ := g2 j v hv
  have hj : j < z := by rw [← g1]; exact (List.getElem?_eq_some_iff.1 hv).1
  have := mul_lt_rows hlt hj
  refine ⟨g3,v',?_,g5⟩
  rw [over_get _ _ _ _ (by simp [hsz]; omega),if_neg (by omega)]; exact g4
 ·rename_i hlt
  obtain ⟨g1,g2⟩ := hn _ row hq
  refine ⟨g1,fun j v hv => ?_⟩
  obtain ⟨g3,v',g4,g5⟩ := g2 j v hv
  have hj : j < z := by rw [← g1]; exact (List.getElem?_eq_some_iff.1 hv).1
  have h3 : q - rows.length < new.length := (List.getElem?_eq_some_iff.1 hq).1
  have h2 := mul_lt_rows h3 hj
  have e2 : q * z = rows.length * z + (q - rows.length) * z := by rw [← Nat.add_mul]; congr 1; omega
  refine ⟨g3,v',?_,g5⟩
  rw [over_get _ _ _ _ (by simp [hsz]; omega),if_pos (by simp [hsz]; omega)]
  rw [show o + q * z + j - (o + rows.length * z) = 0 + (q - rows.length) * z + j by omega]
  simpa using g4
structure Appends (P : Program) (w : World) (e z : Nat) (tys : Array TypeId) (ty : TypeId) (src : Value) (n : Nat) (arrN : Array Value) : Prop where
 fits : ∀ (x : Option Addr) (len cap : Nat),len + n ≤ cap → (Builtin.append_ tys ty #[.slice x len cap,src]).run P w = ((match x with | some a => storeCells (a.add (len * z)) arrN.toList | none => pure ()).run P w).andThen fun _ w' => .ok (.slice x (len + n) cap) w'
 grows : ∀ (x : Option Addr) (len cap : Nat) (arrO : Array Value),(∀ d,(Builtin.firstCells z len (.slice x len cap)).run P { w with drawn := d } = .ok arrO { w with drawn := d }) → cap < len + n → len + n ≤ 2147483648 →
  ∃ (newCap : Nat) (rest : Array Value),len + n ≤ newCap ∧ rest.size = (newCap - (len + n)) * z ∧ (∀ v' ∈ rest.toList,v'.oneCell' = true) ∧
   (Builtin.append_ tys ty #[.slice x len cap,src]).run P w = .ok (.slice (some ⟨w.heap.size,0,none⟩) (len + n) newCap) { w with drawn := w.drawn + 1,heap := w.heap.push (.cells (arrO ++ arrN ++ rest) e) }
theorem appends_of {t e z : Nat} {zr : List HV} (he : ElemAt P t e z zr) {tys : Array TypeId} {u : TypeId} (h0 : tys[0]? = some t) (h1 : tys[1]? = some u) (hu : NoInt P u) {n : Nat} {src : Value} {arrN : Array Value} {ty : TypeId}
  (hn : ∀ d,(Builtin.lenOf src).run P { w with drawn := d } = .ok n { w with drawn := d }) (hc : ∀ d,(Builtin.firstCells z n src).run P { w with drawn := d } = .ok arrN { w with drawn := d }) : Appends P w e z tys ty src n arrN :=
 ⟨fun x len cap hle => append_fits he h0 h1 hu (hn w.drawn) (hc w.drawn) hle,fun x len cap arrO hold hlt hb => append_grows he h0 h1 hu hn hc hold hlt hb⟩
theorem Rel.appT (h : Rel base W0 β S w) {t e z : Nat} {zr : List HV} (he : ElemAt P t e z zr) {tys : Array TypeId} (ty : TypeId) {s s' : Sl} {new : List (List HV)} {S' : HS}
  (hv : S.appT s new z e = some (s',S')) {xv src : Value} (hx : VRel β s.hv xv) {arrN : Array Value} (ha : Appends P w e z tys ty src new.length arrN) (hsz : arrN.size = new.length * z) (hrel : RowsRel β new arrN 0 z) :
  ∃ β' w' v',Le β β' ∧ (Builtin.append_ tys ty #[xv,src]).run P w = .ok v' w' ∧ VRel β' s'.hv v' ∧ Rel base W0 β' S' w' := by
 have hzpos : 0 < z := he.pos.2
 have hone := hrel.flatMem hzpos hsz rfl
 obtain ⟨sa,len,c⟩ := s
 simp only [Sl.hv] at hx
 unfold HS.appT at hv
 split at hv
 ·-- nothing comes
  rename_i hnil
  cases hv
  subst hnil
  have hemp : arrN.toList = [] := by
   have : arrN.size = 0 := by simpa using hsz
   simpa using this
  have hfit : ∀ (x : Option Addr) (cap : Nat),xv = .slice x len cap → len ≤ cap → (Builtin.append_ tys ty #[xv,src]).run P w = .ok xv w := by
   intro x cap e1 e2
   subst e1
   rw [ha.fits _ _ _ (by simpa using e2)]
   cases x <;> simp [hemp,storeCells]
  refine ⟨β,w,xv,.refl β,?_,by simpa [Sl.hv] using hx,h⟩
  cases hx with
  | slNil => exact hfit none 0 rfl (Nat.le_refl _)
  | sl hb e1 e2 e3 e4 e5 => exact hfit _ _ rfl e1
  | slEnd hb e2 e3 e4 => exact hfit _ _ rfl (Nat.le_refl _)
 ·rename_i hnil
  have hpos : 0 < new.length := by
   cases new with
   | nil => exact absurd rfl hnil
   | cons x y => simp
  split at hv
  case isFalse => cases hv
  rename_i hbound
  simp only at hbound
  -- a new array,of which so much is known
  have grow : ∀ (x : Option Addr) (cap : Nat) (old : List (List HV)) (arrO : Array Value),xv = .slice x len cap → cap < len + new.length → (∀ d,(Builtin.firstCells z len (.slice x len cap)).run P { w with drawn := d } = .ok arrO { w with drawn := d }) →
    arrO.size = len * z → old.length = len → RowsRel β old arrO 0 z →
    ∃ β' w' v',Le β β' ∧ (Builtin.append_ tys ty #[xv,src]).run P w = .ok v' w' ∧ VRel β' (Sl.hv ⟨some (S.next,0),len + new.length,none⟩) v' ∧ Rel base W0 β' (S.newM (.cells z (old ++ new) true) (e + 2)) w' := by
   intro x cap old arrO e1 e2 e3 e4 e5 e6
   subst e1
   obtain ⟨newCap,rest,g1,g2,gone,g3⟩ := ha.grows _ _ _ _ e3 e2 hbound
   have hs1 : (arrO ++ arrN ++ rest).size = newCap * z := by
    simp only [Array.size_append,e4,hsz,g2]
    rw [← Nat.add_mul,← Nat.add_mul]; congr 1; omega
   obtain ⟨β',q1,q2,q3⟩ := (h.drawn (w.drawn + 1)).newRowsM (old ++ new) (arrO ++ arrN ++ rest) e (0,0) z (e + 2) (.typed (Nat.le_refl _)) hzpos
    (by rw [hs1,List.length_append,e5]; exact Nat.mul_le_mul_right z g1) ((e6.append (by rw [e5]; exact e4) hrel).weaken) (fun i _ => by omega) (.inr (by
     intro v' hv'
     simp only [Array.toList_append,List.mem_append] at hv'
     rcases hv' with (hv' | hv') | hv'
     ·exact e6.flatMem hzpos (by rw [e5]; exact e4) rfl v' hv'
     ·exact hone v' hv'
     ·exact gone v' hv'))
   refine ⟨β',_,_,q1,g3,?_,q3⟩
   simp only [Sl.hv]
   have := VRel.sl (β := β') (off := 0) (len := len + new.length) (cap := newCap) (c := none) q2 g1 (by simp [e5]) (fun _ => by simp [e5]; omega) (fun q hq => by cases hq) (by rw [hs1]; simp)
   simpa using this
  cases sa with
  | none =>
   simp only at hv
   split at hv
   ·rename_i hlen
    cases hv
    subst hlen
    cases hx with
    | slNil =>
     have := grow none 0 [] #[] rfl (by omega) (fun d => by simp [Builtin.firstCells]) (by simp) rfl (fun i row hi => by simp at hi)
     simpa using this
   ·cases hv
  | some p =>
   obtain ⟨id,off⟩ := p
   simp only at hv
   split at hv
   case h_2 => cases hv
   rename_i z' rows own hS
   split at hv
   case isFalse => cases hv
   rename_i hzz
   subst hzz
   obtain ⟨b,o1,tot,arr,ty1,fr,q1,q2,q3,q4,q5,q6⟩ := h.live hS
   -- in place
   have place : ∀ (cap : Nat) (c' : Option Nat),xv = .slice (some ⟨b,o1 + off * z',none⟩) len cap → own = true → len + new.length ≤ cap → off + len + new.length ≤ rows.length → o1 + (off + cap) * z' ≤ tot →
     (c' = none → rows.length ≤ off + cap) → (∀ q,c' = some q → cap = q ∧ off + q ≤ rows.length) →
     ∃ β' w' v',Le β β' ∧ (Builtin.append_ tys ty #[xv,src]).run P w = .ok v' w' ∧ VRel β' (Sl.hv ⟨some (id,off),len + new.length,c'⟩) v' ∧ Rel base W0 β' (S.put id (.cells z' (splice rows (off + len) new) true)) w' := by
    intro cap c' e1 e2 e3 e4 e5 e6 e7
    subst e1 e2
    obtain ⟨_,_,_,_,_,_,r1,r2,_,_,_,_,r7,r8,r9,_⟩ := h.owned hS
    rw [q1] at r1
    cases r1
    rw [q2] at r2
    cases r2
    have hm : (off + len + new.length) * z' ≤ rows.length * z' := Nat.mul_le_mul_right z' e4
    rw [Nat.add_mul,Nat.add_mul] at hm
    have hst := run_storeCells (P := P) (b := b) (o := o1 + off * z' + len * z') (t := ty1) (fr := fr) arrN.toList 0 w arr q2 (by simp [hsz]; omega) hone (by rw [q3]; exact r8)
    have hre : o1 + off * z' + len * z' + 0 = o1 + (off + len) * z' := by rw [Nat.add_mul]; omega
    rw [hre] at hst
    refine ⟨β,_,.slice (some ⟨b,o1 + off * z',none⟩) (len + new.length) cap,.refl β,?_,?_,h.setRow hS q1 q2 (by simp [over_size]) (by simp [splice]; omega) (q6.splice hrel hsz e4 (by rw [q3]; exact q4)) (over_mem _ _ _ r9 hone)⟩
    ·rw [ha.fits _ _ _ e3]
     simp only [add_none]
     rw [hst]
     rfl
    ·exact .sl q1 e3 (by simp only; omega) e6 e7 (by rw [Nat.add_mul] at e5 ⊢; omega)
   -- what was there
   have held : ∀ (x : Option Addr) (cap : Nat),xv = .slice x len cap → off + len ≤ rows.length → ∃ arrO : Array Value,(∀ d,(Builtin.firstCells z' len (.slice x len cap)).run P { w with drawn := d } = .ok arrO { w with drawn := d }) ∧ arrO.size = len * z' ∧ RowsRel β ((rows.drop off).take len) arrO 0 z' := by
    intro x cap e1 e2
    have hrows : S.rows ⟨some (id,off),len,c⟩ z' = some ((rows.drop off).take len) := by simp [HS.rows,hS,e2]
    obtain ⟨arrO,g1,g2,g3⟩ := h.rows (P := P) hrows hx len (Nat.le_refl _)
    refine ⟨arrO,fun d => ?_,g2,by rw [List.take_take,Nat.min_self] at g3; exact g3⟩
    obtain ⟨arrO',g1',_,_⟩ := (h.drawn d).rows (P := P) hrows hx len (Nat.le_refl _)
    rw [e1] at g1 g1'
    have : arrO' = arrO := by
     -- the cells hang on the heap alone
     have hd : ∀ (y : Sem (Array Value)),True := fun _ => trivial
     cases hx with
     | sl hb e1' e2' e3' e4' e5' =>
      cases e1
      have l1 := run_loadCells (P := P) (w := w) (o := o1 + off * z') q2 (len * z') 0 #[] (by
       rw [q1] at hb; cases hb
       have : (off + len) * z' ≤ rows.length * z' := Nat.mul_le_mul_right z' e2
       rw [Nat.add_mul] at this; omega)
      have l2 := run_loadCells (P := P) (w := { w with drawn := d }) (o := o1 + off * z') q2 (len * z') 0 #[] (by
       rw [q1] at hb; cases hb
       have : (off + len) * z' ≤ rows.length * z' := Nat.mul_le_mul_right z' e2
       rw [Nat.add_mul] at this; omega)
      rw [q1] at hb
      cases hb
      simp only [Builtin.firstCells,loadCells] at g1 g1'
      rw [l1] at g1
      rw [l2] at g1'
      cases g1; cases g1'; rfl
     | slEnd hb e2' e3' e4' =>
      cases e1
      simp [Builtin.firstCells,loadCells,loadCellsFrom] at g1 g1'
      rw [g1,g1']
    rw [← this]; exact g1'
   cases c with
   | some q =>
    simp only at hv
    split at hv
    ·rename_i hfit
     split at hv
     ·rename_i hown
      cases hv
      cases hx with
      | sl hb e1 e2 e3 e4 e5 =>
       rw [q1] at hb
       cases hb
       obtain ⟨rfl,e7⟩ := e4 q rfl
       exact place _ (some _) rfl hown hfit (by omega) e5 (fun hc => by cases hc) (fun q' hq' => by cases hq'; exact ⟨rfl,e7⟩)
      | slEnd hb e2 e3 e4 => have := e4 q rfl; omega
     ·cases hv
    ·rename_i hfit
     cases hv
     cases hx with
     | sl hb e1 e2 e3 e4 e5 =>
      rw [q1] at hb
      cases hb
      obtain ⟨rfl,e7⟩ := e4 q rfl
      obtain ⟨arrO,g1,g2,g3⟩ := held _ _ rfl e2
      exact grow _ _ _ arrO rfl (by omega) g1 g2 (by simp; omega) g3
     | slEnd hb e2 e3 e4 =>
      rw [q1] at hb
      cases hb
      obtain ⟨arrO,g1,g2,g3⟩ := held _ _ rfl (by omega)
      exact grow _ _ _ arrO rfl (by omega) g1 g2 (by simp) g3
   | none =>
    simp only at hv
    split at hv
    case isFalse => cases hv
    rename_i hown
    split at hv
    ·rename_i hin
     cases hv
     cases hx with
     | sl hb e1 e2 e3 e4 e5 =>
      rw [q1] at hb
      cases hb
      have := e3 rfl
      exact place _ none rfl hown (by omega) hin e5 (fun _ => this) (fun q' hq' => by cases hq')
     | slEnd hb e2 e3 e4 =>
      rw [q1] at hb
      cases hb
      have := e3 rfl
      omega
    ·rename_i hin
     split at hv
     case isFalse => cases hv
     rename_i hend
     cases hv
     have hmk1 : MkLe (if S.mrk id = e + 2 ∧ off = 0 then e + 2 else mfg (S.mrk id)) (e + 2) := by
      split
      ·exact .refl _
      ·exact .of_lt (mfg_lt _) fun _ => by omega
     have hmk2 : ∀ {t fr o},MkOk (S.mrk id) t fr o → MkOk (if S.mrk id = e + 2 ∧ off = 0 then e + 2 else mfg (S.mrk id)) t fr (o + off * z') := fun hk => by
      split
      ·rename_i q; rw [q.2,Nat.zero_mul,Nat.add_zero,← q.1]; exact hk
      ·exact hk.mfgOk
     have hdrop : (rows.drop off).take len = rows.drop off := List.take_of_length_le (by simp; omega)
     have viaGrow : ∀ (x : Option Addr) (cap : Nat),xv = .slice x len cap → cap < len + new.length → ∃ β' w' v',Le β β' ∧ (Builtin.append_ tys ty #[xv,src]).run P w = .ok v' w' ∧ VRel β' (Sl.hv ⟨some (S.next,0),len + new.length,none⟩) v' ∧ Rel base W0 β' ((S.put id .dead).newM (.cells z' (rows.drop off ++ new) true) (if S.mrk id = e + 2 ∧ off = 0 then e + 2 else mfg (S.mrk id))) w' := by
      intro x cap e1 e2
      obtain ⟨arrO,g1,g2,g3⟩ := held x cap e1 (by omega)
      obtain ⟨β',w',v',k1,k2,k3,k4⟩ := grow x cap _ arrO e1 e2 g1 g2 (by simp; omega) g3
      rw [hdrop] at k4
      refine ⟨β',w',v',k1,k2,k3,?_⟩
      have k5 := k4.kill id
      have hne : id ≠ S.next := fun e => by
       have := (h.fresh S.next (Nat.le_refl _)).2
       rw [← e,hS] at this; cases this
      have := HS.put_newM_comm (S := S) (m := if S.mrk id = e + 2 ∧ off = 0 then e + 2 else mfg (S.mrk id)) (o := .cells z' (rows.drop off ++ new) true) (o' := .dead) hne
      rw [← this]; exact k5.remark hmk1
     cases hx with
     | @sl _ b1 _ z2 n2 tot2 _ _ cap _ hb e1 e2 e3 e4 e5 =>
      rw [q1] at hb
      cases hb
      by_cases hcap : len + new.length ≤ cap
      ·obtain ⟨_,_,_,_,_,_,r1,r2,_,_,_,_,r7,r8,r9,_⟩ := h.owned (hown ▸ hS)
       rw [q1] at r1
       cases r1
       rw [q2] at r2
       cases r2
       have hm : o1 + (off + (len + new.length)) * z' ≤ tot := by
        have : (off + (len + new.length)) * z' ≤ (off + cap) * z' := Nat.mul_le_mul_right z' (by omega)
        omega
       have hdl : (rows.drop off).length = len := by simp; omega
       rw [Nat.add_mul,Nat.add_mul] at hm
       have hst := run_storeCells (P := P) (b := b) (o := o1 + off * z' + len * z') (t := ty1) (fr := fr) arrN.toList 0 w arr q2 (by simp [hsz]; omega) hone (by rw [q3]; exact r8)
       simp only [Nat.add_zero] at hst
       have hbh := (q6.drop (k := off)).behind hrel hsz (by rw [hdl,q3,Nat.add_mul]; omega)
       rw [hdl] at hbh
       obtain ⟨β',k1,k2,k3⟩ := h.rename (hown ▸ hS) q1 q2 (arr' := over arr (o1 + off * z' + len * z') arrN.toList) (by simp [over_size]) hbh (by rw [List.length_append,hdl,Nat.add_mul]; omega) (over_mem _ _ _ r9 hone) hmk2
       refine ⟨β',_,.slice (some ⟨b,o1 + off * z',none⟩) (len + new.length) cap,k1,?_,?_,k3⟩
       ·rw [ha.fits _ _ _ hcap]
        simp only [add_none]
        rw [hst]
        rfl
       ·simp only [Sl.hv]
        rw [List.length_append,hdl] at k2
        have := VRel.sl (β := β') (off := 0) (len := len + new.length) (cap := cap) (c := none) k2 hcap (by omega) (fun _ => by omega) (fun q hq => by cases hq) (by
         rw [Nat.add_mul] at e5; rw [Nat.zero_add]; omega)
        simpa using this
      ·exact viaGrow _ _ rfl (by omega)
     | slEnd hb e2 e3 e4 => exact viaGrow _ _ rfl (by omega)
theorem app_of_appT {S S' : HS} {s s' : Sl} {new : List (List HV)} {z e : Nat} (h : S.app s new z = some (s',S')) : ∃ S1,S.appT s new z e = some (s',S1) ∧ S'.heap = S1.heap ∧ S'.next = S1.next ∧ ∀ i,MkLe (S'.mrk i) (S1.mrk i) := by
 have hnew : ∀ (T : HS) (o : HObj) (m m' : Nat),MkLe m m' → ∀ i,MkLe ((T.newM o m).mrk i) ((T.newM o m').mrk i) := fun T o m m' hm i => by
  simp only [HS.newM]
  split
  ·exact hm
  ·exact .refl _
 have h0 : MkLe 0 (e + 2) := .of_lt (by omega) fun _ => by omega
 obtain ⟨sa,len,c⟩ := s
 unfold HS.app at h
 unfold HS.appT
 by_cases c1 : new = []
 ·rw [if_pos c1] at h ⊢; cases h; exact ⟨_,rfl,rfl,rfl,fun i => .refl _⟩
 rw [if_neg c1] at h ⊢
 by_cases c2 : len + new.length ≤ 2147483648
 ·simp only [if_pos c2] at h ⊢
  cases sa with
  | none =>
   simp only at h ⊢
   by_cases c3 : len = 0
   ·rw [if_pos c3] at h ⊢; cases h; exact ⟨_,rfl,rfl,rfl,hnew _ _ _ _ h0⟩
   ·rw [if_neg c3] at h; cases h
  | some p =>
   obtain ⟨id,off⟩ := p
   simp only at h ⊢
   cases hS : S.heap id with
   | cells z' rows own =>
    simp only [hS] at h ⊢
    by_cases c3 : z' = z
    ·rw [if_pos c3] at h ⊢
     cases c with
     | some cc =>
      simp only at h ⊢
      by_cases c4 : len + new.length ≤ cc
      ·rw [if_pos c4] at h ⊢
       by_cases c5 : own = true
       ·rw [if_pos c5] at h ⊢; cases h; exact ⟨_,rfl,rfl,rfl,fun i => .refl _⟩
       ·rw [if_neg c5] at h; cases h
      ·rw [if_neg c4] at h ⊢; cases h; exact ⟨_,rfl,rfl,rfl,hnew _ _ _ _ h0⟩
     | none =>
      simp only at h ⊢
      by_cases c4 : own = true
      ·rw [if_pos c4] at h ⊢
       by_cases c5 : off + len + new.length ≤ rows.length
       ·rw [if_pos c5] at h ⊢; cases h; exact ⟨_,rfl,rfl,rfl,fun i => .refl _⟩
       ·rw [if_neg c5] at h ⊢
        by_cases c6 : off + len = rows.length
        ·rw [if_pos c6] at h ⊢
         cases h
         refine ⟨_,rfl,rfl,rfl,hnew _ _ _ _ ?_⟩
         split
         ·rename_i q; rw [q.1]; exact .of_lt (mfg_lt _) fun _ => by omega
         ·exact .refl _
        ·rw [if_neg c6] at h; cases h
      ·rw [if_neg c4] at h; cases h
    ·rw [if_neg c3] at h; cases h
   | dead => simp only [hS] at h; cases h
   | map es => simp only [hS] at h; cases h
   | loop a b => simp only [hS] at h; cases h
   | defer => simp only [hS] at h; cases h
   | call g vs => simp only [hS] at h; cases h
   | opq => simp only [hS] at h; cases h
 ·rw [if_neg c2] at h; cases h
theorem Rel.app (h : Rel base W0 β S w) {t e z : Nat} {zr : List HV} (he : ElemAt P t e z zr) {tys : Array TypeId} (ty : TypeId) {s s' : Sl} {new : List (List HV)} {S' : HS}
  (hv : S.app s new z = some (s',S')) {xv src : Value} (hx : VRel β s.hv xv) {arrN : Array Value} (ha : Appends P w e z tys ty src new.length arrN) (hsz : arrN.size = new.length * z) (hrel : RowsRel β new arrN 0 z) :
  ∃ β' w' v',Le β β' ∧ (Builtin.append_ tys ty #[xv,src]).run P w = .ok v' w' ∧ VRel β' s'.hv v' ∧ Rel base W0 β' S' w' := by
 obtain ⟨S1,e1,g1,g2,g3⟩ := app_of_appT (e := e) hv
 obtain ⟨β',w',v',k1,k2,k3,k4⟩ := h.appT he ty e1 hx ha hsz hrel
 exact ⟨β',w',v',k1,k2,k3,k4.mark g1 g2 g3⟩
theorem rows_len {s : Sl} {z : Nat} {rows : List (List HV)} (h : S.rows s z = some rows) : rows.length = s.len := by
 unfold HS.rows at h
 split at h
 ·split at h
  ·rename_i e; cases h; simp [e]
  ·cases h
 ·split at h
  ·split at h
   ·rename_i e; cases h; simp; omega
   ·cases h
  ·cases h
theorem Sl.at {s : Sl} {xv : Value} (h : VRel β s.hv xv) : ∃ y cap,xv = .slice y s.len cap := by
 obtain ⟨sa,len,c⟩ := s
 simp only [Sl.hv] at h
 cases h <;> exact ⟨_,_,rfl⟩
theorem ok_appendT {t u e z : Nat} {zr : List HV} (he : ElemAt P t e z zr) {x y : Operand} {tys : Array TypeId} (ho : o.op = .call ⟨.builtin .append,#[x,y],tys⟩) (h0 : tys[0]? = some t) (h1 : tys[1]? = some u) (hu : ∃ e',P.underlying u = some (.slice e'))
  {s s1 s' : Sl} {new : List (List HV)} {S' : HS} (hx : Ev a x s.hv) (hy : Ev a y s1.hv) (hnew : S.rows s1 z = some new) (hv : S.appT s new z e = some (s',S')) : OpOk P base W0 o a S s'.hv S' := by
 refine ⟨by rw [ho]; simp,fun β w a' h h2 => ?_⟩
 have hxr := hx.rel h2
 have hyr := hy.rel h2
 generalize hxv : a'.eval x = xv at hxr
 generalize hyv : a'.eval y = yv at hyr
 have hl := rows_len hnew
 obtain ⟨arrN,g1,g2,g3⟩ := h.rows (P := P) hnew hyr s1.len (Nat.le_refl _)
 rw [← hl] at g1 g2 g3
 rw [List.take_length] at g3
 obtain ⟨y1,cap1,hy1⟩ := Sl.at hyr
 have hcells : ∀ d,(Builtin.firstCells z new.length yv).run P { w with drawn := d } = .ok arrN { w with drawn := d } := by
  intro d
  subst hy1
  cases y1 with
  | none => simp [Builtin.firstCells] at g1 ⊢; exact g1
  | some ad =>
   -- the cells hang on the heap alone
   obtain ⟨sa,len,c⟩ := s1
   simp only [Sl.hv] at hyr
   cases hyr with
   | @sl id b o1 z1 n tot off _ _ _ hb e1 e2 e3 e4 e5 =>
    simp only [HS.rows] at hnew
    split at hnew
    ·rename_i z' rows own hS
     split at hnew
     ·rename_i hc
      obtain ⟨hzz,hle⟩ := hc
      subst z'
      obtain ⟨b',o',tot',arr,ty,fr,q1,q2,q3,q4,q5,q6⟩ := h.live hS
      rw [hb] at q1
      cases q1
      simp only at hl hle
      have hm : (off + len) * z ≤ rows.length * z := Nat.mul_le_mul_right z hle
      rw [Nat.add_mul] at hm
      have l1 := run_loadCells (P := P) (w := w) (o := o1 + off * z) q2 (new.length * z) 0 #[] (by rw [hl]; omega)
      have l2 := run_loadCells (P := P) (w := { w with drawn := d }) (o := o1 + off * z) q2 (new.length * z) 0 #[] (by rw [hl]; omega)
      simp only [Builtin.firstCells,loadCells] at g1 ⊢
      rw [l1] at g1
      rw [l2]
      cases g1; rfl
     ·cases hnew
    ·cases hnew
   | slEnd hb e2 e3 e4 =>
    simp only at hl
    rw [hl] at g1 ⊢
    simp [Builtin.firstCells,loadCells,loadCellsFrom] at g1 ⊢
    exact g1
 obtain ⟨β',w',v',k1,k2,k3,k4⟩ := h.appT he o.type hv hxr (src := yv) (arrN := arrN) (appends_of he h0 h1 (.inl hu) (fun d => by rw [hy1,hl]; simp [Builtin.lenOf]) hcells) g2 g3
 exact ⟨β',w',v',k1,.inl (by simp [execOp,ho,resolve,invoke,builtin,hxv,hyv,k2]),k3,k4⟩
theorem ok_append {t u e z : Nat} {zr : List HV} (he : ElemAt P t e z zr) {x y : Operand} {tys : Array TypeId} (ho : o.op = .call ⟨.builtin .append,#[x,y],tys⟩) (h0 : tys[0]? = some t) (h1 : tys[1]? = some u) (hu : ∃ e',P.underlying u = some (.slice e'))
  {s s1 s' : Sl} {new : List (List HV)} {S' : HS} (hx : Ev a x s.hv) (hy : Ev a y s1.hv) (hnew : S.rows s1 z = some new) (hv : S.app s new z = some (s',S')) : OpOk P base W0 o a S s'.hv S' := by
 obtain ⟨S1,e1,g1,g2,g3⟩ := app_of_appT (e := e) hv
 refine ⟨by rw [ho]; simp,fun β w a' h h2 => ?_⟩
 obtain ⟨β',w',v',k1,k2,k3,k4⟩ := (ok_appendT he ho h0 h1 hu hx hy hnew e1).2 β w a' h h2
 exact ⟨β',w',v',k1,k2,k3,k4.mark g1 g2 g3⟩
theorem bytes_rel (s : List UInt8) (β : Bt) : RowsRel β (bytesRows s) ((⟨s.toArray⟩ : ByteArray).data.map fun b => Value.int .u8 b.toNat) 0 1 := by
 intro i row hi
 simp only [bytesRows,List.getElem?_map] at hi
 cases hb : s[i]? with
 | none => rw [hb] at hi; cases hi
 | some b =>
  rw [hb] at hi
  cases hi
  refine ⟨rfl,fun j v hv => ?_⟩
  cases j with
  | zero => simp at hv; subst hv; exact ⟨rfl,.int .u8 b.toNat,by simp [hb],.int _ _⟩
  | succ j => simp at hv
theorem size_bytesRows (s : List UInt8) : (bytesRows s).length = s.length := by simp [bytesRows]
theorem zeros_rel {zr : List HV} {zv : Array Value} (h : VRels β zr zv) (hz : 0 < zr.length) (hf : ∀ v ∈ zr,v.flat = true) (n : Nat) : RowsRel β (List.replicate n zr) ((Array.range (n * zv.size)).map fun i => zv[i % zv.size]!) 0 zr.length := by
 intro i row hi
 rw [List.getElem?_replicate] at hi
 split at hi
 ·rename_i hin
  cases hi
  refine ⟨rfl,fun j v hv => ⟨hf v (List.mem_of_getElem? hv),?_⟩⟩
  obtain ⟨v',g1,g2⟩ := h.get hv
  have hj : j < zr.length := (List.getElem?_eq_some_iff.1 hv).1
  have hlt := mul_lt_rows hin hj
  have hsz : zv.size = zr.length := h.1.symm
  refine ⟨v',?_,g2⟩
  rw [hsz]
  rw [Array.getElem?_map,Array.getElem?_range,if_pos (by omega)]
  simp only [Option.map_some,Nat.zero_add]
  have e1 : (i * zr.length + j) % zr.length = j := by rw [Nat.mul_comm,Nat.mul_add_mod]; exact Nat.mod_eq_of_lt hj
  rw [e1,getElem!_def,g1]
 ·cases hi
theorem ok_make {t e z : Nat} {zr : List HV} (he : ElemAt P t e z zr) {x y : Operand} {k k' : IntKind} {n c : Int} {s' : Sl} {S' : HS} (ho : o.op = .makeSlice t x y) (hx : Ev a x (.int k n)) (hy : Ev a y (.int k' c)) (hv : S.make n c zr = some (s',S')) : OpOk P base W0 o a S s'.hv S' := by
 refine ⟨by rw [ho]; simp,fun β w a' h h2 => ?_⟩
 unfold HS.make at hv
 split at hv
 case isFalse => cases hv
 rename_i hb
 cases hv
 obtain ⟨q,zv,q1,q2,q3,q4,q5⟩ := he.info
 have hz := he.pos
 have hzs : zv.cells.size = z := by rw [← (q5 (fun _ => .none)).1]; exact he.pos.1
 have hsize : ((Array.range (c.toNat * zv.cells.size)).map fun i => zv.cells[i % zv.cells.size]!).size = c.toNat * z := by simp [hzs]
 obtain ⟨β',g1,g2,g3⟩ := h.newRows (List.replicate c.toNat zr) ((Array.range (c.toNat * zv.cells.size)).map fun i => zv.cells[i % zv.cells.size]!) e zr.length (by omega) (by rw [hsize,hz.1]; simp) (zeros_rel (q5 β) (by omega) he.flat c.toNat) (.inl (by rw [hsize,hz.1]; simp))
 have wn : IntKind.i64.wrap n = n := by simp [IntKind.wrap,IntKind.signed,IntKind.bits]; omega
 have wc : IntKind.i64.wrap c = c := by simp [IntKind.wrap,IntKind.signed,IntKind.bits]; omega
 have hbn : (q.bytes : Int) * c ≤ 4096 * 2147483648 := Int.mul_le_mul (by omega) hb.2.2 (by omega) (by omega)
 have hpow : (2 : Int) ^ 48 = 281474976710656 := by decide
 refine ⟨β',_,.slice (some ⟨w.heap.size,0,none⟩) n.toNat c.toNat,g1,.inl ?_,?_,g3⟩
 ·have b1 : ¬ (c < 0) := by omega
  have b2 : ¬ ((q.bytes : Int) * c > 281474976710656) := by omega
  have b3 : ¬ (n < 0) := by omega
  have b4 : ¬ (n > c) := by omega
  by_cases hc0 : c.toNat * z = 0
  ·have hc1 : c.toNat = 0 := by
    rcases Nat.mul_eq_zero.1 hc0 with e | e <;> omega
   simp [execOp,ho,Instr.makeSlice,hx.at_int h2,hy.at_int h2,asInt,asIntOf,underlying,he.slice,typeInfo,q1,wn,wc,hpow,b1,b2,b3,b4,Go.sizeOf,hc1,newRow,show Array.range 0 = #[] from rfl]
  ·simp [execOp,ho,Instr.makeSlice,hx.at_int h2,hy.at_int h2,asInt,asIntOf,underlying,he.slice,typeInfo,q1,wn,wc,hpow,b1,b2,b3,b4,Go.sizeOf,q2,hc0,newRow,zeroValue,q4,hzs]
 ·simp only [Sl.hv]
  have := VRel.sl (β := β') (off := 0) (len := n.toNat) (cap := c.toNat) (c := some c.toNat) g2 (by omega) (by simp; omega) (fun hc => by cases hc) (fun q hq => by cases hq; simp) (by rw [hsize,hz.1]; simp)
  simpa using this
theorem buildSlice_fill {z : Nat} : ∀ (vs : List HV) (vs' : List Value) (k : Nat) (cells : Array Value),VRels β vs vs'.toArray → (∀ v ∈ vs,v.cells.length = z) → (k + vs.length) * z ≤ cells.size →
  ∃ cells',Instr.fill (fun i => some (i * z,z)) cells ((vs'.zipIdx k).map fun p => (p.2,p.1)) = some cells' ∧ cells'.size = cells.size ∧
   (∀ i j,i < k → j < z → cells'[i * z + j]? = cells[i * z + j]?) ∧ ∀ i v,vs[i]? = some v → ∀ j u,v.cells[j]? = some u → ∃ u',cells'[(k + i) * z + j]? = some u' ∧ VRel β u u' := by
 intro vs
 induction vs with
 | nil =>
  intro vs' k cells h _ _
  obtain rfl : vs' = [] := by have := h.1; cases vs' <;> simp_all
  exact ⟨cells,by simp [Instr.fill],rfl,fun _ _ _ _ => rfl,fun i v hi => by simp at hi⟩
 | cons v vs ih =>
  intro vs' k cells h hz hle
  cases vs' with
  | nil => have := h.1; simp at this
  | cons v' vs' =>
   have hv : VRel β v v' := h.2 0 v v' rfl (by simp)
   have hvs : VRels β vs vs'.toArray := ⟨by have := h.1; simp at this ⊢; exact this,fun i x x' h1 h2 => h.2 (i + 1) x x' (by simpa using h1) (by simpa using h2)⟩
   have hc := hv.cells
   have hcz : v'.cells.size = z := by rw [← hc.1]; exact hz v (by simp)
   simp only [List.length_cons] at hle
   have e0 : (k + (vs.length + 1)) * z = k * z + z + vs.length * z := by rw [Nat.add_mul,Nat.add_mul]; omega
   -- the first one's cells
   have hfold : ∀ (l : List Value) (m : Nat) (arr : Array Value),(l.zipIdx m).foldl (fun cs (c,j) => cs.setIfInBounds (k * z + j) c) arr = over arr (k * z + m) l := by
    intro l
    induction l with
    | nil => intro m arr; rfl
    | cons x l ih2 => intro m arr; simp only [List.zipIdx_cons,List.foldl_cons,over]; rw [ih2]; rfl
   obtain ⟨cells',g1,g2,g3,g4⟩ := ih vs' (k + 1) (over cells (k * z) v'.cells.toList) hvs (fun x hx => hz x (by simp [hx])) (by rw [over_size,Nat.add_mul,Nat.add_mul]; omega)
   refine ⟨cells',?_,by rw [g2,over_size],fun i j hi hj => ?_,fun i u hi j x hx => ?_⟩
   ·simp only [List.zipIdx_cons,List.map_cons,Instr.fill]
    have c1 : ¬ (k * z + v'.cells.size > cells.size) := by rw [hcz]; omega
    have hf := hfold v'.cells.toList 0 cells
    have hzi : v'.cells.zipIdx.foldl (fun cs (c,j) => cs.setIfInBounds (k * z + j) c) cells = over cells (k * z) v'.cells.toList := by
     rw [← Array.foldl_toList,Array.toList_zipIdx]; exact hf
    rw [if_neg (by simp only [hcz]; simp; rw [hcz] at c1; omega)]
    rw [hzi]
    exact g1
   ·rw [g3 i j (by omega) hj,over_get _ _ _ _ (by simp [hcz]; omega),if_neg ?_]
    have := mul_lt_rows hi hj
    omega
   ·cases i with
    | zero =>
     simp at hi
     subst hi
     obtain ⟨x',m1,m2⟩ := hc.get hx
     have hj : j < z := by rw [← hz v (by simp)]; exact (List.getElem?_eq_some_iff.1 hx).1
     refine ⟨x',?_,m2⟩
     rw [Nat.add_zero,g3 k j (by omega) hj,over_get _ _ _ _ (by simp [hcz]; omega),if_pos (by simp [hcz]; omega)]
     rw [show k * z + j - k * z = j by omega]; simpa using m1
    | succ i =>
     obtain ⟨x',m1,m2⟩ := g4 i u (by simpa using hi) j x hx
     exact ⟨x',by rw [← m1,show k + 1 + i = k + (i + 1) by omega],m2⟩
theorem ok_buildSlice {t e z : Nat} {zr : List HV} (he : ElemAt P t e z zr) {n : Nat} {parts : Array (Nat × Operand)} {xs : List Operand} {vs : List HV} (ho : o.op = .buildSlice t n parts) (hp : parts.toList = xs.zipIdx.map fun p => (p.2,p.1)) (hn : xs.length = n) (hsm : n * z ≤ 65536)
  (hx : Evs a xs.toArray vs) (hz : ∀ v ∈ vs,v.cells.length = z) (hf : ∀ v ∈ vs,∀ u ∈ v.cells,u.flat = true) :
  OpOk P base W0 o a S (S.lit (vs.map HV.cells) z).1.hv (S.lit (vs.map HV.cells) z).2 := by
 refine ⟨by rw [ho]; simp,fun β w a' h h2 => ?_⟩
 obtain ⟨q,zv,q1,q2,q3,q4,q5⟩ := he.info
 have hzp := he.pos
 have hzs : zv.cells.size = z := by rw [← (q5 (fun _ => .none)).1]; exact he.pos.1
 have hvl : vs.length = n := by have := hx.1; simp at this; omega
 have hr : VRels β vs (xs.map a'.eval).toArray := by simpa using hx.rel h2
 obtain ⟨cells',g1,g2,g3,g4⟩ := buildSlice_fill (β := β) (z := z) vs (xs.map a'.eval) 0 ((Array.range (n * z)).map fun i => (if n * z = 0 then #[] else zv.cells)[i % (if n * z = 0 then (#[] : Array Value) else zv.cells).size]!) hr hz (by simp [hvl])
 have hmap : (parts.map fun (i,x) => (i,a'.eval x)).toList = ((xs.map a'.eval).zipIdx 0).map fun p => (p.2,p.1) := by
  rw [Array.toList_map,hp,List.map_map,List.zipIdx_map,List.map_map]
  apply List.map_congr_left
  intro p _
  rfl
 have hsz : cells'.size = n * z := by rw [g2]; simp
 obtain ⟨β',k1,k2,k3⟩ := h.newRows (vs.map HV.cells) cells' e z hzp.2 (by simp [hsz,hvl]) (by
  intro i row hi
  rw [List.getElem?_map] at hi
  cases hv : vs[i]? with
  | none => rw [hv] at hi; cases hi
  | some v =>
   rw [hv] at hi
   cases hi
   have hm : v ∈ vs := List.mem_of_getElem? hv
   refine ⟨hz v hm,fun j u hu => ⟨hf v hm u (List.mem_of_getElem? hu),?_⟩⟩
   obtain ⟨u',m1,m2⟩ := g4 i v hv j u hu
   exact ⟨u',by simpa using m1,m2⟩) (.inl (by simp [hsz,hvl]))
 refine ⟨β',_,.slice (some ⟨w.heap.size,0,none⟩) n n,k1,.inl ?_,?_,by simpa [HS.lit] using k3⟩
 ·have hpow : (2 : Nat) ^ 24 = 16777216 := by decide
  have b1 : ¬ (n * z > 2 ^ 24) := by rw [hpow]; omega
  by_cases hn0 : n * z = 0
  ·have e1 : ∀ cs,Instr.fill (fun i => some (i * z,z)) ((Array.range (n * z)).map fun i => (#[] : Array Value)[i % (#[] : Array Value).size]!) cs = Instr.fill (fun i => some (i * z,z)) ((Array.range (n * z)).map fun i => (if n * z = 0 then #[] else zv.cells)[i % (if n * z = 0 then (#[] : Array Value) else zv.cells).size]!) cs := fun cs => by rw [if_pos hn0]
   simp only [execOp,ho,Instr.buildSlice,Sem.run_bind,underlying,run_program,Result.andThen_ok,he.slice,Sem.run_pure,Go.sizeOf,typeInfo,q1,q2,b1,if_false]
   simp only [hn0,if_true,Sem.run_pure,Sem.run_bind,Result.andThen_ok,hmap]
   rw [hn0] at g1
   simp only [if_true] at g1
   rw [g1]
   simp [newRow]
  ·simp only [execOp,ho,Instr.buildSlice,Sem.run_bind,underlying,run_program,Result.andThen_ok,he.slice,Sem.run_pure,Go.sizeOf,typeInfo,q1,q2,b1,if_false,hn0,zeroValue,q4,hmap]
   simp only [hn0,if_false] at g1
   rw [g1]
   simp [newRow]
 ·simp only [HS.lit,Sl.hv]
  have := VRel.sl (β := β') (off := 0) (len := n) (cap := n) (c := some n) k2 (Nat.le_refl _) (by simp [hvl]) (fun hc => by cases hc) (fun q hq => by cases hq; simp [hvl]) (by simp [hsz])
  simpa [hvl] using this
end
end Go.Proofs.YtfningkbcfhheaaGreatDoor.HL
