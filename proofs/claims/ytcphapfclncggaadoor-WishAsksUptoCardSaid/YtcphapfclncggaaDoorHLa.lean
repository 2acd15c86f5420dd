/- The layer HL, part 1: an abstract heap, values over it, and their relation to the model's World. -/
import Derived.RangeFuncLeaves
import Derived.Below
import Derived.KernelRfl
namespace Go.Proofs.YtcphapfclncggaaDoor.HL
open Go.RowKit (Below)

structure HA where
  id : Nat
  i : Nat
  j : Nat

inductive HV where
  | bool (b : Bool)
  | int (k : IntKind) (n : Int)
  | str (s : List UInt8)
  | ptr (a : Option HA)
  | sl (a : Option (Nat × Nat)) (len : Nat) (c : Option Nat)
  | map (r : Option Nat)
  | fn (f : Fn) (first cap : List HV)
  | nilFn
  | agg (cs : List HV)
  | tup (vs : List HV)
  | nilIf
  | junk

structure LInfo where
  fn : FuncId
  tmps : Array Value
  params : Array Tmp
  assign : Code
  body : Code
  defers : Nat

inductive Tgt where
  | none
  | mem (b o z n tot : Nat)
  | obj (b : Nat)
  | loop (b : Nat) (L : LInfo)

def Tgt.block : Tgt → Option Nat
  | .none => Option.none
  | .mem b _ _ _ _ => some b
  | .obj b => some b
  | .loop b _ => some b

abbrev Bt := Nat → Tgt

def Le (β β' : Bt) : Prop := ∀ id, β id ≠ .none → β' id = β id
theorem Le.refl (β : Bt) : Le β β := fun _ _ => rfl
theorem Le.trans {a b c : Bt} (h : Le a b) (k : Le b c) : Le a c := fun id hid => by
  have h1 := h id hid
  rw [← h1]; exact k id (by rw [h1]; exact hid)
theorem Le.eq {a b : Bt} (h : Le a b) {id : Nat} {t : Tgt} (ht : a id = t) (hn : t ≠ .none) : b id = t := by
  rw [h id (by rw [ht]; exact hn), ht]

inductive VRel (β : Bt) : HV → Value → Prop
  | bool (b : Bool) : VRel β (.bool b) (.bool b)
  | int (k : IntKind) (n : Int) : VRel β (.int k n) (.int k n)
  | str (s : List UInt8) : VRel β (.str s) (.string ⟨s.toArray⟩)
  | ptrNil : VRel β (.ptr none) (.pointer none)
  | ptr {id b o z n tot i j : Nat} (h : β id = .mem b o z n tot) : VRel β (.ptr (some ⟨id, i, j⟩)) (.pointer (some ⟨b, o + i * z + j, none⟩))
  | slNil (c : Option Nat) : VRel β (.sl none 0 c) (.slice none 0 0)
  | sl {id b o z n tot off len cap : Nat} {c : Option Nat} (h : β id = .mem b o z n tot) (h1 : len ≤ cap) (h2 : off + len ≤ n)
      (h3 : c = none → n ≤ off + cap) (h4 : ∀ q, c = some q → cap = q ∧ off + q ≤ n) (h5 : o + (off + cap) * z ≤ tot) :
      VRel β (.sl (some (id, off)) len c) (.slice (some ⟨b, o + off * z, none⟩) len cap)
  | slEnd {id b o z n tot off : Nat} {c : Option Nat} {ad : Addr} (h : β id = .mem b o z n tot) (h2 : off ≤ n) (h3 : c = none → n ≤ off) (h4 : ∀ q, c = some q → q = 0) :
      VRel β (.sl (some (id, off)) 0 c) (.slice (some ad) 0 0)
  | mapNil : VRel β (.map none) (.map none)
  | map {r b : Nat} (h : β r = .obj b) : VRel β (.map (some r)) (.map (some b))
  | fn {f : FuncId} {first cap : List HV} {first' cap' : Array Value} (h1 : first.length = first'.size)
      (h2 : ∀ (i : Nat) (v : HV) (v' : Value), first[i]? = some v → first'[i]? = some v' → VRel β v v') (h3 : cap.length = cap'.size)
      (h4 : ∀ (i : Nat) (v : HV) (v' : Value), cap[i]? = some v → cap'[i]? = some v' → VRel β v v') : VRel β (.fn (.func f) first cap) (.func (.func f) first' cap')
  | yld {l b : Nat} {L : LInfo} (h : β l = .loop b L) : VRel β (.fn (.yield l) [] []) (.func (.yield b) #[] #[])
  | nilFn : VRel β .nilFn .nilFunc
  | agg {cs : List HV} {cs' : Array Value} (h1 : cs.length = cs'.size) (h2 : ∀ (i : Nat) (v : HV) (v' : Value), cs[i]? = some v → cs'[i]? = some v' → VRel β v v') : VRel β (.agg cs) (.agg cs')
  | tup {cs : List HV} {cs' : Array Value} (h1 : cs.length = cs'.size) (h2 : ∀ (i : Nat) (v : HV) (v' : Value), cs[i]? = some v → cs'[i]? = some v' → VRel β v v') : VRel β (.tup cs) (.tuple cs')
  | nilIf : VRel β .nilIf .nilIface
  | junk {v' : Value} (h : v'.oneCell' = true) : VRel β .junk v'

theorem one_cells {v : Value} (h : v.oneCell' = true) : v.cells = #[v] := by
  cases v <;> simp [Value.oneCell'] at h <;> rfl

theorem VRel.mono {β β' : Bt} (hb : Le β β') {v : HV} {v' : Value} (h : VRel β v v') : VRel β' v v' := by
  induction h with
  | bool b => exact .bool b
  | int k n => exact .int k n
  | str s => exact .str s
  | ptrNil => exact .ptrNil
  | ptr h => exact .ptr (hb.eq h (by simp))
  | slNil c => exact .slNil c
  | sl h h1 h2 h3 h4 h5 => exact .sl (hb.eq h (by simp)) h1 h2 h3 h4 h5
  | slEnd h h2 h3 h4 => exact .slEnd (hb.eq h (by simp)) h2 h3 h4
  | mapNil => exact .mapNil
  | map h => exact .map (hb.eq h (by simp))
  | fn h1 _ h3 _ ih1 ih2 => exact .fn h1 ih1 h3 ih2
  | yld h => exact .yld (hb.eq h (by simp))
  | nilFn => exact .nilFn
  | agg h1 _ ih => exact .agg h1 ih
  | tup h1 _ ih => exact .tup h1 ih
  | nilIf => exact .nilIf
  | junk h => exact .junk h

/-- Lists of values, place by place. -/
def VRels (β : Bt) (vs : List HV) (vs' : Array Value) : Prop := vs.length = vs'.size ∧ ∀ (i : Nat) (v : HV) (v' : Value), vs[i]? = some v → vs'[i]? = some v' → VRel β v v'
theorem VRels.mono {β β' : Bt} (hb : Le β β') {vs : List HV} {vs' : Array Value} (h : VRels β vs vs') : VRels β' vs vs' :=
  ⟨h.1, fun i v v' h1 h2 => (h.2 i v v' h1 h2).mono hb⟩
theorem VRels.nil (β : Bt) : VRels β [] #[] := ⟨rfl, fun i v v' h => by simp at h⟩
theorem VRels.cons {β : Bt} {v : HV} {v' : Value} {vs : List HV} {vs' : List Value} (h : VRel β v v') (k : VRels β vs vs'.toArray) : VRels β (v :: vs) (v' :: vs').toArray := by
  refine ⟨by have := k.1; simp at this ⊢; exact this, fun i x x' h1 h2 => ?_⟩
  cases i with
  | zero => simp at h1 h2; subst h1; subst h2; exact h
  | succ i => simp at h1 h2; exact k.2 i x x' h1 (by simpa using h2)
theorem VRels.get {β : Bt} {vs : List HV} {vs' : Array Value} (h : VRels β vs vs') {i : Nat} {v : HV} (hv : vs[i]? = some v) : ∃ v', vs'[i]? = some v' ∧ VRel β v v' := by
  have hlt : i < vs.length := by
    rcases Nat.lt_or_ge i vs.length with h1 | h1
    · exact h1
    · rw [List.getElem?_eq_none h1] at hv; cases hv
  have h2 : vs'[i]? = some (vs'[i]'(h.1 ▸ hlt)) := by simp
  exact ⟨_, h2, h.2 i v _ hv h2⟩
theorem VRels.append {β : Bt} {vs ws : List HV} {vs' ws' : Array Value} (h : VRels β vs vs') (k : VRels β ws ws') : VRels β (vs ++ ws) (vs' ++ ws') := by
  refine ⟨by simp [h.1, k.1], fun i v v' h1 h2 => ?_⟩
  rw [List.getElem?_append] at h1
  rw [Array.getElem?_append] at h2
  split at h1
  · rename_i hi; rw [if_pos (h.1 ▸ hi)] at h2; exact h.2 i v v' h1 h2
  · rename_i hi; rw [if_neg (h.1 ▸ hi)] at h2; rw [h.1] at h1; exact k.2 _ v v' h1 h2
theorem VRels.set {β : Bt} {vs : List HV} {vs' : Array Value} (h : VRels β vs vs') {v : HV} {v' : Value} (hv : VRel β v v') (t : Nat) : VRels β (vs.set t v) (vs'.setIfInBounds t v') := by
  refine ⟨by simp [h.1], fun i x x' h1 h2 => ?_⟩
  rw [List.getElem?_set] at h1
  rw [Array.getElem?_setIfInBounds] at h2
  split at h1
  · rename_i e; subst e
    split at h1
    · rename_i hlt
      rw [if_pos rfl, if_pos (h.1 ▸ hlt)] at h2
      cases h1; cases h2; exact hv
    · cases h1
  · rename_i e; rw [if_neg e] at h2; exact h.2 i x x' h1 h2
theorem VRels.replicate {β : Bt} {v : HV} {v' : Value} (h : VRel β v v') (n : Nat) : VRels β (List.replicate n v) (Array.replicate n v') := by
  refine ⟨by simp, fun i x x' h1 h2 => ?_⟩
  simp [List.getElem?_replicate] at h1
  simp [Array.getElem?_replicate] at h2
  rw [← h1.2, ← h2.2]; exact h
theorem VRels.tup {β : Bt} {vs : List HV} {vs' : Array Value} (h : VRels β vs vs') : VRel β (.tup vs) (.tuple vs') := .tup h.1 h.2
theorem VRels.agg {β : Bt} {vs : List HV} {vs' : Array Value} (h : VRels β vs vs') : VRel β (.agg vs) (.agg vs') := .agg h.1 h.2
theorem VRel.undef (β : Bt) : VRel β (.tup []) undef := VRels.tup (VRels.nil β)

/-- The cells that a value takes. -/
def HV.cells : HV → List HV
  | .agg cs => cs
  | v => [v]
theorem VRel.cells {β : Bt} {v : HV} {v' : Value} (h : VRel β v v') : VRels β v.cells v'.cells := by
  cases h with
  | agg h1 h2 => exact ⟨h1, h2⟩
  | bool b => exact VRels.cons (.bool b) (VRels.nil β)
  | int k n => exact VRels.cons (.int k n) (VRels.nil β)
  | str s => exact VRels.cons (.str s) (VRels.nil β)
  | ptrNil => exact VRels.cons .ptrNil (VRels.nil β)
  | ptr h => exact VRels.cons (.ptr h) (VRels.nil β)
  | slNil c => exact VRels.cons (.slNil c) (VRels.nil β)
  | sl h h1 h2 h3 h4 h5 => exact VRels.cons (.sl h h1 h2 h3 h4 h5) (VRels.nil β)
  | slEnd h h2 h3 h4 => exact VRels.cons (.slEnd h h2 h3 h4) (VRels.nil β)
  | mapNil => exact VRels.cons .mapNil (VRels.nil β)
  | map h => exact VRels.cons (.map h) (VRels.nil β)
  | fn h1 h2 h3 h4 => exact VRels.cons (.fn h1 h2 h3 h4) (VRels.nil β)
  | yld h => exact VRels.cons (.yld h) (VRels.nil β)
  | nilFn => exact VRels.cons .nilFn (VRels.nil β)
  | tup h1 h2 => exact VRels.cons (.tup h1 h2) (VRels.nil β)
  | nilIf => exact VRels.cons .nilIf (VRels.nil β)
  | junk h => rw [one_cells h]; exact VRels.cons (.junk h) (VRels.nil β)

def HV.flat : HV → Bool
  | .agg _ => false
  | .tup _ => false
  | _ => true

/-! ### The heap -/
inductive HObj where
  | dead
  | cells (z : Nat) (rows : List (List HV)) (own : Bool)
  | map (es : List (HV × HV))
  | loop (st : LoopState) (pend : Option Code)
  | defer

structure HS where
  heap : Nat → HObj
  next : Nat
  /-- may it be marked as a text's bytes? -/
  mrk : Nat → Nat := fun _ => 0

def HS.put (S : HS) (id : Nat) (o : HObj) : HS := { S with heap := fun i => if i = id then o else S.heap i }
def HS.newM (S : HS) (o : HObj) (m : Nat) : HS := { heap := fun i => if i = S.next then o else S.heap i, next := S.next + 1, mrk := fun i => if i = S.next then m else S.mrk i }
def HS.new (S : HS) (o : HObj) : HS := S.newM o 0
def HObj.alive : HObj → Bool
  | .dead => false
  | _ => true
/-- Shared with nobody. -/
def HObj.own : HObj → Bool
  | .dead => false
  | .cells _ _ b => b
  | _ => true

def RowsRel (β : Bt) (rows : List (List HV)) (arr : Array Value) (o z : Nat) : Prop :=
  ∀ (i : Nat) (row : List HV), rows[i]? = some row → row.length = z ∧ ∀ (j : Nat) (v : HV), row[j]? = some v → v.flat = true ∧ ∃ v', arr[o + i * z + j]? = some v' ∧ VRel β v v'
theorem RowsRel.mono {β β' : Bt} (hb : Le β β') {rows : List (List HV)} {arr : Array Value} {o z : Nat} (h : RowsRel β rows arr o z) : RowsRel β' rows arr o z :=
  fun i row hr => ⟨(h i row hr).1, fun j v hv => let ⟨h0, v', h1, h2⟩ := (h i row hr).2 j v hv; ⟨h0, v', h1, h2.mono hb⟩⟩

def EntRel (β : Bt) (es : List (HV × HV)) (es' : Array MapEntry) : Prop :=
  es.length = es'.size ∧ ∀ (i : Nat) (k v : HV) (e : MapEntry), es[i]? = some (k, v) → es'[i]? = some e → VRel β k e.key ∧ VRel β v e.val
theorem EntRel.mono {β β' : Bt} (hb : Le β β') {es : List (HV × HV)} {es' : Array MapEntry} (h : EntRel β es es') : EntRel β' es es' :=
  ⟨h.1, fun i k v e h1 h2 => ⟨(h.2 i k v e h1 h2).1.mono hb, (h.2 i k v e h1 h2).2.mono hb⟩⟩

def LInfo.obj (L : LInfo) (st : LoopState) (pend : Option Code) : Obj :=
  .loop { state := st, pending := pend, fn := L.fn, tmps := L.tmps, params := L.params, assign := L.assign, body := L.body, defers := L.defers }

/-- What a mark says of a block: 1: a text's bytes may be among its cells; e + 2: it is of type e, and none are. -/
def MkOk (mk : Nat) (t : TypeId) (fr : Nat × Nat) (o : Nat) : Prop := (mk ≠ 1 → fr.2 ≤ fr.1) ∧ ∀ e, mk = e + 2 → t = e ∧ o = 0
def MkLe (a b : Nat) : Prop := (a ≠ 1 → b ≠ 1) ∧ ∀ e, a = e + 2 → b = e + 2
theorem MkOk.zero {t : TypeId} {fr : Nat × Nat} {o : Nat} (h : fr.2 ≤ fr.1) : MkOk 0 t fr o := ⟨fun _ => h, fun e he => by omega⟩
theorem MkOk.one {t : TypeId} {fr : Nat × Nat} {o : Nat} : MkOk 1 t fr o := ⟨fun h => absurd rfl h, fun e he => by omega⟩
theorem MkOk.typed {t : Nat} {fr : Nat × Nat} (h : fr.2 ≤ fr.1) : MkOk (t + 2) t fr 0 := ⟨fun _ => h, fun e he => ⟨Nat.add_right_cancel (m := 2) he, rfl⟩⟩
theorem MkOk.le {a b : Nat} {t : TypeId} {fr : Nat × Nat} {o : Nat} (h : MkOk b t fr o) (hl : MkLe a b) : MkOk a t fr o := ⟨fun g => h.1 (hl.1 g), fun e he => h.2 e (hl.2 e he)⟩
theorem MkLe.refl (a : Nat) : MkLe a a := ⟨id, fun _ h => h⟩
theorem MkLe.of_lt {a b : Nat} (h : a < 2) (hb : a ≠ 1 → b ≠ 1) : MkLe a b := ⟨hb, fun e he => by omega⟩
/-- A mark without its type. -/
def mfg (m : Nat) : Nat := if m = 1 then 1 else 0
theorem mfg_le (m : Nat) : MkLe (mfg m) m := by
  unfold mfg
  split
  · rename_i h; subst h; exact .refl 1
  · rename_i h; exact .of_lt (by omega) fun _ => h
theorem MkOk.mfgOk {m : Nat} {t : TypeId} {fr : Nat × Nat} {o o' : Nat} (h : MkOk m t fr o) : MkOk (mfg m) t fr o' := by
  unfold mfg
  split
  · exact .one
  · rename_i g; exact .zero (h.1 g)
theorem mfg_lt (m : Nat) : mfg m < 2 := by unfold mfg; split <;> omega
def ObjRel (base : Nat) (β : Bt) (w : World) (id : Nat) (mk : Nat) : HObj → Prop
  | .dead => True
  | .cells z rows own => ∃ b o tot arr t fr, β id = .mem b o z rows.length tot ∧ w.heap[b]? = some (.cells arr t fr) ∧ arr.size = tot ∧ o + rows.length * z ≤ tot ∧
      0 < z ∧ RowsRel β rows arr o z ∧ (own = true → base ≤ b ∧ (∀ i, i < tot → ¬ (fr.1 ≤ i ∧ i < fr.2)) ∧ (∀ v' ∈ arr.toList, v'.oneCell' = true) ∧ MkOk mk t fr o)
  | .map es => ∃ b es' clk, β id = .obj b ∧ base ≤ b ∧ w.heap[b]? = some (.map es' clk) ∧ EntRel β es es'
  | .loop st pend => ∃ b L, β id = .loop b L ∧ base ≤ b ∧ w.heap[b]? = some (L.obj st pend)
  | .defer => ∃ b, β id = .obj b ∧ base ≤ b ∧ w.heap[b]? = some (.deferred (some []))

structure Rel (base : Nat) (W0 : World) (β : Bt) (S : HS) (w : World) : Prop where
  below : Below base W0 w
  size : base ≤ w.heap.size
  fresh : ∀ id, S.next ≤ id → β id = .none ∧ S.heap id = .dead
  lt : ∀ id b, (β id).block = some b → b < w.heap.size
  objs : ∀ id, ObjRel base β w id (S.mrk id) (S.heap id)
  disj : ∀ id id' b, id ≠ id' → (S.heap id).own = true → (S.heap id').alive = true → (β id).block = some b → (β id').block ≠ some b

/-! ### Frames -/
structure HAct where
  tmps : List HV
  defers : List Nat
def HAct.put (a : HAct) (dst : Option Tmp) (v : HV) : HAct :=
  match dst with
  | some d => { a with tmps := a.tmps.set d v }
  | none => a

def DRel (β : Bt) (ds : List Nat) (ds' : List Deferred) : Prop :=
  ds.length = ds'.length ∧ ∀ (i : Nat) (d : Nat) (d' : Deferred), ds[i]? = some d → ds'[i]? = some d' → ∃ b, β d = .obj b ∧ d'.target = .collected b
theorem DRel.mono {β β' : Bt} (hb : Le β β') {ds : List Nat} {ds' : List Deferred} (h : DRel β ds ds') : DRel β' ds ds' :=
  ⟨h.1, fun i d d' h1 h2 => let ⟨b, h3, h4⟩ := h.2 i d d' h1 h2; ⟨b, hb.eq h3 (by simp), h4⟩⟩

structure ARel (β : Bt) (a : HAct) (a' : Act) : Prop where
  tmps : VRels β a.tmps a'.tmps
  defers : DRel β a.defers a'.defers
theorem ARel.mono {β β' : Bt} (hb : Le β β') {a : HAct} {a' : Act} (h : ARel β a a') : ARel β' a a' := ⟨h.tmps.mono hb, h.defers.mono hb⟩
theorem ARel.put {β : Bt} {a : HAct} {a' : Act} (h : ARel β a a') {v : HV} {v' : Value} (hv : VRel β v v') (d : Option Tmp) : ARel β (a.put d v) (a'.put d v') := by
  cases d with
  | none => exact h
  | some d => exact ⟨h.tmps.set hv d, h.defers⟩

/-- What an operand comes to. -/
inductive Ev (a : HAct) : Operand → HV → Prop
  | tmp {t : Tmp} {v : HV} (h : a.tmps[t]? = some v) : Ev a (.tmp t) v
  | const {c : Value} {v : HV} (h : ∀ β, VRel β v c) : Ev a (.const c) v
  | func (f : FuncId) : Ev a (.func f) (.fn (.func f) [] [])
theorem Ev.rel {β : Bt} {a : HAct} {a' : Act} (h : ARel β a a') {x : Operand} {v : HV} (e : Ev a x v) : VRel β v (a'.eval x) := by
  cases e with
  | @tmp t _ ht =>
    obtain ⟨v', h1, h2⟩ := h.tmps.get ht
    have : a'.eval (.tmp t) = v' := by simp [Act.eval, Array.getD_eq_getD_getElem?, h1]
    rw [this]; exact h2
  | const hc => exact hc β
  | func f => exact .fn rfl (fun i v v' h => by simp at h) rfl (fun i v v' h => by simp at h)
theorem Ev.int {a : HAct} (k : IntKind) (n : Int) : Ev a (.const (.int k n)) (.int k n) := .const fun _ => .int k n
theorem Ev.bool {a : HAct} (b : Bool) : Ev a (.const (.bool b)) (.bool b) := .const fun _ => .bool b
theorem Ev.str {a : HAct} (s : List UInt8) : Ev a (.const (.string ⟨s.toArray⟩)) (.str s) := .const fun _ => .str s

end Go.Proofs.YtcphapfclncggaaDoor.HL
