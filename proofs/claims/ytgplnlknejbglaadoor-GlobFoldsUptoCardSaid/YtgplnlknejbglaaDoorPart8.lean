/- The layer HL, part 24: maps. The layer HL, part 25: slices in the rows of a slice that is an argument. The layer HL, part 26: short words for printed proofs. -/
import Derived.Laws.StructEq
import Derived.Test.YtgplnlknejbglaaDoorPart7
set_option linter.unusedVariables false
set_option linter.unusedSimpArgs false
namespace Go.Proofs.YtgplnlknejbglaaDoor.HL
open Go.RowKit (Below)
/-- Are two keys one? -/
def kSame1 : HV → HV → Option Bool
 | .int k a,.int k' b => if k = k' then some (a == b) else none
 | .str a,.str b => some (a == b)
 | .bool a,.bool b => some (a == b)
 | _,_ => none
def kSames : List HV → List HV → Option Bool
 | [],[] => some true
 | a :: as,b :: bs => match kSame1 a b with
  | some true => kSames as bs
  | some false => some false
  | none => none
 | _,_ => none
def kSame : HV → HV → Option Bool
 | .agg xs,.agg ys => kSames xs ys
 | a,b => kSame1 a b
def mfind (k : HV) : List (HV × HV) → Nat → Option (Option (Nat × HV))
 | [],_ => some none
 | (k',v) :: es,i =>
  match kSame k k' with
  | some true => some (some (i,v))
  | some false => mfind k es (i + 1)
  | none => none
def HS.mp (S : HS) (r : Option Nat) : Option (List (HV × HV)) :=
 match r with
 | none => some []
 | some r => match S.heap r with | .map es => some es | _ => none
def HS.look (S : HS) (r : Option Nat) (k : HV) : Option (Option HV) := (S.mp r).bind fun es => (mfind k es 0).map fun x => x.map (·.2)
section
variable {P : Program} {base : Nat} {W0 : World} {a : HAct} {S : HS} {o : Oper} {β : Bt}
/-- A scalar key of a plain type. -/
def PK (P : Program) (t : TypeId) (k : HV) : Prop :=
 ∃ d,P.underlying t = some d ∧ match d,k with | .int _,.int _ _ => True | .string,.str _ => True | .bool,.bool _ => True | _,_ => False
theorem PK.isAgg {t : TypeId} {k : HV} (h : PK P t k) (w : World) : (isAgg t).run P w = .ok false w := by
 obtain ⟨d,h1,h2⟩ := h
 cases d <;> first | (cases k <;> exact h2.elim) | simp [Go.isAgg,underlying,h1]
theorem PK.part {t : TypeId} {k : HV} (h : PK P t k) {cs : Array Value} {n : Nat} {v : Value} (hv : cs[n]? = some v) (w : World) : (part t cs n).run P w = .ok v w := by
 simp [Go.part,h.isAgg w,hv]
theorem EntRel.tail {e : HV × HV} {es : List (HV × HV)} {e' : MapEntry} {es' : List MapEntry} (h : EntRel β (e :: es) (e' :: es').toArray) : (VRel β e.1 e'.key ∧ VRel β e.2 e'.val) ∧ EntRel β es es'.toArray := by
 refine ⟨h.2 0 e.1 e.2 e' rfl rfl,⟨by have := h.1; simp at this ⊢; exact this,fun i k v x h1 h2 => h.2 (i + 1) k v x (by simpa using h1) (by simpa using h2)⟩⟩
theorem EntRel.set {es : List (HV × HV)} {es' : Array MapEntry} (h : EntRel β es es') {k v : HV} {x : MapEntry → MapEntry} {kv vv : Value} (h1 : VRel β k kv) (h2 : VRel β v vv) (hx : ∀ e,(x e).key = kv ∧ (x e).val = vv) (i : Nat) : EntRel β (es.set i (k,v)) (es'.modify i x) := by
 refine ⟨by simp [h.1],fun j k2 v2 e q1 q2 => ?_⟩
 rw [List.getElem?_set] at q1
 rw [Array.getElem?_modify] at q2
 by_cases hij : i = j
 ·subst hij
  rw [if_pos rfl] at q1
  split at q1
  ·cases q1
   rw [if_pos rfl] at q2
   cases he : es'[i]? with
   | none => rw [he] at q2; cases q2
   | some e0 =>
    rw [he] at q2
    simp only [Option.map_some,Option.some.injEq] at q2
    subst q2
    rw [(hx e0).1,(hx e0).2]
    exact ⟨h1,h2⟩
  ·cases q1
 ·rw [if_neg hij] at q1 q2
  exact h.2 j k2 v2 e q1 q2
theorem EntRel.push {es : List (HV × HV)} {es' : Array MapEntry} (h : EntRel β es es') {k v : HV} {e : MapEntry} (h1 : VRel β k e.key) (h2 : VRel β v e.val) : EntRel β (es ++ [(k,v)]) (es'.push e) := by
 refine ⟨by simp [h.1],fun j k2 v2 x q1 q2 => ?_⟩
 rw [List.getElem?_append] at q1
 rw [Array.getElem?_push] at q2
 split at q1
 ·rename_i hlt
  rw [if_neg (by have := h.1; omega)] at q2
  exact h.2 j k2 v2 x q1 q2
 ·rename_i hge
  have hl : j - es.length < 1 := by
   have := (List.getElem?_eq_some_iff.1 q1).1
   simpa using this
  have hj : j = es'.size := by have := h.1; omega
  rw [if_pos hj] at q2
  cases q2
  rw [show j - es.length = 0 by omega] at q1
  simp only [List.getElem?_cons_zero,Option.some.injEq,Prod.mk.injEq] at q1
  obtain ⟨rfl,rfl⟩ := q1
  exact ⟨h1,h2⟩
end
end Go.Proofs.YtgplnlknejbglaaDoor.HL
namespace Go.Proofs.YtgplnlknejbglaaDoor.HL
open Go.RowKit Go.ChangeShapes Go.WideShapes Go.ChangeAt
/-! ### rows with slices in them -/
/-- Where the inner slices' blocks are. -/
def InB (m : Nat) (itg : List Tgt) (β : Bt) : Prop := ∀ (j : Nat) (t : Tgt),itg[j]? = some t → β (m + j) = t
def InS (m : Nat) (inner : List AObj) (S : HS) : Prop := (∀ (j : Nat) (x : AObj),inner[j]? = some x → S.heap (m + j) = objOf x) ∧ m + inner.length ≤ S.next
def InOk (W : World) (inner : List AObj) (itg : List Tgt) : Prop := inner.length = itg.length ∧ ∀ (i : Nat) (x : AObj) (t : Tgt),inner[i]? = some x → itg[i]? = some t → ArgOk W x t
theorem InOk.app {W : World} {a b : List AObj} {s t : List Tgt} (h : InOk W a s) (k : InOk W b t) : InOk W (a ++ b) (s ++ t) := by
 refine ⟨by simp [h.1,k.1],fun i x u h1 h2 => ?_⟩
 have e := h.1
 by_cases hi : i < a.length
 ·rw [List.getElem?_append_left hi] at h1
  rw [List.getElem?_append_left (by omega)] at h2
  exact h.2 i x u h1 h2
 ·rw [List.getElem?_append_right (by omega)] at h1
  rw [List.getElem?_append_right (by omega),← e] at h2
  exact k.2 _ x u h1 h2
theorem InB.left {m : Nat} {s t : List Tgt} {β : Bt} (h : InB m (s ++ t) β) : InB m s β := fun j u hj => h j u (by rw [List.getElem?_append_left (List.getElem?_eq_some_iff.1 hj).1]; exact hj)
theorem InB.right {m : Nat} {s t : List Tgt} {β : Bt} (h : InB m (s ++ t) β) : InB (m + s.length) t β := fun j u hj => by
 have := h (s.length + j) u (by rw [List.getElem?_append_right (by omega)]; simpa using hj)
 rw [Nat.add_assoc]; exact this
theorem InS.left {m : Nat} {a b : List AObj} {S : HS} (h : InS m (a ++ b) S) : InS m a S := ⟨fun j x hj => h.1 j x (by rw [List.getElem?_append_left (List.getElem?_eq_some_iff.1 hj).1]; exact hj),by have := h.2; rw [List.length_append] at this; omega⟩
theorem InS.right {m : Nat} {a b : List AObj} {S : HS} (h : InS m (a ++ b) S) : InS (m + a.length) b S := ⟨fun j x hj => by
 have := h.1 (a.length + j) x (by rw [List.getElem?_append_right (by omega)]; simpa using hj)
 rw [Nat.add_assoc]; exact this,by have := h.2; rw [List.length_append] at this; omega⟩
inductive ArgOkB (W : World) (B : Bt → Prop) : AObj → Tgt → Prop
 | none : ArgOkB W B none .none
 | mem {z : Nat} {rows : List (List HV)} {b o : Nat} {arr : Array Value} {ty : TypeId} {fr : Nat × Nat} (h : W.heap[b]? = some (.cells arr ty fr)) (h1 : o + rows.length * z ≤ arr.size) (hz : 0 < z) (hr : ∀ β,B β → RowsRel β rows arr o z) : ArgOkB W B (some (z,rows)) (.mem b o z rows.length arr.size)
theorem ArgOk.B {W : World} {B : Bt → Prop} {x : AObj} {t : Tgt} (h : ArgOk W x t) : ArgOkB W B x t := by
 cases h with
 | none => exact .none
 | mem q1 q2 q3 q4 => exact .mem q1 q2 q3 fun β _ => q4 β
end Go.Proofs.YtgplnlknejbglaaDoor.HL
namespace Go.Proofs.YtgplnlknejbglaaDoor.HL
set_option linter.unusedVariables false
abbrev τ : HV := .tup []
def kA : Code → Code
 | .seq x _ => x
 | .cond _ x _ => x
 | .block _ x => x
 | .loop x => x
 | .scope x => x
 | .rangeFunc _ _ x _ => x
 | _ => .skip
def kB : Code → Code
 | .seq _ x => x
 | .cond _ _ x => x
 | .rangeFunc _ _ _ x => x
 | _ => .skip
def kR : Code → Array Oper
 | .region _ x _ => x
 | _ => #[]
theorem w0 {a : HAct} {v : HV} : a.put none v = a := rfl
theorem w1 {l : List HV} {ds : List Nat} {d : Tmp} {v : HV} : (⟨l,ds⟩ : HAct).put (some d) v = ⟨l.set d v,ds⟩ := rfl
theorem w2 {a b : HV} {l : List HV} : (a :: l).set 0 b = b :: l := rfl
theorem w3 {a b : HV} {l : List HV} {n : Nat} : (a :: l).set (n + 1) b = a :: l.set n b := rfl
section
variable {P : Program} {base : Nat} {W0 : World} {β0 : Bt} {f : FuncId} {ro : Option Nat} {k : List Item} {a : HAct} {S S' : HS} {R : HV → HS → Prop} {ops : Array Oper} {i j : Nat} {rest : List Nat} {op : Op} {v : HV} {b c : Bool} {cls : List Nat}
theorem qS (d : Tmp) (ho : OpAt ops i (some d) op none) (hop : ∀ {o : Oper},o.op = op → OpOk P base W0 o a S v S') (h : HRun P base W0 β0 f ro (.inRegion ops rest :: k) (a.put (some d) v) S' R) : HRun P base W0 β0 f ro (.inRegion ops (i :: rest) :: k) a S R := q_op ho (fun _ => hop) h
theorem qN (ho : OpAt ops i none op none) (hop : ∀ {o : Oper},o.op = op → OpOk P base W0 o a S v S') (h : HRun P base W0 β0 f ro (.inRegion ops rest :: k) a S' R) : HRun P base W0 β0 f ro (.inRegion ops (i :: rest) :: k) a S R := q_op ho (fun _ => hop) h
theorem qG (t d : Tmp) (ho : OpAt ops i (some d) op (some (j,b))) (hc : c = b) (hop : ∀ {o : Oper},o.op = op → OpOk P base W0 o a S v S') (h : HRun P base W0 β0 f ro (.inRegion ops rest :: k) (a.put (some d) v) S' R) (hj : GuardAt ops j t := by rfl) (hb : a.tmps[t]? = some (.bool c) := by rfl) :
  HRun P base W0 β0 f ro (.inRegion ops (i :: rest) :: k) a S R := q_op_g ho hj hb hc (fun _ => hop) h
abbrev NoSel (op : Op) : Prop := ∀ cs b,op ≠ .select cs b
variable {past : List (Nat × HS)} {pend : List (Nat × (HS → Prop))}
theorem yf (d : Tmp) (ts : List Tmp) (ho : OpAt ops i (some d) op none) (hop : ∀ {o : Oper} {T : HS},o.op = op → OpOk P base W0 o (a.mask ts) T v T) (h : DrawGo2 P base W0 β0 f ro k ops cls (i + 1) (a.put (some d) v) S R)
  (hs : NoSel op := by intro _ _ h; cases h) (hl : ((ops[i]?).map (fun o => o.looksAt ops)) = some ts := by kernel_rfl) (hc : cls.getD i 0 = 0 := by rfl) (h3 : cls.all (· != 3) = true := by decide) : DrawGo2 P base W0 β0 f ro k ops cls i a S R := x_go (f_op ho hs hl (fun _ _ => hop)) hc h h3
theorem yr (d : Tmp) (ts : List Tmp) (ho : OpAt ops i (some d) op none) (hop : ∀ {o : Oper},o.op = op → OpOk P base W0 o (a.mask ts) S v S) (h : DrawGo2 P base W0 β0 f ro k ops cls (i + 1) (a.put (some d) v) S R)
  (hs : NoSel op := by intro _ _ h; cases h) (hl : ((ops[i]?).map (fun o => o.looksAt ops)) = some ts := by kernel_rfl) (hc : cls.getD i 0 = 1 := by rfl) (h3 : cls.all (· != 3) = true := by decide) : DrawGo2 P base W0 β0 f ro k ops cls i a S R := x_go (r_op ho hs hl (fun _ => hop)) hc h h3
theorem ye (d : Tmp) (ts : List Tmp) (ho : OpAt ops i (some d) op none) (hop : ∀ {o : Oper},o.op = op → OpOk P base W0 o (a.mask ts) S v S') (h : DrawGo2 P base W0 β0 f ro k ops cls (i + 1) (a.put (some d) v) S' R)
  (hs : NoSel op := by intro _ _ h; cases h) (hl : ((ops[i]?).map (fun o => o.looksAt ops)) = some ts := by kernel_rfl) (hc : cls.getD i 0 = 2 := by rfl) (h3 : cls.all (· != 3) = true := by decide) : DrawGo2 P base W0 β0 f ro k ops cls i a S R := x_go (e_op ho hs hl (fun _ => hop)) hc h h3
theorem yfg (d t : Tmp) (ts : List Tmp) (ho : OpAt ops i (some d) op (some (j,b))) (hcb : c = b) (hop : ∀ {o : Oper} {T : HS},o.op = op → OpOk P base W0 o (a.mask ts) T v T) (h : DrawGo2 P base W0 β0 f ro k ops cls (i + 1) (a.put (some d) v) S R)
  (hs : NoSel op := by intro _ _ h; cases h) (hl : ((ops[i]?).map (fun o => o.looksAt ops)) = some ts := by kernel_rfl) (hj : GuardAt ops j t := by rfl) (hb : (a.mask ts).tmps[t]? = some (.bool c) := by rfl) (hc : cls.getD i 0 = 0 := by rfl) (h3 : cls.all (· != 3) = true := by decide) : DrawGo2 P base W0 β0 f ro k ops cls i a S R := x_go (f_op_g ho hs hl hj hb hcb (fun _ _ => hop)) hc h h3
theorem yfs (d t : Tmp) (ts : List Tmp) (ho : OpAt ops i (some d) op (some (j,b))) (hcb : c = !b) (h : DrawGo2 P base W0 β0 f ro k ops cls (i + 1) (a.put (some d) (.tup [])) S R)
  (hl : ((ops[i]?).map (fun o => o.looksAt ops)) = some ts := by kernel_rfl) (hj : GuardAt ops j t := by rfl) (hb : (a.mask ts).tmps[t]? = some (.bool c) := by rfl) (hc : cls.getD i 0 = 0 := by rfl) (h3 : cls.all (· != 3) = true := by decide) : DrawGo2 P base W0 β0 f ro k ops cls i a S R := x_go (f_skip ho hl hj hb hcb) hc h h3
theorem yes (d t : Tmp) (ts : List Tmp) (ho : OpAt ops i (some d) op (some (j,b))) (hcb : c = !b) (h : DrawGo2 P base W0 β0 f ro k ops cls (i + 1) (a.put (some d) (.tup [])) S R)
  (hl : ((ops[i]?).map (fun o => o.looksAt ops)) = some ts := by kernel_rfl) (hj : GuardAt ops j t := by rfl) (hb : (a.mask ts).tmps[t]? = some (.bool c) := by rfl) (hc : cls.getD i 0 = 2 := by rfl) (h3 : cls.all (· != 3) = true := by decide) : DrawGo2 P base W0 β0 f ro k ops cls i a S R := x_go (e_skip ho hl hj hb hcb) hc h h3
section
variable {P : Program} {base : Nat} {W0 : World} {β0 : Bt} {f : FuncId} {ro : Option Nat} {k : List Item} {a : HAct} {S S' : HS} {o : Oper}
variable {R : HV → HS → Prop}
end
end
end Go.Proofs.YtgplnlknejbglaaDoor.HL
