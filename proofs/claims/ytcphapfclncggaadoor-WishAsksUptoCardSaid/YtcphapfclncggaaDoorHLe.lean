/- The layer HL, part 5: operations that touch no memory. -/
import Derived.Test.YtcphapfclncggaaDoorHLd
namespace Go.Proofs.YtcphapfclncggaaDoor.HL
open Go.RowKit (Below)

theorem toList_mk (s : List UInt8) : (⟨s.toArray⟩ : ByteArray).toList = s := by
  have key : ∀ (n i : Nat) (r : List UInt8), s.length - i = n → ByteArray.toList.loop ⟨s.toArray⟩ i r = r.reverse ++ s.drop i := by
    intro n
    induction n with
    | zero =>
      intro i r h
      unfold ByteArray.toList.loop
      rw [if_neg (by simp [ByteArray.size]; omega), List.drop_eq_nil_of_le (by omega)]; simp
    | succ n ih =>
      intro i r h
      unfold ByteArray.toList.loop
      rw [if_pos (by simp [ByteArray.size]; omega), ih _ _ (by omega)]
      have hi : i < s.length := by omega
      rw [List.drop_eq_getElem_cons hi]
      simp [ByteArray.get!, hi]
  unfold ByteArray.toList
  rw [key s.length 0 [] (by omega)]; simp
theorem size_mk (s : List UInt8) : (⟨s.toArray⟩ : ByteArray).size = s.length := by simp [ByteArray.size]
theorem get_mk (s : List UInt8) (i : Nat) : (⟨s.toArray⟩ : ByteArray)[i]? = s[i]? := by
  rw [getElem?_def]
  by_cases h : i < s.length
  · rw [dif_pos (by rw [size_mk]; exact h), List.getElem?_eq_getElem h]; rfl
  · rw [dif_neg (by rw [size_mk]; exact h), List.getElem?_eq_none (by omega)]
theorem beq_mk (s t : List UInt8) : ((⟨s.toArray⟩ : ByteArray) == ⟨t.toArray⟩) = (s == t) := by
  show (s.toArray == t.toArray) = _
  simp
theorem append_mk (s t : List UInt8) : (⟨s.toArray⟩ : ByteArray) ++ ⟨t.toArray⟩ = ⟨(s ++ t).toArray⟩ := by
  show ByteArray.append _ _ = _
  simp [ByteArray.append]
theorem extract_mk (l : List UInt8) (a b : Nat) : (ByteArray.mk l.toArray).extract a b = ByteArray.mk ((l.drop a).take (b - a)).toArray := by
  apply ByteArray.ext
  simp [ByteArray.data_extract]

section
variable {P : Program} {base : Nat} {W0 : World} {a : HAct} {S : HS} {o : Oper}

theorem Ev.at_int {β : Bt} {a' : Act} (h : ARel β a a') {x : Operand} {k : IntKind} {n : Int} (e : Ev a x (.int k n)) : a'.eval x = .int k n := by
  have := e.rel h
  generalize a'.eval x = y at this
  cases this; rfl
theorem Ev.at_bool {β : Bt} {a' : Act} (h : ARel β a a') {x : Operand} {n : Bool} (e : Ev a x (.bool n)) : a'.eval x = .bool n := by
  have := e.rel h
  generalize a'.eval x = y at this
  cases this; rfl
theorem Ev.at_str {β : Bt} {a' : Act} (h : ARel β a a') {x : Operand} {n : List UInt8} (e : Ev a x (.str n)) : a'.eval x = .string ⟨n.toArray⟩ := by
  have := e.rel h
  generalize a'.eval x = y at this
  cases this; rfl

theorem OpOk.pure {v : HV} (hd : ∀ c, o.op ≠ .defer c)
    (h : ∀ (β : Bt) (w : World) (a' : Act), Rel base W0 β S w → ARel β a a' → ∃ v', (execOp a'.eval o).run P w = .ok (.value v') w ∧ VRel β v v') : OpOk P base W0 o a S v S :=
  ⟨hd, fun β w a' h1 h2 => let ⟨v', g1, g2⟩ := h β w a' h1 h2; ⟨β, w, v', .refl β, .inl g1, g2, h1⟩⟩

theorem ok_move {x : Operand} {v : HV} (ho : o.op = .move x) (hx : Ev a x v) : OpOk P base W0 o a S v S :=
  .pure (by rw [ho]; simp) fun β w a' _ h2 => ⟨a'.eval x, by simp [execOp, ho], hx.rel h2⟩
theorem ok_assign {x : Operand} {v : HV} (ho : o.op = .assign x) (hx : Ev a x v) : OpOk P base W0 o a S v S :=
  .pure (by rw [ho]; simp) fun β w a' _ h2 => ⟨a'.eval x, by simp [execOp, ho], hx.rel h2⟩
theorem ok_pick_t {c x y : Operand} {v : HV} (ho : o.op = .pick c x y) (hc : Ev a c (.bool true)) (hx : Ev a x v) : OpOk P base W0 o a S v S :=
  .pure (by rw [ho]; simp) fun β w a' _ h2 => ⟨a'.eval x, by simp [execOp, ho, hc.at_bool h2, asBool], hx.rel h2⟩
theorem ok_pick_f {c x y : Operand} {v : HV} (ho : o.op = .pick c x y) (hc : Ev a c (.bool false)) (hy : Ev a y v) : OpOk P base W0 o a S v S :=
  .pure (by rw [ho]; simp) fun β w a' _ h2 => ⟨a'.eval y, by simp [execOp, ho, hc.at_bool h2, asBool], hy.rel h2⟩

/-- Operations on integers. -/
def ibin (op : BinOp) (k : IntKind) (m n : Int) : Option HV :=
  match op with
  | .add => some (.int k (k.wrap (m + n)))
  | .sub => some (.int k (k.wrap (m - n)))
  | .mul => some (.int k (k.wrap (m * n)))
  | .quo => if n = 0 then none else some (.int k (k.wrap (m.tdiv n)))
  | .rem => if n = 0 then none else some (.int k (m.tmod n))
  | .and => some (.int k (k.wrap (BitVec.ofInt k.bits m &&& BitVec.ofInt k.bits n).toNat))
  | .or => some (.int k (k.wrap (BitVec.ofInt k.bits m ||| BitVec.ofInt k.bits n).toNat))
  | .xor => some (.int k (k.wrap (BitVec.ofInt k.bits m ^^^ BitVec.ofInt k.bits n).toNat))
  | .andNot => some (.int k (k.wrap (BitVec.ofInt k.bits m &&& ~~~ BitVec.ofInt k.bits n).toNat))
  | .eql => some (.bool (decide (m = n)))
  | .neq => some (.bool (!decide (m = n)))
  | .lss => some (.bool (decide (m < n)))
  | .leq => some (.bool (decide (m ≤ n)))
  | .gtr => some (.bool (decide (m > n)))
  | .geq => some (.bool (decide (m ≥ n)))
  | _ => none
theorem ok_ibin {op : BinOp} {t ty : TypeId} {x y : Operand} {k : IntKind} {m n : Int} {v : HV} (ho : o.op = .binOp op t x y ty) (hx : Ev a x (.int k m)) (hy : Ev a y (.int k n)) (hv : ibin op k m n = some v) : OpOk P base W0 o a S v S := by
  refine .pure (by rw [ho]; simp) fun β w a' _ h2 => ?_
  have e1 := hx.at_int h2
  have e2 := hy.at_int h2
  have e3 : (m == n) = decide (m = n) := by rw [Bool.eq_iff_iff]; simp
  have e4 : (m != n) = !decide (m = n) := by rw [bne, e3]
  cases op <;> simp only [ibin, Option.some.injEq, reduceCtorEq] at hv
  case quo =>
    split at hv
    · cases hv
    · rename_i hn
      cases hv
      exact ⟨_, by simp [execOp, ho, e1, e2, eqGuard, binOp, Op.intDiv, hn], .int _ _⟩
  case rem =>
    split at hv
    · cases hv
    · rename_i hn
      cases hv
      exact ⟨_, by simp [execOp, ho, e1, e2, eqGuard, binOp, Op.intDiv, hn], .int _ _⟩
  case eql => subst hv; exact ⟨.bool (decide (m = n)), by simp only [execOp, ho, e1, e2, eqGuard, binOp, Op.intCmp, e3]; simp, .bool _⟩
  case neq => subst hv; exact ⟨.bool (!decide (m = n)), by simp only [execOp, ho, e1, e2, eqGuard, binOp, Op.intCmp, e4]; simp, .bool _⟩
  case add => subst hv; exact ⟨_, by simp [execOp, ho, e1, e2, eqGuard, binOp, Op.intArith], .int _ _⟩
  case sub => subst hv; exact ⟨_, by simp [execOp, ho, e1, e2, eqGuard, binOp, Op.intArith], .int _ _⟩
  case mul => subst hv; exact ⟨_, by simp [execOp, ho, e1, e2, eqGuard, binOp, Op.intArith], .int _ _⟩
  case and => subst hv; exact ⟨_, by simp only [execOp, ho, e1, e2, eqGuard, binOp, Op.intBits, ne_eq, not_true_eq_false, if_false]; rfl, .int _ _⟩
  case or => subst hv; exact ⟨_, by simp only [execOp, ho, e1, e2, eqGuard, binOp, Op.intBits, ne_eq, not_true_eq_false, if_false]; rfl, .int _ _⟩
  case xor => subst hv; exact ⟨_, by simp only [execOp, ho, e1, e2, eqGuard, binOp, Op.intBits, ne_eq, not_true_eq_false, if_false]; rfl, .int _ _⟩
  case andNot => subst hv; exact ⟨_, by simp only [execOp, ho, e1, e2, eqGuard, binOp, Op.intBits, ne_eq, not_true_eq_false, if_false]; rfl, .int _ _⟩
  case lss => subst hv; exact ⟨_, by simp [execOp, ho, e1, e2, eqGuard, binOp, Op.intCmp], .bool _⟩
  case leq => subst hv; exact ⟨_, by simp [execOp, ho, e1, e2, eqGuard, binOp, Op.intCmp], .bool _⟩
  case gtr => subst hv; exact ⟨_, by simp [execOp, ho, e1, e2, eqGuard, binOp, Op.intCmp], .bool _⟩
  case geq => subst hv; exact ⟨_, by simp [execOp, ho, e1, e2, eqGuard, binOp, Op.intCmp], .bool _⟩
theorem ok_shl {t ty : TypeId} {x y : Operand} {k k' : IntKind} {m n : Int} (ho : o.op = .binOp .shl t x y ty) (hx : Ev a x (.int k m)) (hy : Ev a y (.int k' n)) (hn : 0 ≤ n) :
    OpOk P base W0 o a S (.int k (k.wrap (m * 2 ^ (min n.toNat k.bits)))) S :=
  .pure (by rw [ho]; simp) fun β w a' _ h2 => ⟨_, by simp [execOp, ho, hx.at_int h2, hy.at_int h2, eqGuard, binOp, Op.shift, show ¬ n < 0 by omega], .int _ _⟩
theorem ok_shr {t ty : TypeId} {x y : Operand} {k k' : IntKind} {m n : Int} (ho : o.op = .binOp .shr t x y ty) (hx : Ev a x (.int k m)) (hy : Ev a y (.int k' n)) (hn : 0 ≤ n) :
    OpOk P base W0 o a S (.int k (m.fdiv (2 ^ (min n.toNat k.bits)))) S :=
  .pure (by rw [ho]; simp) fun β w a' _ h2 => ⟨_, by simp [execOp, ho, hx.at_int h2, hy.at_int h2, eqGuard, binOp, Op.shift, show ¬ n < 0 by omega], .int _ _⟩

/-- Operations on texts. -/
def slt : List UInt8 → List UInt8 → Bool
  | _, [] => false
  | [], _ :: _ => true
  | x :: xs, y :: ys => decide (x < y) || (x == y && slt xs ys)
theorem slt_eq : ∀ (x y : List UInt8), Op.bytesLess x y = slt x y
  | [], [] => rfl
  | _ :: _, [] => rfl
  | [], _ :: _ => rfl
  | x :: xs, y :: ys => by simp only [Op.bytesLess, slt, slt_eq xs ys]
def sbin (op : BinOp) (s t : List UInt8) : Option HV :=
  match op with
  | .add => if s.length + t.length ≤ 9223372036854775807 then some (.str (s ++ t)) else none
  | .eql => some (.bool (decide (s = t)))
  | .neq => some (.bool (!decide (s = t)))
  | .lss => some (.bool (slt s t))
  | .leq => some (.bool (slt s t || decide (s = t)))
  | .gtr => some (.bool (!(slt s t || decide (s = t))))
  | .geq => some (.bool (!slt s t))
  | _ => none
theorem beq_dec (s t : List UInt8) : (s == t) = decide (s = t) := by rw [Bool.eq_iff_iff]; simp
theorem ok_sbin {op : BinOp} {t ty : TypeId} {x y : Operand} {m n : List UInt8} {v : HV} (ho : o.op = .binOp op t x y ty) (hx : Ev a x (.str m)) (hy : Ev a y (.str n)) (hv : sbin op m n = some v) : OpOk P base W0 o a S v S := by
  refine .pure (by rw [ho]; simp) fun β w a' _ h2 => ?_
  have e1 := hx.at_str h2
  have e2 := hy.at_str h2
  cases op <;> simp only [sbin, Option.some.injEq, reduceCtorEq] at hv
  case add =>
    split at hv
    · rename_i hn
      cases hv
      have hmax : IntKind.i64.max = 9223372036854775807 := by decide
      refine ⟨.string ⟨(m ++ n).toArray⟩, ?_, .str _⟩
      simp only [execOp, ho, e1, e2, eqGuard, binOp, Op.stringOp, size_mk, append_mk, hmax]
      simp; omega
    · cases hv
  all_goals
    subst hv
    exact ⟨_, by simp [execOp, ho, e1, e2, eqGuard, binOp, Op.stringOp, toList_mk, slt_eq, beq_dec], .bool _⟩

theorem equal_def (t : TypeId) (x y : Value) : Op.equal t x y = Op.equalIn (9999 + 1) t x y := rfl
theorem equalIn_bool {w : World} (d : Nat) {t : TypeId} (ht : P.underlying t = some .bool) (x y : Bool) : (Op.equalIn (d + 1) t (.bool x) (.bool y)).run P w = .ok (x == y) w := by
  unfold Op.equalIn; simp [underlying, ht]
theorem equalIn_ptr {w : World} (d : Nat) {t e : TypeId} (ht : P.underlying t = some (.pointer e)) (q : Option Addr) : (Op.equalIn (d + 1) t (.pointer q) (.pointer none)).run P w = .ok q.isNone w := by
  unfold Op.equalIn; cases q <;> simp [underlying, ht]
theorem equalIn_sl {w : World} (d : Nat) {t e : TypeId} (ht : P.underlying t = some (.slice e)) (q : Option Addr) (n c : Nat) : (Op.equalIn (d + 1) t (.slice q n c) (.slice none 0 0)).run P w = .ok q.isNone w := by
  unfold Op.equalIn; cases q <;> simp [underlying, ht]
theorem equalIn_map {w : World} (d : Nat) {t e e' : TypeId} (ht : P.underlying t = some (.map e e')) (q : Option Nat) : (Op.equalIn (d + 1) t (.map q) (.map none)).run P w = .ok q.isNone w := by
  unfold Op.equalIn; cases q <;> simp [underlying, ht]
theorem equalIn_nilFn {w : World} (d : Nat) {t : TypeId} {ps rs : Array TypeId} {va : Bool} (ht : P.underlying t = some (.func ps rs va)) : (Op.equalIn (d + 1) t .nilFunc .nilFunc).run P w = .ok true w := by
  unfold Op.equalIn; simp [underlying, ht]
theorem equalIn_fn {w : World} (d : Nat) {t : TypeId} {ps rs : Array TypeId} {va : Bool} (ht : P.underlying t = some (.func ps rs va)) (f : Fn) (xs ys : Array Value) : (Op.equalIn (d + 1) t (.func f xs ys) .nilFunc).run P w = .ok false w := by
  unfold Op.equalIn; simp [underlying, ht]

theorem ok_beq {op : BinOp} {t ty : TypeId} {x y : Operand} {m n : Bool} {q : Bool} (ho : o.op = .binOp op t x y ty) (ht : P.underlying t = some .bool) (hop : op = .eql ∧ q = (m == n) ∨ op = .neq ∧ q = !(m == n)) (hx : Ev a x (.bool m)) (hy : Ev a y (.bool n)) :
    OpOk P base W0 o a S (.bool q) S := by
  refine .pure (by rw [ho]; simp) fun β w a' _ h2 => ?_
  rcases hop with ⟨rfl, rfl⟩ | ⟨rfl, rfl⟩ <;>
    exact ⟨_, by simp [execOp, ho, hx.at_bool h2, hy.at_bool h2, eqGuard, binOp, equal_def, equalIn_bool 9999 ht], .bool _⟩

/-- Against nil. -/
theorem ok_nil_ptr {op : BinOp} {t ty e : TypeId} {x : Operand} {q : Option HA} {b : Bool} (ho : o.op = .binOp op t x (.const (.pointer none)) ty) (ht : P.underlying t = some (.pointer e)) (hx : Ev a x (.ptr q))
    (hop : op = .eql ∧ b = q.isNone ∨ op = .neq ∧ b = !q.isNone) : OpOk P base W0 o a S (.bool b) S := by
  refine .pure (by rw [ho]; simp) fun β w a' _ h2 => ⟨.bool b, ?_, .bool b⟩
  have hr := hx.rel h2
  generalize hxv : a'.eval x = xv at hr
  have hc : a'.eval (.const (.pointer none)) = .pointer none := rfl
  rcases hop with ⟨rfl, rfl⟩ | ⟨rfl, rfl⟩ <;> cases hr <;> simp [execOp, ho, hxv, hc, eqGuard, binOp, equal_def, equalIn_ptr 9999 ht]
theorem ok_nil_sl {op : BinOp} {t ty e : TypeId} {x : Operand} {q : Option (Nat × Nat)} {n : Nat} {z : Option Nat} {b : Bool} (ho : o.op = .binOp op t x (.const (.slice none 0 0)) ty) (ht : P.underlying t = some (.slice e)) (hx : Ev a x (.sl q n z))
    (hop : op = .eql ∧ b = q.isNone ∨ op = .neq ∧ b = !q.isNone) : OpOk P base W0 o a S (.bool b) S := by
  refine .pure (by rw [ho]; simp) fun β w a' _ h2 => ⟨.bool b, ?_, .bool b⟩
  have hr := hx.rel h2
  generalize hxv : a'.eval x = xv at hr
  have hc : a'.eval (.const (.slice none 0 0)) = .slice none 0 0 := rfl
  rcases hop with ⟨rfl, rfl⟩ | ⟨rfl, rfl⟩ <;> cases hr <;> simp [execOp, ho, hxv, hc, eqGuard, binOp, equal_def, equalIn_sl 9999 ht]
theorem ok_nil_map {op : BinOp} {t ty e e' : TypeId} {x : Operand} {q : Option Nat} {b : Bool} (ho : o.op = .binOp op t x (.const (.map none)) ty) (ht : P.underlying t = some (.map e e')) (hx : Ev a x (.map q))
    (hop : op = .eql ∧ b = q.isNone ∨ op = .neq ∧ b = !q.isNone) : OpOk P base W0 o a S (.bool b) S := by
  refine .pure (by rw [ho]; simp) fun β w a' _ h2 => ⟨.bool b, ?_, .bool b⟩
  have hr := hx.rel h2
  generalize hxv : a'.eval x = xv at hr
  have hc : a'.eval (.const (.map none)) = .map none := rfl
  rcases hop with ⟨rfl, rfl⟩ | ⟨rfl, rfl⟩ <;> cases hr <;> simp [execOp, ho, hxv, hc, eqGuard, binOp, equal_def, equalIn_map 9999 ht]
def HV.isNilFn : HV → Option Bool
  | .nilFn => some true
  | .fn .. => some false
  | _ => none
theorem ok_nil_fn {op : BinOp} {t ty : TypeId} {x : Operand} {v : HV} {n b : Bool} {ps rs : Array TypeId} {va : Bool} (ho : o.op = .binOp op t x (.const .nilFunc) ty) (ht : P.underlying t = some (.func ps rs va)) (hx : Ev a x v) (hn : v.isNilFn = some n)
    (hop : op = .eql ∧ b = n ∨ op = .neq ∧ b = !n) : OpOk P base W0 o a S (.bool b) S := by
  refine .pure (by rw [ho]; simp) fun β w a' _ h2 => ⟨.bool b, ?_, .bool b⟩
  have hr := hx.rel h2
  generalize hxv : a'.eval x = xv at hr
  have hc : a'.eval (.const .nilFunc) = .nilFunc := rfl
  rcases hop with ⟨rfl, rfl⟩ | ⟨rfl, rfl⟩ <;> cases hr <;> simp only [HV.isNilFn, Option.some.injEq, reduceCtorEq] at hn <;> subst hn <;> simp [execOp, ho, hxv, hc, eqGuard, binOp, equal_def, equalIn_nilFn 9999 ht, equalIn_fn 9999 ht]

theorem ok_not {t : TypeId} {x : Operand} {b : Bool} (ho : o.op = .unOp .not t x) (hx : Ev a x (.bool b)) : OpOk P base W0 o a S (.bool (!b)) S :=
  .pure (by rw [ho]; simp) fun β w a' _ h2 => ⟨_, by simp [execOp, ho, hx.at_bool h2, Op.unary], .bool _⟩
theorem ok_neg {t : TypeId} {x : Operand} {k : IntKind} {n : Int} (ho : o.op = .unOp .neg t x) (hx : Ev a x (.int k n)) : OpOk P base W0 o a S (.int k (k.wrap (0 - n))) S :=
  .pure (by rw [ho]; simp) fun β w a' _ h2 => ⟨_, by simp only [execOp, ho, hx.at_int h2, Op.unary, Op.intArith]; simp, .int _ _⟩
theorem ok_conv_int {src dst : TypeId} {x : Operand} {k k' : IntKind} {n : Int} {d : TypeDesc} (ho : o.op = .convert src dst x) (hs : P.underlying src = some d) (hd : P.underlying dst = some (.int k')) (hx : Ev a x (.int k n)) :
    OpOk P base W0 o a S (.int k' (k'.wrap n)) S :=
  .pure (by rw [ho]; simp) fun β w a' _ h2 => ⟨_, by simp [execOp, ho, hx.at_int h2, convert, underlying, hs, hd, Conv.intToInt], .int _ _⟩
theorem ok_conv_str {src dst : TypeId} {x : Operand} {s : List UInt8} (ho : o.op = .convert src dst x) (hs : P.underlying src = some .string) (hd : P.underlying dst = some .string) (hx : Ev a x (.str s)) :
    OpOk P base W0 o a S (.str s) S :=
  .pure (by rw [ho]; simp) fun β w a' _ h2 => ⟨.string ⟨s.toArray⟩, by simp [execOp, ho, hx.at_str h2, convert, underlying, hs, hd], .str _⟩

theorem ok_extract {x : Operand} {i : Nat} {vs : List HV} {v : HV} (ho : o.op = .extract x i) (hx : Ev a x (.tup vs)) (hi : vs[i]? = some v) : OpOk P base W0 o a S v S := by
  refine .pure (by rw [ho]; simp) fun β w a' _ h2 => ?_
  have hr := hx.rel h2
  generalize hxv : a'.eval x = xv at hr
  cases hr with
  | tup e1 e2 =>
    obtain ⟨v', g1, g2⟩ := VRels.get ⟨e1, e2⟩ hi
    exact ⟨v', by simp [execOp, ho, hxv, Instr.extract, g1], g2⟩

theorem ok_index {t : TypeId} {x y : Operand} {s : List UInt8} {k : IntKind} {n : Int} {b : UInt8} (ho : o.op = .index t x y) (ht : P.underlying t = some .string) (hx : Ev a x (.str s)) (hy : Ev a y (.int k n)) (hn : 0 ≤ n) (hb : s[n.toNat]? = some b) :
    OpOk P base W0 o a S (.int .u8 b.toNat) S :=
  .pure (by rw [ho]; simp) fun β w a' _ h2 => ⟨_, by simp [execOp, ho, hx.at_str h2, hy.at_int h2, Instr.index, asIntOf, underlying, ht, hn, get_mk, hb], .int _ _⟩

theorem ok_nilCheck {x : Operand} {v : HV} (ho : o.op = .nilCheck x) (hx : Ev a x v) (hv : ∃ q, v = .ptr (some q) ∨ ∃ g xs ys, v = .fn g xs ys) : OpOk P base W0 o a S v S := by
  refine .pure (by rw [ho]; simp) fun β w a' _ h2 => ?_
  have hr := hx.rel h2
  generalize hxv : a'.eval x = xv at hr
  refine ⟨xv, ?_, hr⟩
  obtain ⟨q, rfl | ⟨g, xs, ys, rfl⟩⟩ := hv
  · cases hr; simp [execOp, ho, hxv]
  · cases hr <;> simp [execOp, ho, hxv]

theorem ok_makeFunc {g : FuncId} {fs cs : Array Operand} {vs ws : List HV} (ho : o.op = .makeFunc (.func g) fs cs) (h1 : Evs a fs vs) (h2 : Evs a cs ws) : OpOk P base W0 o a S (.fn (.func g) vs ws) S :=
  .pure (by rw [ho]; simp) fun β w a' _ h => ⟨_, by simp [execOp, ho, Instr.makeFunc], .fn (h1.rel h).1 (h1.rel h).2 (h2.rel h).1 (h2.rel h).2⟩

/-! builtins -/
theorem ok_len_str {x : Operand} {tys : Array TypeId} {t : TypeId} {s : List UInt8} (ho : o.op = .call ⟨.builtin .len, #[x], tys⟩) (h0 : tys[0]? = some t) (ht : P.underlying t = some .string) (hx : Ev a x (.str s)) : OpOk P base W0 o a S (.int .i64 s.length) S :=
  .pure (by rw [ho]; simp) fun β w a' _ h2 => ⟨_, by simp [execOp, ho, resolve, invoke, builtin, Builtin.len_, hx.at_str h2, h0, underlying, ht, goInt, size_mk], .int _ _⟩
theorem ok_len_sl {x : Operand} {tys : Array TypeId} {t e : TypeId} {q : Option (Nat × Nat)} {n : Nat} {z : Option Nat} (ho : o.op = .call ⟨.builtin .len, #[x], tys⟩) (h0 : tys[0]? = some t) (ht : P.underlying t = some (.slice e)) (hx : Ev a x (.sl q n z)) :
    OpOk P base W0 o a S (.int .i64 n) S := by
  refine .pure (by rw [ho]; simp) fun β w a' _ h2 => ?_
  have hr := hx.rel h2
  generalize hxv : a'.eval x = xv at hr
  cases hr <;> exact ⟨_, by simp [execOp, ho, resolve, invoke, builtin, Builtin.len_, hxv, h0, underlying, ht, goInt], .int _ _⟩
theorem ok_min {x y : Operand} {tys : Array TypeId} {k : IntKind} {m n : Int} (ho : o.op = .call ⟨.builtin .min, #[x, y], tys⟩) (hx : Ev a x (.int k m)) (hy : Ev a y (.int k n)) : OpOk P base W0 o a S (.int k (if n < m then n else m)) S :=
  .pure (by rw [ho]; simp) fun β w a' _ h2 => ⟨_, by simp [execOp, ho, resolve, invoke, builtin, Builtin.min_, Builtin.min2, hx.at_int h2, hy.at_int h2], .int _ _⟩
theorem ok_max {x y : Operand} {tys : Array TypeId} {k : IntKind} {m n : Int} (ho : o.op = .call ⟨.builtin .max, #[x, y], tys⟩) (hx : Ev a x (.int k m)) (hy : Ev a y (.int k n)) : OpOk P base W0 o a S (.int k (if n > m then n else m)) S :=
  .pure (by rw [ho]; simp) fun β w a' _ h2 => ⟨_, by simp [execOp, ho, resolve, invoke, builtin, Builtin.max_, Builtin.max2, hx.at_int h2, hy.at_int h2], .int _ _⟩

theorem ok_slice_str {t : TypeId} {x : Operand} {lo hi : Option Operand} {s : List UInt8} {l h : Int} {kl kh : IntKind} (ho : o.op = .slice t x lo hi none) (ht : P.underlying t = some .string) (hx : Ev a x (.str s))
    (hlo : (lo = none ∧ l = 0) ∨ ∃ y, lo = some y ∧ Ev a y (.int kl l)) (hhi : (hi = none ∧ h = s.length) ∨ ∃ y, hi = some y ∧ Ev a y (.int kh h)) (h0 : 0 ≤ l) (h1 : l ≤ h) (h2 : h ≤ s.length) :
    OpOk P base W0 o a S (.str ((s.drop l.toNat).take (h.toNat - l.toNat))) S := by
  refine .pure (by rw [ho]; simp) fun β w a' _ hr => ⟨.string ⟨((s.drop l.toNat).take (h.toNat - l.toNat)).toArray⟩, ?_, .str _⟩
  have hh0 : 0 ≤ h := by omega
  have e1 : (((h.toNat : Nat) : Int)) = h := by omega
  rcases hlo with ⟨rfl, rfl⟩ | ⟨y, rfl, hy⟩ <;> rcases hhi with ⟨rfl, rfl⟩ | ⟨z, rfl, hz⟩
  · simp [execOp, ho, hx.at_str hr, Instr.sliceAt, underlying, ht, Instr.slice, Instr.sliceBounds]
  · simp [execOp, ho, hx.at_str hr, hz.at_int hr, Instr.sliceAt, underlying, ht, Instr.slice, Instr.sliceBounds, Instr.sliceBound, asIntOf, size_mk, extract_mk, hh0, h2]
  · simp [execOp, ho, hx.at_str hr, hy.at_int hr, Instr.sliceAt, underlying, ht, Instr.slice, Instr.sliceBounds, Instr.sliceBound, asIntOf, size_mk, extract_mk, h0, h1]
  · simp [execOp, ho, hx.at_str hr, hy.at_int hr, hz.at_int hr, Instr.sliceAt, underlying, ht, Instr.slice, Instr.sliceBounds, Instr.sliceBound, asIntOf, size_mk, extract_mk, hh0, h2, h0, e1, h1]
end
end Go.Proofs.YtcphapfclncggaaDoor.HL
