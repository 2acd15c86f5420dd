/- The layer HL, part 11: statements whose order is open. -/
import Derived.Test.YtcphapfclncggaaDoorHLj
import Derived.Orders
namespace Go.Proofs.YtcphapfclncggaaDoor.HL
open Go.RowKit (Below)

section
variable {P : Program} {base : Nat} {W0 : World} {β0 : Bt} {f : FuncId} {ro : Option Nat} {k : List Item} {S : HS} {R : HV → HS → Prop} {ops : Array Oper}

/-- A frame of which only some temporaries are looked at. -/
def maskL : List HV → List Tmp → Nat → List HV
  | [], _, _ => []
  | v :: vs, ts, i => (if ts.contains i then v else .tup []) :: maskL vs ts (i + 1)
def HAct.mask (a : HAct) (ts : List Tmp) : HAct := { tmps := maskL a.tmps ts 0, defers := [] }
theorem maskL_len : ∀ (vs : List HV) (ts : List Tmp) (i : Nat), (maskL vs ts i).length = vs.length
  | [], _, _ => rfl
  | v :: vs, ts, i => by simp [maskL, maskL_len vs]
theorem maskL_get : ∀ (vs : List HV) (ts : List Tmp) (i j : Nat), (maskL vs ts i)[j]? = vs[j]?.map fun v => if ts.contains (i + j) then v else .tup []
  | [], _, _, _ => by simp [maskL]
  | v :: vs, ts, i, 0 => by simp [maskL]
  | v :: vs, ts, i, j + 1 => by simp only [maskL, List.getElem?_cons_succ]; rw [maskL_get vs]; congr 2; funext x; rw [show i + 1 + j = i + (j + 1) by omega]
def maskC (a : Act) (ts : List Tmp) : Act := { tmps := a.tmps.mapIdx fun i v => if ts.contains i then v else undef, defers := [] }
theorem mask_rel {β : Bt} {a : HAct} {a' : Act} (h : ARel β a a') (ts : List Tmp) : ARel β (a.mask ts) (maskC a' ts) := by
  refine ⟨⟨by simp [HAct.mask, maskC, maskL_len, h.tmps.1], fun i v v' h1 h2 => ?_⟩, ⟨rfl, fun i d d' h => by simp [HAct.mask] at h⟩⟩
  simp only [HAct.mask, maskL_get, Nat.zero_add] at h1
  simp only [maskC, Array.getElem?_mapIdx] at h2
  cases hv : a.tmps[i]? with
  | none => rw [hv] at h1; cases h1
  | some x =>
    obtain ⟨x', q1, q2⟩ := h.tmps.get hv
    rw [hv] at h1
    rw [q1] at h2
    simp only [Option.map_some, Option.some.injEq] at h1 h2
    subst h1 h2
    split
    · exact q2
    · exact VRel.undef β
theorem mask_eval {a : Act} {ts : List Tmp} {x : Operand} (h : ∀ t, x = .tmp t → ts.contains t = true) : (maskC a ts).eval x = a.eval x := by
  cases x with
  | tmp t =>
    have := h t rfl
    simp only [Act.eval, maskC, Array.getD_eq_getD_getElem?, Array.getElem?_mapIdx]
    cases ht : a.tmps[t]? with
    | none => rfl
    | some v => simp only [Option.map_some, this, if_true]
  | _ => rfl
theorem mask_at {a : HAct} {ts : List Tmp} {t : Tmp} {v : HV} (h : (a.mask ts).tmps[t]? = some v) (ht : ts.contains t = true) : a.tmps[t]? = some v := by
  simp only [HAct.mask, maskL_get, Nat.zero_add, ht, if_true] at h
  cases hv : a.tmps[t]? with
  | none => rw [hv] at h; cases h
  | some x => rw [hv] at h; simpa using h
theorem Ev.unmask {a : HAct} {ts : List Tmp} {x : Operand} {v : HV} (h : Ev (a.mask ts) x v) (hx : ∀ t, x = .tmp t → ts.contains t = true) : Ev a x v := by
  cases h with
  | tmp ht => exact .tmp (mask_at ht (hx _ rfl))
  | const hc => exact .const hc
  | func f => exact .func f
theorem looks_operand {o : Oper} {t : Tmp} (h : Operand.tmp t ∈ o.op.operands) : (o.looksAt ops).contains t = true := by
  simp only [List.contains_iff_mem, Oper.looksAt, List.mem_append, List.mem_filterMap]
  exact .inl ⟨.tmp t, by simpa using h, rfl⟩
theorem looks_guard {o : Oper} {g : Nat} {b : Bool} {t : Tmp} (h : o.guard = some (g, b)) (ht : (ops[g]?).bind (·.dst) = some t) : (o.looksAt ops).contains t = true := by
  simp only [List.contains_iff_mem, Oper.looksAt, List.mem_append, h, ht]
  exact .inr (by simp)

/-- An operation that leaves the heap as it is, a call among them. -/
def QOk (P : Program) (base : Nat) (W0 : World) (β0 : Bt) (o : Oper) (a : HAct) (S : HS) (v : HV) : Prop :=
  ((∀ cs b, o.op ≠ .select cs b) ∧ OpOk P base W0 o a S v S) ∨
  ∃ fx xs tys fv vs, o.op = .call ⟨.value fx, xs, tys⟩ ∧ Ev a fx fv ∧ Evs a xs vs ∧ HInv P base W0 β0 fv vs S (fun v1 S1 => v1 = v ∧ S1 = S)
def QAt (P : Program) (base : Nat) (W0 : World) (β0 : Bt) (ops : Array Oper) (o : Oper) (a : HAct) (S : HS) (v : HV) : Prop :=
  (Wants a ops o ∧ QOk P base W0 β0 o a S v) ∨ (Skips a ops o ∧ v = .tup [])

theorem hr_quiet {B : HAct} {i : Nat} {rest : List Nat} {o : Oper} {v : HV} (ho : ops[i]? = some o) (hq : QAt P base W0 β0 ops o (B.mask (o.looksAt ops)) S v)
    (h : HRun P base W0 β0 f ro (.inRegion ops rest :: k) (B.put o.dst v) S R) : HRun P base W0 β0 f ro (.inRegion ops (i :: rest) :: k) B S R := by
  have hgd : ∀ g b, o.guard = some (g, b) → ∀ t, (ops[g]?).bind (·.dst) = some t → (o.looksAt ops).contains t = true := fun g b h1 t h2 => looks_guard h1 h2
  rcases hq with ⟨hw, hq⟩ | ⟨hs, rfl⟩
  · have hw' : Wants B ops o := by
      unfold Wants at hw ⊢
      cases hg : o.guard with
      | none => trivial
      | some q =>
        obtain ⟨j, want⟩ := q
        rw [hg] at hw
        obtain ⟨t, h1, h2⟩ := hw
        exact ⟨t, h1, mask_at h2 (hgd j want hg t h1)⟩
    rcases hq with ⟨hsel, hop⟩ | ⟨fx, xs, tys, fv, vs, hc, hf, hxs, hi⟩
    · refine hr_op ho hw' ⟨hop.1, fun β w a' h1 h2 => ?_⟩ h
      obtain ⟨β', w', v', g1, g2, g3, g4⟩ := hop.2 β w (maskC a' (o.looksAt ops)) h1 (mask_rel h2 _)
      have e : execOp (maskC a' (o.looksAt ops)).eval o = execOp a'.eval o := execOp_congr o hsel fun x hx => mask_eval fun t ht => looks_operand (by rw [← ht]; exact hx)
      rw [e] at g2
      exact ⟨β', w', v', g1, g2, g3, g4⟩
    · refine hr_call ho hw' hc (hf.unmask fun t ht => looks_operand (by rw [hc, ← ht]; simp [Op.operands, Call.operands])) ⟨hxs.1, fun j x u q1 q2 => (hxs.2 j x u q1 q2).unmask fun t ht => looks_operand (by
        rw [hc, ← ht]; simp only [Op.operands, Call.operands]; exact Array.mem_append_right _ (Array.mem_of_getElem? q1))⟩ hi ?_
      rintro _ _ ⟨rfl, rfl⟩
      exact h
  · refine hr_op_skip ho ?_ h
    unfold Skips at hs ⊢
    cases hg : o.guard with
    | none => rw [hg] at hs; exact hs
    | some q =>
      obtain ⟨j, want⟩ := q
      rw [hg] at hs
      obtain ⟨t, h1, h2⟩ := hs
      exact ⟨t, h1, h2.imp (fun h2 => mask_at h2 (hgd j want hg t h1)) (fun h2 => mask_at h2 (hgd j want hg t h1))⟩

/-- The quiet operations, in the order of the text. -/
inductive QChain (P : Program) (base : Nat) (W0 : World) (β0 : Bt) (ops : Array Oper) (S : HS) : Nat → HAct → List HV → Nat → HAct → Prop
  | nil (i : Nat) (a : HAct) : QChain P base W0 β0 ops S i a [] i a
  | cons {i : Nat} {a : HAct} {o : Oper} {v : HV} {vs : List HV} {m : Nat} {b : HAct} (ho : ops[i]? = some o) (hq : QAt P base W0 β0 ops o (a.mask (o.looksAt ops)) S v) (h : QChain P base W0 β0 ops S (i + 1) (a.put o.dst v) vs m b) :
      QChain P base W0 β0 ops S i a (v :: vs) m b

/-! ### What the edges say -/
inductive Anc (ops : Array Oper) : Nat → Nat → Prop
  | edge {i j : Nat} {o : Oper} {e : Edge} (ho : ops[j]? = some o) (he : e ∈ o.after) (hb : Region.binds .any e = true) (hi : e.on = i) : Anc ops i j
  | trans {i j l : Nat} (h : Anc ops i j) (k : Anc ops j l) : Anc ops i l

theorem before_go (L : List Oper) : ∀ (acc : Array Nat) (n : Nat), acc.size = n → (∀ j, j < n → ∀ i, (acc.getD j 0).testBit i = true → Anc ops i j) → (∀ j, L[j]? = ops[n + j]?) →
    ∀ j i, ((L.foldl (fun acc o => acc.push (o.after.foldl (fun s e => if Region.binds .any e then s ||| 2 ^ e.on ||| acc.getD e.on 0 else s) 0)) acc).getD j 0).testBit i = true → Anc ops i j := by
  induction L with
  | nil =>
    intro acc n hn hacc _ j i h
    simp only [List.foldl_nil] at h
    by_cases hj : j < n
    · exact hacc j hj i h
    · rw [Array.getD_eq_getD_getElem?, Array.getElem?_eq_none (by omega)] at h; simp at h
  | cons o L ih =>
    intro acc n hn hacc hL j i h
    simp only [List.foldl_cons] at h
    have ho : ops[n]? = some o := by simpa using (hL 0).symm
    refine ih _ (n + 1) (by simp [hn]) (fun j hj i h => ?_) (fun j => by have := hL (j + 1); simpa [Nat.add_assoc, Nat.add_comm 1 j] using this) j i h
    by_cases hjn : j < n
    · refine hacc j hjn i ?_
      rw [Array.getD_eq_getD_getElem?, Array.getElem?_push, if_neg (by omega)] at h
      rw [Array.getD_eq_getD_getElem?]; exact h
    · obtain rfl : j = n := by omega
      rw [Array.getD_eq_getD_getElem?, Array.getElem?_push, if_pos hn.symm] at h
      simp only [Option.getD_some] at h
      rw [← Array.foldl_toList] at h
      have key : ∀ (es : List Edge) (s : Nat), (∀ e ∈ es, e ∈ o.after) → (∀ i, s.testBit i = true → Anc ops i j) → ∀ i, (es.foldl (fun s e => if Region.binds .any e then s ||| 2 ^ e.on ||| acc.getD e.on 0 else s) s).testBit i = true → Anc ops i j := by
        intro es
        induction es with
        | nil => intro s _ hs i h; exact hs i h
        | cons e es ihe =>
          intro s hm hs i h
          simp only [List.foldl_cons] at h
          refine ihe _ (fun e' he' => hm e' (by simp [he'])) (fun i h => ?_) i h
          split at h
          · rename_i hb
            simp only [Nat.testBit_or, Nat.testBit_two_pow, Bool.or_eq_true, decide_eq_true_eq] at h
            rcases h with (h | h) | h
            · exact hs i h
            · exact .edge ho (hm e (by simp)) hb h
            · by_cases hlt : e.on < j
              · exact .trans (hacc e.on hlt i h) (.edge ho (hm e (by simp)) hb rfl)
              · rw [Array.getD_eq_getD_getElem?, Array.getElem?_eq_none (by omega)] at h; simp at h
          · exact hs i h
      exact key o.after.toList 0 (fun e he => by simpa using he) (fun i h => by simp at h) i h
theorem before_anc {i j : Nat} (h : ((Region.before ops).getD j 0).testBit i = true) : Anc ops i j := by
  unfold Region.before at h
  rw [← Array.foldl_toList] at h
  exact before_go ops.toList #[] 0 rfl (fun j hj => by omega) (fun j => by simp) j i h

/-- What a printed proof asks of a region's text: m quiet operations ahead, the rest one behind the other. -/
def drawOk (ops : Array Oper) (m : Nat) : Bool :=
  let b := Region.before ops
  let n := ops.size
  decide (m ≤ n) &&
  (List.range n).all (fun j => match ops[j]? with | some o => o.after.all (fun e => decide (e.on < j)) | none => true) &&
  (decide (m = n) || (List.range m).all fun i => (b.getD m 0).testBit i) &&
  (List.range n).all (fun j => decide (j ≤ m) || (b.getD j 0).testBit (j - 1)) &&
  (List.range m).all fun i => (List.range m).all fun w =>
    match ops[i]?, ops[w]? with
    | some x, some y =>
      match y.dst with
      | none => true
      | some t => (decide (i = w) && !(x.looksAt ops).contains t) || (!decide (i = w) && decide (x.dst ≠ some t) && (!(x.looksAt ops).contains t || (decide (w < i) && (b.getD i 0).testBit w) || (decide (i < w) && (b.getD w 0).testBit i)))
    | _, _ => true

structure DrawOk (ops : Array Oper) (m : Nat) : Prop where
  le : m ≤ ops.size
  low : ∀ (j : Nat) (o : Oper), ops[j]? = some o → ∀ e ∈ o.after, e.on < j
  head : m < ops.size → ∀ i, i < m → Anc ops i m
  tail : ∀ j, m < j → j < ops.size → Anc ops (j - 1) j
  diff : ∀ i w x y t, i < m → w < m → ops[i]? = some x → ops[w]? = some y → y.dst = some t → i ≠ w → x.dst ≠ some t
  look : ∀ i w x y t, i < m → w < m → ops[i]? = some x → ops[w]? = some y → y.dst = some t → (x.looksAt ops).contains t = true → (w < i ∧ Anc ops w i) ∨ (i < w ∧ Anc ops i w)

theorem drawOk_out {m : Nat} (h : drawOk ops m = true) : DrawOk ops m := by
  unfold drawOk at h
  simp only [Bool.and_eq_true, decide_eq_true_eq, List.all_eq_true, List.mem_range, Bool.or_eq_true] at h
  obtain ⟨⟨⟨⟨h2, h3⟩, h4⟩, h5⟩, h6⟩ := h
  refine ⟨h2, fun j o ho e he => ?_, fun hm i hi => ?_, fun j hj hjn => ?_, fun i w x y t hi hw hx hy ht hne => ?_, fun i w x y t hi hw hx hy ht hl => ?_⟩
  · have := h3 j (Array.getElem?_eq_some_iff.1 ho).1
    rw [ho] at this
    simp only [Array.all_eq_true', decide_eq_true_eq] at this
    exact this e he
  · rcases h4 with h | h
    · omega
    · exact before_anc (h i hi)
  · rcases h5 j hjn with h | h
    · omega
    · exact before_anc h
  · have := h6 i hi w hw
    rw [hx, hy] at this
    simp only [ht] at this
    simp only [Bool.or_eq_true, Bool.and_eq_true, decide_eq_true_eq, Bool.not_eq_true', decide_eq_false_iff_not] at this
    rcases this with ⟨e, _⟩ | ⟨⟨_, h⟩, _⟩
    · exact absurd e hne
    · exact h
  · have := h6 i hi w hw
    rw [hx, hy] at this
    simp only [ht] at this
    simp only [Bool.or_eq_true, Bool.and_eq_true, decide_eq_true_eq, Bool.not_eq_true', decide_eq_false_iff_not] at this
    rcases this with ⟨_, h⟩ | ⟨_, (h | ⟨h7, h8⟩) | ⟨h7, h8⟩⟩
    · rw [hl] at h; cases h
    · rw [hl] at h; cases h
    · exact .inl ⟨h7, before_anc h8⟩
    · exact .inr ⟨h7, before_anc h8⟩

theorem Anc.lt {m : Nat} (hd : DrawOk ops m) {i j : Nat} (h : Anc ops i j) : i < j := by
  induction h with
  | edge ho he hb hi => have := hd.low _ _ ho _ he; omega
  | trans _ _ h1 h2 => omega
/-- A set of operations that holds what each of its members waits for. -/
def Closed (ops : Array Oper) (X : Nat → Prop) : Prop := ∀ j o, X j → ops[j]? = some o → ∀ e ∈ o.after, Region.binds .any e = true → X e.on
theorem Closed.anc {X : Nat → Prop} (h : Closed ops X) {i j : Nat} (ha : Anc ops i j) : X j → X i := by
  induction ha with
  | edge ho he hb hi => intro hj; have := h _ _ hj ho _ he hb; rw [hi] at this; exact this
  | trans _ _ h1 h2 => intro hl; exact h1 (h2 hl)

/-- A frame in which just the operations of X have been made. -/
structure Agrees (ops : Array Oper) (a0 : HAct) (val : Nat → HV) (m : Nat) (X : Nat → Prop) (B : HAct) : Prop where
  len : B.tmps.length = a0.tmps.length
  defers : B.defers = a0.defers
  made : ∀ i o t, i < m → X i → ops[i]? = some o → o.dst = some t → B.tmps[t]? = (a0.tmps.set t (val i))[t]?
  rest : ∀ t, (∀ i o, i < m → X i → ops[i]? = some o → o.dst ≠ some t) → B.tmps[t]? = a0.tmps[t]?
theorem Agrees.step {a0 : HAct} {val : Nat → HV} {m : Nat} {X : Nat → Prop} {B : HAct} (hd : DrawOk ops m) (h : Agrees ops a0 val m X B) {i : Nat} {o : Oper} (him : i < m) (ho : ops[i]? = some o) (hX : ¬ X i) :
    Agrees ops a0 val m (fun j => X j ∨ j = i) (B.put o.dst (val i)) := by
  cases hdst : o.dst with
  | none =>
    refine ⟨h.len, h.defers, fun j x t hj hXj hx ht => ?_, fun t ht => h.rest t fun j x hj hXj hx => ht j x hj (.inl hXj) hx⟩
    rcases hXj with hXj | rfl
    · exact h.made j x t hj hXj hx ht
    · rw [ho] at hx; cases hx; rw [hdst] at ht; cases ht
  | some d =>
    refine ⟨by simp [HAct.put, h.len], h.defers, fun j x t hj hXj hx ht => ?_, fun t ht => ?_⟩
    · rcases hXj with hXj | rfl
      · have hne : j ≠ i := fun e => hX (e ▸ hXj)
        have hdt : d ≠ t := fun e => hd.diff i j o x t him hj ho hx ht (fun e => hne e.symm) (by rw [hdst, e])
        simp only [HAct.put]
        rw [List.getElem?_set_ne hdt]
        exact h.made j x t hj hXj hx ht
      · rw [ho] at hx; cases hx
        rw [hdst] at ht; cases ht
        simp only [HAct.put, List.getElem?_set, h.len, if_true]
    · have hdt : d ≠ t := fun e => ht i o him (.inr rfl) ho (by rw [hdst, e])
      simp only [HAct.put]
      rw [List.getElem?_set_ne hdt]
      exact h.rest t fun j x hj hXj hx => ht j x hj (.inl hXj) hx
theorem Agrees.congr {a0 : HAct} {val : Nat → HV} {m : Nat} {X Y : Nat → Prop} {B C : HAct} (h : Agrees ops a0 val m X B) (k : Agrees ops a0 val m Y C) {t : Tmp} (ht : ∀ i o, i < m → ops[i]? = some o → o.dst = some t → (X i ↔ Y i)) :
    B.tmps[t]? = C.tmps[t]? := by
  by_cases hw : ∃ i o, i < m ∧ X i ∧ ops[i]? = some o ∧ o.dst = some t
  · obtain ⟨i, o, h1, h2, h3, h4⟩ := hw
    rw [h.made i o t h1 h2 h3 h4, k.made i o t h1 ((ht i o h1 h3 h4).1 h2) h3 h4]
  · rw [h.rest t fun i o h1 h2 h3 h4 => hw ⟨i, o, h1, h2, h3, h4⟩, k.rest t fun i o h1 h2 h3 h4 => hw ⟨i, o, h1, (ht i o h1 h3 h4).2 h2, h3, h4⟩]
theorem mask_congr {B C : HAct} {ts : List Tmp} (hl : B.tmps.length = C.tmps.length) (h : ∀ t, ts.contains t = true → B.tmps[t]? = C.tmps[t]?) : B.mask ts = C.mask ts := by
  unfold HAct.mask
  congr 1
  apply List.ext_getElem?
  intro j
  rw [maskL_get, maskL_get, Nat.zero_add]
  by_cases hj : ts.contains j = true
  · rw [h j hj]
  · simp only [Bool.not_eq_true] at hj
    simp only [hj]
    by_cases hlt : j < B.tmps.length
    · rw [List.getElem?_eq_getElem hlt, List.getElem?_eq_getElem (hl ▸ hlt)]; rfl
    · rw [List.getElem?_eq_none (by omega), List.getElem?_eq_none (by omega)]

/-- What the chain says of each operation. -/
theorem QChain.spell {a : HAct} {vs : List HV} {m : Nat} {b : HAct} {i0 : Nat} (h : QChain P base W0 β0 ops S i0 a vs m b) : ∀ (a0 : HAct) (val : Nat → HV), (∀ j, i0 ≤ j → j < m → val j = vs.getD (j - i0) (.tup [])) → DrawOk ops m → i0 ≤ m ∧ (Agrees ops a0 val m (fun j => j < i0) a →
    (∀ j o, i0 ≤ j → j < m → ops[j]? = some o → ∃ A, Agrees ops a0 val m (fun l => l < j) A ∧ QAt P base W0 β0 ops o (A.mask (o.looksAt ops)) S (val j)) ∧ Agrees ops a0 val m (fun l => l < m) b) := by
  induction h with
  | nil i a => intro a0 val _ _; exact ⟨Nat.le_refl _, fun h => ⟨fun j o h1 h2 => by omega, h⟩⟩
  | @cons i a o v vs m b ho hq h ih =>
    intro a0 val hval hd
    obtain ⟨g1, g2⟩ := ih a0 val (fun j h1 h2 => by rw [hval j (by omega) h2, show j - i = (j - (i + 1)) + 1 by omega]; rfl) hd
    refine ⟨by omega, fun hA => ?_⟩
    have hv : val i = v := by rw [hval i (Nat.le_refl _) (by omega)]; simp
    have hst := hA.step hd (i := i) (by omega) ho (by omega)
    have heq : (fun j => j < i ∨ j = i) = (fun j => j < i + 1) := by funext j; simp only [eq_iff_iff]; omega
    rw [heq, hv] at hst
    obtain ⟨k1, k2⟩ := g2 hst
    refine ⟨fun j o' h1 h2 h3 => ?_, k2⟩
    by_cases e : j = i
    · subst e
      rw [ho] at h3; cases h3
      exact ⟨a, hA, by rw [hv]; exact hq⟩
    · exact k1 j o' (by omega) h2 h3
theorem Agrees.eq {a0 : HAct} {val : Nat → HV} {m : Nat} {X Y : Nat → Prop} {B C : HAct} (h : Agrees ops a0 val m X B) (k : Agrees ops a0 val m Y C) (hXY : ∀ i, i < m → (X i ↔ Y i)) : B = C := by
  obtain ⟨bt, bd⟩ := B
  obtain ⟨ct, cd⟩ := C
  have e1 : bt = ct := by
    apply List.ext_getElem?
    intro t
    exact h.congr k (t := t) fun i o h1 _ _ => hXY i h1
  have e2 : bd = cd := h.defers.trans k.defers.symm
  subst e1 e2
  rfl

theorem binds_any {md : Region.Mode} {e : Edge} (h : Region.binds .any e = true) : Region.binds md e = true := by
  unfold Region.binds at h ⊢
  split <;> simp_all
theorem mem_ready {md : Region.Mode} {listed : Array Bool} {i : Nat} (h : i ∈ Region.ready md ops listed) : i < ops.size ∧ listed.getD i true = false ∧ ∀ o, ops[i]? = some o → ∀ e ∈ o.after, Region.binds .any e = true → listed.getD e.on false = true := by
  unfold Region.ready at h
  simp only [List.mem_filter, List.mem_range, Bool.and_eq_true, Bool.not_eq_true'] at h
  obtain ⟨h1, h2, h3⟩ := h
  refine ⟨h1, h2, fun o ho e he hb => ?_⟩
  rw [ho] at h3
  simp only [Option.map_some, Option.getD_some, Array.all_eq_true', Bool.or_eq_true, Bool.not_eq_true'] at h3
  rcases h3 e he with h | h
  · rw [binds_any hb] at h; cases h
  · exact h
theorem ready_mem {md : Region.Mode} {listed : Array Bool} {i : Nat} (h1 : i < ops.size) (h2 : listed.getD i true = false) (h3 : ∀ o, ops[i]? = some o → ∀ e ∈ o.after, listed.getD e.on false = true) : i ∈ Region.ready md ops listed := by
  unfold Region.ready
  simp only [List.mem_filter, List.mem_range, Bool.and_eq_true, Bool.not_eq_true']
  refine ⟨h1, h2, ?_⟩
  rw [Array.getElem?_eq_getElem h1]
  simp only [Option.map_some, Option.getD_some, Array.all_eq_true', Bool.or_eq_true, Bool.not_eq_true']
  intro e he
  exact .inr (h3 _ (Array.getElem?_eq_getElem h1) e he)
theorem go_cons {md : Region.Mode} {listed : Array Bool} {fuel t : Nat} : Region.linearise.go md ops (fuel + 1) t listed [] =
    match (Region.ready md ops listed)[t % (Region.ready md ops listed).length]? with
    | some i => i :: Region.linearise.go md ops fuel (t / (Region.ready md ops listed).length) (listed.setIfInBounds i true) []
    | none => [] := by
  simp only [Region.linearise.go]
  change (match (Region.ready md ops listed)[t % (Region.ready md ops listed).length]? with
    | some i => Region.linearise.go md ops fuel (t / (Region.ready md ops listed).length) (listed.setIfInBounds i true) [i]
    | none => [].reverse) = _
  cases (Region.ready md ops listed)[t % (Region.ready md ops listed).length]? with
  | none => rfl
  | some i => simp only []; rw [linearise_go_acc]; rfl

/-- When all quiet operations have been made, the rest comes in the order of the text. -/
theorem tail_list {md : Region.Mode} {m : Nat} (hd : DrawOk ops m) : ∀ (r q : Nat) (listed : Array Bool) (fuel t : Nat), ops.size - q = r → m ≤ q → q ≤ ops.size → listed.size = ops.size → (∀ i, i < ops.size → (listed.getD i true = true ↔ i < q)) → r ≤ fuel →
    Region.linearise.go md ops fuel t listed [] = List.range' q r := by
  intro r
  induction r with
  | zero =>
    intro q listed fuel t hr hm hq hsz hl hf
    cases fuel with
    | zero => rfl
    | succ fuel =>
      have hemp : Region.ready md ops listed = [] := by
        cases hr' : Region.ready md ops listed with
        | nil => rfl
        | cons x xs =>
          obtain ⟨h1, h2, _⟩ := mem_ready (ops := ops) (listed := listed) (i := x) (by rw [hr']; simp)
          have := (hl x h1).2 (by omega)
          rw [h2] at this; cases this
      rw [go_cons, hemp]; rfl
  | succ r ih =>
    intro q listed fuel t hr hm hq hsz hl hf
    cases fuel with
    | zero => omega
    | succ fuel =>
      have hready : ∀ x, x ∈ Region.ready md ops listed → x = q := by
        intro x hx
        obtain ⟨h1, h2, h3⟩ := mem_ready hx
        have hge : ¬ x < q := fun h => by have := (hl x h1).2 h; rw [h2] at this; cases this
        rcases Nat.lt_or_ge q x with hlt | hle
        · exfalso
          have ha := hd.tail x (by omega) h1
          -- its last edge
          have key : ∀ i j, Anc ops i j → j = x → q ≤ i → False := by
            intro i j ha
            induction ha with
            | @edge i j o e ho he hb hi =>
              intro hj hqi
              subst hj
              have := h3 o ho e he hb
              rw [hi] at this
              have hlt2 : i < ops.size := by have := hd.low _ _ ho e he; rw [hi] at this; omega
              have hq2 := (hl i hlt2).1 (by rw [Array.getD_eq_getD_getElem?] at this ⊢; rw [Array.getElem?_eq_getElem (by omega)] at this ⊢; exact this)
              omega
            | @trans i j l h k _ ih2 =>
              intro hl2 hqi
              have := h.lt hd
              exact ih2 hl2 (by omega)
          exact key _ _ ha rfl (by omega)
        · omega
      have hq1 : q ∈ Region.ready md ops listed := by
        refine ready_mem (by omega) ?_ ?_
        · cases hb : listed.getD q true with
          | false => rfl
          | true => have := (hl q (by omega)).1 hb; omega
        · intro o ho e he
          have hlt := hd.low _ _ ho e he
          have := (hl e.on (by omega)).2 hlt
          rw [Array.getD_eq_getD_getElem?] at this ⊢
          rw [Array.getElem?_eq_getElem (by omega)] at this ⊢
          exact this
      have hpick : (Region.ready md ops listed)[t % (Region.ready md ops listed).length]? = some q := by
        have hpos : 0 < (Region.ready md ops listed).length := List.length_pos_of_mem hq1
        have hlt : t % (Region.ready md ops listed).length < (Region.ready md ops listed).length := Nat.mod_lt _ hpos
        rw [List.getElem?_eq_getElem hlt]
        congr 1
        exact hready _ (List.getElem_mem hlt)
      rw [go_cons, hpick]
      simp only [List.range'_succ]
      rw [ih (q + 1) _ fuel _ (by omega) (by omega) (by omega) (by simp [hsz]) ?_ (by omega)]
      intro i hi
      rw [Array.getD_eq_getD_getElem?, Array.getElem?_setIfInBounds]
      by_cases e : q = i
      · subst e; rw [if_pos rfl, if_pos (by omega)]; simp
      · rw [if_neg e, ← Array.getD_eq_getD_getElem?, hl i hi]; omega

theorem draw_go {md : Region.Mode} {a0 b : HAct} {val : Nat → HV} {m : Nat} (hd : DrawOk ops m) (hq : ∀ j o, j < m → ops[j]? = some o → ∃ A, Agrees ops a0 val m (fun l => l < j) A ∧ QAt P base W0 β0 ops o (A.mask (o.looksAt ops)) S (val j)) (hb : Agrees ops a0 val m (fun l => l < m) b)
    (hrest : HRun P base W0 β0 f ro (.inRegion ops (List.range' m (ops.size - m)) :: k) b S R) :
    ∀ (r : Nat) (listed : Array Bool) (fuel t : Nat) (B : HAct), listed.size = ops.size → (∀ j, j < ops.size → listed.getD j true = true → j < m) → Closed ops (fun j => j < ops.size ∧ listed.getD j true = true) →
      Agrees ops a0 val m (fun j => j < ops.size ∧ listed.getD j true = true) B → ((List.range m).filter (fun j => !listed.getD j true)).length = r → r + (ops.size - m) ≤ fuel →
      HRun P base W0 β0 f ro (.inRegion ops (Region.linearise.go md ops fuel t listed []) :: k) B S R := by
  intro r
  induction r with
  | zero =>
    intro listed fuel t B hsz htail hcl hB hr hf
    have hall : ∀ j, j < m → listed.getD j true = true := by
      intro j hj
      cases hc : listed.getD j true with
      | true => rfl
      | false =>
        have : j ∈ (List.range m).filter (fun j => !listed.getD j true) := by simp only [List.mem_filter, List.mem_range]; exact ⟨hj, by rw [hc]; rfl⟩
        have := List.length_pos_of_mem this
        omega
    have hle := hd.le
    have heq : B = b := hB.eq hb fun i hi => ⟨fun _ => hi, fun _ => ⟨by omega, hall i hi⟩⟩
    rw [tail_list hd (ops.size - m) m listed fuel t rfl (Nat.le_refl _) hle hsz (fun i hi => ⟨fun h => htail i hi h, fun h => hall i h⟩) (by omega), heq]
    exact hrest
  | succ r ih =>
    intro listed fuel t B hsz htail hcl hB hr hf
    have hle := hd.le
    -- there is an operation that is ready
    have hex : ∃ j, j < m ∧ listed.getD j true = false ∧ ∀ i, i < j → listed.getD i true = true := by
      have hne : ∃ j, j < m ∧ listed.getD j true = false := by
        cases hl : (List.range m).filter (fun j => !listed.getD j true) with
        | nil => rw [hl] at hr; simp at hr
        | cons x xs =>
          have : x ∈ (List.range m).filter (fun j => !listed.getD j true) := by rw [hl]; simp
          simp only [List.mem_filter, List.mem_range, Bool.not_eq_true'] at this
          exact ⟨x, this.1, this.2⟩
      obtain ⟨j, h1, h2⟩ := hne
      induction j using Nat.strongRecOn with
      | _ j ihj =>
        by_cases hmin : ∀ i, i < j → listed.getD i true = true
        · exact ⟨j, h1, h2, hmin⟩
        · simp only [Classical.not_forall] at hmin
          obtain ⟨i, hi, hi2⟩ := hmin
          exact ihj i hi (by omega) (by simpa using hi2)
    obtain ⟨j0, hj1, hj2, hj3⟩ := hex
    have hj0 : j0 ∈ Region.ready md ops listed := by
      refine ready_mem (by omega) hj2 fun o ho e he => ?_
      have hlt := hd.low _ _ ho e he
      have := hj3 e.on hlt
      rw [Array.getD_eq_getD_getElem?] at this ⊢
      rw [Array.getElem?_eq_getElem (by omega)] at this ⊢
      exact this
    cases fuel with
    | zero => omega
    | succ fuel =>
      have hpos : 0 < (Region.ready md ops listed).length := List.length_pos_of_mem hj0
      have hlt : t % (Region.ready md ops listed).length < (Region.ready md ops listed).length := Nat.mod_lt _ hpos
      rw [go_cons, List.getElem?_eq_getElem hlt]
      simp only []
      generalize hi : (Region.ready md ops listed)[t % (Region.ready md ops listed).length] = i
      have hmem : i ∈ Region.ready md ops listed := by rw [← hi]; exact List.getElem_mem hlt
      obtain ⟨i1, i2, i3⟩ := mem_ready hmem
      have ho : ops[i]? = some ops[i] := Array.getElem?_eq_getElem i1
      have hXi : ¬ (i < ops.size ∧ listed.getD i true = true) := fun h => by rw [i2] at h; cases h.2
      -- what it waits for has been made
      have hanc : ∀ l, Anc ops l i → l < ops.size ∧ listed.getD l true = true := by
        have key : ∀ l j, Anc ops l j → j = i → l < ops.size ∧ listed.getD l true = true := by
          intro l j ha
          induction ha with
          | @edge l j o e ho2 he hb2 hi2 =>
            intro hj
            subst hj
            have hlt2 := hd.low _ _ ho2 e he
            have := i3 o ho2 e he hb2
            rw [hi2] at this hlt2
            refine ⟨by omega, ?_⟩
            rw [Array.getD_eq_getD_getElem?] at this ⊢
            rw [Array.getElem?_eq_getElem (by omega)] at this ⊢
            exact this
          | @trans l j q h k _ ih2 =>
            intro hq2
            exact hcl.anc h (ih2 hq2)
        exact fun l hl => key l i hl rfl
      -- it is a quiet one
      have him : i < m := by
        rcases Nat.lt_or_ge i m with h | h
        · exact h
        · exfalso
          rcases Nat.eq_or_lt_of_le h with h | h
          · subst h
            have := (hanc j0 (hd.head i1 j0 hj1)).2
            rw [hj2] at this; cases this
          · have := hanc (i - 1) (hd.tail i h i1)
            have := htail _ this.1 this.2
            omega
      obtain ⟨A, hA1, hA2⟩ := hq i _ him ho
      have hmask : A.mask ((ops[i]).looksAt ops) = B.mask ((ops[i]).looksAt ops) := by
        refine mask_congr (by rw [hA1.len, hB.len]) fun t2 ht2 => hA1.congr hB fun w y hw hy hdst => ?_
        rcases hd.look i w _ y t2 him hw ho hy hdst ht2 with ⟨h1, h2⟩ | ⟨h1, h2⟩
        · exact ⟨fun _ => hanc w h2, fun _ => h1⟩
        · refine ⟨fun h => by omega, fun h => ?_⟩
          exact absurd (hcl.anc h2 h) hXi
      rw [hmask] at hA2
      refine hr_quiet ho hA2 ?_
      have hget : ∀ j, j < ops.size → ((listed.setIfInBounds i true).getD j true = true ↔ (listed.getD j true = true ∨ j = i)) := by
        intro j hj
        rw [Array.getD_eq_getD_getElem?, Array.getElem?_setIfInBounds]
        by_cases e : i = j
        · subst e; rw [if_pos rfl, if_pos (by omega)]; simp
        · rw [if_neg e, ← Array.getD_eq_getD_getElem?]
          exact ⟨fun h => .inl h, fun h => h.resolve_right fun h2 => e h2.symm⟩
      have hXeq : (fun j => (j < ops.size ∧ listed.getD j true = true) ∨ j = i) = (fun j => j < ops.size ∧ (listed.setIfInBounds i true).getD j true = true) := by
        funext j
        simp only [eq_iff_iff]
        constructor
        · rintro (⟨h1, h2⟩ | rfl)
          · exact ⟨h1, (hget j h1).2 (.inl h2)⟩
          · exact ⟨i1, (hget j i1).2 (.inr rfl)⟩
        · rintro ⟨h1, h2⟩
          rcases (hget j h1).1 h2 with h | h
          · exact .inl ⟨h1, h⟩
          · exact .inr h
      refine ih _ fuel _ _ (by simp [hsz]) (fun j hj h => ?_) ?_ ?_ ?_ (by omega)
      · rcases (hget j hj).1 h with h | h
        · exact htail j hj h
        · omega
      · intro j o hXj hoj e he hb2
        have hlt2 := hd.low _ _ hoj e he
        rcases (hget j hXj.1).1 hXj.2 with h | h
        · have := hcl j o ⟨hXj.1, h⟩ hoj e he hb2
          exact ⟨this.1, (hget _ this.1).2 (.inl this.2)⟩
        · subst h
          have := hanc e.on (.edge hoj he hb2 rfl)
          exact ⟨this.1, (hget _ this.1).2 (.inl this.2)⟩
      · rw [← hXeq]
        exact hB.step hd him ho hXi
      · -- one less
        have hcount : ∀ (l : List Nat), l.Nodup → i ∈ l → (∀ j ∈ l, j < ops.size) → (l.filter (fun j => !listed.getD j true)).length = (l.filter (fun j => !(listed.setIfInBounds i true).getD j true)).length + 1 := by
          intro l
          induction l with
          | nil => intro _ h; simp at h
          | cons x l ihl =>
            intro hnd hmem2 hall
            rw [List.nodup_cons] at hnd
            have hb1 : ∀ j, j < ops.size → j ≠ i → (listed.setIfInBounds i true).getD j true = listed.getD j true := by
              intro j hj hne
              rw [Array.getD_eq_getD_getElem?, Array.getElem?_setIfInBounds, if_neg (fun e => hne e.symm), ← Array.getD_eq_getD_getElem?]
            rcases List.mem_cons.1 hmem2 with rfl | hml
            · have e1 : (!listed.getD i true) = true := by rw [i2]; rfl
              have e2 : (!(listed.setIfInBounds i true).getD i true) = false := by rw [(hget i i1).2 (.inr rfl)]; rfl
              rw [List.filter_cons_of_pos (by exact e1), List.filter_cons_of_neg (by rw [e2]; simp)]
              simp only [List.length_cons, Nat.add_right_cancel_iff]
              congr 1
              apply List.filter_congr
              intro j hj
              rw [hb1 j (hall j (by simp [hj])) (fun e => hnd.1 (e ▸ hj))]
            · have hne : x ≠ i := fun e => hnd.1 (e ▸ hml)
              have hx := hb1 x (hall x (by simp)) hne
              have := ihl hnd.2 hml (fun j hj => hall j (by simp [hj]))
              simp only [List.filter_cons, hx]
              split
              · simp only [List.length_cons]; omega
              · exact this
        have := hcount (List.range m) List.nodup_range (by simpa using him) (fun j hj => by simp at hj; omega)
        omega

/-- A region that draws its order: m quiet operations in any order, then the rest. -/
theorem q_draw {c : Code} {id m : Nat} {a b : HAct} {vs : List HV} {is : List Nat} (hc : c = .region id ops true) (hm : drawOk ops m = true) (hq : QChain P base W0 β0 ops S 0 a vs m b) (his : List.range' m (ops.size - m) = is)
    (h : HRun P base W0 β0 f ro (.inRegion ops is :: k) b S R) : HRun P base W0 β0 f ro (.code c :: k) a S R := by
  subst hc
  have hd := drawOk_out hm
  let val : Nat → HV := fun j => vs.getD j (.tup [])
  obtain ⟨_, h2⟩ := hq.spell a val (fun j _ _ => by simp [val]) hd
  obtain ⟨h3, h4⟩ := h2 ⟨rfl, rfl, fun i o t _ hX => by omega, fun t _ => rfl⟩
  intro β w a' g1 g2 g3 bb cs g4 g5 g6 g7
  obtain ⟨md, tt, hsch⟩ : ∃ md tt, Region.schedule (P.follows .mixedOrders) ops (w.tape w.drawn (.order bb.fn id)) = Region.linearise md ops tt := by
    unfold Region.schedule
    split <;> exact ⟨_, _, rfl⟩
  have hgo := draw_go (md := md) (P := P) (base := base) (W0 := W0) (β0 := β0) (f := f) (ro := ro) (k := k) (S := S) (R := R) (a0 := a) (b := b) (val := val) hd (fun j o hj ho => h3 j o (Nat.zero_le _) hj ho) h4 (by rw [his]; exact h)
    ((List.range m).filter (fun j => !(Array.replicate ops.size false).getD j true)).length (Array.replicate ops.size false) ops.size tt a (by simp) (fun j hj h => by simp [Array.getD_eq_getD_getElem?, hj] at h) (fun j o hj => by
      have := hj.2; simp [Array.getD_eq_getD_getElem?, hj.1] at this)
    ⟨rfl, rfl, fun i o t _ hX => by have := hX.2; simp [Array.getD_eq_getD_getElem?, hX.1] at this, fun t _ => rfl⟩ rfl (by
      have := List.length_filter_le (fun j => !(Array.replicate ops.size false).getD j true) (List.range m)
      simp only [List.length_range] at this
      have := hd.le
      omega)
  have hw : Rel base W0 β S { w with drawn := w.drawn + 1 } :=
    ⟨⟨g2.below.os, g2.below.tape, g2.below.output, g2.below.size, g2.below.block⟩, g2.size, g2.fresh, g2.lt, g2.objs, g2.disj⟩
  obtain ⟨β', v, S', v', w', k1, k2, k3, k4, k5⟩ := hgo β { w with drawn := w.drawn + 1 } a' g1 hw g3 bb cs g4 g5 g6 g7
  refine ⟨β', v, S', v', w', k1, k2, k3, k4, k5.of_steps (P := P) (.one ?_)⟩
  have := stepR_region_draw (P := P) (b := bb) (a := a') (k := k) (cs := cs) (w := w) (ops := ops) (id := id)
  rw [hsch] at this
  exact this
end
end Go.Proofs.YtcphapfclncggaaDoor.HL
