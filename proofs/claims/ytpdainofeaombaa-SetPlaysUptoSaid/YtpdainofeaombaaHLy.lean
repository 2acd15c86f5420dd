/- The layer HL, part 25: slices in the rows of a slice that is an argument. -/
import Derived.Test.YtpdainofeaombaaHLr
namespace Go.Proofs.Ytpdainofeaombaa.HL
open Go.RowKit Go.ChangeShapes Go.WideShapes Go.ChangeAt

/-- Kinds of cells, slices of flat rows among them. -/
inductive NK where
  | sc (k : SK)
  | sl (t e : TypeId) (ks : List SK)
/-- What a reading tells of an element's cells. -/
def ElemOk2 (P : Program) (e : TypeId) (ns : List NK) : Prop :=
  ∀ (H : Type) (enc : TypeId × Value → H) (w : World) (base : Nat) (sp : Nat → Bool) (held : Bool) (n : Nat) (cs : List Value) (x : DataW H × List MemPlace), DataW.trod enc P w base sp held n e cs = some x → cs.length = ns.length ∧
    ∀ (i : Nat) (k : NK), ns[i]? = some k → ∃ v, cs[i]? = some v ∧ match k with
      | .sc k => k.of v
      | .sl t e' ks => P.underlying t = some (.slice e') ∧ P.cellsOf e' = ks.length ∧ 0 < ks.length ∧ ElemOk P e' ks ∧ ∃ m y, DataW.trod enc P w base sp held m t [v] = some y
theorem elemOk2_sc {P : Program} {e : TypeId} {k : SK} (h : ElemOk P e [k]) : ElemOk2 P e [.sc k] := by
  intro H enc w base sp held n cs x hx
  obtain ⟨h1, h2⟩ := h H enc w base sp held n cs x hx
  refine ⟨h1, fun i q hq => ?_⟩
  cases i with
  | zero => cases hq; exact h2 0 k rfl
  | succ i => simp at hq
theorem elemOk2_sl {P : Program} {t e : TypeId} {ks : List SK} (ht : P.underlying t = some (.slice e)) (hz : P.cellsOf e = ks.length) (hz0 : 0 < ks.length) (hE : ElemOk P e ks) : ElemOk2 P t [.sl t e ks] := by
  intro H enc w base sp held n cs x hx
  have hcs : ∃ v, cs = [v] := by
    rcases DataW.trod_slice ht hx with ⟨hc, _⟩ | ⟨a, len, cap, elems, rest, n, _, hc, _⟩
    · exact ⟨_, hc⟩
    · exact ⟨_, hc⟩
  obtain ⟨v, rfl⟩ := hcs
  refine ⟨rfl, fun i q hq => ?_⟩
  cases i with
  | zero => cases hq; exact ⟨v, rfl, ht, hz, hz0, hE, n, x, hx⟩
  | succ i => simp at hq
/-- A struct, one cell a field. -/
theorem elemOk2_struct {P : Program} {e : TypeId} {fs : Array Field} {ns : List NK} (h : P.underlying e = some (.struct fs)) (hz : P.cellsOf e = ns.length) (hn : fs.size = ns.length)
    (hf : ∀ (i : Nat) (f : Field) (k : NK), fs[i]? = some f → ns[i]? = some k → f.offset = i ∧ P.cellsOf f.type = 1 ∧ ElemOk2 P f.type [k]) : ElemOk2 P e ns := by
  intro H enc w base sp held n cs x hx
  obtain ⟨xs, m, _, _, hl, hxl, hxs⟩ := DataW.trod_struct h hx
  refine ⟨hl.trans hz, fun i k hk => ?_⟩
  have hik : i < ns.length := (List.getElem?_eq_some_iff.1 hk).1
  have hif : i < fs.size := by omega
  obtain ⟨q1, q2, q3⟩ := hf i _ k (Array.getElem?_eq_getElem hif) hk
  have h1 := hxs i _ (Array.getElem?_eq_getElem hif)
  rw [q1, q2] at h1
  have hxi : xs[i]? = some xs[i] := List.getElem?_eq_getElem (by omega)
  rw [hxi] at h1
  obtain ⟨g1, g2⟩ := q3 H enc w base sp held m _ _ h1
  obtain ⟨v, hv, hkv⟩ := g2 0 k rfl
  refine ⟨v, ?_, hkv⟩
  rw [List.getElem?_take, if_pos (by omega), List.getElem?_drop] at hv
  simpa using hv
def nkOk (P : Program) (t : TypeId) (k : NK) : Bool :=
  match k with
  | .sc k => skOk P t k
  | .sl t' e ks => decide (t' = t) && (match P.underlying t with | some (.slice e') => decide (e' = e) | _ => false) && decide (P.cellsOf e = ks.length) && decide (0 < ks.length) && elemB P e ks
theorem nkOk_out {P : Program} {t : TypeId} {k : NK} (h : nkOk P t k = true) : ElemOk2 P t [k] := by
  cases k with
  | sc k => exact elemOk2_sc (skOk_out h)
  | sl t' e ks =>
    simp only [nkOk, Bool.and_eq_true, decide_eq_true_eq] at h
    obtain ⟨⟨⟨⟨h1, h2⟩, h3⟩, h4⟩, h5⟩ := h
    subst h1
    split at h2
    · rename_i e' he
      have := of_decide_eq_true h2
      subst this
      exact elemOk2_sl he h3 h4 (elemB_out h5)
    · cases h2
def elemB2 (P : Program) (e : TypeId) (ns : List NK) : Bool :=
  match P.underlying e with
  | some (.struct fs) => P.cellsOf e == ns.length && fs.size == ns.length && (List.range ns.length).all fun i => match fs[i]?, ns[i]? with
    | some f, some k => f.offset == i && P.cellsOf f.type == 1 && nkOk P f.type k
    | _, _ => false
  | _ => match ns with
    | [k] => nkOk P e k
    | _ => false
theorem elemB2_out {P : Program} {e : TypeId} {ns : List NK} (h : elemB2 P e ns = true) : ElemOk2 P e ns := by
  unfold elemB2 at h
  split at h
  · rename_i fs hfs
    simp only [Bool.and_eq_true, beq_iff_eq, List.all_eq_true, List.mem_range] at h
    obtain ⟨⟨h1, h2⟩, h3⟩ := h
    refine elemOk2_struct hfs h1 h2 fun i f k hf hk => ?_
    have := h3 i (List.getElem?_eq_some_iff.1 hk).1
    rw [hf, hk] at this
    simp only [Bool.and_eq_true, beq_iff_eq] at this
    exact ⟨this.1.1, this.1.2, nkOk_out this.2⟩
  · split at h
    · exact nkOk_out h
    · cases h

/-- Rows that are read one by one, over cells that stand there. -/
theorem read_rows {H : Type} {enc : TypeId × Value → H} {P : Program} {W : World} {base n z len : Nat} {held : Bool} {e : TypeId} {a : Addr} {Q : List Value → Prop} (hz : P.cellsOf e = z)
    (hQ : ∀ cs x, DataW.trod enc P W base (fun _ => true) held n e cs = some x → Q cs)
    (hel : ∀ i, i < len → ∃ x, (W.cells? base (a.add (i * P.cellsOf e)) (P.cellsOf e)).bind (DataW.trod enc P W base (fun _ => true) held n e) = some x) :
    ∀ i, i < len → ∃ cs, Q cs ∧ (List.range z).mapM (fun j => W.cell? ((a.add (i * z)).add j)) = some cs := by
  intro i hi
  obtain ⟨x, hx⟩ := hel i hi
  cases hcs : W.cells? base (a.add (i * P.cellsOf e)) (P.cellsOf e) with
  | none => rw [hcs] at hx; cases hx
  | some cs =>
    rw [hcs, Option.bind_some] at hx
    refine ⟨cs, hQ cs x hx, ?_⟩
    unfold World.cells? at hcs
    rw [hz] at hcs
    split at hcs
    · exact hcs
    · cases hcs
/-- Where a row is read, the block stands. -/
theorem block_of {W : World} {a : Addr} {z : Nat} {cs : List Value} (hz : 0 < z) (h : (List.range z).mapM (fun j => W.cell? ((a.add (0 * z)).add j)) = some cs) : ∃ (b o : Nat) (arr : Array Value) (ty : TypeId) (fr : Nat × Nat), a = ⟨b, o, none⟩ ∧ W.heap[b]? = some (Obj.cells arr ty fr) := by
  obtain ⟨h1, h2⟩ := mapM_range_get h
  have h3 := h2 0 hz
  rw [List.getElem?_eq_getElem (by omega)] at h3
  have e1 : ∀ x : Addr, x.add 0 = x := fun x => by
    unfold Addr.add
    simp
  rw [Nat.zero_mul, e1, e1] at h3
  obtain ⟨b, o, sp⟩ := a
  unfold World.cell? at h3
  simp only at h3
  split at h3
  · rename_i c t f hb
    cases sp with
    | none => exact ⟨b, o, c, t, f, rfl, hb⟩
    | some q => simp at h3
  · cases h3
theorem cell_at {W : World} {b o k : Nat} {arr : Array Value} {ty : TypeId} {fr : Nat × Nat} (hb : W.heap[b]? = some (.cells arr ty fr)) : W.cell? ((⟨b, o, none⟩ : Addr).add k) = arr[o + k]? := by
  rw [add_none]; simp [World.cell?, hb]
/-- A flat slice that lies in a cell. -/
theorem open_cell {H : Type} {enc : TypeId × Value → H} {P : Program} {W : World} {base n0 : Nat} {held : Bool} {t e : TypeId} {v : Value} {y : DataW H × List MemPlace} {ks : List SK} (ht : P.underlying t = some (.slice e)) (hz : P.cellsOf e = ks.length) (hz0 : 0 < ks.length) (hE : ElemOk P e ks)
    (hblk : ∃ (b : Nat) (arr : Array Value) (ty : TypeId) (fr : Nat × Nat), W.heap[b]? = some (Obj.cells arr ty fr)) (hd : DataW.trod enc P W base (fun _ => true) held n0 t [v] = some y) :
    ∃ (x : AObj) (tg : Tgt) (sl : Nat → Sl) (rows : List (List HV)), ArgOk W x tg ∧ (∀ β id, β id = tg → VRel β (sl id).hv v) ∧ (∀ S id, S.heap id = objOf x → id < S.next → ArgSl S ks.length (sl id) rows) ∧ (∀ row ∈ rows, RowFits ks row) := by
  rcases DataW.trod_slice ht hd with ⟨hc, _⟩ | ⟨a, len, cap, elems, rest, n, _, hc, _, hbb, hle, hm, hlen, hel, hsp, _⟩
  · obtain rfl : v = .slice none 0 0 := by simpa using hc
    exact ⟨none, .none, fun _ => Sl.nil, [], .none, fun β id _ => .slNil none, fun S id _ _ => .nil, fun _ h => by simp at h⟩
  · obtain rfl : v = .slice (some a) len cap := by simpa using hc
    obtain ⟨hrl, hrest⟩ := hsp rfl
    have hall : ∀ i, i < cap → ∃ x, (W.cells? base (a.add (i * P.cellsOf e)) (P.cellsOf e)).bind (DataW.trod enc P W base (fun _ => true) held n e) = some x := fun i hi => by
      by_cases hil : i < len
      · exact ⟨_, (hel i hil).trans (List.getElem?_eq_getElem (by omega))⟩
      · have h2 := hrest (i - len) (by omega)
        rw [show len + (i - len) = i by omega] at h2
        exact ⟨_, h2.trans (List.getElem?_eq_getElem (by omega))⟩
    by_cases hcap : cap = 0
    · obtain ⟨b, arr, ty, fr, hb⟩ := hblk
      obtain rfl : len = 0 := by omega
      subst hcap
      refine ⟨some (ks.length, []), .mem b 0 ks.length 0 arr.size, fun id => ⟨some (id, 0), 0, none⟩, [], .mem hb (by simp) hz0 (fun β i row hr => by simp at hr), fun β id hβ => .slEnd (off := 0) hβ (Nat.le_refl _) (fun _ => Nat.le_refl _) (fun q hq => by cases hq), fun S id hS hl => ?_, fun _ h => by simp at h⟩
      exact .at_ (rows := []) hS hl
    · have hrow := read_rows (z := ks.length) (Q := fun cs => cs.length = ks.length ∧ ∀ (i : Nat) (k : SK), ks[i]? = some k → ∃ v, cs[i]? = some v ∧ k.of v) hz (fun cs x h => hE H enc W base _ held n cs x h) hall
      obtain ⟨cs0, _, h0⟩ := hrow 0 (by omega)
      obtain ⟨b, o, arr, ty, fr, rfl, hb⟩ := block_of hz0 h0
      have hcells : ∀ i, i < cap → ∃ row, RowFits ks row ∧ ∀ (j : Nat) (u : HV), row[j]? = some u → u.flat = true ∧ ∃ u', arr[o + i * ks.length + j]? = some u' ∧ ∀ β, VRel β u u' := by
        intro i hi
        obtain ⟨cs, ⟨k1, k2⟩, h1⟩ := hrow i hi
        obtain ⟨g1, g2⟩ := mapM_range_get h1
        obtain ⟨row, r1, r2⟩ := rowOf k1 k2
        refine ⟨row, r1, fun j u hu => ?_⟩
        obtain ⟨f1, u', f2, f3⟩ := r2 j u hu
        have hj : j < ks.length := by
          have := (List.getElem?_eq_some_iff.1 hu).1
          rw [r1.len] at this; exact this
        refine ⟨f1, u', ?_, f3⟩
        have := g2 j hj
        rw [f2] at this
        have e2 : ((⟨b, o, none⟩ : Addr).add (i * ks.length)).add j = (⟨b, o, none⟩ : Addr).add (i * ks.length + j) := by rw [add_none, add_none, add_none, Nat.add_assoc]
        rw [e2, cell_at hb] at this
        rw [Nat.add_assoc]; exact this
      have key : ∀ m, m ≤ len → ∃ rows : List (List HV), rows.length = m ∧ (∀ row ∈ rows, RowFits ks row) ∧ ∀ β, RowsRel β rows arr o ks.length := by
        intro m
        induction m with
        | zero => intro _; exact ⟨[], rfl, fun _ h => by simp at h, fun β i row h => by simp at h⟩
        | succ m ih =>
          intro hm2
          obtain ⟨rows, h1, h2, h3⟩ := ih (by omega)
          obtain ⟨row, r1, r2⟩ := hcells m (by omega)
          refine ⟨rows ++ [row], by simp [h1], fun q hq => ?_, fun β i q hq => ?_⟩
          · rcases List.mem_append.1 hq with h | h
            · exact h2 q h
            · simp at h; subst h; exact r1
          · by_cases hi : i < rows.length
            · rw [List.getElem?_append_left hi] at hq
              exact h3 β i q hq
            · rw [List.getElem?_append_right (by omega)] at hq
              have hi2 : i - rows.length = 0 := by
                have := (List.getElem?_eq_some_iff.1 hq).1
                simp at this; omega
              rw [hi2] at hq
              simp at hq
              subst hq
              have : i = m := by omega
              subst this
              refine ⟨r1.len, fun j u hu => ?_⟩
              obtain ⟨f1, u', f2, f3⟩ := r2 j u hu
              exact ⟨f1, u', f2, f3 β⟩
      obtain ⟨rows, h1, h2, h3⟩ := key len (Nat.le_refl _)
      have hend : o + cap * ks.length ≤ arr.size := by
        obtain ⟨row, r1, r2⟩ := hcells (cap - 1) (by omega)
        have hj : ks.length - 1 < row.length := by rw [r1.len]; omega
        obtain ⟨_, u', f2, _⟩ := r2 (ks.length - 1) _ (List.getElem?_eq_getElem hj)
        have := (Array.getElem?_eq_some_iff.1 f2).1
        have e3 : cap * ks.length = (cap - 1) * ks.length + ks.length := by
          obtain ⟨q, rfl⟩ : ∃ q, cap = q + 1 := ⟨cap - 1, by omega⟩
          simp [Nat.succ_mul]
        omega
      have hle2 : len * ks.length ≤ cap * ks.length := Nat.mul_le_mul_right _ hle
      refine ⟨some (ks.length, rows), .mem b o ks.length rows.length arr.size, fun id => ⟨some (id, 0), rows.length, none⟩, rows, .mem hb (by rw [h1]; omega) hz0 h3, fun β id hβ => ?_, fun S id hS hl => .at_ hS hl, h2⟩
      have := VRel.sl (off := 0) (c := none) (len := rows.length) (cap := cap) hβ (by omega) (by omega) (fun _ => by omega) (fun q hq => by cases hq) (by rw [Nat.zero_add]; exact hend)
      simp only [Nat.zero_mul, Nat.add_zero] at this
      rw [h1] at this ⊢
      exact this
/-! ### rows with slices in them -/
def NFits (S : HS) : List NK → List HV → Prop
  | [], [] => True
  | .sc k :: ns, v :: vs => k.fits v ∧ NFits S ns vs
  | .sl _ _ ks :: ns, v :: vs => (∃ (s : Sl) (rows : List (List HV)), v = s.hv ∧ ArgSl S ks.length s rows ∧ ∀ row ∈ rows, RowFits ks row) ∧ NFits S ns vs
  | _, _ => False
/-- Where the inner slices' blocks are. -/
def InB (m : Nat) (itg : List Tgt) (β : Bt) : Prop := ∀ (j : Nat) (t : Tgt), itg[j]? = some t → β (m + j) = t
def InS (m : Nat) (inner : List AObj) (S : HS) : Prop := (∀ (j : Nat) (x : AObj), inner[j]? = some x → S.heap (m + j) = objOf x) ∧ m + inner.length ≤ S.next
def InOk (W : World) (inner : List AObj) (itg : List Tgt) : Prop := inner.length = itg.length ∧ ∀ (i : Nat) (x : AObj) (t : Tgt), inner[i]? = some x → itg[i]? = some t → ArgOk W x t
theorem InOk.app {W : World} {a b : List AObj} {s t : List Tgt} (h : InOk W a s) (k : InOk W b t) : InOk W (a ++ b) (s ++ t) := by
  refine ⟨by simp [h.1, k.1], fun i x u h1 h2 => ?_⟩
  have e := h.1
  by_cases hi : i < a.length
  · rw [List.getElem?_append_left hi] at h1
    rw [List.getElem?_append_left (by omega)] at h2
    exact h.2 i x u h1 h2
  · rw [List.getElem?_append_right (by omega)] at h1
    rw [List.getElem?_append_right (by omega), ← e] at h2
    exact k.2 _ x u h1 h2
theorem InB.left {m : Nat} {s t : List Tgt} {β : Bt} (h : InB m (s ++ t) β) : InB m s β := fun j u hj => h j u (by rw [List.getElem?_append_left (List.getElem?_eq_some_iff.1 hj).1]; exact hj)
theorem InB.right {m : Nat} {s t : List Tgt} {β : Bt} (h : InB m (s ++ t) β) : InB (m + s.length) t β := fun j u hj => by
  have := h (s.length + j) u (by rw [List.getElem?_append_right (by omega)]; simpa using hj)
  rw [Nat.add_assoc]; exact this
theorem InS.left {m : Nat} {a b : List AObj} {S : HS} (h : InS m (a ++ b) S) : InS m a S := ⟨fun j x hj => h.1 j x (by rw [List.getElem?_append_left (List.getElem?_eq_some_iff.1 hj).1]; exact hj), by have := h.2; rw [List.length_append] at this; omega⟩
theorem InS.right {m : Nat} {a b : List AObj} {S : HS} (h : InS m (a ++ b) S) : InS (m + a.length) b S := ⟨fun j x hj => by
  have := h.1 (a.length + j) x (by rw [List.getElem?_append_right (by omega)]; simpa using hj)
  rw [Nat.add_assoc]; exact this, by have := h.2; rw [List.length_append] at this; omega⟩
def CellIs (P : Program) (H : Type) (enc : TypeId × Value → H) (W : World) (base : Nat) (held : Bool) (k : NK) (v : Value) : Prop := match k with
  | .sc k => k.of v
  | .sl t e' ks => P.underlying t = some (.slice e') ∧ P.cellsOf e' = ks.length ∧ 0 < ks.length ∧ ElemOk P e' ks ∧ ∃ m y, DataW.trod enc P W base (fun _ => true) held m t [v] = some y
theorem rowN {H : Type} {enc : TypeId × Value → H} {P : Program} {W : World} {base : Nat} {held : Bool} (hblk : ∃ (b : Nat) (arr : Array Value) (ty : TypeId) (fr : Nat × Nat), W.heap[b]? = some (Obj.cells arr ty fr)) :
    ∀ {ns : List NK} {cs : List Value} (m : Nat), cs.length = ns.length → (∀ (i : Nat) (k : NK), ns[i]? = some k → ∃ v, cs[i]? = some v ∧ CellIs P H enc W base held k v) →
      ∃ (inner : List AObj) (itg : List Tgt) (row : List HV), InOk W inner itg ∧ row.length = ns.length ∧ (∀ β, InB m itg β → ∀ (i : Nat) (v : HV), row[i]? = some v → v.flat = true ∧ ∃ v', cs[i]? = some v' ∧ VRel β v v') ∧ (∀ S, InS m inner S → NFits S ns row) := by
  intro ns
  induction ns with
  | nil => intro cs m _ _; exact ⟨[], [], [], ⟨rfl, fun i x t h => by simp at h⟩, rfl, fun β _ i v h => by simp at h, fun S _ => trivial⟩
  | cons k ns ih =>
    intro cs m hl h
    cases cs with
    | nil => simp at hl
    | cons c cs =>
      obtain ⟨v, hv, hk⟩ := h 0 k rfl
      simp only [List.getElem?_cons_zero, Option.some.injEq] at hv
      subst hv
      cases k with
      | sc k =>
        obtain ⟨inner, itg, row, a1, a2, a3, a4⟩ := ih (cs := cs) m (by simpa using hl) (fun i q hq => by simpa using h (i + 1) q (by simpa using hq))
        obtain ⟨u, u1, u2, u3⟩ := SK.get (k := k) hk
        refine ⟨inner, itg, u :: row, a1, by simp [a2], fun β hβ i v hv => ?_, fun S hS => ⟨u1, a4 S hS⟩⟩
        cases i with
        | zero => simp at hv; subst hv; exact ⟨u2, _, rfl, u3 β⟩
        | succ i => simpa using a3 β hβ i v (by simpa using hv)
      | sl t e ks =>
        obtain ⟨ht, hz, hz0, hE, n0, y, hd⟩ := hk
        obtain ⟨x, tg, sl, rows, b1, b2, b3, b4⟩ := open_cell ht hz hz0 hE hblk hd
        obtain ⟨inner, itg, row, a1, a2, a3, a4⟩ := ih (cs := cs) (m + 1) (by simpa using hl) (fun i q hq => by simpa using h (i + 1) q (by simpa using hq))
        have hok : InOk W [x] [tg] := ⟨rfl, fun i x' t' h1 h2 => by
          cases i with
          | zero => simp at h1 h2; subst h1 h2; exact b1
          | succ i => simp at h1⟩
        refine ⟨[x] ++ inner, [tg] ++ itg, (sl m).hv :: row, hok.app a1, by simp [a2], fun β hβ i v hv => ?_, fun S hS => ⟨⟨sl m, rows, rfl, b3 S m ?_ ?_, b4⟩, a4 S hS.right⟩⟩
        · cases i with
          | zero =>
            simp at hv
            subst hv
            exact ⟨rfl, _, rfl, b2 β m (by simpa using hβ 0 tg rfl)⟩
          | succ i => simpa using a3 β hβ.right i v (by simpa using hv)
        · simpa using hS.1 0 x rfl
        · have := hS.2; simp at this; omega
inductive ArgOkB (W : World) (B : Bt → Prop) : AObj → Tgt → Prop
  | none : ArgOkB W B none .none
  | mem {z : Nat} {rows : List (List HV)} {b o : Nat} {arr : Array Value} {ty : TypeId} {fr : Nat × Nat} (h : W.heap[b]? = some (.cells arr ty fr)) (h1 : o + rows.length * z ≤ arr.size) (hz : 0 < z) (hr : ∀ β, B β → RowsRel β rows arr o z) : ArgOkB W B (some (z, rows)) (.mem b o z rows.length arr.size)
theorem ArgOk.B {W : World} {B : Bt → Prop} {x : AObj} {t : Tgt} (h : ArgOk W x t) : ArgOkB W B x t := by
  cases h with
  | none => exact .none
  | mem q1 q2 q3 q4 => exact .mem q1 q2 q3 fun β _ => q4 β
theorem relB {W : World} {B : Bt → Prop} {l : List AObj} {ts : List Tgt} (hl : l.length = ts.length) (hB : B (BA ts)) (h : ∀ (i : Nat) (x : AObj) (t : Tgt), l[i]? = some x → ts[i]? = some t → ArgOkB W B x t) : Rel W.heap.size W (BA ts) (SA l) W := by
  have hat : ∀ i, i < l.length → ∃ x t, l[i]? = some x ∧ ts[i]? = some t ∧ ArgOkB W B x t := fun i hi => ⟨_, _, List.getElem?_eq_getElem hi, List.getElem?_eq_getElem (by omega), h i _ _ (List.getElem?_eq_getElem hi) (List.getElem?_eq_getElem (by omega))⟩
  have hout : ∀ i, l.length ≤ i → BA ts i = .none ∧ (SA l).heap i = .dead := fun i hi => by
    simp only [BA, SA]
    rw [List.getElem?_eq_none hi, List.getElem?_eq_none (by omega)]
    exact ⟨rfl, rfl⟩
  refine ⟨Below.refl _ _, Nat.le_refl _, fun i hi => hout i hi, fun i b hb => ?_, fun i => ?_, fun i j b _ ho => ?_⟩
  · by_cases hi : i < l.length
    · obtain ⟨x, t, h1, h2, h3⟩ := hat i hi
      simp only [BA, h2] at hb
      cases h3 with
      | none => simp [Tgt.block] at hb
      | mem q1 _ _ _ =>
        simp [Tgt.block] at hb
        subst hb
        exact (Array.getElem?_eq_some_iff.1 q1).1
    · rw [(hout i (by omega)).1] at hb
      simp [Tgt.block] at hb
  · by_cases hi : i < l.length
    · obtain ⟨x, t, h1, h2, h3⟩ := hat i hi
      simp only [SA, h1]
      cases h3 with
      | none => exact trivial
      | mem q1 q2 q3 q4 => exact ⟨_, _, _, _, _, _, by simp only [BA, h2], q1, rfl, q2, q3, q4 _ hB, fun h => by cases h⟩
    · rw [(hout i (by omega)).2]; exact trivial
  · exfalso
    by_cases hi : i < l.length
    · obtain ⟨x, t, h1, h2, h3⟩ := hat i hi
      simp only [SA, h1] at ho
      cases h3 <;> simp [objOf, HObj.own] at ho
    · rw [(hout i (by omega)).2] at ho
      simp [HObj.own] at ho
/-- A slice that is an argument, slices in its rows; these come from m on. -/
theorem open_nest {H : Type} {enc : TypeId × Value → H} {P : Program} {W : World} {r : Reach} {b0 base : Nat} {held : Bool} {t e : TypeId} {v : Value} {d : DataW H} {ps : List MemPlace} {ns : List NK} (m : Nat) (ht : P.underlying t = some (.slice e)) (hz : P.cellsOf e = ns.length) (hz0 : 0 < ns.length) (hE : ElemOk2 P e ns)
    (hval : Value.okWide P W r b0 t v) (hd : DataW.Trod enc P W base (fun _ => true) held t v d ps) :
    ∃ (x : AObj) (tg : Tgt) (sl : Nat → Sl) (rows : List (List HV)) (inner : List AObj) (itg : List Tgt), InOk W inner itg ∧ ArgOkB W (InB m itg) x tg ∧ (∀ β id, β id = tg → VRel β (sl id).hv v) ∧ (∀ S id, S.heap id = objOf x → id < S.next → ArgSl S ns.length (sl id) rows) ∧ (∀ S, InS m inner S → ∀ row ∈ rows, NFits S ns row) := by
  obtain ⟨fuel, hf⟩ := hd
  obtain ⟨a0, len0, cap0, hv⟩ := okWide_slice ht hval
  rcases DataW.trod_slice ht hf with ⟨hc, _⟩ | ⟨a, len, cap, elems, rest, n, _, hc, _, hbb, hle, hm, hlen, hel, hsp, _⟩
  · obtain rfl : v = .slice none 0 0 := by
      subst hv
      simpa [Value.cells] using hc
    exact ⟨none, .none, fun _ => Sl.nil, [], [], [], ⟨rfl, fun i x t h => by simp at h⟩, .none, fun β id _ => .slNil none, fun S id _ _ => .nil, fun _ _ _ h => by simp at h⟩
  · have hv2 : v = .slice (some a) len cap := by
      rw [hv] at hc ⊢
      simp only [Value.cells] at hc
      simpa using hc
    clear hc hf
    subst hv2
    have hhas : W.has P r b0 a e cap := by
      simp only [Value.okWide, ht, Cell.okWide, Cell.ok] at hval
      exact hval.2.2
    obtain ⟨_, hspot, row0, cells0, hshape, _⟩ := hhas
    obtain ⟨ab, ao, rfl⟩ : ∃ b o, a = ⟨b, o, none⟩ := ⟨a.block, a.off, by cases a; simp at hspot; subst hspot; rfl⟩
    simp only at hshape hbb hel
    obtain ⟨arr, ty, fr, hblock, hcs⟩ : ∃ arr ty fr, W.heap[ab]? = some (.cells arr ty fr) ∧ arr.size = cells0 := by
      unfold World.shape? at hshape
      split at hshape
      · rename_i c el f hb; cases hshape; exact ⟨_, _, _, hb, rfl⟩
      · cases hshape
    obtain ⟨hrl, hrest⟩ := hsp rfl
    have hall : ∀ i, i < cap → ∃ x, (W.cells? base ((⟨ab, ao, none⟩ : Addr).add (i * P.cellsOf e)) (P.cellsOf e)).bind (DataW.trod enc P W base (fun _ => true) held n e) = some x := fun i hi => by
      by_cases hil : i < len
      · exact ⟨_, (hel i hil).trans (List.getElem?_eq_getElem (by omega))⟩
      · have h2 := hrest (i - len) (by omega)
        rw [show len + (i - len) = i by omega] at h2
        exact ⟨_, h2.trans (List.getElem?_eq_getElem (by omega))⟩
    have hrow := read_rows (z := ns.length) (Q := fun cs => cs.length = ns.length ∧ ∀ (i : Nat) (k : NK), ns[i]? = some k → ∃ v, cs[i]? = some v ∧ CellIs P H enc W base held k v) hz (fun cs x h => hE H enc W base _ held n cs x h) hall
    have hat : ∀ i cs, (List.range ns.length).mapM (fun j => W.cell? (((⟨ab, ao, none⟩ : Addr).add (i * ns.length)).add j)) = some cs → cs.length = ns.length ∧ ∀ j, j < ns.length → arr[ao + i * ns.length + j]? = cs[j]? := fun i cs h => by
      obtain ⟨g1, g2⟩ := mapM_range_get h
      refine ⟨g1, fun j hj => ?_⟩
      have := g2 j hj
      have e2 : ((⟨ab, ao, none⟩ : Addr).add (i * ns.length)).add j = (⟨ab, ao, none⟩ : Addr).add (i * ns.length + j) := by rw [add_none, add_none, add_none, Nat.add_assoc]
      rw [e2, cell_at hblock] at this
      rw [Nat.add_assoc]; exact this
    have key : ∀ q, q ≤ len → ∃ (rows : List (List HV)) (inner : List AObj) (itg : List Tgt), rows.length = q ∧ InOk W inner itg ∧ (∀ S, InS m inner S → ∀ row ∈ rows, NFits S ns row) ∧ ∀ β, InB m itg β → RowsRel β rows arr ao ns.length := by
      intro q
      induction q with
      | zero => intro _; exact ⟨[], [], [], rfl, ⟨rfl, fun i x t h => by simp at h⟩, fun _ _ _ h => by simp at h, fun β _ i row h => by simp at h⟩
      | succ q ih =>
        intro hm2
        obtain ⟨rows, inner, itg, h1, h2, h3, h4⟩ := ih (by omega)
        obtain ⟨cs, ⟨k1, k2⟩, hcsr⟩ := hrow q (by omega)
        obtain ⟨g1, g2⟩ := hat q cs hcsr
        obtain ⟨inner2, itg2, row, r1, r2, r3, r4⟩ := rowN (H := H) (enc := enc) ⟨ab, arr, ty, fr, hblock⟩ (m + inner.length) k1 k2
        refine ⟨rows ++ [row], inner ++ inner2, itg ++ itg2, by simp [h1], h2.app r1, fun S hS x hx => ?_, fun β hβ i x hx => ?_⟩
        · rcases List.mem_append.1 hx with h | h
          · exact h3 S hS.left x h
          · simp at h; subst h; exact r4 S hS.right
        · by_cases hi : i < rows.length
          · rw [List.getElem?_append_left hi] at hx
            exact h4 β hβ.left i x hx
          · rw [List.getElem?_append_right (by omega)] at hx
            have hi2 : i - rows.length = 0 := by
              have := (List.getElem?_eq_some_iff.1 hx).1
              simp at this; omega
            rw [hi2] at hx
            simp at hx
            subst hx
            have : i = q := by omega
            subst this
            refine ⟨r2, fun j u hu => ?_⟩
            have hβ2 := hβ.right
            rw [← h2.1] at hβ2
            obtain ⟨f1, u', f2, f3⟩ := r3 β hβ2 j u hu
            have hj : j < ns.length := by
              have := (List.getElem?_eq_some_iff.1 hu).1
              omega
            exact ⟨f1, u', (g2 j hj).trans f2, f3⟩
    obtain ⟨rows, inner, itg, h1, h2, h3, h4⟩ := key len (Nat.le_refl _)
    by_cases hcap : cap = 0
    · obtain rfl : len = 0 := by omega
      have hr0 : rows = [] := List.length_eq_zero_iff.1 h1
      subst hr0
      subst hcap
      refine ⟨some (ns.length, []), .mem ab 0 ns.length 0 arr.size, fun id => ⟨some (id, 0), 0, none⟩, [], inner, itg, h2, .mem hblock (by simp) hz0 (fun β _ i row hr => by simp at hr), fun β id hβ => .slEnd (off := 0) hβ (Nat.le_refl _) (fun _ => Nat.le_refl _) (fun q hq => by cases hq), fun S id hS hl => ?_, fun _ _ _ h => by simp at h⟩
      exact .at_ (rows := []) hS hl
    · have hend : ao + cap * ns.length ≤ arr.size := by
        obtain ⟨cs, ⟨k1, _⟩, hcsr⟩ := hrow (cap - 1) (by omega)
        obtain ⟨g1, g2⟩ := hat (cap - 1) cs hcsr
        have f2 := g2 (ns.length - 1) (by omega)
        rw [List.getElem?_eq_getElem (by omega)] at f2
        have := (Array.getElem?_eq_some_iff.1 f2).1
        have e3 : cap * ns.length = (cap - 1) * ns.length + ns.length := by
          obtain ⟨q, rfl⟩ : ∃ q, cap = q + 1 := ⟨cap - 1, by omega⟩
          simp [Nat.succ_mul]
        omega
      have hle2 : len * ns.length ≤ cap * ns.length := Nat.mul_le_mul_right _ hle
      refine ⟨some (ns.length, rows), .mem ab ao ns.length rows.length arr.size, fun id => ⟨some (id, 0), rows.length, none⟩, rows, inner, itg, h2, .mem hblock (by rw [h1]; omega) hz0 h4, fun β id hβ => ?_, fun S id hS hl => .at_ hS hl, h3⟩
      have := VRel.sl (off := 0) (c := none) (len := rows.length) (cap := cap) hβ (by omega) (by omega) (fun _ => by omega) (fun q hq => by cases hq) (by rw [Nat.zero_add]; exact hend)
      simp only [Nat.zero_mul, Nat.add_zero] at this
      rw [h1] at this ⊢
      exact this
/-- One such argument, its inner slices behind it. -/
theorem relN {W : World} {x : AObj} {t : Tgt} {inner : List AObj} {itg : List Tgt} (h : InOk W inner itg) (hx : ArgOkB W (InB 1 itg) x t) : Rel W.heap.size W (BA (t :: itg)) (SA (x :: inner)) W := by
  refine relB (B := InB 1 itg) (by simp [h.1]) (fun j u hj => ?_) (fun i y u h1 h2 => ?_)
  · simp only [BA, Nat.add_comm 1 j, List.getElem?_cons_succ, hj]
  · cases i with
    | zero => simp at h1 h2; subst h1 h2; exact hx
    | succ i => exact (h.2 i y u (by simpa using h1) (by simpa using h2)).B
theorem inS_of (x : AObj) (inner : List AObj) : InS 1 inner (SA (x :: inner)) := by
  refine ⟨fun j y hj => ?_, by simp [SA]; omega⟩
  simp only [SA, Nat.add_comm 1 j, List.getElem?_cons_succ, hj]
end Go.Proofs.Ytpdainofeaombaa.HL
