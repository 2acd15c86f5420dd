/- The layer HL, part 8: append, make, literals, copy, texts and bytes. -/
import Derived.Test.YtcphapfclncggaaDoorHLg
namespace Go.Proofs.YtcphapfclncggaaDoor.HL
set_option linter.unusedVariables false
open Go.RowKit (Below)
section
variable {P : Program} {base : Nat} {W0 : World} {a : HAct} {S : HS} {o : Oper} {β : Bt} {w : World}

theorem HS.put_newM_comm {S : HS} {id : Nat} {o o' : HObj} {m : Nat} (h : id ≠ S.next) : (S.newM o m).put id o' = (S.put id o').newM o m := by
  have : (fun i => if i = id then o' else if i = S.next then o else S.heap i) = (fun i => if i = S.next then o else if i = id then o' else S.heap i) := by
    funext i
    by_cases e1 : i = id
    · subst e1; rw [if_pos rfl, if_neg h, if_pos rfl]
    · rw [if_neg e1, if_neg e1]
  show ({ heap := fun i => if i = id then o' else if i = S.next then o else S.heap i, next := S.next + 1, mrk := fun i => if i = S.next then m else S.mrk i } : HS) = { heap := fun i => if i = S.next then o else if i = id then o' else S.heap i, next := S.next + 1, mrk := fun i => if i = S.next then m else S.mrk i }
  rw [this]
theorem HS.put_new_comm {S : HS} {id : Nat} {o o' : HObj} (h : id ≠ S.next) : (S.new o).put id o' = (S.put id o').new o := HS.put_newM_comm h
theorem Rel.drawn (h : Rel base W0 β S w) (d : Nat) : Rel base W0 β S { w with drawn := d } :=
  ⟨⟨h.below.os, h.below.tape, h.below.output, h.below.size, h.below.block⟩, h.size, h.fresh, h.lt, h.objs, h.disj⟩

/-- An object of the call's own lives on under a new name, in the same block. -/
theorem Rel.rename (h : Rel base W0 β S w) {id z : Nat} {rows : List (List HV)} (hS : S.heap id = .cells z rows true) {b o n tot : Nat} {arr arr' : Array Value} {t : TypeId} {fr : Nat × Nat} (hb : β id = .mem b o z n tot) (hw : w.heap[b]? = some (.cells arr t fr))
    (hsz : arr'.size = arr.size) {o' : Nat} {rows' : List (List HV)} (hrel : RowsRel β rows' arr' o' z) (htot : o' + rows'.length * z ≤ tot) (hone : ∀ v' ∈ arr'.toList, v'.oneCell' = true) {m : Nat} (hm : MkOk (S.mrk id) t fr o → MkOk m t fr o') :
    ∃ β', Le β β' ∧ β' S.next = .mem b o' z rows'.length tot ∧ Rel base W0 β' ((S.put id .dead).newM (.cells z rows' true) m) (World.setRow w b arr' t fr) := by
  have ho := h.objs id
  rw [hS] at ho
  obtain ⟨b1, o1, tot1, arr1, t1, fr1, q1, q2, q3, q4, q5, q6, q7⟩ := ho
  rw [hb] at q1
  cases q1
  rw [hw] at q2
  cases q2
  obtain ⟨hbase, hfr, _, hmk⟩ := q7 rfl
  have hbid : (β id).block = some b := by rw [hb]; rfl
  let β' : Bt := fun i => if i = S.next then .mem b o' z rows'.length tot else β i
  have hle : Le β β' := fun i hi => by
    have : i ≠ S.next := fun e => hi (by rw [e]; exact (h.fresh S.next (Nat.le_refl _)).1)
    simp [β', this]
  have hat : β' S.next = .mem b o' z rows'.length tot := by simp [β']
  have hoth : ∀ i, i ≠ S.next → β' i = β i := fun i hi => by simp [β', hi]
  have hget : ∀ j, j ≠ b → (World.setRow w b arr' t fr).heap[j]? = w.heap[j]? := fun j hj => by
    simp only [World.setRow]
    rw [Array.getElem?_setIfInBounds, if_neg (fun e => hj e.symm)]
  have hheap : ∀ i, ((S.put id .dead).newM (.cells z rows' true) m).heap i = if i = S.next then .cells z rows' true else if i = id then .dead else S.heap i := fun i => rfl
  have hmks : ∀ i, ((S.put id .dead).newM (.cells z rows' true) m).mrk i = if i = S.next then m else S.mrk i := fun i => rfl
  refine ⟨β', hle, hat, h.below.trans ⟨rfl, rfl, rfl, by simp [World.setRow], fun j hj => hget j (by omega)⟩, by simpa [World.setRow] using h.size, fun i hi => ?_, fun i c hc => ?_, fun i => ?_, fun i j c hij h1 h2 h3 => ?_⟩
  · simp only [HS.newM, HS.put] at hi
    have hf := h.fresh i (by omega)
    rw [hoth i (by omega), hheap, if_neg (by omega)]
    refine ⟨hf.1, ?_⟩
    split
    · rfl
    · exact hf.2
  · have e0 : (World.setRow w b arr' t fr).heap.size = w.heap.size := by simp [World.setRow]
    rw [e0]
    by_cases e : i = S.next
    · rw [e, hat] at hc; cases hc; exact h.lt id b hbid
    · rw [hoth i e] at hc; exact h.lt i c hc
  · rw [hheap, hmks]
    by_cases e : i = S.next
    · subst e
      rw [if_pos rfl, if_pos rfl]
      have hmk2 := hm hmk
      exact ⟨b, o', tot, arr', t, fr, hat, setRow_at hw, hsz.trans q3, htot, q5, hrel.mono hle, fun _ => ⟨hbase, hfr, hone, hmk2⟩⟩
    · rw [if_neg e, if_neg e]
      by_cases e2 : i = id
      · rw [if_pos e2]; trivial
      · rw [if_neg e2]
        have h1 := h.objs i
        have hne : ∀ b1, (S.heap i).alive = true → (β i).block = some b1 → b1 ≠ b := fun b1 hal hb1 e1 =>
          h.disj id i b (fun e3 => e2 e3.symm) (by rw [hS]; rfl) hal hbid (by rw [hb1, e1])
        cases hSi : S.heap i with
        | dead => trivial
        | cells z1 rows1 own1 =>
          rw [hSi] at h1 hne
          obtain ⟨b1, o1, tot1, arr1, ty1, fr1, r1, r2, r3, r4, r5, r6, r7⟩ := h1
          exact ⟨b1, o1, tot1, arr1, ty1, fr1, (hoth i e).trans r1, (hget b1 (hne b1 rfl (by rw [r1]; rfl))).trans r2, r3, r4, r5, r6.mono hle, r7⟩
        | map es =>
          rw [hSi] at h1 hne
          obtain ⟨b1, es', clk, r1, r2, r3, r4⟩ := h1
          exact ⟨b1, es', clk, (hoth i e).trans r1, r2, (hget b1 (hne b1 rfl (by rw [r1]; rfl))).trans r3, r4.mono hle⟩
        | loop st pend =>
          rw [hSi] at h1 hne
          obtain ⟨b1, L, r1, r2, r3⟩ := h1
          exact ⟨b1, L, (hoth i e).trans r1, r2, (hget b1 (hne b1 rfl (by rw [r1]; rfl))).trans r3⟩
        | defer =>
          rw [hSi] at h1 hne
          obtain ⟨b1, r1, r2, r3⟩ := h1
          exact ⟨b1, (hoth i e).trans r1, r2, (hget b1 (hne b1 rfl (by rw [r1]; rfl))).trans r3⟩
  · rw [hheap] at h1 h2
    by_cases e1 : i = S.next
    · subst e1
      rw [hat] at h3
      cases h3
      rw [if_neg (fun e => hij e.symm)] at h2
      by_cases e2 : j = id
      · rw [if_pos e2] at h2; cases h2
      · rw [if_neg e2] at h2
        rw [hoth j (fun e => hij e.symm)]
        exact h.disj id j b (fun e => e2 e.symm) (by rw [hS]; rfl) h2 hbid
    · rw [if_neg e1] at h1
      rw [hoth i e1] at h3
      by_cases e2 : i = id
      · rw [if_pos e2] at h1; cases h1
      · rw [if_neg e2] at h1
        by_cases e3 : j = S.next
        · rw [e3, hat]
          intro hc
          cases hc
          exact h.disj i id b e2 h1 (by rw [hS]; rfl) h3 hbid
        · rw [if_neg e3] at h2
          rw [hoth j e3]
          by_cases e4 : j = id
          · rw [if_pos e4] at h2; cases h2
          · rw [if_neg e4] at h2
            exact h.disj i j c hij h1 h2 h3

/-- A mark may be said of what has none. -/
theorem Rel.mark (h : Rel base W0 β S w) {S' : HS} (hh : S'.heap = S.heap) (hn : S'.next = S.next) (hm : ∀ i, MkLe (S'.mrk i) (S.mrk i)) : Rel base W0 β S' w := by
  refine ⟨h.below, h.size, fun i hi => by rw [hh]; exact h.fresh i (by omega), h.lt, fun i => ?_, fun i j b hij h1 h2 => ?_⟩
  · have ho := h.objs i
    rw [hh]
    cases hS : S.heap i with
    | cells z rows own =>
      rw [hS] at ho
      obtain ⟨b, o, tot, arr, t, fr, q1, q2, q3, q4, q5, q6, q7⟩ := ho
      exact ⟨b, o, tot, arr, t, fr, q1, q2, q3, q4, q5, q6, fun hown => ⟨(q7 hown).1, (q7 hown).2.1, (q7 hown).2.2.1, (q7 hown).2.2.2.le (hm i)⟩⟩
    | dead => trivial
    | map es => rw [hS] at ho; exact ho
    | loop st pend => rw [hS] at ho; exact ho
    | defer => rw [hS] at ho; exact ho
  · rw [hh] at h1 h2
    exact h.disj i j b hij h1 h2
theorem Rel.remark {id m : Nat} {o : HObj} (h : Rel base W0 β ((S.newM o m).put id .dead) w) {m' : Nat} (hm : MkLe m' m) : Rel base W0 β ((S.newM o m').put id .dead) w :=
  h.mark rfl rfl fun i => by
    simp only [HS.put, HS.newM]
    split
    · exact hm
    · exact .refl _
theorem newM_mark (T : HS) (o : HObj) {m m' : Nat} (hm : MkLe m' m) (i : Nat) : MkLe ((T.newM o m').mrk i) ((T.newM o m).mrk i) := by
  simp only [HS.newM]
  split
  · exact hm
  · exact .refl _
theorem Rel.remark2 {id m : Nat} {o : HObj} (h : Rel base W0 β ((S.put id .dead).newM o m) w) {m' : Nat} (hm : MkLe m' m) : Rel base W0 β ((S.put id .dead).newM o m') w :=
  h.mark rfl rfl (newM_mark _ _ hm)

theorem RowsRel.drop {rows : List (List HV)} {arr : Array Value} {o z k : Nat} (h : RowsRel β rows arr o z) : RowsRel β (rows.drop k) arr (o + k * z) z := by
  intro i row hi
  rw [List.getElem?_drop] at hi
  obtain ⟨g1, g2⟩ := h _ row hi
  refine ⟨g1, fun j v hv => ?_⟩
  obtain ⟨g3, v', g4, g5⟩ := g2 j v hv
  exact ⟨g3, v', by rw [← g4]; congr 1; rw [Nat.add_mul]; omega, g5⟩
/-- Rows laid right behind. -/
theorem RowsRel.behind {rows new : List (List HV)} {arr arrN : Array Value} {o z : Nat} (h : RowsRel β rows arr o z) (hn : RowsRel β new arrN 0 z) (hsz : arrN.size = new.length * z) (htot : o + (rows.length + new.length) * z ≤ arr.size) :
    RowsRel β (rows ++ new) (over arr (o + rows.length * z) arrN.toList) o z := by
  rw [Nat.add_mul] at htot
  intro q row hq
  rw [List.getElem?_append] at hq
  split at hq
  · rename_i hlt
    obtain ⟨g1, g2⟩ := h q row hq
    refine ⟨g1, fun j v hv => ?_⟩
    obtain ⟨g3, v', g4, g5⟩ := g2 j v hv
    have hj : j < z := by rw [← g1]; exact (List.getElem?_eq_some_iff.1 hv).1
    have := mul_lt_rows hlt hj
    refine ⟨g3, v', ?_, g5⟩
    rw [over_get _ _ _ _ (by simp [hsz]; omega), if_neg (by omega)]; exact g4
  · rename_i hlt
    obtain ⟨g1, g2⟩ := hn _ row hq
    refine ⟨g1, fun j v hv => ?_⟩
    obtain ⟨g3, v', g4, g5⟩ := g2 j v hv
    have hj : j < z := by rw [← g1]; exact (List.getElem?_eq_some_iff.1 hv).1
    have h3 : q - rows.length < new.length := (List.getElem?_eq_some_iff.1 hq).1
    have h2 := mul_lt_rows h3 hj
    have e2 : q * z = rows.length * z + (q - rows.length) * z := by rw [← Nat.add_mul]; congr 1; omega
    refine ⟨g3, v', ?_, g5⟩
    rw [over_get _ _ _ _ (by simp [hsz]; omega), if_pos (by simp [hsz]; omega)]
    rw [show o + q * z + j - (o + rows.length * z) = 0 + (q - rows.length) * z + j by omega]
    simpa using g4

/-- What an append does with a source of so many cells. -/
structure Appends (P : Program) (w : World) (e z : Nat) (tys : Array TypeId) (ty : TypeId) (src : Value) (n : Nat) (arrN : Array Value) : Prop where
  fits : ∀ (x : Option Addr) (len cap : Nat), len + n ≤ cap → (Builtin.append_ tys ty #[.slice x len cap, src]).run P w = ((match x with | some a => storeCells (a.add (len * z)) arrN.toList | none => pure ()).run P w).andThen fun _ w' => .ok (.slice x (len + n) cap) w'
  grows : ∀ (x : Option Addr) (len cap : Nat) (arrO : Array Value), (∀ d, (Builtin.firstCells z len (.slice x len cap)).run P { w with drawn := d } = .ok arrO { w with drawn := d }) → cap < len + n → len + n ≤ 2147483648 →
    ∃ (newCap : Nat) (rest : Array Value), len + n ≤ newCap ∧ rest.size = (newCap - (len + n)) * z ∧ (∀ v' ∈ rest.toList, v'.oneCell' = true) ∧
      (Builtin.append_ tys ty #[.slice x len cap, src]).run P w = .ok (.slice (some ⟨w.heap.size, 0, none⟩) (len + n) newCap) { w with drawn := w.drawn + 1, heap := w.heap.push (.cells (arrO ++ arrN ++ rest) e) }
theorem appends_of {t e z : Nat} {zr : List HV} (he : ElemAt P t e z zr) {tys : Array TypeId} {u : TypeId} (h0 : tys[0]? = some t) (h1 : tys[1]? = some u) (hu : NoInt P u) {n : Nat} {src : Value} {arrN : Array Value} {ty : TypeId}
    (hn : ∀ d, (Builtin.lenOf src).run P { w with drawn := d } = .ok n { w with drawn := d }) (hc : ∀ d, (Builtin.firstCells z n src).run P { w with drawn := d } = .ok arrN { w with drawn := d }) : Appends P w e z tys ty src n arrN :=
  ⟨fun x len cap hle => append_fits he h0 h1 hu (hn w.drawn) (hc w.drawn) hle, fun x len cap arrO hold hlt hb => append_grows he h0 h1 hu hn hc hold hlt hb⟩
theorem Rel.appT (h : Rel base W0 β S w) {t e z : Nat} {zr : List HV} (he : ElemAt P t e z zr) {tys : Array TypeId} (ty : TypeId) {s s' : Sl} {new : List (List HV)} {S' : HS}
    (hv : S.appT s new z e = some (s', S')) {xv src : Value} (hx : VRel β s.hv xv) {arrN : Array Value} (ha : Appends P w e z tys ty src new.length arrN) (hsz : arrN.size = new.length * z) (hrel : RowsRel β new arrN 0 z) :
    ∃ β' w' v', Le β β' ∧ (Builtin.append_ tys ty #[xv, src]).run P w = .ok v' w' ∧ VRel β' s'.hv v' ∧ Rel base W0 β' S' w' := by
  have hzpos : 0 < z := he.pos.2
  have hone := hrel.flatMem hzpos hsz rfl
  obtain ⟨sa, len, c⟩ := s
  simp only [Sl.hv] at hx
  unfold HS.appT at hv
  split at hv
  · -- nothing comes
    rename_i hnil
    cases hv
    subst hnil
    have hemp : arrN.toList = [] := by
      have : arrN.size = 0 := by simpa using hsz
      simpa using this
    have hfit : ∀ (x : Option Addr) (cap : Nat), xv = .slice x len cap → len ≤ cap → (Builtin.append_ tys ty #[xv, src]).run P w = .ok xv w := by
      intro x cap e1 e2
      subst e1
      rw [ha.fits _ _ _ (by simpa using e2)]
      cases x <;> simp [hemp, storeCells]
    refine ⟨β, w, xv, .refl β, ?_, by simpa [Sl.hv] using hx, h⟩
    cases hx with
    | slNil => exact hfit none 0 rfl (Nat.le_refl _)
    | sl hb e1 e2 e3 e4 e5 => exact hfit _ _ rfl e1
    | slEnd hb e2 e3 e4 => exact hfit _ _ rfl (Nat.le_refl _)
  · rename_i hnil
    have hpos : 0 < new.length := by
      cases new with
      | nil => exact absurd rfl hnil
      | cons x y => simp
    split at hv
    case isFalse => cases hv
    rename_i hbound
    simp only at hbound
    -- a new array, of which so much is known
    have grow : ∀ (x : Option Addr) (cap : Nat) (old : List (List HV)) (arrO : Array Value), xv = .slice x len cap → cap < len + new.length → (∀ d, (Builtin.firstCells z len (.slice x len cap)).run P { w with drawn := d } = .ok arrO { w with drawn := d }) →
        arrO.size = len * z → old.length = len → RowsRel β old arrO 0 z →
        ∃ β' w' v', Le β β' ∧ (Builtin.append_ tys ty #[xv, src]).run P w = .ok v' w' ∧ VRel β' (Sl.hv ⟨some (S.next, 0), len + new.length, none⟩) v' ∧ Rel base W0 β' (S.newM (.cells z (old ++ new) true) (e + 2)) w' := by
      intro x cap old arrO e1 e2 e3 e4 e5 e6
      subst e1
      obtain ⟨newCap, rest, g1, g2, gone, g3⟩ := ha.grows _ _ _ _ e3 e2 hbound
      have hs1 : (arrO ++ arrN ++ rest).size = newCap * z := by
        simp only [Array.size_append, e4, hsz, g2]
        rw [← Nat.add_mul, ← Nat.add_mul]; congr 1; omega
      obtain ⟨β', q1, q2, q3⟩ := (h.drawn (w.drawn + 1)).newRowsM (old ++ new) (arrO ++ arrN ++ rest) e (0, 0) z (e + 2) (.typed (Nat.le_refl _)) hzpos
        (by rw [hs1, List.length_append, e5]; exact Nat.mul_le_mul_right z g1) ((e6.append (by rw [e5]; exact e4) hrel).weaken) (fun i _ => by omega) (.inr (by
          intro v' hv'
          simp only [Array.toList_append, List.mem_append] at hv'
          rcases hv' with (hv' | hv') | hv'
          · exact e6.flatMem hzpos (by rw [e5]; exact e4) rfl v' hv'
          · exact hone v' hv'
          · exact gone v' hv'))
      refine ⟨β', _, _, q1, g3, ?_, q3⟩
      simp only [Sl.hv]
      have := VRel.sl (β := β') (off := 0) (len := len + new.length) (cap := newCap) (c := none) q2 g1 (by simp [e5]) (fun _ => by simp [e5]; omega) (fun q hq => by cases hq) (by rw [hs1]; simp)
      simpa using this
    cases sa with
    | none =>
      simp only at hv
      split at hv
      · rename_i hlen
        cases hv
        subst hlen
        cases hx with
        | slNil =>
          have := grow none 0 [] #[] rfl (by omega) (fun d => by simp [Builtin.firstCells]) (by simp) rfl (fun i row hi => by simp at hi)
          simpa using this
      · cases hv
    | some p =>
      obtain ⟨id, off⟩ := p
      simp only at hv
      split at hv
      case h_2 => cases hv
      rename_i z' rows own hS
      split at hv
      case isFalse => cases hv
      rename_i hzz
      subst hzz
      obtain ⟨b, o1, tot, arr, ty1, fr, q1, q2, q3, q4, q5, q6⟩ := h.live hS
      -- in place
      have place : ∀ (cap : Nat) (c' : Option Nat), xv = .slice (some ⟨b, o1 + off * z', none⟩) len cap → own = true → len + new.length ≤ cap → off + len + new.length ≤ rows.length → o1 + (off + cap) * z' ≤ tot →
          (c' = none → rows.length ≤ off + cap) → (∀ q, c' = some q → cap = q ∧ off + q ≤ rows.length) →
          ∃ β' w' v', Le β β' ∧ (Builtin.append_ tys ty #[xv, src]).run P w = .ok v' w' ∧ VRel β' (Sl.hv ⟨some (id, off), len + new.length, c'⟩) v' ∧ Rel base W0 β' (S.put id (.cells z' (splice rows (off + len) new) true)) w' := by
        intro cap c' e1 e2 e3 e4 e5 e6 e7
        subst e1 e2
        obtain ⟨_, _, _, _, _, _, r1, r2, _, _, _, _, r7, r8, r9, _⟩ := h.owned hS
        rw [q1] at r1
        cases r1
        rw [q2] at r2
        cases r2
        have hm : (off + len + new.length) * z' ≤ rows.length * z' := Nat.mul_le_mul_right z' e4
        rw [Nat.add_mul, Nat.add_mul] at hm
        have hst := run_storeCells (P := P) (b := b) (o := o1 + off * z' + len * z') (t := ty1) (fr := fr) arrN.toList 0 w arr q2 (by simp [hsz]; omega) hone (by rw [q3]; exact r8)
        have hre : o1 + off * z' + len * z' + 0 = o1 + (off + len) * z' := by rw [Nat.add_mul]; omega
        rw [hre] at hst
        refine ⟨β, _, .slice (some ⟨b, o1 + off * z', none⟩) (len + new.length) cap, .refl β, ?_, ?_, h.setRow hS q1 q2 (by simp [over_size]) (by simp [splice]; omega) (q6.splice hrel hsz e4 (by rw [q3]; exact q4)) (over_mem _ _ _ r9 hone)⟩
        · rw [ha.fits _ _ _ e3]
          simp only [add_none]
          rw [hst]
          rfl
        · exact .sl q1 e3 (by simp only; omega) e6 e7 (by rw [Nat.add_mul] at e5 ⊢; omega)
      -- what was there
      have held : ∀ (x : Option Addr) (cap : Nat), xv = .slice x len cap → off + len ≤ rows.length → ∃ arrO : Array Value, (∀ d, (Builtin.firstCells z' len (.slice x len cap)).run P { w with drawn := d } = .ok arrO { w with drawn := d }) ∧ arrO.size = len * z' ∧ RowsRel β ((rows.drop off).take len) arrO 0 z' := by
        intro x cap e1 e2
        have hrows : S.rows ⟨some (id, off), len, c⟩ z' = some ((rows.drop off).take len) := by simp [HS.rows, hS, e2]
        obtain ⟨arrO, g1, g2, g3⟩ := h.rows (P := P) hrows hx len (Nat.le_refl _)
        refine ⟨arrO, fun d => ?_, g2, by rw [List.take_take, Nat.min_self] at g3; exact g3⟩
        obtain ⟨arrO', g1', _, _⟩ := (h.drawn d).rows (P := P) hrows hx len (Nat.le_refl _)
        rw [e1] at g1 g1'
        have : arrO' = arrO := by
          -- the cells hang on the heap alone
          have hd : ∀ (y : Sem (Array Value)), True := fun _ => trivial
          cases hx with
          | sl hb e1' e2' e3' e4' e5' =>
            cases e1
            have l1 := run_loadCells (P := P) (w := w) (o := o1 + off * z') q2 (len * z') 0 #[] (by
              rw [q1] at hb; cases hb
              have : (off + len) * z' ≤ rows.length * z' := Nat.mul_le_mul_right z' e2
              rw [Nat.add_mul] at this; omega)
            have l2 := run_loadCells (P := P) (w := { w with drawn := d }) (o := o1 + off * z') q2 (len * z') 0 #[] (by
              rw [q1] at hb; cases hb
              have : (off + len) * z' ≤ rows.length * z' := Nat.mul_le_mul_right z' e2
              rw [Nat.add_mul] at this; omega)
            rw [q1] at hb
            cases hb
            simp only [Builtin.firstCells, loadCells] at g1 g1'
            rw [l1] at g1
            rw [l2] at g1'
            cases g1; cases g1'; rfl
          | slEnd hb e2' e3' e4' =>
            cases e1
            simp [Builtin.firstCells, loadCells, loadCellsFrom] at g1 g1'
            rw [g1, g1']
        rw [← this]; exact g1'
      cases c with
      | some q =>
        simp only at hv
        split at hv
        · rename_i hfit
          split at hv
          · rename_i hown
            cases hv
            cases hx with
            | sl hb e1 e2 e3 e4 e5 =>
              rw [q1] at hb
              cases hb
              obtain ⟨rfl, e7⟩ := e4 q rfl
              exact place _ (some _) rfl hown hfit (by omega) e5 (fun hc => by cases hc) (fun q' hq' => by cases hq'; exact ⟨rfl, e7⟩)
            | slEnd hb e2 e3 e4 => have := e4 q rfl; omega
          · cases hv
        · rename_i hfit
          cases hv
          cases hx with
          | sl hb e1 e2 e3 e4 e5 =>
            rw [q1] at hb
            cases hb
            obtain ⟨rfl, e7⟩ := e4 q rfl
            obtain ⟨arrO, g1, g2, g3⟩ := held _ _ rfl e2
            exact grow _ _ _ arrO rfl (by omega) g1 g2 (by simp; omega) g3
          | slEnd hb e2 e3 e4 =>
            rw [q1] at hb
            cases hb
            obtain ⟨arrO, g1, g2, g3⟩ := held _ _ rfl (by omega)
            exact grow _ _ _ arrO rfl (by omega) g1 g2 (by simp) g3
      | none =>
        simp only at hv
        split at hv
        case isFalse => cases hv
        rename_i hown
        split at hv
        · rename_i hin
          cases hv
          cases hx with
          | sl hb e1 e2 e3 e4 e5 =>
            rw [q1] at hb
            cases hb
            have := e3 rfl
            exact place _ none rfl hown (by omega) hin e5 (fun _ => this) (fun q' hq' => by cases hq')
          | slEnd hb e2 e3 e4 =>
            rw [q1] at hb
            cases hb
            have := e3 rfl
            omega
        · rename_i hin
          split at hv
          case isFalse => cases hv
          rename_i hend
          cases hv
          have hmk1 : MkLe (if S.mrk id = e + 2 ∧ off = 0 then e + 2 else mfg (S.mrk id)) (e + 2) := by
            split
            · exact .refl _
            · exact .of_lt (mfg_lt _) fun _ => by omega
          have hmk2 : ∀ {t fr o}, MkOk (S.mrk id) t fr o → MkOk (if S.mrk id = e + 2 ∧ off = 0 then e + 2 else mfg (S.mrk id)) t fr (o + off * z') := fun hk => by
            split
            · rename_i q; rw [q.2, Nat.zero_mul, Nat.add_zero, ← q.1]; exact hk
            · exact hk.mfgOk
          have hdrop : (rows.drop off).take len = rows.drop off := List.take_of_length_le (by simp; omega)
          have viaGrow : ∀ (x : Option Addr) (cap : Nat), xv = .slice x len cap → cap < len + new.length → ∃ β' w' v', Le β β' ∧ (Builtin.append_ tys ty #[xv, src]).run P w = .ok v' w' ∧ VRel β' (Sl.hv ⟨some (S.next, 0), len + new.length, none⟩) v' ∧ Rel base W0 β' ((S.put id .dead).newM (.cells z' (rows.drop off ++ new) true) (if S.mrk id = e + 2 ∧ off = 0 then e + 2 else mfg (S.mrk id))) w' := by
            intro x cap e1 e2
            obtain ⟨arrO, g1, g2, g3⟩ := held x cap e1 (by omega)
            obtain ⟨β', w', v', k1, k2, k3, k4⟩ := grow x cap _ arrO e1 e2 g1 g2 (by simp; omega) g3
            rw [hdrop] at k4
            refine ⟨β', w', v', k1, k2, k3, ?_⟩
            have k5 := k4.kill id
            have hne : id ≠ S.next := fun e => by
              have := (h.fresh S.next (Nat.le_refl _)).2
              rw [← e, hS] at this; cases this
            have := HS.put_newM_comm (S := S) (m := if S.mrk id = e + 2 ∧ off = 0 then e + 2 else mfg (S.mrk id)) (o := .cells z' (rows.drop off ++ new) true) (o' := .dead) hne
            rw [← this]; exact k5.remark hmk1
          cases hx with
          | @sl _ b1 _ z2 n2 tot2 _ _ cap _ hb e1 e2 e3 e4 e5 =>
            rw [q1] at hb
            cases hb
            by_cases hcap : len + new.length ≤ cap
            · obtain ⟨_, _, _, _, _, _, r1, r2, _, _, _, _, r7, r8, r9, _⟩ := h.owned (hown ▸ hS)
              rw [q1] at r1
              cases r1
              rw [q2] at r2
              cases r2
              have hm : o1 + (off + (len + new.length)) * z' ≤ tot := by
                have : (off + (len + new.length)) * z' ≤ (off + cap) * z' := Nat.mul_le_mul_right z' (by omega)
                omega
              have hdl : (rows.drop off).length = len := by simp; omega
              rw [Nat.add_mul, Nat.add_mul] at hm
              have hst := run_storeCells (P := P) (b := b) (o := o1 + off * z' + len * z') (t := ty1) (fr := fr) arrN.toList 0 w arr q2 (by simp [hsz]; omega) hone (by rw [q3]; exact r8)
              simp only [Nat.add_zero] at hst
              have hbh := (q6.drop (k := off)).behind hrel hsz (by rw [hdl, q3, Nat.add_mul]; omega)
              rw [hdl] at hbh
              obtain ⟨β', k1, k2, k3⟩ := h.rename (hown ▸ hS) q1 q2 (arr' := over arr (o1 + off * z' + len * z') arrN.toList) (by simp [over_size]) hbh (by rw [List.length_append, hdl, Nat.add_mul]; omega) (over_mem _ _ _ r9 hone) hmk2
              refine ⟨β', _, .slice (some ⟨b, o1 + off * z', none⟩) (len + new.length) cap, k1, ?_, ?_, k3⟩
              · rw [ha.fits _ _ _ hcap]
                simp only [add_none]
                rw [hst]
                rfl
              · simp only [Sl.hv]
                rw [List.length_append, hdl] at k2
                have := VRel.sl (β := β') (off := 0) (len := len + new.length) (cap := cap) (c := none) k2 hcap (by omega) (fun _ => by omega) (fun q hq => by cases hq) (by
                  rw [Nat.add_mul] at e5; rw [Nat.zero_add]; omega)
                simpa using this
            · exact viaGrow _ _ rfl (by omega)
          | slEnd hb e2 e3 e4 => exact viaGrow _ _ rfl (by omega)

theorem app_of_appT {S S' : HS} {s s' : Sl} {new : List (List HV)} {z e : Nat} (h : S.app s new z = some (s', S')) : ∃ S1, S.appT s new z e = some (s', S1) ∧ S'.heap = S1.heap ∧ S'.next = S1.next ∧ ∀ i, MkLe (S'.mrk i) (S1.mrk i) := by
  have hnew : ∀ (T : HS) (o : HObj) (m m' : Nat), MkLe m m' → ∀ i, MkLe ((T.newM o m).mrk i) ((T.newM o m').mrk i) := fun T o m m' hm i => by
    simp only [HS.newM]
    split
    · exact hm
    · exact .refl _
  have h0 : MkLe 0 (e + 2) := .of_lt (by omega) fun _ => by omega
  obtain ⟨sa, len, c⟩ := s
  unfold HS.app at h
  unfold HS.appT
  by_cases c1 : new = []
  · rw [if_pos c1] at h ⊢; cases h; exact ⟨_, rfl, rfl, rfl, fun i => .refl _⟩
  rw [if_neg c1] at h ⊢
  by_cases c2 : len + new.length ≤ 2147483648
  · simp only [if_pos c2] at h ⊢
    cases sa with
    | none =>
      simp only at h ⊢
      by_cases c3 : len = 0
      · rw [if_pos c3] at h ⊢; cases h; exact ⟨_, rfl, rfl, rfl, hnew _ _ _ _ h0⟩
      · rw [if_neg c3] at h; cases h
    | some p =>
      obtain ⟨id, off⟩ := p
      simp only at h ⊢
      cases hS : S.heap id with
      | cells z' rows own =>
        simp only [hS] at h ⊢
        by_cases c3 : z' = z
        · rw [if_pos c3] at h ⊢
          cases c with
          | some cc =>
            simp only at h ⊢
            by_cases c4 : len + new.length ≤ cc
            · rw [if_pos c4] at h ⊢
              by_cases c5 : own = true
              · rw [if_pos c5] at h ⊢; cases h; exact ⟨_, rfl, rfl, rfl, fun i => .refl _⟩
              · rw [if_neg c5] at h; cases h
            · rw [if_neg c4] at h ⊢; cases h; exact ⟨_, rfl, rfl, rfl, hnew _ _ _ _ h0⟩
          | none =>
            simp only at h ⊢
            by_cases c4 : own = true
            · rw [if_pos c4] at h ⊢
              by_cases c5 : off + len + new.length ≤ rows.length
              · rw [if_pos c5] at h ⊢; cases h; exact ⟨_, rfl, rfl, rfl, fun i => .refl _⟩
              · rw [if_neg c5] at h ⊢
                by_cases c6 : off + len = rows.length
                · rw [if_pos c6] at h ⊢
                  cases h
                  refine ⟨_, rfl, rfl, rfl, hnew _ _ _ _ ?_⟩
                  split
                  · rename_i q; rw [q.1]; exact .of_lt (mfg_lt _) fun _ => by omega
                  · exact .refl _
                · rw [if_neg c6] at h; cases h
            · rw [if_neg c4] at h; cases h
        · rw [if_neg c3] at h; cases h
      | dead => simp only [hS] at h; cases h
      | map es => simp only [hS] at h; cases h
      | loop a b => simp only [hS] at h; cases h
      | defer => simp only [hS] at h; cases h
  · rw [if_neg c2] at h; cases h
theorem Rel.app (h : Rel base W0 β S w) {t e z : Nat} {zr : List HV} (he : ElemAt P t e z zr) {tys : Array TypeId} (ty : TypeId) {s s' : Sl} {new : List (List HV)} {S' : HS}
    (hv : S.app s new z = some (s', S')) {xv src : Value} (hx : VRel β s.hv xv) {arrN : Array Value} (ha : Appends P w e z tys ty src new.length arrN) (hsz : arrN.size = new.length * z) (hrel : RowsRel β new arrN 0 z) :
    ∃ β' w' v', Le β β' ∧ (Builtin.append_ tys ty #[xv, src]).run P w = .ok v' w' ∧ VRel β' s'.hv v' ∧ Rel base W0 β' S' w' := by
  obtain ⟨S1, e1, g1, g2, g3⟩ := app_of_appT (e := e) hv
  obtain ⟨β', w', v', k1, k2, k3, k4⟩ := h.appT he ty e1 hx ha hsz hrel
  exact ⟨β', w', v', k1, k2, k3, k4.mark g1 g2 g3⟩

theorem rows_len {s : Sl} {z : Nat} {rows : List (List HV)} (h : S.rows s z = some rows) : rows.length = s.len := by
  unfold HS.rows at h
  split at h
  · split at h
    · rename_i e; cases h; simp [e]
    · cases h
  · split at h
    · split at h
      · rename_i e; cases h; simp; omega
      · cases h
    · cases h

theorem Sl.at {s : Sl} {xv : Value} (h : VRel β s.hv xv) : ∃ y cap, xv = .slice y s.len cap := by
  obtain ⟨sa, len, c⟩ := s
  simp only [Sl.hv] at h
  cases h <;> exact ⟨_, _, rfl⟩

/-- append(x, y...), the block's type kept in mind -/
theorem ok_appendT {t u e z : Nat} {zr : List HV} (he : ElemAt P t e z zr) {x y : Operand} {tys : Array TypeId} (ho : o.op = .call ⟨.builtin .append, #[x, y], tys⟩) (h0 : tys[0]? = some t) (h1 : tys[1]? = some u) (hu : ∃ e', P.underlying u = some (.slice e'))
    {s s1 s' : Sl} {new : List (List HV)} {S' : HS} (hx : Ev a x s.hv) (hy : Ev a y s1.hv) (hnew : S.rows s1 z = some new) (hv : S.appT s new z e = some (s', S')) : OpOk P base W0 o a S s'.hv S' := by
  refine ⟨by rw [ho]; simp, fun β w a' h h2 => ?_⟩
  have hxr := hx.rel h2
  have hyr := hy.rel h2
  generalize hxv : a'.eval x = xv at hxr
  generalize hyv : a'.eval y = yv at hyr
  have hl := rows_len hnew
  obtain ⟨arrN, g1, g2, g3⟩ := h.rows (P := P) hnew hyr s1.len (Nat.le_refl _)
  rw [← hl] at g1 g2 g3
  rw [List.take_length] at g3
  obtain ⟨y1, cap1, hy1⟩ := Sl.at hyr
  have hcells : ∀ d, (Builtin.firstCells z new.length yv).run P { w with drawn := d } = .ok arrN { w with drawn := d } := by
    intro d
    subst hy1
    cases y1 with
    | none => simp [Builtin.firstCells] at g1 ⊢; exact g1
    | some ad =>
      -- the cells hang on the heap alone
      obtain ⟨sa, len, c⟩ := s1
      simp only [Sl.hv] at hyr
      cases hyr with
      | @sl id b o1 z1 n tot off _ _ _ hb e1 e2 e3 e4 e5 =>
        simp only [HS.rows] at hnew
        split at hnew
        · rename_i z' rows own hS
          split at hnew
          · rename_i hc
            obtain ⟨hzz, hle⟩ := hc
            subst z'
            obtain ⟨b', o', tot', arr, ty, fr, q1, q2, q3, q4, q5, q6⟩ := h.live hS
            rw [hb] at q1
            cases q1
            simp only at hl hle
            have hm : (off + len) * z ≤ rows.length * z := Nat.mul_le_mul_right z hle
            rw [Nat.add_mul] at hm
            have l1 := run_loadCells (P := P) (w := w) (o := o1 + off * z) q2 (new.length * z) 0 #[] (by rw [hl]; omega)
            have l2 := run_loadCells (P := P) (w := { w with drawn := d }) (o := o1 + off * z) q2 (new.length * z) 0 #[] (by rw [hl]; omega)
            simp only [Builtin.firstCells, loadCells] at g1 ⊢
            rw [l1] at g1
            rw [l2]
            cases g1; rfl
          · cases hnew
        · cases hnew
      | slEnd hb e2 e3 e4 =>
        simp only at hl
        rw [hl] at g1 ⊢
        simp [Builtin.firstCells, loadCells, loadCellsFrom] at g1 ⊢
        exact g1
  obtain ⟨β', w', v', k1, k2, k3, k4⟩ := h.appT he o.type hv hxr (src := yv) (arrN := arrN) (appends_of he h0 h1 (.inl hu) (fun d => by rw [hy1, hl]; simp [Builtin.lenOf]) hcells) g2 g3
  exact ⟨β', w', v', k1, .inl (by simp [execOp, ho, resolve, invoke, builtin, hxv, hyv, k2]), k3, k4⟩

/-- append(x, y...) -/
theorem ok_append {t u e z : Nat} {zr : List HV} (he : ElemAt P t e z zr) {x y : Operand} {tys : Array TypeId} (ho : o.op = .call ⟨.builtin .append, #[x, y], tys⟩) (h0 : tys[0]? = some t) (h1 : tys[1]? = some u) (hu : ∃ e', P.underlying u = some (.slice e'))
    {s s1 s' : Sl} {new : List (List HV)} {S' : HS} (hx : Ev a x s.hv) (hy : Ev a y s1.hv) (hnew : S.rows s1 z = some new) (hv : S.app s new z = some (s', S')) : OpOk P base W0 o a S s'.hv S' := by
  obtain ⟨S1, e1, g1, g2, g3⟩ := app_of_appT (e := e) hv
  refine ⟨by rw [ho]; simp, fun β w a' h h2 => ?_⟩
  obtain ⟨β', w', v', k1, k2, k3, k4⟩ := (ok_appendT he ho h0 h1 hu hx hy hnew e1).2 β w a' h h2
  exact ⟨β', w', v', k1, k2, k3, k4.mark g1 g2 g3⟩

theorem bytes_rel (s : List UInt8) (β : Bt) : RowsRel β (bytesRows s) ((⟨s.toArray⟩ : ByteArray).data.map fun b => Value.int .u8 b.toNat) 0 1 := by
  intro i row hi
  simp only [bytesRows, List.getElem?_map] at hi
  cases hb : s[i]? with
  | none => rw [hb] at hi; cases hi
  | some b =>
    rw [hb] at hi
    cases hi
    refine ⟨rfl, fun j v hv => ?_⟩
    cases j with
    | zero => simp at hv; subst hv; exact ⟨rfl, .int .u8 b.toNat, by simp [hb], .int _ _⟩
    | succ j => simp at hv
theorem size_bytesRows (s : List UInt8) : (bytesRows s).length = s.length := by simp [bytesRows]

/-- append(x, s...), s a text -/
theorem ok_append_str {t u e : Nat} {zr : List HV} (he : ElemAt P t e 1 zr) {x y : Operand} {tys : Array TypeId} (ho : o.op = .call ⟨.builtin .append, #[x, y], tys⟩) (h0 : tys[0]? = some t) (h1 : tys[1]? = some u) (hu : P.underlying u = some .string)
    {s s' : Sl} {txt : List UInt8} {S' : HS} (hx : Ev a x s.hv) (hy : Ev a y (.str txt)) (hv : S.app s (bytesRows txt) 1 = some (s', S')) : OpOk P base W0 o a S s'.hv S' := by
  refine ⟨by rw [ho]; simp, fun β w a' h h2 => ?_⟩
  have hxr := hx.rel h2
  generalize hxv : a'.eval x = xv at hxr
  have e1 : (⟨txt.toArray⟩ : ByteArray).extract 0 txt.length = ⟨txt.toArray⟩ := by rw [extract_mk]; simp
  obtain ⟨β', w', v', k1, k2, k3, k4⟩ := h.app he o.type hv hxr (src := .string ⟨txt.toArray⟩) (arrN := (⟨txt.toArray⟩ : ByteArray).data.map fun b => Value.int .u8 b.toNat) (appends_of he h0 h1 (.inr hu) (fun d => by simp [Builtin.lenOf, size_mk, size_bytesRows])
    (fun d => by simp [Builtin.firstCells, size_bytesRows, e1])) (by simp [size_bytesRows]) (bytes_rel txt β)
  exact ⟨β', w', v', k1, .inl (by simp [execOp, ho, resolve, invoke, builtin, hxv, hy.at_str h2, k2]), k3, k4⟩

theorem zeros_rel {zr : List HV} {zv : Array Value} (h : VRels β zr zv) (hz : 0 < zr.length) (hf : ∀ v ∈ zr, v.flat = true) (n : Nat) : RowsRel β (List.replicate n zr) ((Array.range (n * zv.size)).map fun i => zv[i % zv.size]!) 0 zr.length := by
  intro i row hi
  rw [List.getElem?_replicate] at hi
  split at hi
  · rename_i hin
    cases hi
    refine ⟨rfl, fun j v hv => ⟨hf v (List.mem_of_getElem? hv), ?_⟩⟩
    obtain ⟨v', g1, g2⟩ := h.get hv
    have hj : j < zr.length := (List.getElem?_eq_some_iff.1 hv).1
    have hlt := mul_lt_rows hin hj
    have hsz : zv.size = zr.length := h.1.symm
    refine ⟨v', ?_, g2⟩
    rw [hsz]
    rw [Array.getElem?_map, Array.getElem?_range, if_pos (by omega)]
    simp only [Option.map_some, Nat.zero_add]
    have e1 : (i * zr.length + j) % zr.length = j := by rw [Nat.mul_comm, Nat.mul_add_mod]; exact Nat.mod_eq_of_lt hj
    rw [e1, getElem!_def, g1]
  · cases hi

theorem ok_make {t e z : Nat} {zr : List HV} (he : ElemAt P t e z zr) {x y : Operand} {k k' : IntKind} {n c : Int} {s' : Sl} {S' : HS} (ho : o.op = .makeSlice t x y) (hx : Ev a x (.int k n)) (hy : Ev a y (.int k' c)) (hv : S.make n c zr = some (s', S')) : OpOk P base W0 o a S s'.hv S' := by
  refine ⟨by rw [ho]; simp, fun β w a' h h2 => ?_⟩
  unfold HS.make at hv
  split at hv
  case isFalse => cases hv
  rename_i hb
  cases hv
  obtain ⟨q, zv, q1, q2, q3, q4, q5⟩ := he.info
  have hz := he.pos
  have hzs : zv.cells.size = z := by rw [← (q5 (fun _ => .none)).1]; exact he.pos.1
  have hsize : ((Array.range (c.toNat * zv.cells.size)).map fun i => zv.cells[i % zv.cells.size]!).size = c.toNat * z := by simp [hzs]
  obtain ⟨β', g1, g2, g3⟩ := h.newRows (List.replicate c.toNat zr) ((Array.range (c.toNat * zv.cells.size)).map fun i => zv.cells[i % zv.cells.size]!) e zr.length (by omega) (by rw [hsize, hz.1]; simp) (zeros_rel (q5 β) (by omega) he.flat c.toNat) (.inl (by rw [hsize, hz.1]; simp))
  have wn : IntKind.i64.wrap n = n := by simp [IntKind.wrap, IntKind.signed, IntKind.bits]; omega
  have wc : IntKind.i64.wrap c = c := by simp [IntKind.wrap, IntKind.signed, IntKind.bits]; omega
  have hbn : (q.bytes : Int) * c ≤ 4096 * 2147483648 := Int.mul_le_mul (by omega) hb.2.2 (by omega) (by omega)
  have hpow : (2 : Int) ^ 48 = 281474976710656 := by decide
  refine ⟨β', _, .slice (some ⟨w.heap.size, 0, none⟩) n.toNat c.toNat, g1, .inl ?_, ?_, g3⟩
  · have b1 : ¬ (c < 0) := by omega
    have b2 : ¬ ((q.bytes : Int) * c > 281474976710656) := by omega
    have b3 : ¬ (n < 0) := by omega
    have b4 : ¬ (n > c) := by omega
    by_cases hc0 : c.toNat * z = 0
    · have hc1 : c.toNat = 0 := by
        rcases Nat.mul_eq_zero.1 hc0 with e | e <;> omega
      simp [execOp, ho, Instr.makeSlice, hx.at_int h2, hy.at_int h2, asInt, asIntOf, underlying, he.slice, typeInfo, q1, wn, wc, hpow, b1, b2, b3, b4, Go.sizeOf, hc1, newRow, show Array.range 0 = #[] from rfl]
    · simp [execOp, ho, Instr.makeSlice, hx.at_int h2, hy.at_int h2, asInt, asIntOf, underlying, he.slice, typeInfo, q1, wn, wc, hpow, b1, b2, b3, b4, Go.sizeOf, q2, hc0, newRow, zeroValue, q4, hzs]
  · simp only [Sl.hv]
    have := VRel.sl (β := β') (off := 0) (len := n.toNat) (cap := c.toNat) (c := some c.toNat) g2 (by omega) (by simp; omega) (fun hc => by cases hc) (fun q hq => by cases hq; simp) (by rw [hsize, hz.1]; simp)
    simpa using this

/-- A literal []T{..}: each element its cells. -/
theorem buildSlice_fill {z : Nat} : ∀ (vs : List HV) (vs' : List Value) (k : Nat) (cells : Array Value), VRels β vs vs'.toArray → (∀ v ∈ vs, v.cells.length = z) → (k + vs.length) * z ≤ cells.size →
    ∃ cells', Instr.fill (fun i => some (i * z, z)) cells ((vs'.zipIdx k).map fun p => (p.2, p.1)) = some cells' ∧ cells'.size = cells.size ∧
      (∀ i j, i < k → j < z → cells'[i * z + j]? = cells[i * z + j]?) ∧ ∀ i v, vs[i]? = some v → ∀ j u, v.cells[j]? = some u → ∃ u', cells'[(k + i) * z + j]? = some u' ∧ VRel β u u' := by
  intro vs
  induction vs with
  | nil =>
    intro vs' k cells h _ _
    obtain rfl : vs' = [] := by have := h.1; cases vs' <;> simp_all
    exact ⟨cells, by simp [Instr.fill], rfl, fun _ _ _ _ => rfl, fun i v hi => by simp at hi⟩
  | cons v vs ih =>
    intro vs' k cells h hz hle
    cases vs' with
    | nil => have := h.1; simp at this
    | cons v' vs' =>
      have hv : VRel β v v' := h.2 0 v v' rfl (by simp)
      have hvs : VRels β vs vs'.toArray := ⟨by have := h.1; simp at this ⊢; exact this, fun i x x' h1 h2 => h.2 (i + 1) x x' (by simpa using h1) (by simpa using h2)⟩
      have hc := hv.cells
      have hcz : v'.cells.size = z := by rw [← hc.1]; exact hz v (by simp)
      simp only [List.length_cons] at hle
      have e0 : (k + (vs.length + 1)) * z = k * z + z + vs.length * z := by rw [Nat.add_mul, Nat.add_mul]; omega
      -- the first one's cells
      have hfold : ∀ (l : List Value) (m : Nat) (arr : Array Value), (l.zipIdx m).foldl (fun cs (c, j) => cs.setIfInBounds (k * z + j) c) arr = over arr (k * z + m) l := by
        intro l
        induction l with
        | nil => intro m arr; rfl
        | cons x l ih2 => intro m arr; simp only [List.zipIdx_cons, List.foldl_cons, over]; rw [ih2]; rfl
      obtain ⟨cells', g1, g2, g3, g4⟩ := ih vs' (k + 1) (over cells (k * z) v'.cells.toList) hvs (fun x hx => hz x (by simp [hx])) (by rw [over_size, Nat.add_mul, Nat.add_mul]; omega)
      refine ⟨cells', ?_, by rw [g2, over_size], fun i j hi hj => ?_, fun i u hi j x hx => ?_⟩
      · simp only [List.zipIdx_cons, List.map_cons, Instr.fill]
        have c1 : ¬ (k * z + v'.cells.size > cells.size) := by rw [hcz]; omega
        have hf := hfold v'.cells.toList 0 cells
        have hzi : v'.cells.zipIdx.foldl (fun cs (c, j) => cs.setIfInBounds (k * z + j) c) cells = over cells (k * z) v'.cells.toList := by
          rw [← Array.foldl_toList, Array.toList_zipIdx]; exact hf
        rw [if_neg (by simp only [hcz]; simp; rw [hcz] at c1; omega)]
        rw [hzi]
        exact g1
      · rw [g3 i j (by omega) hj, over_get _ _ _ _ (by simp [hcz]; omega), if_neg ?_]
        have := mul_lt_rows hi hj
        omega
      · cases i with
        | zero =>
          simp at hi
          subst hi
          obtain ⟨x', m1, m2⟩ := hc.get hx
          have hj : j < z := by rw [← hz v (by simp)]; exact (List.getElem?_eq_some_iff.1 hx).1
          refine ⟨x', ?_, m2⟩
          rw [Nat.add_zero, g3 k j (by omega) hj, over_get _ _ _ _ (by simp [hcz]; omega), if_pos (by simp [hcz]; omega)]
          rw [show k * z + j - k * z = j by omega]; simpa using m1
        | succ i =>
          obtain ⟨x', m1, m2⟩ := g4 i u (by simpa using hi) j x hx
          exact ⟨x', by rw [← m1, show k + 1 + i = k + (i + 1) by omega], m2⟩

theorem ok_buildSlice {t e z : Nat} {zr : List HV} (he : ElemAt P t e z zr) {n : Nat} {parts : Array (Nat × Operand)} {xs : List Operand} {vs : List HV} (ho : o.op = .buildSlice t n parts) (hp : parts.toList = xs.zipIdx.map fun p => (p.2, p.1)) (hn : xs.length = n) (hsm : n * z ≤ 65536)
    (hx : Evs a xs.toArray vs) (hz : ∀ v ∈ vs, v.cells.length = z) (hf : ∀ v ∈ vs, ∀ u ∈ v.cells, u.flat = true) :
    OpOk P base W0 o a S (S.lit (vs.map HV.cells) z).1.hv (S.lit (vs.map HV.cells) z).2 := by
  refine ⟨by rw [ho]; simp, fun β w a' h h2 => ?_⟩
  obtain ⟨q, zv, q1, q2, q3, q4, q5⟩ := he.info
  have hzp := he.pos
  have hzs : zv.cells.size = z := by rw [← (q5 (fun _ => .none)).1]; exact he.pos.1
  have hvl : vs.length = n := by have := hx.1; simp at this; omega
  have hr : VRels β vs (xs.map a'.eval).toArray := by simpa using hx.rel h2
  obtain ⟨cells', g1, g2, g3, g4⟩ := buildSlice_fill (β := β) (z := z) vs (xs.map a'.eval) 0 ((Array.range (n * z)).map fun i => (if n * z = 0 then #[] else zv.cells)[i % (if n * z = 0 then (#[] : Array Value) else zv.cells).size]!) hr hz (by simp [hvl])
  have hmap : (parts.map fun (i, x) => (i, a'.eval x)).toList = ((xs.map a'.eval).zipIdx 0).map fun p => (p.2, p.1) := by
    rw [Array.toList_map, hp, List.map_map, List.zipIdx_map, List.map_map]
    apply List.map_congr_left
    intro p _
    rfl
  have hsz : cells'.size = n * z := by rw [g2]; simp
  obtain ⟨β', k1, k2, k3⟩ := h.newRows (vs.map HV.cells) cells' e z hzp.2 (by simp [hsz, hvl]) (by
    intro i row hi
    rw [List.getElem?_map] at hi
    cases hv : vs[i]? with
    | none => rw [hv] at hi; cases hi
    | some v =>
      rw [hv] at hi
      cases hi
      have hm : v ∈ vs := List.mem_of_getElem? hv
      refine ⟨hz v hm, fun j u hu => ⟨hf v hm u (List.mem_of_getElem? hu), ?_⟩⟩
      obtain ⟨u', m1, m2⟩ := g4 i v hv j u hu
      exact ⟨u', by simpa using m1, m2⟩) (.inl (by simp [hsz, hvl]))
  refine ⟨β', _, .slice (some ⟨w.heap.size, 0, none⟩) n n, k1, .inl ?_, ?_, by simpa [HS.lit] using k3⟩
  · have hpow : (2 : Nat) ^ 24 = 16777216 := by decide
    have b1 : ¬ (n * z > 2 ^ 24) := by rw [hpow]; omega
    by_cases hn0 : n * z = 0
    · have e1 : ∀ cs, Instr.fill (fun i => some (i * z, z)) ((Array.range (n * z)).map fun i => (#[] : Array Value)[i % (#[] : Array Value).size]!) cs = Instr.fill (fun i => some (i * z, z)) ((Array.range (n * z)).map fun i => (if n * z = 0 then #[] else zv.cells)[i % (if n * z = 0 then (#[] : Array Value) else zv.cells).size]!) cs := fun cs => by rw [if_pos hn0]
      simp only [execOp, ho, Instr.buildSlice, Sem.run_bind, underlying, run_program, Result.andThen_ok, he.slice, Sem.run_pure, Go.sizeOf, typeInfo, q1, q2, b1, if_false]
      simp only [hn0, if_true, Sem.run_pure, Sem.run_bind, Result.andThen_ok, hmap]
      rw [hn0] at g1
      simp only [if_true] at g1
      rw [g1]
      simp [newRow]
    · simp only [execOp, ho, Instr.buildSlice, Sem.run_bind, underlying, run_program, Result.andThen_ok, he.slice, Sem.run_pure, Go.sizeOf, typeInfo, q1, q2, b1, if_false, hn0, zeroValue, q4, hmap]
      simp only [hn0, if_false] at g1
      rw [g1]
      simp [newRow]
  · simp only [HS.lit, Sl.hv]
    have := VRel.sl (β := β') (off := 0) (len := n) (cap := n) (c := some n) k2 (Nat.le_refl _) (by simp [hvl]) (fun hc => by cases hc) (fun q hq => by cases hq; simp [hvl]) (by simp [hsz])
    simpa [hvl] using this
end
end Go.Proofs.YtcphapfclncggaaDoor.HL
