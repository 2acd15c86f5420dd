/- The layer HL, part 6: operations on memory. -/
import Derived.Test.YtcphapfclncggaaDoorHLe
namespace Go.Proofs.YtcphapfclncggaaDoor.HL
open Go.RowKit (Below)

/-! ### Reading and writing the abstract heap -/
def HS.row (S : HS) (id i : Nat) : Option (List HV) :=
  match S.heap id with
  | .cells _ rows _ => rows[i]?
  | _ => none
def HS.get (S : HS) (ad : HA) : Option HV := (S.row ad.id ad.i).bind (·[ad.j]?)
def HS.gets (S : HS) (ad : HA) (n : Nat) : Option (List HV) :=
  (S.row ad.id ad.i).bind fun r => if ad.j + n ≤ r.length then some ((r.drop ad.j).take n) else none
def HS.sets (S : HS) (ad : HA) (vs : List HV) : Option HS :=
  match S.heap ad.id with
  | .cells z rows true =>
    match rows[ad.i]? with
    | some r => if ad.j + vs.length ≤ r.length then some (S.put ad.id (.cells z (rows.set ad.i (r.take ad.j ++ vs ++ r.drop (ad.j + vs.length))) true)) else none
    | none => none
  | _ => none
def HS.set (S : HS) (ad : HA) (v : HV) : Option HS := S.sets ad [v]
/-! ### Blocks of cells in the world -/
def World.setRow (w : World) (b : Nat) (arr : Array Value) (t : TypeId) (fr : Nat × Nat) : World := { w with heap := w.heap.setIfInBounds b (.cells arr t fr) }
theorem cell_of {w : World} {b : Nat} {arr : Array Value} {t : TypeId} {fr : Nat × Nat} (h : w.heap[b]? = some (.cells arr t fr)) (i : Nat) : w.cell? ⟨b, i, none⟩ = arr[i]? := by
  simp [World.cell?, h]
theorem frozen_of {w : World} {b : Nat} {arr : Array Value} {t : TypeId} {fr : Nat × Nat} (h : w.heap[b]? = some (.cells arr t fr)) (i : Nat) : w.frozen? ⟨b, i, none⟩ = (decide (fr.1 ≤ i) && decide (i < fr.2)) := by
  obtain ⟨lo, hi⟩ := fr
  simp [World.frozen?, h]
theorem setCell_of {w : World} {b : Nat} {arr : Array Value} {t : TypeId} {fr : Nat × Nat} (h : w.heap[b]? = some (.cells arr t fr)) (i : Nat) (v : Value) :
    w.setCell ⟨b, i, none⟩ v = World.setRow w b (arr.setIfInBounds i v) t fr := by
  unfold World.setCell World.setRow
  congr 1
  apply Array.ext_getElem?
  intro j
  rw [Array.getElem?_modify, Array.getElem?_setIfInBounds]
  by_cases e : b = j
  · subst e
    rw [if_pos rfl, if_pos rfl, if_pos (Array.getElem?_eq_some_iff.1 h).1, h]; rfl
  · rw [if_neg e, if_neg e]
theorem setRow_at {w : World} {b : Nat} {arr arr' : Array Value} {t : TypeId} {fr : Nat × Nat} (h : w.heap[b]? = some (.cells arr t fr)) : (World.setRow w b arr' t fr).heap[b]? = some (.cells arr' t fr) := by
  simp only [World.setRow]
  rw [Array.getElem?_setIfInBounds, if_pos rfl, if_pos (Array.getElem?_eq_some_iff.1 h).1]
theorem setRow_setRow (w : World) (b : Nat) (arr arr' : Array Value) (t : TypeId) (fr : Nat × Nat) : World.setRow (World.setRow w b arr t fr) b arr' t fr = World.setRow w b arr' t fr := by
  simp only [World.setRow]
  congr 1
  apply Array.ext_getElem?
  intro j
  simp only [Array.getElem?_setIfInBounds, Array.size_setIfInBounds]
  split <;> rfl
theorem setRow_self {w : World} {b : Nat} {arr : Array Value} {t : TypeId} {fr : Nat × Nat} (h : w.heap[b]? = some (.cells arr t fr)) : World.setRow w b arr t fr = w := by
  simp only [World.setRow]
  have : w.heap.setIfInBounds b (.cells arr t fr) = w.heap := by
    apply Array.ext_getElem?
    intro j
    rw [Array.getElem?_setIfInBounds]
    by_cases e : b = j
    · subst e; rw [if_pos rfl, if_pos (Array.getElem?_eq_some_iff.1 h).1, h]
    · rw [if_neg e]
  rw [this]

/-- A row of values laid over an array from place i on. -/
def over (arr : Array Value) (i : Nat) : List Value → Array Value
  | [] => arr
  | v :: vs => over (arr.setIfInBounds i v) (i + 1) vs
theorem over_size : ∀ (vs : List Value) (arr : Array Value) (i : Nat), (over arr i vs).size = arr.size
  | [], _, _ => rfl
  | v :: vs, arr, i => by simp [over, over_size vs]
theorem over_get : ∀ (vs : List Value) (arr : Array Value) (i j : Nat), i + vs.length ≤ arr.size → (over arr i vs)[j]? = if i ≤ j ∧ j < i + vs.length then vs[j - i]? else arr[j]?
  | [], arr, i, j, _ => by simp only [over, List.length_nil, Nat.add_zero]; rw [if_neg (by omega)]
  | v :: vs, arr, i, j, h => by
    simp only [over, List.length_cons] at h ⊢
    rw [over_get vs _ _ _ (by simp; omega), Array.getElem?_setIfInBounds]
    by_cases e : i = j
    · subst e
      rw [if_neg (by omega), if_pos rfl, if_pos (by omega), if_pos (by omega)]; simp
    · by_cases e2 : i + 1 ≤ j ∧ j < i + 1 + vs.length
      · rw [if_pos e2, if_pos (by omega)]
        have : j - i = (j - (i + 1)) + 1 := by omega
        rw [this]; simp
      · rw [if_neg e2, if_neg e, if_neg (by omega)]

theorem add_none (b o n : Nat) : (⟨b, o, none⟩ : Addr).add n = ⟨b, o + n, none⟩ := by
  unfold Addr.add
  split
  · rename_i e; subst e; rfl
  · rfl

theorem run_storeCells {P : Program} {b o : Nat} {t : TypeId} {fr : Nat × Nat} : ∀ (vs : List Value) (i : Nat) (w : World) (arr : Array Value), w.heap[b]? = some (.cells arr t fr) → o + i + vs.length ≤ arr.size →
    (∀ v ∈ vs, v.oneCell' = true) → (∀ j, j < arr.size → ¬ (fr.1 ≤ j ∧ j < fr.2)) → (storeCells ⟨b, o, none⟩ vs i).run P w = .ok () (World.setRow w b (over arr (o + i) vs) t fr) := by
  intro vs
  induction vs with
  | nil => intro i w arr h _ _ _; simp [storeCells, over, setRow_self h]
  | cons v vs ih =>
    intro i w arr h hsz hone hfr
    simp only [storeCells, Sem.run_bind, add_none]
    simp only [List.length_cons] at hsz
    have hlt : o + i < arr.size := by omega
    rw [run_store P w _ v _ (hone v (by simp)), cell_of h, frozen_of h]
    have hf : (decide (fr.1 ≤ o + i) && decide (o + i < fr.2)) = false := by
      have := hfr (o + i) hlt
      simp only [Bool.and_eq_false_iff, decide_eq_false_iff_not]
      omega
    rw [hf, Array.getElem?_eq_getElem hlt]
    simp only [Bool.false_eq_true, if_false, Result.andThen_ok]
    rw [setCell_of h, ih (i + 1) _ _ (setRow_at h) (by simp; omega) (fun v' hv => hone v' (by simp [hv])) (by simpa using hfr), setRow_setRow]
    rfl

theorem run_loadCells {P : Program} {b o : Nat} {t : TypeId} {fr : Nat × Nat} {w : World} {arr : Array Value} (h : w.heap[b]? = some (.cells arr t fr)) : ∀ (n i : Nat) (acc : Array Value), o + i + n ≤ arr.size →
    (loadCellsFrom ⟨b, o, none⟩ i n acc).run P w = .ok (acc ++ arr.extract (o + i) (o + i + n)) w := by
  intro n
  induction n with
  | zero => intro i acc _; simp [loadCellsFrom]; omega
  | succ n ih =>
    intro i acc hsz
    have hlt : o + i < arr.size := by omega
    simp only [loadCellsFrom, Sem.run_bind, add_none, run_load, cell_of h, Array.getElem?_eq_getElem hlt, Result.andThen_ok]
    rw [ih (i + 1) _ (by omega)]
    congr 1
    apply Array.ext_getElem?
    intro j
    simp only [Array.getElem?_append, Array.size_push, Array.getElem?_extract, Array.getElem?_push]
    by_cases e : j < acc.size
    · rw [if_pos (by omega), if_neg (by omega), if_pos e]
    · rw [if_neg e]
      by_cases e2 : j = acc.size
      · subst e2
        rw [if_pos (by omega), if_pos rfl, if_pos (by omega)]
        simp [Array.getElem?_eq_getElem hlt]
      · rw [if_neg (by omega)]
        have : j - (acc.size + 1) + (o + (i + 1)) = j - acc.size + (o + i) := by omega
        rw [show o + (i + 1) + (j - (acc.size + 1)) = o + i + (j - acc.size) by omega]
        congr 1
        simp only [eq_iff_iff]; omega

section
variable {P : Program} {base : Nat} {W0 : World} {a : HAct} {S : HS} {o : Oper} {β : Bt} {w : World}

theorem VRel.one {v : HV} {v' : Value} (h : VRel β v v') (hf : v.flat = true) : v'.oneCell' = true ∧ v'.cells = #[v'] := by
  cases h <;> simp [HV.flat] at hf <;> first | (rename_i h0; exact ⟨h0, one_cells h0⟩) | simp [Value.oneCell', Value.cells]
theorem RowsRel.flatMem {rows : List (List HV)} {arr : Array Value} {o z : Nat} (h : RowsRel β rows arr o z) (hz : 0 < z) (hsz : arr.size = rows.length * z) (ho : o = 0) : ∀ v' ∈ arr.toList, v'.oneCell' = true := by
  intro v' hv'
  subst ho
  obtain ⟨k, hk⟩ := List.getElem?_of_mem hv'
  have hk' : arr[k]? = some v' := by simpa using hk
  have hlt : k < rows.length * z := by rw [← hsz]; exact (Array.getElem?_eq_some_iff.1 hk').1
  have h1 : k / z < rows.length := (Nat.div_lt_iff_lt_mul hz).2 hlt
  obtain ⟨g1, g2⟩ := h (k / z) _ (List.getElem?_eq_getElem h1)
  have h2 : k % z < (rows[k / z]).length := by rw [g1]; exact Nat.mod_lt _ hz
  obtain ⟨g3, v2, g4, g5⟩ := g2 (k % z) _ (List.getElem?_eq_getElem h2)
  rw [Nat.zero_add, Nat.div_add_mod'] at g4
  rw [hk'] at g4
  cases g4
  exact (g5.one g3).1

theorem over_mem : ∀ (vs : List Value) (arr : Array Value) (i : Nat), (∀ v ∈ arr.toList, v.oneCell' = true) → (∀ v ∈ vs, v.oneCell' = true) → ∀ v ∈ (over arr i vs).toList, v.oneCell' = true
  | [], arr, i, h1, _ => h1
  | x :: vs, arr, i, h1, h2 => over_mem vs _ (i + 1) (fun v hv => by
      rw [Array.toList_setIfInBounds] at hv
      rcases List.mem_or_eq_of_mem_set hv with hv | hv
      · exact h1 v hv
      · subst hv; exact h2 _ (by simp)) (fun v hv => h2 v (by simp [hv]))

/-- The row of a live object in the world. -/
theorem Rel.row (h : Rel base W0 β S w) {id i : Nat} {r : List HV} (hr : S.row id i = some r) :
    ∃ b o z n tot arr t fr, β id = .mem b o z n tot ∧ w.heap[b]? = some (.cells arr t fr) ∧ arr.size = tot ∧ r.length = z ∧ o + i * z + z ≤ tot ∧ (∀ j v, r[j]? = some v → v.flat = true ∧ ∃ v', arr[o + i * z + j]? = some v' ∧ VRel β v v') := by
  unfold HS.row at hr
  have ho := h.objs id
  cases hS : S.heap id with
  | cells z rows own =>
    rw [hS] at hr ho
    obtain ⟨b, o, tot, arr, t, fr, q1, q2, q3, q4, q5, q6, q7⟩ := ho
    have hi : i < rows.length := (List.getElem?_eq_some_iff.1 hr).1
    have hm : i * z + z ≤ rows.length * z := by rw [← Nat.succ_mul]; exact Nat.mul_le_mul_right z hi
    exact ⟨b, o, z, rows.length, tot, arr, t, fr, q1, q2, q3, (q6 i r hr).1, by omega, (q6 i r hr).2⟩
  | _ => rw [hS] at hr; cases hr

theorem Rel.get (h : Rel base W0 β S w) {ad : HA} {v : HV} (hv : S.get ad = some v) : ∃ b off v', VRel β (.ptr (some ad)) (.pointer (some ⟨b, off, none⟩)) ∧ w.cell? ⟨b, off, none⟩ = some v' ∧ VRel β v v' := by
  unfold HS.get at hv
  cases hr : S.row ad.id ad.i with
  | none => rw [hr] at hv; cases hv
  | some r =>
    rw [hr] at hv
    obtain ⟨b, o, z, n, tot, arr, t, fr, q1, q2, q3, q4, q5, q6⟩ := h.row hr
    obtain ⟨_, v', g1, g2⟩ := q6 ad.j v hv
    exact ⟨b, o + ad.i * z + ad.j, v', .ptr q1, by rw [cell_of q2]; exact g1, g2⟩

theorem ptr_unique {ad : HA} {x y : Value} (h : VRel β (.ptr (some ad)) x) (k : VRel β (.ptr (some ad)) y) : x = y := by
  cases h with
  | ptr h1 =>
    cases k with
    | ptr h2 => rw [h1] at h2; cases h2; rfl

/-- Types whose values take one cell. -/
def Scalar (P : Program) (t : TypeId) : Prop :=
  ∃ d, P.underlying t = some d ∧ match d with | .struct _ => False | .array _ _ => False | _ => True
theorem Scalar.isAgg {t : TypeId} (h : Scalar P t) : (isAgg t).run P w = .ok false w := by
  obtain ⟨d, h1, h2⟩ := h
  cases d <;> first | exact h2.elim | simp [Go.isAgg, underlying, h1]
def IsAgg (P : Program) (t : TypeId) (n : Nat) : Prop :=
  (∃ d, P.underlying t = some d ∧ match d with | .struct _ => True | .array _ _ => True | _ => False) ∧ ∃ i, P.info? t = some i ∧ i.size = n
theorem IsAgg.isAgg {t : TypeId} {n : Nat} (h : IsAgg P t n) : (isAgg t).run P w = .ok true w := by
  obtain ⟨⟨d, h1, h2⟩, _⟩ := h
  cases d <;> first | exact h2.elim | simp [Go.isAgg, underlying, h1]
theorem IsAgg.size {t : TypeId} {n : Nat} (h : IsAgg P t n) : (sizeOf t).run P w = .ok n w := by
  obtain ⟨_, i, h1, h2⟩ := h
  simp [Go.sizeOf, typeInfo, h1, h2]

theorem ok_load {t : TypeId} {x : Operand} {ad : HA} {v : HV} (ho : o.op = .load t x) (ht : Scalar P t) (hx : Ev a x (.ptr (some ad))) (hv : S.get ad = some v) : OpOk P base W0 o a S v S := by
  refine .pure (by rw [ho]; simp) fun β w a' h1 h2 => ?_
  obtain ⟨b, off, v', g1, g2, g3⟩ := h1.get hv
  have e := ptr_unique (hx.rel h2) g1
  exact ⟨v', by simp [execOp, ho, Instr.loadAt, e, Instr.sureAddr, loadVar, ht.isAgg, g2], g3⟩

theorem ok_load_agg {t : TypeId} {x : Operand} {ad : HA} {n : Nat} {vs : List HV} (ho : o.op = .load t x) (ht : IsAgg P t n) (hx : Ev a x (.ptr (some ad))) (hv : S.gets ad n = some vs) : OpOk P base W0 o a S (.agg vs) S := by
  refine .pure (by rw [ho]; simp) fun β w a' h1 h2 => ?_
  unfold HS.gets at hv
  cases hr : S.row ad.id ad.i with
  | none => rw [hr] at hv; cases hv
  | some r =>
    rw [hr, Option.bind_some] at hv
    split at hv
    · rename_i hle
      cases hv
      obtain ⟨b, o1, z, n1, tot, arr, ty, fr, q1, q2, q3, q4, q5, q6⟩ := h1.row hr
      have e := ptr_unique (hx.rel h2) (VRel.ptr (i := ad.i) (j := ad.j) q1)
      refine ⟨.agg (arr.extract (o1 + ad.i * z + ad.j) (o1 + ad.i * z + ad.j + n)), ?_, .agg ?_ ?_⟩
      · have := run_loadCells (P := P) (o := o1 + ad.i * z + ad.j) q2 n 0 #[] (by omega)
        simp only [Nat.add_zero, Array.empty_append] at this
        simp [execOp, ho, Instr.loadAt, e, Instr.sureAddr, loadVar, ht.isAgg, ht.size, loadCells, this]
      · simp; omega
      · intro i v v' k1 k2
        rw [List.getElem?_take] at k1
        split at k1
        · rw [List.getElem?_drop] at k1
          obtain ⟨_, v2, m1, m2⟩ := q6 _ _ k1
          rw [Array.getElem?_extract] at k2
          split at k2
          · rw [show o1 + ad.i * z + ad.j + i = o1 + ad.i * z + (ad.j + i) by omega, m1] at k2
            cases k2; exact m2
          · cases k2
        · cases k1
    · cases hv

/-- A row of a live, unshared object is written anew. -/
theorem Rel.setRow (h : Rel base W0 β S w) {id z : Nat} {rows rows' : List (List HV)} (hS : S.heap id = .cells z rows true) {b o n tot : Nat} {arr arr' : Array Value} {t : TypeId} {fr : Nat × Nat} (hb : β id = .mem b o z n tot) (hw : w.heap[b]? = some (.cells arr t fr))
    (hsz : arr'.size = arr.size) (hlen : rows'.length = rows.length) (hrel : RowsRel β rows' arr' o z) (hone : ∀ v' ∈ arr'.toList, v'.oneCell' = true) : Rel base W0 β (S.put id (.cells z rows' true)) (World.setRow w b arr' t fr) := by
  have ho := h.objs id
  rw [hS] at ho
  obtain ⟨b1, o1, tot1, arr1, t1, fr1, q1, q2, q3, q4, q5, q6, q7⟩ := ho
  rw [hb] at q1
  cases q1
  rw [hw] at q2
  cases q2
  exact h.setObj (o' := .cells arr' t fr) (by rw [hb]; rfl) (q7 rfl).1 (by rw [hS]; rfl) (by rw [hS]; rfl)
    ⟨b, o, tot, arr', t, fr, by rw [hb, hlen], setRow_at hw, by rw [hsz]; exact q3, by rw [hlen]; exact q4, q5, hrel, fun _ => ⟨(q7 rfl).1, (q7 rfl).2.1, hone, (q7 rfl).2.2.2⟩⟩

theorem Rel.owned (h : Rel base W0 β S w) {id z : Nat} {rows : List (List HV)} (hS : S.heap id = .cells z rows true) :
    ∃ b o tot arr t fr, β id = .mem b o z rows.length tot ∧ w.heap[b]? = some (.cells arr t fr) ∧ arr.size = tot ∧ o + rows.length * z ≤ tot ∧ 0 < z ∧ RowsRel β rows arr o z ∧ base ≤ b ∧ (∀ i, i < tot → ¬ (fr.1 ≤ i ∧ i < fr.2)) ∧ (∀ v' ∈ arr.toList, v'.oneCell' = true) ∧ MkOk (S.mrk id) t fr o := by
  have ho := h.objs id
  rw [hS] at ho
  obtain ⟨b, o, tot, arr, t, fr, q1, q2, q3, q4, q5, q6, q7⟩ := ho
  exact ⟨b, o, tot, arr, t, fr, q1, q2, q3, q4, q5, q6, q7 rfl⟩

theorem mul_lt_rows {i k n z : Nat} (h : i < n) (hk : k < z) : i * z + k < n * z := by
  have h1 : i * z + z ≤ n * z := by rw [← Nat.succ_mul]; exact Nat.mul_le_mul_right z h
  omega
theorem rows_apart {i i' j j' z : Nat} (hj : j < z) (hj' : j' < z) (h : i * z + j = i' * z + j') : i = i' ∧ j = j' := by
  have hz : 0 < z := by omega
  have e1 : (i * z + j) / z = i := by rw [Nat.mul_comm, Nat.mul_add_div hz, Nat.div_eq_of_lt hj]; omega
  have e2 : (i' * z + j') / z = i' := by rw [Nat.mul_comm, Nat.mul_add_div hz, Nat.div_eq_of_lt hj']; omega
  have e3 : i = i' := by rw [← e1, ← e2, h]
  subst e3
  exact ⟨rfl, by omega⟩

theorem Rel.sets (h : Rel base W0 β S w) {ad : HA} {vs : List HV} {vs' : Array Value} {S' : HS} (hv : S.sets ad vs = some S') (hvs : VRels β vs vs') (hf : ∀ v ∈ vs, v.flat = true) :
    ∃ b off w', VRel β (.ptr (some ad)) (.pointer (some ⟨b, off, none⟩)) ∧ (storeCells ⟨b, off, none⟩ vs'.toList).run P w = .ok () w' ∧ Rel base W0 β S' w' := by
  unfold HS.sets at hv
  split at hv
  · rename_i z rows hS
    split at hv
    · rename_i r hr
      split at hv
      · rename_i hle
        cases hv
        obtain ⟨b, o, tot, arr, t, fr, q1, q2, q3, q4, q5, q6, q7, q8, q9, _⟩ := h.owned hS
        have hi : ad.i < rows.length := (List.getElem?_eq_some_iff.1 hr).1
        have hrz := (q6 ad.i r hr).1
        have hm : ad.i * z + z ≤ rows.length * z := by rw [← Nat.succ_mul]; exact Nat.mul_le_mul_right z hi
        have hl : vs'.toList.length = vs.length := by rw [hvs.1]; simp
        have hvone : ∀ v' ∈ vs'.toList, v'.oneCell' = true := by
          intro v' hv'
          obtain ⟨k, hk⟩ := List.getElem?_of_mem hv'
          have hk' : vs'[k]? = some v' := by simpa using hk
          have hkl : k < vs.length := by rw [hvs.1]; exact (Array.getElem?_eq_some_iff.1 hk').1
          have hvk : vs[k]? = some vs[k] := List.getElem?_eq_getElem hkl
          exact ((hvs.2 k _ _ hvk hk').one (hf _ (List.getElem_mem hkl))).1
        refine ⟨b, o + ad.i * z + ad.j, _, .ptr q1, run_storeCells vs'.toList 0 w arr q2 (by omega) hvone (by rw [q3]; exact q8), ?_⟩
        · refine h.setRow hS q1 q2 (by simp [over_size]) (by simp) ?_ (over_mem _ _ _ q9 hvone)
          intro i row hrow
          rw [List.getElem?_set] at hrow
          by_cases e : ad.i = i
          · subst e
            rw [if_pos rfl, if_pos hi] at hrow
            cases hrow
            refine ⟨by simp; omega, fun j v hjv => ?_⟩
            rw [over_get _ _ _ _ (by omega), hl]
            simp only [Nat.add_zero]
            rw [List.getElem?_append] at hjv
            have hlen1 : (r.take ad.j ++ vs).length = ad.j + vs.length := by simp; omega
            by_cases c1 : j < ad.j + vs.length
            · rw [hlen1, if_pos c1, List.getElem?_append] at hjv
              by_cases c2 : j < ad.j
              · rw [if_pos (by simp; omega), List.getElem?_take, if_pos c2] at hjv
                rw [if_neg (by omega)]
                exact (q6 ad.i r hr).2 j v hjv
              · rw [if_neg (by simp; omega)] at hjv
                have e1 : j - (r.take ad.j).length = j - ad.j := by simp; omega
                rw [e1] at hjv
                obtain ⟨v', g1, g2⟩ := hvs.get hjv
                rw [if_pos (by omega)]
                exact ⟨hf v (List.mem_of_getElem? hjv), v', by rw [show o + ad.i * z + j - (o + ad.i * z + ad.j) = j - ad.j by omega]; simpa using g1, g2⟩
            · rw [hlen1, if_neg c1, List.getElem?_drop] at hjv
              rw [if_neg (by omega)]
              obtain ⟨g0, v', g1, g2⟩ := (q6 ad.i r hr).2 _ v hjv
              exact ⟨g0, v', by rw [← g1]; congr 1; omega, g2⟩
          · rw [if_neg e] at hrow
            refine ⟨(q6 i row hrow).1, fun j v hjv => ?_⟩
            obtain ⟨g0, v', g1, g2⟩ := (q6 i row hrow).2 j v hjv
            refine ⟨g0, v', ?_, g2⟩
            have hjz : j < z := by rw [← (q6 i row hrow).1]; exact (List.getElem?_eq_some_iff.1 hjv).1
            rw [over_get _ _ _ _ (by omega), hl, if_neg ?_]
            · exact g1
            · simp only [Nat.add_zero]
              intro hc
              have : ∃ k, k < z ∧ ad.i * z + k = i * z + j := ⟨i * z + j - ad.i * z, by omega, by omega⟩
              obtain ⟨k, hk1, hk2⟩ := this
              exact e (rows_apart hk1 hjz hk2).1
      · cases hv
    · cases hv
  · cases hv

theorem cells_flat {v : HV} (h : v.flat = true) : v.cells = [v] := by cases v <;> simp_all [HV.flat, HV.cells]

theorem ok_store {t : TypeId} {x y : Operand} {ad : HA} {v : HV} {n : Nat} {S' : HS} (ho : o.op = .store t x y) (ht : ∃ i, P.info? t = some i ∧ i.size = n) (hx : Ev a x (.ptr (some ad))) (hy : Ev a y v) (hn : v.cells.length = n) (hf : ∀ u ∈ v.cells, u.flat = true)
    (hv : S.sets ad v.cells = some S') : OpOk P base W0 o a S (.tup []) S' := by
  refine ⟨by rw [ho]; simp, fun β w a' h1 h2 => ?_⟩
  have hc := (hy.rel h2).cells
  obtain ⟨b, off, w', g1, g2, g3⟩ := h1.sets (P := P) hv hc hf
  have e := ptr_unique (hx.rel h2) g1
  obtain ⟨i, hi, hsz⟩ := ht
  refine ⟨β, w', undef, .refl β, .inr ⟨?_, rfl⟩, VRel.undef β, g3⟩
  have hsize : (a'.eval y).cells.size = i.size := by rw [hsz, ← hn, hc.1]
  simp [execOp, ho, Instr.storeAt, e, Instr.sureAddr, storeVar, Go.sizeOf, typeInfo, hi, hsize, g2]

/-! ### New variables -/
theorem Rel.newRowsM (h : Rel base W0 β S w) (rows : List (List HV)) (arr : Array Value) (t : TypeId) (fr : Nat × Nat) (z : Nat) (m : Nat) (hm : MkOk m t fr 0) (hz : 0 < z) (hlen : rows.length * z ≤ arr.size) (hrel : RowsRel β rows arr 0 z) (hfr : ∀ i, i < arr.size → ¬ (fr.1 ≤ i ∧ i < fr.2)) (hone : arr.size = rows.length * z ∨ ∀ v' ∈ arr.toList, v'.oneCell' = true) :
    ∃ β', Le β β' ∧ β' S.next = .mem w.heap.size 0 z rows.length arr.size ∧ Rel base W0 β' (S.newM (.cells z rows true) m) { w with heap := w.heap.push (.cells arr t fr) } := by
  refine h.allocM (.cells arr t fr) (.cells z rows true) m (.mem w.heap.size 0 z rows.length arr.size) rfl fun β' hle hb => ?_
  exact ⟨w.heap.size, 0, arr.size, arr, t, fr, hb, by simp, rfl, by omega, hz, hrel.mono hle, fun _ => ⟨h.size, hfr, hone.elim (fun e => hrel.flatMem hz e rfl) fun e => e, hm⟩⟩
theorem Rel.newRows (h : Rel base W0 β S w) (rows : List (List HV)) (arr : Array Value) (t : TypeId) (z : Nat) (hz : 0 < z) (hlen : rows.length * z ≤ arr.size) (hrel : RowsRel β rows arr 0 z) (hone : arr.size = rows.length * z ∨ ∀ v' ∈ arr.toList, v'.oneCell' = true) :
    ∃ β', Le β β' ∧ β' S.next = .mem w.heap.size 0 z rows.length arr.size ∧ Rel base W0 β' (S.new (.cells z rows true)) { w with heap := w.heap.push (.cells arr t (0, 0)) } :=
  h.newRowsM rows arr t (0, 0) z 0 (.zero (Nat.le_refl _)) hz hlen hrel (fun i _ => by omega) hone

theorem rows_one {r : List HV} {arr : Array Value} (h : VRels β r arr) (hf : ∀ v ∈ r, v.flat = true) : RowsRel β [r] arr 0 r.length := by
  intro i row hrow
  cases i with
  | zero =>
    simp at hrow; subst hrow
    refine ⟨rfl, fun j v hv => ?_⟩
    obtain ⟨v', g1, g2⟩ := h.get hv
    exact ⟨hf v (List.mem_of_getElem? hv), v', by simpa using g1, g2⟩
  | succ i => simp at hrow

theorem ok_alloc {t : TypeId} {zv : Value} {r : List HV} (ho : o.op = .alloc t) (ht : (P.info? t).map (·.zero) = some (some zv)) (hz : ∀ β, VRels β r zv.cells) (hr : 0 < r.length) (hf : ∀ v ∈ r, v.flat = true) :
    OpOk P base W0 o a S (.ptr (some ⟨S.next, 0, 0⟩)) (S.new (.cells r.length [r] true)) := by
  refine ⟨by rw [ho]; simp, fun β w a' h1 h2 => ?_⟩
  obtain ⟨β', g1, g2, g3⟩ := h1.newRows [r] zv.cells t r.length hr (by simp [(hz β).1]) (rows_one (hz β) hf) (.inl (by simp [(hz β).1]))
  obtain ⟨i, hi, hi2⟩ : ∃ i, P.info? t = some i ∧ i.zero = some zv := by
    cases hc : P.info? t with
    | none => rw [hc] at ht; cases ht
    | some i => rw [hc] at ht; exact ⟨i, rfl, by simpa using ht⟩
  refine ⟨β', _, .pointer (some ⟨w.heap.size, 0, none⟩), g1, .inl ?_, ?_, g3⟩
  · simp [execOp, ho, Instr.alloc, zeroValue, typeInfo, hi, hi2, newVar, newRow]
  · simpa using VRel.ptr (i := 0) (j := 0) g2

theorem ok_box {t : TypeId} {x : Operand} {v : HV} (ho : o.op = .box t x) (hx : Ev a x v) (hr : 0 < v.cells.length) (hf : ∀ u ∈ v.cells, u.flat = true) :
    OpOk P base W0 o a S (.ptr (some ⟨S.next, 0, 0⟩)) (S.new (.cells v.cells.length [v.cells] true)) := by
  refine ⟨by rw [ho]; simp, fun β w a' h1 h2 => ?_⟩
  have hc := (hx.rel h2).cells
  obtain ⟨β', g1, g2, g3⟩ := h1.newRows [v.cells] (a'.eval x).cells t v.cells.length hr (by simp [hc.1]) (rows_one hc hf) (.inl (by simp [hc.1]))
  refine ⟨β', _, .pointer (some ⟨w.heap.size, 0, none⟩), g1, .inl ?_, ?_, g3⟩
  · simp [execOp, ho, Instr.box, newVar, newRow]
  · simpa using VRel.ptr (i := 0) (j := 0) g2

/-! ### Addresses -/
def fieldInfo (P : Program) (s : TypeId) (f : Nat) : Option (Nat × TypeId × Nat) :=
  match P.underlying s with
  | some (.struct fs) => (fs[f]?).bind fun x => (P.info? x.type).map fun i => (x.offset, x.type, i.size)
  | _ => none
theorem fieldInfo_out {s : TypeId} {f off u n : Nat} (h : fieldInfo P s f = some (off, u, n)) : ∃ fs x i, P.underlying s = some (.struct fs) ∧ fs[f]? = some x ∧ x.offset = off ∧ x.type = u ∧ P.info? u = some i ∧ i.size = n := by
  unfold fieldInfo at h
  split at h
  · rename_i fs hfs
    cases hx : fs[f]? with
    | none => rw [hx] at h; cases h
    | some x =>
      rw [hx] at h
      cases hi : P.info? x.type with
      | none => simp [hi] at h
      | some i =>
        simp [hi] at h
        obtain ⟨h1, h2, h3⟩ := h
        exact ⟨fs, x, i, hfs, hx, h1, h2, by rw [← h2]; exact hi, h3⟩
  · cases h

theorem ok_fieldAddr {s : TypeId} {x : Operand} {f off u n : Nat} {ad : HA} (ho : o.op = .fieldAddr s x f) (hfi : fieldInfo P s f = some (off, u, n)) (hn : n ≠ 0) (hx : Ev a x (.ptr (some ad))) : OpOk P base W0 o a S (.ptr (some ⟨ad.id, ad.i, ad.j + off⟩)) S := by
  refine .pure (by rw [ho]; simp) fun β w a' h1 h2 => ?_
  obtain ⟨fs, y, i, g1, g2, g3, g4, g5, g6⟩ := fieldInfo_out hfi
  have hr := hx.rel h2
  generalize hxv : a'.eval x = xv at hr
  obtain ⟨id, ai, aj⟩ := ad
  cases hr with
  | ptr hb =>
    refine ⟨_, ?_, VRel.ptr (i := ai) (j := aj + off) hb⟩
    subst g4
    simp [execOp, ho, Instr.fieldAt, hxv, underlying, g1, g2, Instr.sureAddr, fieldPlace, Go.sizeOf, typeInfo, g5, g6, hn, add_none, g3]
    omega

theorem ok_field {s : TypeId} {x : Operand} {f off u n : Nat} {vs : List HV} {v : HV} (ho : o.op = .field s x f) (hfi : fieldInfo P s f = some (off, u, n)) (ht : Scalar P u) (hx : Ev a x (.agg vs)) (hv : vs[off]? = some v) : OpOk P base W0 o a S v S := by
  refine .pure (by rw [ho]; simp) fun β w a' h1 h2 => ?_
  obtain ⟨fs, y, i, g1, g2, g3, g4, g5, g6⟩ := fieldInfo_out hfi
  have hr := hx.rel h2
  generalize hxv : a'.eval x = xv at hr
  cases hr with
  | agg e1 e2 =>
    obtain ⟨v', m1, m2⟩ := VRels.get ⟨e1, e2⟩ hv
    subst g4
    exact ⟨v', by simp [execOp, ho, Instr.field, hxv, underlying, g1, g2, asAgg, part, ht.isAgg, g3, m1], m2⟩

/-- Slices, typed. -/
structure Sl where
  a : Option (Nat × Nat)
  len : Nat
  cap : Option Nat
def Sl.hv (s : Sl) : HV := .sl s.a s.len s.cap
def Sl.nil : Sl := ⟨none, 0, none⟩

def HS.idx (S : HS) (s : Sl) (i : Int) (z : Nat) : Option HA :=
  if 0 ≤ i ∧ i < s.len then
    match s.a with
    | some (id, off) =>
      match S.heap id with
      | .cells z' _ _ => if z' = z then some ⟨id, off + i.toNat, 0⟩ else none
      | _ => none
    | none => none
  else none

theorem Rel.live (h : Rel base W0 β S w) {id z : Nat} {rows : List (List HV)} {own : Bool} (hS : S.heap id = .cells z rows own) :
    ∃ b o tot arr t fr, β id = .mem b o z rows.length tot ∧ w.heap[b]? = some (.cells arr t fr) ∧ arr.size = tot ∧ o + rows.length * z ≤ tot ∧ 0 < z ∧ RowsRel β rows arr o z := by
  have ho := h.objs id
  rw [hS] at ho
  obtain ⟨b, o, tot, arr, t, fr, q1, q2, q3, q4, q5, q6, q7⟩ := ho
  exact ⟨b, o, tot, arr, t, fr, q1, q2, q3, q4, q5, q6⟩

theorem ok_indexAddr {t e : TypeId} {x y : Operand} {s : Sl} {k : IntKind} {i : Int} {z : Nat} {ad : HA} (ho : o.op = .indexAddr t x y) (ht : P.underlying t = some (.slice e)) (hz : ∃ q, P.info? e = some q ∧ q.size = z) (hx : Ev a x s.hv) (hy : Ev a y (.int k i)) (hv : S.idx s i z = some ad) :
    OpOk P base W0 o a S (.ptr (some ad)) S := by
  refine .pure (by rw [ho]; simp) fun β w a' h1 h2 => ?_
  obtain ⟨sa, len, cap⟩ := s
  simp only [HS.idx] at hv
  split at hv
  · rename_i hi
    cases sa with
    | none => cases hv
    | some p =>
      obtain ⟨id, off⟩ := p
      simp only at hv
      split at hv
      · rename_i z' rows own hS
        split at hv
        · rename_i hrl
          cases hv
          subst hrl
          obtain ⟨q, hq1, hq2⟩ := hz
          have hrx := hx.rel h2
          simp only [Sl.hv] at hrx
          generalize hxv : a'.eval x = xv at hrx
          cases hrx with
          | sl hb e1 e2 e3 e4 e5 =>
            obtain ⟨b, o1, tot, arr, ty, fr, q1, q2, q3, q4, q5, q6⟩ := h1.live hS
            rw [hb] at q1
            cases q1
            refine ⟨_, ?_, VRel.ptr hb⟩
            simp [execOp, ho, Instr.indexAt, hxv, hy.at_int h2, asIntOf, underlying, ht, hi.1, hi.2, Go.sizeOf, typeInfo, hq1, add_none, hq2]
            rw [Nat.add_mul]; omega
          | slEnd hb e2 e3 e4 => have := hi.2; simp at this; omega
        · cases hv
      · cases hv
  · cases hv
end
end Go.Proofs.YtcphapfclncggaaDoor.HL
