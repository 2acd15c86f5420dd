/- The layer HL, part 19: reading slices, structs in cells. -/
import Derived.Test.YtcphapfclncggaaDoorHLp
import Derived.Test.YtcphapfclncggaaDoorHLr
namespace Go.Proofs.YtcphapfclncggaaDoor.HL

/-- A slice reads as rows; its block lies below m. -/
structure Rd (m : Nat) (S : HS) (z : Nat) (s : Sl) (rows : List (List HV)) : Prop where
  rows : S.rows s z = some rows
  lt : ∀ p, s.a = some p → p.1 < m
theorem Vec.rd {n z : Nat} {S : HS} {s : Sl} {rows : List (List HV)} (h : Vec n S z s rows) : Rd S.next S z s rows := by
  refine ⟨h.rows, fun p hp => ?_⟩
  cases h with
  | nil => cases hp
  | open_ h hn hl => cases hp; exact hl
  | capped h hn hl hc hr ht => cases hp; exact hl
theorem ArgSl.rd {S : HS} {z : Nat} {s : Sl} {rows : List (List HV)} (h : ArgSl S z s rows) : Rd S.next S z s rows := by
  refine ⟨h.rows, fun p hp => ?_⟩
  cases h with
  | nil => cases hp
  | at_ h hl => cases hp; exact hl
theorem Rd.frame {m m' z : Nat} {S S' : HS} {s : Sl} {rows : List (List HV)} (h : Rd m S z s rows) (hf : Fr m' S S') (hm : m ≤ m') : Rd m S' z s rows := by
  refine ⟨?_, h.lt⟩
  have := h.rows
  unfold HS.rows at this ⊢
  cases ha : s.a with
  | none => rw [ha] at this; exact this
  | some p =>
    obtain ⟨id, off⟩ := p
    rw [ha] at this
    simp only at this ⊢
    rw [hf.eq id (Nat.lt_of_lt_of_le (h.lt _ ha) hm)]
    exact this
theorem Rd.mono {m m' z : Nat} {S : HS} {s : Sl} {rows : List (List HV)} (h : Rd m S z s rows) (hm : m ≤ m') : Rd m' S z s rows := ⟨h.rows, fun p hp => Nat.lt_of_lt_of_le (h.lt p hp) hm⟩
theorem Rd.len {m z : Nat} {S : HS} {s : Sl} {rows : List (List HV)} (h : Rd m S z s rows) : s.len = rows.length := (rows_len h.rows).symm
theorem rows_idx {S : HS} {z : Nat} {s : Sl} {rows : List (List HV)} (h : S.rows s z = some rows) {i : Nat} (hi : i < rows.length) : ∃ ad, S.idx s (i : Int) z = some ad ∧ ad.j = 0 ∧ S.row ad.id ad.i = some rows[i] := by
  have hl := (rows_len h).symm
  unfold HS.rows at h
  split at h
  · split at h
    · cases h; simp at hi
    · cases h
  · rename_i id off ha
    split at h
    · rename_i z' rws own hh
      split at h
      · rename_i hc
        cases h
        simp only [List.length_take, List.length_drop] at hi
        refine ⟨⟨id, off + i, 0⟩, ?_, rfl, ?_⟩
        · simp only [HS.idx, ha, hh]
          simp
          omega
        · simp only [HS.row, hh, List.getElem_take, List.getElem_drop]
          rw [List.getElem?_eq_getElem]
      · cases h
    · cases h
theorem row_get {S : HS} {ad : HA} {r : List HV} {v : HV} {j : Nat} (h : S.row ad.id ad.i = some r) (hj : ad.j = 0) (hv : r[j]? = some v) : S.get (HA.fld ad j) = some v := by
  simp only [HS.get, h, Option.bind_some, hj, Nat.zero_add]
  exact hv
theorem row_ldS {S : HS} {ad : HA} {r : List HV} {s : List UInt8} {j : Nat} (h : S.row ad.id ad.i = some r) (hj : ad.j = 0) (hv : r[j]? = some (.str s)) : S.ldS (HA.fld ad j) = some s := by
  rw [HS.ldS, row_get h hj hv]; rfl
theorem row_ldI {S : HS} {ad : HA} {r : List HV} {k : IntKind} {n : Int} {j : Nat} (h : S.row ad.id ad.i = some r) (hj : ad.j = 0) (hv : r[j]? = some (.int k n)) : S.ldI k (HA.fld ad j) = some n := by
  rw [HS.ldI, row_get h hj hv]; simp [dI]
theorem row_ldB {S : HS} {ad : HA} {r : List HV} {b : Bool} {j : Nat} (h : S.row ad.id ad.i = some r) (hj : ad.j = 0) (hv : r[j]? = some (.bool b)) : S.ldB (HA.fld ad j) = some b := by
  rw [HS.ldB, row_get h hj hv]; rfl
theorem row_ldP {S : HS} {ad : HA} {r : List HV} {p : Option HA} {j : Nat} (h : S.row ad.id ad.i = some r) (hj : ad.j = 0) (hv : r[j]? = some (.ptr p)) : S.ldP (HA.fld ad j) = some p := by
  rw [HS.ldP, row_get h hj hv]; rfl
theorem row_ldSl {S : HS} {ad : HA} {r : List HV} {s : Sl} {j : Nat} (h : S.row ad.id ad.i = some r) (hj : ad.j = 0) (hv : r[j]? = some s.hv) : S.ldSl (HA.fld ad j) = some s := by
  rw [HS.ldSl, row_get h hj hv]; rfl
/-- A struct in a block of its own. -/
theorem cell_row {S : HS} {id z : Nat} {r : List HV} {b : Bool} (h : S.heap id = .cells z [r] b) : S.row (HA.cell0 id).id (HA.cell0 id).i = some r := by simp [HS.row, h]
theorem sets_row {S : HS} {id z i j : Nat} {rows : List (List HV)} {r vs : List HV} (h : S.heap id = .cells z rows true) (hr : rows[i]? = some r) (hj : j + vs.length ≤ r.length) :
    S.sets ⟨id, i, j⟩ vs = some (S.put id (.cells z (rows.set i (r.take j ++ vs ++ r.drop (j + vs.length))) true)) := by
  simp only [HS.sets, h, hr, hj, if_true]

theorem Vec.put_ne {n z id : Nat} {T : HS} {s : Sl} {rows : List (List HV)} {o : HObj} (h : Vec n T z s rows) (hne : ∀ q, s.a = some q → q.1 ≠ id) : Vec n (T.put id o) z s rows := by
  cases h with
  | nil => exact .nil
  | open_ g1 g2 g3 => exact .open_ (by rw [put_other _ (hne _ rfl)]; exact g1) g2 g3
  | capped g1 g2 g3 g4 g5 g6 => exact .capped (by rw [put_other _ (hne _ rfl)]; exact g1) g2 g3 g4 g5 g6
theorem Vec.frame2 {n m z : Nat} {T T' : HS} {s : Sl} {rows : List (List HV)} (h : Vec n T z s rows) (he : ∀ id, id < m → T'.heap id = T.heap id) (hl : T.next ≤ T'.next) (hq : ∀ q, s.a = some q → q.1 < m) : Vec n T' z s rows := by
  cases h with
  | nil => exact .nil
  | open_ g1 g2 g3 => exact .open_ (by rw [he _ (hq _ rfl)]; exact g1) g2 (Nat.lt_of_lt_of_le g3 hl)
  | capped g1 g2 g3 g4 g5 g6 => exact .capped (by rw [he _ (hq _ rfl)]; exact g1) g2 (Nat.lt_of_lt_of_le g3 hl) g4 g5 g6
theorem Sl.hv_inj {s t : Sl} (h : s.hv = t.hv) : s = t := by
  cases s; cases t; simp only [Sl.hv, HV.sl.injEq] at h; simp [h]
theorem Vec.mono {n m z : Nat} {T : HS} {s : Sl} {rows : List (List HV)} (h : Vec n T z s rows) (hm : m ≤ n) : Vec m T z s rows := by
  cases h with
  | nil => exact .nil
  | open_ g1 g2 g3 => exact .open_ g1 (Nat.le_trans hm g2) g3
  | capped g1 g2 g3 g4 g5 g6 => exact .capped g1 (Nat.le_trans hm g2) g3 g4 g5 g6
theorem Vec.lo {n z : Nat} {T : HS} {s : Sl} {rows : List (List HV)} (h : Vec n T z s rows) : ∀ q, s.a = some q → n ≤ q.1 ∧ q.1 < T.next := by
  intro q hq
  cases h with
  | nil => cases hq
  | open_ g1 g2 g3 => cases hq; exact ⟨g2, g3⟩
  | capped g1 g2 g3 g4 g5 g6 => cases hq; exact ⟨g2, g3⟩
/-- append, with all that stays. -/
theorem Vec.app2 {n z : Nat} {S : HS} {s : Sl} {rows new : List (List HV)} (h : Vec n S z s rows) (hn : n ≤ S.next) (hl : rows.length + new.length ≤ 2147483648) : ∃ s' S', S.app s new z = some (s', S') ∧ Vec n S' z s' (rows ++ new) ∧ Fr n S S' ∧
    (∀ id, id < S.next → (∀ q, s.a = some q → q.1 ≠ id) → S'.heap id = S.heap id) ∧ (∀ q, s'.a = some q → S.next ≤ q.1 ∨ ∃ q0, s.a = some q0 ∧ q0.1 = q.1) := by
  unfold HS.app
  by_cases he : new = []
  · subst he; rw [if_pos rfl]; exact ⟨s, S, rfl, by simpa using h, Fr.refl _ _, fun _ _ _ => rfl, fun q hq => .inr ⟨q, hq, rfl⟩⟩
  rw [if_neg he, if_pos (by rw [h.len]; exact hl)]
  have hne : 0 < new.length := List.length_pos_iff.2 he
  cases h with
  | nil =>
    refine ⟨_, _, rfl, ?_, Fr.new hn _, fun id hid _ => new_old _ hid, fun q hq => by cases hq; exact .inl (Nat.le_refl _)⟩
    exact .open_ (new_here _ _) hn (by simp [new_next])
  | @open_ id _ h hid hidl =>
    simp only [h, if_true]
    by_cases hfit : 0 + rows.length + new.length ≤ rows.length
    · exfalso; omega
    rw [if_neg hfit, if_pos (by simp)]
    refine ⟨_, _, rfl, ?_, (Fr.put hid _).trans (Fr.newM (by rw [put_next]; exact hn) _ _), fun i hi hq => ?_, fun q hq => by cases hq; exact .inl (Nat.le_refl _)⟩
    · have hv : ((S.put id .dead).newM (.cells z (rows.drop 0 ++ new) true) (mfg (S.mrk id))).heap S.next = .cells z (rows ++ new) true := new_hereM _ _ _
      have := Vec.open_ (n := n) (z := z) hv hn (by simp [new_nextM, put_next])
      simpa using this
    · rw [new_oldM _ _ (by rw [put_next]; exact hi), put_other _ (fun e => hq _ rfl e.symm)]
  | @capped id c _ all h hid hidl hc hr ht =>
    simp only [h, if_true]
    by_cases hfit : rows.length + new.length ≤ c
    · rw [if_pos hfit]
      refine ⟨_, _, rfl, ?_, Fr.put hid _, fun i hi hq => put_other _ (fun e => hq _ rfl e.symm), fun q hq => by cases hq; exact .inr ⟨_, rfl, rfl⟩⟩
      have hlen : (splice all (0 + rows.length) new).length = c := by
        simp [splice]; omega
      have e : (rows ++ new).length = rows.length + new.length := by simp
      rw [← e]
      refine .capped (put_here _ _ _) hid hidl hlen (by rw [e]; exact hfit) ?_
      unfold splice
      rw [Nat.zero_add, ht, e, List.take_left' (by simp)]
    · rw [if_neg hfit]
      refine ⟨_, _, rfl, ?_, Fr.new hn _, fun i hi _ => new_old _ hi, fun q hq => by cases hq; exact .inl (Nat.le_refl _)⟩
      have hv : (S.new (.cells z ((all.drop 0).take rows.length ++ new) true)).heap S.next = .cells z (rows ++ new) true := by rw [List.drop_zero, ht]; exact new_here _ _
      have := Vec.open_ (n := n) (z := z) hv hn (by simp [new_next])
      simpa using this
/-- One element is written anew. -/
theorem Vec.set_ {n z : Nat} {T : HS} {s : Sl} {rows : List (List HV)} (h : Vec n T z s rows) {i : Nat} {row : List HV} (hi : i < rows.length) (hr : row.length = (rows[i]).length) :
    ∃ ad T', T.idx s (i : Int) z = some ad ∧ ad.j = 0 ∧ T.row ad.id ad.i = some rows[i] ∧ T.sets ad row = some T' ∧ Vec n T' z s (rows.set i row) ∧ Fr n T T' ∧ T'.next = T.next ∧ (∀ id, (∀ q, s.a = some q → q.1 ≠ id) → T'.heap id = T.heap id) := by
  cases h with
  | nil => simp at hi
  | @open_ id _ g1 g2 g3 =>
    refine ⟨⟨id, i, 0⟩, T.put id (.cells z (rows.set i row) true), by simp [HS.idx, g1, hi], rfl, by simp [HS.row, g1, hi], ?_, ?_, Fr.put g2 _, rfl, fun j hj => put_other _ (fun e => hj _ rfl e.symm)⟩
    · rw [sets_row g1 (List.getElem?_eq_getElem hi) (by omega)]
      simp [hr]
    · have := Vec.open_ (n := n) (z := z) (put_here T id (.cells z (rows.set i row) true)) g2 g3
      simpa using this
  | @capped id c _ all g1 g2 g3 g4 g5 g6 =>
    have hia : i < all.length := by omega
    have hget : all[i] = rows[i] := by
      have : (all.take rows.length)[i]? = rows[i]? := by rw [g6]
      rw [List.getElem?_take, if_pos hi, List.getElem?_eq_getElem hia, List.getElem?_eq_getElem hi] at this
      exact Option.some.inj this
    refine ⟨⟨id, i, 0⟩, T.put id (.cells z (all.set i row) true), by simp [HS.idx, g1, hi], rfl, by simp [HS.row, g1, hia, hget], ?_, ?_, Fr.put g2 _, rfl, fun j hj => put_other _ (fun e => hj _ rfl e.symm)⟩
    · rw [sets_row g1 (List.getElem?_eq_getElem hia) (by rw [hget]; omega)]
      simp [hr, hget]
    · have e : (rows.set i row).length = rows.length := by simp
      have := Vec.capped (n := n) (z := z) (c := c) (rows := rows.set i row) (put_here T id (.cells z (all.set i row) true)) g2 g3 (by simpa using g4) (by simpa using g5) (by rw [e, List.take_set, g6])
      rw [e] at this
      exact this

/-- Pairs of a name and a number. -/
def pairRow (x : List UInt8 × Int) : List HV := [.str x.1, .int .i64 x.2]
theorem pair_rows {S : HS} {s : Sl} {xs : List (List UInt8 × Int)} (h : S.rows s 2 = some (xs.map pairRow)) {i : Nat} (hi : i < xs.length) : ∃ ad, S.idx s (i : Int) 2 = some ad ∧ S.ldS (HA.fld ad 0) = some xs[i].1 ∧ S.ldI .i64 (HA.fld ad 1) = some xs[i].2 := by
  obtain ⟨ad, h1, h2, h3⟩ := rows_idx h (i := i) (by simpa using hi)
  rw [List.getElem_map] at h3
  exact ⟨ad, h1, row_ldS h3 h2 rfl, row_ldI h3 h2 rfl⟩
end Go.Proofs.YtcphapfclncggaaDoor.HL
