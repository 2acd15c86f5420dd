/- The layer book: lists in order, searched, put into, taken from. -/
import Derived.Test.YtlfdaflngmkldaaBfFold
namespace Go.Proofs.Ytlfdaflngmkldaa.X
open Go.Proofs.Ytlfdaflngmkldaa.HL
set_option linter.unusedVariables false
theorem vec_keep {n z : Nat} {T T' : HS} {s : Sl} {rows : List (List HV)} (h : Vec n T z s rows) (he : ∀ q, s.a = some q → T'.heap q.1 = T.heap q.1) (hn : T.next ≤ T'.next) : Vec n T' z s rows := by
  cases h with
  | nil => exact .nil
  | open_ g1 g2 g3 => exact .open_ ((he _ rfl).trans g1) g2 (Nat.lt_of_lt_of_le g3 hn)
  | capped g1 g2 g3 g4 g5 g6 => exact .capped ((he _ rfl).trans g1) g2 (Nat.lt_of_lt_of_le g3 hn) g4 g5 g6
/-! ### slices that can be put into -/
def OV (S : HS) (z : Nat) (s : Sl) (rows : List (List HV)) : Prop := (s.a = none ∧ s.len = 0 ∧ rows = []) ∨ ∃ id, s = ⟨some (id, 0), rows.length, none⟩ ∧ S.heap id = .cells z rows true ∧ id < S.next
theorem OV.keep {S S' : HS} {z : Nat} {s : Sl} {rows : List (List HV)} (h : OV S z s rows) (he : ∀ q, s.a = some q → S'.heap q.1 = S.heap q.1) (hn : S.next ≤ S'.next) : OV S' z s rows := by
  rcases h with h | ⟨id, rfl, h2, h3⟩
  · exact .inl h
  · exact .inr ⟨id, rfl, (he _ rfl).trans h2, Nat.lt_of_lt_of_le h3 hn⟩
theorem OV.rows {S : HS} {z : Nat} {s : Sl} {rows : List (List HV)} (h : OV S z s rows) : S.rows s z = some rows := by
  rcases h with ⟨h1, h2, rfl⟩ | ⟨id, rfl, h2, h3⟩
  · unfold HS.rows; rw [h1]; simp [h2]
  · simp [HS.rows, h2]
theorem OV.len {S : HS} {z : Nat} {s : Sl} {rows : List (List HV)} (h : OV S z s rows) : s.len = rows.length := (rows_len h.rows).symm
theorem OV.lt {S : HS} {z : Nat} {s : Sl} {rows : List (List HV)} (h : OV S z s rows) {q : Nat × Nat} (hq : s.a = some q) : q.1 < S.next := by
  rcases h with ⟨h1, _, _⟩ | ⟨id, rfl, h2, h3⟩
  · rw [h1] at hq; cases hq
  · cases hq; exact h3
theorem ins_ov {S : HS} {z : Nat} {s : Sl} {rows : List (List HV)} {row : List HV} (h : OV S z s rows) {i : Nat} (hi : i ≤ rows.length) (hb : rows.length + 1 ≤ 2147483648) :
    ∃ s' S', (S.lit [row] z).2.ins s (i : Int) (S.lit [row] z).1 z = some (s', S') ∧ OV S' z s' (rows.take i ++ [row] ++ rows.drop i) ∧ S.next ≤ S'.next ∧ (∀ id, id < S.next → (∀ q, s.a = some q → q.1 ≠ id) → S'.heap id = S.heap id) ∧ ∀ q, s'.a = some q → S.next ≤ q.1 := by
  have hr : (S.lit [row] z).2.rows (S.lit [row] z).1 z = some [row] := by simp [HS.lit, HS.rows, new_here]
  unfold HS.ins
  rw [hr, Option.bind_some]
  rcases h with ⟨h1, h2, rfl⟩ | ⟨id, rfl, h2, h3⟩
  · obtain rfl : i = 0 := by simpa using hi
    rw [if_neg (by rw [h2]; simp), h1]
    simp only
    rw [if_pos ⟨h2, rfl⟩]
    refine ⟨_, _, rfl, .inr ⟨_, rfl, new_here _ _, Nat.lt_succ_self _⟩, ?_, fun id hid _ => ?_, fun q hq => ?_⟩
    · simp only [HS.lit, new_next]; omega
    · rw [new_old _ (by simp only [HS.lit, new_next]; omega)]; exact new_old _ hid
    · cases hq; simp only [HS.lit, new_next]; omega
  · rw [if_neg (by simp; omega)]
    have hid : (S.lit [row] z).2.heap id = .cells z rows true := (new_old _ h3).trans h2
    simp only [hid, show (S.lit [row] z).1.a = some (S.next, 0) from rfl]
    have hc : z = z ∧ (0 : Nat) = 0 ∧ (none : Option Nat) = none ∧ rows.length = rows.length ∧ (0 : Int) ≤ (i : Int) ∧ (i : Int) ≤ (rows.length : Int) ∧ S.next ≠ id ∧ S.next < (S.lit [row] z).2.next ∧ (S.lit [row] z).2.mrk S.next ≠ 1 ∧ ((S.lit [row] z).2.heap S.next).own = true := by
      refine ⟨rfl, rfl, rfl, rfl, by omega, by omega, by omega, Nat.lt_succ_self _, ?_, ?_⟩
      · simp [HS.lit, HS.new, HS.newM]
      · show ((S.new _).heap S.next).own = true
        rw [new_here]; rfl
    rw [if_pos (by simpa using hc)]
    have hn : (S.lit [row] z).2.next = S.next + 1 := rfl
    refine ⟨_, _, rfl, .inr ⟨S.next + 2, ?_, ?_, ?_⟩, ?_, fun x hx hq => ?_, fun q hq => ?_⟩
    · simp only [hn]; simp; omega
    · simp [HS.swap, hn]
    · show S.next + 2 < (S.lit [row] z).2.next + 2; rw [hn]; omega
    · show S.next ≤ (S.lit [row] z).2.next + 2; rw [hn]; omega
    · have hxi : x ≠ id := fun e => hq _ rfl e.symm
      show (if x = (S.lit [row] z).2.next + 1 then _ else if x = (S.lit [row] z).2.next ∨ x = id then HObj.dead else (S.lit [row] z).2.heap x) = S.heap x
      rw [if_neg (by omega), if_neg (by omega)]
      exact new_old _ hx
    · cases hq; simp only [hn]; omega
theorem del_ov {S : HS} {z : Nat} {s : Sl} {rows : List (List HV)} (h : OV S z s rows) {i : Nat} (hi : i < rows.length) (hb : rows.length ≤ 2147483648) :
    ∃ s' S', S.del s (i : Int) ((i + 1 : Nat) : Int) z = some (s', S') ∧ OV S' z s' (rows.eraseIdx i) ∧ S.next ≤ S'.next ∧ (∀ id, id < S.next → (∀ q, s.a = some q → q.1 ≠ id) → S'.heap id = S.heap id) ∧ ∀ q, s'.a = some q → S.next ≤ q.1 := by
  rcases h with ⟨h1, h2, rfl⟩ | ⟨id, rfl, h2, h3⟩
  · simp at hi
  · unfold HS.del
    simp only [h2]
    rw [if_pos (by refine ⟨trivial, trivial, trivial, trivial, ?_, ?_, ?_, ?_⟩ <;> omega)]
    refine ⟨_, _, rfl, .inr ⟨S.next, ?_, ?_, Nat.lt_succ_self _⟩, Nat.le_succ _, fun x hx hq => ?_, fun q hq => by cases hq; exact Nat.le_refl _⟩
    · simp only [Int.toNat_natCast, List.length_eraseIdx, if_pos hi]
      congr 1; omega
    · show (if S.next = S.next then HObj.cells z (rows.take (i : Int).toNat ++ rows.drop ((i + 1 : Nat) : Int).toNat) true else _) = _
      rw [if_pos rfl, Int.toNat_natCast, Int.toNat_natCast, List.eraseIdx_eq_take_drop_succ]
    · show (if x = S.next then _ else if x = id then HObj.dead else S.heap x) = S.heap x
      rw [if_neg (by omega), if_neg (fun e => hq _ rfl e.symm)]

/-! ### the middle -/
theorem mid_eq {i j : Nat} (h : i + j ≤ 1000000) : w64 (Int.fdiv (IntKind.wrap .u64 (w64 ((i : Int) + (j : Int)))) (2 ^ (min (Int.toNat 1) (IntKind.bits .u64)))) = (((i + j) / 2 : Nat) : Int) := by
  have e1 : w64 ((i : Int) + (j : Int)) = ((i + j : Nat) : Int) := by rw [w64_id (by omega) (by omega)]; omega
  have e2 : IntKind.wrap .u64 ((i + j : Nat) : Int) = ((i + j : Nat) : Int) := by
    simp only [IntKind.wrap, IntKind.signed, IntKind.bits]
    simp
    omega
  have e3 : (2 : Int) ^ (min (Int.toNat 1) (IntKind.bits .u64)) = 2 := by decide
  rw [e1, e2, e3]
  have e4 : Int.fdiv ((i + j : Nat) : Int) 2 = (((i + j) / 2 : Nat) : Int) := by
    rw [Int.fdiv_eq_ediv_of_nonneg _ (by omega)]; omega
  rw [e4, w64_id (by omega) (by omega)]

/-! ### order -/
theorem cmpL_lt_trans {a b c : List UInt8} (h1 : cmpL a b < 0) (h2 : cmpL b c < 0) : cmpL a c < 0 := by
  have h3 := cmpL_trans a b c (by omega) (by omega)
  rcases Int.lt_or_eq_of_le h3 with h | h
  · exact h
  · have h4 : cmpL c a = 0 := by rw [cmpL_anti a c, h]; rfl
    have h5 := cmpL_trans b c a (by omega) (by omega)
    rw [cmpL_anti a b] at h5
    omega
theorem cmpL_eq_left {a b c : List UInt8} (h : cmpL a b = 0) : cmpL a c = cmpL b c := by
  rw [cmpL_zero] at h
  rw [cmpL_slt, cmpL_slt, h]
theorem cmpL_eq_right {a b c : List UInt8} (h : cmpL a b = 0) : cmpL c a = cmpL c b := by
  rw [cmpL_anti a c, cmpL_anti b c, cmpL_eq_left h]
abbrev En := List UInt8 × Bool
def enRow (e : En) : List HV := [.str e.1, .bool e.2]
def Srt (es : List En) : Prop := es.Pairwise fun a b => cmpL a.1 b.1 < 0
theorem Srt.lt {es : List En} (h : Srt es) {i j : Nat} (hi : i < es.length) (hj : j < es.length) (hij : i < j) : cmpL es[i].1 es[j].1 < 0 := List.pairwise_iff_getElem.1 h i j hi hj hij
/-- Where a name stands, or would. -/
structure PosOf (es : List En) (t : List UInt8) (p : Nat) : Prop where
  le : p ≤ es.length
  lo : ∀ q (hq : q < es.length), q < p → cmpL es[q].1 t < 0
  hi : ∀ q (hq : q < es.length), p ≤ q → ¬ cmpL es[q].1 t < 0
def foundAt (es : List En) (t : List UInt8) (p : Nat) : Bool := match es[p]? with | some e => decide (cmpL e.1 t = 0) | none => false
theorem PosOf.gt {es : List En} {t : List UInt8} {p : Nat} (h : PosOf es t p) (hs : Srt es) (hf : foundAt es t p = false) {q : Nat} (hq : q < es.length) (hpq : p ≤ q) : cmpL t es[q].1 < 0 := by
  have hp : p < es.length := by omega
  have h1 := h.hi p hp (Nat.le_refl _)
  have h2 : cmpL es[p].1 t ≠ 0 := by
    simp only [foundAt, List.getElem?_eq_getElem hp, decide_eq_false_iff_not] at hf
    exact hf
  have h3 : cmpL t es[p].1 < 0 := by rw [cmpL_anti]; omega
  rcases Nat.eq_or_lt_of_le hpq with e | e
  · subst e; exact h3
  · exact cmpL_lt_trans h3 (hs.lt hp hq e)
theorem ins_srt {es : List En} {t : List UInt8} {p : Nat} (h : PosOf es t p) (hs : Srt es) (hf : foundAt es t p = false) (v : Bool) : Srt (es.take p ++ [(t, v)] ++ es.drop p) := by
  unfold Srt
  rw [List.append_assoc, List.pairwise_append]
  refine ⟨List.Pairwise.sublist (List.take_sublist _ _) hs, ?_, fun a ha b hb => ?_⟩
  · rw [List.singleton_append, List.pairwise_cons]
    refine ⟨fun b hb => ?_, List.Pairwise.sublist (List.drop_sublist _ _) hs⟩
    obtain ⟨q, hq, rfl⟩ := List.getElem_of_mem hb
    rw [List.getElem_drop]
    exact h.gt hs hf _ (by omega)
  · obtain ⟨q, hq, rfl⟩ := List.getElem_of_mem ha
    rw [List.length_take] at hq
    rw [List.getElem_take]
    have h1 := h.lo q (by omega) (by omega)
    rcases List.mem_append.1 hb with hb | hb
    · simp only [List.mem_singleton] at hb
      subst hb; exact h1
    · obtain ⟨q2, hq2, rfl⟩ := List.getElem_of_mem hb
      rw [List.getElem_drop]
      rw [List.length_drop] at hq2
      exact hs.lt (by omega) (by omega) (by omega)
theorem set_srt {es : List En} {t : List UInt8} {p : Nat} (hs : Srt es) (hf : foundAt es t p = true) (v : Bool) : Srt (es.set p (t, v)) := by
  have hp : p < es.length := by
    unfold foundAt at hf
    cases he : es[p]? with
    | none => rw [he] at hf; cases hf
    | some e => exact (List.getElem?_eq_some_iff.1 he).1
  have h0 : cmpL es[p].1 t = 0 := by
    simp only [foundAt, List.getElem?_eq_getElem hp, decide_eq_true_eq] at hf
    exact hf
  refine List.pairwise_iff_getElem.2 fun i j hi hj hij => ?_
  rw [List.length_set] at hi hj
  rw [List.getElem_set, List.getElem_set]
  have := hs.lt hi hj hij
  split
  · rename_i e
    subst e
    rw [if_neg (by omega)]
    rw [← cmpL_eq_left h0]; exact this
  · split
    · rename_i e
      subst e
      rw [← cmpL_eq_right h0]; exact this
    · exact this
theorem erase_srt {es : List En} (hs : Srt es) (p : Nat) : Srt (es.eraseIdx p) := List.Pairwise.sublist (List.eraseIdx_sublist _ _) hs
/-- What is left is not alike. -/
theorem erase_away {es : List En} {t : List UInt8} {p : Nat} (hs : Srt es) (hf : foundAt es t p = true) : ∀ e ∈ es.eraseIdx p, e ∈ es ∧ cmpL t e.1 ≠ 0 := by
  have hp : p < es.length := by
    unfold foundAt at hf
    cases he : es[p]? with
    | none => rw [he] at hf; cases hf
    | some e => exact (List.getElem?_eq_some_iff.1 he).1
  have h0 : cmpL es[p].1 t = 0 := by
    simp only [foundAt, List.getElem?_eq_getElem hp, decide_eq_true_eq] at hf
    exact hf
  intro e he
  rw [List.mem_eraseIdx_iff_getElem] at he
  obtain ⟨q, hq, hne, rfl⟩ := he
  refine ⟨List.getElem_mem hq, fun hc => ?_⟩
  have h1 : cmpL es[p].1 es[q].1 = 0 := by rw [cmpL_eq_left h0]; exact hc
  rcases Nat.lt_or_ge p q with h | h
  · have := hs.lt hp hq h; omega
  · have h2 := hs.lt hq hp (by omega)
    rw [cmpL_anti] at h1; omega
theorem none_alike {es : List En} {t : List UInt8} {p : Nat} (h : PosOf es t p) (hs : Srt es) (hf : foundAt es t p = false) : ∀ e ∈ es, cmpL t e.1 ≠ 0 := by
  intro e he hc
  obtain ⟨q, hq, rfl⟩ := List.getElem_of_mem he
  rcases Nat.lt_or_ge q p with h1 | h1
  · have := h.lo q hq h1; rw [cmpL_anti] at hc; omega
  · have := h.gt hs hf hq h1; omega
end Go.Proofs.Ytlfdaflngmkldaa.X
