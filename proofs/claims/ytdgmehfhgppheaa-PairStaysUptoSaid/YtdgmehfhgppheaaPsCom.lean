/- Sets, what is common to all. -/
import Derived.Test.YtdgmehfhgppheaaPrS3
import Derived.Test.YtdgmehfhgppheaaHLs
import Derived.Test.YtdgmehfhgppheaaHLx
namespace Go.Proofs.Ytdgmehfhgppheaa.X
open Go.Proofs.Ytdgmehfhgppheaa.HL
set_option linter.unusedVariables false
theorem vec_keep {n z : Nat} {T T' : HS} {s : Sl} {rows : List (List HV)} (h : Vec n T z s rows) (he : ∀ q, s.a = some q → T'.heap q.1 = T.heap q.1) (hn : T.next ≤ T'.next) : Vec n T' z s rows := by
  cases h with
  | nil => exact .nil
  | open_ g1 g2 g3 => exact .open_ ((he _ rfl).trans g1) g2 (Nat.lt_of_lt_of_le g3 hn)
  | capped g1 g2 g3 g4 g5 g6 => exact .capped ((he _ rfl).trans g1) g2 (Nat.lt_of_lt_of_le g3 hn) g4 g5 g6
theorem rows_keep {S S' : HS} {z : Nat} {s : Sl} {rows : List (List HV)} (h : S.rows s z = some rows) (hk : ∀ q, s.a = some q → S'.heap q.1 = S.heap q.1) : S'.rows s z = some rows := by
  unfold HS.rows at h ⊢
  cases ha : s.a with
  | none => rw [ha] at h; exact h
  | some q =>
    obtain ⟨id, off⟩ := q
    rw [ha] at h
    simp only at h ⊢
    rw [hk _ ha]
    exact h
def OV (S : HS) (z : Nat) (s : Sl) (rows : List (List HV)) : Prop := (s.a = none ∧ s.len = 0 ∧ rows = []) ∨ ∃ id, s = ⟨some (id, 0), rows.length, none⟩ ∧ S.heap id = .cells z rows true ∧ id < S.next
theorem OV.keep {S S' : HS} {z : Nat} {s : Sl} {rows : List (List HV)} (h : OV S z s rows) (he : ∀ q, s.a = some q → S'.heap q.1 = S.heap q.1) (hn : S.next ≤ S'.next) : OV S' z s rows := by
  rcases h with h | ⟨id, rfl, h2, h3⟩
  · exact .inl h
  · exact .inr ⟨id, rfl, (he _ rfl).trans h2, Nat.lt_of_lt_of_le h3 hn⟩
theorem OV.rows {S : HS} {z : Nat} {s : Sl} {rows : List (List HV)} (h : OV S z s rows) : S.rows s z = some rows := by
  rcases h with ⟨h1, h2, rfl⟩ | ⟨id, rfl, h2, h3⟩
  · unfold HS.rows; rw [h1]; simp [h2]
  · simp [HS.rows, h2]
theorem OV.len {S : HS} {z : Nat} {s : Sl} {rows : List (List HV)} (h : OV S z s rows) : s.len = rows.length := (rows_len h.rows).symm
theorem OV.lt {S : HS} {z : Nat} {s : Sl} {rows : List (List HV)} (h : OV S z s rows) {q : Nat × Nat} (hq : s.a = some q) : q.1 < S.next := by
  rcases h with ⟨h1, _, _⟩ | ⟨id, rfl, h2, h3⟩
  · rw [h1] at hq; cases hq
  · cases hq; exact h3
theorem ins_ov {S : HS} {z : Nat} {s : Sl} {rows : List (List HV)} {row : List HV} (h : OV S z s rows) {i : Nat} (hi : i ≤ rows.length) (hb : rows.length + 1 ≤ 2147483648) :
    ∃ s' S', (S.lit [row] z).2.ins s (i : Int) (S.lit [row] z).1 z = some (s', S') ∧ OV S' z s' (rows.take i ++ [row] ++ rows.drop i) ∧ S.next ≤ S'.next ∧ (∀ id, id < S.next → (∀ q, s.a = some q → q.1 ≠ id) → S'.heap id = S.heap id) ∧ ∀ q, s'.a = some q → S.next ≤ q.1 := by
  have hr : (S.lit [row] z).2.rows (S.lit [row] z).1 z = some [row] := by simp [HS.lit, HS.rows, new_here]
  unfold HS.ins
  rw [hr, Option.bind_some]
  rcases h with ⟨h1, h2, rfl⟩ | ⟨id, rfl, h2, h3⟩
  · obtain rfl : i = 0 := by simpa using hi
    rw [if_neg (by rw [h2]; simp), h1]
    simp only
    rw [if_pos ⟨h2, rfl⟩]
    refine ⟨_, _, rfl, .inr ⟨_, rfl, new_here _ _, Nat.lt_succ_self _⟩, ?_, fun id hid _ => ?_, fun q hq => ?_⟩
    · simp only [HS.lit, new_next]; omega
    · rw [new_old _ (by simp only [HS.lit, new_next]; omega)]; exact new_old _ hid
    · cases hq; simp only [HS.lit, new_next]; omega
  · rw [if_neg (by simp; omega)]
    have hid : (S.lit [row] z).2.heap id = .cells z rows true := (new_old _ h3).trans h2
    simp only [hid, show (S.lit [row] z).1.a = some (S.next, 0) from rfl]
    have hc : z = z ∧ (0 : Nat) = 0 ∧ (none : Option Nat) = none ∧ rows.length = rows.length ∧ (0 : Int) ≤ (i : Int) ∧ (i : Int) ≤ (rows.length : Int) ∧ S.next ≠ id ∧ S.next < (S.lit [row] z).2.next ∧ (S.lit [row] z).2.mrk S.next = false ∧ ((S.lit [row] z).2.heap S.next).own = true := by
      refine ⟨rfl, rfl, rfl, rfl, by omega, by omega, by omega, Nat.lt_succ_self _, ?_, ?_⟩
      · simp [HS.lit, HS.new, HS.newM]
      · show ((S.new _).heap S.next).own = true
        rw [new_here]; rfl
    rw [if_pos (by simpa using hc)]
    have hn : (S.lit [row] z).2.next = S.next + 1 := rfl
    refine ⟨_, _, rfl, .inr ⟨S.next + 2, ?_, ?_, ?_⟩, ?_, fun x hx hq => ?_, fun q hq => ?_⟩
    · simp only [hn]; simp; omega
    · simp [HS.swap, hn]
    · show S.next + 2 < (S.lit [row] z).2.next + 2; rw [hn]; omega
    · show S.next ≤ (S.lit [row] z).2.next + 2; rw [hn]; omega
    · have hxi : x ≠ id := fun e => hq _ rfl e.symm
      show (if x = (S.lit [row] z).2.next + 1 then _ else if x = (S.lit [row] z).2.next ∨ x = id then HObj.dead else (S.lit [row] z).2.heap x) = S.heap x
      rw [if_neg (by omega), if_neg (by omega)]
      exact new_old _ hx
    · cases hq; simp only [hn]; omega
theorem del_ov {S : HS} {z : Nat} {s : Sl} {rows : List (List HV)} (h : OV S z s rows) {i : Nat} (hi : i < rows.length) (hb : rows.length ≤ 2147483648) :
    ∃ s' S', S.del s (i : Int) ((i + 1 : Nat) : Int) z = some (s', S') ∧ OV S' z s' (rows.eraseIdx i) ∧ S.next ≤ S'.next ∧ (∀ id, id < S.next → (∀ q, s.a = some q → q.1 ≠ id) → S'.heap id = S.heap id) ∧ ∀ q, s'.a = some q → S.next ≤ q.1 := by
  rcases h with ⟨h1, h2, rfl⟩ | ⟨id, rfl, h2, h3⟩
  · simp at hi
  · unfold HS.del
    simp only [h2]
    rw [if_pos (by refine ⟨trivial, trivial, trivial, trivial, ?_, ?_, ?_, ?_⟩ <;> omega)]
    refine ⟨_, _, rfl, .inr ⟨S.next, ?_, ?_, Nat.lt_succ_self _⟩, Nat.le_succ _, fun x hx hq => ?_, fun q hq => by cases hq; exact Nat.le_refl _⟩
    · simp only [Int.toNat_natCast, List.length_eraseIdx, if_pos hi]
      congr 1; omega
    · show (if S.next = S.next then HObj.cells z (rows.take (i : Int).toNat ++ rows.drop ((i + 1 : Nat) : Int).toNat) true else _) = _
      rw [if_pos rfl, Int.toNat_natCast, Int.toNat_natCast, List.eraseIdx_eq_take_drop_succ]
    · show (if x = S.next then _ else if x = id then HObj.dead else S.heap x) = S.heap x
      rw [if_neg (by omega), if_neg (fun e => hq _ rfl e.symm)]


theorem rows_cut {S : HS} {s : Sl} {z : Nat} {rows : List (List HV)} (h : S.rows s z = some rows) {m : Nat} (hm : m ≤ rows.length) : ∃ sc, S.cut s (m : Int) (rows.length : Int) z = some sc ∧ S.rows sc z = some (rows.drop m) := by
  have hl := rows_len h
  obtain ⟨sa, sl, sc⟩ := s
  have hl2 : rows.length = sl := hl
  subst hl2
  cases sa with
  | none =>
    simp only [HS.rows] at h
    split at h
    · rename_i e
      cases h
      obtain rfl : m = 0 := by simpa using hm
      exact ⟨⟨none, 0, sc⟩, by simp [HS.cut], by simp [HS.rows]⟩
    · cases h
  | some p =>
    obtain ⟨id, off⟩ := p
    simp only [HS.rows] at h
    split at h
    · rename_i z' rws own hh
      split at h
      · rename_i hc
        obtain ⟨rfl, hc⟩ := hc
        simp only [Option.some.injEq] at h
        refine ⟨_, cut_len hh hm (Nat.le_refl _), ?_⟩
        rw [rows_at hh (by omega)]
        congr 1
        rw [← List.drop_drop, ← List.drop_take, h]
      · cases h
    · cases h

theorem cut_keep {S S' : HS} {s : Sl} (l h : Int) (z : Nat) (hk : ∀ q, s.a = some q → S'.heap q.1 = S.heap q.1) : S'.cut s l h z = S.cut s l h z := by
  unfold HS.cut
  cases ha : s.a with
  | none => rfl
  | some q => obtain ⟨id, off⟩ := q; simp only [hk _ ha]
theorem rows_cutT {S : HS} {s : Sl} {z : Nat} {rows : List (List HV)} (h : S.rows s z = some rows) {m : Nat} (hm : m ≤ rows.length) : ∃ sc, S.cut s 0 (m : Int) z = some sc ∧ S.rows sc z = some (rows.take m) := by
  have hl := rows_len h
  obtain ⟨sa, sl, sc⟩ := s
  have hl2 : rows.length = sl := hl
  subst hl2
  cases sa with
  | none =>
    simp only [HS.rows] at h
    split at h
    · rename_i e
      cases h
      obtain rfl : m = 0 := by simpa using hm
      exact ⟨⟨none, 0, sc⟩, by simp [HS.cut], by simp [HS.rows]⟩
    · cases h
  | some p =>
    obtain ⟨id, off⟩ := p
    simp only [HS.rows] at h
    split at h
    · rename_i z' rws own hh
      split at h
      · rename_i hc
        obtain ⟨rfl, hc⟩ := hc
        simp only [Option.some.injEq] at h
        have e := cut_len (S := S) (id := id) (off := off) (len := rows.length) (c := sc) (l := 0) (q := m) hh (Nat.zero_le _) hm
        rw [show ((0 : Nat) : Int) = 0 from rfl] at e
        refine ⟨_, e, ?_⟩
        rw [rows_at hh (by omega)]
        congr 1
        rw [Nat.sub_zero, Nat.add_zero, ← h, List.take_take, Nat.min_eq_left (by omega)]
      · cases h
    · cases h

/-! ### the middle -/
theorem mid_eq {i j : Nat} (h : i + j ≤ 1000000) : w64 (Int.fdiv (IntKind.wrap .u64 (w64 ((i : Int) + (j : Int)))) (2 ^ (min (Int.toNat 1) (IntKind.bits .u64)))) = (((i + j) / 2 : Nat) : Int) := by
  have e1 : w64 ((i : Int) + (j : Int)) = ((i + j : Nat) : Int) := by rw [w64_id (by omega) (by omega)]; omega
  have e2 : IntKind.wrap .u64 ((i + j : Nat) : Int) = ((i + j : Nat) : Int) := by
    simp only [IntKind.wrap, IntKind.signed, IntKind.bits]
    simp
    omega
  have e3 : (2 : Int) ^ (min (Int.toNat 1) (IntKind.bits .u64)) = 2 := by decide
  rw [e1, e2, e3]
  have e4 : Int.fdiv ((i + j : Nat) : Int) 2 = (((i + j) / 2 : Nat) : Int) := by
    rw [Int.fdiv_eq_ediv_of_nonneg _ (by omega)]; omega
  rw [e4, w64_id (by omega) (by omega)]


theorem OV.none {S : HS} {z : Nat} {s : Sl} {rows : List (List HV)} (h : OV S z s rows) (ha : s.a = none) : rows = [] := by
  rcases h with ⟨_, _, h⟩ | ⟨id, rfl, _, _⟩
  · exact h
  · cases ha
theorem OV.rd {S : HS} {z : Nat} {s : Sl} {rows : List (List HV)} (h : OV S z s rows) : Rd S.next S z s rows := ⟨h.rows, fun q hq => h.lt hq⟩
theorem idx_keep {S S' : HS} {s : Sl} (i : Int) (z : Nat) (hk : ∀ q, s.a = some q → S'.heap q.1 = S.heap q.1) : S'.idx s i z = S.idx s i z := by
  unfold HS.idx
  cases ha : s.a with
  | none => rfl
  | some q => obtain ⟨id, off⟩ := q; simp only [hk _ ha]
theorem get_at {S : HS} {s : Sl} {rows : List (List HV)} (h : S.rows s 1 = some rows) {i : Nat} (hi : i < rows.length) {v : HV} (hv : rows[i] = [v]) : ∃ ad, S.idx s (i : Int) 1 = some ad ∧ S.get ad = some v := by
  obtain ⟨ad, h1, h2, h3⟩ := rows_idx h (i := i) hi
  refine ⟨ad, h1, ?_⟩
  have := row_get (j := 0) (v := v) h3 h2 (by simp [hv])
  obtain ⟨a1, a2, a3⟩ := ad
  simp only at h2
  subst h2
  exact this
theorem row_ldM {S : HS} {ad : HA} {r : List HV} {m : Option Nat} {j : Nat} (h : S.row ad.id ad.i = some r) (hj : ad.j = 0) (hv : r[j]? = some (.map m)) : S.ldM (HA.fld ad j) = some m := by
  rw [HS.ldM, row_get h hj hv]; rfl
theorem dI_at (n : Int) : dI .i64 (HV.int .i64 n) = some n := by simp [dI]
theorem dS_at (s : List UInt8) : dS (HV.str s) = some s := rfl
/-! ### an object with one slice -/
def Own (p : Nat) (s : Sl) (id : Nat) : Prop := id = p ∨ ∃ q, s.a = some q ∧ q.1 = id
structure Only (q : Nat) (s s' : Sl) (S S' : HS) : Prop where
  le : S.next ≤ S'.next
  eq : ∀ id, id < S.next → ¬ Own q s id → S'.heap id = S.heap id
  own : ∀ id, Own q s' id → Own q s id ∨ S.next ≤ id
theorem Only.refl (q : Nat) (s : Sl) (S : HS) : Only q s s S S := ⟨Nat.le_refl _, fun _ _ _ => rfl, fun _ h => .inl h⟩
theorem Only.trans {q : Nat} {s s' s'' : Sl} {S S' S'' : HS} (h : Only q s s' S S') (k : Only q s' s'' S' S'') : Only q s s'' S S'' :=
  ⟨Nat.le_trans h.le k.le, fun id h1 h2 => (k.eq id (Nat.lt_of_lt_of_le h1 h.le) (fun ho => (h.own id ho).elim h2 (fun h3 => by omega))).trans (h.eq id h1 h2), fun id ho => by
    rcases k.own id ho with h1 | h1
    · exact h.own id h1
    · have := h.le; exact .inr (by omega)⟩
theorem Only.of_fr {q : Nat} {s : Sl} {S S' : HS} (h : Fr S.next S S') : Only q s s S S' := ⟨h.le, fun id h1 _ => h.eq id h1, fun _ ho => .inl ho⟩
/-! ### what is told, to one who has his own -/
/-- The handler's part: what it holds, what it does. -/
structure Tld (H : Hd) (l : Nat) (vs : List (List HV)) (I : Nat → (Nat → Prop) → HS → Prop) (Stop : (Nat → Prop) → HS → Prop) : Prop where
  keep : ∀ i O S S', I i O S → (∀ id, O id → S'.heap id = S.heap id) → S.next ≤ S'.next → I i O S'
  keepS : ∀ O S S', Stop O S → (∀ id, O id → S'.heap id = S.heap id) → S.next ≤ S'.next → Stop O S'
  lt : ∀ i O S, I i O S → ∀ id, O id → id < S.next
  ltS : ∀ O S, Stop O S → ∀ id, O id → id < S.next
  step : ∀ i (hi : i < vs.length) O S, I i O S → ∃ b S' O', Option.bind (H l) (fun r => r vs[i] S) = some (.bool b, S') ∧ S.next ≤ S'.next ∧ (∀ id, id < S.next → ¬ O id → S'.heap id = S.heap id) ∧ (∀ id, O' id → O id ∨ S.next ≤ id) ∧ (b = true → I (i + 1) O' S') ∧ (b = false → Stop O' S')
/-- A function tells a list, from a heap on; it reads what K says. -/
def Tells (D : Dp) (fv : HV) (vs : List (List HV)) (K : Nat → Prop) (B : HS) : Prop :=
  ∀ (H : Hd) (l : Nat) (I : Nat → (Nat → Prop) → HS → Prop) (Stop : (Nat → Prop) → HS → Prop), Tld H l vs I Stop → ∀ (O : Nat → Prop) (S : HS), I 0 O S → (∀ id, K id → S.heap id = B.heap id ∧ ¬ O id ∧ id < S.next) →
    ∃ S' O', D H fv [.fn (.yield l) [] []] S = some (.tup [], S') ∧ S.next ≤ S'.next ∧ (∀ id, id < S.next → ¬ O id → S'.heap id = S.heap id) ∧ (∀ id, O' id → O id ∨ S.next ≤ id) ∧ (I vs.length O' S' ∨ Stop O' S')
/-- A change: off O nothing that stood is another; what is held then was held, or is new. -/
structure Chg (O O' : Nat → Prop) (S S' : HS) : Prop where
  le : S.next ≤ S'.next
  eq : ∀ id, id < S.next → ¬ O id → S'.heap id = S.heap id
  own : ∀ id, O' id → O id ∨ S.next ≤ id
theorem Chg.refl (O : Nat → Prop) (S : HS) : Chg O O S S := ⟨Nat.le_refl _, fun _ _ _ => rfl, fun _ h => .inl h⟩
theorem Chg.trans {O O' O'' : Nat → Prop} {S S' S'' : HS} (h : Chg O O' S S') (k : Chg O' O'' S' S'') : Chg O O'' S S'' :=
  ⟨Nat.le_trans h.le k.le, fun id h1 h2 => (k.eq id (Nat.lt_of_lt_of_le h1 h.le) (fun ho => (h.own id ho).elim h2 (fun h3 => by omega))).trans (h.eq id h1 h2), fun id ho => by
    rcases k.own id ho with h1 | h1
    · exact h.own id h1
    · have := h.le; exact .inr (by omega)⟩
theorem Chg.of_fr {O : Nat → Prop} {S S' : HS} (h : Fr S.next S S') : Chg O O S S' := ⟨h.le, fun id h1 _ => h.eq id h1, fun _ ho => .inl ho⟩
theorem Only.chg {p : Nat} {s s' : Sl} {S S' : HS} (h : Only p s s' S S') : Chg (Own p s) (Own p s') S S' := ⟨h.le, h.eq, h.own⟩
theorem range_tells {D : Dp} {H : Hd} {fv : HV} {vs : List (List HV)} {K : Nat → Prop} {S : HS} {hd : List HV → HS → Option (HV × HS)} {bd : Nat → HS → Option (HV × HS)}
    (hT : Tells D fv vs K S) (hK : ∀ id, K id → id < S.next) (I : Nat → (Nat → Prop) → HS → Prop) (Q : Code → (Nat → Prop) → HS → Prop)
    (keepI : ∀ i O T T', I i O T → (∀ id, O id → T'.heap id = T.heap id) → T.next ≤ T'.next → I i O T')
    (keepQ : ∀ c O T T', Q c O T → (∀ id, O id → T'.heap id = T.heap id) → T.next ≤ T'.next → Q c O T')
    (O : Nat → Prop) (hO : ∀ id, O id → id < S.next) (hI : I 0 O S) (hOK : ∀ id, O id → ¬ K id)
    (hdef : ∀ i (hi : i < vs.length) T, T.heap (S.next + 1) = .loop .ready none → hd vs[i] T = bd i (T.put (S.next + 1) (.loop .busy none)))
    (step : ∀ i (hi : i < vs.length) O1 U, I i O1 U → S.next + 2 ≤ U.next → U.heap (S.next + 1) = .loop .busy none → ¬ O1 (S.next + 1) → (∀ id, O1 id → id < U.next) →
      ∃ U' O2 j, bd i U = U'.endr (S.next + 1) j ∧ Chg O1 O2 U U' ∧ (∀ id, O2 id → id < U'.next) ∧ (j = none → I (i + 1) O2 U') ∧ ∀ c, j = some c → Q c O2 U') :
    ∃ T st S' O', D (Hd.set H (S.next + 1) hd) fv [.fn (.yield (S.next + 1)) [] []] ((S.new .defer).new (.loop .ready none)) = some (.tup [], T) ∧ T.finish (S.next + 1) = some (st, S') ∧ S'.heap S.next = .defer ∧ S.next + 2 ≤ S'.next ∧
      Chg O O' S S' ∧ (∀ id, O' id → id ≠ S.next ∧ id ≠ S.next + 1 ∧ id < S'.next) ∧ (st = none → I vs.length O' S') ∧ (∀ c, st = some c → Q c O' S') := by
  have f2 : Fr S.next S ((S.new .defer).new (.loop .ready none)) := (Fr.new (Nat.le_refl _) _).trans (Fr.new (by rw [new_next]; omega) _)
  have n2 : ((S.new .defer).new (.loop .ready none)).next = S.next + 2 := rfl
  have d2 : ((S.new .defer).new (.loop .ready none)).heap S.next = .defer := by rw [new_old _ (by rw [new_next]; omega)]; exact new_here _ _
  have l2 : ((S.new .defer).new (.loop .ready none)).heap (S.next + 1) = .loop .ready none := new_here (S.new .defer) _
  generalize (S.new .defer).new (.loop .ready none) = S0 at f2 n2 d2 l2 ⊢
  let J : Nat → (Nat → Prop) → HS → Prop := fun i OO T => ∃ O1, (∀ id, OO id ↔ (O1 id ∨ id = S.next ∨ id = S.next + 1)) ∧ (∀ id, O1 id → id ≠ S.next ∧ id ≠ S.next + 1 ∧ id < T.next ∧ (O id ∨ S.next + 2 ≤ id)) ∧ I i O1 T ∧ T.heap S.next = .defer ∧ T.heap (S.next + 1) = .loop .ready none ∧ S.next + 2 ≤ T.next
  let St : (Nat → Prop) → HS → Prop := fun OO T => ∃ O1 c, (∀ id, OO id ↔ (O1 id ∨ id = S.next ∨ id = S.next + 1)) ∧ (∀ id, O1 id → id ≠ S.next ∧ id ≠ S.next + 1 ∧ id < T.next ∧ (O id ∨ S.next + 2 ≤ id)) ∧ Q c O1 T ∧ T.heap S.next = .defer ∧ T.heap (S.next + 1) = .loop .done (some c) ∧ S.next + 2 ≤ T.next
  have hO' : ∀ id, O id → id ≠ S.next ∧ id ≠ S.next + 1 ∧ id < S0.next := fun id h => by have := hO id h; omega
  obtain ⟨T, O', e, t1, t2, t3, t4⟩ := hT (Hd.set H (S.next + 1) hd) (S.next + 1) J St (by
      refine ⟨fun i OO T T' h hk hn => ?_, fun OO T T' h hk hn => ?_, fun i OO T h id ho => ?_, fun OO T h id ho => ?_, fun i hi OO T h => ?_⟩
      · obtain ⟨O1, a1, a2, a3, a4, a5, a6⟩ := h
        exact ⟨O1, a1, fun id ho => ⟨(a2 id ho).1, (a2 id ho).2.1, by have := (a2 id ho).2.2.1; omega, (a2 id ho).2.2.2⟩, keepI _ _ _ _ a3 (fun id ho => hk id ((a1 id).2 (.inl ho))) hn, (hk _ ((a1 _).2 (.inr (.inl rfl)))).trans a4, (hk _ ((a1 _).2 (.inr (.inr rfl)))).trans a5, by omega⟩
      · obtain ⟨O1, c, a1, a2, a3, a4, a5, a6⟩ := h
        exact ⟨O1, c, a1, fun id ho => ⟨(a2 id ho).1, (a2 id ho).2.1, by have := (a2 id ho).2.2.1; omega, (a2 id ho).2.2.2⟩, keepQ _ _ _ _ a3 (fun id ho => hk id ((a1 id).2 (.inl ho))) hn, (hk _ ((a1 _).2 (.inr (.inl rfl)))).trans a4, (hk _ ((a1 _).2 (.inr (.inr rfl)))).trans a5, by omega⟩
      · obtain ⟨O1, a1, a2, a3, a4, a5, a6⟩ := h
        rcases (a1 id).1 ho with g | g | g
        · exact (a2 id g).2.2.1
        · omega
        · omega
      · obtain ⟨O1, c, a1, a2, a3, a4, a5, a6⟩ := h
        rcases (a1 id).1 ho with g | g | g
        · exact (a2 id g).2.2.1
        · omega
        · omega
      · obtain ⟨O1, a1, a2, a3, a4, a5, a6⟩ := h
        simp only [Hd.set, if_true, Option.bind_some]
        rw [hdef i hi T a5]
        have bk : ∀ id, id ≠ S.next + 1 → (T.put (S.next + 1) (.loop .busy none)).heap id = T.heap id := fun id h => put_other _ h
        have bn : (T.put (S.next + 1) (.loop .busy none)).next = T.next := rfl
        have bl : (T.put (S.next + 1) (.loop .busy none)).heap (S.next + 1) = .loop .busy none := put_here _ _ _
        generalize T.put (S.next + 1) (.loop .busy none) = U at bk bn bl ⊢
        obtain ⟨U', O2, j, e1, c1, l1, p1, p2⟩ := step i hi O1 U (keepI _ _ _ _ a3 (fun id ho => bk id (a2 id ho).2.1) (by omega)) (by omega) bl (fun h => (a2 _ h).2.1 rfl) (fun id h => by have := (a2 id h).2.2.1; omega)
        have ul : U'.heap (S.next + 1) = .loop .busy none := (c1.eq _ (by omega) (fun h => (a2 _ h).2.1 rfl)).trans bl
        have ud : U'.heap S.next = .defer := (c1.eq _ (by omega) (fun h => (a2 _ h).1 rfl)).trans ((bk _ (by omega)).trans a4)
        have hle := c1.le
        have h2 : ∀ id, O2 id → id ≠ S.next ∧ id ≠ S.next + 1 ∧ id < U'.next ∧ (O id ∨ S.next + 2 ≤ id) := fun id h => by
          rcases c1.own id h with g | g
          · exact ⟨(a2 id g).1, (a2 id g).2.1, l1 id h, (a2 id g).2.2.2⟩
          · exact ⟨by omega, by omega, l1 id h, .inr (by omega)⟩
        rw [e1, endr_at j ul]
        refine ⟨j.isNone, _, fun id => O2 id ∨ id = S.next ∨ id = S.next + 1, rfl, by rw [put_next]; omega, fun id g1 g2 => ?_, fun id h => ?_, fun hj => ?_, fun hj => ?_⟩
        · have g3 : ¬ O1 id := fun h => g2 ((a1 id).2 (.inl h))
          have g4 : id ≠ S.next + 1 := fun h => g2 ((a1 id).2 (.inr (.inr h)))
          rw [put_other _ g4, c1.eq id (by omega) g3, bk id g4]
        · rcases h with h | h
          · rcases c1.own id h with g | g
            · exact .inl ((a1 id).2 (.inl g))
            · exact .inr (by omega)
          · exact .inl ((a1 id).2 (.inr h))
        · have hj' : j = none := by simpa using hj
          subst hj'
          exact ⟨O2, fun _ => Iff.rfl, h2, keepI _ _ _ _ (p1 rfl) (fun id h => put_other _ (h2 id h).2.1) (Nat.le_refl _), by rw [put_other _ (by omega)]; exact ud, put_here _ _ _, by rw [put_next]; omega⟩
        · cases j with
          | none => cases hj
          | some c => exact ⟨O2, c, fun _ => Iff.rfl, h2, keepQ _ _ _ _ (p2 c rfl) (fun id h => put_other _ (h2 id h).2.1) (Nat.le_refl _), by rw [put_other _ (by omega)]; exact ud, put_here _ _ _, by rw [put_next]; omega⟩)
    (fun id => O id ∨ id = S.next ∨ id = S.next + 1) S0 ⟨O, fun _ => Iff.rfl, fun id h => ⟨(hO' id h).1, (hO' id h).2.1, (hO' id h).2.2, .inl h⟩, keepI _ _ _ _ hI (fun id h => f2.eq id (hO id h)) f2.le, d2, l2, by omega⟩ (fun id hid => ⟨f2.eq id (hK id hid), fun ho => by
      have := hK id hid
      rcases ho with g | g | g
      · exact hOK id g hid
      · omega
      · omega, by have := hK id hid; omega⟩)
  have hfr : ∀ id, id < S.next → ¬ O id → T.heap id = S.heap id := fun id h1 h2 => (t2 id (by omega) (fun ho => by
    rcases ho with g | g | g
    · exact h2 g
    · omega
    · omega)).trans (f2.eq id h1)
  rcases t4 with h | h
  · obtain ⟨O1, a1, a2, a3, a4, a5, a6⟩ := h
    refine ⟨T, none, T.put (S.next + 1) (.loop .exhausted none), O1, e, by simp [HS.finish, a5], by rw [put_other _ (by omega)]; exact a4, a6, ⟨by rw [put_next]; omega, fun id h1 h2 => by rw [put_other _ (by omega)]; exact hfr id h1 h2, fun id h => (a2 id h).2.2.2.elim .inl (fun g => .inr (by omega))⟩, fun id h => ⟨(a2 id h).1, (a2 id h).2.1, (a2 id h).2.2.1⟩, fun _ => keepI _ _ _ _ a3 (fun id h => put_other _ (a2 id h).2.1) (Nat.le_refl _), fun c hc => by cases hc⟩
  · obtain ⟨O1, c, a1, a2, a3, a4, a5, a6⟩ := h
    refine ⟨T, some c, T.put (S.next + 1) (.loop .exhausted (some c)), O1, e, by simp [HS.finish, a5], by rw [put_other _ (by omega)]; exact a4, a6, ⟨by rw [put_next]; omega, fun id h1 h2 => by rw [put_other _ (by omega)]; exact hfr id h1 h2, fun id h => (a2 id h).2.2.2.elim .inl (fun g => .inr (by omega))⟩, fun id h => ⟨(a2 id h).1, (a2 id h).2.1, (a2 id h).2.2.1⟩, fun hc => (by cases hc), fun c' hc => ?_⟩
    cases hc
    exact keepQ _ _ _ _ a3 (fun id h => put_other _ (a2 id h).2.1) (Nat.le_refl _)
end Go.Proofs.Ytdgmehfhgppheaa.X
