/- The layer timer: the table, plain. -/
import Derived.Test.YtlfdfkldolgkoaaTmPlay3
import Derived.Test.YtlfdfkldolgkoaaHLs
import Derived.Test.YtlfdfkldolgkoaaHLx
namespace Go.Proofs.Ytlfdfkldolgkoaa.X
open Go.Proofs.Ytlfdfkldolgkoaa.HL
set_option linter.unusedVariables false
theorem vec_keep {n z : Nat} {T T' : HS} {s : Sl} {rows : List (List HV)} (h : Vec n T z s rows) (he : ∀ q, s.a = some q → T'.heap q.1 = T.heap q.1) (hn : T.next ≤ T'.next) : Vec n T' z s rows := by
  cases h with
  | nil => exact .nil
  | open_ g1 g2 g3 => exact .open_ ((he _ rfl).trans g1) g2 (Nat.lt_of_lt_of_le g3 hn)
  | capped g1 g2 g3 g4 g5 g6 => exact .capped ((he _ rfl).trans g1) g2 (Nat.lt_of_lt_of_le g3 hn) g4 g5 g6
def OV (S : HS) (z : Nat) (s : Sl) (rows : List (List HV)) : Prop := (s.a = none ∧ s.len = 0 ∧ rows = []) ∨ ∃ id, s = ⟨some (id, 0), rows.length, none⟩ ∧ S.heap id = .cells z rows true ∧ id < S.next
theorem OV.keep {S S' : HS} {z : Nat} {s : Sl} {rows : List (List HV)} (h : OV S z s rows) (he : ∀ q, s.a = some q → S'.heap q.1 = S.heap q.1) (hn : S.next ≤ S'.next) : OV S' z s rows := by
  rcases h with h | ⟨id, rfl, h2, h3⟩
  · exact .inl h
  · exact .inr ⟨id, rfl, (he _ rfl).trans h2, Nat.lt_of_lt_of_le h3 hn⟩
theorem OV.rows {S : HS} {z : Nat} {s : Sl} {rows : List (List HV)} (h : OV S z s rows) : S.rows s z = some rows := by
  rcases h with ⟨h1, h2, rfl⟩ | ⟨id, rfl, h2, h3⟩
  · unfold HS.rows; rw [h1]; simp [h2]
  · simp [HS.rows, h2]
theorem OV.len {S : HS} {z : Nat} {s : Sl} {rows : List (List HV)} (h : OV S z s rows) : s.len = rows.length := (rows_len h.rows).symm
theorem OV.lt {S : HS} {z : Nat} {s : Sl} {rows : List (List HV)} (h : OV S z s rows) {q : Nat × Nat} (hq : s.a = some q) : q.1 < S.next := by
  rcases h with ⟨h1, _, _⟩ | ⟨id, rfl, h2, h3⟩
  · rw [h1] at hq; cases hq
  · cases hq; exact h3
theorem ins_ov {S : HS} {z : Nat} {s : Sl} {rows : List (List HV)} {row : List HV} (h : OV S z s rows) {i : Nat} (hi : i ≤ rows.length) (hb : rows.length + 1 ≤ 2147483648) :
    ∃ s' S', (S.lit [row] z).2.ins s (i : Int) (S.lit [row] z).1 z = some (s', S') ∧ OV S' z s' (rows.take i ++ [row] ++ rows.drop i) ∧ S.next ≤ S'.next ∧ (∀ id, id < S.next → (∀ q, s.a = some q → q.1 ≠ id) → S'.heap id = S.heap id) ∧ ∀ q, s'.a = some q → S.next ≤ q.1 := by
  have hr : (S.lit [row] z).2.rows (S.lit [row] z).1 z = some [row] := by simp [HS.lit, HS.rows, new_here]
  unfold HS.ins
  rw [hr, Option.bind_some]
  rcases h with ⟨h1, h2, rfl⟩ | ⟨id, rfl, h2, h3⟩
  · obtain rfl : i = 0 := by simpa using hi
    rw [if_neg (by rw [h2]; simp), h1]
    simp only
    rw [if_pos ⟨h2, rfl⟩]
    refine ⟨_, _, rfl, .inr ⟨_, rfl, new_here _ _, Nat.lt_succ_self _⟩, ?_, fun id hid _ => ?_, fun q hq => ?_⟩
    · simp only [HS.lit, new_next]; omega
    · rw [new_old _ (by simp only [HS.lit, new_next]; omega)]; exact new_old _ hid
    · cases hq; simp only [HS.lit, new_next]; omega
  · rw [if_neg (by simp; omega)]
    have hid : (S.lit [row] z).2.heap id = .cells z rows true := (new_old _ h3).trans h2
    simp only [hid, show (S.lit [row] z).1.a = some (S.next, 0) from rfl]
    have hc : z = z ∧ (0 : Nat) = 0 ∧ (none : Option Nat) = none ∧ rows.length = rows.length ∧ (0 : Int) ≤ (i : Int) ∧ (i : Int) ≤ (rows.length : Int) ∧ S.next ≠ id ∧ S.next < (S.lit [row] z).2.next ∧ (S.lit [row] z).2.mrk S.next = false ∧ ((S.lit [row] z).2.heap S.next).own = true := by
      refine ⟨rfl, rfl, rfl, rfl, by omega, by omega, by omega, Nat.lt_succ_self _, ?_, ?_⟩
      · simp [HS.lit, HS.new, HS.newM]
      · show ((S.new _).heap S.next).own = true
        rw [new_here]; rfl
    rw [if_pos (by simpa using hc)]
    have hn : (S.lit [row] z).2.next = S.next + 1 := rfl
    refine ⟨_, _, rfl, .inr ⟨S.next + 2, ?_, ?_, ?_⟩, ?_, fun x hx hq => ?_, fun q hq => ?_⟩
    · simp only [hn]; simp; omega
    · simp [HS.swap, hn]
    · show S.next + 2 < (S.lit [row] z).2.next + 2; rw [hn]; omega
    · show S.next ≤ (S.lit [row] z).2.next + 2; rw [hn]; omega
    · have hxi : x ≠ id := fun e => hq _ rfl e.symm
      show (if x = (S.lit [row] z).2.next + 1 then _ else if x = (S.lit [row] z).2.next ∨ x = id then HObj.dead else (S.lit [row] z).2.heap x) = S.heap x
      rw [if_neg (by omega), if_neg (by omega)]
      exact new_old _ hx
    · cases hq; simp only [hn]; omega
theorem del_ov {S : HS} {z : Nat} {s : Sl} {rows : List (List HV)} (h : OV S z s rows) {i : Nat} (hi : i < rows.length) (hb : rows.length ≤ 2147483648) :
    ∃ s' S', S.del s (i : Int) ((i + 1 : Nat) : Int) z = some (s', S') ∧ OV S' z s' (rows.eraseIdx i) ∧ S.next ≤ S'.next ∧ (∀ id, id < S.next → (∀ q, s.a = some q → q.1 ≠ id) → S'.heap id = S.heap id) ∧ ∀ q, s'.a = some q → S.next ≤ q.1 := by
  rcases h with ⟨h1, h2, rfl⟩ | ⟨id, rfl, h2, h3⟩
  · simp at hi
  · unfold HS.del
    simp only [h2]
    rw [if_pos (by refine ⟨trivial, trivial, trivial, trivial, ?_, ?_, ?_, ?_⟩ <;> omega)]
    refine ⟨_, _, rfl, .inr ⟨S.next, ?_, ?_, Nat.lt_succ_self _⟩, Nat.le_succ _, fun x hx hq => ?_, fun q hq => by cases hq; exact Nat.le_refl _⟩
    · simp only [Int.toNat_natCast, List.length_eraseIdx, if_pos hi]
      congr 1; omega
    · show (if S.next = S.next then HObj.cells z (rows.take (i : Int).toNat ++ rows.drop ((i + 1 : Nat) : Int).toNat) true else _) = _
      rw [if_pos rfl, Int.toNat_natCast, Int.toNat_natCast, List.eraseIdx_eq_take_drop_succ]
    · show (if x = S.next then _ else if x = id then HObj.dead else S.heap x) = S.heap x
      rw [if_neg (by omega), if_neg (fun e => hq _ rfl e.symm)]


theorem rows_cut {S : HS} {s : Sl} {z : Nat} {rows : List (List HV)} (h : S.rows s z = some rows) {m : Nat} (hm : m ≤ rows.length) : ∃ sc, S.cut s (m : Int) (rows.length : Int) z = some sc ∧ S.rows sc z = some (rows.drop m) := by
  have hl := rows_len h
  obtain ⟨sa, sl, sc⟩ := s
  have hl2 : rows.length = sl := hl
  subst hl2
  cases sa with
  | none =>
    simp only [HS.rows] at h
    split at h
    · rename_i e
      cases h
      obtain rfl : m = 0 := by simpa using hm
      exact ⟨⟨none, 0, sc⟩, by simp [HS.cut], by simp [HS.rows]⟩
    · cases h
  | some p =>
    obtain ⟨id, off⟩ := p
    simp only [HS.rows] at h
    split at h
    · rename_i z' rws own hh
      split at h
      · rename_i hc
        obtain ⟨rfl, hc⟩ := hc
        simp only [Option.some.injEq] at h
        refine ⟨_, cut_len hh hm (Nat.le_refl _), ?_⟩
        rw [rows_at hh (by omega)]
        congr 1
        rw [← List.drop_drop, ← List.drop_take, h]
      · cases h
    · cases h

theorem cut_keep {S S' : HS} {s : Sl} (l h : Int) (z : Nat) (hk : ∀ q, s.a = some q → S'.heap q.1 = S.heap q.1) : S'.cut s l h z = S.cut s l h z := by
  unfold HS.cut
  cases ha : s.a with
  | none => rfl
  | some q => obtain ⟨id, off⟩ := q; simp only [hk _ ha]
theorem rows_cutT {S : HS} {s : Sl} {z : Nat} {rows : List (List HV)} (h : S.rows s z = some rows) {m : Nat} (hm : m ≤ rows.length) : ∃ sc, S.cut s 0 (m : Int) z = some sc ∧ S.rows sc z = some (rows.take m) := by
  have hl := rows_len h
  obtain ⟨sa, sl, sc⟩ := s
  have hl2 : rows.length = sl := hl
  subst hl2
  cases sa with
  | none =>
    simp only [HS.rows] at h
    split at h
    · rename_i e
      cases h
      obtain rfl : m = 0 := by simpa using hm
      exact ⟨⟨none, 0, sc⟩, by simp [HS.cut], by simp [HS.rows]⟩
    · cases h
  | some p =>
    obtain ⟨id, off⟩ := p
    simp only [HS.rows] at h
    split at h
    · rename_i z' rws own hh
      split at h
      · rename_i hc
        obtain ⟨rfl, hc⟩ := hc
        simp only [Option.some.injEq] at h
        have e := cut_len (S := S) (id := id) (off := off) (len := rows.length) (c := sc) (l := 0) (q := m) hh (Nat.zero_le _) hm
        rw [show ((0 : Nat) : Int) = 0 from rfl] at e
        refine ⟨_, e, ?_⟩
        rw [rows_at hh (by omega)]
        congr 1
        rw [Nat.sub_zero, Nat.add_zero, ← h, List.take_take, Nat.min_eq_left (by omega)]
      · cases h
    · cases h

/-! ### the middle -/
theorem mid_eq {i j : Nat} (h : i + j ≤ 1000000) : w64 (Int.fdiv (IntKind.wrap .u64 (w64 ((i : Int) + (j : Int)))) (2 ^ (min (Int.toNat 1) (IntKind.bits .u64)))) = (((i + j) / 2 : Nat) : Int) := by
  have e1 : w64 ((i : Int) + (j : Int)) = ((i + j : Nat) : Int) := by rw [w64_id (by omega) (by omega)]; omega
  have e2 : IntKind.wrap .u64 ((i + j : Nat) : Int) = ((i + j : Nat) : Int) := by
    simp only [IntKind.wrap, IntKind.signed, IntKind.bits]
    simp
    omega
  have e3 : (2 : Int) ^ (min (Int.toNat 1) (IntKind.bits .u64)) = 2 := by decide
  rw [e1, e2, e3]
  have e4 : Int.fdiv ((i + j : Nat) : Int) 2 = (((i + j) / 2 : Nat) : Int) := by
    rw [Int.fdiv_eq_ediv_of_nonneg _ (by omega)]; omega
  rw [e4, w64_id (by omega) (by omega)]


/-! ### keys -/
abbrev Ky := List UInt8
def kv (k : Ky) : HV := .str k
theorem row_ldK {S : HS} {ad : HA} {r : List HV} {n : Ky} {j : Nat} (h : S.row ad.id ad.i = some r) (hj : ad.j = 0) (hv : r[j]? = some (kv n)) : S.ldS (HA.fld ad j) = some n := row_ldS h hj hv
def klt (a b : Ky) : Bool := slt a b
theorem klt_irrefl : ∀ (x : Ky), klt x x = false := by
  intro x
  unfold klt
  induction x with
  | nil => rfl
  | cons a x ih => simp [slt, ih]
theorem klt_trans : ∀ {a b c : Ky}, klt a b = true → klt b c = true → klt a c = true := by
  unfold klt
  intro a
  induction a with
  | nil => intro b c h1 h2; cases c with
    | nil => cases b <;> simp [slt] at h2
    | cons z c => rfl
  | cons x a ih =>
    intro b c h1 h2
    cases b with
    | nil => simp [slt] at h1
    | cons y b =>
      cases c with
      | nil => simp [slt] at h2
      | cons z c =>
        simp only [slt, Bool.or_eq_true, decide_eq_true_eq, Bool.and_eq_true, beq_iff_eq] at *
        rcases h1 with h1 | ⟨h1, h1'⟩
        · rcases h2 with h2 | ⟨h2, _⟩
          · exact .inl (UInt8.lt_trans h1 h2)
          · exact .inl (h2 ▸ h1)
        · rcases h2 with h2 | ⟨h2, h2'⟩
          · exact .inl (h1 ▸ h2)
          · exact .inr ⟨h1.trans h2, ih h1' h2'⟩
theorem klt_tri : ∀ (a b : Ky), klt a b = true ∨ a = b ∨ klt b a = true := by
  unfold klt
  intro a
  induction a with
  | nil => intro b; cases b with
    | nil => exact .inr (.inl rfl)
    | cons y b => exact .inl rfl
  | cons x a ih =>
    intro b
    cases b with
    | nil => exact .inr (.inr rfl)
    | cons y b =>
      simp only [slt, Bool.or_eq_true, decide_eq_true_eq, Bool.and_eq_true, beq_iff_eq, List.cons.injEq]
      rcases Nat.lt_trichotomy x.toNat y.toNat with h | h | h
      · exact .inl (.inl (UInt8.lt_iff_toNat_lt.2 h))
      · have hxy := UInt8.toNat_inj.1 h
        rcases ih b with g | g | g
        · exact .inl (.inr ⟨hxy, g⟩)
        · exact .inr (.inl ⟨hxy, g⟩)
        · exact .inr (.inr (.inr ⟨hxy.symm, g⟩))
      · exact .inr (.inr (.inl (UInt8.lt_iff_toNat_lt.2 h)))
theorem kSame_kv (a b : Ky) : kSame (kv a) (kv b) = some (a == b) := rfl

def kcmp (a b : Ky) : Int := if klt a b = true then -1 else if a = b then 0 else 1
theorem kcmp_lt {a b : Ky} : kcmp a b < 0 ↔ klt a b = true := by
  unfold kcmp
  split
  · rename_i h; simp [h]
  · rename_i h; split <;> simp [h]
theorem kcmp_zero {a b : Ky} : kcmp a b = 0 ↔ a = b := by
  unfold kcmp
  split
  · rename_i h
    constructor
    · intro h2; omega
    · intro h2; subst h2; rw [klt_irrefl] at h; cases h
  · split
    · rename_i h; simp [h]
    · rename_i h; simp [h]
theorem kcmp_anti (a b : Ky) : kcmp b a = - kcmp a b := by
  unfold kcmp
  rcases klt_tri a b with h | h | h
  · have h2 : klt b a = false := by
      cases h3 : klt b a with
      | false => rfl
      | true => have := klt_trans h h3; rw [klt_irrefl] at this; cases this
    have h4 : a ≠ b := by intro e; subst e; rw [klt_irrefl] at h; cases h
    simp [h, h2, Ne.symm h4]
  · subst h; simp [klt_irrefl]
  · have h2 : klt a b = false := by
      cases h3 : klt a b with
      | false => rfl
      | true => have := klt_trans h h3; rw [klt_irrefl] at this; cases this
    have h4 : a ≠ b := by intro e; subst e; rw [klt_irrefl] at h; cases h
    simp [h, h2, h4]
abbrev It := Ky × Int
def itRow (e : It) : List HV := [kv e.1, .int .i64 e.2]
def itc (a b : It) : Int := if a.2 < b.2 then -1 else if b.2 < a.2 then 1 else kcmp a.1 b.1
theorem itc_anti (a b : It) : itc b a = - itc a b := by
  unfold itc
  by_cases h1 : a.2 < b.2
  · rw [if_neg (by omega), if_pos h1, if_pos h1]; rfl
  · by_cases h2 : b.2 < a.2
    · rw [if_pos h2, if_neg h1, if_pos h2]
    · rw [if_neg h2, if_neg h1, if_neg h1, if_neg h2]; exact kcmp_anti _ _
theorem itc_zero {a b : It} : itc a b = 0 ↔ a = b := by
  unfold itc
  constructor
  · intro h
    by_cases h1 : a.2 < b.2
    · rw [if_pos h1] at h; omega
    · by_cases h2 : b.2 < a.2
      · rw [if_neg h1, if_pos h2] at h; omega
      · rw [if_neg h1, if_neg h2] at h
        exact Prod.ext (kcmp_zero.1 h) (by omega)
  · rintro rfl
    rw [if_neg (by omega), if_neg (by omega)]
    exact kcmp_zero.2 rfl
theorem itc_lt {a b : It} : itc a b < 0 ↔ a.2 < b.2 ∨ (a.2 = b.2 ∧ klt a.1 b.1 = true) := by
  unfold itc
  by_cases h1 : a.2 < b.2
  · rw [if_pos h1]; simp [h1]
  · by_cases h2 : b.2 < a.2
    · rw [if_neg h1, if_pos h2]
      constructor
      · intro h; omega
      · intro h; omega
    · rw [if_neg h1, if_neg h2, kcmp_lt]
      constructor
      · intro h; exact .inr ⟨by omega, h⟩
      · rintro (h | h)
        · omega
        · exact h.2
theorem itc_trans {a b c : It} (h1 : itc a b < 0) (h2 : itc b c < 0) : itc a c < 0 := by
  rw [itc_lt] at h1 h2 ⊢
  rcases h1 with h1 | ⟨h1, h1'⟩
  · rcases h2 with h2 | ⟨h2, _⟩
    · exact .inl (by omega)
    · exact .inl (by omega)
  · rcases h2 with h2 | ⟨h2, h2'⟩
    · exact .inl (by omega)
    · exact .inr ⟨by omega, klt_trans h1' h2'⟩
/-! ### order -/
def Srt (es : List It) : Prop := es.Pairwise fun a b => itc a b < 0
theorem Srt.lt {es : List It} (h : Srt es) {i j : Nat} (hi : i < es.length) (hj : j < es.length) (hij : i < j) : itc es[i] es[j] < 0 := List.pairwise_iff_getElem.1 h i j hi hj hij
structure PosOf (es : List It) (t : It) (p : Nat) : Prop where
  le : p ≤ es.length
  lo : ∀ q (hq : q < es.length), q < p → itc es[q] t < 0
  hi : ∀ q (hq : q < es.length), p ≤ q → ¬ itc es[q] t < 0
def foundAt (es : List It) (t : It) (p : Nat) : Bool := match es[p]? with | some e => decide (itc e t = 0) | none => false
theorem found_lt {es : List It} {t : It} {i : Nat} (h : foundAt es t i = true) : ∃ hi : i < es.length, es[i] = t := by
  unfold foundAt at h
  cases he : es[i]? with
  | none => rw [he] at h; cases h
  | some e =>
    obtain ⟨h1, h2⟩ := List.getElem?_eq_some_iff.1 he
    rw [he] at h
    simp only [decide_eq_true_eq] at h
    exact ⟨h1, h2.trans (itc_zero.1 h)⟩
theorem PosOf.gt {es : List It} {t : It} {p : Nat} (h : PosOf es t p) (hs : Srt es) (hf : foundAt es t p = false) {q : Nat} (hq : q < es.length) (hpq : p ≤ q) : itc t es[q] < 0 := by
  have hp : p < es.length := by omega
  have h1 := h.hi p hp (Nat.le_refl _)
  have h2 : itc es[p] t ≠ 0 := by
    simp only [foundAt, List.getElem?_eq_getElem hp, decide_eq_false_iff_not] at hf
    exact hf
  have h3 : itc t es[p] < 0 := by rw [itc_anti]; omega
  rcases Nat.eq_or_lt_of_le hpq with e | e
  · subst e; exact h3
  · exact itc_trans h3 (hs.lt hp hq e)
theorem ins_srt {es : List It} {t : It} {p : Nat} (h : PosOf es t p) (hs : Srt es) (hf : foundAt es t p = false) : Srt (es.take p ++ [t] ++ es.drop p) := by
  unfold Srt
  rw [List.append_assoc, List.pairwise_append]
  refine ⟨List.Pairwise.sublist (List.take_sublist _ _) hs, ?_, fun a ha b hb => ?_⟩
  · rw [List.singleton_append, List.pairwise_cons]
    refine ⟨fun b hb => ?_, List.Pairwise.sublist (List.drop_sublist _ _) hs⟩
    obtain ⟨q, hq, rfl⟩ := List.getElem_of_mem hb
    rw [List.getElem_drop]
    exact h.gt hs hf _ (by omega)
  · obtain ⟨q, hq, rfl⟩ := List.getElem_of_mem ha
    rw [List.length_take] at hq
    rw [List.getElem_take]
    have h1 := h.lo q (by omega) (by omega)
    rcases List.mem_append.1 hb with hb | hb
    · simp only [List.mem_singleton] at hb
      subst hb; exact h1
    · obtain ⟨q2, hq2, rfl⟩ := List.getElem_of_mem hb
      rw [List.getElem_drop]
      rw [List.length_drop] at hq2
      exact hs.lt (by omega) (by omega) (by omega)
theorem erase_srt {es : List It} (hs : Srt es) (p : Nat) : Srt (es.eraseIdx p) := List.Pairwise.sublist (List.eraseIdx_sublist _ _) hs
theorem pos_mem {es : List It} {t : It} {p : Nat} (h : PosOf es t p) (hs : Srt es) (hm : t ∈ es) : foundAt es t p = true := by
  cases hf : foundAt es t p with
  | true => rfl
  | false =>
    exfalso
    obtain ⟨q, hq, he⟩ := List.getElem_of_mem hm
    have h0 : itc es[q] t = 0 := itc_zero.2 he
    rcases Nat.lt_or_ge q p with h1 | h1
    · have := h.lo q hq h1; omega
    · have := h.gt hs hf hq h1
      rw [itc_anti] at this; omega
theorem erase_perm {es : List It} {i : Nat} (hi : i < es.length) : (es[i] :: es.eraseIdx i).Perm es := by
  rw [List.eraseIdx_eq_take_drop_succ]
  have h : es.take i ++ es[i] :: es.drop (i + 1) = es := by rw [← List.drop_eq_getElem_cons hi, List.take_append_drop]
  exact List.perm_middle.symm.trans (by rw [h])
theorem perm_erase {es xs : List It} {i j : Nat} (hq : es.Perm xs) (hi : i < es.length) (hj : j < xs.length) (h : es[i] = xs[j]) : (es.eraseIdx i).Perm (xs.eraseIdx j) := by
  have h1 := erase_perm hi
  have h2 := erase_perm hj
  have h3 := (h1.trans hq).trans h2.symm
  rw [h] at h3
  exact h3.cons_inv
/-! ### the map -/
def menc (ml : List It) : List (HV × HV) := ml.map fun e => (kv e.1, .int .i64 e.2)
def Dst (ml : List It) : Prop := ml.Pairwise fun a b => a.1 ≠ b.1
def stopL (ml : List It) (k : Ky) : List It := ml.filter fun e => decide (e.1 ≠ k)
theorem mfind_spec (k : Ky) : ∀ (ml : List It) (i : Nat), (mfind (kv k) (menc ml) i = some none ∧ ∀ e ∈ ml, e.1 ≠ k) ∨ ∃ j, ∃ h : j < ml.length, ml[j].1 = k ∧ mfind (kv k) (menc ml) i = some (some (i + j, .int .i64 ml[j].2)) := by
  intro ml
  induction ml with
  | nil => intro i; exact .inl ⟨rfl, fun e he => by cases he⟩
  | cons e ml ih =>
    intro i
    have hm : mfind (kv k) (menc (e :: ml)) i = match kSame (kv k) (kv e.1) with | some true => some (some (i, .int .i64 e.2)) | some false => mfind (kv k) (menc ml) (i + 1) | none => none := rfl
    rw [kSame_kv] at hm
    by_cases h : k = e.1
    · refine .inr ⟨0, by simp, h.symm, ?_⟩
      rw [hm, show (k == e.1) = true by simpa using h]
      rfl
    · rw [show (k == e.1) = false by simpa using h] at hm
      rcases ih (i + 1) with ⟨h1, h2⟩ | ⟨j, hj, h1, h2⟩
      · refine .inl ⟨hm.trans h1, fun x hx => ?_⟩
        rcases List.mem_cons.1 hx with rfl | g
        · exact Ne.symm h
        · exact h2 x g
      · refine .inr ⟨j + 1, by simpa using hj, by simpa using h1, ?_⟩
        rw [hm]
        simp only
        rw [h2]
        simp only [List.getElem_cons_succ]
        rw [show i + 1 + j = i + (j + 1) by omega]
theorem stopL_none {ml : List It} {k : Ky} (h : ∀ e ∈ ml, e.1 ≠ k) : stopL ml k = ml := by
  unfold stopL
  rw [List.filter_eq_self]
  intro e he
  simpa using h e he
theorem stopL_at : ∀ {ml : List It} {k : Ky} {j : Nat} (hd : Dst ml) (hj : j < ml.length), ml[j].1 = k → stopL ml k = ml.eraseIdx j := by
  intro ml
  induction ml with
  | nil => intro k j hd hj; simp at hj
  | cons e ml ih =>
    intro k j hd hj hk
    have hd' := List.pairwise_cons.1 hd
    cases j with
    | zero =>
      simp only [List.getElem_cons_zero] at hk
      simp only [List.eraseIdx_cons_zero]
      have : stopL (e :: ml) k = stopL ml k := by
        unfold stopL; rw [List.filter_cons_of_neg (by simpa using hk)]
      rw [this]
      exact stopL_none fun x hx => by rw [← hk]; exact Ne.symm (hd'.1 x hx)
    | succ j =>
      simp only [List.getElem_cons_succ] at hk
      simp only [List.eraseIdx_cons_succ]
      have hne : e.1 ≠ k := by rw [← hk]; exact hd'.1 _ (List.getElem_mem _)
      have : stopL (e :: ml) k = e :: stopL ml k := by
        unfold stopL; rw [List.filter_cons_of_pos (by simpa using hne)]
      rw [this, ih hd'.2 (by simpa using hj) hk]
theorem Dst.stop {ml : List It} (h : Dst ml) (k : Ky) : Dst (stopL ml k) := List.Pairwise.sublist List.filter_sublist h
theorem menc_erase (ml : List It) (j : Nat) : (menc ml).eraseIdx j = menc (ml.eraseIdx j) := by unfold menc; rw [Go.ChangeMaps.map_eraseIdx]
theorem row_ldM {S : HS} {ad : HA} {r : List HV} {m : Option Nat} {j : Nat} (h : S.row ad.id ad.i = some r) (hj : ad.j = 0) (hv : r[j]? = some (.map m)) : S.ldM (HA.fld ad j) = some m := by
  rw [HS.ldM, row_get h hj hv]; rfl
end Go.Proofs.Ytlfdfkldolgkoaa.X
