/- The layer sendq: the queue, plain. -/
import Derived.Test.YtpjabhpfaahgoaaSyAll
namespace Go.Proofs.Ytpjabhpfaahgoaa.X
open Go.Proofs.Ytpjabhpfaahgoaa.HL
set_option linter.unusedVariables false
theorem vec_keep {n z : Nat} {T T' : HS} {s : Sl} {rows : List (List HV)} (h : Vec n T z s rows) (he : ∀ q, s.a = some q → T'.heap q.1 = T.heap q.1) (hn : T.next ≤ T'.next) : Vec n T' z s rows := by
  cases h with
  | nil => exact .nil
  | open_ g1 g2 g3 => exact .open_ ((he _ rfl).trans g1) g2 (Nat.lt_of_lt_of_le g3 hn)
  | capped g1 g2 g3 g4 g5 g6 => exact .capped ((he _ rfl).trans g1) g2 (Nat.lt_of_lt_of_le g3 hn) g4 g5 g6
/-- The blocks of a queue. -/
def Own (q : Nat) (s : Sl) (id : Nat) : Prop := id = q ∨ ∃ p, s.a = some p ∧ p.1 = id
structure QI (q : Nat) (s : Sl) (most : Int) (bs : List UInt8) (torn sent : Int) (over : Bool) (S : HS) : Prop where
  cell : S.heap q = .cells 5 [[.int .i64 most, s.hv, .int .i64 torn, .int .i64 sent, .bool over]] true
  vec : Vec 0 S 1 s (bytesRows bs)
  ne : ∀ p, s.a = some p → p.1 ≠ q
  hi : q < S.next
theorem QI.lt {q : Nat} {s : Sl} {most : Int} {bs : List UInt8} {torn sent : Int} {over : Bool} {S : HS} (h : QI q s most bs torn sent over S) {id : Nat} (ho : Own q s id) : id < S.next := by
  rcases ho with rfl | ⟨p, h1, rfl⟩
  · exact h.hi
  · exact (h.vec.lo p h1).2
theorem QI.keep {q : Nat} {s : Sl} {most : Int} {bs : List UInt8} {torn sent : Int} {over : Bool} {S S' : HS} (h : QI q s most bs torn sent over S) (he : ∀ id, Own q s id → S'.heap id = S.heap id) (hn : S.next ≤ S'.next) : QI q s most bs torn sent over S' :=
  ⟨(he q (.inl rfl)).trans h.cell, vec_keep h.vec (fun p hp => he p.1 (.inr ⟨p, hp, rfl⟩)) hn, h.ne, Nat.lt_of_lt_of_le h.hi hn⟩
/-- What an operation of a queue does to all else. -/
structure Only (q : Nat) (s s' : Sl) (S S' : HS) : Prop where
  le : S.next ≤ S'.next
  eq : ∀ id, id < S.next → ¬ Own q s id → S'.heap id = S.heap id
  own : ∀ id, Own q s' id → Own q s id ∨ S.next ≤ id
theorem Only.refl (q : Nat) (s : Sl) (S : HS) : Only q s s S S := ⟨Nat.le_refl _, fun _ _ _ => rfl, fun _ h => .inl h⟩
theorem Only.trans {q : Nat} {s s' s'' : Sl} {S S' S'' : HS} (h : Only q s s' S S') (k : Only q s' s'' S' S'') : Only q s s'' S S'' :=
  ⟨Nat.le_trans h.le k.le, fun id h1 h2 => (k.eq id (Nat.lt_of_lt_of_le h1 h.le) (fun ho => (h.own id ho).elim h2 (fun h3 => by omega))).trans (h.eq id h1 h2), fun id ho => by
    rcases k.own id ho with h1 | h1
    · exact h.own id h1
    · have := h.le; exact .inr (by omega)⟩
theorem Only.of_fr {q : Nat} {s : Sl} {S S' : HS} (h : Fr S.next S S') : Only q s s S S' := ⟨h.le, fun id h1 _ => h.eq id h1, fun _ ho => .inl ho⟩
theorem QI.fr {q : Nat} {s : Sl} {most : Int} {bs : List UInt8} {torn sent : Int} {over : Bool} {S S' : HS} (h : QI q s most bs torn sent over S) (hf : Fr S.next S S') : QI q s most bs torn sent over S' :=
  h.keep (fun id ho => hf.eq id (h.lt ho)) hf.le
theorem QI.row {q : Nat} {s : Sl} {most : Int} {bs : List UInt8} {torn sent : Int} {over : Bool} {S : HS} (h : QI q s most bs torn sent over S) : S.row (HA.cell0 q).id (HA.cell0 q).i = some [.int .i64 most, s.hv, .int .i64 torn, .int .i64 sent, .bool over] := cell_row h.cell
theorem QI.len {q : Nat} {s : Sl} {most : Int} {bs : List UInt8} {torn sent : Int} {over : Bool} {S : HS} (h : QI q s most bs torn sent over S) : s.len = bs.length := by rw [h.vec.len, bytesRows_len]

theorem qnew_spec {most : Int} {S : HS} (h1 : 512 ≤ most) (h2 : most ≤ 65536) : ∃ S', sendq_New.f most S = some ((some (HA.cell0 S.next), 0), S') ∧ QI S.next Sl.nil most [] 0 0 false S' ∧ Fr S.next S S' ∧ S'.next = S.next + 1 := by
  unfold sendq_New.f
  rw [if_neg (by omega), sendq_New.J0, if_neg (by simp; omega), letv]
  exact ⟨_, rfl, ⟨new_here _ _, .nil, fun p hp => (by cases hp), Nat.lt_succ_self _⟩, Fr.new (Nat.le_refl _) _, rfl⟩
theorem qlen_spec {q : Nat} {s : Sl} {most : Int} {bs : List UInt8} {torn sent : Int} {over : Bool} {S : HS} (h : QI q s most bs torn sent over S) : sendq_Queue_Len.f (some (HA.cell0 q)) S = some ((bs.length : Int), S) := by
  rw [sendq_Queue_Len.f, if_neg (by simp), Option.bind_some, row_ldSl h.row rfl rfl, Option.bind_some, h.len]
theorem qsent_spec {q : Nat} {s : Sl} {most : Int} {bs : List UInt8} {torn sent : Int} {over : Bool} {S : HS} (h : QI q s most bs torn sent over S) : sendq_Queue_Sent.f (some (HA.cell0 q)) S = some (sent, S) := by
  rw [sendq_Queue_Sent.f, if_neg (by simp), Option.bind_some, row_ldI h.row rfl rfl, Option.bind_some]
theorem qover_spec {q : Nat} {s : Sl} {most : Int} {bs : List UInt8} {torn sent : Int} {over : Bool} {S : HS} (h : QI q s most bs torn sent over S) : sendq_Queue_Over.f (some (HA.cell0 q)) S = some (over, S) := by
  rw [sendq_Queue_Over.f, if_pos (by simp), Option.bind_some, row_ldB h.row rfl rfl, Option.bind_some, sendq_Queue_Over.J0]
/-- One field is written. -/
theorem QI.put {q : Nat} {s : Sl} {most most' : Int} {bs : List UInt8} {torn sent torn' sent' : Int} {over over' : Bool} {S : HS} (h : QI q s most bs torn sent over S) : QI q s most' bs torn' sent' over' (S.put q (.cells 5 [[.int .i64 most', s.hv, .int .i64 torn', .int .i64 sent', .bool over']] true)) :=
  ⟨put_here _ _ _, h.vec.put_ne h.ne, h.ne, h.hi⟩
theorem Only.put {q : Nat} {s : Sl} {S : HS} (o : HObj) : Only q s s S (S.put q o) := ⟨Nat.le_refl _, fun id _ h2 => put_other _ (fun e => h2 (.inl e)), fun _ h => .inl h⟩
theorem QI.setOver {q : Nat} {s : Sl} {most : Int} {bs : List UInt8} {torn sent : Int} {over : Bool} {S : HS} (h : QI q s most bs torn sent over S) (v : Bool) : S.sets (HA.fld (HA.cell0 q) 4) [.bool v] = some (S.put q (.cells 5 [[.int .i64 most, s.hv, .int .i64 torn, .int .i64 sent, .bool v]] true)) :=
  (sets_row h.cell rfl (by simp)).trans rfl
theorem QI.setTorn {q : Nat} {s : Sl} {most : Int} {bs : List UInt8} {torn sent : Int} {over : Bool} {S : HS} (h : QI q s most bs torn sent over S) (v : Int) : S.sets (HA.fld (HA.cell0 q) 2) [.int .i64 v] = some (S.put q (.cells 5 [[.int .i64 most, s.hv, .int .i64 v, .int .i64 sent, .bool over]] true)) :=
  (sets_row h.cell rfl (by simp)).trans rfl
theorem QI.setSent {q : Nat} {s : Sl} {most : Int} {bs : List UInt8} {torn sent : Int} {over : Bool} {S : HS} (h : QI q s most bs torn sent over S) (v : Int) : S.sets (HA.fld (HA.cell0 q) 3) [.int .i64 v] = some (S.put q (.cells 5 [[.int .i64 most, s.hv, .int .i64 torn, .int .i64 v, .bool over]] true)) :=
  (sets_row h.cell rfl (by simp)).trans rfl
/-- The bytes are another slice. -/
theorem QI.setB {q : Nat} {s s' : Sl} {most : Int} {bs bs' : List UInt8} {torn sent : Int} {over : Bool} {S S1 : HS} (h : QI q s most bs torn sent over S) (hq : S1.heap q = S.heap q) (hv : Vec 0 S1 1 s' (bytesRows bs')) (hn : S.next ≤ S1.next) (hne : ∀ p, s'.a = some p → p.1 ≠ q) :
    ∃ S2, S1.sets (HA.fld (HA.cell0 q) 1) [s'.hv] = some S2 ∧ QI q s' most bs' torn sent over S2 ∧ S2.next = S1.next ∧ ∀ id, id ≠ q → S2.heap id = S1.heap id := by
  have hc : S1.heap q = .cells 5 [[.int .i64 most, s.hv, .int .i64 torn, .int .i64 sent, .bool over]] true := hq.trans h.cell
  exact ⟨_, sets_row hc rfl (by simp), ⟨put_here _ _ _, hv.put_ne hne, hne, Nat.lt_of_lt_of_le h.hi hn⟩, rfl, fun id hid => put_other _ hid⟩

/-- The bytes grow. -/
theorem qapp {q : Nat} {s : Sl} {most : Int} {bs x : List UInt8} {torn sent : Int} {over : Bool} {S : HS} (h : QI q s most bs torn sent over S) (hl : bs.length + x.length ≤ 2147483648) :
    ∃ s' S1 S2, S.app s (bytesRows x) 1 = some (s', S1) ∧ S1.sets (HA.fld (HA.cell0 q) 1) [s'.hv] = some S2 ∧ QI q s' most (bs ++ x) torn sent over S2 ∧ Only q s s' S S2 := by
  obtain ⟨s', S1, e1, v1, f1, k1, q1⟩ := h.vec.app2 (new := bytesRows x) (Nat.zero_le _) (by rw [bytesRows_len, bytesRows_len]; exact hl)
  rw [← bytesRows_app] at v1
  have hq : S1.heap q = S.heap q := k1 q h.hi h.ne
  have hne : ∀ p, s'.a = some p → p.1 ≠ q := fun p hp => by
    rcases q1 p hp with g | ⟨p0, g1, g2⟩
    · have := h.hi; omega
    · rw [← g2]; exact h.ne p0 g1
  obtain ⟨S2, e2, v2, n2, k2⟩ := h.setB hq v1 f1.le hne
  refine ⟨s', S1, S2, e1, e2, v2, ⟨by rw [n2]; exact f1.le, fun id h1 h2 => ?_, fun id ho => ?_⟩⟩
  · rw [k2 id (fun e => h2 (.inl e)), k1 id h1 (fun p hp e => h2 (.inr ⟨p, hp, e⟩))]
  · rcases ho with rfl | ⟨p, g1, rfl⟩
    · exact .inl (.inl rfl)
    · rcases q1 p g1 with g | ⟨p0, g2, g3⟩
      · exact .inr g
      · exact .inl (.inr ⟨p0, g2, g3⟩)

theorem text_sq {k m : Nat} {x : List UInt8} {S : HS} (hx : x.length ≤ 1000) (hk : 2000 ≤ k) (hm : m ≤ S.next) : ∃ S', valid_Text.f k x S = some (x.all (isOf 64), S') ∧ Fr m S S' := by
  unfold valid_Text.f
  obtain ⟨S1, e1, f1⟩ := all_spec (k := k) (m := m) (x := x) (of := 64) (least := 0) (most := (x.length : Int)) (S := S) (by omega) (by omega) (by omega) hm
  refine ⟨S1, ?_, f1⟩
  rw [e1, Option.bind_some, decide_eq_true (show (0 : Int) ≤ x.length ∧ (x.length : Int) ≤ x.length by omega), Bool.true_and]
def fits (most : Int) (bs x : List UInt8) : Bool := decide ((bs.length : Int) + x.length + 2 ≤ most)
def may (over : Bool) (x : List UInt8) : Bool := !over && (decide (x.length ≤ 510) && x.all (isOf 64))
theorem push_spec {k q : Nat} {s : Sl} {most : Int} {bs x : List UInt8} {torn sent : Int} {over : Bool} {S : HS} (h : QI q s most bs torn sent over S) (hx : x.length ≤ 1000) (hb : bs.length ≤ 1000000) (hk : 2000 ≤ k) :
    ∃ s' S', sendq_Queue_Push.f k (some (HA.cell0 q)) x S = some (may over x && fits most bs x, S') ∧ QI q s' most (if may over x && fits most bs x then bs ++ x ++ [13, 10] else bs) torn sent (over || (may over x && !fits most bs x)) S' ∧ Only q s s' S S' := by
  unfold sendq_Queue_Push.f
  rw [if_neg (by simp), Option.bind_some, row_ldB h.row rfl rfl, Option.bind_some]
  have hno : ∀ (T : HS), Fr S.next S T → may over x = false → sendq_Queue_Push.J2 k (some (HA.cell0 q)) x true T = some (false, T) → ∃ s' S', sendq_Queue_Push.J2 k (some (HA.cell0 q)) x true T = some (may over x && fits most bs x, S') ∧ QI q s' most (if may over x && fits most bs x then bs ++ x ++ [13, 10] else bs) torn sent (over || (may over x && !fits most bs x)) S' ∧ Only q s s' S S' := by
    intro T hf hm e
    refine ⟨s, T, by rw [e, hm]; rfl, ?_, Only.of_fr hf⟩
    rw [hm]
    simpa using h.fr hf
  have j2 : ∀ T, sendq_Queue_Push.J2 k (some (HA.cell0 q)) x true T = some (false, T) := fun T => by rw [sendq_Queue_Push.J2, if_pos rfl]
  cases over with
  | true =>
    rw [sendq_Queue_Push.J0, if_pos rfl, sendq_Queue_Push.J1, if_pos rfl]
    exact hno S (Fr.refl _ _) rfl (j2 S)
  | false =>
    rw [sendq_Queue_Push.J0, if_neg (by simp)]
    by_cases hl : x.length ≤ 510
    · rw [decide_eq_false (show ¬ ((x.length : Int) > 510) by omega), sendq_Queue_Push.J1, if_neg (by simp)]
      obtain ⟨T, e1, f1⟩ := text_sq (k := k) (m := S.next) (x := x) (S := S) hx hk (Nat.le_refl _)
      rw [e1, Option.bind_some]
      by_cases ht : x.all (isOf 64) = true
      · have hm : may false x = true := by simp [may, hl]; simpa using ht
        have hT := h.fr f1
        rw [ht, Bool.not_true, sendq_Queue_Push.J2, if_neg (by simp), Option.bind_some, row_ldSl hT.row rfl rfl, Option.bind_some, Option.bind_some, row_ldI hT.row rfl rfl, Option.bind_some, hT.len, w64_id (n := (bs.length : Int) + x.length) (by omega) (by omega), w64_id (by omega) (by omega)]
        by_cases hfit : (bs.length : Int) + x.length + 2 ≤ most
        · have hf : fits most bs x = true := by simpa [fits] using hfit
          obtain ⟨s1, T1, T2, g1, g2, g3, g4⟩ := qapp (x := x) hT (by omega)
          obtain ⟨s2, T3, T4, g5, g6, g7, g8⟩ := qapp (x := [13, 10]) g3 (by simp; omega)
          rw [if_neg (by omega), Option.bind_some, row_ldSl hT.row rfl rfl, Option.bind_some, g1, Option.bind_some, Option.bind_some, g2, Option.bind_some, Option.bind_some, row_ldSl g3.row rfl rfl, Option.bind_some, g5, Option.bind_some, Option.bind_some, g6, Option.bind_some]
          refine ⟨s2, T4, by rw [hm, hf]; rfl, ?_, ((Only.of_fr f1).trans g4).trans g8⟩
          rw [hm, hf]
          simpa using g7
        · have hf : fits most bs x = false := by simpa [fits] using hfit
          rw [if_pos (by omega), Option.bind_some, hT.setOver, Option.bind_some]
          refine ⟨s, _, by rw [hm, hf]; rfl, ?_, (Only.of_fr f1).trans (Only.put _)⟩
          rw [hm, hf]
          simpa using hT.put
      · have ht' : x.all (isOf 64) = false := by simpa using ht
        rw [ht', Bool.not_false]
        exact hno T f1 (by simp [may, ht']) (j2 T)
    · rw [decide_eq_true (show (x.length : Int) > 510 by omega), sendq_Queue_Push.J1, if_pos rfl]
      exact hno S (Fr.refl _ _) (by simp [may, hl]) (j2 S)

theorem bidx_bounds (s : List UInt8) (c : Int) : -1 ≤ bidx s c ∧ bidx s c < s.length ∨ bidx s c = -1 := by
  unfold bidx firstIdx
  split
  · rename_i i hi
    have := List.mem_of_find?_eq_some hi
    simp only [List.mem_range, size_mk] at this
    omega
  · exact .inr rfl
theorem rows_cut {S : HS} {s : Sl} {z : Nat} {rows : List (List HV)} (h : S.rows s z = some rows) {m : Nat} (hm : m ≤ rows.length) : ∃ sc, S.cut s (m : Int) (rows.length : Int) z = some sc ∧ S.rows sc z = some (rows.drop m) := by
  have hl := rows_len h
  obtain ⟨sa, sl, sc⟩ := s
  have hl2 : rows.length = sl := hl
  subst hl2
  cases sa with
  | none =>
    simp only [HS.rows] at h
    split at h
    · rename_i e
      cases h
      obtain rfl : m = 0 := by simpa using hm
      exact ⟨⟨none, 0, sc⟩, by simp [HS.cut], by simp [HS.rows]⟩
    · cases h
  | some p =>
    obtain ⟨id, off⟩ := p
    simp only [HS.rows] at h
    split at h
    · rename_i z' rws own hh
      split at h
      · rename_i hc
        obtain ⟨rfl, hc⟩ := hc
        simp only [Option.some.injEq] at h
        refine ⟨_, cut_len hh hm (Nat.le_refl _), ?_⟩
        rw [rows_at hh (by omega)]
        congr 1
        rw [← List.drop_drop, ← List.drop_take, h]
      · cases h
    · cases h
/-- What is left of a line. -/
def tornL (bs : List UInt8) : Nat → Nat → Int → Int
  | 0, _, _ => 0
  | n + 1, i, r =>
    if h : i < bs.length then
      if r = 0 then 0 else if ((bs[i]).toNat : Int) = 10 then tornL bs n (i + 1) (r - 1) else if r - 1 = 0 then bidx (bs.drop (i + 1)) 10 + 1 else tornL bs n (i + 1) (r - 1)
    else 0
def tornP (k : Nat) (bs : List UInt8) (was n : Int) : Int := if n ≤ was then was - n else tornL bs k was.toNat (n - was)
theorem torn_loop {k : Nat} {S : HS} {s : Sl} {bs : List UInt8} (hr : S.rows s 1 = some (bytesRows bs)) (hb : bs.length ≤ 1000000) : ∀ (n i : Nat) (r : Int), bs.length - i < n → 0 ≤ r → r ≤ 1000000 → sendq_torn.L0 k n s r (i : Int) S = some (tornL bs n i r, S) ∧ 0 ≤ tornL bs n i r ∧ tornL bs n i r ≤ 1000000 := by
  have hl : s.len = bs.length := by rw [← rows_len hr, bytesRows_len]
  intro n
  induction n with
  | zero => intro i r h; omega
  | succ n ih =>
    intro i r h h0 h1
    unfold sendq_torn.L0
    by_cases hlt : i < bs.length
    · rw [hl, if_pos (by omega), tornL, dif_pos hlt]
      by_cases hr0 : r = 0
      · rw [if_pos hr0, if_pos hr0]; exact ⟨rfl, by omega, by omega⟩
      obtain ⟨ad, a1, a2, a3⟩ := rows_idx hr (i := i) (by rw [bytesRows_len]; exact hlt)
      have hld : S.ldI .u8 ad = some ((bs[i]).toNat : Int) := by
        have := row_ldI (j := 0) (k := .u8) (n := ((bs[i]).toNat : Int)) a3 a2 (by simp [bytesRows])
        obtain ⟨b1, b2, b3⟩ := ad
        simp only at a2
        subst a2
        exact this
      rw [if_neg hr0, if_neg hr0, a1, Option.bind_some, hld, Option.bind_some, w64_id (n := r - 1) (by omega) (by omega)]
      have hnext : sendq_torn.J1 k (sendq_torn.L0 k n) s (r - 1) (i : Int) S = some (tornL bs n (i + 1) (r - 1), S) ∧ 0 ≤ tornL bs n (i + 1) (r - 1) ∧ tornL bs n (i + 1) (r - 1) ≤ 1000000 := by
        rw [sendq_torn.J1, w64_id (by omega) (by omega), show ((i : Int) + 1) = ((i + 1 : Nat) : Int) by simp]
        exact ih (i + 1) (r - 1) (by omega) (by omega) (by omega)
      by_cases h10 : ((bs[i]).toNat : Int) = 10
      · rw [if_pos h10, if_pos h10]; exact hnext
      · rw [if_neg h10, if_neg h10]
        by_cases hr1 : r - 1 = 0
        · rw [if_pos hr1, if_pos hr1, w64_id (n := (i : Int) + 1) (by omega) (by omega), show ((i : Int) + 1) = ((i + 1 : Nat) : Int) by simp]
          have hcut : ∃ s2, S.cut s ((i + 1 : Nat) : Int) (bs.length : Int) 1 = some s2 ∧ S.rows s2 1 = some (bytesRows (bs.drop (i + 1))) := by
            obtain ⟨s2, c1, c2⟩ := rows_cut hr (m := i + 1) (by rw [bytesRows_len]; omega)
            rw [bytesRows_len] at c1
            exact ⟨s2, c1, by rw [c2, bytesRows, bytesRows, List.map_drop]⟩
          obtain ⟨s2, c1, c2⟩ := hcut
          have ht : S.text s2 = some (bs.drop (i + 1)) := by unfold HS.text; rw [c2, Option.bind_some, bytesOf_rows]
          rw [c1, Option.bind_some, ht, Option.bind_some]
          unfold strings_IndexByte.f internal_stringslite_IndexByte.f
          rw [Option.bind_some, Option.bind_some]
          have hbd := bidx_bounds (bs.drop (i + 1)) 10
          rw [List.length_drop] at hbd
          rw [w64_id (by omega) (by omega)]
          exact ⟨rfl, by omega, by omega⟩
        · rw [if_neg hr1, if_neg hr1]; exact hnext
    · rw [hl, if_neg (by omega), tornL, dif_neg hlt]; exact ⟨rfl, by omega, by omega⟩
theorem torn_spec {k : Nat} {S : HS} {s : Sl} {bs : List UInt8} (hr : S.rows s 1 = some (bytesRows bs)) (hb : bs.length ≤ 1000000) (hk : bs.length < k) {was n : Int} (h1 : 0 ≤ was) (h2 : was ≤ 1000000) (h3 : 0 ≤ n) (h4 : n ≤ 1000000) : sendq_torn.f k s was n S = some (tornP k bs was n, S) ∧ 0 ≤ tornP k bs was n ∧ tornP k bs was n ≤ 1000000 := by
  unfold sendq_torn.f tornP
  by_cases hle : n ≤ was
  · rw [if_pos hle, if_pos hle, w64_id (by omega) (by omega)]; exact ⟨rfl, by omega, by omega⟩
  · obtain ⟨w, rfl⟩ : ∃ w : Nat, was = (w : Int) := ⟨was.toNat, by omega⟩
    rw [if_neg hle, if_neg hle, w64_id (by omega) (by omega), Int.toNat_natCast]
    exact torn_loop hr hb k w _ (by omega) (by omega) (by omega)

def dn (n : Int) (bs : List UInt8) : Nat := (mx 0 (mn n (bs.length : Int))).toNat
theorem dn_eq (n : Int) (bs : List UInt8) : mx 0 (mn n (bs.length : Int)) = (dn n bs : Int) ∧ dn n bs ≤ bs.length := by
  unfold dn mx mn
  constructor <;> (repeat' split) <;> omega
/-- The bytes of a slice. -/
def Txt (S : HS) (s : Sl) (t : List UInt8) : Prop := S.text s = some t ∧ s.len = t.length ∧ ∀ p, s.a = some p → p.1 < S.next
theorem Txt.keep {S S' : HS} {s : Sl} {t : List UInt8} (h : Txt S s t) (he : ∀ p, s.a = some p → S'.heap p.1 = S.heap p.1) (hn : S.next ≤ S'.next) : Txt S' s t := by
  obtain ⟨h1, h2, h3⟩ := h
  refine ⟨?_, h2, fun p hp => Nat.lt_of_lt_of_le (h3 p hp) hn⟩
  unfold HS.text at h1 ⊢
  cases hr : S.rows s 1 with
  | none => rw [hr] at h1; cases h1
  | some rows => rw [rows_same hr he, ← hr]; exact h1
theorem drain_spec {k q : Nat} {s : Sl} {most : Int} {bs : List UInt8} {torn sent : Int} {over : Bool} {S : HS} (h : QI q s most bs torn sent over S) (hb : bs.length ≤ 1000000) (hk : bs.length < k) (h1 : 0 ≤ torn) (h2 : torn ≤ 1000000) (h3 : 0 ≤ sent) (h4 : sent ≤ 1000000000) (n : Int) :
    ∃ out s' torn' S', sendq_Queue_Drain.f k (some (HA.cell0 q)) n S = some (out, S') ∧ QI q s' most (bs.drop (dn n bs)) torn' (sent + dn n bs) over S' ∧ (torn' = tornP k bs torn (dn n bs) ∧ 0 ≤ torn' ∧ torn' ≤ 1000000) ∧ Txt S' out (bs.take (dn n bs)) ∧ (∀ p, out.a = some p → S.next ≤ p.1 ∧ ¬ Own q s' p.1) ∧ Only q s s' S S' := by
  obtain ⟨d1, d2⟩ := dn_eq n bs
  unfold sendq_Queue_Drain.f
  rw [if_neg (by simp), Option.bind_some, row_ldSl h.row rfl rfl, Option.bind_some, h.len]
  simp only [d1]
  generalize dn n bs = m at d2 ⊢
  -- the room
  obtain ⟨o, S1, e1, v1, f1⟩ := Vec.makeN (m := S.next) (S := S) (n := m) (c := m) (zr := [.int .u8 0]) (Nat.le_refl _) (Nat.le_refl _) (by omega)
  have hq1 := h.fr f1
  have hr1 := hq1.vec.rows
  have hol : o.len = m := by rw [v1.len]; simp
  have hoa := v1.lo
  rw [e1, Option.bind_some, Option.bind_some, row_ldSl hq1.row rfl rfl, Option.bind_some, hr1, Option.bind_some, hol]
  have htake : List.take m (bytesRows bs) = bytesRows (bs.take m) := by simp [bytesRows, List.map_take]
  obtain ⟨S2, e2, t2, n2, k2⟩ : ∃ S2, S1.over o (List.take m (bytesRows bs)) 1 = some S2 ∧ Txt S2 o (bs.take m) ∧ S2.next = S1.next ∧ ∀ id, (∀ p, o.a = some p → p.1 ≠ id) → S2.heap id = S1.heap id := by
    have hlt : (bs.take m).length = m := by rw [List.length_take]; omega
    by_cases hm0 : m = 0
    · subst hm0
      refine ⟨S1, by simp [HS.over], ⟨?_, by rw [hol]; rfl, fun p hp => (hoa p hp).2⟩, rfl, fun _ _ => rfl⟩
      have : S1.rows o 1 = some [] := v1.rows
      unfold HS.text
      rw [this]; rfl
    · have hne : bytesRows (bs.take m) ≠ [] := by intro hc; have := congrArg List.length hc; rw [bytesRows_len, hlt] at this; simp at this; omega
      rw [htake]
      rw [HS.make, if_pos ⟨by omega, by omega, by omega⟩] at e1
      simp only [Int.toNat_natCast, Option.some.injEq, Prod.mk.injEq] at e1
      obtain ⟨rfl, rfl⟩ := e1
      have hheap : (S.new (.cells 1 (List.replicate m [.int .u8 0]) true)).heap S.next = .cells 1 (List.replicate m [.int .u8 0]) true := new_here _ _
      have hov := over_at (off := 0) (len := m) (c := some m) (new := bytesRows (bs.take m)) hheap hne (by rw [bytesRows_len, hlt]; exact Nat.le_refl _) (by rw [bytesRows_len, hlt]; simp)
      refine ⟨_, hov, ⟨?_, hlt.symm, fun p hp => by cases hp; exact Nat.lt_succ_self _⟩, rfl, fun id hid => put_other _ (fun e => hid _ rfl e.symm)⟩
      have hsp : splice (List.replicate m [HV.int .u8 0]) 0 (bytesRows (bs.take m)) = bytesRows (bs.take m) := by
        unfold splice
        rw [List.take_zero, List.nil_append, bytesRows_len, hlt, List.drop_of_length_le (by simp), List.append_nil]
      have hr : ((S.new (.cells 1 (List.replicate m [.int .u8 0]) true)).put S.next (.cells 1 (splice (List.replicate m [.int .u8 0]) 0 (bytesRows (bs.take m))) true)).rows ⟨some (S.next, 0), m, some m⟩ 1 = some (bytesRows (bs.take m)) := by
        rw [rows_at (put_here _ _ _) (by rw [hsp, bytesRows_len, hlt]; omega), hsp, List.drop_zero, List.take_of_length_le (by rw [bytesRows_len, hlt]; exact Nat.le_refl _)]
      unfold HS.text
      show Option.bind (HS.rows _ _ _) _ = _
      rw [hr, Option.bind_some, bytesOf_rows]
  have hf12 : Fr S.next S S2 := ⟨by rw [n2]; exact f1.le, fun id hid => by rw [k2 id (fun p hp e => by have := (hoa p hp).1; omega), f1.eq id hid]⟩
  have hq2 := h.fr hf12
  obtain ⟨e3, t3, t4⟩ := torn_spec (k := k) (was := torn) (n := (m : Int)) hq2.vec.rows hb hk h1 h2 (by omega) (by omega)
  generalize ht : tornP k bs torn (m : Int) = t at e3 t3 t4
  rw [e2, Option.bind_some, Option.bind_some, row_ldSl hq2.row rfl rfl, Option.bind_some, Option.bind_some, row_ldI hq2.row rfl rfl, Option.bind_some, e3, Option.bind_some, Option.bind_some, hq2.setTorn, Option.bind_some]
  have hq3 := hq2.put (most' := most) (torn' := t) (sent' := sent) (over' := over)
  have hO3 : Only q s s S (S2.put q (.cells 5 [[.int .i64 most, s.hv, .int .i64 t, .int .i64 sent, .bool over]] true)) := (Only.of_fr hf12).trans (Only.put _)
  have hT3 : Txt (S2.put q (.cells 5 [[.int .i64 most, s.hv, .int .i64 t, .int .i64 sent, .bool over]] true)) o (bs.take m) := t2.keep (fun p hp => put_other _ (by have := (hoa p hp).1; have := h.hi; omega)) (Nat.le_refl _)
  have hn3 : (S2.put q (.cells 5 [[.int .i64 most, s.hv, .int .i64 t, .int .i64 sent, .bool over]] true)).next = S2.next := rfl
  generalize S2.put q (.cells 5 [[.int .i64 most, s.hv, .int .i64 t, .int .i64 sent, .bool over]] true) = S3 at hq3 hO3 hT3 hn3 ⊢
  -- what is left
  obtain ⟨sc, c1, c2⟩ : ∃ sc, S3.cut s (m : Int) (bs.length : Int) 1 = some sc ∧ S3.rows sc 1 = some (bytesRows (bs.drop m)) := by
    obtain ⟨sc, c1, c2⟩ := rows_cut hq3.vec.rows (m := m) (by rw [bytesRows_len]; exact d2)
    rw [bytesRows_len] at c1
    exact ⟨sc, c1, by rw [c2, bytesRows, bytesRows, List.map_drop]⟩
  rw [Option.bind_some, row_ldSl hq3.row rfl rfl, Option.bind_some, hq3.len, c1, Option.bind_some, c2, Option.bind_some]
  -- laid anew
  obtain ⟨s', S4, e4, v4, f4, k4, q4⟩ := (Vec.nil (n := 0) (S := S3) (z := 1) (c := Sl.nil.cap)).app2 (new := bytesRows (bs.drop m)) (Nat.zero_le _) (by rw [bytesRows_len, List.length_drop]; simp; omega)
  rw [List.nil_append] at v4
  have hk4 : ∀ id, id < S3.next → S4.heap id = S3.heap id := fun id hid => k4 id hid (fun p hp => by cases hp)
  have hs' : ∀ p, s'.a = some p → S3.next ≤ p.1 := fun p hp => by
    rcases q4 p hp with g | ⟨p0, g1, _⟩
    · exact g
    · cases g1
  have hge : S.next ≤ S3.next := hO3.le
  obtain ⟨S5, e5, q5, n5, k5⟩ := hq3.setB (hk4 q hq3.hi) v4 f4.le (fun p hp => by have := hs' p hp; have := hq3.hi; omega)
  rw [show S3.app Sl.nil (bytesRows (bs.drop m)) 1 = some (s', S4) from e4, Option.bind_some, Option.bind_some, e5, Option.bind_some, Option.bind_some, row_ldI q5.row rfl rfl, Option.bind_some, Option.bind_some, q5.setSent, Option.bind_some, w64_id (by omega) (by omega)]
  refine ⟨o, s', t, _, rfl, q5.put, ⟨rfl, t3, t4⟩, hT3.keep (fun p hp => ?_) ?_, fun p hp => ⟨(hoa p hp).1, fun ho => ?_⟩, hO3.trans ⟨?_, fun id g1 g2 => ?_, fun id ho => ?_⟩⟩
  · have h5 := hT3.2.2 p hp
    have h6 : p.1 ≠ q := by have := (hoa p hp).1; have := h.hi; omega
    rw [put_other _ h6, k5 p.1 h6, hk4 p.1 h5]
  · rw [put_next, n5]; exact f4.le
  · rcases ho with e | ⟨p', g1, g2⟩
    · have := (hoa p hp).1; have := h.hi; omega
    · have := hs' p' g1; have := hT3.2.2 p hp; omega
  · rw [put_next, n5]; exact f4.le
  · have hid : id ≠ q := fun e => g2 (.inl e)
    rw [put_other _ hid, k5 id hid, hk4 id g1]
  · rcases ho with e | ⟨p', g1, g2⟩
    · exact .inl (.inl e)
    · right; rw [← g2]; exact hs' p' g1
end Go.Proofs.Ytpjabhpfaahgoaa.X
