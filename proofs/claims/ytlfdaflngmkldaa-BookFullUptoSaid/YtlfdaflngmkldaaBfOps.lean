/- The layer book: the search, put and delete, plain. -/
import Derived.Test.YtlfdaflngmkldaaBfBase
namespace Go.Proofs.Ytlfdaflngmkldaa.X
open Go.Proofs.Ytlfdaflngmkldaa.HL
set_option linter.unusedVariables false
/-- What the search calls. -/
def CmpF (D : Dp) (H : Hd) (fv : HV) (t : List UInt8) : Prop := ∀ (e : En) (S : HS), e.1.length ≤ 1000 → ∃ S', D H fv [.agg (enRow e), .str t] S = some (.int .i64 (cmpL e.1 t), S') ∧ Fr S.next S S'
theorem cmpF_48 {k n : Nat} {H : Hd} {t : List UInt8} (hk : 2000 ≤ k) : CmpF (disp k (n + 1)) H (HV.fn (.func 48) [] []) t := by
  intro e S he
  have hcell : (S.new (.cells 2 [[.str e.1, .bool e.2]] true)).heap S.next = .cells 2 [[.str e.1, .bool e.2]] true := new_here _ _
  refine ⟨S.new (.cells 2 [[.str e.1, .bool e.2]] true), ?_, Fr.new (Nat.le_refl _) _⟩
  have e' : call_48 (disp k n) H k ([] ++ [HV.agg (enRow e), .str t] ++ []) S = some (.int .i64 (cmpL e.1 t), S.new (.cells 2 [[.str e.1, .bool e.2]] true)) := by
    rw [call_48]
    simp only [List.nil_append, List.append_nil, args2, enRow, dA2, dS, dB, Option.bind_some, if_true]
    rw [book_Book_bool_at_1.f, letv, row_ldS (cell_row hcell) rfl rfl, Option.bind_some, compare_spec (by omega) (by omega), Option.bind_some]
    rfl
  rw [disp_func]
  simp only [show ¬ (48 : Nat) = 59 by decide, if_true, if_false, e']
theorem en_rows {S : HS} {s : Sl} {xs : List En} (h : S.rows s 2 = some (xs.map enRow)) {i : Nat} (hi : i < xs.length) : ∃ ad, S.idx s (i : Int) 2 = some ad ∧ S.ldS (HA.fld ad 0) = some xs[i].1 ∧ S.ldB (HA.fld ad 1) = some xs[i].2 := by
  obtain ⟨ad, h1, h2, h3⟩ := rows_idx h (i := i) (by simpa using hi)
  rw [List.getElem_map] at h3
  exact ⟨ad, h1, row_ldS h3 h2 rfl, row_ldB h3 h2 rfl⟩
theorem search_loop {D : Dp} {H : Hd} {k : Nat} {s : Sl} {t : List UInt8} {fv : HV} {es : List En} (hc : CmpF D H fv t) (hs : Srt es) (hl : ∀ e ∈ es, e.1.length ≤ 1000) (hle : es.length ≤ 100000) :
    ∀ (n i j : Nat) (S : HS), j - i < n → i ≤ j → j ≤ es.length → Rd S.next S 2 s (es.map enRow) → (∀ q (hq : q < es.length), q < i → cmpL es[q].1 t < 0) → (∀ q (hq : q < es.length), j ≤ q → ¬ cmpL es[q].1 t < 0) →
    ∃ (p : Nat) (S' : HS), slices_BinarySearchFunc_book_entry_bool_book_entry_bool_string.L0 D H k n s t fv (es.length : Int) (i : Int) (j : Int) S = some (((p : Int), foundAt es t p), S') ∧ PosOf es t p ∧ Fr S.next S S' := by
  intro n
  induction n with
  | zero => intro i j S h; omega
  | succ n ih =>
    intro i j S hf hij hj hrd hlo hhi
    unfold slices_BinarySearchFunc_book_entry_bool_book_entry_bool_string.L0
    by_cases hlt : i < j
    · rw [if_pos (by omega), mid_eq (by omega)]
      have hm : (i + j) / 2 < es.length := by omega
      obtain ⟨ad, a1, a2, a3⟩ := en_rows hrd.rows hm
      obtain ⟨S1, e1, f1⟩ := hc es[(i + j) / 2] S (hl _ (List.getElem_mem _))
      have hrd1 : Rd S1.next S1 2 s (es.map enRow) := (hrd.frame f1 (Nat.le_refl _)).mono f1.le
      have e1' : D H fv [HV.agg [HV.str es[(i + j) / 2].1, HV.bool es[(i + j) / 2].2], HV.str t] S = some (.int .i64 (cmpL es[(i + j) / 2].1 t), S1) := e1
      rw [a1, Option.bind_some, a2, Option.bind_some, a3, Option.bind_some, e1', Option.bind_some]
      simp only [dI, if_true, Option.bind_some]
      by_cases hc0 : cmpL es[(i + j) / 2].1 t < 0
      · rw [if_pos hc0, w64_id (by omega) (by omega), show ((((i + j) / 2 : Nat) : Int) + 1) = (((i + j) / 2 + 1 : Nat) : Int) by simp]
        obtain ⟨p, S2, e2, p2, f2⟩ := ih ((i + j) / 2 + 1) j S1 (by omega) (by omega) hj hrd1 (fun q hq hqi => by
          rcases Nat.lt_or_ge q ((i + j) / 2) with h | h
          · exact cmpL_lt_trans (hs.lt hq hm h) hc0
          · obtain rfl : q = (i + j) / 2 := by omega
            exact hc0) hhi
        exact ⟨p, S2, e2, p2, f1.trans (f2.mono f1.le)⟩
      · rw [if_neg hc0]
        obtain ⟨p, S2, e2, p2, f2⟩ := ih i ((i + j) / 2) S1 (by omega) (by omega) (by omega) hrd1 hlo (fun q hq hqi => by
          rcases Nat.lt_or_ge ((i + j) / 2) q with h | h
          · intro hcc
            exact hc0 (cmpL_lt_trans (hs.lt hm hq h) hcc)
          · obtain rfl : q = (i + j) / 2 := by omega
            exact hc0)
        exact ⟨p, S2, e2, p2, f1.trans (f2.mono f1.le)⟩
    · obtain rfl : i = j := by omega
      rw [if_neg (by omega)]
      have hp : PosOf es t i := ⟨hj, hlo, hhi⟩
      by_cases hend : i < es.length
      · obtain ⟨ad, a1, a2, a3⟩ := en_rows hrd.rows hend
        obtain ⟨S1, e1, f1⟩ := hc es[i] S (hl _ (List.getElem_mem _))
        have e1' : D H fv [HV.agg [HV.str es[i].1, HV.bool es[i].2], HV.str t] S = some (.int .i64 (cmpL es[i].1 t), S1) := e1
        rw [if_pos (by omega), a1, Option.bind_some, a2, Option.bind_some, a3, Option.bind_some, e1', Option.bind_some]
        simp only [dI, if_true, Option.bind_some, slices_BinarySearchFunc_book_entry_bool_book_entry_bool_string.J1]
        refine ⟨i, S1, ?_, hp, f1⟩
        simp [foundAt, List.getElem?_eq_getElem hend]
      · rw [if_neg (by omega), slices_BinarySearchFunc_book_entry_bool_book_entry_bool_string.J1]
        refine ⟨i, S, ?_, hp, Fr.refl _ _⟩
        simp [foundAt, List.getElem?_eq_none (show es.length ≤ i by omega)]

/-- A book: its two cells, its slice. -/
def Own (p : Nat) (s : Sl) (id : Nat) : Prop := id = p ∨ ∃ q, s.a = some q ∧ q.1 = id
structure BI (p : Nat) (s : Sl) (most : Int) (es : List En) (S : HS) : Prop where
  cell : S.heap p = .cells 2 [[.int .i64 most, s.hv]] true
  ov : OV S 2 s (es.map enRow)
  ne : ∀ q, s.a = some q → q.1 ≠ p
  hi : p < S.next
  srt : Srt es
  len : ∀ e ∈ es, e.1.length ≤ 1000
  cnt : es.length ≤ 1000
structure Only (q : Nat) (s s' : Sl) (S S' : HS) : Prop where
  le : S.next ≤ S'.next
  eq : ∀ id, id < S.next → ¬ Own q s id → S'.heap id = S.heap id
  own : ∀ id, Own q s' id → Own q s id ∨ S.next ≤ id
theorem Only.refl (q : Nat) (s : Sl) (S : HS) : Only q s s S S := ⟨Nat.le_refl _, fun _ _ _ => rfl, fun _ h => .inl h⟩
theorem Only.trans {q : Nat} {s s' s'' : Sl} {S S' S'' : HS} (h : Only q s s' S S') (k : Only q s' s'' S' S'') : Only q s s'' S S'' :=
  ⟨Nat.le_trans h.le k.le, fun id h1 h2 => (k.eq id (Nat.lt_of_lt_of_le h1 h.le) (fun ho => (h.own id ho).elim h2 (fun h3 => by omega))).trans (h.eq id h1 h2), fun id ho => by
    rcases k.own id ho with h1 | h1
    · exact h.own id h1
    · have := h.le; exact .inr (by omega)⟩
theorem Only.of_fr {q : Nat} {s : Sl} {S S' : HS} (h : Fr S.next S S') : Only q s s S S' := ⟨h.le, fun id h1 _ => h.eq id h1, fun _ ho => .inl ho⟩
theorem BI.lt {p : Nat} {s : Sl} {most : Int} {es : List En} {S : HS} (h : BI p s most es S) {id : Nat} (ho : Own p s id) : id < S.next := by
  rcases ho with rfl | ⟨q, h1, rfl⟩
  · exact h.hi
  · exact h.ov.lt h1
theorem BI.keep {p : Nat} {s : Sl} {most : Int} {es : List En} {S S' : HS} (h : BI p s most es S) (he : ∀ id, Own p s id → S'.heap id = S.heap id) (hn : S.next ≤ S'.next) : BI p s most es S' :=
  ⟨(he p (.inl rfl)).trans h.cell, h.ov.keep (fun q hq => he q.1 (.inr ⟨q, hq, rfl⟩)) hn, h.ne, Nat.lt_of_lt_of_le h.hi hn, h.srt, h.len, h.cnt⟩
theorem BI.fr {p : Nat} {s : Sl} {most : Int} {es : List En} {S S' : HS} (h : BI p s most es S) (hf : Fr S.next S S') : BI p s most es S' := h.keep (fun id ho => hf.eq id (h.lt ho)) hf.le
theorem BI.row {p : Nat} {s : Sl} {most : Int} {es : List En} {S : HS} (h : BI p s most es S) : S.row (HA.cell0 p).id (HA.cell0 p).i = some [.int .i64 most, s.hv] := cell_row h.cell
theorem BI.slen {p : Nat} {s : Sl} {most : Int} {es : List En} {S : HS} (h : BI p s most es S) : s.len = es.length := by rw [h.ov.len]; simp
theorem BI.rd {p : Nat} {s : Sl} {most : Int} {es : List En} {S : HS} (h : BI p s most es S) : Rd S.next S 2 s (es.map enRow) := ⟨h.ov.rows, fun q hq => h.ov.lt hq⟩
theorem at_spec {k n p : Nat} {H : Hd} {s : Sl} {most : Int} {es : List En} {S : HS} (hk : 2000 ≤ k) (h : BI p s most es S) (t : List UInt8) :
    ∃ (i : Nat) (S' : HS), book_Book_bool_at.f (disp k (n + 1)) H k (some (HA.cell0 p)) t S = some (((i : Int), foundAt es t i), S') ∧ PosOf es t i ∧ Fr S.next S S' := by
  obtain ⟨i, S', e, h1, h2⟩ := search_loop (k := k) (fv := HV.fn (.func 48) [] []) (cmpF_48 (n := n) (H := H) (t := t) (show 2000 ≤ k by omega)) h.srt h.len (by have := h.cnt; omega) k 0 es.length S (by have := h.cnt; omega) (Nat.zero_le _) (Nat.le_refl _) h.rd (fun q _ hq => by omega) (fun q hq hq2 => by omega)
  refine ⟨i, S', ?_, h1, h2⟩
  rw [book_Book_bool_at.f, if_neg (by simp), Option.bind_some, row_ldSl h.row rfl rfl, Option.bind_some, slices_BinarySearchFunc_book_entry_bool_book_entry_bool_string.f, h.slen]
  rw [show ((0 : Nat) : Int) = 0 from rfl] at e
  rw [e, Option.bind_some]
/-- What putting makes of a list. -/
def putL (most : Int) (es : List En) (i : Nat) (t : List UInt8) (v : Bool) : List En := if foundAt es t i then es.set i (t, v) else if (es.length : Int) ≥ most then es else es.take i ++ [(t, v)] ++ es.drop i
def putR (most : Int) (es : List En) (i : Nat) (t : List UInt8) : Int := if foundAt es t i then 0 else if (es.length : Int) ≥ most then 7 else 0
theorem found_lt {es : List En} {t : List UInt8} {i : Nat} (h : foundAt es t i = true) : i < es.length := by
  unfold foundAt at h
  cases he : es[i]? with
  | none => rw [he] at h; cases h
  | some e => exact (List.getElem?_eq_some_iff.1 he).1
theorem OV.set_ {S : HS} {s : Sl} {rows : List (List HV)} {z : Nat} (h : OV S z s rows) {i : Nat} {row : List HV} (hi : i < rows.length) (hr : row.length = rows[i].length) :
    ∃ ad S', S.idx s (i : Int) z = some ad ∧ S.sets ad row = some S' ∧ OV S' z s (rows.set i row) ∧ S'.next = S.next ∧ (∀ id, (∀ q, s.a = some q → q.1 ≠ id) → S'.heap id = S.heap id) := by
  rcases h with ⟨_, _, rfl⟩ | ⟨id, rfl, h2, h3⟩
  · simp at hi
  · refine ⟨⟨id, i, 0⟩, S.put id (.cells z (rows.set i row) true), by simp [HS.idx, h2, hi], ?_, .inr ⟨id, by simp, put_here _ _ _, h3⟩, rfl, fun j hj => put_other _ (fun e => hj _ rfl e.symm)⟩
    rw [sets_row h2 (List.getElem?_eq_getElem hi) (by omega)]
    simp [hr]
theorem put_spec {k n p : Nat} {H : Hd} {s : Sl} {most : Int} {es : List En} {S : HS} (hk : 2000 ≤ k) (h : BI p s most es S) (hroom : es.length < 1000) (t : List UInt8) (v : Bool) (ht : t.length ≤ 1000) :
    ∃ i s' S', PosOf es t i ∧ book_Book_bool_Put.f (disp k (n + 1)) H k (some (HA.cell0 p)) t v S = some (putR most es i t, S') ∧ BI p s' most (putL most es i t v) S' ∧ Only p s s' S S' := by
  obtain ⟨i, S1, e1, hp, f1⟩ := at_spec (n := n) (H := H) hk h t
  have h1 := h.fr f1
  refine ⟨i, ?_⟩
  rw [book_Book_bool_Put.f, if_neg (by simp), e1, Option.bind_some]
  simp only [putL, putR]
  cases hf : foundAt es t i with
  | true =>
    have hi := found_lt hf
    obtain ⟨ad, S2, a1, a2, a3, a4, a5⟩ := h1.ov.set_ (i := i) (row := [.str t, .bool v]) (by simpa using hi) (by simp [enRow])
    have hb : BI p s most (es.set i (t, v)) S2 := by
      refine ⟨by rw [a5 p h1.ne]; exact h1.cell, ?_, h1.ne, by rw [a4]; exact h1.hi, set_srt h.srt hf v, fun e he => ?_, by simpa using h.cnt⟩
      · have : (es.map enRow).set i [.str t, .bool v] = (es.set i (t, v)).map enRow := by rw [List.map_set]; rfl
        rw [← this]; exact a3
      · rcases List.mem_or_eq_of_mem_set he with g | rfl
        · exact h.len e g
        · exact ht
    refine ⟨s, S2, hp, ?_, by simpa using hb, (Only.of_fr f1).trans ⟨by rw [a4]; exact Nat.le_refl _, fun id _ g => a5 id (fun q hq e => g (.inr ⟨q, hq, e⟩)), fun _ ho => .inl ho⟩⟩
    rw [if_pos rfl, Option.bind_some, row_ldSl h1.row rfl rfl, Option.bind_some, a1, Option.bind_some, a2, Option.bind_some, book_Book_bool_Put.J0]
    rfl
  | false =>
    rw [if_neg (by simp), Option.bind_some, row_ldSl h1.row rfl rfl, Option.bind_some, Option.bind_some, row_ldI h1.row rfl rfl, Option.bind_some, h1.slen]
    by_cases hfull : (es.length : Int) ≥ most
    · rw [if_pos hfull]
      refine ⟨s, S1, hp, by simp [hfull], by simpa [hfull] using h1, Only.of_fr f1⟩
    · rw [if_neg hfull]
      obtain ⟨s', S2, a1, a2, a3, a4, a5⟩ := ins_ov (row := [.str t, .bool v]) h1.ov (i := i) (by simpa using hp.le) (by simp; omega)
      have hcell : S2.heap p = .cells 2 [[.int .i64 most, s.hv]] true := by rw [a4 p h1.hi h1.ne]; exact h1.cell
      have hne' : ∀ q, s'.a = some q → q.1 ≠ p := fun q hq => by have := a5 q hq; have := h1.hi; omega
      rw [Option.bind_some, row_ldSl h1.row rfl rfl, Option.bind_some, letv, slices_Insert_book_entry_bool_book_entry_bool_w.f, a1, Option.bind_some, Option.bind_some]
      have hsr : S2.sets (HA.fld (HA.cell0 p) 1) [s'.hv] = some (S2.put p (.cells 2 [[.int .i64 most, s'.hv]] true)) := (sets_row hcell rfl (by simp)).trans rfl
      rw [hsr, Option.bind_some, book_Book_bool_Put.J0]
      have hb : BI p s' most (es.take i ++ [(t, v)] ++ es.drop i) (S2.put p (.cells 2 [[.int .i64 most, s'.hv]] true)) := by
        refine ⟨put_here _ _ _, ?_, hne', Nat.lt_of_lt_of_le h1.hi a3, ins_srt hp h.srt hf v, fun e he => ?_, ?_⟩
        · have hmap : (es.take i ++ [(t, v)] ++ es.drop i).map enRow = (es.map enRow).take i ++ [[.str t, .bool v]] ++ (es.map enRow).drop i := by
            simp only [List.map_append, List.map_take, List.map_drop, List.map_cons, List.map_nil, enRow]
          rw [hmap]
          exact a2.keep (fun q hq => put_other _ (hne' q hq)) (Nat.le_refl _)
        · simp only [List.mem_append, List.mem_singleton] at he
          rcases he with (g | rfl) | g
          · exact h.len e (List.mem_of_mem_take g)
          · exact ht
          · exact h.len e (List.mem_of_mem_drop g)
        · simp only [List.length_append, List.length_take, List.length_drop, List.length_singleton]; omega
      refine ⟨s', S2.put p (.cells 2 [[.int .i64 most, s'.hv]] true), hp, by simp [hfull], by simpa [hfull] using hb, (Only.of_fr f1).trans ⟨by rw [put_next]; exact a3, fun id g1 g2 => ?_, fun id ho => ?_⟩⟩
      · rw [put_other _ (fun e => g2 (.inl e))]
        exact a4 id g1 (fun q hq e => g2 (.inr ⟨q, hq, e⟩))
      · rcases ho with g | ⟨q, g1, g2⟩
        · exact .inl (.inl g)
        · right; rw [← g2]; exact a5 q g1
theorem delete_spec {k n p : Nat} {H : Hd} {s : Sl} {most : Int} {es : List En} {S : HS} (hk : 2000 ≤ k) (h : BI p s most es S) (t : List UInt8) :
    ∃ i s' S', PosOf es t i ∧ book_Book_bool_Delete.f (disp k (n + 1)) H k (some (HA.cell0 p)) t S = some (foundAt es t i, S') ∧ BI p s' most (if foundAt es t i then es.eraseIdx i else es) S' ∧ Only p s s' S S' := by
  obtain ⟨i, S1, e1, hp, f1⟩ := at_spec (n := n) (H := H) hk h t
  have h1 := h.fr f1
  refine ⟨i, ?_⟩
  rw [book_Book_bool_Delete.f, e1, Option.bind_some]
  cases hf : foundAt es t i with
  | false =>
    rw [if_neg (by simp), book_Book_bool_Delete.J0]
    exact ⟨s, S1, hp, rfl, by simpa using h1, Only.of_fr f1⟩
  | true =>
    have hi := found_lt hf
    have hcnt := h.cnt
    rw [if_pos rfl, Option.bind_some, row_ldSl h1.row rfl rfl, Option.bind_some]
    simp only
    rw [w64_id (by omega) (by omega), show ((i : Int) + 1) = ((i + 1 : Nat) : Int) by simp]
    obtain ⟨s', S2, a1, a2, a3, a4, a5⟩ := del_ov h1.ov (i := i) (by simpa using hi) (by simp; omega)
    have hcell : S2.heap p = .cells 2 [[.int .i64 most, s.hv]] true := by rw [a4 p h1.hi h1.ne]; exact h1.cell
    have hne' : ∀ q, s'.a = some q → q.1 ≠ p := fun q hq => by have := a5 q hq; have := h1.hi; omega
    have hsr : S2.sets (HA.fld (HA.cell0 p) 1) [s'.hv] = some (S2.put p (.cells 2 [[.int .i64 most, s'.hv]] true)) := (sets_row hcell rfl (by simp)).trans rfl
    rw [slices_Delete_book_entry_bool_book_entry_bool_w.f, a1, Option.bind_some, Option.bind_some, hsr, Option.bind_some, book_Book_bool_Delete.J0]
    have hb : BI p s' most (es.eraseIdx i) (S2.put p (.cells 2 [[.int .i64 most, s'.hv]] true)) := by
      refine ⟨put_here _ _ _, ?_, hne', Nat.lt_of_lt_of_le h1.hi a3, erase_srt h.srt i, fun e he => h.len e (List.mem_of_mem_eraseIdx he), by rw [List.length_eraseIdx, if_pos hi]; omega⟩
      rw [Go.ChangeMaps.map_eraseIdx]
      exact a2.keep (fun q hq => put_other _ (hne' q hq)) (Nat.le_refl _)
    refine ⟨s', S2.put p (.cells 2 [[.int .i64 most, s'.hv]] true), hp, rfl, by simpa using hb, (Only.of_fr f1).trans ⟨by rw [put_next]; exact a3, fun id g1 g2 => ?_, fun id ho => ?_⟩⟩
    · rw [put_other _ (fun e => g2 (.inl e))]
      exact a4 id g1 (fun q hq e => g2 (.inr ⟨q, hq, e⟩))
    · rcases ho with g | ⟨q, g1, g2⟩
      · exact .inl (.inl g)
      · right; rw [← g2]; exact a5 q g1
theorem len_spec {p : Nat} {s : Sl} {most : Int} {es : List En} {S : HS} (h : BI p s most es S) : book_Book_bool_Len.f (some (HA.cell0 p)) S = some ((es.length : Int), S) := by
  rw [book_Book_bool_Len.f, if_neg (by simp), Option.bind_some, row_ldSl h.row rfl rfl, Option.bind_some, h.slen]
end Go.Proofs.Ytlfdaflngmkldaa.X
