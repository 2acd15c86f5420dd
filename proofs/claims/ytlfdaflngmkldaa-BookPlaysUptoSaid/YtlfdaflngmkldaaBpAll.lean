/- The layer book: what is gone through, plain. -/
import Derived.Test.YtlfdaflngmkldaaBpOps
namespace Go.Proofs.Ytlfdaflngmkldaa.X
open Go.Proofs.Ytlfdaflngmkldaa.HL
set_option linter.unusedVariables false
theorem rows_cut {S : HS} {s : Sl} {z : Nat} {rows : List (List HV)} (h : S.rows s z = some rows) {m : Nat} (hm : m ≤ rows.length) : ∃ sc, S.cut s (m : Int) (rows.length : Int) z = some sc ∧ S.rows sc z = some (rows.drop m) := by
  have hl := rows_len h
  obtain ⟨sa, sl, sc⟩ := s
  have hl2 : rows.length = sl := hl
  subst hl2
  cases sa with
  | none =>
    simp only [HS.rows] at h
    split at h
    · rename_i e
      cases h
      obtain rfl : m = 0 := by simpa using hm
      exact ⟨⟨none, 0, sc⟩, by simp [HS.cut], by simp [HS.rows]⟩
    · cases h
  | some p =>
    obtain ⟨id, off⟩ := p
    simp only [HS.rows] at h
    split at h
    · rename_i z' rws own hh
      split at h
      · rename_i hc
        obtain ⟨rfl, hc⟩ := hc
        simp only [Option.some.injEq] at h
        refine ⟨_, cut_len hh hm (Nat.le_refl _), ?_⟩
        rw [rows_at hh (by omega)]
        congr 1
        rw [← List.drop_drop, ← List.drop_take, h]
      · cases h
    · cases h

theorem clone_spec {s : Sl} {rows : List (List HV)} {S : HS} (hr : Rd S.next S 2 s rows) (hn : s.a = none → rows = []) (hc : rows.length ≤ 1000) : ∃ s' S1, slices_Clone_book_entry_int_book_entry_int.f s S = some (s', S1) ∧ S1.rows s' 2 = some rows ∧ (∀ q, s'.a = some q → S.next ≤ q.1 ∧ q.1 < S1.next) ∧ Fr S.next S S1 := by
  unfold slices_Clone_book_entry_int_book_entry_int.f
  by_cases ha : s.a.isNone = true
  · rw [if_pos ha]
    refine ⟨_, S, rfl, ?_, fun q hq => (by cases hq), Fr.refl _ _⟩
    rw [hn (by simpa using ha)]; rfl
  · rw [if_neg ha, letv]
    have hl := Vec.lit (n := S.next) (z := 2) (S := S) [] (Nat.le_refl _)
    have hr' : (S.lit [] 2).2.rows s 2 = some rows := (hr.frame (lit_fr [] (Nat.le_refl _)) (Nat.le_refl _)).rows
    obtain ⟨s', S1, e1, v1, f1⟩ := hl.app (new := rows) (Nat.le_succ _) (by simp; omega)
    rw [hr', Option.bind_some, e1, Option.bind_some]
    rw [List.nil_append] at v1
    exact ⟨s', S1, rfl, v1.rows, v1.lo, (lit_fr [] (Nat.le_refl _)).trans f1⟩
theorem told_spec {s : Sl} {rows : List (List HV)} {S : HS} (hr : S.rows s 2 = some rows) (hq : ∀ q, s.a = some q → q.1 < S.next) :
    ∃ S', book_told_int.f s S = some (.fn (.func 69) [] [.ptr (some (HA.cell0 S.next))], S') ∧ S'.heap S.next = .cells 1 [[s.hv]] true ∧ S'.rows s 2 = some rows ∧ S'.next = S.next + 1 ∧ Fr S.next S S' := by
  rw [book_told_int.f, letv]
  refine ⟨_, rfl, new_here _ _, ?_, rfl, Fr.new (Nat.le_refl _) _⟩
  have hrd : Rd S.next S 2 s rows := ⟨hr, hq⟩
  exact (hrd.frame (Fr.new (Nat.le_refl _) _) (Nat.le_refl _)).rows
theorem OV.none {S : HS} {z : Nat} {s : Sl} {rows : List (List HV)} (h : OV S z s rows) (ha : s.a = none) : rows = [] := by
  rcases h with ⟨_, _, h⟩ | ⟨id, rfl, _, _⟩
  · exact h
  · cases ha
theorem all_spec {p : Nat} {s : Sl} {most : Int} {es : List En} {S : HS} (h : BI p s most es S) :
    ∃ c s' S', book_Book_int_All.f (some (HA.cell0 p)) S = some (.fn (.func 69) [] [.ptr (some (HA.cell0 c))], S') ∧ S.next ≤ c ∧ c < S'.next ∧ S'.heap c = .cells 1 [[s'.hv]] true ∧ S'.rows s' 2 = some (es.map enRow) ∧ (∀ q, s'.a = some q → S.next ≤ q.1 ∧ q.1 < S'.next) ∧ Fr S.next S S' := by
  obtain ⟨s', S1, e1, r1, q1, f1⟩ := clone_spec h.rd h.ov.none (by have := h.cnt; simpa using this)
  obtain ⟨S2, e2, c2, r2, n2, f2⟩ := told_spec r1 (fun q hq => (q1 q hq).2)
  rw [book_Book_int_All.f, if_neg (by simp), Option.bind_some, row_ldSl h.row rfl rfl, Option.bind_some, e1, Option.bind_some, e2, Option.bind_some]
  exact ⟨S1.next, s', S2, rfl, f1.le, by omega, c2, r2, fun q hq => ⟨(q1 q hq).1, by have := (q1 q hq).2; omega⟩, f1.trans (f2.mono f1.le)⟩
theorem from_spec {k n p : Nat} {H : Hd} {s : Sl} {most : Int} {es : List En} {S : HS} (hk : 2000 ≤ k) (h : BI p s most es S) (t : List UInt8) :
    ∃ i c s' S', PosOf es t i ∧ book_Book_int_From.f (disp k (n + 1)) H k (some (HA.cell0 p)) t S = some (.fn (.func 69) [] [.ptr (some (HA.cell0 c))], S') ∧ S.next ≤ c ∧ c < S'.next ∧ S'.heap c = .cells 1 [[s'.hv]] true ∧ S'.rows s' 2 = some ((es.drop i).map enRow) ∧ (∀ q, s'.a = some q → S.next ≤ q.1 ∧ q.1 < S'.next) ∧ Fr S.next S S' := by
  obtain ⟨i, S1, e1, hp, f1⟩ := at_spec (n := n) (H := H) hk h t
  have h1 := h.fr f1
  obtain ⟨sc, c1, c2, c3, c4⟩ : ∃ sc, S1.cut s (i : Int) (s.len : Int) 2 = some sc ∧ S1.rows sc 2 = some ((es.drop i).map enRow) ∧ (sc.a = none → (es.drop i).map enRow = []) ∧ ∀ q, sc.a = some q → q.1 < S1.next := by
    obtain ⟨sc, c1, c2⟩ := rows_cut h1.ov.rows (m := i) (by simpa using hp.le)
    rw [← List.map_drop] at c2
    have hl : ((es.map enRow).length : Int) = (s.len : Int) := by rw [h.slen]; simp
    rw [hl] at c1
    refine ⟨sc, c1, c2, fun ha => ?_, fun q hq => ?_⟩
    · have := rows_len c2
      unfold HS.rows at c2
      rw [ha] at c2
      simp only at c2
      split at c2
      · simpa using c2.symm
      · cases c2
    · rcases h1.ov with ⟨g1, g2, g3⟩ | ⟨id, rfl, g2, g3⟩
      · unfold HS.cut at c1
        rw [g1] at c1
        simp only at c1
        rcases ifc c1 with ⟨_, c1⟩ | ⟨_, c1⟩
        · rcases ifc c1 with ⟨_, c1⟩ | ⟨_, c1⟩
          · simp only [Option.some.injEq] at c1
            subst c1; cases hq
          · cases c1
        · cases c1
      · unfold HS.cut at c1
        simp only [g2] at c1
        rcases ifc c1 with ⟨_, c1⟩ | ⟨_, c1⟩
        · rcases ifc c1 with ⟨_, c1⟩ | ⟨_, c1⟩
          · simp only [Option.some.injEq] at c1
            subst c1
            simp only [Option.some.injEq] at hq
            rw [← hq]; exact g3
          · cases c1
        · cases c1
  have hcnt := h.cnt
  obtain ⟨s', S2, e2, r2, q2, f2⟩ := clone_spec (S := S1) ⟨c2, c4⟩ c3 (by simp; omega)
  obtain ⟨S3, e3, c5, r3, n3, f3⟩ := told_spec r2 (fun q hq => (q2 q hq).2)
  have l1 := f1.le
  have l2 := f2.le
  refine ⟨i, S2.next, s', S3, hp, ?_, by omega, by omega, c5, r3, fun q hq => ⟨by have := (q2 q hq).1; omega, by have := (q2 q hq).2; omega⟩, f1.trans ((f2.mono l1).trans (f3.mono (by omega)))⟩
  rw [book_Book_int_From.f, e1, Option.bind_some, if_neg (by simp), Option.bind_some, row_ldSl h1.row rfl rfl, Option.bind_some]
  simp only
  rw [c1, Option.bind_some, e2, Option.bind_some, e3, Option.bind_some]
theorem get_spec {k n p : Nat} {H : Hd} {s : Sl} {most : Int} {es : List En} {S : HS} (hk : 2000 ≤ k) (h : BI p s most es S) (t : List UInt8) :
    ∃ i S', PosOf es t i ∧ book_Book_int_Get.f (disp k (n + 1)) H k (some (HA.cell0 p)) t S = some ((if foundAt es t i then (es[i]?.getD ([], 0)).2 else 0, foundAt es t i), S') ∧ Fr S.next S S' := by
  obtain ⟨i, S1, e1, hp, f1⟩ := at_spec (n := n) (H := H) hk h t
  have h1 := h.fr f1
  refine ⟨i, S1, hp, ?_, f1⟩
  rw [book_Book_int_Get.f, e1, Option.bind_some]
  cases hf : foundAt es t i with
  | false => rw [if_pos (by simp)]; rfl
  | true =>
    have hi := found_lt hf
    obtain ⟨ad, a1, a2, a3⟩ := en_rows h1.ov.rows hi
    rw [if_neg (by simp), Option.bind_some, row_ldSl h1.row rfl rfl, Option.bind_some]
    simp only
    rw [a1, Option.bind_some, a3, Option.bind_some]
    simp [hi]
theorem name_spec {k n p : Nat} {H : Hd} {s : Sl} {most : Int} {es : List En} {S : HS} (hk : 2000 ≤ k) (h : BI p s most es S) (t : List UInt8) :
    ∃ i S', PosOf es t i ∧ book_Book_int_Name.f (disp k (n + 1)) H k (some (HA.cell0 p)) t S = some ((if foundAt es t i then (es[i]?.getD ([], 0)).1 else [], foundAt es t i), S') ∧ Fr S.next S S' := by
  obtain ⟨i, S1, e1, hp, f1⟩ := at_spec (n := n) (H := H) hk h t
  have h1 := h.fr f1
  refine ⟨i, S1, hp, ?_, f1⟩
  rw [book_Book_int_Name.f, e1, Option.bind_some]
  cases hf : foundAt es t i with
  | false => rw [if_pos (by simp)]; rfl
  | true =>
    have hi := found_lt hf
    obtain ⟨ad, a1, a2, a3⟩ := en_rows h1.ov.rows hi
    rw [if_neg (by simp), Option.bind_some, row_ldSl h1.row rfl rfl, Option.bind_some]
    simp only
    rw [a1, Option.bind_some, a2, Option.bind_some]
    simp [hi]
theorem pos_uniq {es : List En} {t : List UInt8} {i j : Nat} (h : PosOf es t i) (k : PosOf es t j) : i = j := by
  have h1 := h.le
  have k1 := k.le
  rcases Nat.lt_trichotomy i j with hl | hl | hl
  · exact absurd (k.lo i (by omega) hl) (h.hi i (by omega) (Nat.le_refl _))
  · exact hl
  · exact absurd (h.lo j (by omega) hl) (k.hi j (by omega) (Nat.le_refl _))
theorem told_tells {k n l c : Nat} {H : Hd} {r : List HV → HS → Option (HV × HS)} {xs : List En} {s : Sl} (hl : H l = some r) (I : Nat → HS → Prop) (Stop : HS → Prop)
    (hst : ∀ i S S', I i S → Fr S.next S S' → I i S') (hc : ∀ i S, I i S → S.heap c = .cells 1 [[s.hv]] true) (hrd : ∀ i S, I i S → S.rows s 2 = some (xs.map enRow))
    (hstep : ∀ i (hi : i < xs.length) S, I i S → ∃ b S', r [.str xs[i].1, .int .i64 xs[i].2] S = some (.bool b, S') ∧ (b = true → I (i + 1) S') ∧ (b = false → Stop S')) (hx : xs.length ≤ 1000000) (hk : xs.length < k) (S : HS) (hS : I 0 S) :
    ∃ S', disp k (n + 2) H (.fn (.func 69) [] [.ptr (some (HA.cell0 c))]) [.fn (.yield l) [] []] S = some (.tup [], S') ∧ (I xs.length S' ∨ Stop S') := by
  have hloop : ∀ f i S, xs.length - i < f → i ≤ xs.length → I i S → ∃ S', book_told_int_1.L0 (disp k (n + 1)) H k f (.fn (.yield l) [] []) s (xs.length : Int) (i : Int) S = some ((), S') ∧ (I xs.length S' ∨ Stop S') := by
    intro f
    induction f with
    | zero => intro i S h; omega
    | succ f ih =>
      intro i S hf hi hI
      unfold book_told_int_1.L0
      by_cases hlt : i < xs.length
      · obtain ⟨ad, a1, a2, a3⟩ := en_rows (hrd i S hI) (i := i) hlt
        rw [if_pos (by omega), a1, Option.bind_some, a2, Option.bind_some, a3, Option.bind_some, letv, show HA.cell0 S.next = (⟨S.next, 0, 0⟩ : HA) from rfl, sets_row (new_here S _) rfl (by simp), Option.bind_some]
        have hp : ((S.new (.cells 2 [[.str [], .int .i64 0]] true)).put S.next (.cells 2 ([[HV.str [], .int .i64 0]].set 0 (List.take 0 [HV.str [], .int .i64 0] ++ [.str xs[i].1, .int .i64 xs[i].2] ++ List.drop (0 + [HV.str xs[i].1, .int .i64 xs[i].2].length) [HV.str [], .int .i64 0])) true)).heap S.next = .cells 2 [[.str xs[i].1, .int .i64 xs[i].2]] true := put_here _ _ _
        have hr := cell_row hp
        rw [row_ldS hr rfl rfl, Option.bind_some, row_ldI hr rfl rfl, Option.bind_some]
        have hI2 := hst i S _ hI ((Fr.new (Nat.le_refl _) (.cells 2 [[.str [], .int .i64 0]] true)).trans (Fr.put (Nat.le_refl _) (.cells 2 ([[HV.str [], .int .i64 0]].set 0 (List.take 0 [HV.str [], .int .i64 0] ++ [.str xs[i].1, .int .i64 xs[i].2] ++ List.drop (0 + [HV.str xs[i].1, .int .i64 xs[i].2].length) [HV.str [], .int .i64 0])) true)))
        obtain ⟨b, S2, e2, k1, k2⟩ := hstep i hlt _ hI2
        rw [disp_yield, hl, Option.bind_some, e2, Option.bind_some]
        simp only [dB, Option.bind_some]
        cases b with
        | false => exact ⟨S2, rfl, .inr (k2 rfl)⟩
        | true =>
          rw [if_neg (by simp), w64_id (by omega) (by omega), show ((i : Int) + 1) = ((i + 1 : Nat) : Int) by simp]
          exact ih (i + 1) S2 (by omega) (by omega) (k1 rfl)
      · obtain rfl : i = xs.length := by omega
        rw [if_neg (by omega)]
        exact ⟨S, rfl, .inl hI⟩
  obtain ⟨S', e, h⟩ := hloop k 0 S (by omega) (by omega) hS
  refine ⟨S', ?_, h⟩
  rw [disp_func]
  have hlen : (s.len : Int) = xs.length := by rw [← rows_len (hrd 0 S hS)]; simp
  have e' : call_69 (disp k (n + 1)) H k ([] ++ [HV.fn (.yield l) [] []] ++ [.ptr (some (HA.cell0 c))]) S = some (.tup [], S') := by
    rw [call_69]
    simp only [List.nil_append, List.cons_append, args2, Option.bind_some, dF, dP]
    rw [book_told_int_1.f, Option.bind_some, ldSl_cell (hc 0 S hS), Option.bind_some, hlen]
    erw [e]
    rfl
  simp only [if_true, show ¬ (69 : Nat) = 59 by decide, if_false, e']
end Go.Proofs.Ytlfdaflngmkldaa.X
