/- The layer book: what is gone through, plain. -/
import Derived.Test.YtlfdaflngmkldaaBkOps
namespace Go.Proofs.Ytlfdaflngmkldaa.X
open Go.Proofs.Ytlfdaflngmkldaa.HL
set_option linter.unusedVariables false
theorem all_spec {p : Nat} {s : Sl} {most : Int} {es : List En} {S : HS} (h : BI p s most es S) :
    ∃ c s' S', book_Book_string_All.f (some (HA.cell0 p)) S = some (.fn (.func 56) [] [.ptr (some (HA.cell0 c))], S') ∧ S.next ≤ c ∧ c < S'.next ∧ S'.heap c = .cells 1 [[s'.hv]] true ∧ S'.rows s' 2 = some (es.map enRow) ∧ (∀ q, s'.a = some q → S.next ≤ q.1 ∧ q.1 < S'.next) ∧ Fr S.next S S' := by
  have hcl : ∃ s' S1, slices_Clone_book_entry_string_book_entry_string.f s S = some (s', S1) ∧ S1.rows s' 2 = some (es.map enRow) ∧ (∀ q, s'.a = some q → S.next ≤ q.1 ∧ q.1 < S1.next) ∧ Fr S.next S S1 := by
    unfold slices_Clone_book_entry_string_book_entry_string.f
    have hr := h.ov.rows
    rcases h.ov with ⟨h1, h2, h3⟩ | ⟨id, h1, h2, h3⟩
    · rw [h1, if_pos (by rfl)]
      refine ⟨_, S, rfl, ?_, fun q hq => (by cases hq), Fr.refl _ _⟩
      rw [h3]; rfl
    · have ha : s.a.isNone = false := by rw [h1]; rfl
      rw [if_neg (by simp [ha]), letv]
      have hl := Vec.lit (n := S.next) (z := 2) (S := S) [] (Nat.le_refl _)
      have hr' : (S.lit [] 2).2.rows s 2 = some (es.map enRow) := (h.rd.frame (lit_fr [] (Nat.le_refl _)) (Nat.le_refl _)).rows
      obtain ⟨s', S1, e1, v1, f1⟩ := hl.app (new := es.map enRow) (Nat.le_succ _) (by have := h.cnt; simp; omega)
      rw [hr', Option.bind_some, e1, Option.bind_some]
      rw [List.nil_append] at v1
      exact ⟨s', S1, rfl, v1.rows, v1.lo, (lit_fr [] (Nat.le_refl _)).trans f1⟩
  obtain ⟨s', S1, e1, r1, q1, f1⟩ := hcl
  rw [book_Book_string_All.f, if_neg (by simp), Option.bind_some, row_ldSl h.row rfl rfl, Option.bind_some, e1, Option.bind_some, book_told_string.f, letv, Option.bind_some]
  refine ⟨S1.next, s', _, rfl, f1.le, Nat.lt_succ_self _, new_here _ _, ?_, fun q hq => ⟨(q1 q hq).1, Nat.lt_succ_of_lt (q1 q hq).2⟩, f1.trans (Fr.new f1.le _)⟩
  have hrd : Rd S1.next S1 2 s' (es.map enRow) := ⟨r1, fun q hq => (q1 q hq).2⟩
  exact (hrd.frame (Fr.new (Nat.le_refl _) _) (Nat.le_refl _)).rows
theorem told_tells {k n l c : Nat} {H : Hd} {r : List HV → HS → Option (HV × HS)} {xs : List En} {s : Sl} (hl : H l = some r) (I : Nat → HS → Prop) (Stop : HS → Prop)
    (hst : ∀ i S S', I i S → Fr S.next S S' → I i S') (hc : ∀ i S, I i S → S.heap c = .cells 1 [[s.hv]] true) (hrd : ∀ i S, I i S → S.rows s 2 = some (xs.map enRow))
    (hstep : ∀ i (hi : i < xs.length) S, I i S → ∃ b S', r [.str xs[i].1, .str xs[i].2] S = some (.bool b, S') ∧ (b = true → I (i + 1) S') ∧ (b = false → Stop S')) (hx : xs.length ≤ 1000000) (hk : xs.length < k) (S : HS) (hS : I 0 S) :
    ∃ S', disp k (n + 2) H (.fn (.func 56) [] [.ptr (some (HA.cell0 c))]) [.fn (.yield l) [] []] S = some (.tup [], S') ∧ (I xs.length S' ∨ Stop S') := by
  have hloop : ∀ f i S, xs.length - i < f → i ≤ xs.length → I i S → ∃ S', book_told_string_1.L0 (disp k (n + 1)) H k f (.fn (.yield l) [] []) s (xs.length : Int) (i : Int) S = some ((), S') ∧ (I xs.length S' ∨ Stop S') := by
    intro f
    induction f with
    | zero => intro i S h; omega
    | succ f ih =>
      intro i S hf hi hI
      unfold book_told_string_1.L0
      by_cases hlt : i < xs.length
      · obtain ⟨ad, a1, a2, a3⟩ := en_rows (hrd i S hI) (i := i) hlt
        rw [if_pos (by omega), a1, Option.bind_some, a2, Option.bind_some, a3, Option.bind_some, letv, show HA.cell0 S.next = (⟨S.next, 0, 0⟩ : HA) from rfl, sets_row (new_here S _) rfl (by simp), Option.bind_some]
        have hp : ((S.new (.cells 2 [[.str [], .str []]] true)).put S.next (.cells 2 ([[HV.str [], .str []]].set 0 (List.take 0 [HV.str [], .str []] ++ [.str xs[i].1, .str xs[i].2] ++ List.drop (0 + [HV.str xs[i].1, .str xs[i].2].length) [HV.str [], .str []])) true)).heap S.next = .cells 2 [[.str xs[i].1, .str xs[i].2]] true := put_here _ _ _
        have hr := cell_row hp
        rw [row_ldS hr rfl rfl, Option.bind_some, row_ldS hr rfl rfl, Option.bind_some]
        have hI2 := hst i S _ hI ((Fr.new (Nat.le_refl _) (.cells 2 [[.str [], .str []]] true)).trans (Fr.put (Nat.le_refl _) (.cells 2 ([[HV.str [], .str []]].set 0 (List.take 0 [HV.str [], .str []] ++ [.str xs[i].1, .str xs[i].2] ++ List.drop (0 + [HV.str xs[i].1, .str xs[i].2].length) [HV.str [], .str []])) true)))
        obtain ⟨b, S2, e2, k1, k2⟩ := hstep i hlt _ hI2
        rw [disp_yield, hl, Option.bind_some, e2, Option.bind_some]
        simp only [dB, Option.bind_some]
        cases b with
        | false => exact ⟨S2, rfl, .inr (k2 rfl)⟩
        | true =>
          rw [if_neg (by simp), w64_id (by omega) (by omega), show ((i : Int) + 1) = ((i + 1 : Nat) : Int) by simp]
          exact ih (i + 1) S2 (by omega) (by omega) (k1 rfl)
      · obtain rfl : i = xs.length := by omega
        rw [if_neg (by omega)]
        exact ⟨S, rfl, .inl hI⟩
  obtain ⟨S', e, h⟩ := hloop k 0 S (by omega) (by omega) hS
  refine ⟨S', ?_, h⟩
  rw [disp_func]
  have hlen : (s.len : Int) = xs.length := by rw [← rows_len (hrd 0 S hS)]; simp
  have e' : call_56 (disp k (n + 1)) H k ([] ++ [HV.fn (.yield l) [] []] ++ [.ptr (some (HA.cell0 c))]) S = some (.tup [], S') := by
    rw [call_56]
    simp only [List.nil_append, List.cons_append, args2, Option.bind_some, dF, dP]
    rw [book_told_string_1.f, Option.bind_some, ldSl_cell (hc 0 S hS), Option.bind_some, hlen]
    erw [e]
    rfl
  simp only [if_true, show ¬ (56 : Nat) = 59 by decide, show ¬ (56 : Nat) = 53 by decide, if_false, e']
end Go.Proofs.Ytlfdaflngmkldaa.X
