/- Sets of int, what is told, plain. -/
import Derived.Test.YtdgmehfhgppheaaPsSetS
namespace Go.Proofs.Ytdgmehfhgppheaa.X
open Go.Proofs.Ytdgmehfhgppheaa.HL
set_option linter.unusedVariables false
namespace KI
theorem has_spec {k p : Nat} {s : Sl} {xs : List Ky} {S : HS} (hk : 2000 ≤ k) (h : SI p s xs S) (t : Ky) : set_Set_int_Has.f k (some (HA.cell0 p)) t S = some (decide (t ∈ xs), S) := by
  obtain ⟨j, b1, hp⟩ := bs_spec (t := t) hk h.srt h.cnt h.ov.rows
  rw [set_Set_int_Has.f, if_neg (by simp), Option.bind_some, h.ld, Option.bind_some, b1, Option.bind_some]
theorem list_spec {p : Nat} {s : Sl} {xs : List Ky} {S : HS} (h : SI p s xs S) : ∃ s' S', set_Set_int_List.f (some (HA.cell0 p)) S = some (s', S') ∧ S'.rows s' 1 = some (xs.map row1) ∧ (∀ q, s'.a = some q → S.next ≤ q.1 ∧ q.1 < S'.next) ∧ Fr S.next S S' := by
  rw [set_Set_int_List.f, if_neg (by simp), Option.bind_some, h.ld, Option.bind_some, slices_Clone_int_int.f]
  by_cases ha : s.a.isNone = true
  · rw [if_pos ha, Option.bind_some]
    refine ⟨_, S, rfl, ?_, fun q hq => (by cases hq), Fr.refl _ _⟩
    rw [h.ov.none (by simpa using ha)]; rfl
  · have hcnt := h.cnt
    rw [if_neg ha, letv]
    have hl := Vec.lit (n := S.next) (z := 1) (S := S) [] (Nat.le_refl _)
    have hr' : (S.lit [] 1).2.rows s 1 = some (xs.map row1) := (h.ov.rd.frame (lit_fr [] (Nat.le_refl _)) (Nat.le_refl _)).rows
    obtain ⟨s', S1, e1, v1, f1⟩ := hl.app (new := xs.map row1) (Nat.le_succ _) (by simp; omega)
    rw [hr', Option.bind_some, e1, Option.bind_some, Option.bind_some]
    rw [List.nil_append] at v1
    exact ⟨s', S1, rfl, v1.rows, v1.lo, (lit_fr [] (Nat.le_refl _)).trans f1⟩
theorem values_tells {k n c : Nat} {B : HS} {s : Sl} {xs : List Ky} (hk : xs.length < k) (hx : xs.length ≤ 1000000) (hc : B.heap c = .cells 1 [[s.hv]] true) (hr : B.rows s 1 = some (xs.map row1)) (K : Nat → Prop) (hK : K c ∧ ∀ q, s.a = some q → K q.1) :
    Tells (disp k (n + 2)) (.fn (.func 68) [] [.ptr (some (HA.cell0 c))]) (xs.map row1) K B := by
  intro H l I Stop ht O S hI hB
  have hlen : (xs.map row1).length = xs.length := by simp
  have hcS : S.heap c = .cells 1 [[s.hv]] true := (hB c hK.1).1.trans hc
  have hrS : S.rows s 1 = some (xs.map row1) := rows_keep hr fun q hq => (hB q.1 (hK.2 q hq)).1
  have hloop : ∀ f i O1 T, xs.length - i < f → i ≤ xs.length → I i O1 T → S.next ≤ T.next → (∀ id, id < S.next → ¬ O id → T.heap id = S.heap id) → (∀ id, O1 id → O id ∨ S.next ≤ id) →
      ∃ S' O', slices_Values_int_int_1.L0 (disp k (n + 1)) H k f (.fn (.yield l) [] []) s (xs.length : Int) (i : Int) T = some ((), S') ∧ S.next ≤ S'.next ∧ (∀ id, id < S.next → ¬ O id → S'.heap id = S.heap id) ∧ (∀ id, O' id → O id ∨ S.next ≤ id) ∧ (I xs.length O' S' ∨ Stop O' S') := by
    intro f
    induction f with
    | zero => intro i O1 T h; omega
    | succ f ih =>
      intro i O1 T hf hi hIT hn hk2 hO
      rw [slices_Values_int_int_1.L0]
      by_cases hlt : i < xs.length
      · have hrT : T.rows s 1 = some (xs.map row1) := rows_keep hrS fun q hq => hk2 q.1 (hB q.1 (hK.2 q hq)).2.2 (hB q.1 (hK.2 q hq)).2.1
        obtain ⟨ad, a1, a2⟩ := ldK_at hrT hlt
        obtain ⟨b, T2, O2, e2, n2, k2, o2, g1, g2⟩ := ht.step i (by omega) O1 T hIT
        have he : disp k (n + 1) H (.fn (.yield l) [] []) [.int .i64 xs[i]] T = some (.bool b, T2) := by
          rw [disp_yield, ← e2, List.getElem_map]; rfl
        have hk3 : ∀ id, id < S.next → ¬ O id → T2.heap id = S.heap id := fun id h1 h2 => (k2 id (by omega) (fun ho => (hO id ho).elim h2 (fun h => by omega))).trans (hk2 id h1 h2)
        have hO3 : ∀ id, O2 id → O id ∨ S.next ≤ id := fun id h => (o2 id h).elim (hO id) (fun h => .inr (by omega))
        rw [if_pos (by omega), a1, Option.bind_some, a2, Option.bind_some, he, Option.bind_some]
        simp only [dB, Option.bind_some]
        cases b with
        | false => exact ⟨T2, O2, rfl, by omega, hk3, hO3, .inr (g2 rfl)⟩
        | true =>
          rw [if_neg (by simp), w64_id (by omega) (by omega), show ((i : Int) + 1) = ((i + 1 : Nat) : Int) by simp]
          exact ih (i + 1) O2 T2 (by omega) (by omega) (g1 rfl) (by omega) hk3 hO3
      · obtain rfl : i = xs.length := by omega
        rw [if_neg (by omega)]
        exact ⟨T, O1, rfl, hn, hk2, hO, .inl hIT⟩
  obtain ⟨S', O', e, h1, h2, h3, h4⟩ := hloop k 0 O S (by omega) (Nat.zero_le _) hI (Nat.le_refl _) (fun _ _ _ => rfl) (fun _ h => .inl h)
  refine ⟨S', O', ?_, h1, h2, h3, by rw [hlen]; exact h4⟩
  rw [disp_func]
  have hsl : (s.len : Int) = xs.length := by rw [← rows_len hrS]; simp
  have e' : call_68 (disp k (n + 1)) H k ([] ++ [HV.fn (.yield l) [] []] ++ [.ptr (some (HA.cell0 c))]) S = some (.tup [], S') := by
    rw [call_68]
    simp only [List.nil_append, List.cons_append, args2, Option.bind_some, dF, dP]
    rw [slices_Values_int_int_1.f, Option.bind_some, ldSl_cell hcS, Option.bind_some, hsl]
    erw [e]
    rfl
  repeat rw [if_neg (by decide)]
  rw [if_pos rfl, e']
theorem all_spec {p : Nat} {s : Sl} {xs : List Ky} {S : HS} (h : SI p s xs S) : ∃ c s' S', set_Set_int_All.f (some (HA.cell0 p)) S = some (.fn (.func 68) [] [.ptr (some (HA.cell0 c))], S') ∧ S'.heap c = .cells 1 [[s'.hv]] true ∧ S'.rows s' 1 = some (xs.map row1) ∧ (S.next ≤ c ∧ c < S'.next) ∧ (∀ q, s'.a = some q → S.next ≤ q.1 ∧ q.1 < S'.next) ∧ Fr S.next S S' := by
  obtain ⟨s', S1, e1, r1, q1, f1⟩ := list_spec h
  rw [set_Set_int_All.f, e1, Option.bind_some, slices_Values_int_int.f, letv, Option.bind_some]
  have hrd : Rd S1.next S1 1 s' (xs.map row1) := ⟨r1, fun q hq => (q1 q hq).2⟩
  exact ⟨S1.next, s', _, rfl, new_here _ _, (hrd.frame (Fr.new (Nat.le_refl _) _) (Nat.le_refl _)).rows, ⟨f1.le, Nat.lt_succ_self _⟩, fun q hq => ⟨(q1 q hq).1, Nat.lt_succ_of_lt (q1 q hq).2⟩, f1.trans (Fr.new f1.le _)⟩
/-- One thing more, behind a slice that one alone holds. -/
theorem app1_spec {n : Nat} {S : HS} {s : Sl} {xs : List Ky} (t : Ky) (h : Vec n S 1 s (xs.map row1)) (hn : n ≤ S.next) (hl : xs.length < 1000000) :
    ∃ s' S', HS.app (S.lit [[.int .i64 t]] 1).2 s [[.int .i64 t]] 1 = some (s', S') ∧ (S.lit [[.int .i64 t]] 1).2.rows (S.lit [[.int .i64 t]] 1).1 1 = some [[.int .i64 t]] ∧ Vec n S' 1 s' ((xs ++ [t]).map row1) ∧ Fr n S S' ∧ (∀ id, id < S.next → (∀ q, s.a = some q → q.1 ≠ id) → S'.heap id = S.heap id) ∧ (∀ q, s'.a = some q → S.next ≤ q.1 ∨ ∃ q0, s.a = some q0 ∧ q0.1 = q.1) := by
  have fl : Fr S.next S (S.lit [[.int .i64 t]] 1).2 := lit_fr _ (Nat.le_refl _)
  have nl : (S.lit [[.int .i64 t]] 1).2.next = S.next + 1 := rfl
  obtain ⟨s', S', e1, v1, f1, k1, q1⟩ := (h.frame fl (Nat.le_refl _)).app2 (new := [[.int .i64 t]]) (by omega) (by simp; omega)
  refine ⟨s', S', e1, (Vec.lit (n := 0) (z := 1) (S := S) _ (Nat.zero_le _)).rows, by rw [List.map_append]; exact v1, (fl.mono hn).trans f1, fun id h1 h2 => (k1 id (by omega) h2).trans (fl.eq id h1), fun q hq => ?_⟩
  rcases q1 q hq with g | g
  · exact .inl (by omega)
  · exact .inr g
end KI
end Go.Proofs.Ytdgmehfhgppheaa.X
