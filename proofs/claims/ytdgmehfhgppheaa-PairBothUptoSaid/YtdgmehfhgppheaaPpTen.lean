/- The document's lists of numbers, plain. -/
import Derived.Test.YtdgmehfhgppheaaPpRef
namespace Go.Proofs.Ytdgmehfhgppheaa.X
open Go.Proofs.Ytdgmehfhgppheaa.HL
set_option linter.unusedVariables false
namespace KI
theorem refHas_spec {k : Nat} {s : Sl} {xs : List Ky} {t : Ky} {S : HS} (h : S.rows s 1 = some (xs.map row1)) (hl : xs.length < k) (hl2 : xs.length ≤ 1000000) : rollcallref10_Has.f k s t S = some (decide (t ∈ xs), S) := by
  have hsl : (s.len : Int) = xs.length := by rw [← rows_len h]; simp
  have hloop : ∀ f i, xs.length - i < f → i ≤ xs.length → rollcallref10_Has.L0 k f s t (i : Int) S = some (decide (t ∈ xs.drop i), S) := by
    intro f
    induction f with
    | zero => intro i h; omega
    | succ f ih =>
      intro i hf hi
      rw [rollcallref10_Has.L0, hsl]
      by_cases hlt : i < xs.length
      · obtain ⟨ad, a1, a2⟩ := ldK_at h hlt
        rw [if_pos (by omega), a1, Option.bind_some, a2, Option.bind_some, List.drop_eq_getElem_cons hlt]
        by_cases he : xs[i] = t
        · rw [if_pos he, decide_eq_true (by simp [he])]
        · rw [if_neg he, w64_id (by omega) (by omega), show ((i : Int) + 1) = ((i + 1 : Nat) : Int) by simp, ih (i + 1) (by omega) (by omega)]
          have : (t ∈ xs[i] :: xs.drop (i + 1)) ↔ t ∈ xs.drop (i + 1) := by
            rw [List.mem_cons]; exact ⟨fun h => h.elim (fun e => absurd e.symm he) id, .inr⟩
          simp only [this]
      · rw [if_neg (by omega), List.drop_of_length_le (by omega), decide_eq_false (by simp)]
  rw [rollcallref10_Has.f]
  exact (hloop k 0 (by omega) (Nat.zero_le _)).trans (by rw [List.drop_zero])
theorem refSame_spec {k : Nat} {s s' : Sl} {xs ys : List Ky} {S : HS} (h : S.rows s 1 = some (xs.map row1)) (h' : S.rows s' 1 = some (ys.map row1)) (hl : xs.length < k) (hl2 : xs.length ≤ 1000000) : rollcallref10_Same.f k s s' S = some (decide (xs = ys), S) := by
  have hsl : (s.len : Int) = xs.length := by rw [← rows_len h]; simp
  have hsl' : (s'.len : Int) = ys.length := by rw [← rows_len h']; simp
  rw [rollcallref10_Same.f, hsl, hsl']
  by_cases hle : xs.length = ys.length
  · rw [if_neg (by simp [hle])]
    have hloop : ∀ f i, xs.length - i < f → i ≤ xs.length → xs.take i = ys.take i → rollcallref10_Same.L0 k f s s' (i : Int) S = some (decide (xs = ys), S) := by
      intro f
      induction f with
      | zero => intro i h; omega
      | succ f ih =>
        intro i hf hi ht
        rw [rollcallref10_Same.L0, hsl]
        by_cases hlt : i < xs.length
        · obtain ⟨ad, a1, a2⟩ := ldK_at h hlt
          obtain ⟨ad', b1, b2⟩ := ldK_at h' (i := i) (by omega)
          rw [if_pos (by omega), a1, Option.bind_some, a2, Option.bind_some, b1, Option.bind_some, b2, Option.bind_some]
          by_cases he : xs[i] = ys[i]'(by omega)
          · rw [if_neg (by simpa using he), w64_id (by omega) (by omega), show ((i : Int) + 1) = ((i + 1 : Nat) : Int) by simp]
            refine ih (i + 1) (by omega) (by omega) ?_
            rw [List.take_succ_eq_append_getElem hlt, List.take_succ_eq_append_getElem (by omega), ht, he]
          · rw [if_pos (by simpa using he), decide_eq_false (fun e => he (by subst e; rfl))]
        · rw [if_neg (by omega), decide_eq_true]
          rw [List.take_of_length_le (by omega), List.take_of_length_le (by omega)] at ht
          exact ht
    exact hloop k 0 (by omega) (Nat.zero_le _) (by simp)
  · rw [if_pos (by simpa using fun h => hle (by exact_mod_cast h)), decide_eq_false (fun e => hle (by rw [e]))]
/-- A number is put into a list. -/
def addG (t : Ky) : List Ky → Bool → List Ky
  | [], true => []
  | [], false => [t]
  | x :: xs, true => x :: addG t xs true
  | x :: xs, false => if x > t then t :: x :: addG t xs true else x :: addG t xs false
def addL (t : Ky) (xs : List Ky) : List Ky := if t ∈ xs then xs else addG t xs false
theorem addG_true (t : Ky) : ∀ xs, addG t xs true = xs := by
  intro xs
  induction xs with
  | nil => rfl
  | cons x xs ih => rw [addG, ih]
theorem addG_mem (t v : Ky) : ∀ xs, v ∈ addG t xs false ↔ v = t ∨ v ∈ xs := by
  intro xs
  induction xs with
  | nil => simp [addG]
  | cons x xs ih =>
    rw [addG]
    split
    · rw [addG_true]; simp
    · rw [List.mem_cons, ih, List.mem_cons]
      constructor
      · rintro (h | h | h)
        · exact .inr (.inl h)
        · exact .inl h
        · exact .inr (.inr h)
      · rintro (h | h | h)
        · exact .inr (.inl h)
        · exact .inl h
        · exact .inr (.inr h)
theorem addL_mem (t v : Ky) (xs : List Ky) : v ∈ addL t xs ↔ v = t ∨ v ∈ xs := by
  unfold addL
  split
  · rename_i h; exact ⟨.inr, fun g => g.elim (fun e => e ▸ h) id⟩
  · exact addG_mem t v xs
theorem addG_srt {t : Ky} : ∀ {xs}, Srt xs → t ∉ xs → Srt (addG t xs false) := by
  intro xs
  induction xs with
  | nil => intro _ _; exact List.pairwise_singleton _ _
  | cons x xs ih =>
    intro h hn
    have h' := List.pairwise_cons.1 h
    simp only [List.mem_cons, not_or] at hn
    rw [addG]
    split
    · rename_i hx
      rw [addG_true]
      refine List.pairwise_cons.2 ⟨fun b hb => ?_, h⟩
      have hx' : klt t x = true := decide_eq_true hx
      rcases List.mem_cons.1 hb with rfl | g
      · exact hx'
      · exact klt_trans hx' (h'.1 b g)
    · rename_i hx
      refine List.pairwise_cons.2 ⟨fun b hb => ?_, ih h'.2 hn.2⟩
      rcases (addG_mem t b xs).1 hb with rfl | g
      · rcases klt_tri x b with g | g | g
        · exact g
        · exact absurd g.symm hn.1
        · exact absurd (of_decide_eq_true g) hx
      · exact h'.1 b g
theorem addL_srt {t : Ky} {xs : List Ky} (h : Srt xs) : Srt (addL t xs) := by
  unfold addL
  split
  · exact h
  · rename_i hn; exact addG_srt h hn
theorem addG_len (t : Ky) : ∀ xs, (addG t xs false).length = xs.length + 1 := by
  intro xs
  induction xs with
  | nil => rfl
  | cons x xs ih =>
    rw [addG]
    split
    · rw [addG_true]; rfl
    · rw [List.length_cons, ih]; rfl
theorem addL_len (t : Ky) (xs : List Ky) : (addL t xs).length ≤ xs.length + 1 ∧ xs.length ≤ (addL t xs).length := by
  unfold addL
  split
  · exact ⟨by omega, Nat.le_refl _⟩
  · rw [addG_len]; exact ⟨Nat.le_refl _, by omega⟩
theorem refAdd_spec {k : Nat} {s : Sl} {xs : List Ky} {t : Ky} {S : HS} (h : Rd S.next S 1 s (xs.map row1)) (hl : xs.length < k) (hl2 : xs.length < 100000) :
    ∃ s' S', rollcallref10_Add.f k s t S = some (s', S') ∧ Rd S'.next S' 1 s' ((addL t xs).map row1) ∧ Fr S.next S S' ∧ (s' = s ∨ ∀ q, s'.a = some q → S.next ≤ q.1) := by
  rw [rollcallref10_Add.f, refHas_spec h.rows hl (by omega), Option.bind_some]
  by_cases hm : t ∈ xs
  · rw [if_pos (decide_eq_true hm)]
    refine ⟨s, S, rfl, ?_, Fr.refl _ _, .inl rfl⟩
    unfold addL
    rw [if_pos hm]
    exact h
  · rw [if_neg (by simpa using hm)]
    have hsl : (s.len : Int) = xs.length := by rw [h.len]; simp
    have hloop : ∀ f i d o T pre, xs.length - i < f → i ≤ xs.length → Vec S.next T 1 o (pre.map row1) → Fr S.next S T → pre.length ≤ 2 * i →
        ∃ s' S', rollcallref10_Add.L0 k f s t o d (i : Int) T = some (s', S') ∧ Vec S.next S' 1 s' ((pre ++ addG t (xs.drop i) d).map row1) ∧ Fr S.next S S' := by
      intro f
      induction f with
      | zero => intro i d o T pre h; omega
      | succ f ih =>
        intro i d o T pre hf hi hv hfr hpl
        have hnT := hfr.le
        rw [rollcallref10_Add.L0, hsl]
        have hJ3 : ∀ o2 T2 (ys : List Ky), Vec S.next T2 1 o2 (ys.map row1) → Fr S.next S T2 → ∃ s' S', rollcallref10_Add.J3 k o2 T2 = some (s', S') ∧ Vec S.next S' 1 s' (ys.map row1) ∧ Fr S.next S S' := fun o2 T2 ys h1 h2 => ⟨o2, T2, rfl, h1, h2⟩
        by_cases hlt : i < xs.length
        · have hJ2 : ∀ d2 o2 T2 pre2, Vec S.next T2 1 o2 (pre2.map row1) → Fr S.next S T2 → pre2.length ≤ 2 * i + 1 →
              ∃ s' S', rollcallref10_Add.J2 k (rollcallref10_Add.L0 k f) s t o2 d2 (i : Int) T2 = some (s', S') ∧ Vec S.next S' 1 s' ((pre2 ++ xs[i] :: addG t (xs.drop (i + 1)) d2).map row1) ∧ Fr S.next S S' := by
            intro d2 o2 T2 pre2 h1 h2 h3
            obtain ⟨ad, a1, a2⟩ := ldK_at (h.frame h2 (Nat.le_refl _)).rows hlt
            have := h2.le
            obtain ⟨o3, T3, e3, r3, v3, f3, _⟩ := app1_spec xs[i] h1 (by omega) (by omega)
            rw [rollcallref10_Add.J2, a1, Option.bind_some, a2, Option.bind_some, letv, r3, Option.bind_some, e3, Option.bind_some, w64_id (by omega) (by omega), show ((i : Int) + 1) = ((i + 1 : Nat) : Int) by simp]
            obtain ⟨s', S', e4, v4, f4⟩ := ih (i + 1) d2 o3 T3 (pre2 ++ [xs[i]]) (by omega) (by omega) v3 (h2.trans f3) (by simp; omega)
            exact ⟨s', S', e4, by simpa using v4, f4⟩
          obtain ⟨ad, a1, a2⟩ := ldK_at (h.frame hfr (Nat.le_refl _)).rows hlt
          rw [if_pos (by omega), List.drop_eq_getElem_cons hlt]
          cases d with
          | true =>
            rw [if_neg (by simp), rollcallref10_Add.J1, if_neg (by simp), addG]
            exact hJ2 true o T pre hv hfr (by omega)
          | false =>
            rw [if_pos (by rfl), a1, Option.bind_some, a2, Option.bind_some, rollcallref10_Add.J1, addG]
            by_cases hx : xs[i] > t
            · obtain ⟨o3, T3, e3, r3, v3, f3, _⟩ := app1_spec t hv (by omega) (by omega)
              rw [if_pos (decide_eq_true hx), if_pos hx, letv, r3, Option.bind_some, e3, Option.bind_some]
              obtain ⟨s', S', e4, v4, f4⟩ := hJ2 true o3 T3 _ v3 (hfr.trans f3) (by simp; omega)
              exact ⟨s', S', e4, by simpa using v4, f4⟩
            · rw [if_neg (by simpa using hx), if_neg hx]
              exact hJ2 false o T pre hv hfr (by omega)
        · rw [if_neg (by omega), List.drop_of_length_le (by omega)]
          cases d with
          | true => rw [if_neg (by simp)]; exact hJ3 o T _ (by simpa [addG] using hv) hfr
          | false =>
            obtain ⟨o3, T3, e3, r3, v3, f3, _⟩ := app1_spec t hv (by omega) (by omega)
            rw [if_pos (by rfl), letv, r3, Option.bind_some, e3, Option.bind_some]
            exact hJ3 o3 T3 _ v3 (hfr.trans f3)
    obtain ⟨s', S', e, v, f⟩ := hloop k 0 false Sl.nil S [] (by omega) (Nat.zero_le _) .nil (Fr.refl _ _) (by simp)
    refine ⟨s', S', e, ?_, f, .inr fun q hq => (v.lo q hq).1⟩
    have := v.rd
    simpa [addL, hm] using this
end KI
end Go.Proofs.Ytdgmehfhgppheaa.X
