/- The layer glob: what a mask means, plain. -/
namespace Go.Proofs.YtgplnlknejbglaaDoor.X
def low (b : UInt8) : UInt8 := if 65 ≤ b.toNat ∧ b.toNat ≤ 93 then b + 32 else if b.toNat = 126 then 94 else b
def oneB (m b : UInt8) : Bool := m == 63 || (m != 42 && low m == low b)
def anyTail (p : List UInt8 → Bool) : List UInt8 → Bool
  | [] => p []
  | b :: s => p (b :: s) || anyTail p s
def M : List UInt8 → List UInt8 → Bool
  | [], s => s.isEmpty
  | c :: m, s => if c = 42 then anyTail (M m) s else match s with
    | [] => false
    | b :: s' => oneB c b && M m s'
theorem anyTail_iff (p : List UInt8 → Bool) (s : List UInt8) : anyTail p s = true ↔ ∃ s1 s2, s = s1 ++ s2 ∧ p s2 = true := by
  induction s with
  | nil =>
    constructor
    · intro h; exact ⟨[], [], rfl, h⟩
    · rintro ⟨s1, s2, h, hp⟩
      have h2 : s2 = [] := (List.append_eq_nil_iff.1 h.symm).2
      subst h2; exact hp
  | cons b s ih =>
    rw [anyTail, Bool.or_eq_true, ih]
    constructor
    · rintro (h | ⟨s1, s2, rfl, hp⟩)
      · exact ⟨[], _, rfl, h⟩
      · exact ⟨b :: s1, s2, rfl, hp⟩
    · rintro ⟨s1, s2, h, hp⟩
      cases s1 with
      | nil => simp at h; subst h; exact .inl hp
      | cons x s1 =>
        simp only [List.cons_append, List.cons.injEq] at h
        exact .inr ⟨s1, s2, h.2, hp⟩
theorem M_star (m s : List UInt8) : M (42 :: m) s = anyTail (M m) s := by cases s <;> rfl
theorem M_star_iff (m s : List UInt8) : M (42 :: m) s = true ↔ ∃ s1 s2, s = s1 ++ s2 ∧ M m s2 = true := by rw [M_star, anyTail_iff]
theorem M_nil (s : List UInt8) : M [] s = s.isEmpty := rfl
theorem M_lit_nil {c : UInt8} (m : List UInt8) (h : c ≠ 42) : M (c :: m) [] = false := by
  show (if c = 42 then anyTail (M m) [] else false) = false
  rw [if_neg h]
theorem M_lit {c : UInt8} (m : List UInt8) (b : UInt8) (s : List UInt8) (h : c ≠ 42) : M (c :: m) (b :: s) = (oneB c b && M m s) := by
  show (if c = 42 then anyTail (M m) (b :: s) else (oneB c b && M m s)) = _
  rw [if_neg h]
theorem M_app (m1 m2 : List UInt8) : ∀ s, M (m1 ++ m2) s = true ↔ ∃ s1 s2, s = s1 ++ s2 ∧ M m1 s1 = true ∧ M m2 s2 = true := by
  induction m1 with
  | nil =>
    intro s
    constructor
    · intro h; exact ⟨[], s, rfl, rfl, h⟩
    · rintro ⟨s1, s2, rfl, h1, h2⟩
      rw [M_nil, List.isEmpty_iff] at h1
      subst h1; exact h2
  | cons c m1 ih =>
    intro s
    by_cases hc : c = 42
    · subst hc
      rw [List.cons_append, M_star_iff]
      constructor
      · rintro ⟨a, b, rfl, h⟩
        obtain ⟨u, v, rfl, h1, h2⟩ := (ih b).1 h
        exact ⟨a ++ u, v, by simp, (M_star_iff _ _).2 ⟨a, u, rfl, h1⟩, h2⟩
      · rintro ⟨s1, s2, rfl, h1, h2⟩
        obtain ⟨a, u, rfl, h3⟩ := (M_star_iff _ _).1 h1
        exact ⟨a, u ++ s2, by simp, (ih _).2 ⟨u, s2, rfl, h3, h2⟩⟩
    · cases s with
      | nil =>
        rw [List.cons_append, M_lit_nil _ hc]
        constructor
        · intro h; cases h
        · rintro ⟨s1, s2, h, h1, h2⟩
          have : s1 = [] := (List.append_eq_nil_iff.1 h.symm).1
          subst this
          rw [M_lit_nil _ hc] at h1; cases h1
      | cons b s =>
        rw [List.cons_append, M_lit _ _ _ hc, Bool.and_eq_true, ih]
        constructor
        · rintro ⟨h, s1, s2, rfl, h1, h2⟩
          exact ⟨b :: s1, s2, rfl, by rw [M_lit _ _ _ hc, h, h1]; rfl, h2⟩
        · rintro ⟨s1, s2, h, h1, h2⟩
          cases s1 with
          | nil => rw [M_lit_nil _ hc] at h1; cases h1
          | cons x s1 =>
            simp only [List.cons_append, List.cons.injEq] at h
            rw [M_lit _ _ _ hc, Bool.and_eq_true] at h1
            obtain ⟨rfl, rfl⟩ := h
            exact ⟨h1.1, s1, s2, rfl, h1.2, h2⟩
/-- A run of signs that are no stars, and what they were held against. -/
inductive Lit : List UInt8 → List UInt8 → Prop
  | nil : Lit [] []
  | cons {c b p q} (h1 : c ≠ 42) (h2 : oneB c b = true) (h : Lit p q) : Lit (c :: p) (b :: q)
theorem Lit.len {p q : List UInt8} (h : Lit p q) : p.length = q.length := by
  induction h with
  | nil => rfl
  | cons _ _ _ ih => simp [ih]
theorem Lit.snoc {p q : List UInt8} (h : Lit p q) {c b : UInt8} (h1 : c ≠ 42) (h2 : oneB c b = true) : Lit (p ++ [c]) (q ++ [b]) := by
  induction h with
  | nil => exact .cons h1 h2 .nil
  | cons g1 g2 _ ih => exact .cons g1 g2 ih
theorem Lit.M {p q : List UInt8} (h : Lit p q) (m s : List UInt8) : X.M (p ++ m) (q ++ s) = X.M m s := by
  induction h with
  | nil => rfl
  | cons h1 h2 _ ih => rw [List.cons_append, List.cons_append, M_lit _ _ _ h1, h2, ih]; rfl
theorem Lit.size {p q : List UInt8} (h : Lit p q) : ∀ (u : List UInt8), X.M p u = true → u.length = p.length := by
  induction h with
  | nil => intro u h; rw [M_nil, List.isEmpty_iff] at h; subst h; rfl
  | cons h1 h2 _ ih =>
    intro u h
    cases u with
    | nil => rw [M_lit_nil _ h1] at h; cases h
    | cons b u =>
      rw [M_lit _ _ _ h1, Bool.and_eq_true] at h
      simp [ih u h.2]
theorem star_more {m a s : List UInt8} (h : M (42 :: m) s = true) : M (42 :: m) (a ++ s) = true := by
  obtain ⟨x, y, rfl, h1⟩ := (M_star_iff _ _).1 h
  exact (M_star_iff _ _).2 ⟨a ++ x, y, by simp, h1⟩
theorem bool_ext {a b : Bool} (h : a = true ↔ b = true) : a = b := by
  cases a <;> cases b <;> simp_all
theorem greedy {p q : List UInt8} (h : Lit p q) (m s : List UInt8) : M (42 :: (p ++ 42 :: m)) (q ++ s) = M (42 :: m) s := by
  apply bool_ext
  constructor
  · intro h1
    obtain ⟨t1, t2, e, h2⟩ := (M_star_iff _ _).1 h1
    obtain ⟨u1, u2, rfl, h3, h4⟩ := (M_app _ _ _).1 h2
    have hl := h.size u1 h3
    have hl2 := h.len
    have e1 : q ++ s = (t1 ++ u1) ++ u2 := by rw [e]; simp
    have hle : q.length ≤ (t1 ++ u1).length := by simp; omega
    obtain ⟨x, hx⟩ : ∃ x, s = x ++ u2 := by
      refine ⟨(t1 ++ u1).drop q.length, ?_⟩
      have := congrArg (List.drop q.length) e1
      rw [List.drop_left, List.drop_append_of_le_length hle] at this
      exact this
    rw [hx]; exact star_more h4
  · intro h1
    exact (M_star_iff _ _).2 ⟨[], q ++ s, rfl, by rw [h.M]; exact h1⟩
theorem last_seg {p q : List UInt8} (h : Lit p q) (m : List UInt8) : M (42 :: (p ++ m)) q = M m [] := by
  apply bool_ext
  constructor
  · intro h1
    obtain ⟨t1, t2, e, h2⟩ := (M_star_iff _ _).1 h1
    obtain ⟨u1, u2, rfl, h3, h4⟩ := (M_app _ _ _).1 h2
    have hl := h.size u1 h3
    have hl2 := h.len
    have hl3 := congrArg List.length e
    simp at hl3
    have ht : u2 = [] := List.length_eq_zero_iff.1 (by omega)
    rw [ht] at h4; exact h4
  · intro h1
    refine (M_star_iff _ _).2 ⟨[], q, rfl, ?_⟩
    have := h.M m []
    rw [List.append_nil] at this
    rw [this]; exact h1
theorem M_stars (m : List UInt8) : M m [] = m.all (· == 42) := by
  induction m with
  | nil => rfl
  | cons c m ih =>
    by_cases hc : c = 42
    · subst hc; rw [M_star, anyTail, ih]; simp
    · rw [M_lit_nil _ hc]; simp [hc]
theorem slide {m : List UInt8} {b : UInt8} {t : List UInt8} (h : M m (b :: t) = false) : M (42 :: m) (b :: t) = M (42 :: m) t := by
  rw [M_star, anyTail, h, Bool.false_or, M_star]
/-! ### by beginnings -/
theorem snoc_inv {α : Type} {a b : List α} {x : α} {s1 : List α} (h : s1 ++ [x] = a ++ b) : b = [] ∨ ∃ b', b = b' ++ [x] ∧ s1 = a ++ b' := by
  rcases List.eq_nil_or_concat b with rfl | ⟨b', y, rfl⟩
  · exact .inl rfl
  · right
    rw [List.concat_eq_append, ← List.append_assoc] at h
    have := List.append_inj' h rfl
    obtain ⟨h1, h2⟩ := this
    simp at h2
    subst h2
    exact ⟨b', by simp, h1⟩
theorem M_snoc_star_nil (m : List UInt8) : M (m ++ [42]) [] = M m [] := by rw [M_stars, M_stars]; simp
theorem M_snoc_star (m s : List UInt8) (b : UInt8) : M (m ++ [42]) (s ++ [b]) = (M m (s ++ [b]) || M (m ++ [42]) s) := by
  apply bool_ext
  rw [Bool.or_eq_true, M_app, M_app]
  have any : ∀ t, M [42] t = true := fun t => (M_star_iff _ _).2 ⟨t, [], by simp, rfl⟩
  constructor
  · rintro ⟨s1, s2, e, h1, h2⟩
    rcases snoc_inv e with rfl | ⟨s2', rfl, e2⟩
    · rw [List.append_nil] at e; rw [e]; exact .inl h1
    · exact .inr ⟨s1, s2', e2, h1, any _⟩
  · rintro (h | ⟨s1, s2, rfl, h1, h2⟩)
    · exact ⟨s ++ [b], [], by simp, h, any _⟩
    · exact ⟨s1, s2 ++ [b], by simp, h1, any _⟩
theorem M_snoc_lit_nil (m : List UInt8) {c : UInt8} (h : c ≠ 42) : M (m ++ [c]) [] = false := by rw [M_stars]; simp [h]
theorem M_snoc_lit (m s : List UInt8) {c : UInt8} (b : UInt8) (h : c ≠ 42) : M (m ++ [c]) (s ++ [b]) = (M m s && oneB c b) := by
  apply bool_ext
  rw [Bool.and_eq_true, M_app]
  constructor
  · rintro ⟨s1, s2, e, h1, h2⟩
    cases s2 with
    | nil => rw [M_lit_nil _ h] at h2; cases h2
    | cons x s2 =>
      rw [M_lit _ _ _ h, Bool.and_eq_true, M_nil, List.isEmpty_iff] at h2
      obtain ⟨h2, rfl⟩ := h2
      have := List.append_inj' e rfl
      obtain ⟨rfl, h3⟩ := this
      simp at h3
      subst h3
      exact ⟨h1, h2⟩
  · rintro ⟨h1, h2⟩
    exact ⟨s, [b], rfl, h1, by rw [M_lit _ _ _ h, h2]; rfl⟩
end Go.Proofs.YtgplnlknejbglaaDoor.X
