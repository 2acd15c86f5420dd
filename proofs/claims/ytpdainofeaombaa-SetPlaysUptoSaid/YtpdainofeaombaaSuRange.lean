/- A range over what is told, in general. -/
import Derived.Test.YtpdainofeaombaaSuUni
namespace Go.Proofs.Ytpdainofeaombaa.X
open Go.Proofs.Ytpdainofeaombaa.HL
set_option linter.unusedVariables false
/-- A change: off O nothing that stood is another; what is held then was held, or is new. -/
structure Chg (O O' : Nat → Prop) (S S' : HS) : Prop where
  le : S.next ≤ S'.next
  eq : ∀ id, id < S.next → ¬ O id → S'.heap id = S.heap id
  own : ∀ id, O' id → O id ∨ S.next ≤ id
theorem Chg.refl (O : Nat → Prop) (S : HS) : Chg O O S S := ⟨Nat.le_refl _, fun _ _ _ => rfl, fun _ h => .inl h⟩
theorem Chg.trans {O O' O'' : Nat → Prop} {S S' S'' : HS} (h : Chg O O' S S') (k : Chg O' O'' S' S'') : Chg O O'' S S'' :=
  ⟨Nat.le_trans h.le k.le, fun id h1 h2 => (k.eq id (Nat.lt_of_lt_of_le h1 h.le) (fun ho => (h.own id ho).elim h2 (fun h3 => by omega))).trans (h.eq id h1 h2), fun id ho => by
    rcases k.own id ho with h1 | h1
    · exact h.own id h1
    · have := h.le; exact .inr (by omega)⟩
theorem Chg.of_fr {O : Nat → Prop} {S S' : HS} (h : Fr S.next S S') : Chg O O S S' := ⟨h.le, fun id h1 _ => h.eq id h1, fun _ ho => .inl ho⟩
theorem Only.chg {p : Nat} {s s' : Sl} {S S' : HS} (h : Only p s s' S S') : Chg (Own p s) (Own p s') S S' := ⟨h.le, h.eq, h.own⟩
theorem range_tells {D : Dp} {H : Hd} {fv : HV} {vs : List (List HV)} {K : Nat → Prop} {S : HS} {hd : List HV → HS → Option (HV × HS)} {bd : Nat → HS → Option (HV × HS)}
    (hT : Tells D fv vs K S) (hK : ∀ id, K id → id < S.next) (I : Nat → (Nat → Prop) → HS → Prop) (Q : Code → (Nat → Prop) → HS → Prop)
    (keepI : ∀ i O T T', I i O T → (∀ id, O id → T'.heap id = T.heap id) → T.next ≤ T'.next → I i O T')
    (keepQ : ∀ c O T T', Q c O T → (∀ id, O id → T'.heap id = T.heap id) → T.next ≤ T'.next → Q c O T')
    (O : Nat → Prop) (hO : ∀ id, O id → id < S.next) (hI : I 0 O S) (hOK : ∀ id, O id → ¬ K id)
    (hdef : ∀ i (hi : i < vs.length) T, T.heap (S.next + 1) = .loop .ready none → hd vs[i] T = bd i (T.put (S.next + 1) (.loop .busy none)))
    (step : ∀ i (hi : i < vs.length) O1 U, I i O1 U → S.next + 2 ≤ U.next → U.heap (S.next + 1) = .loop .busy none → ¬ O1 (S.next + 1) → (∀ id, O1 id → id < U.next) →
      ∃ U' O2 j, bd i U = U'.endr (S.next + 1) j ∧ Chg O1 O2 U U' ∧ (∀ id, O2 id → id < U'.next) ∧ (j = none → I (i + 1) O2 U') ∧ ∀ c, j = some c → Q c O2 U') :
    ∃ T st S' O', D (Hd.set H (S.next + 1) hd) fv [.fn (.yield (S.next + 1)) [] []] ((S.new .defer).new (.loop .ready none)) = some (.tup [], T) ∧ T.finish (S.next + 1) = some (st, S') ∧ S'.heap S.next = .defer ∧ S.next + 2 ≤ S'.next ∧
      Chg O O' S S' ∧ (∀ id, O' id → id ≠ S.next ∧ id ≠ S.next + 1 ∧ id < S'.next) ∧ (st = none → I vs.length O' S') ∧ (∀ c, st = some c → Q c O' S') := by
  have f2 : Fr S.next S ((S.new .defer).new (.loop .ready none)) := (Fr.new (Nat.le_refl _) _).trans (Fr.new (by rw [new_next]; omega) _)
  have n2 : ((S.new .defer).new (.loop .ready none)).next = S.next + 2 := rfl
  have d2 : ((S.new .defer).new (.loop .ready none)).heap S.next = .defer := by rw [new_old _ (by rw [new_next]; omega)]; exact new_here _ _
  have l2 : ((S.new .defer).new (.loop .ready none)).heap (S.next + 1) = .loop .ready none := new_here (S.new .defer) _
  generalize (S.new .defer).new (.loop .ready none) = S0 at f2 n2 d2 l2 ⊢
  let J : Nat → (Nat → Prop) → HS → Prop := fun i OO T => ∃ O1, (∀ id, OO id ↔ (O1 id ∨ id = S.next ∨ id = S.next + 1)) ∧ (∀ id, O1 id → id ≠ S.next ∧ id ≠ S.next + 1 ∧ id < T.next ∧ (O id ∨ S.next + 2 ≤ id)) ∧ I i O1 T ∧ T.heap S.next = .defer ∧ T.heap (S.next + 1) = .loop .ready none ∧ S.next + 2 ≤ T.next
  let St : (Nat → Prop) → HS → Prop := fun OO T => ∃ O1 c, (∀ id, OO id ↔ (O1 id ∨ id = S.next ∨ id = S.next + 1)) ∧ (∀ id, O1 id → id ≠ S.next ∧ id ≠ S.next + 1 ∧ id < T.next ∧ (O id ∨ S.next + 2 ≤ id)) ∧ Q c O1 T ∧ T.heap S.next = .defer ∧ T.heap (S.next + 1) = .loop .done (some c) ∧ S.next + 2 ≤ T.next
  have hO' : ∀ id, O id → id ≠ S.next ∧ id ≠ S.next + 1 ∧ id < S0.next := fun id h => by have := hO id h; omega
  obtain ⟨T, O', e, t1, t2, t3, t4⟩ := hT (Hd.set H (S.next + 1) hd) (S.next + 1) J St (by
      refine ⟨fun i OO T T' h hk hn => ?_, fun OO T T' h hk hn => ?_, fun i OO T h id ho => ?_, fun OO T h id ho => ?_, fun i hi OO T h => ?_⟩
      · obtain ⟨O1, a1, a2, a3, a4, a5, a6⟩ := h
        exact ⟨O1, a1, fun id ho => ⟨(a2 id ho).1, (a2 id ho).2.1, by have := (a2 id ho).2.2.1; omega, (a2 id ho).2.2.2⟩, keepI _ _ _ _ a3 (fun id ho => hk id ((a1 id).2 (.inl ho))) hn, (hk _ ((a1 _).2 (.inr (.inl rfl)))).trans a4, (hk _ ((a1 _).2 (.inr (.inr rfl)))).trans a5, by omega⟩
      · obtain ⟨O1, c, a1, a2, a3, a4, a5, a6⟩ := h
        exact ⟨O1, c, a1, fun id ho => ⟨(a2 id ho).1, (a2 id ho).2.1, by have := (a2 id ho).2.2.1; omega, (a2 id ho).2.2.2⟩, keepQ _ _ _ _ a3 (fun id ho => hk id ((a1 id).2 (.inl ho))) hn, (hk _ ((a1 _).2 (.inr (.inl rfl)))).trans a4, (hk _ ((a1 _).2 (.inr (.inr rfl)))).trans a5, by omega⟩
      · obtain ⟨O1, a1, a2, a3, a4, a5, a6⟩ := h
        rcases (a1 id).1 ho with g | g | g
        · exact (a2 id g).2.2.1
        · omega
        · omega
      · obtain ⟨O1, c, a1, a2, a3, a4, a5, a6⟩ := h
        rcases (a1 id).1 ho with g | g | g
        · exact (a2 id g).2.2.1
        · omega
        · omega
      · obtain ⟨O1, a1, a2, a3, a4, a5, a6⟩ := h
        simp only [Hd.set, if_true, Option.bind_some]
        rw [hdef i hi T a5]
        have bk : ∀ id, id ≠ S.next + 1 → (T.put (S.next + 1) (.loop .busy none)).heap id = T.heap id := fun id h => put_other _ h
        have bn : (T.put (S.next + 1) (.loop .busy none)).next = T.next := rfl
        have bl : (T.put (S.next + 1) (.loop .busy none)).heap (S.next + 1) = .loop .busy none := put_here _ _ _
        generalize T.put (S.next + 1) (.loop .busy none) = U at bk bn bl ⊢
        obtain ⟨U', O2, j, e1, c1, l1, p1, p2⟩ := step i hi O1 U (keepI _ _ _ _ a3 (fun id ho => bk id (a2 id ho).2.1) (by omega)) (by omega) bl (fun h => (a2 _ h).2.1 rfl) (fun id h => by have := (a2 id h).2.2.1; omega)
        have ul : U'.heap (S.next + 1) = .loop .busy none := (c1.eq _ (by omega) (fun h => (a2 _ h).2.1 rfl)).trans bl
        have ud : U'.heap S.next = .defer := (c1.eq _ (by omega) (fun h => (a2 _ h).1 rfl)).trans ((bk _ (by omega)).trans a4)
        have hle := c1.le
        have h2 : ∀ id, O2 id → id ≠ S.next ∧ id ≠ S.next + 1 ∧ id < U'.next ∧ (O id ∨ S.next + 2 ≤ id) := fun id h => by
          rcases c1.own id h with g | g
          · exact ⟨(a2 id g).1, (a2 id g).2.1, l1 id h, (a2 id g).2.2.2⟩
          · exact ⟨by omega, by omega, l1 id h, .inr (by omega)⟩
        rw [e1, endr_at j ul]
        refine ⟨j.isNone, _, fun id => O2 id ∨ id = S.next ∨ id = S.next + 1, rfl, by rw [put_next]; omega, fun id g1 g2 => ?_, fun id h => ?_, fun hj => ?_, fun hj => ?_⟩
        · have g3 : ¬ O1 id := fun h => g2 ((a1 id).2 (.inl h))
          have g4 : id ≠ S.next + 1 := fun h => g2 ((a1 id).2 (.inr (.inr h)))
          rw [put_other _ g4, c1.eq id (by omega) g3, bk id g4]
        · rcases h with h | h
          · rcases c1.own id h with g | g
            · exact .inl ((a1 id).2 (.inl g))
            · exact .inr (by omega)
          · exact .inl ((a1 id).2 (.inr h))
        · have hj' : j = none := by simpa using hj
          subst hj'
          exact ⟨O2, fun _ => Iff.rfl, h2, keepI _ _ _ _ (p1 rfl) (fun id h => put_other _ (h2 id h).2.1) (Nat.le_refl _), by rw [put_other _ (by omega)]; exact ud, put_here _ _ _, by rw [put_next]; omega⟩
        · cases j with
          | none => cases hj
          | some c => exact ⟨O2, c, fun _ => Iff.rfl, h2, keepQ _ _ _ _ (p2 c rfl) (fun id h => put_other _ (h2 id h).2.1) (Nat.le_refl _), by rw [put_other _ (by omega)]; exact ud, put_here _ _ _, by rw [put_next]; omega⟩)
    (fun id => O id ∨ id = S.next ∨ id = S.next + 1) S0 ⟨O, fun _ => Iff.rfl, fun id h => ⟨(hO' id h).1, (hO' id h).2.1, (hO' id h).2.2, .inl h⟩, keepI _ _ _ _ hI (fun id h => f2.eq id (hO id h)) f2.le, d2, l2, by omega⟩ (fun id hid => ⟨f2.eq id (hK id hid), fun ho => by
      have := hK id hid
      rcases ho with g | g | g
      · exact hOK id g hid
      · omega
      · omega, by have := hK id hid; omega⟩)
  have hfr : ∀ id, id < S.next → ¬ O id → T.heap id = S.heap id := fun id h1 h2 => (t2 id (by omega) (fun ho => by
    rcases ho with g | g | g
    · exact h2 g
    · omega
    · omega)).trans (f2.eq id h1)
  rcases t4 with h | h
  · obtain ⟨O1, a1, a2, a3, a4, a5, a6⟩ := h
    refine ⟨T, none, T.put (S.next + 1) (.loop .exhausted none), O1, e, by simp [HS.finish, a5], by rw [put_other _ (by omega)]; exact a4, a6, ⟨by rw [put_next]; omega, fun id h1 h2 => by rw [put_other _ (by omega)]; exact hfr id h1 h2, fun id h => (a2 id h).2.2.2.elim .inl (fun g => .inr (by omega))⟩, fun id h => ⟨(a2 id h).1, (a2 id h).2.1, (a2 id h).2.2.1⟩, fun _ => keepI _ _ _ _ a3 (fun id h => put_other _ (a2 id h).2.1) (Nat.le_refl _), fun c hc => by cases hc⟩
  · obtain ⟨O1, c, a1, a2, a3, a4, a5, a6⟩ := h
    refine ⟨T, some c, T.put (S.next + 1) (.loop .exhausted (some c)), O1, e, by simp [HS.finish, a5], by rw [put_other _ (by omega)]; exact a4, a6, ⟨by rw [put_next]; omega, fun id h1 h2 => by rw [put_other _ (by omega)]; exact hfr id h1 h2, fun id h => (a2 id h).2.2.2.elim .inl (fun g => .inr (by omega))⟩, fun id h => ⟨(a2 id h).1, (a2 id h).2.1, (a2 id h).2.2.1⟩, fun hc => (by cases hc), fun c' hc => ?_⟩
    cases hc
    exact keepQ _ _ _ _ a3 (fun id h => put_other _ (a2 id h).2.1) (Nat.le_refl _)
end Go.Proofs.Ytpdainofeaombaa.X
