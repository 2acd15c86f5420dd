/- The layer set: Meet and Without, plain. -/
import Derived.Test.YtpdainofeaombaaSuRange
namespace Go.Proofs.Ytpdainofeaombaa.X
open Go.Proofs.Ytpdainofeaombaa.HL
set_option linter.unusedVariables false
namespace KI
/-- A set, or none. -/
def SO (p : Option Nat) (xs : List Ky) (S : HS) : Prop := match p with | none => xs = [] | some p => ∃ s, SI p s xs S
theorem SO.loc {p : Option Nat} {xs : List Ky} {S : HS} (h : SO p xs S) : ∃ OS : Nat → Prop, (∀ id, OS id → id < S.next) ∧ ∀ U : HS, (∀ id, OS id → U.heap id = S.heap id) → S.next ≤ U.next → SO p xs U := by
  cases p with
  | none => exact ⟨fun _ => False, fun _ h => h.elim, fun _ _ _ => h⟩
  | some p => obtain ⟨s, h⟩ := h; exact ⟨Own p s, fun id ho => h.lt ho, fun U hk hn => ⟨s, h.keep hk hn⟩⟩
theorem SO.fr {p : Option Nat} {xs : List Ky} {S S' : HS} (h : SO p xs S) (hf : Fr S.next S S') : SO p xs S' := by
  cases p with
  | none => exact h
  | some p => obtain ⟨s, h⟩ := h; exact ⟨s, h.fr hf⟩
theorem all_opt {p : Option Nat} {xs : List Ky} {S : HS} (h : SO p xs S) : ∃ c s' S', set_Set_int_All.f (p.map HA.cell0) S = some (.fn (.func 35) [] [.ptr (some (HA.cell0 c))], S') ∧ S'.heap c = .cells 1 [[s'.hv]] true ∧ S'.rows s' 1 = some (xs.map row1) ∧ (S.next ≤ c ∧ c < S'.next) ∧ (∀ q, s'.a = some q → S.next ≤ q.1 ∧ q.1 < S'.next) ∧ Fr S.next S S' := by
  cases p with
  | some p => obtain ⟨s, h⟩ := h; exact all_spec h
  | none =>
    simp only [SO] at h
    subst h
    rw [set_Set_int_All.f, Option.map_none, set_Set_int_List.f, if_pos (by rfl), Option.bind_some, slices_Values_int_int.f, letv, Option.bind_some]
    exact ⟨S.next, _, _, rfl, new_here _ _, rfl, ⟨Nat.le_refl _, Nat.lt_succ_self _⟩, fun q hq => (by cases hq), Fr.new (Nat.le_refl _) _⟩
theorem has_opt {k : Nat} {p : Option Nat} {xs : List Ky} {S : HS} (hk : 2000 ≤ k) (h : SO p xs S) (t : Ky) : set_Set_int_Has.f k (p.map HA.cell0) t S = some (decide (t ∈ xs), S) := by
  cases p with
  | some p => obtain ⟨s, h⟩ := h; exact has_spec hk h t
  | none => simp only [SO] at h; subst h; rw [set_Set_int_Has.f, Option.map_none, if_pos (by rfl)]; simp
theorem meet_spec {n : Nat} {a b : Option Nat} {xs ys : List Ky} {S : HS} (ha : SO a xs S) (hb : SO b ys S) (hx : xs.length ≤ 1000) :
    ∃ S', set_Meet_int.f (disp 2000 (n + 2)) (fun _ => none) 2000 (a.map HA.cell0) (b.map HA.cell0) S = some (decide (∃ v, v ∈ xs ∧ v ∈ ys), S') ∧ Fr S.next S S' := by
  rw [set_Meet_int.f, letv, letv]
  have n2 : ((S.new (.cells 1 [[.ptr (b.map HA.cell0)]] true)).new (.cells 1 [[.bool false]] true)).next = S.next + 2 := rfl
  have f2 : Fr S.next S ((S.new (.cells 1 [[.ptr (b.map HA.cell0)]] true)).new (.cells 1 [[.bool false]] true)) := (Fr.new (Nat.le_refl _) _).trans (Fr.new (by rw [new_next]; omega) _)
  have c0 : ((S.new (.cells 1 [[.ptr (b.map HA.cell0)]] true)).new (.cells 1 [[.bool false]] true)).heap S.next = .cells 1 [[.ptr (b.map HA.cell0)]] true := by rw [new_old _ (by rw [new_next]; omega)]; exact new_here _ _
  have c1 : ((S.new (.cells 1 [[.ptr (b.map HA.cell0)]] true)).new (.cells 1 [[.bool false]] true)).heap (S.next + 1) = .cells 1 [[.bool false]] true := new_here (S.new _) _
  rw [show (S.new (.cells 1 [[.ptr (b.map HA.cell0)]] true)).next = S.next + 1 from rfl]
  generalize (S.new (.cells 1 [[.ptr (b.map HA.cell0)]] true)).new (.cells 1 [[.bool false]] true) = T at n2 f2 c0 c1 ⊢
  obtain ⟨c, s', S1, e1, d1, r1, hc, hq, f3⟩ := all_opt (ha.fr f2)
  have l3 := f3.le
  have hb1 : SO b ys S1 := (hb.fr f2).fr f3
  have c0' := (f3.eq _ (by omega)).trans c0
  have c1' := (f3.eq _ (by omega)).trans c1
  rw [e1, Option.bind_some]
  have hT := values_tells (k := 2000) (n := n) (xs := xs) (by omega) (by omega) d1 r1 (fun id => id = c ∨ ∃ q, s'.a = some q ∧ q.1 = id) ⟨.inl rfl, fun q hq => .inr ⟨q, hq, rfl⟩⟩
  -- what the round holds: the cells, and the other set
  obtain ⟨OS, hOS, hloc⟩ := hb.loc
  let OB : (Nat → Prop) := fun id => id = S.next ∨ id = S.next + 1 ∨ OS id
  have hOB : ∀ id, OB id → id < S.next + 2 := fun id h => by
    rcases h with g | g | g
    · omega
    · omega
    · have := hOS id g; omega
  have hloc1 : ∀ U : HS, (∀ id, OB id → U.heap id = S1.heap id) → S1.next ≤ U.next → SO b ys U := fun U hk hn => hloc U (fun id ho => by
    have := hOS id ho
    rw [hk id (.inr (.inr ho)), f3.eq id (by omega), f2.eq id this]) (by have := f2.le; omega)
  obtain ⟨T2, st, S', O', e2, e3, de, n5, ch, lt, hn, hs⟩ := range_tells (H := fun _ => none) (hd := fun vs T =>
      Option.bind (HS.lp T (S1.next + 1)) fun _ => Option.bind (args1 vs) fun ar => Option.bind (dI .i64 ar) fun p => set_Meet_int.J0 (disp 2000 (n + 2)) (fun _ => none) 2000 (S1.next + 1) (some (HA.cell0 S.next)) (some (HA.cell0 (S.next + 1))) p T)
    (bd := fun i U => if h : i < xs.length then Option.bind (U.ldP (HA.cell0 S.next)) fun p6 => Option.bind (set_Set_int_Has.f 2000 p6 xs[i] U) fun p7 => if p7.1 = true then Option.bind (p7.2.sets (HA.cell0 (S.next + 1)) [.bool true]) fun U' => U'.endr (S1.next + 1) (some .ret) else p7.2.endr (S1.next + 1) none else none)
    hT (fun id h => by
      rcases h with g | ⟨q, g, rfl⟩
      · omega
      · have := hq q g; omega)
    (fun i O U => (∀ id, O id ↔ OB id) ∧ (∀ id, OB id → U.heap id = S1.heap id) ∧ S1.next ≤ U.next ∧ ∀ j (h : j < xs.length), j < i → xs[j] ∉ ys)
    (fun c O U => (∀ id, O id ↔ OB id) ∧ c = .ret ∧ U.heap (S.next + 1) = .cells 1 [[.bool true]] true ∧ (∀ id, OS id → U.heap id = S1.heap id) ∧ ∃ v, v ∈ xs ∧ v ∈ ys)
    (fun i O U U' ⟨h1, h2, h3, h4⟩ hk hn => ⟨h1, fun id ho => (hk id ((h1 id).2 ho)).trans (h2 id ho), by omega, h4⟩)
    (fun c O U U' ⟨h1, h2, h3, h4⟩ hk hn => ⟨h1, h2, (hk _ ((h1 _).2 (.inr (.inl rfl)))).trans h3, fun id ho => (hk id ((h1 id).2 (.inr (.inr ho)))).trans (h4.1 id ho), h4.2⟩)
    OB (fun id h => by have := hOB id h; omega) ⟨fun _ => Iff.rfl, fun _ _ => rfl, Nat.le_refl _, fun j _ h => by omega⟩ (fun id h h2 => by
      have := hOB id h
      rcases h2 with g | ⟨q, g, rfl⟩
      · omega
      · have := hq q g; omega)
    (fun i hi T h => by
      have hi' : i < xs.length := by simpa using hi
      rw [lp_at h, Option.bind_some, List.getElem_map, show args1 (row1 xs[i]) = some (kv xs[i]) from rfl, Option.bind_some, show dI .i64 (kv xs[i]) = some xs[i] from dI_at _, Option.bind_some, set_Meet_int.J0, begin_at h, Option.bind_some, Option.bind_some, dif_pos hi']
      rfl)
    (fun i hi O1 U ⟨h1, h2, h3, h4⟩ hn hl hno hlt => by
      have hi' : i < xs.length := by simpa using hi
      have u0 := (h2 _ (.inl rfl)).trans c0'
      have u1 := (h2 _ (.inr (.inl rfl))).trans c1'
      rw [dif_pos hi', ldP_cell u0, Option.bind_some, has_opt (Nat.le_refl _) (hloc1 U h2 h3), Option.bind_some]
      simp only
      by_cases hm : xs[i] ∈ ys
      · rw [if_pos (by simpa using hm), sets_cell _ u1, Option.bind_some]
        refine ⟨_, O1, _, rfl, ⟨Nat.le_refl _, fun id g1 g2 => put_other _ (fun e => g2 ((h1 _).2 (.inr (.inl e)))), fun _ h => .inl h⟩, hlt, fun h => (by cases h), fun c hc => ?_⟩
        cases hc
        exact ⟨h1, rfl, put_here _ _ _, fun id ho => by rw [put_other _ (by have := hOS id ho; omega)]; exact h2 id (.inr (.inr ho)), _, List.getElem_mem hi', hm⟩
      · rw [if_neg (by simpa using hm)]
        exact ⟨U, O1, none, rfl, Chg.refl _ _, hlt, fun _ => ⟨h1, h2, h3, fun j hj hji => by
          rcases Nat.lt_or_ge j i with g | g
          · exact h4 j hj g
          · obtain rfl : j = i := by omega
            exact hm⟩, fun c h => by cases h⟩)
  erw [e2]
  rw [Option.bind_some]
  simp only [e3, Option.bind_some]
  have hle := ch.le
  have fin : ∀ S2 : HS, (∀ id, OS id → S'.heap id = S1.heap id) → (∀ id, id < S.next → S2.heap id = S'.heap id) → S'.next ≤ S2.next → Fr S.next S S2 := fun S2 h0 h1 h2 => by
    have := f2.le
    refine ⟨by omega, fun id hid => ?_⟩
    rw [h1 id hid]
    by_cases ho : OS id
    · rw [h0 id ho, f3.eq id (by omega), f2.eq id hid]
    · rw [ch.eq id (by omega) (fun h => by
        rcases h with g | g | g
        · omega
        · omega
        · exact ho g), f3.eq id (by omega), f2.eq id hid]
  cases hst : st with
  | none =>
    obtain ⟨g1, g2, g3, g4⟩ := hn hst
    have u1 := (g2 _ (.inr (.inl rfl))).trans c1'
    have hno : ¬ ∃ v, v ∈ xs ∧ v ∈ ys := fun ⟨v, h1, h2⟩ => by
      obtain ⟨j, hj, rfl⟩ := List.getElem_of_mem h1
      exact g4 j hj (by simpa using hj) h2
    have d2 : (S'.put (S.next + 1) (.cells 1 [[.bool false]] true)).heap S1.next = .defer := by rw [put_other _ (by omega)]; exact de
    have x1 : ((S'.put (S.next + 1) (.cells 1 [[.bool false]] true)).put S1.next .dead).heap (S.next + 1) = .cells 1 [[.bool false]] true := by rw [put_other _ (by omega)]; exact put_here _ _ _
    simp only [pcode, Option.bind_some, if_true]
    rw [sets_cell _ u1, Option.bind_some]
    simp only [HS.leave, d2, Option.bind_some]
    rw [ldB_cell x1, Option.bind_some, decide_eq_false hno]
    exact ⟨_, rfl, fin _ (fun id ho => g2 id (.inr (.inr ho))) (fun id hid => by rw [put_other _ (by omega), put_other _ (by omega)]) (Nat.le_refl _)⟩
  | some c =>
    obtain ⟨g1, g2, g3, g4, g5⟩ := hs c hst
    subst g2
    have x1 : (S'.put S1.next .dead).heap (S.next + 1) = .cells 1 [[.bool true]] true := by rw [put_other _ (by omega)]; exact g3
    simp only [pcode, Option.bind_some, if_true, if_false, show ¬ (1 : Nat) = 0 by decide]
    simp only [HS.leave, de, Option.bind_some]
    rw [ldB_cell x1, Option.bind_some, decide_eq_true g5]
    exact ⟨_, rfl, fin _ g4 (fun id hid => by rw [put_other _ (by omega)]) (Nat.le_refl _)⟩
end KI
end Go.Proofs.Ytpdainofeaombaa.X
