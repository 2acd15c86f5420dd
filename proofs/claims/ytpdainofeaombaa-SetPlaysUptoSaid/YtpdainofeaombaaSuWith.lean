/- The layer set: Without, plain. -/
import Derived.Test.YtpdainofeaombaaSuRef
namespace Go.Proofs.Ytpdainofeaombaa.X
open Go.Proofs.Ytpdainofeaombaa.HL
set_option linter.unusedVariables false
namespace KI
theorem ldF_cell {S : HS} {id : Nat} {f : Fn} {u v : List HV} {b : Bool} (h : S.heap id = .cells 1 [[.fn f u v]] b) : S.ldF (HA.cell0 id) = some (.fn f u v) := by rw [HS.ldF, get_cell h]; rfl
abbrev wof (x : Ky) (xs : List Ky) : List Ky := xs.filter fun y => !decide (y = x)
theorem wof_take {x : Ky} {xs : List Ky} {i : Nat} (hi : i < xs.length) : wof x (xs.take (i + 1)) = wof x (xs.take i) ++ (if xs[i] = x then [] else [xs[i]]) := by
  rw [wof, List.take_succ_eq_append_getElem hi, List.filter_append]
  congr 1
  by_cases h : xs[i] = x <;> simp [h]
theorem wof_at {x : Ky} {xs : List Ky} {i : Nat} (hi : i < xs.length) (hne : xs[i] ≠ x) : ∃ h : (wof x (xs.take i)).length < (wof x xs).length, (wof x xs)[(wof x (xs.take i)).length] = xs[i] := by
  have e : wof x xs = wof x (xs.take i) ++ xs[i] :: wof x (xs.drop (i + 1)) := by
    conv => lhs; rw [wof, ← List.take_append_drop i xs, List.filter_append, List.drop_eq_getElem_cons hi, List.filter_cons]
    simp [hne]
  refine ⟨by rw [e]; simp, ?_⟩
  simp only [e]
  rw [List.getElem_append_right (Nat.le_refl _)]
  simp
theorem without_spec {k n a c : Nat} {B : HS} {fn : Fn} {u v : List HV} {x : Ky} {xs : List Ky} {K : Nat → Prop} (hT : ∀ S : HS, (∀ id, K id → S.heap id = B.heap id ∧ id < S.next) → Tells (disp k (n + 1)) (.fn fn u v) (xs.map row1) K S)
    (hK : ∀ id, K id → id < B.next) (hac : a < B.next ∧ c < B.next ∧ ¬ K a ∧ ¬ K c) (ha : B.heap a = .cells 1 [[.fn fn u v]] true) (hc : B.heap c = .cells 1 [[.int .i64 x]] true) :
    Tells (disp k (n + 2)) (.fn (.func 25) [] [.ptr (some (HA.cell0 a)), .ptr (some (HA.cell0 c))]) ((wof x xs).map row1) (fun id => id = a ∨ id = c ∨ K id) B := by
  intro H l I Stop ht O S hI hB
  have hOlt := ht.lt 0 O S hI
  have f1 : Fr S.next S (S.new (.cells 1 [[.fn (.yield l) [] []]] true)) := Fr.new (Nat.le_refl _) _
  have n1 : (S.new (.cells 1 [[.fn (.yield l) [] []]] true)).next = S.next + 1 := rfl
  have y1 : (S.new (.cells 1 [[.fn (.yield l) [] []]] true)).heap S.next = .cells 1 [[.fn (.yield l) [] []]] true := new_here _ _
  have cA := hB a (.inl rfl)
  have cC := hB c (.inr (.inl rfl))
  rw [disp_func]
  repeat rw [if_neg (by decide)]
  rw [if_pos rfl, call_25]
  simp only [List.nil_append, List.cons_append, args3, Option.bind_some, dF, dP]
  rw [set_Without_int_1.f, show dF (.fn (.yield l) [] []) = some (.fn (.yield l) [] []) from rfl, Option.bind_some, letv, Option.bind_some]
  generalize S.new (.cells 1 [[.fn (.yield l) [] []]] true) = S1 at f1 n1 y1 ⊢
  have a1 : S1.heap a = .cells 1 [[.fn fn u v]] true := (f1.eq a cA.2.2).trans (cA.1.trans ha)
  have c1 : S1.heap c = .cells 1 [[.int .i64 x]] true := (f1.eq c cC.2.2).trans (cC.1.trans hc)
  rw [ldF_cell a1, Option.bind_some, show HV.isNilFn (HV.fn fn u v) = some false from rfl, Option.bind_some, if_neg (by simp), Option.bind_some, ldF_cell a1, Option.bind_some]
  have hlen : (xs.map row1).length = xs.length := by simp
  have hwl : ((wof x xs).map row1).length = (wof x xs).length := by simp
  let OX : (Nat → Prop) → Nat → Prop := fun O1 id => O1 id ∨ id = c ∨ id = S.next
  -- what the rounds keep
  obtain ⟨T2, st, S', O', e2, e3, de, n5, ch, lt, hn, hs⟩ := range_tells (D := disp k (n + 1)) (H := H) (fv := .fn fn u v) (S := S1) (hd := fun vs T =>
      Option.bind (HS.lp T (S1.next + 1)) fun _ => Option.bind (args1 vs) fun ar => Option.bind (dI .i64 ar) fun p => set_Without_int_1.J0 (disp k (n + 1)) H (S1.next + 1) (some (HA.cell0 c)) (some (HA.cell0 S.next)) p T)
    (bd := fun i U => if h : i < xs.length then Option.bind (U.ldI .i64 (HA.cell0 c)) fun p12 => if (!decide (xs[i] = p12)) = true then Option.bind (U.ldF (HA.cell0 S.next)) fun p15 => Option.bind (disp k (n + 1) H p15 [(.int .i64 xs[i])] U) fun p16 => Option.bind (dB p16.1) fun p17 => set_Without_int_1.J1 (disp k (n + 1)) H (S1.next + 1) (!p17) p16.2 else set_Without_int_1.J1 (disp k (n + 1)) H (S1.next + 1) false U else none)
    (hT S1 (fun id h => ⟨(f1.eq id (hB id (.inr (.inr h))).2.2).trans (hB id (.inr (.inr h))).1, by have := (hB id (.inr (.inr h))).2.2; omega⟩)) (fun id h => by have := (hB id (.inr (.inr h))).2.2; omega)
    (fun i O2 T => ∃ O1, (∀ id, O2 id ↔ OX O1 id) ∧ ¬ O1 c ∧ ¬ O1 S.next ∧ I (wof x (xs.take i)).length O1 T ∧ T.heap c = .cells 1 [[.int .i64 x]] true ∧ T.heap S.next = .cells 1 [[.fn (.yield l) [] []]] true ∧ S1.next ≤ T.next)
    (fun cd O2 T => ∃ O1, (∀ id, O2 id ↔ OX O1 id) ∧ ¬ O1 c ∧ ¬ O1 S.next ∧ Stop O1 T ∧ T.heap c = .cells 1 [[.int .i64 x]] true ∧ cd = .ret)
    (fun i O2 T T' ⟨O1, g1, g2, g3, g4, g5, g6, g7⟩ hk hn => ⟨O1, g1, g2, g3, ht.keep _ _ _ _ g4 (fun id ho => hk id ((g1 id).2 (.inl ho))) hn, (hk _ ((g1 _).2 (.inr (.inl rfl)))).trans g5, (hk _ ((g1 _).2 (.inr (.inr rfl)))).trans g6, by omega⟩)
    (fun cd O2 T T' ⟨O1, g1, g2, g3, g4, g5, g6⟩ hk hn => ⟨O1, g1, g2, g3, ht.keepS _ _ _ g4 (fun id ho => hk id ((g1 id).2 (.inl ho))) hn, (hk _ ((g1 _).2 (.inr (.inl rfl)))).trans g5, g6⟩)
    (OX O) (fun id h => by
      rcases h with g | g | g
      · have := hOlt id g; omega
      · have := cC.2.2; omega
      · omega)
    ⟨O, fun _ => Iff.rfl, cC.2.1, fun h => by have := hOlt _ h; omega, by rw [List.take_zero]; exact ht.keep 0 O S S1 hI (fun id ho => f1.eq id (hOlt id ho)) f1.le, c1, y1, Nat.le_refl _⟩
    (fun id h hk' => by
      rcases h with g | g | g
      · exact (hB id (.inr (.inr hk'))).2.1 g
      · exact hac.2.2.2 (g ▸ hk')
      · have := (hB id (.inr (.inr hk'))).2.2; omega)
    (fun i hi T h => by
      have hi' : i < xs.length := by simpa using hi
      rw [lp_at h, Option.bind_some, List.getElem_map, show args1 (row1 xs[i]) = some (kv xs[i]) from rfl, Option.bind_some, show dI .i64 (kv xs[i]) = some xs[i] from dI_at _, Option.bind_some, set_Without_int_1.J0, begin_at h, Option.bind_some, Option.bind_some, dif_pos hi']
      rfl)
    (fun i hi O2 U ⟨O1, g1, g2, g3, g4, g5, g6, g7⟩ hn2 hl hno hlt => by
      have hi' : i < xs.length := by simpa using hi
      rw [dif_pos hi', ldI_cell g5, Option.bind_some]
      by_cases hx : xs[i] = x
      · rw [if_neg (by simp [hx]), set_Without_int_1.J1, if_neg (by simp)]
        refine ⟨U, O2, none, rfl, Chg.refl _ _, hlt, fun _ => ⟨O1, g1, g2, g3, ?_, g5, g6, g7⟩, fun c h => by cases h⟩
        rw [wof_take hi', if_pos hx, List.append_nil]; exact g4
      · obtain ⟨w1, w2⟩ := wof_at hi' hx
        obtain ⟨b, T3, O3, e3, n3, k3, o3, p1, p2⟩ := ht.step (wof x (xs.take i)).length (by simpa using w1) O1 U g4
        have he : disp k (n + 1) H (.fn (.yield l) [] []) [.int .i64 xs[i]] U = some (.bool b, T3) := by
          rw [disp_yield, ← e3]
          simp only [List.getElem_map, w2]
          rfl
        have lt3 : ∀ id, O3 id → id < T3.next := fun id ho => by
          cases b with
          | true => exact ht.lt _ _ _ (p1 rfl) id ho
          | false => exact ht.ltS _ _ (p2 rfl) id ho
        have hno3 : ∀ id, id < U.next → ¬ O1 id → ¬ O3 id := fun id q1 q2 q3 => by
          rcases o3 id q3 with g | g
          · exact q2 g
          · omega
        have hcU : c < U.next := by have := cC.2.2; omega
        have c3 : T3.heap c = .cells 1 [[.int .i64 x]] true := (k3 c hcU g2).trans g5
        have s3 : T3.heap S.next = .cells 1 [[.fn (.yield l) [] []]] true := (k3 _ (by omega) g3).trans g6
        have hch : Chg O2 (OX O3) U T3 := ⟨n3, fun id q1 q2 => k3 id q1 (fun h => q2 ((g1 id).2 (.inl h))), fun id ho => by
          rcases ho with h | h
          · exact (o3 id h).elim (fun g => .inl ((g1 id).2 (.inl g))) .inr
          · exact .inl ((g1 id).2 (.inr h))⟩
        have hlt3 : ∀ id, OX O3 id → id < T3.next := fun id ho => by
          rcases ho with h | h | h
          · exact lt3 id h
          · omega
          · omega
        rw [if_pos (by simpa using hx), ldF_cell g6, Option.bind_some, he, Option.bind_some]
        simp only [dB, Option.bind_some]
        cases b with
        | true =>
          rw [set_Without_int_1.J1, if_neg (by simp)]
          refine ⟨T3, OX O3, none, rfl, hch, hlt3, fun _ => ⟨O3, fun _ => Iff.rfl, hno3 c hcU g2, hno3 _ (by omega) g3, ?_, c3, s3, by omega⟩, fun c h => by cases h⟩
          rw [wof_take hi', if_neg hx, List.length_append, List.length_singleton]; exact p1 rfl
        | false =>
          rw [set_Without_int_1.J1, if_pos (by rfl)]
          refine ⟨T3, OX O3, some .ret, rfl, hch, hlt3, fun h => (by cases h), fun cd hcd => ⟨O3, fun _ => Iff.rfl, hno3 c hcU g2, hno3 _ (by omega) g3, p2 rfl, c3, by cases hcd; rfl⟩⟩)
  erw [e2]
  rw [Option.bind_some]
  simp only [e3, Option.bind_some]
  have hle := ch.le
  have fin : ∀ (S2 : HS) (O1 : Nat → Prop), (∀ id, O' id ↔ OX O1 id) → ¬ O1 c → ¬ O1 S.next → S'.heap c = .cells 1 [[.int .i64 x]] true → (∀ id, id ≠ S1.next → S2.heap id = S'.heap id) → S2.next = S'.next →
      S.next ≤ S2.next ∧ (∀ id, id < S.next → ¬ O id → S2.heap id = S.heap id) ∧ (∀ id, O1 id → O id ∨ S.next ≤ id) := fun S2 O1 h1 h2 h2' h3 h4 h5 => by
    refine ⟨by omega, fun id q1 q2 => ?_, fun id ho => ?_⟩
    · rw [h4 id (by omega)]
      by_cases hc' : id = c
      · subst hc'; rw [h3, cC.1, hc]
      · rw [ch.eq id (by omega) (fun h => by
          rcases h with g | g | g
          · exact q2 g
          · exact hc' g
          · omega), f1.eq id q1]
    · rcases ch.own id ((h1 id).2 (.inl ho)) with g | g
      · rcases g with g | g | g
        · exact .inl g
        · subst g; exact absurd ho h2
        · exact .inr (by omega)
      · exact .inr (by omega)
  cases hst : st with
  | none =>
    obtain ⟨O1, g1, g2, g3, g4, g5, g6, g7⟩ := hn hst
    rw [hlen, List.take_length] at g4
    simp only [pcode, Option.bind_some, if_true]
    simp only [HS.leave, de, Option.bind_some]
    obtain ⟨q1, q2, q3⟩ := fin (S'.put S1.next .dead) O1 g1 g2 g3 g5 (fun id h => put_other _ h) rfl
    exact ⟨_, O1, rfl, q1, q2, q3, .inl (by rw [hwl]; exact ht.keep _ _ _ _ g4 (fun id ho => put_other _ (lt id ((g1 id).2 (.inl ho))).1) (Nat.le_refl _))⟩
  | some cd =>
    obtain ⟨O1, g1, g2, g3, g4, g5, g6⟩ := hs cd hst
    subst g6
    simp only [pcode, Option.bind_some, if_true, if_false, show ¬ (1 : Nat) = 0 by decide]
    simp only [HS.leave, de, Option.bind_some]
    obtain ⟨q1, q2, q3⟩ := fin (S'.put S1.next .dead) O1 g1 g2 g3 g5 (fun id h => put_other _ h) rfl
    exact ⟨_, O1, rfl, q1, q2, q3, .inr (ht.keepS _ _ _ g4 (fun id ho => put_other _ (lt id ((g1 id).2 (.inl ho))).1) (Nat.le_refl _))⟩
end KI
end Go.Proofs.Ytpdainofeaombaa.X
