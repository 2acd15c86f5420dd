/- The layer was: what is gone through, plain. -/
import Derived.Test.YtlmpmnbljpigiaaWasLaw
namespace Go.Proofs.Ytlmpmnbljpigiaa.X
open Go.Proofs.Ytlmpmnbljpigiaa.HL
set_option linter.unusedVariables false

/-- What a handler may do: the blocks from m on that stand are kept. -/
structure Kp (m : Nat) (S S' : HS) : Prop where
  le : S.next ≤ S'.next
  eq : ∀ id, m ≤ id → id < S.next → S'.heap id = S.heap id

theorem all_tells {k n m l c : Nat} {H : Hd} {r : List HV → HS → Option (HV × HS)} {xs : List Ent} {s : Sl} (hl : H l = some r) (I : Nat → HS → Prop) (Stop : HS → Prop)
    (hst : ∀ i S S', I i S → Fr m S S' → I i S') (hm : ∀ i S, I i S → m ≤ S.next) (hc : ∀ i S, I i S → S.heap c = .cells 1 [[s.hv]] true) (hrd : ∀ i S, I i S → S.rows s 2 = some (xs.map pairRow))
    (hstep : ∀ i (hi : i < xs.length) S, I i S → ∃ b S', r [.str xs[i].1, .int .i64 xs[i].2] S = some (.bool b, S') ∧ (b = true → I (i + 1) S') ∧ (b = false → Stop S')) (hx : xs.length ≤ 1000000) (hk : xs.length < k) (S : HS) (hS : I 0 S) :
    ∃ S', disp k (n + 2) H (.fn (.func 15) [] [.ptr (some (HA.cell0 c))]) [.fn (.yield l) [] []] S = some (.tup [], S') ∧ (I xs.length S' ∨ Stop S') := by
  have hloop : ∀ f i S, xs.length - i < f → i ≤ xs.length → I i S → ∃ S', was_Past_int_All_1.L0 (disp k (n + 1)) H k f (.fn (.yield l) [] []) s (xs.length : Int) (i : Int) S = some ((), S') ∧ (I xs.length S' ∨ Stop S') := by
    intro f
    induction f with
    | zero => intro i S h; omega
    | succ f ih =>
      intro i S hf hi hI
      unfold was_Past_int_All_1.L0
      by_cases hlt : i < xs.length
      · obtain ⟨ad, a1, a2, a3⟩ := pair_rows (hrd i S hI) (i := i) hlt
        rw [if_pos (by omega), a1, Option.bind_some, a2, Option.bind_some, a3, Option.bind_some, letv, show HA.cell0 S.next = (⟨S.next, 0, 0⟩ : HA) from rfl, sets_row (new_here S _) rfl (by simp), Option.bind_some]
        have hp : ((S.new (.cells 2 [[.str [], .int .i64 0]] true)).put S.next (.cells 2 ([[HV.str [], .int .i64 0]].set 0 (List.take 0 [HV.str [], .int .i64 0] ++ [.str xs[i].1, .int .i64 xs[i].2] ++ List.drop (0 + [HV.str xs[i].1, .int .i64 xs[i].2].length) [HV.str [], .int .i64 0])) true)).heap S.next = .cells 2 [[.str xs[i].1, .int .i64 xs[i].2]] true := put_here _ _ _
        have hr := cell_row hp
        rw [row_ldS hr rfl rfl, Option.bind_some, row_ldI hr rfl rfl, Option.bind_some]
        have hI2 := hst i S _ hI ((Fr.new (hm i S hI) (.cells 2 [[.str [], .int .i64 0]] true)).trans (Fr.put (hm i S hI) (.cells 2 ([[HV.str [], .int .i64 0]].set 0 (List.take 0 [HV.str [], .int .i64 0] ++ [.str xs[i].1, .int .i64 xs[i].2] ++ List.drop (0 + [HV.str xs[i].1, .int .i64 xs[i].2].length) [HV.str [], .int .i64 0])) true)))
        obtain ⟨b, S2, e2, k1, k2⟩ := hstep i hlt _ hI2
        rw [disp_yield, hl, Option.bind_some, e2, Option.bind_some]
        simp only [dB, Option.bind_some]
        cases b with
        | false => exact ⟨S2, rfl, .inr (k2 rfl)⟩
        | true =>
          rw [if_neg (by simp), w64_id (by omega) (by omega), show ((i : Int) + 1) = ((i + 1 : Nat) : Int) by simp]
          exact ih (i + 1) S2 (by omega) (by omega) (k1 rfl)
      · obtain rfl : i = xs.length := by omega
        rw [if_neg (by omega)]
        exact ⟨S, rfl, .inl hI⟩
  obtain ⟨S', e, h⟩ := hloop k 0 S (by omega) (by omega) hS
  refine ⟨S', ?_, h⟩
  rw [disp_func]
  have hlen : (s.len : Int) = xs.length := by rw [← rows_len (hrd 0 S hS)]; simp
  have e' : call_15 (disp k (n + 1)) H k ([] ++ [HV.fn (.yield l) [] []] ++ [.ptr (some (HA.cell0 c))]) S = some (.tup [], S') := by
    rw [call_15]
    simp only [List.nil_append, List.cons_append, args2, Option.bind_some, dF, dP]
    rw [was_Past_int_All_1.f, Option.bind_some, ldSl_cell (hc 0 S hS), Option.bind_some, hlen]
    erw [e]
    rfl
  simp only [if_true, show ¬ (15 : Nat) = 16 by decide, if_false, e']

theorem filter_at {α : Type} (p : α → Bool) {xs : List α} {i : Nat} (hi : i < xs.length) (hp : p xs[i] = true) : (xs.filter p)[((xs.take i).filter p).length]? = some xs[i] ∧ ((xs.take (i + 1)).filter p).length = ((xs.take i).filter p).length + 1 := by
  have e : xs = xs.take i ++ xs[i] :: xs.drop (i + 1) := by rw [← List.drop_eq_getElem_cons hi, List.take_append_drop]
  constructor
  · conv => lhs; arg 1; rw [e]
    rw [List.filter_append, List.filter_cons_of_pos hp, List.getElem?_append_right (Nat.le_refl _)]
    simp
  · rw [List.take_succ_eq_append_getElem hi, List.filter_append, List.filter_cons_of_pos hp]
    simp
theorem filter_not {α : Type} (p : α → Bool) {xs : List α} {i : Nat} (hi : i < xs.length) (hp : p xs[i] = false) : ((xs.take (i + 1)).filter p).length = ((xs.take i).filter p).length := by
  rw [List.take_succ_eq_append_getElem hi, List.filter_append, List.filter_cons_of_neg (by rw [hp]; simp)]
  simp
def likeName (nm : List UInt8) (x : Ent) : Bool := decide (x.1.map low = nm.map low)
theorem ldF_cell {S : HS} {id : Nat} {f : Fn} {xs ys : List HV} {b : Bool} (h : S.heap id = .cells 1 [[.fn f xs ys]] b) : S.ldF (HA.cell0 id) = some (.fn f xs ys) := by rw [HS.ldF, get_cell h]; rfl

theorem find_tells {k n m l c cA cN : Nat} {H : Hd} {r : List HV → HS → Option (HV × HS)} {xs : List Ent} {s : Sl} {nm : List UInt8} (hl : H l = some r) (I : Nat → HS → Prop) (Stop : HS → Prop)
    (hst : ∀ i S S', I i S → Fr m S S' → I i S') (hsS : ∀ S S', Stop S → Fr m S S' → Stop S') (hm : ∀ i S, I i S → m ≤ S.next) (hmS : ∀ S, Stop S → m ≤ S.next) (hA : ∀ i S, I i S → S.heap cA = .cells 1 [[.fn (.func 15) [] [.ptr (some (HA.cell0 c))]]] true) (hN : ∀ i S, I i S → S.heap cN = .cells 1 [[.str nm]] true)
    (hc : ∀ i S, I i S → S.heap c = .cells 1 [[s.hv]] true) (hrd : ∀ i S, I i S → S.rows s 2 = some (xs.map pairRow))
    (hstep : ∀ i (hi : i < (xs.filter (likeName nm)).length) S, I i S → ∃ b S', r [.str ((xs.filter (likeName nm))[i]).1, .int .i64 ((xs.filter (likeName nm))[i]).2] S = some (.bool b, S') ∧ Kp m S S' ∧ (b = true → I (i + 1) S') ∧ (b = false → Stop S'))
    (hx : xs.length ≤ 1000000) (hk : xs.length < k) (hk2 : 2000 ≤ k) (hxn : ∀ x ∈ xs, x.1.length ≤ 1000) (S : HS) (hS : I 0 S) :
    ∃ S', disp k (n + 3) H (.fn (.func 16) [] [.ptr (some (HA.cell0 cA)), .ptr (some (HA.cell0 cN))]) [.fn (.yield l) [] []] S = some (.tup [], S') ∧ (I (xs.filter (likeName nm)).length S' ∨ Stop S') := by
  have hmq := hm 0 S hS
  generalize hq : S.next = q at *
  -- the handler that is between
  let r2 : List HV → HS → Option (HV × HS) := fun vs T => Option.bind (HS.lp T (q + 2)) fun _ => Option.bind (args2 vs) fun ar => Option.bind (dS ar.1) fun a => Option.bind (dI .i64 ar.2) fun b => was_Past_int_Find_1.J0 (disp k (n + 2)) H k (q + 2) (some (HA.cell0 cN)) (some (HA.cell0 q)) a b T
  let I2 : Nat → HS → Prop := fun i T => I ((xs.take i).filter (likeName nm)).length T ∧ T.heap q = .cells 1 [[.fn (.yield l) [] []]] true ∧ T.heap (q + 1) = .defer ∧ T.heap (q + 2) = .loop .ready none ∧ q + 3 ≤ T.next
  let Stop2 : HS → Prop := fun T => Stop T ∧ T.heap (q + 1) = .defer ∧ T.heap (q + 2) = .loop .done (some .ret)
  have hI0 : I2 0 (((S.new (.cells 1 [[.fn (.yield l) [] []]] true)).new .defer).new (.loop .ready none)) := by
    refine ⟨?_, ?_, ?_, ?_, ?_⟩
    · simp only [List.take_zero, List.filter_nil, List.length_nil]
      exact hst 0 S _ hS (((Fr.new (by omega) _).trans (Fr.new (by rw [new_next]; omega) _)).trans (Fr.new (by rw [new_next, new_next]; omega) _))
    · rw [new_old _ (by simp only [new_next]; omega), new_old _ (by simp only [new_next]; omega), ← hq]; exact new_here _ _
    · rw [new_old _ (by simp only [new_next]; omega), show q + 1 = (S.new (.cells 1 [[.fn (.yield l) [] []]] true)).next by rw [new_next, hq]]; exact new_here _ _
    · rw [show q + 2 = ((S.new (.cells 1 [[.fn (.yield l) [] []]] true)).new .defer).next by rw [new_next, new_next, hq]]; exact new_here _ _
    · simp only [new_next]; omega
  have hin := all_tells (k := k) (n := n) (m := q + 3) (l := q + 2) (c := c) (H := H.set (q + 2) r2) (r := r2) (xs := xs) (s := s) (by simp [Hd.set]) I2 Stop2
    (by
      rintro i T T' ⟨g1, g2, g3, g4, g5⟩ hf
      exact ⟨hst _ T T' g1 (hf.mono (by omega)), by rw [hf.eq _ (by omega)]; exact g2, by rw [hf.eq _ (by omega)]; exact g3, by rw [hf.eq _ (by omega)]; exact g4, Nat.le_trans g5 hf.le⟩)
    (fun i T h => h.2.2.2.2) (fun i T h => hc _ T h.1) (fun i T h => hrd _ T h.1)
    (by
      rintro i hi T ⟨g1, g2, g3, g4, g5⟩
      -- begun
      have b1 : I ((xs.take i).filter (likeName nm)).length (T.put (q + 2) (.loop .busy none)) := hst _ T _ g1 (Fr.put (by omega) _)
      have b2 : (T.put (q + 2) (.loop .busy none)).heap q = .cells 1 [[.fn (.yield l) [] []]] true := by rw [put_other _ (by omega)]; exact g2
      have b3 : (T.put (q + 2) (.loop .busy none)).heap (q + 1) = .defer := by rw [put_other _ (by omega)]; exact g3
      have b4 : (T.put (q + 2) (.loop .busy none)).heap (q + 2) = .loop .busy none := put_here _ _ _
      have hsame : fold_Same.f k xs[i].1 nm = some (likeName nm xs[i]) := same_spec (by have := hxn xs[i] (List.getElem_mem hi); omega) (by have := hxn xs[i] (List.getElem_mem hi); omega)
      have e0 : r2 [.str xs[i].1, .int .i64 xs[i].2] T = was_Past_int_Find_1.J0 (disp k (n + 2)) H k (q + 2) (some (HA.cell0 cN)) (some (HA.cell0 q)) xs[i].1 xs[i].2 T := by
        show Option.bind (HS.lp T (q + 2)) _ = _
        rw [lp_at g4, Option.bind_some]
        simp only [args2, dS, dI, Option.bind_some, if_true]
      rw [e0, was_Past_int_Find_1.J0, begin_at g4, Option.bind_some, Option.bind_some, ldS_cell (hN _ _ b1), Option.bind_some, hsame, Option.bind_some]
      cases hp : likeName nm xs[i] with
      | false =>
        rw [if_neg (by simp), was_Past_int_Find_1.J1, if_neg (by simp), endr_at none b4]
        refine ⟨true, _, rfl, fun _ => ⟨?_, ?_, ?_, ?_, ?_⟩, fun h => by cases h⟩
        · rw [filter_not _ hi hp]; exact hst _ _ _ b1 (Fr.put (by omega) _)
        · rw [put_other _ (by omega)]; exact b2
        · rw [put_other _ (by omega)]; exact b3
        · exact put_here _ _ _
        · exact g5
      | true =>
        obtain ⟨f1, f2⟩ := filter_at (likeName nm) hi hp
        obtain ⟨hlt, f3⟩ := List.getElem?_eq_some_iff.1 f1
        obtain ⟨b, T2, e2, kp, k1, k2⟩ := hstep _ hlt _ b1
        rw [f3] at e2
        rw [if_pos rfl, Option.bind_some, ldF_cell b2, Option.bind_some, disp_yield, hl, Option.bind_some, e2, Option.bind_some]
        simp only [dB, Option.bind_some]
        have c2 : T2.heap q = .cells 1 [[.fn (.yield l) [] []]] true := by rw [kp.eq q (by omega) (by rw [put_next]; omega)]; exact b2
        have c3 : T2.heap (q + 1) = .defer := by rw [kp.eq _ (by omega) (by rw [put_next]; omega)]; exact b3
        have c4 : T2.heap (q + 2) = .loop .busy none := by rw [kp.eq _ (by omega) (by rw [put_next]; omega)]; exact b4
        have c5 : q + 3 ≤ T2.next := Nat.le_trans g5 kp.le
        cases b with
        | true =>
          rw [was_Past_int_Find_1.J1, if_neg (by simp), endr_at none c4]
          refine ⟨true, _, rfl, fun _ => ⟨?_, ?_, ?_, ?_, ?_⟩, fun h => by cases h⟩
          · rw [f2]; exact hst _ _ _ (k1 rfl) (Fr.put (by omega) _)
          · rw [put_other _ (by omega)]; exact c2
          · rw [put_other _ (by omega)]; exact c3
          · exact put_here _ _ _
          · exact c5
        | false =>
          rw [was_Past_int_Find_1.J1, if_pos (by simp), endr_at (some .ret) c4]
          refine ⟨false, _, rfl, (fun h => by cases h), fun _ => ⟨hsS _ _ (k2 rfl) (Fr.put (by omega) _), ?_, ?_⟩⟩
          · rw [put_other _ (by omega)]; exact c3
          · exact put_here _ _ _)
    hx hk _ hI0
  obtain ⟨S', e, h⟩ := hin
  have hfin : ∃ S'', Option.bind (HS.finish S' (q + 2)) (fun p20 => Option.bind (pcode p20.1) fun n21 => if n21 = 0 then Option.bind (HS.leave p20.2 ((q + 1) :: [])) (fun p23 => some ((), p23)) else if n21 = 1 then Option.bind (HS.leave p20.2 ((q + 1) :: [])) (fun p25 => some ((), p25)) else none) = some ((), S'') ∧ (I (xs.filter (likeName nm)).length S'' ∨ Stop S'') := by
    rcases h with ⟨g1, g2, g3, g4, g5⟩ | ⟨g1, g3, g4⟩
    · rw [List.take_length] at g1
      have e1 : S'.finish (q + 2) = some (none, S'.put (q + 2) (.loop .exhausted none)) := by simp [HS.finish, g4]
      have e2 : (S'.put (q + 2) (.loop .exhausted none)).heap (q + 1) = .defer := by rw [put_other _ (by omega)]; exact g3
      rw [e1, Option.bind_some]
      simp only [pcode, Option.bind_some, if_true, HS.leave, e2]
      exact ⟨_, rfl, .inl (hst _ _ _ g1 ((Fr.put (by omega) _).trans (Fr.put (by omega) _)))⟩
    · have e1 : S'.finish (q + 2) = some (some .ret, S'.put (q + 2) (.loop .exhausted (some .ret))) := by simp [HS.finish, g4]
      have e2 : (S'.put (q + 2) (.loop .exhausted (some .ret))).heap (q + 1) = .defer := by rw [put_other _ (by omega)]; exact g3
      rw [e1, Option.bind_some]
      simp only [pcode, Option.bind_some, show ¬ (1 : Nat) = 0 by decide, if_false, if_true, HS.leave, e2]
      exact ⟨_, rfl, .inr (hsS _ _ g1 ((Fr.put (by omega) _).trans (Fr.put (by omega) _)))⟩
  obtain ⟨S'', e3, h3⟩ := hfin
  refine ⟨S'', ?_, h3⟩
  rw [disp_func]
  simp only [show ¬ (16 : Nat) = 15 by decide, if_true, if_false]
  rw [call_16]
  simp only [List.nil_append, List.cons_append, args3, Option.bind_some, dF, dP]
  have e4 : was_Past_int_Find_1.f (disp k (n + 2)) H k (.fn (.yield l) [] []) (some (HA.cell0 cA)) (some (HA.cell0 cN)) S = some ((), S'') := by
    rw [was_Past_int_Find_1.f]
    simp only [dF, Option.bind_some, letv]
    have hcA : (S.new (.cells 1 [[.fn (.yield l) [] []]] true)).heap cA = .cells 1 [[.fn (.func 15) [] [.ptr (some (HA.cell0 c))]]] true := hA 0 _ (hst 0 S _ hS (Fr.new (by omega) _))
    rw [ldF_cell hcA, Option.bind_some, new_next, hq]
    erw [e]
    rw [Option.bind_some]
    exact e3
  rw [e4]
  rfl
end Go.Proofs.Ytlmpmnbljpigiaa.X
