/- The layer was: WasStays, plain: what is gone through is what was there when it was asked for. -/
import Derived.Test.YtlmpmnbljpigiaaWasPlays
namespace Go.Proofs.Ytlmpmnbljpigiaa.X
open Go.Proofs.Ytlmpmnbljpigiaa.HL
set_option linter.unusedVariables false

theorem rows_nil {k : Nat} (hk : 0 < k) (T : HS) : was_Past_int_rows.f k none T = some (Sl.nil, T) := by
  rw [was_Past_int_rows.f, was_Past_int_Len.f, if_pos (by rfl), Option.bind_some]
  cases k with
  | zero => omega
  | succ k => rw [was_Past_int_rows.L0, if_neg (by simp)]
theorem all_nil {k : Nat} (hk : 0 < k) (T : HS) :
    ∃ c s' T', was_Past_int_All.f k none T = some (.fn (.func 15) [] [.ptr (some (HA.cell0 c))], T') ∧ T.next ≤ c ∧ c < T'.next ∧ T'.heap c = .cells 1 [[s'.hv]] true ∧ Rd T'.next T' 2 s' (([] : List Ent).map pairRow) ∧ Fr T.next T T' := by
  unfold was_Past_int_All.f
  rw [rows_nil hk, Option.bind_some, letv, sets_cell _ (new_here _ _), Option.bind_some]
  refine ⟨T.next, Sl.nil, _, rfl, Nat.le_refl _, Nat.lt_succ_self _, put_here _ _ _, ?_, (Fr.new (Nat.le_refl _) _).trans (Fr.put (Nat.le_refl _) _)⟩
  exact ⟨rfl, fun q hq => by cases hq⟩
theorem find_nil {k : Nat} {T : HS} (hk : 0 < k) (nm : List UInt8) :
    ∃ c s cA cN T', was_Past_int_Find.f k none nm T = some (.fn (.func 16) [] [.ptr (some (HA.cell0 cA)), .ptr (some (HA.cell0 cN))], T') ∧ T'.heap cA = .cells 1 [[.fn (.func 15) [] [.ptr (some (HA.cell0 c))]]] true ∧ T'.heap cN = .cells 1 [[.str nm]] true ∧ T'.heap c = .cells 1 [[s.hv]] true ∧
      Rd T'.next T' 2 s (([] : List Ent).map pairRow) ∧ (T.next ≤ c ∧ c < T'.next) ∧ (T.next ≤ cA ∧ cA < T'.next) ∧ (T.next ≤ cN ∧ cN < T'.next) ∧ Fr T.next T T' := by
  obtain ⟨c, s, T2, e, c1, c2, c3, c4, c5⟩ := all_nil hk (T.new (.cells 1 [[.str nm]] true))
  rw [new_next] at c1 c5
  have hle := c5.le
  rw [new_next] at hle
  unfold was_Past_int_Find.f
  rw [letv, e, Option.bind_some, letv]
  simp only [dF, Option.bind_some]
  rw [sets_cell _ (new_here _ _), Option.bind_some]
  refine ⟨c, s, T2.next, T.next, _, rfl, put_here _ _ _, ?_, ?_, ?_, ⟨by omega, ?_⟩, ⟨by omega, ?_⟩, ⟨Nat.le_refl _, ?_⟩, ?_⟩
  · rw [put_other _ (by omega), new_old _ (by omega), c5.eq _ (by omega)]; exact new_here _ _
  · rw [put_other _ (by omega), new_old _ (by omega)]; exact c3
  · exact ((c4.frame (Fr.new (Nat.le_refl _) _) (Nat.le_refl _)).frame (Fr.put (Nat.le_refl _) _) (Nat.le_refl _)).mono (Nat.le_succ _)
  · simp only [put_next, new_next]; omega
  · simp only [put_next, new_next]; omega
  · simp only [put_next, new_next]; omega
  · exact (((Fr.new (Nat.le_refl _) _).trans (c5.mono (Nat.le_succ _))).trans (Fr.new (by omega) _)).trans (Fr.put (by omega) _)

theorem nil_same {k : Nat} {T : HS} (hk : 2000 ≤ k) {want : Sl} {ys : List Ent} (hrd : Rd T.next T 2 want (ys.map pairRow)) (hy : ys.length ≤ 1000000) (nm : List UInt8) (all : Bool) :
    ∃ T', rollcalllaw13_same.f (disp k 3) (fun _ => none) k none want nm all T = some (decide ((if all then ([] : List Ent) else ([] : List Ent).filter (likeName nm)) = ys), T') ∧ Fr T.next T T' := by
  have hw2 : ((T.new (.cells 1 [[want.hv]] true)).new (.cells 1 [[.bool false]] true)).heap T.next = .cells 1 [[want.hv]] true := by rw [new_old _ (by rw [new_next]; omega)]; exact new_here _ _
  have hr2 : ((T.new (.cells 1 [[want.hv]] true)).new (.cells 1 [[.bool false]] true)).heap (T.next + 1) = .cells 1 [[.bool false]] true := new_here (T.new (.cells 1 [[want.hv]] true)) _
  have hd2 : Rd T.next ((T.new (.cells 1 [[want.hv]] true)).new (.cells 1 [[.bool false]] true)) 2 want (ys.map pairRow) := (hrd.frame (Fr.new (Nat.le_refl _) _) (Nat.le_refl _)).frame (Fr.new (by rw [new_next]; omega) _) (Nat.le_refl _)
  have hf2 : Fr T.next T ((T.new (.cells 1 [[want.hv]] true)).new (.cells 1 [[.bool false]] true)) := (Fr.new (Nat.le_refl _) _).trans (Fr.new (by rw [new_next]; omega) _)
  have hn2 : ((T.new (.cells 1 [[want.hv]] true)).new (.cells 1 [[.bool false]] true)).next = T.next + 2 := rfl
  rw [rollcalllaw13_same.f, letv, letv, new_next]
  generalize (T.new (.cells 1 [[want.hv]] true)).new (.cells 1 [[.bool false]] true) = T2 at *
  obtain ⟨c, s, cA, cN, T3, e3, g1, g2, g3, g4, g5, g6, g7, g8⟩ := find_nil (k := k) (T := T2) (by omega) nm
  rw [e3, Option.bind_some]
  rw [hn2] at g5 g6 g7 g8
  have hle3 : T.next + 2 ≤ T3.next := by have := g8.le; omega
  have hkn : ∀ x ∈ ([] : List Ent), x.1.length ≤ 1000 := fun x hx => by cases hx
  cases all with
  | false =>
    rw [if_neg (by simp)]
    have hB : T3.heap T.next = .cells 1 [[want.hv]] true := (g8.eq _ (by omega)).trans hw2
    have hBr : T3.heap (T.next + 1) = .cells 1 [[.bool false]] true := (g8.eq _ (by omega)).trans hr2
    obtain ⟨T', e, k1, k2⟩ := same_core (D := disp k 3) (k := k) (w0 := T.next) (r0 := T.next + 1) (B := T3) (want := want) (Ls := (([] : List Ent)).filter (likeName nm)) (ys := ys) (f := .func 16) (u := []) (v := [.ptr (some (HA.cell0 cA)), .ptr (some (HA.cell0 cN))]) (by omega) (by omega) (by omega) hB hBr
      ((hd2.mono (show T.next ≤ T.next + 1 by omega)).frame g8 (by omega)) hy (by
        intro H r I Stop hl hst hsS hmm hmS hkeep hstep S hS
        exact find_tells (n := 0) (m := T3.next + 4) (c := c) (cA := cA) (cN := cN) (xs := ([] : List Ent)) (s := s) (nm := nm) hl I Stop hst hsS hmm hmS (fun i S h => (hkeep i S h cA (by omega) (by omega)).trans g1) (fun i S h => (hkeep i S h cN (by omega) (by omega)).trans g2) (fun i S h => (hkeep i S h c (by omega) (by omega)).trans g3)
          (fun i S h => keep_rows g4 hBr (hkeep i S h)) hstep (by simp) (by simp; omega) hk hkn S hS)
    refine ⟨T', by simpa using e, ⟨by omega, fun id hid => ?_⟩⟩
    rw [k1 id (by omega) (by omega), g8.eq id (by omega)]
    exact hf2.eq id hid
  | true =>
    rw [if_pos rfl]
    obtain ⟨c', s', T4, e4, q1, q2, q3, q4, q5⟩ := all_nil (k := k) (by omega) T3
    have hle4 := q5.le
    rw [e4, Option.bind_some]
    have hB : T4.heap T.next = .cells 1 [[want.hv]] true := (q5.eq _ (by omega)).trans ((g8.eq _ (by omega)).trans hw2)
    have hBr : T4.heap (T.next + 1) = .cells 1 [[.bool false]] true := (q5.eq _ (by omega)).trans ((g8.eq _ (by omega)).trans hr2)
    obtain ⟨T', e, k1, k2⟩ := same_core (D := disp k 3) (k := k) (w0 := T.next) (r0 := T.next + 1) (B := T4) (want := want) (Ls := ([] : List Ent)) (ys := ys) (f := .func 15) (u := []) (v := [.ptr (some (HA.cell0 c'))]) (by omega) (by omega) (by omega) hB hBr
      (((hd2.mono (show T.next ≤ T.next + 1 by omega)).frame g8 (by omega)).frame q5 (by omega)) hy (by
        intro H r I Stop hl hst hsS hmm hmS hkeep hstep S hS
        exact all_tells (n := 1) (m := T4.next + 4) (c := c') (xs := ([] : List Ent)) (s := s') hl I Stop hst hmm (fun i S h => (hkeep i S h c' (by omega) (by omega)).trans q3)
          (fun i S h => keep_rows q4 hBr (hkeep i S h)) (fun i hi S h => by
            obtain ⟨b, S', z1, z2, z3, z4⟩ := hstep i hi S h
            exact ⟨b, S', z1, z3, z4⟩) (by simp) (by simp; omega) S hS)
    refine ⟨T', by simpa using e, ⟨by omega, fun id hid => ?_⟩⟩
    rw [k1 id (by omega) (by omega), q5.eq id (by omega), g8.eq id (by omega)]
    exact hf2.eq id hid

theorem all_tells2 {k n l c : Nat} {H : Hd} {r : List HV → HS → Option (HV × HS)} {xs : List Ent} {s : Sl} (hl : H l = some r) (I : Nat → HS → Prop) (Stop : HS → Prop)
    (hst : ∀ i S S', I i S → Fr S.next S S' → I i S') (hc : ∀ i S, I i S → S.heap c = .cells 1 [[s.hv]] true) (hrd : ∀ i S, I i S → S.rows s 2 = some (xs.map pairRow))
    (hstep : ∀ i (hi : i < xs.length) S, I i S → ∃ b S', r [.str xs[i].1, .int .i64 xs[i].2] S = some (.bool b, S') ∧ (b = true → I (i + 1) S') ∧ (b = false → Stop S')) (hx : xs.length ≤ 1000000) (hk : xs.length < k) (S : HS) (hS : I 0 S) :
    ∃ S', disp k (n + 2) H (.fn (.func 15) [] [.ptr (some (HA.cell0 c))]) [.fn (.yield l) [] []] S = some (.tup [], S') ∧ (I xs.length S' ∨ Stop S') := by
  have hloop : ∀ f i S, xs.length - i < f → i ≤ xs.length → I i S → ∃ S', was_Past_int_All_1.L0 (disp k (n + 1)) H k f (.fn (.yield l) [] []) s (xs.length : Int) (i : Int) S = some ((), S') ∧ (I xs.length S' ∨ Stop S') := by
    intro f
    induction f with
    | zero => intro i S h; omega
    | succ f ih =>
      intro i S hf hi hI
      unfold was_Past_int_All_1.L0
      by_cases hlt : i < xs.length
      · obtain ⟨ad, a1, a2, a3⟩ := pair_rows (hrd i S hI) (i := i) hlt
        rw [if_pos (by omega), a1, Option.bind_some, a2, Option.bind_some, a3, Option.bind_some, letv, show HA.cell0 S.next = (⟨S.next, 0, 0⟩ : HA) from rfl, sets_row (new_here S _) rfl (by simp), Option.bind_some]
        have hp : ((S.new (.cells 2 [[.str [], .int .i64 0]] true)).put S.next (.cells 2 ([[HV.str [], .int .i64 0]].set 0 (List.take 0 [HV.str [], .int .i64 0] ++ [.str xs[i].1, .int .i64 xs[i].2] ++ List.drop (0 + [HV.str xs[i].1, .int .i64 xs[i].2].length) [HV.str [], .int .i64 0])) true)).heap S.next = .cells 2 [[.str xs[i].1, .int .i64 xs[i].2]] true := put_here _ _ _
        have hr := cell_row hp
        rw [row_ldS hr rfl rfl, Option.bind_some, row_ldI hr rfl rfl, Option.bind_some]
        have hI2 := hst i S _ hI ((Fr.new (Nat.le_refl _) (.cells 2 [[.str [], .int .i64 0]] true)).trans (Fr.put (Nat.le_refl _) (.cells 2 ([[HV.str [], .int .i64 0]].set 0 (List.take 0 [HV.str [], .int .i64 0] ++ [.str xs[i].1, .int .i64 xs[i].2] ++ List.drop (0 + [HV.str xs[i].1, .int .i64 xs[i].2].length) [HV.str [], .int .i64 0])) true)))
        obtain ⟨b, S2, e2, k1, k2⟩ := hstep i hlt _ hI2
        rw [disp_yield, hl, Option.bind_some, e2, Option.bind_some]
        simp only [dB, Option.bind_some]
        cases b with
        | false => exact ⟨S2, rfl, .inr (k2 rfl)⟩
        | true =>
          rw [if_neg (by simp), w64_id (by omega) (by omega), show ((i : Int) + 1) = ((i + 1 : Nat) : Int) by simp]
          exact ih (i + 1) S2 (by omega) (by omega) (k1 rfl)
      · obtain rfl : i = xs.length := by omega
        rw [if_neg (by omega)]
        exact ⟨S, rfl, .inl hI⟩
  obtain ⟨S', e, h⟩ := hloop k 0 S (by omega) (by omega) hS
  refine ⟨S', ?_, h⟩
  rw [disp_func]
  have hlen : (s.len : Int) = xs.length := by rw [← rows_len (hrd 0 S hS)]; simp
  have e' : call_15 (disp k (n + 1)) H k ([] ++ [HV.fn (.yield l) [] []] ++ [.ptr (some (HA.cell0 c))]) S = some (.tup [], S') := by
    rw [call_15]
    simp only [List.nil_append, List.cons_append, args2, Option.bind_some, dF, dP]
    rw [was_Past_int_All_1.f, Option.bind_some, ldSl_cell (hc 0 S hS), Option.bind_some, hlen]
    erw [e]
    rfl
  simp only [if_true, show ¬ (15 : Nat) = 16 by decide, if_false, e']

end Go.Proofs.Ytlmpmnbljpigiaa.X
