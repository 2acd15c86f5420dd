/- The layer set: SetStays, plain. -/
import Derived.Test.YtpdainofeaombaaSsMeet
namespace Go.Proofs.Ytpdainofeaombaa.X
open Go.Proofs.Ytpdainofeaombaa.HL
set_option linter.unusedVariables false
set_option maxRecDepth 100000
namespace KI
theorem awake_at (h : Nat → HObj) (m : Nat → Bool) : (rollcalllaw10_awake.f (disp 2000 4) (fun _ => none) 2000 ⟨h, 2, m⟩).map (fun p => (p.1, p.2.heap 0, p.2.heap 1, decide (2 ≤ p.2.next))) = some (true, h 0, h 1, true) := by kernel_rfl
theorem awake_spec {S : HS} (hn : S.next = 2) : ∃ S', rollcalllaw10_awake.f (disp 2000 4) (fun _ => none) 2000 S = some (true, S') ∧ Fr 2 S S' := by
  obtain ⟨h, n, m⟩ := S
  obtain rfl : n = 2 := hn
  have e := awake_at h m
  cases hq : rollcalllaw10_awake.f (disp 2000 4) (fun _ => none) 2000 ⟨h, 2, m⟩ with
  | none => rw [hq] at e; cases e
  | some p =>
    rw [hq] at e
    simp only [Option.map_some, Option.some.injEq, Prod.mk.injEq, decide_eq_true_eq] at e
    obtain ⟨e1, e2, e3, e4⟩ := e
    obtain ⟨b, S'⟩ := p
    simp only at e1 e2 e3 e4
    subst e1
    refine ⟨S', rfl, e4, fun id hid => ?_⟩
    rcases (show id = 0 ∨ id = 1 by omega) with rfl | rfl
    · exact e2
    · exact e3
/-- A function that tells nothing. -/
theorem without_tells {n a c : Nat} {S : HS} (h : S.heap a = .cells 1 [[.nilFn]] true) : Tells (disp 2000 (n + 1)) (.fn (.func 25) [] [.ptr (some (HA.cell0 a)), .ptr (some (HA.cell0 c))]) (([] : List Ky).map row1) (fun id => id = a) S := by
  intro H l I Stop ht O T hI hB
  have ha : (T.new (.cells 1 [[.fn (.yield l) [] []]] true)).heap a = .cells 1 [[.nilFn]] true := by rw [new_old _ (hB a rfl).2.2]; exact (hB a rfl).1.trans h
  refine ⟨T.new (.cells 1 [[.fn (.yield l) [] []]] true), O, ?_, by rw [new_next]; omega, fun id h1 _ => new_old _ h1, fun _ h => .inl h, .inl (ht.keep 0 O T _ hI (fun id ho => new_old _ (ht.lt 0 O T hI id ho)) (by rw [new_next]; omega))⟩
  rw [disp_func, if_neg (by decide), if_neg (by decide), if_pos rfl]
  rw [call_25]
  simp only [List.nil_append, List.cons_append, args3, Option.bind_some, dF, dP]
  rw [set_Without_int_1.f, show dF (.fn (.yield l) [] []) = some (.fn (.yield l) [] []) from rfl, Option.bind_some, letv, Option.bind_some, HS.ldF, get_cell ha, Option.bind_some, show dF HV.nilFn = some HV.nilFn from rfl, Option.bind_some, show HV.isNilFn HV.nilFn = some true from rfl, Option.bind_some, if_pos rfl]
  rfl
theorem setStays_law {S : HS} {sa sb : Sl} {av bv : List Ky} (hn : S.next = 2) (hra : Rd S.next S 1 sa (av.map row1)) (hrb : Rd S.next S 1 sb (bv.map row1)) : ∃ S', rollcalllaw10_SetStays.f (disp 2000 4) (fun _ => none) 2000 sa sb S = some (true, S') := by
  rw [rollcalllaw10_SetStays.f]
  obtain ⟨A, e1, f1⟩ := awake_spec hn
  have l1 : 2 ≤ A.next := by have := f1.le; omega
  have ra : Rd 2 A 1 sa (av.map row1) := (hn ▸ hra).frame f1 (Nat.le_refl _)
  have rb : Rd 2 A 1 sb (bv.map row1) := (hn ▸ hrb).frame f1 (Nat.le_refl _)
  have la : (sa.len : Int) = av.length := by rw [ra.len]; simp
  have lb : (sb.len : Int) = bv.length := by rw [rb.len]; simp
  rw [e1, Option.bind_some, if_neg (by simp), la, lb]
  by_cases h30 : av.length > 30
  · rw [if_pos (by omega), rollcalllaw10_SetStays.J0, if_pos rfl]; exact ⟨A, rfl⟩
  rw [if_neg (by omega), rollcalllaw10_SetStays.J0]
  by_cases h30' : bv.length > 30
  · rw [if_pos (decide_eq_true (by omega))]; exact ⟨A, rfl⟩
  rw [if_neg (by rw [decide_eq_false (by omega)]; simp)]
  obtain ⟨s1, xs1, A1, e2, i1, f2, o1, m1, c1⟩ := of_spec (k := 2000) (Nat.le_refl _) (ra.mono l1) (by omega)
  have l2 := f2.le
  obtain ⟨s2, xs2, A2, e3, i2, f3, o2, m2, c2⟩ := of_spec (k := 2000) (Nat.le_refl _) ((rb.frame f2 l1).mono (m' := A1.next) (by omega)) (by omega)
  have l3 := f3.le
  have i1' := i1.fr f3
  obtain ⟨c, sc, A3, e4, d4, r4, hc, hq, f4⟩ := all_spec i1'
  have l4 := f4.le
  have fl : Fr A3.next A3 (A3.lit [[.ptr (some (HA.cell0 A.next))], [.ptr none], [.ptr (some (HA.cell0 A1.next))]] 1).2 := lit_fr _ (Nat.le_refl _)
  have nl : (A3.lit [[.ptr (some (HA.cell0 A.next))], [.ptr none], [.ptr (some (HA.cell0 A1.next))]] 1).2.next = A3.next + 1 := rfl
  have rl : Rd (A3.lit [[.ptr (some (HA.cell0 A.next))], [.ptr none], [.ptr (some (HA.cell0 A1.next))]] 1).2.next (A3.lit [[.ptr (some (HA.cell0 A.next))], [.ptr none], [.ptr (some (HA.cell0 A1.next))]] 1).2 1 (A3.lit [[.ptr (some (HA.cell0 A.next))], [.ptr none], [.ptr (some (HA.cell0 A1.next))]] 1).1 ([some A.next, none, some A1.next].map ptrRow) := (Vec.lit (n := 0) (z := 1) (S := A3) _ (Nat.zero_le _)).rd
  rw [e2, Option.bind_some, e3, Option.bind_some, e4, Option.bind_some, letv]
  simp only
  generalize A3.lit [[.ptr (some (HA.cell0 A.next))], [.ptr none], [.ptr (some (HA.cell0 A1.next))]] 1 = P at fl nl rl ⊢
  obtain ⟨sl, A4⟩ := P
  simp only at fl nl rl ⊢
  have i1_4 := (i1'.fr f4).fr fl
  have i2_4 := (i2.fr f4).fr fl
  have hsets : Sets [some A.next, none, some A1.next] [xs1, [], xs2] A4 := by
    refine ⟨rfl, fun j hj hj' => ?_⟩
    match j, hj with
    | 0, _ => exact ⟨s1, i1_4⟩
    | 1, _ => rfl
    | 2, _ => exact ⟨s2, i2_4⟩
  obtain ⟨su, sls, A5, e5, d5, u5, f5, n5⟩ := union_spec (k := 2000) (Nat.le_refl _) hsets rl (by simp)
  have l5 := f5.le
  have i1_5 := i1_4.fr f5
  have i2_5 := i2_4.fr f5
  have lt1 : ∀ id, Own A.next s1 id → A.next ≤ id ∧ id < A2.next := fun id h => ⟨o1 id h, i1'.lt h⟩
  have lt2 : ∀ id, Own A1.next s2 id → A1.next ≤ id ∧ id < A2.next := fun id h => ⟨o2 id h, i2.lt h⟩
  have ra5 : Rd 2 A5 1 sa (av.map row1) := ((((ra.frame f2 l1).frame f3 (by omega)).frame f4 (by omega)).frame fl (by omega)).frame f5 (by omega)
  have rb5 : Rd 2 A5 1 sb (bv.map row1) := ((((rb.frame f2 l1).frame f3 (by omega)).frame f4 (by omega)).frame fl (by omega)).frame f5 (by omega)
  obtain ⟨s1a, xs1a, A6, e6, i6, o6, m6, c6, c6'⟩ := add_spec (k := 2000) (Nat.le_refl _) i1_5 rb5.rows (fun q hq => by
    have := rb5.lt q hq
    exact ⟨by omega, fun h => by have := (lt1 _ h).1; omega⟩) (by omega)
  have l6 := o6.le
  have lt6 : ∀ id, Own A.next s1a id → A.next ≤ id ∧ (id < A2.next ∨ A5.next ≤ id) := fun id h => by
    rcases o6.own id h with g | g
    · exact ⟨(lt1 id g).1, .inl (lt1 id g).2⟩
    · exact ⟨by omega, .inr g⟩
  have ra6 : A6.rows sa 1 = some (av.map row1) := rows_keep ra5.rows fun q hq => o6.eq q.1 (by have := ra5.lt q hq; omega) (fun h => by have := (lt1 _ h).1; have := ra5.lt q hq; omega)
  have rb6 : A6.rows sb 1 = some (bv.map row1) := rows_keep rb5.rows fun q hq => o6.eq q.1 (by have := rb5.lt q hq; omega) (fun h => by have := (lt1 _ h).1; have := rb5.lt q hq; omega)
  obtain ⟨s1b, xs1b, A7, e7, i7, o7, m7, c7⟩ := remove_spec (k := 2000) (Nat.le_refl _) i6 ra6 (fun q hq => by
    have := ra5.lt q hq
    exact ⟨by omega, fun h => by have := (lt6 _ h).1; omega⟩) (by omega)
  have l7 := o7.le
  have hdis : ∀ id, Own A1.next s2 id → ¬ Own A.next s1 id := fun id h1 h2 => by
    have := i1.lt h2
    have := (lt2 id h1).1
    omega
  have i2_7 : SI A1.next s2 xs2 A7 := by
    refine i2_5.keep (fun id h => ?_) (by omega)
    have := lt2 id h
    rw [o7.eq id (by omega) (fun h2 => by
      rcases o6.own id h2 with g | g
      · exact hdis id h g
      · omega), o6.eq id (by omega) (hdis id h)]
  have rb7 : A7.rows sb 1 = some (bv.map row1) := rows_keep rb6 fun q hq => o7.eq q.1 (by have := rb5.lt q hq; omega) (fun h => by have := (lt6 _ h).1; have := rb5.lt q hq; omega)
  obtain ⟨s2a, xs2a, A8, e8, i8, o8, m8, c8⟩ := remove_spec (k := 2000) (Nat.le_refl _) i2_7 rb7 (fun q hq => by
    have := rb5.lt q hq
    exact ⟨by omega, fun h => by have := (lt2 _ h).1; omega⟩) (by omega)
  have l8 := o8.le
  have hmid : ∀ id, A2.next ≤ id → id < A5.next → A8.heap id = A5.heap id := fun id g1 g2 => by
    rw [o8.eq id (by omega) (fun h => by have := (lt2 _ h).2; omega), o7.eq id (by omega) (fun h => by have := (lt6 _ h).2; omega), o6.eq id (by omega) (fun h => by have := (lt1 _ h).2; omega)]
  have he2 : xs2a = [] := by
    cases xs2a with
    | nil => rfl
    | cons v w =>
      have := (m8 v).1 (by simp)
      exact absurd ((m2 v).1 this.1) this.2
  have d8 : A8.heap c = .cells 1 [[sc.hv]] true := by rw [hmid c (by omega) (by omega), f5.eq c (by omega), fl.eq c (by omega)]; exact d4
  have r8 : A8.rows sc 1 = some (xs1.map row1) := rows_keep r4 fun q hq' => by have := hq q hq'; rw [hmid q.1 (by omega) (by omega), f5.eq q.1 (by omega), fl.eq q.1 (by omega)]
  have hT1 := values_tells (k := 2000) (n := 2) (xs := xs1) (by omega) (by omega) d8 r8 (fun id => id = c ∨ ∃ q, sc.a = some q ∧ q.1 = id) ⟨.inl rfl, fun q hq => .inr ⟨q, hq, rfl⟩⟩
  obtain ⟨x, A9, e9, r9, _, f9⟩ := told_spec (n := 0) (most := 99) hT1 (fun id h => by
    rcases h with rfl | ⟨q, h, rfl⟩
    · omega
    · have := hq q h; omega) (by omega) (by omega)
  have l9 := f9.le
  have u9 : UI (A4.next + 1) su sls [xs1, [], xs2] A9 := u5.keep (fun id g1 g2 _ => by rw [f9.eq id (by omega), hmid id (by omega) g2]) (by omega)
  have d9 : A9.heap A4.next = .cells 1 [[su.hv]] true := by rw [f9.eq _ (by omega), hmid _ (by omega) (by omega)]; exact d5
  have hlo : ∀ s ∈ sls, ∀ q, s.a = some q → q.1 < A9.next := fun s hs q hq => by
    obtain ⟨j, hj, rfl⟩ := List.getElem_of_mem hs
    exact (u9.lo j hj q hq).2.1
  have hT2 := union_tells (k := 2000) (n := 2) (c := A4.next) (W := xs1a) (Nat.le_refl _) (vals := [xs1, [], xs2]) ⟨i6.srt, fun v => by rw [m6, ← m2]; simp⟩ (by omega) (by simp) (fun xs h => by
    simp only [List.mem_cons, List.not_mem_nil, or_false] at h
    rcases h with rfl | rfl | rfl
    · exact ⟨i1.srt, i1.cnt⟩
    · exact ⟨List.Pairwise.nil, by simp⟩
    · exact ⟨i2.srt, i2.cnt⟩) d9 u9 (fun id => id = A4.next ∨ (∃ q, su.a = some q ∧ q.1 = id) ∨ ∃ s ∈ sls, ∃ q, s.a = some q ∧ q.1 = id) (.inl rfl) (fun q hq => .inr (.inl ⟨q, hq, rfl⟩)) (fun s hs q hq => .inr (.inr ⟨s, hs, q, hq, rfl⟩))
  obtain ⟨y, A10, e10, r10, _, f10⟩ := told_spec (n := 0) (most := 99) hT2 (fun id h => by
    rcases h with rfl | ⟨q, h, rfl⟩ | ⟨s, hs, q, h, rfl⟩
    · omega
    · exact (u9.vec.lo q h).2
    · exact hlo s hs q h) (by omega) (by omega)
  have l10 := f10.le
  obtain ⟨c0, s0, A11, e11, d11, r11, hc11, hq11, f11⟩ := all_opt (p := none) (xs := []) (S := A10) rfl
  have l11 := f11.le
  have hT3 := values_tells (k := 2000) (n := 2) (xs := []) (by simp) (by simp) d11 r11 (fun id => id = c0 ∨ ∃ q, s0.a = some q ∧ q.1 = id) ⟨.inl rfl, fun q hq => .inr ⟨q, hq, rfl⟩⟩
  obtain ⟨z, A12, e12, r12, _, f12⟩ := told_spec (n := 0) (most := 0) hT3 (fun id h => by
    rcases h with rfl | ⟨q, h, rfl⟩
    · omega
    · have := hq11 q h; omega) (by simp) (by simp)
  have l12 := f12.le
  have dW : ((A12.new (.cells 1 [[.nilFn]] true)).new (.cells 1 [[.int .i64 1]] true)).heap A12.next = .cells 1 [[.nilFn]] true := by rw [new_old _ (by rw [new_next]; omega)]; exact new_here _ _
  obtain ⟨w, A13, e13, r13, _, f13⟩ := told_spec (n := 0) (most := 0) (without_tells (n := 3) (c := A12.next + 1) dW) (fun id h => by subst h; show A12.next < A12.next + 1 + 1; omega) (by simp) (by simp)
  have lW : ((A12.new (.cells 1 [[.nilFn]] true)).new (.cells 1 [[.int .i64 1]] true)).next = A12.next + 2 := rfl
  have l13 := f13.le
  have fW : Fr A12.next A12 ((A12.new (.cells 1 [[.nilFn]] true)).new (.cells 1 [[.int .i64 1]] true)) := (Fr.new (Nat.le_refl _) _).trans (Fr.new (by rw [new_next]; omega) _)
  rw [Option.map_none] at e11
  rw [e5, Option.bind_some, len_spec i1_5, Option.bind_some, e6, Option.bind_some]
  simp only
  rw [len_spec i6, Option.bind_some, e7, Option.bind_some, e8, Option.bind_some]
  simp only
  erw [e9]
  rw [Option.bind_some]
  simp only
  erw [e10]
  rw [Option.bind_some]
  simp only
  rw [e11, Option.bind_some]
  simp only
  erw [e12]
  rw [Option.bind_some]
  simp only
  rw [set_Without_int.f, show dF HV.nilFn = some HV.nilFn from rfl, Option.bind_some, letv, letv, Option.bind_some]
  simp only
  erw [e13]
  rw [Option.bind_some]
  simp only [if_true]
  have lx : (x.len : Int) = xs1.length := by rw [← rows_len r9]; simp
  have ly : (y.len : Int) = xs1a.length := by rw [← rows_len r10]; simp
  have lz : (z.len : Int) = 0 := by rw [← rows_len r12]; simp
  have lw : (w.len : Int) = 0 := by rw [← rows_len r13]; simp
  have i8' : SI A1.next s2a xs2a A13 := ((((i8.fr f9).fr f10).fr f11).fr f12).fr fW |>.fr f13
  have i1_8 : SI A.next s1b xs1b A8 := by
    refine i7.keep (fun id h => o8.eq id (i7.lt h) fun h2 => ?_) l8
    rcases o7.own id h with g | g
    · rcases o6.own id g with g' | g'
      · exact hdis id h2 g'
      · have := (lt2 _ h2).2; omega
    · have := (lt2 _ h2).2; omega
  have i1_13 : SI A.next s1b xs1b A13 := ((((i1_8.fr f9).fr f10).fr f11).fr f12).fr fW |>.fr f13
  rw [rollcalllaw10_SetStays.J1, if_pos rfl, lx, decide_eq_true rfl, rollcalllaw10_SetStays.J2, if_pos rfl, ly, decide_eq_true rfl, rollcalllaw10_SetStays.J3, if_pos rfl, len_spec i8', Option.bind_some, he2]
  have fL : ∀ T : HS, Fr T.next T (T.lit [[.int .i64 1]] 1).2 := fun T => lit_fr _ (Nat.le_refl _)
  simp only [rollcalllaw10_SetStays.J4, rollcalllaw10_SetStays.J5, rollcalllaw10_SetStays.J6, rollcalllaw10_SetStays.J7, rollcalllaw10_SetStays.J8, rollcalllaw10_SetStays.J9, rollcalllaw10_SetStays.J10, rollcalllaw10_SetStays.J11, if_true, List.length_nil, Int.natCast_zero, decide_true, lz, lw, Int.add_zero, show w64 0 = 0 by rw [w64_id (by omega) (by omega)],
    letv, set_Set_int_Add.f, set_Set_int_Remove.f, set_Set_int_Has.f, set_Set_int_Len.f, set_Set_int_List.f, Option.isNone_none, Option.bind_some, Bool.not_false, show (Sl.nil.len : Int) = 0 from rfl]
  have g1 := (fL A13).trans ((fL (A13.lit [[.int .i64 1]] 1).2).mono (Nat.le_succ _))
  have j1 := i1_13.fr g1
  generalize ((A13.lit [[.int .i64 1]] 1).2.lit [[.int .i64 1]] 1).2 = B at g1 j1 ⊢
  rw [rollcalllaw10_SetStays.J12, if_pos rfl]
  obtain ⟨B1, e14, f14⟩ := meet_spec (n := 2) (a := none) (b := some A.next) (xs := []) (ys := xs1b) (S := B) rfl ⟨s1b, j1⟩ (by simp)
  rw [Option.map_none, Option.map_some] at e14
  obtain ⟨B2, e15, f15⟩ := meet_spec (n := 2) (a := some A.next) (b := none) (xs := xs1b) (ys := []) (S := B1) ⟨s1b, j1.fr f14⟩ rfl j1.cnt
  rw [Option.map_none, Option.map_some] at e15
  rw [e14, Option.bind_some]
  simp only
  rw [decide_eq_false (by simp), rollcalllaw10_SetStays.J13, if_pos (by rfl), e15, Option.bind_some]
  simp only
  rw [decide_eq_false (by simp), rollcalllaw10_SetStays.J14]
  exact ⟨_, rfl⟩
end KI
theorem rows_ints : ∀ {rows : List (List HV)}, (∀ row ∈ rows, RowFits [.int .i64] row) → ∃ ls : List Int, rows = ls.map KI.row1 := by
  intro rows
  induction rows with
  | nil => intro _; exact ⟨[], rfl⟩
  | cons r rows ih =>
    intro h
    obtain ⟨ls, e⟩ := ih fun row hr => h row (by simp [hr])
    have h0 := h r (by simp)
    have hl := h0.len
    obtain ⟨v0, rfl⟩ : ∃ v0, r = [v0] := by
      match r, hl with
      | [a], _ => exact ⟨a, rfl⟩
    obtain ⟨q0, _⟩ := h0
    obtain ⟨n, h1, _⟩ := q0
    exact ⟨n :: ls, by rw [e, h1]; rfl⟩
theorem setStays_call (W : World) (β0 : Bt) (S : HS) (s0 : Sl) (rows0 : List (List HV)) (h0 : ArgSl S 1 s0 rows0) (f0 : ∀ row ∈ rows0, RowFits [.int .i64] row) (s1 : Sl) (rows1 : List (List HV)) (h1 : ArgSl S 1 s1 rows1) (f1 : ∀ row ∈ rows1, RowFits [.int .i64] row) (hn : S.next = 2 := by rfl) :
    HCall Try.prog W.heap.size W β0 5 [s0.hv, s1.hv] S (fun v _ => v = .bool true) := by
  obtain ⟨av, rfl⟩ := rows_ints f0
  obtain ⟨bv, rfl⟩ := rows_ints f1
  obtain ⟨_, h⟩ := KI.setStays_law hn h0.rd h1.rd
  exact (rollcalllaw10_SetStays.snd (disp_snd 4) (fun _ _ h => by cases h) h).mono fun _ _ h => h.1
end Go.Proofs.Ytpdainofeaombaa.X
