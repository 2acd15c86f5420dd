/- The layer fold: the law of the runs, plain. -/
import Derived.Test.YtigobginglaieaaFoldLaw
namespace Go.Proofs.Ytigobginglaieaa.X
open Go.Proofs.Ytigobginglaieaa.HL
set_option linter.unusedVariables false

structure FR (a : Nat) (x w : List UInt8) (last good : Bool) (st : LoopState) (T : HS) : Prop where
  x0 : T.heap 0 = .cells 1 [[.str x]] true
  wh : T.heap a = .cells 1 [[.str w]] true
  la : T.heap (a + 1) = .cells 1 [[.bool last]] true
  go : T.heap (a + 2) = .cells 1 [[.bool good]] true
  cx : T.heap (a + 3) = .cells 1 [[.str x]] true
  de : T.heap (a + 4) = .defer
  lo : T.heap (a + 5) = .loop st none
theorem FR.putW {a : Nat} {x w : List UInt8} {last good : Bool} {st : LoopState} {T : HS} (h : FR a x w last good st T) (ha : 0 < a) (w' : List UInt8) : FR a x w' last good st (T.put a (.cells 1 [[.str w']] true)) := by
  constructor <;> simp only [HS.put] <;> first | (simp; done) | (rw [if_neg (by omega)]; first | exact h.x0 | exact h.la | exact h.go | exact h.cx | exact h.de | exact h.lo)
theorem FR.putL {a : Nat} {x w : List UInt8} {last good : Bool} {st : LoopState} {T : HS} (h : FR a x w last good st T) (ha : 0 < a) (l' : Bool) : FR a x w l' good st (T.put (a + 1) (.cells 1 [[.bool l']] true)) := by
  constructor <;> simp only [HS.put] <;> first | (simp; done) | (rw [if_neg (by omega)]; first | exact h.x0 | exact h.wh | exact h.go | exact h.cx | exact h.de | exact h.lo)
theorem FR.putG {a : Nat} {x w : List UInt8} {last good : Bool} {st : LoopState} {T : HS} (h : FR a x w last good st T) (ha : 0 < a) (g' : Bool) : FR a x w last g' st (T.put (a + 2) (.cells 1 [[.bool g']] true)) := by
  constructor <;> simp only [HS.put] <;> first | (simp; done) | (rw [if_neg (by omega)]; first | exact h.x0 | exact h.wh | exact h.la | exact h.cx | exact h.de | exact h.lo)
theorem FR.putO {a : Nat} {x w : List UInt8} {last good : Bool} {st st' : LoopState} {T : HS} (h : FR a x w last good st T) (ha : 0 < a) : FR a x w last good st' (T.put (a + 5) (.loop st' none)) := by
  constructor <;> simp only [HS.put] <;> first | (simp; done) | (rw [if_neg (by omega)]; first | exact h.x0 | exact h.wh | exact h.la | exact h.go | exact h.cx | exact h.de)

def flag (b : UInt8) : Bool := !decide (((low b).toNat : Int) = (b.toNat : Int))

theorem runs_inner {D : Dp} {H : Hd} {a : Nat} (ha : 0 < a) {x w p : List UInt8} {last turned : Bool} (hp : p.length ≤ 1000) (hw : w.length ≤ 1000) (hf : ∀ b ∈ p, flag b = turned) : ∀ (n j : Nat) (T : HS), p.length - j < n → j ≤ p.length → FR a x w last true .busy T →
    ∃ T', rollcalllaw01_FoldRuns.L3 D H 1000 (a + 5) n (some (HA.cell0 a)) (some (HA.cell0 (a + 1))) (some (HA.cell0 (a + 2))) p turned (j : Int) T = some (.bool true, T') ∧ FR a x (w ++ p) turned true .ready T' := by
  intro n
  induction n with
  | zero => intro j T h; omega
  | succ n ih =>
    intro j T h hj hI
    unfold rollcalllaw01_FoldRuns.L3
    by_cases hlt : j < p.length
    · have hb : flag p[j] = turned := hf _ (List.getElem_mem hlt)
      unfold flag at hb
      rw [if_pos (by omega), Option.bind_some, ldB_cell hI.go, Option.bind_some, if_pos rfl, sat_lt hlt, Option.bind_some, byte_spec, Option.bind_some, Option.bind_some, Option.bind_some, hb, sets_cell _ hI.go, Option.bind_some, w64_id (by omega) (by omega), show ((j : Int) + 1) = ((j + 1 : Nat) : Int) by simp]
      refine ih (j + 1) _ (by omega) (by omega) ?_
      have := hI.putG ha true
      simpa using this
    · rw [if_neg (by omega), Option.bind_some, ldS_cell hI.wh, Option.bind_some, if_pos (by omega), Option.bind_some, sets_cell _ hI.wh, Option.bind_some, Option.bind_some]
      have h1 := hI.putW ha (w ++ p)
      rw [sets_cell _ h1.la, Option.bind_some]
      have h2 := h1.putL ha turned
      rw [endr_at none h2.lo]
      exact ⟨_, rfl, h2.putO ha⟩
theorem runs_round {D : Dp} {H : Hd} {a : Nat} (ha : 0 < a) {x w p : List UInt8} {last turned : Bool} {T : HS} (hp : p.length ≤ 999) (hw : w.length ≤ x.length) (hx : x.length ≤ 999) (hp0 : p ≠ []) (hl : w ≠ [] → (turned == last) = false) (hf : ∀ b ∈ p, flag b = turned) (hI : FR a x w last true .ready T) :
    ∃ T', rollcalllaw01_FoldRuns.J0 D H 1000 (a + 5) (some (HA.cell0 0)) (some (HA.cell0 a)) (some (HA.cell0 (a + 1))) (some (HA.cell0 (a + 2))) p turned T = some (.bool true, T') ∧ FR a x (w ++ p) turned true .ready T' := by
  have hpl : 0 < p.length := List.length_pos_iff.2 hp0
  have h1 : FR a x w last true .busy (T.put (a + 5) (.loop .busy none)) := hI.putO ha
  have h2 : ∃ T', rollcalllaw01_FoldRuns.J1 D H 1000 (a + 5) (some (HA.cell0 0)) (some (HA.cell0 a)) (some (HA.cell0 (a + 1))) (some (HA.cell0 (a + 2))) p turned false (T.put (a + 5) (.loop .busy none)) = some (.bool true, T') ∧ FR a x (w ++ p) turned true .ready T' := by
    rw [rollcalllaw01_FoldRuns.J1, if_neg (by simp), Option.bind_some, ldS_cell h1.wh, Option.bind_some, Option.bind_some, ldS_cell h1.x0, Option.bind_some, rollcalllaw01_FoldRuns.J2, if_neg (by simp; omega)]
    exact runs_inner ha (by omega) (by omega) hf 1000 0 _ (by omega) (by omega) h1
  rw [rollcalllaw01_FoldRuns.J0, begin_at hI.lo, Option.bind_some, if_neg (by omega), Option.bind_some, ldS_cell h1.wh, Option.bind_some]
  have e0 : decide ((p.length : Int) = 0) = false := by simp; exact hp0
  rw [e0]
  by_cases hw0 : w = []
  · rw [if_neg (by simp [hw0]), rollcalllaw01_FoldRuns.J4, if_neg (by simp)]
    exact h2
  · rw [if_pos (by simp [hw0]), Option.bind_some, ldB_cell h1.la, Option.bind_some, hl hw0, rollcalllaw01_FoldRuns.J4, if_neg (by simp)]
    exact h2

theorem runs_loop {H : Hd} {a : Nat} (ha : 0 < a) {x : List UInt8} (hx : x.length ≤ 200) {D0 : Dp} {H0 : Hd} (hD : ∀ p t T r, rollcalllaw01_FoldRuns.J0 D0 H0 1000 (a + 5) (some (HA.cell0 0)) (some (HA.cell0 a)) (some (HA.cell0 (a + 1))) (some (HA.cell0 (a + 2))) p t T = some r → T.lp (a + 5) = some () → disp 1000 1 H (.fn (.yield (a + 5)) [] []) [.str p, .bool t] T = some r) :
    ∀ (n i fr : Nat) (last : Bool) (T : HS), x.length - i < n → fr ≤ i → i ≤ x.length → FR a x (x.take fr) last true .ready T → (∀ (hi : i < x.length) (j : Nat) (hj : j < i), fr ≤ j → flag (x[j]'(by omega)) = flag x[i]) → (∀ (h0 : 0 < fr) (h1 : fr < x.length), last = flag (x[fr - 1]'(by omega)) ∧ flag (x[fr - 1]'(by omega)) ≠ flag x[fr]) → (i = x.length → fr = x.length) →
    ∃ T' last', fold_Runs_1.L0 (disp 1000 1) H 1000 n (.fn (.yield (a + 5)) [] []) (some (HA.cell0 (a + 3))) (fr : Int) (x.length : Int) (i : Int) T = some ((), T') ∧ FR a x x last' true .ready T' := by
  intro n
  induction n with
  | zero => intro i fr last T h; omega
  | succ n ih =>
    intro i fr last T h hfi hi hI hsame hbd hend
    unfold fold_Runs_1.L0
    by_cases hlt : i < x.length
    · rw [if_pos (by omega), Option.bind_some, ldS_cell hI.cx, Option.bind_some]
      have hw1 : w64 ((i : Int) + 1) = ((i + 1 : Nat) : Int) := by rw [w64_id (by omega) (by omega)]; simp
      rw [hw1]
      -- a piece is told
      have hyield : (∀ (h1 : i + 1 < x.length), flag x[i] ≠ flag x[i + 1]) → ∃ T' last', fold_Runs_1.J1 (disp 1000 1) H 1000 (fold_Runs_1.L0 (disp 1000 1) H 1000 n) (.fn (.yield (a + 5)) [] []) (some (HA.cell0 (a + 3))) (fr : Int) (i : Int) (x.length : Int) (i : Int) false T = some ((), T') ∧ FR a x x last' true .ready T' := by
        intro hne
        rw [fold_Runs_1.J1, if_neg (by simp), Option.bind_some, ldS_cell hI.cx, Option.bind_some, hw1, if_pos ⟨by omega, by omega, by omega⟩, Option.bind_some, ldS_cell hI.cx, Option.bind_some, sat_lt hlt, Option.bind_some, byte_spec, Option.bind_some, Option.bind_some, ldS_cell hI.cx, Option.bind_some, sat_lt hlt, Option.bind_some]
        have hpiece : ssub x (fr : Int) ((i + 1 : Nat) : Int) = (x.drop fr).take (i + 1 - fr) := by simp [ssub]
        rw [hpiece]
        have hcat : x.take fr ++ (x.drop fr).take (i + 1 - fr) = x.take (i + 1) := by
          rw [← List.take_add]; congr 1; omega
        have hround := runs_round (D := D0) (H := H0) ha (x := x) (w := x.take fr) (p := (x.drop fr).take (i + 1 - fr)) (last := last) (turned := flag x[i]) (T := T) (by simp; omega) (by simp; omega) (by omega) (by
          intro e
          have := congrArg List.length e
          simp at this; omega) (by
          intro hne0
          have h0 : 0 < fr := by
            rcases Nat.eq_zero_or_pos fr with e | e
            · subst e; simp at hne0
            · exact e
          obtain ⟨b1, b2⟩ := hbd h0 (by omega)
          rw [b1]
          have : flag x[i] = flag (x[fr]'(by omega)) := by
            rcases Nat.eq_or_lt_of_le hfi with e | e
            · subst e; rfl
            · exact (hsame hlt fr e (Nat.le_refl _)).symm
          rw [this]
          simp; exact fun e => b2 e.symm) (by
          intro b hb
          obtain ⟨j, hj, rfl⟩ := List.getElem_of_mem hb
          simp only [List.length_take, List.length_drop] at hj
          rw [List.getElem_take, List.getElem_drop]
          rcases Nat.eq_or_lt_of_le (show fr + j ≤ i by omega) with e | e
          · subst e; rfl
          · exact hsame hlt (fr + j) e (by omega)) hI
        obtain ⟨T1, e1, hI1⟩ := hround
        rw [hcat] at hI1
        have hd := hD _ _ _ _ e1 (lp_at hI.lo)
        unfold flag at hd
        rw [hd, Option.bind_some]
        simp only [dB, Option.bind_some, Bool.not_true, Bool.false_eq_true, if_false, fold_Runs_1.J2]
        rw [hw1]
        exact ih (i + 1) (i + 1) (flag x[i]) T1 (by omega) (Nat.le_refl _) (by omega) hI1 (fun h1 j hj hj2 => by omega) (fun h0 h1 => ⟨by simp, hne h1⟩) (fun h => h)
      by_cases h2 : i + 1 < x.length
      · rw [if_pos (by omega)]
        simp only [Option.bind_some, ldS_cell hI.cx, sat_lt hlt, sat_lt h2, byte_spec]
        by_cases hc : flag x[i] = flag x[i + 1]
        · have hc' : ((!decide (((low x[i]).toNat : Int) = (x[i].toNat : Int))) == (!decide (((low x[i + 1]).toNat : Int) = (x[i + 1].toNat : Int)))) = true := by
            have := hc; unfold flag at this; rw [this]; simp
          rw [hc', fold_Runs_1.J1, if_pos rfl, fold_Runs_1.J2, hw1]
          exact ih (i + 1) fr last T (by omega) (by omega) (by omega) hI (fun h3 j hj hj2 => by
            rw [← hc]
            rcases Nat.eq_or_lt_of_le (show j ≤ i by omega) with e | e
            · subst e; rfl
            · exact hsame hlt j e hj2) hbd (fun h => by omega)
        · have hc' : ((!decide (((low x[i]).toNat : Int) = (x[i].toNat : Int))) == (!decide (((low x[i + 1]).toNat : Int) = (x[i + 1].toNat : Int)))) = false := by
            have := hc; unfold flag at this; simpa using this
          rw [hc']
          exact hyield fun _ => hc
      · rw [if_neg (by omega)]
        exact hyield fun h1 => absurd h1 h2
    · rw [if_neg (by omega)]
      have := hend (by omega)
      subst this
      rw [List.take_length] at hI
      exact ⟨T, last, rfl, hI⟩

theorem foldRuns_law (x : List UInt8) : ∃ S', rollcalllaw01_FoldRuns.f (disp 1000 2) (fun _ => none) 1000 x S0 = some (true, S') := by
  unfold rollcalllaw01_FoldRuns.f
  simp only [letv]
  obtain ⟨A, eA, fA⟩ := awake_spec (k := 1000) (m := 1) (S := S0.new (.cells 1 [[.str x]] true)) (by omega) (Nat.le_refl _)
  have hle : 1 ≤ A.next := fA.le
  have hx0 : A.heap 0 = .cells 1 [[.str x]] true := (fA.eq 0 (by omega)).trans (new_here _ _)
  rw [eA, Option.bind_some, if_neg (by simp)]
  rw [show S0.next = 0 from rfl, ldS_cell hx0, Option.bind_some]
  by_cases hl : 200 < x.length
  · rw [if_pos (by omega)]
    exact ⟨A, rfl⟩
  rw [if_neg (by omega)]
  rw [sets_cell _ (new_here A _), Option.bind_some]
  simp only [letv]
  rw [sets_cell _ (new_here _ _), Option.bind_some]
  rw [sets_cell _ (new_here _ _), Option.bind_some]
  generalize hT1 : ((((((A.new (.cells 1 [[.str []]] true)).put A.next (.cells 1 [[.str []]] true)).new (.cells 1 [[.bool false]] true)).put ((A.new (.cells 1 [[.str []]] true)).put A.next (.cells 1 [[.str []]] true)).next (.cells 1 [[.bool false]] true)).new (.cells 1 [[.bool false]] true)).put
    ((((A.new (.cells 1 [[.str []]] true)).put A.next (.cells 1 [[.str []]] true)).new (.cells 1 [[.bool false]] true)).put ((A.new (.cells 1 [[.str []]] true)).put A.next (.cells 1 [[.str []]] true)).next (.cells 1 [[.bool false]] true)).next (.cells 1 [[.bool true]] true)) = T1
  have hn1 : T1.next = A.next + 3 := by subst hT1; rfl
  have h10 : T1.heap 0 = .cells 1 [[.str x]] true := by
    subst hT1
    rw [put_other _ (by simp only [new_next, put_next]; omega), new_old _ (by simp only [new_next, put_next]; omega), put_other _ (by simp only [new_next, put_next]; omega), new_old _ (by simp only [new_next, put_next]; omega), put_other _ (by omega), new_old _ (by omega)]
    exact hx0
  have h1a : T1.heap A.next = .cells 1 [[.str []]] true := by
    subst hT1
    rw [put_other _ (by simp only [new_next, put_next]; omega), new_old _ (by simp only [new_next, put_next]; omega), put_other _ (by simp only [new_next, put_next]; omega), new_old _ (by simp only [new_next, put_next]; omega)]
    exact put_here _ _ _
  have h1b : T1.heap (A.next + 1) = .cells 1 [[.bool false]] true := by
    subst hT1
    rw [put_other _ (by simp only [new_next, put_next]; omega), new_old _ (by simp only [new_next, put_next]; omega)]
    exact put_here _ _ _
  have h1c : T1.heap (A.next + 2) = .cells 1 [[.bool true]] true := by
    subst hT1
    exact put_here _ _ _
  rw [ldS_cell h10, Option.bind_some, fold_Runs.f, letv, Option.bind_some]
  simp only [HV.isNilFn, Option.bind_some]
  rw [if_neg (by simp)]
  simp only [new_next, put_next]
  generalize hA : A.next = a at *
  have ha : 0 < a := hle
  generalize hT0 : ((T1.new (.cells 1 [[.str x]] true)).new .defer).new (.loop .ready none) = T0
  have hI : FR a x [] false true .ready T0 := by
    subst hT0
    have e1 : a + 3 = T1.next := hn1.symm
    refine ⟨?_, ?_, ?_, ?_, ?_, ?_, ?_⟩
    · rw [new_old _ (by simp only [new_next]; omega), new_old _ (by simp only [new_next]; omega), new_old _ (by omega)]; exact h10
    · rw [new_old _ (by simp only [new_next]; omega), new_old _ (by simp only [new_next]; omega), new_old _ (by omega)]; exact h1a
    · rw [new_old _ (by simp only [new_next]; omega), new_old _ (by simp only [new_next]; omega), new_old _ (by omega)]; exact h1b
    · rw [new_old _ (by simp only [new_next]; omega), new_old _ (by simp only [new_next]; omega), new_old _ (by omega)]; exact h1c
    · rw [new_old _ (by simp only [new_next]; omega), new_old _ (by simp only [new_next]; omega), e1]; exact new_here _ _
    · rw [new_old _ (by simp only [new_next]; omega), show a + 4 = (T1.new (.cells 1 [[.str x]] true)).next by rw [new_next]; omega]; exact new_here _ _
    · rw [show a + 5 = ((T1.new (.cells 1 [[.str x]] true)).new .defer).next by rw [new_next, new_next]; omega]; exact new_here _ _
  rw [hn1]
  have hrl := runs_loop (H := Hd.set (fun _ => none) (a + 5) (fun vs T => Option.bind (T.lp (a + 5)) fun _ => Option.bind (args2 vs) fun ar => Option.bind (dS ar.1) fun p => Option.bind (dB ar.2) fun q => rollcalllaw01_FoldRuns.J0 (disp 1000 2) (fun _ => none) 1000 (a + 5) (some (HA.cell0 0)) (some (HA.cell0 a)) (some (HA.cell0 (a + 1))) (some (HA.cell0 (a + 2))) p q T)) ha (x := x) (by omega) (D0 := disp 1000 2) (H0 := fun _ => none) (by
      intro p t T r hr hlp
      simp only [disp, Hd.set, if_true, Option.bind_some, hlp, args2, dS, dB]
      exact hr) 1000 0 0 false T0 (by omega) (by omega) (by omega) (by simpa using hI) (fun _ j hj => by omega) (fun h0 => by omega) (fun h => h)
  obtain ⟨T', last', e, hI'⟩ := hrl
  have hd : disp 1000 2 (Hd.set (fun _ => none) (a + 5) (fun vs T => Option.bind (T.lp (a + 5)) fun _ => Option.bind (args2 vs) fun ar => Option.bind (dS ar.1) fun p => Option.bind (dB ar.2) fun q => rollcalllaw01_FoldRuns.J0 (disp 1000 2) (fun _ => none) 1000 (a + 5) (some (HA.cell0 0)) (some (HA.cell0 a)) (some (HA.cell0 (a + 1))) (some (HA.cell0 (a + 2))) p q T))
      (.fn (.func 20) [] [.ptr (some (HA.cell0 (a + 3)))]) [.fn (.yield (a + 5)) [] []] T0 = some (.tup [], T') := by
    refine (disp_func (k := 1000) (n := 1)).trans ?_
    rw [if_pos rfl, call_20]
    simp only [List.nil_append, List.cons_append, args2, Option.bind_some, dF, dP]
    rw [fold_Runs_1.f, Option.bind_some, ldS_cell hI.cx, Option.bind_some]
    erw [e]
    rfl
  have hfin : T'.finish (a + 5) = some (none, T'.put (a + 5) (.loop .exhausted none)) := by simp [HS.finish, hI'.lo]
  have hI2 : FR a x x last' true .exhausted (T'.put (a + 5) (.loop .exhausted none)) := hI'.putO ha
  rw [show a + 3 + 1 + 1 = a + 5 from rfl]
  erw [hd]
  rw [Option.bind_some, hfin, Option.bind_some]
  simp only [pcode, Option.bind_some, if_true]
  rw [rollcalllaw01_FoldRuns.J5, Option.bind_some, ldB_cell hI2.go, Option.bind_some, if_pos rfl, Option.bind_some, ldS_cell hI2.wh, Option.bind_some, Option.bind_some, ldS_cell hI2.x0, Option.bind_some, rollcalllaw01_FoldRuns.J6]
  rw [HS.leave, show a + 3 + 1 = a + 4 from rfl, hI2.de]
  exact ⟨_, by simp [HS.leave]; rfl⟩
theorem foldRuns_call (W : World) (x : List UInt8) : HCall Try.prog W.heap.size W B0 8 [.str x] S0 (fun v _ => v = .bool true) :=
  let ⟨_, h⟩ := foldRuns_law x
  (rollcalllaw01_FoldRuns.snd (disp_snd 2) (fun _ _ h => by cases h) h).mono fun _ _ h => h.1
end Go.Proofs.Ytigobginglaieaa.X
