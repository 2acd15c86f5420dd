/- The layer timer: what is told, laid beside what is asked for. -/
import Derived.Test.YtlfdfkldolgkoaaTpDue
namespace Go.Proofs.Ytlfdfkldolgkoaa.X
open Go.Proofs.Ytlfdfkldolgkoaa.HL
set_option linter.unusedVariables false
theorem take_succ_eq {α : Type} {xs ys : List α} {j : Nat} (h1 : j < xs.length) (h2 : j < ys.length) : xs.take (j + 1) = ys.take (j + 1) ↔ xs.take j = ys.take j ∧ xs[j] = ys[j] := by
  rw [List.take_succ_eq_append_getElem h1, List.take_succ_eq_append_getElem h2]
  constructor
  · intro e
    have := List.append_inj e (by simp; omega)
    exact ⟨this.1, by simpa using this.2⟩
  · rintro ⟨e1, e2⟩; rw [e1, e2]
structure SI (B : HS) (r0 cN cG : Nat) (Ls ys : List It) (st : LoopState) (j : Nat) (T : HS) : Prop where
  keep : ∀ id, id < B.next → id ≠ r0 → id ≠ cN → id ≠ cG → T.heap id = B.heap id
  res : ∃ b, T.heap r0 = .cells 1 [[.bool b]] true
  cnt : T.heap cN = .cells 1 [[.int .i64 j]] true
  good : T.heap cG = .cells 1 [[.bool (decide (Ls.take j = ys.take j))]] true
  de : T.heap B.next = .defer
  lo : T.heap (B.next + 1) = .loop st none
  nx : B.next + 2 ≤ T.next
  le : j ≤ ys.length
structure SStop (B : HS) (r0 cN cG : Nat) (Ls ys : List It) (T : HS) : Prop where
  keep : ∀ id, id < B.next → id ≠ r0 → id ≠ cN → id ≠ cG → T.heap id = B.heap id
  res : T.heap r0 = .cells 1 [[.bool false]] true
  de : T.heap B.next = .defer
  lo : T.heap (B.next + 1) = .loop .done (some .ret)
  nx : B.next + 2 ≤ T.next
  lt : ys.length < Ls.length
theorem SI.fr {B : HS} {r0 cN cG : Nat} {Ls ys : List It} {st : LoopState} {j : Nat} {T T' : HS} (hr : r0 < B.next) (hN : cN < B.next) (hG : cG < B.next) (h : SI B r0 cN cG Ls ys st j T) (hf : Fr T.next T T') : SI B r0 cN cG Ls ys st j T' := by
  have hn := h.nx
  exact ⟨fun id h1 h2 h3 h4 => (hf.eq id (by omega)).trans (h.keep id h1 h2 h3 h4), by obtain ⟨b, hb⟩ := h.res; exact ⟨b, (hf.eq _ (by omega)).trans hb⟩, (hf.eq _ (by omega)).trans h.cnt, (hf.eq _ (by omega)).trans h.good, (hf.eq _ (by omega)).trans h.de, (hf.eq _ (by omega)).trans h.lo, Nat.le_trans h.nx hf.le, h.le⟩
theorem same_round {D : Dp} {H : Hd} {k w0 r0 cN cG : Nat} {B : HS} {want : Sl} {Ls ys : List It} (hr : r0 < B.next) (hw : w0 < B.next) (hN : cN < B.next) (hG : cG < B.next) (nwr : w0 ≠ r0) (nwN : w0 ≠ cN) (nwG : w0 ≠ cG) (nrN : r0 ≠ cN) (nrG : r0 ≠ cG) (nNG : cN ≠ cG) (hB : B.heap w0 = .cells 1 [[want.hv]] true) (hrd : Rd w0 B 2 want (ys.map itRow)) (hwlo : w0 < r0 ∧ w0 < cN ∧ w0 < cG) (hy : ys.length ≤ 1000000) {j : Nat} (hj : j < Ls.length) {T : HS} (h : SI B r0 cN cG Ls ys .ready j T) :
    ∃ b T', rollcalllaw09_same.J0 D H k (B.next + 1) (some (HA.cell0 w0)) (some (HA.cell0 r0)) (some (HA.cell0 cN)) (some (HA.cell0 cG)) Ls[j].1 Ls[j].2 T = some (.bool b, T') ∧ (b = true → SI B r0 cN cG Ls ys .ready (j + 1) T') ∧ (b = false → SStop B r0 cN cG Ls ys T') := by
  have h1 : SI B r0 cN cG Ls ys .busy j (T.put (B.next + 1) (.loop .busy none)) := by
    refine ⟨fun id g1 g2 g3 g4 => ?_, ?_, ?_, ?_, ?_, put_here _ _ _, h.nx, h.le⟩
    · rw [put_other _ (by omega)]; exact h.keep id g1 g2 g3 g4
    · obtain ⟨b, hb⟩ := h.res; exact ⟨b, by rw [put_other _ (by omega)]; exact hb⟩
    · rw [put_other _ (by omega)]; exact h.cnt
    · rw [put_other _ (by omega)]; exact h.good
    · rw [put_other _ (by omega)]; exact h.de
  rw [rollcalllaw09_same.J0, begin_at h.lo, Option.bind_some]
  generalize T.put (B.next + 1) (.loop .busy none) = T1 at h1 ⊢
  have hw1 : T1.heap w0 = .cells 1 [[want.hv]] true := (h1.keep w0 hw nwr nwN nwG).trans hB
  have hrows : T1.rows want 2 = some (ys.map itRow) := rows_keep hrd.rows fun q hq => by
    have := hrd.lt q hq
    exact h1.keep q.1 (by omega) (by omega) (by omega) (by omega)
  have hwl : (want.len : Int) = ys.length := by rw [← rows_len hrows]; simp
  rw [Option.bind_some, ldI_cell h1.cnt, Option.bind_some, Option.bind_some, ldSl_cell hw1, Option.bind_some, hwl]
  by_cases hge : ys.length ≤ j
  · rw [if_pos (by omega), Option.bind_some]
    obtain ⟨b0, hb0⟩ := h1.res
    rw [sets_cell _ hb0, Option.bind_some, endr_at (some .ret) (by rw [put_other _ (by omega)]; exact h1.lo)]
    refine ⟨false, _, rfl, (fun h => by cases h), fun _ => ⟨fun id g1 g2 g3 g4 => ?_, ?_, ?_, put_here _ _ _, h1.nx, by omega⟩⟩
    · rw [put_other _ (by omega), put_other _ g2]; exact h1.keep id g1 g2 g3 g4
    · rw [put_other _ (by omega)]; exact put_here _ _ _
    · rw [put_other _ (by omega), put_other _ (by omega)]; exact h1.de
  · have hjy : j < ys.length := by omega
    have hend : ∀ g : Bool, g = decide (Ls.take (j + 1) = ys.take (j + 1)) → ∃ b T', rollcalllaw09_same.J2 D H k (B.next + 1) (some (HA.cell0 cN)) (some (HA.cell0 cG)) g T1 = some (.bool b, T') ∧ (b = true → SI B r0 cN cG Ls ys .ready (j + 1) T') ∧ (b = false → SStop B r0 cN cG Ls ys T') := by
      intro g hg
      have hc : (T1.put cG (.cells 1 [[.bool g]] true)).heap cN = .cells 1 [[.int .i64 j]] true := by rw [put_other _ nNG]; exact h1.cnt
      rw [rollcalllaw09_same.J2, Option.bind_some, sets_cell _ h1.good, Option.bind_some, Option.bind_some, ldI_cell hc, Option.bind_some, Option.bind_some, w64_id (by omega) (by omega), sets_cell _ hc, Option.bind_some, endr_at none (by rw [put_other _ (by omega), put_other _ (by omega)]; exact h1.lo)]
      refine ⟨true, _, rfl, fun _ => ⟨fun id g1 g2 g3 g4 => ?_, ?_, ?_, ?_, ?_, put_here _ _ _, h1.nx, hjy⟩, (fun h => by cases h)⟩
      · rw [put_other _ (by omega), put_other _ g3, put_other _ g4]; exact h1.keep id g1 g2 g3 g4
      · obtain ⟨b, hb⟩ := h1.res
        exact ⟨b, by rw [put_other _ (by omega), put_other _ nrN, put_other _ nrG]; exact hb⟩
      · rw [put_other _ (by omega), put_here]; simp
      · rw [put_other _ (by omega), put_other _ (Ne.symm nNG), put_here, hg]
      · rw [put_other _ (by omega), put_other _ (by omega), put_other _ (by omega)]; exact h1.de
    have hiff := take_succ_eq hj hjy
    obtain ⟨ad, a1, a2, a3⟩ := it_rows hrows hjy
    rw [if_neg (by omega), Option.bind_some, ldB_cell h1.good, Option.bind_some]
    by_cases hg : Ls.take j = ys.take j
    · rw [if_pos (by simpa using hg), Option.bind_some, ldSl_cell hw1, Option.bind_some, Option.bind_some, ldI_cell h1.cnt, Option.bind_some, a1, Option.bind_some, a2, Option.bind_some, rollcalllaw09_same.J1]
      by_cases hn : Ls[j].1 = ys[j].1
      · rw [if_pos (by simpa using hn), Option.bind_some, ldSl_cell hw1, Option.bind_some, Option.bind_some, ldI_cell h1.cnt, Option.bind_some, a1, Option.bind_some, a3, Option.bind_some]
        refine hend _ ?_
        rw [decide_eq_decide, hiff]
        exact ⟨fun h => ⟨hg, Prod.ext hn h⟩, fun h => by rw [h.2]⟩
      · rw [if_neg (by simpa using hn)]
        refine hend _ ?_
        symm
        rw [decide_eq_false_iff_not, hiff]
        exact fun h => hn (by rw [h.2])
    · rw [if_neg (by simpa using hg), rollcalllaw09_same.J1, if_neg (by simp)]
      refine hend _ ?_
      symm
      rw [decide_eq_false_iff_not, hiff]
      exact fun h => hg h.1

def sameTail (D : Dp) (H : Hd) (k w0 r0 cN cG : Nat) (y11 : HV) (S : HS) : Option (Bool × HS) :=
  (Option.bind (D (Hd.set H (HS.next S + 1) fun vs T =>
  (Option.bind (HS.lp T (HS.next S + 1)) fun u46 =>
  (Option.bind (args2 vs) fun ar43 =>
  (Option.bind (dS ar43.1) fun p44 =>
  (Option.bind (dI .i64 ar43.2) fun p45 =>
  (rollcalllaw09_same.J0 D H k (HS.next S + 1) (some (HA.cell0 w0)) (some (HA.cell0 r0)) (some (HA.cell0 cN)) (some (HA.cell0 cG)) p44 p45 T)))))) y11 [.fn (.yield (HS.next S + 1)) [] []] (HS.new (HS.new S .defer) (.loop .ready none))) fun p47 =>
  (Option.bind (HS.finish p47.2 (HS.next S + 1)) fun p48 =>
  (Option.bind (pcode p48.1) fun n49 =>
  (if n49 = 0 then
  (Option.bind (HS.ldB p48.2 (HA.cell0 cG)) fun p51 =>
  (if p51 = true then
  (Option.bind (HS.ldI p48.2 .i64 (HA.cell0 cN)) fun p53 =>
  (Option.bind (HS.ldSl p48.2 (HA.cell0 w0)) fun p54 =>
  rollcalllaw09_same.J3 D H k (some (HA.cell0 r0)) (decide (p53 = (Sl.len p54 : Int))) (HS.next S :: []) p48.2)) else
  rollcalllaw09_same.J3 D H k (some (HA.cell0 r0)) false (HS.next S :: []) p48.2)) else
  (if n49 = 1 then
  (Option.bind (HS.leave p48.2 (HS.next S :: [])) fun p61 =>
  (Option.bind (HS.ldB p61 (HA.cell0 r0)) fun p62 =>
  some (p62, p61))) else
  none)))))
theorem same_core {k n c w0 r0 cN cG : Nat} {B : HS} {want s : Sl} {Ls ys : List It} (hk : 2000 ≤ k) (hr : r0 < B.next) (hw : w0 < B.next) (hN : cN < B.next) (hG : cG < B.next) (nwr : w0 ≠ r0) (nwN : w0 ≠ cN) (nwG : w0 ≠ cG) (nrN : r0 ≠ cN) (nrG : r0 ≠ cG) (nNG : cN ≠ cG) (hB : B.heap w0 = .cells 1 [[want.hv]] true) (hBr : B.heap r0 = .cells 1 [[.bool false]] true) (hBN : B.heap cN = .cells 1 [[.int .i64 0]] true) (hBG : B.heap cG = .cells 1 [[.bool true]] true)
    (hrd : Rd w0 B 2 want (ys.map itRow)) (hwlo : w0 < r0 ∧ w0 < cN ∧ w0 < cG) (hy : ys.length ≤ 1000000) (hL : Ls.length ≤ 1000) (hc : B.heap c = .cells 1 [[s.hv]] true) (hcl : r0 < c ∧ cN < c ∧ cG < c ∧ c < B.next) (hs : B.rows s 2 = some (Ls.map itRow)) (hsl : ∀ q, s.a = some q → r0 < q.1 ∧ cN < q.1 ∧ cG < q.1 ∧ q.1 < B.next) :
    ∃ T', sameTail (disp k (n + 2)) (fun _ => none) k w0 r0 cN cG (.fn (.func 40) [] [.ptr (some (HA.cell0 c))]) B = some (decide (Ls = ys), T') ∧ (∀ id, id < B.next → id ≠ r0 → id ≠ cN → id ≠ cG → T'.heap id = B.heap id) ∧ B.next ≤ T'.next := by
  rw [sameTail]
  have hS : SI B r0 cN cG Ls ys .ready 0 ((B.new .defer).new (.loop .ready none)) := by
    refine ⟨fun id h1 h2 h3 h4 => ?_, ⟨false, ?_⟩, ?_, ?_, ?_, ?_, ?_, Nat.zero_le _⟩
    · rw [new_old _ (by rw [new_next]; omega), new_old _ (by omega)]
    · rw [new_old _ (by rw [new_next]; omega), new_old _ (by omega)]; exact hBr
    · rw [new_old _ (by rw [new_next]; omega), new_old _ (by omega)]; exact hBN
    · rw [new_old _ (by rw [new_next]; omega), new_old _ (by omega), hBG]; simp
    · rw [new_old _ (by rw [new_next]; omega)]; exact new_here _ _
    · exact new_here (B.new .defer) _
    · simp only [new_next]; omega
  obtain ⟨S', e, h⟩ := told_tells (k := k) (n := n) (l := B.next + 1) (c := c) (xs := Ls) (s := s) (H := Hd.set (fun _ => none) (B.next + 1) (fun vs T => Option.bind (HS.lp T (B.next + 1)) fun _ => Option.bind (args2 vs) fun ar => Option.bind (dS ar.1) fun a => Option.bind (dI .i64 ar.2) fun b => rollcalllaw09_same.J0 (disp k (n + 2)) (fun _ => none) k (B.next + 1) (some (HA.cell0 w0)) (some (HA.cell0 r0)) (some (HA.cell0 cN)) (some (HA.cell0 cG)) a b T))
    (by simp [Hd.set]; rfl) (fun j T => SI B r0 cN cG Ls ys .ready j T) (SStop B r0 cN cG Ls ys) (fun i S S' h hf => h.fr hr hN hG hf) (fun i S h => (h.keep c (by omega) (by omega) (by omega) (by omega)).trans hc)
    (fun i S h => rows_keep hs fun q hq => by have := hsl q hq; exact h.keep q.1 (by omega) (by omega) (by omega) (by omega))
    (by
      intro i hi S h
      rw [lp_at h.lo, Option.bind_some, show args2 [kv Ls[i].1, HV.int .i64 Ls[i].2] = some (kv Ls[i].1, HV.int .i64 Ls[i].2) from rfl, Option.bind_some]
      simp only
      rw [dK_kv, Option.bind_some, dI_at, Option.bind_some]
      exact same_round hr hw hN hG nwr nwN nwG nrN nrG nNG hB hrd hwlo hy hi h) (by omega) (by omega) _ hS
  erw [e]
  rw [Option.bind_some]
  rcases h with h | h
  · have e1 : S'.finish (B.next + 1) = some (none, S'.put (B.next + 1) (.loop .exhausted none)) := by simp [HS.finish, h.lo]
    rw [e1, Option.bind_some]
    simp only [pcode, Option.bind_some, if_true]
    have h2 : ∀ id, id ≠ B.next + 1 → (S'.put (B.next + 1) (.loop .exhausted none)).heap id = S'.heap id := fun id hne => put_other _ hne
    generalize hX : S'.put (B.next + 1) (.loop .exhausted none) = X at h2 ⊢
    have hXn : X.next = S'.next := by subst hX; rfl
    have hXr : ∃ b, X.heap r0 = .cells 1 [[.bool b]] true := by obtain ⟨b, hb⟩ := h.res; exact ⟨b, (h2 _ (by omega)).trans hb⟩
    obtain ⟨b0, hXr⟩ := hXr
    have hend : ∀ y, ∃ T', rollcalllaw09_same.J3 (disp k (n + 2)) (fun _ => none) k (some (HA.cell0 r0)) y (B.next :: []) X = some (y, T') ∧ (∀ id, id < B.next → id ≠ r0 → id ≠ cN → id ≠ cG → T'.heap id = B.heap id) ∧ B.next ≤ T'.next := by
      intro y
      have hd : (X.put r0 (.cells 1 [[.bool y]] true)).heap B.next = .defer := by rw [put_other _ (by omega), h2 _ (by omega)]; exact h.de
      rw [rollcalllaw09_same.J3, Option.bind_some, sets_cell _ hXr, Option.bind_some, HS.leave, hd]
      simp only [HS.leave, Option.bind_some]
      have hb : ((X.put r0 (.cells 1 [[.bool y]] true)).put B.next .dead).heap r0 = .cells 1 [[.bool y]] true := by rw [put_other _ (by omega)]; exact put_here _ _ _
      rw [ldB_cell hb, Option.bind_some]
      refine ⟨_, rfl, fun id g1 g2 g3 g4 => ?_, ?_⟩
      · rw [put_other _ (by omega), put_other _ g2, h2 _ (by omega)]; exact h.keep id g1 g2 g3 g4
      · simp only [put_next]; have := h.nx; omega
    have hXg : X.heap cG = .cells 1 [[.bool (decide (Ls.take Ls.length = ys.take Ls.length))]] true := (h2 _ (by omega)).trans h.good
    have hXc : X.heap cN = .cells 1 [[.int .i64 Ls.length]] true := (h2 _ (by omega)).trans h.cnt
    have hXw : X.heap w0 = .cells 1 [[want.hv]] true := ((h2 _ (by omega)).trans (h.keep w0 hw nwr nwN nwG)).trans hB
    have hwl : (want.len : Int) = ys.length := by rw [hrd.len]; simp
    rw [ldB_cell hXg, Option.bind_some]
    have hle := h.le
    by_cases hg : Ls.take Ls.length = ys.take Ls.length
    · rw [if_pos (by simpa using hg)]
      simp only [ldI_cell hXc, ldSl_cell hXw, Option.bind_some, hwl]
      have : decide ((Ls.length : Int) = ys.length) = decide (Ls = ys) := by
        rw [decide_eq_decide]
        constructor
        · intro hl
          rw [List.take_length, show Ls.length = ys.length by omega, List.take_length] at hg
          exact hg
        · intro hl; rw [hl]
      rw [this]
      exact hend _
    · rw [if_neg (by simpa using hg)]
      have : decide (Ls = ys) = false := by
        rw [decide_eq_false_iff_not]
        intro hl; subst hl; exact hg rfl
      rw [this]
      exact hend _
  · have e1 : S'.finish (B.next + 1) = some (some .ret, S'.put (B.next + 1) (.loop .exhausted (some .ret))) := by simp [HS.finish, h.lo]
    rw [e1, Option.bind_some]
    simp only [pcode, Option.bind_some, show ¬ (1 : Nat) = 0 by decide, if_false, if_true]
    have hd : (S'.put (B.next + 1) (.loop .exhausted (some .ret))).heap B.next = .defer := by rw [put_other _ (by omega)]; exact h.de
    rw [HS.leave, hd]
    simp only [HS.leave, Option.bind_some]
    have hb : ((S'.put (B.next + 1) (.loop .exhausted (some .ret))).put B.next .dead).heap r0 = .cells 1 [[.bool false]] true := by rw [put_other _ (by omega), put_other _ (by omega)]; exact h.res
    rw [ldB_cell hb, Option.bind_some]
    have : decide (Ls = ys) = false := by
      rw [decide_eq_false_iff_not]
      intro hl; have := h.lt; rw [hl] at this; omega
    rw [this]
    refine ⟨_, rfl, fun id g1 g2 g3 g4 => ?_, ?_⟩
    · rw [put_other _ (by omega), put_other _ (by omega)]; exact h.keep id g1 g2 g3 g4
    · simp only [put_next]; have := h.nx; omega
theorem same_spec {k n t r : Nat} {s want : Sl} {es ml ys : List It} {now : Int} {S : HS} (hk : 2000 ≤ k) (h : TI t r s es ml S) (hrd : Rd S.next S 2 want (ys.map itRow)) (hy : ys.length ≤ 1000000) :
    ∃ S', rollcalllaw09_same.f (disp k (n + 2)) (fun _ => none) k (some (HA.cell0 t)) want now S = some (decide (dueL now es = ys), S') ∧ Fr S.next S S' := by
  rw [rollcalllaw09_same.f, letv, letv, letv, sets_cell _ (new_here _ _), Option.bind_some, letv, sets_cell _ (new_here _ _), Option.bind_some]
  simp only [put_next, new_next]
  generalize hT : ((((((S.new (.cells 1 [[want.hv]] true)).new (.cells 1 [[.bool false]] true)).new (.cells 1 [[.int .i64 0]] true)).put (S.next + 1 + 1) (.cells 1 [[.int .i64 0]] true)).new (.cells 1 [[.bool false]] true)).put (S.next + 1 + 1 + 1) (.cells 1 [[.bool true]] true)) = T
  have n1 : T.next = S.next + 4 := by subst hT; rfl
  have f1 : Fr S.next S T := by
    subst hT
    exact (((((Fr.new (Nat.le_refl _) _).trans (Fr.new (by rw [new_next]; omega) _)).trans (Fr.new (by simp only [new_next]; omega) _)).trans (Fr.put (by omega) _)).trans (Fr.new (by simp only [put_next, new_next]; omega) _)).trans (Fr.put (by omega) _)
  have w1 : T.heap S.next = .cells 1 [[want.hv]] true := by
    subst hT
    rw [put_other _ (by omega), new_old _ (by simp only [put_next, new_next]; omega), put_other _ (by omega), new_old _ (by simp only [new_next]; omega), new_old _ (by simp only [new_next]; omega), new_here]
  have r1 : T.heap (S.next + 1) = .cells 1 [[.bool false]] true := by
    subst hT
    rw [put_other _ (by omega), new_old _ (by simp only [put_next, new_next]; omega), put_other _ (by omega), new_old _ (by simp only [new_next]; omega)]
    exact new_here (S.new _) _
  have c1 : T.heap (S.next + 2) = .cells 1 [[.int .i64 0]] true := by
    subst hT
    rw [put_other _ (by omega), new_old _ (by simp only [put_next, new_next]; omega)]
    exact put_here _ _ _
  have g1 : T.heap (S.next + 3) = .cells 1 [[.bool true]] true := by subst hT; exact put_here _ _ _
  clear hT
  have h1 := h.fr f1
  have hrd1 : Rd S.next T 2 want (ys.map itRow) := hrd.frame f1 (Nat.le_refl _)
  obtain ⟨s3, T3, e2, hc3, l3, hr3, hq3, f3⟩ := due_spec hk h1 now
  have hcnt := h.cnt
  have helen := h.elen
  have hl3 : (dueL now es).length ≤ 1000 := Nat.le_trans (List.length_filter_le _ _) (by omega)
  rw [e2, Option.bind_some]
  simp only [HV.isNilFn, Option.bind_some]
  rw [if_neg (by simp)]
  obtain ⟨S', e, q1, q2⟩ := same_core (k := k) (n := n) (c := T.next) (w0 := S.next) (r0 := S.next + 1) (cN := S.next + 2) (cG := S.next + 3) (B := T3) (want := want) (s := s3) (Ls := dueL now es) (ys := ys) hk (by omega) (by omega) (by omega) (by omega) (by omega) (by omega) (by omega) (by omega) (by omega) (by omega)
    ((f3.eq _ (by omega)).trans w1) ((f3.eq _ (by omega)).trans r1) ((f3.eq _ (by omega)).trans c1) ((f3.eq _ (by omega)).trans g1) (hrd1.frame f3 (by omega)) ⟨by omega, by omega, by omega⟩ hy hl3 hc3 ⟨by omega, by omega, by omega, l3⟩ hr3 (fun q hq => by have := hq3 q hq; omega)
  refine ⟨S', e, ⟨by omega, fun id hid => ?_⟩⟩
  rw [q1 id (by omega) (by omega) (by omega) (by omega), f3.eq id (by omega)]
  exact f1.eq id hid
end Go.Proofs.Ytlfdfkldolgkoaa.X
