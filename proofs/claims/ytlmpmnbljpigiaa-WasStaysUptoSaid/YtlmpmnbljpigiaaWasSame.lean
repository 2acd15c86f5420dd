/- The layer was: what is told, laid beside what is asked for. -/
import Derived.Test.YtlmpmnbljpigiaaWasIter
namespace Go.Proofs.Ytlmpmnbljpigiaa.X
open Go.Proofs.Ytlmpmnbljpigiaa.HL
set_option linter.unusedVariables false

theorem find_spec {k n p m : Nat} {hist xs : List Ent} {next : Int} {T : HS} (h0 : 0 < xs.length → 0 < m) (hm : m ≤ 100000) (hR : Ring m hist xs next) (hk : xs.length < k) (hP : PastAt n p m xs next T) (nm : List UInt8) :
    ∃ c s cA cN T', was_Past_int_Find.f k (some (HA.cell0 p)) nm T = some (.fn (.func 16) [] [.ptr (some (HA.cell0 cA)), .ptr (some (HA.cell0 cN))], T') ∧ T'.heap cA = .cells 1 [[.fn (.func 15) [] [.ptr (some (HA.cell0 c))]]] true ∧ T'.heap cN = .cells 1 [[.str nm]] true ∧ T'.heap c = .cells 1 [[s.hv]] true ∧
      Rd T'.next T' 2 s ((lastOf m hist).map pairRow) ∧ (T.next ≤ c ∧ c < T'.next) ∧ (T.next ≤ cA ∧ cA < T'.next) ∧ (T.next ≤ cN ∧ cN < T'.next) ∧ Fr T.next T T' := by
  have hP1 : PastAt n p m xs next (T.new (.cells 1 [[.str nm]] true)) := hP.frame (Fr.new (Nat.le_refl _) _)
  obtain ⟨c, s, T2, e, c1, c2, c3, c4, c5⟩ := all_spec h0 hm hR hk hP1
  rw [new_next] at c1 c5
  have hle := c5.le
  rw [new_next] at hle
  unfold was_Past_int_Find.f
  rw [letv, e, Option.bind_some, letv]
  simp only [dF, Option.bind_some]
  rw [sets_cell _ (new_here _ _), Option.bind_some]
  refine ⟨c, s, T2.next, T.next, _, rfl, put_here _ _ _, ?_, ?_, ?_, ⟨by omega, ?_⟩, ⟨by omega, ?_⟩, ⟨Nat.le_refl _, ?_⟩, ?_⟩
  · rw [put_other _ (by omega), new_old _ (by omega), c5.eq _ (by omega)]; exact new_here _ _
  · rw [put_other _ (by omega), new_old _ (by omega)]; exact c3
  · exact ((c4.frame (Fr.new (Nat.le_refl _) _) (Nat.le_refl _)).frame (Fr.put (Nat.le_refl _) _) (Nat.le_refl _)).mono (Nat.le_succ _)
  · simp only [put_next, new_next]; omega
  · simp only [put_next, new_next]; omega
  · simp only [put_next, new_next]; omega
  · exact (((Fr.new (Nat.le_refl _) _).trans (c5.mono (Nat.le_succ _))).trans (Fr.new (by omega) _)).trans (Fr.put (by omega) _)

theorem take_succ_eq {α : Type} {xs ys : List α} {j : Nat} (h1 : j < xs.length) (h2 : j < ys.length) : xs.take (j + 1) = ys.take (j + 1) ↔ xs.take j = ys.take j ∧ xs[j] = ys[j] := by
  rw [List.take_succ_eq_append_getElem h1, List.take_succ_eq_append_getElem h2]
  constructor
  · intro e
    have := List.append_inj e (by simp; omega)
    exact ⟨this.1, by simpa using this.2⟩
  · rintro ⟨e1, e2⟩; rw [e1, e2]

structure SI (B : HS) (w0 r0 n0 : Nat) (Ls ys : List Ent) (st : LoopState) (j : Nat) (T : HS) : Prop where
  keep : ∀ id, id < n0 → id ≠ r0 → T.heap id = B.heap id
  res : ∃ b, T.heap r0 = .cells 1 [[.bool b]] true
  cnt : T.heap n0 = .cells 1 [[.int .i64 j]] true
  good : T.heap (n0 + 1) = .cells 1 [[.bool (decide (Ls.take j = ys.take j))]] true
  de : T.heap (n0 + 2) = .defer
  lo : T.heap (n0 + 3) = .loop st none
  nx : n0 + 4 ≤ T.next
  le : j ≤ ys.length
structure SStop (B : HS) (w0 r0 n0 : Nat) (Ls ys : List Ent) (T : HS) : Prop where
  keep : ∀ id, id < n0 → id ≠ r0 → T.heap id = B.heap id
  res : T.heap r0 = .cells 1 [[.bool false]] true
  de : T.heap (n0 + 2) = .defer
  lo : T.heap (n0 + 3) = .loop .done (some .ret)
  nx : n0 + 4 ≤ T.next
  lt : ys.length < Ls.length
theorem SI.fr {B : HS} {w0 r0 n0 : Nat} {Ls ys : List Ent} {st : LoopState} {j : Nat} {T T' : HS} (hr : r0 < n0) (h : SI B w0 r0 n0 Ls ys st j T) (hf : Fr (n0 + 4) T T') : SI B w0 r0 n0 Ls ys st j T' :=
  ⟨fun id h1 h2 => (hf.eq id (by omega)).trans (h.keep id h1 h2), by obtain ⟨b, hb⟩ := h.res; exact ⟨b, (hf.eq _ (by omega)).trans hb⟩, (hf.eq _ (by omega)).trans h.cnt, (hf.eq _ (by omega)).trans h.good, (hf.eq _ (by omega)).trans h.de, (hf.eq _ (by omega)).trans h.lo, Nat.le_trans h.nx hf.le, h.le⟩
theorem SStop.fr {B : HS} {w0 r0 n0 : Nat} {Ls ys : List Ent} {T T' : HS} (hr : r0 < n0) (h : SStop B w0 r0 n0 Ls ys T) (hf : Fr (n0 + 4) T T') : SStop B w0 r0 n0 Ls ys T' :=
  ⟨fun id h1 h2 => (hf.eq id (by omega)).trans (h.keep id h1 h2), (hf.eq _ (by omega)).trans h.res, (hf.eq _ (by omega)).trans h.de, (hf.eq _ (by omega)).trans h.lo, Nat.le_trans h.nx hf.le, h.lt⟩

theorem same_round {D : Dp} {H : Hd} {k w0 r0 n0 : Nat} {B : HS} {want : Sl} {Ls ys : List Ent} (hr : r0 < n0) (hw : w0 < n0) (hwr : w0 ≠ r0) (hB : B.heap w0 = .cells 1 [[want.hv]] true) (hrd : Rd r0 B 2 want (ys.map pairRow)) (hy : ys.length ≤ 1000000) {j : Nat} (hj : j < Ls.length) {T : HS} (h : SI B w0 r0 n0 Ls ys .ready j T) :
    ∃ b T', rollcalllaw13_same.J1 D H k (n0 + 3) (some (HA.cell0 w0)) (some (HA.cell0 r0)) (some (HA.cell0 n0)) (some (HA.cell0 (n0 + 1))) Ls[j].1 Ls[j].2 T = some (.bool b, T') ∧ Kp (n0 + 4) T T' ∧ (b = true → SI B w0 r0 n0 Ls ys .ready (j + 1) T') ∧ (b = false → SStop B w0 r0 n0 Ls ys T') := by
  have h1 : SI B w0 r0 n0 Ls ys .busy j (T.put (n0 + 3) (.loop .busy none)) := by
    refine ⟨fun id g1 g2 => ?_, ?_, ?_, ?_, ?_, put_here _ _ _, h.nx, h.le⟩
    · rw [put_other _ (by omega)]; exact h.keep id g1 g2
    · obtain ⟨b, hb⟩ := h.res; exact ⟨b, by rw [put_other _ (by omega)]; exact hb⟩
    · rw [put_other _ (by omega)]; exact h.cnt
    · rw [put_other _ (by omega)]; exact h.good
    · rw [put_other _ (by omega)]; exact h.de
  have hk1 : Kp (n0 + 4) T (T.put (n0 + 3) (.loop .busy none)) := ⟨Nat.le_refl _, fun id g1 g2 => put_other _ (by omega)⟩
  rw [rollcalllaw13_same.J1, begin_at h.lo, Option.bind_some]
  generalize T.put (n0 + 3) (.loop .busy none) = T1 at h1 hk1 ⊢
  have hw1 : T1.heap w0 = .cells 1 [[want.hv]] true := (h1.keep w0 hw hwr).trans hB
  have hrd1 : Rd r0 T1 2 want (ys.map pairRow) ∨ True := .inr trivial
  have hrows : T1.rows want 2 = some (ys.map pairRow) := by
    have := hrd.rows
    unfold HS.rows at this ⊢
    cases ha : want.a with
    | none => rw [ha] at this; exact this
    | some q =>
      obtain ⟨id, off⟩ := q
      rw [ha] at this
      simp only at this ⊢
      have hlt := hrd.lt _ ha
      simp only at hlt
      rw [h1.keep id (by omega) (by omega)]
      exact this
  have hwl : (want.len : Int) = ys.length := by rw [← rows_len hrows]; simp
  rw [Option.bind_some, ldI_cell h1.cnt, Option.bind_some, Option.bind_some, ldSl_cell hw1, Option.bind_some, hwl]
  by_cases hge : ys.length ≤ j
  · rw [if_pos (by omega), Option.bind_some]
    obtain ⟨b0, hb0⟩ := h1.res
    rw [sets_cell _ hb0, Option.bind_some, endr_at (some .ret) (by rw [put_other _ (by omega)]; exact h1.lo)]
    refine ⟨false, _, rfl, ⟨hk1.le, fun id g1 g2 => ?_⟩, (fun h => by cases h), fun _ => ⟨fun id g1 g2 => ?_, ?_, ?_, put_here _ _ _, h1.nx, by omega⟩⟩
    · rw [put_other _ (by omega), put_other _ (by omega)]; exact hk1.eq id g1 g2
    · rw [put_other _ (by omega), put_other _ g2]; exact h1.keep id g1 g2
    · rw [put_other _ (by omega)]; exact put_here _ _ _
    · rw [put_other _ (by omega), put_other _ (by omega)]; exact h1.de
  · have hjy : j < ys.length := by omega
    -- what the round ends in
    have hend : ∀ g : Bool, g = decide (Ls.take (j + 1) = ys.take (j + 1)) → ∃ b T', rollcalllaw13_same.J3 D H k (n0 + 3) (some (HA.cell0 n0)) (some (HA.cell0 (n0 + 1))) g T1 = some (.bool b, T') ∧ Kp (n0 + 4) T T' ∧ (b = true → SI B w0 r0 n0 Ls ys .ready (j + 1) T') ∧ (b = false → SStop B w0 r0 n0 Ls ys T') := by
      intro g hg
      have hc : (T1.put (n0 + 1) (.cells 1 [[.bool g]] true)).heap n0 = .cells 1 [[.int .i64 j]] true := by rw [put_other _ (by omega)]; exact h1.cnt
      rw [rollcalllaw13_same.J3, Option.bind_some, sets_cell _ h1.good, Option.bind_some, Option.bind_some, ldI_cell hc, Option.bind_some, Option.bind_some, w64_id (by omega) (by omega), sets_cell _ hc, Option.bind_some, endr_at none (by rw [put_other _ (by omega), put_other _ (by omega)]; exact h1.lo)]
      refine ⟨true, _, rfl, ⟨hk1.le, fun id g1 g2 => ?_⟩, fun _ => ⟨fun id g1 g2 => ?_, ?_, ?_, ?_, ?_, put_here _ _ _, h1.nx, hjy⟩, (fun h => by cases h)⟩
      · rw [put_other _ (by omega), put_other _ (by omega), put_other _ (by omega)]; exact hk1.eq id g1 g2
      · rw [put_other _ (by omega), put_other _ (by omega), put_other _ (by omega)]; exact h1.keep id g1 g2
      · obtain ⟨b, hb⟩ := h1.res
        exact ⟨b, by rw [put_other _ (by omega), put_other _ (by omega), put_other _ (by omega)]; exact hb⟩
      · rw [put_other _ (by omega), put_here]; simp
      · rw [put_other _ (by omega), put_other _ (by omega), put_here, hg]
      · rw [put_other _ (by omega), put_other _ (by omega), put_other _ (by omega)]; exact h1.de
    have hiff := take_succ_eq hj hjy
    obtain ⟨ad, a1, a2, a3⟩ := pair_rows hrows hjy
    rw [if_neg (by omega), Option.bind_some, ldB_cell h1.good, Option.bind_some]
    by_cases hg : Ls.take j = ys.take j
    · rw [if_pos (by simpa using hg), Option.bind_some, ldSl_cell hw1, Option.bind_some, Option.bind_some, ldI_cell h1.cnt, Option.bind_some, a1, Option.bind_some, a2, Option.bind_some, rollcalllaw13_same.J2]
      by_cases hn : Ls[j].1 = ys[j].1
      · rw [if_pos (by simpa using hn), Option.bind_some, ldSl_cell hw1, Option.bind_some, Option.bind_some, ldI_cell h1.cnt, Option.bind_some, a1, Option.bind_some, a3, Option.bind_some]
        refine hend _ ?_
        rw [decide_eq_decide, hiff]
        exact ⟨fun h => ⟨hg, Prod.ext hn h⟩, fun h => by rw [h.2]⟩
      · rw [if_neg (by simpa using hn)]
        refine hend _ ?_
        symm
        rw [decide_eq_false_iff_not, hiff]
        exact fun h => hn (by rw [h.2])
    · rw [if_neg (by simpa using hg), rollcalllaw13_same.J2, if_neg (by simp)]
      refine hend _ ?_
      symm
      rw [decide_eq_false_iff_not, hiff]
      exact fun h => hg h.1

theorem same_core {D : Dp} {k w0 r0 : Nat} {B : HS} {want : Sl} {Ls ys : List Ent} {f : Fn} {u v : List HV} (hr : r0 < B.next) (hw : w0 < B.next) (hwr : w0 ≠ r0) (hB : B.heap w0 = .cells 1 [[want.hv]] true) (hBr : B.heap r0 = .cells 1 [[.bool false]] true) (hrd : Rd r0 B 2 want (ys.map pairRow)) (hy : ys.length ≤ 1000000)
    (tells : ∀ (H : Hd) (r : List HV → HS → Option (HV × HS)) (I : Nat → HS → Prop) (Stop : HS → Prop), H (B.next + 3) = some r → (∀ i S S', I i S → Fr (B.next + 4) S S' → I i S') → (∀ S S', Stop S → Fr (B.next + 4) S S' → Stop S') → (∀ i S, I i S → B.next + 4 ≤ S.next) → (∀ S, Stop S → B.next + 4 ≤ S.next) →
      (∀ i S, I i S → ∀ id, id < B.next → id ≠ r0 → S.heap id = B.heap id) → (∀ i (hi : i < Ls.length) S, I i S → ∃ b S', r [.str Ls[i].1, .int .i64 Ls[i].2] S = some (.bool b, S') ∧ Kp (B.next + 4) S S' ∧ (b = true → I (i + 1) S') ∧ (b = false → Stop S')) → ∀ S, I 0 S →
      ∃ S', D H (.fn f u v) [.fn (.yield (B.next + 3)) [] []] S = some (.tup [], S') ∧ (I Ls.length S' ∨ Stop S')) :
    ∃ T', rollcalllaw13_same.J0 D (fun _ => none) k (some (HA.cell0 w0)) (some (HA.cell0 r0)) (.fn f u v) [] B = some (decide (Ls = ys), T') ∧ (∀ id, id < B.next → id ≠ r0 → T'.heap id = B.heap id) ∧ B.next ≤ T'.next := by
  rw [rollcalllaw13_same.J0]
  simp only [HV.isNilFn, Option.bind_some]
  rw [if_neg (by simp), letv, sets_cell _ (new_here _ _), Option.bind_some, letv, sets_cell _ (new_here _ _), Option.bind_some]
  simp only [put_next, new_next]
  generalize hT1 : (((B.new (.cells 1 [[.int .i64 0]] true)).put B.next (.cells 1 [[.int .i64 0]] true)).new (.cells 1 [[.bool false]] true)).put (B.next + 1) (.cells 1 [[.bool true]] true) = T1
  have hn1 : T1.next = B.next + 2 := by subst hT1; rfl
  have hold : ∀ id, id < B.next → T1.heap id = B.heap id := by
    intro id hid
    subst hT1
    rw [put_other _ (by omega), new_old _ (by rw [put_next, new_next]; omega), put_other _ (by omega), new_old _ hid]
  have hc0 : T1.heap B.next = .cells 1 [[.int .i64 0]] true := by
    subst hT1
    rw [put_other _ (by omega), new_old _ (by rw [put_next, new_next]; omega), put_here]
  have hg0 : T1.heap (B.next + 1) = .cells 1 [[.bool true]] true := by subst hT1; exact put_here _ _ _
  have hS : SI B w0 r0 B.next Ls ys .ready 0 ((T1.new .defer).new (.loop .ready none)) := by
    refine ⟨fun id h1 h2 => ?_, ⟨false, ?_⟩, ?_, ?_, ?_, ?_, ?_, Nat.zero_le _⟩
    · rw [new_old _ (by rw [new_next]; omega), new_old _ (by omega)]; exact hold id h1
    · rw [new_old _ (by rw [new_next]; omega), new_old _ (by omega), hold _ hr]; exact hBr
    · rw [new_old _ (by rw [new_next]; omega), new_old _ (by omega)]; exact hc0
    · rw [new_old _ (by rw [new_next]; omega), new_old _ (by omega), hg0]; simp
    · rw [new_old _ (by rw [new_next]; omega), ← hn1]; exact new_here _ _
    · rw [show B.next + 3 = (T1.new .defer).next by rw [new_next]; omega]; exact new_here _ _
    · simp only [new_next]; omega
  have hin := tells (Hd.set (fun _ => none) (B.next + 3) (fun vs T => Option.bind (HS.lp T (B.next + 3)) fun _ => Option.bind (args2 vs) fun ar => Option.bind (dS ar.1) fun a => Option.bind (dI .i64 ar.2) fun b => rollcalllaw13_same.J1 D (fun _ => none) k (B.next + 3) (some (HA.cell0 w0)) (some (HA.cell0 r0)) (some (HA.cell0 B.next)) (some (HA.cell0 (B.next + 1))) a b T))
    _ (fun j T => SI B w0 r0 B.next Ls ys .ready j T) (SStop B w0 r0 B.next Ls ys) (by simp [Hd.set]; rfl) (fun i S S' h hf => h.fr hr hf) (fun S S' h hf => h.fr hr hf) (fun i S h => h.nx) (fun S h => h.nx) (fun i S h => h.keep) (by
      intro i hi S h
      simp only [lp_at h.lo, args2, dS, dI, Option.bind_some, if_true]
      exact same_round hr hw hwr hB hrd hy hi h) _ hS
  obtain ⟨S', e, h⟩ := hin
  rw [show B.next + 1 + 1 + 1 = B.next + 3 from rfl, show B.next + 1 + 1 = B.next + 2 from rfl]
  erw [e]
  rw [Option.bind_some]
  rcases h with h | h
  · have e1 : S'.finish (B.next + 3) = some (none, S'.put (B.next + 3) (.loop .exhausted none)) := by simp [HS.finish, h.lo]
    rw [e1, Option.bind_some]
    simp only [pcode, Option.bind_some, if_true]
    have h2 : ∀ id, id ≠ B.next + 3 → (S'.put (B.next + 3) (.loop .exhausted none)).heap id = S'.heap id := fun id hne => put_other _ hne
    generalize hX : S'.put (B.next + 3) (.loop .exhausted none) = X at h2 ⊢
    have hXn : X.next = S'.next := by subst hX; rfl
    have hXr : ∃ b, X.heap r0 = .cells 1 [[.bool b]] true := by obtain ⟨b, hb⟩ := h.res; exact ⟨b, (h2 _ (by omega)).trans hb⟩
    obtain ⟨b0, hXr⟩ := hXr
    have hend : ∀ y, ∃ T', rollcalllaw13_same.J4 D (fun _ => none) k (some (HA.cell0 r0)) y ((B.next + 2) :: []) X = some (y, T') ∧ (∀ id, id < B.next → id ≠ r0 → T'.heap id = B.heap id) ∧ B.next ≤ T'.next := by
      intro y
      have hd : (X.put r0 (.cells 1 [[.bool y]] true)).heap (B.next + 2) = .defer := by rw [put_other _ (by omega), h2 _ (by omega)]; exact h.de
      rw [rollcalllaw13_same.J4, Option.bind_some, sets_cell _ hXr, Option.bind_some, HS.leave, hd]
      simp only [HS.leave, Option.bind_some]
      have hb : ((X.put r0 (.cells 1 [[.bool y]] true)).put (B.next + 2) .dead).heap r0 = .cells 1 [[.bool y]] true := by rw [put_other _ (by omega)]; exact put_here _ _ _
      rw [ldB_cell hb, Option.bind_some]
      refine ⟨_, rfl, fun id g1 g2 => ?_, ?_⟩
      · rw [put_other _ (by omega), put_other _ g2, h2 _ (by omega)]; exact h.keep id g1 g2
      · simp only [put_next]; have := h.nx; omega
    have hXg : X.heap (B.next + 1) = .cells 1 [[.bool (decide (Ls.take Ls.length = ys.take Ls.length))]] true := (h2 _ (by omega)).trans h.good
    have hXc : X.heap B.next = .cells 1 [[.int .i64 Ls.length]] true := (h2 _ (by omega)).trans h.cnt
    have hXw : X.heap w0 = .cells 1 [[want.hv]] true := ((h2 _ (by omega)).trans (h.keep w0 hw hwr)).trans hB
    have hwl : (want.len : Int) = ys.length := by rw [hrd.len]; simp
    rw [ldB_cell hXg, Option.bind_some]
    have hle := h.le
    by_cases hg : Ls.take Ls.length = ys.take Ls.length
    · rw [if_pos (by simpa using hg)]
      simp only [ldI_cell hXc, ldSl_cell hXw, Option.bind_some, hwl]
      have : decide ((Ls.length : Int) = ys.length) = decide (Ls = ys) := by
        rw [decide_eq_decide]
        constructor
        · intro hl
          rw [List.take_length, show Ls.length = ys.length by omega, List.take_length] at hg
          exact hg
        · intro hl; rw [hl]
      rw [this]
      exact hend _
    · rw [if_neg (by simpa using hg)]
      have : decide (Ls = ys) = false := by
        rw [decide_eq_false_iff_not]
        intro hl; subst hl; exact hg rfl
      rw [this]
      exact hend _
  · have e1 : S'.finish (B.next + 3) = some (some .ret, S'.put (B.next + 3) (.loop .exhausted (some .ret))) := by simp [HS.finish, h.lo]
    rw [e1, Option.bind_some]
    simp only [pcode, Option.bind_some, show ¬ (1 : Nat) = 0 by decide, if_false, if_true]
    have hd : (S'.put (B.next + 3) (.loop .exhausted (some .ret))).heap (B.next + 2) = .defer := by rw [put_other _ (by omega)]; exact h.de
    rw [HS.leave, hd]
    simp only [HS.leave, Option.bind_some]
    have hb : ((S'.put (B.next + 3) (.loop .exhausted (some .ret))).put (B.next + 2) .dead).heap r0 = .cells 1 [[.bool false]] true := by rw [put_other _ (by omega), put_other _ (by omega)]; exact h.res
    rw [ldB_cell hb, Option.bind_some]
    have : decide (Ls = ys) = false := by
      rw [decide_eq_false_iff_not]
      intro hl; have := h.lt; rw [hl] at this; omega
    rw [this]
    refine ⟨_, rfl, fun id g1 g2 => ?_, ?_⟩
    · rw [put_other _ (by omega), put_other _ (by omega)]; exact h.keep id g1 g2
    · simp only [put_next]; have := h.nx; omega
end Go.Proofs.Ytlmpmnbljpigiaa.X
