/- The layer valid: ValidNames, plain. -/
import Derived.Test.YtpcdkecglgokoaaValidRefs
namespace Go.Proofs.Ytpcdkecglgokoaa.X
open Go.Proofs.Ytpcdkecglgokoaa.HL
set_option linter.unusedVariables false
/-! ### the references -/
theorem refNick_spec {k : Nat} {x : List UInt8} (hx : x.length ≤ 1000) (hk : 2000 ≤ k) : rollcallref03_Nick.f k x = some (nickB x) := by
  unfold rollcallref03_Nick.f
  have := scan (L := rollcallref03_Nick.L0 k) (x := x) (ok := fun i b => if i = 0 then isOf 1 b else isOf 2 b) (e := decide (1 ≤ x.length) && decide (x.length ≤ 16)) (by omega) ?_ ?_ k 0 (by omega) (by omega)
  · refine this.trans ?_
    congr 1
    cases x with
    | nil => rfl
    | cons b t =>
      rw [List.drop_zero, okAll, if_pos rfl, okAll_from (p := isOf 2) (j := 1) (fun i b h => by rw [if_neg (by omega)]) (0 + 1) t (by omega)]
      rw [nickB, List.all_cons]
      have h12 : isOf 1 b = true → isOf 2 b = true := by rw [k1, k2]; intro h; rw [h]; rfl
      have e1 : decide ((1 : Int) ≤ ((b :: t).length : Int) ∧ ((b :: t).length : Int) ≤ 16) = (decide (1 ≤ (b :: t).length) && decide ((b :: t).length ≤ 16)) := by
        rw [Bool.eq_iff_iff, Bool.and_eq_true, decide_eq_true_iff, decide_eq_true_iff, decide_eq_true_iff]; omega
      rw [e1, List.take_succ_cons, List.take_zero, List.all_cons, List.all_nil]
      cases h1 : isOf 1 b <;> cases h2 : isOf 2 b <;> simp_all [Bool.and_comm]
  · intro n i h
    show rollcallref03_Nick.L0 k (n + 1) x (i : Int) = _
    rw [rollcallref03_Nick.L0]
    rw [if_pos (by omega), sat_lt h, Option.bind_some, let_spec, Option.bind_some]
    simp only [rollcallref03_Nick.J1, rollcallref03_Nick.J2, rollcallref03_Nick.J3, rollcallref03_Nick.J4, sig_spec hk, dig_spec, Option.bind_some, k1, k2]
    rw [show (45 : Int) = ((45 : Nat) : Int) from rfl, dec_byte x[i] 45 (by decide), show UInt8.ofNat 45 = 45 from rfl]
    generalize rLet x[i] = l; generalize rSig x[i] = s; generalize rDig x[i] = d; generalize (x[i] == 45) = q
    by_cases h5 : i = 0
    · subst h5; cases l <;> cases s <;> cases d <;> cases q <;> simp
    · have h6 : ¬ ((i : Int) = 0) := by omega
      rw [if_neg h5]
      simp only [if_neg h6, decide_eq_false h6]
      cases l <;> cases s <;> cases d <;> cases q <;> simp
  · intro n
    show rollcallref03_Nick.L0 k (n + 1) x (x.length : Int) = _
    rw [rollcallref03_Nick.L0]
    rw [if_neg (by omega)]
    by_cases h : 1 ≤ x.length
    · rw [if_pos (by omega), rollcallref03_Nick.J5, decide_eq_true h, Bool.true_and, show decide ((x.length : Int) ≤ 16) = decide (x.length ≤ 16) by rw [decide_eq_decide]; omega]
    · rw [if_neg (by omega), rollcallref03_Nick.J5, decide_eq_false h, Bool.false_and]

theorem len_dec {x : List UInt8} {m : Nat} : decide ((1 : Int) ≤ (x.length : Int) ∧ (x.length : Int) ≤ (m : Int)) = (decide (1 ≤ x.length) && decide (x.length ≤ m)) := by
  rw [Bool.eq_iff_iff, Bool.and_eq_true, decide_eq_true_iff, decide_eq_true_iff, decide_eq_true_iff]; omega
theorem refUser_spec {k : Nat} {x : List UInt8} (hx : x.length ≤ 1000) (hk : 2000 ≤ k) : rollcallref03_User.f k x = some (decide ((1 : Int) ≤ x.length ∧ (x.length : Int) ≤ 10) && x.all (isOf 8)) := by
  unfold rollcallref03_User.f
  have := scan (L := rollcallref03_User.L0 k) (x := x) (ok := fun i b => isOf 8 b) (e := decide (1 ≤ x.length) && decide (x.length ≤ 10)) (by omega) ?_ ?_ k 0 (by omega) (by omega)
  · refine this.trans ?_
    rw [List.drop_zero, okAll_from (p := isOf 8) (j := 0) (fun i b h => rfl) 0 x (by omega), show (10 : Int) = ((10 : Nat) : Int) from rfl, len_dec, Bool.and_comm]
  · intro n i h
    show rollcallref03_User.L0 k (n + 1) x (i : Int) = _
    rw [rollcallref03_User.L0]
    rw [if_pos (by omega), sat_lt h, Option.bind_some]
    simp only [rollcallref03_User.J1, rollcallref03_User.J2, sat_lt h, Option.bind_some, k8, in_spec [33, 64, 42, 63, 58] x[i] (by decide) hk]
    rw [show decide ((x[i].toNat : Int) > 126) = decide (x[i].toNat > 126) by rw [decide_eq_decide]; omega]
    by_cases h1 : x[i].toNat < 33
    · rw [if_pos (by omega), decide_eq_true h1]; simp
    · rw [if_neg (by omega), decide_eq_false h1]
      generalize [33, 64, 42, 63, 58].contains x[i] = q; generalize decide (x[i].toNat > 126) = r
      cases q <;> cases r <;> simp
  · intro n
    show rollcallref03_User.L0 k (n + 1) x (x.length : Int) = _
    rw [rollcallref03_User.L0]
    rw [if_neg (by omega)]
    by_cases h : 1 ≤ x.length
    · rw [if_pos (by omega), rollcallref03_User.J3, decide_eq_true h, Bool.true_and, show decide ((x.length : Int) ≤ 10) = decide (x.length ≤ 10) by rw [decide_eq_decide]; omega]
    · rw [if_neg (by omega), rollcallref03_User.J3, decide_eq_false h, Bool.false_and]

theorem refChan_spec {k : Nat} {x : List UInt8} (hx : x.length ≤ 1000) (hk : 2000 ≤ k) : rollcallref03_Channel.f k x = some (chanB x) := by
  unfold rollcallref03_Channel.f
  by_cases h1 : (x.length : Int) < 2
  · rw [if_pos h1, rollcallref03_Channel.J0, if_pos rfl, rollcallref03_Channel.J1, if_pos rfl]
    match x, h1 with
    | [], _ => rfl
    | [b], _ => simp [chanB]
    | a :: b :: t, h => simp at h; omega
  rw [if_neg h1, rollcallref03_Channel.J0]
  obtain ⟨b, t, rfl⟩ : ∃ b t, x = b :: t := by
    cases x with
    | nil => simp at h1
    | cons b t => exact ⟨b, t, rfl⟩
  simp only [List.length_cons] at hx h1
  by_cases h2 : (((b :: t).length : Nat) : Int) > 50
  · rw [if_pos (by simpa using h2), rollcallref03_Channel.J1, if_pos rfl]
    simp only [List.length_cons] at h2
    rw [chanB, decide_eq_false (show ¬ (1 ≤ t.length ∧ t.length ≤ 49) by omega)]; simp
  rw [if_neg (by simpa using h2), show sat (b :: t) 0 = some b from rfl, Option.bind_some, rollcallref03_Channel.J1]
  simp only [List.length_cons] at h2
  by_cases h3' : ¬ b.toNat = 35
  · rw [if_pos (by simp; omega)]; simp [chanB, h3']
  have h3 : b.toNat = 35 := by omega
  rw [if_neg (by simp; omega)]
  have := scan (L := rollcallref03_Channel.L2 k) (x := b :: t) (ok := fun i b => isOf 4 b) (e := true) (by simp; omega) ?_ ?_ k 1 (by simp; omega) (by simp)
  · refine this.trans ?_
    rw [List.drop_succ_cons, List.drop_zero, okAll_from (p := isOf 4) (j := 0) (fun i b h => rfl) 1 t (by omega), chanB, decide_eq_true h3, decide_eq_true (show 1 ≤ t.length ∧ t.length ≤ 49 by omega)]; simp
  · intro n i h
    generalize b :: t = x at h ⊢
    show rollcallref03_Channel.L2 k (n + 1) x (i : Int) = _
    rw [rollcallref03_Channel.L2]
    rw [if_pos (by omega), sat_lt h, Option.bind_some]
    simp only [rollcallref03_Channel.J3, rollcallref03_Channel.J4, rollcallref03_Channel.J5, rollcallref03_Channel.J6, rollcallref03_Channel.J7, rollcallref03_Channel.J8, k4]
    have e0 := eq_byte x[i] 0 (by decide)
    have d7 := dec_byte x[i] 7 (by decide)
    have d10 := dec_byte x[i] 10 (by decide)
    have d13 := dec_byte x[i] 13 (by decide)
    have d32 := dec_byte x[i] 32 (by decide)
    have d44 := dec_byte x[i] 44 (by decide)
    have d58 := dec_byte x[i] 58 (by decide)
    simp only [show ((x[i].toNat : Int) = 0) = ((x[i] == 0) = true) from e0]
    rw [show decide ((x[i].toNat : Int) = 7) = (x[i] == 7) from d7, show decide ((x[i].toNat : Int) = 10) = (x[i] == 10) from d10, show decide ((x[i].toNat : Int) = 13) = (x[i] == 13) from d13, show decide ((x[i].toNat : Int) = 32) = (x[i] == 32) from d32, show decide ((x[i].toNat : Int) = 44) = (x[i] == 44) from d44, show decide ((x[i].toNat : Int) = 58) = (x[i] == 58) from d58]
    generalize (x[i] == 0) = q0; generalize (x[i] == 7) = q1; generalize (x[i] == 10) = q2; generalize (x[i] == 13) = q3; generalize (x[i] == 32) = q4; generalize (x[i] == 44) = q5; generalize (x[i] == 58) = q6
    cases q0
    · cases q1
      · cases q2
        · cases q3
          · cases q4
            · cases q5
              · cases q6 <;> simp
              · simp
            · simp
          · simp
        · simp
      · simp
    · simp
  · intro n
    show rollcallref03_Channel.L2 k (n + 1) (b :: t) ((b :: t).length : Int) = _
    rw [rollcallref03_Channel.L2]
    rw [if_neg (by omega)]

theorem validNames_spec {k : Nat} {x : List UInt8} {S : HS} (hk : 2000 ≤ k) : ∃ S', rollcalllaw03_ValidNames.f k x S = some (true, S') := by
  unfold rollcalllaw03_ValidNames.f
  obtain ⟨S1, e1, f1⟩ := awake_spec (k := k) (m := S.next) (S := S) hk (Nat.le_refl _)
  rw [e1, Option.bind_some, if_neg (by simp)]
  by_cases h : (x.length : Int) > 100
  · rw [if_pos h]; exact ⟨_, rfl⟩
  have hx : x.length ≤ 1000 := by omega
  obtain ⟨S2, e2, f2⟩ := nick_spec (k := k) (m := S1.next) (x := x) (S := S1) hx hk (Nat.le_refl _)
  obtain ⟨S3, e3, f3⟩ := chan_spec (k := k) (m := S2.next) (x := x) (S := S2) hx hk (Nat.le_refl _)
  obtain ⟨S4, e4, f4⟩ := all_spec (k := k) (m := S3.next) (x := x) (of := 8) (least := 1) (most := 10) (S := S3) (by omega) (by omega) (by omega) (Nat.le_refl _)
  rw [if_neg h, e2, Option.bind_some, refNick_spec hx hk, Option.bind_some, if_pos (by simp), e3, Option.bind_some, refChan_spec hx hk, Option.bind_some, rollcalllaw03_ValidNames.J0, if_pos (by simp),
    valid_User.f, e4, Option.bind_some, Option.bind_some, refUser_spec hx hk, Option.bind_some, rollcalllaw03_ValidNames.J1]
  exact ⟨_, by simp; rfl⟩
theorem validNames_call (W : World) (a : List UInt8) : HCall Try.prog W.heap.size W B0 4 [.str a] S0 (fun v _ => v = .bool true) :=
  let ⟨_, h⟩ := validNames_spec (k := 2000) (x := a) (S := S0) (Nat.le_refl _)
  (rollcalllaw03_ValidNames.snd h).mono fun _ _ h => h.1
end Go.Proofs.Ytpcdkecglgokoaa.X
