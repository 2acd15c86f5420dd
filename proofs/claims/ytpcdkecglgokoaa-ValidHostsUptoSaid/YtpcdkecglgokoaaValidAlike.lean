/- The layer valid: ValidAlike, plain. -/
import Derived.Test.YtpcdkecglgokoaaValidBase
namespace Go.Proofs.Ytpcdkecglgokoaa.X
open Go.Proofs.Ytpcdkecglgokoaa.HL
set_option linter.unusedVariables false
theorem awake_spec {k m : Nat} {S : HS} (hk : 2000 ≤ k) (hm : m ≤ S.next) : ∃ S', rollcalllaw03_awake.f k S = some (true, S') ∧ Fr m S S' := by
  unfold rollcalllaw03_awake.f
  obtain ⟨S1, e1, f1⟩ := nick_spec (k := k) (m := m) (x := [97, 45, 98]) (S := S) (by decide) hk hm
  obtain ⟨S2, e2, f2⟩ := nick_spec (k := k) (m := m) (x := [45, 97]) (S := S1) (by decide) hk (Nat.le_trans hm f1.le)
  obtain ⟨S3, e3, f3⟩ := nick_spec (k := k) (m := m) (x := [49, 97]) (S := S2) (by decide) hk (Nat.le_trans hm (f1.trans f2).le)
  obtain ⟨S4, e4, f4⟩ := chan_spec (k := k) (m := m) (x := [35, 97]) (S := S3) (by decide) hk (Nat.le_trans hm ((f1.trans f2).trans f3).le)
  obtain ⟨S5, e5, f5⟩ := chan_spec (k := k) (m := m) (x := [35]) (S := S4) (by decide) hk (Nat.le_trans hm (((f1.trans f2).trans f3).trans f4).le)
  have d1 : nickB [97, 45, 98] = true := by decide +kernel
  have d2 : nickB [45, 97] = false := by decide +kernel
  have d3 : nickB [49, 97] = false := by decide +kernel
  have d4 : chanB [35, 97] = true := by decide +kernel
  have d5 : chanB [35] = false := by decide +kernel
  rw [e1, Option.bind_some, d1, if_pos rfl, e2, Option.bind_some, d2, rollcalllaw03_awake.J0, if_pos (by rfl), e3, Option.bind_some, d3, rollcalllaw03_awake.J1, if_pos (by rfl), e4, Option.bind_some, d4, rollcalllaw03_awake.J2, if_pos rfl, e5, Option.bind_some, d5, rollcalllaw03_awake.J3]
  exact ⟨S5, rfl, (((f1.trans f2).trans f3).trans f4).trans f5⟩

theorem tilde_loop {k : Nat} {x : List UInt8} (hx : x.length ≤ 100000) : ∀ (n i : Nat), x.length - i < n → i ≤ x.length → rollcalllaw03_hasTilde.L0 k n x (i : Int) = some ((x.drop i).contains 126) := by
  intro n
  induction n with
  | zero => intro i h; omega
  | succ n ih =>
    intro i h hi
    unfold rollcalllaw03_hasTilde.L0
    by_cases hlt : i < x.length
    · rw [if_pos (by omega), sat_lt hlt, Option.bind_some, List.drop_eq_getElem_cons hlt]
      by_cases h0 : x[i] = 126
      · rw [if_pos (by rw [h0]; rfl)]; simp [h0]
      · have hne : ¬ ((x[i].toNat : Int) = 126) := by
          intro e
          have e2 : x[i].toNat = (126 : UInt8).toNat := (by omega : x[i].toNat = 126)
          exact h0 (UInt8.toNat_inj.1 e2)
        rw [if_neg hne, w64_id (by omega) (by omega), show ((i : Int) + 1) = ((i + 1 : Nat) : Int) by simp, ih (i + 1) (by omega) (by omega)]
        rw [List.contains_cons, beq_false_of_ne (Ne.symm h0), Bool.false_or]
    · rw [if_neg (by omega), List.drop_eq_nil_of_le (by omega)]; rfl
theorem tilde_spec {k : Nat} {x : List UInt8} (hx : x.length ≤ 1000) (hk : 2000 ≤ k) : rollcalllaw03_hasTilde.f k x = some (x.contains 126) := by
  unfold rollcalllaw03_hasTilde.f
  have := tilde_loop (k := k) (x := x) (by omega) k 0 (by omega) (by omega)
  simpa using this

theorem isOf2_low (a : UInt8) : a ≠ 126 → isOf 2 a = isOf 2 (low a) := all_bytes (p := fun a => a ≠ 126 → isOf 2 a = isOf 2 (low a)) (by decide +kernel) a
theorem isOf1_low (a : UInt8) : a ≠ 126 → isOf 1 a = isOf 1 (low a) := all_bytes (p := fun a => a ≠ 126 → isOf 1 a = isOf 1 (low a)) (by decide +kernel) a
theorem all_low {of : Int} (hof : ∀ a : UInt8, a ≠ 126 → isOf of a = isOf of (low a)) : ∀ (x : List UInt8), x.contains 126 = false → x.all (isOf of) = (x.map low).all (isOf of)
  | [], _ => rfl
  | b :: x, h => by
    rw [List.contains_cons, Bool.or_eq_false_iff] at h
    rw [List.map_cons, List.all_cons, List.all_cons, all_low hof x h.2, hof b (fun e => by rw [e] at h; exact absurd h.1 (by decide))]
theorem take_tilde {x : List UInt8} (h : x.contains 126 = false) : (x.take 1).contains 126 = false := by
  cases x with
  | nil => rfl
  | cons b x => rw [List.contains_cons, Bool.or_eq_false_iff] at h; simp only [List.take_succ_cons, List.take_zero, List.contains_cons, h.1]; rfl
theorem nick_low {x : List UInt8} (h : x.contains 126 = false) : nickB x = nickB (x.map low) := by
  unfold nickB
  rw [all_low isOf2_low x h, all_low isOf1_low _ (take_tilde h), List.length_map, List.map_take]
theorem nick_tilde {x : List UInt8} (h : x.contains 126 = true) : nickB x = false := by
  have h2 : isOf 2 126 = false := by decide +kernel
  have h1 : x.all (isOf 2) = false := by
    rw [List.all_eq_false]
    exact ⟨126, by simpa using h, by rw [h2]; decide⟩
  unfold nickB
  rw [h1]; simp
theorem nick_chan (x : List UInt8) : (nickB x && chanB x) = false := by
  cases x with
  | nil => rfl
  | cons b t =>
    have h2 : isOf 2 35 = false := by decide +kernel
    by_cases hb : b.toNat = 35
    · have : b = 35 := UInt8.toNat_inj.1 hb
      subst this
      unfold nickB
      rw [List.all_cons, h2]; simp
    · simp [chanB, hb]

theorem validAlike_spec {k : Nat} {a b : List UInt8} {S : HS} (hk : 2000 ≤ k) : ∃ S', rollcalllaw03_ValidAlike.f k a b S = some (true, S') := by
  unfold rollcalllaw03_ValidAlike.f
  obtain ⟨S1, e1, f1⟩ := awake_spec (k := k) (m := S.next) (S := S) hk (Nat.le_refl _)
  rw [e1, Option.bind_some, if_neg (by simp)]
  by_cases ha : (a.length : Int) > 100
  · rw [if_pos ha, rollcalllaw03_ValidAlike.J0, if_pos rfl, rollcalllaw03_ValidAlike.J1, if_pos rfl]; exact ⟨_, rfl⟩
  rw [if_neg ha, rollcalllaw03_ValidAlike.J0]
  by_cases hb : (b.length : Int) > 100
  · rw [if_pos (by simpa using hb), rollcalllaw03_ValidAlike.J1, if_pos rfl]; exact ⟨_, rfl⟩
  have hA : a.length ≤ 1000 := by omega
  have hB : b.length ≤ 1000 := by omega
  obtain ⟨S2, e2, f2⟩ := refSame_spec (k := k) (m := S1.next) (S := S1) hA hB hk (Nat.le_refl _)
  rw [if_neg (by simpa using hb), e2, Option.bind_some, rollcalllaw03_ValidAlike.J1]
  by_cases hs0 : ¬ a.map low = b.map low
  · rw [if_pos (by simpa using hs0)]; exact ⟨_, rfl⟩
  have hs : a.map low = b.map low := Classical.not_not.1 hs0
  rw [if_neg (by simpa using hs), tilde_spec hA hk, Option.bind_some]
  obtain ⟨S3, e3, f3⟩ := nick_spec (k := k) (m := S2.next) (x := a) (S := S2) hA hk (Nat.le_refl _)
  have tilde : a.contains 126 = true ∨ b.contains 126 = true → ∃ S', rollcalllaw03_ValidAlike.J2 k a b true S2 = some (true, S') := by
    intro h
    rw [rollcalllaw03_ValidAlike.J2, if_pos rfl, e3, Option.bind_some]
    have : nickB a = false ∨ a.contains 126 = false := by
      cases h1 : a.contains 126
      · exact .inr rfl
      · exact .inl (nick_tilde h1)
    rcases this with h1 | h1
    · rw [if_pos (by simp [h1]), rollcalllaw03_ValidAlike.J3]; exact ⟨_, rfl⟩
    · by_cases h2 : nickB a = true
      · rw [if_neg (by simp [h2]), tilde_spec hA hk, Option.bind_some, rollcalllaw03_ValidAlike.J3, h1]; exact ⟨_, rfl⟩
      · rw [if_pos (by simpa using h2), rollcalllaw03_ValidAlike.J3]; exact ⟨_, rfl⟩
  by_cases h1 : a.contains 126 = true
  · rw [if_pos h1]; exact tilde (.inl h1)
  rw [if_neg h1, tilde_spec hB hk, Option.bind_some]
  by_cases h2 : b.contains 126 = true
  · rw [h2]; exact tilde (.inr h2)
  have h1' : a.contains 126 = false := by simpa using h1
  have h2' : b.contains 126 = false := by simpa using h2
  have heq : nickB a = nickB b := by rw [nick_low h1', nick_low h2', hs]
  obtain ⟨S4, e4, f4⟩ := nick_spec (k := k) (m := S3.next) (x := b) (S := S3) hB hk (Nat.le_refl _)
  obtain ⟨S5, e5, f5⟩ := nick_spec (k := k) (m := S4.next) (x := a) (S := S4) hA hk (Nat.le_refl _)
  obtain ⟨S6, e6, f6⟩ := chan_spec (k := k) (m := S5.next) (x := a) (S := S5) hA hk (Nat.le_refl _)
  rw [h2', rollcalllaw03_ValidAlike.J2, if_neg (by decide), e3, Option.bind_some, e4, Option.bind_some, if_pos (by simp [heq]), e5, Option.bind_some]
  have hnc := nick_chan a
  by_cases hn : nickB a = true
  · rw [if_pos hn, e6, Option.bind_some, rollcalllaw03_ValidAlike.J4, if_pos (by simp [heq]), rollcalllaw03_ValidAlike.J5]
    rw [hn, Bool.true_and] at hnc
    exact ⟨_, by rw [hnc]; rfl⟩
  · rw [if_neg hn, rollcalllaw03_ValidAlike.J4, if_pos (by simp [heq]), rollcalllaw03_ValidAlike.J5]; exact ⟨_, rfl⟩
theorem validAlike_call (W : World) (a b : List UInt8) : HCall Try.prog W.heap.size W B0 3 [.str a, .str b] S0 (fun v _ => v = .bool true) :=
  let ⟨_, h⟩ := validAlike_spec (k := 2000) (a := a) (b := b) (S := S0) (Nat.le_refl _)
  (rollcalllaw03_ValidAlike.snd h).mono fun _ _ h => h.1
end Go.Proofs.Ytpcdkecglgokoaa.X
