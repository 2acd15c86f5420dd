/- The layer valid: nicknames and channels, plain. -/
import Derived.Test.YtpcdkecglgokoaaVcBld
namespace Go.Proofs.Ytpcdkecglgokoaa.X
open Go.Proofs.Ytpcdkecglgokoaa.HL
set_option linter.unusedVariables false
def nickB (x : List UInt8) : Bool := (decide ((1 : Int) ≤ x.length ∧ (x.length : Int) ≤ 16) && x.all (isOf 2)) && (x.take 1).all (isOf 1)
theorem nick_spec {k m : Nat} {x : List UInt8} {S : HS} (hx : x.length ≤ 1000) (hk : 2000 ≤ k) (hm : m ≤ S.next) : ∃ S', valid_Nick.f k x S = some (nickB x, S') ∧ Fr m S S' := by
  unfold valid_Nick.f
  obtain ⟨S1, e1, f1⟩ := all_spec (k := k) (m := m) (x := x) (of := 2) (least := 1) (most := 16) (S := S) (by omega) (by omega) (by omega) hm
  rw [e1, Option.bind_some]
  by_cases h : (decide ((1 : Int) ≤ x.length ∧ (x.length : Int) ≤ 16) && x.all (isOf 2)) = true
  · have h1 : (1 : Int) ≤ x.length := by simp at h; omega
    obtain ⟨S2, e2, f2⟩ := all_spec (k := k) (m := m) (x := x.take 1) (of := 1) (least := 1) (most := 1) (S := S1) (by simp; omega) (by omega) (by simp; omega) (Nat.le_trans hm f1.le)
    rw [if_pos h, if_pos ⟨by omega, by omega, by omega⟩, show ssub x 0 1 = x.take 1 by simp [ssub], e2, Option.bind_some, valid_Nick.J0]
    refine ⟨S2, ?_, f1.trans f2⟩
    have hl : (x.take 1).length = 1 := by simp; omega
    rw [nickB, h, hl]
    simp
  · rw [if_neg h, valid_Nick.J0]
    refine ⟨S1, ?_, f1⟩
    rw [nickB, show (decide ((1 : Int) ≤ x.length ∧ (x.length : Int) ≤ 16) && x.all (isOf 2)) = false by simpa using h]
    rfl
def chanB (x : List UInt8) : Bool := match x with
  | b :: t => decide (b.toNat = 35) && (decide (1 ≤ t.length ∧ t.length ≤ 49) && t.all (isOf 4))
  | [] => false

theorem chan_spec {k m : Nat} {x : List UInt8} {S : HS} (hx : x.length ≤ 1000) (hk : 2000 ≤ k) (hm : m ≤ S.next) : ∃ S', valid_Channel.f k x S = some (chanB x, S') ∧ Fr m S S' := by
  unfold valid_Channel.f
  cases x with
  | nil => rw [if_neg (by simp), valid_Channel.J0, if_neg (by simp), valid_Channel.J1]; exact ⟨S, rfl, Fr.refl _ _⟩
  | cons b t =>
    simp only [List.length_cons] at hx
    by_cases h2 : 1 ≤ t.length
    · rw [if_pos (by simp; omega), show sat (b :: t) 0 = some b from rfl, Option.bind_some, valid_Channel.J0]
      by_cases h3 : b.toNat = 35
      · obtain ⟨S1, e1, f1⟩ := all_spec (k := k) (m := m) (x := t) (of := 4) (least := 1) (most := 49) (S := S) (by omega) (by omega) (by omega) hm
        rw [if_pos (by simp; omega), if_pos ⟨by omega, by simp only [List.length_cons]; omega, by omega⟩, show ssub (b :: t) 1 ((b :: t).length : Int) = t by simp [ssub], e1, Option.bind_some, valid_Channel.J1]
        refine ⟨S1, ?_, f1⟩
        have : decide ((1 : Int) ≤ (t.length : Int) ∧ (t.length : Int) ≤ 49) = decide (1 ≤ t.length ∧ t.length ≤ 49) := by rw [decide_eq_decide]; omega
        simp [chanB, h3, this]
      · rw [if_neg (by simp; omega), valid_Channel.J1]
        exact ⟨S, by simp [chanB, h3], Fr.refl _ _⟩
    · rw [if_neg (by simp; omega), valid_Channel.J0, if_neg (by simp), valid_Channel.J1]
      exact ⟨S, by simp [chanB]; omega, Fr.refl _ _⟩
end Go.Proofs.Ytpcdkecglgokoaa.X
