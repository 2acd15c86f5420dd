/- The layer wish: nicknames, plain. -/
import Derived.Laws.Runes
import Derived.Test.YtcphapfclncggaaGreatDoorPart13
namespace Go.Proofs.YtcphapfclncggaaGreatDoor.X
open Go.Proofs.YtcphapfclncggaaGreatDoor.HL
set_option linter.unusedVariables false
def nickB (x : List UInt8) : Bool := (decide ((1 : Int) ≤ x.length ∧ (x.length : Int) ≤ 16) && x.all (isOf 2)) && (x.take 1).all (isOf 1)
theorem nick_spec {k m : Nat} {x : List UInt8} {S : HS} (hx : x.length ≤ 1000) (hk : 2000 ≤ k) (hm : m ≤ S.next) : ∃ S',valid_Nick.f k x S = some (nickB x,S') ∧ Fr m S S' := by
 unfold valid_Nick.f
 obtain ⟨S1,e1,f1⟩ := all_spec (k := k) (m := m) (x := x) (of := 2) (least := 1) (most := 16) (S := S) (by omega) (by omega) (by omega) hm
 rw [e1,Option.bind_some]
 by_cases h : (decide ((1 : Int) ≤ x.length ∧ (x.length : Int) ≤ 16) && x.all (isOf 2)) = true
 ·have h1 : (1 : Int) ≤ x.length := by simp at h; omega
  obtain ⟨S2,e2,f2⟩ := all_spec (k := k) (m := m) (x := x.take 1) (of := 1) (least := 1) (most := 1) (S := S1) (by simp; omega) (by omega) (by simp; omega) (Nat.le_trans hm f1.le)
  rw [if_pos h,if_pos ⟨by omega,by omega,by omega⟩,show ssub x 0 1 = x.take 1 by simp [ssub],e2,Option.bind_some,valid_Nick.J0]
  refine ⟨S2,?_,f1.trans f2⟩
  have hl : (x.take 1).length = 1 := by simp; omega
  rw [nickB,h,hl]
  simp
 ·rw [if_neg h,valid_Nick.J0]
  refine ⟨S1,?_,f1⟩
  rw [nickB,show (decide ((1 : Int) ≤ x.length ∧ (x.length : Int) ≤ 16) && x.all (isOf 2)) = false by simpa using h]
  rfl
end Go.Proofs.YtcphapfclncggaaGreatDoor.X
