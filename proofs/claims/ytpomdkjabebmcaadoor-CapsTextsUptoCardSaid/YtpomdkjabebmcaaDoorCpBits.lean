/- The layer caps: bits of a number, plain. -/
import Derived.Test.YtpomdkjabebmcaaDoorCpRun
namespace Go.Proofs.YtpomdkjabebmcaaDoor.X
open Go.Proofs.YtpomdkjabebmcaaDoor.HL
/-- A number as 64 bits, and back. -/
def B (x : Int) : BitVec 64 := BitVec.ofInt 64 x
def I (b : BitVec 64) : Int := IntKind.i64.wrap b.toNat
theorem I_toInt (b : BitVec 64) : I b = b.toInt := by
  have hb := b.isLt
  have e : ((b.toNat : Int) % (2 ^ 64 : Int)) = (b.toNat : Int) := Int.emod_eq_of_lt (by omega) (by omega)
  unfold I IntKind.wrap
  simp only [show IntKind.i64.bits = 64 from rfl, show IntKind.i64.signed = true from rfl, Bool.true_and, show (64 : Nat) - 1 = 63 from rfl]
  rw [e, BitVec.toInt_eq_toNat_cond]
  by_cases h : 2 * b.toNat < 2 ^ 64
  · rw [if_pos h, if_neg (by simp; omega)]
  · rw [if_neg h, if_pos (by simp; omega)]
    simp
theorem B_I (b : BitVec 64) : B (I b) = b := by rw [I_toInt, B, BitVec.ofInt_toInt]
theorem I_B {x : Int} (h1 : -9223372036854775808 ≤ x) (h2 : x ≤ 9223372036854775807) : I (B x) = x := by
  rw [I_toInt, B, BitVec.toInt_ofInt]
  rw [Int.bmod_def]
  split <;> omega
def InR (x : Int) : Prop := -9223372036854775808 ≤ x ∧ x ≤ 9223372036854775807
theorem I_InR (b : BitVec 64) : InR (I b) := by
  rw [I_toInt]
  have h1 := BitVec.le_toInt b
  have h2 := BitVec.toInt_lt (x := b)
  simp at h1 h2
  exact ⟨by omega, by omega⟩
theorem ior_is (x n : Int) : ior .i64 x n = I (B x ||| B n) := rfl
theorem ixor_is (x n : Int) : ixor .i64 x n = I (B x ^^^ B n) := rfl
theorem iand_is (x n : Int) : iand .i64 x n = I (B x &&& B n) := rfl
theorem iandNot_is (x n : Int) : iandNot .i64 x n = I (B x &&& ~~~ B n) := rfl
theorem I_inj {a b : BitVec 64} (h : I a = I b) : a = b := by rw [← B_I a, ← B_I b, h]
/-! ### one bit -/
def Bit (n : Int) : Prop := ∃ j, j < 64 ∧ B n = BitVec.twoPow 64 j
theorem num_bit {w : List UInt8} (h : num w ≠ 0) : Bit (num w) ∧ InR (num w) := by
  unfold num at h ⊢
  split
  · exact ⟨⟨0, by decide, by decide⟩, by decide, by decide⟩
  · split
    · exact ⟨⟨1, by decide, by decide⟩, by decide, by decide⟩
    · split
      · exact ⟨⟨2, by decide, by decide⟩, by decide, by decide⟩
      · rename_i h1 h2 h3
        rw [if_neg h1, if_neg h2, if_neg h3] at h
        exact absurd rfl h
theorem bit_cases {x n : Int} (hb : Bit n) (hn : InR n) (hx : InR x) :
    (iand .i64 x n = n ∧ ixor .i64 x n = iandNot .i64 x n ∧ ior .i64 x n = x) ∨ (iand .i64 x n ≠ n ∧ ixor .i64 x n = ior .i64 x n ∧ iandNot .i64 x n = x) := by
  obtain ⟨j, hj, e⟩ := hb
  have hn2 : n = I (B n) := (I_B hn.1 hn.2).symm
  have hx2 : x = I (B x) := (I_B hx.1 hx.2).symm
  rw [iand_is, ixor_is, ior_is, iandNot_is]
  by_cases h : (B x).getLsbD j = true
  · left
    refine ⟨?_, ?_, ?_⟩
    · rw [e, BitVec.and_twoPow, if_pos h, ← e]; exact hn2.symm
    · congr 1
      rw [e]
      apply BitVec.eq_of_getLsbD_eq
      intro i hi
      simp only [BitVec.getLsbD_xor, BitVec.getLsbD_and, BitVec.getLsbD_not, BitVec.getLsbD_twoPow]
      by_cases hij : j = i
      · subst hij; simp [h, hj]
      · simp [hij, hi]
    · conv => rhs; rw [hx2]
      congr 1
      rw [e]
      apply BitVec.eq_of_getLsbD_eq
      intro i hi
      simp only [BitVec.getLsbD_or, BitVec.getLsbD_twoPow]
      by_cases hij : j = i
      · subst hij; simp [h]
      · simp [hij]
  · have h' : (B x).getLsbD j = false := by simpa using h
    right
    refine ⟨?_, ?_, ?_⟩
    · rw [e, BitVec.and_twoPow, if_neg h]
      intro h0
      rw [hn2] at h0
      have := I_inj h0
      rw [e] at this
      have hg := congrArg (fun b : BitVec 64 => b.getLsbD j) this
      simp [hj] at hg
    · congr 1
      rw [e]
      apply BitVec.eq_of_getLsbD_eq
      intro i hi
      simp only [BitVec.getLsbD_xor, BitVec.getLsbD_or, BitVec.getLsbD_twoPow]
      by_cases hij : j = i
      · subst hij; rw [h']; simp
      · simp [hij]
    · conv => rhs; rw [hx2]
      congr 1
      rw [e]
      apply BitVec.eq_of_getLsbD_eq
      intro i hi
      simp only [BitVec.getLsbD_and, BitVec.getLsbD_not, BitVec.getLsbD_twoPow]
      by_cases hij : j = i
      · subst hij; simp [h']
      · simp [hij, hi]
/-! ### what a request makes, in one form -/
theorem run_form : ∀ (ws : List (List UInt8)), ws.all okW = true → ∃ M V : BitVec 64, V &&& ~~~M = 0 ∧ ∀ x, InR x → run ws x = some (I ((B x &&& ~~~M) ||| V)) := by
  intro ws
  induction ws with
  | nil =>
    intro _
    refine ⟨0, 0, by decide, fun x hx => ?_⟩
    have : (B x &&& ~~~(0 : BitVec 64)) ||| 0 = B x := by
      apply BitVec.eq_of_getLsbD_eq
      intro i hi
      simp only [BitVec.getLsbD_or, BitVec.getLsbD_and, BitVec.getLsbD_not, BitVec.getLsbD_zero]
      rw [decide_eq_true hi]; simp
    rw [run, this, I_B hx.1 hx.2]
  | cons w ws ih =>
    intro h
    rw [List.all_cons, Bool.and_eq_true] at h
    obtain ⟨M, V, hMV, hr⟩ := ih h.2
    have bits : ∀ i, i < 64 → (V.getLsbD i && !M.getLsbD i) = false := fun i hi => by
      have := congrArg (fun b : BitVec 64 => b.getLsbD i) hMV
      simpa [hi] using this
    by_cases h0 : w = []
    · refine ⟨M, V, hMV, fun x hx => ?_⟩
      have e1 : step1 w x = some x := by unfold step1; rw [if_pos h0]
      rw [run, e1, Option.bind_some, hr x hx]
    · have h1 : num (bare w).1 ≠ 0 := by
        have := h.1
        simp [okW, h0] at this
        exact this
      by_cases h2 : (bare w).2 = true
      · refine ⟨B (num (bare w).1) ||| M, V, ?_, fun x hx => ?_⟩
        · apply BitVec.eq_of_getLsbD_eq
          intro i hi
          have := bits i hi
          simp only [BitVec.getLsbD_and, BitVec.getLsbD_not, BitVec.getLsbD_or]
          revert this
          cases V.getLsbD i <;> cases M.getLsbD i <;> simp [hi]
        · have e1 : step1 w x = some (iandNot .i64 x (num (bare w).1)) := by unfold step1; rw [if_neg h0, if_neg h1, if_pos h2]
          rw [run, e1, Option.bind_some, iandNot_is, hr _ (I_InR _), B_I]
          congr 2
          apply BitVec.eq_of_getLsbD_eq
          intro i hi
          simp only [BitVec.getLsbD_and, BitVec.getLsbD_not, BitVec.getLsbD_or]
          cases (B x).getLsbD i <;> cases (B (num (bare w).1)).getLsbD i <;> cases M.getLsbD i <;> cases V.getLsbD i <;> simp [hi]
      · refine ⟨B (num (bare w).1) ||| M, (B (num (bare w).1) &&& ~~~M) ||| V, ?_, fun x hx => ?_⟩
        · apply BitVec.eq_of_getLsbD_eq
          intro i hi
          have := bits i hi
          simp only [BitVec.getLsbD_and, BitVec.getLsbD_not, BitVec.getLsbD_or]
          revert this
          cases V.getLsbD i <;> cases M.getLsbD i <;> cases (B (num (bare w).1)).getLsbD i <;> simp [hi]
        · have e1 : step1 w x = some (ior .i64 x (num (bare w).1)) := by unfold step1; rw [if_neg h0, if_neg h1, if_neg h2]
          rw [run, e1, Option.bind_some, ior_is, hr _ (I_InR _), B_I]
          congr 2
          apply BitVec.eq_of_getLsbD_eq
          intro i hi
          simp only [BitVec.getLsbD_and, BitVec.getLsbD_not, BitVec.getLsbD_or]
          cases (B x).getLsbD i <;> cases (B (num (bare w).1)).getLsbD i <;> cases M.getLsbD i <;> cases V.getLsbD i <;> simp [hi]
theorem run_again {ws : List (List UInt8)} {x m : Int} (hx : InR x) (h : run ws x = some m) : run ws m = some m ∧ InR m := by
  have hok : ws.all okW = true := by rw [← run_ok ws x, h]; rfl
  obtain ⟨M, V, hMV, hr⟩ := run_form ws hok
  have e := hr x hx
  rw [h] at e
  have em : m = I ((B x &&& ~~~M) ||| V) := Option.some.inj e
  have hm : InR m := by rw [em]; exact I_InR _
  refine ⟨?_, hm⟩
  rw [hr m hm, em, B_I]
  congr 2
  apply BitVec.eq_of_getLsbD_eq
  intro i hi
  have hb : (V.getLsbD i && !M.getLsbD i) = false := by
    have := congrArg (fun b : BitVec 64 => b.getLsbD i) hMV
    simpa [hi] using this
  simp only [BitVec.getLsbD_and, BitVec.getLsbD_not, BitVec.getLsbD_or]
  revert hb
  cases (B x).getLsbD i <;> cases M.getLsbD i <;> cases V.getLsbD i <;> simp [hi]
end Go.Proofs.YtpomdkjabebmcaaDoor.X
