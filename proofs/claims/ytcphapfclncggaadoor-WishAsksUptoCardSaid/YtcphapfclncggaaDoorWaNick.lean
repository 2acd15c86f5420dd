/- The layer wish: nicknames, plain. -/
import Derived.Test.YtcphapfclncggaaDoorWaAll
import Derived.Test.YtcphapfclncggaaDoorHLs
import Derived.Laws.Runes
namespace Go.Proofs.YtcphapfclncggaaDoor.X
open Go.Proofs.YtcphapfclncggaaDoor.HL
set_option linter.unusedVariables false
def nickB (x : List UInt8) : Bool := (decide ((1 : Int) ≤ x.length ∧ (x.length : Int) ≤ 16) && x.all (isOf 2)) && (x.take 1).all (isOf 1)
theorem nick_spec {k m : Nat} {x : List UInt8} {S : HS} (hx : x.length ≤ 1000) (hk : 2000 ≤ k) (hm : m ≤ S.next) : ∃ S', valid_Nick.f k x S = some (nickB x, S') ∧ Fr m S S' := by
  unfold valid_Nick.f
  obtain ⟨S1, e1, f1⟩ := all_spec (k := k) (m := m) (x := x) (of := 2) (least := 1) (most := 16) (S := S) (by omega) (by omega) (by omega) hm
  rw [e1, Option.bind_some]
  by_cases h : (decide ((1 : Int) ≤ x.length ∧ (x.length : Int) ≤ 16) && x.all (isOf 2)) = true
  · have h1 : (1 : Int) ≤ x.length := by simp at h; omega
    obtain ⟨S2, e2, f2⟩ := all_spec (k := k) (m := m) (x := x.take 1) (of := 1) (least := 1) (most := 1) (S := S1) (by simp; omega) (by omega) (by simp; omega) (Nat.le_trans hm f1.le)
    rw [if_pos h, if_pos ⟨by omega, by omega, by omega⟩, show ssub x 0 1 = x.take 1 by simp [ssub], e2, Option.bind_some, valid_Nick.J0]
    refine ⟨S2, ?_, f1.trans f2⟩
    have hl : (x.take 1).length = 1 := by simp; omega
    rw [nickB, h, hl]
    simp
  · rw [if_neg h, valid_Nick.J0]
    refine ⟨S1, ?_, f1⟩
    rw [nickB, show (decide ((1 : Int) ≤ x.length ∧ (x.length : Int) ≤ 16) && x.all (isOf 2)) = false by simpa using h]
    rfl
theorem all_bytes {p : UInt8 → Prop} (h : ∀ n : Fin 256, p (UInt8.ofNat n.val)) (b : UInt8) : p b := by
  have := h ⟨b.toNat, b.toNat_lt⟩
  simpa using this
theorem has_spec (x : List UInt8) (b : UInt8) : valid_has.f x (b.toNat : Int) = some (x.contains b) := by
  unfold valid_has.f strings_IndexByte.f internal_stringslite_IndexByte.f
  have hb := b.toNat_lt
  rw [w8_id (by omega) (by omega)]
  simp only [Option.bind_some, bidx, ge_iff_le]
  rw [firstIdx_nonneg]
  have : (b.toNat : Int).toNat.toUInt8 = b := by simp
  rw [this]
  congr 1
  show x.any (· == b) = x.contains b
  rw [List.contains_eq_any_beq]
  congr 1; funext y
  exact Bool.beq_comm

/-- A loop that goes through a text until a byte isn't one. -/
def okAll (ok : Nat → UInt8 → Bool) : Nat → List UInt8 → Bool
  | _, [] => true
  | i, b :: t => ok i b && okAll ok (i + 1) t
theorem okAll_from {ok : Nat → UInt8 → Bool} {p : UInt8 → Bool} {j : Nat} (h : ∀ i b, j ≤ i → ok i b = p b) : ∀ (i : Nat) (x : List UInt8), j ≤ i → okAll ok i x = x.all p
  | _, [], _ => rfl
  | i, b :: t, hi => by rw [okAll, List.all_cons, okAll_from h (i + 1) t (by omega), h i b hi]
theorem scan {L : Nat → List UInt8 → Int → Option Bool} {x : List UInt8} {ok : Nat → UInt8 → Bool} {e : Bool} (hx : x.length ≤ 100000)
    (h1 : ∀ n i (h : i < x.length), L (n + 1) x (i : Int) = if ok i x[i] then L n x (w64 ((i : Int) + 1)) else some false)
    (h2 : ∀ n, L (n + 1) x (x.length : Int) = some e) : ∀ (n i : Nat), x.length - i < n → i ≤ x.length → L n x (i : Int) = some (okAll ok i (x.drop i) && e) := by
  intro n
  induction n with
  | zero => intro i h; omega
  | succ n ih =>
    intro i h hi
    by_cases hlt : i < x.length
    · rw [h1 n i hlt, List.drop_eq_getElem_cons hlt, okAll]
      cases ok i x[i] with
      | false => simp
      | true => rw [if_pos rfl, w64_id (by omega) (by omega), show ((i : Int) + 1) = ((i + 1 : Nat) : Int) by simp, ih (i + 1) (by omega) (by omega), Bool.true_and]
    · obtain rfl : i = x.length := by omega
      rw [h2, List.drop_eq_nil_of_le (Nat.le_refl _)]
      simp [okAll]
theorem toNat_eq (a b : UInt8) : ((a.toNat : Int) = (b.toNat : Int)) = (a = b) := by
  apply propext
  constructor
  · intro h; exact UInt8.toNat_inj.1 (by omega)
  · intro h; rw [h]
theorem in_spec {k : Nat} (x : List UInt8) (b : UInt8) (hx : x.length ≤ 1000) (hk : 2000 ≤ k) : rollcallref03_in.f k x (b.toNat : Int) = some (x.contains b) := by
  unfold rollcallref03_in.f
  have key : ∀ (n i : Nat), x.length - i < n → i ≤ x.length → rollcallref03_in.L0 k n x (b.toNat : Int) (i : Int) = some ((x.drop i).contains b) := by
    intro n
    induction n with
    | zero => intro i h; omega
    | succ n ih =>
      intro i h hi
      unfold rollcallref03_in.L0
      by_cases hlt : i < x.length
      · rw [if_pos (by omega), sat_lt hlt, Option.bind_some, List.drop_eq_getElem_cons hlt, List.contains_cons]
        by_cases h0 : x[i] = b
        · rw [if_pos (by rw [h0])]; simp [h0]
        · rw [if_neg (by rw [toNat_eq]; exact h0), beq_false_of_ne (Ne.symm h0), Bool.false_or, w64_id (by omega) (by omega), show ((i : Int) + 1) = ((i + 1 : Nat) : Int) by simp, ih (i + 1) (by omega) (by omega)]
      · rw [if_neg (by omega), List.drop_eq_nil_of_le (by omega)]; rfl
  exact key k 0 (by omega) (by omega)

def rLet (b : UInt8) : Bool := (decide (65 ≤ b.toNat) && decide (b.toNat ≤ 90)) || (decide (97 ≤ b.toNat) && decide (b.toNat ≤ 122))
def rDig (b : UInt8) : Bool := decide (48 ≤ b.toNat) && decide (b.toNat ≤ 57)
def rSig (b : UInt8) : Bool := b == 96 || [91, 93, 92, 95, 94, 123, 124, 125].contains b
theorem let_spec (b : UInt8) : rollcallref03_Letter.f (b.toNat : Int) = some (rLet b) := all_bytes (p := fun b => rollcallref03_Letter.f (b.toNat : Int) = some (rLet b)) (by decide +kernel) b
theorem vlet_spec (b : UInt8) : valid_letter.f (b.toNat : Int) = some (rLet b) := all_bytes (p := fun b => valid_letter.f (b.toNat : Int) = some (rLet b)) (by decide +kernel) b
theorem dig_spec (b : UInt8) : rollcallref03_Digit.f (b.toNat : Int) = some (rDig b) := all_bytes (p := fun b => rollcallref03_Digit.f (b.toNat : Int) = some (rDig b)) (by decide +kernel) b
theorem sig_spec {k : Nat} (hk : 2000 ≤ k) (b : UInt8) : rollcallref03_Sign.f k (b.toNat : Int) = some (rSig b) := by
  unfold rollcallref03_Sign.f
  by_cases h : b = 96
  · subst h; rw [if_pos (by decide), rollcallref03_Sign.J0]; rfl
  · rw [if_neg (by rw [show (96 : Int) = ((96 : UInt8).toNat : Int) from rfl, toNat_eq]; exact h), in_spec _ _ (by decide) hk, Option.bind_some, rollcallref03_Sign.J0, rSig, beq_false_of_ne h, Bool.false_or]
theorem k1 (b : UInt8) : isOf 1 b = (rLet b || rSig b) := all_bytes (p := fun b => isOf 1 b = (rLet b || rSig b)) (by decide +kernel) b
theorem k2 (b : UInt8) : isOf 2 b = (rLet b || rSig b || (rDig b || b == 45)) := all_bytes (p := fun b => isOf 2 b = (rLet b || rSig b || (rDig b || b == 45))) (by decide +kernel) b
theorem dec_byte (b : UInt8) (n : Nat) (hn : n < 256) : decide ((b.toNat : Int) = (n : Int)) = (b == UInt8.ofNat n) := by
  have e : ((b.toNat : Int) = (n : Int)) = (b = UInt8.ofNat n) := by
    rw [← toNat_eq b (UInt8.ofNat n)]
    have : (UInt8.ofNat n).toNat = n := by simp; omega
    rw [this]
  rw [Bool.eq_iff_iff, decide_eq_true_iff, beq_iff_eq, e]
theorem eq_byte (b : UInt8) (n : Nat) (hn : n < 256) : ((b.toNat : Int) = (n : Int)) = ((b == UInt8.ofNat n) = true) := by
  rw [← dec_byte b n hn, decide_eq_true_iff]


theorem refNick_spec {k : Nat} {x : List UInt8} (hx : x.length ≤ 1000) (hk : 2000 ≤ k) : rollcallref03_Nick.f k x = some (nickB x) := by
  unfold rollcallref03_Nick.f
  have := scan (L := rollcallref03_Nick.L0 k) (x := x) (ok := fun i b => if i = 0 then isOf 1 b else isOf 2 b) (e := decide (1 ≤ x.length) && decide (x.length ≤ 16)) (by omega) ?_ ?_ k 0 (by omega) (by omega)
  · refine this.trans ?_
    congr 1
    cases x with
    | nil => rfl
    | cons b t =>
      rw [List.drop_zero, okAll, if_pos rfl, okAll_from (p := isOf 2) (j := 1) (fun i b h => by rw [if_neg (by omega)]) (0 + 1) t (by omega)]
      rw [nickB, List.all_cons]
      have h12 : isOf 1 b = true → isOf 2 b = true := by rw [k1, k2]; intro h; rw [h]; rfl
      have e1 : decide ((1 : Int) ≤ ((b :: t).length : Int) ∧ ((b :: t).length : Int) ≤ 16) = (decide (1 ≤ (b :: t).length) && decide ((b :: t).length ≤ 16)) := by
        rw [Bool.eq_iff_iff, Bool.and_eq_true, decide_eq_true_iff, decide_eq_true_iff, decide_eq_true_iff]; omega
      rw [e1, List.take_succ_cons, List.take_zero, List.all_cons, List.all_nil]
      cases h1 : isOf 1 b <;> cases h2 : isOf 2 b <;> simp_all [Bool.and_comm]
  · intro n i h
    show rollcallref03_Nick.L0 k (n + 1) x (i : Int) = _
    rw [rollcallref03_Nick.L0]
    rw [if_pos (by omega), sat_lt h, Option.bind_some, let_spec, Option.bind_some]
    simp only [rollcallref03_Nick.J1, rollcallref03_Nick.J2, rollcallref03_Nick.J3, rollcallref03_Nick.J4, sig_spec hk, dig_spec, Option.bind_some, k1, k2]
    rw [show (45 : Int) = ((45 : Nat) : Int) from rfl, dec_byte x[i] 45 (by decide), show UInt8.ofNat 45 = 45 from rfl]
    generalize rLet x[i] = l; generalize rSig x[i] = s; generalize rDig x[i] = d; generalize (x[i] == 45) = q
    by_cases h5 : i = 0
    · subst h5; cases l <;> cases s <;> cases d <;> cases q <;> simp
    · have h6 : ¬ ((i : Int) = 0) := by omega
      rw [if_neg h5]
      simp only [if_neg h6, decide_eq_false h6]
      cases l <;> cases s <;> cases d <;> cases q <;> simp
  · intro n
    show rollcallref03_Nick.L0 k (n + 1) x (x.length : Int) = _
    rw [rollcallref03_Nick.L0]
    rw [if_neg (by omega)]
    by_cases h : 1 ≤ x.length
    · rw [if_pos (by omega), rollcallref03_Nick.J5, decide_eq_true h, Bool.true_and, show decide ((x.length : Int) ≤ 16) = decide (x.length ≤ 16) by rw [decide_eq_decide]; omega]
    · rw [if_neg (by omega), rollcallref03_Nick.J5, decide_eq_false h, Bool.false_and]

end Go.Proofs.YtcphapfclncggaaDoor.X
