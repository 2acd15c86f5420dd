/- The layer valid: whether all bytes of a text are of a kind, plain. -/
import Derived.Test.YtcphapfclncggaaDoorWaKinds
namespace Go.Proofs.YtcphapfclncggaaDoor.X
open Go.Proofs.YtcphapfclncggaaDoor.HL
set_option linter.unusedVariables false
def isOf (of : Int) (b : UInt8) : Bool := !decide (iand .u16 (kindOf (b.toNat : Int)) of = 0)
theorem kpart_get {j : Nat} (hj : j < 256) : (kpart 256)[j]? = some (.int .u16 (kindOf (j : Int))) := by
  rw [kpart, List.getElem?_append_left (by simpa using hj)]
  simp [hj]
theorem all_loop {k q : Nat} {x : List UInt8} {of : Int} (hx : x.length ≤ 100000) {S : HS} (hS : S.heap q = .cells 256 [kpart 256] true) : ∀ (n i : Nat), x.length - i < n → i ≤ x.length →
    valid_all.L1 k n x of (some (HA.cell0 q)) (x.length : Int) (i : Int) S = some ((x.drop i).all (isOf of), S) := by
  intro n
  induction n with
  | zero => intro i h; omega
  | succ n ih =>
    intro i h hi
    unfold valid_all.L1
    by_cases hlt : i < x.length
    · have hb := x[i].toNat_lt
      have hr : S.ldI .u16 (HA.fld (HA.cell0 q) (Int.toNat ((x[i]).toNat : Int))) = some (kindOf ((x[i]).toNat : Int)) := by
        rw [Int.toNat_natCast]
        exact row_ldI (cell_row hS) rfl (kpart_get (by omega))
      rw [if_pos (by omega), sat_lt hlt, Option.bind_some, Option.bind_some, if_pos ⟨by omega, by omega⟩, hr, Option.bind_some, List.drop_eq_getElem_cons hlt, List.all_cons]
      by_cases h0 : iand .u16 (kindOf ((x[i]).toNat : Int)) of = 0
      · rw [if_pos h0]; simp [isOf, h0]
      · rw [if_neg h0, w64_id (by omega) (by omega), show ((i : Int) + 1) = ((i + 1 : Nat) : Int) by simp, ih (i + 1) (by omega) (by omega)]
        simp [isOf, h0]
    · rw [if_neg (by omega), List.drop_eq_nil_of_le (by omega)]; rfl

theorem all_spec {k m : Nat} {x : List UInt8} {of least most : Int} {S : HS} (hx : x.length ≤ 100000) (hk : 257 ≤ k) (hk2 : x.length < k) (hm : m ≤ S.next) :
    ∃ S', valid_all.f k x least most of S = some (decide (least ≤ x.length ∧ (x.length : Int) ≤ most) && x.all (isOf of), S') ∧ Fr m S S' := by
  have hcore : ∃ S', valid_all.J0 k x of false S = some (x.all (isOf of), S') ∧ Fr m S S' := by
    obtain ⟨S1, e1, f1⟩ := kinds_spec (k := k) (m := m) (S := S) hk hm
    have hl : (kpart 256).length = 256 := kpart_len (Nat.le_refl _)
    have hf : List.all (kpart 256) HV.flat = true := by simp [kpart, HV.flat]
    rw [valid_all.J0, if_neg (by simp), e1, Option.bind_some, letv, if_pos ⟨hl, hf⟩, show HA.cell0 S1.next = (⟨S1.next, 0, 0⟩ : HA) from rfl,
      sets_row (new_here S1 _) rfl (by rw [hl, List.length_replicate]; exact Nat.le_refl _), List.drop_eq_nil_of_le (by rw [hl, List.length_replicate]; exact Nat.le_refl _), List.take_zero, List.nil_append, List.append_nil, List.set_cons_zero, Option.bind_some]
    have := all_loop (k := k) (q := S1.next) (x := x) (of := of) hx (S := (S1.new (.cells 256 [List.replicate 256 (.int .u16 0)] true)).put S1.next (.cells 256 [kpart 256] true)) (put_here _ _ _) k 0 (by omega) (by omega)
    exact ⟨_, this, f1.trans ((Fr.new (Nat.le_trans hm f1.le) _).trans (Fr.put (Nat.le_trans hm f1.le) _))⟩
  have hfalse : valid_all.J0 k x of true S = some (false, S) := by rw [valid_all.J0, if_pos rfl]
  unfold valid_all.f
  by_cases h1 : (x.length : Int) < least
  · rw [if_pos h1, hfalse]
    exact ⟨S, by simp; omega, Fr.refl _ _⟩
  · rw [if_neg h1]
    by_cases h2 : (x.length : Int) > most
    · rw [show decide ((x.length : Int) > most) = true by simpa using h2, hfalse]
      exact ⟨S, by simp; omega, Fr.refl _ _⟩
    · rw [show decide ((x.length : Int) > most) = false by simpa using h2]
      obtain ⟨S', e, f⟩ := hcore
      exact ⟨S', by rw [e, show decide (least ≤ (x.length : Int) ∧ (x.length : Int) ≤ most) = true by simp; omega]; rfl, f⟩
end Go.Proofs.YtcphapfclncggaaDoor.X
