/- The layer valid: ValidHosts, plain. -/
import Derived.Test.YtpcdkecglgokoaaValidNames
namespace Go.Proofs.Ytpcdkecglgokoaa.X
open Go.Proofs.Ytpcdkecglgokoaa.HL
set_option linter.unusedVariables false
theorem refHost_spec {k : Nat} {x : List UInt8} (hx : x.length ≤ 1000) (hk : 2000 ≤ k) : rollcallref03_Host.f k x = some ((decide ((1 : Int) ≤ x.length ∧ (x.length : Int) ≤ 63) && x.all (isOf 16)) && !(x.take 1 == [58])) := by
  unfold rollcallref03_Host.f
  have := scan (L := rollcallref03_Host.L0 k) (x := x) (ok := fun i b => rLet b || rDig b || b == 46 || b == 45 || (b == 58 && !decide (i = 0))) (e := decide (1 ≤ x.length) && decide (x.length ≤ 63)) (by omega) ?_ ?_ k 0 (by omega) (by omega)
  · refine this.trans ?_
    congr 1
    cases x with
    | nil => rfl
    | cons b t =>
      rw [List.drop_zero, okAll, okAll_from (p := isOf 16) (j := 1) (fun i b h => by rw [decide_eq_false (by omega), k16]; simp) (0 + 1) t (by omega), show (63 : Int) = ((63 : Nat) : Int) from rfl, len_dec, List.all_cons, List.take_succ_cons, List.take_zero]
      have : ([b] == [58]) = (b == 58) := by simp
      rw [this, show (rLet b || rDig b || b == 46 || b == 45 || (b == 58 && !decide (0 = 0))) = (isOf 16 b && !(b == 58)) from all_bytes (p := fun b => (rLet b || rDig b || b == 46 || b == 45 || (b == 58 && !decide (0 = 0))) = (isOf 16 b && !(b == 58))) (by decide +kernel) b]
      generalize isOf 16 b = p; generalize t.all (isOf 16) = q; generalize (b == 58) = r; generalize decide (1 ≤ (b :: t).length) = u; generalize decide ((b :: t).length ≤ 63) = v
      cases p <;> cases q <;> cases r <;> cases u <;> cases v <;> rfl
  · intro n i h
    show rollcallref03_Host.L0 k (n + 1) x (i : Int) = _
    rw [rollcallref03_Host.L0]
    rw [if_pos (by omega), sat_lt h, Option.bind_some, let_spec, Option.bind_some]
    simp only [rollcallref03_Host.J1, rollcallref03_Host.J2, rollcallref03_Host.J3, rollcallref03_Host.J4, rollcallref03_Host.J5, dig_spec, Option.bind_some]
    rw [show decide ((x[i].toNat : Int) = 46) = (x[i] == 46) from dec_byte x[i] 46 (by decide), show decide ((x[i].toNat : Int) = 45) = (x[i] == 45) from dec_byte x[i] 45 (by decide), show decide ((x[i].toNat : Int) = 58) = (x[i] == 58) from dec_byte x[i] 58 (by decide), show decide ((i : Int) = 0) = decide (i = 0) by rw [decide_eq_decide]; omega]
    generalize rLet x[i] = l; generalize rDig x[i] = d; generalize (x[i] == 46) = q1; generalize (x[i] == 45) = q2; generalize (x[i] == 58) = q3; generalize decide (i = 0) = q4
    cases l
    · cases d
      · cases q1
        · cases q2
          · cases q3 <;> cases q4 <;> simp
          · cases q3 <;> cases q4 <;> simp
        · cases q3 <;> cases q4 <;> simp
      · cases q3 <;> cases q4 <;> simp
    · cases q3 <;> cases q4 <;> simp
  · intro n
    show rollcallref03_Host.L0 k (n + 1) x (x.length : Int) = _
    unfold rollcallref03_Host.L0
    rw [if_neg (by omega)]
    by_cases h : 1 ≤ x.length
    · rw [if_pos (by omega), rollcallref03_Host.J6, decide_eq_true h, Bool.true_and, show decide ((x.length : Int) ≤ 63) = decide (x.length ≤ 63) by rw [decide_eq_decide]; omega]
    · rw [if_neg (by omega), rollcallref03_Host.J6, decide_eq_false h, Bool.false_and]
theorem refKey_spec {k : Nat} {x : List UInt8} (hx : x.length ≤ 1000) (hk : 2000 ≤ k) : rollcallref03_Key.f k x = some ((decide ((1 : Int) ≤ x.length ∧ (x.length : Int) ≤ 23) && x.all (isOf 32)) && !(x.take 1 == [58])) := by
  unfold rollcallref03_Key.f
  have := scan (L := rollcallref03_Key.L0 k) (x := x) (ok := fun i b => isOf 32 b) (e := (decide (1 ≤ x.length) && decide (x.length ≤ 23)) && !(x.take 1 == [58])) (by omega) ?_ ?_ k 0 (by omega) (by omega)
  · refine this.trans ?_
    rw [List.drop_zero, okAll_from (p := isOf 32) (j := 0) (fun i b h => rfl) 0 x (by omega), show (23 : Int) = ((23 : Nat) : Int) from rfl, len_dec]
    congr 1
    generalize x.all (isOf 32) = p; generalize (x.take 1 == [58]) = q; generalize (decide (1 ≤ x.length) && decide (x.length ≤ 23)) = r
    cases p <;> cases q <;> cases r <;> rfl
  · intro n i h
    show rollcallref03_Key.L0 k (n + 1) x (i : Int) = _
    rw [rollcallref03_Key.L0]
    rw [if_pos (by omega), sat_lt h, Option.bind_some]
    simp only [rollcallref03_Key.J1, rollcallref03_Key.J2, sat_lt h, Option.bind_some, k32]
    rw [show decide ((x[i].toNat : Int) > 126) = decide (x[i].toNat > 126) by rw [decide_eq_decide]; omega, show decide ((x[i].toNat : Int) = 44) = (x[i] == 44) from dec_byte x[i] 44 (by decide)]
    by_cases h1 : x[i].toNat < 33
    · rw [if_pos (by omega), decide_eq_true h1]; simp
    · rw [if_neg (by omega), decide_eq_false h1]
      generalize (x[i] == 44) = q; generalize decide (x[i].toNat > 126) = r
      cases q <;> cases r <;> simp
  · intro n
    show rollcallref03_Key.L0 k (n + 1) x (x.length : Int) = _
    rw [rollcallref03_Key.L0]
    rw [if_neg (by omega)]
    cases x with
    | nil => rfl
    | cons b t =>
      rw [if_pos (by simp; omega), rollcallref03_Key.J3, show sat (b :: t) 0 = some b from rfl, Option.bind_some, rollcallref03_Key.J4, rollcallref03_Key.J4, show decide ((b.toNat : Int) = 58) = (b == 58) from dec_byte b 58 (by decide),
        show decide (((b :: t).length : Int) ≤ 23) = decide ((b :: t).length ≤ 23) by rw [decide_eq_decide]; omega, decide_eq_true (show 1 ≤ (b :: t).length by simp), List.take_succ_cons, List.take_zero, show ([b] == [58]) = (b == 58) by simp]
      cases decide ((b :: t).length ≤ 23) <;> simp
theorem all64 (x : List UInt8) : x.all (isOf 64) = (!x.contains 0 && (!x.contains 10 && !x.contains 13)) := by
  induction x with
  | nil => rfl
  | cons b t ih =>
    rw [List.all_cons, ih, k64, List.contains_cons, List.contains_cons, List.contains_cons, Bool.beq_comm (a := b) (b := 0), Bool.beq_comm (a := b) (b := 10), Bool.beq_comm (a := b) (b := 13)]
    generalize (0 == b) = p; generalize (10 == b) = q; generalize (13 == b) = r; generalize t.contains 0 = u; generalize t.contains 10 = v; generalize t.contains 13 = w
    cases p <;> cases q <;> cases r <;> cases u <;> cases v <;> cases w <;> rfl
theorem refText03_spec {k : Nat} {x : List UInt8} (hx : x.length ≤ 1000) (hk : 2000 ≤ k) : rollcallref03_Text.f k x = some (x.all (isOf 64)) := by
  unfold rollcallref03_Text.f
  have i0 := in_spec (k := k) x 0 hx hk
  have i10 := in_spec (k := k) x 10 hx hk
  have i13 := in_spec (k := k) x 13 hx hk
  rw [show (((0 : UInt8).toNat : Nat) : Int) = 0 from rfl] at i0
  rw [show (((10 : UInt8).toNat : Nat) : Int) = 10 from rfl] at i10
  rw [show (((13 : UInt8).toNat : Nat) : Int) = 13 from rfl] at i13
  rw [i0, Option.bind_some, all64]
  simp only [i10, i13, Option.bind_some, rollcallref03_Text.J0, rollcallref03_Text.J1]
  cases x.contains 0 <;> cases x.contains 10 <;> simp
def hostB (x : List UInt8) : Bool := (decide ((1 : Int) ≤ x.length ∧ (x.length : Int) ≤ 63) && x.all (isOf 16)) && !(x.take 1 == [58])
theorem host_spec {k m : Nat} {x : List UInt8} {S : HS} (hx : x.length ≤ 1000) (hk : 2000 ≤ k) (hm : m ≤ S.next) : ∃ S', valid_Host.f k x S = some (hostB x, S') ∧ Fr m S S' := by
  unfold valid_Host.f
  obtain ⟨S1, e1, f1⟩ := all_spec (k := k) (m := m) (x := x) (of := 16) (least := 1) (most := 63) (S := S) (by omega) (by omega) (by omega) hm
  refine ⟨S1, ?_, f1⟩
  rw [e1, Option.bind_some]
  by_cases h : (decide ((1 : Int) ≤ x.length ∧ (x.length : Int) ≤ 63) && x.all (isOf 16)) = true
  · rw [if_pos h, hostB, h]
    cases x with
    | nil => simp at h
    | cons b t => rw [show sat (b :: t) 0 = some b from rfl, Option.bind_some, valid_Host.J0, show decide ((b.toNat : Int) = 58) = (b == 58) from dec_byte b 58 (by decide), List.take_succ_cons, List.take_zero, show ([b] == [58]) = (b == 58) by simp]; rfl
  · rw [if_neg h, valid_Host.J0, hostB, show (decide ((1 : Int) ≤ x.length ∧ (x.length : Int) ≤ 63) && x.all (isOf 16)) = false by simpa using h]; rfl
def keyB (x : List UInt8) : Bool := (decide ((1 : Int) ≤ x.length ∧ (x.length : Int) ≤ 23) && x.all (isOf 32)) && !(x.take 1 == [58])
theorem key_spec {k m : Nat} {x : List UInt8} {S : HS} (hx : x.length ≤ 1000) (hk : 2000 ≤ k) (hm : m ≤ S.next) : ∃ S', valid_Key.f k x S = some (keyB x, S') ∧ Fr m S S' := by
  unfold valid_Key.f
  obtain ⟨S1, e1, f1⟩ := all_spec (k := k) (m := m) (x := x) (of := 32) (least := 1) (most := 23) (S := S) (by omega) (by omega) (by omega) hm
  refine ⟨S1, ?_, f1⟩
  rw [e1, Option.bind_some]
  by_cases h : (decide ((1 : Int) ≤ x.length ∧ (x.length : Int) ≤ 23) && x.all (isOf 32)) = true
  · rw [if_pos h, keyB, h]
    cases x with
    | nil => simp at h
    | cons b t => rw [show sat (b :: t) 0 = some b from rfl, Option.bind_some, valid_Key.J0, show decide ((b.toNat : Int) = 58) = (b == 58) from dec_byte b 58 (by decide), List.take_succ_cons, List.take_zero, show ([b] == [58]) = (b == 58) by simp]; rfl
  · rw [if_neg h, valid_Key.J0, keyB, show (decide ((1 : Int) ≤ x.length ∧ (x.length : Int) ≤ 23) && x.all (isOf 32)) = false by simpa using h]; rfl
theorem text_spec {k m : Nat} {x : List UInt8} {S : HS} (hx : x.length ≤ 1000) (hk : 2000 ≤ k) (hm : m ≤ S.next) : ∃ S', valid_Text.f k x S = some (x.all (isOf 64), S') ∧ Fr m S S' := by
  unfold valid_Text.f
  obtain ⟨S1, e1, f1⟩ := all_spec (k := k) (m := m) (x := x) (of := 64) (least := 0) (most := (x.length : Int)) (S := S) (by omega) (by omega) (by omega) hm
  refine ⟨S1, ?_, f1⟩
  rw [e1, Option.bind_some, decide_eq_true (show (0 : Int) ≤ x.length ∧ (x.length : Int) ≤ x.length by omega), Bool.true_and]
def serverB (x : List UInt8) : Bool := hostB x && ((x.take 1).all rLet && (x.contains 46 && !x.contains 58))
theorem server_spec {k m : Nat} {x : List UInt8} {S : HS} (hx : x.length ≤ 1000) (hk : 2000 ≤ k) (hm : m ≤ S.next) : ∃ S', valid_Server.f k x S = some (serverB x, S') ∧ Fr m S S' := by
  unfold valid_Server.f
  obtain ⟨S1, e1, f1⟩ := host_spec (k := k) (m := m) (x := x) (S := S) hx hk hm
  refine ⟨S1, ?_, f1⟩
  have i46 := has_spec x 46
  have i58 := has_spec x 58
  rw [show (((46 : UInt8).toNat : Nat) : Int) = 46 from rfl] at i46
  rw [show (((58 : UInt8).toNat : Nat) : Int) = 58 from rfl] at i58
  rw [e1, Option.bind_some, serverB]
  by_cases h : hostB x = true
  · rw [if_pos h, h]
    cases x with
    | nil => simp [hostB] at h
    | cons b t =>
      have hb := b.toNat_lt
      rw [show sat (b :: t) 0 = some b from rfl, Option.bind_some, w64_id (by omega) (by omega), vlet_spec, Option.bind_some, List.take_succ_cons, List.take_zero]
      simp only [i46, i58, Option.bind_some, valid_Server.J0, valid_Server.J1, valid_Server.J2]
      rw [show [b].all rLet = rLet b by simp]
      generalize rLet b = p; generalize (b :: t).contains 46 = q; generalize (b :: t).contains 58 = r
      cases p <;> cases q <;> cases r <;> rfl
  · rw [if_neg h, show hostB x = false by simpa using h]
    simp [valid_Server.J0, valid_Server.J1, valid_Server.J2]
theorem refServer_spec {k : Nat} {x : List UInt8} (hx : x.length ≤ 1000) (hk : 2000 ≤ k) : rollcallref03_Server.f k x = some (serverB x) := by
  unfold rollcallref03_Server.f
  have i46 := in_spec (k := k) x 46 hx hk
  have i58 := in_spec (k := k) x 58 hx hk
  rw [show (((46 : UInt8).toNat : Nat) : Int) = 46 from rfl] at i46
  rw [show (((58 : UInt8).toNat : Nat) : Int) = 58 from rfl] at i58
  rw [refHost_spec hx hk, Option.bind_some, serverB, ← hostB]
  by_cases h : hostB x = true
  · rw [if_pos h, h]
    cases x with
    | nil => simp [hostB] at h
    | cons b t =>
      rw [show sat (b :: t) 0 = some b from rfl, Option.bind_some, let_spec, Option.bind_some, List.take_succ_cons, List.take_zero]
      simp only [i46, i58, Option.bind_some, rollcallref03_Server.J0, rollcallref03_Server.J1, rollcallref03_Server.J2]
      rw [show [b].all rLet = rLet b by simp]
      generalize rLet b = p; generalize (b :: t).contains 46 = q; generalize (b :: t).contains 58 = r
      cases p <;> cases q <;> cases r <;> rfl
  · rw [if_neg h, show hostB x = false by simpa using h]
    simp [rollcallref03_Server.J0, rollcallref03_Server.J1, rollcallref03_Server.J2]

theorem validHosts_spec {k : Nat} {x : List UInt8} {S : HS} (hk : 2000 ≤ k) : ∃ S', rollcalllaw03_ValidHosts.f k x S = some (true, S') := by
  unfold rollcalllaw03_ValidHosts.f
  obtain ⟨S1, e1, f1⟩ := awake_spec (k := k) (m := S.next) (S := S) hk (Nat.le_refl _)
  rw [e1, Option.bind_some, if_neg (by simp)]
  by_cases h : (x.length : Int) > 100
  · rw [if_pos h]; exact ⟨_, rfl⟩
  have hx : x.length ≤ 1000 := by omega
  obtain ⟨S2, e2, f2⟩ := host_spec (k := k) (m := S1.next) (x := x) (S := S1) hx hk (Nat.le_refl _)
  obtain ⟨S3, e3, f3⟩ := server_spec (k := k) (m := S2.next) (x := x) (S := S2) hx hk (Nat.le_refl _)
  obtain ⟨S4, e4, f4⟩ := key_spec (k := k) (m := S3.next) (x := x) (S := S3) hx hk (Nat.le_refl _)
  obtain ⟨S5, e5, f5⟩ := text_spec (k := k) (m := S4.next) (x := x) (S := S4) hx hk (Nat.le_refl _)
  rw [if_neg h, e2, Option.bind_some, refHost_spec hx hk, Option.bind_some, ← hostB, if_pos (by simp), e3, Option.bind_some, refServer_spec hx hk, Option.bind_some, rollcalllaw03_ValidHosts.J0, if_pos (by simp),
    e4, Option.bind_some, refKey_spec hx hk, Option.bind_some, ← keyB, rollcalllaw03_ValidHosts.J1, if_pos (by simp), e5, Option.bind_some, refText03_spec hx hk, Option.bind_some, rollcalllaw03_ValidHosts.J2]
  exact ⟨_, by simp; rfl⟩
theorem validHosts_call (W : World) (a : List UInt8) : HCall Try.prog W.heap.size W B0 5 [.str a] S0 (fun v _ => v = .bool true) :=
  let ⟨_, h⟩ := validHosts_spec (k := 2000) (x := a) (S := S0) (Nat.le_refl _)
  (rollcalllaw03_ValidHosts.snd h).mono fun _ _ h => h.1
end Go.Proofs.Ytpcdkecglgokoaa.X
