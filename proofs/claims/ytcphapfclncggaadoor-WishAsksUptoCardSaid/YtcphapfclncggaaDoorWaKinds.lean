/- The layer valid: the table of kinds, plain. -/
import Derived.Test.YtcphapfclncggaaDoorWaX3
import Derived.Test.YtcphapfclncggaaDoorHLs
namespace Go.Proofs.YtcphapfclncggaaDoor.X
open Go.Proofs.YtcphapfclncggaaDoor.HL
set_option linter.unusedVariables false
theorem all_fin {p : Int → Prop} (h : ∀ n : Fin 256, p (n.val : Int)) {i : Nat} (hi : i < 256) : p (i : Int) := h ⟨i, hi⟩
def hasB (row : List UInt8) (i : Int) : Bool := (valid_has.f row i).getD false
theorem has_eq (row : List UInt8) (i : Int) : valid_has.f row i = some (hasB row i) := rfl
def letB (i : Int) : Bool := (valid_letter.f i).getD false
theorem let_eq {i : Nat} (hi : i < 256) : valid_letter.f (i : Int) = some (letB i) := all_fin (p := fun i => valid_letter.f i = some (letB i)) (by decide +kernel) hi

/-- The table while its i-th cell is made. -/
structure KS (q : Nat) (row : List HV) (i : Nat) (v : Int) (B S : HS) : Prop where
  cell : S.heap q = .cells 256 [row.set i (.int .u16 v)] true
  old : ∀ id, id ≠ q → S.heap id = B.heap id
  nx : S.next = B.next
theorem KS.step {q i : Nat} {row : List HV} {v : Int} {B S : HS} (hi : i < 256) (hr : row.length = 256) (h : KS q row i v B S) (c : Int) :
    S.ldI .u16 (HA.fld (HA.cell0 q) (Int.toNat (i : Int))) = some v ∧ ∃ S', S.sets (HA.fld (HA.cell0 q) (Int.toNat (i : Int))) [.int .u16 c] = some S' ∧ KS q row i c B S' := by
  have hget : (row.set i (HV.int .u16 v))[i]? = some (.int .u16 v) := by rw [List.getElem?_set_self (by omega)]
  constructor
  · simp only [Int.toNat_natCast]
    exact row_ldI (cell_row h.cell) rfl hget
  · refine ⟨S.put q (.cells 256 [row.set i (.int .u16 c)] true), ?_, ⟨put_here _ _ _, fun id hid => (put_other _ hid).trans (h.old id hid), h.nx⟩⟩
    simp only [Int.toNat_natCast, HA.fld]
    rw [sets_row h.cell rfl (by simp; omega)]
    congr 2
    simp only [List.set_cons_zero, List.cons.injEq, and_true, Nat.zero_add, List.length_singleton]
    congr 2
    apply List.ext_getElem?
    intro j
    rw [List.getElem?_append, List.getElem?_append]
    simp only [List.length_take, List.length_set, List.length_append, List.length_singleton, hr]
    by_cases h1 : j < i
    · rw [if_pos (by omega), if_pos (by omega), List.getElem?_take, if_pos h1, List.getElem?_set_ne (by omega), List.getElem?_set_ne (by omega)]
    · by_cases h2 : j = i
      · subst h2
        rw [if_pos (by omega), if_neg (by omega), List.getElem?_set_self (by omega), show j - min j 256 = 0 by omega]
        rfl
      · rw [if_neg (by omega), List.getElem?_drop, List.getElem?_set_ne (by omega), List.getElem?_set_ne (by omega)]
        congr 1; omega

theorem upd {R : Type} {q i : Nat} {row : List HV} {v : Int} {B S : HS} (hi : i < 256) (hr : row.length = 256) (h : KS q row i v B S) (c : Int) (b : Bool) (rest : HS → Option R) :
    ∃ S', (if b = true then
      (Option.bind (some (HA.cell0 q)) fun p9 =>
      (if 0 ≤ (i : Int) ∧ (i : Int) < 256 then
      (Option.bind (HS.ldI S .u16 (HA.fld p9 (Int.toNat i))) fun p11 =>
      (Option.bind (some (HA.cell0 q)) fun p12 =>
      (if 0 ≤ (i : Int) ∧ (i : Int) < 256 then
      (Option.bind (HS.sets S (HA.fld p12 (Int.toNat i)) [(.int .u16 (ior .u16 p11 c))]) fun p14 =>
      rest p14) else none))) else none)) else rest S) = rest S' ∧ KS q row i (if b then ior .u16 v c else v) B S' := by
  cases b with
  | false => exact ⟨S, by simp, by simpa using h⟩
  | true =>
    obtain ⟨h1, S', h2, h3⟩ := h.step hi hr (ior .u16 v c)
    refine ⟨S', ?_, by simpa using h3⟩
    rw [if_pos rfl, Option.bind_some, if_pos ⟨by omega, by omega⟩, h1, Option.bind_some, Option.bind_some, if_pos ⟨by omega, by omega⟩, h2, Option.bind_some]
def kindOf (i : Int) : Int :=
  let dg := decide (i ≥ 48) && decide (i ≤ 57)
  let pl := decide (i ≥ 33) && decide (i ≤ 126)
  let v1 := if letB i || hasB [91, 93, 92, 95, 94, 123, 124, 125, 96] i then ior .u16 0 3 else 0
  let v2 := if dg || decide (i = 45) then ior .u16 v1 2 else v1
  let v3 := if !hasB [0, 7, 10, 13, 32, 44, 58] i then ior .u16 v2 4 else v2
  let v4 := if pl && !hasB [33, 64, 42, 63, 58] i then ior .u16 v3 8 else v3
  let v5 := if (letB i || dg) || hasB [46, 45, 58] i then ior .u16 v4 16 else v4
  let v6 := if pl && !decide (i = 44) then ior .u16 v5 32 else v5
  if !hasB [0, 10, 13] i then ior .u16 v6 64 else v6

section
variable {k : Nat} {rec0 : Option HA → Option HA → Int → HS → Option (List HV × HS)} {y0 : Option HA} {q i : Nat} {row : List HV} {v : Int} {B S : HS}
theorem j14 (hi : i < 256) (hr : row.length = 256) (h : KS q row i v B S) : ∃ S', valid_kinds.J14 k rec0 y0 (some (HA.cell0 q)) (i : Int) (i : Int) S = rec0 y0 (some (HA.cell0 q)) (w64 ((i : Int) + 1)) S' ∧ KS q row i (if !hasB [0, 10, 13] i then ior .u16 v 64 else v) B S' := by
  rw [valid_kinds.J14, has_eq, Option.bind_some]
  exact upd hi hr h 64 _ (fun S => valid_kinds.J15 k rec0 y0 (some (HA.cell0 q)) (i : Int) S)
theorem j12 (pl : Bool) (hi : i < 256) (hr : row.length = 256) (h : KS q row i v B S) : ∃ S', valid_kinds.J12 k rec0 y0 (some (HA.cell0 q)) (i : Int) pl (i : Int) S = valid_kinds.J14 k rec0 y0 (some (HA.cell0 q)) (i : Int) (i : Int) S' ∧ KS q row i (if pl && !decide ((i : Int) = 44) then ior .u16 v 32 else v) B S' := by
  have e : valid_kinds.J12 k rec0 y0 (some (HA.cell0 q)) (i : Int) pl (i : Int) S = valid_kinds.J13 k rec0 y0 (some (HA.cell0 q)) (i : Int) (i : Int) (pl && !decide ((i : Int) = 44)) S := by
    rw [valid_kinds.J12]; cases pl <;> simp
  rw [e, valid_kinds.J13]
  exact upd hi hr h 32 _ (fun S => valid_kinds.J14 k rec0 y0 (some (HA.cell0 q)) (i : Int) (i : Int) S)
theorem j9 (dg pl : Bool) (hi : i < 256) (hr : row.length = 256) (h : KS q row i v B S) : ∃ S', valid_kinds.J9 k rec0 y0 (some (HA.cell0 q)) (i : Int) dg pl (i : Int) S = valid_kinds.J12 k rec0 y0 (some (HA.cell0 q)) (i : Int) pl (i : Int) S' ∧ KS q row i (if (letB i || dg) || hasB [46, 45, 58] i then ior .u16 v 16 else v) B S' := by
  have e : valid_kinds.J9 k rec0 y0 (some (HA.cell0 q)) (i : Int) dg pl (i : Int) S = valid_kinds.J11 k rec0 y0 (some (HA.cell0 q)) (i : Int) pl (i : Int) ((letB i || dg) || hasB [46, 45, 58] i) S := by
    rw [valid_kinds.J9, let_eq hi, Option.bind_some]
    cases letB (i : Int) <;> cases dg <;> simp [valid_kinds.J10, has_eq]
  rw [e, valid_kinds.J11]
  exact upd hi hr h 16 _ (fun S => valid_kinds.J12 k rec0 y0 (some (HA.cell0 q)) (i : Int) pl (i : Int) S)
theorem j7 (dg pl : Bool) (hi : i < 256) (hr : row.length = 256) (h : KS q row i v B S) : ∃ S', valid_kinds.J7 k rec0 y0 (some (HA.cell0 q)) (i : Int) dg pl (i : Int) S = valid_kinds.J9 k rec0 y0 (some (HA.cell0 q)) (i : Int) dg pl (i : Int) S' ∧ KS q row i (if pl && !hasB [33, 64, 42, 63, 58] i then ior .u16 v 8 else v) B S' := by
  have e : valid_kinds.J7 k rec0 y0 (some (HA.cell0 q)) (i : Int) dg pl (i : Int) S = valid_kinds.J8 k rec0 y0 (some (HA.cell0 q)) (i : Int) dg pl (i : Int) (pl && !hasB [33, 64, 42, 63, 58] i) S := by
    rw [valid_kinds.J7]; cases pl <;> simp [has_eq]
  rw [e, valid_kinds.J8]
  exact upd hi hr h 8 _ (fun S => valid_kinds.J9 k rec0 y0 (some (HA.cell0 q)) (i : Int) dg pl (i : Int) S)
theorem j6 (dg pl : Bool) (hi : i < 256) (hr : row.length = 256) (h : KS q row i v B S) : ∃ S', valid_kinds.J6 k rec0 y0 (some (HA.cell0 q)) (i : Int) dg pl (i : Int) S = valid_kinds.J7 k rec0 y0 (some (HA.cell0 q)) (i : Int) dg pl (i : Int) S' ∧ KS q row i (if !hasB [0, 7, 10, 13, 32, 44, 58] i then ior .u16 v 4 else v) B S' := by
  rw [valid_kinds.J6, has_eq, Option.bind_some]
  exact upd hi hr h 4 _ (fun S => valid_kinds.J7 k rec0 y0 (some (HA.cell0 q)) (i : Int) dg pl (i : Int) S)
theorem j4 (dg pl : Bool) (hi : i < 256) (hr : row.length = 256) (h : KS q row i v B S) : ∃ S', valid_kinds.J4 k rec0 y0 (some (HA.cell0 q)) (i : Int) dg pl (i : Int) S = valid_kinds.J6 k rec0 y0 (some (HA.cell0 q)) (i : Int) dg pl (i : Int) S' ∧ KS q row i (if dg || decide ((i : Int) = 45) then ior .u16 v 2 else v) B S' := by
  have e : valid_kinds.J4 k rec0 y0 (some (HA.cell0 q)) (i : Int) dg pl (i : Int) S = valid_kinds.J5 k rec0 y0 (some (HA.cell0 q)) (i : Int) dg pl (i : Int) (dg || decide ((i : Int) = 45)) S := by
    rw [valid_kinds.J4]; cases dg <;> simp
  rw [e, valid_kinds.J5]
  exact upd hi hr h 2 _ (fun S => valid_kinds.J6 k rec0 y0 (some (HA.cell0 q)) (i : Int) dg pl (i : Int) S)
theorem j2 (dg pl : Bool) (hi : i < 256) (hr : row.length = 256) (h : KS q row i v B S) : ∃ S', valid_kinds.J2 k rec0 y0 (some (HA.cell0 q)) (i : Int) dg (i : Int) pl S = valid_kinds.J4 k rec0 y0 (some (HA.cell0 q)) (i : Int) dg pl (i : Int) S' ∧ KS q row i (if letB i || hasB [91, 93, 92, 95, 94, 123, 124, 125, 96] i then ior .u16 v 3 else v) B S' := by
  have e : valid_kinds.J2 k rec0 y0 (some (HA.cell0 q)) (i : Int) dg (i : Int) pl S = valid_kinds.J3 k rec0 y0 (some (HA.cell0 q)) (i : Int) dg pl (i : Int) (letB i || hasB [91, 93, 92, 95, 94, 123, 124, 125, 96] i) S := by
    rw [valid_kinds.J2, let_eq hi, Option.bind_some]
    cases letB (i : Int) <;> simp [has_eq]
  rw [e, valid_kinds.J3]
  exact upd hi hr h 3 _ (fun S => valid_kinds.J4 k rec0 y0 (some (HA.cell0 q)) (i : Int) dg pl (i : Int) S)
end

def ktab : List HV := (List.range 256).map fun (i : Nat) => .int .u16 (kindOf (i : Int))
def kpart (i : Nat) : List HV := (List.range i).map (fun (j : Nat) => HV.int .u16 (kindOf (j : Int))) ++ List.replicate (256 - i) (.int .u16 0)
theorem kpart_len {i : Nat} (hi : i ≤ 256) : (kpart i).length = 256 := by simp [kpart]; omega
theorem kpart_zero {i : Nat} (hi : i < 256) : (kpart i).set i (.int .u16 0) = kpart i := by
  apply List.ext_getElem?
  intro j
  by_cases h : i = j
  · subst h
    rw [List.getElem?_set_self (by rw [kpart_len (by omega)]; exact hi), kpart, List.getElem?_append_right (by simp)]
    simp [List.getElem?_replicate]; omega
  · rw [List.getElem?_set_ne h]
theorem kpart_succ {i : Nat} (hi : i < 256) : (kpart i).set i (.int .u16 (kindOf i)) = kpart (i + 1) := by
  apply List.ext_getElem?
  intro j
  have hl := kpart_len (i := i) (by omega)
  by_cases h : i = j
  · subst h
    rw [List.getElem?_set_self (by omega), kpart, List.getElem?_append_left (by simp)]
    simp
  · rw [List.getElem?_set_ne h]
    by_cases h2 : j < i
    · rw [kpart, kpart, List.getElem?_append_left (by simpa using h2), List.getElem?_append_left (by simp; omega)]
      simp [h2, show j < i + 1 by omega]
    · rw [kpart, kpart, List.getElem?_append_right (by simp; omega), List.getElem?_append_right (by simp; omega)]
      simp only [List.length_map, List.length_range, List.getElem?_replicate]
      by_cases h3 : j < 256
      · rw [if_pos (by omega), if_pos (by omega)]
      · rw [if_neg (by omega), if_neg (by omega)]
theorem kinds_loop {k q0 q : Nat} {B : HS} (hne : q0 ≠ q) (h0 : B.heap q0 = .cells 256 [List.replicate 256 (.int .u16 0)] true) : ∀ (n i : Nat) (S : HS), 256 - i < n → i ≤ 256 → S.heap q = .cells 256 [kpart i] true → (∀ id, id ≠ q → S.heap id = B.heap id) → S.next = B.next →
    ∃ S', valid_kinds.L0 k n (some (HA.cell0 q0)) (some (HA.cell0 q)) (i : Int) S = some (kpart 256, S') ∧ (∀ id, id ≠ q → id ≠ q0 → S'.heap id = B.heap id) ∧ S'.next = B.next := by
  intro n
  induction n with
  | zero => intro i S h; omega
  | succ n ih =>
    intro i S hn hi hq ho hx
    unfold valid_kinds.L0
    by_cases hlt : i < 256
    · rw [if_pos (by omega)]
      have hS : KS q (kpart i) i 0 B S := ⟨by rw [kpart_zero hlt]; exact hq, ho, hx⟩
      have hl := kpart_len hi
      have e : (if (i : Int) ≥ 48 then valid_kinds.J1 k (valid_kinds.L0 k n) (some (HA.cell0 q0)) (some (HA.cell0 q)) (i : Int) (i : Int) (decide ((i : Int) ≤ 57)) S else valid_kinds.J1 k (valid_kinds.L0 k n) (some (HA.cell0 q0)) (some (HA.cell0 q)) (i : Int) (i : Int) false S) =
          valid_kinds.J2 k (valid_kinds.L0 k n) (some (HA.cell0 q0)) (some (HA.cell0 q)) (i : Int) (decide ((i : Int) ≥ 48) && decide ((i : Int) ≤ 57)) (i : Int) (decide ((i : Int) ≥ 33) && decide ((i : Int) ≤ 126)) S := by
        by_cases h1 : (i : Int) ≥ 48 <;> by_cases h2 : (i : Int) ≥ 33 <;> simp [h1, h2, valid_kinds.J1]
      rw [e]
      obtain ⟨S1, e1, k1⟩ := j2 (k := k) (rec0 := valid_kinds.L0 k n) (y0 := some (HA.cell0 q0)) (decide ((i : Int) ≥ 48) && decide ((i : Int) ≤ 57)) (decide ((i : Int) ≥ 33) && decide ((i : Int) ≤ 126)) hlt hl hS
      obtain ⟨S2, e2, k2⟩ := j4 (k := k) (rec0 := valid_kinds.L0 k n) (y0 := some (HA.cell0 q0)) (decide ((i : Int) ≥ 48) && decide ((i : Int) ≤ 57)) (decide ((i : Int) ≥ 33) && decide ((i : Int) ≤ 126)) hlt hl k1
      obtain ⟨S3, e3, k3⟩ := j6 (k := k) (rec0 := valid_kinds.L0 k n) (y0 := some (HA.cell0 q0)) (decide ((i : Int) ≥ 48) && decide ((i : Int) ≤ 57)) (decide ((i : Int) ≥ 33) && decide ((i : Int) ≤ 126)) hlt hl k2
      obtain ⟨S4, e4, k4⟩ := j7 (k := k) (rec0 := valid_kinds.L0 k n) (y0 := some (HA.cell0 q0)) (decide ((i : Int) ≥ 48) && decide ((i : Int) ≤ 57)) (decide ((i : Int) ≥ 33) && decide ((i : Int) ≤ 126)) hlt hl k3
      obtain ⟨S5, e5, k5⟩ := j9 (k := k) (rec0 := valid_kinds.L0 k n) (y0 := some (HA.cell0 q0)) (decide ((i : Int) ≥ 48) && decide ((i : Int) ≤ 57)) (decide ((i : Int) ≥ 33) && decide ((i : Int) ≤ 126)) hlt hl k4
      obtain ⟨S6, e6, k6⟩ := j12 (k := k) (rec0 := valid_kinds.L0 k n) (y0 := some (HA.cell0 q0)) (decide ((i : Int) ≥ 33) && decide ((i : Int) ≤ 126)) hlt hl k5
      obtain ⟨S7, e7, k7⟩ := j14 (k := k) (rec0 := valid_kinds.L0 k n) (y0 := some (HA.cell0 q0)) hlt hl k6
      rw [e1, e2, e3, e4, e5, e6, e7, w64_id (by omega) (by omega), show ((i : Int) + 1) = ((i + 1 : Nat) : Int) by simp]
      refine ih (i + 1) S7 (by omega) (by omega) ?_ k7.old k7.nx
      rw [← kpart_succ hlt]
      exact k7.cell
    · obtain rfl : i = 256 := by omega
      have hl : (kpart 256).length = 256 := kpart_len (Nat.le_refl _)
      have hg : S.gets (HA.cell0 q) 256 = some (kpart 256) := by
        simp only [HS.gets, HS.row, hq]
        simp [hl, List.take_of_length_le]
      have hf : List.all (kpart 256) HV.flat = true := by
        simp [kpart, HV.flat]
      have hq0 : S.heap q0 = .cells 256 [List.replicate 256 (.int .u16 0)] true := by rw [ho q0 hne]; exact h0
      have hs : S.sets (HA.cell0 q0) (kpart 256) = some (S.put q0 (.cells 256 [kpart 256] true)) := by
        rw [show HA.cell0 q0 = (⟨q0, 0, 0⟩ : HA) from rfl, sets_row hq0 rfl (by rw [hl, List.length_replicate]; exact Nat.le_refl _), List.drop_eq_nil_of_le (by rw [hl, List.length_replicate]; exact Nat.le_refl _), List.take_zero, List.nil_append, List.append_nil, List.set_cons_zero]
      have hg2 : (S.put q0 (.cells 256 [kpart 256] true)).gets (HA.cell0 q0) 256 = some (kpart 256) := by
        simp only [HS.gets, HS.row, put_here]
        simp [hl, List.take_of_length_le]
      rw [if_neg (by omega), Option.bind_some, hg, Option.bind_some, Option.bind_some, if_pos ⟨hl, hf⟩, hs, Option.bind_some, Option.bind_some, hg2, Option.bind_some]
      exact ⟨_, rfl, fun id g1 g2 => by rw [put_other _ g2]; exact ho id g1, hx⟩

theorem kinds_spec {k m : Nat} {S : HS} (hk : 257 ≤ k) (hm : m ≤ S.next) : ∃ S', valid_kinds.f k S = some (kpart 256, S') ∧ Fr m S S' := by
  unfold valid_kinds.f
  simp only [letv, new_next]
  obtain ⟨S', e, h1, h2⟩ := kinds_loop (k := k) (q0 := S.next) (q := S.next + 1) (B := (S.new (.cells 256 [List.replicate 256 (.int .u16 0)] true)).new (.cells 256 [List.replicate 256 (.int .u16 0)] true)) (by omega) (by rw [new_old _ (by rw [new_next]; omega)]; exact new_here _ _) k 0 _ (by omega) (by omega) (by
    rw [show kpart 0 = List.replicate 256 (.int .u16 0) from rfl]
    exact new_here (S.new (.cells 256 [List.replicate 256 (.int .u16 0)] true)) _) (fun _ _ => rfl) rfl
  refine ⟨S', e, ⟨by rw [h2]; simp only [new_next]; omega, fun id hid => ?_⟩⟩
  rw [h1 id (by omega) (by omega), new_old _ (by rw [new_next]; omega), new_old _ (by omega)]
end Go.Proofs.YtcphapfclncggaaDoor.X
