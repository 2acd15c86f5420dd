/- The layer sendq: lines that came, and what is left of them, plain. -/
import Derived.Lib.IndexMore
namespace Go.Proofs.Ytpjabhpfaahgoaa.X
/-- The bytes of some lines. -/
def enc : List (List UInt8) → List UInt8
  | [] => []
  | l :: ls => l ++ 13 :: 10 :: enc ls
/-- Behind the first n bytes: how many are left of a line, and the lines that wait whole. -/
def rem : List (List UInt8) → Nat → Nat × List (List UInt8)
  | [], _ => (0, [])
  | l :: ls, n => if n = 0 then (0, l :: ls) else if n < l.length + 2 then (l.length + 2 - n, ls) else rem ls (n - (l.length + 2))
theorem enc_app (a b : List (List UInt8)) : enc (a ++ b) = enc a ++ enc b := by
  induction a with
  | nil => rfl
  | cons l a ih => simp [enc, ih]
theorem enc_len_cons (l : List UInt8) (ls : List (List UInt8)) : (enc (l :: ls)).length = l.length + 2 + (enc ls).length := by simp [enc]; omega
theorem rem_zero (ls : List (List UInt8)) : rem ls 0 = (0, ls) := by cases ls <;> rfl
theorem rem_le : ∀ (ls : List (List UInt8)) (n : Nat), n ≤ (enc ls).length → n + (rem ls n).1 + (enc (rem ls n).2).length = (enc ls).length := by
  intro ls
  induction ls with
  | nil => intro n h; simp [enc] at h; simp [rem, enc, h]
  | cons l ls ih =>
    intro n h
    rw [enc_len_cons] at h
    unfold rem
    by_cases h0 : n = 0
    · rw [if_pos h0]; simp [h0]
    rw [if_neg h0]
    by_cases h1 : n < l.length + 2
    · rw [if_pos h1, enc_len_cons]; simp only []; omega
    · rw [if_neg h1, enc_len_cons]
      have := ih (n - (l.length + 2)) (by omega)
      omega
theorem drop_drop' {α : Type} (l : List α) (a b : Nat) : (l.drop a).drop b = l.drop (a + b) := by rw [List.drop_drop]
/-- What is left begins with the torn line's rest; behind it the whole ones. -/
theorem rem_drop : ∀ (ls : List (List UInt8)) (n : Nat), n ≤ (enc ls).length → (enc ls).drop (n + (rem ls n).1) = enc (rem ls n).2 := by
  intro ls
  induction ls with
  | nil => intro n h; simp [enc] at h; simp [rem, enc]
  | cons l ls ih =>
    intro n h
    rw [enc_len_cons] at h
    have hd : ∀ m, (enc (l :: ls)).drop (l.length + 2 + m) = (enc ls).drop m := fun m => by
      have : enc (l :: ls) = (l ++ [13, 10]) ++ enc ls := by simp [enc]
      rw [this, show l.length + 2 + m = (l ++ [13, 10]).length + m by simp, ← drop_drop', List.drop_left]
    unfold rem
    by_cases h0 : n = 0
    · rw [if_pos h0]; simp [h0]
    rw [if_neg h0]
    by_cases h1 : n < l.length + 2
    · rw [if_pos h1]
      simp only []
      have := hd 0
      rw [show n + (l.length + 2 - n) = l.length + 2 + 0 by omega, this]; simp
    · rw [if_neg h1]
      have := ih (n - (l.length + 2)) (by omega)
      rw [show n + (rem ls (n - (l.length + 2))).1 = l.length + 2 + (n - (l.length + 2) + (rem ls (n - (l.length + 2))).1) by omega, hd, this]
theorem rem_push : ∀ (ls : List (List UInt8)) (n : Nat) (x : List UInt8), n ≤ (enc ls).length → rem (ls ++ [x]) n = ((rem ls n).1, (rem ls n).2 ++ [x]) := by
  intro ls
  induction ls with
  | nil => intro n x h; simp [enc] at h; subst h; rfl
  | cons l ls ih =>
    intro n x h
    rw [enc_len_cons] at h
    rw [List.cons_append]
    unfold rem
    by_cases h0 : n = 0
    · rw [if_pos h0, if_pos h0]; rfl
    rw [if_neg h0, if_neg h0]
    by_cases h1 : n < l.length + 2
    · rw [if_pos h1, if_pos h1]
    · rw [if_neg h1, if_neg h1, ih _ _ (by omega)]
/-- How torn goes through what waits. -/
def walk : List UInt8 → Nat → Nat
  | _, 0 => 0
  | [], _ + 1 => 0
  | b :: u, r + 1 => if b = 10 then walk u r else if r = 0 then (Lib.indexByte u 10 + 1).toNat else walk u r
theorem walk_zero (u : List UInt8) : walk u 0 = 0 := by cases u <;> rfl
theorem ixb_at {p v : List UInt8} (h : 10 ∉ p) : Lib.indexByte (p ++ 10 :: v) 10 = p.length := by
  induction p with
  | nil => simp [Lib.indexByte]
  | cons b p ih =>
    simp only [List.mem_cons, not_or] at h
    rw [List.cons_append, Lib.indexByte, if_neg (by simpa using fun e => h.1 e.symm), ih h.2, if_neg (by simp)]
    simp
theorem walk_line : ∀ (p v : List UInt8) (r : Nat), 10 ∉ p → walk (p ++ 10 :: v) r = if r = 0 then 0 else if r ≤ p.length then p.length + 1 - r else walk v (r - (p.length + 1)) := by
  intro p
  induction p with
  | nil =>
    intro v r h
    cases r with
    | zero => rfl
    | succ r => rw [List.nil_append, walk, if_pos rfl, if_neg (by omega), if_neg (by simp)]; rfl
  | cons b p ih =>
    intro v r h
    simp only [List.mem_cons, not_or] at h
    cases r with
    | zero => rfl
    | succ r =>
      have hR : (if r + 1 = 0 then 0 else if r + 1 ≤ (b :: p).length then (b :: p).length + 1 - (r + 1) else walk v (r + 1 - ((b :: p).length + 1))) = if r ≤ p.length then p.length + 1 - r else walk v (r - (p.length + 1)) := by
        rw [if_neg (Nat.succ_ne_zero r), List.length_cons]
        by_cases h1 : r ≤ p.length
        · rw [if_pos h1, if_pos (by omega)]; omega
        · rw [if_neg h1, if_neg (by omega)]; congr 1; omega
      rw [hR, List.cons_append, walk, if_neg (fun e => h.1 e.symm)]
      by_cases h0 : r = 0
      · subst h0
        rw [if_pos rfl, ixb_at h.2, if_pos (by omega)]
        omega
      · rw [if_neg h0, ih v r h.2, if_neg h0]
def Clean (ls : List (List UInt8)) : Prop := ∀ l ∈ ls, 10 ∉ l ∧ 13 ∉ l
theorem walk_enc : ∀ (ls : List (List UInt8)) (r : Nat), Clean ls → r ≤ (enc ls).length → walk (enc ls) r = (rem ls r).1 := by
  intro ls
  induction ls with
  | nil => intro r _ h; simp [enc] at h; subst h; rfl
  | cons l ls ih =>
    intro r hc h
    rw [enc_len_cons] at h
    have hl := hc l (by simp)
    have e : enc (l :: ls) = (l ++ [13]) ++ 10 :: enc ls := by simp [enc]
    rw [e, walk_line _ _ _ (by simp [hl.1])]
    unfold rem
    by_cases h0 : r = 0
    · rw [if_pos h0, if_pos h0]
    rw [if_neg h0, if_neg h0]
    by_cases h1 : r < l.length + 2
    · rw [if_pos h1, if_pos (by simp; omega)]; simp
    · rw [if_neg h1, if_neg (by simp; omega)]
      have := ih (r - (l.length + 2)) (fun x hx => hc x (by simp [hx])) (by omega)
      rw [← this]
      congr 1
      simp
/-- What torn says behind n more bytes. -/
theorem rem_torn : ∀ (ls : List (List UInt8)) (s n : Nat), Clean ls → s + n ≤ (enc ls).length → (rem ls (s + n)).1 = if n ≤ (rem ls s).1 then (rem ls s).1 - n else walk (enc (rem ls s).2) (n - (rem ls s).1) := by
  intro ls
  induction ls with
  | nil => intro s n _ h; simp [enc] at h; obtain ⟨rfl, rfl⟩ := h; rfl
  | cons l ls ih =>
    intro s n hc h
    have hc' : Clean ls := fun x hx => hc x (by simp [hx])
    by_cases h0 : s = 0
    · subst h0
      rw [rem_zero, Nat.zero_add]
      simp only [Nat.sub_zero]
      by_cases hn : n ≤ 0
      · have : n = 0 := by omega
        subst this; rw [rem_zero]; rfl
      · rw [if_neg hn, walk_enc _ _ hc (by omega)]
    · rw [enc_len_cons] at h
      have e1 : rem (l :: ls) s = if s < l.length + 2 then (l.length + 2 - s, ls) else rem ls (s - (l.length + 2)) := by rw [rem, if_neg h0]
      have e2 : rem (l :: ls) (s + n) = if s + n < l.length + 2 then (l.length + 2 - (s + n), ls) else rem ls (s + n - (l.length + 2)) := by rw [rem, if_neg (by omega)]
      rw [e1, e2]
      by_cases h1 : s < l.length + 2
      · rw [if_pos h1]
        simp only []
        by_cases h2 : s + n < l.length + 2
        · rw [if_pos h2, if_pos (by omega)]; simp only []; omega
        · rw [if_neg h2]
          by_cases h3 : n ≤ l.length + 2 - s
          · rw [if_pos h3, show s + n - (l.length + 2) = 0 by omega, rem_zero]; simp only []; omega
          · rw [if_neg h3, walk_enc _ _ hc' (by omega)]
            congr 2; omega
      · rw [if_neg h1, if_neg (by omega)]
        have := ih (s - (l.length + 2)) n hc' (by omega)
        rw [show s + n - (l.length + 2) = s - (l.length + 2) + n by omega]
        exact this
/-! ### Cut at a line's end -/
theorem index_line {l v : List UInt8} (h : 13 ∉ l) : Lib.index (l ++ 13 :: 10 :: v) [13, 10] = l.length := by
  induction l with
  | nil => simp [Lib.index]
  | cons b l ih =>
    simp only [List.mem_cons, not_or] at h
    have hb : (List.isPrefixOf [13, 10] (b :: (l ++ 13 :: 10 :: v))) = false := by
      simp [List.isPrefixOf]
      intro e; exact absurd e (by simpa using h.1)
    rw [List.cons_append, Lib.index, hb, ih h.2]
    simp
theorem cut_line {l v : List UInt8} (h : 13 ∉ l) : Lib.cut (l ++ 13 :: 10 :: v) [13, 10] = (l, v, true) := by
  unfold Lib.cut
  rw [index_line h, if_pos (by omega)]
  simp only [Int.toNat_natCast, List.take_left]
  have : l ++ 13 :: 10 :: v = (l ++ [13, 10]) ++ v := by simp
  rw [this, show l.length + [(13 : UInt8), 10].length = (l ++ [13, 10]).length by simp, List.drop_left]
/-! ### the document's list of lines -/
def refL : List (List UInt8) → Nat → Nat → List (List UInt8)
  | [], _, _ => []
  | l :: ls, from_, s => (if from_ ≥ s then [l] else []) ++ refL ls (from_ + l.length + 2) s
theorem refL_all : ∀ (ls : List (List UInt8)) (f s : Nat), s ≤ f → refL ls f s = ls := by
  intro ls
  induction ls with
  | nil => intro f s _; rfl
  | cons l ls ih => intro f s h; rw [refL, if_pos h, ih _ _ (by omega)]; rfl
theorem refL_rem : ∀ (ls : List (List UInt8)) (f s : Nat), f ≤ s → s - f ≤ (enc ls).length → refL ls f s = (rem ls (s - f)).2 := by
  intro ls
  induction ls with
  | nil => intro f s _ _; rfl
  | cons l ls ih =>
    intro f s h h2
    rw [enc_len_cons] at h2
    by_cases h0 : s = f
    · subst h0; rw [refL_all _ _ _ (Nat.le_refl _), Nat.sub_self, rem_zero]
    · rw [refL, if_neg (by omega), rem, if_neg (by omega), List.nil_append]
      by_cases h1 : s - f < l.length + 2
      · rw [if_pos h1, refL_all _ _ _ (by omega)]
      · rw [if_neg h1, ih _ _ (by omega) (by omega)]
        congr 2; omega
end Go.Proofs.Ytpjabhpfaahgoaa.X
