/- The layer glob: where a byte stands first; parts of a mask, plain. -/
import Derived.Test.YtgplnlknejbglaaDoorGlM3
import Derived.Test.YtgplnlknejbglaaDoorHLs
import Derived.Lib.Bytealg
namespace Go.Proofs.YtgplnlknejbglaaDoor.X
open Go.Proofs.YtgplnlknejbglaaDoor.HL
set_option linter.unusedVariables false
theorem bidx_eq (s : List UInt8) (c : UInt8) : bidx s (c.toNat : Int) = Lib.indexByte s c := by
  have h : ((c.toNat : Int).toNat).toUInt8 = c := by simp
  rw [bidx, h, Lib.firstIdx_eq]
theorem ixb_none {s : List UInt8} {c : UInt8} (h : c ∉ s) : Lib.indexByte s c = -1 := by
  induction s with
  | nil => rfl
  | cons b s ih =>
    simp only [List.mem_cons, not_or] at h
    unfold Lib.indexByte
    rw [if_neg (by simpa using fun e => h.1 e.symm), ih h.2]
    rfl
theorem ixb_some {a s : List UInt8} {c : UInt8} (h : c ∉ a) : Lib.indexByte (a ++ c :: s) c = a.length := by
  induction a with
  | nil => simp [Lib.indexByte]
  | cons b a ih =>
    simp only [List.mem_cons, not_or] at h
    rw [List.cons_append]
    unfold Lib.indexByte
    rw [if_neg (by simpa using fun e => h.1 e.symm), ih h.2, if_neg (by simp)]
    simp
/-- A text has a byte not at all, or a first time. -/
theorem view (c : UInt8) (s : List UInt8) : c ∉ s ∨ ∃ a b, s = a ++ c :: b ∧ c ∉ a := by
  induction s with
  | nil => exact .inl (by simp)
  | cons x s ih =>
    by_cases h : x = c
    · subst h; exact .inr ⟨[], s, rfl, by simp⟩
    · rcases ih with h1 | ⟨a, b, rfl, h1⟩
      · exact .inl (by simp [h1, Ne.symm h])
      · exact .inr ⟨x :: a, b, rfl, by simp [h1, Ne.symm h]⟩
theorem index_one {k : Nat} {s : List UInt8} {c : UInt8} {S : HS} : internal_stringslite_Index.f k s [c] S = some (Lib.indexByte s c, S) := by
  unfold internal_stringslite_Index.f internal_stringslite_Index.J0
  rw [if_neg (by simp)]
  by_cases h : [c] = s
  · rw [decide_eq_true h, if_pos rfl, ← h]; simp [Lib.indexByte]
  · rw [decide_eq_false h, if_neg (by simp), if_pos (by simp)]
    simp only [sat, Option.bind_some, internal_stringslite_IndexByte.f]
    simp [bidx_eq]
theorem cut_none {k : Nat} {s : List UInt8} {c : UInt8} {S : HS} (h : c ∉ s) : strings_Cut.f k s [c] S = some ((s, [], false), S) := by
  unfold strings_Cut.f internal_stringslite_Cut.f
  rw [index_one, Option.bind_some, ixb_none h, if_neg (by simp)]
  rfl
theorem cut_some {k : Nat} {a b : List UInt8} {c : UInt8} {S : HS} (h : c ∉ a) (hl : a.length + b.length ≤ 100000) : strings_Cut.f k (a ++ c :: b) [c] S = some ((a, b, true), S) := by
  unfold strings_Cut.f internal_stringslite_Cut.f
  rw [index_one, Option.bind_some, ixb_some h]
  simp only []
  have e : w64 ((a.length : Int) + ([c].length : Int)) = ((a.length + 1 : Nat) : Int) := by rw [w64_id (by simp; omega) (by simp; omega)]; simp
  rw [if_pos (by omega), if_pos ⟨by omega, by omega, by simp; omega⟩, e, if_pos ⟨by omega, by simp; omega, by omega⟩]
  simp only [Option.bind_some, ssub, Int.toNat_natCast]
  have e1 : (a ++ c :: b).drop (a.length + 1) = b := by simp [List.drop_append]
  rw [e1]
  simp
  exact List.take_of_length_le (by omega)
theorem contains_one {k : Nat} {s : List UInt8} {c : UInt8} {S : HS} : strings_Contains.f k s [c] S = some (decide (c ∈ s), S) := by
  unfold strings_Contains.f strings_Index.f
  rw [index_one, Option.bind_some, Option.bind_some]
  rcases view c s with h | ⟨a, b, rfl, h⟩
  · rw [ixb_none h]; simp [h]
  · rw [ixb_some h]; simp
/-! ### the document's -/
theorem ref_index {k : Nat} {s : List UInt8} {c : UInt8} (hl : s.length ≤ 100000) : ∀ (n i : Nat), s.length - i < n → i ≤ s.length →
    rollcallref04_index.L0 k n s (c.toNat : Int) (i : Int) = some (if c ∈ s.drop i then (i : Int) + Lib.indexByte (s.drop i) c else -1) := by
  intro n
  induction n with
  | zero => intro i h; omega
  | succ n ih =>
    intro i h hi
    unfold rollcallref04_index.L0
    by_cases hlt : i < s.length
    · rw [if_pos (by omega), sat_lt hlt, Option.bind_some, List.drop_eq_getElem_cons hlt]
      by_cases hc : s[i] = c
      · rw [if_pos (by rw [hc]), if_pos (by simp [hc])]
        have : Lib.indexByte (s[i] :: s.drop (i + 1)) c = 0 := by rw [Lib.indexByte, if_pos (by simp [hc])]
        rw [this]; simp
      · have hne : ¬ ((s[i].toNat : Int) = (c.toNat : Int)) := fun e => hc (UInt8.toNat_inj.1 (by omega))
        have hi1 : w64 ((i : Int) + 1) = ((i + 1 : Nat) : Int) := by rw [w64_id (by omega) (by omega)]; simp
        rw [if_neg hne, hi1, ih (i + 1) (by omega) (by omega)]
        have hmem : (c ∈ s[i] :: s.drop (i + 1)) ↔ c ∈ s.drop (i + 1) := by
          rw [List.mem_cons]
          exact ⟨fun h => h.resolve_left (Ne.symm hc), .inr⟩
        by_cases hm : c ∈ s.drop (i + 1)
        · rw [if_pos hm, if_pos (hmem.2 hm)]
          obtain ⟨a, b, hab, ha⟩ := (view c (s.drop (i + 1))).resolve_left (fun h => h hm)
          have h1 : Lib.indexByte (s.drop (i + 1)) c = a.length := by rw [hab, ixb_some ha]
          have h2 : Lib.indexByte (s[i] :: s.drop (i + 1)) c = (s[i] :: a).length := by
            rw [hab, ← List.cons_append, ixb_some (by simp [ha, Ne.symm hc])]
          rw [h1, h2]; simp; omega
        · rw [if_neg hm, if_neg (fun e => hm (hmem.1 e))]
    · rw [if_neg (by omega), List.drop_eq_nil_of_le (by omega), if_neg (by simp)]
theorem ref_none {k : Nat} {s : List UInt8} {c : UInt8} {i : Nat} (hl : s.length ≤ 100000) (hk : 100001 ≤ k) (hi : i ≤ s.length) (h : c ∉ s.drop i) : rollcallref04_index.f k s (c.toNat : Int) (i : Int) = some (-1) := by
  rw [rollcallref04_index.f, ref_index hl k i (by omega) hi, if_neg h]
theorem ref_some {k : Nat} {p a b : List UInt8} {c : UInt8} (hl : (p ++ (a ++ c :: b)).length ≤ 100000) (hk : 100001 ≤ k) (h : c ∉ a) : rollcallref04_index.f k (p ++ (a ++ c :: b)) (c.toNat : Int) (p.length : Int) = some ((p.length + a.length : Nat) : Int) := by
  rw [rollcallref04_index.f, ref_index hl k p.length (by omega) (by simp)]
  have e : (p ++ (a ++ c :: b)).drop p.length = a ++ c :: b := by simp
  rw [e, if_pos (by simp), ixb_some h]
  simp
end Go.Proofs.YtgplnlknejbglaaDoor.X
