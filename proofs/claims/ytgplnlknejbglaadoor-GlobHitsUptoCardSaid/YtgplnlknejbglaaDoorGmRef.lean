/- The layer glob: the document's Match, plain. -/
import Derived.Test.YtgplnlknejbglaaDoorGmMatch
namespace Go.Proofs.YtgplnlknejbglaaDoor.X
open Go.Proofs.YtgplnlknejbglaaDoor.HL
set_option linter.unusedVariables false
/-- What the first j signs of the mask make of the first i of the text. -/
def N (mask s : List UInt8) (j i : Nat) : Bool := M (mask.take j) (s.take i)
theorem N_zero (mask s : List UInt8) (i : Nat) (hi : i ≤ s.length) : N mask s 0 i = decide (i = 0) := by
  unfold N
  rw [List.take_zero, M_nil]
  by_cases h : i = 0
  · subst h; rfl
  · have hl : (s.take i).length = i := by simp; omega
    cases hc : s.take i with
    | nil => rw [hc] at hl; simp at hl; omega
    | cons x y => simp [h]
theorem take_snoc {s : List UInt8} {i : Nat} (h : i < s.length) : s.take (i + 1) = s.take i ++ [s[i]] := by rw [List.take_add_one, List.getElem?_eq_getElem h]; rfl
theorem N_star_zero {mask s : List UInt8} {j : Nat} (hj : j < mask.length) (h : mask[j] = 42) : N mask s (j + 1) 0 = N mask s j 0 := by
  unfold N; rw [take_snoc hj, h, List.take_zero, M_snoc_star_nil]
theorem N_star {mask s : List UInt8} {j i : Nat} (hj : j < mask.length) (hi : i < s.length) (h : mask[j] = 42) : N mask s (j + 1) (i + 1) = (N mask s j (i + 1) || N mask s (j + 1) i) := by
  unfold N; rw [take_snoc hj, take_snoc hi, h, M_snoc_star]
theorem N_lit_zero {mask s : List UInt8} {j : Nat} (hj : j < mask.length) (h : mask[j] ≠ 42) : N mask s (j + 1) 0 = false := by
  unfold N; rw [take_snoc hj, List.take_zero, M_snoc_lit_nil _ h]
theorem N_lit {mask s : List UInt8} {j i : Nat} (hj : j < mask.length) (hi : i < s.length) (h : mask[j] ≠ 42) : N mask s (j + 1) (i + 1) = (N mask s j i && oneB mask[j] s[i]) := by
  unfold N; rw [take_snoc hj, take_snoc hi, M_snoc_lit _ _ _ h]
def bv (b : Bool) : List HV := [.bool b]
/-- A row of the table, of which the first i are told. -/
def rowN (mask s : List UInt8) (j i : Nat) : List (List HV) := (List.range (s.length + 1)).map fun x => bv (if x < i then N mask s j x else false)
theorem rowN_len (mask s : List UInt8) (j i : Nat) : (rowN mask s j i).length = s.length + 1 := by simp [rowN]
theorem rowN_get (mask s : List UInt8) (j i x : Nat) (hx : x < (rowN mask s j i).length) : (rowN mask s j i)[x] = bv (if x < i then N mask s j x else false) := by simp [rowN]
theorem rowN_set (mask s : List UInt8) (j i : Nat) (hi : i ≤ s.length) : (rowN mask s j i).set i (bv (N mask s j i)) = rowN mask s j (i + 1) := by
  apply List.ext_getElem?
  intro x
  rw [List.getElem?_set]
  by_cases h : i = x
  · subst h
    rw [if_pos rfl, if_pos (by rw [rowN_len]; omega), List.getElem?_eq_getElem (by rw [rowN_len]; omega), rowN_get, if_pos (by omega)]
  · rw [if_neg h]
    simp only [rowN, List.getElem?_map]
    cases hx : (List.range (s.length + 1))[x]? with
    | none => rfl
    | some y =>
      have hy : y = x := by
        rw [List.getElem?_range] at hx
        · simpa using hx.symm
        · rcases Nat.lt_or_ge x (s.length + 1) with h1 | h1
          · exact h1
          · rw [List.getElem?_eq_none (by simpa using h1)] at hx; cases hx
      subst hy
      simp only [Option.map_some]
      congr 2
      by_cases h2 : y < i
      · rw [if_pos h2, if_pos (by omega)]
      · rw [if_neg h2, if_neg (by omega)]
theorem rowN_keep (mask s : List UInt8) (j i : Nat) (hi : i ≤ s.length) (h : N mask s j i = false) : rowN mask s j i = rowN mask s j (i + 1) := by
  rw [← rowN_set mask s j i hi, h]
  have hl : i < (rowN mask s j i).length := by rw [rowN_len]; omega
  have : bv false = (rowN mask s j i)[i] := by rw [rowN_get, if_neg (by omega)]
  rw [this, List.set_getElem_self]
theorem ld_bool {S : HS} {sl : Sl} {rows : List (List HV)} {i : Nat} {b : Bool} (h : S.rows sl 1 = some rows) (hi : i < rows.length) (hb : rows[i] = bv b) : ∃ ad, S.idx sl (i : Int) 1 = some ad ∧ S.ldB ad = some b := by
  obtain ⟨ad, h1, h2, h3⟩ := rows_idx h hi
  exact ⟨ad, h1, row_ldB (j := 0) (ad := ad) h3 h2 (by rw [hb]; rfl)⟩
theorem Vec.frame3 {n z : Nat} {T T' : HS} {s : Sl} {rows : List (List HV)} (h : Vec n T z s rows) (he : ∀ q, s.a = some q → T'.heap q.1 = T.heap q.1) (hl : T.next ≤ T'.next) : Vec n T' z s rows := by
  cases h with
  | nil => exact .nil
  | open_ g1 g2 g3 => exact .open_ (by rw [he _ rfl]; exact g1) g2 (Nat.lt_of_lt_of_le g3 hl)
  | capped g1 g2 g3 g4 g5 g6 => exact .capped (by rw [he _ rfl]; exact g1) g2 (Nat.lt_of_lt_of_le g3 hl) g4 g5 g6
/-- The loop's two rows. -/
structure Two (S : HS) (a b : Sl) (ra rb : List (List HV)) : Prop where
  va : Vec 0 S 1 a ra
  vb : Vec 0 S 1 b rb
  ne : ∀ p q, a.a = some p → b.a = some q → p.1 ≠ q.1
theorem Two.set {S : HS} {a b : Sl} {ra rb : List (List HV)} (h : Two S a b ra rb) {i : Nat} {x : List HV} (hi : i < rb.length) (hx : x.length = (rb[i]).length) :
    ∃ ad S', S.idx b (i : Int) 1 = some ad ∧ S.sets ad x = some S' ∧ Two S' a b ra (rb.set i x) := by
  obtain ⟨ad, S', h1, h2, h3, h4, h5, h6, h7, h8⟩ := h.vb.set_ hi hx
  refine ⟨ad, S', h1, h4, ?_, h5, h.ne⟩
  exact Vec.frame3 h.va (fun q hq => h8 _ (fun r hr e => h.ne q r hq hr e.symm)) (by omega)
abbrev Rec0 := List UInt8 → List UInt8 → Sl → Int → HS → Option (Bool × HS)
theorem j2_eq {k : Nat} {rec0 rec1 mask s y5 j y7 i S} (b : Bool) {ad : HA} {S1 : HS} (h1 : S.idx y7 i 1 = some ad) (h2 : S.sets ad [.bool b] = some S1) :
    rollcallref04_Match.J2 k rec0 rec1 mask s y5 j y7 i y7 i b S = rec0 mask s y5 j y7 (w64 (i + 1)) S1 := by
  rw [rollcallref04_Match.J2, h1, Option.bind_some, h2, Option.bind_some, rollcallref04_Match.J3]
theorem row_loop {k : Nat} {mask s : List UInt8} (hk : 31 ≤ k) (hm : mask.length ≤ 1000) (hs : s.length ≤ 1000) {rec0 : Rec0} {now next : Sl} {j : Nat} (hj : j < mask.length) : ∀ (n i : Nat) (S : HS), s.length + 1 - i < n → i ≤ s.length + 1 →
    Two S now next (rowN mask s j (s.length + 1)) (rowN mask s (j + 1) i) →
    ∃ S', rollcallref04_Match.L1 k rec0 n mask s now (j : Int) next (i : Int) S = rec0 mask s next (w64 ((j : Int) + 1)) S' ∧ Vec 0 S' 1 next (rowN mask s (j + 1) (s.length + 1)) := by
  intro n
  induction n with
  | zero => intro i S h; omega
  | succ n ih =>
    intro i S h hi hT
    unfold rollcallref04_Match.L1
    by_cases hlt : i ≤ s.length
    · have hi1 : w64 ((i : Int) + 1) = ((i + 1 : Nat) : Int) := by rw [w64_id (by omega) (by omega)]; simp
      rw [if_pos (by omega), sat_lt hj, Option.bind_some]
      have i42 : (((mask[j]).toNat : Int) = 42) ↔ mask[j] = 42 := by rw [← UInt8.toNat_inj]; simp <;> omega
      have i63 : (((mask[j]).toNat : Int) = 63) ↔ mask[j] = 63 := by rw [← UInt8.toNat_inj]; simp <;> omega
      -- a place is told
      have put : ∀ b : Bool, N mask s (j + 1) i = b → ∃ ad S1, S.idx next (i : Int) 1 = some ad ∧ S.sets ad [.bool b] = some S1 ∧ Two S1 now next (rowN mask s j (s.length + 1)) (rowN mask s (j + 1) (i + 1)) := by
        intro b hb
        obtain ⟨ad, S1, g1, g2, g3⟩ := hT.set (i := i) (x := bv b) (by rw [rowN_len]; omega) (by rw [rowN_get]; rfl)
        rw [← hb, rowN_set _ _ _ _ hlt] at g3
        exact ⟨ad, S1, g1, g2, g3⟩
      have keep : N mask s (j + 1) i = false → ∃ S', rollcallref04_Match.L1 k rec0 n mask s now (j : Int) next (w64 ((i : Int) + 1)) S = rec0 mask s next (w64 ((j : Int) + 1)) S' ∧ Vec 0 S' 1 next (rowN mask s (j + 1) (s.length + 1)) := by
        intro hb
        rw [hi1]
        refine ih (i + 1) S (by omega) (by omega) ?_
        rw [← rowN_keep _ _ _ _ hlt hb]; exact hT
      have told : ∀ b : Bool, N mask s (j + 1) i = b → ∃ S', rollcallref04_Match.J2 k (rollcallref04_Match.L1 k rec0 n) rec0 mask s now (j : Int) next (i : Int) next (i : Int) b S = rec0 mask s next (w64 ((j : Int) + 1)) S' ∧ Vec 0 S' 1 next (rowN mask s (j + 1) (s.length + 1)) := by
        intro b hb
        obtain ⟨ad, S1, g1, g2, g3⟩ := put b hb
        rw [j2_eq b g1 g2, hi1]
        exact ih (i + 1) S1 (by omega) (by omega) g3
      have now_at : ∀ x, x ≤ s.length → ∃ ad, S.idx now (x : Int) 1 = some ad ∧ S.ldB ad = some (N mask s j x) := fun x hx =>
        ld_bool hT.va.rows (by rw [rowN_len]; omega) (by rw [rowN_get, if_pos (by omega)])
      have next_at : ∀ x, x < i → ∃ ad, S.idx next (x : Int) 1 = some ad ∧ S.ldB ad = some (N mask s (j + 1) x) := fun x hx =>
        ld_bool hT.vb.rows (by rw [rowN_len]; omega) (by rw [rowN_get, if_pos hx])
      by_cases hc : mask[j] = 42
      · obtain ⟨ad, a1, a2⟩ := now_at i hlt
        rw [if_pos (i42.2 hc), a1, Option.bind_some, a2, Option.bind_some]
        cases i with
        | zero =>
          have hz := N_star_zero (s := s) hj hc
          by_cases hb : N mask s j 0 = true
          · rw [if_pos hb]; exact told true (by rw [hz, hb])
          · rw [if_neg hb, if_neg (by simp), rollcallref04_Match.J4, if_neg hb]
            exact told false (by rw [hz]; simpa using hb)
        | succ i =>
          have hz := N_star (s := s) (i := i) hj (by omega) hc
          by_cases hb : N mask s j (i + 1) = true
          · rw [if_pos hb]; exact told true (by rw [hz, hb]; rfl)
          · have hw : w64 (((i + 1 : Nat) : Int) - 1) = (i : Int) := by rw [w64_id (by omega) (by omega)]; omega
            obtain ⟨ad2, b1, b2⟩ := next_at i (by omega)
            rw [if_neg hb, if_pos (by omega), hw, b1, Option.bind_some, b2, Option.bind_some, rollcallref04_Match.J4, if_neg hb]
            exact told _ (by rw [hz]; simp [hb])
      · rw [if_neg (fun e => hc (i42.1 e))]
        cases i with
        | zero =>
          rw [if_neg (by simp), rollcallref04_Match.J5, if_neg (by simp), rollcallref04_Match.J3]
          exact keep (N_lit_zero hj hc)
        | succ i =>
          have hz := N_lit (s := s) (i := i) hj (by omega) hc
          have hw : w64 (((i + 1 : Nat) : Int) - 1) = (i : Int) := by rw [w64_id (by omega) (by omega)]; omega
          obtain ⟨ad, a1, a2⟩ := now_at i (by omega)
          rw [if_pos (by omega), hw, a1, Option.bind_some, a2, Option.bind_some, rollcallref04_Match.J5]
          by_cases hb : N mask s j i = true
          · rw [if_pos hb, sat_lt hj, Option.bind_some]
            rw [hb, Bool.true_and] at hz
            by_cases h63 : mask[j] = 63
            · obtain ⟨ad3, S1, g1, g2, g3⟩ := put true (by rw [hz, oneB, h63]; rfl)
              rw [if_pos (i63.2 h63), g1, Option.bind_some, g2, Option.bind_some, rollcallref04_Match.J3, hi1]
              exact ih (i + 1 + 1) S1 (by omega) (by omega) g3
            · have il : (((low mask[j]).toNat : Int) = ((low s[i]).toNat : Int)) ↔ low mask[j] = low s[i] := by rw [← UInt8.toNat_inj]; omega
              obtain ⟨ad3, S1, g1, g2, g3⟩ := put (decide (((low mask[j]).toNat : Int) = ((low s[i]).toNat : Int))) (by
                rw [hz, oneB]
                by_cases h3 : low mask[j] = low s[i]
                · rw [decide_eq_true (il.2 h3)]; simp [h3, hc]
                · rw [decide_eq_false (fun e => h3 (il.1 e))]; simp [h3, h63])
              rw [if_neg (fun e => h63 (i63.1 e)), Option.bind_some, refByte_spec hk, Option.bind_some, hw, sat_lt (by omega), Option.bind_some, refByte_spec hk, Option.bind_some, g1, Option.bind_some, g2, Option.bind_some, rollcallref04_Match.J3, hi1]
              exact ih (i + 1 + 1) S1 (by omega) (by omega) g3
          · rw [if_neg hb, rollcallref04_Match.J3]
            exact keep (by rw [hz]; simp [hb])
    · have : i = s.length + 1 := by omega
      subst this
      rw [if_neg (by omega)]
      exact ⟨S, rfl, hT.vb⟩
theorem row_fresh (mask s : List UInt8) (j : Nat) : rowN mask s j 0 = List.replicate (s.length + 1) (bv false) := by
  apply List.ext_getElem
  · simp [rowN]
  · intro x h1 h2
    rw [rowN_get, if_neg (by omega)]; simp
theorem make_row {S : HS} {n : Nat} (hn : n ≤ 1001) (m : Nat) (hm : m ≤ S.next) : ∃ sl S', S.make (n : Int) (n : Int) [.bool false] = some (sl, S') ∧ Vec m S' 1 sl (List.replicate n (bv false)) ∧ Fr m S S' := Vec.makeN (zr := [.bool false]) hm (Nat.le_refl n) (by omega)
theorem table_loop {k : Nat} {mask s : List UInt8} (hk : 2000 ≤ k) (hm : mask.length ≤ 1000) (hs : s.length ≤ 1000) : ∀ (n j : Nat) (now : Sl) (S : HS), mask.length - j < n → j ≤ mask.length → Vec 0 S 1 now (rowN mask s j (s.length + 1)) →
    ∃ S', rollcallref04_Match.L0 k n mask s now (j : Int) S = some (M mask s, S') := by
  intro n
  induction n with
  | zero => intro j now S h; omega
  | succ n ih =>
    intro j now S h hj hV
    unfold rollcallref04_Match.L0
    by_cases hlt : j < mask.length
    · have hw : w64 ((s.length : Int) + 1) = ((s.length + 1 : Nat) : Int) := by rw [w64_id (by omega) (by omega)]; simp
      have hj1 : w64 ((j : Int) + 1) = ((j + 1 : Nat) : Int) := by rw [w64_id (by omega) (by omega)]; simp
      obtain ⟨next, S1, e1, v1, f1⟩ := make_row (S := S) (n := s.length + 1) (by omega) S.next (Nat.le_refl _)
      rw [if_pos (by omega), hw, e1, Option.bind_some]
      have hT : Two S1 now next (rowN mask s j (s.length + 1)) (rowN mask s (j + 1) 0) := by
        refine ⟨hV.frame f1 (Nat.le_refl _), by rw [row_fresh]; exact v1.mono (Nat.zero_le _), fun p q hp hq e => ?_⟩
        have h1 := hV.lo p hp
        have h2 := v1.lo q hq
        omega
      obtain ⟨S2, e2, v2⟩ := row_loop (k := k) (rec0 := rollcallref04_Match.L0 k n) (by omega) hm hs hlt k 0 S1 (by omega) (by omega) hT
      simp only [Int.natCast_zero] at e2
      rw [e2, hj1]
      exact ih (j + 1) next S2 (by omega) (by omega) v2
    · have : j = mask.length := by omega
      subst this
      obtain ⟨ad, a1, a2⟩ := ld_bool (i := s.length) hV.rows (by rw [rowN_len]; omega) (by rw [rowN_get, if_pos (by omega)])
      rw [if_neg (by omega), a1, Option.bind_some, a2, Option.bind_some]
      exact ⟨S, by simp [N]⟩
theorem refMatch_spec {k : Nat} {mask s : List UInt8} {S : HS} (hk : 2000 ≤ k) (hm : mask.length ≤ 1000) (hs : s.length ≤ 1000) : ∃ S', rollcallref04_Match.f k mask s S = some (M mask s, S') := by
  have hw : w64 ((s.length : Int) + 1) = ((s.length + 1 : Nat) : Int) := by rw [w64_id (by omega) (by omega)]; simp
  obtain ⟨now, S1, e1, v1, f1⟩ := make_row (S := S) (n := s.length + 1) (by omega) 0 (Nat.zero_le _)
  obtain ⟨ad, S2, h1, h2, h3, h4, h5, h6, h7, h8⟩ := v1.set_ (i := 0) (row := bv true) (by simp) (by simp [bv])
  have hV : Vec 0 S2 1 now (rowN mask s 0 (s.length + 1)) := by
    have : (List.replicate (s.length + 1) (bv false)).set 0 (bv true) = rowN mask s 0 (s.length + 1) := by
      apply List.ext_getElem
      · simp [rowN]
      · intro x g1 g2
        rw [rowN_get, if_pos (by rw [rowN_len] at g2; omega), N_zero _ _ _ (by rw [rowN_len] at g2; omega), List.getElem_set]
        by_cases hx : 0 = x
        · subst hx; rfl
        · rw [if_neg hx, decide_eq_false (fun e => hx e.symm)]; simp
    rw [← this]; exact h5
  obtain ⟨S3, e3⟩ := table_loop (k := k) hk hm hs k 0 now S2 (by omega) (by omega) hV
  refine ⟨S3, ?_⟩
  unfold rollcallref04_Match.f
  simp only [Int.natCast_zero] at h1 e3
  rw [hw, e1, Option.bind_some]
  simp only []
  rw [h1, Option.bind_some, show ([HV.bool true] : List HV) = bv true from rfl, h4, Option.bind_some, e3]
end Go.Proofs.YtgplnlknejbglaaDoor.X
