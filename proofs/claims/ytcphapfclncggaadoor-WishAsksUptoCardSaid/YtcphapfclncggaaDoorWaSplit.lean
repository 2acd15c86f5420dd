/- The layer wish: strings.Split at a comma, plain. -/
import Derived.Test.YtcphapfclncggaaDoorWaNick
import Derived.Test.YtcphapfclncggaaDoorHLs
import Derived.Lib.Bytealg
namespace Go.Proofs.YtcphapfclncggaaDoor.X
open Go.Proofs.YtcphapfclncggaaDoor.HL
set_option linter.unusedVariables false
/-- The words of a text: between its commas. -/
def words : List UInt8 → List (List UInt8)
  | [] => [[]]
  | b :: s => if b = 44 then [] :: words s else match words s with
    | [] => [[b]]
    | w :: ws => (b :: w) :: ws
def headW (b : UInt8) : List (List UInt8) → List (List UInt8)
  | [] => [[b]]
  | w :: ws => (b :: w) :: ws
theorem words_co (s : List UInt8) : words (44 :: s) = [] :: words s := by rw [words, if_pos rfl]
theorem words_nco {b : UInt8} (s : List UInt8) (h : b ≠ 44) : words (b :: s) = headW b (words s) := by
  rw [words, if_neg h]
  cases words s <;> rfl
theorem words_ne (s : List UInt8) : words s ≠ [] := by
  cases s with
  | nil => simp [words]
  | cons b s =>
    unfold words
    split
    · simp
    · cases words s <;> simp
theorem words_none {s : List UInt8} (h : 44 ∉ s) : words s = [s] := by
  induction s with
  | nil => rfl
  | cons b s ih =>
    simp only [List.mem_cons, not_or] at h
    rw [words, if_neg (fun e => h.1 e.symm), ih h.2]
theorem words_some {a s : List UInt8} (h : 44 ∉ a) : words (a ++ 44 :: s) = a :: words s := by
  induction a with
  | nil => rw [List.nil_append, words, if_pos rfl]
  | cons b a ih =>
    simp only [List.mem_cons, not_or] at h
    rw [List.cons_append, words, if_neg (fun e => h.1 e.symm), ih h.2]
theorem words_app (a b : List UInt8) : words (a ++ 44 :: b) = words a ++ words b := by
  induction a with
  | nil => rw [List.nil_append, words_co]; rfl
  | cons x a ih =>
    rw [List.cons_append]
    by_cases hx : x = 44
    · subst hx; rw [words_co, words_co, ih]; rfl
    · rw [words_nco _ hx, words_nco _ hx, ih]
      cases hw : words a with
      | nil => exact absurd hw (words_ne a)
      | cons w ws => rfl
theorem words_len (s : List UInt8) : (words s).length = s.count 44 + 1 := by
  induction s with
  | nil => rfl
  | cons b s ih =>
    unfold words
    by_cases hb : b = 44
    · rw [if_pos hb]; subst hb; simp [ih]
    · rw [if_neg hb]
      cases hw : words s with
      | nil => exact absurd hw (words_ne s)
      | cons w ws => rw [hw] at ih; simp at ih; simp [hb, ih]
theorem bidx_eq (s : List UInt8) (c : UInt8) : bidx s (c.toNat : Int) = Lib.indexByte s c := by
  have h : ((c.toNat : Int).toNat).toUInt8 = c := by simp
  rw [bidx, h, Lib.firstIdx_eq]
theorem ixb_none {s : List UInt8} {c : UInt8} (h : c ∉ s) : Lib.indexByte s c = -1 := by
  induction s with
  | nil => rfl
  | cons b s ih =>
    simp only [List.mem_cons, not_or] at h
    unfold Lib.indexByte
    rw [if_neg (by simpa using fun e => h.1 e.symm), ih h.2]
    rfl
theorem ixb_some {a s : List UInt8} {c : UInt8} (h : c ∉ a) : Lib.indexByte (a ++ c :: s) c = a.length := by
  induction a with
  | nil => simp [Lib.indexByte]
  | cons b a ih =>
    simp only [List.mem_cons, not_or] at h
    rw [List.cons_append]
    unfold Lib.indexByte
    rw [if_neg (by simpa using fun e => h.1 e.symm), ih h.2, if_neg (by simp)]
    simp
/-- A text has a byte not at all, or a first time. -/
theorem view (c : UInt8) (s : List UInt8) : c ∉ s ∨ ∃ a b, s = a ++ c :: b ∧ c ∉ a := by
  induction s with
  | nil => exact .inl (by simp)
  | cons x s ih =>
    by_cases h : x = c
    · subst h; exact .inr ⟨[], s, rfl, by simp⟩
    · rcases ih with h1 | ⟨a, b, rfl, h1⟩
      · exact .inl (by simp [h1, Ne.symm h])
      · exact .inr ⟨x :: a, b, rfl, by simp [h1, Ne.symm h]⟩
theorem index_one {k : Nat} {s : List UInt8} {c : UInt8} {S : HS} : internal_stringslite_Index.f k s [c] S = some (Lib.indexByte s c, S) := by
  unfold internal_stringslite_Index.f internal_stringslite_Index.J0
  rw [if_neg (by simp)]
  by_cases h : [c] = s
  · rw [decide_eq_true h, if_pos rfl, ← h]; simp [Lib.indexByte]
  · rw [decide_eq_false h, if_neg (by simp), if_pos (by simp)]
    simp only [sat, Option.bind_some, internal_stringslite_IndexByte.f]
    simp [bidx_eq]
theorem rows_cut {S : HS} {s : Sl} {z : Nat} {rows : List (List HV)} (h : S.rows s z = some rows) {m : Nat} (hm : m ≤ rows.length) : ∃ sc, S.cut s (m : Int) (rows.length : Int) z = some sc ∧ S.rows sc z = some (rows.drop m) := by
  have hl := rows_len h
  obtain ⟨sa, sl, sc⟩ := s
  have hl2 : rows.length = sl := hl
  subst hl2
  cases sa with
  | none =>
    simp only [HS.rows] at h
    split at h
    · rename_i e
      cases h
      obtain rfl : m = 0 := by simpa using hm
      exact ⟨⟨none, 0, sc⟩, by simp [HS.cut], by simp [HS.rows]⟩
    · cases h
  | some p =>
    obtain ⟨id, off⟩ := p
    simp only [HS.rows] at h
    split at h
    · rename_i z' rws own hh
      split at h
      · rename_i hc
        obtain ⟨rfl, hc⟩ := hc
        simp only [Option.some.injEq] at h
        refine ⟨_, cut_len hh hm (Nat.le_refl _), ?_⟩
        rw [rows_at hh (by omega)]
        congr 1
        rw [← List.drop_drop, ← List.drop_take, h]
      · cases h
    · cases h
/-- What is left of a line. -/
def strRow (x : List UInt8) : List HV := [.str x]
theorem count_words (s : List UInt8) : (words s).length = Lib.countByte s 44 + 1 := words_len s
theorem cut_a {S : HS} {s sc : Sl} {l h : Int} {z : Nat} (hc : S.cut s l h z = some sc) {q : Nat × Nat} (hq : sc.a = some q) : ∃ p, s.a = some p ∧ p.1 = q.1 := by
  obtain ⟨sa, n, c⟩ := s
  unfold HS.cut at hc
  split at hc
  · cases sa with
    | none =>
      simp only at hc
      split at hc
      · cases hc; cases hq
      · cases hc
    | some p =>
      obtain ⟨id, off⟩ := p
      simp only at hc
      split at hc
      · split at hc
        · cases hc; cases hq; exact ⟨_, rfl, rfl⟩
        · cases hc
      · cases hc
  · cases hc
theorem split_end {k : Nat} {m : Nat} {S : HS} {sl : Sl} {done : List (List UInt8)} {s : List UInt8} (hV : Vec m S 1 sl ((done ++ [[]]).map strRow)) (hd : done.length ≤ 1000) :
    ∃ sc S', strings_genSplit.J2 k s sl (done.length : Int) S = some (sc, S') ∧ S'.rows sc 1 = some ((done ++ [s]).map strRow) ∧ sc.len = done.length + 1 ∧ Fr m S S' ∧ (∀ q, sc.a = some q → m ≤ q.1 ∧ q.1 < S'.next) := by
  obtain ⟨ad, S1, h1, h2, h3, h4, h5, h6, h7, h8⟩ := hV.set_ (i := done.length) (row := [HV.str s]) (by simp) (by simp [strRow])
  have hset : ((done ++ [[]]).map strRow).set done.length [HV.str s] = (done ++ [s]).map strRow := by
    simp [strRow]
  rw [hset] at h5
  have hw : w64 ((done.length : Int) + 1) = (((done ++ [s]).map strRow).length : Int) := by rw [w64_id (by omega) (by omega)]; simp
  obtain ⟨sc, c1, c2⟩ := rows_cut h5.rows (m := 0) (Nat.zero_le _)
  refine ⟨sc, S1, ?_, by simpa using c2, ?_, h6, ?_⟩
  · rw [strings_genSplit.J2, h1, Option.bind_some, h4, Option.bind_some, hw]
    rw [show ((0 : Nat) : Int) = 0 from rfl] at c1
    rw [c1, Option.bind_some]
  · have := rows_len c2; simpa using this.symm
  · intro q hq
    obtain ⟨p, hp1, hp2⟩ := cut_a c1 hq
    have := h5.lo p hp1
    rw [← hp2]; exact this
theorem split_loop {k m : Nat} {sl : Sl} {n : Nat} (hn : n ≤ 1000) : ∀ (f : Nat) (done : List (List UInt8)) (s : List UInt8) (S : HS), n - done.length < f → done.length + (words s).length = n → s.length ≤ 1000 → Vec m S 1 sl ((done ++ List.replicate (n - done.length) []).map strRow) →
    ∃ sc S', strings_genSplit.L1 k f s [44] 0 ((n : Int) - 1) sl (done.length : Int) S = some (sc, S') ∧ S'.rows sc 1 = some ((done ++ words s).map strRow) ∧ sc.len = n ∧ Fr m S S' ∧ (∀ q, sc.a = some q → m ≤ q.1 ∧ q.1 < S'.next) := by
  intro f
  induction f with
  | zero => intro done s S h; omega
  | succ f ih =>
    intro done s S h hw hl hV
    have hpos : 0 < (words s).length := List.length_pos_iff.2 (words_ne s)
    unfold strings_genSplit.L1
    rcases view 44 s with hs | ⟨a, b, rfl, hs⟩
    · have h1 : n = done.length + 1 := by rw [words_none hs] at hw; simpa using hw.symm
      have e1 : n - done.length = 1 := by omega
      rw [e1] at hV
      rw [if_neg (by omega), words_none hs]
      obtain ⟨sc, S', g1, g2, g3, g4, g5⟩ := split_end (k := k) (s := s) hV (by omega)
      exact ⟨sc, S', g1, g2, by omega, g4, g5⟩
    · rw [words_some hs] at hw ⊢
      simp only [List.length_cons] at hw
      have hb : 0 < (words b).length := List.length_pos_iff.2 (words_ne b)
      simp at hl
      rw [if_pos (by omega)]
      unfold strings_Index.f
      rw [index_one, Option.bind_some, Option.bind_some, ixb_some hs]
      simp only []
      have hi : done.length < ((done ++ List.replicate (n - done.length) []).map strRow).length := by simp; omega
      obtain ⟨ad, S1, h1, h2, h3, h4, h5, h6, h7, h8⟩ := hV.set_ (i := done.length) (row := [HV.str a]) hi (by simp [strRow])
      have hset : ((done ++ List.replicate (n - done.length) ([] : List UInt8)).map strRow).set done.length [HV.str a] = ((done ++ [a]) ++ List.replicate (n - (done ++ [a]).length) []).map strRow := by
        have e : n - done.length = (n - (done ++ [a]).length) + 1 := by simp; omega
        rw [e, List.replicate_succ]
        simp [strRow]
      rw [hset] at h5
      have w0 : w64 ((a.length : Int) + 0) = (a.length : Int) := by rw [w64_id (by omega) (by omega)]; simp
      have w1 : w64 ((a.length : Int) + (([44] : List UInt8).length : Int)) = ((a.length + 1 : Nat) : Int) := by rw [w64_id (by simp; omega) (by simp; omega)]; simp
      have w2 : w64 ((done.length : Int) + 1) = ((done ++ [a]).length : Int) := by rw [w64_id (by omega) (by omega)]; simp
      have t1 : ssub (a ++ 44 :: b) 0 (a.length : Int) = a := by simp [ssub]
      have t2 : ssub (a ++ 44 :: b) ((a.length + 1 : Nat) : Int) ((a ++ 44 :: b).length : Int) = b := by
        simp only [ssub, Int.toNat_natCast]
        have e1 : (a ++ 44 :: b).drop (a.length + 1) = b := by simp [List.drop_append]
        rw [e1]
        exact List.take_of_length_le (by simp; omega)
      rw [if_neg (by omega), w0, w1, w2, if_pos ⟨by omega, by omega, by simp; omega⟩, h1, Option.bind_some, t1, h4, Option.bind_some, if_pos ⟨by omega, by simp; omega, by omega⟩, t2]
      obtain ⟨sc, S', g1, g2, g3, g4, g5⟩ := ih (done ++ [a]) b S1 (by simp; omega) (by simp; omega) (by omega) h5
      exact ⟨sc, S', g1, by simpa using g2, g3, h6.trans g4, g5⟩
theorem split_spec {k : Nat} {x : List UInt8} {S : HS} (hx : x.length ≤ 900) (hk : 2000 ≤ k) :
    ∃ sc S', strings_Split.f k x [44] S = some (sc, S') ∧ S'.rows sc 1 = some ((words x).map strRow) ∧ sc.len = (words x).length ∧ Fr S.next S S' ∧ (∀ q, sc.a = some q → S.next ≤ q.1 ∧ q.1 < S'.next) := by
  have hc := count_words x
  have hcl : Lib.countByte x 44 ≤ x.length := List.count_le_length
  have hn1 : w64 ((Lib.countByte x 44 : Int) + 1) = ((words x).length : Int) := by rw [w64_id (by omega) (by omega)]; omega
  have hn2 : mn ((words x).length : Int) (w64 ((x.length : Int) + 1)) = ((words x).length : Int) := by
    rw [w64_id (by omega) (by omega)]
    unfold mn
    split <;> omega
  have hn3 : w64 (((words x).length : Int) - 1) = ((words x).length : Int) - 1 := w64_id (by omega) (by omega)
  obtain ⟨sl, S1, e1, v1, f1⟩ := Vec.makeN (m := S.next) (S := S) (n := (words x).length) (c := (words x).length) (zr := [.str []]) (Nat.le_refl _) (Nat.le_refl _) (by omega)
  unfold strings_Split.f strings_genSplit.f
  rw [if_neg (by decide), if_neg (by simp), if_pos (by decide)]
  have hcount : strings_Count.f x [44] = some (Lib.countByte x 44 : Int) := rfl
  rw [hcount, Option.bind_some, hn1, strings_genSplit.J0, hn2, e1, Option.bind_some, hn3]
  have hv : Vec S.next S1 1 sl ((([] : List (List UInt8)) ++ List.replicate ((words x).length - ([] : List (List UInt8)).length) []).map strRow) := by
    simpa [strRow] using v1
  obtain ⟨sc, S', g1, g2, g3, g4, g5⟩ := split_loop (k := k) (n := (words x).length) (by omega) k [] x S1 (by simp; omega) (by simp) (by omega) hv
  refine ⟨sc, S', ?_, by simpa using g2, g3, f1.trans g4, g5⟩
  rw [show ((([] : List (List UInt8)).length : Nat) : Int) = 0 from rfl] at g1
  rw [g1, Option.bind_some]

end Go.Proofs.YtcphapfclncggaaDoor.X
