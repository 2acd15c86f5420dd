/- The layer wish: what MONITOR asks for, plain. -/
import Derived.Test.YtcphapfclncggaaDoorWaSplit
namespace Go.Proofs.YtcphapfclncggaaDoor.X
open Go.Proofs.YtcphapfclncggaaDoor.HL
set_option linter.unusedVariables false
/-! ### the letter of a text -/
def sing (signs : List UInt8) (s : List UInt8) : Int := match s with
  | [c] => if c = 99 ∨ c = 67 then 67 else if c = 108 ∨ c = 76 then 76 else if c = 115 ∨ c = 83 then 83 else if c ∈ signs then c.toNat else 0
  | _ => 0
theorem sing_one (signs : List UInt8) (c : UInt8) : sing signs [c] = (if c = 99 ∨ c = 67 then 67 else if c = 108 ∨ c = 76 then 76 else if c = 115 ∨ c = 83 then 83 else if c ∈ signs then (c.toNat : Int) else 0 : Int) := rfl
theorem ixb_pos {s : List UInt8} {c : UInt8} : (0 ≤ Lib.indexByte s c) = (c ∈ s) := by
  apply propext
  constructor
  · intro h
    apply Classical.byContradiction
    intro hn
    rw [ixb_none hn] at h
    omega
  · intro h
    rcases view c s with hn | ⟨a, b, rfl, hn⟩
    · exact absurd h hn
    · rw [ixb_some hn]; omega
theorem low3 (c : UInt8) : (c = 99 ∧ Lib.indexByte [99, 108, 115] c = 0) ∨ (c = 108 ∧ Lib.indexByte [99, 108, 115] c = 1) ∨ (c = 115 ∧ Lib.indexByte [99, 108, 115] c = 2) ∨ (c ≠ 99 ∧ c ≠ 108 ∧ c ≠ 115 ∧ Lib.indexByte [99, 108, 115] c = -1) :=
  all_bytes (p := fun c => (c = 99 ∧ Lib.indexByte [99, 108, 115] c = 0) ∨ (c = 108 ∧ Lib.indexByte [99, 108, 115] c = 1) ∨ (c = 115 ∧ Lib.indexByte [99, 108, 115] c = 2) ∨ (c ≠ 99 ∧ c ≠ 108 ∧ c ≠ 115 ∧ Lib.indexByte [99, 108, 115] c = -1)) (by decide +kernel) c
theorem single_spec {k : Nat} {s signs : List UInt8} {S : HS} (hs : signs.length ≤ 10) (hb : ∀ c ∈ signs, c ≠ 99 ∧ c ≠ 108 ∧ c ≠ 115 ∧ c ≠ 67 ∧ c ≠ 76 ∧ c ≠ 83) : wish_single.f k s signs S = some (sing signs s, S) := by
  unfold wish_single.f
  by_cases h1 : s.length = 1
  · obtain ⟨c, rfl⟩ : ∃ c, s = [c] := List.length_eq_one_iff.1 h1
    rw [if_neg (by simp), show sat [c] 0 = some c from rfl, Option.bind_some, strings_IndexByte.f, internal_stringslite_IndexByte.f, Option.bind_some, Option.bind_some]
    rw [bidx_eq]
    rcases low3 c with ⟨rfl, e⟩ | ⟨rfl, e⟩ | ⟨rfl, e⟩ | ⟨n1, n2, n3, e⟩
    · rw [e, if_pos (by decide)]; rfl
    · rw [e, if_pos (by decide)]; rfl
    · rw [e, if_pos (by decide)]; rfl
    · rw [e, if_neg (by decide), if_pos (by simp; omega), strings_Contains.f, strings_Index.f, index_one, Option.bind_some, Option.bind_some, Option.bind_some]
      have hp : decide (Lib.indexByte ([67, 76, 83] ++ signs) c ≥ 0) = decide (c ∈ ([67, 76, 83] ++ signs : List UInt8)) := by
        rw [decide_eq_decide, ge_iff_le, ixb_pos]
      simp only [hp]
      have hm : (c ∈ ([67, 76, 83] ++ signs : List UInt8)) ↔ (c = 67 ∨ c = 76 ∨ c = 83 ∨ c ∈ signs) := by simp
      by_cases hc : c ∈ ([67, 76, 83] ++ signs : List UInt8)
      · rw [if_pos (by simpa using hc), Option.bind_some]
        have := hm.1 hc
        rw [sing_one]
        rcases this with rfl | rfl | rfl | h
        · rfl
        · rfl
        · rfl
        · obtain ⟨_, _, _, m1, m2, m3⟩ := hb c h
          rw [if_neg (by simp [n1, m1]), if_neg (by simp [n2, m2]), if_neg (by simp [n3, m3]), if_pos h]
      · rw [if_neg (by simpa using hc)]
        have hn : ¬ (c = 67 ∨ c = 76 ∨ c = 83 ∨ c ∈ signs) := fun h => hc (hm.2 h)
        simp only [not_or] at hn
        rw [sing_one]
        rw [if_neg (by simp [n1, hn.1]), if_neg (by simp [n2, hn.2.1]), if_neg (by simp [n3, hn.2.2.1]), if_neg hn.2.2.2]
  · have e0 : sing signs s = 0 := by
      unfold sing
      split
      · simp at h1
      · rfl
    rw [if_pos (by simpa using fun h => h1 (by omega)), e0]
theorem letter_one (c : UInt8) : rollcallref21_letter.f 5 [c] = some (sing [] [c]) := all_bytes (p := fun c => rollcallref21_letter.f 5 [c] = some (sing [] [c])) (by decide +kernel) c
theorem letter_L {k : Nat} : ∀ n i s, rollcallref21_letter.L0 k n s i = rollcallref21_letter.L0 5 n s i := by
  intro n
  induction n with
  | zero => intro i s; rfl
  | succ n ih =>
    intro i s
    have : rollcallref21_letter.L0 k n = rollcallref21_letter.L0 5 n := funext fun s => funext fun i => ih i s
    simp only [rollcallref21_letter.L0, rollcallref21_letter.J1, this]
theorem letter_more (s : List UInt8) : ∀ n i r, rollcallref21_letter.L0 5 n s i = some r → ∀ m, n ≤ m → rollcallref21_letter.L0 5 m s i = some r := by
  intro n
  induction n with
  | zero => intro i r h; cases h
  | succ n ih =>
    intro i r h m hm
    obtain ⟨m, rfl⟩ : ∃ m', m = m' + 1 := ⟨m - 1, by omega⟩
    rw [rollcallref21_letter.L0] at h ⊢
    split at h
    · rename_i c0; rw [if_pos c0]
      split at h
      · rename_i c1; rw [if_pos c1]
        split at h
        · rename_i c2; rw [if_pos c2]; exact h
        · rename_i c2; rw [if_neg c2]
          split at h
          · rename_i c3; rw [if_pos c3]
            rw [rollcallref21_letter.J1] at h ⊢
            split at h
            · rename_i c4; rw [if_pos c4]; exact h
            · rename_i c4; rw [if_neg c4]; exact ih _ _ h m (by omega)
          · cases h
      · cases h
    · rename_i c0; rw [if_neg c0]; exact h
theorem letter_spec {k : Nat} {s : List UInt8} (hk : 5 ≤ k) : rollcallref21_letter.f k s = some (sing [] s) := by
  unfold rollcallref21_letter.f
  rw [letter_L]
  by_cases h1 : s.length = 1
  · obtain ⟨c, rfl⟩ : ∃ c, s = [c] := List.length_eq_one_iff.1 h1
    exact letter_more [c] 5 0 _ (letter_one c) k hk
  · have e0 : sing [] s = 0 := by
      unfold sing
      split
      · simp at h1
      · rfl
    rw [e0]
    refine letter_more s 5 0 _ ?_ k hk
    have ne : ∀ c : UInt8, s ≠ [c] := fun c e => h1 (by rw [e]; rfl)
    have w1 : w64 ((0 : Int) + 1) = 1 := by decide
    have w2 : w64 ((1 : Int) + 1) = 2 := by decide
    have w3 : w64 ((2 : Int) + 1) = 3 := by decide
    rw [rollcallref21_letter.L0, if_pos (by decide), w1, if_pos (by decide), show ssub [67, 76, 83] 0 1 = [67] from rfl, if_neg (ne 67), if_pos (by decide), show ssub [99, 108, 115] 0 1 = [99] from rfl, decide_eq_false (ne 99), rollcallref21_letter.J1, if_neg (by simp)]
    rw [rollcallref21_letter.L0, w1, if_pos (by decide), w2, if_pos (by decide), show ssub [67, 76, 83] 1 2 = [76] from rfl, if_neg (ne 76), if_pos (by decide), show ssub [99, 108, 115] 1 2 = [108] from rfl, decide_eq_false (ne 108), rollcallref21_letter.J1, if_neg (by simp)]
    rw [rollcallref21_letter.L0, w2, if_pos (by decide), w3, if_pos (by decide), show ssub [67, 76, 83] 2 3 = [83] from rfl, if_neg (ne 83), if_pos (by decide), show ssub [99, 108, 115] 2 3 = [115] from rfl, decide_eq_false (ne 115), rollcallref21_letter.J1, if_neg (by simp)]
    rw [rollcallref21_letter.L0, w3, if_neg (by decide)]
/-! ### one more behind a slice that one alone holds -/
theorem app_lit {m z : Nat} {S : HS} {sl : Sl} {rows : List (List HV)} (row : List HV) (h : Vec m S z sl rows) (hm : m ≤ S.next) (hl : rows.length ≤ 100000) :
    (S.lit [row] z).2.rows (S.lit [row] z).1 z = some [row] ∧ ∃ s' S', (S.lit [row] z).2.app sl [row] z = some (s', S') ∧ Vec m S' z s' (rows ++ [row]) ∧ Fr m S S' := by
  refine ⟨(Vec.lit (n := m) (z := z) (S := S) [row] hm).rows, ?_⟩
  have lf : Fr S.next S (S.lit [row] z).2 := lit_fr _ (Nat.le_refl _)
  obtain ⟨s', S', e1, v1, f1⟩ := (h.frame lf (Nat.le_refl _)).app (new := [row]) (Nat.le_trans hm lf.le) (by simp; omega)
  exact ⟨s', S', e1, v1, (lf.mono hm).trans f1⟩
theorem str_rows {S : HS} {s : Sl} {xs : List (List UInt8)} (h : S.rows s 1 = some (xs.map strRow)) {i : Nat} (hi : i < xs.length) : ∃ ad, S.idx s (i : Int) 1 = some ad ∧ S.ldS ad = some xs[i] := by
  obtain ⟨ad, h1, h2, h3⟩ := rows_idx h (i := i) (by simpa using hi)
  refine ⟨ad, h1, ?_⟩
  exact row_ldS (j := 0) (ad := ad) h3 h2 (by simp [strRow])
theorem str_row0 {S : HS} {s : Sl} {x : List UInt8} {xs : List (List UInt8)} (h : S.rows s 1 = some ((x :: xs).map strRow)) : ∃ ad, S.idx s 0 1 = some ad ∧ S.ldS ad = some x :=
  str_rows h (i := 0) (by simp)
theorem str_row1 {S : HS} {s : Sl} {x y : List UInt8} {xs : List (List UInt8)} (h : S.rows s 1 = some ((x :: y :: xs).map strRow)) : ∃ ad, S.idx s 1 1 = some ad ∧ S.ldS ad = some y :=
  str_rows h (i := 1) (by simp)
def monB : List (List UInt8) → Int × List (List UInt8)
  | [] => (0, [])
  | p :: r => if sing [43, 45] p = 43 ∨ sing [43, 45] p = 45 then match r with
      | [] => (sing [43, 45] p, [])
      | s :: _ => (sing [43, 45] p, (words s).filter nickB)
    else (sing [43, 45] p, [])
theorem monB_no {p : List UInt8} {r : List (List UInt8)} (h : ¬ (sing [43, 45] p = 43 ∨ sing [43, 45] p = 45)) : monB (p :: r) = (sing [43, 45] p, []) := by
  unfold monB; simp only [if_neg h]
theorem vec_mono {n m z : Nat} {S : HS} {s : Sl} {rows : List (List HV)} (h : Vec n S z s rows) (hm : m ≤ n) : Vec m S z s rows := by
  cases h with
  | nil => exact .nil
  | open_ h hn hl => exact .open_ h (by omega) hl
  | capped h hn hl hc hr ht => exact .capped h (by omega) hl hc hr ht
theorem words_mem {s w : List UInt8} : w ∈ words s → w.length ≤ s.length := by
  induction s generalizing w with
  | nil => intro h; simp [words] at h; subst h; simp
  | cons b s ih =>
    intro h
    by_cases hb : b = 44
    · subst hb
      rw [words_co] at h
      rcases List.mem_cons.1 h with rfl | h
      · simp
      · have := ih h; simp; omega
    · rw [words_nco _ hb] at h
      cases hw : words s with
      | nil => exact absurd hw (words_ne s)
      | cons w0 ws =>
        rw [hw, headW] at h
        rcases List.mem_cons.1 h with rfl | h
        · have := ih (w := w0) (by rw [hw]; simp); simp; omega
        · have := ih (w := w) (by rw [hw]; simp [h]); simp; omega
theorem mon_loop {k m : Nat} {op : Int} {ws : List (List UInt8)} {y30 : Sl} (hk : 2000 ≤ k) (hn : ws.length ≤ 1000) (hw : ∀ w ∈ ws, w.length ≤ 1000) (hq : ∀ q, y30.a = some q → q.1 < m) :
    ∀ (f i : Nat) (out : Sl) (S : HS), ws.length - i < f → i ≤ ws.length → m ≤ S.next → S.rows y30 1 = some (ws.map strRow) → Vec m S 1 out (((ws.take i).filter nickB).map strRow) →
      ∃ out' S', wish_Monitor.L2 k f op out y30 (ws.length : Int) (i : Int) S = some ((op, out'), S') ∧ Vec m S' 1 out' ((ws.filter nickB).map strRow) ∧ Fr m S S' := by
  intro f
  induction f with
  | zero => intro i out S h; omega
  | succ f ih =>
    intro i out S h hi hm hr hV
    rw [wish_Monitor.L2]
    by_cases hlt : i < ws.length
    · obtain ⟨ad, a1, a2⟩ := str_rows hr hlt
      obtain ⟨S1, e1, f1⟩ := nick_spec (k := k) (m := S.next) (x := ws[i]) (S := S) (hw _ (List.getElem_mem hlt)) hk (Nat.le_refl _)
      have hi1 : w64 ((i : Int) + 1) = ((i + 1 : Nat) : Int) := by rw [w64_id (by omega) (by omega)]; simp
      have f1m := f1.mono hm
      have hr1 : S1.rows y30 1 = some (ws.map strRow) := rows_same hr fun p hp => f1m.eq _ (hq p hp)
      have hV1 := hV.frame f1 (Nat.le_refl _)
      have hl1 : m ≤ S1.next := Nat.le_trans hm f1.le
      rw [if_pos (by omega), a1, Option.bind_some, a2, Option.bind_some, e1, Option.bind_some]
      by_cases hb : nickB ws[i] = true
      · obtain ⟨l1, s', S2, l2, v2, f2⟩ := app_lit [.str ws[i]] hV1 hl1 (by
          have : ((ws.take i).filter nickB).length ≤ (ws.take i).length := List.length_filter_le _ _
          simp at this ⊢; omega)
        rw [hb, if_neg (by simp), letv, l1, Option.bind_some, l2, Option.bind_some, wish_Monitor.J3, hi1]
        have e : (ws.take (i + 1)).filter nickB = (ws.take i).filter nickB ++ [ws[i]] := by
          rw [List.take_succ_eq_append_getElem hlt, List.filter_append, List.filter_cons_of_pos hb, List.filter_nil]
        have hr2 : S2.rows y30 1 = some (ws.map strRow) := rows_same hr1 fun p hp => f2.eq _ (hq p hp)
        obtain ⟨out', S', g1, g2, g3⟩ := ih (i + 1) s' S2 (by omega) (by omega) (Nat.le_trans hl1 f2.le) hr2 (by rw [e, List.map_append]; exact v2)
        exact ⟨out', S', g1, g2, (f1m.trans f2).trans g3⟩
      · have hb' : nickB ws[i] = false := by simpa using hb
        rw [hb', if_pos (by simp), wish_Monitor.J3, hi1]
        have e : (ws.take (i + 1)).filter nickB = (ws.take i).filter nickB := by
          rw [List.take_succ_eq_append_getElem hlt, List.filter_append, List.filter_cons_of_neg hb, List.filter_nil, List.append_nil]
        obtain ⟨out', S', g1, g2, g3⟩ := ih (i + 1) out S1 (by omega) (by omega) hl1 hr1 (by rw [e]; exact hV1)
        exact ⟨out', S', g1, g2, f1m.trans g3⟩
    · obtain rfl : i = ws.length := by omega
      rw [List.take_length] at hV
      rw [if_neg (by omega)]
      exact ⟨out, S, rfl, hV, Fr.refl _ _⟩
theorem mon_signs : ∀ c ∈ ([43, 45] : List UInt8), c ≠ 99 ∧ c ≠ 108 ∧ c ≠ 115 ∧ c ≠ 67 ∧ c ≠ 76 ∧ c ≠ 83 := by decide
theorem mon_spec {k : Nat} {xs : List (List UInt8)} {x0 : Sl} {S : HS} (hk : 2000 ≤ k) (hx : ∀ x ∈ xs, x.length ≤ 100) (hr : S.rows x0 1 = some (xs.map strRow)) :
    ∃ out S', wish_Monitor.f k x0 S = some (((monB xs).1, out), S') ∧ Vec S.next S' 1 out ((monB xs).2.map strRow) ∧ Fr S.next S S' := by
  have hlen : x0.len = xs.length := by have := rows_len hr; simpa using this.symm
  rw [wish_Monitor.f]
  cases xs with
  | nil =>
    rw [if_pos (by rw [hlen]; rfl)]
    exact ⟨Sl.nil, S, rfl, .nil, Fr.refl _ _⟩
  | cons p r =>
    obtain ⟨ad, a1, a2⟩ := str_row0 hr
    rw [if_neg (by rw [hlen]; simp; omega), a1, Option.bind_some, a2, Option.bind_some, single_spec (by decide) mon_signs, Option.bind_some]
    have last : (sing [43, 45] p = 43 ∨ sing [43, 45] p = 45) → ∃ out S', wish_Monitor.J0 k x0 (sing [43, 45] p) false S = some (((monB (p :: r)).1, out), S') ∧ Vec S.next S' 1 out ((monB (p :: r)).2.map strRow) ∧ Fr S.next S S' := by
      intro hop
      rw [wish_Monitor.J0, if_neg (by simp), wish_Monitor.J1]
      cases r with
      | nil =>
        rw [if_pos (by rw [hlen]; simp), monB, if_pos hop]
        exact ⟨Sl.nil, S, rfl, .nil, Fr.refl _ _⟩
      | cons s r =>
        obtain ⟨ad2, b1, b2⟩ := str_row1 hr
        have hs : s.length ≤ 100 := hx s (by simp)
        obtain ⟨sc, S1, g1, g2, g3, g4, g5⟩ := split_spec (k := k) (x := s) (S := S) (by omega) hk
        have hwl : (words s).length ≤ 101 := by rw [words_len]; have : s.count 44 ≤ s.length := List.count_le_length; omega
        obtain ⟨out, S2, m1, m2, m3⟩ := mon_loop (k := k) (m := S1.next) (op := sing [43, 45] p) (ws := words s) (y30 := sc) hk (by omega) (fun w hw => by have := words_mem hw; omega) (fun q hq => (g5 q hq).2) k 0 Sl.nil S1 (by omega) (Nat.zero_le _) (Nat.le_refl _) g2 (by rw [List.take_zero]; exact .nil)
        rw [if_neg (by rw [hlen]; simp; omega), b1, Option.bind_some, b2, Option.bind_some, g1, Option.bind_some, g3, monB, if_pos hop]
        rw [show ((0 : Nat) : Int) = 0 from rfl] at m1
        refine ⟨out, S2, m1, ?_, g4.trans (m3.mono g4.le)⟩
        exact vec_mono m2 g4.le
    by_cases h43 : sing [43, 45] p = 43
    · rw [h43, if_neg (by simp), ← h43]
      exact last (.inl h43)
    · rw [if_pos (by simpa using h43)]
      by_cases h45 : sing [43, 45] p = 45
      · rw [h45, show (!decide ((45 : Int) = 45)) = false by simp, ← h45]
        exact last (.inr h45)
      · rw [show (!decide (sing [43, 45] p = 45)) = true by simpa using h45, wish_Monitor.J0, if_pos rfl, wish_Monitor.J1, if_pos rfl, monB_no (by rintro (h | h); exact h43 h; exact h45 h)]
        exact ⟨Sl.nil, S, rfl, .nil, Fr.refl _ _⟩
end Go.Proofs.YtcphapfclncggaaDoor.X
