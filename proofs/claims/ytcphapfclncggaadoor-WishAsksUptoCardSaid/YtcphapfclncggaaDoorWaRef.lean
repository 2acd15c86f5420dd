/- The layer wish: what the document says of MONITOR, plain. -/
import Derived.Test.YtcphapfclncggaaDoorWaMon
namespace Go.Proofs.YtcphapfclncggaaDoor.X
open Go.Proofs.YtcphapfclncggaaDoor.HL
set_option linter.unusedVariables false
/-- The words behind a word's begin. -/
theorem words_cut {x : List UInt8} {fr i : Nat} (h1 : fr ≤ i) (h2 : i ≤ x.length) (h : 44 ∉ (x.drop fr).take (i - fr)) (hi : i = x.length ∨ ∃ hlt : i < x.length, x[i] = 44) :
    words (x.drop fr) = (x.drop fr).take (i - fr) :: (if i < x.length then words (x.drop (i + 1)) else []) := by
  rcases hi with rfl | ⟨hlt, h32⟩
  · rw [if_neg (by omega)]
    have : (x.drop fr).take (x.length - fr) = x.drop fr := List.take_of_length_le (by simp)
    rw [this] at h ⊢
    exact words_none h
  · rw [if_pos hlt]
    have e : x.drop fr = (x.drop fr).take (i - fr) ++ 44 :: x.drop (i + 1) := by
      have h3 : (x.drop fr).drop (i - fr) = x.drop i := by rw [List.drop_drop, show fr + (i - fr) = i by omega]
      conv => lhs; rw [← List.take_append_drop (i - fr) (x.drop fr), h3, List.drop_eq_getElem_cons hlt, h32]
    have := words_some (a := (x.drop fr).take (i - fr)) (s := x.drop (i + 1)) h
    rw [← e] at this
    exact this
/-- How many are done: what is behind them is what is left. -/
theorem refMon_loop {k m : Nat} {p : List UInt8} {r : List (List UInt8)} {c : UInt8} {x : List UInt8} {x0 : Sl} (hk : 2000 ≤ k) (hx : x.length ≤ 900) (hp : p = [c]) (hq : ∀ q, x0.a = some q → q.1 < m) :
    ∀ (f i fr : Nat) (done : List (List UInt8)) (out : Sl) (S : HS), x.length + 1 - i < f → i ≤ x.length + 1 → fr ≤ i → m ≤ S.next → S.rows x0 1 = some ((p :: r).map strRow) → Vec m S 1 out ((done.filter nickB).map strRow) → done.length ≤ i →
      (i ≤ x.length → 44 ∉ (x.drop fr).take (i - fr)) → (i = x.length + 1 → fr = x.length + 1) →
      ∃ out' S', rollcallref21_Monitor.L1 k f x0 out (fr : Int) x (i : Int) S = some (((c.toNat : Int), out'), S') ∧ Vec m S' 1 out' (((done ++ (if fr ≤ x.length then words (x.drop fr) else [])).filter nickB).map strRow) ∧ Fr m S S' := by
  intro f
  induction f with
  | zero => intro i fr done out S h; omega
  | succ f ih =>
    intro i fr done out S h hi hfr hm hr hV hdone hno hend
    rw [rollcallref21_Monitor.L1]
    have hi1 : w64 ((i : Int) + 1) = ((i + 1 : Nat) : Int) := by rw [w64_id (by omega) (by omega)]; simp
    by_cases hle : i ≤ x.length
    · rw [if_pos (by omega)]
      have stop : (i = x.length ∨ ∃ hlt : i < x.length, x[i] = 44) → ∃ out' S', rollcallref21_Monitor.J2 k (rollcallref21_Monitor.L1 k f) x0 out (fr : Int) x (i : Int) true S = some (((c.toNat : Int), out'), S') ∧ Vec m S' 1 out' (((done ++ (if fr ≤ x.length then words (x.drop fr) else [])).filter nickB).map strRow) ∧ Fr m S S' := by
        intro hst
        have hw := words_cut hfr hle (hno hle) hst
        have hsub : ssub x (fr : Int) (i : Int) = (x.drop fr).take (i - fr) := by simp [ssub]
        have hwl : ((x.drop fr).take (i - fr)).length ≤ 1000 := by simp; omega
        rw [rollcallref21_Monitor.J2, if_pos rfl, if_pos ⟨by omega, by omega, by omega⟩, hsub, refNick_spec hwl hk, Option.bind_some, if_pos (show fr ≤ x.length by omega), hw]
        generalize (x.drop fr).take (i - fr) = w
        have hnext : ∀ (out1 : Sl) (S1 : HS), m ≤ S1.next → S1.rows x0 1 = some ((p :: r).map strRow) → Vec m S1 1 out1 (((done ++ [w]).filter nickB).map strRow) → Fr m S S1 →
            ∃ out' S', rollcallref21_Monitor.J3 k (rollcallref21_Monitor.L1 k f) x0 out1 x (i : Int) S1 = some (((c.toNat : Int), out'), S') ∧ Vec m S' 1 out' (((done ++ w :: (if i < x.length then words (x.drop (i + 1)) else [])).filter nickB).map strRow) ∧ Fr m S S' := by
          intro out1 S1 hm1 hr1 hV1 f1
          rw [rollcallref21_Monitor.J3, rollcallref21_Monitor.J4, hi1]
          obtain ⟨out', S', g1, g2, g3⟩ := ih (i + 1) (i + 1) (done ++ [w]) out1 S1 (by omega) (by omega) (Nat.le_refl _) hm1 hr1 hV1 (by simp; omega) (fun _ => by simp) (fun h => by omega)
          refine ⟨out', S', g1, ?_, f1.trans g3⟩
          have e : (done ++ [w]) ++ (if i + 1 ≤ x.length then words (x.drop (i + 1)) else []) = done ++ w :: (if i < x.length then words (x.drop (i + 1)) else []) := by
            rw [List.append_assoc]; rfl
          rw [e] at g2
          exact g2
        by_cases hb : nickB w = true
        · obtain ⟨l1, s', S2, l2, v2, f2⟩ := app_lit [.str w] hV hm (by
            have : (done.filter nickB).length ≤ done.length := List.length_filter_le _ _
            simp; omega)
          rw [if_pos hb, if_pos ⟨by omega, by omega, by omega⟩, letv, l1, Option.bind_some, l2, Option.bind_some]
          exact hnext s' S2 (Nat.le_trans hm f2.le) (rows_same hr fun q h => f2.eq _ (hq q h)) (by rw [List.filter_append, List.filter_cons_of_pos hb, List.filter_nil, List.map_append]; exact v2) f2
        · rw [if_neg hb]
          exact hnext out S hm hr (by rw [List.filter_append, List.filter_cons_of_neg hb, List.filter_nil, List.append_nil]; exact hV) (Fr.refl _ _)
      by_cases hlt : i < x.length
      · rw [if_neg (by omega), sat_lt hlt, Option.bind_some]
        have h32 : ((x[i].toNat : Int) = 44) ↔ x[i] = 44 := by rw [← UInt8.toNat_inj]; simp <;> omega
        by_cases hc : x[i] = 44
        · rw [decide_eq_true (h32.2 hc)]
          exact stop (.inr ⟨hlt, hc⟩)
        · rw [decide_eq_false (fun e => hc (h32.1 e)), rollcallref21_Monitor.J2, if_neg (by simp), rollcallref21_Monitor.J4, hi1]
          refine ih (i + 1) fr done out S (by omega) (by omega) (by omega) hm hr hV (by omega) (fun _ => ?_) (fun h => by omega)
          have e : (x.drop fr).take (i + 1 - fr) = (x.drop fr).take (i - fr) ++ [x[i]] := by
            rw [show i + 1 - fr = (i - fr) + 1 by omega, List.take_add_one, List.getElem?_drop, show fr + (i - fr) = i by omega, List.getElem?_eq_getElem hlt]; rfl
          rw [e, List.mem_append]
          rintro (h' | h')
          · exact hno hle h'
          · simp at h'; exact hc h'.symm
      · rw [if_pos (by omega)]
        exact stop (.inl (by omega))
    · obtain rfl : i = x.length + 1 := by omega
      have hf2 := hend rfl
      obtain ⟨ad, a1, a2⟩ := str_row0 hr
      rw [if_neg (by omega), rollcallref21_Monitor.J5, a1, Option.bind_some, a2, Option.bind_some, hp, show sat [c] 0 = some c from rfl, Option.bind_some]
      refine ⟨out, S, rfl, ?_, Fr.refl _ _⟩
      rw [if_neg (by omega), List.append_nil]; exact hV
theorem sing43 : ∀ p : List UInt8, sing [43, 45] p = 43 ↔ p = [43] := by
  intro p
  unfold sing
  split
  · rename_i c
    have := all_bytes (p := fun c => ((if c = 99 ∨ c = 67 then (67 : Int) else if c = 108 ∨ c = 76 then 76 else if c = 115 ∨ c = 83 then 83 else if c ∈ ([43, 45] : List UInt8) then (c.toNat : Int) else 0) = 43) ↔ c = 43) (by decide +kernel) c
    simpa using this
  · rename_i h
    constructor
    · intro e; simp at e
    · rintro rfl; exact absurd rfl (h 43)
theorem sing45 : ∀ p : List UInt8, sing [43, 45] p = 45 ↔ p = [45] := by
  intro p
  unfold sing
  split
  · rename_i c
    have := all_bytes (p := fun c => ((if c = 99 ∨ c = 67 then (67 : Int) else if c = 108 ∨ c = 76 then 76 else if c = 115 ∨ c = 83 then 83 else if c ∈ ([43, 45] : List UInt8) then (c.toNat : Int) else 0) = 45) ↔ c = 45) (by decide +kernel) c
    simpa using this
  · rename_i h
    constructor
    · intro e; simp at e
    · rintro rfl; exact absurd rfl (h 45)
theorem sing_plain {p : List UInt8} (h1 : p ≠ [43]) (h2 : p ≠ [45]) : sing [] p = sing [43, 45] p := by
  unfold sing
  split
  · rename_i c
    have n1 : c ≠ 43 := fun e => h1 (by rw [e])
    have n2 : c ≠ 45 := fun e => h2 (by rw [e])
    simp [n1, n2]
  · rfl
theorem refMon_spec {k : Nat} {xs : List (List UInt8)} {x0 : Sl} {S : HS} (hk : 2000 ≤ k) (hx : ∀ x ∈ xs, x.length ≤ 100) (hr : S.rows x0 1 = some (xs.map strRow)) (hq : ∀ q, x0.a = some q → q.1 < S.next) :
    ∃ out S', rollcallref21_Monitor.f k x0 S = some (((monB xs).1, out), S') ∧ Vec S.next S' 1 out ((monB xs).2.map strRow) ∧ Fr S.next S S' := by
  have hlen : x0.len = xs.length := by have := rows_len hr; simpa using this.symm
  rw [rollcallref21_Monitor.f]
  cases xs with
  | nil =>
    rw [if_pos (by rw [hlen]; rfl)]
    exact ⟨Sl.nil, S, rfl, .nil, Fr.refl _ _⟩
  | cons p r =>
    obtain ⟨ad, a1, a2⟩ := str_row0 hr
    rw [if_neg (by rw [hlen]; simp; omega), a1, Option.bind_some, a2, Option.bind_some]
    have last : ∀ c : UInt8, p = [c] → sing [43, 45] p = (c.toNat : Int) → (sing [43, 45] p = 43 ∨ sing [43, 45] p = 45) → ∃ out S', rollcallref21_Monitor.J0 k x0 false S = some (((monB (p :: r)).1, out), S') ∧ Vec S.next S' 1 out ((monB (p :: r)).2.map strRow) ∧ Fr S.next S S' := by
      intro c hp hc hop
      rw [rollcallref21_Monitor.J0, if_neg (by simp)]
      cases r with
      | nil =>
        rw [if_neg (by rw [hlen]; simp), rollcallref21_Monitor.J5, a1, Option.bind_some, a2, Option.bind_some, monB, if_pos hop]
        refine ⟨Sl.nil, S, ?_, .nil, Fr.refl _ _⟩
        rw [hc, hp]; rfl
      | cons s r =>
        obtain ⟨ad2, b1, b2⟩ := str_row1 hr
        have hs : s.length ≤ 100 := hx s (by simp)
        obtain ⟨out, S2, m1, m2, m3⟩ := refMon_loop (k := k) (m := S.next) (p := p) (r := s :: r) (c := c) (x := s) (x0 := x0) hk (by omega) hp hq k 0 0 [] Sl.nil S (by omega) (Nat.zero_le _) (Nat.le_refl _) (Nat.le_refl _) hr .nil (Nat.le_refl _) (fun _ => by simp) (fun h => by omega)
        rw [if_pos (by rw [hlen]; simp; omega), b1, Option.bind_some, b2, Option.bind_some, monB, if_pos hop]
        rw [show ((0 : Nat) : Int) = 0 from rfl] at m1
        rw [if_pos (Nat.zero_le _), List.drop_zero, List.nil_append] at m2
        refine ⟨out, S2, ?_, m2, m3⟩
        rw [m1, hc]
    by_cases h43 : p = [43]
    · rw [decide_eq_true h43, if_neg (by simp)]
      exact last 43 h43 (by rw [(sing43 p).2 h43]; rfl) (.inl ((sing43 p).2 h43))
    · rw [decide_eq_false h43, if_pos (by simp), Option.bind_some, a2, Option.bind_some]
      by_cases h45 : p = [45]
      · rw [decide_eq_true h45, show (!true) = false from rfl]
        exact last 45 h45 (by rw [(sing45 p).2 h45]; rfl) (.inr ((sing45 p).2 h45))
      · rw [decide_eq_false h45, show (!false) = true from rfl, rollcallref21_Monitor.J0, if_pos rfl, a1, Option.bind_some, a2, Option.bind_some, letter_spec (by omega), Option.bind_some, monB_no (by rintro (h | h); exact h43 ((sing43 p).1 h); exact h45 ((sing45 p).1 h)), sing_plain h43 h45]
        exact ⟨Sl.nil, S, rfl, .nil, Fr.refl _ _⟩
end Go.Proofs.YtcphapfclncggaaDoor.X
