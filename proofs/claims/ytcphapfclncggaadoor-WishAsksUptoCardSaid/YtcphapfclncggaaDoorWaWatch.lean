/- The layer wish: what WATCH asks for, and WishAsks, plain. -/
import Derived.Test.YtcphapfclncggaaDoorWaRef
namespace Go.Proofs.YtcphapfclncggaaDoor.X
open Go.Proofs.YtcphapfclncggaaDoor.HL
set_option linter.unusedVariables false
def wishRow (x : Int × List UInt8) : List HV := [.int .u8 x.1, .str x.2]
def watch1 (s : List UInt8) : List (Int × List UInt8) :=
  if sing [] s ≠ 0 then [(sing [] s, [])] else match s with
    | c :: t => if (c = 43 ∨ c = 45) ∧ nickB t = true then [((c.toNat : Int), t)] else []
    | [] => []
def watB (xs : List (List UInt8)) : List (Int × List UInt8) := if xs = [] then [(76, [])] else xs.flatMap watch1
theorem watch1_len (s : List UInt8) : (watch1 s).length ≤ 1 := by
  unfold watch1
  split
  · simp
  · split
    · split <;> simp
    · simp
theorem watch1_cons {c : UInt8} {t : List UInt8} (h : sing [] (c :: t) = 0) : watch1 (c :: t) = if (c = 43 ∨ c = 45) ∧ nickB t = true then [((c.toNat : Int), t)] else [] := by
  unfold watch1; rw [if_neg (by simpa using h)]
theorem flat_len (xs : List (List UInt8)) : (xs.flatMap watch1).length ≤ xs.length := by
  induction xs with
  | nil => simp
  | cons x xs ih => have := watch1_len x; rw [List.flatMap_cons, List.length_append, List.length_cons]; omega
theorem nickB_nil : nickB [] = false := by decide
theorem u8_ok {z : Int} (c : UInt8) : ((c.toNat : Int) = 43 ↔ c = 43) ∧ ((c.toNat : Int) = 45 ↔ c = 45) := all_bytes (p := fun c => ((c.toNat : Int) = 43 ↔ c = 43) ∧ ((c.toNat : Int) = 45 ↔ c = 45)) (by decide +kernel) c
theorem cons_sub (c : UInt8) (t : List UInt8) : ssub (c :: t) 1 ((c :: t).length : Int) = t := by
  simp only [ssub, Int.toNat_natCast]
  exact List.take_of_length_le (by simp)
theorem watch_loop {k m : Nat} {xs : List (List UInt8)} {x0 : Sl} (hk : 2000 ≤ k) (hn : xs.length ≤ 1000) (hx : ∀ x ∈ xs, x.length ≤ 100) (hq : ∀ q, x0.a = some q → q.1 < m) :
    ∀ (f i : Nat) (out : Sl) (S : HS), xs.length - i < f → i ≤ xs.length → m ≤ S.next → S.rows x0 1 = some (xs.map strRow) → Vec m S 2 out (((xs.take i).flatMap watch1).map wishRow) →
      ∃ out' S', wish_Watch.L0 k f out x0 (xs.length : Int) (i : Int) S = some (out', S') ∧ Vec m S' 2 out' ((xs.flatMap watch1).map wishRow) ∧ Fr m S S' := by
  intro f
  induction f with
  | zero => intro i out S h; omega
  | succ f ih =>
    intro i out S h hi hm hr hV
    rw [wish_Watch.L0]
    by_cases hlt : i < xs.length
    · obtain ⟨ad, a1, a2⟩ := str_rows hr hlt
      have hi1 : w64 ((i : Int) + 1) = ((i + 1 : Nat) : Int) := by rw [w64_id (by omega) (by omega)]; simp
      have hxi := hx _ (List.getElem_mem hlt)
      have et : (xs.take (i + 1)).flatMap watch1 = (xs.take i).flatMap watch1 ++ watch1 xs[i] := by
        rw [List.take_succ_eq_append_getElem hlt, List.flatMap_append]; simp
      have hfl : (((xs.take i).flatMap watch1).map wishRow).length ≤ 1000 := by have := flat_len (xs.take i); rw [List.length_map]; rw [List.length_take] at this; omega
      rw [if_pos (by omega), a1, Option.bind_some, a2, Option.bind_some, single_spec (by decide) (by simp), Option.bind_some]
      generalize hs : xs[i] = s at *
      -- one more behind
      have more : ∀ (row : Int × List UInt8) (S1 : HS) (f1 : Fr m S S1) (hV1 : Vec m S1 2 out (((xs.take i).flatMap watch1).map wishRow)) (hm1 : m ≤ S1.next) (he : watch1 s = [row]),
          ∃ out' S', (letv (HS.lit S1 [wishRow row] 2) fun p8 => Option.bind (HS.rows (p8.2) (p8.1) 2) fun p9 => Option.bind (HS.app (p8.2) out p9 2) fun p10 => wish_Watch.J1 k (wish_Watch.L0 k f) (p10.1) x0 (xs.length : Int) (i : Int) (p10.2)) = some (out', S') ∧ Vec m S' 2 out' ((xs.flatMap watch1).map wishRow) ∧ Fr m S S' := by
        intro row S1 f1 hV1 hm1 he
        obtain ⟨l1, s', S2, l2, v2, f2⟩ := app_lit (wishRow row) hV1 hm1 (by omega)
        rw [letv, l1, Option.bind_some, l2, Option.bind_some, wish_Watch.J1, hi1]
        obtain ⟨out', S', g1, g2, g3⟩ := ih (i + 1) s' S2 (by omega) (by omega) (Nat.le_trans hm1 f2.le) (rows_same hr fun q h => (f1.trans f2).eq _ (hq q h)) (by rw [et, he, List.map_append]; exact v2)
        exact ⟨out', S', g1, g2, (f1.trans f2).trans g3⟩
      have none_ : ∀ (S1 : HS) (f1 : Fr m S S1) (hV1 : Vec m S1 2 out (((xs.take i).flatMap watch1).map wishRow)) (hm1 : m ≤ S1.next) (he : watch1 s = []),
          ∃ out' S', wish_Watch.J1 k (wish_Watch.L0 k f) out x0 (xs.length : Int) (i : Int) S1 = some (out', S') ∧ Vec m S' 2 out' ((xs.flatMap watch1).map wishRow) ∧ Fr m S S' := by
        intro S1 f1 hV1 hm1 he
        rw [wish_Watch.J1, hi1]
        obtain ⟨out', S', g1, g2, g3⟩ := ih (i + 1) out S1 (by omega) (by omega) hm1 (rows_same hr fun q h => f1.eq _ (hq q h)) (by rw [et, he, List.append_nil]; exact hV1)
        exact ⟨out', S', g1, g2, f1.trans g3⟩
      by_cases h0 : sing [] s = 0
      · rw [if_neg (by simp [h0])]
        cases s with
        | nil =>
          rw [if_neg (by simp), wish_Watch.J3, if_neg (by simp), wish_Watch.J4, if_neg (by simp)]
          exact none_ S (Fr.refl _ _) hV hm (by unfold watch1; rw [if_neg (by simpa using h0)])
        | cons c t =>
          have sign : (c = 43 ∨ c = 45) → ∃ out' S', wish_Watch.J3 k (wish_Watch.L0 k f) out (c :: t) x0 (xs.length : Int) (i : Int) true S = some (out', S') ∧ Vec m S' 2 out' ((xs.flatMap watch1).map wishRow) ∧ Fr m S S' := by
            intro hc
            simp only [List.length_cons] at hxi
            obtain ⟨S1, e1, f1⟩ := nick_spec (k := k) (m := S.next) (x := t) (S := S) (by omega) hk (Nat.le_refl _)
            rw [wish_Watch.J3, if_pos rfl, if_pos ⟨by omega, by simp; omega, by omega⟩, cons_sub, e1, Option.bind_some, wish_Watch.J4]
            by_cases hb : nickB t = true
            · rw [if_pos hb, show sat (c :: t) 0 = some c from rfl, Option.bind_some, if_pos ⟨by omega, by simp; omega, by omega⟩, cons_sub]
              exact more ((c.toNat : Int), t) S1 (f1.mono hm) (hV.frame f1 (Nat.le_refl _)) (Nat.le_trans hm f1.le) (by rw [watch1_cons h0, if_pos ⟨hc, hb⟩])
            · rw [if_neg hb]
              exact none_ S1 (f1.mono hm) (hV.frame f1 (Nat.le_refl _)) (Nat.le_trans hm f1.le) (by rw [watch1_cons h0, if_neg (fun h => hb h.2)])
          have plain : ¬ (c = 43 ∨ c = 45) → ∃ out' S', wish_Watch.J3 k (wish_Watch.L0 k f) out (c :: t) x0 (xs.length : Int) (i : Int) false S = some (out', S') ∧ Vec m S' 2 out' ((xs.flatMap watch1).map wishRow) ∧ Fr m S S' := by
            intro hc
            rw [wish_Watch.J3, if_neg (by simp), wish_Watch.J4, if_neg (by simp)]
            exact none_ S (Fr.refl _ _) hV hm (by rw [watch1_cons h0, if_neg (fun h => hc h.1)])
          obtain ⟨u1, u2⟩ := u8_ok (z := 0) c
          rw [if_pos (by simp), show sat (c :: t) 0 = some c from rfl, Option.bind_some]
          by_cases h43 : c = 43
          · rw [if_pos (u1.2 h43), wish_Watch.J2, if_pos (by simp)]
            exact sign (.inl h43)
          · rw [if_neg (fun e => h43 (u1.1 e)), Option.bind_some, wish_Watch.J2, if_pos (by simp)]
            by_cases h45 : c = 45
            · rw [decide_eq_true (u2.2 h45)]; exact sign (.inr h45)
            · rw [decide_eq_false (fun e => h45 (u2.1 e))]; exact plain (by rintro (h | h); exact h43 h; exact h45 h)
      · rw [if_pos (by simpa using h0)]
        exact more (sing [] s, []) S (Fr.refl _ _) hV hm (by unfold watch1; rw [if_pos h0])
    · obtain rfl : i = xs.length := by omega
      rw [List.take_length] at hV
      rw [if_neg (by omega)]
      exact ⟨out, S, rfl, hV, Fr.refl _ _⟩
theorem watch_spec {k : Nat} {xs : List (List UInt8)} {x0 : Sl} {S : HS} (hk : 2000 ≤ k) (hn : xs.length ≤ 1000) (hx : ∀ x ∈ xs, x.length ≤ 100) (hr : S.rows x0 1 = some (xs.map strRow)) (hq : ∀ q, x0.a = some q → q.1 < S.next) :
    ∃ out S', wish_Watch.f k x0 S = some (out, S') ∧ Vec S.next S' 2 out ((watB xs).map wishRow) ∧ Fr S.next S S' := by
  have hlen : x0.len = xs.length := by have := rows_len hr; simpa using this.symm
  rw [wish_Watch.f]
  by_cases h0 : xs = []
  · subst h0
    rw [if_pos (by rw [hlen]; rfl), letv]
    exact ⟨_, _, rfl, Vec.lit _ (Nat.le_refl _), lit_fr _ (Nat.le_refl _)⟩
  · have : xs.length ≠ 0 := fun h => h0 (List.length_eq_zero_iff.1 h)
    rw [if_neg (by rw [hlen]; omega), hlen]
    obtain ⟨out, S', g1, g2, g3⟩ := watch_loop (k := k) (m := S.next) hk hn hx hq k 0 Sl.nil S (by omega) (Nat.zero_le _) (Nat.le_refl _) hr (by rw [List.take_zero]; exact .nil)
    exact ⟨out, S', g1, by unfold watB; rw [if_neg h0]; exact g2, g3⟩
theorem refWatch_loop {k m : Nat} {xs : List (List UInt8)} {x0 : Sl} (hk : 2000 ≤ k) (hn : xs.length ≤ 1000) (hx : ∀ x ∈ xs, x.length ≤ 100) (hl : x0.len = xs.length) (hq : ∀ q, x0.a = some q → q.1 < m) :
    ∀ (f i : Nat) (out : Sl) (S : HS), xs.length - i < f → i ≤ xs.length → m ≤ S.next → S.rows x0 1 = some (xs.map strRow) → Vec m S 2 out (((xs.take i).flatMap watch1).map wishRow) →
      ∃ out' S', rollcallref21_Watch.L0 k f x0 out (i : Int) S = some (out', S') ∧ Vec m S' 2 out' ((xs.flatMap watch1).map wishRow) ∧ Fr m S S' := by
  intro f
  induction f with
  | zero => intro i out S h; omega
  | succ f ih =>
    intro i out S h hi hm hr hV
    rw [rollcallref21_Watch.L0]
    by_cases hlt : i < xs.length
    · obtain ⟨ad, a1, a2⟩ := str_rows hr hlt
      have hi1 : w64 ((i : Int) + 1) = ((i + 1 : Nat) : Int) := by rw [w64_id (by omega) (by omega)]; simp
      have hxi := hx _ (List.getElem_mem hlt)
      have et : (xs.take (i + 1)).flatMap watch1 = (xs.take i).flatMap watch1 ++ watch1 xs[i] := by
        rw [List.take_succ_eq_append_getElem hlt, List.flatMap_append]; simp
      have hfl : (((xs.take i).flatMap watch1).map wishRow).length ≤ 1000 := by have := flat_len (xs.take i); rw [List.length_map]; rw [List.length_take] at this; omega
      rw [if_pos (by omega), a1, Option.bind_some, a2, Option.bind_some, letter_spec (by omega), Option.bind_some]
      generalize hs : xs[i] = s at *
      have more : ∀ (row : Int × List UInt8) (he : watch1 s = [row]),
          ∃ out' S', (letv (HS.lit S [wishRow row] 2) fun p8 => Option.bind (HS.rows (p8.2) (p8.1) 2) fun p9 => Option.bind (HS.app (p8.2) out p9 2) fun p10 => rollcallref21_Watch.J1 k (rollcallref21_Watch.L0 k f) x0 (p10.1) (i : Int) (p10.2)) = some (out', S') ∧ Vec m S' 2 out' ((xs.flatMap watch1).map wishRow) ∧ Fr m S S' := by
        intro row he
        obtain ⟨l1, s', S2, l2, v2, f2⟩ := app_lit (wishRow row) hV hm (by omega)
        rw [letv, l1, Option.bind_some, l2, Option.bind_some, rollcallref21_Watch.J1, hi1]
        obtain ⟨out', S', g1, g2, g3⟩ := ih (i + 1) s' S2 (by omega) (by omega) (Nat.le_trans hm f2.le) (rows_same hr fun q h => f2.eq _ (hq q h)) (by rw [et, he, List.map_append]; exact v2)
        exact ⟨out', S', g1, g2, f2.trans g3⟩
      have none_ : ∀ (he : watch1 s = []),
          ∃ out' S', rollcallref21_Watch.J1 k (rollcallref21_Watch.L0 k f) x0 out (i : Int) S = some (out', S') ∧ Vec m S' 2 out' ((xs.flatMap watch1).map wishRow) ∧ Fr m S S' := by
        intro he
        rw [rollcallref21_Watch.J1, hi1]
        exact ih (i + 1) out S (by omega) (by omega) hm hr (by rw [et, he, List.append_nil]; exact hV)
      by_cases h0 : sing [] s = 0
      · rw [if_neg (by simp [h0])]
        have short : s.length ≤ 1 → watch1 s = [] := by
          intro h
          unfold watch1; rw [if_neg (by simpa using h0)]
          cases s with
          | nil => rfl
          | cons c t =>
            obtain rfl : t = [] := by simpa using h
            simp only [nickB_nil]; simp
        by_cases h1 : 1 < s.length
        · obtain ⟨c, t, rfl⟩ : ∃ c t, s = c :: t := by
            cases s with
            | nil => simp at h1
            | cons c t => exact ⟨c, t, rfl⟩
          have sign : (c = 43 ∨ c = 45) → ∃ out' S', rollcallref21_Watch.J3 k (rollcallref21_Watch.L0 k f) x0 out (i : Int) (c :: t) true S = some (out', S') ∧ Vec m S' 2 out' ((xs.flatMap watch1).map wishRow) ∧ Fr m S S' := by
            intro hc
            simp only [List.length_cons] at hxi
            rw [rollcallref21_Watch.J3, if_pos rfl, if_pos ⟨by omega, by simp; omega, by omega⟩, cons_sub, refNick_spec (by omega) hk, Option.bind_some, rollcallref21_Watch.J4]
            by_cases hb : nickB t = true
            · rw [if_pos hb, show sat (c :: t) 0 = some c from rfl, Option.bind_some, if_pos ⟨by omega, by simp; omega, by omega⟩, cons_sub]
              exact more ((c.toNat : Int), t) (by rw [watch1_cons h0, if_pos ⟨hc, hb⟩])
            · rw [if_neg hb]
              exact none_ (by rw [watch1_cons h0, if_neg (fun h => hb h.2)])
          have plain : ¬ (c = 43 ∨ c = 45) → ∃ out' S', rollcallref21_Watch.J3 k (rollcallref21_Watch.L0 k f) x0 out (i : Int) (c :: t) false S = some (out', S') ∧ Vec m S' 2 out' ((xs.flatMap watch1).map wishRow) ∧ Fr m S S' := by
            intro hc
            rw [rollcallref21_Watch.J3, if_neg (by simp), rollcallref21_Watch.J4, if_neg (by simp)]
            exact none_ (by rw [watch1_cons h0, if_neg (fun h => hc h.1)])
          obtain ⟨u1, u2⟩ := u8_ok (z := 0) c
          have hd : decide (((c :: t).length : Int) > 1) = true := decide_eq_true (by omega)
          rw [if_pos (by omega), show sat (c :: t) 0 = some c from rfl, Option.bind_some, hd]
          by_cases h43 : c = 43
          · rw [if_pos (u1.2 h43), rollcallref21_Watch.J2, if_pos rfl]
            exact sign (.inl h43)
          · rw [if_neg (fun e => h43 (u1.1 e)), Option.bind_some, rollcallref21_Watch.J2, if_pos rfl]
            by_cases h45 : c = 45
            · rw [decide_eq_true (u2.2 h45)]; exact sign (.inr h45)
            · rw [decide_eq_false (fun e => h45 (u2.1 e))]; exact plain (by rintro (h | h); exact h43 h; exact h45 h)
        · rw [if_neg (by omega), rollcallref21_Watch.J3, if_neg (by simp), rollcallref21_Watch.J4, if_neg (by simp)]
          exact none_ (short (by omega))
      · rw [if_pos (by simpa using h0)]
        exact more (sing [] s, []) (by unfold watch1; rw [if_pos h0])
    · obtain rfl : i = xs.length := by omega
      rw [List.take_length] at hV
      rw [if_neg (by omega)]
      exact ⟨out, S, rfl, hV, Fr.refl _ _⟩
theorem refWatch_spec {k : Nat} {xs : List (List UInt8)} {x0 : Sl} {S : HS} (hk : 2000 ≤ k) (hn : xs.length ≤ 1000) (hx : ∀ x ∈ xs, x.length ≤ 100) (hr : S.rows x0 1 = some (xs.map strRow)) (hq : ∀ q, x0.a = some q → q.1 < S.next) :
    ∃ out S', rollcallref21_Watch.f k x0 S = some (out, S') ∧ Vec S.next S' 2 out ((watB xs).map wishRow) ∧ Fr S.next S S' := by
  have hlen : x0.len = xs.length := by have := rows_len hr; simpa using this.symm
  rw [rollcallref21_Watch.f]
  by_cases h0 : xs = []
  · subst h0
    rw [if_pos (by rw [hlen]; rfl), letv]
    exact ⟨_, _, rfl, Vec.lit _ (Nat.le_refl _), lit_fr _ (Nat.le_refl _)⟩
  · have : xs.length ≠ 0 := fun h => h0 (List.length_eq_zero_iff.1 h)
    rw [if_neg (by rw [hlen]; omega)]
    obtain ⟨out, S', g1, g2, g3⟩ := refWatch_loop (k := k) (m := S.next) hk hn hx hlen hq k 0 Sl.nil S (by omega) (Nat.zero_le _) (Nat.le_refl _) hr (by rw [List.take_zero]; exact .nil)
    exact ⟨out, S', g1, by unfold watB; rw [if_neg h0]; exact g2, g3⟩
/-! ### two sequences, compared -/
theorem texts_loop {k : Nat} {xs : List (List UInt8)} {x y : Sl} {S : HS} (hn : xs.length ≤ 1000) (h1 : S.rows x 1 = some (xs.map strRow)) (h2 : S.rows y 1 = some (xs.map strRow)) :
    ∀ (f i : Nat), xs.length - i < f → i ≤ xs.length → rollcallref01_Texts.L0 k f x y (i : Int) S = some (true, S) := by
  have hl : x.len = xs.length := by have := rows_len h1; simpa using this.symm
  intro f
  induction f with
  | zero => intro i h; omega
  | succ f ih =>
    intro i h hi
    rw [rollcallref01_Texts.L0]
    by_cases hlt : i < xs.length
    · obtain ⟨a1, b1, c1⟩ := str_rows h1 hlt
      obtain ⟨a2, b2, c2⟩ := str_rows h2 hlt
      have hi1 : w64 ((i : Int) + 1) = ((i + 1 : Nat) : Int) := by rw [w64_id (by omega) (by omega)]; simp
      rw [if_pos (by omega), b1, Option.bind_some, c1, Option.bind_some, b2, Option.bind_some, c2, Option.bind_some, if_neg (by simp), hi1]
      exact ih (i + 1) (by omega) (by omega)
    · rw [if_neg (by omega)]
theorem texts_spec {k : Nat} {xs : List (List UInt8)} {x y : Sl} {S : HS} (hk : 2000 ≤ k) (hn : xs.length ≤ 1000) (h1 : S.rows x 1 = some (xs.map strRow)) (h2 : S.rows y 1 = some (xs.map strRow)) : rollcallref01_Texts.f k x y S = some (true, S) := by
  have hl1 : x.len = xs.length := by have := rows_len h1; simpa using this.symm
  have hl2 : y.len = xs.length := by have := rows_len h2; simpa using this.symm
  rw [rollcallref01_Texts.f, hl1, hl2, if_neg (by simp)]
  exact texts_loop hn h1 h2 k 0 (by omega) (Nat.zero_le _)
theorem wish_rows {S : HS} {s : Sl} {xs : List (Int × List UInt8)} (h : S.rows s 2 = some (xs.map wishRow)) {i : Nat} (hi : i < xs.length) : ∃ ad, S.idx s (i : Int) 2 = some ad ∧ S.ldI .u8 (HA.fld ad 0) = some xs[i].1 ∧ S.ldS (HA.fld ad 1) = some xs[i].2 := by
  obtain ⟨ad, h1, h2, h3⟩ := rows_idx h (i := i) (by simpa using hi)
  rw [List.getElem_map] at h3
  exact ⟨ad, h1, row_ldI h3 h2 rfl, row_ldS h3 h2 rfl⟩
theorem ksame_wish (a : Int) (b : List UInt8) : kSames [(.int .u8 a), (.str b)] [(.int .u8 a), (.str b)] = some true := by simp [kSames, kSame1]
theorem asks_loop {k : Nat} {xs : List (Int × List UInt8)} {x y : Sl} {S : HS} (hn : xs.length ≤ 1000) (h1 : S.rows x 2 = some (xs.map wishRow)) (h2 : S.rows y 2 = some (xs.map wishRow)) :
    ∀ (f i : Nat), xs.length - i < f → i ≤ xs.length → rollcalllaw21_WishAsks.L3 k f x y (i : Int) S = some (true, S) := by
  have hl : y.len = xs.length := by have := rows_len h2; simpa using this.symm
  intro f
  induction f with
  | zero => intro i h; omega
  | succ f ih =>
    intro i h hi
    rw [rollcalllaw21_WishAsks.L3]
    by_cases hlt : i < xs.length
    · obtain ⟨a1, b1, c1, d1⟩ := wish_rows h1 hlt
      obtain ⟨a2, b2, c2, d2⟩ := wish_rows h2 hlt
      have hi1 : w64 ((i : Int) + 1) = ((i + 1 : Nat) : Int) := by rw [w64_id (by omega) (by omega)]; simp
      rw [if_pos (by omega), b1, Option.bind_some, c1, Option.bind_some, d1, Option.bind_some, b2, Option.bind_some, c2, Option.bind_some, d2, Option.bind_some, ksame_wish, Option.bind_some, if_neg (by simp), hi1]
      exact ih (i + 1) (by omega) (by omega)
    · rw [if_neg (by omega)]
/-! ### what the document tells -/
theorem awake_spec {S : HS} : ∃ S', rollcalllaw21_awake.f 2000 S = some (true, S') ∧ Fr S.next S S' := by
  rw [rollcalllaw21_awake.f, letv]
  have v1 : Vec S.next (S.lit ([[43], [97, 110, 110, 44, 44, 49, 120, 44, 98, 111, 98]].map strRow) 1).2 1 (S.lit ([[43], [97, 110, 110, 44, 44, 49, 120, 44, 98, 111, 98]].map strRow) 1).1 ([[43], [97, 110, 110, 44, 44, 49, 120, 44, 98, 111, 98]].map strRow) := Vec.lit _ (Nat.le_refl _)
  have f1 : Fr S.next S (S.lit ([[43], [97, 110, 110, 44, 44, 49, 120, 44, 98, 111, 98]].map strRow) 1).2 := lit_fr _ (Nat.le_refl _)
  have e0 : HS.lit S [[(.str ([43] : List UInt8))], [(.str ([97, 110, 110, 44, 44, 49, 120, 44, 98, 111, 98] : List UInt8))]] 1 = S.lit ([[43], [97, 110, 110, 44, 44, 49, 120, 44, 98, 111, 98]].map strRow) 1 := rfl
  rw [e0]
  generalize S.lit ([[43], [97, 110, 110, 44, 44, 49, 120, 44, 98, 111, 98]].map strRow) 1 = P1 at v1 f1 ⊢
  obtain ⟨p1, S1⟩ := P1
  simp only at v1 f1 ⊢
  obtain ⟨out, S2, e2, v2, f2⟩ := mon_spec (k := 2000) (xs := [[43], [97, 110, 110, 44, 44, 49, 120, 44, 98, 111, 98]]) (x0 := p1) (S := S1) (Nat.le_refl _) (by decide) v1.rows
  rw [show monB [[43], [97, 110, 110, 44, 44, 49, 120, 44, 98, 111, 98]] = (43, [[97, 110, 110], [98, 111, 98]]) from by decide +kernel] at e2 v2
  rw [e2, Option.bind_some, letv]
  have e3 : HS.lit S2 [[(.str ([43, 97, 110, 110] : List UInt8))], [(.str ([45, 98, 111, 98] : List UInt8))], [(.str ([99] : List UInt8))], [(.str ([120] : List UInt8))]] 1 = S2.lit ([[43, 97, 110, 110], [45, 98, 111, 98], [99], [120]].map strRow) 1 := rfl
  have v3 : Vec S2.next (S2.lit ([[43, 97, 110, 110], [45, 98, 111, 98], [99], [120]].map strRow) 1).2 1 (S2.lit ([[43, 97, 110, 110], [45, 98, 111, 98], [99], [120]].map strRow) 1).1 ([[43, 97, 110, 110], [45, 98, 111, 98], [99], [120]].map strRow) := Vec.lit _ (Nat.le_refl _)
  have f3 : Fr S2.next S2 (S2.lit ([[43, 97, 110, 110], [45, 98, 111, 98], [99], [120]].map strRow) 1).2 := lit_fr _ (Nat.le_refl _)
  simp only
  rw [e3]
  generalize S2.lit ([[43, 97, 110, 110], [45, 98, 111, 98], [99], [120]].map strRow) 1 = P3 at v3 f3 ⊢
  obtain ⟨p3, S3⟩ := P3
  simp only at v3 f3 ⊢
  have v23 := v2.frame f3 (Nat.le_refl _)
  obtain ⟨wo, S4, e4, v4, f4⟩ := watch_spec (k := 2000) (xs := [[43, 97, 110, 110], [45, 98, 111, 98], [99], [120]]) (x0 := p3) (S := S3) (Nat.le_refl _) (by decide) (by decide) v3.rows (fun q hq => (v3.lo q hq).2)
  rw [show watB [[43, 97, 110, 110], [45, 98, 111, 98], [99], [120]] = [(43, [97, 110, 110]), (45, [98, 111, 98]), (67, [])] from by decide +kernel] at v4
  have v24 := v23.frame f4 (Nat.le_refl _)
  rw [e4, Option.bind_some, if_pos trivial, letv]
  have e5 : HS.lit S4 [[(.str ([97, 110, 110] : List UInt8))], [(.str ([98, 111, 98] : List UInt8))]] 1 = S4.lit ([[97, 110, 110], [98, 111, 98]].map strRow) 1 := rfl
  have v5 : Vec S4.next (S4.lit ([[97, 110, 110], [98, 111, 98]].map strRow) 1).2 1 (S4.lit ([[97, 110, 110], [98, 111, 98]].map strRow) 1).1 ([[97, 110, 110], [98, 111, 98]].map strRow) := Vec.lit _ (Nat.le_refl _)
  have f5 : Fr S4.next S4 (S4.lit ([[97, 110, 110], [98, 111, 98]].map strRow) 1).2 := lit_fr _ (Nat.le_refl _)
  simp only
  rw [e5]
  generalize S4.lit ([[97, 110, 110], [98, 111, 98]].map strRow) 1 = P5 at v5 f5 ⊢
  obtain ⟨p5, S5⟩ := P5
  simp only at v5 f5 ⊢
  have v25 := v24.frame f5 (Nat.le_refl _)
  have v45 := v4.frame f5 (Nat.le_refl _)
  rw [texts_spec (xs := [[97, 110, 110], [98, 111, 98]]) (Nat.le_refl _) (by decide) v25.rows v5.rows, Option.bind_some]
  have hl : wo.len = 3 := v45.len
  obtain ⟨a0, b0, c0, d0⟩ := wish_rows v45.rows (i := 0) (by simp)
  obtain ⟨a1, b1, c1, d1⟩ := wish_rows v45.rows (i := 1) (by simp)
  obtain ⟨a2, b2, c2, d2⟩ := wish_rows v45.rows (i := 2) (by simp)
  rw [show ((0 : Nat) : Int) = 0 from rfl] at b0
  rw [show ((1 : Nat) : Int) = 1 from rfl] at b1
  rw [show ((2 : Nat) : Int) = 2 from rfl] at b2
  simp only [List.getElem_cons_zero, List.getElem_cons_succ] at c0 d0 c1 d1 c2 d2
  rw [rollcalllaw21_awake.J0, if_pos rfl, hl, show decide (((3 : Nat) : Int) = 3) = true from rfl, rollcalllaw21_awake.J1, if_pos rfl, b0, Option.bind_some, c0, Option.bind_some, d0, Option.bind_some, ksame_wish, Option.bind_some]
  rw [rollcalllaw21_awake.J2, if_pos rfl, b1, Option.bind_some, c1, Option.bind_some, d1, Option.bind_some, ksame_wish, Option.bind_some]
  rw [rollcalllaw21_awake.J3, if_pos rfl, b2, Option.bind_some, c2, Option.bind_some, d2, Option.bind_some, ksame_wish, Option.bind_some, rollcalllaw21_awake.J4]
  have l1 := f1.le
  have l2 := f2.le
  have l3 := f3.le
  have l4 := f4.le
  exact ⟨S5, rfl, (((f1.trans (f2.mono l1)).trans (f3.mono (by omega))).trans (f4.mono (by omega))).trans (f5.mono (by omega))⟩
/-! ### the law -/
theorem law_loop {k : Nat} {xs : List (List UInt8)} {x0 : Sl} {S : HS} (hk : 2000 ≤ k) (hn : xs.length ≤ 20) (hr : S.rows x0 1 = some (xs.map strRow)) (hq : ∀ q, x0.a = some q → q.1 < S.next) :
    ∀ (f i : Nat), xs.length - i < f → i ≤ xs.length → (∀ x ∈ xs.take i, x.length ≤ 100) → ∃ S', rollcalllaw21_WishAsks.L0 k f x0 (i : Int) S = some (true, S') := by
  have hl : x0.len = xs.length := by have := rows_len hr; simpa using this.symm
  intro f
  induction f with
  | zero => intro i h; omega
  | succ f ih =>
    intro i h hi hx
    rw [rollcalllaw21_WishAsks.L0]
    by_cases hlt : i < xs.length
    · obtain ⟨ad, a1, a2⟩ := str_rows hr hlt
      have hi1 : w64 ((i : Int) + 1) = ((i + 1 : Nat) : Int) := by rw [w64_id (by omega) (by omega)]; simp
      rw [if_pos (by omega), a1, Option.bind_some, a2, Option.bind_some]
      by_cases h100 : (xs[i].length : Int) > 100
      · rw [if_pos h100]; exact ⟨S, rfl⟩
      · rw [if_neg h100, hi1]
        refine ih (i + 1) (by omega) (by omega) ?_
        rw [List.take_succ_eq_append_getElem hlt]
        intro x hx'
        rcases List.mem_append.1 hx' with h' | h'
        · exact hx x h'
        · simp at h'; subst h'; omega
    · obtain rfl : i = xs.length := by omega
      rw [List.take_length] at hx
      rw [if_neg (by omega)]
      obtain ⟨o1, S1, e1, v1, f1⟩ := mon_spec (k := k) hk hx hr
      have l1 := f1.le
      have hr1 : S1.rows x0 1 = some (xs.map strRow) := rows_same hr fun q h => f1.eq _ (hq q h)
      obtain ⟨o2, S2, e2, v2, f2⟩ := refMon_spec (k := k) hk hx hr1 (fun q h => by have := hq q h; omega)
      have l2 := f2.le
      have hr2 : S2.rows x0 1 = some (xs.map strRow) := rows_same hr1 fun q h => f2.eq _ (by have := hq q h; omega)
      obtain ⟨o3, S3, e3, v3, f3⟩ := watch_spec (k := k) hk (by omega) hx hr2 (fun q h => by have := hq q h; omega)
      have l3 := f3.le
      have hr3 : S3.rows x0 1 = some (xs.map strRow) := rows_same hr2 fun q h => f3.eq _ (by have := hq q h; omega)
      obtain ⟨o4, S4, e4, v4, f4⟩ := refWatch_spec (k := k) hk (by omega) hx hr3 (fun q h => by have := hq q h; omega)
      have w1 : S4.rows o1 1 = some ((monB xs).2.map strRow) := (((v1.frame f2 (Nat.le_refl _)).frame f3 (Nat.le_refl _)).frame f4 (Nat.le_refl _)).rows
      have w2 : S4.rows o2 1 = some ((monB xs).2.map strRow) := ((v2.frame f3 (Nat.le_refl _)).frame f4 (Nat.le_refl _)).rows
      have w3 : S4.rows o3 2 = some ((watB xs).map wishRow) := (v3.frame f4 (Nat.le_refl _)).rows
      have w4 : S4.rows o4 2 = some ((watB xs).map wishRow) := v4.rows
      have hm : (monB xs).2.length ≤ 1000 := by
        cases xs with
        | nil => simp [monB]
        | cons p r =>
          by_cases hop : sing [43, 45] p = 43 ∨ sing [43, 45] p = 45
          · cases r with
            | nil => simp [monB, hop]
            | cons s r =>
              rw [monB, if_pos hop]
              have a := List.length_filter_le nickB (words s)
              have b := words_len s
              have c : s.count 44 ≤ s.length := List.count_le_length
              have d := hx s (by simp)
              simp only; omega
          · rw [monB_no hop]; simp
      have hwt : (watB xs).length ≤ 1000 := by
        unfold watB; split
        · simp
        · have := flat_len xs; omega
      have hl3 : o3.len = (watB xs).length := by have := rows_len w3; simpa using this.symm
      have hl4 : o4.len = (watB xs).length := by have := rows_len w4; simpa using this.symm
      rw [e1, Option.bind_some, e2, Option.bind_some, e3, Option.bind_some, e4, Option.bind_some, if_neg (by simp), texts_spec hk hm w1 w2, Option.bind_some, rollcalllaw21_WishAsks.J1, if_neg (by simp), hl3, hl4, show (!decide (((watB xs).length : Int) = ((watB xs).length : Int))) = false by simp, rollcalllaw21_WishAsks.J2, if_neg (by simp)]
      exact ⟨S4, asks_loop hwt w3 w4 k 0 (by omega) (Nat.zero_le _)⟩
theorem wishAsks_spec {xs : List (List UInt8)} {x0 : Sl} {S : HS} (hr : Rd S.next S 1 x0 (xs.map strRow)) : ∃ S', rollcalllaw21_WishAsks.f 2000 x0 S = some (true, S') := by
  have hl : x0.len = xs.length := by have := hr.len; simpa using this
  rw [rollcalllaw21_WishAsks.f]
  obtain ⟨S1, e1, f1⟩ := awake_spec (S := S)
  rw [e1, Option.bind_some, if_neg (by simp)]
  by_cases hn : (x0.len : Int) > 20
  · rw [if_pos hn]; exact ⟨_, rfl⟩
  rw [if_neg hn]
  have l1 := f1.le
  exact law_loop (k := 2000) (Nat.le_refl _) (by omega) (hr.frame f1 (Nat.le_refl _)).rows (fun q h => by have := hr.lt q h; omega) 2000 0 (by omega) (Nat.zero_le _) (by simp)
theorem rows_strs : ∀ {rows : List (List HV)}, (∀ row ∈ rows, RowFits [.str] row) → ∃ ls : List (List UInt8), rows = ls.map strRow := by
  intro rows
  induction rows with
  | nil => intro _; exact ⟨[], rfl⟩
  | cons r rows ih =>
    intro h
    obtain ⟨ls, e⟩ := ih fun row hr => h row (by simp [hr])
    have h0 := h r (by simp)
    have hl := h0.len
    obtain ⟨v0, rfl⟩ : ∃ v0, r = [v0] := by
      cases r with
      | nil => simp at hl
      | cons v0 r =>
        cases r with
        | nil => exact ⟨v0, rfl⟩
        | cons v1 r => simp at hl
    obtain ⟨q1, _⟩ := h0
    obtain ⟨n, h1, _⟩ := q1
    exact ⟨n :: ls, by rw [e, h1]; rfl⟩
theorem wishAsks_call (W : World) (β0 : Bt) (S : HS) (s0 : Sl) (rows0 : List (List HV)) (h0 : ArgSl S 1 s0 rows0) (f0 : ∀ row ∈ rows0, RowFits [.str] row) :
    HCall Tryd.prog W.heap.size W β0 3 [s0.hv] S (fun v _ => v = .bool true) := by
  obtain ⟨ls, rfl⟩ := rows_strs f0
  obtain ⟨_, h⟩ := wishAsks_spec h0.rd
  exact (rollcalllaw21_WishAsks.snd h).mono fun _ _ h => h.1
end Go.Proofs.YtcphapfclncggaaDoor.X
