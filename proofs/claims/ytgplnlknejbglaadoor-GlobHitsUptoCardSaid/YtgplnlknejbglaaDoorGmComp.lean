/- The layer glob: whole masks, plain. -/
import Derived.Test.YtgplnlknejbglaaDoorGmBase
namespace Go.Proofs.YtgplnlknejbglaaDoor.X
open Go.Proofs.YtgplnlknejbglaaDoor.HL
set_option linter.unusedVariables false
theorem A0 : (rollcalllaw04_awake.f 200000 S0).map (fun p => p.1) = some true := by kernel_rfl
theorem awake_run : ∃ S1, rollcalllaw04_awake.f 200000 S0 = some (true, S1) := by
  have h := A0
  cases hc : rollcalllaw04_awake.f 200000 S0 with
  | none => rw [hc] at h; cases h
  | some p =>
    rw [hc] at h
    obtain ⟨b, S1⟩ := p
    cases h
    exact ⟨S1, rfl⟩
def gv (s : List UInt8) : List UInt8 := if s = [] then [42] else s
def whole (n u h : List UInt8) : List UInt8 := (((gv n ++ [33]) ++ gv u) ++ [64]) ++ gv h
theorem given_eq (s : List UInt8) : glob_given.f s = some (gv s) := by unfold glob_given.f gv; split <;> rfl
theorem star_eq (s : List UInt8) : rollcallref04_star.f s = some (gv s) := by unfold rollcallref04_star.f gv; split <;> rfl
theorem gv_len (s : List UInt8) : (gv s).length ≤ s.length + 1 := by unfold gv; split <;> simp
theorem gv_ne (s : List UInt8) : gv s ≠ [] := by unfold gv; split <;> simp_all
theorem gv_gv (s : List UInt8) : gv (gv s) = gv s := by
  have h : ∀ t : List UInt8, t ≠ [] → gv t = t := fun t ht => by unfold gv; rw [if_neg ht]
  exact h _ (gv_ne s)
theorem gv_of {s : List UInt8} (h : s ≠ []) : gv s = s := by unfold gv; rw [if_neg h]
theorem gv_mem {s : List UInt8} {c : UInt8} (hc : c ≠ 42) (h : c ∉ s) : c ∉ gv s := by
  unfold gv; split
  · simp [hc]
  · exact h
/-- A mask's parts: the nickname and what is behind it. -/
inductive Parts : List UInt8 → List UInt8 → List UInt8 → List UInt8 → Prop
  | bang {n u h : List UInt8} (h1 : 33 ∉ n) (h2 : 64 ∉ n) (h3 : 64 ∉ u) : Parts (n ++ 33 :: (u ++ 64 :: h)) n u h
  | bangNo {n u : List UInt8} (h1 : 33 ∉ n) (h2 : 64 ∉ n) (h3 : 64 ∉ u) : Parts (n ++ 33 :: u) n u []
  | at_ {u h : List UInt8} (h1 : 64 ∉ u) (h2 : 33 ∉ u) : Parts (u ++ 64 :: h) [] u h
  | nick {n : List UInt8} (h1 : 33 ∉ n) (h2 : 64 ∉ n) : Parts n n [] []
theorem parts_ex (s : List UInt8) : ∃ n u h, Parts s n u h := by
  rcases view 33 s with h1 | ⟨a, b, rfl, h1⟩
  · rcases view 64 s with h2 | ⟨c, d, rfl, h2⟩
    · exact ⟨s, [], [], .nick h1 h2⟩
    · exact ⟨[], c, d, .at_ h2 (fun h => h1 (by simp [h]))⟩
  · rcases view 64 a with h2 | ⟨c, d, rfl, h2⟩
    · rcases view 64 b with h3 | ⟨c, d, rfl, h3⟩
      · exact ⟨a, b, [], .bangNo h1 h2 h3⟩
      · exact ⟨a, c, d, .bang h1 h2 h3⟩
    · refine ⟨[], c, d ++ 33 :: b, ?_⟩
      have := Parts.at_ (u := c) (h := d ++ 33 :: b) h2 (fun h => h1 (by simp [h]))
      simpa using this
theorem j2_spec {k : Nat} {n r u h : List UInt8} {S : HS} (hl : n.length + u.length + h.length ≤ 1000) (hc : ∃ b, strings_Cut.f k r [64] S = some ((u, h, b), S)) : glob_Complete.J2 k n r S = some (whole n u h, S) := by
  obtain ⟨b, hc⟩ := hc
  have l1 := gv_len n; have l2 := gv_len u; have l3 := gv_len h
  rw [glob_Complete.J2, hc, Option.bind_some, given_eq, Option.bind_some, if_pos (by simp; omega), given_eq, Option.bind_some, if_pos (by simp; omega), if_pos (by simp; omega), given_eq, Option.bind_some, if_pos (by simp; omega)]
  rfl
theorem ixB (s : List UInt8) (c : UInt8) : strings_IndexByte.f s (c.toNat : Int) = some (Lib.indexByte s c) := by
  unfold strings_IndexByte.f internal_stringslite_IndexByte.f
  rw [Option.bind_some, bidx_eq]
theorem sub_head {a b : List UInt8} {e : Int} (he : e = (a.length : Int)) : ssub (a ++ b) 0 e = a := by subst he; simp [ssub]
theorem sub_tail {a b : List UInt8} {c : UInt8} (hl : (a ++ c :: b).length ≤ 100000) : ssub (a ++ c :: b) (w64 ((a.length : Int) + 1)) ((a ++ c :: b).length : Int) = b := by
  have e : w64 ((a.length : Int) + 1) = ((a.length + 1 : Nat) : Int) := by simp at hl; rw [w64_id (by omega) (by omega)]; simp
  rw [e]
  simp only [ssub, Int.toNat_natCast]
  have e1 : (a ++ c :: b).drop (a.length + 1) = b := by simp [List.drop_append]
  rw [e1]
  exact List.take_of_length_le (by simp; omega)
theorem complete_spec {k : Nat} {s n u h : List UInt8} {S : HS} (hp : Parts s n u h) (hl : s.length ≤ 900) : glob_Complete.f k s S = some (whole n u h, S) := by
  unfold glob_Complete.f
  have i33 := ixB s 33
  have i64 := ixB s 64
  simp only [show ((33 : UInt8).toNat : Int) = 33 from rfl, show ((64 : UInt8).toNat : Int) = 64 from rfl] at i33 i64
  rw [i33, Option.bind_some, i64, Option.bind_some]
  have hb : ∀ {n r u h : List UInt8}, 33 ∉ n → 64 ∉ n → s = n ++ 33 :: r → (∃ b, strings_Cut.f k r [64] S = some ((u, h, b), S)) → n.length + u.length + h.length ≤ 1000 →
      (if Lib.indexByte s 33 ≥ 0 then (if Lib.indexByte s 64 < 0 then glob_Complete.J0 k s s [] (Lib.indexByte s 33) (Lib.indexByte s 64) (decide (Lib.indexByte s 33 ≥ 0)) true S else glob_Complete.J0 k s s [] (Lib.indexByte s 33) (Lib.indexByte s 64) (decide (Lib.indexByte s 33 ≥ 0)) (decide (Lib.indexByte s 33 < Lib.indexByte s 64)) S) else glob_Complete.J1 k s s [] (Lib.indexByte s 33) (Lib.indexByte s 64) false S) = some (whole n u h, S) := by
    intro n r u h h1 h2 hs hc hl2
    have e33 : Lib.indexByte s 33 = n.length := by rw [hs, ixb_some h1]
    have hj : glob_Complete.J1 k s s [] (n.length : Int) (Lib.indexByte s 64) true S = some (whole n u h, S) := by
      have hls : s.length = n.length + (r.length + 1) := by rw [hs]; simp
      have e : w64 ((n.length : Int) + 1) = ((n.length + 1 : Nat) : Int) := by rw [w64_id (by omega) (by omega)]; simp
      have t1 : ssub s 0 (n.length : Int) = n := by rw [hs]; exact sub_head rfl
      have t2 : ssub s (w64 ((n.length : Int) + 1)) (s.length : Int) = r := by
        have := sub_tail (a := n) (b := r) (c := 33) (by rw [← hs]; omega)
        rw [← hs] at this; exact this
      rw [glob_Complete.J1, if_pos rfl, if_pos ⟨by omega, by omega, by omega⟩, if_pos ⟨by rw [e]; omega, by rw [e]; omega, by omega⟩, t1, t2]
      exact j2_spec hl2 hc
    rw [e33, if_pos (by omega)]
    by_cases h64 : Lib.indexByte s 64 < 0
    · rw [if_pos h64, glob_Complete.J0, if_pos (by simp), hj]
    · rw [if_neg h64, glob_Complete.J0, if_pos (by simp)]
      have : (n.length : Int) < Lib.indexByte s 64 := by
        rcases view 64 r with g | ⟨a, b, rfl, g⟩
        · exact absurd (by rw [ixb_none (by rw [hs]; simp [h2, g])]; decide) h64
        · have : s = (n ++ 33 :: a) ++ 64 :: b := by rw [hs]; simp
          rw [this, ixb_some (by simp [h2, g])]
          simp; omega
      rw [decide_eq_true this, hj]
  cases hp with
  | bang h1 h2 h3 =>
    simp at hl
    exact hb h1 h2 rfl ⟨true, cut_some h3 (by omega)⟩ (by omega)
  | bangNo h1 h2 h3 =>
    simp at hl
    exact hb h1 h2 rfl ⟨false, cut_none h3⟩ (by simp; omega)
  | at_ h1 h2 =>
    simp at hl
    have e64 : Lib.indexByte (u ++ 64 :: h) 64 = u.length := ixb_some h1
    have hj : glob_Complete.J1 k (u ++ 64 :: h) (u ++ 64 :: h) [] (Lib.indexByte (u ++ 64 :: h) 33) (u.length : Int) false S = some (whole [] u h, S) := by
      rw [glob_Complete.J1, if_neg (by simp), if_pos (by omega)]
      exact j2_spec (by simp; omega) ⟨true, cut_some h1 (by omega)⟩
    rw [e64]
    by_cases h33 : Lib.indexByte (u ++ 64 :: h) 33 ≥ 0
    · have : ¬ Lib.indexByte (u ++ 64 :: h) 33 < (u.length : Int) := by
        rcases view 33 h with g | ⟨a, b, rfl, g⟩
        · exact absurd h33 (by rw [ixb_none (by simp [h2, g])]; decide)
        · have : u ++ 64 :: (a ++ 33 :: b) = (u ++ 64 :: a) ++ 33 :: b := by simp
          rw [this, ixb_some (by simp [h2, g])]
          simp; omega
      rw [if_pos h33, if_neg (by omega), decide_eq_false this, glob_Complete.J0, if_pos (by simpa using h33), hj]
    · rw [if_neg h33, hj]
  | nick h1 h2 =>
    have : ¬ Lib.indexByte s 33 ≥ 0 := by rw [ixb_none h1]; decide
    rw [if_neg this, glob_Complete.J1, if_neg (by simp), ixb_none h2, if_neg (by decide)]
    exact j2_spec (by simp; omega) ⟨false, cut_none (by simp)⟩
/-! ### the document's answer -/
theorem rI0 {k : Nat} {s : List UInt8} {c : UInt8} (hl : s.length ≤ 100000) (hk : 100001 ≤ k) : rollcallref04_index.f k s (c.toNat : Int) 0 = some (Lib.indexByte s c) := by
  have := ref_index (k := k) (c := c) hl k 0 (by omega) (Nat.zero_le _)
  rw [rollcallref04_index.f]
  simp only [Int.natCast_zero, List.drop_zero] at this
  rw [this]
  split
  · simp
  · rename_i h; rw [ixb_none h]
theorem r3_spec {k : Nat} {n u h : List UInt8} (hl : n.length + u.length + h.length ≤ 1000) : rollcallref04_Complete.J3 k n u h = some (whole n u h) := by
  have l1 := gv_len n; have l2 := gv_len u; have l3 := gv_len h
  rw [rollcallref04_Complete.J3, star_eq, Option.bind_some, if_pos (by simp; omega), star_eq, Option.bind_some, if_pos (by simp; omega), if_pos (by simp; omega), star_eq, Option.bind_some, if_pos (by simp; omega)]
  rfl
theorem sub_from {p r : List UInt8} : ssub (p ++ r) (p.length : Int) ((p ++ r).length : Int) = r := by
  simp only [ssub, Int.toNat_natCast, List.drop_left]
  exact List.take_of_length_le (by simp)
theorem r2_some {k : Nat} {n p u h : List UInt8} (hl : n.length + (p ++ (u ++ 64 :: h)).length ≤ 1000) (hk : 100001 ≤ k) (hu : 64 ∉ u) : rollcallref04_Complete.J2 k (p ++ (u ++ 64 :: h)) n [] [] (p.length : Int) = some (whole n u h) := by
  have hi := ref_some (k := k) (p := p) (a := u) (b := h) (c := 64) (by omega) hk hu
  simp only [show ((64 : UInt8).toNat : Int) = 64 from rfl] at hi
  simp at hl
  have e : w64 (((p.length + u.length : Nat) : Int) + 1) = ((p.length + u.length + 1 : Nat) : Int) := by rw [w64_id (by omega) (by omega)]; simp
  have t1 : ssub (p ++ (u ++ 64 :: h)) (p.length : Int) ((p.length + u.length : Nat) : Int) = u := by
    simp only [ssub, Int.toNat_natCast, List.drop_left, Nat.add_sub_cancel_left]
    simp
  have t2 : ssub (p ++ (u ++ 64 :: h)) (w64 (((p.length + u.length : Nat) : Int) + 1)) ((p ++ (u ++ 64 :: h)).length : Int) = h := by
    rw [e]
    simp only [ssub, Int.toNat_natCast]
    have : p ++ (u ++ 64 :: h) = (p ++ u ++ [64]) ++ h := by simp
    rw [this, show p.length + u.length + 1 = (p ++ u ++ [64]).length by simp; omega, List.drop_left]
    exact List.take_of_length_le (by simp; omega)
  rw [rollcallref04_Complete.J2, if_pos (by omega), hi, Option.bind_some, if_neg (by omega), if_pos ⟨by omega, by omega, by simp; omega⟩, if_pos ⟨by rw [e]; omega, by rw [e]; simp; omega, by omega⟩, t1, t2]
  exact r3_spec (by omega)
theorem r2_none {k : Nat} {n p u : List UInt8} (hl : n.length + (p ++ u).length ≤ 1000) (hk : 100001 ≤ k) (hu : 64 ∉ u) : rollcallref04_Complete.J2 k (p ++ u) n [] [] (p.length : Int) = some (whole n u []) := by
  have hi := ref_none (k := k) (s := p ++ u) (c := 64) (i := p.length) (by omega) hk (by simp) (by simpa using hu)
  simp only [show ((64 : UInt8).toNat : Int) = 64 from rfl] at hi
  rw [rollcallref04_Complete.J2, if_pos (by omega), hi, Option.bind_some, if_pos (by omega), if_pos ⟨by omega, by simp; omega, by omega⟩, sub_from]
  simp at hl
  exact r3_spec (by simp; omega)
theorem refComplete_spec {k : Nat} {s n u h : List UInt8} (hp : Parts s n u h) (hl : s.length ≤ 400) (hk : 100001 ≤ k) : rollcallref04_Complete.f k s = some (whole n u h) := by
  unfold rollcallref04_Complete.f
  have i33 := rI0 (k := k) (s := s) (c := 33) (by omega) hk
  have i64 := rI0 (k := k) (s := s) (c := 64) (by omega) hk
  simp only [show ((33 : UInt8).toNat : Int) = 33 from rfl, show ((64 : UInt8).toNat : Int) = 64 from rfl] at i33 i64
  rw [i33, Option.bind_some, i64, Option.bind_some]
  have hb : ∀ {n r u h : List UInt8}, 33 ∉ n → 64 ∉ n → s = n ++ 33 :: r → (rollcallref04_Complete.J2 k ((n ++ [33]) ++ r) n [] [] ((n ++ [33]).length : Int) = some (whole n u h)) →
      (if Lib.indexByte s 33 ≥ 0 then (if Lib.indexByte s 64 < 0 then rollcallref04_Complete.J0 k s (Lib.indexByte s 33) (Lib.indexByte s 64) s [] [] (-1) (decide (Lib.indexByte s 33 ≥ 0)) true else rollcallref04_Complete.J0 k s (Lib.indexByte s 33) (Lib.indexByte s 64) s [] [] (-1) (decide (Lib.indexByte s 33 ≥ 0)) (decide (Lib.indexByte s 33 < Lib.indexByte s 64))) else rollcallref04_Complete.J1 k s (Lib.indexByte s 33) (Lib.indexByte s 64) s [] [] (-1) false) = some (whole n u h) := by
    intro n r u h h1 h2 hs hc
    have e33 : Lib.indexByte s 33 = n.length := by rw [hs, ixb_some h1]
    have hj : rollcallref04_Complete.J1 k s (n.length : Int) (Lib.indexByte s 64) s [] [] (-1) true = some (whole n u h) := by
      have hls : s.length = n.length + (r.length + 1) := by rw [hs]; simp
      have e : w64 ((n.length : Int) + 1) = ((n ++ [33]).length : Int) := by rw [w64_id (by omega) (by omega)]; simp
      have t1 : ssub s 0 (n.length : Int) = n := by rw [hs]; exact sub_head rfl
      rw [rollcallref04_Complete.J1, if_pos rfl, if_pos ⟨by omega, by omega, by omega⟩, t1, e]
      have : s = (n ++ [33]) ++ r := by rw [hs]; simp
      rw [this]; exact hc
    rw [e33, if_pos (by omega)]
    by_cases h64 : Lib.indexByte s 64 < 0
    · rw [if_pos h64, rollcallref04_Complete.J0, if_pos (by simp), hj]
    · rw [if_neg h64, rollcallref04_Complete.J0, if_pos (by simp)]
      have : (n.length : Int) < Lib.indexByte s 64 := by
        rcases view 64 r with g | ⟨a, b, rfl, g⟩
        · exact absurd (by rw [ixb_none (by rw [hs]; simp [h2, g])]; decide) h64
        · have : s = (n ++ 33 :: a) ++ 64 :: b := by rw [hs]; simp
          rw [this, ixb_some (by simp [h2, g])]
          simp; omega
      rw [decide_eq_true this, hj]
  cases hp with
  | bang h1 h2 h3 => exact hb h1 h2 rfl (r2_some (by simp at hl ⊢; omega) hk h3)
  | bangNo h1 h2 h3 => exact hb h1 h2 rfl (r2_none (by simp at hl ⊢; omega) hk h3)
  | at_ h1 h2 =>
    have e64 : Lib.indexByte (u ++ 64 :: h) 64 = u.length := ixb_some h1
    have hj : rollcallref04_Complete.J1 k (u ++ 64 :: h) (Lib.indexByte (u ++ 64 :: h) 33) (u.length : Int) (u ++ 64 :: h) [] [] (-1) false = some (whole [] u h) := by
      rw [rollcallref04_Complete.J1, if_neg (by simp), if_pos (by omega)]
      exact r2_some (p := []) (by simp at hl ⊢; omega) hk h1
    rw [e64]
    by_cases h33 : Lib.indexByte (u ++ 64 :: h) 33 ≥ 0
    · have : ¬ Lib.indexByte (u ++ 64 :: h) 33 < (u.length : Int) := by
        rcases view 33 h with g | ⟨a, b, rfl, g⟩
        · exact absurd h33 (by rw [ixb_none (by simp [h2, g])]; decide)
        · have : u ++ 64 :: (a ++ 33 :: b) = (u ++ 64 :: a) ++ 33 :: b := by simp
          rw [this, ixb_some (by simp [h2, g])]
          simp; omega
      rw [if_pos h33, if_neg (by omega), decide_eq_false this, rollcallref04_Complete.J0, if_pos (by simpa using h33), hj]
    · rw [if_neg h33, hj]
  | nick h1 h2 =>
    have : ¬ Lib.indexByte s 33 ≥ 0 := by rw [ixb_none h1]; decide
    rw [if_neg this, rollcallref04_Complete.J1, if_neg (by simp), ixb_none h2, if_neg (by decide), rollcallref04_Complete.J2, if_neg (by decide)]
    exact r3_spec (by simp; omega)
end Go.Proofs.YtgplnlknejbglaaDoor.X
