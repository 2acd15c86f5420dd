/- The layer was: WasPlays, plain: whatever went, what is told of it is as the reference says. -/
import Derived.Test.YtlmpmnbljpigiaaWasTop
namespace Go.Proofs.Ytlmpmnbljpigiaa.X
open Go.Proofs.Ytlmpmnbljpigiaa.HL
set_option linter.unusedVariables false

theorem awake_spec {S : HS} {m : Nat} (hm : m ≤ S.next) : ∃ S', rollcalllaw13_awake.f (disp 2000 3) (fun _ => none) 2000 S = some (true, S') ∧ Fr m S S' := by
  unfold rollcalllaw13_awake.f
  obtain ⟨T0, e0, p0, f0⟩ := new_spec (m := S.next) (most := ((2 : Nat) : Int)) (T := S) (by omega) (by omega) (Nat.le_refl _)
  have e0' : was_New_int.f 2 S = some ((some (HA.cell0 S.next), 0), T0) := e0
  rw [e0', Option.bind_some, if_neg (by simp)]
  obtain ⟨T1, x1, n1, e1, p1, r1, f1⟩ := put_spec p0 (Ring.nil 2) (by omega) (by omega) [97] 1
  obtain ⟨T2, x2, n2, e2, p2, r2, f2⟩ := put_spec p1 r1 (by omega) (by omega) [98] 2
  obtain ⟨T3, x3, n3, e3, p3, r3, f3⟩ := put_spec p2 r2 (by omega) (by omega) [65] 3
  simp only [e1, e2, e3, Option.bind_some, letv]
  have hl3 : x3.length = 2 := by have := r3.len; simpa using this
  have hle3 : S.next ≤ T3.next := (((f0.trans f1).trans f2).trans f3).le
  -- both are told
  have hv4 := Vec.lit (n := T3.next) (z := 2) (S := T3) [[.str [65], .int .i64 3], [.str [98], .int .i64 2]] (Nat.le_refl _)
  have f4 : Fr T3.next T3 (T3.lit [[.str [65], .int .i64 3], [.str [98], .int .i64 2]] 2).2 := lit_fr _ (Nat.le_refl _)
  have p4 := p3.frame f4
  have hnames : ∀ x ∈ ((([] ++ [([97], 1)]) ++ [([98], 2)]) ++ [([65], 3)] : List Ent), x.1.length ≤ 1000 := by
    intro x hx
    simp only [List.nil_append, List.cons_append, List.mem_cons, List.not_mem_nil, or_false] at hx
    rcases hx with rfl | rfl | rfl <;> simp
  obtain ⟨T5, e5, f5⟩ := past_same (k := 2000) (fun _ => by omega) (by omega) r3 p4 (by omega) (by omega) hnames (ys := [([65], 3), ([98], 2)]) hv4.rd (by simp) [] true
  have d1 : decide ((if true = true then lastOf 2 ([] ++ [([97], 1)] ++ [([98], 2)] ++ [([65], 3)] : List Ent) else (lastOf 2 ([] ++ [([97], 1)] ++ [([98], 2)] ++ [([65], 3)] : List Ent)).filter (likeName [])) = [([65], 3), ([98], 2)]) = true := by decide
  have d2 : decide ((if false = true then lastOf 2 ([] ++ [([97], 1)] ++ [([98], 2)] ++ [([65], 3)] : List Ent) else (lastOf 2 ([] ++ [([97], 1)] ++ [([98], 2)] ++ [([65], 3)] : List Ent)).filter (likeName [97])) = [([65], 3)]) = true := by decide
  rw [e5, Option.bind_some, d1, if_pos rfl]
  have hv6 := Vec.lit (n := T5.next) (z := 2) (S := T5) [[.str [65], .int .i64 3]] (Nat.le_refl _)
  have f6 : Fr T5.next T5 (T5.lit [[.str [65], .int .i64 3]] 2).2 := lit_fr _ (Nat.le_refl _)
  have p6 := (p4.frame f5).frame f6
  obtain ⟨T7, e7, f7⟩ := past_same (k := 2000) (fun _ => by omega) (by omega) r3 p6 (by omega) (by omega) hnames (ys := [([65], 3)]) hv6.rd (by simp) [97] false
  rw [e7, Option.bind_some, rollcalllaw13_awake.J0, d2]
  have hle5 : T3.next ≤ T5.next := Nat.le_trans f4.le f5.le
  refine ⟨T7, rfl, ?_⟩
  have g3 : Fr S.next S T3 := ((f0.trans f1).trans f2).trans f3
  have hle4 : T3.next ≤ (T3.lit [[.str [65], .int .i64 3], [.str [98], .int .i64 2]] 2).2.next := f4.le
  have hle6 : T5.next ≤ (T5.lit [[.str [65], .int .i64 3]] 2).2.next := f6.le
  exact (g3.mono hm).trans ((((f4.mono (by omega)).trans (f5.mono (by omega))).trans (f6.mono (by omega))).trans (f7.mono (by omega)))

theorem plays_loop {n0 p : Nat} {m : Nat} (hm : m ≤ 100000) {ls : List Ent} {sl : Sl} {nm : List UInt8} (hn : nm.length ≤ 30) (hls : ls.length ≤ 60) : ∀ (f i : Nat) (T : HS) (hist xs : List Ent) (next : Int), ls.length - i < f → i ≤ ls.length → (∀ x ∈ ls.take i, x.1.length ≤ 30) → PastAt n0 p m xs next T → Ring m hist xs next → (0 < m → hist = ls.take i) → (m = 0 → hist = []) → Rd n0 T 2 sl (ls.map pairRow) → n0 ≤ T.next →
    ∃ T', rollcalllaw13_WasPlays.L3 (disp 2000 3) (fun _ => none) 2000 f (m : Int) sl nm (some (HA.cell0 p)) (i : Int) T = some (true, T') := by
  intro f
  induction f with
  | zero => intro i T hist xs next h; omega
  | succ f ih =>
    intro i T hist xs next hf hi hnm hP hR hh h0 hrd hn0
    have hsl : (sl.len : Int) = ls.length := by rw [hrd.len]; simp
    unfold rollcalllaw13_WasPlays.L3
    by_cases hlt : i < ls.length
    · obtain ⟨ad, a1, a2, a3⟩ := pair_rows hrd.rows hlt
      rw [if_pos (by omega), a1, Option.bind_some, a2, Option.bind_some]
      by_cases hl30 : 30 < ls[i].1.length
      · rw [if_pos (by omega)]; exact ⟨_, rfl⟩
      rw [if_neg (by omega), Option.bind_some, a2, Option.bind_some, Option.bind_some, a3, Option.bind_some]
      have htake : ls.take (i + 1) = ls.take i ++ [ls[i]] := List.take_succ_eq_append_getElem hlt
      have hnm2 : ∀ x ∈ ls.take (i + 1), x.1.length ≤ 30 := by
        intro x hx
        rw [htake, List.mem_append] at hx
        rcases hx with hx | hx
        · exact hnm x hx
        · simp at hx; subst hx; omega
      -- what was put
      have hput : ∃ T1 hist1 xs1 next1, was_Past_int_Put.f (some (HA.cell0 p)) ls[i].1 ls[i].2 T = some ((), T1) ∧ PastAt n0 p m xs1 next1 T1 ∧ Ring m hist1 xs1 next1 ∧ (0 < m → hist1 = ls.take (i + 1)) ∧ (m = 0 → hist1 = []) ∧ Fr n0 T T1 := by
        by_cases hm0 : 0 < m
        · obtain ⟨T1, xs1, next1, e, q1, q2, q3⟩ := put_spec hP hR hm0 hm ls[i].1 ls[i].2
          exact ⟨T1, _, xs1, next1, e, q1, q2, fun _ => by rw [hh hm0, htake], fun h => by omega, q3⟩
        · obtain rfl : m = 0 := by omega
          refine ⟨T, hist, xs, next, ?_, hP, hR, fun h => by omega, h0, Fr.refl _ _⟩
          obtain ⟨s, h1, h2, h3⟩ := hP.cell
          have hr := cell_row h1
          rw [was_Past_int_Put.f, if_neg (by simp), Option.bind_some, row_ldI hr rfl rfl, Option.bind_some, was_Past_int_Put.J0, if_pos (by simp)]
      obtain ⟨T1, hist1, xs1, next1, e1, p1, r1, hh1, h01, f1⟩ := hput
      have hlast : lastOf m hist1 = lastOf m (ls.take (i + 1)) := by
        by_cases hm0 : 0 < m
        · rw [hh1 hm0]
        · obtain rfl : m = 0 := by omega
          simp [lastOf]
      have hx1 : xs1.length = min (i + 1) m := by
        have := r1.len
        by_cases hm0 : 0 < m
        · rw [hh1 hm0, List.length_take] at this; omega
        · rw [h01 (by omega)] at this; simp at this; rw [this]; simp; omega
      have hrd1 : Rd n0 T1 2 sl (ls.map pairRow) := hrd.frame f1 (Nat.le_refl _)
      have hn1 : n0 ≤ T1.next := Nat.le_trans hn0 f1.le
      obtain ⟨so, e2, rso⟩ := rd_cut hrd1 (e := i + 1) (by simp; omega)
      rw [← List.map_take] at rso
      have hw : w64 ((i : Int) + 1) = ((i + 1 : Nat) : Int) := by rw [w64_id (by omega) (by omega)]; simp
      have hmn : mn ((i + 1 : Nat) : Int) (m : Int) = (xs1.length : Int) := by rw [hx1]; unfold mn; split <;> omega
      rw [e1, Option.bind_some, hw, e2, Option.bind_some, len_spec p1, Option.bind_some, hmn, if_neg (by simp)]
      have hh2 : ∀ x ∈ hist1, x.1.length ≤ 1000 := by
        intro x hx
        by_cases hm0 : 0 < m
        · rw [hh1 hm0] at hx; have := hnm2 x hx; omega
        · rw [h01 (by omega)] at hx; simp at hx
      have hh3 : ∀ x ∈ ls.take (i + 1), x.1.length ≤ 1000 := fun x hx => by have := hnm2 x hx; omega
      have hm1 : 0 < xs1.length → 0 < m := fun h => by rw [hx1] at h; omega
      have ht : (ls.take (i + 1)).length ≤ 60 := by rw [List.length_take]; omega
      have hfl : ∀ (al : Bool) (nn : List UInt8), (flt al nn (lastOf m (ls.take (i + 1)))).length ≤ 1000000 := by
        intro al nn
        have h1 : (lastOf m (ls.take (i + 1))).length ≤ 60 := by rw [lastOf, List.length_take, List.length_reverse]; omega
        unfold flt; split
        · omega
        · have := List.length_filter_le (likeName nn) (lastOf m (ls.take (i + 1))); omega
      -- all of it
      obtain ⟨w2, T2, e3, v2, f2⟩ := last_spec (k := 2000) (m := m) (nm := []) (all := true) (by omega) hm (by omega) (by simp) hh3 (rso.mono hn1)
      have p2 := p1.frame f2
      obtain ⟨T3, e4, f3⟩ := past_same (k := 2000) hm1 hm r1 p2 (by omega) (by omega) hh2 v2.rd (hfl _ _) [] true
      rw [e3, Option.bind_some, e4, Option.bind_some]
      have hok1 : decide ((if true = true then lastOf m hist1 else (lastOf m hist1).filter (likeName [])) = flt true [] (lastOf m (ls.take (i + 1)))) = true := by simp [flt, hlast]
      rw [hok1, rollcalllaw13_WasPlays.J4, if_neg (by simp)]
      -- by name
      have p3 := p2.frame f3
      have hn3 : T1.next ≤ T3.next := Nat.le_trans f2.le f3.le
      have rso3 : Rd T3.next T3 2 so ((ls.take (i + 1)).map pairRow) := (((rso.mono hn1).frame f2 (Nat.le_refl _)).frame f3 f2.le).mono hn3
      obtain ⟨w4, T4, e5, v4, f4⟩ := last_spec (k := 2000) (m := m) (nm := nm) (all := false) (by omega) hm (by omega) (by omega) hh3 rso3
      have p4 := p3.frame f4
      obtain ⟨T5, e6, f5⟩ := past_same (k := 2000) hm1 hm r1 p4 (by omega) (by omega) hh2 v4.rd (hfl _ _) nm false
      rw [e5, Option.bind_some, e6, Option.bind_some]
      have hok2 : decide ((if false = true then lastOf m hist1 else (lastOf m hist1).filter (likeName nm)) = flt false nm (lastOf m (ls.take (i + 1)))) = true := by simp [flt, hlast]
      rw [hok2, rollcalllaw13_WasPlays.J5, if_neg (by simp), hw]
      have hf15 : Fr n0 T1 T5 := (((f2.mono hn1).trans (f3.mono (Nat.le_trans hn1 f2.le))).trans (f4.mono (Nat.le_trans hn1 hn3))).trans (f5.mono (Nat.le_trans (Nat.le_trans hn1 hn3) f4.le))
      exact ih (i + 1) T5 hist1 xs1 next1 (by omega) (by omega) hnm2 (p4.frame f5) r1 hh1 h01 (hrd1.frame hf15 (Nat.le_refl _)) (Nat.le_trans hn1 hf15.le)
    · rw [if_neg (by omega)]
      exact ⟨_, rfl⟩

theorem wasPlays_law {S : HS} {sl : Sl} {ls : List Ent} (hrd : Rd S.next S 2 sl (ls.map pairRow)) (most : Int) (nm : List UInt8) : ∃ S', rollcalllaw13_WasPlays.f (disp 2000 3) (fun _ => none) 2000 most sl nm S = some (true, S') := by
  unfold rollcalllaw13_WasPlays.f
  obtain ⟨S1, e1, f1⟩ := awake_spec (S := S) (m := S.next) (Nat.le_refl _)
  have hsl : (sl.len : Int) = ls.length := by rw [hrd.len]; simp
  rw [e1, Option.bind_some, if_neg (by simp), hsl]
  have ht : ∀ S, rollcalllaw13_WasPlays.J0 (disp 2000 3) (fun _ => none) 2000 most sl nm true S = some (true, S) := fun S => by rw [rollcalllaw13_WasPlays.J0, if_pos rfl]
  by_cases hl : 60 < ls.length
  · rw [if_pos (by omega)]; exact ⟨_, ht _⟩
  rw [if_neg (by omega)]
  by_cases hn : 30 < nm.length
  · rw [show decide ((nm.length : Int) > 30) = true by simp; omega]; exact ⟨_, ht _⟩
  rw [show decide ((nm.length : Int) > 30) = false by simp; omega, rollcalllaw13_WasPlays.J0, if_neg (by simp)]
  by_cases hneg : most < 0
  · rw [was_New_int.f, if_pos hneg, was_New_int.J0, if_pos rfl, Option.bind_some, if_pos hneg, rollcalllaw13_WasPlays.J1, if_pos rfl, if_pos rfl, rollcalllaw13_WasPlays.J2]
    exact ⟨_, rfl⟩
  by_cases hbig : most > 100000
  · rw [was_New_int.f, if_neg hneg, show decide (most > 100000) = true by simp; omega, was_New_int.J0, if_pos rfl, Option.bind_some, if_neg hneg, rollcalllaw13_WasPlays.J1, if_pos rfl, if_pos rfl, rollcalllaw13_WasPlays.J2]
    exact ⟨_, rfl⟩
  obtain ⟨m, rfl⟩ : ∃ m : Nat, most = (m : Int) := ⟨most.toNat, by omega⟩
  obtain ⟨T, e2, p2, f2⟩ := new_spec (m := S1.next) (most := (m : Int)) (T := S1) (by omega) (by omega) (Nat.le_refl _)
  rw [e2, Option.bind_some, if_neg hneg, show decide ((m : Int) > 100000) = false by simp; omega, rollcalllaw13_WasPlays.J1, if_neg (by simp), if_neg (by simp)]
  exact plays_loop (n0 := S1.next) (by omega) (by omega) (by omega) 2000 0 T [] [] 0 (by omega) (by omega) (by simp) p2 (Ring.nil m) (fun _ => by simp) (fun _ => rfl) (((hrd.frame f1 (Nat.le_refl _)).mono f1.le).frame f2 (Nat.le_refl _)) f2.le

theorem rows_pairs : ∀ {rows : List (List HV)}, (∀ row ∈ rows, RowFits [.str, .int .i64] row) → ∃ ls : List Ent, rows = ls.map pairRow := by
  intro rows
  induction rows with
  | nil => intro _; exact ⟨[], rfl⟩
  | cons r rows ih =>
    intro h
    obtain ⟨ls, e⟩ := ih fun row hr => h row (by simp [hr])
    have h0 := h r (by simp)
    have hl := h0.len
    obtain ⟨v0, v1, rfl⟩ : ∃ v0 v1, r = [v0, v1] := by
      cases r with
      | nil => simp at hl
      | cons v0 r =>
        cases r with
        | nil => simp at hl
        | cons v1 r =>
          cases r with
          | nil => exact ⟨v0, v1, rfl⟩
          | cons v2 r => simp at hl
    obtain ⟨q1, q2, _⟩ := h0
    obtain ⟨s, h1, _⟩ := q1
    obtain ⟨n, h2, _⟩ := q2
    exact ⟨(s, n) :: ls, by rw [e, h1, h2]; rfl⟩
set_option maxRecDepth 20000 in
theorem wasPlays_call (W : World) (β0 : Bt) (S : HS) (x0 : Int) (w0 : (Lit.int .i64 x0).wf = true) (s1 : Sl) (rows1 : List (List HV)) (h1 : ArgSl S 2 s1 rows1) (f1 : ∀ row ∈ rows1, RowFits [.str, .int .i64] row) (x2 : List UInt8) :
    HCall Try.prog W.heap.size W β0 3 [.int .i64 x0, s1.hv, .str x2] S (fun v _ => v = .bool true) := by
  obtain ⟨ls, rfl⟩ := rows_pairs f1
  obtain ⟨_, h⟩ := wasPlays_law h1.rd x0 x2
  exact (rollcalllaw13_WasPlays.snd (disp_snd 3) (fun _ _ h => by cases h) h).mono fun _ _ h => h.1
end Go.Proofs.Ytlmpmnbljpigiaa.X
