/- The layer set: SetUnions, its gathering, plain. -/
import Derived.Test.YtpdainofeaombaaSuLaw2
namespace Go.Proofs.Ytpdainofeaombaa.X
open Go.Proofs.Ytpdainofeaombaa.HL
set_option linter.unusedVariables false
set_option maxRecDepth 100000
namespace KI
theorem gather_loop {g : Nat} {y0 : Sl} {x : Int} {sls : List Sl} {vals : List (List Ky)} (hvl : vals.length ≤ 10) :
    ∀ f i (T : HS) (y5 y6 : Sl) (ps : List Nat) (xss : List (List Ky)), vals.length + 1 - i < f → i ≤ vals.length → (∀ j (h : j < vals.length), j < i → vals[j].length ≤ 20) → Giv g y0 sls vals T → Gat g i y5 y6 ps vals xss T → g ≤ T.next →
      ∃ S', rollcalllaw10_SetUnions.L0 (disp 2000 4) (fun _ => none) 2000 f y0 x y5 y6 (i : Int) T = some (true, S') := by
  intro f
  induction f with
  | zero => intro i T y5 y6 ps xss h; omega
  | succ f ih =>
    intro i T y5 y6 ps xss hf hi h20 hG hA hg
    have hsl := hG.len
    have hy0 : (y0.len : Int) = vals.length := by rw [← rows_len hG.rows]; simp [hsl]
    by_cases hlt : i < vals.length
    · obtain ⟨ad, a1, a2⟩ := hG.at_ (j := i) (by omega)
      obtain ⟨hr, hrl⟩ := hG.inn i (by omega) hlt
      have hl : (sls[i].len : Int) = vals[i].length := by rw [← rows_len hr]; simp
      rw [rollcalllaw10_SetUnions.L0, hy0, if_pos (by omega), a1, Option.bind_some, a2, Option.bind_some, hl]
      by_cases h21 : vals[i].length > 20
      · rw [if_pos (by omega)]; exact ⟨T, rfl⟩
      · rw [if_neg (by omega), Option.bind_some, a2, Option.bind_some, hr, Option.bind_some]
        have hfl : (vals.take i).flatten.length ≤ 20 * 10 := by
          have := flat_len (vals := vals.take i) (fun v hv => by
            obtain ⟨j, hj, rfl⟩ := List.getElem_of_mem hv
            rw [List.length_take] at hj
            rw [List.getElem_take]
            exact h20 j (by omega) (by omega))
          rw [List.length_take] at this
          omega
        obtain ⟨y5', T1, e1, v1, f1, k1, q1⟩ := hA.v5.app2 (new := vals[i].map row1) hg (by simp only [List.length_map]; omega)
        have le1 := f1.le
        have hG1 := hG.fr (S' := T1) (fun id hid => f1.eq id hid)
        obtain ⟨ad', b1, b2⟩ := hG1.at_ (j := i) (by omega)
        have hr1 := (hG1.inn i (by omega) hlt).1
        obtain ⟨s', xs', T2, e2, i2, f2, o2, m2, c2⟩ := of_spec (k := 2000) (sl := sls[i]) (ls := vals[i]) (S := T1) (Nat.le_refl _) ⟨hr1, fun q hq => by have := hrl q hq; omega⟩ (by omega)
        have le2 := f2.le
        have fl : Fr T2.next T2 (T2.lit [[.ptr (some (HA.cell0 T1.next))]] 1).2 := lit_fr _ (Nat.le_refl _)
        have rl : (T2.lit [[.ptr (some (HA.cell0 T1.next))]] 1).2.rows (T2.lit [[.ptr (some (HA.cell0 T1.next))]] 1).1 1 = some [[.ptr (some (HA.cell0 T1.next))]] := (Vec.lit (n := 0) (z := 1) (S := T2) _ (Nat.zero_le _)).rows
        have nl : (T2.lit [[.ptr (some (HA.cell0 T1.next))]] 1).2.next = T2.next + 1 := rfl
        rw [e1, Option.bind_some]
        simp only
        rw [b1, Option.bind_some, b2, Option.bind_some, e2, Option.bind_some, letv]
        simp only
        generalize T2.lit [[.ptr (some (HA.cell0 T1.next))]] 1 = P at fl rl nl ⊢
        obtain ⟨sl, T3⟩ := P
        simp only at fl rl nl ⊢
        -- what stands behind the first append
        have w6 : Vec g T1 1 y6 ((ps.map some).map ptrRow) := vec_keep hA.v6 (fun q hq => k1 q.1 (hA.v6.lo q hq).2 (fun q' hq' => hA.ne q' q hq' hq)) le1
        have w6' := (w6.frame f2 (Nat.le_refl _)).frame fl (Nat.le_refl _)
        have hl1 := hA.l1
        have hl2 := hA.l2
        obtain ⟨y6', T4, e4, v4, f4, k4, q4⟩ := w6'.app2 (new := [[.ptr (some (HA.cell0 T1.next))]]) (by omega) (by simp; omega)
        have le4 := f4.le
        rw [rl, Option.bind_some, e4, Option.bind_some, w64_id (by omega) (by omega), show ((i : Int) + 1) = ((i + 1 : Nat) : Int) by simp]
        have e5 : (vals.take (i + 1)).flatten = (vals.take i).flatten ++ vals[i] := by rw [List.take_succ_eq_append_getElem hlt, List.flatten_append]; simp
        have hlo6 := w6.lo
        have hlo5 := v1.lo
        have hne5 : ∀ q q', y5'.a = some q → y6.a = some q' → q.1 ≠ q'.1 := fun q q' h1 h2 => by
          rcases q1 q h1 with g1 | ⟨q0, g1, g2⟩
          · have := (hA.v6.lo q' h2).2; omega
          · rw [← g2]; exact hA.ne q0 q' g1 h2
        refine ih (i + 1) T4 y5' y6' (ps ++ [T1.next]) (xss ++ [xs']) (by omega) (by omega) (fun j hj hji => ?_) (hG1.fr fun id hid => by rw [f4.eq id hid, fl.eq id (by omega), f2.eq id (by omega)]) ⟨?_, ?_, by simp [hl1], by simp [hl2], fun j h1 h2 h3 => ?_, fun q q' h1 h2 => ?_⟩ (by omega)
        · rcases Nat.lt_or_ge j i with g1 | g1
          · exact h20 j hj g1
          · obtain rfl : j = i := by omega
            omega
        · rw [e5, List.map_append]
          refine vec_keep v1 (fun q hq => ?_) (by omega)
          have := (hlo5 q hq).2
          rw [k4 q.1 (by omega) (fun q' hq' e => hne5 q q' hq hq' e.symm), fl.eq _ (by omega), f2.eq _ this]
        · have : ((ps ++ [T1.next]).map some).map ptrRow = (ps.map some).map ptrRow ++ [[.ptr (some (HA.cell0 T1.next))]] := by simp [ptrRow]
          rw [this]; exact v4
        · have hq6 : ∀ q, y6'.a = some q → T3.next ≤ q.1 ∨ ∃ q0, y6.a = some q0 ∧ q0.1 = q.1 := q4
          rcases Nat.lt_or_ge j i with g1 | g1
          · simp only [List.getElem_append_left (show j < ps.length by omega), List.getElem_append_left (show j < xss.length by omega)]
            obtain ⟨s, p1, p2, p3, p4⟩ := hA.set j (by omega) (by omega) h3
            have hold : ∀ id, Own ps[j] s id → T4.heap id = T.heap id := fun id ho => by
              have := p1.lt ho
              obtain ⟨p5, p6, p7⟩ := p4 id ho
              rw [k4 id (by omega) p7, fl.eq id (by omega), f2.eq id (by omega), k1 id (by omega) p6]
            refine ⟨s, p1.keep hold (by omega), p2, p3, fun id ho => ⟨(p4 id ho).1, fun q hq => ?_, fun q hq => ?_⟩⟩
            · have := p1.lt ho
              rcases q1 q hq with g2 | ⟨q0, g2, g3⟩
              · omega
              · rw [← g3]; exact (p4 id ho).2.1 q0 g2
            · have := p1.lt ho
              rcases hq6 q hq with g2 | ⟨q0, g2, g3⟩
              · omega
              · rw [← g3]; exact (p4 id ho).2.2 q0 g2
          · obtain rfl : j = i := by
              rw [List.length_append, List.length_singleton] at h1
              omega
            have e6 : (ps ++ [T1.next])[j] = T1.next := by rw [List.getElem_append_right (by omega)]; simp [hl1]
            have e7 : (xss ++ [xs'])[j] = xs' := by rw [List.getElem_append_right (by omega)]; simp [hl2]
            rw [e6, e7]
            have hold : ∀ id, Own T1.next s' id → T4.heap id = T2.heap id := fun id ho => by
              have := i2.lt ho
              have := o2 id ho
              rw [k4 id (by omega) (fun q hq e => by have := (hlo6 q hq).2; omega), fl.eq id (by omega)]
            refine ⟨s', i2.keep hold (by omega), m2, by omega, fun id ho => ⟨by have := o2 id ho; omega, fun q hq e => by have := (hlo5 q hq).2; have := o2 id ho; omega, fun q hq e => ?_⟩⟩
            have := i2.lt ho
            have := o2 id ho
            rcases hq6 q hq with g2 | ⟨q0, g2, g3⟩
            · omega
            · have := (hlo6 q0 g2).2; omega
        · rcases q4 q' h2 with g2 | ⟨q0, g2, g3⟩
          · have := (hlo5 q h1).2; omega
          · rw [← g3]; exact hne5 q q0 h1 g2
    · obtain rfl : i = vals.length := by omega
      exact law_end (fun v hv => by
        obtain ⟨j, hj, rfl⟩ := List.getElem_of_mem hv
        exact h20 j hj hj) hvl hG hA hg
theorem setUnions_law {S : HS} {y0 : Sl} {x : Int} {sls : List Sl} {vals : List (List Ky)} (hG : Giv S.next y0 sls vals S) : ∃ S', rollcalllaw10_SetUnions.f (disp 2000 4) (fun _ => none) 2000 y0 x S = some (true, S') := by
  obtain ⟨A, e1, f1⟩ := awake2_spec S
  have hsl := hG.len
  have hy0 : (y0.len : Int) = vals.length := by rw [← rows_len hG.rows]; simp [hsl]
  rw [rollcalllaw10_SetUnions.f, e1, Option.bind_some, if_neg (by simp), hy0]
  by_cases h10 : vals.length > 10
  · rw [if_pos (by omega)]; exact ⟨A, rfl⟩
  · rw [if_neg (by omega)]
    exact gather_loop (by omega) 2000 0 A Sl.nil Sl.nil [] [] (by omega) (Nat.zero_le _) (fun j _ h => by omega) (hG.fr fun id hid => f1.eq id hid) ⟨by rw [List.take_zero]; exact .nil, .nil, rfl, rfl, fun j h => by simp at h, fun q q' h => by cases h⟩ f1.le
end KI
theorem rows_ints : ∀ {rows : List (List HV)}, (∀ row ∈ rows, RowFits [.int .i64] row) → ∃ ls : List Int, rows = ls.map KI.row1 := by
  intro rows
  induction rows with
  | nil => intro _; exact ⟨[], rfl⟩
  | cons r rows ih =>
    intro h
    obtain ⟨ls, e⟩ := ih fun row hr => h row (by simp [hr])
    have h0 := h r (by simp)
    have hl := h0.len
    obtain ⟨v0, rfl⟩ : ∃ v0, r = [v0] := by
      match r, hl with
      | [a], _ => exact ⟨a, rfl⟩
    obtain ⟨q0, _⟩ := h0
    obtain ⟨n, h1, _⟩ := q0
    exact ⟨n :: ls, by rw [e, h1]; rfl⟩
theorem rows_lists {S : HS} {t e : TypeId} : ∀ {rows : List (List HV)}, (∀ row ∈ rows, NFits S [.sl t e [.int .i64]] row) → ∃ (sls : List Sl) (vals : List (List Int)), rows = sls.map (fun s => [s.hv]) ∧ sls.length = vals.length ∧ ∀ j (h : j < sls.length) (h' : j < vals.length), ArgSl S 1 sls[j] (vals[j].map KI.row1) := by
  intro rows
  induction rows with
  | nil => intro _; exact ⟨[], [], rfl, rfl, fun j h => by simp at h⟩
  | cons r rows ih =>
    intro h
    obtain ⟨sls, vals, e1, e2, e3⟩ := ih fun row hr => h row (by simp [hr])
    have h0 := h r (by simp)
    match r, h0 with
    | [v], ⟨⟨s, rs, hv, hs, hf⟩, _⟩ =>
      obtain ⟨ls, rfl⟩ := rows_ints hf
      refine ⟨s :: sls, ls :: vals, by rw [e1, hv]; rfl, by simp [e2], fun j hj hj' => ?_⟩
      cases j with
      | zero => exact hs
      | succ j => exact e3 j (by simpa using hj) (by simpa using hj')
theorem setUnions_call (W : World) (β0 : Bt) (S : HS) (s0 : Sl) (rows0 : List (List HV)) (h0 : ArgSl S 1 s0 rows0) (t e : TypeId) (f0 : ∀ row ∈ rows0, NFits S [.sl t e [.int .i64]] row) (x : Int) (w1 : (Lit.int .i64 x).wf = true) :
    HCall Try.prog W.heap.size W β0 3 [s0.hv, .int .i64 x] S (fun v _ => v = .bool true) := by
  obtain ⟨sls, vals, rfl, h1, h2⟩ := rows_lists f0
  obtain ⟨_, h⟩ := KI.setUnions_law (x := x) ⟨h0.rows, fun q hq => h0.rd.lt q hq, h1, fun j hj hj' => ⟨(h2 j hj hj').rows, fun q hq => (h2 j hj hj').rd.lt q hq⟩⟩
  exact (rollcalllaw10_SetUnions.snd (disp_snd 4) (fun _ _ h => by cases h) h).mono fun _ _ h => h.1
end Go.Proofs.Ytpdainofeaombaa.X
