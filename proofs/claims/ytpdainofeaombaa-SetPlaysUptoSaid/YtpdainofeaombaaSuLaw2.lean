/- The layer set: SetUnions, the law, plain. -/
import Derived.Test.YtpdainofeaombaaSuLaw
namespace Go.Proofs.Ytpdainofeaombaa.X
open Go.Proofs.Ytpdainofeaombaa.HL
set_option linter.unusedVariables false
set_option maxRecDepth 100000
namespace KI
/-- The lists that were given. -/
structure Giv (g : Nat) (y0 : Sl) (sls : List Sl) (vals : List (List Ky)) (S : HS) : Prop where
  rows : S.rows y0 1 = some (sls.map fun s => [s.hv])
  lt : ∀ q, y0.a = some q → q.1 < g
  len : sls.length = vals.length
  inn : ∀ j (h : j < sls.length) (h' : j < vals.length), S.rows sls[j] 1 = some (vals[j].map row1) ∧ ∀ q, sls[j].a = some q → q.1 < g
theorem Giv.fr {g : Nat} {y0 : Sl} {sls : List Sl} {vals : List (List Ky)} {S S' : HS} (h : Giv g y0 sls vals S) (hk : ∀ id, id < g → S'.heap id = S.heap id) : Giv g y0 sls vals S' :=
  ⟨rows_keep h.rows fun q hq => hk _ (h.lt q hq), h.lt, h.len, fun j hj hj' => ⟨rows_keep (h.inn j hj hj').1 fun q hq => hk _ ((h.inn j hj hj').2 q hq), (h.inn j hj hj').2⟩⟩
theorem Giv.at_ {g : Nat} {y0 : Sl} {sls : List Sl} {vals : List (List Ky)} {S : HS} (h : Giv g y0 sls vals S) {j : Nat} (hj : j < sls.length) : ∃ ad, S.idx y0 (j : Int) 1 = some ad ∧ S.ldSl ad = some sls[j] := by
  obtain ⟨ad, h1, h2⟩ := get_at h.rows (i := j) (v := sls[j].hv) (by simpa using hj) (by rw [List.getElem_map])
  exact ⟨ad, h1, ldSl_of h2⟩
/-- All that was gathered so far. -/
structure Gat (g i : Nat) (y5 y6 : Sl) (ps : List Nat) (vals xss : List (List Ky)) (T : HS) : Prop where
  v5 : Vec g T 1 y5 ((vals.take i).flatten.map row1)
  v6 : Vec g T 1 y6 ((ps.map some).map ptrRow)
  l1 : ps.length = i
  l2 : xss.length = i
  set : ∀ j (h : j < ps.length) (h' : j < xss.length) (h2 : j < vals.length), ∃ s, SI ps[j] s xss[j] T ∧ (∀ v, v ∈ xss[j] ↔ v ∈ vals[j]) ∧ xss[j].length ≤ 20 ∧ ∀ id, Own ps[j] s id → g ≤ id ∧ (∀ q, y5.a = some q → q.1 ≠ id) ∧ (∀ q, y6.a = some q → q.1 ≠ id)
  ne : ∀ q q', y5.a = some q → y6.a = some q' → q.1 ≠ q'.1
theorem flat_len {vals : List (List Ky)} (h : ∀ v ∈ vals, v.length ≤ 20) : vals.flatten.length ≤ 20 * vals.length := by
  induction vals with
  | nil => simp
  | cons v vals ih =>
    rw [List.flatten_cons, List.length_append, List.length_cons]
    have := h v (by simp)
    have := ih fun w hw => h w (by simp [hw])
    omega
theorem meet_loop {k g : Nat} {y0 y6 : Sl} {sls : List Sl} {vals : List (List Ky)} {T : HS} {r0 : Sl → Sl → Int → HS → Option (Bool × HS)} (hG : Giv g y0 sls vals T) (hl20 : ∀ v ∈ vals, v.length ≤ 20) {i : Nat} (hi : i + 1 < vals.length) (hvl : vals.length ≤ 10) :
    ∀ f j b, vals[i].length - j < f → j ≤ vals[i].length → (b = true ↔ ∃ v : Ky, v ∈ vals[i].take j ∧ v ∈ vals[i + 1]) →
      ∃ f', rollcalllaw10_SetUnions.L5 (disp 2000 4) (fun _ => none) 2000 r0 f y0 y6 (i : Int) b (j : Int) T = rollcalllaw10_SetUnions.L5 (disp 2000 4) (fun _ => none) 2000 r0 (f' + 1) y0 y6 (i : Int) (decide (∃ v : Ky, v ∈ vals[i] ∧ v ∈ vals[i + 1])) (vals[i].length : Int) T := by
  have hsl := hG.len
  intro f
  induction f with
  | zero => intro j b h; omega
  | succ f ih =>
    intro j b hf hj hb
    by_cases hlt : j < vals[i].length
    · obtain ⟨ad, a1, a2⟩ := hG.at_ (j := i) (by omega)
      have hr := (hG.inn i (by omega) (by omega)).1
      have hr' := (hG.inn (i + 1) (by omega) (by omega)).1
      have hl : (sls[i].len : Int) = vals[i].length := by rw [← rows_len hr]; simp
      have h20 := hl20 _ (List.getElem_mem (show i + 1 < vals.length by omega))
      have h20' := hl20 _ (List.getElem_mem (show i < vals.length by omega))
      have hw : ((i : Int) + 1) = ((i + 1 : Nat) : Int) := by simp
      have hwj : ((j : Int) + 1) = ((j + 1 : Nat) : Int) := by simp
      have htk : (∃ v, v ∈ vals[i].take (j + 1) ∧ v ∈ vals[i + 1]) ↔ (∃ v, v ∈ vals[i].take j ∧ v ∈ vals[i + 1]) ∨ vals[i][j] ∈ vals[i + 1] := by
        rw [List.take_succ_eq_append_getElem hlt]
        constructor
        · rintro ⟨v, h1, h2⟩
          rcases List.mem_append.1 h1 with h1 | h1
          · exact .inl ⟨v, h1, h2⟩
          · simp only [List.mem_singleton] at h1; subst h1; exact .inr h2
        · rintro (⟨v, h1, h2⟩ | h)
          · exact ⟨v, List.mem_append_left _ h1, h2⟩
          · exact ⟨_, List.mem_append_right _ (by simp), h⟩
      rw [rollcalllaw10_SetUnions.L5, a1, Option.bind_some, a2, Option.bind_some, hl, if_pos (by omega), w64_id (n := (j : Int) + 1) (by omega) (by omega), hwj]
      cases hbb : b with
      | true =>
        rw [if_pos rfl]
        refine ih (j + 1) true (by omega) (by omega) ?_
        rw [htk]
        exact ⟨fun _ => .inl (hb.1 hbb), fun _ => rfl⟩
      | false =>
        obtain ⟨ad2, b1, b2⟩ := hG.at_ (j := i + 1) (by omega)
        obtain ⟨ad3, c1, c2⟩ := ldK_at hr hlt
        rw [if_neg (by simp), w64_id (n := (i : Int) + 1) (by omega) (by omega), hw, b1, Option.bind_some, b2, Option.bind_some, Option.bind_some, a2, Option.bind_some, c1, Option.bind_some, c2, Option.bind_some, refHas_spec hr' (by omega) (by omega), Option.bind_some]
        refine ih (j + 1) _ (by omega) (by omega) ?_
        rw [htk, decide_eq_true_eq]
        exact ⟨.inr, fun h => h.elim (fun g => by have := hb.2 g; rw [hbb] at this; cases this) id⟩
    · have hj' : j = vals[i].length := by omega
      rw [hj', List.take_length] at hb
      have hb' : b = decide (∃ v : Ky, v ∈ vals[i] ∧ v ∈ vals[i + 1]) := by
        cases b with
        | true => exact (decide_eq_true (hb.1 rfl)).symm
        | false => exact (decide_eq_false fun h => by have := hb.2 h; cases this).symm
      subst hb'
      rw [hj']
      exact ⟨f, rfl⟩
theorem pairs_loop {g : Nat} {y0 y5 y6 : Sl} {sls : List Sl} {ps : List Nat} {vals xss : List (List Ky)} {B : HS} (hl20 : ∀ v ∈ vals, v.length ≤ 20) (hvl : vals.length ≤ 10) :
    ∀ f i T, vals.length - i < f → i ≤ vals.length → Giv g y0 sls vals T → Gat g vals.length y5 y6 ps vals xss T → g ≤ T.next →
      ∃ S', rollcalllaw10_SetUnions.L4 (disp 2000 4) (fun _ => none) 2000 f y0 y6 (i : Int) T = some (true, S') := by
  intro f
  induction f with
  | zero => intro i T h; omega
  | succ f ih =>
    intro i T hf hi hG hA hg
    have hsl := hG.len
    have hy0 : (y0.len : Int) = vals.length := by rw [← rows_len hG.rows]; simp [hsl]
    have hw : ((i : Int) + 1) = ((i + 1 : Nat) : Int) := by simp
    rw [rollcalllaw10_SetUnions.L4, hy0, w64_id (by omega) (by omega)]
    by_cases hlt : i + 1 < vals.length
    · have hr := (hG.inn i (by omega) (by omega)).1
      have hl : (sls[i].len : Int) = vals[i].length := by rw [← rows_len hr]; simp
      have h20 := hl20 _ (List.getElem_mem (show i < vals.length by omega))
      obtain ⟨f', e⟩ := meet_loop (k := 2000) (y6 := y6) (r0 := rollcalllaw10_SetUnions.L4 (disp 2000 4) (fun _ => none) 2000 f) hG hl20 hlt hvl 2000 0 false (by omega) (Nat.zero_le _) (by simp)
      rw [show ((0 : Nat) : Int) = 0 from rfl] at e
      obtain ⟨ad, a1, a2⟩ := hG.at_ (j := i) (by omega)
      have hl1 := hA.l1
      have hl2 := hA.l2
      obtain ⟨s1, i1, m1, c1, _⟩ := hA.set i (by omega) (by omega) (by omega)
      obtain ⟨s2, i2, m2, c2, _⟩ := hA.set (i + 1) (by omega) (by omega) (by omega)
      obtain ⟨ad1, b1, b2⟩ := get_at hA.v6.rows (i := i) (v := .ptr (some (HA.cell0 ps[i]))) (by simp; omega) (by simp [ptrRow])
      obtain ⟨ad2, d1, d2⟩ := get_at hA.v6.rows (i := i + 1) (v := .ptr (some (HA.cell0 ps[i + 1]))) (by simp; omega) (by simp [ptrRow])
      obtain ⟨T2, e2, f2⟩ := meet_spec (n := 2) (a := some ps[i]) (b := some ps[i + 1]) ⟨s1, i1⟩ ⟨s2, i2⟩ i1.cnt
      rw [Option.map_some, Option.map_some] at e2
      have hme : decide (∃ v, v ∈ xss[i] ∧ v ∈ xss[i + 1]) = decide (∃ v : Ky, v ∈ vals[i] ∧ v ∈ vals[i + 1]) := by
        rw [decide_eq_decide]
        exact ⟨fun ⟨v, h1, h2⟩ => ⟨v, (m1 v).1 h1, (m2 v).1 h2⟩, fun ⟨v, h1, h2⟩ => ⟨v, (m1 v).2 h1, (m2 v).2 h2⟩⟩
      rw [if_pos (by omega), e, rollcalllaw10_SetUnions.L5, a1, Option.bind_some, a2, Option.bind_some, hl, if_neg (by omega), b1, Option.bind_some, ldP_of b2, Option.bind_some, w64_id (by omega) (by omega), hw, d1, Option.bind_some, ldP_of d2, Option.bind_some, e2, Option.bind_some]
      simp only
      rw [hme, if_neg (by simp)]
      have hle := f2.le
      refine ih (i + 1) T2 (by omega) (by omega) (hG.fr fun id hid => f2.eq id (by omega)) ⟨hA.v5.frame f2 (Nat.le_refl _), hA.v6.frame f2 (Nat.le_refl _), hA.l1, hA.l2, fun j h1 h2 h3 => ?_, hA.ne⟩ (by omega)
      obtain ⟨s, q1, q2, q3, q4⟩ := hA.set j h1 h2 h3
      exact ⟨s, q1.fr f2, q2, q3, q4⟩
    · rw [if_neg (by omega)]; exact ⟨T, rfl⟩
theorem law_end {g : Nat} {y0 y5 y6 : Sl} {x : Int} {sls : List Sl} {ps : List Nat} {vals xss : List (List Ky)} {T : HS} {f : Nat} (hl20 : ∀ v ∈ vals, v.length ≤ 20) (hvl : vals.length ≤ 10) (hG : Giv g y0 sls vals T) (hA : Gat g vals.length y5 y6 ps vals xss T) (hg : g ≤ T.next) :
    ∃ S', rollcalllaw10_SetUnions.L0 (disp 2000 4) (fun _ => none) 2000 (f + 1) y0 x y5 y6 (vals.length : Int) T = some (true, S') := by
  have hsl := hG.len
  have hy0 : (y0.len : Int) = vals.length := by rw [← rows_len hG.rows]; simp [hsl]
  have hl1 := hA.l1
  have hl2 := hA.l2
  have hps : (ps.map some).length ≤ 1000 := by simp; omega
  have hsets : Sets (ps.map some) xss T := by
    refine ⟨by simp; omega, fun j hj hj' => ?_⟩
    rw [List.length_map] at hj
    obtain ⟨s, q1, _⟩ := hA.set j hj hj' (by omega)
    simp only [List.getElem_map]
    exact ⟨s, q1⟩
  have h5 := hA.v5
  rw [List.take_length] at h5
  obtain ⟨hsW, hmW⟩ := all_srt vals.flatten [] List.Pairwise.nil
  have hfl := flat_len hl20
  have hWlen : (vals.flatten.foldl (fun l t => addL t l) []).length ≤ vals.flatten.length := by
    have : ∀ (xs pre : List Ky), (xs.foldl (fun l t => addL t l) pre).length ≤ pre.length + xs.length := by
      intro xs
      induction xs with
      | nil => intro pre; simp
      | cons x xs ih => intro pre; rw [List.foldl_cons, List.length_cons]; have := ih (addL x pre); have := (addL_len x pre).1; omega
    have := this vals.flatten []
    simpa using this
  generalize hW : vals.flatten.foldl (fun l t => addL t l) [] = W at hsW hmW hWlen
  have hU : UnionOf W xss := ⟨hsW, fun v => by
    rw [hmW, List.mem_flatten]
    constructor
    · rintro (⟨l, h1, h2⟩ | h)
      · obtain ⟨j, hj, rfl⟩ := List.getElem_of_mem h1
        obtain ⟨s, _, q2, _⟩ := hA.set j (by omega) (by omega) hj
        exact ⟨_, List.getElem_mem (by omega), (q2 v).2 h2⟩
      · cases h
    · rintro ⟨l, h1, h2⟩
      obtain ⟨j, hj, rfl⟩ := List.getElem_of_mem h1
      obtain ⟨s, _, q2, _⟩ := hA.set j (by omega) hj (by omega)
      exact .inl ⟨_, List.getElem_mem (by omega), (q2 v).1 h2⟩⟩
  have hxs : ∀ xs ∈ xss, Srt xs ∧ xs.length ≤ 1000 := fun xs h => by
    obtain ⟨j, hj, rfl⟩ := List.getElem_of_mem h
    obtain ⟨s, q1, _⟩ := hA.set j (by omega) hj (by omega)
    exact ⟨q1.srt, q1.cnt⟩
  obtain ⟨fv, T1, o1, T2, e1, e2, r2, q2, f2⟩ := uniTold_spec (n := 2) (most := 300) hsets hA.v6.rd hps hU (by omega) (by omega) hxs
  have le2 := f2.le
  have hA6 := hA.v6.frame f2 (Nat.le_refl _)
  have hsets2 : Sets (ps.map some) xss T2 := hsets.fr f2
  obtain ⟨fv2, T3, fw, T4, o2, T5, e3, e4, e5, r5, q5, f5⟩ := uniWith_spec (n := 1) (most := 300) (x := x) hsets2 hA6.rd hps hU (by omega) (by omega) hxs
  have le5 := f5.le
  have f25 : Fr T.next T T5 := f2.trans (f5.mono le2)
  obtain ⟨o3, T6, e6, r6, f6⟩ := refAll_spec (k := 2000) (h5.rd.frame f25 (Nat.le_refl _) |>.mono (m' := T5.next) (by have := f25.le; omega)) (by omega) (by omega)
  have le6 := f6.le
  rw [hW] at r6
  have r2' : T6.rows o1 1 = some (W.map row1) := rows_keep r2 fun q hq => by have := (q2 q hq).2; rw [f6.eq q.1 (by omega), f5.eq q.1 this]
  have r5' : T6.rows o2 1 = some ((wof x W).map row1) := rows_keep r5 fun q hq => f6.eq q.1 (q5 q hq).2
  obtain ⟨o4, T7, e7, v7, f7⟩ := refRemove_spec (k := 2000) (t := x) r6 (by omega) (by omega)
  have le7 := f7.le
  have r5'' : T7.rows o2 1 = some ((wof x W).map row1) := rows_keep r5' fun q hq => by have := (q5 q hq).2; exact f7.eq q.1 (by omega)
  have hwl : (wof x W).length ≤ W.length := List.length_filter_le _ _
  rw [rollcalllaw10_SetUnions.L0, hy0, if_neg (by omega), e1, Option.bind_some]
  simp only
  rw [e2, Option.bind_some]
  simp only
  rw [e3, Option.bind_some]
  simp only
  rw [e4, Option.bind_some]
  simp only
  erw [e5]
  rw [Option.bind_some]
  simp only
  rw [e6, Option.bind_some]
  simp only [Bool.not_true, if_false, Bool.false_eq_true]
  rw [rollcalllaw10_SetUnions.J1, if_neg (by simp), refSame_spec r2' r6.rows (by omega) (by omega), Option.bind_some, decide_eq_true rfl, rollcalllaw10_SetUnions.J2, if_neg (by simp), e7, Option.bind_some]
  simp only
  rw [refSame_spec r5'' v7.rows (by omega) (by omega), Option.bind_some, decide_eq_true rfl, rollcalllaw10_SetUnions.J3, if_neg (by simp)]
  have f67 : Fr T.next T T7 := (f25.trans (f6.mono (by omega))).trans (f7.mono (by omega))
  have := pairs_loop (g := g) (y5 := y5) (B := T7) hl20 hvl 2000 0 T7 (by omega) (Nat.zero_le _) (hG.fr fun id hid => f67.eq id (by omega)) ⟨hA.v5.frame f67 (Nat.le_refl _), hA.v6.frame f67 (Nat.le_refl _), hA.l1, hA.l2, fun j h1 h2 h3 => by
    obtain ⟨s, q1, q2, q3, q4⟩ := hA.set j h1 h2 h3
    exact ⟨s, q1.fr f67, q2, q3, q4⟩, hA.ne⟩ (by omega)
  exact this
end KI
end Go.Proofs.Ytpdainofeaombaa.X
