/- The layer set: SetUnions, plain. -/
import Derived.Test.YtpdainofeaombaaSuWith
import Derived.Test.YtpdainofeaombaaHLy
namespace Go.Proofs.Ytpdainofeaombaa.X
open Go.Proofs.Ytpdainofeaombaa.HL
set_option linter.unusedVariables false
set_option maxRecDepth 100000
namespace KI
theorem UI.keepK {g : Nat} {su : Sl} {sls : List Sl} {vals : List (List Ky)} {S S' : HS} (h : UI g su sls vals S) (K : Nat → Prop) (h1 : ∀ q, su.a = some q → K q.1) (h2 : ∀ s ∈ sls, ∀ q, s.a = some q → K q.1) (hk : ∀ id, K id → S'.heap id = S.heap id ∧ id < S'.next) : UI g su sls vals S' := by
  refine ⟨?_, h.len, fun j hj hj' => rows_keep (h.rows j hj hj') fun q hq => (hk _ (h2 _ (List.getElem_mem hj) q hq)).1, fun j hj q hq => ?_⟩
  · have hv := h.vec
    have hk' : ∀ q, su.a = some q → S'.heap q.1 = S.heap q.1 ∧ q.1 < S'.next := fun q hq => hk _ (h1 q hq)
    generalize sls.map (fun s => [s.hv]) = R at hv ⊢
    cases hv with
    | nil => exact .nil
    | open_ g1 g2 g3 => exact .open_ ((hk' _ rfl).1.trans g1) g2 (hk' _ rfl).2
    | capped g1 g2 g3 g4 g5 g6 => exact .capped ((hk' _ rfl).1.trans g1) g2 (hk' _ rfl).2 g4 g5 g6
  · have := h.lo j hj q hq
    exact ⟨this.1, (hk _ (h2 _ (List.getElem_mem hj) q hq)).2, this.2.2⟩
/-- What a union tells, gathered. -/
theorem uniTold_spec {n : Nat} {sl : Sl} {ps : List (Option Nat)} {vals : List (List Ky)} {W : List Ky} {S : HS} {most : Int} (hs : Sets ps vals S) (hr : Rd S.next S 1 sl (ps.map ptrRow)) (hl : ps.length ≤ 1000) (hU : UnionOf W vals) (hW : (W.length : Int) ≤ most) (hW2 : W.length ≤ 1000) (hv : ∀ xs ∈ vals, Srt xs ∧ xs.length ≤ 1000) :
    ∃ fv S1 out S2, set_Union_int.f 2000 sl S = some (fv, S1) ∧ rollcalllaw10_told.f (disp 2000 (n + 2)) (fun _ => none) fv most S1 = some ((out, true), S2) ∧ S2.rows out 1 = some (W.map row1) ∧ (∀ q, out.a = some q → S.next ≤ q.1 ∧ q.1 < S2.next) ∧ Fr S.next S S2 := by
  obtain ⟨su, sls, S1, e1, d1, u1, f1, n1⟩ := union_spec (k := 2000) (Nat.le_refl _) hs hr hl
  have hT := union_tells (k := 2000) (n := n) (c := S.next) (W := W) (Nat.le_refl _) hU hW2 (by rw [← hs.1]; exact hl) hv d1 u1 (fun id => id = S.next ∨ (∃ q, su.a = some q ∧ q.1 = id) ∨ ∃ s ∈ sls, ∃ q, s.a = some q ∧ q.1 = id) (.inl rfl) (fun q hq => .inr (.inl ⟨q, hq, rfl⟩)) (fun s hs q hq => .inr (.inr ⟨s, hs, q, hq, rfl⟩))
  obtain ⟨out, S2, e2, r2, q2, f2⟩ := told_spec (n := 0) (most := most) hT (fun id h => by
    rcases h with rfl | ⟨q, h, rfl⟩ | ⟨s, hs, q, h, rfl⟩
    · omega
    · exact (u1.vec.lo q h).2
    · obtain ⟨j, hj, rfl⟩ := List.getElem_of_mem hs
      exact (u1.lo j hj q h).2.1) hW (by omega)
  have := f1.le
  exact ⟨_, S1, out, S2, e1, e2, r2, fun q hq => by have := q2 q hq; omega, f1.trans (f2.mono this)⟩
/-- What a union tells, but for one thing, gathered. -/
theorem uniWith_spec {n : Nat} {sl : Sl} {ps : List (Option Nat)} {vals : List (List Ky)} {W : List Ky} {S : HS} {most x : Int} (hs : Sets ps vals S) (hr : Rd S.next S 1 sl (ps.map ptrRow)) (hl : ps.length ≤ 1000) (hU : UnionOf W vals) (hW : (W.length : Int) ≤ most) (hW2 : W.length ≤ 1000) (hv : ∀ xs ∈ vals, Srt xs ∧ xs.length ≤ 1000) :
    ∃ fv S1 fw S2 out S3, set_Union_int.f 2000 sl S = some (fv, S1) ∧ set_Without_int.f fv x S1 = some (fw, S2) ∧ rollcalllaw10_told.f (disp 2000 (n + 3)) (fun _ => none) fw most S2 = some ((out, true), S3) ∧ S3.rows out 1 = some ((wof x W).map row1) ∧ (∀ q, out.a = some q → S.next ≤ q.1 ∧ q.1 < S3.next) ∧ Fr S.next S S3 := by
  obtain ⟨su, sls, S1, e1, d1, u1, f1, n1⟩ := union_spec (k := 2000) (Nat.le_refl _) hs hr hl
  have hKlt : ∀ id, (id = S.next ∨ (∃ q, su.a = some q ∧ q.1 = id) ∨ ∃ s ∈ sls, ∃ q, s.a = some q ∧ q.1 = id) → id < S1.next := fun id h => by
    rcases h with rfl | ⟨q, h, rfl⟩ | ⟨s, hs, q, h, rfl⟩
    · omega
    · exact (u1.vec.lo q h).2
    · obtain ⟨j, hj, rfl⟩ := List.getElem_of_mem hs
      exact (u1.lo j hj q h).2.1
  have hx : ∃ S2, set_Without_int.f (.fn (.func 23) [] [.ptr (some (HA.cell0 S.next))]) x S1 = some (.fn (.func 25) [] [.ptr (some (HA.cell0 S1.next)), .ptr (some (HA.cell0 (S1.next + 1)))], S2) ∧ S2.next = S1.next + 2 ∧ Fr S1.next S1 S2 ∧ S2.heap S1.next = .cells 1 [[.fn (.func 23) [] [.ptr (some (HA.cell0 S.next))]]] true ∧ S2.heap (S1.next + 1) = .cells 1 [[.int .i64 x]] true := by
    rw [set_Without_int.f, show dF (.fn (.func 23) [] [.ptr (some (HA.cell0 S.next))]) = some (.fn (.func 23) [] [.ptr (some (HA.cell0 S.next))]) from rfl, Option.bind_some, letv, letv]
    exact ⟨_, rfl, rfl, (Fr.new (Nat.le_refl _) _).trans (Fr.new (by rw [new_next]; omega) _), by rw [new_old _ (by rw [new_next]; omega)]; exact new_here _ _, new_here (S1.new _) _⟩
  obtain ⟨S2, e2, n2, f2, a2, c2⟩ := hx
  have hT := without_spec (k := 2000) (n := n + 1) (B := S2) (x := x) (xs := W) (K := fun id => id = S.next ∨ (∃ q, su.a = some q ∧ q.1 = id) ∨ ∃ s ∈ sls, ∃ q, s.a = some q ∧ q.1 = id) (fn := .func 23) (u := []) (v := [.ptr (some (HA.cell0 S.next))]) (a := S1.next) (c := S1.next + 1)
    (fun T hT => union_tells (k := 2000) (n := n) (c := S.next) (W := W) (Nat.le_refl _) hU hW2 (by rw [← hs.1]; exact hl) hv ((hT _ (.inl rfl)).1.trans ((f2.eq _ n1).trans d1)) (u1.keepK (fun id => id = S.next ∨ (∃ q, su.a = some q ∧ q.1 = id) ∨ ∃ s ∈ sls, ∃ q, s.a = some q ∧ q.1 = id) (fun q hq => .inr (.inl ⟨q, hq, rfl⟩)) (fun s hs q hq => .inr (.inr ⟨s, hs, q, hq, rfl⟩)) (fun id h => ⟨(hT id h).1.trans (f2.eq id (hKlt id h)), (hT id h).2⟩))
      _ (.inl rfl) (fun q hq => .inr (.inl ⟨q, hq, rfl⟩)) (fun s hs q hq => .inr (.inr ⟨s, hs, q, hq, rfl⟩)))
    (fun id h => by have := hKlt id h; omega) ⟨by omega, by omega, fun h => by have := hKlt _ h; omega, fun h => by have := hKlt _ h; omega⟩ a2 c2
  have hwl : (wof x W).length ≤ W.length := List.length_filter_le _ _
  obtain ⟨out, S3, e3, r3, q3, f3⟩ := told_spec (n := 0) (most := most) hT (fun id h => by
    rcases h with rfl | rfl | h
    · omega
    · omega
    · have := hKlt id h; omega) (by omega) (by omega)
  exact ⟨_, S1, _, S2, out, S3, e1, e2, e3, r3, fun q hq => by have := q3 q hq; omega, (f1.trans (f2.mono (by omega))).trans (f3.mono (by omega))⟩
theorem awake2_spec (S : HS) : ∃ S', rollcalllaw10_awake.f (disp 2000 4) (fun _ => none) 2000 S = some (true, S') ∧ Fr S.next S S' := by
  have rl : ∀ (T : HS) (rows : List (List HV)), Rd (T.lit rows 1).2.next (T.lit rows 1).2 1 (T.lit rows 1).1 rows := fun T rows => (Vec.lit (n := 0) (z := 1) (S := T) _ (Nat.zero_le _)).rd
  have fl : ∀ (T : HS) (rows : List (List HV)), Fr T.next T (T.lit rows 1).2 := fun T rows => lit_fr _ (Nat.le_refl _)
  rw [rollcalllaw10_awake.f, letv]
  obtain ⟨s1, xs1, A1, e1, i1, f1, o1, m1, c1⟩ := of_spec (k := 2000) (ls := [1, 3]) (Nat.le_refl _) (rl S [[.int .i64 1], [.int .i64 3]]) (by simp)
  have g1 := (fl S [[.int .i64 1], [.int .i64 3]]).trans (f1.mono (Nat.le_succ _))
  obtain ⟨s2, xs2, A2, e2, i2, f2, o2, m2, c2⟩ := of_spec (k := 2000) (ls := [2, 3]) (Nat.le_refl _) (rl A1 [[.int .i64 2], [.int .i64 3]]) (by simp)
  have g2 := (fl A1 [[.int .i64 2], [.int .i64 3]]).trans (f2.mono (Nat.le_succ _))
  have i1' := i1.fr g2
  rw [e1, Option.bind_some, letv, e2, Option.bind_some, letv]
  simp only
  generalize hp1 : (S.lit [[.int .i64 1], [.int .i64 3]] 1).2.next = p1 at *
  generalize hp2 : (A1.lit [[.int .i64 2], [.int .i64 3]] 1).2.next = p2 at *
  have g3 := fl A2 [[.ptr (some (HA.cell0 p1))], [.ptr (some (HA.cell0 p2))]]
  have r3 := rl A2 [[.ptr (some (HA.cell0 p1))], [.ptr (some (HA.cell0 p2))]]
  generalize A2.lit [[.ptr (some (HA.cell0 p1))], [.ptr (some (HA.cell0 p2))]] 1 = P at g3 r3 ⊢
  obtain ⟨sl, A3⟩ := P
  simp only at g3 r3 ⊢
  have hsets : Sets [some p1, some p2] [xs1, xs2] A3 := by
    refine ⟨rfl, fun j hj hj' => ?_⟩
    match j, hj with
    | 0, _ => exact ⟨s1, i1'.fr g3⟩
    | 1, _ => exact ⟨s2, i2.fr g3⟩
  have hU : UnionOf [1, 2, 3] [xs1, xs2] := ⟨by simp [Srt, klt], fun v => by
    simp only [List.mem_cons, List.not_mem_nil, or_false, exists_eq_or_imp, exists_eq_left, m1, m2]
    constructor
    · rintro (h | h | h)
      · exact .inl (.inl h)
      · exact .inr (.inl h)
      · exact .inl (.inr h)
    · rintro ((h | h) | (h | h))
      · exact .inl h
      · exact .inr (.inr h)
      · exact .inr (.inl h)
      · exact .inr (.inr h)⟩
  obtain ⟨fv, A4, out, A5, e4, e5, r5, q5, f5⟩ := uniTold_spec (n := 2) (most := 9) hsets r3 (by simp) hU (by simp) (by simp) (fun xs h => by
    simp only [List.mem_cons, List.not_mem_nil, or_false] at h
    rcases h with rfl | rfl
    · exact ⟨i1.srt, i1.cnt⟩
    · exact ⟨i2.srt, i2.cnt⟩)
  rw [e4, Option.bind_some]
  simp only
  rw [e5, Option.bind_some]
  simp only [if_true]
  rw [letv]
  have r6 := rl A5 [[.int .i64 1], [.int .i64 2], [.int .i64 3]]
  have g6 := fl A5 [[.int .i64 1], [.int .i64 2], [.int .i64 3]]
  have r5' : (A5.lit [[.int .i64 1], [.int .i64 2], [.int .i64 3]] 1).2.rows out 1 = some ([1, 2, 3].map row1) := rows_keep r5 fun q hq => g6.eq q.1 (q5 q hq).2
  rw [refSame_spec (xs := [1, 2, 3]) (ys := [1, 2, 3]) r5' r6.rows (by simp) (by simp), Option.bind_some, decide_eq_true rfl, rollcalllaw10_awake.J0]
  have l1 := g1.le
  have l2 := g2.le
  have l3 := g3.le
  have l5 := f5.le
  exact ⟨_, rfl, ((((g1.trans (g2.mono l1)).trans (g3.mono (by omega))).trans (f5.mono (by omega))).trans (g6.mono (by omega)))⟩
end KI
end Go.Proofs.Ytpdainofeaombaa.X
