/- The layer was: WasStays, plain: the law. -/
import Derived.Test.YtlmpmnbljpigiaaWasStays
namespace Go.Proofs.Ytlmpmnbljpigiaa.X
open Go.Proofs.Ytlmpmnbljpigiaa.HL
set_option linter.unusedVariables false

theorem vec_keep {n z : Nat} {T T' : HS} {s : Sl} {rows : List (List HV)} (h : Vec n T z s rows) (he : ∀ q, s.a = some q → T'.heap q.1 = T.heap q.1) (hn : T.next ≤ T'.next) : Vec n T' z s rows := by
  cases h with
  | nil => exact .nil
  | open_ g1 g2 g3 => exact .open_ ((he _ rfl).trans g1) g2 (Nat.lt_of_lt_of_le g3 hn)
  | capped g1 g2 g3 g4 g5 g6 => exact .capped ((he _ rfl).trans g1) g2 (Nat.lt_of_lt_of_le g3 hn) g4 g5 g6
/-- A past whose blocks are none of those that are kept. -/
structure PastG (G : Nat → Prop) (p : Nat) (most : Int) (xs : List Ent) (next : Int) (T : HS) : Prop where
  cell : ∃ s, T.heap p = .cells 3 [[.int .i64 most, s.hv, .int .i64 next]] true ∧ Vec 0 T 2 s (xs.map pairRow) ∧ (∀ q, s.a = some q → q.1 ≠ p) ∧ (∀ q, s.a = some q → ¬ G q.1)
  gp : ¬ G p
  hi : p < T.next
  gl : ∀ id, G id → id < T.next
theorem PastG.toAt {G : Nat → Prop} {p : Nat} {most : Int} {xs : List Ent} {next : Int} {T : HS} (h : PastG G p most xs next T) : PastAt 0 p most xs next T := by
  obtain ⟨s, h1, h2, h3, h4⟩ := h.cell
  exact ⟨⟨s, h1, h2, h3⟩, Nat.zero_le _, h.hi⟩
theorem PastG.keep {G : Nat → Prop} {p : Nat} {most : Int} {xs : List Ent} {next : Int} {T T' : HS} (h : PastG G p most xs next T) (he : ∀ id, ¬ G id → id < T.next → T'.heap id = T.heap id) (hn : T.next ≤ T'.next) : PastG G p most xs next T' := by
  obtain ⟨s, h1, h2, h3, h4⟩ := h.cell
  refine ⟨⟨s, (he p h.gp h.hi).trans h1, ?_, h3, h4⟩, h.gp, Nat.lt_of_lt_of_le h.hi hn, fun id g => Nat.lt_of_lt_of_le (h.gl id g) hn⟩
  exact vec_keep h2 (fun q hq => he _ (h4 q hq) (h2.lo q hq).2) hn
theorem PastG.grow {G G' : Nat → Prop} {p : Nat} {most : Int} {xs : List Ent} {next : Int} {T T' : HS} (h : PastG G p most xs next T) (hf : Fr T.next T T') (hG : ∀ id, G' id → G id ∨ (T.next ≤ id ∧ id < T'.next)) : PastG G' p most xs next T' := by
  obtain ⟨s, h1, h2, h3, h4⟩ := h.cell
  have hl := h2.lo
  refine ⟨⟨s, (hf.eq p h.hi).trans h1, h2.frame hf (Nat.le_refl _), h3, fun q hq g => ?_⟩, fun g => ?_, Nat.lt_of_lt_of_le h.hi hf.le, fun id g => ?_⟩
  · rcases hG _ g with g | g
    · exact h4 q hq g
    · have := (hl q hq).2; omega
  · rcases hG _ g with g | g
    · exact h.gp g
    · have := h.hi; omega
  · rcases hG _ g with g | g
    · exact Nat.lt_of_lt_of_le (h.gl id g) hf.le
    · exact g.2
theorem put_tail_g {G : Nat → Prop} {p : Nat} {most : Int} {xs : List Ent} {next : Int} {T : HS} (h : PastG G p most xs next T) (h0 : 0 < most) (hn : 0 ≤ next) (hn2 : next < 1000000) :
    ∃ T', was_Past_int_Put.J1 (some (HA.cell0 p)) T = some ((), T') ∧ PastG G p most xs ((next + 1).tmod most) T' ∧ (∀ id, G id → T'.heap id = T.heap id) ∧ T'.next = T.next := by
  obtain ⟨s, h1, h2, h3, h4⟩ := h.cell
  unfold was_Past_int_Put.J1
  have hr := cell_row h1
  rw [Option.bind_some, row_ldI hr rfl rfl, Option.bind_some, Option.bind_some, row_ldI hr rfl rfl, Option.bind_some, if_pos (by omega), Option.bind_some, w64_id (by omega) (by omega), sets_row h1 rfl (by simp), Option.bind_some]
  exact ⟨_, rfl, ⟨⟨s, put_here _ _ _, h2.put_ne h3, h3, h4⟩, h.gp, h.hi, h.gl⟩, fun id g => put_other _ (fun e => h.gp (e ▸ g)), rfl⟩
theorem put_g {G : Nat → Prop} {p m : Nat} {hist xs : List Ent} {next : Int} {T : HS} (h : PastG G p m xs next T) (hR : Ring m hist xs next) (h0 : 0 < m) (hm : m ≤ 100000) (nm : List UInt8) (v : Int) :
    ∃ T' xs' next', was_Past_int_Put.f (some (HA.cell0 p)) nm v T = some ((), T') ∧ PastG G p m xs' next' T' ∧ Ring m (hist ++ [(nm, v)]) xs' next' ∧ (∀ id, G id → T'.heap id = T.heap id) ∧ T.next ≤ T'.next := by
  obtain ⟨s, h1, h2, h3, h4⟩ := h.cell
  have hr := cell_row h1
  have hmod := Nat.mod_lt hist.length h0
  have hnx := hR.next
  have hxl := hR.len
  have hsl : s.len = xs.length := by rw [h2.len]; simp
  unfold was_Past_int_Put.f
  rw [if_neg (by simp), Option.bind_some, row_ldI hr rfl rfl, Option.bind_some, was_Past_int_Put.J0, if_neg (by simp; omega), Option.bind_some, row_ldSl hr rfl rfl, Option.bind_some, Option.bind_some, row_ldI hr rfl rfl, Option.bind_some]
  by_cases hlt : xs.length < m
  · rw [if_pos (by omega), Option.bind_some, row_ldSl hr rfl rfl, Option.bind_some, letv]
    have hlit := Vec.lit (n := 0) (z := 2) (S := T) [[.str nm, .int .i64 v]] (Nat.zero_le _)
    rw [hlit.rows, Option.bind_some]
    have h2' : Vec 0 (T.lit [[.str nm, .int .i64 v]] 2).2 2 s (xs.map pairRow) := h2.new _
    obtain ⟨s', T2, e2, v2, f2, k2, q2⟩ := h2'.app2 (new := [[.str nm, .int .i64 v]]) (Nat.zero_le _) (by simp; omega)
    have hn2 : T.next + 1 ≤ T2.next := f2.le
    rw [e2, Option.bind_some, Option.bind_some]
    have hp2 : T2.heap p = .cells 3 [[.int .i64 m, s.hv, .int .i64 next]] true := by
      rw [k2 p (Nat.lt_succ_of_lt h.hi) h3]
      exact (new_old _ h.hi).trans h1
    have hg2 : ∀ id, G id → T2.heap id = T.heap id := by
      intro id g
      have hid := h.gl id g
      rw [k2 id (Nat.lt_succ_of_lt hid) (fun q hq e => h4 q hq (e ▸ g))]
      exact new_old _ hid
    rw [sets_row hp2 rfl (by simp), Option.bind_some]
    have hold : ∀ q, s'.a = some q → T.next + 1 ≤ q.1 ∨ ∃ q0, s.a = some q0 ∧ q0.1 = q.1 := fun q hq => q2 q hq
    have hne : ∀ q, s'.a = some q → q.1 ≠ p := by
      intro q hq
      rcases hold q hq with h5 | ⟨q0, h5, h6⟩
      · have := h.hi
        omega
      · rw [← h6]; exact h3 q0 h5
    have hng : ∀ q, s'.a = some q → ¬ G q.1 := by
      intro q hq g
      rcases hold q hq with h5 | ⟨q0, h5, h6⟩
      · have := h.gl _ g
        omega
      · exact h4 q0 h5 (h6.symm ▸ g)
    have hP : PastG G p m (xs ++ [(nm, v)]) next (T2.put p (.cells 3 ([[.int .i64 m, s.hv, .int .i64 next]].set 0 (List.take 1 [.int .i64 m, s.hv, .int .i64 next] ++ [s'.hv] ++ List.drop (1 + [s'.hv].length) [.int .i64 m, s.hv, .int .i64 next])) true)) := by
      refine ⟨⟨s', put_here _ _ _, ?_, hne, hng⟩, h.gp, ?_, fun id g => ?_⟩
      · have := v2.put_ne (id := p) (o := .cells 3 ([[.int .i64 m, s.hv, .int .i64 next]].set 0 (List.take 1 [.int .i64 m, s.hv, .int .i64 next] ++ [s'.hv] ++ List.drop (1 + [s'.hv].length) [.int .i64 m, s.hv, .int .i64 next])) true) hne
        rw [List.map_append]
        exact this
      · rw [put_next]; have := h.hi; omega
      · rw [put_next]; have := h.gl id g; omega
    obtain ⟨T3, e3, p3, f3, n3⟩ := put_tail_g hP (by omega) (by omega) (by omega)
    refine ⟨T3, _, _, e3, p3, ring_app hR hlt _, fun id g => ?_, by rw [n3, put_next]; omega⟩
    have hid : id ≠ p := fun e => h.gp (e ▸ g)
    rw [f3 id g, put_other _ hid]
    exact hg2 id g
  · have hge : xs.length = m := by omega
    rw [if_neg (by omega), Option.bind_some, row_ldSl hr rfl rfl, Option.bind_some, Option.bind_some, row_ldI hr rfl rfl, Option.bind_some, hnx]
    obtain ⟨ad, T2, e1, e2, e3, e4, v2, f2, n2, k2⟩ := h2.set_ (i := hist.length % m) (row := [.str nm, .int .i64 v]) (by simp; omega) (by simp [pairRow])
    rw [e1, Option.bind_some, e4, Option.bind_some]
    have hp2 : T2.heap p = .cells 3 [[.int .i64 m, s.hv, .int .i64 next]] true := by rw [k2 p h3]; exact h1
    have hP : PastG G p m (xs.set (hist.length % m) (nm, v)) next T2 := by
      refine ⟨⟨s, hp2, ?_, h3, h4⟩, h.gp, by rw [n2]; exact h.hi, fun id g => by rw [n2]; exact h.gl id g⟩
      have : (xs.map pairRow).set (hist.length % m) [.str nm, .int .i64 v] = (xs.set (hist.length % m) (nm, v)).map pairRow := by rw [List.map_set]; rfl
      rw [← this]; exact v2
    obtain ⟨T3, e5, p3, f3, n3⟩ := put_tail_g hP (by omega) (by omega) (by omega)
    refine ⟨T3, _, _, e5, p3, ring_set hR h0 hge _, fun id g => ?_, by rw [n3, n2]; omega⟩
    rw [f3 id g, k2 id (fun q hq e => h4 q hq (e ▸ g))]

def numRow (v : Int) : List HV := [.int .i64 v]
theorem num_rows {S : HS} {s : Sl} {xs : List Int} (h : S.rows s 1 = some (xs.map numRow)) {i : Nat} (hi : i < xs.length) : ∃ ad, S.idx s (i : Int) 1 = some ad ∧ S.ldI .i64 ad = some xs[i] := by
  obtain ⟨ad, h1, h2, h3⟩ := rows_idx h (i := i) (by simpa using hi)
  refine ⟨ad, h1, ?_⟩
  have := row_ldI (j := 0) (k := .i64) (n := xs[i]) h3 h2 (by simp [numRow])
  obtain ⟨a1, a2, a3⟩ := ad
  simp only at h2
  subst h2
  exact this
theorem rows_keep {S S' : HS} {z : Nat} {s : Sl} {rows : List (List HV)} (h : S.rows s z = some rows) (hk : ∀ q, s.a = some q → S'.heap q.1 = S.heap q.1) : S'.rows s z = some rows := by
  unfold HS.rows at h ⊢
  cases ha : s.a with
  | none => rw [ha] at h; exact h
  | some q =>
    obtain ⟨id, off⟩ := q
    rw [ha] at h
    simp only at h ⊢
    rw [hk _ ha]
    exact h
def xs_ (v : Int) : Ent := ([120], v)

/-- The loop that puts all of the list. -/
theorem stays_loop {D : Dp} {H : Hd} {k : Nat} {y0 : Int} {q r0 p m : Nat} {G : Nat → Prop} {B : HS} {sl : Sl} {ls : List Int} (hm : m ≤ 100000) (hls : ls.length ≤ 40) (hBq : B.heap q = .cells 1 [[sl.hv]] true) (hGq : G q) (hBp : B.heap (p + 1) = .cells 1 [[.ptr (some (HA.cell0 p))]] true) (hGp : G (p + 1)) (hrows : B.rows sl 1 = some (ls.map numRow)) (hGs : ∀ x, sl.a = some x → G x.1) :
    ∀ (f i : Nat) (T : HS) (hist xs : List Ent) (next : Int), ls.length - i < f → i ≤ ls.length → PastG G p m xs next T → Ring m hist xs next → (0 < m → hist = (ls.take i).map xs_) → (m = 0 → hist = []) → (∀ id, G id → T.heap id = B.heap id) →
    ∃ f' T' hist' xs' next', rollcalllaw13_WasStays.L1 D H k f y0 (some (HA.cell0 q)) (some (HA.cell0 r0)) (some (HA.cell0 (p + 1))) (i : Int) [] T = rollcalllaw13_WasStays.L1 D H k (f' + 1) y0 (some (HA.cell0 q)) (some (HA.cell0 r0)) (some (HA.cell0 (p + 1))) (ls.length : Int) [] T' ∧
      PastG G p m xs' next' T' ∧ Ring m hist' xs' next' ∧ (0 < m → hist' = ls.map xs_) ∧ (m = 0 → hist' = []) ∧ (∀ id, G id → T'.heap id = B.heap id) := by
  intro f
  induction f with
  | zero => intro i T hist xs next h; omega
  | succ f ih =>
    intro i T hist xs next hf hi hP hR hh h0 hk
    by_cases hlt : i < ls.length
    · have hq : T.heap q = .cells 1 [[sl.hv]] true := (hk _ hGq).trans hBq
      have hp : T.heap (p + 1) = .cells 1 [[.ptr (some (HA.cell0 p))]] true := (hk _ hGp).trans hBp
      have hr : T.rows sl 1 = some (ls.map numRow) := rows_keep hrows fun x hx => hk _ (hGs x hx)
      have hsl : (sl.len : Int) = ls.length := by rw [← rows_len hr]; simp
      obtain ⟨ad, a1, a2⟩ := num_rows hr hlt
      have hput : ∃ T1 hist1 xs1 next1, was_Past_int_Put.f (some (HA.cell0 p)) [120] ls[i] T = some ((), T1) ∧ PastG G p m xs1 next1 T1 ∧ Ring m hist1 xs1 next1 ∧ (0 < m → hist1 = (ls.take (i + 1)).map xs_) ∧ (m = 0 → hist1 = []) ∧ (∀ id, G id → T1.heap id = T.heap id) := by
        by_cases hm0 : 0 < m
        · obtain ⟨T1, xs1, next1, e, q1, q2, q3, q4⟩ := put_g hP hR hm0 hm [120] ls[i]
          refine ⟨T1, _, xs1, next1, e, q1, q2, fun _ => ?_, fun h => by omega, q3⟩
          rw [hh hm0, List.take_succ_eq_append_getElem hlt, List.map_append]; rfl
        · obtain rfl : m = 0 := by omega
          refine ⟨T, hist, xs, next, ?_, hP, hR, fun h => by omega, h0, fun _ _ => rfl⟩
          obtain ⟨s, h1, h2, h3, h4⟩ := hP.cell
          have hr := cell_row h1
          rw [was_Past_int_Put.f, if_neg (by simp), Option.bind_some, row_ldI hr rfl rfl, Option.bind_some, was_Past_int_Put.J0, if_pos (by simp)]
      obtain ⟨T1, hist1, xs1, next1, e1, p1, r1, hh1, h01, k1⟩ := hput
      rw [rollcalllaw13_WasStays.L1, Option.bind_some, ldSl_cell hq, Option.bind_some, hsl, if_pos (by omega), Option.bind_some, ldP_cell hp, Option.bind_some, Option.bind_some, ldSl_cell hq, Option.bind_some, a1, Option.bind_some, a2, Option.bind_some, e1, Option.bind_some,
        w64_id (by omega) (by omega), show ((i : Int) + 1) = ((i + 1 : Nat) : Int) by simp]
      exact ih (i + 1) T1 hist1 xs1 next1 (by omega) (by omega) p1 r1 hh1 h01 (fun id g => (k1 id g).trans (hk id g))
    · obtain rfl : i = ls.length := by omega
      exact ⟨f, T, hist, xs, next, rfl, hP, hR, fun h => by rw [hh h, List.take_length], h0, hk⟩
theorem all_spec2 {k n p m : Nat} {hist xs : List Ent} {next : Int} {T : HS} (h0 : 0 < xs.length → 0 < m) (hm : m ≤ 100000) (hR : Ring m hist xs next) (hk : xs.length < k) (hP : PastAt n p m xs next T) :
    ∃ c s' T', was_Past_int_All.f k (some (HA.cell0 p)) T = some (.fn (.func 15) [] [.ptr (some (HA.cell0 c))], T') ∧ T.next ≤ c ∧ c < T'.next ∧ T'.heap c = .cells 1 [[s'.hv]] true ∧ Vec T.next T' 2 s' ((lastOf m hist).map pairRow) ∧ Fr T.next T T' := by
  obtain ⟨s', T1, e1, v1, f1⟩ := rows_spec h0 hm hR hk hP
  unfold was_Past_int_All.f
  rw [e1, Option.bind_some, letv, sets_cell _ (new_here _ _), Option.bind_some]
  exact ⟨T1.next, s', _, rfl, f1.le, Nat.lt_succ_self _, put_here _ _ _, (v1.new _).put_ne (fun q hq e => by have := (v1.lo q hq).2; simp only at e; omega), f1.trans ((Fr.new f1.le _).trans (Fr.put f1.le _))⟩

structure StI (G2 : Nat → Prop) (p m cK cG l : Nat) (S0 : HS) (i : Nat) (S : HS) : Prop where
  past : ∃ hist xs next, PastG G2 p m xs next S ∧ Ring m hist xs next
  keep : ∀ id, G2 id → id ≠ cK → id ≠ cG → id ≠ l → S.heap id = S0.heap id
  cnt : S.heap cK = .cells 1 [[.int .i64 i]] true
  good : S.heap cG = .cells 1 [[.bool true]] true
  lo : S.heap l = .loop .ready none
theorem StI.fr {G2 : Nat → Prop} {p m cK cG l : Nat} {S0 : HS} {i : Nat} {S S' : HS} (hK : G2 cK) (hG : G2 cG) (hL : G2 l) (h : StI G2 p m cK cG l S0 i S) (hf : Fr S.next S S') : StI G2 p m cK cG l S0 i S' := by
  obtain ⟨hist, xs, next, p1, p2⟩ := h.past
  exact ⟨⟨hist, xs, next, p1.keep (fun id _ hid => hf.eq id hid) hf.le, p2⟩, fun id g a b c => (hf.eq id (p1.gl id g)).trans (h.keep id g a b c), (hf.eq _ (p1.gl _ hK)).trans h.cnt, (hf.eq _ (p1.gl _ hG)).trans h.good, (hf.eq _ (p1.gl _ hL)).trans h.lo⟩

theorem stays_round {D : Dp} {H : Hd} {k q r0 p m cN cK cG l : Nat} {G2 : Nat → Prop} {S0 : HS} {sl : Sl} {ls : List Int} {Ls : List Ent} (hm0 : 0 < m) (hm : m ≤ 100000) (hls : ls.length ≤ 40)
    (hK : G2 cK) (hG : G2 cG) (hL : G2 l) (hq : G2 q) (hp : G2 (p + 1)) (hN : G2 cN) (nKG : cK ≠ cG) (nKL : cK ≠ l) (nGL : cG ≠ l) (nq : q ≠ cK ∧ q ≠ cG ∧ q ≠ l) (np : p + 1 ≠ cK ∧ p + 1 ≠ cG ∧ p + 1 ≠ l) (nN : cN ≠ cK ∧ cN ≠ cG ∧ cN ≠ l)
    (hBq : S0.heap q = .cells 1 [[sl.hv]] true) (hBp : S0.heap (p + 1) = .cells 1 [[.ptr (some (HA.cell0 p))]] true) (hBN : S0.heap cN = .cells 1 [[.int .i64 Ls.length]] true) (hrows : S0.rows sl 1 = some (ls.map numRow)) (hGs : ∀ x, sl.a = some x → G2 x.1 ∧ x.1 ≠ cK ∧ x.1 ≠ cG ∧ x.1 ≠ l)
    (hLs : ∀ (i : Nat) (h : i < Ls.length), i < ls.length ∧ ls[ls.length - 1 - i]? = some Ls[i].2) {i : Nat} (hi : i < Ls.length) {S : HS} (h : StI G2 p m cK cG l S0 i S) :
    ∃ S', rollcalllaw13_WasStays.J2 D H k l (some (HA.cell0 q)) (some (HA.cell0 r0)) (some (HA.cell0 (p + 1))) (some (HA.cell0 cN)) (some (HA.cell0 cK)) (some (HA.cell0 cG)) Ls[i].2 S = some (.bool true, S') ∧ StI G2 p m cK cG l S0 (i + 1) S' := by
  obtain ⟨h1, h2⟩ := hLs i hi
  rw [List.getElem?_eq_getElem (by omega), Option.some.injEq] at h2
  obtain ⟨hist, xs, next, p1, p2⟩ := h.past
  rw [rollcalllaw13_WasStays.J2, begin_at h.lo, Option.bind_some]
  -- begun
  have b1 : PastG G2 p m xs next (S.put l (.loop .busy none)) := p1.keep (fun id g hid => put_other _ (fun e => g (e ▸ hL))) (Nat.le_refl _)
  have bk : ∀ id, G2 id → id ≠ cK → id ≠ cG → id ≠ l → (S.put l (.loop .busy none)).heap id = S0.heap id := fun id g a b c => (put_other _ c).trans (h.keep id g a b c)
  have bc : (S.put l (.loop .busy none)).heap cK = .cells 1 [[.int .i64 i]] true := (put_other _ nKL).trans h.cnt
  have bg : (S.put l (.loop .busy none)).heap cG = .cells 1 [[.bool true]] true := (put_other _ nGL).trans h.good
  have bl : (S.put l (.loop .busy none)).heap l = .loop .busy none := put_here _ _ _
  generalize S.put l (.loop .busy none) = T at b1 bk bc bg bl ⊢
  have tq : T.heap q = .cells 1 [[sl.hv]] true := (bk q hq nq.1 nq.2.1 nq.2.2).trans hBq
  have tp : T.heap (p + 1) = .cells 1 [[.ptr (some (HA.cell0 p))]] true := (bk _ hp np.1 np.2.1 np.2.2).trans hBp
  have tN : T.heap cN = .cells 1 [[.int .i64 Ls.length]] true := (bk _ hN nN.1 nN.2.1 nN.2.2).trans hBN
  have tr : T.rows sl 1 = some (ls.map numRow) := rows_keep hrows fun x hx => let ⟨a, b, c, d⟩ := hGs x hx; bk _ a b c d
  have hsl : (sl.len : Int) = ls.length := by rw [← rows_len tr]; simp
  obtain ⟨ad, a1, a2⟩ := num_rows tr (i := ls.length - 1 - i) (by omega)
  have hidx : w64 (w64 ((ls.length : Int) - 1) - (i : Int)) = ((ls.length - 1 - i : Nat) : Int) := by
    rw [w64_id (n := (ls.length : Int) - 1) (by omega) (by omega), w64_id (by omega) (by omega)]; omega
  rw [Option.bind_some, ldI_cell bc, Option.bind_some, Option.bind_some, ldI_cell tN, Option.bind_some, if_neg (by omega), Option.bind_some, ldB_cell bg, Option.bind_some, if_pos rfl, Option.bind_some, ldSl_cell tq, Option.bind_some, Option.bind_some, ldSl_cell tq, Option.bind_some, Option.bind_some, ldI_cell bc, Option.bind_some,
    hsl, hidx, a1, Option.bind_some, a2, Option.bind_some, h2, decide_eq_true rfl, rollcalllaw13_WasStays.J3, Option.bind_some, sets_cell _ bg, Option.bind_some, Option.bind_some]
  have c1 : PastG G2 p m xs next (T.put cG (.cells 1 [[.bool true]] true)) := b1.keep (fun id g hid => put_other _ (fun e => g (e ▸ hG))) (Nat.le_refl _)
  have cp : (T.put cG (.cells 1 [[.bool true]] true)).heap (p + 1) = .cells 1 [[.ptr (some (HA.cell0 p))]] true := (put_other _ np.2.1).trans tp
  obtain ⟨T2, xs2, next2, e2, d1, d2, d3, d4⟩ := put_g c1 p2 hm0 hm [121] (-1)
  have dc : T2.heap cK = .cells 1 [[.int .i64 i]] true := (d3 _ hK).trans ((put_other _ nKG).trans bc)
  have dl : T2.heap l = .loop .busy none := (d3 _ hL).trans ((put_other _ (Ne.symm nGL)).trans bl)
  rw [ldP_cell cp, Option.bind_some, e2, Option.bind_some, Option.bind_some, ldI_cell dc, Option.bind_some, Option.bind_some, sets_cell _ dc, Option.bind_some, endr_at none ((put_other _ (Ne.symm nKL)).trans dl), w64_id (by omega) (by omega)]
  refine ⟨_, rfl, ⟨_, xs2, next2, (d1.keep (T' := (T2.put cK (.cells 1 [[.int .i64 ((i : Int) + 1)]] true)).put l (.loop .ready none)) (fun id g hid => ?_) (Nat.le_refl _)), d2⟩, fun id g a b c => ?_, ?_, ?_, ?_⟩
  · have n1 : id ≠ l := fun e => g (e ▸ hL)
    have n2 : id ≠ cK := fun e => g (e ▸ hK)
    exact (put_other _ n1).trans (put_other _ n2)
  · refine (put_other _ c).trans ((put_other _ a).trans ((d3 id g).trans ((put_other _ b).trans (bk id g a b c))))
  · refine (put_other _ nKL).trans ((put_here _ _ _).trans ?_)
    simp
  · exact (put_other _ nGL).trans ((put_other _ (Ne.symm nKG)).trans ((d3 _ hG).trans (put_here _ _ _)))
  · exact put_here _ _ _
theorem last_go {m : Nat} {hist : List Ent} {ls : List Int} (hr : hist = ls.map xs_) : ∀ (i : Nat) (h : i < (lastOf m hist).length), i < ls.length ∧ ls[ls.length - 1 - i]? = some ((lastOf m hist)[i]).2 := by
  subst hr
  intro i h
  have h1 : i < ls.length := by
    rw [lastOf, List.length_take, List.length_reverse, List.length_map] at h; omega
  refine ⟨h1, ?_⟩
  have e : (lastOf m (ls.map xs_))[i]'h = xs_ (ls[ls.length - 1 - i]'(by omega)) := by
    simp only [lastOf, List.getElem_take, List.getElem_reverse, List.length_map, List.getElem_map]
  rw [e, List.getElem?_eq_getElem (by omega)]
  rfl
theorem stays_end {q r0 p m : Nat} {G : Nat → Prop} {B : HS} {sl : Sl} {ls : List Int} {y0 : Int} (hy0 : w64 y0 = (m : Int)) (hm : m ≤ 1000) (hls : ls.length ≤ 40) (hBq : B.heap q = .cells 1 [[sl.hv]] true) (hGq : G q) (hBp : B.heap (p + 1) = .cells 1 [[.ptr (some (HA.cell0 p))]] true) (hGp : G (p + 1)) (hrows : B.rows sl 1 = some (ls.map numRow)) (hGs : ∀ x, sl.a = some x → G x.1)
    (hBr : B.heap r0 = .cells 1 [[.bool false]] true) (hGr : G r0) {f : Nat} {T : HS} {hist xs : List Ent} {next : Int} (hP : PastG G p m xs next T) (hR : Ring m hist xs next) (hh : 0 < m → hist = ls.map xs_) (h0 : m = 0 → hist = []) (hk : ∀ id, G id → T.heap id = B.heap id) :
    ∃ T', rollcalllaw13_WasStays.L1 (disp 2000 3) (fun _ => none) 2000 (f + 1) y0 (some (HA.cell0 q)) (some (HA.cell0 r0)) (some (HA.cell0 (p + 1))) (ls.length : Int) [] T = some (true, T') := by
  have tq : T.heap q = .cells 1 [[sl.hv]] true := (hk _ hGq).trans hBq
  have tp : T.heap (p + 1) = .cells 1 [[.ptr (some (HA.cell0 p))]] true := (hk _ hGp).trans hBp
  have tr0 : T.heap r0 = .cells 1 [[.bool false]] true := (hk _ hGr).trans hBr
  have tr : T.rows sl 1 = some (ls.map numRow) := rows_keep hrows fun x hx => hk _ (hGs x hx)
  have hsl : (sl.len : Int) = ls.length := by rw [← rows_len tr]; simp
  have gq := hP.gl _ hGq
  have gp := hP.gl _ hGp
  have gr := hP.gl _ hGr
  have hx0 : 0 < xs.length → 0 < m := fun h => by have := hR.len; omega
  have hxl : xs.length = min ls.length m := by
    have := hR.len
    by_cases hm0 : 0 < m
    · rw [hh hm0, List.length_map] at this; exact this
    · rw [h0 (by omega)] at this; simp at this; rw [this]; simp; omega
  rw [rollcalllaw13_WasStays.L1, Option.bind_some, ldSl_cell tq, Option.bind_some, hsl, if_neg (by omega), Option.bind_some, ldP_cell tp, Option.bind_some, len_spec hP.toAt, Option.bind_some, letv, sets_cell _ (new_here _ _), Option.bind_some, Option.bind_some]
  -- the number of them
  have f1 : Fr T.next T ((T.new (.cells 1 [[.int .i64 0]] true)).put T.next (.cells 1 [[.int .i64 xs.length]] true)) := (Fr.new (Nat.le_refl _) _).trans (Fr.put (Nat.le_refl _) _)
  have t1n : ((T.new (.cells 1 [[.int .i64 0]] true)).put T.next (.cells 1 [[.int .i64 xs.length]] true)).heap T.next = .cells 1 [[.int .i64 xs.length]] true := put_here _ _ _
  have n1 : ((T.new (.cells 1 [[.int .i64 0]] true)).put T.next (.cells 1 [[.int .i64 xs.length]] true)).next = T.next + 1 := rfl
  generalize (T.new (.cells 1 [[.int .i64 0]] true)).put T.next (.cells 1 [[.int .i64 xs.length]] true) = T1 at f1 t1n n1 ⊢
  have P1 : PastG G p m xs next T1 := hP.grow f1 (fun id g => .inl g)
  obtain ⟨c, s', T2, e2, c1, c2, c3, c4, f2⟩ := all_spec2 (k := 2000) hx0 (by omega) hR (by omega) P1.toAt
  rw [ldP_cell ((f1.eq _ gp).trans tp), Option.bind_some, e2, Option.bind_some]
  simp only [HV.isNilFn, Option.bind_some]
  rw [if_neg (by simp), letv, sets_cell _ (new_here _ _), Option.bind_some, letv, sets_cell _ (new_here _ _), Option.bind_some]
  simp only [put_next, new_next]
  have hle2 := f2.le
  -- the cells of what is gone through
  generalize hT3 : (((T2.new (.cells 1 [[.int .i64 0]] true)).put T2.next (.cells 1 [[.int .i64 0]] true)).new (.cells 1 [[.bool false]] true)).put (T2.next + 1) (.cells 1 [[.bool true]] true) = T3
  have n3 : T3.next = T2.next + 2 := by subst hT3; rfl
  have f3 : Fr T2.next T2 T3 := by
    subst hT3
    exact (((Fr.new (Nat.le_refl _) _).trans (Fr.put (Nat.le_refl _) _)).trans (Fr.new (by rw [put_next, new_next]; omega) _)).trans (Fr.put (by omega) _)
  have k3 : T3.heap T2.next = .cells 1 [[.int .i64 0]] true := by
    subst hT3
    rw [put_other _ (by omega), new_old _ (by rw [put_next, new_next]; omega), put_here]
  have g3 : T3.heap (T2.next + 1) = .cells 1 [[.bool true]] true := by subst hT3; exact put_here _ _ _
  have n4 : ((T3.new .defer).new (.loop .ready none)).next = T2.next + 4 := by simp only [new_next]; omega
  have f4 : Fr T2.next T2 ((T3.new .defer).new (.loop .ready none)) := f3.trans ((Fr.new (by omega) _).trans (Fr.new (by rw [new_next]; omega) _))
  have k4 : ((T3.new .defer).new (.loop .ready none)).heap T2.next = .cells 1 [[.int .i64 0]] true := by
    rw [new_old _ (by rw [new_next]; omega), new_old _ (by omega)]; exact k3
  have g4 : ((T3.new .defer).new (.loop .ready none)).heap (T2.next + 1) = .cells 1 [[.bool true]] true := by
    rw [new_old _ (by rw [new_next]; omega), new_old _ (by omega)]; exact g3
  have d4 : ((T3.new .defer).new (.loop .ready none)).heap (T2.next + 2) = .defer := by
    rw [new_old _ (by rw [new_next]; omega), ← n3]; exact new_here _ _
  have l4 : ((T3.new .defer).new (.loop .ready none)).heap (T2.next + 3) = .loop .ready none := by
    rw [show T2.next + 3 = (T3.new .defer).next by rw [new_next]; omega]; exact new_here _ _
  clear hT3
  rw [show T2.next + 1 + 1 + 1 = T2.next + 3 from rfl, show T2.next + 1 + 1 = T2.next + 2 from rfl]
  generalize hS0 : (T3.new .defer).new (.loop .ready none) = S0 at n4 f4 k4 g4 d4 l4 ⊢
  let G2 : Nat → Prop := fun id => G id ∨ (T.next ≤ id ∧ id < T2.next + 4)
  have P2 : PastG G2 p m xs next S0 := hP.grow (f1.trans ((f2.mono (by omega)).trans (f4.mono (by omega)))) (fun id g => by rw [n4]; exact g)
  have hf04 : Fr T.next T S0 := f1.trans ((f2.mono (by omega)).trans (f4.mono (by omega)))
  have hLs : (lastOf m hist).length = xs.length := lastOf_len hR
  have hI0 : StI G2 p m T2.next (T2.next + 1) (T2.next + 3) S0 0 S0 := ⟨⟨hist, xs, next, P2, hR⟩, fun _ _ _ _ _ => rfl, k4, g4, l4⟩
  have inG : ∀ id, T.next ≤ id → id < T2.next + 4 → G2 id := fun id h1 h2 => .inr ⟨h1, h2⟩
  have hcopy : ∀ i S, StI G2 p m T2.next (T2.next + 1) (T2.next + 3) S0 i S → ∀ id, T.next ≤ id → id < T2.next → S.heap id = T2.heap id := by
    intro i S h id h1 h2
    rw [h.keep id (inG id h1 (by omega)) (by omega) (by omega) (by omega), f4.eq id h2]
  obtain ⟨S', e, h⟩ := all_tells2 (k := 2000) (n := 1) (l := T2.next + 3) (c := c) (H := Hd.set (fun _ => none) (T2.next + 3) (fun vs U => Option.bind (HS.lp U (T2.next + 3)) fun _ => Option.bind (args2 vs) fun ar => Option.bind (dS ar.1) fun a => Option.bind (dI .i64 ar.2) fun b => rollcalllaw13_WasStays.J2 (disp 2000 3) (fun _ => none) 2000 (T2.next + 3) (some (HA.cell0 q)) (some (HA.cell0 r0)) (some (HA.cell0 (p + 1))) (some (HA.cell0 T.next)) (some (HA.cell0 T2.next)) (some (HA.cell0 (T2.next + 1))) b U))
    (xs := lastOf m hist) (s := s') (by simp [Hd.set]; rfl) (fun i S => StI G2 p m T2.next (T2.next + 1) (T2.next + 3) S0 i S) (fun _ => False)
    (fun i S S' h hf => h.fr (inG _ (by omega) (by omega)) (inG _ (by omega) (by omega)) (inG _ (by omega) (by omega)) hf)
    (fun i S h => (hcopy i S h c (by omega) (by omega)).trans c3)
    (fun i S h => rows_keep c4.rows fun x hx => hcopy i S h x.1 (by have := (c4.lo x hx).1; omega) (c4.lo x hx).2)
    (by
      intro i hi S h
      simp only [lp_at h.lo, args2, dS, dI, Option.bind_some, if_true]
      have hm0 : 0 < m := hx0 (by omega)
      obtain ⟨S', e, h'⟩ := stays_round (D := disp 2000 3) (H := fun _ => none) (k := 2000) (r0 := r0) (q := q) (cN := T.next) (sl := sl) (ls := ls) (Ls := lastOf m hist) hm0 (by omega) hls
        (inG _ (by omega) (by omega)) (inG _ (by omega) (by omega)) (inG _ (by omega) (by omega)) (.inl hGq) (.inl hGp) (inG _ (by omega) (by omega)) (by omega) (by omega) (by omega) ⟨by omega, by omega, by omega⟩ ⟨by omega, by omega, by omega⟩ ⟨by omega, by omega, by omega⟩
        ((hf04.eq _ gq).trans tq) ((hf04.eq _ gp).trans tp) (by rw [f4.eq _ (by omega), f2.eq _ (by omega), hLs]; exact t1n) (rows_keep tr fun x hx => hf04.eq _ (hP.gl _ (hGs x hx))) (fun x hx => by
          have := hP.gl _ (hGs x hx)
          exact ⟨.inl (hGs x hx), by omega, by omega, by omega⟩)
        (last_go (hh hm0)) hi h
      exact ⟨true, S', e, fun _ => h', fun h => by cases h⟩) (by omega) (by omega) S0 hI0
  have h : StI G2 p m T2.next (T2.next + 1) (T2.next + 3) S0 (lastOf m hist).length S' := by
    rcases h with h | h
    · exact h
    · exact h.elim
  erw [e]
  rw [Option.bind_some]
  have e1 : S'.finish (T2.next + 3) = some (none, S'.put (T2.next + 3) (.loop .exhausted none)) := by simp [HS.finish, h.lo]
  rw [e1, Option.bind_some]
  simp only [pcode, Option.bind_some, if_true]
  have x2 : ∀ id, id ≠ T2.next + 3 → (S'.put (T2.next + 3) (.loop .exhausted none)).heap id = S'.heap id := fun id hne => put_other _ hne
  have xn : (S'.put (T2.next + 3) (.loop .exhausted none)).next = S'.next := rfl
  generalize S'.put (T2.next + 3) (.loop .exhausted none) = X at x2 xn ⊢
  obtain ⟨_, _, _, pS, _⟩ := h.past
  have hlt : ∀ id, G2 id → id < X.next := fun id g => by rw [xn]; exact pS.gl id g
  have xg : X.heap (T2.next + 1) = .cells 1 [[.bool true]] true := (x2 _ (by omega)).trans h.good
  have xk : X.heap T2.next = .cells 1 [[.int .i64 (lastOf m hist).length]] true := (x2 _ (by omega)).trans h.cnt
  have xN : X.heap T.next = .cells 1 [[.int .i64 xs.length]] true := by
    rw [x2 _ (by omega), h.keep _ (inG _ (by omega) (by omega)) (by omega) (by omega) (by omega), f4.eq _ (by omega), f2.eq _ (by omega)]; exact t1n
  have xq : X.heap q = .cells 1 [[sl.hv]] true := by
    rw [x2 _ (by omega), h.keep _ (.inl hGq) (by omega) (by omega) (by omega), hf04.eq _ gq]; exact tq
  have xr : X.heap r0 = .cells 1 [[.bool false]] true := by
    rw [x2 _ (by omega), h.keep _ (.inl hGr) (by omega) (by omega) (by omega), hf04.eq _ gr]; exact tr0
  have xd : X.heap (T2.next + 2) = .defer := by
    rw [x2 _ (by omega), h.keep _ (inG _ (by omega) (by omega)) (by omega) (by omega) (by omega)]; exact d4
  have ld : T2.next + 2 < X.next := hlt _ (inG _ (by omega) (by omega))
  have lr : r0 < X.next := hlt _ (.inl hGr)
  have hput : was_Past_int_Put.f none [120] 1 X = some ((), X) := by rw [was_Past_int_Put.f, if_pos (by rfl), was_Past_int_Put.J0, if_pos rfl]
  rw [hput, Option.bind_some, ldB_cell xg, Option.bind_some, if_pos rfl, ldI_cell xk, Option.bind_some, ldI_cell xN, Option.bind_some, hLs, decide_eq_true rfl, rollcalllaw13_WasStays.J4, if_pos rfl, Option.bind_some, ldI_cell xN, Option.bind_some, Option.bind_some, ldSl_cell xq, Option.bind_some, hsl, hy0,
    show mn (ls.length : Int) (m : Int) = (xs.length : Int) by rw [hxl]; unfold mn; split <;> omega, decide_eq_true rfl, rollcalllaw13_WasStays.J5, if_pos rfl,
    show was_Past_int_Len.f none X = some (0, X) by rw [was_Past_int_Len.f, if_pos (by rfl)], Option.bind_some, decide_eq_true rfl, rollcalllaw13_WasStays.J6, if_pos rfl]
  obtain ⟨X1, e5, f5⟩ := nil_same (k := 2000) (T := X) (by omega) (want := Sl.nil) (ys := []) ⟨rfl, fun q hq => by cases hq⟩ (by simp) [120] true
  obtain ⟨X2, e6, f6⟩ := nil_same (k := 2000) (T := X1) (by omega) (want := Sl.nil) (ys := []) ⟨rfl, fun q hq => by cases hq⟩ (by simp) [120] false
  have f56 := f5.trans (f6.mono f5.le)
  have yr : X2.heap r0 = .cells 1 [[.bool false]] true := (f56.eq _ lr).trans xr
  have yd : X2.heap (T2.next + 2) = .defer := (f56.eq _ ld).trans xd
  have d1 : decide ((if true = true then ([] : List Ent) else ([] : List Ent).filter (likeName [120])) = []) = true := by decide
  have d2 : decide ((if false = true then ([] : List Ent) else ([] : List Ent).filter (likeName [120])) = []) = true := by decide
  rw [e5, Option.bind_some, d1, rollcalllaw13_WasStays.J7, if_pos rfl, e6, Option.bind_some, d2, rollcalllaw13_WasStays.J8, Option.bind_some, sets_cell _ yr, Option.bind_some]
  have zd : (X2.put r0 (.cells 1 [[.bool true]] true)).heap (T2.next + 2) = .defer := by rw [put_other _ (by omega)]; exact yd
  simp only [HS.leave, zd, Option.bind_some]
  have zb : ((X2.put r0 (.cells 1 [[.bool true]] true)).put (T2.next + 2) .dead).heap r0 = .cells 1 [[.bool true]] true := by rw [put_other _ (by omega)]; exact put_here _ _ _
  rw [ldB_cell zb, Option.bind_some]
  exact ⟨_, rfl⟩

theorem wasStays_law {S : HS} {sl : Sl} {ls : List Int} (hrd : Rd S.next S 1 sl (ls.map numRow)) {most : Int} (h1 : 0 ≤ most) (h2 : most ≤ 255) : ∃ S', rollcalllaw13_WasStays.f (disp 2000 3) (fun _ => none) 2000 most sl S = some (true, S') := by
  obtain ⟨m, rfl⟩ : ∃ m : Nat, most = (m : Int) := ⟨most.toNat, by omega⟩
  rw [rollcalllaw13_WasStays.f, letv, letv]
  have fA : Fr S.next S ((S.new (.cells 1 [[sl.hv]] true)).new (.cells 1 [[.bool false]] true)) := (Fr.new (Nat.le_refl _) _).trans (Fr.new (by rw [new_next]; omega) _)
  have a0 : ((S.new (.cells 1 [[sl.hv]] true)).new (.cells 1 [[.bool false]] true)).heap S.next = .cells 1 [[sl.hv]] true := by rw [new_old _ (by rw [new_next]; omega)]; exact new_here _ _
  have a1 : ((S.new (.cells 1 [[sl.hv]] true)).new (.cells 1 [[.bool false]] true)).heap (S.next + 1) = .cells 1 [[.bool false]] true := new_here (S.new (.cells 1 [[sl.hv]] true)) _
  have nA : ((S.new (.cells 1 [[sl.hv]] true)).new (.cells 1 [[.bool false]] true)).next = S.next + 2 := rfl
  rw [new_next]
  generalize (S.new (.cells 1 [[sl.hv]] true)).new (.cells 1 [[.bool false]] true) = A at fA a0 a1 nA ⊢
  obtain ⟨A1, e1, f1⟩ := awake_spec (S := A) (m := A.next) (Nat.le_refl _)
  have l1 := f1.le
  have hw : w64 (m : Int) = (m : Int) := w64_id (by omega) (by omega)
  obtain ⟨A2, e2, p2, f2⟩ := new_spec (m := A1.next) (most := (m : Int)) (T := A1) (by omega) (by omega) (Nat.le_refl _)
  obtain ⟨s0, c1, c2, c3⟩ := p2.cell
  have l2 := p2.hi
  have n2 : A2.next = A1.next + 1 := by
    have := e2
    unfold was_New_int.f at this
    rw [if_neg (by omega), was_New_int.J0, if_neg (by simp; omega), letv, Option.some.injEq, Prod.mk.injEq] at this
    rw [← this.2]; rfl
  rw [e1, Option.bind_some, if_neg (by simp), hw, e2, Option.bind_some, letv, n2, sets_cell _ (by rw [← n2]; exact new_here _ _), Option.bind_some, if_neg (by simp)]
  have fB : Fr A2.next A2 ((A2.new (.cells 1 [[.ptr none]] true)).put (A1.next + 1) (.cells 1 [[.ptr (some (HA.cell0 A1.next))]] true)) := (Fr.new (Nat.le_refl _) _).trans (Fr.put (by omega) _)
  have b1 : ((A2.new (.cells 1 [[.ptr none]] true)).put (A1.next + 1) (.cells 1 [[.ptr (some (HA.cell0 A1.next))]] true)).heap (A1.next + 1) = .cells 1 [[.ptr (some (HA.cell0 A1.next))]] true := put_here _ _ _
  have nB : ((A2.new (.cells 1 [[.ptr none]] true)).put (A1.next + 1) (.cells 1 [[.ptr (some (HA.cell0 A1.next))]] true)).next = A1.next + 2 := by simp only [put_next, new_next]; omega
  generalize (A2.new (.cells 1 [[.ptr none]] true)).put (A1.next + 1) (.cells 1 [[.ptr (some (HA.cell0 A1.next))]] true) = B at fB b1 nB ⊢
  have hfS : ∀ id, id < A1.next → id < A.next → B.heap id = A.heap id := fun id g1 g2 => by rw [fB.eq id (by omega), f2.eq id g1, f1.eq id g2]
  have bq : B.heap S.next = .cells 1 [[sl.hv]] true := (hfS _ (by omega) (by omega)).trans a0
  have br : B.heap (S.next + 1) = .cells 1 [[.bool false]] true := (hfS _ (by omega) (by omega)).trans a1
  have brow : B.rows sl 1 = some (ls.map numRow) := rows_keep hrd.rows fun x hx => by
    have := hrd.lt x hx
    rw [hfS _ (by omega) (by omega), fA.eq _ this]
  have hsl : (sl.len : Int) = ls.length := by rw [← rows_len brow]; simp
  rw [ldSl_cell bq, Option.bind_some, hsl, rollcalllaw13_WasStays.J0]
  by_cases hbig : 40 < ls.length
  · have bl : (B.put (S.next + 1) (.cells 1 [[.bool true]] true)).heap (S.next + 1) = .cells 1 [[.bool true]] true := put_here _ _ _
    rw [if_pos (by simp; omega), Option.bind_some, sets_cell _ br, Option.bind_some, HS.leave, Option.bind_some, Option.bind_some, decide_eq_true rfl, ldB_cell bl, Option.bind_some]
    exact ⟨_, rfl⟩
  rw [if_neg (by simp; omega)]
  let G : Nat → Prop := fun id => id < A1.next ∨ id = A1.next + 1
  have hsnil : s0 = Sl.nil := by
    have := e2
    unfold was_New_int.f at this
    rw [if_neg (by omega), was_New_int.J0, if_neg (by simp; omega), letv, Option.some.injEq, Prod.mk.injEq] at this
    rw [← this.2, new_here] at c1
    simp only [HObj.cells.injEq, List.cons.injEq, true_and, and_true] at c1
    exact (Sl.hv_inj c1).symm
  have hP : PastG G A1.next m [] 0 B := by
    refine ⟨⟨s0, (fB.eq _ (by omega)).trans c1, by rw [hsnil]; exact .nil, (by rw [hsnil]; intro q hq; cases hq), (by rw [hsnil]; intro q hq; cases hq)⟩, fun g => ?_, by omega, fun id g => ?_⟩
    · rcases g with g | g <;> omega
    · rcases g with g | g <;> omega
  obtain ⟨f', T', hist', xs', next', e3, q1, q2, q3, q4, q5⟩ := stays_loop (D := disp 2000 3) (H := fun _ => none) (k := 2000) (y0 := (m : Int)) (q := S.next) (r0 := S.next + 1) (p := A1.next) (m := m) (G := G) (B := B) (sl := sl) (ls := ls) (by omega) (by omega) bq (.inl (by omega)) b1 (.inr rfl) brow (fun x hx => .inl (by have := hrd.lt x hx; omega)) 2000 0 B [] [] 0 (by omega) (by omega) hP (Ring.nil m) (fun _ => by simp) (fun _ => rfl) (fun _ _ => rfl)
  have e3' := e3
  rw [show ((0 : Nat) : Int) = 0 from rfl] at e3'
  rw [e3']
  exact stays_end hw (by omega) (by omega) bq (.inl (by omega)) b1 (.inr rfl) brow (fun x hx => .inl (by have := hrd.lt x hx; omega)) br (.inl (by omega)) q1 q2 q3 q4 q5

theorem rows_nums : ∀ {rows : List (List HV)}, (∀ row ∈ rows, RowFits [.int .i64] row) → ∃ ls : List Int, rows = ls.map numRow := by
  intro rows
  induction rows with
  | nil => intro _; exact ⟨[], rfl⟩
  | cons r rows ih =>
    intro h
    obtain ⟨ls, e⟩ := ih fun row hr => h row (by simp [hr])
    have h0 := h r (by simp)
    have hl := h0.len
    obtain ⟨v0, rfl⟩ : ∃ v0, r = [v0] := by
      cases r with
      | nil => simp at hl
      | cons v0 r =>
        cases r with
        | nil => exact ⟨v0, rfl⟩
        | cons v1 r => simp at hl
    obtain ⟨q1, _⟩ := h0
    obtain ⟨n, h1, _⟩ := q1
    exact ⟨n :: ls, by rw [e, h1]; rfl⟩
set_option maxRecDepth 20000 in
theorem wasStays_call (W : World) (β0 : Bt) (S : HS) (x0 : Int) (w0 : (Lit.int .u8 x0).wf = true) (s1 : Sl) (rows1 : List (List HV)) (h1 : ArgSl S 1 s1 rows1) (f1 : ∀ row ∈ rows1, RowFits [.int .i64] row) :
    HCall Try.prog W.heap.size W β0 4 [.int .u8 x0, s1.hv] S (fun v _ => v = .bool true) := by
  obtain ⟨ls, rfl⟩ := rows_nums f1
  have hn : 0 ≤ x0 ∧ x0 ≤ 255 := by simpa [Lit.wf, IntKind.min, IntKind.max, IntKind.signed, IntKind.bits] using w0
  obtain ⟨_, h⟩ := wasStays_law h1.rd hn.1 hn.2
  exact (rollcalllaw13_WasStays.snd (disp_snd 3) (fun _ _ h => by cases h) h).mono fun _ _ h => h.1
end Go.Proofs.Ytlmpmnbljpigiaa.X
