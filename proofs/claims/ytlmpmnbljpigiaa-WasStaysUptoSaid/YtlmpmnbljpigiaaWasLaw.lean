/- The layer was: the past, plain. -/
import Derived.Test.YtlmpmnbljpigiaaWasBase
namespace Go.Proofs.Ytlmpmnbljpigiaa.X
open Go.Proofs.Ytlmpmnbljpigiaa.HL
set_option linter.unusedVariables false
abbrev Ent := List UInt8 × Int

structure PastAt (n p : Nat) (most : Int) (xs : List Ent) (next : Int) (T : HS) : Prop where
  cell : ∃ s, T.heap p = .cells 3 [[.int .i64 most, s.hv, .int .i64 next]] true ∧ Vec n T 2 s (xs.map pairRow) ∧ ∀ q, s.a = some q → q.1 ≠ p
  lo : n ≤ p
  hi : p < T.next
theorem PastAt.frame {n p : Nat} {most : Int} {xs : List Ent} {next : Int} {T T' : HS} (h : PastAt n p most xs next T) (hf : Fr T.next T T') : PastAt n p most xs next T' := by
  obtain ⟨s, h1, h2, h3⟩ := h.cell
  exact ⟨⟨s, by rw [hf.eq p h.hi]; exact h1, h2.frame hf (Nat.le_refl _), h3⟩, h.lo, Nat.lt_of_lt_of_le h.hi hf.le⟩

theorem new_spec {m : Nat} {most : Int} {T : HS} (h0 : 0 ≤ most) (h1 : most ≤ 100000) (hm : m ≤ T.next) : ∃ T', was_New_int.f most T = some ((some (HA.cell0 T.next), 0), T') ∧ PastAt m T.next most [] 0 T' ∧ Fr m T T' := by
  unfold was_New_int.f
  rw [if_neg (by omega), was_New_int.J0, if_neg (by simp; omega), letv]
  exact ⟨_, rfl, ⟨⟨Sl.nil, new_here _ _, .nil, fun q hq => by cases hq⟩, hm, Nat.lt_succ_self _⟩, Fr.new hm _⟩

/-- What a past of so much room holds behind so many puts. -/
structure Ring (most : Nat) (hist xs : List Ent) (next : Int) : Prop where
  len : xs.length = min hist.length most
  at_ : ∀ k, hist.length - min hist.length most ≤ k → k < hist.length → xs[k % most]? = hist[k]?
  next : next = (hist.length % most : Nat)
theorem Ring.nil (most : Nat) : Ring most [] [] 0 := ⟨by simp, fun k _ h => by simp at h, by simp⟩
theorem ring_app {most : Nat} {hist xs : List Ent} {next : Int} (h : Ring most hist xs next) (hlt : xs.length < most) (e : Ent) : Ring most (hist ++ [e]) (xs ++ [e]) (((next + 1).tmod most)) := by
  have hl : xs.length = hist.length := by have := h.len; omega
  refine ⟨by simp; omega, fun k h1 h2 => ?_, ?_⟩
  · simp only [List.length_append, List.length_singleton] at h2
    rw [Nat.mod_eq_of_lt (by omega)]
    by_cases hk : k < hist.length
    · rw [List.getElem?_append_left (by omega), List.getElem?_append_left hk]
      have := h.at_ k (by omega) hk
      rwa [Nat.mod_eq_of_lt (by omega)] at this
    · rw [List.getElem?_append_right (by omega), List.getElem?_append_right (by omega), hl]
  · rw [h.next, Nat.mod_eq_of_lt (show hist.length < most by omega), List.length_append, List.length_singleton, Int.tmod_eq_emod_of_nonneg (by omega)]
    norm_cast
theorem ring_set {most : Nat} {hist xs : List Ent} {next : Int} (h : Ring most hist xs next) (h0 : 0 < most) (hge : xs.length = most) (e : Ent) : Ring most (hist ++ [e]) (xs.set (hist.length % most) e) (((next + 1).tmod most)) := by
  have hl : most ≤ hist.length := by have := h.len; omega
  have hmod := Nat.mod_lt hist.length h0
  refine ⟨by simp; omega, fun k h1 h2 => ?_, ?_⟩
  · simp only [List.length_append, List.length_singleton] at h1 h2
    by_cases hk : k < hist.length
    · have hne : hist.length % most ≠ k % most := by
        intro heq
        have hd := Nat.sub_mod_eq_zero_of_mod_eq heq
        rw [Nat.mod_eq_of_lt (by omega)] at hd
        omega
      rw [List.getElem?_set_ne hne, List.getElem?_append_left hk]
      exact h.at_ k (by omega) hk
    · obtain rfl : k = hist.length := by omega
      rw [List.getElem?_set_self (by omega), List.getElem?_append_right (Nat.le_refl _)]
      simp
  · rw [h.next, List.length_append, List.length_singleton, Int.tmod_eq_emod_of_nonneg (by omega)]
    have : (((hist.length % most : Nat) : Int) + 1) % (most : Int) = (((hist.length % most + 1) % most : Nat) : Int) := by norm_cast
    rw [this, Nat.mod_add_mod]

theorem put_tail {n p : Nat} {most : Int} {xs : List Ent} {next : Int} {T : HS} (h : PastAt n p most xs next T) (h0 : 0 < most) (hn : 0 ≤ next) (hn2 : next < 1000000) :
    ∃ T', was_Past_int_Put.J1 (some (HA.cell0 p)) T = some ((), T') ∧ PastAt n p most xs ((next + 1).tmod most) T' ∧ Fr n T T' ∧ T'.next = T.next := by
  obtain ⟨s, h1, h2, h3⟩ := h.cell
  unfold was_Past_int_Put.J1
  have hr := cell_row h1
  rw [Option.bind_some, row_ldI hr rfl rfl, Option.bind_some, Option.bind_some, row_ldI hr rfl rfl, Option.bind_some, if_pos (by omega), Option.bind_some, w64_id (by omega) (by omega), sets_row h1 rfl (by simp), Option.bind_some]
  exact ⟨_, rfl, ⟨⟨s, put_here _ _ _, h2.put_ne h3, h3⟩, h.lo, h.hi⟩, Fr.put h.lo _, rfl⟩

theorem put_spec {n p m : Nat} {hist xs : List Ent} {next : Int} {T : HS} (h : PastAt n p m xs next T) (hR : Ring m hist xs next) (h0 : 0 < m) (hm : m ≤ 100000) (nm : List UInt8) (v : Int) :
    ∃ T' xs' next', was_Past_int_Put.f (some (HA.cell0 p)) nm v T = some ((), T') ∧ PastAt n p m xs' next' T' ∧ Ring m (hist ++ [(nm, v)]) xs' next' ∧ Fr n T T' := by
  obtain ⟨s, h1, h2, h3⟩ := h.cell
  have hr := cell_row h1
  have hmod := Nat.mod_lt hist.length h0
  have hnx := hR.next
  have hxl := hR.len
  have hsl : s.len = xs.length := by rw [h2.len]; simp
  unfold was_Past_int_Put.f
  rw [if_neg (by simp), Option.bind_some, row_ldI hr rfl rfl, Option.bind_some, was_Past_int_Put.J0, if_neg (by simp; omega), Option.bind_some, row_ldSl hr rfl rfl, Option.bind_some, Option.bind_some, row_ldI hr rfl rfl, Option.bind_some]
  by_cases hlt : xs.length < m
  · rw [if_pos (by omega), Option.bind_some, row_ldSl hr rfl rfl, Option.bind_some, letv]
    have hlit := Vec.lit (n := n) (z := 2) (S := T) [[.str nm, .int .i64 v]] (Nat.le_trans h.lo (Nat.le_of_lt h.hi))
    rw [hlit.rows, Option.bind_some]
    have h2' : Vec n (T.lit [[.str nm, .int .i64 v]] 2).2 2 s (xs.map pairRow) := h2.new _
    obtain ⟨s', T2, e2, v2, f2, k2, q2⟩ := h2'.app2 (new := [[.str nm, .int .i64 v]]) (Nat.le_trans (Nat.le_trans h.lo (Nat.le_of_lt h.hi)) (Nat.le_succ _)) (by simp; omega)
    rw [e2, Option.bind_some, Option.bind_some]
    have hp2 : T2.heap p = .cells 3 [[.int .i64 m, s.hv, .int .i64 next]] true := by
      rw [k2 p (Nat.lt_succ_of_lt h.hi) h3]
      exact (new_old _ h.hi).trans h1
    rw [sets_row hp2 rfl (by simp), Option.bind_some]
    have hne : ∀ q, s'.a = some q → q.1 ≠ p := by
      intro q hq
      rcases q2 q hq with h5 | ⟨q0, h5, h6⟩
      · have : T.next + 1 ≤ q.1 := h5
        have := h.hi
        omega
      · rw [← h6]; exact h3 q0 h5
    have hP : PastAt n p m (xs ++ [(nm, v)]) next (T2.put p (.cells 3 ([[.int .i64 m, s.hv, .int .i64 next]].set 0 (List.take 1 [.int .i64 m, s.hv, .int .i64 next] ++ [s'.hv] ++ List.drop (1 + [s'.hv].length) [.int .i64 m, s.hv, .int .i64 next])) true)) := by
      refine ⟨⟨s', put_here _ _ _, ?_, hne⟩, h.lo, ?_⟩
      · have := v2.put_ne (id := p) (o := .cells 3 ([[.int .i64 m, s.hv, .int .i64 next]].set 0 (List.take 1 [.int .i64 m, s.hv, .int .i64 next] ++ [s'.hv] ++ List.drop (1 + [s'.hv].length) [.int .i64 m, s.hv, .int .i64 next])) true) hne
        rw [List.map_append]
        exact this
      · rw [put_next]; exact Nat.lt_of_lt_of_le h.hi (Nat.le_trans (Nat.le_succ _) f2.le)
    obtain ⟨T3, e3, p3, f3, _⟩ := put_tail hP (by omega) (by omega) (by omega)
    exact ⟨T3, _, _, e3, p3, ring_app hR hlt _, (((Fr.new (Nat.le_trans h.lo (Nat.le_of_lt h.hi)) _).trans f2).trans (Fr.put h.lo _)).trans f3⟩
  · have hge : xs.length = m := by omega
    rw [if_neg (by omega), Option.bind_some, row_ldSl hr rfl rfl, Option.bind_some, Option.bind_some, row_ldI hr rfl rfl, Option.bind_some, hnx]
    obtain ⟨ad, T2, e1, e2, e3, e4, v2, f2, n2, k2⟩ := h2.set_ (i := hist.length % m) (row := [.str nm, .int .i64 v]) (by simp; omega) (by simp [pairRow])
    rw [e1, Option.bind_some, e4, Option.bind_some]
    have hp2 : T2.heap p = .cells 3 [[.int .i64 m, s.hv, .int .i64 next]] true := by rw [k2 p h3]; exact h1
    have hP : PastAt n p m (xs.set (hist.length % m) (nm, v)) next T2 := by
      refine ⟨⟨s, hp2, ?_, h3⟩, h.lo, by rw [n2]; exact h.hi⟩
      have : (xs.map pairRow).set (hist.length % m) [.str nm, .int .i64 v] = (xs.set (hist.length % m) (nm, v)).map pairRow := by rw [List.map_set]; rfl
      rw [← this]; exact v2
    obtain ⟨T3, e5, p3, f3, _⟩ := put_tail hP (by omega) (by omega) (by omega)
    exact ⟨T3, _, _, e5, p3, ring_set hR h0 hge _, f2.trans f3⟩

theorem len_spec {n p : Nat} {most : Int} {xs : List Ent} {next : Int} {T : HS} (h : PastAt n p most xs next T) : was_Past_int_Len.f (some (HA.cell0 p)) T = some ((xs.length : Int), T) := by
  obtain ⟨s, h1, h2, h3⟩ := h.cell
  unfold was_Past_int_Len.f
  rw [if_neg (by simp), Option.bind_some, row_ldSl (cell_row h1) rfl rfl, Option.bind_some, h2.len]
  simp

/-- The last so many, the newest ahead. -/
def lastOf (most : Nat) (hist : List Ent) : List Ent := hist.reverse.take most
theorem ring_pos {most : Nat} {hist xs : List Ent} {next : Int} (h : Ring most hist xs next) (h0 : 0 < most) {i : Nat} (hi : i < xs.length) :
    ∃ q : Nat, q < xs.length ∧ Int.tmod (Int.tmod (next - 1 - i) xs.length + xs.length) xs.length = (q : Int) ∧ xs[q]? = (lastOf most hist)[i]? := by
  have hl := h.len
  have hmod := Nat.mod_lt hist.length h0
  have hdiv := Nat.div_add_mod hist.length most
  have hn := h.next
  have key : ∀ a : Int, -(xs.length : Int) ≤ a → a < xs.length → Int.tmod (Int.tmod a xs.length + xs.length) xs.length = if 0 ≤ a then a else a + xs.length := by
    intro a h1 h2
    by_cases ha : 0 ≤ a
    · rw [if_pos ha, Int.tmod_eq_of_lt ha h2, Int.tmod_eq_emod_of_nonneg (by omega), Int.add_emod_right, Int.emod_eq_of_lt ha h2]
    · rw [if_neg ha]
      have e : Int.tmod a xs.length = - (Int.tmod (-a) xs.length) := by rw [Int.neg_tmod]; simp
      by_cases hb : a = -(xs.length : Int)
      · have e2 : Int.tmod (-(xs.length : Int)) xs.length = 0 := by rw [Int.neg_tmod, Int.tmod_self]; rfl
        rw [hb, e2, Int.zero_add, Int.tmod_self]; omega
      · rw [e, Int.tmod_eq_of_lt (a := -a) (by omega) (by omega), Int.neg_neg, Int.tmod_eq_of_lt (a := a + xs.length) (by omega) (by omega)]
  have hpos : ∀ q : Nat, q < xs.length → q = (hist.length - 1 - i) % most → xs[q]? = (lastOf most hist)[i]? := by
    intro q hq he
    rw [he, h.at_ (hist.length - 1 - i) (by omega) (by omega), lastOf, List.getElem?_take, if_pos (by omega), List.getElem?_reverse (by omega)]
  by_cases hlt : hist.length < most
  · have hnx : next = hist.length := by rw [hn, Nat.mod_eq_of_lt hlt]
    rw [key _ (by omega) (by omega), if_pos (by omega)]
    refine ⟨hist.length - 1 - i, by omega, by omega, hpos _ (by omega) (by rw [Nat.mod_eq_of_lt (by omega)])⟩
  · have hxm : xs.length = most := by omega
    rw [key _ (by omega) (by omega)]
    by_cases ha : 0 ≤ next - 1 - (i : Int)
    · rw [if_pos ha]
      refine ⟨hist.length % most - 1 - i, by omega, by omega, hpos _ (by omega) ?_⟩
      have : hist.length - 1 - i = most * (hist.length / most) + (hist.length % most - 1 - i) := by omega
      rw [this, Nat.mul_add_mod]
      exact (Nat.mod_eq_of_lt (by omega)).symm
    · rw [if_neg ha]
      have hd1 : 1 ≤ hist.length / most := Nat.div_pos (by omega) h0
      obtain ⟨c, hc⟩ : ∃ c, hist.length / most = c + 1 := ⟨hist.length / most - 1, by omega⟩
      rw [hc, Nat.mul_add, Nat.mul_one] at hdiv
      refine ⟨most + hist.length % most - 1 - i, by omega, by omega, hpos _ (by omega) ?_⟩
      have : hist.length - 1 - i = most * c + (most + hist.length % most - 1 - i) := by omega
      rw [this, Nat.mul_add_mod]
      exact (Nat.mod_eq_of_lt (by omega)).symm

theorem lastOf_len {most : Nat} {hist xs : List Ent} {next : Int} (h : Ring most hist xs next) : (lastOf most hist).length = xs.length := by
  rw [lastOf, List.length_take, List.length_reverse, h.len]; omega
theorem rows_loop {k n p m : Nat} {hist xs : List Ent} {next : Int} {n1 : Nat} (h0 : 0 < xs.length → 0 < m) (hm : m ≤ 100000) (hR : Ring m hist xs next) : ∀ (f i : Nat) (T : HS) (s : Sl), xs.length - i < f → i ≤ xs.length → PastAt n p m xs next T → n1 ≤ T.next → p < n1 → (∀ sp : Sl, (∃ nx, T.heap p = .cells 3 [[.int .i64 m, sp.hv, .int .i64 nx]] true) → ∀ q : Nat × Nat, sp.a = some q → q.1 < n1) →
    Vec n1 T 2 s (((lastOf m hist).take i).map pairRow) → ∃ s' T', was_Past_int_rows.L0 k f (some (HA.cell0 p)) s (xs.length : Int) (i : Int) T = some (s', T') ∧ Vec n1 T' 2 s' ((lastOf m hist).map pairRow) ∧ Fr n1 T T' := by
  intro f
  induction f with
  | zero => intro i T s h; omega
  | succ f ih =>
    intro i T s hf hi hP hn1 hp1 hsp hv
    unfold was_Past_int_rows.L0
    by_cases hlt : i < xs.length
    · have h0 := h0 (by omega)
      obtain ⟨sp, h1, h2, h3⟩ := hP.cell
      have hr := cell_row h1
      have hmod := Nat.mod_lt hist.length h0
      have hnx := hR.next
      have hxl := hR.len
      have hsl : (sp.len : Int) = xs.length := by rw [h2.len]; simp
      obtain ⟨q, q1, q2, q3⟩ := ring_pos hR h0 hlt
      have hb1 : -(xs.length : Int) ≤ Int.tmod (next - 1 - i) xs.length ∧ Int.tmod (next - 1 - i) xs.length ≤ xs.length := by
        have := Int.tmod_lt_of_pos (next - 1 - (i : Int)) (show (0 : Int) < xs.length by omega)
        have := Int.lt_tmod_of_pos (next - 1 - (i : Int)) (show (0 : Int) < xs.length by omega)
        omega
      obtain ⟨ad, a1, a2, a3⟩ := pair_rows h2.rows (i := q) q1
      have hxq : xs[q] = (lastOf m hist)[i]'(by rw [lastOf_len hR]; exact hlt) := by
        rw [List.getElem?_eq_getElem q1, List.getElem?_eq_getElem (by rw [lastOf_len hR]; exact hlt)] at q3
        exact Option.some.inj q3
      rw [if_pos (by omega), Option.bind_some, row_ldSl hr rfl rfl, Option.bind_some, Option.bind_some, row_ldSl hr rfl rfl, Option.bind_some, Option.bind_some, row_ldI hr rfl rfl, Option.bind_some, if_pos (by omega), if_pos (by omega), hsl,
        w64_id (n := next - 1) (by omega) (by omega), w64_id (n := next - 1 - i) (by omega) (by omega), w64_id (n := Int.tmod (next - 1 - i) xs.length + xs.length) (by omega) (by omega), q2, a1, Option.bind_some, a2, Option.bind_some, a3, Option.bind_some, letv]
      have hlit := Vec.lit (n := n1) (z := 2) (S := T) [[.str xs[q].1, .int .i64 xs[q].2]] hn1
      rw [hlit.rows, Option.bind_some]
      have hv' : Vec n1 (T.lit [[.str xs[q].1, .int .i64 xs[q].2]] 2).2 2 s (((lastOf m hist).take i).map pairRow) := hv.new _
      obtain ⟨s', T2, e2, v2, f2⟩ := hv'.app (new := [[.str xs[q].1, .int .i64 xs[q].2]]) (Nat.le_trans hn1 (Nat.le_succ _)) (by simp; have := lastOf_len hR; omega)
      rw [e2, Option.bind_some, w64_id (by omega) (by omega), show ((i : Int) + 1) = ((i + 1 : Nat) : Int) by simp]
      have hfr : Fr n1 T T2 := (lit_fr (n := n1) (z := 2) (S := T) [[.str xs[q].1, .int .i64 xs[q].2]] hn1).trans f2
      have hv3 : Vec n1 T2 2 s' (((lastOf m hist).take (i + 1)).map pairRow) := by
        rw [List.take_succ_eq_append_getElem (by rw [lastOf_len hR]; exact hlt), List.map_append]
        rw [hxq] at v2
        exact v2
      have hq : ∀ q, sp.a = some q → q.1 < n1 := hsp sp ⟨next, h1⟩
      have hP2 : PastAt n p m xs next T2 := by
        refine ⟨⟨sp, by rw [hfr.eq p hp1]; exact h1, ?_, h3⟩, hP.lo, Nat.lt_of_lt_of_le hP.hi hfr.le⟩
        exact h2.frame2 hfr.eq hfr.le hq
      obtain ⟨s3, T3, e3, v3, f3⟩ := ih (i + 1) T2 s' (by omega) (by omega) hP2 (Nat.le_trans hn1 hfr.le) hp1 (by
        rintro sq ⟨nx, hx⟩
        refine hsp sq ⟨nx, ?_⟩
        rw [← hfr.eq p hp1]; exact hx) hv3
      exact ⟨s3, T3, e3, v3, hfr.trans f3⟩
    · obtain rfl : i = xs.length := by omega
      rw [if_neg (by omega)]
      rw [← lastOf_len hR, List.take_length] at hv
      exact ⟨s, T, rfl, hv, Fr.refl _ _⟩
theorem rows_spec {k n p m : Nat} {hist xs : List Ent} {next : Int} {T : HS} (h0 : 0 < xs.length → 0 < m) (hm : m ≤ 100000) (hR : Ring m hist xs next) (hk : xs.length < k) (hP : PastAt n p m xs next T) :
    ∃ s' T', was_Past_int_rows.f k (some (HA.cell0 p)) T = some (s', T') ∧ Vec T.next T' 2 s' ((lastOf m hist).map pairRow) ∧ Fr T.next T T' := by
  unfold was_Past_int_rows.f
  rw [len_spec hP, Option.bind_some]
  obtain ⟨sp, h1, h2, h3⟩ := hP.cell
  exact rows_loop (k := k) (n1 := T.next) h0 hm hR k 0 T Sl.nil (by omega) (by omega) hP (Nat.le_refl _) hP.hi (by
    rintro sq ⟨nx, hx⟩ q hq
    rw [h1] at hx
    simp only [HObj.cells.injEq, List.cons.injEq, true_and, and_true] at hx
    have : sp = sq := Sl.hv_inj hx.1
    subst this
    exact (h2.lo q hq).2) .nil
theorem all_spec {k n p m : Nat} {hist xs : List Ent} {next : Int} {T : HS} (h0 : 0 < xs.length → 0 < m) (hm : m ≤ 100000) (hR : Ring m hist xs next) (hk : xs.length < k) (hP : PastAt n p m xs next T) :
    ∃ c s' T', was_Past_int_All.f k (some (HA.cell0 p)) T = some (.fn (.func 15) [] [.ptr (some (HA.cell0 c))], T') ∧ T.next ≤ c ∧ c < T'.next ∧ T'.heap c = .cells 1 [[s'.hv]] true ∧ Rd T'.next T' 2 s' ((lastOf m hist).map pairRow) ∧ Fr T.next T T' := by
  obtain ⟨s', T1, e1, v1, f1⟩ := rows_spec h0 hm hR hk hP
  unfold was_Past_int_All.f
  rw [e1, Option.bind_some, letv, sets_cell _ (new_here _ _), Option.bind_some]
  refine ⟨T1.next, s', _, rfl, f1.le, Nat.lt_succ_self _, put_here _ _ _, ?_, f1.trans ((Fr.new f1.le _).trans (Fr.put f1.le _))⟩
  exact (((v1.rd).frame (Fr.new (Nat.le_refl _) _) (Nat.le_refl _)).frame (Fr.put (Nat.le_refl _) _) (Nat.le_refl _)).mono (Nat.le_succ _)
end Go.Proofs.Ytlmpmnbljpigiaa.X
