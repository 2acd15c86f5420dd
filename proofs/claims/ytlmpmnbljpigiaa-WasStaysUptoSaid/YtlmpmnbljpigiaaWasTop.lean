/- The layer was: WasPlays, plain. -/
import Derived.Test.YtlmpmnbljpigiaaWasSame
namespace Go.Proofs.Ytlmpmnbljpigiaa.X
open Go.Proofs.Ytlmpmnbljpigiaa.HL
set_option linter.unusedVariables false

theorem keep_rows {B S : HS} {r0 : Nat} {v : HV} {s : Sl} {rows : List (List HV)} (h : Rd B.next B 2 s rows) (hr : B.heap r0 = .cells 1 [[v]] true) (hk : ∀ id, id < B.next → id ≠ r0 → S.heap id = B.heap id) : S.rows s 2 = some rows := by
  have := h.rows
  unfold HS.rows at this ⊢
  cases ha : s.a with
  | none => rw [ha] at this; exact this
  | some q =>
    obtain ⟨id, off⟩ := q
    rw [ha] at this
    simp only at this ⊢
    have hlt := h.lt _ ha
    by_cases e : id = r0
    · subst e; rw [hr] at this; simp at this
    · rw [hk id hlt e]; exact this
theorem lastOf_mem {m : Nat} {hist : List Ent} {x : Ent} (h : x ∈ lastOf m hist) : x ∈ hist := List.mem_reverse.1 (List.mem_of_mem_take h)

theorem past_same {k n p m : Nat} {hist xs : List Ent} {next : Int} {T : HS} (h0 : 0 < xs.length → 0 < m) (hm : m ≤ 100000) (hR : Ring m hist xs next) (hP : PastAt n p m xs next T) (hxs : xs.length ≤ 1000) (hk : 2000 ≤ k) (hnames : ∀ x ∈ hist, x.1.length ≤ 1000) {want : Sl} {ys : List Ent}
    (hrd : Rd T.next T 2 want (ys.map pairRow)) (hy : ys.length ≤ 1000000) (nm : List UInt8) (all : Bool) :
    ∃ T', rollcalllaw13_same.f (disp k 3) (fun _ => none) k (some (HA.cell0 p)) want nm all T = some (decide ((if all then lastOf m hist else (lastOf m hist).filter (likeName nm)) = ys), T') ∧ Fr T.next T T' := by
  have hP2 : PastAt n p m xs next ((T.new (.cells 1 [[want.hv]] true)).new (.cells 1 [[.bool false]] true)) := (hP.frame (Fr.new (Nat.le_refl _) _)).frame (Fr.new (Nat.le_refl _) _)
  have hw2 : ((T.new (.cells 1 [[want.hv]] true)).new (.cells 1 [[.bool false]] true)).heap T.next = .cells 1 [[want.hv]] true := by rw [new_old _ (by rw [new_next]; omega)]; exact new_here _ _
  have hr2 : ((T.new (.cells 1 [[want.hv]] true)).new (.cells 1 [[.bool false]] true)).heap (T.next + 1) = .cells 1 [[.bool false]] true := new_here (T.new (.cells 1 [[want.hv]] true)) _
  have hd2 : Rd T.next ((T.new (.cells 1 [[want.hv]] true)).new (.cells 1 [[.bool false]] true)) 2 want (ys.map pairRow) := (hrd.frame (Fr.new (Nat.le_refl _) _) (Nat.le_refl _)).frame (Fr.new (by rw [new_next]; omega) _) (Nat.le_refl _)
  have hf2 : Fr T.next T ((T.new (.cells 1 [[want.hv]] true)).new (.cells 1 [[.bool false]] true)) := (Fr.new (Nat.le_refl _) _).trans (Fr.new (by rw [new_next]; omega) _)
  have hn2 : ((T.new (.cells 1 [[want.hv]] true)).new (.cells 1 [[.bool false]] true)).next = T.next + 2 := rfl
  rw [rollcalllaw13_same.f, letv, letv, new_next]
  generalize (T.new (.cells 1 [[want.hv]] true)).new (.cells 1 [[.bool false]] true) = T2 at *
  have hLlen := lastOf_len hR
  obtain ⟨c, s, cA, cN, T3, e3, g1, g2, g3, g4, g5, g6, g7, g8⟩ := find_spec h0 hm hR (k := k) (by omega) hP2 nm
  rw [e3, Option.bind_some]
  rw [hn2] at g5 g6 g7 g8
  have hle3 : T.next + 2 ≤ T3.next := by have := g8.le; omega
  have hkn : ∀ x ∈ lastOf m hist, x.1.length ≤ 1000 := fun x hx => hnames x (lastOf_mem hx)
  cases all with
  | false =>
    rw [if_neg (by simp)]
    have hB : T3.heap T.next = .cells 1 [[want.hv]] true := (g8.eq _ (by omega)).trans hw2
    have hBr : T3.heap (T.next + 1) = .cells 1 [[.bool false]] true := (g8.eq _ (by omega)).trans hr2
    obtain ⟨T', e, k1, k2⟩ := same_core (D := disp k 3) (k := k) (w0 := T.next) (r0 := T.next + 1) (B := T3) (want := want) (Ls := (lastOf m hist).filter (likeName nm)) (ys := ys) (f := .func 16) (u := []) (v := [.ptr (some (HA.cell0 cA)), .ptr (some (HA.cell0 cN))]) (by omega) (by omega) (by omega) hB hBr
      ((hd2.mono (show T.next ≤ T.next + 1 by omega)).frame g8 (by omega)) hy (by
        intro H r I Stop hl hst hsS hmm hmS hkeep hstep S hS
        exact find_tells (n := 0) (m := T3.next + 4) (c := c) (cA := cA) (cN := cN) (xs := lastOf m hist) (s := s) (nm := nm) hl I Stop hst hsS hmm hmS (fun i S h => (hkeep i S h cA (by omega) (by omega)).trans g1) (fun i S h => (hkeep i S h cN (by omega) (by omega)).trans g2) (fun i S h => (hkeep i S h c (by omega) (by omega)).trans g3)
          (fun i S h => keep_rows g4 hBr (hkeep i S h)) hstep (by omega) (by omega) hk hkn S hS)
    refine ⟨T', by simpa using e, ⟨by omega, fun id hid => ?_⟩⟩
    rw [k1 id (by omega) (by omega), g8.eq id (by omega)]
    exact hf2.eq id hid
  | true =>
    rw [if_pos rfl]
    have hP3 : PastAt n p m xs next T3 := hP2.frame (by rw [hn2]; exact g8)
    obtain ⟨c', s', T4, e4, q1, q2, q3, q4, q5⟩ := all_spec h0 hm hR (k := k) (by omega) hP3
    have hle4 := q5.le
    rw [e4, Option.bind_some]
    have hB : T4.heap T.next = .cells 1 [[want.hv]] true := (q5.eq _ (by omega)).trans ((g8.eq _ (by omega)).trans hw2)
    have hBr : T4.heap (T.next + 1) = .cells 1 [[.bool false]] true := (q5.eq _ (by omega)).trans ((g8.eq _ (by omega)).trans hr2)
    obtain ⟨T', e, k1, k2⟩ := same_core (D := disp k 3) (k := k) (w0 := T.next) (r0 := T.next + 1) (B := T4) (want := want) (Ls := lastOf m hist) (ys := ys) (f := .func 15) (u := []) (v := [.ptr (some (HA.cell0 c'))]) (by omega) (by omega) (by omega) hB hBr
      (((hd2.mono (show T.next ≤ T.next + 1 by omega)).frame g8 (by omega)).frame q5 (by omega)) hy (by
        intro H r I Stop hl hst hsS hmm hmS hkeep hstep S hS
        exact all_tells (n := 1) (m := T4.next + 4) (c := c') (xs := lastOf m hist) (s := s') hl I Stop hst hmm (fun i S h => (hkeep i S h c' (by omega) (by omega)).trans q3)
          (fun i S h => keep_rows q4 hBr (hkeep i S h)) (fun i hi S h => by
            obtain ⟨b, S', z1, z2, z3, z4⟩ := hstep i hi S h
            exact ⟨b, S', z1, z3, z4⟩) (by omega) (by omega) S hS)
    refine ⟨T', by simpa using e, ⟨by omega, fun id hid => ?_⟩⟩
    rw [k1 id (by omega) (by omega), q5.eq id (by omega), g8.eq id (by omega)]
    exact hf2.eq id hid

theorem rd_cut {m z : Nat} {S : HS} {s : Sl} {rows : List (List HV)} (h : Rd m S z s rows) {e : Nat} (he : e ≤ rows.length) : ∃ s', S.cut s 0 (e : Int) z = some s' ∧ Rd m S z s' (rows.take e) := by
  have hr := h.rows
  have hl := h.len
  unfold HS.rows at hr
  unfold HS.cut
  rw [if_pos ⟨Int.le_refl _, by omega⟩]
  cases ha : s.a with
  | none =>
    rw [ha] at hr
    simp only at hr ⊢
    split at hr
    · cases hr
      have : e = 0 := by simpa using he
      subst this
      refine ⟨_, by simp; rfl, ⟨by simp [HS.rows], fun p hp => by cases hp⟩⟩
    · cases hr
  | some q =>
    obtain ⟨id, off⟩ := q
    rw [ha] at hr
    simp only at hr ⊢
    have hlt := h.lt _ ha
    split at hr
    · rename_i z' rws own hh
      split at hr
      · rename_i hc
        cases hr
        obtain ⟨rfl, hc2⟩ := hc
        rw [if_pos ⟨rfl, .inl (by omega)⟩]
        refine ⟨_, rfl, ⟨?_, fun p hp => by cases hp; exact hlt⟩⟩
        simp only [HS.rows, hh]
        simp
        constructor
        · omega
        · rw [List.take_take, Nat.min_eq_left (by omega)]
      · cases hr
    · cases hr

def flt (all : Bool) (nm : List UInt8) (l : List Ent) : List Ent := if all then l else l.filter (likeName nm)
theorem flt_snoc (all : Bool) (nm : List UInt8) (l : List Ent) (x : Ent) : flt all nm (l ++ [x]) = flt all nm l ++ (if all || likeName nm x then [x] else []) := by
  unfold flt
  cases all with
  | true => simp
  | false =>
    simp only [Bool.false_eq_true, if_false, List.filter_append, Bool.false_or]
    congr 1
    cases h : likeName nm x <;> simp [h]
theorem last_loop {k m n1 : Nat} {ls : List Ent} {sl : Sl} {nm : List UInt8} {all : Bool} (hk : 2000 ≤ k) (hm : m ≤ 100000) (hls : ls.length ≤ 100000) (hn : nm.length ≤ 1000) (hnames : ∀ x ∈ ls, x.1.length ≤ 1000) : ∀ (f j : Nat) (T : HS) (out : Sl), ls.length - j < f → j ≤ ls.length → j ≤ m → n1 ≤ T.next → Rd n1 T 2 sl (ls.map pairRow) →
    Vec n1 T 2 out ((flt all nm (ls.reverse.take j)).map pairRow) → ∃ out' T', rollcallref13_Last.L0 k f sl (m : Int) nm all out ((ls.length : Int) - 1 - j) T = some (out', T') ∧ Vec n1 T' 2 out' ((flt all nm (lastOf m ls)).map pairRow) ∧ Fr n1 T T' := by
  intro f
  induction f with
  | zero => intro j T out h; omega
  | succ f ih =>
    intro j T out hf hj hjm hn1 hrd hv
    have hsl : (sl.len : Int) = ls.length := by rw [hrd.len]; simp
    have hfl : ∀ l : List Ent, (flt all nm l).length ≤ l.length := fun l => by
      unfold flt; split
      · exact Nat.le_refl _
      · exact List.length_filter_le _ _
    unfold rollcallref13_Last.L0
    by_cases hjl : j < ls.length
    · rw [if_pos (by omega), hsl, w64_id (by omega) (by omega)]
      by_cases hj2 : j < m
      · rw [show decide ((ls.length : Int) - ((ls.length : Int) - 1 - j) ≤ m) = true by simp; omega, rollcallref13_Last.J1, if_pos rfl]
        have hi : ls.length - 1 - j < ls.length := by omega
        have hidx : ((ls.length : Int) - 1 - j) = ((ls.length - 1 - j : Nat) : Int) := by omega
        have hrev : ls.reverse.take (j + 1) = ls.reverse.take j ++ [ls[ls.length - 1 - j]] := by
          rw [List.take_succ_eq_append_getElem (by simpa using hjl), List.getElem_reverse]
        -- what goes on behind the test
        have hgo : ∀ (b : Bool) (T1 : HS), b = (all || likeName nm ls[ls.length - 1 - j]) → Fr T.next T T1 → ∃ out' T', rollcallref13_Last.J2 k (rollcallref13_Last.L0 k f) sl (m : Int) nm all out ((ls.length : Int) - 1 - j) b T1 = some (out', T') ∧ Vec n1 T' 2 out' ((flt all nm (lastOf m ls)).map pairRow) ∧ Fr n1 T T' := by
          intro b T1 hb hf1
          have hf1' : Fr n1 T T1 := hf1.mono hn1
          have hrd1 : Rd n1 T1 2 sl (ls.map pairRow) := hrd.frame hf1' (Nat.le_refl _)
          have hn1' : n1 ≤ T1.next := Nat.le_trans hn1 hf1.le
          have hv1 : Vec n1 T1 2 out ((flt all nm (ls.reverse.take j)).map pairRow) := hv.frame hf1 (Nat.le_refl _)
          have hw : w64 ((ls.length : Int) - 1 - j - 1) = (ls.length : Int) - 1 - ((j + 1 : Nat) : Int) := by rw [w64_id (by omega) (by omega)]; omega
          cases b with
          | false =>
            rw [rollcallref13_Last.J2, if_neg (by simp), rollcallref13_Last.J3, hw]
            obtain ⟨o, T', e, v, fr⟩ := ih (j + 1) T1 out (by omega) (by omega) (by omega) hn1' hrd1 (by rw [hrev, flt_snoc, ← hb]; simpa using hv1)
            exact ⟨o, T', e, v, hf1'.trans fr⟩
          | true =>
            obtain ⟨ad, a1, a2, a3⟩ := pair_rows hrd1.rows hi
            rw [rollcallref13_Last.J2, if_pos rfl, hidx, a1, Option.bind_some, a2, Option.bind_some, a3, Option.bind_some, letv]
            have hlit := Vec.lit (n := n1) (z := 2) (S := T1) [[.str ls[ls.length - 1 - j].1, .int .i64 ls[ls.length - 1 - j].2]] hn1'
            rw [hlit.rows, Option.bind_some]
            have hv2 : Vec n1 (T1.lit [[.str ls[ls.length - 1 - j].1, .int .i64 ls[ls.length - 1 - j].2]] 2).2 2 out ((flt all nm (ls.reverse.take j)).map pairRow) := hv1.new _
            have hfl2 := hfl (ls.reverse.take j)
            simp only [List.length_take, List.length_reverse] at hfl2
            obtain ⟨s', T2, e2, v2, f2⟩ := hv2.app (new := [[.str ls[ls.length - 1 - j].1, .int .i64 ls[ls.length - 1 - j].2]]) (Nat.le_trans hn1' (Nat.le_succ _)) (by simp only [List.length_map, List.length_singleton]; omega)
            have f2' : Fr n1 T1 T2 := (lit_fr (n := n1) (z := 2) (S := T1) _ hn1').trans f2
            rw [e2, Option.bind_some, ← hidx, rollcallref13_Last.J3, hw]
            obtain ⟨o, T', e, v, fr⟩ := ih (j + 1) T2 s' (by omega) (by omega) (by omega) (Nat.le_trans hn1' f2'.le) (hrd1.frame f2' (Nat.le_refl _)) (by rw [hrev, flt_snoc, ← hb, List.map_append]; exact v2)
            exact ⟨o, T', e, v, (hf1'.trans f2').trans fr⟩
        cases all with
        | true =>
          rw [if_pos rfl]
          exact hgo true T (by simp) (Fr.refl _ _)
        | false =>
          obtain ⟨ad, a1, a2, a3⟩ := pair_rows hrd.rows hi
          rw [if_neg (by simp), hidx, a1, Option.bind_some, a2, Option.bind_some, ← hidx]
          obtain ⟨T1, e1, f1⟩ := refSame_spec (k := k) (m := T.next) (x := ls[ls.length - 1 - j].1) (y := nm) (S := T) (hnames _ (List.getElem_mem hi)) hn hk (Nat.le_refl _)
          rw [e1, Option.bind_some]
          exact hgo _ T1 (by simp [likeName]) f1
      · have hjm2 : j = m := by omega
        rw [show decide ((ls.length : Int) - ((ls.length : Int) - 1 - j) ≤ m) = false by simp; omega, rollcallref13_Last.J1, if_neg (by simp)]
        refine ⟨out, T, rfl, ?_, Fr.refl _ _⟩
        rw [lastOf, ← hjm2]; exact hv
    · rw [if_neg (by omega), rollcallref13_Last.J1, if_neg (by simp)]
      refine ⟨out, T, rfl, ?_, Fr.refl _ _⟩
      have e1 : ls.reverse.take j = ls.reverse := List.take_of_length_le (by simp; omega)
      have e2 : lastOf m ls = ls.reverse := List.take_of_length_le (by simp; omega)
      rw [e2, ← e1]; exact hv
theorem last_spec {k m : Nat} {ls : List Ent} {sl : Sl} {nm : List UInt8} {all : Bool} {T : HS} (hk : 2000 ≤ k) (hm : m ≤ 100000) (hls : ls.length ≤ 1000) (hn : nm.length ≤ 1000) (hnames : ∀ x ∈ ls, x.1.length ≤ 1000) (hrd : Rd T.next T 2 sl (ls.map pairRow)) :
    ∃ out' T', rollcallref13_Last.f k sl (m : Int) nm all T = some (out', T') ∧ Vec T.next T' 2 out' ((flt all nm (lastOf m ls)).map pairRow) ∧ Fr T.next T T' := by
  have hsl : (sl.len : Int) = ls.length := by rw [hrd.len]; simp
  rw [rollcallref13_Last.f, hsl, w64_id (by omega) (by omega)]
  have := last_loop (k := k) (m := m) (n1 := T.next) (ls := ls) (sl := sl) (nm := nm) (all := all) hk hm (by omega) hn hnames k 0 T Sl.nil (by omega) (by omega) (by omega) (Nat.le_refl _) hrd (by
    have : flt all nm (ls.reverse.take 0) = [] := by unfold flt; split <;> simp
    rw [this]; exact .nil)
  simpa using this
end Go.Proofs.Ytlmpmnbljpigiaa.X
