/- The layer timer: the document's table, plain. -/
import Derived.Test.YtlfdfkldolgkoaaTpTake
namespace Go.Proofs.Ytlfdfkldolgkoaa.X
open Go.Proofs.Ytlfdfkldolgkoaa.HL
set_option linter.unusedVariables false
def OwnR (p : Nat) (s : Sl) (id : Nat) : Prop := id = p ∨ ∃ q, s.a = some q ∧ q.1 = id
structure OnlyR (q : Nat) (s s' : Sl) (S S' : HS) : Prop where
  le : S.next ≤ S'.next
  eq : ∀ id, id < S.next → ¬ OwnR q s id → S'.heap id = S.heap id
  own : ∀ id, OwnR q s' id → OwnR q s id ∨ S.next ≤ id
theorem OnlyR.refl (q : Nat) (s : Sl) (S : HS) : OnlyR q s s S S := ⟨Nat.le_refl _, fun _ _ _ => rfl, fun _ h => .inl h⟩
theorem OnlyR.trans {q : Nat} {s s' s'' : Sl} {S S' S'' : HS} (h : OnlyR q s s' S S') (k : OnlyR q s' s'' S' S'') : OnlyR q s s'' S S'' :=
  ⟨Nat.le_trans h.le k.le, fun id h1 h2 => (k.eq id (Nat.lt_of_lt_of_le h1 h.le) (fun ho => (h.own id ho).elim h2 (fun h3 => by omega))).trans (h.eq id h1 h2), fun id ho => by
    rcases k.own id ho with h1 | h1
    · exact h.own id h1
    · have := h.le; exact .inr (by omega)⟩
structure RI (p : Nat) (s : Sl) (xs : List It) (S : HS) : Prop where
  cell : S.heap p = .cells 1 [[s.hv]] true
  vec : Vec 0 S 2 s (xs.map itRow)
  ne : ∀ q, s.a = some q → q.1 ≠ p
  hi : p < S.next
  cnt : xs.length ≤ 1000
theorem RI.lt {p : Nat} {s : Sl} {es : List It} {S : HS} (h : RI p s es S) {id : Nat} (ho : OwnR p s id) : id < S.next := by
  rcases ho with rfl | ⟨q, h1, rfl⟩
  · exact h.hi
  · exact (h.vec.lo q h1).2
theorem RI.keep {p : Nat} {s : Sl} {es : List It} {S S' : HS} (h : RI p s es S) (he : ∀ id, OwnR p s id → S'.heap id = S.heap id) (hn : S.next ≤ S'.next) : RI p s es S' :=
  ⟨(he p (.inl rfl)).trans h.cell, vec_keep h.vec (fun q hq => he q.1 (.inr ⟨q, hq, rfl⟩)) hn, h.ne, Nat.lt_of_lt_of_le h.hi hn, h.cnt⟩
theorem RI.fr {p : Nat} {s : Sl} {es : List It} {S S' : HS} (h : RI p s es S) (hf : Fr S.next S S') : RI p s es S' := h.keep (fun id ho => hf.eq id (h.lt ho)) hf.le
theorem RI.row {p : Nat} {s : Sl} {es : List It} {S : HS} (h : RI p s es S) : S.row (HA.cell0 p).id (HA.cell0 p).i = some [s.hv] := cell_row h.cell
theorem RI.slen {p : Nat} {s : Sl} {es : List It} {S : HS} (h : RI p s es S) : s.len = es.length := by rw [h.vec.len]; simp
theorem RI.rd {p : Nat} {s : Sl} {es : List It} {S : HS} (h : RI p s es S) : Rd S.next S 2 s (es.map itRow) := ⟨h.vec.rows, fun q hq => (h.vec.lo q hq).2⟩
def IxOf (xs : List It) (t : Ky) (j : Int) : Prop := (j = -1 ∧ ∀ e ∈ xs, e.1 ≠ t) ∨ ∃ i : Nat, j = (i : Int) ∧ ∃ h : i < xs.length, xs[i].1 = t
theorem refAt_spec {k p : Nat} {s : Sl} {xs : List It} {t : Ky} {S : HS} (hk : 2000 ≤ k) (h : RI p s xs S) : ∃ j, rollcallref09_Table_At.f k (some (HA.cell0 p)) t S = some (j, S) ∧ IxOf xs t j := by
  have hloop : ∀ n i, xs.length - i < n → i ≤ xs.length → (∀ q (hq : q < xs.length), q < i → xs[q].1 ≠ t) → ∃ j, rollcallref09_Table_At.L0 k n (some (HA.cell0 p)) t (i : Int) S = some (j, S) ∧ IxOf xs t j := by
    intro n
    induction n with
    | zero => intro i hf; omega
    | succ n ih =>
      intro i hf hi hno
      rw [rollcallref09_Table_At.L0, Option.bind_some, row_ldSl h.row rfl rfl, Option.bind_some, h.slen]
      by_cases hlt : i < xs.length
      · obtain ⟨ad, a1, a2, a3⟩ := it_rows h.vec.rows hlt
        rw [if_pos (by omega), Option.bind_some, row_ldSl h.row rfl rfl, Option.bind_some, a1, Option.bind_some, a2, Option.bind_some]
        by_cases hc : xs[i].1 = t
        · rw [if_pos hc]
          exact ⟨_, rfl, .inr ⟨i, rfl, hlt, hc⟩⟩
        · have hcnt := h.cnt
          rw [if_neg hc, w64_id (by omega) (by omega), show ((i : Int) + 1) = ((i + 1 : Nat) : Int) by simp]
          exact ih (i + 1) (by omega) (by omega) (fun q hq hqi => by
            rcases Nat.lt_or_ge q i with g | g
            · exact hno q hq g
            · obtain rfl : q = i := by omega
              exact hc)
      · rw [if_neg (by omega)]
        refine ⟨_, rfl, .inl ⟨rfl, fun e he => ?_⟩⟩
        obtain ⟨q, hq, rfl⟩ := List.getElem_of_mem he
        exact hno q hq (by omega)
  exact hloop k 0 (by have := h.cnt; omega) (Nat.zero_le _) (fun q hq hqi => by omega)
theorem RI.put2 {p : Nat} {s s' : Sl} {xs xs' : List It} {S S1 : HS} (h : RI p s xs S) (hp : S1.heap p = S.heap p) (hv : Vec 0 S1 2 s' (xs'.map itRow)) (hn : S.next ≤ S1.next) (hne : ∀ q, s'.a = some q → q.1 ≠ p) (hc : xs'.length ≤ 1000) :
    ∃ S2, S1.sets (HA.fld (HA.cell0 p) 0) [s'.hv] = some S2 ∧ RI p s' xs' S2 ∧ S2.next = S1.next ∧ ∀ id, id ≠ p → S2.heap id = S1.heap id := by
  have hcell : S1.heap p = .cells 1 [[s.hv]] true := hp.trans h.cell
  have hsr : S1.sets (HA.fld (HA.cell0 p) 0) [s'.hv] = some (S1.put p (.cells 1 [[s'.hv]] true)) := (sets_row hcell rfl (by simp)).trans rfl
  exact ⟨_, hsr, ⟨put_here _ _ _, hv.put_ne hne, hne, Nat.lt_of_lt_of_le h.hi hn, hc⟩, rfl, fun id hid => put_other _ hid⟩
theorem refStop_spec {k p : Nat} {s : Sl} {xs : List It} {t : Ky} {S1 : HS} (hk : 2000 ≤ k) (h1 : RI p s xs S1) (hd : Dst xs) :
    ∃ j s' S', rollcallref09_Table_Stop.f k (some (HA.cell0 p)) t S1 = some (decide (j ≥ 0), S') ∧ IxOf xs t j ∧ RI p s' (stopL xs t) S' ∧ OnlyR p s s' S1 S' := by
  obtain ⟨j, e1, hj⟩ := refAt_spec (t := t) hk h1
  refine ⟨j, ?_⟩
  rw [rollcallref09_Table_Stop.f, e1, Option.bind_some]
  simp only
  by_cases h0 : j < 0
  · rw [if_pos h0]
    refine ⟨s, S1, by rw [decide_eq_false (by omega)], hj, ?_, OnlyR.refl _ _ _⟩
    rcases hj with ⟨_, g⟩ | ⟨i, rfl, _⟩
    · rw [stopL_none g]; exact h1
    · omega
  · obtain ⟨i, rfl, hi, hc⟩ : ∃ i : Nat, j = (i : Int) ∧ ∃ h : i < xs.length, xs[i].1 = t := by
      rcases hj with ⟨g, _⟩ | g
      · omega
      · exact g
    have hcnt := h1.cnt
    rw [if_neg h0, letv, Option.bind_some]
    have fl : Fr S1.next S1 (S1.lit [] 2).2 := lit_fr [] (Nat.le_refl _)
    have h2 : RI p s xs (S1.lit [] 2).2 := h1.fr fl
    have l2 : (S1.lit [] 2).2.next = S1.next + 1 := rfl
    have hs1 : ∀ q, s.a = some q → q.1 < S1.next := fun q hq => (h1.vec.lo q hq).2
    obtain ⟨sc, c1, c2⟩ := rows_cutT h1.vec.rows (m := i) (by simp; omega)
    have c1' : (S1.lit [] 2).2.cut s 0 (i : Int) 2 = some sc := by rw [cut_keep _ _ _ (fun q hq => fl.eq _ (hs1 q hq))]; exact c1
    obtain ⟨sc', c3, c4⟩ := rows_cutT h2.vec.rows (m := i) (by simp; omega)
    rw [c1'] at c3
    cases c3
    obtain ⟨sa, S3, e3, v3, f3⟩ := (Vec.lit (n := S1.next) (z := 2) (S := S1) [] (Nat.le_refl _)).app (new := (xs.map itRow).take i) (by omega) (by simp; omega)
    rw [List.nil_append] at v3
    have n3 := f3.le
    have f13 : Fr S1.next S1 S3 := fl.trans f3
    have h3 : RI p s xs S3 := h1.fr f13
    rw [row_ldSl h2.row rfl rfl, Option.bind_some, row_ldSl h1.row rfl rfl, Option.bind_some, if_pos rfl, c1', Option.bind_some, c1, Option.bind_some, if_pos rfl, c4, Option.bind_some, e3, Option.bind_some, Option.bind_some, row_ldSl h3.row rfl rfl, Option.bind_some, row_ldSl h2.row rfl rfl, Option.bind_some, if_pos rfl, row_ldSl h1.row rfl rfl, Option.bind_some, if_pos rfl]
    rw [w64_id (by omega) (by omega), show ((i : Int) + 1) = ((i + 1 : Nat) : Int) by simp, h1.slen]
    obtain ⟨sd, d1, d2⟩ := rows_cut h3.vec.rows (m := i + 1) (by simp; omega)
    have hlen : ((xs.map itRow).length : Int) = (xs.length : Int) := by simp
    rw [hlen] at d1
    have d1' : S1.cut s ((i + 1 : Nat) : Int) (xs.length : Int) 2 = some sd := by rw [← cut_keep _ _ _ (fun q hq => f13.eq _ (hs1 q hq))]; exact d1
    have d1'' : (S1.lit [] 2).2.cut s ((i + 1 : Nat) : Int) (xs.length : Int) 2 = some sd := by rw [cut_keep _ _ _ (fun q hq => fl.eq _ (hs1 q hq))]; exact d1'
    obtain ⟨sb, S5, e5, v5, f5⟩ := v3.app (new := (xs.map itRow).drop (i + 1)) (by omega) (by simp; omega)
    have n5 := f5.le
    rw [d1, Option.bind_some, d1'', Option.bind_some, if_pos rfl, d1', Option.bind_some, if_pos rfl, d2, Option.bind_some, e5, Option.bind_some]
    have hf5 : Fr S1.next S1 S5 := f13.trans f5
    have hm : (xs.map itRow).take i ++ (xs.map itRow).drop (i + 1) = (xs.eraseIdx i).map itRow := by rw [Go.ChangeMaps.map_eraseIdx, List.eraseIdx_eq_take_drop_succ]
    rw [hm] at v5
    obtain ⟨S6, e6, r6, n6, k6⟩ := h1.put2 (S1 := S5) (hf5.eq _ h1.hi) (v5.mono (Nat.zero_le _)) hf5.le (fun q hq => by have := (v5.lo q hq).1; have := h1.hi; omega) (by rw [List.length_eraseIdx, if_pos hi]; omega)
    rw [Option.bind_some, e6, Option.bind_some]
    refine ⟨sb, S6, by rw [decide_eq_true (by omega)], hj, by rw [stopL_at hd hi hc]; exact r6, ⟨by rw [n6]; exact hf5.le, fun id g1 g2 => ?_, fun id ho => ?_⟩⟩
    · rw [k6 id (fun e => g2 (.inl e))]; exact hf5.eq id g1
    · rcases ho with g | ⟨q, g1, g2⟩
      · exact .inl (.inl g)
      · right; rw [← g2]; exact (v5.lo q g1).1
theorem refSet_spec {k p : Nat} {s : Sl} {xs : List It} {t : Ky} {v : Int} {S : HS} (hk : 2000 ≤ k) (h : RI p s xs S) (hd : Dst xs) (hroom : xs.length < 1000) :
    ∃ s' S', rollcallref09_Table_Set.f k (some (HA.cell0 p)) t v S = some ((), S') ∧ RI p s' (setL xs t v) S' ∧ OnlyR p s s' S S' := by
  obtain ⟨j, s1, S1, e1, hj, h1, o1⟩ := refStop_spec (t := t) hk h hd
  have hl1 : (stopL xs t).length ≤ xs.length := List.length_filter_le _ _
  rw [rollcallref09_Table_Set.f, e1, Option.bind_some, letv, Option.bind_some]
  simp only
  have fl : Fr S1.next S1 (S1.lit [] 2).2 := lit_fr [] (Nat.le_refl _)
  have h2 : RI p s1 (stopL xs t) (S1.lit [] 2).2 := h1.fr fl
  have l2 : (S1.lit [] 2).2.next = S1.next + 1 := rfl
  obtain ⟨sa, S3, e3, v3, f3⟩ := (Vec.lit (n := S1.next) (z := 2) (S := S1) [] (Nat.le_refl _)).app (new := (stopL xs t).map itRow) (by omega) (by simp; omega)
  rw [List.nil_append] at v3
  have n3 := f3.le
  rw [row_ldSl h2.row rfl rfl, Option.bind_some, h2.vec.rows, Option.bind_some, e3, Option.bind_some, letv]
  have lr : ((S3.lit [[.str t, .int .i64 v]] 2).2).rows (S3.lit [[.str t, .int .i64 v]] 2).1 2 = some [[.str t, .int .i64 v]] := (Vec.lit (n := 0) (z := 2) (S := S3) [[.str t, .int .i64 v]] (Nat.zero_le _)).rows
  have v4 : Vec S1.next (S3.lit [[.str t, .int .i64 v]] 2).2 2 sa ((stopL xs t).map itRow) := v3.frame (lit_fr _ (Nat.le_refl _)) (Nat.le_refl _)
  have l4 : (S3.lit [[.str t, .int .i64 v]] 2).2.next = S3.next + 1 := rfl
  have f4 : Fr S3.next S3 (S3.lit [[.str t, .int .i64 v]] 2).2 := lit_fr _ (Nat.le_refl _)
  obtain ⟨sb, S5, e5, v5, f5⟩ := v4.app (new := [[.str t, .int .i64 v]]) (by omega) (by simp; omega)
  have n5 := f5.le
  rw [lr, Option.bind_some, e5, Option.bind_some]
  have hf5 : Fr S1.next S1 S5 := ((fl.trans f3).trans (f4.mono (by omega))).trans f5
  have hm : (stopL xs t).map itRow ++ [[.str t, .int .i64 v]] = (setL xs t v).map itRow := by simp [itRow, setL, kv]
  rw [hm] at v5
  obtain ⟨S6, e6, r6, n6, k6⟩ := h1.put2 (S1 := S5) (hf5.eq _ h1.hi) (v5.mono (Nat.zero_le _)) hf5.le (fun q hq => by have := (v5.lo q hq).1; have := h1.hi; omega) (by unfold setL; simp; omega)
  rw [Option.bind_some, e6, Option.bind_some]
  refine ⟨sb, S6, rfl, r6, o1.trans ⟨by rw [n6]; exact hf5.le, fun id g1 g2 => ?_, fun id ho => ?_⟩⟩
  · rw [k6 id (fun e => g2 (.inl e))]; exact hf5.eq id g1
  · rcases ho with g | ⟨q, g1, g2⟩
    · exact .inl (.inl g)
    · right; rw [← g2]; exact (v5.lo q g1).1
theorem ahead_spec (a b : It) (S : HS) : ∃ S', rollcallref09_ahead.f a.1 a.2 b.1 b.2 S = some (decide (itc a b < 0), S') ∧ Fr S.next S S' := by
  unfold rollcallref09_ahead.f
  rw [letv, letv]
  have f1 : Fr S.next S ((S.new (.cells 2 [[.str a.1, .int .i64 a.2]] true)).new (.cells 2 [[.str b.1, .int .i64 b.2]] true)) := (Fr.new (Nat.le_refl _) _).trans (Fr.new (by rw [new_next]; omega) _)
  have c1 : ((S.new (.cells 2 [[.str a.1, .int .i64 a.2]] true)).new (.cells 2 [[.str b.1, .int .i64 b.2]] true)).heap S.next = .cells 2 [itRow a] true := by rw [new_old _ (by rw [new_next]; omega)]; exact new_here _ _
  have c2 : ((S.new (.cells 2 [[.str a.1, .int .i64 a.2]] true)).new (.cells 2 [[.str b.1, .int .i64 b.2]] true)).heap (S.next + 1) = .cells 2 [itRow b] true := new_here (S.new (.cells 2 [[.str a.1, .int .i64 a.2]] true)) _
  rw [new_next]
  generalize (S.new (.cells 2 [[.str a.1, .int .i64 a.2]] true)).new (.cells 2 [[.str b.1, .int .i64 b.2]] true) = T at f1 c1 c2 ⊢
  have r1 := cell_row c1
  have r2 := cell_row c2
  refine ⟨T, ?_, f1⟩
  rw [row_ldI (n := a.2) r1 rfl rfl, Option.bind_some, row_ldI (n := b.2) r2 rfl rfl, Option.bind_some]
  by_cases h1 : a.2 < b.2
  · rw [if_pos h1, rollcallref09_ahead.J0, decide_eq_true (itc_lt.2 (.inl h1))]
  · rw [if_neg h1, Option.bind_some, Option.bind_some]
    by_cases h2 : a.2 = b.2
    · rw [if_pos h2, row_ldK (n := a.1) r1 rfl rfl, Option.bind_some, row_ldK (n := b.1) r2 rfl rfl, Option.bind_some, rollcallref09_ahead.J1, if_neg (by simpa using h1), rollcallref09_ahead.J0]
      have : decide (itc a b < 0) = slt a.1 b.1 := by
        cases hs : slt a.1 b.1 with
        | true => exact decide_eq_true (itc_lt.2 (.inr ⟨h2, hs⟩))
        | false =>
          refine decide_eq_false fun hc => ?_
          rcases itc_lt.1 hc with g | ⟨_, g⟩
          · omega
          · unfold klt at g; rw [hs] at g; cases g
      rw [this]
    · rw [if_neg h2, rollcallref09_ahead.J1, if_neg (by simpa using h1), rollcallref09_ahead.J0]
      have : decide (itc a b < 0) = false := decide_eq_false fun hc => by
        rcases itc_lt.1 hc with g | ⟨g, _⟩ <;> omega
      rw [this]
end Go.Proofs.Ytlfdfkldolgkoaa.X
