/- The layer book: the document's book, plain. -/
import Derived.Test.YtlfdaflngmkldaaBpAll
namespace Go.Proofs.Ytlfdaflngmkldaa.X
open Go.Proofs.Ytlfdaflngmkldaa.HL
set_option linter.unusedVariables false
theorem refSame_spec {k m : Nat} {x y : List UInt8} {S : HS} (hx : x.length ≤ 1000) (hy : y.length ≤ 1000) (hk : 2000 ≤ k) (hm : m ≤ S.next) : ∃ S', rollcallref01_Same.f k x y S = some (decide (cmpL x y = 0), S') ∧ Fr m S S' := by
  unfold rollcallref01_Same.f
  obtain ⟨S1, e1, f1⟩ := refText_spec (k := k) (m := m) (x := x) (S := S) (by omega) (by omega) (by omega) hm
  obtain ⟨S2, e2, f2⟩ := refText_spec (k := k) (m := m) (x := y) (S := S1) (by omega) (by omega) (by omega) (Nat.le_trans hm f1.le)
  rw [e1, Option.bind_some, e2, Option.bind_some]
  refine ⟨S2, ?_, f1.trans f2⟩
  simp only
  congr 2
  rw [decide_eq_decide, cmpL_zero]
theorem cut_keep {S S' : HS} {s : Sl} (l h : Int) (z : Nat) (hk : ∀ q, s.a = some q → S'.heap q.1 = S.heap q.1) : S'.cut s l h z = S.cut s l h z := by
  unfold HS.cut
  cases ha : s.a with
  | none => rfl
  | some q => obtain ⟨id, off⟩ := q; simp only [hk _ ha]
theorem rows_cutT {S : HS} {s : Sl} {z : Nat} {rows : List (List HV)} (h : S.rows s z = some rows) {m : Nat} (hm : m ≤ rows.length) : ∃ sc, S.cut s 0 (m : Int) z = some sc ∧ S.rows sc z = some (rows.take m) := by
  have hl := rows_len h
  obtain ⟨sa, sl, sc⟩ := s
  have hl2 : rows.length = sl := hl
  subst hl2
  cases sa with
  | none =>
    simp only [HS.rows] at h
    split at h
    · rename_i e
      cases h
      obtain rfl : m = 0 := by simpa using hm
      exact ⟨⟨none, 0, sc⟩, by simp [HS.cut], by simp [HS.rows]⟩
    · cases h
  | some p =>
    obtain ⟨id, off⟩ := p
    simp only [HS.rows] at h
    split at h
    · rename_i z' rws own hh
      split at h
      · rename_i hc
        obtain ⟨rfl, hc⟩ := hc
        simp only [Option.some.injEq] at h
        have e := cut_len (S := S) (id := id) (off := off) (len := rows.length) (c := sc) (l := 0) (q := m) hh (Nat.zero_le _) hm
        rw [show ((0 : Nat) : Int) = 0 from rfl] at e
        refine ⟨_, e, ?_⟩
        rw [rows_at hh (by omega)]
        congr 1
        rw [Nat.sub_zero, Nat.add_zero, ← h, List.take_take, Nat.min_eq_left (by omega)]
      · cases h
    · cases h
def Nal (xs : List En) : Prop := xs.Pairwise fun a b => cmpL a.1 b.1 ≠ 0
structure RI (p : Nat) (s : Sl) (most : Int) (xs : List En) (S : HS) : Prop where
  cell : S.heap p = .cells 2 [[.int .i64 most, s.hv]] true
  vec : Vec 0 S 2 s (xs.map enRow)
  ne : ∀ q, s.a = some q → q.1 ≠ p
  hi : p < S.next
  len : ∀ e ∈ xs, e.1.length ≤ 1000
  cnt : xs.length ≤ 1000
theorem RI.lt {p : Nat} {s : Sl} {most : Int} {es : List En} {S : HS} (h : RI p s most es S) {id : Nat} (ho : Own p s id) : id < S.next := by
  rcases ho with rfl | ⟨q, h1, rfl⟩
  · exact h.hi
  · exact (h.vec.lo q h1).2
theorem RI.keep {p : Nat} {s : Sl} {most : Int} {es : List En} {S S' : HS} (h : RI p s most es S) (he : ∀ id, Own p s id → S'.heap id = S.heap id) (hn : S.next ≤ S'.next) : RI p s most es S' :=
  ⟨(he p (.inl rfl)).trans h.cell, vec_keep h.vec (fun q hq => he q.1 (.inr ⟨q, hq, rfl⟩)) hn, h.ne, Nat.lt_of_lt_of_le h.hi hn, h.len, h.cnt⟩
theorem RI.fr {p : Nat} {s : Sl} {most : Int} {es : List En} {S S' : HS} (h : RI p s most es S) (hf : Fr S.next S S') : RI p s most es S' := h.keep (fun id ho => hf.eq id (h.lt ho)) hf.le
theorem RI.row {p : Nat} {s : Sl} {most : Int} {es : List En} {S : HS} (h : RI p s most es S) : S.row (HA.cell0 p).id (HA.cell0 p).i = some [.int .i64 most, s.hv] := cell_row h.cell
theorem RI.slen {p : Nat} {s : Sl} {most : Int} {es : List En} {S : HS} (h : RI p s most es S) : s.len = es.length := by rw [h.vec.len]; simp
theorem RI.rd {p : Nat} {s : Sl} {most : Int} {es : List En} {S : HS} (h : RI p s most es S) : Rd S.next S 2 s (es.map enRow) := ⟨h.vec.rows, fun q hq => (h.vec.lo q hq).2⟩
/-- The number of a name, or none. -/
def IxOf (xs : List En) (t : List UInt8) (j : Int) : Prop := (j = -1 ∧ ∀ e ∈ xs, cmpL e.1 t ≠ 0) ∨ ∃ i : Nat, j = (i : Int) ∧ ∃ h : i < xs.length, cmpL xs[i].1 t = 0
theorem refAt_spec {k p : Nat} {s : Sl} {most : Int} {xs : List En} {t : List UInt8} {S : HS} (hk : 2000 ≤ k) (h : RI p s most xs S) (ht : t.length ≤ 1000) : ∃ j S', rollcallref02_Book_At.f k (some (HA.cell0 p)) t S = some (j, S') ∧ Fr S.next S S' ∧ IxOf xs t j := by
  have hloop : ∀ n i S, xs.length - i < n → i ≤ xs.length → RI p s most xs S → (∀ q (hq : q < xs.length), q < i → cmpL xs[q].1 t ≠ 0) → ∃ j S', rollcallref02_Book_At.L0 k n (some (HA.cell0 p)) t (i : Int) S = some (j, S') ∧ Fr S.next S S' ∧ IxOf xs t j := by
    intro n
    induction n with
    | zero => intro i S hf; omega
    | succ n ih =>
      intro i S hf hi h hno
      rw [rollcallref02_Book_At.L0, Option.bind_some, row_ldSl h.row rfl rfl, Option.bind_some, h.slen]
      by_cases hlt : i < xs.length
      · obtain ⟨ad, a1, a2, a3⟩ := en_rows h.vec.rows hlt
        obtain ⟨S1, e1, f1⟩ := refSame_spec (k := k) (m := S.next) (x := xs[i].1) (y := t) (S := S) (h.len _ (List.getElem_mem _)) ht hk (Nat.le_refl _)
        rw [if_pos (by omega), Option.bind_some, row_ldSl h.row rfl rfl, Option.bind_some, a1, Option.bind_some, a2, Option.bind_some, e1, Option.bind_some]
        by_cases hc : cmpL xs[i].1 t = 0
        · rw [if_pos (by simpa using hc)]
          exact ⟨_, S1, rfl, f1, .inr ⟨i, rfl, hlt, hc⟩⟩
        · have hcnt := h.cnt
          rw [if_neg (by simpa using hc), w64_id (by omega) (by omega), show ((i : Int) + 1) = ((i + 1 : Nat) : Int) by simp]
          obtain ⟨j, S2, e2, f2, h2⟩ := ih (i + 1) S1 (by omega) (by omega) (h.fr f1) (fun q hq hqi => by
            rcases Nat.lt_or_ge q i with g | g
            · exact hno q hq g
            · obtain rfl : q = i := by omega
              exact hc)
          exact ⟨j, S2, e2, f1.trans (f2.mono f1.le), h2⟩
      · rw [if_neg (by omega)]
        refine ⟨_, S, rfl, Fr.refl _ _, .inl ⟨rfl, fun e he => ?_⟩⟩
        obtain ⟨q, hq, rfl⟩ := List.getElem_of_mem he
        exact hno q hq (by omega)
  exact hloop k 0 S (by have := h.cnt; omega) (Nat.zero_le _) h (fun q hq hqi => by omega)
theorem RI.put2 {p : Nat} {s s' : Sl} {most : Int} {xs xs' : List En} {S S1 : HS} (h : RI p s most xs S) (hp : S1.heap p = S.heap p) (hv : Vec 0 S1 2 s' (xs'.map enRow)) (hn : S.next ≤ S1.next) (hne : ∀ q, s'.a = some q → q.1 ≠ p) (hl : ∀ e ∈ xs', e.1.length ≤ 1000) (hc : xs'.length ≤ 1000) :
    ∃ S2, S1.sets (HA.fld (HA.cell0 p) 1) [s'.hv] = some S2 ∧ RI p s' most xs' S2 ∧ S2.next = S1.next ∧ ∀ id, id ≠ p → S2.heap id = S1.heap id := by
  have hcell : S1.heap p = .cells 2 [[.int .i64 most, s.hv]] true := hp.trans h.cell
  have hsr : S1.sets (HA.fld (HA.cell0 p) 1) [s'.hv] = some (S1.put p (.cells 2 [[.int .i64 most, s'.hv]] true)) := (sets_row hcell rfl (by simp)).trans rfl
  exact ⟨_, hsr, ⟨put_here _ _ _, hv.put_ne hne, hne, Nat.lt_of_lt_of_le h.hi hn, hl, hc⟩, rfl, fun id hid => put_other _ hid⟩
/-- What putting makes of the document's list. -/
def refPutL (most : Int) (xs : List En) (j : Int) (t : List UInt8) (v : Int) : List En := if j ≥ 0 then xs.set j.toNat (t, v) else if (xs.length : Int) ≥ most then xs else xs ++ [(t, v)]
def refPutR (most : Int) (xs : List En) (j : Int) : Int := if j ≥ 0 then 0 else if (xs.length : Int) ≥ most then 7 else 0
theorem refPut_spec {k p : Nat} {s : Sl} {most : Int} {xs : List En} {t : List UInt8} {v : Int} {S : HS} (hk : 2000 ≤ k) (h : RI p s most xs S) (ht : t.length ≤ 1000) (hroom : xs.length < 1000) :
    ∃ j s' S', rollcallref02_Book_Put.f k (some (HA.cell0 p)) t v S = some (refPutR most xs j, S') ∧ IxOf xs t j ∧ RI p s' most (refPutL most xs j t v) S' ∧ Only p s s' S S' := by
  obtain ⟨j, S1, e1, f1, hj⟩ := refAt_spec hk h ht
  have h1 := h.fr f1
  refine ⟨j, ?_⟩
  rw [rollcallref02_Book_Put.f, e1, Option.bind_some]
  simp only
  by_cases h0 : j ≥ 0
  · obtain ⟨i, rfl, hi, hc⟩ : ∃ i : Nat, j = (i : Int) ∧ ∃ h : i < xs.length, cmpL xs[i].1 t = 0 := by
      rcases hj with ⟨g, _⟩ | g
      · omega
      · exact g
    obtain ⟨ad, S2, a1, a2, a3, a4, a5, a6, a7, a8⟩ := h1.vec.set_ (i := i) (row := [.str t, .int .i64 v]) (by simpa using hi) (by simp [enRow])
    have hm : (xs.map enRow).set i [.str t, .int .i64 v] = (xs.set i (t, v)).map enRow := by rw [List.map_set]; rfl
    rw [hm] at a5
    rw [if_pos h0, Option.bind_some, row_ldSl h1.row rfl rfl, Option.bind_some, a1, Option.bind_some, a4, Option.bind_some]
    refine ⟨s, S2, by simp [refPutR], hj, ?_, (Only.of_fr f1).trans ⟨by rw [a7]; exact Nat.le_refl _, fun id _ g => a8 id (fun q hq e => g (.inr ⟨q, hq, e⟩)), fun _ ho => .inl ho⟩⟩
    have : refPutL most xs (i : Int) t v = xs.set i (t, v) := by simp [refPutL]
    rw [this]
    refine ⟨by rw [a8 p h1.ne]; exact h1.cell, a5, h1.ne, by rw [a7]; exact h1.hi, fun e he => ?_, by simpa using h.cnt⟩
    rcases List.mem_or_eq_of_mem_set he with g | rfl
    · exact h.len e g
    · exact ht
  · rw [if_neg h0, Option.bind_some, row_ldSl h1.row rfl rfl, Option.bind_some, Option.bind_some, row_ldI h1.row rfl rfl, Option.bind_some, h1.slen]
    by_cases hfull : (xs.length : Int) ≥ most
    · rw [if_pos hfull]
      refine ⟨s, S1, by simp [refPutR, h0, hfull], hj, ?_, Only.of_fr f1⟩
      simpa [refPutL, h0, hfull] using h1
    · have hcnt := h.cnt
      rw [if_neg hfull, letv, Option.bind_some]
      have h2 : RI p s most xs (S1.lit [] 2).2 := h1.fr (lit_fr [] (Nat.le_refl _))
      have l2 : (S1.lit [] 2).2.next = S1.next + 1 := rfl
      have fl : Fr S1.next S1 (S1.lit [] 2).2 := lit_fr [] (Nat.le_refl _)
      obtain ⟨sa, S3, e3, v3, f3⟩ := (Vec.lit (n := S1.next) (z := 2) (S := S1) [] (Nat.le_refl _)).app (new := xs.map enRow) (by omega) (by simp; omega)
      rw [List.nil_append] at v3
      have n3 := f3.le
      rw [row_ldSl h2.row rfl rfl, Option.bind_some, h2.vec.rows, Option.bind_some, e3, Option.bind_some, letv]
      have lr : ((S3.lit [[.str t, .int .i64 v]] 2).2).rows (S3.lit [[.str t, .int .i64 v]] 2).1 2 = some [[.str t, .int .i64 v]] := (Vec.lit (n := 0) (z := 2) (S := S3) [[.str t, .int .i64 v]] (Nat.zero_le _)).rows
      have v4 : Vec S1.next (S3.lit [[.str t, .int .i64 v]] 2).2 2 sa (xs.map enRow) := v3.frame (lit_fr _ (Nat.le_refl _)) (Nat.le_refl _)
      have l4 : (S3.lit [[.str t, .int .i64 v]] 2).2.next = S3.next + 1 := rfl
      have f4 : Fr S3.next S3 (S3.lit [[.str t, .int .i64 v]] 2).2 := lit_fr _ (Nat.le_refl _)
      obtain ⟨sb, S5, e5, v5, f5⟩ := v4.app (new := [[.str t, .int .i64 v]]) (by omega) (by simp; omega)
      have n5 := f5.le
      rw [lr, Option.bind_some, e5, Option.bind_some]
      have hf5 : Fr S1.next S1 S5 := ((fl.trans f3).trans (f4.mono (by omega))).trans f5
      have hm : xs.map enRow ++ [[.str t, .int .i64 v]] = (xs ++ [(t, v)]).map enRow := by simp [enRow]
      rw [hm] at v5
      obtain ⟨S6, e6, r6, n6, k6⟩ := h1.put2 (S1 := S5) (hf5.eq _ h1.hi) (v5.mono (Nat.zero_le _)) hf5.le (fun q hq => by have := (v5.lo q hq).1; have := h1.hi; omega) (fun e he => by
        rcases List.mem_append.1 he with g | g
        · exact h.len e g
        · simp only [List.mem_singleton] at g; subst g; exact ht) (by simp; omega)
      rw [Option.bind_some, e6, Option.bind_some]
      refine ⟨sb, S6, by simp [refPutR, h0, hfull], hj, by simpa [refPutL, h0, hfull] using r6, (Only.of_fr f1).trans ⟨by rw [n6]; exact hf5.le, fun id g1 g2 => ?_, fun id ho => ?_⟩⟩
      · rw [k6 id (fun e => g2 (.inl e))]; exact hf5.eq id g1
      · rcases ho with g | ⟨q, g1, g2⟩
        · exact .inl (.inl g)
        · right; rw [← g2]; exact (v5.lo q g1).1
theorem refDelete_spec {k p : Nat} {s : Sl} {most : Int} {xs : List En} {t : List UInt8} {S : HS} (hk : 2000 ≤ k) (h : RI p s most xs S) (ht : t.length ≤ 1000) :
    ∃ j s' S', rollcallref02_Book_Delete.f k (some (HA.cell0 p)) t S = some (decide (j ≥ 0), S') ∧ IxOf xs t j ∧ RI p s' most (if j ≥ 0 then xs.eraseIdx j.toNat else xs) S' ∧ Only p s s' S S' := by
  obtain ⟨j, S1, e1, f1, hj⟩ := refAt_spec hk h ht
  have h1 := h.fr f1
  refine ⟨j, ?_⟩
  rw [rollcallref02_Book_Delete.f, e1, Option.bind_some]
  simp only
  by_cases h0 : j < 0
  · rw [if_pos h0]
    refine ⟨s, S1, by rw [decide_eq_false (by omega)], hj, by rw [if_neg (by omega)]; exact h1, Only.of_fr f1⟩
  · obtain ⟨i, rfl, hi, hc⟩ : ∃ i : Nat, j = (i : Int) ∧ ∃ h : i < xs.length, cmpL xs[i].1 t = 0 := by
      rcases hj with ⟨g, _⟩ | g
      · omega
      · exact g
    have hcnt := h.cnt
    rw [if_neg h0, letv, Option.bind_some]
    have fl : Fr S1.next S1 (S1.lit [] 2).2 := lit_fr [] (Nat.le_refl _)
    have h2 : RI p s most xs (S1.lit [] 2).2 := h1.fr fl
    have l2 : (S1.lit [] 2).2.next = S1.next + 1 := rfl
    have hs1 : ∀ q, s.a = some q → q.1 < S1.next := fun q hq => (h1.vec.lo q hq).2
    obtain ⟨sc, c1, c2⟩ := rows_cutT h1.vec.rows (m := i) (by simp; omega)
    have c1' : (S1.lit [] 2).2.cut s 0 (i : Int) 2 = some sc := by rw [cut_keep _ _ _ (fun q hq => fl.eq _ (hs1 q hq))]; exact c1
    obtain ⟨sc', c3, c4⟩ := rows_cutT h2.vec.rows (m := i) (by simp; omega)
    rw [c1'] at c3
    cases c3
    obtain ⟨sa, S3, e3, v3, f3⟩ := (Vec.lit (n := S1.next) (z := 2) (S := S1) [] (Nat.le_refl _)).app (new := (xs.map enRow).take i) (by omega) (by simp; omega)
    rw [List.nil_append] at v3
    have n3 := f3.le
    have f13 : Fr S1.next S1 S3 := fl.trans f3
    have h3 : RI p s most xs S3 := h1.fr f13
    rw [row_ldSl h2.row rfl rfl, Option.bind_some, row_ldSl h1.row rfl rfl, Option.bind_some, if_pos rfl, c1', Option.bind_some, c1, Option.bind_some, if_pos rfl, c4, Option.bind_some, e3, Option.bind_some, Option.bind_some, row_ldSl h3.row rfl rfl, Option.bind_some, row_ldSl h2.row rfl rfl, Option.bind_some, if_pos rfl, row_ldSl h1.row rfl rfl, Option.bind_some, if_pos rfl]
    rw [w64_id (by omega) (by omega), show ((i : Int) + 1) = ((i + 1 : Nat) : Int) by simp, h.slen]
    obtain ⟨sd, d1, d2⟩ := rows_cut h3.vec.rows (m := i + 1) (by simp; omega)
    have hlen : ((xs.map enRow).length : Int) = (xs.length : Int) := by simp
    rw [hlen] at d1
    have d1' : S1.cut s ((i + 1 : Nat) : Int) (xs.length : Int) 2 = some sd := by rw [← cut_keep _ _ _ (fun q hq => f13.eq _ (hs1 q hq))]; exact d1
    have d1'' : (S1.lit [] 2).2.cut s ((i + 1 : Nat) : Int) (xs.length : Int) 2 = some sd := by rw [cut_keep _ _ _ (fun q hq => fl.eq _ (hs1 q hq))]; exact d1'
    obtain ⟨sb, S5, e5, v5, f5⟩ := v3.app (new := (xs.map enRow).drop (i + 1)) (by omega) (by simp; omega)
    have n5 := f5.le
    rw [d1, Option.bind_some, d1'', Option.bind_some, if_pos rfl, d1', Option.bind_some, if_pos rfl, d2, Option.bind_some, e5, Option.bind_some]
    have hf5 : Fr S1.next S1 S5 := f13.trans f5
    have hm : (xs.map enRow).take i ++ (xs.map enRow).drop (i + 1) = (xs.eraseIdx i).map enRow := by rw [Go.ChangeMaps.map_eraseIdx, List.eraseIdx_eq_take_drop_succ]
    rw [hm] at v5
    obtain ⟨S6, e6, r6, n6, k6⟩ := h1.put2 (S1 := S5) (hf5.eq _ h1.hi) (v5.mono (Nat.zero_le _)) hf5.le (fun q hq => by have := (v5.lo q hq).1; have := h1.hi; omega) (fun e he => h.len e (List.mem_of_mem_eraseIdx he)) (by rw [List.length_eraseIdx, if_pos hi]; omega)
    rw [Option.bind_some, e6, Option.bind_some]
    refine ⟨sb, S6, by rw [decide_eq_true (by omega)], hj, by rw [if_pos (by omega)]; exact r6, (Only.of_fr f1).trans ⟨by rw [n6]; exact hf5.le, fun id g1 g2 => ?_, fun id ho => ?_⟩⟩
    · rw [k6 id (fun e => g2 (.inl e))]; exact hf5.eq id g1
    · rcases ho with g | ⟨q, g1, g2⟩
      · exact .inl (.inl g)
      · right; rw [← g2]; exact (v5.lo q g1).1
end Go.Proofs.Ytlfdaflngmkldaa.X
