/- The layer timer: TimerDue, plain. -/
import Derived.Test.YtlfdfkldolgkoaaTdTake
namespace Go.Proofs.Ytlfdfkldolgkoaa.X
open Go.Proofs.Ytlfdfkldolgkoaa.HL
set_option linter.unusedVariables false
set_option maxRecDepth 100000
theorem awake_at (h : Nat → HObj) (m : Nat → Bool) : (rollcalllaw09_awake.f (disp 2000 4) (fun _ => none) 2000 ⟨h, 1, m⟩).map (fun p => (p.1, p.2.heap 0, decide (1 ≤ p.2.next))) = some (true, h 0, true) := by kernel_rfl
theorem awake_spec {S : HS} (hn : S.next = 1) : ∃ S', rollcalllaw09_awake.f (disp 2000 4) (fun _ => none) 2000 S = some (true, S') ∧ Fr 1 S S' := by
  obtain ⟨h, n, m⟩ := S
  obtain rfl : n = 1 := hn
  have e := awake_at h m
  cases hq : rollcalllaw09_awake.f (disp 2000 4) (fun _ => none) 2000 ⟨h, 1, m⟩ with
  | none => rw [hq] at e; cases e
  | some p =>
    rw [hq] at e
    simp only [Option.map_some, Option.some.injEq, Prod.mk.injEq, decide_eq_true_eq] at e
    obtain ⟨e1, e2, e4⟩ := e
    obtain ⟨b, S'⟩ := p
    simp only at e1 e2 e4
    subst e1
    refine ⟨S', rfl, e4, fun id hid => ?_⟩
    obtain rfl : id = 0 := by omega
    exact e2
def numRow (v : Int) : List HV := [.int .i64 v]
theorem num_rows {S : HS} {s : Sl} {xs : List Int} (h : S.rows s 1 = some (xs.map numRow)) {i : Nat} (hi : i < xs.length) : ∃ ad, S.idx s (i : Int) 1 = some ad ∧ S.ldI .i64 ad = some xs[i] :=
  num_at h (by simpa using hi) (by rw [List.getElem_map]; rfl)
def ent (ls : List Int) (i : Nat) : List It := (List.range i).map fun j : Nat => ((j : Int), ls.getD j 0)
theorem ent_succ (ls : List Int) {i : Nat} (hi : i < ls.length) : setL (ent ls i) (i : Int) ls[i] = ent ls (i + 1) := by
  unfold setL
  rw [stopL_none]
  · unfold ent
    rw [List.range_succ, List.map_append]
    simp [List.getD_eq_getElem?_getD, hi]
  · intro e he
    unfold ent at he
    obtain ⟨j, hj, rfl⟩ := List.mem_map.1 he
    rw [List.mem_range] at hj
    intro h
    have h : (j : Int) = (i : Int) := h
    omega
theorem ent_at {ls : List Int} {m : Nat} {e : It} (he : e ∈ ent ls m) (hm : m ≤ ls.length) : ∃ j, ∃ hj : j < ls.length, j < m ∧ e = ((j : Int), ls[j]) := by
  unfold ent at he
  obtain ⟨j, hj, rfl⟩ := List.mem_map.1 he
  rw [List.mem_range] at hj
  exact ⟨j, by omega, hj, by simp [List.getD_eq_getElem?_getD, show j < ls.length by omega]⟩
def cnt (now : Int) (ls : List Int) (i : Nat) : Nat := ((ls.take i).filter fun v => decide (v ≤ now)).length
theorem cnt_succ (now : Int) {ls : List Int} {i : Nat} (hi : i < ls.length) : cnt now ls (i + 1) = cnt now ls i + if ls[i] ≤ now then 1 else 0 := by
  unfold cnt
  rw [List.take_succ_eq_append_getElem hi, List.filter_append, List.length_append]
  congr 1
  by_cases h : ls[i] ≤ now
  · rw [if_pos h, List.filter_cons_of_pos (by simpa using h)]; rfl
  · rw [if_neg h, List.filter_cons_of_neg (by simpa using h)]; rfl
theorem cnt_le (now : Int) (ls : List Int) (i : Nat) : cnt now ls i ≤ i := by
  unfold cnt
  refine Nat.le_trans (List.length_filter_le _ _) ?_
  rw [List.length_take]; omega
theorem ent_cnt (now : Int) (ls : List Int) : ∀ i, i ≤ ls.length → ((ent ls i).filter fun e => decide (e.2 ≤ now)).length = cnt now ls i ∧ ((ent ls i).filter fun e => decide (now < e.2)).length = i - cnt now ls i := by
  intro i
  induction i with
  | zero => intro _; simp [ent, cnt]
  | succ i ih =>
    intro hi
    obtain ⟨h1, h2⟩ := ih (by omega)
    have hc := cnt_le now ls i
    have e : ent ls (i + 1) = ent ls i ++ [((i : Int), ls[i])] := by
      unfold ent
      rw [List.range_succ, List.map_append]
      simp [List.getD_eq_getElem?_getD, show i < ls.length by omega]
    rw [e, List.filter_append, List.filter_append, List.length_append, List.length_append, h1, h2, cnt_succ now (by omega)]
    by_cases h : ls[i] ≤ now
    · rw [if_pos h, List.filter_cons_of_pos (by simpa using h), List.filter_cons_of_neg (by simpa using h)]
      simp only [List.filter_nil, List.length_cons, List.length_nil]
      exact ⟨by first | trivial | omega, by first | trivial | omega⟩
    · rw [if_neg h, List.filter_cons_of_neg (by simpa using h), List.filter_cons_of_pos (by simpa using h)]
      simp only [List.filter_nil, List.length_cons, List.length_nil]
      exact ⟨by first | trivial | omega, by first | trivial | omega⟩
theorem l3_spec {S : HS} {y0 out : Sl} {ls : List Int} {now : Int} {t r : Nat} {s : Sl} {es ml W : List It} (hr0 : S.rows y0 1 = some (ls.map numRow)) (hro : S.rows out 1 = some (W.map fun e => [kv e.1])) (h : TI t r s es ml S) (hms : ∀ e ∈ ml, now < e.2) (hls : ls.length ≤ 60) (hWl : W.length ≤ 1000)
    (hW : ∀ e ∈ W, e.2 ≤ now ∧ ∃ j, ∃ hj : j < ls.length, e = ((j : Int), ls[j])) (hs : Srt W) : ∀ (f i : Nat), W.length - i < f → i ≤ W.length → ∃ S', rollcalllaw09_TimerDue.L3 (disp 2000 4) (fun _ => none) 2000 f y0 now (some (HA.cell0 t)) out (i : Int) S = some (true, S') := by
  have hl0 : (y0.len : Int) = ls.length := by rw [← rows_len hr0]; simp
  have hlo : (out.len : Int) = W.length := by rw [← rows_len hro]; simp
  intro f
  induction f with
  | zero => intro i h; omega
  | succ f ih =>
    intro i hf hi
    rw [rollcalllaw09_TimerDue.L3, hlo]
    by_cases hlt : i < W.length
    · have hkey : ∀ q (hq : q < W.length), ∃ ad, S.idx out (q : Int) 1 = some ad ∧ S.ldI .i64 ad = some W[q].1 := fun q hq => num_at hro (by simpa using hq) (by rw [List.getElem_map]; rfl)
      obtain ⟨ad, a1, a2⟩ := hkey i hlt
      obtain ⟨hle, j, hj, hwj⟩ := hW _ (List.getElem_mem hlt)
      have hw1 : W[i].1 = (j : Int) := by rw [hwj]
      have hw2 : W[i].2 = ls[j] := by rw [hwj]
      obtain ⟨ad2, b1, b2⟩ := num_rows hr0 hj
      have hnext : ∃ S', rollcalllaw09_TimerDue.J4 (disp 2000 4) (fun _ => none) 2000 (rollcalllaw09_TimerDue.L3 (disp 2000 4) (fun _ => none) 2000 f) y0 now (some (HA.cell0 t)) out (i : Int) false S = some (true, S') := by
        rw [rollcalllaw09_TimerDue.J4, if_neg (by simp), w64_id (by omega) (by omega), show ((i : Int) + 1) = ((i + 1 : Nat) : Int) by simp]
        exact ih (i + 1) (by omega) (by omega)
      rw [if_pos (by omega), a1, Option.bind_some, a2, Option.bind_some, hw1, if_neg (by omega), hl0, if_neg (by omega), b1, Option.bind_some, b2, Option.bind_some, if_neg (by omega)]
      by_cases h0 : i = 0
      · subst h0
        rw [if_neg (by simp)]
        exact hnext
      · obtain ⟨ad3, c1, c2⟩ := hkey (i - 1) (by omega)
        obtain ⟨hle', j', hj', hwj'⟩ := hW _ (List.getElem_mem (show i - 1 < W.length by omega))
        have hw1' : W[i - 1].1 = (j' : Int) := by rw [hwj']
        have hw2' : W[i - 1].2 = ls[j'] := by rw [hwj']
        obtain ⟨ad4, d1, d2⟩ := num_rows hr0 hj'
        have hsl := itc_lt.1 (hs.lt (show i - 1 < W.length by omega) hlt (by omega))
        rw [hw2, hw2', hw1, hw1'] at hsl
        have hkl : klt (j' : Int) (j : Int) = true ↔ j' < j := by simp [klt]
        rw [hkl] at hsl
        rw [if_pos (by omega), w64_id (by omega) (by omega), show ((i : Int) - 1) = ((i - 1 : Nat) : Int) by omega, c1, Option.bind_some, c2, Option.bind_some, hw1', d1, Option.bind_some, d2, Option.bind_some, Option.bind_some, b2, Option.bind_some, if_neg (by omega), Option.bind_some, c2, Option.bind_some, hw1', d1, Option.bind_some, d2, Option.bind_some, Option.bind_some, b2, Option.bind_some]
        by_cases heq : ls[j'] = ls[j]
        · rw [if_pos heq, Option.bind_some, c2, Option.bind_some, hw1', decide_eq_false (by omega)]
          exact hnext
        · rw [if_neg heq]
          exact hnext
    · rw [if_neg (by omega)]
      rcases next_spec h with ⟨e1, _⟩ | ⟨hp, e1⟩
      · rw [e1, Option.bind_some, if_pos (by simp), rollcalllaw09_TimerDue.J5]; exact ⟨_, rfl⟩
      · have := hms _ (h.perm.mem_iff.1 (List.getElem_mem hp))
        rw [e1, Option.bind_some, if_neg (by simp), rollcalllaw09_TimerDue.J5]
        exact ⟨_, by rw [decide_eq_true (by simpa using this)]⟩
theorem idx_keep {S S' : HS} {s : Sl} (i : Int) (z : Nat) (hk : ∀ q, s.a = some q → S'.heap q.1 = S.heap q.1) : S'.idx s i z = S.idx s i z := by
  unfold HS.idx
  cases ha : s.a with
  | none => rfl
  | some q => obtain ⟨id, off⟩ := q; simp only [hk _ ha]
theorem due_loop {g t r : Nat} {y0 : Sl} {now : Int} {B : HS} {ls : List Int} (hls : ls.length ≤ 60) (hrows : B.rows y0 1 = some (ls.map numRow)) (hy : ∀ q, y0.a = some q → q.1 < g) :
    ∀ (f i : Nat) (T : HS) (s : Sl) (es : List It), ls.length - i < f → i ≤ ls.length → TI t r s es (ent ls i) T → (∀ id, Own t r s id → g ≤ id) → g ≤ T.next → (∀ id, id < g → T.heap id = B.heap id) →
    ∃ T', rollcalllaw09_TimerDue.L0 (disp 2000 4) (fun _ => none) 2000 f y0 now (some (HA.cell0 t)) (cnt now ls i : Int) (i : Int) T = some (true, T') := by
  intro f
  induction f with
  | zero => intro i T s es h; omega
  | succ f ih =>
    intro i T s es hf hi h hlo hg hk
    have hr : T.rows y0 1 = some (ls.map numRow) := rows_keep hrows fun q hq => hk _ (hy q hq)
    have hsl : (y0.len : Int) = ls.length := by rw [← rows_len hr]; simp
    have hcl := cnt_le now ls i
    have hlen : (ent ls i).length = i := by simp [ent]
    rw [rollcalllaw09_TimerDue.L0, hsl]
    by_cases hlt : i < ls.length
    · obtain ⟨ad, a1, a2⟩ := num_rows hr hlt
      obtain ⟨s', es', S1, e1, t1, o1⟩ := set_spec (n := 3) (H := fun _ => none) (k := 2000) (Nat.le_refl _) h (by omega) (i : Int) ls[i]
      have hle := o1.le
      have hg1 : ∀ id, id < g → S1.heap id = T.heap id := fun id hid => o1.eq id (by omega) (fun ho => by have := hlo id ho; omega)
      have hr1 : S1.rows y0 1 = some (ls.map numRow) := rows_keep hr fun q hq => hg1 _ (hy q hq)
      obtain ⟨ad1, c1, c2⟩ := num_rows hr1 hlt
      have t1' : TI t r s' es' (ent ls (i + 1)) S1 := by rw [← ent_succ ls hlt]; exact t1
      have hlo1 : ∀ id, Own t r s' id → g ≤ id := fun id ho => by
        rcases o1.own id ho with h3 | h3
        · exact hlo id h3
        · omega
      have hnext := ih (i + 1) S1 s' es' (by omega) (by omega) t1' hlo1 (by omega) (fun id hid => (hg1 id hid).trans (hk id hid))
      rw [cnt_succ now hlt] at hnext
      rw [if_pos (by omega), a1, Option.bind_some, a2, Option.bind_some, e1, Option.bind_some]
      simp only
      rw [c1, Option.bind_some, c2, Option.bind_some]
      by_cases hle2 : ls[i] ≤ now
      · rw [if_pos hle2] at hnext
        rw [if_pos hle2, rollcalllaw09_TimerDue.J1, w64_id (by omega) (by omega), w64_id (by omega) (by omega)]
        simpa using hnext
      · rw [if_neg hle2] at hnext
        rw [if_neg hle2, rollcalllaw09_TimerDue.J1, w64_id (by omega) (by omega)]
        simpa using hnext
    · obtain rfl : i = ls.length := by omega
      obtain ⟨out, s', es', S1, e1, r1, t1, o1, q1⟩ := take_spec (n := 2) (k := 2000) (Nat.le_refl _) h now
      have hle := o1.le
      have hg1 : ∀ id, id < g → S1.heap id = T.heap id := fun id hid => o1.eq id (by omega) (fun ho => by have := hlo id ho; omega)
      have hr1 : S1.rows y0 1 = some (ls.map numRow) := rows_keep hr fun q hq => hg1 _ (hy q hq)
      obtain ⟨n1, n2⟩ := ent_cnt now ls ls.length (Nat.le_refl _)
      have hWlen : (dueL now es).length = cnt now ls ls.length := by
        rw [← n1]; unfold dueL; exact (h.perm.filter _).length_eq
      have hfold := foldStop_due h.dst h.perm now
      have hout : (out.len : Int) = cnt now ls ls.length := by rw [← rows_len r1]; simp [hWlen]
      rw [if_neg (by omega), e1, Option.bind_some]
      simp only
      rw [hout, if_neg (by simp), tlen_spec t1, Option.bind_some, hfold, n2, w64_id (by omega) (by omega)]
      simp only
      rw [decide_eq_true (by omega), Bool.not_true, rollcalllaw09_TimerDue.J2, if_neg (by simp)]
      rw [hfold] at t1
      exact l3_spec (W := dueL now es) hr1 r1 t1 (fun e he => by simpa using (List.mem_filter.1 he).2) hls (by omega) (fun e he => by
        obtain ⟨g1, g2⟩ := List.mem_filter.1 he
        obtain ⟨j, hj, _, hje⟩ := ent_at (h.perm.mem_iff.1 g1) (Nat.le_refl _)
        exact ⟨by simpa using g2, j, hj, hje⟩) (List.Pairwise.sublist List.filter_sublist h.srt) 2000 0 (by omega) (Nat.zero_le _)
theorem timerDue_law {S : HS} {sl : Sl} {ls : List Int} {now : Int} (hn : S.next = 1) (hrd : Rd S.next S 1 sl (ls.map numRow)) : ∃ S', rollcalllaw09_TimerDue.f (disp 2000 4) (fun _ => none) 2000 sl now S = some (true, S') := by
  rw [rollcalllaw09_TimerDue.f]
  obtain ⟨A, e1, f1⟩ := awake_spec hn
  have l1 : 1 ≤ A.next := by have := f1.le; omega
  have hrd1 : Rd 1 A 1 sl (ls.map numRow) := (hn ▸ hrd).frame f1 (Nat.le_refl _)
  have hsl : (sl.len : Int) = ls.length := by rw [← rows_len hrd1.rows]; simp
  rw [e1, Option.bind_some, if_neg (by simp), hsl]
  by_cases hbig : 60 < ls.length
  · rw [if_pos (by omega)]; exact ⟨_, rfl⟩
  rw [if_neg (by omega)]
  obtain ⟨B, e2, t2, f2, n2⟩ := tnew_spec A
  rw [e2, Option.bind_some]
  have hrd2 := hrd1.frame f2 l1
  exact due_loop (g := A.next) (r := A.next) (by omega) hrd2.rows (fun q hq => by have := hrd2.lt q hq; omega) 2000 0 B Sl.nil [] (by omega) (Nat.zero_le _) t2 (fun id ho => by
    rcases ho with rfl | rfl | ⟨q, h, _⟩
    · omega
    · exact Nat.le_refl _
    · cases h) (by omega) (fun _ _ => rfl)
theorem rows_nums : ∀ {rows : List (List HV)}, (∀ row ∈ rows, RowFits [.int .i64] row) → ∃ ls : List Int, rows = ls.map numRow := by
  intro rows
  induction rows with
  | nil => intro _; exact ⟨[], rfl⟩
  | cons r rows ih =>
    intro h
    obtain ⟨ls, e⟩ := ih fun row hr => h row (by simp [hr])
    have h0 := h r (by simp)
    have hl := h0.len
    obtain ⟨v0, rfl⟩ : ∃ v0, r = [v0] := by
      match r, hl with
      | [a], _ => exact ⟨a, rfl⟩
    obtain ⟨q1, _⟩ := h0
    obtain ⟨n, h1, _⟩ := q1
    exact ⟨n :: ls, by rw [e, h1]; rfl⟩
theorem timerDue_call (W : World) (β0 : Bt) (S : HS) (s0 : Sl) (rows0 : List (List HV)) (h0 : ArgSl S 1 s0 rows0) (f0 : ∀ row ∈ rows0, RowFits [.int .i64] row) (now : Int) (w1 : (Lit.int .i64 now).wf = true) (hn : S.next = 1 := by rfl) :
    HCall Try.prog W.heap.size W β0 4 [s0.hv, .int .i64 now] S (fun v _ => v = .bool true) := by
  obtain ⟨ls, rfl⟩ := rows_nums f0
  obtain ⟨_, h⟩ := timerDue_law (now := now) hn h0.rd
  exact (rollcalllaw09_TimerDue.snd (disp_snd 4) (fun _ _ h => by cases h) h).mono fun _ _ h => h.1
end Go.Proofs.Ytlfdfkldolgkoaa.X
