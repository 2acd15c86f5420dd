/- The layer sendq: SendqWhole, plain. -/
import Derived.Test.YtpjabhpfaahgoaaSqPieces
namespace Go.Proofs.Ytpjabhpfaahgoaa.X
open Go.Proofs.Ytpjabhpfaahgoaa.HL
set_option linter.unusedVariables false
def actRow (x : Int × List UInt8 × Int) : List HV := [.int .i64 x.1, .str x.2.1, .int .i64 x.2.2]
theorem act_rows {S : HS} {s : Sl} {xs : List (Int × List UInt8 × Int)} (h : S.rows s 3 = some (xs.map actRow)) {i : Nat} (hi : i < xs.length) : ∃ ad, S.idx s (i : Int) 3 = some ad ∧ S.ldI .i64 (HA.fld ad 0) = some xs[i].1 ∧ S.ldS (HA.fld ad 1) = some xs[i].2.1 ∧ S.ldI .i64 (HA.fld ad 2) = some xs[i].2.2 := by
  obtain ⟨ad, h1, h2, h3⟩ := rows_idx h (i := i) (by simpa using hi)
  exact ⟨ad, h1, row_ldI h3 h2 (by simp [actRow]), row_ldS h3 h2 (by simp [actRow]), row_ldI h3 h2 (by simp [actRow])⟩
theorem whole_loop {D : Dp} {H : Hd} {g p : Nat} {y1 : Sl} {ac : List (Int × List UInt8 × Int)} {most : Int} (hm : w64 most = most) (hm2 : most ≤ 65535) (has : ac.length ≤ 40) (hy : ∀ x, y1.a = some x → x.1 < g) :
    ∀ (f i : Nat) (S : HS) (sp : Sl) (bs went : List UInt8) (tp : Int) (over : Bool), ac.length - i < f → i ≤ ac.length → g ≤ S.next → (∀ id, Own p sp id → g ≤ id) → QI p sp most bs tp went.length over S → 0 ≤ tp → tp ≤ 1000000 → (bs.length : Int) ≤ most → went.length + bs.length ≤ 700 * i → S.rows y1 3 = some (ac.map actRow) →
    ∃ S', rollcalllaw08_SendqWhole.L5 D H 100000 f most y1 (some (HA.cell0 p)) (went ++ bs) went (i : Int) S = some (true, S') := by
  intro f
  induction f with
  | zero => intro i S sp bs went tp over h; omega
  | succ f ih =>
    intro i S sp bs went tp over hf hi hg ho hP t1 t2 hb hw hr
    have hyl : (y1.len : Int) = ac.length := by rw [← rows_len hr]; simp
    unfold rollcalllaw08_SendqWhole.L5
    -- what comes behind an act
    have hnext : ∀ (S1 : HS) (sp1 : Sl) (bs1 went1 : List UInt8) (tp1 : Int) (over1 : Bool), i < ac.length → Only p sp sp1 S S1 → QI p sp1 most bs1 tp1 went1.length over1 S1 → 0 ≤ tp1 → tp1 ≤ 1000000 → (bs1.length : Int) ≤ most → went1.length + bs1.length ≤ 700 * (i + 1) →
        ∃ S', rollcalllaw08_SendqWhole.J6 D H 100000 (rollcalllaw08_SendqWhole.L5 D H 100000 f) most y1 (some (HA.cell0 p)) (went1 ++ bs1) went1 (i : Int) S1 = some (true, S') := by
      intro S1 sp1 bs1 went1 tp1 over1 hlt o1 q1 b1 b2 b3 b4
      rw [rollcalllaw08_SendqWhole.J6, qlen_spec q1, Option.bind_some, hm, if_neg (by simp only; omega), w64_id (by omega) (by omega), show ((i : Int) + 1) = ((i + 1 : Nat) : Int) by simp]
      exact ih (i + 1) S1 sp1 bs1 went1 tp1 over1 (by omega) (by omega) (Nat.le_trans hg o1.le) (fun id h => by
        rcases o1.own id h with h | h
        · exact ho id h
        · omega) q1 b1 b2 b3 b4 (rows_only o1 ho hg hr hy)
    by_cases hlt : i < ac.length
    · obtain ⟨ad, a1, a2, a3, a4⟩ := act_rows hr hlt
      rw [if_pos (by omega), a1, Option.bind_some, a3, Option.bind_some]
      by_cases hl : (ac[i].2.1.length : Int) > 600
      · rw [if_pos hl]; exact ⟨_, rfl⟩
      rw [if_neg hl, Option.bind_some, a2, Option.bind_some]
      by_cases hk : ac[i].1 = 1
      · obtain ⟨out, sp', tp', S1, e1, q1, ⟨_, b1, b2⟩, x1, z1, o1⟩ := drain_spec (k := 100000) hP (by omega) (by omega) t1 t2 (by omega) (by omega) ac[i].2.2
        have hd := (dn_eq ac[i].2.2 bs).2
        generalize dn ac[i].2.2 bs = d at q1 x1 hd
        rw [if_pos hk, Option.bind_some, a4, Option.bind_some, e1, Option.bind_some, x1.1, Option.bind_some, if_pos (by simp; omega)]
        have e : went ++ bs = (went ++ bs.take d) ++ bs.drop d := by rw [List.append_assoc, List.take_append_drop]
        rw [e]
        have hlt' : ((went ++ bs.take d).length : Int) = (went.length : Int) + d := by simp; omega
        refine hnext S1 sp' (bs.drop d) (went ++ bs.take d) tp' over hlt o1 (by rw [hlt']; exact q1) b1 b2 ?_ ?_
        · simp only [List.length_drop]; omega
        · simp only [List.length_append, List.length_take, List.length_drop]; omega
      · obtain ⟨sp', S1, e1, q1, o1⟩ := push_spec (k := 100000) (x := ac[i].2.1) hP (by omega) (by omega) (by omega)
        rw [if_neg hk, Option.bind_some, a3, Option.bind_some, e1, Option.bind_some]
        have hr1 := rows_only o1 ho hg hr hy
        obtain ⟨ad', c1, c2, c3, c4⟩ := act_rows hr1 hlt
        by_cases hok : (may over ac[i].2.1 && fits most bs ac[i].2.1) = true
        · rw [if_pos hok] at q1
          have hfit : (bs.length : Int) + ac[i].2.1.length + 2 ≤ most := by
            simp only [Bool.and_eq_true, fits, decide_eq_true_eq] at hok
            exact hok.2
          rw [if_pos hok, c1, Option.bind_some, c3, Option.bind_some, if_pos (by simp; omega), if_pos (by simp; omega)]
          have e : went ++ bs ++ (ac[i].2.1 ++ [13, 10]) = went ++ (bs ++ ac[i].2.1 ++ [13, 10]) := by simp
          rw [e]
          refine hnext S1 sp' _ went tp _ hlt o1 q1 t1 t2 ?_ ?_
          · simp only [List.length_append, List.length_cons, List.length_nil]; omega
          · simp only [List.length_append, List.length_cons, List.length_nil]; omega
        · rw [if_neg hok] at q1
          rw [if_neg hok]
          exact hnext S1 sp' bs went tp _ hlt o1 q1 t1 t2 hb (by omega)
    · rw [if_neg (by omega), qlen_spec hP, Option.bind_some]
      obtain ⟨out, sp', tp', S1, e1, q1, ⟨_, b1, b2⟩, x1, z1, o1⟩ := drain_spec (k := 100000) hP (by omega) (by omega) t1 t2 (by omega) (by omega) (bs.length : Int)
      have hd : dn (bs.length : Int) bs = bs.length := by unfold dn mx mn; repeat' split; all_goals omega
      rw [hd, List.drop_length] at q1
      rw [hd, List.take_length] at x1
      rw [e1, Option.bind_some, x1.1, Option.bind_some, if_pos (by omega), if_pos rfl, decide_eq_true rfl, rollcalllaw08_SendqWhole.J7, if_pos rfl, qlen_spec q1, Option.bind_some, rollcalllaw08_SendqWhole.J8]
      obtain ⟨out2, sp2, tp2, S2, e2, q2, _, x2, _, _⟩ := drain_spec (k := 100000) q1 (by simp) (by simp) b1 b2 (by omega) (by omega) 1
      have hl2 : (out2.len : Int) = 0 := by rw [x2.2.1]; simp
      rw [if_pos (by simp), e2, Option.bind_some, hl2, rollcalllaw08_SendqWhole.J9]
      exact ⟨_, rfl⟩
theorem sendqWhole_law {S : HS} {x1 : Sl} {ac : List (Int × List UInt8 × Int)} (h1 : Rd S.next S 3 x1 (ac.map actRow)) {most : Int} (hm0 : 0 ≤ most) (hm1 : most ≤ 65535) : ∃ S', rollcalllaw08_SendqWhole.f (disp 100000 4) (fun _ => none) 100000 most x1 S = some (true, S') := by
  unfold rollcalllaw08_SendqWhole.f
  obtain ⟨S1, e1, f1⟩ := awake_spec (S := S)
  have hl1 : (x1.len : Int) = ac.length := by rw [h1.len]; simp
  have hw : w64 most = most := w64_id (by omega) (by omega)
  rw [e1, Option.bind_some, if_neg (by simp), hw]
  by_cases h512 : most < 512
  · have en : sendq_New.f most S1 = some ((none, 2), S1) := by rw [sendq_New.f, if_pos h512, sendq_New.J0, if_pos rfl]
    rw [en, Option.bind_some, if_pos (by simp), rollcalllaw08_SendqWhole.J0, if_pos rfl, if_pos (by rfl), if_pos h512, rollcalllaw08_SendqWhole.J1, if_pos (by rfl), rollcalllaw08_SendqWhole.J2, if_pos (by rfl), rollcalllaw08_SendqWhole.J3]
    exact ⟨_, rfl⟩
  obtain ⟨A, e2, q2, f2, n2⟩ := qnew_spec (most := most) (S := S1) (by omega) (by omega)
  rw [e2, Option.bind_some, if_neg (by simp), hl1]
  by_cases hb : ac.length > 40
  · rw [show decide ((ac.length : Int) > 40) = true by simp; omega, rollcalllaw08_SendqWhole.J0, if_pos rfl, if_neg (by simp), rollcalllaw08_SendqWhole.J2, if_neg (by simp), if_pos rfl, rollcalllaw08_SendqWhole.J4, if_neg (by simp), rollcalllaw08_SendqWhole.J3]
    exact ⟨_, rfl⟩
  rw [show decide ((ac.length : Int) > 40) = false by simp; omega, rollcalllaw08_SendqWhole.J0, if_neg (by simp)]
  have hfr : Fr S.next S A := f1.trans (f2.mono f1.le)
  have l1 := f1.le
  have := whole_loop (D := disp 100000 4) (H := fun _ => none) (g := S.next) (p := S1.next) (y1 := x1) (ac := ac) (most := most) hw hm1 (by omega) (fun x hx => h1.lt x hx) 100000 0 A Sl.nil [] [] 0 false (by omega) (by omega) (by omega)
    (fun id h => by rcases h with h | ⟨p, h, _⟩; omega; cases h) (by simpa using q2) (by omega) (by omega) (by simp; omega) (by simp) (rows_same h1.rows fun p hp => hfr.eq _ (h1.lt p hp))
  simpa using this
theorem rows_acts : ∀ {rows : List (List HV)}, (∀ row ∈ rows, RowFits [.int .i64, .str, .int .i64] row) → ∃ ls : List (Int × List UInt8 × Int), rows = ls.map actRow := by
  intro rows
  induction rows with
  | nil => intro _; exact ⟨[], rfl⟩
  | cons r rows ih =>
    intro h
    obtain ⟨ls, e⟩ := ih fun row hr => h row (by simp [hr])
    have h0 := h r (by simp)
    have hl := h0.len
    obtain ⟨v0, v1, v2, rfl⟩ : ∃ v0 v1 v2, r = [v0, v1, v2] := by
      match r, hl with
      | [v0, v1, v2], _ => exact ⟨v0, v1, v2, rfl⟩
    obtain ⟨q1, q2, q3, _⟩ := h0
    obtain ⟨n, h1, _⟩ := q1
    obtain ⟨s, h2, _⟩ := q2
    obtain ⟨m, h3, _⟩ := q3
    exact ⟨(n, s, m) :: ls, by rw [e, h1, h2, h3]; rfl⟩
set_option maxRecDepth 20000 in
theorem sendqWhole_call (W : World) (β0 : Bt) (S : HS) (x0 : Int) (w0 : (Lit.int .u16 x0).wf = true) (s1 : Sl) (rows1 : List (List HV)) (h1 : ArgSl S 3 s1 rows1) (f1 : ∀ row ∈ rows1, RowFits [.int .i64, .str, .int .i64] row) :
    HCall Try.prog W.heap.size W β0 3 [.int .u16 x0, s1.hv] S (fun v _ => v = .bool true) := by
  obtain ⟨ls, rfl⟩ := rows_acts f1
  have hn : 0 ≤ x0 ∧ x0 ≤ 65535 := by simpa [Lit.wf, IntKind.min, IntKind.max, IntKind.signed, IntKind.bits] using w0
  obtain ⟨_, h⟩ := sendqWhole_law h1.rd hn.1 hn.2
  exact (rollcalllaw08_SendqWhole.snd (disp_snd 4) (fun _ _ h => by cases h) h).mono fun _ _ h => h.1
end Go.Proofs.Ytpjabhpfaahgoaa.X
