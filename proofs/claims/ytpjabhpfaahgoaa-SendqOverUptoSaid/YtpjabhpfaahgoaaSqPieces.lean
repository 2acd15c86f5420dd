/- The layer sendq: SendqPieces, plain. -/
import Derived.Test.YtpjabhpfaahgoaaSqAwake
namespace Go.Proofs.Ytpjabhpfaahgoaa.X
open Go.Proofs.Ytpjabhpfaahgoaa.HL
set_option linter.unusedVariables false
def strRow (x : List UInt8) : List HV := [.str x]
theorem str_rows {S : HS} {s : Sl} {xs : List (List UInt8)} (h : S.rows s 1 = some (xs.map strRow)) {i : Nat} (hi : i < xs.length) : ∃ ad, S.idx s (i : Int) 1 = some ad ∧ S.ldS ad = some xs[i] := by
  obtain ⟨ad, h1, h2, h3⟩ := rows_idx h (i := i) (by simpa using hi)
  refine ⟨ad, h1, ?_⟩
  have := row_ldS (j := 0) (s := xs[i]) h3 h2 (by simp [strRow])
  obtain ⟨a1, a2, a3⟩ := ad
  simp only at h2
  subst h2
  exact this
def u8Row (x : Nat) : List HV := [.int .u8 x]
theorem u8_rows {S : HS} {s : Sl} {xs : List Nat} (h : S.rows s 1 = some (xs.map u8Row)) {i : Nat} (hi : i < xs.length) : ∃ ad, S.idx s (i : Int) 1 = some ad ∧ S.ldI .u8 ad = some (xs[i] : Int) := by
  obtain ⟨ad, h1, h2, h3⟩ := rows_idx h (i := i) (by simpa using hi)
  refine ⟨ad, h1, ?_⟩
  have := row_ldI (j := 0) (k := .u8) (n := (xs[i] : Int)) h3 h2 (by simp [u8Row])
  obtain ⟨a1, a2, a3⟩ := ad
  simp only at h2
  subst h2
  exact this
/-- Two queues that are apart. -/
structure Two (g p q : Nat) (sp sq : Sl) (S : HS) : Prop where
  lop : ∀ id, Own p sp id → g ≤ id ∧ id < S.next
  loq : ∀ id, Own q sq id → g ≤ id ∧ id < S.next
  apart : ∀ id, Own p sp id → ¬ Own q sq id
theorem Two.symm {g p q : Nat} {sp sq : Sl} {S : HS} (h : Two g p q sp sq S) : Two g q p sq sp S := ⟨h.loq, h.lop, fun id h1 h2 => h.apart id h2 h1⟩
theorem Two.step {g p q : Nat} {sp sp' sq : Sl} {S S' : HS} (h : Two g p q sp sq S) (ho : Only p sp sp' S S') (hi : ∀ id, Own p sp' id → id < S'.next) (hg : g ≤ S.next) : Two g p q sp' sq S' :=
  ⟨fun id h1 => ⟨by rcases ho.own id h1 with h2 | h2
                    · exact (h.lop id h2).1
                    · omega, hi id h1⟩, fun id h1 => ⟨(h.loq id h1).1, Nat.lt_of_lt_of_le (h.loq id h1).2 ho.le⟩, fun id h1 h2 => by
    rcases ho.own id h1 with h3 | h3
    · exact h.apart id h3 h2
    · have := (h.loq id h2).2; omega⟩
theorem Two.keep {g p q : Nat} {sp sp' sq : Sl} {S S' : HS} (h : Two g p q sp sq S) (ho : Only p sp sp' S S') {most : Int} {bs : List UInt8} {torn sent : Int} {over : Bool} (hq : QI q sq most bs torn sent over S) : QI q sq most bs torn sent over S' :=
  hq.keep (fun id h1 => ho.eq id (h.loq id h1).2 (fun h2 => h.apart id h2 h1)) ho.le
theorem rows_only {g p : Nat} {sp sp' : Sl} {S S' : HS} (ho : Only p sp sp' S S') (hlo : ∀ id, Own p sp id → g ≤ id) (hg : g ≤ S.next) {s : Sl} {z : Nat} {rows : List (List HV)} (hr : S.rows s z = some rows) (hs : ∀ x, s.a = some x → x.1 < g) : S'.rows s z = some rows :=
  rows_same hr fun x hx => ho.eq _ (by have := hs x hx; omega) (fun h => by have := hlo _ h; have := hs x hx; omega)

theorem pieces_loop {D : Dp} {H : Hd} {g p q : Nat} {y1 : Sl} {ps : List Nat} {bs : List UInt8} {over : Bool} (hp30 : ps.length ≤ 30) (hps : ∀ x ∈ ps, x ≤ 255) (hbs : bs.length ≤ 65536) (hy : ∀ x, y1.a = some x → x.1 < g) :
    ∀ (f i m : Nat) (S : HS) (sp sq : Sl) (tp tq : Int), ps.length - i < f → i ≤ ps.length → m ≤ bs.length → g ≤ S.next → Two g p q sp sq S → QI p sp 65536 bs tp 0 over S → QI q sq 65536 (bs.drop m) tq m over S → 0 ≤ tp → tp ≤ 1000000 → 0 ≤ tq → tq ≤ 1000000 → S.rows y1 1 = some (ps.map u8Row) →
    ∃ S', rollcalllaw08_SendqPieces.L4 D H 100000 f y1 (some (HA.cell0 p)) (some (HA.cell0 q)) (m : Int) (bs.take m) (i : Int) S = some (true, S') := by
  intro f
  induction f with
  | zero => intro i m S sp sq tp tq h; omega
  | succ f ih =>
    intro i m S sp sq tp tq hf hi hm hg h2 hP hQ t1 t2 t3 t4 hr
    have hyl : (y1.len : Int) = ps.length := by rw [← rows_len hr]; simp
    unfold rollcalllaw08_SendqPieces.L4
    by_cases hlt : i < ps.length
    · obtain ⟨ad, a1, a2⟩ := u8_rows hr hlt
      have hb := hps _ (List.getElem_mem hlt)
      obtain ⟨out, sq', tq', S1, e1, q1, ⟨_, b1, b2⟩, x1, y1', o1⟩ := drain_spec (k := 100000) hQ (by simp; omega) (by simp; omega) t3 t4 (by omega) (by omega) (ps[i] : Int)
      have hdn := (dn_eq (ps[i] : Int) (bs.drop m)).2
      rw [List.length_drop] at hdn
      generalize dn (ps[i] : Int) (bs.drop m) = d at q1 x1 hdn
      rw [if_pos (by omega), a1, Option.bind_some, a2, Option.bind_some, w64_id (by omega) (by omega), e1, Option.bind_some, x1.1, Option.bind_some, if_pos (by simp; omega)]
      have hol : (out.len : Int) = d := by
        have := x1.2.1
        rw [List.length_take, List.length_drop] at this
        omega
      rw [hol, w64_id (n := (m : Int) + d) (by omega) (by omega), w64_id (by omega) (by omega), show ((m : Int) + d) = ((m + d : Nat) : Int) by simp, show ((i : Int) + 1) = ((i + 1 : Nat) : Int) by simp, ← List.take_add]
      rw [List.drop_drop] at q1
      have hs := h2.symm
      exact ih (i + 1) (m + d) S1 sp sq' tp tq' (by omega) (by omega) (by omega) (Nat.le_trans hg o1.le) (hs.step o1 (fun id ho => q1.lt ho) hg).symm (hs.keep o1 hP) (by simpa using q1) t1 t2 b1 b2 (rows_only o1 (fun id ho => (h2.loq id ho).1) hg hr hy)
    · -- all of it
      obtain ⟨out, sp', tp', S1, e1, q1, ⟨_, b1, b2⟩, x1, y1', o1⟩ := drain_spec (k := 100000) hP (by omega) (by omega) t1 t2 (by omega) (by omega) (m : Int)
      have hdm : dn (m : Int) bs = m := by unfold dn mx mn; repeat' split; all_goals omega
      rw [hdm] at q1 x1
      have hQ1 := h2.keep o1 hQ
      have h21 := h2.step o1 (fun id ho => q1.lt ho) hg
      have hg1 : g ≤ S1.next := Nat.le_trans hg o1.le
      rw [if_neg (by omega), e1, Option.bind_some, x1.1, Option.bind_some, if_pos rfl, qlen_spec q1, Option.bind_some, qlen_spec hQ1, Option.bind_some, if_pos rfl, qsent_spec q1, Option.bind_some, qsent_spec hQ1, Option.bind_some, if_pos (by simp)]
      obtain ⟨o2, sp2, tp2, S2, e2, q2, ⟨_, c1, c2⟩, x2, z2, w2⟩ := drain_spec (k := 100000) q1 (by simp; omega) (by simp; omega) b1 b2 (by omega) (by omega) 1048576
      have hQ2 := h21.keep w2 hQ1
      have h22 := h21.step w2 (fun id ho => q2.lt ho) hg1
      obtain ⟨o3, sq3, tq3, S3, e3, q3, ⟨_, d1, d2⟩, x3, z3, w3⟩ := drain_spec (k := 100000) hQ2 (by simp; omega) (by simp; omega) t3 t4 (by omega) (by omega) 1048576
      have hx2 : Txt S3 o2 ((bs.drop m).take (dn 1048576 (bs.drop m))) := x2.keep (fun p' hp' => w3.eq _ (x2.2.2 p' hp') (fun ho => by
        have := (z2 p' hp').1
        have h5 := h21.loq _ ho
        omega)) w3.le
      rw [e2, Option.bind_some, x2.1, Option.bind_some, e3, Option.bind_some, hx2.1, Option.bind_some, if_pos rfl, x3.1, Option.bind_some]
      exact ⟨_, by simp; rfl⟩

theorem push_loop {D : Dp} {H : Hd} {g p q : Nat} {y0 y1 : Sl} {ls : List (List UInt8)} {ps : List Nat} (hls : ls.length ≤ 30) (hp30 : ps.length ≤ 30) (hps : ∀ x ∈ ps, x ≤ 255) (hy0 : ∀ x, y0.a = some x → x.1 < g) (hy1 : ∀ x, y1.a = some x → x.1 < g) :
    ∀ (f i : Nat) (S : HS) (sp sq : Sl) (bs : List UInt8) (over : Bool), ls.length - i < f → i ≤ ls.length → bs.length ≤ 65536 → g ≤ S.next → Two g p q sp sq S → QI p sp 65536 bs 0 0 over S → QI q sq 65536 bs 0 0 over S → S.rows y0 1 = some (ls.map strRow) → S.rows y1 1 = some (ps.map u8Row) →
    ∃ S', rollcalllaw08_SendqPieces.L2 D H 100000 f y0 y1 (some (HA.cell0 p)) (some (HA.cell0 q)) (i : Int) S = some (true, S') := by
  intro f
  induction f with
  | zero => intro i S sp sq bs over h; omega
  | succ f ih =>
    intro i S sp sq bs over hf hi hb hg h2 hP hQ hr0 hr1
    have hyl : (y0.len : Int) = ls.length := by rw [← rows_len hr0]; simp
    unfold rollcalllaw08_SendqPieces.L2
    by_cases hlt : i < ls.length
    · obtain ⟨ad, a1, a2⟩ := str_rows hr0 hlt
      rw [if_pos (by omega), a1, Option.bind_some, a2, Option.bind_some]
      by_cases hl : (ls[i].length : Int) > 200
      · rw [if_pos hl, rollcalllaw08_SendqPieces.J3, if_pos rfl, a1, Option.bind_some, a2, Option.bind_some, decide_eq_true hl]
        exact ⟨_, rfl⟩
      obtain ⟨sp', S1, e1, q1, o1⟩ := push_spec (k := 100000) (x := ls[i]) hP (by omega) (by omega) (by omega)
      have hQ1 := h2.keep o1 hQ
      have h21 := h2.step o1 (fun id ho => q1.lt ho) hg
      have hg1 : g ≤ S1.next := Nat.le_trans hg o1.le
      have hr01 := rows_only o1 (fun id ho => (h2.lop id ho).1) hg hr0 hy0
      have hr11 := rows_only o1 (fun id ho => (h2.lop id ho).1) hg hr1 hy1
      obtain ⟨ad', b1, b2⟩ := str_rows hr01 hlt
      have hidx : S1.idx y0 (i : Int) 1 = some ad := by
        obtain ⟨ya, yl, yc⟩ := y0
        unfold HS.idx at a1 ⊢
        cases ya with
        | none => exact a1
        | some x =>
          have : S1.heap x.1 = S.heap x.1 := o1.eq _ (by have := hy0 x rfl; omega) (fun ho => by have := (h2.lop _ ho).1; have := hy0 x rfl; omega)
          simp only [this]
          exact a1
      rw [hidx] at b1
      cases b1
      obtain ⟨sq', S2, e2, q2, o2⟩ := push_spec (k := 100000) (x := ls[i]) hQ1 (by omega) (by omega) (by omega)
      have hs := h21.symm
      rw [if_neg hl, Option.bind_some, a2, Option.bind_some, e1, Option.bind_some, hidx, Option.bind_some, Option.bind_some, if_pos rfl, b2, Option.bind_some, a2, Option.bind_some, if_pos rfl, e2, Option.bind_some, rollcalllaw08_SendqPieces.J3, if_neg (by simp), w64_id (by omega) (by omega), show ((i : Int) + 1) = ((i + 1 : Nat) : Int) by simp]
      refine ih (i + 1) S2 sp' sq' _ _ (by omega) (by omega) ?_ (Nat.le_trans hg1 o2.le) (hs.step o2 (fun id ho => q2.lt ho) hg1).symm (hs.keep o2 q1) q2 (rows_only o2 (fun id ho => (h21.loq id ho).1) hg1 hr01 hy0) (rows_only o2 (fun id ho => (h21.loq id ho).1) hg1 hr11 hy1)
      split
      · rename_i hc
        simp only [Bool.and_eq_true, fits, decide_eq_true_eq] at hc
        simp only [List.length_append, List.length_cons, List.length_nil]
        omega
      · exact hb
    · rw [if_neg (by omega)]
      have := pieces_loop (D := D) (H := H) (g := g) (p := p) (q := q) (y1 := y1) (ps := ps) (bs := bs) (over := over) hp30 hps hb hy1 100000 0 0 S sp sq 0 0 (by omega) (by omega) (by omega) hg h2 hP (by simpa using hQ) (by omega) (by omega) (by omega) (by omega) hr1
      simpa using this

theorem sendqPieces_law {S : HS} {x0 x1 : Sl} {ls : List (List UInt8)} {ps : List Nat} (h0 : Rd S.next S 1 x0 (ls.map strRow)) (h1 : Rd S.next S 1 x1 (ps.map u8Row)) (hps : ∀ x ∈ ps, x ≤ 255) : ∃ S', rollcalllaw08_SendqPieces.f (disp 100000 4) (fun _ => none) 100000 x0 x1 S = some (true, S') := by
  unfold rollcalllaw08_SendqPieces.f
  obtain ⟨S1, e1, f1⟩ := awake_spec (S := S)
  have hl0 : (x0.len : Int) = ls.length := by rw [h0.len]; simp
  have hl1 : (x1.len : Int) = ps.length := by rw [h1.len]; simp
  rw [e1, Option.bind_some, if_neg (by simp), hl0, hl1]
  have ht : ∀ S, rollcalllaw08_SendqPieces.J0 (disp 100000 4) (fun _ => none) 100000 x0 x1 true S = some (true, S) := fun S => by rw [rollcalllaw08_SendqPieces.J0, if_pos rfl]
  by_cases hb0 : ls.length > 30
  · rw [if_pos (by omega)]; exact ⟨_, ht _⟩
  rw [if_neg (by omega)]
  by_cases hb1 : ps.length > 30
  · rw [show decide ((ps.length : Int) > 30) = true by simp; omega]; exact ⟨_, ht _⟩
  obtain ⟨A, e2, q2, f2, n2⟩ := qnew_spec (most := 65536) (S := S1) (by omega) (by omega)
  obtain ⟨B, e3, q3, f3, n3⟩ := qnew_spec (most := 65536) (S := A) (by omega) (by omega)
  rw [show decide ((ps.length : Int) > 30) = false by simp; omega, rollcalllaw08_SendqPieces.J0, if_neg (by simp), e2, Option.bind_some, e3, Option.bind_some, if_neg (by simp), rollcalllaw08_SendqPieces.J1, if_neg (by simp)]
  have hA : QI S1.next Sl.nil 65536 [] 0 0 false B := q2.fr f3
  have hfr : Fr S.next S B := (f1.trans (f2.mono f1.le)).trans (f3.mono (by have := f1.le; omega))
  have r0 : B.rows x0 1 = some (ls.map strRow) := rows_same h0.rows fun p hp => hfr.eq _ (h0.lt p hp)
  have r1 : B.rows x1 1 = some (ps.map u8Row) := rows_same h1.rows fun p hp => hfr.eq _ (h1.lt p hp)
  have l1 := f1.le
  have own1 : ∀ id, Own S1.next Sl.nil id → id = S1.next := fun id h => by rcases h with h | ⟨p, h, _⟩; exact h; cases h
  have own2 : ∀ id, Own A.next Sl.nil id → id = A.next := fun id h => by rcases h with h | ⟨p, h, _⟩; exact h; cases h
  have := push_loop (D := disp 100000 4) (H := fun _ => none) (g := S.next) (p := S1.next) (q := A.next) (y0 := x0) (y1 := x1) (ls := ls) (ps := ps) (by omega) (by omega) hps (fun x hx => h0.lt x hx) (fun x hx => h1.lt x hx) 100000 0 B Sl.nil Sl.nil [] false (by omega) (by omega) (by simp) (by omega)
    ⟨fun id h => by have := own1 id h; omega, fun id h => by have := own2 id h; omega, fun id h k => by have := own1 id h; have := own2 id k; omega⟩ hA q3 r0 r1
  exact this

theorem rows_strs : ∀ {rows : List (List HV)}, (∀ row ∈ rows, RowFits [.str] row) → ∃ ls : List (List UInt8), rows = ls.map strRow := by
  intro rows
  induction rows with
  | nil => intro _; exact ⟨[], rfl⟩
  | cons r rows ih =>
    intro h
    obtain ⟨ls, e⟩ := ih fun row hr => h row (by simp [hr])
    have h0 := h r (by simp)
    have hl := h0.len
    obtain ⟨v0, rfl⟩ : ∃ v0, r = [v0] := by
      cases r with
      | nil => simp at hl
      | cons v0 r =>
        cases r with
        | nil => exact ⟨v0, rfl⟩
        | cons v1 r => simp at hl
    obtain ⟨q1, _⟩ := h0
    obtain ⟨n, h1, _⟩ := q1
    exact ⟨n :: ls, by rw [e, h1]; rfl⟩
theorem rows_u8s : ∀ {rows : List (List HV)}, (∀ row ∈ rows, RowFits [.int .u8] row) → ∃ ls : List Nat, rows = ls.map u8Row ∧ ∀ x ∈ ls, x ≤ 255 := by
  intro rows
  induction rows with
  | nil => intro _; exact ⟨[], rfl, by simp⟩
  | cons r rows ih =>
    intro h
    obtain ⟨ls, e, hb⟩ := ih fun row hr => h row (by simp [hr])
    have h0 := h r (by simp)
    have hl := h0.len
    obtain ⟨v0, rfl⟩ : ∃ v0, r = [v0] := by
      cases r with
      | nil => simp at hl
      | cons v0 r =>
        cases r with
        | nil => exact ⟨v0, rfl⟩
        | cons v1 r => simp at hl
    obtain ⟨q1, _⟩ := h0
    obtain ⟨n, h1, h2⟩ := q1
    have hn : 0 ≤ n ∧ n ≤ 255 := by simpa [Lit.wf, IntKind.min, IntKind.max, IntKind.signed, IntKind.bits] using h2
    refine ⟨n.toNat :: ls, ?_, ?_⟩
    · rw [e, h1]
      have : ((n.toNat : Nat) : Int) = n := by omega
      simp [u8Row, this]
    · intro x hx
      rcases List.mem_cons.1 hx with rfl | hx
      · omega
      · exact hb x hx
set_option maxRecDepth 20000 in
theorem sendqPieces_call (W : World) (β0 : Bt) (S : HS) (s0 : Sl) (rows0 : List (List HV)) (h0 : ArgSl S 1 s0 rows0) (f0 : ∀ row ∈ rows0, RowFits [.str] row) (s1 : Sl) (rows1 : List (List HV)) (h1 : ArgSl S 1 s1 rows1) (f1 : ∀ row ∈ rows1, RowFits [.int .u8] row) :
    HCall Try.prog W.heap.size W β0 4 [s0.hv, s1.hv] S (fun v _ => v = .bool true) := by
  obtain ⟨ls, rfl⟩ := rows_strs f0
  obtain ⟨ps, rfl, hps⟩ := rows_u8s f1
  obtain ⟨_, h⟩ := sendqPieces_law h0.rd h1.rd hps
  exact (rollcalllaw08_SendqPieces.snd (disp_snd 4) (fun _ _ h => by cases h) h).mono fun _ _ h => h.1
end Go.Proofs.Ytpjabhpfaahgoaa.X
