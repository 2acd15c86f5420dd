/- The layer pair: PairBoth, plain. -/
import Derived.Test.YtdgmehfhgppheaaPpPlay
namespace Go.Proofs.Ytdgmehfhgppheaa.X
open Go.Proofs.Ytdgmehfhgppheaa.HL
set_option linter.unusedVariables false
set_option maxRecDepth 100000
/-- Nobody has more than may be. -/
def Few (most : Int) (L : List Pr) : Prop := ∀ (a : Int) (xs : List KS.Ky), KS.Srt xs → (∀ v, v ∈ xs ↔ (a, v) ∈ L) → (xs.length : Int) ≤ most
theorem srt_nodup {xs : List KS.Ky} (h : KS.Srt xs) : xs.Nodup := h.imp fun {a b} h e => by subst e; rw [KS.klt_irrefl] at h; cases h
theorem Few.wo {most : Int} {L : List Pr} (h : Few most L) (hx : ∀ a, ∃ xs, KS.Srt xs ∧ ∀ v, v ∈ xs ↔ (a, v) ∈ L) (x : Pr) : Few most (wo x L) := by
  intro a xs hs hm
  obtain ⟨ys, h1, h2⟩ := hx a
  have := nodup_sub xs ys (srt_nodup hs) fun v hv => (h2 v).2 (wo_mem.1 ((hm v).1 hv)).1
  have := h a ys h1 h2
  omega
theorem Few.add {most : Int} {L : List Pr} (h : Few most L) (hx : ∀ a, ∃ xs, KS.Srt xs ∧ ∀ v, v ∈ xs ↔ (a, v) ∈ L) {a : Int} {b : List UInt8} {xs : List KS.Ky} (hs : KS.Srt xs) (hm : ∀ v, v ∈ xs ↔ (a, v) ∈ L) :
    Few most (if (a, b) ∈ L then L else if most ≤ xs.length then L else L ++ [(a, b)]) := by
  by_cases hin : (a, b) ∈ L
  · rw [if_pos hin]; exact h
  · rw [if_neg hin]
    by_cases hf : most ≤ (xs.length : Int)
    · rw [if_pos hf]; exact h
    · rw [if_neg hf]
      intro a' xs' hs' hm'
      by_cases ha : a' = a
      · subst ha
        have := nodup_sub xs' (b :: xs) (srt_nodup hs') fun v hv => by
          rcases List.mem_append.1 ((hm' v).1 hv) with g | g
          · exact List.mem_cons_of_mem _ ((hm v).2 g)
          · simp at g; simp [g]
        rw [List.length_cons] at this
        omega
      · obtain ⟨ys, h1, h2⟩ := hx a'
        have := nodup_sub xs' ys (srt_nodup hs') fun v hv => by
          rcases List.mem_append.1 ((hm' v).1 hv) with g | g
          · exact (h2 v).2 g
          · simp at g; exact absurd g.1 ha
        have := h a' ys h1 h2
        omega
theorem RelI.ex {r m1 m2 n : Nat} {most : Int} {E1 : List MA.En} {E2 : List MB.En} {L : List Pr} {S : HS} (h : RelI r m1 m2 n most E1 E2 L S) (a : Int) : ∃ xs, KS.Srt xs ∧ ∀ v, v ∈ xs ↔ (a, v) ∈ L := by
  obtain ⟨xs, h1, h2, _⟩ := h.at1 a
  exact ⟨xs, h1, h2⟩
theorem found_loop {r0 : Option HA} {most a : Int} {b : List UInt8} {o1 o2 : Sl} {xs : List KS.Ky} {S : HS} (h : S.rows o1 1 = some (xs.map KS.row1)) (hl : xs.length ≤ 1000) :
    ∀ f i c, xs.length - i < f → i ≤ xs.length → (c = true ↔ b ∈ xs.take i) → ∃ f', rollcalllaw11_PairBoth.L3 (disp 2000 4) (fun _ => none) 2000 f most a b r0 o1 true o2 true c (i : Int) S = rollcalllaw11_PairBoth.L3 (disp 2000 4) (fun _ => none) 2000 (f' + 1) most a b r0 o1 true o2 true (decide (b ∈ xs)) (xs.length : Int) S := by
  have hsl : (o1.len : Int) = xs.length := by rw [← rows_len h]; simp
  intro f
  induction f with
  | zero => intro i c h; omega
  | succ f ih =>
    intro i c hf hi hc
    by_cases hlt : i < xs.length
    · obtain ⟨ad, a1, a2⟩ := KS.ldK_at h hlt
      have htk : b ∈ xs.take (i + 1) ↔ b ∈ xs.take i ∨ b = xs[i] := by rw [List.take_succ_eq_append_getElem hlt, List.mem_append, List.mem_singleton]
      rw [rollcalllaw11_PairBoth.L3, hsl, if_pos (by omega)]
      cases hcc : c with
      | true =>
        rw [if_pos rfl, rollcalllaw11_PairBoth.J4, w64_id (by omega) (by omega), show ((i : Int) + 1) = ((i + 1 : Nat) : Int) by simp]
        exact ih (i + 1) true (by omega) (by omega) (by rw [htk]; exact ⟨fun _ => .inl (hc.1 hcc), fun _ => rfl⟩)
      | false =>
        rw [if_neg (by simp), a1, Option.bind_some, a2, Option.bind_some, rollcalllaw11_PairBoth.J4, w64_id (by omega) (by omega), show ((i : Int) + 1) = ((i + 1 : Nat) : Int) by simp]
        refine ih (i + 1) _ (by omega) (by omega) ?_
        rw [htk, decide_eq_true_eq]
        exact ⟨fun g => .inr g.symm, fun g => g.elim (fun g => by have := hc.2 g; rw [hcc] at this; cases this) (fun g => g.symm)⟩
    · obtain rfl : i = xs.length := by omega
      rw [List.take_length] at hc
      have : c = decide (b ∈ xs) := by
        cases c with
        | true => exact (decide_eq_true (hc.1 rfl)).symm
        | false => exact (decide_eq_false fun g => by have := hc.2 g; cases this).symm
      subst this
      exact ⟨f, rfl⟩
theorem both_loop {g r m1 m2 : Nat} {most a : Int} {b : List UInt8} {y1 : Sl} {B : HS} {ls : List Ac} (hmost : 0 ≤ most ∧ most ≤ 255) (hls : ls.length ≤ 40) (hrows : B.rows y1 3 = some (ls.map actRow)) (hy : ∀ q, y1.a = some q → q.1 < g) :
    ∀ (f i : Nat) (T : HS) (E1 : List MA.En) (E2 : List MB.En) (L : List Pr), ls.length - i < f → i ≤ ls.length → RelI r m1 m2 i most E1 E2 L T → Few most L → (∀ id, OR r m1 m2 E1 E2 id → g ≤ id) → g ≤ T.next → (∀ id, id < g → T.heap id = B.heap id) →
    ∃ T', rollcalllaw11_PairBoth.L1 (disp 2000 4) (fun _ => none) 2000 f most y1 a b (some (HA.cell0 r)) (i : Int) T = some (true, T') := by
  intro f
  induction f with
  | zero => intro i T E1 E2 L h; omega
  | succ f ih =>
    intro i T E1 E2 L hf hi h hfew hlo hgn hk
    have hr : T.rows y1 3 = some (ls.map actRow) := rows_keep hrows fun q hq => hk _ (hy q hq)
    have hsl : (y1.len : Int) = ls.length := by rw [← rows_len hr]; simp
    rw [rollcalllaw11_PairBoth.L1, hsl]
    by_cases hlt : i < ls.length
    · obtain ⟨ad, a1, a2, a3, a4⟩ := act_rows hr hlt
      have hnext : ∀ (E1' : List MA.En) (E2' : List MB.En) (L' : List Pr) (S1 : HS), RelI r m1 m2 (i + 1) most E1' E2' L' S1 → Few most L' → Chg (OR r m1 m2 E1 E2) (OR r m1 m2 E1' E2') T S1 →
          ∃ T', rollcalllaw11_PairBoth.J2 (disp 2000 4) (fun _ => none) 2000 (rollcalllaw11_PairBoth.L1 (disp 2000 4) (fun _ => none) 2000 f) most y1 a b (some (HA.cell0 r)) (i : Int) S1 = some (true, T') := by
        intro E1' E2' L' S1 g1 g2 g3
        have := g3.le
        rw [rollcalllaw11_PairBoth.J2, w64_id (by omega) (by omega), show ((i : Int) + 1) = ((i + 1 : Nat) : Int) by simp]
        exact ih (i + 1) S1 E1' E2' L' (by omega) (by omega) g1 g2 (fun id ho => by
          rcases g3.own id ho with q | q
          · exact hlo id q
          · omega) (by omega) (fun id hid => by rw [g3.eq id (by omega) (fun q => by have := hlo id q; omega), hk id hid])
      rw [if_pos (by omega), a1, Option.bind_some, a2, Option.bind_some]
      simp only [Option.bind_some, a3, a4]
      by_cases hk1 : ls[i].1 = 1
      · obtain ⟨E1', E2', S1, e1, g1, g2⟩ := remove_rel (k := 2000) (Nat.le_refl _) h ls[i].2.1 ls[i].2.2
        rw [if_pos hk1, e1, Option.bind_some]
        exact hnext E1' E2' _ S1 (g1.mono (by omega) (by omega)) (hfew.wo h.ex _) g2
      · obtain ⟨xs, x1, x2⟩ := h.ex ls[i].2.1
        obtain ⟨E1', E2', S1, e1, g1, g2⟩ := add_rel (k := 2000) (Nat.le_refl _) h (by omega) ls[i].2.1 ls[i].2.2 x1 x2
        rw [if_neg hk1, e1, Option.bind_some]
        exact hnext E1' E2' _ S1 g1 (hfew.add h.ex x1 x2) g2
    · rw [if_neg (by omega)]
      obtain ⟨xs, x1, x2, x3, _⟩ := h.at1 a
      obtain ⟨ys, y1', y2, y3, _⟩ := h.at2 b
      obtain ⟨o1, S1, e1, r1, q1, f1⟩ := KS.Rights.rights_spec (D := disp 2000 4) (xs := xs) (most := 99) (S := T) (r := some (HA.cell0 r)) (a := a) (fun T hf => of_rel (nD := 2) (h.fr hf) a x1 x2) (by omega) (by omega)
      have l1 := f1.le
      have h1 := h.fr f1
      obtain ⟨o2, S2, e2, r2, q2, f2⟩ := KI.Lefts.lefts_spec (D := disp 2000 4) (xs := ys) (most := 99) (S := S1) (r := some (HA.cell0 r)) (b := b) (fun T hf => by_rel (nD := 2) (h1.fr hf) b y1' y2) (by omega) (by omega)
      have h2 := h1.fr f2
      have r1' : S2.rows o1 1 = some (xs.map KS.row1) := rows_keep r1 fun q hq => f2.eq q.1 (q1 q hq).2
      have hsl1 : (o1.len : Int) = xs.length := by rw [← rows_len r1']; simp
      have hml := hfew a xs x1 x2
      have hll := h.ll
      rw [e1, Option.bind_some]
      simp only
      rw [e2, Option.bind_some]
      simp only
      obtain ⟨f', e3⟩ := found_loop (r0 := some (HA.cell0 r)) (most := most) (a := a) (b := b) (o2 := o2) r1' (by omega) 2000 0 false (by omega) (Nat.zero_le _) (by simp)
      rw [show ((0 : Nat) : Int) = 0 from rfl] at e3
      obtain ⟨E1', E2', S3, e4, g1, g2, g3⟩ := drop_rel (nD := 2) h2 a x1 x2
      have hb1 : (decide (b ∈ xs) == decide (a ∈ ys)) = true := by
        rw [beq_iff_eq, decide_eq_decide, x2, y2]
      have hb2 : (decide (b ∈ xs) == decide ((a, b) ∈ L)) = true := by
        rw [beq_iff_eq, decide_eq_decide, x2]
      rw [e3, rollcalllaw11_PairBoth.L3, hsl1, if_neg (by omega), len_rel h2, Option.bind_some]
      simp only [if_true]
      rw [rollcalllaw11_PairBoth.J5, if_pos rfl, KI.refHas_spec r2 (by omega) (by omega), Option.bind_some]
      simp only [hb1]
      rw [rollcalllaw11_PairBoth.J6, if_pos rfl, has_rel (Nat.le_refl _) h2, Option.bind_some]
      simp only [hb2]
      rw [rollcalllaw11_PairBoth.J7, if_pos rfl, hsl1, w64_id (by omega) (by omega), decide_eq_true hml, rollcalllaw11_PairBoth.J8, if_pos rfl, e4, Option.bind_some]
      simp only [hsl1, decide_true]
      rw [rollcalllaw11_PairBoth.J9, if_pos rfl, len_rel g1, Option.bind_some, hsl1, w64_id (by omega) (by omega)]
      simp only
      rw [decide_eq_true (by omega), rollcalllaw11_PairBoth.J10, if_pos rfl, count_rel g1 a (xs := []) List.Pairwise.nil (fun v => ⟨fun g => (by cases g), fun g => by
        unfold dropA at g
        simp at g⟩), Option.bind_some]
      exact ⟨S3, rfl⟩
theorem pairBoth_law {S : HS} {most a : Int} {b : List UInt8} {y1 : Sl} {ls : List Ac} (hn : S.next = 1) (hmost : 0 ≤ most ∧ most ≤ 255) (hr : Rd S.next S 3 y1 (ls.map actRow)) : ∃ S', rollcalllaw11_PairBoth.f (disp 2000 4) (fun _ => none) 2000 most y1 a b S = some (true, S') := by
  rw [rollcalllaw11_PairBoth.f]
  obtain ⟨A, e1, f1⟩ := awake_spec hn
  have l1 : 1 ≤ A.next := by have := f1.le; omega
  have hr1 : Rd 1 A 3 y1 (ls.map actRow) := (hn ▸ hr).frame f1 (Nat.le_refl _)
  obtain ⟨c, e2, hb⟩ := great_spec hr1.rows
  rw [e1, Option.bind_some, if_neg (by simp), e2, Option.bind_some]
  cases c with
  | true => rw [if_pos rfl, rollcalllaw11_PairBoth.J0, if_pos rfl]; exact ⟨A, rfl⟩
  | false =>
    have h40 := hb rfl
    rw [if_neg (by simp), rollcalllaw11_PairBoth.J0]
    by_cases hbl : (b.length : Int) > 20
    · rw [if_pos (decide_eq_true hbl)]; exact ⟨A, rfl⟩
    · obtain ⟨B, e3, r3, f3, n3, o3⟩ := new_rel (most := most) (by omega) (by omega) A
      rw [if_neg (by rw [decide_eq_false hbl]; simp), w64_id (by omega) (by omega), e3, Option.bind_some]
      simp only [decide_true, Bool.not_true, Bool.false_eq_true, if_false]
      have hr3 := hr1.frame f3 l1
      have := both_loop (g := A.next) (a := a) (b := b) hmost h40 hr3.rows (fun q hq => by have := hr3.lt q hq; omega) 2000 0 B [] [] [] (by omega) (Nat.zero_le _) r3 (fun a xs hs hm => by
        have : xs = [] := by
          cases xs with
          | nil => rfl
          | cons v w => have := (hm v).1 (by simp); cases this
        subst this; simpa using hmost.1) o3 f3.le (fun _ _ => rfl)
      rw [show ((0 : Nat) : Int) = 0 from rfl] at this
      exact this
theorem pairBoth_call (W : World) (β0 : Bt) (S : HS) (most : Int) (w0 : (Lit.int .u8 most).wf = true) (s1 : Sl) (rows1 : List (List HV)) (h1 : ArgSl S 3 s1 rows1) (f1 : ∀ row ∈ rows1, RowFits [.int .i64, .int .i64, .str] row) (a : Int) (w2 : (Lit.int .i64 a).wf = true) (b : List UInt8) (hn : S.next = 1 := by rfl) :
    HCall Try.prog W.heap.size W β0 4 [.int .u8 most, s1.hv, .int .i64 a, .str b] S (fun v _ => v = .bool true) := by
  obtain ⟨ls, rfl⟩ := rows_acts f1
  have hm : 0 ≤ most ∧ most ≤ 255 := by
    simp only [Lit.wf, Bool.and_eq_true, decide_eq_true_eq] at w0
    simp [IntKind.min, IntKind.max, IntKind.signed, IntKind.bits] at w0
    omega
  obtain ⟨_, h⟩ := pairBoth_law (a := a) (b := b) hn hm h1.rd
  exact (rollcalllaw11_PairBoth.snd (disp_snd 4) (fun _ _ h => by cases h) h).mono fun _ _ h => h.1
end Go.Proofs.Ytdgmehfhgppheaa.X
