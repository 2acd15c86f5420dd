/- The layer pair: PairPlays, plain. -/
import Derived.Test.YtdgmehfhgppheaaPpRef2
namespace Go.Proofs.Ytdgmehfhgppheaa.X
open Go.Proofs.Ytdgmehfhgppheaa.HL
set_option linter.unusedVariables false
set_option maxRecDepth 100000
theorem awake_at (h : Nat → HObj) (m : Nat → Bool) : (rollcalllaw11_awake.f (disp 2000 4) (fun _ => none) 2000 ⟨h, 1, m⟩).map (fun p => (p.1, p.2.heap 0, decide (1 ≤ p.2.next))) = some (true, h 0, true) := by kernel_rfl
theorem awake_spec {S : HS} (hn : S.next = 1) : ∃ S', rollcalllaw11_awake.f (disp 2000 4) (fun _ => none) 2000 S = some (true, S') ∧ Fr 1 S S' := by
  obtain ⟨h, n, m⟩ := S
  obtain rfl : n = 1 := hn
  have e := awake_at h m
  cases hq : rollcalllaw11_awake.f (disp 2000 4) (fun _ => none) 2000 ⟨h, 1, m⟩ with
  | none => rw [hq] at e; cases e
  | some p =>
    rw [hq] at e
    simp only [Option.map_some, Option.some.injEq, Prod.mk.injEq, decide_eq_true_eq] at e
    obtain ⟨e1, e2, e4⟩ := e
    obtain ⟨b, S'⟩ := p
    simp only at e1 e2 e4
    subst e1
    refine ⟨S', rfl, e4, fun id hid => ?_⟩
    obtain rfl : id = 0 := by omega
    exact e2
abbrev Ac := Int × Int × List UInt8
def actRow (a : Ac) : List HV := [.int .i64 a.1, .int .i64 a.2.1, .str a.2.2]
theorem act_rows {S : HS} {s : Sl} {xs : List Ac} (h : S.rows s 3 = some (xs.map actRow)) {i : Nat} (hi : i < xs.length) : ∃ ad, S.idx s (i : Int) 3 = some ad ∧ S.ldI .i64 (HA.fld ad 0) = some xs[i].1 ∧ S.ldI .i64 (HA.fld ad 1) = some xs[i].2.1 ∧ S.ldS (HA.fld ad 2) = some xs[i].2.2 := by
  obtain ⟨ad, h1, h2, h3⟩ := rows_idx h (i := i) (by simpa using hi)
  rw [List.getElem_map] at h3
  exact ⟨ad, h1, row_ldI h3 h2 rfl, row_ldI h3 h2 rfl, row_ldS h3 h2 rfl⟩
theorem great_spec {S : HS} {s : Sl} {ls : List Ac} (hr : S.rows s 3 = some (ls.map actRow)) : ∃ b, rollcalllaw11_great.f 2000 s S = some (b, S) ∧ (b = false → ls.length ≤ 40) := by
  have hsl : (s.len : Int) = ls.length := by rw [← rows_len hr]; simp
  rw [rollcalllaw11_great.f, hsl]
  by_cases h40 : 40 < ls.length
  · rw [if_pos (by omega)]; exact ⟨true, rfl, fun h => by cases h⟩
  rw [if_neg (by omega)]
  have hloop : ∀ f i, ls.length - i < f → i ≤ ls.length → ∃ b, rollcalllaw11_great.L0 2000 f s (i : Int) S = some (b, S) ∧ (b = false → ls.length ≤ 40) := by
    intro f
    induction f with
    | zero => intro i h; omega
    | succ f ih =>
      intro i hf hi
      rw [rollcalllaw11_great.L0, hsl]
      by_cases hlt : i < ls.length
      · obtain ⟨ad, a1, a2, a3, a4⟩ := act_rows hr hlt
        rw [if_pos (by omega), a1, Option.bind_some, a4, Option.bind_some]
        by_cases hl : 20 < ls[i].2.2.length
        · rw [if_pos (by omega)]; exact ⟨true, rfl, fun h => by cases h⟩
        · rw [if_neg (by omega), w64_id (by omega) (by omega), show ((i : Int) + 1) = ((i + 1 : Nat) : Int) by simp]
          exact ih (i + 1) (by omega) (by omega)
      · rw [if_neg (by omega)]
        exact ⟨false, rfl, fun _ => by omega⟩
  exact hloop 2000 0 (by omega) (Nat.zero_le _)
/-- The relation, and the document's. -/
structure Two (g r m1 m2 p n : Nat) (most : Int) (E1 : List MA.En) (E2 : List MB.En) (s : Sl) (L : List Pr) (S : HS) : Prop where
  ri : RelI r m1 m2 n most E1 E2 L S
  rp : RefP p most s L S
  dis : ∀ id, OR r m1 m2 E1 E2 id → ¬ Own p s id
  l1 : ∀ id, OR r m1 m2 E1 E2 id → g ≤ id
  l2 : ∀ id, Own p s id → g ≤ id
  gn : g ≤ S.next
section
variable {g r m1 m2 p n : Nat} {most : Int} {E1 : List MA.En} {E2 : List MB.En} {s : Sl} {L : List Pr} {S : HS}
theorem Two.fr {S' : HS} (h : Two g r m1 m2 p n most E1 E2 s L S) (hf : Fr S.next S S') : Two g r m1 m2 p n most E1 E2 s L S' := ⟨h.ri.fr hf, h.rp.fr hf, h.dis, h.l1, h.l2, Nat.le_trans h.gn hf.le⟩
theorem Two.ref {n' : Nat} {E1' : List MA.En} {E2' : List MB.En} {S1 : HS} (h : Two g r m1 m2 p n most E1 E2 s L S) (ch : Chg (OR r m1 m2 E1 E2) (OR r m1 m2 E1' E2') S S1) : RefP p most s L S1 := h.rp.keep (fun id ho => ch.eq id (h.rp.ltO ho) (fun g' => h.dis id g' ho)) ch.le
theorem Two.step {n' : Nat} {E1' : List MA.En} {E2' : List MB.En} {L' : List Pr} {s' : Sl} {S1 S2 : HS} (h : Two g r m1 m2 p n most E1 E2 s L S) (h1 : RelI r m1 m2 n' most E1' E2' L' S1) (ch : Chg (OR r m1 m2 E1 E2) (OR r m1 m2 E1' E2') S S1) (h2 : RefP p most s' L' S2) (o2 : Only p s s' S1 S2) :
    Two g r m1 m2 p n' most E1' E2' s' L' S2 ∧ ∀ id, id < g → S2.heap id = S.heap id := by
  have c1 := ch.le
  have c2 := o2.le
  have hgn := h.gn
  have hd1 : ∀ id, OR r m1 m2 E1' E2' id → ¬ Own p s id := fun id g1 g2 => by
    rcases ch.own id g1 with q | q
    · exact h.dis id q g2
    · have := h.rp.ltO g2; omega
  refine ⟨⟨h1.keep (fun id ho => o2.eq id (h1.ltO ho) (hd1 id ho)) c2, h2, fun id g1 g2 => ?_, fun id g1 => ?_, fun id g1 => ?_, by omega⟩, fun id hid => ?_⟩
  · rcases o2.own id g2 with q | q
    · exact hd1 id g1 q
    · have := h1.ltO g1; omega
  · rcases ch.own id g1 with q | q
    · exact h.l1 id q
    · omega
  · rcases o2.own id g1 with q | q
    · exact h.l2 id q
    · omega
  · rw [o2.eq id (by omega) (fun q => by have := h.l2 id q; omega), ch.eq id (by omega) (fun q => by have := h.l1 id q; omega)]
theorem j3_spec {at_ : Nat} {y1 : Sl} {i : Int} {ac : Ac} {r0 : Sl → Option HA → Option HA → Int → HS → Option (Bool × HS)} (h : Two g r m1 m2 p n most E1 E2 s L S) (hn99 : n ≤ 99) (ha : S.heap at_ = .cells 3 [actRow ac] true) (hat : at_ < S.next) :
    ∃ S', rollcalllaw11_PairPlays.J3 (disp 2000 4) (fun _ => none) 2000 r0 y1 (some (HA.cell0 r)) (some (HA.cell0 p)) i (some (HA.cell0 at_)) true S = r0 y1 (some (HA.cell0 r)) (some (HA.cell0 p)) (w64 (i + 1)) S' ∧ Fr S.next S S' := by
  obtain ⟨xs, x1, x2, x3, _⟩ := h.ri.at1 ac.2.1
  obtain ⟨ys, y1', y2, y3, _⟩ := h.ri.at2 ac.2.2
  have hrow : ∀ T : HS, Fr S.next S T → T.row at_ 0 = some (actRow ac) := fun T hf => cell_row ((hf.eq at_ hat).trans ha)
  have ldA : ∀ T : HS, Fr S.next S T → T.ldI .i64 (HA.fld (HA.cell0 at_) 1) = some ac.2.1 := fun T hf => row_ldI (hrow T hf) rfl rfl
  have ldB : ∀ T : HS, Fr S.next S T → T.ldS (HA.fld (HA.cell0 at_) 2) = some ac.2.2 := fun T hf => row_ldS (hrow T hf) rfl rfl
  obtain ⟨o1, S1, e1, r1, q1, f1⟩ := KS.Rights.rights_spec (D := disp 2000 4) (xs := xs) (most := 99) (S := S) (r := some (HA.cell0 r)) (a := ac.2.1) (fun T hf => of_rel (nD := 2) (h.ri.fr hf) ac.2.1 x1 x2) (by omega) (by omega)
  have l1 := f1.le
  have h1 := h.fr f1
  obtain ⟨o2, S2, e2, r2, q2, f2⟩ := KI.Lefts.lefts_spec (D := disp 2000 4) (xs := ys) (most := 99) (S := S1) (r := some (HA.cell0 r)) (b := ac.2.2) (fun T hf => by_rel (nD := 2) (h1.ri.fr hf) ac.2.2 y1' y2) (by omega) (by omega)
  have f12 : Fr S.next S S2 := f1.trans (f2.mono l1)
  have l2 := f12.le
  have h2 := h.fr f12
  have hl : (s.len : Int) = L.length := h2.rp.slen
  obtain ⟨so, S3, zs, e3, z1, z2, z3, z4, f3⟩ := ref_of (k := 2000) (Nat.le_refl _) h2.rp ac.2.1
  have hz : zs = xs := KS.srt_ext z1 x1 fun v => by rw [z2, x2]
  subst hz
  have f13 := f12.trans (f3.mono l2)
  have l3 := f13.le
  have h3 := h.fr f13
  obtain ⟨so2, S4, zs2, e4, w1, w2, w3, w4, f4⟩ := ref_of (k := 2000) (Nat.le_refl _) h3.rp ac.2.1
  have hz2 : zs2 = zs := KS.srt_ext w1 x1 fun v => by rw [w2, x2]
  subst hz2
  have f14 := f13.trans (f4.mono l3)
  have l4 := f14.le
  have h4 := h.fr f14
  obtain ⟨so3, S5, us, e5, u1, u2, u3, f5⟩ := ref_by (k := 2000) (Nat.le_refl _) h4.rp ac.2.2
  have hus : us = ys := KI.srt_ext u1 y1' fun v => by rw [u2, y2]
  subst hus
  have f15 := f14.trans (f5.mono l4)
  have r1' : S4.rows o1 1 = some (zs2.map KS.row1) := rows_keep r1 fun q hq => by have := q1 q hq; have := f2.le; have := f3.le; rw [f4.eq q.1 (by omega), f3.eq q.1 (by omega), f2.eq q.1 (by omega)]
  have r2' : S5.rows o2 1 = some (us.map KI.row1) := rows_keep r2 fun q hq => by have := q2 q hq; have := f3.le; have := f4.le; rw [f5.eq q.1 (by omega), f4.eq q.1 (by omega), f3.eq q.1 (by omega)]
  have hsol : (so.len : Int) = zs2.length := by rw [← rows_len z3]; simp
  rw [rollcalllaw11_PairPlays.J3, Option.bind_some, ldA S (Fr.refl _ _), Option.bind_some, e1, Option.bind_some]
  simp only [Option.bind_some, ldB S1 f1]
  rw [e2, Option.bind_some]
  simp only [Bool.not_true, Bool.false_eq_true, if_false]
  rw [len_rel h2.ri, Option.bind_some]
  simp only [Option.bind_some, h2.rp.lds, if_true, hl, decide_true, Bool.not_true, Bool.false_eq_true, if_false, ldA S2 f12, ldB S2 f12]
  rw [has_rel (Nat.le_refl _) h2.ri, Option.bind_some]
  simp only [ldA S2 f12, ldB S2 f12, Option.bind_some, if_true]
  rw [ref_has (Nat.le_refl _) h2.rp, Option.bind_some]
  simp only [beq_self_eq_true, Bool.not_true, Bool.false_eq_true, if_false, ldA S2 f12, Option.bind_some]
  rw [count_rel h2.ri _ x1 x2, Option.bind_some]
  simp only [ldA S2 f12, Option.bind_some, if_true]
  rw [e3, Option.bind_some]
  simp only [hsol, decide_true, Bool.not_true, Bool.false_eq_true, if_false, ldA S3 f13, Option.bind_some]
  rw [e4, Option.bind_some, texts_spec r1' w3 (by omega) (by omega), Option.bind_some]
  simp only [decide_true, Bool.not_true, Bool.false_eq_true, if_false, ldB S4 f14, Option.bind_some]
  rw [e5, Option.bind_some, KI.refSame_spec r2' u3 (by omega) (by omega), Option.bind_some]
  simp only [decide_true, Bool.not_true]
  rw [rollcalllaw11_PairPlays.J4, if_neg (by simp)]
  exact ⟨S5, rfl, f15⟩
end
end Go.Proofs.Ytdgmehfhgppheaa.X
