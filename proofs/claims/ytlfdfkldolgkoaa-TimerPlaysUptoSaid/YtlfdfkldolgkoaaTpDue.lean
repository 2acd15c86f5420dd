/- The layer timer: the document's list of what is due, plain. -/
import Derived.Test.YtlfdfkldolgkoaaTpRef
namespace Go.Proofs.Ytlfdfkldolgkoaa.X
open Go.Proofs.Ytlfdfkldolgkoaa.HL
set_option linter.unusedVariables false
def behind (out : List It) (e : It) : Prop := ∀ h : out ≠ [], itc (out.getLast h) e < 0
def cand (now : Int) (out : List It) (e : It) : Prop := e.2 ≤ now ∧ behind out e
def Best (now : Int) (out xs : List It) (j : Nat) (b : Int) : Prop :=
  (b = -1 ∧ ∀ q (h : q < xs.length), q < j → ¬ cand now out xs[q]) ∨ ∃ i : Nat, b = (i : Int) ∧ ∃ h : i < xs.length, i < j ∧ cand now out xs[i] ∧ ∀ q (h' : q < xs.length), q < j → cand now out xs[q] → ¬ itc xs[q] xs[i] < 0
structure FI (g p : Nat) (s so : Sl) (xs out : List It) (S : HS) : Prop where
  ri : RI p s xs S
  lt : ∀ id, OwnR p s id → id < g
  vec : Vec g S 2 so (out.map itRow)
theorem FI.fr {g p : Nat} {s so : Sl} {xs out : List It} {S S' : HS} (h : FI g p s so xs out S) (hf : Fr S.next S S') : FI g p s so xs out S' := ⟨h.ri.fr hf, h.lt, h.vec.frame hf (Nat.le_refl _)⟩
theorem due_inner {k g p : Nat} {s so : Sl} {xs out : List It} {now : Int} {r0 : Option HA → Int → Sl → HS → Option (Sl × HS)} (hk : 2000 ≤ k) (hoc : out.length ≤ 1000) :
    ∀ n i b S, xs.length - i < n → i ≤ xs.length → FI g p s so xs out S → Best now out xs i b →
    ∃ n' b' S', rollcallref09_Table_Due.L1 k r0 n (some (HA.cell0 p)) now so b (i : Int) S = rollcallref09_Table_Due.L1 k r0 (n' + 1) (some (HA.cell0 p)) now so b' (xs.length : Int) S' ∧ Fr S.next S S' ∧ Best now out xs xs.length b' := by
  intro n
  induction n with
  | zero => intro i b S h; omega
  | succ n ih =>
    intro i b S hf hi h hB
    by_cases hlt : i < xs.length
    · have hcnt := h.ri.cnt
      obtain ⟨ad, a1, a2, a3⟩ := it_rows h.ri.vec.rows hlt
      rw [rollcallref09_Table_Due.L1, Option.bind_some, row_ldSl h.ri.row rfl rfl, Option.bind_some, h.ri.slen, if_pos (by omega), Option.bind_some, row_ldSl h.ri.row rfl rfl, Option.bind_some, a1, Option.bind_some, a3, Option.bind_some]
      have hJ3 : ∀ (b2 : Int) (T : HS), Fr S.next S T → Best now out xs (i + 1) b2 → ∃ n' b' S', rollcallref09_Table_Due.J3 k (rollcallref09_Table_Due.L1 k r0 n) r0 (some (HA.cell0 p)) now so b2 (i : Int) T = rollcallref09_Table_Due.L1 k r0 (n' + 1) (some (HA.cell0 p)) now so b' (xs.length : Int) S' ∧ Fr S.next S S' ∧ Best now out xs xs.length b' := by
        intro b2 T f hB2
        rw [rollcallref09_Table_Due.J3, w64_id (by omega) (by omega), show ((i : Int) + 1) = ((i + 1 : Nat) : Int) by simp]
        obtain ⟨n', b', S', e, f2, h2⟩ := ih (i + 1) b2 T (by omega) (by omega) (h.fr f) hB2
        exact ⟨n', b', S', e, f.trans (f2.mono f.le), h2⟩
      have hno : ¬ cand now out xs[i] → Best now out xs (i + 1) b := by
        intro hc
        rcases hB with ⟨rfl, g⟩ | ⟨b, rfl, hb, g1, g2, g3⟩
        · refine .inl ⟨rfl, fun q hq hqi => ?_⟩
          rcases Nat.lt_or_ge q i with g' | g'
          · exact g q hq g'
          · obtain rfl : q = i := by omega
            exact hc
        · refine .inr ⟨b, rfl, hb, by omega, g2, fun q hq hqi hcq => ?_⟩
          rcases Nat.lt_or_ge q i with g' | g'
          · exact g3 q hq g' hcq
          · obtain rfl : q = i := by omega
            exact absurd hcq hc
      have hJ2t : ∀ (T : HS), Fr S.next S T → ¬ cand now out xs[i] → ∃ n' b' S', rollcallref09_Table_Due.J2 k (rollcallref09_Table_Due.L1 k r0 n) r0 (some (HA.cell0 p)) now so b (i : Int) true T = rollcallref09_Table_Due.L1 k r0 (n' + 1) (some (HA.cell0 p)) now so b' (xs.length : Int) S' ∧ Fr S.next S S' ∧ Best now out xs xs.length b' := by
        intro T f hc
        rw [rollcallref09_Table_Due.J2, if_pos rfl]
        exact hJ3 b T f (hno hc)
      have hJ2f : ∀ (T : HS), Fr S.next S T → cand now out xs[i] → ∃ n' b' S', rollcallref09_Table_Due.J2 k (rollcallref09_Table_Due.L1 k r0 n) r0 (some (HA.cell0 p)) now so b (i : Int) false T = rollcallref09_Table_Due.L1 k r0 (n' + 1) (some (HA.cell0 p)) now so b' (xs.length : Int) S' ∧ Fr S.next S S' ∧ Best now out xs xs.length b' := by
        intro T f hc
        rw [rollcallref09_Table_Due.J2, if_neg (by simp)]
        rcases hB with ⟨rfl, g⟩ | ⟨b, rfl, hb, g1, g2, g3⟩
        · rw [if_pos (by omega), rollcallref09_Table_Due.J4, if_pos rfl]
          refine hJ3 _ T f (.inr ⟨i, rfl, hlt, by omega, hc, fun q hq hqi hcq => ?_⟩)
          rcases Nat.lt_or_ge q i with g' | g'
          · exact absurd hcq (g q hq g')
          · obtain rfl : q = i := by omega
            rw [itc_zero.2 rfl]; omega
        · obtain ⟨ad2, d1, d2, d3⟩ := it_rows (h.fr f).ri.vec.rows hlt
          obtain ⟨ad, c1, c2, c3⟩ := it_rows (h.fr f).ri.vec.rows hb
          obtain ⟨T1, e1, f1⟩ := ahead_spec xs[i] xs[b] T
          rw [if_neg (by omega), Option.bind_some, row_ldSl (h.fr f).ri.row rfl rfl, Option.bind_some, d1, Option.bind_some, d2, Option.bind_some, d3, Option.bind_some, Option.bind_some, row_ldSl (h.fr f).ri.row rfl rfl, Option.bind_some, c1, Option.bind_some, c2, Option.bind_some, c3, Option.bind_some, e1, Option.bind_some, rollcallref09_Table_Due.J4]
          have f' : Fr S.next S T1 := f.trans (f1.mono f.le)
          by_cases hl : itc xs[i] xs[b] < 0
          · rw [if_pos (by simpa using hl)]
            refine hJ3 _ T1 f' (.inr ⟨i, rfl, hlt, by omega, hc, fun q hq hqi hcq hlt2 => ?_⟩)
            rcases Nat.lt_or_ge q i with g' | g'
            · exact g3 q hq g' hcq (itc_trans hlt2 hl)
            · obtain rfl : q = i := by omega
              rw [itc_zero.2 rfl] at hlt2; omega
          · rw [if_neg (by simpa using hl)]
            refine hJ3 _ T1 f' (.inr ⟨b, rfl, hb, by omega, g2, fun q hq hqi hcq => ?_⟩)
            rcases Nat.lt_or_ge q i with g' | g'
            · exact g3 q hq g' hcq
            · obtain rfl : q = i := by omega
              exact hl
      by_cases hnow : xs[i].2 ≤ now
      · have hv := h.vec
        have hsl : so.len = out.length := by rw [hv.len]; simp
        rw [if_neg (by omega), hsl]
        by_cases ho : out = []
        · subst ho
          rw [if_neg (by simp)]
          exact hJ2f S (Fr.refl _ _) ⟨hnow, fun h => absurd rfl h⟩
        · have hpos : 0 < out.length := List.length_pos_iff.2 ho
          obtain ⟨ad2, c1, c2, c3⟩ := it_rows hv.rows (i := out.length - 1) (by omega)
          have hlast : out[out.length - 1] = out.getLast ho := (List.getLast_eq_getElem ho).symm
          rw [hlast] at c2 c3
          obtain ⟨T1, e1, f1⟩ := ahead_spec (out.getLast ho) xs[i] S
          rw [if_pos (by omega), w64_id (by omega) (by omega), show ((out.length : Int) - 1) = ((out.length - 1 : Nat) : Int) by omega, c1, Option.bind_some, c2, Option.bind_some, c3, Option.bind_some, Option.bind_some, row_ldSl h.ri.row rfl rfl, Option.bind_some, a1, Option.bind_some, a2, Option.bind_some, a3, Option.bind_some, e1, Option.bind_some]
          by_cases hl : itc (out.getLast ho) xs[i] < 0
          · rw [decide_eq_true hl]
            exact hJ2f T1 f1 ⟨hnow, fun _ => hl⟩
          · rw [decide_eq_false hl]
            exact hJ2t T1 f1 (fun hc => hl (hc.2 ho))
      · rw [if_pos (by omega)]
        exact hJ2t S (Fr.refl _ _) (fun hc => hnow hc.1)
    · obtain rfl : i = xs.length := by omega
      exact ⟨n, b, S, rfl, Fr.refl _ _, hB⟩
theorem last_take {W : List It} {q : Nat} (hq : 0 < q) (hl : q ≤ W.length) (h : W.take q ≠ []) : (W.take q).getLast h = W[q - 1]'(by omega) := by
  rw [List.getLast_eq_getElem]
  simp only [List.length_take, List.getElem_take]
  congr 1
  omega
theorem refDue_spec {k p : Nat} {s : Sl} {xs W : List It} {now : Int} {S : HS} (hk : 2000 ≤ k) (h : RI p s xs S) (hW : Srt W) (hm : ∀ e, e ∈ W ↔ e ∈ xs ∧ e.2 ≤ now) (hWl : W.length ≤ 1000) :
    ∃ so S', rollcallref09_Table_Due.f k (some (HA.cell0 p)) now S = some (so, S') ∧ Rd S'.next S' 2 so (W.map itRow) ∧ (∀ q, so.a = some q → S.next ≤ q.1) ∧ Fr S.next S S' := by
  have hloop : ∀ n q so T, W.length - q < n → q ≤ W.length → FI S.next p s so xs (W.take q) T → Fr S.next S T → ∃ so' S', rollcallref09_Table_Due.L0 k n (some (HA.cell0 p)) now so T = some (so', S') ∧ Rd S'.next S' 2 so' (W.map itRow) ∧ (∀ q, so'.a = some q → S.next ≤ q.1) ∧ Fr S.next S S' := by
    intro n
    induction n with
    | zero => intro q so T hf; omega
    | succ n ih =>
      intro q so T hf hq hF hfr
      rw [rollcallref09_Table_Due.L0]
      have hcnt := hF.ri.cnt
      obtain ⟨n', b, T1, e1, f1, hb⟩ := due_inner (g := S.next) (now := now) (out := W.take q) (r0 := rollcallref09_Table_Due.L0 k n) hk (by rw [List.length_take]; omega) k 0 (-1) T (by omega) (Nat.zero_le _) hF (.inl ⟨rfl, fun q h hq => by omega⟩)
      rw [show ((0 : Nat) : Int) = 0 from rfl] at e1
      have hF1 := hF.fr f1
      have hfr1 : Fr S.next S T1 := hfr.trans (f1.mono hfr.le)
      rw [e1, rollcallref09_Table_Due.L1, Option.bind_some, row_ldSl hF1.ri.row rfl rfl, Option.bind_some, hF1.ri.slen, if_neg (by omega)]
      have hcand : ∀ e, (e ∈ xs ∧ cand now (W.take q) e) ↔ e ∈ W.drop q := by
        intro e
        constructor
        · rintro ⟨h1, h2, h3⟩
          have h4 := (hm e).2 ⟨h1, h2⟩
          obtain ⟨i, hi, rfl⟩ := List.getElem_of_mem h4
          rcases Nat.lt_or_ge i q with h5 | h5
          · exfalso
            have hne : W.take q ≠ [] := by
              intro hc
              have := congrArg List.length hc
              rw [List.length_take, List.length_nil] at this; omega
            have h6 := h3 hne
            rw [last_take (by omega) hq] at h6
            rcases Nat.lt_or_ge i (q - 1) with h7 | h7
            · have := hW.lt (i := i) (j := q - 1) (by omega) (by omega) h7
              rw [itc_anti] at h6; omega
            · obtain rfl : i = q - 1 := by omega
              rw [itc_zero.2 rfl] at h6; omega
          · rw [List.mem_drop_iff_getElem]
            exact ⟨i - q, by omega, by simp only [show q + (i - q) = i by omega]⟩
        · intro h1
          have h4 := List.mem_of_mem_drop h1
          obtain ⟨h5, h6⟩ := (hm e).1 h4
          refine ⟨h5, h6, fun hne => ?_⟩
          rw [List.mem_drop_iff_getElem] at h1
          obtain ⟨i, hi, rfl⟩ := h1
          have hq0 : 0 < q := by
            rcases Nat.eq_zero_or_pos q with h7 | h7
            · subst h7; exact absurd (by simp) hne
            · exact h7
          rw [last_take hq0 hq]
          exact hW.lt (i := q - 1) (j := q + i) (by omega) (by omega) (by omega)
      rcases hb with ⟨rfl, hb⟩ | ⟨i, rfl, hi, h1, h2, h3⟩
      · rw [if_pos (by omega)]
        have hend : W.length ≤ q := by
          rcases Nat.lt_or_ge q W.length with hlt | hge
          · have := (hcand W[q]).2 (by rw [List.mem_drop_iff_getElem]; exact ⟨0, by omega, rfl⟩)
            obtain ⟨j, hj, hj2⟩ := List.getElem_of_mem this.1
            have h5 := hb j hj hj
            rw [hj2] at h5
            exact absurd this.2 h5
          · exact hge
        have hWq : W.take q = W := List.take_of_length_le hend
        have hv := hF1.vec
        rw [hWq] at hv
        exact ⟨so, T1, rfl, hv.rd, fun q hq => (hv.lo q hq).1, hfr1⟩
      · have hd := (hcand xs[i]).1 ⟨List.getElem_mem hi, h2⟩
        have hlt : q < W.length := by
          rcases Nat.lt_or_ge q W.length with hlt | hge
          · exact hlt
          · rw [List.drop_eq_nil_of_le hge] at hd; cases hd
        have hbest : xs[i] = W[q] := by
          rw [List.mem_drop_iff_getElem] at hd
          obtain ⟨j, hj, hj2⟩ := hd
          rcases Nat.eq_zero_or_pos j with h0 | h0
          · subst h0; rw [← hj2]; rfl
          · exfalso
            have h4 := (hcand W[q]).2 (by rw [List.mem_drop_iff_getElem]; exact ⟨0, by omega, rfl⟩)
            obtain ⟨x, hx, hx2⟩ := List.getElem_of_mem h4.1
            have h5 := h3 x hx hx (by rw [hx2]; exact h4.2)
            rw [hx2, ← hj2] at h5
            exact h5 (hW.lt hlt (by omega) (by omega))
        obtain ⟨ad, a1, a2, a3⟩ := it_rows hF1.ri.vec.rows hi
        rw [if_neg (by omega), Option.bind_some, row_ldSl hF1.ri.row rfl rfl, Option.bind_some, a1, Option.bind_some, a2, Option.bind_some, a3, Option.bind_some, letv]
        have fl : Fr T1.next T1 (T1.lit [[.str xs[i].1, .int .i64 xs[i].2]] 2).2 := lit_fr _ (Nat.le_refl _)
        have lr : ((T1.lit [[.str xs[i].1, .int .i64 xs[i].2]] 2).2).rows (T1.lit [[.str xs[i].1, .int .i64 xs[i].2]] 2).1 2 = some [[.str xs[i].1, .int .i64 xs[i].2]] := (Vec.lit (n := 0) (z := 2) (S := T1) _ (Nat.zero_le _)).rows
        have hF2 := hF1.fr fl
        have l2 : (T1.lit [[.str xs[i].1, .int .i64 xs[i].2]] 2).2.next = T1.next + 1 := rfl
        have := hfr1.le
        obtain ⟨s3, T3, e3, v3, f3, k3, q3⟩ := hF2.vec.app2 (new := [[.str xs[i].1, .int .i64 xs[i].2]]) (by omega) (by simp; omega)
        rw [lr, Option.bind_some, e3, Option.bind_some]
        have hrows : (W.take q).map itRow ++ [[.str xs[i].1, .int .i64 xs[i].2]] = (W.take (q + 1)).map itRow := by
          rw [List.take_succ_eq_append_getElem hlt, List.map_append, ← hbest]; rfl
        rw [hrows] at v3
        have hri3 : RI p s xs T3 := hF2.ri.keep (fun id ho => f3.eq id (hF2.lt id ho)) f3.le
        exact ih (q + 1) s3 T3 (by omega) (by omega) ⟨hri3, hF2.lt, v3⟩ (hfr1.trans ((fl.mono (by omega)).trans f3))
  rw [rollcallref09_Table_Due.f]
  exact hloop k 0 Sl.nil S (by omega) (Nat.zero_le _) ⟨h, fun id ho => h.lt ho, by rw [List.take_zero]; exact Vec.nil⟩ (Fr.refl _ _)
end Go.Proofs.Ytlfdfkldolgkoaa.X
