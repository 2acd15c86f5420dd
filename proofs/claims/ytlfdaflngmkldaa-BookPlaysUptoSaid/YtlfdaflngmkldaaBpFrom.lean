/- The layer book: the document's list from a name on, plain. -/
import Derived.Test.YtlfdaflngmkldaaBpRef
namespace Go.Proofs.Ytlfdaflngmkldaa.X
open Go.Proofs.Ytlfdaflngmkldaa.HL
set_option linter.unusedVariables false
def pass (all : Bool) (t : List UInt8) (e : En) : Prop := all = true ∨ ¬ cmpL e.1 t < 0
def behind (out : List En) (e : En) : Prop := ∀ h : out ≠ [], 0 < cmpL e.1 (out.getLast h).1
def cand (all : Bool) (t : List UInt8) (out : List En) (e : En) : Prop := pass all t e ∧ behind out e
/-- The best of what stands ahead of j. -/
def Best (all : Bool) (t : List UInt8) (out xs : List En) (j : Nat) (b : Int) : Prop :=
  (b = -1 ∧ ∀ q (h : q < xs.length), q < j → ¬ cand all t out xs[q]) ∨ ∃ i : Nat, b = (i : Int) ∧ ∃ h : i < xs.length, i < j ∧ cand all t out xs[i] ∧ ∀ q (h' : q < xs.length), q < j → cand all t out xs[q] → ¬ cmpL xs[q].1 xs[i].1 < 0
/-- Where what is read lies. -/
structure FI (g p : Nat) (s so : Sl) (most : Int) (xs out : List En) (S : HS) : Prop where
  ri : RI p s most xs S
  lt : ∀ id, Own p s id → id < g
  vec : Vec g S 2 so (out.map enRow)
theorem FI.fr {g p : Nat} {s so : Sl} {most : Int} {xs out : List En} {S S' : HS} (h : FI g p s so most xs out S) (hf : Fr S.next S S') : FI g p s so most xs out S' := ⟨h.ri.fr hf, h.lt, h.vec.frame hf (Nat.le_refl _)⟩
theorem from_inner {k g p : Nat} {s so : Sl} {most : Int} {xs out : List En} {t : List UInt8} {all : Bool} {r0 : Option HA → List UInt8 → Bool → Sl → HS → Option (Sl × HS)} (hk : 2000 ≤ k) (ht : t.length ≤ 1000) (hol : ∀ e ∈ out, e.1.length ≤ 1000) (hoc : out.length ≤ 1000) :
    ∀ n i b S, xs.length - i < n → i ≤ xs.length → FI g p s so most xs out S → Best all t out xs i b →
    ∃ n' b' S', rollcallref02_Book_From.L1 k r0 n (some (HA.cell0 p)) t all so b (i : Int) S = rollcallref02_Book_From.L1 k r0 (n' + 1) (some (HA.cell0 p)) t all so b' (xs.length : Int) S' ∧ Fr S.next S S' ∧ Best all t out xs xs.length b' := by
  intro n
  induction n with
  | zero => intro i b S h; omega
  | succ n ih =>
    intro i b S hf hi h hB
    by_cases hlt : i < xs.length
    · have hcnt := h.ri.cnt
      obtain ⟨ad, a1, a2, a3⟩ := en_rows h.ri.vec.rows hlt
      have hxl := h.ri.len _ (List.getElem_mem hlt)
      rw [rollcallref02_Book_From.L1, Option.bind_some, row_ldSl h.ri.row rfl rfl, Option.bind_some, h.ri.slen, if_pos (by omega), Option.bind_some, row_ldSl h.ri.row rfl rfl, Option.bind_some, a1, Option.bind_some, a2, Option.bind_some]
      -- on to the next
      have hJ4 : ∀ (b2 : Int) (T : HS), Fr S.next S T → Best all t out xs (i + 1) b2 → ∃ n' b' S', rollcallref02_Book_From.J4 k (rollcallref02_Book_From.L1 k r0 n) r0 (some (HA.cell0 p)) t all so b2 (i : Int) T = rollcallref02_Book_From.L1 k r0 (n' + 1) (some (HA.cell0 p)) t all so b' (xs.length : Int) S' ∧ Fr S.next S S' ∧ Best all t out xs xs.length b' := by
        intro b2 T f hB2
        rw [rollcallref02_Book_From.J4, w64_id (by omega) (by omega), show ((i : Int) + 1) = ((i + 1 : Nat) : Int) by simp]
        obtain ⟨n', b', S', e, f2, h2⟩ := ih (i + 1) b2 T (by omega) (by omega) (h.fr f) hB2
        exact ⟨n', b', S', e, f.trans (f2.mono f.le), h2⟩
      have hno : ¬ cand all t out xs[i] → Best all t out xs (i + 1) b := by
        intro hc
        rcases hB with ⟨rfl, g⟩ | ⟨b, rfl, hb, g1, g2, g3⟩
        · refine .inl ⟨rfl, fun q hq hqi => ?_⟩
          rcases Nat.lt_or_ge q i with g' | g'
          · exact g q hq g'
          · obtain rfl : q = i := by omega
            exact hc
        · refine .inr ⟨b, rfl, hb, by omega, g2, fun q hq hqi hcq => ?_⟩
          rcases Nat.lt_or_ge q i with g' | g'
          · exact g3 q hq g' hcq
          · obtain rfl : q = i := by omega
            exact absurd hcq hc
      have hJ3t : ∀ (T : HS), Fr S.next S T → ¬ cand all t out xs[i] → ∃ n' b' S', rollcallref02_Book_From.J3 k (rollcallref02_Book_From.L1 k r0 n) r0 (some (HA.cell0 p)) t all so b (i : Int) xs[i].1 true T = rollcallref02_Book_From.L1 k r0 (n' + 1) (some (HA.cell0 p)) t all so b' (xs.length : Int) S' ∧ Fr S.next S S' ∧ Best all t out xs xs.length b' := by
        intro T f hc
        rw [rollcallref02_Book_From.J3, if_pos rfl]
        exact hJ4 b T f (hno hc)
      have hJ3f : ∀ (T : HS), Fr S.next S T → cand all t out xs[i] → ∃ n' b' S', rollcallref02_Book_From.J3 k (rollcallref02_Book_From.L1 k r0 n) r0 (some (HA.cell0 p)) t all so b (i : Int) xs[i].1 false T = rollcallref02_Book_From.L1 k r0 (n' + 1) (some (HA.cell0 p)) t all so b' (xs.length : Int) S' ∧ Fr S.next S S' ∧ Best all t out xs xs.length b' := by
        intro T f hc
        rw [rollcallref02_Book_From.J3, if_neg (by simp)]
        rcases hB with ⟨rfl, g⟩ | ⟨b, rfl, hb, g1, g2, g3⟩
        · rw [if_pos (by omega), rollcallref02_Book_From.J5, if_pos rfl]
          refine hJ4 _ T f (.inr ⟨i, rfl, hlt, by omega, hc, fun q hq hqi hcq => ?_⟩)
          rcases Nat.lt_or_ge q i with g' | g'
          · exact absurd hcq (g q hq g')
          · obtain rfl : q = i := by omega
            rw [(cmpL_zero _ _).2 rfl]; omega
        · obtain ⟨ad, c1, c2, c3⟩ := en_rows (h.fr f).ri.vec.rows hb
          obtain ⟨T1, e1, f1⟩ := refCompare_spec (k := k) (m := T.next) (x := xs[i].1) (y := xs[b].1) (S := T) hxl (h.ri.len _ (List.getElem_mem hb)) hk (Nat.le_refl _)
          rw [if_neg (by omega), Option.bind_some, row_ldSl (h.fr f).ri.row rfl rfl, Option.bind_some, c1, Option.bind_some, c2, Option.bind_some, e1, Option.bind_some, rollcallref02_Book_From.J5]
          have f' : Fr S.next S T1 := f.trans (f1.mono f.le)
          by_cases hl : cmpL xs[i].1 xs[b].1 < 0
          · rw [if_pos (by simpa using hl)]
            refine hJ4 _ T1 f' (.inr ⟨i, rfl, hlt, by omega, hc, fun q hq hqi hcq hlt2 => ?_⟩)
            rcases Nat.lt_or_ge q i with g' | g'
            · exact g3 q hq g' hcq (cmpL_lt_trans hlt2 hl)
            · obtain rfl : q = i := by omega
              rw [(cmpL_zero _ _).2 rfl] at hlt2; omega
          · rw [if_neg (by simpa using hl)]
            refine hJ4 _ T1 f' (.inr ⟨b, rfl, hb, by omega, g2, fun q hq hqi hcq => ?_⟩)
            rcases Nat.lt_or_ge q i with g' | g'
            · exact g3 q hq g' hcq
            · obtain rfl : q = i := by omega
              exact hl
      have hJ2 : ∀ (T : HS), Fr S.next S T → pass all t xs[i] → ∃ n' b' S', rollcallref02_Book_From.J2 k (rollcallref02_Book_From.L1 k r0 n) r0 (some (HA.cell0 p)) t all so b (i : Int) xs[i].1 false T = rollcallref02_Book_From.L1 k r0 (n' + 1) (some (HA.cell0 p)) t all so b' (xs.length : Int) S' ∧ Fr S.next S S' ∧ Best all t out xs xs.length b' := by
        intro T f hp
        have hv := (h.fr f).vec
        have hsl : so.len = out.length := by rw [hv.len]; simp
        rw [rollcallref02_Book_From.J2, if_neg (by simp), hsl]
        by_cases ho : out = []
        · subst ho
          rw [if_neg (by simp), rollcallref02_Book_From.J6, if_neg (by simp)]
          exact hJ3f T f ⟨hp, fun h => absurd rfl h⟩
        · have hpos : 0 < out.length := List.length_pos_iff.2 ho
          obtain ⟨ad, c1, c2, c3⟩ := en_rows hv.rows (i := out.length - 1) (by omega)
          have hlast : out[out.length - 1] = out.getLast ho := (List.getLast_eq_getElem ho).symm
          rw [hlast] at c2
          obtain ⟨T1, e1, f1⟩ := refCompare_spec (k := k) (m := T.next) (x := xs[i].1) (y := (out.getLast ho).1) (S := T) hxl (hol _ (List.getLast_mem ho)) hk (Nat.le_refl _)
          rw [if_pos (by omega), w64_id (by omega) (by omega), show ((out.length : Int) - 1) = ((out.length - 1 : Nat) : Int) by omega, c1, Option.bind_some, c2, Option.bind_some, e1, Option.bind_some, rollcallref02_Book_From.J6, if_neg (by simp)]
          have f' : Fr S.next S T1 := f.trans (f1.mono f.le)
          by_cases hl : cmpL xs[i].1 (out.getLast ho).1 ≤ 0
          · rw [decide_eq_true hl]
            exact hJ3t T1 f' (fun hc => by have := hc.2 ho; omega)
          · rw [decide_eq_false hl]
            exact hJ3f T1 f' ⟨hp, fun _ => by omega⟩
      cases all with
      | true =>
        rw [if_neg (by simp)]
        exact hJ2 S (Fr.refl _ _) (.inl rfl)
      | false =>
        obtain ⟨T1, e1, f1⟩ := refCompare_spec (k := k) (m := S.next) (x := xs[i].1) (y := t) (S := S) hxl ht hk (Nat.le_refl _)
        rw [if_pos (by simp), e1, Option.bind_some]
        by_cases hl : cmpL xs[i].1 t < 0
        · rw [decide_eq_true hl, rollcallref02_Book_From.J2, if_pos rfl]
          exact hJ3t T1 f1 (fun hc => by rcases hc.1 with g | g; cases g; exact g hl)
        · rw [decide_eq_false hl]
          exact hJ2 T1 f1 (.inr hl)
    · obtain rfl : i = xs.length := by omega
      exact ⟨n, b, S, rfl, Fr.refl _ _, hB⟩
theorem last_take {W : List En} {q : Nat} (hq : 0 < q) (hl : q ≤ W.length) (h : W.take q ≠ []) : (W.take q).getLast h = W[q - 1]'(by omega) := by
  rw [List.getLast_eq_getElem]
  simp only [List.length_take, List.getElem_take]
  congr 1
  omega
theorem from_spec2 {k p : Nat} {s : Sl} {most : Int} {xs W : List En} {t : List UInt8} {all : Bool} {S : HS} (hk : 2000 ≤ k) (ht : t.length ≤ 1000) (h : RI p s most xs S) (hW : Srt W) (hm : ∀ e, e ∈ W ↔ e ∈ xs ∧ pass all t e) (hWl : W.length ≤ 1000) :
    ∃ so S', rollcallref02_Book_From.f k (some (HA.cell0 p)) t all S = some (so, S') ∧ Rd S'.next S' 2 so (W.map enRow) ∧ (∀ q, so.a = some q → S.next ≤ q.1) ∧ Fr S.next S S' := by
  have hloop : ∀ n q so T, W.length - q < n → q ≤ W.length → FI S.next p s so most xs (W.take q) T → Fr S.next S T → ∃ so' S', rollcallref02_Book_From.L0 k n (some (HA.cell0 p)) t all so T = some (so', S') ∧ Rd S'.next S' 2 so' (W.map enRow) ∧ (∀ q, so'.a = some q → S.next ≤ q.1) ∧ Fr S.next S S' := by
    intro n
    induction n with
    | zero => intro q so T hf; omega
    | succ n ih =>
      intro q so T hf hq hF hfr
      rw [rollcallref02_Book_From.L0]
      have hcnt := hF.ri.cnt
      obtain ⟨n', b, T1, e1, f1, hb⟩ := from_inner (g := S.next) (all := all) (out := W.take q) (r0 := rollcallref02_Book_From.L0 k n) hk ht (fun e he => h.len e ((hm e).1 (List.mem_of_mem_take he)).1) (by rw [List.length_take]; omega) k 0 (-1) T (by omega) (Nat.zero_le _) hF (.inl ⟨rfl, fun q h hq => by omega⟩)
      rw [show ((0 : Nat) : Int) = 0 from rfl] at e1
      have hF1 := hF.fr f1
      have hfr1 : Fr S.next S T1 := hfr.trans (f1.mono hfr.le)
      rw [e1, rollcallref02_Book_From.L1, Option.bind_some, row_ldSl hF1.ri.row rfl rfl, Option.bind_some, hF1.ri.slen, if_neg (by omega)]
      -- who is there
      have hcand : ∀ e, (e ∈ xs ∧ cand all t (W.take q) e) ↔ e ∈ W.drop q := by
        intro e
        constructor
        · rintro ⟨h1, h2, h3⟩
          have h4 := (hm e).2 ⟨h1, h2⟩
          obtain ⟨i, hi, rfl⟩ := List.getElem_of_mem h4
          rcases Nat.lt_or_ge i q with h5 | h5
          · exfalso
            have hne : W.take q ≠ [] := by
              intro hc
              have := congrArg List.length hc
              rw [List.length_take, List.length_nil] at this; omega
            have h6 := h3 hne
            rw [last_take (by omega) hq] at h6
            rcases Nat.lt_or_ge i (q - 1) with h7 | h7
            · have := hW.lt (i := i) (j := q - 1) (by omega) (by omega) h7; omega
            · obtain rfl : i = q - 1 := by omega
              rw [(cmpL_zero _ _).2 rfl] at h6; omega
          · rw [List.mem_drop_iff_getElem]
            exact ⟨i - q, by omega, by simp only [show q + (i - q) = i by omega]⟩
        · intro h1
          have h4 := List.mem_of_mem_drop h1
          obtain ⟨h5, h6⟩ := (hm e).1 h4
          refine ⟨h5, h6, fun hne => ?_⟩
          rw [List.mem_drop_iff_getElem] at h1
          obtain ⟨i, hi, rfl⟩ := h1
          have hq0 : 0 < q := by
            rcases Nat.eq_zero_or_pos q with h7 | h7
            · subst h7; exact absurd (by simp) hne
            · exact h7
          rw [last_take hq0 hq, cmpL_anti]
          have := hW.lt (i := q - 1) (j := q + i) (by omega) (by omega) (by omega)
          omega
      rcases hb with ⟨rfl, hb⟩ | ⟨i, rfl, hi, h1, h2, h3⟩
      · rw [if_pos (by omega)]
        have hend : W.length ≤ q := by
          rcases Nat.lt_or_ge q W.length with hlt | hge
          · have := (hcand W[q]).2 (by rw [List.mem_drop_iff_getElem]; exact ⟨0, by omega, rfl⟩)
            obtain ⟨j, hj, hj2⟩ := List.getElem_of_mem this.1
            have h5 := hb j hj hj
            rw [hj2] at h5
            exact absurd this.2 h5
          · exact hge
        have hWq : W.take q = W := List.take_of_length_le hend
        have hv := hF1.vec
        rw [hWq] at hv
        exact ⟨so, T1, rfl, hv.rd, fun q hq => (hv.lo q hq).1, hfr1⟩
      · have hd := (hcand xs[i]).1 ⟨List.getElem_mem hi, h2⟩
        have hlt : q < W.length := by
          rcases Nat.lt_or_ge q W.length with hlt | hge
          · exact hlt
          · rw [List.drop_eq_nil_of_le hge] at hd; cases hd
        have hbest : xs[i] = W[q] := by
          rw [List.mem_drop_iff_getElem] at hd
          obtain ⟨j, hj, hj2⟩ := hd
          rcases Nat.eq_zero_or_pos j with h0 | h0
          · subst h0; rw [← hj2]; rfl
          · exfalso
            have h4 := (hcand W[q]).2 (by rw [List.mem_drop_iff_getElem]; exact ⟨0, by omega, rfl⟩)
            obtain ⟨x, hx, hx2⟩ := List.getElem_of_mem h4.1
            have h5 := h3 x hx hx (by rw [hx2]; exact h4.2)
            rw [hx2, ← hj2] at h5
            exact h5 (hW.lt hlt (by omega) (by omega))
        obtain ⟨ad, a1, a2, a3⟩ := en_rows hF1.ri.vec.rows hi
        rw [if_neg (by omega), Option.bind_some, row_ldSl hF1.ri.row rfl rfl, Option.bind_some, a1, Option.bind_some, a2, Option.bind_some, a3, Option.bind_some, letv]
        have fl : Fr T1.next T1 (T1.lit [[.str xs[i].1, .int .i64 xs[i].2]] 2).2 := lit_fr _ (Nat.le_refl _)
        have lr : ((T1.lit [[.str xs[i].1, .int .i64 xs[i].2]] 2).2).rows (T1.lit [[.str xs[i].1, .int .i64 xs[i].2]] 2).1 2 = some [[.str xs[i].1, .int .i64 xs[i].2]] := (Vec.lit (n := 0) (z := 2) (S := T1) _ (Nat.zero_le _)).rows
        have hF2 := hF1.fr fl
        have l2 : (T1.lit [[.str xs[i].1, .int .i64 xs[i].2]] 2).2.next = T1.next + 1 := rfl
        have := hfr1.le
        obtain ⟨s3, T3, e3, v3, f3, k3, q3⟩ := hF2.vec.app2 (new := [[.str xs[i].1, .int .i64 xs[i].2]]) (by omega) (by simp; omega)
        rw [lr, Option.bind_some, e3, Option.bind_some]
        have hrows : (W.take q).map enRow ++ [[.str xs[i].1, .int .i64 xs[i].2]] = (W.take (q + 1)).map enRow := by
          rw [List.take_succ_eq_append_getElem hlt, List.map_append, ← hbest]; rfl
        rw [hrows] at v3
        have hri3 : RI p s most xs T3 := hF2.ri.keep (fun id ho => f3.eq id (hF2.lt id ho)) f3.le
        exact ih (q + 1) s3 T3 (by omega) (by omega) ⟨hri3, hF2.lt, v3⟩ (hfr1.trans ((fl.mono (by omega)).trans f3))
  rw [rollcallref02_Book_From.f]
  exact hloop k 0 Sl.nil S (by omega) (Nat.zero_le _) ⟨h, fun id ho => h.lt ho, by rw [List.take_zero]; exact Vec.nil⟩ (Fr.refl _ _)
end Go.Proofs.Ytlfdaflngmkldaa.X
