/- The layer pair: what the document's relation does, plain. -/
import Derived.Test.YtdgmehfhgppheaaPpTen
namespace Go.Proofs.Ytdgmehfhgppheaa.X
open Go.Proofs.Ytdgmehfhgppheaa.HL
set_option linter.unusedVariables false
section
variable {p : Nat} {most : Int} {s : Sl} {L : List Pr} {S : HS}
theorem RefP.put {S1 : HS} {s' : Sl} {L' : List Pr} (h : RefP p most s L S) (hc : S1.heap p = S.heap p) (hle : S.next ≤ S1.next) (hk : ∀ id, id < S.next → S1.heap id = S.heap id) (hr : S1.rows s' 2 = some (L'.map pRow)) (hq : ∀ q, s'.a = some q → S.next ≤ q.1 ∧ q.1 < S1.next) (hl : L'.length ≤ 900) :
    ∃ S', S1.sets (HA.fld (HA.cell0 p) 1) [s'.hv] = some S' ∧ RefP p most s' L' S' ∧ Only p s s' S S' := by
  have hlt := h.lt
  refine ⟨S1.put p (.cells 2 [[.int .i64 most, s'.hv]] true), (sets_row (hc.trans h.cell) rfl (by simp)).trans rfl, ⟨put_here _ _ _, rows_keep hr fun q hq' => put_other _ (by have := hq q hq'; omega), fun q hq' => ⟨by have := hq q hq'; omega, (hq q hq').2⟩, by rw [put_next]; omega, hl⟩, ⟨by rw [put_next]; omega, fun id g1 g2 => by rw [put_other _ (fun e => g2 (.inl e))]; exact hk id g1, fun id g => ?_⟩⟩
  rcases g with g | ⟨q, g1, rfl⟩
  · exact .inl (.inl g)
  · exact .inr (hq q g1).1
theorem ref_add {k : Nat} (hk : 2000 ≤ k) (h : RefP p most s L S) (a : Int) (b : List UInt8) (hll : L.length + 1 ≤ 900) {xs : List KS.Ky} (hs : KS.Srt xs) (hm : ∀ v, v ∈ xs ↔ (a, v) ∈ L) :
    ∃ s' S', rollcallref11_Rel_Add.f k (some (HA.cell0 p)) a b S = some ((if (a, b) ∈ L then 6 else if most ≤ xs.length then 7 else 0), S') ∧ RefP p most s' (if (a, b) ∈ L then L else if most ≤ xs.length then L else L ++ [(a, b)]) S' ∧ Only p s s' S S' := by
  rw [rollcallref11_Rel_Add.f, ref_has hk h, Option.bind_some]
  by_cases hin : (a, b) ∈ L
  · simp only [hin, decide_true, if_true]
    exact ⟨s, S, rfl, h, Only.refl _ _ _⟩
  · simp only [hin, decide_false, if_false, Bool.false_eq_true]
    obtain ⟨so, S1, ys, e1, g1, g2, g3, g4, f1⟩ := ref_of hk h a
    have hy : ys = xs := KS.srt_ext g1 hs fun v => by rw [g2, hm]
    subst hy
    have h1 := h.fr f1
    have l1 := f1.le
    have hsol : (so.len : Int) = ys.length := by rw [← rows_len g3]; simp
    rw [e1, Option.bind_some]
    simp only [Option.bind_some, h1.ldm, h.ldm, if_true, hsol]
    by_cases hf : most ≤ (ys.length : Int)
    · simp only [if_pos (show (ys.length : Int) ≥ most from hf), if_pos hf]
      exact ⟨s, S1, rfl, h1, Only.of_fr f1⟩
    · simp only [if_neg (show ¬ ((ys.length : Int) ≥ most) from hf), if_neg hf]
      have fl : Fr S1.next S1 (S1.lit [] 2).2 := lit_fr _ (Nat.le_refl _)
      have vl := Vec.lit (n := S1.next) (z := 2) (S := S1) [] (Nat.le_refl _)
      have nl : (S1.lit [] 2).2.next = S1.next + 1 := rfl
      rw [letv]
      generalize S1.lit [] 2 = P at fl vl nl ⊢
      obtain ⟨s2, S2⟩ := P
      simp only at fl vl nl ⊢
      have h2 := h1.fr fl
      obtain ⟨s3, S3, e3, v3, f3⟩ := vl.app (new := L.map pRow) (by omega) (by simp; omega)
      have l3 := f3.le
      have f3' : Fr S1.next S1 S3 := fl.trans f3
      have h3 := h1.fr f3'
      rw [List.nil_append] at v3
      have fl4 : Fr S3.next S3 (S3.lit [[.int .i64 a, .str b]] 2).2 := lit_fr _ (Nat.le_refl _)
      have vl4 : (S3.lit [[.int .i64 a, .str b]] 2).2.rows (S3.lit [[.int .i64 a, .str b]] 2).1 2 = some [[.int .i64 a, .str b]] := (Vec.lit (n := 0) (z := 2) (S := S3) _ (Nat.zero_le _)).rows
      have nl4 : (S3.lit [[.int .i64 a, .str b]] 2).2.next = S3.next + 1 := rfl
      rw [h2.lds, Option.bind_some, h2.rows, Option.bind_some, e3, Option.bind_some, letv]
      simp only
      generalize S3.lit [[.int .i64 a, .str b]] 2 = P at fl4 vl4 nl4 ⊢
      obtain ⟨s4, S4⟩ := P
      simp only at fl4 vl4 nl4 ⊢
      obtain ⟨s5, S5, e5, v5, f5⟩ := (v3.frame fl4 (Nat.le_refl _)).app (new := [[.int .i64 a, .str b]]) (by omega) (by simp; omega)
      have l5 := f5.le
      have f5' : Fr S.next S S5 := ((f1.trans (f3'.mono l1)).trans (fl4.mono (by omega))).trans (f5.mono (by omega))
      have hrow : L.map pRow ++ [[.int .i64 a, .str b]] = (L ++ [(a, b)]).map pRow := by simp [pRow]
      rw [hrow] at v5
      obtain ⟨S6, e6, r6, o6⟩ := h.put (f5'.eq p h.lt) f5'.le f5'.eq v5.rows (fun q hq => by have := v5.lo q hq; omega) (by simp; omega)
      rw [vl4, Option.bind_some, e5, Option.bind_some]
      simp only
      rw [e6, Option.bind_some]
      exact ⟨s5, S6, rfl, r6, o6⟩
/-- Which pairs stay. -/
def keepP (a : Int) (b : List UInt8) (all : Bool) (x : Pr) : Bool := !decide (x.1 = a) || (!all && !decide (x.2 = b))
theorem ref_keep {k : Nat} (hk : 2000 ≤ k) (h : RefP p most s L S) (a : Int) (b : List UInt8) (all : Bool) :
    ∃ s' S', rollcallref11_Rel_Keep.f k (some (HA.cell0 p)) a b all S = some ((L.length : Int) - (L.filter (keepP a b all)).length, S') ∧ RefP p most s' (L.filter (keepP a b all)) S' ∧ Only p s s' S S' := by
  have hll := h.ll
  have hloop : ∀ f i (T : HS) (y : Sl) (pre : List Pr), L.length - i < f → i ≤ L.length → Fr S.next S T → Vec S.next T 2 y (pre.map pRow) → pre.length ≤ i →
      ∃ T' y', rollcallref11_Rel_Keep.L0 k f (some (HA.cell0 p)) a b all y (i : Int) T = (Option.bind (T'.sets (HA.fld (HA.cell0 p) 1) [y'.hv]) fun p27 => some (w64 ((L.length : Int) - (y'.len : Int)), p27)) ∧ Fr S.next S T' ∧ Vec S.next T' 2 y' ((pre ++ (L.drop i).filter (keepP a b all)).map pRow) := by
    intro f
    induction f with
    | zero => intro i T y pre h; omega
    | succ f ih =>
      intro i T y pre hfi hi hfr hv hpl
      have hT := h.fr hfr
      have hle := hfr.le
      rw [rollcallref11_Rel_Keep.L0]
      simp only [Option.bind_some, hT.lds, hT.slen]
      by_cases hlt : i < L.length
      · obtain ⟨ad, a1, a2, a3⟩ := hT.at_ hlt
        have hJ1 : ∀ c : Bool, c = keepP a b all L[i] → ∃ T' y', rollcallref11_Rel_Keep.J1 k (rollcallref11_Rel_Keep.L0 k f) (some (HA.cell0 p)) a b all y (i : Int) c T = (Option.bind (T'.sets (HA.fld (HA.cell0 p) 1) [y'.hv]) fun p27 => some (w64 ((L.length : Int) - (y'.len : Int)), p27)) ∧ Fr S.next S T' ∧ Vec S.next T' 2 y' ((pre ++ (L.drop i).filter (keepP a b all)).map pRow) := by
          intro c hc
          rw [rollcallref11_Rel_Keep.J1, List.drop_eq_getElem_cons hlt, List.filter_cons, ← hc]
          cases c with
          | true =>
            have fl : Fr T.next T (T.lit [pRow L[i]] 2).2 := lit_fr _ (Nat.le_refl _)
            have vl : (T.lit [pRow L[i]] 2).2.rows (T.lit [pRow L[i]] 2).1 2 = some [pRow L[i]] := (Vec.lit (n := 0) (z := 2) (S := T) _ (Nat.zero_le _)).rows
            have nl : (T.lit [pRow L[i]] 2).2.next = T.next + 1 := rfl
            obtain ⟨y2, T2, e2, v2, f2⟩ := (hv.frame fl (Nat.le_refl _)).app (new := [pRow L[i]]) (by omega) (by simp; omega)
            have := f2.le
            simp only [Option.bind_some, hT.lds, a1, a2, a3, if_true]
            rw [letv]
            erw [vl]
            rw [Option.bind_some]
            erw [e2]
            rw [Option.bind_some, rollcallref11_Rel_Keep.J2, w64_id (by omega) (by omega), show ((i : Int) + 1) = ((i + 1 : Nat) : Int) by simp]
            obtain ⟨T', y', e3, f3, v3⟩ := ih (i + 1) T2 y2 (pre ++ [L[i]]) (by omega) (by omega) (hfr.trans ((fl.mono hle).trans f2)) (by rw [List.map_append]; exact v2) (by simp; omega)
            exact ⟨T', y', e3, f3, by simpa using v3⟩
          | false =>
            rw [if_neg (by simp), if_neg (by simp), rollcallref11_Rel_Keep.J2, w64_id (by omega) (by omega), show ((i : Int) + 1) = ((i + 1 : Nat) : Int) by simp]
            exact ih (i + 1) T y pre (by omega) (by omega) hfr hv (by omega)
        rw [if_pos (by omega)]
        simp only [a1, a2, a3, Option.bind_some]
        by_cases h1 : L[i].1 = a
        · rw [if_neg (by simp [h1])]
          cases all with
          | true => rw [if_neg (by simp), rollcallref11_Rel_Keep.J3, if_neg (by simp [h1])]; exact hJ1 false (by simp [keepP, h1])
          | false => rw [if_pos (by rfl), rollcallref11_Rel_Keep.J3, if_neg (by simp [h1])]; exact hJ1 _ (by simp [keepP, h1])
        · rw [if_pos (by simpa using h1)]; exact hJ1 true (by simp [keepP, h1])
      · rw [if_neg (by omega), List.drop_of_length_le (by omega)]
        exact ⟨T, y, rfl, hfr, by simpa using hv⟩
  rw [rollcallref11_Rel_Keep.f]
  obtain ⟨T', y', e, f, v⟩ := hloop k 0 S Sl.nil [] (by omega) (Nat.zero_le _) (Fr.refl _ _) .nil (Nat.le_refl _)
  rw [List.drop_zero, List.nil_append] at v
  have hfl : (L.filter (keepP a b all)).length ≤ L.length := List.length_filter_le _ _
  have hyl : (y'.len : Int) = (L.filter (keepP a b all)).length := by rw [v.len]; simp
  obtain ⟨S6, e6, r6, o6⟩ := h.put (f.eq p h.lt) f.le f.eq v.rows v.lo (by omega)
  rw [show ((0 : Nat) : Int) = 0 from rfl] at e
  rw [e, e6, Option.bind_some, hyl, w64_id (by omega) (by omega)]
  exact ⟨y', S6, rfl, r6, o6⟩
theorem keep_one {a : Int} {b : List UInt8} (L : List Pr) : L.filter (keepP a b false) = wo (a, b) L := by
  unfold wo
  refine List.filter_congr fun x _ => ?_
  obtain ⟨x1, x2⟩ := x
  by_cases h1 : x1 = a <;> by_cases h2 : x2 = b <;> simp [keepP, h1, h2]
theorem keep_all {a : Int} {b : List UInt8} (L : List Pr) : L.filter (keepP a b true) = dropA a L := by
  unfold dropA
  refine List.filter_congr fun x _ => ?_
  simp [keepP]
theorem ref_by {k : Nat} (hk : 2000 ≤ k) (h : RefP p most s L S) (b : List UInt8) : ∃ so S' xs, rollcallref11_Rel_By.f k (some (HA.cell0 p)) b S = some (so, S') ∧ KI.Srt xs ∧ (∀ v, v ∈ xs ↔ (v, b) ∈ L) ∧ S'.rows so 1 = some (xs.map KI.row1) ∧ Fr S.next S S' := by
  have hll := h.ll
  have hloop : ∀ f i (T : HS) (y : Sl) (xs : List Int), L.length - i < f → i ≤ L.length → Fr S.next S T → Rd T.next T 1 y (xs.map KI.row1) → KI.Srt xs → xs.length ≤ i → (∀ v, v ∈ xs ↔ (v, b) ∈ L.take i) →
      ∃ so S' xs, rollcallref11_Rel_By.L0 k f (some (HA.cell0 p)) b y (i : Int) T = some (so, S') ∧ KI.Srt xs ∧ (∀ v, v ∈ xs ↔ (v, b) ∈ L) ∧ S'.rows so 1 = some (xs.map KI.row1) ∧ Fr S.next S S' := by
    intro f
    induction f with
    | zero => intro i T y xs h; omega
    | succ f ih =>
      intro i T y xs hfi hi hfr hv hs hxl hm
      have hT := h.fr hfr
      have hle := hfr.le
      rw [rollcallref11_Rel_By.L0]
      simp only [Option.bind_some, hT.lds, hT.slen]
      by_cases hlt : i < L.length
      · obtain ⟨ad, a1, a2, a3⟩ := hT.at_ hlt
        rw [if_pos (by omega)]
        simp only [a1, a2, a3, Option.bind_some]
        have htk : ∀ v, (v, b) ∈ L.take (i + 1) ↔ (v, b) ∈ L.take i ∨ (v, b) = L[i] := fun v => by rw [List.take_succ_eq_append_getElem hlt, List.mem_append, List.mem_singleton]
        by_cases h1 : L[i].2 = b
        · obtain ⟨y2, T2, e2, r2, f2, _⟩ := KI.refAdd_spec (k := k) (t := L[i].1) hv (by omega) (by omega)
          rw [if_pos h1, e2, Option.bind_some, rollcallref11_Rel_By.J1, w64_id (by omega) (by omega), show ((i : Int) + 1) = ((i + 1 : Nat) : Int) by simp]
          refine ih (i + 1) T2 y2 _ (by omega) (by omega) (hfr.trans (f2.mono hle)) r2 (KI.addL_srt hs) (by have := (KI.addL_len L[i].1 xs).1; omega) fun v => ?_
          rw [KI.addL_mem, htk, ← hm]
          constructor
          · rintro (rfl | g)
            · exact .inr (by rw [← h1])
            · exact .inl g
          · rintro (g | g)
            · exact .inr g
            · exact .inl (congrArg Prod.fst g)
        · rw [if_neg h1, rollcallref11_Rel_By.J1, w64_id (by omega) (by omega), show ((i : Int) + 1) = ((i + 1 : Nat) : Int) by simp]
          refine ih (i + 1) T y xs (by omega) (by omega) hfr hv hs (by omega) fun v => ?_
          rw [htk, ← hm]
          exact ⟨.inl, fun g => g.elim (fun g => g) fun g => absurd (congrArg Prod.snd g).symm h1⟩
      · obtain rfl : i = L.length := by omega
        rw [if_neg (by omega)]
        rw [List.take_length] at hm
        exact ⟨y, T, xs, rfl, hs, hm, hv.rows, hfr⟩
  rw [rollcallref11_Rel_By.f]
  exact hloop k 0 S Sl.nil [] (by omega) (Nat.zero_le _) (Fr.refl _ _) ⟨rfl, fun q hq => by cases hq⟩ List.Pairwise.nil (Nat.le_refl _) (fun v => by simp)
end
theorem texts_spec {k : Nat} {s s' : Sl} {xs ys : List KS.Ky} {S : HS} (h : S.rows s 1 = some (xs.map KS.row1)) (h' : S.rows s' 1 = some (ys.map KS.row1)) (hl : xs.length < k) (hl2 : xs.length ≤ 1000000) : rollcallref01_Texts.f k s s' S = some (decide (xs = ys), S) := by
  have hsl : (s.len : Int) = xs.length := by rw [← rows_len h]; simp
  have hsl' : (s'.len : Int) = ys.length := by rw [← rows_len h']; simp
  rw [rollcallref01_Texts.f, hsl, hsl']
  by_cases hle : xs.length = ys.length
  · rw [if_neg (by simp [hle])]
    have hloop : ∀ f i, xs.length - i < f → i ≤ xs.length → xs.take i = ys.take i → rollcallref01_Texts.L0 k f s s' (i : Int) S = some (decide (xs = ys), S) := by
      intro f
      induction f with
      | zero => intro i h; omega
      | succ f ih =>
        intro i hf hi ht
        rw [rollcallref01_Texts.L0, hsl]
        by_cases hlt : i < xs.length
        · obtain ⟨ad, a1, a2⟩ := KS.ldK_at h hlt
          obtain ⟨ad', b1, b2⟩ := KS.ldK_at h' (i := i) (by omega)
          rw [if_pos (by omega), a1, Option.bind_some, a2, Option.bind_some, b1, Option.bind_some, b2, Option.bind_some]
          by_cases he : xs[i] = ys[i]'(by omega)
          · rw [if_neg (by simpa using he), w64_id (by omega) (by omega), show ((i : Int) + 1) = ((i + 1 : Nat) : Int) by simp]
            refine ih (i + 1) (by omega) (by omega) ?_
            rw [List.take_succ_eq_append_getElem hlt, List.take_succ_eq_append_getElem (by omega), ht, he]
          · rw [if_pos (by simpa using he), decide_eq_false (fun e => he (by subst e; rfl))]
        · rw [if_neg (by omega), decide_eq_true]
          rw [List.take_of_length_le (by omega), List.take_of_length_le (by omega)] at ht
          exact ht
    exact hloop k 0 (by omega) (Nat.zero_le _) (by simp)
  · rw [if_pos (by simpa using fun h => hle (by exact_mod_cast h)), decide_eq_false (fun e => hle (by rw [e]))]
end Go.Proofs.Ytdgmehfhgppheaa.X
