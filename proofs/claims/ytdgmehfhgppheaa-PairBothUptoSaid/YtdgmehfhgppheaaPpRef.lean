/- The layer pair: the document's relation, plain. -/
import Derived.Test.YtdgmehfhgppheaaPpDrop
namespace Go.Proofs.Ytdgmehfhgppheaa.X
open Go.Proofs.Ytdgmehfhgppheaa.HL
set_option linter.unusedVariables false
def pRow (x : Pr) : List HV := [.int .i64 x.1, .str x.2]
structure RefP (p : Nat) (most : Int) (s : Sl) (L : List Pr) (S : HS) : Prop where
  cell : S.heap p = .cells 2 [[.int .i64 most, s.hv]] true
  rows : S.rows s 2 = some (L.map pRow)
  sl : ∀ q, s.a = some q → q.1 ≠ p ∧ q.1 < S.next
  lt : p < S.next
  ll : L.length ≤ 900
section
variable {p : Nat} {most : Int} {s : Sl} {L : List Pr} {S : HS}
theorem RefP.ltO (h : RefP p most s L S) {id : Nat} (ho : Own p s id) : id < S.next := by
  rcases ho with rfl | ⟨q, h1, rfl⟩
  · exact h.lt
  · exact (h.sl q h1).2
theorem RefP.keep {S' : HS} (h : RefP p most s L S) (hk : ∀ id, Own p s id → S'.heap id = S.heap id) (hn : S.next ≤ S'.next) : RefP p most s L S' :=
  ⟨(hk p (.inl rfl)).trans h.cell, rows_keep h.rows fun q hq => hk _ (.inr ⟨q, hq, rfl⟩), fun q hq => ⟨(h.sl q hq).1, Nat.lt_of_lt_of_le (h.sl q hq).2 hn⟩, Nat.lt_of_lt_of_le h.lt hn, h.ll⟩
theorem RefP.fr {S' : HS} (h : RefP p most s L S) (hf : Fr S.next S S') : RefP p most s L S' := h.keep (fun id ho => hf.eq id (h.ltO ho)) hf.le
theorem RefP.lds (h : RefP p most s L S) : S.ldSl (HA.fld (HA.cell0 p) 1) = some s := row_ldSl (cell_row h.cell) rfl rfl
theorem RefP.ldm (h : RefP p most s L S) : S.ldI .i64 (HA.fld (HA.cell0 p) 0) = some most := row_ldI (cell_row h.cell) rfl rfl
theorem RefP.slen (h : RefP p most s L S) : (s.len : Int) = L.length := by rw [← rows_len h.rows]; simp
theorem RefP.at_ (h : RefP p most s L S) {i : Nat} (hi : i < L.length) : ∃ ad, S.idx s (i : Int) 2 = some ad ∧ S.ldI .i64 (HA.fld ad 0) = some L[i].1 ∧ S.ldS (HA.fld ad 1) = some L[i].2 := by
  obtain ⟨ad, h1, h2, h3⟩ := rows_idx h.rows (i := i) (by simpa using hi)
  rw [List.getElem_map] at h3
  exact ⟨ad, h1, row_ldI h3 h2 rfl, row_ldS h3 h2 rfl⟩
theorem ref_has {k : Nat} (hk : 2000 ≤ k) (h : RefP p most s L S) (a : Int) (b : List UInt8) : rollcallref11_Rel_Has.f k (some (HA.cell0 p)) a b S = some (decide ((a, b) ∈ L), S) := by
  have hll := h.ll
  have hloop : ∀ f i, L.length - i < f → i ≤ L.length → rollcallref11_Rel_Has.L0 k f (some (HA.cell0 p)) a b (i : Int) S = some (decide ((a, b) ∈ L.drop i), S) := by
    intro f
    induction f with
    | zero => intro i h; omega
    | succ f ih =>
      intro i hf hi
      rw [rollcallref11_Rel_Has.L0, Option.bind_some, h.lds, Option.bind_some, h.slen]
      by_cases hlt : i < L.length
      · obtain ⟨ad, a1, a2, a3⟩ := h.at_ hlt
        have hn : ∀ c : Bool, c = decide (L[i] = (a, b)) → rollcallref11_Rel_Has.J1 k (rollcallref11_Rel_Has.L0 k f) (some (HA.cell0 p)) a b (i : Int) c S = some (decide ((a, b) ∈ L.drop i), S) := by
          intro c hc
          rw [rollcallref11_Rel_Has.J1, List.drop_eq_getElem_cons hlt]
          by_cases he : L[i] = (a, b)
          · rw [hc, if_pos (decide_eq_true he), decide_eq_true (by simp [he])]
          · rw [hc, if_neg (by simpa using he), w64_id (by omega) (by omega), show ((i : Int) + 1) = ((i + 1 : Nat) : Int) by simp, ih (i + 1) (by omega) (by omega)]
            congr 2
            rw [decide_eq_decide, List.mem_cons]
            exact ⟨.inr, fun g => g.elim (fun g => absurd g.symm he) (fun g => g)⟩
        rw [if_pos (by omega)]
        simp only [Option.bind_some, h.lds, a1, a2, a3]
        by_cases h1 : L[i].1 = a
        · rw [if_pos h1]
          refine hn _ ?_
          rw [decide_eq_decide]
          exact ⟨fun g => by rw [← h1, ← g], fun g => by rw [g]⟩
        · rw [if_neg h1]
          refine hn _ ?_
          rw [eq_comm, decide_eq_false_iff_not]
          intro g; exact h1 (by rw [g])
      · rw [if_neg (by omega), List.drop_of_length_le (by omega), decide_eq_false (by simp)]
  rw [rollcallref11_Rel_Has.f]
  exact (hloop k 0 (by omega) (Nat.zero_le _)).trans (by rw [List.drop_zero])
theorem nodup_sub {α : Type} [DecidableEq α] : ∀ (l m : List α), l.Nodup → (∀ x ∈ l, x ∈ m) → l.length ≤ m.length := by
  intro l
  induction l with
  | nil => intro m _ _; simp
  | cons x l ih =>
    intro m hn hs
    have hn' := List.nodup_cons.1 hn
    have h1 := ih (m.erase x) hn'.2 fun y hy => (List.mem_erase_of_ne (by rintro rfl; exact hn'.1 hy)).2 (hs y (by simp [hy]))
    have hx := hs x (by simp)
    rw [List.length_erase_of_mem hx] at h1
    have := List.length_pos_of_mem hx
    rw [List.length_cons]; omega
/-- The least that is above, again and again. -/
def BestB (L : List Pr) (a : Int) (pre : List (List UInt8)) (i : Nat) (b : Int) : Prop :=
  (b = -1 ∧ ∀ j (h : j < L.length), j < i → L[j].1 = a → L[j].2 ∈ pre) ∨ ∃ j0 : Nat, b = (j0 : Int) ∧ ∃ h : j0 < L.length, j0 < i ∧ L[j0].1 = a ∧ L[j0].2 ∉ pre ∧ ∀ j (h' : j < L.length), j < i → L[j].1 = a → L[j].2 ∉ pre → KS.klt L[j].2 L[j0].2 = false
/-- What was gathered so far: rising, of that thing, all that is below its last. -/
structure PreB (L : List Pr) (a : Int) (pre : List (List UInt8)) : Prop where
  srt : KS.Srt pre
  sub : ∀ v ∈ pre, (a, v) ∈ L
  low : ∀ v, (a, v) ∈ L → v ∉ pre → ∀ u ∈ pre, KS.klt u v = true
theorem PreB.len {L : List Pr} {a : Int} {pre : List (List UInt8)} (h : PreB L a pre) : pre.length ≤ L.length := by
  have hnd : pre.Nodup := h.srt.imp fun {a b} h e => by subst e; rw [KS.klt_irrefl] at h; cases h
  have := nodup_sub (pre.map fun b => (a, b)) L (by
    rw [List.nodup_iff_pairwise_ne, List.pairwise_map]
    exact (List.nodup_iff_pairwise_ne.1 hnd).imp fun h e => h (by simpa using e)) (fun x hx => by
    obtain ⟨b, hb, rfl⟩ := List.mem_map.1 hx
    exact h.sub b hb)
  simpa using this
theorem PreB.last {L : List Pr} {a : Int} {pre : List (List UInt8)} (h : PreB L a pre) (hp : 0 < pre.length) {v : List UInt8} (hv : (a, v) ∈ L) : (KS.klt v pre[pre.length - 1] || decide (v = pre[pre.length - 1])) = decide (v ∈ pre) := by
  by_cases hm : v ∈ pre
  · rw [decide_eq_true hm]
    obtain ⟨j, hj, rfl⟩ := List.getElem_of_mem hm
    by_cases hjl : j = pre.length - 1
    · subst hjl; simp
    · rw [h.srt.lt hj (show pre.length - 1 < pre.length by omega) (by omega)]; simp
  · rw [decide_eq_false hm]
    have h1 := h.low v hv hm _ (List.getElem_mem (show pre.length - 1 < pre.length by omega))
    rw [KS.klt_asymm h1]
    simp only [Bool.false_or, decide_eq_false_iff_not]
    intro e
    exact hm (by rw [e]; exact List.getElem_mem _)
theorem PreB.add {L : List Pr} {a : Int} {pre : List (List UInt8)} (h : PreB L a pre) {b : Int} {j0 : Nat} (hb : BestB L a pre L.length b) (hb0 : b = (j0 : Int)) : ∃ hj : j0 < L.length, PreB L a (pre ++ [L[j0].2]) ∧ L[j0].2 ∉ pre := by
  subst hb0
  rcases hb with ⟨g, _⟩ | ⟨j1, g, hj, _, g1, g2, g3⟩
  · omega
  · obtain rfl : j0 = j1 := by omega
    have hin : (a, L[j0].2) ∈ L := by
      have := List.getElem_mem hj
      rw [← g1]; exact this
    refine ⟨hj, ⟨?_, fun v hv => ?_, fun v hv hn u hu => ?_⟩, g2⟩
    · unfold KS.Srt
      rw [List.pairwise_append]
      exact ⟨h.srt, List.pairwise_singleton _ _, fun x hx y hy => by simp at hy; subst hy; exact h.low _ hin g2 x hx⟩
    · rcases List.mem_append.1 hv with g | g
      · exact h.sub v g
      · simp at g; subst g; exact hin
    · simp only [List.mem_append, List.mem_singleton, not_or] at hn
      rcases List.mem_append.1 hu with g | g
      · exact h.low v hv hn.1 u g
      · simp at g; subst g
        obtain ⟨j, hj', he⟩ := List.getElem_of_mem hv
        have h2 : L[j].1 = a := by rw [he]
        have h3 : L[j].2 = v := by rw [he]
        have := g3 j hj' hj' h2 (by rw [h3]; exact hn.1)
        rw [h3] at this
        rcases KS.klt_tri L[j0].2 v with q | q | q
        · exact q
        · exact absurd q.symm hn.2
        · rw [this] at q; cases q
theorem ref_of {k : Nat} (hk : 2000 ≤ k) (h : RefP p most s L S) (a : Int) : ∃ so S' xs, rollcallref11_Rel_Of.f k (some (HA.cell0 p)) a S = some (so, S') ∧ KS.Srt xs ∧ (∀ v, v ∈ xs ↔ (a, v) ∈ L) ∧ S'.rows so 1 = some (xs.map KS.row1) ∧ (∀ q, so.a = some q → S.next ≤ q.1 ∧ q.1 < S'.next) ∧ Fr S.next S S' := by
  have hll := h.ll
  -- one round of the search
  have hscan : ∀ (r0 : Option HA → Int → Sl → HS → Option (Sl × HS)) (T : HS) (y : Sl) (pre : List (List UInt8)), Fr S.next S T → Vec S.next T 1 y (pre.map KS.row1) → PreB L a pre → ∀ f i b, L.length - i < f → i ≤ L.length → BestB L a pre i b →
      ∃ f' b', rollcallref11_Rel_Of.L1 k r0 f (some (HA.cell0 p)) a y b (i : Int) T = rollcallref11_Rel_Of.L1 k r0 (f' + 1) (some (HA.cell0 p)) a y b' (L.length : Int) T ∧ BestB L a pre L.length b' := by
    intro r0 T y pre hf hv hP f
    have hT := h.fr hf
    have hyl : (y.len : Int) = pre.length := by rw [hv.len]; simp
    induction f with
    | zero => intro i b h; omega
    | succ f ih =>
      intro i b hfi hi hB
      by_cases hlt : i < L.length
      · obtain ⟨ad, a1, a2, a3⟩ := hT.at_ hlt
        have hJ3 : ∀ b2, BestB L a pre (i + 1) b2 → ∃ f' b', rollcallref11_Rel_Of.J3 k (rollcallref11_Rel_Of.L1 k r0 f) r0 (some (HA.cell0 p)) a y b2 (i : Int) T = rollcallref11_Rel_Of.L1 k r0 (f' + 1) (some (HA.cell0 p)) a y b' (L.length : Int) T ∧ BestB L a pre L.length b' := by
          intro b2 hB2
          rw [rollcallref11_Rel_Of.J3, w64_id (by omega) (by omega), show ((i : Int) + 1) = ((i + 1 : Nat) : Int) by simp]
          exact ih (i + 1) b2 (by omega) (by omega) hB2
        -- passed over
        have hpass : (L[i].1 ≠ a ∨ L[i].2 ∈ pre) → BestB L a pre (i + 1) b := fun hno => by
          rcases hB with ⟨g1, g2⟩ | ⟨j0, g1, hj, g2, g3, g4, g5⟩
          · refine .inl ⟨g1, fun j hj hji ha => ?_⟩
            rcases Nat.lt_or_ge j i with g | g
            · exact g2 j hj g ha
            · obtain rfl : j = i := by omega
              exact hno.elim (fun q => absurd ha q) (fun q => q)
          · refine .inr ⟨j0, g1, hj, by omega, g3, g4, fun j hj' hji ha hn => ?_⟩
            rcases Nat.lt_or_ge j i with g | g
            · exact g5 j hj' g ha hn
            · obtain rfl : j = i := by omega
              exact hno.elim (fun q => absurd ha q) (fun q => absurd q hn)
        have hJ2f : L[i].1 = a → L[i].2 ∉ pre → ∃ f' b', rollcallref11_Rel_Of.J2 k (rollcallref11_Rel_Of.L1 k r0 f) r0 (some (HA.cell0 p)) a y b (i : Int) false T = rollcallref11_Rel_Of.L1 k r0 (f' + 1) (some (HA.cell0 p)) a y b' (L.length : Int) T ∧ BestB L a pre L.length b' := by
          intro ha hn
          rw [rollcallref11_Rel_Of.J2, if_neg (by simp)]
          rcases hB with ⟨rfl, g2⟩ | ⟨j0, rfl, hj, g2, g3, g4, g5⟩
          · rw [if_pos (by omega), rollcallref11_Rel_Of.J4, if_pos rfl]
            refine hJ3 _ (.inr ⟨i, rfl, hlt, by omega, ha, hn, fun j hj' hji hja hjn => ?_⟩)
            rcases Nat.lt_or_ge j i with g | g
            · exact absurd (g2 j hj' g hja) hjn
            · obtain rfl : j = i := by omega
              exact KS.klt_irrefl _
          · obtain ⟨ad2, c1, c2, c3⟩ := hT.at_ hj
            rw [if_neg (by omega)]
            simp only [Option.bind_some, hT.lds, a1, a3, c1, c3]
            rw [rollcallref11_Rel_Of.J4, show slt L[i].snd L[j0].snd = KS.klt L[i].2 L[j0].2 from rfl]
            by_cases hless : KS.klt L[i].2 L[j0].2 = true
            · rw [if_pos hless]
              refine hJ3 _ (.inr ⟨i, rfl, hlt, by omega, ha, hn, fun j hj' hji hja hjn => ?_⟩)
              rcases Nat.lt_or_ge j i with g | g
              · cases hc : KS.klt L[j].2 L[i].2 with
                | false => rfl
                | true => have := KS.klt_trans hc hless; rw [g5 j hj' g hja hjn] at this; cases this
              · obtain rfl : j = i := by omega
                exact KS.klt_irrefl _
            · rw [if_neg hless]
              refine hJ3 _ (.inr ⟨j0, rfl, hj, by omega, g3, g4, fun j hj' hji hja hjn => ?_⟩)
              rcases Nat.lt_or_ge j i with g | g
              · exact g5 j hj' g hja hjn
              · obtain rfl : j = i := by omega
                simpa using hless
        rw [rollcallref11_Rel_Of.L1]
        simp only [Option.bind_some, hT.lds, hT.slen]
        rw [if_pos (by omega)]
        simp only [a1, a2, a3, Option.bind_some, hyl]
        by_cases ha : L[i].1 = a
        · rw [if_neg (by simp [ha])]
          by_cases hp0 : 0 < pre.length
          · obtain ⟨ad3, d1, d2⟩ := KS.ldK_at hv.rows (i := pre.length - 1) (by omega)
            have hin : (a, L[i].2) ∈ L := by rw [← ha]; exact List.getElem_mem hlt
            rw [if_pos (by omega)]
            have hlast := hP.last hp0 hin
            unfold KS.klt at hlast
            have hpl := hP.len
            rw [w64_id (by omega) (by omega), show ((pre.length : Int) - 1) = ((pre.length - 1 : Nat) : Int) by omega]
            simp only [d1, d2, Option.bind_some, hlast]
            by_cases hm : L[i].2 ∈ pre
            · rw [decide_eq_true hm, rollcallref11_Rel_Of.J2, if_pos rfl]
              exact hJ3 b (hpass (.inr hm))
            · rw [decide_eq_false hm]
              exact hJ2f ha hm
          · have hpe : pre = [] := List.length_eq_zero_iff.1 (by omega)
            rw [if_neg (by omega)]
            exact hJ2f ha (by rw [hpe]; simp)
        · rw [if_pos (by simpa using ha), rollcallref11_Rel_Of.J2, if_pos rfl]
          exact hJ3 b (hpass (.inl ha))
      · obtain rfl : i = L.length := by omega
        exact ⟨f, b, rfl, hB⟩
  have hloop : ∀ f (T : HS) (y : Sl) (pre : List (List UInt8)), L.length + 1 - pre.length < f → Fr S.next S T → Vec S.next T 1 y (pre.map KS.row1) → PreB L a pre →
      ∃ so S' xs, rollcallref11_Rel_Of.L0 k f (some (HA.cell0 p)) a y T = some (so, S') ∧ KS.Srt xs ∧ (∀ v, v ∈ xs ↔ (a, v) ∈ L) ∧ S'.rows so 1 = some (xs.map KS.row1) ∧ (∀ q, so.a = some q → S.next ≤ q.1 ∧ q.1 < S'.next) ∧ Fr S.next S S' := by
    intro f
    induction f with
    | zero => intro T y pre h; omega
    | succ f ih =>
      intro T y pre hf hfr hv hP
      have hT := h.fr hfr
      have hpl := hP.len
      obtain ⟨f', b, e, hB⟩ := hscan (rollcallref11_Rel_Of.L0 k f) T y pre hfr hv hP k 0 (-1) (by omega) (Nat.zero_le _) (.inl ⟨rfl, fun j hj h => by omega⟩)
      rw [show ((0 : Nat) : Int) = 0 from rfl] at e
      rw [rollcallref11_Rel_Of.L0, e, rollcallref11_Rel_Of.L1]
      simp only [Option.bind_some, hT.lds, hT.slen]
      rw [if_neg (by omega)]
      rcases hB with ⟨rfl, g⟩ | ⟨j0, rfl, hj, g1, g2, g3, g4⟩
      · rw [if_pos (by omega)]
        refine ⟨y, T, pre, rfl, hP.srt, fun v => ⟨hP.sub v, fun hv' => ?_⟩, hv.rows, fun q hq => hv.lo q hq, hfr⟩
        obtain ⟨j, hj, he⟩ := List.getElem_of_mem hv'
        have := g j hj hj (by rw [he])
        rw [he] at this; exact this
      · obtain ⟨hj', hP', hn'⟩ := hP.add (.inr ⟨j0, rfl, hj, g1, g2, g3, g4⟩) rfl
        obtain ⟨ad, a1, a2, a3⟩ := hT.at_ hj
        have hle := hfr.le
        obtain ⟨y', T2, e2, r2, v2, f2, _, _⟩ := KS.app1_spec L[j0].2 hv hle (by omega)
        rw [if_neg (by omega)]
        simp only [Option.bind_some, hT.lds, a1, a3]
        rw [letv, r2, Option.bind_some, e2, Option.bind_some]
        exact ih T2 y' _ (by simp; omega) (hfr.trans f2) v2 hP'
  rw [rollcallref11_Rel_Of.f]
  exact hloop k S Sl.nil [] (by simp; omega) (Fr.refl _ _) .nil ⟨List.Pairwise.nil, fun v h => (by cases h), fun v _ _ u h => by cases h⟩
end
end Go.Proofs.Ytdgmehfhgppheaa.X
