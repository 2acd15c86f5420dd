/- The layer book: BookPlays, plain. -/
import Derived.Test.YtlfdaflngmkldaaBpSame
namespace Go.Proofs.Ytlfdaflngmkldaa.X
open Go.Proofs.Ytlfdaflngmkldaa.HL
set_option linter.unusedVariables false
set_option maxRecDepth 100000
theorem awake_at (h : Nat → HObj) (m : Nat → Bool) : (rollcalllaw02_awake.f (disp 2000 4) (fun _ => none) 2000 ⟨h, 1, m⟩).map (fun p => (p.1, p.2.heap 0, decide (1 ≤ p.2.next))) = some (true, h 0, true) := by kernel_rfl
theorem awake_spec {S : HS} (hn : S.next = 1) : ∃ S', rollcalllaw02_awake.f (disp 2000 4) (fun _ => none) 2000 S = some (true, S') ∧ Fr 1 S S' := by
  obtain ⟨h, n, m⟩ := S
  obtain rfl : n = 1 := hn
  have e := awake_at h m
  cases hq : rollcalllaw02_awake.f (disp 2000 4) (fun _ => none) 2000 ⟨h, 1, m⟩ with
  | none => rw [hq] at e; cases e
  | some p =>
    rw [hq] at e
    simp only [Option.map_some, Option.some.injEq, Prod.mk.injEq, decide_eq_true_eq] at e
    obtain ⟨e1, e2, e4⟩ := e
    obtain ⟨b, S'⟩ := p
    simp only at e1 e2 e4
    subst e1
    refine ⟨S', rfl, e4, fun id hid => ?_⟩
    obtain rfl : id = 0 := by omega
    exact e2
theorem new_spec {most : Int} {S : HS} (h1 : 0 ≤ most) (h2 : most ≤ 100000) : ∃ S', book_New_int.f most S = some ((some (HA.cell0 S.next), 0), S') ∧ BI S.next Sl.nil most [] S' ∧ Fr S.next S S' ∧ S'.next = S.next + 1 := by
  unfold book_New_int.f
  rw [if_neg (by omega), book_New_int.J0, if_neg (by simp; omega), letv]
  exact ⟨_, rfl, ⟨new_here _ _, .inl ⟨rfl, rfl, rfl⟩, fun q hq => (by cases hq), Nat.lt_succ_self _, List.Pairwise.nil, fun e he => (by cases he), by simp⟩, Fr.new (Nat.le_refl _) _, rfl⟩
theorem new_range {most : Int} {S : HS} (h : most < 0 ∨ 100000 < most) : book_New_int.f most S = some ((none, 2), S) := by
  unfold book_New_int.f
  by_cases h0 : most < 0
  · rw [if_pos h0, book_New_int.J0, if_pos rfl]
  · rw [if_neg h0, book_New_int.J0, if_pos (by simp; omega)]
theorem idx_keep {S S' : HS} {s : Sl} (i : Int) (z : Nat) (hk : ∀ q, s.a = some q → S'.heap q.1 = S.heap q.1) : S'.idx s i z = S.idx s i z := by
  unfold HS.idx
  cases ha : s.a with
  | none => rfl
  | some q => obtain ⟨id, off⟩ := q; simp only [hk _ ha]
abbrev Ac := Int × List UInt8 × Int
def actRow (a : Ac) : List HV := [.int .i64 a.1, .str a.2.1, .int .i64 a.2.2]
theorem act_rows {S : HS} {s : Sl} {xs : List Ac} (h : S.rows s 3 = some (xs.map actRow)) {i : Nat} (hi : i < xs.length) : ∃ ad, S.idx s (i : Int) 3 = some ad ∧ S.ldI .i64 (HA.fld ad 0) = some xs[i].1 ∧ S.ldS (HA.fld ad 1) = some xs[i].2.1 ∧ S.ldI .i64 (HA.fld ad 2) = some xs[i].2.2 := by
  obtain ⟨ad, h1, h2, h3⟩ := rows_idx h (i := i) (by simpa using hi)
  rw [List.getElem_map] at h3
  exact ⟨ad, h1, row_ldI h3 h2 rfl, row_ldS h3 h2 rfl, row_ldI h3 h2 rfl⟩

/-! ### the two lists -/
theorem srt_uniq {es : List En} {t : List UInt8} (hs : Srt es) {a b : En} (ha : a ∈ es) (hb : b ∈ es) (h1 : cmpL a.1 t = 0) (h2 : cmpL b.1 t = 0) : a = b := by
  obtain ⟨i, hi, rfl⟩ := List.getElem_of_mem ha
  obtain ⟨j, hj, rfl⟩ := List.getElem_of_mem hb
  have h3 : cmpL es[i].1 es[j].1 = 0 := by rw [cmpL_eq_left h1, cmpL_anti, h2]; rfl
  rcases Nat.lt_trichotomy i j with h | h | h
  · have := hs.lt hi hj h; omega
  · subst h; rfl
  · have := hs.lt hj hi h; rw [cmpL_anti] at this; omega
theorem agree {es xs : List En} {t : List UInt8} {i : Nat} {j : Int} (hp : PosOf es t i) (hs : Srt es) (hq : es.Perm xs) (hj : IxOf xs t j) :
    (foundAt es t i = false ∧ j = -1) ∨ (foundAt es t i = true ∧ ∃ jn : Nat, j = (jn : Int) ∧ ∃ (hi : i < es.length) (hjn : jn < xs.length), es[i] = xs[jn]) := by
  cases hf : foundAt es t i with
  | false =>
    refine .inl ⟨rfl, ?_⟩
    rcases hj with ⟨h, _⟩ | ⟨jn, rfl, hl, hc⟩
    · exact h
    · exact absurd (by rw [cmpL_anti, hc]; rfl) (none_alike hp hs hf xs[jn] (hq.mem_iff.2 (List.getElem_mem hl)))
  | true =>
    have hi := found_lt hf
    have hc : cmpL es[i].1 t = 0 := by
      simp only [foundAt, List.getElem?_eq_getElem hi, decide_eq_true_eq] at hf
      exact hf
    refine .inr ⟨rfl, ?_⟩
    rcases hj with ⟨h, h2⟩ | ⟨jn, rfl, hl, hc2⟩
    · exact absurd hc (h2 _ (hq.mem_iff.1 (List.getElem_mem hi)))
    · exact ⟨jn, rfl, hi, hl, srt_uniq hs (List.getElem_mem hi) (hq.mem_iff.2 (List.getElem_mem hl)) hc hc2⟩
theorem erase_perm {es : List En} {i : Nat} (hi : i < es.length) : (es[i] :: es.eraseIdx i).Perm es := by
  rw [List.eraseIdx_eq_take_drop_succ]
  have h : es.take i ++ es[i] :: es.drop (i + 1) = es := by rw [← List.drop_eq_getElem_cons hi, List.take_append_drop]
  exact List.perm_middle.symm.trans (by rw [h])
theorem perm_erase {es xs : List En} {i j : Nat} (hq : es.Perm xs) (hi : i < es.length) (hj : j < xs.length) (h : es[i] = xs[j]) : (es.eraseIdx i).Perm (xs.eraseIdx j) := by
  have h1 := erase_perm hi
  have h2 := erase_perm hj
  have h3 := (h1.trans hq).trans h2.symm
  rw [h] at h3
  exact h3.cons_inv
theorem perm_set {es xs : List En} {i j : Nat} (hq : es.Perm xs) (hi : i < es.length) (hj : j < xs.length) (h : es[i] = xs[j]) (a : En) : (es.set i a).Perm (xs.set j a) := by
  have h1 := erase_perm (es := es.set i a) (i := i) (by simpa using hi)
  have h2 := erase_perm (es := xs.set j a) (i := j) (by simpa using hj)
  rw [List.getElem_set_self, List.eraseIdx_set_eq] at h1 h2
  exact h1.symm.trans (((perm_erase hq hi hj h).cons a).trans h2)
theorem perm_put {es xs : List En} {t : List UInt8} {v most : Int} {i : Nat} {j : Int} (hp : PosOf es t i) (hs : Srt es) (hq : es.Perm xs) (hj : IxOf xs t j) : (putL most es i t v).Perm (refPutL most xs j t v) ∧ putR most es i t = refPutR most xs j := by
  rcases agree hp hs hq hj with ⟨hf, rfl⟩ | ⟨hf, jn, rfl, hi, hl, he⟩
  · simp only [putL, refPutL, putR, refPutR, hf, Bool.false_eq_true, if_false, show ¬ ((-1 : Int) ≥ 0) by omega, hq.length_eq, and_true]
    split
    · exact hq
    · have : es = es.take i ++ es.drop i := (List.take_append_drop i es).symm
      rw [List.append_assoc, List.singleton_append]
      refine List.perm_middle.trans ?_
      rw [List.take_append_drop]
      exact (hq.cons _).trans (List.perm_append_singleton _ _).symm
  · simp only [putL, refPutL, putR, refPutR, hf, if_true, show ((jn : Int) ≥ 0) by omega, Int.toNat_natCast, and_true]
    exact perm_set hq hi hl he _
structure TwoB (g p r : Nat) (sp sr : Sl) (most : Int) (es xs : List En) (S : HS) : Prop where
  bi : BI p sp most es S
  ri : RI r sr most xs S
  perm : es.Perm xs
  dis : ∀ id, Own p sp id → ¬ Own r sr id
  lp : ∀ id, Own p sp id → g ≤ id
  lr : ∀ id, Own r sr id → g ≤ id
theorem TwoB.fr {g p r : Nat} {sp sr : Sl} {most : Int} {es xs : List En} {S S' : HS} (h : TwoB g p r sp sr most es xs S) (hf : Fr S.next S S') : TwoB g p r sp sr most es xs S' := ⟨h.bi.fr hf, h.ri.fr hf, h.perm, h.dis, h.lp, h.lr⟩
/-- One of the two is worked on, then the other one. -/
theorem TwoB.step {g p r : Nat} {sp sr sp' sr' : Sl} {most : Int} {es xs es' xs' : List En} {S S1 S2 : HS} (h : TwoB g p r sp sr most es xs S) (hg : g ≤ S.next) (hb : BI p sp' most es' S1) (ho : Only p sp sp' S S1) (hr : RI r sr' most xs' S2) (hq : Only r sr sr' S1 S2) (hperm : es'.Perm xs') :
    TwoB g p r sp' sr' most es' xs' S2 ∧ g ≤ S2.next ∧ ∀ id, id < g → S2.heap id = S.heap id := by
  have hd1 : ∀ id, Own p sp' id → ¬ Own r sr id := fun id h1 h2 => by
    rcases ho.own id h1 with h3 | h3
    · exact h.dis id h3 h2
    · have := h.ri.lt h2; omega
  have l1 := ho.le
  have l2 := hq.le
  refine ⟨⟨hb.keep (fun id h1 => hq.eq id (hb.lt h1) (fun h2 => hd1 id h1 h2)) hq.le, hr, hperm, fun id h1 h2 => ?_, fun id h1 => ?_, fun id h1 => ?_⟩, by omega, fun id hid => ?_⟩
  · rcases hq.own id h2 with h3 | h3
    · exact hd1 id h1 h3
    · have := hb.lt h1; omega
  · rcases ho.own id h1 with h3 | h3
    · exact h.lp id h3
    · omega
  · rcases hq.own id h1 with h3 | h3
    · exact h.lr id h3
    · omega
  · rw [hq.eq id (by omega) (fun h1 => by have := h.lr id h1; omega), ho.eq id (by omega) (fun h1 => by have := h.lp id h1; omega)]

theorem j4_spec {g p r : Nat} {sp sr y1 : Sl} {most : Int} {es xs : List En} {t : List UInt8} {S : HS} {i : Int} {r0 : Sl → List UInt8 → Option HA → Option HA → Int → HS → Option (Bool × HS)} (ht : t.length ≤ 1000) (h : TwoB g p r sp sr most es xs S) :
    ∃ S', rollcalllaw02_BookPlays.J4 (disp 2000 4) (fun _ => none) 2000 r0 y1 t (some (HA.cell0 p)) (some (HA.cell0 r)) i true S = r0 y1 t (some (HA.cell0 p)) (some (HA.cell0 r)) (w64 (i + 1)) S' ∧ Fr S.next S S' := by
  obtain ⟨a, S1, hp, e1, f1⟩ := get_spec (n := 3) (H := fun _ => none) (k := 2000) (Nat.le_refl _) h.bi t
  have h1 := h.fr f1
  obtain ⟨a2, S2, hp2, e2, f2⟩ := name_spec (n := 3) (H := fun _ => none) (k := 2000) (Nat.le_refl _) h1.bi t
  obtain rfl := pos_uniq hp hp2
  have h2 := h1.fr f2
  obtain ⟨j, S3, e3, f3, hj⟩ := refAt_spec (k := 2000) (Nat.le_refl _) h2.ri ht
  have h3 := h2.fr f3
  have hf : Fr S.next S S3 := f1.trans ((f2.mono f1.le).trans (f3.mono (Nat.le_trans f1.le f2.le)))
  have hlen : es.length = xs.length := h.perm.length_eq
  have hlenS : book_Book_int_Len.f (some (HA.cell0 p)) S3 = some ((es.length : Int), S3) := len_spec h3.bi
  have hj5 : rollcalllaw02_BookPlays.J5 (disp 2000 4) (fun _ => none) 2000 r0 y1 t (some (HA.cell0 p)) (some (HA.cell0 r)) i false S3 = r0 y1 t (some (HA.cell0 p)) (some (HA.cell0 r)) (w64 (i + 1)) S3 := by rw [rollcalllaw02_BookPlays.J5, if_neg (by simp)]
  refine ⟨S3, ?_, hf⟩
  rw [rollcalllaw02_BookPlays.J4, e1, Option.bind_some, e2, Option.bind_some, e3, Option.bind_some, if_neg (by simp), hlenS, Option.bind_some, Option.bind_some, row_ldSl h3.ri.row rfl rfl, Option.bind_some, Option.bind_some, if_pos rfl, h3.ri.slen, if_neg (by simp [hlen])]
  simp only
  rcases agree hp h.bi.srt h.perm hj with ⟨hfd, rfl⟩ | ⟨hfd, jn, rfl, hi, hl, he⟩
  · rw [hfd]
    simp only [Bool.false_eq_true, if_false]
    rw [if_neg (by simp), if_neg (by simp), if_pos (by simp), if_neg (by simp)]
    simp only [decide_true, Bool.not_true]
    exact hj5
  · rw [hfd]
    obtain ⟨ad, c1, c2, c3⟩ := en_rows h3.ri.vec.rows hl
    simp only [if_true]
    rw [if_neg (by simp), if_neg (by simp), Option.bind_some, row_ldSl h3.ri.row rfl rfl, Option.bind_some, c1, Option.bind_some, c3, Option.bind_some]
    rw [if_neg (by simp [hi, he]), Option.bind_some, row_ldSl h3.ri.row rfl rfl, Option.bind_some, c1, Option.bind_some, c2, Option.bind_some, if_neg (by simp [hi, he]), if_neg (by decide)]
    exact hj5
theorem putL_len {most : Int} {es : List En} {i : Nat} {t : List UInt8} {v : Int} : (putL most es i t v).length ≤ es.length + 1 := by
  unfold putL
  split
  · simp
  · split
    · omega
    · simp only [List.length_append, List.length_take, List.length_drop, List.length_singleton]; omega
theorem plays_loop {g p r : Nat} {y1 : Sl} {most : Int} {t : List UInt8} {B : HS} {ls : List Ac} (ht : t.length ≤ 30) (hls : ls.length ≤ 40) (h30 : ∀ a ∈ ls, a.2.1.length ≤ 30) (hrows : B.rows y1 3 = some (ls.map actRow)) (hy : ∀ q, y1.a = some q → q.1 < g) :
    ∀ (f i : Nat) (T : HS) (sp sr : Sl) (es xs : List En), ls.length - i < f → i ≤ ls.length → TwoB g p r sp sr most es xs T → g ≤ T.next → es.length ≤ i → (∀ id, id < g → T.heap id = B.heap id) →
    ∃ T', rollcalllaw02_BookPlays.L3 (disp 2000 4) (fun _ => none) 2000 f y1 t (some (HA.cell0 p)) (some (HA.cell0 r)) (i : Int) T = some (true, T') := by
  intro f
  induction f with
  | zero => intro i T sp sr es xs h; omega
  | succ f ih =>
    intro i T sp sr es xs hf hi h hg hc hk
    have hr : T.rows y1 3 = some (ls.map actRow) := rows_keep hrows fun q hq => hk _ (hy q hq)
    have hsl : (y1.len : Int) = ls.length := by rw [← rows_len hr]; simp
    have hxc : xs.length = es.length := h.perm.length_eq.symm
    rw [rollcalllaw02_BookPlays.L3, hsl]
    by_cases hlt : i < ls.length
    · obtain ⟨ad, a1, a2, a3, a4⟩ := act_rows hr hlt
      have hn30 := h30 _ (List.getElem_mem hlt)
      have hend : ∀ (T2 : HS) (sp' sr' : Sl) (es' xs' : List En), TwoB g p r sp' sr' most es' xs' T2 → g ≤ T2.next → es'.length ≤ i + 1 → (∀ id, id < g → T2.heap id = T.heap id) → ∃ T', rollcalllaw02_BookPlays.J4 (disp 2000 4) (fun _ => none) 2000 (rollcalllaw02_BookPlays.L3 (disp 2000 4) (fun _ => none) 2000 f) y1 t (some (HA.cell0 p)) (some (HA.cell0 r)) (i : Int) true T2 = some (true, T') := by
        intro T2 sp' sr' es' xs' h2 hg2 hc2 hk2
        obtain ⟨T3, e3, f3⟩ := j4_spec (i := (i : Int)) (y1 := y1) (r0 := rollcalllaw02_BookPlays.L3 (disp 2000 4) (fun _ => none) 2000 f) (show t.length ≤ 1000 by omega) h2
        have := f3.le
        rw [e3, w64_id (by omega) (by omega), show ((i : Int) + 1) = ((i + 1 : Nat) : Int) by simp]
        exact ih (i + 1) T3 sp' sr' es' xs' (by omega) (by omega) (h2.fr f3) (by omega) hc2 (fun id hid => by rw [f3.eq id (by omega), hk2 id hid, hk id hid])
      rw [if_pos (by omega), a1, Option.bind_some, a2, Option.bind_some]
      by_cases hk1 : ls[i].1 = 1
      · obtain ⟨a, sp', S1, hp, e1, b1, o1⟩ := delete_spec (n := 3) (H := fun _ => none) (k := 2000) (Nat.le_refl _) h.bi ls[i].2.1
        have hk1' : ∀ q, y1.a = some q → S1.heap q.1 = T.heap q.1 := fun q hq => o1.eq q.1 (by have := hy q hq; omega) (fun ho => by have := h.lp _ ho; have := hy q hq; omega)
        have hr1 : S1.rows y1 3 = some (ls.map actRow) := rows_keep hr hk1'
        obtain ⟨ad1, c1, c2, c3, c4⟩ := act_rows hr1 hlt
        rw [idx_keep _ _ hk1', a1] at c1
        cases c1
        have hri1 : RI r sr most xs S1 := h.ri.keep (fun id ho => o1.eq id (h.ri.lt ho) (fun h2 => h.dis id h2 ho)) o1.le
        obtain ⟨j, sr', S2, e2, hj, r2, o2⟩ := refDelete_spec (k := 2000) (t := ls[i].2.1) (Nat.le_refl _) hri1 (by omega)
        have heq : (foundAt es ls[i].2.1 a == decide (j ≥ 0)) = true ∧ (if foundAt es ls[i].2.1 a then es.eraseIdx a else es).Perm (if j ≥ 0 then xs.eraseIdx j.toNat else xs) := by
          rcases agree hp h.bi.srt h.perm hj with ⟨hfd, rfl⟩ | ⟨hfd, jn, rfl, hi2, hl, he⟩
          · rw [hfd]; exact ⟨by decide, h.perm⟩
          · rw [hfd, if_pos rfl, if_pos (by omega)]
            exact ⟨by simp, perm_erase h.perm hi2 hl he⟩
        obtain ⟨t1, t2, t3⟩ := h.step hg b1 o1 r2 o2 heq.2
        rw [if_pos hk1, Option.bind_some, a3, Option.bind_some, e1, Option.bind_some]
        simp only
        rw [idx_keep _ _ hk1', a1, Option.bind_some, Option.bind_some, if_pos rfl, c3, Option.bind_some, a3, Option.bind_some, if_pos rfl, e2, Option.bind_some]
        simp only [heq.1]
        refine hend S2 sp' sr' _ _ t1 t2 ?_ t3
        split
        · rw [List.length_eraseIdx]; split <;> omega
        · omega
      · obtain ⟨a, sp', S1, hp, e1, b1, o1⟩ := put_spec (n := 3) (H := fun _ => none) (k := 2000) (Nat.le_refl _) h.bi (by omega) ls[i].2.1 ls[i].2.2 (by omega)
        have hk1' : ∀ q, y1.a = some q → S1.heap q.1 = T.heap q.1 := fun q hq => o1.eq q.1 (by have := hy q hq; omega) (fun ho => by have := h.lp _ ho; have := hy q hq; omega)
        have hr1 : S1.rows y1 3 = some (ls.map actRow) := rows_keep hr hk1'
        obtain ⟨ad1, c1, c2, c3, c4⟩ := act_rows hr1 hlt
        rw [idx_keep _ _ hk1', a1] at c1
        cases c1
        have hri1 : RI r sr most xs S1 := h.ri.keep (fun id ho => o1.eq id (h.ri.lt ho) (fun h2 => h.dis id h2 ho)) o1.le
        obtain ⟨j, sr', S2, e2, hj, r2, o2⟩ := refPut_spec (k := 2000) (t := ls[i].2.1) (v := ls[i].2.2) (Nat.le_refl _) hri1 (by omega) (by omega)
        obtain ⟨hperm, hres⟩ := perm_put (v := ls[i].2.2) (most := most) hp h.bi.srt h.perm hj
        obtain ⟨t1, t2, t3⟩ := h.step hg b1 o1 r2 o2 hperm
        rw [if_neg hk1, Option.bind_some, a3, Option.bind_some, Option.bind_some, a4, Option.bind_some, e1, Option.bind_some]
        simp only
        rw [idx_keep _ _ hk1', a1, Option.bind_some, Option.bind_some, if_pos rfl, c3, Option.bind_some, a3, Option.bind_some, if_pos rfl, Option.bind_some, Option.bind_some, if_pos rfl, c4, Option.bind_some, a4, Option.bind_some, if_pos rfl, e2, Option.bind_some, decide_eq_true hres]
        exact hend S2 sp' sr' _ _ t1 t2 (by have := putL_len (most := most) (es := es) (i := a) (t := ls[i].2.1) (v := ls[i].2.2); omega) t3
    · rw [if_neg (by omega)]
      have hcnt := h.bi.cnt
      obtain ⟨w1, S1, e1, r1, q1, f1⟩ := from_spec2 (k := 2000) (t := []) (all := true) (W := es) (Nat.le_refl _) (by simp) h.ri h.bi.srt (fun e => ⟨fun he => ⟨h.perm.mem_iff.1 he, .inl rfl⟩, fun he => h.perm.mem_iff.2 he.1⟩) hcnt
      have h1 := h.fr f1
      obtain ⟨a, S2, hp, e2, f2⟩ := same_spec (n := 2) (k := 2000) (t := []) (all := true) (Nat.le_refl _) h1.bi r1 (by omega)
      have h2 := h1.fr f2
      rw [e1, Option.bind_some, e2, Option.bind_some, if_pos (by simp)]
      obtain ⟨a3, S2', e3', hp3, f3'⟩ := at_spec (n := 3) (H := fun _ => none) (k := 2000) (Nat.le_refl _) h2.bi t
      obtain ⟨w3, S3, e3, r3, q3, f3⟩ := from_spec2 (k := 2000) (t := t) (all := false) (W := es.drop a3) (Nat.le_refl _) (by omega) h2.ri (List.Pairwise.sublist (List.drop_sublist _ _) h.bi.srt) (fun e => by
        constructor
        · intro he
          refine ⟨h.perm.mem_iff.1 (List.mem_of_mem_drop he), .inr ?_⟩
          obtain ⟨x, hx, rfl⟩ := List.getElem_of_mem he
          rw [List.getElem_drop]
          exact hp3.hi _ (by rw [List.length_drop] at hx; omega) (by omega)
        · rintro ⟨he, hps⟩
          have hps : ¬ cmpL e.1 t < 0 := by
            rcases hps with g | g
            · cases g
            · exact g
          obtain ⟨x, hx, rfl⟩ := List.getElem_of_mem (h.perm.mem_iff.2 he)
          rcases Nat.lt_or_ge x a3 with g | g
          · exact absurd (hp3.lo x hx g) hps
          · rw [List.mem_drop_iff_getElem]
            exact ⟨x - a3, by omega, by simp only [show a3 + (x - a3) = x by omega]⟩) (by rw [List.length_drop]; omega)
      have h3 := h2.fr f3
      obtain ⟨a4, S4, hp4, e4, f4⟩ := same_spec (n := 2) (k := 2000) (t := t) (all := false) (Nat.le_refl _) h3.bi r3 (by rw [List.length_drop]; omega)
      obtain rfl := pos_uniq hp3 hp4
      simp only
      rw [e3, Option.bind_some, e4, Option.bind_some, rollcalllaw02_BookPlays.J6]
      exact ⟨S4, by simp⟩
theorem great_spec {S : HS} {s : Sl} {ls : List Ac} (hr : S.rows s 3 = some (ls.map actRow)) : ∃ b, rollcalllaw02_great.f 2000 s S = some (b, S) ∧ (b = false → ls.length ≤ 40 ∧ ∀ a ∈ ls, a.2.1.length ≤ 30) := by
  have hsl : (s.len : Int) = ls.length := by rw [← rows_len hr]; simp
  rw [rollcalllaw02_great.f, hsl]
  by_cases h40 : 40 < ls.length
  · rw [if_pos (by omega)]; exact ⟨true, rfl, fun h => by cases h⟩
  rw [if_neg (by omega)]
  have hloop : ∀ f i, ls.length - i < f → i ≤ ls.length → (∀ q (h : q < ls.length), q < i → ls[q].2.1.length ≤ 30) → ∃ b, rollcalllaw02_great.L0 2000 f s (i : Int) S = some (b, S) ∧ (b = false → ls.length ≤ 40 ∧ ∀ a ∈ ls, a.2.1.length ≤ 30) := by
    intro f
    induction f with
    | zero => intro i h; omega
    | succ f ih =>
      intro i hf hi h
      rw [rollcalllaw02_great.L0, hsl]
      by_cases hlt : i < ls.length
      · obtain ⟨ad, a1, a2, a3, a4⟩ := act_rows hr hlt
        rw [if_pos (by omega), a1, Option.bind_some, a3, Option.bind_some]
        by_cases hl : 30 < ls[i].2.1.length
        · rw [if_pos (by omega)]; exact ⟨true, rfl, fun h => by cases h⟩
        · rw [if_neg (by omega), w64_id (by omega) (by omega), show ((i : Int) + 1) = ((i + 1 : Nat) : Int) by simp]
          refine ih (i + 1) (by omega) (by omega) (fun q hq hqi => ?_)
          rcases Nat.lt_or_ge q i with g | g
          · exact h q hq g
          · obtain rfl : q = i := by omega
            omega
      · rw [if_neg (by omega)]
        refine ⟨false, rfl, fun _ => ⟨by omega, fun a ha => ?_⟩⟩
        obtain ⟨q, hq, rfl⟩ := List.getElem_of_mem ha
        exact h q hq (by omega)
  exact hloop 2000 0 (by omega) (Nat.zero_le _) (fun q hq h => by omega)
theorem bookPlays_law {S : HS} {sl : Sl} {ls : List Ac} {most : Int} {t : List UInt8} (hn : S.next = 1) (hrd : Rd S.next S 3 sl (ls.map actRow)) : ∃ S', rollcalllaw02_BookPlays.f (disp 2000 4) (fun _ => none) 2000 most sl t S = some (true, S') := by
  rw [rollcalllaw02_BookPlays.f]
  obtain ⟨A, e1, f1⟩ := awake_spec hn
  have l1 := f1.le
  have hrd1 : Rd 1 A 3 sl (ls.map actRow) := (hn ▸ hrd).frame f1 (Nat.le_refl _)
  obtain ⟨b, e2, hb⟩ := great_spec hrd1.rows
  rw [e1, Option.bind_some, if_neg (by simp), e2, Option.bind_some]
  have hout : rollcalllaw02_BookPlays.J0 (disp 2000 4) (fun _ => none) 2000 most sl t true A = some (true, A) := by rw [rollcalllaw02_BookPlays.J0, if_pos rfl]
  cases b with
  | true => rw [if_pos rfl]; exact ⟨A, hout⟩
  | false =>
    obtain ⟨h40, h30⟩ := hb rfl
    rw [if_neg (by simp)]
    by_cases ht : 30 < t.length
    · rw [decide_eq_true (by omega)]; exact ⟨A, hout⟩
    rw [decide_eq_false (by omega), rollcalllaw02_BookPlays.J0, if_neg (by simp)]
    by_cases hr : most < 0 ∨ 100000 < most
    · rw [new_range hr, Option.bind_some]
      have hj1 : rollcalllaw02_BookPlays.J1 (disp 2000 4) (fun _ => none) 2000 most sl t none 2 true A = some (true, A) := by
        rw [rollcalllaw02_BookPlays.J1, if_pos rfl, if_pos rfl, rollcalllaw02_BookPlays.J2]; rfl
      by_cases h0 : most < 0
      · rw [if_pos h0]; exact ⟨A, hj1⟩
      · rw [if_neg h0, decide_eq_true (by omega)]; exact ⟨A, hj1⟩
    · obtain ⟨B, e3, b3, f3, n3⟩ := new_spec (most := most) (S := A) (by omega) (by omega)
      rw [e3, Option.bind_some, if_neg (by omega), decide_eq_false (by omega), rollcalllaw02_BookPlays.J1, if_neg (by simp), if_neg (by simp), letv]
      have f4 : Fr B.next B (B.new (.cells 2 [[.int .i64 most, Sl.nil.hv]] true)) := Fr.new (Nat.le_refl _) _
      have hri : RI B.next Sl.nil most [] (B.new (.cells 2 [[.int .i64 most, Sl.nil.hv]] true)) := ⟨new_here _ _, .nil, fun q hq => (by cases hq), Nat.lt_succ_self _, fun e he => (by cases he), by simp⟩
      have htwo : TwoB A.next A.next B.next Sl.nil Sl.nil most [] [] (B.new (.cells 2 [[.int .i64 most, Sl.nil.hv]] true)) := by
        refine ⟨b3.fr f4, hri, List.Perm.nil, fun id h1 h2 => ?_, fun id h1 => ?_, fun id h1 => ?_⟩
        · rcases h1 with rfl | ⟨q, h, _⟩
          · rcases h2 with h | ⟨q, h, _⟩
            · omega
            · cases h
          · cases h
        · rcases h1 with rfl | ⟨q, h, _⟩
          · exact Nat.le_refl _
          · cases h
        · rcases h1 with rfl | ⟨q, h, _⟩
          · omega
          · cases h
      have hrd4 : Rd 1 (B.new (.cells 2 [[.int .i64 most, Sl.nil.hv]] true)) 3 sl (ls.map actRow) := (hrd1.frame f3 (by omega)).frame f4 (by omega)
      exact plays_loop (g := A.next) (by omega) h40 h30 hrd4.rows (fun q hq => by have := hrd4.lt q hq; omega) 2000 0 _ Sl.nil Sl.nil [] [] (by omega) (Nat.zero_le _) htwo (show A.next ≤ B.next + 1 by omega) (by simp) (fun _ _ => rfl)
theorem rows_acts : ∀ {rows : List (List HV)}, (∀ row ∈ rows, RowFits [.int .i64, .str, .int .i64] row) → ∃ ls : List Ac, rows = ls.map actRow := by
  intro rows
  induction rows with
  | nil => intro _; exact ⟨[], rfl⟩
  | cons r rows ih =>
    intro h
    obtain ⟨ls, e⟩ := ih fun row hr => h row (by simp [hr])
    have h0 := h r (by simp)
    have hl := h0.len
    obtain ⟨v0, v1, v2, rfl⟩ : ∃ v0 v1 v2, r = [v0, v1, v2] := by
      match r, hl with
      | [a, b, c], _ => exact ⟨a, b, c, rfl⟩
    obtain ⟨q0, q1, q2, _⟩ := h0
    obtain ⟨n, h1, _⟩ := q0
    obtain ⟨s, h2, _⟩ := q1
    obtain ⟨m, h3, _⟩ := q2
    exact ⟨(n, s, m) :: ls, by rw [e, h1, h2, h3]; rfl⟩
theorem bookPlays_call (W : World) (β0 : Bt) (S : HS) (most : Int) (w0 : (Lit.int .i64 most).wf = true) (s1 : Sl) (rows1 : List (List HV)) (h1 : ArgSl S 3 s1 rows1) (f1 : ∀ row ∈ rows1, RowFits [.int .i64, .str, .int .i64] row) (t : List UInt8) (hn : S.next = 1 := by rfl) :
    HCall Try.prog W.heap.size W β0 5 [.int .i64 most, s1.hv, .str t] S (fun v _ => v = .bool true) := by
  obtain ⟨ls, rfl⟩ := rows_acts f1
  obtain ⟨_, h⟩ := bookPlays_law (most := most) (t := t) hn h1.rd
  exact (rollcalllaw02_BookPlays.snd (disp_snd 4) (fun _ _ h => by cases h) h).mono fun _ _ h => h.1
end Go.Proofs.Ytlfdaflngmkldaa.X
