/- The layer timer: TimerPlays, plain. -/
import Derived.Test.YtlfdfkldolgkoaaTpSame
namespace Go.Proofs.Ytlfdfkldolgkoaa.X
open Go.Proofs.Ytlfdfkldolgkoaa.HL
set_option linter.unusedVariables false
set_option maxRecDepth 100000
theorem awake_at (h : Nat → HObj) (m : Nat → Bool) : (rollcalllaw09_awake.f (disp 2000 4) (fun _ => none) 2000 ⟨h, 1, m⟩).map (fun p => (p.1, p.2.heap 0, decide (1 ≤ p.2.next))) = some (true, h 0, true) := by kernel_rfl
theorem awake_spec {S : HS} (hn : S.next = 1) : ∃ S', rollcalllaw09_awake.f (disp 2000 4) (fun _ => none) 2000 S = some (true, S') ∧ Fr 1 S S' := by
  obtain ⟨h, n, m⟩ := S
  obtain rfl : n = 1 := hn
  have e := awake_at h m
  cases hq : rollcalllaw09_awake.f (disp 2000 4) (fun _ => none) 2000 ⟨h, 1, m⟩ with
  | none => rw [hq] at e; cases e
  | some p =>
    rw [hq] at e
    simp only [Option.map_some, Option.some.injEq, Prod.mk.injEq, decide_eq_true_eq] at e
    obtain ⟨e1, e2, e4⟩ := e
    obtain ⟨b, S'⟩ := p
    simp only at e1 e2 e4
    subst e1
    refine ⟨S', rfl, e4, fun id hid => ?_⟩
    obtain rfl : id = 0 := by omega
    exact e2
theorem idx_keep {S S' : HS} {s : Sl} (i : Int) (z : Nat) (hk : ∀ q, s.a = some q → S'.heap q.1 = S.heap q.1) : S'.idx s i z = S.idx s i z := by
  unfold HS.idx
  cases ha : s.a with
  | none => rfl
  | some q => obtain ⟨id, off⟩ := q; simp only [hk _ ha]
abbrev Ac := Int × List UInt8 × Int
def actRow (a : Ac) : List HV := [.int .i64 a.1, .str a.2.1, .int .i64 a.2.2]
theorem act_rows {S : HS} {s : Sl} {xs : List Ac} (h : S.rows s 3 = some (xs.map actRow)) {i : Nat} (hi : i < xs.length) : ∃ ad, S.idx s (i : Int) 3 = some ad ∧ S.ldI .i64 (HA.fld ad 0) = some xs[i].1 ∧ S.ldS (HA.fld ad 1) = some xs[i].2.1 ∧ S.ldI .i64 (HA.fld ad 2) = some xs[i].2.2 := by
  obtain ⟨ad, h1, h2, h3⟩ := rows_idx h (i := i) (by simpa using hi)
  rw [List.getElem_map] at h3
  exact ⟨ad, h1, row_ldI h3 h2 rfl, row_ldS h3 h2 rfl, row_ldI h3 h2 rfl⟩

theorem great_spec {S : HS} {s : Sl} {ls : List Ac} (hr : S.rows s 3 = some (ls.map actRow)) : ∃ b, rollcalllaw09_great.f 2000 s S = some (b, S) ∧ (b = false → ls.length ≤ 40 ∧ ∀ a ∈ ls, a.2.1.length ≤ 20) := by
  have hsl : (s.len : Int) = ls.length := by rw [← rows_len hr]; simp
  rw [rollcalllaw09_great.f, hsl]
  by_cases h40 : 40 < ls.length
  · rw [if_pos (by omega)]; exact ⟨true, rfl, fun h => by cases h⟩
  rw [if_neg (by omega)]
  have hloop : ∀ f i, ls.length - i < f → i ≤ ls.length → (∀ q (h : q < ls.length), q < i → ls[q].2.1.length ≤ 20) → ∃ b, rollcalllaw09_great.L0 2000 f s (i : Int) S = some (b, S) ∧ (b = false → ls.length ≤ 40 ∧ ∀ a ∈ ls, a.2.1.length ≤ 20) := by
    intro f
    induction f with
    | zero => intro i h; omega
    | succ f ih =>
      intro i hf hi h
      rw [rollcalllaw09_great.L0, hsl]
      by_cases hlt : i < ls.length
      · obtain ⟨ad, a1, a2, a3, a4⟩ := act_rows hr hlt
        rw [if_pos (by omega), a1, Option.bind_some, a3, Option.bind_some]
        by_cases hl : 20 < ls[i].2.1.length
        · rw [if_pos (by omega)]; exact ⟨true, rfl, fun h => by cases h⟩
        · rw [if_neg (by omega), w64_id (by omega) (by omega), show ((i : Int) + 1) = ((i + 1 : Nat) : Int) by simp]
          refine ih (i + 1) (by omega) (by omega) (fun q hq hqi => ?_)
          rcases Nat.lt_or_ge q i with g | g
          · exact h q hq g
          · obtain rfl : q = i := by omega
            omega
      · rw [if_neg (by omega)]
        refine ⟨false, rfl, fun _ => ⟨by omega, fun a ha => ?_⟩⟩
        obtain ⟨q, hq, rfl⟩ := List.getElem_of_mem ha
        exact h q hq (by omega)
  exact hloop 2000 0 (by omega) (Nat.zero_le _) (fun q hq h => by omega)

/-- The table, and the document's. -/
structure TwoT (g t r p : Nat) (s sr : Sl) (es ml : List It) (S : HS) : Prop where
  ti : TI t r s es ml S
  ri : RI p sr ml S
  dis : ∀ id, Own t r s id → ¬ OwnR p sr id
  lp : ∀ id, Own t r s id → g ≤ id
  lr : ∀ id, OwnR p sr id → g ≤ id
  mx : ∀ e ∈ ml, e.2 ≤ 9223372036854775807
theorem TwoT.fr {g t r p : Nat} {s sr : Sl} {es ml : List It} {S S' : HS} (h : TwoT g t r p s sr es ml S) (hf : Fr S.next S S') : TwoT g t r p s sr es ml S' := ⟨h.ti.fr hf, h.ri.fr hf, h.dis, h.lp, h.lr, h.mx⟩
theorem TwoT.step {g t r p : Nat} {s sr s' sr' : Sl} {es ml es' ml' : List It} {S S1 S2 : HS} (h : TwoT g t r p s sr es ml S) (hg : g ≤ S.next) (hb : TI t r s' es' ml' S1) (ho : Only t r s s' S S1) (hr : RI p sr' ml' S2) (hq : OnlyR p sr sr' S1 S2) (hmx : ∀ e ∈ ml', e.2 ≤ 9223372036854775807) :
    TwoT g t r p s' sr' es' ml' S2 ∧ g ≤ S2.next ∧ ∀ id, id < g → S2.heap id = S.heap id := by
  have hd1 : ∀ id, Own t r s' id → ¬ OwnR p sr id := fun id h1 h2 => by
    rcases ho.own id h1 with h3 | h3
    · exact h.dis id h3 h2
    · have := h.ri.lt h2; omega
  have l1 := ho.le
  have l2 := hq.le
  refine ⟨⟨hb.keep (fun id h1 => hq.eq id (hb.lt h1) (fun h2 => hd1 id h1 h2)) hq.le, hr, fun id h1 h2 => ?_, fun id h1 => ?_, fun id h1 => ?_, hmx⟩, by omega, fun id hid => ?_⟩
  · rcases hq.own id h2 with h3 | h3
    · exact hd1 id h1 h3
    · have := hb.lt h1; omega
  · rcases ho.own id h1 with h3 | h3
    · exact h.lp id h3
    · omega
  · rcases hq.own id h1 with h3 | h3
    · exact h.lr id h3
    · omega
  · rw [hq.eq id (by omega) (fun h1 => by have := h.lr id h1; omega), ho.eq id (by omega) (fun h1 => by have := h.lp id h1; omega)]
theorem TwoT.refOk {g t r p : Nat} {s sr s' : Sl} {es ml : List It} {S S1 : HS} (h : TwoT g t r p s sr es ml S) (ho : Only t r s s' S S1) : RI p sr ml S1 := h.ri.keep (fun id h1 => ho.eq id (h.ri.lt h1) (fun h2 => h.dis id h2 h1)) ho.le
theorem ref_due {p : Nat} {sr : Sl} {es ml : List It} {S : HS} (h : RI p sr ml S) (hs : Srt es) (hp : es.Perm ml) (now : Int) :
    ∃ so S', rollcallref09_Table_Due.f 2000 (some (HA.cell0 p)) now S = some (so, S') ∧ Rd S'.next S' 2 so ((dueL now es).map itRow) ∧ (∀ q, so.a = some q → S.next ≤ q.1) ∧ Fr S.next S S' := by
  have hcnt := h.cnt
  have hl : (dueL now es).length ≤ es.length := List.length_filter_le _ _
  have := hp.length_eq
  exact refDue_spec (Nat.le_refl _) h (List.Pairwise.sublist List.filter_sublist hs) (fun e => by
    unfold dueL
    rw [List.mem_filter, hp.mem_iff]
    simp) (by omega)
theorem j1_spec {g t r p a : Nat} {s sr y0 : Sl} {es ml : List It} {now : Int} {S : HS} {i : Int} {ac : Ac} {r0 : Sl → Int → Option HA → Option HA → Int → HS → Option (Bool × HS)} (h : TwoT g t r p s sr es ml S) (ha : S.heap a = .cells 3 [actRow ac] true) :
    ∃ S', rollcalllaw09_TimerPlays.J1 (disp 2000 4) (fun _ => none) 2000 r0 y0 now (some (HA.cell0 t)) (some (HA.cell0 p)) i (some (HA.cell0 a)) S = r0 y0 now (some (HA.cell0 t)) (some (HA.cell0 p)) (w64 (i + 1)) S' ∧ Fr S.next S S' := by
  have hrow := cell_row ha
  obtain ⟨j, e3, hj⟩ := refAt_spec (k := 2000) (t := ac.2.1) (Nat.le_refl _) h.ri
  obtain ⟨so, S1, e4, r4, _, f4⟩ := ref_due h.ri h.ti.srt h.ti.perm now
  have h1 := h.fr f4
  obtain ⟨S2, e5, f5⟩ := same_spec (n := 2) (k := 2000) (now := now) (ys := dueL now es) (Nat.le_refl _) h1.ti r4 (Nat.le_trans (List.length_filter_le _ _) (by have := h.ti.elen; have := h.ti.cnt; omega))
  rw [decide_eq_true rfl] at e5
  have f' : Fr S.next S S2 := f4.trans (f5.mono f4.le)
  have hfin : ∃ S', rollcalllaw09_TimerPlays.J2 (disp 2000 4) (fun _ => none) 2000 r0 y0 now (some (HA.cell0 t)) (some (HA.cell0 p)) i false S2 = r0 y0 now (some (HA.cell0 t)) (some (HA.cell0 p)) (w64 (i + 1)) S' ∧ Fr S.next S S' := ⟨S2, by rw [rollcalllaw09_TimerPlays.J2, if_neg (by simp)], f'⟩
  have htl := tlen_spec h.ti
  rw [rollcalllaw09_TimerPlays.J1, Option.bind_some, row_ldS hrow rfl rfl, Option.bind_some]
  rcases at_spec h.ti ac.2.1 with ⟨e1, hno⟩ | ⟨jn, hjn, hkj, e1⟩
  · have hj0 : j = -1 := by
      rcases hj with ⟨g, _⟩ | ⟨i, rfl, hi, hc⟩
      · exact g
      · exact absurd hc (hno _ (List.getElem_mem hi))
    subst hj0
    rw [e1, Option.bind_some, Option.bind_some]
    simp only
    rw [row_ldS hrow rfl rfl, Option.bind_some, e3, Option.bind_some, htl, Option.bind_some, Option.bind_some, row_ldSl h.ri.row rfl rfl, Option.bind_some, Option.bind_some, if_pos rfl, h.ri.slen, if_neg (by simp)]
    simp only
    rw [if_neg (by simp), if_neg (by simp), if_pos (by simp), if_neg (by simp), e4, Option.bind_some, e5, Option.bind_some]
    exact hfin
  · obtain ⟨i', rfl, hi', hc'⟩ : ∃ i : Nat, j = (i : Int) ∧ ∃ h : i < ml.length, ml[i].1 = ac.2.1 := by
      rcases hj with ⟨_, g⟩ | g
      · exact absurd hkj (g _ (List.getElem_mem hjn))
      · exact g
    have heq : ml[i'] = ml[jn] := dst_uniq h.ti.dst (List.getElem_mem _) (List.getElem_mem _) (hc'.trans hkj.symm)
    obtain ⟨ad, c1, c2, c3⟩ := it_rows h.ri.vec.rows hi'
    rw [e1, Option.bind_some, Option.bind_some]
    simp only
    rw [row_ldS hrow rfl rfl, Option.bind_some, e3, Option.bind_some, htl, Option.bind_some, Option.bind_some, row_ldSl h.ri.row rfl rfl, Option.bind_some, Option.bind_some, if_pos rfl, h.ri.slen, if_neg (by simp)]
    simp only
    rw [if_neg (by simp), if_pos trivial, Option.bind_some, row_ldSl h.ri.row rfl rfl, Option.bind_some, c1, Option.bind_some, c3, Option.bind_some, heq, if_neg (by simp), if_neg (by simp), e4, Option.bind_some, e5, Option.bind_some]
    exact hfin
theorem stopL_mem {ml : List It} {k : Ky} {e : It} (h : e ∈ stopL ml k) : e ∈ ml := (List.mem_filter.1 h).1
/-- What was taken is stopped in the document's table, too. -/
theorem l3_spec {g t r p a : Nat} {s y0 got due : Sl} {es ml W : List It} {now : Int} {i0 : Int} {ac : Ac} {r0 : Sl → Int → Option HA → Option HA → Int → HS → Option (Bool × HS)} (hWl : W.length ≤ 1000) (hd : Dst ml) :
    ∀ (f i : Nat) (T : HS) (sr : Sl), W.length - i < f → i ≤ W.length → g ≤ T.next → TI t r s es (foldStop W ml) T → RI p sr (foldStop (W.take i) ml) T → (∀ id, Own t r s id → ¬ OwnR p sr id) → (∀ id, Own t r s id → g ≤ id) → (∀ id, OwnR p sr id → g ≤ id) → (∀ e ∈ ml, e.2 ≤ 9223372036854775807) →
      T.rows got 1 = some (W.map fun e => [kv e.1]) → T.rows due 2 = some (W.map itRow) → (∀ q, got.a = some q → ¬ OwnR p sr q.1 ∧ q.1 < T.next) → (∀ q, due.a = some q → ¬ OwnR p sr q.1 ∧ q.1 < T.next) → T.heap a = .cells 3 [actRow ac] true → a < T.next → ¬ OwnR p sr a →
      ∃ T' sr', rollcalllaw09_TimerPlays.L3 (disp 2000 4) (fun _ => none) 2000 r0 f y0 now (some (HA.cell0 t)) (some (HA.cell0 p)) i0 (some (HA.cell0 a)) got due (i : Int) T = rollcalllaw09_TimerPlays.J1 (disp 2000 4) (fun _ => none) 2000 r0 y0 now (some (HA.cell0 t)) (some (HA.cell0 p)) i0 (some (HA.cell0 a)) T' ∧
        TwoT g t r p s sr' es (foldStop W ml) T' ∧ T'.heap a = .cells 3 [actRow ac] true ∧ T.next ≤ T'.next ∧ g ≤ T'.next ∧ (∀ id, id < g → T'.heap id = T.heap id) := by
  intro f
  induction f with
  | zero => intro i T sr h; omega
  | succ f ih =>
    intro i T sr hf hi hg hti hri hdis hlp hlr hmx hgot hdue hgo hdo hac hacl haco
    have hl : (due.len : Int) = W.length := by rw [← rows_len hdue]; simp
    rw [rollcalllaw09_TimerPlays.L3, hl]
    by_cases hlt : i < W.length
    · obtain ⟨ad1, a1, a2, a3⟩ := rows_idx hgot (i := i) (by simpa using hlt)
      have hv1 : T.ldS ad1 = some W[i].1 := by
        have := row_ldS (j := 0) (s := W[i].1) a3 a2 (by simp [kv])
        obtain ⟨b1, b2, b3⟩ := ad1
        simp only at a2
        subst a2
        exact this
      obtain ⟨ad2, c1, c2, c3⟩ := it_rows hdue hlt
      have hdst : Dst (foldStop (W.take i) ml) := by rw [foldStop_filter]; exact List.Pairwise.sublist List.filter_sublist hd
      obtain ⟨j, sr', T1, e1, hj, r1, o1⟩ := refStop_spec (k := 2000) (t := W[i].1) (Nat.le_refl _) hri hdst
      have hle := o1.le
      have hfold : stopL (foldStop (W.take i) ml) W[i].1 = foldStop (W.take (i + 1)) ml := by
        unfold foldStop
        rw [List.take_succ_eq_append_getElem hlt, List.foldl_append]
        rfl
      rw [hfold] at r1
      rw [if_pos (by omega), a1, Option.bind_some, hv1, Option.bind_some, c1, Option.bind_some, c2, Option.bind_some, if_neg (by simp), Option.bind_some, c2, Option.bind_some, e1, Option.bind_some, w64_id (by omega) (by omega), show ((i : Int) + 1) = ((i + 1 : Nat) : Int) by simp]
      have hno : ∀ id, id < T.next → ¬ OwnR p sr id → ¬ OwnR p sr' id := fun id h1 h2 h3 => by
        rcases o1.own id h3 with h4 | h4
        · exact h2 h4
        · omega
      obtain ⟨T', sr'', e2, q1, q2, q3, q4, q5⟩ := ih (i + 1) T1 sr' (by omega) (by omega) (by omega) (hti.keep (fun id ho => o1.eq id (hti.lt ho) (hdis id ho)) hle) r1 (fun id ho => hno id (hti.lt ho) (hdis id ho)) hlp (fun id ho => by
          rcases o1.own id ho with h4 | h4
          · exact hlr id h4
          · omega) hmx (rows_keep hgot fun q hq => o1.eq q.1 (hgo q hq).2 (hgo q hq).1) (rows_keep hdue fun q hq => o1.eq q.1 (hdo q hq).2 (hdo q hq).1) (fun q hq => ⟨hno _ (hgo q hq).2 (hgo q hq).1, by have := (hgo q hq).2; omega⟩) (fun q hq => ⟨hno _ (hdo q hq).2 (hdo q hq).1, by have := (hdo q hq).2; omega⟩) ((o1.eq a hacl haco).trans hac) (by omega) (hno a hacl haco)
      exact ⟨T', sr'', e2, q1, q2, by omega, q4, fun id hid => (q5 id hid).trans (o1.eq id (by omega) (fun ho => by have := hlr id ho; omega))⟩
    · obtain rfl : i = W.length := by omega
      rw [if_neg (by omega)]
      rw [List.take_length] at hri
      exact ⟨T, sr, rfl, ⟨hti, hri, hdis, hlp, hlr, fun e he => by rw [foldStop_filter] at he; exact hmx e (List.mem_filter.1 he).1⟩, hac, Nat.le_refl _, hg, fun _ _ => rfl⟩
theorem plays_loop {g t r p : Nat} {y0 : Sl} {now : Int} {B : HS} {ls : List Ac} (hls : ls.length ≤ 40) (hmxl : ∀ a ∈ ls, a.2.2 ≤ 9223372036854775807) (hrows : B.rows y0 3 = some (ls.map actRow)) (hy : ∀ q, y0.a = some q → q.1 < g) :
    ∀ (f i : Nat) (T : HS) (s sr : Sl) (es ml : List It), ls.length - i < f → i ≤ ls.length → TwoT g t r p s sr es ml T → g ≤ T.next → ml.length ≤ i → (∀ id, id < g → T.heap id = B.heap id) →
    ∃ T', rollcalllaw09_TimerPlays.L0 (disp 2000 4) (fun _ => none) 2000 f y0 now (some (HA.cell0 t)) (some (HA.cell0 p)) (i : Int) T = some (true, T') := by
  intro f
  induction f with
  | zero => intro i T s sr es ml h; omega
  | succ f ih =>
    intro i T s sr es ml hf hi h hg hc hk
    have hr : T.rows y0 3 = some (ls.map actRow) := rows_keep hrows fun q hq => hk _ (hy q hq)
    have hsl : (y0.len : Int) = ls.length := by rw [← rows_len hr]; simp
    rw [rollcalllaw09_TimerPlays.L0, hsl]
    by_cases hlt : i < ls.length
    · obtain ⟨ad, a1, a2, a3, a4⟩ := act_rows hr hlt
      rw [if_pos (by omega), a1, Option.bind_some, a2, Option.bind_some, a3, Option.bind_some, a4, Option.bind_some, letv, show HA.cell0 T.next = (⟨T.next, 0, 0⟩ : HA) from rfl, sets_row (new_here T _) rfl (by simp), Option.bind_some]
      have hac : ((T.new (.cells 3 [[.int .i64 0, .str [], .int .i64 0]] true)).put T.next (.cells 3 ([[HV.int .i64 0, HV.str [], HV.int .i64 0]].set 0 (List.take 0 [HV.int .i64 0, HV.str [], HV.int .i64 0] ++ [.int .i64 ls[i].1, .str ls[i].2.1, .int .i64 ls[i].2.2] ++ List.drop (0 + [HV.int .i64 ls[i].1, HV.str ls[i].2.1, HV.int .i64 ls[i].2.2].length) [HV.int .i64 0, HV.str [], HV.int .i64 0])) true)).heap T.next = .cells 3 [actRow ls[i]] true := put_here _ _ _
      have fA : Fr T.next T ((T.new (.cells 3 [[.int .i64 0, .str [], .int .i64 0]] true)).put T.next (.cells 3 ([[HV.int .i64 0, HV.str [], HV.int .i64 0]].set 0 (List.take 0 [HV.int .i64 0, HV.str [], HV.int .i64 0] ++ [.int .i64 ls[i].1, .str ls[i].2.1, .int .i64 ls[i].2.2] ++ List.drop (0 + [HV.int .i64 ls[i].1, HV.str ls[i].2.1, HV.int .i64 ls[i].2.2].length) [HV.int .i64 0, HV.str [], HV.int .i64 0])) true)) := (Fr.new (Nat.le_refl _) _).trans (Fr.put (Nat.le_refl _) _)
      have nA : ((T.new (.cells 3 [[.int .i64 0, .str [], .int .i64 0]] true)).put T.next (.cells 3 ([[HV.int .i64 0, HV.str [], HV.int .i64 0]].set 0 (List.take 0 [HV.int .i64 0, HV.str [], HV.int .i64 0] ++ [.int .i64 ls[i].1, .str ls[i].2.1, .int .i64 ls[i].2.2] ++ List.drop (0 + [HV.int .i64 ls[i].1, HV.str ls[i].2.1, HV.int .i64 ls[i].2.2].length) [HV.int .i64 0, HV.str [], HV.int .i64 0])) true)).next = T.next + 1 := rfl
      generalize (T.new (.cells 3 [[.int .i64 0, .str [], .int .i64 0]] true)).put T.next (.cells 3 ([[HV.int .i64 0, HV.str [], HV.int .i64 0]].set 0 (List.take 0 [HV.int .i64 0, HV.str [], HV.int .i64 0] ++ [.int .i64 ls[i].1, .str ls[i].2.1, .int .i64 ls[i].2.2] ++ List.drop (0 + [HV.int .i64 ls[i].1, HV.str ls[i].2.1, HV.int .i64 ls[i].2.2].length) [HV.int .i64 0, HV.str [], HV.int .i64 0])) true) = A at hac fA nA ⊢
      have hA := h.fr fA
      have hrow := cell_row hac
      have haT : ∀ id, Own t r s id → id < T.next := fun id ho => h.ti.lt ho
      have haR : ∀ id, OwnR p sr id → id < T.next := fun id ho => h.ri.lt ho
      have hend : ∀ (T2 : HS) (s' sr' : Sl) (es' ml' : List It), TwoT g t r p s' sr' es' ml' T2 → T2.heap T.next = .cells 3 [actRow ls[i]] true → g ≤ T2.next → ml'.length ≤ i + 1 → (∀ id, id < g → T2.heap id = A.heap id) → ∃ T', rollcalllaw09_TimerPlays.J1 (disp 2000 4) (fun _ => none) 2000 (rollcalllaw09_TimerPlays.L0 (disp 2000 4) (fun _ => none) 2000 f) y0 now (some (HA.cell0 t)) (some (HA.cell0 p)) (i : Int) (some (HA.cell0 T.next)) T2 = some (true, T') := by
        intro T2 s' sr' es' ml' h2 ha2 hg2 hc2 hk2
        obtain ⟨T3, e3, f3⟩ := j1_spec (i := (i : Int)) (y0 := y0) (now := now) (r0 := rollcalllaw09_TimerPlays.L0 (disp 2000 4) (fun _ => none) 2000 f) h2 ha2
        have := f3.le
        rw [e3, w64_id (by omega) (by omega), show ((i : Int) + 1) = ((i + 1 : Nat) : Int) by simp]
        exact ih (i + 1) T3 s' sr' es' ml' (by omega) (by omega) (h2.fr f3) (by omega) hc2 (fun id hid => by rw [f3.eq id (by omega), hk2 id hid, fA.eq id (by omega), hk id hid])
      change ∃ T', Option.bind (A.ldI .i64 (HA.fld (HA.cell0 T.next) 0)) _ = some (true, T')
      rw [row_ldI hrow rfl rfl, Option.bind_some]
      by_cases hk1 : ls[i].1 = 1
      · obtain ⟨b, s', es', S1, e1, t1, o1, hb⟩ := stop_spec (n := 3) (H := fun _ => none) (k := 2000) (Nat.le_refl _) hA.ti ls[i].2.1
        have hle1 := o1.le
        have ha1 : S1.heap T.next = .cells 3 [actRow ls[i]] true := (o1.eq _ (by omega) (fun ho => by have := haT _ ho; omega)).trans hac
        obtain ⟨j, sr', S2, e2, hj, r2, o2⟩ := refStop_spec (k := 2000) (t := ls[i].2.1) (Nat.le_refl _) (hA.refOk o1) h.ti.dst
        have hle2 := o2.le
        have ha2 : S2.heap T.next = .cells 3 [actRow ls[i]] true := (o2.eq _ (by omega) (fun ho => by have := haR _ ho; omega)).trans ha1
        have heq : (b == decide (j ≥ 0)) = true := by
          rcases hb with ⟨rfl, hb⟩ | ⟨rfl, x, hx, hxk⟩
          · rcases hj with ⟨rfl, _⟩ | ⟨q, rfl, hq, hqk⟩
            · decide
            · exact absurd hqk (hb _ (List.getElem_mem hq))
          · rcases hj with ⟨_, g'⟩ | ⟨q, rfl, hq, hqk⟩
            · exact absurd hxk (g' x hx)
            · simp
        obtain ⟨t1', t2', t3'⟩ := hA.step (by omega) t1 o1 r2 o2 (fun e he => h.mx e (stopL_mem he))
        rw [if_pos hk1, row_ldS hrow rfl rfl, Option.bind_some]
        erw [e1]
        rw [Option.bind_some]
        simp only
        rw [row_ldS (cell_row ha1) rfl rfl, Option.bind_some, Option.bind_some, if_pos rfl]
        erw [e2]
        rw [Option.bind_some]
        simp only [heq, Bool.not_true]
        rw [if_neg (by simp)]
        exact hend S2 s' sr' _ _ t1' ha2 t2' (Nat.le_trans (List.length_filter_le _ _) (by omega)) t3'
      · rw [if_neg hk1]
        by_cases hk2 : ls[i].1 = 2
        · obtain ⟨got, s', es', S1, e1, r1, t1, o1, q1⟩ := take_spec (n := 2) (k := 2000) (Nat.le_refl _) hA.ti ls[i].2.2
          have hle1 := o1.le
          have ha1 : S1.heap T.next = .cells 3 [actRow ls[i]] true := (o1.eq _ (by omega) (fun ho => by have := haT _ ho; omega)).trans hac
          have hri1 := hA.refOk o1
          obtain ⟨due, S2, e2, r2, q2, f2⟩ := ref_due hri1 h.ti.srt h.ti.perm ls[i].2.2
          have hle2 := f2.le
          have ha2 : S2.heap T.next = .cells 3 [actRow ls[i]] true := (f2.eq _ (by omega)).trans ha1
          have hWl : (dueL ls[i].2.2 es).length ≤ 1000 := Nat.le_trans (List.length_filter_le _ _) (by have := h.ti.elen; omega)
          have hlen1 : (got.len : Int) = (dueL ls[i].2.2 es).length := by rw [← rows_len r1]; simp
          have hlen2 : (due.len : Int) = (dueL ls[i].2.2 es).length := by rw [r2.len]; simp
          rw [if_pos hk2, row_ldI hrow rfl rfl, Option.bind_some, e1, Option.bind_some]
          simp only
          rw [row_ldI (cell_row ha1) rfl rfl, Option.bind_some, Option.bind_some, if_pos rfl, e2, Option.bind_some]
          simp only
          rw [hlen1, hlen2, if_neg (by simp)]
          have hdis1 : ∀ id, Own t r s' id → ¬ OwnR p sr id := fun id ho hr' => by
            rcases o1.own id ho with h4 | h4
            · exact h.dis id h4 hr'
            · have := haR id hr'; omega
          obtain ⟨T5, sr5, e5, w1, w2, w3, w4, w5⟩ := l3_spec (g := g) (a := T.next) (ac := ls[i]) (y0 := y0) (now := now) (i0 := (i : Int)) (W := dueL ls[i].2.2 es) (ml := ml) (r0 := rollcalllaw09_TimerPlays.L0 (disp 2000 4) (fun _ => none) 2000 f) hWl h.ti.dst 2000 0 S2 sr (by omega) (Nat.zero_le _) (by omega) (t1.fr f2) (by rw [List.take_zero]; exact hri1.fr f2) hdis1 (fun id ho => by
              rcases o1.own id ho with h4 | h4
              · exact h.lp id h4
              · omega) h.lr h.mx (rows_keep r1 fun q hq => f2.eq q.1 (q1 q hq).2.1) r2.rows (fun q hq => ⟨fun ho => by have := haR _ ho; have := (q1 q hq).1; omega, by have := (q1 q hq).2.1; omega⟩) (fun q hq => ⟨fun ho => by have := haR _ ho; have := q2 q hq; omega, r2.lt q hq⟩) ha2 (by omega) (fun ho => by have := haR _ ho; omega)
          rw [show ((0 : Nat) : Int) = 0 from rfl] at e5
          rw [e5]
          exact hend T5 s' sr5 _ _ w1 w2 w4 (by rw [foldStop_filter]; exact Nat.le_trans (List.length_filter_le _ _) (by omega)) (fun id hid => by rw [w5 id hid, f2.eq id (by omega)]; exact o1.eq id (by omega) (fun ho => by have := h.lp id ho; omega))
        · obtain ⟨s', es', S1, e1, t1, o1⟩ := set_spec (n := 3) (H := fun _ => none) (k := 2000) (Nat.le_refl _) hA.ti (by omega) ls[i].2.1 ls[i].2.2
          have hle1 := o1.le
          have ha1 : S1.heap T.next = .cells 3 [actRow ls[i]] true := (o1.eq _ (by omega) (fun ho => by have := haT _ ho; omega)).trans hac
          obtain ⟨sr', S2, e2, r2, o2⟩ := refSet_spec (k := 2000) (t := ls[i].2.1) (v := ls[i].2.2) (Nat.le_refl _) (hA.refOk o1) h.ti.dst (by omega)
          have hle2 := o2.le
          have ha2 : S2.heap T.next = .cells 3 [actRow ls[i]] true := (o2.eq _ (by omega) (fun ho => by have := haR _ ho; omega)).trans ha1
          obtain ⟨t1', t2', t3'⟩ := hA.step (by omega) t1 o1 r2 o2 (fun e he => by
            unfold setL at he
            rcases List.mem_append.1 he with g' | g'
            · exact h.mx e (stopL_mem g')
            · simp only [List.mem_singleton] at g'
              subst g'
              exact hmxl _ (List.getElem_mem hlt))
          rw [if_neg hk2, row_ldS hrow rfl rfl, Option.bind_some, row_ldI hrow rfl rfl, Option.bind_some]
          erw [e1]
          rw [Option.bind_some]
          simp only
          rw [row_ldS (cell_row ha1) rfl rfl, Option.bind_some, row_ldI (cell_row ha1) rfl rfl, Option.bind_some]
          erw [e2]
          rw [Option.bind_some]
          exact hend S2 s' sr' _ _ t1' ha2 t2' (by unfold setL; have : (stopL ml ls[i].2.1).length ≤ ml.length := List.length_filter_le _ _; simp; omega) t3'
    · rw [if_neg (by omega)]
      obtain ⟨so, S1, e1, r1, _, f1⟩ := ref_due h.ri h.ti.srt h.ti.perm 9223372036854775807
      have hall : dueL 9223372036854775807 es = es := by
        unfold dueL
        rw [List.filter_eq_self]
        intro e he
        simpa using h.mx e (h.ti.perm.mem_iff.1 he)
      rw [hall] at r1
      have hsol : (so.len : Int) = es.length := by rw [r1.len]; simp
      rcases next_spec h.ti with ⟨e2, h0⟩ | ⟨hp, e2⟩
      · subst h0
        rw [e2, Option.bind_some, e1, Option.bind_some]
        simp only
        rw [hsol]
        exact ⟨S1, rfl⟩
      · obtain ⟨ad, c1, c2, c3⟩ := it_rows r1.rows hp
        rw [show ((0 : Nat) : Int) = 0 from rfl] at c1
        rw [e2, Option.bind_some, e1, Option.bind_some]
        simp only
        have hpos : decide ((so.len : Int) > 0) = true := decide_eq_true (by omega)
        rw [hpos, if_pos (by decide), if_neg (by decide), rollcalllaw09_TimerPlays.J4, if_pos (by decide), if_neg (by decide), rollcalllaw09_TimerPlays.J5, if_pos (by decide), if_neg (by decide), if_pos rfl, c1, Option.bind_some, c2, Option.bind_some, decide_eq_true rfl, rollcalllaw09_TimerPlays.J8, if_neg (by decide), if_pos rfl, c1, Option.bind_some, c3, Option.bind_some, decide_eq_true rfl, rollcalllaw09_TimerPlays.J9, if_pos (by decide), if_neg (by decide), rollcalllaw09_TimerPlays.J6, if_pos (by decide), rollcalllaw09_TimerPlays.J7]
        exact ⟨S1, rfl⟩
theorem rows_acts : ∀ {rows : List (List HV)}, (∀ row ∈ rows, RowFits [.int .i64, .str, .int .i64] row) → ∃ ls : List Ac, rows = ls.map actRow ∧ ∀ a ∈ ls, a.2.2 ≤ 9223372036854775807 := by
  intro rows
  induction rows with
  | nil => intro _; exact ⟨[], rfl, fun a ha => by cases ha⟩
  | cons r rows ih =>
    intro h
    obtain ⟨ls, e, hmx⟩ := ih fun row hr => h row (by simp [hr])
    have h0 := h r (by simp)
    have hl := h0.len
    obtain ⟨v0, v1, v2, rfl⟩ : ∃ v0 v1 v2, r = [v0, v1, v2] := by
      match r, hl with
      | [a, b, c], _ => exact ⟨a, b, c, rfl⟩
    obtain ⟨q0, q1, q2, _⟩ := h0
    obtain ⟨n, h1, _⟩ := q0
    obtain ⟨s, h2, _⟩ := q1
    obtain ⟨m, h3, h4⟩ := q2
    exact ⟨(n, s, m) :: ls, by rw [e, h1, h2, h3]; rfl, fun a ha => by
      rcases List.mem_cons.1 ha with rfl | g
      · simp [IntKind.min, IntKind.max, IntKind.signed, IntKind.bits] at h4
        show m ≤ 9223372036854775807
        omega
      · exact hmx a g⟩
theorem timerPlays_law {S : HS} {sl : Sl} {ls : List Ac} {now : Int} (hn : S.next = 1) (hmx : ∀ a ∈ ls, a.2.2 ≤ 9223372036854775807) (hrd : Rd S.next S 3 sl (ls.map actRow)) : ∃ S', rollcalllaw09_TimerPlays.f (disp 2000 4) (fun _ => none) 2000 sl now S = some (true, S') := by
  rw [rollcalllaw09_TimerPlays.f]
  obtain ⟨A, e1, f1⟩ := awake_spec hn
  have l1 : 1 ≤ A.next := by have := f1.le; omega
  have hrd1 : Rd 1 A 3 sl (ls.map actRow) := (hn ▸ hrd).frame f1 (Nat.le_refl _)
  obtain ⟨b, e2, hb⟩ := great_spec hrd1.rows
  rw [e1, Option.bind_some, if_neg (by simp), e2, Option.bind_some]
  cases b with
  | true => rw [if_pos rfl]; exact ⟨A, rfl⟩
  | false =>
    obtain ⟨h40, h20⟩ := hb rfl
    obtain ⟨B, e3, t3, f3, n3⟩ := tnew_spec A
    rw [if_neg (by simp), e3, Option.bind_some, letv]
    have f4 : Fr B.next B (B.new (.cells 1 [[Sl.nil.hv]] true)) := Fr.new (Nat.le_refl _) _
    have hri : RI B.next Sl.nil [] (B.new (.cells 1 [[Sl.nil.hv]] true)) := ⟨new_here _ _, .nil, fun q hq => (by cases hq), Nat.lt_succ_self _, by simp⟩
    have htwo : TwoT A.next (A.next + 1) A.next B.next Sl.nil Sl.nil [] [] (B.new (.cells 1 [[Sl.nil.hv]] true)) := by
      refine ⟨t3.fr f4, hri, fun id h1 h2 => ?_, fun id h1 => ?_, fun id h1 => ?_, fun e he => by cases he⟩
      · rcases h1 with rfl | rfl | ⟨q, h, _⟩
        · rcases h2 with h | ⟨q, h, _⟩
          · omega
          · cases h
        · rcases h2 with h | ⟨q, h, _⟩
          · omega
          · cases h
        · cases h
      · rcases h1 with rfl | rfl | ⟨q, h, _⟩
        · omega
        · exact Nat.le_refl _
        · cases h
      · rcases h1 with rfl | ⟨q, h, _⟩
        · omega
        · cases h
    have hrd4 : Rd 1 (B.new (.cells 1 [[Sl.nil.hv]] true)) 3 sl (ls.map actRow) := (hrd1.frame f3 l1).frame f4 (by omega)
    exact plays_loop (g := A.next) h40 hmx hrd4.rows (fun q hq => by have := hrd4.lt q hq; omega) 2000 0 _ Sl.nil Sl.nil [] [] (by omega) (Nat.zero_le _) htwo (show A.next ≤ B.next + 1 by omega) (by simp) (fun _ _ => rfl)
theorem timerPlays_call (W : World) (β0 : Bt) (S : HS) (s0 : Sl) (rows0 : List (List HV)) (h0 : ArgSl S 3 s0 rows0) (f0 : ∀ row ∈ rows0, RowFits [.int .i64, .str, .int .i64] row) (now : Int) (w1 : (Lit.int .i64 now).wf = true) (hn : S.next = 1 := by rfl) :
    HCall Try.prog W.heap.size W β0 3 [s0.hv, .int .i64 now] S (fun v _ => v = .bool true) := by
  obtain ⟨ls, rfl, hmx⟩ := rows_acts f0
  obtain ⟨_, h⟩ := timerPlays_law (now := now) hn hmx h0.rd
  exact (rollcalllaw09_TimerPlays.snd (disp_snd 4) (fun _ _ h => by cases h) h).mono fun _ _ h => h.1
end Go.Proofs.Ytlfdfkldolgkoaa.X
