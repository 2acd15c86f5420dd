/- The layer sendq: SendqPlays, plain. -/
import Derived.Test.YtpjabhpfaahgoaaSyTells
namespace Go.Proofs.Ytpjabhpfaahgoaa.X
open Go.Proofs.Ytpjabhpfaahgoaa.HL
set_option linter.unusedVariables false
structure Two (g p q : Nat) (sp sq : Sl) (S : HS) : Prop where
  lop : ∀ id, Own p sp id → g ≤ id ∧ id < S.next
  loq : ∀ id, Own q sq id → g ≤ id ∧ id < S.next
  apart : ∀ id, Own p sp id → ¬ Own q sq id
theorem Two.symm {g p q : Nat} {sp sq : Sl} {S : HS} (h : Two g p q sp sq S) : Two g q p sq sp S := ⟨h.loq, h.lop, fun id h1 h2 => h.apart id h2 h1⟩
theorem Two.step {g p q : Nat} {sp sp' sq : Sl} {S S' : HS} (h : Two g p q sp sq S) (ho : Only p sp sp' S S') (hi : ∀ id, Own p sp' id → id < S'.next) (hg : g ≤ S.next) : Two g p q sp' sq S' :=
  ⟨fun id h1 => ⟨by rcases ho.own id h1 with h2 | h2
                    · exact (h.lop id h2).1
                    · omega, hi id h1⟩, fun id h1 => ⟨(h.loq id h1).1, Nat.lt_of_lt_of_le (h.loq id h1).2 ho.le⟩, fun id h1 h2 => by
    rcases ho.own id h1 with h3 | h3
    · exact h.apart id h3 h2
    · have := (h.loq id h2).2; omega⟩
theorem Two.keep {g p q : Nat} {sp sp' sq : Sl} {S S' : HS} (h : Two g p q sp sq S) (ho : Only p sp sp' S S') {most : Int} {bs : List UInt8} {torn sent : Int} {over : Bool} (hq : QI q sq most bs torn sent over S) : QI q sq most bs torn sent over S' :=
  hq.keep (fun id h1 => ho.eq id (h.loq id h1).2 (fun h2 => h.apart id h2 h1)) ho.le
theorem rows_only {g p : Nat} {sp sp' : Sl} {S S' : HS} (ho : Only p sp sp' S S') (hlo : ∀ id, Own p sp id → g ≤ id) (hg : g ≤ S.next) {s : Sl} {z : Nat} {rows : List (List HV)} (hr : S.rows s z = some rows) (hs : ∀ x, s.a = some x → x.1 < g) : S'.rows s z = some rows :=
  rows_same hr fun x hx => ho.eq _ (by have := hs x hx; omega) (fun h => by have := hlo _ h; have := hs x hx; omega)

def actRow (x : Int × List UInt8 × Int) : List HV := [.int .i64 x.1, .str x.2.1, .int .i64 x.2.2]
theorem act_rows {S : HS} {s : Sl} {xs : List (Int × List UInt8 × Int)} (h : S.rows s 3 = some (xs.map actRow)) {i : Nat} (hi : i < xs.length) : ∃ ad, S.idx s (i : Int) 3 = some ad ∧ S.ldI .i64 (HA.fld ad 0) = some xs[i].1 ∧ S.ldS (HA.fld ad 1) = some xs[i].2.1 ∧ S.ldI .i64 (HA.fld ad 2) = some xs[i].2.2 := by
  obtain ⟨ad, h1, h2, h3⟩ := rows_idx h (i := i) (by simpa using hi)
  exact ⟨ad, h1, row_ldI h3 h2 (by simp [actRow]), row_ldS h3 h2 (by simp [actRow]), row_ldI h3 h2 (by simp [actRow])⟩
theorem rows_acts : ∀ {rows : List (List HV)}, (∀ row ∈ rows, RowFits [.int .i64, .str, .int .i64] row) → ∃ ls : List (Int × List UInt8 × Int), rows = ls.map actRow := by
  intro rows
  induction rows with
  | nil => intro _; exact ⟨[], rfl⟩
  | cons r rows ih =>
    intro h
    obtain ⟨ls, e⟩ := ih fun row hr => h row (by simp [hr])
    have h0 := h r (by simp)
    have hl := h0.len
    obtain ⟨v0, v1, v2, rfl⟩ : ∃ v0 v1 v2, r = [v0, v1, v2] := by
      match r, hl with
      | [v0, v1, v2], _ => exact ⟨v0, v1, v2, rfl⟩
    obtain ⟨q1, q2, q3, _⟩ := h0
    obtain ⟨n, h1, _⟩ := q1
    obtain ⟨s, h2, _⟩ := q2
    obtain ⟨m, h3, _⟩ := q3
    exact ⟨(n, s, m) :: ls, by rw [e, h1, h2, h3]; rfl⟩
theorem rem_sub : ∀ (ls : List (List UInt8)) (n : Nat), (∀ l ∈ (rem ls n).2, l ∈ ls) ∧ (rem ls n).2.length ≤ ls.length := by
  intro ls
  induction ls with
  | nil => intro n; simp [rem]
  | cons l ls ih =>
    intro n
    unfold rem
    by_cases h0 : n = 0
    · rw [if_pos h0]; simp
    rw [if_neg h0]
    by_cases h1 : n < l.length + 2
    · rw [if_pos h1]; exact ⟨fun x hx => by simp [hx], by simp⟩
    · rw [if_neg h1]
      obtain ⟨g1, g2⟩ := ih (n - (l.length + 2))
      exact ⟨fun x hx => by simp [g1 x hx], by simp; omega⟩
theorem check_spec {q x : Nat} {y1 s sl : Sl} {most : Int} {ls : List (List UInt8)} {sent : Nat} {over : Bool} {S : HS} {i : Int} {rec0 : Sl → Option HA → Option HA → Int → HS → Option (Bool × HS)}
    (hQ : QI q s most ((enc ls).drop sent) ((rem ls sent).1 : Int) sent over S) (hR : RI x sl most ls sent over S) (hs : sent ≤ (enc ls).length) (hc : Clean ls) (hn : ls.length ≤ 40) (hl : (enc ls).length ≤ 90000) :
    ∃ S', rollcalllaw08_SendqPlays.J4 (disp 100000 4) (fun _ => none) 100000 rec0 y1 (some (HA.cell0 q)) (some (HA.cell0 x)) i true S = rec0 y1 (some (HA.cell0 q)) (some (HA.cell0 x)) (w64 (i + 1)) S' ∧ Fr S.next S S' := by
  have hle := rem_le ls sent hs
  have hdr := rem_drop ls sent hs
  obtain ⟨g1, g2⟩ := rem_sub ls sent
  obtain ⟨out, S1, e1, v1, f1⟩ := lines_spec (rest := (rem ls sent).2) hQ (by simp; omega) (by rw [List.drop_drop]; exact hdr) (fun l hm => hc l (g1 l hm)) (by omega) (by simp; omega)
  have q1 := hQ.fr f1
  have r1 := hR.keep (fun id ho => f1.eq id (hR.lt ho)) f1.le
  obtain ⟨out2, S2, e2, v2, f2⟩ := rlines_spec (k := 100000) r1 (by omega) (by omega) hs (by omega)
  have v1' := v1.frame f2 (Nat.le_refl _)
  unfold rollcalllaw08_SendqPlays.J4
  rw [e1, Option.bind_some, if_neg (by simp), if_neg (by simp), qlen_spec q1, Option.bind_some, waits_spec r1 hs, Option.bind_some, if_neg (by simp), qsent_spec q1, Option.bind_some, Option.bind_some, row_ldI r1.row rfl rfl, Option.bind_some, Option.bind_some, if_pos rfl, if_neg (by simp),
    qover_spec q1, Option.bind_some, Option.bind_some, row_ldB r1.row rfl rfl, Option.bind_some, Option.bind_some, if_pos rfl, if_neg (by simp), e2, Option.bind_some, texts_same (by omega) (by omega) v1'.rows v2.rows, Option.bind_some, rollcalllaw08_SendqPlays.J5, if_neg (by simp)]
  exact ⟨S2, rfl, f1.trans (f2.mono f1.le)⟩
theorem plays_loop {g q x : Nat} {y1 : Sl} {ac : List (Int × List UInt8 × Int)} {most : Int} (has : ac.length ≤ 40) (hy : ∀ p, y1.a = some p → p.1 < g) (h600 : ∀ a ∈ ac, a.2.1.length ≤ 600) :
    ∀ (f i : Nat) (S : HS) (s sl : Sl) (ls : List (List UInt8)) (sent : Nat) (over : Bool), ac.length - i < f → i ≤ ac.length → g ≤ S.next → Two g q x s sl S → QI q s most ((enc ls).drop sent) ((rem ls sent).1 : Int) sent over S → RI x sl most ls sent over S → sent ≤ (enc ls).length → Clean ls → ls.length ≤ i → (enc ls).length ≤ 602 * i → S.rows y1 3 = some (ac.map actRow) →
    ∃ S', rollcalllaw08_SendqPlays.L3 (disp 100000 4) (fun _ => none) 100000 f y1 (some (HA.cell0 q)) (some (HA.cell0 x)) (i : Int) S = some (true, S') := by
  intro f
  induction f with
  | zero => intro i S s sl ls sent over h; omega
  | succ f ih =>
    intro i S s sl ls sent over hf hi hg h2 hQ hR hs hc hn hl hr
    have hyl : (y1.len : Int) = ac.length := by rw [← rows_len hr]; simp
    unfold rollcalllaw08_SendqPlays.L3
    by_cases hlt : i < ac.length
    · obtain ⟨ad, a1, a2, a3, a4⟩ := act_rows hr hlt
      have hbl : ((enc ls).drop sent).length = (enc ls).length - sent := by simp
      have hle := rem_le ls sent hs
      -- what comes behind an act
      have hnext : ∀ (S1 : HS) (s1 sl1 : Sl) (ls1 : List (List UInt8)) (sent1 : Nat) (over1 : Bool), g ≤ S1.next → Two g q x s1 sl1 S1 → QI q s1 most ((enc ls1).drop sent1) ((rem ls1 sent1).1 : Int) sent1 over1 S1 → RI x sl1 most ls1 sent1 over1 S1 → sent1 ≤ (enc ls1).length → Clean ls1 → ls1.length ≤ i + 1 → (enc ls1).length ≤ 602 * (i + 1) → S1.rows y1 3 = some (ac.map actRow) →
          ∃ S', rollcalllaw08_SendqPlays.J4 (disp 100000 4) (fun _ => none) 100000 (rollcalllaw08_SendqPlays.L3 (disp 100000 4) (fun _ => none) 100000 f) y1 (some (HA.cell0 q)) (some (HA.cell0 x)) (i : Int) true S1 = some (true, S') := by
        intro S1 s1 sl1 ls1 sent1 over1 b1 b2 b3 b4 b5 b6 b7 b8 b9
        obtain ⟨S2, e2, f2⟩ := check_spec (y1 := y1) (i := (i : Int)) (rec0 := rollcalllaw08_SendqPlays.L3 (disp 100000 4) (fun _ => none) 100000 f) b3 b4 b5 b6 (by omega) (by omega)
        rw [e2, w64_id (by omega) (by omega), show ((i : Int) + 1) = ((i + 1 : Nat) : Int) by simp]
        refine ih (i + 1) S2 s1 sl1 ls1 sent1 over1 (by omega) (by omega) (Nat.le_trans b1 f2.le) ⟨fun id ho => ⟨(b2.lop id ho).1, Nat.lt_of_lt_of_le (b2.lop id ho).2 f2.le⟩, fun id ho => ⟨(b2.loq id ho).1, Nat.lt_of_lt_of_le (b2.loq id ho).2 f2.le⟩, b2.apart⟩ (b3.fr f2) (b4.keep (fun id ho => f2.eq id (b4.lt ho)) f2.le) b5 b6 b7 b8 ?_
        exact rows_same b9 fun p hp => f2.eq _ (Nat.lt_of_lt_of_le (hy p hp) b1)
      rw [if_pos (by omega), a1, Option.bind_some, a2, Option.bind_some]
      by_cases hk : ac[i].1 = 1
      · obtain ⟨out, s', tp', S1, e1, q1, ⟨b0, b1, b2⟩, x1, z1, o1⟩ := drain_spec (k := 100000) hQ (by simp; omega) (by simp; omega) (by omega) (by omega) (by omega) (by omega) ac[i].2.2
        have hd := (dn_eq ac[i].2.2 ((enc ls).drop sent)).2
        have hr1 := rows_only o1 (fun id ho => (h2.lop id ho).1) hg hr hy
        obtain ⟨ad', c1, c2, c3, c4⟩ := act_rows hr1 hlt
        have had : ad' = ad := by
          have h1 : S.idx y1 (i : Int) 3 = some ad := a1
          have h3 := h1
          unfold HS.idx at h1 c1
          cases hya : y1.a with
          | none => rw [hya] at h1; simp at h1
          | some p =>
            have : S1.heap p.1 = S.heap p.1 := o1.eq _ (Nat.lt_of_lt_of_le (hy p hya) hg) (fun ho => by have := (h2.lop _ ho).1; have := hy p hya; omega)
            rw [hya] at h1 c1
            simp only [this] at c1
            rw [h1] at c1
            exact (Option.some.inj c1).symm
        subst had
        have R1 : RI x sl most ls sent over S1 := hR.keep (fun id ho => o1.eq id (hR.lt ho) (fun h => h2.apart id h ho)) o1.le
        have T1 : Two g q x s' sl S1 := h2.step o1 (fun id ho => q1.lt ho) hg
        obtain ⟨S2, e2, R2, o2⟩ := rdrain_spec R1 hs (by omega) ac[i].2.2 _ rfl
        rw [if_pos hk, Option.bind_some, a4, Option.bind_some, e1, Option.bind_some, x1.1, Option.bind_some, c1, Option.bind_some, Option.bind_some, if_pos rfl, c4, Option.bind_some, a4, Option.bind_some, if_pos rfl, e2, Option.bind_some]
        have x2 : Txt S2 out (((enc ls).drop sent).take (dn ac[i].2.2 ((enc ls).drop sent))) := x1.keep (fun p hp => o2.eq _ (x1.2.2 p hp) (fun ho => by
          have h1 := (z1 p hp).1
          have h3 := (h2.loq _ ho).2
          omega)) o2.le
        rw [x2.1, Option.bind_some, if_pos rfl, decide_eq_true rfl]
        generalize dn ac[i].2.2 ((enc ls).drop sent) = d at q1 b0 hd R2
        have ht := torn_rem (k := 100000) (s := sent) (n := d) hc (by omega) (by omega) (by omega)
        refine hnext S2 s' sl ls (sent + d) over (Nat.le_trans hg (Nat.le_trans o1.le o2.le)) ?_ ?_ R2 (by omega) hc (by omega) (by omega) (rows_only o2 (fun id ho => (T1.loq id ho).1) (Nat.le_trans hg o1.le) hr1 hy)
        · have := T1.symm.step o2 (fun id ho => R2.lt ho) (Nat.le_trans hg o1.le)
          exact this.symm
        · have q2 : QI q s' most (((enc ls).drop sent).drop d) tp' ((sent : Int) + d) over S2 := T1.symm.keep o2 q1
          rw [List.drop_drop, b0, ht] at q2
          have e : ((sent : Int) + (d : Int)) = ((sent + d : Nat) : Int) := by simp
          rw [e] at q2
          exact q2
      · have hx6 : ac[i].2.1.length ≤ 600 := h600 _ (List.getElem_mem hlt)
        obtain ⟨s', S1, e1, q1, o1⟩ := push_spec (k := 100000) (x := ac[i].2.1) hQ (by omega) (by simp; omega) (by omega)
        have hr1 := rows_only o1 (fun id ho => (h2.lop id ho).1) hg hr hy
        obtain ⟨ad', c1, c2, c3, c4⟩ := act_rows hr1 hlt
        have had : ad' = ad := by
          have h1 : S.idx y1 (i : Int) 3 = some ad := a1
          unfold HS.idx at h1 c1
          cases hya : y1.a with
          | none => rw [hya] at h1; simp at h1
          | some p =>
            have : S1.heap p.1 = S.heap p.1 := o1.eq _ (Nat.lt_of_lt_of_le (hy p hya) hg) (fun ho => by have := (h2.lop _ ho).1; have := hy p hya; omega)
            rw [hya] at h1 c1
            simp only [this] at c1
            rw [h1] at c1
            exact (Option.some.inj c1).symm
        subst had
        have R1 : RI x sl most ls sent over S1 := hR.keep (fun id ho => o1.eq id (hR.lt ho) (fun h => h2.apart id h ho)) o1.le
        have T1 : Two g q x s' sl S1 := h2.step o1 (fun id ho => q1.lt ho) hg
        obtain ⟨sl', S2, e2, R2, o2⟩ := rpush_spec (k := 100000) (y := ac[i].2.1) R1 hs (by omega) (by omega) (by omega) (by omega) _ rfl
        rw [if_neg hk, Option.bind_some, a3, Option.bind_some, e1, Option.bind_some, c1, Option.bind_some, Option.bind_some, if_pos rfl, c3, Option.bind_some, a3, Option.bind_some, if_pos rfl, e2, Option.bind_some, beq_self_eq_true]
        have T2 : Two g q x s' sl' S2 := (T1.symm.step o2 (fun id ho => R2.lt ho) (Nat.le_trans hg o1.le)).symm
        have q2 := T1.symm.keep o2 q1
        have hr2 := rows_only o2 (fun id ho => (T1.loq id ho).1) (Nat.le_trans hg o1.le) hr1 hy
        have hgS : g ≤ S2.next := Nat.le_trans hg (Nat.le_trans o1.le o2.le)
        by_cases hok : (may over ac[i].2.1 && fits most ((enc ls).drop sent) ac[i].2.1) = true
        · rw [if_pos hok] at R2 q2
          have hcl : 10 ∉ ac[i].2.1 ∧ 13 ∉ ac[i].2.1 := by
            simp only [Bool.and_eq_true, may] at hok
            exact all_clean hok.1.2.2
          have hcl2 : Clean (ls ++ [ac[i].2.1]) := fun l hl => by
            rcases List.mem_append.1 hl with h | h
            · exact hc l h
            · simp at h; subst h; exact hcl
          have hel : (enc (ls ++ [ac[i].2.1])).length = (enc ls).length + ac[i].2.1.length + 2 := by rw [enc_app]; simp [enc]; omega
          have hp := rem_push ls sent ac[i].2.1 hs
          have hdr : (enc (ls ++ [ac[i].2.1])).drop sent = (enc ls).drop sent ++ ac[i].2.1 ++ [13, 10] := by
            rw [enc_app, List.drop_append_of_le_length hs]; simp [enc]
          refine hnext S2 s' sl' (ls ++ [ac[i].2.1]) sent _ hgS T2 ?_ R2 (by omega) hcl2 (by simp; omega) (by omega) hr2
          rw [hdr, hp]; exact q2
        · rw [if_neg hok] at R2 q2
          exact hnext S2 s' sl' ls sent _ hgS T2 q2 R2 hs hc (by omega) (by omega) hr2
    · rw [if_neg (by omega)]; exact ⟨S, rfl⟩
theorem short_loop {y1 : Sl} {ac : List (Int × List UInt8 × Int)} {most : Int} {S : HS} (has : ac.length ≤ 40) (hr : S.rows y1 3 = some (ac.map actRow)) {r : Option (Bool × HS)}
    (hfin : (∀ a ∈ ac, a.2.1.length ≤ 600) → (Option.bind (sendq_New.f most S) fun p8 => (if most < 512 then rollcalllaw08_SendqPlays.J1 (disp 100000 4) (fun _ => none) 100000 most y1 p8.1.1 p8.1.2 true p8.2 else rollcalllaw08_SendqPlays.J1 (disp 100000 4) (fun _ => none) 100000 most y1 p8.1.1 p8.1.2 (decide (most > 65536)) p8.2)) = r) (hr2 : ∃ S', r = some (true, S')) :
    ∀ (n i : Nat), ac.length - i < n → i ≤ ac.length → (∀ a ∈ ac.take i, a.2.1.length ≤ 600) → ∃ S', rollcalllaw08_SendqPlays.L0 (disp 100000 4) (fun _ => none) 100000 n most y1 (i : Int) S = some (true, S') := by
  have hyl : (y1.len : Int) = ac.length := by rw [← rows_len hr]; simp
  intro n
  induction n with
  | zero => intro i h; omega
  | succ n ih =>
    intro i h hi hs
    unfold rollcalllaw08_SendqPlays.L0
    by_cases hlt : i < ac.length
    · obtain ⟨ad, a1, a2, a3, a4⟩ := act_rows hr hlt
      rw [if_pos (by omega), a1, Option.bind_some, a3, Option.bind_some]
      by_cases h6 : (ac[i].2.1.length : Int) > 600
      · rw [if_pos h6]; exact ⟨_, rfl⟩
      · rw [if_neg h6, w64_id (by omega) (by omega), show ((i : Int) + 1) = ((i + 1 : Nat) : Int) by simp]
        refine ih (i + 1) (by omega) (by omega) (fun a ha => ?_)
        rw [List.take_add_one, List.getElem?_eq_getElem hlt] at ha
        rcases List.mem_append.1 ha with h' | h'
        · exact hs a h'
        · simp at h'; subst h'; omega
    · have : i = ac.length := by omega
      subst this
      rw [if_neg (by omega)]
      obtain ⟨S', e⟩ := hr2
      exact ⟨S', by rw [hfin (by simpa using hs), e]⟩
theorem sendqPlays_law {S : HS} {x1 : Sl} {ac : List (Int × List UInt8 × Int)} (h1 : Rd S.next S 3 x1 (ac.map actRow)) {most : Int} : ∃ S', rollcalllaw08_SendqPlays.f (disp 100000 4) (fun _ => none) 100000 most x1 S = some (true, S') := by
  unfold rollcalllaw08_SendqPlays.f
  obtain ⟨S1, e1, f1⟩ := awake_spec (S := S)
  have hl1 : (x1.len : Int) = ac.length := by rw [h1.len]; simp
  rw [e1, Option.bind_some, if_neg (by simp), hl1]
  by_cases hb : (ac.length : Int) > 40
  · rw [if_pos hb]; exact ⟨_, rfl⟩
  rw [if_neg hb]
  have hr1 : S1.rows x1 3 = some (ac.map actRow) := rows_same h1.rows fun p hp => f1.eq _ (h1.lt p hp)
  have goal : (∀ a ∈ ac, a.2.1.length ≤ 600) → ∃ S', (Option.bind (sendq_New.f most S1) fun p8 => (if most < 512 then rollcalllaw08_SendqPlays.J1 (disp 100000 4) (fun _ => none) 100000 most x1 p8.1.1 p8.1.2 true p8.2 else rollcalllaw08_SendqPlays.J1 (disp 100000 4) (fun _ => none) 100000 most x1 p8.1.1 p8.1.2 (decide (most > 65536)) p8.2)) = some (true, S') := by
    intro h600
    by_cases h512 : most < 512
    · have en : sendq_New.f most S1 = some ((none, 2), S1) := by rw [sendq_New.f, if_pos h512, sendq_New.J0, if_pos rfl]
      rw [en, Option.bind_some, if_pos h512, rollcalllaw08_SendqPlays.J1, if_pos rfl, if_pos rfl, rollcalllaw08_SendqPlays.J2]
      exact ⟨_, rfl⟩
    by_cases hbig : most > 65536
    · have en : sendq_New.f most S1 = some ((none, 2), S1) := by rw [sendq_New.f, if_neg h512, sendq_New.J0, if_pos (by simpa using hbig)]
      rw [en, Option.bind_some, if_neg h512, rollcalllaw08_SendqPlays.J1, if_pos (by simpa using hbig), if_pos rfl, rollcalllaw08_SendqPlays.J2]
      exact ⟨_, rfl⟩
    obtain ⟨A, e2, q2, f2, n2⟩ := qnew_spec (most := most) (S := S1) (by omega) (by omega)
    rw [e2, Option.bind_some, if_neg h512, rollcalllaw08_SendqPlays.J1, if_neg (by simpa using hbig), if_neg (by simp)]
    simp only [letv]
    have f3 : Fr A.next A (A.new (.cells 5 [[.int .i64 most, Sl.nil.hv, .str [], .int .i64 0, .bool false]] true)) := Fr.new (Nat.le_refl _) _
    have hc3 : (A.new (.cells 5 [[.int .i64 most, Sl.nil.hv, .str [], .int .i64 0, .bool false]] true)).heap A.next = .cells 5 [[.int .i64 most, Sl.nil.hv, .str [], .int .i64 0, .bool false]] true := new_here _ _
    have n3 : (A.new (.cells 5 [[.int .i64 most, Sl.nil.hv, .str [], .int .i64 0, .bool false]] true)).next = A.next + 1 := rfl
    have q3 := q2.fr f3
    generalize A.new (.cells 5 [[.int .i64 most, Sl.nil.hv, .str [], .int .i64 0, .bool false]] true) = B at f3 hc3 n3 q3 ⊢
    have hR : RI A.next Sl.nil most [] 0 false B := ⟨hc3, .nil, fun p hp => by (cases hp), by omega⟩
    have l1 := f1.le
    have l2 := f2.le
    have hfr : Fr S.next S B := f1.trans ((f2.mono f1.le).trans (f3.mono (by omega)))
    have hown : ∀ {p id : Nat}, Own p Sl.nil id → id = p := fun ho => by
      rcases ho with h | ⟨r, hr, _⟩
      · exact h
      · cases hr
    have h2 : Two S.next S1.next A.next Sl.nil Sl.nil B := ⟨fun id ho => by have := hown ho; omega, fun id ho => by have := hown ho; omega, fun id ho1 ho2 => by have := hown ho1; have := hown ho2; omega⟩
    exact plays_loop (g := S.next) (q := S1.next) (x := A.next) (by omega) (fun p hp => h1.lt p hp) h600 100000 0 B Sl.nil Sl.nil [] 0 false (by omega) (by omega) (by omega) h2 q3 hR (by simp [enc]) (fun l hl => by cases hl) (by simp) (by simp [enc]) (rows_same h1.rows fun p hp => hfr.eq _ (h1.lt p hp))
  by_cases h600 : ∀ a ∈ ac, a.2.1.length ≤ 600
  · exact short_loop (by omega) hr1 (fun _ => rfl) (goal h600) 100000 0 (by omega) (Nat.zero_le _) (by simp)
  · exact short_loop (r := some (true, S1)) (by omega) hr1 (fun h => absurd h h600) ⟨_, rfl⟩ 100000 0 (by omega) (Nat.zero_le _) (by simp)
set_option maxRecDepth 20000 in
theorem sendqPlays_call (W : World) (hG : GF W W.heap.size) (β0 : Bt) (S : HS) (x0 : Int) {p : Prop} (_w0 : p) (s1 : Sl) (rows1 : List (List HV)) (h1 : ArgSl S 3 s1 rows1) (f1 : ∀ row ∈ rows1, RowFits [.int .i64, .str, .int .i64] row) :
    HCall Try.prog W.heap.size W β0 5 [.int .i64 x0, s1.hv] S (fun v _ => v = .bool true) := by
  obtain ⟨ls, rfl⟩ := rows_acts f1
  obtain ⟨_, h⟩ := sendqPlays_law (most := x0) h1.rd
  exact (rollcalllaw08_SendqPlays.snd (disp_snd hG 4) (fun _ _ h => by cases h) h).mono fun _ _ h => h.1
end Go.Proofs.Ytpjabhpfaahgoaa.X
