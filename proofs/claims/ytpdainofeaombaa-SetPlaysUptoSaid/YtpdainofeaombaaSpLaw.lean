/- The layer set: SetPlays, plain. -/
import Derived.Test.YtpdainofeaombaaSuTop
namespace Go.Proofs.Ytpdainofeaombaa.X
open Go.Proofs.Ytpdainofeaombaa.HL
set_option linter.unusedVariables false
set_option maxRecDepth 100000
namespace KI
abbrev Ac := Int × Sl
def acRow (a : Ac) : List HV := [.int .i64 a.1, a.2.hv]
/-- The acts that were given. -/
structure Gp (g : Nat) (y0 : Sl) (acs : List Ac) (vals : List (List Ky)) (S : HS) : Prop where
  rows : S.rows y0 2 = some (acs.map acRow)
  lt : ∀ q, y0.a = some q → q.1 < g
  len : acs.length = vals.length
  inn : ∀ j (h : j < acs.length) (h' : j < vals.length), S.rows acs[j].2 1 = some (vals[j].map row1) ∧ ∀ q, acs[j].2.a = some q → q.1 < g
theorem Gp.fr {g : Nat} {y0 : Sl} {acs : List Ac} {vals : List (List Ky)} {S S' : HS} (h : Gp g y0 acs vals S) (hk : ∀ id, id < g → S'.heap id = S.heap id) : Gp g y0 acs vals S' :=
  ⟨rows_keep h.rows fun q hq => hk _ (h.lt q hq), h.lt, h.len, fun j hj hj' => ⟨rows_keep (h.inn j hj hj').1 fun q hq => hk _ ((h.inn j hj hj').2 q hq), (h.inn j hj hj').2⟩⟩
theorem Gp.at_ {g : Nat} {y0 : Sl} {acs : List Ac} {vals : List (List Ky)} {S : HS} (h : Gp g y0 acs vals S) {j : Nat} (hj : j < acs.length) : ∃ ad, S.idx y0 (j : Int) 2 = some ad ∧ S.ldI .i64 (HA.fld ad 0) = some acs[j].1 ∧ S.ldSl (HA.fld ad 1) = some acs[j].2 := by
  obtain ⟨ad, h1, h2, h3⟩ := rows_idx h.rows (i := j) (by simpa using hj)
  rw [List.getElem_map] at h3
  exact ⟨ad, h1, row_ldI h3 h2 rfl, row_ldSl h3 h2 rfl⟩
/-- The set, and the document's list. -/
structure Tw (g p : Nat) (s y6 : Sl) (xs : List Ky) (T : HS) : Prop where
  si : SI p s xs T
  rd : Rd T.next T 1 y6 (xs.map row1)
  dis : ∀ q, y6.a = some q → ¬ Own p s q.1
  lo : ∀ id, Own p s id → g ≤ id
  gn : g ≤ T.next
theorem Tw.fr {g p : Nat} {s y6 : Sl} {xs : List Ky} {T T' : HS} (h : Tw g p s y6 xs T) (hf : Fr T.next T T') : Tw g p s y6 xs T' :=
  ⟨h.si.fr hf, (h.rd.frame hf (Nat.le_refl _)).mono hf.le, h.dis, h.lo, Nat.le_trans h.gn hf.le⟩
theorem j2_spec {g p : Nat} {s y0 y6 : Sl} {x i : Int} {xs : List Ky} {T : HS} {r0 : Sl → Int → Option HA → Sl → Int → HS → Option (Bool × HS)} (h : Tw g p s y6 xs T) (hl : xs.length ≤ 400) :
    ∃ T', rollcalllaw10_SetPlays.J2 (disp 2000 4) (fun _ => none) 2000 r0 y0 x (some (HA.cell0 p)) y6 i T = r0 y0 x (some (HA.cell0 p)) y6 (w64 (i + 1)) T' ∧ Fr T.next T T' := by
  obtain ⟨c, s', S1, e1, d1, r1, hc, hq, f1⟩ := all_spec h.si
  have l1 := f1.le
  have hT := values_tells (k := 2000) (n := 2) (xs := xs) (by omega) (by omega) d1 r1 (fun id => id = c ∨ ∃ q, s'.a = some q ∧ q.1 = id) ⟨.inl rfl, fun q hq => .inr ⟨q, hq, rfl⟩⟩
  obtain ⟨o, S2, e2, r2, q2, f2⟩ := told_spec (n := 0) (most := 400) hT (fun id h => by
    rcases h with rfl | ⟨q, h, rfl⟩
    · omega
    · exact (hq q h).2) (by omega) (by omega)
  have f12 : Fr T.next T S2 := f1.trans (f2.mono l1)
  have h2 := h.fr f12
  obtain ⟨o3, S3, e3, r3, q3, f3⟩ := list_spec h2.si
  have h3 := h2.fr f3
  rw [rollcalllaw10_SetPlays.J2, e1, Option.bind_some]
  simp only
  rw [e2, Option.bind_some]
  simp only [Bool.not_true, Bool.false_eq_true, if_false]
  rw [refSame_spec r2 h2.rd.rows (by omega) (by omega), Option.bind_some, decide_eq_true rfl, rollcalllaw10_SetPlays.J3, if_neg (by simp), e3, Option.bind_some]
  simp only
  rw [refSame_spec r3 h3.rd.rows (by omega) (by omega), Option.bind_some, decide_eq_true rfl, rollcalllaw10_SetPlays.J4, if_neg (by simp), len_spec h3.si, Option.bind_some]
  have hl6 : (y6.len : Int) = xs.length := by rw [h3.rd.len]; simp
  rw [hl6]
  simp only [decide_true, Bool.not_true]
  rw [rollcalllaw10_SetPlays.J5, if_neg (by simp), has_spec (Nat.le_refl _) h3.si, Option.bind_some, refHas_spec h3.rd.rows (by omega) (by omega), Option.bind_some, rollcalllaw10_SetPlays.J6, if_neg (by simp)]
  exact ⟨S3, rfl, f12.trans (f3.mono f12.le)⟩
theorem rem_fold : ∀ (ls pre : List Ky), Srt pre → Srt (ls.foldl (fun l t => wof t l) pre) ∧ (∀ v, v ∈ ls.foldl (fun l t => wof t l) pre ↔ v ∈ pre ∧ v ∉ ls) ∧ (ls.foldl (fun l t => wof t l) pre).length ≤ pre.length := by
  intro ls
  induction ls with
  | nil => intro pre h; exact ⟨h, fun v => by simp, Nat.le_refl _⟩
  | cons x ls ih =>
    intro pre h
    obtain ⟨h1, h2, h3⟩ := ih (wof x pre) (List.Pairwise.sublist List.filter_sublist h)
    refine ⟨h1, fun v => ?_, Nat.le_trans h3 (List.length_filter_le _ _)⟩
    rw [List.foldl_cons, h2]
    simp only [List.mem_filter, List.mem_cons, not_or, Bool.not_eq_true', decide_eq_false_iff_not]
    exact ⟨fun ⟨⟨a, b⟩, c⟩ => ⟨a, b, c⟩, fun ⟨a, b, c⟩ => ⟨⟨a, b⟩, c⟩⟩
theorem add_len : ∀ (xs pre : List Ky), (xs.foldl (fun l t => addL t l) pre).length ≤ pre.length + xs.length := by
  intro xs
  induction xs with
  | nil => intro pre; simp
  | cons x xs ih => intro pre; rw [List.foldl_cons, List.length_cons]; have := ih (addL x pre); have := (addL_len x pre).1; omega
theorem plays_loop {g p : Nat} {y0 : Sl} {x : Int} {acs : List Ac} {vals : List (List Ky)} (hvl : vals.length ≤ 30) :
    ∀ f i (T : HS) (s y6 : Sl) (xs : List Ky), vals.length - i < f → i ≤ vals.length → xs.length ≤ 10 * i → Gp g y0 acs vals T → Tw g p s y6 xs T →
      ∃ S', rollcalllaw10_SetPlays.L0 (disp 2000 4) (fun _ => none) 2000 f y0 x (some (HA.cell0 p)) y6 (i : Int) T = some (true, S') := by
  intro f
  induction f with
  | zero => intro i T s y6 xs h; omega
  | succ f ih =>
    intro i T s y6 xs hf hi hxl hG hW
    have hal := hG.len
    have hy0 : (y0.len : Int) = vals.length := by rw [← rows_len hG.rows]; simp [hal]
    rw [rollcalllaw10_SetPlays.L0, hy0]
    by_cases hlt : i < vals.length
    · obtain ⟨ad, a1, a2, a3⟩ := hG.at_ (j := i) (by omega)
      obtain ⟨hr, hrl⟩ := hG.inn i (by omega) hlt
      have hl : (acs[i].2.len : Int) = vals[i].length := by rw [← rows_len hr]; simp
      rw [if_pos (by omega), a1, Option.bind_some, a3, Option.bind_some, hl]
      by_cases h11 : vals[i].length > 10
      · rw [if_pos (by omega)]; exact ⟨T, rfl⟩
      have hl6 : (y6.len : Int) = xs.length := by rw [hW.rd.len]; simp
      have hcnt := hW.si.cnt
      -- one act is done
      have hdone : ∀ (T2 : HS) (s2 y2 : Sl) (ys : List Ky), ys.length ≤ 10 * (i + 1) → Tw g p s2 y2 ys T2 → (∀ id, id < g → T2.heap id = T.heap id) →
          ∃ S', rollcalllaw10_SetPlays.J2 (disp 2000 4) (fun _ => none) 2000 (rollcalllaw10_SetPlays.L0 (disp 2000 4) (fun _ => none) 2000 f) y0 x (some (HA.cell0 p)) y2 (i : Int) T2 = some (true, S') := by
        intro T2 s2 y2 ys g1 g2 g3
        obtain ⟨T3, e3, f3⟩ := j2_spec (y0 := y0) (x := x) (i := (i : Int)) (r0 := rollcalllaw10_SetPlays.L0 (disp 2000 4) (fun _ => none) 2000 f) g2 (by omega)
        rw [e3, w64_id (by omega) (by omega), show ((i : Int) + 1) = ((i + 1 : Nat) : Int) by simp]
        exact ih (i + 1) T3 s2 y2 ys (by omega) (by omega) g1 (hG.fr fun id hid => (f3.eq id (by have := g2.gn; omega)).trans (g3 id hid)) (g2.fr f3)
      -- behind the document's rounds
      have hstep : ∀ (T2 : HS) (y2 : Sl) (ys : List Ky), Fr T.next T T2 → Rd T2.next T2 1 y2 (ys.map row1) → (y2.a = y6.a ∨ ∀ q, y2.a = some q → T.next ≤ q.1) → SI p s xs T2 ∧ (∀ q, y2.a = some q → ¬ Own p s q.1) := by
        intro T2 y2 ys f2 r2 hq
        refine ⟨hW.si.fr f2, fun q hq' => ?_⟩
        rcases hq with g1 | g1
        · exact hW.dis q (by rw [← g1]; exact hq')
        · intro ho; have := hW.si.lt ho; have := g1 q hq'; omega
      rw [if_neg (by omega), Option.bind_some, a2, Option.bind_some]
      have hkeepT : ∀ T2, Fr T.next T T2 → ∃ ad, T2.idx y0 (i : Int) 2 = some ad ∧ T2.ldSl (HA.fld ad 1) = some acs[i].2 ∧ T2.rows acs[i].2 1 = some (vals[i].map row1) := fun T2 f2 => by
        have hG2 : Gp g y0 acs vals T2 := hG.fr fun id hid => f2.eq id (by have := hW.gn; omega)
        obtain ⟨ad, a1, a2, a3⟩ := hG2.at_ (j := i) (by omega)
        exact ⟨ad, a1, a3, (hG2.inn i (by omega) hlt).1⟩
      have hno : ∀ q, acs[i].2.a = some q → ¬ Own p s q.1 := fun q hq ho => by have := hrl q hq; have := hW.lo _ ho; omega
      by_cases hk1 : acs[i].1 = 1
      · rw [if_pos hk1]
        have hrem : ∀ f2 j (T2 : HS) (y2 : Sl) (ys : List Ky), vals[i].length - j < f2 → j ≤ vals[i].length → Fr T.next T T2 → Rd T2.next T2 1 y2 (ys.map row1) → (y2.a = y6.a ∨ ∀ q, y2.a = some q → T.next ≤ q.1) → ys = (vals[i].take j).foldl (fun l t => wof t l) xs → ys.length ≤ xs.length →
            ∃ S', rollcalllaw10_SetPlays.L1 (disp 2000 4) (fun _ => none) 2000 (rollcalllaw10_SetPlays.L0 (disp 2000 4) (fun _ => none) 2000 f) f2 y0 x (some (HA.cell0 p)) y2 (i : Int) (xs.length : Int) (j : Int) T2 = some (true, S') := by
          intro f2
          induction f2 with
          | zero => intro j T2 y2 ys h; omega
          | succ f2 ih2 =>
            intro j T2 y2 ys g1 g2 g3 g4 g5 g6 g7
            obtain ⟨ad2, b1, b2, b3⟩ := hkeepT T2 g3
            rw [rollcalllaw10_SetPlays.L1, b1, Option.bind_some, b2, Option.bind_some, hl]
            by_cases hjl : j < vals[i].length
            · obtain ⟨ad3, c1, c2⟩ := ldK_at b3 hjl
              obtain ⟨y3, T3, e3, v3, f3⟩ := refRemove_spec (k := 2000) (t := vals[i][j]) g4 (by omega) (by omega)
              have le2 := g3.le
              rw [if_pos (by omega), Option.bind_some, b2, Option.bind_some, c1, Option.bind_some, c2, Option.bind_some, e3, Option.bind_some, w64_id (by omega) (by omega), show ((j : Int) + 1) = ((j + 1 : Nat) : Int) by simp]
              refine ih2 (j + 1) T3 y3 _ (by omega) (by omega) (g3.trans (f3.mono le2)) v3.rd (.inr fun q hq => by have := (v3.lo q hq).1; omega) ?_ (Nat.le_trans (List.length_filter_le _ _) g7)
              rw [List.take_succ_eq_append_getElem hjl, List.foldl_append, ← g6]; rfl
            · obtain rfl : j = vals[i].length := by omega
              rw [List.take_length] at g6
              obtain ⟨h1, h2, h3⟩ := rem_fold vals[i] xs hW.si.srt
              rw [← g6] at h1 h2
              obtain ⟨k1, k2⟩ := hstep T2 y2 ys g3 g4 g5
              obtain ⟨s3, xs3, T3, e3, i3, o3, m3, c3⟩ := remove_spec (k := 2000) (Nat.le_refl _) k1 b3 (fun q hq => ⟨by have := hrl q hq; have := hW.gn; have := g3.le; omega, hno q hq⟩) (by omega)
              have hxy : xs3 = ys := srt_ext i3.srt h1 fun v => by rw [m3, h2]
              subst hxy
              have hl2 : (y2.len : Int) = xs3.length := by rw [g4.len]; simp
              have le3 := o3.le
              have le2 := g3.le
              rw [if_neg (by omega), Option.bind_some, b2, Option.bind_some, e3, Option.bind_some]
              simp only
              rw [hl2, w64_id (by omega) (by omega), if_neg (by simp)]
              refine hdone T3 s3 y2 xs3 (by omega) ⟨i3, ⟨rows_keep g4.rows fun q hq => o3.eq q.1 (g4.lt q hq) (k2 q hq), fun q hq => by have := g4.lt q hq; omega⟩, fun q hq ho => ?_, fun id ho => ?_, by have := hW.gn; omega⟩ (fun id hid => ?_)
              · rcases o3.own _ ho with g | g
                · exact k2 q hq g
                · have := g4.lt q hq; omega
              · rcases o3.own _ ho with g | g
                · exact hW.lo id g
                · have := hW.gn; omega
              · have := hW.gn
                rw [o3.eq id (by omega) (fun ho => by have := hW.lo id ho; omega), g3.eq id (by omega)]
        have := hrem 2000 0 T y6 xs (by omega) (Nat.zero_le _) (Fr.refl _ _) hW.rd (.inl rfl) (by simp) (Nat.le_refl _)
        rw [hl6]
        exact this
      · rw [if_neg hk1]
        have hadd : ∀ f2 j (T2 : HS) (y2 : Sl) (ys : List Ky), vals[i].length - j < f2 → j ≤ vals[i].length → Fr T.next T T2 → Rd T2.next T2 1 y2 (ys.map row1) → (y2.a = y6.a ∨ ∀ q, y2.a = some q → T.next ≤ q.1) → ys = (vals[i].take j).foldl (fun l t => addL t l) xs → ys.length ≤ xs.length + j →
            ∃ S', rollcalllaw10_SetPlays.L7 (disp 2000 4) (fun _ => none) 2000 (rollcalllaw10_SetPlays.L0 (disp 2000 4) (fun _ => none) 2000 f) f2 y0 x (some (HA.cell0 p)) y2 (i : Int) (xs.length : Int) (j : Int) T2 = some (true, S') := by
          intro f2
          induction f2 with
          | zero => intro j T2 y2 ys h; omega
          | succ f2 ih2 =>
            intro j T2 y2 ys g1 g2 g3 g4 g5 g6 g7
            obtain ⟨ad2, b1, b2, b3⟩ := hkeepT T2 g3
            rw [rollcalllaw10_SetPlays.L7, b1, Option.bind_some, b2, Option.bind_some, hl]
            by_cases hjl : j < vals[i].length
            · obtain ⟨ad3, c1, c2⟩ := ldK_at b3 hjl
              obtain ⟨y3, T3, e3, v3, f3, q3⟩ := refAdd_spec (k := 2000) (t := vals[i][j]) g4 (by omega) (by omega)
              have le2 := g3.le
              rw [if_pos (by omega), Option.bind_some, b2, Option.bind_some, c1, Option.bind_some, c2, Option.bind_some, e3, Option.bind_some, w64_id (by omega) (by omega), show ((j : Int) + 1) = ((j + 1 : Nat) : Int) by simp]
              refine ih2 (j + 1) T3 y3 _ (by omega) (by omega) (g3.trans (f3.mono le2)) v3 ?_ ?_ (by have := (addL_len vals[i][j] ys).1; omega)
              · rcases q3 with rfl | q3
                · exact g5
                · exact .inr fun q hq => by have := q3 q hq; omega
              · rw [List.take_succ_eq_append_getElem hjl, List.foldl_append, ← g6]; rfl
            · obtain rfl : j = vals[i].length := by omega
              rw [List.take_length] at g6
              obtain ⟨h1, h2⟩ := all_srt vals[i] xs hW.si.srt
              rw [← g6] at h1 h2
              obtain ⟨k1, k2⟩ := hstep T2 y2 ys g3 g4 g5
              obtain ⟨s3, xs3, T3, e3, i3, o3, m3, c3, c3'⟩ := add_spec (k := 2000) (Nat.le_refl _) k1 b3 (fun q hq => ⟨by have := hrl q hq; have := hW.gn; have := g3.le; omega, hno q hq⟩) (by omega)
              have hxy : xs3 = ys := srt_ext i3.srt h1 fun v => by rw [m3, h2]; exact Or.comm
              subst hxy
              have hl2 : (y2.len : Int) = xs3.length := by rw [g4.len]; simp
              have le3 := o3.le
              have le2 := g3.le
              rw [if_neg (by omega), Option.bind_some, b2, Option.bind_some, e3, Option.bind_some]
              simp only
              rw [hl2, w64_id (by omega) (by omega), if_neg (by simp)]
              refine hdone T3 s3 y2 xs3 (by omega) ⟨i3, ⟨rows_keep g4.rows fun q hq => o3.eq q.1 (g4.lt q hq) (k2 q hq), fun q hq => by have := g4.lt q hq; omega⟩, fun q hq ho => ?_, fun id ho => ?_, by have := hW.gn; omega⟩ (fun id hid => ?_)
              · rcases o3.own _ ho with g | g
                · exact k2 q hq g
                · have := g4.lt q hq; omega
              · rcases o3.own _ ho with g | g
                · exact hW.lo id g
                · have := hW.gn; omega
              · have := hW.gn
                rw [o3.eq id (by omega) (fun ho => by have := hW.lo id ho; omega), g3.eq id (by omega)]
        have := hadd 2000 0 T y6 xs (by omega) (Nat.zero_le _) (Fr.refl _ _) hW.rd (.inl rfl) (by simp) (Nat.le_refl _)
        rw [hl6]
        exact this
    · rw [if_neg (by omega)]; exact ⟨T, rfl⟩
theorem setPlays_law {S : HS} {y0 : Sl} {x : Int} {acs : List Ac} {vals : List (List Ky)} (hG : Gp S.next y0 acs vals S) : ∃ S', rollcalllaw10_SetPlays.f (disp 2000 4) (fun _ => none) 2000 y0 x S = some (true, S') := by
  obtain ⟨A, e1, f1⟩ := awake2_spec S
  have hal := hG.len
  have hy0 : (y0.len : Int) = vals.length := by rw [← rows_len hG.rows]; simp [hal]
  rw [rollcalllaw10_SetPlays.f, e1, Option.bind_some, if_neg (by simp), hy0]
  by_cases h30 : vals.length > 30
  · rw [if_pos (by omega)]; exact ⟨A, rfl⟩
  · obtain ⟨s, xs, B, e2, i2, f2, o2, m2, c2⟩ := of_spec (k := 2000) (sl := Sl.nil) (ls := []) (S := A) (Nat.le_refl _) ⟨rfl, fun q hq => by cases hq⟩ (by simp)
    have hx : xs = [] := by simpa using c2
    subst hx
    have le1 := f1.le
    have le2 := f2.le
    rw [if_neg (by omega), e2, Option.bind_some]
    simp only
    have := plays_loop (g := A.next) (x := x) (by omega) 2000 0 B s Sl.nil [] (by omega) (Nat.zero_le _) (by simp) ⟨(hG.fr fun id hid => (f2.eq id (by omega)).trans (f1.eq id hid)).rows, fun q hq => by have := hG.lt q hq; omega, hal, fun j h1 h2 => ⟨((hG.fr (S' := B) fun id hid => (f2.eq id (by omega)).trans (f1.eq id hid)).inn j h1 h2).1, fun q hq => by have := (hG.inn j h1 h2).2 q hq; omega⟩⟩ ⟨i2, ⟨rfl, fun q hq => by cases hq⟩, fun q hq => (by cases hq), o2, le2⟩
    rw [show ((0 : Nat) : Int) = 0 from rfl] at this
    exact this
end KI
theorem rows_acts {S : HS} {t e : TypeId} : ∀ {rows : List (List HV)}, (∀ row ∈ rows, NFits S [.sc (.int .i64), .sl t e [.int .i64]] row) → ∃ (acs : List KI.Ac) (vals : List (List Int)), rows = acs.map KI.acRow ∧ acs.length = vals.length ∧ ∀ j (h : j < acs.length) (h' : j < vals.length), ArgSl S 1 acs[j].2 (vals[j].map KI.row1) := by
  intro rows
  induction rows with
  | nil => intro _; exact ⟨[], [], rfl, rfl, fun j h => by simp at h⟩
  | cons r rows ih =>
    intro h
    obtain ⟨acs, vals, e1, e2, e3⟩ := ih fun row hr => h row (by simp [hr])
    have h0 := h r (by simp)
    rcases r with _ | ⟨u, _ | ⟨v, _ | ⟨w, r⟩⟩⟩
    · exact h0.elim
    · exact h0.2.elim
    · obtain ⟨⟨n, hn, _⟩, ⟨s, rs, hv, hs, hf⟩, _⟩ := h0
      obtain ⟨ls, rfl⟩ := rows_ints hf
      refine ⟨(n, s) :: acs, ls :: vals, by rw [e1, hv, hn]; rfl, by simp [e2], fun j hj hj' => ?_⟩
      cases j with
      | zero => exact hs
      | succ j => exact e3 j (by simpa using hj) (by simpa using hj')
    · exact h0.2.2.elim
theorem setPlays_call (W : World) (β0 : Bt) (S : HS) (s0 : Sl) (rows0 : List (List HV)) (h0 : ArgSl S 2 s0 rows0) (t e : TypeId) (f0 : ∀ row ∈ rows0, NFits S [.sc (.int .i64), .sl t e [.int .i64]] row) (x : Int) (w1 : (Lit.int .i64 x).wf = true) :
    HCall Try.prog W.heap.size W β0 4 [s0.hv, .int .i64 x] S (fun v _ => v = .bool true) := by
  obtain ⟨acs, vals, rfl, h1, h2⟩ := rows_acts f0
  obtain ⟨_, h⟩ := KI.setPlays_law (x := x) ⟨h0.rows, fun q hq => h0.rd.lt q hq, h1, fun j hj hj' => ⟨(h2 j hj hj').rows, fun q hq => (h2 j hj hj').rd.lt q hq⟩⟩
  exact (rollcalllaw10_SetPlays.snd (disp_snd 4) (fun _ _ h => by cases h) h).mono fun _ _ h => h.1
end Go.Proofs.Ytpdainofeaombaa.X
