/- The layer pair: PairPlays, its rounds, plain. -/
import Derived.Test.YtdgmehfhgppheaaPpLaw
namespace Go.Proofs.Ytdgmehfhgppheaa.X
open Go.Proofs.Ytdgmehfhgppheaa.HL
set_option linter.unusedVariables false
set_option maxRecDepth 100000
/-- An act is laid in a cell of its own. -/
theorem lay_act (T : HS) (a : Ac) : ∃ A, (T.new (.cells 3 [[.int .i64 0, .int .i64 0, .str []]] true)).sets (HA.cell0 T.next) [.int .i64 a.1, .int .i64 a.2.1, .str a.2.2] = some A ∧ A.heap T.next = .cells 3 [actRow a] true ∧ Fr T.next T A ∧ A.next = T.next + 1 := by
  refine ⟨_, (sets_row (new_here T _) rfl (by simp)).trans rfl, put_here _ _ _, (Fr.new (Nat.le_refl _) _).trans (Fr.put (Nat.le_refl _) _), rfl⟩
theorem plays_loop {g r m1 m2 p : Nat} {most : Int} {y1 : Sl} {B : HS} {ls : List Ac} (hls : ls.length ≤ 40) (hrows : B.rows y1 3 = some (ls.map actRow)) (hy : ∀ q, y1.a = some q → q.1 < g) :
    ∀ (f i : Nat) (T : HS) (E1 : List MA.En) (E2 : List MB.En) (s : Sl) (L : List Pr), ls.length - i < f → i ≤ ls.length → Two g r m1 m2 p i most E1 E2 s L T → (∀ id, id < g → T.heap id = B.heap id) →
    ∃ T', rollcalllaw11_PairPlays.L2 (disp 2000 4) (fun _ => none) 2000 f y1 (some (HA.cell0 r)) (some (HA.cell0 p)) (i : Int) T = some (true, T') := by
  intro f
  induction f with
  | zero => intro i T E1 E2 s L h; omega
  | succ f ih =>
    intro i T E1 E2 s L hf hi h hk
    have hr : T.rows y1 3 = some (ls.map actRow) := rows_keep hrows fun q hq => hk _ (hy q hq)
    have hsl : (y1.len : Int) = ls.length := by rw [← rows_len hr]; simp
    have hgn := h.gn
    rw [rollcalllaw11_PairPlays.L2, hsl]
    by_cases hlt : i < ls.length
    · obtain ⟨ad, a1, a2, a3, a4⟩ := act_rows hr hlt
      obtain ⟨A, b1, b2, fA, nA⟩ := lay_act T ls[i]
      rw [if_pos (by omega), a1, Option.bind_some, a2, Option.bind_some, a3, Option.bind_some, a4, Option.bind_some, letv, b1, Option.bind_some]
      have hA := h.fr fA
      have hrowA := cell_row b2
      have hll := h.ri.ll
      have hlA : ∀ id, OR r m1 m2 E1 E2 id → id < T.next := fun id ho => h.ri.ltO ho
      have hlP : ∀ id, Own p s id → id < T.next := fun id ho => h.rp.ltO ho
      have hend : ∀ (E1' : List MA.En) (E2' : List MB.En) (s' : Sl) (L' : List Pr) (S1 S2 : HS), RelI r m1 m2 (i + 1) most E1' E2' L' S1 → Chg (OR r m1 m2 E1 E2) (OR r m1 m2 E1' E2') A S1 → RefP p most s' L' S2 → Only p s s' S1 S2 →
          ∃ T', rollcalllaw11_PairPlays.J3 (disp 2000 4) (fun _ => none) 2000 (rollcalllaw11_PairPlays.L2 (disp 2000 4) (fun _ => none) 2000 f) y1 (some (HA.cell0 r)) (some (HA.cell0 p)) (i : Int) (some (HA.cell0 T.next)) true S2 = some (true, T') := by
        intro E1' E2' s' L' S1 S2 g1 g2 g3 g4
        obtain ⟨k1, k2⟩ := hA.step g1 g2 g3 g4
        have c1 := g2.le
        have c2 := g4.le
        have hac : S2.heap T.next = .cells 3 [actRow ls[i]] true := by
          rw [g4.eq _ (by omega) (fun q => by have := hlP _ q; omega), g2.eq _ (by omega) (fun q => by have := hlA _ q; omega)]; exact b2
        obtain ⟨T3, e3, f3⟩ := j3_spec (at_ := T.next) (y1 := y1) (i := (i : Int)) (ac := ls[i]) (r0 := rollcalllaw11_PairPlays.L2 (disp 2000 4) (fun _ => none) 2000 f) k1 (by omega) hac (by omega)
        rw [e3, w64_id (by omega) (by omega), show ((i : Int) + 1) = ((i + 1 : Nat) : Int) by simp]
        have := k1.gn
        exact ih (i + 1) T3 E1' E2' s' L' (by omega) (by omega) (k1.fr f3) (fun id hid => by rw [f3.eq id (by omega), k2 id hid, fA.eq id (by omega), hk id hid])
      have ld : ∀ (S1 : HS) (E1' : List MA.En) (E2' : List MB.En), Chg (OR r m1 m2 E1 E2) (OR r m1 m2 E1' E2') A S1 → S1.row T.next 0 = some (actRow ls[i]) := fun S1 E1' E2' ch => by
        have := cell_row ((ch.eq T.next (by omega) (fun q => by have := hlA _ q; omega)).trans b2)
        exact this
      have k0 : A.ldI .i64 (HA.fld (HA.cell0 T.next) 0) = some ls[i].1 := row_ldI hrowA rfl rfl
      have k1 : A.ldI .i64 (HA.fld (HA.cell0 T.next) 1) = some ls[i].2.1 := row_ldI hrowA rfl rfl
      have k2 : A.ldS (HA.fld (HA.cell0 T.next) 2) = some ls[i].2.2 := row_ldS hrowA rfl rfl
      rw [k0, Option.bind_some]
      by_cases hk1 : ls[i].1 = 1
      · obtain ⟨E1', E2', S1, e1, g1, g2⟩ := remove_rel (k := 2000) (Nat.le_refl _) hA.ri ls[i].2.1 ls[i].2.2
        obtain ⟨s', S2, e2, q1, q2⟩ := ref_keep (k := 2000) (Nat.le_refl _) (hA.ref (n' := i) g2) ls[i].2.1 ls[i].2.2 false
        rw [keep_one] at e2 q1
        have hrow1 := ld S1 E1' E2' g2
        rw [if_pos hk1, k1, Option.bind_some, k2, Option.bind_some, e1, Option.bind_some]
        simp only [show S1.ldI .i64 (HA.fld (HA.cell0 T.next) 1) = some ls[i].2.1 from row_ldI hrow1 rfl rfl, show S1.ldS (HA.fld (HA.cell0 T.next) 2) = some ls[i].2.2 from row_ldS hrow1 rfl rfl, Option.bind_some, if_true]
        rw [e2, Option.bind_some]
        have hb : (decide ((ls[i].2.1, ls[i].2.2) ∈ L) == decide ((L.length : Int) - (wo (ls[i].2.1, ls[i].2.2) L).length = 1)) = true := by
          by_cases hin : (ls[i].2.1, ls[i].2.2) ∈ L
          · have := List.length_pos_of_mem hin
            rw [wo_len h.ri.nd hin, decide_eq_true hin, decide_eq_true (by omega)]; rfl
          · rw [wo_no hin, decide_eq_false hin, decide_eq_false (by omega)]; rfl
        simp only [hb]
        exact hend E1' E2' s' _ S1 S2 (g1.mono (by omega) (by omega)) g2 q1 q2
      · rw [if_neg hk1]
        obtain ⟨xs, x1, x2, x3, _⟩ := hA.ri.at1 ls[i].2.1
        by_cases hk2 : ls[i].1 = 2
        · obtain ⟨E1', E2', S1, e1, g1, g2, g3⟩ := drop_rel (nD := 2) hA.ri ls[i].2.1 x1 x2
          obtain ⟨s', S2, e2, q1, q2⟩ := ref_keep (k := 2000) (Nat.le_refl _) (hA.ref (n' := i) g2) ls[i].2.1 [] true
          rw [keep_all] at e2 q1
          have hrow1 := ld S1 E1' E2' g2
          rw [if_pos hk2, k1, Option.bind_some, e1, Option.bind_some]
          simp only [show S1.ldI .i64 (HA.fld (HA.cell0 T.next) 1) = some ls[i].2.1 from row_ldI hrow1 rfl rfl, Option.bind_some, if_true]
          rw [e2, Option.bind_some]
          simp only [show decide ((xs.length : Int) = (L.length : Int) - (dropA ls[i].2.1 L).length) = true from decide_eq_true (by omega)]
          exact hend E1' E2' s' _ S1 S2 (g1.mono (by omega) (by omega)) g2 q1 q2
        · obtain ⟨E1', E2', S1, e1, g1, g2⟩ := add_rel (k := 2000) (Nat.le_refl _) hA.ri (by omega) ls[i].2.1 ls[i].2.2 x1 x2
          obtain ⟨s', S2, e2, q1, q2⟩ := ref_add (k := 2000) (Nat.le_refl _) (hA.ref (n' := i) g2) ls[i].2.1 ls[i].2.2 (by omega) x1 x2
          have hrow1 := ld S1 E1' E2' g2
          rw [if_neg hk2, k1, Option.bind_some, k2, Option.bind_some, e1, Option.bind_some]
          simp only [show S1.ldI .i64 (HA.fld (HA.cell0 T.next) 1) = some ls[i].2.1 from row_ldI hrow1 rfl rfl, show S1.ldS (HA.fld (HA.cell0 T.next) 2) = some ls[i].2.2 from row_ldS hrow1 rfl rfl, Option.bind_some, if_true]
          rw [e2, Option.bind_some]
          simp only [decide_true]
          exact hend E1' E2' s' _ S1 S2 g1 g2 q1 q2
    · rw [if_neg (by omega)]; exact ⟨T, rfl⟩
/-- A new relation. -/
theorem new_rel {most : Int} (h0 : 0 ≤ most) (h1 : most ≤ 100000) (S : HS) : ∃ S', pair_New_int_string.f most S = some ((some (HA.cell0 (S.next + 2)), 0), S') ∧ RelI (S.next + 2) S.next (S.next + 1) 0 most [] [] [] S' ∧ Fr S.next S S' ∧ S'.next = S.next + 3 ∧ (∀ id, OR (S.next + 2) S.next (S.next + 1) [] [] id → S.next ≤ id) := by
  rw [pair_New_int_string.f, if_neg (by omega), pair_New_int_string.J0, if_neg (by rw [decide_eq_false (by omega)]; simp), letv, letv, letv]
  have e1 : ((S.new (.map [])).new (.map [])).heap S.next = .map [] := by rw [new_old _ (by rw [new_next]; omega)]; exact new_here _ _
  have e2 : ((S.new (.map [])).new (.map [])).heap (S.next + 1) = .map [] := new_here (S.new _) _
  have n2 : ((S.new (.map [])).new (.map [])).next = S.next + 2 := rfl
  have f2 : Fr S.next S ((S.new (.map [])).new (.map [])) := (Fr.new (Nat.le_refl _) _).trans (Fr.new (by rw [new_next]; omega) _)
  rw [show (S.new (.map [])).next = S.next + 1 from rfl, n2]
  generalize (S.new (.map [])).new (.map []) = T at e1 e2 n2 f2 ⊢
  have f3 : Fr T.next T (T.new (.cells 4 [[.int .i64 most, .int .i64 0, .map (some S.next), .map (some (S.next + 1))]] true)) := Fr.new (Nat.le_refl _) _
  refine ⟨_, rfl, ⟨by rw [← n2]; exact new_here _ _, ⟨(f3.eq _ (by omega)).trans e1, List.Pairwise.nil, fun e h => (by cases h), List.Pairwise.nil, fun e h => (by cases h), by rw [new_next]; omega⟩, ⟨(f3.eq _ (by omega)).trans e2, List.Pairwise.nil, fun e h => (by cases h), List.Pairwise.nil, fun e h => (by cases h), by rw [new_next]; omega⟩, fun id g1 g2 => ?_, fun g => ?_, fun g => ?_, by rw [new_next]; omega, fun a b => ⟨fun ⟨e, h, _⟩ => (by cases h), fun h => (by cases h)⟩, fun a b => ⟨fun ⟨e, h, _⟩ => (by cases h), fun h => (by cases h)⟩, fun e h => (by cases h), fun e h => (by cases h), fun e h => (by cases h), fun e h => (by cases h), List.nodup_nil, Nat.le_refl _, by omega⟩, f2.trans (f3.mono (by omega)), by rw [new_next]; omega, fun id g => ?_⟩
  · rcases g1 with g1 | ⟨e, h, _⟩
    · rcases g2 with g2 | ⟨e, h, _⟩
      · omega
      · cases h
    · cases h
  · rcases g with g | ⟨e, h, _⟩
    · omega
    · cases h
  · rcases g with g | ⟨e, h, _⟩
    · omega
    · cases h
  · rcases g with g | (g | ⟨e, h, _⟩) | (g | ⟨e, h, _⟩)
    · omega
    · omega
    · cases h
    · omega
    · cases h
theorem pairPlays_law {S : HS} {most : Int} {y1 : Sl} {ls : List Ac} (hn : S.next = 1) (hr : Rd S.next S 3 y1 (ls.map actRow)) : ∃ S', rollcalllaw11_PairPlays.f (disp 2000 4) (fun _ => none) 2000 most y1 S = some (true, S') := by
  rw [rollcalllaw11_PairPlays.f]
  obtain ⟨A, e1, f1⟩ := awake_spec hn
  have l1 : 1 ≤ A.next := by have := f1.le; omega
  have hr1 : Rd 1 A 3 y1 (ls.map actRow) := (hn ▸ hr).frame f1 (Nat.le_refl _)
  obtain ⟨b, e2, hb⟩ := great_spec hr1.rows
  rw [e1, Option.bind_some, if_neg (by simp), e2, Option.bind_some]
  cases b with
  | true => rw [if_pos rfl]; exact ⟨A, rfl⟩
  | false =>
    have h40 := hb rfl
    rw [if_neg (by simp)]
    by_cases hneg : most < 0
    · rw [pair_New_int_string.f, if_pos hneg, pair_New_int_string.J0, if_pos rfl, Option.bind_some]
      rw [if_pos hneg, rollcalllaw11_PairPlays.J0, if_pos rfl, if_pos rfl, rollcalllaw11_PairPlays.J1]
      exact ⟨A, rfl⟩
    · by_cases hbig : most > 100000
      · rw [pair_New_int_string.f, if_neg hneg, pair_New_int_string.J0, if_pos (decide_eq_true hbig), Option.bind_some]
        rw [if_neg hneg, rollcalllaw11_PairPlays.J0, if_pos (decide_eq_true hbig), if_pos rfl, rollcalllaw11_PairPlays.J1]
        exact ⟨A, rfl⟩
      · obtain ⟨B, e3, r3, f3, n3, o3⟩ := new_rel (most := most) (by omega) (by omega) A
        rw [e3, Option.bind_some, if_neg hneg, rollcalllaw11_PairPlays.J0, if_neg (by rw [decide_eq_false hbig]; simp), if_neg (by simp), letv]
        have f4 : Fr B.next B (B.new (.cells 2 [[.int .i64 most, Sl.nil.hv]] true)) := Fr.new (Nat.le_refl _) _
        have hrp : RefP B.next most Sl.nil [] (B.new (.cells 2 [[.int .i64 most, Sl.nil.hv]] true)) := ⟨new_here _ _, rfl, fun q hq => (by cases hq), Nat.lt_succ_self _, by simp⟩
        have hr4 : Rd 1 (B.new (.cells 2 [[.int .i64 most, Sl.nil.hv]] true)) 3 y1 (ls.map actRow) := (hr1.frame f3 l1).frame f4 (by omega)
        have htwo : Two A.next (A.next + 2) A.next (A.next + 1) B.next 0 most [] [] Sl.nil [] (B.new (.cells 2 [[.int .i64 most, Sl.nil.hv]] true)) := ⟨r3.fr f4, hrp, fun id g1 g2 => (by
          have := r3.ltO g1
          rcases g2 with g2 | ⟨q, g2, _⟩
          · omega
          · cases g2), o3, fun id g => (by
          rcases g with g | ⟨q, g, _⟩
          · omega
          · cases g), by rw [new_next]; omega⟩
        have := plays_loop h40 hr4.rows (fun q hq => by have := hr4.lt q hq; omega) 2000 0 _ [] [] Sl.nil [] (by omega) (Nat.zero_le _) htwo (fun _ _ => rfl)
        rw [show ((0 : Nat) : Int) = 0 from rfl] at this
        exact this
theorem rows_acts : ∀ {rows : List (List HV)}, (∀ row ∈ rows, RowFits [.int .i64, .int .i64, .str] row) → ∃ ls : List Ac, rows = ls.map actRow := by
  intro rows
  induction rows with
  | nil => intro _; exact ⟨[], rfl⟩
  | cons r rows ih =>
    intro h
    obtain ⟨ls, e⟩ := ih fun row hr => h row (by simp [hr])
    have h0 := h r (by simp)
    have hl := h0.len
    obtain ⟨v0, v1, v2, rfl⟩ : ∃ v0 v1 v2, r = [v0, v1, v2] := by
      match r, hl with
      | [a, b, c], _ => exact ⟨a, b, c, rfl⟩
    obtain ⟨q0, q1, q2, _⟩ := h0
    obtain ⟨n, h1, _⟩ := q0
    obtain ⟨m, h2, _⟩ := q1
    obtain ⟨s, h3, _⟩ := q2
    exact ⟨(n, m, s) :: ls, by rw [e, h1, h2, h3]; rfl⟩
theorem pairPlays_call (W : World) (β0 : Bt) (S : HS) (most : Int) (w0 : (Lit.int .i64 most).wf = true) (s1 : Sl) (rows1 : List (List HV)) (h1 : ArgSl S 3 s1 rows1) (f1 : ∀ row ∈ rows1, RowFits [.int .i64, .int .i64, .str] row) (hn : S.next = 1 := by rfl) :
    HCall Try.prog W.heap.size W β0 3 [.int .i64 most, s1.hv] S (fun v _ => v = .bool true) := by
  obtain ⟨ls, rfl⟩ := rows_acts f1
  obtain ⟨_, h⟩ := pairPlays_law (most := most) hn h1.rd
  exact (rollcalllaw11_PairPlays.snd (disp_snd 4) (fun _ _ h => by cases h) h).mono fun _ _ h => h.1
end Go.Proofs.Ytdgmehfhgppheaa.X
