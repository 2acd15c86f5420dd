/- The layer pair: PairStays, plain. -/
import Derived.Test.YtdgmehfhgppheaaPsRel
namespace Go.Proofs.Ytdgmehfhgppheaa.X
open Go.Proofs.Ytdgmehfhgppheaa.HL
set_option linter.unusedVariables false
set_option maxRecDepth 100000
theorem awake_at (h : Nat → HObj) (m : Nat → Bool) : (rollcalllaw11_awake.f (disp 2000 4) (fun _ => none) 2000 ⟨h, 2, m⟩).map (fun p => (p.1, p.2.heap 0, p.2.heap 1, decide (2 ≤ p.2.next))) = some (true, h 0, h 1, true) := by kernel_rfl
theorem awake_spec {S : HS} (hn : S.next = 2) : ∃ S', rollcalllaw11_awake.f (disp 2000 4) (fun _ => none) 2000 S = some (true, S') ∧ Fr 2 S S' := by
  obtain ⟨h, n, m⟩ := S
  obtain rfl : n = 2 := hn
  have e := awake_at h m
  cases hq : rollcalllaw11_awake.f (disp 2000 4) (fun _ => none) 2000 ⟨h, 2, m⟩ with
  | none => rw [hq] at e; cases e
  | some p =>
    rw [hq] at e
    simp only [Option.map_some, Option.some.injEq, Prod.mk.injEq, decide_eq_true_eq] at e
    obtain ⟨e1, e2, e3, e4⟩ := e
    obtain ⟨b, S'⟩ := p
    simp only at e1 e2 e3 e4
    subst e1
    refine ⟨S', rfl, e4, fun id hid => ?_⟩
    rcases (show id = 0 ∨ id = 1 by omega) with rfl | rfl
    · exact e2
    · exact e3
theorem new_rel {most : Int} (h0 : 0 ≤ most) (h1 : most ≤ 100000) (S : HS) : ∃ S', pair_New_int_int.f most S = some ((some (HA.cell0 (S.next + 2)), 0), S') ∧ RelI (S.next + 2) S.next (S.next + 1) 0 most [] [] [] S' ∧ Fr S.next S S' ∧ S'.next = S.next + 3 ∧ (∀ id, OR (S.next + 2) S.next (S.next + 1) [] [] id → S.next ≤ id) := by
  rw [pair_New_int_int.f, if_neg (by omega), pair_New_int_int.J0, if_neg (by rw [decide_eq_false (by omega)]; simp), letv, letv, letv]
  have e1 : ((S.new (.map [])).new (.map [])).heap S.next = .map [] := by rw [new_old _ (by rw [new_next]; omega)]; exact new_here _ _
  have e2 : ((S.new (.map [])).new (.map [])).heap (S.next + 1) = .map [] := new_here (S.new _) _
  have n2 : ((S.new (.map [])).new (.map [])).next = S.next + 2 := rfl
  have f2 : Fr S.next S ((S.new (.map [])).new (.map [])) := (Fr.new (Nat.le_refl _) _).trans (Fr.new (by rw [new_next]; omega) _)
  rw [show (S.new (.map [])).next = S.next + 1 from rfl, n2]
  generalize (S.new (.map [])).new (.map []) = T at e1 e2 n2 f2 ⊢
  have f3 : Fr T.next T (T.new (.cells 4 [[.int .i64 most, .int .i64 0, .map (some S.next), .map (some (S.next + 1))]] true)) := Fr.new (Nat.le_refl _) _
  refine ⟨_, rfl, ⟨by rw [← n2]; exact new_here _ _, ⟨(f3.eq _ (by omega)).trans e1, List.Pairwise.nil, fun e h => (by cases h), List.Pairwise.nil, fun e h => (by cases h), by rw [new_next]; omega⟩, ⟨(f3.eq _ (by omega)).trans e2, List.Pairwise.nil, fun e h => (by cases h), List.Pairwise.nil, fun e h => (by cases h), by rw [new_next]; omega⟩, fun id g1 g2 => ?_, fun g => ?_, fun g => ?_, by rw [new_next]; omega, fun a b => ⟨fun ⟨e, h, _⟩ => (by cases h), fun h => (by cases h)⟩, fun a b => ⟨fun ⟨e, h, _⟩ => (by cases h), fun h => (by cases h)⟩, fun e h => (by cases h), fun e h => (by cases h), fun e h => (by cases h), fun e h => (by cases h), List.nodup_nil, Nat.le_refl _, by omega⟩, f2.trans (f3.mono (by omega)), by rw [new_next]; omega, fun id g => ?_⟩
  · rcases g1 with g1 | ⟨e, h, _⟩
    · rcases g2 with g2 | ⟨e, h, _⟩
      · omega
      · cases h
    · cases h
  · rcases g with g | ⟨e, h, _⟩
    · omega
    · cases h
  · rcases g with g | ⟨e, h, _⟩
    · omega
    · cases h
  · rcases g with g | (g | ⟨e, h, _⟩) | (g | ⟨e, h, _⟩)
    · omega
    · omega
    · cases h
    · omega
    · cases h
/-- One who tells nothing. -/
theorem none48_tells {n : Nat} (S : HS) : Tells (disp 2000 (n + 1)) (.fn (.func 48) [] []) (([] : List KS.Ky).map KS.row1) (fun _ => False) S := by
  intro H l I Stop ht O T hI hB
  refine ⟨T, O, ?_, Nat.le_refl _, fun _ _ _ => rfl, fun _ h => .inl h, .inl hI⟩
  rw [disp_func]
  repeat rw [if_neg (by decide)]
  rw [if_pos rfl, call_48]
  rfl
theorem none54_tells {n : Nat} (S : HS) : Tells (disp 2000 (n + 1)) (.fn (.func 54) [] []) (([] : List KI.Ky).map KI.row1) (fun _ => False) S := by
  intro H l I Stop ht O T hI hB
  refine ⟨T, O, ?_, Nat.le_refl _, fun _ _ _ => rfl, fun _ h => .inl h, .inl hI⟩
  rw [disp_func]
  repeat rw [if_neg (by decide)]
  rw [if_pos rfl, call_54]
  rfl
/-- A nil relation drops nothing. -/
theorem drop_none {n : Nat} (S : HS) : ∃ S', pair_Rel_int_string_Drop.f (disp 2000 (n + 1)) (fun _ => none) 2000 none 1 S = some (0, S') ∧ Fr S.next S S' := by
  rw [pair_Rel_int_string_Drop.f, letv, letv, letv]
  simp only [new_next]
  have n3 : (((S.new (.cells 1 [[.ptr none]] true)).new (.cells 1 [[.int .i64 1]] true)).new (.cells 1 [[.int .i64 0]] true)).next = S.next + 3 := rfl
  have f3 : Fr S.next S (((S.new (.cells 1 [[.ptr none]] true)).new (.cells 1 [[.int .i64 1]] true)).new (.cells 1 [[.int .i64 0]] true)) := ((Fr.new (Nat.le_refl _) _).trans (Fr.new (by simp only [new_next]; omega) _)).trans (Fr.new (by simp only [new_next]; omega) _)
  have c0 : (((S.new (.cells 1 [[.ptr none]] true)).new (.cells 1 [[.int .i64 1]] true)).new (.cells 1 [[.int .i64 0]] true)).heap S.next = .cells 1 [[.ptr none]] true := by
    rw [new_old _ (by simp only [new_next]; omega), new_old _ (by simp only [new_next]; omega)]; exact new_here _ _
  have c1 : (((S.new (.cells 1 [[.ptr none]] true)).new (.cells 1 [[.int .i64 1]] true)).new (.cells 1 [[.int .i64 0]] true)).heap (S.next + 1) = .cells 1 [[.int .i64 1]] true := by
    rw [new_old _ (by simp only [new_next]; omega)]; exact new_here (S.new _) _
  have c2 : (((S.new (.cells 1 [[.ptr none]] true)).new (.cells 1 [[.int .i64 1]] true)).new (.cells 1 [[.int .i64 0]] true)).heap (S.next + 2) = .cells 1 [[.int .i64 0]] true := new_here ((S.new _).new _) _
  rw [show S.next + 1 + 1 = S.next + 2 from rfl]
  generalize ((S.new (.cells 1 [[.ptr none]] true)).new (.cells 1 [[.int .i64 1]] true)).new (.cells 1 [[.int .i64 0]] true) = T0 at n3 f3 c0 c1 c2 ⊢
  rw [sets_cell _ c2, Option.bind_some]
  have f4 : Fr S.next S (T0.put (S.next + 2) (.cells 1 [[.int .i64 0]] true)) := f3.trans (Fr.put (by omega) _)
  have d0 : (T0.put (S.next + 2) (.cells 1 [[.int .i64 0]] true)).heap S.next = .cells 1 [[.ptr none]] true := by rw [put_other _ (by omega)]; exact c0
  have d1 : (T0.put (S.next + 2) (.cells 1 [[.int .i64 0]] true)).heap (S.next + 1) = .cells 1 [[.int .i64 1]] true := by rw [put_other _ (by omega)]; exact c1
  have d2 : (T0.put (S.next + 2) (.cells 1 [[.int .i64 0]] true)).heap (S.next + 2) = .cells 1 [[.int .i64 0]] true := put_here _ _ _
  have n4 : (T0.put (S.next + 2) (.cells 1 [[.int .i64 0]] true)).next = S.next + 3 := n3
  generalize T0.put (S.next + 2) (.cells 1 [[.int .i64 0]] true) = T at f4 d0 d1 d2 n4 ⊢
  rw [ldP_cell d0, Option.bind_some, ldI_cell d1, Option.bind_some, pair_Rel_int_string_Of.f, if_pos (by rfl), Option.bind_some]
  obtain ⟨T2, st, S', O', e2, e3, de, n5, ch, lt, hn, hsq⟩ := range_tells (D := disp 2000 (n + 1)) (H := fun _ => none) (fv := .fn (.func 48) [] []) (S := T) (vs := ([] : List KS.Ky).map KS.row1) (K := fun _ => False) (hd := fun vs U =>
      Option.bind (HS.lp U (T.next + 1)) fun _ => Option.bind (args1 vs) fun ar => Option.bind (dS ar) fun p => pair_Rel_int_string_Drop.J0 (disp 2000 (n + 1)) (fun _ => none) 2000 (T.next + 1) (some (HA.cell0 S.next)) (some (HA.cell0 (S.next + 1))) (some (HA.cell0 (S.next + 2))) p U)
    (bd := fun _ _ => none) (none48_tells T) (fun id g => g.elim)
    (fun i O U => (∀ id, O id ↔ id = S.next + 2) ∧ U.heap (S.next + 2) = .cells 1 [[.int .i64 0]] true)
    (fun _ _ _ => False)
    (fun i O U U' ⟨g1, g2⟩ hk hn => ⟨g1, (hk _ ((g1 _).2 rfl)).trans g2⟩)
    (fun _ _ _ _ h => h.elim)
    (fun id => id = S.next + 2) (fun id g => by omega) ⟨fun _ => Iff.rfl, d2⟩ (fun id g hk => hk.elim)
    (fun i hi => by simp at hi) (fun i hi => by simp at hi)
  erw [e2]
  rw [Option.bind_some]
  simp only [e3, Option.bind_some]
  have hle := ch.le
  cases hst : st with
  | some c => exact (hsq c hst).elim
  | none =>
    obtain ⟨g1, g2⟩ := hn hst
    simp only [pcode, Option.bind_some, if_true]
    rw [ldI_cell g2, Option.bind_some]
    simp only [HS.leave, de, Option.bind_some]
    exact ⟨_, rfl, by rw [put_next]; omega, fun id hid => by rw [put_other _ (by omega), ch.eq id (by omega) (by omega), f4.eq id hid]⟩
theorem ints_at {S : HS} {s : Sl} {xs : List Int} (h : S.rows s 1 = some (xs.map KI.row1)) {i : Nat} (hi : i < xs.length) : ∃ ad, S.idx s (i : Int) 1 = some ad ∧ S.ldI .i64 ad = some xs[i] := KI.ldK_at h hi
/-- Each is put with a seven. -/
theorem put_loop {g r m1 m2 cR cP : Nat} {y0 : Sl} {B : HS} {ls : List Int} (hls : ls.length ≤ 30) (hgB : g ≤ B.next) (hrows : B.rows y0 1 = some (ls.map KI.row1)) (hy : ∀ q, y0.a = some q → q.1 < g) (hP : B.heap cP = .cells 1 [[.ptr (some (HA.cell0 r))]] true) :
    ∀ (f i : Nat) (T : HS) (E1 E2 : List MI.En) (L : List Pr), ls.length - i < f → i ≤ ls.length → RelI r m1 m2 i 50 E1 E2 L T → (∀ a b, (a, b) ∈ L ↔ b = 7 ∧ a ∈ ls.take i) → (∀ id, OR r m1 m2 E1 E2 id → g ≤ id ∧ id ≠ cP ∧ id ≠ cR) → cP < B.next → cR < B.next → g ≤ T.next → B.next ≤ T.next → (∀ id, id < B.next → (id < g ∨ id = cP ∨ id = cR) → T.heap id = B.heap id) →
    ∃ f' T' E1 E2 L, rollcalllaw11_PairStays.L0 (disp 2000 4) (fun _ => none) 2000 f y0 (some (HA.cell0 cR)) (some (HA.cell0 cP)) (i : Int) [] T = rollcalllaw11_PairStays.L0 (disp 2000 4) (fun _ => none) 2000 (f' + 1) y0 (some (HA.cell0 cR)) (some (HA.cell0 cP)) (ls.length : Int) [] T' ∧
      RelI r m1 m2 ls.length 50 E1 E2 L T' ∧ (∀ a b, (a, b) ∈ L ↔ b = 7 ∧ a ∈ ls) ∧ (∀ id, OR r m1 m2 E1 E2 id → g ≤ id ∧ id ≠ cP ∧ id ≠ cR) ∧ B.next ≤ T'.next ∧ (∀ id, id < B.next → (id < g ∨ id = cP ∨ id = cR) → T'.heap id = B.heap id) := by
  intro f
  induction f with
  | zero => intro i T E1 E2 L h; omega
  | succ f ih =>
    intro i T E1 E2 L hf hi h hm hlo hcP hcR hgn hBn hk
    by_cases hlt : i < ls.length
    · have hr : T.rows y0 1 = some (ls.map KI.row1) := by
        exact rows_keep hrows fun q hq => hk _ (by have := hy q hq; omega) (.inl (hy q hq))
      have hsl : (y0.len : Int) = ls.length := by rw [← rows_len hr]; simp
      obtain ⟨ad, a1, a2⟩ := ints_at hr hlt
      have hp : T.heap cP = .cells 1 [[.ptr (some (HA.cell0 r))]] true := (hk cP hcP (.inr (.inl rfl))).trans hP
      obtain ⟨xs, x1, x2, x3, _⟩ := h.at1 ls[i]
      have hx1 : xs.length ≤ 1 := by
        have : ∀ v ∈ xs, v = 7 := fun v hv => ((hm _ _).1 ((x2 v).1 hv)).1
        match xs, x1, this with
        | [], _, _ => simp
        | [_], _, _ => simp
        | u :: v :: w, hs, h7 =>
          have h1 := h7 u (by simp)
          have h2 := h7 v (by simp)
          have := (List.pairwise_cons.1 hs).1 v (by simp)
          rw [h1, h2, KI.klt_irrefl] at this; cases this
      obtain ⟨F1, F2, S1, e1, g1, g2⟩ := add_rel (k := 2000) (Nat.le_refl _) h (by omega) ls[i] 7 x1 x2
      have hl1 := g2.le
      rw [rollcalllaw11_PairStays.L0, hsl, if_pos (by omega), Option.bind_some, ldP_cell hp, Option.bind_some, a1, Option.bind_some, a2, Option.bind_some, e1, Option.bind_some, w64_id (by omega) (by omega), show ((i : Int) + 1) = ((i + 1 : Nat) : Int) by simp]
      refine ih (i + 1) S1 F1 F2 _ (by omega) (by omega) g1 (fun a b => ?_) (fun id ho => ?_) hcP hcR (by omega) (by omega) (fun id hid hc => ?_)
      · have htk : a ∈ ls.take (i + 1) ↔ a ∈ ls.take i ∨ a = ls[i] := by rw [List.take_succ_eq_append_getElem hlt, List.mem_append, List.mem_singleton]
        rw [htk]
        by_cases hin : (ls[i], (7 : Int)) ∈ L
        · rw [if_pos hin, hm]
          refine ⟨fun ⟨q1, q2⟩ => ⟨q1, .inl q2⟩, fun ⟨q1, q2⟩ => ⟨q1, q2.elim (fun q => q) fun q => ?_⟩⟩
          subst q; exact ((hm _ _).1 hin).2
        · rw [if_neg hin, if_neg (by omega), List.mem_append, hm, List.mem_singleton, Prod.mk.injEq]
          constructor
          · rintro (⟨q1, q2⟩ | ⟨q1, q2⟩)
            · exact ⟨q1, .inl q2⟩
            · exact ⟨q2, .inr q1⟩
          · rintro ⟨q1, q2 | q2⟩
            · exact .inl ⟨q1, q2⟩
            · exact .inr ⟨q2, q1⟩
      · rcases g2.own id ho with q | q
        · exact hlo id q
        · exact ⟨by omega, by omega, by omega⟩
      · rw [g2.eq id (by omega) (fun q => by
          have := hlo id q
          rcases hc with c | c | c
          · omega
          · exact this.2.1 c
          · exact this.2.2 c)]
        exact hk id hid hc
    · obtain rfl : i = ls.length := by omega
      rw [List.take_length] at hm
      exact ⟨f, T, E1, E2, L, rfl, h, hm, hlo, hBn, hk⟩
/-- What stands behind some rounds: who was gone through has an eight. -/
def Half (xs : List Int) (i : Nat) (L : List Pr) : Prop := L.length = xs.length ∧ ∀ a b, (a, b) ∈ L ↔ (b = 7 ∧ a ∈ xs.drop i) ∨ (b = 8 ∧ a ∈ xs.take i)
theorem half_step {xs : List Int} {i : Nat} {L : List Pr} (hs : KI.Srt xs) (h : Half xs i L) (hn : L.Nodup) (hi : i < xs.length) :
    (xs[i], (7 : Int)) ∈ L ∧ (xs[i], (8 : Int)) ∉ wo (xs[i], 7) L ∧ (∀ v, (xs[i], v) ∉ wo (xs[i], 7) L) ∧ Half xs (i + 1) (wo (xs[i], 7) L ++ [(xs[i], 8)]) := by
  have hnd : xs.Nodup := hs.imp fun {a b} h e => by subst e; rw [KI.klt_irrefl] at h; cases h
  have hdr : xs.drop i = xs[i] :: xs.drop (i + 1) := List.drop_eq_getElem_cons hi
  have htk : xs.take (i + 1) = xs.take i ++ [xs[i]] := List.take_succ_eq_append_getElem hi
  have hnt : xs[i] ∉ xs.take i ∧ xs[i] ∉ xs.drop (i + 1) := by
    have : (xs.take i ++ xs[i] :: xs.drop (i + 1)).Nodup := by rw [← hdr, List.take_append_drop]; exact hnd
    rw [List.nodup_append, List.nodup_cons] at this
    exact ⟨fun g => this.2.2 _ g _ List.mem_cons_self rfl, this.2.1.1⟩
  have h7 : (xs[i], (7 : Int)) ∈ L := (h.2 _ _).2 (.inl ⟨rfl, by rw [hdr]; exact List.mem_cons_self⟩)
  have hno : ∀ v, (xs[i], v) ∉ wo (xs[i], 7) L := fun v hv => by
    obtain ⟨q1, q2⟩ := wo_mem.1 hv
    rcases (h.2 _ _).1 q1 with ⟨q3, _⟩ | ⟨_, q4⟩
    · exact q2 (by rw [q3])
    · exact hnt.1 q4
  refine ⟨h7, hno 8, hno, ?_, fun a b => ?_⟩
  · have := List.length_pos_of_mem h7
    have := h.1
    rw [List.length_append, wo_len hn h7, List.length_singleton]
    omega
  · rw [List.mem_append, wo_mem, h.2, List.mem_singleton, Ne, Prod.mk.injEq, Prod.mk.injEq, hdr, htk, List.mem_cons, List.mem_append, List.mem_singleton]
    constructor
    · rintro (⟨⟨q1, q2⟩ | ⟨q1, q2⟩, q3⟩ | ⟨q1, q2⟩)
      · rcases q2 with q2 | q2
        · exact absurd ⟨q2, q1⟩ q3
        · exact .inl ⟨q1, q2⟩
      · exact .inr ⟨q1, .inl q2⟩
      · exact .inr ⟨q2, .inr q1⟩
    · rintro (⟨q1, q2⟩ | ⟨q1, q2⟩)
      · exact .inl ⟨.inl ⟨q1, .inr q2⟩, fun g => hnt.2 (by rw [← g.1]; exact q2)⟩
      · rcases q2 with q2 | q2
        · exact .inl ⟨.inr ⟨q1, q2⟩, fun g => by omega⟩
        · exact .inr ⟨q2, q1⟩
theorem pairStays_law {S : HS} {y0 : Sl} {ls : List Int} (hn : S.next = 1) (hr : Rd S.next S 1 y0 (ls.map KI.row1)) : ∃ S', rollcalllaw11_PairStays.f (disp 2000 4) (fun _ => none) 2000 y0 S = some (true, S') := by
  rw [rollcalllaw11_PairStays.f, letv]
  have f0 : Fr S.next S (S.new (.cells 1 [[.bool false]] true)) := Fr.new (Nat.le_refl _) _
  have c0 : (S.new (.cells 1 [[.bool false]] true)).heap S.next = .cells 1 [[.bool false]] true := new_here _ _
  have n0 : (S.new (.cells 1 [[.bool false]] true)).next = 2 := by rw [new_next]; omega
  generalize S.new (.cells 1 [[.bool false]] true) = S1 at f0 c0 n0 ⊢
  obtain ⟨A, e1, f1⟩ := awake_spec n0
  have l1 : 2 ≤ A.next := by have := f1.le; omega
  have hr1 : Rd 1 A 1 y0 (ls.map KI.row1) := ((hn ▸ hr).frame f0 (by omega)).frame f1 (by omega)
  have hsl : (y0.len : Int) = ls.length := by rw [hr1.len]; simp
  have cA : A.heap 1 = .cells 1 [[.bool false]] true := by rw [f1.eq 1 (by omega)]; rw [hn] at c0; exact c0
  rw [e1, Option.bind_some, if_neg (by simp), hsl, hn]
  by_cases h30 : ls.length > 30
  · have x1 : (A.put 1 (.cells 1 [[.bool true]] true)).heap 1 = .cells 1 [[.bool true]] true := put_here _ _ _
    rw [if_pos (by omega), sets_cell _ cA, Option.bind_some]
    simp only [HS.leave, Option.bind_some]
    rw [ldB_cell x1]
    exact ⟨_, rfl⟩
  rw [if_neg (by omega)]
  obtain ⟨B, e2, r2, f2, n2, o2⟩ := new_rel (most := 50) (by omega) (by omega) A
  rw [e2, Option.bind_some, letv]
  simp only
  have hex : ∃ P, (B.new (.cells 1 [[.ptr none]] true)).sets (HA.cell0 B.next) [.ptr (some (HA.cell0 (A.next + 2)))] = some P ∧ P.heap B.next = .cells 1 [[.ptr (some (HA.cell0 (A.next + 2)))]] true ∧ Fr B.next B P ∧ P.next = B.next + 1 := ⟨_, sets_cell _ (new_here B _), put_here _ _ _, (Fr.new (Nat.le_refl _) _).trans (Fr.put (Nat.le_refl _) _), rfl⟩
  obtain ⟨P, e3, p3, f3, n3⟩ := hex
  rw [e3, Option.bind_some]
  simp only [decide_true, Bool.not_true, Bool.false_eq_true, if_false]
  have rP := r2.fr f3
  have hrP : Rd 1 P 1 y0 (ls.map KI.row1) := (hr1.frame f2 (by omega)).frame f3 (by omega)
  have hcR : P.heap 1 = .cells 1 [[.bool false]] true := by rw [f3.eq 1 (by omega), f2.eq 1 (by omega)]; exact cA
  obtain ⟨f', T, E1, E2, L, e4, r4, m4, o4, n4, k4⟩ := put_loop (g := A.next) (cR := 1) (cP := B.next) (by omega) (by omega) hrP.rows (fun q hq => by have := hrP.lt q hq; omega) p3 2000 0 P [] [] [] (by omega) (Nat.zero_le _) rP (fun a b => by simp) (fun id ho => ⟨o2 id ho, by have := r2.ltO ho; omega, by have := o2 id ho; omega⟩) (by omega) (by omega) (by omega) (Nat.le_refl _) (fun _ _ _ => rfl)
  rw [show ((0 : Nat) : Int) = 0 from rfl] at e4
  have pT : T.heap B.next = .cells 1 [[.ptr (some (HA.cell0 (A.next + 2)))]] true := (k4 _ (by omega) (.inr (.inl rfl))).trans p3
  have cT : T.heap 1 = .cells 1 [[.bool false]] true := (k4 _ (by omega) (.inl (by omega))).trans hcR
  rw [e4, rollcalllaw11_PairStays.L0, hsl, if_neg (by omega), Option.bind_some, ldP_cell pT, Option.bind_some, len_rel r4, Option.bind_some, letv]
  simp only
  have hex2 : ∃ P2, (T.new (.cells 1 [[.int .i64 0]] true)).sets (HA.cell0 T.next) [.int .i64 (L.length : Int)] = some P2 ∧ P2.heap T.next = .cells 1 [[.int .i64 (L.length : Int)]] true ∧ Fr T.next T P2 ∧ P2.next = T.next + 1 := ⟨_, sets_cell _ (new_here T _), put_here _ _ _, (Fr.new (Nat.le_refl _) _).trans (Fr.put (Nat.le_refl _) _), rfl⟩
  obtain ⟨P2, e5, p5, f5, n5⟩ := hex2
  have r5 := r4.fr f5
  have pP2 := (f5.eq B.next (by omega)).trans pT
  obtain ⟨xs, x1, x2, x3, _⟩ := r5.at2 7
  have hxl : xs.length = L.length := by
    have hnd : xs.Nodup := x1.imp fun {a b} h e => by subst e; rw [KI.klt_irrefl] at h; cases h
    have g1 := nodup_sub (xs.map fun a => (a, (7 : Int))) L (by
      rw [List.nodup_iff_pairwise_ne, List.pairwise_map]
      exact (List.nodup_iff_pairwise_ne.1 hnd).imp fun h e => h (by simpa using e)) (fun x hx => by
      obtain ⟨b, hb, rfl⟩ := List.mem_map.1 hx
      exact (x2 b).1 hb)
    have g2 := nodup_sub L (xs.map fun a => (a, (7 : Int))) r4.nd (fun x hx => by
      obtain ⟨x1, x3⟩ := x
      obtain ⟨q, _⟩ := (m4 _ _).1 hx
      subst q
      exact List.mem_map.2 ⟨x1, (x2 x1).2 hx, rfl⟩)
    simp at g1 g2
    omega
  obtain ⟨fn, u, v, S5, K, e6, hT, hK, f6⟩ := by_rel (nD := 2) r5 7 x1 x2
  have l6 := f6.le
  have hll := r4.ll
  rw [e5, Option.bind_some, Option.bind_some, ldP_cell pP2, Option.bind_some, e6, Option.bind_some]
  simp only [HV.isNilFn, Option.bind_some, Bool.false_eq_true, if_false]
  rw [letv]
  have hex3 : ∃ P3, (S5.new (.cells 1 [[.int .i64 0]] true)).sets (HA.cell0 S5.next) [.int .i64 0] = some P3 ∧ P3.heap S5.next = .cells 1 [[.int .i64 0]] true ∧ Fr S5.next S5 P3 ∧ P3.next = S5.next + 1 := ⟨_, sets_cell _ (new_here S5 _), put_here _ _ _, (Fr.new (Nat.le_refl _) _).trans (Fr.put (Nat.le_refl _) _), rfl⟩
  obtain ⟨P3, e7, p7, f7, n7⟩ := hex3
  rw [e7, Option.bind_some]
  have f57 : Fr T.next T P3 := (f5.trans (f6.mono (by omega))).trans (f7.mono (by omega))
  have r7 := (r5.fr f6).fr f7
  have hlen : (xs.map KI.row1).length = xs.length := by simp
  have hOR : ∀ id, OR (A.next + 2) A.next (A.next + 1) E1 E2 id → id < T.next := fun id g => r4.ltO g
  let OX : (Nat → Prop) → Nat → Prop := fun O1 id => O1 id ∨ id = B.next ∨ id = 1 ∨ id = T.next ∨ id = S5.next
  have hT3 : Tells (disp 2000 4) (.fn fn u v) (xs.map KI.row1) K P3 := by
    intro H l I Stop ht O U hI hB
    exact hT H l I Stop ht O U hI (fun id hid => ⟨(hB id hid).1.trans (f7.eq id (hK id hid).2), (hB id hid).2⟩)
  obtain ⟨T2, st, S', O', e8, e9, de, n8, ch, lt, hn8, hs8⟩ := range_tells (D := disp 2000 4) (H := fun _ => none) (fv := .fn fn u v) (S := P3) (hd := fun vs T' =>
      Option.bind (HS.lp T' (P3.next + 1)) fun _ => Option.bind (args1 vs) fun ar => Option.bind (dI .i64 ar) fun p => rollcalllaw11_PairStays.J1 (disp 2000 4) (fun _ => none) 2000 (P3.next + 1) (some (HA.cell0 1)) (some (HA.cell0 B.next)) (some (HA.cell0 T.next)) (some (HA.cell0 S5.next)) p T')
    (bd := fun i U => if h : i < xs.length then Option.bind (U.ldI .i64 (HA.cell0 S5.next)) fun p43 => Option.bind (U.ldI .i64 (HA.cell0 T.next)) fun p45 => if p43 > p45 then rollcalllaw11_PairStays.J2 (disp 2000 4) (fun _ => none) 2000 (P3.next + 1) (some (HA.cell0 1)) (some (HA.cell0 B.next)) (some (HA.cell0 S5.next)) xs[i] true U else
        Option.bind (U.ldP (HA.cell0 B.next)) fun p58 => Option.bind (pair_Rel_int_int_Remove.f 2000 p58 xs[i] 7 U) fun p59 => rollcalllaw11_PairStays.J2 (disp 2000 4) (fun _ => none) 2000 (P3.next + 1) (some (HA.cell0 1)) (some (HA.cell0 B.next)) (some (HA.cell0 S5.next)) xs[i] (!p59.1) p59.2 else none)
    hT3 (fun id g => by have := (hK id g).2; omega)
    (fun i O U => ∃ F1 F2 L', (∀ id, O id ↔ OX (OR (A.next + 2) A.next (A.next + 1) F1 F2) id) ∧ RelI (A.next + 2) A.next (A.next + 1) (ls.length + i) 50 F1 F2 L' U ∧ Half xs i L' ∧ (∀ id, OR (A.next + 2) A.next (A.next + 1) F1 F2 id → id ≠ B.next ∧ id ≠ 1 ∧ id ≠ T.next ∧ id ≠ S5.next) ∧
      U.heap B.next = .cells 1 [[.ptr (some (HA.cell0 (A.next + 2)))]] true ∧ U.heap 1 = .cells 1 [[.bool false]] true ∧ U.heap T.next = .cells 1 [[.int .i64 (L.length : Int)]] true ∧ U.heap S5.next = .cells 1 [[.int .i64 i]] true ∧ P3.next ≤ U.next)
    (fun _ _ _ => False)
    (fun i O U U' ⟨F1, F2, L', g1, g2, g3, g4, g5, g6, g7, g8, g9⟩ hk hn => ⟨F1, F2, L', g1, g2.keep (fun id ho => hk id ((g1 id).2 (.inl ho))) hn, g3, g4, (hk _ ((g1 _).2 (.inr (.inl rfl)))).trans g5, (hk _ ((g1 _).2 (.inr (.inr (.inl rfl))))).trans g6, (hk _ ((g1 _).2 (.inr (.inr (.inr (.inl rfl)))))).trans g7, (hk _ ((g1 _).2 (.inr (.inr (.inr (.inr rfl)))))).trans g8, by omega⟩)
    (fun _ _ _ _ h => h.elim)
    (OX (OR (A.next + 2) A.next (A.next + 1) E1 E2)) (fun id g => by
      rcases g with g | g | g | g | g
      · have := hOR id g; omega
      · omega
      · omega
      · omega
      · omega)
    ⟨E1, E2, L, fun _ => Iff.rfl, r7, ⟨hxl.symm, fun a b => by
        rw [List.drop_zero, List.take_zero, m4]
        constructor
        · rintro ⟨q1, q2⟩
          subst q1
          exact .inl ⟨rfl, (x2 a).2 ((m4 a 7).2 ⟨rfl, q2⟩)⟩
        · rintro (⟨q1, q2⟩ | ⟨_, q2⟩)
          · exact ⟨q1, ((m4 a 7).1 ((x2 a).1 q2)).2⟩
          · cases q2⟩, fun id g => ⟨(o4 id g).2.1, (o4 id g).2.2, by have := hOR id g; omega, by have := hOR id g; omega⟩, (f57.eq _ (by omega)).trans pT, (f57.eq _ (by omega)).trans cT, ((f6.trans (f7.mono l6)).eq _ (by omega)).trans p5, p7, Nat.le_refl _⟩
    (fun id g hk => by
      have := hK id hk
      rcases g with g | g | g | g | g
      · have := hOR id g; omega
      · omega
      · omega
      · omega
      · omega)
    (fun i hi U g => by
      have hi' : i < xs.length := by simpa using hi
      rw [lp_at g, Option.bind_some, List.getElem_map, show args1 (KI.row1 xs[i]) = some (KI.kv xs[i]) from rfl, Option.bind_some, show dI .i64 (KI.kv xs[i]) = some xs[i] from dI_at _, Option.bind_some, rollcalllaw11_PairStays.J1, begin_at g, Option.bind_some, Option.bind_some, dif_pos hi']
      rfl)
    (fun i hi O1 U ⟨F1, F2, L', g1, g2, g3, g4, g5, g6, g7, g8, g9⟩ hnu hl hno hlt => by
      have hi' : i < xs.length := by simpa using hi
      obtain ⟨w1, w2, w3, w4⟩ := half_step x1 g3 g2.nd hi'
      obtain ⟨G1, G2, U1, b1, b2, b3⟩ := remove_rel (k := 2000) (Nat.le_refl _) g2 xs[i] 7
      rw [decide_eq_true w1] at b1
      have g4' : ∀ id, OR (A.next + 2) A.next (A.next + 1) G1 G2 id → id ≠ B.next ∧ id ≠ 1 ∧ id ≠ T.next ∧ id ≠ S5.next := fun id ho => by
        rcases b3.own id ho with q | q
        · exact g4 id q
        · omega
      obtain ⟨H1, H2, U2, d1, d2, d3⟩ := add_rel (k := 2000) (Nat.le_refl _) b2 (by omega) xs[i] 8 (xs := []) List.Pairwise.nil (fun v => ⟨fun h => (by cases h), fun h => absurd h (w3 v)⟩)
      rw [if_neg w2, if_neg (by simp)] at d1 d2
      have g4'' : ∀ id, OR (A.next + 2) A.next (A.next + 1) H1 H2 id → id ≠ B.next ∧ id ≠ 1 ∧ id ≠ T.next ∧ id ≠ S5.next := fun id ho => by
        have := b3.le
        rcases d3.own id ho with q | q
        · exact g4' id q
        · omega
      have hb := b3.le
      have hd := d3.le
      have hk1 : ∀ id, id = B.next ∨ id = 1 ∨ id = T.next ∨ id = S5.next → U1.heap id = U.heap id := fun id hc => b3.eq id (by omega) (fun q => by
        have := g4 id q
        rcases hc with c | c | c | c
        · exact this.1 c
        · exact this.2.1 c
        · exact this.2.2.1 c
        · exact this.2.2.2 c)
      have hk2 : ∀ id, id = B.next ∨ id = 1 ∨ id = T.next ∨ id = S5.next → U2.heap id = U.heap id := fun id hc => (d3.eq id (by omega) (fun q => by
        have := g4' id q
        rcases hc with c | c | c | c
        · exact this.1 c
        · exact this.2.1 c
        · exact this.2.2.1 c
        · exact this.2.2.2 c)).trans (hk1 id hc)
      have cP1 := (hk1 B.next (.inl rfl)).trans g5
      have cK2 := (hk2 S5.next (.inr (.inr (.inr rfl)))).trans g8
      rw [dif_pos hi', ldI_cell g8, Option.bind_some, ldI_cell g7, Option.bind_some, if_neg (by omega), ldP_cell g5, Option.bind_some, b1, Option.bind_some]
      simp only [Bool.not_true]
      rw [rollcalllaw11_PairStays.J2, if_neg (by simp), Option.bind_some, ldP_cell cP1, Option.bind_some, d1, Option.bind_some, Option.bind_some, ldI_cell cK2, Option.bind_some, Option.bind_some, sets_cell _ cK2, Option.bind_some, w64_id (by omega) (by omega), show ((i : Int) + 1) = ((i + 1 : Nat) : Int) by simp]
      have hput : ∀ id, id ≠ S5.next → (U2.put S5.next (.cells 1 [[.int .i64 ((i + 1 : Nat) : Int)]] true)).heap id = U2.heap id := fun id h => put_other _ h
      refine ⟨_, OX (OR (A.next + 2) A.next (A.next + 1) H1 H2), none, rfl, ⟨by rw [put_next]; omega, fun id q1 q2 => ?_, fun id ho => ?_⟩, fun id ho => ?_, fun _ => ⟨H1, H2, _, fun _ => Iff.rfl, ?_, w4, g4'', ?_, ?_, ?_, put_here _ _ _, by rw [put_next]; omega⟩, fun c h => by cases h⟩
      · rw [put_other _ (fun e => q2 ((g1 id).2 (.inr (.inr (.inr (.inr e)))))), d3.eq id (by omega) (fun g => ?_), b3.eq id q1 (fun g => q2 ((g1 id).2 (.inl g)))]
        rcases b3.own id g with q | q
        · exact q2 ((g1 id).2 (.inl q))
        · omega
      · rcases ho with q | q
        · rcases d3.own id q with q' | q'
          · exact (b3.own id q').imp (fun q => (g1 id).2 (.inl q)) (fun q => q)
          · exact .inr (by omega)
        · exact .inl ((g1 id).2 (.inr q))
      · rw [put_next]
        rcases ho with q | q | q | q | q
        · exact d2.ltO q
        · omega
        · omega
        · omega
        · omega
      · exact d2.keep (fun id ho => put_other _ (g4'' id ho).2.2.2) (Nat.le_refl _)
      · rw [hput _ (by omega)]; exact (hk2 _ (.inl rfl)).trans g5
      · rw [hput _ (by omega)]; exact (hk2 _ (.inr (.inl rfl))).trans g6
      · rw [hput _ (by omega)]; exact (hk2 _ (.inr (.inr (.inl rfl)))).trans g7)
  erw [e8]
  rw [Option.bind_some]
  simp only [e9, Option.bind_some]
  cases hst : st with
  | some c => exact (hs8 c hst).elim
  | none =>
    obtain ⟨F1, F2, L', g1, g2, g3, g4, g5, g6, g7, g8, g9⟩ := hn8 hst
    rw [hlen] at g2 g3 g8
    simp only [pcode, Option.bind_some, if_true]
    have hlS := ch.le
    obtain ⟨o1, Z1, z1, y1, _, fz1⟩ := KS.Rights.rights_spec (D := disp 2000 4) (xs := []) (most := 0) (S := S') (r := none) (a := 1) (fun U hf => ⟨.func 48, [], [], U, fun _ => False, by rw [pair_Rel_int_string_Of.f, if_pos (by rfl)], none48_tells (n := 3) U, fun id h => h.elim, Fr.refl _ _⟩) (by simp) (by simp)
    have lz1 := fz1.le
    obtain ⟨o2', Z2, z2, y2, _, fz2⟩ := KI.Lefts.lefts_spec (D := disp 2000 4) (xs := []) (most := 0) (S := Z1) (r := none) (b := []) (fun U hf => ⟨.func 54, [], [], U, fun _ => False, by rw [pair_Rel_int_string_By.f, if_pos (by rfl)], none54_tells (n := 3) U, fun id h => h.elim, Fr.refl _ _⟩) (by simp) (by simp)
    have fz := fz1.trans (fz2.mono lz1)
    have hlt : ∀ id, (id = B.next ∨ id = 1 ∨ id = T.next ∨ id = S5.next) → id < S'.next := fun id h => by omega
    have gk := (fz.eq _ (hlt _ (.inr (.inr (.inr rfl))))).trans g8
    have gn := (fz.eq _ (hlt _ (.inr (.inr (.inl rfl))))).trans g7
    have gp := (fz.eq _ (hlt _ (.inl rfl))).trans g5
    have gr := (fz.eq _ (hlt _ (.inr (.inl rfl)))).trans g6
    have gd := (fz.eq P3.next (by omega)).trans de
    have rz := g2.fr fz
    have ly1 : (o1.len : Int) = 0 := by rw [← rows_len y1]; simp
    have ly2 : (o2'.len : Int) = 0 := by rw [← rows_len y2]; simp
    have hLL : (L'.length : Int) = L.length := by rw [g3.1, hxl]
    obtain ⟨Z3, z3, fz3⟩ := drop_none (n := 3) Z2
    have gr3 := (fz3.eq 1 (by have := fz.le; omega)).trans gr
    have gd3 := (fz3.eq P3.next (by have := fz.le; omega)).trans gd
    rw [z1, Option.bind_some]
    simp only
    rw [z2, Option.bind_some]
    simp only
    rw [ldI_cell gk, Option.bind_some, ldI_cell gn, Option.bind_some, hxl, if_pos rfl]
    simp only [Option.bind_some, ldP_cell gp]
    rw [len_rel rz, Option.bind_some]
    simp only [Option.bind_some, ldI_cell gn]
    rw [if_pos trivial, hLL, if_pos rfl, if_pos trivial, if_pos trivial, ly1, ly2, Int.add_zero, w64_id (by omega) (by omega), if_pos rfl]
    rw [pair_Rel_int_string_Add.f, if_pos (by rfl), Option.bind_some, if_pos rfl, pair_Rel_int_string_Remove.f, pair_Rel_int_string_Has.f, if_neg (by simp), pair_Rel_int_string_Has.J0, Option.bind_some]
    simp only [Bool.not_false, if_true, Option.bind_some]
    rw [z3, Option.bind_some]
    simp only [if_true]
    rw [pair_Rel_int_string_Has.f, if_neg (by simp), pair_Rel_int_string_Has.J0, Option.bind_some]
    simp only [Bool.not_false, if_true]
    rw [pair_Rel_int_string_Count.f, if_pos (by rfl), Option.bind_some, if_pos rfl, pair_Rel_int_string_Len.f, if_pos (by rfl), Option.bind_some]
    simp only [decide_true]
    rw [sets_cell _ gr3, Option.bind_some]
    have gd4 : (Z3.put 1 (.cells 1 [[.bool true]] true)).heap P3.next = .defer := by rw [put_other _ (by omega)]; exact gd3
    simp only [HS.leave, gd4, Option.bind_some]
    have gr4 : ((Z3.put 1 (.cells 1 [[.bool true]] true)).put P3.next .dead).heap 1 = .cells 1 [[.bool true]] true := by rw [put_other _ (by omega)]; exact put_here _ _ _
    rw [ldB_cell gr4, Option.bind_some]
    exact ⟨_, rfl⟩
theorem rows_ints : ∀ {rows : List (List HV)}, (∀ row ∈ rows, RowFits [.int .i64] row) → ∃ ls : List Int, rows = ls.map KI.row1 := by
  intro rows
  induction rows with
  | nil => intro _; exact ⟨[], rfl⟩
  | cons r rows ih =>
    intro h
    obtain ⟨ls, e⟩ := ih fun row hr => h row (by simp [hr])
    have h0 := h r (by simp)
    have hl := h0.len
    obtain ⟨v0, rfl⟩ : ∃ v0, r = [v0] := by
      match r, hl with
      | [a], _ => exact ⟨a, rfl⟩
    obtain ⟨q0, _⟩ := h0
    obtain ⟨n, h1, _⟩ := q0
    exact ⟨n :: ls, by rw [e, h1]; rfl⟩
theorem pairStays_call (W : World) (β0 : Bt) (S : HS) (s0 : Sl) (rows0 : List (List HV)) (h0 : ArgSl S 1 s0 rows0) (f0 : ∀ row ∈ rows0, RowFits [.int .i64] row) (hn : S.next = 1 := by rfl) :
    HCall Try.prog W.heap.size W β0 5 [s0.hv] S (fun v _ => v = .bool true) := by
  obtain ⟨ls, rfl⟩ := rows_ints f0
  obtain ⟨_, h⟩ := pairStays_law hn h0.rd
  exact (rollcalllaw11_PairStays.snd (disp_snd 4) (fun _ _ h => by cases h) h).mono fun _ _ h => h.1
end Go.Proofs.Ytdgmehfhgppheaa.X
