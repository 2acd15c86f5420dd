/- The layer pair: the relation of numbers, plain. -/
import Derived.Test.YtdgmehfhgppheaaPsRig
namespace Go.Proofs.Ytdgmehfhgppheaa.X
open Go.Proofs.Ytdgmehfhgppheaa.HL
set_option linter.unusedVariables false
abbrev Pr := Int × Int
def wo (x : Pr) (L : List Pr) : List Pr := L.filter fun p => !decide (p = x)
theorem wo_mem {x p : Pr} {L : List Pr} : p ∈ wo x L ↔ p ∈ L ∧ p ≠ x := by simp [wo]
theorem wo_len {x : Pr} {L : List Pr} (h : L.Nodup) (hx : x ∈ L) : (wo x L).length = L.length - 1 := by
  have : wo x L = L.erase x := by
    rw [h.erase_eq_filter, wo]
    congr 1
    funext p
    by_cases hp : p = x <;> simp [hp]
  rw [this, List.length_erase_of_mem hx]
theorem wo_no {x : Pr} {L : List Pr} (hx : x ∉ L) : wo x L = L := List.filter_eq_self.2 fun p hp => by simp; rintro rfl; exact hx hp
def OR (r m1 m2 : Nat) (E1 : List MI.En) (E2 : List MI.En) (id : Nat) : Prop := id = r ∨ MI.OM m1 E1 id ∨ MI.OM m2 E2 id
structure RelI (r m1 m2 n : Nat) (most : Int) (E1 : List MI.En) (E2 : List MI.En) (L : List Pr) (S : HS) : Prop where
  cell : S.heap r = .cells 4 [[.int .i64 most, .int .i64 L.length, .map (some m1), .map (some m2)]] true
  ms1 : MI.MS m1 E1 S
  ms2 : MI.MS m2 E2 S
  d12 : ∀ id, MI.OM m1 E1 id → ¬ MI.OM m2 E2 id
  dr1 : ¬ MI.OM m1 E1 r
  dr2 : ¬ MI.OM m2 E2 r
  lt : r < S.next
  me1 : ∀ a b, MI.mem E1 a b ↔ (a, b) ∈ L
  me2 : ∀ b a, MI.mem E2 b a ↔ (a, b) ∈ L
  ne1 : ∀ e ∈ E1, e.xs ≠ []
  ne2 : ∀ e ∈ E2, e.xs ≠ []
  c1 : ∀ e ∈ E1, e.xs.length ≤ n
  c2 : ∀ e ∈ E2, e.xs.length ≤ n
  nd : L.Nodup
  ll : L.length ≤ n
  nn : n ≤ 900
section
variable {r m1 m2 n : Nat} {most : Int} {E1 : List MI.En} {E2 : List MI.En} {L : List Pr} {S : HS}
theorem RelI.ltO (h : RelI r m1 m2 n most E1 E2 L S) {id : Nat} (ho : OR r m1 m2 E1 E2 id) : id < S.next := by
  rcases ho with rfl | g | g
  · exact h.lt
  · exact h.ms1.ltO g
  · exact h.ms2.ltO g
theorem RelI.keep {S' : HS} (h : RelI r m1 m2 n most E1 E2 L S) (hk : ∀ id, OR r m1 m2 E1 E2 id → S'.heap id = S.heap id) (hn : S.next ≤ S'.next) : RelI r m1 m2 n most E1 E2 L S' :=
  ⟨(hk r (.inl rfl)).trans h.cell, h.ms1.keep (fun id g => hk id (.inr (.inl g))) hn, h.ms2.keep (fun id g => hk id (.inr (.inr g))) hn, h.d12, h.dr1, h.dr2, Nat.lt_of_lt_of_le h.lt hn, h.me1, h.me2, h.ne1, h.ne2, h.c1, h.c2, h.nd, h.ll, h.nn⟩
theorem RelI.fr {S' : HS} (h : RelI r m1 m2 n most E1 E2 L S) (hf : Fr S.next S S') : RelI r m1 m2 n most E1 E2 L S' := h.keep (fun id ho => hf.eq id (h.ltO ho)) hf.le
theorem RelI.mono {n' : Nat} (h : RelI r m1 m2 n most E1 E2 L S) (hn : n ≤ n') (hn' : n' ≤ 900) : RelI r m1 m2 n' most E1 E2 L S := { h with c1 := fun e he => Nat.le_trans (h.c1 e he) hn, c2 := fun e he => Nat.le_trans (h.c2 e he) hn, ll := Nat.le_trans h.ll hn, nn := hn' }
theorem RelI.ld1 (h : RelI r m1 m2 n most E1 E2 L S) : S.ldM (HA.fld (HA.cell0 r) 2) = some (some m1) := row_ldM (cell_row h.cell) rfl rfl
theorem RelI.ld2 (h : RelI r m1 m2 n most E1 E2 L S) : S.ldM (HA.fld (HA.cell0 r) 3) = some (some m2) := row_ldM (cell_row h.cell) rfl rfl
theorem RelI.ldm (h : RelI r m1 m2 n most E1 E2 L S) : S.ldI .i64 (HA.fld (HA.cell0 r) 0) = some most := row_ldI (cell_row h.cell) rfl rfl
theorem RelI.ldn (h : RelI r m1 m2 n most E1 E2 L S) : S.ldI .i64 (HA.fld (HA.cell0 r) 1) = some (L.length : Int) := row_ldI (cell_row h.cell) rfl rfl
/-- What a left thing has. -/
theorem RelI.at1 (h : RelI r m1 m2 n most E1 E2 L S) (a : Int) : ∃ xs, KI.Srt xs ∧ (∀ v, v ∈ xs ↔ (a, v) ∈ L) ∧ xs.length ≤ n ∧ ((S.look (some m1) (.int .i64 a) = some none ∧ xs = []) ∨ ∃ p s, S.look (some m1) (.int .i64 a) = some (some (.ptr (some (HA.cell0 p)))) ∧ KI.SI p s xs S ∧ ∀ id, Own p s id → MI.OM m1 E1 id) := by
  rcases MI.get_spec h.ms1 a with ⟨e1, hno⟩ | ⟨A, e, B, hE, hk, hA, e1⟩
  · refine ⟨[], List.Pairwise.nil, fun v => ?_, by simp, .inl ⟨e1, rfl⟩⟩
    rw [← h.me1]
    exact ⟨fun g => (by cases g), fun ⟨e, he, hk, _⟩ => absurd hk (hno e he)⟩
  · have he : e ∈ E1 := by rw [hE]; simp
    refine ⟨e.xs, (h.ms1.si e he).srt, fun v => ?_, h.c1 e he, .inr ⟨e.p, e.s, e1, h.ms1.si e he, fun id g => .inr ⟨e, he, g⟩⟩⟩
    rw [← h.me1]
    refine ⟨fun g => ⟨e, he, hk, g⟩, fun ⟨x, hx, hxk, hv⟩ => ?_⟩
    have : x = e := by
      have hn := h.ms1.nd
      rw [hE] at hx hn
      rw [List.pairwise_append, List.pairwise_cons] at hn
      rcases List.mem_append.1 hx with g | g
      · exact absurd hxk (hA x g)
      · rcases List.mem_cons.1 g with g | g
        · exact g
        · exact absurd (hk.trans hxk.symm) (hn.2.1.1 x g)
    rw [← this]; exact hv
theorem RelI.at2 (h : RelI r m1 m2 n most E1 E2 L S) (b : Int) : ∃ xs, KI.Srt xs ∧ (∀ v, v ∈ xs ↔ (v, b) ∈ L) ∧ xs.length ≤ n ∧ ((S.look (some m2) (.int .i64 b) = some none ∧ xs = []) ∨ ∃ p s, S.look (some m2) (.int .i64 b) = some (some (.ptr (some (HA.cell0 p)))) ∧ KI.SI p s xs S ∧ ∀ id, Own p s id → MI.OM m2 E2 id) := by
  rcases MI.get_spec h.ms2 b with ⟨e1, hno⟩ | ⟨A, e, B, hE, hk, hA, e1⟩
  · refine ⟨[], List.Pairwise.nil, fun v => ?_, by simp, .inl ⟨e1, rfl⟩⟩
    rw [← h.me2]
    exact ⟨fun g => (by cases g), fun ⟨e, he, hk, _⟩ => absurd hk (hno e he)⟩
  · have he : e ∈ E2 := by rw [hE]; simp
    refine ⟨e.xs, (h.ms2.si e he).srt, fun v => ?_, h.c2 e he, .inr ⟨e.p, e.s, e1, h.ms2.si e he, fun id g => .inr ⟨e, he, g⟩⟩⟩
    rw [← h.me2]
    refine ⟨fun g => ⟨e, he, hk, g⟩, fun ⟨x, hx, hxk, hv⟩ => ?_⟩
    have : x = e := by
      have hn := h.ms2.nd
      rw [hE] at hx hn
      rw [List.pairwise_append, List.pairwise_cons] at hn
      rcases List.mem_append.1 hx with g | g
      · exact absurd hxk (hA x g)
      · rcases List.mem_cons.1 g with g | g
        · exact g
        · exact absurd (hk.trans hxk.symm) (hn.2.1.1 x g)
    rw [← this]; exact hv
theorem dP_none : dP ((none : Option HV).getD (.ptr none)) = some none := rfl
theorem dP_some (q : Option HA) : dP ((some (HV.ptr q)).getD (.ptr none)) = some q := rfl
theorem has_rel {k : Nat} (hk : 2000 ≤ k) (h : RelI r m1 m2 n most E1 E2 L S) (a : Int) (b : Int) : pair_Rel_int_int_Has.f k (some (HA.cell0 r)) a b S = some (decide ((a, b) ∈ L), S) := by
  obtain ⟨xs, h1, h2, h3, h4⟩ := h.at1 a
  rw [pair_Rel_int_int_Has.f, if_pos (by rfl), Option.bind_some, h.ld1, Option.bind_some]
  rcases h4 with ⟨e, rfl⟩ | ⟨p, s, e, hs, _⟩
  · rw [e, Option.bind_some, dP_none, Option.bind_some, set_Set_int_Has.f, if_pos (by rfl), Option.bind_some, pair_Rel_int_int_Has.J0, decide_eq_false (fun g => by have := (h2 b).2 g; cases this)]
  · rw [e, Option.bind_some, dP_some, Option.bind_some, KI.has_spec hk hs, Option.bind_some, pair_Rel_int_int_Has.J0]
    simp only [h2]
theorem count_rel (h : RelI r m1 m2 n most E1 E2 L S) (a : Int) {xs : List KI.Ky} (hs : KI.Srt xs) (hm : ∀ v, v ∈ xs ↔ (a, v) ∈ L) : pair_Rel_int_int_Count.f (some (HA.cell0 r)) a S = some ((xs.length : Int), S) := by
  obtain ⟨ys, h1, h2, h3, h4⟩ := h.at1 a
  have : ys = xs := KI.srt_ext h1 hs fun v => by rw [h2, hm]
  subst this
  rw [pair_Rel_int_int_Count.f, if_neg (by simp), Option.bind_some, h.ld1, Option.bind_some]
  rcases h4 with ⟨e, rfl⟩ | ⟨p, s, e, hs, _⟩
  · rw [e, Option.bind_some, dP_none, Option.bind_some, set_Set_int_Len.f, if_pos (by rfl)]; rfl
  · rw [e, Option.bind_some, dP_some, Option.bind_some, KI.len_spec hs]; rfl
theorem len_rel (h : RelI r m1 m2 n most E1 E2 L S) : pair_Rel_int_int_Len.f (some (HA.cell0 r)) S = some ((L.length : Int), S) := by
  rw [pair_Rel_int_int_Len.f, if_neg (by simp), Option.bind_some, h.ldn]; rfl
theorem by_rel {nD : Nat} (h : RelI r m1 m2 n most E1 E2 L S) (b : Int) {xs : List KI.Ky} (hs : KI.Srt xs) (hm : ∀ v, v ∈ xs ↔ (v, b) ∈ L) : ∃ fn u v S1 K, pair_Rel_int_int_By.f (some (HA.cell0 r)) b S = some (.fn fn u v, S1) ∧ Tells (disp 2000 (nD + 2)) (.fn fn u v) (xs.map KI.row1) K S1 ∧ (∀ id, K id → S.next ≤ id ∧ id < S1.next) ∧ Fr S.next S S1 := by
  obtain ⟨ys, h1, h2, h3, h4⟩ := h.at2 b
  have hy : ys = xs := KI.srt_ext h1 hs fun v => by rw [h2, hm]
  subst hy
  have hnn := h.nn
  have key : ∃ c s' S1, pair_Rel_int_int_By.f (some (HA.cell0 r)) b S = some (.fn (.func 68) [] [.ptr (some (HA.cell0 c))], S1) ∧ S1.heap c = .cells 1 [[s'.hv]] true ∧ S1.rows s' 1 = some (ys.map KI.row1) ∧ (S.next ≤ c ∧ c < S1.next) ∧ (∀ q, s'.a = some q → S.next ≤ q.1 ∧ q.1 < S1.next) ∧ Fr S.next S S1 := by
    rw [pair_Rel_int_int_By.f, if_neg (by simp), Option.bind_some, h.ld2, Option.bind_some]
    rcases h4 with ⟨e, rfl⟩ | ⟨p, s, e, hs, _⟩
    · rw [e, Option.bind_some, dP_none, Option.bind_some, set_Set_int_All.f, set_Set_int_List.f, if_pos (by rfl), Option.bind_some, slices_Values_int_int.f, letv, Option.bind_some]
      exact ⟨S.next, _, _, rfl, new_here _ _, rfl, ⟨Nat.le_refl _, Nat.lt_succ_self _⟩, fun q hq => (by cases hq), Fr.new (Nat.le_refl _) _⟩
    · obtain ⟨c, s', S1, e2, g1, g2, g3, g4, g5⟩ := KI.all_spec hs
      rw [e, Option.bind_some, dP_some, Option.bind_some, e2, Option.bind_some]
      exact ⟨c, s', S1, rfl, g1, g2, g3, g4, g5⟩
  obtain ⟨c, s', S1, e, g1, g2, g3, g4, g5⟩ := key
  exact ⟨_, _, _, S1, fun id => id = c ∨ ∃ q, s'.a = some q ∧ q.1 = id, e, KI.values_tells (by omega) (by omega) g1 g2 _ ⟨.inl rfl, fun q hq => .inr ⟨q, hq, rfl⟩⟩, fun id hid => by
    rcases hid with rfl | ⟨q, hq, rfl⟩
    · exact g3
    · exact g4 q hq, g5⟩
theorem cnt_put {i : Int} {S : HS} {m1 m2 : Nat} (h : S.heap r = .cells 4 [[.int .i64 most, .int .i64 i, .map (some m1), .map (some m2)]] true) (j : Int) : S.sets (HA.fld (HA.cell0 r) 1) [.int .i64 j] = some (S.put r (.cells 4 [[.int .i64 most, .int .i64 j, .map (some m1), .map (some m2)]] true)) := (sets_row h rfl (by simp)).trans rfl
/-- Both maps are others now, and the number. -/
theorem RelI.step {n' : Nat} {E1' : List MI.En} {E2' : List MI.En} {L' : List Pr} {S1 S2 : HS} (h : RelI r m1 m2 n most E1 E2 L S) (h1 : MI.MS m1 E1' S1) (ch1 : Chg (MI.OM m1 E1) (MI.OM m1 E1') S S1) (h2 : MI.MS m2 E2' S2) (ch2 : Chg (MI.OM m2 E2) (MI.OM m2 E2') S1 S2)
    (me1 : ∀ a b, MI.mem E1' a b ↔ (a, b) ∈ L') (me2 : ∀ b a, MI.mem E2' b a ↔ (a, b) ∈ L') (ne1 : ∀ e ∈ E1', e.xs ≠ []) (ne2 : ∀ e ∈ E2', e.xs ≠ []) (c1 : ∀ e ∈ E1', e.xs.length ≤ n') (c2 : ∀ e ∈ E2', e.xs.length ≤ n') (nd : L'.Nodup) (ll : L'.length ≤ n') (nn : n' ≤ 900) :
    S2.heap r = S.heap r ∧ RelI r m1 m2 n' most E1' E2' L' (S2.put r (.cells 4 [[.int .i64 most, .int .i64 L'.length, .map (some m1), .map (some m2)]] true)) ∧ Chg (OR r m1 m2 E1 E2) (OR r m1 m2 E1' E2') S (S2.put r (.cells 4 [[.int .i64 most, .int .i64 L'.length, .map (some m1), .map (some m2)]] true)) := by
  have l1 := ch1.le
  have l2 := ch2.le
  have hr := h.lt
  have o1 : ∀ id, MI.OM m1 E1' id → ¬ MI.OM m2 E2 id := fun id g1 g2 => by
    rcases ch1.own id g1 with g | g
    · exact h.d12 id g g2
    · have := h.ms2.ltO g2; omega
  have d12 : ∀ id, MI.OM m1 E1' id → ¬ MI.OM m2 E2' id := fun id g1 g2 => by
    rcases ch2.own id g2 with g | g
    · exact o1 id g1 g
    · have := h1.ltO g1; omega
  have dr1 : ¬ MI.OM m1 E1' r := fun g => by
    rcases ch1.own r g with g' | g'
    · exact h.dr1 g'
    · omega
  have dr2 : ¬ MI.OM m2 E2' r := fun g => by
    rcases ch2.own r g with g' | g'
    · exact h.dr2 g'
    · omega
  refine ⟨(ch2.eq r (by omega) h.dr2).trans (ch1.eq r hr h.dr1), ⟨put_here _ _ _, ?_, ?_, d12, dr1, dr2, by rw [put_next]; omega, me1, me2, ne1, ne2, c1, c2, nd, ll, nn⟩, ⟨by rw [put_next]; omega, fun id g1 g2 => ?_, fun id g => ?_⟩⟩
  · exact h1.keep (fun id g => by
      have := h1.ltO g
      rw [put_other _ (fun e => dr1 (by rw [← e]; exact g)), ch2.eq id this (o1 id g)]) (by rw [put_next]; omega)
  · exact h2.keep (fun id g => put_other _ (fun e => dr2 (by rw [← e]; exact g))) (Nat.le_refl _)
  · rw [put_other _ (fun e => g2 (.inl e)), ch2.eq id (by omega) (fun g => g2 (.inr (.inr g))), ch1.eq id g1 (fun g => g2 (.inr (.inl g)))]
  · rcases g with g | g | g
    · exact .inl (.inl g)
    · exact (ch1.own id g).imp (fun g => .inr (.inl g)) (fun g => g)
    · rcases ch2.own id g with g' | g'
      · exact .inl (.inr (.inr g'))
      · exact .inr (by omega)
theorem add_rel {k : Nat} (hk : 2000 ≤ k) (h : RelI r m1 m2 n most E1 E2 L S) (hn : n + 1 ≤ 900) (a : Int) (b : Int) {xs : List KI.Ky} (hs : KI.Srt xs) (hm : ∀ v, v ∈ xs ↔ (a, v) ∈ L) :
    ∃ E1' E2' S', pair_Rel_int_int_Add.f k (some (HA.cell0 r)) a b S = some ((if (a, b) ∈ L then 6 else if most ≤ xs.length then 7 else 0), S') ∧ RelI r m1 m2 (n + 1) most E1' E2' (if (a, b) ∈ L then L else if most ≤ xs.length then L else L ++ [(a, b)]) S' ∧ Chg (OR r m1 m2 E1 E2) (OR r m1 m2 E1' E2') S S' := by
  rw [pair_Rel_int_int_Add.f, if_neg (by simp), has_rel hk h, Option.bind_some]
  by_cases hin : (a, b) ∈ L
  · simp only [hin, decide_true, if_true]
    exact ⟨E1, E2, S, rfl, h.mono (by omega) hn, Chg.refl _ _⟩
  · simp only [hin, decide_false, if_false, Bool.false_eq_true]
    rw [count_rel h a hs hm, Option.bind_some, Option.bind_some]
    simp only [h.ldm, Option.bind_some, if_true]
    by_cases hf : most ≤ (xs.length : Int)
    · simp only [if_pos (show (xs.length : Int) ≥ most from hf), if_pos hf]
      exact ⟨E1, E2, S, rfl, h.mono (by omega) hn, Chg.refl _ _⟩
    · obtain ⟨E1', S1, e1, g1, g2, g3, g4, g5⟩ := MI.put_spec (v := b) (key := a) hk h.ms1 h.ne1 h.c1 (by omega)
      have l1 := g2.le
      have h2 : MI.MS m2 E2 S1 := h.ms2.keep (fun id g => g2.eq id (h.ms2.ltO g) (fun g' => h.d12 id g' g)) l1
      obtain ⟨E2', S2, e2, k1, k2, k3, k4, k5⟩ := MI.put_spec (v := a) (key := b) hk h2 h.ne2 h.c2 (by omega)
      have hcell1 : S1.heap r = S.heap r := g2.eq r h.lt h.dr1
      obtain ⟨q1, q2, q3⟩ := h.step (L' := L ++ [(a, b)]) g1 g2 k1 k2 (fun a' b' => by rw [g3, h.me1]; simp) (fun b' a' => by rw [k3, h.me2]; simp [and_comm]) g4 k4 g5 k5 (by
        rw [List.nodup_append]
        exact ⟨h.nd, by simp, fun x hx y hy => by simp at hy; subst hy; intro e; subst e; exact hin hx⟩) (by simp; exact h.ll) hn
      have hld2 : S1.ldM (HA.fld (HA.cell0 r) 3) = some (some m2) := row_ldM (cell_row (hcell1.trans h.cell)) rfl rfl
      have hcell2 := q1.trans h.cell
      have hldn : S2.ldI .i64 (HA.fld (HA.cell0 r) 1) = some (L.length : Int) := row_ldI (cell_row hcell2) rfl rfl
      have hll := h.ll
      simp only [if_neg (show ¬ ((xs.length : Int) ≥ most) from hf), if_neg hf, h.ld1, Option.bind_some, e1, hld2, e2, hldn]
      rw [w64_id (by omega) (by omega), cnt_put hcell2, Option.bind_some, show ((L.length : Int) + 1) = ((L ++ [(a, b)]).length : Int) by simp]
      exact ⟨E1', E2', _, rfl, q2, q3⟩
theorem remove_rel {k : Nat} (hk : 2000 ≤ k) (h : RelI r m1 m2 n most E1 E2 L S) (a : Int) (b : Int) :
    ∃ E1' E2' S', pair_Rel_int_int_Remove.f k (some (HA.cell0 r)) a b S = some (decide ((a, b) ∈ L), S') ∧ RelI r m1 m2 n most E1' E2' (wo (a, b) L) S' ∧ Chg (OR r m1 m2 E1 E2) (OR r m1 m2 E1' E2') S S' := by
  rw [pair_Rel_int_int_Remove.f, has_rel hk h, Option.bind_some]
  by_cases hin : (a, b) ∈ L
  · simp only [hin, decide_true, Bool.not_true, Bool.false_eq_true, if_false]
    obtain ⟨E1', S1, e1, g1, g2, g3, g4, g5⟩ := MI.take_spec (v := b) (key := a) hk h.ms1 h.ne1 h.c1 ((h.me1 a b).2 hin)
    have l1 := g2.le
    have h2 : MI.MS m2 E2 S1 := h.ms2.keep (fun id g => g2.eq id (h.ms2.ltO g) (fun g' => h.d12 id g' g)) l1
    obtain ⟨E2', S2, e2, k1, k2, k3, k4, k5⟩ := MI.take_spec (v := a) (key := b) hk h2 h.ne2 h.c2 ((h.me2 b a).2 hin)
    have hcell1 : S1.heap r = S.heap r := g2.eq r h.lt h.dr1
    have hfl := wo_len h.nd hin
    have hpos : 0 < L.length := List.length_pos_of_mem hin
    have hll := h.ll
    have hnn := h.nn
    obtain ⟨q1, q2, q3⟩ := h.step (n' := n) (L' := wo (a, b) L) g1 g2 k1 k2 (fun a' b' => by rw [g3, h.me1, wo_mem, Ne, Prod.mk.injEq]) (fun b' a' => by rw [k3, h.me2, wo_mem, Ne, Prod.mk.injEq]; simp only [and_comm]) g4 k4 g5 k5 (h.nd.sublist List.filter_sublist) (by omega) h.nn
    have hld2 : S1.ldM (HA.fld (HA.cell0 r) 3) = some (some m2) := row_ldM (cell_row (hcell1.trans h.cell)) rfl rfl
    have hcell2 := q1.trans h.cell
    have hldn : S2.ldI .i64 (HA.fld (HA.cell0 r) 1) = some (L.length : Int) := row_ldI (cell_row hcell2) rfl rfl
    simp only [h.ld1, Option.bind_some, e1, hld2, e2, hldn]
    rw [w64_id (by omega) (by omega), cnt_put hcell2, Option.bind_some, show ((L.length : Int) - 1) = ((wo (a, b) L).length : Int) by rw [hfl]; omega]
    exact ⟨E1', E2', _, rfl, q2, q3⟩
  · simp only [hin, decide_false, Bool.not_false, if_true]
    refine ⟨E1, E2, S, rfl, ?_, Chg.refl _ _⟩
    rw [wo_no hin]
    exact h
end
theorem nodup_sub {α : Type} [DecidableEq α] : ∀ (l m : List α), l.Nodup → (∀ x ∈ l, x ∈ m) → l.length ≤ m.length := by
  intro l
  induction l with
  | nil => intro m _ _; simp
  | cons x l ih =>
    intro m hn hs
    have hn' := List.nodup_cons.1 hn
    have h1 := ih (m.erase x) hn'.2 fun y hy => (List.mem_erase_of_ne (by rintro rfl; exact hn'.1 hy)).2 (hs y (by simp [hy]))
    have hx := hs x (by simp)
    rw [List.length_erase_of_mem hx] at h1
    have := List.length_pos_of_mem hx
    rw [List.length_cons]; omega
end Go.Proofs.Ytdgmehfhgppheaa.X
