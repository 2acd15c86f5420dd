/- The layer pair: Drop, plain. -/
import Derived.Test.YtdgmehfhgppheaaPpRel
namespace Go.Proofs.Ytdgmehfhgppheaa.X
open Go.Proofs.Ytdgmehfhgppheaa.HL
set_option linter.unusedVariables false
def dropA (a : Int) (L : List Pr) : List Pr := L.filter fun p => !decide (p.1 = a)
theorem fold_wo {a : Int} : ∀ (ys : List (List UInt8)) (L : List Pr), ys.foldl (fun l b => wo (a, b) l) L = L.filter fun p => !decide (p.1 = a ∧ p.2 ∈ ys) := by
  intro ys
  induction ys with
  | nil => intro L; rw [List.foldl_nil]; exact (List.filter_eq_self.2 fun p _ => by simp).symm
  | cons y ys ih =>
    intro L
    rw [List.foldl_cons, ih, wo, List.filter_filter]
    congr 1
    funext p
    obtain ⟨p1, p2⟩ := p
    by_cases h1 : p1 = a <;> by_cases h2 : p2 = y <;> by_cases h3 : p2 ∈ ys <;> simp [h1, h2, h3]
theorem fold_all {a : Int} {L : List Pr} {xs : List (List UInt8)} (h : ∀ v, v ∈ xs ↔ (a, v) ∈ L) : xs.foldl (fun l b => wo (a, b) l) L = dropA a L := by
  rw [fold_wo, dropA]
  refine List.filter_congr fun p hp => ?_
  obtain ⟨p1, p2⟩ := p
  by_cases h1 : p1 = a
  · subst h1; simp [(h p2).2 hp]
  · simp [h1]
theorem drop_rel {nD r m1 m2 n : Nat} {most : Int} {E1 : List MA.En} {E2 : List MB.En} {L : List Pr} {S : HS} (h : RelI r m1 m2 n most E1 E2 L S) (a : Int) {xs : List KS.Ky} (hs : KS.Srt xs) (hm : ∀ v, v ∈ xs ↔ (a, v) ∈ L) :
    ∃ E1' E2' S', pair_Rel_int_string_Drop.f (disp 2000 (nD + 2)) (fun _ => none) 2000 (some (HA.cell0 r)) a S = some ((xs.length : Int), S') ∧ RelI r m1 m2 n most E1' E2' (dropA a L) S' ∧ Chg (OR r m1 m2 E1 E2) (OR r m1 m2 E1' E2') S S' ∧ (dropA a L).length + xs.length = L.length := by
  have hxl : xs.length ≤ n := by
    obtain ⟨ys, h1, h2, h3, _⟩ := h.at1 a
    have : ys = xs := KS.srt_ext h1 hs fun v => by rw [h2, hm]
    subst this; exact h3
  have hnn := h.nn
  have hndx : xs.Nodup := hs.imp fun {a b} h e => by subst e; rw [KS.klt_irrefl] at h; cases h
  rw [pair_Rel_int_string_Drop.f, letv, letv, letv]
  simp only [new_next]
  have n3 : (((S.new (.cells 1 [[.ptr (some (HA.cell0 r))]] true)).new (.cells 1 [[.int .i64 a]] true)).new (.cells 1 [[.int .i64 0]] true)).next = S.next + 3 := rfl
  have f3 : Fr S.next S (((S.new (.cells 1 [[.ptr (some (HA.cell0 r))]] true)).new (.cells 1 [[.int .i64 a]] true)).new (.cells 1 [[.int .i64 0]] true)) := ((Fr.new (Nat.le_refl _) _).trans (Fr.new (by simp only [new_next]; omega) _)).trans (Fr.new (by simp only [new_next]; omega) _)
  have c0 : (((S.new (.cells 1 [[.ptr (some (HA.cell0 r))]] true)).new (.cells 1 [[.int .i64 a]] true)).new (.cells 1 [[.int .i64 0]] true)).heap S.next = .cells 1 [[.ptr (some (HA.cell0 r))]] true := by
    rw [new_old _ (by simp only [new_next]; omega), new_old _ (by simp only [new_next]; omega)]; exact new_here _ _
  have c1 : (((S.new (.cells 1 [[.ptr (some (HA.cell0 r))]] true)).new (.cells 1 [[.int .i64 a]] true)).new (.cells 1 [[.int .i64 0]] true)).heap (S.next + 1) = .cells 1 [[.int .i64 a]] true := by
    rw [new_old _ (by simp only [new_next]; omega)]; exact new_here (S.new _) _
  have c2 : (((S.new (.cells 1 [[.ptr (some (HA.cell0 r))]] true)).new (.cells 1 [[.int .i64 a]] true)).new (.cells 1 [[.int .i64 0]] true)).heap (S.next + 2) = .cells 1 [[.int .i64 0]] true := new_here ((S.new _).new _) _
  rw [show S.next + 1 + 1 = S.next + 2 from rfl]
  generalize ((S.new (.cells 1 [[.ptr (some (HA.cell0 r))]] true)).new (.cells 1 [[.int .i64 a]] true)).new (.cells 1 [[.int .i64 0]] true) = T0 at n3 f3 c0 c1 c2 ⊢
  rw [sets_cell _ c2, Option.bind_some]
  have f4 : Fr S.next S (T0.put (S.next + 2) (.cells 1 [[.int .i64 0]] true)) := f3.trans (Fr.put (by omega) _)
  have d0 : (T0.put (S.next + 2) (.cells 1 [[.int .i64 0]] true)).heap S.next = .cells 1 [[.ptr (some (HA.cell0 r))]] true := by rw [put_other _ (by omega)]; exact c0
  have d1 : (T0.put (S.next + 2) (.cells 1 [[.int .i64 0]] true)).heap (S.next + 1) = .cells 1 [[.int .i64 a]] true := by rw [put_other _ (by omega)]; exact c1
  have d2 : (T0.put (S.next + 2) (.cells 1 [[.int .i64 0]] true)).heap (S.next + 2) = .cells 1 [[.int .i64 0]] true := put_here _ _ _
  have n4 : (T0.put (S.next + 2) (.cells 1 [[.int .i64 0]] true)).next = S.next + 3 := n3
  generalize T0.put (S.next + 2) (.cells 1 [[.int .i64 0]] true) = T at f4 d0 d1 d2 n4 ⊢
  have hT4 := h.fr f4
  obtain ⟨fn, u, v, S1, K, e1, hT, hK, f1⟩ := of_rel (nD := nD) hT4 a hs hm
  have l1 := f1.le
  have h1 := hT4.fr f1
  rw [ldP_cell d0, Option.bind_some, ldI_cell d1, Option.bind_some, e1, Option.bind_some]
  have hlen : (xs.map KS.row1).length = xs.length := by simp
  have hOR : ∀ id, OR r m1 m2 E1 E2 id → id < S.next := fun id g => h.ltO g
  let OX : (Nat → Prop) → Nat → Prop := fun O1 id => O1 id ∨ id = S.next ∨ id = S.next + 1 ∨ id = S.next + 2
  obtain ⟨T2, st, S', O', e2, e3, de, n5, ch, lt, hn, hsq⟩ := range_tells (D := disp 2000 (nD + 2)) (H := fun _ => none) (fv := .fn fn u v) (S := S1) (hd := fun vs T =>
      Option.bind (HS.lp T (S1.next + 1)) fun _ => Option.bind (args1 vs) fun ar => Option.bind (dS ar) fun p => pair_Rel_int_string_Drop.J0 (disp 2000 (nD + 2)) (fun _ => none) 2000 (S1.next + 1) (some (HA.cell0 S.next)) (some (HA.cell0 (S.next + 1))) (some (HA.cell0 (S.next + 2))) p T)
    (bd := fun i U => if h : i < xs.length then Option.bind (U.ldP (HA.cell0 S.next)) fun p10 => Option.bind (U.ldI .i64 (HA.cell0 (S.next + 1))) fun p12 => Option.bind (pair_Rel_int_string_Remove.f 2000 p10 p12 xs[i] U) fun p13 => Option.bind (HS.ldI p13.2 .i64 (HA.cell0 (S.next + 2))) fun p15 => Option.bind (HS.sets p13.2 (HA.cell0 (S.next + 2)) [(.int .i64 (w64 (p15 + 1)))]) fun p17 => HS.endr p17 (S1.next + 1) none else none)
    hT (fun id g => (hK id g).2)
    (fun i O U => ∃ E1' E2', (∀ id, O id ↔ OX (OR r m1 m2 E1' E2') id) ∧ RelI r m1 m2 n most E1' E2' ((xs.take i).foldl (fun l b => wo (a, b) l) L) U ∧ (∀ id, OR r m1 m2 E1' E2' id → id ≠ S.next ∧ id ≠ S.next + 1 ∧ id ≠ S.next + 2) ∧ ((xs.take i).foldl (fun l b => wo (a, b) l) L).length + i = L.length ∧
      U.heap S.next = .cells 1 [[.ptr (some (HA.cell0 r))]] true ∧ U.heap (S.next + 1) = .cells 1 [[.int .i64 a]] true ∧ U.heap (S.next + 2) = .cells 1 [[.int .i64 i]] true ∧ S1.next ≤ U.next)
    (fun _ _ _ => False)
    (fun i O U U' ⟨E1', E2', g1, g2, g3, g4, g5, g6, g7, g8⟩ hk hn => ⟨E1', E2', g1, g2.keep (fun id ho => hk id ((g1 id).2 (.inl ho))) hn, g3, g4, (hk _ ((g1 _).2 (.inr (.inl rfl)))).trans g5, (hk _ ((g1 _).2 (.inr (.inr (.inl rfl))))).trans g6, (hk _ ((g1 _).2 (.inr (.inr (.inr rfl))))).trans g7, by omega⟩)
    (fun _ _ _ _ h => h.elim)
    (OX (OR r m1 m2 E1 E2)) (fun id g => by
      rcases g with g | g | g | g
      · have := hOR id g; omega
      · omega
      · omega
      · omega)
    ⟨E1, E2, fun _ => Iff.rfl, by rw [List.take_zero]; exact h1, fun id g => by have := hOR id g; omega, by simp, (f1.eq _ (by omega)).trans d0, (f1.eq _ (by omega)).trans d1, (f1.eq _ (by omega)).trans d2, Nat.le_refl _⟩
    (fun id g hk => by
      have := (hK id hk).1
      rcases g with g | g | g | g
      · have := hOR id g; omega
      · omega
      · omega
      · omega)
    (fun i hi U g => by
      have hi' : i < xs.length := by simpa using hi
      rw [lp_at g, Option.bind_some, List.getElem_map, show args1 (KS.row1 xs[i]) = some (KS.kv xs[i]) from rfl, Option.bind_some, show dS (KS.kv xs[i]) = some xs[i] from dS_at _, Option.bind_some, pair_Rel_int_string_Drop.J0, begin_at g, Option.bind_some, Option.bind_some, dif_pos hi']
      rfl)
    (fun i hi O1 U ⟨E1', E2', g1, g2, g3, g4, g5, g6, g7, g8⟩ hnu hl hno hlt => by
      have hi' : i < xs.length := by simpa using hi
      obtain ⟨F1, F2, U1, b1, b2, b3⟩ := remove_rel (k := 2000) (Nat.le_refl _) g2 a xs[i]
      have hin : (a, xs[i]) ∈ (xs.take i).foldl (fun l b => wo (a, b) l) L := by
        rw [fold_wo, List.mem_filter]
        refine ⟨(hm _).1 (List.getElem_mem hi'), ?_⟩
        simp only [true_and, Bool.not_eq_true', decide_eq_false_iff_not]
        intro hc
        obtain ⟨j, hj, hje⟩ := List.getElem_of_mem hc
        rw [List.length_take] at hj
        rw [List.getElem_take] at hje
        have := (List.nodup_iff_pairwise_ne.1 hndx)
        exact List.pairwise_iff_getElem.1 this j i (by omega) hi' (by omega) hje
      have hc2 : U1.heap (S.next + 2) = .cells 1 [[.int .i64 i]] true := (b3.eq _ (by omega) (fun g => (g3 _ g).2.2 rfl)).trans g7
      have hle := b3.le
      rw [dif_pos hi', ldP_cell g5, Option.bind_some, ldI_cell g6, Option.bind_some, b1, Option.bind_some]
      simp only
      rw [ldI_cell hc2, Option.bind_some, sets_cell _ hc2, Option.bind_some, w64_id (by omega) (by omega), show ((i : Int) + 1) = ((i + 1 : Nat) : Int) by simp]
      have e5 : (xs.take (i + 1)).foldl (fun l b => wo (a, b) l) L = wo (a, xs[i]) ((xs.take i).foldl (fun l b => wo (a, b) l) L) := by
        rw [List.take_succ_eq_append_getElem hi', List.foldl_append]; rfl
      have g3' : ∀ id, OR r m1 m2 F1 F2 id → id ≠ S.next ∧ id ≠ S.next + 1 ∧ id ≠ S.next + 2 := fun id ho => by
        rcases b3.own id ho with q | q
        · exact g3 id q
        · omega
      refine ⟨_, OX (OR r m1 m2 F1 F2), none, rfl, ⟨by rw [put_next]; omega, fun id q1 q2 => ?_, fun id ho => ?_⟩, fun id ho => ?_, fun _ => ⟨F1, F2, fun _ => Iff.rfl, ?_, g3', ?_, ?_, ?_, put_here _ _ _, by rw [put_next]; omega⟩, fun c h => by cases h⟩
      · rw [put_other _ (fun e => q2 ((g1 id).2 (.inr (.inr (.inr e))))), b3.eq id q1 (fun g => q2 ((g1 id).2 (.inl g)))]
      · rcases ho with q | q
        · exact (b3.own id q).imp (fun q => (g1 id).2 (.inl q)) (fun q => q)
        · exact .inl ((g1 id).2 (.inr q))
      · rw [put_next]
        rcases ho with q | q | q | q
        · exact b2.ltO q
        · omega
        · omega
        · omega
      · rw [e5]; exact b2.keep (fun id ho => put_other _ (g3' id ho).2.2) (Nat.le_refl _)
      · rw [e5, wo_len g2.nd hin]
        have := List.length_pos_of_mem hin
        omega
      · rw [put_other _ (by omega), b3.eq _ (by omega) (fun g => (g3 _ g).1 rfl)]; exact g5
      · rw [put_other _ (by omega), b3.eq _ (by omega) (fun g => (g3 _ g).2.1 rfl)]; exact g6)
  erw [e2]
  rw [Option.bind_some]
  simp only [e3, Option.bind_some]
  have hle := ch.le
  cases hst : st with
  | some c => exact (hsq c hst).elim
  | none =>
    obtain ⟨E1', E2', g1, g2, g3, g4, g5, g6, g7, g8⟩ := hn hst
    rw [hlen] at g4 g7
    rw [hlen, List.take_length, fold_all hm] at g2
    rw [List.take_length, fold_all hm] at g4
    simp only [pcode, Option.bind_some, if_true]
    rw [ldI_cell g7, Option.bind_some]
    simp only [HS.leave, de, Option.bind_some]
    refine ⟨E1', E2', _, rfl, g2.keep (fun id ho => put_other _ (lt id ((g1 id).2 (.inl ho))).1) (Nat.le_refl _), ⟨by rw [put_next]; omega, fun id q1 q2 => ?_, fun id ho => ?_⟩, g4⟩
    · rw [put_other _ (by omega), ch.eq id (by omega) (fun g => by
        rcases g with g | g | g | g
        · exact q2 g
        · omega
        · omega
        · omega), f1.eq id (by omega), f4.eq id q1]
    · rcases ch.own id ((g1 id).2 (.inl ho)) with g | g
      · rcases g with g | g | g | g
        · exact .inl g
        · exact .inr (by omega)
        · exact .inr (by omega)
        · exact .inr (by omega)
      · exact .inr (by omega)
end Go.Proofs.Ytdgmehfhgppheaa.X
