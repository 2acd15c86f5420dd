/- The layer timer: the table's operations, plain. -/
import Derived.Test.YtlfdfkldolgkoaaTpBase
namespace Go.Proofs.Ytlfdfkldolgkoaa.X
open Go.Proofs.Ytlfdfkldolgkoaa.HL
set_option linter.unusedVariables false
theorem cmpI (a b : Int) : cmp_Compare_int.f a b = some (if a < b then -1 else if b < a then 1 else 0) := by
  have h : ∀ x, cmp_isNaN_int.f x = some false := fun x => by simp [cmp_isNaN_int.f]
  rw [cmp_Compare_int.f, h, h, Option.bind_some, Option.bind_some, if_neg (by simp), if_neg (by simp)]
  by_cases h1 : a < b
  · rw [if_pos h1, if_pos h1]
  · rw [if_neg h1, if_neg h1]
    by_cases h2 : b < a
    · rw [if_pos h2, if_pos h2]
    · rw [if_neg h2, if_neg h2]
theorem cmpK (a b : Ky) : cmp_Compare_string.f a b = some (kcmp a b) := by
  have h : ∀ x, cmp_isNaN_string.f x = some false := fun x => by simp [cmp_isNaN_string.f]
  rw [cmp_Compare_string.f, h, h, Option.bind_some, Option.bind_some, if_neg (by simp), if_neg (by simp)]
  unfold kcmp klt
  by_cases h1 : slt a b = true
  · rw [if_pos h1, if_pos h1]
  · rw [if_neg h1, if_neg h1]
    by_cases h2 : a = b
    · rw [if_pos h2, if_neg (by simp [h2])]
    · rw [if_neg h2, if_pos (by simp [h1, h2])]

theorem num_at {S : HS} {s : Sl} {rows : List (List HV)} (h : S.rows s 1 = some rows) {i : Nat} (hi : i < rows.length) {v : Int} (hv : rows[i] = [.int .i64 v]) : ∃ ad, S.idx s (i : Int) 1 = some ad ∧ S.ldI .i64 ad = some v := by
  obtain ⟨ad, h1, h2, h3⟩ := rows_idx h (i := i) hi
  refine ⟨ad, h1, ?_⟩
  have := row_ldI (j := 0) (k := .i64) (n := v) h3 h2 (by simp [hv])
  obtain ⟨a1, a2, a3⟩ := ad
  simp only at h2
  subst h2
  exact this
theorem or_spec {k : Nat} {S : HS} {s : Sl} {a b : Int} (hk : 2000 ≤ k) (h : S.rows s 1 = some [[.int .i64 a], [.int .i64 b]]) : cmp_Or_int.f k s S = some (if a = 0 then b else a, S) := by
  have hl : (s.len : Int) = 2 := by rw [← rows_len h]; rfl
  obtain ⟨k, rfl⟩ : ∃ m, k = m + 3 := ⟨k - 3, by omega⟩
  obtain ⟨a0, h1, h2⟩ := num_at h (i := 0) (by simp) rfl
  obtain ⟨a1, h3, h4⟩ := num_at h (i := 1) (by simp) rfl
  rw [cmp_Or_int.f, hl, cmp_Or_int.L0, if_pos (by omega)]
  rw [show ((0 : Nat) : Int) = 0 from rfl] at h1
  rw [show ((1 : Nat) : Int) = 1 from rfl] at h3
  rw [h1, Option.bind_some, h2, Option.bind_some]
  by_cases h0 : a = 0
  · rw [if_neg (by simp [h0]), if_pos h0, show w64 (0 + 1) = 1 by rfl, cmp_Or_int.L0, if_pos (by omega), h3, Option.bind_some, h4, Option.bind_some]
    by_cases hb : b = 0
    · rw [if_neg (by simp [hb]), show w64 (1 + 1) = 2 by rfl, cmp_Or_int.L0, if_neg (by omega), hb]
    · rw [if_pos (by simpa using hb)]
  · rw [if_pos (by simpa using h0), if_neg h0]
theorem compare_spec (k : Nat) (a b : It) (S : HS) (hk : 2000 ≤ k) : ∃ S', timer_compare_string.f k a.1 a.2 b.1 b.2 S = some (itc a b, S') ∧ Fr S.next S S' := by
  unfold timer_compare_string.f
  rw [letv, letv]
  have f1 : Fr S.next S ((S.new (.cells 2 [[.str a.1, .int .i64 a.2]] true)).new (.cells 2 [[.str b.1, .int .i64 b.2]] true)) := (Fr.new (Nat.le_refl _) _).trans (Fr.new (by rw [new_next]; omega) _)
  have c1 : ((S.new (.cells 2 [[.str a.1, .int .i64 a.2]] true)).new (.cells 2 [[.str b.1, .int .i64 b.2]] true)).heap S.next = .cells 2 [itRow a] true := by rw [new_old _ (by rw [new_next]; omega)]; exact new_here _ _
  have c2 : ((S.new (.cells 2 [[.str a.1, .int .i64 a.2]] true)).new (.cells 2 [[.str b.1, .int .i64 b.2]] true)).heap (S.next + 1) = .cells 2 [itRow b] true := new_here (S.new (.cells 2 [[.str a.1, .int .i64 a.2]] true)) _
  have n1 : ((S.new (.cells 2 [[.str a.1, .int .i64 a.2]] true)).new (.cells 2 [[.str b.1, .int .i64 b.2]] true)).next = S.next + 2 := rfl
  rw [new_next]
  generalize (S.new (.cells 2 [[.str a.1, .int .i64 a.2]] true)).new (.cells 2 [[.str b.1, .int .i64 b.2]] true) = T at f1 c1 c2 n1 ⊢
  have r1 := cell_row c1
  have r2 := cell_row c2
  rw [row_ldI (n := a.2) r1 rfl rfl, Option.bind_some, row_ldI (n := b.2) r2 rfl rfl, Option.bind_some, cmpI, Option.bind_some, row_ldK (n := a.1) r1 rfl rfl, Option.bind_some, row_ldK (n := b.1) r2 rfl rfl, Option.bind_some, cmpK, Option.bind_some, letv]
  have lr := (Vec.lit (n := 0) (z := 1) (S := T) [[.int .i64 (if a.2 < b.2 then -1 else if b.2 < a.2 then 1 else 0)], [.int .i64 (kcmp a.1 b.1)]] (Nat.zero_le _)).rows
  rw [or_spec hk lr, Option.bind_some]
  suffices hv : (if (if a.2 < b.2 then (-1 : Int) else if b.2 < a.2 then 1 else 0) = 0 then kcmp a.1 b.1 else (if a.2 < b.2 then (-1 : Int) else if b.2 < a.2 then 1 else 0)) = itc a b from
    ⟨(T.lit [[.int .i64 (if a.2 < b.2 then -1 else if b.2 < a.2 then 1 else 0)], [.int .i64 (kcmp a.1 b.1)]] 1).2, by rw [← hv], f1.trans (lit_fr _ (by omega))⟩
  unfold itc
  by_cases h1 : a.2 < b.2
  · rw [if_pos h1, if_pos h1, if_neg (by omega)]
  · by_cases h2 : b.2 < a.2
    · rw [if_neg h1, if_neg h1, if_pos h2, if_pos h2, if_neg (by omega)]
    · rw [if_neg h1, if_neg h1, if_neg h2, if_neg h2, if_pos rfl]
def CmpF (D : Dp) (H : Hd) (fv : HV) (t : It) : Prop := ∀ (e : It) (S : HS), ∃ S', D H fv [.agg (itRow e), .agg (itRow t)] S = some (.int .i64 (itc e t), S') ∧ Fr S.next S S'
theorem cmpF_at {k n : Nat} {H : Hd} {t : It} (hk : 2000 ≤ k) : CmpF (disp k (n + 1)) H (HV.fn (.func 26) [] []) t := by
  intro e S
  obtain ⟨S', e1, f1⟩ := compare_spec k e t S hk
  refine ⟨S', ?_, f1⟩
  have e' : call_26 (disp k n) H k ([] ++ [HV.agg (itRow e), .agg (itRow t)] ++ []) S = some (.int .i64 (itc e t), S') := by
    rw [call_26]
    simp only [List.nil_append, List.append_nil, args2, itRow, kv, dA2, dI, dS, Option.bind_some, if_true]
    rw [e1, Option.bind_some]
  rw [disp_func]
  simp only [ if_true, if_false, e']
theorem it_rows {S : HS} {s : Sl} {xs : List It} (h : S.rows s 2 = some (xs.map itRow)) {i : Nat} (hi : i < xs.length) : ∃ ad, S.idx s (i : Int) 2 = some ad ∧ S.ldS (HA.fld ad 0) = some xs[i].1 ∧ S.ldI .i64 (HA.fld ad 1) = some xs[i].2 := by
  obtain ⟨ad, h1, h2, h3⟩ := rows_idx h (i := i) (by simpa using hi)
  rw [List.getElem_map] at h3
  exact ⟨ad, h1, row_ldK h3 h2 rfl, row_ldI h3 h2 rfl⟩
theorem search_loop {D : Dp} {H : Hd} {k c : Nat} {s : Sl} {t : It} {fv : HV} {es : List It} (hc : CmpF D H fv t) (hs : Srt es) (hle : es.length ≤ 100000) :
    ∀ (n i j : Nat) (S : HS), j - i < n → i ≤ j → j ≤ es.length → Rd S.next S 2 s (es.map itRow) → S.heap c = .cells 2 [itRow t] true → c < S.next → (∀ q (hq : q < es.length), q < i → itc es[q] t < 0) → (∀ q (hq : q < es.length), j ≤ q → ¬ itc es[q] t < 0) →
    ∃ (p : Nat) (S' : HS), slices_BinarySearchFunc_timer_item_string_timer_item_string_timer_item_string.L0 D H k n s fv (some (HA.cell0 c)) (es.length : Int) (i : Int) (j : Int) S = some (((p : Int), foundAt es t p), S') ∧ PosOf es t p ∧ Fr S.next S S' := by
  intro n
  induction n with
  | zero => intro i j S h; omega
  | succ n ih =>
    intro i j S hf hij hj hrd hcell hcl hlo hhi
    have r0 := cell_row hcell
    unfold slices_BinarySearchFunc_timer_item_string_timer_item_string_timer_item_string.L0
    by_cases hlt : i < j
    · rw [if_pos (by omega), mid_eq (by omega)]
      have hm : (i + j) / 2 < es.length := by omega
      obtain ⟨ad, a1, a2, a3⟩ := it_rows hrd.rows hm
      obtain ⟨S1, e1, f1⟩ := hc es[(i + j) / 2] S
      have hrd1 : Rd S1.next S1 2 s (es.map itRow) := (hrd.frame f1 (Nat.le_refl _)).mono f1.le
      have hcell1 := (f1.eq _ hcl).trans hcell
      have hcl1 := Nat.lt_of_lt_of_le hcl f1.le
      rw [a1, Option.bind_some, a2, Option.bind_some, a3, Option.bind_some, Option.bind_some, row_ldK (n := t.1) r0 rfl rfl, Option.bind_some, row_ldI (n := t.2) r0 rfl rfl, Option.bind_some]
      erw [e1]
      rw [Option.bind_some]
      simp only [dI, if_true, Option.bind_some]
      by_cases hc0 : itc es[(i + j) / 2] t < 0
      · rw [if_pos hc0, w64_id (by omega) (by omega), show ((((i + j) / 2 : Nat) : Int) + 1) = (((i + j) / 2 + 1 : Nat) : Int) by simp]
        obtain ⟨p, S2, e2, p2, f2⟩ := ih ((i + j) / 2 + 1) j S1 (by omega) (by omega) hj hrd1 hcell1 hcl1 (fun q hq hqi => by
          rcases Nat.lt_or_ge q ((i + j) / 2) with h | h
          · exact itc_trans (hs.lt hq hm h) hc0
          · obtain rfl : q = (i + j) / 2 := by omega
            exact hc0) hhi
        exact ⟨p, S2, e2, p2, f1.trans (f2.mono f1.le)⟩
      · rw [if_neg hc0]
        obtain ⟨p, S2, e2, p2, f2⟩ := ih i ((i + j) / 2) S1 (by omega) (by omega) (by omega) hrd1 hcell1 hcl1 hlo (fun q hq hqi => by
          rcases Nat.lt_or_ge ((i + j) / 2) q with h | h
          · intro hcc
            exact hc0 (itc_trans (hs.lt hm hq h) hcc)
          · obtain rfl : q = (i + j) / 2 := by omega
            exact hc0)
        exact ⟨p, S2, e2, p2, f1.trans (f2.mono f1.le)⟩
    · obtain rfl : i = j := by omega
      rw [if_neg (by omega)]
      have hp : PosOf es t i := ⟨hj, hlo, hhi⟩
      by_cases hend : i < es.length
      · obtain ⟨ad, a1, a2, a3⟩ := it_rows hrd.rows hend
        obtain ⟨S1, e1, f1⟩ := hc es[i] S
        rw [if_pos (by omega), a1, Option.bind_some, a2, Option.bind_some, a3, Option.bind_some, Option.bind_some, row_ldK (n := t.1) r0 rfl rfl, Option.bind_some, row_ldI (n := t.2) r0 rfl rfl, Option.bind_some]
        erw [e1]
        rw [Option.bind_some]
        simp only [dI, if_true, Option.bind_some]
        refine ⟨i, S1, ?_, hp, f1⟩
        simp [foundAt, List.getElem?_eq_getElem hend]
      · rw [if_neg (by omega)]
        refine ⟨i, S, ?_, hp, Fr.refl _ _⟩
        simp [foundAt, List.getElem?_eq_none (show es.length ≤ i by omega)]
theorem search_spec {k n : Nat} {H : Hd} {s : Sl} {t : It} {es : List It} {S : HS} (hk : 2000 ≤ k) (hs : Srt es) (hle : es.length ≤ 1000) (hrd : Rd S.next S 2 s (es.map itRow)) :
    ∃ (p : Nat) (S' : HS), slices_BinarySearchFunc_timer_item_string_timer_item_string_timer_item_string.f (disp k (n + 1)) H k s t.1 t.2 (HV.fn (.func 26) [] []) S = some (((p : Int), foundAt es t p), S') ∧ PosOf es t p ∧ Fr S.next S S' := by
  rw [slices_BinarySearchFunc_timer_item_string_timer_item_string_timer_item_string.f, letv]
  have fn : Fr S.next S (S.new (.cells 2 [itRow t] true)) := Fr.new (Nat.le_refl _) _
  have hsl : (s.len : Int) = es.length := by rw [← rows_len hrd.rows]; simp
  rw [hsl]
  obtain ⟨p, S', e, h1, h2⟩ := search_loop (c := S.next) (k := k) (cmpF_at (n := n) (H := H) (t := t) hk) hs (by omega) k 0 es.length (S.new (.cells 2 [itRow t] true)) (by omega) (Nat.zero_le _) (Nat.le_refl _) ((hrd.frame fn (Nat.le_refl _)).mono (Nat.le_succ _)) (new_here _ _) (Nat.lt_succ_self _) (fun q _ hq => by omega) (fun q hq hq2 => by omega)
  exact ⟨p, S', e, h1, fn.trans (h2.mono (Nat.le_succ _))⟩

/-! ### a table -/
def Own (t r : Nat) (s : Sl) (id : Nat) : Prop := id = t ∨ id = r ∨ ∃ q, s.a = some q ∧ q.1 = id
structure TI (t r : Nat) (s : Sl) (es ml : List It) (S : HS) : Prop where
  cell : S.heap t = .cells 2 [[s.hv, .map (some r)]] true
  mapc : S.heap r = .map (menc ml)
  ov : OV S 2 s (es.map itRow)
  ne : ∀ q, s.a = some q → q.1 ≠ t ∧ q.1 ≠ r
  tr : t ≠ r
  hi : t < S.next ∧ r < S.next
  srt : Srt es
  dst : Dst ml
  perm : es.Perm ml
  cnt : ml.length ≤ 1000
structure Only (t r : Nat) (s s' : Sl) (S S' : HS) : Prop where
  le : S.next ≤ S'.next
  eq : ∀ id, id < S.next → ¬ Own t r s id → S'.heap id = S.heap id
  own : ∀ id, Own t r s' id → Own t r s id ∨ S.next ≤ id
theorem Only.refl (t r : Nat) (s : Sl) (S : HS) : Only t r s s S S := ⟨Nat.le_refl _, fun _ _ _ => rfl, fun _ h => .inl h⟩
theorem Only.trans {t r : Nat} {s s' s'' : Sl} {S S' S'' : HS} (h : Only t r s s' S S') (k : Only t r s' s'' S' S'') : Only t r s s'' S S'' :=
  ⟨Nat.le_trans h.le k.le, fun id h1 h2 => (k.eq id (Nat.lt_of_lt_of_le h1 h.le) (fun ho => (h.own id ho).elim h2 (fun h3 => by omega))).trans (h.eq id h1 h2), fun id ho => by
    rcases k.own id ho with h1 | h1
    · exact h.own id h1
    · have := h.le; exact .inr (by omega)⟩
theorem Only.of_fr {t r : Nat} {s : Sl} {S S' : HS} (h : Fr S.next S S') : Only t r s s S S' := ⟨h.le, fun id h1 _ => h.eq id h1, fun _ ho => .inl ho⟩
theorem TI.lt {t r : Nat} {s : Sl} {es ml : List It} {S : HS} (h : TI t r s es ml S) {id : Nat} (ho : Own t r s id) : id < S.next := by
  rcases ho with rfl | rfl | ⟨q, h1, rfl⟩
  · exact h.hi.1
  · exact h.hi.2
  · exact h.ov.lt h1
theorem TI.keep {t r : Nat} {s : Sl} {es ml : List It} {S S' : HS} (h : TI t r s es ml S) (he : ∀ id, Own t r s id → S'.heap id = S.heap id) (hn : S.next ≤ S'.next) : TI t r s es ml S' :=
  ⟨(he t (.inl rfl)).trans h.cell, (he r (.inr (.inl rfl))).trans h.mapc, h.ov.keep (fun q hq => he q.1 (.inr (.inr ⟨q, hq, rfl⟩))) hn, h.ne, h.tr, ⟨Nat.lt_of_lt_of_le h.hi.1 hn, Nat.lt_of_lt_of_le h.hi.2 hn⟩, h.srt, h.dst, h.perm, h.cnt⟩
theorem TI.fr {t r : Nat} {s : Sl} {es ml : List It} {S S' : HS} (h : TI t r s es ml S) (hf : Fr S.next S S') : TI t r s es ml S' := h.keep (fun id ho => hf.eq id (h.lt ho)) hf.le
theorem TI.row {t r : Nat} {s : Sl} {es ml : List It} {S : HS} (h : TI t r s es ml S) : S.row (HA.cell0 t).id (HA.cell0 t).i = some [s.hv, .map (some r)] := cell_row h.cell
theorem TI.slen {t r : Nat} {s : Sl} {es ml : List It} {S : HS} (h : TI t r s es ml S) : s.len = es.length := by rw [h.ov.len]; simp
theorem TI.rd {t r : Nat} {s : Sl} {es ml : List It} {S : HS} (h : TI t r s es ml S) : Rd S.next S 2 s (es.map itRow) := ⟨h.ov.rows, fun q hq => h.ov.lt hq⟩
theorem TI.elen {t r : Nat} {s : Sl} {es ml : List It} {S : HS} (h : TI t r s es ml S) : es.length = ml.length := h.perm.length_eq
theorem tnew_spec (S : HS) : ∃ S', timer_New_string.f S = some (some (HA.cell0 (S.next + 1)), S') ∧ TI (S.next + 1) S.next Sl.nil [] [] S' ∧ Fr S.next S S' ∧ S'.next = S.next + 2 := by
  rw [timer_New_string.f, letv, letv]
  refine ⟨_, rfl, ⟨new_here (S.new _) _, ?_, .inl ⟨rfl, rfl, rfl⟩, fun q hq => (by cases hq), by omega, ⟨Nat.lt_succ_self _, by simp only [new_next]; omega⟩, List.Pairwise.nil, List.Pairwise.nil, List.Perm.nil, by simp⟩, (Fr.new (Nat.le_refl _) _).trans (Fr.new (by rw [new_next]; omega) _), rfl⟩
  rw [new_old _ (by rw [new_next]; omega)]
  exact new_here _ _
theorem at_spec {t r : Nat} {s : Sl} {es ml : List It} {S : HS} (h : TI t r s es ml S) (k : Ky) :
    (timer_Table_string_At.f (some (HA.cell0 t)) k S = some ((0, false), S) ∧ ∀ e ∈ ml, e.1 ≠ k) ∨ ∃ j, ∃ hj : j < ml.length, ml[j].1 = k ∧ timer_Table_string_At.f (some (HA.cell0 t)) k S = some ((ml[j].2, true), S) := by
  rw [timer_Table_string_At.f, if_neg (by simp), Option.bind_some, row_ldM h.row rfl rfl, Option.bind_some, HS.look, HS.mp, h.mapc]
  simp only [Option.bind_some]
  rcases mfind_spec k ml 0 with ⟨h1, h2⟩ | ⟨j, hj, h1, h2⟩
  · left
    refine ⟨?_, h2⟩
    erw [h1]
    rfl
  · right
    refine ⟨j, hj, h1, ?_⟩
    erw [h2]
    simp [dI]
theorem tlen_spec {t r : Nat} {s : Sl} {es ml : List It} {S : HS} (h : TI t r s es ml S) : timer_Table_string_Len.f (some (HA.cell0 t)) S = some ((ml.length : Int), S) := by
  rw [timer_Table_string_Len.f, if_neg (by simp), Option.bind_some, row_ldSl h.row rfl rfl, Option.bind_some, h.slen, h.elen]
theorem stop_spec {k n t r : Nat} {H : Hd} {s : Sl} {es ml : List It} {S : HS} (hk : 2000 ≤ k) (h : TI t r s es ml S) (ky : Ky) :
    ∃ b s' es' S', timer_Table_string_Stop.f (disp k (n + 1)) H k (some (HA.cell0 t)) ky S = some (b, S') ∧ TI t r s' es' (stopL ml ky) S' ∧ Only t r s s' S S' ∧ ((b = false ∧ ∀ e ∈ ml, e.1 ≠ ky) ∨ (b = true ∧ ∃ e ∈ ml, e.1 = ky)) := by
  rw [timer_Table_string_Stop.f]
  rcases at_spec h ky with ⟨e1, hno⟩ | ⟨j, hj, hkj, e1⟩
  · rw [e1, Option.bind_some, if_pos (by simp)]
    exact ⟨false, s, es, S, rfl, by rw [stopL_none hno]; exact h, Only.refl _ _ _ _, .inl ⟨rfl, hno⟩⟩
  · have hmem : (ky, ml[j].2) ∈ es := h.perm.mem_iff.2 (by rw [← hkj]; exact List.getElem_mem hj)
    obtain ⟨p, S1, e2, hp, f1⟩ := search_spec (k := k) (n := n) (H := H) (t := (ky, ml[j].2)) hk h.srt (by have := h.elen; have := h.cnt; omega) h.rd
    have h1 := h.fr f1
    have hfd := pos_mem hp h.srt hmem
    obtain ⟨hpl, hpe⟩ := found_lt hfd
    have hcnt := h.cnt
    have helen := h.elen
    rw [e1, Option.bind_some, if_neg (by simp), Option.bind_some, row_ldSl h.row rfl rfl, Option.bind_some]
    simp only at e2 ⊢
    rw [e2, Option.bind_some, hfd, if_pos rfl, Option.bind_some, row_ldSl h1.row rfl rfl, Option.bind_some]
    simp only
    rw [w64_id (by omega) (by omega), show ((p : Int) + 1) = ((p + 1 : Nat) : Int) by simp]
    obtain ⟨s', S2, a1, a2, a3, a4, a5⟩ := del_ov h1.ov (i := p) (by simpa using hpl) (by simp; omega)
    have hlt : t < S1.next ∧ r < S1.next := h1.hi
    have hcell : S2.heap t = .cells 2 [[s.hv, .map (some r)]] true := by rw [a4 t hlt.1 (fun q hq => (h1.ne q hq).1)]; exact h1.cell
    have hmap : S2.heap r = .map (menc ml) := by rw [a4 r hlt.2 (fun q hq => (h1.ne q hq).2)]; exact h1.mapc
    have hne' : ∀ q, s'.a = some q → q.1 ≠ t ∧ q.1 ≠ r := fun q hq => by have := a5 q hq; omega
    have hsr : S2.sets (HA.fld (HA.cell0 t) 0) [s'.hv] = some (S2.put t (.cells 2 [[s'.hv, .map (some r)]] true)) := (sets_row hcell rfl (by simp)).trans rfl
    rw [slices_Delete_timer_item_string_timer_item_string_w.f, a1, Option.bind_some, Option.bind_some, hsr, Option.bind_some, timer_Table_string_Stop.J0, Option.bind_some]
    have hrow3 : (S2.put t (.cells 2 [[s'.hv, .map (some r)]] true)).row (HA.cell0 t).id (HA.cell0 t).i = some [s'.hv, .map (some r)] := cell_row (put_here _ _ _)
    have hmap3 : (S2.put t (.cells 2 [[s'.hv, .map (some r)]] true)).heap r = .map (menc ml) := by rw [put_other _ (Ne.symm h.tr)]; exact hmap
    rw [row_ldM hrow3 rfl rfl, Option.bind_some]
    have hmd : (S2.put t (.cells 2 [[s'.hv, .map (some r)]] true)).mdel (some r) (kv ky) = some ((S2.put t (.cells 2 [[s'.hv, .map (some r)]] true)).put r (.map (menc (stopL ml ky)))) := by
      rw [HS.mdel, hmap3]
      simp only
      rcases mfind_spec ky ml 0 with ⟨g1, g2⟩ | ⟨j', hj', g1, g2⟩
      · exact absurd hkj (g2 _ (List.getElem_mem hj))
      · rw [g2]
        simp only [Option.map_some, Nat.zero_add]
        rw [menc_erase, stopL_at h.dst hj' g1]
    erw [hmd]
    rw [Option.bind_some]
    refine ⟨true, s', es.eraseIdx p, _, rfl, ?_, (Only.of_fr f1).trans ⟨by simp only [put_next]; exact a3, fun id g1 g2 => ?_, fun id ho => ?_⟩, .inr ⟨rfl, _, List.getElem_mem hj, hkj⟩⟩
    · refine ⟨by rw [put_other _ h.tr]; exact put_here _ _ _, put_here _ _ _, ?_, hne', h.tr, ⟨Nat.lt_of_lt_of_le hlt.1 a3, Nat.lt_of_lt_of_le hlt.2 a3⟩, erase_srt h.srt p, h.dst.stop ky, ?_, ?_⟩
      · rw [Go.ChangeMaps.map_eraseIdx]
        exact a2.keep (fun q hq => by rw [put_other _ (hne' q hq).2, put_other _ (hne' q hq).1]) (Nat.le_refl _)
      · rw [stopL_at h.dst hj hkj]
        exact perm_erase h.perm hpl hj (by rw [hpe, ← hkj])
      · exact Nat.le_trans (List.length_filter_le _ _) h.cnt
    · rw [put_other _ (fun e => g2 (.inr (.inl e))), put_other _ (fun e => g2 (.inl e))]
      exact a4 id g1 (fun q hq e => g2 (.inr (.inr ⟨q, hq, e⟩)))
    · rcases ho with g | g | ⟨q, g1, g2⟩
      · exact .inl (.inl g)
      · exact .inl (.inr (.inl g))
      · right; rw [← g2]; exact a5 q g1
def setL (ml : List It) (k : Ky) (at_ : Int) : List It := stopL ml k ++ [(k, at_)]
theorem stopL_not {ml : List It} {k : Ky} : ∀ e ∈ stopL ml k, e.1 ≠ k := by
  intro e he
  have := (List.mem_filter.1 he).2
  simpa using this
theorem set_spec {k n t r : Nat} {H : Hd} {s : Sl} {es ml : List It} {S : HS} (hk : 2000 ≤ k) (h : TI t r s es ml S) (hroom : ml.length < 1000) (ky : Ky) (at_ : Int) :
    ∃ s' es' S', timer_Table_string_Set.f (disp k (n + 1)) H k (some (HA.cell0 t)) ky at_ S = some ((), S') ∧ TI t r s' es' (setL ml ky at_) S' ∧ Only t r s s' S S' := by
  obtain ⟨b, s1, es1, S1, e1, h1, o1, _⟩ := stop_spec (n := n) (H := H) hk h ky
  have hl1 : (stopL ml ky).length ≤ ml.length := List.length_filter_le _ _
  have helen := h1.elen
  obtain ⟨p, S2, e2, hp, f2⟩ := search_spec (k := k) (n := n) (H := H) (t := (ky, at_)) hk h1.srt (by omega) h1.rd
  have h2 := h1.fr f2
  have hfd : foundAt es1 (ky, at_) p = false := by
    cases hf : foundAt es1 (ky, at_) p with
    | false => rfl
    | true =>
      obtain ⟨hpl, hpe⟩ := found_lt hf
      have hm := h1.perm.mem_iff.1 (List.getElem_mem hpl)
      rw [hpe] at hm
      exact absurd rfl (stopL_not _ hm)
  simp only at e2
  rw [timer_Table_string_Set.f, if_neg (by simp), e1, Option.bind_some, Option.bind_some, row_ldSl h1.row rfl rfl, Option.bind_some, e2, Option.bind_some, Option.bind_some, row_ldSl h2.row rfl rfl, Option.bind_some, letv]
  obtain ⟨s', S3, a1, a2, a3, a4, a5⟩ := ins_ov (row := itRow (ky, at_)) h2.ov (i := p) (by simpa using hp.le) (by simp; omega)
  have hlt : t < S2.next ∧ r < S2.next := h2.hi
  have hcell : S3.heap t = .cells 2 [[s1.hv, .map (some r)]] true := by rw [a4 t hlt.1 (fun q hq => (h2.ne q hq).1)]; exact h2.cell
  have hmap : S3.heap r = .map (menc (stopL ml ky)) := by rw [a4 r hlt.2 (fun q hq => (h2.ne q hq).2)]; exact h2.mapc
  have hne' : ∀ q, s'.a = some q → q.1 ≠ t ∧ q.1 ≠ r := fun q hq => by have := a5 q hq; omega
  have hsr : S3.sets (HA.fld (HA.cell0 t) 0) [s'.hv] = some (S3.put t (.cells 2 [[s'.hv, .map (some r)]] true)) := (sets_row hcell rfl (by simp)).trans rfl
  rw [slices_Insert_timer_item_string_timer_item_string_w.f]
  erw [a1]
  rw [Option.bind_some, Option.bind_some, hsr, Option.bind_some, Option.bind_some]
  have hrow3 : (S3.put t (.cells 2 [[s'.hv, .map (some r)]] true)).row (HA.cell0 t).id (HA.cell0 t).i = some [s'.hv, .map (some r)] := cell_row (put_here _ _ _)
  have hmap3 : (S3.put t (.cells 2 [[s'.hv, .map (some r)]] true)).heap r = .map (menc (stopL ml ky)) := by rw [put_other _ (Ne.symm h.tr)]; exact hmap
  rw [row_ldM hrow3 rfl rfl, Option.bind_some]
  have hmd : (S3.put t (.cells 2 [[s'.hv, .map (some r)]] true)).mput (some r) (kv ky) (.int .i64 at_) = some ((S3.put t (.cells 2 [[s'.hv, .map (some r)]] true)).put r (.map (menc (setL ml ky at_)))) := by
    rw [HS.mput, hmap3]
    simp only
    rcases mfind_spec ky (stopL ml ky) 0 with ⟨g1, g2⟩ | ⟨j', hj', g1, g2⟩
    · rw [g1]
      simp [menc, setL]
    · exact absurd g1 (stopL_not _ (List.getElem_mem hj'))
  erw [hmd]
  rw [Option.bind_some]
  refine ⟨s', es1.take p ++ [(ky, at_)] ++ es1.drop p, _, rfl, ?_, o1.trans ((Only.of_fr f2).trans ⟨by simp only [put_next]; exact a3, fun id g1 g2 => ?_, fun id ho => ?_⟩)⟩
  · refine ⟨by rw [put_other _ h.tr]; exact put_here _ _ _, put_here _ _ _, ?_, hne', h.tr, ⟨Nat.lt_of_lt_of_le hlt.1 a3, Nat.lt_of_lt_of_le hlt.2 a3⟩, ins_srt hp h1.srt hfd, ?_, ?_, ?_⟩
    · have hm : (es1.take p ++ [(ky, at_)] ++ es1.drop p).map itRow = (es1.map itRow).take p ++ [itRow (ky, at_)] ++ (es1.map itRow).drop p := by simp only [List.map_append, List.map_take, List.map_drop, List.map_cons, List.map_nil]
      rw [hm]
      exact a2.keep (fun q hq => by rw [put_other _ (hne' q hq).2, put_other _ (hne' q hq).1]) (Nat.le_refl _)
    · unfold Dst setL
      rw [List.pairwise_append]
      refine ⟨h1.dst, List.pairwise_singleton _ _, fun a ha b hb => ?_⟩
      simp only [List.mem_singleton] at hb
      subst hb
      exact stopL_not _ ha
    · unfold setL
      rw [List.append_assoc, List.singleton_append]
      refine List.perm_middle.trans ?_
      rw [List.take_append_drop]
      exact (h1.perm.cons _).trans (List.perm_append_singleton _ _).symm
    · unfold setL; simp; omega
  · rw [put_other _ (fun e => g2 (.inr (.inl e))), put_other _ (fun e => g2 (.inl e))]
    exact a4 id g1 (fun q hq e => g2 (.inr (.inr ⟨q, hq, e⟩)))
  · rcases ho with g | g | ⟨q, g1, g2⟩
    · exact .inl (.inl g)
    · exact .inl (.inr (.inl g))
    · right; rw [← g2]; exact a5 q g1
end Go.Proofs.Ytlfdfkldolgkoaa.X
