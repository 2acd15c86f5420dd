/- Sets of int, plain. -/
import Derived.Test.YtdgmehfhgppheaaPsCom
namespace Go.Proofs.Ytdgmehfhgppheaa.X
open Go.Proofs.Ytdgmehfhgppheaa.HL
set_option linter.unusedVariables false
namespace KI
abbrev Ky := Int
def kv (k : Ky) : HV := .int .i64 k
def klt (a b : Ky) : Bool := decide (a < b)
theorem klt_irrefl (a : Ky) : klt a a = false := by simp [klt]
theorem klt_trans {a b c : Ky} (h1 : klt a b = true) (h2 : klt b c = true) : klt a c = true := by simp only [klt, decide_eq_true_eq] at *; exact Int.lt_trans h1 h2
theorem klt_tri (a b : Ky) : klt a b = true ∨ a = b ∨ klt b a = true := by simp only [klt, decide_eq_true_eq]; exact Int.lt_trichotomy a b

def row1 (k : Ky) : List HV := [kv k]
theorem ldK_at {S : HS} {s : Sl} {xs : List Ky} (h : S.rows s 1 = some (xs.map row1)) {i : Nat} (hi : i < xs.length) : ∃ ad, S.idx s (i : Int) 1 = some ad ∧ S.ldI .i64 ad = some xs[i] := by
  obtain ⟨ad, h1, h2⟩ := get_at h (i := i) (v := kv xs[i]) (by simpa using hi) (by rw [List.getElem_map]; rfl)
  exact ⟨ad, h1, by rw [HS.ldI, h2]; simp [dI, kv]⟩
theorem less_spec (a b : Ky) : cmp_Less_int.f a b = some (klt a b) := by
  have h : ∀ x, cmp_isNaN_int.f x = some false := fun x => by simp [cmp_isNaN_int.f]
  rw [cmp_Less_int.f, h, Option.bind_some, if_neg (by simp), cmp_Less_int.J0, if_neg (by simp), cmp_Less_int.J1]
  rfl
def Srt (es : List Ky) : Prop := es.Pairwise fun a b => klt a b = true
theorem Srt.lt {es : List Ky} (h : Srt es) {i j : Nat} (hi : i < es.length) (hj : j < es.length) (hij : i < j) : klt es[i] es[j] = true := List.pairwise_iff_getElem.1 h i j hi hj hij
structure PosOf (es : List Ky) (t : Ky) (p : Nat) : Prop where
  le : p ≤ es.length
  lo : ∀ q (hq : q < es.length), q < p → klt es[q] t = true
  hi : ∀ q (hq : q < es.length), p ≤ q → klt es[q] t = false
theorem klt_asymm {a b : Ky} (h : klt a b = true) : klt b a = false := by
  cases h2 : klt b a with
  | false => rfl
  | true => have := klt_trans h h2; rw [klt_irrefl] at this; cases this
theorem PosOf.gt {es : List Ky} {t : Ky} {p : Nat} (h : PosOf es t p) (hs : Srt es) (hf : t ∉ es) {q : Nat} (hq : q < es.length) (hpq : p ≤ q) : klt t es[q] = true := by
  have h1 := h.hi q hq hpq
  rcases klt_tri es[q] t with g | g | g
  · rw [h1] at g; cases g
  · exact absurd (g ▸ List.getElem_mem hq) hf
  · exact g
theorem PosOf.here {es : List Ky} {t : Ky} {p : Nat} (h : PosOf es t p) (hs : Srt es) (hm : t ∈ es) : ∃ hp : p < es.length, es[p] = t := by
  obtain ⟨q, hq, he⟩ := List.getElem_of_mem hm
  have hqp : p ≤ q := by
    rcases Nat.lt_or_ge q p with g | g
    · have := h.lo q hq g; rw [he, klt_irrefl] at this; cases this
    · exact g
  have hp : p < es.length := by omega
  refine ⟨hp, ?_⟩
  rcases Nat.eq_or_lt_of_le hqp with g | g
  · subst g; exact he
  · have h1 := hs.lt hp hq g
    rw [he] at h1
    rw [h.hi p hp (Nat.le_refl _)] at h1; cases h1
theorem ins_srt {es : List Ky} {t : Ky} {p : Nat} (h : PosOf es t p) (hs : Srt es) (hf : t ∉ es) : Srt (es.take p ++ [t] ++ es.drop p) := by
  unfold Srt
  rw [List.append_assoc, List.pairwise_append]
  refine ⟨List.Pairwise.sublist (List.take_sublist _ _) hs, ?_, fun a ha b hb => ?_⟩
  · rw [List.singleton_append, List.pairwise_cons]
    refine ⟨fun b hb => ?_, List.Pairwise.sublist (List.drop_sublist _ _) hs⟩
    obtain ⟨q, hq, rfl⟩ := List.getElem_of_mem hb
    rw [List.getElem_drop]
    exact h.gt hs hf _ (by omega)
  · obtain ⟨q, hq, rfl⟩ := List.getElem_of_mem ha
    rw [List.length_take] at hq
    rw [List.getElem_take]
    have h1 := h.lo q (by omega) (by omega)
    rcases List.mem_append.1 hb with hb | hb
    · simp only [List.mem_singleton] at hb
      subst hb; exact h1
    · obtain ⟨q2, hq2, rfl⟩ := List.getElem_of_mem hb
      rw [List.getElem_drop]
      rw [List.length_drop] at hq2
      exact hs.lt (by omega) (by omega) (by omega)
theorem ins_mem {es : List Ky} {t : Ky} {p : Nat} (v : Ky) : v ∈ es.take p ++ [t] ++ es.drop p ↔ v ∈ es ∨ v = t := by
  simp only [List.mem_append, List.mem_singleton]
  constructor
  · rintro ((h | h) | h)
    · exact .inl (List.mem_of_mem_take h)
    · exact .inr h
    · exact .inl (List.mem_of_mem_drop h)
  · rintro (h | h)
    · rw [← List.take_append_drop p es, List.mem_append] at h
      rcases h with h | h
      · exact .inl (.inl h)
      · exact .inr h
    · exact .inl (.inr h)
theorem erase_srt {es : List Ky} (hs : Srt es) (p : Nat) : Srt (es.eraseIdx p) := List.Pairwise.sublist (List.eraseIdx_sublist _ _) hs
theorem erase_mem {es : List Ky} (hs : Srt es) {p : Nat} (hp : p < es.length) (v : Ky) : v ∈ es.eraseIdx p ↔ v ∈ es ∧ v ≠ es[p] := by
  rw [List.mem_eraseIdx_iff_getElem]
  constructor
  · rintro ⟨q, hq, hne, rfl⟩
    refine ⟨List.getElem_mem hq, fun he => ?_⟩
    rcases Nat.lt_or_ge q p with g | g
    · have := hs.lt hq hp g; rw [he, klt_irrefl] at this; cases this
    · have := hs.lt hp hq (by omega); rw [he, klt_irrefl] at this; cases this
  · rintro ⟨hm, hne⟩
    obtain ⟨q, hq, rfl⟩ := List.getElem_of_mem hm
    exact ⟨q, hq, fun e => hne (by subst e; rfl), rfl⟩
theorem srt_ext : ∀ {a b : List Ky}, Srt a → Srt b → (∀ v, v ∈ a ↔ v ∈ b) → a = b := by
  intro a
  induction a with
  | nil =>
    intro b _ _ h
    cases b with
    | nil => rfl
    | cons y b => exact absurd ((h y).2 (by simp)) (by simp)
  | cons x a ih =>
    intro b ha hb h
    cases b with
    | nil => exact absurd ((h x).1 (by simp)) (by simp)
    | cons y b =>
      have ha' := List.pairwise_cons.1 ha
      have hb' := List.pairwise_cons.1 hb
      have hxy : x = y := by
        rcases List.mem_cons.1 ((h x).1 (by simp)) with g | g
        · exact g
        · rcases List.mem_cons.1 ((h y).2 (by simp)) with g2 | g2
          · exact g2.symm
          · have h1 := hb'.1 x g
            have h2 := ha'.1 y g2
            have := klt_trans h1 h2
            rw [klt_irrefl] at this; cases this
      subst hxy
      congr 1
      refine ih ha'.2 hb'.2 fun v => ?_
      have h1 := h v
      simp only [List.mem_cons] at h1
      constructor
      · intro hv
        rcases h1.1 (.inr hv) with g | g
        · subst g; have := ha'.1 v hv; rw [klt_irrefl] at this; cases this
        · exact g
      · intro hv
        rcases h1.2 (.inr hv) with g | g
        · subst g; have := hb'.1 v hv; rw [klt_irrefl] at this; cases this
        · exact g
theorem bs_spec {k : Nat} {S : HS} {s : Sl} {es : List Ky} {t : Ky} (hk : 2000 ≤ k) (hs : Srt es) (hle : es.length ≤ 1000) (hr : S.rows s 1 = some (es.map row1)) :
    ∃ p : Nat, slices_BinarySearch_int_int.f k s t S = some (((p : Int), decide (t ∈ es)), S) ∧ PosOf es t p := by
  have hsl : (s.len : Int) = es.length := by rw [← rows_len hr]; simp
  have hloop : ∀ (n i j : Nat), j - i < n → i ≤ j → j ≤ es.length → (∀ q (hq : q < es.length), q < i → klt es[q] t = true) → (∀ q (hq : q < es.length), j ≤ q → klt es[q] t = false) →
      ∃ p : Nat, slices_BinarySearch_int_int.L0 k n s t (es.length : Int) (i : Int) (j : Int) S = some (((p : Int), decide (t ∈ es)), S) ∧ PosOf es t p := by
    intro n
    induction n with
    | zero => intro i j h; omega
    | succ n ih =>
      intro i j hf hij hj hlo hhi
      rw [slices_BinarySearch_int_int.L0]
      by_cases hlt : i < j
      · rw [if_pos (by omega), mid_eq (by omega)]
        have hm : (i + j) / 2 < es.length := by omega
        obtain ⟨ad, a1, a2⟩ := ldK_at hr hm
        rw [a1, Option.bind_some, a2, Option.bind_some, less_spec, Option.bind_some]
        cases hc : klt es[(i + j) / 2] t with
        | true =>
          rw [if_pos rfl, w64_id (by omega) (by omega), show ((((i + j) / 2 : Nat) : Int) + 1) = (((i + j) / 2 + 1 : Nat) : Int) by simp]
          exact ih ((i + j) / 2 + 1) j (by omega) (by omega) hj (fun q hq hqi => by
            rcases Nat.lt_or_ge q ((i + j) / 2) with h | h
            · exact klt_trans (hs.lt hq hm h) hc
            · obtain rfl : q = (i + j) / 2 := by omega
              exact hc) hhi
        | false =>
          rw [if_neg (by simp)]
          exact ih i ((i + j) / 2) (by omega) (by omega) (by omega) hlo (fun q hq hqi => by
            rcases Nat.lt_or_ge ((i + j) / 2) q with h | h
            · cases h2 : klt es[q] t with
              | false => rfl
              | true => have := klt_trans (hs.lt hm hq h) h2; rw [hc] at this; cases this
            · obtain rfl : q = (i + j) / 2 := by omega
              exact hc)
      · obtain rfl : i = j := by omega
        rw [if_neg (by omega)]
        have hp : PosOf es t i := ⟨hj, hlo, hhi⟩
        refine ⟨i, ?_, hp⟩
        by_cases hend : i < es.length
        · obtain ⟨ad, a1, a2⟩ := ldK_at hr hend
          rw [if_pos (by omega), a1, Option.bind_some, a2, Option.bind_some]
          by_cases he : es[i] = t
          · rw [if_pos he, slices_BinarySearch_int_int.J1, if_pos (by simpa using hend), slices_BinarySearch_int_int.J2, decide_eq_true (he ▸ List.getElem_mem hend)]
          · have hno : t ∉ es := fun hm => by
              obtain ⟨_, h2⟩ := hp.here hs hm
              exact he h2
            rw [if_neg he, Option.bind_some, a2, Option.bind_some, show slices_isNaN_int.f es[i] = some false by simp [slices_isNaN_int.f], Option.bind_some, if_neg (by simp), slices_BinarySearch_int_int.J3, if_pos (by simpa using hend), if_neg (by simpa using he), slices_BinarySearch_int_int.J1, if_pos (by simpa using hend), slices_BinarySearch_int_int.J2, decide_eq_false hno]
        · have hno : t ∉ es := fun hm => by
            obtain ⟨h1, _⟩ := hp.here hs hm
            exact hend h1
          rw [if_neg (by omega), slices_BinarySearch_int_int.J2, decide_eq_false hno]
  rw [slices_BinarySearch_int_int.f, hsl]
  exact hloop k 0 es.length (by omega) (Nat.zero_le _) (Nat.le_refl _) (fun q hq h => by omega) (fun q hq h => by omega)
/-! ### a set -/
structure SI (p : Nat) (s : Sl) (xs : List Ky) (S : HS) : Prop where
  cell : S.heap p = .cells 1 [[s.hv]] true
  ov : OV S 1 s (xs.map row1)
  ne : ∀ q, s.a = some q → q.1 ≠ p
  hi : p < S.next
  srt : Srt xs
  cnt : xs.length ≤ 1000
theorem SI.lt {p : Nat} {s : Sl} {xs : List Ky} {S : HS} (h : SI p s xs S) {id : Nat} (ho : Own p s id) : id < S.next := by
  rcases ho with rfl | ⟨q, h1, rfl⟩
  · exact h.hi
  · exact h.ov.lt h1
theorem SI.keep {p : Nat} {s : Sl} {xs : List Ky} {S S' : HS} (h : SI p s xs S) (he : ∀ id, Own p s id → S'.heap id = S.heap id) (hn : S.next ≤ S'.next) : SI p s xs S' :=
  ⟨(he p (.inl rfl)).trans h.cell, h.ov.keep (fun q hq => he q.1 (.inr ⟨q, hq, rfl⟩)) hn, h.ne, Nat.lt_of_lt_of_le h.hi hn, h.srt, h.cnt⟩
theorem SI.fr {p : Nat} {s : Sl} {xs : List Ky} {S S' : HS} (h : SI p s xs S) (hf : Fr S.next S S') : SI p s xs S' := h.keep (fun id ho => hf.eq id (h.lt ho)) hf.le
theorem SI.ld {p : Nat} {s : Sl} {xs : List Ky} {S : HS} (h : SI p s xs S) : S.ldSl (HA.fld (HA.cell0 p) 0) = some s := row_ldSl (cell_row h.cell) rfl rfl
theorem SI.slen {p : Nat} {s : Sl} {xs : List Ky} {S : HS} (h : SI p s xs S) : (s.len : Int) = xs.length := by rw [h.ov.len]; simp
theorem set_put {p : Nat} {s s' : Sl} {S : HS} (h : S.heap p = .cells 1 [[s.hv]] true) : S.sets (HA.fld (HA.cell0 p) 0) [s'.hv] = some (S.put p (.cells 1 [[s'.hv]] true)) := (sets_row h rfl (by simp)).trans rfl
theorem ins_spec {p : Nat} {s : Sl} {xs : List Ky} {S : HS} (h : SI p s xs S) {t : Ky} {i : Nat} (hp : PosOf xs t i) (hno : t ∉ xs) (hroom : xs.length < 1000) :
    ∃ s' S' S1, slices_Insert_int_int_w.f s (i : Int) (S.lit [[.int .i64 t]] 1).1 (S.lit [[.int .i64 t]] 1).2 = some (s', S1) ∧ S1.sets (HA.fld (HA.cell0 p) 0) [s'.hv] = some S' ∧ SI p s' (xs.take i ++ [t] ++ xs.drop i) S' ∧ Only p s s' S S' := by
  obtain ⟨s', S1, a1, a2, a3, a4, a5⟩ := ins_ov (row := row1 t) h.ov (i := i) (by simpa using hp.le) (by simp; omega)
  have hcell : S1.heap p = .cells 1 [[s.hv]] true := by rw [a4 p h.hi h.ne]; exact h.cell
  have hne' : ∀ q, s'.a = some q → q.1 ≠ p := fun q hq => by have := a5 q hq; have := h.hi; omega
  refine ⟨s', _, S1, a1, set_put hcell, ⟨put_here _ _ _, ?_, hne', Nat.lt_of_lt_of_le h.hi a3, ins_srt hp h.srt hno, by simp; omega⟩, ⟨by rw [put_next]; exact a3, fun id g1 g2 => ?_, fun id ho => ?_⟩⟩
  · have hm : (xs.take i ++ [t] ++ xs.drop i).map row1 = (xs.map row1).take i ++ [row1 t] ++ (xs.map row1).drop i := by simp only [List.map_append, List.map_take, List.map_drop, List.map_cons, List.map_nil]
    rw [hm]
    exact a2.keep (fun q hq => put_other _ (hne' q hq)) (Nat.le_refl _)
  · rw [put_other _ (fun e => g2 (.inl e))]
    exact a4 id g1 (fun q hq e => g2 (.inr ⟨q, hq, e⟩))
  · rcases ho with g | ⟨q, g1, g2⟩
    · exact .inl (.inl g)
    · right; rw [← g2]; exact a5 q g1
theorem del_spec {p : Nat} {s : Sl} {xs : List Ky} {S : HS} (h : SI p s xs S) {i : Nat} (hi : i < xs.length) :
    ∃ s' S' S1, slices_Delete_int_int_w.f s (i : Int) ((i + 1 : Nat) : Int) S = some (s', S1) ∧ S1.sets (HA.fld (HA.cell0 p) 0) [s'.hv] = some S' ∧ SI p s' (xs.eraseIdx i) S' ∧ Only p s s' S S' := by
  have hcnt := h.cnt
  obtain ⟨s', S1, a1, a2, a3, a4, a5⟩ := del_ov h.ov (i := i) (by simpa using hi) (by simp; omega)
  have hcell : S1.heap p = .cells 1 [[s.hv]] true := by rw [a4 p h.hi h.ne]; exact h.cell
  have hne' : ∀ q, s'.a = some q → q.1 ≠ p := fun q hq => by have := a5 q hq; have := h.hi; omega
  refine ⟨s', _, S1, a1, set_put hcell, ⟨put_here _ _ _, ?_, hne', Nat.lt_of_lt_of_le h.hi a3, erase_srt h.srt i, by rw [List.length_eraseIdx, if_pos hi]; omega⟩, ⟨by rw [put_next]; exact a3, fun id g1 g2 => ?_, fun id ho => ?_⟩⟩
  · rw [Go.ChangeMaps.map_eraseIdx]
    exact a2.keep (fun q hq => put_other _ (hne' q hq)) (Nat.le_refl _)
  · rw [put_other _ (fun e => g2 (.inl e))]
    exact a4 id g1 (fun q hq e => g2 (.inr ⟨q, hq, e⟩))
  · rcases ho with g | ⟨q, g1, g2⟩
    · exact .inl (.inl g)
    · right; rw [← g2]; exact a5 q g1
theorem add_spec {k p : Nat} {s sl : Sl} {xs ls : List Ky} {S : HS} (hk : 2000 ≤ k) (h : SI p s xs S) (hr : S.rows sl 1 = some (ls.map row1)) (hlt : ∀ q, sl.a = some q → q.1 < S.next ∧ ¬ Own p s q.1) (hc : xs.length + ls.length ≤ 1000) :
    ∃ s' xs' S', set_Set_int_Add.f k (some (HA.cell0 p)) sl S = some ((xs'.length : Int) - xs.length, S') ∧ SI p s' xs' S' ∧ Only p s s' S S' ∧ (∀ v, v ∈ xs' ↔ v ∈ xs ∨ v ∈ ls) ∧ xs.length ≤ xs'.length ∧ xs'.length ≤ xs.length + ls.length := by
  have hsl : (sl.len : Int) = ls.length := by rw [← rows_len hr]; simp
  have hloop : ∀ (f i : Nat) (T : HS) (s1 : Sl) (ys : List Ky), ls.length - i < f → i ≤ ls.length → SI p s1 ys T → Only p s s1 S T → (∀ v, v ∈ ys ↔ v ∈ xs ∨ v ∈ ls.take i) → xs.length ≤ ys.length → ys.length ≤ xs.length + i →
      ∃ s' xs' S', set_Set_int_Add.L0 k f (some (HA.cell0 p)) ((ys.length : Int) - xs.length) sl (ls.length : Int) (i : Int) T = some ((xs'.length : Int) - xs.length, S') ∧ SI p s' xs' S' ∧ Only p s s' S S' ∧ (∀ v, v ∈ xs' ↔ v ∈ xs ∨ v ∈ ls) ∧ xs.length ≤ xs'.length ∧ xs'.length ≤ xs.length + ls.length := by
    intro f
    induction f with
    | zero => intro i T s1 ys h; omega
    | succ f ih =>
      intro i T s1 ys hf hi hT hO hm hge hle
      have hrT : T.rows sl 1 = some (ls.map row1) := rows_keep hr fun q hq => hO.eq q.1 (hlt q hq).1 (hlt q hq).2
      rw [set_Set_int_Add.L0]
      by_cases hil : i < ls.length
      · obtain ⟨ad, a1, a2⟩ := ldK_at hrT hil
        obtain ⟨j, b1, hp⟩ := bs_spec (t := ls[i]) hk hT.srt hT.cnt hT.ov.rows
        have hmem : ∀ v, (v ∈ ls.take (i + 1) ↔ v ∈ ls.take i ∨ v = ls[i]) := fun v => by rw [List.take_succ_eq_append_getElem hil, List.mem_append, List.mem_singleton]
        rw [if_pos (by omega), a1, Option.bind_some, a2, Option.bind_some, Option.bind_some, hT.ld, Option.bind_some, b1, Option.bind_some]
        simp only
        by_cases hin : ls[i] ∈ ys
        · rw [decide_eq_true hin, if_neg (by simp), set_Set_int_Add.J1, w64_id (by omega) (by omega), show ((i : Int) + 1) = ((i + 1 : Nat) : Int) by simp]
          refine ih (i + 1) T s1 ys (by omega) (by omega) hT hO (fun v => ?_) hge (by omega)
          rw [hmem, ← or_assoc, ← hm]
          exact ⟨fun h => .inl h, fun h => h.elim id (fun e => e ▸ hin)⟩
        · obtain ⟨s2, T2, T1, c1, c2, c3, c4⟩ := ins_spec hT hp hin (by omega)
          have hlen : (ys.take j ++ [ls[i]] ++ ys.drop j).length = ys.length + 1 := by
            have := hp.le
            simp only [List.length_append, List.length_take, List.length_drop, List.length_singleton]; omega
          rw [decide_eq_false hin, if_pos (by simp), Option.bind_some, hT.ld, Option.bind_some, letv, c1, Option.bind_some, Option.bind_some, c2, Option.bind_some, set_Set_int_Add.J1, w64_id (n := (i : Int) + 1) (by omega) (by omega), show ((i : Int) + 1) = ((i + 1 : Nat) : Int) by simp, w64_id (by omega) (by omega)]
          have e : (ys.length : Int) - xs.length + 1 = ((ys.take j ++ [ls[i]] ++ ys.drop j).length : Int) - xs.length := by rw [hlen]; omega
          rw [e]
          refine ih (i + 1) T2 s2 _ (by omega) (by omega) c3 (hO.trans c4) (fun v => ?_) (by omega) (by omega)
          rw [ins_mem, hmem, ← or_assoc, ← hm]
      · obtain rfl : i = ls.length := by omega
        rw [if_neg (by omega)]
        rw [List.take_length] at hm
        exact ⟨s1, ys, T, rfl, hT, hO, hm, hge, hle⟩
  rw [set_Set_int_Add.f, if_neg (by simp), hsl]
  have := hloop k 0 S s xs (by omega) (Nat.zero_le _) h (Only.refl _ _ _) (fun v => by simp) (Nat.le_refl _) (by omega)
  rw [show ((xs.length : Int) - xs.length) = 0 by omega] at this
  exact this
theorem remove_spec {k p : Nat} {s sl : Sl} {xs ls : List Ky} {S : HS} (hk : 2000 ≤ k) (h : SI p s xs S) (hr : S.rows sl 1 = some (ls.map row1)) (hlt : ∀ q, sl.a = some q → q.1 < S.next ∧ ¬ Own p s q.1) (hc : ls.length ≤ 1000) :
    ∃ s' xs' S', set_Set_int_Remove.f k (some (HA.cell0 p)) sl S = some ((xs.length : Int) - xs'.length, S') ∧ SI p s' xs' S' ∧ Only p s s' S S' ∧ (∀ v, v ∈ xs' ↔ v ∈ xs ∧ v ∉ ls) ∧ xs'.length ≤ xs.length := by
  have hsl : (sl.len : Int) = ls.length := by rw [← rows_len hr]; simp
  have hcnt := h.cnt
  have hloop : ∀ (f i : Nat) (T : HS) (s1 : Sl) (ys : List Ky), ls.length - i < f → i ≤ ls.length → SI p s1 ys T → Only p s s1 S T → (∀ v, v ∈ ys ↔ v ∈ xs ∧ v ∉ ls.take i) → ys.length ≤ xs.length →
      ∃ s' xs' S', set_Set_int_Remove.L0 k f (some (HA.cell0 p)) ((xs.length : Int) - ys.length) sl (ls.length : Int) (i : Int) T = some ((xs.length : Int) - xs'.length, S') ∧ SI p s' xs' S' ∧ Only p s s' S S' ∧ (∀ v, v ∈ xs' ↔ v ∈ xs ∧ v ∉ ls) ∧ xs'.length ≤ xs.length := by
    intro f
    induction f with
    | zero => intro i T s1 ys h; omega
    | succ f ih =>
      intro i T s1 ys hf hi hT hO hm hle
      have hrT : T.rows sl 1 = some (ls.map row1) := rows_keep hr fun q hq => hO.eq q.1 (hlt q hq).1 (hlt q hq).2
      rw [set_Set_int_Remove.L0]
      by_cases hil : i < ls.length
      · obtain ⟨ad, a1, a2⟩ := ldK_at hrT hil
        obtain ⟨j, b1, hp⟩ := bs_spec (t := ls[i]) hk hT.srt hT.cnt hT.ov.rows
        have hmem : ∀ v, (v ∉ ls.take (i + 1) ↔ v ∉ ls.take i ∧ v ≠ ls[i]) := fun v => by rw [List.take_succ_eq_append_getElem hil, List.mem_append, List.mem_singleton, not_or]
        rw [if_pos (by omega), a1, Option.bind_some, a2, Option.bind_some, Option.bind_some, hT.ld, Option.bind_some, b1, Option.bind_some]
        simp only
        by_cases hin : ls[i] ∈ ys
        · obtain ⟨hj, he⟩ := hp.here hT.srt hin
          obtain ⟨s2, T2, T1, c1, c2, c3, c4⟩ := del_spec hT hj
          have hlen : (ys.eraseIdx j).length = ys.length - 1 := by rw [List.length_eraseIdx, if_pos hj]
          rw [decide_eq_true hin, if_pos rfl, Option.bind_some, hT.ld, Option.bind_some, w64_id (n := (j : Int) + 1) (by omega) (by omega), show ((j : Int) + 1) = ((j + 1 : Nat) : Int) by simp, c1, Option.bind_some, Option.bind_some, c2, Option.bind_some, set_Set_int_Remove.J1, w64_id (n := (i : Int) + 1) (by omega) (by omega), show ((i : Int) + 1) = ((i + 1 : Nat) : Int) by simp, w64_id (by omega) (by omega)]
          have e : (xs.length : Int) - ys.length + 1 = (xs.length : Int) - ((ys.eraseIdx j).length : Int) := by rw [hlen]; omega
          rw [e]
          refine ih (i + 1) T2 s2 _ (by omega) (by omega) c3 (hO.trans c4) (fun v => ?_) (by omega)
          rw [erase_mem hT.srt hj, hmem, ← and_assoc, ← hm, he]
        · rw [decide_eq_false hin, if_neg (by simp), set_Set_int_Remove.J1, w64_id (by omega) (by omega), show ((i : Int) + 1) = ((i + 1 : Nat) : Int) by simp]
          refine ih (i + 1) T s1 ys (by omega) (by omega) hT hO (fun v => ?_) hle
          rw [hmem, ← and_assoc, ← hm]
          exact ⟨fun h => ⟨h, fun e => hin (e ▸ h)⟩, fun h => h.1⟩
      · obtain rfl : i = ls.length := by omega
        rw [if_neg (by omega)]
        rw [List.take_length] at hm
        exact ⟨s1, ys, T, rfl, hT, hO, hm, hle⟩
  rw [set_Set_int_Remove.f, if_neg (by simp), hsl]
  have := hloop k 0 S s xs (by omega) (Nat.zero_le _) h (Only.refl _ _ _) (fun v => by simp) (Nat.le_refl _)
  rw [show ((xs.length : Int) - xs.length) = 0 by omega] at this
  exact this
theorem len_spec {p : Nat} {s : Sl} {xs : List Ky} {S : HS} (h : SI p s xs S) : set_Set_int_Len.f (some (HA.cell0 p)) S = some ((xs.length : Int), S) := by
  rw [set_Set_int_Len.f, if_neg (by simp), Option.bind_some, h.ld, Option.bind_some, h.slen]
theorem of_spec {k : Nat} {sl : Sl} {ls : List Ky} {S : HS} (hk : 2000 ≤ k) (hr : Rd S.next S 1 sl (ls.map row1)) (hc : ls.length ≤ 1000) :
    ∃ s' xs' S', set_Of_int.f k sl S = some (some (HA.cell0 S.next), S') ∧ SI S.next s' xs' S' ∧ Fr S.next S S' ∧ (∀ id, Own S.next s' id → S.next ≤ id) ∧ (∀ v, v ∈ xs' ↔ v ∈ ls) ∧ xs'.length ≤ ls.length := by
  have fn : Fr S.next S (S.new (.cells 1 [[Sl.nil.hv]] true)) := Fr.new (Nat.le_refl _) _
  have h0 : SI S.next Sl.nil [] (S.new (.cells 1 [[Sl.nil.hv]] true)) := ⟨new_here _ _, .inl ⟨rfl, rfl, rfl⟩, fun q hq => (by cases hq), Nat.lt_succ_self _, List.Pairwise.nil, by simp⟩
  have nn : (S.new (.cells 1 [[Sl.nil.hv]] true)).next = S.next + 1 := rfl
  obtain ⟨s', xs', S', e, g1, g2, g3, g4, g5⟩ := add_spec hk h0 (hr.frame fn (Nat.le_refl _)).rows (fun q hq => ⟨by have := hr.lt q hq; omega, fun ho => by
    rcases ho with g | ⟨q', g, _⟩
    · have := hr.lt q hq; omega
    · cases g⟩) (by simpa using hc)
  rw [set_Of_int.f, letv, e, Option.bind_some]
  refine ⟨s', xs', S', rfl, g1, ⟨by have := g2.le; omega, fun id hid => ?_⟩, fun id ho => ?_, fun v => by rw [g3]; simp, by simpa using g5⟩
  · rw [g2.eq id (by omega) (fun ho => by
      rcases ho with g | ⟨q', g, _⟩
      · omega
      · cases g)]
    exact fn.eq id hid
  · rcases g2.own id ho with g | g
    · rcases g with g | ⟨q', g, _⟩
      · omega
      · cases g
    · omega
end KI
end Go.Proofs.Ytdgmehfhgppheaa.X
