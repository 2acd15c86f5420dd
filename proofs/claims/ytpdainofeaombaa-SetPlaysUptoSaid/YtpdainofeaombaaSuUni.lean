/- The layer set: unions, plain. -/
import Derived.Test.YtpdainofeaombaaSuTold
namespace Go.Proofs.Ytpdainofeaombaa.X
open Go.Proofs.Ytpdainofeaombaa.HL
set_option linter.unusedVariables false
namespace KI
/-- Rows that are slices, each of them read. -/
structure UI (g : Nat) (su : Sl) (sls : List Sl) (vals : List (List Ky)) (S : HS) : Prop where
  vec : Vec g S 1 su (sls.map fun s => [s.hv])
  len : sls.length = vals.length
  rows : ∀ j (h : j < sls.length) (h' : j < vals.length), S.rows sls[j] 1 = some (vals[j].map row1)
  lo : ∀ j (h : j < sls.length) q, sls[j].a = some q → g ≤ q.1 ∧ q.1 < S.next ∧ ∀ p, su.a = some p → p.1 ≠ q.1
theorem ldSl_of {S : HS} {ad : HA} {s : Sl} (h : S.get ad = some s.hv) : S.ldSl ad = some s := by rw [HS.ldSl, h]; rfl
theorem UI.at_ {g : Nat} {su : Sl} {sls : List Sl} {vals : List (List Ky)} {S : HS} (h : UI g su sls vals S) {j : Nat} (hj : j < sls.length) : ∃ ad, S.idx su (j : Int) 1 = some ad ∧ S.ldSl ad = some sls[j] := by
  obtain ⟨ad, h1, h2⟩ := get_at h.vec.rows (i := j) (v := sls[j].hv) (by simpa using hj) (by rw [List.getElem_map])
  exact ⟨ad, h1, ldSl_of h2⟩
theorem UI.slen {g : Nat} {su : Sl} {sls : List Sl} {vals : List (List Ky)} {S : HS} (h : UI g su sls vals S) : (su.len : Int) = vals.length := by rw [h.vec.len]; simp [h.len]
theorem UI.keep {g : Nat} {su : Sl} {sls : List Sl} {vals : List (List Ky)} {S S' : HS} (h : UI g su sls vals S) (hk : ∀ id, g ≤ id → id < S.next → ((∃ q, su.a = some q ∧ q.1 = id) ∨ ∃ s ∈ sls, ∃ q, s.a = some q ∧ q.1 = id) → S'.heap id = S.heap id) (hn : S.next ≤ S'.next) : UI g su sls vals S' := by
  refine ⟨vec_keep h.vec (fun q hq => hk q.1 (h.vec.lo q hq).1 (h.vec.lo q hq).2 (.inl ⟨q, hq, rfl⟩)) hn, h.len, fun j hj hj' => rows_keep (h.rows j hj hj') fun q hq => ?_, fun j hj q hq => ?_⟩
  · have := h.lo j hj q hq
    exact hk q.1 this.1 this.2.1 (.inr ⟨_, List.getElem_mem hj, q, hq, rfl⟩)
  · have := h.lo j hj q hq
    exact ⟨this.1, by omega, this.2.2⟩
/-- Which sets the pointers are. -/
def Sets (ps : List (Option Nat)) (vals : List (List Ky)) (S : HS) : Prop := ps.length = vals.length ∧ ∀ j (h : j < ps.length) (h' : j < vals.length), match ps[j] with | none => vals[j] = [] | some p => ∃ s, SI p s vals[j] S
def ptrRow (p : Option Nat) : List HV := [.ptr (p.map HA.cell0)]
theorem Sets.fr {ps : List (Option Nat)} {vals : List (List Ky)} {S S' : HS} (h : Sets ps vals S) (hf : Fr S.next S S') : Sets ps vals S' := by
  refine ⟨h.1, fun j hj hj' => ?_⟩
  have := h.2 j hj hj'
  split at this
  · exact this
  · obtain ⟨s, h⟩ := this; exact ⟨s, h.fr hf⟩
theorem ldP_of {S : HS} {ad : HA} {p : Option HA} (h : S.get ad = some (.ptr p)) : S.ldP ad = some p := by rw [HS.ldP, h]; rfl
theorem list_opt {p : Option Nat} {xs : List Ky} {S : HS} (h : match p with | none => xs = [] | some p => ∃ s, SI p s xs S) : ∃ s' S', set_Set_int_List.f (p.map HA.cell0) S = some (s', S') ∧ S'.rows s' 1 = some (xs.map row1) ∧ (∀ q, s'.a = some q → S.next ≤ q.1 ∧ q.1 < S'.next) ∧ Fr S.next S S' := by
  cases p with
  | none =>
    simp only at h
    subst h
    rw [set_Set_int_List.f, if_pos (by rfl)]
    exact ⟨_, S, rfl, rfl, fun q hq => (by cases hq), Fr.refl _ _⟩
  | some p =>
    obtain ⟨s, h⟩ := h
    exact list_spec h
theorem union_spec {k : Nat} {sl : Sl} {ps : List (Option Nat)} {vals : List (List Ky)} {S : HS} (hk : 2000 ≤ k) (hs : Sets ps vals S) (hr : Rd S.next S 1 sl (ps.map ptrRow)) (hl : ps.length ≤ 1000) :
    ∃ su sls S', set_Union_int.f k sl S = some (.fn (.func 23) [] [.ptr (some (HA.cell0 S.next))], S') ∧ S'.heap S.next = .cells 1 [[su.hv]] true ∧ UI (S.next + 1) su sls vals S' ∧ Fr S.next S S' ∧ S.next < S'.next := by
  have hsl : (sl.len : Int) = ps.length := by rw [hr.len]; simp
  have hlen := hs.1
  have hloop : ∀ f i T su sls, ps.length - i < f → i ≤ ps.length → Fr S.next S T → T.heap S.next = .cells 1 [[su.hv]] true → S.next < T.next → UI (S.next + 1) su sls (vals.take i) T →
      ∃ su sls S', set_Union_int.L0 k f (some (HA.cell0 S.next)) sl (ps.length : Int) (i : Int) T = some (.fn (.func 23) [] [.ptr (some (HA.cell0 S.next))], S') ∧ S'.heap S.next = .cells 1 [[su.hv]] true ∧ UI (S.next + 1) su sls vals S' ∧ Fr S.next S S' ∧ S.next < S'.next := by
    intro f
    induction f with
    | zero => intro i T su sls h; omega
    | succ f ih =>
      intro i T su sls hf hi hfr hc hn hu
      rw [set_Union_int.L0]
      by_cases hlt : i < ps.length
      · have hrT : T.rows sl 1 = some (ps.map ptrRow) := (hr.frame hfr (Nat.le_refl _)).rows
        obtain ⟨ad, a1, a2⟩ := get_at hrT (i := i) (v := .ptr (ps[i].map HA.cell0)) (by simpa using hlt) (by rw [List.getElem_map]; rfl)
        obtain ⟨s', T1, e1, r1, q1, f1⟩ := list_opt ((hs.fr hfr).2 i hlt (by omega))
        have l1 := f1.le
        have c1 : T1.heap S.next = .cells 1 [[su.hv]] true := (f1.eq _ hn).trans hc
        have u1 : UI (S.next + 1) su sls (vals.take i) T1 := hu.keep (fun id _ h2 _ => f1.eq id h2) l1
        have fl : Fr T1.next T1 (T1.lit [[s'.hv]] 1).2 := lit_fr _ (Nat.le_refl _)
        have l2 : (T1.lit [[s'.hv]] 1).2.next = T1.next + 1 := rfl
        have lr : (T1.lit [[s'.hv]] 1).2.rows (T1.lit [[s'.hv]] 1).1 1 = some [[s'.hv]] := (Vec.lit (n := 0) (z := 1) (S := T1) _ (Nat.zero_le _)).rows
        have c2 : (T1.lit [[s'.hv]] 1).2.heap S.next = .cells 1 [[su.hv]] true := (fl.eq _ (by omega)).trans c1
        have u2 : UI (S.next + 1) su sls (vals.take i) (T1.lit [[s'.hv]] 1).2 := u1.keep (fun id _ h2 _ => fl.eq id h2) fl.le
        have hsu : sls.length = i := by rw [u2.len, List.length_take]; omega
        obtain ⟨su', T3, e3, v3, f3, k3, q3⟩ := u2.vec.app2 (new := [[s'.hv]]) (by omega) (by simp; omega)
        have n3 := f3.le
        have c3 : T3.heap S.next = .cells 1 [[su.hv]] true := (f3.eq _ (by omega)).trans c2
        rw [if_pos (by omega), a1, Option.bind_some, ldP_of a2, Option.bind_some, Option.bind_some, ldSl_cell hc, Option.bind_some, e1, Option.bind_some, ldSl_cell c1, Option.bind_some, if_pos rfl, letv, ldSl_cell c2, Option.bind_some, if_pos rfl, lr, Option.bind_some, e3, Option.bind_some, Option.bind_some, sets_cell _ c3, Option.bind_some,
          w64_id (by omega) (by omega), show ((i : Int) + 1) = ((i + 1 : Nat) : Int) by simp]
        have hsu' : ∀ q, su'.a = some q → T1.next < q.1 ∨ ∃ q0, su.a = some q0 ∧ q0.1 = q.1 := fun q hq => by
          rcases q3 q hq with g | g
          · exact .inl (by omega)
          · exact .inr g
        have hold : ∀ id, id < T1.next → (∀ q, su.a = some q → q.1 ≠ id) → T3.heap id = T1.heap id := fun id h1 h2 => (k3 id (by omega) h2).trans (fl.eq id h1)
        have hnes : ∀ q, s'.a = some q → ∀ p, su.a = some p → p.1 ≠ q.1 := fun q hq p hp => by have := (hu.vec.lo p hp).2; have := (q1 q hq).1; omega
        refine ih (i + 1) _ su' (sls ++ [s']) (by omega) (by omega) ((hfr.trans (f1.mono hfr.le)).trans (((fl.mono (by omega)).trans (f3.mono (by omega))).trans (Fr.put (Nat.le_refl _) _))) (put_here _ _ _) (by rw [put_next]; omega) ?_
        have hm : (sls ++ [s']).map (fun s => [s.hv]) = sls.map (fun s => [s.hv]) ++ [[s'.hv]] := by simp
        refine ⟨?_, by rw [List.length_append, List.length_take]; simp; omega, fun j hj hj' => ?_, fun j hj q hq => ?_⟩
        · rw [hm]; exact v3.put_ne (fun q hq e => by have := (v3.lo q hq).1; omega)
        · rw [List.getElem_take]
          rw [List.length_append, List.length_singleton] at hj
          rcases Nat.lt_or_ge j i with g | g
          · have hjs : j < sls.length := by omega
            simp only [List.getElem_append_left hjs]
            have := u1.rows j hjs (by rw [List.length_take]; omega)
            rw [List.getElem_take] at this
            refine rows_keep this fun q hq => ?_
            have hl := u1.lo j hjs q hq
            rw [put_other _ (by omega)]
            exact hold q.1 hl.2.1 (fun p hp => hl.2.2 p hp)
          · obtain rfl : j = i := by omega
            have e : (sls ++ [s'])[j] = s' := by rw [List.getElem_append_right (by omega)]; simp [hsu]
            rw [e]
            refine rows_keep r1 fun q hq => ?_
            have := q1 q hq
            rw [put_other _ (by omega)]
            exact hold q.1 this.2 (fun p hp => hnes q hq p hp)
        · rw [List.length_append, List.length_singleton] at hj
          rcases Nat.lt_or_ge j i with g | g
          · have hjs : j < sls.length := by omega
            simp only [List.getElem_append_left hjs] at hq
            have hl := u1.lo j hjs q hq
            refine ⟨hl.1, by rw [put_next]; omega, fun p hp => ?_⟩
            rcases hsu' p hp with g' | ⟨p0, g1, g2⟩
            · omega
            · rw [← g2]; exact hl.2.2 p0 g1
          · obtain rfl : j = i := by omega
            have e : (sls ++ [s'])[j] = s' := by rw [List.getElem_append_right (by omega)]; simp [hsu]
            rw [e] at hq
            have := q1 q hq
            refine ⟨by omega, by rw [put_next]; omega, fun p hp => ?_⟩
            rcases hsu' p hp with g' | ⟨p0, g1, g2⟩
            · omega
            · rw [← g2]; exact hnes q hq p0 g1
      · obtain rfl : i = ps.length := by omega
        rw [if_neg (by omega)]
        rw [List.take_of_length_le (by omega)] at hu
        exact ⟨su, sls, T, rfl, hc, hu, hfr, hn⟩
  rw [set_Union_int.f, letv, hsl]
  exact hloop k 0 _ Sl.nil [] (by omega) (Nat.zero_le _) (Fr.new (Nat.le_refl _) _) (new_here _ _) (Nat.lt_succ_self _) ⟨Vec.nil, by simp, fun j hj => by simp at hj, fun j hj => by simp at hj⟩
/-! ### what a union tells -/
/-- The list of all that is in the lists. -/
structure UnionOf (W : List Ky) (vals : List (List Ky)) : Prop where
  srt : Srt W
  mem : ∀ v, v ∈ W ↔ ∃ xs ∈ vals, v ∈ xs
/-- What is left of the rows. -/
structure LI (g : Nat) (K : Nat → Prop) (left : Sl) (ts : List Sl) (rems : List (List Ky)) (S : HS) : Prop where
  vec : Vec g S 1 left (ts.map fun s => [s.hv])
  len : ts.length = rems.length
  rows : ∀ j (h : j < ts.length) (h' : j < rems.length), S.rows ts[j] 1 = some (rems[j].map row1)
  inK : ∀ j (h : j < ts.length) q, ts[j].a = some q → K q.1
def Rem (W : List Ky) (q : Nat) (vals rems : List (List Ky)) : Prop := rems.length = vals.length ∧ ∀ j (h : j < rems.length) (h' : j < vals.length), Srt rems[j] ∧ ∀ v, v ∈ rems[j] ↔ v ∈ vals[j] ∧ v ∈ W.drop q
theorem LI.at_ {g : Nat} {K : Nat → Prop} {left : Sl} {ts : List Sl} {rems : List (List Ky)} {S : HS} (h : LI g K left ts rems S) {j : Nat} (hj : j < ts.length) : ∃ ad, S.idx left (j : Int) 1 = some ad ∧ S.ldSl ad = some ts[j] := by
  obtain ⟨ad, h1, h2⟩ := get_at h.vec.rows (i := j) (v := ts[j].hv) (by simpa using hj) (by rw [List.getElem_map])
  exact ⟨ad, h1, ldSl_of h2⟩
theorem LI.slen {g : Nat} {K : Nat → Prop} {left : Sl} {ts : List Sl} {rems : List (List Ky)} {S : HS} (h : LI g K left ts rems S) : (left.len : Int) = rems.length := by rw [h.vec.len]; simp [h.len]
/-- The best head ahead of i. -/
def BestH (rems : List (List Ky)) (i : Nat) (b : Int) : Prop :=
  (b = -1 ∧ ∀ j (h : j < rems.length), j < i → rems[j] = []) ∨ ∃ j0 : Nat, b = (j0 : Int) ∧ ∃ h : j0 < rems.length, j0 < i ∧ ∃ x xs, rems[j0] = x :: xs ∧ ∀ j (h : j < rems.length), j < i → ∀ y ys, rems[j] = y :: ys → klt y x = false
theorem head_at {S : HS} {t : Sl} {x : Ky} {xs : List Ky} (h : S.rows t 1 = some ((x :: xs).map row1)) : ∃ ad, S.idx t 0 1 = some ad ∧ S.ldI .i64 ad = some x := by
  obtain ⟨ad, h1, h2⟩ := ldK_at h (i := 0) (by simp)
  exact ⟨ad, h1, h2⟩
theorem best_loop {D : Dp} {H : Hd} {k g : Nat} {K : Nat → Prop} {y0 : HV} {left : Sl} {ts : List Sl} {rems : List (List Ky)} {S : HS} {r0 : HV → Sl → HS → Option (Unit × HS)} (h : LI g K left ts rems S) (hl : rems.length ≤ 1000) :
    ∀ n i b, rems.length - i < n → i ≤ rems.length → BestH rems i b →
    ∃ n' b', set_Union_int_1.L1 D H k r0 n y0 left b left (rems.length : Int) (i : Int) S = set_Union_int_1.L1 D H k r0 (n' + 1) y0 left b' left (rems.length : Int) (rems.length : Int) S ∧ BestH rems rems.length b' := by
  have hlen := h.len
  intro n
  induction n with
  | zero => intro i b h; omega
  | succ n ih =>
    intro i b hf hi hB
    by_cases hlt : i < rems.length
    · obtain ⟨ad, a1, a2⟩ := h.at_ (j := i) (by omega)
      have hrow := h.rows i (by omega) hlt
      have htl : (ts[i].len : Int) = rems[i].length := by rw [← rows_len hrow]; simp
      rw [set_Union_int_1.L1, if_pos (by omega), a1, Option.bind_some, a2, Option.bind_some, htl]
      have hJ3 : ∀ b2, BestH rems (i + 1) b2 → ∃ n' b', set_Union_int_1.J3 D H k (set_Union_int_1.L1 D H k r0 n) r0 y0 left b2 left (rems.length : Int) (i : Int) S = set_Union_int_1.L1 D H k r0 (n' + 1) y0 left b' left (rems.length : Int) (rems.length : Int) S ∧ BestH rems rems.length b' := by
        intro b2 hB2
        rw [set_Union_int_1.J3, w64_id (by omega) (by omega), show ((i : Int) + 1) = ((i + 1 : Nat) : Int) by simp]
        exact ih (i + 1) b2 (by omega) (by omega) hB2
      cases hri : rems[i] with
      | nil =>
        rw [if_neg (by simp), set_Union_int_1.J2, if_neg (by simp)]
        refine hJ3 b ?_
        rcases hB with ⟨rfl, g⟩ | ⟨j0, rfl, hj0, g1, x, xs, g2, g3⟩
        · refine .inl ⟨rfl, fun j hj hji => ?_⟩
          rcases Nat.lt_or_ge j i with g' | g'
          · exact g j hj g'
          · obtain rfl : j = i := by omega
            exact hri
        · refine .inr ⟨j0, rfl, hj0, by omega, x, xs, g2, fun j hj hji y ys hy => ?_⟩
          rcases Nat.lt_or_ge j i with g' | g'
          · exact g3 j hj g' y ys hy
          · obtain rfl : j = i := by omega
            rw [hri] at hy; cases hy
      | cons z zs =>
        rw [if_pos (by simp)]
        rcases hB with ⟨rfl, g⟩ | ⟨j0, rfl, hj0, g1, x, xs, g2, g3⟩
        · rw [if_pos (by omega), set_Union_int_1.J2, if_pos rfl]
          refine hJ3 _ (.inr ⟨i, rfl, hlt, by omega, z, zs, hri, fun j hj hji y ys hy => ?_⟩)
          rcases Nat.lt_or_ge j i with g' | g'
          · rw [g j hj g'] at hy; cases hy
          · obtain rfl : j = i := by omega
            rw [hri] at hy; cases hy; exact klt_irrefl _
        · have hrow0 := h.rows j0 (by omega) hj0
          rw [g2] at hrow0
          rw [hri] at hrow
          obtain ⟨ad1, c1, c2⟩ := head_at hrow
          obtain ⟨ad2, d1, d2⟩ := head_at hrow0
          obtain ⟨ad3, e1, e2⟩ := h.at_ (j := j0) (by omega)
          rw [if_neg (by omega), c1, Option.bind_some, c2, Option.bind_some, e1, Option.bind_some, e2, Option.bind_some, d1, Option.bind_some, d2, Option.bind_some, set_Union_int_1.J2]
          by_cases hzx : z < x
          · rw [if_pos (by simpa using hzx)]
            refine hJ3 _ (.inr ⟨i, rfl, hlt, by omega, z, zs, hri, fun j hj hji y ys hy => ?_⟩)
            rcases Nat.lt_or_ge j i with g' | g'
            · cases hyz : klt y z with
              | false => rfl
              | true =>
                have := klt_trans hyz (show klt z x = true from decide_eq_true hzx)
                rw [g3 j hj g' y ys hy] at this; cases this
            · obtain rfl : j = i := by omega
              rw [hri] at hy; cases hy; exact klt_irrefl _
          · rw [if_neg (by simpa using hzx)]
            refine hJ3 _ (.inr ⟨j0, rfl, hj0, by omega, x, xs, g2, fun j hj hji y ys hy => ?_⟩)
            rcases Nat.lt_or_ge j i with g' | g'
            · exact g3 j hj g' y ys hy
            · obtain rfl : j = i := by omega
              rw [hri] at hy; cases hy
              exact decide_eq_false hzx
    · obtain rfl : i = rems.length := by omega
      exact ⟨n, b, rfl, hB⟩
/-- What the second round makes of a row. -/
def drop1 (x : Ky) (xs : List Ky) : List Ky := match xs with | [] => [] | y :: ys => if y = x then ys else y :: ys
theorem LI.keep {g : Nat} {K : Nat → Prop} {left : Sl} {ts : List Sl} {rems : List (List Ky)} {S S' : HS} (h : LI g K left ts rems S) (hk : ∀ q, left.a = some q → S'.heap q.1 = S.heap q.1) (hK : ∀ id, K id → S'.heap id = S.heap id) (hn : S.next ≤ S'.next) : LI g K left ts rems S' :=
  ⟨vec_keep h.vec hk hn, h.len, fun j hj hj' => rows_keep (h.rows j hj hj') fun q hq => hK q.1 (h.inK j hj q hq), h.inK⟩
theorem drop_loop {D : Dp} {H : Hd} {k g : Nat} {K : Nat → Prop} {y0 : HV} {left : Sl} {rems : List (List Ky)} {x : Ky} {r0 : HV → Sl → HS → Option (Unit × HS)} {S0 : HS} (hl : rems.length ≤ 1000) (hxl : ∀ xs ∈ rems, xs.length ≤ 1000) (hKl : ∀ q, left.a = some q → ¬ K q.1) :
    ∀ n i S ts, rems.length - i < n → i ≤ rems.length → LI g K left ts ((rems.take i).map (drop1 x) ++ rems.drop i) S → S.next = S0.next → (∀ id, (∀ q, left.a = some q → q.1 ≠ id) → S.heap id = S0.heap id) →
    ∃ n' S' ts', set_Union_int_1.L4 D H k r0 n y0 left x left (rems.length : Int) (i : Int) S = set_Union_int_1.L4 D H k r0 (n' + 1) y0 left x left (rems.length : Int) (rems.length : Int) S' ∧ LI g K left ts' (rems.map (drop1 x)) S' ∧ S'.next = S0.next ∧ (∀ id, (∀ q, left.a = some q → q.1 ≠ id) → S'.heap id = S0.heap id) := by
  intro n
  induction n with
  | zero => intro i S ts h; omega
  | succ n ih =>
    intro i S ts hf hi h hn hk
    have hlen0 : ((rems.take i).map (drop1 x) ++ rems.drop i).length = rems.length := by simp; omega
    have hlen := h.len
    rw [hlen0] at hlen
    by_cases hlt : i < rems.length
    · have hri : ((rems.take i).map (drop1 x) ++ rems.drop i)[i]'(by omega) = rems[i] := by
        rw [List.getElem_append_right (by simp; omega)]
        simp only [List.length_map, List.length_take, List.getElem_drop]
        congr 1
        omega
      obtain ⟨ad, a1, a2⟩ := h.at_ (j := i) (by omega)
      have hrow := h.rows i (by omega) (by omega)
      rw [hri] at hrow
      have htl : (ts[i].len : Int) = rems[i].length := by rw [← rows_len hrow]; simp
      have hnext : ∀ (T : HS) (ts2 : List Sl), LI g K left ts2 ((rems.take (i + 1)).map (drop1 x) ++ rems.drop (i + 1)) T → T.next = S0.next → (∀ id, (∀ q, left.a = some q → q.1 ≠ id) → T.heap id = S0.heap id) →
          ∃ n' S' ts', set_Union_int_1.J6 D H k (set_Union_int_1.L4 D H k r0 n) r0 y0 left x left (rems.length : Int) (i : Int) T = set_Union_int_1.L4 D H k r0 (n' + 1) y0 left x left (rems.length : Int) (rems.length : Int) S' ∧ LI g K left ts' (rems.map (drop1 x)) S' ∧ S'.next = S0.next ∧ (∀ id, (∀ q, left.a = some q → q.1 ≠ id) → S'.heap id = S0.heap id) := by
        intro T ts2 h2 hn2 hk2
        rw [set_Union_int_1.J6, w64_id (by omega) (by omega), show ((i : Int) + 1) = ((i + 1 : Nat) : Int) by simp]
        exact ih (i + 1) T ts2 (by omega) (by omega) h2 hn2 hk2
      have hsame : drop1 x rems[i] = rems[i] → (rems.take (i + 1)).map (drop1 x) ++ rems.drop (i + 1) = (rems.take i).map (drop1 x) ++ rems.drop i := by
        intro e
        rw [List.take_succ_eq_append_getElem hlt, List.map_append, List.map_singleton, e, List.append_assoc, List.singleton_append, ← List.drop_eq_getElem_cons hlt]
      rw [set_Union_int_1.L4, if_pos (by omega), a1, Option.bind_some, a2, Option.bind_some, htl]
      cases hrc : rems[i] with
      | nil =>
        rw [if_neg (by simp), set_Union_int_1.J5, if_neg (by simp)]
        exact hnext S ts (by rw [hsame (by rw [hrc]; rfl)]; exact h) hn hk
      | cons y ys =>
        have hyl : (y :: ys).length ≤ 1000 := hxl _ (hrc ▸ List.getElem_mem hlt)
        rw [hrc] at hrow
        obtain ⟨ad1, c1, c2⟩ := head_at hrow
        rw [if_pos (by simp), c1, Option.bind_some, c2, Option.bind_some, set_Union_int_1.J5]
        by_cases hyx : y = x
        · obtain ⟨sc, d1, d2⟩ := rows_cut hrow (m := 1) (by simp)
          have htl2 : (ts[i].len : Int) = (((y :: ys).map row1).length : Int) := by rw [← rows_len hrow]
          rw [show ((1 : Nat) : Int) = 1 from rfl] at d1
          obtain ⟨ad2, S2, b1, b2, b3, b4, b5, b6, b7, b8⟩ := h.vec.set_ (i := i) (row := [sc.hv]) (by simp; omega) (by simp)
          rw [if_pos (by simpa using hyx), htl2, d1, Option.bind_some, b1, Option.bind_some, b4, Option.bind_some]
          have hm : (ts.map fun s => [s.hv]).set i [sc.hv] = (ts.set i sc).map fun s => [s.hv] := by rw [List.map_set]
          rw [hm] at b5
          refine hnext S2 (ts.set i sc) ⟨b5, ?_, fun j hj hj' => ?_, fun j hj q hq => ?_⟩ (b7.trans hn) (fun id hid => (b8 id hid).trans (hk id hid))
          · simp; omega
          · rw [List.length_set] at hj
            by_cases hji : j = i
            · subst hji
              rw [List.getElem_set_self]
              have e : ((rems.take (j + 1)).map (drop1 x) ++ rems.drop (j + 1))[j]'hj' = ys := by
                rw [List.getElem_append_left (by simp; omega), List.getElem_map, List.getElem_take, hrc]
                simp [drop1, hyx]
              rw [e]
              have d2' : S.rows sc 1 = some (ys.map row1) := by rw [d2]; simp
              refine rows_keep d2' fun q hq => b8 q.1 fun p hp e' => hKl p hp ?_
              have hq1 : ∃ q2, ts[j].a = some q2 ∧ q2.1 = q.1 := by
                have hc := d1
                unfold HS.cut at hc
                rcases ifc hc with ⟨_, hc⟩ | ⟨_, hc⟩
                · cases ha : ts[j].a with
                  | none =>
                    rw [ha] at hc
                    simp only at hc
                    rcases ifc hc with ⟨_, hc⟩ | ⟨_, hc⟩
                    · simp only [Option.some.injEq] at hc
                      subst hc; cases hq
                    · cases hc
                  | some p2 =>
                    obtain ⟨id2, off2⟩ := p2
                    rw [ha] at hc
                    simp only at hc
                    split at hc
                    · rcases ifc hc with ⟨_, hc⟩ | ⟨_, hc⟩
                      · simp only [Option.some.injEq] at hc
                        subst hc
                        simp only [Option.some.injEq] at hq
                        exact ⟨_, rfl, by rw [← hq]⟩
                      · cases hc
                    · cases hc
                · cases hc
              obtain ⟨q2, hq2, hq3⟩ := hq1
              rw [e', ← hq3]
              exact h.inK j (by omega) q2 hq2
            · rw [List.getElem_set_ne (Ne.symm hji)]
              have e : ((rems.take (i + 1)).map (drop1 x) ++ rems.drop (i + 1))[j]'hj' = ((rems.take i).map (drop1 x) ++ rems.drop i)[j]'(by rw [hlen0]; omega) := by
                rcases Nat.lt_or_ge j i with g' | g'
                · rw [List.getElem_append_left (by simp; omega), List.getElem_append_left (by simp; omega)]
                  simp only [List.getElem_map, List.getElem_take]
                · rw [List.getElem_append_right (by simp; omega), List.getElem_append_right (by simp; omega)]
                  simp only [List.length_map, List.length_take, List.getElem_drop]
                  congr 1
                  omega
              rw [e]
              refine rows_keep (h.rows j (by omega) (by rw [hlen0]; omega)) fun q hq => b8 q.1 fun p hp e' => hKl p hp (by rw [e']; exact h.inK j (by omega) q hq)
          · rw [List.length_set] at hj
            by_cases hji : j = i
            · subst hji
              rw [List.getElem_set_self] at hq
              have hq1 : ∃ q2, ts[j].a = some q2 ∧ q2.1 = q.1 := by
                have hc := d1
                unfold HS.cut at hc
                rcases ifc hc with ⟨_, hc⟩ | ⟨_, hc⟩
                · cases ha : ts[j].a with
                  | none =>
                    rw [ha] at hc
                    simp only at hc
                    rcases ifc hc with ⟨_, hc⟩ | ⟨_, hc⟩
                    · simp only [Option.some.injEq] at hc
                      subst hc; cases hq
                    · cases hc
                  | some p2 =>
                    obtain ⟨id2, off2⟩ := p2
                    rw [ha] at hc
                    simp only at hc
                    split at hc
                    · rcases ifc hc with ⟨_, hc⟩ | ⟨_, hc⟩
                      · simp only [Option.some.injEq] at hc
                        subst hc
                        simp only [Option.some.injEq] at hq
                        exact ⟨_, rfl, by rw [← hq]⟩
                      · cases hc
                    · cases hc
                · cases hc
              obtain ⟨q2, hq2, hq3⟩ := hq1
              rw [← hq3]
              exact h.inK j (by omega) q2 hq2
            · rw [List.getElem_set_ne (Ne.symm hji)] at hq
              exact h.inK j (by omega) q hq
        · rw [if_neg (by simpa using hyx)]
          exact hnext S ts (by rw [hsame (by rw [hrc]; simp [drop1, hyx])]; exact h) hn hk
    · obtain rfl : i = rems.length := by omega
      refine ⟨n, S, ts, rfl, ?_, hn, hk⟩
      simpa using h
theorem rem_drop {W : List Ky} {q : Nat} {vals rems : List (List Ky)} (h : Rem W q vals rems) (hW : Srt W) (hq : q < W.length) : Rem W (q + 1) vals (rems.map (drop1 W[q])) := by
  refine ⟨by simp [h.1], fun j hj hj' => ?_⟩
  rw [List.length_map] at hj
  rw [List.getElem_map]
  obtain ⟨h1, h2⟩ := h.2 j hj hj'
  have hdq : ∀ v, v ∈ W.drop q ↔ v = W[q] ∨ v ∈ W.drop (q + 1) := fun v => by rw [List.drop_eq_getElem_cons hq, List.mem_cons]
  have hnq : W[q] ∉ W.drop (q + 1) := by
    intro hm
    obtain ⟨i, hi, he⟩ := List.getElem_of_mem hm
    rw [List.getElem_drop] at he
    rw [List.length_drop] at hi
    have := hW.lt hq (show q + 1 + i < W.length by omega) (by omega)
    rw [he, klt_irrefl] at this; cases this
  cases hrc : rems[j] with
  | nil =>
    rw [hrc] at h2
    refine ⟨List.Pairwise.nil, fun v => ?_⟩
    constructor
    · intro hv; cases hv
    · rintro ⟨g1, g2⟩
      exact absurd ((h2 v).2 ⟨g1, (hdq v).2 (.inr g2)⟩) (by simp)
  | cons y ys =>
    rw [hrc] at h1 h2
    have hp := List.pairwise_cons.1 h1
    unfold drop1
    by_cases hy : y = W[q]
    · simp only [if_pos hy]
      refine ⟨hp.2, fun v => ?_⟩
      constructor
      · intro hv
        obtain ⟨g1, g2⟩ := (h2 v).1 (by simp [hv])
        refine ⟨g1, ((hdq v).1 g2).resolve_left fun e => ?_⟩
        have := hp.1 v hv
        rw [e, ← hy, klt_irrefl] at this; cases this
      · rintro ⟨g1, g2⟩
        have h3 := (h2 v).2 ⟨g1, (hdq v).2 (.inr g2)⟩
        rcases List.mem_cons.1 h3 with e | e
        · subst e; rw [hy] at g2; exact absurd g2 hnq
        · exact e
    · simp only [if_neg hy]
      refine ⟨h1, fun v => ?_⟩
      rw [h2 v, hdq]
      constructor
      · rintro ⟨g1, g2 | g2⟩
        · subst g2
          exfalso
          have hm := (h2 W[q]).2 ⟨g1, (hdq _).2 (.inl rfl)⟩
          rcases List.mem_cons.1 hm with e | e
          · exact hy e.symm
          · have h3 := hp.1 _ e
            have h4 := ((hdq y).1 ((h2 y).1 (by simp)).2).resolve_left hy
            obtain ⟨i, hi, he⟩ := List.getElem_of_mem h4
            rw [List.getElem_drop] at he
            rw [List.length_drop] at hi
            have := hW.lt hq (show q + 1 + i < W.length by omega) (by omega)
            rw [he] at this
            have := klt_trans this h3
            rw [klt_irrefl] at this; cases this
        · exact ⟨g1, g2⟩
      · rintro ⟨g1, g2⟩
        exact ⟨g1, .inr g2⟩
theorem best_head {W : List Ky} {q : Nat} {vals rems : List (List Ky)} (hU : UnionOf W vals) (h : Rem W q vals rems) {b : Int} (hB : BestH rems rems.length b) :
    (b = -1 ∧ W.length ≤ q) ∨ ∃ j0 : Nat, b = (j0 : Int) ∧ ∃ (h : j0 < rems.length) (hq : q < W.length), ∃ xs, rems[j0] = W[q] :: xs := by
  rcases hB with ⟨rfl, g⟩ | ⟨j0, rfl, hj0, _, x, xs, g2, g3⟩
  · left
    refine ⟨rfl, ?_⟩
    rcases Nat.lt_or_ge q W.length with hlt | hge
    · exfalso
      obtain ⟨ys, hys, hm⟩ := (hU.mem W[q]).1 (List.getElem_mem hlt)
      obtain ⟨j, hj, rfl⟩ := List.getElem_of_mem hys
      have hjr : j < rems.length := by rw [h.1]; exact hj
      have := ((h.2 j hjr hj).2 W[q]).2 ⟨hm, by rw [List.drop_eq_getElem_cons hlt]; exact List.mem_cons_self⟩
      rw [g j hjr hjr] at this; cases this
    · exact hge
  · right
    have hjv : j0 < vals.length := by rw [← h.1]; exact hj0
    have hx := ((h.2 j0 hj0 hjv).2 x).1 (by rw [g2]; simp)
    have hlt : q < W.length := by
      rcases Nat.lt_or_ge q W.length with hlt | hge
      · exact hlt
      · rw [List.drop_eq_nil_of_le hge] at hx; cases hx.2
    have hxe : x = W[q] := by
      have hd := hx.2
      rw [List.drop_eq_getElem_cons hlt, List.mem_cons] at hd
      rcases hd with e | e
      · exact e
      · exfalso
        obtain ⟨i, hi, he⟩ := List.getElem_of_mem e
        rw [List.getElem_drop] at he
        rw [List.length_drop] at hi
        have h1 := hU.srt.lt hlt (show q + 1 + i < W.length by omega) (by omega)
        rw [he] at h1
        obtain ⟨ys, hys, hm⟩ := (hU.mem W[q]).1 (List.getElem_mem hlt)
        obtain ⟨j, hj, rfl⟩ := List.getElem_of_mem hys
        have hjr : j < rems.length := by rw [h.1]; exact hj
        obtain ⟨h2, h3⟩ := h.2 j hjr hj
        have h4 := (h3 W[q]).2 ⟨hm, by rw [List.drop_eq_getElem_cons hlt]; exact List.mem_cons_self⟩
        cases hrc : rems[j] with
        | nil => rw [hrc] at h4; cases h4
        | cons y ys =>
          rw [hrc] at h2 h4
          have h5 := g3 j hjr hjr y ys hrc
          rcases List.mem_cons.1 h4 with e2 | e2
          · rw [← e2, h1] at h5; cases h5
          · have := klt_trans ((List.pairwise_cons.1 h2).1 _ e2) h1
            rw [this] at h5; cases h5
    exact ⟨j0, rfl, hj0, hlt, xs, by rw [g2, hxe]⟩
theorem union_tells {k n c : Nat} {B : HS} {su : Sl} {sls : List Sl} {vals : List (List Ky)} {W : List Ky} {g0 : Nat} (hk : 2000 ≤ k) (hU : UnionOf W vals) (hW : W.length ≤ 1000) (hl : vals.length ≤ 1000) (hv : ∀ xs ∈ vals, Srt xs ∧ xs.length ≤ 1000) (hc : B.heap c = .cells 1 [[su.hv]] true) (hu : UI g0 su sls vals B) (K : Nat → Prop)
    (hKc : K c) (hKu : ∀ q, su.a = some q → K q.1) (hKs : ∀ s ∈ sls, ∀ q, s.a = some q → K q.1) :
    Tells (disp k (n + 2)) (.fn (.func 23) [] [.ptr (some (HA.cell0 c))]) (W.map row1) K B := by
  intro H l I Stop ht O S hI hB
  have hlenW : (W.map row1).length = W.length := by simp
  have hcS : S.heap c = .cells 1 [[su.hv]] true := (hB c hKc).1.trans hc
  have hrS : S.rows su 1 = some (sls.map fun s => [s.hv]) := rows_keep hu.vec.rows fun q hq => (hB q.1 (hKu q hq)).1
  -- the rows are laid anew
  obtain ⟨left, S1, e1, v1, f1⟩ : ∃ left S1, slices_Clone_int_int_24.f su S = some (left, S1) ∧ Vec S.next S1 1 left (sls.map fun s => [s.hv]) ∧ Fr S.next S S1 := by
    unfold slices_Clone_int_int_24.f
    by_cases ha : su.a.isNone = true
    · have hsn : sls.map (fun s => [s.hv]) = [] := by
        have h5 := hrS
        unfold HS.rows at h5
        rw [show su.a = none by simpa using ha] at h5
        simp only at h5
        rcases ifc h5 with ⟨_, h5⟩ | ⟨_, h5⟩
        · exact (Option.some.inj h5).symm
        · cases h5
      rw [if_pos ha, hsn]
      exact ⟨Sl.nil, S, rfl, .nil, Fr.refl _ _⟩
    · have hll : sls.length = vals.length := hu.len
      rw [if_neg ha, letv]
      have hr' : (S.lit [] 1).2.rows su 1 = some (sls.map fun s => [s.hv]) := rows_keep hrS fun q hq => (lit_fr (z := 1) (S := S) [] (Nat.le_refl _)).eq _ (hB q.1 (hKu q hq)).2.2
      obtain ⟨s', S1, e1, v1, f1⟩ := (Vec.lit (n := S.next) (z := 1) (S := S) [] (Nat.le_refl _)).app (new := sls.map fun s => [s.hv]) (Nat.le_succ _) (by simp; omega)
      rw [hr', Option.bind_some, e1, Option.bind_some]
      rw [List.nil_append] at v1
      exact ⟨s', S1, rfl, v1, (lit_fr [] (Nat.le_refl _)).trans f1⟩
  have n1 := f1.le
  have hKS : ∀ id, K id → S.heap id = B.heap id := fun id hid => (hB id hid).1
  have hleft : ∀ q, left.a = some q → S.next ≤ q.1 := fun q hq => (v1.lo q hq).1
  have hKl : ∀ q, left.a = some q → ¬ K q.1 := fun q hq hk' => by have := hleft q hq; have := (hB _ hk').2.2; omega
  have hL1 : LI S.next K left sls vals S1 := ⟨v1, hu.len, fun j hj hj' => rows_keep (hu.rows j hj hj') fun q hq => by
    have hq' := hKs _ (List.getElem_mem hj) q hq
    rw [f1.eq _ (hB _ hq').2.2, hKS _ hq'], fun j hj q hq => hKs _ (List.getElem_mem hj) q hq⟩
  have hI1 : I 0 O S1 := ht.keep 0 O S S1 hI (fun id ho => f1.eq id (ht.lt 0 O S hI id ho)) n1
  -- the rounds
  have hloop : ∀ f q O1 T ts rems, W.length - q < f → q ≤ W.length → LI S.next K left ts rems T → Rem W q vals rems → (∀ xs ∈ rems, xs.length ≤ 1000) → I q O1 T → S.next ≤ T.next → (∀ id, id < S.next → ¬ O id → T.heap id = S.heap id) → (∀ id, O1 id → O id ∨ S.next ≤ id) → (∀ p, left.a = some p → ¬ O1 p.1 ∧ p.1 < T.next) →
      ∃ S' O', set_Union_int_1.L0 (disp k (n + 1)) H k f (.fn (.yield l) [] []) left T = some ((), S') ∧ S.next ≤ S'.next ∧ (∀ id, id < S.next → ¬ O id → S'.heap id = S.heap id) ∧ (∀ id, O' id → O id ∨ S.next ≤ id) ∧ (I W.length O' S' ∨ Stop O' S') := by
    intro f
    induction f with
    | zero => intro q O1 T ts rems h; omega
    | succ f ih =>
      intro q O1 T ts rems hf hq hL hR hrl hIT hn hk2 hO hlO
      have hrlen : rems.length ≤ 1000 := by rw [hR.1]; exact hl
      rw [set_Union_int_1.L0, hL.slen]
      obtain ⟨n', b, eb, hb⟩ := best_loop (D := disp k (n + 1)) (H := H) (y0 := .fn (.yield l) [] []) (r0 := set_Union_int_1.L0 (disp k (n + 1)) H k f) (k := k) hL hrlen k 0 (-1) (by omega) (Nat.zero_le _) (.inl ⟨rfl, fun j hj h => by omega⟩)
      rw [show ((0 : Nat) : Int) = 0 from rfl] at eb
      rw [eb, set_Union_int_1.L1, if_neg (by omega)]
      rcases best_head hU hR hb with ⟨rfl, hend⟩ | ⟨j0, rfl, hj0, hlt, xs, hx⟩
      · rw [if_pos (by omega)]
        obtain rfl : q = W.length := by omega
        exact ⟨T, O1, rfl, hn, hk2, hO, .inl hIT⟩
      · have hll := hL.len
        obtain ⟨ad, a1, a2⟩ := hL.at_ (j := j0) (by omega)
        have hrow := hL.rows j0 (by omega) hj0
        rw [hx] at hrow
        obtain ⟨ad1, c1, c2⟩ := head_at hrow
        rw [if_neg (by omega), a1, Option.bind_some, a2, Option.bind_some, c1, Option.bind_some, c2, Option.bind_some, hL.slen]
        obtain ⟨n2, T2, ts2, ed, hL2, hn2, hkd⟩ := drop_loop (D := disp k (n + 1)) (H := H) (y0 := .fn (.yield l) [] []) (r0 := set_Union_int_1.L0 (disp k (n + 1)) H k f) (k := k) (x := W[q]) (S0 := T) hrlen hrl hKl k 0 T ts (by omega) (Nat.zero_le _) (by simpa using hL) rfl (fun _ _ => rfl)
        rw [show ((0 : Nat) : Int) = 0 from rfl] at ed
        rw [ed, set_Union_int_1.L4, if_neg (by omega)]
        have hI2 : I q O1 T2 := ht.keep q O1 T T2 hIT (fun id ho => hkd id fun p hp e => (hlO p hp).1 (e ▸ ho)) (by omega)
        obtain ⟨b, T3, O3, e3, n3, k3, o3, g1, g2⟩ := ht.step q (by omega) O1 T2 hI2
        have he : disp k (n + 1) H (.fn (.yield l) [] []) [.int .i64 W[q]] T2 = some (.bool b, T3) := by
          rw [disp_yield, ← e3, List.getElem_map]; rfl
        have hk3 : ∀ id, id < S.next → ¬ O id → T3.heap id = S.heap id := fun id h1 h2 => by
          rw [k3 id (by omega) (fun ho => (hO id ho).elim h2 (fun h => by omega)), hkd id (fun p hp e => by have := hleft p hp; omega)]
          exact hk2 id h1 h2
        have hO3 : ∀ id, O3 id → O id ∨ S.next ≤ id := fun id h => (o3 id h).elim (hO id) (fun h => .inr (by omega))
        rw [he, Option.bind_some]
        simp only [dB, Option.bind_some]
        cases b with
        | false => exact ⟨T3, O3, rfl, by omega, hk3, hO3, .inr (g2 rfl)⟩
        | true =>
          rw [if_neg (by simp)]
          have hKT : ∀ id, K id → T3.heap id = T2.heap id := fun id hid => k3 id (by have := (hB id hid).2.2; omega) (fun ho => (hO id ho).elim (hB id hid).2.1 (fun h => by have := (hB id hid).2.2; omega))
          refine ih (q + 1) O3 T3 ts2 (rems.map (drop1 W[q])) (by omega) (by omega) (hL2.keep (fun p hp => k3 p.1 (by have := (hlO p hp).2; omega) (hlO p hp).1) hKT n3) (rem_drop hR hU.srt hlt) (fun xs hxs => ?_) (g1 rfl) (by omega) hk3 hO3 (fun p hp => ⟨fun ho => ?_, by have := (hlO p hp).2; omega⟩)
          · obtain ⟨ys, hys, rfl⟩ := List.mem_map.1 hxs
            have := hrl ys hys
            unfold drop1
            split
            · exact this
            · split
              · simp at this; omega
              · exact this
          · rcases o3 p.1 ho with h | h
            · exact (hlO p hp).1 h
            · have := (hlO p hp).2; omega
  obtain ⟨S', O', e, h1, h2, h3, h4⟩ := hloop k 0 O S1 sls vals (by omega) (Nat.zero_le _) hL1 ⟨rfl, fun j hj hj' => ⟨(hv _ (List.getElem_mem hj)).1, fun v => ⟨fun h => ⟨h, by rw [List.drop_zero]; exact (hU.mem v).2 ⟨_, List.getElem_mem hj, h⟩⟩, fun h => h.1⟩⟩⟩ (fun xs hxs => (hv xs hxs).2) hI1 n1 (fun id hid _ => f1.eq id hid) (fun id ho => .inl ho) (fun p hp => ⟨fun ho => by have := ht.lt 0 O S hI p.1 ho; have := hleft p hp; omega, (v1.lo p hp).2⟩)
  refine ⟨S', O', ?_, h1, h2, h3, by rw [hlenW]; exact h4⟩
  rw [disp_func]
  have e' : call_23 (disp k (n + 1)) H k ([] ++ [HV.fn (.yield l) [] []] ++ [.ptr (some (HA.cell0 c))]) S = some (.tup [], S') := by
    rw [call_23]
    simp only [List.nil_append, List.cons_append, args2, Option.bind_some, dF, dP]
    rw [set_Union_int_1.f, Option.bind_some, ldSl_cell hcS, Option.bind_some, e1, Option.bind_some]
    erw [e]
    rfl
  repeat rw [if_neg (by decide)]
  rw [if_pos rfl, e']
end KI
end Go.Proofs.Ytpdainofeaombaa.X
