/- The layer timer: what is due, what is taken, plain. -/
import Derived.Test.YtlfdfkldolgkoaaTpOps
namespace Go.Proofs.Ytlfdfkldolgkoaa.X
open Go.Proofs.Ytlfdfkldolgkoaa.HL
set_option linter.unusedVariables false
theorem rows_keep {S S' : HS} {z : Nat} {s : Sl} {rows : List (List HV)} (h : S.rows s z = some rows) (hk : ∀ q, s.a = some q → S'.heap q.1 = S.heap q.1) : S'.rows s z = some rows := by
  unfold HS.rows at h ⊢
  cases ha : s.a with
  | none => rw [ha] at h; exact h
  | some q =>
    obtain ⟨id, off⟩ := q
    rw [ha] at h
    simp only at h ⊢
    rw [hk _ ha]
    exact h
theorem clone_spec {s : Sl} {rows : List (List HV)} {S : HS} (hr : Rd S.next S 2 s rows) (hn : s.a = none → rows = []) (hc : rows.length ≤ 1000) : ∃ s' S1, slices_Clone_timer_item_string_timer_item_string.f s S = some (s', S1) ∧ S1.rows s' 2 = some rows ∧ (∀ q, s'.a = some q → S.next ≤ q.1 ∧ q.1 < S1.next) ∧ Fr S.next S S1 := by
  unfold slices_Clone_timer_item_string_timer_item_string.f
  by_cases ha : s.a.isNone = true
  · rw [if_pos ha]
    refine ⟨_, S, rfl, ?_, fun q hq => (by cases hq), Fr.refl _ _⟩
    rw [hn (by simpa using ha)]; rfl
  · rw [if_neg ha, letv]
    have hl := Vec.lit (n := S.next) (z := 2) (S := S) [] (Nat.le_refl _)
    have hr' : (S.lit [] 2).2.rows s 2 = some rows := (hr.frame (lit_fr [] (Nat.le_refl _)) (Nat.le_refl _)).rows
    obtain ⟨s', S1, e1, v1, f1⟩ := hl.app (new := rows) (Nat.le_succ _) (by simp; omega)
    rw [hr', Option.bind_some, e1, Option.bind_some]
    rw [List.nil_append] at v1
    exact ⟨s', S1, rfl, v1.rows, v1.lo, (lit_fr [] (Nat.le_refl _)).trans f1⟩
def dueL (now : Int) (es : List It) : List It := es.filter fun e => decide (e.2 ≤ now)
theorem due_take {now : Int} {es : List It} {i : Nat} (h1 : ∀ q (h : q < es.length), q < i → es[q].2 ≤ now) (h2 : ∀ q (h : q < es.length), i ≤ q → now < es[q].2) : es.take i = dueL now es := by
  have e : es = es.take i ++ es.drop i := (List.take_append_drop i es).symm
  have e2 : dueL now es = dueL now (es.take i) ++ dueL now (es.drop i) := by
    conv => lhs; rw [e]
    unfold dueL
    rw [List.filter_append]
  have h3 : dueL now (es.take i) = es.take i := by
    unfold dueL
    rw [List.filter_eq_self]
    intro x hx
    obtain ⟨q, hq, rfl⟩ := List.getElem_of_mem hx
    rw [List.length_take] at hq
    rw [List.getElem_take]
    simpa using h1 q (by omega) (by omega)
  have h4 : dueL now (es.drop i) = [] := by
    unfold dueL
    rw [List.filter_eq_nil_iff]
    intro x hx
    obtain ⟨q, hq, rfl⟩ := List.getElem_of_mem hx
    rw [List.length_drop] at hq
    rw [List.getElem_drop]
    have := h2 (i + q) (by omega) (by omega)
    simpa using this
  rw [e2, h3, h4, List.append_nil]
theorem due_spec {k t r : Nat} {s : Sl} {es ml : List It} {S : HS} (hk : 2000 ≤ k) (h : TI t r s es ml S) (now : Int) :
    ∃ s' S', timer_Table_string_Due.f k (some (HA.cell0 t)) now S = some (.fn (.func 40) [] [.ptr (some (HA.cell0 S.next))], S') ∧ S'.heap S.next = .cells 1 [[s'.hv]] true ∧ S.next < S'.next ∧ S'.rows s' 2 = some ((dueL now es).map itRow) ∧ (∀ q, s'.a = some q → S.next < q.1 ∧ q.1 < S'.next) ∧ Fr S.next S S' := by
  have hcnt := h.cnt
  have helen := h.elen
  rw [timer_Table_string_Due.f, letv, if_pos (by rfl)]
  have fn : Fr S.next S (S.new (.cells 1 [[Sl.nil.hv]] true)) := Fr.new (Nat.le_refl _) _
  have cn : (S.new (.cells 1 [[Sl.nil.hv]] true)).heap S.next = .cells 1 [[Sl.nil.hv]] true := new_here _ _
  have nn : (S.new (.cells 1 [[Sl.nil.hv]] true)).next = S.next + 1 := rfl
  have h1 := h.fr fn
  generalize S.new (.cells 1 [[Sl.nil.hv]] true) = T at fn cn nn h1 ⊢
  have hend : ∀ (n i : Nat), i ≤ es.length → (∀ q (h : q < es.length), q < i → es[q].2 ≤ now) → (∀ q (h : q < es.length), i ≤ q → now < es[q].2) → ∀ r0, ∃ s' S', timer_Table_string_Due.J1 k r0 (some (HA.cell0 t)) now (some (HA.cell0 S.next)) (i : Int) false T = some (.fn (.func 40) [] [.ptr (some (HA.cell0 S.next))], S') ∧ S'.heap S.next = .cells 1 [[s'.hv]] true ∧ S.next < S'.next ∧ S'.rows s' 2 = some ((dueL now es).map itRow) ∧ (∀ q, s'.a = some q → S.next < q.1 ∧ q.1 < S'.next) ∧ Fr S.next S S' := by
    intro _ i hi g1 g2 r0
    have hd := due_take g1 g2
    obtain ⟨sc, c1, c2⟩ := rows_cutT h1.ov.rows (m := i) (by simpa using hi)
    have hsc : (sc.a = none → (es.map itRow).take i = []) ∧ ∀ q, sc.a = some q → q.1 < T.next := by
      have hlen := rows_len c2
      refine ⟨fun ha => ?_, fun q hq => ?_⟩
      · unfold HS.rows at c2
        rw [ha] at c2
        simp only at c2
        split at c2
        · simpa using c2.symm
        · cases c2
      · rcases h1.ov with ⟨g1, g2, g3⟩ | ⟨id, rfl, g2, g3⟩
        · unfold HS.cut at c1
          rw [g1] at c1
          simp only at c1
          rcases ifc c1 with ⟨_, c1⟩ | ⟨_, c1⟩
          · rcases ifc c1 with ⟨_, c1⟩ | ⟨_, c1⟩
            · simp only [Option.some.injEq] at c1
              subst c1; cases hq
            · cases c1
          · cases c1
        · unfold HS.cut at c1
          simp only [g2] at c1
          rcases ifc c1 with ⟨_, c1⟩ | ⟨_, c1⟩
          · rcases ifc c1 with ⟨_, c1⟩ | ⟨_, c1⟩
            · simp only [Option.some.injEq] at c1
              subst c1
              simp only [Option.some.injEq] at hq
              rw [← hq]; exact g3
            · cases c1
          · cases c1
    obtain ⟨s', S2, e2, r2, q2, f2⟩ := clone_spec (S := T) ⟨c2, hsc.2⟩ hsc.1 (by rw [List.length_take]; simp; omega)
    have cc : S2.heap S.next = .cells 1 [[Sl.nil.hv]] true := (f2.eq _ (by omega)).trans cn
    have l2 := f2.le
    rw [timer_Table_string_Due.J1, if_neg (by simp), Option.bind_some, row_ldSl h1.row rfl rfl, Option.bind_some, c1, Option.bind_some, e2, Option.bind_some, Option.bind_some, sets_cell _ cc, Option.bind_some, timer_Table_string_Due.J2]
    refine ⟨s', _, rfl, put_here _ _ _, by rw [put_next]; omega, ?_, fun q hq => ⟨by have := (q2 q hq).1; omega, by rw [put_next]; exact (q2 q hq).2⟩, fn.trans ((f2.mono (by omega)).trans (Fr.put (Nat.le_refl _) _))⟩
    rw [← hd, List.map_take]
    exact rows_keep r2 fun q hq => put_other _ (by have := (q2 q hq).1; omega)
  have hloop : ∀ (n i : Nat), es.length - i < n → i ≤ es.length → (∀ q (h : q < es.length), q < i → es[q].2 ≤ now) → ∃ s' S', timer_Table_string_Due.L0 k n (some (HA.cell0 t)) now (some (HA.cell0 S.next)) (i : Int) T = some (.fn (.func 40) [] [.ptr (some (HA.cell0 S.next))], S') ∧ S'.heap S.next = .cells 1 [[s'.hv]] true ∧ S.next < S'.next ∧ S'.rows s' 2 = some ((dueL now es).map itRow) ∧ (∀ q, s'.a = some q → S.next < q.1 ∧ q.1 < S'.next) ∧ Fr S.next S S' := by
    intro n
    induction n with
    | zero => intro i h; omega
    | succ n ih =>
      intro i hf hi g
      rw [timer_Table_string_Due.L0, Option.bind_some, row_ldSl h1.row rfl rfl, Option.bind_some, h1.slen]
      by_cases hlt : i < es.length
      · obtain ⟨ad, a1, a2, a3⟩ := it_rows h1.ov.rows hlt
        rw [if_pos (by omega), Option.bind_some, row_ldSl h1.row rfl rfl, Option.bind_some, a1, Option.bind_some, a3, Option.bind_some]
        by_cases hle : es[i].2 ≤ now
        · rw [decide_eq_true hle, timer_Table_string_Due.J1, if_pos rfl, w64_id (by omega) (by omega), show ((i : Int) + 1) = ((i + 1 : Nat) : Int) by simp]
          refine ih (i + 1) (by omega) (by omega) (fun q hq hqi => ?_)
          rcases Nat.lt_or_ge q i with g' | g'
          · exact g q hq g'
          · obtain rfl : q = i := by omega
            exact hle
        · rw [decide_eq_false hle]
          refine hend n i hi g (fun q hq hqi => ?_) _
          rcases Nat.eq_or_lt_of_le hqi with g' | g'
          · subst g'; omega
          · have := itc_lt.1 (h.srt.lt hlt hq g')
            omega
      · obtain rfl : i = es.length := by omega
        rw [if_neg (by omega)]
        exact hend n es.length (Nat.le_refl _) g (fun q hq hqi => by omega) _
  exact hloop k 0 (by omega) (Nat.zero_le _) (fun q hq h => by omega)
theorem told_tells {k n l c : Nat} {H : Hd} {r : List HV → HS → Option (HV × HS)} {xs : List It} {s : Sl} (hl : H l = some r) (I : Nat → HS → Prop) (Stop : HS → Prop)
    (hst : ∀ i S S', I i S → Fr S.next S S' → I i S') (hc : ∀ i S, I i S → S.heap c = .cells 1 [[s.hv]] true) (hrd : ∀ i S, I i S → S.rows s 2 = some (xs.map itRow))
    (hstep : ∀ i (hi : i < xs.length) S, I i S → ∃ b S', r [kv xs[i].1, .int .i64 xs[i].2] S = some (.bool b, S') ∧ (b = true → I (i + 1) S') ∧ (b = false → Stop S')) (hx : xs.length ≤ 1000000) (hk : xs.length < k) (S : HS) (hS : I 0 S) :
    ∃ S', disp k (n + 2) H (.fn (.func 40) [] [.ptr (some (HA.cell0 c))]) [.fn (.yield l) [] []] S = some (.tup [], S') ∧ (I xs.length S' ∨ Stop S') := by
  have hloop : ∀ f i S, xs.length - i < f → i ≤ xs.length → I i S → ∃ S', timer_Table_string_Due_1.L0 (disp k (n + 1)) H k f (.fn (.yield l) [] []) s (xs.length : Int) (i : Int) S = some ((), S') ∧ (I xs.length S' ∨ Stop S') := by
    intro f
    induction f with
    | zero => intro i S h; omega
    | succ f ih =>
      intro i S hf hi hI
      unfold timer_Table_string_Due_1.L0
      by_cases hlt : i < xs.length
      · obtain ⟨ad, a1, a2, a3⟩ := it_rows (hrd i S hI) (i := i) hlt
        rw [if_pos (by omega), a1, Option.bind_some, a2, Option.bind_some, a3, Option.bind_some, letv, show HA.cell0 S.next = (⟨S.next, 0, 0⟩ : HA) from rfl, sets_row (new_here S _) rfl (by simp), Option.bind_some]
        have hp : ((S.new (.cells 2 [[.str [], .int .i64 0]] true)).put S.next (.cells 2 ([[HV.str [], HV.int .i64 0]].set 0 (List.take 0 [HV.str [], HV.int .i64 0] ++ [.str xs[i].1, .int .i64 xs[i].2] ++ List.drop (0 + [HV.str xs[i].1, HV.int .i64 xs[i].2].length) [HV.str [], HV.int .i64 0])) true)).heap S.next = .cells 2 [[.str xs[i].1, .int .i64 xs[i].2]] true := put_here _ _ _
        have hr := cell_row hp
        rw [row_ldK (n := xs[i].1) hr rfl rfl, Option.bind_some, row_ldI (n := xs[i].2) hr rfl rfl, Option.bind_some]
        have hI2 := hst i S _ hI ((Fr.new (Nat.le_refl _) (.cells 2 [[.str [], .int .i64 0]] true)).trans (Fr.put (Nat.le_refl _) (.cells 2 ([[HV.str [], HV.int .i64 0]].set 0 (List.take 0 [HV.str [], HV.int .i64 0] ++ [.str xs[i].1, .int .i64 xs[i].2] ++ List.drop (0 + [HV.str xs[i].1, HV.int .i64 xs[i].2].length) [HV.str [], HV.int .i64 0])) true)))
        obtain ⟨b, S2, e2, k1, k2⟩ := hstep i hlt _ hI2
        rw [disp_yield, hl, Option.bind_some]
        erw [e2]
        rw [Option.bind_some]
        simp only [dB, Option.bind_some]
        cases b with
        | false => exact ⟨S2, rfl, .inr (k2 rfl)⟩
        | true =>
          rw [if_neg (by simp), w64_id (by omega) (by omega), show ((i : Int) + 1) = ((i + 1 : Nat) : Int) by simp]
          exact ih (i + 1) S2 (by omega) (by omega) (k1 rfl)
      · obtain rfl : i = xs.length := by omega
        rw [if_neg (by omega)]
        exact ⟨S, rfl, .inl hI⟩
  obtain ⟨S', e, h⟩ := hloop k 0 S (by omega) (by omega) hS
  refine ⟨S', ?_, h⟩
  rw [disp_func]
  have hlen : (s.len : Int) = xs.length := by rw [← rows_len (hrd 0 S hS)]; simp
  have e' : call_40 (disp k (n + 1)) H k ([] ++ [HV.fn (.yield l) [] []] ++ [.ptr (some (HA.cell0 c))]) S = some (.tup [], S') := by
    rw [call_40]
    simp only [List.nil_append, List.cons_append, args2, Option.bind_some, dF, dP]
    rw [timer_Table_string_Due_1.f, Option.bind_some, ldSl_cell (hc 0 S hS), Option.bind_some, hlen]
    erw [e]
    rfl
  simp only [show ¬ (40 : Nat) = 26 by decide, if_true, if_false, e']
def foldStop (W ml : List It) : List It := W.foldl (fun m e => stopL m e.1) ml
theorem foldStop_filter : ∀ (W ml : List It), foldStop W ml = ml.filter fun e => decide (∀ w ∈ W, e.1 ≠ w.1) := by
  intro W
  induction W with
  | nil =>
    intro ml
    symm
    show ml.filter _ = ml
    rw [List.filter_eq_self]
    intro e _
    simp
  | cons w W ih =>
    intro ml
    have : foldStop (w :: W) ml = foldStop W (stopL ml w.1) := rfl
    rw [this, ih, stopL, List.filter_filter]
    congr 1
    funext e
    rw [← Bool.decide_and, decide_eq_decide]
    simp only [List.mem_cons, forall_eq_or_imp]
    exact And.comm
theorem dst_uniq {ml : List It} (h : Dst ml) {a b : It} (ha : a ∈ ml) (hb : b ∈ ml) (he : a.1 = b.1) : a = b := by
  obtain ⟨i, hi, rfl⟩ := List.getElem_of_mem ha
  obtain ⟨j, hj, rfl⟩ := List.getElem_of_mem hb
  rcases Nat.lt_trichotomy i j with g | g | g
  · exact absurd he (List.pairwise_iff_getElem.1 h i j hi hj g)
  · subst g; rfl
  · exact absurd he.symm (List.pairwise_iff_getElem.1 h j i hj hi g)
theorem foldStop_due {es ml : List It} (hd : Dst ml) (hp : es.Perm ml) (now : Int) : foldStop (dueL now es) ml = ml.filter fun e => decide (now < e.2) := by
  rw [foldStop_filter]
  refine List.filter_congr fun e he => ?_
  rw [decide_eq_decide]
  constructor
  · intro h
    rcases Int.lt_or_le now e.2 with g | g
    · exact g
    · exact absurd rfl (h e (List.mem_filter.2 ⟨hp.mem_iff.2 he, by simpa using g⟩))
  · intro h w hw hc
    obtain ⟨h1, h2⟩ := List.mem_filter.1 hw
    have := dst_uniq hd he (hp.mem_iff.1 h1) hc
    subst this
    simp only [decide_eq_true_eq] at h2
    omega
theorem dK_kv (k : Ky) : dS (kv k) = some k := by simp [dS, kv]
theorem dI_at (n : Int) : dI .i64 (HV.int .i64 n) = some n := by simp [dI]
structure TkI (G : Nat → Prop) (t r c5 l : Nat) (W ml : List It) (S0 : HS) (i : Nat) (S : HS) : Prop where
  tab : ∃ s es, TI t r s es (foldStop (W.take i) ml) S ∧ (∀ id, Own t r s id → ¬ G id) ∧ ∃ so, S.heap c5 = .cells 1 [[so.hv]] true ∧ Vec 0 S 1 so ((W.take i).map fun e => [kv e.1]) ∧ ∀ q, so.a = some q → ¬ G q.1 ∧ ¬ Own t r s q.1 ∧ S0.next ≤ q.1
  gl : ∀ id, G id → id < S.next
  keep : ∀ id, G id → id ≠ c5 → id ≠ l → S.heap id = S0.heap id
  lo : S.heap l = .loop .ready none
theorem TkI.fr {G : Nat → Prop} {t r c5 l : Nat} {W ml : List It} {S0 : HS} {i : Nat} {S S' : HS} (h5 : G c5) (hl : G l) (h : TkI G t r c5 l W ml S0 i S) (hf : Fr S.next S S') : TkI G t r c5 l W ml S0 i S' := by
  obtain ⟨s, es, b1, b2, so, o1, o2, o3⟩ := h.tab
  exact ⟨⟨s, es, b1.fr hf, b2, so, (hf.eq _ (h.gl _ h5)).trans o1, o2.frame hf (Nat.le_refl _), o3⟩, fun id g => Nat.lt_of_lt_of_le (h.gl id g) hf.le, fun id g n1 n2 => (hf.eq id (h.gl id g)).trans (h.keep id g n1 n2), (hf.eq _ (h.gl _ hl)).trans h.lo⟩
theorem TI.away {t r : Nat} {s : Sl} {es ml : List It} {S : HS} {G : Nat → Prop} (h : TI t r s es ml S) (hg : ∀ id, Own t r s id → ¬ G id) {id : Nat} (g : G id) (o : HObj) : TI t r s es ml (S.put id o) :=
  h.keep (fun x ho => put_other _ (fun e => hg x ho (e ▸ g))) (Nat.le_refl _)
theorem take_round {k n t r c2 c5 l : Nat} {H : Hd} {G : Nat → Prop} {W ml : List It} {S0 : HS} (hk : 2000 ≤ k) (h2 : G c2) (h5 : G c5) (hl : G l) (n25 : c2 ≠ c5) (n2l : c2 ≠ l) (n5l : c5 ≠ l) (hW : W.length ≤ 1000) (hle : S0.next ≤ S0.next) (hB : S0.heap c2 = .cells 1 [[.ptr (some (HA.cell0 t))]] true) {i : Nat} (hi : i < W.length) {S : HS} (hnx : S0.next ≤ S.next) (h : TkI G t r c5 l W ml S0 i S) :
    ∃ S', timer_Table_string_Take.J0 (disp k (n + 1)) H k l (some (HA.cell0 c2)) (some (HA.cell0 c5)) W[i].1 S = some (.bool true, S') ∧ TkI G t r c5 l W ml S0 (i + 1) S' ∧ S0.next ≤ S'.next := by
  obtain ⟨s, es, b1, b2, so, o1, o2, o3⟩ := h.tab
  rw [timer_Table_string_Take.J0, begin_at h.lo, Option.bind_some, Option.bind_some]
  have p1 : (S.put l (.loop .busy none)).heap c5 = .cells 1 [[so.hv]] true := by rw [put_other _ n5l]; exact o1
  have l1 : (S.put l (.loop .busy none)).heap l = .loop .busy none := put_here _ _ _
  have t1 := b1.away b2 hl (.loop .busy none)
  have v1 : Vec 0 (S.put l (.loop .busy none)) 1 so ((W.take i).map fun e => [kv e.1]) := o2.put_ne (fun q hq e => (o3 q hq).1 (e ▸ hl))
  have k1 : ∀ id, G id → id ≠ c5 → id ≠ l → (S.put l (.loop .busy none)).heap id = S0.heap id := fun id g n1 n2 => (put_other _ n2).trans (h.keep id g n1 n2)
  have g1 : ∀ id, G id → id < (S.put l (.loop .busy none)).next := h.gl
  have x1 : S0.next ≤ (S.put l (.loop .busy none)).next := hnx
  generalize S.put l (.loop .busy none) = T1 at p1 l1 t1 v1 k1 g1 x1 ⊢
  rw [ldSl_cell p1, Option.bind_some, letv]
  have fl : Fr T1.next T1 (T1.lit [[.str W[i].1]] 1).2 := lit_fr _ (Nat.le_refl _)
  have lr : (T1.lit [[.str W[i].1]] 1).2.rows (T1.lit [[.str W[i].1]] 1).1 1 = some [[.str W[i].1]] := (Vec.lit (n := 0) (z := 1) (S := T1) _ (Nat.zero_le _)).rows
  have l2 : (T1.lit [[.str W[i].1]] 1).2.next = T1.next + 1 := rfl
  have v2 : Vec 0 (T1.lit [[.str W[i].1]] 1).2 1 so ((W.take i).map fun e => [kv e.1]) := v1.frame fl (Nat.le_refl _)
  have t2 := t1.fr fl
  obtain ⟨so', T3, e3, v3, f3, k3, q3⟩ := v2.app2 (new := [[.str W[i].1]]) (Nat.zero_le _) (by simp; omega)
  have n3 := f3.le
  rw [lr, Option.bind_some, e3, Option.bind_some, Option.bind_some]
  have hk3 : ∀ id, id < T1.next → (∀ q, so.a = some q → q.1 ≠ id) → T3.heap id = T1.heap id := fun id h1 h2 => (k3 id (by omega) h2).trans (fl.eq id h1)
  have c3 : T3.heap c5 = .cells 1 [[so.hv]] true := by rw [hk3 c5 (g1 _ h5) (fun q hq e => (o3 q hq).1 (e ▸ h5))]; exact p1
  rw [sets_cell _ c3, Option.bind_some, Option.bind_some]
  have hso' : ∀ q, so'.a = some q → T1.next ≤ q.1 ∨ ∃ q0, so.a = some q0 ∧ q0.1 = q.1 := fun q hq => by
    rcases q3 q hq with g | g
    · exact .inl (by omega)
    · exact .inr g
  have hnG : ∀ q, so'.a = some q → ¬ G q.1 ∧ ¬ Own t r s q.1 ∧ S0.next ≤ q.1 := fun q hq => by
    rcases hso' q hq with g | ⟨q0, g1', g2⟩
    · exact ⟨fun g' => by have := g1 _ g'; omega, fun g' => by have := t1.lt g'; omega, by omega⟩
    · rw [← g2]; exact o3 q0 g1'
  have t3 : TI t r s es (foldStop (W.take i) ml) T3 := t1.keep (fun id ho => hk3 id (t1.lt ho) (fun q hq e => (o3 q hq).2.1 (e ▸ ho))) (by omega)
  have t4 := t3.away b2 h5 (.cells 1 [[so'.hv]] true)
  have v4 : Vec 0 (T3.put c5 (.cells 1 [[so'.hv]] true)) 1 so' ((W.take (i + 1)).map fun e => [kv e.1]) := by
    have e : ((W.take (i + 1)).map fun e => [kv e.1]) = ((W.take i).map fun e => [kv e.1]) ++ [[kv W[i].1]] := by rw [List.take_succ_eq_append_getElem hi, List.map_append]; rfl
    rw [e]
    exact v3.put_ne (fun q hq e => (hnG q hq).1 (e ▸ h5))
  have p4 : (T3.put c5 (.cells 1 [[so'.hv]] true)).heap c5 = .cells 1 [[so'.hv]] true := put_here _ _ _
  have k4 : ∀ id, G id → id ≠ c5 → (T3.put c5 (.cells 1 [[so'.hv]] true)).heap id = T1.heap id := fun id g n1 => by
    rw [put_other _ n1]; exact hk3 id (g1 id g) (fun q hq e => (o3 q hq).1 (e ▸ g))
  have n4 : (T3.put c5 (.cells 1 [[so'.hv]] true)).next = T3.next := rfl
  generalize T3.put c5 (.cells 1 [[so'.hv]] true) = T4 at t4 v4 p4 k4 n4 ⊢
  have c4 : T4.heap c2 = .cells 1 [[.ptr (some (HA.cell0 t))]] true := by rw [k4 c2 h2 n25, k1 c2 h2 n25 n2l]; exact hB
  obtain ⟨b, s', es', T5, e5, t5, o5, _⟩ := stop_spec (n := n) (H := H) hk t4 W[i].1
  have n5 := o5.le
  rw [ldP_cell c4, Option.bind_some, e5, Option.bind_some]
  have g4 : ∀ id, G id → id < T4.next := fun id g => by have := g1 id g; omega
  have k5 : ∀ id, G id → T5.heap id = T4.heap id := fun id g => o5.eq id (g4 id g) (fun ho => b2 id ho g)
  have hown : ∀ id, Own t r s' id → ¬ G id := fun id ho g => by
    rcases o5.own id ho with h7 | h7
    · exact b2 id h7 g
    · have := g4 id g; omega
  have l5 : T5.heap l = .loop .busy none := by rw [k5 l hl, k4 l hl (Ne.symm n5l)]; exact l1
  rw [endr_at none l5]
  have hv5 : Vec 0 T5 1 so' ((W.take (i + 1)).map fun e => [kv e.1]) := vec_keep v4 (fun q hq => o5.eq q.1 (v4.lo q hq).2 (hnG q hq).2.1) n5
  have hfold : foldStop (W.take (i + 1)) ml = stopL (foldStop (W.take i) ml) W[i].1 := by
    unfold foldStop
    rw [List.take_succ_eq_append_getElem hi, List.foldl_append]
    rfl
  refine ⟨_, rfl, ⟨⟨s', es', ?_, hown, so', ?_, hv5.put_ne (fun q hq e => (hnG q hq).1 (e ▸ hl)), fun q hq => ⟨(hnG q hq).1, fun ho => ?_, (hnG q hq).2.2⟩⟩, fun id g => ?_, fun id g n1 n2 => ?_, put_here _ _ _⟩, by rw [put_next]; omega⟩
  · rw [hfold]; exact t5.away hown hl _
  · rw [put_other _ n5l, k5 c5 h5]; exact p4
  · rcases o5.own _ ho with h7 | h7
    · exact (hnG q hq).2.1 h7
    · have := (v4.lo q hq).2; omega
  · rw [put_next]; have := g4 id g; omega
  · rw [put_other _ n2, k5 id g, k4 id g n1]; exact k1 id g n1 n2
theorem take_spec {k n t r : Nat} {s : Sl} {es ml : List It} {S : HS} (hk : 2000 ≤ k) (h : TI t r s es ml S) (now : Int) :
    ∃ out s' es' S', timer_Table_string_Take.f (disp k (n + 2)) (fun _ => none) k (some (HA.cell0 t)) now S = some (out, S') ∧ S'.rows out 1 = some ((dueL now es).map fun e => [kv e.1]) ∧ TI t r s' es' (foldStop (dueL now es) ml) S' ∧ Only t r s s' S S' ∧ (∀ q, out.a = some q → S.next ≤ q.1 ∧ q.1 < S'.next ∧ ¬ Own t r s' q.1) := by
  have hcnt := h.cnt
  have helen := h.elen
  have hWl : (dueL now es).length ≤ es.length := List.length_filter_le _ _
  rw [timer_Table_string_Take.f, letv, letv, new_next]
  have f1 : Fr S.next S ((S.new (.cells 1 [[.ptr (some (HA.cell0 t))]] true)).new (.cells 1 [[Sl.nil.hv]] true)) := (Fr.new (Nat.le_refl _) _).trans (Fr.new (by rw [new_next]; omega) _)
  have p1 : ((S.new (.cells 1 [[.ptr (some (HA.cell0 t))]] true)).new (.cells 1 [[Sl.nil.hv]] true)).heap S.next = .cells 1 [[.ptr (some (HA.cell0 t))]] true := by rw [new_old _ (by rw [new_next]; omega)]; exact new_here _ _
  have o1 : ((S.new (.cells 1 [[.ptr (some (HA.cell0 t))]] true)).new (.cells 1 [[Sl.nil.hv]] true)).heap (S.next + 1) = .cells 1 [[Sl.nil.hv]] true := new_here (S.new _) _
  have n1 : ((S.new (.cells 1 [[.ptr (some (HA.cell0 t))]] true)).new (.cells 1 [[Sl.nil.hv]] true)).next = S.next + 2 := rfl
  generalize (S.new (.cells 1 [[.ptr (some (HA.cell0 t))]] true)).new (.cells 1 [[Sl.nil.hv]] true) = T1 at f1 p1 o1 n1 ⊢
  have t1 := h.fr f1
  obtain ⟨sd, T2, e2, c2, l2, r2, q2, f2⟩ := due_spec hk t1 now
  rw [ldP_cell p1, Option.bind_some, e2, Option.bind_some]
  rw [n1] at l2 q2 c2
  have t2 := t1.fr f2
  have f12 : Fr S.next S T2 := f1.trans (f2.mono (by omega))
  have f7 : Fr T2.next T2 ((T2.new .defer).new (.loop .ready none)) := (Fr.new (Nat.le_refl _) _).trans (Fr.new (by rw [new_next]; omega) _)
  have n7 : ((T2.new .defer).new (.loop .ready none)).next = T2.next + 2 := rfl
  have d7 : ((T2.new .defer).new (.loop .ready none)).heap T2.next = .defer := by rw [new_old _ (by rw [new_next]; omega)]; exact new_here _ _
  have l7 : ((T2.new .defer).new (.loop .ready none)).heap (T2.next + 1) = .loop .ready none := new_here (T2.new .defer) _
  generalize hS0 : (T2.new .defer).new (.loop .ready none) = S0 at f7 n7 d7 l7 ⊢
  have t7 := t2.fr f7
  let G : Nat → Prop := fun id => id < S0.next ∧ ¬ Own t r s id
  have inG : ∀ id, S.next ≤ id → id < S0.next → G id := fun id g1 g2 => ⟨g2, fun ho => by have := h.lt ho; omega⟩
  have p7 : S0.heap S.next = .cells 1 [[.ptr (some (HA.cell0 t))]] true := by rw [f7.eq _ (by omega), f2.eq _ (by omega)]; exact p1
  have o7 : S0.heap (S.next + 1) = .cells 1 [[Sl.nil.hv]] true := by rw [f7.eq _ (by omega), f2.eq _ (by omega)]; exact o1
  have hI0 : TkI G t r (S.next + 1) (T2.next + 1) (dueL now es) ml S0 0 S0 := ⟨⟨s, es, (by rw [List.take_zero]; exact t7), fun id ho g => g.2 ho, Sl.nil, o7, by rw [List.take_zero]; exact .nil, fun q hq => by cases hq⟩, fun id g => g.1, fun _ _ _ _ => rfl, l7⟩
  have hkeep2 : ∀ i S, TkI G t r (S.next + 1) (T2.next + 1) (dueL now es) ml S0 i S → True := fun _ _ _ => trivial
  rw [n1]
  obtain ⟨S', e, hh⟩ := told_tells (k := k) (n := n) (l := T2.next + 1) (c := S.next + 2) (xs := dueL now es) (s := sd) (H := Hd.set (fun _ => none) (T2.next + 1) (fun vs U => Option.bind (HS.lp U (T2.next + 1)) fun _ => Option.bind (args2 vs) fun ar => Option.bind (dS ar.1) fun a => Option.bind (dI .i64 ar.2) fun b => timer_Table_string_Take.J0 (disp k (n + 2)) (fun _ => none) k (T2.next + 1) (some (HA.cell0 S.next)) (some (HA.cell0 (S.next + 1))) a U))
    (by simp [Hd.set]; rfl) (fun i U => TkI G t r (S.next + 1) (T2.next + 1) (dueL now es) ml S0 i U ∧ S0.next ≤ U.next) (fun _ => False)
    (fun i U U' g hf => ⟨g.1.fr (inG _ (by omega) (by omega)) (inG _ (by omega) (by omega)) hf, Nat.le_trans g.2 hf.le⟩)
    (fun i U g => by rw [g.1.keep _ (inG _ (by omega) (by omega)) (by omega) (by omega), f7.eq _ (by omega)]; exact c2)
    (fun i U g => rows_keep r2 fun q hq => by have := q2 q hq; rw [g.1.keep _ (inG _ (by omega) (by omega)) (by omega) (by omega), f7.eq _ (by omega)])
    (by
      intro i hi U g
      rw [lp_at g.1.lo, Option.bind_some, show args2 [kv (dueL now es)[i].1, HV.int .i64 (dueL now es)[i].2] = some (kv (dueL now es)[i].1, HV.int .i64 (dueL now es)[i].2) from rfl, Option.bind_some]
      simp only
      rw [dK_kv, Option.bind_some, dI_at, Option.bind_some]
      obtain ⟨U', e, g', g2⟩ := take_round (n := n + 1) (H := fun _ => none) (c2 := S.next) (c5 := S.next + 1) (l := T2.next + 1) hk (inG _ (by omega) (by omega)) (inG _ (by omega) (by omega)) (inG _ (by omega) (by omega)) (by omega) (by omega) (by omega) (by omega) (Nat.le_refl _) p7 hi g.2 g.1
      exact ⟨true, U', e, fun _ => ⟨g', g2⟩, fun h => by cases h⟩) (by omega) (by omega) S0 ⟨hI0, Nat.le_refl _⟩
  have hh' : TkI G t r (S.next + 1) (T2.next + 1) (dueL now es) ml S0 (dueL now es).length S' ∧ S0.next ≤ S'.next := by
    rcases hh with g | g
    · exact g
    · exact g.elim
  obtain ⟨hh, hnx⟩ := hh'
  obtain ⟨s', es', b1, b2, so, u1, u2, u3⟩ := hh.tab
  rw [List.take_length] at b1 u2
  erw [e]
  rw [Option.bind_some]
  have e1 : S'.finish (T2.next + 1) = some (none, S'.put (T2.next + 1) (.loop .exhausted none)) := by simp [HS.finish, hh.lo]
  rw [e1, Option.bind_some]
  simp only [pcode, Option.bind_some, if_true]
  have hlG : G (T2.next + 1) := inG _ (by omega) (by omega)
  have hdG : G T2.next := inG _ (by omega) (by omega)
  have x5 : (S'.put (T2.next + 1) (.loop .exhausted none)).heap (S.next + 1) = .cells 1 [[so.hv]] true := by rw [put_other _ (by omega)]; exact u1
  have xd : (S'.put (T2.next + 1) (.loop .exhausted none)).heap T2.next = .defer := by rw [put_other _ (by omega), hh.keep _ hdG (by omega) (by omega)]; exact d7
  rw [ldSl_cell x5, Option.bind_some]
  simp only [HS.leave, xd, Option.bind_some]
  have y1 := (b1.away b2 hlG (.loop .exhausted none)).away b2 hdG .dead
  refine ⟨so, s', es', _, rfl, ?_, y1, ⟨by simp only [put_next]; omega, fun id g1 g2 => ?_, fun id ho => ?_⟩, fun q hq => ⟨by have := (u3 q hq).2.2; omega, by simp only [put_next]; exact (u2.lo q hq).2, (u3 q hq).2.1⟩⟩
  · exact rows_keep u2.rows fun q hq => by
      have hqG := (u3 q hq).1
      rw [put_other _ (fun (e : q.1 = T2.next) => hqG (by rw [e]; exact hdG)), put_other _ (fun (e : q.1 = T2.next + 1) => hqG (by rw [e]; exact hlG))]
  · have hG : G id := ⟨by omega, g2⟩
    rw [put_other _ (by omega), put_other _ (by omega), hh.keep id hG (by omega) (by omega), f7.eq id (by omega), f12.eq id g1]
  · by_cases hc : id < S0.next
    · left
      exact Classical.byContradiction fun hn => b2 id ho ⟨hc, hn⟩
    · exact .inr (by omega)
theorem next_spec {t r : Nat} {s : Sl} {es ml : List It} {S : HS} (h : TI t r s es ml S) :
    (timer_Table_string_Next.f (some (HA.cell0 t)) S = some ((([] : List UInt8), 0, false), S) ∧ es = []) ∨ ∃ hp : 0 < es.length, timer_Table_string_Next.f (some (HA.cell0 t)) S = some ((es[0].1, es[0].2, true), S) := by
  have helen := h.elen
  rw [timer_Table_string_Next.f, tlen_spec h, Option.bind_some]
  by_cases h0 : es.length = 0
  · left
    rw [if_pos (show (ml.length : Int) = 0 by omega)]
    exact ⟨rfl, List.length_eq_zero_iff.1 h0⟩
  · right
    have hp : 0 < es.length := by omega
    obtain ⟨ad, a1, a2, a3⟩ := it_rows h.ov.rows hp
    rw [show ((0 : Nat) : Int) = 0 from rfl] at a1
    refine ⟨hp, ?_⟩
    rw [if_neg (show ¬ (ml.length : Int) = 0 by omega), Option.bind_some, row_ldSl h.row rfl rfl, Option.bind_some, a1, Option.bind_some, a2, Option.bind_some, Option.bind_some, row_ldSl h.row rfl rfl, Option.bind_some, a1, Option.bind_some, a3, Option.bind_some]
end Go.Proofs.Ytlfdfkldolgkoaa.X
