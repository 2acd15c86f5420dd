/- The layer set: what is told, gathered. -/
import Derived.Test.YtpdainofeaombaaSuMoreI
namespace Go.Proofs.Ytpdainofeaombaa.X
open Go.Proofs.Ytpdainofeaombaa.HL
set_option linter.unusedVariables false
namespace KI
def OT (b : Nat) (so : Sl) (id : Nat) : Prop := (b ≤ id ∧ id < b + 6) ∨ ∃ q, so.a = some q ∧ q.1 = id
structure ToI (b : Nat) (most : Int) (xs : List Ky) (st : LoopState) (i : Nat) (so : Sl) (S : HS) : Prop where
  cm : S.heap b = .cells 1 [[.int .i64 most]] true
  cr : S.heap (b + 1) = .cells 1 [[Sl.nil.hv]] true
  cb : S.heap (b + 2) = .cells 1 [[.bool false]] true
  co : S.heap (b + 3) = .cells 1 [[so.hv]] true
  de : S.heap (b + 4) = .defer
  lo : S.heap (b + 5) = .loop st none
  vec : Vec (b + 6) S 1 so ((xs.take i).map row1)
  nx : b + 6 ≤ S.next
theorem ToI.keep {b : Nat} {most : Int} {xs : List Ky} {st : LoopState} {i : Nat} {so : Sl} {S S' : HS} (h : ToI b most xs st i so S) (hk : ∀ id, OT b so id → S'.heap id = S.heap id) (hn : S.next ≤ S'.next) : ToI b most xs st i so S' :=
  ⟨(hk _ (.inl ⟨by omega, by omega⟩)).trans h.cm, (hk _ (.inl ⟨by omega, by omega⟩)).trans h.cr, (hk _ (.inl ⟨by omega, by omega⟩)).trans h.cb, (hk _ (.inl ⟨by omega, by omega⟩)).trans h.co, (hk _ (.inl ⟨by omega, by omega⟩)).trans h.de, (hk _ (.inl ⟨by omega, by omega⟩)).trans h.lo, vec_keep h.vec (fun q hq => hk _ (.inr ⟨q, hq, rfl⟩)) hn, Nat.le_trans h.nx hn⟩
theorem told_spec {n : Nat} {D : Dp} {xs : List Ky} {K : Nat → Prop} {fn : Fn} {u v : List HV} {most : Int} {S : HS} (hT : Tells D (.fn fn u v) (xs.map row1) K S) (hK : ∀ id, K id → id < S.next) (hm : (xs.length : Int) ≤ most) (hx : xs.length ≤ 100000) :
    ∃ out S', rollcalllaw10_told.f D (fun _ => none) (.fn fn u v) most S = some ((out, true), S') ∧ S'.rows out 1 = some (xs.map row1) ∧ (∀ q, out.a = some q → S.next ≤ q.1 ∧ q.1 < S'.next) ∧ Fr S.next S S' := by
  rw [rollcalllaw10_told.f, letv, letv, letv, letv]
  simp only [new_next, HV.isNilFn, Option.bind_some]
  rw [if_neg (by simp)]
  have n4 : ((((S.new (.cells 1 [[.int .i64 most]] true)).new (.cells 1 [[Sl.nil.hv]] true)).new (.cells 1 [[.bool false]] true)).new (.cells 1 [[Sl.nil.hv]] true)).next = S.next + 4 := rfl
  have f4 : Fr S.next S ((((S.new (.cells 1 [[.int .i64 most]] true)).new (.cells 1 [[Sl.nil.hv]] true)).new (.cells 1 [[.bool false]] true)).new (.cells 1 [[Sl.nil.hv]] true)) := (((Fr.new (Nat.le_refl _) _).trans (Fr.new (by simp only [new_next]; omega) _)).trans (Fr.new (by simp only [new_next]; omega) _)).trans (Fr.new (by simp only [new_next]; omega) _)
  have c0 : ((((S.new (.cells 1 [[.int .i64 most]] true)).new (.cells 1 [[Sl.nil.hv]] true)).new (.cells 1 [[.bool false]] true)).new (.cells 1 [[Sl.nil.hv]] true)).heap S.next = .cells 1 [[.int .i64 most]] true := by
    rw [new_old _ (by simp only [new_next]; omega), new_old _ (by simp only [new_next]; omega), new_old _ (by simp only [new_next]; omega)]; exact new_here _ _
  have c1 : ((((S.new (.cells 1 [[.int .i64 most]] true)).new (.cells 1 [[Sl.nil.hv]] true)).new (.cells 1 [[.bool false]] true)).new (.cells 1 [[Sl.nil.hv]] true)).heap (S.next + 1) = .cells 1 [[Sl.nil.hv]] true := by
    rw [new_old _ (by simp only [new_next]; omega), new_old _ (by simp only [new_next]; omega)]; exact new_here (S.new _) _
  have c2 : ((((S.new (.cells 1 [[.int .i64 most]] true)).new (.cells 1 [[Sl.nil.hv]] true)).new (.cells 1 [[.bool false]] true)).new (.cells 1 [[Sl.nil.hv]] true)).heap (S.next + 2) = .cells 1 [[.bool false]] true := by
    rw [new_old _ (by simp only [new_next]; omega)]; exact new_here ((S.new _).new _) _
  have c3 : ((((S.new (.cells 1 [[.int .i64 most]] true)).new (.cells 1 [[Sl.nil.hv]] true)).new (.cells 1 [[.bool false]] true)).new (.cells 1 [[Sl.nil.hv]] true)).heap (S.next + 3) = .cells 1 [[Sl.nil.hv]] true := new_here (((S.new _).new _).new _) _
  rw [show S.next + 1 + 1 + 1 = S.next + 3 from rfl, show S.next + 1 + 1 = S.next + 2 from rfl]
  generalize (((S.new (.cells 1 [[.int .i64 most]] true)).new (.cells 1 [[Sl.nil.hv]] true)).new (.cells 1 [[.bool false]] true)).new (.cells 1 [[Sl.nil.hv]] true) = T at n4 f4 c0 c1 c2 c3 ⊢
  have f6 : Fr T.next T ((T.new .defer).new (.loop .ready none)) := (Fr.new (Nat.le_refl _) _).trans (Fr.new (by rw [new_next]; omega) _)
  have n6 : ((T.new .defer).new (.loop .ready none)).next = S.next + 6 := by simp only [new_next]; omega
  have hI0 : ToI S.next most xs .ready 0 Sl.nil ((T.new .defer).new (.loop .ready none)) := by
    refine ⟨(f6.eq _ (by omega)).trans c0, (f6.eq _ (by omega)).trans c1, (f6.eq _ (by omega)).trans c2, (f6.eq _ (by omega)).trans c3, ?_, ?_, by rw [List.take_zero]; exact .nil, by omega⟩
    · rw [show S.next + 4 = T.next by omega, new_old _ (by rw [new_next]; omega)]; exact new_here _ _
    · rw [show S.next + 5 = (T.new .defer).next by rw [new_next]; omega]; exact new_here _ _
  have hl : T.next + 1 = S.next + 5 := by omega
  have hd : T.next = S.next + 4 := n4
  generalize hS0 : (T.new .defer).new (.loop .ready none) = S0 at hI0 f6 n6 ⊢
  rw [show S.next + 3 + 1 + 1 = S.next + 5 from rfl, show S.next + 3 + 1 = S.next + 4 from rfl]
  have fS0 : Fr S.next S S0 := f4.trans (f6.mono (by omega))
  have hlen : (xs.map row1).length = xs.length := by simp
  obtain ⟨S', O', e, l1, k1, o1, hh⟩ := hT (Hd.set (fun _ => none) (S.next + 5) fun vs T =>
      Option.bind (HS.lp T (S.next + 5)) fun _ => Option.bind (args1 vs) fun ar => Option.bind (dI .i64 ar) fun p => rollcalllaw10_told.J0 D (fun _ => none) (S.next + 5) (some (HA.cell0 S.next)) (some (HA.cell0 (S.next + 1))) (some (HA.cell0 (S.next + 2))) (some (HA.cell0 (S.next + 3))) p T)
    (S.next + 5) (fun i O U => ∃ so, ToI S.next most xs .ready i so U ∧ ∀ id, O id ↔ OT S.next so id) (fun _ _ => False) (by
      refine ⟨fun i O U U' ⟨so, h1, h2⟩ hk hn => ⟨so, h1.keep (fun id ho => hk id ((h2 id).2 ho)) hn, h2⟩, fun _ _ _ h => h.elim, fun i O U ⟨so, h1, h2⟩ id ho => ?_, fun _ _ h => h.elim, fun i hi O U ⟨so, h1, h2⟩ => ?_⟩
      · have := h1.nx
        rcases (h2 id).1 ho with g | ⟨q, g, rfl⟩
        · omega
        · exact (h1.vec.lo q g).2
      · rw [hlen] at hi
        simp only [Hd.set, if_true, Option.bind_some]
        rw [List.getElem_map, lp_at h1.lo, Option.bind_some, show args1 (row1 xs[i]) = some (kv xs[i]) from rfl, Option.bind_some, show dI .i64 (kv xs[i]) = some xs[i] from dI_at _, Option.bind_some]
        rw [rollcalllaw10_told.J0, begin_at h1.lo, Option.bind_some]
        -- begun
        have hso : ∀ q, so.a = some q → S.next + 6 ≤ q.1 := fun q hq => (h1.vec.lo q hq).1
        have b3 : (U.put (S.next + 5) (.loop .busy none)).heap (S.next + 3) = .cells 1 [[so.hv]] true := by rw [put_other _ (by omega)]; exact h1.co
        have b0 : (U.put (S.next + 5) (.loop .busy none)).heap S.next = .cells 1 [[.int .i64 most]] true := by rw [put_other _ (by omega)]; exact h1.cm
        have b5 : (U.put (S.next + 5) (.loop .busy none)).heap (S.next + 5) = .loop .busy none := put_here _ _ _
        have bv : Vec (S.next + 6) (U.put (S.next + 5) (.loop .busy none)) 1 so ((xs.take i).map row1) := h1.vec.put_ne (fun q hq e => by have := hso q hq; omega)
        have bk : ∀ id, id ≠ S.next + 5 → (U.put (S.next + 5) (.loop .busy none)).heap id = U.heap id := fun id hne => put_other _ hne
        have bn : (U.put (S.next + 5) (.loop .busy none)).next = U.next := rfl
        generalize U.put (S.next + 5) (.loop .busy none) = V at b3 b0 b5 bv bk bn ⊢
        have hsl : (so.len : Int) = i := by rw [bv.len]; simp; omega
        have hnx := h1.nx
        rw [Option.bind_some, ldSl_cell b3, Option.bind_some, Option.bind_some, ldI_cell b0, Option.bind_some, hsl, if_neg (by omega), Option.bind_some, ldSl_cell b3, Option.bind_some, letv]
        have fl : Fr V.next V (V.lit [[.int .i64 xs[i]]] 1).2 := lit_fr _ (Nat.le_refl _)
        have lr : (V.lit [[.int .i64 xs[i]]] 1).2.rows (V.lit [[.int .i64 xs[i]]] 1).1 1 = some [[.int .i64 xs[i]]] := (Vec.lit (n := 0) (z := 1) (S := V) _ (Nat.zero_le _)).rows
        have l2 : (V.lit [[.int .i64 xs[i]]] 1).2.next = V.next + 1 := rfl
        have v2 : Vec (S.next + 6) (V.lit [[.int .i64 xs[i]]] 1).2 1 so ((xs.take i).map row1) := bv.frame fl (Nat.le_refl _)
        obtain ⟨so', T3, e3, v3, f3, k3, q3⟩ := v2.app2 (new := [[.int .i64 xs[i]]]) (by omega) (by simp; omega)
        have n3 := f3.le
        have e : ((xs.take (i + 1)).map row1) = ((xs.take i).map row1) ++ [[.int .i64 xs[i]]] := by rw [List.take_succ_eq_append_getElem hi, List.map_append]; rfl
        rw [← e] at v3
        have k4 : ∀ id, id < V.next → (∀ q, so.a = some q → q.1 ≠ id) → T3.heap id = V.heap id := fun id g1 g2 => (k3 id (by omega) g2).trans (fl.eq id g1)
        have c3' : T3.heap (S.next + 3) = .cells 1 [[so.hv]] true := by rw [k4 _ (by omega) (fun q hq e => by have := hso q hq; omega)]; exact b3
        rw [lr, Option.bind_some, e3, Option.bind_some, Option.bind_some, sets_cell _ c3', Option.bind_some]
        have c5 : (T3.put (S.next + 3) (.cells 1 [[so'.hv]] true)).heap (S.next + 5) = .loop .busy none := by
          rw [put_other _ (by omega), k4 _ (by omega) (fun q hq e => by have := hso q hq; omega)]; exact b5
        rw [endr_at none c5]
        have hkk : ∀ id, S.next ≤ id → id < S.next + 5 → id ≠ S.next + 3 → ((T3.put (S.next + 3) (.cells 1 [[so'.hv]] true)).put (S.next + 5) (.loop .ready none)).heap id = U.heap id := fun id g1 g2 g3 => by
          rw [put_other _ (by omega), put_other _ g3, k4 id (by omega) (fun q hq e => by have := hso q hq; omega), bk id (by omega)]
        refine ⟨true, _, OT S.next so', rfl, by simp only [put_next]; omega, fun id g1 g2 => ?_, fun id ho => ?_, fun _ => ⟨so', ⟨(hkk _ (by omega) (by omega) (by omega)).trans h1.cm, (hkk _ (by omega) (by omega) (by omega)).trans h1.cr, (hkk _ (by omega) (by omega) (by omega)).trans h1.cb, ?_, (hkk _ (by omega) (by omega) (by omega)).trans h1.de, put_here _ _ _, ?_, by simp only [put_next]; omega⟩, fun _ => Iff.rfl⟩, fun h => by cases h⟩
        · have hno : ¬ OT S.next so id := fun h => g2 ((h2 id).2 h)
          have h5 : ¬ (S.next ≤ id ∧ id < S.next + 6) := fun h => hno (.inl h)
          show ((T3.put (S.next + 3) (.cells 1 [[so'.hv]] true)).put (S.next + 5) (.loop .ready none)).heap id = U.heap id
          rw [put_other _ (by omega), put_other _ (by omega), k4 id (by omega) (fun q hq e => hno (.inr ⟨q, hq, e⟩)), bk id (by omega)]
        · rcases ho with g | ⟨q, g, rfl⟩
          · exact .inl ((h2 id).2 (.inl g))
          · rcases q3 q g with g' | ⟨q0, g1, g2⟩
            · exact .inr (by omega)
            · exact .inl ((h2 _).2 (.inr ⟨q0, g1, g2⟩))
        · show ((T3.put (S.next + 3) (.cells 1 [[so'.hv]] true)).put (S.next + 5) (.loop .ready none)).heap (S.next + 3) = _
          rw [put_other _ (by omega)]; exact put_here _ _ _
        · exact (v3.put_ne (fun q hq e => by have := (v3.lo q hq).1; omega)).put_ne (fun q hq e => by have := (v3.lo q hq).1; omega))
    (OT S.next Sl.nil) S0 ⟨Sl.nil, hI0, fun _ => Iff.rfl⟩ (fun id hid => ⟨fS0.eq id (hK id hid), (fun ho => by
      have := hK id hid
      rcases ho with g | ⟨q, g, _⟩
      · omega
      · cases g), by have := hK id hid; omega⟩)
  have hh' : ∃ so, ToI S.next most xs .ready (xs.map row1).length so S' ∧ ∀ id, O' id ↔ OT S.next so id := by
    rcases hh with h | h
    · exact h
    · exact h.elim
  obtain ⟨so, h1, h2⟩ := hh'
  rw [hlen] at h1
  have hv := h1.vec
  rw [List.take_length] at hv
  erw [e]
  rw [Option.bind_some]
  have e1 : S'.finish (S.next + 5) = some (none, S'.put (S.next + 5) (.loop .exhausted none)) := by simp [HS.finish, h1.lo]
  rw [e1, Option.bind_some]
  simp only [pcode, Option.bind_some, if_true]
  have hlo := hv.lo
  have hnx := h1.nx
  have x3 : (S'.put (S.next + 5) (.loop .exhausted none)).heap (S.next + 3) = .cells 1 [[so.hv]] true := by rw [put_other _ (by omega)]; exact h1.co
  have x1 : (S'.put (S.next + 5) (.loop .exhausted none)).heap (S.next + 1) = .cells 1 [[Sl.nil.hv]] true := by rw [put_other _ (by omega)]; exact h1.cr
  have x2 : (S'.put (S.next + 5) (.loop .exhausted none)).heap (S.next + 2) = .cells 1 [[.bool false]] true := by rw [put_other _ (by omega)]; exact h1.cb
  have x4 : (S'.put (S.next + 5) (.loop .exhausted none)).heap (S.next + 4) = .defer := by rw [put_other _ (by omega)]; exact h1.de
  have xk : ∀ id, id ≠ S.next + 5 → (S'.put (S.next + 5) (.loop .exhausted none)).heap id = S'.heap id := fun id h => put_other _ h
  have xn : (S'.put (S.next + 5) (.loop .exhausted none)).next = S'.next := rfl
  generalize S'.put (S.next + 5) (.loop .exhausted none) = X at x1 x2 x3 x4 xk xn ⊢
  have y2 : (X.put (S.next + 1) (.cells 1 [[so.hv]] true)).heap (S.next + 2) = .cells 1 [[.bool false]] true := by rw [put_other _ (by omega)]; exact x2
  rw [ldSl_cell x3, Option.bind_some, sets_cell _ x1, Option.bind_some, sets_cell _ y2, Option.bind_some]
  have y4 : ((X.put (S.next + 1) (.cells 1 [[so.hv]] true)).put (S.next + 2) (.cells 1 [[.bool true]] true)).heap (S.next + 4) = .defer := by rw [put_other _ (by omega), put_other _ (by omega)]; exact x4
  simp only [HS.leave, y4, Option.bind_some]
  have z1 : (((X.put (S.next + 1) (.cells 1 [[so.hv]] true)).put (S.next + 2) (.cells 1 [[.bool true]] true)).put (S.next + 4) .dead).heap (S.next + 1) = .cells 1 [[so.hv]] true := by rw [put_other _ (by omega), put_other _ (by omega)]; exact put_here _ _ _
  have z2 : (((X.put (S.next + 1) (.cells 1 [[so.hv]] true)).put (S.next + 2) (.cells 1 [[.bool true]] true)).put (S.next + 4) .dead).heap (S.next + 2) = .cells 1 [[.bool true]] true := by rw [put_other _ (by omega)]; exact put_here _ _ _
  rw [ldSl_cell z1, Option.bind_some, ldB_cell z2, Option.bind_some]
  refine ⟨so, _, rfl, rows_keep hv.rows fun q hq => ?_, fun q hq => ⟨by have := hlo q hq; omega, by simp only [put_next]; have := hlo q hq; omega⟩, ⟨by simp only [put_next]; omega, fun id hid => ?_⟩⟩
  · have := hlo q hq
    rw [put_other _ (by omega), put_other _ (by omega), put_other _ (by omega), xk _ (by omega)]
  · rw [put_other _ (by omega), put_other _ (by omega), put_other _ (by omega), xk _ (by omega), k1 id (by omega) (fun ho => by
      rcases ho with g | ⟨q, g, _⟩
      · omega
      · cases g)]
    exact fS0.eq id hid
end KI
end Go.Proofs.Ytpdainofeaombaa.X
