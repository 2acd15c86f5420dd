/- What rollcalllaw11_rights gathers, plain. -/
import Derived.Test.YtdgmehfhgppheaaPsLef
namespace Go.Proofs.Ytdgmehfhgppheaa.X
open Go.Proofs.Ytdgmehfhgppheaa.HL
set_option linter.unusedVariables false
namespace KS.Rights
def Og (b : Nat) (so : Sl) (id : Nat) : Prop := (b ≤ id ∧ id < b + 4) ∨ ∃ q, so.a = some q ∧ q.1 = id
structure Gt (b : Nat) (most : Int) (xs : List Ky) (i : Nat) (so : Sl) (S : HS) : Prop where
  cm : S.heap b = .cells 1 [[.int .i64 most]] true
  cr : S.heap (b + 1) = .cells 1 [[Sl.nil.hv]] true
  cb : S.heap (b + 2) = .cells 1 [[.bool false]] true
  co : S.heap (b + 3) = .cells 1 [[so.hv]] true
  vec : Vec (b + 4) S 1 so ((xs.take i).map row1)
  nx : b + 4 ≤ S.next
theorem Gt.keep {b : Nat} {most : Int} {xs : List Ky} {i : Nat} {so : Sl} {S S' : HS} (h : Gt b most xs i so S) (hk : ∀ id, Og b so id → S'.heap id = S.heap id) (hn : S.next ≤ S'.next) : Gt b most xs i so S' :=
  ⟨(hk _ (.inl ⟨by omega, by omega⟩)).trans h.cm, (hk _ (.inl ⟨by omega, by omega⟩)).trans h.cr, (hk _ (.inl ⟨by omega, by omega⟩)).trans h.cb, (hk _ (.inl ⟨by omega, by omega⟩)).trans h.co, vec_keep h.vec (fun q hq => hk _ (.inr ⟨q, hq, rfl⟩)) hn, Nat.le_trans h.nx hn⟩
theorem Gt.lt {b : Nat} {most : Int} {xs : List Ky} {i : Nat} {so : Sl} {S : HS} (h : Gt b most xs i so S) {id : Nat} (ho : Og b so id) : id < S.next := by
  have := h.nx
  rcases ho with g | ⟨q, g, rfl⟩
  · omega
  · exact (h.vec.lo q g).2
theorem rights_spec {D : Dp} {xs : List Ky} {most : Int} {S : HS} {r : Option HA} {a : Int}
    (hseq : ∀ T, Fr S.next S T → ∃ fn u v S1 K, pair_Rel_int_string_Of.f r a T = some (.fn fn u v, S1) ∧ Tells D (.fn fn u v) (xs.map row1) K S1 ∧ (∀ id, K id → T.next ≤ id ∧ id < S1.next) ∧ Fr T.next T S1) (hm : (xs.length : Int) ≤ most) (hx : xs.length ≤ 100000) :
    ∃ out S', rollcalllaw11_rights.f D (fun _ => none) r a most S = some ((out, true), S') ∧ S'.rows out 1 = some (xs.map row1) ∧ (∀ q, out.a = some q → S.next ≤ q.1 ∧ q.1 < S'.next) ∧ Fr S.next S S' := by
  rw [rollcalllaw11_rights.f, letv, letv, letv, letv]
  simp only [new_next]
  have n4 : ((((S.new (.cells 1 [[.int .i64 most]] true)).new (.cells 1 [[Sl.nil.hv]] true)).new (.cells 1 [[.bool false]] true)).new (.cells 1 [[Sl.nil.hv]] true)).next = S.next + 4 := rfl
  have f4 : Fr S.next S ((((S.new (.cells 1 [[.int .i64 most]] true)).new (.cells 1 [[Sl.nil.hv]] true)).new (.cells 1 [[.bool false]] true)).new (.cells 1 [[Sl.nil.hv]] true)) := (((Fr.new (Nat.le_refl _) _).trans (Fr.new (by simp only [new_next]; omega) _)).trans (Fr.new (by simp only [new_next]; omega) _)).trans (Fr.new (by simp only [new_next]; omega) _)
  have c0 : ((((S.new (.cells 1 [[.int .i64 most]] true)).new (.cells 1 [[Sl.nil.hv]] true)).new (.cells 1 [[.bool false]] true)).new (.cells 1 [[Sl.nil.hv]] true)).heap S.next = .cells 1 [[.int .i64 most]] true := by
    rw [new_old _ (by simp only [new_next]; omega), new_old _ (by simp only [new_next]; omega), new_old _ (by simp only [new_next]; omega)]; exact new_here _ _
  have c1 : ((((S.new (.cells 1 [[.int .i64 most]] true)).new (.cells 1 [[Sl.nil.hv]] true)).new (.cells 1 [[.bool false]] true)).new (.cells 1 [[Sl.nil.hv]] true)).heap (S.next + 1) = .cells 1 [[Sl.nil.hv]] true := by
    rw [new_old _ (by simp only [new_next]; omega), new_old _ (by simp only [new_next]; omega)]; exact new_here (S.new _) _
  have c2 : ((((S.new (.cells 1 [[.int .i64 most]] true)).new (.cells 1 [[Sl.nil.hv]] true)).new (.cells 1 [[.bool false]] true)).new (.cells 1 [[Sl.nil.hv]] true)).heap (S.next + 2) = .cells 1 [[.bool false]] true := by
    rw [new_old _ (by simp only [new_next]; omega)]; exact new_here ((S.new _).new _) _
  have c3 : ((((S.new (.cells 1 [[.int .i64 most]] true)).new (.cells 1 [[Sl.nil.hv]] true)).new (.cells 1 [[.bool false]] true)).new (.cells 1 [[Sl.nil.hv]] true)).heap (S.next + 3) = .cells 1 [[Sl.nil.hv]] true := new_here (((S.new _).new _).new _) _
  rw [show S.next + 1 + 1 + 1 = S.next + 3 from rfl, show S.next + 1 + 1 = S.next + 2 from rfl]
  generalize (((S.new (.cells 1 [[.int .i64 most]] true)).new (.cells 1 [[Sl.nil.hv]] true)).new (.cells 1 [[.bool false]] true)).new (.cells 1 [[Sl.nil.hv]] true) = T at n4 f4 c0 c1 c2 c3 ⊢
  obtain ⟨fn, u, v, S1, K, e1, hT, hK, f1⟩ := hseq T f4
  have l1 := f1.le
  rw [e1, Option.bind_some]
  simp only [HV.isNilFn, Option.bind_some, Bool.false_eq_true, if_false]
  have hlen : (xs.map row1).length = xs.length := by simp
  have hI0 : Gt S.next most xs 0 Sl.nil S1 := ⟨(f1.eq _ (by omega)).trans c0, (f1.eq _ (by omega)).trans c1, (f1.eq _ (by omega)).trans c2, (f1.eq _ (by omega)).trans c3, by rw [List.take_zero]; exact .nil, by omega⟩
  obtain ⟨T2, st, S', O', e2, e3, de, n5, ch, lt, hn, hs⟩ := range_tells (D := D) (H := fun _ => none) (fv := .fn fn u v) (S := S1) (hd := fun vs T =>
      Option.bind (HS.lp T (S1.next + 1)) fun _ => Option.bind (args1 vs) fun ar => Option.bind (dS ar) fun p => rollcalllaw11_rights.J0 D (fun _ => none) (S1.next + 1) (some (HA.cell0 S.next)) (some (HA.cell0 (S.next + 1))) (some (HA.cell0 (S.next + 2))) (some (HA.cell0 (S.next + 3))) p T)
    (bd := fun i U => if h : i < xs.length then Option.bind (U.ldSl (HA.cell0 (S.next + 3))) fun p15 => Option.bind (U.ldI .i64 (HA.cell0 S.next)) fun p17 => if (p15.len : Int) ≥ p17 then
          Option.bind (U.sets (HA.cell0 (S.next + 1)) [Sl.nil.hv]) fun p20 => Option.bind (p20.sets (HA.cell0 (S.next + 2)) [.bool false]) fun p22 => p22.endr (S1.next + 1) (some .ret) else
        Option.bind (U.ldSl (HA.cell0 (S.next + 3))) fun p24 => letv (HS.lit U [[.str xs[i]]] 1) fun p25 => Option.bind (HS.rows p25.2 p25.1 1) fun p26 => Option.bind (HS.app p25.2 p24 p26 1) fun p27 => Option.bind (HS.sets p27.2 (HA.cell0 (S.next + 3)) [p27.1.hv]) fun p29 => HS.endr p29 (S1.next + 1) none else none)
    hT (fun id h => (hK id h).2) (fun i O U => ∃ so, Gt S.next most xs i so U ∧ ∀ id, O id ↔ Og S.next so id) (fun _ _ _ => False)
    (fun i O U U' ⟨so, h1, h2⟩ hk hn => ⟨so, h1.keep (fun id ho => hk id ((h2 id).2 ho)) hn, h2⟩) (fun _ _ _ _ h => h.elim)
    (Og S.next Sl.nil) (fun id h => by
      rcases h with g | ⟨q, g, _⟩
      · omega
      · cases g) ⟨Sl.nil, hI0, fun _ => Iff.rfl⟩ (fun id h hk => by
      have := hK id hk
      rcases h with g | ⟨q, g, _⟩
      · omega
      · cases g)
    (fun i hi U h => by
      have hi' : i < xs.length := by simpa using hi
      rw [lp_at h, Option.bind_some, List.getElem_map, show args1 (row1 xs[i]) = some (kv xs[i]) from rfl, Option.bind_some, show dS (kv xs[i]) = some xs[i] from dS_at _, Option.bind_some, rollcalllaw11_rights.J0, begin_at h, Option.bind_some, Option.bind_some, dif_pos hi']
      rfl)
    (fun i hi O1 U ⟨so, h1, h2⟩ hnu hl hno hlt => by
      have hi' : i < xs.length := by simpa using hi
      have hsl : (so.len : Int) = i := by rw [h1.vec.len]; simp; omega
      have hnx := h1.nx
      have hso : ∀ q, so.a = some q → S.next + 4 ≤ q.1 ∧ q.1 < U.next := fun q hq => h1.vec.lo q hq
      rw [dif_pos hi', ldSl_cell h1.co, Option.bind_some, ldI_cell h1.cm, Option.bind_some, hsl, if_neg (by omega), Option.bind_some, letv]
      have fl : Fr U.next U (U.lit [[.str xs[i]]] 1).2 := lit_fr _ (Nat.le_refl _)
      have lr : (U.lit [[.str xs[i]]] 1).2.rows (U.lit [[.str xs[i]]] 1).1 1 = some [[.str xs[i]]] := (Vec.lit (n := 0) (z := 1) (S := U) _ (Nat.zero_le _)).rows
      have l2 : (U.lit [[.str xs[i]]] 1).2.next = U.next + 1 := rfl
      have v2 : Vec (S.next + 4) (U.lit [[.str xs[i]]] 1).2 1 so ((xs.take i).map row1) := h1.vec.frame fl (Nat.le_refl _)
      obtain ⟨so', T3, e3, v3, f3, k3, q3⟩ := v2.app2 (new := [[.str xs[i]]]) (by omega) (by simp; omega)
      have n3 := f3.le
      have e : ((xs.take (i + 1)).map row1) = ((xs.take i).map row1) ++ [[.str xs[i]]] := by rw [List.take_succ_eq_append_getElem hi', List.map_append]; rfl
      rw [← e] at v3
      have k4 : ∀ id, id < U.next → (∀ q, so.a = some q → q.1 ≠ id) → T3.heap id = U.heap id := fun id g1 g2 => (k3 id (by omega) g2).trans (fl.eq id g1)
      have c3' : T3.heap (S.next + 3) = .cells 1 [[so.hv]] true := by rw [k4 _ (by omega) (fun q hq e => by have := hso q hq; omega)]; exact h1.co
      rw [lr, Option.bind_some, e3, Option.bind_some, sets_cell _ c3', Option.bind_some]
      have hkk : ∀ id, S.next ≤ id → id < S.next + 3 → (T3.put (S.next + 3) (.cells 1 [[so'.hv]] true)).heap id = U.heap id := fun id g1 g2 => by
        rw [put_other _ (by omega), k4 id (by omega) (fun q hq e => by have := hso q hq; omega)]
      have hg : Gt S.next most xs (i + 1) so' (T3.put (S.next + 3) (.cells 1 [[so'.hv]] true)) := ⟨(hkk _ (by omega) (by omega)).trans h1.cm, (hkk _ (by omega) (by omega)).trans h1.cr, (hkk _ (by omega) (by omega)).trans h1.cb, put_here _ _ _, v3.put_ne (fun q hq e => by have := (v3.lo q hq).1; omega), by rw [put_next]; omega⟩
      refine ⟨_, Og S.next so', none, rfl, ⟨by rw [put_next]; omega, fun id g1 g2 => ?_, fun id ho => ?_⟩, fun id ho => hg.lt ho, fun _ => ⟨so', hg, fun _ => Iff.rfl⟩, fun c h => by cases h⟩
      · have hno : ¬ Og S.next so id := fun h => g2 ((h2 id).2 h)
        rw [put_other _ (fun e => hno (.inl ⟨by omega, by omega⟩)), k4 id (by omega) (fun q hq e => hno (.inr ⟨q, hq, e⟩))]
      · rcases ho with g | ⟨q, g, rfl⟩
        · exact .inl ((h2 id).2 (.inl g))
        · rcases q3 q g with g' | ⟨q0, g1, g2⟩
          · exact .inr (by omega)
          · exact .inl ((h2 _).2 (.inr ⟨q0, g1, g2⟩)))
  erw [e2]
  rw [Option.bind_some]
  simp only [e3, Option.bind_some]
  have hle := ch.le
  cases hst : st with
  | some c => exact (hs c hst).elim
  | none =>
    obtain ⟨so, h1, h2⟩ := hn hst
    rw [hlen] at h1
    have hv := h1.vec
    rw [List.take_length] at hv
    have hlo := hv.lo
    have hnx := h1.nx
    simp only [pcode, Option.bind_some, if_true]
    have y2 : (S'.put (S.next + 1) (.cells 1 [[so.hv]] true)).heap (S.next + 2) = .cells 1 [[.bool false]] true := by rw [put_other _ (by omega)]; exact h1.cb
    rw [ldSl_cell h1.co, Option.bind_some, sets_cell _ h1.cr, Option.bind_some, sets_cell _ y2, Option.bind_some]
    have y4 : ((S'.put (S.next + 1) (.cells 1 [[so.hv]] true)).put (S.next + 2) (.cells 1 [[.bool true]] true)).heap S1.next = .defer := by rw [put_other _ (by omega), put_other _ (by omega)]; exact de
    simp only [HS.leave, y4, Option.bind_some]
    have z1 : (((S'.put (S.next + 1) (.cells 1 [[so.hv]] true)).put (S.next + 2) (.cells 1 [[.bool true]] true)).put S1.next .dead).heap (S.next + 1) = .cells 1 [[so.hv]] true := by rw [put_other _ (by omega), put_other _ (by omega)]; exact put_here _ _ _
    have z2 : (((S'.put (S.next + 1) (.cells 1 [[so.hv]] true)).put (S.next + 2) (.cells 1 [[.bool true]] true)).put S1.next .dead).heap (S.next + 2) = .cells 1 [[.bool true]] true := by rw [put_other _ (by omega)]; exact put_here _ _ _
    rw [ldSl_cell z1, Option.bind_some, ldB_cell z2, Option.bind_some]
    refine ⟨so, _, rfl, rows_keep hv.rows fun q hq => ?_, fun q hq => ⟨by have := hlo q hq; omega, by simp only [put_next]; exact (hlo q hq).2⟩, ⟨by simp only [put_next]; omega, fun id hid => ?_⟩⟩
    · have := hlo q hq
      have := (lt q.1 ((h2 _).2 (.inr ⟨q, hq, rfl⟩))).1
      rw [put_other _ (by omega), put_other _ (by omega), put_other _ (by omega)]
    · rw [put_other _ (by omega), put_other _ (by omega), put_other _ (by omega), ch.eq id (by omega) (fun ho => by
        rcases ho with g | ⟨q, g, _⟩
        · omega
        · cases g), f1.eq id (by omega)]
      exact f4.eq id hid
end KS.Rights
end Go.Proofs.Ytdgmehfhgppheaa.X
