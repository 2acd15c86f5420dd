/- The layer caps: ranges over all capabilities, the texts of some, plain. -/
import Derived.Test.YtpomdkjabebmcaaDoorCqRef
namespace Go.Proofs.YtpomdkjabebmcaaDoor.X
open Go.Proofs.YtpomdkjabebmcaaDoor.HL
set_option linter.unusedVariables false
def nm : Nat → List UInt8
  | 0 => away
  | 1 => echo
  | _ => multi
def nu : Nat → Int
  | 0 => 1
  | 1 => 2
  | _ => 4
/-- A range over all capabilities: a step of the handler each, or a stop. -/
theorem range_all {k n l : Nat} {T : HS} {hd : List HV → HS → Option (HV × HS)} (P : Nat → HS → Prop) (Q : HS → Prop)
    (step : ∀ i, i < 3 → ∀ U, P i U → ∃ U', (hd [.str (nm i), .int .i64 (nu i)] U = some (.bool true, U') ∧ P (i + 1) U') ∨ (hd [.str (nm i), .int .i64 (nu i)] U = some (.bool false, U') ∧ Q U')) (h0 : P 0 T) :
    ∃ T', disp k (n + 2) (Hd.set (fun _ => none) l hd) (.fn (.func 20) [] []) [.fn (.yield l) [] []] T = some (.tup [], T') ∧ (P 3 T' ∨ Q T') := by
  have hdd : ∀ (vs : List HV) (U : HS), disp k (n + 1) (Hd.set (fun _ => none) l hd) (.fn (.yield l) [] []) vs U = hd vs U := fun vs U => by
    rw [disp_yield]; simp [Hd.set]
  rw [disp_func]
  simp only [if_true]
  rw [call_20]
  simp only [List.nil_append, List.append_nil, args1, Option.bind_some, dF]
  unfold caps_All_1.f
  rw [show ([97, 119, 97, 121, 45, 110, 111, 116, 105, 102, 121] : List UInt8) = nm 0 from rfl, show ([101, 99, 104, 111, 45, 109, 101, 115, 115, 97, 103, 101] : List UInt8) = nm 1 from rfl]
  rw [show (1 : Int) = nu 0 from rfl, show (2 : Int) = nu 1 from rfl, hdd]
  obtain ⟨T1, ⟨e1, h1⟩ | ⟨e1, h1⟩⟩ := step 0 (by omega) T h0
  · rw [e1, Option.bind_some]
    simp only [dB, Option.bind_some, if_true]
    rw [hdd]
    obtain ⟨T2, ⟨e2, h2⟩ | ⟨e2, h2⟩⟩ := step 1 (by omega) T1 h1
    · rw [e2, Option.bind_some, Option.bind_some, caps_All_1.J0, if_pos rfl]
      rw [show ([109, 117, 108, 116, 105, 45, 112, 114, 101, 102, 105, 120] : List UInt8) = nm 2 from rfl, show (4 : Int) = nu 2 from rfl, hdd]
      obtain ⟨T3, ⟨e3, h3⟩ | ⟨e3, h3⟩⟩ := step 2 (by omega) T2 h2
      · rw [e3, Option.bind_some]
        simp only [dB, Option.bind_some, caps_All_1.J1]
        exact ⟨T3, rfl, .inl h3⟩
      · rw [e3, Option.bind_some]
        simp only [dB, Option.bind_some, caps_All_1.J1]
        exact ⟨T3, rfl, .inr h3⟩
    · rw [e2, Option.bind_some, Option.bind_some, caps_All_1.J0, if_neg (by simp), caps_All_1.J1]
      exact ⟨T2, rfl, .inr h2⟩
  · rw [e1, Option.bind_some]
    simp only [dB, Option.bind_some]
    rw [if_neg (by simp), caps_All_1.J0, if_neg (by simp), caps_All_1.J1]
    exact ⟨T1, rfl, .inr h1⟩
def hasB (h n : Int) : Bool := !decide (iand .i64 h n = 0)
def acc (h : Int) : Nat → List (List UInt8)
  | 0 => []
  | i + 1 => if hasB h (nu i) = true then acc h i ++ [nm i] else acc h i
theorem acc_len (h : Int) (i : Nat) : (acc h i).length ≤ i := by
  induction i with
  | zero => simp [acc]
  | succ i ih =>
    unfold acc
    split
    · simp; omega
    · omega
structure TI (S : HS) (n0 : Nat) (h : Int) (i : Nat) (T : HS) : Prop where
  cH : T.heap n0 = .cells 1 [[.int .i64 h]] true
  cV : ∃ sl, T.heap (n0 + 1) = .cells 1 [[sl.hv]] true ∧ Vec (n0 + 4) T 1 sl ((acc h i).map strRow)
  cD : T.heap (n0 + 2) = .defer
  cL : T.heap (n0 + 3) = .loop .ready none
  fr : Fr n0 S T
  nx : n0 + 4 ≤ T.next
def handT (n0 : Nat) (D : Dp) (H : Hd) : List HV → HS → Option (HV × HS) := fun vs T =>
  Option.bind (HS.lp T (n0 + 3)) fun _ => Option.bind (args2 vs) fun ar => Option.bind (dS ar.1) fun p16 => Option.bind (dI .i64 ar.2) fun p17 =>
  caps_Text.J0 D H (n0 + 3) (some (HA.cell0 n0)) (some (HA.cell0 (n0 + 1))) p16 p17 T
theorem handT_step {S : HS} {n0 : Nat} {h : Int} {D : Dp} {H : Hd} {i : Nat} (hi : i < 3) {T : HS} (hT : TI S n0 h i T) :
    ∃ T', handT n0 D H [.str (nm i), .int .i64 (nu i)] T = some (.bool true, T') ∧ TI S n0 h (i + 1) T' := by
  obtain ⟨sl, cV, vec⟩ := hT.cV
  have nx := hT.nx
  rw [handT, lp_at hT.cL]
  simp only [Option.bind_some, args2, dS, dI, if_true]
  rw [caps_Text.J0, begin_at hT.cL, Option.bind_some, Option.bind_some]
  have b0 : (T.put (n0 + 3) (.loop .busy none)).heap n0 = .cells 1 [[.int .i64 h]] true := by rw [put_other _ (by omega)]; exact hT.cH
  have b1 : (T.put (n0 + 3) (.loop .busy none)).heap (n0 + 1) = .cells 1 [[sl.hv]] true := by rw [put_other _ (by omega)]; exact cV
  have b2 : (T.put (n0 + 3) (.loop .busy none)).heap (n0 + 2) = .defer := by rw [put_other _ (by omega)]; exact hT.cD
  have b3 : (T.put (n0 + 3) (.loop .busy none)).heap (n0 + 3) = .loop .busy none := put_here _ _ _
  have bv : Vec (n0 + 4) (T.put (n0 + 3) (.loop .busy none)) 1 sl ((acc h i).map strRow) := vec.put_ne fun q hq => by have := vec.lo q hq; omega
  have bf : Fr n0 S (T.put (n0 + 3) (.loop .busy none)) := hT.fr.trans (Fr.put (by omega) _)
  have bn : (T.put (n0 + 3) (.loop .busy none)).next = T.next := rfl
  generalize T.put (n0 + 3) (.loop .busy none) = U at b0 b1 b2 b3 bv bf bn
  rw [ldI_cell b0, Option.bind_some]
  by_cases hc : hasB h (nu i) = true
  · have ea : acc h (i + 1) = acc h i ++ [nm i] := by rw [acc, if_pos hc]
    have hc' : (!decide (iand .i64 h (nu i) = 0)) = true := hc
    rw [if_pos hc', Option.bind_some, ldSl_cell b1, Option.bind_some, letv]
    have l2 : (U.lit [[.str (nm i)]] 1).2.rows (U.lit [[.str (nm i)]] 1).1 1 = some [[.str (nm i)]] := (Vec.lit (n := n0 + 4) (z := 1) (S := U) [[.str (nm i)]] (by omega)).rows
    have lf : Fr U.next U (U.lit [[.str (nm i)]] 1).2 := lit_fr _ (Nat.le_refl _)
    have ln : U.next ≤ (U.lit [[.str (nm i)]] 1).2.next := lf.le
    have lv : Vec (n0 + 4) (U.lit [[.str (nm i)]] 1).2 1 sl ((acc h i).map strRow) := bv.frame lf (Nat.le_refl _)
    rw [l2, Option.bind_some]
    obtain ⟨s', S', e1, v1, f1, k1, q1⟩ := lv.app2 (new := [[.str (nm i)]]) (by omega) (by have := acc_len h i; simp; omega)
    rw [e1, Option.bind_some, Option.bind_some]
    have hsl : ∀ id, id < n0 + 4 → ∀ q, sl.a = some q → q.1 ≠ id := fun id hid q hq => by have := vec.lo q hq; omega
    have g : ∀ id, id < n0 + 4 → S'.heap id = U.heap id := fun id hid => by rw [k1 id (by omega) (hsl id hid), lf.eq id (by omega)]
    have v1' : Vec (n0 + 4) S' 1 s' ((acc h (i + 1)).map strRow) := by rw [ea, List.map_append]; exact v1
    rw [sets_cell _ ((g _ (by omega)).trans b1), Option.bind_some, caps_Text.J1]
    have c3 : (S'.put (n0 + 1) (.cells 1 [[s'.hv]] true)).heap (n0 + 3) = .loop .busy none := by rw [put_other _ (by omega), g _ (by omega)]; exact b3
    rw [endr_at none c3]
    have f1l := f1.le
    refine ⟨_, rfl, ?_, ⟨s', ?_, ?_⟩, ?_, put_here _ _ _, ?_, ?_⟩
    · rw [put_other _ (by omega), put_other _ (by omega), g _ (by omega)]; exact b0
    · rw [put_other _ (by omega)]; exact put_here _ _ _
    · exact (v1'.put_ne fun q hq => by have := v1'.lo q hq; omega).put_ne fun q hq => by have := v1'.lo q hq; omega
    · rw [put_other _ (by omega), put_other _ (by omega), g _ (by omega)]; exact b2
    · exact (((bf.trans (lf.mono (by omega))).trans (f1.mono (by omega))).trans (Fr.put (by omega) _)).trans (Fr.put (by omega) _)
    · simp only [put_next]; omega
  · have ea : acc h (i + 1) = acc h i := by rw [acc, if_neg hc]
    have hc' : ¬ ((!decide (iand .i64 h (nu i) = 0)) = true) := hc
    rw [if_neg hc', caps_Text.J1, endr_at none b3]
    refine ⟨_, rfl, ?_, ⟨sl, ?_, ?_⟩, ?_, put_here _ _ _, ?_, ?_⟩
    · rw [put_other _ (by omega)]; exact b0
    · rw [put_other _ (by omega)]; exact b1
    · rw [ea]; exact bv.put_ne fun q hq => by have := vec.lo q hq; omega
    · rw [put_other _ (by omega)]; exact b2
    · exact bf.trans (Fr.put (by omega) _)
    · simp only [put_next]; omega
theorem strsOf_map (xs : List (List UInt8)) : strings_Join.strsOf (xs.map strRow) = some xs := by
  induction xs with
  | nil => rfl
  | cons x xs ih =>
    simp only [strings_Join.strsOf, List.map_cons, List.mapM_cons, strRow] at ih ⊢
    simp only [ih]
    rfl
theorem text_spec {k : Nat} {h : Int} {S : HS} (hl : (Lib.join (acc h 3) [32]).length ≤ 1000) : ∃ S', caps_Text.f (disp k 4) (fun _ => none) h S = some (Lib.join (acc h 3) [32], S') ∧ Fr S.next S S' := by
  unfold caps_Text.f caps_All.f
  simp only [letv, Option.bind_some]
  have n2 : ((S.new (.cells 1 [[.int .i64 h]] true)).new (.cells 1 [[Sl.nil.hv]] true)).next = S.next + 2 := rfl
  have f2 : Fr S.next S ((S.new (.cells 1 [[.int .i64 h]] true)).new (.cells 1 [[Sl.nil.hv]] true)) := (Fr.new (Nat.le_refl _) _).trans (Fr.new (by simp only [new_next]; omega) _)
  have h0 : ((S.new (.cells 1 [[.int .i64 h]] true)).new (.cells 1 [[Sl.nil.hv]] true)).heap S.next = .cells 1 [[.int .i64 h]] true := by rw [new_old _ (by simp only [new_next]; omega)]; exact new_here _ _
  have h1 : ((S.new (.cells 1 [[.int .i64 h]] true)).new (.cells 1 [[Sl.nil.hv]] true)).heap (S.next + 1) = .cells 1 [[Sl.nil.hv]] true := new_here (S.new _) _
  simp only [new_next]
  generalize (S.new (.cells 1 [[.int .i64 h]] true)).new (.cells 1 [[Sl.nil.hv]] true) = A at n2 f2 h0 h1 ⊢
  have n6 : ((A.new .defer).new (.loop .ready none)).next = A.next + 2 := rfl
  have f6 : Fr A.next A ((A.new .defer).new (.loop .ready none)) := (Fr.new (Nat.le_refl _) _).trans (Fr.new (by rw [new_next]; omega) _)
  have d6 : ((A.new .defer).new (.loop .ready none)).heap A.next = .defer := by rw [new_old _ (by rw [new_next]; omega)]; exact new_here _ _
  have l6 : ((A.new .defer).new (.loop .ready none)).heap (A.next + 1) = .loop .ready none := new_here (A.new .defer) _
  generalize (A.new .defer).new (.loop .ready none) = C at n6 f6 d6 l6 ⊢
  rw [n2] at n6 d6 l6
  have hI : TI S S.next h 0 C := by
    refine ⟨?_, ⟨Sl.nil, ?_, .nil⟩, d6, l6, f2.trans (f6.mono (by omega)), by omega⟩
    · rw [f6.eq _ (by omega)]; exact h0
    · rw [f6.eq _ (by omega)]; exact h1
  obtain ⟨T, e7, hT⟩ := range_all (k := k) (n := 2) (l := S.next + 3) (hd := handT S.next (disp k 4) (fun _ => none)) (TI S S.next h) (fun _ => False) (fun i hi U hU => by
    obtain ⟨U', e, g⟩ := handT_step (D := disp k 4) (H := fun _ => none) hi hU
    exact ⟨U', .inl ⟨e, g⟩⟩) hI
  erw [e7]
  rw [Option.bind_some]
  rcases hT with hT | hT
  · obtain ⟨sl, cV, vec⟩ := hT.cV
    have nx := hT.nx
    have e8 : T.finish (S.next + 2 + 1) = some (none, T.put (S.next + 3) (.loop .exhausted none)) := by simp [HS.finish, hT.cL]
    simp only [e8, Option.bind_some, pcode, if_true]
    have g1 : (T.put (S.next + 3) (.loop .exhausted none)).heap (S.next + 1) = .cells 1 [[sl.hv]] true := by rw [put_other _ (by omega)]; exact cV
    have gd : (T.put (S.next + 3) (.loop .exhausted none)).heap (S.next + 2) = .defer := by rw [put_other _ (by omega)]; exact hT.cD
    have gv : Vec (S.next + 4) (T.put (S.next + 3) (.loop .exhausted none)) 1 sl ((acc h 3).map strRow) := vec.put_ne fun q hq => by have := vec.lo q hq; omega
    have gf : Fr S.next S (T.put (S.next + 3) (.loop .exhausted none)) := hT.fr.trans (Fr.put (by omega) _)
    generalize T.put (S.next + 3) (.loop .exhausted none) = U at g1 gd gv gf ⊢
    rw [ldSl_cell g1, Option.bind_some, strings_Join.f, gv.rows, Option.bind_some, strsOf_map, Option.bind_some, if_pos ⟨by have := acc_len h 3; omega, by omega⟩, Option.bind_some]
    simp only [HS.leave, gd, Option.bind_some]
    exact ⟨_, rfl, gf.trans (Fr.put (by omega) _)⟩
  · exact hT.elim
/-! ### is one among some? -/
def hasOne (h one : Int) : Bool := if one = 1 ∨ one = 2 ∨ one = 4 then hasB h one else false
structure OI (S : HS) (n0 : Nat) (h one : Int) (i : Nat) (T : HS) : Prop where
  cH : T.heap n0 = .cells 1 [[.int .i64 h]] true
  cO : T.heap (n0 + 1) = .cells 1 [[.int .i64 one]] true
  cR : T.heap (n0 + 2) = .cells 1 [[.bool false]] true
  cD : T.heap (n0 + 3) = .defer
  cL : T.heap (n0 + 4) = .loop .ready none
  no : ∀ j, j < i → nu j ≠ one
  fr : Fr n0 S T
  nx : n0 + 5 ≤ T.next
structure OD (S : HS) (n0 : Nat) (h one : Int) (T : HS) : Prop where
  cR : T.heap (n0 + 2) = .cells 1 [[.bool (hasB h one)]] true
  cD : T.heap (n0 + 3) = .defer
  cL : T.heap (n0 + 4) = .loop .done (some .ret)
  is : ∃ j, j < 3 ∧ nu j = one
  fr : Fr n0 S T
  nx : n0 + 5 ≤ T.next
def handO (n0 : Nat) (D : Dp) (H : Hd) : List HV → HS → Option (HV × HS) := fun vs T =>
  Option.bind (HS.lp T (n0 + 4)) fun _ => Option.bind (args2 vs) fun ar => Option.bind (dS ar.1) fun p16 => Option.bind (dI .i64 ar.2) fun p17 =>
  caps_Has.J0 D H (n0 + 4) (some (HA.cell0 n0)) (some (HA.cell0 (n0 + 1))) (some (HA.cell0 (n0 + 2))) p17 T
theorem handO_step {S : HS} {n0 : Nat} {h one : Int} {D : Dp} {H : Hd} {i : Nat} (hi : i < 3) {T : HS} (hT : OI S n0 h one i T) :
    ∃ T', (handO n0 D H [.str (nm i), .int .i64 (nu i)] T = some (.bool true, T') ∧ OI S n0 h one (i + 1) T') ∨ (handO n0 D H [.str (nm i), .int .i64 (nu i)] T = some (.bool false, T') ∧ OD S n0 h one T') := by
  have nx := hT.nx
  rw [handO, lp_at hT.cL]
  simp only [Option.bind_some, args2, dS, dI, if_true]
  rw [caps_Has.J0, begin_at hT.cL, Option.bind_some, Option.bind_some]
  have b0 : (T.put (n0 + 4) (.loop .busy none)).heap n0 = .cells 1 [[.int .i64 h]] true := by rw [put_other _ (by omega)]; exact hT.cH
  have b1 : (T.put (n0 + 4) (.loop .busy none)).heap (n0 + 1) = .cells 1 [[.int .i64 one]] true := by rw [put_other _ (by omega)]; exact hT.cO
  have b2 : (T.put (n0 + 4) (.loop .busy none)).heap (n0 + 2) = .cells 1 [[.bool false]] true := by rw [put_other _ (by omega)]; exact hT.cR
  have b3 : (T.put (n0 + 4) (.loop .busy none)).heap (n0 + 3) = .defer := by rw [put_other _ (by omega)]; exact hT.cD
  have b4 : (T.put (n0 + 4) (.loop .busy none)).heap (n0 + 4) = .loop .busy none := put_here _ _ _
  have bf : Fr n0 S (T.put (n0 + 4) (.loop .busy none)) := hT.fr.trans (Fr.put (by omega) _)
  have bn : (T.put (n0 + 4) (.loop .busy none)).next = T.next := rfl
  generalize T.put (n0 + 4) (.loop .busy none) = U at b0 b1 b2 b3 b4 bf bn
  simp only [ldI_cell b1, ldI_cell b0, Option.bind_some, sets_cell _ b2]
  by_cases hc : nu i = one
  · rw [if_pos hc]
    have c4 : (U.put (n0 + 2) (.cells 1 [[.bool (!decide (iand .i64 h one = 0))]] true)).heap (n0 + 4) = .loop .busy none := by rw [put_other _ (by omega)]; exact b4
    rw [endr_at (some .ret) c4]
    refine ⟨_, .inr ⟨rfl, ?_, ?_, put_here _ _ _, ⟨i, hi, hc⟩, ?_, ?_⟩⟩
    · rw [put_other _ (by omega)]; exact put_here _ _ _
    · rw [put_other _ (by omega), put_other _ (by omega)]; exact b3
    · exact (bf.trans (Fr.put (by omega) _)).trans (Fr.put (by omega) _)
    · simp only [put_next]; omega
  · rw [if_neg hc, endr_at none b4]
    refine ⟨_, .inl ⟨rfl, ?_, ?_, ?_, ?_, put_here _ _ _, ?_, ?_, ?_⟩⟩
    · rw [put_other _ (by omega)]; exact b0
    · rw [put_other _ (by omega)]; exact b1
    · rw [put_other _ (by omega)]; exact b2
    · rw [put_other _ (by omega)]; exact b3
    · intro j hj
      by_cases e : j = i
      · subst e; exact hc
      · exact hT.no j (by omega)
    · exact bf.trans (Fr.put (by omega) _)
    · simp only [put_next]; omega
theorem has_spec {k : Nat} {h one : Int} {S : HS} : ∃ S', caps_Has.f (disp k 4) (fun _ => none) h one S = some (hasOne h one, S') ∧ Fr S.next S S' := by
  unfold caps_Has.f caps_All.f
  simp only [letv, Option.bind_some]
  have n3 : (((S.new (.cells 1 [[.int .i64 h]] true)).new (.cells 1 [[.int .i64 one]] true)).new (.cells 1 [[.bool false]] true)).next = S.next + 3 := rfl
  have f3 : Fr S.next S (((S.new (.cells 1 [[.int .i64 h]] true)).new (.cells 1 [[.int .i64 one]] true)).new (.cells 1 [[.bool false]] true)) := ((Fr.new (Nat.le_refl _) _).trans (Fr.new (by simp only [new_next]; omega) _)).trans (Fr.new (by simp only [new_next]; omega) _)
  have h0 : (((S.new (.cells 1 [[.int .i64 h]] true)).new (.cells 1 [[.int .i64 one]] true)).new (.cells 1 [[.bool false]] true)).heap S.next = .cells 1 [[.int .i64 h]] true := by rw [new_old _ (by simp only [new_next]; omega), new_old _ (by simp only [new_next]; omega)]; exact new_here _ _
  have h1 : (((S.new (.cells 1 [[.int .i64 h]] true)).new (.cells 1 [[.int .i64 one]] true)).new (.cells 1 [[.bool false]] true)).heap (S.next + 1) = .cells 1 [[.int .i64 one]] true := by rw [new_old _ (by simp only [new_next]; omega)]; exact new_here (S.new _) _
  have h2 : (((S.new (.cells 1 [[.int .i64 h]] true)).new (.cells 1 [[.int .i64 one]] true)).new (.cells 1 [[.bool false]] true)).heap (S.next + 2) = .cells 1 [[.bool false]] true := new_here ((S.new _).new _) _
  simp only [new_next]
  generalize ((S.new (.cells 1 [[.int .i64 h]] true)).new (.cells 1 [[.int .i64 one]] true)).new (.cells 1 [[.bool false]] true) = A at n3 f3 h0 h1 h2 ⊢
  have n6 : ((A.new .defer).new (.loop .ready none)).next = A.next + 2 := rfl
  have f6 : Fr A.next A ((A.new .defer).new (.loop .ready none)) := (Fr.new (Nat.le_refl _) _).trans (Fr.new (by rw [new_next]; omega) _)
  have d6 : ((A.new .defer).new (.loop .ready none)).heap A.next = .defer := by rw [new_old _ (by rw [new_next]; omega)]; exact new_here _ _
  have l6 : ((A.new .defer).new (.loop .ready none)).heap (A.next + 1) = .loop .ready none := new_here (A.new .defer) _
  generalize (A.new .defer).new (.loop .ready none) = C at n6 f6 d6 l6 ⊢
  rw [n3] at n6 d6 l6
  have hI : OI S S.next h one 0 C := by
    refine ⟨?_, ?_, ?_, d6, l6, fun j hj => by omega, f3.trans (f6.mono (by omega)), by omega⟩
    · rw [f6.eq _ (by omega)]; exact h0
    · rw [f6.eq _ (by omega)]; exact h1
    · rw [f6.eq _ (by omega)]; exact h2
  obtain ⟨T, e7, hT⟩ := range_all (k := k) (n := 2) (l := S.next + 4) (hd := handO S.next (disp k 4) (fun _ => none)) (OI S S.next h one) (OD S S.next h one) (fun i hi U hU => handO_step hi hU) hI
  erw [e7]
  rw [Option.bind_some]
  rcases hT with hT | hT
  · have hone : hasOne h one = false := by
      have a0 := hT.no 0 (by omega)
      have a1 := hT.no 1 (by omega)
      have a2 := hT.no 2 (by omega)
      simp only [nu] at a0 a1 a2
      unfold hasOne
      rw [if_neg (by rintro (e | e | e) <;> omega)]
    have e8 : T.finish (S.next + 3 + 1) = some (none, T.put (S.next + 4) (.loop .exhausted none)) := by simp [HS.finish, hT.cL]
    simp only [e8, Option.bind_some, pcode, if_true]
    have g1 : (T.put (S.next + 4) (.loop .exhausted none)).heap (S.next + 2) = .cells 1 [[.bool false]] true := by rw [put_other _ (by omega)]; exact hT.cR
    have gd : (T.put (S.next + 4) (.loop .exhausted none)).heap (S.next + 3) = .defer := by rw [put_other _ (by omega)]; exact hT.cD
    have gf : Fr S.next S (T.put (S.next + 4) (.loop .exhausted none)) := hT.fr.trans (Fr.put (by omega) _)
    generalize T.put (S.next + 4) (.loop .exhausted none) = U at g1 gd gf ⊢
    rw [sets_cell _ g1, Option.bind_some]
    have cd : (U.put (S.next + 2) (.cells 1 [[.bool false]] true)).heap (S.next + 3) = .defer := by rw [put_other _ (by omega)]; exact gd
    simp only [HS.leave, cd, Option.bind_some]
    have k1 : ((U.put (S.next + 2) (.cells 1 [[.bool false]] true)).put (S.next + 3) .dead).heap (S.next + 2) = .cells 1 [[.bool false]] true := by rw [put_other _ (by omega)]; exact put_here _ _ _
    rw [ldB_cell k1, Option.bind_some, hone]
    exact ⟨_, rfl, (gf.trans (Fr.put (by omega) _)).trans (Fr.put (by omega) _)⟩
  · have hone : hasOne h one = hasB h one := by
      obtain ⟨j, hj, e⟩ := hT.is
      unfold hasOne
      rw [if_pos]
      have : j = 0 ∨ j = 1 ∨ j = 2 := by omega
      rcases this with rfl | rfl | rfl <;> simp [nu] at e <;> omega
    have e8 : T.finish (S.next + 3 + 1) = some (some .ret, T.put (S.next + 4) (.loop .exhausted (some .ret))) := by simp [HS.finish, hT.cL]
    simp only [e8, Option.bind_some, pcode, if_true]
    rw [if_neg (by decide)]
    have g1 : (T.put (S.next + 4) (.loop .exhausted (some .ret))).heap (S.next + 2) = .cells 1 [[.bool (hasB h one)]] true := by rw [put_other _ (by omega)]; exact hT.cR
    have gd : (T.put (S.next + 4) (.loop .exhausted (some .ret))).heap (S.next + 3) = .defer := by rw [put_other _ (by omega)]; exact hT.cD
    have gf : Fr S.next S (T.put (S.next + 4) (.loop .exhausted (some .ret))) := hT.fr.trans (Fr.put (by omega) _)
    generalize T.put (S.next + 4) (.loop .exhausted (some .ret)) = U at g1 gd gf ⊢
    simp only [HS.leave, gd, Option.bind_some]
    have k1 : (U.put (S.next + 3) .dead).heap (S.next + 2) = .cells 1 [[.bool (hasB h one)]] true := by rw [put_other _ (by omega)]; exact g1
    rw [ldB_cell k1, Option.bind_some, hone]
    exact ⟨_, rfl, gf.trans (Fr.put (by omega) _)⟩
end Go.Proofs.YtpomdkjabebmcaaDoor.X
