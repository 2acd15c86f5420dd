/- The layer caps: CapsTexts, plain. -/
import Derived.Test.YtpomdkjabebmcaaDoorCtRange
namespace Go.Proofs.YtpomdkjabebmcaaDoor.X
open Go.Proofs.YtpomdkjabebmcaaDoor.HL
set_option linter.unusedVariables false
/-- The three lowest bits of a number. -/
theorem low_bits (x : Int) : ∃ m : Nat, m < 8 ∧ iand .i64 x 7 = (m : Int) ∧ iand .i64 x 1 = iand .i64 (m : Int) 1 ∧ iand .i64 x 2 = iand .i64 (m : Int) 2 ∧ iand .i64 x 4 = iand .i64 (m : Int) 4 := by
  refine ⟨(B x).toNat % 8, Nat.mod_lt _ (by decide), ?_⟩
  have hlt : (B x).toNat % 8 < 8 := Nat.mod_lt _ (by decide)
  have e7 : B x &&& 7#64 = BitVec.ofNat 64 ((B x).toNat % 8) := by
    apply BitVec.eq_of_toNat_eq
    rw [BitVec.toNat_and, BitVec.toNat_ofNat, BitVec.toNat_ofNat, show 7 % 2 ^ 64 = 2 ^ 3 - 1 from rfl, Nat.and_two_pow_sub_one_eq_mod]
    have : (B x).toNat % 8 < 2 ^ 64 := by omega
    rw [Nat.mod_eq_of_lt this]
  have bm : ∀ i, i < 3 → (B ((B x).toNat % 8 : Nat)).getLsbD i = (B x).getLsbD i := fun i hi => by
    have : B (((B x).toNat % 8 : Nat) : Int) = B x &&& 7#64 := by rw [e7, B, BitVec.ofInt_natCast]
    rw [this, BitVec.getLsbD_and]
    have : i = 0 ∨ i = 1 ∨ i = 2 := by omega
    rcases this with rfl | rfl | rfl <;> simp
  refine ⟨?_, ?_, ?_, ?_⟩
  · rw [iand_is, show B 7 = 7#64 from rfl, e7]
    have : ∀ m : Nat, m < 8 → I (BitVec.ofNat 64 m) = (m : Int) := by decide
    exact this _ hlt
  · rw [iand_is, iand_is, show B 1 = BitVec.twoPow 64 0 from by decide, BitVec.and_twoPow, BitVec.and_twoPow, bm 0 (by omega)]
  · rw [iand_is, iand_is, show B 2 = BitVec.twoPow 64 1 from by decide, BitVec.and_twoPow, BitVec.and_twoPow, bm 1 (by omega)]
  · rw [iand_is, iand_is, show B 4 = BitVec.twoPow 64 2 from by decide, BitVec.and_twoPow, BitVec.and_twoPow, bm 2 (by omega)]
/-- What the document's text is, of a number below eight. -/
theorem acc_low {x : Int} {m : Nat} (h1 : iand .i64 x 1 = iand .i64 (m : Int) 1) (h2 : iand .i64 x 2 = iand .i64 (m : Int) 2) (h4 : iand .i64 x 4 = iand .i64 (m : Int) 4) : acc x 3 = acc m 3 := by
  simp only [acc, nu, hasB, h1, h2, h4]
def rtext (h : Int) : List UInt8 :=
  let a := if iand .i64 h 1 = 1 then away else []
  let b := if iand .i64 h 2 = 2 then (if a = [] then echo else a ++ [32] ++ echo) else a
  if iand .i64 h 4 = 4 then (if b = [] then multi else b ++ [32] ++ multi) else b
theorem rtext_low {x : Int} {m : Nat} (h1 : iand .i64 x 1 = iand .i64 (m : Int) 1) (h2 : iand .i64 x 2 = iand .i64 (m : Int) 2) (h4 : iand .i64 x 4 = iand .i64 (m : Int) 4) : rtext x = rtext m := by
  simp only [rtext, h1, h2, h4]
theorem low_all : ∀ m : Nat, m < 8 → Lib.join (acc (m : Int) 3) [32] = rtext (m : Int) ∧ (rtext (m : Int)).length ≤ 60 ∧ app 0 (rtext (m : Int)) = ((m : Int), true) := by decide
theorem refText_spec {h : Int} {S : HS} : ∃ S', rollcallref12_Text.f 2000 h S = some (rtext h, S') ∧ Fr S.next S S' := by
  unfold rollcallref12_Text.f
  have w2 : w64 ((0 : Int) + 1) = 1 := by decide
  have w4 : w64 ((1 : Int) + 1) = 2 := by decide
  have w5 : w64 ((2 : Int) + 1) = 3 := by decide
  obtain ⟨S1, e1, f1⟩ := names_spec (S := S)
  obtain ⟨S2, e2, f2⟩ := refNumber_spec (k := 1996) (w := away) (S := S1)
  have a1 : num away = 1 := by decide
  have a2 : num echo = 2 := by decide
  have a4 : num multi = 4 := by decide
  rw [a1] at e2
  have f12 : Fr S.next S S2 := f1.trans (f2.mono f1.le)
  -- the third name
  have third : ∀ (t : List UInt8) (U : HS) (fU : Fr S.next S U) (ht : t.length ≤ 100), ∃ S', rollcallref12_Text.L0 2000 1998 h t 2 U = some (if iand .i64 h 4 = 4 then (if t = [] then multi else t ++ [32] ++ multi) else t, S') ∧ Fr S.next S S' := by
    intro t U fU ht
    obtain ⟨U1, g1, k1⟩ := names_spec (S := U)
    obtain ⟨U2, g2, k2⟩ := refNumber_spec (k := 1996) (w := multi) (S := U1)
    obtain ⟨U3, g3, k3⟩ := names_spec (S := U2)
    rw [a4] at g2
    have fl := fU.le
    have k1l := k1.le
    have k2l := k2.le
    have q2 : Fr S.next S U2 := (fU.trans (k1.mono fl)).trans (k2.mono (by omega))
    have q3 : Fr S.next S U3 := q2.trans (k3.mono (by omega))
    rw [rollcallref12_Text.L0, if_pos (by decide), g1, Option.bind_some, if_pos (by decide), show ([away, echo, multi] : List (List UInt8))[Int.toNat 2]? = some multi from rfl, Option.bind_some, g2, Option.bind_some, rollcallref12_bit.f, Option.bind_some]
    by_cases hb : iand .i64 h 4 = 4
    · rw [if_pos (by simp [hb]), if_pos hb]
      by_cases h0 : t = []
      · subst h0
        rw [if_neg (by simp), if_pos rfl, rollcallref12_Text.J1, g3, Option.bind_some, if_pos (by decide), show ([away, echo, multi] : List (List UInt8))[Int.toNat 2]? = some multi from rfl, Option.bind_some, if_pos (by decide), rollcallref12_Text.J2, w5, rollcallref12_Text.L0, if_neg (by decide)]
        exact ⟨U3, rfl, q3⟩
      · rw [if_pos (by simp [h0]), if_neg h0, if_pos (by simp; omega), rollcallref12_Text.J1, g3, Option.bind_some, if_pos (by decide), show ([away, echo, multi] : List (List UInt8))[Int.toNat 2]? = some multi from rfl, Option.bind_some, if_pos (by simp [multi]; omega), rollcallref12_Text.J2, w5, rollcallref12_Text.L0, if_neg (by decide)]
        exact ⟨U3, rfl, q3⟩
    · rw [if_neg (by simp [hb]), if_neg hb, rollcallref12_Text.J2, w5, rollcallref12_Text.L0, if_neg (by decide)]
      exact ⟨U2, rfl, q2⟩
  have second : ∀ (t : List UInt8) (U : HS) (fU : Fr S.next S U) (ht : t.length ≤ 50), ∃ S', rollcallref12_Text.L0 2000 1999 h t 1 U = some ((let b := if iand .i64 h 2 = 2 then (if t = [] then echo else t ++ [32] ++ echo) else t
      if iand .i64 h 4 = 4 then (if b = [] then multi else b ++ [32] ++ multi) else b), S') ∧ Fr S.next S S' := by
    intro t U fU ht
    obtain ⟨U1, g1, k1⟩ := names_spec (S := U)
    obtain ⟨U2, g2, k2⟩ := refNumber_spec (k := 1996) (w := echo) (S := U1)
    obtain ⟨U3, g3, k3⟩ := names_spec (S := U2)
    rw [a2] at g2
    have fl := fU.le
    have k1l := k1.le
    have k2l := k2.le
    have q2 : Fr S.next S U2 := (fU.trans (k1.mono fl)).trans (k2.mono (by omega))
    have q3 : Fr S.next S U3 := q2.trans (k3.mono (by omega))
    rw [rollcallref12_Text.L0, if_pos (by decide), g1, Option.bind_some, if_pos (by decide), show ([away, echo, multi] : List (List UInt8))[Int.toNat 1]? = some echo from rfl, Option.bind_some, g2, Option.bind_some, rollcallref12_bit.f, Option.bind_some]
    by_cases hb : iand .i64 h 2 = 2
    · rw [if_pos (by simp [hb])]
      simp only [if_pos hb]
      by_cases h0 : t = []
      · subst h0
        rw [if_neg (by simp), rollcallref12_Text.J1, g3, Option.bind_some, if_pos (by decide), show ([away, echo, multi] : List (List UInt8))[Int.toNat 1]? = some echo from rfl, Option.bind_some, if_pos (by decide), rollcallref12_Text.J2, w4]
        exact third _ U3 q3 (by decide)
      · rw [if_pos (by simp [h0]), if_pos (by simp; omega), rollcallref12_Text.J1, g3, Option.bind_some, if_pos (by decide), show ([away, echo, multi] : List (List UInt8))[Int.toNat 1]? = some echo from rfl, Option.bind_some, if_pos (by simp [echo]; omega), rollcallref12_Text.J2, w4]
        simp only [if_neg h0]
        exact third _ U3 q3 (by simp [echo]; omega)
    · rw [if_neg (by simp [hb]), rollcallref12_Text.J2, w4]
      simp only [if_neg hb]
      exact third _ U2 q2 (by omega)
  rw [rollcallref12_Text.L0, if_pos (by decide), e1, Option.bind_some, if_pos (by decide), show ([away, echo, multi] : List (List UInt8))[Int.toNat 0]? = some away from rfl, Option.bind_some, e2, Option.bind_some, rollcallref12_bit.f, Option.bind_some]
  unfold rtext
  by_cases hb : iand .i64 h 1 = 1
  · obtain ⟨U3, g3, k3⟩ := names_spec (S := S2)
    have q3 : Fr S.next S U3 := f12.trans (k3.mono f12.le)
    rw [if_pos (by simp [hb]), if_neg (by simp), rollcallref12_Text.J1, g3, Option.bind_some, if_pos (by decide), show ([away, echo, multi] : List (List UInt8))[Int.toNat 0]? = some away from rfl, Option.bind_some, if_pos (by decide), rollcallref12_Text.J2, w2]
    simp only [if_pos hb]
    exact second _ U3 q3 (by decide)
  · rw [if_neg (by simp [hb]), rollcallref12_Text.J2, w2]
    simp only [if_neg hb]
    exact second _ S2 f12 (by decide)
/-! ### the law's own range -/
def sm : Nat → Int
  | 0 => 0
  | 1 => 1
  | 2 => 3
  | _ => 7
structure LI (a s : Nat) (h : Int) (i : Nat) (T : HS) : Prop where
  cH : T.heap a = .cells 1 [[.int .i64 h]] true
  cR : ∃ b, T.heap (a + 1) = .cells 1 [[.bool b]] true
  cS : T.heap s = .cells 1 [[.int .i64 (sm i)]] true
  cD : T.heap (s + 1) = .defer
  cL : T.heap (s + 2) = .loop .ready none
  lt : a + 1 < s
  nx : s + 3 ≤ T.next
def handL (a s : Nat) (D : Dp) (H : Hd) (k : Nat) : List HV → HS → Option (HV × HS) := fun vs T =>
  Option.bind (HS.lp T (s + 2)) fun _ => Option.bind (args2 vs) fun ar => Option.bind (dS ar.1) fun p60 => Option.bind (dI .i64 ar.2) fun p61 =>
  rollcalllaw12_CapsTexts.J3 D H k (s + 2) (some (HA.cell0 a)) (some (HA.cell0 (a + 1))) (some (HA.cell0 s)) p60 p61 T
theorem handL_step {a s : Nat} {h : Int} {i : Nat} (hi : i < 3) {T : HS} (hT : LI a s h i T) :
    ∃ T', handL a s (disp 2000 4) (fun _ => none) 2000 [.str (nm i), .int .i64 (nu i)] T = some (.bool true, T') ∧ LI a s h (i + 1) T' := by
  have nx := hT.nx
  have lt := hT.lt
  obtain ⟨b, cR⟩ := hT.cR
  rw [handL, lp_at hT.cL]
  simp only [Option.bind_some, args2, dS, dI, if_true]
  rw [rollcalllaw12_CapsTexts.J3, begin_at hT.cL, Option.bind_some]
  have b0 : (T.put (s + 2) (.loop .busy none)).heap a = .cells 1 [[.int .i64 h]] true := by rw [put_other _ (by omega)]; exact hT.cH
  have b1 : (T.put (s + 2) (.loop .busy none)).heap (a + 1) = .cells 1 [[.bool b]] true := by rw [put_other _ (by omega)]; exact cR
  have b2 : (T.put (s + 2) (.loop .busy none)).heap s = .cells 1 [[.int .i64 (sm i)]] true := by rw [put_other _ (by omega)]; exact hT.cS
  have b3 : (T.put (s + 2) (.loop .busy none)).heap (s + 1) = .defer := by rw [put_other _ (by omega)]; exact hT.cD
  have b4 : (T.put (s + 2) (.loop .busy none)).heap (s + 2) = .loop .busy none := put_here _ _ _
  have bn : (T.put (s + 2) (.loop .busy none)).next = T.next := rfl
  generalize T.put (s + 2) (.loop .busy none) = U at b0 b1 b2 b3 b4 bn
  have hnum : num (nm i) = nu i := by
    have : i = 0 ∨ i = 1 ∨ i = 2 := by omega
    rcases this with rfl | rfl | rfl <;> decide
  obtain ⟨U1, e1, f1⟩ := refNumber_spec (k := 1996) (w := nm i) (S := U)
  obtain ⟨U2, e2, f2⟩ := has_spec (k := 2000) (h := 7) (one := nu i) (S := U1)
  obtain ⟨U3, e3, f3⟩ := has_spec (k := 2000) (h := h) (one := nu i) (S := U2)
  have l1 := f1.le
  have l2 := f2.le
  have l3 := f3.le
  have hh : ∀ id, id < T.next → U1.heap id = U.heap id := fun id hid => f1.eq id (by omega)
  have hh2 : ∀ id, id < T.next → U2.heap id = U.heap id := fun id hid => (f2.eq id (by omega)).trans (hh id hid)
  have hh3 : ∀ id, id < T.next → U3.heap id = U.heap id := fun id hid => (f3.eq id (by omega)).trans (hh2 id hid)
  have h7 : hasOne 7 (nu i) = true := by
    have : i = 0 ∨ i = 1 ∨ i = 2 := by omega
    rcases this with rfl | rfl | rfl <;> decide
  have hho : hasOne h (nu i) = hasB h (nu i) := by
    have : i = 0 ∨ i = 1 ∨ i = 2 := by omega
    unfold hasOne
    rw [if_pos]
    rcases this with rfl | rfl | rfl <;> simp [nu]
  have hsm : ¬ nu i ≤ sm i := by
    have : i = 0 ∨ i = 1 ∨ i = 2 := by omega
    rcases this with rfl | rfl | rfl <;> decide
  have hss : w64 (sm i + nu i) = sm (i + 1) := by
    have : i = 0 ∨ i = 1 ∨ i = 2 := by omega
    rcases this with rfl | rfl | rfl <;> decide
  rw [e1, Option.bind_some, hnum, if_neg (by simp), Option.bind_some, ldI_cell ((hh s (by omega)).trans b2), Option.bind_some, if_neg hsm, e2, Option.bind_some, h7, if_neg (by simp), Option.bind_some, ldI_cell ((hh2 a (by omega)).trans b0), Option.bind_some, e3, Option.bind_some, Option.bind_some, ldI_cell ((hh3 a (by omega)).trans b0), Option.bind_some]
  rw [show (true, U2).snd.ldI IntKind.i64 (HA.cell0 a) = some h from ldI_cell ((hh2 a (by omega)).trans b0), Option.bind_some, if_pos rfl, hho]
  rw [rollcalllaw12_CapsTexts.J4, if_neg (by simp [hasB]), Option.bind_some, ldI_cell ((hh3 s (by omega)).trans b2), Option.bind_some, Option.bind_some, sets_cell _ ((hh3 s (by omega)).trans b2), Option.bind_some, hss]
  have c4 : (U3.put s (.cells 1 [[.int .i64 (sm (i + 1))]] true)).heap (s + 2) = .loop .busy none := by rw [put_other _ (by omega), hh3 _ (by omega)]; exact b4
  rw [endr_at none c4]
  refine ⟨_, rfl, ?_, ⟨b, ?_⟩, ?_, ?_, put_here _ _ _, lt, ?_⟩
  · rw [put_other _ (by omega), put_other _ (by omega), hh3 _ (by omega)]; exact b0
  · rw [put_other _ (by omega), put_other _ (by omega), hh3 _ (by omega)]; exact b1
  · rw [put_other _ (by omega)]; exact put_here _ _ _
  · rw [put_other _ (by omega), put_other _ (by omega), hh3 _ (by omega)]; exact b3
  · simp only [put_next]; omega
theorem J7_end {a d s : Nat} {T : HS} {x : Bool} {b : Bool} (h1 : T.heap (a + 1) = .cells 1 [[.bool b]] true) (hd : T.heap d = .defer) (hne : d ≠ a + 1) : ∃ S', rollcalllaw12_CapsTexts.J7 (disp 2000 4) (fun _ => none) 2000 (some (HA.cell0 (a + 1))) x [d] T = some (x, S') := by
  rw [rollcalllaw12_CapsTexts.J7, Option.bind_some, sets_cell _ h1, Option.bind_some]
  have cd : (T.put (a + 1) (.cells 1 [[.bool x]] true)).heap d = .defer := by rw [put_other _ hne]; exact hd
  simp only [HS.leave, cd, Option.bind_some]
  have k1 : ((T.put (a + 1) (.cells 1 [[.bool x]] true)).put d .dead).heap (a + 1) = .cells 1 [[.bool x]] true := by rw [put_other _ (by omega)]; exact put_here _ _ _
  rw [ldB_cell k1]
  exact ⟨_, rfl⟩
theorem J2_end {a : Nat} {h : Int} {S : HS} {b : Bool} (h0 : S.heap a = .cells 1 [[.int .i64 h]] true) (h1 : S.heap (a + 1) = .cells 1 [[.bool b]] true) (hn : a + 1 < S.next) :
    ∃ S', rollcalllaw12_CapsTexts.J2 (disp 2000 4) (fun _ => none) 2000 (some (HA.cell0 a)) (some (HA.cell0 (a + 1))) false [] S = some (true, S') := by
  rw [rollcalllaw12_CapsTexts.J2, if_neg (by simp), caps_All.f, Option.bind_some, letv, sets_cell (.int .i64 0) (new_here S (.cells 1 [[(.int .i64 0)]] true)), Option.bind_some]
  simp only [HV.isNilFn, Option.bind_some, Bool.false_eq_true, if_false]
  have p0 : ((S.new (.cells 1 [[.int .i64 0]] true)).put S.next (.cells 1 [[.int .i64 0]] true)).heap a = .cells 1 [[.int .i64 h]] true := by rw [put_other _ (by omega), new_old _ (by omega)]; exact h0
  have p1 : ((S.new (.cells 1 [[.int .i64 0]] true)).put S.next (.cells 1 [[.int .i64 0]] true)).heap (a + 1) = .cells 1 [[.bool b]] true := by rw [put_other _ (by omega), new_old _ (by omega)]; exact h1
  have p2 : ((S.new (.cells 1 [[.int .i64 0]] true)).put S.next (.cells 1 [[.int .i64 0]] true)).heap S.next = .cells 1 [[.int .i64 0]] true := put_here _ _ _
  have pn : ((S.new (.cells 1 [[.int .i64 0]] true)).put S.next (.cells 1 [[.int .i64 0]] true)).next = S.next + 1 := rfl
  generalize (S.new (.cells 1 [[.int .i64 0]] true)).put S.next (.cells 1 [[.int .i64 0]] true) = A at p0 p1 p2 pn ⊢
  have n6 : ((A.new .defer).new (.loop .ready none)).next = A.next + 2 := rfl
  have f6 : Fr A.next A ((A.new .defer).new (.loop .ready none)) := (Fr.new (Nat.le_refl _) _).trans (Fr.new (by rw [new_next]; omega) _)
  have d6 : ((A.new .defer).new (.loop .ready none)).heap A.next = .defer := by rw [new_old _ (by rw [new_next]; omega)]; exact new_here _ _
  have l6 : ((A.new .defer).new (.loop .ready none)).heap (A.next + 1) = .loop .ready none := new_here (A.new .defer) _
  generalize (A.new .defer).new (.loop .ready none) = C at n6 f6 d6 l6 ⊢
  rw [pn] at n6 d6 l6 ⊢
  have hI : LI a S.next h 0 C := by
    refine ⟨?_, ⟨b, ?_⟩, ?_, d6, l6, hn, by omega⟩
    · rw [f6.eq _ (by omega)]; exact p0
    · rw [f6.eq _ (by omega)]; exact p1
    · rw [f6.eq _ (by omega)]; exact p2
  obtain ⟨T, e7, hT⟩ := range_all (k := 2000) (n := 2) (l := S.next + 2) (hd := handL a S.next (disp 2000 4) (fun _ => none) 2000) (LI a S.next h) (fun _ => False) (fun i hi U hU => by
    obtain ⟨U', e, g⟩ := handL_step hi hU
    exact ⟨U', .inl ⟨e, g⟩⟩) hI
  erw [e7]
  rw [Option.bind_some]
  rcases hT with hT | hT
  · obtain ⟨b2, cR⟩ := hT.cR
    have nx := hT.nx
    have e8 : T.finish (S.next + 1 + 1) = some (none, T.put (S.next + 2) (.loop .exhausted none)) := by simp [HS.finish, hT.cL]
    simp only [e8, Option.bind_some, pcode, if_true]
    have g0 : (T.put (S.next + 2) (.loop .exhausted none)).heap a = .cells 1 [[.int .i64 h]] true := by rw [put_other _ (by omega)]; exact hT.cH
    have g1 : (T.put (S.next + 2) (.loop .exhausted none)).heap (a + 1) = .cells 1 [[.bool b2]] true := by rw [put_other _ (by omega)]; exact cR
    have g2 : (T.put (S.next + 2) (.loop .exhausted none)).heap S.next = .cells 1 [[.int .i64 7]] true := by rw [put_other _ (by omega)]; exact hT.cS
    have gd : (T.put (S.next + 2) (.loop .exhausted none)).heap (S.next + 1) = .defer := by rw [put_other _ (by omega)]; exact hT.cD
    have gn : (T.put (S.next + 2) (.loop .exhausted none)).next = T.next := rfl
    generalize T.put (S.next + 2) (.loop .exhausted none) = U at g0 g1 g2 gd gn ⊢
    obtain ⟨U1, e1, f1⟩ := has_spec (k := 2000) (h := h) (one := 0) (S := U)
    obtain ⟨U2, e2, f2⟩ := has_spec (k := 2000) (h := h) (one := 3) (S := U1)
    obtain ⟨U3, e3, f3⟩ := has_spec (k := 2000) (h := h) (one := 8) (S := U2)
    have l1 := f1.le
    have l2 := f2.le
    have l3 := f3.le
    have hh : ∀ id, id < T.next → U1.heap id = U.heap id := fun id hid => f1.eq id (by omega)
    have hh2 : ∀ id, id < T.next → U2.heap id = U.heap id := fun id hid => (f2.eq id (by omega)).trans (hh id hid)
    have hh3 : ∀ id, id < T.next → U3.heap id = U.heap id := fun id hid => (f3.eq id (by omega)).trans (hh2 id hid)
    have z0 : hasOne h 0 = false := by unfold hasOne; rw [if_neg (by simp)]
    have z3 : hasOne h 3 = false := by unfold hasOne; rw [if_neg (by simp)]
    have z8 : hasOne h 8 = false := by unfold hasOne; rw [if_neg (by simp)]
    rw [z0] at e1
    rw [z3] at e2
    rw [z8] at e3
    rw [ldI_cell g2, Option.bind_some, if_pos rfl, ldI_cell g0, Option.bind_some, e1, Option.bind_some, rollcalllaw12_CapsTexts.J5, if_pos (by simp), Option.bind_some, ldI_cell ((hh a (by omega)).trans g0), Option.bind_some, e2, Option.bind_some, rollcalllaw12_CapsTexts.J6, if_pos (by simp), Option.bind_some, ldI_cell ((hh2 a (by omega)).trans g0), Option.bind_some, e3, Option.bind_some]
    exact J7_end (s := 0) ((hh3 _ (by omega)).trans g1) ((hh3 _ (by omega)).trans gd) (by omega)
  · exact hT.elim
theorem awake_spec {S : HS} : ∃ S', rollcalllaw12_awake.f (disp 2000 4) (fun _ => none) 2000 S = some (true, S') ∧ Fr S.next S S' := by
  obtain ⟨S1, e1, f1⟩ := apply_spec (k := 2000) (have_ := 2) (x := [97, 119, 97, 121, 45, 110, 111, 116, 105, 102, 121, 32, 45, 101, 99, 104, 111, 45, 109, 101, 115, 115, 97, 103, 101]) (S := S) (by decide) (Nat.le_refl _)
  rw [show app 2 [97, 119, 97, 121, 45, 110, 111, 116, 105, 102, 121, 32, 45, 101, 99, 104, 111, 45, 109, 101, 115, 115, 97, 103, 101] = (1, true) from by decide] at e1
  rw [rollcalllaw12_awake.f, e1, Option.bind_some, if_pos rfl, rollcalllaw12_awake.J0]
  exact ⟨S1, rfl, f1⟩
theorem capsTexts_spec (n : Int) (x : List UInt8) : ∃ S', rollcalllaw12_CapsTexts.f (disp 2000 4) (fun _ => none) 2000 n x S0 = some (true, S') := by
  unfold rollcalllaw12_CapsTexts.f
  simp only [letv]
  have c0 : ((S0.new (.cells 1 [[.int .i64 n]] true)).new (.cells 1 [[.bool false]] true)).heap 0 = .cells 1 [[.int .i64 n]] true := rfl
  have c1 : ((S0.new (.cells 1 [[.int .i64 n]] true)).new (.cells 1 [[.bool false]] true)).heap 1 = .cells 1 [[.bool false]] true := rfl
  have cn : ((S0.new (.cells 1 [[.int .i64 n]] true)).new (.cells 1 [[.bool false]] true)).next = 2 := rfl
  rw [show S0.next = 0 from rfl, show (S0.new (.cells 1 [[.int .i64 n]] true)).next = 1 from rfl]
  generalize (S0.new (.cells 1 [[.int .i64 n]] true)).new (.cells 1 [[.bool false]] true) = A at c0 c1 cn ⊢
  obtain ⟨S1, e1, f1⟩ := awake_spec (S := A)
  have l1 := f1.le
  rw [e1, Option.bind_some, if_neg (by simp)]
  have b0 : S1.heap 0 = .cells 1 [[.int .i64 n]] true := (f1.eq 0 (by omega)).trans c0
  have b1 : S1.heap 1 = .cells 1 [[.bool false]] true := (f1.eq 1 (by omega)).trans c1
  by_cases hl : (x.length : Int) > 40
  · rw [if_pos hl, sets_cell _ b1, Option.bind_some]
    simp only [HS.leave, Option.bind_some]
    rw [ldB_cell (put_here _ _ _)]
    exact ⟨_, rfl⟩
  obtain ⟨m, hm, m7, m1, m2, m4⟩ := low_bits n
  obtain ⟨t1, t2, t3⟩ := low_all m hm
  have ha := acc_low m1 m2 m4
  have hr := rtext_low m1 m2 m4
  obtain ⟨S2, e2, f2⟩ := text_spec (k := 2000) (h := n) (S := S1) (by rw [ha, t1]; omega)
  rw [ha, t1] at e2
  obtain ⟨S3, e3, f3⟩ := number_spec (k := 2000) (name := x) (S := S2)
  obtain ⟨S4, e4, f4⟩ := apply_spec (k := 2000) (have_ := 0) (x := rtext (m : Int)) (S := S3) (by omega) (Nat.le_refl _)
  rw [t3] at e4
  obtain ⟨S5, e5, f5⟩ := refText_spec (h := n) (S := S4)
  rw [hr] at e5
  obtain ⟨S6, e6, f6⟩ := refNumber_spec (k := 1996) (w := x) (S := S5)
  have l2 := f2.le
  have l3 := f3.le
  have l4 := f4.le
  have l5 := f5.le
  have l6 := f6.le
  have h4 : ∀ id, id < 2 → S4.heap id = S1.heap id := fun id hid => (f4.eq id (by omega)).trans ((f3.eq id (by omega)).trans (f2.eq id (by omega)))
  have h6 : ∀ id, id < 2 → S6.heap id = S1.heap id := fun id hid => (f6.eq id (by omega)).trans ((f5.eq id (by omega)).trans (h4 id hid))
  have q0 : S6.heap 0 = .cells 1 [[.int .i64 n]] true := (h6 0 (by omega)).trans b0
  have q1 : S6.heap 1 = .cells 1 [[.bool false]] true := (h6 1 (by omega)).trans b1
  rw [if_neg hl, ldI_cell b0, Option.bind_some, e2, Option.bind_some, e3, Option.bind_some, e4, Option.bind_some, ldI_cell ((h4 0 (by omega)).trans b0), Option.bind_some, e5, Option.bind_some, if_neg (by simp), e6, Option.bind_some]
  rw [rollcalllaw12_CapsTexts.J0, if_neg (by simp), rollcalllaw12_CapsTexts.J1, if_neg (by simp), Option.bind_some, ldI_cell q0, Option.bind_some, m7, show (!decide (((m : Int), true).fst = (m : Int))) = false by simp]
  exact J2_end q0 q1 (by show 0 + 1 < S6.next; omega)
theorem capsTexts_call (W : World) (n : Int) (w : (Lit.int .i64 n).wf = true) (x : List UInt8) : HCall Tryd.prog W.heap.size W B0 5 [.int .i64 n, .str x] S0 (fun v _ => v = .bool true) := by
  obtain ⟨_, h⟩ := capsTexts_spec n x
  exact (rollcalllaw12_CapsTexts.snd (disp_snd 4) (fun _ _ h => by cases h) h).mono fun _ _ h => h.1
end Go.Proofs.YtpomdkjabebmcaaDoor.X
