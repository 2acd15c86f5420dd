/- The layer caps: a capability's number, and what a request makes, plain. -/
import Derived.Test.YtpomdkjabebmcaaDoorCqSplit
namespace Go.Proofs.YtpomdkjabebmcaaDoor.X
open Go.Proofs.YtpomdkjabebmcaaDoor.HL
set_option linter.unusedVariables false
structure NI (S : HS) (n0 : Nat) (name : List UInt8) (T : HS) : Prop where
  cN : T.heap n0 = .cells 1 [[.str name]] true
  cR : T.heap (n0 + 1) = .cells 1 [[.int .i64 0]] true
  cD : T.heap (n0 + 2) = .defer
  cL : T.heap (n0 + 3) = .loop .ready none
  fr : Fr n0 S T
  nx : n0 + 4 ≤ T.next
structure ND (S : HS) (n0 : Nat) (v : Int) (T : HS) : Prop where
  cR : T.heap (n0 + 1) = .cells 1 [[.int .i64 v]] true
  cD : T.heap (n0 + 2) = .defer
  cL : T.heap (n0 + 3) = .loop .done (some .ret)
  fr : Fr n0 S T
  nx : n0 + 4 ≤ T.next
def handN (n0 : Nat) (D : Dp) (H : Hd) : List HV → HS → Option (HV × HS) := fun vs T =>
  Option.bind (HS.lp T (n0 + 3)) fun _ => Option.bind (args2 vs) fun ar => Option.bind (dS ar.1) fun p11 => Option.bind (dI .i64 ar.2) fun p12 =>
  caps_Number.J0 D H (n0 + 3) (some (HA.cell0 n0)) (some (HA.cell0 (n0 + 1))) p11 p12 T
theorem handN_no {S T : HS} {n0 : Nat} {name s : List UInt8} {v : Int} {D : Dp} {H : Hd} (h : NI S n0 name T) (hs : s ≠ name) : ∃ T', handN n0 D H [.str s, .int .i64 v] T = some (.bool true, T') ∧ NI S n0 name T' := by
  have b : (T.put (n0 + 3) (.loop .busy none)).heap n0 = .cells 1 [[.str name]] true := by rw [put_other _ (by omega)]; exact h.cN
  have hl : (T.put (n0 + 3) (.loop .busy none)).heap (n0 + 3) = .loop .busy none := put_here _ _ _
  refine ⟨(T.put (n0 + 3) (.loop .busy none)).put (n0 + 3) (.loop .ready none), ?_, ⟨?_, ?_, ?_, put_here _ _ _, ?_, h.nx⟩⟩
  · rw [handN, lp_at h.cL]
    simp only [Option.bind_some, args2, dS, dI, if_true]
    rw [caps_Number.J0, begin_at h.cL, Option.bind_some, Option.bind_some, ldS_cell b, Option.bind_some, if_neg hs, endr_at none hl]
    rfl
  · rw [put_other _ (by omega)]; exact b
  · rw [put_other _ (by omega), put_other _ (by omega)]; exact h.cR
  · rw [put_other _ (by omega), put_other _ (by omega)]; exact h.cD
  · exact (h.fr.trans (Fr.put (by omega) _)).trans (Fr.put (by omega) _)
theorem handN_yes {S T : HS} {n0 : Nat} {name : List UInt8} {v : Int} {D : Dp} {H : Hd} (h : NI S n0 name T) : ∃ T', handN n0 D H [.str name, .int .i64 v] T = some (.bool false, T') ∧ ND S n0 v T' := by
  have b : (T.put (n0 + 3) (.loop .busy none)).heap n0 = .cells 1 [[.str name]] true := by rw [put_other _ (by omega)]; exact h.cN
  have b1 : (T.put (n0 + 3) (.loop .busy none)).heap (n0 + 1) = .cells 1 [[.int .i64 0]] true := by rw [put_other _ (by omega)]; exact h.cR
  have hl : ((T.put (n0 + 3) (.loop .busy none)).put (n0 + 1) (.cells 1 [[.int .i64 v]] true)).heap (n0 + 3) = .loop .busy none := by rw [put_other _ (by omega)]; exact put_here _ _ _
  refine ⟨((T.put (n0 + 3) (.loop .busy none)).put (n0 + 1) (.cells 1 [[.int .i64 v]] true)).put (n0 + 3) (.loop .done (some .ret)), ?_, ⟨?_, ?_, put_here _ _ _, ?_, h.nx⟩⟩
  · rw [handN, lp_at h.cL]
    simp only [Option.bind_some, args2, dS, dI, if_true]
    rw [caps_Number.J0, begin_at h.cL, Option.bind_some, Option.bind_some, ldS_cell b, Option.bind_some, if_pos rfl, Option.bind_some, sets_cell _ b1, Option.bind_some, endr_at (some .ret) hl]
    rfl
  · rw [put_other _ (by omega)]; exact put_here _ _ _
  · rw [put_other _ (by omega), put_other _ (by omega), put_other _ (by omega)]; exact h.cD
  · exact ((h.fr.trans (Fr.put (by omega) _)).trans (Fr.put (by omega) _)).trans (Fr.put (by omega) _)
theorem all_spec {k n n0 : Nat} {K : Hd} {S T : HS} {name : List UInt8} {D : Dp} {H : Hd} (hK : K (n0 + 3) = some (handN n0 D H)) (h : NI S n0 name T) :
    ∃ T', caps_All_1.f (disp k (n + 1)) K (.fn (.yield (n0 + 3)) [] []) T = some ((), T') ∧ ((num name = 0 ∧ NI S n0 name T') ∨ (num name ≠ 0 ∧ ND S n0 (num name) T')) := by
  have hd : ∀ (vs : List HV) (U : HS), disp k (n + 1) K (.fn (.yield (n0 + 3)) [] []) vs U = handN n0 D H vs U := fun vs U => by rw [disp_yield, hK, Option.bind_some]
  unfold caps_All_1.f
  by_cases h1 : name = away
  · obtain ⟨T1, e1, d1⟩ := handN_yes (v := 1) (D := D) (H := H) h
    rw [hd, show ([97, 119, 97, 121, 45, 110, 111, 116, 105, 102, 121] : List UInt8) = name from h1.symm, e1, Option.bind_some]
    simp only [dB, Option.bind_some]
    rw [if_neg (by simp), caps_All_1.J0, if_neg (by simp), caps_All_1.J1]
    have hn : num name = 1 := by unfold num; rw [if_pos h1]
    exact ⟨T1, rfl, .inr ⟨by rw [hn]; decide, by rw [hn]; exact d1⟩⟩
  obtain ⟨T1, e1, d1⟩ := handN_no (v := 1) (D := D) (H := H) (s := away) h (fun e => h1 e.symm)
  rw [hd, show ([97, 119, 97, 121, 45, 110, 111, 116, 105, 102, 121] : List UInt8) = away from rfl, e1, Option.bind_some]
  simp only [dB, Option.bind_some]
  rw [if_pos trivial]
  by_cases h2 : name = echo
  · obtain ⟨T2, e2, d2⟩ := handN_yes (v := 2) (D := D) (H := H) d1
    rw [hd, show ([101, 99, 104, 111, 45, 109, 101, 115, 115, 97, 103, 101] : List UInt8) = name from h2.symm, e2, Option.bind_some, Option.bind_some, caps_All_1.J0, if_neg (by simp), caps_All_1.J1]
    have hn : num name = 2 := by unfold num; rw [if_neg h1, if_pos h2]
    exact ⟨T2, rfl, .inr ⟨by rw [hn]; decide, by rw [hn]; exact d2⟩⟩
  obtain ⟨T2, e2, d2⟩ := handN_no (v := 2) (D := D) (H := H) (s := echo) d1 (fun e => h2 e.symm)
  rw [hd, show ([101, 99, 104, 111, 45, 109, 101, 115, 115, 97, 103, 101] : List UInt8) = echo from rfl, e2, Option.bind_some, Option.bind_some, caps_All_1.J0, if_pos rfl]
  by_cases h3 : name = multi
  · obtain ⟨T3, e3, d3⟩ := handN_yes (v := 4) (D := D) (H := H) d2
    rw [hd, show ([109, 117, 108, 116, 105, 45, 112, 114, 101, 102, 105, 120] : List UInt8) = name from h3.symm, e3, Option.bind_some]
    simp only [dB, Option.bind_some, caps_All_1.J1]
    have hn : num name = 4 := by unfold num; rw [if_neg h1, if_neg h2, if_pos h3]
    exact ⟨T3, rfl, .inr ⟨by rw [hn]; decide, by rw [hn]; exact d3⟩⟩
  obtain ⟨T3, e3, d3⟩ := handN_no (v := 4) (D := D) (H := H) (s := multi) d2 (fun e => h3 e.symm)
  rw [hd, show ([109, 117, 108, 116, 105, 45, 112, 114, 101, 102, 105, 120] : List UInt8) = multi from rfl, e3, Option.bind_some]
  simp only [dB, Option.bind_some, caps_All_1.J1]
  have hn : num name = 0 := by unfold num; rw [if_neg h1, if_neg h2, if_neg h3]
  exact ⟨T3, rfl, .inl ⟨hn, d3⟩⟩
theorem number_spec {k : Nat} {name : List UInt8} {S : HS} : ∃ S', caps_Number.f (disp k 4) (fun _ => none) name S = some (num name, S') ∧ Fr S.next S S' := by
  unfold caps_Number.f caps_All.f
  simp only [letv, Option.bind_some]
  have n2 : ((S.new (.cells 1 [[.str name]] true)).new (.cells 1 [[.int .i64 0]] true)).next = S.next + 2 := rfl
  have f2 : Fr S.next S ((S.new (.cells 1 [[.str name]] true)).new (.cells 1 [[.int .i64 0]] true)) := (Fr.new (Nat.le_refl _) _).trans (Fr.new (by simp only [new_next]; omega) _)
  have h0 : ((S.new (.cells 1 [[.str name]] true)).new (.cells 1 [[.int .i64 0]] true)).heap S.next = .cells 1 [[.str name]] true := by rw [new_old _ (by simp only [new_next]; omega)]; exact new_here _ _
  have h1 : ((S.new (.cells 1 [[.str name]] true)).new (.cells 1 [[.int .i64 0]] true)).heap (S.next + 1) = .cells 1 [[.int .i64 0]] true := new_here (S.new _) _
  simp only [new_next]
  generalize (S.new (.cells 1 [[.str name]] true)).new (.cells 1 [[.int .i64 0]] true) = A at n2 f2 h0 h1 ⊢
  rw [disp_func]
  simp only [if_true]
  have n6 : ((A.new .defer).new (.loop .ready none)).next = A.next + 2 := rfl
  have f6 : Fr A.next A ((A.new .defer).new (.loop .ready none)) := (Fr.new (Nat.le_refl _) _).trans (Fr.new (by rw [new_next]; omega) _)
  have d6 : ((A.new .defer).new (.loop .ready none)).heap A.next = .defer := by rw [new_old _ (by rw [new_next]; omega)]; exact new_here _ _
  have l6 : ((A.new .defer).new (.loop .ready none)).heap (A.next + 1) = .loop .ready none := new_here (A.new .defer) _
  generalize (A.new .defer).new (.loop .ready none) = C at n6 f6 d6 l6 ⊢
  have hI : NI S S.next name C := by
    refine ⟨?_, ?_, ?_, ?_, f2.trans (f6.mono (by omega)), by omega⟩
    · rw [f6.eq _ (by omega)]; exact h0
    · rw [f6.eq _ (by omega)]; exact h1
    · rw [show S.next + 2 = A.next by omega]; exact d6
    · rw [show S.next + 3 = A.next + 1 by omega]; exact l6
  generalize hK : Hd.set (fun _ => none) (S.next + 1 + 1 + 1) _ = K
  have hKl : K (S.next + 3) = some (handN S.next (disp k 4) (fun _ => none)) := by
    subst hK
    simp only [Hd.set, if_true]
    rfl
  obtain ⟨T, e7, hT⟩ := all_spec (k := k) (n := 2) hKl hI
  rw [call_20]
  simp only [List.nil_append, List.append_nil, args1, Option.bind_some, dF]
  rw [show S.next + 1 + 1 + 1 = S.next + 3 from rfl, show S.next + 1 + 1 = S.next + 2 from rfl, e7, Option.bind_some, Option.bind_some]
  rcases hT with ⟨hn, hT⟩ | ⟨hn, hT⟩
  · have e8 : T.finish (S.next + 3) = some (none, T.put (S.next + 3) (.loop .exhausted none)) := by simp [HS.finish, hT.cL]
    simp only [e8, Option.bind_some, pcode, if_true]
    have g1 : (T.put (S.next + 3) (.loop .exhausted none)).heap (S.next + 1) = .cells 1 [[.int .i64 0]] true := by rw [put_other _ (by omega)]; exact hT.cR
    have gd : (T.put (S.next + 3) (.loop .exhausted none)).heap (S.next + 2) = .defer := by rw [put_other _ (by omega)]; exact hT.cD
    have gf : Fr S.next S (T.put (S.next + 3) (.loop .exhausted none)) := hT.fr.trans (Fr.put (by omega) _)
    generalize T.put (S.next + 3) (.loop .exhausted none) = U at g1 gd gf ⊢
    rw [sets_cell _ g1, Option.bind_some]
    have cd : (U.put (S.next + 1) (.cells 1 [[.int .i64 0]] true)).heap (S.next + 2) = .defer := by rw [put_other _ (by omega)]; exact gd
    simp only [HS.leave, cd, Option.bind_some]
    have k1 : ((U.put (S.next + 1) (.cells 1 [[.int .i64 0]] true)).put (S.next + 2) .dead).heap (S.next + 1) = .cells 1 [[.int .i64 0]] true := by rw [put_other _ (by omega)]; exact put_here _ _ _
    rw [ldI_cell k1, Option.bind_some, hn]
    exact ⟨_, rfl, (gf.trans (Fr.put (by omega) _)).trans (Fr.put (by omega) _)⟩
  · have e8 : T.finish (S.next + 3) = some (some .ret, T.put (S.next + 3) (.loop .exhausted (some .ret))) := by simp [HS.finish, hT.cL]
    simp only [e8, Option.bind_some, pcode, if_true]
    rw [if_neg (by decide)]
    have g1 : (T.put (S.next + 3) (.loop .exhausted (some .ret))).heap (S.next + 1) = .cells 1 [[.int .i64 (num name)]] true := by rw [put_other _ (by omega)]; exact hT.cR
    have gd : (T.put (S.next + 3) (.loop .exhausted (some .ret))).heap (S.next + 2) = .defer := by rw [put_other _ (by omega)]; exact hT.cD
    have gf : Fr S.next S (T.put (S.next + 3) (.loop .exhausted (some .ret))) := hT.fr.trans (Fr.put (by omega) _)
    generalize T.put (S.next + 3) (.loop .exhausted (some .ret)) = U at g1 gd gf ⊢
    simp only [HS.leave, gd, Option.bind_some]
    have k1 : (U.put (S.next + 2) .dead).heap (S.next + 1) = .cells 1 [[.int .i64 (num name)]] true := by rw [put_other _ (by omega)]; exact g1
    rw [ldI_cell k1, Option.bind_some]
    exact ⟨_, rfl, gf.trans (Fr.put (by omega) _)⟩
theorem str_rows {S : HS} {s : Sl} {xs : List (List UInt8)} (h : S.rows s 1 = some (xs.map strRow)) {i : Nat} (hi : i < xs.length) : ∃ ad, S.idx s (i : Int) 1 = some ad ∧ S.ldS ad = some xs[i] := by
  obtain ⟨ad, h1, h2, h3⟩ := rows_idx h (i := i) (by simpa using hi)
  refine ⟨ad, h1, ?_⟩
  exact row_ldS (j := 0) (ad := ad) h3 h2 (by simp [strRow])
theorem prefix_spec {w : List UInt8} (h : w ≠ []) : strings_CutPrefix.f w [45] = some (bare w) := by
  cases w with
  | nil => exact absurd rfl h
  | cons b s =>
    unfold strings_CutPrefix.f internal_stringslite_CutPrefix.f internal_stringslite_HasPrefix.f
    rw [if_pos (by simp; omega), if_pos ⟨by omega, by simp, by simp; omega⟩, internal_stringslite_HasPrefix.J0, Option.bind_some]
    have e1 : ssub (b :: s) 0 (([45] : List UInt8).length : Int) = [b] := rfl
    rw [e1]
    by_cases hb : b = 45
    · subst hb
      rw [if_neg (by simp), if_pos ⟨by omega, by simp; omega, by omega⟩, Option.bind_some]
      have e2 : ssub (45 :: s) (([45] : List UInt8).length : Int) (((45 : UInt8) :: s).length : Int) = s := by
        simp only [ssub, Int.toNat_natCast]
        exact List.take_of_length_le (by simp)
      rw [e2]; simp [bare]
    · rw [if_pos (by simp [hb]), Option.bind_some]; simp [bare, hb]
theorem apply_loop {k : Nat} {have_ : Int} {ws : List (List UInt8)} {sl : Sl} {m : Nat} (hn : ws.length ≤ 1000) (hsl : ∀ q, sl.a = some q → q.1 < m) : ∀ (f i : Nat) (now : Int) (S : HS), ws.length - i < f → i ≤ ws.length → m ≤ S.next → S.rows sl 1 = some (ws.map strRow) →
    ∃ S', caps_Apply.L0 (disp k 4) (fun _ => none) k f have_ now sl (ws.length : Int) (i : Int) S = some (ans have_ (run (ws.drop i) now), S') ∧ Fr m S S' := by
  intro f
  induction f with
  | zero => intro i now S h; omega
  | succ f ih =>
    intro i now S h hi hm hr
    unfold caps_Apply.L0
    by_cases hlt : i < ws.length
    · obtain ⟨ad, a1, a2⟩ := str_rows hr hlt
      have hi1 : w64 ((i : Int) + 1) = ((i + 1 : Nat) : Int) := by rw [w64_id (by omega) (by omega)]; simp
      rw [if_pos (by omega), a1, Option.bind_some, a2, Option.bind_some, List.drop_eq_getElem_cons hlt, run]
      by_cases h0 : ws[i] = []
      · have e1 : step1 ws[i] now = some now := by unfold step1; rw [if_pos h0]
        rw [if_pos h0, caps_Apply.J1, hi1, e1, Option.bind_some]
        exact ih (i + 1) now S (by omega) (by omega) hm hr
      · obtain ⟨S1, e2, f2⟩ := number_spec (k := k) (name := (bare ws[i]).1) (S := S)
        have hr1 : S1.rows sl 1 = some (ws.map strRow) := rows_same hr fun p hp => f2.eq _ (Nat.lt_of_lt_of_le (hsl p hp) hm)
        rw [if_neg h0, prefix_spec h0, Option.bind_some, e2, Option.bind_some]
        by_cases h1 : num (bare ws[i]).1 = 0
        · have e1 : step1 ws[i] now = none := by unfold step1; rw [if_neg h0, if_pos h1]
          rw [if_pos h1, e1]; exact ⟨S1, rfl, f2.mono hm⟩
        · rw [if_neg h1]
          by_cases h2 : (bare ws[i]).2 = true
          · have e1 : step1 ws[i] now = some (iandNot .i64 now (num (bare ws[i]).1)) := by unfold step1; rw [if_neg h0, if_neg h1, if_pos h2]
            rw [if_pos h2, caps_Apply.J1, hi1, e1, Option.bind_some]
            obtain ⟨S2, e3, f3⟩ := ih (i + 1) (iandNot .i64 now (num (bare ws[i]).1)) S1 (by omega) (by omega) (Nat.le_trans hm f2.le) hr1
            exact ⟨S2, e3, (f2.mono hm).trans f3⟩
          · have e1 : step1 ws[i] now = some (ior .i64 now (num (bare ws[i]).1)) := by unfold step1; rw [if_neg h0, if_neg h1, if_neg h2]
            rw [if_neg h2, caps_Apply.J1, hi1, e1, Option.bind_some]
            obtain ⟨S2, e3, f3⟩ := ih (i + 1) (ior .i64 now (num (bare ws[i]).1)) S1 (by omega) (by omega) (Nat.le_trans hm f2.le) hr1
            exact ⟨S2, e3, (f2.mono hm).trans f3⟩
    · have : i = ws.length := by omega
      subst this
      rw [if_neg (by omega), List.drop_length, run]
      exact ⟨S, rfl, Fr.refl _ _⟩
theorem apply_spec {k : Nat} {have_ : Int} {x : List UInt8} {S : HS} (hx : x.length ≤ 900) (hk : 2000 ≤ k) : ∃ S', caps_Apply.f (disp k 4) (fun _ => none) k have_ x S = some (app have_ x, S') ∧ Fr S.next S S' := by
  obtain ⟨sc, S1, e1, r1, l1, f1, q1⟩ := split_spec (k := k) (x := x) (S := S) hx hk
  have hwl := count_words x
  have hcl : Lib.countByte x 32 ≤ x.length := List.count_le_length
  obtain ⟨S2, e2, f2⟩ := apply_loop (k := k) (have_ := have_) (ws := words x) (sl := sc) (m := S1.next) (by omega) (fun q hq => (q1 q hq).2) k 0 have_ S1 (by omega) (Nat.zero_le _) (Nat.le_refl _) r1
  refine ⟨S2, ?_, f1.trans (f2.mono f1.le)⟩
  unfold caps_Apply.f
  rw [show ((0 : Nat) : Int) = 0 from rfl, List.drop_zero] at e2
  rw [e1, Option.bind_some, l1, e2]
  rfl
end Go.Proofs.YtpomdkjabebmcaaDoor.X
