/- The layer sendq: what Lines tells, gathered, plain. -/
import Derived.Test.YtpjabhpfaahgoaaSyLines
namespace Go.Proofs.Ytpjabhpfaahgoaa.X
open Go.Proofs.Ytpjabhpfaahgoaa.HL
set_option linter.unusedVariables false
theorem enc_ne {l : List UInt8} {ls : List (List UInt8)} : enc (l :: ls) ≠ [] := by simp [enc]
theorem tells {I : List (List UInt8) → HS → Prop} {n0 l : Nat} {H : Hd} {h : List HV → HS → Option (HV × HS)} (hH : H l = some h) : ∀ (rest acc : List (List UInt8)) (f : Nat) (T : HS), Clean rest → rest.length < f → (enc rest).length ≤ 1000000 →
    (∀ a x b T, acc ++ rest = a ++ x :: b → I a T → ∃ T', h [.str x] T = some (.bool true, T') ∧ I (a ++ [x]) T') → I acc T →
    ∃ T', sendq_Queue_Lines_2.L0 (disp 100000 (n0 + 1)) H 100000 f (.fn (.yield l) [] []) (enc rest) T = some ((), T') ∧ I (acc ++ rest) T' := by
  intro rest
  induction rest with
  | nil =>
    intro acc f T _ hf _ _ hI
    obtain ⟨g, rfl⟩ : ∃ g, f = g + 1 := ⟨f - 1, by omega⟩
    rw [sendq_Queue_Lines_2.L0, if_neg (by simp [enc])]
    exact ⟨T, rfl, by simpa using hI⟩
  | cons x rest ih =>
    intro acc f T hc hf hl hs hI
    obtain ⟨g, rfl⟩ : ∃ g, f = g + 1 := ⟨f - 1, by omega⟩
    have hx := hc x (by simp)
    obtain ⟨T1, e1, h1⟩ := hs acc x rest T rfl hI
    rw [sendq_Queue_Lines_2.L0, if_pos (by simp [enc_ne])]
    have hcut : strings_Cut.f (enc (x :: rest)) [13, 10] = some (x, enc rest, true) := by
      unfold strings_Cut.f
      rw [if_pos (by omega)]
      have := cut_line (l := x) (v := enc rest) hx.2
      rw [show enc (x :: rest) = x ++ 13 :: 10 :: enc rest from rfl, this]
    rw [hcut, Option.bind_some]
    have hd : disp 100000 (n0 + 1) H (.fn (.yield l) [] []) [.str x] T = some (.bool true, T1) := by rw [disp_yield, hH, Option.bind_some, e1]
    rw [hd, Option.bind_some]
    simp only [dB, Option.bind_some, Bool.not_true]
    rw [if_neg (by simp)]
    have hl2 : (enc rest).length ≤ 1000000 := by rw [enc_len_cons] at hl; omega
    obtain ⟨T2, e2, h2⟩ := ih (acc ++ [x]) g T1 (fun y hy => hc y (by simp [hy])) (by simp at hf; omega) hl2 (fun a y b T3 he h3 => hs a y b T3 (by rw [← he]; simp) h3) h1
    exact ⟨T2, e2, by simpa using h2⟩
theorem qlines_spec {q : Nat} {s : Sl} {most : Int} {bs : List UInt8} {torn : Nat} {sent : Int} {over : Bool} {S : HS} (h : QI q s most bs torn sent over S) (ht : torn ≤ bs.length) :
    ∃ S', sendq_Queue_Lines.f (some (HA.cell0 q)) S = some (.fn (.func 25) [] [.ptr (some (HA.cell0 S.next))], S') ∧ S'.heap S.next = .cells 1 [[.str (bs.drop torn)]] true ∧ S'.next = S.next + 1 ∧ Fr S.next S S' := by
  have hlen : s.len = bs.length := h.len
  have hbr : (bytesRows bs).length = bs.length := bytesRows_len _
  have hdr : (bytesRows bs).drop torn = bytesRows (bs.drop torn) := by simp [bytesRows, List.map_drop]
  obtain ⟨sc, c1, c2⟩ := rows_cut h.vec.rows (m := torn) (by omega)
  rw [hbr, ← hlen] at c1
  rw [hdr] at c2
  have htx : S.text sc = some (bs.drop torn) := by unfold HS.text; rw [c2, Option.bind_some, bytesOf_rows]
  have hq3 := h.fr (Fr.new (Nat.le_refl _) (.cells 1 [[.str []]] true))
  have c3 : (S.new (.cells 1 [[.str []]] true)).cut s (torn : Int) (s.len : Int) 1 = some sc := by
    obtain ⟨sa, sl, scp⟩ := s
    unfold HS.cut at c1 ⊢
    cases sa with
    | none => exact c1
    | some p =>
      have : p.1 < S.next := h.lt (.inr ⟨p, rfl, rfl⟩)
      simp only [new_old _ this]
      exact c1
  have ht3 : (S.new (.cells 1 [[.str []]] true)).text sc = some (bs.drop torn) := by
    obtain ⟨sc', c5, c6⟩ := rows_cut hq3.vec.rows (m := torn) (by omega)
    rw [hbr, ← hlen, c3] at c5
    cases c5
    unfold HS.text
    rw [c6, hdr, Option.bind_some, bytesOf_rows]
  refine ⟨(S.new (.cells 1 [[.str []]] true)).put S.next (.cells 1 [[.str (bs.drop torn)]] true), ?_, put_here _ _ _, rfl, (Fr.new (Nat.le_refl _) _).trans (Fr.put (Nat.le_refl _) _)⟩
  rw [sendq_Queue_Lines.f, if_neg (by simp), Option.bind_some, row_ldSl h.row rfl rfl, Option.bind_some, Option.bind_some, row_ldI h.row rfl rfl, Option.bind_some, c1, Option.bind_some, htx, Option.bind_some, letv, ht3, Option.bind_some, if_pos rfl, c3, Option.bind_some, if_pos rfl,
      row_ldI hq3.row rfl rfl, Option.bind_some, if_pos rfl, row_ldSl hq3.row rfl rfl, Option.bind_some, if_pos rfl, sets_cell _ (new_here _ _), Option.bind_some]
/-- The frame of 'lines' between two lines. -/
structure LI (S : HS) (n0 n1 : Nat) (acc : List (List UInt8)) (T : HS) : Prop where
  cM : T.heap n0 = .cells 1 [[.int .i64 50]] true
  c1 : T.heap (n0 + 1) = .cells 1 [[Sl.nil.hv]] true
  c2 : T.heap (n0 + 2) = .cells 1 [[.bool false]] true
  cO : ∃ o : Sl, T.heap (n0 + 3) = .cells 1 [[o.hv]] true ∧ Vec (n1 + 2) T 1 o (acc.map strRow)
  cD : T.heap n1 = .defer
  cL : T.heap (n1 + 1) = .loop .ready none
  fr : Fr n0 S T
  nx : n1 + 2 ≤ T.next
theorem step_spec {D : Dp} {H : Hd} {S T : HS} {n0 n1 : Nat} {acc : List (List UInt8)} {x : List UInt8} (hn : n0 + 4 ≤ n1) (h : LI S n0 n1 acc T) (ha : acc.length ≤ 50) :
    ∃ T', rollcalllaw08_lines.J0 D H (n1 + 1) (some (HA.cell0 n0)) (some (HA.cell0 (n0 + 1))) (some (HA.cell0 (n0 + 2))) (some (HA.cell0 (n0 + 3))) x T = some (.bool true, T') ∧ LI S n0 n1 (acc ++ [x]) T' := by
  obtain ⟨o, hO, vO⟩ := h.cO
  have hol : o.len = acc.length := by rw [vO.len]; simp
  unfold rollcalllaw08_lines.J0
  rw [begin_at h.cL, Option.bind_some]
  have b : ∀ id, id ≠ n1 + 1 → (T.put (n1 + 1) (.loop .busy none)).heap id = T.heap id := fun id hid => put_other _ hid
  have bL : (T.put (n1 + 1) (.loop .busy none)).heap (n1 + 1) = .loop .busy none := put_here _ _ _
  have bv : Vec (n1 + 2) (T.put (n1 + 1) (.loop .busy none)) 1 o (acc.map strRow) := vO.put_ne (fun q hq e => by have := vO.lo q hq; omega)
  have bn : (T.put (n1 + 1) (.loop .busy none)).next = T.next := rfl
  generalize T.put (n1 + 1) (.loop .busy none) = A at b bL bv bn ⊢
  have aO : A.heap (n0 + 3) = .cells 1 [[o.hv]] true := by rw [b _ (by omega)]; exact hO
  have aM : A.heap n0 = .cells 1 [[.int .i64 50]] true := by rw [b _ (by omega)]; exact h.cM
  rw [Option.bind_some, ldSl_cell aO, Option.bind_some, Option.bind_some, ldI_cell aM, Option.bind_some, if_neg (by rw [hol]; omega), Option.bind_some, ldSl_cell aO, Option.bind_some]
  simp only [letv]
  have hAn : n1 + 2 ≤ A.next := by rw [bn]; exact h.nx
  have f1 : Fr (n1 + 2) A (A.lit [[HV.str x]] 1).2 := lit_fr _ hAn
  have r1 : (A.lit [[HV.str x]] 1).2.rows (A.lit [[HV.str x]] 1).1 1 = some [[HV.str x]] := (Vec.lit (n := 0) (S := A) (z := 1) [[HV.str x]] (Nat.zero_le _)).rows
  have v1 := bv.frame (lit_fr (n := A.next) (z := 1) [[HV.str x]] (Nat.le_refl _)) (Nat.le_refl _)
  rw [r1, Option.bind_some]
  generalize (A.lit [[HV.str x]] 1).2 = B at f1 v1 ⊢
  obtain ⟨o2, C, e2, v2, f2⟩ := v1.app (new := [[HV.str x]]) (Nat.le_trans hAn f1.le) (by simp; omega)
  have f := f1.trans f2
  rw [e2, Option.bind_some, Option.bind_some]
  simp only []
  have cO : C.heap (n0 + 3) = .cells 1 [[o.hv]] true := by rw [f.eq _ (by omega)]; exact aO
  have cL : C.heap (n1 + 1) = .loop .busy none := by rw [f.eq _ (by omega)]; exact bL
  rw [sets_cell _ cO, Option.bind_some]
  have dL : (C.put (n0 + 3) (.cells 1 [[o2.hv]] true)).heap (n1 + 1) = .loop .busy none := by rw [put_other _ (by omega)]; exact cL
  rw [endr_at none dL]
  have keep : ∀ id, id < n1 + 2 → id ≠ n0 + 3 → id ≠ n1 + 1 → ((C.put (n0 + 3) (.cells 1 [[o2.hv]] true)).put (n1 + 1) (.loop .ready none)).heap id = T.heap id := fun id h1 h2 h3 => by
    rw [put_other _ h3, put_other _ h2, f.eq _ h1, b _ h3]
  refine ⟨_, rfl, ⟨?_, ?_, ?_, ⟨o2, ?_, ?_⟩, ?_, put_here _ _ _, ?_, ?_⟩⟩
  · exact (keep _ (by omega) (by omega) (by omega)).trans h.cM
  · exact (keep _ (by omega) (by omega) (by omega)).trans h.c1
  · exact (keep _ (by omega) (by omega) (by omega)).trans h.c2
  · rw [put_other _ (by omega)]; exact put_here _ _ _
  · have hv : acc.map strRow ++ [[HV.str x]] = (acc ++ [x]).map strRow := by simp [strRow]
    rw [hv] at v2
    exact (v2.put_ne (fun q hq e => by have := v2.lo q hq; omega)).put_ne (fun q hq e => by have := v2.lo q hq; omega)
  · exact (keep _ (by omega) (by omega) (by omega)).trans h.cD
  · refine ⟨?_, fun id hid => (keep id (by omega) (by omega) (by omega)).trans (h.fr.eq id hid)⟩
    have := h.fr.le; have := f.le
    show S.next ≤ C.next
    omega
  · have := f.le
    show n1 + 2 ≤ C.next
    omega
/-- What 'lines' does with a line. -/
def hand (n0 l : Nat) (D : Dp) (H : Hd) : List HV → HS → Option (HV × HS) := fun vs T =>
  Option.bind (HS.lp T l) fun _ => Option.bind (args1 vs) fun ar => Option.bind (dS ar) fun p =>
  rollcalllaw08_lines.J0 D H l (some (HA.cell0 n0)) (some (HA.cell0 (n0 + 1))) (some (HA.cell0 (n0 + 2))) (some (HA.cell0 (n0 + 3))) p T
theorem lines_spec {q : Nat} {s : Sl} {most : Int} {bs : List UInt8} {torn : Nat} {sent : Int} {over : Bool} {S : HS} {rest : List (List UInt8)} (h : QI q s most bs torn sent over S) (ht : torn ≤ bs.length) (hb : bs.drop torn = enc rest) (hc : Clean rest) (hn : rest.length ≤ 50) (hl : bs.length ≤ 1000000) :
    ∃ out S', rollcalllaw08_lines.f (disp 100000 4) (fun _ => none) (some (HA.cell0 q)) 50 S = some ((out, true), S') ∧ Vec S.next S' 1 out (rest.map strRow) ∧ Fr S.next S S' := by
  unfold rollcalllaw08_lines.f
  simp only [letv]
  have n4 : ((((S.new (.cells 1 [[.int .i64 50]] true)).new (.cells 1 [[Sl.nil.hv]] true)).new (.cells 1 [[.bool false]] true)).new (.cells 1 [[Sl.nil.hv]] true)).next = S.next + 4 := rfl
  have f4 : Fr S.next S ((((S.new (.cells 1 [[.int .i64 50]] true)).new (.cells 1 [[Sl.nil.hv]] true)).new (.cells 1 [[.bool false]] true)).new (.cells 1 [[Sl.nil.hv]] true)) :=
    (((Fr.new (Nat.le_refl _) _).trans (Fr.new (by simp only [new_next]; omega) _)).trans (Fr.new (by simp only [new_next]; omega) _)).trans (Fr.new (by simp only [new_next]; omega) _)
  have h0 : ((((S.new (.cells 1 [[.int .i64 50]] true)).new (.cells 1 [[Sl.nil.hv]] true)).new (.cells 1 [[.bool false]] true)).new (.cells 1 [[Sl.nil.hv]] true)).heap S.next = .cells 1 [[.int .i64 50]] true := by
    rw [new_old _ (by simp only [new_next]; omega), new_old _ (by simp only [new_next]; omega), new_old _ (by simp only [new_next]; omega)]; exact new_here _ _
  have h1 : ((((S.new (.cells 1 [[.int .i64 50]] true)).new (.cells 1 [[Sl.nil.hv]] true)).new (.cells 1 [[.bool false]] true)).new (.cells 1 [[Sl.nil.hv]] true)).heap (S.next + 1) = .cells 1 [[Sl.nil.hv]] true := by
    rw [new_old _ (by simp only [new_next]; omega), new_old _ (by simp only [new_next]; omega)]; exact new_here (S.new _) _
  have h2 : ((((S.new (.cells 1 [[.int .i64 50]] true)).new (.cells 1 [[Sl.nil.hv]] true)).new (.cells 1 [[.bool false]] true)).new (.cells 1 [[Sl.nil.hv]] true)).heap (S.next + 2) = .cells 1 [[.bool false]] true := by
    rw [new_old _ (by simp only [new_next]; omega)]; exact new_here ((S.new _).new _) _
  have h3 : ((((S.new (.cells 1 [[.int .i64 50]] true)).new (.cells 1 [[Sl.nil.hv]] true)).new (.cells 1 [[.bool false]] true)).new (.cells 1 [[Sl.nil.hv]] true)).heap (S.next + 3) = .cells 1 [[Sl.nil.hv]] true := new_here (((S.new _).new _).new _) _
  simp only [new_next]
  generalize ((((S.new (.cells 1 [[.int .i64 50]] true)).new (.cells 1 [[Sl.nil.hv]] true)).new (.cells 1 [[.bool false]] true)).new (.cells 1 [[Sl.nil.hv]] true)) = A at n4 f4 h0 h1 h2 h3 ⊢
  have hA := h.fr f4
  obtain ⟨B, e5, t5, n5, f5⟩ := qlines_spec hA ht
  rw [e5, Option.bind_some]
  simp only [HV.isNilFn, Option.bind_some]
  rw [if_neg (by simp), disp_func]
  simp only [show ¬ (25 : Nat) = 24 by decide, if_true, if_false]
  have n6 : ((B.new .defer).new (.loop .ready none)).next = B.next + 2 := rfl
  have f6 : Fr B.next B ((B.new .defer).new (.loop .ready none)) := (Fr.new (Nat.le_refl _) _).trans (Fr.new (by rw [new_next]; omega) _)
  have d6 : ((B.new .defer).new (.loop .ready none)).heap B.next = .defer := by rw [new_old _ (by rw [new_next]; omega)]; exact new_here _ _
  have l6 : ((B.new .defer).new (.loop .ready none)).heap (B.next + 1) = .loop .ready none := new_here (B.new .defer) _
  generalize (B.new .defer).new (.loop .ready none) = C at n6 f6 d6 l6 ⊢
  have hBn : B.next = S.next + 5 := by omega
  have fC : Fr A.next A C := f5.trans (f6.mono (by omega))
  have hI : LI S S.next B.next [] C := by
    refine ⟨?_, ?_, ?_, ⟨Sl.nil, ?_, .nil⟩, d6, l6, f4.trans (fC.mono (by omega)), by omega⟩
    · rw [fC.eq _ (by omega)]; exact h0
    · rw [fC.eq _ (by omega)]; exact h1
    · rw [fC.eq _ (by omega)]; exact h2
    · rw [fC.eq _ (by omega)]; exact h3
  have tC : C.heap A.next = .cells 1 [[.str (bs.drop torn)]] true := by rw [f6.eq _ (by omega)]; exact t5
  rw [call_25]
  simp only [List.nil_append, List.cons_append, args2, Option.bind_some, dF, dP]
  rw [sendq_Queue_Lines_2.f, Option.bind_some, ldS_cell tC, Option.bind_some, hb]
  have hlen : (enc rest).length ≤ 1000000 := by rw [← hb]; simp; omega
  generalize hK : Hd.set (fun _ => none) (B.next + 1) _ = K
  have hKl : K (B.next + 1) = some (hand S.next (B.next + 1) (disp 100000 4) (fun _ => none)) := by
    subst hK
    simp only [Hd.set, if_true]
    rfl
  obtain ⟨T, e7, hT⟩ := tells (I := LI S S.next B.next) (n0 := 2) (l := B.next + 1) (H := K) hKl rest [] 100000 C hc (by omega) hlen (fun a x b T' he hi => by
    have hax : a.length ≤ 50 := by
      have := congrArg List.length he
      simp at this; omega
    obtain ⟨T2, g1, g2⟩ := step_spec (D := disp 100000 4) (H := fun _ => none) (by omega) hi hax
    refine ⟨T2, ?_, g2⟩
    have hlp : T'.lp (B.next + 1) = some () := lp_at hi.cL
    rw [hand, hlp]
    simp only [Option.bind_some, args1, dS]
    exact g1) hI
  rw [e7, Option.bind_some]
  obtain ⟨o, hO, vO⟩ := hT.cO
  rw [List.nil_append] at vO
  have e8 : T.finish (B.next + 1) = some (none, T.put (B.next + 1) (.loop .exhausted none)) := by simp [HS.finish, hT.cL]
  rw [Option.bind_some]
  simp only [e8, Option.bind_some, pcode, if_true]
  have p1 : (T.put (B.next + 1) (.loop .exhausted none)).heap (S.next + 1) = .cells 1 [[Sl.nil.hv]] true := by rw [put_other _ (by omega)]; exact hT.c1
  have p2 : (T.put (B.next + 1) (.loop .exhausted none)).heap (S.next + 2) = .cells 1 [[.bool false]] true := by rw [put_other _ (by omega)]; exact hT.c2
  have p3 : (T.put (B.next + 1) (.loop .exhausted none)).heap (S.next + 3) = .cells 1 [[o.hv]] true := by rw [put_other _ (by omega)]; exact hO
  have pd : (T.put (B.next + 1) (.loop .exhausted none)).heap B.next = .defer := by rw [put_other _ (by omega)]; exact hT.cD
  have pv : Vec (B.next + 2) (T.put (B.next + 1) (.loop .exhausted none)) 1 o (rest.map strRow) := vO.put_ne (fun q hq e => by have := vO.lo q hq; omega)
  have pf : Fr S.next S (T.put (B.next + 1) (.loop .exhausted none)) := hT.fr.trans (Fr.put (by omega) _)
  generalize T.put (B.next + 1) (.loop .exhausted none) = C2 at p1 p2 p3 pd pv pf ⊢
  rw [show S.next + 1 + 1 = S.next + 2 from rfl, show S.next + 2 + 1 = S.next + 3 from rfl]
  have c2 : (C2.put (S.next + 1) (.cells 1 [[o.hv]] true)).heap (S.next + 2) = .cells 1 [[.bool false]] true := by rw [put_other _ (by omega)]; exact p2
  rw [ldSl_cell p3, Option.bind_some, sets_cell _ p1, Option.bind_some, sets_cell _ c2, Option.bind_some]
  have cd : ((C2.put (S.next + 1) (.cells 1 [[o.hv]] true)).put (S.next + 2) (.cells 1 [[.bool true]] true)).heap B.next = .defer := by rw [put_other _ (by omega), put_other _ (by omega)]; exact pd
  simp only [HS.leave, cd, Option.bind_some]
  have k1 : (((C2.put (S.next + 1) (.cells 1 [[o.hv]] true)).put (S.next + 2) (.cells 1 [[.bool true]] true)).put B.next .dead).heap (S.next + 1) = .cells 1 [[o.hv]] true := by rw [put_other _ (by omega), put_other _ (by omega)]; exact put_here _ _ _
  have k2 : (((C2.put (S.next + 1) (.cells 1 [[o.hv]] true)).put (S.next + 2) (.cells 1 [[.bool true]] true)).put B.next .dead).heap (S.next + 2) = .cells 1 [[.bool true]] true := by rw [put_other _ (by omega)]; exact put_here _ _ _
  rw [ldSl_cell k1, Option.bind_some, ldB_cell k2, Option.bind_some]
  have lo : ∀ i, i < B.next + 1 → ∀ q, o.a = some q → q.1 ≠ i := fun i hi q hq e => by have := pv.lo q hq; omega
  exact ⟨o, _, rfl, (((pv.put_ne (lo _ (by omega))).put_ne (lo _ (by omega))).put_ne (lo _ (by omega))).mono (by omega), ((pf.trans (Fr.put (by omega) _)).trans (Fr.put (by omega) _)).trans (Fr.put (by omega) _)⟩
end Go.Proofs.Ytpjabhpfaahgoaa.X
