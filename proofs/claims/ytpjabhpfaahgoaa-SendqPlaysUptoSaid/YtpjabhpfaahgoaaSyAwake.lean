/- The layer sendq: what the document tells. -/
import Derived.Test.YtpjabhpfaahgoaaSyBase
namespace Go.Proofs.Ytpjabhpfaahgoaa.X
open Go.Proofs.Ytpjabhpfaahgoaa.HL
set_option linter.unusedVariables false
theorem lines_done {n : Nat} {H : Hd} {l c : Nat} {S : HS} (hc : S.heap c = .cells 1 [[.str []]] true) : disp 100000 (n + 2) H (.fn (.func 25) [] [.ptr (some (HA.cell0 c))]) [.fn (.yield l) [] []] S = some (.tup [], S) := by
  rw [disp_func]
  simp only [show ¬ (25 : Nat) = 24 by decide, if_true, if_false]
  rw [call_25]
  simp only [List.nil_append, List.cons_append, args2, Option.bind_some, dF, dP]
  have : sendq_Queue_Lines_2.f (disp 100000 (n + 1)) H 100000 (.fn (.yield l) [] []) (some (HA.cell0 c)) S = some ((), S) := by
    rw [sendq_Queue_Lines_2.f, Option.bind_some, ldS_cell hc, Option.bind_some]
    show sendq_Queue_Lines_2.L0 (disp 100000 (n + 1)) H 100000 (99999 + 1) _ _ _ = _
    rw [sendq_Queue_Lines_2.L0, if_neg (by simp)]
  rw [this]
  rfl
theorem awake_spec {S : HS} : ∃ S', rollcalllaw08_awake.f (disp 100000 4) (fun _ => none) 100000 S = some (true, S') ∧ Fr S.next S S' := by
  unfold rollcalllaw08_awake.f
  obtain ⟨S0, e0, q0, f0, n0⟩ := qnew_spec (most := 512) (S := S) (by omega) (by omega)
  obtain ⟨s1, S1, e1, q1, o1⟩ := push_spec (k := 100000) (x := [97]) q0 (by simp) (by simp) (by omega)
  have d1 : (may false [97] && fits 512 [] [97]) = true := by decide +kernel
  have d1' : (false || (may false [97] && !fits 512 [] [97])) = false := by decide +kernel
  rw [d1] at e1 q1
  rw [d1', if_pos rfl] at q1
  obtain ⟨s2, S2, e2, q2, o2⟩ := push_spec (k := 100000) (x := [98, 99]) q1 (by simp) (by simp) (by omega)
  have d2 : (may false [98, 99] && fits 512 ([] ++ [97] ++ [13, 10]) [98, 99]) = true := by decide +kernel
  have d2' : (false || (may false [98, 99] && !fits 512 ([] ++ [97] ++ [13, 10]) [98, 99])) = false := by decide +kernel
  rw [d2] at e2 q2
  rw [d2', if_pos rfl] at q2
  obtain ⟨out, s3, t3, S3, e3, q3, ⟨h3, _⟩, x3, y3, o3⟩ := drain_spec (k := 100000) q2 (by simp) (by simp) (by omega) (by omega) (by omega) (by omega) 4
  have d3 : dn 4 ([] ++ [97] ++ [13, 10] ++ [98, 99] ++ [13, 10]) = 4 := by decide
  rw [d3] at q3 h3 x3
  have d4 : tornP 100000 ([] ++ [97] ++ [13, 10] ++ [98, 99] ++ [13, 10]) 0 ((4 : Nat) : Int) = 3 := by decide +kernel
  rw [d4] at h3
  subst h3
  rw [e0, Option.bind_some, if_neg (by simp), e1, Option.bind_some, rollcalllaw08_awake.J0, if_neg (by simp), e2, Option.bind_some, rollcalllaw08_awake.J1, if_neg (by simp), e3, Option.bind_some, x3.1, Option.bind_some, rollcalllaw08_awake.J2, if_neg (by decide)]
  have hO : Only S.next Sl.nil s3 S0 S3 := (o1.trans o2).trans o3
  have hge : S.next + 1 ≤ S3.next := by have := hO.le; omega
  have hfr : Fr S.next S S3 := ⟨by omega, fun id hid => by rw [hO.eq id (by omega) (fun ho => by rcases ho with e | ⟨p, g, _⟩; omega; cases g), f0.eq id hid]⟩
  -- the lines
  have hcell := q3.cell
  have hlen : s3.len = 3 := by rw [q3.len]; rfl
  obtain ⟨sc, c1, c2⟩ := rows_cut q3.vec.rows (m := 3) (by rw [bytesRows_len]; decide)
  have c1' : S3.cut s3 3 (s3.len : Int) 1 = some sc := by rw [hlen]; exact c1
  have hrows : S3.rows sc 1 = some [] := c2
  have htx : S3.text sc = some [] := by unfold HS.text; rw [hrows]; rfl
  have hq3 := q3.fr (Fr.new (Nat.le_refl _) (.cells 1 [[.str []]] true))
  have c3 : (S3.new (.cells 1 [[.str []]] true)).cut s3 3 (s3.len : Int) 1 = some sc := by
    obtain ⟨sa, sl, scp⟩ := s3
    unfold HS.cut at c1' ⊢
    cases sa with
    | none => exact c1'
    | some p =>
      have : p.1 < S3.next := q3.lt (.inr ⟨p, rfl, rfl⟩)
      simp only [new_old _ this]
      exact c1'
  have ht3 : (S3.new (.cells 1 [[.str []]] true)).text sc = some [] := by
    obtain ⟨sc', c5, c6⟩ := rows_cut hq3.vec.rows (m := 3) (by rw [bytesRows_len]; decide)
    have c5' : (S3.new (.cells 1 [[.str []]] true)).cut s3 3 (s3.len : Int) 1 = some sc' := by rw [hlen]; exact c5
    rw [c3] at c5'
    cases c5'
    unfold HS.text
    rw [c6]; rfl
  have elines : sendq_Queue_Lines.f (some (HA.cell0 S.next)) S3 = some (.fn (.func 25) [] [.ptr (some (HA.cell0 S3.next))], (S3.new (.cells 1 [[.str []]] true)).put S3.next (.cells 1 [[.str []]] true)) := by
    rw [sendq_Queue_Lines.f, if_neg (by simp), Option.bind_some, row_ldSl q3.row rfl rfl, Option.bind_some, Option.bind_some, row_ldI q3.row rfl rfl, Option.bind_some, c1', Option.bind_some, htx, Option.bind_some, letv, ht3, Option.bind_some, if_pos rfl, c3, Option.bind_some, if_pos rfl,
      row_ldI hq3.row rfl rfl, Option.bind_some, if_pos rfl, row_ldSl hq3.row rfl rfl, Option.bind_some, if_pos rfl, sets_cell _ (new_here _ _), Option.bind_some]
  rw [elines, Option.bind_some]
  simp only [HV.isNilFn, Option.bind_some]
  rw [if_neg (by simp)]
  have f4 : Fr S3.next S3 ((S3.new (.cells 1 [[.str []]] true)).put S3.next (.cells 1 [[.str []]] true)) := (Fr.new (Nat.le_refl _) _).trans (Fr.put (Nat.le_refl _) _)
  have h4 : ((S3.new (.cells 1 [[.str []]] true)).put S3.next (.cells 1 [[.str []]] true)).heap S3.next = .cells 1 [[.str []]] true := put_here _ _ _
  have n4 : ((S3.new (.cells 1 [[.str []]] true)).put S3.next (.cells 1 [[.str []]] true)).next = S3.next + 1 := rfl
  generalize (S3.new (.cells 1 [[.str []]] true)).put S3.next (.cells 1 [[.str []]] true) = S4 at f4 h4 n4 ⊢
  rw [letv, sets_cell _ (new_here _ _), Option.bind_some]
  have f5 : Fr S4.next S4 ((S4.new (.cells 1 [[.int .i64 0]] true)).put S4.next (.cells 1 [[.int .i64 0]] true)) := (Fr.new (Nat.le_refl _) _).trans (Fr.put (Nat.le_refl _) _)
  have h5 : ((S4.new (.cells 1 [[.int .i64 0]] true)).put S4.next (.cells 1 [[.int .i64 0]] true)).heap S4.next = .cells 1 [[.int .i64 0]] true := put_here _ _ _
  have n5 : ((S4.new (.cells 1 [[.int .i64 0]] true)).put S4.next (.cells 1 [[.int .i64 0]] true)).next = S4.next + 1 := rfl
  generalize (S4.new (.cells 1 [[.int .i64 0]] true)).put S4.next (.cells 1 [[.int .i64 0]] true) = S5 at f5 h5 n5 ⊢
  have f6 : Fr S5.next S5 ((S5.new .defer).new (.loop .ready none)) := (Fr.new (Nat.le_refl _) _).trans (Fr.new (by rw [new_next]; omega) _)
  have d6 : ((S5.new .defer).new (.loop .ready none)).heap S5.next = .defer := by rw [new_old _ (by rw [new_next]; omega)]; exact new_here _ _
  have l6 : ((S5.new .defer).new (.loop .ready none)).heap (S5.next + 1) = .loop .ready none := new_here (S5.new .defer) _
  have n6 : ((S5.new .defer).new (.loop .ready none)).next = S5.next + 2 := rfl
  generalize (S5.new .defer).new (.loop .ready none) = S6 at f6 d6 l6 n6 ⊢
  have hc6 : S6.heap S3.next = .cells 1 [[.str []]] true := by rw [f6.eq _ (by omega), f5.eq _ (by omega)]; exact h4
  rw [lines_done hc6, Option.bind_some]
  have e7 : S6.finish (S5.next + 1) = some (none, S6.put (S5.next + 1) (.loop .exhausted none)) := by simp [HS.finish, l6]
  rw [e7, Option.bind_some]
  simp only [pcode, Option.bind_some, if_true]
  have hq7 : QI S.next s3 512 [99, 13, 10] 3 4 false (S6.put (S5.next + 1) (.loop .exhausted none)) := by
    refine (q3.keep (S' := S6.put (S5.next + 1) (.loop .exhausted none)) (fun id ho => ?_) (by rw [put_next]; omega))
    have := q3.lt ho
    rw [put_other _ (by omega), f6.eq _ (by omega), f5.eq _ (by omega), f4.eq _ this]
  have hk7 : (S6.put (S5.next + 1) (.loop .exhausted none)).heap S4.next = .cells 1 [[.int .i64 0]] true := by rw [put_other _ (by omega), f6.eq _ (by omega)]; exact h5
  have hd7 : (S6.put (S5.next + 1) (.loop .exhausted none)).heap S5.next = .defer := by rw [put_other _ (by omega)]; exact d6
  have hf7 : Fr S.next S3 (S6.put (S5.next + 1) (.loop .exhausted none)) := ((f4.mono (by omega)).trans (f5.mono (by omega))).trans ((f6.mono (by omega)).trans (Fr.put (by omega) _))
  generalize S6.put (S5.next + 1) (.loop .exhausted none) = S7 at hq7 hk7 hd7 hf7 ⊢
  rw [ldI_cell hk7, Option.bind_some, if_pos rfl, qlen_spec hq7, Option.bind_some]
  simp only [List.length_cons, List.length_nil]
  rw [show decide (((0 + 1 + 1 + 1 : Nat) : Int) = 3) = true by decide, rollcalllaw08_awake.J4, if_pos rfl, qsent_spec hq7, Option.bind_some, show decide ((4 : Int) = 4) = true by decide, rollcalllaw08_awake.J5]
  simp only [HS.leave, hd7, Option.bind_some]
  exact ⟨_, rfl, hfr.trans (hf7.trans (Fr.put (by omega) _))⟩
end Go.Proofs.Ytpjabhpfaahgoaa.X
