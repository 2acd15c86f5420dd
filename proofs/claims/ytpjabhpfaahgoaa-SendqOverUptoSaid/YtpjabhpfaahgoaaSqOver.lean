/- The layer sendq: SendqOver, plain. -/
import Derived.Test.YtpjabhpfaahgoaaSqWhole
namespace Go.Proofs.Ytpjabhpfaahgoaa.X
open Go.Proofs.Ytpjabhpfaahgoaa.HL
set_option linter.unusedVariables false
theorem push_shut {k q : Nat} {s : Sl} {most : Int} {bs x : List UInt8} {torn sent : Int} {S : HS} (h : QI q s most bs torn sent true S) : sendq_Queue_Push.f k (some (HA.cell0 q)) x S = some (false, S) := by
  rw [sendq_Queue_Push.f, if_neg (by simp), Option.bind_some, row_ldB h.row rfl rfl, Option.bind_some, sendq_Queue_Push.J0, if_pos rfl, sendq_Queue_Push.J1, if_pos rfl, sendq_Queue_Push.J2, if_pos rfl]
theorem push_nil {k : Nat} {x : List UInt8} {S : HS} : sendq_Queue_Push.f k none x S = some (false, S) := by
  rw [sendq_Queue_Push.f, if_pos (by rfl), sendq_Queue_Push.J0, if_pos rfl, sendq_Queue_Push.J1, if_pos rfl, sendq_Queue_Push.J2, if_pos rfl]
theorem none_done {n : Nat} {H : Hd} {l : Nat} {S : HS} : disp 100000 (n + 2) H (.fn (.func 24) [] []) [.fn (.yield l) [] []] S = some (.tup [], S) := by
  rw [disp_func]
  simp only [if_true]
  rw [call_24]
  simp only [List.nil_append, List.append_nil, args1, Option.bind_some, dF, sendq_Queue_Lines_1.f]
theorem lines_nil {S : HS} : ∃ S', rollcalllaw08_lines.f (disp 100000 4) (fun _ => none) none 0 S = some ((Sl.nil, true), S') ∧ Fr S.next S S' := by
  unfold rollcalllaw08_lines.f
  simp only [letv]
  have e : ∀ T, sendq_Queue_Lines.f none T = some (.fn (.func 24) [] [], T) := fun T => by rw [sendq_Queue_Lines.f, if_pos (by rfl)]
  rw [e, Option.bind_some]
  simp only [HV.isNilFn, Option.bind_some]
  rw [if_neg (by simp)]
  simp only [new_next]
  have n4 : ((((S.new (.cells 1 [[.int .i64 0]] true)).new (.cells 1 [[Sl.nil.hv]] true)).new (.cells 1 [[.bool false]] true)).new (.cells 1 [[Sl.nil.hv]] true)).next = S.next + 4 := rfl
  have f4 : Fr S.next S ((((S.new (.cells 1 [[.int .i64 0]] true)).new (.cells 1 [[Sl.nil.hv]] true)).new (.cells 1 [[.bool false]] true)).new (.cells 1 [[Sl.nil.hv]] true)) :=
    (((Fr.new (Nat.le_refl _) _).trans (Fr.new (by simp only [new_next]; omega) _)).trans (Fr.new (by simp only [new_next]; omega) _)).trans (Fr.new (by simp only [new_next]; omega) _)
  have h1 : ((((S.new (.cells 1 [[.int .i64 0]] true)).new (.cells 1 [[Sl.nil.hv]] true)).new (.cells 1 [[.bool false]] true)).new (.cells 1 [[Sl.nil.hv]] true)).heap (S.next + 1) = .cells 1 [[Sl.nil.hv]] true := by
    rw [new_old _ (by simp only [new_next]; omega), new_old _ (by simp only [new_next]; omega)]; exact new_here (S.new _) _
  have h2 : ((((S.new (.cells 1 [[.int .i64 0]] true)).new (.cells 1 [[Sl.nil.hv]] true)).new (.cells 1 [[.bool false]] true)).new (.cells 1 [[Sl.nil.hv]] true)).heap (S.next + 2) = .cells 1 [[.bool false]] true := by
    rw [new_old _ (by simp only [new_next]; omega)]; exact new_here ((S.new _).new _) _
  have h3 : ((((S.new (.cells 1 [[.int .i64 0]] true)).new (.cells 1 [[Sl.nil.hv]] true)).new (.cells 1 [[.bool false]] true)).new (.cells 1 [[Sl.nil.hv]] true)).heap (S.next + 3) = .cells 1 [[Sl.nil.hv]] true := new_here (((S.new _).new _).new _) _
  generalize ((((S.new (.cells 1 [[.int .i64 0]] true)).new (.cells 1 [[Sl.nil.hv]] true)).new (.cells 1 [[.bool false]] true)).new (.cells 1 [[Sl.nil.hv]] true)) = A at n4 f4 h1 h2 h3 ⊢
  have n6 : ((A.new .defer).new (.loop .ready none)).next = A.next + 2 := rfl
  have f6 : Fr A.next A ((A.new .defer).new (.loop .ready none)) := (Fr.new (Nat.le_refl _) _).trans (Fr.new (by rw [new_next]; omega) _)
  have d6 : ((A.new .defer).new (.loop .ready none)).heap A.next = .defer := by rw [new_old _ (by rw [new_next]; omega)]; exact new_here _ _
  have l6 : ((A.new .defer).new (.loop .ready none)).heap (A.next + 1) = .loop .ready none := new_here (A.new .defer) _
  rw [show S.next + 1 + 1 + 1 + 1 + 1 = A.next + 1 by omega, show S.next + 1 + 1 + 1 + 1 = A.next by omega, none_done, Option.bind_some]
  generalize (A.new .defer).new (.loop .ready none) = B at n6 f6 d6 l6 ⊢
  have e7 : B.finish (A.next + 1) = some (none, B.put (A.next + 1) (.loop .exhausted none)) := by simp [HS.finish, l6]
  rw [e7, Option.bind_some]
  simp only [pcode, Option.bind_some, if_true]
  have g1 : (B.put (A.next + 1) (.loop .exhausted none)).heap (S.next + 1) = .cells 1 [[Sl.nil.hv]] true := by rw [put_other _ (by omega), f6.eq _ (by omega)]; exact h1
  have g2 : (B.put (A.next + 1) (.loop .exhausted none)).heap (S.next + 2) = .cells 1 [[.bool false]] true := by rw [put_other _ (by omega), f6.eq _ (by omega)]; exact h2
  have g3 : (B.put (A.next + 1) (.loop .exhausted none)).heap (S.next + 3) = .cells 1 [[Sl.nil.hv]] true := by rw [put_other _ (by omega), f6.eq _ (by omega)]; exact h3
  have gd : (B.put (A.next + 1) (.loop .exhausted none)).heap A.next = .defer := by rw [put_other _ (by omega)]; exact d6
  have gf : Fr S.next S (B.put (A.next + 1) (.loop .exhausted none)) := (f4.trans (f6.mono (by omega))).trans (Fr.put (by omega) _)
  generalize B.put (A.next + 1) (.loop .exhausted none) = C at g1 g2 g3 gd gf ⊢
  have c2 : (C.put (S.next + 1) (.cells 1 [[Sl.nil.hv]] true)).heap (S.next + 2) = .cells 1 [[.bool false]] true := by rw [put_other _ (by omega)]; exact g2
  rw [show S.next + 1 + 1 = S.next + 2 from rfl, show S.next + 2 + 1 = S.next + 3 from rfl]
  rw [ldSl_cell g3, Option.bind_some, sets_cell _ g1, Option.bind_some, sets_cell _ c2, Option.bind_some]
  have cd : ((C.put (S.next + 1) (.cells 1 [[Sl.nil.hv]] true)).put (S.next + 2) (.cells 1 [[.bool true]] true)).heap A.next = .defer := by rw [put_other _ (by omega), put_other _ (by omega)]; exact gd
  simp only [HS.leave, cd, Option.bind_some]
  have k1 : (((C.put (S.next + 1) (.cells 1 [[Sl.nil.hv]] true)).put (S.next + 2) (.cells 1 [[.bool true]] true)).put A.next .dead).heap (S.next + 1) = .cells 1 [[Sl.nil.hv]] true := by rw [put_other _ (by omega), put_other _ (by omega)]; exact put_here _ _ _
  have k2 : (((C.put (S.next + 1) (.cells 1 [[Sl.nil.hv]] true)).put (S.next + 2) (.cells 1 [[.bool true]] true)).put A.next .dead).heap (S.next + 2) = .cells 1 [[.bool true]] true := by rw [put_other _ (by omega)]; exact put_here _ _ _
  rw [ldSl_cell k1, Option.bind_some, ldB_cell k2, Option.bind_some]
  exact ⟨_, rfl, ((gf.trans (Fr.put (by omega) _)).trans (Fr.put (by omega) _)).trans (Fr.put (by omega) _)⟩

theorem over_end {D : Dp} {k p m : Nat} {y1 : List UInt8} {y7 : Sl} {sp : Sl} {bs : List UInt8} {tp : Int} {S : HS} (hP : QI p sp 512 bs tp 0 true S) (t1 : 0 ≤ tp) (t2 : tp ≤ 1000000) (hb : bs.length ≤ 512) (hm : m ≤ 510) (hl : y7.len = m) (hfit : ¬ ((bs.length : Int) + m + 2 ≤ 512)) {rec0 : List UInt8 → Option HA → Sl → Int → HS → Option (Bool × HS)} {i : Int} :
    ∃ S', rollcalllaw08_SendqOver.J2 (disp 100000 4) (fun _ => none) 100000 rec0 y1 (some (HA.cell0 p)) y7 i false S = some (true, S') := by
  rw [rollcalllaw08_SendqOver.J2, if_neg (by simp), qover_spec hP, Option.bind_some, if_neg (by simp), qlen_spec hP, Option.bind_some, show decide ((bs.length : Int) > 512) = false by simp; omega, rollcalllaw08_SendqOver.J3, if_neg (by simp), qlen_spec hP, Option.bind_some, hl, w64_id (by omega) (by omega), w64_id (by omega) (by omega),
    show decide (512 - (bs.length : Int) ≥ (m : Int) + 2) = false by simp; omega, rollcalllaw08_SendqOver.J4, if_neg (by simp)]
  obtain ⟨out, sp', tp', S1, e1, q1, ⟨_, b1, b2⟩, x1, z1, o1⟩ := drain_spec (k := 100000) hP (by omega) (by omega) t1 t2 (by omega) (by omega) 512
  have hd : dn 512 bs = bs.length := by unfold dn mx mn; repeat' split; all_goals omega
  rw [hd, List.drop_length] at q1
  obtain ⟨S2, e2, f2⟩ := lines_nil (S := S1)
  have q2 := q1.fr f2
  have ed : ∀ T, sendq_Queue_Drain.f 100000 none 9 T = some (Sl.nil, T) := fun T => by rw [sendq_Queue_Drain.f, if_pos (by rfl)]
  have el : ∀ T, sendq_Queue_Len.f none T = some (0, T) := fun T => by rw [sendq_Queue_Len.f, if_pos (by rfl)]
  have es : ∀ T, sendq_Queue_Sent.f none T = some (0, T) := fun T => by rw [sendq_Queue_Sent.f, if_pos (by rfl)]
  have eo : ∀ T, sendq_Queue_Over.f none T = some (false, T) := fun T => by rw [sendq_Queue_Over.f, if_neg (by simp), sendq_Queue_Over.J0]
  rw [e1, Option.bind_some, e2, Option.bind_some, push_shut q2, Option.bind_some, if_pos (by simp), qover_spec q2, Option.bind_some, rollcalllaw08_SendqOver.J5, if_pos rfl, qlen_spec q2, Option.bind_some, rollcalllaw08_SendqOver.J6, if_pos (by simp), push_nil, Option.bind_some, rollcalllaw08_SendqOver.J7, if_pos (by simp), ed, Option.bind_some, rollcalllaw08_SendqOver.J8, if_pos (by simp [Sl.nil]), el, Option.bind_some, rollcalllaw08_SendqOver.J9, if_pos (by simp), es, Option.bind_some, rollcalllaw08_SendqOver.J10, if_pos (by simp), eo, Option.bind_some, rollcalllaw08_SendqOver.J11, if_pos (by simp), rollcalllaw08_SendqOver.J12, if_pos rfl, rollcalllaw08_SendqOver.J13]
  exact ⟨_, by simp [Sl.nil]; rfl⟩
theorem over_loop {p m : Nat} {y1 : List UInt8} {y7 : Sl} (hm : m ≤ 510) (hl : y7.len = m) : ∀ (f i : Nat) (S : HS) (sp : Sl) (bs : List UInt8), 600 - i < f → bs.length = i * (m + 2) → bs.length ≤ 512 → QI p sp 512 bs 0 0 false S → Txt S y7 (List.replicate m 120) → (∀ x, y7.a = some x → ¬ Own p sp x.1) →
    ∃ S', rollcalllaw08_SendqOver.L1 (disp 100000 4) (fun _ => none) 100000 f y1 (some (HA.cell0 p)) y7 (i : Int) S = some (true, S') := by
  have hall : ∀ n, (List.replicate n (120 : UInt8)).all (isOf 64) = true := by
    intro n
    have h0 : isOf 64 120 = true := by decide +kernel
    rw [List.all_eq_true]
    intro x hx
    rw [List.eq_of_mem_replicate hx]; exact h0
  intro f
  induction f with
  | zero => intro i S sp bs h; omega
  | succ f ih =>
    intro i S sp bs hf hbl hb hP ht hno
    have hi : i ≤ 256 := by
      have : i * 2 ≤ i * (m + 2) := Nat.mul_le_mul_left i (by omega)
      omega
    unfold rollcalllaw08_SendqOver.L1
    obtain ⟨sp', S1, e1, q1, o1⟩ := push_spec (k := 100000) (x := List.replicate m 120) hP (by simp; omega) (by omega) (by omega)
    have hmay : may false (List.replicate m 120) = true := by simp only [may, hall, List.length_replicate]; simp; omega
    rw [if_pos (by omega), ht.1, Option.bind_some, e1, Option.bind_some]
    have ht1 : Txt S1 y7 (List.replicate m 120) := ht.keep (fun x hx => o1.eq _ (ht.2.2 x hx) (hno x hx)) o1.le
    by_cases hfit : (bs.length : Int) + m + 2 ≤ 512
    · have hf' : fits 512 bs (List.replicate m 120) = true := by simp [fits]; omega
      rw [hmay, hf'] at q1 ⊢
      rw [show (true && true) = true from rfl, if_pos rfl] at q1
      rw [show (true && true) = true from rfl, rollcalllaw08_SendqOver.J2, if_pos rfl, qover_spec q1, Option.bind_some, if_neg (by simp), w64_id (by omega) (by omega), show ((i : Int) + 1) = ((i + 1 : Nat) : Int) by simp]
      have hlen : (bs ++ List.replicate m 120 ++ [13, 10]).length = (i + 1) * (m + 2) := by
        simp only [List.length_append, List.length_replicate, List.length_cons, List.length_nil, hbl, Nat.add_mul, Nat.one_mul]; omega
      refine ih (i + 1) S1 sp' _ (by omega) hlen (by simp only [List.length_append, List.length_replicate, List.length_cons, List.length_nil]; omega) q1 ht1 (fun x hx ho => ?_)
      rcases o1.own _ ho with g | g
      · exact hno x hx g
      · have := ht.2.2 x hx; omega
    · have hf' : fits 512 bs (List.replicate m 120) = false := by simp [fits]; omega
      rw [hmay, hf'] at q1 ⊢
      rw [show (true && false) = false from rfl, if_neg (by simp)] at q1
      exact over_end (D := disp 100000 4) (k := 100000) (m := m) q1 (by omega) (by omega) hb hm hl hfit
theorem fill_loop {p m : Nat} {y1 : List UInt8} {y7 : Sl} {g : Nat} (hm : m ≤ 510) (hp : p < g) : ∀ (f i : Nat) (S : HS), m - i < f → i ≤ m → Vec g S 1 y7 (List.replicate i [HV.int .u8 120] ++ List.replicate (m - i) [HV.int .u8 0]) → QI p Sl.nil 512 [] 0 0 false S →
    ∃ S', rollcalllaw08_SendqOver.L0 (disp 100000 4) (fun _ => none) 100000 f y1 (some (HA.cell0 p)) y7 (i : Int) S = some (true, S') := by
  intro f
  induction f with
  | zero => intro i S h; omega
  | succ f ih =>
    intro i S hf hi hv hP
    have hyl : y7.len = m := by rw [hv.len]; simp; omega
    unfold rollcalllaw08_SendqOver.L0
    by_cases hlt : i < m
    · have hil : i < (List.replicate i [HV.int .u8 120] ++ List.replicate (m - i) [HV.int .u8 0]).length := by simp; omega
      obtain ⟨ad, T, e1, e2, e3, e4, v2, f2, n2, k2⟩ := hv.set_ (i := i) (row := [.int .u8 120]) hil (by rw [List.getElem_append_right (by simp)]; simp)
      rw [hyl, if_pos (by omega), e1, Option.bind_some, e4, Option.bind_some, w64_id (by omega) (by omega), show ((i : Int) + 1) = ((i + 1 : Nat) : Int) by simp]
      refine ih (i + 1) T (by omega) (by omega) ?_ (hP.keep (fun id ho => ?_) (by rw [n2]; exact Nat.le_refl _))
      · have : (List.replicate i [HV.int .u8 120] ++ List.replicate (m - i) [HV.int .u8 0]).set i [HV.int .u8 120] = List.replicate (i + 1) [HV.int .u8 120] ++ List.replicate (m - (i + 1)) [HV.int .u8 0] := by
          rw [List.set_append_right _ _ (by simp), List.length_replicate, Nat.sub_self, show m - i = (m - (i + 1)) + 1 by omega, List.replicate_succ, List.set_cons_zero, List.replicate_succ', List.append_assoc]; rfl
        rw [this] at v2; exact v2
      · rcases ho with rfl | ⟨x, hx, _⟩
        · exact f2.eq _ hp
        · cases hx
    · obtain rfl : i = m := by omega
      rw [hyl, if_neg (by omega)]
      rw [Nat.sub_self, List.replicate_zero, List.append_nil] at hv
      have ht : Txt S y7 (List.replicate i 120) := by
        refine ⟨?_, by rw [hyl]; simp, fun x hx => (hv.lo x hx).2⟩
        have hr : S.rows y7 1 = some (bytesRows (List.replicate i 120)) := by rw [hv.rows]; simp [bytesRows]
        unfold HS.text
        rw [hr, Option.bind_some, bytesOf_rows]
      have := over_loop (p := p) (m := i) (y1 := y1) (y7 := y7) hm hyl 100000 0 S Sl.nil [] (by omega) (by simp) (by simp) hP ht (fun x hx ho => by
        rcases ho with e | ⟨q, hq, _⟩
        · have := (hv.lo x hx).1; omega
        · cases hq)
      simpa using this
theorem sendqOver_law {S : HS} {x0 : Int} (h0 : 0 ≤ x0) (h1 : x0 ≤ 65535) (x1 : List UInt8) : ∃ S', rollcalllaw08_SendqOver.f (disp 100000 4) (fun _ => none) 100000 x0 x1 S = some (true, S') := by
  unfold rollcalllaw08_SendqOver.f
  obtain ⟨S1, e1, f1⟩ := awake_spec (S := S)
  obtain ⟨A, e2, q2, f2, n2⟩ := qnew_spec (most := 512) (S := S1) (by omega) (by omega)
  rw [e1, Option.bind_some, if_neg (by simp), e2, Option.bind_some, if_neg (by simp), w64_id (by omega) (by omega)]
  obtain ⟨m, hm⟩ : ∃ m : Nat, Int.tmod x0 511 = (m : Int) := ⟨(Int.tmod x0 511).toNat, by rw [Int.tmod_eq_emod_of_nonneg h0]; omega⟩
  have hm510 : m ≤ 510 := by rw [Int.tmod_eq_emod_of_nonneg h0] at hm; omega
  obtain ⟨y7, B, e3, v3, f3⟩ := Vec.makeN (m := A.next) (S := A) (n := m) (c := m) (zr := [.int .u8 0]) (Nat.le_refl _) (Nat.le_refl _) (by omega)
  rw [hm, e3, Option.bind_some]
  have := fill_loop (p := S1.next) (m := m) (y1 := x1) (y7 := y7) (g := A.next) hm510 (by omega) 100000 0 B (by omega) (by omega) (by simpa using v3) (q2.fr f3)
  simpa using this
theorem sendqOver_call (W : World) (n : Int) (w : (Lit.int .u16 n).wf = true) (a : List UInt8) : HCall Try.prog W.heap.size W B0 6 [.int .u16 n, .str a] S0 (fun v _ => v = .bool true) := by
  have hn : 0 ≤ n ∧ n ≤ 65535 := by simpa [Lit.wf, IntKind.min, IntKind.max, IntKind.signed, IntKind.bits] using w
  obtain ⟨_, h⟩ := sendqOver_law (S := S0) hn.1 hn.2 a
  exact (rollcalllaw08_SendqOver.snd (disp_snd 4) (fun _ _ h => by cases h) h).mono fun _ _ h => h.1
end Go.Proofs.Ytpjabhpfaahgoaa.X
