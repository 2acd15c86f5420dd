/- The layer sendq: the lines that wait, plain. -/
import Derived.Test.YtpjabhpfaahgoaaSyRef
namespace Go.Proofs.Ytpjabhpfaahgoaa.X
open Go.Proofs.Ytpjabhpfaahgoaa.HL
set_option linter.unusedVariables false
theorem rlines_loop {k x m sent : Nat} {sl : Sl} {most : Int} {ls : List (List UInt8)} {over : Bool} (hl : (enc ls).length ≤ 1000000) (hn : ls.length ≤ 1000) (hs : sent ≤ 1000000) (hlo : ∀ id, Own x sl id → id < m) : ∀ (n i f : Nat) (out : Sl) (acc : List (List UInt8)) (S : HS), ls.length - i < n → i ≤ ls.length → f + (enc (ls.drop i)).length ≤ 1000000 → acc.length ≤ i → m ≤ S.next → RI x sl most ls sent over S → Vec m S 1 out (acc.map strRow) →
    ∃ out' S', rollcallref08_Queue_Lines.L0 k n (some (HA.cell0 x)) out (f : Int) (i : Int) S = some (out', S') ∧ Vec m S' 1 out' ((acc ++ refL (ls.drop i) f sent).map strRow) ∧ Fr m S S' := by
  intro n
  induction n with
  | zero => intro i f out acc S h; omega
  | succ n ih =>
    intro i f out acc S h hi hf ha hm hR hV
    unfold rollcallref08_Queue_Lines.L0
    have hlen : sl.len = ls.length := by rw [hR.vec.len]; simp
    rw [Option.bind_some, row_ldSl hR.row rfl rfl, Option.bind_some, hlen]
    by_cases hlt : i < ls.length
    · have hd := List.drop_eq_getElem_cons hlt
      rw [hd, enc_len_cons] at hf
      have hj : ∀ (out2 : Sl) (acc2 : List (List UInt8)) (S2 : HS), acc2.length ≤ i + 1 → m ≤ S2.next → RI x sl most ls sent over S2 → Vec m S2 1 out2 (acc2.map strRow) →
          ∃ out' S', rollcallref08_Queue_Lines.J1 k (rollcallref08_Queue_Lines.L0 k n) (some (HA.cell0 x)) out2 (f : Int) (i : Int) S2 = some (out', S') ∧ Vec m S' 1 out' ((acc2 ++ refL (ls.drop (i + 1)) (f + ls[i].length + 2) sent).map strRow) ∧ Fr m S2 S' := by
        intro out2 acc2 S2 h1 h2 h3 h4
        obtain ⟨ad, a1, a2⟩ := str_rows h3.vec.rows hlt
        rw [rollcallref08_Queue_Lines.J1, Option.bind_some, row_ldSl h3.row rfl rfl, Option.bind_some, a1, Option.bind_some, a2, Option.bind_some]
        have e1 : w64 (w64 ((f : Int) + (ls[i].length : Int)) + 2) = ((f + ls[i].length + 2 : Nat) : Int) := by rw [w64_id (n := (f : Int) + (ls[i].length : Int)) (by omega) (by omega), w64_id (by omega) (by omega)]; simp
        have e2 : w64 ((i : Int) + 1) = ((i + 1 : Nat) : Int) := by rw [w64_id (by omega) (by omega)]; simp
        rw [e1, e2]
        exact ih (i + 1) _ out2 acc2 S2 (by omega) (by omega) (by omega) h1 h2 h3 h4
      rw [if_pos (by omega), Option.bind_some, row_ldI hR.row rfl rfl, Option.bind_some, hd, refL]
      by_cases hge : (f : Int) ≥ (sent : Int)
      · obtain ⟨ad, a1, a2⟩ := str_rows hR.vec.rows hlt
        rw [if_pos hge, Option.bind_some, row_ldSl hR.row rfl rfl, Option.bind_some, a1, Option.bind_some, a2, Option.bind_some]
        simp only [letv]
        have f1 : Fr m S (S.lit [[HV.str ls[i]]] 1).2 := lit_fr _ hm
        have r1 : (S.lit [[HV.str ls[i]]] 1).2.rows (S.lit [[HV.str ls[i]]] 1).1 1 = some [[HV.str ls[i]]] := (Vec.lit (n := 0) (S := S) (z := 1) [[HV.str ls[i]]] (Nat.zero_le _)).rows
        have v1 := hV.frame (lit_fr (n := S.next) (z := 1) [[HV.str ls[i]]] (Nat.le_refl _)) (Nat.le_refl _)
        rw [r1, Option.bind_some]
        generalize (S.lit [[HV.str ls[i]]] 1).2 = S1 at f1 v1 ⊢
        obtain ⟨out2, S2, e2, v2, f2⟩ := v1.app (new := [[HV.str ls[i]]]) (Nat.le_trans hm f1.le) (by simp; omega)
        rw [e2, Option.bind_some]
        have hfr := f1.trans f2
        obtain ⟨out', S', e3, v3, f3⟩ := hj out2 (acc ++ [ls[i]]) S2 (by simp; omega) (Nat.le_trans hm hfr.le) (hR.keep (fun id ho => hfr.eq id (hlo id ho)) hfr.le) (by
          have hv : acc.map strRow ++ [[HV.str ls[i]]] = (acc ++ [ls[i]]).map strRow := by simp [strRow]
          rw [← hv]; exact v2)
        refine ⟨out', S', e3, ?_, hfr.trans f3⟩
        rw [if_pos (by omega), ← List.append_assoc]; exact v3
      · rw [if_neg hge, if_neg (by omega), List.nil_append]
        obtain ⟨out', S', e3, v3, f3⟩ := hj out acc S (by omega) hm hR hV
        exact ⟨out', S', e3, v3, f3⟩
    · have : i = ls.length := by omega
      subst this
      rw [if_neg (by omega), List.drop_length, refL, List.append_nil]
      exact ⟨out, S, rfl, hV, Fr.refl _ _⟩
theorem rlines_spec {k x sent : Nat} {sl : Sl} {most : Int} {ls : List (List UInt8)} {over : Bool} {S : HS} (hR : RI x sl most ls sent over S) (hl : (enc ls).length ≤ 1000000) (hn : ls.length ≤ 1000) (hs : sent ≤ (enc ls).length) (hk : 2000 ≤ k) :
    ∃ out S', rollcallref08_Queue_Lines.f k (some (HA.cell0 x)) S = some (out, S') ∧ Vec S.next S' 1 out ((rem ls sent).2.map strRow) ∧ Fr S.next S S' := by
  have := rlines_loop (k := k) (m := S.next) hl hn (by omega) (fun id ho => hR.lt ho) k 0 0 Sl.nil [] S (by omega) (Nat.zero_le _) (by simpa using hl) (by simp) (Nat.le_refl _) hR .nil
  rw [List.nil_append, List.drop_zero, refL_rem ls 0 sent (Nat.zero_le _) (by omega), Nat.sub_zero] at this
  exact this
theorem texts_loop {k : Nat} {a b : Sl} {xs ys : List (List UInt8)} {S : HS} (hl : xs.length = ys.length) (hx : xs.length ≤ 100000) (ha : S.rows a 1 = some (xs.map strRow)) (hb : S.rows b 1 = some (ys.map strRow)) : ∀ (n i : Nat), xs.length - i < n → i ≤ xs.length →
    rollcallref01_Texts.L0 k n a b (i : Int) S = some (decide (xs.drop i = ys.drop i), S) := by
  have hal : a.len = xs.length := by rw [← rows_len ha]; simp
  intro n
  induction n with
  | zero => intro i h; omega
  | succ n ih =>
    intro i h hi
    unfold rollcallref01_Texts.L0
    rw [hal]
    by_cases hlt : i < xs.length
    · obtain ⟨d1, a1, a2⟩ := str_rows ha hlt
      obtain ⟨d2, b1, b2⟩ := str_rows hb (i := i) (by omega)
      rw [if_pos (by omega), a1, Option.bind_some, a2, Option.bind_some, b1, Option.bind_some, b2, Option.bind_some, List.drop_eq_getElem_cons hlt, List.drop_eq_getElem_cons (l := ys) (i := i) (by omega)]
      have hdec : decide (xs[i] :: xs.drop (i + 1) = ys[i]'(by omega) :: ys.drop (i + 1)) = (decide (xs[i] = ys[i]'(by omega)) && decide (xs.drop (i + 1) = ys.drop (i + 1))) := by
        rw [Bool.eq_iff_iff]; simp only [decide_eq_true_eq, Bool.and_eq_true, List.cons.injEq]
      rw [hdec]
      by_cases he : xs[i] = ys[i]'(by omega)
      · have e2 : w64 ((i : Int) + 1) = ((i + 1 : Nat) : Int) := by rw [w64_id (by omega) (by omega)]; simp
        rw [if_neg (by simp [he]), e2, ih (i + 1) (by omega) (by omega), decide_eq_true he, Bool.true_and]
      · rw [if_pos (by simp [he]), decide_eq_false he, Bool.false_and]
    · rw [if_neg (by omega), List.drop_eq_nil_of_le (by omega), List.drop_eq_nil_of_le (by omega)]; simp
theorem texts_same {k : Nat} {a b : Sl} {xs : List (List UInt8)} {S : HS} (hx : xs.length ≤ 1000) (hk : 2000 ≤ k) (ha : S.rows a 1 = some (xs.map strRow)) (hb : S.rows b 1 = some (xs.map strRow)) : rollcallref01_Texts.f k a b S = some (true, S) := by
  have h1 : a.len = xs.length := by rw [← rows_len ha]; simp
  have h2 : b.len = xs.length := by rw [← rows_len hb]; simp
  rw [rollcallref01_Texts.f, h1, h2, if_neg (by simp)]
  have := texts_loop (k := k) rfl (by omega) ha hb k 0 (by omega) (Nat.zero_le _)
  simpa using this
/-! ### torn -/
theorem tornL_walk {bs : List UInt8} (hb : bs.length ≤ 1000000) : ∀ (n i r : Nat), bs.length - i < n → tornL bs n i (r : Int) = (walk (bs.drop i) r : Int) := by
  intro n
  induction n with
  | zero => intro i r h; omega
  | succ n ih =>
    intro i r h
    unfold tornL
    by_cases hlt : i < bs.length
    · rw [dif_pos hlt, List.drop_eq_getElem_cons hlt]
      cases r with
      | zero => rw [if_pos (by simp), walk_zero]; rfl
      | succ r =>
        have e1 : ((r + 1 : Nat) : Int) - 1 = (r : Int) := by omega
        have h10 : (((bs[i]).toNat : Int) = 10) ↔ bs[i] = 10 := by rw [← UInt8.toNat_inj]; simp <;> omega
        rw [if_neg (by omega), walk, e1]
        by_cases hc : bs[i] = 10
        · rw [if_pos (h10.2 hc), if_pos hc, ih _ _ (by omega)]
        · rw [if_neg (fun e => hc (h10.1 e)), if_neg hc]
          by_cases h0 : r = 0
          · rw [if_pos (by omega), if_pos h0]
            have hb10 : bidx (bs.drop (i + 1)) 10 = Lib.indexByte (bs.drop (i + 1)) 10 := by
              have h : ((10 : Int).toNat).toUInt8 = (10 : UInt8) := rfl
              rw [bidx, h, Lib.firstIdx_eq]
            have hge := Lib.indexByte_ge (bs.drop (i + 1)) 10
            rw [hb10]; omega
          · rw [if_neg (by omega), if_neg h0, ih _ _ (by omega)]
    · rw [dif_neg hlt, List.drop_eq_nil_of_le (by omega)]
      cases r <;> rfl
theorem torn_rem {k s n : Nat} {ls : List (List UInt8)} (hc : Clean ls) (hl : (enc ls).length ≤ 90000) (hk : 90001 ≤ k) (hs : s + n ≤ (enc ls).length) : tornP k ((enc ls).drop s) ((rem ls s).1 : Int) (n : Int) = ((rem ls (s + n)).1 : Int) := by
  have h1 := rem_torn ls s n hc hs
  have h2 := rem_drop ls s (by omega)
  unfold tornP
  by_cases hle : n ≤ (rem ls s).1
  · rw [if_pos (by omega), h1, if_pos hle]; omega
  · rw [if_neg (by omega), h1, if_neg hle, Int.toNat_natCast]
    have e : ((n : Int) - ((rem ls s).1 : Int)) = ((n - (rem ls s).1 : Nat) : Int) := by omega
    rw [e, tornL_walk (by simp; omega) _ _ _ (by simp; omega), List.drop_drop, h2]
end Go.Proofs.Ytpjabhpfaahgoaa.X
