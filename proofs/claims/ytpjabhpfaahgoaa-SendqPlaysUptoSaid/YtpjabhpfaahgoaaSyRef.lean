/- The layer sendq: the document's queue, plain. -/
import Derived.Test.YtpjabhpfaahgoaaSyAwake
import Derived.Test.YtpjabhpfaahgoaaSpRem
namespace Go.Proofs.Ytpjabhpfaahgoaa.X
open Go.Proofs.Ytpjabhpfaahgoaa.HL
set_option linter.unusedVariables false
def strRow (x : List UInt8) : List HV := [.str x]
theorem str_rows {S : HS} {s : Sl} {xs : List (List UInt8)} (h : S.rows s 1 = some (xs.map strRow)) {i : Nat} (hi : i < xs.length) : ∃ ad, S.idx s (i : Int) 1 = some ad ∧ S.ldS ad = some xs[i] := by
  obtain ⟨ad, h1, h2, h3⟩ := rows_idx h (i := i) (by simpa using hi)
  refine ⟨ad, h1, ?_⟩
  exact row_ldS (j := 0) (ad := ad) h3 h2 (by simp [strRow])
/-! ### texts -/
def okB (b : UInt8) : Bool := b.toNat != 0 && b.toNat != 10 && b.toNat != 13
theorem ok_is (b : UInt8) : isOf 64 b = okB b := by
  have h : ∀ n : Fin 256, isOf 64 (UInt8.ofNat n.val) = okB (UInt8.ofNat n.val) := by decide +kernel
  have := h ⟨b.toNat, b.toNat_lt⟩
  simpa using this
theorem in_loop {k : Nat} {x : List UInt8} {c : UInt8} (hx : x.length ≤ 1000) : ∀ (n i : Nat), x.length - i < n → i ≤ x.length → rollcallref03_in.L0 k n x (c.toNat : Int) (i : Int) = some (decide (c ∈ x.drop i)) := by
  intro n
  induction n with
  | zero => intro i h; omega
  | succ n ih =>
    intro i h hi
    unfold rollcallref03_in.L0
    by_cases hlt : i < x.length
    · rw [if_pos (by omega), sat_lt hlt, Option.bind_some, List.drop_eq_getElem_cons hlt]
      by_cases hc : x[i] = c
      · rw [if_pos (by rw [hc])]; simp [hc]
      · have hne : ¬ ((x[i].toNat : Int) = (c.toNat : Int)) := fun e => hc (UInt8.toNat_inj.1 (by omega))
        rw [if_neg hne, w64_id (by omega) (by omega), show ((i : Int) + 1) = ((i + 1 : Nat) : Int) by simp, ih (i + 1) (by omega) (by omega)]
        congr 1
        rw [decide_eq_decide, List.mem_cons]
        exact ⟨.inr, fun h => h.resolve_left (Ne.symm hc)⟩
    · rw [if_neg (by omega), List.drop_eq_nil_of_le (by omega)]; simp
theorem in_spec {k : Nat} {x : List UInt8} {c : UInt8} (hx : x.length ≤ 1000) (hk : 2000 ≤ k) : rollcallref03_in.f k x (c.toNat : Int) = some (decide (c ∈ x)) := by
  have := in_loop (k := k) (c := c) hx k 0 (by omega) (Nat.zero_le _)
  simpa [rollcallref03_in.f] using this
theorem ref_text {k : Nat} {x : List UInt8} (hx : x.length ≤ 1000) (hk : 2000 ≤ k) : rollcallref03_Text.f k x = some (x.all (isOf 64)) := by
  have e0 := in_spec (k := k) (x := x) (c := 0) hx hk
  have e10 := in_spec (k := k) (x := x) (c := 10) hx hk
  have e13 := in_spec (k := k) (x := x) (c := 13) hx hk
  simp only [show ((0 : UInt8).toNat : Int) = 0 from rfl, show ((10 : UInt8).toNat : Int) = 10 from rfl, show ((13 : UInt8).toNat : Int) = 13 from rfl] at e0 e10 e13
  have hall : x.all (isOf 64) = (!decide ((0 : UInt8) ∈ x) && !decide ((10 : UInt8) ∈ x) && !decide ((13 : UInt8) ∈ x)) := by
    rw [show (isOf 64) = okB from funext ok_is]
    rw [Bool.eq_iff_iff, List.all_eq_true]
    simp only [Bool.and_eq_true, Bool.not_eq_true', decide_eq_false_iff_not]
    constructor
    · intro h
      exact ⟨⟨fun hm => absurd (h _ hm) (by decide), fun hm => absurd (h _ hm) (by decide)⟩, fun hm => absurd (h _ hm) (by decide)⟩
    · rintro ⟨⟨h0, h1⟩, h2⟩ b hb
      have g0 : b.toNat ≠ 0 := fun e => h0 (by rwa [show b = 0 from UInt8.toNat_inj.1 e] at hb)
      have g1 : b.toNat ≠ 10 := fun e => h1 (by rwa [show b = 10 from UInt8.toNat_inj.1 e] at hb)
      have g2 : b.toNat ≠ 13 := fun e => h2 (by rwa [show b = 13 from UInt8.toNat_inj.1 e] at hb)
      simp [okB, g0, g1, g2]
  unfold rollcallref03_Text.f
  rw [e0, Option.bind_some, hall]
  by_cases h0 : (0 : UInt8) ∈ x
  · rw [if_neg (by simp [h0]), rollcallref03_Text.J0, if_neg (by simp), rollcallref03_Text.J1]; simp [h0]
  rw [if_pos (by simp [h0]), e10, Option.bind_some, rollcallref03_Text.J0]
  by_cases h1 : (10 : UInt8) ∈ x
  · rw [if_neg (by simp [h1]), rollcallref03_Text.J1]; simp [h1]
  rw [if_pos (by simp [h1]), e13, Option.bind_some, rollcallref03_Text.J1]
  simp [h0, h1]
theorem all_clean {x : List UInt8} (h : x.all (isOf 64) = true) : 10 ∉ x ∧ 13 ∉ x := by
  rw [List.all_eq_true] at h
  constructor
  · intro hm; have := h _ hm; rw [ok_is] at this; exact absurd this (by decide)
  · intro hm; have := h _ hm; rw [ok_is] at this; exact absurd this (by decide)
/-! ### the queue -/
structure RI (x : Nat) (sl : Sl) (most : Int) (ls : List (List UInt8)) (sent : Nat) (over : Bool) (S : HS) : Prop where
  cell : S.heap x = .cells 5 [[.int .i64 most, sl.hv, .str (enc ls), .int .i64 sent, .bool over]] true
  vec : Vec 0 S 1 sl (ls.map strRow)
  ne : ∀ p, sl.a = some p → p.1 ≠ x
  hi : x < S.next
theorem RI.row {x sl most ls sent over S} (h : RI x sl most ls sent over S) : S.row (HA.cell0 x).id (HA.cell0 x).i = some [.int .i64 most, sl.hv, .str (enc ls), .int .i64 sent, .bool over] := cell_row h.cell
theorem RI.lt {x sl most ls sent over S} (h : RI x sl most ls sent over S) {id : Nat} (ho : Own x sl id) : id < S.next := by
  rcases ho with rfl | ⟨p, h1, rfl⟩
  · exact h.hi
  · exact (h.vec.lo p h1).2
theorem RI.keep {x sl most ls sent over S} {S' : HS} (h : RI x sl most ls sent over S) (he : ∀ id, Own x sl id → S'.heap id = S.heap id) (hn : S.next ≤ S'.next) : RI x sl most ls sent over S' :=
  ⟨(he _ (.inl rfl)).trans h.cell, vec_keep h.vec (fun q hq => he _ (.inr ⟨q, hq, rfl⟩)) hn, h.ne, Nat.lt_of_lt_of_le h.hi hn⟩
theorem waits_spec {x sl most ls sent over S} (h : RI x sl most ls sent over S) (hs : sent ≤ (enc ls).length) : rollcallref08_Queue_Waits.f (some (HA.cell0 x)) S = some ((enc ls).drop sent, S) := by
  unfold rollcallref08_Queue_Waits.f
  rw [Option.bind_some, row_ldS h.row rfl rfl, Option.bind_some, Option.bind_some, row_ldI h.row rfl rfl, Option.bind_some, if_pos ⟨by omega, by omega, by omega⟩]
  have : ssub (enc ls) (sent : Int) ((enc ls).length : Int) = (enc ls).drop sent := by
    simp only [ssub, Int.toNat_natCast]
    exact List.take_of_length_le (by simp)
  rw [this]
theorem RI.put {x sl most ls sent over S} (h : RI x sl most ls sent over S) (sent' : Nat) (over' : Bool) : RI x sl most ls sent' over' (S.put x (.cells 5 [[.int .i64 most, sl.hv, .str (enc ls), .int .i64 sent', .bool over']] true)) :=
  ⟨put_here _ _ _, h.vec.put_ne h.ne, h.ne, h.hi⟩
theorem rdrain_spec {x sl most ls sent over S} (h : RI x sl most ls sent over S) (hs : sent ≤ (enc ls).length) (hl : (enc ls).length ≤ 1000000) (n : Int) (bs : List UInt8) (hb : bs = (enc ls).drop sent) :
    ∃ S', rollcallref08_Queue_Drain.f (some (HA.cell0 x)) n S = some (bs.take (dn n bs), S') ∧ RI x sl most ls (sent + dn n bs) over S' ∧ Only x sl sl S S' := by
  have hbl : bs.length = (enc ls).length - sent := by rw [hb]; simp
  obtain ⟨d1, d2⟩ := dn_eq n bs
  have j1 : ∀ m : Nat, m ≤ bs.length → ∃ S', rollcallref08_Queue_Drain.J1 (some (HA.cell0 x)) (m : Int) bs S = some (bs.take m, S') ∧ RI x sl most ls (sent + m) over S' ∧ Only x sl sl S S' := by
    intro m hm
    refine ⟨_, ?_, h.put (sent + m) over, Only.put _⟩
    have hw : w64 ((sent : Int) + (m : Int)) = ((sent + m : Nat) : Int) := by rw [w64_id (by omega) (by omega)]; simp
    have hset : S.sets (HA.fld (HA.cell0 x) 3) [.int .i64 ((sent + m : Nat) : Int)] = some (S.put x (.cells 5 [[.int .i64 most, sl.hv, .str (enc ls), .int .i64 ((sent + m : Nat) : Int), .bool over]] true)) := by
      have := sets_row (i := 0) (j := 3) (vs := [.int .i64 ((sent + m : Nat) : Int)]) h.cell rfl (by simp)
      exact this
    rw [rollcallref08_Queue_Drain.J1, Option.bind_some, row_ldI h.row rfl rfl, Option.bind_some, Option.bind_some, hw, hset, Option.bind_some, if_pos ⟨by omega, by omega, by omega⟩]
    simp [ssub]
  unfold rollcallref08_Queue_Drain.f
  rw [waits_spec h hs, ← hb, Option.bind_some]
  by_cases h1 : n < 0
  · have e : dn n bs = 0 := by unfold dn mx mn; (repeat' split) <;> omega
    rw [if_pos h1, rollcallref08_Queue_Drain.J0, if_neg (by omega), e]
    exact j1 0 (by omega)
  · rw [if_neg h1, rollcallref08_Queue_Drain.J0]
    by_cases h2 : n > (bs.length : Int)
    · have e : dn n bs = bs.length := by unfold dn mx mn; (repeat' split) <;> omega
      rw [if_pos h2, e]
      exact j1 bs.length (by omega)
    · have e : n = (dn n bs : Int) := by unfold dn mx mn; (repeat' split) <;> omega
      rw [if_neg h2]
      have := j1 (dn n bs) d2
      rw [← e] at this
      exact this
theorem rpush_spec {k x sl most ls sent over S} {y : List UInt8} (h : RI x sl most ls sent over S) (hs : sent ≤ (enc ls).length) (hl : (enc ls).length ≤ 1000000) (hn : ls.length ≤ 1000) (hy : y.length ≤ 1000) (hk : 2000 ≤ k) (bs : List UInt8) (hb : bs = (enc ls).drop sent) :
    ∃ sl' S', rollcallref08_Queue_Push.f k (some (HA.cell0 x)) y S = some (may over y && fits most bs y, S') ∧ RI x sl' most (if may over y && fits most bs y then ls ++ [y] else ls) sent (over || (may over y && !fits most bs y)) S' ∧ Only x sl sl' S S' := by
  have hbl : bs.length = (enc ls).length - sent := by rw [hb]; simp
  unfold rollcallref08_Queue_Push.f
  rw [Option.bind_some, row_ldB h.row rfl rfl, Option.bind_some]
  have hno : may over y = false → ∃ sl' S', some (false, S) = some (may over y && fits most bs y, S') ∧ RI x sl' most (if may over y && fits most bs y then ls ++ [y] else ls) sent (over || (may over y && !fits most bs y)) S' ∧ Only x sl sl' S S' := fun e => by
    rw [e]; exact ⟨sl, S, rfl, by simpa using h, Only.refl _ _ _⟩
  by_cases ho : over = true
  · rw [if_pos ho, rollcallref08_Queue_Push.J0, if_pos rfl, rollcallref08_Queue_Push.J1, if_pos rfl]
    exact hno (by simp [may, ho])
  rw [if_neg ho, rollcallref08_Queue_Push.J0]
  by_cases h5 : (y.length : Int) > 510
  · rw [if_pos (by simpa using h5), rollcallref08_Queue_Push.J1, if_pos rfl]
    exact hno (by simp [may]; intro _ h; omega)
  rw [if_neg (by simpa using h5), ref_text hy hk, Option.bind_some, rollcallref08_Queue_Push.J1]
  by_cases ht : y.all (isOf 64) = true
  · have hm : may over y = true := by
      have : over = false := by simpa using ho
      unfold may; rw [this, ht, decide_eq_true (by omega : y.length ≤ 510)]; rfl
    rw [if_neg (by simp [ht]), waits_spec h hs, ← hb, Option.bind_some, Option.bind_some, row_ldI h.row rfl rfl, Option.bind_some, Option.bind_some, if_pos rfl]
    have hw : w64 (w64 ((bs.length : Int) + (y.length : Int)) + 2) = (bs.length : Int) + y.length + 2 := by rw [w64_id (n := (bs.length : Int) + (y.length : Int)) (by omega) (by omega), w64_id (by omega) (by omega)]
    rw [hw]
    by_cases hf : (bs.length : Int) + y.length + 2 > most
    · have hf' : fits most bs y = false := by unfold fits; exact decide_eq_false (by omega)
      have hset : S.sets (HA.fld (HA.cell0 x) 4) [.bool true] = some (S.put x (.cells 5 [[.int .i64 most, sl.hv, .str (enc ls), .int .i64 (sent : Int), .bool true]] true)) := sets_row (i := 0) (j := 4) (vs := [.bool true]) h.cell rfl (by simp)
      rw [if_pos hf, Option.bind_some, hset, Option.bind_some, hm, hf']
      exact ⟨sl, _, rfl, by simpa using h.put sent true, Only.put _⟩
    · have hf' : fits most bs y = true := by unfold fits; exact decide_eq_true (by omega)
      have v1 : Vec S.next (S.lit [] 1).2 1 (S.lit [] 1).1 [] := Vec.lit [] (Nat.le_refl _)
      have f1 : Fr S.next S (S.lit [] 1).2 := lit_fr [] (Nat.le_refl _)
      have h1 : RI x sl most ls sent over (S.lit [] 1).2 := h.keep (fun id ho => f1.eq id (h.lt ho)) f1.le
      rw [if_neg hf, hm, hf']
      simp only [letv]
      generalize (S.lit [] 1).2 = S1 at v1 f1 h1 ⊢
      generalize (S.lit [] 1).1 = a1 at v1 ⊢
      rw [Option.bind_some, row_ldSl h1.row rfl rfl, Option.bind_some, h1.vec.rows, Option.bind_some]
      obtain ⟨a2, S2, e2, v2, f2⟩ := v1.app (new := ls.map strRow) f1.le (by simp; omega)
      rw [e2, Option.bind_some]
      have v3 := v2.frame (lit_fr (n := S2.next) (z := 1) [[HV.str y]] (Nat.le_refl _)) (Nat.le_refl _)
      have f3 : Fr S.next S2 (S2.lit [[HV.str y]] 1).2 := lit_fr _ (Nat.le_trans f1.le f2.le)
      have r3 : (S2.lit [[HV.str y]] 1).2.rows (S2.lit [[HV.str y]] 1).1 1 = some [[HV.str y]] := (Vec.lit (n := 0) (S := S2) (z := 1) [[HV.str y]] (Nat.zero_le _)).rows
      rw [r3, Option.bind_some]
      simp only []
      generalize (S2.lit [[HV.str y]] 1).2 = S3 at v3 f3 ⊢
      obtain ⟨a4, S4, e4, v4, f4⟩ := v3.app (new := [[HV.str y]]) (Nat.le_trans f1.le (Nat.le_trans f2.le f3.le)) (by simp; omega)
      rw [e4, Option.bind_some]
      simp only [Option.bind_some]
      have f14 : Fr S.next S S4 := f1.trans (f2.trans (f3.trans f4))
      have hc4 : S4.heap x = .cells 5 [[.int .i64 most, sl.hv, .str (enc ls), .int .i64 sent, .bool over]] true := (f14.eq x h.hi).trans h.cell
      have hs5 : S4.sets (HA.fld (HA.cell0 x) 1) [a4.hv] = some (S4.put x (.cells 5 [[.int .i64 most, a4.hv, .str (enc ls), .int .i64 sent, .bool over]] true)) := sets_row (i := 0) (j := 1) (vs := [a4.hv]) hc4 rfl (by simp)
      rw [hs5, Option.bind_some]
      have hr5 := cell_row (put_here S4 x (.cells 5 [[.int .i64 most, a4.hv, .str (enc ls), .int .i64 sent, .bool over]] true))
      have hs6 : (S4.put x (.cells 5 [[.int .i64 most, a4.hv, .str (enc ls), .int .i64 sent, .bool over]] true)).sets (HA.fld (HA.cell0 x) 2) [.str ((enc ls ++ y) ++ [13, 10])] = some ((S4.put x (.cells 5 [[.int .i64 most, a4.hv, .str (enc ls), .int .i64 sent, .bool over]] true)).put x (.cells 5 [[.int .i64 most, a4.hv, .str ((enc ls ++ y) ++ [13, 10]), .int .i64 sent, .bool over]] true)) := sets_row (i := 0) (j := 2) (vs := [.str ((enc ls ++ y) ++ [13, 10])]) (put_here S4 x (.cells 5 [[.int .i64 most, a4.hv, .str (enc ls), .int .i64 sent, .bool over]] true)) rfl (by simp)
      rw [row_ldS hr5 rfl rfl, Option.bind_some, if_pos (by omega), if_pos (by simp; omega), hs6, Option.bind_some]
      have hne : ∀ p, a4.a = some p → p.1 ≠ x := fun p hp e => by have := v4.lo p hp; have := h.hi; omega
      have henc : (enc ls ++ y) ++ [13, 10] = enc (ls ++ [y]) := by rw [enc_app]; simp [enc]
      rw [henc]
      simp only [Bool.and_self, if_true, Bool.not_true, Bool.and_false, Bool.or_false]
      refine ⟨a4, _, rfl, ⟨put_here _ _ _, ?_, hne, ?_⟩, ?_⟩
      · have hv : ls.map strRow ++ [[HV.str y]] = (ls ++ [y]).map strRow := by simp [strRow]
        have := (v4.put_ne (o := .cells 5 [[.int .i64 most, a4.hv, .str (enc ls), .int .i64 sent, .bool over]] true) hne).put_ne (o := .cells 5 [[.int .i64 most, a4.hv, .str (enc (ls ++ [y])), .int .i64 sent, .bool over]] true) hne
        rw [List.nil_append, hv] at this
        exact this.mono (Nat.zero_le _)
      · exact Nat.lt_of_lt_of_le h.hi f14.le
      · refine ⟨f14.le, fun id h1 h2 => ?_, fun id ho => ?_⟩
        · have hx : id ≠ x := fun e => h2 (.inl e)
          rw [put_other _ hx, put_other _ hx]; exact f14.eq id h1
        · rcases ho with rfl | ⟨p, hp, rfl⟩
          · exact .inl (.inl rfl)
          · exact .inr (v4.lo p hp).1
  · rw [if_pos (by simpa using ht)]
    exact hno (by simp only [may]; simp [ht])
end Go.Proofs.Ytpjabhpfaahgoaa.X
