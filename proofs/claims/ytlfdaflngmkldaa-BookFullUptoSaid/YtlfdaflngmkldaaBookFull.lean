/- The layer book: BookFull, plain. -/
import Derived.Test.YtlfdaflngmkldaaBfOps
namespace Go.Proofs.Ytlfdaflngmkldaa.X
open Go.Proofs.Ytlfdaflngmkldaa.HL
set_option linter.unusedVariables false
set_option maxRecDepth 100000
/-! ### digits -/
def dig (i : Nat) : List UInt8 := (digF 30 (i : Int)).getD []
def valOf (t : List UInt8) : Nat := t.foldl (fun a b => a * 10 + (b.toNat - 48)) 0
theorem dig_all : ∀ i : Fin 260, digF 30 ((i.val : Nat) : Int) = some (dig i.val) ∧ valOf ((dig i.val).map low) = i.val ∧ (dig i.val).length ≤ 3 := by decide +kernel
theorem dig_is {i : Nat} (h : i < 260) : rollcallref01_Digits.f (i : Int) = some (dig i) := (dig_all ⟨i, h⟩).1
theorem dig_inj {i j : Nat} (hi : i < 260) (hj : j < 260) (h : (dig i).map low = (dig j).map low) : i = j := by
  have h1 := (dig_all ⟨i, hi⟩).2.1
  have h2 := (dig_all ⟨j, hj⟩).2.1
  simp only [] at h1 h2
  rw [← h1, ← h2, h]
theorem dig_len {i : Nat} (h : i < 260) : (dig i).length ≤ 3 := (dig_all ⟨i, h⟩).2.2
theorem dig_zero : dig 0 = [48] := by decide +kernel
/-! ### the book's answers -/
noncomputable def A0 : HS := ((rollcalllaw02_awake.f (disp 2000 4) (fun _ => none) 2000 S0).getD (false, S0)).2
theorem awake_run : rollcalllaw02_awake.f (disp 2000 4) (fun _ => none) 2000 S0 = some (true, A0) := by kernel_rfl
theorem new_spec {most : Int} {S : HS} (h1 : 0 ≤ most) (h2 : most ≤ 100000) : ∃ S', book_New_bool.f most S = some ((some (HA.cell0 S.next), 0), S') ∧ BI S.next Sl.nil most [] S' ∧ Fr S.next S S' ∧ S'.next = S.next + 1 := by
  unfold book_New_bool.f
  rw [if_neg (by omega), book_New_bool.J0, if_neg (by simp; omega), letv]
  exact ⟨_, rfl, ⟨new_here _ _, .inl ⟨rfl, rfl, rfl⟩, fun q hq => (by cases hq), Nat.lt_succ_self _, List.Pairwise.nil, fun e he => (by cases he), by simp⟩, Fr.new (Nat.le_refl _) _, rfl⟩
theorem found_no {es : List En} {t : List UInt8} {p : Nat} (h : ∀ e ∈ es, cmpL e.1 t ≠ 0) : foundAt es t p = false := by
  unfold foundAt
  cases hc : es[p]? with
  | none => rfl
  | some e => exact decide_eq_false (h e (List.mem_of_getElem? hc))
theorem found_yes {es : List En} {t : List UInt8} {p : Nat} (hp : PosOf es t p) (hs : Srt es) {e : En} (he : e ∈ es) (h : cmpL e.1 t = 0) : foundAt es t p = true := by
  cases hf : foundAt es t p with
  | true => rfl
  | false =>
    have := none_alike hp hs hf e he
    rw [cmpL_anti, h] at this
    exact absurd rfl this
/-- The names so far are the first m numbers. -/
structure Some_ (n m : Nat) (es : List En) : Prop where
  len : es.length = m
  in_ : ∀ e ∈ es, ∃ j, j < m ∧ e.1 = dig j
  zero : 0 < m → ∃ e ∈ es, e.1 = [48]
theorem full_loop {p n : Nat} (hn : n ≤ 255) : ∀ (f i : Nat) (S : HS) (s : Sl) (es : List En), n + 3 - i < f → i ≤ n + 3 → BI p s (n : Int) es S → Some_ n (min i n) es →
    ∃ S', rollcalllaw02_BookFull.L0 (disp 2000 4) (fun _ => none) 2000 f (n : Int) (some (HA.cell0 p)) (i : Int) S = some (true, S') := by
  intro f
  induction f with
  | zero => intro i S s es h; omega
  | succ f ih =>
    intro i S s es h hi hB hE
    unfold rollcalllaw02_BookFull.L0
    have hw3 : w64 ((n : Int) + 3) = ((n + 3 : Nat) : Int) := by rw [w64_id (by omega) (by omega)]; simp
    rw [hw3]
    by_cases hlt : i < n + 3
    · have hno : ∀ e ∈ es, cmpL e.1 (dig i) ≠ 0 := by
        intro e he h0
        obtain ⟨j, hj, hd⟩ := hE.in_ e he
        rw [hd, cmpL_zero] at h0
        have := dig_inj (by omega) (by omega) h0
        omega
      obtain ⟨q, s', S1, g1, g2, g3, g4⟩ := put_spec (k := 2000) (n := 3) (H := fun _ => none) (Nat.le_refl _) hB (by have := hE.len; omega) (dig i) true (by have := dig_len (i := i) (by omega); omega)
      have hf := found_no (p := q) hno
      have hi1 : w64 ((i : Int) + 1) = ((i + 1 : Nat) : Int) := by rw [w64_id (by omega) (by omega)]; simp
      rw [if_pos (by omega), dig_is (by omega), Option.bind_some, g2, Option.bind_some]
      by_cases hin : i < n
      · have hr : putR (n : Int) es q (dig i) = 0 := by
          unfold putR; rw [hf]; simp only [Bool.false_eq_true, if_false]; rw [if_neg (by have := hE.len; omega)]
        have hl : putL (n : Int) es q (dig i) true = es.take q ++ [(dig i, true)] ++ es.drop q := by
          unfold putL; rw [hf]; simp only [Bool.false_eq_true, if_false]; rw [if_neg (by have := hE.len; omega)]
        rw [hr] at *
        rw [hl] at g3
        have e1 : decide ((i : Int) < (n : Int)) = true := decide_eq_true (by omega)
        have e0 : decide ((0 : Int) = 0) = true := rfl
        simp only [e1, e0]
        rw [if_neg (by simp), if_neg (by simp), rollcalllaw02_BookFull.J2, if_neg (by simp), rollcalllaw02_BookFull.J1, if_neg (by simp), hi1]
        refine ih (i + 1) S1 s' _ (by omega) (by omega) g3 ⟨?_, ?_, ?_⟩
        · have := hE.len; have := g1.le; simp; omega
        · intro e he
          rw [List.mem_append, List.mem_append] at he
          rcases he with (he | he) | he
          · obtain ⟨j, hj, hd⟩ := hE.in_ e (List.mem_of_mem_take he); exact ⟨j, by omega, hd⟩
          · simp at he; subst he; exact ⟨i, by omega, rfl⟩
          · obtain ⟨j, hj, hd⟩ := hE.in_ e (List.mem_of_mem_drop he); exact ⟨j, by omega, hd⟩
        · intro _
          by_cases h0 : i = 0
          · subst h0; exact ⟨(dig 0, true), by simp, dig_zero⟩
          · obtain ⟨e, he, hz⟩ := hE.zero (by omega)
            refine ⟨e, ?_, hz⟩
            rw [← List.take_append_drop q es] at he
            rw [List.mem_append] at he
            rcases he with he | he
            · simp [he]
            · simp [he]
      · have hm : min i n = n := by omega
        have hr : putR (n : Int) es q (dig i) = 7 := by
          unfold putR; rw [hf]; simp only [Bool.false_eq_true, if_false]; rw [if_pos (by have := hE.len; omega)]
        have hl : putL (n : Int) es q (dig i) true = es := by
          unfold putL; rw [hf]; simp only [Bool.false_eq_true, if_false]; rw [if_pos (by have := hE.len; omega)]
        rw [hr] at *
        rw [hl] at g3
        have e1 : decide ((i : Int) < (n : Int)) = false := decide_eq_false (by omega)
        have e0 : decide ((7 : Int) = 0) = false := rfl
        simp only [e1, e0]
        rw [if_neg (by simp), if_pos (by simp), rollcalllaw02_BookFull.J2, if_neg (by simp), rollcalllaw02_BookFull.J1, if_neg (by simp), hi1]
        have hm2 : min (i + 1) n = min i n := by omega
        exact ih (i + 1) S1 s' es (by omega) (by omega) g3 (by rw [hm2]; exact hE)
    · have hi3 : i = n + 3 := by omega
      have hm : min i n = n := by omega
      rw [hm] at hE
      rw [if_neg (by omega), len_spec hB, Option.bind_some, hE.len, if_pos rfl]
      by_cases h0 : (n : Int) = 0
      · rw [if_pos h0, rollcalllaw02_BookFull.J3, if_pos (by simp), rollcalllaw02_BookFull.J4]; exact ⟨_, rfl⟩
      · rw [if_neg h0]
        obtain ⟨e0, he0, hz0⟩ := hE.zero (by omega)
        obtain ⟨q, s', S1, g1, g2, g3, g4⟩ := put_spec (k := 2000) (n := 3) (H := fun _ => none) (Nat.le_refl _) hB (by have := hE.len; omega) [48] false (by simp)
        have c48 : cmpL [48] [48] = 0 := by decide
        have hf := found_yes g1 hB.srt he0 (by rw [hz0]; exact c48)
        have hr : putR (n : Int) es q [48] = 0 := by unfold putR; rw [if_pos hf]
        have hl : putL (n : Int) es q [48] false = es.set q ([48], false) := by unfold putL; rw [if_pos hf]
        rw [hl] at g3
        rw [g2, Option.bind_some, hr, if_pos rfl]
        have hlen1 : (es.set q ([48], false)).length = n := by simp [hE.len]
        rw [len_spec g3, Option.bind_some, hlen1, rollcalllaw02_BookFull.J5, if_neg (by simpa using h0), if_pos (by simp)]
        obtain ⟨q2, s2, S2, k1, k2, k3, k4⟩ := delete_spec (k := 2000) (n := 3) (H := fun _ => none) (Nat.le_refl _) g3 [48]
        have hq : q < es.length := found_lt hf
        have hf2 := found_yes k1 g3.srt (e := ([48], false)) (by rw [List.mem_iff_getElem]; exact ⟨q, by simpa using hq, by simp⟩) c48
        rw [hf2] at k2 k3
        rw [if_pos rfl] at k3
        rw [k2, Option.bind_some, rollcalllaw02_BookFull.J6, if_neg (by simpa using h0), if_pos rfl]
        have hq2 : q2 < (es.set q ([48], false)).length := found_lt hf2
        have hlen2 : ((es.set q ([48], false)).eraseIdx q2).length = n - 1 := by rw [List.length_eraseIdx, if_pos hq2, hlen1]
        obtain ⟨q3, s3, S3, m1, m2, m3, m4⟩ := put_spec (k := 2000) (n := 3) (H := fun _ => none) (Nat.le_refl _) k3 (by rw [hlen2]; omega) [110, 101, 119] true (by simp)
        have hr3 : putR (n : Int) ((es.set q ([48], false)).eraseIdx q2) q3 [110, 101, 119] = 0 := by
          unfold putR
          split
          · rfl
          · rw [if_neg (by rw [hlen2]; omega)]
        rw [m2, Option.bind_some, hr3, rollcalllaw02_BookFull.J7, if_pos (by simp), if_neg (by simpa using h0), rollcalllaw02_BookFull.J3, if_pos (by simp), rollcalllaw02_BookFull.J4]
        exact ⟨_, rfl⟩
theorem bookFull_spec (n : Nat) (hn : n ≤ 255) : ∃ S', rollcalllaw02_BookFull.f (disp 2000 4) (fun _ => none) 2000 (n : Int) S0 = some (true, S') := by
  unfold rollcalllaw02_BookFull.f
  have hw : w64 (n : Int) = n := w64_id (by omega) (by omega)
  obtain ⟨S1, e1, h1, f1, n1⟩ := new_spec (most := (n : Int)) (S := A0) (by omega) (by omega)
  rw [awake_run, Option.bind_some, if_neg (by simp), hw, e1, Option.bind_some, if_neg (by simp)]
  exact full_loop hn 2000 0 S1 Sl.nil [] (by omega) (by omega) h1 ⟨by simp, fun e he => (by cases he), fun h => (by omega)⟩
theorem bookFull_call (W : World) (x : Int) (w : (Lit.int .u8 x).wf = true) : HCall Try.prog W.heap.size W B0 3 [.int .u8 x] S0 (fun v _ => v = .bool true) := by
  have hx : 0 ≤ x ∧ x ≤ 255 := by simpa [Lit.wf, IntKind.min, IntKind.max, IntKind.signed, IntKind.bits] using w
  obtain ⟨n, rfl⟩ : ∃ n : Nat, x = n := ⟨x.toNat, by omega⟩
  obtain ⟨_, h⟩ := bookFull_spec n (by omega)
  exact (rollcalllaw02_BookFull.snd (disp_snd 4) (fun _ _ h => by cases h) h).mono fun _ _ h => h.1
end Go.Proofs.Ytlfdaflngmkldaa.X
