/- The layer valid: ValidCleans, plain. -/
import Derived.Test.YtpcdkecglgokoaaVcNick
namespace Go.Proofs.Ytpcdkecglgokoaa.X
open Go.Proofs.Ytpcdkecglgokoaa.HL
set_option linter.unusedVariables false
theorem awake_spec {k m : Nat} {S : HS} (hk : 2000 ≤ k) (hm : m ≤ S.next) : ∃ S', rollcalllaw03_awake.f k S = some (true, S') ∧ Fr m S S' := by
  unfold rollcalllaw03_awake.f
  obtain ⟨S1, e1, f1⟩ := nick_spec (k := k) (m := m) (x := [97, 45, 98]) (S := S) (by decide) hk hm
  obtain ⟨S2, e2, f2⟩ := nick_spec (k := k) (m := m) (x := [45, 97]) (S := S1) (by decide) hk (Nat.le_trans hm f1.le)
  obtain ⟨S3, e3, f3⟩ := nick_spec (k := k) (m := m) (x := [49, 97]) (S := S2) (by decide) hk (Nat.le_trans hm (f1.trans f2).le)
  obtain ⟨S4, e4, f4⟩ := chan_spec (k := k) (m := m) (x := [35, 97]) (S := S3) (by decide) hk (Nat.le_trans hm ((f1.trans f2).trans f3).le)
  obtain ⟨S5, e5, f5⟩ := chan_spec (k := k) (m := m) (x := [35]) (S := S4) (by decide) hk (Nat.le_trans hm (((f1.trans f2).trans f3).trans f4).le)
  have d1 : nickB [97, 45, 98] = true := by decide +kernel
  have d2 : nickB [45, 97] = false := by decide +kernel
  have d3 : nickB [49, 97] = false := by decide +kernel
  have d4 : chanB [35, 97] = true := by decide +kernel
  have d5 : chanB [35] = false := by decide +kernel
  rw [e1, Option.bind_some, d1, if_pos rfl, e2, Option.bind_some, d2, rollcalllaw03_awake.J0, if_pos (by rfl), e3, Option.bind_some, d3, rollcalllaw03_awake.J1, if_pos (by rfl), e4, Option.bind_some, d4, rollcalllaw03_awake.J2, if_pos rfl, e5, Option.bind_some, d5, rollcalllaw03_awake.J3]
  exact ⟨S5, rfl, (((f1.trans f2).trans f3).trans f4).trans f5⟩


def okB (b : UInt8) : Bool := b.toNat != 0 && b.toNat != 10 && b.toNat != 13
theorem ok_is (b : UInt8) : isOf 64 b = okB b := by
  have h : ∀ n : Fin 256, isOf 64 (UInt8.ofNat n.val) = okB (UInt8.ofNat n.val) := by decide +kernel
  have := h ⟨b.toNat, b.toNat_lt⟩
  simpa using this
def cleanL (x : List UInt8) (most : Int) : List UInt8 := (x.filter okB).take most.toNat
theorem take_add {a r : List UInt8} {most : Int} (h : (a.length : Int) ≥ most) : a ++ r.take (most.toNat - a.length) = a := by
  have : most.toNat - a.length = 0 := by omega
  simp [this]
theorem clean_loop {k q b : Nat} {x : List UInt8} {most : Int} (hx : x.length ≤ 1000) : ∀ (n i : Nat) (acc : List UInt8) (S : HS), x.length - i < n → i ≤ x.length → acc.length ≤ i → BldAt S b acc → q < b → S.heap q = .cells 256 [kpart 256] true →
    ∃ S', valid_Clean.L0 k n x most (some (HA.cell0 q)) (some (HA.cell0 b)) (i : Int) S = some (acc ++ ((x.drop i).filter okB).take (most.toNat - acc.length), S') ∧ Fr b S S' := by
  intro n
  induction n with
  | zero => intro i acc S h; omega
  | succ n ih =>
    intro i acc S h hi ha hB hq hS
    unfold valid_Clean.L0
    by_cases hlt : i < x.length
    · rw [if_pos (by omega), len_spec hB, Option.bind_some]
      unfold valid_Clean.J1
      by_cases hm : (acc.length : Int) < most
      · have hb := x[i].toNat_lt
        have hr : S.ldI .u16 (HA.fld (HA.cell0 q) (Int.toNat ((x[i]).toNat : Int))) = some (kindOf ((x[i]).toNat : Int)) := by
          rw [Int.toNat_natCast]
          exact row_ldI (cell_row hS) rfl (kpart_get (by omega))
        rw [if_pos (by simpa using hm), sat_lt hlt, Option.bind_some, Option.bind_some, if_pos ⟨by omega, by omega⟩, hr, Option.bind_some, List.drop_eq_getElem_cons hlt, List.filter_cons]
        have hi1 : w64 ((i : Int) + 1) = ((i + 1 : Nat) : Int) := by rw [w64_id (by omega) (by omega)]; simp
        have hok := ok_is x[i]
        simp only [isOf] at hok
        rw [hok]
        by_cases h0 : okB x[i] = true
        · rw [if_pos h0, Option.bind_some]
          obtain ⟨S1, e1, B1, f1⟩ := writeByte_spec hB x[i] (by omega)
          rw [e1, Option.bind_some, valid_Clean.J2, hi1]
          obtain ⟨S2, e2, f2⟩ := ih (i + 1) (acc ++ [x[i]]) S1 (by omega) (by omega) (by simp; omega) B1 hq ((f1.eq q hq).trans hS)
          refine ⟨S2, ?_, f1.trans f2⟩
          rw [e2, if_pos h0]
          have : most.toNat - acc.length = (most.toNat - (acc ++ [x[i]]).length) + 1 := by simp; omega
          rw [this, List.take_succ_cons, List.append_assoc]
          rfl
        · rw [if_neg h0, valid_Clean.J2, hi1]
          obtain ⟨S2, e2, f2⟩ := ih (i + 1) acc S (by omega) (by omega) (by omega) hB hq hS
          exact ⟨S2, by rw [e2, if_neg h0], f2⟩
      · rw [if_neg (by simpa using hm)]
        obtain ⟨S2, e2, f2⟩ := string_spec hB (by omega)
        rw [e2, Option.bind_some]
        exact ⟨S2, by rw [take_add (by omega)], f2⟩
    · rw [if_neg (by omega), valid_Clean.J1, if_neg (by simp), List.drop_eq_nil_of_le (by omega)]
      obtain ⟨S2, e2, f2⟩ := string_spec hB (by omega)
      rw [e2, Option.bind_some]
      exact ⟨S2, by simp, f2⟩
theorem clean_spec {k m : Nat} {x : List UInt8} {most : Int} {S : HS} (hx : x.length ≤ 1000) (hk : 2000 ≤ k) (hm : m ≤ S.next) : ∃ S', valid_Clean.f k x most S = some (cleanL x most, S') ∧ Fr m S S' := by
  unfold valid_Clean.f
  obtain ⟨S1, e1, f1⟩ := kinds_spec (k := k) (m := m) (S := S) (by omega) hm
  have hl : (kpart 256).length = 256 := kpart_len (Nat.le_refl _)
  have hf : List.all (kpart 256) HV.flat = true := by simp [kpart, HV.flat]
  rw [e1, Option.bind_some, letv, if_pos ⟨hl, hf⟩, show HA.cell0 S1.next = (⟨S1.next, 0, 0⟩ : HA) from rfl,
      sets_row (new_here S1 _) rfl (by rw [hl, List.length_replicate]; exact Nat.le_refl _), List.drop_eq_nil_of_le (by rw [hl, List.length_replicate]; exact Nat.le_refl _), List.take_zero, List.nil_append, List.append_nil, List.set_cons_zero, Option.bind_some]
  simp only [letv]
  generalize hS2 : (S1.new (.cells 256 [List.replicate 256 (.int .u16 0)] true)).put S1.next (.cells 256 [kpart 256] true) = S2
  have h2 : S2.heap S1.next = .cells 256 [kpart 256] true := by rw [← hS2]; exact put_here _ _ _
  have n2 : S2.next = S1.next + 1 := by rw [← hS2]; rfl
  have f2 : Fr m S1 S2 := by rw [← hS2]; exact (Fr.new (Nat.le_trans hm f1.le) _).trans (Fr.put (Nat.le_trans hm f1.le) _)
  have hB : BldAt (S2.newM (.cells 2 [[(.ptr none), (Sl.hv Sl.nil)]] true) 41) S2.next [] := ⟨none, Sl.nil, new_hereM _ _ _, .inl rfl, by simp [HS.newM], by simp [HS.newM], .inl ⟨rfl, rfl⟩⟩
  obtain ⟨S3, e3, f3⟩ := clean_loop (k := k) (q := S1.next) (b := S2.next) (x := x) (most := most) hx k 0 [] _ (by omega) (by omega) (by simp) hB (by omega) (by rw [new_oldM _ _ (by omega)]; exact h2)
  have hm2 : m ≤ S2.next := by have := f1.le; omega
  exact ⟨S3, by simpa [cleanL] using e3, f1.trans (f2.trans ((Fr.newM hm2 _ _).trans (f3.mono hm2)))⟩
theorem ref_loop {k : Nat} {x : List UInt8} {most : Int} (hx : x.length ≤ 1000) : ∀ (n i : Nat) (acc : List UInt8), x.length - i < n → i ≤ x.length → acc.length ≤ i →
    rollcallref03_Clean.L0 k n x most acc (i : Int) = some (acc ++ ((x.drop i).filter okB).take (most.toNat - acc.length)) := by
  intro n
  induction n with
  | zero => intro i acc h; omega
  | succ n ih =>
    intro i acc h hi ha
    unfold rollcallref03_Clean.L0
    by_cases hlt : i < x.length
    · have hi1 : w64 ((i : Int) + 1) = ((i + 1 : Nat) : Int) := by rw [w64_id (by omega) (by omega)]; simp
      rw [if_pos (by omega), sat_lt hlt, Option.bind_some, List.drop_eq_getElem_cons hlt, List.filter_cons]
      have hno : okB x[i] = false → rollcallref03_Clean.J4 k (rollcallref03_Clean.L0 k n) x most acc (i : Int) = some (acc ++ List.take (most.toNat - acc.length) (if okB x[i] = true then x[i] :: List.filter okB (x.drop (i + 1)) else List.filter okB (x.drop (i + 1)))) := fun h0 => by
        rw [rollcallref03_Clean.J4, hi1, ih (i + 1) acc (by omega) (by omega) (by omega), if_neg (by simp [h0])]
      by_cases c0 : (x[i].toNat : Int) = 0
      · rw [if_neg (by simp [c0]), rollcallref03_Clean.J1, if_neg (by simp), rollcallref03_Clean.J2, if_neg (by simp), rollcallref03_Clean.J3, if_neg (by simp)]
        exact hno (by simp [okB]; omega)
      rw [if_pos (by simp; omega), Option.bind_some, rollcallref03_Clean.J1]
      by_cases c1 : (x[i].toNat : Int) = 10
      · rw [if_neg (by simp [c1]), rollcallref03_Clean.J2, if_neg (by simp), rollcallref03_Clean.J3, if_neg (by simp)]
        exact hno (by simp [okB]; omega)
      rw [if_pos (by simp; omega), sat_lt hlt, Option.bind_some, rollcallref03_Clean.J2]
      by_cases c2 : (x[i].toNat : Int) = 13
      · rw [if_neg (by simp [c2]), rollcallref03_Clean.J3, if_neg (by simp)]
        exact hno (by simp [okB]; omega)
      rw [if_pos (by simp; omega), rollcallref03_Clean.J3]
      have h0 : okB x[i] = true := by simp [okB]; omega
      by_cases hm : (acc.length : Int) < most
      · have hsub : ssub x (i : Int) (w64 ((i : Int) + 1)) = [x[i]] := by
          rw [hi1]
          simp only [ssub, Int.toNat_natCast]
          rw [List.drop_eq_getElem_cons hlt, show i + 1 - i = 1 by omega]; rfl
        rw [if_pos (by simpa using hm), if_pos ⟨by omega, by rw [hi1]; omega, by rw [hi1]; omega⟩, hsub, if_pos (by simp; omega), rollcallref03_Clean.J4, hi1, ih (i + 1) (acc ++ [x[i]]) (by omega) (by omega) (by simp; omega), if_pos h0]
        have : most.toNat - acc.length = (most.toNat - (acc ++ [x[i]]).length) + 1 := by simp; omega
        rw [this, List.take_succ_cons, List.append_assoc]
        rfl
      · rw [if_neg (by simpa using hm), rollcallref03_Clean.J4, hi1, ih (i + 1) acc (by omega) (by omega) (by omega), show most.toNat - acc.length = 0 by omega]
        simp
    · rw [if_neg (by omega), List.drop_eq_nil_of_le (by omega)]
      simp
theorem ref_spec {k : Nat} {x : List UInt8} {most : Int} (hx : x.length ≤ 1000) (hk : 2000 ≤ k) : rollcallref03_Clean.f k x most = some (cleanL x most) := by
  have := ref_loop (k := k) (x := x) (most := most) hx k 0 [] (by omega) (by omega) (by simp)
  simpa [rollcallref03_Clean.f, cleanL] using this
theorem clean_all (x : List UInt8) (most : Int) : (cleanL x most).all (isOf 64) = true := by
  rw [List.all_eq_true]
  intro b hb
  rw [ok_is]
  exact (List.mem_filter.1 (List.mem_of_mem_take hb)).2
theorem clean_len (x : List UInt8) (most : Int) : ((cleanL x most).length : Int) ≤ mx most 0 := by
  have : (cleanL x most).length ≤ most.toNat := by simp [cleanL]; omega
  unfold mx
  split <;> omega
theorem clean_clean (x : List UInt8) (most : Int) : cleanL (cleanL x most) most = cleanL x most := by
  have h : (cleanL x most).filter okB = cleanL x most := by
    rw [List.filter_eq_self]
    intro b hb
    exact (List.mem_filter.1 (List.mem_of_mem_take hb)).2
  rw [cleanL, h]
  exact List.take_of_length_le (by simp [cleanL]; omega)
theorem text_spec {k m : Nat} {x : List UInt8} {S : HS} (hx : x.length ≤ 1000) (hk : 2000 ≤ k) (hm : m ≤ S.next) (h : x.all (isOf 64) = true) : ∃ S', valid_Text.f k x S = some (true, S') ∧ Fr m S S' := by
  obtain ⟨S1, e1, f1⟩ := all_spec (k := k) (m := m) (x := x) (least := 0) (most := (x.length : Int)) (of := 64) (S := S) (by omega) (by omega) (by omega) hm
  refine ⟨S1, ?_, f1⟩
  rw [valid_Text.f, e1, Option.bind_some, h]
  simp
theorem validCleans_spec {k : Nat} {x : List UInt8} {most : Int} {S : HS} (hk : 2000 ≤ k) : ∃ S', rollcalllaw03_ValidCleans.f k x most S = some (true, S') := by
  unfold rollcalllaw03_ValidCleans.f
  obtain ⟨S1, e1, f1⟩ := awake_spec (k := k) (m := S.next) (S := S) hk (Nat.le_refl _)
  rw [e1, Option.bind_some, if_neg (by simp)]
  by_cases hl : (x.length : Int) > 200
  · rw [if_pos hl]; exact ⟨_, rfl⟩
  have hx : x.length ≤ 1000 := by omega
  have hc : (cleanL x most).length ≤ 1000 := by
    have : (cleanL x most).length ≤ x.length := by
      have := List.length_filter_le okB x
      simp [cleanL]; omega
    omega
  obtain ⟨S2, e2, f2⟩ := clean_spec (k := k) (m := S1.next) (x := x) (most := most) (S := S1) hx hk (Nat.le_refl _)
  obtain ⟨S3, e3, f3⟩ := text_spec (k := k) (m := S2.next) (x := cleanL x most) (S := S2) hc hk (Nat.le_refl _) (clean_all x most)
  obtain ⟨S4, e4, f4⟩ := clean_spec (k := k) (m := S3.next) (x := cleanL x most) (most := most) (S := S3) hc hk (Nat.le_refl _)
  rw [if_neg hl, e2, Option.bind_some, ref_spec hx hk, Option.bind_some, if_pos rfl, e3, Option.bind_some, rollcalllaw03_ValidCleans.J0, if_pos rfl, e4, Option.bind_some, clean_clean, rollcalllaw03_ValidCleans.J1, if_pos (by simp), rollcalllaw03_ValidCleans.J2]
  exact ⟨_, by rw [decide_eq_true (clean_len x most)]⟩
theorem validCleans_call (W : World) (s : List UInt8) (most : Int) {p : Prop} (_h : p) : HCall Try.prog W.heap.size W B0 6 [.str s, .int .i64 most] S0 (fun v _ => v = .bool true) :=
  let ⟨_, h⟩ := validCleans_spec (k := 2000) (x := s) (most := most) (S := S0) (Nat.le_refl _)
  (rollcalllaw03_ValidCleans.snd h).mono fun _ _ h => h.1
end Go.Proofs.Ytpcdkecglgokoaa.X
