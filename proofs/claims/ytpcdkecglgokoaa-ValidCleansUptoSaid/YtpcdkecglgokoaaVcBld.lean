/- The layer valid: a strings.Builder, plain. -/
import Derived.Test.YtpcdkecglgokoaaVcAll
namespace Go.Proofs.Ytpcdkecglgokoaa.X
open Go.Proofs.Ytpcdkecglgokoaa.HL
set_option linter.unusedVariables false
/-- A builder that holds a text. -/
def BldAt (S : HS) (b : Nat) (txt : List UInt8) : Prop :=
  ∃ p sl, S.heap b = .cells 2 [[.ptr p, Sl.hv sl]] true ∧ (p = none ∨ p = some (HA.cell0 b)) ∧ S.mrk b = 41 ∧ b < S.next ∧
    ((sl = Sl.nil ∧ txt = []) ∨ ∃ d, sl = ⟨some (d, 0), txt.length, none⟩ ∧ b < d ∧ d < S.next ∧ S.heap d = .cells 1 (bytesRows txt) true ∧ S.mrk d = 7 ∧ txt ≠ [])
theorem ptrEq_self (a : HA) : pEq (some a) (some a) = some true := by simp [pEq]
theorem copyCheck_spec {S : HS} {b : Nat} {txt : List UInt8} (h : BldAt S b txt) : ∃ S', strings_Builder_copyCheck.f (some (HA.cell0 b)) S = some ((), S') ∧ BldAt S' b txt ∧ S'.next = S.next ∧ Fr b S S' := by
  obtain ⟨p, sl, h1, h2, h3, h4, h5⟩ := h
  have e1 : S.ldP (HA.fld (HA.cell0 b) 0) = some p := row_ldP (cell_row h1) rfl rfl
  unfold strings_Builder_copyCheck.f
  simp only [Option.bind_some, e1]
  rcases h2 with rfl | rfl
  · have e2 : S.spot (some (HA.cell0 b)) = true := by simp [HS.spot, HA.cell0, h1]
    have e3 : S.spotT (some (HA.cell0 b)) 39 2 = true := by simp [HS.spotT, HA.cell0, h1, h3]
    have e4 : S.sets (HA.fld (HA.cell0 b) 0) [.ptr (some (HA.cell0 b))] = some (S.put b (.cells 2 [[.ptr (some (HA.cell0 b)), Sl.hv sl]] true)) := by
      simp [HS.sets, HA.fld, HA.cell0, h1]
    simp only [Option.isNone_none, if_true, e2, e3, e4, Option.bind_some, strings_Builder_copyCheck.J0]
    refine ⟨_, rfl, ⟨some (HA.cell0 b), sl, put_here _ _ _, .inr rfl, h3, h4, ?_⟩, rfl, Fr.put (Nat.le_refl _) _⟩
    rcases h5 with h5 | ⟨d, g1, g2, g3, g4, g5, g6⟩
    · exact .inl h5
    · exact .inr ⟨d, g1, g2, g3, by rw [put_other _ (by omega)]; exact g4, g5, g6⟩
  · simp only [Option.isNone_some, ptrEq_self, Option.bind_some, strings_Builder_copyCheck.J0]
    exact ⟨S, by simp, ⟨_, sl, h1, .inr rfl, h3, h4, h5⟩, rfl, Fr.refl _ _⟩
theorem writeByte_spec {S : HS} {b : Nat} {txt : List UInt8} (h : BldAt S b txt) (c : UInt8) (hl : txt.length < 1000000) : ∃ S', strings_Builder_WriteByte.f (some (HA.cell0 b)) (c.toNat : Int) S = some (HV.nilIf, S') ∧ BldAt S' b (txt ++ [c]) ∧ Fr b S S' := by
  obtain ⟨S1, e1, h1, n1, f1⟩ := copyCheck_spec h
  obtain ⟨p, sl, g1, g2, g3, g4, g5⟩ := h1
  unfold strings_Builder_WriteByte.f
  have e2 : S1.ldSl (HA.fld (HA.cell0 b) 1) = some sl := row_ldSl (cell_row g1) rfl rfl
  simp only [e1, e2, Option.bind_some, letv]
  have f2 : Fr b S1 (S1.lit [[.int .u8 (c.toNat : Int)]] 1).2 := lit_fr _ (by omega)
  have e3 : (S1.lit [[.int .u8 (c.toNat : Int)]] 1).2.rows (S1.lit [[.int .u8 (c.toNat : Int)]] 1).1 1 = some [[.int .u8 (c.toNat : Int)]] := (Vec.lit (n := 0) _ (Nat.zero_le _)).rows
  rw [e3, Option.bind_some]
  simp only [HS.lit]
  generalize hS2 : S1.new (.cells 1 [[HV.int .u8 (c.toNat : Int)]] true) = S2
  have hb2 : S2.heap b = .cells 2 [[.ptr p, Sl.hv sl]] true := by rw [← hS2, new_old _ g4]; exact g1
  have hn2 : S2.next = S1.next + 1 := by rw [← hS2]; rfl
  have hm2 : ∀ i, i < S1.next → S2.mrk i = S1.mrk i := fun i hi => by rw [← hS2]; simp [HS.new, HS.newM, show i ≠ S1.next by omega]
  have fr2 : Fr b S1 S2 := by rw [← hS2]; exact Fr.new (by omega) _
  rcases g5 with ⟨rfl, rfl⟩ | ⟨d, rfl, k2, k3, k4, k5, k6⟩
  · have e4 : S2.appT Sl.nil [[.int .u8 (c.toNat : Int)]] 1 5 = some (⟨some (S2.next, 0), 1, none⟩, S2.newM (.cells 1 [[.int .u8 (c.toNat : Int)]] true) 7) := by
      simp [HS.appT, Sl.nil]
    rw [e4, Option.bind_some]
    have e5 : (S2.newM (.cells 1 [[.int .u8 (c.toNat : Int)]] true) 7).sets (HA.fld (HA.cell0 b) 1) [Sl.hv ⟨some (S2.next, 0), 1, none⟩] = some ((S2.newM (.cells 1 [[.int .u8 (c.toNat : Int)]] true) 7).put b (.cells 2 [[.ptr p, Sl.hv ⟨some (S2.next, 0), 1, none⟩]] true)) := by
      have : (S2.newM (.cells 1 [[.int .u8 (c.toNat : Int)]] true) 7).heap b = .cells 2 [[.ptr p, Sl.hv Sl.nil]] true := by rw [new_oldM _ _ (by omega)]; exact hb2
      simp [HS.sets, HA.fld, HA.cell0, this]
    rw [e5, Option.bind_some]
    refine ⟨_, rfl, ⟨p, _, put_here _ _ _, g2, ?_, ?_, .inr ⟨S2.next, rfl, by omega, by simp [HS.put, HS.newM], ?_, ?_, by simp⟩⟩, f1.trans (fr2.trans ((Fr.newM (by omega) _ _).trans (Fr.put (Nat.le_refl _) _)))⟩
    · simp only [HS.put, HS.newM]; rw [if_neg (by omega), hm2 b g4]; exact g3
    · simp [HS.put, HS.newM]; omega
    · rw [put_other _ (by omega), new_hereM]; rfl
    · simp [HS.put, HS.newM]
  · have hd2 : S2.heap d = .cells 1 (bytesRows txt) true := by rw [← hS2, new_old _ k3]; exact k4
    have e4 : S2.appT ⟨some (d, 0), txt.length, none⟩ [[.int .u8 (c.toNat : Int)]] 1 5 = some (⟨some (S2.next, 0), (txt ++ [c]).length, none⟩, (S2.put d .dead).newM (.cells 1 (bytesRows (txt ++ [c])) true) 7) := by
      simp only [HS.appT, hd2, bytesRows_len]
      rw [if_neg (by simp), if_pos (by simp; omega), if_pos trivial, if_pos trivial, if_neg (by simp), if_pos (by simp), if_pos ⟨by rw [hm2 d k3]; exact k5, trivial⟩]
      simp [bytesRows]
    rw [e4, Option.bind_some]
    generalize hS3 : (S2.put d .dead).newM (.cells 1 (bytesRows (txt ++ [c])) true) 7 = S3
    have hb3 : S3.heap b = .cells 2 [[.ptr p, Sl.hv ⟨some (d, 0), txt.length, none⟩]] true := by rw [← hS3, new_oldM _ _ (by show b < S2.next; omega), put_other _ (by omega)]; exact hb2
    have e5 : S3.sets (HA.fld (HA.cell0 b) 1) [Sl.hv ⟨some (S2.next, 0), (txt ++ [c]).length, none⟩] = some (S3.put b (.cells 2 [[.ptr p, Sl.hv ⟨some (S2.next, 0), (txt ++ [c]).length, none⟩]] true)) := by
      simp [HS.sets, HA.fld, HA.cell0, hb3]
    rw [e5, Option.bind_some]
    have fr3 : Fr b S2 S3 := by rw [← hS3]; exact (Fr.put (by omega) _).trans (Fr.newM (by show b ≤ S2.next; omega) _ _)
    refine ⟨_, rfl, ⟨p, _, put_here _ _ _, g2, ?_, ?_, .inr ⟨S2.next, rfl, by omega, ?_, ?_, ?_, by simp⟩⟩, f1.trans (fr2.trans (fr3.trans (Fr.put (Nat.le_refl _) _)))⟩
    · rw [← hS3]; simp only [HS.put, HS.newM, show b ≠ S2.next by omega, if_false]; exact (hm2 b g4).trans g3
    · rw [← hS3]; simp [HS.put, HS.newM]; omega
    · rw [← hS3]; simp [HS.put, HS.newM]
    · rw [put_other _ (by omega), ← hS3]; exact new_hereM _ _ _
    · rw [← hS3]; simp [HS.put, HS.newM]
theorem len_spec {S : HS} {b : Nat} {txt : List UInt8} (h : BldAt S b txt) : strings_Builder_Len.f (some (HA.cell0 b)) S = some ((txt.length : Int), S) := by
  obtain ⟨p, sl, g1, g2, g3, g4, g5⟩ := h
  have e2 : S.ldSl (HA.fld (HA.cell0 b) 1) = some sl := row_ldSl (cell_row g1) rfl rfl
  unfold strings_Builder_Len.f
  simp only [e2, Option.bind_some]
  rcases g5 with ⟨rfl, rfl⟩ | ⟨d, rfl, _⟩ <;> rfl
theorem string_spec {S : HS} {b : Nat} {txt : List UInt8} (h : BldAt S b txt) (hl : txt.length < 1000000) : ∃ S', strings_Builder_String.f (some (HA.cell0 b)) S = some (txt, S') ∧ Fr b S S' := by
  obtain ⟨p, sl, g1, g2, g3, g4, g5⟩ := h
  have e2 : S.ldSl (HA.fld (HA.cell0 b) 1) = some sl := row_ldSl (cell_row g1) rfl rfl
  unfold strings_Builder_String.f
  simp only [e2, Option.bind_some]
  rcases g5 with ⟨rfl, rfl⟩ | ⟨d, rfl, k2, k3, k4, k5, k6⟩
  · exact ⟨S, rfl, Fr.refl _ _⟩
  · have h0 : txt.length ≠ 0 := fun e => k6 (List.length_eq_zero_iff.1 e)
    · refine ⟨S.put d (.cells 1 (bytesRows txt) false), ?_, Fr.put (by omega) _⟩
      have e3 : Sl.data ⟨some (d, 0), txt.length, none⟩ = some (some ⟨d, 0, 0⟩) := by simp [Sl.data]; exact k6
      rw [e3, Option.bind_some]
      have e4 : S.ustr (some ⟨d, 0, 0⟩) (txt.length : Int) 5 = some (txt, S.put d (.cells 1 (bytesRows txt) false)) := by
        simp only [HS.ustr, k4]
        rw [if_neg (by omega), if_pos ⟨by trivial, by omega, by omega, by simp [bytesRows_len], k5⟩]
        have : (bytesRows txt).take txt.length = bytesRows txt := List.take_of_length_le (by simp [bytesRows_len])
        simp [this, bytesOf_rows]
      rw [e4]; rfl
end Go.Proofs.Ytpcdkecglgokoaa.X
