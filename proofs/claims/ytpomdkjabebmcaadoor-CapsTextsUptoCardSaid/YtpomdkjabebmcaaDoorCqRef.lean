/- The layer caps: the document's number of a name, plain. -/
import Derived.Test.YtpomdkjabebmcaaDoorCqNum
import Derived.Test.YtpomdkjabebmcaaDoorCpBits
namespace Go.Proofs.YtpomdkjabebmcaaDoor.X
open Go.Proofs.YtpomdkjabebmcaaDoor.HL
set_option linter.unusedVariables false
theorem A0 : (rollcalllaw12_awake.f (disp 2000 4) (fun _ => none) 2000 S0).map (fun p => p.1) = some true := by kernel_rfl
theorem awake_run : ∃ S1, rollcalllaw12_awake.f (disp 2000 4) (fun _ => none) 2000 S0 = some (true, S1) := by
  have h := A0
  cases hc : rollcalllaw12_awake.f (disp 2000 4) (fun _ => none) 2000 S0 with
  | none => rw [hc] at h; cases h
  | some p =>
    rw [hc] at h
    obtain ⟨b, S1⟩ := p
    cases h
    exact ⟨S1, rfl⟩
theorem names_spec {S : HS} : ∃ S', rollcallref12_names.f S = some ((away, echo, multi), S') ∧ Fr S.next S S' := by
  unfold rollcallref12_names.f
  simp only [letv]
  have hc := new_here S (.cells 3 [[(.str []), (.str []), (.str [])]] true)
  have hs : (S.new (.cells 3 [[(.str []), (.str []), (.str [])]] true)).sets (HA.cell0 S.next) [.str away, .str echo, .str multi] = some ((S.new (.cells 3 [[(.str []), (.str []), (.str [])]] true)).put S.next (.cells 3 [[.str away, .str echo, .str multi]] true)) :=
    sets_row (i := 0) (j := 0) (vs := [.str away, .str echo, .str multi]) hc rfl (by simp)
  have hr := cell_row (put_here (S.new (.cells 3 [[(.str []), (.str []), (.str [])]] true)) S.next (.cells 3 [[.str away, .str echo, .str multi]] true))
  have e1 : ([97, 119, 97, 121, 45, 110, 111, 116, 105, 102, 121] : List UInt8) = away := rfl
  have e2 : ([101, 99, 104, 111, 45, 109, 101, 115, 115, 97, 103, 101] : List UInt8) = echo := rfl
  have e3 : ([109, 117, 108, 116, 105, 45, 112, 114, 101, 102, 105, 120] : List UInt8) = multi := rfl
  rw [e1, e2, e3, hs, Option.bind_some, row_ldS hr rfl rfl, Option.bind_some, row_ldS hr rfl rfl, Option.bind_some, row_ldS hr rfl rfl, Option.bind_some]
  exact ⟨_, rfl, (Fr.new (Nat.le_refl _) _).trans (Fr.put (Nat.le_refl _) _)⟩
theorem refNumber_spec {k : Nat} {w : List UInt8} {S : HS} : ∃ S', rollcallref12_Number.f (k + 4) w S = some (num w, S') ∧ Fr S.next S S' := by
  unfold rollcallref12_Number.f
  obtain ⟨S1, e1, f1⟩ := names_spec (S := S)
  obtain ⟨S2, e2, f2⟩ := names_spec (S := S1)
  obtain ⟨S3, e3, f3⟩ := names_spec (S := S2)
  have w1 : w64 ((1 : Int) * 2) = 2 := by decide
  have w2 : w64 ((0 : Int) + 1) = 1 := by decide
  have w3 : w64 ((2 : Int) * 2) = 4 := by decide
  have w4 : w64 ((1 : Int) + 1) = 2 := by decide
  have w5 : w64 ((2 : Int) + 1) = 3 := by decide
  rw [rollcallref12_Number.L0, if_pos (by decide), e1, Option.bind_some, if_pos (by decide), show ([away, echo, multi] : List (List UInt8))[Int.toNat 0]? = some away from rfl, Option.bind_some]
  by_cases h1 : away = w
  · rw [if_pos h1]; exact ⟨S1, by unfold num; rw [if_pos h1.symm], f1⟩
  rw [if_neg h1, w1, w2, rollcallref12_Number.L0, if_pos (by decide), e2, Option.bind_some, if_pos (by decide), show ([away, echo, multi] : List (List UInt8))[Int.toNat 1]? = some echo from rfl, Option.bind_some]
  by_cases h2 : echo = w
  · rw [if_pos h2]; exact ⟨S2, by unfold num; rw [if_neg (fun e => h1 e.symm), if_pos h2.symm], f1.trans (f2.mono f1.le)⟩
  rw [if_neg h2, w3, w4, rollcallref12_Number.L0, if_pos (by decide), e3, Option.bind_some, if_pos (by decide), show ([away, echo, multi] : List (List UInt8))[Int.toNat 2]? = some multi from rfl, Option.bind_some]
  have f123 := f1.trans ((f2.trans (f3.mono f2.le)).mono f1.le)
  by_cases h3 : multi = w
  · rw [if_pos h3]; exact ⟨S3, by unfold num; rw [if_neg (fun e => h1 e.symm), if_neg (fun e => h2 e.symm), if_pos h3.symm], f123⟩
  rw [if_neg h3, w5, rollcallref12_Number.L0, if_neg (by decide)]
  exact ⟨S3, by unfold num; rw [if_neg (fun e => h1 e.symm), if_neg (fun e => h2 e.symm), if_neg (fun e => h3 e.symm)], f123⟩
end Go.Proofs.YtpomdkjabebmcaaDoor.X
