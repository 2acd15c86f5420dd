/- The layer glob: GlobMatches, plain. -/
import Derived.Test.YtgplnlknejbglaaDoorGmRef
import Derived.Test.YtgplnlknejbglaaDoorGmComp
namespace Go.Proofs.YtgplnlknejbglaaDoor.X
open Go.Proofs.YtgplnlknejbglaaDoor.HL
set_option linter.unusedVariables false
theorem any_loop {k : Nat} {s : List UInt8} {ms : List (List UInt8)} {sl : Sl} {S : HS} (hk : 100001 ≤ k) (hs : s.length ≤ 300) (hms : ∀ m ∈ ms, m.length ≤ 200) (hn : ms.length ≤ 1000) (hr : S.rows sl 1 = some (ms.map fun m => [HV.str m])) : ∀ (n i : Nat), ms.length - i < n → i ≤ ms.length →
    glob_Any.L0 k n s sl (ms.length : Int) (i : Int) S = some ((ms.drop i).any (fun m => M m s), S) := by
  intro n
  induction n with
  | zero => intro i h; omega
  | succ n ih =>
    intro i h hi
    unfold glob_Any.L0
    by_cases hlt : i < ms.length
    · obtain ⟨ad, h1, h2, h3⟩ := rows_idx hr (i := i) (by simpa using hlt)
      have h4 : S.ldS ad = some ms[i] := row_ldS (j := 0) (ad := ad) h3 h2 (by simp)
      have hi1 : w64 ((i : Int) + 1) = ((i + 1 : Nat) : Int) := by rw [w64_id (by omega) (by omega)]; simp
      rw [if_pos (by omega), h1, Option.bind_some, h4, Option.bind_some, match_spec (hms _ (List.getElem_mem hlt)) hs hk, Option.bind_some, List.drop_eq_getElem_cons hlt, List.any_cons]
      by_cases hb : M ms[i] s = true
      · rw [if_pos hb, hb]; rfl
      · have hb' : M ms[i] s = false := by simpa using hb
        rw [if_neg hb, hi1, ih (i + 1) (by omega) (by omega), hb']; rfl
    · rw [if_neg (by omega), List.drop_eq_nil_of_le (by omega)]; rfl
theorem any_spec {k : Nat} {s : List UInt8} {ms : List (List UInt8)} {sl : Sl} {S : HS} (hk : 100001 ≤ k) (hs : s.length ≤ 300) (hms : ∀ m ∈ ms, m.length ≤ 200) (hn : ms.length ≤ 1000) (hr : S.rows sl 1 = some (ms.map fun m => [HV.str m])) :
    glob_Any.f k s sl S = some (ms.any (fun m => M m s), S) := by
  have hl : sl.len = ms.length := by have := rows_len hr; simpa using this.symm
  rw [glob_Any.f, hl]
  exact any_loop hk hs hms hn hr k 0 (by omega) (Nat.zero_le _)
theorem globMatches_spec (mask s : List UInt8) : ∃ S', rollcalllaw04_GlobMatches.f 200000 mask s S0 = some (true, S') := by
  obtain ⟨S1, e1⟩ := awake_run
  unfold rollcalllaw04_GlobMatches.f
  rw [e1, Option.bind_some, if_neg (by simp)]
  by_cases h1 : (mask.length : Int) > 60
  · rw [if_pos h1, rollcalllaw04_GlobMatches.J0, if_pos rfl]; exact ⟨_, rfl⟩
  rw [if_neg h1, rollcalllaw04_GlobMatches.J0]
  by_cases h2 : (s.length : Int) > 60
  · rw [if_pos (by simpa using h2)]; exact ⟨_, rfl⟩
  have hm : mask.length ≤ 60 := by omega
  have hs : s.length ≤ 60 := by omega
  obtain ⟨S2, e2⟩ := refMatch_spec (k := 200000) (mask := mask) (s := s) (S := S1) (by omega) (by omega) (by omega)
  rw [if_neg (by simpa using h2), e2, Option.bind_some, match_spec (by omega) (by omega) (by omega), Option.bind_some, if_pos (by simp)]
  simp only [letv]
  have r1 : (S2.lit [[HV.str mask]] 1).2.rows (S2.lit [[HV.str mask]] 1).1 1 = some ([mask].map fun m => [HV.str m]) := (Vec.lit (n := 0) (S := S2) (z := 1) [[HV.str mask]] (Nat.zero_le _)).rows
  rw [any_spec (ms := [mask]) (by omega) (by omega) (by simp; omega) (by simp) r1, Option.bind_some, rollcalllaw04_GlobMatches.J1, if_pos (by simp)]
  generalize (S2.lit [[HV.str mask]] 1).2 = S3
  have r2 : S3.rows Sl.nil 1 = some (([] : List (List UInt8)).map fun m => [HV.str m]) := (Vec.nil (n := 0) (S := S3) (z := 1) (c := some 0)).rows
  rw [any_spec (ms := []) (by omega) (by omega) (by simp) (by simp) r2, Option.bind_some, rollcalllaw04_GlobMatches.J2, if_pos (by simp)]
  simp only [letv]
  have r3 : (S3.lit [[.str ([] : List UInt8)], [.str mask], [.str ([42] : List UInt8)]] 1).2.rows (S3.lit [[.str ([] : List UInt8)], [.str mask], [.str ([42] : List UInt8)]] 1).1 1 = some ([[], mask, [42]].map fun m => [HV.str m]) := (Vec.lit (n := 0) (S := S3) (z := 1) [[.str ([] : List UInt8)], [.str mask], [.str ([42] : List UInt8)]] (Nat.zero_le _)).rows
  rw [any_spec (ms := [[], mask, [42]]) (by omega) (by omega) (by simp; omega) (by simp) r3, Option.bind_some, rollcalllaw04_GlobMatches.J3]
  have h42 : M [42] s = true := (M_star_iff _ _).2 ⟨s, [], by simp, rfl⟩
  simp [h42]
theorem globMatches_call (W : World) (mask s : List UInt8) : HCall Tryd.prog W.heap.size W B0 4 [.str mask, .str s] S0 (fun v _ => v = .bool true) :=
  let ⟨_, h⟩ := globMatches_spec mask s
  (rollcalllaw04_GlobMatches.snd h).mono fun _ _ h => h.1
end Go.Proofs.YtgplnlknejbglaaDoor.X
