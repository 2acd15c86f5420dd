/- The layer glob: GlobHits, plain. -/
import Derived.Test.YtgplnlknejbglaaDoorGmRef
import Derived.Test.YtgplnlknejbglaaDoorGmComp
namespace Go.Proofs.YtgplnlknejbglaaDoor.X
open Go.Proofs.YtgplnlknejbglaaDoor.HL
set_option linter.unusedVariables false
theorem globHits_spec (mask n u h : List UInt8) : ∃ S', rollcalllaw04_GlobHits.f 200000 mask n u h S0 = some (true, S') := by
  obtain ⟨S1, e1⟩ := awake_run
  unfold rollcalllaw04_GlobHits.f
  rw [e1, Option.bind_some, if_neg (by simp)]
  by_cases h1 : (mask.length : Int) > 40
  · rw [if_pos h1, rollcalllaw04_GlobHits.J0, if_pos rfl, rollcalllaw04_GlobHits.J1, if_pos rfl, rollcalllaw04_GlobHits.J2, if_pos rfl]; exact ⟨_, rfl⟩
  rw [if_neg h1, rollcalllaw04_GlobHits.J0]
  by_cases h2 : (n.length : Int) > 40
  · rw [if_pos (by simpa using h2), rollcalllaw04_GlobHits.J1, if_pos rfl, rollcalllaw04_GlobHits.J2, if_pos rfl]; exact ⟨_, rfl⟩
  rw [if_neg (by simpa using h2), rollcalllaw04_GlobHits.J1]
  by_cases h3 : (u.length : Int) > 40
  · rw [if_pos (by simpa using h3), rollcalllaw04_GlobHits.J2, if_pos rfl]; exact ⟨_, rfl⟩
  rw [if_neg (by simpa using h3), rollcalllaw04_GlobHits.J2]
  by_cases h4 : (h.length : Int) > 40
  · rw [if_pos (by simpa using h4)]; exact ⟨_, rfl⟩
  rw [if_neg (by simpa using h4)]
  obtain ⟨a, b, c, hp⟩ := parts_ex mask
  have hpl : a.length + b.length + c.length ≤ mask.length := by cases hp <;> simp <;> omega
  have hwl : (whole a b c).length ≤ a.length + b.length + c.length + 5 := by
    have l1 := gv_len a; have l2 := gv_len b; have l3 := gv_len c
    simp [whole]; omega
  unfold glob_Hits.f
  rw [complete_spec hp (by omega), Option.bind_some, if_pos (by simp; omega), if_pos (by simp; omega), if_pos (by simp; omega), if_pos (by simp; omega)]
  rw [match_spec (by simp only []; omega) (by simp; omega) (by omega), Option.bind_some, Option.bind_some, refComplete_spec hp (by omega) (by omega), Option.bind_some]
  obtain ⟨S2, e2⟩ := refMatch_spec (k := 200000) (mask := whole a b c) (s := (((n ++ [33]) ++ u) ++ [64]) ++ h) (S := S1) (by omega) (by omega) (by simp; omega)
  rw [if_pos (by simp; omega), if_pos (by simp; omega), if_pos (by simp; omega), if_pos (by simp; omega), e2, Option.bind_some]
  exact ⟨S2, by simp⟩
theorem globHits_call (W : World) (mask n u h : List UInt8) : HCall Tryd.prog W.heap.size W B0 3 [.str mask, .str n, .str u, .str h] S0 (fun v _ => v = .bool true) :=
  let ⟨_, h⟩ := globHits_spec mask n u h
  (rollcalllaw04_GlobHits.snd h).mono fun _ _ h => h.1
end Go.Proofs.YtgplnlknejbglaaDoor.X
