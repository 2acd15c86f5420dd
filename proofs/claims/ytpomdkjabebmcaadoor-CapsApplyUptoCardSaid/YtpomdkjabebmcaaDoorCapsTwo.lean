/- The layer caps: CapsTwo, plain. -/
import Derived.Test.YtpomdkjabebmcaaDoorCpNum
namespace Go.Proofs.YtpomdkjabebmcaaDoor.X
open Go.Proofs.YtpomdkjabebmcaaDoor.HL
set_option linter.unusedVariables false
theorem A0 : (rollcalllaw12_awake.f (disp 2000 4) (fun _ => none) 2000 S0).map (fun p => p.1) = some true := by kernel_rfl
theorem awake_run : ∃ S1, rollcalllaw12_awake.f (disp 2000 4) (fun _ => none) 2000 S0 = some (true, S1) := by
  have h := A0
  cases hc : rollcalllaw12_awake.f (disp 2000 4) (fun _ => none) 2000 S0 with
  | none => rw [hc] at h; cases h
  | some p =>
    rw [hc] at h
    obtain ⟨b, S1⟩ := p
    cases h
    exact ⟨S1, rfl⟩
theorem run_none {ws : List (List UInt8)} {m n : Int} (h : run ws m = none) : run ws n = none := by
  have h1 := run_ok ws m
  have h2 := run_ok ws n
  rw [h] at h1
  rw [← h1] at h2
  cases hc : run ws n with
  | none => rfl
  | some r => rw [hc] at h2; cases h2
theorem capsTwo_spec (n : Int) (a b : List UInt8) : ∃ S', rollcalllaw12_CapsTwo.f (disp 2000 4) (fun _ => none) 2000 n a b S0 = some (true, S') := by
  obtain ⟨S1, e1⟩ := awake_run
  unfold rollcalllaw12_CapsTwo.f
  rw [e1, Option.bind_some, if_neg (by simp)]
  by_cases ha : (a.length : Int) > 60
  · rw [if_pos ha, rollcalllaw12_CapsTwo.J0, if_pos rfl]; exact ⟨_, rfl⟩
  rw [if_neg ha, rollcalllaw12_CapsTwo.J0]
  by_cases hb : (b.length : Int) > 60
  · rw [if_pos (by simpa using hb)]; exact ⟨_, rfl⟩
  rw [if_neg (by simpa using hb)]
  obtain ⟨S2, e2, f2⟩ := apply_spec (k := 2000) (have_ := n) (x := a) (S := S1) (by omega) (Nat.le_refl _)
  rw [e2, Option.bind_some]
  obtain ⟨S3, e3, f3⟩ := apply_spec (k := 2000) (have_ := (app n a).1) (x := b) (S := S2) (by omega) (Nat.le_refl _)
  rw [e3, Option.bind_some, if_pos (by simp; omega), if_pos (by simp; omega)]
  obtain ⟨S4, e4, f4⟩ := apply_spec (k := 2000) (have_ := n) (x := (a ++ [32]) ++ b) (S := S3) (by simp; omega) (Nat.le_refl _)
  rw [e4, Option.bind_some]
  have hw : words ((a ++ [32]) ++ b) = words a ++ words b := by
    rw [List.append_assoc]; exact words_app a b
  have hz : app n ((a ++ [32]) ++ b) = ans n ((run (words a) n).bind (run (words b))) := by unfold app; rw [hw, run_app]
  rw [hz]
  cases hra : run (words a) n with
  | none =>
    have hpa : app n a = (n, false) := by unfold app; rw [hra]; rfl
    rw [hpa]
    simp only [Option.bind_none, ans]
    rw [if_neg (by simp), rollcalllaw12_CapsTwo.J1, if_neg (by simp), if_pos (by rfl), rollcalllaw12_CapsTwo.J3, if_pos (by simp), if_neg (by simp), rollcalllaw12_CapsTwo.J4, if_pos (by simp), rollcalllaw12_CapsTwo.J5, if_pos (by simp)]
    cases hrb : run (words b) n with
    | none =>
      have hpb : app n b = (n, false) := by unfold app; rw [hrb]; rfl
      rw [hpb, if_neg (by simp), rollcalllaw12_CapsTwo.J6, if_pos (by simp), rollcalllaw12_CapsTwo.J7]
      rw [decide_eq_true rfl]; exact ⟨_, rfl⟩
    | some m =>
      have hpb : app n b = (m, true) := by unfold app; rw [hrb]; rfl
      rw [hpb, if_pos rfl, rollcalllaw12_CapsTwo.J6, if_pos (by simp), rollcalllaw12_CapsTwo.J7]
      exact ⟨_, rfl⟩
  | some m =>
    have hpa : app n a = (m, true) := by unfold app; rw [hra]; rfl
    rw [hpa]
    simp only [Option.bind_some]
    rw [if_pos trivial]
    cases hrb : run (words b) m with
    | none =>
      have hpb : app m b = (m, false) := by unfold app; rw [hrb]; rfl
      simp only [hpb, ans]
      rw [rollcalllaw12_CapsTwo.J1, if_neg (by simp), if_pos (by rfl), rollcalllaw12_CapsTwo.J3, if_pos (by simp), if_pos rfl, rollcalllaw12_CapsTwo.J4, if_pos (by simp), rollcalllaw12_CapsTwo.J5, if_pos rfl, if_neg (by simp), rollcalllaw12_CapsTwo.J6, if_pos rfl, rollcalllaw12_CapsTwo.J7]
      rw [decide_eq_true rfl]; exact ⟨_, rfl⟩
    | some r =>
      have hpb : app m b = (r, true) := by unfold app; rw [hrb]; rfl
      simp only [hpb, ans]
      rw [rollcalllaw12_CapsTwo.J1, if_pos rfl, if_pos rfl, rollcalllaw12_CapsTwo.J2]
      rw [decide_eq_true rfl]; exact ⟨_, rfl⟩
theorem capsTwo_call (W : World) (n : Int) {p : Prop} (_w : p) (a b : List UInt8) : HCall Tryd.prog W.heap.size W B0 4 [.int .i64 n, .str a, .str b] S0 (fun v _ => v = .bool true) :=
  let ⟨_, h⟩ := capsTwo_spec n a b
  (rollcalllaw12_CapsTwo.snd (disp_snd 4) (fun _ _ h => by cases h) h).mono fun _ _ h => h.1
end Go.Proofs.YtpomdkjabebmcaaDoor.X
