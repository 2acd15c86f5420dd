/- The layer caps: CapsApply, plain. -/
import Derived.Test.YtpomdkjabebmcaaDoorCapsTwo
import Derived.Test.YtpomdkjabebmcaaDoorCpBits
namespace Go.Proofs.YtpomdkjabebmcaaDoor.X
open Go.Proofs.YtpomdkjabebmcaaDoor.HL
set_option linter.unusedVariables false
theorem names_spec {S : HS} : ∃ S', rollcallref12_names.f S = some ((away, echo, multi), S') ∧ Fr S.next S S' := by
  unfold rollcallref12_names.f
  simp only [letv]
  have hc := new_here S (.cells 3 [[(.str []), (.str []), (.str [])]] true)
  have hs : (S.new (.cells 3 [[(.str []), (.str []), (.str [])]] true)).sets (HA.cell0 S.next) [.str away, .str echo, .str multi] = some ((S.new (.cells 3 [[(.str []), (.str []), (.str [])]] true)).put S.next (.cells 3 [[.str away, .str echo, .str multi]] true)) :=
    sets_row (i := 0) (j := 0) (vs := [.str away, .str echo, .str multi]) hc rfl (by simp)
  have hr := cell_row (put_here (S.new (.cells 3 [[(.str []), (.str []), (.str [])]] true)) S.next (.cells 3 [[.str away, .str echo, .str multi]] true))
  have e1 : ([97, 119, 97, 121, 45, 110, 111, 116, 105, 102, 121] : List UInt8) = away := rfl
  have e2 : ([101, 99, 104, 111, 45, 109, 101, 115, 115, 97, 103, 101] : List UInt8) = echo := rfl
  have e3 : ([109, 117, 108, 116, 105, 45, 112, 114, 101, 102, 105, 120] : List UInt8) = multi := rfl
  rw [e1, e2, e3, hs, Option.bind_some, row_ldS hr rfl rfl, Option.bind_some, row_ldS hr rfl rfl, Option.bind_some, row_ldS hr rfl rfl, Option.bind_some]
  exact ⟨_, rfl, (Fr.new (Nat.le_refl _) _).trans (Fr.put (Nat.le_refl _) _)⟩
theorem refNumber_spec {k : Nat} {w : List UInt8} {S : HS} : ∃ S', rollcallref12_Number.f (k + 4) w S = some (num w, S') ∧ Fr S.next S S' := by
  unfold rollcallref12_Number.f
  obtain ⟨S1, e1, f1⟩ := names_spec (S := S)
  obtain ⟨S2, e2, f2⟩ := names_spec (S := S1)
  obtain ⟨S3, e3, f3⟩ := names_spec (S := S2)
  have w1 : w64 ((1 : Int) * 2) = 2 := by decide
  have w2 : w64 ((0 : Int) + 1) = 1 := by decide
  have w3 : w64 ((2 : Int) * 2) = 4 := by decide
  have w4 : w64 ((1 : Int) + 1) = 2 := by decide
  have w5 : w64 ((2 : Int) + 1) = 3 := by decide
  rw [rollcallref12_Number.L0, if_pos (by decide), e1, Option.bind_some, if_pos (by decide), show ([away, echo, multi] : List (List UInt8))[Int.toNat 0]? = some away from rfl, Option.bind_some]
  by_cases h1 : away = w
  · rw [if_pos h1]; exact ⟨S1, by unfold num; rw [if_pos h1.symm], f1⟩
  rw [if_neg h1, w1, w2, rollcallref12_Number.L0, if_pos (by decide), e2, Option.bind_some, if_pos (by decide), show ([away, echo, multi] : List (List UInt8))[Int.toNat 1]? = some echo from rfl, Option.bind_some]
  by_cases h2 : echo = w
  · rw [if_pos h2]; exact ⟨S2, by unfold num; rw [if_neg (fun e => h1 e.symm), if_pos h2.symm], f1.trans (f2.mono f1.le)⟩
  rw [if_neg h2, w3, w4, rollcallref12_Number.L0, if_pos (by decide), e3, Option.bind_some, if_pos (by decide), show ([away, echo, multi] : List (List UInt8))[Int.toNat 2]? = some multi from rfl, Option.bind_some]
  have f123 := f1.trans ((f2.trans (f3.mono f2.le)).mono f1.le)
  by_cases h3 : multi = w
  · rw [if_pos h3]; exact ⟨S3, by unfold num; rw [if_neg (fun e => h1 e.symm), if_neg (fun e => h2 e.symm), if_pos h3.symm], f123⟩
  rw [if_neg h3, w5, rollcallref12_Number.L0, if_neg (by decide)]
  exact ⟨S3, by unfold num; rw [if_neg (fun e => h1 e.symm), if_neg (fun e => h2 e.symm), if_neg (fun e => h3 e.symm)], f123⟩
theorem step1_on {w : List UInt8} {now : Int} (h0 : w ≠ []) (h1 : num (bare w).1 ≠ 0) (hx : InR now) (on : Bool) (hon : on = !(bare w).2) :
    step1 w now = some (if (!(decide (iand .i64 now (num (bare w).1) = num (bare w).1) == on)) = true then ixor .i64 now (num (bare w).1) else now) ∧ (∀ m, step1 w now = some m → InR m) := by
  obtain ⟨hb, hn⟩ := num_bit h1
  have hr : ∀ m, step1 w now = some m → InR m := by
    intro m hm
    unfold step1 at hm
    rw [if_neg h0, if_neg h1] at hm
    split at hm
    · cases hm; exact I_InR _
    · cases hm; exact I_InR _
  refine ⟨?_, hr⟩
  unfold step1
  rw [if_neg h0, if_neg h1, hon]
  rcases bit_cases hb hn hx with ⟨a1, a2, a3⟩ | ⟨a1, a2, a3⟩
  · cases hc : (bare w).2
    · simp [a1, a3]
    · simp [a1, a2]
  · cases hc : (bare w).2
    · simp [a1, a2]
    · simp [a1, a3]
/-- The words behind a word's begin. -/
theorem words_cut {x : List UInt8} {fr i : Nat} (h1 : fr ≤ i) (h2 : i ≤ x.length) (h : 32 ∉ (x.drop fr).take (i - fr)) (hi : i = x.length ∨ ∃ hlt : i < x.length, x[i] = 32) :
    words (x.drop fr) = (x.drop fr).take (i - fr) :: (if i < x.length then words (x.drop (i + 1)) else []) := by
  rcases hi with rfl | ⟨hlt, h32⟩
  · rw [if_neg (by omega)]
    have : (x.drop fr).take (x.length - fr) = x.drop fr := List.take_of_length_le (by simp)
    rw [this] at h ⊢
    exact words_none h
  · rw [if_pos hlt]
    have e : x.drop fr = (x.drop fr).take (i - fr) ++ 32 :: x.drop (i + 1) := by
      have h3 : (x.drop fr).drop (i - fr) = x.drop i := by rw [List.drop_drop, show fr + (i - fr) = i by omega]
      conv => lhs; rw [← List.take_append_drop (i - fr) (x.drop fr), h3, List.drop_eq_getElem_cons hlt, h32]
    have := words_some (a := (x.drop fr).take (i - fr)) (s := x.drop (i + 1)) h
    rw [← e] at this
    exact this
theorem refApply_loop {k : Nat} {have_ : Int} {x : List UInt8} (hx : x.length ≤ 900) : ∀ (f i fr : Nat) (now : Int) (S : HS), x.length + 1 - i < f → i ≤ x.length + 1 → fr ≤ i → InR now → (i ≤ x.length → 32 ∉ (x.drop fr).take (i - fr)) → (i = x.length + 1 → fr = x.length + 1) →
    ∃ S', rollcallref12_Apply.L0 (k + 4) f have_ x now (fr : Int) (i : Int) S = some (ans have_ (if fr ≤ x.length then run (words (x.drop fr)) now else some now), S') ∧ Fr S.next S S' := by
  intro f
  induction f with
  | zero => intro i fr now S h; omega
  | succ f ih =>
    intro i fr now S h hi hfr hin hno hend
    unfold rollcallref12_Apply.L0
    have hi1 : w64 ((i : Int) + 1) = ((i + 1 : Nat) : Int) := by rw [w64_id (by omega) (by omega)]; simp
    by_cases hle : i ≤ x.length
    · rw [if_pos (by omega)]
      -- at the end of a word
      have stop : (i = x.length ∨ ∃ hlt : i < x.length, x[i] = 32) → ∃ S', rollcallref12_Apply.J1 (k + 4) (rollcallref12_Apply.L0 (k + 4) f) have_ x now (fr : Int) (i : Int) false S = some (ans have_ (if fr ≤ x.length then run (words (x.drop fr)) now else some now), S') ∧ Fr S.next S S' := by
        intro hst
        have hw := words_cut hfr hle (hno hle) hst
        have hsub : ssub x (fr : Int) (i : Int) = (x.drop fr).take (i - fr) := by simp [ssub]
        have hnext : ∀ (now' : Int) (S1 : HS), InR now' → Fr S.next S S1 → ∃ S', rollcallref12_Apply.J2 (k + 4) (rollcallref12_Apply.L0 (k + 4) f) have_ x now' ((i + 1 : Nat) : Int) (i : Int) S1 = some (ans have_ (run (if i < x.length then words (x.drop (i + 1)) else []) now'), S') ∧ Fr S.next S S' := by
          intro now' S1 hin' f1
          rw [rollcallref12_Apply.J2, hi1]
          obtain ⟨S2, e2, f2⟩ := ih (i + 1) (i + 1) now' S1 (by omega) (by omega) (Nat.le_refl _) hin' (fun _ => by simp) (fun h => by omega)
          refine ⟨S2, ?_, f1.trans (f2.mono f1.le)⟩
          rw [e2]
          by_cases hlt : i < x.length
          · rw [if_pos (by omega), if_pos hlt]
          · rw [if_neg (by omega), if_neg hlt]; rfl
        rw [rollcallref12_Apply.J1, if_neg (by simp), if_pos ⟨by omega, by omega, by omega⟩, hsub, hi1, if_pos (show fr ≤ x.length by omega), hw, run]
        generalize (x.drop fr).take (i - fr) = w
        by_cases h0 : w = []
        · have e1 : step1 w now = some now := by unfold step1; rw [if_pos h0]
          rw [if_pos h0, e1, Option.bind_some]
          exact hnext now S hin (Fr.refl _ _)
        · rw [if_neg h0]
          obtain ⟨b, s, rfl⟩ : ∃ b s, w = b :: s := by
            cases w with
            | nil => exact absurd rfl h0
            | cons b s => exact ⟨b, s, rfl⟩
          have hb45 : ((b.toNat : Int) = 45) ↔ b = 45 := by rw [← UInt8.toNat_inj]; simp <;> omega
          rw [show sat (b :: s) 0 = some b from rfl, Option.bind_some]
          have j3 : ∀ (on : Bool), on = !(bare (b :: s)).2 → ∃ S', rollcallref12_Apply.J3 (k + 4) (rollcallref12_Apply.L0 (k + 4) f) have_ x now ((i + 1 : Nat) : Int) (i : Int) (bare (b :: s)).1 on S = some (ans have_ ((step1 (b :: s) now).bind (run (if i < x.length then words (x.drop (i + 1)) else []))), S') ∧ Fr S.next S S' := by
            intro on hon
            obtain ⟨S1, e1, f1⟩ := refNumber_spec (k := k) (w := (bare (b :: s)).1) (S := S)
            rw [rollcallref12_Apply.J3, e1, Option.bind_some]
            by_cases h1 : num (bare (b :: s)).1 = 0
            · have e2 : step1 (b :: s) now = none := by unfold step1; rw [if_neg h0, if_pos h1]
              rw [if_pos h1, e2]; exact ⟨S1, rfl, f1⟩
            · obtain ⟨g1, g2⟩ := step1_on h0 h1 hin on hon
              rw [if_neg h1, rollcallref12_bit.f, Option.bind_some, g1, Option.bind_some]
              by_cases hbit : (!(decide (iand .i64 now (num (bare (b :: s)).1) = num (bare (b :: s)).1) == on)) = true
              · rw [if_pos hbit] at g1
                rw [if_pos hbit, if_pos hbit]
                exact hnext _ S1 (g2 _ g1) f1
              · rw [if_neg hbit, if_neg hbit]
                exact hnext _ S1 hin f1
          by_cases hb : b = 45
          · subst hb
            rw [if_pos (by simp), if_pos ⟨by omega, by simp; omega, by omega⟩]
            have e2 : ssub ((45 : UInt8) :: s) 1 (((45 : UInt8) :: s).length : Int) = s := by
              simp only [ssub, Int.toNat_natCast]
              exact List.take_of_length_le (by simp)
            rw [e2]
            have hbare : bare ((45 : UInt8) :: s) = (s, true) := by simp [bare]
            have := j3 false (by rw [hbare]; rfl)
            rw [hbare] at this
            simpa using this
          · have hd : decide ((b.toNat : Int) = 45) = false := decide_eq_false (fun e => hb (hb45.1 e))
            have hbare : bare (b :: s) = (b :: s, false) := by simp [bare, hb]
            rw [if_neg (by simp [hd])]
            have := j3 true (by rw [hbare]; rfl)
            rw [hbare] at this
            simpa [hd] using this
      by_cases hlt : i < x.length
      · rw [if_pos (by omega), sat_lt hlt, Option.bind_some]
        have h32 : ((x[i].toNat : Int) = 32) ↔ x[i] = 32 := by rw [← UInt8.toNat_inj]; simp <;> omega
        by_cases hc : x[i] = 32
        · rw [decide_eq_true (h32.2 hc)]
          exact stop (.inr ⟨hlt, hc⟩)
        · rw [decide_eq_false (fun e => hc (h32.1 e))]
          rw [rollcallref12_Apply.J1, if_pos (by simp), rollcallref12_Apply.J2, hi1]
          refine ih (i + 1) fr now S (by omega) (by omega) (by omega) hin (fun _ => ?_) (fun h => by omega)
          have e : (x.drop fr).take (i + 1 - fr) = (x.drop fr).take (i - fr) ++ [x[i]] := by
            rw [show i + 1 - fr = (i - fr) + 1 by omega, List.take_add_one, List.getElem?_drop, show fr + (i - fr) = i by omega, List.getElem?_eq_getElem hlt]; rfl
          rw [e, List.mem_append]
          rintro (h' | h')
          · exact hno hle h'
          · simp at h'; exact hc h'.symm
      · rw [if_neg (by omega)]
        exact stop (.inl (by omega))
    · have : i = x.length + 1 := by omega
      have hf2 := hend this
      rw [if_neg (by omega), if_neg (by omega)]
      exact ⟨S, rfl, Fr.refl _ _⟩
theorem refApply_spec {have_ : Int} {x : List UInt8} {S : HS} (hx : x.length ≤ 900) (hin : InR have_) : ∃ S', rollcallref12_Apply.f 2000 have_ x S = some (app have_ x, S') ∧ Fr S.next S S' := by
  obtain ⟨S1, e1, f1⟩ := refApply_loop (k := 1996) (have_ := have_) hx 2000 0 0 have_ S (by omega) (by omega) (Nat.le_refl _) hin (fun _ => by simp) (fun h => by omega)
  rw [if_pos (Nat.zero_le _), List.drop_zero] at e1
  exact ⟨S1, e1, f1⟩
theorem app_again {n : Int} {x : List UInt8} (hin : InR n) : app (app n x).1 x = app n x := by
  unfold app
  cases h : run (words x) n with
  | none => simp only [ans]; rw [h]
  | some m =>
    have := (run_again hin h).1
    simp only [ans]; rw [this]
theorem capsApply_spec (n : Int) (x : List UInt8) (hin : InR n) : ∃ S', rollcalllaw12_CapsApply.f (disp 2000 4) (fun _ => none) 2000 n x S0 = some (true, S') := by
  obtain ⟨S1, e1⟩ := awake_run
  unfold rollcalllaw12_CapsApply.f
  rw [e1, Option.bind_some, if_neg (by simp)]
  by_cases hl : (x.length : Int) > 100
  · rw [if_pos hl]; exact ⟨_, rfl⟩
  obtain ⟨S2, e2, f2⟩ := apply_spec (k := 2000) (have_ := n) (x := x) (S := S1) (by omega) (Nat.le_refl _)
  obtain ⟨S3, e3, f3⟩ := refApply_spec (have_ := n) (x := x) (S := S2) (by omega) hin
  obtain ⟨S4, e4, f4⟩ := apply_spec (k := 2000) (have_ := (app n x).1) (x := x) (S := S3) (by omega) (Nat.le_refl _)
  rw [if_neg hl, e2, Option.bind_some, e3, Option.bind_some, e4, Option.bind_some, app_again hin, if_pos rfl, rollcalllaw12_CapsApply.J0, if_pos (by simp), rollcalllaw12_CapsApply.J1, if_pos (by simp), rollcalllaw12_CapsApply.J2]
  exact ⟨S4, by simp⟩
theorem capsApply_call (W : World) (n : Int) (w : (Lit.int .i64 n).wf = true) (x : List UInt8) : HCall Tryd.prog W.heap.size W B0 3 [.int .i64 n, .str x] S0 (fun v _ => v = .bool true) := by
  have hin : InR n := by simpa [Lit.wf, IntKind.min, IntKind.max, IntKind.signed, IntKind.bits, InR] using w
  obtain ⟨_, h⟩ := capsApply_spec n x hin
  exact (rollcalllaw12_CapsApply.snd (disp_snd 4) (fun _ _ h => by cases h) h).mono fun _ _ h => h.1
end Go.Proofs.YtpomdkjabebmcaaDoor.X
