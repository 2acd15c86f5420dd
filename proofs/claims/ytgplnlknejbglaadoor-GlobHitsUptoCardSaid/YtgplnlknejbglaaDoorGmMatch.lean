/- The layer glob: Match, plain. -/
import Derived.Test.YtgplnlknejbglaaDoorGmBase
import Derived.Test.YtgplnlknejbglaaDoorGmSpec
namespace Go.Proofs.YtgplnlknejbglaaDoor.X
open Go.Proofs.YtgplnlknejbglaaDoor.HL
set_option linter.unusedVariables false
theorem all_bytes {p : UInt8 → Prop} (h : ∀ n : Fin 256, p (UInt8.ofNat n.val)) (b : UInt8) : p b := by
  have := h ⟨b.toNat, b.toNat_lt⟩
  simpa using this
def look (y : Nat) : List UInt8 → List UInt8 → Nat
  | a :: s, b :: t => if a.toNat = y then b.toNat else look y s t
  | _, _ => y
theorem refByte_loop {k y : Nat} {src dst : List UInt8} (hl : dst.length = src.length) (hs : src.length ≤ 100000) : ∀ (n i : Nat), src.length - i < n → i ≤ src.length →
    rollcallref01_Byte.L0 k n y src dst (i : Int) = some (look y (src.drop i) (dst.drop i) : Int) := by
  intro n
  induction n with
  | zero => intro i h; omega
  | succ n ih =>
    intro i h hi
    unfold rollcallref01_Byte.L0
    by_cases hlt : i < src.length
    · rw [if_pos (by omega), sat_lt hlt, Option.bind_some, List.drop_eq_getElem_cons hlt, List.drop_eq_getElem_cons (show i < dst.length by omega)]
      by_cases he : src[i].toNat = y
      · rw [if_pos (by omega), sat_lt (show i < dst.length by omega)]
        simp [look, he]
      · rw [if_neg (by omega), w64_id (by omega) (by omega)]
        have := ih (i + 1) (by omega) (by omega)
        rw [show ((i : Int) + 1) = ((i + 1 : Nat) : Int) by simp, this]
        simp [look, he]
    · rw [if_neg (by omega), List.drop_eq_nil_of_le (by omega)]
      simp [look]
theorem refByte_spec {k : Nat} (hk : 31 ≤ k) (b : UInt8) : rollcallref01_Byte.f k (b.toNat : Int) = some ((low b).toNat : Int) := by
  unfold rollcallref01_Byte.f
  have := refByte_loop (k := k) (y := b.toNat) (src := [65, 66, 67, 68, 69, 70, 71, 72, 73, 74, 75, 76, 77, 78, 79, 80, 81, 82, 83, 84, 85, 86, 87, 88, 89, 90, 91, 93, 92, 126]) (dst := [97, 98, 99, 100, 101, 102, 103, 104, 105, 106, 107, 108, 109, 110, 111, 112, 113, 114, 115, 116, 117, 118, 119, 120, 121, 122, 123, 125, 124, 94]) rfl (by decide) k 0 (by simp; omega) (by simp)
  refine this.trans ?_
  congr 2
  exact all_bytes (p := fun b => look b.toNat (List.drop 0 [65, 66, 67, 68, 69, 70, 71, 72, 73, 74, 75, 76, 77, 78, 79, 80, 81, 82, 83, 84, 85, 86, 87, 88, 89, 90, 91, 93, 92, 126]) (List.drop 0 [97, 98, 99, 100, 101, 102, 103, 104, 105, 106, 107, 108, 109, 110, 111, 112, 113, 114, 115, 116, 117, 118, 119, 120, 121, 122, 123, 125, 124, 94]) = (low b).toNat) (by decide +kernel) b

theorem fold_spec (b : UInt8) : fold_Byte.f (b.toNat : Int) = some ((low b).toNat : Int) := all_bytes (p := fun b => fold_Byte.f (b.toNat : Int) = some ((low b).toNat : Int)) (by decide +kernel) b
theorem one_spec (c b : UInt8) : glob_one.f (c.toNat : Int) (b.toNat : Int) = some (oneB c b) := by
  unfold glob_one.f
  have i63 : ((c.toNat : Int) = 63) ↔ c = 63 := by rw [← UInt8.toNat_inj]; simp; omega
  have i42 : ((c.toNat : Int) = 42) ↔ c = 42 := by rw [← UInt8.toNat_inj]; simp; omega
  have il : (((low c).toNat : Int) = ((low b).toNat : Int)) ↔ low c = low b := by rw [← UInt8.toNat_inj]; omega
  by_cases h1 : c = 63
  · rw [if_pos (i63.2 h1), glob_one.J0, oneB, h1]; rfl
  · have h1' : ¬ ((c.toNat : Int) = 63) := fun e => h1 (i63.1 e)
    rw [if_neg h1']
    by_cases h2 : c = 42
    · rw [if_neg (by simp [i42, h2]), glob_one.J1, decide_eq_false h1', if_neg (by simp), glob_one.J0, oneB, h2]; rfl
    · rw [if_pos (by simp [i42, h2]), fold_spec, Option.bind_some, fold_spec, Option.bind_some, glob_one.J1, decide_eq_false h1', if_neg (by simp), glob_one.J0]
      by_cases h3 : low c = low b
      · rw [decide_eq_true (il.2 h3)]; simp [oneB, h2, h3]
      · rw [decide_eq_false (fun e => h3 (il.1 e))]; simp [oneB, h1, h2, h3]
/-! ### strings.Trim at a star -/
theorem ssub_head1 {b : UInt8} {s : List UInt8} : ssub (b :: s) 1 ((b :: s).length : Int) = s := by
  simp only [ssub, Int.toNat_natCast]
  exact List.take_of_length_le (by simp)
theorem trimL {k : Nat} : ∀ (n : Nat) (s : List UInt8), s.length < n → s.length ≤ 100000 → strings_trimLeftByte.L0 k n s 42 = some (s.dropWhile (· == 42)) := by
  intro n
  induction n with
  | zero => intro s h; omega
  | succ n ih =>
    intro s h hl
    unfold strings_trimLeftByte.L0 strings_trimLeftByte.J1
    cases s with
    | nil => simp
    | cons b s =>
      simp only [List.length_cons] at h hl
      rw [if_pos (by simp <;> omega)]
      have hs : sat (b :: s) 0 = some b := rfl
      rw [hs, Option.bind_some]
      by_cases hb : b = 42
      · subst hb
        rw [if_pos (by simp), if_pos ⟨by omega, by simp <;> omega, by omega⟩, ssub_head1, ih s (by omega) (by omega)]
        simp
      · have : ¬ ((b.toNat : Int) = 42) := fun e => hb (by rw [← UInt8.toNat_inj]; simp; omega)
        rw [decide_eq_false this, if_neg (by simp)]
        simp [hb]
theorem trimR {k : Nat} : ∀ (n : Nat) (s : List UInt8), s.length < n → s.length ≤ 100000 → ∃ t j, strings_trimRightByte.L0 k n s 42 = some t ∧ s = t ++ List.replicate j 42 := by
  intro n
  induction n with
  | zero => intro s h; omega
  | succ n ih =>
    intro s h hl
    unfold strings_trimRightByte.L0 strings_trimRightByte.J1
    rcases List.eq_nil_or_concat s with rfl | ⟨s', b, rfl⟩
    · exact ⟨[], 0, by simp, rfl⟩
    · rw [List.concat_eq_append] at h hl ⊢
      simp only [List.length_append, List.length_singleton] at h hl
      have hw : w64 (((s' ++ [b]).length : Int) - 1) = (s'.length : Int) := by rw [w64_id (by simp <;> omega) (by simp <;> omega)]; simp
      rw [if_pos (by simp <;> omega), hw, sat_lt (by simp), Option.bind_some]
      have hg : (s' ++ [b])[s'.length]'(by simp) = b := by simp
      rw [hg]
      by_cases hb : b = 42
      · subst hb
        obtain ⟨t, j, e1, e2⟩ := ih s' (by omega) (by omega)
        have hsub : ssub (s' ++ [42]) 0 (s'.length : Int) = s' := by simp [ssub]
        refine ⟨t, j + 1, ?_, ?_⟩
        · rw [if_pos (by simp), if_pos ⟨by omega, by omega, by simp <;> omega⟩, hsub, e1]
        · rw [List.replicate_succ', ← List.append_assoc, ← e2]
      · have : ¬ ((b.toNat : Int) = 42) := fun e => hb (by rw [← UInt8.toNat_inj]; simp; omega)
        rw [decide_eq_false this, if_neg (by simp)]
        exact ⟨_, 0, rfl, by simp⟩
theorem dropAll (l : List UInt8) : decide (l.dropWhile (· == 42) = []) = l.all (· == 42) := by
  induction l with
  | nil => rfl
  | cons b l ih =>
    by_cases h : b = 42
    · subst h; rw [List.dropWhile_cons, if_pos (by rfl), ih]; simp
    · rw [List.dropWhile_cons, if_neg (by simpa using h)]; simp [h]
theorem trim_spec {k : Nat} {s : List UInt8} {S : HS} (hl : s.length ≤ 100000) (hk : 100001 ≤ k) : ∃ t, strings_Trim.f k s [42] S = some (t, S) ∧ decide (t = []) = s.all (· == 42) := by
  unfold strings_Trim.f
  by_cases h0 : s = []
  · rw [if_pos h0, strings_Trim.J0, if_pos rfl]; exact ⟨s, rfl, by simp [h0]⟩
  · obtain ⟨t, j, e1, e2⟩ := trimR (k := k) k s (by omega) hl
    have hlt : t.length ≤ s.length := by rw [e2]; simp
    rw [if_neg h0, strings_Trim.J0, if_neg (by simp), if_pos (by simp), show sat ([42] : List UInt8) 0 = some 42 from rfl, Option.bind_some, strings_Trim.J1, if_pos (by simp)]
    simp only [show sat ([42] : List UInt8) 0 = some 42 from rfl, show (((42 : UInt8).toNat : Int)) = 42 from rfl, strings_trimRightByte.f, strings_trimLeftByte.f, e1, Option.bind_some]
    rw [trimL k t (by omega) (by omega), Option.bind_some]
    refine ⟨_, rfl, ?_⟩
    rw [e2, List.all_append]
    have hr : (List.replicate j (42 : UInt8)).all (· == 42) = true := by simp
    rw [hr, Bool.and_true]
    exact dropAll t
/-! ### the loop -/
/-- Where Match stands: what is left of the text and of the mask, and that that decides. -/
inductive St (mask s : List UInt8) : Nat → Nat → Int → Nat → List UInt8 → List UInt8 → Prop
  | no {p q mk si} (hm : mask = p ++ mk) (hs : s = q ++ si) (hl : Lit p q) : St mask s q.length p.length (-1) 0 mk si
  | yes {m0 s0 p q mk si} (hm : mask = m0 ++ 42 :: (p ++ mk)) (hs : s = s0 ++ (q ++ si)) (hl : Lit p q) (hM : M mask s = M (42 :: (p ++ mk)) (q ++ si)) : St mask s (s0.length + q.length) (m0.length + 1 + p.length) m0.length s0.length mk si
theorem St.len {mask s : List UInt8} {i k b : Nat} {st : Int} {mk si : List UInt8} (h : St mask s i k st b mk si) : mask.length = k + mk.length ∧ s.length = i + si.length ∧ b ≤ i ∧ mask.drop k = mk ∧ s.drop i = si ∧ (st < 0 ∨ st + 1 ≤ k) := by
  cases h with
  | @no p q _ _ hm hs hl => subst hm hs; refine ⟨by simp, by simp, by omega, by simp, by simp, .inl (by omega)⟩
  | @yes m0 s0 p q _ _ hm hs hl hM =>
    subst hm hs
    refine ⟨by simp <;> omega, by simp <;> omega, by omega, ?_, ?_, .inr (by omega)⟩
    · have : m0 ++ 42 :: (p ++ mk) = (m0 ++ 42 :: p) ++ mk := by simp
      rw [this, show m0.length + 1 + p.length = (m0 ++ 42 :: p).length by simp <;> omega, List.drop_left]
    · have : s0 ++ (q ++ si) = (s0 ++ q) ++ si := by simp
      rw [this, show s0.length + q.length = (s0 ++ q).length by simp, List.drop_left]
theorem St.star {mask s : List UInt8} {i k b : Nat} {st : Int} {mk si : List UInt8} (h : St mask s i k st b (42 :: mk) si) : St mask s i (k + 1) (k : Int) i mk si := by
  cases h with
  | @no p q _ _ hm hs hl =>
    have := St.yes (mask := mask) (s := s) (m0 := p) (s0 := q) (p := []) (q := []) (mk := mk) (si := si) (by simpa using hm) (by simpa using hs) .nil (by rw [hm, hs, hl.M]; rfl)
    simpa using this
  | @yes m0 s0 p q _ _ hm hs hl hM =>
    have := St.yes (mask := mask) (s := s) (m0 := m0 ++ 42 :: p) (s0 := s0 ++ q) (p := []) (q := []) (mk := mk) (si := si) (by rw [hm]; simp) (by rw [hs]; simp) .nil (by rw [hM, greedy hl]; rfl)
    have e1 : (m0 ++ 42 :: p).length = m0.length + 1 + p.length := by simp <;> omega
    have e2 : (s0 ++ q).length = s0.length + q.length := by simp
    rw [e1, e2] at this
    simpa using this
theorem St.lit {mask s : List UInt8} {i k b : Nat} {st : Int} {mk si : List UInt8} {c x : UInt8} (h : St mask s i k st b (c :: mk) (x :: si)) (h1 : c ≠ 42) (h2 : oneB c x = true) : St mask s (i + 1) (k + 1) st b mk si := by
  cases h with
  | @no p q _ _ hm hs hl =>
    have := St.no (mask := mask) (s := s) (p := p ++ [c]) (q := q ++ [x]) (mk := mk) (si := si) (by rw [hm]; simp) (by rw [hs]; simp) (hl.snoc h1 h2)
    simpa using this
  | @yes m0 s0 p q _ _ hm hs hl hM =>
    have := St.yes (mask := mask) (s := s) (m0 := m0) (s0 := s0) (p := p ++ [c]) (q := q ++ [x]) (mk := mk) (si := si) (by rw [hm]; simp) (by rw [hs]; simp) (hl.snoc h1 h2) (by rw [hM]; simp)
    simp only [List.length_append, List.length_singleton] at this
    exact this
/-- The next sign holds for nothing that is left. -/
theorem St.back {mask s : List UInt8} {i k b : Nat} {st : Int} {mk si : List UInt8} (h : St mask s i k st b mk si) (hx : M mk si = false) (hne : si ≠ []) :
    (st < 0 ∧ M mask s = false) ∨ (0 ≤ st ∧ ∃ mk' si', St mask s (b + 1) (st.toNat + 1) st (b + 1) mk' si') := by
  cases h with
  | @no p q _ _ hm hs hl => exact .inl ⟨by omega, by rw [hm, hs, hl.M, hx]⟩
  | @yes m0 s0 p q _ _ hm hs hl hM =>
    right
    refine ⟨by omega, ?_⟩
    have hf : M (p ++ mk) (q ++ si) = false := by rw [hl.M, hx]
    cases hq : q ++ si with
    | nil => exact absurd (List.append_eq_nil_iff.1 hq).2 hne
    | cons y t =>
      rw [hq] at hf hM hs
      have := St.yes (mask := mask) (s := s) (m0 := m0) (s0 := s0 ++ [y]) (p := []) (q := []) (mk := p ++ mk) (si := t) (by rw [hm]; rfl) (by rw [hs]; simp) .nil (by rw [hM, slide hf]; rfl)
      refine ⟨p ++ mk, t, ?_⟩
      simpa using this
theorem St.fin {mask s : List UInt8} {i k b : Nat} {st : Int} {mk : List UInt8} (h : St mask s i k st b mk []) : M mask s = mk.all (· == 42) := by
  cases h with
  | @no p q _ _ hm hs hl => rw [hm, hs, hl.M, M_stars]
  | @yes m0 s0 p q _ _ hm hs hl hM => rw [hM, List.append_nil, last_seg hl, M_stars]
theorem match_loop {k : Nat} {mask s : List UInt8} (hm : mask.length ≤ 1000) (hs : s.length ≤ 1000) (hk : 100001 ≤ k) : ∀ (n i j b : Nat) (st : Int) (mk si : List UInt8) (S : HS), St mask s i j st b mk si → (s.length - b) * (mask.length + 1) + (mask.length - j) < n →
    glob_Match.L0 k n mask s (i : Int) (j : Int) st (b : Int) S = some (M mask s, S) := by
  intro n
  induction n with
  | zero => intro i j b st mk si S _ h; omega
  | succ n ih =>
    intro i j b st mk si S hst hμ
    obtain ⟨l1, l2, l3, l4, l5, l6⟩ := hst.len
    unfold glob_Match.L0
    have hi1 : w64 ((i : Int) + 1) = ((i + 1 : Nat) : Int) := by rw [w64_id (by omega) (by omega)]; simp
    have hj1 : w64 ((j : Int) + 1) = ((j + 1 : Nat) : Int) := by rw [w64_id (by omega) (by omega)]; simp
    have hb1 : w64 ((b : Int) + 1) = ((b + 1 : Nat) : Int) := by rw [w64_id (by omega) (by omega)]; simp
    by_cases hlt : i < s.length
    · rw [if_pos (by omega)]
      cases si with
      | nil => simp at l2; omega
      | cons x si =>
        have hsx : sat s (i : Int) = some x := by
          have := congrArg (fun l => l[0]?) l5
          simp at this
          simp [sat, this]
        have back : M mk (x :: si) = false → (if st < 0 then some (false, S) else glob_Match.L0 k n mask s (w64 ((b : Int) + 1)) (w64 (st + 1)) st (w64 ((b : Int) + 1)) S) = some (M mask s, S) := by
          intro hx
          rcases hst.back hx (by simp) with ⟨h1, h2⟩ | ⟨h1, mk', si', h2⟩
          · rw [if_pos h1, h2]
          · obtain ⟨q1, q2, q3, q4, q5, q6⟩ := h2.len
            have hs1 : w64 (st + 1) = ((st.toNat + 1 : Nat) : Int) := by rw [w64_id (by omega) (by omega)]; omega
            rw [if_neg (by omega), hb1, hs1]
            refine ih _ _ _ _ _ _ S h2 ?_
            have e1 : (s.length - b) * (mask.length + 1) = (s.length - (b + 1)) * (mask.length + 1) + (mask.length + 1) := by
              rw [← Nat.succ_mul]; congr 1; omega
            omega
        by_cases hj : j < mask.length
        · cases mk with
          | nil => simp at l1; omega
          | cons c mk =>
            have hmc : sat mask (j : Int) = some c := by
              have := congrArg (fun l => l[0]?) l4
              simp at this
              simp [sat, this]
            rw [if_pos (by omega), hmc, Option.bind_some, glob_Match.J1]
            by_cases hc : c = 42
            · subst hc
              rw [if_pos (by simp), hj1]
              refine ih _ _ _ _ _ _ S hst.star ?_
              have e1 : (s.length - i) * (mask.length + 1) ≤ (s.length - b) * (mask.length + 1) := Nat.mul_le_mul_right _ (by omega)
              omega
            · have hc42 : ¬ ((c.toNat : Int) = 42) := fun e => hc (by rw [← UInt8.toNat_inj]; simp; omega)
              rw [decide_eq_false hc42, if_neg (by simp), if_pos (by omega), hmc, Option.bind_some, hsx, Option.bind_some, one_spec, Option.bind_some]
              by_cases h1 : oneB c x = true
              · rw [if_pos h1, hi1, hj1]
                refine ih _ _ _ _ _ _ S (hst.lit hc h1) ?_
                omega
              · rw [if_neg h1]
                exact back (by rw [M_lit _ _ _ hc]; simp [h1])
        · cases mk with
          | cons c mk => simp at l1; omega
          | nil =>
            rw [if_neg (by omega), glob_Match.J1, if_neg (by simp), if_neg (by omega)]
            exact back rfl
    · cases si with
      | cons x si => simp at l2; omega
      | nil =>
        rw [if_neg (by omega), if_pos ⟨by omega, by omega, by omega⟩]
        have hsub : ssub mask (j : Int) (mask.length : Int) = mk := by
          simp only [ssub, Int.toNat_natCast, l4]
          exact List.take_of_length_le (by omega)
        obtain ⟨t, e1, e2⟩ := trim_spec (k := k) (s := mk) (S := S) (by omega) hk
        rw [hsub, e1, Option.bind_some, hst.fin, ← e2]
theorem match_spec {k : Nat} {mask s : List UInt8} {S : HS} (hm : mask.length ≤ 200) (hs : s.length ≤ 300) (hk : 100001 ≤ k) : glob_Match.f k mask s S = some (M mask s, S) := by
  rw [glob_Match.f]
  refine match_loop (by omega) (by omega) hk k 0 0 0 (-1) mask s S (St.no (p := []) (q := []) rfl rfl .nil) ?_
  have : (s.length - 0) * (mask.length + 1) ≤ 300 * 201 := Nat.mul_le_mul (by omega) (by omega)
  omega
end Go.Proofs.YtgplnlknejbglaaDoor.X
