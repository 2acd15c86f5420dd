/- The layer glob: where a byte stands first; parts of a mask, plain. The layer glob: what a mask means, plain. The layer glob: Match, plain. The layer glob: wild masks, folded texts, plain. The layer glob: awake. The layer glob: a strings.Builder, plain. The layer glob: GlobShorts, plain. The layer glob: GlobShorts, plain. -/
import Derived.Lib.Bytealg
import Derived.Test.YtgplnlknejbglaaDoorPart11
namespace Go.Proofs.YtgplnlknejbglaaDoor.X
open Go.Proofs.YtgplnlknejbglaaDoor.HL
set_option linter.unusedVariables false
end Go.Proofs.YtgplnlknejbglaaDoor.X
namespace Go.Proofs.YtgplnlknejbglaaDoor.X
def low (b : UInt8) : UInt8 := if 65 ≤ b.toNat ∧ b.toNat ≤ 93 then b + 32 else if b.toNat = 126 then 94 else b
def oneB (m b : UInt8) : Bool := m == 63 || (m != 42 && low m == low b)
def anyTail (p : List UInt8 → Bool) : List UInt8 → Bool
 | [] => p []
 | b :: s => p (b :: s) || anyTail p s
def M : List UInt8 → List UInt8 → Bool
 | [],s => s.isEmpty
 | c :: m,s => if c = 42 then anyTail (M m) s else match s with
  | [] => false
  | b :: s' => oneB c b && M m s'
theorem anyTail_iff (p : List UInt8 → Bool) (s : List UInt8) : anyTail p s = true ↔ ∃ s1 s2,s = s1 ++ s2 ∧ p s2 = true := by
 induction s with
 | nil =>
  constructor
  ·intro h; exact ⟨[],[],rfl,h⟩
  ·rintro ⟨s1,s2,h,hp⟩
   have h2 : s2 = [] := (List.append_eq_nil_iff.1 h.symm).2
   subst h2; exact hp
 | cons b s ih =>
  rw [anyTail,Bool.or_eq_true,ih]
  constructor
  ·rintro (h | ⟨s1,s2,rfl,hp⟩)
   ·exact ⟨[],_,rfl,h⟩
   ·exact ⟨b :: s1,s2,rfl,hp⟩
  ·rintro ⟨s1,s2,h,hp⟩
   cases s1 with
   | nil => simp at h; subst h; exact .inl hp
   | cons x s1 =>
    simp only [List.cons_append,List.cons.injEq] at h
    exact .inr ⟨s1,s2,h.2,hp⟩
theorem M_star (m s : List UInt8) : M (42 :: m) s = anyTail (M m) s := by cases s <;> rfl
theorem M_star_iff (m s : List UInt8) : M (42 :: m) s = true ↔ ∃ s1 s2,s = s1 ++ s2 ∧ M m s2 = true := by rw [M_star,anyTail_iff]
theorem M_nil (s : List UInt8) : M [] s = s.isEmpty := rfl
theorem M_lit_nil {c : UInt8} (m : List UInt8) (h : c ≠ 42) : M (c :: m) [] = false := by
 show (if c = 42 then anyTail (M m) [] else false) = false
 rw [if_neg h]
theorem M_lit {c : UInt8} (m : List UInt8) (b : UInt8) (s : List UInt8) (h : c ≠ 42) : M (c :: m) (b :: s) = (oneB c b && M m s) := by
 show (if c = 42 then anyTail (M m) (b :: s) else (oneB c b && M m s)) = _
 rw [if_neg h]
theorem M_app (m1 m2 : List UInt8) : ∀ s,M (m1 ++ m2) s = true ↔ ∃ s1 s2,s = s1 ++ s2 ∧ M m1 s1 = true ∧ M m2 s2 = true := by
 induction m1 with
 | nil =>
  intro s
  constructor
  ·intro h; exact ⟨[],s,rfl,rfl,h⟩
  ·rintro ⟨s1,s2,rfl,h1,h2⟩
   rw [M_nil,List.isEmpty_iff] at h1
   subst h1; exact h2
 | cons c m1 ih =>
  intro s
  by_cases hc : c = 42
  ·subst hc
   rw [List.cons_append,M_star_iff]
   constructor
   ·rintro ⟨a,b,rfl,h⟩
    obtain ⟨u,v,rfl,h1,h2⟩ := (ih b).1 h
    exact ⟨a ++ u,v,by simp,(M_star_iff _ _).2 ⟨a,u,rfl,h1⟩,h2⟩
   ·rintro ⟨s1,s2,rfl,h1,h2⟩
    obtain ⟨a,u,rfl,h3⟩ := (M_star_iff _ _).1 h1
    exact ⟨a,u ++ s2,by simp,(ih _).2 ⟨u,s2,rfl,h3,h2⟩⟩
  ·cases s with
   | nil =>
    rw [List.cons_append,M_lit_nil _ hc]
    constructor
    ·intro h; cases h
    ·rintro ⟨s1,s2,h,h1,h2⟩
     have : s1 = [] := (List.append_eq_nil_iff.1 h.symm).1
     subst this
     rw [M_lit_nil _ hc] at h1; cases h1
   | cons b s =>
    rw [List.cons_append,M_lit _ _ _ hc,Bool.and_eq_true,ih]
    constructor
    ·rintro ⟨h,s1,s2,rfl,h1,h2⟩
     exact ⟨b :: s1,s2,rfl,by rw [M_lit _ _ _ hc,h,h1]; rfl,h2⟩
    ·rintro ⟨s1,s2,h,h1,h2⟩
     cases s1 with
     | nil => rw [M_lit_nil _ hc] at h1; cases h1
     | cons x s1 =>
      simp only [List.cons_append,List.cons.injEq] at h
      rw [M_lit _ _ _ hc,Bool.and_eq_true] at h1
      obtain ⟨rfl,rfl⟩ := h
      exact ⟨h1.1,s1,s2,rfl,h1.2,h2⟩
/-- A run of signs that are no stars, and what they were held against. -/
inductive Lit : List UInt8 → List UInt8 → Prop
 | nil : Lit [] []
 | cons {c b p q} (h1 : c ≠ 42) (h2 : oneB c b = true) (h : Lit p q) : Lit (c :: p) (b :: q)
theorem Lit.len {p q : List UInt8} (h : Lit p q) : p.length = q.length := by
 induction h with
 | nil => rfl
 | cons _ _ _ ih => simp [ih]
theorem Lit.snoc {p q : List UInt8} (h : Lit p q) {c b : UInt8} (h1 : c ≠ 42) (h2 : oneB c b = true) : Lit (p ++ [c]) (q ++ [b]) := by
 induction h with
 | nil => exact .cons h1 h2 .nil
 | cons g1 g2 _ ih => exact .cons g1 g2 ih
theorem Lit.M {p q : List UInt8} (h : Lit p q) (m s : List UInt8) : X.M (p ++ m) (q ++ s) = X.M m s := by
 induction h with
 | nil => rfl
 | cons h1 h2 _ ih => rw [List.cons_append,List.cons_append,M_lit _ _ _ h1,h2,ih]; rfl
theorem Lit.size {p q : List UInt8} (h : Lit p q) : ∀ (u : List UInt8),X.M p u = true → u.length = p.length := by
 induction h with
 | nil => intro u h; rw [M_nil,List.isEmpty_iff] at h; subst h; rfl
 | cons h1 h2 _ ih =>
  intro u h
  cases u with
  | nil => rw [M_lit_nil _ h1] at h; cases h
  | cons b u =>
   rw [M_lit _ _ _ h1,Bool.and_eq_true] at h
   simp [ih u h.2]
theorem star_more {m a s : List UInt8} (h : M (42 :: m) s = true) : M (42 :: m) (a ++ s) = true := by
 obtain ⟨x,y,rfl,h1⟩ := (M_star_iff _ _).1 h
 exact (M_star_iff _ _).2 ⟨a ++ x,y,by simp,h1⟩
theorem bool_ext {a b : Bool} (h : a = true ↔ b = true) : a = b := by
 cases a <;> cases b <;> simp_all
theorem greedy {p q : List UInt8} (h : Lit p q) (m s : List UInt8) : M (42 :: (p ++ 42 :: m)) (q ++ s) = M (42 :: m) s := by
 apply bool_ext
 constructor
 ·intro h1
  obtain ⟨t1,t2,e,h2⟩ := (M_star_iff _ _).1 h1
  obtain ⟨u1,u2,rfl,h3,h4⟩ := (M_app _ _ _).1 h2
  have hl := h.size u1 h3
  have hl2 := h.len
  have e1 : q ++ s = (t1 ++ u1) ++ u2 := by rw [e]; simp
  have hle : q.length ≤ (t1 ++ u1).length := by simp; omega
  obtain ⟨x,hx⟩ : ∃ x,s = x ++ u2 := by
   refine ⟨(t1 ++ u1).drop q.length,?_⟩
   have := congrArg (List.drop q.length) e1
   rw [List.drop_left,List.drop_append_of_le_length hle] at this
   exact this
  rw [hx]; exact star_more h4
 ·intro h1
  exact (M_star_iff _ _).2 ⟨[],q ++ s,rfl,by rw [h.M]; exact h1⟩
theorem last_seg {p q : List UInt8} (h : Lit p q) (m : List UInt8) : M (42 :: (p ++ m)) q = M m [] := by
 apply bool_ext
 constructor
 ·intro h1
  obtain ⟨t1,t2,e,h2⟩ := (M_star_iff _ _).1 h1
  obtain ⟨u1,u2,rfl,h3,h4⟩ := (M_app _ _ _).1 h2
  have hl := h.size u1 h3
  have hl2 := h.len
  have hl3 := congrArg List.length e
  simp at hl3
  have ht : u2 = [] := List.length_eq_zero_iff.1 (by omega)
  rw [ht] at h4; exact h4
 ·intro h1
  refine (M_star_iff _ _).2 ⟨[],q,rfl,?_⟩
  have := h.M m []
  rw [List.append_nil] at this
  rw [this]; exact h1
theorem M_stars (m : List UInt8) : M m [] = m.all (· == 42) := by
 induction m with
 | nil => rfl
 | cons c m ih =>
  by_cases hc : c = 42
  ·subst hc; rw [M_star,anyTail,ih]; simp
  ·rw [M_lit_nil _ hc]; simp [hc]
theorem slide {m : List UInt8} {b : UInt8} {t : List UInt8} (h : M m (b :: t) = false) : M (42 :: m) (b :: t) = M (42 :: m) t := by
 rw [M_star,anyTail,h,Bool.false_or,M_star]
/-! ### by beginnings -/
end Go.Proofs.YtgplnlknejbglaaDoor.X
namespace Go.Proofs.YtgplnlknejbglaaDoor.X
open Go.Proofs.YtgplnlknejbglaaDoor.HL
set_option linter.unusedVariables false
theorem all_bytes {p : UInt8 → Prop} (h : ∀ n : Fin 256,p (UInt8.ofNat n.val)) (b : UInt8) : p b := by
 have := h ⟨b.toNat,b.toNat_lt⟩
 simpa using this
def look (y : Nat) : List UInt8 → List UInt8 → Nat
 | a :: s,b :: t => if a.toNat = y then b.toNat else look y s t
 | _,_ => y
theorem fold_spec (b : UInt8) : fold_Byte.f (b.toNat : Int) = some ((low b).toNat : Int) := all_bytes (p := fun b => fold_Byte.f (b.toNat : Int) = some ((low b).toNat : Int)) (by decide +kernel) b
theorem one_spec (c b : UInt8) : glob_one.f (c.toNat : Int) (b.toNat : Int) = some (oneB c b) := by
 unfold glob_one.f
 have i63 : ((c.toNat : Int) = 63) ↔ c = 63 := by rw [← UInt8.toNat_inj]; simp; omega
 have i42 : ((c.toNat : Int) = 42) ↔ c = 42 := by rw [← UInt8.toNat_inj]; simp; omega
 have il : (((low c).toNat : Int) = ((low b).toNat : Int)) ↔ low c = low b := by rw [← UInt8.toNat_inj]; omega
 by_cases h1 : c = 63
 ·rw [if_pos (i63.2 h1),glob_one.J0,oneB,h1]; rfl
 ·have h1' : ¬ ((c.toNat : Int) = 63) := fun e => h1 (i63.1 e)
  rw [if_neg h1']
  by_cases h2 : c = 42
  ·rw [if_neg (by simp [i42,h2]),glob_one.J1,decide_eq_false h1',if_neg (by simp),glob_one.J0,oneB,h2]; rfl
  ·rw [if_pos (by simp [i42,h2]),fold_spec,Option.bind_some,fold_spec,Option.bind_some,glob_one.J1,decide_eq_false h1',if_neg (by simp),glob_one.J0]
   by_cases h3 : low c = low b
   ·rw [decide_eq_true (il.2 h3)]; simp [oneB,h2,h3]
   ·rw [decide_eq_false (fun e => h3 (il.1 e))]; simp [oneB,h1,h2,h3]
/-! ### strings.Trim at a star -/
theorem ssub_head1 {b : UInt8} {s : List UInt8} : ssub (b :: s) 1 ((b :: s).length : Int) = s := by
 simp only [ssub,Int.toNat_natCast]
 exact List.take_of_length_le (by simp)
theorem trimL {k : Nat} : ∀ (n : Nat) (s : List UInt8),s.length < n → s.length ≤ 100000 → strings_trimLeftByte.L0 k n s 42 = some (s.dropWhile (· == 42)) := by
 intro n
 induction n with
 | zero => intro s h; omega
 | succ n ih =>
  intro s h hl
  unfold strings_trimLeftByte.L0 strings_trimLeftByte.J1
  cases s with
  | nil => simp
  | cons b s =>
   simp only [List.length_cons] at h hl
   rw [if_pos (by simp <;> omega)]
   have hs : sat (b :: s) 0 = some b := rfl
   rw [hs,Option.bind_some]
   by_cases hb : b = 42
   ·subst hb
    rw [if_pos (by simp),if_pos ⟨by omega,by simp <;> omega,by omega⟩,ssub_head1,ih s (by omega) (by omega)]
    simp
   ·have : ¬ ((b.toNat : Int) = 42) := fun e => hb (by rw [← UInt8.toNat_inj]; simp; omega)
    rw [decide_eq_false this,if_neg (by simp)]
    simp [hb]
theorem trimR {k : Nat} : ∀ (n : Nat) (s : List UInt8),s.length < n → s.length ≤ 100000 → ∃ t j,strings_trimRightByte.L0 k n s 42 = some t ∧ s = t ++ List.replicate j 42 := by
 intro n
 induction n with
 | zero => intro s h; omega
 | succ n ih =>
  intro s h hl
  unfold strings_trimRightByte.L0 strings_trimRightByte.J1
  rcases List.eq_nil_or_concat s with rfl | ⟨s',b,rfl⟩
  ·exact ⟨[],0,by simp,rfl⟩
  ·rw [List.concat_eq_append] at h hl ⊢
   simp only [List.length_append,List.length_singleton] at h hl
   have hw : w64 (((s' ++ [b]).length : Int) - 1) = (s'.length : Int) := by rw [w64_id (by simp <;> omega) (by simp <;> omega)]; simp
   rw [if_pos (by simp <;> omega),hw,sat_lt (by simp),Option.bind_some]
   have hg : (s' ++ [b])[s'.length]'(by simp) = b := by simp
   rw [hg]
   by_cases hb : b = 42
   ·subst hb
    obtain ⟨t,j,e1,e2⟩ := ih s' (by omega) (by omega)
    have hsub : ssub (s' ++ [42]) 0 (s'.length : Int) = s' := by simp [ssub]
    refine ⟨t,j + 1,?_,?_⟩
    ·rw [if_pos (by simp),if_pos ⟨by omega,by omega,by simp <;> omega⟩,hsub,e1]
    ·rw [List.replicate_succ',← List.append_assoc,← e2]
   ·have : ¬ ((b.toNat : Int) = 42) := fun e => hb (by rw [← UInt8.toNat_inj]; simp; omega)
    rw [decide_eq_false this,if_neg (by simp)]
    exact ⟨_,0,rfl,by simp⟩
theorem dropAll (l : List UInt8) : decide (l.dropWhile (· == 42) = []) = l.all (· == 42) := by
 induction l with
 | nil => rfl
 | cons b l ih =>
  by_cases h : b = 42
  ·subst h; rw [List.dropWhile_cons,if_pos (by rfl),ih]; simp
  ·rw [List.dropWhile_cons,if_neg (by simpa using h)]; simp [h]
theorem trim_spec {k : Nat} {s : List UInt8} {S : HS} (hl : s.length ≤ 100000) (hk : 100001 ≤ k) : ∃ t,strings_Trim.f k s [42] S = some (t,S) ∧ decide (t = []) = s.all (· == 42) := by
 unfold strings_Trim.f
 by_cases h0 : s = []
 ·rw [if_pos h0,strings_Trim.J0,if_pos rfl]; exact ⟨s,rfl,by simp [h0]⟩
 ·obtain ⟨t,j,e1,e2⟩ := trimR (k := k) k s (by omega) hl
  have hlt : t.length ≤ s.length := by rw [e2]; simp
  rw [if_neg h0,strings_Trim.J0,if_neg (by simp),if_pos (by simp),show sat ([42] : List UInt8) 0 = some 42 from rfl,Option.bind_some,strings_Trim.J1,if_pos (by simp)]
  simp only [show sat ([42] : List UInt8) 0 = some 42 from rfl,show (((42 : UInt8).toNat : Int)) = 42 from rfl,strings_trimRightByte.f,strings_trimLeftByte.f,e1,Option.bind_some]
  rw [trimL k t (by omega) (by omega),Option.bind_some]
  refine ⟨_,rfl,?_⟩
  rw [e2,List.all_append]
  have hr : (List.replicate j (42 : UInt8)).all (· == 42) = true := by simp
  rw [hr,Bool.and_true]
  exact dropAll t
/-! ### the loop -/
/-- Where Match stands: what is left of the text and of the mask, and that that decides. -/
inductive St (mask s : List UInt8) : Nat → Nat → Int → Nat → List UInt8 → List UInt8 → Prop
 | no {p q mk si} (hm : mask = p ++ mk) (hs : s = q ++ si) (hl : Lit p q) : St mask s q.length p.length (-1) 0 mk si
 | yes {m0 s0 p q mk si} (hm : mask = m0 ++ 42 :: (p ++ mk)) (hs : s = s0 ++ (q ++ si)) (hl : Lit p q) (hM : M mask s = M (42 :: (p ++ mk)) (q ++ si)) : St mask s (s0.length + q.length) (m0.length + 1 + p.length) m0.length s0.length mk si
theorem St.len {mask s : List UInt8} {i k b : Nat} {st : Int} {mk si : List UInt8} (h : St mask s i k st b mk si) : mask.length = k + mk.length ∧ s.length = i + si.length ∧ b ≤ i ∧ mask.drop k = mk ∧ s.drop i = si ∧ (st < 0 ∨ st + 1 ≤ k) := by
 cases h with
 | @no p q _ _ hm hs hl => subst hm hs; refine ⟨by simp,by simp,by omega,by simp,by simp,.inl (by omega)⟩
 | @yes m0 s0 p q _ _ hm hs hl hM =>
  subst hm hs
  refine ⟨by simp <;> omega,by simp <;> omega,by omega,?_,?_,.inr (by omega)⟩
  ·have : m0 ++ 42 :: (p ++ mk) = (m0 ++ 42 :: p) ++ mk := by simp
   rw [this,show m0.length + 1 + p.length = (m0 ++ 42 :: p).length by simp <;> omega,List.drop_left]
  ·have : s0 ++ (q ++ si) = (s0 ++ q) ++ si := by simp
   rw [this,show s0.length + q.length = (s0 ++ q).length by simp,List.drop_left]
theorem St.star {mask s : List UInt8} {i k b : Nat} {st : Int} {mk si : List UInt8} (h : St mask s i k st b (42 :: mk) si) : St mask s i (k + 1) (k : Int) i mk si := by
 cases h with
 | @no p q _ _ hm hs hl =>
  have := St.yes (mask := mask) (s := s) (m0 := p) (s0 := q) (p := []) (q := []) (mk := mk) (si := si) (by simpa using hm) (by simpa using hs) .nil (by rw [hm,hs,hl.M]; rfl)
  simpa using this
 | @yes m0 s0 p q _ _ hm hs hl hM =>
  have := St.yes (mask := mask) (s := s) (m0 := m0 ++ 42 :: p) (s0 := s0 ++ q) (p := []) (q := []) (mk := mk) (si := si) (by rw [hm]; simp) (by rw [hs]; simp) .nil (by rw [hM,greedy hl]; rfl)
  have e1 : (m0 ++ 42 :: p).length = m0.length + 1 + p.length := by simp <;> omega
  have e2 : (s0 ++ q).length = s0.length + q.length := by simp
  rw [e1,e2] at this
  simpa using this
theorem St.lit {mask s : List UInt8} {i k b : Nat} {st : Int} {mk si : List UInt8} {c x : UInt8} (h : St mask s i k st b (c :: mk) (x :: si)) (h1 : c ≠ 42) (h2 : oneB c x = true) : St mask s (i + 1) (k + 1) st b mk si := by
 cases h with
 | @no p q _ _ hm hs hl =>
  have := St.no (mask := mask) (s := s) (p := p ++ [c]) (q := q ++ [x]) (mk := mk) (si := si) (by rw [hm]; simp) (by rw [hs]; simp) (hl.snoc h1 h2)
  simpa using this
 | @yes m0 s0 p q _ _ hm hs hl hM =>
  have := St.yes (mask := mask) (s := s) (m0 := m0) (s0 := s0) (p := p ++ [c]) (q := q ++ [x]) (mk := mk) (si := si) (by rw [hm]; simp) (by rw [hs]; simp) (hl.snoc h1 h2) (by rw [hM]; simp)
  simp only [List.length_append,List.length_singleton] at this
  exact this
/-- The next sign holds for nothing that is left. -/
theorem St.back {mask s : List UInt8} {i k b : Nat} {st : Int} {mk si : List UInt8} (h : St mask s i k st b mk si) (hx : M mk si = false) (hne : si ≠ []) :
  (st < 0 ∧ M mask s = false) ∨ (0 ≤ st ∧ ∃ mk' si',St mask s (b + 1) (st.toNat + 1) st (b + 1) mk' si') := by
 cases h with
 | @no p q _ _ hm hs hl => exact .inl ⟨by omega,by rw [hm,hs,hl.M,hx]⟩
 | @yes m0 s0 p q _ _ hm hs hl hM =>
  right
  refine ⟨by omega,?_⟩
  have hf : M (p ++ mk) (q ++ si) = false := by rw [hl.M,hx]
  cases hq : q ++ si with
  | nil => exact absurd (List.append_eq_nil_iff.1 hq).2 hne
  | cons y t =>
   rw [hq] at hf hM hs
   have := St.yes (mask := mask) (s := s) (m0 := m0) (s0 := s0 ++ [y]) (p := []) (q := []) (mk := p ++ mk) (si := t) (by rw [hm]; rfl) (by rw [hs]; simp) .nil (by rw [hM,slide hf]; rfl)
   refine ⟨p ++ mk,t,?_⟩
   simpa using this
theorem St.fin {mask s : List UInt8} {i k b : Nat} {st : Int} {mk : List UInt8} (h : St mask s i k st b mk []) : M mask s = mk.all (· == 42) := by
 cases h with
 | @no p q _ _ hm hs hl => rw [hm,hs,hl.M,M_stars]
 | @yes m0 s0 p q _ _ hm hs hl hM => rw [hM,List.append_nil,last_seg hl,M_stars]
theorem match_loop {k : Nat} {mask s : List UInt8} (hm : mask.length ≤ 1000) (hs : s.length ≤ 1000) (hk : 100001 ≤ k) : ∀ (n i j b : Nat) (st : Int) (mk si : List UInt8) (S : HS),St mask s i j st b mk si → (s.length - b) * (mask.length + 1) + (mask.length - j) < n →
  glob_Match.L0 k n mask s (i : Int) (j : Int) st (b : Int) S = some (M mask s,S) := by
 intro n
 induction n with
 | zero => intro i j b st mk si S _ h; omega
 | succ n ih =>
  intro i j b st mk si S hst hμ
  obtain ⟨l1,l2,l3,l4,l5,l6⟩ := hst.len
  unfold glob_Match.L0
  have hi1 : w64 ((i : Int) + 1) = ((i + 1 : Nat) : Int) := by rw [w64_id (by omega) (by omega)]; simp
  have hj1 : w64 ((j : Int) + 1) = ((j + 1 : Nat) : Int) := by rw [w64_id (by omega) (by omega)]; simp
  have hb1 : w64 ((b : Int) + 1) = ((b + 1 : Nat) : Int) := by rw [w64_id (by omega) (by omega)]; simp
  by_cases hlt : i < s.length
  ·rw [if_pos (by omega)]
   cases si with
   | nil => simp at l2; omega
   | cons x si =>
    have hsx : sat s (i : Int) = some x := by
     have := congrArg (fun l => l[0]?) l5
     simp at this
     simp [sat,this]
    have back : M mk (x :: si) = false → (if st < 0 then some (false,S) else glob_Match.L0 k n mask s (w64 ((b : Int) + 1)) (w64 (st + 1)) st (w64 ((b : Int) + 1)) S) = some (M mask s,S) := by
     intro hx
     rcases hst.back hx (by simp) with ⟨h1,h2⟩ | ⟨h1,mk',si',h2⟩
     ·rw [if_pos h1,h2]
     ·obtain ⟨q1,q2,q3,q4,q5,q6⟩ := h2.len
      have hs1 : w64 (st + 1) = ((st.toNat + 1 : Nat) : Int) := by rw [w64_id (by omega) (by omega)]; omega
      rw [if_neg (by omega),hb1,hs1]
      refine ih _ _ _ _ _ _ S h2 ?_
      have e1 : (s.length - b) * (mask.length + 1) = (s.length - (b + 1)) * (mask.length + 1) + (mask.length + 1) := by
       rw [← Nat.succ_mul]; congr 1; omega
      omega
    by_cases hj : j < mask.length
    ·cases mk with
     | nil => simp at l1; omega
     | cons c mk =>
      have hmc : sat mask (j : Int) = some c := by
       have := congrArg (fun l => l[0]?) l4
       simp at this
       simp [sat,this]
      rw [if_pos (by omega),hmc,Option.bind_some,glob_Match.J1]
      by_cases hc : c = 42
      ·subst hc
       rw [if_pos (by simp),hj1]
       refine ih _ _ _ _ _ _ S hst.star ?_
       have e1 : (s.length - i) * (mask.length + 1) ≤ (s.length - b) * (mask.length + 1) := Nat.mul_le_mul_right _ (by omega)
       omega
      ·have hc42 : ¬ ((c.toNat : Int) = 42) := fun e => hc (by rw [← UInt8.toNat_inj]; simp; omega)
       rw [decide_eq_false hc42,if_neg (by simp),if_pos (by omega),hmc,Option.bind_some,hsx,Option.bind_some,one_spec,Option.bind_some]
       by_cases h1 : oneB c x = true
       ·rw [if_pos h1,hi1,hj1]
        refine ih _ _ _ _ _ _ S (hst.lit hc h1) ?_
        omega
       ·rw [if_neg h1]
        exact back (by rw [M_lit _ _ _ hc]; simp [h1])
    ·cases mk with
     | cons c mk => simp at l1; omega
     | nil =>
      rw [if_neg (by omega),glob_Match.J1,if_neg (by simp),if_neg (by omega)]
      exact back rfl
  ·cases si with
   | cons x si => simp at l2; omega
   | nil =>
    rw [if_neg (by omega),if_pos ⟨by omega,by omega,by omega⟩]
    have hsub : ssub mask (j : Int) (mask.length : Int) = mk := by
     simp only [ssub,Int.toNat_natCast,l4]
     exact List.take_of_length_le (by omega)
    obtain ⟨t,e1,e2⟩ := trim_spec (k := k) (s := mk) (S := S) (by omega) hk
    rw [hsub,e1,Option.bind_some,hst.fin,← e2]
theorem match_spec {k : Nat} {mask s : List UInt8} {S : HS} (hm : mask.length ≤ 200) (hs : s.length ≤ 300) (hk : 100001 ≤ k) : glob_Match.f k mask s S = some (M mask s,S) := by
 rw [glob_Match.f]
 refine match_loop (by omega) (by omega) hk k 0 0 0 (-1) mask s S (St.no (p := []) (q := []) rfl rfl .nil) ?_
 have : (s.length - 0) * (mask.length + 1) ≤ 300 * 201 := Nat.mul_le_mul (by omega) (by omega)
 omega
end Go.Proofs.YtgplnlknejbglaaDoor.X
namespace Go.Proofs.YtgplnlknejbglaaDoor.X
open Go.Proofs.YtgplnlknejbglaaDoor.HL
set_option linter.unusedVariables false
/-! ### wild masks -/
def wildB (s : List UInt8) : Bool := s.any fun b => b == 42 || b == 63
theorem contains_wild (s : List UInt8) : Lib.containsAny s [42,63] = wildB s := by
 unfold Lib.containsAny wildB
 induction s with
 | nil => rfl
 | cons b s ih =>
  unfold Lib.indexAny
  have hc : ([42,63] : List UInt8).contains b = (b == 42 || b == 63) := by rw [List.contains_cons,List.contains_cons,List.contains_nil,Bool.or_false]
  rw [hc,List.any_cons,← ih]
  cases h : (b == 42 || b == 63) with
  | true => simp
  | false =>
   have hg := Lib.indexAny_ge [42,63] s
   by_cases h1 : Lib.indexAny s [42,63] = -1
   ·simp [h1]
   ·have h2 : (Lib.indexAny s [42,63] == -1) = false := beq_eq_false_iff_ne.2 h1
    simp only [Bool.false_eq_true,if_false,h2,Bool.false_or]
    rw [decide_eq_decide]; omega
theorem wild_spec {s : List UInt8} (h : s.length ≤ 100000) : glob_Wild.f s = some (wildB s) := by
 unfold glob_Wild.f strings_ContainsAny.f
 rw [if_pos ⟨rfl,by omega⟩,Option.bind_some,contains_wild]
end Go.Proofs.YtgplnlknejbglaaDoor.X
namespace Go.Proofs.YtgplnlknejbglaaDoor.X
open Go.Proofs.YtgplnlknejbglaaDoor.HL
set_option linter.unusedVariables false
theorem A0 : (rollcalllaw04_awake.f 200000 S0).map (fun p => p.1) = some true := by kernel_rfl
theorem awake_run : ∃ S1,rollcalllaw04_awake.f 200000 S0 = some (true,S1) := by
 have h := A0
 cases hc : rollcalllaw04_awake.f 200000 S0 with
 | none => rw [hc] at h; cases h
 | some p =>
  rw [hc] at h
  obtain ⟨b,S1⟩ := p
  cases h
  exact ⟨S1,rfl⟩
end Go.Proofs.YtgplnlknejbglaaDoor.X
namespace Go.Proofs.YtgplnlknejbglaaDoor.X
open Go.Proofs.YtgplnlknejbglaaDoor.HL
set_option linter.unusedVariables false
/-- A builder that holds a text. -/
def BldAt (S : HS) (b : Nat) (txt : List UInt8) : Prop :=
 ∃ p sl,S.heap b = .cells 2 [[.ptr p,Sl.hv sl]] true ∧ (p = none ∨ p = some (HA.cell0 b)) ∧ S.mrk b = 45 ∧ b < S.next ∧
  ((sl = Sl.nil ∧ txt = []) ∨ ∃ d,sl = ⟨some (d,0),txt.length,none⟩ ∧ b < d ∧ d < S.next ∧ S.heap d = .cells 1 (bytesRows txt) true ∧ S.mrk d = 7 ∧ txt ≠ [])
theorem ptrEq_self (a : HA) : pEq (some a) (some a) = some true := by simp [pEq]
theorem copyCheck_spec {S : HS} {b : Nat} {txt : List UInt8} (h : BldAt S b txt) : ∃ S',strings_Builder_copyCheck.f (some (HA.cell0 b)) S = some ((),S') ∧ BldAt S' b txt ∧ S'.next = S.next ∧ Fr b S S' := by
 obtain ⟨p,sl,h1,h2,h3,h4,h5⟩ := h
 have e1 : S.ldP (HA.fld (HA.cell0 b) 0) = some p := row_ldP (cell_row h1) rfl rfl
 unfold strings_Builder_copyCheck.f
 simp only [Option.bind_some,e1]
 rcases h2 with rfl | rfl
 ·have e2 : S.spot (some (HA.cell0 b)) = true := by simp [HS.spot,HA.cell0,h1]
  have e3 : S.spotT (some (HA.cell0 b)) 43 2 = true := by simp [HS.spotT,HA.cell0,h1,h3]
  have e4 : S.sets (HA.fld (HA.cell0 b) 0) [.ptr (some (HA.cell0 b))] = some (S.put b (.cells 2 [[.ptr (some (HA.cell0 b)),Sl.hv sl]] true)) := by
   simp [HS.sets,HA.fld,HA.cell0,h1]
  simp only [Option.isNone_none,if_true,e2,e3,e4,Option.bind_some,strings_Builder_copyCheck.J0]
  refine ⟨_,rfl,⟨some (HA.cell0 b),sl,put_here _ _ _,.inr rfl,h3,h4,?_⟩,rfl,Fr.put (Nat.le_refl _) _⟩
  rcases h5 with h5 | ⟨d,g1,g2,g3,g4,g5,g6⟩
  ·exact .inl h5
  ·exact .inr ⟨d,g1,g2,g3,by rw [put_other _ (by omega)]; exact g4,g5,g6⟩
 ·simp only [Option.isNone_some,ptrEq_self,Option.bind_some,strings_Builder_copyCheck.J0]
  exact ⟨S,by simp,⟨_,sl,h1,.inr rfl,h3,h4,h5⟩,rfl,Fr.refl _ _⟩
theorem writeByte_spec {S : HS} {b : Nat} {txt : List UInt8} (h : BldAt S b txt) (c : UInt8) (hl : txt.length < 1000000) : ∃ S',strings_Builder_WriteByte.f (some (HA.cell0 b)) (c.toNat : Int) S = some (HV.nilIf,S') ∧ BldAt S' b (txt ++ [c]) ∧ Fr b S S' := by
 obtain ⟨S1,e1,h1,n1,f1⟩ := copyCheck_spec h
 obtain ⟨p,sl,g1,g2,g3,g4,g5⟩ := h1
 unfold strings_Builder_WriteByte.f
 have e2 : S1.ldSl (HA.fld (HA.cell0 b) 1) = some sl := row_ldSl (cell_row g1) rfl rfl
 simp only [e1,e2,Option.bind_some,letv]
 have f2 : Fr b S1 (S1.lit [[.int .u8 (c.toNat : Int)]] 1).2 := lit_fr _ (by omega)
 have e3 : (S1.lit [[.int .u8 (c.toNat : Int)]] 1).2.rows (S1.lit [[.int .u8 (c.toNat : Int)]] 1).1 1 = some [[.int .u8 (c.toNat : Int)]] := (Vec.lit (n := 0) _ (Nat.zero_le _)).rows
 rw [e3,Option.bind_some]
 simp only [HS.lit]
 generalize hS2 : S1.new (.cells 1 [[HV.int .u8 (c.toNat : Int)]] true) = S2
 have hb2 : S2.heap b = .cells 2 [[.ptr p,Sl.hv sl]] true := by rw [← hS2,new_old _ g4]; exact g1
 have hn2 : S2.next = S1.next + 1 := by rw [← hS2]; rfl
 have hm2 : ∀ i,i < S1.next → S2.mrk i = S1.mrk i := fun i hi => by rw [← hS2]; simp [HS.new,HS.newM,show i ≠ S1.next by omega]
 have fr2 : Fr b S1 S2 := by rw [← hS2]; exact Fr.new (by omega) _
 rcases g5 with ⟨rfl,rfl⟩ | ⟨d,rfl,k2,k3,k4,k5,k6⟩
 ·have e4 : S2.appT Sl.nil [[.int .u8 (c.toNat : Int)]] 1 5 = some (⟨some (S2.next,0),1,none⟩,S2.newM (.cells 1 [[.int .u8 (c.toNat : Int)]] true) 7) := by
   simp [HS.appT,Sl.nil]
  rw [e4,Option.bind_some]
  have e5 : (S2.newM (.cells 1 [[.int .u8 (c.toNat : Int)]] true) 7).sets (HA.fld (HA.cell0 b) 1) [Sl.hv ⟨some (S2.next,0),1,none⟩] = some ((S2.newM (.cells 1 [[.int .u8 (c.toNat : Int)]] true) 7).put b (.cells 2 [[.ptr p,Sl.hv ⟨some (S2.next,0),1,none⟩]] true)) := by
   have : (S2.newM (.cells 1 [[.int .u8 (c.toNat : Int)]] true) 7).heap b = .cells 2 [[.ptr p,Sl.hv Sl.nil]] true := by rw [new_oldM _ _ (by omega)]; exact hb2
   simp [HS.sets,HA.fld,HA.cell0,this]
  rw [e5,Option.bind_some]
  refine ⟨_,rfl,⟨p,_,put_here _ _ _,g2,?_,?_,.inr ⟨S2.next,rfl,by omega,by simp [HS.put,HS.newM],?_,?_,by simp⟩⟩,f1.trans (fr2.trans ((Fr.newM (by omega) _ _).trans (Fr.put (Nat.le_refl _) _)))⟩
  ·simp only [HS.put,HS.newM]; rw [if_neg (by omega),hm2 b g4]; exact g3
  ·simp [HS.put,HS.newM]; omega
  ·rw [put_other _ (by omega),new_hereM]; rfl
  ·simp [HS.put,HS.newM]
 ·have hd2 : S2.heap d = .cells 1 (bytesRows txt) true := by rw [← hS2,new_old _ k3]; exact k4
  have e4 : S2.appT ⟨some (d,0),txt.length,none⟩ [[.int .u8 (c.toNat : Int)]] 1 5 = some (⟨some (S2.next,0),(txt ++ [c]).length,none⟩,(S2.put d .dead).newM (.cells 1 (bytesRows (txt ++ [c])) true) 7) := by
   simp only [HS.appT,hd2,bytesRows_len]
   rw [if_neg (by simp),if_pos (by simp; omega),if_pos trivial,if_pos trivial,if_neg (by simp),if_pos (by simp),if_pos ⟨by rw [hm2 d k3]; exact k5,trivial⟩]
   simp [bytesRows]
  rw [e4,Option.bind_some]
  generalize hS3 : (S2.put d .dead).newM (.cells 1 (bytesRows (txt ++ [c])) true) 7 = S3
  have hb3 : S3.heap b = .cells 2 [[.ptr p,Sl.hv ⟨some (d,0),txt.length,none⟩]] true := by rw [← hS3,new_oldM _ _ (by show b < S2.next; omega),put_other _ (by omega)]; exact hb2
  have e5 : S3.sets (HA.fld (HA.cell0 b) 1) [Sl.hv ⟨some (S2.next,0),(txt ++ [c]).length,none⟩] = some (S3.put b (.cells 2 [[.ptr p,Sl.hv ⟨some (S2.next,0),(txt ++ [c]).length,none⟩]] true)) := by
   simp [HS.sets,HA.fld,HA.cell0,hb3]
  rw [e5,Option.bind_some]
  have fr3 : Fr b S2 S3 := by rw [← hS3]; exact (Fr.put (by omega) _).trans (Fr.newM (by show b ≤ S2.next; omega) _ _)
  refine ⟨_,rfl,⟨p,_,put_here _ _ _,g2,?_,?_,.inr ⟨S2.next,rfl,by omega,?_,?_,?_,by simp⟩⟩,f1.trans (fr2.trans (fr3.trans (Fr.put (Nat.le_refl _) _)))⟩
  ·rw [← hS3]; simp only [HS.put,HS.newM,show b ≠ S2.next by omega,if_false]; exact (hm2 b g4).trans g3
  ·rw [← hS3]; simp [HS.put,HS.newM]; omega
  ·rw [← hS3]; simp [HS.put,HS.newM]
  ·rw [put_other _ (by omega),← hS3]; exact new_hereM _ _ _
  ·rw [← hS3]; simp [HS.put,HS.newM]
theorem writeString_spec {S : HS} {b : Nat} {txt new : List UInt8} (h : BldAt S b txt) (hne : new ≠ []) (hl : txt.length + new.length < 1000000) : ∃ S',strings_Builder_WriteString.f (some (HA.cell0 b)) new S = some (((new.length : Int),HV.nilIf),S') ∧ BldAt S' b (txt ++ new) ∧ Fr b S S' := by
 obtain ⟨S1,e1,h1,n1,f1⟩ := copyCheck_spec h
 obtain ⟨p,sl,g1,g2,g3,g4,g5⟩ := h1
 unfold strings_Builder_WriteString.f
 have e2 : S1.ldSl (HA.fld (HA.cell0 b) 1) = some sl := row_ldSl (cell_row g1) rfl rfl
 have hbn : bytesRows new ≠ [] := fun e => hne (by have := congrArg List.length e; simp [bytesRows_len] at this; exact this)
 simp only [e1,e2,Option.bind_some]
 rcases g5 with ⟨rfl,rfl⟩ | ⟨d,rfl,k2,k3,k4,k5,k6⟩
 ·have e4 : S1.appT Sl.nil (bytesRows new) 1 5 = some (⟨some (S1.next,0),new.length,none⟩,S1.newM (.cells 1 (bytesRows new) true) 7) := by
   simp [HS.appT,Sl.nil,hbn,bytesRows_len]
   simp at hl; omega
  rw [e4,Option.bind_some]
  have e5 : (S1.newM (.cells 1 (bytesRows new) true) 7).sets (HA.fld (HA.cell0 b) 1) [Sl.hv ⟨some (S1.next,0),new.length,none⟩] = some ((S1.newM (.cells 1 (bytesRows new) true) 7).put b (.cells 2 [[.ptr p,Sl.hv ⟨some (S1.next,0),new.length,none⟩]] true)) := by
   have : (S1.newM (.cells 1 (bytesRows new) true) 7).heap b = .cells 2 [[.ptr p,Sl.hv Sl.nil]] true := by rw [new_oldM _ _ g4]; exact g1
   simp [HS.sets,HA.fld,HA.cell0,this]
  rw [e5,Option.bind_some]
  refine ⟨_,rfl,⟨p,_,put_here _ _ _,g2,?_,?_,.inr ⟨S1.next,rfl,by omega,by simp [HS.put,HS.newM],?_,?_,by simpa using hne⟩⟩,f1.trans ((Fr.newM (by omega) _ _).trans (Fr.put (Nat.le_refl _) _))⟩
  ·simp only [HS.put,HS.newM]; rw [if_neg (by omega)]; exact g3
  ·simp [HS.put,HS.newM]; omega
  ·rw [put_other _ (by omega),new_hereM]; rfl
  ·simp [HS.put,HS.newM]
 ·have e4 : S1.appT ⟨some (d,0),txt.length,none⟩ (bytesRows new) 1 5 = some (⟨some (S1.next,0),(txt ++ new).length,none⟩,(S1.put d .dead).newM (.cells 1 (bytesRows (txt ++ new)) true) 7) := by
   simp only [HS.appT,k4,bytesRows_len]
   have hpos := List.length_pos_iff.2 hne
   rw [if_neg hbn,if_pos (by omega),if_pos trivial,if_pos trivial,if_neg (by omega),if_pos (by omega),if_pos ⟨k5,trivial⟩]
   simp [bytesRows]
  rw [e4,Option.bind_some]
  generalize hS3 : (S1.put d .dead).newM (.cells 1 (bytesRows (txt ++ new)) true) 7 = S3
  have hb3 : S3.heap b = .cells 2 [[.ptr p,Sl.hv ⟨some (d,0),txt.length,none⟩]] true := by rw [← hS3,new_oldM _ _ (by show b < S1.next; omega),put_other _ (by omega)]; exact g1
  have e5 : S3.sets (HA.fld (HA.cell0 b) 1) [Sl.hv ⟨some (S1.next,0),(txt ++ new).length,none⟩] = some (S3.put b (.cells 2 [[.ptr p,Sl.hv ⟨some (S1.next,0),(txt ++ new).length,none⟩]] true)) := by
   simp [HS.sets,HA.fld,HA.cell0,hb3]
  rw [e5,Option.bind_some]
  have fr3 : Fr b S1 S3 := by rw [← hS3]; exact (Fr.put (by omega) _).trans (Fr.newM (by show b ≤ S1.next; omega) _ _)
  refine ⟨_,rfl,⟨p,_,put_here _ _ _,g2,?_,?_,.inr ⟨S1.next,rfl,by omega,?_,?_,?_,by simp [hne]⟩⟩,f1.trans (fr3.trans (Fr.put (Nat.le_refl _) _))⟩
  ·rw [← hS3]; simp only [HS.put,HS.newM,show b ≠ S1.next by omega,if_false]; exact g3
  ·rw [← hS3]; simp [HS.put,HS.newM]; omega
  ·rw [← hS3]; simp [HS.put,HS.newM]
  ·rw [put_other _ (by omega),← hS3]; exact new_hereM _ _ _
  ·rw [← hS3]; simp [HS.put,HS.newM]
theorem newBld (S : HS) : BldAt (S.newM (.cells 2 [[.ptr none,Sl.hv Sl.nil]] true) 45) S.next [] :=
 ⟨none,Sl.nil,new_hereM _ _ _,.inl rfl,by simp [HS.newM],by simp [HS.newM],.inl ⟨rfl,rfl⟩⟩
theorem string_spec {S : HS} {b : Nat} {txt : List UInt8} (h : BldAt S b txt) (hl : txt.length < 1000000) : ∃ S',strings_Builder_String.f (some (HA.cell0 b)) S = some (txt,S') ∧ Fr b S S' := by
 obtain ⟨p,sl,g1,g2,g3,g4,g5⟩ := h
 have e2 : S.ldSl (HA.fld (HA.cell0 b) 1) = some sl := row_ldSl (cell_row g1) rfl rfl
 unfold strings_Builder_String.f
 simp only [e2,Option.bind_some]
 rcases g5 with ⟨rfl,rfl⟩ | ⟨d,rfl,k2,k3,k4,k5,k6⟩
 ·exact ⟨S,rfl,Fr.refl _ _⟩
 ·have h0 : txt.length ≠ 0 := fun e => k6 (List.length_eq_zero_iff.1 e)
  ·refine ⟨S.put d (.cells 1 (bytesRows txt) false),?_,Fr.put (by omega) _⟩
   have e3 : Sl.data ⟨some (d,0),txt.length,none⟩ = some (some ⟨d,0,0⟩) := by simp [Sl.data]; exact k6
   rw [e3,Option.bind_some]
   have e4 : S.ustr (some ⟨d,0,0⟩) (txt.length : Int) 5 = some (txt,S.put d (.cells 1 (bytesRows txt) false)) := by
    simp only [HS.ustr,k4]
    rw [if_neg (by omega),if_pos ⟨by trivial,by omega,by omega,by simp [bytesRows_len],k5⟩]
    have : (bytesRows txt).take txt.length = bytesRows txt := List.take_of_length_le (by simp [bytesRows_len])
    simp [this,bytesOf_rows]
   rw [e4]; rfl
end Go.Proofs.YtgplnlknejbglaaDoor.X
namespace Go.Proofs.YtgplnlknejbglaaDoor.X
open Go.Proofs.YtgplnlknejbglaaDoor.HL
set_option linter.unusedVariables false
/-- The short mask: true: behind a star. -/
def sh : Bool → List UInt8 → List UInt8
 | false,[] => []
 | true,[] => [42]
 | false,c :: m => if c = 42 then sh true m else c :: sh false m
 | true,c :: m => if c = 42 then sh true m else if c = 63 then 63 :: sh true m else 42 :: c :: sh false m
theorem sh_f42 (m : List UInt8) : sh false (42 :: m) = sh true m := by rw [sh,if_pos rfl]
theorem sh_fne {c : UInt8} (m : List UInt8) (h : c ≠ 42) : sh false (c :: m) = c :: sh false m := by rw [sh,if_neg h]
theorem sh_t42 (m : List UInt8) : sh true (42 :: m) = sh true m := by rw [sh,if_pos rfl]
theorem sh_t63 (m : List UInt8) : sh true (63 :: m) = 63 :: sh true m := by rw [sh,if_neg (by decide),if_pos rfl]
theorem sh_tne {c : UInt8} (m : List UInt8) (h : c ≠ 42) (h2 : c ≠ 63) : sh true (c :: m) = 42 :: c :: sh false m := by rw [sh,if_neg h,if_neg h2]
theorem sh_idem (m : List UInt8) : sh false (sh false m) = sh false m ∧ sh false (sh true m) = sh true m := by
 induction m with
 | nil => exact ⟨rfl,rfl⟩
 | cons c m ih =>
  by_cases h : c = 42
  ·subst h
   rw [sh_f42,sh_t42]
   exact ⟨ih.2,ih.2⟩
  ·refine ⟨by rw [sh_fne m h,sh_fne _ h,ih.1],?_⟩
   by_cases h2 : c = 63
   ·subst h2
    rw [sh_t63,sh_fne _ h,ih.2]
   ·rw [sh_tne m h h2,sh_f42,sh_tne _ h h2,ih.1]
theorem sh_wild (m : List UInt8) : wildB (sh false m) = wildB m ∧ wildB (sh true m) = true := by
 induction m with
 | nil => exact ⟨rfl,rfl⟩
 | cons c m ih =>
  by_cases h : c = 42
  ·subst h
   rw [sh_f42,sh_t42]
   exact ⟨by rw [ih.2]; rfl,ih.2⟩
  ·refine ⟨by rw [sh_fne m h]; unfold wildB at ih ⊢; rw [List.any_cons,List.any_cons,ih.1],?_⟩
   by_cases h2 : c = 63
   ·subst h2
    rw [sh_t63]; rfl
   ·rw [sh_tne m h h2]; rfl
theorem M_star_congr {m n : List UInt8} (h : ∀ s,M m s = M n s) (s : List UInt8) : M (42 :: m) s = M (42 :: n) s := by
 rw [M_star,M_star,show M m = M n from funext h]
theorem M_lit_congr {c : UInt8} (hc : c ≠ 42) {m n : List UInt8} (h : ∀ s,M m s = M n s) (s : List UInt8) : M (c :: m) s = M (c :: n) s := by
 cases s with
 | nil => rw [M_lit_nil _ hc,M_lit_nil _ hc]
 | cons b s => rw [M_lit _ _ _ hc,M_lit _ _ _ hc,h]
theorem M_two_stars (m s : List UInt8) : M (42 :: 42 :: m) s = M (42 :: m) s := by
 apply bool_ext
 rw [M_star_iff]
 constructor
 ·rintro ⟨a,b,rfl,h⟩
  exact star_more h
 ·intro h; exact ⟨[],s,rfl,h⟩
theorem M_q_star (s : List UInt8) : M [63,42] s = M [42,63] s := by
 cases s with
 | nil => rfl
 | cons b s =>
  have h1 : M [63,42] (b :: s) = true := by
   rw [M_lit _ _ _ (by decide),(M_star_iff _ _).2 ⟨s,[],by simp,rfl⟩]; rfl
  rw [h1]
  symm
  refine (M_star_iff _ _).2 ⟨(b :: s).dropLast,[(b :: s).getLast (by simp)],(List.dropLast_concat_getLast _).symm,?_⟩
  rw [M_lit _ _ _ (by decide)]; rfl
theorem M_swap (m s : List UInt8) : M (63 :: 42 :: m) s = M (42 :: 63 :: m) s := by
 apply bool_ext
 have e1 : (63 :: 42 :: m : List UInt8) = [63,42] ++ m := rfl
 have e2 : (42 :: 63 :: m : List UInt8) = [42,63] ++ m := rfl
 rw [e1,e2,M_app,M_app]
 simp only [M_q_star]
theorem sh_M (m : List UInt8) : (∀ s,M (sh false m) s = M m s) ∧ ∀ s,M (sh true m) s = M (42 :: m) s := by
 induction m with
 | nil => exact ⟨fun _ => rfl,fun _ => rfl⟩
 | cons c m ih =>
  by_cases h : c = 42
  ·subst h
   rw [sh_f42,sh_t42]
   exact ⟨ih.2,fun s => by rw [M_two_stars]; exact ih.2 s⟩
  ·refine ⟨fun s => by rw [sh_fne m h]; exact M_lit_congr h ih.1 s,fun s => ?_⟩
   by_cases h2 : c = 63
   ·subst h2
    rw [sh_t63,M_lit_congr h ih.2,M_swap]
   ·rw [sh_tne m h h2]
    exact M_star_congr (M_lit_congr h ih.1) s
theorem sh_len (m : List UInt8) : (sh false m).length ≤ m.length ∧ (sh true m).length ≤ m.length + 1 := by
 induction m with
 | nil => exact ⟨Nat.le_refl _,Nat.le_refl _⟩
 | cons c m ih =>
  by_cases h : c = 42
  ·subst h
   rw [sh_f42,sh_t42]; simp; omega
  ·by_cases h2 : c = 63
   ·subst h2
    rw [sh_t63,sh_fne m h]; simp; omega
   ·rw [sh_tne m h h2,sh_fne m h]; simp; omega
/-! ### a run of stars and ? -/
theorem sh_run : ∀ (r m : List UInt8),(∀ x ∈ r,x = 42 ∨ x = 63) → sh true (r ++ m) = List.replicate (Lib.countByte r 63) 63 ++ sh true m
 | [],m,_ => rfl
 | x :: r,m,h => by
  have ih := sh_run r m (fun y hy => h y (by simp [hy]))
  rcases h x (by simp) with rfl | rfl
  ·rw [List.cons_append,sh_t42,ih]; rfl
  ·rw [List.cons_append,sh_t63,ih,Lib.countByte,Lib.countByte,List.count_cons_self,List.replicate_succ]; rfl
theorem sh_end {m : List UInt8} (h : ∀ c t,m = c :: t → c ≠ 42 ∧ c ≠ 63) : sh true m = 42 :: sh false m := by
 cases m with
 | nil => rfl
 | cons c t =>
  obtain ⟨h1,h2⟩ := h c t rfl
  rw [sh_tne t h1 h2,sh_fne t h1]
end Go.Proofs.YtgplnlknejbglaaDoor.X
namespace Go.Proofs.YtgplnlknejbglaaDoor.X
open Go.Proofs.YtgplnlknejbglaaDoor.HL
set_option linter.unusedVariables false
theorem rep_one (n : Nat) : Lib.repeatL [63] n = List.replicate n 63 := by
 induction n with
 | zero => rfl
 | succ n ih => rw [Lib.repeatL,ih]; rfl
theorem l1_run {k : Nat} {m : List UInt8} (hm : m.length ≤ 1000) {p : Option HA} {s0 : Int} {S : HS} (rec0 : List UInt8 → Option HA → Int → HS → Option (List UInt8 × HS)) : ∀ (n j : Nat),m.length - j < n → j ≤ m.length →
  ∃ e n',j ≤ e ∧ e ≤ m.length ∧ (∀ x ∈ (m.drop j).take (e - j),x = 42 ∨ x = 63) ∧ (∀ c t,m.drop e = c :: t → c ≠ 42 ∧ c ≠ 63) ∧
   glob_Short.L1 k rec0 n m p (j : Int) s0 S = glob_Short.J3 k (glob_Short.L1 k rec0 n') rec0 m p (e : Int) s0 false S := by
 intro n
 induction n with
 | zero => intro j h; omega
 | succ n ih =>
  intro j h hj
  unfold glob_Short.L1
  by_cases hlt : j < m.length
  ·have hj1 : w64 ((j : Int) + 1) = ((j + 1 : Nat) : Int) := by rw [w64_id (by omega) (by omega)]; simp
   rw [if_pos (by omega),sat_lt hlt,Option.bind_some]
   have more : (m[j] = 42 ∨ m[j] = 63) → ∃ e n',j ≤ e ∧ e ≤ m.length ∧ (∀ x ∈ (m.drop j).take (e - j),x = 42 ∨ x = 63) ∧ (∀ c t,m.drop e = c :: t → c ≠ 42 ∧ c ≠ 63) ∧
     glob_Short.J2 k (glob_Short.L1 k rec0 n) rec0 m p (j : Int) s0 (decide ((j : Int) < (m.length : Int))) true S = glob_Short.J3 k (glob_Short.L1 k rec0 n') rec0 m p (e : Int) s0 false S := by
    intro hc
    obtain ⟨e,n',h1,h2,h3,h4,h5⟩ := ih (j + 1) (by omega) (by omega)
    refine ⟨e,n',by omega,h2,?_,h4,?_⟩
    ·rw [List.drop_eq_getElem_cons hlt,show e - j = (e - (j + 1)) + 1 by omega,List.take_succ_cons]
     intro x hx
     rcases List.mem_cons.1 hx with rfl | hx
     ·exact hc
     ·exact h3 x hx
    ·rw [glob_Short.J2,if_pos (by simp <;> omega),glob_Short.J3,if_pos rfl,hj1,h5]
   by_cases h42 : m[j] = 42
   ·rw [if_pos (by rw [h42]; rfl)]
    exact more (.inl h42)
   ·have hne : ¬ ((m[j].toNat : Int) = 42) := fun e => h42 (UInt8.toNat_inj.1 (by have : (42 : UInt8).toNat = 42 := rfl; omega))
    rw [if_neg hne,Option.bind_some]
    by_cases h63 : m[j] = 63
    ·have : decide ((m[j].toNat : Int) = 63) = true := by rw [h63]; rfl
     rw [this]
     exact more (.inr h63)
    ·have hne2 : ¬ ((m[j].toNat : Int) = 63) := fun e => h63 (UInt8.toNat_inj.1 (by have : (63 : UInt8).toNat = 63 := rfl; omega))
     rw [decide_eq_false hne2]
     refine ⟨j,n,Nat.le_refl _,hj,by simp,?_,?_⟩
     ·intro c t hc
      rw [List.drop_eq_getElem_cons hlt] at hc
      injection hc with h1 h2
      rw [← h1]; exact ⟨h42,h63⟩
     ·rw [glob_Short.J2,if_pos (by simp <;> omega)]
  ·rw [if_neg (by omega)]
   refine ⟨j,n,Nat.le_refl _,hj,by simp,?_,rfl⟩
   intro c t hc
   rw [List.drop_eq_nil_of_le (by omega)] at hc
   cases hc
theorem l0_short {k : Nat} {m : List UInt8} (hm : m.length ≤ 1000) (hk : 100001 ≤ k) {b : Nat} : ∀ (n i : Nat) (txt : List UInt8) (S : HS),m.length - i < n → i ≤ m.length → txt.length ≤ i → BldAt S b txt →
  ∃ S',glob_Short.L0 k n m (some (HA.cell0 b)) (i : Int) S = some (txt ++ sh false (m.drop i),S') := by
 intro n
 induction n with
 | zero => intro i txt S h; omega
 | succ n ih =>
  intro i txt S h hi ht hB
  unfold glob_Short.L0
  by_cases hlt : i < m.length
  ·have hi1 : w64 ((i : Int) + 1) = ((i + 1 : Nat) : Int) := by rw [w64_id (by omega) (by omega)]; simp
   rw [if_pos (by omega),sat_lt hlt,Option.bind_some]
   by_cases h42 : m[i] = 42
   ·have : (!decide ((m[i].toNat : Int) = 42)) = false := by rw [h42]; rfl
    rw [this,if_neg (by simp)]
    obtain ⟨e,n',h1,h2,h3,h4,h5⟩ := l1_run (k := k) hm (p := some (HA.cell0 b)) (s0 := (i : Int)) (S := S) (glob_Short.L0 k n) k i (by omega) hi
    rw [h5,glob_Short.J3,if_neg (by simp),if_pos ⟨by omega,by omega,by omega⟩]
    have he : e ≠ i := by
     rintro rfl
     exact (h4 _ _ (List.drop_eq_getElem_cons hlt)).1 h42
    have hr : ssub m (i : Int) (e : Int) = (m.drop i).take (e - i) := by simp [ssub]
    rw [hr]
    have hd : m.drop i = (m.drop i).take (e - i) ++ m.drop e := by
     have : m.drop e = (m.drop i).drop (e - i) := by rw [List.drop_drop]; congr 1; omega
     rw [this,List.take_append_drop]
    generalize hrr : (m.drop i).take (e - i) = r at h3 hd
    have hrl : r.length = e - i := by rw [← hrr,List.length_take,List.length_drop]; omega
    have hcl : Lib.countByte r 63 < r.length := by
     rcases r with _ | ⟨x,r⟩
     ·simp at hrl; omega
     ·have hx : x = 42 := by
       rw [List.drop_eq_getElem_cons hlt] at hd
       injection hd with g1 g2
       rw [← g1]; exact h42
      subst hx
      have := List.count_le_length (a := (63 : UInt8)) (l := r)
      rw [Lib.countByte,List.count_cons_of_ne (by decide),List.length_cons]; omega
    have hct : strings_Count.f r [63] = some (Lib.countByte r 63 : Int) := rfl
    have hrp : strings_Repeat.f [63] (Lib.countByte r 63 : Int) = some (List.replicate (Lib.countByte r 63) 63) := by
     unfold strings_Repeat.f
     rw [if_pos ⟨by omega,by omega,by simp <;> omega⟩,Int.toNat_natCast,rep_one]
    rw [hct,Option.bind_some,hrp,Option.bind_some,if_pos (by simp <;> omega)]
    obtain ⟨S1,e1,hB1,_⟩ := writeString_spec (new := List.replicate (Lib.countByte r 63) 63 ++ [42]) hB (by simp) (by simp <;> omega)
    rw [e1,Option.bind_some]
    obtain ⟨S2,e2⟩ := ih e (txt ++ (List.replicate (Lib.countByte r 63) 63 ++ [42])) S1 (by omega) h2 (by simp <;> omega) hB1
    refine ⟨S2,?_⟩
    rw [e2]
    have : sh false (m.drop i) = List.replicate (Lib.countByte r 63) 63 ++ 42 :: sh false (m.drop e) := by
     have g1 : sh false (m.drop i) = sh true (m.drop i) := by
      rw [List.drop_eq_getElem_cons hlt,h42,sh_f42,sh_t42]
     rw [g1,hd,sh_run r _ h3,sh_end h4]
    rw [this]; simp
   ·have hne : ¬ ((m[i].toNat : Int) = 42) := fun e => h42 (UInt8.toNat_inj.1 (by have : (42 : UInt8).toNat = 42 := rfl; omega))
    rw [if_pos (by simp [hne]),Option.bind_some]
    obtain ⟨S1,e1,hB1,_⟩ := writeByte_spec hB m[i] (by omega)
    rw [e1,Option.bind_some,hi1]
    obtain ⟨S2,e2⟩ := ih (i + 1) (txt ++ [m[i]]) S1 (by omega) (by omega) (by simp <;> omega) hB1
    exact ⟨S2,by rw [e2,List.drop_eq_getElem_cons hlt,sh_fne _ h42]; simp⟩
  ·rw [if_neg (by omega)]
   obtain ⟨S1,e1,_⟩ := string_spec hB (by omega)
   rw [e1,Option.bind_some,List.drop_eq_nil_of_le (by omega)]
   exact ⟨S1,by simp [sh]⟩
theorem short_spec {k : Nat} {m : List UInt8} {S : HS} (hm : m.length ≤ 1000) (hk : 100001 ≤ k) : ∃ S',glob_Short.f k m S = some (sh false m,S') := by
 unfold glob_Short.f
 simp only [letv]
 obtain ⟨S',e⟩ := l0_short (k := k) hm hk k 0 [] _ (by omega) (by omega) (Nat.le_refl _) (newBld S)
 exact ⟨S',by simpa using e⟩
/-! ### the document's -/
theorem last_sat {u : List UInt8} {x : UInt8} (h : u.length ≤ 10000) : sat (u ++ [x]) (w64 (((u ++ [x]).length : Int) - 1)) = some x := by
 have : w64 (((u ++ [x]).length : Int) - 1) = (u.length : Int) := by rw [w64_id (by simp <;> omega) (by simp <;> omega)]; simp
 rw [this,sat_lt (by simp)]
 simp
theorem refShort_loop {k : Nat} {m : List UInt8} (hm : m.length ≤ 1000) : ∀ (n i : Nat) (t : List UInt8),m.length - i < n → i ≤ m.length → t.length ≤ 2 * i →
  (∀ u,t = u ++ [42] → rollcallref04_Short.L0 k n m t (i : Int) = some (u ++ sh true (m.drop i))) ∧ ((∀ u,t ≠ u ++ [42]) → rollcallref04_Short.L0 k n m t (i : Int) = some (t ++ sh false (m.drop i))) := by
 intro n
 induction n with
 | zero => intro i t h; omega
 | succ n ih =>
  intro i t h hi htl
  unfold rollcallref04_Short.L0
  by_cases hlt : i < m.length
  ·have hi1 : w64 ((i : Int) + 1) = ((i + 1 : Nat) : Int) := by rw [w64_id (by omega) (by omega)]; simp
   have hsub : ssub m (i : Int) ((i + 1 : Nat) : Int) = [m[i]] := by
    simp only [ssub,Int.toNat_natCast]
    rw [List.drop_eq_getElem_cons hlt,show i + 1 - i = 1 by omega]; rfl
   have J5t : rollcallref04_Short.J5 k (rollcallref04_Short.L0 k n) m t (i : Int) true = rollcallref04_Short.L0 k n m (t ++ [m[i]]) ((i + 1 : Nat) : Int) := by
    rw [rollcallref04_Short.J5,if_pos rfl,hi1,if_pos ⟨by omega,by omega,by omega⟩,hsub,if_pos (by simp <;> omega),rollcallref04_Short.J3,hi1]
   have J5f : rollcallref04_Short.J5 k (rollcallref04_Short.L0 k n) m t (i : Int) false = rollcallref04_Short.L0 k n m t ((i + 1 : Nat) : Int) := by
    rw [rollcallref04_Short.J5,if_neg (by simp),rollcallref04_Short.J3,hi1]
   rw [if_pos (by omega),sat_lt hlt,Option.bind_some,List.drop_eq_getElem_cons hlt]
   generalize hc : m[i] = c at J5t
   have n42 : c ≠ 42 → ¬ ((c.toNat : Int) = 42) := fun hh e => hh (UInt8.toNat_inj.1 (by have : (42 : UInt8).toNat = 42 := rfl; omega))
   have n63 : c ≠ 63 → ¬ ((c.toNat : Int) = 63) := fun hh e => hh (UInt8.toNat_inj.1 (by have : (63 : UInt8).toNat = 63 := rfl; omega))
   have other : c ≠ 42 → rollcallref04_Short.J2 k (rollcallref04_Short.L0 k n) m t (i : Int) (t.length : Int) false = some (t ++ c :: sh false (m.drop (i + 1))) := by
    intro h42
    rw [rollcallref04_Short.J2,if_neg (by simp),sat_lt hlt,Option.bind_some,hc,if_pos (by simp [n42 h42]),rollcallref04_Short.J4,if_pos rfl,J5t,(ih (i + 1) (t ++ [c]) (by omega) (by omega) (by simp <;> omega)).2 (fun u hu => h42 (List.append_inj_right' hu rfl |> fun g => by simpa using g))]
    simp
   constructor
   ·rintro u rfl
    have hu : u.length ≤ 10000 := by simp at htl; omega
    by_cases h63 : c = 63
    ·subst h63
     rw [if_pos (show (((63 : UInt8).toNat : Int) = 63) from rfl),rollcallref04_Short.J1,if_pos (by simp <;> omega),last_sat hu,Option.bind_some,rollcallref04_Short.J2,if_pos (by decide)]
     have hw : w64 (((u ++ [42]).length : Int) - 1) = (u.length : Int) := by rw [w64_id (by simp <;> omega) (by simp <;> omega)]; simp
     have hs : ssub (u ++ [42]) 0 (u.length : Int) = u := by simp [ssub]
     rw [hw,if_pos ⟨by omega,by omega,by simp <;> omega⟩,hs,if_pos (by simp <;> omega),rollcallref04_Short.J3,hi1,show u ++ [63,42] = (u ++ [63]) ++ [42] by simp,(ih (i + 1) ((u ++ [63]) ++ [42]) (by omega) (by omega) (by simp at htl ⊢; omega)).1 _ rfl,sh_t63]
     simp
    ·rw [if_neg (n63 h63),rollcallref04_Short.J1,if_neg (by simp)]
     by_cases h42 : c = 42
     ·rw [rollcallref04_Short.J2,if_neg (by simp),sat_lt hlt,Option.bind_some,hc,h42,if_neg (by simp),rollcallref04_Short.J4,if_neg (by simp <;> omega),last_sat hu,Option.bind_some]
      have : (!decide (((42 : UInt8).toNat : Int) = 42)) = false := rfl
      rw [this,J5f,(ih (i + 1) (u ++ [42]) (by omega) (by omega) (by simp at htl ⊢; omega)).1 _ rfl,sh_t42]
     ·rw [other h42,sh_tne _ h42 h63]; simp
   ·intro hne
    have j1 : ∀ q,rollcallref04_Short.J1 k (rollcallref04_Short.L0 k n) m t (i : Int) (t.length : Int) (q && decide ((t.length : Int) > 0)) = rollcallref04_Short.J2 k (rollcallref04_Short.L0 k n) m t (i : Int) (t.length : Int) false := by
     intro q
     rcases List.eq_nil_or_concat t with rfl | ⟨u,x,rfl⟩
     ·rw [rollcallref04_Short.J1,if_neg (by simp)]
     ·rw [List.concat_eq_append] at hne htl ⊢
      have hx : x ≠ 42 := fun e => hne u (by rw [e])
      have hx' : ¬ ((x.toNat : Int) = 42) := fun e => hx (UInt8.toNat_inj.1 (by have : (42 : UInt8).toNat = 42 := rfl; omega))
      cases q
      ·rw [rollcallref04_Short.J1,if_neg (by simp)]
      ·rw [rollcallref04_Short.J1,if_pos (by simp <;> omega),last_sat (by simp at htl; omega),Option.bind_some,decide_eq_false hx']
    have start : (if (c.toNat : Int) = 63 then rollcallref04_Short.J1 k (rollcallref04_Short.L0 k n) m t (i : Int) (t.length : Int) (decide ((t.length : Int) > 0)) else rollcallref04_Short.J1 k (rollcallref04_Short.L0 k n) m t (i : Int) (t.length : Int) false) = rollcallref04_Short.J2 k (rollcallref04_Short.L0 k n) m t (i : Int) (t.length : Int) false := by
     split
     ·have := j1 true; rwa [Bool.true_and] at this
     ·have := j1 false; rwa [Bool.false_and] at this
    rw [start]
    by_cases h42 : c = 42
    ·rw [rollcallref04_Short.J2,if_neg (by simp),sat_lt hlt,Option.bind_some,hc,h42,if_neg (by simp)]
     have fin : rollcallref04_Short.J5 k (rollcallref04_Short.L0 k n) m t (i : Int) true = some (t ++ sh false (42 :: m.drop (i + 1))) := by
      rw [J5t,h42,(ih (i + 1) (t ++ [42]) (by omega) (by omega) (by simp <;> omega)).1 _ rfl,sh_f42]
     rw [rollcallref04_Short.J4]
     rcases List.eq_nil_or_concat t with rfl | ⟨u,x,rfl⟩
     ·rw [if_pos (by simp),fin]
     ·rw [List.concat_eq_append] at hne htl fin ⊢
      have hx : x ≠ 42 := fun e => hne u (by rw [e])
      have hx' : ¬ ((x.toNat : Int) = 42) := fun e => hx (UInt8.toNat_inj.1 (by have : (42 : UInt8).toNat = 42 := rfl; omega))
      rw [if_neg (by simp <;> omega),last_sat (by simp at htl; omega),Option.bind_some,decide_eq_false hx',Bool.not_false,fin]
    ·rw [other h42,sh_fne _ h42]
  ·rw [if_neg (by omega),List.drop_eq_nil_of_le (by omega)]
   refine ⟨fun u hu => by rw [hu]; rfl,fun _ => by simp [sh]⟩
theorem refShort_spec {k : Nat} {m : List UInt8} (hm : m.length ≤ 1000) (hk : 100001 ≤ k) : rollcallref04_Short.f k m = some (sh false m) := by
 unfold rollcallref04_Short.f
 have := (refShort_loop (k := k) hm k 0 [] (by omega) (by omega) (Nat.le_refl _)).2 (by simp)
 simpa using this
theorem globShorts_spec (m s : List UInt8) : ∃ S',rollcalllaw04_GlobShorts.f 200000 m s S0 = some (true,S') := by
 obtain ⟨S1,e1⟩ := awake_run
 unfold rollcalllaw04_GlobShorts.f
 rw [e1,Option.bind_some,if_neg (by simp)]
 by_cases h1 : (m.length : Int) > 60
 ·rw [if_pos h1,rollcalllaw04_GlobShorts.J0,if_pos rfl]; exact ⟨_,rfl⟩
 rw [if_neg h1,rollcalllaw04_GlobShorts.J0]
 by_cases h2 : (s.length : Int) > 60
 ·rw [if_pos (by simpa using h2)]; exact ⟨_,rfl⟩
 have hl := (sh_len m).1
 obtain ⟨S2,e2⟩ := short_spec (k := 200000) (m := m) (S := S1) (by omega) (by omega)
 rw [if_neg (by simpa using h2),e2,Option.bind_some,refShort_spec (by omega) (by omega),Option.bind_some,if_pos rfl,match_spec (by simp only; omega) (by omega) (by omega),Option.bind_some,match_spec (by omega) (by omega) (by omega),Option.bind_some,(sh_M m).1,rollcalllaw04_GlobShorts.J1,if_pos (by simp),wild_spec (by simp only; omega),Option.bind_some,wild_spec (by omega),Option.bind_some,(sh_wild m).1,rollcalllaw04_GlobShorts.J2,if_pos (by simp)]
 obtain ⟨S3,e3⟩ := short_spec (k := 200000) (m := sh false m) (S := S2) (by omega) (by omega)
 rw [e3,Option.bind_some,rollcalllaw04_GlobShorts.J3,(sh_idem m).1]
 exact ⟨S3,by simp⟩
theorem globShorts_call (W : World) (m s : List UInt8) : HCall Tryd.prog W.heap.size W B0 6 [.str m,.str s] S0 (fun v _ => v = .bool true) :=
 let ⟨_,h⟩ := globShorts_spec m s
 (rollcalllaw04_GlobShorts.snd h).mono fun _ _ h => h.1
end Go.Proofs.YtgplnlknejbglaaDoor.X
