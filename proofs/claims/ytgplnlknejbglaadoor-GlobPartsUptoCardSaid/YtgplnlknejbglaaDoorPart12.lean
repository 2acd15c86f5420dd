/- The layer glob: where a byte stands first; parts of a mask, plain. The layer glob: what a mask means, plain. The layer glob: Match, plain. The layer glob: wild masks, folded texts, plain. The layer glob: awake. The layer glob: GlobParts, plain. -/
import Derived.Lib.Bytealg
import Derived.Test.YtgplnlknejbglaaDoorPart11
namespace Go.Proofs.YtgplnlknejbglaaDoor.X
open Go.Proofs.YtgplnlknejbglaaDoor.HL
set_option linter.unusedVariables false
end Go.Proofs.YtgplnlknejbglaaDoor.X
namespace Go.Proofs.YtgplnlknejbglaaDoor.X
def low (b : UInt8) : UInt8 := if 65 ≤ b.toNat ∧ b.toNat ≤ 93 then b + 32 else if b.toNat = 126 then 94 else b
def oneB (m b : UInt8) : Bool := m == 63 || (m != 42 && low m == low b)
def anyTail (p : List UInt8 → Bool) : List UInt8 → Bool
 | [] => p []
 | b :: s => p (b :: s) || anyTail p s
def M : List UInt8 → List UInt8 → Bool
 | [],s => s.isEmpty
 | c :: m,s => if c = 42 then anyTail (M m) s else match s with
  | [] => false
  | b :: s' => oneB c b && M m s'
theorem anyTail_iff (p : List UInt8 → Bool) (s : List UInt8) : anyTail p s = true ↔ ∃ s1 s2,s = s1 ++ s2 ∧ p s2 = true := by
 induction s with
 | nil =>
  constructor
  ·intro h; exact ⟨[],[],rfl,h⟩
  ·rintro ⟨s1,s2,h,hp⟩
   have h2 : s2 = [] := (List.append_eq_nil_iff.1 h.symm).2
   subst h2; exact hp
 | cons b s ih =>
  rw [anyTail,Bool.or_eq_true,ih]
  constructor
  ·rintro (h | ⟨s1,s2,rfl,hp⟩)
   ·exact ⟨[],_,rfl,h⟩
   ·exact ⟨b :: s1,s2,rfl,hp⟩
  ·rintro ⟨s1,s2,h,hp⟩
   cases s1 with
   | nil => simp at h; subst h; exact .inl hp
   | cons x s1 =>
    simp only [List.cons_append,List.cons.injEq] at h
    exact .inr ⟨s1,s2,h.2,hp⟩
theorem M_star (m s : List UInt8) : M (42 :: m) s = anyTail (M m) s := by cases s <;> rfl
theorem M_star_iff (m s : List UInt8) : M (42 :: m) s = true ↔ ∃ s1 s2,s = s1 ++ s2 ∧ M m s2 = true := by rw [M_star,anyTail_iff]
theorem M_nil (s : List UInt8) : M [] s = s.isEmpty := rfl
theorem M_lit_nil {c : UInt8} (m : List UInt8) (h : c ≠ 42) : M (c :: m) [] = false := by
 show (if c = 42 then anyTail (M m) [] else false) = false
 rw [if_neg h]
theorem M_lit {c : UInt8} (m : List UInt8) (b : UInt8) (s : List UInt8) (h : c ≠ 42) : M (c :: m) (b :: s) = (oneB c b && M m s) := by
 show (if c = 42 then anyTail (M m) (b :: s) else (oneB c b && M m s)) = _
 rw [if_neg h]
theorem M_app (m1 m2 : List UInt8) : ∀ s,M (m1 ++ m2) s = true ↔ ∃ s1 s2,s = s1 ++ s2 ∧ M m1 s1 = true ∧ M m2 s2 = true := by
 induction m1 with
 | nil =>
  intro s
  constructor
  ·intro h; exact ⟨[],s,rfl,rfl,h⟩
  ·rintro ⟨s1,s2,rfl,h1,h2⟩
   rw [M_nil,List.isEmpty_iff] at h1
   subst h1; exact h2
 | cons c m1 ih =>
  intro s
  by_cases hc : c = 42
  ·subst hc
   rw [List.cons_append,M_star_iff]
   constructor
   ·rintro ⟨a,b,rfl,h⟩
    obtain ⟨u,v,rfl,h1,h2⟩ := (ih b).1 h
    exact ⟨a ++ u,v,by simp,(M_star_iff _ _).2 ⟨a,u,rfl,h1⟩,h2⟩
   ·rintro ⟨s1,s2,rfl,h1,h2⟩
    obtain ⟨a,u,rfl,h3⟩ := (M_star_iff _ _).1 h1
    exact ⟨a,u ++ s2,by simp,(ih _).2 ⟨u,s2,rfl,h3,h2⟩⟩
  ·cases s with
   | nil =>
    rw [List.cons_append,M_lit_nil _ hc]
    constructor
    ·intro h; cases h
    ·rintro ⟨s1,s2,h,h1,h2⟩
     have : s1 = [] := (List.append_eq_nil_iff.1 h.symm).1
     subst this
     rw [M_lit_nil _ hc] at h1; cases h1
   | cons b s =>
    rw [List.cons_append,M_lit _ _ _ hc,Bool.and_eq_true,ih]
    constructor
    ·rintro ⟨h,s1,s2,rfl,h1,h2⟩
     exact ⟨b :: s1,s2,rfl,by rw [M_lit _ _ _ hc,h,h1]; rfl,h2⟩
    ·rintro ⟨s1,s2,h,h1,h2⟩
     cases s1 with
     | nil => rw [M_lit_nil _ hc] at h1; cases h1
     | cons x s1 =>
      simp only [List.cons_append,List.cons.injEq] at h
      rw [M_lit _ _ _ hc,Bool.and_eq_true] at h1
      obtain ⟨rfl,rfl⟩ := h
      exact ⟨h1.1,s1,s2,rfl,h1.2,h2⟩
/-- A run of signs that are no stars, and what they were held against. -/
inductive Lit : List UInt8 → List UInt8 → Prop
 | nil : Lit [] []
 | cons {c b p q} (h1 : c ≠ 42) (h2 : oneB c b = true) (h : Lit p q) : Lit (c :: p) (b :: q)
theorem Lit.len {p q : List UInt8} (h : Lit p q) : p.length = q.length := by
 induction h with
 | nil => rfl
 | cons _ _ _ ih => simp [ih]
theorem Lit.snoc {p q : List UInt8} (h : Lit p q) {c b : UInt8} (h1 : c ≠ 42) (h2 : oneB c b = true) : Lit (p ++ [c]) (q ++ [b]) := by
 induction h with
 | nil => exact .cons h1 h2 .nil
 | cons g1 g2 _ ih => exact .cons g1 g2 ih
theorem Lit.M {p q : List UInt8} (h : Lit p q) (m s : List UInt8) : X.M (p ++ m) (q ++ s) = X.M m s := by
 induction h with
 | nil => rfl
 | cons h1 h2 _ ih => rw [List.cons_append,List.cons_append,M_lit _ _ _ h1,h2,ih]; rfl
theorem Lit.size {p q : List UInt8} (h : Lit p q) : ∀ (u : List UInt8),X.M p u = true → u.length = p.length := by
 induction h with
 | nil => intro u h; rw [M_nil,List.isEmpty_iff] at h; subst h; rfl
 | cons h1 h2 _ ih =>
  intro u h
  cases u with
  | nil => rw [M_lit_nil _ h1] at h; cases h
  | cons b u =>
   rw [M_lit _ _ _ h1,Bool.and_eq_true] at h
   simp [ih u h.2]
theorem star_more {m a s : List UInt8} (h : M (42 :: m) s = true) : M (42 :: m) (a ++ s) = true := by
 obtain ⟨x,y,rfl,h1⟩ := (M_star_iff _ _).1 h
 exact (M_star_iff _ _).2 ⟨a ++ x,y,by simp,h1⟩
theorem bool_ext {a b : Bool} (h : a = true ↔ b = true) : a = b := by
 cases a <;> cases b <;> simp_all
theorem greedy {p q : List UInt8} (h : Lit p q) (m s : List UInt8) : M (42 :: (p ++ 42 :: m)) (q ++ s) = M (42 :: m) s := by
 apply bool_ext
 constructor
 ·intro h1
  obtain ⟨t1,t2,e,h2⟩ := (M_star_iff _ _).1 h1
  obtain ⟨u1,u2,rfl,h3,h4⟩ := (M_app _ _ _).1 h2
  have hl := h.size u1 h3
  have hl2 := h.len
  have e1 : q ++ s = (t1 ++ u1) ++ u2 := by rw [e]; simp
  have hle : q.length ≤ (t1 ++ u1).length := by simp; omega
  obtain ⟨x,hx⟩ : ∃ x,s = x ++ u2 := by
   refine ⟨(t1 ++ u1).drop q.length,?_⟩
   have := congrArg (List.drop q.length) e1
   rw [List.drop_left,List.drop_append_of_le_length hle] at this
   exact this
  rw [hx]; exact star_more h4
 ·intro h1
  exact (M_star_iff _ _).2 ⟨[],q ++ s,rfl,by rw [h.M]; exact h1⟩
theorem last_seg {p q : List UInt8} (h : Lit p q) (m : List UInt8) : M (42 :: (p ++ m)) q = M m [] := by
 apply bool_ext
 constructor
 ·intro h1
  obtain ⟨t1,t2,e,h2⟩ := (M_star_iff _ _).1 h1
  obtain ⟨u1,u2,rfl,h3,h4⟩ := (M_app _ _ _).1 h2
  have hl := h.size u1 h3
  have hl2 := h.len
  have hl3 := congrArg List.length e
  simp at hl3
  have ht : u2 = [] := List.length_eq_zero_iff.1 (by omega)
  rw [ht] at h4; exact h4
 ·intro h1
  refine (M_star_iff _ _).2 ⟨[],q,rfl,?_⟩
  have := h.M m []
  rw [List.append_nil] at this
  rw [this]; exact h1
theorem M_stars (m : List UInt8) : M m [] = m.all (· == 42) := by
 induction m with
 | nil => rfl
 | cons c m ih =>
  by_cases hc : c = 42
  ·subst hc; rw [M_star,anyTail,ih]; simp
  ·rw [M_lit_nil _ hc]; simp [hc]
theorem slide {m : List UInt8} {b : UInt8} {t : List UInt8} (h : M m (b :: t) = false) : M (42 :: m) (b :: t) = M (42 :: m) t := by
 rw [M_star,anyTail,h,Bool.false_or,M_star]
/-! ### by beginnings -/
end Go.Proofs.YtgplnlknejbglaaDoor.X
namespace Go.Proofs.YtgplnlknejbglaaDoor.X
open Go.Proofs.YtgplnlknejbglaaDoor.HL
set_option linter.unusedVariables false
theorem all_bytes {p : UInt8 → Prop} (h : ∀ n : Fin 256,p (UInt8.ofNat n.val)) (b : UInt8) : p b := by
 have := h ⟨b.toNat,b.toNat_lt⟩
 simpa using this
def look (y : Nat) : List UInt8 → List UInt8 → Nat
 | a :: s,b :: t => if a.toNat = y then b.toNat else look y s t
 | _,_ => y
theorem refByte_loop {k y : Nat} {src dst : List UInt8} (hl : dst.length = src.length) (hs : src.length ≤ 100000) : ∀ (n i : Nat),src.length - i < n → i ≤ src.length →
  rollcallref01_Byte.L0 k n y src dst (i : Int) = some (look y (src.drop i) (dst.drop i) : Int) := by
 intro n
 induction n with
 | zero => intro i h; omega
 | succ n ih =>
  intro i h hi
  unfold rollcallref01_Byte.L0
  by_cases hlt : i < src.length
  ·rw [if_pos (by omega),sat_lt hlt,Option.bind_some,List.drop_eq_getElem_cons hlt,List.drop_eq_getElem_cons (show i < dst.length by omega)]
   by_cases he : src[i].toNat = y
   ·rw [if_pos (by omega),sat_lt (show i < dst.length by omega)]
    simp [look,he]
   ·rw [if_neg (by omega),w64_id (by omega) (by omega)]
    have := ih (i + 1) (by omega) (by omega)
    rw [show ((i : Int) + 1) = ((i + 1 : Nat) : Int) by simp,this]
    simp [look,he]
  ·rw [if_neg (by omega),List.drop_eq_nil_of_le (by omega)]
   simp [look]
theorem refByte_spec {k : Nat} (hk : 31 ≤ k) (b : UInt8) : rollcallref01_Byte.f k (b.toNat : Int) = some ((low b).toNat : Int) := by
 unfold rollcallref01_Byte.f
 have := refByte_loop (k := k) (y := b.toNat) (src := [65,66,67,68,69,70,71,72,73,74,75,76,77,78,79,80,81,82,83,84,85,86,87,88,89,90,91,93,92,126]) (dst := [97,98,99,100,101,102,103,104,105,106,107,108,109,110,111,112,113,114,115,116,117,118,119,120,121,122,123,125,124,94]) rfl (by decide) k 0 (by simp; omega) (by simp)
 refine this.trans ?_
 congr 2
 exact all_bytes (p := fun b => look b.toNat (List.drop 0 [65,66,67,68,69,70,71,72,73,74,75,76,77,78,79,80,81,82,83,84,85,86,87,88,89,90,91,93,92,126]) (List.drop 0 [97,98,99,100,101,102,103,104,105,106,107,108,109,110,111,112,113,114,115,116,117,118,119,120,121,122,123,125,124,94]) = (low b).toNat) (by decide +kernel) b
theorem fold_spec (b : UInt8) : fold_Byte.f (b.toNat : Int) = some ((low b).toNat : Int) := all_bytes (p := fun b => fold_Byte.f (b.toNat : Int) = some ((low b).toNat : Int)) (by decide +kernel) b
theorem one_spec (c b : UInt8) : glob_one.f (c.toNat : Int) (b.toNat : Int) = some (oneB c b) := by
 unfold glob_one.f
 have i63 : ((c.toNat : Int) = 63) ↔ c = 63 := by rw [← UInt8.toNat_inj]; simp; omega
 have i42 : ((c.toNat : Int) = 42) ↔ c = 42 := by rw [← UInt8.toNat_inj]; simp; omega
 have il : (((low c).toNat : Int) = ((low b).toNat : Int)) ↔ low c = low b := by rw [← UInt8.toNat_inj]; omega
 by_cases h1 : c = 63
 ·rw [if_pos (i63.2 h1),glob_one.J0,oneB,h1]; rfl
 ·have h1' : ¬ ((c.toNat : Int) = 63) := fun e => h1 (i63.1 e)
  rw [if_neg h1']
  by_cases h2 : c = 42
  ·rw [if_neg (by simp [i42,h2]),glob_one.J1,decide_eq_false h1',if_neg (by simp),glob_one.J0,oneB,h2]; rfl
  ·rw [if_pos (by simp [i42,h2]),fold_spec,Option.bind_some,fold_spec,Option.bind_some,glob_one.J1,decide_eq_false h1',if_neg (by simp),glob_one.J0]
   by_cases h3 : low c = low b
   ·rw [decide_eq_true (il.2 h3)]; simp [oneB,h2,h3]
   ·rw [decide_eq_false (fun e => h3 (il.1 e))]; simp [oneB,h1,h2,h3]
/-! ### strings.Trim at a star -/
theorem ssub_head1 {b : UInt8} {s : List UInt8} : ssub (b :: s) 1 ((b :: s).length : Int) = s := by
 simp only [ssub,Int.toNat_natCast]
 exact List.take_of_length_le (by simp)
theorem trimL {k : Nat} : ∀ (n : Nat) (s : List UInt8),s.length < n → s.length ≤ 100000 → strings_trimLeftByte.L0 k n s 42 = some (s.dropWhile (· == 42)) := by
 intro n
 induction n with
 | zero => intro s h; omega
 | succ n ih =>
  intro s h hl
  unfold strings_trimLeftByte.L0 strings_trimLeftByte.J1
  cases s with
  | nil => simp
  | cons b s =>
   simp only [List.length_cons] at h hl
   rw [if_pos (by simp <;> omega)]
   have hs : sat (b :: s) 0 = some b := rfl
   rw [hs,Option.bind_some]
   by_cases hb : b = 42
   ·subst hb
    rw [if_pos (by simp),if_pos ⟨by omega,by simp <;> omega,by omega⟩,ssub_head1,ih s (by omega) (by omega)]
    simp
   ·have : ¬ ((b.toNat : Int) = 42) := fun e => hb (by rw [← UInt8.toNat_inj]; simp; omega)
    rw [decide_eq_false this,if_neg (by simp)]
    simp [hb]
theorem trimR {k : Nat} : ∀ (n : Nat) (s : List UInt8),s.length < n → s.length ≤ 100000 → ∃ t j,strings_trimRightByte.L0 k n s 42 = some t ∧ s = t ++ List.replicate j 42 := by
 intro n
 induction n with
 | zero => intro s h; omega
 | succ n ih =>
  intro s h hl
  unfold strings_trimRightByte.L0 strings_trimRightByte.J1
  rcases List.eq_nil_or_concat s with rfl | ⟨s',b,rfl⟩
  ·exact ⟨[],0,by simp,rfl⟩
  ·rw [List.concat_eq_append] at h hl ⊢
   simp only [List.length_append,List.length_singleton] at h hl
   have hw : w64 (((s' ++ [b]).length : Int) - 1) = (s'.length : Int) := by rw [w64_id (by simp <;> omega) (by simp <;> omega)]; simp
   rw [if_pos (by simp <;> omega),hw,sat_lt (by simp),Option.bind_some]
   have hg : (s' ++ [b])[s'.length]'(by simp) = b := by simp
   rw [hg]
   by_cases hb : b = 42
   ·subst hb
    obtain ⟨t,j,e1,e2⟩ := ih s' (by omega) (by omega)
    have hsub : ssub (s' ++ [42]) 0 (s'.length : Int) = s' := by simp [ssub]
    refine ⟨t,j + 1,?_,?_⟩
    ·rw [if_pos (by simp),if_pos ⟨by omega,by omega,by simp <;> omega⟩,hsub,e1]
    ·rw [List.replicate_succ',← List.append_assoc,← e2]
   ·have : ¬ ((b.toNat : Int) = 42) := fun e => hb (by rw [← UInt8.toNat_inj]; simp; omega)
    rw [decide_eq_false this,if_neg (by simp)]
    exact ⟨_,0,rfl,by simp⟩
theorem dropAll (l : List UInt8) : decide (l.dropWhile (· == 42) = []) = l.all (· == 42) := by
 induction l with
 | nil => rfl
 | cons b l ih =>
  by_cases h : b = 42
  ·subst h; rw [List.dropWhile_cons,if_pos (by rfl),ih]; simp
  ·rw [List.dropWhile_cons,if_neg (by simpa using h)]; simp [h]
theorem trim_spec {k : Nat} {s : List UInt8} {S : HS} (hl : s.length ≤ 100000) (hk : 100001 ≤ k) : ∃ t,strings_Trim.f k s [42] S = some (t,S) ∧ decide (t = []) = s.all (· == 42) := by
 unfold strings_Trim.f
 by_cases h0 : s = []
 ·rw [if_pos h0,strings_Trim.J0,if_pos rfl]; exact ⟨s,rfl,by simp [h0]⟩
 ·obtain ⟨t,j,e1,e2⟩ := trimR (k := k) k s (by omega) hl
  have hlt : t.length ≤ s.length := by rw [e2]; simp
  rw [if_neg h0,strings_Trim.J0,if_neg (by simp),if_pos (by simp),show sat ([42] : List UInt8) 0 = some 42 from rfl,Option.bind_some,strings_Trim.J1,if_pos (by simp)]
  simp only [show sat ([42] : List UInt8) 0 = some 42 from rfl,show (((42 : UInt8).toNat : Int)) = 42 from rfl,strings_trimRightByte.f,strings_trimLeftByte.f,e1,Option.bind_some]
  rw [trimL k t (by omega) (by omega),Option.bind_some]
  refine ⟨_,rfl,?_⟩
  rw [e2,List.all_append]
  have hr : (List.replicate j (42 : UInt8)).all (· == 42) = true := by simp
  rw [hr,Bool.and_true]
  exact dropAll t
/-! ### the loop -/
/-- Where Match stands: what is left of the text and of the mask, and that that decides. -/
inductive St (mask s : List UInt8) : Nat → Nat → Int → Nat → List UInt8 → List UInt8 → Prop
 | no {p q mk si} (hm : mask = p ++ mk) (hs : s = q ++ si) (hl : Lit p q) : St mask s q.length p.length (-1) 0 mk si
 | yes {m0 s0 p q mk si} (hm : mask = m0 ++ 42 :: (p ++ mk)) (hs : s = s0 ++ (q ++ si)) (hl : Lit p q) (hM : M mask s = M (42 :: (p ++ mk)) (q ++ si)) : St mask s (s0.length + q.length) (m0.length + 1 + p.length) m0.length s0.length mk si
theorem St.len {mask s : List UInt8} {i k b : Nat} {st : Int} {mk si : List UInt8} (h : St mask s i k st b mk si) : mask.length = k + mk.length ∧ s.length = i + si.length ∧ b ≤ i ∧ mask.drop k = mk ∧ s.drop i = si ∧ (st < 0 ∨ st + 1 ≤ k) := by
 cases h with
 | @no p q _ _ hm hs hl => subst hm hs; refine ⟨by simp,by simp,by omega,by simp,by simp,.inl (by omega)⟩
 | @yes m0 s0 p q _ _ hm hs hl hM =>
  subst hm hs
  refine ⟨by simp <;> omega,by simp <;> omega,by omega,?_,?_,.inr (by omega)⟩
  ·have : m0 ++ 42 :: (p ++ mk) = (m0 ++ 42 :: p) ++ mk := by simp
   rw [this,show m0.length + 1 + p.length = (m0 ++ 42 :: p).length by simp <;> omega,List.drop_left]
  ·have : s0 ++ (q ++ si) = (s0 ++ q) ++ si := by simp
   rw [this,show s0.length + q.length = (s0 ++ q).length by simp,List.drop_left]
theorem St.star {mask s : List UInt8} {i k b : Nat} {st : Int} {mk si : List UInt8} (h : St mask s i k st b (42 :: mk) si) : St mask s i (k + 1) (k : Int) i mk si := by
 cases h with
 | @no p q _ _ hm hs hl =>
  have := St.yes (mask := mask) (s := s) (m0 := p) (s0 := q) (p := []) (q := []) (mk := mk) (si := si) (by simpa using hm) (by simpa using hs) .nil (by rw [hm,hs,hl.M]; rfl)
  simpa using this
 | @yes m0 s0 p q _ _ hm hs hl hM =>
  have := St.yes (mask := mask) (s := s) (m0 := m0 ++ 42 :: p) (s0 := s0 ++ q) (p := []) (q := []) (mk := mk) (si := si) (by rw [hm]; simp) (by rw [hs]; simp) .nil (by rw [hM,greedy hl]; rfl)
  have e1 : (m0 ++ 42 :: p).length = m0.length + 1 + p.length := by simp <;> omega
  have e2 : (s0 ++ q).length = s0.length + q.length := by simp
  rw [e1,e2] at this
  simpa using this
theorem St.lit {mask s : List UInt8} {i k b : Nat} {st : Int} {mk si : List UInt8} {c x : UInt8} (h : St mask s i k st b (c :: mk) (x :: si)) (h1 : c ≠ 42) (h2 : oneB c x = true) : St mask s (i + 1) (k + 1) st b mk si := by
 cases h with
 | @no p q _ _ hm hs hl =>
  have := St.no (mask := mask) (s := s) (p := p ++ [c]) (q := q ++ [x]) (mk := mk) (si := si) (by rw [hm]; simp) (by rw [hs]; simp) (hl.snoc h1 h2)
  simpa using this
 | @yes m0 s0 p q _ _ hm hs hl hM =>
  have := St.yes (mask := mask) (s := s) (m0 := m0) (s0 := s0) (p := p ++ [c]) (q := q ++ [x]) (mk := mk) (si := si) (by rw [hm]; simp) (by rw [hs]; simp) (hl.snoc h1 h2) (by rw [hM]; simp)
  simp only [List.length_append,List.length_singleton] at this
  exact this
/-- The next sign holds for nothing that is left. -/
theorem St.back {mask s : List UInt8} {i k b : Nat} {st : Int} {mk si : List UInt8} (h : St mask s i k st b mk si) (hx : M mk si = false) (hne : si ≠ []) :
  (st < 0 ∧ M mask s = false) ∨ (0 ≤ st ∧ ∃ mk' si',St mask s (b + 1) (st.toNat + 1) st (b + 1) mk' si') := by
 cases h with
 | @no p q _ _ hm hs hl => exact .inl ⟨by omega,by rw [hm,hs,hl.M,hx]⟩
 | @yes m0 s0 p q _ _ hm hs hl hM =>
  right
  refine ⟨by omega,?_⟩
  have hf : M (p ++ mk) (q ++ si) = false := by rw [hl.M,hx]
  cases hq : q ++ si with
  | nil => exact absurd (List.append_eq_nil_iff.1 hq).2 hne
  | cons y t =>
   rw [hq] at hf hM hs
   have := St.yes (mask := mask) (s := s) (m0 := m0) (s0 := s0 ++ [y]) (p := []) (q := []) (mk := p ++ mk) (si := t) (by rw [hm]; rfl) (by rw [hs]; simp) .nil (by rw [hM,slide hf]; rfl)
   refine ⟨p ++ mk,t,?_⟩
   simpa using this
theorem St.fin {mask s : List UInt8} {i k b : Nat} {st : Int} {mk : List UInt8} (h : St mask s i k st b mk []) : M mask s = mk.all (· == 42) := by
 cases h with
 | @no p q _ _ hm hs hl => rw [hm,hs,hl.M,M_stars]
 | @yes m0 s0 p q _ _ hm hs hl hM => rw [hM,List.append_nil,last_seg hl,M_stars]
theorem match_loop {k : Nat} {mask s : List UInt8} (hm : mask.length ≤ 1000) (hs : s.length ≤ 1000) (hk : 100001 ≤ k) : ∀ (n i j b : Nat) (st : Int) (mk si : List UInt8) (S : HS),St mask s i j st b mk si → (s.length - b) * (mask.length + 1) + (mask.length - j) < n →
  glob_Match.L0 k n mask s (i : Int) (j : Int) st (b : Int) S = some (M mask s,S) := by
 intro n
 induction n with
 | zero => intro i j b st mk si S _ h; omega
 | succ n ih =>
  intro i j b st mk si S hst hμ
  obtain ⟨l1,l2,l3,l4,l5,l6⟩ := hst.len
  unfold glob_Match.L0
  have hi1 : w64 ((i : Int) + 1) = ((i + 1 : Nat) : Int) := by rw [w64_id (by omega) (by omega)]; simp
  have hj1 : w64 ((j : Int) + 1) = ((j + 1 : Nat) : Int) := by rw [w64_id (by omega) (by omega)]; simp
  have hb1 : w64 ((b : Int) + 1) = ((b + 1 : Nat) : Int) := by rw [w64_id (by omega) (by omega)]; simp
  by_cases hlt : i < s.length
  ·rw [if_pos (by omega)]
   cases si with
   | nil => simp at l2; omega
   | cons x si =>
    have hsx : sat s (i : Int) = some x := by
     have := congrArg (fun l => l[0]?) l5
     simp at this
     simp [sat,this]
    have back : M mk (x :: si) = false → (if st < 0 then some (false,S) else glob_Match.L0 k n mask s (w64 ((b : Int) + 1)) (w64 (st + 1)) st (w64 ((b : Int) + 1)) S) = some (M mask s,S) := by
     intro hx
     rcases hst.back hx (by simp) with ⟨h1,h2⟩ | ⟨h1,mk',si',h2⟩
     ·rw [if_pos h1,h2]
     ·obtain ⟨q1,q2,q3,q4,q5,q6⟩ := h2.len
      have hs1 : w64 (st + 1) = ((st.toNat + 1 : Nat) : Int) := by rw [w64_id (by omega) (by omega)]; omega
      rw [if_neg (by omega),hb1,hs1]
      refine ih _ _ _ _ _ _ S h2 ?_
      have e1 : (s.length - b) * (mask.length + 1) = (s.length - (b + 1)) * (mask.length + 1) + (mask.length + 1) := by
       rw [← Nat.succ_mul]; congr 1; omega
      omega
    by_cases hj : j < mask.length
    ·cases mk with
     | nil => simp at l1; omega
     | cons c mk =>
      have hmc : sat mask (j : Int) = some c := by
       have := congrArg (fun l => l[0]?) l4
       simp at this
       simp [sat,this]
      rw [if_pos (by omega),hmc,Option.bind_some,glob_Match.J1]
      by_cases hc : c = 42
      ·subst hc
       rw [if_pos (by simp),hj1]
       refine ih _ _ _ _ _ _ S hst.star ?_
       have e1 : (s.length - i) * (mask.length + 1) ≤ (s.length - b) * (mask.length + 1) := Nat.mul_le_mul_right _ (by omega)
       omega
      ·have hc42 : ¬ ((c.toNat : Int) = 42) := fun e => hc (by rw [← UInt8.toNat_inj]; simp; omega)
       rw [decide_eq_false hc42,if_neg (by simp),if_pos (by omega),hmc,Option.bind_some,hsx,Option.bind_some,one_spec,Option.bind_some]
       by_cases h1 : oneB c x = true
       ·rw [if_pos h1,hi1,hj1]
        refine ih _ _ _ _ _ _ S (hst.lit hc h1) ?_
        omega
       ·rw [if_neg h1]
        exact back (by rw [M_lit _ _ _ hc]; simp [h1])
    ·cases mk with
     | cons c mk => simp at l1; omega
     | nil =>
      rw [if_neg (by omega),glob_Match.J1,if_neg (by simp),if_neg (by omega)]
      exact back rfl
  ·cases si with
   | cons x si => simp at l2; omega
   | nil =>
    rw [if_neg (by omega),if_pos ⟨by omega,by omega,by omega⟩]
    have hsub : ssub mask (j : Int) (mask.length : Int) = mk := by
     simp only [ssub,Int.toNat_natCast,l4]
     exact List.take_of_length_le (by omega)
    obtain ⟨t,e1,e2⟩ := trim_spec (k := k) (s := mk) (S := S) (by omega) hk
    rw [hsub,e1,Option.bind_some,hst.fin,← e2]
theorem match_spec {k : Nat} {mask s : List UInt8} {S : HS} (hm : mask.length ≤ 200) (hs : s.length ≤ 300) (hk : 100001 ≤ k) : glob_Match.f k mask s S = some (M mask s,S) := by
 rw [glob_Match.f]
 refine match_loop (by omega) (by omega) hk k 0 0 0 (-1) mask s S (St.no (p := []) (q := []) rfl rfl .nil) ?_
 have : (s.length - 0) * (mask.length + 1) ≤ 300 * 201 := Nat.mul_le_mul (by omega) (by omega)
 omega
end Go.Proofs.YtgplnlknejbglaaDoor.X
namespace Go.Proofs.YtgplnlknejbglaaDoor.X
open Go.Proofs.YtgplnlknejbglaaDoor.HL
set_option linter.unusedVariables false
theorem row_of (b : UInt8) : [[HV.int .u8 (b.toNat : Int)]] = bytesRows [b] := rfl
theorem take_succ_map {x : List UInt8} {i : Nat} (h : i < x.length) : (x.take (i + 1)).map low = (x.take i).map low ++ [low x[i]] := by
 rw [List.take_succ_eq_append_getElem h,List.map_append]; rfl
theorem refText_loop {k m : Nat} {x : List UInt8} (hx : x.length ≤ 100000) (hk : 31 ≤ k) : ∀ (n i : Nat) (S : HS),x.length - i < n → i ≤ x.length → m ≤ S.next →
  ∃ S',rollcallref01_Text.L0 k n x ((x.take i).map low) (i : Int) S = some (x.map low,S') ∧ Fr m S S' := by
 intro n
 induction n with
 | zero => intro i S h; omega
 | succ n ih =>
  intro i S h hi hm
  unfold rollcallref01_Text.L0
  by_cases hlt : i < x.length
  ·rw [if_pos (by omega),sat_lt hlt,Option.bind_some,refByte_spec hk,Option.bind_some,letv,row_of]
   have hl := Vec.lit (n := m) (z := 1) (S := S) (bytesRows [low x[i]]) hm
   rw [hl.text,Option.bind_some,if_pos (by simp; omega),w64_id (by omega) (by omega),show ((i : Int) + 1) = ((i + 1 : Nat) : Int) by simp,← take_succ_map hlt]
   have hf0 := lit_fr (n := m) (z := 1) (S := S) (bytesRows [low x[i]]) hm
   obtain ⟨S2,e2,hf2⟩ := ih (i + 1) _ (by omega) (by omega) (Nat.le_trans hm hf0.le)
   exact ⟨S2,e2,hf0.trans hf2⟩
  ·rw [if_neg (by omega),show i = x.length by omega,List.take_length]
   exact ⟨S,rfl,Fr.refl _ _⟩
theorem refText_spec {k m : Nat} {x : List UInt8} {S : HS} (hx : x.length ≤ 100000) (hk : x.length < k) (hk2 : 31 ≤ k) (hm : m ≤ S.next) : ∃ S',rollcallref01_Text.f k x S = some (x.map low,S') ∧ Fr m S S' :=
 refText_loop hx hk2 k 0 S (by omega) (by omega) hm
/-! ### wild masks -/
def wildB (s : List UInt8) : Bool := s.any fun b => b == 42 || b == 63
theorem contains_wild (s : List UInt8) : Lib.containsAny s [42,63] = wildB s := by
 unfold Lib.containsAny wildB
 induction s with
 | nil => rfl
 | cons b s ih =>
  unfold Lib.indexAny
  have hc : ([42,63] : List UInt8).contains b = (b == 42 || b == 63) := by rw [List.contains_cons,List.contains_cons,List.contains_nil,Bool.or_false]
  rw [hc,List.any_cons,← ih]
  cases h : (b == 42 || b == 63) with
  | true => simp
  | false =>
   have hg := Lib.indexAny_ge [42,63] s
   by_cases h1 : Lib.indexAny s [42,63] = -1
   ·simp [h1]
   ·have h2 : (Lib.indexAny s [42,63] == -1) = false := beq_eq_false_iff_ne.2 h1
    simp only [Bool.false_eq_true,if_false,h2,Bool.false_or]
    rw [decide_eq_decide]; omega
theorem wild_spec {s : List UInt8} (h : s.length ≤ 100000) : glob_Wild.f s = some (wildB s) := by
 unfold glob_Wild.f strings_ContainsAny.f
 rw [if_pos ⟨rfl,by omega⟩,Option.bind_some,contains_wild]
theorem M_plain : ∀ (a s : List UInt8),wildB a = false → M a s = decide (a.map low = s.map low)
 | [],[],_ => rfl
 | [],_ :: _,_ => by simp [M_nil]
 | c :: a,s,h => by
  unfold wildB at h
  rw [List.any_cons,Bool.or_eq_false_iff,Bool.or_eq_false_iff] at h
  have h42 : c ≠ 42 := by simpa using h.1.1
  cases s with
  | nil => rw [M_lit_nil _ h42]; simp
  | cons b s =>
   rw [M_lit _ _ _ h42,M_plain a s h.2]
   have : oneB c b = decide (low c = low b) := by
    unfold oneB
    rw [show (c == 63) = false from h.1.2,show (c != 42) = true by simpa using h42,Bool.false_or,Bool.true_and]
    exact Bool.eq_iff_iff.2 (by simp)
   rw [this]
   simp
theorem M_mid (a b s : List UInt8) : M ((a ++ [42]) ++ b) s = true ↔ ∃ p q,p ≤ q ∧ q ≤ s.length ∧ M a (s.take p) = true ∧ M b (s.drop q) = true := by
 rw [List.append_assoc,M_app]
 constructor
 ·rintro ⟨u,v,rfl,h1,h2⟩
  obtain ⟨x,y,rfl,h3⟩ := (M_star_iff b v).1 h2
  refine ⟨u.length,u.length + x.length,by omega,by simp <;> omega,?_,?_⟩
  ·rw [List.take_left]; exact h1
  ·rw [← List.append_assoc,← List.length_append,List.drop_left]; exact h3
 ·rintro ⟨p,q,h1,h2,h3,h4⟩
  refine ⟨s.take p,s.drop p,(List.take_append_drop _ _).symm,h3,(M_star_iff _ _).2 ⟨(s.drop p).take (q - p),s.drop q,?_,h4⟩⟩
  have : s.drop q = (s.drop p).drop (q - p) := by rw [List.drop_drop]; congr 1; omega
  rw [this,List.take_append_drop]
theorem same_spec {k : Nat} {x y : List UInt8} {S : HS} (hx : x.length ≤ 100000) (hy : y.length ≤ 100000) (hk : 100001 ≤ k) : ∃ S',rollcallref01_Same.f k x y S = some (decide (x.map low = y.map low),S') := by
 unfold rollcallref01_Same.f
 obtain ⟨S1,e1,_⟩ := refText_spec (k := k) (m := 0) (x := x) (S := S) hx (by omega) (by omega) (Nat.zero_le _)
 obtain ⟨S2,e2,_⟩ := refText_spec (k := k) (m := 0) (x := y) (S := S1) hy (by omega) (by omega) (Nat.zero_le _)
 rw [e1,Option.bind_some,e2,Option.bind_some]
 exact ⟨_,rfl⟩
end Go.Proofs.YtgplnlknejbglaaDoor.X
namespace Go.Proofs.YtgplnlknejbglaaDoor.X
open Go.Proofs.YtgplnlknejbglaaDoor.HL
set_option linter.unusedVariables false
theorem A0 : (rollcalllaw04_awake.f 200000 S0).map (fun p => p.1) = some true := by kernel_rfl
theorem awake_run : ∃ S1,rollcalllaw04_awake.f 200000 S0 = some (true,S1) := by
 have h := A0
 cases hc : rollcalllaw04_awake.f 200000 S0 with
 | none => rw [hc] at h; cases h
 | some p =>
  rw [hc] at h
  obtain ⟨b,S1⟩ := p
  cases h
  exact ⟨S1,rfl⟩
end Go.Proofs.YtgplnlknejbglaaDoor.X
namespace Go.Proofs.YtgplnlknejbglaaDoor.X
open Go.Proofs.YtgplnlknejbglaaDoor.HL
set_option linter.unusedVariables false
theorem gp_inner {k : Nat} {a b s : List UInt8} (ha : a.length ≤ 200) (hb : b.length ≤ 200) (hs : s.length ≤ 300) (hk : 100001 ≤ k) {i : Nat} (hi : i ≤ s.length) (rec0 : List UInt8 → List UInt8 → List UInt8 → Bool → Int → HS → Option (Bool × HS)) : ∀ (n j : Nat) (y : Bool) (S : HS),s.length + 1 - j < n → j ≤ s.length + 1 →
  ∃ y',rollcalllaw04_GlobParts.L3 k rec0 n a b s y (i : Int) (j : Int) S = rec0 a b s y' ((i + 1 : Nat) : Int) S ∧ (y' = true ↔ y = true ∨ ∃ q,j ≤ q ∧ q ≤ s.length ∧ M a (s.take i) = true ∧ M b (s.drop q) = true) := by
 intro n
 induction n with
 | zero => intro j y S h; omega
 | succ n ih =>
  intro j y S h hj
  unfold rollcalllaw04_GlobParts.L3
  by_cases hlt : j ≤ s.length
  ·have hj1 : w64 ((j : Int) + 1) = ((j + 1 : Nat) : Int) := by rw [w64_id (by omega) (by omega)]; simp
   rw [if_pos (by omega)]
   by_cases hy : y = true
   ·rw [if_pos hy,rollcalllaw04_GlobParts.J4,hj1]
    obtain ⟨y',e,h1⟩ := ih (j + 1) true S (by omega) (by omega)
    exact ⟨y',e,by rw [h1]; exact ⟨fun _ => .inl hy,fun _ => .inl rfl⟩⟩
   ·have e1 : ssub s 0 (i : Int) = s.take i := by simp [ssub]
    have e2 : ssub s (j : Int) (s.length : Int) = s.drop j := by simp only [ssub,Int.toNat_natCast]; rw [List.take_of_length_le (by simp)]
    have hy' : y = false := by simpa using hy
    rw [if_neg hy,if_pos ⟨by omega,by omega,by omega⟩,e1,match_spec ha (by simp; omega) hk,Option.bind_some]
    have step : ∀ v : Bool,(v = true ↔ M a (s.take i) = true ∧ M b (s.drop j) = true) → ∃ y',rollcalllaw04_GlobParts.J5 k (rollcalllaw04_GlobParts.L3 k rec0 n) rec0 a b s (i : Int) (j : Int) y v S = rec0 a b s y' ((i + 1 : Nat) : Int) S ∧ (y' = true ↔ y = true ∨ ∃ q,j ≤ q ∧ q ≤ s.length ∧ M a (s.take i) = true ∧ M b (s.drop q) = true) := by
     intro v hv
     rw [rollcalllaw04_GlobParts.J5,if_neg hy,rollcalllaw04_GlobParts.J4,hj1]
     obtain ⟨y',e,h1⟩ := ih (j + 1) v S (by omega) (by omega)
     refine ⟨y',e,?_⟩
     rw [h1,hv,hy']
     constructor
     ·rintro (⟨g1,g2⟩ | ⟨q,g1,g2,g3,g4⟩)
      ·exact .inr ⟨j,Nat.le_refl _,hlt,g1,g2⟩
      ·exact .inr ⟨q,by omega,g2,g3,g4⟩
     ·rintro (g | ⟨q,g1,g2,g3,g4⟩)
      ·cases g
      ·by_cases hq : q = j
       ·subst hq; exact .inl ⟨g3,g4⟩
       ·exact .inr ⟨q,by omega,g2,g3,g4⟩
    by_cases hm : M a (s.take i) = true
    ·rw [if_pos hm,if_pos ⟨by omega,by omega,by omega⟩,e2,match_spec hb (by simp; omega) hk,Option.bind_some]
     exact step _ (by simp [hm])
    ·rw [if_neg hm]
     exact step false (by simp [hm])
  ·rw [if_neg (by omega),w64_id (by omega) (by omega)]
   refine ⟨y,by simp,?_⟩
   constructor
   ·exact .inl
   ·rintro (g | ⟨q,g1,g2,_⟩)
    ·exact g
    ·omega
theorem gp_outer {k : Nat} {a b s : List UInt8} (ha : a.length ≤ 200) (hb : b.length ≤ 200) (hs : s.length ≤ 300) (hk : 100001 ≤ k) : ∀ (n i : Nat) (y : Bool) (S : HS),s.length + 1 - i < n → i ≤ s.length + 1 →
  ∃ y' m,rollcalllaw04_GlobParts.L2 k n a b s y (i : Int) S = rollcalllaw04_GlobParts.L2 k (m + 1) a b s y' ((s.length + 1 : Nat) : Int) S ∧ (y' = true ↔ y = true ∨ ∃ p q,i ≤ p ∧ p ≤ q ∧ q ≤ s.length ∧ M a (s.take p) = true ∧ M b (s.drop q) = true) := by
 intro n
 induction n with
 | zero => intro i y S h; omega
 | succ n ih =>
  intro i y S h hi
  by_cases hlt : i ≤ s.length
  ·obtain ⟨y1,e1,h1⟩ := gp_inner ha hb hs hk hlt (rollcalllaw04_GlobParts.L2 k n) k i y S (by omega) (by omega)
   obtain ⟨y2,m,e2,h2⟩ := ih (i + 1) y1 S (by omega) (by omega)
   refine ⟨y2,m,?_,?_⟩
   ·rw [rollcalllaw04_GlobParts.L2,if_pos (by omega),e1,e2]
   ·rw [h2,h1]
    constructor
    ·rintro ((g | ⟨q,g1,g2,g3,g4⟩) | ⟨p,q,g1,g2,g3,g4,g5⟩)
     ·exact .inl g
     ·exact .inr ⟨i,q,Nat.le_refl _,g1,g2,g3,g4⟩
     ·exact .inr ⟨p,q,by omega,g2,g3,g4,g5⟩
    ·rintro (g | ⟨p,q,g1,g2,g3,g4,g5⟩)
     ·exact .inl (.inl g)
     ·by_cases hp : p = i
      ·subst hp; exact .inl (.inr ⟨q,g2,g3,g4,g5⟩)
      ·exact .inr ⟨p,q,by omega,g2,g3,g4,g5⟩
  ·obtain rfl : i = s.length + 1 := by omega
   refine ⟨y,n,rfl,⟨.inl,?_⟩⟩
   rintro (g | ⟨p,q,g1,g2,g3,_⟩)
   ·exact g
   ·omega
theorem globParts_spec (a b s : List UInt8) : ∃ S',rollcalllaw04_GlobParts.f 200000 a b s S0 = some (true,S') := by
 obtain ⟨S1,e1⟩ := awake_run
 unfold rollcalllaw04_GlobParts.f
 rw [e1,Option.bind_some,if_neg (by simp)]
 by_cases h1 : (a.length : Int) > 30
 ·rw [if_pos h1,rollcalllaw04_GlobParts.J0,if_pos rfl,rollcalllaw04_GlobParts.J1,if_pos rfl]; exact ⟨_,rfl⟩
 rw [if_neg h1,rollcalllaw04_GlobParts.J0]
 by_cases h2 : (b.length : Int) > 30
 ·rw [if_pos (by simpa using h2),rollcalllaw04_GlobParts.J1,if_pos rfl]; exact ⟨_,rfl⟩
 rw [if_neg (by simpa using h2),rollcalllaw04_GlobParts.J1]
 by_cases h3 : (s.length : Int) > 30
 ·rw [if_pos (by simpa using h3)]; exact ⟨_,rfl⟩
 rw [if_neg (by simpa using h3)]
 obtain ⟨y,m,e2,h4⟩ := gp_outer (k := 200000) (a := a) (b := b) (s := s) (by omega) (by omega) (by omega) (by omega) 200000 0 false S1 (by omega) (by omega)
 have e0 : ((0 : Nat) : Int) = 0 := rfl
 rw [e0] at e2
 rw [e2,rollcalllaw04_GlobParts.L2,if_neg (by omega),if_pos (by simp; omega),if_pos (by simp; omega),match_spec (by simp; omega) (by omega) (by omega),Option.bind_some]
 have hM : M ((a ++ [42]) ++ b) s = y := by
  apply bool_ext
  rw [M_mid,h4]
  constructor
  ·rintro ⟨p,q,g⟩; exact .inr ⟨p,q,Nat.zero_le _,g⟩
  ·rintro (g | ⟨p,q,_,g⟩)
   ·cases g
   ·exact ⟨p,q,g⟩
 rw [hM,if_pos (by simp),wild_spec (by omega),Option.bind_some]
 by_cases hw : wildB a = true
 ·rw [if_pos hw,rollcalllaw04_GlobParts.J6,if_pos (by simp),rollcalllaw04_GlobParts.J7]; exact ⟨_,rfl⟩
 ·rw [if_neg hw,match_spec (by omega) (by omega) (by omega),Option.bind_some]
  obtain ⟨S2,e3⟩ := same_spec (k := 200000) (x := a) (y := s) (S := S1) (by omega) (by omega) (by omega)
  rw [e3,Option.bind_some,rollcalllaw04_GlobParts.J6,if_pos (by simp),rollcalllaw04_GlobParts.J7,M_plain a s (by simpa using hw)]
  exact ⟨S2,by simp⟩
theorem globParts_call (W : World) (a b s : List UInt8) : HCall Tryd.prog W.heap.size W B0 7 [.str a,.str b,.str s] S0 (fun v _ => v = .bool true) :=
 let ⟨_,h⟩ := globParts_spec a b s
 (rollcalllaw04_GlobParts.snd h).mono fun _ _ h => h.1
end Go.Proofs.YtgplnlknejbglaaDoor.X
