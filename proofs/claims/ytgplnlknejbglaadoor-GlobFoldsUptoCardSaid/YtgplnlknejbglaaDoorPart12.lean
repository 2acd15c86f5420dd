/- The layer glob: where a byte stands first; parts of a mask, plain. The layer glob: what a mask means, plain. The layer glob: Match, plain. The layer glob: wild masks, folded texts, plain. The layer glob: awake. The layer glob: GlobFolds, plain. -/
import Derived.Lib.Bytealg
import Derived.Test.YtgplnlknejbglaaDoorPart11
namespace Go.Proofs.YtgplnlknejbglaaDoor.X
open Go.Proofs.YtgplnlknejbglaaDoor.HL
set_option linter.unusedVariables false
theorem bidx_eq (s : List UInt8) (c : UInt8) : bidx s (c.toNat : Int) = Lib.indexByte s c := by
 have h : ((c.toNat : Int).toNat).toUInt8 = c := by simp
 rw [bidx,h,Lib.firstIdx_eq]
theorem ixb_none {s : List UInt8} {c : UInt8} (h : c ∉ s) : Lib.indexByte s c = -1 := by
 induction s with
 | nil => rfl
 | cons b s ih =>
  simp only [List.mem_cons,not_or] at h
  unfold Lib.indexByte
  rw [if_neg (by simpa using fun e => h.1 e.symm),ih h.2]
  rfl
theorem ixb_some {a s : List UInt8} {c : UInt8} (h : c ∉ a) : Lib.indexByte (a ++ c :: s) c = a.length := by
 induction a with
 | nil => simp [Lib.indexByte]
 | cons b a ih =>
  simp only [List.mem_cons,not_or] at h
  rw [List.cons_append]
  unfold Lib.indexByte
  rw [if_neg (by simpa using fun e => h.1 e.symm),ih h.2,if_neg (by simp)]
  simp
/-- A text has a byte not at all, or a first time. -/
theorem view (c : UInt8) (s : List UInt8) : c ∉ s ∨ ∃ a b,s = a ++ c :: b ∧ c ∉ a := by
 induction s with
 | nil => exact .inl (by simp)
 | cons x s ih =>
  by_cases h : x = c
  ·subst h; exact .inr ⟨[],s,rfl,by simp⟩
  ·rcases ih with h1 | ⟨a,b,rfl,h1⟩
   ·exact .inl (by simp [h1,Ne.symm h])
   ·exact .inr ⟨x :: a,b,rfl,by simp [h1,Ne.symm h]⟩
theorem index_one {k : Nat} {s : List UInt8} {c : UInt8} {S : HS} : internal_stringslite_Index.f k s [c] S = some (Lib.indexByte s c,S) := by
 unfold internal_stringslite_Index.f internal_stringslite_Index.J0
 rw [if_neg (by simp)]
 by_cases h : [c] = s
 ·rw [decide_eq_true h,if_pos rfl,← h]; simp [Lib.indexByte]
 ·rw [decide_eq_false h,if_neg (by simp),if_pos (by simp)]
  simp only [sat,Option.bind_some,internal_stringslite_IndexByte.f]
  simp [bidx_eq]
theorem cut_none {k : Nat} {s : List UInt8} {c : UInt8} {S : HS} (h : c ∉ s) : strings_Cut.f k s [c] S = some ((s,[],false),S) := by
 unfold strings_Cut.f internal_stringslite_Cut.f
 rw [index_one,Option.bind_some,ixb_none h,if_neg (by simp)]
 rfl
theorem cut_some {k : Nat} {a b : List UInt8} {c : UInt8} {S : HS} (h : c ∉ a) (hl : a.length + b.length ≤ 100000) : strings_Cut.f k (a ++ c :: b) [c] S = some ((a,b,true),S) := by
 unfold strings_Cut.f internal_stringslite_Cut.f
 rw [index_one,Option.bind_some,ixb_some h]
 simp only []
 have e : w64 ((a.length : Int) + ([c].length : Int)) = ((a.length + 1 : Nat) : Int) := by rw [w64_id (by simp; omega) (by simp; omega)]; simp
 rw [if_pos (by omega),if_pos ⟨by omega,by omega,by simp; omega⟩,e,if_pos ⟨by omega,by simp; omega,by omega⟩]
 simp only [Option.bind_some,ssub,Int.toNat_natCast]
 have e1 : (a ++ c :: b).drop (a.length + 1) = b := by simp [List.drop_append]
 rw [e1]
 simp
 exact List.take_of_length_le (by omega)
theorem contains_one {k : Nat} {s : List UInt8} {c : UInt8} {S : HS} : strings_Contains.f k s [c] S = some (decide (c ∈ s),S) := by
 unfold strings_Contains.f strings_Index.f
 rw [index_one,Option.bind_some,Option.bind_some]
 rcases view c s with h | ⟨a,b,rfl,h⟩
 ·rw [ixb_none h]; simp [h]
 ·rw [ixb_some h]; simp
end Go.Proofs.YtgplnlknejbglaaDoor.X
namespace Go.Proofs.YtgplnlknejbglaaDoor.X
def low (b : UInt8) : UInt8 := if 65 ≤ b.toNat ∧ b.toNat ≤ 93 then b + 32 else if b.toNat = 126 then 94 else b
def oneB (m b : UInt8) : Bool := m == 63 || (m != 42 && low m == low b)
def anyTail (p : List UInt8 → Bool) : List UInt8 → Bool
 | [] => p []
 | b :: s => p (b :: s) || anyTail p s
def M : List UInt8 → List UInt8 → Bool
 | [],s => s.isEmpty
 | c :: m,s => if c = 42 then anyTail (M m) s else match s with
  | [] => false
  | b :: s' => oneB c b && M m s'
theorem anyTail_iff (p : List UInt8 → Bool) (s : List UInt8) : anyTail p s = true ↔ ∃ s1 s2,s = s1 ++ s2 ∧ p s2 = true := by
 induction s with
 | nil =>
  constructor
  ·intro h; exact ⟨[],[],rfl,h⟩
  ·rintro ⟨s1,s2,h,hp⟩
   have h2 : s2 = [] := (List.append_eq_nil_iff.1 h.symm).2
   subst h2; exact hp
 | cons b s ih =>
  rw [anyTail,Bool.or_eq_true,ih]
  constructor
  ·rintro (h | ⟨s1,s2,rfl,hp⟩)
   ·exact ⟨[],_,rfl,h⟩
   ·exact ⟨b :: s1,s2,rfl,hp⟩
  ·rintro ⟨s1,s2,h,hp⟩
   cases s1 with
   | nil => simp at h; subst h; exact .inl hp
   | cons x s1 =>
    simp only [List.cons_append,List.cons.injEq] at h
    exact .inr ⟨s1,s2,h.2,hp⟩
theorem M_star (m s : List UInt8) : M (42 :: m) s = anyTail (M m) s := by cases s <;> rfl
theorem M_star_iff (m s : List UInt8) : M (42 :: m) s = true ↔ ∃ s1 s2,s = s1 ++ s2 ∧ M m s2 = true := by rw [M_star,anyTail_iff]
theorem M_nil (s : List UInt8) : M [] s = s.isEmpty := rfl
theorem M_lit_nil {c : UInt8} (m : List UInt8) (h : c ≠ 42) : M (c :: m) [] = false := by
 show (if c = 42 then anyTail (M m) [] else false) = false
 rw [if_neg h]
theorem M_lit {c : UInt8} (m : List UInt8) (b : UInt8) (s : List UInt8) (h : c ≠ 42) : M (c :: m) (b :: s) = (oneB c b && M m s) := by
 show (if c = 42 then anyTail (M m) (b :: s) else (oneB c b && M m s)) = _
 rw [if_neg h]
theorem M_app (m1 m2 : List UInt8) : ∀ s,M (m1 ++ m2) s = true ↔ ∃ s1 s2,s = s1 ++ s2 ∧ M m1 s1 = true ∧ M m2 s2 = true := by
 induction m1 with
 | nil =>
  intro s
  constructor
  ·intro h; exact ⟨[],s,rfl,rfl,h⟩
  ·rintro ⟨s1,s2,rfl,h1,h2⟩
   rw [M_nil,List.isEmpty_iff] at h1
   subst h1; exact h2
 | cons c m1 ih =>
  intro s
  by_cases hc : c = 42
  ·subst hc
   rw [List.cons_append,M_star_iff]
   constructor
   ·rintro ⟨a,b,rfl,h⟩
    obtain ⟨u,v,rfl,h1,h2⟩ := (ih b).1 h
    exact ⟨a ++ u,v,by simp,(M_star_iff _ _).2 ⟨a,u,rfl,h1⟩,h2⟩
   ·rintro ⟨s1,s2,rfl,h1,h2⟩
    obtain ⟨a,u,rfl,h3⟩ := (M_star_iff _ _).1 h1
    exact ⟨a,u ++ s2,by simp,(ih _).2 ⟨u,s2,rfl,h3,h2⟩⟩
  ·cases s with
   | nil =>
    rw [List.cons_append,M_lit_nil _ hc]
    constructor
    ·intro h; cases h
    ·rintro ⟨s1,s2,h,h1,h2⟩
     have : s1 = [] := (List.append_eq_nil_iff.1 h.symm).1
     subst this
     rw [M_lit_nil _ hc] at h1; cases h1
   | cons b s =>
    rw [List.cons_append,M_lit _ _ _ hc,Bool.and_eq_true,ih]
    constructor
    ·rintro ⟨h,s1,s2,rfl,h1,h2⟩
     exact ⟨b :: s1,s2,rfl,by rw [M_lit _ _ _ hc,h,h1]; rfl,h2⟩
    ·rintro ⟨s1,s2,h,h1,h2⟩
     cases s1 with
     | nil => rw [M_lit_nil _ hc] at h1; cases h1
     | cons x s1 =>
      simp only [List.cons_append,List.cons.injEq] at h
      rw [M_lit _ _ _ hc,Bool.and_eq_true] at h1
      obtain ⟨rfl,rfl⟩ := h
      exact ⟨h1.1,s1,s2,rfl,h1.2,h2⟩
/-- A run of signs that are no stars, and what they were held against. -/
inductive Lit : List UInt8 → List UInt8 → Prop
 | nil : Lit [] []
 | cons {c b p q} (h1 : c ≠ 42) (h2 : oneB c b = true) (h : Lit p q) : Lit (c :: p) (b :: q)
theorem Lit.len {p q : List UInt8} (h : Lit p q) : p.length = q.length := by
 induction h with
 | nil => rfl
 | cons _ _ _ ih => simp [ih]
theorem Lit.snoc {p q : List UInt8} (h : Lit p q) {c b : UInt8} (h1 : c ≠ 42) (h2 : oneB c b = true) : Lit (p ++ [c]) (q ++ [b]) := by
 induction h with
 | nil => exact .cons h1 h2 .nil
 | cons g1 g2 _ ih => exact .cons g1 g2 ih
theorem Lit.M {p q : List UInt8} (h : Lit p q) (m s : List UInt8) : X.M (p ++ m) (q ++ s) = X.M m s := by
 induction h with
 | nil => rfl
 | cons h1 h2 _ ih => rw [List.cons_append,List.cons_append,M_lit _ _ _ h1,h2,ih]; rfl
theorem Lit.size {p q : List UInt8} (h : Lit p q) : ∀ (u : List UInt8),X.M p u = true → u.length = p.length := by
 induction h with
 | nil => intro u h; rw [M_nil,List.isEmpty_iff] at h; subst h; rfl
 | cons h1 h2 _ ih =>
  intro u h
  cases u with
  | nil => rw [M_lit_nil _ h1] at h; cases h
  | cons b u =>
   rw [M_lit _ _ _ h1,Bool.and_eq_true] at h
   simp [ih u h.2]
theorem star_more {m a s : List UInt8} (h : M (42 :: m) s = true) : M (42 :: m) (a ++ s) = true := by
 obtain ⟨x,y,rfl,h1⟩ := (M_star_iff _ _).1 h
 exact (M_star_iff _ _).2 ⟨a ++ x,y,by simp,h1⟩
theorem bool_ext {a b : Bool} (h : a = true ↔ b = true) : a = b := by
 cases a <;> cases b <;> simp_all
theorem greedy {p q : List UInt8} (h : Lit p q) (m s : List UInt8) : M (42 :: (p ++ 42 :: m)) (q ++ s) = M (42 :: m) s := by
 apply bool_ext
 constructor
 ·intro h1
  obtain ⟨t1,t2,e,h2⟩ := (M_star_iff _ _).1 h1
  obtain ⟨u1,u2,rfl,h3,h4⟩ := (M_app _ _ _).1 h2
  have hl := h.size u1 h3
  have hl2 := h.len
  have e1 : q ++ s = (t1 ++ u1) ++ u2 := by rw [e]; simp
  have hle : q.length ≤ (t1 ++ u1).length := by simp; omega
  obtain ⟨x,hx⟩ : ∃ x,s = x ++ u2 := by
   refine ⟨(t1 ++ u1).drop q.length,?_⟩
   have := congrArg (List.drop q.length) e1
   rw [List.drop_left,List.drop_append_of_le_length hle] at this
   exact this
  rw [hx]; exact star_more h4
 ·intro h1
  exact (M_star_iff _ _).2 ⟨[],q ++ s,rfl,by rw [h.M]; exact h1⟩
theorem last_seg {p q : List UInt8} (h : Lit p q) (m : List UInt8) : M (42 :: (p ++ m)) q = M m [] := by
 apply bool_ext
 constructor
 ·intro h1
  obtain ⟨t1,t2,e,h2⟩ := (M_star_iff _ _).1 h1
  obtain ⟨u1,u2,rfl,h3,h4⟩ := (M_app _ _ _).1 h2
  have hl := h.size u1 h3
  have hl2 := h.len
  have hl3 := congrArg List.length e
  simp at hl3
  have ht : u2 = [] := List.length_eq_zero_iff.1 (by omega)
  rw [ht] at h4; exact h4
 ·intro h1
  refine (M_star_iff _ _).2 ⟨[],q,rfl,?_⟩
  have := h.M m []
  rw [List.append_nil] at this
  rw [this]; exact h1
theorem M_stars (m : List UInt8) : M m [] = m.all (· == 42) := by
 induction m with
 | nil => rfl
 | cons c m ih =>
  by_cases hc : c = 42
  ·subst hc; rw [M_star,anyTail,ih]; simp
  ·rw [M_lit_nil _ hc]; simp [hc]
theorem slide {m : List UInt8} {b : UInt8} {t : List UInt8} (h : M m (b :: t) = false) : M (42 :: m) (b :: t) = M (42 :: m) t := by
 rw [M_star,anyTail,h,Bool.false_or,M_star]
/-! ### by beginnings -/
end Go.Proofs.YtgplnlknejbglaaDoor.X
namespace Go.Proofs.YtgplnlknejbglaaDoor.X
open Go.Proofs.YtgplnlknejbglaaDoor.HL
set_option linter.unusedVariables false
theorem all_bytes {p : UInt8 → Prop} (h : ∀ n : Fin 256,p (UInt8.ofNat n.val)) (b : UInt8) : p b := by
 have := h ⟨b.toNat,b.toNat_lt⟩
 simpa using this
def look (y : Nat) : List UInt8 → List UInt8 → Nat
 | a :: s,b :: t => if a.toNat = y then b.toNat else look y s t
 | _,_ => y
theorem refByte_loop {k y : Nat} {src dst : List UInt8} (hl : dst.length = src.length) (hs : src.length ≤ 100000) : ∀ (n i : Nat),src.length - i < n → i ≤ src.length →
  rollcallref01_Byte.L0 k n y src dst (i : Int) = some (look y (src.drop i) (dst.drop i) : Int) := by
 intro n
 induction n with
 | zero => intro i h; omega
 | succ n ih =>
  intro i h hi
  unfold rollcallref01_Byte.L0
  by_cases hlt : i < src.length
  ·rw [if_pos (by omega),sat_lt hlt,Option.bind_some,List.drop_eq_getElem_cons hlt,List.drop_eq_getElem_cons (show i < dst.length by omega)]
   by_cases he : src[i].toNat = y
   ·rw [if_pos (by omega),sat_lt (show i < dst.length by omega)]
    simp [look,he]
   ·rw [if_neg (by omega),w64_id (by omega) (by omega)]
    have := ih (i + 1) (by omega) (by omega)
    rw [show ((i : Int) + 1) = ((i + 1 : Nat) : Int) by simp,this]
    simp [look,he]
  ·rw [if_neg (by omega),List.drop_eq_nil_of_le (by omega)]
   simp [look]
theorem refByte_spec {k : Nat} (hk : 31 ≤ k) (b : UInt8) : rollcallref01_Byte.f k (b.toNat : Int) = some ((low b).toNat : Int) := by
 unfold rollcallref01_Byte.f
 have := refByte_loop (k := k) (y := b.toNat) (src := [65,66,67,68,69,70,71,72,73,74,75,76,77,78,79,80,81,82,83,84,85,86,87,88,89,90,91,93,92,126]) (dst := [97,98,99,100,101,102,103,104,105,106,107,108,109,110,111,112,113,114,115,116,117,118,119,120,121,122,123,125,124,94]) rfl (by decide) k 0 (by simp; omega) (by simp)
 refine this.trans ?_
 congr 2
 exact all_bytes (p := fun b => look b.toNat (List.drop 0 [65,66,67,68,69,70,71,72,73,74,75,76,77,78,79,80,81,82,83,84,85,86,87,88,89,90,91,93,92,126]) (List.drop 0 [97,98,99,100,101,102,103,104,105,106,107,108,109,110,111,112,113,114,115,116,117,118,119,120,121,122,123,125,124,94]) = (low b).toNat) (by decide +kernel) b
theorem fold_spec (b : UInt8) : fold_Byte.f (b.toNat : Int) = some ((low b).toNat : Int) := all_bytes (p := fun b => fold_Byte.f (b.toNat : Int) = some ((low b).toNat : Int)) (by decide +kernel) b
theorem one_spec (c b : UInt8) : glob_one.f (c.toNat : Int) (b.toNat : Int) = some (oneB c b) := by
 unfold glob_one.f
 have i63 : ((c.toNat : Int) = 63) ↔ c = 63 := by rw [← UInt8.toNat_inj]; simp; omega
 have i42 : ((c.toNat : Int) = 42) ↔ c = 42 := by rw [← UInt8.toNat_inj]; simp; omega
 have il : (((low c).toNat : Int) = ((low b).toNat : Int)) ↔ low c = low b := by rw [← UInt8.toNat_inj]; omega
 by_cases h1 : c = 63
 ·rw [if_pos (i63.2 h1),glob_one.J0,oneB,h1]; rfl
 ·have h1' : ¬ ((c.toNat : Int) = 63) := fun e => h1 (i63.1 e)
  rw [if_neg h1']
  by_cases h2 : c = 42
  ·rw [if_neg (by simp [i42,h2]),glob_one.J1,decide_eq_false h1',if_neg (by simp),glob_one.J0,oneB,h2]; rfl
  ·rw [if_pos (by simp [i42,h2]),fold_spec,Option.bind_some,fold_spec,Option.bind_some,glob_one.J1,decide_eq_false h1',if_neg (by simp),glob_one.J0]
   by_cases h3 : low c = low b
   ·rw [decide_eq_true (il.2 h3)]; simp [oneB,h2,h3]
   ·rw [decide_eq_false (fun e => h3 (il.1 e))]; simp [oneB,h1,h2,h3]
/-! ### strings.Trim at a star -/
theorem ssub_head1 {b : UInt8} {s : List UInt8} : ssub (b :: s) 1 ((b :: s).length : Int) = s := by
 simp only [ssub,Int.toNat_natCast]
 exact List.take_of_length_le (by simp)
theorem trimL {k : Nat} : ∀ (n : Nat) (s : List UInt8),s.length < n → s.length ≤ 100000 → strings_trimLeftByte.L0 k n s 42 = some (s.dropWhile (· == 42)) := by
 intro n
 induction n with
 | zero => intro s h; omega
 | succ n ih =>
  intro s h hl
  unfold strings_trimLeftByte.L0 strings_trimLeftByte.J1
  cases s with
  | nil => simp
  | cons b s =>
   simp only [List.length_cons] at h hl
   rw [if_pos (by simp <;> omega)]
   have hs : sat (b :: s) 0 = some b := rfl
   rw [hs,Option.bind_some]
   by_cases hb : b = 42
   ·subst hb
    rw [if_pos (by simp),if_pos ⟨by omega,by simp <;> omega,by omega⟩,ssub_head1,ih s (by omega) (by omega)]
    simp
   ·have : ¬ ((b.toNat : Int) = 42) := fun e => hb (by rw [← UInt8.toNat_inj]; simp; omega)
    rw [decide_eq_false this,if_neg (by simp)]
    simp [hb]
theorem trimR {k : Nat} : ∀ (n : Nat) (s : List UInt8),s.length < n → s.length ≤ 100000 → ∃ t j,strings_trimRightByte.L0 k n s 42 = some t ∧ s = t ++ List.replicate j 42 := by
 intro n
 induction n with
 | zero => intro s h; omega
 | succ n ih =>
  intro s h hl
  unfold strings_trimRightByte.L0 strings_trimRightByte.J1
  rcases List.eq_nil_or_concat s with rfl | ⟨s',b,rfl⟩
  ·exact ⟨[],0,by simp,rfl⟩
  ·rw [List.concat_eq_append] at h hl ⊢
   simp only [List.length_append,List.length_singleton] at h hl
   have hw : w64 (((s' ++ [b]).length : Int) - 1) = (s'.length : Int) := by rw [w64_id (by simp <;> omega) (by simp <;> omega)]; simp
   rw [if_pos (by simp <;> omega),hw,sat_lt (by simp),Option.bind_some]
   have hg : (s' ++ [b])[s'.length]'(by simp) = b := by simp
   rw [hg]
   by_cases hb : b = 42
   ·subst hb
    obtain ⟨t,j,e1,e2⟩ := ih s' (by omega) (by omega)
    have hsub : ssub (s' ++ [42]) 0 (s'.length : Int) = s' := by simp [ssub]
    refine ⟨t,j + 1,?_,?_⟩
    ·rw [if_pos (by simp),if_pos ⟨by omega,by omega,by simp <;> omega⟩,hsub,e1]
    ·rw [List.replicate_succ',← List.append_assoc,← e2]
   ·have : ¬ ((b.toNat : Int) = 42) := fun e => hb (by rw [← UInt8.toNat_inj]; simp; omega)
    rw [decide_eq_false this,if_neg (by simp)]
    exact ⟨_,0,rfl,by simp⟩
theorem dropAll (l : List UInt8) : decide (l.dropWhile (· == 42) = []) = l.all (· == 42) := by
 induction l with
 | nil => rfl
 | cons b l ih =>
  by_cases h : b = 42
  ·subst h; rw [List.dropWhile_cons,if_pos (by rfl),ih]; simp
  ·rw [List.dropWhile_cons,if_neg (by simpa using h)]; simp [h]
theorem trim_spec {k : Nat} {s : List UInt8} {S : HS} (hl : s.length ≤ 100000) (hk : 100001 ≤ k) : ∃ t,strings_Trim.f k s [42] S = some (t,S) ∧ decide (t = []) = s.all (· == 42) := by
 unfold strings_Trim.f
 by_cases h0 : s = []
 ·rw [if_pos h0,strings_Trim.J0,if_pos rfl]; exact ⟨s,rfl,by simp [h0]⟩
 ·obtain ⟨t,j,e1,e2⟩ := trimR (k := k) k s (by omega) hl
  have hlt : t.length ≤ s.length := by rw [e2]; simp
  rw [if_neg h0,strings_Trim.J0,if_neg (by simp),if_pos (by simp),show sat ([42] : List UInt8) 0 = some 42 from rfl,Option.bind_some,strings_Trim.J1,if_pos (by simp)]
  simp only [show sat ([42] : List UInt8) 0 = some 42 from rfl,show (((42 : UInt8).toNat : Int)) = 42 from rfl,strings_trimRightByte.f,strings_trimLeftByte.f,e1,Option.bind_some]
  rw [trimL k t (by omega) (by omega),Option.bind_some]
  refine ⟨_,rfl,?_⟩
  rw [e2,List.all_append]
  have hr : (List.replicate j (42 : UInt8)).all (· == 42) = true := by simp
  rw [hr,Bool.and_true]
  exact dropAll t
/-! ### the loop -/
/-- Where Match stands: what is left of the text and of the mask, and that that decides. -/
inductive St (mask s : List UInt8) : Nat → Nat → Int → Nat → List UInt8 → List UInt8 → Prop
 | no {p q mk si} (hm : mask = p ++ mk) (hs : s = q ++ si) (hl : Lit p q) : St mask s q.length p.length (-1) 0 mk si
 | yes {m0 s0 p q mk si} (hm : mask = m0 ++ 42 :: (p ++ mk)) (hs : s = s0 ++ (q ++ si)) (hl : Lit p q) (hM : M mask s = M (42 :: (p ++ mk)) (q ++ si)) : St mask s (s0.length + q.length) (m0.length + 1 + p.length) m0.length s0.length mk si
theorem St.len {mask s : List UInt8} {i k b : Nat} {st : Int} {mk si : List UInt8} (h : St mask s i k st b mk si) : mask.length = k + mk.length ∧ s.length = i + si.length ∧ b ≤ i ∧ mask.drop k = mk ∧ s.drop i = si ∧ (st < 0 ∨ st + 1 ≤ k) := by
 cases h with
 | @no p q _ _ hm hs hl => subst hm hs; refine ⟨by simp,by simp,by omega,by simp,by simp,.inl (by omega)⟩
 | @yes m0 s0 p q _ _ hm hs hl hM =>
  subst hm hs
  refine ⟨by simp <;> omega,by simp <;> omega,by omega,?_,?_,.inr (by omega)⟩
  ·have : m0 ++ 42 :: (p ++ mk) = (m0 ++ 42 :: p) ++ mk := by simp
   rw [this,show m0.length + 1 + p.length = (m0 ++ 42 :: p).length by simp <;> omega,List.drop_left]
  ·have : s0 ++ (q ++ si) = (s0 ++ q) ++ si := by simp
   rw [this,show s0.length + q.length = (s0 ++ q).length by simp,List.drop_left]
theorem St.star {mask s : List UInt8} {i k b : Nat} {st : Int} {mk si : List UInt8} (h : St mask s i k st b (42 :: mk) si) : St mask s i (k + 1) (k : Int) i mk si := by
 cases h with
 | @no p q _ _ hm hs hl =>
  have := St.yes (mask := mask) (s := s) (m0 := p) (s0 := q) (p := []) (q := []) (mk := mk) (si := si) (by simpa using hm) (by simpa using hs) .nil (by rw [hm,hs,hl.M]; rfl)
  simpa using this
 | @yes m0 s0 p q _ _ hm hs hl hM =>
  have := St.yes (mask := mask) (s := s) (m0 := m0 ++ 42 :: p) (s0 := s0 ++ q) (p := []) (q := []) (mk := mk) (si := si) (by rw [hm]; simp) (by rw [hs]; simp) .nil (by rw [hM,greedy hl]; rfl)
  have e1 : (m0 ++ 42 :: p).length = m0.length + 1 + p.length := by simp <;> omega
  have e2 : (s0 ++ q).length = s0.length + q.length := by simp
  rw [e1,e2] at this
  simpa using this
theorem St.lit {mask s : List UInt8} {i k b : Nat} {st : Int} {mk si : List UInt8} {c x : UInt8} (h : St mask s i k st b (c :: mk) (x :: si)) (h1 : c ≠ 42) (h2 : oneB c x = true) : St mask s (i + 1) (k + 1) st b mk si := by
 cases h with
 | @no p q _ _ hm hs hl =>
  have := St.no (mask := mask) (s := s) (p := p ++ [c]) (q := q ++ [x]) (mk := mk) (si := si) (by rw [hm]; simp) (by rw [hs]; simp) (hl.snoc h1 h2)
  simpa using this
 | @yes m0 s0 p q _ _ hm hs hl hM =>
  have := St.yes (mask := mask) (s := s) (m0 := m0) (s0 := s0) (p := p ++ [c]) (q := q ++ [x]) (mk := mk) (si := si) (by rw [hm]; simp) (by rw [hs]; simp) (hl.snoc h1 h2) (by rw [hM]; simp)
  simp only [List.length_append,List.length_singleton] at this
  exact this
/-- The next sign holds for nothing that is left. -/
theorem St.back {mask s : List UInt8} {i k b : Nat} {st : Int} {mk si : List UInt8} (h : St mask s i k st b mk si) (hx : M mk si = false) (hne : si ≠ []) :
  (st < 0 ∧ M mask s = false) ∨ (0 ≤ st ∧ ∃ mk' si',St mask s (b + 1) (st.toNat + 1) st (b + 1) mk' si') := by
 cases h with
 | @no p q _ _ hm hs hl => exact .inl ⟨by omega,by rw [hm,hs,hl.M,hx]⟩
 | @yes m0 s0 p q _ _ hm hs hl hM =>
  right
  refine ⟨by omega,?_⟩
  have hf : M (p ++ mk) (q ++ si) = false := by rw [hl.M,hx]
  cases hq : q ++ si with
  | nil => exact absurd (List.append_eq_nil_iff.1 hq).2 hne
  | cons y t =>
   rw [hq] at hf hM hs
   have := St.yes (mask := mask) (s := s) (m0 := m0) (s0 := s0 ++ [y]) (p := []) (q := []) (mk := p ++ mk) (si := t) (by rw [hm]; rfl) (by rw [hs]; simp) .nil (by rw [hM,slide hf]; rfl)
   refine ⟨p ++ mk,t,?_⟩
   simpa using this
theorem St.fin {mask s : List UInt8} {i k b : Nat} {st : Int} {mk : List UInt8} (h : St mask s i k st b mk []) : M mask s = mk.all (· == 42) := by
 cases h with
 | @no p q _ _ hm hs hl => rw [hm,hs,hl.M,M_stars]
 | @yes m0 s0 p q _ _ hm hs hl hM => rw [hM,List.append_nil,last_seg hl,M_stars]
theorem match_loop {k : Nat} {mask s : List UInt8} (hm : mask.length ≤ 1000) (hs : s.length ≤ 1000) (hk : 100001 ≤ k) : ∀ (n i j b : Nat) (st : Int) (mk si : List UInt8) (S : HS),St mask s i j st b mk si → (s.length - b) * (mask.length + 1) + (mask.length - j) < n →
  glob_Match.L0 k n mask s (i : Int) (j : Int) st (b : Int) S = some (M mask s,S) := by
 intro n
 induction n with
 | zero => intro i j b st mk si S _ h; omega
 | succ n ih =>
  intro i j b st mk si S hst hμ
  obtain ⟨l1,l2,l3,l4,l5,l6⟩ := hst.len
  unfold glob_Match.L0
  have hi1 : w64 ((i : Int) + 1) = ((i + 1 : Nat) : Int) := by rw [w64_id (by omega) (by omega)]; simp
  have hj1 : w64 ((j : Int) + 1) = ((j + 1 : Nat) : Int) := by rw [w64_id (by omega) (by omega)]; simp
  have hb1 : w64 ((b : Int) + 1) = ((b + 1 : Nat) : Int) := by rw [w64_id (by omega) (by omega)]; simp
  by_cases hlt : i < s.length
  ·rw [if_pos (by omega)]
   cases si with
   | nil => simp at l2; omega
   | cons x si =>
    have hsx : sat s (i : Int) = some x := by
     have := congrArg (fun l => l[0]?) l5
     simp at this
     simp [sat,this]
    have back : M mk (x :: si) = false → (if st < 0 then some (false,S) else glob_Match.L0 k n mask s (w64 ((b : Int) + 1)) (w64 (st + 1)) st (w64 ((b : Int) + 1)) S) = some (M mask s,S) := by
     intro hx
     rcases hst.back hx (by simp) with ⟨h1,h2⟩ | ⟨h1,mk',si',h2⟩
     ·rw [if_pos h1,h2]
     ·obtain ⟨q1,q2,q3,q4,q5,q6⟩ := h2.len
      have hs1 : w64 (st + 1) = ((st.toNat + 1 : Nat) : Int) := by rw [w64_id (by omega) (by omega)]; omega
      rw [if_neg (by omega),hb1,hs1]
      refine ih _ _ _ _ _ _ S h2 ?_
      have e1 : (s.length - b) * (mask.length + 1) = (s.length - (b + 1)) * (mask.length + 1) + (mask.length + 1) := by
       rw [← Nat.succ_mul]; congr 1; omega
      omega
    by_cases hj : j < mask.length
    ·cases mk with
     | nil => simp at l1; omega
     | cons c mk =>
      have hmc : sat mask (j : Int) = some c := by
       have := congrArg (fun l => l[0]?) l4
       simp at this
       simp [sat,this]
      rw [if_pos (by omega),hmc,Option.bind_some,glob_Match.J1]
      by_cases hc : c = 42
      ·subst hc
       rw [if_pos (by simp),hj1]
       refine ih _ _ _ _ _ _ S hst.star ?_
       have e1 : (s.length - i) * (mask.length + 1) ≤ (s.length - b) * (mask.length + 1) := Nat.mul_le_mul_right _ (by omega)
       omega
      ·have hc42 : ¬ ((c.toNat : Int) = 42) := fun e => hc (by rw [← UInt8.toNat_inj]; simp; omega)
       rw [decide_eq_false hc42,if_neg (by simp),if_pos (by omega),hmc,Option.bind_some,hsx,Option.bind_some,one_spec,Option.bind_some]
       by_cases h1 : oneB c x = true
       ·rw [if_pos h1,hi1,hj1]
        refine ih _ _ _ _ _ _ S (hst.lit hc h1) ?_
        omega
       ·rw [if_neg h1]
        exact back (by rw [M_lit _ _ _ hc]; simp [h1])
    ·cases mk with
     | cons c mk => simp at l1; omega
     | nil =>
      rw [if_neg (by omega),glob_Match.J1,if_neg (by simp),if_neg (by omega)]
      exact back rfl
  ·cases si with
   | cons x si => simp at l2; omega
   | nil =>
    rw [if_neg (by omega),if_pos ⟨by omega,by omega,by omega⟩]
    have hsub : ssub mask (j : Int) (mask.length : Int) = mk := by
     simp only [ssub,Int.toNat_natCast,l4]
     exact List.take_of_length_le (by omega)
    obtain ⟨t,e1,e2⟩ := trim_spec (k := k) (s := mk) (S := S) (by omega) hk
    rw [hsub,e1,Option.bind_some,hst.fin,← e2]
theorem match_spec {k : Nat} {mask s : List UInt8} {S : HS} (hm : mask.length ≤ 200) (hs : s.length ≤ 300) (hk : 100001 ≤ k) : glob_Match.f k mask s S = some (M mask s,S) := by
 rw [glob_Match.f]
 refine match_loop (by omega) (by omega) hk k 0 0 0 (-1) mask s S (St.no (p := []) (q := []) rfl rfl .nil) ?_
 have : (s.length - 0) * (mask.length + 1) ≤ 300 * 201 := Nat.mul_le_mul (by omega) (by omega)
 omega
end Go.Proofs.YtgplnlknejbglaaDoor.X
namespace Go.Proofs.YtgplnlknejbglaaDoor.X
open Go.Proofs.YtgplnlknejbglaaDoor.HL
set_option linter.unusedVariables false
theorem row_of (b : UInt8) : [[HV.int .u8 (b.toNat : Int)]] = bytesRows [b] := rfl
theorem take_succ_map {x : List UInt8} {i : Nat} (h : i < x.length) : (x.take (i + 1)).map low = (x.take i).map low ++ [low x[i]] := by
 rw [List.take_succ_eq_append_getElem h,List.map_append]; rfl
theorem refText_loop {k m : Nat} {x : List UInt8} (hx : x.length ≤ 100000) (hk : 31 ≤ k) : ∀ (n i : Nat) (S : HS),x.length - i < n → i ≤ x.length → m ≤ S.next →
  ∃ S',rollcallref01_Text.L0 k n x ((x.take i).map low) (i : Int) S = some (x.map low,S') ∧ Fr m S S' := by
 intro n
 induction n with
 | zero => intro i S h; omega
 | succ n ih =>
  intro i S h hi hm
  unfold rollcallref01_Text.L0
  by_cases hlt : i < x.length
  ·rw [if_pos (by omega),sat_lt hlt,Option.bind_some,refByte_spec hk,Option.bind_some,letv,row_of]
   have hl := Vec.lit (n := m) (z := 1) (S := S) (bytesRows [low x[i]]) hm
   rw [hl.text,Option.bind_some,if_pos (by simp; omega),w64_id (by omega) (by omega),show ((i : Int) + 1) = ((i + 1 : Nat) : Int) by simp,← take_succ_map hlt]
   have hf0 := lit_fr (n := m) (z := 1) (S := S) (bytesRows [low x[i]]) hm
   obtain ⟨S2,e2,hf2⟩ := ih (i + 1) _ (by omega) (by omega) (Nat.le_trans hm hf0.le)
   exact ⟨S2,e2,hf0.trans hf2⟩
  ·rw [if_neg (by omega),show i = x.length by omega,List.take_length]
   exact ⟨S,rfl,Fr.refl _ _⟩
theorem refText_spec {k m : Nat} {x : List UInt8} {S : HS} (hx : x.length ≤ 100000) (hk : x.length < k) (hk2 : 31 ≤ k) (hm : m ≤ S.next) : ∃ S',rollcallref01_Text.f k x S = some (x.map low,S') ∧ Fr m S S' :=
 refText_loop hx hk2 k 0 S (by omega) (by omega) hm
/-! ### wild masks -/
def wildB (s : List UInt8) : Bool := s.any fun b => b == 42 || b == 63
theorem contains_wild (s : List UInt8) : Lib.containsAny s [42,63] = wildB s := by
 unfold Lib.containsAny wildB
 induction s with
 | nil => rfl
 | cons b s ih =>
  unfold Lib.indexAny
  have hc : ([42,63] : List UInt8).contains b = (b == 42 || b == 63) := by rw [List.contains_cons,List.contains_cons,List.contains_nil,Bool.or_false]
  rw [hc,List.any_cons,← ih]
  cases h : (b == 42 || b == 63) with
  | true => simp
  | false =>
   have hg := Lib.indexAny_ge [42,63] s
   by_cases h1 : Lib.indexAny s [42,63] = -1
   ·simp [h1]
   ·have h2 : (Lib.indexAny s [42,63] == -1) = false := beq_eq_false_iff_ne.2 h1
    simp only [Bool.false_eq_true,if_false,h2,Bool.false_or]
    rw [decide_eq_decide]; omega
theorem wild_spec {s : List UInt8} (h : s.length ≤ 100000) : glob_Wild.f s = some (wildB s) := by
 unfold glob_Wild.f strings_ContainsAny.f
 rw [if_pos ⟨rfl,by omega⟩,Option.bind_some,contains_wild]
theorem M_plain : ∀ (a s : List UInt8),wildB a = false → M a s = decide (a.map low = s.map low)
 | [],[],_ => rfl
 | [],_ :: _,_ => by simp [M_nil]
 | c :: a,s,h => by
  unfold wildB at h
  rw [List.any_cons,Bool.or_eq_false_iff,Bool.or_eq_false_iff] at h
  have h42 : c ≠ 42 := by simpa using h.1.1
  cases s with
  | nil => rw [M_lit_nil _ h42]; simp
  | cons b s =>
   rw [M_lit _ _ _ h42,M_plain a s h.2]
   have : oneB c b = decide (low c = low b) := by
    unfold oneB
    rw [show (c == 63) = false from h.1.2,show (c != 42) = true by simpa using h42,Bool.false_or,Bool.true_and]
    exact Bool.eq_iff_iff.2 (by simp)
   rw [this]
   simp
end Go.Proofs.YtgplnlknejbglaaDoor.X
namespace Go.Proofs.YtgplnlknejbglaaDoor.X
open Go.Proofs.YtgplnlknejbglaaDoor.HL
set_option linter.unusedVariables false
theorem A0 : (rollcalllaw04_awake.f 200000 S0).map (fun p => p.1) = some true := by kernel_rfl
theorem awake_run : ∃ S1,rollcalllaw04_awake.f 200000 S0 = some (true,S1) := by
 have h := A0
 cases hc : rollcalllaw04_awake.f 200000 S0 with
 | none => rw [hc] at h; cases h
 | some p =>
  rw [hc] at h
  obtain ⟨b,S1⟩ := p
  cases h
  exact ⟨S1,rfl⟩
end Go.Proofs.YtgplnlknejbglaaDoor.X
namespace Go.Proofs.YtgplnlknejbglaaDoor.X
open Go.Proofs.YtgplnlknejbglaaDoor.HL
set_option linter.unusedVariables false
/-! ### a whole mask's parts -/
inductive CutIs : List UInt8 → (List UInt8 × List UInt8 × List UInt8 × Bool) → Prop
 | noBang {s : List UInt8} (h : 33 ∉ s) : CutIs s ([],[],[],false)
 | noAt {a b : List UInt8} (h1 : 33 ∉ a) (h2 : 64 ∉ b) : CutIs (a ++ 33 :: b) ([],[],[],false)
 | bad {a c d : List UInt8} (h1 : 33 ∉ a) (h2 : 64 ∉ c) (h3 : a = [] ∨ c = [] ∨ d = [] ∨ 64 ∈ a) : CutIs (a ++ 33 :: (c ++ 64 :: d)) ([],[],[],false)
 | good {a c d : List UInt8} (h1 : 33 ∉ a) (h2 : 64 ∉ c) (g1 : a ≠ []) (g2 : c ≠ []) (g3 : d ≠ []) (g4 : 64 ∉ a) : CutIs (a ++ 33 :: (c ++ 64 :: d)) (a,c,d,true)
theorem cut_ex (s : List UInt8) : ∃ r,CutIs s r := by
 rcases view 33 s with h1 | ⟨a,b,rfl,h1⟩
 ·exact ⟨_,.noBang h1⟩
 ·rcases view 64 b with h2 | ⟨c,d,rfl,h2⟩
  ·exact ⟨_,.noAt h1 h2⟩
  ·by_cases h3 : a = [] ∨ c = [] ∨ d = [] ∨ 64 ∈ a
   ·exact ⟨_,.bad h1 h2 h3⟩
   ·simp only [not_or] at h3
    exact ⟨_,.good h1 h2 h3.1 h3.2.1 h3.2.2.1 h3.2.2.2⟩
theorem cut_spec {k : Nat} {s : List UInt8} {r} {S : HS} (hc : CutIs s r) (hl : s.length ≤ 1000) : glob_Cut.f k s S = some (r,S) := by
 unfold glob_Cut.f
 have hno : ∀ a b c,glob_Cut.J0 k a b c true S = some (([],[],[],false),S) := fun a b c => by
  rw [glob_Cut.J0,if_pos rfl,glob_Cut.J1,if_pos rfl,glob_Cut.J2,if_pos rfl,glob_Cut.J3,if_pos rfl,glob_Cut.J4,if_pos rfl]
 cases hc with
 | noBang h =>
  rw [cut_none h,Option.bind_some]
  simp only []
  rw [cut_none (by simp),Option.bind_some,if_pos (by simp)]
  exact hno _ _ _
 | noAt h1 h2 =>
  simp at hl
  rw [cut_some h1 (by omega),Option.bind_some]
  simp only []
  rw [cut_none h2,Option.bind_some,if_neg (by simp)]
  exact hno _ _ _
 | @bad a c d h1 h2 h3 =>
  simp at hl
  rw [cut_some h1 (by simp; omega),Option.bind_some]
  simp only []
  rw [cut_some h2 (by omega),Option.bind_some,if_neg (by simp)]
  simp only [Bool.not_true]
  rw [glob_Cut.J0,if_neg (by simp),glob_Cut.J1]
  by_cases e1 : a = []
  ·rw [decide_eq_true e1,if_pos rfl,glob_Cut.J2,if_pos rfl,glob_Cut.J3,if_pos rfl,glob_Cut.J4,if_pos rfl]
  rw [decide_eq_false e1,if_neg (by simp),glob_Cut.J2]
  by_cases e2 : c = []
  ·rw [decide_eq_true e2,if_pos rfl,glob_Cut.J3,if_pos rfl,glob_Cut.J4,if_pos rfl]
  rw [decide_eq_false e2,if_neg (by simp),glob_Cut.J3]
  by_cases e3 : d = []
  ·rw [decide_eq_true e3,if_pos rfl,glob_Cut.J4,if_pos rfl]
  rw [decide_eq_false e3,if_neg (by simp),contains_one,Option.bind_some,glob_Cut.J4,if_pos (by simpa [e1,e2,e3] using h3)]
 | @good a c d h1 h2 g1 g2 g3 g4 =>
  simp at hl
  rw [cut_some h1 (by simp; omega),Option.bind_some]
  simp only []
  rw [cut_some h2 (by omega),Option.bind_some,if_neg (by simp)]
  simp only [Bool.not_true]
  rw [glob_Cut.J0,if_neg (by simp),glob_Cut.J1,decide_eq_false g1,if_neg (by simp),glob_Cut.J2,decide_eq_false g2,if_neg (by simp),glob_Cut.J3,decide_eq_false g3,if_neg (by simp),contains_one,Option.bind_some,glob_Cut.J4,if_neg (by simpa using g4)]
theorem first_uniq {c : UInt8} {a b x y : List UInt8} (h1 : c ∉ a) (h2 : c ∉ x) (h : a ++ c :: b = x ++ c :: y) : a = x ∧ b = y := by
 have e : (a.length : Int) = x.length := by rw [← ixb_some (s := b) h1,← ixb_some (s := y) h2,h]
 have := List.append_inj h (by omega)
 exact ⟨this.1,by simpa using this.2⟩
/-! ### marks -/
def markB (s : List UInt8) : Bool := s.any fun b => b == 33 || b == 64 || b == 63
def starB (s : List UInt8) : Bool := s.any fun b => b == 42
theorem num_eq (x c : UInt8) : decide ((x.toNat : Int) = (c.toNat : Int)) = (x == c) := by
 rw [Bool.eq_iff_iff,decide_eq_true_iff,beq_iff_eq,← UInt8.toNat_inj]; omega
theorem num_if {α : Type} (x c : UInt8) (p q : α) : (if (x.toNat : Int) = (c.toNat : Int) then p else q) = if (x == c) = true then p else q := by
 have := num_eq x c
 by_cases h : (x.toNat : Int) = (c.toNat : Int)
 ·rw [if_pos h,if_pos (by rw [← this]; exact decide_eq_true h)]
 ·rw [if_neg h,if_neg (by rw [← this,decide_eq_false h]; simp)]
theorem marked_loop {k : Nat} {s : List UInt8} (hs : s.length ≤ 100000) : ∀ (n i : Nat),s.length - i < n → i ≤ s.length → rollcalllaw04_marked.L0 k n s (i : Int) = some (markB (s.drop i)) := by
 intro n
 induction n with
 | zero => intro i h; omega
 | succ n ih =>
  intro i h hi
  unfold rollcalllaw04_marked.L0
  by_cases hlt : i < s.length
  ·have hi1 : w64 ((i : Int) + 1) = ((i + 1 : Nat) : Int) := by rw [w64_id (by omega) (by omega)]; simp
   have e33 := num_if (α := Option Bool) s[i] 33
   have e64 := num_eq s[i] 64
   have e63 := num_eq s[i] 63
   rw [if_pos (by omega),sat_lt hlt,Option.bind_some,List.drop_eq_getElem_cons hlt]
   generalize hc : s[i] = c at e33 e64 e63
   refine (e33 _ _).trans ?_
   have e64' : decide ((c.toNat : Int) = 64) = (c == 64) := e64
   have e63' : decide ((c.toNat : Int) = 63) = (c == 63) := e63
   have hm : markB (c :: s.drop (i + 1)) = ((c == 33 || c == 64 || c == 63) || markB (s.drop (i + 1))) := rfl
   rw [Option.bind_some,hm,e64',rollcalllaw04_marked.J1,if_pos rfl,rollcalllaw04_marked.J2,if_pos rfl]
   by_cases h33 : (c == 33) = true
   ·rw [if_pos h33,h33]; rfl
   ·have f33 : (c == 33) = false := by simpa using h33
    rw [if_neg h33,f33,rollcalllaw04_marked.J1,sat_lt hlt,Option.bind_some,hc,e63']
    by_cases h64 : (c == 64) = true
    ·rw [h64,if_pos rfl,rollcalllaw04_marked.J2,if_pos rfl]; rfl
    ·have f64 : (c == 64) = false := by simpa using h64
     rw [f64,if_neg (by simp),rollcalllaw04_marked.J2]
     by_cases h63 : (c == 63) = true
     ·rw [h63,if_pos rfl]; rfl
     ·have f63 : (c == 63) = false := by simpa using h63
      rw [f63,if_neg (by simp),hi1,ih (i + 1) (by omega) (by omega)]; rfl
  ·rw [if_neg (by omega),List.drop_eq_nil_of_le (by omega)]; rfl
theorem marked_spec {k : Nat} {s : List UInt8} (hs : s.length ≤ 100000) (hk : 100001 ≤ k) : rollcalllaw04_marked.f k s = some (markB s) := by
 unfold rollcalllaw04_marked.f
 exact marked_loop hs k 0 (by omega) (Nat.zero_le _)
theorem starL_loop {k : Nat} {s : List UInt8} (hs : s.length ≤ 100000) : ∀ (n i : Nat),s.length - i < n → i ≤ s.length → rollcalllaw04_star.L0 k n s (i : Int) = some (starB (s.drop i)) := by
 intro n
 induction n with
 | zero => intro i h; omega
 | succ n ih =>
  intro i h hi
  unfold rollcalllaw04_star.L0
  by_cases hlt : i < s.length
  ·have hi1 : w64 ((i : Int) + 1) = ((i + 1 : Nat) : Int) := by rw [w64_id (by omega) (by omega)]; simp
   have e42 := num_if (α := Option Bool) s[i] 42
   rw [if_pos (by omega),sat_lt hlt,Option.bind_some,List.drop_eq_getElem_cons hlt]
   generalize hc : s[i] = c at e42
   refine (e42 _ _).trans ?_
   have hm : starB (c :: s.drop (i + 1)) = ((c == 42) || starB (s.drop (i + 1))) := rfl
   rw [hm]
   by_cases h42 : (c == 42) = true
   ·rw [if_pos h42,h42]; rfl
   ·have f42 : (c == 42) = false := by simpa using h42
    rw [if_neg h42,f42,hi1,ih (i + 1) (by omega) (by omega)]; rfl
  ·rw [if_neg (by omega),List.drop_eq_nil_of_le (by omega)]; rfl
theorem starL_spec {k : Nat} {s : List UInt8} (hs : s.length ≤ 100000) (hk : 100001 ≤ k) : rollcalllaw04_star.f k s = some (starB s) := by
 unfold rollcalllaw04_star.f
 exact starL_loop hs k 0 (by omega) (Nat.zero_le _)
/-! ### folded -/
theorem low_low (b : UInt8) : low (low b) = low b := all_bytes (p := fun b => low (low b) = low b) (by decide +kernel) b
theorem low_42 (b : UInt8) : (low b == 42) = (b == 42) := all_bytes (p := fun b => (low b == 42) = (b == 42)) (by decide +kernel) b
theorem low_63 (b : UInt8) : (low b == 63) = (b == 63) := all_bytes (p := fun b => (low b == 63) = (b == 63)) (by decide +kernel) b
theorem low_33 (b : UInt8) : (low b == 33) = (b == 33) := all_bytes (p := fun b => (low b == 33) = (b == 33)) (by decide +kernel) b
theorem low_64 (b : UInt8) : (low b == 64) = (b == 64) := all_bytes (p := fun b => (low b == 64) = (b == 64)) (by decide +kernel) b
theorem oneB_low (c b : UInt8) : oneB (low c) (low b) = oneB c b := by
 unfold oneB
 rw [low_63,low_low,low_low]
 have : (low c != 42) = (c != 42) := by unfold bne; rw [low_42]
 rw [this]
theorem M_fold (m : List UInt8) : ∀ s,M (m.map low) (s.map low) = M m s := by
 induction m with
 | nil => intro s; cases s <;> rfl
 | cons c m ih =>
  by_cases hc : c = 42
  ·subst hc
   intro s
   have h42 : low 42 = 42 := by decide
   rw [List.map_cons,h42]
   induction s with
   | nil => rw [List.map_nil,M_star,M_star]; exact ih []
   | cons b s ihs =>
    rw [List.map_cons,M_star,M_star,anyTail,anyTail,← List.map_cons,ih (b :: s),← M_star,ihs,M_star]
  ·intro s
   have hc' : low c ≠ 42 := fun e => hc (by have := low_42 c; rw [e] at this; simpa using this.symm)
   cases s with
   | nil => rw [List.map_cons,List.map_nil,M_lit_nil _ hc,M_lit_nil _ hc']
   | cons b s => rw [List.map_cons,List.map_cons,M_lit _ _ _ hc,M_lit _ _ _ hc',oneB_low,ih s]
theorem mem_low {c : UInt8} (hc : ∀ b,(low b == c) = (b == c)) {s : List UInt8} (h : c ∉ s) : c ∉ s.map low := by
 intro hm
 obtain ⟨b,hb,e⟩ := List.mem_map.1 hm
 have := hc b
 rw [e] at this
 have hbc : b = c := by simpa using this.symm
 exact h (hbc ▸ hb)
theorem of_markB {s : List UInt8} (h : markB s = false) : 33 ∉ s ∧ 64 ∉ s ∧ ∀ b ∈ s,(b == 63) = false := by
 unfold markB at h
 rw [List.any_eq_false] at h
 refine ⟨fun hm => ?_,fun hm => ?_,fun b hb => ?_⟩
 ·exact h 33 hm (by decide)
 ·exact h 64 hm (by decide)
 ·have := h b hb; simp at this; simpa using this.2
theorem plain_of {s : List UInt8} (h : markB s = false) (h2 : starB s = false) : wildB s = false := by
 unfold wildB
 rw [List.any_eq_false]
 intro b hb
 have h63 := (of_markB h).2.2 b hb
 unfold starB at h2
 rw [List.any_eq_false] at h2
 have h42 := h2 b hb
 rw [h63]; simpa using h42
theorem star_of_wild {s : List UInt8} (h : wildB s = false) : starB s = false := by
 unfold wildB at h; unfold starB
 rw [List.any_eq_false] at h ⊢
 intro b hb hc
 exact h b hb (by rw [hc]; rfl)
theorem parts_mean {a c d n u h : List UInt8} (ha : wildB a = false) (hc : wildB c = false) (hd : wildB d = false) (a33 : 33 ∉ a) (c64 : 64 ∉ c) (n33 : 33 ∉ n) (u64 : 64 ∉ u) :
  M (a ++ 33 :: (c ++ 64 :: d)) ((((n ++ [33]) ++ u) ++ [64]) ++ h) = (M a n && (M c u && M d h)) := by
 have hw : wildB (a ++ 33 :: (c ++ 64 :: d)) = false := by
  unfold wildB at ha hc hd ⊢
  rw [List.any_append,List.any_cons,List.any_append,List.any_cons,ha,hc,hd]; rfl
 have es : (((n ++ [33]) ++ u) ++ [64]) ++ h = n ++ 33 :: (u ++ 64 :: h) := by simp
 have h33 : low 33 = 33 := by decide
 have h64 : low 64 = 64 := by decide
 rw [es,M_plain _ _ hw,M_plain _ _ ha,M_plain _ _ hc,M_plain _ _ hd]
 apply bool_ext
 simp only [decide_eq_true_eq,Bool.and_eq_true,List.map_append,List.map_cons,h33,h64]
 constructor
 ·intro e
  obtain ⟨e1,e2⟩ := first_uniq (mem_low low_33 a33) (mem_low low_33 n33) e
  obtain ⟨e3,e4⟩ := first_uniq (mem_low low_64 c64) (mem_low low_64 u64) e2
  exact ⟨e1,e3,e4⟩
 ·rintro ⟨e1,e2,e3⟩
  rw [e1,e2,e3]
theorem gf_j6 {k : Nat} {mask n u h a c d : List UInt8} {S : HS} (hk : 100001 ≤ k) (hl : mask.length ≤ 30) (hn : n.length ≤ 30) (hu : u.length ≤ 30) (hh : h.length ≤ 30) (hm : mask = a ++ 33 :: (c ++ 64 :: d)) (mn : markB n = false) (mu : markB u = false) (sa : starB a = false) (sc : starB c = false) (sd : starB d = false) :
  rollcalllaw04_GlobFolds.J6 k mask n u h ((((n ++ [33]) ++ u) ++ [64]) ++ h) a c d false S = some (true,S) := by
 have hlen := hm ▸ hl
 simp at hlen
 have t8 : rollcalllaw04_GlobFolds.J8 k mask n u h ((((n ++ [33]) ++ u) ++ [64]) ++ h) a c d true S = some (true,S) := by
  rw [rollcalllaw04_GlobFolds.J8,if_pos rfl,rollcalllaw04_GlobFolds.J9]
 have t7 : rollcalllaw04_GlobFolds.J7 k mask n u h ((((n ++ [33]) ++ u) ++ [64]) ++ h) a c d true S = some (true,S) := by
  rw [rollcalllaw04_GlobFolds.J7,if_pos rfl,t8]
 rw [rollcalllaw04_GlobFolds.J6,if_neg (by simp),marked_spec (by omega) hk,Option.bind_some]
 by_cases ma : markB a = true
 ·rw [if_pos ma,t7]
 have ma' : markB a = false := by simpa using ma
 rw [if_neg ma,marked_spec (by omega) hk,Option.bind_some]
 by_cases mc : markB c = true
 ·rw [mc,t7]
 have mc' : markB c = false := by simpa using mc
 rw [mc',rollcalllaw04_GlobFolds.J7,if_neg (by simp),marked_spec (by omega) hk,Option.bind_some]
 by_cases md : markB d = true
 ·rw [md,t8]
 have md' : markB d = false := by simpa using md
 rw [md',rollcalllaw04_GlobFolds.J8,if_neg (by simp),match_spec (by omega) (by simp; omega) hk,Option.bind_some,match_spec (by omega) (by omega) hk,Option.bind_some]
 have key := parts_mean (a := a) (c := c) (d := d) (n := n) (u := u) (h := h) (plain_of ma' sa) (plain_of mc' sc) (plain_of md' sd) (of_markB ma').1 (of_markB mc').2.1 (of_markB mn).1 (of_markB mu).2.1
 rw [← hm] at key
 simp only []
 rw [key]
 cases M a n with
 | false =>
  rw [if_neg (by simp),rollcalllaw04_GlobFolds.J10,if_neg (by simp),if_neg (by simp),rollcalllaw04_GlobFolds.J11,if_neg (by simp),rollcalllaw04_GlobFolds.J9]; rfl
 | true =>
  rw [if_pos rfl,match_spec (by omega) (by omega) hk,Option.bind_some,rollcalllaw04_GlobFolds.J10,if_neg (by simp)]
  simp only []
  cases M c u with
  | false => rw [if_neg (by simp),rollcalllaw04_GlobFolds.J11,if_neg (by simp),rollcalllaw04_GlobFolds.J9]; rfl
  | true =>
   rw [if_pos rfl,match_spec (by omega) (by omega) hk,Option.bind_some,rollcalllaw04_GlobFolds.J11,if_neg (by simp),rollcalllaw04_GlobFolds.J9]
   simp
theorem gf_j5 {k : Nat} {mask n u h : List UInt8} {S : HS} (hk : 100001 ≤ k) (hl : mask.length ≤ 30) (hn : n.length ≤ 30) (hu : u.length ≤ 30) (hh : h.length ≤ 30) (mn : markB n = false) (mu : markB u = false) :
  ∃ S',rollcalllaw04_GlobFolds.J5 k mask n u h false S = some (true,S') := by
 rw [rollcalllaw04_GlobFolds.J5,if_neg (by simp),if_pos (by simp <;> omega),if_pos (by simp <;> omega),if_pos (by simp <;> omega),if_pos (by simp <;> omega)]
 obtain ⟨S1,e1,_⟩ := refText_spec (k := k) (m := 0) (x := mask) (S := S) (by omega) (by omega) (by omega) (Nat.zero_le _)
 obtain ⟨S2,e2,_⟩ := refText_spec (k := k) (m := 0) (x := (((n ++ [33]) ++ u) ++ [64]) ++ h) (S := S1) (by simp <;> omega) (by simp <;> omega) (by omega) (Nat.zero_le _)
 rw [match_spec (by omega) (by simp; omega) hk,Option.bind_some,e1,Option.bind_some,e2,Option.bind_some,match_spec (by simp <;> omega) (by simp <;> omega) hk,Option.bind_some,M_fold,if_neg (by simp)]
 obtain ⟨r,hc⟩ := cut_ex mask
 rw [cut_spec hc (by omega),Option.bind_some]
 have t6 : ∀ s a c d S,rollcalllaw04_GlobFolds.J6 k mask n u h s a c d true S = some (true,S) := fun s a c d S => by rw [rollcalllaw04_GlobFolds.J6,if_pos rfl]
 cases hc with
 | noBang h1 => rw [if_pos (by simp),t6]; exact ⟨_,rfl⟩
 | noAt h1 h2 => rw [if_pos (by simp),t6]; exact ⟨_,rfl⟩
 | bad h1 h2 h3 => rw [if_pos (by simp),t6]; exact ⟨_,rfl⟩
 | @good a c d h1 h2 g1 g2 g3 g4 =>
  have hlen := hl
  simp at hlen
  rw [if_neg (by simp),wild_spec (by omega),Option.bind_some]
  have go14 : ∀ y,(y = false → starB a = false ∧ starB c = false ∧ starB d = false) → ∃ S',rollcalllaw04_GlobFolds.J14 k (a ++ 33 :: (c ++ 64 :: d)) n u h ((((n ++ [33]) ++ u) ++ [64]) ++ h) a c d false y S2 = some (true,S') := by
   intro y hy
   rw [rollcalllaw04_GlobFolds.J14,if_neg (by simp)]
   cases y with
   | true => rw [t6]; exact ⟨_,rfl⟩
   | false => exact ⟨_,gf_j6 hk hl hn hu hh rfl mn mu (hy rfl).1 (hy rfl).2.1 (hy rfl).2.2⟩
  by_cases hw : wildB (a ++ 33 :: (c ++ 64 :: d)) = true
  ·rw [if_pos hw,starL_spec (by simp only; omega) hk,Option.bind_some,hw]
   have go13 : ∀ y,(y = false → starB a = false ∧ starB c = false ∧ starB d = false) → ∃ S',rollcalllaw04_GlobFolds.J13 k (a ++ 33 :: (c ++ 64 :: d)) n u h ((((n ++ [33]) ++ u) ++ [64]) ++ h) a c d false true y S2 = some (true,S') := by
    intro y hy
    rw [rollcalllaw04_GlobFolds.J13,if_neg (by simp),if_pos rfl]
    exact go14 y hy
   simp only [Bool.not_true]
   by_cases sa : starB a = true
   ·rw [if_pos sa,rollcalllaw04_GlobFolds.J12,if_pos rfl,if_pos rfl]
    exact go13 true (fun e => by cases e)
   have sa' : starB a = false := by simpa using sa
   rw [if_neg sa,starL_spec (by omega) hk,Option.bind_some,rollcalllaw04_GlobFolds.J12,if_pos rfl]
   by_cases sc : starB c = true
   ·rw [if_pos sc]
    exact go13 true (fun e => by cases e)
   have sc' : starB c = false := by simpa using sc
   rw [if_neg sc,starL_spec (by omega) hk,Option.bind_some]
   exact go13 _ (fun e => ⟨sa',sc',e⟩)
  ·have hw' : wildB (a ++ 33 :: (c ++ 64 :: d)) = false := by simpa using hw
   have hst := star_of_wild hw'
   unfold starB at hst
   rw [List.any_append,List.any_cons,List.any_append,List.any_cons] at hst
   simp only [Bool.or_eq_false_iff] at hst
   rw [if_neg hw]
   exact go14 false (fun _ => ⟨hst.1,hst.2.2.1,hst.2.2.2.2⟩)
theorem globFolds_spec (mask n u h : List UInt8) : ∃ S',rollcalllaw04_GlobFolds.f 200000 mask n u h S0 = some (true,S') := by
 obtain ⟨S1,e1⟩ := awake_run
 have t5 : rollcalllaw04_GlobFolds.J5 200000 mask n u h true S1 = some (true,S1) := by rw [rollcalllaw04_GlobFolds.J5,if_pos rfl]
 have t4 : rollcalllaw04_GlobFolds.J4 200000 mask n u h true S1 = some (true,S1) := by rw [rollcalllaw04_GlobFolds.J4,if_pos rfl,t5]
 have t3 : rollcalllaw04_GlobFolds.J3 200000 mask n u h true S1 = some (true,S1) := by rw [rollcalllaw04_GlobFolds.J3,if_pos rfl,t4]
 have t2 : rollcalllaw04_GlobFolds.J2 200000 mask n u h true S1 = some (true,S1) := by rw [rollcalllaw04_GlobFolds.J2,if_pos rfl,t3]
 have t1 : rollcalllaw04_GlobFolds.J1 200000 mask n u h true S1 = some (true,S1) := by rw [rollcalllaw04_GlobFolds.J1,if_pos rfl,t2]
 have t0 : rollcalllaw04_GlobFolds.J0 200000 mask n u h true S1 = some (true,S1) := by rw [rollcalllaw04_GlobFolds.J0,if_pos rfl,t1]
 unfold rollcalllaw04_GlobFolds.f
 rw [e1,Option.bind_some,if_neg (by simp)]
 by_cases h1 : (mask.length : Int) > 30
 ·rw [if_pos h1]; exact ⟨_,t0⟩
 rw [if_neg h1]
 by_cases h2 : (n.length : Int) > 30
 ·rw [decide_eq_true h2]; exact ⟨_,t0⟩
 rw [decide_eq_false h2,rollcalllaw04_GlobFolds.J0,if_neg (by simp)]
 by_cases h3 : (u.length : Int) > 30
 ·rw [decide_eq_true h3]; exact ⟨_,t1⟩
 rw [decide_eq_false h3,rollcalllaw04_GlobFolds.J1,if_neg (by simp)]
 by_cases h4 : (h.length : Int) > 30
 ·rw [decide_eq_true h4]; exact ⟨_,t2⟩
 rw [decide_eq_false h4,rollcalllaw04_GlobFolds.J2,if_neg (by simp),marked_spec (by omega) (by omega),Option.bind_some]
 by_cases m1 : markB n = true
 ·rw [m1]; exact ⟨_,t3⟩
 have m1' : markB n = false := by simpa using m1
 rw [m1',rollcalllaw04_GlobFolds.J3,if_neg (by simp),marked_spec (by omega) (by omega),Option.bind_some]
 by_cases m2 : markB u = true
 ·rw [m2]; exact ⟨_,t4⟩
 have m2' : markB u = false := by simpa using m2
 rw [m2',rollcalllaw04_GlobFolds.J4,if_neg (by simp),marked_spec (by omega) (by omega),Option.bind_some]
 by_cases m3 : markB h = true
 ·rw [m3]; exact ⟨_,t5⟩
 have m3' : markB h = false := by simpa using m3
 rw [m3']
 exact gf_j5 (by omega) (by omega) (by omega) (by omega) (by omega) m1' m2'
theorem globFolds_call (W : World) (mask n u h : List UInt8) : HCall Tryd.prog W.heap.size W B0 8 [.str mask,.str n,.str u,.str h] S0 (fun v _ => v = .bool true) :=
 let ⟨_,h⟩ := globFolds_spec mask n u h
 (rollcalllaw04_GlobFolds.snd h).mono fun _ _ h => h.1
end Go.Proofs.YtgplnlknejbglaaDoor.X
