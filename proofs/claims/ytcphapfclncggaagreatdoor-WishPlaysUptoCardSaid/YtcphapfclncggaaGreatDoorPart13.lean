/- Sets of string, plain. Sets of int, what is told, plain. Sets of string, what is told, plain. Maps of sets, keys of int, things of string, plain. Maps of sets, keys of string, things of int, plain. The layer pair: the relation, plain. Folded texts, plain. The layer wish: lists of names, plain. The layer wish: what is told of a list, plain. The layer wish: a list cleared, plain. What rollcalllaw21_names gathers, plain. What rollcalllaw21_clients gathers, plain. The layer valid: the table of kinds, plain. The layer valid: whether all bytes of a text are of a kind, plain. -/
import Derived.Test.YtcphapfclncggaaGreatDoorPart12
namespace Go.Proofs.YtcphapfclncggaaGreatDoor.X
open Go.Proofs.YtcphapfclncggaaGreatDoor.HL
set_option linter.unusedVariables false
namespace KS
abbrev Ky := List UInt8
def kv (k : Ky) : HV := .str k
def klt (a b : Ky) : Bool := slt a b
theorem klt_irrefl : ∀ (x : Ky),klt x x = false := by
 intro x
 unfold klt
 induction x with
 | nil => rfl
 | cons a x ih => simp [slt,ih]
theorem klt_trans : ∀ {a b c : Ky},klt a b = true → klt b c = true → klt a c = true := by
 unfold klt
 intro a
 induction a with
 | nil => intro b c h1 h2; cases c with
  | nil => cases b <;> simp [slt] at h2
  | cons z c => rfl
 | cons x a ih =>
  intro b c h1 h2
  cases b with
  | nil => simp [slt] at h1
  | cons y b =>
   cases c with
   | nil => simp [slt] at h2
   | cons z c =>
    simp only [slt,Bool.or_eq_true,decide_eq_true_eq,Bool.and_eq_true,beq_iff_eq] at *
    rcases h1 with h1 | ⟨h1,h1'⟩
    ·rcases h2 with h2 | ⟨h2,_⟩
     ·exact .inl (UInt8.lt_trans h1 h2)
     ·exact .inl (h2 ▸ h1)
    ·rcases h2 with h2 | ⟨h2,h2'⟩
     ·exact .inl (h1 ▸ h2)
     ·exact .inr ⟨h1.trans h2,ih h1' h2'⟩
theorem klt_tri : ∀ (a b : Ky),klt a b = true ∨ a = b ∨ klt b a = true := by
 unfold klt
 intro a
 induction a with
 | nil => intro b; cases b with
  | nil => exact .inr (.inl rfl)
  | cons y b => exact .inl rfl
 | cons x a ih =>
  intro b
  cases b with
  | nil => exact .inr (.inr rfl)
  | cons y b =>
   simp only [slt,Bool.or_eq_true,decide_eq_true_eq,Bool.and_eq_true,beq_iff_eq,List.cons.injEq]
   rcases Nat.lt_trichotomy x.toNat y.toNat with h | h | h
   ·exact .inl (.inl (UInt8.lt_iff_toNat_lt.2 h))
   ·have hxy := UInt8.toNat_inj.1 h
    rcases ih b with g | g | g
    ·exact .inl (.inr ⟨hxy,g⟩)
    ·exact .inr (.inl ⟨hxy,g⟩)
    ·exact .inr (.inr (.inr ⟨hxy.symm,g⟩))
   ·exact .inr (.inr (.inl (UInt8.lt_iff_toNat_lt.2 h)))
def row1 (k : Ky) : List HV := [kv k]
theorem ldK_at {S : HS} {s : Sl} {xs : List Ky} (h : S.rows s 1 = some (xs.map row1)) {i : Nat} (hi : i < xs.length) : ∃ ad,S.idx s (i : Int) 1 = some ad ∧ S.ldS ad = some xs[i] := by
 obtain ⟨ad,h1,h2⟩ := get_at h (i := i) (v := kv xs[i]) (by simpa using hi) (by rw [List.getElem_map]; rfl)
 exact ⟨ad,h1,by rw [HS.ldS,h2]; simp [dS,kv]⟩
theorem less_spec (a b : Ky) : cmp_Less_string.f a b = some (klt a b) := by
 have h : ∀ x,cmp_isNaN_string.f x = some false := fun x => by simp [cmp_isNaN_string.f]
 rw [cmp_Less_string.f,h,Option.bind_some,if_neg (by simp),cmp_Less_string.J0,if_neg (by simp),cmp_Less_string.J1]
 rfl
def Srt (es : List Ky) : Prop := es.Pairwise fun a b => klt a b = true
theorem Srt.lt {es : List Ky} (h : Srt es) {i j : Nat} (hi : i < es.length) (hj : j < es.length) (hij : i < j) : klt es[i] es[j] = true := List.pairwise_iff_getElem.1 h i j hi hj hij
structure PosOf (es : List Ky) (t : Ky) (p : Nat) : Prop where
 le : p ≤ es.length
 lo : ∀ q (hq : q < es.length),q < p → klt es[q] t = true
 hi : ∀ q (hq : q < es.length),p ≤ q → klt es[q] t = false
theorem klt_asymm {a b : Ky} (h : klt a b = true) : klt b a = false := by
 cases h2 : klt b a with
 | false => rfl
 | true => have := klt_trans h h2; rw [klt_irrefl] at this; cases this
theorem PosOf.gt {es : List Ky} {t : Ky} {p : Nat} (h : PosOf es t p) (hs : Srt es) (hf : t ∉ es) {q : Nat} (hq : q < es.length) (hpq : p ≤ q) : klt t es[q] = true := by
 have h1 := h.hi q hq hpq
 rcases klt_tri es[q] t with g | g | g
 ·rw [h1] at g; cases g
 ·exact absurd (g ▸ List.getElem_mem hq) hf
 ·exact g
theorem PosOf.here {es : List Ky} {t : Ky} {p : Nat} (h : PosOf es t p) (hs : Srt es) (hm : t ∈ es) : ∃ hp : p < es.length,es[p] = t := by
 obtain ⟨q,hq,he⟩ := List.getElem_of_mem hm
 have hqp : p ≤ q := by
  rcases Nat.lt_or_ge q p with g | g
  ·have := h.lo q hq g; rw [he,klt_irrefl] at this; cases this
  ·exact g
 have hp : p < es.length := by omega
 refine ⟨hp,?_⟩
 rcases Nat.eq_or_lt_of_le hqp with g | g
 ·subst g; exact he
 ·have h1 := hs.lt hp hq g
  rw [he] at h1
  rw [h.hi p hp (Nat.le_refl _)] at h1; cases h1
theorem ins_srt {es : List Ky} {t : Ky} {p : Nat} (h : PosOf es t p) (hs : Srt es) (hf : t ∉ es) : Srt (es.take p ++ [t] ++ es.drop p) := by
 unfold Srt
 rw [List.append_assoc,List.pairwise_append]
 refine ⟨List.Pairwise.sublist (List.take_sublist _ _) hs,?_,fun a ha b hb => ?_⟩
 ·rw [List.singleton_append,List.pairwise_cons]
  refine ⟨fun b hb => ?_,List.Pairwise.sublist (List.drop_sublist _ _) hs⟩
  obtain ⟨q,hq,rfl⟩ := List.getElem_of_mem hb
  rw [List.getElem_drop]
  exact h.gt hs hf _ (by omega)
 ·obtain ⟨q,hq,rfl⟩ := List.getElem_of_mem ha
  rw [List.length_take] at hq
  rw [List.getElem_take]
  have h1 := h.lo q (by omega) (by omega)
  rcases List.mem_append.1 hb with hb | hb
  ·simp only [List.mem_singleton] at hb
   subst hb; exact h1
  ·obtain ⟨q2,hq2,rfl⟩ := List.getElem_of_mem hb
   rw [List.getElem_drop]
   rw [List.length_drop] at hq2
   exact hs.lt (by omega) (by omega) (by omega)
theorem ins_mem {es : List Ky} {t : Ky} {p : Nat} (v : Ky) : v ∈ es.take p ++ [t] ++ es.drop p ↔ v ∈ es ∨ v = t := by
 simp only [List.mem_append,List.mem_singleton]
 constructor
 ·rintro ((h | h) | h)
  ·exact .inl (List.mem_of_mem_take h)
  ·exact .inr h
  ·exact .inl (List.mem_of_mem_drop h)
 ·rintro (h | h)
  ·rw [← List.take_append_drop p es,List.mem_append] at h
   rcases h with h | h
   ·exact .inl (.inl h)
   ·exact .inr h
  ·exact .inl (.inr h)
theorem erase_srt {es : List Ky} (hs : Srt es) (p : Nat) : Srt (es.eraseIdx p) := List.Pairwise.sublist (List.eraseIdx_sublist _ _) hs
theorem erase_mem {es : List Ky} (hs : Srt es) {p : Nat} (hp : p < es.length) (v : Ky) : v ∈ es.eraseIdx p ↔ v ∈ es ∧ v ≠ es[p] := by
 rw [List.mem_eraseIdx_iff_getElem]
 constructor
 ·rintro ⟨q,hq,hne,rfl⟩
  refine ⟨List.getElem_mem hq,fun he => ?_⟩
  rcases Nat.lt_or_ge q p with g | g
  ·have := hs.lt hq hp g; rw [he,klt_irrefl] at this; cases this
  ·have := hs.lt hp hq (by omega); rw [he,klt_irrefl] at this; cases this
 ·rintro ⟨hm,hne⟩
  obtain ⟨q,hq,rfl⟩ := List.getElem_of_mem hm
  exact ⟨q,hq,fun e => hne (by subst e; rfl),rfl⟩
theorem srt_ext : ∀ {a b : List Ky},Srt a → Srt b → (∀ v,v ∈ a ↔ v ∈ b) → a = b := by
 intro a
 induction a with
 | nil =>
  intro b _ _ h
  cases b with
  | nil => rfl
  | cons y b => exact absurd ((h y).2 (by simp)) (by simp)
 | cons x a ih =>
  intro b ha hb h
  cases b with
  | nil => exact absurd ((h x).1 (by simp)) (by simp)
  | cons y b =>
   have ha' := List.pairwise_cons.1 ha
   have hb' := List.pairwise_cons.1 hb
   have hxy : x = y := by
    rcases List.mem_cons.1 ((h x).1 (by simp)) with g | g
    ·exact g
    ·rcases List.mem_cons.1 ((h y).2 (by simp)) with g2 | g2
     ·exact g2.symm
     ·have h1 := hb'.1 x g
      have h2 := ha'.1 y g2
      have := klt_trans h1 h2
      rw [klt_irrefl] at this; cases this
   subst hxy
   congr 1
   refine ih ha'.2 hb'.2 fun v => ?_
   have h1 := h v
   simp only [List.mem_cons] at h1
   constructor
   ·intro hv
    rcases h1.1 (.inr hv) with g | g
    ·subst g; have := ha'.1 v hv; rw [klt_irrefl] at this; cases this
    ·exact g
   ·intro hv
    rcases h1.2 (.inr hv) with g | g
    ·subst g; have := hb'.1 v hv; rw [klt_irrefl] at this; cases this
    ·exact g
theorem bs_spec {k : Nat} {S : HS} {s : Sl} {es : List Ky} {t : Ky} (hk : 2000 ≤ k) (hs : Srt es) (hle : es.length ≤ 1000) (hr : S.rows s 1 = some (es.map row1)) :
  ∃ p : Nat,slices_BinarySearch_string_string.f k s t S = some (((p : Int),decide (t ∈ es)),S) ∧ PosOf es t p := by
 have hsl : (s.len : Int) = es.length := by rw [← rows_len hr]; simp
 have hloop : ∀ (n i j : Nat),j - i < n → i ≤ j → j ≤ es.length → (∀ q (hq : q < es.length),q < i → klt es[q] t = true) → (∀ q (hq : q < es.length),j ≤ q → klt es[q] t = false) →
   ∃ p : Nat,slices_BinarySearch_string_string.L0 k n s t (es.length : Int) (i : Int) (j : Int) S = some (((p : Int),decide (t ∈ es)),S) ∧ PosOf es t p := by
  intro n
  induction n with
  | zero => intro i j h; omega
  | succ n ih =>
   intro i j hf hij hj hlo hhi
   rw [slices_BinarySearch_string_string.L0]
   by_cases hlt : i < j
   ·rw [if_pos (by omega),mid_eq (by omega)]
    have hm : (i + j) / 2 < es.length := by omega
    obtain ⟨ad,a1,a2⟩ := ldK_at hr hm
    rw [a1,Option.bind_some,a2,Option.bind_some,less_spec,Option.bind_some]
    cases hc : klt es[(i + j) / 2] t with
    | true =>
     rw [if_pos rfl,w64_id (by omega) (by omega),show ((((i + j) / 2 : Nat) : Int) + 1) = (((i + j) / 2 + 1 : Nat) : Int) by simp]
     exact ih ((i + j) / 2 + 1) j (by omega) (by omega) hj (fun q hq hqi => by
      rcases Nat.lt_or_ge q ((i + j) / 2) with h | h
      ·exact klt_trans (hs.lt hq hm h) hc
      ·obtain rfl : q = (i + j) / 2 := by omega
       exact hc) hhi
    | false =>
     rw [if_neg (by simp)]
     exact ih i ((i + j) / 2) (by omega) (by omega) (by omega) hlo (fun q hq hqi => by
      rcases Nat.lt_or_ge ((i + j) / 2) q with h | h
      ·cases h2 : klt es[q] t with
       | false => rfl
       | true => have := klt_trans (hs.lt hm hq h) h2; rw [hc] at this; cases this
      ·obtain rfl : q = (i + j) / 2 := by omega
       exact hc)
   ·obtain rfl : i = j := by omega
    rw [if_neg (by omega)]
    have hp : PosOf es t i := ⟨hj,hlo,hhi⟩
    refine ⟨i,?_,hp⟩
    by_cases hend : i < es.length
    ·obtain ⟨ad,a1,a2⟩ := ldK_at hr hend
     rw [if_pos (by omega),a1,Option.bind_some,a2,Option.bind_some]
     by_cases he : es[i] = t
     ·rw [if_pos he,slices_BinarySearch_string_string.J1,if_pos (by simpa using hend),slices_BinarySearch_string_string.J2,decide_eq_true (he ▸ List.getElem_mem hend)]
     ·have hno : t ∉ es := fun hm => by
       obtain ⟨_,h2⟩ := hp.here hs hm
       exact he h2
      rw [if_neg he,Option.bind_some,a2,Option.bind_some,show slices_isNaN_string.f es[i] = some false by simp [slices_isNaN_string.f],Option.bind_some,if_neg (by simp),slices_BinarySearch_string_string.J3,if_pos (by simpa using hend),if_neg (by simpa using he),slices_BinarySearch_string_string.J1,if_pos (by simpa using hend),slices_BinarySearch_string_string.J2,decide_eq_false hno]
    ·have hno : t ∉ es := fun hm => by
      obtain ⟨h1,_⟩ := hp.here hs hm
      exact hend h1
     rw [if_neg (by omega),slices_BinarySearch_string_string.J2,decide_eq_false hno]
 rw [slices_BinarySearch_string_string.f,hsl]
 exact hloop k 0 es.length (by omega) (Nat.zero_le _) (Nat.le_refl _) (fun q hq h => by omega) (fun q hq h => by omega)
structure SI (p : Nat) (s : Sl) (xs : List Ky) (S : HS) : Prop where
 cell : S.heap p = .cells 1 [[s.hv]] true
 ov : OV S 1 s (xs.map row1)
 ne : ∀ q,s.a = some q → q.1 ≠ p
 hi : p < S.next
 srt : Srt xs
 cnt : xs.length ≤ 1000
theorem SI.lt {p : Nat} {s : Sl} {xs : List Ky} {S : HS} (h : SI p s xs S) {id : Nat} (ho : Own p s id) : id < S.next := by
 rcases ho with rfl | ⟨q,h1,rfl⟩
 ·exact h.hi
 ·exact h.ov.lt h1
theorem SI.keep {p : Nat} {s : Sl} {xs : List Ky} {S S' : HS} (h : SI p s xs S) (he : ∀ id,Own p s id → S'.heap id = S.heap id) (hn : S.next ≤ S'.next) : SI p s xs S' :=
 ⟨(he p (.inl rfl)).trans h.cell,h.ov.keep (fun q hq => he q.1 (.inr ⟨q,hq,rfl⟩)) hn,h.ne,Nat.lt_of_lt_of_le h.hi hn,h.srt,h.cnt⟩
theorem SI.fr {p : Nat} {s : Sl} {xs : List Ky} {S S' : HS} (h : SI p s xs S) (hf : Fr S.next S S') : SI p s xs S' := h.keep (fun id ho => hf.eq id (h.lt ho)) hf.le
theorem SI.ld {p : Nat} {s : Sl} {xs : List Ky} {S : HS} (h : SI p s xs S) : S.ldSl (HA.fld (HA.cell0 p) 0) = some s := row_ldSl (cell_row h.cell) rfl rfl
theorem SI.slen {p : Nat} {s : Sl} {xs : List Ky} {S : HS} (h : SI p s xs S) : (s.len : Int) = xs.length := by rw [h.ov.len]; simp
theorem set_put {p : Nat} {s s' : Sl} {S : HS} (h : S.heap p = .cells 1 [[s.hv]] true) : S.sets (HA.fld (HA.cell0 p) 0) [s'.hv] = some (S.put p (.cells 1 [[s'.hv]] true)) := (sets_row h rfl (by simp)).trans rfl
theorem ins_spec {p : Nat} {s : Sl} {xs : List Ky} {S : HS} (h : SI p s xs S) {t : Ky} {i : Nat} (hp : PosOf xs t i) (hno : t ∉ xs) (hroom : xs.length < 1000) :
  ∃ s' S' S1,slices_Insert_string_string_w.f s (i : Int) (S.lit [[.str t]] 1).1 (S.lit [[.str t]] 1).2 = some (s',S1) ∧ S1.sets (HA.fld (HA.cell0 p) 0) [s'.hv] = some S' ∧ SI p s' (xs.take i ++ [t] ++ xs.drop i) S' ∧ Only p s s' S S' := by
 obtain ⟨s',S1,a1,a2,a3,a4,a5⟩ := ins_ov (row := row1 t) h.ov (i := i) (by simpa using hp.le) (by simp; omega)
 have hcell : S1.heap p = .cells 1 [[s.hv]] true := by rw [a4 p h.hi h.ne]; exact h.cell
 have hne' : ∀ q,s'.a = some q → q.1 ≠ p := fun q hq => by have := a5 q hq; have := h.hi; omega
 refine ⟨s',_,S1,a1,set_put hcell,⟨put_here _ _ _,?_,hne',Nat.lt_of_lt_of_le h.hi a3,ins_srt hp h.srt hno,by simp; omega⟩,⟨by rw [put_next]; exact a3,fun id g1 g2 => ?_,fun id ho => ?_⟩⟩
 ·have hm : (xs.take i ++ [t] ++ xs.drop i).map row1 = (xs.map row1).take i ++ [row1 t] ++ (xs.map row1).drop i := by simp only [List.map_append,List.map_take,List.map_drop,List.map_cons,List.map_nil]
  rw [hm]
  exact a2.keep (fun q hq => put_other _ (hne' q hq)) (Nat.le_refl _)
 ·rw [put_other _ (fun e => g2 (.inl e))]
  exact a4 id g1 (fun q hq e => g2 (.inr ⟨q,hq,e⟩))
 ·rcases ho with g | ⟨q,g1,g2⟩
  ·exact .inl (.inl g)
  ·right; rw [← g2]; exact a5 q g1
theorem del_spec {p : Nat} {s : Sl} {xs : List Ky} {S : HS} (h : SI p s xs S) {i : Nat} (hi : i < xs.length) :
  ∃ s' S' S1,slices_Delete_string_string_w.f s (i : Int) ((i + 1 : Nat) : Int) S = some (s',S1) ∧ S1.sets (HA.fld (HA.cell0 p) 0) [s'.hv] = some S' ∧ SI p s' (xs.eraseIdx i) S' ∧ Only p s s' S S' := by
 have hcnt := h.cnt
 obtain ⟨s',S1,a1,a2,a3,a4,a5⟩ := del_ov h.ov (i := i) (by simpa using hi) (by simp; omega)
 have hcell : S1.heap p = .cells 1 [[s.hv]] true := by rw [a4 p h.hi h.ne]; exact h.cell
 have hne' : ∀ q,s'.a = some q → q.1 ≠ p := fun q hq => by have := a5 q hq; have := h.hi; omega
 refine ⟨s',_,S1,a1,set_put hcell,⟨put_here _ _ _,?_,hne',Nat.lt_of_lt_of_le h.hi a3,erase_srt h.srt i,by rw [List.length_eraseIdx,if_pos hi]; omega⟩,⟨by rw [put_next]; exact a3,fun id g1 g2 => ?_,fun id ho => ?_⟩⟩
 ·rw [Go.ChangeMaps.map_eraseIdx]
  exact a2.keep (fun q hq => put_other _ (hne' q hq)) (Nat.le_refl _)
 ·rw [put_other _ (fun e => g2 (.inl e))]
  exact a4 id g1 (fun q hq e => g2 (.inr ⟨q,hq,e⟩))
 ·rcases ho with g | ⟨q,g1,g2⟩
  ·exact .inl (.inl g)
  ·right; rw [← g2]; exact a5 q g1
theorem add_spec {k p : Nat} {s sl : Sl} {xs ls : List Ky} {S : HS} (hk : 2000 ≤ k) (h : SI p s xs S) (hr : S.rows sl 1 = some (ls.map row1)) (hlt : ∀ q,sl.a = some q → q.1 < S.next ∧ ¬ Own p s q.1) (hc : xs.length + ls.length ≤ 1000) :
  ∃ s' xs' S',set_Set_string_Add.f k (some (HA.cell0 p)) sl S = some ((xs'.length : Int) - xs.length,S') ∧ SI p s' xs' S' ∧ Only p s s' S S' ∧ (∀ v,v ∈ xs' ↔ v ∈ xs ∨ v ∈ ls) ∧ xs.length ≤ xs'.length ∧ xs'.length ≤ xs.length + ls.length := by
 have hsl : (sl.len : Int) = ls.length := by rw [← rows_len hr]; simp
 have hloop : ∀ (f i : Nat) (T : HS) (s1 : Sl) (ys : List Ky),ls.length - i < f → i ≤ ls.length → SI p s1 ys T → Only p s s1 S T → (∀ v,v ∈ ys ↔ v ∈ xs ∨ v ∈ ls.take i) → xs.length ≤ ys.length → ys.length ≤ xs.length + i →
   ∃ s' xs' S',set_Set_string_Add.L0 k f (some (HA.cell0 p)) ((ys.length : Int) - xs.length) sl (ls.length : Int) (i : Int) T = some ((xs'.length : Int) - xs.length,S') ∧ SI p s' xs' S' ∧ Only p s s' S S' ∧ (∀ v,v ∈ xs' ↔ v ∈ xs ∨ v ∈ ls) ∧ xs.length ≤ xs'.length ∧ xs'.length ≤ xs.length + ls.length := by
  intro f
  induction f with
  | zero => intro i T s1 ys h; omega
  | succ f ih =>
   intro i T s1 ys hf hi hT hO hm hge hle
   have hrT : T.rows sl 1 = some (ls.map row1) := rows_keep hr fun q hq => hO.eq q.1 (hlt q hq).1 (hlt q hq).2
   rw [set_Set_string_Add.L0]
   by_cases hil : i < ls.length
   ·obtain ⟨ad,a1,a2⟩ := ldK_at hrT hil
    obtain ⟨j,b1,hp⟩ := bs_spec (t := ls[i]) hk hT.srt hT.cnt hT.ov.rows
    have hmem : ∀ v,(v ∈ ls.take (i + 1) ↔ v ∈ ls.take i ∨ v = ls[i]) := fun v => by rw [List.take_succ_eq_append_getElem hil,List.mem_append,List.mem_singleton]
    rw [if_pos (by omega),a1,Option.bind_some,a2,Option.bind_some,Option.bind_some,hT.ld,Option.bind_some,b1,Option.bind_some]
    simp only
    by_cases hin : ls[i] ∈ ys
    ·rw [decide_eq_true hin,if_neg (by simp),set_Set_string_Add.J1,w64_id (by omega) (by omega),show ((i : Int) + 1) = ((i + 1 : Nat) : Int) by simp]
     refine ih (i + 1) T s1 ys (by omega) (by omega) hT hO (fun v => ?_) hge (by omega)
     rw [hmem,← or_assoc,← hm]
     exact ⟨fun h => .inl h,fun h => h.elim id (fun e => e ▸ hin)⟩
    ·obtain ⟨s2,T2,T1,c1,c2,c3,c4⟩ := ins_spec hT hp hin (by omega)
     have hlen : (ys.take j ++ [ls[i]] ++ ys.drop j).length = ys.length + 1 := by
      have := hp.le
      simp only [List.length_append,List.length_take,List.length_drop,List.length_singleton]; omega
     rw [decide_eq_false hin,if_pos (by simp),Option.bind_some,hT.ld,Option.bind_some,letv,c1,Option.bind_some,Option.bind_some,c2,Option.bind_some,set_Set_string_Add.J1,w64_id (n := (i : Int) + 1) (by omega) (by omega),show ((i : Int) + 1) = ((i + 1 : Nat) : Int) by simp,w64_id (by omega) (by omega)]
     have e : (ys.length : Int) - xs.length + 1 = ((ys.take j ++ [ls[i]] ++ ys.drop j).length : Int) - xs.length := by rw [hlen]; omega
     rw [e]
     refine ih (i + 1) T2 s2 _ (by omega) (by omega) c3 (hO.trans c4) (fun v => ?_) (by omega) (by omega)
     rw [ins_mem,hmem,← or_assoc,← hm]
   ·obtain rfl : i = ls.length := by omega
    rw [if_neg (by omega)]
    rw [List.take_length] at hm
    exact ⟨s1,ys,T,rfl,hT,hO,hm,hge,hle⟩
 rw [set_Set_string_Add.f,if_neg (by simp),hsl]
 have := hloop k 0 S s xs (by omega) (Nat.zero_le _) h (Only.refl _ _ _) (fun v => by simp) (Nat.le_refl _) (by omega)
 rw [show ((xs.length : Int) - xs.length) = 0 by omega] at this
 exact this
theorem remove_spec {k p : Nat} {s sl : Sl} {xs ls : List Ky} {S : HS} (hk : 2000 ≤ k) (h : SI p s xs S) (hr : S.rows sl 1 = some (ls.map row1)) (hlt : ∀ q,sl.a = some q → q.1 < S.next ∧ ¬ Own p s q.1) (hc : ls.length ≤ 1000) :
  ∃ s' xs' S',set_Set_string_Remove.f k (some (HA.cell0 p)) sl S = some ((xs.length : Int) - xs'.length,S') ∧ SI p s' xs' S' ∧ Only p s s' S S' ∧ (∀ v,v ∈ xs' ↔ v ∈ xs ∧ v ∉ ls) ∧ xs'.length ≤ xs.length := by
 have hsl : (sl.len : Int) = ls.length := by rw [← rows_len hr]; simp
 have hcnt := h.cnt
 have hloop : ∀ (f i : Nat) (T : HS) (s1 : Sl) (ys : List Ky),ls.length - i < f → i ≤ ls.length → SI p s1 ys T → Only p s s1 S T → (∀ v,v ∈ ys ↔ v ∈ xs ∧ v ∉ ls.take i) → ys.length ≤ xs.length →
   ∃ s' xs' S',set_Set_string_Remove.L0 k f (some (HA.cell0 p)) ((xs.length : Int) - ys.length) sl (ls.length : Int) (i : Int) T = some ((xs.length : Int) - xs'.length,S') ∧ SI p s' xs' S' ∧ Only p s s' S S' ∧ (∀ v,v ∈ xs' ↔ v ∈ xs ∧ v ∉ ls) ∧ xs'.length ≤ xs.length := by
  intro f
  induction f with
  | zero => intro i T s1 ys h; omega
  | succ f ih =>
   intro i T s1 ys hf hi hT hO hm hle
   have hrT : T.rows sl 1 = some (ls.map row1) := rows_keep hr fun q hq => hO.eq q.1 (hlt q hq).1 (hlt q hq).2
   rw [set_Set_string_Remove.L0]
   by_cases hil : i < ls.length
   ·obtain ⟨ad,a1,a2⟩ := ldK_at hrT hil
    obtain ⟨j,b1,hp⟩ := bs_spec (t := ls[i]) hk hT.srt hT.cnt hT.ov.rows
    have hmem : ∀ v,(v ∉ ls.take (i + 1) ↔ v ∉ ls.take i ∧ v ≠ ls[i]) := fun v => by rw [List.take_succ_eq_append_getElem hil,List.mem_append,List.mem_singleton,not_or]
    rw [if_pos (by omega),a1,Option.bind_some,a2,Option.bind_some,Option.bind_some,hT.ld,Option.bind_some,b1,Option.bind_some]
    simp only
    by_cases hin : ls[i] ∈ ys
    ·obtain ⟨hj,he⟩ := hp.here hT.srt hin
     obtain ⟨s2,T2,T1,c1,c2,c3,c4⟩ := del_spec hT hj
     have hlen : (ys.eraseIdx j).length = ys.length - 1 := by rw [List.length_eraseIdx,if_pos hj]
     rw [decide_eq_true hin,if_pos rfl,Option.bind_some,hT.ld,Option.bind_some,w64_id (n := (j : Int) + 1) (by omega) (by omega),show ((j : Int) + 1) = ((j + 1 : Nat) : Int) by simp,c1,Option.bind_some,Option.bind_some,c2,Option.bind_some,set_Set_string_Remove.J1,w64_id (n := (i : Int) + 1) (by omega) (by omega),show ((i : Int) + 1) = ((i + 1 : Nat) : Int) by simp,w64_id (by omega) (by omega)]
     have e : (xs.length : Int) - ys.length + 1 = (xs.length : Int) - ((ys.eraseIdx j).length : Int) := by rw [hlen]; omega
     rw [e]
     refine ih (i + 1) T2 s2 _ (by omega) (by omega) c3 (hO.trans c4) (fun v => ?_) (by omega)
     rw [erase_mem hT.srt hj,hmem,← and_assoc,← hm,he]
    ·rw [decide_eq_false hin,if_neg (by simp),set_Set_string_Remove.J1,w64_id (by omega) (by omega),show ((i : Int) + 1) = ((i + 1 : Nat) : Int) by simp]
     refine ih (i + 1) T s1 ys (by omega) (by omega) hT hO (fun v => ?_) hle
     rw [hmem,← and_assoc,← hm]
     exact ⟨fun h => ⟨h,fun e => hin (e ▸ h)⟩,fun h => h.1⟩
   ·obtain rfl : i = ls.length := by omega
    rw [if_neg (by omega)]
    rw [List.take_length] at hm
    exact ⟨s1,ys,T,rfl,hT,hO,hm,hle⟩
 rw [set_Set_string_Remove.f,if_neg (by simp),hsl]
 have := hloop k 0 S s xs (by omega) (Nat.zero_le _) h (Only.refl _ _ _) (fun v => by simp) (Nat.le_refl _)
 rw [show ((xs.length : Int) - xs.length) = 0 by omega] at this
 exact this
theorem len_spec {p : Nat} {s : Sl} {xs : List Ky} {S : HS} (h : SI p s xs S) : set_Set_string_Len.f (some (HA.cell0 p)) S = some ((xs.length : Int),S) := by
 rw [set_Set_string_Len.f,if_neg (by simp),Option.bind_some,h.ld,Option.bind_some,h.slen]
theorem of_spec {k : Nat} {sl : Sl} {ls : List Ky} {S : HS} (hk : 2000 ≤ k) (hr : Rd S.next S 1 sl (ls.map row1)) (hc : ls.length ≤ 1000) :
  ∃ s' xs' S',set_Of_string.f k sl S = some (some (HA.cell0 S.next),S') ∧ SI S.next s' xs' S' ∧ Fr S.next S S' ∧ (∀ id,Own S.next s' id → S.next ≤ id) ∧ (∀ v,v ∈ xs' ↔ v ∈ ls) ∧ xs'.length ≤ ls.length := by
 have fn : Fr S.next S (S.new (.cells 1 [[Sl.nil.hv]] true)) := Fr.new (Nat.le_refl _) _
 have h0 : SI S.next Sl.nil [] (S.new (.cells 1 [[Sl.nil.hv]] true)) := ⟨new_here _ _,.inl ⟨rfl,rfl,rfl⟩,fun q hq => (by cases hq),Nat.lt_succ_self _,List.Pairwise.nil,by simp⟩
 have nn : (S.new (.cells 1 [[Sl.nil.hv]] true)).next = S.next + 1 := rfl
 obtain ⟨s',xs',S',e,g1,g2,g3,g4,g5⟩ := add_spec hk h0 (hr.frame fn (Nat.le_refl _)).rows (fun q hq => ⟨by have := hr.lt q hq; omega,fun ho => by
  rcases ho with g | ⟨q',g,_⟩
  ·have := hr.lt q hq; omega
  ·cases g⟩) (by simpa using hc)
 rw [set_Of_string.f,letv,e,Option.bind_some]
 refine ⟨s',xs',S',rfl,g1,⟨by have := g2.le; omega,fun id hid => ?_⟩,fun id ho => ?_,fun v => by rw [g3]; simp,by simpa using g5⟩
 ·rw [g2.eq id (by omega) (fun ho => by
   rcases ho with g | ⟨q',g,_⟩
   ·omega
   ·cases g)]
  exact fn.eq id hid
 ·rcases g2.own id ho with g | g
  ·rcases g with g | ⟨q',g,_⟩
   ·omega
   ·cases g
  ·omega
end KS
end Go.Proofs.YtcphapfclncggaaGreatDoor.X
namespace Go.Proofs.YtcphapfclncggaaGreatDoor.X
open Go.Proofs.YtcphapfclncggaaGreatDoor.HL
set_option linter.unusedVariables false
namespace KI
theorem list_spec {p : Nat} {s : Sl} {xs : List Ky} {S : HS} (h : SI p s xs S) : ∃ s' S',set_Set_int_List.f (some (HA.cell0 p)) S = some (s',S') ∧ S'.rows s' 1 = some (xs.map row1) ∧ (∀ q,s'.a = some q → S.next ≤ q.1 ∧ q.1 < S'.next) ∧ Fr S.next S S' := by
 rw [set_Set_int_List.f,if_neg (by simp),Option.bind_some,h.ld,Option.bind_some,slices_Clone_int_int.f]
 by_cases ha : s.a.isNone = true
 ·rw [if_pos ha,Option.bind_some]
  refine ⟨_,S,rfl,?_,fun q hq => (by cases hq),Fr.refl _ _⟩
  rw [h.ov.none (by simpa using ha)]; rfl
 ·have hcnt := h.cnt
  rw [if_neg ha,letv]
  have hl := Vec.lit (n := S.next) (z := 1) (S := S) [] (Nat.le_refl _)
  have hr' : (S.lit [] 1).2.rows s 1 = some (xs.map row1) := (h.ov.rd.frame (lit_fr [] (Nat.le_refl _)) (Nat.le_refl _)).rows
  obtain ⟨s',S1,e1,v1,f1⟩ := hl.app (new := xs.map row1) (Nat.le_succ _) (by simp; omega)
  rw [hr',Option.bind_some,e1,Option.bind_some,Option.bind_some]
  rw [List.nil_append] at v1
  exact ⟨s',S1,rfl,v1.rows,v1.lo,(lit_fr [] (Nat.le_refl _)).trans f1⟩
theorem values_tells {k n c : Nat} {B : HS} {s : Sl} {xs : List Ky} (hk : xs.length < k) (hx : xs.length ≤ 1000000) (hc : B.heap c = .cells 1 [[s.hv]] true) (hr : B.rows s 1 = some (xs.map row1)) (K : Nat → Prop) (hK : K c ∧ ∀ q,s.a = some q → K q.1) :
  Tells (disp k (n + 2)) (.fn (.func 99) [] [.ptr (some (HA.cell0 c))]) (xs.map row1) K B := by
 intro H l I Stop ht O S hI hB
 have hlen : (xs.map row1).length = xs.length := by simp
 have hcS : S.heap c = .cells 1 [[s.hv]] true := (hB c hK.1).1.trans hc
 have hrS : S.rows s 1 = some (xs.map row1) := rows_keep hr fun q hq => (hB q.1 (hK.2 q hq)).1
 have hloop : ∀ f i O1 T,xs.length - i < f → i ≤ xs.length → I i O1 T → S.next ≤ T.next → (∀ id,id < S.next → ¬ O id → T.heap id = S.heap id) → (∀ id,O1 id → O id ∨ S.next ≤ id) →
   ∃ S' O',slices_Values_int_int_1.L0 (disp k (n + 1)) H k f (.fn (.yield l) [] []) s (xs.length : Int) (i : Int) T = some ((),S') ∧ S.next ≤ S'.next ∧ (∀ id,id < S.next → ¬ O id → S'.heap id = S.heap id) ∧ (∀ id,O' id → O id ∨ S.next ≤ id) ∧ (I xs.length O' S' ∨ Stop O' S') := by
  intro f
  induction f with
  | zero => intro i O1 T h; omega
  | succ f ih =>
   intro i O1 T hf hi hIT hn hk2 hO
   rw [slices_Values_int_int_1.L0]
   by_cases hlt : i < xs.length
   ·have hrT : T.rows s 1 = some (xs.map row1) := rows_keep hrS fun q hq => hk2 q.1 (hB q.1 (hK.2 q hq)).2.2 (hB q.1 (hK.2 q hq)).2.1
    obtain ⟨ad,a1,a2⟩ := ldK_at hrT hlt
    obtain ⟨b,T2,O2,e2,n2,k2,o2,g1,g2⟩ := ht.step i (by omega) O1 T hIT
    have he : disp k (n + 1) H (.fn (.yield l) [] []) [.int .i64 xs[i]] T = some (.bool b,T2) := by
     rw [disp_yield,← e2,List.getElem_map]; rfl
    have hk3 : ∀ id,id < S.next → ¬ O id → T2.heap id = S.heap id := fun id h1 h2 => (k2 id (by omega) (fun ho => (hO id ho).elim h2 (fun h => by omega))).trans (hk2 id h1 h2)
    have hO3 : ∀ id,O2 id → O id ∨ S.next ≤ id := fun id h => (o2 id h).elim (hO id) (fun h => .inr (by omega))
    rw [if_pos (by omega),a1,Option.bind_some,a2,Option.bind_some,he,Option.bind_some]
    simp only [dB,Option.bind_some]
    cases b with
    | false => exact ⟨T2,O2,rfl,by omega,hk3,hO3,.inr (g2 rfl)⟩
    | true =>
     rw [if_neg (by simp),w64_id (by omega) (by omega),show ((i : Int) + 1) = ((i + 1 : Nat) : Int) by simp]
     exact ih (i + 1) O2 T2 (by omega) (by omega) (g1 rfl) (by omega) hk3 hO3
   ·obtain rfl : i = xs.length := by omega
    rw [if_neg (by omega)]
    exact ⟨T,O1,rfl,hn,hk2,hO,.inl hIT⟩
 obtain ⟨S',O',e,h1,h2,h3,h4⟩ := hloop k 0 O S (by omega) (Nat.zero_le _) hI (Nat.le_refl _) (fun _ _ _ => rfl) (fun _ h => .inl h)
 refine ⟨S',O',?_,h1,h2,h3,by rw [hlen]; exact h4⟩
 rw [disp_func]
 have hsl : (s.len : Int) = xs.length := by rw [← rows_len hrS]; simp
 have e' : call_99 (disp k (n + 1)) H k ([] ++ [HV.fn (.yield l) [] []] ++ [.ptr (some (HA.cell0 c))]) S = some (.tup [],S') := by
  rw [call_99]
  simp only [List.nil_append,List.cons_append,args2,Option.bind_some,dF,dP]
  rw [slices_Values_int_int_1.f,Option.bind_some,ldSl_cell hcS,Option.bind_some,hsl]
  erw [e]
  rfl
 repeat rw [if_neg (by decide)]
 rw [if_pos rfl,e']
theorem all_spec {p : Nat} {s : Sl} {xs : List Ky} {S : HS} (h : SI p s xs S) : ∃ c s' S',set_Set_int_All.f (some (HA.cell0 p)) S = some (.fn (.func 99) [] [.ptr (some (HA.cell0 c))],S') ∧ S'.heap c = .cells 1 [[s'.hv]] true ∧ S'.rows s' 1 = some (xs.map row1) ∧ (S.next ≤ c ∧ c < S'.next) ∧ (∀ q,s'.a = some q → S.next ≤ q.1 ∧ q.1 < S'.next) ∧ Fr S.next S S' := by
 obtain ⟨s',S1,e1,r1,q1,f1⟩ := list_spec h
 rw [set_Set_int_All.f,e1,Option.bind_some,slices_Values_int_int.f,letv,Option.bind_some]
 have hrd : Rd S1.next S1 1 s' (xs.map row1) := ⟨r1,fun q hq => (q1 q hq).2⟩
 exact ⟨S1.next,s',_,rfl,new_here _ _,(hrd.frame (Fr.new (Nat.le_refl _) _) (Nat.le_refl _)).rows,⟨f1.le,Nat.lt_succ_self _⟩,fun q hq => ⟨(q1 q hq).1,Nat.lt_succ_of_lt (q1 q hq).2⟩,f1.trans (Fr.new f1.le _)⟩
theorem app1_spec {n : Nat} {S : HS} {s : Sl} {xs : List Ky} (t : Ky) (h : Vec n S 1 s (xs.map row1)) (hn : n ≤ S.next) (hl : xs.length < 1000000) :
  ∃ s' S',HS.app (S.lit [[.int .i64 t]] 1).2 s [[.int .i64 t]] 1 = some (s',S') ∧ (S.lit [[.int .i64 t]] 1).2.rows (S.lit [[.int .i64 t]] 1).1 1 = some [[.int .i64 t]] ∧ Vec n S' 1 s' ((xs ++ [t]).map row1) ∧ Fr n S S' ∧ (∀ id,id < S.next → (∀ q,s.a = some q → q.1 ≠ id) → S'.heap id = S.heap id) ∧ (∀ q,s'.a = some q → S.next ≤ q.1 ∨ ∃ q0,s.a = some q0 ∧ q0.1 = q.1) := by
 have fl : Fr S.next S (S.lit [[.int .i64 t]] 1).2 := lit_fr _ (Nat.le_refl _)
 have nl : (S.lit [[.int .i64 t]] 1).2.next = S.next + 1 := rfl
 obtain ⟨s',S',e1,v1,f1,k1,q1⟩ := (h.frame fl (Nat.le_refl _)).app2 (new := [[.int .i64 t]]) (by omega) (by simp; omega)
 refine ⟨s',S',e1,(Vec.lit (n := 0) (z := 1) (S := S) _ (Nat.zero_le _)).rows,by rw [List.map_append]; exact v1,(fl.mono hn).trans f1,fun id h1 h2 => (k1 id (by omega) h2).trans (fl.eq id h1),fun q hq => ?_⟩
 rcases q1 q hq with g | g
 ·exact .inl (by omega)
 ·exact .inr g
end KI
end Go.Proofs.YtcphapfclncggaaGreatDoor.X
namespace Go.Proofs.YtcphapfclncggaaGreatDoor.X
open Go.Proofs.YtcphapfclncggaaGreatDoor.HL
set_option linter.unusedVariables false
namespace KS
theorem has_spec {k p : Nat} {s : Sl} {xs : List Ky} {S : HS} (hk : 2000 ≤ k) (h : SI p s xs S) (t : Ky) : set_Set_string_Has.f k (some (HA.cell0 p)) t S = some (decide (t ∈ xs),S) := by
 obtain ⟨j,b1,hp⟩ := bs_spec (t := t) hk h.srt h.cnt h.ov.rows
 rw [set_Set_string_Has.f,if_neg (by simp),Option.bind_some,h.ld,Option.bind_some,b1,Option.bind_some]
theorem list_spec {p : Nat} {s : Sl} {xs : List Ky} {S : HS} (h : SI p s xs S) : ∃ s' S',set_Set_string_List.f (some (HA.cell0 p)) S = some (s',S') ∧ S'.rows s' 1 = some (xs.map row1) ∧ (∀ q,s'.a = some q → S.next ≤ q.1 ∧ q.1 < S'.next) ∧ Fr S.next S S' := by
 rw [set_Set_string_List.f,if_neg (by simp),Option.bind_some,h.ld,Option.bind_some,slices_Clone_string_string.f]
 by_cases ha : s.a.isNone = true
 ·rw [if_pos ha,Option.bind_some]
  refine ⟨_,S,rfl,?_,fun q hq => (by cases hq),Fr.refl _ _⟩
  rw [h.ov.none (by simpa using ha)]; rfl
 ·have hcnt := h.cnt
  rw [if_neg ha,letv]
  have hl := Vec.lit (n := S.next) (z := 1) (S := S) [] (Nat.le_refl _)
  have hr' : (S.lit [] 1).2.rows s 1 = some (xs.map row1) := (h.ov.rd.frame (lit_fr [] (Nat.le_refl _)) (Nat.le_refl _)).rows
  obtain ⟨s',S1,e1,v1,f1⟩ := hl.app (new := xs.map row1) (Nat.le_succ _) (by simp; omega)
  rw [hr',Option.bind_some,e1,Option.bind_some,Option.bind_some]
  rw [List.nil_append] at v1
  exact ⟨s',S1,rfl,v1.rows,v1.lo,(lit_fr [] (Nat.le_refl _)).trans f1⟩
theorem values_tells {k n c : Nat} {B : HS} {s : Sl} {xs : List Ky} (hk : xs.length < k) (hx : xs.length ≤ 1000000) (hc : B.heap c = .cells 1 [[s.hv]] true) (hr : B.rows s 1 = some (xs.map row1)) (K : Nat → Prop) (hK : K c ∧ ∀ q,s.a = some q → K q.1) :
  Tells (disp k (n + 2)) (.fn (.func 93) [] [.ptr (some (HA.cell0 c))]) (xs.map row1) K B := by
 intro H l I Stop ht O S hI hB
 have hlen : (xs.map row1).length = xs.length := by simp
 have hcS : S.heap c = .cells 1 [[s.hv]] true := (hB c hK.1).1.trans hc
 have hrS : S.rows s 1 = some (xs.map row1) := rows_keep hr fun q hq => (hB q.1 (hK.2 q hq)).1
 have hloop : ∀ f i O1 T,xs.length - i < f → i ≤ xs.length → I i O1 T → S.next ≤ T.next → (∀ id,id < S.next → ¬ O id → T.heap id = S.heap id) → (∀ id,O1 id → O id ∨ S.next ≤ id) →
   ∃ S' O',slices_Values_string_string_1.L0 (disp k (n + 1)) H k f (.fn (.yield l) [] []) s (xs.length : Int) (i : Int) T = some ((),S') ∧ S.next ≤ S'.next ∧ (∀ id,id < S.next → ¬ O id → S'.heap id = S.heap id) ∧ (∀ id,O' id → O id ∨ S.next ≤ id) ∧ (I xs.length O' S' ∨ Stop O' S') := by
  intro f
  induction f with
  | zero => intro i O1 T h; omega
  | succ f ih =>
   intro i O1 T hf hi hIT hn hk2 hO
   rw [slices_Values_string_string_1.L0]
   by_cases hlt : i < xs.length
   ·have hrT : T.rows s 1 = some (xs.map row1) := rows_keep hrS fun q hq => hk2 q.1 (hB q.1 (hK.2 q hq)).2.2 (hB q.1 (hK.2 q hq)).2.1
    obtain ⟨ad,a1,a2⟩ := ldK_at hrT hlt
    obtain ⟨b,T2,O2,e2,n2,k2,o2,g1,g2⟩ := ht.step i (by omega) O1 T hIT
    have he : disp k (n + 1) H (.fn (.yield l) [] []) [.str xs[i]] T = some (.bool b,T2) := by
     rw [disp_yield,← e2,List.getElem_map]; rfl
    have hk3 : ∀ id,id < S.next → ¬ O id → T2.heap id = S.heap id := fun id h1 h2 => (k2 id (by omega) (fun ho => (hO id ho).elim h2 (fun h => by omega))).trans (hk2 id h1 h2)
    have hO3 : ∀ id,O2 id → O id ∨ S.next ≤ id := fun id h => (o2 id h).elim (hO id) (fun h => .inr (by omega))
    rw [if_pos (by omega),a1,Option.bind_some,a2,Option.bind_some,he,Option.bind_some]
    simp only [dB,Option.bind_some]
    cases b with
    | false => exact ⟨T2,O2,rfl,by omega,hk3,hO3,.inr (g2 rfl)⟩
    | true =>
     rw [if_neg (by simp),w64_id (by omega) (by omega),show ((i : Int) + 1) = ((i + 1 : Nat) : Int) by simp]
     exact ih (i + 1) O2 T2 (by omega) (by omega) (g1 rfl) (by omega) hk3 hO3
   ·obtain rfl : i = xs.length := by omega
    rw [if_neg (by omega)]
    exact ⟨T,O1,rfl,hn,hk2,hO,.inl hIT⟩
 obtain ⟨S',O',e,h1,h2,h3,h4⟩ := hloop k 0 O S (by omega) (Nat.zero_le _) hI (Nat.le_refl _) (fun _ _ _ => rfl) (fun _ h => .inl h)
 refine ⟨S',O',?_,h1,h2,h3,by rw [hlen]; exact h4⟩
 rw [disp_func]
 have hsl : (s.len : Int) = xs.length := by rw [← rows_len hrS]; simp
 have e' : call_93 (disp k (n + 1)) H k ([] ++ [HV.fn (.yield l) [] []] ++ [.ptr (some (HA.cell0 c))]) S = some (.tup [],S') := by
  rw [call_93]
  simp only [List.nil_append,List.cons_append,args2,Option.bind_some,dF,dP]
  rw [slices_Values_string_string_1.f,Option.bind_some,ldSl_cell hcS,Option.bind_some,hsl]
  erw [e]
  rfl
 repeat rw [if_neg (by decide)]
 rw [if_pos rfl,e']
theorem all_spec {p : Nat} {s : Sl} {xs : List Ky} {S : HS} (h : SI p s xs S) : ∃ c s' S',set_Set_string_All.f (some (HA.cell0 p)) S = some (.fn (.func 93) [] [.ptr (some (HA.cell0 c))],S') ∧ S'.heap c = .cells 1 [[s'.hv]] true ∧ S'.rows s' 1 = some (xs.map row1) ∧ (S.next ≤ c ∧ c < S'.next) ∧ (∀ q,s'.a = some q → S.next ≤ q.1 ∧ q.1 < S'.next) ∧ Fr S.next S S' := by
 obtain ⟨s',S1,e1,r1,q1,f1⟩ := list_spec h
 rw [set_Set_string_All.f,e1,Option.bind_some,slices_Values_string_string.f,letv,Option.bind_some]
 have hrd : Rd S1.next S1 1 s' (xs.map row1) := ⟨r1,fun q hq => (q1 q hq).2⟩
 exact ⟨S1.next,s',_,rfl,new_here _ _,(hrd.frame (Fr.new (Nat.le_refl _) _) (Nat.le_refl _)).rows,⟨f1.le,Nat.lt_succ_self _⟩,fun q hq => ⟨(q1 q hq).1,Nat.lt_succ_of_lt (q1 q hq).2⟩,f1.trans (Fr.new f1.le _)⟩
theorem app1_spec {n : Nat} {S : HS} {s : Sl} {xs : List Ky} (t : Ky) (h : Vec n S 1 s (xs.map row1)) (hn : n ≤ S.next) (hl : xs.length < 1000000) :
  ∃ s' S',HS.app (S.lit [[.str t]] 1).2 s [[.str t]] 1 = some (s',S') ∧ (S.lit [[.str t]] 1).2.rows (S.lit [[.str t]] 1).1 1 = some [[.str t]] ∧ Vec n S' 1 s' ((xs ++ [t]).map row1) ∧ Fr n S S' ∧ (∀ id,id < S.next → (∀ q,s.a = some q → q.1 ≠ id) → S'.heap id = S.heap id) ∧ (∀ q,s'.a = some q → S.next ≤ q.1 ∨ ∃ q0,s.a = some q0 ∧ q0.1 = q.1) := by
 have fl : Fr S.next S (S.lit [[.str t]] 1).2 := lit_fr _ (Nat.le_refl _)
 have nl : (S.lit [[.str t]] 1).2.next = S.next + 1 := rfl
 obtain ⟨s',S',e1,v1,f1,k1,q1⟩ := (h.frame fl (Nat.le_refl _)).app2 (new := [[.str t]]) (by omega) (by simp; omega)
 refine ⟨s',S',e1,(Vec.lit (n := 0) (z := 1) (S := S) _ (Nat.zero_le _)).rows,by rw [List.map_append]; exact v1,(fl.mono hn).trans f1,fun id h1 h2 => (k1 id (by omega) h2).trans (fl.eq id h1),fun q hq => ?_⟩
 rcases q1 q hq with g | g
 ·exact .inl (by omega)
 ·exact .inr g
end KS
end Go.Proofs.YtcphapfclncggaaGreatDoor.X
namespace Go.Proofs.YtcphapfclncggaaGreatDoor.X
open Go.Proofs.YtcphapfclncggaaGreatDoor.HL
set_option linter.unusedVariables false
namespace MA
abbrev Kk := KI.Ky
abbrev Vv := KS.Ky
structure En where
 key : Kk
 p : Nat
 s : Sl
 xs : List Vv
def ent (e : En) : HV × HV := (KI.kv e.key,.ptr (some (HA.cell0 e.p)))
theorem kSame_kv (a b : Kk) : kSame (KI.kv a) (KI.kv b) = some (a == b) := by simp [kSame,kSame1,KI.kv]
theorem mf_none {k : Kk} : ∀ {E : List En} (i : Nat),(∀ e ∈ E,e.key ≠ k) → mfind (KI.kv k) (E.map ent) i = some none := by
 intro E
 induction E with
 | nil => intro i _; rfl
 | cons e E ih =>
  intro i h
  rw [List.map_cons,mfind.eq_def]
  simp only [ent,kSame_kv,show (k == e.key) = false from beq_eq_false_iff_ne.2 (fun g => h e (by simp) g.symm)]
  exact ih (i + 1) fun x hx => h x (by simp [hx])
theorem mf_at {k : Kk} {e : En} {B : List En} (hk : e.key = k) : ∀ {A : List En} (i : Nat),(∀ a ∈ A,a.key ≠ k) → mfind (KI.kv k) ((A ++ e :: B).map ent) i = some (some (i + A.length,.ptr (some (HA.cell0 e.p)))) := by
 intro A
 induction A with
 | nil =>
  intro i _
  rw [List.nil_append,List.map_cons,mfind.eq_def]
  simp only [ent,kSame_kv,hk,beq_self_eq_true]
  rfl
 | cons a A ih =>
  intro i h
  rw [List.cons_append,List.map_cons,mfind.eq_def]
  simp only [ent,kSame_kv,show (k == a.key) = false from beq_eq_false_iff_ne.2 (fun g => h a (by simp) g.symm)]
  rw [ih (i + 1) fun x hx => h x (by simp [hx])]
  simp; omega
structure MS (m : Nat) (E : List En) (S : HS) : Prop where
 mp : S.heap m = .map (E.map ent)
 nd : E.Pairwise fun a b => a.key ≠ b.key
 si : ∀ e ∈ E,KS.SI e.p e.s e.xs S
 dis : E.Pairwise fun a b => ∀ id,Own a.p a.s id → ¬ Own b.p b.s id
 nm : ∀ e ∈ E,¬ Own e.p e.s m
 lt : m < S.next
def OM (m : Nat) (E : List En) (id : Nat) : Prop := id = m ∨ ∃ e ∈ E,Own e.p e.s id
def mem (E : List En) (k : Kk) (v : Vv) : Prop := ∃ e ∈ E,e.key = k ∧ v ∈ e.xs
theorem MS.ltO {m : Nat} {E : List En} {S : HS} (h : MS m E S) {id : Nat} (ho : OM m E id) : id < S.next := by
 rcases ho with rfl | ⟨e,he,ho⟩
 ·exact h.lt
 ·exact (h.si e he).lt ho
theorem MS.keep {m : Nat} {E : List En} {S S' : HS} (h : MS m E S) (hk : ∀ id,OM m E id → S'.heap id = S.heap id) (hn : S.next ≤ S'.next) : MS m E S' :=
 ⟨(hk m (.inl rfl)).trans h.mp,h.nd,fun e he => (h.si e he).keep (fun id ho => hk id (.inr ⟨e,he,ho⟩)) hn,h.dis,h.nm,Nat.lt_of_lt_of_le h.lt hn⟩
theorem MS.fr {m : Nat} {E : List En} {S S' : HS} (h : MS m E S) (hf : Fr S.next S S') : MS m E S' := h.keep (fun id ho => hf.eq id (h.ltO ho)) hf.le
theorem split_at {E : List En} {k : Kk} (hn : E.Pairwise fun a b => a.key ≠ b.key) {e : En} (he : e ∈ E) (hk : e.key = k) : ∃ A B,E = A ++ e :: B ∧ ∀ a ∈ A,a.key ≠ k := by
 obtain ⟨A,B,rfl⟩ := List.append_of_mem he
 refine ⟨A,B,rfl,fun a ha => ?_⟩
 rw [List.pairwise_append] at hn
 have := hn.2.2 a ha e (by simp)
 rw [← hk]; exact this
theorem get_spec {m : Nat} {E : List En} {S : HS} (h : MS m E S) (k : Kk) : (S.look (some m) (KI.kv k) = some none ∧ ∀ e ∈ E,e.key ≠ k) ∨ ∃ A e B,E = A ++ e :: B ∧ e.key = k ∧ (∀ a ∈ A,a.key ≠ k) ∧ S.look (some m) (KI.kv k) = some (some (.ptr (some (HA.cell0 e.p)))) := by
 by_cases hx : ∃ e ∈ E,e.key = k
 ·obtain ⟨e,he,hk⟩ := hx
  obtain ⟨A,B,rfl,hA⟩ := split_at h.nd he hk
  refine .inr ⟨A,e,B,rfl,hk,hA,?_⟩
  rw [HS.look,HS.mp,h.mp,Option.bind_some,mf_at hk 0 hA]; rfl
 ·refine .inl ⟨?_,fun e he g => hx ⟨e,he,g⟩⟩
  rw [HS.look,HS.mp,h.mp,Option.bind_some,mf_none 0 fun e he g => hx ⟨e,he,g⟩]; rfl
theorem MS.upd {m : Nat} {A B : List En} {e : En} {s' : Sl} {xs' : List Vv} {S S' : HS} (h : MS m (A ++ e :: B) S) (hs : KS.SI e.p s' xs' S') (ho : Only e.p e.s s' S S') :
  MS m (A ++ ⟨e.key,e.p,s',xs'⟩ :: B) S' ∧ Chg (OM m (A ++ e :: B)) (OM m (A ++ ⟨e.key,e.p,s',xs'⟩ :: B)) S S' := by
 have hle := ho.le
 have hd := h.dis
 rw [List.pairwise_append,List.pairwise_cons] at hd
 have hn := h.nd
 rw [List.pairwise_append,List.pairwise_cons] at hn
 have hso : ∀ id,Own e.p s' id → Own e.p e.s id ∨ S.next ≤ id := ho.own
 have hoth : ∀ a,a ∈ A ∨ a ∈ B → a ∈ A ++ e :: B ∧ ∀ id,Own a.p a.s id → ¬ Own e.p e.s id := fun a ha => by
  rcases ha with g | g
  ·exact ⟨by simp [g],fun id h1 h2 => hd.2.2 a g e (by simp) id h1 h2⟩
  ·exact ⟨by simp [g],fun id h1 h2 => hd.2.1.1 a g id h2 h1⟩
 have hnew : ∀ a,a ∈ A ∨ a ∈ B → ∀ id,Own a.p a.s id → ¬ Own e.p s' id := fun a ha id h1 h2 => by
  rcases hso id h2 with g | g
  ·exact (hoth a ha).2 id h1 g
  ·have := (h.si a (hoth a ha).1).lt h1; omega
 refine ⟨⟨?_,?_,fun x hx => ?_,?_,fun x hx => ?_,by have := h.lt; omega⟩,⟨hle,fun id h1 h2 => ho.eq id h1 fun g => h2 (.inr ⟨e,by simp,g⟩),fun id hid => ?_⟩⟩
 ·rw [ho.eq m h.lt (h.nm e (by simp)),h.mp]
  simp [ent]
 ·rw [List.pairwise_append,List.pairwise_cons]
  refine ⟨hn.1,⟨hn.2.1.1,hn.2.1.2⟩,fun a ha b hb => ?_⟩
  rcases List.mem_cons.1 hb with rfl | hb
  ·exact hn.2.2 a ha e (by simp)
  ·exact hn.2.2 a ha b (by simp [hb])
 ·rcases List.mem_append.1 hx with g | g
  ·exact (h.si x (by simp [g])).keep (fun id h1 => ho.eq id ((h.si x (by simp [g])).lt h1) ((hoth x (.inl g)).2 id h1)) hle
  ·rcases List.mem_cons.1 g with rfl | g
   ·exact hs
   ·exact (h.si x (by simp [g])).keep (fun id h1 => ho.eq id ((h.si x (by simp [g])).lt h1) ((hoth x (.inr g)).2 id h1)) hle
 ·rw [List.pairwise_append,List.pairwise_cons]
  refine ⟨hd.1,⟨fun b hb id h1 h2 => hnew b (.inr hb) id h2 h1,hd.2.1.2⟩,fun a ha b hb => ?_⟩
  rcases List.mem_cons.1 hb with rfl | hb
  ·exact hnew a (.inl ha)
  ·exact hd.2.2 a ha b (by simp [hb])
 ·rcases List.mem_append.1 hx with g | g
  ·exact h.nm x (by simp [g])
  ·rcases List.mem_cons.1 g with rfl | g
   ·intro g'
    rcases hso m g' with g2 | g2
    ·exact h.nm e (by simp) g2
    ·have := h.lt; omega
   ·exact h.nm x (by simp [g])
 ·rcases hid with rfl | ⟨x,hx,g⟩
  ·exact .inl (.inl rfl)
  ·rcases List.mem_append.1 hx with g' | g'
   ·exact .inl (.inr ⟨x,by simp [g'],g⟩)
   ·rcases List.mem_cons.1 g' with rfl | g'
    ·exact (hso id g).imp (fun q => .inr ⟨e,by simp,q⟩) id_
    ·exact .inl (.inr ⟨x,by simp [g'],g⟩)
where id_ {p : Prop} (h : p) : p := h
theorem j0_spec {k m : Nat} {A B : List En} {e : En} {v : Vv} {S : HS} (hk : 2000 ≤ k) (h : MS m (A ++ e :: B) S) (hA : ∀ a ∈ A,a.key ≠ e.key) (hc : e.xs.length < 1000) :
  ∃ s' xs' S',pair_put_int_string.J0 k (some m) e.key v S = some ((),S') ∧ MS m (A ++ ⟨e.key,e.p,s',xs'⟩ :: B) S' ∧ Chg (OM m (A ++ e :: B)) (OM m (A ++ ⟨e.key,e.p,s',xs'⟩ :: B)) S S' ∧ (∀ u,u ∈ xs' ↔ u ∈ e.xs ∨ u = v) ∧ xs'.length ≤ e.xs.length + 1 := by
 have he := h.si e (by simp)
 have hlk : S.look (some m) (KI.kv e.key) = some (some (.ptr (some (HA.cell0 e.p)))) := by
  rw [HS.look,HS.mp,h.mp,Option.bind_some,mf_at rfl 0 hA]; rfl
 have fl : Fr S.next S (S.lit [[.str v]] 1).2 := lit_fr _ (Nat.le_refl _)
 have nl : (S.lit [[.str v]] 1).2.next = S.next + 1 := rfl
 have rl : (S.lit [[.str v]] 1).2.rows (S.lit [[.str v]] 1).1 1 = some ([v].map KS.row1) := (Vec.lit (n := 0) (z := 1) (S := S) _ (Nat.zero_le _)).rows
 have ql : ∀ q,(S.lit [[.str v]] 1).1.a = some q → q.1 = S.next := fun q hq => by cases hq; rfl
 rw [pair_put_int_string.J0]
 erw [hlk]
 rw [Option.bind_some,show dP ((some (HV.ptr (some (HA.cell0 e.p)))).getD (.ptr none)) = some (some (HA.cell0 e.p)) from rfl,Option.bind_some,letv]
 generalize S.lit [[.str v]] 1 = P at fl nl rl ql ⊢
 obtain ⟨sl,S1⟩ := P
 simp only at fl nl rl ql ⊢
 have h1 := h.fr fl
 have he1 := he.fr fl
 obtain ⟨s',xs',S2,e2,i2,o2,m2,c2,c2'⟩ := KS.add_spec hk he1 rl (fun q hq => by
  have := ql q hq
  exact ⟨by omega,fun g => by have := he.lt g; omega⟩) (by simp; omega)
 obtain ⟨g1,g2⟩ := h1.upd i2 o2
 rw [e2,Option.bind_some]
 exact ⟨s',xs',S2,rfl,g1,(Chg.of_fr fl).trans g2,fun u => by rw [m2]; simp,by simpa using c2'⟩
theorem put_spec {k m n : Nat} {E : List En} {key : Kk} {v : Vv} {S : HS} (hk : 2000 ≤ k) (h : MS m E S) (hne : ∀ e ∈ E,e.xs ≠ []) (hc : ∀ e ∈ E,e.xs.length ≤ n) (hn : n < 1000) :
  ∃ E' S',pair_put_int_string.f k (some m) key v S = some ((),S') ∧ MS m E' S' ∧ Chg (OM m E) (OM m E') S S' ∧ (∀ k' v',mem E' k' v' ↔ mem E k' v' ∨ (k' = key ∧ v' = v)) ∧ (∀ e ∈ E',e.xs ≠ []) ∧ (∀ e ∈ E',e.xs.length ≤ n + 1) := by
 have hmem : ∀ (A B : List En) (e : En) (s' : Sl) (xs' : List Vv),e.key = key → (∀ u,u ∈ xs' ↔ u ∈ e.xs ∨ u = v) → ∀ k' v',mem (A ++ ⟨e.key,e.p,s',xs'⟩ :: B) k' v' ↔ mem (A ++ e :: B) k' v' ∨ (k' = key ∧ v' = v) := by
  intro A B e s' xs' hke hx k' v'
  constructor
  ·rintro ⟨x,hx1,hx2,hx3⟩
   rcases List.mem_append.1 hx1 with g | g
   ·exact .inl ⟨x,by simp [g],hx2,hx3⟩
   ·rcases List.mem_cons.1 g with rfl | g
    ·rcases (hx v').1 hx3 with g2 | g2
     ·exact .inl ⟨e,by simp,hx2,g2⟩
     ·exact .inr ⟨by rw [← hx2]; exact hke,g2⟩
    ·exact .inl ⟨x,by simp [g],hx2,hx3⟩
  ·rintro (⟨x,hx1,hx2,hx3⟩ | ⟨rfl,rfl⟩)
   ·rcases List.mem_append.1 hx1 with g | g
    ·exact ⟨x,by simp [g],hx2,hx3⟩
    ·rcases List.mem_cons.1 g with rfl | g
     ·exact ⟨⟨x.key,x.p,s',xs'⟩,by simp,hx2,(hx v').2 (.inl hx3)⟩
     ·exact ⟨x,by simp [g],hx2,hx3⟩
   ·exact ⟨⟨e.key,e.p,s',xs'⟩,by simp,hke,(hx _).2 (.inr rfl)⟩
 rw [pair_put_int_string.f]
 rcases get_spec h key with ⟨e1,hno⟩ | ⟨A,e,B,rfl,hke,hA,e1⟩
 ·obtain ⟨s,xs,S1,e2,i2,f2,o2,m2,c2⟩ := KS.of_spec (k := k) (sl := Sl.nil) (ls := []) (S := S) hk ⟨rfl,fun q hq => by cases hq⟩ (by simp)
  have hx : xs = [] := by simpa using c2
  subst hx
  have h1 := h.fr f2
  have le2 := f2.le
  have hput : S1.mput (some m) (KI.kv key) (.ptr (some (HA.cell0 S.next))) = some (S1.put m (.map ((E ++ [(⟨key,S.next,s,[]⟩ : En)]).map ent))) := by
   simp only [HS.mput,h1.mp]
   rw [mf_none 0 hno]
   simp [ent]
  erw [e1]
  rw [Option.bind_some,show dP ((none : Option HV).getD (.ptr none)) = some none from rfl,Option.bind_some,if_pos (by rfl),e2,Option.bind_some]
  erw [hput]
  rw [Option.bind_some]
  have hmO : ∀ id,Own S.next s id → id ≠ m := fun id g => by have := o2 id g; have := h.lt; omega
  have h2 : MS m (E ++ (⟨key,S.next,s,[]⟩ : En) :: []) (S1.put m (.map ((E ++ [(⟨key,S.next,s,[]⟩ : En)]).map ent))) := by
   refine ⟨put_here _ _ _,?_,fun x hx => ?_,?_,fun x hx => ?_,by rw [put_next]; have := h.lt; omega⟩
   ·rw [List.pairwise_append]
    exact ⟨h.nd,List.pairwise_singleton _ _,fun a ha b hb => by simp at hb; subst hb; exact hno a ha⟩
   ·rcases List.mem_append.1 hx with g | g
    ·exact (h1.si x g).keep (fun id ho => put_other _ (fun q => by subst q; exact h1.nm x g ho)) (Nat.le_refl _)
    ·simp at g; subst g; exact i2.keep (fun id ho => put_other _ (hmO id ho)) (Nat.le_refl _)
   ·rw [List.pairwise_append]
    refine ⟨h.dis,List.pairwise_singleton _ _,fun a ha b hb id g1 g2 => ?_⟩
    simp at hb; subst hb
    have := (h.si a ha).lt g1
    have := o2 id g2
    omega
   ·rcases List.mem_append.1 hx with g | g
    ·exact h.nm x g
    ·simp at g; subst g; exact fun ho => hmO m ho rfl
  have hch : Chg (OM m E) (OM m (E ++ (⟨key,S.next,s,[]⟩ : En) :: [])) S (S1.put m (.map ((E ++ [(⟨key,S.next,s,[]⟩ : En)]).map ent))) := by
   refine ⟨by rw [put_next]; omega,fun id g1 g2 => by rw [put_other _ (fun q => g2 (.inl q))]; exact f2.eq id g1,fun id ho => ?_⟩
   rcases ho with g | ⟨x,hx,g⟩
   ·exact .inl (.inl g)
   ·rcases List.mem_append.1 hx with g' | g'
    ·exact .inl (.inr ⟨x,g',g⟩)
    ·simp at g'; subst g'; exact .inr (o2 id g)
  obtain ⟨s',xs',S3,e3,g1,g2,g3,g4⟩ := j0_spec (v := v) hk h2 hno (by simp)
  refine ⟨_,S3,e3,g1,hch.trans g2,fun k' v' => ?_,fun x hx => ?_,fun x hx => ?_⟩
  ·rw [hmem E [] ⟨key,S.next,s,[]⟩ s' xs' rfl g3]
   have : mem (E ++ (⟨key,S.next,s,[]⟩ : En) :: []) k' v' ↔ mem E k' v' := by
    constructor
    ·rintro ⟨x,hx,q1,q2⟩
     rcases List.mem_append.1 hx with g | g
     ·exact ⟨x,g,q1,q2⟩
     ·simp at g; subst g; cases q2
    ·rintro ⟨x,hx,q1,q2⟩; exact ⟨x,by simp [hx],q1,q2⟩
   rw [this]
  ·rcases List.mem_append.1 hx with g | g
   ·exact hne x g
   ·simp at g; subst g
    intro q
    have := (g3 v).2 (.inr rfl)
    simp only at q
    rw [q] at this; cases this
  ·rcases List.mem_append.1 hx with g | g
   ·have := hc x g; omega
   ·simp at g; subst g; simp at g4; simp; omega
 ·subst hke
  obtain ⟨s',xs',S3,e3,g1,g2,g3,g4⟩ := j0_spec (v := v) hk h hA (by have := hc e (by simp); omega)
  erw [e1]
  rw [Option.bind_some,show dP ((some (HV.ptr (some (HA.cell0 e.p)))).getD (.ptr none)) = some (some (HA.cell0 e.p)) from rfl,Option.bind_some,if_neg (by simp),e3]
  refine ⟨_,S3,rfl,g1,g2,fun k' v' => hmem A B e s' xs' rfl g3 k' v',fun x hx => ?_,fun x hx => ?_⟩
  ·rcases List.mem_append.1 hx with g | g
   ·exact hne x (by simp [g])
   ·rcases List.mem_cons.1 g with rfl | g
    ·intro q
     have := (g3 v).2 (.inr rfl)
     simp only at q
     rw [q] at this; cases this
    ·exact hne x (by simp [g])
  ·rcases List.mem_append.1 hx with g | g
   ·have := hc x (by simp [g]); omega
   ·rcases List.mem_cons.1 g with rfl | g
    ·have := hc e (by simp); simp only; omega
    ·have := hc x (by simp [g]); omega
theorem MS.del {m : Nat} {A B : List En} {e : En} {S : HS} (h : MS m (A ++ e :: B) S) (hA : ∀ a ∈ A,a.key ≠ e.key) :
  ∃ S',S.mdel (some m) (KI.kv e.key) = some S' ∧ MS m (A ++ B) S' ∧ Chg (OM m (A ++ e :: B)) (OM m (A ++ B)) S S' := by
 have hd := h.dis
 rw [List.pairwise_append,List.pairwise_cons] at hd
 have hn := h.nd
 rw [List.pairwise_append,List.pairwise_cons] at hn
 have hsub : ∀ x,x ∈ A ++ B → x ∈ A ++ e :: B := fun x hx => by
  rcases List.mem_append.1 hx with g | g <;> simp [g]
 refine ⟨S.put m (.map ((A ++ B).map ent)),?_,⟨put_here _ _ _,?_,fun x hx => (h.si x (hsub x hx)).keep (fun id ho => put_other _ (fun q => by subst q; exact h.nm x (hsub x hx) ho)) (Nat.le_refl _),?_,fun x hx => h.nm x (hsub x hx),h.lt⟩,⟨Nat.le_refl _,fun id _ g2 => put_other _ (fun q => g2 (.inl q)),fun id ho => .inl ?_⟩⟩
 ·simp only [HS.mdel,h.mp]
  rw [mf_at rfl 0 hA]
  simp only [Option.map_some,Nat.zero_add]
  congr 3
  rw [List.map_append,List.eraseIdx_append_of_length_le (by simp)]
  simp
 ·rw [List.pairwise_append]; exact ⟨hn.1,hn.2.1.2,fun a ha b hb => hn.2.2 a ha b (by simp [hb])⟩
 ·rw [List.pairwise_append]; exact ⟨hd.1,hd.2.1.2,fun a ha b hb => hd.2.2 a ha b (by simp [hb])⟩
 ·rcases ho with g | ⟨x,hx,g⟩
  ·exact .inl g
  ·exact .inr ⟨x,hsub x hx,g⟩
theorem take_spec {k m n : Nat} {E : List En} {key : Kk} {v : Vv} {S : HS} (hk : 2000 ≤ k) (h : MS m E S) (hne : ∀ e ∈ E,e.xs ≠ []) (hc : ∀ e ∈ E,e.xs.length ≤ n) (hm : mem E key v) :
  ∃ E' S',pair_take_int_string.f k (some m) key v S = some ((),S') ∧ MS m E' S' ∧ Chg (OM m E) (OM m E') S S' ∧ (∀ k' v',mem E' k' v' ↔ mem E k' v' ∧ ¬ (k' = key ∧ v' = v)) ∧ (∀ e ∈ E',e.xs ≠ []) ∧ (∀ e ∈ E',e.xs.length ≤ n) := by
 obtain ⟨e,he,hke,hve⟩ := hm
 obtain ⟨A,B,rfl,hA⟩ := split_at h.nd he hke
 subst hke
 have hi := h.si e he
 have hnd := h.nd
 rw [List.pairwise_append,List.pairwise_cons] at hnd
 have hkB : ∀ b ∈ B,b.key ≠ e.key := fun b hb g => hnd.2.1.1 b hb g.symm
 have hlk : S.look (some m) (KI.kv e.key) = some (some (.ptr (some (HA.cell0 e.p)))) := by
  rw [HS.look,HS.mp,h.mp,Option.bind_some,mf_at rfl 0 hA]; rfl
 have fl : Fr S.next S (S.lit [[.str v]] 1).2 := lit_fr _ (Nat.le_refl _)
 have nl : (S.lit [[.str v]] 1).2.next = S.next + 1 := rfl
 have rl : (S.lit [[.str v]] 1).2.rows (S.lit [[.str v]] 1).1 1 = some ([v].map KS.row1) := (Vec.lit (n := 0) (z := 1) (S := S) _ (Nat.zero_le _)).rows
 have ql : ∀ q,(S.lit [[.str v]] 1).1.a = some q → q.1 = S.next := fun q hq => by cases hq; rfl
 rw [pair_take_int_string.f]
 erw [hlk]
 rw [Option.bind_some,show dP ((some (HV.ptr (some (HA.cell0 e.p)))).getD (.ptr none)) = some (some (HA.cell0 e.p)) from rfl,Option.bind_some,letv]
 generalize S.lit [[.str v]] 1 = P at fl nl rl ql ⊢
 obtain ⟨sl,S1⟩ := P
 simp only at fl nl rl ql ⊢
 have h1 := h.fr fl
 obtain ⟨s',xs',S2,e2,i2,o2,m2,c2⟩ := KS.remove_spec hk (hi.fr fl) rl (fun q hq => by
  have := ql q hq
  exact ⟨by omega,fun g => by have := hi.lt g; omega⟩) (by simp)
 obtain ⟨g1,g2⟩ := h1.upd i2 o2
 have hlk2 : S2.look (some m) (KI.kv e.key) = some (some (.ptr (some (HA.cell0 e.p)))) := by
  rw [HS.look,HS.mp,g1.mp,Option.bind_some,mf_at (e := ⟨e.key,e.p,s',xs'⟩) rfl 0 hA]; rfl
 have hx : ∀ u,u ∈ xs' ↔ u ∈ e.xs ∧ u ≠ v := fun u => by rw [m2]; simp
 rw [e2,Option.bind_some]
 erw [hlk2]
 rw [Option.bind_some,show dP ((some (HV.ptr (some (HA.cell0 e.p)))).getD (.ptr none)) = some (some (HA.cell0 e.p)) from rfl,Option.bind_some,KS.len_spec i2,Option.bind_some]
 have hmem : ∀ k' v',mem (A ++ ⟨e.key,e.p,s',xs'⟩ :: B) k' v' ↔ mem (A ++ e :: B) k' v' ∧ ¬ (k' = e.key ∧ v' = v) := by
  intro k' v'
  constructor
  ·rintro ⟨x,hx1,hx2,hx3⟩
   rcases List.mem_append.1 hx1 with g | g
   ·exact ⟨⟨x,by simp [g],hx2,hx3⟩,fun q => hA x g (hx2.trans q.1)⟩
   ·rcases List.mem_cons.1 g with rfl | g
    ·have := (hx v').1 hx3
     exact ⟨⟨e,by simp,hx2,this.1⟩,fun q => this.2 q.2⟩
    ·exact ⟨⟨x,by simp [g],hx2,hx3⟩,fun q => hkB x g (hx2.trans q.1)⟩
  ·rintro ⟨⟨x,hx1,hx2,hx3⟩,hq⟩
   rcases List.mem_append.1 hx1 with g | g
   ·exact ⟨x,by simp [g],hx2,hx3⟩
   ·rcases List.mem_cons.1 g with rfl | g
    ·exact ⟨⟨x.key,x.p,s',xs'⟩,by simp,hx2,(hx v').2 ⟨hx3,fun q => hq ⟨hx2.symm,q⟩⟩⟩
    ·exact ⟨x,by simp [g],hx2,hx3⟩
 by_cases h0 : xs' = []
 ·subst h0
  obtain ⟨S3,e3,k1,k2⟩ := g1.del hA
  rw [if_pos (by simp)]
  erw [e3]
  rw [Option.bind_some]
  refine ⟨A ++ B,S3,rfl,k1,((Chg.of_fr fl).trans g2).trans k2,fun k' v' => ?_,fun x hx => ?_,fun x hx => ?_⟩
  ·rw [← hmem]
   constructor
   ·rintro ⟨x,q1,q2,q3⟩
    refine ⟨x,?_,q2,q3⟩
    rcases List.mem_append.1 q1 with g | g <;> simp [g]
   ·rintro ⟨x,q1,q2,q3⟩
    rcases List.mem_append.1 q1 with g | g
    ·exact ⟨x,by simp [g],q2,q3⟩
    ·rcases List.mem_cons.1 g with rfl | g
     ·cases q3
     ·exact ⟨x,by simp [g],q2,q3⟩
  ·rcases List.mem_append.1 hx with g | g <;> exact hne x (by simp [g])
  ·rcases List.mem_append.1 hx with g | g <;> exact hc x (by simp [g])
 ·rw [if_neg (by simpa using h0)]
  refine ⟨_,S2,rfl,g1,(Chg.of_fr fl).trans g2,hmem,fun x hx => ?_,fun x hx => ?_⟩
  ·rcases List.mem_append.1 hx with g | g
   ·exact hne x (by simp [g])
   ·rcases List.mem_cons.1 g with rfl | g
    ·exact h0
    ·exact hne x (by simp [g])
  ·rcases List.mem_append.1 hx with g | g
   ·exact hc x (by simp [g])
   ·rcases List.mem_cons.1 g with rfl | g
    ·have := hc e (by simp); simp only; omega
    ·exact hc x (by simp [g])
end MA
end Go.Proofs.YtcphapfclncggaaGreatDoor.X
namespace Go.Proofs.YtcphapfclncggaaGreatDoor.X
open Go.Proofs.YtcphapfclncggaaGreatDoor.HL
set_option linter.unusedVariables false
namespace MB
abbrev Kk := KS.Ky
abbrev Vv := KI.Ky
structure En where
 key : Kk
 p : Nat
 s : Sl
 xs : List Vv
def ent (e : En) : HV × HV := (KS.kv e.key,.ptr (some (HA.cell0 e.p)))
theorem kSame_kv (a b : Kk) : kSame (KS.kv a) (KS.kv b) = some (a == b) := by simp [kSame,kSame1,KS.kv]
theorem mf_none {k : Kk} : ∀ {E : List En} (i : Nat),(∀ e ∈ E,e.key ≠ k) → mfind (KS.kv k) (E.map ent) i = some none := by
 intro E
 induction E with
 | nil => intro i _; rfl
 | cons e E ih =>
  intro i h
  rw [List.map_cons,mfind.eq_def]
  simp only [ent,kSame_kv,show (k == e.key) = false from beq_eq_false_iff_ne.2 (fun g => h e (by simp) g.symm)]
  exact ih (i + 1) fun x hx => h x (by simp [hx])
theorem mf_at {k : Kk} {e : En} {B : List En} (hk : e.key = k) : ∀ {A : List En} (i : Nat),(∀ a ∈ A,a.key ≠ k) → mfind (KS.kv k) ((A ++ e :: B).map ent) i = some (some (i + A.length,.ptr (some (HA.cell0 e.p)))) := by
 intro A
 induction A with
 | nil =>
  intro i _
  rw [List.nil_append,List.map_cons,mfind.eq_def]
  simp only [ent,kSame_kv,hk,beq_self_eq_true]
  rfl
 | cons a A ih =>
  intro i h
  rw [List.cons_append,List.map_cons,mfind.eq_def]
  simp only [ent,kSame_kv,show (k == a.key) = false from beq_eq_false_iff_ne.2 (fun g => h a (by simp) g.symm)]
  rw [ih (i + 1) fun x hx => h x (by simp [hx])]
  simp; omega
structure MS (m : Nat) (E : List En) (S : HS) : Prop where
 mp : S.heap m = .map (E.map ent)
 nd : E.Pairwise fun a b => a.key ≠ b.key
 si : ∀ e ∈ E,KI.SI e.p e.s e.xs S
 dis : E.Pairwise fun a b => ∀ id,Own a.p a.s id → ¬ Own b.p b.s id
 nm : ∀ e ∈ E,¬ Own e.p e.s m
 lt : m < S.next
def OM (m : Nat) (E : List En) (id : Nat) : Prop := id = m ∨ ∃ e ∈ E,Own e.p e.s id
def mem (E : List En) (k : Kk) (v : Vv) : Prop := ∃ e ∈ E,e.key = k ∧ v ∈ e.xs
theorem MS.ltO {m : Nat} {E : List En} {S : HS} (h : MS m E S) {id : Nat} (ho : OM m E id) : id < S.next := by
 rcases ho with rfl | ⟨e,he,ho⟩
 ·exact h.lt
 ·exact (h.si e he).lt ho
theorem MS.keep {m : Nat} {E : List En} {S S' : HS} (h : MS m E S) (hk : ∀ id,OM m E id → S'.heap id = S.heap id) (hn : S.next ≤ S'.next) : MS m E S' :=
 ⟨(hk m (.inl rfl)).trans h.mp,h.nd,fun e he => (h.si e he).keep (fun id ho => hk id (.inr ⟨e,he,ho⟩)) hn,h.dis,h.nm,Nat.lt_of_lt_of_le h.lt hn⟩
theorem MS.fr {m : Nat} {E : List En} {S S' : HS} (h : MS m E S) (hf : Fr S.next S S') : MS m E S' := h.keep (fun id ho => hf.eq id (h.ltO ho)) hf.le
theorem split_at {E : List En} {k : Kk} (hn : E.Pairwise fun a b => a.key ≠ b.key) {e : En} (he : e ∈ E) (hk : e.key = k) : ∃ A B,E = A ++ e :: B ∧ ∀ a ∈ A,a.key ≠ k := by
 obtain ⟨A,B,rfl⟩ := List.append_of_mem he
 refine ⟨A,B,rfl,fun a ha => ?_⟩
 rw [List.pairwise_append] at hn
 have := hn.2.2 a ha e (by simp)
 rw [← hk]; exact this
theorem get_spec {m : Nat} {E : List En} {S : HS} (h : MS m E S) (k : Kk) : (S.look (some m) (KS.kv k) = some none ∧ ∀ e ∈ E,e.key ≠ k) ∨ ∃ A e B,E = A ++ e :: B ∧ e.key = k ∧ (∀ a ∈ A,a.key ≠ k) ∧ S.look (some m) (KS.kv k) = some (some (.ptr (some (HA.cell0 e.p)))) := by
 by_cases hx : ∃ e ∈ E,e.key = k
 ·obtain ⟨e,he,hk⟩ := hx
  obtain ⟨A,B,rfl,hA⟩ := split_at h.nd he hk
  refine .inr ⟨A,e,B,rfl,hk,hA,?_⟩
  rw [HS.look,HS.mp,h.mp,Option.bind_some,mf_at hk 0 hA]; rfl
 ·refine .inl ⟨?_,fun e he g => hx ⟨e,he,g⟩⟩
  rw [HS.look,HS.mp,h.mp,Option.bind_some,mf_none 0 fun e he g => hx ⟨e,he,g⟩]; rfl
theorem MS.upd {m : Nat} {A B : List En} {e : En} {s' : Sl} {xs' : List Vv} {S S' : HS} (h : MS m (A ++ e :: B) S) (hs : KI.SI e.p s' xs' S') (ho : Only e.p e.s s' S S') :
  MS m (A ++ ⟨e.key,e.p,s',xs'⟩ :: B) S' ∧ Chg (OM m (A ++ e :: B)) (OM m (A ++ ⟨e.key,e.p,s',xs'⟩ :: B)) S S' := by
 have hle := ho.le
 have hd := h.dis
 rw [List.pairwise_append,List.pairwise_cons] at hd
 have hn := h.nd
 rw [List.pairwise_append,List.pairwise_cons] at hn
 have hso : ∀ id,Own e.p s' id → Own e.p e.s id ∨ S.next ≤ id := ho.own
 have hoth : ∀ a,a ∈ A ∨ a ∈ B → a ∈ A ++ e :: B ∧ ∀ id,Own a.p a.s id → ¬ Own e.p e.s id := fun a ha => by
  rcases ha with g | g
  ·exact ⟨by simp [g],fun id h1 h2 => hd.2.2 a g e (by simp) id h1 h2⟩
  ·exact ⟨by simp [g],fun id h1 h2 => hd.2.1.1 a g id h2 h1⟩
 have hnew : ∀ a,a ∈ A ∨ a ∈ B → ∀ id,Own a.p a.s id → ¬ Own e.p s' id := fun a ha id h1 h2 => by
  rcases hso id h2 with g | g
  ·exact (hoth a ha).2 id h1 g
  ·have := (h.si a (hoth a ha).1).lt h1; omega
 refine ⟨⟨?_,?_,fun x hx => ?_,?_,fun x hx => ?_,by have := h.lt; omega⟩,⟨hle,fun id h1 h2 => ho.eq id h1 fun g => h2 (.inr ⟨e,by simp,g⟩),fun id hid => ?_⟩⟩
 ·rw [ho.eq m h.lt (h.nm e (by simp)),h.mp]
  simp [ent]
 ·rw [List.pairwise_append,List.pairwise_cons]
  refine ⟨hn.1,⟨hn.2.1.1,hn.2.1.2⟩,fun a ha b hb => ?_⟩
  rcases List.mem_cons.1 hb with rfl | hb
  ·exact hn.2.2 a ha e (by simp)
  ·exact hn.2.2 a ha b (by simp [hb])
 ·rcases List.mem_append.1 hx with g | g
  ·exact (h.si x (by simp [g])).keep (fun id h1 => ho.eq id ((h.si x (by simp [g])).lt h1) ((hoth x (.inl g)).2 id h1)) hle
  ·rcases List.mem_cons.1 g with rfl | g
   ·exact hs
   ·exact (h.si x (by simp [g])).keep (fun id h1 => ho.eq id ((h.si x (by simp [g])).lt h1) ((hoth x (.inr g)).2 id h1)) hle
 ·rw [List.pairwise_append,List.pairwise_cons]
  refine ⟨hd.1,⟨fun b hb id h1 h2 => hnew b (.inr hb) id h2 h1,hd.2.1.2⟩,fun a ha b hb => ?_⟩
  rcases List.mem_cons.1 hb with rfl | hb
  ·exact hnew a (.inl ha)
  ·exact hd.2.2 a ha b (by simp [hb])
 ·rcases List.mem_append.1 hx with g | g
  ·exact h.nm x (by simp [g])
  ·rcases List.mem_cons.1 g with rfl | g
   ·intro g'
    rcases hso m g' with g2 | g2
    ·exact h.nm e (by simp) g2
    ·have := h.lt; omega
   ·exact h.nm x (by simp [g])
 ·rcases hid with rfl | ⟨x,hx,g⟩
  ·exact .inl (.inl rfl)
  ·rcases List.mem_append.1 hx with g' | g'
   ·exact .inl (.inr ⟨x,by simp [g'],g⟩)
   ·rcases List.mem_cons.1 g' with rfl | g'
    ·exact (hso id g).imp (fun q => .inr ⟨e,by simp,q⟩) id_
    ·exact .inl (.inr ⟨x,by simp [g'],g⟩)
where id_ {p : Prop} (h : p) : p := h
theorem j0_spec {k m : Nat} {A B : List En} {e : En} {v : Vv} {S : HS} (hk : 2000 ≤ k) (h : MS m (A ++ e :: B) S) (hA : ∀ a ∈ A,a.key ≠ e.key) (hc : e.xs.length < 1000) :
  ∃ s' xs' S',pair_put_string_int.J0 k (some m) e.key v S = some ((),S') ∧ MS m (A ++ ⟨e.key,e.p,s',xs'⟩ :: B) S' ∧ Chg (OM m (A ++ e :: B)) (OM m (A ++ ⟨e.key,e.p,s',xs'⟩ :: B)) S S' ∧ (∀ u,u ∈ xs' ↔ u ∈ e.xs ∨ u = v) ∧ xs'.length ≤ e.xs.length + 1 := by
 have he := h.si e (by simp)
 have hlk : S.look (some m) (KS.kv e.key) = some (some (.ptr (some (HA.cell0 e.p)))) := by
  rw [HS.look,HS.mp,h.mp,Option.bind_some,mf_at rfl 0 hA]; rfl
 have fl : Fr S.next S (S.lit [[.int .i64 v]] 1).2 := lit_fr _ (Nat.le_refl _)
 have nl : (S.lit [[.int .i64 v]] 1).2.next = S.next + 1 := rfl
 have rl : (S.lit [[.int .i64 v]] 1).2.rows (S.lit [[.int .i64 v]] 1).1 1 = some ([v].map KI.row1) := (Vec.lit (n := 0) (z := 1) (S := S) _ (Nat.zero_le _)).rows
 have ql : ∀ q,(S.lit [[.int .i64 v]] 1).1.a = some q → q.1 = S.next := fun q hq => by cases hq; rfl
 rw [pair_put_string_int.J0]
 erw [hlk]
 rw [Option.bind_some,show dP ((some (HV.ptr (some (HA.cell0 e.p)))).getD (.ptr none)) = some (some (HA.cell0 e.p)) from rfl,Option.bind_some,letv]
 generalize S.lit [[.int .i64 v]] 1 = P at fl nl rl ql ⊢
 obtain ⟨sl,S1⟩ := P
 simp only at fl nl rl ql ⊢
 have h1 := h.fr fl
 have he1 := he.fr fl
 obtain ⟨s',xs',S2,e2,i2,o2,m2,c2,c2'⟩ := KI.add_spec hk he1 rl (fun q hq => by
  have := ql q hq
  exact ⟨by omega,fun g => by have := he.lt g; omega⟩) (by simp; omega)
 obtain ⟨g1,g2⟩ := h1.upd i2 o2
 rw [e2,Option.bind_some]
 exact ⟨s',xs',S2,rfl,g1,(Chg.of_fr fl).trans g2,fun u => by rw [m2]; simp,by simpa using c2'⟩
theorem put_spec {k m n : Nat} {E : List En} {key : Kk} {v : Vv} {S : HS} (hk : 2000 ≤ k) (h : MS m E S) (hne : ∀ e ∈ E,e.xs ≠ []) (hc : ∀ e ∈ E,e.xs.length ≤ n) (hn : n < 1000) :
  ∃ E' S',pair_put_string_int.f k (some m) key v S = some ((),S') ∧ MS m E' S' ∧ Chg (OM m E) (OM m E') S S' ∧ (∀ k' v',mem E' k' v' ↔ mem E k' v' ∨ (k' = key ∧ v' = v)) ∧ (∀ e ∈ E',e.xs ≠ []) ∧ (∀ e ∈ E',e.xs.length ≤ n + 1) := by
 have hmem : ∀ (A B : List En) (e : En) (s' : Sl) (xs' : List Vv),e.key = key → (∀ u,u ∈ xs' ↔ u ∈ e.xs ∨ u = v) → ∀ k' v',mem (A ++ ⟨e.key,e.p,s',xs'⟩ :: B) k' v' ↔ mem (A ++ e :: B) k' v' ∨ (k' = key ∧ v' = v) := by
  intro A B e s' xs' hke hx k' v'
  constructor
  ·rintro ⟨x,hx1,hx2,hx3⟩
   rcases List.mem_append.1 hx1 with g | g
   ·exact .inl ⟨x,by simp [g],hx2,hx3⟩
   ·rcases List.mem_cons.1 g with rfl | g
    ·rcases (hx v').1 hx3 with g2 | g2
     ·exact .inl ⟨e,by simp,hx2,g2⟩
     ·exact .inr ⟨by rw [← hx2]; exact hke,g2⟩
    ·exact .inl ⟨x,by simp [g],hx2,hx3⟩
  ·rintro (⟨x,hx1,hx2,hx3⟩ | ⟨rfl,rfl⟩)
   ·rcases List.mem_append.1 hx1 with g | g
    ·exact ⟨x,by simp [g],hx2,hx3⟩
    ·rcases List.mem_cons.1 g with rfl | g
     ·exact ⟨⟨x.key,x.p,s',xs'⟩,by simp,hx2,(hx v').2 (.inl hx3)⟩
     ·exact ⟨x,by simp [g],hx2,hx3⟩
   ·exact ⟨⟨e.key,e.p,s',xs'⟩,by simp,hke,(hx _).2 (.inr rfl)⟩
 rw [pair_put_string_int.f]
 rcases get_spec h key with ⟨e1,hno⟩ | ⟨A,e,B,rfl,hke,hA,e1⟩
 ·obtain ⟨s,xs,S1,e2,i2,f2,o2,m2,c2⟩ := KI.of_spec (k := k) (sl := Sl.nil) (ls := []) (S := S) hk ⟨rfl,fun q hq => by cases hq⟩ (by simp)
  have hx : xs = [] := by simpa using c2
  subst hx
  have h1 := h.fr f2
  have le2 := f2.le
  have hput : S1.mput (some m) (KS.kv key) (.ptr (some (HA.cell0 S.next))) = some (S1.put m (.map ((E ++ [(⟨key,S.next,s,[]⟩ : En)]).map ent))) := by
   simp only [HS.mput,h1.mp]
   rw [mf_none 0 hno]
   simp [ent]
  erw [e1]
  rw [Option.bind_some,show dP ((none : Option HV).getD (.ptr none)) = some none from rfl,Option.bind_some,if_pos (by rfl),e2,Option.bind_some]
  erw [hput]
  rw [Option.bind_some]
  have hmO : ∀ id,Own S.next s id → id ≠ m := fun id g => by have := o2 id g; have := h.lt; omega
  have h2 : MS m (E ++ (⟨key,S.next,s,[]⟩ : En) :: []) (S1.put m (.map ((E ++ [(⟨key,S.next,s,[]⟩ : En)]).map ent))) := by
   refine ⟨put_here _ _ _,?_,fun x hx => ?_,?_,fun x hx => ?_,by rw [put_next]; have := h.lt; omega⟩
   ·rw [List.pairwise_append]
    exact ⟨h.nd,List.pairwise_singleton _ _,fun a ha b hb => by simp at hb; subst hb; exact hno a ha⟩
   ·rcases List.mem_append.1 hx with g | g
    ·exact (h1.si x g).keep (fun id ho => put_other _ (fun q => by subst q; exact h1.nm x g ho)) (Nat.le_refl _)
    ·simp at g; subst g; exact i2.keep (fun id ho => put_other _ (hmO id ho)) (Nat.le_refl _)
   ·rw [List.pairwise_append]
    refine ⟨h.dis,List.pairwise_singleton _ _,fun a ha b hb id g1 g2 => ?_⟩
    simp at hb; subst hb
    have := (h.si a ha).lt g1
    have := o2 id g2
    omega
   ·rcases List.mem_append.1 hx with g | g
    ·exact h.nm x g
    ·simp at g; subst g; exact fun ho => hmO m ho rfl
  have hch : Chg (OM m E) (OM m (E ++ (⟨key,S.next,s,[]⟩ : En) :: [])) S (S1.put m (.map ((E ++ [(⟨key,S.next,s,[]⟩ : En)]).map ent))) := by
   refine ⟨by rw [put_next]; omega,fun id g1 g2 => by rw [put_other _ (fun q => g2 (.inl q))]; exact f2.eq id g1,fun id ho => ?_⟩
   rcases ho with g | ⟨x,hx,g⟩
   ·exact .inl (.inl g)
   ·rcases List.mem_append.1 hx with g' | g'
    ·exact .inl (.inr ⟨x,g',g⟩)
    ·simp at g'; subst g'; exact .inr (o2 id g)
  obtain ⟨s',xs',S3,e3,g1,g2,g3,g4⟩ := j0_spec (v := v) hk h2 hno (by simp)
  refine ⟨_,S3,e3,g1,hch.trans g2,fun k' v' => ?_,fun x hx => ?_,fun x hx => ?_⟩
  ·rw [hmem E [] ⟨key,S.next,s,[]⟩ s' xs' rfl g3]
   have : mem (E ++ (⟨key,S.next,s,[]⟩ : En) :: []) k' v' ↔ mem E k' v' := by
    constructor
    ·rintro ⟨x,hx,q1,q2⟩
     rcases List.mem_append.1 hx with g | g
     ·exact ⟨x,g,q1,q2⟩
     ·simp at g; subst g; cases q2
    ·rintro ⟨x,hx,q1,q2⟩; exact ⟨x,by simp [hx],q1,q2⟩
   rw [this]
  ·rcases List.mem_append.1 hx with g | g
   ·exact hne x g
   ·simp at g; subst g
    intro q
    have := (g3 v).2 (.inr rfl)
    simp only at q
    rw [q] at this; cases this
  ·rcases List.mem_append.1 hx with g | g
   ·have := hc x g; omega
   ·simp at g; subst g; simp at g4; simp; omega
 ·subst hke
  obtain ⟨s',xs',S3,e3,g1,g2,g3,g4⟩ := j0_spec (v := v) hk h hA (by have := hc e (by simp); omega)
  erw [e1]
  rw [Option.bind_some,show dP ((some (HV.ptr (some (HA.cell0 e.p)))).getD (.ptr none)) = some (some (HA.cell0 e.p)) from rfl,Option.bind_some,if_neg (by simp),e3]
  refine ⟨_,S3,rfl,g1,g2,fun k' v' => hmem A B e s' xs' rfl g3 k' v',fun x hx => ?_,fun x hx => ?_⟩
  ·rcases List.mem_append.1 hx with g | g
   ·exact hne x (by simp [g])
   ·rcases List.mem_cons.1 g with rfl | g
    ·intro q
     have := (g3 v).2 (.inr rfl)
     simp only at q
     rw [q] at this; cases this
    ·exact hne x (by simp [g])
  ·rcases List.mem_append.1 hx with g | g
   ·have := hc x (by simp [g]); omega
   ·rcases List.mem_cons.1 g with rfl | g
    ·have := hc e (by simp); simp only; omega
    ·have := hc x (by simp [g]); omega
theorem MS.del {m : Nat} {A B : List En} {e : En} {S : HS} (h : MS m (A ++ e :: B) S) (hA : ∀ a ∈ A,a.key ≠ e.key) :
  ∃ S',S.mdel (some m) (KS.kv e.key) = some S' ∧ MS m (A ++ B) S' ∧ Chg (OM m (A ++ e :: B)) (OM m (A ++ B)) S S' := by
 have hd := h.dis
 rw [List.pairwise_append,List.pairwise_cons] at hd
 have hn := h.nd
 rw [List.pairwise_append,List.pairwise_cons] at hn
 have hsub : ∀ x,x ∈ A ++ B → x ∈ A ++ e :: B := fun x hx => by
  rcases List.mem_append.1 hx with g | g <;> simp [g]
 refine ⟨S.put m (.map ((A ++ B).map ent)),?_,⟨put_here _ _ _,?_,fun x hx => (h.si x (hsub x hx)).keep (fun id ho => put_other _ (fun q => by subst q; exact h.nm x (hsub x hx) ho)) (Nat.le_refl _),?_,fun x hx => h.nm x (hsub x hx),h.lt⟩,⟨Nat.le_refl _,fun id _ g2 => put_other _ (fun q => g2 (.inl q)),fun id ho => .inl ?_⟩⟩
 ·simp only [HS.mdel,h.mp]
  rw [mf_at rfl 0 hA]
  simp only [Option.map_some,Nat.zero_add]
  congr 3
  rw [List.map_append,List.eraseIdx_append_of_length_le (by simp)]
  simp
 ·rw [List.pairwise_append]; exact ⟨hn.1,hn.2.1.2,fun a ha b hb => hn.2.2 a ha b (by simp [hb])⟩
 ·rw [List.pairwise_append]; exact ⟨hd.1,hd.2.1.2,fun a ha b hb => hd.2.2 a ha b (by simp [hb])⟩
 ·rcases ho with g | ⟨x,hx,g⟩
  ·exact .inl g
  ·exact .inr ⟨x,hsub x hx,g⟩
theorem take_spec {k m n : Nat} {E : List En} {key : Kk} {v : Vv} {S : HS} (hk : 2000 ≤ k) (h : MS m E S) (hne : ∀ e ∈ E,e.xs ≠ []) (hc : ∀ e ∈ E,e.xs.length ≤ n) (hm : mem E key v) :
  ∃ E' S',pair_take_string_int.f k (some m) key v S = some ((),S') ∧ MS m E' S' ∧ Chg (OM m E) (OM m E') S S' ∧ (∀ k' v',mem E' k' v' ↔ mem E k' v' ∧ ¬ (k' = key ∧ v' = v)) ∧ (∀ e ∈ E',e.xs ≠ []) ∧ (∀ e ∈ E',e.xs.length ≤ n) := by
 obtain ⟨e,he,hke,hve⟩ := hm
 obtain ⟨A,B,rfl,hA⟩ := split_at h.nd he hke
 subst hke
 have hi := h.si e he
 have hnd := h.nd
 rw [List.pairwise_append,List.pairwise_cons] at hnd
 have hkB : ∀ b ∈ B,b.key ≠ e.key := fun b hb g => hnd.2.1.1 b hb g.symm
 have hlk : S.look (some m) (KS.kv e.key) = some (some (.ptr (some (HA.cell0 e.p)))) := by
  rw [HS.look,HS.mp,h.mp,Option.bind_some,mf_at rfl 0 hA]; rfl
 have fl : Fr S.next S (S.lit [[.int .i64 v]] 1).2 := lit_fr _ (Nat.le_refl _)
 have nl : (S.lit [[.int .i64 v]] 1).2.next = S.next + 1 := rfl
 have rl : (S.lit [[.int .i64 v]] 1).2.rows (S.lit [[.int .i64 v]] 1).1 1 = some ([v].map KI.row1) := (Vec.lit (n := 0) (z := 1) (S := S) _ (Nat.zero_le _)).rows
 have ql : ∀ q,(S.lit [[.int .i64 v]] 1).1.a = some q → q.1 = S.next := fun q hq => by cases hq; rfl
 rw [pair_take_string_int.f]
 erw [hlk]
 rw [Option.bind_some,show dP ((some (HV.ptr (some (HA.cell0 e.p)))).getD (.ptr none)) = some (some (HA.cell0 e.p)) from rfl,Option.bind_some,letv]
 generalize S.lit [[.int .i64 v]] 1 = P at fl nl rl ql ⊢
 obtain ⟨sl,S1⟩ := P
 simp only at fl nl rl ql ⊢
 have h1 := h.fr fl
 obtain ⟨s',xs',S2,e2,i2,o2,m2,c2⟩ := KI.remove_spec hk (hi.fr fl) rl (fun q hq => by
  have := ql q hq
  exact ⟨by omega,fun g => by have := hi.lt g; omega⟩) (by simp)
 obtain ⟨g1,g2⟩ := h1.upd i2 o2
 have hlk2 : S2.look (some m) (KS.kv e.key) = some (some (.ptr (some (HA.cell0 e.p)))) := by
  rw [HS.look,HS.mp,g1.mp,Option.bind_some,mf_at (e := ⟨e.key,e.p,s',xs'⟩) rfl 0 hA]; rfl
 have hx : ∀ u,u ∈ xs' ↔ u ∈ e.xs ∧ u ≠ v := fun u => by rw [m2]; simp
 rw [e2,Option.bind_some]
 erw [hlk2]
 rw [Option.bind_some,show dP ((some (HV.ptr (some (HA.cell0 e.p)))).getD (.ptr none)) = some (some (HA.cell0 e.p)) from rfl,Option.bind_some,KI.len_spec i2,Option.bind_some]
 have hmem : ∀ k' v',mem (A ++ ⟨e.key,e.p,s',xs'⟩ :: B) k' v' ↔ mem (A ++ e :: B) k' v' ∧ ¬ (k' = e.key ∧ v' = v) := by
  intro k' v'
  constructor
  ·rintro ⟨x,hx1,hx2,hx3⟩
   rcases List.mem_append.1 hx1 with g | g
   ·exact ⟨⟨x,by simp [g],hx2,hx3⟩,fun q => hA x g (hx2.trans q.1)⟩
   ·rcases List.mem_cons.1 g with rfl | g
    ·have := (hx v').1 hx3
     exact ⟨⟨e,by simp,hx2,this.1⟩,fun q => this.2 q.2⟩
    ·exact ⟨⟨x,by simp [g],hx2,hx3⟩,fun q => hkB x g (hx2.trans q.1)⟩
  ·rintro ⟨⟨x,hx1,hx2,hx3⟩,hq⟩
   rcases List.mem_append.1 hx1 with g | g
   ·exact ⟨x,by simp [g],hx2,hx3⟩
   ·rcases List.mem_cons.1 g with rfl | g
    ·exact ⟨⟨x.key,x.p,s',xs'⟩,by simp,hx2,(hx v').2 ⟨hx3,fun q => hq ⟨hx2.symm,q⟩⟩⟩
    ·exact ⟨x,by simp [g],hx2,hx3⟩
 by_cases h0 : xs' = []
 ·subst h0
  obtain ⟨S3,e3,k1,k2⟩ := g1.del hA
  rw [if_pos (by simp)]
  erw [e3]
  rw [Option.bind_some]
  refine ⟨A ++ B,S3,rfl,k1,((Chg.of_fr fl).trans g2).trans k2,fun k' v' => ?_,fun x hx => ?_,fun x hx => ?_⟩
  ·rw [← hmem]
   constructor
   ·rintro ⟨x,q1,q2,q3⟩
    refine ⟨x,?_,q2,q3⟩
    rcases List.mem_append.1 q1 with g | g <;> simp [g]
   ·rintro ⟨x,q1,q2,q3⟩
    rcases List.mem_append.1 q1 with g | g
    ·exact ⟨x,by simp [g],q2,q3⟩
    ·rcases List.mem_cons.1 g with rfl | g
     ·cases q3
     ·exact ⟨x,by simp [g],q2,q3⟩
  ·rcases List.mem_append.1 hx with g | g <;> exact hne x (by simp [g])
  ·rcases List.mem_append.1 hx with g | g <;> exact hc x (by simp [g])
 ·rw [if_neg (by simpa using h0)]
  refine ⟨_,S2,rfl,g1,(Chg.of_fr fl).trans g2,hmem,fun x hx => ?_,fun x hx => ?_⟩
  ·rcases List.mem_append.1 hx with g | g
   ·exact hne x (by simp [g])
   ·rcases List.mem_cons.1 g with rfl | g
    ·exact h0
    ·exact hne x (by simp [g])
  ·rcases List.mem_append.1 hx with g | g
   ·exact hc x (by simp [g])
   ·rcases List.mem_cons.1 g with rfl | g
    ·have := hc e (by simp); simp only; omega
    ·exact hc x (by simp [g])
end MB
end Go.Proofs.YtcphapfclncggaaGreatDoor.X
namespace Go.Proofs.YtcphapfclncggaaGreatDoor.X
open Go.Proofs.YtcphapfclncggaaGreatDoor.HL
set_option linter.unusedVariables false
abbrev Pr := Int × List UInt8
def wo (x : Pr) (L : List Pr) : List Pr := L.filter fun p => !decide (p = x)
theorem wo_mem {x p : Pr} {L : List Pr} : p ∈ wo x L ↔ p ∈ L ∧ p ≠ x := by simp [wo]
theorem wo_len {x : Pr} {L : List Pr} (h : L.Nodup) (hx : x ∈ L) : (wo x L).length = L.length - 1 := by
 have : wo x L = L.erase x := by
  rw [h.erase_eq_filter,wo]
  congr 1
  funext p
  by_cases hp : p = x <;> simp [hp]
 rw [this,List.length_erase_of_mem hx]
theorem wo_no {x : Pr} {L : List Pr} (hx : x ∉ L) : wo x L = L := List.filter_eq_self.2 fun p hp => by simp; rintro rfl; exact hx hp
def OR (r m1 m2 : Nat) (E1 : List MA.En) (E2 : List MB.En) (id : Nat) : Prop := id = r ∨ MA.OM m1 E1 id ∨ MB.OM m2 E2 id
structure RelI (r m1 m2 n : Nat) (most : Int) (E1 : List MA.En) (E2 : List MB.En) (L : List Pr) (S : HS) : Prop where
 cell : S.heap r = .cells 4 [[.int .i64 most,.int .i64 L.length,.map (some m1),.map (some m2)]] true
 ms1 : MA.MS m1 E1 S
 ms2 : MB.MS m2 E2 S
 d12 : ∀ id,MA.OM m1 E1 id → ¬ MB.OM m2 E2 id
 dr1 : ¬ MA.OM m1 E1 r
 dr2 : ¬ MB.OM m2 E2 r
 lt : r < S.next
 me1 : ∀ a b,MA.mem E1 a b ↔ (a,b) ∈ L
 me2 : ∀ b a,MB.mem E2 b a ↔ (a,b) ∈ L
 ne1 : ∀ e ∈ E1,e.xs ≠ []
 ne2 : ∀ e ∈ E2,e.xs ≠ []
 c1 : ∀ e ∈ E1,e.xs.length ≤ n
 c2 : ∀ e ∈ E2,e.xs.length ≤ n
 nd : L.Nodup
 ll : L.length ≤ n
 nn : n ≤ 900
section
variable {r m1 m2 n : Nat} {most : Int} {E1 : List MA.En} {E2 : List MB.En} {L : List Pr} {S : HS}
theorem RelI.ltO (h : RelI r m1 m2 n most E1 E2 L S) {id : Nat} (ho : OR r m1 m2 E1 E2 id) : id < S.next := by
 rcases ho with rfl | g | g
 ·exact h.lt
 ·exact h.ms1.ltO g
 ·exact h.ms2.ltO g
theorem RelI.keep {S' : HS} (h : RelI r m1 m2 n most E1 E2 L S) (hk : ∀ id,OR r m1 m2 E1 E2 id → S'.heap id = S.heap id) (hn : S.next ≤ S'.next) : RelI r m1 m2 n most E1 E2 L S' :=
 ⟨(hk r (.inl rfl)).trans h.cell,h.ms1.keep (fun id g => hk id (.inr (.inl g))) hn,h.ms2.keep (fun id g => hk id (.inr (.inr g))) hn,h.d12,h.dr1,h.dr2,Nat.lt_of_lt_of_le h.lt hn,h.me1,h.me2,h.ne1,h.ne2,h.c1,h.c2,h.nd,h.ll,h.nn⟩
theorem RelI.fr {S' : HS} (h : RelI r m1 m2 n most E1 E2 L S) (hf : Fr S.next S S') : RelI r m1 m2 n most E1 E2 L S' := h.keep (fun id ho => hf.eq id (h.ltO ho)) hf.le
theorem RelI.mono {n' : Nat} (h : RelI r m1 m2 n most E1 E2 L S) (hn : n ≤ n') (hn' : n' ≤ 900) : RelI r m1 m2 n' most E1 E2 L S := { h with c1 := fun e he => Nat.le_trans (h.c1 e he) hn,c2 := fun e he => Nat.le_trans (h.c2 e he) hn,ll := Nat.le_trans h.ll hn,nn := hn' }
theorem RelI.ld1 (h : RelI r m1 m2 n most E1 E2 L S) : S.ldM (HA.fld (HA.cell0 r) 2) = some (some m1) := row_ldM (cell_row h.cell) rfl rfl
theorem RelI.ld2 (h : RelI r m1 m2 n most E1 E2 L S) : S.ldM (HA.fld (HA.cell0 r) 3) = some (some m2) := row_ldM (cell_row h.cell) rfl rfl
theorem RelI.ldm (h : RelI r m1 m2 n most E1 E2 L S) : S.ldI .i64 (HA.fld (HA.cell0 r) 0) = some most := row_ldI (cell_row h.cell) rfl rfl
theorem RelI.at1 (h : RelI r m1 m2 n most E1 E2 L S) (a : Int) : ∃ xs,KS.Srt xs ∧ (∀ v,v ∈ xs ↔ (a,v) ∈ L) ∧ xs.length ≤ n ∧ ((S.look (some m1) (.int .i64 a) = some none ∧ xs = []) ∨ ∃ p s,S.look (some m1) (.int .i64 a) = some (some (.ptr (some (HA.cell0 p)))) ∧ KS.SI p s xs S ∧ ∀ id,Own p s id → MA.OM m1 E1 id) := by
 rcases MA.get_spec h.ms1 a with ⟨e1,hno⟩ | ⟨A,e,B,hE,hk,hA,e1⟩
 ·refine ⟨[],List.Pairwise.nil,fun v => ?_,by simp,.inl ⟨e1,rfl⟩⟩
  rw [← h.me1]
  exact ⟨fun g => (by cases g),fun ⟨e,he,hk,_⟩ => absurd hk (hno e he)⟩
 ·have he : e ∈ E1 := by rw [hE]; simp
  refine ⟨e.xs,(h.ms1.si e he).srt,fun v => ?_,h.c1 e he,.inr ⟨e.p,e.s,e1,h.ms1.si e he,fun id g => .inr ⟨e,he,g⟩⟩⟩
  rw [← h.me1]
  refine ⟨fun g => ⟨e,he,hk,g⟩,fun ⟨x,hx,hxk,hv⟩ => ?_⟩
  have : x = e := by
   have hn := h.ms1.nd
   rw [hE] at hx hn
   rw [List.pairwise_append,List.pairwise_cons] at hn
   rcases List.mem_append.1 hx with g | g
   ·exact absurd hxk (hA x g)
   ·rcases List.mem_cons.1 g with g | g
    ·exact g
    ·exact absurd (hk.trans hxk.symm) (hn.2.1.1 x g)
  rw [← this]; exact hv
theorem RelI.at2 (h : RelI r m1 m2 n most E1 E2 L S) (b : List UInt8) : ∃ xs,KI.Srt xs ∧ (∀ v,v ∈ xs ↔ (v,b) ∈ L) ∧ xs.length ≤ n ∧ ((S.look (some m2) (.str b) = some none ∧ xs = []) ∨ ∃ p s,S.look (some m2) (.str b) = some (some (.ptr (some (HA.cell0 p)))) ∧ KI.SI p s xs S ∧ ∀ id,Own p s id → MB.OM m2 E2 id) := by
 rcases MB.get_spec h.ms2 b with ⟨e1,hno⟩ | ⟨A,e,B,hE,hk,hA,e1⟩
 ·refine ⟨[],List.Pairwise.nil,fun v => ?_,by simp,.inl ⟨e1,rfl⟩⟩
  rw [← h.me2]
  exact ⟨fun g => (by cases g),fun ⟨e,he,hk,_⟩ => absurd hk (hno e he)⟩
 ·have he : e ∈ E2 := by rw [hE]; simp
  refine ⟨e.xs,(h.ms2.si e he).srt,fun v => ?_,h.c2 e he,.inr ⟨e.p,e.s,e1,h.ms2.si e he,fun id g => .inr ⟨e,he,g⟩⟩⟩
  rw [← h.me2]
  refine ⟨fun g => ⟨e,he,hk,g⟩,fun ⟨x,hx,hxk,hv⟩ => ?_⟩
  have : x = e := by
   have hn := h.ms2.nd
   rw [hE] at hx hn
   rw [List.pairwise_append,List.pairwise_cons] at hn
   rcases List.mem_append.1 hx with g | g
   ·exact absurd hxk (hA x g)
   ·rcases List.mem_cons.1 g with g | g
    ·exact g
    ·exact absurd (hk.trans hxk.symm) (hn.2.1.1 x g)
  rw [← this]; exact hv
theorem dP_none : dP ((none : Option HV).getD (.ptr none)) = some none := rfl
theorem dP_some (q : Option HA) : dP ((some (HV.ptr q)).getD (.ptr none)) = some q := rfl
theorem has_rel {k : Nat} (hk : 2000 ≤ k) (h : RelI r m1 m2 n most E1 E2 L S) (a : Int) (b : List UInt8) : pair_Rel_int_string_Has.f k (some (HA.cell0 r)) a b S = some (decide ((a,b) ∈ L),S) := by
 obtain ⟨xs,h1,h2,h3,h4⟩ := h.at1 a
 rw [pair_Rel_int_string_Has.f,if_pos (by rfl),Option.bind_some,h.ld1,Option.bind_some]
 rcases h4 with ⟨e,rfl⟩ | ⟨p,s,e,hs,_⟩
 ·rw [e,Option.bind_some,dP_none,Option.bind_some,set_Set_string_Has.f,if_pos (by rfl),Option.bind_some,pair_Rel_int_string_Has.J0,decide_eq_false (fun g => by have := (h2 b).2 g; cases this)]
 ·rw [e,Option.bind_some,dP_some,Option.bind_some,KS.has_spec hk hs,Option.bind_some,pair_Rel_int_string_Has.J0]
  simp only [h2]
theorem count_rel (h : RelI r m1 m2 n most E1 E2 L S) (a : Int) {xs : List KS.Ky} (hs : KS.Srt xs) (hm : ∀ v,v ∈ xs ↔ (a,v) ∈ L) : pair_Rel_int_string_Count.f (some (HA.cell0 r)) a S = some ((xs.length : Int),S) := by
 obtain ⟨ys,h1,h2,h3,h4⟩ := h.at1 a
 have : ys = xs := KS.srt_ext h1 hs fun v => by rw [h2,hm]
 subst this
 rw [pair_Rel_int_string_Count.f,if_neg (by simp),Option.bind_some,h.ld1,Option.bind_some]
 rcases h4 with ⟨e,rfl⟩ | ⟨p,s,e,hs,_⟩
 ·rw [e,Option.bind_some,dP_none,Option.bind_some,set_Set_string_Len.f,if_pos (by rfl)]; rfl
 ·rw [e,Option.bind_some,dP_some,Option.bind_some,KS.len_spec hs]; rfl
theorem of_rel {nD : Nat} (h : RelI r m1 m2 n most E1 E2 L S) (a : Int) {xs : List KS.Ky} (hs : KS.Srt xs) (hm : ∀ v,v ∈ xs ↔ (a,v) ∈ L) : ∃ fn u v S1 K,pair_Rel_int_string_Of.f (some (HA.cell0 r)) a S = some (.fn fn u v,S1) ∧ Tells (disp 2000 (nD + 2)) (.fn fn u v) (xs.map KS.row1) K S1 ∧ (∀ id,K id → S.next ≤ id ∧ id < S1.next) ∧ Fr S.next S S1 := by
 obtain ⟨ys,h1,h2,h3,h4⟩ := h.at1 a
 have hy : ys = xs := KS.srt_ext h1 hs fun v => by rw [h2,hm]
 subst hy
 have hnn := h.nn
 have key : ∃ c s' S1,pair_Rel_int_string_Of.f (some (HA.cell0 r)) a S = some (.fn (.func 93) [] [.ptr (some (HA.cell0 c))],S1) ∧ S1.heap c = .cells 1 [[s'.hv]] true ∧ S1.rows s' 1 = some (ys.map KS.row1) ∧ (S.next ≤ c ∧ c < S1.next) ∧ (∀ q,s'.a = some q → S.next ≤ q.1 ∧ q.1 < S1.next) ∧ Fr S.next S S1 := by
  rw [pair_Rel_int_string_Of.f,if_neg (by simp),Option.bind_some,h.ld1,Option.bind_some]
  rcases h4 with ⟨e,rfl⟩ | ⟨p,s,e,hs,_⟩
  ·rw [e,Option.bind_some,dP_none,Option.bind_some,set_Set_string_All.f,set_Set_string_List.f,if_pos (by rfl),Option.bind_some,slices_Values_string_string.f,letv,Option.bind_some]
   exact ⟨S.next,_,_,rfl,new_here _ _,rfl,⟨Nat.le_refl _,Nat.lt_succ_self _⟩,fun q hq => (by cases hq),Fr.new (Nat.le_refl _) _⟩
  ·obtain ⟨c,s',S1,e2,g1,g2,g3,g4,g5⟩ := KS.all_spec hs
   rw [e,Option.bind_some,dP_some,Option.bind_some,e2,Option.bind_some]
   exact ⟨c,s',S1,rfl,g1,g2,g3,g4,g5⟩
 obtain ⟨c,s',S1,e,g1,g2,g3,g4,g5⟩ := key
 exact ⟨_,_,_,S1,fun id => id = c ∨ ∃ q,s'.a = some q ∧ q.1 = id,e,KS.values_tells (by omega) (by omega) g1 g2 _ ⟨.inl rfl,fun q hq => .inr ⟨q,hq,rfl⟩⟩,fun id hid => by
  rcases hid with rfl | ⟨q,hq,rfl⟩
  ·exact g3
  ·exact g4 q hq,g5⟩
theorem by_rel {nD : Nat} (h : RelI r m1 m2 n most E1 E2 L S) (b : List UInt8) {xs : List KI.Ky} (hs : KI.Srt xs) (hm : ∀ v,v ∈ xs ↔ (v,b) ∈ L) : ∃ fn u v S1 K,pair_Rel_int_string_By.f (some (HA.cell0 r)) b S = some (.fn fn u v,S1) ∧ Tells (disp 2000 (nD + 2)) (.fn fn u v) (xs.map KI.row1) K S1 ∧ (∀ id,K id → S.next ≤ id ∧ id < S1.next) ∧ Fr S.next S S1 := by
 obtain ⟨ys,h1,h2,h3,h4⟩ := h.at2 b
 have hy : ys = xs := KI.srt_ext h1 hs fun v => by rw [h2,hm]
 subst hy
 have hnn := h.nn
 have key : ∃ c s' S1,pair_Rel_int_string_By.f (some (HA.cell0 r)) b S = some (.fn (.func 99) [] [.ptr (some (HA.cell0 c))],S1) ∧ S1.heap c = .cells 1 [[s'.hv]] true ∧ S1.rows s' 1 = some (ys.map KI.row1) ∧ (S.next ≤ c ∧ c < S1.next) ∧ (∀ q,s'.a = some q → S.next ≤ q.1 ∧ q.1 < S1.next) ∧ Fr S.next S S1 := by
  rw [pair_Rel_int_string_By.f,if_neg (by simp),Option.bind_some,h.ld2,Option.bind_some]
  rcases h4 with ⟨e,rfl⟩ | ⟨p,s,e,hs,_⟩
  ·rw [e,Option.bind_some,dP_none,Option.bind_some,set_Set_int_All.f,set_Set_int_List.f,if_pos (by rfl),Option.bind_some,slices_Values_int_int.f,letv,Option.bind_some]
   exact ⟨S.next,_,_,rfl,new_here _ _,rfl,⟨Nat.le_refl _,Nat.lt_succ_self _⟩,fun q hq => (by cases hq),Fr.new (Nat.le_refl _) _⟩
  ·obtain ⟨c,s',S1,e2,g1,g2,g3,g4,g5⟩ := KI.all_spec hs
   rw [e,Option.bind_some,dP_some,Option.bind_some,e2,Option.bind_some]
   exact ⟨c,s',S1,rfl,g1,g2,g3,g4,g5⟩
 obtain ⟨c,s',S1,e,g1,g2,g3,g4,g5⟩ := key
 exact ⟨_,_,_,S1,fun id => id = c ∨ ∃ q,s'.a = some q ∧ q.1 = id,e,KI.values_tells (by omega) (by omega) g1 g2 _ ⟨.inl rfl,fun q hq => .inr ⟨q,hq,rfl⟩⟩,fun id hid => by
  rcases hid with rfl | ⟨q,hq,rfl⟩
  ·exact g3
  ·exact g4 q hq,g5⟩
theorem cnt_put {i : Int} {S : HS} {m1 m2 : Nat} (h : S.heap r = .cells 4 [[.int .i64 most,.int .i64 i,.map (some m1),.map (some m2)]] true) (j : Int) : S.sets (HA.fld (HA.cell0 r) 1) [.int .i64 j] = some (S.put r (.cells 4 [[.int .i64 most,.int .i64 j,.map (some m1),.map (some m2)]] true)) := (sets_row h rfl (by simp)).trans rfl
theorem RelI.step {n' : Nat} {E1' : List MA.En} {E2' : List MB.En} {L' : List Pr} {S1 S2 : HS} (h : RelI r m1 m2 n most E1 E2 L S) (h1 : MA.MS m1 E1' S1) (ch1 : Chg (MA.OM m1 E1) (MA.OM m1 E1') S S1) (h2 : MB.MS m2 E2' S2) (ch2 : Chg (MB.OM m2 E2) (MB.OM m2 E2') S1 S2)
  (me1 : ∀ a b,MA.mem E1' a b ↔ (a,b) ∈ L') (me2 : ∀ b a,MB.mem E2' b a ↔ (a,b) ∈ L') (ne1 : ∀ e ∈ E1',e.xs ≠ []) (ne2 : ∀ e ∈ E2',e.xs ≠ []) (c1 : ∀ e ∈ E1',e.xs.length ≤ n') (c2 : ∀ e ∈ E2',e.xs.length ≤ n') (nd : L'.Nodup) (ll : L'.length ≤ n') (nn : n' ≤ 900) :
  S2.heap r = S.heap r ∧ RelI r m1 m2 n' most E1' E2' L' (S2.put r (.cells 4 [[.int .i64 most,.int .i64 L'.length,.map (some m1),.map (some m2)]] true)) ∧ Chg (OR r m1 m2 E1 E2) (OR r m1 m2 E1' E2') S (S2.put r (.cells 4 [[.int .i64 most,.int .i64 L'.length,.map (some m1),.map (some m2)]] true)) := by
 have l1 := ch1.le
 have l2 := ch2.le
 have hr := h.lt
 have o1 : ∀ id,MA.OM m1 E1' id → ¬ MB.OM m2 E2 id := fun id g1 g2 => by
  rcases ch1.own id g1 with g | g
  ·exact h.d12 id g g2
  ·have := h.ms2.ltO g2; omega
 have d12 : ∀ id,MA.OM m1 E1' id → ¬ MB.OM m2 E2' id := fun id g1 g2 => by
  rcases ch2.own id g2 with g | g
  ·exact o1 id g1 g
  ·have := h1.ltO g1; omega
 have dr1 : ¬ MA.OM m1 E1' r := fun g => by
  rcases ch1.own r g with g' | g'
  ·exact h.dr1 g'
  ·omega
 have dr2 : ¬ MB.OM m2 E2' r := fun g => by
  rcases ch2.own r g with g' | g'
  ·exact h.dr2 g'
  ·omega
 refine ⟨(ch2.eq r (by omega) h.dr2).trans (ch1.eq r hr h.dr1),⟨put_here _ _ _,?_,?_,d12,dr1,dr2,by rw [put_next]; omega,me1,me2,ne1,ne2,c1,c2,nd,ll,nn⟩,⟨by rw [put_next]; omega,fun id g1 g2 => ?_,fun id g => ?_⟩⟩
 ·exact h1.keep (fun id g => by
   have := h1.ltO g
   rw [put_other _ (fun e => dr1 (by rw [← e]; exact g)),ch2.eq id this (o1 id g)]) (by rw [put_next]; omega)
 ·exact h2.keep (fun id g => put_other _ (fun e => dr2 (by rw [← e]; exact g))) (Nat.le_refl _)
 ·rw [put_other _ (fun e => g2 (.inl e)),ch2.eq id (by omega) (fun g => g2 (.inr (.inr g))),ch1.eq id g1 (fun g => g2 (.inr (.inl g)))]
 ·rcases g with g | g | g
  ·exact .inl (.inl g)
  ·exact (ch1.own id g).imp (fun g => .inr (.inl g)) (fun g => g)
  ·rcases ch2.own id g with g' | g'
   ·exact .inl (.inr (.inr g'))
   ·exact .inr (by omega)
theorem add_rel {k : Nat} (hk : 2000 ≤ k) (h : RelI r m1 m2 n most E1 E2 L S) (hn : n + 1 ≤ 900) (a : Int) (b : List UInt8) {xs : List KS.Ky} (hs : KS.Srt xs) (hm : ∀ v,v ∈ xs ↔ (a,v) ∈ L) :
  ∃ E1' E2' S',pair_Rel_int_string_Add.f k (some (HA.cell0 r)) a b S = some ((if (a,b) ∈ L then 6 else if most ≤ xs.length then 7 else 0),S') ∧ RelI r m1 m2 (n + 1) most E1' E2' (if (a,b) ∈ L then L else if most ≤ xs.length then L else L ++ [(a,b)]) S' ∧ Chg (OR r m1 m2 E1 E2) (OR r m1 m2 E1' E2') S S' := by
 rw [pair_Rel_int_string_Add.f,if_neg (by simp),has_rel hk h,Option.bind_some]
 by_cases hin : (a,b) ∈ L
 ·simp only [hin,decide_true,if_true]
  exact ⟨E1,E2,S,rfl,h.mono (by omega) hn,Chg.refl _ _⟩
 ·simp only [hin,decide_false,if_false,Bool.false_eq_true]
  rw [count_rel h a hs hm,Option.bind_some,Option.bind_some]
  simp only [h.ldm,Option.bind_some,if_true]
  by_cases hf : most ≤ (xs.length : Int)
  ·simp only [if_pos (show (xs.length : Int) ≥ most from hf),if_pos hf]
   exact ⟨E1,E2,S,rfl,h.mono (by omega) hn,Chg.refl _ _⟩
  ·obtain ⟨E1',S1,e1,g1,g2,g3,g4,g5⟩ := MA.put_spec (v := b) (key := a) hk h.ms1 h.ne1 h.c1 (by omega)
   have l1 := g2.le
   have h2 : MB.MS m2 E2 S1 := h.ms2.keep (fun id g => g2.eq id (h.ms2.ltO g) (fun g' => h.d12 id g' g)) l1
   obtain ⟨E2',S2,e2,k1,k2,k3,k4,k5⟩ := MB.put_spec (v := a) (key := b) hk h2 h.ne2 h.c2 (by omega)
   have hcell1 : S1.heap r = S.heap r := g2.eq r h.lt h.dr1
   obtain ⟨q1,q2,q3⟩ := h.step (L' := L ++ [(a,b)]) g1 g2 k1 k2 (fun a' b' => by rw [g3,h.me1]; simp) (fun b' a' => by rw [k3,h.me2]; simp [and_comm]) g4 k4 g5 k5 (by
    rw [List.nodup_append]
    exact ⟨h.nd,by simp,fun x hx y hy => by simp at hy; subst hy; intro e; subst e; exact hin hx⟩) (by simp; exact h.ll) hn
   have hld2 : S1.ldM (HA.fld (HA.cell0 r) 3) = some (some m2) := row_ldM (cell_row (hcell1.trans h.cell)) rfl rfl
   have hcell2 := q1.trans h.cell
   have hldn : S2.ldI .i64 (HA.fld (HA.cell0 r) 1) = some (L.length : Int) := row_ldI (cell_row hcell2) rfl rfl
   have hll := h.ll
   simp only [if_neg (show ¬ ((xs.length : Int) ≥ most) from hf),if_neg hf,h.ld1,Option.bind_some,e1,hld2,e2,hldn]
   rw [w64_id (by omega) (by omega),cnt_put hcell2,Option.bind_some,show ((L.length : Int) + 1) = ((L ++ [(a,b)]).length : Int) by simp]
   exact ⟨E1',E2',_,rfl,q2,q3⟩
theorem remove_rel {k : Nat} (hk : 2000 ≤ k) (h : RelI r m1 m2 n most E1 E2 L S) (a : Int) (b : List UInt8) :
  ∃ E1' E2' S',pair_Rel_int_string_Remove.f k (some (HA.cell0 r)) a b S = some (decide ((a,b) ∈ L),S') ∧ RelI r m1 m2 n most E1' E2' (wo (a,b) L) S' ∧ Chg (OR r m1 m2 E1 E2) (OR r m1 m2 E1' E2') S S' := by
 rw [pair_Rel_int_string_Remove.f,has_rel hk h,Option.bind_some]
 by_cases hin : (a,b) ∈ L
 ·simp only [hin,decide_true,Bool.not_true,Bool.false_eq_true,if_false]
  obtain ⟨E1',S1,e1,g1,g2,g3,g4,g5⟩ := MA.take_spec (v := b) (key := a) hk h.ms1 h.ne1 h.c1 ((h.me1 a b).2 hin)
  have l1 := g2.le
  have h2 : MB.MS m2 E2 S1 := h.ms2.keep (fun id g => g2.eq id (h.ms2.ltO g) (fun g' => h.d12 id g' g)) l1
  obtain ⟨E2',S2,e2,k1,k2,k3,k4,k5⟩ := MB.take_spec (v := a) (key := b) hk h2 h.ne2 h.c2 ((h.me2 b a).2 hin)
  have hcell1 : S1.heap r = S.heap r := g2.eq r h.lt h.dr1
  have hfl := wo_len h.nd hin
  have hpos : 0 < L.length := List.length_pos_of_mem hin
  have hll := h.ll
  have hnn := h.nn
  obtain ⟨q1,q2,q3⟩ := h.step (n' := n) (L' := wo (a,b) L) g1 g2 k1 k2 (fun a' b' => by rw [g3,h.me1,wo_mem,Ne,Prod.mk.injEq]) (fun b' a' => by rw [k3,h.me2,wo_mem,Ne,Prod.mk.injEq]; simp only [and_comm]) g4 k4 g5 k5 (h.nd.sublist List.filter_sublist) (by omega) h.nn
  have hld2 : S1.ldM (HA.fld (HA.cell0 r) 3) = some (some m2) := row_ldM (cell_row (hcell1.trans h.cell)) rfl rfl
  have hcell2 := q1.trans h.cell
  have hldn : S2.ldI .i64 (HA.fld (HA.cell0 r) 1) = some (L.length : Int) := row_ldI (cell_row hcell2) rfl rfl
  simp only [h.ld1,Option.bind_some,e1,hld2,e2,hldn]
  rw [w64_id (by omega) (by omega),cnt_put hcell2,Option.bind_some,show ((L.length : Int) - 1) = ((wo (a,b) L).length : Int) by rw [hfl]; omega]
  exact ⟨E1',E2',_,rfl,q2,q3⟩
 ·simp only [hin,decide_false,Bool.not_false,if_true]
  refine ⟨E1,E2,S,rfl,?_,Chg.refl _ _⟩
  rw [wo_no hin]
  exact h
end
end Go.Proofs.YtcphapfclncggaaGreatDoor.X
namespace Go.Proofs.YtcphapfclncggaaGreatDoor.X
open Go.Proofs.YtcphapfclncggaaGreatDoor.HL
set_option linter.unusedVariables false
def low (b : UInt8) : UInt8 := if 65 ≤ b.toNat ∧ b.toNat ≤ 93 then b + 32 else if b.toNat = 126 then 94 else b
theorem all_bytes {p : UInt8 → Prop} (h : ∀ n : Fin 256,p (UInt8.ofNat n.val)) (b : UInt8) : p b := by
 have := h ⟨b.toNat,b.toNat_lt⟩
 simpa using this
theorem byte_spec (b : UInt8) : fold_Byte.f (b.toNat : Int) = some ((low b).toNat : Int) :=
 all_bytes (p := fun b => fold_Byte.f (b.toNat : Int) = some ((low b).toNat : Int)) (by decide +kernel) b
def look (y : Nat) : List UInt8 → List UInt8 → Nat
 | a :: s,b :: t => if a.toNat = y then b.toNat else look y s t
 | _,_ => y
theorem refByte_loop {k y : Nat} {src dst : List UInt8} (hl : dst.length = src.length) (hs : src.length ≤ 100000) : ∀ (n i : Nat),src.length - i < n → i ≤ src.length →
  rollcallref01_Byte.L0 k n y src dst (i : Int) = some (look y (src.drop i) (dst.drop i) : Int) := by
 intro n
 induction n with
 | zero => intro i h; omega
 | succ n ih =>
  intro i h hi
  unfold rollcallref01_Byte.L0
  by_cases hlt : i < src.length
  ·rw [if_pos (by omega),sat_lt hlt,Option.bind_some,List.drop_eq_getElem_cons hlt,List.drop_eq_getElem_cons (show i < dst.length by omega)]
   by_cases he : src[i].toNat = y
   ·rw [if_pos (by omega),sat_lt (show i < dst.length by omega)]
    simp [look,he]
   ·rw [if_neg (by omega),w64_id (by omega) (by omega)]
    have := ih (i + 1) (by omega) (by omega)
    rw [show ((i : Int) + 1) = ((i + 1 : Nat) : Int) by simp,this]
    simp [look,he]
  ·rw [if_neg (by omega),List.drop_eq_nil_of_le (by omega)]
   simp [look]
theorem refByte_spec {k : Nat} (hk : 31 ≤ k) (b : UInt8) : rollcallref01_Byte.f k (b.toNat : Int) = some ((low b).toNat : Int) := by
 unfold rollcallref01_Byte.f
 have := refByte_loop (k := k) (y := b.toNat) (src := [65,66,67,68,69,70,71,72,73,74,75,76,77,78,79,80,81,82,83,84,85,86,87,88,89,90,91,93,92,126]) (dst := [97,98,99,100,101,102,103,104,105,106,107,108,109,110,111,112,113,114,115,116,117,118,119,120,121,122,123,125,124,94]) rfl (by decide) k 0 (by simp; omega) (by simp)
 refine this.trans ?_
 congr 2
 exact all_bytes (p := fun b => look b.toNat (List.drop 0 [65,66,67,68,69,70,71,72,73,74,75,76,77,78,79,80,81,82,83,84,85,86,87,88,89,90,91,93,92,126]) (List.drop 0 [97,98,99,100,101,102,103,104,105,106,107,108,109,110,111,112,113,114,115,116,117,118,119,120,121,122,123,125,124,94]) = (low b).toNat) (by decide +kernel) b
theorem row_of (b : UInt8) : [[HV.int .u8 (b.toNat : Int)]] = bytesRows [b] := rfl
theorem take_succ_map {x : List UInt8} {i : Nat} (h : i < x.length) : (x.take (i + 1)).map low = (x.take i).map low ++ [low x[i]] := by
 rw [List.take_succ_eq_append_getElem h,List.map_append]; rfl
theorem text_loop {k m : Nat} {x : List UInt8} (hx : x.length ≤ 100000) : ∀ (n i : Nat) (s : Sl) (S : HS),x.length - i < n → i ≤ x.length → m ≤ S.next → Vec m S 1 s (bytesRows ((x.take i).map low)) →
  ∃ S',fold_Text.L0 k n x s (x.length : Int) (i : Int) S = some (x.map low,S') ∧ Fr m S S' := by
 intro n
 induction n with
 | zero => intro i s S h; omega
 | succ n ih =>
  intro i s S h hi hm hv
  unfold fold_Text.L0
  by_cases hlt : i < x.length
  ·rw [if_pos (by omega),sat_lt hlt,Option.bind_some,byte_spec,Option.bind_some,letv,row_of]
   have hl := Vec.lit (n := m) (z := 1) (S := S) (bytesRows [low x[i]]) hm
   rw [hl.rows,Option.bind_some]
   have hv2 : Vec m (S.lit (bytesRows [low x[i]]) 1).2 1 s (bytesRows ((x.take i).map low)) := hv.new _
   obtain ⟨s',S',e,hv3,hf⟩ := hv2.app (new := bytesRows [low x[i]]) (Nat.le_trans hm (lit_fr (n := 0) _ (Nat.zero_le _)).le) (by simp [bytesRows]; omega)
   rw [e,Option.bind_some,w64_id (by omega) (by omega),show ((i : Int) + 1) = ((i + 1 : Nat) : Int) by simp]
   rw [← bytesRows_app,← take_succ_map hlt] at hv3
   have hf0 := (lit_fr (n := m) (z := 1) (S := S) (bytesRows [low x[i]]) hm).trans hf
   obtain ⟨S2,e2,hf2⟩ := ih (i + 1) s' S' (by omega) (by omega) (Nat.le_trans hm hf0.le) hv3
   exact ⟨S2,e2,hf0.trans hf2⟩
  ·obtain rfl : i = x.length := by omega
   rw [List.take_length] at hv
   rw [if_neg (by omega),hv.text]
   exact ⟨S,rfl,Fr.refl _ _⟩
theorem text_spec {k m : Nat} {x : List UInt8} {S : HS} (hx : x.length ≤ 100000) (hk : x.length < k) (hm : m ≤ S.next) : ∃ S',fold_Text.f k x S = some (x.map low,S') ∧ Fr m S S' := by
 unfold fold_Text.f
 obtain ⟨s,S1,e,hv,hf⟩ := Vec.make (n := m) (S := S) (c := x.length) (zr := [.int .u8 0]) hm (by omega) (by omega)
 rw [e,Option.bind_some]
 obtain ⟨S2,e2,hf2⟩ := text_loop (k := k) (m := m) hx k 0 s S1 (by omega) (by omega) (Nat.le_trans hm hf.le) hv
 exact ⟨S2,e2,hf.trans hf2⟩
theorem refText_loop {k m : Nat} {x : List UInt8} (hx : x.length ≤ 100000) (hk : 31 ≤ k) : ∀ (n i : Nat) (S : HS),x.length - i < n → i ≤ x.length → m ≤ S.next →
  ∃ S',rollcallref01_Text.L0 k n x ((x.take i).map low) (i : Int) S = some (x.map low,S') ∧ Fr m S S' := by
 intro n
 induction n with
 | zero => intro i S h; omega
 | succ n ih =>
  intro i S h hi hm
  unfold rollcallref01_Text.L0
  by_cases hlt : i < x.length
  ·rw [if_pos (by omega),sat_lt hlt,Option.bind_some,refByte_spec hk,Option.bind_some,letv,row_of]
   have hl := Vec.lit (n := m) (z := 1) (S := S) (bytesRows [low x[i]]) hm
   rw [hl.text,Option.bind_some,if_pos (by simp; omega),w64_id (by omega) (by omega),show ((i : Int) + 1) = ((i + 1 : Nat) : Int) by simp,← take_succ_map hlt]
   have hf0 := lit_fr (n := m) (z := 1) (S := S) (bytesRows [low x[i]]) hm
   obtain ⟨S2,e2,hf2⟩ := ih (i + 1) _ (by omega) (by omega) (Nat.le_trans hm hf0.le)
   exact ⟨S2,e2,hf0.trans hf2⟩
  ·rw [if_neg (by omega),show i = x.length by omega,List.take_length]
   exact ⟨S,rfl,Fr.refl _ _⟩
theorem refText_spec {k m : Nat} {x : List UInt8} {S : HS} (hx : x.length ≤ 100000) (hk : x.length < k) (hk2 : 31 ≤ k) (hm : m ≤ S.next) : ∃ S',rollcallref01_Text.f k x S = some (x.map low,S') ∧ Fr m S S' :=
 refText_loop hx hk2 k 0 S (by omega) (by omega) hm
theorem refSame_spec {k m : Nat} {x y : List UInt8} {S : HS} (hx : x.length ≤ 1000) (hy : y.length ≤ 1000) (hk : 2000 ≤ k) (hm : m ≤ S.next) : ∃ S',rollcallref01_Same.f k x y S = some (decide (x.map low = y.map low),S') ∧ Fr m S S' := by
 unfold rollcallref01_Same.f
 obtain ⟨S1,e1,f1⟩ := refText_spec (k := k) (m := m) (x := x) (S := S) (by omega) (by omega) (by omega) hm
 obtain ⟨S2,e2,f2⟩ := refText_spec (k := k) (m := m) (x := y) (S := S1) (by omega) (by omega) (by omega) (Nat.le_trans hm f1.le)
 exact ⟨S2,by rw [e1,Option.bind_some,e2,Option.bind_some],f1.trans f2⟩
def cmpL : List UInt8 → List UInt8 → Int
 | [],[] => 0
 | [],_ :: _ => -1
 | _ :: _,[] => 1
 | a :: s,b :: t => if (low a).toNat < (low b).toNat then -1 else if (low b).toNat < (low a).toNat then 1 else cmpL s t
theorem cmpL_slt : ∀ (x y : List UInt8),cmpL x y = if slt (x.map low) (y.map low) = true then -1 else if x.map low = y.map low then 0 else 1 := by
 intro x
 induction x with
 | nil => intro y; cases y <;> simp [cmpL,slt]
 | cons a s ih =>
  intro y
  cases y with
  | nil => simp [cmpL,slt]
  | cons b t =>
   simp only [cmpL,List.map_cons,slt,Bool.or_eq_true,decide_eq_true_eq,Bool.and_eq_true,beq_iff_eq,UInt8.lt_iff_toNat_lt,List.cons.injEq]
   by_cases c1 : (low a).toNat < (low b).toNat
   ·simp [c1]
   ·by_cases c2 : (low b).toNat < (low a).toNat
    ·have hne : low a ≠ low b := fun h => by rw [h] at c2; omega
     simp [c1,c2,hne]
    ·have heq : low a = low b := UInt8.toNat_inj.1 (by omega)
     rw [ih]
     simp [c1,c2,heq]
theorem refCompare_spec {k m : Nat} {x y : List UInt8} {S : HS} (hx : x.length ≤ 1000) (hy : y.length ≤ 1000) (hk : 2000 ≤ k) (hm : m ≤ S.next) : ∃ S',rollcallref01_Compare.f k x y S = some (cmpL x y,S') ∧ Fr m S S' := by
 unfold rollcallref01_Compare.f
 obtain ⟨S1,e1,f1⟩ := refText_spec (k := k) (m := m) (x := x) (S := S) (by omega) (by omega) (by omega) hm
 obtain ⟨S2,e2,f2⟩ := refText_spec (k := k) (m := m) (x := y) (S := S1) (by omega) (by omega) (by omega) (Nat.le_trans hm f1.le)
 refine ⟨S2,?_,f1.trans f2⟩
 rw [e1,Option.bind_some,e2,Option.bind_some,cmpL_slt]
 by_cases c1 : slt (x.map low) (y.map low) = true
 ·rw [if_pos c1,if_pos c1]
 ·rw [if_neg c1,if_neg c1]
  by_cases c2 : x.map low = y.map low
  ·rw [if_neg (by simp [c2]),if_pos c2]
  ·rw [if_pos (by simp [c1,c2]),if_neg c2]
theorem nodup_sub {α : Type} [DecidableEq α] : ∀ (l m : List α),l.Nodup → (∀ x ∈ l,x ∈ m) → l.length ≤ m.length := by
 intro l
 induction l with
 | nil => intro m _ _; simp
 | cons x l ih =>
  intro m hn hs
  have hn' := List.nodup_cons.1 hn
  have h1 := ih (m.erase x) hn'.2 fun y hy => (List.mem_erase_of_ne (by rintro rfl; exact hn'.1 hy)).2 (hs y (by simp [hy]))
  have hx := hs x (by simp)
  rw [List.length_erase_of_mem hx] at h1
  have := List.length_pos_of_mem hx
  rw [List.length_cons]; omega
end Go.Proofs.YtcphapfclncggaaGreatDoor.X
namespace Go.Proofs.YtcphapfclncggaaGreatDoor.X
open Go.Proofs.YtcphapfclncggaaGreatDoor.HL
set_option linter.unusedVariables false
abbrev Wn := Int × List UInt8
def pk (x : Wn) : Pr := (x.1,x.2.map low)
def entW (x : Wn) : HV × HV := (.agg [.int .i64 x.1,.str (x.2.map low)],.str x.2)
theorem kSame_wish (a b : Pr) : kSame (.agg [.int .i64 a.1,.str a.2]) (.agg [.int .i64 b.1,.str b.2]) = some (decide (a = b)) := by
 obtain ⟨a1,a2⟩ := a
 obtain ⟨b1,b2⟩ := b
 by_cases h1 : a1 = b1
 ·subst h1
  by_cases h2 : a2 = b2
  ·subst h2; simp [kSame,kSames,kSame1]
  ·have e2 : (a2 == b2) = false := by simp [h2]
   simp [kSame,kSames,kSame1,h2,e2]
 ·have e1 : (a1 == b1) = false := by simp [h1]
  simp [kSame,kSames,kSame1,h1,e1]
theorem map_erase {α β : Type} (f : α → β) : ∀ (l : List α) (j : Nat),(l.eraseIdx j).map f = (l.map f).eraseIdx j
 | [],_ => rfl
 | _ :: _,0 => rfl
 | a :: l,j + 1 => by simp [map_erase f l j]
theorem wfind_no {t : Pr} : ∀ {X : List Wn} {i : Nat},t ∉ X.map pk → mfind (.agg [.int .i64 t.1,.str t.2]) (X.map entW) i = some none
 | [],i,_ => rfl
 | x :: X,i,h => by
  rw [List.map_cons,List.mem_cons,not_or] at h
  rw [List.map_cons,entW,mfind]
  have := kSame_wish t (pk x)
  rw [show (pk x).1 = x.1 from rfl,show (pk x).2 = x.2.map low from rfl,decide_eq_false h.1] at this
  simp only [this]
  exact wfind_no h.2
theorem wfind_at {X : List Wn} (hn : (X.map pk).Nodup) : ∀ {i j : Nat} (hj : j < X.length),mfind (.agg [.int .i64 (pk X[j]).1,.str (pk X[j]).2]) (X.map entW) i = some (some (i + j,.str X[j].2)) := by
 induction X with
 | nil => intro i j hj; simp at hj
 | cons x X ih =>
  intro i j hj
  rw [List.map_cons,List.nodup_cons] at hn
  cases j with
  | zero =>
   rw [List.map_cons,entW,mfind]
   have := kSame_wish (pk x) (pk x)
   rw [decide_eq_true rfl] at this
   simp only [pk] at this
   simp only [List.getElem_cons_zero,pk,this,Nat.add_zero]
  | succ j =>
   simp only [List.length_cons,Nat.add_lt_add_iff_right] at hj
   have hne : pk X[j] ≠ pk x := fun e => hn.1 (by rw [← e]; exact List.mem_map.2 ⟨X[j],List.getElem_mem hj,rfl⟩)
   rw [List.map_cons,entW,mfind]
   have := kSame_wish (pk X[j]) (pk x)
   rw [decide_eq_false hne] at this
   simp only [pk] at this
   simp only [List.getElem_cons_succ,pk,this]
   have := ih hn.2 (i := i + 1) hj
   simp only [pk] at this
   rw [this]
   congr 3; omega
theorem erase_pk {X : List Wn} (hn : (X.map pk).Nodup) {j : Nat} (hj : j < X.length) : X.eraseIdx j = X.filter fun x => !decide (pk x = pk X[j]) := by
 induction X generalizing j with
 | nil => simp at hj
 | cons x X ih =>
  rw [List.map_cons,List.nodup_cons] at hn
  cases j with
  | zero =>
   rw [List.eraseIdx_cons_zero,List.getElem_cons_zero,List.filter_cons_of_neg (by simp)]
   exact (List.filter_eq_self.2 fun y hy => by
    simp only [Bool.not_eq_true',decide_eq_false_iff_not]
    intro e; exact hn.1 (by rw [← e]; exact List.mem_map.2 ⟨y,hy,rfl⟩)).symm
  | succ j =>
   simp only [List.length_cons,Nat.add_lt_add_iff_right] at hj
   have hne : pk x ≠ pk X[j] := fun e => hn.1 (by rw [e]; exact List.mem_map.2 ⟨X[j],List.getElem_mem hj,rfl⟩)
   rw [List.eraseIdx_cons_succ,List.getElem_cons_succ,List.filter_cons_of_pos (by simp [hne]),ih hn.2 hj]
def wox (t : Pr) (X : List Wn) : List Wn := X.filter fun x => !decide (pk x = t)
theorem wox_map (t : Pr) (X : List Wn) : (wox t X).map pk = wo t (X.map pk) := by
 induction X with
 | nil => rfl
 | cons x X ih =>
  unfold wox wo at ih ⊢
  by_cases h : pk x = t
  ·rw [List.filter_cons_of_neg (by simp [h]),List.map_cons,List.filter_cons_of_neg (by simp [h]),ih]
  ·rw [List.filter_cons_of_pos (by simp [h]),List.map_cons,List.map_cons,List.filter_cons_of_pos (by simp [h]),ih]
theorem wox_no {t : Pr} {X : List Wn} (h : t ∉ X.map pk) : wox t X = X := List.filter_eq_self.2 fun y hy => by
 simp only [Bool.not_eq_true',decide_eq_false_iff_not]
 intro e; exact h (by rw [← e]; exact List.mem_map.2 ⟨y,hy,rfl⟩)
theorem wox_mem {t : Pr} {X : List Wn} {x : Wn} : x ∈ wox t X ↔ x ∈ X ∧ pk x ≠ t := by simp [wox]
def OW (w am r m1 m2 : Nat) (E1 : List MA.En) (E2 : List MB.En) (id : Nat) : Prop := id = w ∨ id = am ∨ OR r m1 m2 E1 E2 id
structure WI (w am r m1 m2 n : Nat) (most : Int) (E1 : List MA.En) (E2 : List MB.En) (X : List Wn) (S : HS) : Prop where
 cell : S.heap w = .cells 2 [[.ptr (some (HA.cell0 r)),.map (some am)]] true
 map : S.heap am = .map (X.map entW)
 rel : RelI r m1 m2 n most E1 E2 (X.map pk) S
 wa : w ≠ am
 dw : ¬ OR r m1 m2 E1 E2 w
 da : ¬ OR r m1 m2 E1 E2 am
 lw : w < S.next
 la : am < S.next
section
variable {w am r m1 m2 n : Nat} {most : Int} {E1 : List MA.En} {E2 : List MB.En} {X : List Wn} {S : HS}
theorem WI.ltO (h : WI w am r m1 m2 n most E1 E2 X S) {id : Nat} (ho : OW w am r m1 m2 E1 E2 id) : id < S.next := by
 rcases ho with rfl | rfl | g
 ·exact h.lw
 ·exact h.la
 ·exact h.rel.ltO g
theorem WI.keep {S' : HS} (h : WI w am r m1 m2 n most E1 E2 X S) (hk : ∀ id,OW w am r m1 m2 E1 E2 id → S'.heap id = S.heap id) (hn : S.next ≤ S'.next) : WI w am r m1 m2 n most E1 E2 X S' :=
 ⟨(hk _ (.inl rfl)).trans h.cell,(hk _ (.inr (.inl rfl))).trans h.map,h.rel.keep (fun id ho => hk id (.inr (.inr ho))) hn,h.wa,h.dw,h.da,Nat.lt_of_lt_of_le h.lw hn,Nat.lt_of_lt_of_le h.la hn⟩
theorem WI.fr {S' : HS} (h : WI w am r m1 m2 n most E1 E2 X S) (hf : Fr S.next S S') : WI w am r m1 m2 n most E1 E2 X S' := h.keep (fun id ho => hf.eq id (h.ltO ho)) hf.le
theorem WI.mono {n' : Nat} (h : WI w am r m1 m2 n most E1 E2 X S) (hn : n ≤ n') (hn' : n' ≤ 900) : WI w am r m1 m2 n' most E1 E2 X S := { h with rel := h.rel.mono hn hn' }
theorem WI.ldp (h : WI w am r m1 m2 n most E1 E2 X S) : S.ldP (HA.fld (HA.cell0 w) 0) = some (some (HA.cell0 r)) := row_ldP (cell_row h.cell) rfl rfl
theorem WI.ldm (h : WI w am r m1 m2 n most E1 E2 X S) : S.ldM (HA.fld (HA.cell0 w) 1) = some (some am) := row_ldM (cell_row h.cell) rfl rfl
theorem WI.look_at (h : WI w am r m1 m2 n most E1 E2 X S) {x : Wn} (hx : x ∈ X) : S.look (some am) (.agg [.int .i64 x.1,.str (x.2.map low)]) = some (some (.str x.2)) := by
 obtain ⟨j,hj,rfl⟩ := List.getElem_of_mem hx
 have := wfind_at h.rel.nd (i := 0) hj
 simp only [pk] at this
 simp only [HS.look,HS.mp,h.map,Option.bind_some,this]; rfl
theorem Chg.wide {O O' P P' : Nat → Prop} {S S' : HS} (h : Chg O O' S S') (hO : ∀ id,O id → P id) (hP : ∀ id,P' id → P id ∨ S.next ≤ id) : Chg P P' S S' := ⟨h.le,fun id h1 h2 => h.eq id h1 (fun ho => h2 (hO id ho)),hP⟩
theorem WI.rel_step {n' : Nat} {E1' : List MA.En} {E2' : List MB.En} {L' : List Pr} {S1 : HS} (h : WI w am r m1 m2 n most E1 E2 X S) (h1 : RelI r m1 m2 n' most E1' E2' L' S1) (ch : Chg (OR r m1 m2 E1 E2) (OR r m1 m2 E1' E2') S S1) :
  S1.heap w = S.heap w ∧ S1.heap am = S.heap am ∧ ¬ OR r m1 m2 E1' E2' w ∧ ¬ OR r m1 m2 E1' E2' am := by
 have hw := h.lw
 have ha := h.la
 refine ⟨ch.eq w hw h.dw,ch.eq am ha h.da,fun ho => ?_,fun ho => ?_⟩
 ·rcases ch.own _ ho with g | g
  ·exact h.dw g
  ·omega
 ·rcases ch.own _ ho with g | g
  ·exact h.da g
  ·omega
theorem ow_chg {E1' : List MA.En} {E2' : List MB.En} {S S1 : HS} (ch : Chg (OR r m1 m2 E1 E2) (OR r m1 m2 E1' E2') S S1) : Chg (OW w am r m1 m2 E1 E2) (OW w am r m1 m2 E1' E2') S S1 :=
 ch.wide (fun id ho => .inr (.inr ho)) (fun id ho => by
  rcases ho with g | g | g
  ·exact .inl (.inl g)
  ·exact .inl (.inr (.inl g))
  ·exact (ch.own id g).elim (fun h => .inl (.inr (.inr h))) .inr)
theorem has_w {k : Nat} (hk : 2000 ≤ k) (h : WI w am r m1 m2 n most E1 E2 X S) (id : Int) (name : List UInt8) (hl : name.length ≤ 1000) : ∃ S',wish_Lists_Has.f k (some (HA.cell0 w)) id name S = some (decide ((id,name.map low) ∈ X.map pk),S') ∧ Fr S.next S S' := by
 obtain ⟨S1,e1,f1⟩ := text_spec (k := k) (m := S.next) (x := name) (S := S) (by omega) (by omega) (Nat.le_refl _)
 have h1 := h.fr f1
 rw [wish_Lists_Has.f,if_pos (by simp),Option.bind_some,h.ldp,Option.bind_some,e1,Option.bind_some,h1.ldp,Option.bind_some,if_pos rfl,has_rel hk h1.rel,Option.bind_some]
 exact ⟨S1,rfl,f1⟩
theorem count_w (h : WI w am r m1 m2 n most E1 E2 X S) (id : Int) {xs : List KS.Ky} (hs : KS.Srt xs) (hm : ∀ v,v ∈ xs ↔ (id,v) ∈ X.map pk) : wish_Lists_Count.f (some (HA.cell0 w)) id S = some ((xs.length : Int),S) := by
 rw [wish_Lists_Count.f,if_neg (by simp),Option.bind_some,h.ldp,Option.bind_some,count_rel h.rel id hs hm]; rfl
theorem add_w {k : Nat} (hk : 2000 ≤ k) (h : WI w am r m1 m2 n most E1 E2 X S) (hn : n + 1 ≤ 900) (id : Int) (name : List UInt8) (hl : name.length ≤ 1000) {xs : List KS.Ky} (hs : KS.Srt xs) (hm : ∀ v,v ∈ xs ↔ (id,v) ∈ X.map pk) :
  ∃ E1' E2' S',wish_Lists_Add.f k (some (HA.cell0 w)) id name S = some ((if (id,name.map low) ∈ X.map pk then 6 else if most ≤ xs.length then 7 else 0),S') ∧ WI w am r m1 m2 (n + 1) most E1' E2' (if (id,name.map low) ∈ X.map pk then X else if most ≤ xs.length then X else X ++ [(id,name)]) S' ∧ Chg (OW w am r m1 m2 E1 E2) (OW w am r m1 m2 E1' E2') S S' := by
 obtain ⟨S1,e1,f1⟩ := text_spec (k := k) (m := S.next) (x := name) (S := S) (by omega) (by omega) (Nat.le_refl _)
 have h1 := h.fr f1
 obtain ⟨E1',E2',S2,e2,q2,c2⟩ := add_rel hk h1.rel hn id (name.map low) hs hm
 obtain ⟨b1,b2,b3,b4⟩ := h1.rel_step q2 c2
 have l1 := f1.le
 have l2 := c2.le
 have hlw := h.lw
 have hla := h.la
 have cc : Chg (OW w am r m1 m2 E1 E2) (OW w am r m1 m2 E1' E2') S S2 := (Chg.of_fr f1).trans (ow_chg c2)
 rw [wish_Lists_Add.f,if_neg (by simp),e1,Option.bind_some,Option.bind_some,h1.ldp,Option.bind_some,e2,Option.bind_some]
 by_cases hin : (id,name.map low) ∈ X.map pk
 ·simp only [hin,if_true] at q2 ⊢
  rw [if_neg (by decide),wish_Lists_Add.J0]
  exact ⟨E1',E2',S2,rfl,⟨b1.trans h1.cell,b2.trans h1.map,q2,h.wa,b3,b4,by omega,by omega⟩,cc⟩
 ·simp only [hin,if_false] at q2 ⊢
  by_cases hf : most ≤ (xs.length : Int)
  ·simp only [hf,if_true] at q2 ⊢
   rw [if_neg (by decide),wish_Lists_Add.J0]
   exact ⟨E1',E2',S2,rfl,⟨b1.trans h1.cell,b2.trans h1.map,q2,h.wa,b3,b4,by omega,by omega⟩,cc⟩
  ·simp only [hf,if_false] at q2 ⊢
   have hld : S2.ldM (HA.fld (HA.cell0 w) 1) = some (some am) := row_ldM (cell_row (b1.trans h1.cell)) rfl rfl
   have hput : S2.mput (some am) (.agg [(.int .i64 id),(.str (name.map low))]) (.str name) = some (S2.put am (.map ((X ++ [(id,name)]).map entW))) := by
    have := wfind_no (t := (id,name.map low)) (i := 0) hin
    simp only [HS.mput,b2.trans h1.map,this,Option.map_some,List.map_append]; rfl
   rw [if_pos trivial,Option.bind_some,hld,Option.bind_some,hput,Option.bind_some,wish_Lists_Add.J0]
   have hal := h.la
   refine ⟨E1',E2',_,rfl,⟨?_,put_here _ _ _,?_,h.wa,b3,b4,by rw [put_next]; omega,by rw [put_next]; omega⟩,cc.trans ⟨Nat.le_refl _,fun i h1 h2 => put_other _ (fun e => h2 (.inr (.inl e))),fun i h => .inl h⟩⟩
   ·rw [put_other _ h.wa]; exact b1.trans h1.cell
   ·rw [List.map_append]
    exact q2.keep (fun i ho => put_other _ (fun e => b4 (e ▸ ho))) (Nat.le_refl _)
theorem remove_w {k : Nat} (hk : 2000 ≤ k) (h : WI w am r m1 m2 n most E1 E2 X S) (id : Int) (name : List UInt8) (hl : name.length ≤ 1000) :
  ∃ E1' E2' S',wish_Lists_Remove.f k (some (HA.cell0 w)) id name S = some (decide ((id,name.map low) ∈ X.map pk),S') ∧ WI w am r m1 m2 n most E1' E2' (wox (id,name.map low) X) S' ∧ Chg (OW w am r m1 m2 E1 E2) (OW w am r m1 m2 E1' E2') S S' := by
 obtain ⟨S1,e1,f1⟩ := text_spec (k := k) (m := S.next) (x := name) (S := S) (by omega) (by omega) (Nat.le_refl _)
 have h1 := h.fr f1
 have hla := h1.la
 have hlw := h1.lw
 have hdel : S1.mdel (some am) (.agg [(.int .i64 id),(.str (name.map low))]) = some (S1.put am (.map ((wox (id,name.map low) X).map entW))) := by
  by_cases hin : (id,name.map low) ∈ X.map pk
  ·obtain ⟨x,hx,hp⟩ := List.mem_map.1 hin
   obtain ⟨j,hj,rfl⟩ := List.getElem_of_mem hx
   have := wfind_at h1.rel.nd (i := 0) hj
   rw [hp] at this
   simp only [HS.mdel,h1.map,this,Option.map_some,Nat.zero_add]
   rw [show wox (id,name.map low) X = X.eraseIdx j from by rw [erase_pk h1.rel.nd hj,hp]; rfl,map_erase]
  ·have := wfind_no (t := (id,name.map low)) (i := 0) hin
   simp only [HS.mdel,h1.map,this,Option.map_some,wox_no hin]
 have hr1 : RelI r m1 m2 n most E1 E2 (X.map pk) (S1.put am (.map ((wox (id,name.map low) X).map entW))) := h1.rel.keep (fun i ho => put_other _ (fun e => h1.da (e ▸ ho))) (Nat.le_refl _)
 obtain ⟨E1',E2',S2,e2,q2,c2⟩ := remove_rel hk hr1 id (name.map low)
 have hld : (S1.put am (.map ((wox (id,name.map low) X).map entW))).ldP (HA.fld (HA.cell0 w) 0) = some (some (HA.cell0 r)) := row_ldP (cell_row ((put_other _ h.wa).trans h1.cell)) rfl rfl
 rw [wish_Lists_Remove.f,if_neg (by simp),e1,Option.bind_some,Option.bind_some,h1.ldm,Option.bind_some,hdel,Option.bind_some,Option.bind_some,hld,Option.bind_some,e2,Option.bind_some]
 have l2 := c2.le
 rw [put_next] at l2
 have bw : S2.heap w = S1.heap w := (c2.eq w (by rw [put_next]; omega) h1.dw).trans (put_other _ h.wa)
 have ba : S2.heap am = .map ((wox (id,name.map low) X).map entW) := (c2.eq am (by rw [put_next]; omega) h1.da).trans (put_here _ _ _)
 rw [← wox_map] at q2
 have dd : ∀ i,i < S1.next → ¬ OR r m1 m2 E1 E2 i → ¬ OR r m1 m2 E1' E2' i := fun i h1 h2 ho => by
  rcases c2.own i ho with g | g
  ·exact h2 g
  ·rw [put_next] at g; omega
 refine ⟨E1',E2',S2,rfl,⟨bw.trans h1.cell,ba,q2,h.wa,dd w hlw h1.dw,dd am hla h1.da,by omega,by omega⟩,((Chg.of_fr f1).trans (S'' := S1.put am (.map ((wox (id,name.map low) X).map entW))) (O'' := OW w am r m1 m2 E1 E2) ⟨Nat.le_refl _,fun i h1 h2 => put_other _ (fun e => h2 (.inr (.inl e))),fun i h => .inl h⟩).trans (ow_chg c2)⟩
end
theorem new_rel {most : Int} (h0 : 0 ≤ most) (h1 : most ≤ 100000) (S : HS) : ∃ S',pair_New_int_string.f most S = some ((some (HA.cell0 (S.next + 2)),0),S') ∧ RelI (S.next + 2) S.next (S.next + 1) 0 most [] [] [] S' ∧ Fr S.next S S' ∧ S'.next = S.next + 3 ∧ (∀ id,OR (S.next + 2) S.next (S.next + 1) [] [] id → S.next ≤ id) := by
 rw [pair_New_int_string.f,if_neg (by omega),pair_New_int_string.J0,if_neg (by rw [decide_eq_false (by omega)]; simp),letv,letv,letv]
 have e1 : ((S.new (.map [])).new (.map [])).heap S.next = .map [] := by rw [new_old _ (by rw [new_next]; omega)]; exact new_here _ _
 have e2 : ((S.new (.map [])).new (.map [])).heap (S.next + 1) = .map [] := new_here (S.new _) _
 have n2 : ((S.new (.map [])).new (.map [])).next = S.next + 2 := rfl
 have f2 : Fr S.next S ((S.new (.map [])).new (.map [])) := (Fr.new (Nat.le_refl _) _).trans (Fr.new (by rw [new_next]; omega) _)
 rw [show (S.new (.map [])).next = S.next + 1 from rfl,n2]
 generalize (S.new (.map [])).new (.map []) = T at e1 e2 n2 f2 ⊢
 have f3 : Fr T.next T (T.new (.cells 4 [[.int .i64 most,.int .i64 0,.map (some S.next),.map (some (S.next + 1))]] true)) := Fr.new (Nat.le_refl _) _
 refine ⟨_,rfl,⟨by rw [← n2]; exact new_here _ _,⟨(f3.eq _ (by omega)).trans e1,List.Pairwise.nil,fun e h => (by cases h),List.Pairwise.nil,fun e h => (by cases h),by rw [new_next]; omega⟩,⟨(f3.eq _ (by omega)).trans e2,List.Pairwise.nil,fun e h => (by cases h),List.Pairwise.nil,fun e h => (by cases h),by rw [new_next]; omega⟩,fun id g1 g2 => ?_,fun g => ?_,fun g => ?_,by rw [new_next]; omega,fun a b => ⟨fun ⟨e,h,_⟩ => (by cases h),fun h => (by cases h)⟩,fun a b => ⟨fun ⟨e,h,_⟩ => (by cases h),fun h => (by cases h)⟩,fun e h => (by cases h),fun e h => (by cases h),fun e h => (by cases h),fun e h => (by cases h),List.nodup_nil,Nat.le_refl _,by omega⟩,f2.trans (f3.mono (by omega)),by rw [new_next]; omega,fun id g => ?_⟩
 ·rcases g1 with g1 | ⟨e,h,_⟩
  ·rcases g2 with g2 | ⟨e,h,_⟩
   ·omega
   ·cases h
  ·cases h
 ·rcases g with g | ⟨e,h,_⟩
  ·omega
  ·cases h
 ·rcases g with g | ⟨e,h,_⟩
  ·omega
  ·cases h
 ·rcases g with g | (g | ⟨e,h,_⟩) | (g | ⟨e,h,_⟩)
  ·omega
  ·omega
  ·cases h
  ·omega
  ·cases h
theorem new_w {most : Int} (h0 : -9223372036854775808 ≤ most) (h1 : most ≤ 9223372036854775807) (S : HS) : ∃ S',wish_New.f most S = some (some (HA.cell0 (S.next + 4)),S') ∧ WI (S.next + 4) (S.next + 3) (S.next + 2) S.next (S.next + 1) 0 (mx 0 (mn most 100000)) [] [] [] S' ∧ Fr S.next S S' ∧ (∀ id,OW (S.next + 4) (S.next + 3) (S.next + 2) S.next (S.next + 1) [] [] id → S.next ≤ id) := by
 have hm : 0 ≤ mx 0 (mn most 100000) ∧ mx 0 (mn most 100000) ≤ 100000 := by unfold mx mn; split <;> split <;> omega
 obtain ⟨S1,e1,r1,f1,n1,o1⟩ := new_rel hm.1 hm.2 S
 rw [wish_New.f,e1,Option.bind_some,letv,letv]
 have n2 : (S1.new (.map [])).next = S.next + 4 := by rw [new_next,n1]
 have f2 : Fr S1.next S1 (S1.new (.map [])) := Fr.new (Nat.le_refl _) _
 have e2 : (S1.new (.map [])).heap (S.next + 3) = .map [] := by rw [← n1]; exact new_here _ _
 simp only [n2,n1]
 generalize S1.new (.map []) = A at n2 f2 e2 ⊢
 have f3 : Fr A.next A (A.new (.cells 2 [[(.ptr (some (HA.cell0 (S.next + 2)))),(.map (some (S.next + 3)))]] true)) := Fr.new (Nat.le_refl _) _
 have ho : ∀ id,OR (S.next + 2) S.next (S.next + 1) [] [] id → id < S.next + 3 := fun id h => by have := r1.ltO h; omega
 refine ⟨_,rfl,⟨by rw [← n2]; exact new_here _ _,(f3.eq _ (by omega)).trans e2,(r1.fr f2).fr f3,by omega,fun h => by have := ho _ h; omega,fun h => by have := ho _ h; omega,by rw [new_next]; omega,by rw [new_next]; omega⟩,(f1.trans (f2.mono (by omega))).trans (f3.mono (by omega)),fun id h => ?_⟩
 rcases h with rfl | rfl | h
 ·omega
 ·omega
 ·exact o1 id h
end Go.Proofs.YtcphapfclncggaaGreatDoor.X
namespace Go.Proofs.YtcphapfclncggaaGreatDoor.X
open Go.Proofs.YtcphapfclncggaaGreatDoor.HL
set_option linter.unusedVariables false
namespace KS
theorem of_tells {k n c : Nat} {B : HS} {s : Sl} {xs : List Ky} (hk : xs.length < k) (hx : xs.length ≤ 1000000) (hc : B.heap c = .cells 1 [[s.hv]] true) (hr : B.rows s 1 = some (xs.map row1)) (K : Nat → Prop) (hK : K c ∧ ∀ q,s.a = some q → K q.1) :
  Tells (disp k (n + 2)) (.fn (.func 42) [] [.ptr (some (HA.cell0 c))]) (xs.map row1) K B := by
 intro H l I Stop ht O S hI hB
 have hlen : (xs.map row1).length = xs.length := by simp
 have hcS : S.heap c = .cells 1 [[s.hv]] true := (hB c hK.1).1.trans hc
 have hrS : S.rows s 1 = some (xs.map row1) := rows_keep hr fun q hq => (hB q.1 (hK.2 q hq)).1
 have hloop : ∀ f i O1 T,xs.length - i < f → i ≤ xs.length → I i O1 T → S.next ≤ T.next → (∀ id,id < S.next → ¬ O id → T.heap id = S.heap id) → (∀ id,O1 id → O id ∨ S.next ≤ id) →
   ∃ S' O',wish_Lists_Of_1.L0 (disp k (n + 1)) H k f (.fn (.yield l) [] []) s (xs.length : Int) (i : Int) T = some ((),S') ∧ S.next ≤ S'.next ∧ (∀ id,id < S.next → ¬ O id → S'.heap id = S.heap id) ∧ (∀ id,O' id → O id ∨ S.next ≤ id) ∧ (I xs.length O' S' ∨ Stop O' S') := by
  intro f
  induction f with
  | zero => intro i O1 T h; omega
  | succ f ih =>
   intro i O1 T hf hi hIT hn hk2 hO
   rw [wish_Lists_Of_1.L0]
   by_cases hlt : i < xs.length
   ·have hrT : T.rows s 1 = some (xs.map row1) := rows_keep hrS fun q hq => hk2 q.1 (hB q.1 (hK.2 q hq)).2.2 (hB q.1 (hK.2 q hq)).2.1
    obtain ⟨ad,a1,a2⟩ := ldK_at hrT hlt
    obtain ⟨b,T2,O2,e2,n2,k2,o2,g1,g2⟩ := ht.step i (by omega) O1 T hIT
    have he : disp k (n + 1) H (.fn (.yield l) [] []) [.str xs[i]] T = some (.bool b,T2) := by
     rw [disp_yield,← e2,List.getElem_map]; rfl
    have hk3 : ∀ id,id < S.next → ¬ O id → T2.heap id = S.heap id := fun id h1 h2 => (k2 id (by omega) (fun ho => (hO id ho).elim h2 (fun h => by omega))).trans (hk2 id h1 h2)
    have hO3 : ∀ id,O2 id → O id ∨ S.next ≤ id := fun id h => (o2 id h).elim (hO id) (fun h => .inr (by omega))
    rw [if_pos (by omega),a1,Option.bind_some,a2,Option.bind_some,he,Option.bind_some]
    simp only [dB,Option.bind_some]
    cases b with
    | false => exact ⟨T2,O2,rfl,by omega,hk3,hO3,.inr (g2 rfl)⟩
    | true =>
     rw [if_neg (by simp),w64_id (by omega) (by omega),show ((i : Int) + 1) = ((i + 1 : Nat) : Int) by simp]
     exact ih (i + 1) O2 T2 (by omega) (by omega) (g1 rfl) (by omega) hk3 hO3
   ·obtain rfl : i = xs.length := by omega
    rw [if_neg (by omega)]
    exact ⟨T,O1,rfl,hn,hk2,hO,.inl hIT⟩
 obtain ⟨S',O',e,h1,h2,h3,h4⟩ := hloop k 0 O S (by omega) (Nat.zero_le _) hI (Nat.le_refl _) (fun _ _ _ => rfl) (fun _ h => .inl h)
 refine ⟨S',O',?_,h1,h2,h3,by rw [hlen]; exact h4⟩
 rw [disp_func]
 have hsl : (s.len : Int) = xs.length := by rw [← rows_len hrS]; simp
 have e' : call_42 (disp k (n + 1)) H k ([] ++ [HV.fn (.yield l) [] []] ++ [.ptr (some (HA.cell0 c))]) S = some (.tup [],S') := by
  rw [call_42]
  simp only [List.nil_append,List.cons_append,args2,Option.bind_some,dF,dP]
  rw [wish_Lists_Of_1.f,Option.bind_some,ldSl_cell hcS,Option.bind_some,hsl]
  erw [e]
  rfl
 repeat rw [if_neg (by decide)]
 rw [if_pos rfl,e']
end KS
def spell (X : List Wn) (id : Int) (key : List UInt8) : List UInt8 := ((X.find? fun x => decide (pk x = (id,key))).map (·.2)).getD []
theorem spell_at {X : List Wn} {id : Int} {key : List UInt8} (h : (id,key) ∈ X.map pk) : ∃ x ∈ X,pk x = (id,key) ∧ spell X id key = x.2 := by
 obtain ⟨x,hx,hp⟩ := List.mem_map.1 h
 cases hf : X.find? fun x => decide (pk x = (id,key)) with
 | none => exact absurd hp (by simpa using (List.find?_eq_none.1 hf) x hx)
 | some y =>
  have h1 := List.find?_some hf
  have h2 := List.mem_of_find?_eq_some hf
  exact ⟨y,h2,by simpa using h1,by simp [spell,hf]⟩
theorem spell_low {X : List Wn} {id : Int} {key : List UInt8} (h : (id,key) ∈ X.map pk) : (spell X id key).map low = key := by
 obtain ⟨x,_,h1,h2⟩ := spell_at h
 rw [h2]
 simp only [pk,Prod.mk.injEq] at h1
 exact h1.2
namespace WOf
def Og (b : Nat) (so : Sl) (id : Nat) : Prop := (b ≤ id ∧ id < b + 3) ∨ ∃ q,so.a = some q ∧ q.1 = id
structure Gt (b w : Nat) (id : Int) (ys : List (List UInt8)) (i : Nat) (so : Sl) (S : HS) : Prop where
 c0 : S.heap b = .cells 1 [[.ptr (some (HA.cell0 w))]] true
 c1 : S.heap (b + 1) = .cells 1 [[.int .i64 id]] true
 co : S.heap (b + 2) = .cells 1 [[so.hv]] true
 vec : Vec (b + 3) S 1 so ((ys.take i).map KS.row1)
 nx : b + 3 ≤ S.next
theorem Gt.keep {b w : Nat} {id : Int} {ys : List (List UInt8)} {i : Nat} {so : Sl} {S S' : HS} (h : Gt b w id ys i so S) (hk : ∀ id,Og b so id → S'.heap id = S.heap id) (hn : S.next ≤ S'.next) : Gt b w id ys i so S' :=
 ⟨(hk _ (.inl ⟨by omega,by omega⟩)).trans h.c0,(hk _ (.inl ⟨by omega,by omega⟩)).trans h.c1,(hk _ (.inl ⟨by omega,by omega⟩)).trans h.co,vec_keep h.vec (fun q hq => hk _ (.inr ⟨q,hq,rfl⟩)) hn,Nat.le_trans h.nx hn⟩
theorem Gt.lt {b w : Nat} {id : Int} {ys : List (List UInt8)} {i : Nat} {so : Sl} {S : HS} (h : Gt b w id ys i so S) {x : Nat} (ho : Og b so x) : x < S.next := by
 have := h.nx
 rcases ho with g | ⟨q,g,rfl⟩
 ·omega
 ·exact (h.vec.lo q g).2
theorem of_spec {w am r m1 m2 n : Nat} {most : Int} {E1 : List MA.En} {E2 : List MB.En} {X : List Wn} {S : HS} (h : WI w am r m1 m2 n most E1 E2 X S) (id : Int) {xs : List KS.Ky} (hs : KS.Srt xs) (hm : ∀ v,v ∈ xs ↔ (id,v) ∈ X.map pk) :
  ∃ c so S',wish_Lists_Of.f (disp 2000 4) (fun _ => none) (some (HA.cell0 w)) id S = some (.fn (.func 42) [] [.ptr (some (HA.cell0 c))],S') ∧ S'.heap c = .cells 1 [[so.hv]] true ∧ S'.rows so 1 = some ((xs.map (spell X id)).map KS.row1) ∧ (S.next ≤ c ∧ c < S'.next) ∧ (∀ q,so.a = some q → S.next ≤ q.1 ∧ q.1 < S'.next) ∧ Fr S.next S S' := by
 have hxl : xs.length ≤ 900 := by
  obtain ⟨ys,h1,h2,h3,_⟩ := h.rel.at1 id
  have : ys = xs := KS.srt_ext h1 hs fun v => by rw [h2,hm]
  subst this
  have := h.rel.nn; omega
 rw [wish_Lists_Of.f,letv,letv,letv]
 simp only [new_next]
 have n3 : (((S.new (.cells 1 [[.ptr (some (HA.cell0 w))]] true)).new (.cells 1 [[.int .i64 id]] true)).new (.cells 1 [[Sl.nil.hv]] true)).next = S.next + 3 := rfl
 have f3 : Fr S.next S (((S.new (.cells 1 [[.ptr (some (HA.cell0 w))]] true)).new (.cells 1 [[.int .i64 id]] true)).new (.cells 1 [[Sl.nil.hv]] true)) := ((Fr.new (Nat.le_refl _) _).trans (Fr.new (by simp only [new_next]; omega) _)).trans (Fr.new (by simp only [new_next]; omega) _)
 have c0 : (((S.new (.cells 1 [[.ptr (some (HA.cell0 w))]] true)).new (.cells 1 [[.int .i64 id]] true)).new (.cells 1 [[Sl.nil.hv]] true)).heap S.next = .cells 1 [[.ptr (some (HA.cell0 w))]] true := by
  rw [new_old _ (by simp only [new_next]; omega),new_old _ (by simp only [new_next]; omega)]; exact new_here _ _
 have c1 : (((S.new (.cells 1 [[.ptr (some (HA.cell0 w))]] true)).new (.cells 1 [[.int .i64 id]] true)).new (.cells 1 [[Sl.nil.hv]] true)).heap (S.next + 1) = .cells 1 [[.int .i64 id]] true := by
  rw [new_old _ (by simp only [new_next]; omega)]; exact new_here (S.new _) _
 have c2 : (((S.new (.cells 1 [[.ptr (some (HA.cell0 w))]] true)).new (.cells 1 [[.int .i64 id]] true)).new (.cells 1 [[Sl.nil.hv]] true)).heap (S.next + 2) = .cells 1 [[Sl.nil.hv]] true := new_here ((S.new _).new _) _
 rw [show S.next + 1 + 1 = S.next + 2 from rfl]
 generalize ((S.new (.cells 1 [[.ptr (some (HA.cell0 w))]] true)).new (.cells 1 [[.int .i64 id]] true)).new (.cells 1 [[Sl.nil.hv]] true) = T at n3 f3 c0 c1 c2 ⊢
 have hT := h.fr f3
 rw [ldP_cell c0,Option.bind_some,if_pos (by simp),Option.bind_some,Option.bind_some,hT.ldp,Option.bind_some,ldI_cell c1,Option.bind_some]
 obtain ⟨fn,u,v,S1,K,e1,hTl,hK,f1⟩ := of_rel (nD := 2) hT.rel id hs hm
 have l1 := f1.le
 have h1 := hT.fr f1
 rw [e1,Option.bind_some]
 have hlen : (xs.map KS.row1).length = xs.length := by simp
 have hI0 : Gt S.next w id (xs.map (spell X id)) 0 Sl.nil S1 := ⟨(f1.eq _ (by omega)).trans c0,(f1.eq _ (by omega)).trans c1,(f1.eq _ (by omega)).trans c2,by rw [List.take_zero]; exact .nil,by omega⟩
 have hOS : ∀ i,OW w am r m1 m2 E1 E2 i → i < S.next := fun i ho => h.ltO ho
 obtain ⟨T2,st,S',O',e2,e3,de,n5,ch,lt,hn,hs'⟩ := range_tells (D := disp 2000 4) (H := fun _ => none) (fv := .fn fn u v) (S := S1) (hd := fun vs T =>
   Option.bind (HS.lp T (S1.next + 1)) fun _ => Option.bind (args1 vs) fun ar => Option.bind (dS ar) fun p => wish_Lists_Of.J0 (disp 2000 4) (fun _ => none) (S1.next + 1) (some (HA.cell0 S.next)) (some (HA.cell0 (S.next + 1))) (some (HA.cell0 (S.next + 2))) p T)
  (bd := fun i U => if h : i < xs.length then
    Option.bind (U.ldSl (HA.cell0 (S.next + 2))) fun p13 => Option.bind (U.ldP (HA.cell0 S.next)) fun p15 => Option.bind p15 fun p16 => Option.bind (U.ldM (HA.fld p16 1)) fun p17 => Option.bind (U.ldI .i64 (HA.cell0 (S.next + 1))) fun p19 =>
    Option.bind (U.look p17 (.agg [(.int .i64 p19),(.str xs[i])])) fun p20 => Option.bind (dS (Option.getD p20 (.str []))) fun p21 => letv (HS.lit U [[.str p21]] 1) fun p22 => Option.bind (HS.ldSl p22.2 (HA.cell0 (S.next + 2))) fun p23 =>
    if p23 = p13 then Option.bind (HS.rows p22.2 p22.1 1) fun p25 => Option.bind (HS.app p22.2 p13 p25 1) fun p26 => Option.bind (HS.sets p26.2 (HA.cell0 (S.next + 2)) [p26.1.hv]) fun p28 => HS.endr p28 (S1.next + 1) none else none else none)
  hTl (fun i h => (hK i h).2) (fun i O U => ∃ so,Gt S.next w id (xs.map (spell X id)) i so U ∧ (∀ x,OW w am r m1 m2 E1 E2 x → U.heap x = S.heap x) ∧ ∀ x,O x ↔ (Og S.next so x ∨ OW w am r m1 m2 E1 E2 x)) (fun _ _ _ => False)
  (fun i O U U' ⟨so,h1,h2,h3⟩ hk hn => ⟨so,h1.keep (fun x ho => hk x ((h3 x).2 (.inl ho))) hn,fun x ho => (hk x ((h3 x).2 (.inr ho))).trans (h2 x ho),h3⟩) (fun _ _ _ _ h => h.elim)
  (fun x => Og S.next Sl.nil x ∨ OW w am r m1 m2 E1 E2 x) (fun x ho => by
   rcases ho with (g | ⟨q,g,_⟩) | g
   ·omega
   ·cases g
   ·have := hOS x g; omega) ⟨Sl.nil,hI0,fun x ho => (f1.eq x (by have := hOS x ho; omega)).trans (f3.eq x (hOS x ho)),fun _ => Iff.rfl⟩ (fun x ho hk => by
   have := hK x hk
   rcases ho with (g | ⟨q,g,_⟩) | g
   ·omega
   ·cases g
   ·have := hOS x g; omega)
  (fun i hi U hU => by
   have hi' : i < xs.length := by simpa using hi
   rw [lp_at hU,Option.bind_some,List.getElem_map,show args1 (KS.row1 xs[i]) = some (KS.kv xs[i]) from rfl,Option.bind_some,show dS (KS.kv xs[i]) = some xs[i] from rfl,Option.bind_some,wish_Lists_Of.J0,begin_at hU,Option.bind_some,Option.bind_some,dif_pos hi']
   rfl)
  (fun i hi O1 U ⟨so,g1,g2',g3⟩ hnu hl hno hlt => by
   have g2 : WI w am r m1 m2 n most E1 E2 X U := h.keep g2' (by have := g1.nx; omega)
   have hi' : i < xs.length := by simpa using hi
   have hnx := g1.nx
   have hso : ∀ q,so.a = some q → S.next + 3 ≤ q.1 ∧ q.1 < U.next := fun q hq => g1.vec.lo q hq
   have hmem : (id,xs[i]) ∈ X.map pk := (hm _).1 (List.getElem_mem hi')
   obtain ⟨x,hx,hp,hsp⟩ := spell_at hmem
   have hlk := g2.look_at hx
   simp only [pk,Prod.mk.injEq] at hp
   rw [hp.1,hp.2] at hlk
   rw [dif_pos hi',ldSl_cell g1.co,Option.bind_some,ldP_cell g1.c0,Option.bind_some,Option.bind_some,g2.ldm,Option.bind_some,ldI_cell g1.c1,Option.bind_some,hlk,Option.bind_some,show dS (Option.getD (some (HV.str x.2)) (.str [])) = some x.2 from rfl,Option.bind_some,← hsp]
   obtain ⟨so',T3,e3,lr,v3,f3,k3,q3⟩ := KS.app1_spec (n := S.next + 3) (xs := (xs.map (spell X id)).take i) (spell X id xs[i]) g1.vec hnx (by simp; omega)
   have fl : Fr U.next U (U.lit [[.str (spell X id xs[i])]] 1).2 := lit_fr _ (Nat.le_refl _)
   have l3 := f3.le
   have e : (xs.map (spell X id)).take (i + 1) = (xs.map (spell X id)).take i ++ [spell X id xs[i]] := by
    rw [List.take_succ_eq_append_getElem (by simpa using hi'),List.getElem_map]
   rw [← e] at v3
   have c3 : T3.heap (S.next + 2) = .cells 1 [[so.hv]] true := by rw [k3 _ (by omega) (fun q hq e => by have := hso q hq; omega)]; exact g1.co
   rw [letv,ldSl_cell ((fl.eq _ (by omega)).trans g1.co),Option.bind_some,if_pos rfl,lr,Option.bind_some,e3,Option.bind_some,sets_cell _ c3,Option.bind_some]
   have hkk : ∀ x,x < U.next → x ≠ S.next + 2 → (∀ q,so.a = some q → q.1 ≠ x) → (T3.put (S.next + 2) (.cells 1 [[so'.hv]] true)).heap x = U.heap x := fun x a1 a2 a3 => by rw [put_other _ a2,k3 x a1 a3]
   have hg : Gt S.next w id (xs.map (spell X id)) (i + 1) so' (T3.put (S.next + 2) (.cells 1 [[so'.hv]] true)) := ⟨(hkk _ (by omega) (by omega) (fun q hq e => by have := hso q hq; omega)).trans g1.c0,(hkk _ (by omega) (by omega) (fun q hq e => by have := hso q hq; omega)).trans g1.c1,put_here _ _ _,v3.put_ne (fun q hq e => by have := v3.lo q hq; omega),by rw [put_next]; omega⟩
   have hw2 : ∀ x,OW w am r m1 m2 E1 E2 x → (T3.put (S.next + 2) (.cells 1 [[so'.hv]] true)).heap x = S.heap x := fun x ho => (hkk x (g2.ltO ho) (by have := hOS x ho; omega) (fun q hq e => by have := hso q hq; have := hOS x ho; omega)).trans (g2' x ho)
   refine ⟨_,fun x => Og S.next so' x ∨ OW w am r m1 m2 E1 E2 x,none,rfl,⟨by rw [put_next]; omega,fun x a1 a2 => ?_,fun x ho => ?_⟩,fun x ho => ?_,fun _ => ⟨so',hg,hw2,fun _ => Iff.rfl⟩,fun c h => by cases h⟩
   ·have hno : ¬ Og S.next so x := fun h => a2 ((g3 x).2 (.inl h))
    exact hkk x a1 (fun e => hno (.inl ⟨by omega,by omega⟩)) (fun q hq e => hno (.inr ⟨q,hq,e⟩))
   ·rcases ho with (g | ⟨q,g,rfl⟩) | g
    ·exact .inl ((g3 x).2 (.inl (.inl g)))
    ·rcases q3 q g with g' | ⟨q0,a1,a2⟩
     ·exact .inr (by omega)
     ·exact .inl ((g3 _).2 (.inl (.inr ⟨q0,a1,a2⟩)))
    ·exact .inl ((g3 x).2 (.inr g))
   ·rcases ho with g | g
    ·exact hg.lt g
    ·rw [put_next]; have := hOS x g; omega)
 erw [e2]
 rw [Option.bind_some]
 simp only [e3,Option.bind_some]
 have hle := ch.le
 cases hst : st with
 | some c => exact (hs' c hst).elim
 | none =>
  obtain ⟨so,g1,g2,g3⟩ := hn hst
  rw [hlen] at g1
  have hv := g1.vec
  rw [List.take_of_length_le (by simp)] at hv
  have hlo := hv.lo
  have hnx := g1.nx
  simp only [pcode,Option.bind_some,if_true]
  rw [wish_Lists_Of.J1]
  simp only [HS.leave,de,Option.bind_some]
  refine ⟨S.next + 2,so,_,rfl,by rw [put_other _ (by omega)]; exact g1.co,rows_keep hv.rows fun q hq => ?_,⟨by omega,by rw [put_next]; omega⟩,fun q hq => ⟨by have := hlo q hq; omega,by rw [put_next]; exact (hlo q hq).2⟩,⟨by rw [put_next]; omega,fun x hx => ?_⟩⟩
  ·have := hlo q hq
   have := (lt q.1 ((g3 _).2 (.inl (.inr ⟨q,hq,rfl⟩)))).1
   rw [put_other _ this]
  ·rw [put_other _ (by omega)]
   by_cases hx2 : OW w am r m1 m2 E1 E2 x
   ·exact g2 x hx2
   ·rw [ch.eq x (by omega) (fun ho => by
     rcases ho with (g | ⟨q,g,_⟩) | g
     ·omega
     ·cases g
     ·exact hx2 g),f1.eq x (by omega)]
    exact f3.eq x hx
end WOf
end Go.Proofs.YtcphapfclncggaaGreatDoor.X
namespace Go.Proofs.YtcphapfclncggaaGreatDoor.X
open Go.Proofs.YtcphapfclncggaaGreatDoor.HL
set_option linter.unusedVariables false
def clr (id : Int) (X : List Wn) : List Wn := X.filter fun x => !decide (x.1 = id)
def woxs (id : Int) (ks : List (List UInt8)) (X : List Wn) : List Wn := ks.foldl (fun Y key => wox (id,key) Y) X
theorem woxs_filter {id : Int} : ∀ (ks : List (List UInt8)) (X : List Wn),woxs id ks X = X.filter fun x => !decide (x.1 = id ∧ x.2.map low ∈ ks) := by
 intro ks
 induction ks with
 | nil => intro X; exact (List.filter_eq_self.2 (by simp)).symm
 | cons k ks ih =>
  intro X
  have : woxs id (k :: ks) X = woxs id ks (wox (id,k) X) := rfl
  rw [this,ih,wox,List.filter_filter]
  congr 1; funext x
  by_cases h1 : x.1 = id <;> by_cases h2 : x.2.map low = k <;> simp [pk,h1,h2]
theorem woxs_all {id : Int} {X : List Wn} {xs : List KS.Ky} (hm : ∀ v,v ∈ xs ↔ (id,v) ∈ X.map pk) : woxs id xs X = clr id X := by
 rw [woxs_filter,clr]
 apply List.filter_congr
 intro x hx
 by_cases h1 : x.1 = id
 ·have : x.2.map low ∈ xs := (hm _).2 (List.mem_map.2 ⟨x,hx,by simp [pk,h1]⟩)
  simp [h1,this]
 ·simp [h1]
namespace WCl
structure Gt (b w : Nat) (id : Int) (i : Nat) (S : HS) : Prop where
 c0 : S.heap b = .cells 1 [[.ptr (some (HA.cell0 w))]] true
 c1 : S.heap (b + 1) = .cells 1 [[.int .i64 id]] true
 c2 : S.heap (b + 2) = .cells 1 [[.int .i64 i]] true
 nx : b + 3 ≤ S.next
theorem Gt.keep {b w : Nat} {id : Int} {i : Nat} {S S' : HS} (h : Gt b w id i S) (hk : ∀ x,b ≤ x ∧ x < b + 3 → S'.heap x = S.heap x) (hn : S.next ≤ S'.next) : Gt b w id i S' :=
 ⟨(hk _ ⟨by omega,by omega⟩).trans h.c0,(hk _ ⟨by omega,by omega⟩).trans h.c1,(hk _ ⟨by omega,by omega⟩).trans h.c2,Nat.le_trans h.nx hn⟩
theorem clear_w {w am r m1 m2 n : Nat} {most : Int} {E1 : List MA.En} {E2 : List MB.En} {X : List Wn} {S : HS} (h : WI w am r m1 m2 n most E1 E2 X S) (id : Int) {xs : List KS.Ky} (hs : KS.Srt xs) (hm : ∀ v,v ∈ xs ↔ (id,v) ∈ X.map pk) (hl : ∀ x ∈ X,x.2.length ≤ 1000) :
  ∃ E1' E2' S',wish_Lists_Clear.f (disp 2000 4) (fun _ => none) 2000 (some (HA.cell0 w)) id S = some ((xs.length : Int),S') ∧ WI w am r m1 m2 n most E1' E2' (clr id X) S' ∧ Chg (OW w am r m1 m2 E1 E2) (OW w am r m1 m2 E1' E2') S S' := by
 have hxl : xs.length ≤ 900 := by
  obtain ⟨ys,h1,h2,h3,_⟩ := h.rel.at1 id
  have : ys = xs := KS.srt_ext h1 hs fun v => by rw [h2,hm]
  subst this
  have := h.rel.nn; omega
 rw [wish_Lists_Clear.f,letv,letv,letv]
 simp only [new_next]
 have c2' : (((S.new (.cells 1 [[.ptr (some (HA.cell0 w))]] true)).new (.cells 1 [[.int .i64 id]] true)).new (.cells 1 [[.int .i64 0]] true)).heap (S.next + 2) = .cells 1 [[.int .i64 0]] true := new_here ((S.new _).new _) _
 rw [show S.next + 1 + 1 = S.next + 2 from rfl,sets_cell _ c2',Option.bind_some]
 have n3 : ((((S.new (.cells 1 [[.ptr (some (HA.cell0 w))]] true)).new (.cells 1 [[.int .i64 id]] true)).new (.cells 1 [[.int .i64 0]] true)).put (S.next + 2) (.cells 1 [[.int .i64 0]] true)).next = S.next + 3 := rfl
 have f3 : Fr S.next S ((((S.new (.cells 1 [[.ptr (some (HA.cell0 w))]] true)).new (.cells 1 [[.int .i64 id]] true)).new (.cells 1 [[.int .i64 0]] true)).put (S.next + 2) (.cells 1 [[.int .i64 0]] true)) := (((Fr.new (Nat.le_refl _) _).trans (Fr.new (by simp only [new_next]; omega) _)).trans (Fr.new (by simp only [new_next]; omega) _)).trans (Fr.put (by omega) _)
 have c0 : ((((S.new (.cells 1 [[.ptr (some (HA.cell0 w))]] true)).new (.cells 1 [[.int .i64 id]] true)).new (.cells 1 [[.int .i64 0]] true)).put (S.next + 2) (.cells 1 [[.int .i64 0]] true)).heap S.next = .cells 1 [[.ptr (some (HA.cell0 w))]] true := by
  rw [put_other _ (by omega),new_old _ (by simp only [new_next]; omega),new_old _ (by simp only [new_next]; omega)]; exact new_here _ _
 have c1 : ((((S.new (.cells 1 [[.ptr (some (HA.cell0 w))]] true)).new (.cells 1 [[.int .i64 id]] true)).new (.cells 1 [[.int .i64 0]] true)).put (S.next + 2) (.cells 1 [[.int .i64 0]] true)).heap (S.next + 1) = .cells 1 [[.int .i64 id]] true := by
  rw [put_other _ (by omega),new_old _ (by simp only [new_next]; omega)]; exact new_here (S.new _) _
 have c2 : ((((S.new (.cells 1 [[.ptr (some (HA.cell0 w))]] true)).new (.cells 1 [[.int .i64 id]] true)).new (.cells 1 [[.int .i64 0]] true)).put (S.next + 2) (.cells 1 [[.int .i64 0]] true)).heap (S.next + 2) = .cells 1 [[.int .i64 0]] true := put_here _ _ _
 generalize (((S.new (.cells 1 [[.ptr (some (HA.cell0 w))]] true)).new (.cells 1 [[.int .i64 id]] true)).new (.cells 1 [[.int .i64 0]] true)).put (S.next + 2) (.cells 1 [[.int .i64 0]] true) = T at n3 f3 c0 c1 c2 ⊢
 have hT := h.fr f3
 rw [ldP_cell c0,Option.bind_some,ldI_cell c1,Option.bind_some]
 obtain ⟨c,so,S1,e1,hc,hr,hcn,hso,f1⟩ := WOf.of_spec hT id hs hm
 have l1 := f1.le
 have h1 := hT.fr f1
 rw [e1,Option.bind_some]
 have hOS : ∀ i,OW w am r m1 m2 E1 E2 i → i < S.next := fun i ho => h.ltO ho
 have hlen : ((xs.map (spell X id)).map KS.row1).length = xs.length := by simp
 have hTl : Tells (disp 2000 4) (.fn (.func 42) [] [.ptr (some (HA.cell0 c))]) ((xs.map (spell X id)).map KS.row1) (fun x => x = c ∨ ∃ q,so.a = some q ∧ q.1 = x) S1 :=
  KS.of_tells (k := 2000) (n := 2) (by simp; omega) (by simp; omega) hc hr _ ⟨.inl rfl,fun q hq => .inr ⟨q,hq,rfl⟩⟩
 have hKb : ∀ x,(x = c ∨ ∃ q,so.a = some q ∧ q.1 = x) → T.next ≤ x ∧ x < S1.next := fun x hx => by
  rcases hx with rfl | ⟨q,hq,rfl⟩
  ·exact hcn
  ·exact hso q hq
 have hG0 : Gt S.next w id 0 S1 := ⟨(f1.eq _ (by omega)).trans c0,(f1.eq _ (by omega)).trans c1,(f1.eq _ (by omega)).trans c2,by omega⟩
 obtain ⟨T2,st,S',O',e2,e3,de,n5,ch,lt,hn,hs'⟩ := range_tells (D := disp 2000 4) (H := fun _ => none) (fv := .fn (.func 42) [] [.ptr (some (HA.cell0 c))]) (S := S1) (hd := fun vs T =>
   Option.bind (HS.lp T (S1.next + 1)) fun _ => Option.bind (args1 vs) fun ar => Option.bind (dS ar) fun p => wish_Lists_Clear.J0 (disp 2000 4) (fun _ => none) 2000 (S1.next + 1) (some (HA.cell0 S.next)) (some (HA.cell0 (S.next + 1))) (some (HA.cell0 (S.next + 2))) p T)
  (bd := fun i U => if h : i < xs.length then
    Option.bind (U.ldP (HA.cell0 S.next)) fun p10 => Option.bind (U.ldI .i64 (HA.cell0 (S.next + 1))) fun p12 => Option.bind (wish_Lists_Remove.f 2000 p10 p12 (spell X id xs[i]) U) fun p13 => Option.bind (p13.2.ldI .i64 (HA.cell0 (S.next + 2))) fun p15 =>
    Option.bind (p13.2.sets (HA.cell0 (S.next + 2)) [.int .i64 (w64 (p15 + 1))]) fun p17 => HS.endr p17 (S1.next + 1) none else none)
  hTl (fun i hi => (hKb i hi).2) (fun i O U => ∃ F1 F2,Gt S.next w id i U ∧ WI w am r m1 m2 n most F1 F2 (woxs id (xs.take i) X) U ∧ (∀ x,O x ↔ ((S.next ≤ x ∧ x < S.next + 3) ∨ OW w am r m1 m2 F1 F2 x)) ∧ (∀ x,OW w am r m1 m2 F1 F2 x → OW w am r m1 m2 E1 E2 x ∨ S1.next ≤ x)) (fun _ _ _ => False)
  (fun i O U U' ⟨F1,F2,g1,g2,g3,g4⟩ hk hn => ⟨F1,F2,g1.keep (fun x ho => hk x ((g3 x).2 (.inl ho))) hn,g2.keep (fun x ho => hk x ((g3 x).2 (.inr ho))) hn,g3,g4⟩) (fun _ _ _ _ h => h.elim)
  (fun x => (S.next ≤ x ∧ x < S.next + 3) ∨ OW w am r m1 m2 E1 E2 x) (fun x ho => by
   rcases ho with g | g
   ·omega
   ·have := hOS x g; omega) ⟨E1,E2,hG0,by rw [List.take_zero]; exact h1,fun _ => Iff.rfl,fun _ h => .inl h⟩ (fun x ho hk => by
   have := hKb x hk
   rcases ho with g | g
   ·omega
   ·have := hOS x g; omega)
  (fun i hi U hU => by
   have hi' : i < xs.length := by simpa using hi
   rw [lp_at hU,Option.bind_some,List.getElem_map,List.getElem_map,show args1 (KS.row1 (spell X id xs[i])) = some (KS.kv (spell X id xs[i])) from rfl,Option.bind_some,show dS (KS.kv (spell X id xs[i])) = some (spell X id xs[i]) from rfl,Option.bind_some,wish_Lists_Clear.J0,begin_at hU,Option.bind_some,Option.bind_some,dif_pos hi']
   rfl)
  (fun i hi O1 U ⟨F1,F2,g1,g2,g3,g4⟩ hnu hlp hno hlt => by
   have hi' : i < xs.length := by simpa using hi
   have hnx := g1.nx
   have hmem : (id,xs[i]) ∈ X.map pk := (hm _).1 (List.getElem_mem hi')
   obtain ⟨x,hx,hp,hsp⟩ := spell_at hmem
   obtain ⟨F1',F2',U1,a1,a2,a3⟩ := remove_w (k := 2000) (Nat.le_refl _) g2 id (spell X id xs[i]) (by rw [hsp]; exact hl x hx)
   rw [spell_low hmem] at a1 a2
   have l3 := a3.le
   have hcell : ∀ y,S.next ≤ y ∧ y < S.next + 3 → U1.heap y = U.heap y := fun y hy => a3.eq y (by omega) (fun ho => by
    rcases g4 y ho with g | g
    ·have := hOS y g; omega
    ·omega)
   have hc2 : U1.heap (S.next + 2) = .cells 1 [[.int .i64 i]] true := (hcell _ ⟨by omega,by omega⟩).trans g1.c2
   rw [dif_pos hi',ldP_cell g1.c0,Option.bind_some,ldI_cell g1.c1,Option.bind_some,a1,Option.bind_some,ldI_cell hc2,Option.bind_some,sets_cell _ hc2,Option.bind_some]
   have hw : w64 ((i : Int) + 1) = ((i + 1 : Nat) : Int) := by rw [w64_id (by omega) (by omega)]; simp
   rw [hw]
   have hown : ∀ x,OW w am r m1 m2 F1' F2' x → OW w am r m1 m2 E1 E2 x ∨ S1.next ≤ x := fun x ho => by
    rcases a3.own x ho with g | g
    ·exact g4 x g
    ·exact .inr (by omega)
   have hne : ∀ x,OW w am r m1 m2 F1' F2' x → x ≠ S.next + 2 := fun x ho e => by
    rcases hown x ho with g | g
    ·have := hOS x g; omega
    ·omega
   have e : woxs id (xs.take (i + 1)) X = wox (id,xs[i]) (woxs id (xs.take i) X) := by
    unfold woxs
    rw [List.take_succ_eq_append_getElem hi',List.foldl_append]; rfl
   refine ⟨_,fun x => (S.next ≤ x ∧ x < S.next + 3) ∨ OW w am r m1 m2 F1' F2' x,none,rfl,⟨by rw [put_next]; omega,fun x b1 b2 => ?_,fun x ho => ?_⟩,fun x ho => ?_,fun _ => ⟨F1',F2',⟨?_,?_,put_here _ _ _,by rw [put_next]; omega⟩,by rw [e]; exact a2.keep (fun x ho => put_other _ (hne x ho)) (Nat.le_refl _),fun _ => Iff.rfl,hown⟩,fun c h => by cases h⟩
   ·have b3 : ¬ OW w am r m1 m2 F1 F2 x := fun h => b2 ((g3 x).2 (.inr h))
    have b4 : ¬ (S.next ≤ x ∧ x < S.next + 3) := fun h => b2 ((g3 x).2 (.inl h))
    rw [put_other _ (by omega)]
    exact a3.eq x b1 b3
   ·rcases ho with g | g
    ·exact .inl ((g3 x).2 (.inl g))
    ·exact (a3.own x g).elim (fun h => .inl ((g3 x).2 (.inr h))) .inr
   ·rw [put_next]
    rcases ho with g | g
    ·omega
    ·exact a2.ltO g
   ·rw [put_other _ (by omega)]; exact (hcell _ ⟨by omega,by omega⟩).trans g1.c0
   ·rw [put_other _ (by omega)]; exact (hcell _ ⟨by omega,by omega⟩).trans g1.c1)
 erw [e2]
 rw [Option.bind_some]
 simp only [e3,Option.bind_some]
 have hle := ch.le
 cases hst : st with
 | some c => exact (hs' c hst).elim
 | none =>
  obtain ⟨F1,F2,g1,g2,g3,g4⟩ := hn hst
  rw [hlen] at g1 g2
  rw [List.take_length,woxs_all hm] at g2
  have hnx := g1.nx
  simp only [pcode,Option.bind_some,if_true]
  rw [ldI_cell g1.c2,Option.bind_some]
  simp only [HS.leave,de,Option.bind_some]
  have hd : ∀ x,OW w am r m1 m2 F1 F2 x → x ≠ S1.next := fun x ho => (lt x ((g3 x).2 (.inr ho))).1
  refine ⟨F1,F2,_,rfl,g2.keep (fun x ho => put_other _ (hd x ho)) (Nat.le_refl _),⟨by rw [put_next]; omega,fun x b1 b2 => ?_,fun x ho => ?_⟩⟩
  ·rw [put_other _ (by omega),ch.eq x (by omega) (fun ho => by
    rcases ho with g | g
    ·omega
    ·exact b2 g),f1.eq x (by omega)]
   exact f3.eq x b1
  ·rcases g4 x ho with g | g
   ·exact .inl g
   ·exact .inr (by omega)
end WCl
end Go.Proofs.YtcphapfclncggaaGreatDoor.X
namespace Go.Proofs.YtcphapfclncggaaGreatDoor.X
open Go.Proofs.YtcphapfclncggaaGreatDoor.HL
set_option linter.unusedVariables false
namespace KS.Names
def Og (b : Nat) (so : Sl) (id : Nat) : Prop := (b ≤ id ∧ id < b + 3) ∨ ∃ q,so.a = some q ∧ q.1 = id
structure Gt (b : Nat) (xs : List Ky) (i : Nat) (so : Sl) (S : HS) : Prop where
 cr : S.heap b = .cells 1 [[Sl.nil.hv]] true
 cb : S.heap (b + 1) = .cells 1 [[.bool false]] true
 co : S.heap (b + 2) = .cells 1 [[so.hv]] true
 vec : Vec (b + 3) S 1 so ((xs.take i).map row1)
 nx : b + 3 ≤ S.next
theorem Gt.keep {b : Nat} {xs : List Ky} {i : Nat} {so : Sl} {S S' : HS} (h : Gt b xs i so S) (hk : ∀ id,Og b so id → S'.heap id = S.heap id) (hn : S.next ≤ S'.next) : Gt b xs i so S' :=
 ⟨(hk _ (.inl ⟨by omega,by omega⟩)).trans h.cr,(hk _ (.inl ⟨by omega,by omega⟩)).trans h.cb,(hk _ (.inl ⟨by omega,by omega⟩)).trans h.co,vec_keep h.vec (fun q hq => hk _ (.inr ⟨q,hq,rfl⟩)) hn,Nat.le_trans h.nx hn⟩
theorem Gt.lt {b : Nat} {xs : List Ky} {i : Nat} {so : Sl} {S : HS} (h : Gt b xs i so S) {id : Nat} (ho : Og b so id) : id < S.next := by
 have := h.nx
 rcases ho with g | ⟨q,g,rfl⟩
 ·omega
 ·exact (h.vec.lo q g).2
theorem names_spec {D : Dp} {xs : List Ky} {S : HS} {r : Option HA} {id : Int}
  (hseq : ∀ T,Fr S.next S T → ∃ fn u v S1 K,wish_Lists_Of.f D (fun _ => none) r id T = some (.fn fn u v,S1) ∧ Tells D (.fn fn u v) (xs.map row1) K S1 ∧ (∀ id,K id → T.next ≤ id ∧ id < S1.next) ∧ Fr T.next T S1) (hx : xs.length ≤ 99) :
  ∃ out S',rollcalllaw21_names.f D (fun _ => none) r id S = some ((out,true),S') ∧ S'.rows out 1 = some (xs.map row1) ∧ (∀ q,out.a = some q → S.next ≤ q.1 ∧ q.1 < S'.next) ∧ Fr S.next S S' := by
 rw [rollcalllaw21_names.f,letv,letv,letv]
 simp only [new_next]
 have n4 : (((S.new (.cells 1 [[Sl.nil.hv]] true)).new (.cells 1 [[.bool false]] true)).new (.cells 1 [[Sl.nil.hv]] true)).next = S.next + 3 := rfl
 have f4 : Fr S.next S (((S.new (.cells 1 [[Sl.nil.hv]] true)).new (.cells 1 [[.bool false]] true)).new (.cells 1 [[Sl.nil.hv]] true)) := ((Fr.new (Nat.le_refl _) _).trans (Fr.new (by simp only [new_next]; omega) _)).trans (Fr.new (by simp only [new_next]; omega) _)
 have c1 : (((S.new (.cells 1 [[Sl.nil.hv]] true)).new (.cells 1 [[.bool false]] true)).new (.cells 1 [[Sl.nil.hv]] true)).heap S.next = .cells 1 [[Sl.nil.hv]] true := by
  rw [new_old _ (by simp only [new_next]; omega),new_old _ (by simp only [new_next]; omega)]; exact new_here _ _
 have c2 : (((S.new (.cells 1 [[Sl.nil.hv]] true)).new (.cells 1 [[.bool false]] true)).new (.cells 1 [[Sl.nil.hv]] true)).heap (S.next + 1) = .cells 1 [[.bool false]] true := by
  rw [new_old _ (by simp only [new_next]; omega)]; exact new_here (S.new _) _
 have c3 : (((S.new (.cells 1 [[Sl.nil.hv]] true)).new (.cells 1 [[.bool false]] true)).new (.cells 1 [[Sl.nil.hv]] true)).heap (S.next + 2) = .cells 1 [[Sl.nil.hv]] true := new_here ((S.new _).new _) _
 rw [show S.next + 1 + 1 = S.next + 2 from rfl]
 generalize ((S.new (.cells 1 [[Sl.nil.hv]] true)).new (.cells 1 [[.bool false]] true)).new (.cells 1 [[Sl.nil.hv]] true) = T at n4 f4 c1 c2 c3 ⊢
 obtain ⟨fn,u,v,S1,K,e1,hT,hK,f1⟩ := hseq T f4
 have l1 := f1.le
 rw [e1,Option.bind_some]
 simp only [HV.isNilFn,Option.bind_some,Bool.false_eq_true,if_false]
 have hlen : (xs.map row1).length = xs.length := by simp
 have hI0 : Gt S.next xs 0 Sl.nil S1 := ⟨(f1.eq _ (by omega)).trans c1,(f1.eq _ (by omega)).trans c2,(f1.eq _ (by omega)).trans c3,by rw [List.take_zero]; exact .nil,by omega⟩
 obtain ⟨T2,st,S',O',e2,e3,de,n5,ch,lt,hn,hs⟩ := range_tells (D := D) (H := fun _ => none) (fv := .fn fn u v) (S := S1) (hd := fun vs T =>
   Option.bind (HS.lp T (S1.next + 1)) fun _ => Option.bind (args1 vs) fun ar => Option.bind (dS ar) fun p => rollcalllaw21_names.J0 D (fun _ => none) (S1.next + 1) (some (HA.cell0 S.next)) (some (HA.cell0 (S.next + 1))) (some (HA.cell0 (S.next + 2))) p T)
  (bd := fun i U => if h : i < xs.length then Option.bind (U.ldSl (HA.cell0 (S.next + 2))) fun p15 => if (p15.len : Int) > 99 then
     Option.bind (U.sets (HA.cell0 S.next) [Sl.nil.hv]) fun p20 => Option.bind (p20.sets (HA.cell0 (S.next + 1)) [.bool false]) fun p22 => p22.endr (S1.next + 1) (some .ret) else
    Option.bind (U.ldSl (HA.cell0 (S.next + 2))) fun p24 => letv (HS.lit U [[.str xs[i]]] 1) fun p25 => Option.bind (HS.rows p25.2 p25.1 1) fun p26 => Option.bind (HS.app p25.2 p24 p26 1) fun p27 => Option.bind (HS.sets p27.2 (HA.cell0 (S.next + 2)) [p27.1.hv]) fun p29 => HS.endr p29 (S1.next + 1) none else none)
  hT (fun id h => (hK id h).2) (fun i O U => ∃ so,Gt S.next xs i so U ∧ ∀ id,O id ↔ Og S.next so id) (fun _ _ _ => False)
  (fun i O U U' ⟨so,h1,h2⟩ hk hn => ⟨so,h1.keep (fun id ho => hk id ((h2 id).2 ho)) hn,h2⟩) (fun _ _ _ _ h => h.elim)
  (Og S.next Sl.nil) (fun id h => by
   rcases h with g | ⟨q,g,_⟩
   ·omega
   ·cases g) ⟨Sl.nil,hI0,fun _ => Iff.rfl⟩ (fun id h hk => by
   have := hK id hk
   rcases h with g | ⟨q,g,_⟩
   ·omega
   ·cases g)
  (fun i hi U h => by
   have hi' : i < xs.length := by simpa using hi
   rw [lp_at h,Option.bind_some,List.getElem_map,show args1 (row1 xs[i]) = some (kv xs[i]) from rfl,Option.bind_some,show dS (kv xs[i]) = some xs[i] from dS_at _,Option.bind_some,rollcalllaw21_names.J0,begin_at h,Option.bind_some,Option.bind_some,dif_pos hi']
   rfl)
  (fun i hi O1 U ⟨so,h1,h2⟩ hnu hl hno hlt => by
   have hi' : i < xs.length := by simpa using hi
   have hsl : (so.len : Int) = i := by rw [h1.vec.len]; simp; omega
   have hnx := h1.nx
   have hso : ∀ q,so.a = some q → S.next + 3 ≤ q.1 ∧ q.1 < U.next := fun q hq => h1.vec.lo q hq
   rw [dif_pos hi',ldSl_cell h1.co,Option.bind_some,hsl,if_neg (by omega),Option.bind_some,letv]
   have fl : Fr U.next U (U.lit [[.str xs[i]]] 1).2 := lit_fr _ (Nat.le_refl _)
   have lr : (U.lit [[.str xs[i]]] 1).2.rows (U.lit [[.str xs[i]]] 1).1 1 = some [[.str xs[i]]] := (Vec.lit (n := 0) (z := 1) (S := U) _ (Nat.zero_le _)).rows
   have l2 : (U.lit [[.str xs[i]]] 1).2.next = U.next + 1 := rfl
   have v2 : Vec (S.next + 3) (U.lit [[.str xs[i]]] 1).2 1 so ((xs.take i).map row1) := h1.vec.frame fl (Nat.le_refl _)
   obtain ⟨so',T3,e3,v3,f3,k3,q3⟩ := v2.app2 (new := [[.str xs[i]]]) (by omega) (by simp; omega)
   have n3 := f3.le
   have e : ((xs.take (i + 1)).map row1) = ((xs.take i).map row1) ++ [[.str xs[i]]] := by rw [List.take_succ_eq_append_getElem hi',List.map_append]; rfl
   rw [← e] at v3
   have k4 : ∀ id,id < U.next → (∀ q,so.a = some q → q.1 ≠ id) → T3.heap id = U.heap id := fun id g1 g2 => (k3 id (by omega) g2).trans (fl.eq id g1)
   have c3' : T3.heap (S.next + 2) = .cells 1 [[so.hv]] true := by rw [k4 _ (by omega) (fun q hq e => by have := hso q hq; omega)]; exact h1.co
   rw [lr,Option.bind_some,e3,Option.bind_some,sets_cell _ c3',Option.bind_some]
   have hkk : ∀ id,S.next ≤ id → id < S.next + 2 → (T3.put (S.next + 2) (.cells 1 [[so'.hv]] true)).heap id = U.heap id := fun id g1 g2 => by
    rw [put_other _ (by omega),k4 id (by omega) (fun q hq e => by have := hso q hq; omega)]
   have hg : Gt S.next xs (i + 1) so' (T3.put (S.next + 2) (.cells 1 [[so'.hv]] true)) := ⟨(hkk _ (by omega) (by omega)).trans h1.cr,(hkk _ (by omega) (by omega)).trans h1.cb,put_here _ _ _,v3.put_ne (fun q hq e => by have := (v3.lo q hq).1; omega),by rw [put_next]; omega⟩
   refine ⟨_,Og S.next so',none,rfl,⟨by rw [put_next]; omega,fun id g1 g2 => ?_,fun id ho => ?_⟩,fun id ho => hg.lt ho,fun _ => ⟨so',hg,fun _ => Iff.rfl⟩,fun c h => by cases h⟩
   ·have hno : ¬ Og S.next so id := fun h => g2 ((h2 id).2 h)
    rw [put_other _ (fun e => hno (.inl ⟨by omega,by omega⟩)),k4 id (by omega) (fun q hq e => hno (.inr ⟨q,hq,e⟩))]
   ·rcases ho with g | ⟨q,g,rfl⟩
    ·exact .inl ((h2 id).2 (.inl g))
    ·rcases q3 q g with g' | ⟨q0,g1,g2⟩
     ·exact .inr (by omega)
     ·exact .inl ((h2 _).2 (.inr ⟨q0,g1,g2⟩)))
 erw [e2]
 rw [Option.bind_some]
 simp only [e3,Option.bind_some]
 have hle := ch.le
 cases hst : st with
 | some c => exact (hs c hst).elim
 | none =>
  obtain ⟨so,h1,h2⟩ := hn hst
  rw [hlen] at h1
  have hv := h1.vec
  rw [List.take_length] at hv
  have hlo := hv.lo
  have hnx := h1.nx
  simp only [pcode,Option.bind_some,if_true]
  have y2 : (S'.put S.next (.cells 1 [[so.hv]] true)).heap (S.next + 1) = .cells 1 [[.bool false]] true := by rw [put_other _ (by omega)]; exact h1.cb
  rw [ldSl_cell h1.co,Option.bind_some,sets_cell _ h1.cr,Option.bind_some,sets_cell _ y2,Option.bind_some]
  have y4 : ((S'.put S.next (.cells 1 [[so.hv]] true)).put (S.next + 1) (.cells 1 [[.bool true]] true)).heap S1.next = .defer := by rw [put_other _ (by omega),put_other _ (by omega)]; exact de
  simp only [HS.leave,y4,Option.bind_some]
  have z1 : (((S'.put S.next (.cells 1 [[so.hv]] true)).put (S.next + 1) (.cells 1 [[.bool true]] true)).put S1.next .dead).heap S.next = .cells 1 [[so.hv]] true := by rw [put_other _ (by omega),put_other _ (by omega)]; exact put_here _ _ _
  have z2 : (((S'.put S.next (.cells 1 [[so.hv]] true)).put (S.next + 1) (.cells 1 [[.bool true]] true)).put S1.next .dead).heap (S.next + 1) = .cells 1 [[.bool true]] true := by rw [put_other _ (by omega)]; exact put_here _ _ _
  rw [ldSl_cell z1,Option.bind_some,ldB_cell z2,Option.bind_some]
  refine ⟨so,_,rfl,rows_keep hv.rows fun q hq => ?_,fun q hq => ⟨by have := hlo q hq; omega,by simp only [put_next]; exact (hlo q hq).2⟩,⟨by simp only [put_next]; omega,fun id hid => ?_⟩⟩
  ·have := hlo q hq
   have := (lt q.1 ((h2 _).2 (.inr ⟨q,hq,rfl⟩))).1
   rw [put_other _ (by omega),put_other _ (by omega),put_other _ (by omega)]
  ·rw [put_other _ (by omega),put_other _ (by omega),put_other _ (by omega),ch.eq id (by omega) (fun ho => by
    rcases ho with g | ⟨q,g,_⟩
    ·omega
    ·cases g),f1.eq id (by omega)]
   exact f4.eq id hid
end KS.Names
end Go.Proofs.YtcphapfclncggaaGreatDoor.X
namespace Go.Proofs.YtcphapfclncggaaGreatDoor.X
open Go.Proofs.YtcphapfclncggaaGreatDoor.HL
set_option linter.unusedVariables false
namespace KI.Clients
def Og (b : Nat) (so : Sl) (id : Nat) : Prop := (b ≤ id ∧ id < b + 3) ∨ ∃ q,so.a = some q ∧ q.1 = id
structure Gt (b : Nat) (xs : List Ky) (i : Nat) (so : Sl) (S : HS) : Prop where
 cr : S.heap b = .cells 1 [[Sl.nil.hv]] true
 cb : S.heap (b + 1) = .cells 1 [[.bool false]] true
 co : S.heap (b + 2) = .cells 1 [[so.hv]] true
 vec : Vec (b + 3) S 1 so ((xs.take i).map row1)
 nx : b + 3 ≤ S.next
theorem Gt.keep {b : Nat} {xs : List Ky} {i : Nat} {so : Sl} {S S' : HS} (h : Gt b xs i so S) (hk : ∀ id,Og b so id → S'.heap id = S.heap id) (hn : S.next ≤ S'.next) : Gt b xs i so S' :=
 ⟨(hk _ (.inl ⟨by omega,by omega⟩)).trans h.cr,(hk _ (.inl ⟨by omega,by omega⟩)).trans h.cb,(hk _ (.inl ⟨by omega,by omega⟩)).trans h.co,vec_keep h.vec (fun q hq => hk _ (.inr ⟨q,hq,rfl⟩)) hn,Nat.le_trans h.nx hn⟩
theorem Gt.lt {b : Nat} {xs : List Ky} {i : Nat} {so : Sl} {S : HS} (h : Gt b xs i so S) {id : Nat} (ho : Og b so id) : id < S.next := by
 have := h.nx
 rcases ho with g | ⟨q,g,rfl⟩
 ·omega
 ·exact (h.vec.lo q g).2
theorem clients_spec {D : Dp} {xs : List Ky} {S : HS} {r : Option HA} {b : List UInt8}
  (hseq : ∀ T,Fr S.next S T → ∃ fn u v S1 K,wish_Lists_By.f 2000 r b T = some (.fn fn u v,S1) ∧ Tells D (.fn fn u v) (xs.map row1) K S1 ∧ (∀ id,K id → T.next ≤ id ∧ id < S1.next) ∧ Fr T.next T S1) (hx : xs.length ≤ 99) :
  ∃ out S',rollcalllaw21_clients.f D (fun _ => none) 2000 r b S = some ((out,true),S') ∧ S'.rows out 1 = some (xs.map row1) ∧ (∀ q,out.a = some q → S.next ≤ q.1 ∧ q.1 < S'.next) ∧ Fr S.next S S' := by
 rw [rollcalllaw21_clients.f,letv,letv,letv]
 simp only [new_next]
 have n4 : (((S.new (.cells 1 [[Sl.nil.hv]] true)).new (.cells 1 [[.bool false]] true)).new (.cells 1 [[Sl.nil.hv]] true)).next = S.next + 3 := rfl
 have f4 : Fr S.next S (((S.new (.cells 1 [[Sl.nil.hv]] true)).new (.cells 1 [[.bool false]] true)).new (.cells 1 [[Sl.nil.hv]] true)) := ((Fr.new (Nat.le_refl _) _).trans (Fr.new (by simp only [new_next]; omega) _)).trans (Fr.new (by simp only [new_next]; omega) _)
 have c1 : (((S.new (.cells 1 [[Sl.nil.hv]] true)).new (.cells 1 [[.bool false]] true)).new (.cells 1 [[Sl.nil.hv]] true)).heap S.next = .cells 1 [[Sl.nil.hv]] true := by
  rw [new_old _ (by simp only [new_next]; omega),new_old _ (by simp only [new_next]; omega)]; exact new_here _ _
 have c2 : (((S.new (.cells 1 [[Sl.nil.hv]] true)).new (.cells 1 [[.bool false]] true)).new (.cells 1 [[Sl.nil.hv]] true)).heap (S.next + 1) = .cells 1 [[.bool false]] true := by
  rw [new_old _ (by simp only [new_next]; omega)]; exact new_here (S.new _) _
 have c3 : (((S.new (.cells 1 [[Sl.nil.hv]] true)).new (.cells 1 [[.bool false]] true)).new (.cells 1 [[Sl.nil.hv]] true)).heap (S.next + 2) = .cells 1 [[Sl.nil.hv]] true := new_here ((S.new _).new _) _
 rw [show S.next + 1 + 1 = S.next + 2 from rfl]
 generalize ((S.new (.cells 1 [[Sl.nil.hv]] true)).new (.cells 1 [[.bool false]] true)).new (.cells 1 [[Sl.nil.hv]] true) = T at n4 f4 c1 c2 c3 ⊢
 obtain ⟨fn,u,v,S1,K,e1,hT,hK,f1⟩ := hseq T f4
 have l1 := f1.le
 rw [e1,Option.bind_some]
 simp only [HV.isNilFn,Option.bind_some,Bool.false_eq_true,if_false]
 have hlen : (xs.map row1).length = xs.length := by simp
 have hI0 : Gt S.next xs 0 Sl.nil S1 := ⟨(f1.eq _ (by omega)).trans c1,(f1.eq _ (by omega)).trans c2,(f1.eq _ (by omega)).trans c3,by rw [List.take_zero]; exact .nil,by omega⟩
 obtain ⟨T2,st,S',O',e2,e3,de,n5,ch,lt,hn,hs⟩ := range_tells (D := D) (H := fun _ => none) (fv := .fn fn u v) (S := S1) (hd := fun vs T =>
   Option.bind (HS.lp T (S1.next + 1)) fun _ => Option.bind (args1 vs) fun ar => Option.bind (dI .i64 ar) fun p => rollcalllaw21_clients.J0 D (fun _ => none) 2000 (S1.next + 1) (some (HA.cell0 S.next)) (some (HA.cell0 (S.next + 1))) (some (HA.cell0 (S.next + 2))) p T)
  (bd := fun i U => if h : i < xs.length then Option.bind (U.ldSl (HA.cell0 (S.next + 2))) fun p15 => if (p15.len : Int) > 99 then
     Option.bind (U.sets (HA.cell0 S.next) [Sl.nil.hv]) fun p20 => Option.bind (p20.sets (HA.cell0 (S.next + 1)) [.bool false]) fun p22 => p22.endr (S1.next + 1) (some .ret) else
    Option.bind (U.ldSl (HA.cell0 (S.next + 2))) fun p24 => letv (HS.lit U [[.int .i64 xs[i]]] 1) fun p25 => Option.bind (HS.rows p25.2 p25.1 1) fun p26 => Option.bind (HS.app p25.2 p24 p26 1) fun p27 => Option.bind (HS.sets p27.2 (HA.cell0 (S.next + 2)) [p27.1.hv]) fun p29 => HS.endr p29 (S1.next + 1) none else none)
  hT (fun id h => (hK id h).2) (fun i O U => ∃ so,Gt S.next xs i so U ∧ ∀ id,O id ↔ Og S.next so id) (fun _ _ _ => False)
  (fun i O U U' ⟨so,h1,h2⟩ hk hn => ⟨so,h1.keep (fun id ho => hk id ((h2 id).2 ho)) hn,h2⟩) (fun _ _ _ _ h => h.elim)
  (Og S.next Sl.nil) (fun id h => by
   rcases h with g | ⟨q,g,_⟩
   ·omega
   ·cases g) ⟨Sl.nil,hI0,fun _ => Iff.rfl⟩ (fun id h hk => by
   have := hK id hk
   rcases h with g | ⟨q,g,_⟩
   ·omega
   ·cases g)
  (fun i hi U h => by
   have hi' : i < xs.length := by simpa using hi
   rw [lp_at h,Option.bind_some,List.getElem_map,show args1 (row1 xs[i]) = some (kv xs[i]) from rfl,Option.bind_some,show dI .i64 (kv xs[i]) = some xs[i] from dI_at _,Option.bind_some,rollcalllaw21_clients.J0,begin_at h,Option.bind_some,Option.bind_some,dif_pos hi']
   rfl)
  (fun i hi O1 U ⟨so,h1,h2⟩ hnu hl hno hlt => by
   have hi' : i < xs.length := by simpa using hi
   have hsl : (so.len : Int) = i := by rw [h1.vec.len]; simp; omega
   have hnx := h1.nx
   have hso : ∀ q,so.a = some q → S.next + 3 ≤ q.1 ∧ q.1 < U.next := fun q hq => h1.vec.lo q hq
   rw [dif_pos hi',ldSl_cell h1.co,Option.bind_some,hsl,if_neg (by omega),Option.bind_some,letv]
   have fl : Fr U.next U (U.lit [[.int .i64 xs[i]]] 1).2 := lit_fr _ (Nat.le_refl _)
   have lr : (U.lit [[.int .i64 xs[i]]] 1).2.rows (U.lit [[.int .i64 xs[i]]] 1).1 1 = some [[.int .i64 xs[i]]] := (Vec.lit (n := 0) (z := 1) (S := U) _ (Nat.zero_le _)).rows
   have l2 : (U.lit [[.int .i64 xs[i]]] 1).2.next = U.next + 1 := rfl
   have v2 : Vec (S.next + 3) (U.lit [[.int .i64 xs[i]]] 1).2 1 so ((xs.take i).map row1) := h1.vec.frame fl (Nat.le_refl _)
   obtain ⟨so',T3,e3,v3,f3,k3,q3⟩ := v2.app2 (new := [[.int .i64 xs[i]]]) (by omega) (by simp; omega)
   have n3 := f3.le
   have e : ((xs.take (i + 1)).map row1) = ((xs.take i).map row1) ++ [[.int .i64 xs[i]]] := by rw [List.take_succ_eq_append_getElem hi',List.map_append]; rfl
   rw [← e] at v3
   have k4 : ∀ id,id < U.next → (∀ q,so.a = some q → q.1 ≠ id) → T3.heap id = U.heap id := fun id g1 g2 => (k3 id (by omega) g2).trans (fl.eq id g1)
   have c3' : T3.heap (S.next + 2) = .cells 1 [[so.hv]] true := by rw [k4 _ (by omega) (fun q hq e => by have := hso q hq; omega)]; exact h1.co
   rw [lr,Option.bind_some,e3,Option.bind_some,sets_cell _ c3',Option.bind_some]
   have hkk : ∀ id,S.next ≤ id → id < S.next + 2 → (T3.put (S.next + 2) (.cells 1 [[so'.hv]] true)).heap id = U.heap id := fun id g1 g2 => by
    rw [put_other _ (by omega),k4 id (by omega) (fun q hq e => by have := hso q hq; omega)]
   have hg : Gt S.next xs (i + 1) so' (T3.put (S.next + 2) (.cells 1 [[so'.hv]] true)) := ⟨(hkk _ (by omega) (by omega)).trans h1.cr,(hkk _ (by omega) (by omega)).trans h1.cb,put_here _ _ _,v3.put_ne (fun q hq e => by have := (v3.lo q hq).1; omega),by rw [put_next]; omega⟩
   refine ⟨_,Og S.next so',none,rfl,⟨by rw [put_next]; omega,fun id g1 g2 => ?_,fun id ho => ?_⟩,fun id ho => hg.lt ho,fun _ => ⟨so',hg,fun _ => Iff.rfl⟩,fun c h => by cases h⟩
   ·have hno : ¬ Og S.next so id := fun h => g2 ((h2 id).2 h)
    rw [put_other _ (fun e => hno (.inl ⟨by omega,by omega⟩)),k4 id (by omega) (fun q hq e => hno (.inr ⟨q,hq,e⟩))]
   ·rcases ho with g | ⟨q,g,rfl⟩
    ·exact .inl ((h2 id).2 (.inl g))
    ·rcases q3 q g with g' | ⟨q0,g1,g2⟩
     ·exact .inr (by omega)
     ·exact .inl ((h2 _).2 (.inr ⟨q0,g1,g2⟩)))
 erw [e2]
 rw [Option.bind_some]
 simp only [e3,Option.bind_some]
 have hle := ch.le
 cases hst : st with
 | some c => exact (hs c hst).elim
 | none =>
  obtain ⟨so,h1,h2⟩ := hn hst
  rw [hlen] at h1
  have hv := h1.vec
  rw [List.take_length] at hv
  have hlo := hv.lo
  have hnx := h1.nx
  simp only [pcode,Option.bind_some,if_true]
  have y2 : (S'.put S.next (.cells 1 [[so.hv]] true)).heap (S.next + 1) = .cells 1 [[.bool false]] true := by rw [put_other _ (by omega)]; exact h1.cb
  rw [ldSl_cell h1.co,Option.bind_some,sets_cell _ h1.cr,Option.bind_some,sets_cell _ y2,Option.bind_some]
  have y4 : ((S'.put S.next (.cells 1 [[so.hv]] true)).put (S.next + 1) (.cells 1 [[.bool true]] true)).heap S1.next = .defer := by rw [put_other _ (by omega),put_other _ (by omega)]; exact de
  simp only [HS.leave,y4,Option.bind_some]
  have z1 : (((S'.put S.next (.cells 1 [[so.hv]] true)).put (S.next + 1) (.cells 1 [[.bool true]] true)).put S1.next .dead).heap S.next = .cells 1 [[so.hv]] true := by rw [put_other _ (by omega),put_other _ (by omega)]; exact put_here _ _ _
  have z2 : (((S'.put S.next (.cells 1 [[so.hv]] true)).put (S.next + 1) (.cells 1 [[.bool true]] true)).put S1.next .dead).heap (S.next + 1) = .cells 1 [[.bool true]] true := by rw [put_other _ (by omega)]; exact put_here _ _ _
  rw [ldSl_cell z1,Option.bind_some,ldB_cell z2,Option.bind_some]
  refine ⟨so,_,rfl,rows_keep hv.rows fun q hq => ?_,fun q hq => ⟨by have := hlo q hq; omega,by simp only [put_next]; exact (hlo q hq).2⟩,⟨by simp only [put_next]; omega,fun id hid => ?_⟩⟩
  ·have := hlo q hq
   have := (lt q.1 ((h2 _).2 (.inr ⟨q,hq,rfl⟩))).1
   rw [put_other _ (by omega),put_other _ (by omega),put_other _ (by omega)]
  ·rw [put_other _ (by omega),put_other _ (by omega),put_other _ (by omega),ch.eq id (by omega) (fun ho => by
    rcases ho with g | ⟨q,g,_⟩
    ·omega
    ·cases g),f1.eq id (by omega)]
   exact f4.eq id hid
end KI.Clients
end Go.Proofs.YtcphapfclncggaaGreatDoor.X
namespace Go.Proofs.YtcphapfclncggaaGreatDoor.X
open Go.Proofs.YtcphapfclncggaaGreatDoor.HL
set_option linter.unusedVariables false
theorem all_fin {p : Int → Prop} (h : ∀ n : Fin 256,p (n.val : Int)) {i : Nat} (hi : i < 256) : p (i : Int) := h ⟨i,hi⟩
def hasB (row : List UInt8) (i : Int) : Bool := (valid_has.f row i).getD false
theorem has_eq (row : List UInt8) (i : Int) : valid_has.f row i = some (hasB row i) := rfl
def letB (i : Int) : Bool := (valid_letter.f i).getD false
theorem let_eq {i : Nat} (hi : i < 256) : valid_letter.f (i : Int) = some (letB i) := all_fin (p := fun i => valid_letter.f i = some (letB i)) (by decide +kernel) hi
structure KS (q : Nat) (row : List HV) (i : Nat) (v : Int) (B S : HS) : Prop where
 cell : S.heap q = .cells 256 [row.set i (.int .u16 v)] true
 old : ∀ id,id ≠ q → S.heap id = B.heap id
 nx : S.next = B.next
theorem KS.step {q i : Nat} {row : List HV} {v : Int} {B S : HS} (hi : i < 256) (hr : row.length = 256) (h : KS q row i v B S) (c : Int) :
  S.ldI .u16 (HA.fld (HA.cell0 q) (Int.toNat (i : Int))) = some v ∧ ∃ S',S.sets (HA.fld (HA.cell0 q) (Int.toNat (i : Int))) [.int .u16 c] = some S' ∧ KS q row i c B S' := by
 have hget : (row.set i (HV.int .u16 v))[i]? = some (.int .u16 v) := by rw [List.getElem?_set_self (by omega)]
 constructor
 ·simp only [Int.toNat_natCast]
  exact row_ldI (cell_row h.cell) rfl hget
 ·refine ⟨S.put q (.cells 256 [row.set i (.int .u16 c)] true),?_,⟨put_here _ _ _,fun id hid => (put_other _ hid).trans (h.old id hid),h.nx⟩⟩
  simp only [Int.toNat_natCast,HA.fld]
  rw [sets_row h.cell rfl (by simp; omega)]
  congr 2
  simp only [List.set_cons_zero,List.cons.injEq,and_true,Nat.zero_add,List.length_singleton]
  congr 2
  apply List.ext_getElem?
  intro j
  rw [List.getElem?_append,List.getElem?_append]
  simp only [List.length_take,List.length_set,List.length_append,List.length_singleton,hr]
  by_cases h1 : j < i
  ·rw [if_pos (by omega),if_pos (by omega),List.getElem?_take,if_pos h1,List.getElem?_set_ne (by omega),List.getElem?_set_ne (by omega)]
  ·by_cases h2 : j = i
   ·subst h2
    rw [if_pos (by omega),if_neg (by omega),List.getElem?_set_self (by omega),show j - min j 256 = 0 by omega]
    rfl
   ·rw [if_neg (by omega),List.getElem?_drop,List.getElem?_set_ne (by omega),List.getElem?_set_ne (by omega)]
    congr 1; omega
theorem upd {R : Type} {q i : Nat} {row : List HV} {v : Int} {B S : HS} (hi : i < 256) (hr : row.length = 256) (h : KS q row i v B S) (c : Int) (b : Bool) (rest : HS → Option R) :
  ∃ S',(if b = true then
   (Option.bind (some (HA.cell0 q)) fun p9 =>
   (if 0 ≤ (i : Int) ∧ (i : Int) < 256 then
   (Option.bind (HS.ldI S .u16 (HA.fld p9 (Int.toNat i))) fun p11 =>
   (Option.bind (some (HA.cell0 q)) fun p12 =>
   (if 0 ≤ (i : Int) ∧ (i : Int) < 256 then
   (Option.bind (HS.sets S (HA.fld p12 (Int.toNat i)) [(.int .u16 (ior .u16 p11 c))]) fun p14 =>
   rest p14) else none))) else none)) else rest S) = rest S' ∧ KS q row i (if b then ior .u16 v c else v) B S' := by
 cases b with
 | false => exact ⟨S,by simp,by simpa using h⟩
 | true =>
  obtain ⟨h1,S',h2,h3⟩ := h.step hi hr (ior .u16 v c)
  refine ⟨S',?_,by simpa using h3⟩
  rw [if_pos rfl,Option.bind_some,if_pos ⟨by omega,by omega⟩,h1,Option.bind_some,Option.bind_some,if_pos ⟨by omega,by omega⟩,h2,Option.bind_some]
def kindOf (i : Int) : Int :=
 let dg := decide (i ≥ 48) && decide (i ≤ 57)
 let pl := decide (i ≥ 33) && decide (i ≤ 126)
 let v1 := if letB i || hasB [91,93,92,95,94,123,124,125,96] i then ior .u16 0 3 else 0
 let v2 := if dg || decide (i = 45) then ior .u16 v1 2 else v1
 let v3 := if !hasB [0,7,10,13,32,44,58] i then ior .u16 v2 4 else v2
 let v4 := if pl && !hasB [33,64,42,63,58] i then ior .u16 v3 8 else v3
 let v5 := if (letB i || dg) || hasB [46,45,58] i then ior .u16 v4 16 else v4
 let v6 := if pl && !decide (i = 44) then ior .u16 v5 32 else v5
 if !hasB [0,10,13] i then ior .u16 v6 64 else v6
section
variable {k : Nat} {rec0 : Option HA → Option HA → Int → HS → Option (List HV × HS)} {y0 : Option HA} {q i : Nat} {row : List HV} {v : Int} {B S : HS}
theorem j14 (hi : i < 256) (hr : row.length = 256) (h : KS q row i v B S) : ∃ S',valid_kinds.J14 k rec0 y0 (some (HA.cell0 q)) (i : Int) (i : Int) S = rec0 y0 (some (HA.cell0 q)) (w64 ((i : Int) + 1)) S' ∧ KS q row i (if !hasB [0,10,13] i then ior .u16 v 64 else v) B S' := by
 rw [valid_kinds.J14,has_eq,Option.bind_some]
 exact upd hi hr h 64 _ (fun S => valid_kinds.J15 k rec0 y0 (some (HA.cell0 q)) (i : Int) S)
theorem j12 (pl : Bool) (hi : i < 256) (hr : row.length = 256) (h : KS q row i v B S) : ∃ S',valid_kinds.J12 k rec0 y0 (some (HA.cell0 q)) (i : Int) pl (i : Int) S = valid_kinds.J14 k rec0 y0 (some (HA.cell0 q)) (i : Int) (i : Int) S' ∧ KS q row i (if pl && !decide ((i : Int) = 44) then ior .u16 v 32 else v) B S' := by
 have e : valid_kinds.J12 k rec0 y0 (some (HA.cell0 q)) (i : Int) pl (i : Int) S = valid_kinds.J13 k rec0 y0 (some (HA.cell0 q)) (i : Int) (i : Int) (pl && !decide ((i : Int) = 44)) S := by
  rw [valid_kinds.J12]; cases pl <;> simp
 rw [e,valid_kinds.J13]
 exact upd hi hr h 32 _ (fun S => valid_kinds.J14 k rec0 y0 (some (HA.cell0 q)) (i : Int) (i : Int) S)
theorem j9 (dg pl : Bool) (hi : i < 256) (hr : row.length = 256) (h : KS q row i v B S) : ∃ S',valid_kinds.J9 k rec0 y0 (some (HA.cell0 q)) (i : Int) dg pl (i : Int) S = valid_kinds.J12 k rec0 y0 (some (HA.cell0 q)) (i : Int) pl (i : Int) S' ∧ KS q row i (if (letB i || dg) || hasB [46,45,58] i then ior .u16 v 16 else v) B S' := by
 have e : valid_kinds.J9 k rec0 y0 (some (HA.cell0 q)) (i : Int) dg pl (i : Int) S = valid_kinds.J11 k rec0 y0 (some (HA.cell0 q)) (i : Int) pl (i : Int) ((letB i || dg) || hasB [46,45,58] i) S := by
  rw [valid_kinds.J9,let_eq hi,Option.bind_some]
  cases letB (i : Int) <;> cases dg <;> simp [valid_kinds.J10,has_eq]
 rw [e,valid_kinds.J11]
 exact upd hi hr h 16 _ (fun S => valid_kinds.J12 k rec0 y0 (some (HA.cell0 q)) (i : Int) pl (i : Int) S)
theorem j7 (dg pl : Bool) (hi : i < 256) (hr : row.length = 256) (h : KS q row i v B S) : ∃ S',valid_kinds.J7 k rec0 y0 (some (HA.cell0 q)) (i : Int) dg pl (i : Int) S = valid_kinds.J9 k rec0 y0 (some (HA.cell0 q)) (i : Int) dg pl (i : Int) S' ∧ KS q row i (if pl && !hasB [33,64,42,63,58] i then ior .u16 v 8 else v) B S' := by
 have e : valid_kinds.J7 k rec0 y0 (some (HA.cell0 q)) (i : Int) dg pl (i : Int) S = valid_kinds.J8 k rec0 y0 (some (HA.cell0 q)) (i : Int) dg pl (i : Int) (pl && !hasB [33,64,42,63,58] i) S := by
  rw [valid_kinds.J7]; cases pl <;> simp [has_eq]
 rw [e,valid_kinds.J8]
 exact upd hi hr h 8 _ (fun S => valid_kinds.J9 k rec0 y0 (some (HA.cell0 q)) (i : Int) dg pl (i : Int) S)
theorem j6 (dg pl : Bool) (hi : i < 256) (hr : row.length = 256) (h : KS q row i v B S) : ∃ S',valid_kinds.J6 k rec0 y0 (some (HA.cell0 q)) (i : Int) dg pl (i : Int) S = valid_kinds.J7 k rec0 y0 (some (HA.cell0 q)) (i : Int) dg pl (i : Int) S' ∧ KS q row i (if !hasB [0,7,10,13,32,44,58] i then ior .u16 v 4 else v) B S' := by
 rw [valid_kinds.J6,has_eq,Option.bind_some]
 exact upd hi hr h 4 _ (fun S => valid_kinds.J7 k rec0 y0 (some (HA.cell0 q)) (i : Int) dg pl (i : Int) S)
theorem j4 (dg pl : Bool) (hi : i < 256) (hr : row.length = 256) (h : KS q row i v B S) : ∃ S',valid_kinds.J4 k rec0 y0 (some (HA.cell0 q)) (i : Int) dg pl (i : Int) S = valid_kinds.J6 k rec0 y0 (some (HA.cell0 q)) (i : Int) dg pl (i : Int) S' ∧ KS q row i (if dg || decide ((i : Int) = 45) then ior .u16 v 2 else v) B S' := by
 have e : valid_kinds.J4 k rec0 y0 (some (HA.cell0 q)) (i : Int) dg pl (i : Int) S = valid_kinds.J5 k rec0 y0 (some (HA.cell0 q)) (i : Int) dg pl (i : Int) (dg || decide ((i : Int) = 45)) S := by
  rw [valid_kinds.J4]; cases dg <;> simp
 rw [e,valid_kinds.J5]
 exact upd hi hr h 2 _ (fun S => valid_kinds.J6 k rec0 y0 (some (HA.cell0 q)) (i : Int) dg pl (i : Int) S)
theorem j2 (dg pl : Bool) (hi : i < 256) (hr : row.length = 256) (h : KS q row i v B S) : ∃ S',valid_kinds.J2 k rec0 y0 (some (HA.cell0 q)) (i : Int) dg (i : Int) pl S = valid_kinds.J4 k rec0 y0 (some (HA.cell0 q)) (i : Int) dg pl (i : Int) S' ∧ KS q row i (if letB i || hasB [91,93,92,95,94,123,124,125,96] i then ior .u16 v 3 else v) B S' := by
 have e : valid_kinds.J2 k rec0 y0 (some (HA.cell0 q)) (i : Int) dg (i : Int) pl S = valid_kinds.J3 k rec0 y0 (some (HA.cell0 q)) (i : Int) dg pl (i : Int) (letB i || hasB [91,93,92,95,94,123,124,125,96] i) S := by
  rw [valid_kinds.J2,let_eq hi,Option.bind_some]
  cases letB (i : Int) <;> simp [has_eq]
 rw [e,valid_kinds.J3]
 exact upd hi hr h 3 _ (fun S => valid_kinds.J4 k rec0 y0 (some (HA.cell0 q)) (i : Int) dg pl (i : Int) S)
end
def kpart (i : Nat) : List HV := (List.range i).map (fun (j : Nat) => HV.int .u16 (kindOf (j : Int))) ++ List.replicate (256 - i) (.int .u16 0)
theorem kpart_len {i : Nat} (hi : i ≤ 256) : (kpart i).length = 256 := by simp [kpart]; omega
theorem kpart_zero {i : Nat} (hi : i < 256) : (kpart i).set i (.int .u16 0) = kpart i := by
 apply List.ext_getElem?
 intro j
 by_cases h : i = j
 ·subst h
  rw [List.getElem?_set_self (by rw [kpart_len (by omega)]; exact hi),kpart,List.getElem?_append_right (by simp)]
  simp [List.getElem?_replicate]; omega
 ·rw [List.getElem?_set_ne h]
theorem kpart_succ {i : Nat} (hi : i < 256) : (kpart i).set i (.int .u16 (kindOf i)) = kpart (i + 1) := by
 apply List.ext_getElem?
 intro j
 have hl := kpart_len (i := i) (by omega)
 by_cases h : i = j
 ·subst h
  rw [List.getElem?_set_self (by omega),kpart,List.getElem?_append_left (by simp)]
  simp
 ·rw [List.getElem?_set_ne h]
  by_cases h2 : j < i
  ·rw [kpart,kpart,List.getElem?_append_left (by simpa using h2),List.getElem?_append_left (by simp; omega)]
   simp [h2,show j < i + 1 by omega]
  ·rw [kpart,kpart,List.getElem?_append_right (by simp; omega),List.getElem?_append_right (by simp; omega)]
   simp only [List.length_map,List.length_range,List.getElem?_replicate]
   by_cases h3 : j < 256
   ·rw [if_pos (by omega),if_pos (by omega)]
   ·rw [if_neg (by omega),if_neg (by omega)]
theorem kinds_loop {k q0 q : Nat} {B : HS} (hne : q0 ≠ q) (h0 : B.heap q0 = .cells 256 [List.replicate 256 (.int .u16 0)] true) : ∀ (n i : Nat) (S : HS),256 - i < n → i ≤ 256 → S.heap q = .cells 256 [kpart i] true → (∀ id,id ≠ q → S.heap id = B.heap id) → S.next = B.next →
  ∃ S',valid_kinds.L0 k n (some (HA.cell0 q0)) (some (HA.cell0 q)) (i : Int) S = some (kpart 256,S') ∧ (∀ id,id ≠ q → id ≠ q0 → S'.heap id = B.heap id) ∧ S'.next = B.next := by
 intro n
 induction n with
 | zero => intro i S h; omega
 | succ n ih =>
  intro i S hn hi hq ho hx
  unfold valid_kinds.L0
  by_cases hlt : i < 256
  ·rw [if_pos (by omega)]
   have hS : KS q (kpart i) i 0 B S := ⟨by rw [kpart_zero hlt]; exact hq,ho,hx⟩
   have hl := kpart_len hi
   have e : (if (i : Int) ≥ 48 then valid_kinds.J1 k (valid_kinds.L0 k n) (some (HA.cell0 q0)) (some (HA.cell0 q)) (i : Int) (i : Int) (decide ((i : Int) ≤ 57)) S else valid_kinds.J1 k (valid_kinds.L0 k n) (some (HA.cell0 q0)) (some (HA.cell0 q)) (i : Int) (i : Int) false S) =
     valid_kinds.J2 k (valid_kinds.L0 k n) (some (HA.cell0 q0)) (some (HA.cell0 q)) (i : Int) (decide ((i : Int) ≥ 48) && decide ((i : Int) ≤ 57)) (i : Int) (decide ((i : Int) ≥ 33) && decide ((i : Int) ≤ 126)) S := by
    by_cases h1 : (i : Int) ≥ 48 <;> by_cases h2 : (i : Int) ≥ 33 <;> simp [h1,h2,valid_kinds.J1]
   rw [e]
   obtain ⟨S1,e1,k1⟩ := j2 (k := k) (rec0 := valid_kinds.L0 k n) (y0 := some (HA.cell0 q0)) (decide ((i : Int) ≥ 48) && decide ((i : Int) ≤ 57)) (decide ((i : Int) ≥ 33) && decide ((i : Int) ≤ 126)) hlt hl hS
   obtain ⟨S2,e2,k2⟩ := j4 (k := k) (rec0 := valid_kinds.L0 k n) (y0 := some (HA.cell0 q0)) (decide ((i : Int) ≥ 48) && decide ((i : Int) ≤ 57)) (decide ((i : Int) ≥ 33) && decide ((i : Int) ≤ 126)) hlt hl k1
   obtain ⟨S3,e3,k3⟩ := j6 (k := k) (rec0 := valid_kinds.L0 k n) (y0 := some (HA.cell0 q0)) (decide ((i : Int) ≥ 48) && decide ((i : Int) ≤ 57)) (decide ((i : Int) ≥ 33) && decide ((i : Int) ≤ 126)) hlt hl k2
   obtain ⟨S4,e4,k4⟩ := j7 (k := k) (rec0 := valid_kinds.L0 k n) (y0 := some (HA.cell0 q0)) (decide ((i : Int) ≥ 48) && decide ((i : Int) ≤ 57)) (decide ((i : Int) ≥ 33) && decide ((i : Int) ≤ 126)) hlt hl k3
   obtain ⟨S5,e5,k5⟩ := j9 (k := k) (rec0 := valid_kinds.L0 k n) (y0 := some (HA.cell0 q0)) (decide ((i : Int) ≥ 48) && decide ((i : Int) ≤ 57)) (decide ((i : Int) ≥ 33) && decide ((i : Int) ≤ 126)) hlt hl k4
   obtain ⟨S6,e6,k6⟩ := j12 (k := k) (rec0 := valid_kinds.L0 k n) (y0 := some (HA.cell0 q0)) (decide ((i : Int) ≥ 33) && decide ((i : Int) ≤ 126)) hlt hl k5
   obtain ⟨S7,e7,k7⟩ := j14 (k := k) (rec0 := valid_kinds.L0 k n) (y0 := some (HA.cell0 q0)) hlt hl k6
   rw [e1,e2,e3,e4,e5,e6,e7,w64_id (by omega) (by omega),show ((i : Int) + 1) = ((i + 1 : Nat) : Int) by simp]
   refine ih (i + 1) S7 (by omega) (by omega) ?_ k7.old k7.nx
   rw [← kpart_succ hlt]
   exact k7.cell
  ·obtain rfl : i = 256 := by omega
   have hl : (kpart 256).length = 256 := kpart_len (Nat.le_refl _)
   have hg : S.gets (HA.cell0 q) 256 = some (kpart 256) := by
    simp only [HS.gets,HS.row,hq]
    simp [hl,List.take_of_length_le]
   have hf : List.all (kpart 256) HV.flat = true := by
    simp [kpart,HV.flat]
   have hq0 : S.heap q0 = .cells 256 [List.replicate 256 (.int .u16 0)] true := by rw [ho q0 hne]; exact h0
   have hs : S.sets (HA.cell0 q0) (kpart 256) = some (S.put q0 (.cells 256 [kpart 256] true)) := by
    rw [show HA.cell0 q0 = (⟨q0,0,0⟩ : HA) from rfl,sets_row hq0 rfl (by rw [hl,List.length_replicate]; exact Nat.le_refl _),List.drop_eq_nil_of_le (by rw [hl,List.length_replicate]; exact Nat.le_refl _),List.take_zero,List.nil_append,List.append_nil,List.set_cons_zero]
   have hg2 : (S.put q0 (.cells 256 [kpart 256] true)).gets (HA.cell0 q0) 256 = some (kpart 256) := by
    simp only [HS.gets,HS.row,put_here]
    simp [hl,List.take_of_length_le]
   rw [if_neg (by omega),Option.bind_some,hg,Option.bind_some,Option.bind_some,if_pos ⟨hl,hf⟩,hs,Option.bind_some,Option.bind_some,hg2,Option.bind_some]
   exact ⟨_,rfl,fun id g1 g2 => by rw [put_other _ g2]; exact ho id g1,hx⟩
theorem kinds_spec {k m : Nat} {S : HS} (hk : 257 ≤ k) (hm : m ≤ S.next) : ∃ S',valid_kinds.f k S = some (kpart 256,S') ∧ Fr m S S' := by
 unfold valid_kinds.f
 simp only [letv,new_next]
 obtain ⟨S',e,h1,h2⟩ := kinds_loop (k := k) (q0 := S.next) (q := S.next + 1) (B := (S.new (.cells 256 [List.replicate 256 (.int .u16 0)] true)).new (.cells 256 [List.replicate 256 (.int .u16 0)] true)) (by omega) (by rw [new_old _ (by rw [new_next]; omega)]; exact new_here _ _) k 0 _ (by omega) (by omega) (by
  rw [show kpart 0 = List.replicate 256 (.int .u16 0) from rfl]
  exact new_here (S.new (.cells 256 [List.replicate 256 (.int .u16 0)] true)) _) (fun _ _ => rfl) rfl
 refine ⟨S',e,⟨by rw [h2]; simp only [new_next]; omega,fun id hid => ?_⟩⟩
 rw [h1 id (by omega) (by omega),new_old _ (by rw [new_next]; omega),new_old _ (by omega)]
end Go.Proofs.YtcphapfclncggaaGreatDoor.X
namespace Go.Proofs.YtcphapfclncggaaGreatDoor.X
open Go.Proofs.YtcphapfclncggaaGreatDoor.HL
set_option linter.unusedVariables false
def isOf (of : Int) (b : UInt8) : Bool := !decide (iand .u16 (kindOf (b.toNat : Int)) of = 0)
theorem kpart_get {j : Nat} (hj : j < 256) : (kpart 256)[j]? = some (.int .u16 (kindOf (j : Int))) := by
 rw [kpart,List.getElem?_append_left (by simpa using hj)]
 simp [hj]
theorem all_loop {k q : Nat} {x : List UInt8} {of : Int} (hx : x.length ≤ 100000) {S : HS} (hS : S.heap q = .cells 256 [kpart 256] true) : ∀ (n i : Nat),x.length - i < n → i ≤ x.length →
  valid_all.L1 k n x of (some (HA.cell0 q)) (x.length : Int) (i : Int) S = some ((x.drop i).all (isOf of),S) := by
 intro n
 induction n with
 | zero => intro i h; omega
 | succ n ih =>
  intro i h hi
  unfold valid_all.L1
  by_cases hlt : i < x.length
  ·have hb := x[i].toNat_lt
   have hr : S.ldI .u16 (HA.fld (HA.cell0 q) (Int.toNat ((x[i]).toNat : Int))) = some (kindOf ((x[i]).toNat : Int)) := by
    rw [Int.toNat_natCast]
    exact row_ldI (cell_row hS) rfl (kpart_get (by omega))
   rw [if_pos (by omega),sat_lt hlt,Option.bind_some,Option.bind_some,if_pos ⟨by omega,by omega⟩,hr,Option.bind_some,List.drop_eq_getElem_cons hlt,List.all_cons]
   by_cases h0 : iand .u16 (kindOf ((x[i]).toNat : Int)) of = 0
   ·rw [if_pos h0]; simp [isOf,h0]
   ·rw [if_neg h0,w64_id (by omega) (by omega),show ((i : Int) + 1) = ((i + 1 : Nat) : Int) by simp,ih (i + 1) (by omega) (by omega)]
    simp [isOf,h0]
  ·rw [if_neg (by omega),List.drop_eq_nil_of_le (by omega)]; rfl
theorem all_spec {k m : Nat} {x : List UInt8} {of least most : Int} {S : HS} (hx : x.length ≤ 100000) (hk : 257 ≤ k) (hk2 : x.length < k) (hm : m ≤ S.next) :
  ∃ S',valid_all.f k x least most of S = some (decide (least ≤ x.length ∧ (x.length : Int) ≤ most) && x.all (isOf of),S') ∧ Fr m S S' := by
 have hcore : ∃ S',valid_all.J0 k x of false S = some (x.all (isOf of),S') ∧ Fr m S S' := by
  obtain ⟨S1,e1,f1⟩ := kinds_spec (k := k) (m := m) (S := S) hk hm
  have hl : (kpart 256).length = 256 := kpart_len (Nat.le_refl _)
  have hf : List.all (kpart 256) HV.flat = true := by simp [kpart,HV.flat]
  rw [valid_all.J0,if_neg (by simp),e1,Option.bind_some,letv,if_pos ⟨hl,hf⟩,show HA.cell0 S1.next = (⟨S1.next,0,0⟩ : HA) from rfl,
   sets_row (new_here S1 _) rfl (by rw [hl,List.length_replicate]; exact Nat.le_refl _),List.drop_eq_nil_of_le (by rw [hl,List.length_replicate]; exact Nat.le_refl _),List.take_zero,List.nil_append,List.append_nil,List.set_cons_zero,Option.bind_some]
  have := all_loop (k := k) (q := S1.next) (x := x) (of := of) hx (S := (S1.new (.cells 256 [List.replicate 256 (.int .u16 0)] true)).put S1.next (.cells 256 [kpart 256] true)) (put_here _ _ _) k 0 (by omega) (by omega)
  exact ⟨_,this,f1.trans ((Fr.new (Nat.le_trans hm f1.le) _).trans (Fr.put (Nat.le_trans hm f1.le) _))⟩
 have hfalse : valid_all.J0 k x of true S = some (false,S) := by rw [valid_all.J0,if_pos rfl]
 unfold valid_all.f
 by_cases h1 : (x.length : Int) < least
 ·rw [if_pos h1,hfalse]
  exact ⟨S,by simp; omega,Fr.refl _ _⟩
 ·rw [if_neg h1]
  by_cases h2 : (x.length : Int) > most
  ·rw [show decide ((x.length : Int) > most) = true by simpa using h2,hfalse]
   exact ⟨S,by simp; omega,Fr.refl _ _⟩
  ·rw [show decide ((x.length : Int) > most) = false by simpa using h2]
   obtain ⟨S',e,f⟩ := hcore
   exact ⟨S',by rw [e,show decide (least ≤ (x.length : Int) ∧ (x.length : Int) ≤ most) = true by simp; omega]; rfl,f⟩
end Go.Proofs.YtcphapfclncggaaGreatDoor.X
