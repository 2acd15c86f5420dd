/- Sets of string, plain. Sets of int, what is told, plain. Sets of string, what is told, plain. Maps of sets, keys of int, things of string, plain. Maps of sets, keys of string, things of int, plain. The layer pair: the relation, plain. Folded texts, plain. The layer rooms: names compared; lists in order, plain. The layer rooms: the book of rooms, plain. The layer rooms: a room's members: searched, plain. The layer rooms: a room, plain. The layer rooms: all rooms, what is held, plain. The layer rooms: steps of what is held, plain. The layer rooms: Join, plain. The layer rooms: Join, plain. The layer rooms: Part, plain. The layer rooms: the rooms of somebody, plain. The layer rooms: all rooms, as they are told, plain. The layer rooms: ranges inside a body; New, plain. The layer rooms: acts; members looked up; all rooms, plain. The layer rooms: on how many one is, plain. The layer rooms: what is told, gathered. The layer rooms: unions, plain. The layer rooms: Without, plain. The layer rooms: a range within a range; members told, plain. The layer rooms: the members of one room, gathered into a set, plain. The layer rooms: Peers, plain. The layer rooms: Peers, plain. The layer rooms: two lists of numbers compared, plain. -/
import Derived.Test.YtbmfomkfmpppiaaGreatPart12
namespace Go.Proofs.YtbmfomkfmpppiaaGreat.X
open Go.Proofs.YtbmfomkfmpppiaaGreat.HL
set_option linter.unusedVariables false
namespace KS
abbrev Ky := List UInt8
def kv (k : Ky) : HV := .str k
def klt (a b : Ky) : Bool := slt a b
theorem klt_irrefl : ∀ (x : Ky),klt x x = false := by
 intro x
 unfold klt
 induction x with
 | nil => rfl
 | cons a x ih => simp [slt,ih]
theorem klt_trans : ∀ {a b c : Ky},klt a b = true → klt b c = true → klt a c = true := by
 unfold klt
 intro a
 induction a with
 | nil => intro b c h1 h2; cases c with
  | nil => cases b <;> simp [slt] at h2
  | cons z c => rfl
 | cons x a ih =>
  intro b c h1 h2
  cases b with
  | nil => simp [slt] at h1
  | cons y b =>
   cases c with
   | nil => simp [slt] at h2
   | cons z c =>
    simp only [slt,Bool.or_eq_true,decide_eq_true_eq,Bool.and_eq_true,beq_iff_eq] at *
    rcases h1 with h1 | ⟨h1,h1'⟩
    ·rcases h2 with h2 | ⟨h2,_⟩
     ·exact .inl (UInt8.lt_trans h1 h2)
     ·exact .inl (h2 ▸ h1)
    ·rcases h2 with h2 | ⟨h2,h2'⟩
     ·exact .inl (h1 ▸ h2)
     ·exact .inr ⟨h1.trans h2,ih h1' h2'⟩
theorem klt_tri : ∀ (a b : Ky),klt a b = true ∨ a = b ∨ klt b a = true := by
 unfold klt
 intro a
 induction a with
 | nil => intro b; cases b with
  | nil => exact .inr (.inl rfl)
  | cons y b => exact .inl rfl
 | cons x a ih =>
  intro b
  cases b with
  | nil => exact .inr (.inr rfl)
  | cons y b =>
   simp only [slt,Bool.or_eq_true,decide_eq_true_eq,Bool.and_eq_true,beq_iff_eq,List.cons.injEq]
   rcases Nat.lt_trichotomy x.toNat y.toNat with h | h | h
   ·exact .inl (.inl (UInt8.lt_iff_toNat_lt.2 h))
   ·have hxy := UInt8.toNat_inj.1 h
    rcases ih b with g | g | g
    ·exact .inl (.inr ⟨hxy,g⟩)
    ·exact .inr (.inl ⟨hxy,g⟩)
    ·exact .inr (.inr (.inr ⟨hxy.symm,g⟩))
   ·exact .inr (.inr (.inl (UInt8.lt_iff_toNat_lt.2 h)))
def row1 (k : Ky) : List HV := [kv k]
theorem ldK_at {S : HS} {s : Sl} {xs : List Ky} (h : S.rows s 1 = some (xs.map row1)) {i : Nat} (hi : i < xs.length) : ∃ ad,S.idx s (i : Int) 1 = some ad ∧ S.ldS ad = some xs[i] := by
 obtain ⟨ad,h1,h2⟩ := get_at h (i := i) (v := kv xs[i]) (by simpa using hi) (by rw [List.getElem_map]; rfl)
 exact ⟨ad,h1,by rw [HS.ldS,h2]; simp [dS,kv]⟩
theorem less_spec (a b : Ky) : cmp_Less_string.f a b = some (klt a b) := by
 have h : ∀ x,cmp_isNaN_string.f x = some false := fun x => by simp [cmp_isNaN_string.f]
 rw [cmp_Less_string.f,h,obs,if_neg (by simp),cmp_Less_string.J0,if_neg (by simp),cmp_Less_string.J1]
 rfl
def Srt (es : List Ky) : Prop := es.Pairwise fun a b => klt a b = true
theorem Srt.lt {es : List Ky} (h : Srt es) {i j : Nat} (hi : i < es.length) (hj : j < es.length) (hij : i < j) : klt es[i] es[j] = true := List.pairwise_iff_getElem.1 h i j hi hj hij
structure PosOf (es : List Ky) (t : Ky) (p : Nat) : Prop where
 le : p ≤ es.length
 lo : ∀ q (hq : q < es.length),q < p → klt es[q] t = true
 hi : ∀ q (hq : q < es.length),p ≤ q → klt es[q] t = false
theorem PosOf.gt {es : List Ky} {t : Ky} {p : Nat} (h : PosOf es t p) (hs : Srt es) (hf : t ∉ es) {q : Nat} (hq : q < es.length) (hpq : p ≤ q) : klt t es[q] = true := by
 have h1 := h.hi q hq hpq
 rcases klt_tri es[q] t with g | g | g
 ·rw [h1] at g; cases g
 ·exact absurd (g ▸ List.getElem_mem hq) hf
 ·exact g
theorem PosOf.here {es : List Ky} {t : Ky} {p : Nat} (h : PosOf es t p) (hs : Srt es) (hm : t ∈ es) : ∃ hp : p < es.length,es[p] = t := by
 obtain ⟨q,hq,he⟩ := List.getElem_of_mem hm
 have hqp : p ≤ q := by
  rcases Nat.lt_or_ge q p with g | g
  ·have := h.lo q hq g; rw [he,klt_irrefl] at this; cases this
  ·exact g
 have hp : p < es.length := by omega
 refine ⟨hp,?_⟩
 rcases Nat.eq_or_lt_of_le hqp with g | g
 ·subst g; exact he
 ·have h1 := hs.lt hp hq g
  rw [he] at h1
  rw [h.hi p hp (Nat.le_refl _)] at h1; cases h1
theorem ins_srt {es : List Ky} {t : Ky} {p : Nat} (h : PosOf es t p) (hs : Srt es) (hf : t ∉ es) : Srt (es.take p ++ [t] ++ es.drop p) := by
 unfold Srt
 rw [List.append_assoc,List.pairwise_append]
 refine ⟨List.Pairwise.sublist (List.take_sublist _ _) hs,?_,fun a ha b hb => ?_⟩
 ·rw [List.singleton_append,List.pairwise_cons]
  refine ⟨fun b hb => ?_,List.Pairwise.sublist (List.drop_sublist _ _) hs⟩
  obtain ⟨q,hq,rfl⟩ := List.getElem_of_mem hb
  rw [List.getElem_drop]
  exact h.gt hs hf _ (by omega)
 ·obtain ⟨q,hq,rfl⟩ := List.getElem_of_mem ha
  rw [List.length_take] at hq
  rw [List.getElem_take]
  have h1 := h.lo q (by omega) (by omega)
  rcases List.mem_append.1 hb with hb | hb
  ·simp only [List.mem_singleton] at hb
   subst hb; exact h1
  ·obtain ⟨q2,hq2,rfl⟩ := List.getElem_of_mem hb
   rw [List.getElem_drop]
   rw [List.length_drop] at hq2
   exact hs.lt (by omega) (by omega) (by omega)
theorem ins_mem {es : List Ky} {t : Ky} {p : Nat} (v : Ky) : v ∈ es.take p ++ [t] ++ es.drop p ↔ v ∈ es ∨ v = t := by
 simp only [List.mem_append,List.mem_singleton]
 constructor
 ·rintro ((h | h) | h)
  ·exact .inl (List.mem_of_mem_take h)
  ·exact .inr h
  ·exact .inl (List.mem_of_mem_drop h)
 ·rintro (h | h)
  ·rw [← List.take_append_drop p es,List.mem_append] at h
   rcases h with h | h
   ·exact .inl (.inl h)
   ·exact .inr h
  ·exact .inl (.inr h)
theorem erase_srt {es : List Ky} (hs : Srt es) (p : Nat) : Srt (es.eraseIdx p) := List.Pairwise.sublist (List.eraseIdx_sublist _ _) hs
theorem erase_mem {es : List Ky} (hs : Srt es) {p : Nat} (hp : p < es.length) (v : Ky) : v ∈ es.eraseIdx p ↔ v ∈ es ∧ v ≠ es[p] := by
 rw [List.mem_eraseIdx_iff_getElem]
 constructor
 ·rintro ⟨q,hq,hne,rfl⟩
  refine ⟨List.getElem_mem hq,fun he => ?_⟩
  rcases Nat.lt_or_ge q p with g | g
  ·have := hs.lt hq hp g; rw [he,klt_irrefl] at this; cases this
  ·have := hs.lt hp hq (by omega); rw [he,klt_irrefl] at this; cases this
 ·rintro ⟨hm,hne⟩
  obtain ⟨q,hq,rfl⟩ := List.getElem_of_mem hm
  exact ⟨q,hq,fun e => hne (by subst e; rfl),rfl⟩
theorem srt_ext : ∀ {a b : List Ky},Srt a → Srt b → (∀ v,v ∈ a ↔ v ∈ b) → a = b := by
 intro a
 induction a with
 | nil =>
  intro b _ _ h
  cases b with
  | nil => rfl
  | cons y b => exact absurd ((h y).2 (by simp)) (by simp)
 | cons x a ih =>
  intro b ha hb h
  cases b with
  | nil => exact absurd ((h x).1 (by simp)) (by simp)
  | cons y b =>
   have ha' := List.pairwise_cons.1 ha
   have hb' := List.pairwise_cons.1 hb
   have hxy : x = y := by
    rcases List.mem_cons.1 ((h x).1 (by simp)) with g | g
    ·exact g
    ·rcases List.mem_cons.1 ((h y).2 (by simp)) with g2 | g2
     ·exact g2.symm
     ·have h1 := hb'.1 x g
      have h2 := ha'.1 y g2
      have := klt_trans h1 h2
      rw [klt_irrefl] at this; cases this
   subst hxy
   congr 1
   refine ih ha'.2 hb'.2 fun v => ?_
   have h1 := h v
   simp only [List.mem_cons] at h1
   constructor
   ·intro hv
    rcases h1.1 (.inr hv) with g | g
    ·subst g; have := ha'.1 v hv; rw [klt_irrefl] at this; cases this
    ·exact g
   ·intro hv
    rcases h1.2 (.inr hv) with g | g
    ·subst g; have := hb'.1 v hv; rw [klt_irrefl] at this; cases this
    ·exact g
theorem bs_spec {k : Nat} {S : HS} {s : Sl} {es : List Ky} {t : Ky} (hk : 2000 ≤ k) (hs : Srt es) (hle : es.length ≤ 1000) (hr : S.rows s 1 = some (es.map row1)) :
  ∃ p : Nat,slices_BinarySearch_string_string.f k s t S = some (((p : Int),decide (t ∈ es)),S) ∧ PosOf es t p := by
 have hsl : (s.len : Int) = es.length := by rw [← rows_len hr]; simp
 have hloop : ∀ (n i j : Nat),j - i < n → i ≤ j → j ≤ es.length → (∀ q (hq : q < es.length),q < i → klt es[q] t = true) → (∀ q (hq : q < es.length),j ≤ q → klt es[q] t = false) →
   ∃ p : Nat,slices_BinarySearch_string_string.L0 k n s t (es.length : Int) (i : Int) (j : Int) S = some (((p : Int),decide (t ∈ es)),S) ∧ PosOf es t p := by
  intro n
  induction n with
  | zero => intro i j h; omega
  | succ n ih =>
   intro i j hf hij hj hlo hhi
   rw [slices_BinarySearch_string_string.L0]
   by_cases hlt : i < j
   ·rw [if_pos (by omega),mid_eq (by omega)]
    have hm : (i + j) / 2 < es.length := by omega
    obtain ⟨ad,a1,a2⟩ := ldK_at hr hm
    rw [a1,obs,a2,obs,less_spec,obs]
    cases hc : klt es[(i + j) / 2] t with
    | true =>
     rw [if_pos rfl,w64_id (by omega) (by omega),show ((((i + j) / 2 : Nat) : Int) + 1) = (((i + j) / 2 + 1 : Nat) : Int) by simp]
     exact ih ((i + j) / 2 + 1) j (by omega) (by omega) hj (fun q hq hqi => by
      rcases Nat.lt_or_ge q ((i + j) / 2) with h | h
      ·exact klt_trans (hs.lt hq hm h) hc
      ·obtain rfl : q = (i + j) / 2 := by omega
       exact hc) hhi
    | false =>
     rw [if_neg (by simp)]
     exact ih i ((i + j) / 2) (by omega) (by omega) (by omega) hlo (fun q hq hqi => by
      rcases Nat.lt_or_ge ((i + j) / 2) q with h | h
      ·cases h2 : klt es[q] t with
       | false => rfl
       | true => have := klt_trans (hs.lt hm hq h) h2; rw [hc] at this; cases this
      ·obtain rfl : q = (i + j) / 2 := by omega
       exact hc)
   ·obtain rfl : i = j := by omega
    rw [if_neg (by omega)]
    have hp : PosOf es t i := ⟨hj,hlo,hhi⟩
    refine ⟨i,?_,hp⟩
    by_cases hend : i < es.length
    ·obtain ⟨ad,a1,a2⟩ := ldK_at hr hend
     rw [if_pos (by omega),a1,obs,a2,obs]
     by_cases he : es[i] = t
     ·rw [if_pos he,slices_BinarySearch_string_string.J1,if_pos (by simpa using hend),slices_BinarySearch_string_string.J2,decide_eq_true (he ▸ List.getElem_mem hend)]
     ·have hno : t ∉ es := fun hm => by
       obtain ⟨_,h2⟩ := hp.here hs hm
       exact he h2
      rw [if_neg he,obs,a2,obs,show slices_isNaN_string.f es[i] = some false by simp [slices_isNaN_string.f],obs,if_neg (by simp),slices_BinarySearch_string_string.J3,if_pos (by simpa using hend),if_neg (by simpa using he),slices_BinarySearch_string_string.J1,if_pos (by simpa using hend),slices_BinarySearch_string_string.J2,decide_eq_false hno]
    ·have hno : t ∉ es := fun hm => by
      obtain ⟨h1,_⟩ := hp.here hs hm
      exact hend h1
     rw [if_neg (by omega),slices_BinarySearch_string_string.J2,decide_eq_false hno]
 rw [slices_BinarySearch_string_string.f,hsl]
 exact hloop k 0 es.length (by omega) (Nat.zero_le _) (Nat.le_refl _) (fun q hq h => by omega) (fun q hq h => by omega)
structure SI (p : Nat) (s : Sl) (xs : List Ky) (S : HS) : Prop where
 cell : S.heap p = .cells 1 [[s.hv]] true
 ov : OV S 1 s (xs.map row1)
 ne : ∀ q,s.a = some q → q.1 ≠ p
 hi : p < S.next
 srt : Srt xs
 cnt : xs.length ≤ 1000
theorem SI.lt {p : Nat} {s : Sl} {xs : List Ky} {S : HS} (h : SI p s xs S) {id : Nat} (ho : Own p s id) : id < S.next := by
 rcases ho with rfl | ⟨q,h1,rfl⟩
 ·exact h.hi
 ·exact h.ov.lt h1
theorem SI.keep {p : Nat} {s : Sl} {xs : List Ky} {S S' : HS} (h : SI p s xs S) (he : ∀ id,Own p s id → S'.heap id = S.heap id) (hn : S.next ≤ S'.next) : SI p s xs S' :=
 ⟨(he p (.inl rfl)).trans h.cell,h.ov.keep (fun q hq => he q.1 (.inr ⟨q,hq,rfl⟩)) hn,h.ne,Nat.lt_of_lt_of_le h.hi hn,h.srt,h.cnt⟩
theorem SI.fr {p : Nat} {s : Sl} {xs : List Ky} {S S' : HS} (h : SI p s xs S) (hf : Fr S.next S S') : SI p s xs S' := h.keep (fun id ho => hf.eq id (h.lt ho)) hf.le
theorem SI.ld {p : Nat} {s : Sl} {xs : List Ky} {S : HS} (h : SI p s xs S) : S.ldSl (HA.fld (HA.cell0 p) 0) = some s := row_ldSl (cell_row h.cell) rfl rfl
theorem SI.slen {p : Nat} {s : Sl} {xs : List Ky} {S : HS} (h : SI p s xs S) : (s.len : Int) = xs.length := by rw [h.ov.len]; simp
theorem set_put {p : Nat} {s s' : Sl} {S : HS} (h : S.heap p = .cells 1 [[s.hv]] true) : S.sets (HA.fld (HA.cell0 p) 0) [s'.hv] = some (S.put p (.cells 1 [[s'.hv]] true)) := (sets_row h rfl (by simp)).trans rfl
theorem ins_spec {p : Nat} {s : Sl} {xs : List Ky} {S : HS} (h : SI p s xs S) {t : Ky} {i : Nat} (hp : PosOf xs t i) (hno : t ∉ xs) (hroom : xs.length < 1000) :
  ∃ s' S' S1,slices_Insert_string_string_w.f s (i : Int) (S.lit [[.str t]] 1).1 (S.lit [[.str t]] 1).2 = some (s',S1) ∧ S1.sets (HA.fld (HA.cell0 p) 0) [s'.hv] = some S' ∧ SI p s' (xs.take i ++ [t] ++ xs.drop i) S' ∧ Only p s s' S S' := by
 obtain ⟨s',S1,a1,a2,a3,a4,a5⟩ := ins_ov (row := row1 t) h.ov (i := i) (by simpa using hp.le) (by simp; omega)
 have hcell : S1.heap p = .cells 1 [[s.hv]] true := by rw [a4 p h.hi h.ne]; exact h.cell
 have hne' : ∀ q,s'.a = some q → q.1 ≠ p := fun q hq => by have := a5 q hq; have := h.hi; omega
 refine ⟨s',_,S1,a1,set_put hcell,⟨put_here _ _ _,?_,hne',Nat.lt_of_lt_of_le h.hi a3,ins_srt hp h.srt hno,by simp; omega⟩,⟨by rw [put_next]; exact a3,fun id g1 g2 => ?_,fun id ho => ?_⟩⟩
 ·have hm : (xs.take i ++ [t] ++ xs.drop i).map row1 = (xs.map row1).take i ++ [row1 t] ++ (xs.map row1).drop i := by simp only [List.map_append,List.map_take,List.map_drop,List.map_cons,List.map_nil]
  rw [hm]
  exact a2.keep (fun q hq => put_other _ (hne' q hq)) (Nat.le_refl _)
 ·rw [put_other _ (fun e => g2 (.inl e))]
  exact a4 id g1 (fun q hq e => g2 (.inr ⟨q,hq,e⟩))
 ·rcases ho with g | ⟨q,g1,g2⟩
  ·exact .inl (.inl g)
  ·right; rw [← g2]; exact a5 q g1
theorem del_spec {p : Nat} {s : Sl} {xs : List Ky} {S : HS} (h : SI p s xs S) {i : Nat} (hi : i < xs.length) :
  ∃ s' S' S1,slices_Delete_string_string_w.f s (i : Int) ((i + 1 : Nat) : Int) S = some (s',S1) ∧ S1.sets (HA.fld (HA.cell0 p) 0) [s'.hv] = some S' ∧ SI p s' (xs.eraseIdx i) S' ∧ Only p s s' S S' := by
 have hcnt := h.cnt
 obtain ⟨s',S1,a1,a2,a3,a4,a5⟩ := del_ov h.ov (i := i) (by simpa using hi) (by simp; omega)
 have hcell : S1.heap p = .cells 1 [[s.hv]] true := by rw [a4 p h.hi h.ne]; exact h.cell
 have hne' : ∀ q,s'.a = some q → q.1 ≠ p := fun q hq => by have := a5 q hq; have := h.hi; omega
 refine ⟨s',_,S1,a1,set_put hcell,⟨put_here _ _ _,?_,hne',Nat.lt_of_lt_of_le h.hi a3,erase_srt h.srt i,by rw [List.length_eraseIdx,if_pos hi]; omega⟩,⟨by rw [put_next]; exact a3,fun id g1 g2 => ?_,fun id ho => ?_⟩⟩
 ·rw [Go.ChangeMaps.map_eraseIdx]
  exact a2.keep (fun q hq => put_other _ (hne' q hq)) (Nat.le_refl _)
 ·rw [put_other _ (fun e => g2 (.inl e))]
  exact a4 id g1 (fun q hq e => g2 (.inr ⟨q,hq,e⟩))
 ·rcases ho with g | ⟨q,g1,g2⟩
  ·exact .inl (.inl g)
  ·right; rw [← g2]; exact a5 q g1
theorem add_spec {k p : Nat} {s sl : Sl} {xs ls : List Ky} {S : HS} (hk : 2000 ≤ k) (h : SI p s xs S) (hr : S.rows sl 1 = some (ls.map row1)) (hlt : ∀ q,sl.a = some q → q.1 < S.next ∧ ¬ Own p s q.1) (hc : xs.length + ls.length ≤ 1000) :
  ∃ s' xs' S',set_Set_string_Add.f k (some (HA.cell0 p)) sl S = some ((xs'.length : Int) - xs.length,S') ∧ SI p s' xs' S' ∧ Only p s s' S S' ∧ (∀ v,v ∈ xs' ↔ v ∈ xs ∨ v ∈ ls) ∧ xs.length ≤ xs'.length ∧ xs'.length ≤ xs.length + ls.length := by
 have hsl : (sl.len : Int) = ls.length := by rw [← rows_len hr]; simp
 have hloop : ∀ (f i : Nat) (T : HS) (s1 : Sl) (ys : List Ky),ls.length - i < f → i ≤ ls.length → SI p s1 ys T → Only p s s1 S T → (∀ v,v ∈ ys ↔ v ∈ xs ∨ v ∈ ls.take i) → xs.length ≤ ys.length → ys.length ≤ xs.length + i →
   ∃ s' xs' S',set_Set_string_Add.L0 k f (some (HA.cell0 p)) ((ys.length : Int) - xs.length) sl (ls.length : Int) (i : Int) T = some ((xs'.length : Int) - xs.length,S') ∧ SI p s' xs' S' ∧ Only p s s' S S' ∧ (∀ v,v ∈ xs' ↔ v ∈ xs ∨ v ∈ ls) ∧ xs.length ≤ xs'.length ∧ xs'.length ≤ xs.length + ls.length := by
  intro f
  induction f with
  | zero => intro i T s1 ys h; omega
  | succ f ih =>
   intro i T s1 ys hf hi hT hO hm hge hle
   have hrT : T.rows sl 1 = some (ls.map row1) := rows_keep hr fun q hq => hO.eq q.1 (hlt q hq).1 (hlt q hq).2
   rw [set_Set_string_Add.L0]
   by_cases hil : i < ls.length
   ·obtain ⟨ad,a1,a2⟩ := ldK_at hrT hil
    obtain ⟨j,b1,hp⟩ := bs_spec (t := ls[i]) hk hT.srt hT.cnt hT.ov.rows
    have hmem : ∀ v,(v ∈ ls.take (i + 1) ↔ v ∈ ls.take i ∨ v = ls[i]) := fun v => by rw [List.take_succ_eq_append_getElem hil,List.mem_append,List.mem_singleton]
    rw [if_pos (by omega),a1,obs,a2,obs,obs,hT.ld,obs,b1,obs]
    simp only
    by_cases hin : ls[i] ∈ ys
    ·rw [decide_eq_true hin,if_neg (by simp),set_Set_string_Add.J1,w64_id (by omega) (by omega),show ((i : Int) + 1) = ((i + 1 : Nat) : Int) by simp]
     refine ih (i + 1) T s1 ys (by omega) (by omega) hT hO (fun v => ?_) hge (by omega)
     rw [hmem,← or_assoc,← hm]
     exact ⟨fun h => .inl h,fun h => h.elim id (fun e => e ▸ hin)⟩
    ·obtain ⟨s2,T2,T1,c1,c2,c3,c4⟩ := ins_spec hT hp hin (by omega)
     have hlen : (ys.take j ++ [ls[i]] ++ ys.drop j).length = ys.length + 1 := by
      have := hp.le
      simp only [List.length_append,List.length_take,List.length_drop,List.length_singleton]; omega
     rw [decide_eq_false hin,if_pos (by simp),obs,hT.ld,obs,letv,c1,obs,obs,c2,obs,set_Set_string_Add.J1,w64_id (n := (i : Int) + 1) (by omega) (by omega),show ((i : Int) + 1) = ((i + 1 : Nat) : Int) by simp,w64_id (by omega) (by omega)]
     have e : (ys.length : Int) - xs.length + 1 = ((ys.take j ++ [ls[i]] ++ ys.drop j).length : Int) - xs.length := by rw [hlen]; omega
     rw [e]
     refine ih (i + 1) T2 s2 _ (by omega) (by omega) c3 (hO.trans c4) (fun v => ?_) (by omega) (by omega)
     rw [ins_mem,hmem,← or_assoc,← hm]
   ·obtain rfl : i = ls.length := by omega
    rw [if_neg (by omega)]
    rw [List.take_length] at hm
    exact ⟨s1,ys,T,rfl,hT,hO,hm,hge,hle⟩
 rw [set_Set_string_Add.f,if_neg (by simp),hsl]
 have := hloop k 0 S s xs (by omega) (Nat.zero_le _) h (Only.refl _ _ _) (fun v => by simp) (Nat.le_refl _) (by omega)
 rw [show ((xs.length : Int) - xs.length) = 0 by omega] at this
 exact this
theorem remove_spec {k p : Nat} {s sl : Sl} {xs ls : List Ky} {S : HS} (hk : 2000 ≤ k) (h : SI p s xs S) (hr : S.rows sl 1 = some (ls.map row1)) (hlt : ∀ q,sl.a = some q → q.1 < S.next ∧ ¬ Own p s q.1) (hc : ls.length ≤ 1000) :
  ∃ s' xs' S',set_Set_string_Remove.f k (some (HA.cell0 p)) sl S = some ((xs.length : Int) - xs'.length,S') ∧ SI p s' xs' S' ∧ Only p s s' S S' ∧ (∀ v,v ∈ xs' ↔ v ∈ xs ∧ v ∉ ls) ∧ xs'.length ≤ xs.length := by
 have hsl : (sl.len : Int) = ls.length := by rw [← rows_len hr]; simp
 have hcnt := h.cnt
 have hloop : ∀ (f i : Nat) (T : HS) (s1 : Sl) (ys : List Ky),ls.length - i < f → i ≤ ls.length → SI p s1 ys T → Only p s s1 S T → (∀ v,v ∈ ys ↔ v ∈ xs ∧ v ∉ ls.take i) → ys.length ≤ xs.length →
   ∃ s' xs' S',set_Set_string_Remove.L0 k f (some (HA.cell0 p)) ((xs.length : Int) - ys.length) sl (ls.length : Int) (i : Int) T = some ((xs.length : Int) - xs'.length,S') ∧ SI p s' xs' S' ∧ Only p s s' S S' ∧ (∀ v,v ∈ xs' ↔ v ∈ xs ∧ v ∉ ls) ∧ xs'.length ≤ xs.length := by
  intro f
  induction f with
  | zero => intro i T s1 ys h; omega
  | succ f ih =>
   intro i T s1 ys hf hi hT hO hm hle
   have hrT : T.rows sl 1 = some (ls.map row1) := rows_keep hr fun q hq => hO.eq q.1 (hlt q hq).1 (hlt q hq).2
   rw [set_Set_string_Remove.L0]
   by_cases hil : i < ls.length
   ·obtain ⟨ad,a1,a2⟩ := ldK_at hrT hil
    obtain ⟨j,b1,hp⟩ := bs_spec (t := ls[i]) hk hT.srt hT.cnt hT.ov.rows
    have hmem : ∀ v,(v ∉ ls.take (i + 1) ↔ v ∉ ls.take i ∧ v ≠ ls[i]) := fun v => by rw [List.take_succ_eq_append_getElem hil,List.mem_append,List.mem_singleton,not_or]
    rw [if_pos (by omega),a1,obs,a2,obs,obs,hT.ld,obs,b1,obs]
    simp only
    by_cases hin : ls[i] ∈ ys
    ·obtain ⟨hj,he⟩ := hp.here hT.srt hin
     obtain ⟨s2,T2,T1,c1,c2,c3,c4⟩ := del_spec hT hj
     have hlen : (ys.eraseIdx j).length = ys.length - 1 := by rw [List.length_eraseIdx,if_pos hj]
     rw [decide_eq_true hin,if_pos rfl,obs,hT.ld,obs,w64_id (n := (j : Int) + 1) (by omega) (by omega),show ((j : Int) + 1) = ((j + 1 : Nat) : Int) by simp,c1,obs,obs,c2,obs,set_Set_string_Remove.J1,w64_id (n := (i : Int) + 1) (by omega) (by omega),show ((i : Int) + 1) = ((i + 1 : Nat) : Int) by simp,w64_id (by omega) (by omega)]
     have e : (xs.length : Int) - ys.length + 1 = (xs.length : Int) - ((ys.eraseIdx j).length : Int) := by rw [hlen]; omega
     rw [e]
     refine ih (i + 1) T2 s2 _ (by omega) (by omega) c3 (hO.trans c4) (fun v => ?_) (by omega)
     rw [erase_mem hT.srt hj,hmem,← and_assoc,← hm,he]
    ·rw [decide_eq_false hin,if_neg (by simp),set_Set_string_Remove.J1,w64_id (by omega) (by omega),show ((i : Int) + 1) = ((i + 1 : Nat) : Int) by simp]
     refine ih (i + 1) T s1 ys (by omega) (by omega) hT hO (fun v => ?_) hle
     rw [hmem,← and_assoc,← hm]
     exact ⟨fun h => ⟨h,fun e => hin (e ▸ h)⟩,fun h => h.1⟩
   ·obtain rfl : i = ls.length := by omega
    rw [if_neg (by omega)]
    rw [List.take_length] at hm
    exact ⟨s1,ys,T,rfl,hT,hO,hm,hle⟩
 rw [set_Set_string_Remove.f,if_neg (by simp),hsl]
 have := hloop k 0 S s xs (by omega) (Nat.zero_le _) h (Only.refl _ _ _) (fun v => by simp) (Nat.le_refl _)
 rw [show ((xs.length : Int) - xs.length) = 0 by omega] at this
 exact this
theorem len_spec {p : Nat} {s : Sl} {xs : List Ky} {S : HS} (h : SI p s xs S) : set_Set_string_Len.f (some (HA.cell0 p)) S = some ((xs.length : Int),S) := by
 rw [set_Set_string_Len.f,if_neg (by simp),obs,h.ld,obs,h.slen]
theorem of_spec {k : Nat} {sl : Sl} {ls : List Ky} {S : HS} (hk : 2000 ≤ k) (hr : Rd S.next S 1 sl (ls.map row1)) (hc : ls.length ≤ 1000) :
  ∃ s' xs' S',set_Of_string.f k sl S = some (some (HA.cell0 S.next),S') ∧ SI S.next s' xs' S' ∧ Fr S.next S S' ∧ (∀ id,Own S.next s' id → S.next ≤ id) ∧ (∀ v,v ∈ xs' ↔ v ∈ ls) ∧ xs'.length ≤ ls.length := by
 have fn : Fr S.next S (S.new (.cells 1 [[Sl.nil.hv]] true)) := Fr.new (Nat.le_refl _) _
 have h0 : SI S.next Sl.nil [] (S.new (.cells 1 [[Sl.nil.hv]] true)) := ⟨new_here _ _,.inl ⟨rfl,rfl,rfl⟩,fun q hq => (by cases hq),Nat.lt_succ_self _,List.Pairwise.nil,by simp⟩
 have nn : (S.new (.cells 1 [[Sl.nil.hv]] true)).next = S.next + 1 := rfl
 obtain ⟨s',xs',S',e,g1,g2,g3,g4,g5⟩ := add_spec hk h0 (hr.frame fn (Nat.le_refl _)).rows (fun q hq => ⟨by have := hr.lt q hq; omega,fun ho => by
  rcases ho with g | ⟨q',g,_⟩
  ·have := hr.lt q hq; omega
  ·cases g⟩) (by simpa using hc)
 rw [set_Of_string.f,letv,e,obs]
 refine ⟨s',xs',S',rfl,g1,⟨by have := g2.le; omega,fun id hid => ?_⟩,fun id ho => ?_,fun v => by rw [g3]; simp,by simpa using g5⟩
 ·rw [g2.eq id (by omega) (fun ho => by
   rcases ho with g | ⟨q',g,_⟩
   ·omega
   ·cases g)]
  exact fn.eq id hid
 ·rcases g2.own id ho with g | g
  ·rcases g with g | ⟨q',g,_⟩
   ·omega
   ·cases g
  ·omega
end KS
namespace KI
theorem list_spec {p : Nat} {s : Sl} {xs : List Ky} {S : HS} (h : SI p s xs S) : ∃ s' S',set_Set_int_List.f (some (HA.cell0 p)) S = some (s',S') ∧ S'.rows s' 1 = some (xs.map row1) ∧ (∀ q,s'.a = some q → S.next ≤ q.1 ∧ q.1 < S'.next) ∧ Fr S.next S S' := by
 rw [set_Set_int_List.f,if_neg (by simp),obs,h.ld,obs,slices_Clone_int_int.f]
 by_cases ha : s.a.isNone = true
 ·rw [if_pos ha,obs]
  refine ⟨_,S,rfl,?_,fun q hq => (by cases hq),Fr.refl _ _⟩
  rw [h.ov.none (by simpa using ha)]; rfl
 ·have hcnt := h.cnt
  rw [if_neg ha,letv]
  have hl := Vec.lit (n := S.next) (z := 1) (S := S) [] (Nat.le_refl _)
  have hr' : (S.lit [] 1).2.rows s 1 = some (xs.map row1) := (h.ov.rd.frame (lit_fr [] (Nat.le_refl _)) (Nat.le_refl _)).rows
  obtain ⟨s',S1,e1,v1,f1⟩ := hl.app (new := xs.map row1) (Nat.le_succ _) (by simp; omega)
  rw [hr',obs,e1,obs,obs]
  rw [List.nil_append] at v1
  exact ⟨s',S1,rfl,v1.rows,v1.lo,(lit_fr [] (Nat.le_refl _)).trans f1⟩
theorem app1_spec {n : Nat} {S : HS} {s : Sl} {xs : List Ky} (t : Ky) (h : Vec n S 1 s (xs.map row1)) (hn : n ≤ S.next) (hl : xs.length < 1000000) :
  ∃ s' S',HS.app (S.lit [[.int .i64 t]] 1).2 s [[.int .i64 t]] 1 = some (s',S') ∧ (S.lit [[.int .i64 t]] 1).2.rows (S.lit [[.int .i64 t]] 1).1 1 = some [[.int .i64 t]] ∧ Vec n S' 1 s' ((xs ++ [t]).map row1) ∧ Fr n S S' ∧ (∀ id,id < S.next → (∀ q,s.a = some q → q.1 ≠ id) → S'.heap id = S.heap id) ∧ (∀ q,s'.a = some q → S.next ≤ q.1 ∨ ∃ q0,s.a = some q0 ∧ q0.1 = q.1) := by
 have fl : Fr S.next S (S.lit [[.int .i64 t]] 1).2 := lit_fr _ (Nat.le_refl _)
 have nl : (S.lit [[.int .i64 t]] 1).2.next = S.next + 1 := rfl
 obtain ⟨s',S',e1,v1,f1,k1,q1⟩ := (h.frame fl (Nat.le_refl _)).app2 (new := [[.int .i64 t]]) (by omega) (by simp; omega)
 refine ⟨s',S',e1,(Vec.lit (n := 0) (z := 1) (S := S) _ (Nat.zero_le _)).rows,by rw [List.map_append]; exact v1,(fl.mono hn).trans f1,fun id h1 h2 => (k1 id (by omega) h2).trans (fl.eq id h1),fun q hq => ?_⟩
 rcases q1 q hq with g | g
 ·exact .inl (by omega)
 ·exact .inr g
end KI
namespace KS
theorem has_spec {k p : Nat} {s : Sl} {xs : List Ky} {S : HS} (hk : 2000 ≤ k) (h : SI p s xs S) (t : Ky) : set_Set_string_Has.f k (some (HA.cell0 p)) t S = some (decide (t ∈ xs),S) := by
 obtain ⟨j,b1,hp⟩ := bs_spec (t := t) hk h.srt h.cnt h.ov.rows
 rw [set_Set_string_Has.f,if_neg (by simp),obs,h.ld,obs,b1,obs]
theorem list_spec {p : Nat} {s : Sl} {xs : List Ky} {S : HS} (h : SI p s xs S) : ∃ s' S',set_Set_string_List.f (some (HA.cell0 p)) S = some (s',S') ∧ S'.rows s' 1 = some (xs.map row1) ∧ (∀ q,s'.a = some q → S.next ≤ q.1 ∧ q.1 < S'.next) ∧ Fr S.next S S' := by
 rw [set_Set_string_List.f,if_neg (by simp),obs,h.ld,obs,slices_Clone_string_string.f]
 by_cases ha : s.a.isNone = true
 ·rw [if_pos ha,obs]
  refine ⟨_,S,rfl,?_,fun q hq => (by cases hq),Fr.refl _ _⟩
  rw [h.ov.none (by simpa using ha)]; rfl
 ·have hcnt := h.cnt
  rw [if_neg ha,letv]
  have hl := Vec.lit (n := S.next) (z := 1) (S := S) [] (Nat.le_refl _)
  have hr' : (S.lit [] 1).2.rows s 1 = some (xs.map row1) := (h.ov.rd.frame (lit_fr [] (Nat.le_refl _)) (Nat.le_refl _)).rows
  obtain ⟨s',S1,e1,v1,f1⟩ := hl.app (new := xs.map row1) (Nat.le_succ _) (by simp; omega)
  rw [hr',obs,e1,obs,obs]
  rw [List.nil_append] at v1
  exact ⟨s',S1,rfl,v1.rows,v1.lo,(lit_fr [] (Nat.le_refl _)).trans f1⟩
theorem values_tells {k n c : Nat} {B : HS} {s : Sl} {xs : List Ky} (hk : xs.length < k) (hx : xs.length ≤ 1000000) (hc : B.heap c = .cells 1 [[s.hv]] true) (hr : B.rows s 1 = some (xs.map row1)) (K : Nat → Prop) (hK : K c ∧ ∀ q,s.a = some q → K q.1) :
  Tells (disp k (n + 2)) (.fn (.func 130) [] [.ptr (some (HA.cell0 c))]) (xs.map row1) K B := by
 intro H l I Stop ht O S hI hB
 have hlen : (xs.map row1).length = xs.length := by simp
 have hcS : S.heap c = .cells 1 [[s.hv]] true := (hB c hK.1).1.trans hc
 have hrS : S.rows s 1 = some (xs.map row1) := rows_keep hr fun q hq => (hB q.1 (hK.2 q hq)).1
 have hloop : ∀ f i O1 T,xs.length - i < f → i ≤ xs.length → I i O1 T → S.next ≤ T.next → (∀ id,id < S.next → ¬ O id → T.heap id = S.heap id) → (∀ id,O1 id → O id ∨ S.next ≤ id) →
   ∃ S' O',slices_Values_string_string_1.L0 (disp k (n + 1)) H k f (.fn (.yield l) [] []) s (xs.length : Int) (i : Int) T = some ((),S') ∧ S.next ≤ S'.next ∧ (∀ id,id < S.next → ¬ O id → S'.heap id = S.heap id) ∧ (∀ id,O' id → O id ∨ S.next ≤ id) ∧ (I xs.length O' S' ∨ Stop O' S') := by
  intro f
  induction f with
  | zero => intro i O1 T h; omega
  | succ f ih =>
   intro i O1 T hf hi hIT hn hk2 hO
   rw [slices_Values_string_string_1.L0]
   by_cases hlt : i < xs.length
   ·have hrT : T.rows s 1 = some (xs.map row1) := rows_keep hrS fun q hq => hk2 q.1 (hB q.1 (hK.2 q hq)).2.2 (hB q.1 (hK.2 q hq)).2.1
    obtain ⟨ad,a1,a2⟩ := ldK_at hrT hlt
    obtain ⟨b,T2,O2,e2,n2,k2,o2,g1,g2⟩ := ht.step i (by omega) O1 T hIT
    have he : disp k (n + 1) H (.fn (.yield l) [] []) [.str xs[i]] T = some (.bool b,T2) := by
     rw [disp_yield,← e2,List.getElem_map]; rfl
    have hk3 : ∀ id,id < S.next → ¬ O id → T2.heap id = S.heap id := fun id h1 h2 => (k2 id (by omega) (fun ho => (hO id ho).elim h2 (fun h => by omega))).trans (hk2 id h1 h2)
    have hO3 : ∀ id,O2 id → O id ∨ S.next ≤ id := fun id h => (o2 id h).elim (hO id) (fun h => .inr (by omega))
    rw [if_pos (by omega),a1,obs,a2,obs,he,obs]
    simp only [dB,obs]
    cases b with
    | false => exact ⟨T2,O2,rfl,by omega,hk3,hO3,.inr (g2 rfl)⟩
    | true =>
     rw [if_neg (by simp),w64_id (by omega) (by omega),show ((i : Int) + 1) = ((i + 1 : Nat) : Int) by simp]
     exact ih (i + 1) O2 T2 (by omega) (by omega) (g1 rfl) (by omega) hk3 hO3
   ·obtain rfl : i = xs.length := by omega
    rw [if_neg (by omega)]
    exact ⟨T,O1,rfl,hn,hk2,hO,.inl hIT⟩
 obtain ⟨S',O',e,h1,h2,h3,h4⟩ := hloop k 0 O S (by omega) (Nat.zero_le _) hI (Nat.le_refl _) (fun _ _ _ => rfl) (fun _ h => .inl h)
 refine ⟨S',O',?_,h1,h2,h3,by rw [hlen]; exact h4⟩
 rw [disp_func]
 have hsl : (s.len : Int) = xs.length := by rw [← rows_len hrS]; simp
 have e' : call_130 (disp k (n + 1)) H k ([] ++ [HV.fn (.yield l) [] []] ++ [.ptr (some (HA.cell0 c))]) S = some (.tup [],S') := by
  rw [call_130]
  simp only [List.nil_append,List.cons_append,args2,obs,dF,dP]
  rw [slices_Values_string_string_1.f,obs,ldSl_cell hcS,obs,hsl]
  erw [e]
  rfl
 repeat rw [if_neg (by decide)]
 rw [if_pos rfl,e']
theorem all_spec {p : Nat} {s : Sl} {xs : List Ky} {S : HS} (h : SI p s xs S) : ∃ c s' S',set_Set_string_All.f (some (HA.cell0 p)) S = some (.fn (.func 130) [] [.ptr (some (HA.cell0 c))],S') ∧ S'.heap c = .cells 1 [[s'.hv]] true ∧ S'.rows s' 1 = some (xs.map row1) ∧ (S.next ≤ c ∧ c < S'.next) ∧ (∀ q,s'.a = some q → S.next ≤ q.1 ∧ q.1 < S'.next) ∧ Fr S.next S S' := by
 obtain ⟨s',S1,e1,r1,q1,f1⟩ := list_spec h
 rw [set_Set_string_All.f,e1,obs,slices_Values_string_string.f,letv,obs]
 have hrd : Rd S1.next S1 1 s' (xs.map row1) := ⟨r1,fun q hq => (q1 q hq).2⟩
 exact ⟨S1.next,s',_,rfl,new_here _ _,(hrd.frame (Fr.new (Nat.le_refl _) _) (Nat.le_refl _)).rows,⟨f1.le,Nat.lt_succ_self _⟩,fun q hq => ⟨(q1 q hq).1,Nat.lt_succ_of_lt (q1 q hq).2⟩,f1.trans (Fr.new f1.le _)⟩
theorem app1_spec {n : Nat} {S : HS} {s : Sl} {xs : List Ky} (t : Ky) (h : Vec n S 1 s (xs.map row1)) (hn : n ≤ S.next) (hl : xs.length < 1000000) :
  ∃ s' S',HS.app (S.lit [[.str t]] 1).2 s [[.str t]] 1 = some (s',S') ∧ (S.lit [[.str t]] 1).2.rows (S.lit [[.str t]] 1).1 1 = some [[.str t]] ∧ Vec n S' 1 s' ((xs ++ [t]).map row1) ∧ Fr n S S' ∧ (∀ id,id < S.next → (∀ q,s.a = some q → q.1 ≠ id) → S'.heap id = S.heap id) ∧ (∀ q,s'.a = some q → S.next ≤ q.1 ∨ ∃ q0,s.a = some q0 ∧ q0.1 = q.1) := by
 have fl : Fr S.next S (S.lit [[.str t]] 1).2 := lit_fr _ (Nat.le_refl _)
 have nl : (S.lit [[.str t]] 1).2.next = S.next + 1 := rfl
 obtain ⟨s',S',e1,v1,f1,k1,q1⟩ := (h.frame fl (Nat.le_refl _)).app2 (new := [[.str t]]) (by omega) (by simp; omega)
 refine ⟨s',S',e1,(Vec.lit (n := 0) (z := 1) (S := S) _ (Nat.zero_le _)).rows,by rw [List.map_append]; exact v1,(fl.mono hn).trans f1,fun id h1 h2 => (k1 id (by omega) h2).trans (fl.eq id h1),fun q hq => ?_⟩
 rcases q1 q hq with g | g
 ·exact .inl (by omega)
 ·exact .inr g
end KS
namespace MA
abbrev Kk := KI.Ky
abbrev Vv := KS.Ky
structure En where
 key : Kk
 p : Nat
 s : Sl
 xs : List Vv
def ent (e : En) : HV × HV := (KI.kv e.key,.ptr (some (HA.cell0 e.p)))
theorem kSame_kv (a b : Kk) : kSame (KI.kv a) (KI.kv b) = some (a == b) := by simp [kSame,kSame1,KI.kv]
theorem mf_none {k : Kk} : ∀ {E : List En} (i : Nat),(∀ e ∈ E,e.key ≠ k) → mfind (KI.kv k) (E.map ent) i = some none := by
 intro E
 induction E with
 | nil => intro i _; rfl
 | cons e E ih =>
  intro i h
  rw [List.map_cons,mfind.eq_def]
  simp only [ent,kSame_kv,show (k == e.key) = false from beq_eq_false_iff_ne.2 (fun g => h e (by simp) g.symm)]
  exact ih (i + 1) fun x hx => h x (by simp [hx])
theorem mf_at {k : Kk} {e : En} {B : List En} (hk : e.key = k) : ∀ {A : List En} (i : Nat),(∀ a ∈ A,a.key ≠ k) → mfind (KI.kv k) ((A ++ e :: B).map ent) i = some (some (i + A.length,.ptr (some (HA.cell0 e.p)))) := by
 intro A
 induction A with
 | nil =>
  intro i _
  rw [List.nil_append,List.map_cons,mfind.eq_def]
  simp only [ent,kSame_kv,hk,beq_self_eq_true]
  rfl
 | cons a A ih =>
  intro i h
  rw [List.cons_append,List.map_cons,mfind.eq_def]
  simp only [ent,kSame_kv,show (k == a.key) = false from beq_eq_false_iff_ne.2 (fun g => h a (by simp) g.symm)]
  rw [ih (i + 1) fun x hx => h x (by simp [hx])]
  simp; omega
structure MS (m : Nat) (E : List En) (S : HS) : Prop where
 mp : S.heap m = .map (E.map ent)
 nd : E.Pairwise fun a b => a.key ≠ b.key
 si : ∀ e ∈ E,KS.SI e.p e.s e.xs S
 dis : E.Pairwise fun a b => ∀ id,Own a.p a.s id → ¬ Own b.p b.s id
 nm : ∀ e ∈ E,¬ Own e.p e.s m
 lt : m < S.next
def OM (m : Nat) (E : List En) (id : Nat) : Prop := id = m ∨ ∃ e ∈ E,Own e.p e.s id
def mem (E : List En) (k : Kk) (v : Vv) : Prop := ∃ e ∈ E,e.key = k ∧ v ∈ e.xs
theorem MS.ltO {m : Nat} {E : List En} {S : HS} (h : MS m E S) {id : Nat} (ho : OM m E id) : id < S.next := by
 rcases ho with rfl | ⟨e,he,ho⟩
 ·exact h.lt
 ·exact (h.si e he).lt ho
theorem MS.keep {m : Nat} {E : List En} {S S' : HS} (h : MS m E S) (hk : ∀ id,OM m E id → S'.heap id = S.heap id) (hn : S.next ≤ S'.next) : MS m E S' :=
 ⟨(hk m (.inl rfl)).trans h.mp,h.nd,fun e he => (h.si e he).keep (fun id ho => hk id (.inr ⟨e,he,ho⟩)) hn,h.dis,h.nm,Nat.lt_of_lt_of_le h.lt hn⟩
theorem MS.fr {m : Nat} {E : List En} {S S' : HS} (h : MS m E S) (hf : Fr S.next S S') : MS m E S' := h.keep (fun id ho => hf.eq id (h.ltO ho)) hf.le
theorem split_at {E : List En} {k : Kk} (hn : E.Pairwise fun a b => a.key ≠ b.key) {e : En} (he : e ∈ E) (hk : e.key = k) : ∃ A B,E = A ++ e :: B ∧ ∀ a ∈ A,a.key ≠ k := by
 obtain ⟨A,B,rfl⟩ := List.append_of_mem he
 refine ⟨A,B,rfl,fun a ha => ?_⟩
 rw [List.pairwise_append] at hn
 have := hn.2.2 a ha e (by simp)
 rw [← hk]; exact this
theorem get_spec {m : Nat} {E : List En} {S : HS} (h : MS m E S) (k : Kk) : (S.look (some m) (KI.kv k) = some none ∧ ∀ e ∈ E,e.key ≠ k) ∨ ∃ A e B,E = A ++ e :: B ∧ e.key = k ∧ (∀ a ∈ A,a.key ≠ k) ∧ S.look (some m) (KI.kv k) = some (some (.ptr (some (HA.cell0 e.p)))) := by
 by_cases hx : ∃ e ∈ E,e.key = k
 ·obtain ⟨e,he,hk⟩ := hx
  obtain ⟨A,B,rfl,hA⟩ := split_at h.nd he hk
  refine .inr ⟨A,e,B,rfl,hk,hA,?_⟩
  rw [HS.look,HS.mp,h.mp,obs,mf_at hk 0 hA]; rfl
 ·refine .inl ⟨?_,fun e he g => hx ⟨e,he,g⟩⟩
  rw [HS.look,HS.mp,h.mp,obs,mf_none 0 fun e he g => hx ⟨e,he,g⟩]; rfl
theorem MS.upd {m : Nat} {A B : List En} {e : En} {s' : Sl} {xs' : List Vv} {S S' : HS} (h : MS m (A ++ e :: B) S) (hs : KS.SI e.p s' xs' S') (ho : Only e.p e.s s' S S') :
  MS m (A ++ ⟨e.key,e.p,s',xs'⟩ :: B) S' ∧ Chg (OM m (A ++ e :: B)) (OM m (A ++ ⟨e.key,e.p,s',xs'⟩ :: B)) S S' := by
 have hle := ho.le
 have hd := h.dis
 rw [List.pairwise_append,List.pairwise_cons] at hd
 have hn := h.nd
 rw [List.pairwise_append,List.pairwise_cons] at hn
 have hso : ∀ id,Own e.p s' id → Own e.p e.s id ∨ S.next ≤ id := ho.own
 have hoth : ∀ a,a ∈ A ∨ a ∈ B → a ∈ A ++ e :: B ∧ ∀ id,Own a.p a.s id → ¬ Own e.p e.s id := fun a ha => by
  rcases ha with g | g
  ·exact ⟨by simp [g],fun id h1 h2 => hd.2.2 a g e (by simp) id h1 h2⟩
  ·exact ⟨by simp [g],fun id h1 h2 => hd.2.1.1 a g id h2 h1⟩
 have hnew : ∀ a,a ∈ A ∨ a ∈ B → ∀ id,Own a.p a.s id → ¬ Own e.p s' id := fun a ha id h1 h2 => by
  rcases hso id h2 with g | g
  ·exact (hoth a ha).2 id h1 g
  ·have := (h.si a (hoth a ha).1).lt h1; omega
 refine ⟨⟨?_,?_,fun x hx => ?_,?_,fun x hx => ?_,by have := h.lt; omega⟩,⟨hle,fun id h1 h2 => ho.eq id h1 fun g => h2 (.inr ⟨e,by simp,g⟩),fun id hid => ?_⟩⟩
 ·rw [ho.eq m h.lt (h.nm e (by simp)),h.mp]
  simp [ent]
 ·rw [List.pairwise_append,List.pairwise_cons]
  refine ⟨hn.1,⟨hn.2.1.1,hn.2.1.2⟩,fun a ha b hb => ?_⟩
  rcases List.mem_cons.1 hb with rfl | hb
  ·exact hn.2.2 a ha e (by simp)
  ·exact hn.2.2 a ha b (by simp [hb])
 ·rcases List.mem_append.1 hx with g | g
  ·exact (h.si x (by simp [g])).keep (fun id h1 => ho.eq id ((h.si x (by simp [g])).lt h1) ((hoth x (.inl g)).2 id h1)) hle
  ·rcases List.mem_cons.1 g with rfl | g
   ·exact hs
   ·exact (h.si x (by simp [g])).keep (fun id h1 => ho.eq id ((h.si x (by simp [g])).lt h1) ((hoth x (.inr g)).2 id h1)) hle
 ·rw [List.pairwise_append,List.pairwise_cons]
  refine ⟨hd.1,⟨fun b hb id h1 h2 => hnew b (.inr hb) id h2 h1,hd.2.1.2⟩,fun a ha b hb => ?_⟩
  rcases List.mem_cons.1 hb with rfl | hb
  ·exact hnew a (.inl ha)
  ·exact hd.2.2 a ha b (by simp [hb])
 ·rcases List.mem_append.1 hx with g | g
  ·exact h.nm x (by simp [g])
  ·rcases List.mem_cons.1 g with rfl | g
   ·intro g'
    rcases hso m g' with g2 | g2
    ·exact h.nm e (by simp) g2
    ·have := h.lt; omega
   ·exact h.nm x (by simp [g])
 ·rcases hid with rfl | ⟨x,hx,g⟩
  ·exact .inl (.inl rfl)
  ·rcases List.mem_append.1 hx with g' | g'
   ·exact .inl (.inr ⟨x,by simp [g'],g⟩)
   ·rcases List.mem_cons.1 g' with rfl | g'
    ·exact (hso id g).imp (fun q => .inr ⟨e,by simp,q⟩) id_
    ·exact .inl (.inr ⟨x,by simp [g'],g⟩)
where id_ {p : Prop} (h : p) : p := h
theorem j0_spec {k m : Nat} {A B : List En} {e : En} {v : Vv} {S : HS} (hk : 2000 ≤ k) (h : MS m (A ++ e :: B) S) (hA : ∀ a ∈ A,a.key ≠ e.key) (hc : e.xs.length < 1000) :
  ∃ s' xs' S',pair_put_int_string.J0 k (some m) e.key v S = some ((),S') ∧ MS m (A ++ ⟨e.key,e.p,s',xs'⟩ :: B) S' ∧ Chg (OM m (A ++ e :: B)) (OM m (A ++ ⟨e.key,e.p,s',xs'⟩ :: B)) S S' ∧ (∀ u,u ∈ xs' ↔ u ∈ e.xs ∨ u = v) ∧ xs'.length ≤ e.xs.length + 1 := by
 have he := h.si e (by simp)
 have hlk : S.look (some m) (KI.kv e.key) = some (some (.ptr (some (HA.cell0 e.p)))) := by
  rw [HS.look,HS.mp,h.mp,obs,mf_at rfl 0 hA]; rfl
 have fl : Fr S.next S (S.lit [[.str v]] 1).2 := lit_fr _ (Nat.le_refl _)
 have nl : (S.lit [[.str v]] 1).2.next = S.next + 1 := rfl
 have rl : (S.lit [[.str v]] 1).2.rows (S.lit [[.str v]] 1).1 1 = some ([v].map KS.row1) := (Vec.lit (n := 0) (z := 1) (S := S) _ (Nat.zero_le _)).rows
 have ql : ∀ q,(S.lit [[.str v]] 1).1.a = some q → q.1 = S.next := fun q hq => by cases hq; rfl
 rw [pair_put_int_string.J0]
 erw [hlk]
 rw [obs,show dP ((some (HV.ptr (some (HA.cell0 e.p)))).getD (.ptr none)) = some (some (HA.cell0 e.p)) from rfl,obs,letv]
 generalize S.lit [[.str v]] 1 = P at fl nl rl ql ⊢
 obtain ⟨sl,S1⟩ := P
 simp only at fl nl rl ql ⊢
 have h1 := h.fr fl
 have he1 := he.fr fl
 obtain ⟨s',xs',S2,e2,i2,o2,m2,c2,c2'⟩ := KS.add_spec hk he1 rl (fun q hq => by
  have := ql q hq
  exact ⟨by omega,fun g => by have := he.lt g; omega⟩) (by simp; omega)
 obtain ⟨g1,g2⟩ := h1.upd i2 o2
 rw [e2,obs]
 exact ⟨s',xs',S2,rfl,g1,(Chg.of_fr fl).trans g2,fun u => by rw [m2]; simp,by simpa using c2'⟩
theorem put_spec {k m n : Nat} {E : List En} {key : Kk} {v : Vv} {S : HS} (hk : 2000 ≤ k) (h : MS m E S) (hne : ∀ e ∈ E,e.xs ≠ []) (hc : ∀ e ∈ E,e.xs.length ≤ n) (hn : n < 1000) :
  ∃ E' S',pair_put_int_string.f k (some m) key v S = some ((),S') ∧ MS m E' S' ∧ Chg (OM m E) (OM m E') S S' ∧ (∀ k' v',mem E' k' v' ↔ mem E k' v' ∨ (k' = key ∧ v' = v)) ∧ (∀ e ∈ E',e.xs ≠ []) ∧ (∀ e ∈ E',e.xs.length ≤ n + 1) := by
 have hmem : ∀ (A B : List En) (e : En) (s' : Sl) (xs' : List Vv),e.key = key → (∀ u,u ∈ xs' ↔ u ∈ e.xs ∨ u = v) → ∀ k' v',mem (A ++ ⟨e.key,e.p,s',xs'⟩ :: B) k' v' ↔ mem (A ++ e :: B) k' v' ∨ (k' = key ∧ v' = v) := by
  intro A B e s' xs' hke hx k' v'
  constructor
  ·rintro ⟨x,hx1,hx2,hx3⟩
   rcases List.mem_append.1 hx1 with g | g
   ·exact .inl ⟨x,by simp [g],hx2,hx3⟩
   ·rcases List.mem_cons.1 g with rfl | g
    ·rcases (hx v').1 hx3 with g2 | g2
     ·exact .inl ⟨e,by simp,hx2,g2⟩
     ·exact .inr ⟨by rw [← hx2]; exact hke,g2⟩
    ·exact .inl ⟨x,by simp [g],hx2,hx3⟩
  ·rintro (⟨x,hx1,hx2,hx3⟩ | ⟨rfl,rfl⟩)
   ·rcases List.mem_append.1 hx1 with g | g
    ·exact ⟨x,by simp [g],hx2,hx3⟩
    ·rcases List.mem_cons.1 g with rfl | g
     ·exact ⟨⟨x.key,x.p,s',xs'⟩,by simp,hx2,(hx v').2 (.inl hx3)⟩
     ·exact ⟨x,by simp [g],hx2,hx3⟩
   ·exact ⟨⟨e.key,e.p,s',xs'⟩,by simp,hke,(hx _).2 (.inr rfl)⟩
 rw [pair_put_int_string.f]
 rcases get_spec h key with ⟨e1,hno⟩ | ⟨A,e,B,rfl,hke,hA,e1⟩
 ·obtain ⟨s,xs,S1,e2,i2,f2,o2,m2,c2⟩ := KS.of_spec (k := k) (sl := Sl.nil) (ls := []) (S := S) hk ⟨rfl,fun q hq => by cases hq⟩ (by simp)
  have hx : xs = [] := by simpa using c2
  subst hx
  have h1 := h.fr f2
  have le2 := f2.le
  have hput : S1.mput (some m) (KI.kv key) (.ptr (some (HA.cell0 S.next))) = some (S1.put m (.map ((E ++ [(⟨key,S.next,s,[]⟩ : En)]).map ent))) := by
   simp only [HS.mput,h1.mp]
   rw [mf_none 0 hno]
   simp [ent]
  erw [e1]
  rw [obs,show dP ((none : Option HV).getD (.ptr none)) = some none from rfl,obs,if_pos (by rfl),e2,obs]
  erw [hput]
  rw [obs]
  have hmO : ∀ id,Own S.next s id → id ≠ m := fun id g => by have := o2 id g; have := h.lt; omega
  have h2 : MS m (E ++ (⟨key,S.next,s,[]⟩ : En) :: []) (S1.put m (.map ((E ++ [(⟨key,S.next,s,[]⟩ : En)]).map ent))) := by
   refine ⟨put_here _ _ _,?_,fun x hx => ?_,?_,fun x hx => ?_,by rw [put_next]; have := h.lt; omega⟩
   ·rw [List.pairwise_append]
    exact ⟨h.nd,List.pairwise_singleton _ _,fun a ha b hb => by simp at hb; subst hb; exact hno a ha⟩
   ·rcases List.mem_append.1 hx with g | g
    ·exact (h1.si x g).keep (fun id ho => put_other _ (fun q => by subst q; exact h1.nm x g ho)) (Nat.le_refl _)
    ·simp at g; subst g; exact i2.keep (fun id ho => put_other _ (hmO id ho)) (Nat.le_refl _)
   ·rw [List.pairwise_append]
    refine ⟨h.dis,List.pairwise_singleton _ _,fun a ha b hb id g1 g2 => ?_⟩
    simp at hb; subst hb
    have := (h.si a ha).lt g1
    have := o2 id g2
    omega
   ·rcases List.mem_append.1 hx with g | g
    ·exact h.nm x g
    ·simp at g; subst g; exact fun ho => hmO m ho rfl
  have hch : Chg (OM m E) (OM m (E ++ (⟨key,S.next,s,[]⟩ : En) :: [])) S (S1.put m (.map ((E ++ [(⟨key,S.next,s,[]⟩ : En)]).map ent))) := by
   refine ⟨by rw [put_next]; omega,fun id g1 g2 => by rw [put_other _ (fun q => g2 (.inl q))]; exact f2.eq id g1,fun id ho => ?_⟩
   rcases ho with g | ⟨x,hx,g⟩
   ·exact .inl (.inl g)
   ·rcases List.mem_append.1 hx with g' | g'
    ·exact .inl (.inr ⟨x,g',g⟩)
    ·simp at g'; subst g'; exact .inr (o2 id g)
  obtain ⟨s',xs',S3,e3,g1,g2,g3,g4⟩ := j0_spec (v := v) hk h2 hno (by simp)
  refine ⟨_,S3,e3,g1,hch.trans g2,fun k' v' => ?_,fun x hx => ?_,fun x hx => ?_⟩
  ·rw [hmem E [] ⟨key,S.next,s,[]⟩ s' xs' rfl g3]
   have : mem (E ++ (⟨key,S.next,s,[]⟩ : En) :: []) k' v' ↔ mem E k' v' := by
    constructor
    ·rintro ⟨x,hx,q1,q2⟩
     rcases List.mem_append.1 hx with g | g
     ·exact ⟨x,g,q1,q2⟩
     ·simp at g; subst g; cases q2
    ·rintro ⟨x,hx,q1,q2⟩; exact ⟨x,by simp [hx],q1,q2⟩
   rw [this]
  ·rcases List.mem_append.1 hx with g | g
   ·exact hne x g
   ·simp at g; subst g
    intro q
    have := (g3 v).2 (.inr rfl)
    simp only at q
    rw [q] at this; cases this
  ·rcases List.mem_append.1 hx with g | g
   ·have := hc x g; omega
   ·simp at g; subst g; simp at g4; simp; omega
 ·subst hke
  obtain ⟨s',xs',S3,e3,g1,g2,g3,g4⟩ := j0_spec (v := v) hk h hA (by have := hc e (by simp); omega)
  erw [e1]
  rw [obs,show dP ((some (HV.ptr (some (HA.cell0 e.p)))).getD (.ptr none)) = some (some (HA.cell0 e.p)) from rfl,obs,if_neg (by simp),e3]
  refine ⟨_,S3,rfl,g1,g2,fun k' v' => hmem A B e s' xs' rfl g3 k' v',fun x hx => ?_,fun x hx => ?_⟩
  ·rcases List.mem_append.1 hx with g | g
   ·exact hne x (by simp [g])
   ·rcases List.mem_cons.1 g with rfl | g
    ·intro q
     have := (g3 v).2 (.inr rfl)
     simp only at q
     rw [q] at this; cases this
    ·exact hne x (by simp [g])
  ·rcases List.mem_append.1 hx with g | g
   ·have := hc x (by simp [g]); omega
   ·rcases List.mem_cons.1 g with rfl | g
    ·have := hc e (by simp); simp only; omega
    ·have := hc x (by simp [g]); omega
theorem MS.del {m : Nat} {A B : List En} {e : En} {S : HS} (h : MS m (A ++ e :: B) S) (hA : ∀ a ∈ A,a.key ≠ e.key) :
  ∃ S',S.mdel (some m) (KI.kv e.key) = some S' ∧ MS m (A ++ B) S' ∧ Chg (OM m (A ++ e :: B)) (OM m (A ++ B)) S S' := by
 have hd := h.dis
 rw [List.pairwise_append,List.pairwise_cons] at hd
 have hn := h.nd
 rw [List.pairwise_append,List.pairwise_cons] at hn
 have hsub : ∀ x,x ∈ A ++ B → x ∈ A ++ e :: B := fun x hx => by
  rcases List.mem_append.1 hx with g | g <;> simp [g]
 refine ⟨S.put m (.map ((A ++ B).map ent)),?_,⟨put_here _ _ _,?_,fun x hx => (h.si x (hsub x hx)).keep (fun id ho => put_other _ (fun q => by subst q; exact h.nm x (hsub x hx) ho)) (Nat.le_refl _),?_,fun x hx => h.nm x (hsub x hx),h.lt⟩,⟨Nat.le_refl _,fun id _ g2 => put_other _ (fun q => g2 (.inl q)),fun id ho => .inl ?_⟩⟩
 ·simp only [HS.mdel,h.mp]
  rw [mf_at rfl 0 hA]
  simp only [Option.map_some,Nat.zero_add]
  congr 3
  rw [List.map_append,List.eraseIdx_append_of_length_le (by simp)]
  simp
 ·rw [List.pairwise_append]; exact ⟨hn.1,hn.2.1.2,fun a ha b hb => hn.2.2 a ha b (by simp [hb])⟩
 ·rw [List.pairwise_append]; exact ⟨hd.1,hd.2.1.2,fun a ha b hb => hd.2.2 a ha b (by simp [hb])⟩
 ·rcases ho with g | ⟨x,hx,g⟩
  ·exact .inl g
  ·exact .inr ⟨x,hsub x hx,g⟩
theorem take_spec {k m n : Nat} {E : List En} {key : Kk} {v : Vv} {S : HS} (hk : 2000 ≤ k) (h : MS m E S) (hne : ∀ e ∈ E,e.xs ≠ []) (hc : ∀ e ∈ E,e.xs.length ≤ n) (hm : mem E key v) :
  ∃ E' S',pair_take_int_string.f k (some m) key v S = some ((),S') ∧ MS m E' S' ∧ Chg (OM m E) (OM m E') S S' ∧ (∀ k' v',mem E' k' v' ↔ mem E k' v' ∧ ¬ (k' = key ∧ v' = v)) ∧ (∀ e ∈ E',e.xs ≠ []) ∧ (∀ e ∈ E',e.xs.length ≤ n) := by
 obtain ⟨e,he,hke,hve⟩ := hm
 obtain ⟨A,B,rfl,hA⟩ := split_at h.nd he hke
 subst hke
 have hi := h.si e he
 have hnd := h.nd
 rw [List.pairwise_append,List.pairwise_cons] at hnd
 have hkB : ∀ b ∈ B,b.key ≠ e.key := fun b hb g => hnd.2.1.1 b hb g.symm
 have hlk : S.look (some m) (KI.kv e.key) = some (some (.ptr (some (HA.cell0 e.p)))) := by
  rw [HS.look,HS.mp,h.mp,obs,mf_at rfl 0 hA]; rfl
 have fl : Fr S.next S (S.lit [[.str v]] 1).2 := lit_fr _ (Nat.le_refl _)
 have nl : (S.lit [[.str v]] 1).2.next = S.next + 1 := rfl
 have rl : (S.lit [[.str v]] 1).2.rows (S.lit [[.str v]] 1).1 1 = some ([v].map KS.row1) := (Vec.lit (n := 0) (z := 1) (S := S) _ (Nat.zero_le _)).rows
 have ql : ∀ q,(S.lit [[.str v]] 1).1.a = some q → q.1 = S.next := fun q hq => by cases hq; rfl
 rw [pair_take_int_string.f]
 erw [hlk]
 rw [obs,show dP ((some (HV.ptr (some (HA.cell0 e.p)))).getD (.ptr none)) = some (some (HA.cell0 e.p)) from rfl,obs,letv]
 generalize S.lit [[.str v]] 1 = P at fl nl rl ql ⊢
 obtain ⟨sl,S1⟩ := P
 simp only at fl nl rl ql ⊢
 have h1 := h.fr fl
 obtain ⟨s',xs',S2,e2,i2,o2,m2,c2⟩ := KS.remove_spec hk (hi.fr fl) rl (fun q hq => by
  have := ql q hq
  exact ⟨by omega,fun g => by have := hi.lt g; omega⟩) (by simp)
 obtain ⟨g1,g2⟩ := h1.upd i2 o2
 have hlk2 : S2.look (some m) (KI.kv e.key) = some (some (.ptr (some (HA.cell0 e.p)))) := by
  rw [HS.look,HS.mp,g1.mp,obs,mf_at (e := ⟨e.key,e.p,s',xs'⟩) rfl 0 hA]; rfl
 have hx : ∀ u,u ∈ xs' ↔ u ∈ e.xs ∧ u ≠ v := fun u => by rw [m2]; simp
 rw [e2,obs]
 erw [hlk2]
 rw [obs,show dP ((some (HV.ptr (some (HA.cell0 e.p)))).getD (.ptr none)) = some (some (HA.cell0 e.p)) from rfl,obs,KS.len_spec i2,obs]
 have hmem : ∀ k' v',mem (A ++ ⟨e.key,e.p,s',xs'⟩ :: B) k' v' ↔ mem (A ++ e :: B) k' v' ∧ ¬ (k' = e.key ∧ v' = v) := by
  intro k' v'
  constructor
  ·rintro ⟨x,hx1,hx2,hx3⟩
   rcases List.mem_append.1 hx1 with g | g
   ·exact ⟨⟨x,by simp [g],hx2,hx3⟩,fun q => hA x g (hx2.trans q.1)⟩
   ·rcases List.mem_cons.1 g with rfl | g
    ·have := (hx v').1 hx3
     exact ⟨⟨e,by simp,hx2,this.1⟩,fun q => this.2 q.2⟩
    ·exact ⟨⟨x,by simp [g],hx2,hx3⟩,fun q => hkB x g (hx2.trans q.1)⟩
  ·rintro ⟨⟨x,hx1,hx2,hx3⟩,hq⟩
   rcases List.mem_append.1 hx1 with g | g
   ·exact ⟨x,by simp [g],hx2,hx3⟩
   ·rcases List.mem_cons.1 g with rfl | g
    ·exact ⟨⟨x.key,x.p,s',xs'⟩,by simp,hx2,(hx v').2 ⟨hx3,fun q => hq ⟨hx2.symm,q⟩⟩⟩
    ·exact ⟨x,by simp [g],hx2,hx3⟩
 by_cases h0 : xs' = []
 ·subst h0
  obtain ⟨S3,e3,k1,k2⟩ := g1.del hA
  rw [if_pos (by simp)]
  erw [e3]
  rw [obs]
  refine ⟨A ++ B,S3,rfl,k1,((Chg.of_fr fl).trans g2).trans k2,fun k' v' => ?_,fun x hx => ?_,fun x hx => ?_⟩
  ·rw [← hmem]
   constructor
   ·rintro ⟨x,q1,q2,q3⟩
    refine ⟨x,?_,q2,q3⟩
    rcases List.mem_append.1 q1 with g | g <;> simp [g]
   ·rintro ⟨x,q1,q2,q3⟩
    rcases List.mem_append.1 q1 with g | g
    ·exact ⟨x,by simp [g],q2,q3⟩
    ·rcases List.mem_cons.1 g with rfl | g
     ·cases q3
     ·exact ⟨x,by simp [g],q2,q3⟩
  ·rcases List.mem_append.1 hx with g | g <;> exact hne x (by simp [g])
  ·rcases List.mem_append.1 hx with g | g <;> exact hc x (by simp [g])
 ·rw [if_neg (by simpa using h0)]
  refine ⟨_,S2,rfl,g1,(Chg.of_fr fl).trans g2,hmem,fun x hx => ?_,fun x hx => ?_⟩
  ·rcases List.mem_append.1 hx with g | g
   ·exact hne x (by simp [g])
   ·rcases List.mem_cons.1 g with rfl | g
    ·exact h0
    ·exact hne x (by simp [g])
  ·rcases List.mem_append.1 hx with g | g
   ·exact hc x (by simp [g])
   ·rcases List.mem_cons.1 g with rfl | g
    ·have := hc e (by simp); simp only; omega
    ·exact hc x (by simp [g])
end MA
namespace MB
abbrev Kk := KS.Ky
abbrev Vv := KI.Ky
structure En where
 key : Kk
 p : Nat
 s : Sl
 xs : List Vv
def ent (e : En) : HV × HV := (KS.kv e.key,.ptr (some (HA.cell0 e.p)))
theorem kSame_kv (a b : Kk) : kSame (KS.kv a) (KS.kv b) = some (a == b) := by simp [kSame,kSame1,KS.kv]
theorem mf_none {k : Kk} : ∀ {E : List En} (i : Nat),(∀ e ∈ E,e.key ≠ k) → mfind (KS.kv k) (E.map ent) i = some none := by
 intro E
 induction E with
 | nil => intro i _; rfl
 | cons e E ih =>
  intro i h
  rw [List.map_cons,mfind.eq_def]
  simp only [ent,kSame_kv,show (k == e.key) = false from beq_eq_false_iff_ne.2 (fun g => h e (by simp) g.symm)]
  exact ih (i + 1) fun x hx => h x (by simp [hx])
theorem mf_at {k : Kk} {e : En} {B : List En} (hk : e.key = k) : ∀ {A : List En} (i : Nat),(∀ a ∈ A,a.key ≠ k) → mfind (KS.kv k) ((A ++ e :: B).map ent) i = some (some (i + A.length,.ptr (some (HA.cell0 e.p)))) := by
 intro A
 induction A with
 | nil =>
  intro i _
  rw [List.nil_append,List.map_cons,mfind.eq_def]
  simp only [ent,kSame_kv,hk,beq_self_eq_true]
  rfl
 | cons a A ih =>
  intro i h
  rw [List.cons_append,List.map_cons,mfind.eq_def]
  simp only [ent,kSame_kv,show (k == a.key) = false from beq_eq_false_iff_ne.2 (fun g => h a (by simp) g.symm)]
  rw [ih (i + 1) fun x hx => h x (by simp [hx])]
  simp; omega
structure MS (m : Nat) (E : List En) (S : HS) : Prop where
 mp : S.heap m = .map (E.map ent)
 nd : E.Pairwise fun a b => a.key ≠ b.key
 si : ∀ e ∈ E,KI.SI e.p e.s e.xs S
 dis : E.Pairwise fun a b => ∀ id,Own a.p a.s id → ¬ Own b.p b.s id
 nm : ∀ e ∈ E,¬ Own e.p e.s m
 lt : m < S.next
def OM (m : Nat) (E : List En) (id : Nat) : Prop := id = m ∨ ∃ e ∈ E,Own e.p e.s id
def mem (E : List En) (k : Kk) (v : Vv) : Prop := ∃ e ∈ E,e.key = k ∧ v ∈ e.xs
theorem MS.ltO {m : Nat} {E : List En} {S : HS} (h : MS m E S) {id : Nat} (ho : OM m E id) : id < S.next := by
 rcases ho with rfl | ⟨e,he,ho⟩
 ·exact h.lt
 ·exact (h.si e he).lt ho
theorem MS.keep {m : Nat} {E : List En} {S S' : HS} (h : MS m E S) (hk : ∀ id,OM m E id → S'.heap id = S.heap id) (hn : S.next ≤ S'.next) : MS m E S' :=
 ⟨(hk m (.inl rfl)).trans h.mp,h.nd,fun e he => (h.si e he).keep (fun id ho => hk id (.inr ⟨e,he,ho⟩)) hn,h.dis,h.nm,Nat.lt_of_lt_of_le h.lt hn⟩
theorem MS.fr {m : Nat} {E : List En} {S S' : HS} (h : MS m E S) (hf : Fr S.next S S') : MS m E S' := h.keep (fun id ho => hf.eq id (h.ltO ho)) hf.le
theorem split_at {E : List En} {k : Kk} (hn : E.Pairwise fun a b => a.key ≠ b.key) {e : En} (he : e ∈ E) (hk : e.key = k) : ∃ A B,E = A ++ e :: B ∧ ∀ a ∈ A,a.key ≠ k := by
 obtain ⟨A,B,rfl⟩ := List.append_of_mem he
 refine ⟨A,B,rfl,fun a ha => ?_⟩
 rw [List.pairwise_append] at hn
 have := hn.2.2 a ha e (by simp)
 rw [← hk]; exact this
theorem get_spec {m : Nat} {E : List En} {S : HS} (h : MS m E S) (k : Kk) : (S.look (some m) (KS.kv k) = some none ∧ ∀ e ∈ E,e.key ≠ k) ∨ ∃ A e B,E = A ++ e :: B ∧ e.key = k ∧ (∀ a ∈ A,a.key ≠ k) ∧ S.look (some m) (KS.kv k) = some (some (.ptr (some (HA.cell0 e.p)))) := by
 by_cases hx : ∃ e ∈ E,e.key = k
 ·obtain ⟨e,he,hk⟩ := hx
  obtain ⟨A,B,rfl,hA⟩ := split_at h.nd he hk
  refine .inr ⟨A,e,B,rfl,hk,hA,?_⟩
  rw [HS.look,HS.mp,h.mp,obs,mf_at hk 0 hA]; rfl
 ·refine .inl ⟨?_,fun e he g => hx ⟨e,he,g⟩⟩
  rw [HS.look,HS.mp,h.mp,obs,mf_none 0 fun e he g => hx ⟨e,he,g⟩]; rfl
theorem MS.upd {m : Nat} {A B : List En} {e : En} {s' : Sl} {xs' : List Vv} {S S' : HS} (h : MS m (A ++ e :: B) S) (hs : KI.SI e.p s' xs' S') (ho : Only e.p e.s s' S S') :
  MS m (A ++ ⟨e.key,e.p,s',xs'⟩ :: B) S' ∧ Chg (OM m (A ++ e :: B)) (OM m (A ++ ⟨e.key,e.p,s',xs'⟩ :: B)) S S' := by
 have hle := ho.le
 have hd := h.dis
 rw [List.pairwise_append,List.pairwise_cons] at hd
 have hn := h.nd
 rw [List.pairwise_append,List.pairwise_cons] at hn
 have hso : ∀ id,Own e.p s' id → Own e.p e.s id ∨ S.next ≤ id := ho.own
 have hoth : ∀ a,a ∈ A ∨ a ∈ B → a ∈ A ++ e :: B ∧ ∀ id,Own a.p a.s id → ¬ Own e.p e.s id := fun a ha => by
  rcases ha with g | g
  ·exact ⟨by simp [g],fun id h1 h2 => hd.2.2 a g e (by simp) id h1 h2⟩
  ·exact ⟨by simp [g],fun id h1 h2 => hd.2.1.1 a g id h2 h1⟩
 have hnew : ∀ a,a ∈ A ∨ a ∈ B → ∀ id,Own a.p a.s id → ¬ Own e.p s' id := fun a ha id h1 h2 => by
  rcases hso id h2 with g | g
  ·exact (hoth a ha).2 id h1 g
  ·have := (h.si a (hoth a ha).1).lt h1; omega
 refine ⟨⟨?_,?_,fun x hx => ?_,?_,fun x hx => ?_,by have := h.lt; omega⟩,⟨hle,fun id h1 h2 => ho.eq id h1 fun g => h2 (.inr ⟨e,by simp,g⟩),fun id hid => ?_⟩⟩
 ·rw [ho.eq m h.lt (h.nm e (by simp)),h.mp]
  simp [ent]
 ·rw [List.pairwise_append,List.pairwise_cons]
  refine ⟨hn.1,⟨hn.2.1.1,hn.2.1.2⟩,fun a ha b hb => ?_⟩
  rcases List.mem_cons.1 hb with rfl | hb
  ·exact hn.2.2 a ha e (by simp)
  ·exact hn.2.2 a ha b (by simp [hb])
 ·rcases List.mem_append.1 hx with g | g
  ·exact (h.si x (by simp [g])).keep (fun id h1 => ho.eq id ((h.si x (by simp [g])).lt h1) ((hoth x (.inl g)).2 id h1)) hle
  ·rcases List.mem_cons.1 g with rfl | g
   ·exact hs
   ·exact (h.si x (by simp [g])).keep (fun id h1 => ho.eq id ((h.si x (by simp [g])).lt h1) ((hoth x (.inr g)).2 id h1)) hle
 ·rw [List.pairwise_append,List.pairwise_cons]
  refine ⟨hd.1,⟨fun b hb id h1 h2 => hnew b (.inr hb) id h2 h1,hd.2.1.2⟩,fun a ha b hb => ?_⟩
  rcases List.mem_cons.1 hb with rfl | hb
  ·exact hnew a (.inl ha)
  ·exact hd.2.2 a ha b (by simp [hb])
 ·rcases List.mem_append.1 hx with g | g
  ·exact h.nm x (by simp [g])
  ·rcases List.mem_cons.1 g with rfl | g
   ·intro g'
    rcases hso m g' with g2 | g2
    ·exact h.nm e (by simp) g2
    ·have := h.lt; omega
   ·exact h.nm x (by simp [g])
 ·rcases hid with rfl | ⟨x,hx,g⟩
  ·exact .inl (.inl rfl)
  ·rcases List.mem_append.1 hx with g' | g'
   ·exact .inl (.inr ⟨x,by simp [g'],g⟩)
   ·rcases List.mem_cons.1 g' with rfl | g'
    ·exact (hso id g).imp (fun q => .inr ⟨e,by simp,q⟩) id_
    ·exact .inl (.inr ⟨x,by simp [g'],g⟩)
where id_ {p : Prop} (h : p) : p := h
theorem j0_spec {k m : Nat} {A B : List En} {e : En} {v : Vv} {S : HS} (hk : 2000 ≤ k) (h : MS m (A ++ e :: B) S) (hA : ∀ a ∈ A,a.key ≠ e.key) (hc : e.xs.length < 1000) :
  ∃ s' xs' S',pair_put_string_int.J0 k (some m) e.key v S = some ((),S') ∧ MS m (A ++ ⟨e.key,e.p,s',xs'⟩ :: B) S' ∧ Chg (OM m (A ++ e :: B)) (OM m (A ++ ⟨e.key,e.p,s',xs'⟩ :: B)) S S' ∧ (∀ u,u ∈ xs' ↔ u ∈ e.xs ∨ u = v) ∧ xs'.length ≤ e.xs.length + 1 := by
 have he := h.si e (by simp)
 have hlk : S.look (some m) (KS.kv e.key) = some (some (.ptr (some (HA.cell0 e.p)))) := by
  rw [HS.look,HS.mp,h.mp,obs,mf_at rfl 0 hA]; rfl
 have fl : Fr S.next S (S.lit [[.int .i64 v]] 1).2 := lit_fr _ (Nat.le_refl _)
 have nl : (S.lit [[.int .i64 v]] 1).2.next = S.next + 1 := rfl
 have rl : (S.lit [[.int .i64 v]] 1).2.rows (S.lit [[.int .i64 v]] 1).1 1 = some ([v].map KI.row1) := (Vec.lit (n := 0) (z := 1) (S := S) _ (Nat.zero_le _)).rows
 have ql : ∀ q,(S.lit [[.int .i64 v]] 1).1.a = some q → q.1 = S.next := fun q hq => by cases hq; rfl
 rw [pair_put_string_int.J0]
 erw [hlk]
 rw [obs,show dP ((some (HV.ptr (some (HA.cell0 e.p)))).getD (.ptr none)) = some (some (HA.cell0 e.p)) from rfl,obs,letv]
 generalize S.lit [[.int .i64 v]] 1 = P at fl nl rl ql ⊢
 obtain ⟨sl,S1⟩ := P
 simp only at fl nl rl ql ⊢
 have h1 := h.fr fl
 have he1 := he.fr fl
 obtain ⟨s',xs',S2,e2,i2,o2,m2,c2,c2'⟩ := KI.add_spec hk he1 rl (fun q hq => by
  have := ql q hq
  exact ⟨by omega,fun g => by have := he.lt g; omega⟩) (by simp; omega)
 obtain ⟨g1,g2⟩ := h1.upd i2 o2
 rw [e2,obs]
 exact ⟨s',xs',S2,rfl,g1,(Chg.of_fr fl).trans g2,fun u => by rw [m2]; simp,by simpa using c2'⟩
theorem put_spec {k m n : Nat} {E : List En} {key : Kk} {v : Vv} {S : HS} (hk : 2000 ≤ k) (h : MS m E S) (hne : ∀ e ∈ E,e.xs ≠ []) (hc : ∀ e ∈ E,e.xs.length ≤ n) (hn : n < 1000) :
  ∃ E' S',pair_put_string_int.f k (some m) key v S = some ((),S') ∧ MS m E' S' ∧ Chg (OM m E) (OM m E') S S' ∧ (∀ k' v',mem E' k' v' ↔ mem E k' v' ∨ (k' = key ∧ v' = v)) ∧ (∀ e ∈ E',e.xs ≠ []) ∧ (∀ e ∈ E',e.xs.length ≤ n + 1) := by
 have hmem : ∀ (A B : List En) (e : En) (s' : Sl) (xs' : List Vv),e.key = key → (∀ u,u ∈ xs' ↔ u ∈ e.xs ∨ u = v) → ∀ k' v',mem (A ++ ⟨e.key,e.p,s',xs'⟩ :: B) k' v' ↔ mem (A ++ e :: B) k' v' ∨ (k' = key ∧ v' = v) := by
  intro A B e s' xs' hke hx k' v'
  constructor
  ·rintro ⟨x,hx1,hx2,hx3⟩
   rcases List.mem_append.1 hx1 with g | g
   ·exact .inl ⟨x,by simp [g],hx2,hx3⟩
   ·rcases List.mem_cons.1 g with rfl | g
    ·rcases (hx v').1 hx3 with g2 | g2
     ·exact .inl ⟨e,by simp,hx2,g2⟩
     ·exact .inr ⟨by rw [← hx2]; exact hke,g2⟩
    ·exact .inl ⟨x,by simp [g],hx2,hx3⟩
  ·rintro (⟨x,hx1,hx2,hx3⟩ | ⟨rfl,rfl⟩)
   ·rcases List.mem_append.1 hx1 with g | g
    ·exact ⟨x,by simp [g],hx2,hx3⟩
    ·rcases List.mem_cons.1 g with rfl | g
     ·exact ⟨⟨x.key,x.p,s',xs'⟩,by simp,hx2,(hx v').2 (.inl hx3)⟩
     ·exact ⟨x,by simp [g],hx2,hx3⟩
   ·exact ⟨⟨e.key,e.p,s',xs'⟩,by simp,hke,(hx _).2 (.inr rfl)⟩
 rw [pair_put_string_int.f]
 rcases get_spec h key with ⟨e1,hno⟩ | ⟨A,e,B,rfl,hke,hA,e1⟩
 ·obtain ⟨s,xs,S1,e2,i2,f2,o2,m2,c2⟩ := KI.of_spec (k := k) (sl := Sl.nil) (ls := []) (S := S) hk ⟨rfl,fun q hq => by cases hq⟩ (by simp)
  have hx : xs = [] := by simpa using c2
  subst hx
  have h1 := h.fr f2
  have le2 := f2.le
  have hput : S1.mput (some m) (KS.kv key) (.ptr (some (HA.cell0 S.next))) = some (S1.put m (.map ((E ++ [(⟨key,S.next,s,[]⟩ : En)]).map ent))) := by
   simp only [HS.mput,h1.mp]
   rw [mf_none 0 hno]
   simp [ent]
  erw [e1]
  rw [obs,show dP ((none : Option HV).getD (.ptr none)) = some none from rfl,obs,if_pos (by rfl),e2,obs]
  erw [hput]
  rw [obs]
  have hmO : ∀ id,Own S.next s id → id ≠ m := fun id g => by have := o2 id g; have := h.lt; omega
  have h2 : MS m (E ++ (⟨key,S.next,s,[]⟩ : En) :: []) (S1.put m (.map ((E ++ [(⟨key,S.next,s,[]⟩ : En)]).map ent))) := by
   refine ⟨put_here _ _ _,?_,fun x hx => ?_,?_,fun x hx => ?_,by rw [put_next]; have := h.lt; omega⟩
   ·rw [List.pairwise_append]
    exact ⟨h.nd,List.pairwise_singleton _ _,fun a ha b hb => by simp at hb; subst hb; exact hno a ha⟩
   ·rcases List.mem_append.1 hx with g | g
    ·exact (h1.si x g).keep (fun id ho => put_other _ (fun q => by subst q; exact h1.nm x g ho)) (Nat.le_refl _)
    ·simp at g; subst g; exact i2.keep (fun id ho => put_other _ (hmO id ho)) (Nat.le_refl _)
   ·rw [List.pairwise_append]
    refine ⟨h.dis,List.pairwise_singleton _ _,fun a ha b hb id g1 g2 => ?_⟩
    simp at hb; subst hb
    have := (h.si a ha).lt g1
    have := o2 id g2
    omega
   ·rcases List.mem_append.1 hx with g | g
    ·exact h.nm x g
    ·simp at g; subst g; exact fun ho => hmO m ho rfl
  have hch : Chg (OM m E) (OM m (E ++ (⟨key,S.next,s,[]⟩ : En) :: [])) S (S1.put m (.map ((E ++ [(⟨key,S.next,s,[]⟩ : En)]).map ent))) := by
   refine ⟨by rw [put_next]; omega,fun id g1 g2 => by rw [put_other _ (fun q => g2 (.inl q))]; exact f2.eq id g1,fun id ho => ?_⟩
   rcases ho with g | ⟨x,hx,g⟩
   ·exact .inl (.inl g)
   ·rcases List.mem_append.1 hx with g' | g'
    ·exact .inl (.inr ⟨x,g',g⟩)
    ·simp at g'; subst g'; exact .inr (o2 id g)
  obtain ⟨s',xs',S3,e3,g1,g2,g3,g4⟩ := j0_spec (v := v) hk h2 hno (by simp)
  refine ⟨_,S3,e3,g1,hch.trans g2,fun k' v' => ?_,fun x hx => ?_,fun x hx => ?_⟩
  ·rw [hmem E [] ⟨key,S.next,s,[]⟩ s' xs' rfl g3]
   have : mem (E ++ (⟨key,S.next,s,[]⟩ : En) :: []) k' v' ↔ mem E k' v' := by
    constructor
    ·rintro ⟨x,hx,q1,q2⟩
     rcases List.mem_append.1 hx with g | g
     ·exact ⟨x,g,q1,q2⟩
     ·simp at g; subst g; cases q2
    ·rintro ⟨x,hx,q1,q2⟩; exact ⟨x,by simp [hx],q1,q2⟩
   rw [this]
  ·rcases List.mem_append.1 hx with g | g
   ·exact hne x g
   ·simp at g; subst g
    intro q
    have := (g3 v).2 (.inr rfl)
    simp only at q
    rw [q] at this; cases this
  ·rcases List.mem_append.1 hx with g | g
   ·have := hc x g; omega
   ·simp at g; subst g; simp at g4; simp; omega
 ·subst hke
  obtain ⟨s',xs',S3,e3,g1,g2,g3,g4⟩ := j0_spec (v := v) hk h hA (by have := hc e (by simp); omega)
  erw [e1]
  rw [obs,show dP ((some (HV.ptr (some (HA.cell0 e.p)))).getD (.ptr none)) = some (some (HA.cell0 e.p)) from rfl,obs,if_neg (by simp),e3]
  refine ⟨_,S3,rfl,g1,g2,fun k' v' => hmem A B e s' xs' rfl g3 k' v',fun x hx => ?_,fun x hx => ?_⟩
  ·rcases List.mem_append.1 hx with g | g
   ·exact hne x (by simp [g])
   ·rcases List.mem_cons.1 g with rfl | g
    ·intro q
     have := (g3 v).2 (.inr rfl)
     simp only at q
     rw [q] at this; cases this
    ·exact hne x (by simp [g])
  ·rcases List.mem_append.1 hx with g | g
   ·have := hc x (by simp [g]); omega
   ·rcases List.mem_cons.1 g with rfl | g
    ·have := hc e (by simp); simp only; omega
    ·have := hc x (by simp [g]); omega
theorem MS.del {m : Nat} {A B : List En} {e : En} {S : HS} (h : MS m (A ++ e :: B) S) (hA : ∀ a ∈ A,a.key ≠ e.key) :
  ∃ S',S.mdel (some m) (KS.kv e.key) = some S' ∧ MS m (A ++ B) S' ∧ Chg (OM m (A ++ e :: B)) (OM m (A ++ B)) S S' := by
 have hd := h.dis
 rw [List.pairwise_append,List.pairwise_cons] at hd
 have hn := h.nd
 rw [List.pairwise_append,List.pairwise_cons] at hn
 have hsub : ∀ x,x ∈ A ++ B → x ∈ A ++ e :: B := fun x hx => by
  rcases List.mem_append.1 hx with g | g <;> simp [g]
 refine ⟨S.put m (.map ((A ++ B).map ent)),?_,⟨put_here _ _ _,?_,fun x hx => (h.si x (hsub x hx)).keep (fun id ho => put_other _ (fun q => by subst q; exact h.nm x (hsub x hx) ho)) (Nat.le_refl _),?_,fun x hx => h.nm x (hsub x hx),h.lt⟩,⟨Nat.le_refl _,fun id _ g2 => put_other _ (fun q => g2 (.inl q)),fun id ho => .inl ?_⟩⟩
 ·simp only [HS.mdel,h.mp]
  rw [mf_at rfl 0 hA]
  simp only [Option.map_some,Nat.zero_add]
  congr 3
  rw [List.map_append,List.eraseIdx_append_of_length_le (by simp)]
  simp
 ·rw [List.pairwise_append]; exact ⟨hn.1,hn.2.1.2,fun a ha b hb => hn.2.2 a ha b (by simp [hb])⟩
 ·rw [List.pairwise_append]; exact ⟨hd.1,hd.2.1.2,fun a ha b hb => hd.2.2 a ha b (by simp [hb])⟩
 ·rcases ho with g | ⟨x,hx,g⟩
  ·exact .inl g
  ·exact .inr ⟨x,hsub x hx,g⟩
theorem take_spec {k m n : Nat} {E : List En} {key : Kk} {v : Vv} {S : HS} (hk : 2000 ≤ k) (h : MS m E S) (hne : ∀ e ∈ E,e.xs ≠ []) (hc : ∀ e ∈ E,e.xs.length ≤ n) (hm : mem E key v) :
  ∃ E' S',pair_take_string_int.f k (some m) key v S = some ((),S') ∧ MS m E' S' ∧ Chg (OM m E) (OM m E') S S' ∧ (∀ k' v',mem E' k' v' ↔ mem E k' v' ∧ ¬ (k' = key ∧ v' = v)) ∧ (∀ e ∈ E',e.xs ≠ []) ∧ (∀ e ∈ E',e.xs.length ≤ n) := by
 obtain ⟨e,he,hke,hve⟩ := hm
 obtain ⟨A,B,rfl,hA⟩ := split_at h.nd he hke
 subst hke
 have hi := h.si e he
 have hnd := h.nd
 rw [List.pairwise_append,List.pairwise_cons] at hnd
 have hkB : ∀ b ∈ B,b.key ≠ e.key := fun b hb g => hnd.2.1.1 b hb g.symm
 have hlk : S.look (some m) (KS.kv e.key) = some (some (.ptr (some (HA.cell0 e.p)))) := by
  rw [HS.look,HS.mp,h.mp,obs,mf_at rfl 0 hA]; rfl
 have fl : Fr S.next S (S.lit [[.int .i64 v]] 1).2 := lit_fr _ (Nat.le_refl _)
 have nl : (S.lit [[.int .i64 v]] 1).2.next = S.next + 1 := rfl
 have rl : (S.lit [[.int .i64 v]] 1).2.rows (S.lit [[.int .i64 v]] 1).1 1 = some ([v].map KI.row1) := (Vec.lit (n := 0) (z := 1) (S := S) _ (Nat.zero_le _)).rows
 have ql : ∀ q,(S.lit [[.int .i64 v]] 1).1.a = some q → q.1 = S.next := fun q hq => by cases hq; rfl
 rw [pair_take_string_int.f]
 erw [hlk]
 rw [obs,show dP ((some (HV.ptr (some (HA.cell0 e.p)))).getD (.ptr none)) = some (some (HA.cell0 e.p)) from rfl,obs,letv]
 generalize S.lit [[.int .i64 v]] 1 = P at fl nl rl ql ⊢
 obtain ⟨sl,S1⟩ := P
 simp only at fl nl rl ql ⊢
 have h1 := h.fr fl
 obtain ⟨s',xs',S2,e2,i2,o2,m2,c2⟩ := KI.remove_spec hk (hi.fr fl) rl (fun q hq => by
  have := ql q hq
  exact ⟨by omega,fun g => by have := hi.lt g; omega⟩) (by simp)
 obtain ⟨g1,g2⟩ := h1.upd i2 o2
 have hlk2 : S2.look (some m) (KS.kv e.key) = some (some (.ptr (some (HA.cell0 e.p)))) := by
  rw [HS.look,HS.mp,g1.mp,obs,mf_at (e := ⟨e.key,e.p,s',xs'⟩) rfl 0 hA]; rfl
 have hx : ∀ u,u ∈ xs' ↔ u ∈ e.xs ∧ u ≠ v := fun u => by rw [m2]; simp
 rw [e2,obs]
 erw [hlk2]
 rw [obs,show dP ((some (HV.ptr (some (HA.cell0 e.p)))).getD (.ptr none)) = some (some (HA.cell0 e.p)) from rfl,obs,KI.len_spec i2,obs]
 have hmem : ∀ k' v',mem (A ++ ⟨e.key,e.p,s',xs'⟩ :: B) k' v' ↔ mem (A ++ e :: B) k' v' ∧ ¬ (k' = e.key ∧ v' = v) := by
  intro k' v'
  constructor
  ·rintro ⟨x,hx1,hx2,hx3⟩
   rcases List.mem_append.1 hx1 with g | g
   ·exact ⟨⟨x,by simp [g],hx2,hx3⟩,fun q => hA x g (hx2.trans q.1)⟩
   ·rcases List.mem_cons.1 g with rfl | g
    ·have := (hx v').1 hx3
     exact ⟨⟨e,by simp,hx2,this.1⟩,fun q => this.2 q.2⟩
    ·exact ⟨⟨x,by simp [g],hx2,hx3⟩,fun q => hkB x g (hx2.trans q.1)⟩
  ·rintro ⟨⟨x,hx1,hx2,hx3⟩,hq⟩
   rcases List.mem_append.1 hx1 with g | g
   ·exact ⟨x,by simp [g],hx2,hx3⟩
   ·rcases List.mem_cons.1 g with rfl | g
    ·exact ⟨⟨x.key,x.p,s',xs'⟩,by simp,hx2,(hx v').2 ⟨hx3,fun q => hq ⟨hx2.symm,q⟩⟩⟩
    ·exact ⟨x,by simp [g],hx2,hx3⟩
 by_cases h0 : xs' = []
 ·subst h0
  obtain ⟨S3,e3,k1,k2⟩ := g1.del hA
  rw [if_pos (by simp)]
  erw [e3]
  rw [obs]
  refine ⟨A ++ B,S3,rfl,k1,((Chg.of_fr fl).trans g2).trans k2,fun k' v' => ?_,fun x hx => ?_,fun x hx => ?_⟩
  ·rw [← hmem]
   constructor
   ·rintro ⟨x,q1,q2,q3⟩
    refine ⟨x,?_,q2,q3⟩
    rcases List.mem_append.1 q1 with g | g <;> simp [g]
   ·rintro ⟨x,q1,q2,q3⟩
    rcases List.mem_append.1 q1 with g | g
    ·exact ⟨x,by simp [g],q2,q3⟩
    ·rcases List.mem_cons.1 g with rfl | g
     ·cases q3
     ·exact ⟨x,by simp [g],q2,q3⟩
  ·rcases List.mem_append.1 hx with g | g <;> exact hne x (by simp [g])
  ·rcases List.mem_append.1 hx with g | g <;> exact hc x (by simp [g])
 ·rw [if_neg (by simpa using h0)]
  refine ⟨_,S2,rfl,g1,(Chg.of_fr fl).trans g2,hmem,fun x hx => ?_,fun x hx => ?_⟩
  ·rcases List.mem_append.1 hx with g | g
   ·exact hne x (by simp [g])
   ·rcases List.mem_cons.1 g with rfl | g
    ·exact h0
    ·exact hne x (by simp [g])
  ·rcases List.mem_append.1 hx with g | g
   ·exact hc x (by simp [g])
   ·rcases List.mem_cons.1 g with rfl | g
    ·have := hc e (by simp); simp only; omega
    ·exact hc x (by simp [g])
end MB
abbrev Pr := Int × List UInt8
def wo (x : Pr) (L : List Pr) : List Pr := L.filter fun p => !decide (p = x)
theorem wo_mem {x p : Pr} {L : List Pr} : p ∈ wo x L ↔ p ∈ L ∧ p ≠ x := by simp [wo]
theorem wo_len {x : Pr} {L : List Pr} (h : L.Nodup) (hx : x ∈ L) : (wo x L).length = L.length - 1 := by
 have : wo x L = L.erase x := by
  rw [h.erase_eq_filter,wo]
  congr 1
  funext p
  by_cases hp : p = x <;> simp [hp]
 rw [this,List.length_erase_of_mem hx]
theorem wo_no {x : Pr} {L : List Pr} (hx : x ∉ L) : wo x L = L := List.filter_eq_self.2 fun p hp => by simp; rintro rfl; exact hx hp
def OR (r m1 m2 : Nat) (E1 : List MA.En) (E2 : List MB.En) (id : Nat) : Prop := id = r ∨ MA.OM m1 E1 id ∨ MB.OM m2 E2 id
structure RelI (r m1 m2 n : Nat) (most : Int) (E1 : List MA.En) (E2 : List MB.En) (L : List Pr) (S : HS) : Prop where
 cell : S.heap r = .cells 4 [[.int .i64 most,.int .i64 L.length,.map (some m1),.map (some m2)]] true
 ms1 : MA.MS m1 E1 S
 ms2 : MB.MS m2 E2 S
 d12 : ∀ id,MA.OM m1 E1 id → ¬ MB.OM m2 E2 id
 dr1 : ¬ MA.OM m1 E1 r
 dr2 : ¬ MB.OM m2 E2 r
 lt : r < S.next
 me1 : ∀ a b,MA.mem E1 a b ↔ (a,b) ∈ L
 me2 : ∀ b a,MB.mem E2 b a ↔ (a,b) ∈ L
 ne1 : ∀ e ∈ E1,e.xs ≠ []
 ne2 : ∀ e ∈ E2,e.xs ≠ []
 c1 : ∀ e ∈ E1,e.xs.length ≤ n
 c2 : ∀ e ∈ E2,e.xs.length ≤ n
 nd : L.Nodup
 ll : L.length ≤ n
 nn : n ≤ 900
section
variable {r m1 m2 n : Nat} {most : Int} {E1 : List MA.En} {E2 : List MB.En} {L : List Pr} {S : HS}
theorem RelI.ltO (h : RelI r m1 m2 n most E1 E2 L S) {id : Nat} (ho : OR r m1 m2 E1 E2 id) : id < S.next := by
 rcases ho with rfl | g | g
 ·exact h.lt
 ·exact h.ms1.ltO g
 ·exact h.ms2.ltO g
theorem RelI.keep {S' : HS} (h : RelI r m1 m2 n most E1 E2 L S) (hk : ∀ id,OR r m1 m2 E1 E2 id → S'.heap id = S.heap id) (hn : S.next ≤ S'.next) : RelI r m1 m2 n most E1 E2 L S' :=
 ⟨(hk r (.inl rfl)).trans h.cell,h.ms1.keep (fun id g => hk id (.inr (.inl g))) hn,h.ms2.keep (fun id g => hk id (.inr (.inr g))) hn,h.d12,h.dr1,h.dr2,Nat.lt_of_lt_of_le h.lt hn,h.me1,h.me2,h.ne1,h.ne2,h.c1,h.c2,h.nd,h.ll,h.nn⟩
theorem RelI.fr {S' : HS} (h : RelI r m1 m2 n most E1 E2 L S) (hf : Fr S.next S S') : RelI r m1 m2 n most E1 E2 L S' := h.keep (fun id ho => hf.eq id (h.ltO ho)) hf.le
theorem RelI.mono {n' : Nat} (h : RelI r m1 m2 n most E1 E2 L S) (hn : n ≤ n') (hn' : n' ≤ 900) : RelI r m1 m2 n' most E1 E2 L S := { h with c1 := fun e he => Nat.le_trans (h.c1 e he) hn,c2 := fun e he => Nat.le_trans (h.c2 e he) hn,ll := Nat.le_trans h.ll hn,nn := hn' }
theorem RelI.ld1 (h : RelI r m1 m2 n most E1 E2 L S) : S.ldM (HA.fld (HA.cell0 r) 2) = some (some m1) := row_ldM (cell_row h.cell) rfl rfl
theorem RelI.ldm (h : RelI r m1 m2 n most E1 E2 L S) : S.ldI .i64 (HA.fld (HA.cell0 r) 0) = some most := row_ldI (cell_row h.cell) rfl rfl
theorem RelI.at1 (h : RelI r m1 m2 n most E1 E2 L S) (a : Int) : ∃ xs,KS.Srt xs ∧ (∀ v,v ∈ xs ↔ (a,v) ∈ L) ∧ xs.length ≤ n ∧ ((S.look (some m1) (.int .i64 a) = some none ∧ xs = []) ∨ ∃ p s,S.look (some m1) (.int .i64 a) = some (some (.ptr (some (HA.cell0 p)))) ∧ KS.SI p s xs S ∧ ∀ id,Own p s id → MA.OM m1 E1 id) := by
 rcases MA.get_spec h.ms1 a with ⟨e1,hno⟩ | ⟨A,e,B,hE,hk,hA,e1⟩
 ·refine ⟨[],List.Pairwise.nil,fun v => ?_,by simp,.inl ⟨e1,rfl⟩⟩
  rw [← h.me1]
  exact ⟨fun g => (by cases g),fun ⟨e,he,hk,_⟩ => absurd hk (hno e he)⟩
 ·have he : e ∈ E1 := by rw [hE]; simp
  refine ⟨e.xs,(h.ms1.si e he).srt,fun v => ?_,h.c1 e he,.inr ⟨e.p,e.s,e1,h.ms1.si e he,fun id g => .inr ⟨e,he,g⟩⟩⟩
  rw [← h.me1]
  refine ⟨fun g => ⟨e,he,hk,g⟩,fun ⟨x,hx,hxk,hv⟩ => ?_⟩
  have : x = e := by
   have hn := h.ms1.nd
   rw [hE] at hx hn
   rw [List.pairwise_append,List.pairwise_cons] at hn
   rcases List.mem_append.1 hx with g | g
   ·exact absurd hxk (hA x g)
   ·rcases List.mem_cons.1 g with g | g
    ·exact g
    ·exact absurd (hk.trans hxk.symm) (hn.2.1.1 x g)
  rw [← this]; exact hv
theorem dP_none : dP ((none : Option HV).getD (.ptr none)) = some none := rfl
theorem dP_some (q : Option HA) : dP ((some (HV.ptr q)).getD (.ptr none)) = some q := rfl
theorem has_rel {k : Nat} (hk : 2000 ≤ k) (h : RelI r m1 m2 n most E1 E2 L S) (a : Int) (b : List UInt8) : pair_Rel_int_string_Has.f k (some (HA.cell0 r)) a b S = some (decide ((a,b) ∈ L),S) := by
 obtain ⟨xs,h1,h2,h3,h4⟩ := h.at1 a
 rw [pair_Rel_int_string_Has.f,if_pos (by rfl),obs,h.ld1,obs]
 rcases h4 with ⟨e,rfl⟩ | ⟨p,s,e,hs,_⟩
 ·rw [e,obs,dP_none,obs,set_Set_string_Has.f,if_pos (by rfl),obs,pair_Rel_int_string_Has.J0,decide_eq_false (fun g => by have := (h2 b).2 g; cases this)]
 ·rw [e,obs,dP_some,obs,KS.has_spec hk hs,obs,pair_Rel_int_string_Has.J0]
  simp only [h2]
theorem count_rel (h : RelI r m1 m2 n most E1 E2 L S) (a : Int) {xs : List KS.Ky} (hs : KS.Srt xs) (hm : ∀ v,v ∈ xs ↔ (a,v) ∈ L) : pair_Rel_int_string_Count.f (some (HA.cell0 r)) a S = some ((xs.length : Int),S) := by
 obtain ⟨ys,h1,h2,h3,h4⟩ := h.at1 a
 have : ys = xs := KS.srt_ext h1 hs fun v => by rw [h2,hm]
 subst this
 rw [pair_Rel_int_string_Count.f,if_neg (by simp),obs,h.ld1,obs]
 rcases h4 with ⟨e,rfl⟩ | ⟨p,s,e,hs,_⟩
 ·rw [e,obs,dP_none,obs,set_Set_string_Len.f,if_pos (by rfl)]; rfl
 ·rw [e,obs,dP_some,obs,KS.len_spec hs]; rfl
theorem of_rel {nD : Nat} (h : RelI r m1 m2 n most E1 E2 L S) (a : Int) {xs : List KS.Ky} (hs : KS.Srt xs) (hm : ∀ v,v ∈ xs ↔ (a,v) ∈ L) : ∃ fn u v S1 K,pair_Rel_int_string_Of.f (some (HA.cell0 r)) a S = some (.fn fn u v,S1) ∧ Tells (disp 2000 (nD + 2)) (.fn fn u v) (xs.map KS.row1) K S1 ∧ (∀ id,K id → S.next ≤ id ∧ id < S1.next) ∧ Fr S.next S S1 := by
 obtain ⟨ys,h1,h2,h3,h4⟩ := h.at1 a
 have hy : ys = xs := KS.srt_ext h1 hs fun v => by rw [h2,hm]
 subst hy
 have hnn := h.nn
 have key : ∃ c s' S1,pair_Rel_int_string_Of.f (some (HA.cell0 r)) a S = some (.fn (.func 130) [] [.ptr (some (HA.cell0 c))],S1) ∧ S1.heap c = .cells 1 [[s'.hv]] true ∧ S1.rows s' 1 = some (ys.map KS.row1) ∧ (S.next ≤ c ∧ c < S1.next) ∧ (∀ q,s'.a = some q → S.next ≤ q.1 ∧ q.1 < S1.next) ∧ Fr S.next S S1 := by
  rw [pair_Rel_int_string_Of.f,if_neg (by simp),obs,h.ld1,obs]
  rcases h4 with ⟨e,rfl⟩ | ⟨p,s,e,hs,_⟩
  ·rw [e,obs,dP_none,obs,set_Set_string_All.f,set_Set_string_List.f,if_pos (by rfl),obs,slices_Values_string_string.f,letv,obs]
   exact ⟨S.next,_,_,rfl,new_here _ _,rfl,⟨Nat.le_refl _,Nat.lt_succ_self _⟩,fun q hq => (by cases hq),Fr.new (Nat.le_refl _) _⟩
  ·obtain ⟨c,s',S1,e2,g1,g2,g3,g4,g5⟩ := KS.all_spec hs
   rw [e,obs,dP_some,obs,e2,obs]
   exact ⟨c,s',S1,rfl,g1,g2,g3,g4,g5⟩
 obtain ⟨c,s',S1,e,g1,g2,g3,g4,g5⟩ := key
 exact ⟨_,_,_,S1,fun id => id = c ∨ ∃ q,s'.a = some q ∧ q.1 = id,e,KS.values_tells (by omega) (by omega) g1 g2 _ ⟨.inl rfl,fun q hq => .inr ⟨q,hq,rfl⟩⟩,fun id hid => by
  rcases hid with rfl | ⟨q,hq,rfl⟩
  ·exact g3
  ·exact g4 q hq,g5⟩
theorem cnt_put {i : Int} {S : HS} {m1 m2 : Nat} (h : S.heap r = .cells 4 [[.int .i64 most,.int .i64 i,.map (some m1),.map (some m2)]] true) (j : Int) : S.sets (HA.fld (HA.cell0 r) 1) [.int .i64 j] = some (S.put r (.cells 4 [[.int .i64 most,.int .i64 j,.map (some m1),.map (some m2)]] true)) := (sets_row h rfl (by simp)).trans rfl
theorem RelI.step {n' : Nat} {E1' : List MA.En} {E2' : List MB.En} {L' : List Pr} {S1 S2 : HS} (h : RelI r m1 m2 n most E1 E2 L S) (h1 : MA.MS m1 E1' S1) (ch1 : Chg (MA.OM m1 E1) (MA.OM m1 E1') S S1) (h2 : MB.MS m2 E2' S2) (ch2 : Chg (MB.OM m2 E2) (MB.OM m2 E2') S1 S2)
  (me1 : ∀ a b,MA.mem E1' a b ↔ (a,b) ∈ L') (me2 : ∀ b a,MB.mem E2' b a ↔ (a,b) ∈ L') (ne1 : ∀ e ∈ E1',e.xs ≠ []) (ne2 : ∀ e ∈ E2',e.xs ≠ []) (c1 : ∀ e ∈ E1',e.xs.length ≤ n') (c2 : ∀ e ∈ E2',e.xs.length ≤ n') (nd : L'.Nodup) (ll : L'.length ≤ n') (nn : n' ≤ 900) :
  S2.heap r = S.heap r ∧ RelI r m1 m2 n' most E1' E2' L' (S2.put r (.cells 4 [[.int .i64 most,.int .i64 L'.length,.map (some m1),.map (some m2)]] true)) ∧ Chg (OR r m1 m2 E1 E2) (OR r m1 m2 E1' E2') S (S2.put r (.cells 4 [[.int .i64 most,.int .i64 L'.length,.map (some m1),.map (some m2)]] true)) := by
 have l1 := ch1.le
 have l2 := ch2.le
 have hr := h.lt
 have o1 : ∀ id,MA.OM m1 E1' id → ¬ MB.OM m2 E2 id := fun id g1 g2 => by
  rcases ch1.own id g1 with g | g
  ·exact h.d12 id g g2
  ·have := h.ms2.ltO g2; omega
 have d12 : ∀ id,MA.OM m1 E1' id → ¬ MB.OM m2 E2' id := fun id g1 g2 => by
  rcases ch2.own id g2 with g | g
  ·exact o1 id g1 g
  ·have := h1.ltO g1; omega
 have dr1 : ¬ MA.OM m1 E1' r := fun g => by
  rcases ch1.own r g with g' | g'
  ·exact h.dr1 g'
  ·omega
 have dr2 : ¬ MB.OM m2 E2' r := fun g => by
  rcases ch2.own r g with g' | g'
  ·exact h.dr2 g'
  ·omega
 refine ⟨(ch2.eq r (by omega) h.dr2).trans (ch1.eq r hr h.dr1),⟨put_here _ _ _,?_,?_,d12,dr1,dr2,by rw [put_next]; omega,me1,me2,ne1,ne2,c1,c2,nd,ll,nn⟩,⟨by rw [put_next]; omega,fun id g1 g2 => ?_,fun id g => ?_⟩⟩
 ·exact h1.keep (fun id g => by
   have := h1.ltO g
   rw [put_other _ (fun e => dr1 (by rw [← e]; exact g)),ch2.eq id this (o1 id g)]) (by rw [put_next]; omega)
 ·exact h2.keep (fun id g => put_other _ (fun e => dr2 (by rw [← e]; exact g))) (Nat.le_refl _)
 ·rw [put_other _ (fun e => g2 (.inl e)),ch2.eq id (by omega) (fun g => g2 (.inr (.inr g))),ch1.eq id g1 (fun g => g2 (.inr (.inl g)))]
 ·rcases g with g | g | g
  ·exact .inl (.inl g)
  ·exact (ch1.own id g).imp (fun g => .inr (.inl g)) (fun g => g)
  ·rcases ch2.own id g with g' | g'
   ·exact .inl (.inr (.inr g'))
   ·exact .inr (by omega)
theorem add_rel {k : Nat} (hk : 2000 ≤ k) (h : RelI r m1 m2 n most E1 E2 L S) (hn : n + 1 ≤ 900) (a : Int) (b : List UInt8) {xs : List KS.Ky} (hs : KS.Srt xs) (hm : ∀ v,v ∈ xs ↔ (a,v) ∈ L) :
  ∃ E1' E2' S',pair_Rel_int_string_Add.f k (some (HA.cell0 r)) a b S = some ((if (a,b) ∈ L then 6 else if most ≤ xs.length then 7 else 0),S') ∧ RelI r m1 m2 (n + 1) most E1' E2' (if (a,b) ∈ L then L else if most ≤ xs.length then L else L ++ [(a,b)]) S' ∧ Chg (OR r m1 m2 E1 E2) (OR r m1 m2 E1' E2') S S' := by
 rw [pair_Rel_int_string_Add.f,if_neg (by simp),has_rel hk h,obs]
 by_cases hin : (a,b) ∈ L
 ·simp only [hin,decide_true,if_true]
  exact ⟨E1,E2,S,rfl,h.mono (by omega) hn,Chg.refl _ _⟩
 ·simp only [hin,decide_false,if_false,Bool.false_eq_true]
  rw [count_rel h a hs hm,obs,obs]
  simp only [h.ldm,obs,if_true]
  by_cases hf : most ≤ (xs.length : Int)
  ·simp only [if_pos (show (xs.length : Int) ≥ most from hf),if_pos hf]
   exact ⟨E1,E2,S,rfl,h.mono (by omega) hn,Chg.refl _ _⟩
  ·obtain ⟨E1',S1,e1,g1,g2,g3,g4,g5⟩ := MA.put_spec (v := b) (key := a) hk h.ms1 h.ne1 h.c1 (by omega)
   have l1 := g2.le
   have h2 : MB.MS m2 E2 S1 := h.ms2.keep (fun id g => g2.eq id (h.ms2.ltO g) (fun g' => h.d12 id g' g)) l1
   obtain ⟨E2',S2,e2,k1,k2,k3,k4,k5⟩ := MB.put_spec (v := a) (key := b) hk h2 h.ne2 h.c2 (by omega)
   have hcell1 : S1.heap r = S.heap r := g2.eq r h.lt h.dr1
   obtain ⟨q1,q2,q3⟩ := h.step (L' := L ++ [(a,b)]) g1 g2 k1 k2 (fun a' b' => by rw [g3,h.me1]; simp) (fun b' a' => by rw [k3,h.me2]; simp [and_comm]) g4 k4 g5 k5 (by
    rw [List.nodup_append]
    exact ⟨h.nd,by simp,fun x hx y hy => by simp at hy; subst hy; intro e; subst e; exact hin hx⟩) (by simp; exact h.ll) hn
   have hld2 : S1.ldM (HA.fld (HA.cell0 r) 3) = some (some m2) := row_ldM (cell_row (hcell1.trans h.cell)) rfl rfl
   have hcell2 := q1.trans h.cell
   have hldn : S2.ldI .i64 (HA.fld (HA.cell0 r) 1) = some (L.length : Int) := row_ldI (cell_row hcell2) rfl rfl
   have hll := h.ll
   simp only [if_neg (show ¬ ((xs.length : Int) ≥ most) from hf),if_neg hf,h.ld1,obs,e1,hld2,e2,hldn]
   rw [w64_id (by omega) (by omega),cnt_put hcell2,obs,show ((L.length : Int) + 1) = ((L ++ [(a,b)]).length : Int) by simp]
   exact ⟨E1',E2',_,rfl,q2,q3⟩
theorem remove_rel {k : Nat} (hk : 2000 ≤ k) (h : RelI r m1 m2 n most E1 E2 L S) (a : Int) (b : List UInt8) :
  ∃ E1' E2' S',pair_Rel_int_string_Remove.f k (some (HA.cell0 r)) a b S = some (decide ((a,b) ∈ L),S') ∧ RelI r m1 m2 n most E1' E2' (wo (a,b) L) S' ∧ Chg (OR r m1 m2 E1 E2) (OR r m1 m2 E1' E2') S S' := by
 rw [pair_Rel_int_string_Remove.f,has_rel hk h,obs]
 by_cases hin : (a,b) ∈ L
 ·simp only [hin,decide_true,Bool.not_true,Bool.false_eq_true,if_false]
  obtain ⟨E1',S1,e1,g1,g2,g3,g4,g5⟩ := MA.take_spec (v := b) (key := a) hk h.ms1 h.ne1 h.c1 ((h.me1 a b).2 hin)
  have l1 := g2.le
  have h2 : MB.MS m2 E2 S1 := h.ms2.keep (fun id g => g2.eq id (h.ms2.ltO g) (fun g' => h.d12 id g' g)) l1
  obtain ⟨E2',S2,e2,k1,k2,k3,k4,k5⟩ := MB.take_spec (v := a) (key := b) hk h2 h.ne2 h.c2 ((h.me2 b a).2 hin)
  have hcell1 : S1.heap r = S.heap r := g2.eq r h.lt h.dr1
  have hfl := wo_len h.nd hin
  have hpos : 0 < L.length := List.length_pos_of_mem hin
  have hll := h.ll
  have hnn := h.nn
  obtain ⟨q1,q2,q3⟩ := h.step (n' := n) (L' := wo (a,b) L) g1 g2 k1 k2 (fun a' b' => by rw [g3,h.me1,wo_mem,Ne,Prod.mk.injEq]) (fun b' a' => by rw [k3,h.me2,wo_mem,Ne,Prod.mk.injEq]; simp only [and_comm]) g4 k4 g5 k5 (h.nd.sublist List.filter_sublist) (by omega) h.nn
  have hld2 : S1.ldM (HA.fld (HA.cell0 r) 3) = some (some m2) := row_ldM (cell_row (hcell1.trans h.cell)) rfl rfl
  have hcell2 := q1.trans h.cell
  have hldn : S2.ldI .i64 (HA.fld (HA.cell0 r) 1) = some (L.length : Int) := row_ldI (cell_row hcell2) rfl rfl
  simp only [h.ld1,obs,e1,hld2,e2,hldn]
  rw [w64_id (by omega) (by omega),cnt_put hcell2,obs,show ((L.length : Int) - 1) = ((wo (a,b) L).length : Int) by rw [hfl]; omega]
  exact ⟨E1',E2',_,rfl,q2,q3⟩
 ·simp only [hin,decide_false,Bool.not_false,if_true]
  refine ⟨E1,E2,S,rfl,?_,Chg.refl _ _⟩
  rw [wo_no hin]
  exact h
end
def low (b : UInt8) : UInt8 := if 65 ≤ b.toNat ∧ b.toNat ≤ 93 then b + 32 else if b.toNat = 126 then 94 else b
theorem all_bytes {p : UInt8 → Prop} (h : ∀ n : Fin 256,p (UInt8.ofNat n.val)) (b : UInt8) : p b := by
 have := h ⟨b.toNat,b.toNat_lt⟩
 simpa using this
theorem byte_spec (b : UInt8) : fold_Byte.f (b.toNat : Int) = some ((low b).toNat : Int) :=
 all_bytes (p := fun b => fold_Byte.f (b.toNat : Int) = some ((low b).toNat : Int)) (by decide +kernel) b
theorem low_low (b : UInt8) : low (low b) = low b := all_bytes (p := fun b => low (low b) = low b) (by decide +kernel) b
def look (y : Nat) : List UInt8 → List UInt8 → Nat
 | a :: s,b :: t => if a.toNat = y then b.toNat else look y s t
 | _,_ => y
theorem row_of (b : UInt8) : [[HV.int .u8 (b.toNat : Int)]] = bytesRows [b] := rfl
theorem take_succ_map {x : List UInt8} {i : Nat} (h : i < x.length) : (x.take (i + 1)).map low = (x.take i).map low ++ [low x[i]] := by
 rw [List.take_succ_eq_append_getElem h,List.map_append]; rfl
theorem text_loop {k m : Nat} {x : List UInt8} (hx : x.length ≤ 100000) : ∀ (n i : Nat) (s : Sl) (S : HS),x.length - i < n → i ≤ x.length → m ≤ S.next → Vec m S 1 s (bytesRows ((x.take i).map low)) →
  ∃ S',fold_Text.L0 k n x s (x.length : Int) (i : Int) S = some (x.map low,S') ∧ Fr m S S' := by
 intro n
 induction n with
 | zero => intro i s S h; omega
 | succ n ih =>
  intro i s S h hi hm hv
  unfold fold_Text.L0
  by_cases hlt : i < x.length
  ·rw [if_pos (by omega),sat_lt hlt,obs,byte_spec,obs,letv,row_of]
   have hl := Vec.lit (n := m) (z := 1) (S := S) (bytesRows [low x[i]]) hm
   rw [hl.rows,obs]
   have hv2 : Vec m (S.lit (bytesRows [low x[i]]) 1).2 1 s (bytesRows ((x.take i).map low)) := hv.new _
   obtain ⟨s',S',e,hv3,hf⟩ := hv2.app (new := bytesRows [low x[i]]) (Nat.le_trans hm (lit_fr (n := 0) _ (Nat.zero_le _)).le) (by simp [bytesRows]; omega)
   rw [e,obs,w64_id (by omega) (by omega),show ((i : Int) + 1) = ((i + 1 : Nat) : Int) by simp]
   rw [← bytesRows_app,← take_succ_map hlt] at hv3
   have hf0 := (lit_fr (n := m) (z := 1) (S := S) (bytesRows [low x[i]]) hm).trans hf
   obtain ⟨S2,e2,hf2⟩ := ih (i + 1) s' S' (by omega) (by omega) (Nat.le_trans hm hf0.le) hv3
   exact ⟨S2,e2,hf0.trans hf2⟩
  ·obtain rfl : i = x.length := by omega
   rw [List.take_length] at hv
   rw [if_neg (by omega),hv.text]
   exact ⟨S,rfl,Fr.refl _ _⟩
theorem text_spec {k m : Nat} {x : List UInt8} {S : HS} (hx : x.length ≤ 100000) (hk : x.length < k) (hm : m ≤ S.next) : ∃ S',fold_Text.f k x S = some (x.map low,S') ∧ Fr m S S' := by
 unfold fold_Text.f
 obtain ⟨s,S1,e,hv,hf⟩ := Vec.make (n := m) (S := S) (c := x.length) (zr := [.int .u8 0]) hm (by omega) (by omega)
 rw [e,obs]
 obtain ⟨S2,e2,hf2⟩ := text_loop (k := k) (m := m) hx k 0 s S1 (by omega) (by omega) (Nat.le_trans hm hf.le) hv
 exact ⟨S2,e2,hf.trans hf2⟩
def cmpL : List UInt8 → List UInt8 → Int
 | [],[] => 0
 | [],_ :: _ => -1
 | _ :: _,[] => 1
 | a :: s,b :: t => if (low a).toNat < (low b).toNat then -1 else if (low b).toNat < (low a).toNat then 1 else cmpL s t
theorem compare_loop {k : Nat} {x y : List UInt8} (hx : x.length ≤ 100000) : ∀ (n i : Nat),min x.length y.length - i < n → i ≤ min x.length y.length →
  fold_Compare.L0 k n x y (min x.length y.length : Nat) (i : Int) = some (cmpL (x.drop i) (y.drop i)) := by
 intro n
 induction n with
 | zero => intro i h; omega
 | succ n ih =>
  intro i h hi
  unfold fold_Compare.L0
  by_cases hlt : i < min x.length y.length
  ·have h1 : i < x.length := by omega
   have h2 : i < y.length := by omega
   rw [if_pos (by omega),sat_lt h1,obs,byte_spec,obs,sat_lt h2,obs,byte_spec,obs,List.drop_eq_getElem_cons h1,List.drop_eq_getElem_cons h2,cmpL]
   by_cases c1 : (low x[i]).toNat < (low y[i]).toNat
   ·rw [if_pos (by omega),if_pos c1]
   ·rw [if_neg (by omega),if_neg c1]
    by_cases c2 : (low y[i]).toNat < (low x[i]).toNat
    ·rw [if_pos (by omega),if_pos c2]
    ·rw [if_neg (by omega),if_neg c2,w64_id (by omega) (by omega),show ((i : Int) + 1) = ((i + 1 : Nat) : Int) by simp]
     exact ih (i + 1) (by omega) (by omega)
  ·rw [if_neg (by omega)]
   by_cases c1 : x.length < y.length
   ·rw [if_pos (by omega),List.drop_eq_nil_of_le (show x.length ≤ i by omega),List.drop_eq_getElem_cons (show i < y.length by omega),cmpL]
   ·rw [if_neg (by omega)]
    by_cases c2 : y.length < x.length
    ·rw [if_pos (by omega),List.drop_eq_nil_of_le (show y.length ≤ i by omega),List.drop_eq_getElem_cons (show i < x.length by omega),cmpL]
    ·rw [if_neg (by omega),List.drop_eq_nil_of_le (show y.length ≤ i by omega),List.drop_eq_nil_of_le (show x.length ≤ i by omega),cmpL]
theorem compare_spec {k : Nat} {x y : List UInt8} (hx : x.length ≤ 100000) (hk : x.length < k) : fold_Compare.f k x y = some (cmpL x y) := by
 unfold fold_Compare.f
 have := compare_loop (k := k) (y := y) hx k 0 (by omega) (by omega)
 rw [show mn (x.length : Int) (y.length : Int) = ((min x.length y.length : Nat) : Int) by unfold mn; split <;> omega]
 simpa using this
theorem cmpL_zero : ∀ (x y : List UInt8),cmpL x y = 0 ↔ x.map low = y.map low := by
 intro x
 induction x with
 | nil => intro y; cases y <;> simp [cmpL]
 | cons a s ih =>
  intro y
  cases y with
  | nil => simp [cmpL]
  | cons b t =>
   simp only [cmpL,List.map_cons,List.cons.injEq]
   by_cases c1 : (low a).toNat < (low b).toNat
   ·rw [if_pos c1]
    constructor
    ·intro h; omega
    ·intro h; rw [h.1] at c1; omega
   ·rw [if_neg c1]
    by_cases c2 : (low b).toNat < (low a).toNat
    ·rw [if_pos c2]
     constructor
     ·intro h; omega
     ·intro h; rw [h.1] at c2; omega
    ·rw [if_neg c2,ih]
     constructor
     ·intro h; exact ⟨UInt8.toNat_inj.1 (by omega),h⟩
     ·intro h; exact h.2
theorem slt_irrefl : ∀ (x : List UInt8),slt x x = false := by
 intro x
 induction x with
 | nil => rfl
 | cons a s ih => simp [slt,ih]
theorem cmpL_slt : ∀ (x y : List UInt8),cmpL x y = if slt (x.map low) (y.map low) = true then -1 else if x.map low = y.map low then 0 else 1 := by
 intro x
 induction x with
 | nil => intro y; cases y <;> simp [cmpL,slt]
 | cons a s ih =>
  intro y
  cases y with
  | nil => simp [cmpL,slt]
  | cons b t =>
   simp only [cmpL,List.map_cons,slt,Bool.or_eq_true,decide_eq_true_eq,Bool.and_eq_true,beq_iff_eq,UInt8.lt_iff_toNat_lt,List.cons.injEq]
   by_cases c1 : (low a).toNat < (low b).toNat
   ·simp [c1]
   ·by_cases c2 : (low b).toNat < (low a).toNat
    ·have hne : low a ≠ low b := fun h => by rw [h] at c2; omega
     simp [c1,c2,hne]
    ·have heq : low a = low b := UInt8.toNat_inj.1 (by omega)
     rw [ih]
     simp [c1,c2,heq]
theorem cmpL_anti : ∀ (x y : List UInt8),cmpL y x = - cmpL x y := by
 intro x
 induction x with
 | nil => intro y; cases y <;> simp [cmpL]
 | cons a s ih =>
  intro y
  cases y with
  | nil => simp [cmpL]
  | cons b t =>
   simp only [cmpL]
   by_cases c1 : (low a).toNat < (low b).toNat
   ·simp [c1,show ¬ (low b).toNat < (low a).toNat by omega]
   ·by_cases c2 : (low b).toNat < (low a).toNat
    ·simp [c1,c2]
    ·simp [c1,c2,ih]
theorem cmpL_trans : ∀ (x y z : List UInt8),cmpL x y ≤ 0 → cmpL y z ≤ 0 → cmpL x z ≤ 0 := by
 intro x
 induction x with
 | nil => intro y z _ _; cases z <;> simp [cmpL]
 | cons a s ih =>
  intro y z h1 h2
  cases y with
  | nil => simp [cmpL] at h1
  | cons b t =>
   cases z with
   | nil => simp [cmpL] at h2
   | cons c u =>
    simp only [cmpL] at h1 h2 ⊢
    by_cases c1 : (low b).toNat < (low a).toNat
    ·rw [if_neg (by omega),if_pos c1] at h1; omega
    by_cases c2 : (low c).toNat < (low b).toNat
    ·rw [if_neg (by omega),if_pos c2] at h2; omega
    by_cases c3 : (low a).toNat < (low c).toNat
    ·rw [if_pos c3]; omega
    ·rw [if_neg c3,if_neg (by omega)]
     rw [if_neg (by omega),if_neg c1] at h1
     rw [if_neg (by omega),if_neg c2] at h2
     exact ih _ _ h1 h2
namespace BK
theorem cmpL_lt_trans {a b c : List UInt8} (h1 : cmpL a b < 0) (h2 : cmpL b c < 0) : cmpL a c < 0 := by
 have h3 := cmpL_trans a b c (by omega) (by omega)
 rcases Int.lt_or_eq_of_le h3 with h | h
 ·exact h
 ·have h4 : cmpL c a = 0 := by rw [cmpL_anti a c,h]; rfl
  have h5 := cmpL_trans b c a (by omega) (by omega)
  rw [cmpL_anti a b] at h5
  omega
theorem cmpL_eq_left {a b c : List UInt8} (h : cmpL a b = 0) : cmpL a c = cmpL b c := by
 rw [cmpL_zero] at h
 rw [cmpL_slt,cmpL_slt,h]
theorem cmpL_eq_right {a b c : List UInt8} (h : cmpL a b = 0) : cmpL c a = cmpL c b := by
 rw [cmpL_anti a c,cmpL_anti b c,cmpL_eq_left h]
abbrev En := List UInt8 × Option HA
def enRow (e : En) : List HV := [.str e.1,.ptr e.2]
def Srt (es : List En) : Prop := es.Pairwise fun a b => cmpL a.1 b.1 < 0
theorem Srt.lt {es : List En} (h : Srt es) {i j : Nat} (hi : i < es.length) (hj : j < es.length) (hij : i < j) : cmpL es[i].1 es[j].1 < 0 := List.pairwise_iff_getElem.1 h i j hi hj hij
structure PosOf (es : List En) (t : List UInt8) (p : Nat) : Prop where
 le : p ≤ es.length
 lo : ∀ q (hq : q < es.length),q < p → cmpL es[q].1 t < 0
 hi : ∀ q (hq : q < es.length),p ≤ q → ¬ cmpL es[q].1 t < 0
def foundAt (es : List En) (t : List UInt8) (p : Nat) : Bool := match es[p]? with | some e => decide (cmpL e.1 t = 0) | none => false
theorem PosOf.gt {es : List En} {t : List UInt8} {p : Nat} (h : PosOf es t p) (hs : Srt es) (hf : foundAt es t p = false) {q : Nat} (hq : q < es.length) (hpq : p ≤ q) : cmpL t es[q].1 < 0 := by
 have hp : p < es.length := by omega
 have h1 := h.hi p hp (Nat.le_refl _)
 have h2 : cmpL es[p].1 t ≠ 0 := by
  simp only [foundAt,List.getElem?_eq_getElem hp,decide_eq_false_iff_not] at hf
  exact hf
 have h3 : cmpL t es[p].1 < 0 := by rw [cmpL_anti]; omega
 rcases Nat.eq_or_lt_of_le hpq with e | e
 ·subst e; exact h3
 ·exact cmpL_lt_trans h3 (hs.lt hp hq e)
theorem ins_srt {es : List En} {t : List UInt8} {p : Nat} (h : PosOf es t p) (hs : Srt es) (hf : foundAt es t p = false) (v : Option HA) : Srt (es.take p ++ [(t,v)] ++ es.drop p) := by
 unfold Srt
 rw [List.append_assoc,List.pairwise_append]
 refine ⟨List.Pairwise.sublist (List.take_sublist _ _) hs,?_,fun a ha b hb => ?_⟩
 ·rw [List.singleton_append,List.pairwise_cons]
  refine ⟨fun b hb => ?_,List.Pairwise.sublist (List.drop_sublist _ _) hs⟩
  obtain ⟨q,hq,rfl⟩ := List.getElem_of_mem hb
  rw [List.getElem_drop]
  exact h.gt hs hf _ (by omega)
 ·obtain ⟨q,hq,rfl⟩ := List.getElem_of_mem ha
  rw [List.length_take] at hq
  rw [List.getElem_take]
  have h1 := h.lo q (by omega) (by omega)
  rcases List.mem_append.1 hb with hb | hb
  ·simp only [List.mem_singleton] at hb
   subst hb; exact h1
  ·obtain ⟨q2,hq2,rfl⟩ := List.getElem_of_mem hb
   rw [List.getElem_drop]
   rw [List.length_drop] at hq2
   exact hs.lt (by omega) (by omega) (by omega)
theorem set_srt {es : List En} {t : List UInt8} {p : Nat} (hs : Srt es) (hf : foundAt es t p = true) (v : Option HA) : Srt (es.set p (t,v)) := by
 have hp : p < es.length := by
  unfold foundAt at hf
  cases he : es[p]? with
  | none => rw [he] at hf; cases hf
  | some e => exact (List.getElem?_eq_some_iff.1 he).1
 have h0 : cmpL es[p].1 t = 0 := by
  simp only [foundAt,List.getElem?_eq_getElem hp,decide_eq_true_eq] at hf
  exact hf
 refine List.pairwise_iff_getElem.2 fun i j hi hj hij => ?_
 rw [List.length_set] at hi hj
 rw [List.getElem_set,List.getElem_set]
 have := hs.lt hi hj hij
 split
 ·rename_i e
  subst e
  rw [if_neg (by omega)]
  rw [← cmpL_eq_left h0]; exact this
 ·split
  ·rename_i e
   subst e
   rw [← cmpL_eq_right h0]; exact this
  ·exact this
theorem erase_srt {es : List En} (hs : Srt es) (p : Nat) : Srt (es.eraseIdx p) := List.Pairwise.sublist (List.eraseIdx_sublist _ _) hs
theorem erase_away {es : List En} {t : List UInt8} {p : Nat} (hs : Srt es) (hf : foundAt es t p = true) : ∀ e ∈ es.eraseIdx p,e ∈ es ∧ cmpL t e.1 ≠ 0 := by
 have hp : p < es.length := by
  unfold foundAt at hf
  cases he : es[p]? with
  | none => rw [he] at hf; cases hf
  | some e => exact (List.getElem?_eq_some_iff.1 he).1
 have h0 : cmpL es[p].1 t = 0 := by
  simp only [foundAt,List.getElem?_eq_getElem hp,decide_eq_true_eq] at hf
  exact hf
 intro e he
 rw [List.mem_eraseIdx_iff_getElem] at he
 obtain ⟨q,hq,hne,rfl⟩ := he
 refine ⟨List.getElem_mem hq,fun hc => ?_⟩
 have h1 : cmpL es[p].1 es[q].1 = 0 := by rw [cmpL_eq_left h0]; exact hc
 rcases Nat.lt_or_ge p q with h | h
 ·have := hs.lt hp hq h; omega
 ·have h2 := hs.lt hq hp (by omega)
  rw [cmpL_anti] at h1; omega
theorem none_alike {es : List En} {t : List UInt8} {p : Nat} (h : PosOf es t p) (hs : Srt es) (hf : foundAt es t p = false) : ∀ e ∈ es,cmpL t e.1 ≠ 0 := by
 intro e he hc
 obtain ⟨q,hq,rfl⟩ := List.getElem_of_mem he
 rcases Nat.lt_or_ge q p with h1 | h1
 ·have := h.lo q hq h1; rw [cmpL_anti] at hc; omega
 ·have := h.gt hs hf hq h1; omega
end BK
namespace BK
def CmpF (D : Dp) (H : Hd) (fv : HV) (t : List UInt8) : Prop := ∀ (e : En) (S : HS),e.1.length ≤ 1000 → ∃ S',D H fv [.agg (enRow e),.str t] S = some (.int .i64 (cmpL e.1 t),S') ∧ Fr S.next S S'
theorem cmpF {k n : Nat} {H : Hd} {t : List UInt8} (hk : 2000 ≤ k) : CmpF (disp k (n + 1)) H (HV.fn (.func 103) [] []) t := by
 intro e S he
 have hcell : (S.new (.cells 2 [[.str e.1,.ptr e.2]] true)).heap S.next = .cells 2 [[.str e.1,.ptr e.2]] true := new_here _ _
 refine ⟨S.new (.cells 2 [[.str e.1,.ptr e.2]] true),?_,Fr.new (Nat.le_refl _) _⟩
 have e' : call_103 (disp k n) H k ([] ++ [HV.agg (enRow e),.str t] ++ []) S = some (.int .i64 (cmpL e.1 t),S.new (.cells 2 [[.str e.1,.ptr e.2]] true)) := by
  rw [call_103]
  simp only [List.nil_append,List.append_nil,args2,enRow,dA2,dS,dP,obs,if_true]
  rw [book_Book_room_Room_at_1.f,letv,row_ldS (cell_row hcell) rfl rfl,obs,compare_spec (by omega) (by omega),obs]
  rfl
 rw [disp_func]
 simp only [if_true,if_false,e']
theorem en_rows {S : HS} {s : Sl} {xs : List En} (h : S.rows s 2 = some (xs.map enRow)) {i : Nat} (hi : i < xs.length) : ∃ ad,S.idx s (i : Int) 2 = some ad ∧ S.ldS (HA.fld ad 0) = some xs[i].1 ∧ S.ldP (HA.fld ad 1) = some xs[i].2 := by
 obtain ⟨ad,h1,h2,h3⟩ := rows_idx h (i := i) (by simpa using hi)
 rw [List.getElem_map] at h3
 exact ⟨ad,h1,row_ldS h3 h2 rfl,row_ldP h3 h2 rfl⟩
theorem search_loop {D : Dp} {H : Hd} {k : Nat} {s : Sl} {t : List UInt8} {fv : HV} {es : List En} (hc : CmpF D H fv t) (hs : Srt es) (hl : ∀ e ∈ es,e.1.length ≤ 1000) (hle : es.length ≤ 100000) :
  ∀ (n i j : Nat) (S : HS),j - i < n → i ≤ j → j ≤ es.length → Rd S.next S 2 s (es.map enRow) → (∀ q (hq : q < es.length),q < i → cmpL es[q].1 t < 0) → (∀ q (hq : q < es.length),j ≤ q → ¬ cmpL es[q].1 t < 0) →
  ∃ (p : Nat) (S' : HS),slices_BinarySearchFunc_book_entry_room_Room_book_entry_room_Room_string.L0 D H k n s t fv (es.length : Int) (i : Int) (j : Int) S = some (((p : Int),foundAt es t p),S') ∧ PosOf es t p ∧ Fr S.next S S' := by
 intro n
 induction n with
 | zero => intro i j S h; omega
 | succ n ih =>
  intro i j S hf hij hj hrd hlo hhi
  unfold slices_BinarySearchFunc_book_entry_room_Room_book_entry_room_Room_string.L0
  by_cases hlt : i < j
  ·rw [if_pos (by omega),mid_eq (by omega)]
   have hm : (i + j) / 2 < es.length := by omega
   obtain ⟨ad,a1,a2,a3⟩ := en_rows hrd.rows hm
   obtain ⟨S1,e1,f1⟩ := hc es[(i + j) / 2] S (hl _ (List.getElem_mem _))
   have hrd1 : Rd S1.next S1 2 s (es.map enRow) := (hrd.frame f1 (Nat.le_refl _)).mono f1.le
   have e1' : D H fv [HV.agg [HV.str es[(i + j) / 2].1,HV.ptr es[(i + j) / 2].2],HV.str t] S = some (.int .i64 (cmpL es[(i + j) / 2].1 t),S1) := e1
   rw [a1,obs,a2,obs,a3,obs,e1',obs]
   simp only [dI,if_true,obs]
   by_cases hc0 : cmpL es[(i + j) / 2].1 t < 0
   ·rw [if_pos hc0,w64_id (by omega) (by omega),show ((((i + j) / 2 : Nat) : Int) + 1) = (((i + j) / 2 + 1 : Nat) : Int) by simp]
    obtain ⟨p,S2,e2,p2,f2⟩ := ih ((i + j) / 2 + 1) j S1 (by omega) (by omega) hj hrd1 (fun q hq hqi => by
     rcases Nat.lt_or_ge q ((i + j) / 2) with h | h
     ·exact cmpL_lt_trans (hs.lt hq hm h) hc0
     ·obtain rfl : q = (i + j) / 2 := by omega
      exact hc0) hhi
    exact ⟨p,S2,e2,p2,f1.trans (f2.mono f1.le)⟩
   ·rw [if_neg hc0]
    obtain ⟨p,S2,e2,p2,f2⟩ := ih i ((i + j) / 2) S1 (by omega) (by omega) (by omega) hrd1 hlo (fun q hq hqi => by
     rcases Nat.lt_or_ge ((i + j) / 2) q with h | h
     ·intro hcc
      exact hc0 (cmpL_lt_trans (hs.lt hm hq h) hcc)
     ·obtain rfl : q = (i + j) / 2 := by omega
      exact hc0)
    exact ⟨p,S2,e2,p2,f1.trans (f2.mono f1.le)⟩
  ·obtain rfl : i = j := by omega
   rw [if_neg (by omega)]
   have hp : PosOf es t i := ⟨hj,hlo,hhi⟩
   by_cases hend : i < es.length
   ·obtain ⟨ad,a1,a2,a3⟩ := en_rows hrd.rows hend
    obtain ⟨S1,e1,f1⟩ := hc es[i] S (hl _ (List.getElem_mem _))
    have e1' : D H fv [HV.agg [HV.str es[i].1,HV.ptr es[i].2],HV.str t] S = some (.int .i64 (cmpL es[i].1 t),S1) := e1
    rw [if_pos (by omega),a1,obs,a2,obs,a3,obs,e1',obs]
    simp only [dI,if_true,obs,slices_BinarySearchFunc_book_entry_room_Room_book_entry_room_Room_string.J1]
    refine ⟨i,S1,?_,hp,f1⟩
    simp [foundAt,List.getElem?_eq_getElem hend]
   ·rw [if_neg (by omega),slices_BinarySearchFunc_book_entry_room_Room_book_entry_room_Room_string.J1]
    refine ⟨i,S,?_,hp,Fr.refl _ _⟩
    simp [foundAt,List.getElem?_eq_none (show es.length ≤ i by omega)]
structure BI (p : Nat) (s : Sl) (most : Int) (es : List En) (S : HS) : Prop where
 cell : S.heap p = .cells 2 [[.int .i64 most,s.hv]] true
 ov : OV S 2 s (es.map enRow)
 ne : ∀ q,s.a = some q → q.1 ≠ p
 hi : p < S.next
 srt : Srt es
 len : ∀ e ∈ es,e.1.length ≤ 1000
 cnt : es.length ≤ 1000
theorem BI.lt {p : Nat} {s : Sl} {most : Int} {es : List En} {S : HS} (h : BI p s most es S) {id : Nat} (ho : Own p s id) : id < S.next := by
 rcases ho with rfl | ⟨q,h1,rfl⟩
 ·exact h.hi
 ·exact h.ov.lt h1
theorem BI.keep {p : Nat} {s : Sl} {most : Int} {es : List En} {S S' : HS} (h : BI p s most es S) (he : ∀ id,Own p s id → S'.heap id = S.heap id) (hn : S.next ≤ S'.next) : BI p s most es S' :=
 ⟨(he p (.inl rfl)).trans h.cell,h.ov.keep (fun q hq => he q.1 (.inr ⟨q,hq,rfl⟩)) hn,h.ne,Nat.lt_of_lt_of_le h.hi hn,h.srt,h.len,h.cnt⟩
theorem BI.fr {p : Nat} {s : Sl} {most : Int} {es : List En} {S S' : HS} (h : BI p s most es S) (hf : Fr S.next S S') : BI p s most es S' := h.keep (fun id ho => hf.eq id (h.lt ho)) hf.le
theorem BI.row {p : Nat} {s : Sl} {most : Int} {es : List En} {S : HS} (h : BI p s most es S) : S.row (HA.cell0 p).id (HA.cell0 p).i = some [.int .i64 most,s.hv] := cell_row h.cell
theorem BI.slen {p : Nat} {s : Sl} {most : Int} {es : List En} {S : HS} (h : BI p s most es S) : s.len = es.length := by rw [h.ov.len]; simp
theorem BI.rd {p : Nat} {s : Sl} {most : Int} {es : List En} {S : HS} (h : BI p s most es S) : Rd S.next S 2 s (es.map enRow) := ⟨h.ov.rows,fun q hq => h.ov.lt hq⟩
theorem at_spec {k n p : Nat} {H : Hd} {s : Sl} {most : Int} {es : List En} {S : HS} (hk : 2000 ≤ k) (h : BI p s most es S) (t : List UInt8) :
  ∃ (i : Nat) (S' : HS),book_Book_room_Room_at.f (disp k (n + 1)) H k (some (HA.cell0 p)) t S = some (((i : Int),foundAt es t i),S') ∧ PosOf es t i ∧ Fr S.next S S' := by
 obtain ⟨i,S',e,h1,h2⟩ := search_loop (k := k) (fv := HV.fn (.func 103) [] []) (cmpF (n := n) (H := H) (t := t) (show 2000 ≤ k by omega)) h.srt h.len (by have := h.cnt; omega) k 0 es.length S (by have := h.cnt; omega) (Nat.zero_le _) (Nat.le_refl _) h.rd (fun q _ hq => by omega) (fun q hq hq2 => by omega)
 refine ⟨i,S',?_,h1,h2⟩
 rw [book_Book_room_Room_at.f,if_neg (by simp),obs,row_ldSl h.row rfl rfl,obs,slices_BinarySearchFunc_book_entry_room_Room_book_entry_room_Room_string.f,h.slen]
 rw [show ((0 : Nat) : Int) = 0 from rfl] at e
 rw [e,obs]
def putL (most : Int) (es : List En) (i : Nat) (t : List UInt8) (v : Option HA) : List En := if foundAt es t i then es.set i (t,v) else if (es.length : Int) ≥ most then es else es.take i ++ [(t,v)] ++ es.drop i
def putR (most : Int) (es : List En) (i : Nat) (t : List UInt8) : Int := if foundAt es t i then 0 else if (es.length : Int) ≥ most then 7 else 0
theorem found_lt {es : List En} {t : List UInt8} {i : Nat} (h : foundAt es t i = true) : i < es.length := by
 unfold foundAt at h
 cases he : es[i]? with
 | none => rw [he] at h; cases h
 | some e => exact (List.getElem?_eq_some_iff.1 he).1
theorem OV.set_ {S : HS} {s : Sl} {rows : List (List HV)} {z : Nat} (h : OV S z s rows) {i : Nat} {row : List HV} (hi : i < rows.length) (hr : row.length = rows[i].length) :
  ∃ ad S',S.idx s (i : Int) z = some ad ∧ S.sets ad row = some S' ∧ OV S' z s (rows.set i row) ∧ S'.next = S.next ∧ (∀ id,(∀ q,s.a = some q → q.1 ≠ id) → S'.heap id = S.heap id) := by
 rcases h with ⟨_,_,rfl⟩ | ⟨id,rfl,h2,h3⟩
 ·simp at hi
 ·refine ⟨⟨id,i,0⟩,S.put id (.cells z (rows.set i row) true),by simp [HS.idx,h2,hi],?_,.inr ⟨id,by simp,put_here _ _ _,h3⟩,rfl,fun j hj => put_other _ (fun e => hj _ rfl e.symm)⟩
  rw [sets_row h2 (List.getElem?_eq_getElem hi) (by omega)]
  simp [hr]
theorem put_spec {k n p : Nat} {H : Hd} {s : Sl} {most : Int} {es : List En} {S : HS} (hk : 2000 ≤ k) (h : BI p s most es S) (hroom : es.length < 1000) (t : List UInt8) (v : Option HA) (ht : t.length ≤ 1000) :
  ∃ i s' S',PosOf es t i ∧ book_Book_room_Room_Put.f (disp k (n + 1)) H k (some (HA.cell0 p)) t v S = some (putR most es i t,S') ∧ BI p s' most (putL most es i t v) S' ∧ Only p s s' S S' := by
 obtain ⟨i,S1,e1,hp,f1⟩ := at_spec (n := n) (H := H) hk h t
 have h1 := h.fr f1
 refine ⟨i,?_⟩
 rw [book_Book_room_Room_Put.f,if_neg (by simp),e1,obs]
 simp only [putL,putR]
 cases hf : foundAt es t i with
 | true =>
  have hi := found_lt hf
  obtain ⟨ad,S2,a1,a2,a3,a4,a5⟩ := OV.set_ h1.ov (i := i) (row := [.str t,.ptr v]) (by simpa using hi) (by simp [enRow])
  have hb : BI p s most (es.set i (t,v)) S2 := by
   refine ⟨by rw [a5 p h1.ne]; exact h1.cell,?_,h1.ne,by rw [a4]; exact h1.hi,set_srt h.srt hf v,fun e he => ?_,by simpa using h.cnt⟩
   ·have : (es.map enRow).set i [.str t,.ptr v] = (es.set i (t,v)).map enRow := by rw [List.map_set]; rfl
    rw [← this]; exact a3
   ·rcases List.mem_or_eq_of_mem_set he with g | rfl
    ·exact h.len e g
    ·exact ht
  refine ⟨s,S2,hp,?_,by simpa using hb,(Only.of_fr f1).trans ⟨by rw [a4]; exact Nat.le_refl _,fun id _ g => a5 id (fun q hq e => g (.inr ⟨q,hq,e⟩)),fun _ ho => .inl ho⟩⟩
  rw [if_pos rfl,obs,row_ldSl h1.row rfl rfl,obs,a1,obs,a2,obs,book_Book_room_Room_Put.J0]
  rfl
 | false =>
  rw [if_neg (by simp),obs,row_ldSl h1.row rfl rfl,obs,obs,row_ldI h1.row rfl rfl,obs,h1.slen]
  by_cases hfull : (es.length : Int) ≥ most
  ·rw [if_pos hfull]
   refine ⟨s,S1,hp,by simp [hfull],by simpa [hfull] using h1,Only.of_fr f1⟩
  ·rw [if_neg hfull]
   obtain ⟨s',S2,a1,a2,a3,a4,a5⟩ := ins_ov (row := [.str t,.ptr v]) h1.ov (i := i) (by simpa using hp.le) (by simp; omega)
   have hcell : S2.heap p = .cells 2 [[.int .i64 most,s.hv]] true := by rw [a4 p h1.hi h1.ne]; exact h1.cell
   have hne' : ∀ q,s'.a = some q → q.1 ≠ p := fun q hq => by have := a5 q hq; have := h1.hi; omega
   rw [obs,row_ldSl h1.row rfl rfl,obs,letv,slices_Insert_book_entry_room_Room_book_entry_room_Room_w.f,a1,obs,obs]
   have hsr : S2.sets (HA.fld (HA.cell0 p) 1) [s'.hv] = some (S2.put p (.cells 2 [[.int .i64 most,s'.hv]] true)) := (sets_row hcell rfl (by simp)).trans rfl
   rw [hsr,obs,book_Book_room_Room_Put.J0]
   have hb : BI p s' most (es.take i ++ [(t,v)] ++ es.drop i) (S2.put p (.cells 2 [[.int .i64 most,s'.hv]] true)) := by
    refine ⟨put_here _ _ _,?_,hne',Nat.lt_of_lt_of_le h1.hi a3,ins_srt hp h.srt hf v,fun e he => ?_,?_⟩
    ·have hmap : (es.take i ++ [(t,v)] ++ es.drop i).map enRow = (es.map enRow).take i ++ [[.str t,.ptr v]] ++ (es.map enRow).drop i := by
      simp only [List.map_append,List.map_take,List.map_drop,List.map_cons,List.map_nil,enRow]
     rw [hmap]
     exact a2.keep (fun q hq => put_other _ (hne' q hq)) (Nat.le_refl _)
    ·simp only [List.mem_append,List.mem_singleton] at he
     rcases he with (g | rfl) | g
     ·exact h.len e (List.mem_of_mem_take g)
     ·exact ht
     ·exact h.len e (List.mem_of_mem_drop g)
    ·simp only [List.length_append,List.length_take,List.length_drop,List.length_singleton]; omega
   refine ⟨s',S2.put p (.cells 2 [[.int .i64 most,s'.hv]] true),hp,by simp [hfull],by simpa [hfull] using hb,(Only.of_fr f1).trans ⟨by rw [put_next]; exact a3,fun id g1 g2 => ?_,fun id ho => ?_⟩⟩
   ·rw [put_other _ (fun e => g2 (.inl e))]
    exact a4 id g1 (fun q hq e => g2 (.inr ⟨q,hq,e⟩))
   ·rcases ho with g | ⟨q,g1,g2⟩
    ·exact .inl (.inl g)
    ·right; rw [← g2]; exact a5 q g1
theorem delete_spec {k n p : Nat} {H : Hd} {s : Sl} {most : Int} {es : List En} {S : HS} (hk : 2000 ≤ k) (h : BI p s most es S) (t : List UInt8) :
  ∃ i s' S',PosOf es t i ∧ book_Book_room_Room_Delete.f (disp k (n + 1)) H k (some (HA.cell0 p)) t S = some (foundAt es t i,S') ∧ BI p s' most (if foundAt es t i then es.eraseIdx i else es) S' ∧ Only p s s' S S' := by
 obtain ⟨i,S1,e1,hp,f1⟩ := at_spec (n := n) (H := H) hk h t
 have h1 := h.fr f1
 refine ⟨i,?_⟩
 rw [book_Book_room_Room_Delete.f,e1,obs]
 cases hf : foundAt es t i with
 | false =>
  rw [if_neg (by simp),book_Book_room_Room_Delete.J0]
  exact ⟨s,S1,hp,rfl,by simpa using h1,Only.of_fr f1⟩
 | true =>
  have hi := found_lt hf
  have hcnt := h.cnt
  rw [if_pos rfl,obs,row_ldSl h1.row rfl rfl,obs]
  simp only
  rw [w64_id (by omega) (by omega),show ((i : Int) + 1) = ((i + 1 : Nat) : Int) by simp]
  obtain ⟨s',S2,a1,a2,a3,a4,a5⟩ := del_ov h1.ov (i := i) (by simpa using hi) (by simp; omega)
  have hcell : S2.heap p = .cells 2 [[.int .i64 most,s.hv]] true := by rw [a4 p h1.hi h1.ne]; exact h1.cell
  have hne' : ∀ q,s'.a = some q → q.1 ≠ p := fun q hq => by have := a5 q hq; have := h1.hi; omega
  have hsr : S2.sets (HA.fld (HA.cell0 p) 1) [s'.hv] = some (S2.put p (.cells 2 [[.int .i64 most,s'.hv]] true)) := (sets_row hcell rfl (by simp)).trans rfl
  rw [slices_Delete_book_entry_room_Room_book_entry_room_Room_w.f,a1,obs,obs,hsr,obs,book_Book_room_Room_Delete.J0]
  have hb : BI p s' most (es.eraseIdx i) (S2.put p (.cells 2 [[.int .i64 most,s'.hv]] true)) := by
   refine ⟨put_here _ _ _,?_,hne',Nat.lt_of_lt_of_le h1.hi a3,erase_srt h.srt i,fun e he => h.len e (List.mem_of_mem_eraseIdx he),by rw [List.length_eraseIdx,if_pos hi]; omega⟩
   rw [Go.ChangeMaps.map_eraseIdx]
   exact a2.keep (fun q hq => put_other _ (hne' q hq)) (Nat.le_refl _)
  refine ⟨s',S2.put p (.cells 2 [[.int .i64 most,s'.hv]] true),hp,rfl,by simpa using hb,(Only.of_fr f1).trans ⟨by rw [put_next]; exact a3,fun id g1 g2 => ?_,fun id ho => ?_⟩⟩
  ·rw [put_other _ (fun e => g2 (.inl e))]
   exact a4 id g1 (fun q hq e => g2 (.inr ⟨q,hq,e⟩))
  ·rcases ho with g | ⟨q,g1,g2⟩
   ·exact .inl (.inl g)
   ·right; rw [← g2]; exact a5 q g1
theorem len_spec {p : Nat} {s : Sl} {most : Int} {es : List En} {S : HS} (h : BI p s most es S) : book_Book_room_Room_Len.f (some (HA.cell0 p)) S = some ((es.length : Int),S) := by
 rw [book_Book_room_Room_Len.f,if_neg (by simp),obs,row_ldSl h.row rfl rfl,obs,h.slen]
theorem clone_spec {s : Sl} {rows : List (List HV)} {S : HS} (hr : Rd S.next S 2 s rows) (hn : s.a = none → rows = []) (hc : rows.length ≤ 1000) : ∃ s' S1,slices_Clone_book_entry_room_Room_book_entry_room_Room.f s S = some (s',S1) ∧ S1.rows s' 2 = some rows ∧ (∀ q,s'.a = some q → S.next ≤ q.1 ∧ q.1 < S1.next) ∧ Fr S.next S S1 := by
 unfold slices_Clone_book_entry_room_Room_book_entry_room_Room.f
 by_cases ha : s.a.isNone = true
 ·rw [if_pos ha]
  refine ⟨_,S,rfl,?_,fun q hq => (by cases hq),Fr.refl _ _⟩
  rw [hn (by simpa using ha)]; rfl
 ·rw [if_neg ha,letv]
  have hl := Vec.lit (n := S.next) (z := 2) (S := S) [] (Nat.le_refl _)
  have hr' : (S.lit [] 2).2.rows s 2 = some rows := (hr.frame (lit_fr [] (Nat.le_refl _)) (Nat.le_refl _)).rows
  obtain ⟨s',S1,e1,v1,f1⟩ := hl.app (new := rows) (Nat.le_succ _) (by simp; omega)
  rw [hr',obs,e1,obs]
  rw [List.nil_append] at v1
  exact ⟨s',S1,rfl,v1.rows,v1.lo,(lit_fr [] (Nat.le_refl _)).trans f1⟩
theorem told_spec {s : Sl} {rows : List (List HV)} {S : HS} (hr : S.rows s 2 = some rows) (hq : ∀ q,s.a = some q → q.1 < S.next) :
  ∃ S',book_told_room_Room.f s S = some (.fn (.func 119) [] [.ptr (some (HA.cell0 S.next))],S') ∧ S'.heap S.next = .cells 1 [[s.hv]] true ∧ S'.rows s 2 = some rows ∧ S'.next = S.next + 1 ∧ Fr S.next S S' := by
 rw [book_told_room_Room.f,letv]
 refine ⟨_,rfl,new_here _ _,?_,rfl,Fr.new (Nat.le_refl _) _⟩
 have hrd : Rd S.next S 2 s rows := ⟨hr,hq⟩
 exact (hrd.frame (Fr.new (Nat.le_refl _) _) (Nat.le_refl _)).rows
theorem all_spec {p : Nat} {s : Sl} {most : Int} {es : List En} {S : HS} (h : BI p s most es S) :
  ∃ c s' S',book_Book_room_Room_All.f (some (HA.cell0 p)) S = some (.fn (.func 119) [] [.ptr (some (HA.cell0 c))],S') ∧ S.next ≤ c ∧ c < S'.next ∧ S'.heap c = .cells 1 [[s'.hv]] true ∧ S'.rows s' 2 = some (es.map enRow) ∧ (∀ q,s'.a = some q → S.next ≤ q.1 ∧ q.1 < S'.next) ∧ Fr S.next S S' := by
 obtain ⟨s',S1,e1,r1,q1,f1⟩ := clone_spec h.rd h.ov.none (by have := h.cnt; simpa using this)
 obtain ⟨S2,e2,c2,r2,n2,f2⟩ := told_spec r1 (fun q hq => (q1 q hq).2)
 rw [book_Book_room_Room_All.f,if_neg (by simp),obs,row_ldSl h.row rfl rfl,obs,e1,obs,e2,obs]
 exact ⟨S1.next,s',S2,rfl,f1.le,by omega,c2,r2,fun q hq => ⟨(q1 q hq).1,by have := (q1 q hq).2; omega⟩,f1.trans (f2.mono f1.le)⟩
theorem get_spec {k n p : Nat} {H : Hd} {s : Sl} {most : Int} {es : List En} {S : HS} (hk : 2000 ≤ k) (h : BI p s most es S) (t : List UInt8) :
  ∃ i S',PosOf es t i ∧ book_Book_room_Room_Get.f (disp k (n + 1)) H k (some (HA.cell0 p)) t S = some ((if foundAt es t i then (es[i]?.getD ([],none)).2 else none,foundAt es t i),S') ∧ Fr S.next S S' := by
 obtain ⟨i,S1,e1,hp,f1⟩ := at_spec (n := n) (H := H) hk h t
 have h1 := h.fr f1
 refine ⟨i,S1,hp,?_,f1⟩
 rw [book_Book_room_Room_Get.f,e1,obs]
 cases hf : foundAt es t i with
 | false => rw [if_pos (by simp)]; rfl
 | true =>
  have hi := found_lt hf
  obtain ⟨ad,a1,a2,a3⟩ := en_rows h1.ov.rows hi
  rw [if_neg (by simp),obs,row_ldSl h1.row rfl rfl,obs]
  simp only
  rw [a1,obs,a3,obs]
  simp [hi]
end BK
namespace MK
def cmpI (a b : Int) : Int := if a < b then -1 else if b < a then 1 else 0
theorem cmpI_zero (a b : Int) : cmpI a b = 0 ↔ a = b := by unfold cmpI; split <;> (try split) <;> omega
theorem cmpI_lt (a b : Int) : cmpI a b < 0 ↔ a < b := by unfold cmpI; split <;> (try split) <;> omega
theorem cmpI_anti (a b : Int) : cmpI b a = - cmpI a b := by
 unfold cmpI
 split <;> split <;> omega
theorem cmpI_lt_trans {a b c : Int} (h1 : cmpI a b < 0) (h2 : cmpI b c < 0) : cmpI a c < 0 := by rw [cmpI_lt] at *; omega
theorem cmpI_eq_left {a b c : Int} (h : cmpI a b = 0) : cmpI a c = cmpI b c := by rw [cmpI_zero] at h; rw [h]
theorem cmp_spec (a b : Int) : cmp_Compare_int.f a b = some (cmpI a b) := by
 unfold cmp_Compare_int.f cmpI cmp_isNaN_int.f
 simp
 split
 ·rfl
 ·split <;> rfl
abbrev En := Int × Bool × Bool
def enRow (e : En) : List HV := [.int .i64 e.1,.bool e.2.1,.bool e.2.2]
def Srt (es : List En) : Prop := es.Pairwise fun a b => cmpI a.1 b.1 < 0
theorem Srt.lt {es : List En} (h : Srt es) {i j : Nat} (hi : i < es.length) (hj : j < es.length) (hij : i < j) : cmpI es[i].1 es[j].1 < 0 := List.pairwise_iff_getElem.1 h i j hi hj hij
structure PosOf (es : List En) (t : Int) (p : Nat) : Prop where
 le : p ≤ es.length
 lo : ∀ q (hq : q < es.length),q < p → cmpI es[q].1 t < 0
 hi : ∀ q (hq : q < es.length),p ≤ q → ¬ cmpI es[q].1 t < 0
def foundAt (es : List En) (t : Int) (p : Nat) : Bool := match es[p]? with | some e => decide (cmpI e.1 t = 0) | none => false
theorem PosOf.gt {es : List En} {t : Int} {p : Nat} (h : PosOf es t p) (hs : Srt es) (hf : foundAt es t p = false) {q : Nat} (hq : q < es.length) (hpq : p ≤ q) : cmpI t es[q].1 < 0 := by
 have hp : p < es.length := by omega
 have h1 := h.hi p hp (Nat.le_refl _)
 have h2 : cmpI es[p].1 t ≠ 0 := by
  simp only [foundAt,List.getElem?_eq_getElem hp,decide_eq_false_iff_not] at hf
  exact hf
 have h3 : cmpI t es[p].1 < 0 := by rw [cmpI_anti]; omega
 rcases Nat.eq_or_lt_of_le hpq with e | e
 ·subst e; exact h3
 ·exact cmpI_lt_trans h3 (hs.lt hp hq e)
theorem ins_srt {es : List En} {t : Int} {p : Nat} (h : PosOf es t p) (hs : Srt es) (hf : foundAt es t p = false) (v : Bool × Bool) : Srt (es.take p ++ [(t,v)] ++ es.drop p) := by
 unfold Srt
 rw [List.append_assoc,List.pairwise_append]
 refine ⟨List.Pairwise.sublist (List.take_sublist _ _) hs,?_,fun a ha b hb => ?_⟩
 ·rw [List.singleton_append,List.pairwise_cons]
  refine ⟨fun b hb => ?_,List.Pairwise.sublist (List.drop_sublist _ _) hs⟩
  obtain ⟨q,hq,rfl⟩ := List.getElem_of_mem hb
  rw [List.getElem_drop]
  exact h.gt hs hf _ (by omega)
 ·obtain ⟨q,hq,rfl⟩ := List.getElem_of_mem ha
  rw [List.length_take] at hq
  rw [List.getElem_take]
  have h1 := h.lo q (by omega) (by omega)
  rcases List.mem_append.1 hb with hb | hb
  ·simp only [List.mem_singleton] at hb
   subst hb; exact h1
  ·obtain ⟨q2,hq2,rfl⟩ := List.getElem_of_mem hb
   rw [List.getElem_drop]
   rw [List.length_drop] at hq2
   exact hs.lt (by omega) (by omega) (by omega)
theorem erase_srt {es : List En} (hs : Srt es) (p : Nat) : Srt (es.eraseIdx p) := List.Pairwise.sublist (List.eraseIdx_sublist _ _) hs
theorem erase_away {es : List En} {t : Int} {p : Nat} (hs : Srt es) (hf : foundAt es t p = true) : ∀ e ∈ es.eraseIdx p,e ∈ es ∧ cmpI t e.1 ≠ 0 := by
 have hp : p < es.length := by
  unfold foundAt at hf
  cases he : es[p]? with
  | none => rw [he] at hf; cases hf
  | some e => exact (List.getElem?_eq_some_iff.1 he).1
 have h0 : cmpI es[p].1 t = 0 := by
  simp only [foundAt,List.getElem?_eq_getElem hp,decide_eq_true_eq] at hf
  exact hf
 intro e he
 rw [List.mem_eraseIdx_iff_getElem] at he
 obtain ⟨q,hq,hne,rfl⟩ := he
 refine ⟨List.getElem_mem hq,fun hc => ?_⟩
 have h1 : cmpI es[p].1 es[q].1 = 0 := by rw [cmpI_eq_left h0]; exact hc
 rcases Nat.lt_or_ge p q with h | h
 ·have := hs.lt hp hq h; omega
 ·have h2 := hs.lt hq hp (by omega)
  rw [cmpI_anti] at h1; omega
theorem none_alike {es : List En} {t : Int} {p : Nat} (h : PosOf es t p) (hs : Srt es) (hf : foundAt es t p = false) : ∀ e ∈ es,cmpI t e.1 ≠ 0 := by
 intro e he hc
 obtain ⟨q,hq,rfl⟩ := List.getElem_of_mem he
 rcases Nat.lt_or_ge q p with h1 | h1
 ·have := h.lo q hq h1; rw [cmpI_anti] at hc; omega
 ·have := h.gt hs hf hq h1; omega
def CmpF (D : Dp) (H : Hd) (fv : HV) (t : Int) : Prop := ∀ (e : En) (S : HS),∃ S',D H fv [.agg (enRow e),.int .i64 t] S = some (.int .i64 (cmpI e.1 t),S') ∧ Fr S.next S S'
theorem cmpF {k n : Nat} {H : Hd} {t : Int} (hk : 2000 ≤ k) : CmpF (disp k (n + 1)) H (HV.fn (.func 97) [] []) t := by
 intro e S
 have hcell : (S.new (.cells 3 [[.int .i64 e.1,.bool e.2.1,.bool e.2.2]] true)).heap S.next = .cells 3 [[.int .i64 e.1,.bool e.2.1,.bool e.2.2]] true := new_here _ _
 refine ⟨S.new (.cells 3 [[.int .i64 e.1,.bool e.2.1,.bool e.2.2]] true),?_,Fr.new (Nat.le_refl _) _⟩
 have e' : call_97 (disp k n) H k ([] ++ [HV.agg (enRow e),.int .i64 t] ++ []) S = some (.int .i64 (cmpI e.1 t),S.new (.cells 3 [[.int .i64 e.1,.bool e.2.1,.bool e.2.2]] true)) := by
  rw [call_97]
  simp only [List.nil_append,List.append_nil,args2,enRow,dA3,dB,dI,obs,if_true]
  rw [room_Room_at_1.f,letv,row_ldI (cell_row hcell) rfl rfl,obs,cmp_spec,obs]
  rfl
 rw [disp_func]
 repeat rw [if_neg (by decide)]
 rw [if_pos rfl]
 exact e'
theorem en_rows {S : HS} {s : Sl} {xs : List En} (h : S.rows s 3 = some (xs.map enRow)) {i : Nat} (hi : i < xs.length) : ∃ ad,S.idx s (i : Int) 3 = some ad ∧ S.ldI .i64 (HA.fld ad 0) = some xs[i].1 ∧ S.ldB (HA.fld ad 1) = some xs[i].2.1 ∧ S.ldB (HA.fld ad 2) = some xs[i].2.2 := by
 obtain ⟨ad,h1,h2,h3⟩ := rows_idx h (i := i) (by simpa using hi)
 rw [List.getElem_map] at h3
 exact ⟨ad,h1,row_ldI h3 h2 rfl,row_ldB h3 h2 rfl,row_ldB h3 h2 rfl⟩
theorem search_loop {D : Dp} {H : Hd} {k : Nat} {s : Sl} {t : Int} {fv : HV} {es : List En} (hc : CmpF D H fv t) (hs : Srt es) (hle : es.length ≤ 100000) :
  ∀ (n i j : Nat) (S : HS),j - i < n → i ≤ j → j ≤ es.length → Rd S.next S 3 s (es.map enRow) → (∀ q (hq : q < es.length),q < i → cmpI es[q].1 t < 0) → (∀ q (hq : q < es.length),j ≤ q → ¬ cmpI es[q].1 t < 0) →
  ∃ (p : Nat) (S' : HS),slices_BinarySearchFunc_api_Member_api_Member_int.L0 D H k n s t fv (es.length : Int) (i : Int) (j : Int) S = some (((p : Int),foundAt es t p),S') ∧ PosOf es t p ∧ Fr S.next S S' := by
 intro n
 induction n with
 | zero => intro i j S h; omega
 | succ n ih =>
  intro i j S hf hij hj hrd hlo hhi
  unfold slices_BinarySearchFunc_api_Member_api_Member_int.L0
  by_cases hlt : i < j
  ·rw [if_pos (by omega),mid_eq (by omega)]
   have hm : (i + j) / 2 < es.length := by omega
   obtain ⟨ad,a1,a2,a3,a4⟩ := en_rows hrd.rows hm
   obtain ⟨S1,e1,f1⟩ := hc es[(i + j) / 2] S
   have hrd1 : Rd S1.next S1 3 s (es.map enRow) := (hrd.frame f1 (Nat.le_refl _)).mono f1.le
   have e1' : D H fv [HV.agg [HV.int .i64 es[(i + j) / 2].1,HV.bool es[(i + j) / 2].2.1,HV.bool es[(i + j) / 2].2.2],HV.int .i64 t] S = some (.int .i64 (cmpI es[(i + j) / 2].1 t),S1) := e1
   rw [a1,obs,a2,obs,a3,obs,a4,obs,e1',obs]
   simp only [dI,if_true,obs]
   by_cases hc0 : cmpI es[(i + j) / 2].1 t < 0
   ·rw [if_pos hc0,w64_id (by omega) (by omega),show ((((i + j) / 2 : Nat) : Int) + 1) = (((i + j) / 2 + 1 : Nat) : Int) by simp]
    obtain ⟨p,S2,e2,p2,f2⟩ := ih ((i + j) / 2 + 1) j S1 (by omega) (by omega) hj hrd1 (fun q hq hqi => by
     rcases Nat.lt_or_ge q ((i + j) / 2) with h | h
     ·exact cmpI_lt_trans (hs.lt hq hm h) hc0
     ·obtain rfl : q = (i + j) / 2 := by omega
      exact hc0) hhi
    exact ⟨p,S2,e2,p2,f1.trans (f2.mono f1.le)⟩
   ·rw [if_neg hc0]
    obtain ⟨p,S2,e2,p2,f2⟩ := ih i ((i + j) / 2) S1 (by omega) (by omega) (by omega) hrd1 hlo (fun q hq hqi => by
     rcases Nat.lt_or_ge ((i + j) / 2) q with h | h
     ·intro hcc
      exact hc0 (cmpI_lt_trans (hs.lt hm hq h) hcc)
     ·obtain rfl : q = (i + j) / 2 := by omega
      exact hc0)
    exact ⟨p,S2,e2,p2,f1.trans (f2.mono f1.le)⟩
  ·obtain rfl : i = j := by omega
   rw [if_neg (by omega)]
   have hp : PosOf es t i := ⟨hj,hlo,hhi⟩
   by_cases hend : i < es.length
   ·obtain ⟨ad,a1,a2,a3,a4⟩ := en_rows hrd.rows hend
    obtain ⟨S1,e1,f1⟩ := hc es[i] S
    have e1' : D H fv [HV.agg [HV.int .i64 es[i].1,HV.bool es[i].2.1,HV.bool es[i].2.2],HV.int .i64 t] S = some (.int .i64 (cmpI es[i].1 t),S1) := e1
    rw [if_pos (by omega),a1,obs,a2,obs,a3,obs,a4,obs,e1',obs]
    simp only [dI,if_true,obs,slices_BinarySearchFunc_api_Member_api_Member_int.J1]
    refine ⟨i,S1,?_,hp,f1⟩
    simp [foundAt,List.getElem?_eq_getElem hend]
   ·rw [if_neg (by omega),slices_BinarySearchFunc_api_Member_api_Member_int.J1]
    refine ⟨i,S,?_,hp,Fr.refl _ _⟩
    simp [foundAt,List.getElem?_eq_none (show es.length ≤ i by omega)]
theorem found_lt {es : List En} {t : Int} {i : Nat} (h : foundAt es t i = true) : i < es.length := by
 unfold foundAt at h
 cases he : es[i]? with
 | none => rw [he] at h; cases h
 | some e => exact (List.getElem?_eq_some_iff.1 he).1
end MK
theorem MK.found_iff {es : List MK.En} {t : Int} {i : Nat} (h : MK.PosOf es t i) (hs : MK.Srt es) : MK.foundAt es t i = true ↔ t ∈ es.map (·.1) := by
 constructor
 ·intro hf
  have hi := MK.found_lt hf
  simp only [MK.foundAt,List.getElem?_eq_getElem hi,decide_eq_true_eq] at hf
  rw [MK.cmpI_zero] at hf
  exact List.mem_map.2 ⟨_,List.getElem_mem hi,hf⟩
 ·intro hm
  obtain ⟨e,he,rfl⟩ := List.mem_map.1 hm
  cases hf : MK.foundAt es e.1 i with
  | true => rfl
  | false => exact absurd ((MK.cmpI_zero _ _).2 rfl) (MK.none_alike h hs hf e he)
theorem MK.found_at {es : List MK.En} {t : Int} {i : Nat} (hf : MK.foundAt es t i = true) : ∃ hi : i < es.length,(es[i]'hi).1 = t := by
 have hi := MK.found_lt hf
 simp only [MK.foundAt,List.getElem?_eq_getElem hi,decide_eq_true_eq] at hf
 exact ⟨hi,(MK.cmpI_zero _ _).1 hf⟩
structure Rm where
 p : Nat
 s : Sl
 name : List UInt8
 mb : Int
 ms : List MK.En
 q : Nat
 qs : Sl
def Rm.ids (e : Rm) : List Int := e.ms.map (·.1)
def Rm.row (e : Rm) : List HV := [.str e.name,.int .i64 e.mb,e.s.hv,.str [],.int .i64 20,.str [],.int .i64 0,Sl.nil.hv,.ptr (some (HA.cell0 e.q))]
def OwnR (e : Rm) (id : Nat) : Prop := Own e.p e.s id ∨ Own e.q e.qs id
structure RI (e : Rm) (S : HS) : Prop where
 cell : S.heap e.p = .cells 9 [e.row] true
 ov : OV S 3 e.s (e.ms.map MK.enRow)
 ne : ∀ q,e.s.a = some q → q.1 ≠ e.p
 hi : e.p < S.next
 srt : MK.Srt e.ms
 cnt : e.ms.length ≤ 900
 inv : KI.SI e.q e.qs [] S
 dis : ∀ id,Own e.p e.s id → ¬ Own e.q e.qs id
section
variable {k n : Nat} {H : Hd} {e : Rm} {S S' : HS}
theorem RI.lt (h : RI e S) {id : Nat} (ho : OwnR e id) : id < S.next := by
 rcases ho with (rfl | ⟨q,h1,rfl⟩) | ho
 ·exact h.hi
 ·exact h.ov.lt h1
 ·exact h.inv.lt ho
theorem RI.keep (h : RI e S) (hk : ∀ id,OwnR e id → S'.heap id = S.heap id) (hn : S.next ≤ S'.next) : RI e S' :=
 ⟨(hk _ (.inl (.inl rfl))).trans h.cell,h.ov.keep (fun q hq => hk q.1 (.inl (.inr ⟨q,hq,rfl⟩))) hn,h.ne,Nat.lt_of_lt_of_le h.hi hn,h.srt,h.cnt,h.inv.keep (fun id g => hk id (.inr g)) hn,h.dis⟩
theorem RI.fr (h : RI e S) (hf : Fr S.next S S') : RI e S' := h.keep (fun id ho => hf.eq id (h.lt ho)) hf.le
theorem RI.slen (h : RI e S) : (e.s.len : Int) = e.ms.length := by have := h.ov.len; simp at this; omega
theorem RI.ldS (h : RI e S) : S.ldSl (HA.fld (HA.cell0 e.p) 2) = some e.s := row_ldSl (cell_row h.cell) rfl rfl
theorem room_new (hk : 2000 ≤ k) (name : List UInt8) (mb : Int) : ∃ e S',room_New.f k name mb S = some (some (HA.cell0 e.p),S') ∧ RI e S' ∧ e.name = name ∧ e.ms = [] ∧ (∀ id,OwnR e id → S.next ≤ id) ∧ Fr S.next S S' := by
 obtain ⟨s',xs',S1,e1,h1,f1,g1,g2,g3⟩ := KI.of_spec (k := k) (sl := Sl.nil) (ls := []) (S := S) hk (by exact ⟨rfl,fun q hq => by cases hq⟩) (by simp)
 have hx : xs' = [] := List.length_eq_zero_iff.1 (by simpa using g3)
 subst hx
 have l1 := f1.le
 have hlt := h1.hi
 refine ⟨⟨S1.next,Sl.nil,name,mb,[],S.next,s'⟩,_,by rw [room_New.f,e1,obs,letv]; rfl,⟨new_here _ _,.inl ⟨rfl,rfl,rfl⟩,fun q hq => (by cases hq),Nat.lt_succ_self _,List.Pairwise.nil,by simp,h1.fr (Fr.new (Nat.le_refl _) _),?_⟩,rfl,rfl,?_,f1.trans (Fr.new l1 _)⟩
 ·rintro id (rfl | ⟨q,hq,_⟩) ho
  ·exact absurd (h1.lt ho) (Nat.lt_irrefl _)
  ·cases hq
 ·rintro id ((rfl | ⟨q,hq,_⟩) | ho)
  ·exact l1
  ·cases hq
  ·exact g1 id ho
theorem room_at (hk : 2000 ≤ k) (h : RI e S) (id : Int) : ∃ (i : Nat) (S' : HS),room_Room_at.f (disp k (n + 1)) H k (some (HA.cell0 e.p)) id S = some (((i : Int),MK.foundAt e.ms id i),S') ∧ MK.PosOf e.ms id i ∧ Fr S.next S S' := by
 have hcnt := h.cnt
 obtain ⟨i,S',e1,h1,h2⟩ := MK.search_loop (k := k) (fv := HV.fn (.func 97) [] []) (MK.cmpF (n := n) (H := H) (t := id) (show 2000 ≤ k by omega)) h.srt (by omega) k 0 e.ms.length S (by omega) (Nat.zero_le _) (Nat.le_refl _) h.ov.rd (fun q _ hq => by omega) (fun q hq hq2 => by omega)
 refine ⟨i,S',?_,h1,h2⟩
 rw [room_Room_at.f,if_neg (by simp),obs,h.ldS,obs,slices_BinarySearchFunc_api_Member_api_Member_int.f,h.slen]
 rw [show ((0 : Nat) : Int) = 0 from rfl] at e1
 rw [e1,obs]
theorem room_name (h : RI e S) : room_Room_Name.f (some (HA.cell0 e.p)) S = some (e.name,S) := by
 rw [room_Room_Name.f,if_neg (by simp),obs,row_ldS (cell_row h.cell) rfl rfl,obs]
theorem room_len (h : RI e S) : room_Room_Len.f (some (HA.cell0 e.p)) S = some ((e.ms.length : Int),S) := by
 rw [room_Room_Len.f,if_neg (by simp),obs,h.ldS,obs,h.slen]
theorem room_set {s' : Sl} (h : S.heap e.p = .cells 9 [e.row] true) : S.sets (HA.fld (HA.cell0 e.p) 2) [s'.hv] = some (S.put e.p (.cells 9 [({ e with s := s' } : Rm).row] true)) := (sets_row h rfl (by simp [Rm.row])).trans rfl
theorem room_add (hk : 2000 ≤ k) (h : RI e S) (id : Int) (op : Bool) (hnew : id ∉ e.ids) (hc : e.ms.length < 900) :
  ∃ e' S',room_Room_Add.f (disp k (n + 1)) H k (some (HA.cell0 e.p)) id op S = some ((),S') ∧ RI e' S' ∧ e'.p = e.p ∧ e'.name = e.name ∧ (∃ i,e'.ms = e.ms.take i ++ [(id,op,false)] ++ e.ms.drop i) ∧ Chg (OwnR e) (OwnR e') S S' := by
 obtain ⟨i,S1,e1,hp,f1⟩ := room_at (n := n) (H := H) hk h id
 have h1 := h.fr f1
 have hf : MK.foundAt e.ms id i = false := by
  cases hf : MK.foundAt e.ms id i with
  | false => rfl
  | true => exact absurd ((MK.found_iff hp h.srt).1 hf) hnew
 obtain ⟨s',S2,a1,a2,a3,a4,a5⟩ := ins_ov (row := [.int .i64 id,.bool op,.bool false]) h1.ov (i := i) (by simpa using hp.le) (by simp; omega)
 have hcell : S2.heap e.p = .cells 9 [e.row] true := by rw [a4 e.p h1.hi h1.ne]; exact h1.cell
 have hset := room_set (s' := s') hcell
 generalize hS3 : S2.put e.p (.cells 9 [({ e with s := s' } : Rm).row] true) = S3 at hset
 have n3 : S3.next = S2.next := by rw [← hS3]; rfl
 have hne' : ∀ q,s'.a = some q → q.1 ≠ e.p := fun q hq => by have := a5 q hq; have := h1.hi; omega
 have hcell3 : S3.heap e.p = .cells 9 [({ e with s := s' } : Rm).row] true := by rw [← hS3]; exact put_here _ _ _
 have eq3 : ∀ x,x < S1.next → ¬ Own e.p e.s x → S3.heap x = S1.heap x := fun x hx hn => by
  rw [← hS3,put_other _ (fun g => hn (.inl g))]
  exact a4 x hx (fun q hq g => hn (.inr ⟨q,hq,g⟩))
 have inv3 : KI.SI e.q e.qs [] S3 := h1.inv.keep (fun x g => eq3 x (h1.inv.lt g) (fun g' => h.dis x g' g)) (by omega)
 have hld8 : S3.ldP (HA.fld (HA.cell0 e.p) 8) = some (some (HA.cell0 e.q)) := row_ldP (cell_row hcell3) rfl rfl
 have fl : Fr S3.next S3 (S3.lit [[.int .i64 id]] 1).2 := lit_fr _ (Nat.le_refl _)
 have hlr : (S3.lit [[.int .i64 id]] 1).2.rows (S3.lit [[.int .i64 id]] 1).1 1 = some (([id] : List KI.Ky).map KI.row1) := (Vec.lit (n := 0) (z := 1) (S := S3) _ (Nat.zero_le _)).rows
 obtain ⟨qs',xs',S5,r1,r2,r3,r4,r5⟩ := KI.remove_spec (ls := [id]) hk (inv3.fr fl) hlr (fun q hq => by
  have : q = (S3.next,0) := by simp [HS.lit] at hq; exact hq.symm
  subst this
  exact ⟨Nat.lt_succ_self _,fun ho => by have := inv3.lt ho; simp at this⟩) (by simp)
 have hx : xs' = [] := List.length_eq_zero_iff.1 (by simpa using r5)
 subst hx
 have l5 := r3.le
 have l4 := fl.le
 refine ⟨{ e with s := s',ms := e.ms.take i ++ [(id,op,false)] ++ e.ms.drop i,qs := qs' },S5,?_,?_,rfl,rfl,⟨i,rfl⟩,?_⟩
 ·rw [room_Room_Add.f,e1,obs,if_neg (by simp),hf,room_Room_Add.J0,if_neg (by simp),obs,h1.ldS,obs,letv,slices_Insert_api_Member_api_Member_w.f,a1,obs,obs,hset,obs,obs,hld8,obs,letv,r1,obs]
 ·have hown : ∀ x,Own e.p s' x → x < S3.next ∧ ¬ Own e.q e.qs x := by
   rintro x (rfl | ⟨q,hq,rfl⟩)
   ·exact ⟨by have := h1.hi; omega,h.dis _ (.inl rfl)⟩
   ·exact ⟨by have := a2.lt hq; omega,fun g => by have := h1.inv.lt g; have := a5 q hq; omega⟩
  have eq5 : ∀ x,Own e.p s' x → S5.heap x = S3.heap x := fun x hx => by
   obtain ⟨g1,g2⟩ := hown x hx
   rw [r3.eq x (by omega) g2,fl.eq x g1]
  refine ⟨(eq5 _ (.inl rfl)).trans hcell3,?_,hne',by have := h1.hi; show e.p < S5.next; omega,MK.ins_srt hp h.srt hf _,?_,r2,?_⟩
  ·have hmap : (e.ms.take i ++ [(id,op,false)] ++ e.ms.drop i).map MK.enRow = (e.ms.map MK.enRow).take i ++ [[.int .i64 id,.bool op,.bool false]] ++ (e.ms.map MK.enRow).drop i := by
    simp only [List.map_append,List.map_take,List.map_drop,List.map_cons,List.map_nil,MK.enRow]
   show OV S5 3 s' ((e.ms.take i ++ [(id,op,false)] ++ e.ms.drop i).map MK.enRow)
   rw [hmap]
   refine a2.keep (fun q hq => ?_) (by omega)
   rw [eq5 q.1 (.inr ⟨q,hq,rfl⟩),← hS3]
   exact put_other _ (hne' q hq)
  ·simp only [List.length_append,List.length_take,List.length_drop,List.length_singleton]; omega
  ·intro x hx ho
   obtain ⟨g1,g2⟩ := hown x hx
   rcases r3.own x ho with g | g
   ·exact g2 g
   ·omega
 ·refine ⟨by have := f1.le; omega,fun x hx ho => ?_,fun x ho => ?_⟩
  ·have l1 := f1.le
   rw [r3.eq x (by omega) (fun g => ho (.inr g)),fl.eq x (by omega),eq3 x (by omega) (fun g => ho (.inl g)),f1.eq x hx]
  ·have l1 := f1.le
   rcases ho with (rfl | ⟨q,hq,rfl⟩) | ho
   ·exact .inl (.inl (.inl rfl))
   ·exact .inr (by have := a5 q hq; omega)
   ·rcases r3.own x ho with g | g
    ·exact .inl (.inr g)
    ·exact .inr (by omega)
theorem room_drop (hk : 2000 ≤ k) (h : RI e S) (id : Int) (hin : id ∈ e.ids) :
  ∃ e' S',room_Room_Drop.f (disp k (n + 1)) H k (some (HA.cell0 e.p)) id S = some (true,S') ∧ RI e' S' ∧ e'.p = e.p ∧ e'.name = e.name ∧ (∃ i,MK.PosOf e.ms id i ∧ MK.foundAt e.ms id i = true ∧ e'.ms = e.ms.eraseIdx i) ∧ Chg (OwnR e) (OwnR e') S S' := by
 obtain ⟨i,S1,e1,hp,f1⟩ := room_at (n := n) (H := H) hk h id
 have h1 := h.fr f1
 have hf : MK.foundAt e.ms id i = true := (MK.found_iff hp h.srt).2 hin
 have hi := MK.found_lt hf
 have hcnt := h.cnt
 obtain ⟨s',S2,a1,a2,a3,a4,a5⟩ := del_ov h1.ov (i := i) (by simpa using hi) (by simp; omega)
 have hcell : S2.heap e.p = .cells 9 [e.row] true := by rw [a4 e.p h1.hi h1.ne]; exact h1.cell
 have hset := room_set (s' := s') hcell
 generalize hS3 : S2.put e.p (.cells 9 [({ e with s := s' } : Rm).row] true) = S3 at hset
 have n3 : S3.next = S2.next := by rw [← hS3]; rfl
 have hne' : ∀ q,s'.a = some q → q.1 ≠ e.p := fun q hq => by have := a5 q hq; have := h1.hi; omega
 have eq3 : ∀ x,x < S1.next → ¬ Own e.p e.s x → S3.heap x = S1.heap x := fun x hx hn => by
  rw [← hS3,put_other _ (fun g => hn (.inl g))]
  exact a4 x hx (fun q hq g => hn (.inr ⟨q,hq,g⟩))
 have hi1 : w64 ((i : Int) + 1) = ((i + 1 : Nat) : Int) := by rw [w64_id (by omega) (by omega)]; simp
 refine ⟨{ e with s := s',ms := e.ms.eraseIdx i },S3,?_,⟨by rw [← hS3]; exact put_here _ _ _,?_,hne',by have := h1.hi; show e.p < S3.next; omega,MK.erase_srt h.srt i,by show (e.ms.eraseIdx i).length ≤ 900; rw [List.length_eraseIdx,if_pos hi]; omega,h1.inv.keep (fun x g => eq3 x (h1.inv.lt g) (fun g' => h.dis x g' g)) (by omega),?_⟩,rfl,rfl,⟨i,hp,hf,rfl⟩,?_⟩
 ·rw [room_Room_Drop.f,e1,obs,if_pos hf,obs,h1.ldS,obs]
  simp only
  rw [hi1,slices_Delete_api_Member_api_Member_w.f,a1,obs,obs,hset,obs,room_Room_Drop.J0,hf]
 ·show OV S3 3 s' ((e.ms.eraseIdx i).map MK.enRow)
  rw [Go.ChangeMaps.map_eraseIdx]
  exact a2.keep (fun q hq => by rw [← hS3]; exact put_other _ (hne' q hq)) (by omega)
 ·rintro x (rfl | ⟨q,hq,rfl⟩) ho
  ·exact h.dis _ (.inl rfl) ho
  ·have := h1.inv.lt ho; have := a5 q hq; omega
 ·have l1 := f1.le
  refine ⟨by omega,fun x hx ho => by rw [eq3 x (by omega) (fun g => ho (.inl g)),f1.eq x hx],?_⟩
  rintro x ((rfl | ⟨q,hq,rfl⟩) | ho)
  ·exact .inl (.inl (.inl rfl))
  ·exact .inr (by have := a5 q hq; omega)
  ·exact .inl (.inr ho)
end
def ent (e : Rm) : BK.En := (e.name,some (HA.cell0 e.p))
def Rm.key (e : Rm) : List UInt8 := e.name.map low
structure W where
 w : Nat
 bk : Nat
 r : Nat
 m1 : Nat
 m2 : Nat
 mR : Int
 mJ : Int
 mB : Int
def W.row (x : W) : List HV := [.str [],.str [],.str [],.str [],.int .i64 0,.int .i64 0,.int .i64 x.mJ,.int .i64 x.mR,.int .i64 x.mB,.int .i64 0,.int .i64 0,.int .i64 0,.int .i64 0,.int .i64 0,.int .i64 0,.ptr (some (HA.cell0 x.bk)),.ptr (some (HA.cell0 x.r))]
structure T where
 bs : Sl
 n : Nat
 E1 : List MA.En
 E2 : List MB.En
 R : List Rm
 L : List Pr
def OB (x : W) (t : T) (id : Nat) : Prop := id = x.w ∨ Own x.bk t.bs id ∨ OR x.r x.m1 x.m2 t.E1 t.E2 id
def OA (x : W) (t : T) (id : Nat) : Prop := OB x t id ∨ ∃ e ∈ t.R,OwnR e id
structure RsC (x : W) (t : T) (S : HS) : Prop where
 cell : S.heap x.w = .cells 17 [x.row] true
 hi : x.w < S.next
 book : BK.BI x.bk t.bs x.mR (t.R.map ent) S
 rel : RelI x.r x.m1 x.m2 t.n x.mJ t.E1 t.E2 t.L S
 rooms : ∀ e ∈ t.R,RI e S
 dwb : ¬ Own x.bk t.bs x.w
 dwr : ¬ OR x.r x.m1 x.m2 t.E1 t.E2 x.w
 dbr : ∀ id,Own x.bk t.bs id → ¬ OR x.r x.m1 x.m2 t.E1 t.E2 id
 pw : t.R.Pairwise fun a b => ∀ id,OwnR a id → ¬ OwnR b id
 dR : ∀ e ∈ t.R,∀ id,OwnR e id → ¬ OB x t id
structure RsI (x : W) (t : T) (S : HS) : Prop extends RsC x t S where
 link : ∀ a b,(a,b) ∈ t.L ↔ ∃ e ∈ t.R,e.key = b ∧ a ∈ e.ids
 ne : ∀ e ∈ t.R,e.ms ≠ []
 cm : ∀ e ∈ t.R,e.ms.length ≤ t.n
 cR : t.R.length ≤ t.n
 mR0 : 0 ≤ x.mR
 mR1 : x.mR ≤ 1000
 mJ0 : 0 ≤ x.mJ
 mJ1 : x.mJ ≤ 1000
 cntR : (t.R.length : Int) ≤ x.mR
 cntJ : ∀ a xs,KS.Srt xs → (∀ v,v ∈ xs ↔ (a,v) ∈ t.L) → (xs.length : Int) ≤ x.mJ
section
variable {x : W} {t : T} {S S' : HS} {n : Nat} {H : Hd}
theorem RsC.ltO (h : RsC x t S) {id : Nat} (ho : OA x t id) : id < S.next := by
 rcases ho with (rfl | g | g) | ⟨e,he,g⟩
 ·exact h.hi
 ·exact h.book.lt g
 ·exact h.rel.ltO g
 ·exact (h.rooms e he).lt g
theorem RsC.keep (h : RsC x t S) (hk : ∀ id,OA x t id → S'.heap id = S.heap id) (hn : S.next ≤ S'.next) : RsC x t S' :=
 { h with
  cell := (hk _ (.inl (.inl rfl))).trans h.cell
  hi := Nat.lt_of_lt_of_le h.hi hn
  book := h.book.keep (fun id g => hk id (.inl (.inr (.inl g)))) hn
  rel := h.rel.keep (fun id g => hk id (.inl (.inr (.inr g)))) hn
  rooms := fun e he => (h.rooms e he).keep (fun id g => hk id (.inr ⟨e,he,g⟩)) hn }
theorem RsI.keep (h : RsI x t S) (hk : ∀ id,OA x t id → S'.heap id = S.heap id) (hn : S.next ≤ S'.next) : RsI x t S' := { h with toRsC := h.toRsC.keep hk hn }
theorem RsI.fr (h : RsI x t S) (hf : Fr S.next S S') : RsI x t S' := h.keep (fun id ho => hf.eq id (h.ltO ho)) hf.le
theorem RsC.fr (h : RsC x t S) (hf : Fr S.next S S') : RsC x t S' := h.keep (fun id ho => hf.eq id (h.ltO ho)) hf.le
theorem RsC.ldb (h : RsC x t S) : S.ldP (HA.fld (HA.cell0 x.w) 15) = some (some (HA.cell0 x.bk)) := row_ldP (cell_row h.cell) rfl rfl
theorem RsC.ldr (h : RsC x t S) : S.ldP (HA.fld (HA.cell0 x.w) 16) = some (some (HA.cell0 x.r)) := row_ldP (cell_row h.cell) rfl rfl
theorem RsC.ldmR (h : RsC x t S) : S.ldI .i64 (HA.fld (HA.fld (HA.cell0 x.w) 0) 7) = some x.mR := row_ldI (j := 7) (ad := HA.cell0 x.w) (cell_row h.cell) rfl rfl
theorem RsC.ldmB (h : RsC x t S) : S.ldI .i64 (HA.fld (HA.fld (HA.cell0 x.w) 0) 8) = some x.mB := row_ldI (j := 8) (ad := HA.cell0 x.w) (cell_row h.cell) rfl rfl
theorem RsI.key_uniq (h : RsI x t S) {a b : Rm} (ha : a ∈ t.R) (hb : b ∈ t.R) (hk : a.key = b.key) : a = b := by
 have hs : (t.R.map ent).Pairwise fun a b => cmpL a.1 b.1 < 0 := h.book.srt
 rw [List.pairwise_map] at hs
 obtain ⟨i,hi,rfl⟩ := List.getElem_of_mem ha
 obtain ⟨j,hj,rfl⟩ := List.getElem_of_mem hb
 have h0 : cmpL t.R[i].name t.R[j].name = 0 := (cmpL_zero _ _).2 hk
 have h0' : cmpL t.R[j].name t.R[i].name = 0 := (cmpL_zero _ _).2 hk.symm
 rcases Nat.lt_trichotomy i j with g | g | g
 ·have : cmpL t.R[i].name t.R[j].name < 0 := List.pairwise_iff_getElem.1 hs i j hi hj g
  omega
 ·subst g; rfl
 ·have : cmpL t.R[j].name t.R[i].name < 0 := List.pairwise_iff_getElem.1 hs j i hj hi g
  omega
inductive Fnd (R : List Rm) (name : List UInt8) : Option Rm → Prop
 | some {e} (he : e ∈ R) (hk : e.key = name.map low) : Fnd R name (some e)
 | none (h : ∀ e ∈ R,e.key ≠ name.map low) : Fnd R name none
def ptrOf (o : Option Rm) : Option HA := o.map fun e => HA.cell0 e.p
theorem found_ent {R : List Rm} {name : List UInt8} {i : Nat} (hp : BK.PosOf (R.map ent) name i) (hs : BK.Srt (R.map ent)) :
  ∃ o,Fnd R name o ∧ BK.foundAt (R.map ent) name i = o.isSome ∧ (BK.foundAt (R.map ent) name i = true → ∃ hi : i < R.length,o = some (R[i]'hi)) := by
 cases hf : BK.foundAt (R.map ent) name i with
 | true =>
  have hi : i < R.length := by simpa using BK.found_lt hf
  have h0 : cmpL (R[i]'hi).name name = 0 := by
   simp only [BK.foundAt,List.getElem?_eq_getElem (show i < (R.map ent).length by simpa using hi),decide_eq_true_eq] at hf
   simpa [ent] using hf
  exact ⟨some R[i],.some (List.getElem_mem hi) ((cmpL_zero _ _).1 h0),rfl,fun _ => ⟨hi,rfl⟩⟩
 | false =>
  refine ⟨none,.none fun e he hk => ?_,rfl,fun g => by cases g⟩
  exact BK.none_alike hp hs hf (ent e) (List.mem_map.2 ⟨e,he,rfl⟩) ((cmpL_zero _ _).2 hk.symm)
theorem Fnd.uniq (h : RsI x t S) {name : List UInt8} {o o' : Option Rm} (h1 : Fnd t.R name o) (h2 : Fnd t.R name o') : o = o' := by
 cases h1 with
 | some he hk =>
  cases h2 with
  | some he' hk' => rw [h.key_uniq he he' (hk.trans hk'.symm)]
  | none g => exact absurd hk (g _ he)
 | none g =>
  cases h2 with
  | some he' hk' => exact absurd hk' (g _ he')
  | none _ => rfl
theorem book_get (h : RsI x t S) (name : List UInt8) : ∃ o S',Fnd t.R name o ∧ book_Book_room_Room_Get.f (disp 2000 (n + 1)) H 2000 (some (HA.cell0 x.bk)) name S = some ((ptrOf o,o.isSome),S') ∧ Fr S.next S S' := by
 obtain ⟨i,S',hp,e1,f1⟩ := BK.get_spec (n := n) (H := H) (k := 2000) (Nat.le_refl _) h.book name
 obtain ⟨o,ho,g1,g2⟩ := found_ent hp h.book.srt
 refine ⟨o,S',ho,?_,f1⟩
 rw [e1,g1]
 cases hf : o with
 | none => rfl
 | some e =>
  have : BK.foundAt (t.R.map ent) name i = true := by rw [g1,hf]; rfl
  obtain ⟨hi,g3⟩ := g2 this
  rw [hf] at g3
  cases g3
  simp [hi,ent,ptrOf]
theorem rooms_get (h : RsI x t S) (name : List UInt8) : ∃ o S',Fnd t.R name o ∧ rooms_Rooms_Get.f (disp 2000 (n + 1)) H 2000 (some (HA.cell0 x.w)) name S = some ((ptrOf o,o.isSome),S') ∧ Fr S.next S S' := by
 obtain ⟨o,S',ho,e1,f1⟩ := book_get (n := n) (H := H) h name
 refine ⟨o,S',ho,?_,f1⟩
 rw [rooms_Rooms_Get.f,if_neg (by simp),obs,h.ldb,obs,e1,obs]
theorem rooms_len (h : RsI x t S) : rooms_Rooms_Len.f (some (HA.cell0 x.w)) S = some ((t.R.length : Int),S) := by
 rw [rooms_Rooms_Len.f,if_neg (by simp),obs,h.ldb,obs,BK.len_spec h.book,obs]
 simp
end
section
variable {x : W} {t : T} {S S' : HS}
theorem RsC.rel_step {n' : Nat} {E1' : List MA.En} {E2' : List MB.En} {L' : List Pr} (h : RsC x t S) (hr : RelI x.r x.m1 x.m2 n' x.mJ E1' E2' L' S') (ch : Chg (OR x.r x.m1 x.m2 t.E1 t.E2) (OR x.r x.m1 x.m2 E1' E2') S S') :
  RsC x { t with n := n',E1 := E1',E2 := E2',L := L' } S' ∧ Chg (OA x t) (OA x { t with n := n',E1 := E1',E2 := E2',L := L' }) S S' := by
 have hb : ∀ id,Own x.bk t.bs id → ¬ OR x.r x.m1 x.m2 E1' E2' id := fun id g g' => by
  rcases ch.own id g' with k | k
  ·exact h.dbr id g k
  ·have := h.book.lt g; omega
 have hw : ¬ OR x.r x.m1 x.m2 E1' E2' x.w := fun g' => by
  rcases ch.own _ g' with k | k
  ·exact h.dwr k
  ·have := h.hi; omega
 have hR : ∀ e ∈ t.R,∀ id,OwnR e id → ¬ OR x.r x.m1 x.m2 t.E1 t.E2 id := fun e he id g g' => h.dR e he id g (.inr (.inr g'))
 refine ⟨⟨(ch.eq _ h.hi h.dwr).trans h.cell,Nat.lt_of_lt_of_le h.hi ch.le,h.book.keep (fun id g => ch.eq id (h.book.lt g) (h.dbr id g)) ch.le,hr,fun e he => (h.rooms e he).keep (fun id g => ch.eq id ((h.rooms e he).lt g) (hR e he id g)) ch.le,h.dwb,hw,hb,h.pw,?_⟩,⟨ch.le,fun id g1 g2 => ch.eq id g1 (fun g => g2 (.inl (.inr (.inr g)))),?_⟩⟩
 ·rintro e he id g (g' | g' | g')
  ·exact h.dR e he id g (.inl g')
  ·exact h.dR e he id g (.inr (.inl g'))
  ·rcases ch.own id g' with k | k
   ·exact hR e he id g k
   ·have := (h.rooms e he).lt g; omega
 ·rintro id ((g | g | g) | g)
  ·exact .inl (.inl (.inl g))
  ·exact .inl (.inl (.inr (.inl g)))
  ·exact (ch.own id g).imp (fun g => .inl (.inr (.inr g))) (fun g => g)
  ·exact .inl (.inr g)
theorem RsC.room_step {A B : List Rm} {e e' : Rm} (h : RsC x t S) (hR : t.R = A ++ e :: B) (hr : RI e' S') (hp : e'.p = e.p) (hn : e'.name = e.name) (ch : Chg (OwnR e) (OwnR e') S S') :
  RsC x { t with R := A ++ e' :: B } S' ∧ Chg (OA x t) (OA x { t with R := A ++ e' :: B }) S S' := by
 have he : e ∈ t.R := by rw [hR]; simp
 have hB : ∀ id,OB x t id → id < S.next ∧ ¬ OwnR e id := fun id g => ⟨h.ltO (.inl g),fun g' => h.dR e he id g' g⟩
 have hkB : ∀ id,OB x t id → S'.heap id = S.heap id := fun id g => ch.eq id (hB id g).1 (hB id g).2
 have hpw := h.pw
 rw [hR,List.pairwise_append,List.pairwise_cons] at hpw
 obtain ⟨p1,⟨p2,p3⟩,p4⟩ := hpw
 have hoth : ∀ y,y ∈ A ∨ y ∈ B → ∀ id,OwnR y id → ¬ OwnR e id := fun y hy id g g' => by
  rcases hy with hy | hy
  ·exact p4 y hy e (by simp) id g g'
  ·exact p2 y hy id g' g
 have hmem : ∀ y,y ∈ A ∨ y ∈ B → y ∈ t.R := fun y hy => by rw [hR]; simp; rcases hy with hy | hy <;> simp [hy]
 have hnew : ∀ y,y ∈ A ∨ y ∈ B → ∀ id,OwnR y id → ¬ OwnR e' id := fun y hy id g g' => by
  rcases ch.own id g' with k | k
  ·exact hoth y hy id g k
  ·have := (h.rooms y (hmem y hy)).lt g; omega
 refine ⟨⟨(hkB _ (.inl rfl)).trans h.cell,Nat.lt_of_lt_of_le h.hi ch.le,?_,h.rel.keep (fun id g => hkB id (.inr (.inr g))) ch.le,?_,h.dwb,h.dwr,h.dbr,?_,?_⟩,⟨ch.le,fun id g1 g2 => ch.eq id g1 (fun g => g2 (.inr ⟨e,he,g⟩)),?_⟩⟩
 ·have : (A ++ e' :: B).map ent = t.R.map ent := by rw [hR]; simp [ent,hp,hn]
  show BK.BI x.bk t.bs x.mR ((A ++ e' :: B).map ent) S'
  rw [this]
  exact h.book.keep (fun id g => hkB id (.inr (.inl g))) ch.le
 ·intro y hy
  have hy : y ∈ A ++ e' :: B := hy
  simp only [List.mem_append,List.mem_cons] at hy
  have key : (y ∈ A ∨ y ∈ B) ∨ y = e' := by rcases hy with g | g | g <;> simp [g]
  rcases key with g | rfl
  ·exact (h.rooms y (hmem y g)).keep (fun id k => ch.eq id ((h.rooms y (hmem y g)).lt k) (hoth y g id k)) ch.le
  ·exact hr
 ·show (A ++ e' :: B).Pairwise _
  rw [List.pairwise_append,List.pairwise_cons]
  refine ⟨p1,⟨fun y hy id g g' => hnew y (.inr hy) id g' g,p3⟩,fun y hy z hz => ?_⟩
  rcases List.mem_cons.1 hz with rfl | hz
  ·exact hnew y (.inl hy)
  ·exact p4 y hy z (by simp [hz])
 ·intro y hy id g g'
  have hy : y ∈ A ++ e' :: B := hy
  simp only [List.mem_append,List.mem_cons] at hy
  have key : (y ∈ A ∨ y ∈ B) ∨ y = e' := by rcases hy with g | g | g <;> simp [g]
  rcases key with k | rfl
  ·exact h.dR y (hmem y k) id g g'
  ·rcases ch.own id g with k | k
   ·exact (hB id g').2 k
   ·have := (hB id g').1; omega
 ·rintro id (g | ⟨y,hy,g⟩)
  ·exact .inl (.inl g)
  ·have hy : y ∈ A ++ e' :: B := hy
   simp only [List.mem_append,List.mem_cons] at hy
   have key : (y ∈ A ∨ y ∈ B) ∨ y = e' := by rcases hy with g | g | g <;> simp [g]
   rcases key with k | rfl
   ·exact .inl (.inr ⟨y,hmem y k,g⟩)
   ·exact (ch.own id g).imp (fun g => .inr ⟨e,he,g⟩) (fun g => g)
theorem RsC.book_step {bs' : Sl} {R' : List Rm} (h : RsC x t S) (hb : BK.BI x.bk bs' x.mR (R'.map ent) S') (on : Only x.bk t.bs bs' S S') (hr : ∀ e ∈ R',RI e S) (hpw : R'.Pairwise fun a b => ∀ id,OwnR a id → ¬ OwnR b id) (hd : ∀ e ∈ R',∀ id,OwnR e id → ¬ OB x t id) :
  RsC x { t with bs := bs',R := R' } S' ∧ S.next ≤ S'.next ∧ (∀ id,id < S.next → ¬ OA x t id → S'.heap id = S.heap id) := by
 have hk : ∀ id,id < S.next → ¬ Own x.bk t.bs id → S'.heap id = S.heap id := on.eq
 have hw : ¬ Own x.bk bs' x.w := fun g => by
  rcases on.own _ g with k | k
  ·exact h.dwb k
  ·have := h.hi; omega
 refine ⟨⟨(hk _ h.hi h.dwb).trans h.cell,Nat.lt_of_lt_of_le h.hi on.le,hb,h.rel.keep (fun id g => hk id (h.rel.ltO g) (fun g' => h.dbr id g' g)) on.le,fun e he => (hr e he).keep (fun id g => hk id ((hr e he).lt g) (fun g' => hd e he id g (.inr (.inl g')))) on.le,hw,h.dwr,fun id g g' => ?_,hpw,?_⟩,on.le,fun id g1 g2 => hk id g1 (fun g => g2 (.inl (.inr (.inl g))))⟩
 ·rcases on.own id g with k | k
  ·exact h.dbr id k g'
  ·have := h.rel.ltO g'; omega
 ·rintro e he id g (g' | g' | g')
  ·exact hd e he id g (.inl g')
  ·rcases on.own id g' with k | k
   ·exact hd e he id g (.inr (.inl k))
   ·have := (hr e he).lt g; omega
  ·exact hd e he id g (.inr (.inr g'))
end
theorem nodup_sub {α : Type} [DecidableEq α] : ∀ (l m : List α),l.Nodup → (∀ x ∈ l,x ∈ m) → l.length ≤ m.length := by
 intro l
 induction l with
 | nil => intro m _ _; simp
 | cons x l ih =>
  intro m hn hs
  have hn' := List.nodup_cons.1 hn
  have h1 := ih (m.erase x) hn'.2 fun y hy => (List.mem_erase_of_ne (by rintro rfl; exact hn'.1 hy)).2 (hs y (by simp [hy]))
  have hx := hs x (by simp)
  rw [List.length_erase_of_mem hx] at h1
  have := List.length_pos_of_mem hx
  rw [List.length_cons]; omega
abbrev Ac := Int × Int × List UInt8
def actRow (a : Ac) : List HV := [.int .i64 a.1,.int .i64 a.2.1,.str a.2.2]
theorem srt_nodupS {xs : List KS.Ky} (h : KS.Srt xs) : xs.Nodup := h.imp fun {a b} h e => by subst e; rw [KS.klt_irrefl] at h; cases h
theorem new_rel {most : Int} (h0 : 0 ≤ most) (h1 : most ≤ 100000) (S : HS) : ∃ S',pair_New_int_string.f most S = some ((some (HA.cell0 (S.next + 2)),0),S') ∧ RelI (S.next + 2) S.next (S.next + 1) 0 most [] [] [] S' ∧ Fr S.next S S' ∧ S'.next = S.next + 3 ∧ (∀ id,OR (S.next + 2) S.next (S.next + 1) [] [] id → S.next ≤ id) := by
 rw [pair_New_int_string.f,if_neg (by omega),pair_New_int_string.J0,if_neg (by rw [decide_eq_false (by omega)]; simp),letv,letv,letv]
 have e1 : ((S.new (.map [])).new (.map [])).heap S.next = .map [] := by rw [new_old _ (by rw [new_next]; omega)]; exact new_here _ _
 have e2 : ((S.new (.map [])).new (.map [])).heap (S.next + 1) = .map [] := new_here (S.new _) _
 have n2 : ((S.new (.map [])).new (.map [])).next = S.next + 2 := rfl
 have f2 : Fr S.next S ((S.new (.map [])).new (.map [])) := (Fr.new (Nat.le_refl _) _).trans (Fr.new (by rw [new_next]; omega) _)
 rw [show (S.new (.map [])).next = S.next + 1 from rfl,n2]
 generalize (S.new (.map [])).new (.map []) = T at e1 e2 n2 f2 ⊢
 have f3 : Fr T.next T (T.new (.cells 4 [[.int .i64 most,.int .i64 0,.map (some S.next),.map (some (S.next + 1))]] true)) := Fr.new (Nat.le_refl _) _
 refine ⟨_,rfl,⟨by rw [← n2]; exact new_here _ _,⟨(f3.eq _ (by omega)).trans e1,List.Pairwise.nil,fun e h => (by cases h),List.Pairwise.nil,fun e h => (by cases h),by rw [new_next]; omega⟩,⟨(f3.eq _ (by omega)).trans e2,List.Pairwise.nil,fun e h => (by cases h),List.Pairwise.nil,fun e h => (by cases h),by rw [new_next]; omega⟩,fun id g1 g2 => ?_,fun g => ?_,fun g => ?_,by rw [new_next]; omega,fun a b => ⟨fun ⟨e,h,_⟩ => (by cases h),fun h => (by cases h)⟩,fun a b => ⟨fun ⟨e,h,_⟩ => (by cases h),fun h => (by cases h)⟩,fun e h => (by cases h),fun e h => (by cases h),fun e h => (by cases h),fun e h => (by cases h),List.nodup_nil,Nat.le_refl _,by omega⟩,f2.trans (f3.mono (by omega)),by rw [new_next]; omega,fun id g => ?_⟩
 ·rcases g1 with g1 | ⟨e,h,_⟩
  ·rcases g2 with g2 | ⟨e,h,_⟩
   ·omega
   ·cases h
  ·cases h
 ·rcases g with g | ⟨e,h,_⟩
  ·omega
  ·cases h
 ·rcases g with g | ⟨e,h,_⟩
  ·omega
  ·cases h
 ·rcases g with g | (g | ⟨e,h,_⟩) | (g | ⟨e,h,_⟩)
  ·omega
  ·omega
  ·cases h
  ·omega
  ·cases h
theorem link_add {A B : List Rm} {e e' : Rm} {L : List Pr} {id : Int} (h : ∀ a b,(a,b) ∈ L ↔ ∃ y ∈ A ++ e :: B,y.key = b ∧ a ∈ y.ids) (hk : e'.key = e.key) (hi : ∀ a,a ∈ e'.ids ↔ a ∈ e.ids ∨ a = id) :
  ∀ a b,(a,b) ∈ L ++ [(id,e.key)] ↔ ∃ y ∈ A ++ e' :: B,y.key = b ∧ a ∈ y.ids := by
 intro a b
 rw [List.mem_append,h]
 constructor
 ·rintro (⟨y,hy,h1,h2⟩ | g)
  ·simp only [List.mem_append,List.mem_cons] at hy
   rcases hy with g | rfl | g
   ·exact ⟨y,by simp [g],h1,h2⟩
   ·exact ⟨e',by simp,hk.trans h1,(hi a).2 (.inl h2)⟩
   ·exact ⟨y,by simp [g],h1,h2⟩
  ·simp only [List.mem_singleton,Prod.mk.injEq] at g
   exact ⟨e',by simp,hk.trans g.2.symm,(hi a).2 (.inr g.1)⟩
 ·rintro ⟨y,hy,h1,h2⟩
  simp only [List.mem_append,List.mem_cons] at hy
  rcases hy with g | rfl | g
  ·exact .inl ⟨y,by simp [g],h1,h2⟩
  ·rcases (hi a).1 h2 with g | rfl
   ·exact .inl ⟨e,by simp,hk.symm.trans h1,g⟩
   ·exact .inr (by simp [← h1,hk])
  ·exact .inl ⟨y,by simp [g],h1,h2⟩
theorem cnt_add {L : List Pr} {mJ : Int} {id : Int} {b : List UInt8} {xs : List KS.Ky} (h : ∀ a xs,KS.Srt xs → (∀ v,v ∈ xs ↔ (a,v) ∈ L) → (xs.length : Int) ≤ mJ) (hm : ∀ v,v ∈ xs ↔ (id,v) ∈ L) (hlt : (xs.length : Int) < mJ) :
  ∀ a ys,KS.Srt ys → (∀ v,v ∈ ys ↔ (a,v) ∈ L ++ [(id,b)]) → (ys.length : Int) ≤ mJ := by
 intro a ys hs hy
 by_cases ha : a = id
 ·subst ha
  have := nodup_sub ys (b :: xs) (srt_nodupS hs) (fun v hv => by
   have := (hy v).1 hv
   simp only [List.mem_append,List.mem_singleton,Prod.mk.injEq,true_and] at this
   rcases this with g | g
   ·exact List.mem_cons_of_mem _ ((hm v).2 g)
   ·rw [g]; simp)
  simp at this; omega
 ·refine h a ys hs fun v => ?_
  rw [hy]
  simp [ha]
section
variable {x : W} {t : T} {S : HS} {n : Nat} {H : Hd}
theorem RsI.mono {n' : Nat} {E1' : List MA.En} {E2' : List MB.En} {S' : HS} (h : RsI x t S) (hc : RsC x { t with n := n',E1 := E1',E2 := E2' } S') (hn : t.n ≤ n') : RsI x { t with n := n',E1 := E1',E2 := E2' } S' :=
 { hc with link := h.link,ne := h.ne,cm := fun e he => Nat.le_trans (h.cm e he) hn,cR := Nat.le_trans h.cR hn,mR0 := h.mR0,mR1 := h.mR1,mJ0 := h.mJ0,mJ1 := h.mJ1,cntR := h.cntR,cntJ := h.cntJ }
theorem ids_of_ins {e e' : Rm} {id : Int} {op : Bool} (h : ∃ i,e'.ms = e.ms.take i ++ [(id,op,false)] ++ e.ms.drop i) : (∀ a,a ∈ e'.ids ↔ a ∈ e.ids ∨ a = id) ∧ e'.ms.length = e.ms.length + 1 := by
 obtain ⟨i,h⟩ := h
 constructor
 ·intro a
  unfold Rm.ids
  rw [h]
  have : e.ms.map (·.1) = (e.ms.take i).map (·.1) ++ (e.ms.drop i).map (·.1) := by rw [← List.map_append,List.take_append_drop]
  rw [this]
  simp only [List.map_append,List.mem_append,List.map_cons,List.map_nil,List.mem_singleton]
  constructor
  ·rintro ((g | g) | g)
   ·exact .inl (.inl g)
   ·exact .inr g
   ·exact .inl (.inr g)
  ·rintro ((g | g) | g)
   ·exact .inl (.inl g)
   ·exact .inr g
   ·exact .inl (.inr g)
 ·rw [h]
  have := congrArg List.length (List.take_append_drop i e.ms)
  simp only [List.length_append,List.length_singleton] at this ⊢
  omega
theorem come {A B : List Rm} {e : Rm} {L0 : List Pr} {id : Int} {op : Bool} {xs : List KS.Ky} (hC : RsC x t S) (hR : t.R = A ++ e :: B) (hL : t.L = L0 ++ [(id,e.key)])
  (link0 : ∀ a b,(a,b) ∈ L0 ↔ ∃ y ∈ A ++ e :: B,y.key = b ∧ a ∈ y.ids) (hnot : id ∉ e.ids)
  (ne0 : ∀ y ∈ A ++ B,y.ms ≠ []) (cm0 : ∀ y ∈ t.R,y.ms.length + 1 ≤ t.n) (cR0 : t.R.length ≤ t.n) (hn : t.n ≤ 200)
  (mR0 : 0 ≤ x.mR) (mR1 : x.mR ≤ 1000) (mJ0 : 0 ≤ x.mJ) (mJ1 : x.mJ ≤ 1000) (cntR : (t.R.length : Int) ≤ x.mR)
  (cnt0 : ∀ a xs,KS.Srt xs → (∀ v,v ∈ xs ↔ (a,v) ∈ L0) → (xs.length : Int) ≤ x.mJ) (hxs : ∀ v,v ∈ xs ↔ (id,v) ∈ L0) (hlt : (xs.length : Int) < x.mJ) :
  ∃ e' S',room_Room_Add.f (disp 2000 (n + 1)) H 2000 (some (HA.cell0 e.p)) id op S = some ((),S') ∧ RsI x { t with R := A ++ e' :: B } S' ∧ e'.p = e.p ∧ e'.name = e.name ∧ (∃ i,e'.ms = e.ms.take i ++ [(id,op,false)] ++ e.ms.drop i) ∧ Chg (OA x t) (OA x { t with R := A ++ e' :: B }) S S' := by
 have he : e ∈ t.R := by rw [hR]; simp
 have hcm := cm0 e he
 obtain ⟨e',S',e1,h1,h2,h3,h4,h5⟩ := room_add (n := n) (H := H) (k := 2000) (Nat.le_refl _) (hC.rooms e he) id op hnot (by omega)
 obtain ⟨c1,c2⟩ := hC.room_step hR h1 h2 h3 h5
 obtain ⟨i1,i2⟩ := ids_of_ins h4
 have hk : e'.key = e.key := by unfold Rm.key; rw [h3]
 have hlen : (A ++ e' :: B).length = t.R.length := by rw [hR]; simp
 refine ⟨e',S',e1,{ c1 with link := ?_,ne := ?_,cm := ?_,cR := ?_,mR0 := mR0,mR1 := mR1,mJ0 := mJ0,mJ1 := mJ1,cntR := ?_,cntJ := ?_ },h2,h3,h4,c2⟩
 ·show ∀ a b,(a,b) ∈ t.L ↔ _
  rw [hL]
  exact link_add link0 hk i1
 ·intro y hy
  have hy : y ∈ A ++ e' :: B := hy
  simp only [List.mem_append,List.mem_cons] at hy
  rcases hy with g | rfl | g
  ·exact ne0 y (by simp [g])
  ·intro g; rw [g] at i2; simp at i2
  ·exact ne0 y (by simp [g])
 ·intro y hy
  have hy : y ∈ A ++ e' :: B := hy
  simp only [List.mem_append,List.mem_cons] at hy
  rcases hy with g | rfl | g
  ·have := cm0 y (by rw [hR]; simp [g]); show y.ms.length ≤ t.n; omega
  ·show y.ms.length ≤ t.n; omega
  ·have := cm0 y (by rw [hR]; simp [g]); show y.ms.length ≤ t.n; omega
 ·show (A ++ e' :: B).length ≤ t.n
  omega
 ·show ((A ++ e' :: B).length : Int) ≤ x.mR
  omega
 ·show ∀ a xs,KS.Srt xs → (∀ v,v ∈ xs ↔ (a,v) ∈ t.L) → _
  rw [hL]
  exact cnt_add cnt0 hxs hlt
end
section
variable {x : W} {t : T} {S : HS} {n : Nat} {H : Hd}
inductive JRes (x : W) (t : T) (id : Int) (name : List UInt8) : Option HA → Int → List Rm → List Pr → Prop
 | stay {e} (he : e ∈ t.R) (hk : e.key = name.map low) (hin : id ∈ e.ids) : JRes x t id name (some (HA.cell0 e.p)) 0 t.R t.L
 | full (hnot : (id,name.map low) ∉ t.L) (hf : (∀ xs,KS.Srt xs → (∀ v,v ∈ xs ↔ (id,v) ∈ t.L) → x.mJ ≤ (xs.length : Int)) ∨ (∀ e ∈ t.R,e.key ≠ name.map low) ∧ x.mR ≤ (t.R.length : Int)) : JRes x t id name none 405 t.R t.L
 | come {A B e e'} (hR : t.R = A ++ e :: B) (hk : e.key = name.map low) (hnot : id ∉ e.ids) (hp : e'.p = e.p) (hn : e'.name = e.name) (hms : ∃ i,e'.ms = e.ms.take i ++ [(id,false,false)] ++ e.ms.drop i)
   (hc : ∀ xs,KS.Srt xs → (∀ v,v ∈ xs ↔ (id,v) ∈ t.L) → (xs.length : Int) < x.mJ) : JRes x t id name (some (HA.cell0 e'.p)) 0 (A ++ e' :: B) (t.L ++ [(id,name.map low)])
 | new {i e'} (hno : ∀ e ∈ t.R,e.key ≠ name.map low) (hn : e'.name = name) (hms : e'.ms = [(id,true,false)]) (hl : (t.R.length : Int) < x.mR)
   (hc : ∀ xs,KS.Srt xs → (∀ v,v ∈ xs ↔ (id,v) ∈ t.L) → (xs.length : Int) < x.mJ) : JRes x t id name (some (HA.cell0 e'.p)) 0 (t.R.take i ++ e' :: t.R.drop i) (t.L ++ [(id,name.map low)])
def Joined (x : W) (t : T) (S : HS) (id : Int) (name : List UInt8) (r : Option (((Option HA) × Int) × HS)) : Prop :=
 ∃ q c t' S',r = some ((q,c),S') ∧ RsI x t' S' ∧ t'.n = t.n + 1 ∧ Chg (OA x t) (OA x t') S S' ∧ JRes x t id name q c t'.R t'.L
theorem Joined.pre {S1 : HS} {id : Int} {name : List UInt8} {r : Option (((Option HA) × Int) × HS)} (f : Fr S.next S S1) (h : Joined x t S1 id name r) : Joined x t S id name r := by
 obtain ⟨q,c,t',S',e,h1,h2,h3,h4⟩ := h
 exact ⟨q,c,t',S',e,h1,h2,(Chg.of_fr f).trans h3,h4⟩
theorem key_ids (h : RsI x t S) {e : Rm} (he : e ∈ t.R) (id : Int) : (id,e.key) ∈ t.L ↔ id ∈ e.ids := by
 rw [h.link]
 constructor
 ·rintro ⟨y,hy,h1,h2⟩
  rw [← h.key_uniq hy he h1]; exact h2
 ·intro g; exact ⟨e,he,rfl,g⟩
theorem join_there (h : RsI x t S) (hn : t.n + 1 ≤ 200) {e : Rm} (he : e ∈ t.R) (id : Int) (name : List UInt8) (hnot : id ∉ e.ids) (hkn : e.key = name.map low) :
  Joined x t S id name (rooms_Rooms_Join.J1 (disp 2000 (n + 1)) H 2000 (some (HA.cell0 x.w)) id name (some (HA.cell0 e.p)) true e.key S) := by
 obtain ⟨xs,k1,k2,k3,k4⟩ := h.rel.at1 id
 have hnL : (id,e.key) ∉ t.L := fun g => hnot ((key_ids h he id).1 g)
 obtain ⟨E1',E2',S2,e1,g1,g2⟩ := add_rel (k := 2000) (Nat.le_refl _) h.rel (by omega) id e.key k1 k2
 rw [if_neg hnL] at e1 g1
 obtain ⟨c1,c2⟩ := h.toRsC.rel_step g1 g2
 rw [rooms_Rooms_Join.J1,obs,h.ldr,obs,e1,obs]
 by_cases hf : x.mJ ≤ (xs.length : Int)
 ·rw [if_pos hf] at c1 c2 ⊢
  rw [if_pos (by rfl)]
  exact ⟨none,405,_,S2,rfl,h.mono c1 (Nat.le_succ _),rfl,c2,.full (hkn ▸ hnL) (.inl (fun ys k3 k4 => by rw [KS.srt_ext k3 k1 fun v => by rw [k4,k2]]; exact hf))⟩
 ·rw [if_neg hf] at c1 c2 ⊢
  rw [if_neg (by simp),if_neg (by simp),rooms_Rooms_Join.J2]
  obtain ⟨A,B,hR⟩ := List.append_of_mem he
  have hne := h.ne
  obtain ⟨e',S',e3,r1,r2,r3,r4,r5⟩ := come (n := n) (H := H) (t := { t with n := t.n + 1,E1 := E1',E2 := E2',L := t.L ++ [(id,e.key)] }) (A := A) (B := B) (e := e) (L0 := t.L) (id := id) (op := !true) (xs := xs) c1 hR rfl (by rw [← hR]; exact h.link) hnot (fun y hy => hne y (by rw [hR]; simp only [List.mem_append,List.mem_cons] at hy ⊢; rcases hy with g | g <;> simp [g])) (fun y hy => Nat.succ_le_succ (h.cm y hy)) (Nat.le_succ_of_le h.cR) hn h.mR0 h.mR1 h.mJ0 h.mJ1 h.cntR h.cntJ k2 (by omega)
  rw [e3,obs]
  refine ⟨_,0,_,S',rfl,r1,rfl,c2.trans r5,?_⟩
  have := JRes.come (x := x) (t := t) (id := id) (name := name) (e' := e') hR hkn hnot r2 r3 r4 (fun ys k3 k4 => by rw [KS.srt_ext k3 k1 fun v => by rw [k4,k2]]; omega)
  rw [← hkn,r2] at this
  exact this
theorem join_new (h : RsI x t S) (hn : t.n + 1 ≤ 200) (id : Int) (name : List UInt8) (hl : name.length ≤ 1000) (hno : ∀ e ∈ t.R,e.key ≠ name.map low) :
  Joined x t S id name (rooms_Rooms_Join.J0 (disp 2000 (n + 1)) H 2000 (some (HA.cell0 x.w)) id name none false (name.map low) false S) := by
 obtain ⟨e0,S1,e1,h1,hnm,hms,hfr,f1⟩ := room_new (k := 2000) (S := S) (Nat.le_refl _) name x.mB
 have hS1 := h.fr f1
 rw [rooms_Rooms_Join.J0,if_neg (by simp),if_pos (by rfl),obs,h.ldmB,obs,e1,obs,obs]
 simp only
 rw [hS1.ldb,obs,BK.len_spec hS1.book,obs,obs]
 simp only
 rw [hS1.ldmR,obs,obs,if_pos rfl,List.length_map]
 have hout : ∀ id,OwnR e0 id → ¬ OA x t id := fun i g g' => by have := h.ltO g'; have := hfr i g; omega
 have hnL : (id,name.map low) ∉ t.L := fun g => by
  obtain ⟨y,hy,g1,_⟩ := (h.link _ _).1 g
  exact hno y hy g1
 by_cases hfull : (t.R.length : Int) ≥ x.mR
 ·rw [if_pos hfull]
  refine Joined.pre f1 ?_
  exact ⟨none,405,{ t with n := t.n + 1 },S1,rfl,hS1.mono { hS1.toRsC with rel := hS1.rel.mono (Nat.le_succ _) (by show t.n + 1 ≤ 900; omega) } (Nat.le_succ _),rfl,Chg.refl _ _,.full hnL (.inr ⟨hno,hfull⟩)⟩
 rw [if_neg hfull]
 have hkey : e0.key = name.map low := by unfold Rm.key; rw [hnm]
 obtain ⟨xs,k1,k2,k3,k4⟩ := hS1.rel.at1 id
 obtain ⟨E1',E2',S2,e2,g1,g2⟩ := add_rel (k := 2000) (Nat.le_refl _) hS1.rel (by omega) id (name.map low) k1 k2
 rw [if_neg hnL] at e2 g1
 obtain ⟨c1,c2⟩ := hS1.toRsC.rel_step g1 g2
 rw [rooms_Rooms_Join.J1,obs,hS1.ldr,obs,e2,obs]
 by_cases hf : x.mJ ≤ (xs.length : Int)
 ·rw [if_pos hf] at c1 c2 ⊢
  rw [if_pos (by rfl)]
  refine Joined.pre f1 ?_
  exact ⟨none,405,_,S2,rfl,hS1.mono c1 (Nat.le_succ _),rfl,c2,.full hnL (.inl (fun ys k3 k4 => by rw [KS.srt_ext k3 k1 fun v => by rw [k4,k2]]; exact hf))⟩
 rw [if_neg hf] at c1 c2 ⊢
 rw [if_neg (by simp),if_pos (by rfl),obs]
 simp only
 rw [c1.ldb,obs]
 have hcR := h.cR
 obtain ⟨i,bs',S3,hp,e3,b1,on⟩ := BK.put_spec (n := n) (H := H) (k := 2000) (Nat.le_refl _) c1.book (by simp; omega) name (some (HA.cell0 e0.p)) hl
 have hnf : BK.foundAt (t.R.map ent) name i = false := by
  obtain ⟨o,ho,q1,q2⟩ := found_ent hp h.book.srt
  cases ho with
  | some hy hk => exact absurd hk (hno _ hy)
  | none _ => exact q1
 have hnf2 : ¬ (((t.R.map ent).length : Int) ≥ x.mR) := by simpa using hfull
 simp only [BK.putL,hnf,Bool.false_eq_true,if_false,if_neg hnf2] at b1
 have hmap : (t.R.map ent).take i ++ [(name,some (HA.cell0 e0.p))] ++ (t.R.map ent).drop i = (t.R.take i ++ e0 :: t.R.drop i).map ent := by
  simp [ent,hnm,List.map_take,List.map_drop]
 rw [hmap] at b1
 have hsub : ∀ y,y ∈ t.R.take i ++ e0 :: t.R.drop i → y ∈ t.R ∨ y = e0 := fun y hy => by
  simp only [List.mem_append,List.mem_cons] at hy
  rcases hy with g | g | g
  ·exact .inl (List.mem_of_mem_take g)
  ·exact .inr g
  ·exact .inl (List.mem_of_mem_drop g)
 have hri0 : RI e0 S2 := h1.keep (fun y g => g2.eq y (h1.lt g) (fun g' => hout y g (.inl (.inr (.inr g'))))) g2.le
 have hOB : ∀ y,OwnR e0 y → ¬ OB x { t with n := t.n + 1,E1 := E1',E2 := E2',L := t.L ++ [(id,name.map low)] } y := fun y g g' => by
  rcases c2.own y (.inl g') with k | k
  ·exact hout y g k
  ·have := h1.lt g; omega
 obtain ⟨d1,d2,d3⟩ := c1.book_step (R' := t.R.take i ++ e0 :: t.R.drop i) b1 on (fun y hy => by
   rcases hsub y hy with g | rfl
   ·exact c1.rooms y g
   ·exact hri0) (by
   have hpw := h.pw
   rw [← List.take_append_drop i t.R,List.pairwise_append] at hpw
   rw [List.pairwise_append,List.pairwise_cons]
   refine ⟨hpw.1,⟨fun y hy z g g' => hout z g (.inr ⟨y,List.mem_of_mem_drop hy,g'⟩),hpw.2.1⟩,fun y hy z hz => ?_⟩
   rcases List.mem_cons.1 hz with rfl | hz
   ·intro w g g'; exact hout w g' (.inr ⟨y,List.mem_of_mem_take hy,g⟩)
   ·exact hpw.2.2 y hy z hz) (fun y hy z g => by
   rcases hsub y hy with k | rfl
   ·exact c1.dR y k z g
   ·exact hOB z g)
 rw [e3,obs,rooms_Rooms_Join.J2]
 have hnil : e0.ids = [] := by unfold Rm.ids; rw [hms]; rfl
 have hlenR : (t.R.take i ++ e0 :: t.R.drop i).length = t.R.length + 1 := by
  have := congrArg List.length (List.take_append_drop i t.R)
  simp only [List.length_append,List.length_cons] at this ⊢; omega
 have hcm := h.cm
 obtain ⟨e',S',e5,r1,r2,r3,r4,r5⟩ := come (n := n) (H := H) (t := { t with bs := bs',n := t.n + 1,E1 := E1',E2 := E2',L := t.L ++ [(id,name.map low)],R := t.R.take i ++ e0 :: t.R.drop i }) (A := t.R.take i) (B := t.R.drop i) (e := e0) (L0 := t.L) (id := id) (op := !false) (xs := xs) d1 rfl (by rw [hkey]) (fun a b => by
   rw [h.link]
   constructor
   ·rintro ⟨y,hy,q1,q2⟩
    refine ⟨y,?_,q1,q2⟩
    rw [← List.take_append_drop i t.R] at hy
    simp only [List.mem_append,List.mem_cons] at hy ⊢
    rcases hy with g | g <;> simp [g]
   ·rintro ⟨y,hy,q1,q2⟩
    rcases hsub y hy with g | rfl
    ·exact ⟨y,g,q1,q2⟩
    ·rw [hnil] at q2; cases q2) (by rw [hnil]; simp) (fun y hy => h.ne y (by rw [List.take_append_drop] at hy; exact hy)) (fun y hy => by
   rcases hsub y hy with g | rfl
   ·exact Nat.succ_le_succ (h.cm y g)
   ·rw [hms]; exact Nat.succ_le_succ (Nat.zero_le _)) (by show (t.R.take i ++ e0 :: t.R.drop i).length ≤ t.n + 1; omega) hn h.mR0 h.mR1 h.mJ0 h.mJ1 (by show ((t.R.take i ++ e0 :: t.R.drop i).length : Int) ≤ x.mR; omega) h.cntJ k2 (by omega)
 rw [e5,obs]
 have hJ : JRes x t id name (some (HA.cell0 e'.p)) 0 (t.R.take i ++ e' :: t.R.drop i) (t.L ++ [(id,name.map low)]) := by
  refine .new hno (r3.trans hnm) ?_ (by omega) (fun ys k3 k4 => by rw [KS.srt_ext k3 k1 fun v => by rw [k4,k2]]; omega)
  obtain ⟨j,hj⟩ := r4
  rw [hj,hms]; simp
 refine ⟨_,0,_,S',rfl,r1,rfl,?_,by rw [r2] at hJ; exact hJ⟩
 have l2 := g2.le
 have hcase : ∀ y,OA x { t with bs := bs',n := t.n + 1,E1 := E1',E2 := E2',L := t.L ++ [(id,name.map low)],R := t.R.take i ++ e0 :: t.R.drop i } y → OA x t y ∨ S.next ≤ y := by
  rintro y ((g | g | g) | ⟨z,hz,g⟩)
  ·exact .inl (.inl (.inl g))
  ·rcases on.own y g with k | k
   ·exact .inl (.inl (.inr (.inl k)))
   ·exact .inr (by have := f1.le; omega)
  ·rcases g2.own y g with k | k
   ·exact .inl (.inl (.inr (.inr k)))
   ·exact .inr (by have := f1.le; omega)
  ·rcases hsub z hz with k | rfl
   ·exact .inl (.inr ⟨z,k,g⟩)
   ·exact .inr (hfr y g)
 have hcase1 : ∀ y,OA x { t with n := t.n + 1,E1 := E1',E2 := E2',L := t.L ++ [(id,name.map low)] } y → OA x t y ∨ S.next ≤ y := fun y g => (c2.own y g).imp (fun g => g) (fun g => by have := f1.le; omega)
 have l1 := f1.le
 have l5 := r5.le
 refine ⟨by omega,fun y q1 q2 => ?_,fun y g => ?_⟩
 ·rw [r5.eq y (by omega) (fun g => (hcase y g).elim q2 (fun g => by omega)),d3 y (by omega) (fun g => (hcase1 y g).elim q2 (fun g => by omega)),c2.eq y (by omega) q2,f1.eq y q1]
 ·rcases r5.own y g with k | k
  ·exact hcase y k
  ·exact .inr (by omega)
theorem join_spec (h : RsI x t S) (hn : t.n + 1 ≤ 200) (id : Int) (name : List UInt8) (hl : name.length ≤ 1000) : Joined x t S id name (rooms_Rooms_Join.f (disp 2000 (n + 1)) H 2000 (some (HA.cell0 x.w)) id name S) := by
 obtain ⟨o,S1,ho,e1,f1⟩ := book_get (n := n) (H := H) h name
 obtain ⟨S2,e2,f2⟩ := text_spec (k := 2000) (m := S1.next) (x := name) (S := S1) (by omega) (by omega) (Nat.le_refl _)
 have h2 := (h.fr f1).fr f2
 rw [rooms_Rooms_Join.f,if_neg (by simp),obs,h.ldb,obs,e1,obs,e2,obs]
 refine Joined.pre f1 (Joined.pre f2 ?_)
 cases ho with
 | @some e he hk =>
  rw [if_pos (by rfl),obs,h2.ldr,obs,has_rel (Nat.le_refl _) h2.rel,obs]
  simp only [← hk]
  by_cases hin : id ∈ e.ids
  ·rw [decide_eq_true ((key_ids h he id).2 hin),rooms_Rooms_Join.J0,if_pos rfl]
   exact ⟨_,0,{ t with n := t.n + 1 },S2,rfl,h2.mono { h2.toRsC with rel := h2.rel.mono (Nat.le_succ _) (by show t.n + 1 ≤ 900; omega) } (Nat.le_succ _),rfl,Chg.refl _ _,.stay he hk hin⟩
  ·rw [decide_eq_false (fun g => hin ((key_ids h he id).1 g)),rooms_Rooms_Join.J0,if_neg (by simp),if_neg (by simp)]
   exact join_there h2 hn he id name hin hk
 | none hno =>
  rw [if_neg (by simp)]
  exact join_new h2 hn id name hl hno
end
theorem mem_ids_drop {e : Rm} {id : Int} {i : Nat} (hs : MK.Srt e.ms) (hp : MK.PosOf e.ms id i) (hf : MK.foundAt e.ms id i = true) (a : Int) : a ∈ (e.ms.eraseIdx i).map (·.1) ↔ a ∈ e.ids ∧ a ≠ id := by
 obtain ⟨hi,h1⟩ := MK.found_at hf
 constructor
 ·intro g
  obtain ⟨m,hm,rfl⟩ := List.mem_map.1 g
  obtain ⟨g1,g2⟩ := MK.erase_away hs hf m hm
  exact ⟨List.mem_map.2 ⟨m,g1,rfl⟩,fun e => g2 ((MK.cmpI_zero _ _).2 e.symm)⟩
 ·rintro ⟨g,hne⟩
  obtain ⟨m,hm,rfl⟩ := List.mem_map.1 g
  obtain ⟨j,hj,rfl⟩ := List.getElem_of_mem hm
  refine List.mem_map.2 ⟨e.ms[j],?_,rfl⟩
  rw [List.mem_eraseIdx_iff_getElem]
  exact ⟨j,hj,fun e => hne (by subst e; exact h1),rfl⟩
section
variable {x : W} {t : T} {S : HS} {n : Nat} {H : Hd}
inductive PRes (t : T) (id : Int) (key : List UInt8) : List Rm → List Pr → Prop
 | none (h : (id,key) ∉ t.L) : PRes t id key t.R t.L
 | stay {A B e e'} (hR : t.R = A ++ e :: B) (hk : e.key = key) (hin : id ∈ e.ids) (hp : e'.p = e.p) (hn : e'.name = e.name) (hms : ∃ i,MK.PosOf e.ms id i ∧ MK.foundAt e.ms id i = true ∧ e'.ms = e.ms.eraseIdx i) (hne : e'.ms ≠ []) : PRes t id key (A ++ e' :: B) (wo (id,key) t.L)
 | gone {A B e} (hR : t.R = A ++ e :: B) (hk : e.key = key) (hin : id ∈ e.ids) (hms : e.ms.length = 1) : PRes t id key (A ++ B) (wo (id,key) t.L)
def Parted (x : W) (t : T) (S : HS) (id : Int) (key : List UInt8) (r : Option (Bool × HS)) : Prop :=
 ∃ t' S',r = some (decide ((id,key) ∈ t.L),S') ∧ RsI x t' S' ∧ t'.n = t.n ∧ Chg (OA x t) (OA x t') S S' ∧ PRes t id key t'.R t'.L
theorem Parted.pre {S1 : HS} {id : Int} {key : List UInt8} {r : Option (Bool × HS)} (f : Fr S.next S S1) (h : Parted x t S1 id key r) : Parted x t S id key r := by
 obtain ⟨t',S',e,h1,h2,h3,h4⟩ := h
 exact ⟨t',S',e,h1,h2,(Chg.of_fr f).trans h3,h4⟩
theorem part_spec (h : RsI x t S) (id : Int) (name : List UInt8) (hl : name.length ≤ 1000) : Parted x t S id (name.map low) (rooms_Rooms_Part.f (disp 2000 (n + 1)) H 2000 (some (HA.cell0 x.w)) id name S) := by
 obtain ⟨o,S1,ho,e1,f1⟩ := rooms_get (n := n) (H := H) h name
 have h1 := h.fr f1
 rw [rooms_Rooms_Part.f,e1,obs]
 cases ho with
 | none hno =>
  rw [if_pos (by rfl),rooms_Rooms_Part.J0,if_pos rfl]
  refine Parted.pre f1 ?_
  have hnL : (id,name.map low) ∉ t.L := fun g => by
   obtain ⟨y,hy,g1,_⟩ := (h.link _ _).1 g
   exact hno y hy g1
  rw [Parted,decide_eq_false hnL]
  exact ⟨t,S1,rfl,h1,rfl,Chg.refl _ _,.none hnL⟩
 | @some e he hk =>
  obtain ⟨S2,e2,f2⟩ := text_spec (k := 2000) (m := S1.next) (x := name) (S := S1) (by omega) (by omega) (Nat.le_refl _)
  have h2 := h1.fr f2
  rw [if_neg (by simp),obs]
  simp only
  rw [h1.ldr,obs,e2,obs]
  simp only
  rw [h2.ldr,obs,if_pos rfl]
  refine Parted.pre f1 (Parted.pre f2 ?_)
  obtain ⟨E1',E2',S3,e3,g1,g2⟩ := remove_rel (k := 2000) (Nat.le_refl _) h2.rel id (name.map low)
  obtain ⟨c1,c2⟩ := h2.toRsC.rel_step g1 g2
  rw [e3,obs,← hk]
  by_cases hin : id ∈ e.ids
  ·have hL : (id,e.key) ∈ t.L := (key_ids h he id).2 hin
   rw [Parted,decide_eq_true hL,rooms_Rooms_Part.J0,if_neg (by simp)]
   rw [← hk] at c1 c2
   obtain ⟨e',S4,e4,r1,r2,r3,⟨i,i1,i2,i3⟩,r5⟩ := room_drop (n := n) (H := H) (k := 2000) (Nat.le_refl _) (c1.rooms e he) id hin
   have hids : ∀ a,a ∈ e'.ids ↔ a ∈ e.ids ∧ a ≠ id := fun a => by
    show a ∈ e'.ms.map (·.1) ↔ _
    rw [i3]; exact mem_ids_drop (h.rooms e he).srt i1 i2 a
   have hi := MK.found_lt i2
   have hlen : e'.ms.length = e.ms.length - 1 := by rw [i3,List.length_eraseIdx,if_pos hi]
   obtain ⟨A,B,hR⟩ := List.append_of_mem he
   obtain ⟨d1,d2⟩ := c1.room_step (A := A) (B := B) hR r1 r2 r3 r5
   have hk' : e'.key = e.key := by unfold Rm.key; rw [r3]
   have hnd : ∀ y,y ∈ A ∨ y ∈ B → y ∈ t.R ∧ y.key ≠ e.key := fun y hy => by
    have hy' : y ∈ t.R := by rw [hR]; rcases hy with g | g <;> simp [g]
    refine ⟨hy',fun g => ?_⟩
    have hye := h.key_uniq hy' he g
    subst hye
    have hpw := h.pw
    rw [hR,List.pairwise_append,List.pairwise_cons] at hpw
    rcases hy with g | g
    ·exact hpw.2.2 y g y (by simp) y.p (.inl (.inl rfl)) (.inl (.inl rfl))
    ·exact hpw.2.1.1 y g y.p (.inl (.inl rfl)) (.inl (.inl rfl))
   have link' : ∀ a b,(a,b) ∈ wo (id,e.key) t.L ↔ ∃ y ∈ A ++ e' :: B,y.key = b ∧ a ∈ y.ids := by
    intro a b
    rw [wo_mem,h.link,hR]
    constructor
    ·rintro ⟨⟨y,hy,q1,q2⟩,q3⟩
     simp only [List.mem_append,List.mem_cons] at hy
     rcases hy with g | rfl | g
     ·exact ⟨y,by simp [g],q1,q2⟩
     ·exact ⟨e',by simp,hk'.trans q1,(hids a).2 ⟨q2,fun g => q3 (by rw [g,q1])⟩⟩
     ·exact ⟨y,by simp [g],q1,q2⟩
    ·rintro ⟨y,hy,q1,q2⟩
     simp only [List.mem_append,List.mem_cons] at hy
     have key : (y ∈ A ∨ y ∈ B) ∨ y = e' := by rcases hy with g | g | g <;> simp [g]
     rcases key with g | rfl
     ·refine ⟨⟨y,by rcases g with g | g <;> simp [g],q1,q2⟩,fun g' => ?_⟩
      simp only [Prod.mk.injEq] at g'
      exact (hnd y g).2 (q1.trans g'.2)
     ·obtain ⟨q3,q4⟩ := (hids a).1 q2
      refine ⟨⟨e,by simp,hk'.symm.trans q1,q3⟩,fun g' => ?_⟩
      simp only [Prod.mk.injEq] at g'
      exact q4 g'.1
   have cnt' : ∀ a xs,KS.Srt xs → (∀ v,v ∈ xs ↔ (a,v) ∈ wo (id,e.key) t.L) → (xs.length : Int) ≤ x.mJ := fun a xs hs hm => by
    obtain ⟨ys,k1,k2,_,_⟩ := h.rel.at1 a
    have := h.cntJ a ys k1 k2
    have := nodup_sub xs ys (srt_nodupS hs) (fun v hv => (k2 v).2 (wo_mem.1 ((hm v).1 hv)).1)
    omega
   have hcm : ∀ y ∈ A ++ e' :: B,y.ms.length ≤ t.n := fun y hy => by
    simp only [List.mem_append,List.mem_cons] at hy
    rcases hy with g | rfl | g
    ·exact h.cm y (hnd y (.inl g)).1
    ·have := h.cm e he; omega
    ·exact h.cm y (hnd y (.inr g)).1
   have hRl : (A ++ e' :: B).length = t.R.length := by rw [hR]; simp
   have hcR := h.cR
   have hcntR := h.cntR
   have hptr : ptrOf (some e) = some (HA.cell0 e.p) := rfl
   rw [hptr,e4,obs]
   simp only
   rw [show some (HA.cell0 e.p) = some (HA.cell0 e'.p) by rw [r2],room_len r1,obs]
   simp only
   by_cases hz : (e'.ms.length : Int) = 0
   ·rw [if_pos hz,obs,d1.ldb,obs]
    obtain ⟨j,bs',S5,hp,e5,b1,on⟩ := BK.delete_spec (n := n) (H := H) (k := 2000) (Nat.le_refl _) d1.book name
    have hp : BK.PosOf ((A ++ e' :: B).map ent) name j := hp
    have hsrt : BK.Srt ((A ++ e' :: B).map ent) := d1.book.srt
    obtain ⟨o,ho,q1,q2⟩ := found_ent hp hsrt
    have hfj : BK.foundAt ((A ++ e' :: B).map ent) name j = true := by
     cases hb : BK.foundAt ((A ++ e' :: B).map ent) name j with
     | true => rfl
     | false => exact absurd ((cmpL_zero _ _).2 (hk'.trans hk).symm) (BK.none_alike hp hsrt hb (ent e') (List.mem_map.2 ⟨e',by simp,rfl⟩))
    obtain ⟨hj,q3⟩ := q2 hfj
    rw [q3] at ho
    have hjk : (A ++ e' :: B)[j].key = name.map low := by cases ho with | some _ g => exact g
    have hjA : j = A.length := by
     rcases Nat.lt_trichotomy j A.length with g | g | g
     ·rw [List.getElem_append_left g] at hjk
      exact absurd (hjk.trans hk.symm) (hnd _ (.inl (List.getElem_mem g))).2
     ·exact g
     ·have hjB : (A ++ e' :: B)[j] ∈ B := by
       rw [List.getElem_append_right (by omega),List.getElem_cons,dif_neg (by omega)]
       exact List.getElem_mem _
      exact absurd (hjk.trans hk.symm) (hnd _ (.inr hjB)).2
    have herase : ((A ++ e' :: B).map ent).eraseIdx j = (A ++ B).map ent := by
     rw [hjA,← Go.ChangeMaps.map_eraseIdx]
     congr 1
     rw [List.eraseIdx_append_of_length_le (Nat.le_refl _)]
     simp
    have b1 : BK.BI x.bk bs' x.mR ((A ++ B).map ent) S5 := by
     have : BK.BI x.bk bs' x.mR (if BK.foundAt ((A ++ e' :: B).map ent) name j = true then ((A ++ e' :: B).map ent).eraseIdx j else (A ++ e' :: B).map ent) S5 := b1
     rw [if_pos hfj,herase] at this
     exact this
    have hsub : ∀ y ∈ A ++ B,y ∈ A ++ e' :: B := fun y hy => by
     simp only [List.mem_append,List.mem_cons] at hy ⊢
     rcases hy with g | g <;> simp [g]
    have hms : e'.ms = [] := List.length_eq_zero_iff.1 (by omega)
    obtain ⟨k1,k2,k3⟩ := d1.book_step (R' := A ++ B) b1 on (fun y hy => d1.rooms y (hsub y hy)) (by
     have hpw : (A ++ e' :: B).Pairwise fun a b => ∀ id,OwnR a id → ¬ OwnR b id := d1.pw
     exact hpw.sublist (List.Sublist.append (List.Sublist.refl _) (List.sublist_cons_self _ _))) (fun y hy => d1.dR y (hsub y hy))
    rw [e5,obs,rooms_Rooms_Part.J1]
    have ch2 : Chg (OA x { t with n := t.n,E1 := E1',E2 := E2',L := wo (id,e.key) t.L,R := A ++ e' :: B }) (OA x { t with n := t.n,E1 := E1',E2 := E2',L := wo (id,e.key) t.L,bs := bs',R := A ++ B }) S4 S5 := by
     refine ⟨k2,k3,?_⟩
     rintro y ((g | g | g) | ⟨z,hz,g⟩)
     ·exact .inl (.inl (.inl g))
     ·exact (on.own y g).imp (fun g => .inl (.inr (.inl g))) (fun g => g)
     ·exact .inl (.inl (.inr (.inr g)))
     ·exact .inl (.inr ⟨z,hsub z hz,g⟩)
    have hAB : (A ++ B).length + 1 = (A ++ e' :: B).length := by simp; omega
    refine ⟨_,S5,rfl,{ k1 with link := ?_,ne := ?_,cm := fun y hy => hcm y (hsub y hy),cR := ?_,mR0 := h.mR0,mR1 := h.mR1,mJ0 := h.mJ0,mJ1 := h.mJ1,cntR := ?_,cntJ := cnt' },rfl,(c2.trans d2).trans ch2,.gone hR rfl hin (by omega)⟩
    ·intro a b
     refine (link' a b).trans ⟨?_,fun ⟨y,hy,q⟩ => ⟨y,hsub y hy,q⟩⟩
     rintro ⟨y,hy,w1,w2⟩
     simp only [List.mem_append,List.mem_cons] at hy
     rcases hy with g | rfl | g
     ·exact ⟨y,by show y ∈ A ++ B; simp [g],w1,w2⟩
     ·unfold Rm.ids at w2; rw [hms] at w2; cases w2
     ·exact ⟨y,by show y ∈ A ++ B; simp [g],w1,w2⟩
    ·intro y hy
     have hy : y ∈ A ++ B := hy
     rcases List.mem_append.1 hy with g | g
     ·exact h.ne y (hnd y (.inl g)).1
     ·exact h.ne y (hnd y (.inr g)).1
    ·show (A ++ B).length ≤ t.n
     omega
    ·show ((A ++ B).length : Int) ≤ x.mR
     omega
   ·rw [if_neg hz,rooms_Rooms_Part.J1]
    refine ⟨_,S4,rfl,{ d1 with link := link',ne := ?_,cm := hcm,cR := ?_,mR0 := h.mR0,mR1 := h.mR1,mJ0 := h.mJ0,mJ1 := h.mJ1,cntR := ?_,cntJ := cnt' },rfl,c2.trans d2,.stay hR rfl hin r2 r3 ⟨i,i1,i2,i3⟩ (fun g => hz (by rw [g]; rfl))⟩
    ·intro y hy
     have hy : y ∈ A ++ e' :: B := hy
     simp only [List.mem_append,List.mem_cons] at hy
     rcases hy with g | rfl | g
     ·exact h.ne y (hnd y (.inl g)).1
     ·intro g; rw [g] at hz; exact hz rfl
     ·exact h.ne y (hnd y (.inr g)).1
    ·show (A ++ e' :: B).length ≤ t.n
     omega
    ·show ((A ++ e' :: B).length : Int) ≤ x.mR
     omega
  ·have hnL : (id,e.key) ∉ t.L := fun g => hin ((key_ids h he id).1 g)
   rw [Parted,decide_eq_false hnL,rooms_Rooms_Part.J0,if_pos (by rfl)]
   rw [← hk,wo_no hnL] at c1 c2
   exact ⟨_,S3,rfl,h2.mono c1 (Nat.le_refl _),rfl,c2,.none hnL⟩
end
namespace PK
abbrev Ky := Option HA
def row1 (k : Ky) : List HV := [.ptr k]
theorem ldK_at {S : HS} {s : Sl} {xs : List Ky} (h : S.rows s 1 = some (xs.map row1)) {i : Nat} (hi : i < xs.length) : ∃ ad,S.idx s (i : Int) 1 = some ad ∧ S.ldP ad = some xs[i] := by
 obtain ⟨ad,h1,h2⟩ := get_at h (i := i) (v := .ptr xs[i]) (by simpa using hi) (by rw [List.getElem_map]; rfl)
 exact ⟨ad,h1,by rw [HS.ldP,h2]; rfl⟩
theorem of_tells {k n c : Nat} {B : HS} {s : Sl} {xs : List Ky} (hk : xs.length < k) (hx : xs.length ≤ 1000000) (hc : B.heap c = .cells 1 [[s.hv]] true) (hr : B.rows s 1 = some (xs.map row1)) (K : Nat → Prop) (hK : K c ∧ ∀ q,s.a = some q → K q.1) :
  Tells (disp k (n + 2)) (.fn (.func 63) [] [.ptr (some (HA.cell0 c))]) (xs.map row1) K B := by
 intro H l I Stop ht O S hI hB
 have hlen : (xs.map row1).length = xs.length := by simp
 have hcS : S.heap c = .cells 1 [[s.hv]] true := (hB c hK.1).1.trans hc
 have hrS : S.rows s 1 = some (xs.map row1) := rows_keep hr fun q hq => (hB q.1 (hK.2 q hq)).1
 have hloop : ∀ f i O1 T,xs.length - i < f → i ≤ xs.length → I i O1 T → S.next ≤ T.next → (∀ id,id < S.next → ¬ O id → T.heap id = S.heap id) → (∀ id,O1 id → O id ∨ S.next ≤ id) →
   ∃ S' O',rooms_Rooms_Of_1.L0 (disp k (n + 1)) H k f (.fn (.yield l) [] []) s (xs.length : Int) (i : Int) T = some ((),S') ∧ S.next ≤ S'.next ∧ (∀ id,id < S.next → ¬ O id → S'.heap id = S.heap id) ∧ (∀ id,O' id → O id ∨ S.next ≤ id) ∧ (I xs.length O' S' ∨ Stop O' S') := by
  intro f
  induction f with
  | zero => intro i O1 T h; omega
  | succ f ih =>
   intro i O1 T hf hi hIT hn hk2 hO
   rw [rooms_Rooms_Of_1.L0]
   by_cases hlt : i < xs.length
   ·have hrT : T.rows s 1 = some (xs.map row1) := rows_keep hrS fun q hq => hk2 q.1 (hB q.1 (hK.2 q hq)).2.2 (hB q.1 (hK.2 q hq)).2.1
    obtain ⟨ad,a1,a2⟩ := ldK_at hrT hlt
    obtain ⟨b,T2,O2,e2,n2,k2,o2,g1,g2⟩ := ht.step i (by omega) O1 T hIT
    have he : disp k (n + 1) H (.fn (.yield l) [] []) [.ptr xs[i]] T = some (.bool b,T2) := by
     rw [disp_yield,← e2,List.getElem_map]; rfl
    have hk3 : ∀ id,id < S.next → ¬ O id → T2.heap id = S.heap id := fun id h1 h2 => (k2 id (by omega) (fun ho => (hO id ho).elim h2 (fun h => by omega))).trans (hk2 id h1 h2)
    have hO3 : ∀ id,O2 id → O id ∨ S.next ≤ id := fun id h => (o2 id h).elim (hO id) (fun h => .inr (by omega))
    rw [if_pos (by omega),a1,obs,a2,obs,he,obs]
    simp only [dB,obs]
    cases b with
    | false => exact ⟨T2,O2,rfl,by omega,hk3,hO3,.inr (g2 rfl)⟩
    | true =>
     rw [if_neg (by simp),w64_id (by omega) (by omega),show ((i : Int) + 1) = ((i + 1 : Nat) : Int) by simp]
     exact ih (i + 1) O2 T2 (by omega) (by omega) (g1 rfl) (by omega) hk3 hO3
   ·obtain rfl : i = xs.length := by omega
    rw [if_neg (by omega)]
    exact ⟨T,O1,rfl,hn,hk2,hO,.inl hIT⟩
 obtain ⟨S',O',e,h1,h2,h3,h4⟩ := hloop k 0 O S (by omega) (Nat.zero_le _) hI (Nat.le_refl _) (fun _ _ _ => rfl) (fun _ h => .inl h)
 refine ⟨S',O',?_,h1,h2,h3,by rw [hlen]; exact h4⟩
 rw [disp_func]
 have hsl : (s.len : Int) = xs.length := by rw [← rows_len hrS]; simp
 have e' : call_63 (disp k (n + 1)) H k ([] ++ [HV.fn (.yield l) [] []] ++ [.ptr (some (HA.cell0 c))]) S = some (.tup [],S') := by
  rw [call_63]
  simp only [List.nil_append,List.cons_append,args2,obs,dF,dP]
  rw [rooms_Rooms_Of_1.f,obs,ldSl_cell hcS,obs,hsl]
  erw [e]
  rfl
 repeat rw [if_neg (by decide)]
 rw [if_pos rfl,e']
theorem app1_spec {n : Nat} {S : HS} {s : Sl} {xs : List Ky} (t : Ky) (h : Vec n S 1 s (xs.map row1)) (hn : n ≤ S.next) (hl : xs.length < 1000000) :
  ∃ s' S',HS.app (S.lit [[.ptr t]] 1).2 s [[.ptr t]] 1 = some (s',S') ∧ (S.lit [[.ptr t]] 1).2.rows (S.lit [[.ptr t]] 1).1 1 = some [[.ptr t]] ∧ Vec n S' 1 s' ((xs ++ [t]).map row1) ∧ Fr n S S' ∧ (∀ id,id < S.next → (∀ q,s.a = some q → q.1 ≠ id) → S'.heap id = S.heap id) ∧ (∀ q,s'.a = some q → S.next ≤ q.1 ∨ ∃ q0,s.a = some q0 ∧ q0.1 = q.1) := by
 have fl : Fr S.next S (S.lit [[.ptr t]] 1).2 := lit_fr _ (Nat.le_refl _)
 have nl : (S.lit [[.ptr t]] 1).2.next = S.next + 1 := rfl
 obtain ⟨s',S',e1,v1,f1,k1,q1⟩ := (h.frame fl (Nat.le_refl _)).app2 (new := [[.ptr t]]) (by omega) (by simp; omega)
 refine ⟨s',S',e1,(Vec.lit (n := 0) (z := 1) (S := S) _ (Nat.zero_le _)).rows,by rw [List.map_append]; exact v1,(fl.mono hn).trans f1,fun id h1 h2 => (k1 id (by omega) h2).trans (fl.eq id h1),fun q hq => ?_⟩
 rcases q1 q hq with g | g
 ·exact .inl (by omega)
 ·exact .inr g
end PK
def ofKey (R : List Rm) (key : List UInt8) : PK.Ky := ptrOf (R.find? fun e => decide (e.key = key))
theorem ofKey_at {x : W} {t : T} {S : HS} (h : RsI x t S) {e : Rm} (he : e ∈ t.R) : ofKey t.R e.key = some (HA.cell0 e.p) := by
 unfold ofKey
 cases hf : t.R.find? fun y => decide (y.key = e.key) with
 | none => exact absurd ((List.find?_eq_none.1 hf) e he) (by simp)
 | some y =>
  have h1 := List.find?_some hf
  have h2 := List.mem_of_find?_eq_some hf
  rw [h.key_uniq h2 he (by simpa using h1)]; rfl
def Og (b : Nat) (so : Sl) (id : Nat) : Prop := (b ≤ id ∧ id < b + 2) ∨ ∃ q,so.a = some q ∧ q.1 = id
structure Gt (b w : Nat) (ys : List PK.Ky) (i : Nat) (so : Sl) (S : HS) : Prop where
 c0 : S.heap b = .cells 1 [[.ptr (some (HA.cell0 w))]] true
 co : S.heap (b + 1) = .cells 1 [[so.hv]] true
 vec : Vec (b + 2) S 1 so ((ys.take i).map PK.row1)
 nx : b + 2 ≤ S.next
theorem Gt.keep {b w : Nat} {ys : List PK.Ky} {i : Nat} {so : Sl} {S S' : HS} (h : Gt b w ys i so S) (hk : ∀ id,Og b so id → S'.heap id = S.heap id) (hn : S.next ≤ S'.next) : Gt b w ys i so S' :=
 ⟨(hk _ (.inl ⟨by omega,by omega⟩)).trans h.c0,(hk _ (.inl ⟨by omega,by omega⟩)).trans h.co,vec_keep h.vec (fun q hq => hk _ (.inr ⟨q,hq,rfl⟩)) hn,Nat.le_trans h.nx hn⟩
theorem Gt.lt {b w : Nat} {ys : List PK.Ky} {i : Nat} {so : Sl} {S : HS} (h : Gt b w ys i so S) {x : Nat} (ho : Og b so x) : x < S.next := by
 have := h.nx
 rcases ho with g | ⟨q,g,rfl⟩
 ·omega
 ·exact (h.vec.lo q g).2
theorem key_map {s : List UInt8} (h : ∃ n : List UInt8,s = n.map low) : s.map low = s := by
 obtain ⟨n,rfl⟩ := h
 rw [List.map_map]
 exact List.map_congr_left fun b _ => low_low b
theorem of_spec {x : W} {t : T} {S : HS} {nD : Nat} {H : Hd} (h : RsI x t S) (hn : t.n ≤ 200) (id : Int) {xs : List KS.Ky} (hs : KS.Srt xs) (hm : ∀ v,v ∈ xs ↔ (id,v) ∈ t.L) :
  ∃ c so S',rooms_Rooms_Of.f (disp 2000 (nD + 2)) H 2000 (some (HA.cell0 x.w)) id S = some (.fn (.func 63) [] [.ptr (some (HA.cell0 c))],S') ∧ S'.heap c = .cells 1 [[so.hv]] true ∧ S'.rows so 1 = some ((xs.map (ofKey t.R)).map PK.row1) ∧ (S.next ≤ c ∧ c < S'.next) ∧ (∀ q,so.a = some q → S.next ≤ q.1 ∧ q.1 < S'.next) ∧ Fr S.next S S' := by
 have hxl : xs.length ≤ 900 := by
  obtain ⟨ys,h1,h2,h3,_⟩ := h.rel.at1 id
  have : ys = xs := KS.srt_ext h1 hs fun v => by rw [h2,hm]
  subst this
  omega
 rw [rooms_Rooms_Of.f,letv,letv]
 simp only [new_next]
 have n3 : ((S.new (.cells 1 [[.ptr (some (HA.cell0 x.w))]] true)).new (.cells 1 [[Sl.nil.hv]] true)).next = S.next + 2 := rfl
 have f3 : Fr S.next S ((S.new (.cells 1 [[.ptr (some (HA.cell0 x.w))]] true)).new (.cells 1 [[Sl.nil.hv]] true)) := (Fr.new (Nat.le_refl _) _).trans (Fr.new (by simp only [new_next]; omega) _)
 have c0 : ((S.new (.cells 1 [[.ptr (some (HA.cell0 x.w))]] true)).new (.cells 1 [[Sl.nil.hv]] true)).heap S.next = .cells 1 [[.ptr (some (HA.cell0 x.w))]] true := by
  rw [new_old _ (by simp only [new_next]; omega)]; exact new_here _ _
 have c1 : ((S.new (.cells 1 [[.ptr (some (HA.cell0 x.w))]] true)).new (.cells 1 [[Sl.nil.hv]] true)).heap (S.next + 1) = .cells 1 [[Sl.nil.hv]] true := new_here (S.new _) _
 generalize (S.new (.cells 1 [[.ptr (some (HA.cell0 x.w))]] true)).new (.cells 1 [[Sl.nil.hv]] true) = T at n3 f3 c0 c1 ⊢
 have hT := h.fr f3
 rw [ldP_cell c0,obs,if_pos (by simp),obs,obs,hT.ldr,obs]
 obtain ⟨fn,u,v,S1,K,e1,hTl,hK,f1⟩ := of_rel (nD := nD) hT.rel id hs hm
 have l1 := f1.le
 have h1 := hT.fr f1
 rw [e1,obs]
 have hlen : (xs.map KS.row1).length = xs.length := by simp
 have hI0 : Gt S.next x.w (xs.map (ofKey t.R)) 0 Sl.nil S1 := ⟨(f1.eq _ (by omega)).trans c0,(f1.eq _ (by omega)).trans c1,by rw [List.take_zero]; exact .nil,by omega⟩
 have hOS : ∀ i,OA x t i → i < S.next := fun i ho => h.ltO ho
 obtain ⟨T2,st,S',O',e2,e3,de,n5,ch,lt,hnn,hs'⟩ := range_tells (D := disp 2000 (nD + 2)) (H := H) (fv := .fn fn u v) (S := S1) (hd := fun vs T =>
   Option.bind (HS.lp T (S1.next + 1)) fun _ => Option.bind (args1 vs) fun ar => Option.bind (dS ar) fun p => rooms_Rooms_Of.J0 (disp 2000 (nD + 2)) H 2000 (S1.next + 1) (some (HA.cell0 S.next)) (some (HA.cell0 (S.next + 1))) p T)
  (bd := fun i U => if h : i < xs.length then
    Option.bind (U.ldP (HA.cell0 S.next)) fun p11 => Option.bind p11 fun p12 => Option.bind (U.ldP (HA.fld p12 15)) fun p13 => Option.bind (book_Book_room_Room_Get.f (disp 2000 (nD + 2)) H 2000 p13 xs[i] U) fun p14 => Option.bind (HS.ldSl p14.2 (HA.cell0 (S.next + 1))) fun p16 =>
    letv (HS.lit p14.2 [[(.ptr p14.1.1)]] 1) fun p17 => Option.bind (HS.rows p17.2 p17.1 1) fun p18 => Option.bind (HS.app p17.2 p16 p18 1) fun p19 => Option.bind (HS.sets p19.2 (HA.cell0 (S.next + 1)) [p19.1.hv]) fun p21 => HS.endr p21 (S1.next + 1) none else none)
  hTl (fun i h => (hK i h).2) (fun i O U => ∃ so,Gt S.next x.w (xs.map (ofKey t.R)) i so U ∧ (∀ y,OA x t y → U.heap y = S.heap y) ∧ ∀ y,O y ↔ (Og S.next so y ∨ OA x t y)) (fun _ _ _ => False)
  (fun i O U U' ⟨so,h1,h2,h3⟩ hk hn => ⟨so,h1.keep (fun y ho => hk y ((h3 y).2 (.inl ho))) hn,fun y ho => (hk y ((h3 y).2 (.inr ho))).trans (h2 y ho),h3⟩) (fun _ _ _ _ h => h.elim)
  (fun y => Og S.next Sl.nil y ∨ OA x t y) (fun y ho => by
   rcases ho with (g | ⟨q,g,_⟩) | g
   ·omega
   ·cases g
   ·have := hOS y g; omega) ⟨Sl.nil,hI0,fun y ho => (f1.eq y (by have := hOS y ho; omega)).trans (f3.eq y (hOS y ho)),fun _ => Iff.rfl⟩ (fun y ho hk => by
   have := hK y hk
   rcases ho with (g | ⟨q,g,_⟩) | g
   ·omega
   ·cases g
   ·have := hOS y g; omega)
  (fun i hi U hU => by
   have hi' : i < xs.length := by simpa using hi
   rw [lp_at hU,obs,List.getElem_map,show args1 (KS.row1 xs[i]) = some (KS.kv xs[i]) from rfl,obs,show dS (KS.kv xs[i]) = some xs[i] from rfl,obs,rooms_Rooms_Of.J0,begin_at hU,obs,obs,dif_pos hi']
   rfl)
  (fun i hi O1 U ⟨so,g1,g2',g3⟩ hnu hl hno hlt => by
   have g2 : RsI x t U := h.keep g2' (by have := g1.nx; omega)
   have hi' : i < xs.length := by simpa using hi
   have hnx0 := g1.nx
   have hmem : (id,xs[i]) ∈ t.L := (hm _).1 (List.getElem_mem hi')
   obtain ⟨e,he,hk1,hk2⟩ := (h.link _ _).1 hmem
   obtain ⟨o,U1,ho,eg,fg⟩ := book_get (n := nD + 1) (H := H) g2 xs[i]
   have hoe : o = some e := Fnd.uniq g2 ho (.some he (by rw [key_map ⟨e.name,hk1.symm⟩]; exact hk1))
   subst hoe
   have hptr : ptrOf (some e) = ofKey t.R xs[i] := by rw [← hk1,ofKey_at h he]; rfl
   have lg := fg.le
   have g1 : Gt S.next x.w (xs.map (ofKey t.R)) i so U1 := g1.keep (fun y ho => fg.eq y (g1.lt ho)) lg
   have hnx := g1.nx
   have hso : ∀ q,so.a = some q → S.next + 2 ≤ q.1 ∧ q.1 < U.next := fun q hq => ⟨(g1.vec.lo q hq).1,hlt q.1 ((g3 _).2 (.inl (.inr ⟨q,hq,rfl⟩)))⟩
   rw [dif_pos hi',ldP_cell ((fg.eq _ (by omega)).symm.trans g1.c0),obs,obs,g2.ldb,obs,eg,obs]
   simp only
   rw [ldSl_cell g1.co,obs,hptr]
   obtain ⟨so',T3,e3,lr,v3,f3,k3,q3⟩ := PK.app1_spec (n := S.next + 2) (xs := (xs.map (ofKey t.R)).take i) (ofKey t.R xs[i]) g1.vec hnx (by simp; omega)
   have l3 := f3.le
   have e : (xs.map (ofKey t.R)).take (i + 1) = (xs.map (ofKey t.R)).take i ++ [ofKey t.R xs[i]] := by
    rw [List.take_succ_eq_append_getElem (by simpa using hi'),List.getElem_map]
   rw [← e] at v3
   have c3 : T3.heap (S.next + 1) = .cells 1 [[so.hv]] true := by rw [k3 _ (by omega) (fun q hq e => by have := hso q hq; omega)]; exact g1.co
   rw [letv,lr,obs,e3,obs,sets_cell _ c3,obs]
   have hU1 : U.next ≤ T3.next := by
    have : U1.next ≤ T3.next := by omega
    omega
   have hkk : ∀ y,y < U.next → y ≠ S.next + 1 → (∀ q,so.a = some q → q.1 ≠ y) → (T3.put (S.next + 1) (.cells 1 [[so'.hv]] true)).heap y = U.heap y := fun y a1 a2 a3 => by rw [put_other _ a2,k3 y (by omega) a3,fg.eq y a1]
   have hg : Gt S.next x.w (xs.map (ofKey t.R)) (i + 1) so' (T3.put (S.next + 1) (.cells 1 [[so'.hv]] true)) := ⟨(hkk _ (by omega) (by omega) (fun q hq e => by have := hso q hq; omega)).trans ((fg.eq _ (by omega)).symm.trans g1.c0),put_here _ _ _,v3.put_ne (fun q hq e => by have := v3.lo q hq; omega),by rw [put_next]; omega⟩
   have hw2 : ∀ y,OA x t y → (T3.put (S.next + 1) (.cells 1 [[so'.hv]] true)).heap y = S.heap y := fun y ho => (hkk y (g2.ltO ho) (by have := hOS y ho; omega) (fun q hq e => by have := hso q hq; have := hOS y ho; omega)).trans (g2' y ho)
   refine ⟨_,fun y => Og S.next so' y ∨ OA x t y,none,rfl,⟨by rw [put_next]; omega,fun y a1 a2 => ?_,fun y ho => ?_⟩,fun y ho => ?_,fun _ => ⟨so',hg,hw2,fun _ => Iff.rfl⟩,fun c h => by cases h⟩
   ·have hno : ¬ Og S.next so y := fun h => a2 ((g3 y).2 (.inl h))
    exact hkk y a1 (fun e => hno (.inl ⟨by omega,by omega⟩)) (fun q hq e => hno (.inr ⟨q,hq,e⟩))
   ·rcases ho with (g | ⟨q,g,rfl⟩) | g
    ·exact .inl ((g3 y).2 (.inl (.inl g)))
    ·rcases q3 q g with g' | ⟨q0,a1,a2⟩
     ·exact .inr (by omega)
     ·exact .inl ((g3 _).2 (.inl (.inr ⟨q0,a1,a2⟩)))
    ·exact .inl ((g3 y).2 (.inr g))
   ·rcases ho with g | g
    ·exact hg.lt g
    ·rw [put_next]; have := hOS y g; omega)
 erw [e2]
 rw [obs]
 simp only [e3,obs]
 have hle := ch.le
 cases hst : st with
 | some c => exact (hs' c hst).elim
 | none =>
  obtain ⟨so,g1,g2,g3⟩ := hnn hst
  rw [hlen] at g1
  have hv := g1.vec
  rw [List.take_of_length_le (by simp)] at hv
  have hlo := hv.lo
  have hnx := g1.nx
  simp only [pcode,obs,if_true]
  rw [rooms_Rooms_Of.J1]
  simp only [HS.leave,de,obs]
  refine ⟨S.next + 1,so,_,rfl,by rw [put_other _ (by omega)]; exact g1.co,rows_keep hv.rows fun q hq => ?_,⟨by omega,by rw [put_next]; omega⟩,fun q hq => ⟨by have := hlo q hq; omega,by rw [put_next]; exact (hlo q hq).2⟩,⟨by rw [put_next]; omega,fun y hy => ?_⟩⟩
  ·have := hlo q hq
   have := (lt q.1 ((g3 _).2 (.inl (.inr ⟨q,hq,rfl⟩)))).1
   rw [put_other _ this]
  ·rw [put_other _ (by omega)]
   by_cases hx2 : OA x t y
   ·exact g2 y hx2
   ·rw [ch.eq y (by omega) (fun ho => by
     rcases ho with (g | ⟨q,g,_⟩) | g
     ·omega
     ·cases g
     ·exact hx2 g),f1.eq y (by omega)]
    exact f3.eq y hy
theorem told_tells {k n c : Nat} {B : HS} {s : Sl} {xs : List BK.En} (hk : xs.length < k) (hx : xs.length ≤ 1000000) (hc : B.heap c = .cells 1 [[s.hv]] true) (hr : B.rows s 2 = some (xs.map BK.enRow)) (K : Nat → Prop) (hK : K c ∧ ∀ q,s.a = some q → K q.1) :
  Tells (disp k (n + 2)) (.fn (.func 119) [] [.ptr (some (HA.cell0 c))]) (xs.map BK.enRow) K B := by
 intro H l I Stop ht O S hI hB
 have hlen : (xs.map BK.enRow).length = xs.length := by simp
 have hcS : S.heap c = .cells 1 [[s.hv]] true := (hB c hK.1).1.trans hc
 have hrS : S.rows s 2 = some (xs.map BK.enRow) := rows_keep hr fun q hq => (hB q.1 (hK.2 q hq)).1
 have hloop : ∀ f i O1 T,xs.length - i < f → i ≤ xs.length → I i O1 T → S.next ≤ T.next → (∀ id,id < S.next → ¬ O id → T.heap id = S.heap id) → (∀ id,O1 id → O id ∨ S.next ≤ id) →
   ∃ S' O',book_told_room_Room_1.L0 (disp k (n + 1)) H k f (.fn (.yield l) [] []) s (xs.length : Int) (i : Int) T = some ((),S') ∧ S.next ≤ S'.next ∧ (∀ id,id < S.next → ¬ O id → S'.heap id = S.heap id) ∧ (∀ id,O' id → O id ∨ S.next ≤ id) ∧ (I xs.length O' S' ∨ Stop O' S') := by
  intro f
  induction f with
  | zero => intro i O1 T h; omega
  | succ f ih =>
   intro i O1 T hf hi hIT hn hk2 hO
   rw [book_told_room_Room_1.L0]
   by_cases hlt : i < xs.length
   ·have hrT : T.rows s 2 = some (xs.map BK.enRow) := rows_keep hrS fun q hq => hk2 q.1 (hB q.1 (hK.2 q hq)).2.2 (hB q.1 (hK.2 q hq)).2.1
    obtain ⟨ad,a1,a2,a3⟩ := BK.en_rows hrT hlt
    rw [if_pos (by omega),a1,obs,a2,obs,a3,obs,letv]
    have hs0 : (T.new (.cells 2 [[.str [],.ptr none]] true)).sets (HA.cell0 T.next) [.str xs[i].1,.ptr xs[i].2] = some ((T.new (.cells 2 [[.str [],.ptr none]] true)).put T.next (.cells 2 [[.str xs[i].1,.ptr xs[i].2]] true)) := (sets_row (new_here T _) rfl (by simp)).trans rfl
    have ft : Fr T.next T ((T.new (.cells 2 [[.str [],.ptr none]] true)).put T.next (.cells 2 [[.str xs[i].1,.ptr xs[i].2]] true)) := (Fr.new (Nat.le_refl _) _).trans (Fr.put (Nat.le_refl _) _)
    have hcell : ((T.new (.cells 2 [[.str [],.ptr none]] true)).put T.next (.cells 2 [[.str xs[i].1,.ptr xs[i].2]] true)).heap T.next = .cells 2 [[.str xs[i].1,.ptr xs[i].2]] true := put_here _ _ _
    rw [hs0,obs]
    generalize (T.new (.cells 2 [[.str [],.ptr none]] true)).put T.next (.cells 2 [[.str xs[i].1,.ptr xs[i].2]] true) = T1 at ft hcell
    have hIT1 : I i O1 T1 := ht.keep i O1 T T1 hIT (fun id ho => ft.eq id (ht.lt i O1 T hIT id ho)) ft.le
    obtain ⟨b,T2,O2,e2,n2,k2,o2,g1,g2⟩ := ht.step i (by omega) O1 T1 hIT1
    have hle := ft.le
    have he : disp k (n + 1) H (.fn (.yield l) [] []) [.str xs[i].1,.ptr xs[i].2] T1 = some (.bool b,T2) := by
     rw [disp_yield,← e2,List.getElem_map]; rfl
    have hk3 : ∀ id,id < S.next → ¬ O id → T2.heap id = S.heap id := fun id h1 h2 => ((k2 id (by omega) (fun ho => (hO id ho).elim h2 (fun h => by omega))).trans (ft.eq id (by omega))).trans (hk2 id h1 h2)
    have hO3 : ∀ id,O2 id → O id ∨ S.next ≤ id := fun id h => (o2 id h).elim (hO id) (fun h => .inr (by omega))
    rw [row_ldS (cell_row hcell) rfl rfl,obs,row_ldP (cell_row hcell) rfl rfl,obs,he,obs]
    simp only [dB,obs]
    cases b with
    | false => exact ⟨T2,O2,rfl,by omega,hk3,hO3,.inr (g2 rfl)⟩
    | true =>
     rw [if_neg (by simp),w64_id (by omega) (by omega),show ((i : Int) + 1) = ((i + 1 : Nat) : Int) by simp]
     exact ih (i + 1) O2 T2 (by omega) (by omega) (g1 rfl) (by omega) hk3 hO3
   ·obtain rfl : i = xs.length := by omega
    rw [if_neg (by omega)]
    exact ⟨T,O1,rfl,hn,hk2,hO,.inl hIT⟩
 obtain ⟨S',O',e,h1,h2,h3,h4⟩ := hloop k 0 O S (by omega) (Nat.zero_le _) hI (Nat.le_refl _) (fun _ _ _ => rfl) (fun _ h => .inl h)
 refine ⟨S',O',?_,h1,h2,h3,by rw [hlen]; exact h4⟩
 rw [disp_func]
 have hsl : (s.len : Int) = xs.length := by rw [← rows_len hrS]; simp
 have e' : call_119 (disp k (n + 1)) H k ([] ++ [HV.fn (.yield l) [] []] ++ [.ptr (some (HA.cell0 c))]) S = some (.tup [],S') := by
  rw [call_119]
  simp only [List.nil_append,List.cons_append,args2,obs,dF,dP]
  rw [book_told_room_Room_1.f,obs,ldSl_cell hcS,obs,hsl]
  erw [e]
  rfl
 repeat rw [if_neg (by decide)]
 rw [if_pos rfl,e']
theorem ldF_cell {S : HS} {id : Nat} {f : Fn} {xs ys : List HV} {b : Bool} (h : S.heap id = .cells 1 [[.fn f xs ys]] b) : S.ldF (HA.cell0 id) = some (.fn f xs ys) := by rw [HS.ldF,get_cell h]; rfl
theorem all2_tells {n c : Nat} {B : HS} {fv0 : Fn} {us ws : List HV} {es : List BK.En} {K : Nat → Prop} (hT : Tells (disp 2000 (n + 2)) (.fn fv0 us ws) (es.map BK.enRow) K B) (hc : B.heap c = .cells 1 [[.fn fv0 us ws]] true) (hK : K c) :
  Tells (disp 2000 (n + 3)) (.fn (.func 61) [] [.ptr (some (HA.cell0 c))]) (es.map fun e => [HV.ptr e.2]) K B := by
 intro H l I Stop ht O S hI hB
 have hcS : S.heap c = .cells 1 [[.fn fv0 us ws]] true := (hB c hK).1.trans hc
 have hcn := (hB c hK).2.2
 have f1 : Fr S.next S (S.new (.cells 1 [[.fn (.yield l) [] []]] true)) := Fr.new (Nat.le_refl _) _
 have c1 : (S.new (.cells 1 [[.fn (.yield l) [] []]] true)).heap S.next = .cells 1 [[.fn (.yield l) [] []]] true := new_here _ _
 have n1 : (S.new (.cells 1 [[.fn (.yield l) [] []]] true)).next = S.next + 1 := rfl
 have hOl : ∀ id,O id → id < S.next := ht.lt 0 O S hI
 have e' : ∃ S' O',call_61 (disp 2000 (n + 2)) H 2000 ([] ++ [HV.fn (.yield l) [] []] ++ [.ptr (some (HA.cell0 c))]) S = some (.tup [],S') ∧ S.next ≤ S'.next ∧ (∀ id,id < S.next → ¬ O id → S'.heap id = S.heap id) ∧ (∀ id,O' id → O id ∨ S.next ≤ id) ∧ (I (es.map fun e => [HV.ptr e.2]).length O' S' ∨ Stop O' S') := by
  rw [call_61]
  simp only [List.nil_append,List.cons_append,args2,obs,dF,dP]
  rw [rooms_Rooms_All_2.f]
  simp only [dF,obs,letv]
  generalize S.new (.cells 1 [[.fn (.yield l) [] []]] true) = S1 at f1 c1 n1 ⊢
  rw [ldF_cell ((f1.eq c hcn).trans hcS),obs]
  have hB1 : ∀ id,K id → S1.heap id = B.heap id := fun id g => (f1.eq id (hB id g).2.2).trans (hB id g).1
  have hT1 : Tells (disp 2000 (n + 2)) (.fn fv0 us ws) (es.map BK.enRow) K S1 := fun H' l' I' Stop' ht' O' S' hI' hB' => hT H' l' I' Stop' ht' O' S' hI' (fun id g => ⟨(hB' id g).1.trans (hB1 id g),(hB' id g).2⟩)
  have hI1 : I 0 O S1 := ht.keep 0 O S S1 hI (fun id ho => f1.eq id (hOl id ho)) f1.le
  obtain ⟨T2,st,S',O',e2,e3,de,n5,ch,lt,hn,hs⟩ := range_tells (D := disp 2000 (n + 2)) (H := H) (fv := .fn fv0 us ws) (S := S1) (hd := fun vs T =>
    Option.bind (HS.lp T (S1.next + 1)) fun u14 => Option.bind (args2 vs) fun ar11 => Option.bind (dS ar11.1) fun p12 => Option.bind (dP ar11.2) fun p13 => rooms_Rooms_All_2.J0 (disp 2000 (n + 2)) H (S1.next + 1) (some (HA.cell0 S.next)) p13 T)
   (bd := fun i U => if h : i < es.length then Option.bind (HS.ldF U (HA.cell0 S.next)) fun p7 => Option.bind (disp 2000 (n + 2) H p7 [(.ptr es[i].2)] U) fun p8 => Option.bind (dB p8.1) fun p9 => if (!p9) = true then HS.endr p8.2 (S1.next + 1) (some .ret) else HS.endr p8.2 (S1.next + 1) none else none)
   hT1 (fun id g => by have := (hB id g).2.2; omega)
   (fun i OO U => U.heap S.next = .cells 1 [[.fn (.yield l) [] []]] true ∧ S.next < U.next ∧ ∃ O1 : Nat → Prop,(∀ id,OO id ↔ (id = S.next ∨ O1 id)) ∧ (∀ id,O1 id → id ≠ S.next) ∧ I i O1 U)
   (fun cd OO U => cd = .ret ∧ ∃ O1 : Nat → Prop,(∀ id,O1 id → OO id) ∧ Stop O1 U)
   (fun i OO U U' ⟨g1,g2,O1,g3,g4,g5⟩ hk hn => ⟨(hk _ ((g3 _).2 (.inl rfl))).trans g1,by omega,O1,g3,g4,ht.keep i O1 U U' g5 (fun id ho => hk id ((g3 id).2 (.inr ho))) hn⟩)
   (fun cd OO U U' ⟨g1,O1,g3,g5⟩ hk hn => ⟨g1,O1,g3,ht.keepS O1 U U' g5 (fun id ho => hk id (g3 id ho)) hn⟩)
   (fun id => id = S.next ∨ O id) (fun id g => by
    rcases g with rfl | g
    ·omega
    ·have := hOl id g; omega) ⟨c1,by omega,O,fun _ => Iff.rfl,fun id g e => by have := hOl id g; omega,hI1⟩ (fun id g hk => by
    rcases g with rfl | g
    ·have := (hB _ hk).2.2; omega
    ·exact (hB id hk).2.1 g)
   (fun i hi U hU => by
    have hi' : i < es.length := by simpa using hi
    rw [lp_at hU,obs,List.getElem_map,show args2 (BK.enRow es[i]) = some (.str es[i].1,.ptr es[i].2) from rfl,obs,show dS (HV.str es[i].1) = some es[i].1 from rfl,obs,show dP (HV.ptr es[i].2) = some es[i].2 from rfl,obs,rooms_Rooms_All_2.J0,begin_at hU,obs,obs,dif_pos hi'])
   (fun i hi OO U ⟨g1,g2,O1,g3,g4,g5⟩ hnu hl hno hlt => by
    have hi' : i < es.length := by simpa using hi
    obtain ⟨b,U2,O2,e4,n2,k2,o2,q1,q2⟩ := ht.step i (by simpa using hi') O1 U g5
    have he : disp 2000 (n + 2) H (.fn (.yield l) [] []) [.ptr es[i].2] U = some (.bool b,U2) := by
     rw [disp_yield,← e4,List.getElem_map]
    rw [dif_pos hi',ldF_cell g1,obs,he,obs]
    simp only [dB,obs]
    have hU2 : U2.heap S.next = .cells 1 [[.fn (.yield l) [] []]] true := (k2 _ g2 (fun g => g4 _ g rfl)).trans g1
    have ho2 : ∀ id,O2 id → id ≠ S.next := fun id g e => by
     rcases o2 id g with k | k
     ·exact g4 id k e
     ·omega
    have hch : Chg OO (fun id => id = S.next ∨ O2 id) U U2 := ⟨n2,fun id a1 a2 => k2 id a1 (fun g => a2 ((g3 id).2 (.inr g))),fun id g => by
     rcases g with g | g
     ·exact .inl ((g3 id).2 (.inl g))
     ·exact (o2 id g).imp (fun k => (g3 id).2 (.inr k)) (fun k => k)⟩
    cases b with
    | true =>
     refine ⟨U2,fun id => id = S.next ∨ O2 id,none,by rw [if_neg (by simp)],hch,fun id g => ?_,fun _ => ⟨hU2,by omega,O2,fun _ => Iff.rfl,ho2,q1 rfl⟩,fun cd h => by cases h⟩
     rcases g with rfl | g
     ·omega
     ·exact ht.lt _ _ _ (q1 rfl) id g
    | false =>
     refine ⟨U2,fun id => id = S.next ∨ O2 id,some .ret,by rw [if_pos (by simp)],hch,fun id g => ?_,fun h => (by cases h),fun cd h => by cases h; exact ⟨rfl,O2,fun id g => .inr g,q2 rfl⟩⟩
     rcases g with rfl | g
     ·omega
     ·exact ht.ltS _ _ (q2 rfl) id g)
  erw [e2]
  rw [obs]
  simp only [e3,obs]
  have hle := ch.le
  have hfin : ∀ O1 : Nat → Prop,(∀ id,O1 id → O' id) → (∀ id,O1 id → id ≠ S.next) → ∀ id,O1 id → O id ∨ S.next ≤ id := fun O1 h1 h2 id g => by
   rcases ch.own id (h1 id g) with (k | k) | k
   ·exact absurd k (h2 id g)
   ·exact .inl k
   ·exact .inr (by omega)
  have heq : ∀ id,id < S.next → ¬ O id → (S'.put S1.next HObj.dead).heap id = S.heap id := fun id g1 g2 => by
   rw [put_other _ (by omega),ch.eq id (by omega) (fun g => by
    rcases g with g | g
    ·omega
    ·exact g2 g),f1.eq id g1]
  cases hst : st with
  | none =>
   obtain ⟨g1,g2,O1,g3,g4,g5⟩ := hn hst
   simp only [pcode,obs,if_true,HS.leave,de]
   refine ⟨_,O1,rfl,by rw [put_next]; omega,heq,hfin O1 (fun id g => (g3 id).2 (.inr g)) g4,.inl ?_⟩
   have : (es.map fun e => [HV.ptr e.2]).length = (es.map BK.enRow).length := by simp
   rw [this]
   exact ht.keep _ O1 S' _ g5 (fun id g => put_other _ (lt id ((g3 id).2 (.inr g))).1) (Nat.le_refl _)
  | some cd =>
   obtain ⟨g1,O1,g3,g5⟩ := hs cd hst
   subst g1
   simp only [pcode,obs,HS.leave,de]
   refine ⟨_,O1,rfl,by rw [put_next]; omega,heq,fun id g => ?_,.inr (ht.keepS O1 S' _ g5 (fun id g => put_other _ (lt id (g3 id g)).1) (Nat.le_refl _))⟩
   rcases ch.own id (g3 id g) with (k | k) | k
   ·exact .inr (by omega)
   ·exact .inl k
   ·exact .inr (by omega)
 obtain ⟨S',O',e,h1,h2,h3,h4⟩ := e'
 refine ⟨S',O',?_,h1,h2,h3,h4⟩
 rw [disp_func]
 repeat rw [if_neg (by decide)]
 rw [if_pos rfl,e]
theorem Tells.move {D : Dp} {fv : HV} {vs : List (List HV)} {K : Nat → Prop} {B B' : HS} (h : Tells D fv vs K B) (hk : ∀ id,K id → B'.heap id = B.heap id) : Tells D fv vs K B' :=
 fun H l I Stop ht O S hI hB => h H l I Stop ht O S hI fun id g => ⟨(hB id g).1.trans (hk id g),(hB id g).2⟩
theorem clamp {m : Int} (h0 : 0 ≤ m) (h1 : m ≤ 1000) : mx 0 (mn m 1000) = m := by
 unfold mx mn
 split <;> split at * <;> omega
theorem rooms_new {mR mJ mB : Int} (r0 : 0 ≤ mR) (r1 : mR ≤ 1000) (j0 : 0 ≤ mJ) (j1 : mJ ≤ 1000) (S : HS) : ∃ x t S',rooms_New.f [] [] [] [] 0 0 mJ mR mB 0 0 0 0 0 0 S = some (some (HA.cell0 x.w),S') ∧ RsI x t S' ∧ x.mR = mR ∧ x.mJ = mJ ∧ t.n = 0 ∧ t.R = [] ∧ t.L = [] ∧ Fr S.next S S' ∧ ∀ y,OA x t y → S.next ≤ y := by
 rw [rooms_New.f,letv]
 have f0 : Fr S.next S (S.new (.cells 15 [[.str [],.str [],.str [],.str [],.int .i64 0,.int .i64 0,.int .i64 mJ,.int .i64 mR,.int .i64 mB,.int .i64 0,.int .i64 0,.int .i64 0,.int .i64 0,.int .i64 0,.int .i64 0]] true)) := Fr.new (Nat.le_refl _) _
 have c0 : (S.new (.cells 15 [[.str [],.str [],.str [],.str [],.int .i64 0,.int .i64 0,.int .i64 mJ,.int .i64 mR,.int .i64 mB,.int .i64 0,.int .i64 0,.int .i64 0,.int .i64 0,.int .i64 0,.int .i64 0]] true)).heap S.next = _ := new_here _ _
 have n0 : (S.new (.cells 15 [[.str [],.str [],.str [],.str [],.int .i64 0,.int .i64 0,.int .i64 mJ,.int .i64 mR,.int .i64 mB,.int .i64 0,.int .i64 0,.int .i64 0,.int .i64 0,.int .i64 0,.int .i64 0]] true)).next = S.next + 1 := rfl
 generalize S.new (.cells 15 [[.str [],.str [],.str [],.str [],.int .i64 0,.int .i64 0,.int .i64 mJ,.int .i64 mR,.int .i64 mB,.int .i64 0,.int .i64 0,.int .i64 0,.int .i64 0,.int .i64 0,.int .i64 0]] true) = S0 at f0 c0 n0 ⊢
 rw [row_ldI (cell_row c0) rfl rfl,obs,clamp r0 r1,book_New_room_Room.f,if_neg (by omega),book_New_room_Room.J0,if_neg (by simp; omega),letv,obs]
 simp only
 have f1 : Fr S0.next S0 (S0.new (.cells 2 [[.int .i64 mR,Sl.nil.hv]] true)) := Fr.new (Nat.le_refl _) _
 have c1 : (S0.new (.cells 2 [[.int .i64 mR,Sl.nil.hv]] true)).heap S0.next = .cells 2 [[.int .i64 mR,Sl.nil.hv]] true := new_here _ _
 have n1 : (S0.new (.cells 2 [[.int .i64 mR,Sl.nil.hv]] true)).next = S0.next + 1 := rfl
 generalize S0.new (.cells 2 [[.int .i64 mR,Sl.nil.hv]] true) = S1 at f1 c1 n1 ⊢
 have c01 := (f1.eq S.next (by omega)).trans c0
 rw [row_ldI (cell_row c01) rfl rfl,obs,clamp j0 j1]
 obtain ⟨S2,e2,hr,f2,n2,o2⟩ := new_rel (most := mJ) j0 (by omega) S1
 rw [e2,obs]
 simp only
 have c02 := (f2.eq S.next (by omega)).trans c01
 have c12 := (f2.eq S0.next (by omega)).trans c1
 rw [row_ldS (cell_row c02) rfl rfl,obs,row_ldS (cell_row c02) rfl rfl,obs,row_ldS (cell_row c02) rfl rfl,obs,row_ldS (cell_row c02) rfl rfl,obs,row_ldI (cell_row c02) rfl rfl,obs,row_ldI (cell_row c02) rfl rfl,obs,row_ldI (cell_row c02) rfl rfl,obs,row_ldI (cell_row c02) rfl rfl,obs,row_ldI (cell_row c02) rfl rfl,obs,row_ldI (cell_row c02) rfl rfl,obs,row_ldI (cell_row c02) rfl rfl,obs,row_ldI (cell_row c02) rfl rfl,obs,row_ldI (cell_row c02) rfl rfl,obs,row_ldI (cell_row c02) rfl rfl,obs,row_ldI (cell_row c02) rfl rfl,obs,letv]
 have f3 : Fr S2.next S2 (S2.new (.cells 17 [(⟨S2.next,S0.next,S1.next + 2,S1.next,S1.next + 1,mR,mJ,mB⟩ : W).row] true)) := Fr.new (Nat.le_refl _) _
 have hOR : ∀ y,OR (S1.next + 2) S1.next (S1.next + 1) [] [] y → S1.next ≤ y ∧ y < S2.next := fun y g => ⟨o2 y g,hr.ltO g⟩
 have hOwn : ∀ y,Own S0.next Sl.nil y → y = S0.next := fun y g => by
  rcases g with g | ⟨q,hq,_⟩
  ·exact g
  ·cases hq
 refine ⟨⟨S2.next,S0.next,S1.next + 2,S1.next,S1.next + 1,mR,mJ,mB⟩,⟨Sl.nil,0,[],[],[],[]⟩,_,rfl,{ cell := new_here _ _,hi := Nat.lt_succ_self _,book := ⟨(f3.eq S0.next (by omega)).trans c12,.inl ⟨rfl,rfl,rfl⟩,fun q hq => (by cases hq),?_,List.Pairwise.nil,fun e he => (by cases he),by simp⟩,rel := hr.fr f3,rooms := fun e he => (by cases he),dwb := fun g => ?_,dwr := fun g => ?_,dbr := fun y g g' => ?_,pw := List.Pairwise.nil,dR := fun e he => (by cases he),link := fun a b => ⟨fun g => (by cases g),fun ⟨e,he,_⟩ => (by cases he)⟩,ne := fun e he => (by cases he),cm := fun e he => (by cases he),cR := Nat.le_refl _,mR0 := r0,mR1 := r1,mJ0 := j0,mJ1 := j1,cntR := r0,cntJ := fun a xs hs hm => ?_ },rfl,rfl,rfl,rfl,rfl,(f0.trans ((f1.mono f0.le).trans ((f2.mono (by omega)).trans (f3.mono (by omega))))),fun y g => ?_⟩
 ·show S0.next < S2.next + 1; omega
 ·have := hOwn _ g; simp only at this; omega
 ·have := (hOR _ g).2; simp only at this; omega
 ·have h1 := hOwn y g; have h2 := (hOR y g').1; omega
 ·have : xs = [] := by
   cases xs with
   | nil => rfl
   | cons v xs => have := (hm v).1 (by simp); cases this
  rw [this]; exact j0
 ·rcases g with (rfl | g | g) | ⟨e,he,_⟩
  ·show S.next ≤ S2.next; omega
  ·have := hOwn y g; omega
  ·have := (hOR y g).1; omega
  ·cases he
theorem act_rows {S : HS} {s : Sl} {xs : List Ac} (h : S.rows s 3 = some (xs.map actRow)) {i : Nat} (hi : i < xs.length) : ∃ ad,S.idx s (i : Int) 3 = some ad ∧ S.ldI .i64 (HA.fld ad 0) = some xs[i].1 ∧ S.ldI .i64 (HA.fld ad 1) = some xs[i].2.1 ∧ S.ldS (HA.fld ad 2) = some xs[i].2.2 := by
 obtain ⟨ad,h1,h2,h3⟩ := rows_idx h (i := i) (by simpa using hi)
 rw [List.getElem_map] at h3
 exact ⟨ad,h1,row_ldI h3 h2 rfl,row_ldI h3 h2 rfl,row_ldS h3 h2 rfl⟩
theorem great_spec {S : HS} {s : Sl} {ls : List Ac} (hr : S.rows s 3 = some (ls.map actRow)) : ∃ b,rollcalllaw20_great.f 2000 s S = some (b,S) ∧ (b = false → ls.length ≤ 40 ∧ ∀ a ∈ ls,a.2.2.length ≤ 60) := by
 have hsl : (s.len : Int) = ls.length := by rw [← rows_len hr]; simp
 rw [rollcalllaw20_great.f,hsl]
 by_cases h40 : 40 < ls.length
 ·rw [if_pos (by omega)]; exact ⟨true,rfl,fun h => by cases h⟩
 rw [if_neg (by omega)]
 have hloop : ∀ f i,ls.length - i < f → i ≤ ls.length → (∀ a ∈ ls.take i,a.2.2.length ≤ 60) → ∃ b,rollcalllaw20_great.L0 2000 f s (i : Int) S = some (b,S) ∧ (b = false → ls.length ≤ 40 ∧ ∀ a ∈ ls,a.2.2.length ≤ 60) := by
  intro f
  induction f with
  | zero => intro i h; omega
  | succ f ih =>
   intro i hf hi hall
   rw [rollcalllaw20_great.L0,hsl]
   by_cases hlt : i < ls.length
   ·obtain ⟨ad,a1,a2,a3,a4⟩ := act_rows hr hlt
    rw [if_pos (by omega),a1,obs,a4,obs]
    by_cases hl : 60 < ls[i].2.2.length
    ·rw [if_pos (by omega)]; exact ⟨true,rfl,fun h => by cases h⟩
    ·rw [if_neg (by omega),w64_id (by omega) (by omega),show ((i : Int) + 1) = ((i + 1 : Nat) : Int) by simp]
     refine ih (i + 1) (by omega) (by omega) fun a ha => ?_
     rw [List.take_succ_eq_append_getElem hlt] at ha
     rcases List.mem_append.1 ha with h | h
     ·exact hall a h
     ·simp at h; subst h; omega
   ·obtain rfl : i = ls.length := by omega
    rw [List.take_length] at hall
    rw [if_neg (by omega)]
    exact ⟨false,rfl,fun _ => ⟨by omega,hall⟩⟩
 exact hloop 2000 0 (by omega) (Nat.zero_le _) (by simp)
theorem rows_acts : ∀ {rows : List (List HV)},(∀ row ∈ rows,RowFits [.int .i64,.int .i64,.str] row) → ∃ ls : List Ac,rows = ls.map actRow := by
 intro rows
 induction rows with
 | nil => intro _; exact ⟨[],rfl⟩
 | cons r rows ih =>
  intro h
  obtain ⟨ls,e⟩ := ih fun row hr => h row (by simp [hr])
  have h0 := h r (by simp)
  have hl := h0.len
  obtain ⟨v0,v1,v2,rfl⟩ : ∃ v0 v1 v2,r = [v0,v1,v2] := by
   match r,hl with
   | [a,b,c],_ => exact ⟨a,b,c,rfl⟩
  obtain ⟨q0,q1,q2,_⟩ := h0
  obtain ⟨n,h1,_⟩ := q0
  obtain ⟨m,h2,_⟩ := q1
  obtain ⟨s,h3,_⟩ := q2
  exact ⟨(n,m,s) :: ls,by rw [e,h1,h2,h3]; rfl⟩
theorem rooms_all {x : W} {t : T} {S : HS} {n : Nat} (h : RsI x t S) : ∃ c S' K,rooms_Rooms_All.f (some (HA.cell0 x.w)) S = some (.fn (.func 61) [] [.ptr (some (HA.cell0 c))],S') ∧ Tells (disp 2000 (n + 3)) (.fn (.func 61) [] [.ptr (some (HA.cell0 c))]) (t.R.map fun e => [HV.ptr (some (HA.cell0 e.p))]) K S' ∧ (∀ y,K y → S.next ≤ y ∧ y < S'.next) ∧ Fr S.next S S' := by
 obtain ⟨c,s',S1,e1,g1,g2,g3,g4,g5,f1⟩ := BK.all_spec h.book
 have hcnt := h.book.cnt
 rw [rooms_Rooms_All.f,if_neg (by simp),obs,h.ldb,obs,e1,obs,letv]
 simp only [show dF (HV.fn (.func 119) [] [.ptr (some (HA.cell0 c))]) = some (.fn (.func 119) [] [.ptr (some (HA.cell0 c))]) from rfl,obs]
 rw [sets_cell _ (new_here _ _),obs]
 have f2 : Fr S1.next S1 ((S1.new (.cells 1 [[.nilFn]] true)).put S1.next (.cells 1 [[.fn (.func 119) [] [.ptr (some (HA.cell0 c))]]] true)) := (Fr.new (Nat.le_refl _) _).trans (Fr.put (Nat.le_refl _) _)
 have c2 : ((S1.new (.cells 1 [[.nilFn]] true)).put S1.next (.cells 1 [[.fn (.func 119) [] [.ptr (some (HA.cell0 c))]]] true)).heap S1.next = .cells 1 [[.fn (.func 119) [] [.ptr (some (HA.cell0 c))]]] true := put_here _ _ _
 have n2 : ((S1.new (.cells 1 [[.nilFn]] true)).put S1.next (.cells 1 [[.fn (.func 119) [] [.ptr (some (HA.cell0 c))]]] true)).next = S1.next + 1 := rfl
 generalize (S1.new (.cells 1 [[.nilFn]] true)).put S1.next (.cells 1 [[.fn (.func 119) [] [.ptr (some (HA.cell0 c))]]] true) = S2 at f2 c2 n2 ⊢
 have l1 := f1.le
 have hrd : Rd S1.next S1 2 s' ((t.R.map ent).map BK.enRow) := ⟨g4,fun q hq => (g5 q hq).2⟩
 have hT := told_tells (k := 2000) (n := n) (B := S2) (c := c) (s := s') (xs := t.R.map ent) (by simp at hcnt ⊢; omega) (by simp at hcnt ⊢; omega) ((f2.eq _ g2).trans g3) (hrd.frame f2 (Nat.le_refl _)).rows (fun y => y = S1.next ∨ y = c ∨ ∃ q,s'.a = some q ∧ q.1 = y) ⟨.inr (.inl rfl),fun q hq => .inr (.inr ⟨q,hq,rfl⟩)⟩
 have hA := all2_tells (n := n) hT c2 (.inl rfl)
 rw [List.map_map] at hA
 refine ⟨S1.next,S2,_,rfl,hA,fun y g => ?_,f1.trans (f2.mono l1)⟩
 rcases g with rfl | rfl | ⟨q,hq,rfl⟩
 ·omega
 ·omega
 ·have := g5 q hq; omega
theorem rooms_count {x : W} {t : T} {S : HS} (h : RsI x t S) (a : Int) {xs : List KS.Ky} (hs : KS.Srt xs) (hm : ∀ v,v ∈ xs ↔ (a,v) ∈ t.L) : rooms_Rooms_Count.f (some (HA.cell0 x.w)) a S = some ((xs.length : Int),S) := by
 rw [rooms_Rooms_Count.f,if_neg (by simp),obs,h.ldr,obs,count_rel h.rel a hs hm,obs]
namespace KI
def OT (b : Nat) (so : Sl) (id : Nat) : Prop := (b ≤ id ∧ id < b + 6) ∨ ∃ q,so.a = some q ∧ q.1 = id
structure ToI (b : Nat) (most : Int) (xs : List Ky) (st : LoopState) (i : Nat) (so : Sl) (S : HS) : Prop where
 cm : S.heap b = .cells 1 [[.int .i64 most]] true
 cr : S.heap (b + 1) = .cells 1 [[Sl.nil.hv]] true
 cb : S.heap (b + 2) = .cells 1 [[.bool false]] true
 co : S.heap (b + 3) = .cells 1 [[so.hv]] true
 de : S.heap (b + 4) = .defer
 lo : S.heap (b + 5) = .loop st none
 vec : Vec (b + 6) S 1 so ((xs.take i).map row1)
 nx : b + 6 ≤ S.next
theorem ToI.keep {b : Nat} {most : Int} {xs : List Ky} {st : LoopState} {i : Nat} {so : Sl} {S S' : HS} (h : ToI b most xs st i so S) (hk : ∀ id,OT b so id → S'.heap id = S.heap id) (hn : S.next ≤ S'.next) : ToI b most xs st i so S' :=
 ⟨(hk _ (.inl ⟨by omega,by omega⟩)).trans h.cm,(hk _ (.inl ⟨by omega,by omega⟩)).trans h.cr,(hk _ (.inl ⟨by omega,by omega⟩)).trans h.cb,(hk _ (.inl ⟨by omega,by omega⟩)).trans h.co,(hk _ (.inl ⟨by omega,by omega⟩)).trans h.de,(hk _ (.inl ⟨by omega,by omega⟩)).trans h.lo,vec_keep h.vec (fun q hq => hk _ (.inr ⟨q,hq,rfl⟩)) hn,Nat.le_trans h.nx hn⟩
theorem told_spec {n : Nat} {D : Dp} {xs : List Ky} {K : Nat → Prop} {fn : Fn} {u v : List HV} {most : Int} {S : HS} (hT : Tells D (.fn fn u v) (xs.map row1) K S) (hK : ∀ id,K id → id < S.next) (hm : (xs.length : Int) ≤ most) (hx : xs.length ≤ 100000) :
  ∃ out S',rollcalllaw20_numbers.f D (fun _ => none) (.fn fn u v) most S = some ((out,true),S') ∧ S'.rows out 1 = some (xs.map row1) ∧ (∀ q,out.a = some q → S.next ≤ q.1 ∧ q.1 < S'.next) ∧ Fr S.next S S' := by
 rw [rollcalllaw20_numbers.f,letv,letv,letv,letv]
 simp only [new_next,HV.isNilFn,obs]
 rw [if_neg (by simp)]
 have n4 : ((((S.new (.cells 1 [[.int .i64 most]] true)).new (.cells 1 [[Sl.nil.hv]] true)).new (.cells 1 [[.bool false]] true)).new (.cells 1 [[Sl.nil.hv]] true)).next = S.next + 4 := rfl
 have f4 : Fr S.next S ((((S.new (.cells 1 [[.int .i64 most]] true)).new (.cells 1 [[Sl.nil.hv]] true)).new (.cells 1 [[.bool false]] true)).new (.cells 1 [[Sl.nil.hv]] true)) := (((Fr.new (Nat.le_refl _) _).trans (Fr.new (by simp only [new_next]; omega) _)).trans (Fr.new (by simp only [new_next]; omega) _)).trans (Fr.new (by simp only [new_next]; omega) _)
 have c0 : ((((S.new (.cells 1 [[.int .i64 most]] true)).new (.cells 1 [[Sl.nil.hv]] true)).new (.cells 1 [[.bool false]] true)).new (.cells 1 [[Sl.nil.hv]] true)).heap S.next = .cells 1 [[.int .i64 most]] true := by
  rw [new_old _ (by simp only [new_next]; omega),new_old _ (by simp only [new_next]; omega),new_old _ (by simp only [new_next]; omega)]; exact new_here _ _
 have c1 : ((((S.new (.cells 1 [[.int .i64 most]] true)).new (.cells 1 [[Sl.nil.hv]] true)).new (.cells 1 [[.bool false]] true)).new (.cells 1 [[Sl.nil.hv]] true)).heap (S.next + 1) = .cells 1 [[Sl.nil.hv]] true := by
  rw [new_old _ (by simp only [new_next]; omega),new_old _ (by simp only [new_next]; omega)]; exact new_here (S.new _) _
 have c2 : ((((S.new (.cells 1 [[.int .i64 most]] true)).new (.cells 1 [[Sl.nil.hv]] true)).new (.cells 1 [[.bool false]] true)).new (.cells 1 [[Sl.nil.hv]] true)).heap (S.next + 2) = .cells 1 [[.bool false]] true := by
  rw [new_old _ (by simp only [new_next]; omega)]; exact new_here ((S.new _).new _) _
 have c3 : ((((S.new (.cells 1 [[.int .i64 most]] true)).new (.cells 1 [[Sl.nil.hv]] true)).new (.cells 1 [[.bool false]] true)).new (.cells 1 [[Sl.nil.hv]] true)).heap (S.next + 3) = .cells 1 [[Sl.nil.hv]] true := new_here (((S.new _).new _).new _) _
 rw [show S.next + 1 + 1 + 1 = S.next + 3 from rfl,show S.next + 1 + 1 = S.next + 2 from rfl]
 generalize (((S.new (.cells 1 [[.int .i64 most]] true)).new (.cells 1 [[Sl.nil.hv]] true)).new (.cells 1 [[.bool false]] true)).new (.cells 1 [[Sl.nil.hv]] true) = T at n4 f4 c0 c1 c2 c3 ⊢
 have f6 : Fr T.next T ((T.new .defer).new (.loop .ready none)) := (Fr.new (Nat.le_refl _) _).trans (Fr.new (by rw [new_next]; omega) _)
 have n6 : ((T.new .defer).new (.loop .ready none)).next = S.next + 6 := by simp only [new_next]; omega
 have hI0 : ToI S.next most xs .ready 0 Sl.nil ((T.new .defer).new (.loop .ready none)) := by
  refine ⟨(f6.eq _ (by omega)).trans c0,(f6.eq _ (by omega)).trans c1,(f6.eq _ (by omega)).trans c2,(f6.eq _ (by omega)).trans c3,?_,?_,by rw [List.take_zero]; exact .nil,by omega⟩
  ·rw [show S.next + 4 = T.next by omega,new_old _ (by rw [new_next]; omega)]; exact new_here _ _
  ·rw [show S.next + 5 = (T.new .defer).next by rw [new_next]; omega]; exact new_here _ _
 have hl : T.next + 1 = S.next + 5 := by omega
 have hd : T.next = S.next + 4 := n4
 generalize hS0 : (T.new .defer).new (.loop .ready none) = S0 at hI0 f6 n6 ⊢
 rw [show S.next + 3 + 1 + 1 = S.next + 5 from rfl,show S.next + 3 + 1 = S.next + 4 from rfl]
 have fS0 : Fr S.next S S0 := f4.trans (f6.mono (by omega))
 have hlen : (xs.map row1).length = xs.length := by simp
 obtain ⟨S',O',e,l1,k1,o1,hh⟩ := hT (Hd.set (fun _ => none) (S.next + 5) fun vs T =>
   Option.bind (HS.lp T (S.next + 5)) fun _ => Option.bind (args1 vs) fun ar => Option.bind (dI .i64 ar) fun p => rollcalllaw20_numbers.J0 D (fun _ => none) (S.next + 5) (some (HA.cell0 S.next)) (some (HA.cell0 (S.next + 1))) (some (HA.cell0 (S.next + 2))) (some (HA.cell0 (S.next + 3))) p T)
  (S.next + 5) (fun i O U => ∃ so,ToI S.next most xs .ready i so U ∧ ∀ id,O id ↔ OT S.next so id) (fun _ _ => False) (by
   refine ⟨fun i O U U' ⟨so,h1,h2⟩ hk hn => ⟨so,h1.keep (fun id ho => hk id ((h2 id).2 ho)) hn,h2⟩,fun _ _ _ h => h.elim,fun i O U ⟨so,h1,h2⟩ id ho => ?_,fun _ _ h => h.elim,fun i hi O U ⟨so,h1,h2⟩ => ?_⟩
   ·have := h1.nx
    rcases (h2 id).1 ho with g | ⟨q,g,rfl⟩
    ·omega
    ·exact (h1.vec.lo q g).2
   ·rw [hlen] at hi
    simp only [Hd.set,if_true,obs]
    rw [List.getElem_map,lp_at h1.lo,obs,show args1 (row1 xs[i]) = some (kv xs[i]) from rfl,obs,show dI .i64 (kv xs[i]) = some xs[i] from dI_at _,obs]
    rw [rollcalllaw20_numbers.J0,begin_at h1.lo,obs]
    -- begun
    have hso : ∀ q,so.a = some q → S.next + 6 ≤ q.1 := fun q hq => (h1.vec.lo q hq).1
    have b3 : (U.put (S.next + 5) (.loop .busy none)).heap (S.next + 3) = .cells 1 [[so.hv]] true := by rw [put_other _ (by omega)]; exact h1.co
    have b0 : (U.put (S.next + 5) (.loop .busy none)).heap S.next = .cells 1 [[.int .i64 most]] true := by rw [put_other _ (by omega)]; exact h1.cm
    have b5 : (U.put (S.next + 5) (.loop .busy none)).heap (S.next + 5) = .loop .busy none := put_here _ _ _
    have bv : Vec (S.next + 6) (U.put (S.next + 5) (.loop .busy none)) 1 so ((xs.take i).map row1) := h1.vec.put_ne (fun q hq e => by have := hso q hq; omega)
    have bk : ∀ id,id ≠ S.next + 5 → (U.put (S.next + 5) (.loop .busy none)).heap id = U.heap id := fun id hne => put_other _ hne
    have bn : (U.put (S.next + 5) (.loop .busy none)).next = U.next := rfl
    generalize U.put (S.next + 5) (.loop .busy none) = V at b3 b0 b5 bv bk bn ⊢
    have hsl : (so.len : Int) = i := by rw [bv.len]; simp; omega
    have hnx := h1.nx
    rw [obs,ldSl_cell b3,obs,obs,ldI_cell b0,obs,hsl,if_neg (by omega),obs,ldSl_cell b3,obs,letv]
    have fl : Fr V.next V (V.lit [[.int .i64 xs[i]]] 1).2 := lit_fr _ (Nat.le_refl _)
    have lr : (V.lit [[.int .i64 xs[i]]] 1).2.rows (V.lit [[.int .i64 xs[i]]] 1).1 1 = some [[.int .i64 xs[i]]] := (Vec.lit (n := 0) (z := 1) (S := V) _ (Nat.zero_le _)).rows
    have l2 : (V.lit [[.int .i64 xs[i]]] 1).2.next = V.next + 1 := rfl
    have v2 : Vec (S.next + 6) (V.lit [[.int .i64 xs[i]]] 1).2 1 so ((xs.take i).map row1) := bv.frame fl (Nat.le_refl _)
    obtain ⟨so',T3,e3,v3,f3,k3,q3⟩ := v2.app2 (new := [[.int .i64 xs[i]]]) (by omega) (by simp; omega)
    have n3 := f3.le
    have e : ((xs.take (i + 1)).map row1) = ((xs.take i).map row1) ++ [[.int .i64 xs[i]]] := by rw [List.take_succ_eq_append_getElem hi,List.map_append]; rfl
    rw [← e] at v3
    have k4 : ∀ id,id < V.next → (∀ q,so.a = some q → q.1 ≠ id) → T3.heap id = V.heap id := fun id g1 g2 => (k3 id (by omega) g2).trans (fl.eq id g1)
    have c3' : T3.heap (S.next + 3) = .cells 1 [[so.hv]] true := by rw [k4 _ (by omega) (fun q hq e => by have := hso q hq; omega)]; exact b3
    rw [lr,obs,e3,obs,obs,sets_cell _ c3',obs]
    have c5 : (T3.put (S.next + 3) (.cells 1 [[so'.hv]] true)).heap (S.next + 5) = .loop .busy none := by
     rw [put_other _ (by omega),k4 _ (by omega) (fun q hq e => by have := hso q hq; omega)]; exact b5
    rw [endr_at none c5]
    have hkk : ∀ id,S.next ≤ id → id < S.next + 5 → id ≠ S.next + 3 → ((T3.put (S.next + 3) (.cells 1 [[so'.hv]] true)).put (S.next + 5) (.loop .ready none)).heap id = U.heap id := fun id g1 g2 g3 => by
     rw [put_other _ (by omega),put_other _ g3,k4 id (by omega) (fun q hq e => by have := hso q hq; omega),bk id (by omega)]
    refine ⟨true,_,OT S.next so',rfl,by simp only [put_next]; omega,fun id g1 g2 => ?_,fun id ho => ?_,fun _ => ⟨so',⟨(hkk _ (by omega) (by omega) (by omega)).trans h1.cm,(hkk _ (by omega) (by omega) (by omega)).trans h1.cr,(hkk _ (by omega) (by omega) (by omega)).trans h1.cb,?_,(hkk _ (by omega) (by omega) (by omega)).trans h1.de,put_here _ _ _,?_,by simp only [put_next]; omega⟩,fun _ => Iff.rfl⟩,fun h => by cases h⟩
    ·have hno : ¬ OT S.next so id := fun h => g2 ((h2 id).2 h)
     have h5 : ¬ (S.next ≤ id ∧ id < S.next + 6) := fun h => hno (.inl h)
     show ((T3.put (S.next + 3) (.cells 1 [[so'.hv]] true)).put (S.next + 5) (.loop .ready none)).heap id = U.heap id
     rw [put_other _ (by omega),put_other _ (by omega),k4 id (by omega) (fun q hq e => hno (.inr ⟨q,hq,e⟩)),bk id (by omega)]
    ·rcases ho with g | ⟨q,g,rfl⟩
     ·exact .inl ((h2 id).2 (.inl g))
     ·rcases q3 q g with g' | ⟨q0,g1,g2⟩
      ·exact .inr (by omega)
      ·exact .inl ((h2 _).2 (.inr ⟨q0,g1,g2⟩))
    ·show ((T3.put (S.next + 3) (.cells 1 [[so'.hv]] true)).put (S.next + 5) (.loop .ready none)).heap (S.next + 3) = _
     rw [put_other _ (by omega)]; exact put_here _ _ _
    ·exact (v3.put_ne (fun q hq e => by have := (v3.lo q hq).1; omega)).put_ne (fun q hq e => by have := (v3.lo q hq).1; omega))
  (OT S.next Sl.nil) S0 ⟨Sl.nil,hI0,fun _ => Iff.rfl⟩ (fun id hid => ⟨fS0.eq id (hK id hid),(fun ho => by
   have := hK id hid
   rcases ho with g | ⟨q,g,_⟩
   ·omega
   ·cases g),by have := hK id hid; omega⟩)
 have hh' : ∃ so,ToI S.next most xs .ready (xs.map row1).length so S' ∧ ∀ id,O' id ↔ OT S.next so id := by
  rcases hh with h | h
  ·exact h
  ·exact h.elim
 obtain ⟨so,h1,h2⟩ := hh'
 rw [hlen] at h1
 have hv := h1.vec
 rw [List.take_length] at hv
 erw [e]
 rw [obs]
 have e1 : S'.finish (S.next + 5) = some (none,S'.put (S.next + 5) (.loop .exhausted none)) := by simp [HS.finish,h1.lo]
 rw [e1,obs]
 simp only [pcode,obs,if_true]
 have hlo := hv.lo
 have hnx := h1.nx
 have x3 : (S'.put (S.next + 5) (.loop .exhausted none)).heap (S.next + 3) = .cells 1 [[so.hv]] true := by rw [put_other _ (by omega)]; exact h1.co
 have x1 : (S'.put (S.next + 5) (.loop .exhausted none)).heap (S.next + 1) = .cells 1 [[Sl.nil.hv]] true := by rw [put_other _ (by omega)]; exact h1.cr
 have x2 : (S'.put (S.next + 5) (.loop .exhausted none)).heap (S.next + 2) = .cells 1 [[.bool false]] true := by rw [put_other _ (by omega)]; exact h1.cb
 have x4 : (S'.put (S.next + 5) (.loop .exhausted none)).heap (S.next + 4) = .defer := by rw [put_other _ (by omega)]; exact h1.de
 have xk : ∀ id,id ≠ S.next + 5 → (S'.put (S.next + 5) (.loop .exhausted none)).heap id = S'.heap id := fun id h => put_other _ h
 have xn : (S'.put (S.next + 5) (.loop .exhausted none)).next = S'.next := rfl
 generalize S'.put (S.next + 5) (.loop .exhausted none) = X at x1 x2 x3 x4 xk xn ⊢
 have y2 : (X.put (S.next + 1) (.cells 1 [[so.hv]] true)).heap (S.next + 2) = .cells 1 [[.bool false]] true := by rw [put_other _ (by omega)]; exact x2
 rw [ldSl_cell x3,obs,sets_cell _ x1,obs,sets_cell _ y2,obs]
 have y4 : ((X.put (S.next + 1) (.cells 1 [[so.hv]] true)).put (S.next + 2) (.cells 1 [[.bool true]] true)).heap (S.next + 4) = .defer := by rw [put_other _ (by omega),put_other _ (by omega)]; exact x4
 simp only [HS.leave,y4,obs]
 have z1 : (((X.put (S.next + 1) (.cells 1 [[so.hv]] true)).put (S.next + 2) (.cells 1 [[.bool true]] true)).put (S.next + 4) .dead).heap (S.next + 1) = .cells 1 [[so.hv]] true := by rw [put_other _ (by omega),put_other _ (by omega)]; exact put_here _ _ _
 have z2 : (((X.put (S.next + 1) (.cells 1 [[so.hv]] true)).put (S.next + 2) (.cells 1 [[.bool true]] true)).put (S.next + 4) .dead).heap (S.next + 2) = .cells 1 [[.bool true]] true := by rw [put_other _ (by omega)]; exact put_here _ _ _
 rw [ldSl_cell z1,obs,ldB_cell z2,obs]
 refine ⟨so,_,rfl,rows_keep hv.rows fun q hq => ?_,fun q hq => ⟨by have := hlo q hq; omega,by simp only [put_next]; have := hlo q hq; omega⟩,⟨by simp only [put_next]; omega,fun id hid => ?_⟩⟩
 ·have := hlo q hq
  rw [put_other _ (by omega),put_other _ (by omega),put_other _ (by omega),xk _ (by omega)]
 ·rw [put_other _ (by omega),put_other _ (by omega),put_other _ (by omega),xk _ (by omega),k1 id (by omega) (fun ho => by
   rcases ho with g | ⟨q,g,_⟩
   ·omega
   ·cases g)]
  exact fS0.eq id hid
end KI
namespace KI
structure UI (g : Nat) (su : Sl) (sls : List Sl) (vals : List (List Ky)) (S : HS) : Prop where
 vec : Vec g S 1 su (sls.map fun s => [s.hv])
 len : sls.length = vals.length
 rows : ∀ j (h : j < sls.length) (h' : j < vals.length),S.rows sls[j] 1 = some (vals[j].map row1)
 lo : ∀ j (h : j < sls.length) q,sls[j].a = some q → g ≤ q.1 ∧ q.1 < S.next ∧ ∀ p,su.a = some p → p.1 ≠ q.1
theorem ldSl_of {S : HS} {ad : HA} {s : Sl} (h : S.get ad = some s.hv) : S.ldSl ad = some s := by rw [HS.ldSl,h]; rfl
theorem UI.slen {g : Nat} {su : Sl} {sls : List Sl} {vals : List (List Ky)} {S : HS} (h : UI g su sls vals S) : (su.len : Int) = vals.length := by rw [h.vec.len]; simp [h.len]
theorem UI.keep {g : Nat} {su : Sl} {sls : List Sl} {vals : List (List Ky)} {S S' : HS} (h : UI g su sls vals S) (hk : ∀ id,g ≤ id → id < S.next → ((∃ q,su.a = some q ∧ q.1 = id) ∨ ∃ s ∈ sls,∃ q,s.a = some q ∧ q.1 = id) → S'.heap id = S.heap id) (hn : S.next ≤ S'.next) : UI g su sls vals S' := by
 refine ⟨vec_keep h.vec (fun q hq => hk q.1 (h.vec.lo q hq).1 (h.vec.lo q hq).2 (.inl ⟨q,hq,rfl⟩)) hn,h.len,fun j hj hj' => rows_keep (h.rows j hj hj') fun q hq => ?_,fun j hj q hq => ?_⟩
 ·have := h.lo j hj q hq
  exact hk q.1 this.1 this.2.1 (.inr ⟨_,List.getElem_mem hj,q,hq,rfl⟩)
 ·have := h.lo j hj q hq
  exact ⟨this.1,by omega,this.2.2⟩
def Sets (ps : List (Option Nat)) (vals : List (List Ky)) (S : HS) : Prop := ps.length = vals.length ∧ ∀ j (h : j < ps.length) (h' : j < vals.length),match ps[j] with | none => vals[j] = [] | some p => ∃ s,SI p s vals[j] S
def ptrRow (p : Option Nat) : List HV := [.ptr (p.map HA.cell0)]
theorem Sets.fr {ps : List (Option Nat)} {vals : List (List Ky)} {S S' : HS} (h : Sets ps vals S) (hf : Fr S.next S S') : Sets ps vals S' := by
 refine ⟨h.1,fun j hj hj' => ?_⟩
 have := h.2 j hj hj'
 split at this
 ·exact this
 ·obtain ⟨s,h⟩ := this; exact ⟨s,h.fr hf⟩
theorem ldP_of {S : HS} {ad : HA} {p : Option HA} (h : S.get ad = some (.ptr p)) : S.ldP ad = some p := by rw [HS.ldP,h]; rfl
theorem list_opt {p : Option Nat} {xs : List Ky} {S : HS} (h : match p with | none => xs = [] | some p => ∃ s,SI p s xs S) : ∃ s' S',set_Set_int_List.f (p.map HA.cell0) S = some (s',S') ∧ S'.rows s' 1 = some (xs.map row1) ∧ (∀ q,s'.a = some q → S.next ≤ q.1 ∧ q.1 < S'.next) ∧ Fr S.next S S' := by
 cases p with
 | none =>
  simp only at h
  subst h
  rw [set_Set_int_List.f,if_pos (by rfl)]
  exact ⟨_,S,rfl,rfl,fun q hq => (by cases hq),Fr.refl _ _⟩
 | some p =>
  obtain ⟨s,h⟩ := h
  exact list_spec h
theorem union_spec {k : Nat} {sl : Sl} {ps : List (Option Nat)} {vals : List (List Ky)} {S : HS} (hk : 2000 ≤ k) (hs : Sets ps vals S) (hr : Rd S.next S 1 sl (ps.map ptrRow)) (hl : ps.length ≤ 1000) :
  ∃ su sls S',set_Union_int.f k sl S = some (.fn (.func 88) [] [.ptr (some (HA.cell0 S.next))],S') ∧ S'.heap S.next = .cells 1 [[su.hv]] true ∧ UI (S.next + 1) su sls vals S' ∧ Fr S.next S S' ∧ S.next < S'.next := by
 have hsl : (sl.len : Int) = ps.length := by rw [hr.len]; simp
 have hlen := hs.1
 have hloop : ∀ f i T su sls,ps.length - i < f → i ≤ ps.length → Fr S.next S T → T.heap S.next = .cells 1 [[su.hv]] true → S.next < T.next → UI (S.next + 1) su sls (vals.take i) T →
   ∃ su sls S',set_Union_int.L0 k f (some (HA.cell0 S.next)) sl (ps.length : Int) (i : Int) T = some (.fn (.func 88) [] [.ptr (some (HA.cell0 S.next))],S') ∧ S'.heap S.next = .cells 1 [[su.hv]] true ∧ UI (S.next + 1) su sls vals S' ∧ Fr S.next S S' ∧ S.next < S'.next := by
  intro f
  induction f with
  | zero => intro i T su sls h; omega
  | succ f ih =>
   intro i T su sls hf hi hfr hc hn hu
   rw [set_Union_int.L0]
   by_cases hlt : i < ps.length
   ·have hrT : T.rows sl 1 = some (ps.map ptrRow) := (hr.frame hfr (Nat.le_refl _)).rows
    obtain ⟨ad,a1,a2⟩ := get_at hrT (i := i) (v := .ptr (ps[i].map HA.cell0)) (by simpa using hlt) (by rw [List.getElem_map]; rfl)
    obtain ⟨s',T1,e1,r1,q1,f1⟩ := list_opt ((hs.fr hfr).2 i hlt (by omega))
    have l1 := f1.le
    have c1 : T1.heap S.next = .cells 1 [[su.hv]] true := (f1.eq _ hn).trans hc
    have u1 : UI (S.next + 1) su sls (vals.take i) T1 := hu.keep (fun id _ h2 _ => f1.eq id h2) l1
    have fl : Fr T1.next T1 (T1.lit [[s'.hv]] 1).2 := lit_fr _ (Nat.le_refl _)
    have l2 : (T1.lit [[s'.hv]] 1).2.next = T1.next + 1 := rfl
    have lr : (T1.lit [[s'.hv]] 1).2.rows (T1.lit [[s'.hv]] 1).1 1 = some [[s'.hv]] := (Vec.lit (n := 0) (z := 1) (S := T1) _ (Nat.zero_le _)).rows
    have c2 : (T1.lit [[s'.hv]] 1).2.heap S.next = .cells 1 [[su.hv]] true := (fl.eq _ (by omega)).trans c1
    have u2 : UI (S.next + 1) su sls (vals.take i) (T1.lit [[s'.hv]] 1).2 := u1.keep (fun id _ h2 _ => fl.eq id h2) fl.le
    have hsu : sls.length = i := by rw [u2.len,List.length_take]; omega
    obtain ⟨su',T3,e3,v3,f3,k3,q3⟩ := u2.vec.app2 (new := [[s'.hv]]) (by omega) (by simp; omega)
    have n3 := f3.le
    have c3 : T3.heap S.next = .cells 1 [[su.hv]] true := (f3.eq _ (by omega)).trans c2
    rw [if_pos (by omega),a1,obs,ldP_of a2,obs,obs,ldSl_cell hc,obs,e1,obs,ldSl_cell c1,obs,if_pos rfl,letv,ldSl_cell c2,obs,if_pos rfl,lr,obs,e3,obs,obs,sets_cell _ c3,obs,
     w64_id (by omega) (by omega),show ((i : Int) + 1) = ((i + 1 : Nat) : Int) by simp]
    have hsu' : ∀ q,su'.a = some q → T1.next < q.1 ∨ ∃ q0,su.a = some q0 ∧ q0.1 = q.1 := fun q hq => by
     rcases q3 q hq with g | g
     ·exact .inl (by omega)
     ·exact .inr g
    have hold : ∀ id,id < T1.next → (∀ q,su.a = some q → q.1 ≠ id) → T3.heap id = T1.heap id := fun id h1 h2 => (k3 id (by omega) h2).trans (fl.eq id h1)
    have hnes : ∀ q,s'.a = some q → ∀ p,su.a = some p → p.1 ≠ q.1 := fun q hq p hp => by have := (hu.vec.lo p hp).2; have := (q1 q hq).1; omega
    refine ih (i + 1) _ su' (sls ++ [s']) (by omega) (by omega) ((hfr.trans (f1.mono hfr.le)).trans (((fl.mono (by omega)).trans (f3.mono (by omega))).trans (Fr.put (Nat.le_refl _) _))) (put_here _ _ _) (by rw [put_next]; omega) ?_
    have hm : (sls ++ [s']).map (fun s => [s.hv]) = sls.map (fun s => [s.hv]) ++ [[s'.hv]] := by simp
    refine ⟨?_,by rw [List.length_append,List.length_take]; simp; omega,fun j hj hj' => ?_,fun j hj q hq => ?_⟩
    ·rw [hm]; exact v3.put_ne (fun q hq e => by have := (v3.lo q hq).1; omega)
    ·rw [List.getElem_take]
     rw [List.length_append,List.length_singleton] at hj
     rcases Nat.lt_or_ge j i with g | g
     ·have hjs : j < sls.length := by omega
      simp only [List.getElem_append_left hjs]
      have := u1.rows j hjs (by rw [List.length_take]; omega)
      rw [List.getElem_take] at this
      refine rows_keep this fun q hq => ?_
      have hl := u1.lo j hjs q hq
      rw [put_other _ (by omega)]
      exact hold q.1 hl.2.1 (fun p hp => hl.2.2 p hp)
     ·obtain rfl : j = i := by omega
      have e : (sls ++ [s'])[j] = s' := by rw [List.getElem_append_right (by omega)]; simp [hsu]
      rw [e]
      refine rows_keep r1 fun q hq => ?_
      have := q1 q hq
      rw [put_other _ (by omega)]
      exact hold q.1 this.2 (fun p hp => hnes q hq p hp)
    ·rw [List.length_append,List.length_singleton] at hj
     rcases Nat.lt_or_ge j i with g | g
     ·have hjs : j < sls.length := by omega
      simp only [List.getElem_append_left hjs] at hq
      have hl := u1.lo j hjs q hq
      refine ⟨hl.1,by rw [put_next]; omega,fun p hp => ?_⟩
      rcases hsu' p hp with g' | ⟨p0,g1,g2⟩
      ·omega
      ·rw [← g2]; exact hl.2.2 p0 g1
     ·obtain rfl : j = i := by omega
      have e : (sls ++ [s'])[j] = s' := by rw [List.getElem_append_right (by omega)]; simp [hsu]
      rw [e] at hq
      have := q1 q hq
      refine ⟨by omega,by rw [put_next]; omega,fun p hp => ?_⟩
      rcases hsu' p hp with g' | ⟨p0,g1,g2⟩
      ·omega
      ·rw [← g2]; exact hnes q hq p0 g1
   ·obtain rfl : i = ps.length := by omega
    rw [if_neg (by omega)]
    rw [List.take_of_length_le (by omega)] at hu
    exact ⟨su,sls,T,rfl,hc,hu,hfr,hn⟩
 rw [set_Union_int.f,letv,hsl]
 exact hloop k 0 _ Sl.nil [] (by omega) (Nat.zero_le _) (Fr.new (Nat.le_refl _) _) (new_here _ _) (Nat.lt_succ_self _) ⟨Vec.nil,by simp,fun j hj => by simp at hj,fun j hj => by simp at hj⟩
structure UnionOf (W : List Ky) (vals : List (List Ky)) : Prop where
 srt : Srt W
 mem : ∀ v,v ∈ W ↔ ∃ xs ∈ vals,v ∈ xs
structure LI (g : Nat) (K : Nat → Prop) (left : Sl) (ts : List Sl) (rems : List (List Ky)) (S : HS) : Prop where
 vec : Vec g S 1 left (ts.map fun s => [s.hv])
 len : ts.length = rems.length
 rows : ∀ j (h : j < ts.length) (h' : j < rems.length),S.rows ts[j] 1 = some (rems[j].map row1)
 inK : ∀ j (h : j < ts.length) q,ts[j].a = some q → K q.1
def Rem (W : List Ky) (q : Nat) (vals rems : List (List Ky)) : Prop := rems.length = vals.length ∧ ∀ j (h : j < rems.length) (h' : j < vals.length),Srt rems[j] ∧ ∀ v,v ∈ rems[j] ↔ v ∈ vals[j] ∧ v ∈ W.drop q
theorem LI.at_ {g : Nat} {K : Nat → Prop} {left : Sl} {ts : List Sl} {rems : List (List Ky)} {S : HS} (h : LI g K left ts rems S) {j : Nat} (hj : j < ts.length) : ∃ ad,S.idx left (j : Int) 1 = some ad ∧ S.ldSl ad = some ts[j] := by
 obtain ⟨ad,h1,h2⟩ := get_at h.vec.rows (i := j) (v := ts[j].hv) (by simpa using hj) (by rw [List.getElem_map])
 exact ⟨ad,h1,ldSl_of h2⟩
theorem LI.slen {g : Nat} {K : Nat → Prop} {left : Sl} {ts : List Sl} {rems : List (List Ky)} {S : HS} (h : LI g K left ts rems S) : (left.len : Int) = rems.length := by rw [h.vec.len]; simp [h.len]
def BestH (rems : List (List Ky)) (i : Nat) (b : Int) : Prop :=
 (b = -1 ∧ ∀ j (h : j < rems.length),j < i → rems[j] = []) ∨ ∃ j0 : Nat,b = (j0 : Int) ∧ ∃ h : j0 < rems.length,j0 < i ∧ ∃ x xs,rems[j0] = x :: xs ∧ ∀ j (h : j < rems.length),j < i → ∀ y ys,rems[j] = y :: ys → klt y x = false
theorem head_at {S : HS} {t : Sl} {x : Ky} {xs : List Ky} (h : S.rows t 1 = some ((x :: xs).map row1)) : ∃ ad,S.idx t 0 1 = some ad ∧ S.ldI .i64 ad = some x := by
 obtain ⟨ad,h1,h2⟩ := ldK_at h (i := 0) (by simp)
 exact ⟨ad,h1,h2⟩
theorem best_loop {D : Dp} {H : Hd} {k g : Nat} {K : Nat → Prop} {y0 : HV} {left : Sl} {ts : List Sl} {rems : List (List Ky)} {S : HS} {r0 : HV → Sl → HS → Option (Unit × HS)} (h : LI g K left ts rems S) (hl : rems.length ≤ 1000) :
  ∀ n i b,rems.length - i < n → i ≤ rems.length → BestH rems i b →
  ∃ n' b',set_Union_int_1.L1 D H k r0 n y0 left b left (rems.length : Int) (i : Int) S = set_Union_int_1.L1 D H k r0 (n' + 1) y0 left b' left (rems.length : Int) (rems.length : Int) S ∧ BestH rems rems.length b' := by
 have hlen := h.len
 intro n
 induction n with
 | zero => intro i b h; omega
 | succ n ih =>
  intro i b hf hi hB
  by_cases hlt : i < rems.length
  ·obtain ⟨ad,a1,a2⟩ := h.at_ (j := i) (by omega)
   have hrow := h.rows i (by omega) hlt
   have htl : (ts[i].len : Int) = rems[i].length := by rw [← rows_len hrow]; simp
   rw [set_Union_int_1.L1,if_pos (by omega),a1,obs,a2,obs,htl]
   have hJ3 : ∀ b2,BestH rems (i + 1) b2 → ∃ n' b',set_Union_int_1.J3 D H k (set_Union_int_1.L1 D H k r0 n) r0 y0 left b2 left (rems.length : Int) (i : Int) S = set_Union_int_1.L1 D H k r0 (n' + 1) y0 left b' left (rems.length : Int) (rems.length : Int) S ∧ BestH rems rems.length b' := by
    intro b2 hB2
    rw [set_Union_int_1.J3,w64_id (by omega) (by omega),show ((i : Int) + 1) = ((i + 1 : Nat) : Int) by simp]
    exact ih (i + 1) b2 (by omega) (by omega) hB2
   cases hri : rems[i] with
   | nil =>
    rw [if_neg (by simp),set_Union_int_1.J2,if_neg (by simp)]
    refine hJ3 b ?_
    rcases hB with ⟨rfl,g⟩ | ⟨j0,rfl,hj0,g1,x,xs,g2,g3⟩
    ·refine .inl ⟨rfl,fun j hj hji => ?_⟩
     rcases Nat.lt_or_ge j i with g' | g'
     ·exact g j hj g'
     ·obtain rfl : j = i := by omega
      exact hri
    ·refine .inr ⟨j0,rfl,hj0,by omega,x,xs,g2,fun j hj hji y ys hy => ?_⟩
     rcases Nat.lt_or_ge j i with g' | g'
     ·exact g3 j hj g' y ys hy
     ·obtain rfl : j = i := by omega
      rw [hri] at hy; cases hy
   | cons z zs =>
    rw [if_pos (by simp)]
    rcases hB with ⟨rfl,g⟩ | ⟨j0,rfl,hj0,g1,x,xs,g2,g3⟩
    ·rw [if_pos (by omega),set_Union_int_1.J2,if_pos rfl]
     refine hJ3 _ (.inr ⟨i,rfl,hlt,by omega,z,zs,hri,fun j hj hji y ys hy => ?_⟩)
     rcases Nat.lt_or_ge j i with g' | g'
     ·rw [g j hj g'] at hy; cases hy
     ·obtain rfl : j = i := by omega
      rw [hri] at hy; cases hy; exact klt_irrefl _
    ·have hrow0 := h.rows j0 (by omega) hj0
     rw [g2] at hrow0
     rw [hri] at hrow
     obtain ⟨ad1,c1,c2⟩ := head_at hrow
     obtain ⟨ad2,d1,d2⟩ := head_at hrow0
     obtain ⟨ad3,e1,e2⟩ := h.at_ (j := j0) (by omega)
     rw [if_neg (by omega),c1,obs,c2,obs,e1,obs,e2,obs,d1,obs,d2,obs,set_Union_int_1.J2]
     by_cases hzx : z < x
     ·rw [if_pos (by simpa using hzx)]
      refine hJ3 _ (.inr ⟨i,rfl,hlt,by omega,z,zs,hri,fun j hj hji y ys hy => ?_⟩)
      rcases Nat.lt_or_ge j i with g' | g'
      ·cases hyz : klt y z with
       | false => rfl
       | true =>
        have := klt_trans hyz (show klt z x = true from decide_eq_true hzx)
        rw [g3 j hj g' y ys hy] at this; cases this
      ·obtain rfl : j = i := by omega
       rw [hri] at hy; cases hy; exact klt_irrefl _
     ·rw [if_neg (by simpa using hzx)]
      refine hJ3 _ (.inr ⟨j0,rfl,hj0,by omega,x,xs,g2,fun j hj hji y ys hy => ?_⟩)
      rcases Nat.lt_or_ge j i with g' | g'
      ·exact g3 j hj g' y ys hy
      ·obtain rfl : j = i := by omega
       rw [hri] at hy; cases hy
       exact decide_eq_false hzx
  ·obtain rfl : i = rems.length := by omega
   exact ⟨n,b,rfl,hB⟩
def drop1 (x : Ky) (xs : List Ky) : List Ky := match xs with | [] => [] | y :: ys => if y = x then ys else y :: ys
theorem LI.keep {g : Nat} {K : Nat → Prop} {left : Sl} {ts : List Sl} {rems : List (List Ky)} {S S' : HS} (h : LI g K left ts rems S) (hk : ∀ q,left.a = some q → S'.heap q.1 = S.heap q.1) (hK : ∀ id,K id → S'.heap id = S.heap id) (hn : S.next ≤ S'.next) : LI g K left ts rems S' :=
 ⟨vec_keep h.vec hk hn,h.len,fun j hj hj' => rows_keep (h.rows j hj hj') fun q hq => hK q.1 (h.inK j hj q hq),h.inK⟩
theorem drop_loop {D : Dp} {H : Hd} {k g : Nat} {K : Nat → Prop} {y0 : HV} {left : Sl} {rems : List (List Ky)} {x : Ky} {r0 : HV → Sl → HS → Option (Unit × HS)} {S0 : HS} (hl : rems.length ≤ 1000) (hxl : ∀ xs ∈ rems,xs.length ≤ 1000) (hKl : ∀ q,left.a = some q → ¬ K q.1) :
  ∀ n i S ts,rems.length - i < n → i ≤ rems.length → LI g K left ts ((rems.take i).map (drop1 x) ++ rems.drop i) S → S.next = S0.next → (∀ id,(∀ q,left.a = some q → q.1 ≠ id) → S.heap id = S0.heap id) →
  ∃ n' S' ts',set_Union_int_1.L4 D H k r0 n y0 left x left (rems.length : Int) (i : Int) S = set_Union_int_1.L4 D H k r0 (n' + 1) y0 left x left (rems.length : Int) (rems.length : Int) S' ∧ LI g K left ts' (rems.map (drop1 x)) S' ∧ S'.next = S0.next ∧ (∀ id,(∀ q,left.a = some q → q.1 ≠ id) → S'.heap id = S0.heap id) := by
 intro n
 induction n with
 | zero => intro i S ts h; omega
 | succ n ih =>
  intro i S ts hf hi h hn hk
  have hlen0 : ((rems.take i).map (drop1 x) ++ rems.drop i).length = rems.length := by simp; omega
  have hlen := h.len
  rw [hlen0] at hlen
  by_cases hlt : i < rems.length
  ·have hri : ((rems.take i).map (drop1 x) ++ rems.drop i)[i]'(by omega) = rems[i] := by
    rw [List.getElem_append_right (by simp; omega)]
    simp only [List.length_map,List.length_take,List.getElem_drop]
    congr 1
    omega
   obtain ⟨ad,a1,a2⟩ := h.at_ (j := i) (by omega)
   have hrow := h.rows i (by omega) (by omega)
   rw [hri] at hrow
   have htl : (ts[i].len : Int) = rems[i].length := by rw [← rows_len hrow]; simp
   have hnext : ∀ (T : HS) (ts2 : List Sl),LI g K left ts2 ((rems.take (i + 1)).map (drop1 x) ++ rems.drop (i + 1)) T → T.next = S0.next → (∀ id,(∀ q,left.a = some q → q.1 ≠ id) → T.heap id = S0.heap id) →
     ∃ n' S' ts',set_Union_int_1.J6 D H k (set_Union_int_1.L4 D H k r0 n) r0 y0 left x left (rems.length : Int) (i : Int) T = set_Union_int_1.L4 D H k r0 (n' + 1) y0 left x left (rems.length : Int) (rems.length : Int) S' ∧ LI g K left ts' (rems.map (drop1 x)) S' ∧ S'.next = S0.next ∧ (∀ id,(∀ q,left.a = some q → q.1 ≠ id) → S'.heap id = S0.heap id) := by
    intro T ts2 h2 hn2 hk2
    rw [set_Union_int_1.J6,w64_id (by omega) (by omega),show ((i : Int) + 1) = ((i + 1 : Nat) : Int) by simp]
    exact ih (i + 1) T ts2 (by omega) (by omega) h2 hn2 hk2
   have hsame : drop1 x rems[i] = rems[i] → (rems.take (i + 1)).map (drop1 x) ++ rems.drop (i + 1) = (rems.take i).map (drop1 x) ++ rems.drop i := by
    intro e
    rw [List.take_succ_eq_append_getElem hlt,List.map_append,List.map_singleton,e,List.append_assoc,List.singleton_append,← List.drop_eq_getElem_cons hlt]
   rw [set_Union_int_1.L4,if_pos (by omega),a1,obs,a2,obs,htl]
   cases hrc : rems[i] with
   | nil =>
    rw [if_neg (by simp),set_Union_int_1.J5,if_neg (by simp)]
    exact hnext S ts (by rw [hsame (by rw [hrc]; rfl)]; exact h) hn hk
   | cons y ys =>
    have hyl : (y :: ys).length ≤ 1000 := hxl _ (hrc ▸ List.getElem_mem hlt)
    rw [hrc] at hrow
    obtain ⟨ad1,c1,c2⟩ := head_at hrow
    rw [if_pos (by simp),c1,obs,c2,obs,set_Union_int_1.J5]
    by_cases hyx : y = x
    ·obtain ⟨sc,d1,d2⟩ := rows_cut hrow (m := 1) (by simp)
     have htl2 : (ts[i].len : Int) = (((y :: ys).map row1).length : Int) := by rw [← rows_len hrow]
     rw [show ((1 : Nat) : Int) = 1 from rfl] at d1
     obtain ⟨ad2,S2,b1,b2,b3,b4,b5,b6,b7,b8⟩ := h.vec.set_ (i := i) (row := [sc.hv]) (by simp; omega) (by simp)
     rw [if_pos (by simpa using hyx),htl2,d1,obs,b1,obs,b4,obs]
     have hm : (ts.map fun s => [s.hv]).set i [sc.hv] = (ts.set i sc).map fun s => [s.hv] := by rw [List.map_set]
     rw [hm] at b5
     refine hnext S2 (ts.set i sc) ⟨b5,?_,fun j hj hj' => ?_,fun j hj q hq => ?_⟩ (b7.trans hn) (fun id hid => (b8 id hid).trans (hk id hid))
     ·simp; omega
     ·rw [List.length_set] at hj
      by_cases hji : j = i
      ·subst hji
       rw [List.getElem_set_self]
       have e : ((rems.take (j + 1)).map (drop1 x) ++ rems.drop (j + 1))[j]'hj' = ys := by
        rw [List.getElem_append_left (by simp; omega),List.getElem_map,List.getElem_take,hrc]
        simp [drop1,hyx]
       rw [e]
       have d2' : S.rows sc 1 = some (ys.map row1) := by rw [d2]; simp
       refine rows_keep d2' fun q hq => b8 q.1 fun p hp e' => hKl p hp ?_
       have hq1 : ∃ q2,ts[j].a = some q2 ∧ q2.1 = q.1 := by
        have hc := d1
        unfold HS.cut at hc
        rcases ifc hc with ⟨_,hc⟩ | ⟨_,hc⟩
        ·cases ha : ts[j].a with
         | none =>
          rw [ha] at hc
          simp only at hc
          rcases ifc hc with ⟨_,hc⟩ | ⟨_,hc⟩
          ·simp only [Option.some.injEq] at hc
           subst hc; cases hq
          ·cases hc
         | some p2 =>
          obtain ⟨id2,off2⟩ := p2
          rw [ha] at hc
          simp only at hc
          split at hc
          ·rcases ifc hc with ⟨_,hc⟩ | ⟨_,hc⟩
           ·simp only [Option.some.injEq] at hc
            subst hc
            simp only [Option.some.injEq] at hq
            exact ⟨_,rfl,by rw [← hq]⟩
           ·cases hc
          ·cases hc
        ·cases hc
       obtain ⟨q2,hq2,hq3⟩ := hq1
       rw [e',← hq3]
       exact h.inK j (by omega) q2 hq2
      ·rw [List.getElem_set_ne (Ne.symm hji)]
       have e : ((rems.take (i + 1)).map (drop1 x) ++ rems.drop (i + 1))[j]'hj' = ((rems.take i).map (drop1 x) ++ rems.drop i)[j]'(by rw [hlen0]; omega) := by
        rcases Nat.lt_or_ge j i with g' | g'
        ·rw [List.getElem_append_left (by simp; omega),List.getElem_append_left (by simp; omega)]
         simp only [List.getElem_map,List.getElem_take]
        ·rw [List.getElem_append_right (by simp; omega),List.getElem_append_right (by simp; omega)]
         simp only [List.length_map,List.length_take,List.getElem_drop]
         congr 1
         omega
       rw [e]
       refine rows_keep (h.rows j (by omega) (by rw [hlen0]; omega)) fun q hq => b8 q.1 fun p hp e' => hKl p hp (by rw [e']; exact h.inK j (by omega) q hq)
     ·rw [List.length_set] at hj
      by_cases hji : j = i
      ·subst hji
       rw [List.getElem_set_self] at hq
       have hq1 : ∃ q2,ts[j].a = some q2 ∧ q2.1 = q.1 := by
        have hc := d1
        unfold HS.cut at hc
        rcases ifc hc with ⟨_,hc⟩ | ⟨_,hc⟩
        ·cases ha : ts[j].a with
         | none =>
          rw [ha] at hc
          simp only at hc
          rcases ifc hc with ⟨_,hc⟩ | ⟨_,hc⟩
          ·simp only [Option.some.injEq] at hc
           subst hc; cases hq
          ·cases hc
         | some p2 =>
          obtain ⟨id2,off2⟩ := p2
          rw [ha] at hc
          simp only at hc
          split at hc
          ·rcases ifc hc with ⟨_,hc⟩ | ⟨_,hc⟩
           ·simp only [Option.some.injEq] at hc
            subst hc
            simp only [Option.some.injEq] at hq
            exact ⟨_,rfl,by rw [← hq]⟩
           ·cases hc
          ·cases hc
        ·cases hc
       obtain ⟨q2,hq2,hq3⟩ := hq1
       rw [← hq3]
       exact h.inK j (by omega) q2 hq2
      ·rw [List.getElem_set_ne (Ne.symm hji)] at hq
       exact h.inK j (by omega) q hq
    ·rw [if_neg (by simpa using hyx)]
     exact hnext S ts (by rw [hsame (by rw [hrc]; simp [drop1,hyx])]; exact h) hn hk
  ·obtain rfl : i = rems.length := by omega
   refine ⟨n,S,ts,rfl,?_,hn,hk⟩
   simpa using h
theorem rem_drop {W : List Ky} {q : Nat} {vals rems : List (List Ky)} (h : Rem W q vals rems) (hW : Srt W) (hq : q < W.length) : Rem W (q + 1) vals (rems.map (drop1 W[q])) := by
 refine ⟨by simp [h.1],fun j hj hj' => ?_⟩
 rw [List.length_map] at hj
 rw [List.getElem_map]
 obtain ⟨h1,h2⟩ := h.2 j hj hj'
 have hdq : ∀ v,v ∈ W.drop q ↔ v = W[q] ∨ v ∈ W.drop (q + 1) := fun v => by rw [List.drop_eq_getElem_cons hq,List.mem_cons]
 have hnq : W[q] ∉ W.drop (q + 1) := by
  intro hm
  obtain ⟨i,hi,he⟩ := List.getElem_of_mem hm
  rw [List.getElem_drop] at he
  rw [List.length_drop] at hi
  have := hW.lt hq (show q + 1 + i < W.length by omega) (by omega)
  rw [he,klt_irrefl] at this; cases this
 cases hrc : rems[j] with
 | nil =>
  rw [hrc] at h2
  refine ⟨List.Pairwise.nil,fun v => ?_⟩
  constructor
  ·intro hv; cases hv
  ·rintro ⟨g1,g2⟩
   exact absurd ((h2 v).2 ⟨g1,(hdq v).2 (.inr g2)⟩) (by simp)
 | cons y ys =>
  rw [hrc] at h1 h2
  have hp := List.pairwise_cons.1 h1
  unfold drop1
  by_cases hy : y = W[q]
  ·simp only [if_pos hy]
   refine ⟨hp.2,fun v => ?_⟩
   constructor
   ·intro hv
    obtain ⟨g1,g2⟩ := (h2 v).1 (by simp [hv])
    refine ⟨g1,((hdq v).1 g2).resolve_left fun e => ?_⟩
    have := hp.1 v hv
    rw [e,← hy,klt_irrefl] at this; cases this
   ·rintro ⟨g1,g2⟩
    have h3 := (h2 v).2 ⟨g1,(hdq v).2 (.inr g2)⟩
    rcases List.mem_cons.1 h3 with e | e
    ·subst e; rw [hy] at g2; exact absurd g2 hnq
    ·exact e
  ·simp only [if_neg hy]
   refine ⟨h1,fun v => ?_⟩
   rw [h2 v,hdq]
   constructor
   ·rintro ⟨g1,g2 | g2⟩
    ·subst g2
     exfalso
     have hm := (h2 W[q]).2 ⟨g1,(hdq _).2 (.inl rfl)⟩
     rcases List.mem_cons.1 hm with e | e
     ·exact hy e.symm
     ·have h3 := hp.1 _ e
      have h4 := ((hdq y).1 ((h2 y).1 (by simp)).2).resolve_left hy
      obtain ⟨i,hi,he⟩ := List.getElem_of_mem h4
      rw [List.getElem_drop] at he
      rw [List.length_drop] at hi
      have := hW.lt hq (show q + 1 + i < W.length by omega) (by omega)
      rw [he] at this
      have := klt_trans this h3
      rw [klt_irrefl] at this; cases this
    ·exact ⟨g1,g2⟩
   ·rintro ⟨g1,g2⟩
    exact ⟨g1,.inr g2⟩
theorem best_head {W : List Ky} {q : Nat} {vals rems : List (List Ky)} (hU : UnionOf W vals) (h : Rem W q vals rems) {b : Int} (hB : BestH rems rems.length b) :
  (b = -1 ∧ W.length ≤ q) ∨ ∃ j0 : Nat,b = (j0 : Int) ∧ ∃ (h : j0 < rems.length) (hq : q < W.length),∃ xs,rems[j0] = W[q] :: xs := by
 rcases hB with ⟨rfl,g⟩ | ⟨j0,rfl,hj0,_,x,xs,g2,g3⟩
 ·left
  refine ⟨rfl,?_⟩
  rcases Nat.lt_or_ge q W.length with hlt | hge
  ·exfalso
   obtain ⟨ys,hys,hm⟩ := (hU.mem W[q]).1 (List.getElem_mem hlt)
   obtain ⟨j,hj,rfl⟩ := List.getElem_of_mem hys
   have hjr : j < rems.length := by rw [h.1]; exact hj
   have := ((h.2 j hjr hj).2 W[q]).2 ⟨hm,by rw [List.drop_eq_getElem_cons hlt]; exact List.mem_cons_self⟩
   rw [g j hjr hjr] at this; cases this
  ·exact hge
 ·right
  have hjv : j0 < vals.length := by rw [← h.1]; exact hj0
  have hx := ((h.2 j0 hj0 hjv).2 x).1 (by rw [g2]; simp)
  have hlt : q < W.length := by
   rcases Nat.lt_or_ge q W.length with hlt | hge
   ·exact hlt
   ·rw [List.drop_eq_nil_of_le hge] at hx; cases hx.2
  have hxe : x = W[q] := by
   have hd := hx.2
   rw [List.drop_eq_getElem_cons hlt,List.mem_cons] at hd
   rcases hd with e | e
   ·exact e
   ·exfalso
    obtain ⟨i,hi,he⟩ := List.getElem_of_mem e
    rw [List.getElem_drop] at he
    rw [List.length_drop] at hi
    have h1 := hU.srt.lt hlt (show q + 1 + i < W.length by omega) (by omega)
    rw [he] at h1
    obtain ⟨ys,hys,hm⟩ := (hU.mem W[q]).1 (List.getElem_mem hlt)
    obtain ⟨j,hj,rfl⟩ := List.getElem_of_mem hys
    have hjr : j < rems.length := by rw [h.1]; exact hj
    obtain ⟨h2,h3⟩ := h.2 j hjr hj
    have h4 := (h3 W[q]).2 ⟨hm,by rw [List.drop_eq_getElem_cons hlt]; exact List.mem_cons_self⟩
    cases hrc : rems[j] with
    | nil => rw [hrc] at h4; cases h4
    | cons y ys =>
     rw [hrc] at h2 h4
     have h5 := g3 j hjr hjr y ys hrc
     rcases List.mem_cons.1 h4 with e2 | e2
     ·rw [← e2,h1] at h5; cases h5
     ·have := klt_trans ((List.pairwise_cons.1 h2).1 _ e2) h1
      rw [this] at h5; cases h5
  exact ⟨j0,rfl,hj0,hlt,xs,by rw [g2,hxe]⟩
theorem union_tells {k n c : Nat} {B : HS} {su : Sl} {sls : List Sl} {vals : List (List Ky)} {W : List Ky} {g0 : Nat} (hk : 2000 ≤ k) (hU : UnionOf W vals) (hW : W.length ≤ 1000) (hl : vals.length ≤ 1000) (hv : ∀ xs ∈ vals,Srt xs ∧ xs.length ≤ 1000) (hc : B.heap c = .cells 1 [[su.hv]] true) (hu : UI g0 su sls vals B) (K : Nat → Prop)
  (hKc : K c) (hKu : ∀ q,su.a = some q → K q.1) (hKs : ∀ s ∈ sls,∀ q,s.a = some q → K q.1) :
  Tells (disp k (n + 2)) (.fn (.func 88) [] [.ptr (some (HA.cell0 c))]) (W.map row1) K B := by
 intro H l I Stop ht O S hI hB
 have hlenW : (W.map row1).length = W.length := by simp
 have hcS : S.heap c = .cells 1 [[su.hv]] true := (hB c hKc).1.trans hc
 have hrS : S.rows su 1 = some (sls.map fun s => [s.hv]) := rows_keep hu.vec.rows fun q hq => (hB q.1 (hKu q hq)).1
 -- the rows are laid anew
 obtain ⟨left,S1,e1,v1,f1⟩ : ∃ left S1,slices_Clone_int_int_89.f su S = some (left,S1) ∧ Vec S.next S1 1 left (sls.map fun s => [s.hv]) ∧ Fr S.next S S1 := by
  unfold slices_Clone_int_int_89.f
  by_cases ha : su.a.isNone = true
  ·have hsn : sls.map (fun s => [s.hv]) = [] := by
    have h5 := hrS
    unfold HS.rows at h5
    rw [show su.a = none by simpa using ha] at h5
    simp only at h5
    rcases ifc h5 with ⟨_,h5⟩ | ⟨_,h5⟩
    ·exact (Option.some.inj h5).symm
    ·cases h5
   rw [if_pos ha,hsn]
   exact ⟨Sl.nil,S,rfl,.nil,Fr.refl _ _⟩
  ·have hll : sls.length = vals.length := hu.len
   rw [if_neg ha,letv]
   have hr' : (S.lit [] 1).2.rows su 1 = some (sls.map fun s => [s.hv]) := rows_keep hrS fun q hq => (lit_fr (z := 1) (S := S) [] (Nat.le_refl _)).eq _ (hB q.1 (hKu q hq)).2.2
   obtain ⟨s',S1,e1,v1,f1⟩ := (Vec.lit (n := S.next) (z := 1) (S := S) [] (Nat.le_refl _)).app (new := sls.map fun s => [s.hv]) (Nat.le_succ _) (by simp; omega)
   rw [hr',obs,e1,obs]
   rw [List.nil_append] at v1
   exact ⟨s',S1,rfl,v1,(lit_fr [] (Nat.le_refl _)).trans f1⟩
 have n1 := f1.le
 have hKS : ∀ id,K id → S.heap id = B.heap id := fun id hid => (hB id hid).1
 have hleft : ∀ q,left.a = some q → S.next ≤ q.1 := fun q hq => (v1.lo q hq).1
 have hKl : ∀ q,left.a = some q → ¬ K q.1 := fun q hq hk' => by have := hleft q hq; have := (hB _ hk').2.2; omega
 have hL1 : LI S.next K left sls vals S1 := ⟨v1,hu.len,fun j hj hj' => rows_keep (hu.rows j hj hj') fun q hq => by
  have hq' := hKs _ (List.getElem_mem hj) q hq
  rw [f1.eq _ (hB _ hq').2.2,hKS _ hq'],fun j hj q hq => hKs _ (List.getElem_mem hj) q hq⟩
 have hI1 : I 0 O S1 := ht.keep 0 O S S1 hI (fun id ho => f1.eq id (ht.lt 0 O S hI id ho)) n1
 -- the rounds
 have hloop : ∀ f q O1 T ts rems,W.length - q < f → q ≤ W.length → LI S.next K left ts rems T → Rem W q vals rems → (∀ xs ∈ rems,xs.length ≤ 1000) → I q O1 T → S.next ≤ T.next → (∀ id,id < S.next → ¬ O id → T.heap id = S.heap id) → (∀ id,O1 id → O id ∨ S.next ≤ id) → (∀ p,left.a = some p → ¬ O1 p.1 ∧ p.1 < T.next) →
   ∃ S' O',set_Union_int_1.L0 (disp k (n + 1)) H k f (.fn (.yield l) [] []) left T = some ((),S') ∧ S.next ≤ S'.next ∧ (∀ id,id < S.next → ¬ O id → S'.heap id = S.heap id) ∧ (∀ id,O' id → O id ∨ S.next ≤ id) ∧ (I W.length O' S' ∨ Stop O' S') := by
  intro f
  induction f with
  | zero => intro q O1 T ts rems h; omega
  | succ f ih =>
   intro q O1 T ts rems hf hq hL hR hrl hIT hn hk2 hO hlO
   have hrlen : rems.length ≤ 1000 := by rw [hR.1]; exact hl
   rw [set_Union_int_1.L0,hL.slen]
   obtain ⟨n',b,eb,hb⟩ := best_loop (D := disp k (n + 1)) (H := H) (y0 := .fn (.yield l) [] []) (r0 := set_Union_int_1.L0 (disp k (n + 1)) H k f) (k := k) hL hrlen k 0 (-1) (by omega) (Nat.zero_le _) (.inl ⟨rfl,fun j hj h => by omega⟩)
   rw [show ((0 : Nat) : Int) = 0 from rfl] at eb
   rw [eb,set_Union_int_1.L1,if_neg (by omega)]
   rcases best_head hU hR hb with ⟨rfl,hend⟩ | ⟨j0,rfl,hj0,hlt,xs,hx⟩
   ·rw [if_pos (by omega)]
    obtain rfl : q = W.length := by omega
    exact ⟨T,O1,rfl,hn,hk2,hO,.inl hIT⟩
   ·have hll := hL.len
    obtain ⟨ad,a1,a2⟩ := hL.at_ (j := j0) (by omega)
    have hrow := hL.rows j0 (by omega) hj0
    rw [hx] at hrow
    obtain ⟨ad1,c1,c2⟩ := head_at hrow
    rw [if_neg (by omega),a1,obs,a2,obs,c1,obs,c2,obs,hL.slen]
    obtain ⟨n2,T2,ts2,ed,hL2,hn2,hkd⟩ := drop_loop (D := disp k (n + 1)) (H := H) (y0 := .fn (.yield l) [] []) (r0 := set_Union_int_1.L0 (disp k (n + 1)) H k f) (k := k) (x := W[q]) (S0 := T) hrlen hrl hKl k 0 T ts (by omega) (Nat.zero_le _) (by simpa using hL) rfl (fun _ _ => rfl)
    rw [show ((0 : Nat) : Int) = 0 from rfl] at ed
    rw [ed,set_Union_int_1.L4,if_neg (by omega)]
    have hI2 : I q O1 T2 := ht.keep q O1 T T2 hIT (fun id ho => hkd id fun p hp e => (hlO p hp).1 (e ▸ ho)) (by omega)
    obtain ⟨b,T3,O3,e3,n3,k3,o3,g1,g2⟩ := ht.step q (by omega) O1 T2 hI2
    have he : disp k (n + 1) H (.fn (.yield l) [] []) [.int .i64 W[q]] T2 = some (.bool b,T3) := by
     rw [disp_yield,← e3,List.getElem_map]; rfl
    have hk3 : ∀ id,id < S.next → ¬ O id → T3.heap id = S.heap id := fun id h1 h2 => by
     rw [k3 id (by omega) (fun ho => (hO id ho).elim h2 (fun h => by omega)),hkd id (fun p hp e => by have := hleft p hp; omega)]
     exact hk2 id h1 h2
    have hO3 : ∀ id,O3 id → O id ∨ S.next ≤ id := fun id h => (o3 id h).elim (hO id) (fun h => .inr (by omega))
    rw [he,obs]
    simp only [dB,obs]
    cases b with
    | false => exact ⟨T3,O3,rfl,by omega,hk3,hO3,.inr (g2 rfl)⟩
    | true =>
     rw [if_neg (by simp)]
     have hKT : ∀ id,K id → T3.heap id = T2.heap id := fun id hid => k3 id (by have := (hB id hid).2.2; omega) (fun ho => (hO id ho).elim (hB id hid).2.1 (fun h => by have := (hB id hid).2.2; omega))
     refine ih (q + 1) O3 T3 ts2 (rems.map (drop1 W[q])) (by omega) (by omega) (hL2.keep (fun p hp => k3 p.1 (by have := (hlO p hp).2; omega) (hlO p hp).1) hKT n3) (rem_drop hR hU.srt hlt) (fun xs hxs => ?_) (g1 rfl) (by omega) hk3 hO3 (fun p hp => ⟨fun ho => ?_,by have := (hlO p hp).2; omega⟩)
     ·obtain ⟨ys,hys,rfl⟩ := List.mem_map.1 hxs
      have := hrl ys hys
      unfold drop1
      split
      ·exact this
      ·split
       ·simp at this; omega
       ·exact this
     ·rcases o3 p.1 ho with h | h
      ·exact (hlO p hp).1 h
      ·have := (hlO p hp).2; omega
 obtain ⟨S',O',e,h1,h2,h3,h4⟩ := hloop k 0 O S1 sls vals (by omega) (Nat.zero_le _) hL1 ⟨rfl,fun j hj hj' => ⟨(hv _ (List.getElem_mem hj)).1,fun v => ⟨fun h => ⟨h,by rw [List.drop_zero]; exact (hU.mem v).2 ⟨_,List.getElem_mem hj,h⟩⟩,fun h => h.1⟩⟩⟩ (fun xs hxs => (hv xs hxs).2) hI1 n1 (fun id hid _ => f1.eq id hid) (fun id ho => .inl ho) (fun p hp => ⟨fun ho => by have := ht.lt 0 O S hI p.1 ho; have := hleft p hp; omega,(v1.lo p hp).2⟩)
 refine ⟨S',O',?_,h1,h2,h3,by rw [hlenW]; exact h4⟩
 rw [disp_func]
 have e' : call_88 (disp k (n + 1)) H k ([] ++ [HV.fn (.yield l) [] []] ++ [.ptr (some (HA.cell0 c))]) S = some (.tup [],S') := by
  rw [call_88]
  simp only [List.nil_append,List.cons_append,args2,obs,dF,dP]
  rw [set_Union_int_1.f,obs,ldSl_cell hcS,obs,e1,obs]
  erw [e]
  rfl
 repeat rw [if_neg (by decide)]
 rw [if_pos rfl,e']
end KI
namespace KI
theorem ldF_cell {S : HS} {id : Nat} {f : Fn} {u v : List HV} {b : Bool} (h : S.heap id = .cells 1 [[.fn f u v]] b) : S.ldF (HA.cell0 id) = some (.fn f u v) := by rw [HS.ldF,get_cell h]; rfl
abbrev wof (x : Ky) (xs : List Ky) : List Ky := xs.filter fun y => !decide (y = x)
theorem wof_take {x : Ky} {xs : List Ky} {i : Nat} (hi : i < xs.length) : wof x (xs.take (i + 1)) = wof x (xs.take i) ++ (if xs[i] = x then [] else [xs[i]]) := by
 rw [wof,List.take_succ_eq_append_getElem hi,List.filter_append]
 congr 1
 by_cases h : xs[i] = x <;> simp [h]
theorem wof_at {x : Ky} {xs : List Ky} {i : Nat} (hi : i < xs.length) (hne : xs[i] ≠ x) : ∃ h : (wof x (xs.take i)).length < (wof x xs).length,(wof x xs)[(wof x (xs.take i)).length] = xs[i] := by
 have e : wof x xs = wof x (xs.take i) ++ xs[i] :: wof x (xs.drop (i + 1)) := by
  conv => lhs; rw [wof,← List.take_append_drop i xs,List.filter_append,List.drop_eq_getElem_cons hi,List.filter_cons]
  simp [hne]
 refine ⟨by rw [e]; simp,?_⟩
 simp only [e]
 rw [List.getElem_append_right (Nat.le_refl _)]
 simp
theorem without_spec {k n a c : Nat} {B : HS} {fn : Fn} {u v : List HV} {x : Ky} {xs : List Ky} {K : Nat → Prop} (hT : ∀ S : HS,(∀ id,K id → S.heap id = B.heap id ∧ id < S.next) → Tells (disp k (n + 1)) (.fn fn u v) (xs.map row1) K S)
  (hK : ∀ id,K id → id < B.next) (hac : a < B.next ∧ c < B.next ∧ ¬ K a ∧ ¬ K c) (ha : B.heap a = .cells 1 [[.fn fn u v]] true) (hc : B.heap c = .cells 1 [[.int .i64 x]] true) :
  Tells (disp k (n + 2)) (.fn (.func 86) [] [.ptr (some (HA.cell0 a)),.ptr (some (HA.cell0 c))]) ((wof x xs).map row1) (fun id => id = a ∨ id = c ∨ K id) B := by
 intro H l I Stop ht O S hI hB
 have hOlt := ht.lt 0 O S hI
 have f1 : Fr S.next S (S.new (.cells 1 [[.fn (.yield l) [] []]] true)) := Fr.new (Nat.le_refl _) _
 have n1 : (S.new (.cells 1 [[.fn (.yield l) [] []]] true)).next = S.next + 1 := rfl
 have y1 : (S.new (.cells 1 [[.fn (.yield l) [] []]] true)).heap S.next = .cells 1 [[.fn (.yield l) [] []]] true := new_here _ _
 have cA := hB a (.inl rfl)
 have cC := hB c (.inr (.inl rfl))
 rw [disp_func]
 repeat rw [if_neg (by decide)]
 rw [if_pos rfl,call_86]
 simp only [List.nil_append,List.cons_append,args3,obs,dF,dP]
 rw [set_Without_int_1.f,show dF (.fn (.yield l) [] []) = some (.fn (.yield l) [] []) from rfl,obs,letv,obs]
 generalize S.new (.cells 1 [[.fn (.yield l) [] []]] true) = S1 at f1 n1 y1 ⊢
 have a1 : S1.heap a = .cells 1 [[.fn fn u v]] true := (f1.eq a cA.2.2).trans (cA.1.trans ha)
 have c1 : S1.heap c = .cells 1 [[.int .i64 x]] true := (f1.eq c cC.2.2).trans (cC.1.trans hc)
 rw [ldF_cell a1,obs,show HV.isNilFn (HV.fn fn u v) = some false from rfl,obs,if_neg (by simp),obs,ldF_cell a1,obs]
 have hlen : (xs.map row1).length = xs.length := by simp
 have hwl : ((wof x xs).map row1).length = (wof x xs).length := by simp
 let OX : (Nat → Prop) → Nat → Prop := fun O1 id => O1 id ∨ id = c ∨ id = S.next
 -- what the rounds keep
 obtain ⟨T2,st,S',O',e2,e3,de,n5,ch,lt,hn,hs⟩ := range_tells (D := disp k (n + 1)) (H := H) (fv := .fn fn u v) (S := S1) (hd := fun vs T =>
   Option.bind (HS.lp T (S1.next + 1)) fun _ => Option.bind (args1 vs) fun ar => Option.bind (dI .i64 ar) fun p => set_Without_int_1.J0 (disp k (n + 1)) H (S1.next + 1) (some (HA.cell0 c)) (some (HA.cell0 S.next)) p T)
  (bd := fun i U => if h : i < xs.length then Option.bind (U.ldI .i64 (HA.cell0 c)) fun p12 => if (!decide (xs[i] = p12)) = true then Option.bind (U.ldF (HA.cell0 S.next)) fun p15 => Option.bind (disp k (n + 1) H p15 [(.int .i64 xs[i])] U) fun p16 => Option.bind (dB p16.1) fun p17 => set_Without_int_1.J1 (disp k (n + 1)) H (S1.next + 1) (!p17) p16.2 else set_Without_int_1.J1 (disp k (n + 1)) H (S1.next + 1) false U else none)
  (hT S1 (fun id h => ⟨(f1.eq id (hB id (.inr (.inr h))).2.2).trans (hB id (.inr (.inr h))).1,by have := (hB id (.inr (.inr h))).2.2; omega⟩)) (fun id h => by have := (hB id (.inr (.inr h))).2.2; omega)
  (fun i O2 T => ∃ O1,(∀ id,O2 id ↔ OX O1 id) ∧ ¬ O1 c ∧ ¬ O1 S.next ∧ I (wof x (xs.take i)).length O1 T ∧ T.heap c = .cells 1 [[.int .i64 x]] true ∧ T.heap S.next = .cells 1 [[.fn (.yield l) [] []]] true ∧ S1.next ≤ T.next)
  (fun cd O2 T => ∃ O1,(∀ id,O2 id ↔ OX O1 id) ∧ ¬ O1 c ∧ ¬ O1 S.next ∧ Stop O1 T ∧ T.heap c = .cells 1 [[.int .i64 x]] true ∧ cd = .ret)
  (fun i O2 T T' ⟨O1,g1,g2,g3,g4,g5,g6,g7⟩ hk hn => ⟨O1,g1,g2,g3,ht.keep _ _ _ _ g4 (fun id ho => hk id ((g1 id).2 (.inl ho))) hn,(hk _ ((g1 _).2 (.inr (.inl rfl)))).trans g5,(hk _ ((g1 _).2 (.inr (.inr rfl)))).trans g6,by omega⟩)
  (fun cd O2 T T' ⟨O1,g1,g2,g3,g4,g5,g6⟩ hk hn => ⟨O1,g1,g2,g3,ht.keepS _ _ _ g4 (fun id ho => hk id ((g1 id).2 (.inl ho))) hn,(hk _ ((g1 _).2 (.inr (.inl rfl)))).trans g5,g6⟩)
  (OX O) (fun id h => by
   rcases h with g | g | g
   ·have := hOlt id g; omega
   ·have := cC.2.2; omega
   ·omega)
  ⟨O,fun _ => Iff.rfl,cC.2.1,fun h => by have := hOlt _ h; omega,by rw [List.take_zero]; exact ht.keep 0 O S S1 hI (fun id ho => f1.eq id (hOlt id ho)) f1.le,c1,y1,Nat.le_refl _⟩
  (fun id h hk' => by
   rcases h with g | g | g
   ·exact (hB id (.inr (.inr hk'))).2.1 g
   ·exact hac.2.2.2 (g ▸ hk')
   ·have := (hB id (.inr (.inr hk'))).2.2; omega)
  (fun i hi T h => by
   have hi' : i < xs.length := by simpa using hi
   rw [lp_at h,obs,List.getElem_map,show args1 (row1 xs[i]) = some (kv xs[i]) from rfl,obs,show dI .i64 (kv xs[i]) = some xs[i] from dI_at _,obs,set_Without_int_1.J0,begin_at h,obs,obs,dif_pos hi']
   rfl)
  (fun i hi O2 U ⟨O1,g1,g2,g3,g4,g5,g6,g7⟩ hn2 hl hno hlt => by
   have hi' : i < xs.length := by simpa using hi
   rw [dif_pos hi',ldI_cell g5,obs]
   by_cases hx : xs[i] = x
   ·rw [if_neg (by simp [hx]),set_Without_int_1.J1,if_neg (by simp)]
    refine ⟨U,O2,none,rfl,Chg.refl _ _,hlt,fun _ => ⟨O1,g1,g2,g3,?_,g5,g6,g7⟩,fun c h => by cases h⟩
    rw [wof_take hi',if_pos hx,List.append_nil]; exact g4
   ·obtain ⟨w1,w2⟩ := wof_at hi' hx
    obtain ⟨b,T3,O3,e3,n3,k3,o3,p1,p2⟩ := ht.step (wof x (xs.take i)).length (by simpa using w1) O1 U g4
    have he : disp k (n + 1) H (.fn (.yield l) [] []) [.int .i64 xs[i]] U = some (.bool b,T3) := by
     rw [disp_yield,← e3]
     simp only [List.getElem_map,w2]
     rfl
    have lt3 : ∀ id,O3 id → id < T3.next := fun id ho => by
     cases b with
     | true => exact ht.lt _ _ _ (p1 rfl) id ho
     | false => exact ht.ltS _ _ (p2 rfl) id ho
    have hno3 : ∀ id,id < U.next → ¬ O1 id → ¬ O3 id := fun id q1 q2 q3 => by
     rcases o3 id q3 with g | g
     ·exact q2 g
     ·omega
    have hcU : c < U.next := by have := cC.2.2; omega
    have c3 : T3.heap c = .cells 1 [[.int .i64 x]] true := (k3 c hcU g2).trans g5
    have s3 : T3.heap S.next = .cells 1 [[.fn (.yield l) [] []]] true := (k3 _ (by omega) g3).trans g6
    have hch : Chg O2 (OX O3) U T3 := ⟨n3,fun id q1 q2 => k3 id q1 (fun h => q2 ((g1 id).2 (.inl h))),fun id ho => by
     rcases ho with h | h
     ·exact (o3 id h).elim (fun g => .inl ((g1 id).2 (.inl g))) .inr
     ·exact .inl ((g1 id).2 (.inr h))⟩
    have hlt3 : ∀ id,OX O3 id → id < T3.next := fun id ho => by
     rcases ho with h | h | h
     ·exact lt3 id h
     ·omega
     ·omega
    rw [if_pos (by simpa using hx),ldF_cell g6,obs,he,obs]
    simp only [dB,obs]
    cases b with
    | true =>
     rw [set_Without_int_1.J1,if_neg (by simp)]
     refine ⟨T3,OX O3,none,rfl,hch,hlt3,fun _ => ⟨O3,fun _ => Iff.rfl,hno3 c hcU g2,hno3 _ (by omega) g3,?_,c3,s3,by omega⟩,fun c h => by cases h⟩
     rw [wof_take hi',if_neg hx,List.length_append,List.length_singleton]; exact p1 rfl
    | false =>
     rw [set_Without_int_1.J1,if_pos (by rfl)]
     refine ⟨T3,OX O3,some .ret,rfl,hch,hlt3,fun h => (by cases h),fun cd hcd => ⟨O3,fun _ => Iff.rfl,hno3 c hcU g2,hno3 _ (by omega) g3,p2 rfl,c3,by cases hcd; rfl⟩⟩)
 erw [e2]
 rw [obs]
 simp only [e3,obs]
 have hle := ch.le
 have fin : ∀ (S2 : HS) (O1 : Nat → Prop),(∀ id,O' id ↔ OX O1 id) → ¬ O1 c → ¬ O1 S.next → S'.heap c = .cells 1 [[.int .i64 x]] true → (∀ id,id ≠ S1.next → S2.heap id = S'.heap id) → S2.next = S'.next →
   S.next ≤ S2.next ∧ (∀ id,id < S.next → ¬ O id → S2.heap id = S.heap id) ∧ (∀ id,O1 id → O id ∨ S.next ≤ id) := fun S2 O1 h1 h2 h2' h3 h4 h5 => by
  refine ⟨by omega,fun id q1 q2 => ?_,fun id ho => ?_⟩
  ·rw [h4 id (by omega)]
   by_cases hc' : id = c
   ·subst hc'; rw [h3,cC.1,hc]
   ·rw [ch.eq id (by omega) (fun h => by
     rcases h with g | g | g
     ·exact q2 g
     ·exact hc' g
     ·omega),f1.eq id q1]
  ·rcases ch.own id ((h1 id).2 (.inl ho)) with g | g
   ·rcases g with g | g | g
    ·exact .inl g
    ·subst g; exact absurd ho h2
    ·exact .inr (by omega)
   ·exact .inr (by omega)
 cases hst : st with
 | none =>
  obtain ⟨O1,g1,g2,g3,g4,g5,g6,g7⟩ := hn hst
  rw [hlen,List.take_length] at g4
  simp only [pcode,obs,if_true]
  simp only [HS.leave,de,obs]
  obtain ⟨q1,q2,q3⟩ := fin (S'.put S1.next .dead) O1 g1 g2 g3 g5 (fun id h => put_other _ h) rfl
  exact ⟨_,O1,rfl,q1,q2,q3,.inl (by rw [hwl]; exact ht.keep _ _ _ _ g4 (fun id ho => put_other _ (lt id ((g1 id).2 (.inl ho))).1) (Nat.le_refl _))⟩
 | some cd =>
  obtain ⟨O1,g1,g2,g3,g4,g5,g6⟩ := hs cd hst
  subst g6
  simp only [pcode,obs,if_true,if_false,show ¬ (1 : Nat) = 0 by decide]
  simp only [HS.leave,de,obs]
  obtain ⟨q1,q2,q3⟩ := fin (S'.put S1.next .dead) O1 g1 g2 g3 g5 (fun id h => put_other _ h) rfl
  exact ⟨_,O1,rfl,q1,q2,q3,.inr (ht.keepS _ _ _ g4 (fun id ho => put_other _ (lt id ((g1 id).2 (.inl ho))).1) (Nat.le_refl _))⟩
end KI
namespace KI
theorem UI.keepK {g : Nat} {su : Sl} {sls : List Sl} {vals : List (List Ky)} {S S' : HS} (h : UI g su sls vals S) (K : Nat → Prop) (h1 : ∀ q,su.a = some q → K q.1) (h2 : ∀ s ∈ sls,∀ q,s.a = some q → K q.1) (hk : ∀ id,K id → S'.heap id = S.heap id ∧ id < S'.next) : UI g su sls vals S' := by
 refine ⟨?_,h.len,fun j hj hj' => rows_keep (h.rows j hj hj') fun q hq => (hk _ (h2 _ (List.getElem_mem hj) q hq)).1,fun j hj q hq => ?_⟩
 ·have hv := h.vec
  have hk' : ∀ q,su.a = some q → S'.heap q.1 = S.heap q.1 ∧ q.1 < S'.next := fun q hq => hk _ (h1 q hq)
  generalize sls.map (fun s => [s.hv]) = R at hv ⊢
  cases hv with
  | nil => exact .nil
  | open_ g1 g2 g3 => exact .open_ ((hk' _ rfl).1.trans g1) g2 (hk' _ rfl).2
  | capped g1 g2 g3 g4 g5 g6 => exact .capped ((hk' _ rfl).1.trans g1) g2 (hk' _ rfl).2 g4 g5 g6
 ·have := h.lo j hj q hq
  exact ⟨this.1,(hk _ (h2 _ (List.getElem_mem hj) q hq)).2,this.2.2⟩
theorem uniW_tells {n : Nat} {sl : Sl} {ps : List (Option Nat)} {vals : List (List Ky)} {W : List Ky} {S : HS} {x : Int} (hs : Sets ps vals S) (hr : Rd S.next S 1 sl (ps.map ptrRow)) (hl : ps.length ≤ 1000) (hU : UnionOf W vals) (hW2 : W.length ≤ 1000) (hv : ∀ xs ∈ vals,Srt xs ∧ xs.length ≤ 1000) :
  ∃ fv S1 fn u v S2 K,set_Union_int.f 2000 sl S = some (fv,S1) ∧ set_Without_int.f fv x S1 = some (.fn fn u v,S2) ∧ Tells (disp 2000 (n + 3)) (.fn fn u v) ((wof x W).map row1) K S2 ∧ (∀ id,K id → S.next ≤ id ∧ id < S2.next) ∧ Fr S.next S S2 := by
 obtain ⟨su,sls,S1,e1,d1,u1,f1,n1⟩ := union_spec (k := 2000) (Nat.le_refl _) hs hr hl
 have hKlt : ∀ id,(id = S.next ∨ (∃ q,su.a = some q ∧ q.1 = id) ∨ ∃ s ∈ sls,∃ q,s.a = some q ∧ q.1 = id) → id < S1.next := fun id h => by
  rcases h with rfl | ⟨q,h,rfl⟩ | ⟨s,hs,q,h,rfl⟩
  ·omega
  ·exact (u1.vec.lo q h).2
  ·obtain ⟨j,hj,rfl⟩ := List.getElem_of_mem hs
   exact (u1.lo j hj q h).2.1
 have hx : ∃ S2,set_Without_int.f (.fn (.func 88) [] [.ptr (some (HA.cell0 S.next))]) x S1 = some (.fn (.func 86) [] [.ptr (some (HA.cell0 S1.next)),.ptr (some (HA.cell0 (S1.next + 1)))],S2) ∧ S2.next = S1.next + 2 ∧ Fr S1.next S1 S2 ∧ S2.heap S1.next = .cells 1 [[.fn (.func 88) [] [.ptr (some (HA.cell0 S.next))]]] true ∧ S2.heap (S1.next + 1) = .cells 1 [[.int .i64 x]] true := by
  rw [set_Without_int.f,show dF (.fn (.func 88) [] [.ptr (some (HA.cell0 S.next))]) = some (.fn (.func 88) [] [.ptr (some (HA.cell0 S.next))]) from rfl,obs,letv,letv]
  exact ⟨_,rfl,rfl,(Fr.new (Nat.le_refl _) _).trans (Fr.new (by rw [new_next]; omega) _),by rw [new_old _ (by rw [new_next]; omega)]; exact new_here _ _,new_here (S1.new _) _⟩
 obtain ⟨S2,e2,n2,f2,a2,c2⟩ := hx
 have hT := without_spec (k := 2000) (n := n + 1) (B := S2) (x := x) (xs := W) (K := fun id => id = S.next ∨ (∃ q,su.a = some q ∧ q.1 = id) ∨ ∃ s ∈ sls,∃ q,s.a = some q ∧ q.1 = id) (fn := .func 88) (u := []) (v := [.ptr (some (HA.cell0 S.next))]) (a := S1.next) (c := S1.next + 1)
  (fun T hT => union_tells (k := 2000) (n := n) (c := S.next) (W := W) (Nat.le_refl _) hU hW2 (by rw [← hs.1]; exact hl) hv ((hT _ (.inl rfl)).1.trans ((f2.eq _ n1).trans d1)) (u1.keepK (fun id => id = S.next ∨ (∃ q,su.a = some q ∧ q.1 = id) ∨ ∃ s ∈ sls,∃ q,s.a = some q ∧ q.1 = id) (fun q hq => .inr (.inl ⟨q,hq,rfl⟩)) (fun s hs q hq => .inr (.inr ⟨s,hs,q,hq,rfl⟩)) (fun id h => ⟨(hT id h).1.trans (f2.eq id (hKlt id h)),(hT id h).2⟩))
   _ (.inl rfl) (fun q hq => .inr (.inl ⟨q,hq,rfl⟩)) (fun s hs q hq => .inr (.inr ⟨s,hs,q,hq,rfl⟩)))
  (fun id h => by have := hKlt id h; omega) ⟨by omega,by omega,fun h => by have := hKlt _ h; omega,fun h => by have := hKlt _ h; omega⟩ a2 c2
 refine ⟨_,S1,_,_,_,S2,_,e1,e2,hT,fun id h => ?_,f1.trans (f2.mono (by omega))⟩
 rcases h with rfl | rfl | h
 ·omega
 ·omega
 ·have h2 := hKlt id h
  refine ⟨?_,by omega⟩
  rcases h with rfl | ⟨q,h,rfl⟩ | ⟨s,hs,q,h,rfl⟩
  ·exact Nat.le_refl _
  ·have := (u1.vec.lo q h).1; omega
  ·obtain ⟨j,hj,rfl⟩ := List.getElem_of_mem hs
   have := (u1.lo j hj q h).1; omega
end KI
structure Gp (b : Nat) (sts : List (Nat × Sl)) (vs : List (List Int)) (sl : Sl) (U : HS) : Prop where
 co : U.heap b = .cells 1 [[sl.hv]] true
 vec : Vec (b + 1) U 1 sl ((sts.map fun p => some (HA.cell0 p.1)).map PK.row1)
 len : sts.length = vs.length
 si : ∀ j (h : j < sts.length) (h' : j < vs.length),KI.SI sts[j].1 sts[j].2 vs[j] U
 lo : ∀ p ∈ sts,∀ y,Own p.1 p.2 y → b + 1 ≤ y ∧ ∀ q,sl.a = some q → q.1 ≠ y
 nx : b + 1 ≤ U.next
def Op (b : Nat) (sts : List (Nat × Sl)) (sl : Sl) (y : Nat) : Prop := y = b ∨ (∃ q,sl.a = some q ∧ q.1 = y) ∨ ∃ p ∈ sts,Own p.1 p.2 y
theorem Gp.keep {b : Nat} {sts : List (Nat × Sl)} {vs : List (List Int)} {sl : Sl} {U U' : HS} (h : Gp b sts vs sl U) (hk : ∀ y,Op b sts sl y → U'.heap y = U.heap y) (hn : U.next ≤ U'.next) : Gp b sts vs sl U' :=
 ⟨(hk _ (.inl rfl)).trans h.co,vec_keep h.vec (fun q hq => hk _ (.inr (.inl ⟨q,hq,rfl⟩))) hn,h.len,fun j h1 h2 => (h.si j h1 h2).keep (fun y g => hk y (.inr (.inr ⟨_,List.getElem_mem h1,g⟩))) hn,h.lo,Nat.le_trans h.nx hn⟩
theorem Gp.lt {b : Nat} {sts : List (Nat × Sl)} {vs : List (List Int)} {sl : Sl} {U : HS} (h : Gp b sts vs sl U) {y : Nat} (ho : Op b sts sl y) : y < U.next := by
 rcases ho with rfl | ⟨q,hq,rfl⟩ | ⟨p,hp,g⟩
 ·have := h.nx; omega
 ·exact (h.vec.lo q hq).2
 ·obtain ⟨j,hj,rfl⟩ := List.getElem_of_mem hp
  exact (h.si j hj (by have := h.len; omega)).lt g
namespace KI
end KI
end Go.Proofs.YtbmfomkfmpppiaaGreat.X
