/- Maps of sets, keys of int, things of int, plain. -/
import Derived.Test.YtdgmehfhgppheaaPsMoreS
namespace Go.Proofs.Ytdgmehfhgppheaa.X
open Go.Proofs.Ytdgmehfhgppheaa.HL
set_option linter.unusedVariables false
namespace MI
abbrev Kk := KI.Ky
abbrev Vv := KI.Ky
structure En where
  key : Kk
  p : Nat
  s : Sl
  xs : List Vv
def ent (e : En) : HV × HV := (KI.kv e.key, .ptr (some (HA.cell0 e.p)))
theorem kSame_kv (a b : Kk) : kSame (KI.kv a) (KI.kv b) = some (a == b) := by simp [kSame, KI.kv]
theorem mf_none {k : Kk} : ∀ {E : List En} (i : Nat), (∀ e ∈ E, e.key ≠ k) → mfind (KI.kv k) (E.map ent) i = some none := by
  intro E
  induction E with
  | nil => intro i _; rfl
  | cons e E ih =>
    intro i h
    rw [List.map_cons, mfind.eq_def]
    simp only [ent, kSame_kv, show (k == e.key) = false from beq_eq_false_iff_ne.2 (fun g => h e (by simp) g.symm)]
    exact ih (i + 1) fun x hx => h x (by simp [hx])
theorem mf_at {k : Kk} {e : En} {B : List En} (hk : e.key = k) : ∀ {A : List En} (i : Nat), (∀ a ∈ A, a.key ≠ k) → mfind (KI.kv k) ((A ++ e :: B).map ent) i = some (some (i + A.length, .ptr (some (HA.cell0 e.p)))) := by
  intro A
  induction A with
  | nil =>
    intro i _
    rw [List.nil_append, List.map_cons, mfind.eq_def]
    simp only [ent, kSame_kv, hk, beq_self_eq_true]
    rfl
  | cons a A ih =>
    intro i h
    rw [List.cons_append, List.map_cons, mfind.eq_def]
    simp only [ent, kSame_kv, show (k == a.key) = false from beq_eq_false_iff_ne.2 (fun g => h a (by simp) g.symm)]
    rw [ih (i + 1) fun x hx => h x (by simp [hx])]
    simp; omega
structure MS (m : Nat) (E : List En) (S : HS) : Prop where
  mp : S.heap m = .map (E.map ent)
  nd : E.Pairwise fun a b => a.key ≠ b.key
  si : ∀ e ∈ E, KI.SI e.p e.s e.xs S
  dis : E.Pairwise fun a b => ∀ id, Own a.p a.s id → ¬ Own b.p b.s id
  nm : ∀ e ∈ E, ¬ Own e.p e.s m
  lt : m < S.next
def OM (m : Nat) (E : List En) (id : Nat) : Prop := id = m ∨ ∃ e ∈ E, Own e.p e.s id
def mem (E : List En) (k : Kk) (v : Vv) : Prop := ∃ e ∈ E, e.key = k ∧ v ∈ e.xs
theorem MS.ltO {m : Nat} {E : List En} {S : HS} (h : MS m E S) {id : Nat} (ho : OM m E id) : id < S.next := by
  rcases ho with rfl | ⟨e, he, ho⟩
  · exact h.lt
  · exact (h.si e he).lt ho
theorem MS.keep {m : Nat} {E : List En} {S S' : HS} (h : MS m E S) (hk : ∀ id, OM m E id → S'.heap id = S.heap id) (hn : S.next ≤ S'.next) : MS m E S' :=
  ⟨(hk m (.inl rfl)).trans h.mp, h.nd, fun e he => (h.si e he).keep (fun id ho => hk id (.inr ⟨e, he, ho⟩)) hn, h.dis, h.nm, Nat.lt_of_lt_of_le h.lt hn⟩
theorem MS.fr {m : Nat} {E : List En} {S S' : HS} (h : MS m E S) (hf : Fr S.next S S') : MS m E S' := h.keep (fun id ho => hf.eq id (h.ltO ho)) hf.le
theorem split_at {E : List En} {k : Kk} (hn : E.Pairwise fun a b => a.key ≠ b.key) {e : En} (he : e ∈ E) (hk : e.key = k) : ∃ A B, E = A ++ e :: B ∧ ∀ a ∈ A, a.key ≠ k := by
  obtain ⟨A, B, rfl⟩ := List.append_of_mem he
  refine ⟨A, B, rfl, fun a ha => ?_⟩
  rw [List.pairwise_append] at hn
  have := hn.2.2 a ha e (by simp)
  rw [← hk]; exact this
/-- What stands under a key. -/
theorem get_spec {m : Nat} {E : List En} {S : HS} (h : MS m E S) (k : Kk) : (S.look (some m) (KI.kv k) = some none ∧ ∀ e ∈ E, e.key ≠ k) ∨ ∃ A e B, E = A ++ e :: B ∧ e.key = k ∧ (∀ a ∈ A, a.key ≠ k) ∧ S.look (some m) (KI.kv k) = some (some (.ptr (some (HA.cell0 e.p)))) := by
  by_cases hx : ∃ e ∈ E, e.key = k
  · obtain ⟨e, he, hk⟩ := hx
    obtain ⟨A, B, rfl, hA⟩ := split_at h.nd he hk
    refine .inr ⟨A, e, B, rfl, hk, hA, ?_⟩
    rw [HS.look, HS.mp, h.mp, Option.bind_some, mf_at hk 0 hA]; rfl
  · refine .inl ⟨?_, fun e he g => hx ⟨e, he, g⟩⟩
    rw [HS.look, HS.mp, h.mp, Option.bind_some, mf_none 0 fun e he g => hx ⟨e, he, g⟩]; rfl
/-- One set is another now. -/
theorem MS.upd {m : Nat} {A B : List En} {e : En} {s' : Sl} {xs' : List Vv} {S S' : HS} (h : MS m (A ++ e :: B) S) (hs : KI.SI e.p s' xs' S') (ho : Only e.p e.s s' S S') :
    MS m (A ++ ⟨e.key, e.p, s', xs'⟩ :: B) S' ∧ Chg (OM m (A ++ e :: B)) (OM m (A ++ ⟨e.key, e.p, s', xs'⟩ :: B)) S S' := by
  have hle := ho.le
  have hd := h.dis
  rw [List.pairwise_append, List.pairwise_cons] at hd
  have hn := h.nd
  rw [List.pairwise_append, List.pairwise_cons] at hn
  have hso : ∀ id, Own e.p s' id → Own e.p e.s id ∨ S.next ≤ id := ho.own
  have hoth : ∀ a, a ∈ A ∨ a ∈ B → a ∈ A ++ e :: B ∧ ∀ id, Own a.p a.s id → ¬ Own e.p e.s id := fun a ha => by
    rcases ha with g | g
    · exact ⟨by simp [g], fun id h1 h2 => hd.2.2 a g e (by simp) id h1 h2⟩
    · exact ⟨by simp [g], fun id h1 h2 => hd.2.1.1 a g id h2 h1⟩
  have hnew : ∀ a, a ∈ A ∨ a ∈ B → ∀ id, Own a.p a.s id → ¬ Own e.p s' id := fun a ha id h1 h2 => by
    rcases hso id h2 with g | g
    · exact (hoth a ha).2 id h1 g
    · have := (h.si a (hoth a ha).1).lt h1; omega
  refine ⟨⟨?_, ?_, fun x hx => ?_, ?_, fun x hx => ?_, by have := h.lt; omega⟩, ⟨hle, fun id h1 h2 => ho.eq id h1 fun g => h2 (.inr ⟨e, by simp, g⟩), fun id hid => ?_⟩⟩
  · rw [ho.eq m h.lt (h.nm e (by simp)), h.mp]
    simp [ent]
  · rw [List.pairwise_append, List.pairwise_cons]
    refine ⟨hn.1, ⟨hn.2.1.1, hn.2.1.2⟩, fun a ha b hb => ?_⟩
    rcases List.mem_cons.1 hb with rfl | hb
    · exact hn.2.2 a ha e (by simp)
    · exact hn.2.2 a ha b (by simp [hb])
  · rcases List.mem_append.1 hx with g | g
    · exact (h.si x (by simp [g])).keep (fun id h1 => ho.eq id ((h.si x (by simp [g])).lt h1) ((hoth x (.inl g)).2 id h1)) hle
    · rcases List.mem_cons.1 g with rfl | g
      · exact hs
      · exact (h.si x (by simp [g])).keep (fun id h1 => ho.eq id ((h.si x (by simp [g])).lt h1) ((hoth x (.inr g)).2 id h1)) hle
  · rw [List.pairwise_append, List.pairwise_cons]
    refine ⟨hd.1, ⟨fun b hb id h1 h2 => hnew b (.inr hb) id h2 h1, hd.2.1.2⟩, fun a ha b hb => ?_⟩
    rcases List.mem_cons.1 hb with rfl | hb
    · exact hnew a (.inl ha)
    · exact hd.2.2 a ha b (by simp [hb])
  · rcases List.mem_append.1 hx with g | g
    · exact h.nm x (by simp [g])
    · rcases List.mem_cons.1 g with rfl | g
      · intro g'
        rcases hso m g' with g2 | g2
        · exact h.nm e (by simp) g2
        · have := h.lt; omega
      · exact h.nm x (by simp [g])
  · rcases hid with rfl | ⟨x, hx, g⟩
    · exact .inl (.inl rfl)
    · rcases List.mem_append.1 hx with g' | g'
      · exact .inl (.inr ⟨x, by simp [g'], g⟩)
      · rcases List.mem_cons.1 g' with rfl | g'
        · exact (hso id g).imp (fun q => .inr ⟨e, by simp, q⟩) id_
        · exact .inl (.inr ⟨x, by simp [g'], g⟩)
where id_ {p : Prop} (h : p) : p := h
theorem j0_spec {k m : Nat} {A B : List En} {e : En} {v : Vv} {S : HS} (hk : 2000 ≤ k) (h : MS m (A ++ e :: B) S) (hA : ∀ a ∈ A, a.key ≠ e.key) (hc : e.xs.length < 1000) :
    ∃ s' xs' S', pair_put_int_int.J0 k (some m) e.key v S = some ((), S') ∧ MS m (A ++ ⟨e.key, e.p, s', xs'⟩ :: B) S' ∧ Chg (OM m (A ++ e :: B)) (OM m (A ++ ⟨e.key, e.p, s', xs'⟩ :: B)) S S' ∧ (∀ u, u ∈ xs' ↔ u ∈ e.xs ∨ u = v) ∧ xs'.length ≤ e.xs.length + 1 := by
  have he := h.si e (by simp)
  have hlk : S.look (some m) (KI.kv e.key) = some (some (.ptr (some (HA.cell0 e.p)))) := by
    rw [HS.look, HS.mp, h.mp, Option.bind_some, mf_at rfl 0 hA]; rfl
  have fl : Fr S.next S (S.lit [[.int .i64 v]] 1).2 := lit_fr _ (Nat.le_refl _)
  have nl : (S.lit [[.int .i64 v]] 1).2.next = S.next + 1 := rfl
  have rl : (S.lit [[.int .i64 v]] 1).2.rows (S.lit [[.int .i64 v]] 1).1 1 = some ([v].map KI.row1) := (Vec.lit (n := 0) (z := 1) (S := S) _ (Nat.zero_le _)).rows
  have ql : ∀ q, (S.lit [[.int .i64 v]] 1).1.a = some q → q.1 = S.next := fun q hq => by cases hq; rfl
  rw [pair_put_int_int.J0]
  erw [hlk]
  rw [Option.bind_some, show dP ((some (HV.ptr (some (HA.cell0 e.p)))).getD (.ptr none)) = some (some (HA.cell0 e.p)) from rfl, Option.bind_some, letv]
  generalize S.lit [[.int .i64 v]] 1 = P at fl nl rl ql ⊢
  obtain ⟨sl, S1⟩ := P
  simp only at fl nl rl ql ⊢
  have h1 := h.fr fl
  have he1 := he.fr fl
  obtain ⟨s', xs', S2, e2, i2, o2, m2, c2, c2'⟩ := KI.add_spec hk he1 rl (fun q hq => by
    have := ql q hq
    exact ⟨by omega, fun g => by have := he.lt g; omega⟩) (by simp; omega)
  obtain ⟨g1, g2⟩ := h1.upd i2 o2
  rw [e2, Option.bind_some]
  exact ⟨s', xs', S2, rfl, g1, (Chg.of_fr fl).trans g2, fun u => by rw [m2]; simp, by simpa using c2'⟩
theorem put_spec {k m n : Nat} {E : List En} {key : Kk} {v : Vv} {S : HS} (hk : 2000 ≤ k) (h : MS m E S) (hne : ∀ e ∈ E, e.xs ≠ []) (hc : ∀ e ∈ E, e.xs.length ≤ n) (hn : n < 1000) :
    ∃ E' S', pair_put_int_int.f k (some m) key v S = some ((), S') ∧ MS m E' S' ∧ Chg (OM m E) (OM m E') S S' ∧ (∀ k' v', mem E' k' v' ↔ mem E k' v' ∨ (k' = key ∧ v' = v)) ∧ (∀ e ∈ E', e.xs ≠ []) ∧ (∀ e ∈ E', e.xs.length ≤ n + 1) := by
  have hmem : ∀ (A B : List En) (e : En) (s' : Sl) (xs' : List Vv), e.key = key → (∀ u, u ∈ xs' ↔ u ∈ e.xs ∨ u = v) → ∀ k' v', mem (A ++ ⟨e.key, e.p, s', xs'⟩ :: B) k' v' ↔ mem (A ++ e :: B) k' v' ∨ (k' = key ∧ v' = v) := by
    intro A B e s' xs' hke hx k' v'
    constructor
    · rintro ⟨x, hx1, hx2, hx3⟩
      rcases List.mem_append.1 hx1 with g | g
      · exact .inl ⟨x, by simp [g], hx2, hx3⟩
      · rcases List.mem_cons.1 g with rfl | g
        · rcases (hx v').1 hx3 with g2 | g2
          · exact .inl ⟨e, by simp, hx2, g2⟩
          · exact .inr ⟨by rw [← hx2]; exact hke, g2⟩
        · exact .inl ⟨x, by simp [g], hx2, hx3⟩
    · rintro (⟨x, hx1, hx2, hx3⟩ | ⟨rfl, rfl⟩)
      · rcases List.mem_append.1 hx1 with g | g
        · exact ⟨x, by simp [g], hx2, hx3⟩
        · rcases List.mem_cons.1 g with rfl | g
          · exact ⟨⟨x.key, x.p, s', xs'⟩, by simp, hx2, (hx v').2 (.inl hx3)⟩
          · exact ⟨x, by simp [g], hx2, hx3⟩
      · exact ⟨⟨e.key, e.p, s', xs'⟩, by simp, hke, (hx _).2 (.inr rfl)⟩
  rw [pair_put_int_int.f]
  rcases get_spec h key with ⟨e1, hno⟩ | ⟨A, e, B, rfl, hke, hA, e1⟩
  · obtain ⟨s, xs, S1, e2, i2, f2, o2, m2, c2⟩ := KI.of_spec (k := k) (sl := Sl.nil) (ls := []) (S := S) hk ⟨rfl, fun q hq => by cases hq⟩ (by simp)
    have hx : xs = [] := by simpa using c2
    subst hx
    have h1 := h.fr f2
    have le2 := f2.le
    have hput : S1.mput (some m) (KI.kv key) (.ptr (some (HA.cell0 S.next))) = some (S1.put m (.map ((E ++ [(⟨key, S.next, s, []⟩ : En)]).map ent))) := by
      simp only [HS.mput, h1.mp]
      rw [mf_none 0 hno]
      simp [ent]
    erw [e1]
    rw [Option.bind_some, show dP ((none : Option HV).getD (.ptr none)) = some none from rfl, Option.bind_some, if_pos (by rfl), e2, Option.bind_some]
    erw [hput]
    rw [Option.bind_some]
    have hmO : ∀ id, Own S.next s id → id ≠ m := fun id g => by have := o2 id g; have := h.lt; omega
    have h2 : MS m (E ++ (⟨key, S.next, s, []⟩ : En) :: []) (S1.put m (.map ((E ++ [(⟨key, S.next, s, []⟩ : En)]).map ent))) := by
      refine ⟨put_here _ _ _, ?_, fun x hx => ?_, ?_, fun x hx => ?_, by rw [put_next]; have := h.lt; omega⟩
      · rw [List.pairwise_append]
        exact ⟨h.nd, List.pairwise_singleton _ _, fun a ha b hb => by simp at hb; subst hb; exact hno a ha⟩
      · rcases List.mem_append.1 hx with g | g
        · exact (h1.si x g).keep (fun id ho => put_other _ (fun q => by subst q; exact h1.nm x g ho)) (Nat.le_refl _)
        · simp at g; subst g; exact i2.keep (fun id ho => put_other _ (hmO id ho)) (Nat.le_refl _)
      · rw [List.pairwise_append]
        refine ⟨h.dis, List.pairwise_singleton _ _, fun a ha b hb id g1 g2 => ?_⟩
        simp at hb; subst hb
        have := (h.si a ha).lt g1
        have := o2 id g2
        omega
      · rcases List.mem_append.1 hx with g | g
        · exact h.nm x g
        · simp at g; subst g; exact fun ho => hmO m ho rfl
    have hch : Chg (OM m E) (OM m (E ++ (⟨key, S.next, s, []⟩ : En) :: [])) S (S1.put m (.map ((E ++ [(⟨key, S.next, s, []⟩ : En)]).map ent))) := by
      refine ⟨by rw [put_next]; omega, fun id g1 g2 => by rw [put_other _ (fun q => g2 (.inl q))]; exact f2.eq id g1, fun id ho => ?_⟩
      rcases ho with g | ⟨x, hx, g⟩
      · exact .inl (.inl g)
      · rcases List.mem_append.1 hx with g' | g'
        · exact .inl (.inr ⟨x, g', g⟩)
        · simp at g'; subst g'; exact .inr (o2 id g)
    obtain ⟨s', xs', S3, e3, g1, g2, g3, g4⟩ := j0_spec (v := v) hk h2 hno (by simp)
    refine ⟨_, S3, e3, g1, hch.trans g2, fun k' v' => ?_, fun x hx => ?_, fun x hx => ?_⟩
    · rw [hmem E [] ⟨key, S.next, s, []⟩ s' xs' rfl g3]
      have : mem (E ++ (⟨key, S.next, s, []⟩ : En) :: []) k' v' ↔ mem E k' v' := by
        constructor
        · rintro ⟨x, hx, q1, q2⟩
          rcases List.mem_append.1 hx with g | g
          · exact ⟨x, g, q1, q2⟩
          · simp at g; subst g; cases q2
        · rintro ⟨x, hx, q1, q2⟩; exact ⟨x, by simp [hx], q1, q2⟩
      rw [this]
    · rcases List.mem_append.1 hx with g | g
      · exact hne x g
      · simp at g; subst g
        intro q
        have := (g3 v).2 (.inr rfl)
        simp only at q
        rw [q] at this; cases this
    · rcases List.mem_append.1 hx with g | g
      · have := hc x g; omega
      · simp at g; subst g; simp at g4; simp; omega
  · subst hke
    obtain ⟨s', xs', S3, e3, g1, g2, g3, g4⟩ := j0_spec (v := v) hk h hA (by have := hc e (by simp); omega)
    erw [e1]
    rw [Option.bind_some, show dP ((some (HV.ptr (some (HA.cell0 e.p)))).getD (.ptr none)) = some (some (HA.cell0 e.p)) from rfl, Option.bind_some, if_neg (by simp), e3]
    refine ⟨_, S3, rfl, g1, g2, fun k' v' => hmem A B e s' xs' rfl g3 k' v', fun x hx => ?_, fun x hx => ?_⟩
    · rcases List.mem_append.1 hx with g | g
      · exact hne x (by simp [g])
      · rcases List.mem_cons.1 g with rfl | g
        · intro q
          have := (g3 v).2 (.inr rfl)
          simp only at q
          rw [q] at this; cases this
        · exact hne x (by simp [g])
    · rcases List.mem_append.1 hx with g | g
      · have := hc x (by simp [g]); omega
      · rcases List.mem_cons.1 g with rfl | g
        · have := hc e (by simp); simp only; omega
        · have := hc x (by simp [g]); omega
theorem MS.del {m : Nat} {A B : List En} {e : En} {S : HS} (h : MS m (A ++ e :: B) S) (hA : ∀ a ∈ A, a.key ≠ e.key) :
    ∃ S', S.mdel (some m) (KI.kv e.key) = some S' ∧ MS m (A ++ B) S' ∧ Chg (OM m (A ++ e :: B)) (OM m (A ++ B)) S S' := by
  have hd := h.dis
  rw [List.pairwise_append, List.pairwise_cons] at hd
  have hn := h.nd
  rw [List.pairwise_append, List.pairwise_cons] at hn
  have hsub : ∀ x, x ∈ A ++ B → x ∈ A ++ e :: B := fun x hx => by
    rcases List.mem_append.1 hx with g | g <;> simp [g]
  refine ⟨S.put m (.map ((A ++ B).map ent)), ?_, ⟨put_here _ _ _, ?_, fun x hx => (h.si x (hsub x hx)).keep (fun id ho => put_other _ (fun q => by subst q; exact h.nm x (hsub x hx) ho)) (Nat.le_refl _), ?_, fun x hx => h.nm x (hsub x hx), h.lt⟩, ⟨Nat.le_refl _, fun id _ g2 => put_other _ (fun q => g2 (.inl q)), fun id ho => .inl ?_⟩⟩
  · simp only [HS.mdel, h.mp]
    rw [mf_at rfl 0 hA]
    simp only [Option.map_some, Nat.zero_add]
    congr 3
    rw [List.map_append, List.eraseIdx_append_of_length_le (by simp)]
    simp
  · rw [List.pairwise_append]; exact ⟨hn.1, hn.2.1.2, fun a ha b hb => hn.2.2 a ha b (by simp [hb])⟩
  · rw [List.pairwise_append]; exact ⟨hd.1, hd.2.1.2, fun a ha b hb => hd.2.2 a ha b (by simp [hb])⟩
  · rcases ho with g | ⟨x, hx, g⟩
    · exact .inl g
    · exact .inr ⟨x, hsub x hx, g⟩
theorem take_spec {k m n : Nat} {E : List En} {key : Kk} {v : Vv} {S : HS} (hk : 2000 ≤ k) (h : MS m E S) (hne : ∀ e ∈ E, e.xs ≠ []) (hc : ∀ e ∈ E, e.xs.length ≤ n) (hm : mem E key v) :
    ∃ E' S', pair_take_int_int.f k (some m) key v S = some ((), S') ∧ MS m E' S' ∧ Chg (OM m E) (OM m E') S S' ∧ (∀ k' v', mem E' k' v' ↔ mem E k' v' ∧ ¬ (k' = key ∧ v' = v)) ∧ (∀ e ∈ E', e.xs ≠ []) ∧ (∀ e ∈ E', e.xs.length ≤ n) := by
  obtain ⟨e, he, hke, hve⟩ := hm
  obtain ⟨A, B, rfl, hA⟩ := split_at h.nd he hke
  subst hke
  have hi := h.si e he
  have hnd := h.nd
  rw [List.pairwise_append, List.pairwise_cons] at hnd
  have hkB : ∀ b ∈ B, b.key ≠ e.key := fun b hb g => hnd.2.1.1 b hb g.symm
  have hlk : S.look (some m) (KI.kv e.key) = some (some (.ptr (some (HA.cell0 e.p)))) := by
    rw [HS.look, HS.mp, h.mp, Option.bind_some, mf_at rfl 0 hA]; rfl
  have fl : Fr S.next S (S.lit [[.int .i64 v]] 1).2 := lit_fr _ (Nat.le_refl _)
  have nl : (S.lit [[.int .i64 v]] 1).2.next = S.next + 1 := rfl
  have rl : (S.lit [[.int .i64 v]] 1).2.rows (S.lit [[.int .i64 v]] 1).1 1 = some ([v].map KI.row1) := (Vec.lit (n := 0) (z := 1) (S := S) _ (Nat.zero_le _)).rows
  have ql : ∀ q, (S.lit [[.int .i64 v]] 1).1.a = some q → q.1 = S.next := fun q hq => by cases hq; rfl
  rw [pair_take_int_int.f]
  erw [hlk]
  rw [Option.bind_some, show dP ((some (HV.ptr (some (HA.cell0 e.p)))).getD (.ptr none)) = some (some (HA.cell0 e.p)) from rfl, Option.bind_some, letv]
  generalize S.lit [[.int .i64 v]] 1 = P at fl nl rl ql ⊢
  obtain ⟨sl, S1⟩ := P
  simp only at fl nl rl ql ⊢
  have h1 := h.fr fl
  obtain ⟨s', xs', S2, e2, i2, o2, m2, c2⟩ := KI.remove_spec hk (hi.fr fl) rl (fun q hq => by
    have := ql q hq
    exact ⟨by omega, fun g => by have := hi.lt g; omega⟩) (by simp)
  obtain ⟨g1, g2⟩ := h1.upd i2 o2
  have hlk2 : S2.look (some m) (KI.kv e.key) = some (some (.ptr (some (HA.cell0 e.p)))) := by
    rw [HS.look, HS.mp, g1.mp, Option.bind_some, mf_at (e := ⟨e.key, e.p, s', xs'⟩) rfl 0 hA]; rfl
  have hx : ∀ u, u ∈ xs' ↔ u ∈ e.xs ∧ u ≠ v := fun u => by rw [m2]; simp
  rw [e2, Option.bind_some]
  erw [hlk2]
  rw [Option.bind_some, show dP ((some (HV.ptr (some (HA.cell0 e.p)))).getD (.ptr none)) = some (some (HA.cell0 e.p)) from rfl, Option.bind_some, KI.len_spec i2, Option.bind_some]
  have hmem : ∀ k' v', mem (A ++ ⟨e.key, e.p, s', xs'⟩ :: B) k' v' ↔ mem (A ++ e :: B) k' v' ∧ ¬ (k' = e.key ∧ v' = v) := by
    intro k' v'
    constructor
    · rintro ⟨x, hx1, hx2, hx3⟩
      rcases List.mem_append.1 hx1 with g | g
      · exact ⟨⟨x, by simp [g], hx2, hx3⟩, fun q => hA x g (hx2.trans q.1)⟩
      · rcases List.mem_cons.1 g with rfl | g
        · have := (hx v').1 hx3
          exact ⟨⟨e, by simp, hx2, this.1⟩, fun q => this.2 q.2⟩
        · exact ⟨⟨x, by simp [g], hx2, hx3⟩, fun q => hkB x g (hx2.trans q.1)⟩
    · rintro ⟨⟨x, hx1, hx2, hx3⟩, hq⟩
      rcases List.mem_append.1 hx1 with g | g
      · exact ⟨x, by simp [g], hx2, hx3⟩
      · rcases List.mem_cons.1 g with rfl | g
        · exact ⟨⟨x.key, x.p, s', xs'⟩, by simp, hx2, (hx v').2 ⟨hx3, fun q => hq ⟨hx2.symm, q⟩⟩⟩
        · exact ⟨x, by simp [g], hx2, hx3⟩
  by_cases h0 : xs' = []
  · subst h0
    obtain ⟨S3, e3, k1, k2⟩ := g1.del hA
    rw [if_pos (by simp)]
    erw [e3]
    rw [Option.bind_some]
    refine ⟨A ++ B, S3, rfl, k1, ((Chg.of_fr fl).trans g2).trans k2, fun k' v' => ?_, fun x hx => ?_, fun x hx => ?_⟩
    · rw [← hmem]
      constructor
      · rintro ⟨x, q1, q2, q3⟩
        refine ⟨x, ?_, q2, q3⟩
        rcases List.mem_append.1 q1 with g | g <;> simp [g]
      · rintro ⟨x, q1, q2, q3⟩
        rcases List.mem_append.1 q1 with g | g
        · exact ⟨x, by simp [g], q2, q3⟩
        · rcases List.mem_cons.1 g with rfl | g
          · cases q3
          · exact ⟨x, by simp [g], q2, q3⟩
    · rcases List.mem_append.1 hx with g | g <;> exact hne x (by simp [g])
    · rcases List.mem_append.1 hx with g | g <;> exact hc x (by simp [g])
  · rw [if_neg (by simpa using h0)]
    refine ⟨_, S2, rfl, g1, (Chg.of_fr fl).trans g2, hmem, fun x hx => ?_, fun x hx => ?_⟩
    · rcases List.mem_append.1 hx with g | g
      · exact hne x (by simp [g])
      · rcases List.mem_cons.1 g with rfl | g
        · exact h0
        · exact hne x (by simp [g])
    · rcases List.mem_append.1 hx with g | g
      · exact hc x (by simp [g])
      · rcases List.mem_cons.1 g with rfl | g
        · have := hc e (by simp); simp only; omega
        · exact hc x (by simp [g])
end MI
end Go.Proofs.Ytdgmehfhgppheaa.X
