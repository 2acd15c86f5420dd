/- The layer book: BookStays, the law. -/
import Derived.Test.YtlfdaflngmkldaaBkLaw
namespace Go.Proofs.Ytlfdaflngmkldaa.X
open Go.Proofs.Ytlfdaflngmkldaa.HL
set_option linter.unusedVariables false
set_option maxRecDepth 100000
def strRow (v : List UInt8) : List HV := [.str v]
theorem str_rows {S : HS} {s : Sl} {xs : List (List UInt8)} (h : S.rows s 1 = some (xs.map strRow)) {i : Nat} (hi : i < xs.length) : ∃ ad, S.idx s (i : Int) 1 = some ad ∧ S.ldS ad = some xs[i] := by
  obtain ⟨ad, h1, h2, h3⟩ := rows_idx h (i := i) (by simpa using hi)
  refine ⟨ad, h1, ?_⟩
  have := row_ldS (j := 0) (s := xs[i]) h3 h2 (by simp [strRow])
  obtain ⟨a1, a2, a3⟩ := ad
  simp only at h2
  subst h2
  exact this
def tw (t : List UInt8) : En := (t, t)
theorem putL_tw {most : Int} {es : List En} {i : Nat} {t : List UInt8} (h : ∀ e ∈ es, e.1 = e.2) : ∀ e ∈ putL most es i t t, e.1 = e.2 := by
  intro e he
  unfold putL at he
  split at he
  · rcases List.mem_or_eq_of_mem_set he with g | rfl
    · exact h e g
    · rfl
  · split at he
    · exact h e he
    · simp only [List.mem_append, List.mem_singleton] at he
      rcases he with (g | rfl) | g
      · exact h e (List.mem_of_mem_take g)
      · rfl
      · exact h e (List.mem_of_mem_drop g)
theorem putL_len {most : Int} {es : List En} {i : Nat} {t v : List UInt8} : (putL most es i t v).length ≤ es.length + 1 := by
  unfold putL
  split
  · simp
  · split
    · omega
    · simp only [List.length_append, List.length_take, List.length_drop, List.length_singleton]; omega
theorem putL_mem {most : Int} {es : List En} {i : Nat} {t v : List UInt8} : ∀ e ∈ putL most es i t v, e ∈ es ∨ e = (t, v) := by
  intro e he
  unfold putL at he
  split at he
  · rcases List.mem_or_eq_of_mem_set he with g | g
    · exact .inl g
    · exact .inr g
  · split at he
    · exact .inl he
    · simp only [List.mem_append, List.mem_singleton] at he
      rcases he with (g | g) | g
      · exact .inl (List.mem_of_mem_take g)
      · exact .inr g
      · exact .inl (List.mem_of_mem_drop g)
/-- The names are put. -/
theorem names_loop {H : Hd} {n r0 cB p : Nat} {G : Nat → Prop} {y1 : List UInt8} {sl : Sl} {ls : List (List UInt8)} {B : HS} {ds : List Nat} (hls : ls.length ≤ 40) (hl30 : ∀ t ∈ ls, t.length ≤ 30) (hB : G cB) (hBB : B.heap cB = .cells 1 [[.ptr (some (HA.cell0 p))]] true) (hrows : B.rows sl 1 = some (ls.map strRow)) (hGs : ∀ x, sl.a = some x → G x.1) :
    ∀ (f i : Nat) (T : HS) (s : Sl) (es : List En), ls.length - i < f → i ≤ ls.length → BI p s 100 es T → (∀ id, Own p s id → ¬ G id) → (∀ id, G id → id < T.next) → es.length ≤ i → (∀ e ∈ es, e.1 = e.2) → (∀ id, G id → T.heap id = B.heap id) →
    ∃ f' T' s' es', rollcalllaw02_BookStays.L1 (disp 2000 (n + 1)) H 2000 f sl y1 (some (HA.cell0 r0)) (some (HA.cell0 cB)) (i : Int) ds T = rollcalllaw02_BookStays.L1 (disp 2000 (n + 1)) H 2000 (f' + 1) sl y1 (some (HA.cell0 r0)) (some (HA.cell0 cB)) (ls.length : Int) ds T' ∧
      BI p s' 100 es' T' ∧ (∀ id, Own p s' id → ¬ G id) ∧ (∀ id, G id → id < T'.next) ∧ es'.length ≤ ls.length ∧ (∀ e ∈ es', e.1 = e.2) ∧ (∀ id, G id → T'.heap id = B.heap id) := by
  intro f
  induction f with
  | zero => intro i T s es h; omega
  | succ f ih =>
    intro i T s es hf hi hb ho hg hc ht hk
    by_cases hlt : i < ls.length
    · have hr : T.rows sl 1 = some (ls.map strRow) := rows_keep hrows fun x hx => hk _ (hGs x hx)
      have hsl : (sl.len : Int) = ls.length := by rw [← rows_len hr]; simp
      obtain ⟨ad, a1, a2⟩ := str_rows hr hlt
      have hp : T.heap cB = .cells 1 [[.ptr (some (HA.cell0 p))]] true := (hk _ hB).trans hBB
      have hl := hl30 _ (List.getElem_mem hlt)
      obtain ⟨j, s', T1, h1, e1, b1, o1⟩ := put_spec (n := n) (H := H) (k := 2000) (Nat.le_refl _) hb (by omega) ls[i] ls[i] (by omega)
      rw [rollcalllaw02_BookStays.L1, hsl, if_pos (by omega), a1, Option.bind_some, a2, Option.bind_some, if_neg (by omega), Option.bind_some, ldP_cell hp, Option.bind_some, Option.bind_some, a2, Option.bind_some, Option.bind_some, a2, Option.bind_some, e1, Option.bind_some,
        w64_id (by omega) (by omega), show ((i : Int) + 1) = ((i + 1 : Nat) : Int) by simp]
      refine ih (i + 1) T1 s' _ (by omega) (by omega) b1 (fun id h2 g => ?_) (fun id g => Nat.lt_of_lt_of_le (hg id g) o1.le) (by have := putL_len (most := 100) (es := es) (i := j) (t := ls[i]) (v := ls[i]); omega) (putL_tw ht) (fun id g => (o1.eq id (hg id g) (fun h2 => ho id h2 g)).trans (hk id g))
      rcases o1.own id h2 with h3 | h3
      · exact ho id h3 g
      · have := hg id g; omega
    · obtain rfl : i = ls.length := by omega
      exact ⟨f, T, s, es, rfl, hb, ho, hg, hc, ht, hk⟩
/-- One name is too long. -/
theorem long_loop {H : Hd} {n r0 cB p : Nat} {G : Nat → Prop} {y1 : List UInt8} {sl : Sl} {ls : List (List UInt8)} {B : HS} (hls : ls.length ≤ 40) (hlong : ∃ t ∈ ls, 30 < t.length) (hB : G cB) (hR : G r0) (hBR : B.heap r0 = .cells 1 [[.bool false]] true) (hBB : B.heap cB = .cells 1 [[.ptr (some (HA.cell0 p))]] true) (hrows : B.rows sl 1 = some (ls.map strRow)) (hGs : ∀ x, sl.a = some x → G x.1) :
    ∀ (f i : Nat) (T : HS) (s : Sl) (es : List En), ls.length - i < f → i ≤ ls.length → (∀ j (h : j < ls.length), j < i → ls[j].length ≤ 30) → BI p s 100 es T → (∀ id, Own p s id → ¬ G id) → (∀ id, G id → id < T.next) → es.length ≤ i → (∀ id, G id → T.heap id = B.heap id) →
    ∃ T', rollcalllaw02_BookStays.L1 (disp 2000 (n + 1)) H 2000 f sl y1 (some (HA.cell0 r0)) (some (HA.cell0 cB)) (i : Int) [] T = some (true, T') := by
  intro f
  induction f with
  | zero => intro i T s es h; omega
  | succ f ih =>
    intro i T s es hf hi hsh hb ho hg hc hk
    obtain ⟨t, ht, htl⟩ := hlong
    obtain ⟨q, hq, rfl⟩ := List.getElem_of_mem ht
    have hiq : i ≤ q := by
      rcases Nat.lt_or_ge q i with h | h
      · have := hsh q hq h; omega
      · exact h
    have hlt : i < ls.length := by omega
    have hr : T.rows sl 1 = some (ls.map strRow) := rows_keep hrows fun x hx => hk _ (hGs x hx)
    have hsl : (sl.len : Int) = ls.length := by rw [← rows_len hr]; simp
    obtain ⟨ad, a1, a2⟩ := str_rows hr hlt
    have hp : T.heap cB = .cells 1 [[.ptr (some (HA.cell0 p))]] true := (hk _ hB).trans hBB
    have hr0 : T.heap r0 = .cells 1 [[.bool false]] true := (hk _ hR).trans hBR
    rw [rollcalllaw02_BookStays.L1, hsl, if_pos (by omega), a1, Option.bind_some, a2, Option.bind_some]
    by_cases hlen : 30 < ls[i].length
    · have bl : (T.put r0 (.cells 1 [[.bool true]] true)).heap r0 = .cells 1 [[.bool true]] true := put_here _ _ _
      rw [if_pos (by omega), Option.bind_some, sets_cell _ hr0, Option.bind_some, HS.leave, Option.bind_some, Option.bind_some, ldB_cell bl, Option.bind_some]
      exact ⟨_, rfl⟩
    · obtain ⟨j, s', T1, h1, e1, b1, o1⟩ := put_spec (n := n) (H := H) (k := 2000) (Nat.le_refl _) hb (by omega) ls[i] ls[i] (by omega)
      rw [if_neg (by omega), Option.bind_some, ldP_cell hp, Option.bind_some, Option.bind_some, a2, Option.bind_some, Option.bind_some, a2, Option.bind_some, e1, Option.bind_some,
        w64_id (by omega) (by omega), show ((i : Int) + 1) = ((i + 1 : Nat) : Int) by simp]
      refine ih (i + 1) T1 s' _ (by omega) (by omega) (fun j hj hji => ?_) b1 (fun id h2 g => ?_) (fun id g => Nat.lt_of_lt_of_le (hg id g) o1.le) (by have := putL_len (most := 100) (es := es) (i := j) (t := ls[i]) (v := ls[i]); omega) (fun id g => (o1.eq id (hg id g) (fun h2 => ho id h2 g)).trans (hk id g))
      · rcases Nat.lt_or_ge j i with h | h
        · exact hsh j hj h
        · obtain rfl : j = i := by omega
          omega
      rcases o1.own id h2 with h3 | h3
      · exact ho id h3 g
      · have := hg id g; omega
theorem alike_one {es : List En} {t : List UInt8} (hs : Srt es) (h : ∀ e ∈ es, cmpL e.1 t = 0) : es.length ≤ 1 := by
  rcases Nat.lt_or_ge 1 es.length with h1 | h1
  · have h2 := hs.lt (i := 0) (j := 1) (by omega) h1 (by omega)
    have h3 := h es[0] (List.getElem_mem _)
    have h4 := h es[1] (List.getElem_mem _)
    rw [cmpL_eq_left h3, cmpL_anti, h4] at h2
    omega
  · exact h1
theorem stays_end {r0 cB p f : Nat} {G : Nat → Prop} {y1 : List UInt8} {sl : Sl} {ls : List (List UInt8)} {T : HS} {s : Sl} {es : List En} (hls : ls.length ≤ 40) (h30 : y1.length ≤ 30) (hsl : sl.len = ls.length) (hB : G cB) (hR : G r0) (hBB : T.heap cB = .cells 1 [[.ptr (some (HA.cell0 p))]] true) (hBR : T.heap r0 = .cells 1 [[.bool false]] true) (hbr : cB ≠ r0)
    (hb : BI p s 100 es T) (ho : ∀ id, Own p s id → ¬ G id) (hg : ∀ id, G id → id < T.next) (hc : es.length ≤ ls.length) (ht : ∀ e ∈ es, e.1 = e.2) :
    ∃ T', rollcalllaw02_BookStays.L1 (disp 2000 4) (fun _ => none) 2000 (f + 1) sl y1 (some (HA.cell0 r0)) (some (HA.cell0 cB)) (ls.length : Int) [] T = some (true, T') := by
  rw [rollcalllaw02_BookStays.L1, hsl, if_neg (by omega), Option.bind_some, ldP_cell hBB, Option.bind_some, len_spec hb, Option.bind_some, letv]
  simp only
  rw [sets_cell _ (new_here _ _), Option.bind_some, Option.bind_some]
  -- its length
  have f1 : Fr T.next T ((T.new (.cells 1 [[.int .i64 0]] true)).put T.next (.cells 1 [[.int .i64 es.length]] true)) := (Fr.new (Nat.le_refl _) _).trans (Fr.put (Nat.le_refl _) _)
  have c1 : ((T.new (.cells 1 [[.int .i64 0]] true)).put T.next (.cells 1 [[.int .i64 es.length]] true)).heap T.next = .cells 1 [[.int .i64 es.length]] true := put_here _ _ _
  have n1 : ((T.new (.cells 1 [[.int .i64 0]] true)).put T.next (.cells 1 [[.int .i64 es.length]] true)).next = T.next + 1 := rfl
  generalize (T.new (.cells 1 [[.int .i64 0]] true)).put T.next (.cells 1 [[.int .i64 es.length]] true) = T1 at f1 c1 n1 ⊢
  have b1 := hb.fr f1
  have gB := hg _ hB
  have gR := hg _ hR
  obtain ⟨c, s', T2, e2, k1, k2, k3, k4, k5, f2⟩ := all_spec b1
  have l2 := f2.le
  have b2 := b1.fr f2
  have f02 : Fr T.next T T2 := f1.trans (f2.mono (by omega))
  rw [ldP_cell ((f1.eq _ gB).trans hBB), Option.bind_some, e2, Option.bind_some]
  simp only [HV.isNilFn, Option.bind_some]
  rw [if_neg (by simp), ldP_cell ((f02.eq _ gB).trans hBB), Option.bind_some]
  obtain ⟨j, s1, T5, hp, e5, b5, o5⟩ := put_spec (n := 3) (H := fun _ => none) (k := 2000) (Nat.le_refl _) b2 (by omega) y1 [] (by omega)
  have l5 := o5.le
  rw [e5, Option.bind_some, letv]
  simp only
  rw [sets_cell _ (new_here _ _), Option.bind_some, letv, sets_cell _ (new_here _ _), Option.bind_some, letv, sets_cell _ (new_here _ _), Option.bind_some]
  simp only [put_next, new_next]
  -- own and not own
  have hown : ∀ id, Own p s1 id → Own p s id ∨ T2.next ≤ id := fun id h => o5.own id h
  have hns : ∀ id, T.next ≤ id → id < T2.next → ¬ Own p s1 id := by
    intro id h1 h2 h
    rcases hown id h with h3 | h3
    · have := hb.lt h3; omega
    · omega
  have hnG : ∀ id, G id → ¬ Own p s1 id := by
    intro id g h
    rcases hown id h with h3 | h3
    · exact ho id h3 g
    · have := hg id g; omega
  have f25 : ∀ id, id < T2.next → ¬ Own p s id → T5.heap id = T2.heap id := fun id h1 h2 => o5.eq id h1 h2
  have hns' : ∀ id, T.next ≤ id → ¬ Own p s id := fun id h1 h => by have := hb.lt h; omega
  generalize hT6 : (((((T5.new (.cells 1 [[.int .i64 0]] true)).put T5.next (.cells 1 [[.int .i64 0]] true)).new (.cells 1 [[.str []]] true)).put (T5.next + 1) (.cells 1 [[.str ([] : List UInt8)]] true)).new (.cells 1 [[.bool false]] true)).put (T5.next + 1 + 1) (.cells 1 [[.bool true]] true) = T6
  have n6 : T6.next = T5.next + 3 := by subst hT6; rfl
  have f6 : Fr T5.next T5 T6 := by
    subst hT6
    exact (((((Fr.new (Nat.le_refl _) _).trans (Fr.put (Nat.le_refl _) _)).trans (Fr.new (by rw [put_next, new_next]; omega) _)).trans (Fr.put (by omega) _)).trans (Fr.new (by simp only [put_next, new_next]; omega) _)).trans (Fr.put (by omega) _)
  have k6 : T6.heap T5.next = .cells 1 [[.int .i64 0]] true := by
    subst hT6
    rw [put_other _ (by omega), new_old _ (by simp only [put_next, new_next]; omega), put_other _ (by omega), new_old _ (by rw [put_next, new_next]; omega), put_here]
  have l6 : T6.heap (T5.next + 1) = .cells 1 [[.str []]] true := by
    subst hT6
    rw [put_other _ (by omega), new_old _ (by simp only [put_next, new_next]; omega), put_here]
  have g6 : T6.heap (T5.next + 2) = .cells 1 [[.bool true]] true := by subst hT6; exact put_here _ _ _
  clear hT6
  have f7 : Fr T5.next T5 ((T6.new .defer).new (.loop .ready none)) := f6.trans ((Fr.new (by omega) _).trans (Fr.new (by rw [new_next]; omega) _))
  have n7 : ((T6.new .defer).new (.loop .ready none)).next = T5.next + 5 := by simp only [new_next]; omega
  have k7 : ((T6.new .defer).new (.loop .ready none)).heap T5.next = .cells 1 [[.int .i64 0]] true := by
    rw [new_old _ (by rw [new_next]; omega), new_old _ (by omega)]; exact k6
  have l7 : ((T6.new .defer).new (.loop .ready none)).heap (T5.next + 1) = .cells 1 [[.str []]] true := by
    rw [new_old _ (by rw [new_next]; omega), new_old _ (by omega)]; exact l6
  have g7 : ((T6.new .defer).new (.loop .ready none)).heap (T5.next + 2) = .cells 1 [[.bool true]] true := by
    rw [new_old _ (by rw [new_next]; omega), new_old _ (by omega)]; exact g6
  have d7 : ((T6.new .defer).new (.loop .ready none)).heap (T5.next + 3) = .defer := by
    rw [new_old _ (by rw [new_next]; omega), ← n6]; exact new_here _ _
  have o7 : ((T6.new .defer).new (.loop .ready none)).heap (T5.next + 4) = .loop .ready none := by
    rw [show T5.next + 4 = (T6.new .defer).next by rw [new_next]; omega]; exact new_here _ _
  rw [show T5.next + 1 + 1 + 1 + 1 = T5.next + 4 from rfl, show T5.next + 1 + 1 + 1 = T5.next + 3 from rfl, show T5.next + 1 + 1 = T5.next + 2 from rfl]
  generalize hS0 : (T6.new .defer).new (.loop .ready none) = S0 at f7 n7 k7 l7 g7 d7 o7 ⊢
  let G2 : Nat → Prop := fun id => id < T5.next + 5 ∧ ¬ Own p s1 id
  have b7 : BI p s1 100 (putL 100 es j y1 []) S0 := b5.fr f7
  have inG : ∀ id, T5.next ≤ id → id < T5.next + 5 → G2 id := fun id h1 h2 => ⟨h2, fun h => by have := b5.lt h; omega⟩
  have inG1 : ∀ id, G id → G2 id := fun id g => ⟨by have := hg id g; omega, hnG id g⟩
  have inG2 : ∀ id, T.next ≤ id → id < T2.next → G2 id := fun id h1 h2 => ⟨by omega, hns id h1 h2⟩
  have hI0 : StB G2 p T5.next (T5.next + 1) (T5.next + 2) (T5.next + 4) 100 es y1 S0 0 S0 := by
    refine ⟨⟨s1, _, b7, fun id h g => g.2 h, fun e he => ?_⟩, fun id g => by rw [n7]; exact g.1, fun _ _ _ _ _ _ => rfl, k7, ⟨[], l7, fun j hj h => by omega⟩, g7, o7⟩
    rcases putL_mem e he with h | rfl
    · obtain ⟨q, hq, rfl⟩ := List.getElem_of_mem h
      exact .inl ⟨q, hq, Nat.zero_le _, (cmpL_zero _ _).2 rfl⟩
    · exact .inr ((cmpL_zero _ _).2 rfl)
  have h0B : S0.heap cB = .cells 1 [[.ptr (some (HA.cell0 p))]] true := by
    rw [f7.eq _ (by omega), f25 _ (by omega) (fun h => ho _ h hB), f02.eq _ gB]; exact hBB
  have h0R : S0.heap r0 = .cells 1 [[.bool false]] true := by
    rw [f7.eq _ (by omega), f25 _ (by omega) (fun h => ho _ h hR), f02.eq _ gR]; exact hBR
  have h0N : S0.heap T.next = .cells 1 [[.int .i64 es.length]] true := by
    rw [f7.eq _ (by omega), f25 _ (by omega) (hns' _ (Nat.le_refl _)), f2.eq _ (by omega)]; exact c1
  have hcopy : ∀ i S, StB G2 p T5.next (T5.next + 1) (T5.next + 2) (T5.next + 4) 100 es y1 S0 i S → ∀ id, T1.next ≤ id → id < T2.next → S.heap id = T2.heap id := by
    intro i S h id h1 h2
    rw [h.keep id (inG2 id (by omega) h2) (by omega) (by omega) (by omega) (by omega), f7.eq id (by omega), f25 id h2 (hns' id (by omega))]
  obtain ⟨S', e, h⟩ := told_tells (k := 2000) (n := 2) (l := T5.next + 4) (c := c) (H := Hd.set (fun _ => none) (T5.next + 4) (fun vs U => Option.bind (HS.lp U (T5.next + 4)) fun _ => Option.bind (args2 vs) fun ar => Option.bind (dS ar.1) fun a => Option.bind (dS ar.2) fun b => rollcalllaw02_BookStays.J2 (disp 2000 4) (fun _ => none) 2000 (T5.next + 4) (some (HA.cell0 r0)) (some (HA.cell0 cB)) (some (HA.cell0 T.next)) (some (HA.cell0 T5.next)) (some (HA.cell0 (T5.next + 1))) (some (HA.cell0 (T5.next + 2))) a b U))
    (xs := es) (s := s') (by simp [Hd.set]; rfl) (fun i S => StB G2 p T5.next (T5.next + 1) (T5.next + 2) (T5.next + 4) 100 es y1 S0 i S) (fun _ => False)
    (fun i S S' h hf => h.fr (inG _ (by omega) (by omega)) (inG _ (by omega) (by omega)) (inG _ (by omega) (by omega)) (inG _ (by omega) (by omega)) hf)
    (fun i S h => (hcopy i S h c (by omega) (by omega)).trans k3)
    (fun i S h => rows_keep k4 fun x hx => hcopy i S h x.1 (by have := (k5 x hx).1; omega) (k5 x hx).2)
    (by
      intro i hi S h
      simp only [lp_at h.lo, args2, dS, Option.bind_some]
      obtain ⟨S', e, h'⟩ := round (n := 3) (H := fun _ => none) (r0 := r0) (cB := cB) (cN := T.next) b1.srt b1.len b1.cnt ht (inG _ (by omega) (by omega)) (inG _ (by omega) (by omega)) (inG _ (by omega) (by omega)) (inG _ (by omega) (by omega)) (inG1 _ hB) (inG2 _ (by omega) (by omega)) (by omega) (by omega) (by omega) (by omega) (by omega) (by omega) ⟨by omega, by omega, by omega, by omega⟩ ⟨by omega, by omega, by omega, by omega⟩ h0B h0N hi h
      exact ⟨true, S', e, fun _ => h', fun h => by cases h⟩) (by omega) (by omega) S0 hI0
  have h : StB G2 p T5.next (T5.next + 1) (T5.next + 2) (T5.next + 4) 100 es y1 S0 es.length S' := by
    rcases h with h | h
    · exact h
    · exact h.elim
  erw [e]
  rw [Option.bind_some]
  have e1 : S'.finish (T5.next + 4) = some (none, S'.put (T5.next + 4) (.loop .exhausted none)) := by simp [HS.finish, h.lo]
  rw [e1, Option.bind_some]
  simp only [pcode, Option.bind_some, if_true]
  obtain ⟨s9, cur, q1, q2, q3⟩ := h.book
  have x2 : ∀ id, id ≠ T5.next + 4 → (S'.put (T5.next + 4) (.loop .exhausted none)).heap id = S'.heap id := fun id hne => put_other _ hne
  have q4 := q1.away q2 (inG (T5.next + 4) (by omega) (by omega)) (.loop .exhausted none)
  generalize S'.put (T5.next + 4) (.loop .exhausted none) = X at x2 q4 ⊢
  have xg : X.heap (T5.next + 2) = .cells 1 [[.bool true]] true := (x2 _ (by omega)).trans h.good
  have xk : X.heap T5.next = .cells 1 [[.int .i64 es.length]] true := (x2 _ (by omega)).trans h.cnt
  have xN : X.heap T.next = .cells 1 [[.int .i64 es.length]] true := by
    rw [x2 _ (by omega), h.keep _ (inG2 _ (by omega) (by omega)) (by omega) (by omega) (by omega) (by omega)]; exact h0N
  have xB : X.heap cB = .cells 1 [[.ptr (some (HA.cell0 p))]] true := by
    rw [x2 _ (by omega), h.keep _ (inG1 _ hB) (by omega) (by omega) (by omega) (by omega)]; exact h0B
  have xR : X.heap r0 = .cells 1 [[.bool false]] true := by
    rw [x2 _ (by omega), h.keep _ (inG1 _ hR) (by omega) (by omega) (by omega) (by omega)]; exact h0R
  have xd : X.heap (T5.next + 3) = .defer := by
    rw [x2 _ (by omega), h.keep _ (inG _ (by omega) (by omega)) (by omega) (by omega) (by omega) (by omega)]; exact d7
  have hone : cur.length ≤ 1 := alike_one q1.srt (t := y1) fun e he => by
    rcases q3 e he with ⟨q, hq, h1, _⟩ | h1
    · omega
    · exact h1
  rw [ldB_cell xg, Option.bind_some, if_pos rfl, ldI_cell xk, Option.bind_some, ldI_cell xN, Option.bind_some, decide_eq_true rfl, rollcalllaw02_BookStays.J6, if_pos rfl, Option.bind_some, ldP_cell xB, Option.bind_some, len_spec q4, Option.bind_some, decide_eq_true (by omega), rollcalllaw02_BookStays.J7, Option.bind_some, sets_cell _ xR, Option.bind_some]
  have zd : (X.put r0 (.cells 1 [[.bool true]] true)).heap (T5.next + 3) = .defer := by rw [put_other _ (by omega)]; exact xd
  simp only [HS.leave, zd, Option.bind_some]
  have zb : ((X.put r0 (.cells 1 [[.bool true]] true)).put (T5.next + 3) .dead).heap r0 = .cells 1 [[.bool true]] true := by rw [put_other _ (by omega)]; exact put_here _ _ _
  rw [ldB_cell zb, Option.bind_some]
  exact ⟨_, rfl⟩
theorem bookStays_law {S : HS} {sl : Sl} {ls : List (List UInt8)} {more : List UInt8} (hn : S.next = 1) (hrd : Rd S.next S 1 sl (ls.map strRow)) : ∃ S', rollcalllaw02_BookStays.f (disp 2000 4) (fun _ => none) 2000 sl more S = some (true, S') := by
  rw [rollcalllaw02_BookStays.f, letv]
  have a0 : (S.new (.cells 1 [[.bool false]] true)).heap S.next = .cells 1 [[.bool false]] true := new_here _ _
  have fA : Fr S.next S (S.new (.cells 1 [[.bool false]] true)) := Fr.new (Nat.le_refl _) _
  have nA : (S.new (.cells 1 [[.bool false]] true)).next = 2 := by rw [new_next, hn]
  generalize S.new (.cells 1 [[.bool false]] true) = A at a0 fA nA ⊢
  obtain ⟨A1, e1, f1⟩ := awake_spec nA
  have hle1 := f1.le
  rw [e1, Option.bind_some, if_neg (by simp)]
  have hsl : sl.len = ls.length := by rw [hrd.len]; simp
  have r1 : A1.heap S.next = .cells 1 [[.bool false]] true := (f1.eq _ (by omega)).trans a0
  have hrd1 : Rd S.next A1 1 sl (ls.map strRow) := (hrd.frame fA (Nat.le_refl _)).frame f1 (by omega)
  have hbig : ∃ S', rollcalllaw02_BookStays.J0 (disp 2000 4) (fun _ => none) 2000 sl more (some (HA.cell0 S.next)) true [] A1 = some (true, S') := by
    have bl : (A1.put S.next (.cells 1 [[.bool true]] true)).heap S.next = .cells 1 [[.bool true]] true := put_here _ _ _
    rw [rollcalllaw02_BookStays.J0, if_pos rfl, Option.bind_some, sets_cell _ r1, Option.bind_some, HS.leave, Option.bind_some, Option.bind_some, ldB_cell bl, Option.bind_some]
    exact ⟨_, rfl⟩
  simp only [hsl]
  by_cases h40 : 40 < ls.length
  · rw [if_pos (by omega)]; exact hbig
  rw [if_neg (by omega)]
  by_cases h30 : 30 < more.length
  · rw [decide_eq_true (by omega)]; exact hbig
  rw [decide_eq_false (by omega), rollcalllaw02_BookStays.J0, if_neg (by simp)]
  obtain ⟨B, e2, b2, f2, n2⟩ := new_spec (most := 100) (S := A1) (by omega) (by omega)
  rw [e2, Option.bind_some, letv]
  simp only
  rw [n2, sets_cell _ (by rw [← n2]; exact new_here _ _), Option.bind_some, if_neg (by simp)]
  have f3 : Fr B.next B ((B.new (.cells 1 [[.ptr none]] true)).put (A1.next + 1) (.cells 1 [[.ptr (some (HA.cell0 A1.next))]] true)) := (Fr.new (Nat.le_refl _) _).trans (Fr.put (by omega) _)
  have c3 : ((B.new (.cells 1 [[.ptr none]] true)).put (A1.next + 1) (.cells 1 [[.ptr (some (HA.cell0 A1.next))]] true)).heap (A1.next + 1) = .cells 1 [[.ptr (some (HA.cell0 A1.next))]] true := put_here _ _ _
  have n3 : ((B.new (.cells 1 [[.ptr none]] true)).put (A1.next + 1) (.cells 1 [[.ptr (some (HA.cell0 A1.next))]] true)).next = A1.next + 2 := by rw [put_next, new_next]; omega
  generalize (B.new (.cells 1 [[.ptr none]] true)).put (A1.next + 1) (.cells 1 [[.ptr (some (HA.cell0 A1.next))]] true) = C at f3 c3 n3 ⊢
  have b3 := b2.fr f3
  let G : Nat → Prop := fun id => id ≤ S.next ∨ id = A1.next + 1
  have hoG : ∀ id, Own A1.next Sl.nil id → ¬ G id := by
    intro id h g
    rcases h with rfl | ⟨q, h, _⟩
    · rcases g with g | g <;> omega
    · cases h
  have hG : ∀ id, G id → id < C.next := by intro id g; rcases g with g | g <;> omega
  have r3 : C.heap S.next = .cells 1 [[.bool false]] true := by rw [f3.eq _ (by omega), f2.eq _ (by omega)]; exact r1
  have hrd3 : Rd S.next C 1 sl (ls.map strRow) := (hrd1.frame f2 (by omega)).frame f3 (by omega)
  by_cases hlong : ∃ t ∈ ls, 30 < t.length
  · exact long_loop (n := 3) (G := G) (by omega) hlong (.inr rfl) (.inl (Nat.le_refl _)) r3 c3 hrd3.rows (fun x hx => .inl (by have := hrd3.lt x hx; omega)) 2000 0 C Sl.nil [] (by omega) (by omega) (fun j hj h => by omega) b3 hoG hG (by simp) (fun _ _ => rfl)
  · obtain ⟨f', T', s', es', e3, q1, q2, q3, q4, q5, q6⟩ := names_loop (H := fun _ => none) (n := 3) (G := G) (r0 := S.next) (y1 := more) (ds := []) (by omega) (fun t ht => Nat.le_of_not_lt fun h => hlong ⟨t, ht, h⟩) (show G (A1.next + 1) from .inr rfl) c3 hrd3.rows (fun x hx => .inl (by have := hrd3.lt x hx; omega)) 2000 0 C Sl.nil [] (by omega) (by omega) b3 hoG hG (by simp) (fun e he => by cases he) (fun _ _ => rfl)
    rw [show ((0 : Nat) : Int) = 0 from rfl] at e3
    erw [e3]
    exact stays_end (G := G) (by omega) (by omega) hsl (.inr rfl) (.inl (Nat.le_refl _)) ((q6 _ (.inr rfl)).trans c3) ((q6 _ (.inl (Nat.le_refl _))).trans r3) (by omega) q1 q2 q3 q4 q5
theorem rows_strs : ∀ {rows : List (List HV)}, (∀ row ∈ rows, RowFits [.str] row) → ∃ ls : List (List UInt8), rows = ls.map strRow := by
  intro rows
  induction rows with
  | nil => intro _; exact ⟨[], rfl⟩
  | cons r rows ih =>
    intro h
    obtain ⟨ls, e⟩ := ih fun row hr => h row (by simp [hr])
    have h0 := h r (by simp)
    have hl := h0.len
    obtain ⟨v0, rfl⟩ : ∃ v0, r = [v0] := by
      cases r with
      | nil => simp at hl
      | cons v0 r =>
        cases r with
        | nil => exact ⟨v0, rfl⟩
        | cons v1 r => simp at hl
    obtain ⟨q1, _⟩ := h0
    obtain ⟨n, h1, _⟩ := q1
    exact ⟨n :: ls, by rw [e, h1]; rfl⟩
theorem bookStays_call (W : World) (β0 : Bt) (S : HS) (s0 : Sl) (rows0 : List (List HV)) (h0 : ArgSl S 1 s0 rows0) (f0 : ∀ row ∈ rows0, RowFits [.str] row) (more : List UInt8) (hn : S.next = 1 := by rfl) :
    HCall Try.prog W.heap.size W β0 4 [s0.hv, .str more] S (fun v _ => v = .bool true) := by
  obtain ⟨ls, rfl⟩ := rows_strs f0
  obtain ⟨_, h⟩ := bookStays_law (more := more) hn h0.rd
  exact (rollcalllaw02_BookStays.snd (disp_snd 4) (fun _ _ h => by cases h) h).mono fun _ _ h => h.1
end Go.Proofs.Ytlfdaflngmkldaa.X
