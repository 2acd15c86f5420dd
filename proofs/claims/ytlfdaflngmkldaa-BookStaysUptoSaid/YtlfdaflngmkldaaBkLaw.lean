/- The layer book: BookStays, plain. -/
import Derived.Test.YtlfdaflngmkldaaBkAll
namespace Go.Proofs.Ytlfdaflngmkldaa.X
open Go.Proofs.Ytlfdaflngmkldaa.HL
set_option linter.unusedVariables false
set_option maxRecDepth 100000
theorem awake_at (h : Nat → HObj) (m : Nat → Bool) : (rollcalllaw02_awake.f (disp 2000 4) (fun _ => none) 2000 ⟨h, 2, m⟩).map (fun p => (p.1, p.2.heap 0, p.2.heap 1, decide (2 ≤ p.2.next))) = some (true, h 0, h 1, true) := by kernel_rfl
theorem awake_spec {S : HS} (hn : S.next = 2) : ∃ S', rollcalllaw02_awake.f (disp 2000 4) (fun _ => none) 2000 S = some (true, S') ∧ Fr 2 S S' := by
  obtain ⟨h, n, m⟩ := S
  obtain rfl : n = 2 := hn
  have e := awake_at h m
  cases hq : rollcalllaw02_awake.f (disp 2000 4) (fun _ => none) 2000 ⟨h, 2, m⟩ with
  | none => rw [hq] at e; cases e
  | some p =>
    rw [hq] at e
    simp only [Option.map_some, Option.some.injEq, Prod.mk.injEq, decide_eq_true_eq] at e
    obtain ⟨e1, e2, e3, e4⟩ := e
    obtain ⟨b, S'⟩ := p
    simp only at e1 e2 e3 e4
    subst e1
    refine ⟨S', rfl, e4, fun id hid => ?_⟩
    have : id = 0 ∨ id = 1 := by omega
    rcases this with rfl | rfl
    · exact e2
    · exact e3
theorem new_spec {most : Int} {S : HS} (h1 : 0 ≤ most) (h2 : most ≤ 100000) : ∃ S', book_New_string.f most S = some ((some (HA.cell0 S.next), 0), S') ∧ BI S.next Sl.nil most [] S' ∧ Fr S.next S S' ∧ S'.next = S.next + 1 := by
  unfold book_New_string.f
  rw [if_neg (by omega), book_New_string.J0, if_neg (by simp; omega), letv]
  exact ⟨_, rfl, ⟨new_here _ _, .inl ⟨rfl, rfl, rfl⟩, fun q hq => (by cases hq), Nat.lt_succ_self _, List.Pairwise.nil, fun e he => (by cases he), by simp⟩, Fr.new (Nat.le_refl _) _, rfl⟩
theorem rows_keep {S S' : HS} {z : Nat} {s : Sl} {rows : List (List HV)} (h : S.rows s z = some rows) (hk : ∀ q, s.a = some q → S'.heap q.1 = S.heap q.1) : S'.rows s z = some rows := by
  unfold HS.rows at h ⊢
  cases ha : s.a with
  | none => rw [ha] at h; exact h
  | some q =>
    obtain ⟨id, off⟩ := q
    rw [ha] at h
    simp only at h ⊢
    rw [hk _ ha]
    exact h

/-! ### the round -/
structure StB (G : Nat → Prop) (p cK cL cG l : Nat) (most : Int) (es0 : List En) (more : List UInt8) (S0 : HS) (i : Nat) (S : HS) : Prop where
  book : ∃ s cur, BI p s most cur S ∧ (∀ id, Own p s id → ¬ G id) ∧ ∀ e ∈ cur, (∃ q, ∃ h : q < es0.length, i ≤ q ∧ cmpL e.1 es0[q].1 = 0) ∨ cmpL e.1 more = 0
  gl : ∀ id, G id → id < S.next
  keep : ∀ id, G id → id ≠ cK → id ≠ cL → id ≠ cG → id ≠ l → S.heap id = S0.heap id
  cnt : S.heap cK = .cells 1 [[.int .i64 i]] true
  last : ∃ la, S.heap cL = .cells 1 [[.str la]] true ∧ ∀ j, ∀ hj : j < es0.length, j + 1 = i → la = es0[j].1
  good : S.heap cG = .cells 1 [[.bool true]] true
  lo : S.heap l = .loop .ready none
theorem StB.fr {G : Nat → Prop} {p cK cL cG l : Nat} {most : Int} {es0 : List En} {more : List UInt8} {S0 : HS} {i : Nat} {S S' : HS} (hK : G cK) (hL : G cL) (hG : G cG) (hl : G l) (h : StB G p cK cL cG l most es0 more S0 i S) (hf : Fr S.next S S') : StB G p cK cL cG l most es0 more S0 i S' := by
  obtain ⟨s, cur, b1, b2, b3⟩ := h.book
  obtain ⟨la, a1, a2⟩ := h.last
  exact ⟨⟨s, cur, b1.fr hf, b2, b3⟩, fun id g => Nat.lt_of_lt_of_le (h.gl id g) hf.le, fun id g n1 n2 n3 n4 => (hf.eq id (h.gl id g)).trans (h.keep id g n1 n2 n3 n4), (hf.eq _ (h.gl _ hK)).trans h.cnt, ⟨la, (hf.eq _ (h.gl _ hL)).trans a1, a2⟩, (hf.eq _ (h.gl _ hG)).trans h.good, (hf.eq _ (h.gl _ hl)).trans h.lo⟩
theorem BI.away {p : Nat} {s : Sl} {most : Int} {es : List En} {S : HS} {G : Nat → Prop} (h : BI p s most es S) (hg : ∀ id, Own p s id → ¬ G id) {id : Nat} (g : G id) (o : HObj) : BI p s most es (S.put id o) :=
  h.keep (fun x ho => put_other _ (fun e => hg x ho (e ▸ g))) (Nat.le_refl _)
theorem round {n p r0 cB cN cK cL cG l : Nat} {H : Hd} {G : Nat → Prop} {most : Int} {es0 : List En} {more : List UInt8} {S0 : HS} (hs : Srt es0) (hlen : ∀ e ∈ es0, e.1.length ≤ 1000) (hcnt : es0.length ≤ 1000) (htw : ∀ e ∈ es0, e.1 = e.2)
    (hK : G cK) (hL : G cL) (hG : G cG) (hl : G l) (hB : G cB) (hN : G cN) (nKL : cK ≠ cL) (nKG : cK ≠ cG) (nKl : cK ≠ l) (nLG : cL ≠ cG) (nLl : cL ≠ l) (nGl : cG ≠ l) (nB : cB ≠ cK ∧ cB ≠ cL ∧ cB ≠ cG ∧ cB ≠ l) (nN : cN ≠ cK ∧ cN ≠ cL ∧ cN ≠ cG ∧ cN ≠ l)
    (hBB : S0.heap cB = .cells 1 [[.ptr (some (HA.cell0 p))]] true) (hBN : S0.heap cN = .cells 1 [[.int .i64 es0.length]] true) {i : Nat} (hi : i < es0.length) {S : HS} (h : StB G p cK cL cG l most es0 more S0 i S) :
    ∃ S', rollcalllaw02_BookStays.J2 (disp 2000 (n + 1)) H 2000 l (some (HA.cell0 r0)) (some (HA.cell0 cB)) (some (HA.cell0 cN)) (some (HA.cell0 cK)) (some (HA.cell0 cL)) (some (HA.cell0 cG)) es0[i].1 es0[i].2 S = some (.bool true, S') ∧ StB G p cK cL cG l most es0 more S0 (i + 1) S' := by
  obtain ⟨s, cur, b1, b2, b3⟩ := h.book
  obtain ⟨la, a1, a2⟩ := h.last
  rw [rollcalllaw02_BookStays.J2, begin_at h.lo, Option.bind_some, Option.bind_some]
  -- begun
  have g1 : (S.put l (.loop .busy none)).heap cG = .cells 1 [[.bool true]] true := by rw [put_other _ nGl]; exact h.good
  rw [ldB_cell g1, Option.bind_some, if_pos rfl, decide_eq_true (htw _ (List.getElem_mem hi)), rollcalllaw02_BookStays.J3, if_pos rfl, Option.bind_some]
  have k1 : (S.put l (.loop .busy none)).heap cK = .cells 1 [[.int .i64 i]] true := by rw [put_other _ nKl]; exact h.cnt
  have l1 : (S.put l (.loop .busy none)).heap cL = .cells 1 [[.str la]] true := by rw [put_other _ nLl]; exact a1
  have o1 : (S.put l (.loop .busy none)).heap l = .loop .busy none := put_here _ _ _
  have bb1 : BI p s most cur (S.put l (.loop .busy none)) := b1.away b2 hl _
  have kk1 : ∀ id, G id → id ≠ cK → id ≠ cL → id ≠ cG → id ≠ l → (S.put l (.loop .busy none)).heap id = S0.heap id := fun id g n1 n2 n3 n4 => (put_other _ n4).trans (h.keep id g n1 n2 n3 n4)
  have gl1 : ∀ id, G id → id < (S.put l (.loop .busy none)).next := h.gl
  generalize S.put l (.loop .busy none) = T1 at g1 k1 l1 o1 bb1 kk1 gl1 ⊢
  rw [ldI_cell k1, Option.bind_some]
  have hJ5 : ∀ T2, Fr T1.next T1 T2 → ∃ S', rollcalllaw02_BookStays.J5 (disp 2000 (n + 1)) H 2000 l (some (HA.cell0 r0)) (some (HA.cell0 cB)) (some (HA.cell0 cN)) (some (HA.cell0 cK)) (some (HA.cell0 cL)) (some (HA.cell0 cG)) es0[i].1 true T2 = some (.bool true, S') ∧ StB G p cK cL cG l most es0 more S0 (i + 1) S' := by
    intro T2 f2
    have g2 := (f2.eq _ (gl1 _ hG)).trans g1
    have k2 := (f2.eq _ (gl1 _ hK)).trans k1
    have l2 := (f2.eq _ (gl1 _ hL)).trans l1
    have o2 := (f2.eq _ (gl1 _ hl)).trans o1
    have bb2 := bb1.fr f2
    have kk2 : ∀ id, G id → id ≠ cK → id ≠ cL → id ≠ cG → id ≠ l → T2.heap id = S0.heap id := fun id g n1 n2 n3 n4 => (f2.eq _ (gl1 _ g)).trans (kk1 id g n1 n2 n3 n4)
    have gl2 : ∀ id, G id → id < T2.next := fun id g => Nat.lt_of_lt_of_le (gl1 id g) f2.le
    rw [rollcalllaw02_BookStays.J5, Option.bind_some, sets_cell _ g2, Option.bind_some, Option.bind_some]
    have g3 : (T2.put cG (.cells 1 [[.bool true]] true)).heap cG = .cells 1 [[.bool true]] true := put_here _ _ _
    have k3 : (T2.put cG (.cells 1 [[.bool true]] true)).heap cK = .cells 1 [[.int .i64 i]] true := by rw [put_other _ nKG]; exact k2
    have l3 : (T2.put cG (.cells 1 [[.bool true]] true)).heap cL = .cells 1 [[.str la]] true := by rw [put_other _ nLG]; exact l2
    have o3 : (T2.put cG (.cells 1 [[.bool true]] true)).heap l = .loop .busy none := by rw [put_other _ (Ne.symm nGl)]; exact o2
    have bb3 : BI p s most cur (T2.put cG (.cells 1 [[.bool true]] true)) := bb2.away b2 hG _
    have kk3 : ∀ id, G id → id ≠ cK → id ≠ cL → id ≠ cG → id ≠ l → (T2.put cG (.cells 1 [[.bool true]] true)).heap id = S0.heap id := fun id g n1 n2 n3 n4 => (put_other _ n3).trans (kk2 id g n1 n2 n3 n4)
    have gl3 : ∀ id, G id → id < (T2.put cG (.cells 1 [[.bool true]] true)).next := gl2
    generalize T2.put cG (.cells 1 [[.bool true]] true) = T3 at g3 k3 l3 o3 bb3 kk3 gl3 ⊢
    have c3 : T3.heap cB = .cells 1 [[.ptr (some (HA.cell0 p))]] true := (kk3 _ hB nB.1 nB.2.1 nB.2.2.1 nB.2.2.2).trans hBB
    obtain ⟨j, s', T4, hp, e4, bb4, on4⟩ := delete_spec (n := n) (H := H) (k := 2000) (Nat.le_refl _) bb3 es0[i].1
    rw [ldP_cell c3, Option.bind_some, e4, Option.bind_some, Option.bind_some]
    have hkG : ∀ id, G id → T4.heap id = T3.heap id := fun id g => on4.eq id (gl3 id g) (fun ho => b2 id ho g)
    have gl4 : ∀ id, G id → id < T4.next := fun id g => Nat.lt_of_lt_of_le (gl3 id g) on4.le
    have b4 : ∀ id, Own p s' id → ¬ G id := fun id ho g => by
      rcases on4.own id ho with h5 | h5
      · exact b2 id h5 g
      · have := gl3 id g; omega
    have hcur : ∀ e ∈ (if foundAt cur es0[i].1 j then cur.eraseIdx j else cur), e ∈ cur ∧ cmpL es0[i].1 e.1 ≠ 0 := by
      intro e he
      cases hf : foundAt cur es0[i].1 j with
      | true => rw [hf, if_pos rfl] at he; exact erase_away bb3.srt hf e he
      | false => rw [hf, if_neg (by simp)] at he; exact ⟨he, none_alike hp bb3.srt hf e he⟩
    have b3' : ∀ e ∈ (if foundAt cur es0[i].1 j then cur.eraseIdx j else cur), (∃ q, ∃ h : q < es0.length, i + 1 ≤ q ∧ cmpL e.1 es0[q].1 = 0) ∨ cmpL e.1 more = 0 := by
      intro e he
      obtain ⟨h5, h6⟩ := hcur e he
      rcases b3 e h5 with ⟨q, hq, h7, h8⟩ | h7
      · refine .inl ⟨q, hq, ?_, h8⟩
        rcases Nat.eq_or_lt_of_le h7 with h9 | h9
        · subst h9
          exact absurd (by rw [cmpL_anti, h8]; rfl) h6
        · exact h9
      · exact .inr h7
    have l4 : T4.heap cL = .cells 1 [[.str la]] true := (hkG _ hL).trans l3
    rw [sets_cell _ l4, Option.bind_some, Option.bind_some]
    have k5 : (T4.put cL (.cells 1 [[.str es0[i].1]] true)).heap cK = .cells 1 [[.int .i64 i]] true := by rw [put_other _ nKL]; exact (hkG _ hK).trans k3
    rw [ldI_cell k5, Option.bind_some, Option.bind_some, sets_cell _ k5, Option.bind_some, Option.bind_some, w64_id (by omega) (by omega)]
    have k6 : ((T4.put cL (.cells 1 [[.str es0[i].1]] true)).put cK (.cells 1 [[.int .i64 ((i : Int) + 1)]] true)).heap cK = .cells 1 [[.int .i64 ((i : Int) + 1)]] true := put_here _ _ _
    have n6 : ((T4.put cL (.cells 1 [[.str es0[i].1]] true)).put cK (.cells 1 [[.int .i64 ((i : Int) + 1)]] true)).heap cN = .cells 1 [[.int .i64 es0.length]] true := by
      rw [put_other _ nN.1, put_other _ nN.2.1, hkG _ hN, kk3 _ hN nN.1 nN.2.1 nN.2.2.1 nN.2.2.2]; exact hBN
    have o6 : ((T4.put cL (.cells 1 [[.str es0[i].1]] true)).put cK (.cells 1 [[.int .i64 ((i : Int) + 1)]] true)).heap l = .loop .busy none := by
      rw [put_other _ (Ne.symm nKl), put_other _ (Ne.symm nLl), hkG _ hl]; exact o3
    rw [ldI_cell k6, Option.bind_some, Option.bind_some, ldI_cell n6, Option.bind_some, if_neg (by omega), endr_at none o6]
    refine ⟨_, rfl, ?_⟩
    have hbA : BI p s' most (if foundAt cur es0[i].1 j then cur.eraseIdx j else cur) ((T4.put cL (.cells 1 [[.str es0[i].1]] true)).put cK (.cells 1 [[.int .i64 ((i : Int) + 1)]] true)) := (bb4.away b4 hL _).away b4 hK _
    refine ⟨⟨s', _, hbA.away b4 hl _, b4, b3'⟩, gl4, fun id g n1 n2 n3 n4 => ?_, ?_, ⟨es0[i].1, ?_, fun j hj hji => ?_⟩, ?_, put_here _ _ _⟩
    · rw [put_other _ n4, put_other _ n1, put_other _ n2, hkG _ g]; exact kk3 id g n1 n2 n3 n4
    · rw [put_other _ nKl, k6]; simp
    · rw [put_other _ nLl, put_other _ (Ne.symm nKL)]; exact put_here _ _ _
    · obtain rfl : j = i := by omega
      rfl
    · rw [put_other _ nGl, put_other _ (Ne.symm nKG), put_other _ (Ne.symm nLG), hkG _ hG]; exact g3
  by_cases h0 : (i : Int) = 0
  · rw [if_pos h0, rollcalllaw02_BookStays.J4, if_pos rfl]
    exact hJ5 T1 (Fr.refl _ _)
  · rw [if_neg h0, Option.bind_some, ldS_cell l1, Option.bind_some]
    have hla : la = es0[i - 1].1 := a2 (i - 1) (by omega) (by omega)
    have hlt : cmpL la es0[i].1 < 0 := by rw [hla]; exact hs.lt (by omega) hi (by omega)
    obtain ⟨T2, e2, f2⟩ := refCompare_spec (k := 2000) (m := T1.next) (x := la) (y := es0[i].1) (S := T1) (by rw [hla]; exact hlen _ (List.getElem_mem _)) (hlen _ (List.getElem_mem _)) (Nat.le_refl _) (Nat.le_refl _)
    rw [e2, Option.bind_some, decide_eq_true hlt, rollcalllaw02_BookStays.J4, if_pos rfl]
    exact hJ5 T2 f2
end Go.Proofs.Ytlfdaflngmkldaa.X
