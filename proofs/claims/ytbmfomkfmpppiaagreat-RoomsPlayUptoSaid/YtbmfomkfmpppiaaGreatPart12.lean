/- The layer pair: the relation, plain. Folded texts, plain. The layer rooms: names compared; lists in order, plain. The layer rooms: the book of rooms, plain. The layer rooms: a room's members: searched, plain. The layer rooms: a room, plain. The layer rooms: all rooms, what is held, plain. The layer rooms: steps of what is held, plain. The layer rooms: Join, plain. The layer rooms: Join, plain. The layer rooms: Part, plain. The layer rooms: the rooms of somebody, plain. The layer rooms: all rooms, as they are told, plain. The layer rooms: ranges inside a body; New, plain. The layer rooms: acts; members looked up; all rooms, plain. The layer rooms: on how many one is, plain. The layer rooms: Leave, plain. The layer rooms: the document's rooms: one room, plain. The layer rooms: the document's rooms: all of them; Get, Of, plain. The layer rooms: the document's rooms: Join and Part, plain. The layer rooms: the document's rooms: Part, Leave, plain. The layer rooms: the program's rooms and the document's, side by side, plain. The layer rooms: rooms and members compared, plain. The layer rooms: Leave, the program's and the document's, plain. The layer rooms: the program's rooms and the document's: one step of both, plain. The layer rooms: RoomsPlay, plain. -/
import Derived.Test.YtbmfomkfmpppiaaGreatPart11
namespace Go.Proofs.YtbmfomkfmpppiaaGreat.X
open Go.Proofs.YtbmfomkfmpppiaaGreat.HL
set_option linter.unusedVariables false
abbrev Pr := Int × List UInt8
def wo (x : Pr) (L : List Pr) : List Pr := L.filter fun p => !decide (p = x)
theorem Zadj {x p : Pr} {L : List Pr} : p ∈ wo x L ↔ p ∈ L ∧ p ≠ x := by simp [wo]
theorem wo_len {x : Pr} {L : List Pr} (h : L.Nodup) (hx : x ∈ L) : (wo x L).length = L.length - 1 := by
 have : wo x L = L.erase x := by
  rw [h.erase_eq_filter,wo]
  congr 1
  funext p
  by_cases hp : p = x <;> simp [hp]
 rw [this,List.length_erase_of_mem hx]
theorem wo_no {x : Pr} {L : List Pr} (hx : x ∉ L) : wo x L = L := List.filter_eq_self.2 fun p hp => by simp; rintro rfl; exact hx hp
def OR (r m1 m2 : Nat) (E1 : List MA.En) (E2 : List MB.En) (id : Nat) : Prop := id = r ∨ MA.OM m1 E1 id ∨ MB.OM m2 E2 id
structure RelI (r m1 m2 n : Nat) (most : Int) (E1 : List MA.En) (E2 : List MB.En) (L : List Pr) (S : HS) : Prop where
 cell : S.heap r = .cells 4 [[.int .i64 most,.int .i64 L.length,.map (some m1),.map (some m2)]] true
 ms1 : MA.MS m1 E1 S
 ms2 : MB.MS m2 E2 S
 d12 : ∀ id,MA.OM m1 E1 id → ¬ MB.OM m2 E2 id
 dr1 : ¬ MA.OM m1 E1 r
 dr2 : ¬ MB.OM m2 E2 r
 lt : r < S.next
 me1 : ∀ a b,MA.mem E1 a b ↔ (a,b) ∈ L
 me2 : ∀ b a,MB.mem E2 b a ↔ (a,b) ∈ L
 ne1 : ∀ e ∈ E1,e.xs ≠ []
 ne2 : ∀ e ∈ E2,e.xs ≠ []
 c1 : ∀ e ∈ E1,e.xs.length ≤ n
 c2 : ∀ e ∈ E2,e.xs.length ≤ n
 nd : L.Nodup
 ll : L.length ≤ n
 nn : n ≤ 900
section
variable {r m1 m2 n : Nat} {most : Int} {E1 : List MA.En} {E2 : List MB.En} {L : List Pr} {S : HS}
theorem RelI.ltO (h : RelI r m1 m2 n most E1 E2 L S) {id : Nat} (ho : OR r m1 m2 E1 E2 id) : id < S.next := by
 rcases ho with rfl | g | g
 ·exact h.lt
 ·exact h.ms1.ltO g
 ·exact h.ms2.ltO g
theorem RelI.keep {S' : HS} (h : RelI r m1 m2 n most E1 E2 L S) (hk : ∀ id,OR r m1 m2 E1 E2 id → S'.heap id = S.heap id) (hn : S.next ≤ S'.next) : RelI r m1 m2 n most E1 E2 L S' :=
 ⟨(hk r (.inl rfl)).trans h.cell,h.ms1.keep (fun id g => hk id (.inr (.inl g))) hn,h.ms2.keep (fun id g => hk id (.inr (.inr g))) hn,h.d12,h.dr1,h.dr2,Yai h.lt hn,h.me1,h.me2,h.ne1,h.ne2,h.c1,h.c2,h.nd,h.ll,h.nn⟩
theorem RelI.fr {S' : HS} (h : RelI r m1 m2 n most E1 E2 L S) (hf : Fr S.next S S') : RelI r m1 m2 n most E1 E2 L S' := h.keep (fun id ho => hf.eq id (h.ltO ho)) hf.le
theorem RelI.mono {n' : Nat} (h : RelI r m1 m2 n most E1 E2 L S) (hn : n ≤ n') (hn' : n' ≤ 900) : RelI r m1 m2 n' most E1 E2 L S := { h with c1 := fun e he => Ya2 (h.c1 e he) hn,c2 := fun e he => Ya2 (h.c2 e he) hn,ll := Ya2 h.ll hn,nn := hn' }
theorem RelI.ld1 (h : RelI r m1 m2 n most E1 E2 L S) : S.ldM (HA.fld (HA.cell0 r) 2) = some (some m1) := Zaf6 (Zxu h.cell) rfl rfl
theorem RelI.ldm (h : RelI r m1 m2 n most E1 E2 L S) : S.ldI .i64 (HA.fld (HA.cell0 r) 0) = some most := Zyb (Zxu h.cell) rfl rfl
theorem RelI.at1 (h : RelI r m1 m2 n most E1 E2 L S) (a : Int) : ∃ xs,KS.Srt xs ∧ (∀ v,v ∈ xs ↔ (a,v) ∈ L) ∧ xs.length ≤ n ∧ ((S.look (some m1) (.int .i64 a) = some none ∧ xs = []) ∨ ∃ p s,S.look (some m1) (.int .i64 a) = some (some (.ptr (some (HA.cell0 p)))) ∧ KS.SI p s xs S ∧ ∀ id,Own p s id → MA.OM m1 E1 id) := by
 rcases MA.get_spec h.ms1 a with ⟨e1,hno⟩ | ⟨A,e,B,hE,hk,hA,e1⟩
 ·refine ⟨[],List.Pairwise.nil,fun v => ?_,by simp,.inl ⟨e1,rfl⟩⟩
  rw [← h.me1]
  exact ⟨fun g => (by cases g),fun ⟨e,he,hk,_⟩ => absurd hk (hno e he)⟩
 ·have he : e ∈ E1 := by rw [hE]; simp
  refine ⟨e.xs,(h.ms1.si e he).srt,fun v => ?_,h.c1 e he,.inr ⟨e.p,e.s,e1,h.ms1.si e he,fun id g => .inr ⟨e,he,g⟩⟩⟩
  rw [← h.me1]
  refine ⟨fun g => ⟨e,he,hk,g⟩,fun ⟨x,hx,hxk,hv⟩ => ?_⟩
  have : x = e := by
   have hn := h.ms1.nd
   rw [hE] at hx hn
   rw [Yad,Yah] at hn
   rcases Yab.1 hx with g | g
   ·exact absurd hxk (hA x g)
   ·rcases Yac.1 g with g | g
    ·exact g
    ·exact absurd (hk.trans hxk.symm) (hn.2.1.1 x g)
  rw [← this]; exact hv
theorem Zaf7 : dP ((none : Option HV).getD (.ptr none)) = some none := rfl
theorem Zaf8 (q : Option HA) : dP ((some (HV.ptr q)).getD (.ptr none)) = some q := rfl
theorem Zaf9 {k : Nat} (hk : 2000 ≤ k) (h : RelI r m1 m2 n most E1 E2 L S) (a : Int) (b : List UInt8) : Y16.f k (some (HA.cell0 r)) a b S = some (decide ((a,b) ∈ L),S) := by
 obtain ⟨xs,h1,h2,h3,h4⟩ := h.at1 a
 rw [Y16.f,if_pos (by rfl),obs,h.ld1,obs]
 rcases h4 with ⟨e,rfl⟩ | ⟨p,s,e,hs,_⟩
 ·rw [e,obs,Zaf7,obs,Y66.f,if_pos (by rfl),obs,Y16.J0,decide_eq_false (fun g => by have := (h2 b).2 g; cases this)]
 ·rw [e,obs,Zaf8,obs,KS.has_spec hk hs,obs,Y16.J0]
  simp only [h2]
theorem Zaff (h : RelI r m1 m2 n most E1 E2 L S) (a : Int) {xs : List KS.Ky} (hs : KS.Srt xs) (hm : ∀ v,v ∈ xs ↔ (a,v) ∈ L) : Y32.f (some (HA.cell0 r)) a S = some ((xs.length : Int),S) := by
 obtain ⟨ys,h1,h2,h3,h4⟩ := h.at1 a
 have : ys = xs := KS.srt_ext h1 hs fun v => by rw [h2,hm]
 subst this
 rw [Y32.f,if_neg (by simp),obs,h.ld1,obs]
 rcases h4 with ⟨e,rfl⟩ | ⟨p,s,e,hs,_⟩
 ·rw [e,obs,Zaf7,obs,Y29.f,if_pos (by rfl)]; rfl
 ·rw [e,obs,Zaf8,obs,KS.len_spec hs]; rfl
theorem of_rel {nD : Nat} (h : RelI r m1 m2 n most E1 E2 L S) (a : Int) {xs : List KS.Ky} (hs : KS.Srt xs) (hm : ∀ v,v ∈ xs ↔ (a,v) ∈ L) : ∃ fn u v S1 K,Y60.f (some (HA.cell0 r)) a S = some (.fn fn u v,S1) ∧ Tells (disp 2000 (nD + 2)) (.fn fn u v) (xs.map KS.row1) K S1 ∧ (∀ id,K id → S.next ≤ id ∧ id < S1.next) ∧ Fr S.next S S1 := by
 obtain ⟨ys,h1,h2,h3,h4⟩ := h.at1 a
 have hy : ys = xs := KS.srt_ext h1 hs fun v => by rw [h2,hm]
 subst hy
 have hnn := h.nn
 have key : ∃ c s' S1,Y60.f (some (HA.cell0 r)) a S = some (.fn (.func 130) [] [.ptr (some (HA.cell0 c))],S1) ∧ S1.heap c = .cells 1 [[s'.hv]] true ∧ S1.rows s' 1 = some (ys.map KS.row1) ∧ (S.next ≤ c ∧ c < S1.next) ∧ (∀ q,s'.a = some q → S.next ≤ q.1 ∧ q.1 < S1.next) ∧ Fr S.next S S1 := by
  rw [Y60.f,if_neg (by simp),obs,h.ld1,obs]
  rcases h4 with ⟨e,rfl⟩ | ⟨p,s,e,hs,_⟩
  ·rw [e,obs,Zaf7,obs,Y67.f,Y62.f,if_pos (by rfl),obs,Y85.f,letv,obs]
   exact ⟨S.next,_,_,rfl,Zxx _ _,rfl,⟨Yaa _,Yaw _⟩,fun q hq => (by cases hq),Fr.new (Yaa _) _⟩
  ·obtain ⟨c,s',S1,e2,g1,g2,g3,g4,g5⟩ := KS.all_spec hs
   rw [e,obs,Zaf8,obs,e2,obs]
   exact ⟨c,s',S1,rfl,g1,g2,g3,g4,g5⟩
 obtain ⟨c,s',S1,e,g1,g2,g3,g4,g5⟩ := key
 exact ⟨_,_,_,S1,fun id => id = c ∨ ∃ q,s'.a = some q ∧ q.1 = id,e,KS.values_tells (by omega) (by omega) g1 g2 _ ⟨.inl rfl,fun q hq => .inr ⟨q,hq,rfl⟩⟩,fun id hid => by
  rcases hid with rfl | ⟨q,hq,rfl⟩
  ·exact g3
  ·exact g4 q hq,g5⟩
theorem Zajg {i : Int} {S : HS} {m1 m2 : Nat} (h : S.heap r = .cells 4 [[.int .i64 most,.int .i64 i,.map (some m1),.map (some m2)]] true) (j : Int) : S.sets (HA.fld (HA.cell0 r) 1) [.int .i64 j] = some (S.put r (.cells 4 [[.int .i64 most,.int .i64 j,.map (some m1),.map (some m2)]] true)) := (Zyv h rfl (by simp)).trans rfl
theorem RelI.step {n' : Nat} {E1' : List MA.En} {E2' : List MB.En} {L' : List Pr} {S1 S2 : HS} (h : RelI r m1 m2 n most E1 E2 L S) (h1 : MA.MS m1 E1' S1) (ch1 : Chg (MA.OM m1 E1) (MA.OM m1 E1') S S1) (h2 : MB.MS m2 E2' S2) (ch2 : Chg (MB.OM m2 E2) (MB.OM m2 E2') S1 S2)
  (me1 : ∀ a b,MA.mem E1' a b ↔ (a,b) ∈ L') (me2 : ∀ b a,MB.mem E2' b a ↔ (a,b) ∈ L') (ne1 : ∀ e ∈ E1',e.xs ≠ []) (ne2 : ∀ e ∈ E2',e.xs ≠ []) (c1 : ∀ e ∈ E1',e.xs.length ≤ n') (c2 : ∀ e ∈ E2',e.xs.length ≤ n') (nd : L'.Nodup) (ll : L'.length ≤ n') (nn : n' ≤ 900) :
  S2.heap r = S.heap r ∧ RelI r m1 m2 n' most E1' E2' L' (S2.put r (.cells 4 [[.int .i64 most,.int .i64 L'.length,.map (some m1),.map (some m2)]] true)) ∧ Chg (OR r m1 m2 E1 E2) (OR r m1 m2 E1' E2') S (S2.put r (.cells 4 [[.int .i64 most,.int .i64 L'.length,.map (some m1),.map (some m2)]] true)) := by
 have l1 := ch1.le
 have l2 := ch2.le
 have hr := h.lt
 have o1 : ∀ id,MA.OM m1 E1' id → ¬ MB.OM m2 E2 id := fun id g1 g2 => by
  rcases ch1.own id g1 with g | g
  ·exact h.d12 id g g2
  ·have := h.ms2.ltO g2; omega
 have d12 : ∀ id,MA.OM m1 E1' id → ¬ MB.OM m2 E2' id := fun id g1 g2 => by
  rcases ch2.own id g2 with g | g
  ·exact o1 id g1 g
  ·have := h1.ltO g1; omega
 have dr1 : ¬ MA.OM m1 E1' r := fun g => by
  rcases ch1.own r g with g' | g'
  ·exact h.dr1 g'
  ·omega
 have dr2 : ¬ MB.OM m2 E2' r := fun g => by
  rcases ch2.own r g with g' | g'
  ·exact h.dr2 g'
  ·omega
 refine ⟨(ch2.eq r (by omega) h.dr2).trans (ch1.eq r hr h.dr1),⟨Zxv _ _ _,?_,?_,d12,dr1,dr2,by rw [Zxw]; omega,me1,me2,ne1,ne2,c1,c2,nd,ll,nn⟩,⟨by rw [Zxw]; omega,fun id g1 g2 => ?_,fun id g => ?_⟩⟩
 ·exact h1.keep (fun id g => by
   have := h1.ltO g
   rw [Zxe _ (fun e => dr1 (by rw [← e]; exact g)),ch2.eq id this (o1 id g)]) (by rw [Zxw]; omega)
 ·exact h2.keep (fun id g => Zxe _ (fun e => dr2 (by rw [← e]; exact g))) (Yaa _)
 ·rw [Zxe _ (fun e => g2 (.inl e)),ch2.eq id (by omega) (fun g => g2 (.inr (.inr g))),ch1.eq id g1 (fun g => g2 (.inr (.inl g)))]
 ·rcases g with g | g | g
  ·exact .inl (.inl g)
  ·exact (ch1.own id g).imp (fun g => .inr (.inl g)) (fun g => g)
  ·rcases ch2.own id g with g' | g'
   ·exact .inl (.inr (.inr g'))
   ·exact .inr (by omega)
theorem Zajh {k : Nat} (hk : 2000 ≤ k) (h : RelI r m1 m2 n most E1 E2 L S) (hn : n + 1 ≤ 900) (a : Int) (b : List UInt8) {xs : List KS.Ky} (hs : KS.Srt xs) (hm : ∀ v,v ∈ xs ↔ (a,v) ∈ L) :
  ∃ E1' E2' S',Y72.f k (some (HA.cell0 r)) a b S = some ((if (a,b) ∈ L then 6 else if most ≤ xs.length then 7 else 0),S') ∧ RelI r m1 m2 (n + 1) most E1' E2' (if (a,b) ∈ L then L else if most ≤ xs.length then L else L ++ [(a,b)]) S' ∧ Chg (OR r m1 m2 E1 E2) (OR r m1 m2 E1' E2') S S' := by
 rw [Y72.f,if_neg (by simp),Zaf9 hk h,obs]
 by_cases hin : (a,b) ∈ L
 ·simp only [hin,decide_true,if_true]
  exact ⟨E1,E2,S,rfl,h.mono (by omega) hn,Chg.refl _ _⟩
 ·simp only [hin,decide_false,if_false,Bool.false_eq_true]
  rw [Zaff h a hs hm,obs,obs]
  simp only [h.ldm,obs,if_true]
  by_cases hf : most ≤ (xs.length : Int)
  ·simp only [if_pos (show (xs.length : Int) ≥ most from hf),if_pos hf]
   exact ⟨E1,E2,S,rfl,h.mono (by omega) hn,Chg.refl _ _⟩
  ·obtain ⟨E1',S1,e1,g1,g2,g3,g4,g5⟩ := MA.put_spec (v := b) (key := a) hk h.ms1 h.ne1 h.c1 (by omega)
   have l1 := g2.le
   have h2 : MB.MS m2 E2 S1 := h.ms2.keep (fun id g => g2.eq id (h.ms2.ltO g) (fun g' => h.d12 id g' g)) l1
   obtain ⟨E2',S2,e2,k1,k2,k3,k4,k5⟩ := MB.put_spec (v := a) (key := b) hk h2 h.ne2 h.c2 (by omega)
   have hcell1 : S1.heap r = S.heap r := g2.eq r h.lt h.dr1
   obtain ⟨q1,q2,q3⟩ := h.step (L' := L ++ [(a,b)]) g1 g2 k1 k2 (fun a' b' => by rw [g3,h.me1]; simp) (fun b' a' => by rw [k3,h.me2]; simp [and_comm]) g4 k4 g5 k5 (by
    rw [List.nodup_append]
    exact ⟨h.nd,by simp,fun x hx y hy => by simp at hy; subst hy; intro e; subst e; exact hin hx⟩) (by simp; exact h.ll) hn
   have hld2 : S1.ldM (HA.fld (HA.cell0 r) 3) = some (some m2) := Zaf6 (Zxu (hcell1.trans h.cell)) rfl rfl
   have hcell2 := q1.trans h.cell
   have hldn : S2.ldI .i64 (HA.fld (HA.cell0 r) 1) = some (L.length : Int) := Zyb (Zxu hcell2) rfl rfl
   have hll := h.ll
   simp only [if_neg (show ¬ ((xs.length : Int) ≥ most) from hf),if_neg hf,h.ld1,obs,e1,hld2,e2,hldn]
   rw [Zx6 (by omega) (by omega),Zajg hcell2,obs,show ((L.length : Int) + 1) = ((L ++ [(a,b)]).length : Int) by simp]
   exact ⟨E1',E2',_,rfl,q2,q3⟩
theorem Zah2 {k : Nat} (hk : 2000 ≤ k) (h : RelI r m1 m2 n most E1 E2 L S) (a : Int) (b : List UInt8) :
  ∃ E1' E2' S',Y79.f k (some (HA.cell0 r)) a b S = some (decide ((a,b) ∈ L),S') ∧ RelI r m1 m2 n most E1' E2' (wo (a,b) L) S' ∧ Chg (OR r m1 m2 E1 E2) (OR r m1 m2 E1' E2') S S' := by
 rw [Y79.f,Zaf9 hk h,obs]
 by_cases hin : (a,b) ∈ L
 ·simp only [hin,decide_true,Bool.not_true,Bool.false_eq_true,if_false]
  obtain ⟨E1',S1,e1,g1,g2,g3,g4,g5⟩ := MA.take_spec (v := b) (key := a) hk h.ms1 h.ne1 h.c1 ((h.me1 a b).2 hin)
  have l1 := g2.le
  have h2 : MB.MS m2 E2 S1 := h.ms2.keep (fun id g => g2.eq id (h.ms2.ltO g) (fun g' => h.d12 id g' g)) l1
  obtain ⟨E2',S2,e2,k1,k2,k3,k4,k5⟩ := MB.take_spec (v := a) (key := b) hk h2 h.ne2 h.c2 ((h.me2 b a).2 hin)
  have hcell1 : S1.heap r = S.heap r := g2.eq r h.lt h.dr1
  have hfl := wo_len h.nd hin
  have hpos : 0 < L.length := List.length_pos_of_mem hin
  have hll := h.ll
  have hnn := h.nn
  obtain ⟨q1,q2,q3⟩ := h.step (n' := n) (L' := wo (a,b) L) g1 g2 k1 k2 (fun a' b' => by rw [g3,h.me1,Zadj,Ne,Prod.mk.injEq]) (fun b' a' => by rw [k3,h.me2,Zadj,Ne,Prod.mk.injEq]; simp only [and_comm]) g4 k4 g5 k5 (h.nd.sublist List.filter_sublist) (by omega) h.nn
  have hld2 : S1.ldM (HA.fld (HA.cell0 r) 3) = some (some m2) := Zaf6 (Zxu (hcell1.trans h.cell)) rfl rfl
  have hcell2 := q1.trans h.cell
  have hldn : S2.ldI .i64 (HA.fld (HA.cell0 r) 1) = some (L.length : Int) := Zyb (Zxu hcell2) rfl rfl
  simp only [h.ld1,obs,e1,hld2,e2,hldn]
  rw [Zx6 (by omega) (by omega),Zajg hcell2,obs,show ((L.length : Int) - 1) = ((wo (a,b) L).length : Int) by rw [hfl]; omega]
  exact ⟨E1',E2',_,rfl,q2,q3⟩
 ·simp only [hin,decide_false,Bool.not_false,if_true]
  refine ⟨E1,E2,S,rfl,?_,Chg.refl _ _⟩
  rw [wo_no hin]
  exact h
end
def low (b : UInt8) : UInt8 := if 65 ≤ b.toNat ∧ b.toNat ≤ 93 then b + 32 else if b.toNat = 126 then 94 else b
theorem Zact {p : UInt8 → Prop} (h : ∀ n : Fin 256,p (UInt8.ofNat n.val)) (b : UInt8) : p b := by
 have := h ⟨b.toNat,b.toNat_lt⟩
 simpa using this
theorem Zacu (b : UInt8) : Y18.f (b.toNat : Int) = some ((low b).toNat : Int) :=
 Zact (p := fun b => Y18.f (b.toNat : Int) = some ((low b).toNat : Int)) (by decide +kernel) b
theorem low_low (b : UInt8) : low (low b) = low b := Zact (p := fun b => low (low b) = low b) (by decide +kernel) b
def look (y : Nat) : List UInt8 → List UInt8 → Nat
 | a :: s,b :: t => if a.toNat = y then b.toNat else look y s t
 | _,_ => y
theorem Zae7 {k y : Nat} {src dst : List UInt8} (hl : dst.length = src.length) (hs : src.length ≤ 100000) : ∀ (n i : Nat),src.length - i < n → i ≤ src.length →
  Y49.L0 k n y src dst (i : Int) = some (look y (src.drop i) (dst.drop i) : Int) := by
 intro n
 induction n with
 | zero => intro i h; omega
 | succ n ih =>
  intro i h hi
  unfold Y49.L0
  by_cases hlt : i < src.length
  ·rw [if_pos (by omega),Zadc hlt,obs,Yal hlt,Yal (show i < dst.length by omega)]
   by_cases he : src[i].toNat = y
   ·rw [if_pos (by omega),Zadc (show i < dst.length by omega)]
    simp [look,he]
   ·rw [if_neg (by omega),Zx6 (by omega) (by omega)]
    have := ih (i + 1) (by omega) (by omega)
    rw [show ((i : Int) + 1) = ((i + 1 : Nat) : Int) by simp,this]
    simp [look,he]
  ·rw [if_neg (by omega),Ya4 (by omega)]
   simp [look]
theorem Zae8 {k : Nat} (hk : 31 ≤ k) (b : UInt8) : Y49.f k (b.toNat : Int) = some ((low b).toNat : Int) := by
 unfold Y49.f
 have := Zae7 (k := k) (y := b.toNat) (src := [65,66,67,68,69,70,71,72,73,74,75,76,77,78,79,80,81,82,83,84,85,86,87,88,89,90,91,93,92,126]) (dst := [97,98,99,100,101,102,103,104,105,106,107,108,109,110,111,112,113,114,115,116,117,118,119,120,121,122,123,125,124,94]) rfl (by decide) k 0 (by simp; omega) (by simp)
 refine this.trans ?_
 congr 2
 exact Zact (p := fun b => look b.toNat (List.drop 0 [65,66,67,68,69,70,71,72,73,74,75,76,77,78,79,80,81,82,83,84,85,86,87,88,89,90,91,93,92,126]) (List.drop 0 [97,98,99,100,101,102,103,104,105,106,107,108,109,110,111,112,113,114,115,116,117,118,119,120,121,122,123,125,124,94]) = (low b).toNat) (by decide +kernel) b
theorem row_of (b : UInt8) : [[HV.int .u8 (b.toNat : Int)]] = Zyg [b] := rfl
theorem Zabn {x : List UInt8} {i : Nat} (h : i < x.length) : (x.take (i + 1)).map low = (x.take i).map low ++ [low x[i]] := by
 rw [Yaf h,Yau]; rfl
theorem Zajd {k m : Nat} {x : List UInt8} (hx : x.length ≤ 100000) : ∀ (n i : Nat) (s : Sl) (S : HS),x.length - i < n → i ≤ x.length → m ≤ S.next → Vec m S 1 s (Zyg ((x.take i).map low)) →
  ∃ S',Y28.L0 k n x s (x.length : Int) (i : Int) S = some (x.map low,S') ∧ Fr m S S' := by
 intro n
 induction n with
 | zero => intro i s S h; omega
 | succ n ih =>
  intro i s S h hi hm hv
  unfold Y28.L0
  by_cases hlt : i < x.length
  ·rw [if_pos (by omega),Zadc hlt,obs,Zacu,obs,letv,row_of]
   have hl := Vec.lit (n := m) (z := 1) (S := S) (Zyg [low x[i]]) hm
   rw [hl.rows,obs]
   have hv2 : Vec m (S.lit (Zyg [low x[i]]) 1).2 1 s (Zyg ((x.take i).map low)) := hv.new _
   obtain ⟨s',S',e,hv3,hf⟩ := hv2.app (new := Zyg [low x[i]]) (Ya2 hm (Zzd (n := 0) _ (Yak _)).le) (by simp [Zyg]; omega)
   rw [e,obs,Zx6 (by omega) (by omega),show ((i : Int) + 1) = ((i + 1 : Nat) : Int) by simp]
   rw [← Zadx,← Zabn hlt] at hv3
   have hf0 := (Zzd (n := m) (z := 1) (S := S) (Zyg [low x[i]]) hm).trans hf
   obtain ⟨S2,e2,hf2⟩ := ih (i + 1) s' S' (by omega) (by omega) (Ya2 hm hf0.le) hv3
   exact ⟨S2,e2,hf0.trans hf2⟩
  ·obtain rfl : i = x.length := by omega
   rw [Yao] at hv
   rw [if_neg (by omega),hv.text]
   exact ⟨S,rfl,Fr.refl _ _⟩
theorem Zae9 {k m : Nat} {x : List UInt8} {S : HS} (hx : x.length ≤ 100000) (hk : x.length < k) (hm : m ≤ S.next) : ∃ S',Y28.f k x S = some (x.map low,S') ∧ Fr m S S' := by
 unfold Y28.f
 obtain ⟨s,S1,e,hv,hf⟩ := Vec.make (n := m) (S := S) (c := x.length) (zr := [.int .u8 0]) hm (by omega) (by omega)
 rw [e,obs]
 obtain ⟨S2,e2,hf2⟩ := Zajd (k := k) (m := m) hx k 0 s S1 (by omega) (by omega) (Ya2 hm hf.le) hv
 exact ⟨S2,e2,hf.trans hf2⟩
theorem Zafa {k m : Nat} {x : List UInt8} (hx : x.length ≤ 100000) (hk : 31 ≤ k) : ∀ (n i : Nat) (S : HS),x.length - i < n → i ≤ x.length → m ≤ S.next →
  ∃ S',Y7.L0 k n x ((x.take i).map low) (i : Int) S = some (x.map low,S') ∧ Fr m S S' := by
 intro n
 induction n with
 | zero => intro i S h; omega
 | succ n ih =>
  intro i S h hi hm
  unfold Y7.L0
  by_cases hlt : i < x.length
  ·rw [if_pos (by omega),Zadc hlt,obs,Zae8 hk,obs,letv,row_of]
   have hl := Vec.lit (n := m) (z := 1) (S := S) (Zyg [low x[i]]) hm
   rw [hl.text,obs,if_pos (by simp; omega),Zx6 (by omega) (by omega),show ((i : Int) + 1) = ((i + 1 : Nat) : Int) by simp,← Zabn hlt]
   have hf0 := Zzd (n := m) (z := 1) (S := S) (Zyg [low x[i]]) hm
   obtain ⟨S2,e2,hf2⟩ := ih (i + 1) _ (by omega) (by omega) (Ya2 hm hf0.le)
   exact ⟨S2,e2,hf0.trans hf2⟩
  ·rw [if_neg (by omega),show i = x.length by omega,Yao]
   exact ⟨S,rfl,Fr.refl _ _⟩
theorem Zz2 {k m : Nat} {x : List UInt8} {S : HS} (hx : x.length ≤ 100000) (hk : x.length < k) (hk2 : 31 ≤ k) (hm : m ≤ S.next) : ∃ S',Y7.f k x S = some (x.map low,S') ∧ Fr m S S' :=
 Zafa hx hk2 k 0 S (by omega) (by omega) hm
def cmpL : List UInt8 → List UInt8 → Int
 | [],[] => 0
 | [],_ :: _ => -1
 | _ :: _,[] => 1
 | a :: s,b :: t => if (low a).toNat < (low b).toNat then -1 else if (low b).toNat < (low a).toNat then 1 else cmpL s t
theorem Zae4 {k : Nat} {x y : List UInt8} (hx : x.length ≤ 100000) : ∀ (n i : Nat),min x.length y.length - i < n → i ≤ min x.length y.length →
  Y48.L0 k n x y (min x.length y.length : Nat) (i : Int) = some (cmpL (x.drop i) (y.drop i)) := by
 intro n
 induction n with
 | zero => intro i h; omega
 | succ n ih =>
  intro i h hi
  unfold Y48.L0
  by_cases hlt : i < min x.length y.length
  ·have h1 : i < x.length := by omega
   have h2 : i < y.length := by omega
   rw [if_pos (by omega),Zadc h1,obs,Zacu,obs,Zadc h2,obs,Zacu,obs,Yal h1,Yal h2,cmpL]
   by_cases c1 : (low x[i]).toNat < (low y[i]).toNat
   ·rw [if_pos (by omega),if_pos c1]
   ·rw [if_neg (by omega),if_neg c1]
    by_cases c2 : (low y[i]).toNat < (low x[i]).toNat
    ·rw [if_pos (by omega),if_pos c2]
    ·rw [if_neg (by omega),if_neg c2,Zx6 (by omega) (by omega),show ((i : Int) + 1) = ((i + 1 : Nat) : Int) by simp]
     exact ih (i + 1) (by omega) (by omega)
  ·rw [if_neg (by omega)]
   by_cases c1 : x.length < y.length
   ·rw [if_pos (by omega),Ya4 (show x.length ≤ i by omega),Yal (show i < y.length by omega),cmpL]
   ·rw [if_neg (by omega)]
    by_cases c2 : y.length < x.length
    ·rw [if_pos (by omega),Ya4 (show y.length ≤ i by omega),Yal (show i < x.length by omega),cmpL]
    ·rw [if_neg (by omega),Ya4 (show y.length ≤ i by omega),Ya4 (show x.length ≤ i by omega),cmpL]
theorem Zae5 {k : Nat} {x y : List UInt8} (hx : x.length ≤ 100000) (hk : x.length < k) : Y48.f k x y = some (cmpL x y) := by
 unfold Y48.f
 have := Zae4 (k := k) (y := y) hx k 0 (by omega) (by omega)
 rw [show mn (x.length : Int) (y.length : Int) = ((min x.length y.length : Nat) : Int) by unfold mn; split <;> omega]
 simpa using this
theorem Zzr : ∀ (x y : List UInt8),cmpL x y = 0 ↔ x.map low = y.map low := by
 intro x
 induction x with
 | nil => intro y; cases y <;> simp [cmpL]
 | cons a s ih =>
  intro y
  cases y with
  | nil => simp [cmpL]
  | cons b t =>
   simp only [cmpL,List.map_cons,List.cons.injEq]
   by_cases c1 : (low a).toNat < (low b).toNat
   ·rw [if_pos c1]
    constructor
    ·intro h; omega
    ·intro h; rw [h.1] at c1; omega
   ·rw [if_neg c1]
    by_cases c2 : (low b).toNat < (low a).toNat
    ·rw [if_pos c2]
     constructor
     ·intro h; omega
     ·intro h; rw [h.1] at c2; omega
    ·rw [if_neg c2,ih]
     constructor
     ·intro h; exact ⟨UInt8.toNat_inj.1 (by omega),h⟩
     ·intro h; exact h.2
theorem Zahx : ∀ (x : List UInt8),slt x x = false := by
 intro x
 induction x with
 | nil => rfl
 | cons a s ih => simp [slt,ih]
theorem Zab9 : ∀ (x y : List UInt8),cmpL x y = if slt (x.map low) (y.map low) = true then -1 else if x.map low = y.map low then 0 else 1 := by
 intro x
 induction x with
 | nil => intro y; cases y <;> simp [cmpL,slt]
 | cons a s ih =>
  intro y
  cases y with
  | nil => simp [cmpL,slt]
  | cons b t =>
   simp only [cmpL,List.map_cons,slt,Bool.or_eq_true,decide_eq_true_eq,Bool.and_eq_true,beq_iff_eq,UInt8.lt_iff_toNat_lt,List.cons.injEq]
   by_cases c1 : (low a).toNat < (low b).toNat
   ·simp [c1]
   ·by_cases c2 : (low b).toNat < (low a).toNat
    ·have hne : low a ≠ low b := fun h => by rw [h] at c2; omega
     simp [c1,c2,hne]
    ·have heq : low a = low b := UInt8.toNat_inj.1 (by omega)
     rw [ih]
     simp [c1,c2,heq]
theorem Zacs {k m : Nat} {x y : List UInt8} {S : HS} (hx : x.length ≤ 1000) (hy : y.length ≤ 1000) (hk : 2000 ≤ k) (hm : m ≤ S.next) : ∃ S',Y70.f k x y S = some (cmpL x y,S') ∧ Fr m S S' := by
 unfold Y70.f
 obtain ⟨S1,e1,f1⟩ := Zz2 (k := k) (m := m) (x := x) (S := S) (by omega) (by omega) (by omega) hm
 obtain ⟨S2,e2,f2⟩ := Zz2 (k := k) (m := m) (x := y) (S := S1) (by omega) (by omega) (by omega) (Ya2 hm f1.le)
 refine ⟨S2,?_,f1.trans f2⟩
 rw [e1,obs,e2,obs,Zab9]
 by_cases c1 : slt (x.map low) (y.map low) = true
 ·rw [if_pos c1,if_pos c1]
 ·rw [if_neg c1,if_neg c1]
  by_cases c2 : x.map low = y.map low
  ·rw [if_neg (by simp [c2]),if_pos c2]
  ·rw [if_pos (by simp [c1,c2]),if_neg c2]
theorem Zzp : ∀ (x y : List UInt8),cmpL y x = - cmpL x y := by
 intro x
 induction x with
 | nil => intro y; cases y <;> simp [cmpL]
 | cons a s ih =>
  intro y
  cases y with
  | nil => simp [cmpL]
  | cons b t =>
   simp only [cmpL]
   by_cases c1 : (low a).toNat < (low b).toNat
   ·simp [c1,show ¬ (low b).toNat < (low a).toNat by omega]
   ·by_cases c2 : (low b).toNat < (low a).toNat
    ·simp [c1,c2]
    ·simp [c1,c2,ih]
theorem Zadg : ∀ (x y z : List UInt8),cmpL x y ≤ 0 → cmpL y z ≤ 0 → cmpL x z ≤ 0 := by
 intro x
 induction x with
 | nil => intro y z _ _; cases z <;> simp [cmpL]
 | cons a s ih =>
  intro y z h1 h2
  cases y with
  | nil => simp [cmpL] at h1
  | cons b t =>
   cases z with
   | nil => simp [cmpL] at h2
   | cons c u =>
    simp only [cmpL] at h1 h2 ⊢
    by_cases c1 : (low b).toNat < (low a).toNat
    ·rw [if_neg (by omega),if_pos c1] at h1; omega
    by_cases c2 : (low c).toNat < (low b).toNat
    ·rw [if_neg (by omega),if_pos c2] at h2; omega
    by_cases c3 : (low a).toNat < (low c).toNat
    ·rw [if_pos c3]; omega
    ·rw [if_neg c3,if_neg (by omega)]
     rw [if_neg (by omega),if_neg c1] at h1
     rw [if_neg (by omega),if_neg c2] at h2
     exact ih _ _ h1 h2
namespace BK
theorem cmpL_lt_trans {a b c : List UInt8} (h1 : cmpL a b < 0) (h2 : cmpL b c < 0) : cmpL a c < 0 := by
 have h3 := Zadg a b c (by omega) (by omega)
 rcases Int.lt_or_eq_of_le h3 with h | h
 ·exact h
 ·have h4 : cmpL c a = 0 := by rw [Zzp a c,h]; rfl
  have h5 := Zadg b c a (by omega) (by omega)
  rw [Zzp a b] at h5
  omega
theorem Zaat {a b c : List UInt8} (h : cmpL a b = 0) : cmpL a c = cmpL b c := by
 rw [Zzr] at h
 rw [Zab9,Zab9,h]
theorem Zad8 {a b c : List UInt8} (h : cmpL a b = 0) : cmpL c a = cmpL c b := by
 rw [Zzp a c,Zzp b c,Zaat h]
abbrev En := List UInt8 × Option HA
def enRow (e : En) : List HV := [.str e.1,.ptr e.2]
def Srt (es : List En) : Prop := es.Pairwise fun a b => cmpL a.1 b.1 < 0
theorem Srt.lt {es : List En} (h : Srt es) {i j : Nat} (hi : i < es.length) (hj : j < es.length) (hij : i < j) : cmpL es[i].1 es[j].1 < 0 := Yap.1 h i j hi hj hij
structure PosOf (es : List En) (t : List UInt8) (p : Nat) : Prop where
 le : p ≤ es.length
 lo : ∀ q (hq : q < es.length),q < p → cmpL es[q].1 t < 0
 hi : ∀ q (hq : q < es.length),p ≤ q → ¬ cmpL es[q].1 t < 0
def foundAt (es : List En) (t : List UInt8) (p : Nat) : Bool := match es[p]? with | some e => decide (cmpL e.1 t = 0) | none => false
theorem PosOf.gt {es : List En} {t : List UInt8} {p : Nat} (h : PosOf es t p) (hs : Srt es) (hf : foundAt es t p = false) {q : Nat} (hq : q < es.length) (hpq : p ≤ q) : cmpL t es[q].1 < 0 := by
 have hp : p < es.length := by omega
 have h1 := h.hi p hp (Yaa _)
 have h2 : cmpL es[p].1 t ≠ 0 := by
  simp only [foundAt,List.getElem?_eq_getElem hp,decide_eq_false_iff_not] at hf
  exact hf
 have h3 : cmpL t es[p].1 < 0 := by rw [Zzp]; omega
 rcases Nat.eq_or_lt_of_le hpq with e | e
 ·subst e; exact h3
 ·exact cmpL_lt_trans h3 (hs.lt hp hq e)
theorem ins_srt {es : List En} {t : List UInt8} {p : Nat} (h : PosOf es t p) (hs : Srt es) (hf : foundAt es t p = false) (v : Option HA) : Srt (es.take p ++ [(t,v)] ++ es.drop p) := by
 unfold Srt
 rw [Ya6,Yad]
 refine ⟨List.Pairwise.sublist (List.take_sublist _ _) hs,?_,fun a ha b hb => ?_⟩
 ·rw [List.singleton_append,Yah]
  refine ⟨fun b hb => ?_,List.Pairwise.sublist (List.drop_sublist _ _) hs⟩
  obtain ⟨q,hq,rfl⟩ := Yag hb
  rw [Yat]
  exact h.gt hs hf _ (by omega)
 ·obtain ⟨q,hq,rfl⟩ := Yag ha
  rw [Yar] at hq
  rw [Ybj]
  have h1 := h.lo q (by omega) (by omega)
  rcases Yab.1 hb with hb | hb
  ·simp only [Yaq] at hb
   subst hb; exact h1
  ·obtain ⟨q2,hq2,rfl⟩ := Yag hb
   rw [Yat]
   rw [Ya1] at hq2
   exact hs.lt (by omega) (by omega) (by omega)
theorem set_srt {es : List En} {t : List UInt8} {p : Nat} (hs : Srt es) (hf : foundAt es t p = true) (v : Option HA) : Srt (es.set p (t,v)) := by
 have hp : p < es.length := by
  unfold foundAt at hf
  cases he : es[p]? with
  | none => rw [he] at hf; cases hf
  | some e => exact (List.getElem?_eq_some_iff.1 he).1
 have h0 : cmpL es[p].1 t = 0 := by
  simp only [foundAt,List.getElem?_eq_getElem hp,decide_eq_true_eq] at hf
  exact hf
 refine Yap.2 fun i j hi hj hij => ?_
 rw [List.length_set] at hi hj
 rw [List.getElem_set,List.getElem_set]
 have := hs.lt hi hj hij
 split
 ·rename_i e
  subst e
  rw [if_neg (by omega)]
  rw [← Zaat h0]; exact this
 ·split
  ·rename_i e
   subst e
   rw [← Zad8 h0]; exact this
  ·exact this
theorem erase_srt {es : List En} (hs : Srt es) (p : Nat) : Srt (es.eraseIdx p) := List.Pairwise.sublist (List.eraseIdx_sublist _ _) hs
theorem erase_away {es : List En} {t : List UInt8} {p : Nat} (hs : Srt es) (hf : foundAt es t p = true) : ∀ e ∈ es.eraseIdx p,e ∈ es ∧ cmpL t e.1 ≠ 0 := by
 have hp : p < es.length := by
  unfold foundAt at hf
  cases he : es[p]? with
  | none => rw [he] at hf; cases hf
  | some e => exact (List.getElem?_eq_some_iff.1 he).1
 have h0 : cmpL es[p].1 t = 0 := by
  simp only [foundAt,List.getElem?_eq_getElem hp,decide_eq_true_eq] at hf
  exact hf
 intro e he
 rw [List.mem_eraseIdx_iff_getElem] at he
 obtain ⟨q,hq,hne,rfl⟩ := he
 refine ⟨Yae hq,fun hc => ?_⟩
 have h1 : cmpL es[p].1 es[q].1 = 0 := by rw [Zaat h0]; exact hc
 rcases Yan p q with h | h
 ·have := hs.lt hp hq h; omega
 ·have h2 := hs.lt hq hp (by omega)
  rw [Zzp] at h1; omega
theorem none_alike {es : List En} {t : List UInt8} {p : Nat} (h : PosOf es t p) (hs : Srt es) (hf : foundAt es t p = false) : ∀ e ∈ es,cmpL t e.1 ≠ 0 := by
 intro e he hc
 obtain ⟨q,hq,rfl⟩ := Yag he
 rcases Yan q p with h1 | h1
 ·have := h.lo q hq h1; rw [Zzp] at hc; omega
 ·have := h.gt hs hf hq h1; omega
end BK
namespace BK
def CmpF (D : Dp) (H : Hd) (fv : HV) (t : List UInt8) : Prop := ∀ (e : En) (S : HS),e.1.length ≤ 1000 → ∃ S',D H fv [.agg (enRow e),.str t] S = some (.int .i64 (cmpL e.1 t),S') ∧ Fr S.next S S'
theorem cmpF {k n : Nat} {H : Hd} {t : List UInt8} (hk : 2000 ≤ k) : CmpF (disp k (n + 1)) H (HV.fn (.func 103) [] []) t := by
 intro e S he
 have hcell : (S.new (.cells 2 [[.str e.1,.ptr e.2]] true)).heap S.next = .cells 2 [[.str e.1,.ptr e.2]] true := Zxx _ _
 refine ⟨S.new (.cells 2 [[.str e.1,.ptr e.2]] true),?_,Fr.new (Yaa _) _⟩
 have e' : Zaax (disp k n) H k ([] ++ [HV.agg (enRow e),.str t] ++ []) S = some (.int .i64 (cmpL e.1 t),S.new (.cells 2 [[.str e.1,.ptr e.2]] true)) := by
  rw [Zaax]
  simp only [Yay,Ya5,Zaae,enRow,dA2,dS,dP,obs,if_true]
  rw [Y89.f,letv,Zzs (Zxu hcell) rfl rfl,obs,Zae5 (by omega) (by omega),obs]
  rfl
 rw [Zz8]
 simp only [if_true,if_false,e']
theorem en_rows {S : HS} {s : Sl} {xs : List En} (h : S.rows s 2 = some (xs.map enRow)) {i : Nat} (hi : i < xs.length) : ∃ ad,S.idx s (i : Int) 2 = some ad ∧ S.ldS (HA.fld ad 0) = some xs[i].1 ∧ S.ldP (HA.fld ad 1) = some xs[i].2 := by
 obtain ⟨ad,h1,h2,h3⟩ := Zab7 h (i := i) (by simpa using hi)
 rw [Yaj] at h3
 exact ⟨ad,h1,Zzs h3 h2 rfl,Zacj h3 h2 rfl⟩
theorem search_loop {D : Dp} {H : Hd} {k : Nat} {s : Sl} {t : List UInt8} {fv : HV} {es : List En} (hc : CmpF D H fv t) (hs : Srt es) (hl : ∀ e ∈ es,e.1.length ≤ 1000) (hle : es.length ≤ 100000) :
  ∀ (n i j : Nat) (S : HS),j - i < n → i ≤ j → j ≤ es.length → Rd S.next S 2 s (es.map enRow) → (∀ q (hq : q < es.length),q < i → cmpL es[q].1 t < 0) → (∀ q (hq : q < es.length),j ≤ q → ¬ cmpL es[q].1 t < 0) →
  ∃ (p : Nat) (S' : HS),Y45.L0 D H k n s t fv (es.length : Int) (i : Int) (j : Int) S = some (((p : Int),foundAt es t p),S') ∧ PosOf es t p ∧ Fr S.next S S' := by
 intro n
 induction n with
 | zero => intro i j S h; omega
 | succ n ih =>
  intro i j S hf hij hj hrd hlo hhi
  unfold Y45.L0
  by_cases hlt : i < j
  ·rw [if_pos (by omega),Zag4 (by omega)]
   have hm : (i + j) / 2 < es.length := by omega
   obtain ⟨ad,a1,a2,a3⟩ := en_rows hrd.rows hm
   obtain ⟨S1,e1,f1⟩ := hc es[(i + j) / 2] S (hl _ (Yae _))
   have hrd1 : Rd S1.next S1 2 s (es.map enRow) := (hrd.frame f1 (Yaa _)).mono f1.le
   have e1' : D H fv [HV.agg [HV.str es[(i + j) / 2].1,HV.ptr es[(i + j) / 2].2],HV.str t] S = some (.int .i64 (cmpL es[(i + j) / 2].1 t),S1) := e1
   rw [a1,obs,a2,obs,a3,obs,e1',obs]
   simp only [dI,if_true,obs]
   by_cases hc0 : cmpL es[(i + j) / 2].1 t < 0
   ·rw [if_pos hc0,Zx6 (by omega) (by omega),show ((((i + j) / 2 : Nat) : Int) + 1) = (((i + j) / 2 + 1 : Nat) : Int) by simp]
    obtain ⟨p,S2,e2,p2,f2⟩ := ih ((i + j) / 2 + 1) j S1 (by omega) (by omega) hj hrd1 (fun q hq hqi => by
     rcases Yan q ((i + j) / 2) with h | h
     ·exact cmpL_lt_trans (hs.lt hq hm h) hc0
     ·obtain rfl : q = (i + j) / 2 := by omega
      exact hc0) hhi
    exact ⟨p,S2,e2,p2,f1.trans (f2.mono f1.le)⟩
   ·rw [if_neg hc0]
    obtain ⟨p,S2,e2,p2,f2⟩ := ih i ((i + j) / 2) S1 (by omega) (by omega) (by omega) hrd1 hlo (fun q hq hqi => by
     rcases Yan ((i + j) / 2) q with h | h
     ·intro hcc
      exact hc0 (cmpL_lt_trans (hs.lt hm hq h) hcc)
     ·obtain rfl : q = (i + j) / 2 := by omega
      exact hc0)
    exact ⟨p,S2,e2,p2,f1.trans (f2.mono f1.le)⟩
  ·obtain rfl : i = j := by omega
   rw [if_neg (by omega)]
   have hp : PosOf es t i := ⟨hj,hlo,hhi⟩
   by_cases hend : i < es.length
   ·obtain ⟨ad,a1,a2,a3⟩ := en_rows hrd.rows hend
    obtain ⟨S1,e1,f1⟩ := hc es[i] S (hl _ (Yae _))
    have e1' : D H fv [HV.agg [HV.str es[i].1,HV.ptr es[i].2],HV.str t] S = some (.int .i64 (cmpL es[i].1 t),S1) := e1
    rw [if_pos (by omega),a1,obs,a2,obs,a3,obs,e1',obs]
    simp only [dI,if_true,obs,Y45.J1]
    refine ⟨i,S1,?_,hp,f1⟩
    simp [foundAt,List.getElem?_eq_getElem hend]
   ·rw [if_neg (by omega),Y45.J1]
    refine ⟨i,S,?_,hp,Fr.refl _ _⟩
    simp [foundAt,List.getElem?_eq_none (show es.length ≤ i by omega)]
structure BI (p : Nat) (s : Sl) (most : Int) (es : List En) (S : HS) : Prop where
 cell : S.heap p = .cells 2 [[.int .i64 most,s.hv]] true
 ov : OV S 2 s (es.map enRow)
 ne : ∀ q,s.a = some q → q.1 ≠ p
 hi : p < S.next
 srt : Srt es
 len : ∀ e ∈ es,e.1.length ≤ 1000
 cnt : es.length ≤ 1000
theorem BI.lt {p : Nat} {s : Sl} {most : Int} {es : List En} {S : HS} (h : BI p s most es S) {id : Nat} (ho : Own p s id) : id < S.next := by
 rcases ho with rfl | ⟨q,h1,rfl⟩
 ·exact h.hi
 ·exact h.ov.lt h1
theorem BI.keep {p : Nat} {s : Sl} {most : Int} {es : List En} {S S' : HS} (h : BI p s most es S) (he : ∀ id,Own p s id → S'.heap id = S.heap id) (hn : S.next ≤ S'.next) : BI p s most es S' :=
 ⟨(he p (.inl rfl)).trans h.cell,h.ov.keep (fun q hq => he q.1 (.inr ⟨q,hq,rfl⟩)) hn,h.ne,Yai h.hi hn,h.srt,h.len,h.cnt⟩
theorem BI.fr {p : Nat} {s : Sl} {most : Int} {es : List En} {S S' : HS} (h : BI p s most es S) (hf : Fr S.next S S') : BI p s most es S' := h.keep (fun id ho => hf.eq id (h.lt ho)) hf.le
theorem BI.row {p : Nat} {s : Sl} {most : Int} {es : List En} {S : HS} (h : BI p s most es S) : S.row (HA.cell0 p).id (HA.cell0 p).i = some [.int .i64 most,s.hv] := Zxu h.cell
theorem BI.slen {p : Nat} {s : Sl} {most : Int} {es : List En} {S : HS} (h : BI p s most es S) : s.len = es.length := by rw [h.ov.len]; simp
theorem BI.rd {p : Nat} {s : Sl} {most : Int} {es : List En} {S : HS} (h : BI p s most es S) : Rd S.next S 2 s (es.map enRow) := ⟨h.ov.rows,fun q hq => h.ov.lt hq⟩
theorem Zaf4 {k n p : Nat} {H : Hd} {s : Sl} {most : Int} {es : List En} {S : HS} (hk : 2000 ≤ k) (h : BI p s most es S) (t : List UInt8) :
  ∃ (i : Nat) (S' : HS),Y19.f (disp k (n + 1)) H k (some (HA.cell0 p)) t S = some (((i : Int),foundAt es t i),S') ∧ PosOf es t i ∧ Fr S.next S S' := by
 obtain ⟨i,S',e,h1,h2⟩ := search_loop (k := k) (fv := HV.fn (.func 103) [] []) (cmpF (n := n) (H := H) (t := t) (show 2000 ≤ k by omega)) h.srt h.len (by have := h.cnt; omega) k 0 es.length S (by have := h.cnt; omega) (Yak _) (Yaa _) h.rd (fun q _ hq => by omega) (fun q hq hq2 => by omega)
 refine ⟨i,S',?_,h1,h2⟩
 rw [Y19.f,if_neg (by simp),obs,Zy4 h.row rfl rfl,obs,Y45.f,h.slen]
 rw [show ((0 : Nat) : Int) = 0 from rfl] at e
 rw [e,obs]
def putL (most : Int) (es : List En) (i : Nat) (t : List UInt8) (v : Option HA) : List En := if foundAt es t i then es.set i (t,v) else if (es.length : Int) ≥ most then es else es.take i ++ [(t,v)] ++ es.drop i
def putR (most : Int) (es : List En) (i : Nat) (t : List UInt8) : Int := if foundAt es t i then 0 else if (es.length : Int) ≥ most then 7 else 0
theorem found_lt {es : List En} {t : List UInt8} {i : Nat} (h : foundAt es t i = true) : i < es.length := by
 unfold foundAt at h
 cases he : es[i]? with
 | none => rw [he] at h; cases h
 | some e => exact (List.getElem?_eq_some_iff.1 he).1
theorem OV.set_ {S : HS} {s : Sl} {rows : List (List HV)} {z : Nat} (h : OV S z s rows) {i : Nat} {row : List HV} (hi : i < rows.length) (hr : row.length = rows[i].length) :
  ∃ ad S',S.idx s (i : Int) z = some ad ∧ S.sets ad row = some S' ∧ OV S' z s (rows.set i row) ∧ S'.next = S.next ∧ (∀ id,(∀ q,s.a = some q → q.1 ≠ id) → S'.heap id = S.heap id) := by
 rcases h with ⟨_,_,rfl⟩ | ⟨id,rfl,h2,h3⟩
 ·simp at hi
 ·refine ⟨⟨id,i,0⟩,S.put id (.cells z (rows.set i row) true),by simp [HS.idx,h2,hi],?_,.inr ⟨id,by simp,Zxv _ _ _,h3⟩,rfl,fun j hj => Zxe _ (fun e => hj _ rfl e.symm)⟩
  rw [Zyv h2 (List.getElem?_eq_getElem hi) (by omega)]
  simp [hr]
theorem put_spec {k n p : Nat} {H : Hd} {s : Sl} {most : Int} {es : List En} {S : HS} (hk : 2000 ≤ k) (h : BI p s most es S) (hroom : es.length < 1000) (t : List UInt8) (v : Option HA) (ht : t.length ≤ 1000) :
  ∃ i s' S',PosOf es t i ∧ Y53.f (disp k (n + 1)) H k (some (HA.cell0 p)) t v S = some (putR most es i t,S') ∧ BI p s' most (putL most es i t v) S' ∧ Only p s s' S S' := by
 obtain ⟨i,S1,e1,hp,f1⟩ := Zaf4 (n := n) (H := H) hk h t
 have h1 := h.fr f1
 refine ⟨i,?_⟩
 rw [Y53.f,if_neg (by simp),e1,obs]
 simp only [putL,putR]
 cases hf : foundAt es t i with
 | true =>
  have hi := found_lt hf
  obtain ⟨ad,S2,a1,a2,a3,a4,a5⟩ := OV.set_ h1.ov (i := i) (row := [.str t,.ptr v]) (by simpa using hi) (by simp [enRow])
  have hb : BI p s most (es.set i (t,v)) S2 := by
   refine ⟨by rw [a5 p h1.ne]; exact h1.cell,?_,h1.ne,by rw [a4]; exact h1.hi,set_srt h.srt hf v,fun e he => ?_,by simpa using h.cnt⟩
   ·have : (es.map enRow).set i [.str t,.ptr v] = (es.set i (t,v)).map enRow := by rw [List.map_set]; rfl
    rw [← this]; exact a3
   ·rcases List.mem_or_eq_of_mem_set he with g | rfl
    ·exact h.len e g
    ·exact ht
  refine ⟨s,S2,hp,?_,by simpa using hb,(Only.of_fr f1).trans ⟨by rw [a4]; exact Yaa _,fun id _ g => a5 id (fun q hq e => g (.inr ⟨q,hq,e⟩)),fun _ ho => .inl ho⟩⟩
  rw [if_pos rfl,obs,Zy4 h1.row rfl rfl,obs,a1,obs,a2,obs,Y53.J0]
  rfl
 | false =>
  rw [if_neg (by simp),obs,Zy4 h1.row rfl rfl,obs,obs,Zyb h1.row rfl rfl,obs,h1.slen]
  by_cases hfull : (es.length : Int) ≥ most
  ·rw [if_pos hfull]
   refine ⟨s,S1,hp,by simp [hfull],by simpa [hfull] using h1,Only.of_fr f1⟩
  ·rw [if_neg hfull]
   obtain ⟨s',S2,a1,a2,a3,a4,a5⟩ := Zag1 (row := [.str t,.ptr v]) h1.ov (i := i) (by simpa using hp.le) (by simp; omega)
   have hcell : S2.heap p = .cells 2 [[.int .i64 most,s.hv]] true := by rw [a4 p h1.hi h1.ne]; exact h1.cell
   have hne' : ∀ q,s'.a = some q → q.1 ≠ p := fun q hq => by have := a5 q hq; have := h1.hi; omega
   rw [obs,Zy4 h1.row rfl rfl,obs,letv,Y92.f,a1,obs,obs]
   have hsr : S2.sets (HA.fld (HA.cell0 p) 1) [s'.hv] = some (S2.put p (.cells 2 [[.int .i64 most,s'.hv]] true)) := (Zyv hcell rfl (by simp)).trans rfl
   rw [hsr,obs,Y53.J0]
   have hb : BI p s' most (es.take i ++ [(t,v)] ++ es.drop i) (S2.put p (.cells 2 [[.int .i64 most,s'.hv]] true)) := by
    refine ⟨Zxv _ _ _,?_,hne',Yai h1.hi a3,ins_srt hp h.srt hf v,fun e he => ?_,?_⟩
    ·have hmap : (es.take i ++ [(t,v)] ++ es.drop i).map enRow = (es.map enRow).take i ++ [[.str t,.ptr v]] ++ (es.map enRow).drop i := by
      simp only [Yau,List.map_take,List.map_drop,List.map_cons,List.map_nil,enRow]
     rw [hmap]
     exact a2.keep (fun q hq => Zxe _ (hne' q hq)) (Yaa _)
    ·simp only [Yab,Yaq] at he
     rcases he with (g | rfl) | g
     ·exact h.len e (Ybh g)
     ·exact ht
     ·exact h.len e (Ybi g)
    ·simp only [Ya3,Yar,Ya1,List.length_singleton]; omega
   refine ⟨s',S2.put p (.cells 2 [[.int .i64 most,s'.hv]] true),hp,by simp [hfull],by simpa [hfull] using hb,(Only.of_fr f1).trans ⟨by rw [Zxw]; exact a3,fun id g1 g2 => ?_,fun id ho => ?_⟩⟩
   ·rw [Zxe _ (fun e => g2 (.inl e))]
    exact a4 id g1 (fun q hq e => g2 (.inr ⟨q,hq,e⟩))
   ·rcases ho with g | ⟨q,g1,g2⟩
    ·exact .inl (.inl g)
    ·right; rw [← g2]; exact a5 q g1
theorem delete_spec {k n p : Nat} {H : Hd} {s : Sl} {most : Int} {es : List En} {S : HS} (hk : 2000 ≤ k) (h : BI p s most es S) (t : List UInt8) :
  ∃ i s' S',PosOf es t i ∧ Y55.f (disp k (n + 1)) H k (some (HA.cell0 p)) t S = some (foundAt es t i,S') ∧ BI p s' most (if foundAt es t i then es.eraseIdx i else es) S' ∧ Only p s s' S S' := by
 obtain ⟨i,S1,e1,hp,f1⟩ := Zaf4 (n := n) (H := H) hk h t
 have h1 := h.fr f1
 refine ⟨i,?_⟩
 rw [Y55.f,e1,obs]
 cases hf : foundAt es t i with
 | false =>
  rw [if_neg (by simp),Y55.J0]
  exact ⟨s,S1,hp,rfl,by simpa using h1,Only.of_fr f1⟩
 | true =>
  have hi := found_lt hf
  have hcnt := h.cnt
  rw [if_pos rfl,obs,Zy4 h1.row rfl rfl,obs]
  simp only
  rw [Zx6 (by omega) (by omega),show ((i : Int) + 1) = ((i + 1 : Nat) : Int) by simp]
  obtain ⟨s',S2,a1,a2,a3,a4,a5⟩ := Zag2 h1.ov (i := i) (by simpa using hi) (by simp; omega)
  have hcell : S2.heap p = .cells 2 [[.int .i64 most,s.hv]] true := by rw [a4 p h1.hi h1.ne]; exact h1.cell
  have hne' : ∀ q,s'.a = some q → q.1 ≠ p := fun q hq => by have := a5 q hq; have := h1.hi; omega
  have hsr : S2.sets (HA.fld (HA.cell0 p) 1) [s'.hv] = some (S2.put p (.cells 2 [[.int .i64 most,s'.hv]] true)) := (Zyv hcell rfl (by simp)).trans rfl
  rw [Y104.f,a1,obs,obs,hsr,obs,Y55.J0]
  have hb : BI p s' most (es.eraseIdx i) (S2.put p (.cells 2 [[.int .i64 most,s'.hv]] true)) := by
   refine ⟨Zxv _ _ _,?_,hne',Yai h1.hi a3,erase_srt h.srt i,fun e he => h.len e (List.mem_of_mem_eraseIdx he),by rw [List.length_eraseIdx,if_pos hi]; omega⟩
   rw [Go.ChangeMaps.map_eraseIdx]
   exact a2.keep (fun q hq => Zxe _ (hne' q hq)) (Yaa _)
  refine ⟨s',S2.put p (.cells 2 [[.int .i64 most,s'.hv]] true),hp,rfl,by simpa using hb,(Only.of_fr f1).trans ⟨by rw [Zxw]; exact a3,fun id g1 g2 => ?_,fun id ho => ?_⟩⟩
  ·rw [Zxe _ (fun e => g2 (.inl e))]
   exact a4 id g1 (fun q hq e => g2 (.inr ⟨q,hq,e⟩))
  ·rcases ho with g | ⟨q,g1,g2⟩
   ·exact .inl (.inl g)
   ·right; rw [← g2]; exact a5 q g1
theorem len_spec {p : Nat} {s : Sl} {most : Int} {es : List En} {S : HS} (h : BI p s most es S) : Y35.f (some (HA.cell0 p)) S = some ((es.length : Int),S) := by
 rw [Y35.f,if_neg (by simp),obs,Zy4 h.row rfl rfl,obs,h.slen]
theorem Zahy {s : Sl} {rows : List (List HV)} {S : HS} (hr : Rd S.next S 2 s rows) (hn : s.a = none → rows = []) (hc : rows.length ≤ 1000) : ∃ s' S1,Y83.f s S = some (s',S1) ∧ S1.rows s' 2 = some rows ∧ (∀ q,s'.a = some q → S.next ≤ q.1 ∧ q.1 < S1.next) ∧ Fr S.next S S1 := by
 unfold Y83.f
 by_cases ha : s.a.isNone = true
 ·rw [if_pos ha]
  refine ⟨_,S,rfl,?_,fun q hq => (by cases hq),Fr.refl _ _⟩
  rw [hn (by simpa using ha)]; rfl
 ·rw [if_neg ha,letv]
  have hl := Vec.lit (n := S.next) (z := 2) (S := S) [] (Yaa _)
  have hr' : (S.lit [] 2).2.rows s 2 = some rows := (hr.frame (Zzd [] (Yaa _)) (Yaa _)).rows
  obtain ⟨s',S1,e1,v1,f1⟩ := hl.app (new := rows) (Nat.le_succ _) (by simp; omega)
  rw [hr',obs,e1,obs]
  rw [Yay] at v1
  exact ⟨s',S1,rfl,v1.rows,v1.lo,(Zzd [] (Yaa _)).trans f1⟩
theorem Zajb {s : Sl} {rows : List (List HV)} {S : HS} (hr : S.rows s 2 = some rows) (hq : ∀ q,s.a = some q → q.1 < S.next) :
  ∃ S',Y78.f s S = some (.fn (.func 119) [] [.ptr (some (HA.cell0 S.next))],S') ∧ S'.heap S.next = .cells 1 [[s.hv]] true ∧ S'.rows s 2 = some rows ∧ S'.next = S.next + 1 ∧ Fr S.next S S' := by
 rw [Y78.f,letv]
 refine ⟨_,rfl,Zxx _ _,?_,rfl,Fr.new (Yaa _) _⟩
 have hrd : Rd S.next S 2 s rows := ⟨hr,hq⟩
 exact (hrd.frame (Fr.new (Yaa _) _) (Yaa _)).rows
theorem all_spec {p : Nat} {s : Sl} {most : Int} {es : List En} {S : HS} (h : BI p s most es S) :
  ∃ c s' S',Y71.f (some (HA.cell0 p)) S = some (.fn (.func 119) [] [.ptr (some (HA.cell0 c))],S') ∧ S.next ≤ c ∧ c < S'.next ∧ S'.heap c = .cells 1 [[s'.hv]] true ∧ S'.rows s' 2 = some (es.map enRow) ∧ (∀ q,s'.a = some q → S.next ≤ q.1 ∧ q.1 < S'.next) ∧ Fr S.next S S' := by
 obtain ⟨s',S1,e1,r1,q1,f1⟩ := Zahy h.rd h.ov.none (by have := h.cnt; simpa using this)
 obtain ⟨S2,e2,c2,r2,n2,f2⟩ := Zajb r1 (fun q hq => (q1 q hq).2)
 rw [Y71.f,if_neg (by simp),obs,Zy4 h.row rfl rfl,obs,e1,obs,e2,obs]
 exact ⟨S1.next,s',S2,rfl,f1.le,by omega,c2,r2,fun q hq => ⟨(q1 q hq).1,by have := (q1 q hq).2; omega⟩,f1.trans (f2.mono f1.le)⟩
theorem get_spec {k n p : Nat} {H : Hd} {s : Sl} {most : Int} {es : List En} {S : HS} (hk : 2000 ≤ k) (h : BI p s most es S) (t : List UInt8) :
  ∃ i S',PosOf es t i ∧ Y15.f (disp k (n + 1)) H k (some (HA.cell0 p)) t S = some ((if foundAt es t i then (es[i]?.getD ([],none)).2 else none,foundAt es t i),S') ∧ Fr S.next S S' := by
 obtain ⟨i,S1,e1,hp,f1⟩ := Zaf4 (n := n) (H := H) hk h t
 have h1 := h.fr f1
 refine ⟨i,S1,hp,?_,f1⟩
 rw [Y15.f,e1,obs]
 cases hf : foundAt es t i with
 | false => rw [if_pos (by simp)]; rfl
 | true =>
  have hi := found_lt hf
  obtain ⟨ad,a1,a2,a3⟩ := en_rows h1.ov.rows hi
  rw [if_neg (by simp),obs,Zy4 h1.row rfl rfl,obs]
  simp only
  rw [a1,obs,a3,obs]
  simp [hi]
end BK
namespace MK
def cmpI (a b : Int) : Int := if a < b then -1 else if b < a then 1 else 0
theorem cmpI_zero (a b : Int) : cmpI a b = 0 ↔ a = b := by unfold cmpI; split <;> (try split) <;> omega
theorem cmpI_lt (a b : Int) : cmpI a b < 0 ↔ a < b := by unfold cmpI; split <;> (try split) <;> omega
theorem Zacw (a b : Int) : cmpI b a = - cmpI a b := by
 unfold cmpI
 split <;> split <;> omega
theorem Zaah {a b c : Int} (h1 : cmpI a b < 0) (h2 : cmpI b c < 0) : cmpI a c < 0 := by rw [cmpI_lt] at *; omega
theorem Zafc {a b c : Int} (h : cmpI a b = 0) : cmpI a c = cmpI b c := by rw [cmpI_zero] at h; rw [h]
theorem cmp_spec (a b : Int) : Y74.f a b = some (cmpI a b) := by
 unfold Y74.f cmpI Y8.f
 simp
 split
 ·rfl
 ·split <;> rfl
abbrev En := Int × Bool × Bool
def enRow (e : En) : List HV := [.int .i64 e.1,.bool e.2.1,.bool e.2.2]
def Srt (es : List En) : Prop := es.Pairwise fun a b => cmpI a.1 b.1 < 0
theorem Srt.lt {es : List En} (h : Srt es) {i j : Nat} (hi : i < es.length) (hj : j < es.length) (hij : i < j) : cmpI es[i].1 es[j].1 < 0 := Yap.1 h i j hi hj hij
structure PosOf (es : List En) (t : Int) (p : Nat) : Prop where
 le : p ≤ es.length
 lo : ∀ q (hq : q < es.length),q < p → cmpI es[q].1 t < 0
 hi : ∀ q (hq : q < es.length),p ≤ q → ¬ cmpI es[q].1 t < 0
def foundAt (es : List En) (t : Int) (p : Nat) : Bool := match es[p]? with | some e => decide (cmpI e.1 t = 0) | none => false
theorem PosOf.gt {es : List En} {t : Int} {p : Nat} (h : PosOf es t p) (hs : Srt es) (hf : foundAt es t p = false) {q : Nat} (hq : q < es.length) (hpq : p ≤ q) : cmpI t es[q].1 < 0 := by
 have hp : p < es.length := by omega
 have h1 := h.hi p hp (Yaa _)
 have h2 : cmpI es[p].1 t ≠ 0 := by
  simp only [foundAt,List.getElem?_eq_getElem hp,decide_eq_false_iff_not] at hf
  exact hf
 have h3 : cmpI t es[p].1 < 0 := by rw [Zacw]; omega
 rcases Nat.eq_or_lt_of_le hpq with e | e
 ·subst e; exact h3
 ·exact Zaah h3 (hs.lt hp hq e)
theorem ins_srt {es : List En} {t : Int} {p : Nat} (h : PosOf es t p) (hs : Srt es) (hf : foundAt es t p = false) (v : Bool × Bool) : Srt (es.take p ++ [(t,v)] ++ es.drop p) := by
 unfold Srt
 rw [Ya6,Yad]
 refine ⟨List.Pairwise.sublist (List.take_sublist _ _) hs,?_,fun a ha b hb => ?_⟩
 ·rw [List.singleton_append,Yah]
  refine ⟨fun b hb => ?_,List.Pairwise.sublist (List.drop_sublist _ _) hs⟩
  obtain ⟨q,hq,rfl⟩ := Yag hb
  rw [Yat]
  exact h.gt hs hf _ (by omega)
 ·obtain ⟨q,hq,rfl⟩ := Yag ha
  rw [Yar] at hq
  rw [Ybj]
  have h1 := h.lo q (by omega) (by omega)
  rcases Yab.1 hb with hb | hb
  ·simp only [Yaq] at hb
   subst hb; exact h1
  ·obtain ⟨q2,hq2,rfl⟩ := Yag hb
   rw [Yat]
   rw [Ya1] at hq2
   exact hs.lt (by omega) (by omega) (by omega)
theorem erase_srt {es : List En} (hs : Srt es) (p : Nat) : Srt (es.eraseIdx p) := List.Pairwise.sublist (List.eraseIdx_sublist _ _) hs
theorem erase_away {es : List En} {t : Int} {p : Nat} (hs : Srt es) (hf : foundAt es t p = true) : ∀ e ∈ es.eraseIdx p,e ∈ es ∧ cmpI t e.1 ≠ 0 := by
 have hp : p < es.length := by
  unfold foundAt at hf
  cases he : es[p]? with
  | none => rw [he] at hf; cases hf
  | some e => exact (List.getElem?_eq_some_iff.1 he).1
 have h0 : cmpI es[p].1 t = 0 := by
  simp only [foundAt,List.getElem?_eq_getElem hp,decide_eq_true_eq] at hf
  exact hf
 intro e he
 rw [List.mem_eraseIdx_iff_getElem] at he
 obtain ⟨q,hq,hne,rfl⟩ := he
 refine ⟨Yae hq,fun hc => ?_⟩
 have h1 : cmpI es[p].1 es[q].1 = 0 := by rw [Zafc h0]; exact hc
 rcases Yan p q with h | h
 ·have := hs.lt hp hq h; omega
 ·have h2 := hs.lt hq hp (by omega)
  rw [Zacw] at h1; omega
theorem none_alike {es : List En} {t : Int} {p : Nat} (h : PosOf es t p) (hs : Srt es) (hf : foundAt es t p = false) : ∀ e ∈ es,cmpI t e.1 ≠ 0 := by
 intro e he hc
 obtain ⟨q,hq,rfl⟩ := Yag he
 rcases Yan q p with h1 | h1
 ·have := h.lo q hq h1; rw [Zacw] at hc; omega
 ·have := h.gt hs hf hq h1; omega
def CmpF (D : Dp) (H : Hd) (fv : HV) (t : Int) : Prop := ∀ (e : En) (S : HS),∃ S',D H fv [.agg (enRow e),.int .i64 t] S = some (.int .i64 (cmpI e.1 t),S') ∧ Fr S.next S S'
theorem cmpF {k n : Nat} {H : Hd} {t : Int} (hk : 2000 ≤ k) : CmpF (disp k (n + 1)) H (HV.fn (.func 97) [] []) t := by
 intro e S
 have hcell : (S.new (.cells 3 [[.int .i64 e.1,.bool e.2.1,.bool e.2.2]] true)).heap S.next = .cells 3 [[.int .i64 e.1,.bool e.2.1,.bool e.2.2]] true := Zxx _ _
 refine ⟨S.new (.cells 3 [[.int .i64 e.1,.bool e.2.1,.bool e.2.2]] true),?_,Fr.new (Yaa _) _⟩
 have e' : Zabs (disp k n) H k ([] ++ [HV.agg (enRow e),.int .i64 t] ++ []) S = some (.int .i64 (cmpI e.1 t),S.new (.cells 3 [[.int .i64 e.1,.bool e.2.1,.bool e.2.2]] true)) := by
  rw [Zabs]
  simp only [Yay,Ya5,Zaae,enRow,dA3,dB,dI,obs,if_true]
  rw [Y98.f,letv,Zyb (Zxu hcell) rfl rfl,obs,cmp_spec,obs]
  rfl
 rw [Zz8]
 repeat rw [if_neg (by decide)]
 rw [if_pos rfl]
 exact e'
theorem en_rows {S : HS} {s : Sl} {xs : List En} (h : S.rows s 3 = some (xs.map enRow)) {i : Nat} (hi : i < xs.length) : ∃ ad,S.idx s (i : Int) 3 = some ad ∧ S.ldI .i64 (HA.fld ad 0) = some xs[i].1 ∧ S.ldB (HA.fld ad 1) = some xs[i].2.1 ∧ S.ldB (HA.fld ad 2) = some xs[i].2.2 := by
 obtain ⟨ad,h1,h2,h3⟩ := Zab7 h (i := i) (by simpa using hi)
 rw [Yaj] at h3
 exact ⟨ad,h1,Zyb h3 h2 rfl,Zabq h3 h2 rfl,Zabq h3 h2 rfl⟩
theorem search_loop {D : Dp} {H : Hd} {k : Nat} {s : Sl} {t : Int} {fv : HV} {es : List En} (hc : CmpF D H fv t) (hs : Srt es) (hle : es.length ≤ 100000) :
  ∀ (n i j : Nat) (S : HS),j - i < n → i ≤ j → j ≤ es.length → Rd S.next S 3 s (es.map enRow) → (∀ q (hq : q < es.length),q < i → cmpI es[q].1 t < 0) → (∀ q (hq : q < es.length),j ≤ q → ¬ cmpI es[q].1 t < 0) →
  ∃ (p : Nat) (S' : HS),Y44.L0 D H k n s t fv (es.length : Int) (i : Int) (j : Int) S = some (((p : Int),foundAt es t p),S') ∧ PosOf es t p ∧ Fr S.next S S' := by
 intro n
 induction n with
 | zero => intro i j S h; omega
 | succ n ih =>
  intro i j S hf hij hj hrd hlo hhi
  unfold Y44.L0
  by_cases hlt : i < j
  ·rw [if_pos (by omega),Zag4 (by omega)]
   have hm : (i + j) / 2 < es.length := by omega
   obtain ⟨ad,a1,a2,a3,a4⟩ := en_rows hrd.rows hm
   obtain ⟨S1,e1,f1⟩ := hc es[(i + j) / 2] S
   have hrd1 : Rd S1.next S1 3 s (es.map enRow) := (hrd.frame f1 (Yaa _)).mono f1.le
   have e1' : D H fv [HV.agg [HV.int .i64 es[(i + j) / 2].1,HV.bool es[(i + j) / 2].2.1,HV.bool es[(i + j) / 2].2.2],HV.int .i64 t] S = some (.int .i64 (cmpI es[(i + j) / 2].1 t),S1) := e1
   rw [a1,obs,a2,obs,a3,obs,a4,obs,e1',obs]
   simp only [dI,if_true,obs]
   by_cases hc0 : cmpI es[(i + j) / 2].1 t < 0
   ·rw [if_pos hc0,Zx6 (by omega) (by omega),show ((((i + j) / 2 : Nat) : Int) + 1) = (((i + j) / 2 + 1 : Nat) : Int) by simp]
    obtain ⟨p,S2,e2,p2,f2⟩ := ih ((i + j) / 2 + 1) j S1 (by omega) (by omega) hj hrd1 (fun q hq hqi => by
     rcases Yan q ((i + j) / 2) with h | h
     ·exact Zaah (hs.lt hq hm h) hc0
     ·obtain rfl : q = (i + j) / 2 := by omega
      exact hc0) hhi
    exact ⟨p,S2,e2,p2,f1.trans (f2.mono f1.le)⟩
   ·rw [if_neg hc0]
    obtain ⟨p,S2,e2,p2,f2⟩ := ih i ((i + j) / 2) S1 (by omega) (by omega) (by omega) hrd1 hlo (fun q hq hqi => by
     rcases Yan ((i + j) / 2) q with h | h
     ·intro hcc
      exact hc0 (Zaah (hs.lt hm hq h) hcc)
     ·obtain rfl : q = (i + j) / 2 := by omega
      exact hc0)
    exact ⟨p,S2,e2,p2,f1.trans (f2.mono f1.le)⟩
  ·obtain rfl : i = j := by omega
   rw [if_neg (by omega)]
   have hp : PosOf es t i := ⟨hj,hlo,hhi⟩
   by_cases hend : i < es.length
   ·obtain ⟨ad,a1,a2,a3,a4⟩ := en_rows hrd.rows hend
    obtain ⟨S1,e1,f1⟩ := hc es[i] S
    have e1' : D H fv [HV.agg [HV.int .i64 es[i].1,HV.bool es[i].2.1,HV.bool es[i].2.2],HV.int .i64 t] S = some (.int .i64 (cmpI es[i].1 t),S1) := e1
    rw [if_pos (by omega),a1,obs,a2,obs,a3,obs,a4,obs,e1',obs]
    simp only [dI,if_true,obs,Y44.J1]
    refine ⟨i,S1,?_,hp,f1⟩
    simp [foundAt,List.getElem?_eq_getElem hend]
   ·rw [if_neg (by omega),Y44.J1]
    refine ⟨i,S,?_,hp,Fr.refl _ _⟩
    simp [foundAt,List.getElem?_eq_none (show es.length ≤ i by omega)]
theorem found_lt {es : List En} {t : Int} {i : Nat} (h : foundAt es t i = true) : i < es.length := by
 unfold foundAt at h
 cases he : es[i]? with
 | none => rw [he] at h; cases h
 | some e => exact (List.getElem?_eq_some_iff.1 he).1
end MK
theorem MK.found_iff {es : List MK.En} {t : Int} {i : Nat} (h : MK.PosOf es t i) (hs : MK.Srt es) : MK.foundAt es t i = true ↔ t ∈ es.map (·.1) := by
 constructor
 ·intro hf
  have hi := MK.found_lt hf
  simp only [MK.foundAt,List.getElem?_eq_getElem hi,decide_eq_true_eq] at hf
  rw [MK.cmpI_zero] at hf
  exact Ya0.2 ⟨_,Yae hi,hf⟩
 ·intro hm
  obtain ⟨e,he,rfl⟩ := Ya0.1 hm
  cases hf : MK.foundAt es e.1 i with
  | true => rfl
  | false => exact absurd ((MK.cmpI_zero _ _).2 rfl) (MK.none_alike h hs hf e he)
theorem MK.found_at {es : List MK.En} {t : Int} {i : Nat} (hf : MK.foundAt es t i = true) : ∃ hi : i < es.length,(es[i]'hi).1 = t := by
 have hi := MK.found_lt hf
 simp only [MK.foundAt,List.getElem?_eq_getElem hi,decide_eq_true_eq] at hf
 exact ⟨hi,(MK.cmpI_zero _ _).1 hf⟩
structure Rm where
 p : Nat
 s : Sl
 name : List UInt8
 mb : Int
 ms : List MK.En
 q : Nat
 qs : Sl
def Rm.ids (e : Rm) : List Int := e.ms.map (·.1)
def Rm.row (e : Rm) : List HV := [.str e.name,.int .i64 e.mb,e.s.hv,.str [],.int .i64 20,.str [],.int .i64 0,Sl.nil.hv,.ptr (some (HA.cell0 e.q))]
def OwnR (e : Rm) (id : Nat) : Prop := Own e.p e.s id ∨ Own e.q e.qs id
structure RI (e : Rm) (S : HS) : Prop where
 cell : S.heap e.p = .cells 9 [e.row] true
 ov : OV S 3 e.s (e.ms.map MK.enRow)
 ne : ∀ q,e.s.a = some q → q.1 ≠ e.p
 hi : e.p < S.next
 srt : MK.Srt e.ms
 cnt : e.ms.length ≤ 900
 inv : KI.SI e.q e.qs [] S
 dis : ∀ id,Own e.p e.s id → ¬ Own e.q e.qs id
section
variable {k n : Nat} {H : Hd} {e : Rm} {S S' : HS}
theorem RI.lt (h : RI e S) {id : Nat} (ho : OwnR e id) : id < S.next := by
 rcases ho with (rfl | ⟨q,h1,rfl⟩) | ho
 ·exact h.hi
 ·exact h.ov.lt h1
 ·exact h.inv.lt ho
theorem RI.keep (h : RI e S) (hk : ∀ id,OwnR e id → S'.heap id = S.heap id) (hn : S.next ≤ S'.next) : RI e S' :=
 ⟨(hk _ (.inl (.inl rfl))).trans h.cell,h.ov.keep (fun q hq => hk q.1 (.inl (.inr ⟨q,hq,rfl⟩))) hn,h.ne,Yai h.hi hn,h.srt,h.cnt,h.inv.keep (fun id g => hk id (.inr g)) hn,h.dis⟩
theorem RI.fr (h : RI e S) (hf : Fr S.next S S') : RI e S' := h.keep (fun id ho => hf.eq id (h.lt ho)) hf.le
theorem RI.slen (h : RI e S) : (e.s.len : Int) = e.ms.length := by have := h.ov.len; simp at this; omega
theorem RI.ldS (h : RI e S) : S.ldSl (HA.fld (HA.cell0 e.p) 2) = some e.s := Zy4 (Zxu h.cell) rfl rfl
theorem room_new (hk : 2000 ≤ k) (name : List UInt8) (mb : Int) : ∃ e S',Y68.f k name mb S = some (some (HA.cell0 e.p),S') ∧ RI e S' ∧ e.name = name ∧ e.ms = [] ∧ (∀ id,OwnR e id → S.next ≤ id) ∧ Fr S.next S S' := by
 obtain ⟨s',xs',S1,e1,h1,f1,g1,g2,g3⟩ := KI.of_spec (k := k) (sl := Sl.nil) (ls := []) (S := S) hk (by exact ⟨rfl,fun q hq => by cases hq⟩) (by simp)
 have hx : xs' = [] := Yax.1 (by simpa using g3)
 subst hx
 have l1 := f1.le
 have hlt := h1.hi
 refine ⟨⟨S1.next,Sl.nil,name,mb,[],S.next,s'⟩,_,by rw [Y68.f,e1,obs,letv]; rfl,⟨Zxx _ _,.inl ⟨rfl,rfl,rfl⟩,fun q hq => (by cases hq),Yaw _,List.Pairwise.nil,by simp,h1.fr (Fr.new (Yaa _) _),?_⟩,rfl,rfl,?_,f1.trans (Fr.new l1 _)⟩
 ·rintro id (rfl | ⟨q,hq,_⟩) ho
  ·exact absurd (h1.lt ho) (Nat.lt_irrefl _)
  ·cases hq
 ·rintro id ((rfl | ⟨q,hq,_⟩) | ho)
  ·exact l1
  ·cases hq
  ·exact g1 id ho
theorem Zaga (hk : 2000 ≤ k) (h : RI e S) (id : Int) : ∃ (i : Nat) (S' : HS),Y22.f (disp k (n + 1)) H k (some (HA.cell0 e.p)) id S = some (((i : Int),MK.foundAt e.ms id i),S') ∧ MK.PosOf e.ms id i ∧ Fr S.next S S' := by
 have hcnt := h.cnt
 obtain ⟨i,S',e1,h1,h2⟩ := MK.search_loop (k := k) (fv := HV.fn (.func 97) [] []) (MK.cmpF (n := n) (H := H) (t := id) (show 2000 ≤ k by omega)) h.srt (by omega) k 0 e.ms.length S (by omega) (Yak _) (Yaa _) h.ov.rd (fun q _ hq => by omega) (fun q hq hq2 => by omega)
 refine ⟨i,S',?_,h1,h2⟩
 rw [Y22.f,if_neg (by simp),obs,h.ldS,obs,Y44.f,h.slen]
 rw [show ((0 : Nat) : Int) = 0 from rfl] at e1
 rw [e1,obs]
theorem Zacx (h : RI e S) : Y6.f (some (HA.cell0 e.p)) S = some (e.name,S) := by
 rw [Y6.f,if_neg (by simp),obs,Zzs (Zxu h.cell) rfl rfl,obs]
theorem Zag5 (h : RI e S) : Y31.f (some (HA.cell0 e.p)) S = some ((e.ms.length : Int),S) := by
 rw [Y31.f,if_neg (by simp),obs,h.ldS,obs,h.slen]
theorem Zag6 {s' : Sl} (h : S.heap e.p = .cells 9 [e.row] true) : S.sets (HA.fld (HA.cell0 e.p) 2) [s'.hv] = some (S.put e.p (.cells 9 [({ e with s := s' } : Rm).row] true)) := (Zyv h rfl (by simp [Rm.row])).trans rfl
theorem room_add (hk : 2000 ≤ k) (h : RI e S) (id : Int) (op : Bool) (hnew : id ∉ e.ids) (hc : e.ms.length < 900) :
  ∃ e' S',Y52.f (disp k (n + 1)) H k (some (HA.cell0 e.p)) id op S = some ((),S') ∧ RI e' S' ∧ e'.p = e.p ∧ e'.name = e.name ∧ (∃ i,e'.ms = e.ms.take i ++ [(id,op,false)] ++ e.ms.drop i) ∧ Chg (OwnR e) (OwnR e') S S' := by
 obtain ⟨i,S1,e1,hp,f1⟩ := Zaga (n := n) (H := H) hk h id
 have h1 := h.fr f1
 have hf : MK.foundAt e.ms id i = false := by
  cases hf : MK.foundAt e.ms id i with
  | false => rfl
  | true => exact absurd ((MK.found_iff hp h.srt).1 hf) hnew
 obtain ⟨s',S2,a1,a2,a3,a4,a5⟩ := Zag1 (row := [.int .i64 id,.bool op,.bool false]) h1.ov (i := i) (by simpa using hp.le) (by simp; omega)
 have hcell : S2.heap e.p = .cells 9 [e.row] true := by rw [a4 e.p h1.hi h1.ne]; exact h1.cell
 have hset := Zag6 (s' := s') hcell
 generalize hS3 : S2.put e.p (.cells 9 [({ e with s := s' } : Rm).row] true) = S3 at hset
 have n3 : S3.next = S2.next := by rw [← hS3]; rfl
 have hne' : ∀ q,s'.a = some q → q.1 ≠ e.p := fun q hq => by have := a5 q hq; have := h1.hi; omega
 have hcell3 : S3.heap e.p = .cells 9 [({ e with s := s' } : Rm).row] true := by rw [← hS3]; exact Zxv _ _ _
 have eq3 : ∀ x,x < S1.next → ¬ Own e.p e.s x → S3.heap x = S1.heap x := fun x hx hn => by
  rw [← hS3,Zxe _ (fun g => hn (.inl g))]
  exact a4 x hx (fun q hq g => hn (.inr ⟨q,hq,g⟩))
 have inv3 : KI.SI e.q e.qs [] S3 := h1.inv.keep (fun x g => eq3 x (h1.inv.lt g) (fun g' => h.dis x g' g)) (by omega)
 have hld8 : S3.ldP (HA.fld (HA.cell0 e.p) 8) = some (some (HA.cell0 e.q)) := Zacj (Zxu hcell3) rfl rfl
 have fl : Fr S3.next S3 (S3.lit [[.int .i64 id]] 1).2 := Zzd _ (Yaa _)
 have hlr : (S3.lit [[.int .i64 id]] 1).2.rows (S3.lit [[.int .i64 id]] 1).1 1 = some (([id] : List KI.Ky).map KI.row1) := (Vec.lit (n := 0) (z := 1) (S := S3) _ (Yak _)).rows
 obtain ⟨qs',xs',S5,r1,r2,r3,r4,r5⟩ := KI.remove_spec (ls := [id]) hk (inv3.fr fl) hlr (fun q hq => by
  have : q = (S3.next,0) := by simp [HS.lit] at hq; exact hq.symm
  subst this
  exact ⟨Yaw _,fun ho => by have := inv3.lt ho; simp at this⟩) (by simp)
 have hx : xs' = [] := Yax.1 (by simpa using r5)
 subst hx
 have l5 := r3.le
 have l4 := fl.le
 refine ⟨{ e with s := s',ms := e.ms.take i ++ [(id,op,false)] ++ e.ms.drop i,qs := qs' },S5,?_,?_,rfl,rfl,⟨i,rfl⟩,?_⟩
 ·rw [Y52.f,e1,obs,if_neg (by simp),hf,Y52.J0,if_neg (by simp),obs,h1.ldS,obs,letv,Y88.f,a1,obs,obs,hset,obs,obs,hld8,obs,letv,r1,obs]
 ·have hown : ∀ x,Own e.p s' x → x < S3.next ∧ ¬ Own e.q e.qs x := by
   rintro x (rfl | ⟨q,hq,rfl⟩)
   ·exact ⟨by have := h1.hi; omega,h.dis _ (.inl rfl)⟩
   ·exact ⟨by have := a2.lt hq; omega,fun g => by have := h1.inv.lt g; have := a5 q hq; omega⟩
  have eq5 : ∀ x,Own e.p s' x → S5.heap x = S3.heap x := fun x hx => by
   obtain ⟨g1,g2⟩ := hown x hx
   rw [r3.eq x (by omega) g2,fl.eq x g1]
  refine ⟨(eq5 _ (.inl rfl)).trans hcell3,?_,hne',by have := h1.hi; show e.p < S5.next; omega,MK.ins_srt hp h.srt hf _,?_,r2,?_⟩
  ·have hmap : (e.ms.take i ++ [(id,op,false)] ++ e.ms.drop i).map MK.enRow = (e.ms.map MK.enRow).take i ++ [[.int .i64 id,.bool op,.bool false]] ++ (e.ms.map MK.enRow).drop i := by
    simp only [Yau,List.map_take,List.map_drop,List.map_cons,List.map_nil,MK.enRow]
   show OV S5 3 s' ((e.ms.take i ++ [(id,op,false)] ++ e.ms.drop i).map MK.enRow)
   rw [hmap]
   refine a2.keep (fun q hq => ?_) (by omega)
   rw [eq5 q.1 (.inr ⟨q,hq,rfl⟩),← hS3]
   exact Zxe _ (hne' q hq)
  ·simp only [Ya3,Yar,Ya1,List.length_singleton]; omega
  ·intro x hx ho
   obtain ⟨g1,g2⟩ := hown x hx
   rcases r3.own x ho with g | g
   ·exact g2 g
   ·omega
 ·refine ⟨by have := f1.le; omega,fun x hx ho => ?_,fun x ho => ?_⟩
  ·have l1 := f1.le
   rw [r3.eq x (by omega) (fun g => ho (.inr g)),fl.eq x (by omega),eq3 x (by omega) (fun g => ho (.inl g)),f1.eq x hx]
  ·have l1 := f1.le
   rcases ho with (rfl | ⟨q,hq,rfl⟩) | ho
   ·exact .inl (.inl (.inl rfl))
   ·exact .inr (by have := a5 q hq; omega)
   ·rcases r3.own x ho with g | g
    ·exact .inl (.inr g)
    ·exact .inr (by omega)
theorem Zaji (hk : 2000 ≤ k) (h : RI e S) (id : Int) (hin : id ∈ e.ids) :
  ∃ e' S',Y61.f (disp k (n + 1)) H k (some (HA.cell0 e.p)) id S = some (true,S') ∧ RI e' S' ∧ e'.p = e.p ∧ e'.name = e.name ∧ (∃ i,MK.PosOf e.ms id i ∧ MK.foundAt e.ms id i = true ∧ e'.ms = e.ms.eraseIdx i) ∧ Chg (OwnR e) (OwnR e') S S' := by
 obtain ⟨i,S1,e1,hp,f1⟩ := Zaga (n := n) (H := H) hk h id
 have h1 := h.fr f1
 have hf : MK.foundAt e.ms id i = true := (MK.found_iff hp h.srt).2 hin
 have hi := MK.found_lt hf
 have hcnt := h.cnt
 obtain ⟨s',S2,a1,a2,a3,a4,a5⟩ := Zag2 h1.ov (i := i) (by simpa using hi) (by simp; omega)
 have hcell : S2.heap e.p = .cells 9 [e.row] true := by rw [a4 e.p h1.hi h1.ne]; exact h1.cell
 have hset := Zag6 (s' := s') hcell
 generalize hS3 : S2.put e.p (.cells 9 [({ e with s := s' } : Rm).row] true) = S3 at hset
 have n3 : S3.next = S2.next := by rw [← hS3]; rfl
 have hne' : ∀ q,s'.a = some q → q.1 ≠ e.p := fun q hq => by have := a5 q hq; have := h1.hi; omega
 have eq3 : ∀ x,x < S1.next → ¬ Own e.p e.s x → S3.heap x = S1.heap x := fun x hx hn => by
  rw [← hS3,Zxe _ (fun g => hn (.inl g))]
  exact a4 x hx (fun q hq g => hn (.inr ⟨q,hq,g⟩))
 have hi1 : w64 ((i : Int) + 1) = ((i + 1 : Nat) : Int) := by rw [Zx6 (by omega) (by omega)]; simp
 refine ⟨{ e with s := s',ms := e.ms.eraseIdx i },S3,?_,⟨by rw [← hS3]; exact Zxv _ _ _,?_,hne',by have := h1.hi; show e.p < S3.next; omega,MK.erase_srt h.srt i,by show (e.ms.eraseIdx i).length ≤ 900; rw [List.length_eraseIdx,if_pos hi]; omega,h1.inv.keep (fun x g => eq3 x (h1.inv.lt g) (fun g' => h.dis x g' g)) (by omega),?_⟩,rfl,rfl,⟨i,hp,hf,rfl⟩,?_⟩
 ·rw [Y61.f,e1,obs,if_pos hf,obs,h1.ldS,obs]
  simp only
  rw [hi1,Y87.f,a1,obs,obs,hset,obs,Y61.J0,hf]
 ·show OV S3 3 s' ((e.ms.eraseIdx i).map MK.enRow)
  rw [Go.ChangeMaps.map_eraseIdx]
  exact a2.keep (fun q hq => by rw [← hS3]; exact Zxe _ (hne' q hq)) (by omega)
 ·rintro x (rfl | ⟨q,hq,rfl⟩) ho
  ·exact h.dis _ (.inl rfl) ho
  ·have := h1.inv.lt ho; have := a5 q hq; omega
 ·have l1 := f1.le
  refine ⟨by omega,fun x hx ho => by rw [eq3 x (by omega) (fun g => ho (.inl g)),f1.eq x hx],?_⟩
  rintro x ((rfl | ⟨q,hq,rfl⟩) | ho)
  ·exact .inl (.inl (.inl rfl))
  ·exact .inr (by have := a5 q hq; omega)
  ·exact .inl (.inr ho)
end
def ent (e : Rm) : BK.En := (e.name,some (HA.cell0 e.p))
def Rm.key (e : Rm) : List UInt8 := e.name.map low
structure W where
 w : Nat
 bk : Nat
 r : Nat
 m1 : Nat
 m2 : Nat
 mR : Int
 mJ : Int
 mB : Int
def W.row (x : W) : List HV := [.str [],.str [],.str [],.str [],.int .i64 0,.int .i64 0,.int .i64 x.mJ,.int .i64 x.mR,.int .i64 x.mB,.int .i64 0,.int .i64 0,.int .i64 0,.int .i64 0,.int .i64 0,.int .i64 0,.ptr (some (HA.cell0 x.bk)),.ptr (some (HA.cell0 x.r))]
structure T where
 bs : Sl
 n : Nat
 E1 : List MA.En
 E2 : List MB.En
 R : List Rm
 L : List Pr
def OB (x : W) (t : T) (id : Nat) : Prop := id = x.w ∨ Own x.bk t.bs id ∨ OR x.r x.m1 x.m2 t.E1 t.E2 id
def OA (x : W) (t : T) (id : Nat) : Prop := OB x t id ∨ ∃ e ∈ t.R,OwnR e id
structure RsC (x : W) (t : T) (S : HS) : Prop where
 cell : S.heap x.w = .cells 17 [x.row] true
 hi : x.w < S.next
 book : BK.BI x.bk t.bs x.mR (t.R.map ent) S
 rel : RelI x.r x.m1 x.m2 t.n x.mJ t.E1 t.E2 t.L S
 rooms : ∀ e ∈ t.R,RI e S
 dwb : ¬ Own x.bk t.bs x.w
 dwr : ¬ OR x.r x.m1 x.m2 t.E1 t.E2 x.w
 dbr : ∀ id,Own x.bk t.bs id → ¬ OR x.r x.m1 x.m2 t.E1 t.E2 id
 pw : t.R.Pairwise fun a b => ∀ id,OwnR a id → ¬ OwnR b id
 dR : ∀ e ∈ t.R,∀ id,OwnR e id → ¬ OB x t id
structure RsI (x : W) (t : T) (S : HS) : Prop extends RsC x t S where
 link : ∀ a b,(a,b) ∈ t.L ↔ ∃ e ∈ t.R,e.key = b ∧ a ∈ e.ids
 ne : ∀ e ∈ t.R,e.ms ≠ []
 cm : ∀ e ∈ t.R,e.ms.length ≤ t.n
 cR : t.R.length ≤ t.n
 mR0 : 0 ≤ x.mR
 mR1 : x.mR ≤ 1000
 mJ0 : 0 ≤ x.mJ
 mJ1 : x.mJ ≤ 1000
 cntR : (t.R.length : Int) ≤ x.mR
 cntJ : ∀ a xs,KS.Srt xs → (∀ v,v ∈ xs ↔ (a,v) ∈ t.L) → (xs.length : Int) ≤ x.mJ
section
variable {x : W} {t : T} {S S' : HS} {n : Nat} {H : Hd}
theorem RsC.ltO (h : RsC x t S) {id : Nat} (ho : OA x t id) : id < S.next := by
 rcases ho with (rfl | g | g) | ⟨e,he,g⟩
 ·exact h.hi
 ·exact h.book.lt g
 ·exact h.rel.ltO g
 ·exact (h.rooms e he).lt g
theorem RsC.keep (h : RsC x t S) (hk : ∀ id,OA x t id → S'.heap id = S.heap id) (hn : S.next ≤ S'.next) : RsC x t S' :=
 { h with
  cell := (hk _ (.inl (.inl rfl))).trans h.cell
  hi := Yai h.hi hn
  book := h.book.keep (fun id g => hk id (.inl (.inr (.inl g)))) hn
  rel := h.rel.keep (fun id g => hk id (.inl (.inr (.inr g)))) hn
  rooms := fun e he => (h.rooms e he).keep (fun id g => hk id (.inr ⟨e,he,g⟩)) hn }
theorem RsI.keep (h : RsI x t S) (hk : ∀ id,OA x t id → S'.heap id = S.heap id) (hn : S.next ≤ S'.next) : RsI x t S' := { h with toRsC := h.toRsC.keep hk hn }
theorem RsI.fr (h : RsI x t S) (hf : Fr S.next S S') : RsI x t S' := h.keep (fun id ho => hf.eq id (h.ltO ho)) hf.le
theorem RsC.fr (h : RsC x t S) (hf : Fr S.next S S') : RsC x t S' := h.keep (fun id ho => hf.eq id (h.ltO ho)) hf.le
theorem RsC.ldb (h : RsC x t S) : S.ldP (HA.fld (HA.cell0 x.w) 15) = some (some (HA.cell0 x.bk)) := Zacj (Zxu h.cell) rfl rfl
theorem RsC.ldr (h : RsC x t S) : S.ldP (HA.fld (HA.cell0 x.w) 16) = some (some (HA.cell0 x.r)) := Zacj (Zxu h.cell) rfl rfl
theorem RsC.ldmR (h : RsC x t S) : S.ldI .i64 (HA.fld (HA.fld (HA.cell0 x.w) 0) 7) = some x.mR := Zyb (j := 7) (ad := HA.cell0 x.w) (Zxu h.cell) rfl rfl
theorem RsC.ldmB (h : RsC x t S) : S.ldI .i64 (HA.fld (HA.fld (HA.cell0 x.w) 0) 8) = some x.mB := Zyb (j := 8) (ad := HA.cell0 x.w) (Zxu h.cell) rfl rfl
theorem RsI.key_uniq (h : RsI x t S) {a b : Rm} (ha : a ∈ t.R) (hb : b ∈ t.R) (hk : a.key = b.key) : a = b := by
 have hs : (t.R.map ent).Pairwise fun a b => cmpL a.1 b.1 < 0 := h.book.srt
 rw [List.pairwise_map] at hs
 obtain ⟨i,hi,rfl⟩ := Yag ha
 obtain ⟨j,hj,rfl⟩ := Yag hb
 have h0 : cmpL t.R[i].name t.R[j].name = 0 := (Zzr _ _).2 hk
 have h0' : cmpL t.R[j].name t.R[i].name = 0 := (Zzr _ _).2 hk.symm
 rcases Nat.lt_trichotomy i j with g | g | g
 ·have : cmpL t.R[i].name t.R[j].name < 0 := Yap.1 hs i j hi hj g
  omega
 ·subst g; rfl
 ·have : cmpL t.R[j].name t.R[i].name < 0 := Yap.1 hs j i hj hi g
  omega
inductive Fnd (R : List Rm) (name : List UInt8) : Option Rm → Prop
 | some {e} (he : e ∈ R) (hk : e.key = name.map low) : Fnd R name (some e)
 | none (h : ∀ e ∈ R,e.key ≠ name.map low) : Fnd R name none
def Zagb (o : Option Rm) : Option HA := o.map fun e => HA.cell0 e.p
theorem Zacy {R : List Rm} {name : List UInt8} {i : Nat} (hp : BK.PosOf (R.map ent) name i) (hs : BK.Srt (R.map ent)) :
  ∃ o,Fnd R name o ∧ BK.foundAt (R.map ent) name i = o.isSome ∧ (BK.foundAt (R.map ent) name i = true → ∃ hi : i < R.length,o = some (R[i]'hi)) := by
 cases hf : BK.foundAt (R.map ent) name i with
 | true =>
  have hi : i < R.length := by simpa using BK.found_lt hf
  have h0 : cmpL (R[i]'hi).name name = 0 := by
   simp only [BK.foundAt,List.getElem?_eq_getElem (show i < (R.map ent).length by simpa using hi),decide_eq_true_eq] at hf
   simpa [ent] using hf
  exact ⟨some R[i],.some (Yae hi) ((Zzr _ _).1 h0),rfl,fun _ => ⟨hi,rfl⟩⟩
 | false =>
  refine ⟨none,.none fun e he hk => ?_,rfl,fun g => by cases g⟩
  exact BK.none_alike hp hs hf (ent e) (Ya0.2 ⟨e,he,rfl⟩) ((Zzr _ _).2 hk.symm)
theorem Fnd.uniq (h : RsI x t S) {name : List UInt8} {o o' : Option Rm} (h1 : Fnd t.R name o) (h2 : Fnd t.R name o') : o = o' := by
 cases h1 with
 | some he hk =>
  cases h2 with
  | some he' hk' => rw [h.key_uniq he he' (hk.trans hk'.symm)]
  | none g => exact absurd hk (g _ he)
 | none g =>
  cases h2 with
  | some he' hk' => exact absurd hk' (g _ he')
  | none _ => rfl
theorem Zaeb (h : RsI x t S) (name : List UInt8) : ∃ o S',Fnd t.R name o ∧ Y15.f (disp 2000 (n + 1)) H 2000 (some (HA.cell0 x.bk)) name S = some ((Zagb o,o.isSome),S') ∧ Fr S.next S S' := by
 obtain ⟨i,S',hp,e1,f1⟩ := BK.get_spec (n := n) (H := H) (k := 2000) (Yaa _) h.book name
 obtain ⟨o,ho,g1,g2⟩ := Zacy hp h.book.srt
 refine ⟨o,S',ho,?_,f1⟩
 rw [e1,g1]
 cases hf : o with
 | none => rfl
 | some e =>
  have : BK.foundAt (t.R.map ent) name i = true := by rw [g1,hf]; rfl
  obtain ⟨hi,g3⟩ := g2 this
  rw [hf] at g3
  cases g3
  simp [hi,ent,Zagb]
theorem Zafg (h : RsI x t S) (name : List UInt8) : ∃ o S',Fnd t.R name o ∧ Y33.f (disp 2000 (n + 1)) H 2000 (some (HA.cell0 x.w)) name S = some ((Zagb o,o.isSome),S') ∧ Fr S.next S S' := by
 obtain ⟨o,S',ho,e1,f1⟩ := Zaeb (n := n) (H := H) h name
 refine ⟨o,S',ho,?_,f1⟩
 rw [Y33.f,if_neg (by simp),obs,h.ldb,obs,e1,obs]
theorem Zajj (h : RsI x t S) : Y41.f (some (HA.cell0 x.w)) S = some ((t.R.length : Int),S) := by
 rw [Y41.f,if_neg (by simp),obs,h.ldb,obs,BK.len_spec h.book,obs]
 simp
end
section
variable {x : W} {t : T} {S S' : HS}
theorem RsC.rel_step {n' : Nat} {E1' : List MA.En} {E2' : List MB.En} {L' : List Pr} (h : RsC x t S) (hr : RelI x.r x.m1 x.m2 n' x.mJ E1' E2' L' S') (ch : Chg (OR x.r x.m1 x.m2 t.E1 t.E2) (OR x.r x.m1 x.m2 E1' E2') S S') :
  RsC x { t with n := n',E1 := E1',E2 := E2',L := L' } S' ∧ Chg (OA x t) (OA x { t with n := n',E1 := E1',E2 := E2',L := L' }) S S' := by
 have hb : ∀ id,Own x.bk t.bs id → ¬ OR x.r x.m1 x.m2 E1' E2' id := fun id g g' => by
  rcases ch.own id g' with k | k
  ·exact h.dbr id g k
  ·have := h.book.lt g; omega
 have hw : ¬ OR x.r x.m1 x.m2 E1' E2' x.w := fun g' => by
  rcases ch.own _ g' with k | k
  ·exact h.dwr k
  ·have := h.hi; omega
 have hR : ∀ e ∈ t.R,∀ id,OwnR e id → ¬ OR x.r x.m1 x.m2 t.E1 t.E2 id := fun e he id g g' => h.dR e he id g (.inr (.inr g'))
 refine ⟨⟨(ch.eq _ h.hi h.dwr).trans h.cell,Yai h.hi ch.le,h.book.keep (fun id g => ch.eq id (h.book.lt g) (h.dbr id g)) ch.le,hr,fun e he => (h.rooms e he).keep (fun id g => ch.eq id ((h.rooms e he).lt g) (hR e he id g)) ch.le,h.dwb,hw,hb,h.pw,?_⟩,⟨ch.le,fun id g1 g2 => ch.eq id g1 (fun g => g2 (.inl (.inr (.inr g)))),?_⟩⟩
 ·rintro e he id g (g' | g' | g')
  ·exact h.dR e he id g (.inl g')
  ·exact h.dR e he id g (.inr (.inl g'))
  ·rcases ch.own id g' with k | k
   ·exact hR e he id g k
   ·have := (h.rooms e he).lt g; omega
 ·rintro id ((g | g | g) | g)
  ·exact .inl (.inl (.inl g))
  ·exact .inl (.inl (.inr (.inl g)))
  ·exact (ch.own id g).imp (fun g => .inl (.inr (.inr g))) (fun g => g)
  ·exact .inl (.inr g)
theorem RsC.room_step {A B : List Rm} {e e' : Rm} (h : RsC x t S) (hR : t.R = A ++ e :: B) (hr : RI e' S') (hp : e'.p = e.p) (hn : e'.name = e.name) (ch : Chg (OwnR e) (OwnR e') S S') :
  RsC x { t with R := A ++ e' :: B } S' ∧ Chg (OA x t) (OA x { t with R := A ++ e' :: B }) S S' := by
 have he : e ∈ t.R := by rw [hR]; simp
 have hB : ∀ id,OB x t id → id < S.next ∧ ¬ OwnR e id := fun id g => ⟨h.ltO (.inl g),fun g' => h.dR e he id g' g⟩
 have hkB : ∀ id,OB x t id → S'.heap id = S.heap id := fun id g => ch.eq id (hB id g).1 (hB id g).2
 have hpw := h.pw
 rw [hR,Yad,Yah] at hpw
 obtain ⟨p1,⟨p2,p3⟩,p4⟩ := hpw
 have hoth : ∀ y,y ∈ A ∨ y ∈ B → ∀ id,OwnR y id → ¬ OwnR e id := fun y hy id g g' => by
  rcases hy with hy | hy
  ·exact p4 y hy e (by simp) id g g'
  ·exact p2 y hy id g' g
 have hmem : ∀ y,y ∈ A ∨ y ∈ B → y ∈ t.R := fun y hy => by rw [hR]; simp; rcases hy with hy | hy <;> simp [hy]
 have hnew : ∀ y,y ∈ A ∨ y ∈ B → ∀ id,OwnR y id → ¬ OwnR e' id := fun y hy id g g' => by
  rcases ch.own id g' with k | k
  ·exact hoth y hy id g k
  ·have := (h.rooms y (hmem y hy)).lt g; omega
 refine ⟨⟨(hkB _ (.inl rfl)).trans h.cell,Yai h.hi ch.le,?_,h.rel.keep (fun id g => hkB id (.inr (.inr g))) ch.le,?_,h.dwb,h.dwr,h.dbr,?_,?_⟩,⟨ch.le,fun id g1 g2 => ch.eq id g1 (fun g => g2 (.inr ⟨e,he,g⟩)),?_⟩⟩
 ·have : (A ++ e' :: B).map ent = t.R.map ent := by rw [hR]; simp [ent,hp,hn]
  show BK.BI x.bk t.bs x.mR ((A ++ e' :: B).map ent) S'
  rw [this]
  exact h.book.keep (fun id g => hkB id (.inr (.inl g))) ch.le
 ·intro y hy
  have hy : y ∈ A ++ e' :: B := hy
  simp only [Yab,Yac] at hy
  have key : (y ∈ A ∨ y ∈ B) ∨ y = e' := by rcases hy with g | g | g <;> simp [g]
  rcases key with g | rfl
  ·exact (h.rooms y (hmem y g)).keep (fun id k => ch.eq id ((h.rooms y (hmem y g)).lt k) (hoth y g id k)) ch.le
  ·exact hr
 ·show (A ++ e' :: B).Pairwise _
  rw [Yad,Yah]
  refine ⟨p1,⟨fun y hy id g g' => hnew y (.inr hy) id g' g,p3⟩,fun y hy z hz => ?_⟩
  rcases Yac.1 hz with rfl | hz
  ·exact hnew y (.inl hy)
  ·exact p4 y hy z (by simp [hz])
 ·intro y hy id g g'
  have hy : y ∈ A ++ e' :: B := hy
  simp only [Yab,Yac] at hy
  have key : (y ∈ A ∨ y ∈ B) ∨ y = e' := by rcases hy with g | g | g <;> simp [g]
  rcases key with k | rfl
  ·exact h.dR y (hmem y k) id g g'
  ·rcases ch.own id g with k | k
   ·exact (hB id g').2 k
   ·have := (hB id g').1; omega
 ·rintro id (g | ⟨y,hy,g⟩)
  ·exact .inl (.inl g)
  ·have hy : y ∈ A ++ e' :: B := hy
   simp only [Yab,Yac] at hy
   have key : (y ∈ A ∨ y ∈ B) ∨ y = e' := by rcases hy with g | g | g <;> simp [g]
   rcases key with k | rfl
   ·exact .inl (.inr ⟨y,hmem y k,g⟩)
   ·exact (ch.own id g).imp (fun g => .inr ⟨e,he,g⟩) (fun g => g)
theorem RsC.book_step {bs' : Sl} {R' : List Rm} (h : RsC x t S) (hb : BK.BI x.bk bs' x.mR (R'.map ent) S') (on : Only x.bk t.bs bs' S S') (hr : ∀ e ∈ R',RI e S) (hpw : R'.Pairwise fun a b => ∀ id,OwnR a id → ¬ OwnR b id) (hd : ∀ e ∈ R',∀ id,OwnR e id → ¬ OB x t id) :
  RsC x { t with bs := bs',R := R' } S' ∧ S.next ≤ S'.next ∧ (∀ id,id < S.next → ¬ OA x t id → S'.heap id = S.heap id) := by
 have hk : ∀ id,id < S.next → ¬ Own x.bk t.bs id → S'.heap id = S.heap id := on.eq
 have hw : ¬ Own x.bk bs' x.w := fun g => by
  rcases on.own _ g with k | k
  ·exact h.dwb k
  ·have := h.hi; omega
 refine ⟨⟨(hk _ h.hi h.dwb).trans h.cell,Yai h.hi on.le,hb,h.rel.keep (fun id g => hk id (h.rel.ltO g) (fun g' => h.dbr id g' g)) on.le,fun e he => (hr e he).keep (fun id g => hk id ((hr e he).lt g) (fun g' => hd e he id g (.inr (.inl g')))) on.le,hw,h.dwr,fun id g g' => ?_,hpw,?_⟩,on.le,fun id g1 g2 => hk id g1 (fun g => g2 (.inl (.inr (.inl g))))⟩
 ·rcases on.own id g with k | k
  ·exact h.dbr id k g'
  ·have := h.rel.ltO g'; omega
 ·rintro e he id g (g' | g' | g')
  ·exact hd e he id g (.inl g')
  ·rcases on.own id g' with k | k
   ·exact hd e he id g (.inr (.inl k))
   ·have := (hr e he).lt g; omega
  ·exact hd e he id g (.inr (.inr g'))
end
theorem Zafb {α : Type} [DecidableEq α] : ∀ (l m : List α),l.Nodup → (∀ x ∈ l,x ∈ m) → l.length ≤ m.length := by
 intro l
 induction l with
 | nil => intro m _ _; simp
 | cons x l ih =>
  intro m hn hs
  have hn' := List.nodup_cons.1 hn
  have h1 := ih (m.erase x) hn'.2 fun y hy => (List.mem_erase_of_ne (by rintro rfl; exact hn'.1 hy)).2 (hs y (by simp [hy]))
  have hx := hs x (by simp)
  rw [List.length_erase_of_mem hx] at h1
  have := List.length_pos_of_mem hx
  rw [List.length_cons]; omega
abbrev Ac := Int × Int × List UInt8
def Zadh (a : Ac) : List HV := [.int .i64 a.1,.int .i64 a.2.1,.str a.2.2]
theorem Zadi {xs : List KS.Ky} (h : KS.Srt xs) : xs.Nodup := h.imp fun {a b} h e => by subst e; rw [KS.klt_irrefl] at h; cases h
theorem new_rel {most : Int} (h0 : 0 ≤ most) (h1 : most ≤ 100000) (S : HS) : ∃ S',Y57.f most S = some ((some (HA.cell0 (S.next + 2)),0),S') ∧ RelI (S.next + 2) S.next (S.next + 1) 0 most [] [] [] S' ∧ Fr S.next S S' ∧ S'.next = S.next + 3 ∧ (∀ id,OR (S.next + 2) S.next (S.next + 1) [] [] id → S.next ≤ id) := by
 rw [Y57.f,if_neg (by omega),Y57.J0,if_neg (by rw [decide_eq_false (by omega)]; simp),letv,letv,letv]
 have e1 : ((S.new (.map [])).new (.map [])).heap S.next = .map [] := by rw [Zyy _ (by rw [Zx2]; omega)]; exact Zxx _ _
 have e2 : ((S.new (.map [])).new (.map [])).heap (S.next + 1) = .map [] := Zxx (S.new _) _
 have n2 : ((S.new (.map [])).new (.map [])).next = S.next + 2 := rfl
 have f2 : Fr S.next S ((S.new (.map [])).new (.map [])) := (Fr.new (Yaa _) _).trans (Fr.new (by rw [Zx2]; omega) _)
 rw [show (S.new (.map [])).next = S.next + 1 from rfl,n2]
 generalize (S.new (.map [])).new (.map []) = T at e1 e2 n2 f2 ⊢
 have f3 : Fr T.next T (T.new (.cells 4 [[.int .i64 most,.int .i64 0,.map (some S.next),.map (some (S.next + 1))]] true)) := Fr.new (Yaa _) _
 refine ⟨_,rfl,⟨by rw [← n2]; exact Zxx _ _,⟨(f3.eq _ (by omega)).trans e1,List.Pairwise.nil,fun e h => (by cases h),List.Pairwise.nil,fun e h => (by cases h),by rw [Zx2]; omega⟩,⟨(f3.eq _ (by omega)).trans e2,List.Pairwise.nil,fun e h => (by cases h),List.Pairwise.nil,fun e h => (by cases h),by rw [Zx2]; omega⟩,fun id g1 g2 => ?_,fun g => ?_,fun g => ?_,by rw [Zx2]; omega,fun a b => ⟨fun ⟨e,h,_⟩ => (by cases h),fun h => (by cases h)⟩,fun a b => ⟨fun ⟨e,h,_⟩ => (by cases h),fun h => (by cases h)⟩,fun e h => (by cases h),fun e h => (by cases h),fun e h => (by cases h),fun e h => (by cases h),List.nodup_nil,Yaa _,by omega⟩,f2.trans (f3.mono (by omega)),by rw [Zx2]; omega,fun id g => ?_⟩
 ·rcases g1 with g1 | ⟨e,h,_⟩
  ·rcases g2 with g2 | ⟨e,h,_⟩
   ·omega
   ·cases h
  ·cases h
 ·rcases g with g | ⟨e,h,_⟩
  ·omega
  ·cases h
 ·rcases g with g | ⟨e,h,_⟩
  ·omega
  ·cases h
 ·rcases g with g | (g | ⟨e,h,_⟩) | (g | ⟨e,h,_⟩)
  ·omega
  ·omega
  ·cases h
  ·omega
  ·cases h
theorem link_add {A B : List Rm} {e e' : Rm} {L : List Pr} {id : Int} (h : ∀ a b,(a,b) ∈ L ↔ ∃ y ∈ A ++ e :: B,y.key = b ∧ a ∈ y.ids) (hk : e'.key = e.key) (hi : ∀ a,a ∈ e'.ids ↔ a ∈ e.ids ∨ a = id) :
  ∀ a b,(a,b) ∈ L ++ [(id,e.key)] ↔ ∃ y ∈ A ++ e' :: B,y.key = b ∧ a ∈ y.ids := by
 intro a b
 rw [Yab,h]
 constructor
 ·rintro (⟨y,hy,h1,h2⟩ | g)
  ·simp only [Yab,Yac] at hy
   rcases hy with g | rfl | g
   ·exact ⟨y,by simp [g],h1,h2⟩
   ·exact ⟨e',by simp,hk.trans h1,(hi a).2 (.inl h2)⟩
   ·exact ⟨y,by simp [g],h1,h2⟩
  ·simp only [Yaq,Prod.mk.injEq] at g
   exact ⟨e',by simp,hk.trans g.2.symm,(hi a).2 (.inr g.1)⟩
 ·rintro ⟨y,hy,h1,h2⟩
  simp only [Yab,Yac] at hy
  rcases hy with g | rfl | g
  ·exact .inl ⟨y,by simp [g],h1,h2⟩
  ·rcases (hi a).1 h2 with g | rfl
   ·exact .inl ⟨e,by simp,hk.symm.trans h1,g⟩
   ·exact .inr (by simp [← h1,hk])
  ·exact .inl ⟨y,by simp [g],h1,h2⟩
theorem cnt_add {L : List Pr} {mJ : Int} {id : Int} {b : List UInt8} {xs : List KS.Ky} (h : ∀ a xs,KS.Srt xs → (∀ v,v ∈ xs ↔ (a,v) ∈ L) → (xs.length : Int) ≤ mJ) (hm : ∀ v,v ∈ xs ↔ (id,v) ∈ L) (hlt : (xs.length : Int) < mJ) :
  ∀ a ys,KS.Srt ys → (∀ v,v ∈ ys ↔ (a,v) ∈ L ++ [(id,b)]) → (ys.length : Int) ≤ mJ := by
 intro a ys hs hy
 by_cases ha : a = id
 ·subst ha
  have := Zafb ys (b :: xs) (Zadi hs) (fun v hv => by
   have := (hy v).1 hv
   simp only [Yab,Yaq,Prod.mk.injEq,true_and] at this
   rcases this with g | g
   ·exact Ya9 _ ((hm v).2 g)
   ·rw [g]; simp)
  simp at this; omega
 ·refine h a ys hs fun v => ?_
  rw [hy]
  simp [ha]
section
variable {x : W} {t : T} {S : HS} {n : Nat} {H : Hd}
theorem RsI.mono {n' : Nat} {E1' : List MA.En} {E2' : List MB.En} {S' : HS} (h : RsI x t S) (hc : RsC x { t with n := n',E1 := E1',E2 := E2' } S') (hn : t.n ≤ n') : RsI x { t with n := n',E1 := E1',E2 := E2' } S' :=
 { hc with link := h.link,ne := h.ne,cm := fun e he => Ya2 (h.cm e he) hn,cR := Ya2 h.cR hn,mR0 := h.mR0,mR1 := h.mR1,mJ0 := h.mJ0,mJ1 := h.mJ1,cntR := h.cntR,cntJ := h.cntJ }
theorem Zahz {e e' : Rm} {id : Int} {op : Bool} (h : ∃ i,e'.ms = e.ms.take i ++ [(id,op,false)] ++ e.ms.drop i) : (∀ a,a ∈ e'.ids ↔ a ∈ e.ids ∨ a = id) ∧ e'.ms.length = e.ms.length + 1 := by
 obtain ⟨i,h⟩ := h
 constructor
 ·intro a
  unfold Rm.ids
  rw [h]
  have : e.ms.map (·.1) = (e.ms.take i).map (·.1) ++ (e.ms.drop i).map (·.1) := by rw [← Yau,Yas]
  rw [this]
  simp only [Yau,Yab,List.map_cons,List.map_nil,Yaq]
  constructor
  ·rintro ((g | g) | g)
   ·exact .inl (.inl g)
   ·exact .inr g
   ·exact .inl (.inr g)
  ·rintro ((g | g) | g)
   ·exact .inl (.inl g)
   ·exact .inr g
   ·exact .inl (.inr g)
 ·rw [h]
  have := congrArg List.length (Yas i e.ms)
  simp only [Ya3,List.length_singleton] at this ⊢
  omega
theorem come {A B : List Rm} {e : Rm} {L0 : List Pr} {id : Int} {op : Bool} {xs : List KS.Ky} (hC : RsC x t S) (hR : t.R = A ++ e :: B) (hL : t.L = L0 ++ [(id,e.key)])
  (link0 : ∀ a b,(a,b) ∈ L0 ↔ ∃ y ∈ A ++ e :: B,y.key = b ∧ a ∈ y.ids) (hnot : id ∉ e.ids)
  (ne0 : ∀ y ∈ A ++ B,y.ms ≠ []) (cm0 : ∀ y ∈ t.R,y.ms.length + 1 ≤ t.n) (cR0 : t.R.length ≤ t.n) (hn : t.n ≤ 200)
  (mR0 : 0 ≤ x.mR) (mR1 : x.mR ≤ 1000) (mJ0 : 0 ≤ x.mJ) (mJ1 : x.mJ ≤ 1000) (cntR : (t.R.length : Int) ≤ x.mR)
  (cnt0 : ∀ a xs,KS.Srt xs → (∀ v,v ∈ xs ↔ (a,v) ∈ L0) → (xs.length : Int) ≤ x.mJ) (hxs : ∀ v,v ∈ xs ↔ (id,v) ∈ L0) (hlt : (xs.length : Int) < x.mJ) :
  ∃ e' S',Y52.f (disp 2000 (n + 1)) H 2000 (some (HA.cell0 e.p)) id op S = some ((),S') ∧ RsI x { t with R := A ++ e' :: B } S' ∧ e'.p = e.p ∧ e'.name = e.name ∧ (∃ i,e'.ms = e.ms.take i ++ [(id,op,false)] ++ e.ms.drop i) ∧ Chg (OA x t) (OA x { t with R := A ++ e' :: B }) S S' := by
 have he : e ∈ t.R := by rw [hR]; simp
 have hcm := cm0 e he
 obtain ⟨e',S',e1,h1,h2,h3,h4,h5⟩ := room_add (n := n) (H := H) (k := 2000) (Yaa _) (hC.rooms e he) id op hnot (by omega)
 obtain ⟨c1,c2⟩ := hC.room_step hR h1 h2 h3 h5
 obtain ⟨i1,i2⟩ := Zahz h4
 have hk : e'.key = e.key := by unfold Rm.key; rw [h3]
 have hlen : (A ++ e' :: B).length = t.R.length := by rw [hR]; simp
 refine ⟨e',S',e1,{ c1 with link := ?_,ne := ?_,cm := ?_,cR := ?_,mR0 := mR0,mR1 := mR1,mJ0 := mJ0,mJ1 := mJ1,cntR := ?_,cntJ := ?_ },h2,h3,h4,c2⟩
 ·show ∀ a b,(a,b) ∈ t.L ↔ _
  rw [hL]
  exact link_add link0 hk i1
 ·intro y hy
  have hy : y ∈ A ++ e' :: B := hy
  simp only [Yab,Yac] at hy
  rcases hy with g | rfl | g
  ·exact ne0 y (by simp [g])
  ·intro g; rw [g] at i2; simp at i2
  ·exact ne0 y (by simp [g])
 ·intro y hy
  have hy : y ∈ A ++ e' :: B := hy
  simp only [Yab,Yac] at hy
  rcases hy with g | rfl | g
  ·have := cm0 y (by rw [hR]; simp [g]); show y.ms.length ≤ t.n; omega
  ·show y.ms.length ≤ t.n; omega
  ·have := cm0 y (by rw [hR]; simp [g]); show y.ms.length ≤ t.n; omega
 ·show (A ++ e' :: B).length ≤ t.n
  omega
 ·show ((A ++ e' :: B).length : Int) ≤ x.mR
  omega
 ·show ∀ a xs,KS.Srt xs → (∀ v,v ∈ xs ↔ (a,v) ∈ t.L) → _
  rw [hL]
  exact cnt_add cnt0 hxs hlt
end
section
variable {x : W} {t : T} {S : HS} {n : Nat} {H : Hd}
inductive JRes (x : W) (t : T) (id : Int) (name : List UInt8) : Option HA → Int → List Rm → List Pr → Prop
 | stay {e} (he : e ∈ t.R) (hk : e.key = name.map low) (hin : id ∈ e.ids) : JRes x t id name (some (HA.cell0 e.p)) 0 t.R t.L
 | full (hnot : (id,name.map low) ∉ t.L) (hf : (∀ xs,KS.Srt xs → (∀ v,v ∈ xs ↔ (id,v) ∈ t.L) → x.mJ ≤ (xs.length : Int)) ∨ (∀ e ∈ t.R,e.key ≠ name.map low) ∧ x.mR ≤ (t.R.length : Int)) : JRes x t id name none 405 t.R t.L
 | come {A B e e'} (hR : t.R = A ++ e :: B) (hk : e.key = name.map low) (hnot : id ∉ e.ids) (hp : e'.p = e.p) (hn : e'.name = e.name) (hms : ∃ i,e'.ms = e.ms.take i ++ [(id,false,false)] ++ e.ms.drop i)
   (hc : ∀ xs,KS.Srt xs → (∀ v,v ∈ xs ↔ (id,v) ∈ t.L) → (xs.length : Int) < x.mJ) : JRes x t id name (some (HA.cell0 e'.p)) 0 (A ++ e' :: B) (t.L ++ [(id,name.map low)])
 | new {i e'} (hno : ∀ e ∈ t.R,e.key ≠ name.map low) (hn : e'.name = name) (hms : e'.ms = [(id,true,false)]) (hl : (t.R.length : Int) < x.mR)
   (hc : ∀ xs,KS.Srt xs → (∀ v,v ∈ xs ↔ (id,v) ∈ t.L) → (xs.length : Int) < x.mJ) : JRes x t id name (some (HA.cell0 e'.p)) 0 (t.R.take i ++ e' :: t.R.drop i) (t.L ++ [(id,name.map low)])
def Joined (x : W) (t : T) (S : HS) (id : Int) (name : List UInt8) (r : Option (((Option HA) × Int) × HS)) : Prop :=
 ∃ q c t' S',r = some ((q,c),S') ∧ RsI x t' S' ∧ t'.n = t.n + 1 ∧ Chg (OA x t) (OA x t') S S' ∧ JRes x t id name q c t'.R t'.L
theorem Joined.pre {S1 : HS} {id : Int} {name : List UInt8} {r : Option (((Option HA) × Int) × HS)} (f : Fr S.next S S1) (h : Joined x t S1 id name r) : Joined x t S id name r := by
 obtain ⟨q,c,t',S',e,h1,h2,h3,h4⟩ := h
 exact ⟨q,c,t',S',e,h1,h2,(Chg.of_fr f).trans h3,h4⟩
theorem Zacv (h : RsI x t S) {e : Rm} (he : e ∈ t.R) (id : Int) : (id,e.key) ∈ t.L ↔ id ∈ e.ids := by
 rw [h.link]
 constructor
 ·rintro ⟨y,hy,h1,h2⟩
  rw [← h.key_uniq hy he h1]; exact h2
 ·intro g; exact ⟨e,he,rfl,g⟩
theorem Zah0 (h : RsI x t S) (hn : t.n + 1 ≤ 200) {e : Rm} (he : e ∈ t.R) (id : Int) (name : List UInt8) (hnot : id ∉ e.ids) (hkn : e.key = name.map low) :
  Joined x t S id name (Y1.J1 (disp 2000 (n + 1)) H 2000 (some (HA.cell0 x.w)) id name (some (HA.cell0 e.p)) true e.key S) := by
 obtain ⟨xs,k1,k2,k3,k4⟩ := h.rel.at1 id
 have hnL : (id,e.key) ∉ t.L := fun g => hnot ((Zacv h he id).1 g)
 obtain ⟨E1',E2',S2,e1,g1,g2⟩ := Zajh (k := 2000) (Yaa _) h.rel (by omega) id e.key k1 k2
 rw [if_neg hnL] at e1 g1
 obtain ⟨c1,c2⟩ := h.toRsC.rel_step g1 g2
 rw [Y1.J1,obs,h.ldr,obs,e1,obs]
 by_cases hf : x.mJ ≤ (xs.length : Int)
 ·rw [if_pos hf] at c1 c2 ⊢
  rw [if_pos (by rfl)]
  exact ⟨none,405,_,S2,rfl,h.mono c1 (Nat.le_succ _),rfl,c2,.full (hkn ▸ hnL) (.inl (fun ys k3 k4 => by rw [KS.srt_ext k3 k1 fun v => by rw [k4,k2]]; exact hf))⟩
 ·rw [if_neg hf] at c1 c2 ⊢
  rw [if_neg (by simp),if_neg (by simp),Y1.J2]
  obtain ⟨A,B,hR⟩ := Ybb he
  have hne := h.ne
  obtain ⟨e',S',e3,r1,r2,r3,r4,r5⟩ := come (n := n) (H := H) (t := { t with n := t.n + 1,E1 := E1',E2 := E2',L := t.L ++ [(id,e.key)] }) (A := A) (B := B) (e := e) (L0 := t.L) (id := id) (op := !true) (xs := xs) c1 hR rfl (by rw [← hR]; exact h.link) hnot (fun y hy => hne y (by rw [hR]; simp only [Yab,Yac] at hy ⊢; rcases hy with g | g <;> simp [g])) (fun y hy => Nat.succ_le_succ (h.cm y hy)) (Nat.le_succ_of_le h.cR) hn h.mR0 h.mR1 h.mJ0 h.mJ1 h.cntR h.cntJ k2 (by omega)
  rw [e3,obs]
  refine ⟨_,0,_,S',rfl,r1,rfl,c2.trans r5,?_⟩
  have := JRes.come (x := x) (t := t) (id := id) (name := name) (e' := e') hR hkn hnot r2 r3 r4 (fun ys k3 k4 => by rw [KS.srt_ext k3 k1 fun v => by rw [k4,k2]]; omega)
  rw [← hkn,r2] at this
  exact this
theorem join_new (h : RsI x t S) (hn : t.n + 1 ≤ 200) (id : Int) (name : List UInt8) (hl : name.length ≤ 1000) (hno : ∀ e ∈ t.R,e.key ≠ name.map low) :
  Joined x t S id name (Y1.J0 (disp 2000 (n + 1)) H 2000 (some (HA.cell0 x.w)) id name none false (name.map low) false S) := by
 obtain ⟨e0,S1,e1,h1,hnm,hms,hfr,f1⟩ := room_new (k := 2000) (S := S) (Yaa _) name x.mB
 have hS1 := h.fr f1
 rw [Y1.J0,if_neg (by simp),if_pos (by rfl),obs,h.ldmB,obs,e1,obs,obs]
 simp only
 rw [hS1.ldb,obs,BK.len_spec hS1.book,obs,obs]
 simp only
 rw [hS1.ldmR,obs,obs,if_pos rfl,Ya7]
 have hout : ∀ id,OwnR e0 id → ¬ OA x t id := fun i g g' => by have := h.ltO g'; have := hfr i g; omega
 have hnL : (id,name.map low) ∉ t.L := fun g => by
  obtain ⟨y,hy,g1,_⟩ := (h.link _ _).1 g
  exact hno y hy g1
 by_cases hfull : (t.R.length : Int) ≥ x.mR
 ·rw [if_pos hfull]
  refine Joined.pre f1 ?_
  exact ⟨none,405,{ t with n := t.n + 1 },S1,rfl,hS1.mono { hS1.toRsC with rel := hS1.rel.mono (Nat.le_succ _) (by show t.n + 1 ≤ 900; omega) } (Nat.le_succ _),rfl,Chg.refl _ _,.full hnL (.inr ⟨hno,hfull⟩)⟩
 rw [if_neg hfull]
 have hkey : e0.key = name.map low := by unfold Rm.key; rw [hnm]
 obtain ⟨xs,k1,k2,k3,k4⟩ := hS1.rel.at1 id
 obtain ⟨E1',E2',S2,e2,g1,g2⟩ := Zajh (k := 2000) (Yaa _) hS1.rel (by omega) id (name.map low) k1 k2
 rw [if_neg hnL] at e2 g1
 obtain ⟨c1,c2⟩ := hS1.toRsC.rel_step g1 g2
 rw [Y1.J1,obs,hS1.ldr,obs,e2,obs]
 by_cases hf : x.mJ ≤ (xs.length : Int)
 ·rw [if_pos hf] at c1 c2 ⊢
  rw [if_pos (by rfl)]
  refine Joined.pre f1 ?_
  exact ⟨none,405,_,S2,rfl,hS1.mono c1 (Nat.le_succ _),rfl,c2,.full hnL (.inl (fun ys k3 k4 => by rw [KS.srt_ext k3 k1 fun v => by rw [k4,k2]]; exact hf))⟩
 rw [if_neg hf] at c1 c2 ⊢
 rw [if_neg (by simp),if_pos (by rfl),obs]
 simp only
 rw [c1.ldb,obs]
 have hcR := h.cR
 obtain ⟨i,bs',S3,hp,e3,b1,on⟩ := BK.put_spec (n := n) (H := H) (k := 2000) (Yaa _) c1.book (by simp; omega) name (some (HA.cell0 e0.p)) hl
 have hnf : BK.foundAt (t.R.map ent) name i = false := by
  obtain ⟨o,ho,q1,q2⟩ := Zacy hp h.book.srt
  cases ho with
  | some hy hk => exact absurd hk (hno _ hy)
  | none _ => exact q1
 have hnf2 : ¬ (((t.R.map ent).length : Int) ≥ x.mR) := by simpa using hfull
 simp only [BK.putL,hnf,Bool.false_eq_true,if_false,if_neg hnf2] at b1
 have hmap : (t.R.map ent).take i ++ [(name,some (HA.cell0 e0.p))] ++ (t.R.map ent).drop i = (t.R.take i ++ e0 :: t.R.drop i).map ent := by
  simp [ent,hnm,List.map_take,List.map_drop]
 rw [hmap] at b1
 have hsub : ∀ y,y ∈ t.R.take i ++ e0 :: t.R.drop i → y ∈ t.R ∨ y = e0 := fun y hy => by
  simp only [Yab,Yac] at hy
  rcases hy with g | g | g
  ·exact .inl (Ybh g)
  ·exact .inr g
  ·exact .inl (Ybi g)
 have hri0 : RI e0 S2 := h1.keep (fun y g => g2.eq y (h1.lt g) (fun g' => hout y g (.inl (.inr (.inr g'))))) g2.le
 have hOB : ∀ y,OwnR e0 y → ¬ OB x { t with n := t.n + 1,E1 := E1',E2 := E2',L := t.L ++ [(id,name.map low)] } y := fun y g g' => by
  rcases c2.own y (.inl g') with k | k
  ·exact hout y g k
  ·have := h1.lt g; omega
 obtain ⟨d1,d2,d3⟩ := c1.book_step (R' := t.R.take i ++ e0 :: t.R.drop i) b1 on (fun y hy => by
   rcases hsub y hy with g | rfl
   ·exact c1.rooms y g
   ·exact hri0) (by
   have hpw := h.pw
   rw [← Yas i t.R,Yad] at hpw
   rw [Yad,Yah]
   refine ⟨hpw.1,⟨fun y hy z g g' => hout z g (.inr ⟨y,Ybi hy,g'⟩),hpw.2.1⟩,fun y hy z hz => ?_⟩
   rcases Yac.1 hz with rfl | hz
   ·intro w g g'; exact hout w g' (.inr ⟨y,Ybh hy,g⟩)
   ·exact hpw.2.2 y hy z hz) (fun y hy z g => by
   rcases hsub y hy with k | rfl
   ·exact c1.dR y k z g
   ·exact hOB z g)
 rw [e3,obs,Y1.J2]
 have hnil : e0.ids = [] := by unfold Rm.ids; rw [hms]; rfl
 have hlenR : (t.R.take i ++ e0 :: t.R.drop i).length = t.R.length + 1 := by
  have := congrArg List.length (Yas i t.R)
  simp only [Ya3,List.length_cons] at this ⊢; omega
 have hcm := h.cm
 obtain ⟨e',S',e5,r1,r2,r3,r4,r5⟩ := come (n := n) (H := H) (t := { t with bs := bs',n := t.n + 1,E1 := E1',E2 := E2',L := t.L ++ [(id,name.map low)],R := t.R.take i ++ e0 :: t.R.drop i }) (A := t.R.take i) (B := t.R.drop i) (e := e0) (L0 := t.L) (id := id) (op := !false) (xs := xs) d1 rfl (by rw [hkey]) (fun a b => by
   rw [h.link]
   constructor
   ·rintro ⟨y,hy,q1,q2⟩
    refine ⟨y,?_,q1,q2⟩
    rw [← Yas i t.R] at hy
    simp only [Yab,Yac] at hy ⊢
    rcases hy with g | g <;> simp [g]
   ·rintro ⟨y,hy,q1,q2⟩
    rcases hsub y hy with g | rfl
    ·exact ⟨y,g,q1,q2⟩
    ·rw [hnil] at q2; cases q2) (by rw [hnil]; simp) (fun y hy => h.ne y (by rw [Yas] at hy; exact hy)) (fun y hy => by
   rcases hsub y hy with g | rfl
   ·exact Nat.succ_le_succ (h.cm y g)
   ·rw [hms]; exact Nat.succ_le_succ (Yak _)) (by show (t.R.take i ++ e0 :: t.R.drop i).length ≤ t.n + 1; omega) hn h.mR0 h.mR1 h.mJ0 h.mJ1 (by show ((t.R.take i ++ e0 :: t.R.drop i).length : Int) ≤ x.mR; omega) h.cntJ k2 (by omega)
 rw [e5,obs]
 have hJ : JRes x t id name (some (HA.cell0 e'.p)) 0 (t.R.take i ++ e' :: t.R.drop i) (t.L ++ [(id,name.map low)]) := by
  refine .new hno (r3.trans hnm) ?_ (by omega) (fun ys k3 k4 => by rw [KS.srt_ext k3 k1 fun v => by rw [k4,k2]]; omega)
  obtain ⟨j,hj⟩ := r4
  rw [hj,hms]; simp
 refine ⟨_,0,_,S',rfl,r1,rfl,?_,by rw [r2] at hJ; exact hJ⟩
 have l2 := g2.le
 have hcase : ∀ y,OA x { t with bs := bs',n := t.n + 1,E1 := E1',E2 := E2',L := t.L ++ [(id,name.map low)],R := t.R.take i ++ e0 :: t.R.drop i } y → OA x t y ∨ S.next ≤ y := by
  rintro y ((g | g | g) | ⟨z,hz,g⟩)
  ·exact .inl (.inl (.inl g))
  ·rcases on.own y g with k | k
   ·exact .inl (.inl (.inr (.inl k)))
   ·exact .inr (by have := f1.le; omega)
  ·rcases g2.own y g with k | k
   ·exact .inl (.inl (.inr (.inr k)))
   ·exact .inr (by have := f1.le; omega)
  ·rcases hsub z hz with k | rfl
   ·exact .inl (.inr ⟨z,k,g⟩)
   ·exact .inr (hfr y g)
 have hcase1 : ∀ y,OA x { t with n := t.n + 1,E1 := E1',E2 := E2',L := t.L ++ [(id,name.map low)] } y → OA x t y ∨ S.next ≤ y := fun y g => (c2.own y g).imp (fun g => g) (fun g => by have := f1.le; omega)
 have l1 := f1.le
 have l5 := r5.le
 refine ⟨by omega,fun y q1 q2 => ?_,fun y g => ?_⟩
 ·rw [r5.eq y (by omega) (fun g => (hcase y g).elim q2 (fun g => by omega)),d3 y (by omega) (fun g => (hcase1 y g).elim q2 (fun g => by omega)),c2.eq y (by omega) q2,f1.eq y q1]
 ·rcases r5.own y g with k | k
  ·exact hcase y k
  ·exact .inr (by omega)
theorem Zaje (h : RsI x t S) (hn : t.n + 1 ≤ 200) (id : Int) (name : List UInt8) (hl : name.length ≤ 1000) : Joined x t S id name (Y1.f (disp 2000 (n + 1)) H 2000 (some (HA.cell0 x.w)) id name S) := by
 obtain ⟨o,S1,ho,e1,f1⟩ := Zaeb (n := n) (H := H) h name
 obtain ⟨S2,e2,f2⟩ := Zae9 (k := 2000) (m := S1.next) (x := name) (S := S1) (by omega) (by omega) (Yaa _)
 have h2 := (h.fr f1).fr f2
 rw [Y1.f,if_neg (by simp),obs,h.ldb,obs,e1,obs,e2,obs]
 refine Joined.pre f1 (Joined.pre f2 ?_)
 cases ho with
 | @some e he hk =>
  rw [if_pos (by rfl),obs,h2.ldr,obs,Zaf9 (Yaa _) h2.rel,obs]
  simp only [← hk]
  by_cases hin : id ∈ e.ids
  ·rw [decide_eq_true ((Zacv h he id).2 hin),Y1.J0,if_pos rfl]
   exact ⟨_,0,{ t with n := t.n + 1 },S2,rfl,h2.mono { h2.toRsC with rel := h2.rel.mono (Nat.le_succ _) (by show t.n + 1 ≤ 900; omega) } (Nat.le_succ _),rfl,Chg.refl _ _,.stay he hk hin⟩
  ·rw [decide_eq_false (fun g => hin ((Zacv h he id).1 g)),Y1.J0,if_neg (by simp),if_neg (by simp)]
   exact Zah0 h2 hn he id name hin hk
 | none hno =>
  rw [if_neg (by simp)]
  exact join_new h2 hn id name hl hno
end
theorem Zafd {e : Rm} {id : Int} {i : Nat} (hs : MK.Srt e.ms) (hp : MK.PosOf e.ms id i) (hf : MK.foundAt e.ms id i = true) (a : Int) : a ∈ (e.ms.eraseIdx i).map (·.1) ↔ a ∈ e.ids ∧ a ≠ id := by
 obtain ⟨hi,h1⟩ := MK.found_at hf
 constructor
 ·intro g
  obtain ⟨m,hm,rfl⟩ := Ya0.1 g
  obtain ⟨g1,g2⟩ := MK.erase_away hs hf m hm
  exact ⟨Ya0.2 ⟨m,g1,rfl⟩,fun e => g2 ((MK.cmpI_zero _ _).2 e.symm)⟩
 ·rintro ⟨g,hne⟩
  obtain ⟨m,hm,rfl⟩ := Ya0.1 g
  obtain ⟨j,hj,rfl⟩ := Yag hm
  refine Ya0.2 ⟨e.ms[j],?_,rfl⟩
  rw [List.mem_eraseIdx_iff_getElem]
  exact ⟨j,hj,fun e => hne (by subst e; exact h1),rfl⟩
section
variable {x : W} {t : T} {S : HS} {n : Nat} {H : Hd}
inductive PRes (t : T) (id : Int) (key : List UInt8) : List Rm → List Pr → Prop
 | none (h : (id,key) ∉ t.L) : PRes t id key t.R t.L
 | stay {A B e e'} (hR : t.R = A ++ e :: B) (hk : e.key = key) (hin : id ∈ e.ids) (hp : e'.p = e.p) (hn : e'.name = e.name) (hms : ∃ i,MK.PosOf e.ms id i ∧ MK.foundAt e.ms id i = true ∧ e'.ms = e.ms.eraseIdx i) (hne : e'.ms ≠ []) : PRes t id key (A ++ e' :: B) (wo (id,key) t.L)
 | gone {A B e} (hR : t.R = A ++ e :: B) (hk : e.key = key) (hin : id ∈ e.ids) (hms : e.ms.length = 1) : PRes t id key (A ++ B) (wo (id,key) t.L)
def Parted (x : W) (t : T) (S : HS) (id : Int) (key : List UInt8) (r : Option (Bool × HS)) : Prop :=
 ∃ t' S',r = some (decide ((id,key) ∈ t.L),S') ∧ RsI x t' S' ∧ t'.n = t.n ∧ Chg (OA x t) (OA x t') S S' ∧ PRes t id key t'.R t'.L
theorem Parted.pre {S1 : HS} {id : Int} {key : List UInt8} {r : Option (Bool × HS)} (f : Fr S.next S S1) (h : Parted x t S1 id key r) : Parted x t S id key r := by
 obtain ⟨t',S',e,h1,h2,h3,h4⟩ := h
 exact ⟨t',S',e,h1,h2,(Chg.of_fr f).trans h3,h4⟩
theorem Zafe (h : RsI x t S) (id : Int) (name : List UInt8) (hl : name.length ≤ 1000) : Parted x t S id (name.map low) (Y14.f (disp 2000 (n + 1)) H 2000 (some (HA.cell0 x.w)) id name S) := by
 obtain ⟨o,S1,ho,e1,f1⟩ := Zafg (n := n) (H := H) h name
 have h1 := h.fr f1
 rw [Y14.f,e1,obs]
 cases ho with
 | none hno =>
  rw [if_pos (by rfl),Y14.J0,if_pos rfl]
  refine Parted.pre f1 ?_
  have hnL : (id,name.map low) ∉ t.L := fun g => by
   obtain ⟨y,hy,g1,_⟩ := (h.link _ _).1 g
   exact hno y hy g1
  rw [Parted,decide_eq_false hnL]
  exact ⟨t,S1,rfl,h1,rfl,Chg.refl _ _,.none hnL⟩
 | @some e he hk =>
  obtain ⟨S2,e2,f2⟩ := Zae9 (k := 2000) (m := S1.next) (x := name) (S := S1) (by omega) (by omega) (Yaa _)
  have h2 := h1.fr f2
  rw [if_neg (by simp),obs]
  simp only
  rw [h1.ldr,obs,e2,obs]
  simp only
  rw [h2.ldr,obs,if_pos rfl]
  refine Parted.pre f1 (Parted.pre f2 ?_)
  obtain ⟨E1',E2',S3,e3,g1,g2⟩ := Zah2 (k := 2000) (Yaa _) h2.rel id (name.map low)
  obtain ⟨c1,c2⟩ := h2.toRsC.rel_step g1 g2
  rw [e3,obs,← hk]
  by_cases hin : id ∈ e.ids
  ·have hL : (id,e.key) ∈ t.L := (Zacv h he id).2 hin
   rw [Parted,decide_eq_true hL,Y14.J0,if_neg (by simp)]
   rw [← hk] at c1 c2
   obtain ⟨e',S4,e4,r1,r2,r3,⟨i,i1,i2,i3⟩,r5⟩ := Zaji (n := n) (H := H) (k := 2000) (Yaa _) (c1.rooms e he) id hin
   have hids : ∀ a,a ∈ e'.ids ↔ a ∈ e.ids ∧ a ≠ id := fun a => by
    show a ∈ e'.ms.map (·.1) ↔ _
    rw [i3]; exact Zafd (h.rooms e he).srt i1 i2 a
   have hi := MK.found_lt i2
   have hlen : e'.ms.length = e.ms.length - 1 := by rw [i3,List.length_eraseIdx,if_pos hi]
   obtain ⟨A,B,hR⟩ := Ybb he
   obtain ⟨d1,d2⟩ := c1.room_step (A := A) (B := B) hR r1 r2 r3 r5
   have hk' : e'.key = e.key := by unfold Rm.key; rw [r3]
   have hnd : ∀ y,y ∈ A ∨ y ∈ B → y ∈ t.R ∧ y.key ≠ e.key := fun y hy => by
    have hy' : y ∈ t.R := by rw [hR]; rcases hy with g | g <;> simp [g]
    refine ⟨hy',fun g => ?_⟩
    have hye := h.key_uniq hy' he g
    subst hye
    have hpw := h.pw
    rw [hR,Yad,Yah] at hpw
    rcases hy with g | g
    ·exact hpw.2.2 y g y (by simp) y.p (.inl (.inl rfl)) (.inl (.inl rfl))
    ·exact hpw.2.1.1 y g y.p (.inl (.inl rfl)) (.inl (.inl rfl))
   have link' : ∀ a b,(a,b) ∈ wo (id,e.key) t.L ↔ ∃ y ∈ A ++ e' :: B,y.key = b ∧ a ∈ y.ids := by
    intro a b
    rw [Zadj,h.link,hR]
    constructor
    ·rintro ⟨⟨y,hy,q1,q2⟩,q3⟩
     simp only [Yab,Yac] at hy
     rcases hy with g | rfl | g
     ·exact ⟨y,by simp [g],q1,q2⟩
     ·exact ⟨e',by simp,hk'.trans q1,(hids a).2 ⟨q2,fun g => q3 (by rw [g,q1])⟩⟩
     ·exact ⟨y,by simp [g],q1,q2⟩
    ·rintro ⟨y,hy,q1,q2⟩
     simp only [Yab,Yac] at hy
     have key : (y ∈ A ∨ y ∈ B) ∨ y = e' := by rcases hy with g | g | g <;> simp [g]
     rcases key with g | rfl
     ·refine ⟨⟨y,by rcases g with g | g <;> simp [g],q1,q2⟩,fun g' => ?_⟩
      simp only [Prod.mk.injEq] at g'
      exact (hnd y g).2 (q1.trans g'.2)
     ·obtain ⟨q3,q4⟩ := (hids a).1 q2
      refine ⟨⟨e,by simp,hk'.symm.trans q1,q3⟩,fun g' => ?_⟩
      simp only [Prod.mk.injEq] at g'
      exact q4 g'.1
   have cnt' : ∀ a xs,KS.Srt xs → (∀ v,v ∈ xs ↔ (a,v) ∈ wo (id,e.key) t.L) → (xs.length : Int) ≤ x.mJ := fun a xs hs hm => by
    obtain ⟨ys,k1,k2,_,_⟩ := h.rel.at1 a
    have := h.cntJ a ys k1 k2
    have := Zafb xs ys (Zadi hs) (fun v hv => (k2 v).2 (Zadj.1 ((hm v).1 hv)).1)
    omega
   have hcm : ∀ y ∈ A ++ e' :: B,y.ms.length ≤ t.n := fun y hy => by
    simp only [Yab,Yac] at hy
    rcases hy with g | rfl | g
    ·exact h.cm y (hnd y (.inl g)).1
    ·have := h.cm e he; omega
    ·exact h.cm y (hnd y (.inr g)).1
   have hRl : (A ++ e' :: B).length = t.R.length := by rw [hR]; simp
   have hcR := h.cR
   have hcntR := h.cntR
   have hptr : Zagb (some e) = some (HA.cell0 e.p) := rfl
   rw [hptr,e4,obs]
   simp only
   rw [show some (HA.cell0 e.p) = some (HA.cell0 e'.p) by rw [r2],Zag5 r1,obs]
   simp only
   by_cases hz : (e'.ms.length : Int) = 0
   ·rw [if_pos hz,obs,d1.ldb,obs]
    obtain ⟨j,bs',S5,hp,e5,b1,on⟩ := BK.delete_spec (n := n) (H := H) (k := 2000) (Yaa _) d1.book name
    have hp : BK.PosOf ((A ++ e' :: B).map ent) name j := hp
    have hsrt : BK.Srt ((A ++ e' :: B).map ent) := d1.book.srt
    obtain ⟨o,ho,q1,q2⟩ := Zacy hp hsrt
    have hfj : BK.foundAt ((A ++ e' :: B).map ent) name j = true := by
     cases hb : BK.foundAt ((A ++ e' :: B).map ent) name j with
     | true => rfl
     | false => exact absurd ((Zzr _ _).2 (hk'.trans hk).symm) (BK.none_alike hp hsrt hb (ent e') (Ya0.2 ⟨e',by simp,rfl⟩))
    obtain ⟨hj,q3⟩ := q2 hfj
    rw [q3] at ho
    have hjk : (A ++ e' :: B)[j].key = name.map low := by cases ho with | some _ g => exact g
    have hjA : j = A.length := by
     rcases Nat.lt_trichotomy j A.length with g | g | g
     ·rw [List.getElem_append_left g] at hjk
      exact absurd (hjk.trans hk.symm) (hnd _ (.inl (Yae g))).2
     ·exact g
     ·have hjB : (A ++ e' :: B)[j] ∈ B := by
       rw [List.getElem_append_right (by omega),List.getElem_cons,dif_neg (by omega)]
       exact Yae _
      exact absurd (hjk.trans hk.symm) (hnd _ (.inr hjB)).2
    have herase : ((A ++ e' :: B).map ent).eraseIdx j = (A ++ B).map ent := by
     rw [hjA,← Go.ChangeMaps.map_eraseIdx]
     congr 1
     rw [List.eraseIdx_append_of_length_le (Yaa _)]
     simp
    have b1 : BK.BI x.bk bs' x.mR ((A ++ B).map ent) S5 := by
     have : BK.BI x.bk bs' x.mR (if BK.foundAt ((A ++ e' :: B).map ent) name j = true then ((A ++ e' :: B).map ent).eraseIdx j else (A ++ e' :: B).map ent) S5 := b1
     rw [if_pos hfj,herase] at this
     exact this
    have hsub : ∀ y ∈ A ++ B,y ∈ A ++ e' :: B := fun y hy => by
     simp only [Yab,Yac] at hy ⊢
     rcases hy with g | g <;> simp [g]
    have hms : e'.ms = [] := Yax.1 (by omega)
    obtain ⟨k1,k2,k3⟩ := d1.book_step (R' := A ++ B) b1 on (fun y hy => d1.rooms y (hsub y hy)) (by
     have hpw : (A ++ e' :: B).Pairwise fun a b => ∀ id,OwnR a id → ¬ OwnR b id := d1.pw
     exact hpw.sublist (List.Sublist.append (List.Sublist.refl _) (List.sublist_cons_self _ _))) (fun y hy => d1.dR y (hsub y hy))
    rw [e5,obs,Y14.J1]
    have ch2 : Chg (OA x { t with n := t.n,E1 := E1',E2 := E2',L := wo (id,e.key) t.L,R := A ++ e' :: B }) (OA x { t with n := t.n,E1 := E1',E2 := E2',L := wo (id,e.key) t.L,bs := bs',R := A ++ B }) S4 S5 := by
     refine ⟨k2,k3,?_⟩
     rintro y ((g | g | g) | ⟨z,hz,g⟩)
     ·exact .inl (.inl (.inl g))
     ·exact (on.own y g).imp (fun g => .inl (.inr (.inl g))) (fun g => g)
     ·exact .inl (.inl (.inr (.inr g)))
     ·exact .inl (.inr ⟨z,hsub z hz,g⟩)
    have hAB : (A ++ B).length + 1 = (A ++ e' :: B).length := by simp; omega
    refine ⟨_,S5,rfl,{ k1 with link := ?_,ne := ?_,cm := fun y hy => hcm y (hsub y hy),cR := ?_,mR0 := h.mR0,mR1 := h.mR1,mJ0 := h.mJ0,mJ1 := h.mJ1,cntR := ?_,cntJ := cnt' },rfl,(c2.trans d2).trans ch2,.gone hR rfl hin (by omega)⟩
    ·intro a b
     refine (link' a b).trans ⟨?_,fun ⟨y,hy,q⟩ => ⟨y,hsub y hy,q⟩⟩
     rintro ⟨y,hy,w1,w2⟩
     simp only [Yab,Yac] at hy
     rcases hy with g | rfl | g
     ·exact ⟨y,by show y ∈ A ++ B; simp [g],w1,w2⟩
     ·unfold Rm.ids at w2; rw [hms] at w2; cases w2
     ·exact ⟨y,by show y ∈ A ++ B; simp [g],w1,w2⟩
    ·intro y hy
     have hy : y ∈ A ++ B := hy
     rcases Yab.1 hy with g | g
     ·exact h.ne y (hnd y (.inl g)).1
     ·exact h.ne y (hnd y (.inr g)).1
    ·show (A ++ B).length ≤ t.n
     omega
    ·show ((A ++ B).length : Int) ≤ x.mR
     omega
   ·rw [if_neg hz,Y14.J1]
    refine ⟨_,S4,rfl,{ d1 with link := link',ne := ?_,cm := hcm,cR := ?_,mR0 := h.mR0,mR1 := h.mR1,mJ0 := h.mJ0,mJ1 := h.mJ1,cntR := ?_,cntJ := cnt' },rfl,c2.trans d2,.stay hR rfl hin r2 r3 ⟨i,i1,i2,i3⟩ (fun g => hz (by rw [g]; rfl))⟩
    ·intro y hy
     have hy : y ∈ A ++ e' :: B := hy
     simp only [Yab,Yac] at hy
     rcases hy with g | rfl | g
     ·exact h.ne y (hnd y (.inl g)).1
     ·intro g; rw [g] at hz; exact hz rfl
     ·exact h.ne y (hnd y (.inr g)).1
    ·show (A ++ e' :: B).length ≤ t.n
     omega
    ·show ((A ++ e' :: B).length : Int) ≤ x.mR
     omega
  ·have hnL : (id,e.key) ∉ t.L := fun g => hin ((Zacv h he id).1 g)
   rw [Parted,decide_eq_false hnL,Y14.J0,if_pos (by rfl)]
   rw [← hk,wo_no hnL] at c1 c2
   exact ⟨_,S3,rfl,h2.mono c1 (Yaa _),rfl,c2,.none hnL⟩
end
namespace PK
abbrev Ky := Option HA
def row1 (k : Ky) : List HV := [.ptr k]
theorem ldK_at {S : HS} {s : Sl} {xs : List Ky} (h : S.rows s 1 = some (xs.map row1)) {i : Nat} (hi : i < xs.length) : ∃ ad,S.idx s (i : Int) 1 = some ad ∧ S.ldP ad = some xs[i] := by
 obtain ⟨ad,h1,h2⟩ := Zajc h (i := i) (v := .ptr xs[i]) (by simpa using hi) (by rw [Yaj]; rfl)
 exact ⟨ad,h1,by rw [HS.ldP,h2]; rfl⟩
theorem of_tells {k n c : Nat} {B : HS} {s : Sl} {xs : List Ky} (hk : xs.length < k) (hx : xs.length ≤ 1000000) (hc : B.heap c = .cells 1 [[s.hv]] true) (hr : B.rows s 1 = some (xs.map row1)) (K : Nat → Prop) (hK : K c ∧ ∀ q,s.a = some q → K q.1) :
  Tells (disp k (n + 2)) (.fn (.func 63) [] [.ptr (some (HA.cell0 c))]) (xs.map row1) K B := by
 intro H l I Stop ht O S hI hB
 have hlen : (xs.map row1).length = xs.length := by simp
 have hcS : S.heap c = .cells 1 [[s.hv]] true := (hB c hK.1).1.trans hc
 have hrS : S.rows s 1 = some (xs.map row1) := Zyc hr fun q hq => (hB q.1 (hK.2 q hq)).1
 have hloop : ∀ f i O1 T,xs.length - i < f → i ≤ xs.length → I i O1 T → S.next ≤ T.next → (∀ id,id < S.next → ¬ O id → T.heap id = S.heap id) → (∀ id,O1 id → O id ∨ S.next ≤ id) →
   ∃ S' O',Y63.L0 (disp k (n + 1)) H k f (.fn (.yield l) [] []) s (xs.length : Int) (i : Int) T = some ((),S') ∧ S.next ≤ S'.next ∧ (∀ id,id < S.next → ¬ O id → S'.heap id = S.heap id) ∧ (∀ id,O' id → O id ∨ S.next ≤ id) ∧ (I xs.length O' S' ∨ Stop O' S') := by
  intro f
  induction f with
  | zero => intro i O1 T h; omega
  | succ f ih =>
   intro i O1 T hf hi hIT hn hk2 hO
   rw [Y63.L0]
   by_cases hlt : i < xs.length
   ·have hrT : T.rows s 1 = some (xs.map row1) := Zyc hrS fun q hq => hk2 q.1 (hB q.1 (hK.2 q hq)).2.2 (hB q.1 (hK.2 q hq)).2.1
    obtain ⟨ad,a1,a2⟩ := ldK_at hrT hlt
    obtain ⟨b,T2,O2,e2,n2,k2,o2,g1,g2⟩ := ht.step i (by omega) O1 T hIT
    have he : disp k (n + 1) H (.fn (.yield l) [] []) [.ptr xs[i]] T = some (.bool b,T2) := by
     rw [Zaa0,← e2,Yaj]; rfl
    have hk3 : ∀ id,id < S.next → ¬ O id → T2.heap id = S.heap id := fun id h1 h2 => (k2 id (by omega) (fun ho => (hO id ho).elim h2 (fun h => by omega))).trans (hk2 id h1 h2)
    have hO3 : ∀ id,O2 id → O id ∨ S.next ≤ id := fun id h => (o2 id h).elim (hO id) (fun h => .inr (by omega))
    rw [if_pos (by omega),a1,obs,a2,obs,he,obs]
    simp only [dB,obs]
    cases b with
    | false => exact ⟨T2,O2,rfl,by omega,hk3,hO3,.inr (g2 rfl)⟩
    | true =>
     rw [if_neg (by simp),Zx6 (by omega) (by omega),show ((i : Int) + 1) = ((i + 1 : Nat) : Int) by simp]
     exact ih (i + 1) O2 T2 (by omega) (by omega) (g1 rfl) (by omega) hk3 hO3
   ·obtain rfl : i = xs.length := by omega
    rw [if_neg (by omega)]
    exact ⟨T,O1,rfl,hn,hk2,hO,.inl hIT⟩
 obtain ⟨S',O',e,h1,h2,h3,h4⟩ := hloop k 0 O S (by omega) (Yak _) hI (Yaa _) (fun _ _ _ => rfl) (fun _ h => .inl h)
 refine ⟨S',O',?_,h1,h2,h3,by rw [hlen]; exact h4⟩
 rw [Zz8]
 have hsl : (s.len : Int) = xs.length := by rw [← Zx7 hrS]; simp
 have e' : Zabt (disp k (n + 1)) H k ([] ++ [HV.fn (.yield l) [] []] ++ [.ptr (some (HA.cell0 c))]) S = some (.tup [],S') := by
  rw [Zabt]
  simp only [Yay,List.cons_append,Zaae,obs,dF,dP]
  rw [Y63.f,obs,Zy8 hcS,obs,hsl]
  erw [e]
  rfl
 repeat rw [if_neg (by decide)]
 rw [if_pos rfl,e']
theorem app1_spec {n : Nat} {S : HS} {s : Sl} {xs : List Ky} (t : Ky) (h : Vec n S 1 s (xs.map row1)) (hn : n ≤ S.next) (hl : xs.length < 1000000) :
  ∃ s' S',HS.app (S.lit [[.ptr t]] 1).2 s [[.ptr t]] 1 = some (s',S') ∧ (S.lit [[.ptr t]] 1).2.rows (S.lit [[.ptr t]] 1).1 1 = some [[.ptr t]] ∧ Vec n S' 1 s' ((xs ++ [t]).map row1) ∧ Fr n S S' ∧ (∀ id,id < S.next → (∀ q,s.a = some q → q.1 ≠ id) → S'.heap id = S.heap id) ∧ (∀ q,s'.a = some q → S.next ≤ q.1 ∨ ∃ q0,s.a = some q0 ∧ q0.1 = q.1) := by
 have fl : Fr S.next S (S.lit [[.ptr t]] 1).2 := Zzd _ (Yaa _)
 have nl : (S.lit [[.ptr t]] 1).2.next = S.next + 1 := rfl
 obtain ⟨s',S',e1,v1,f1,k1,q1⟩ := (h.frame fl (Yaa _)).app2 (new := [[.ptr t]]) (by omega) (by simp; omega)
 refine ⟨s',S',e1,(Vec.lit (n := 0) (z := 1) (S := S) _ (Yak _)).rows,by rw [Yau]; exact v1,(fl.mono hn).trans f1,fun id h1 h2 => (k1 id (by omega) h2).trans (fl.eq id h1),fun q hq => ?_⟩
 rcases q1 q hq with g | g
 ·exact .inl (by omega)
 ·exact .inr g
end PK
def ofKey (R : List Rm) (key : List UInt8) : PK.Ky := Zagb (R.find? fun e => decide (e.key = key))
theorem Zaea {x : W} {t : T} {S : HS} (h : RsI x t S) {e : Rm} (he : e ∈ t.R) : ofKey t.R e.key = some (HA.cell0 e.p) := by
 unfold ofKey
 cases hf : t.R.find? fun y => decide (y.key = e.key) with
 | none => exact absurd ((List.find?_eq_none.1 hf) e he) (by simp)
 | some y =>
  have h1 := List.find?_some hf
  have h2 := List.mem_of_find?_eq_some hf
  rw [h.key_uniq h2 he (by simpa using h1)]; rfl
def Og (b : Nat) (so : Sl) (id : Nat) : Prop := (b ≤ id ∧ id < b + 2) ∨ ∃ q,so.a = some q ∧ q.1 = id
structure Gt (b w : Nat) (ys : List PK.Ky) (i : Nat) (so : Sl) (S : HS) : Prop where
 c0 : S.heap b = .cells 1 [[.ptr (some (HA.cell0 w))]] true
 co : S.heap (b + 1) = .cells 1 [[so.hv]] true
 vec : Vec (b + 2) S 1 so ((ys.take i).map PK.row1)
 nx : b + 2 ≤ S.next
theorem Gt.keep {b w : Nat} {ys : List PK.Ky} {i : Nat} {so : Sl} {S S' : HS} (h : Gt b w ys i so S) (hk : ∀ id,Og b so id → S'.heap id = S.heap id) (hn : S.next ≤ S'.next) : Gt b w ys i so S' :=
 ⟨(hk _ (.inl ⟨by omega,by omega⟩)).trans h.c0,(hk _ (.inl ⟨by omega,by omega⟩)).trans h.co,vec_keep h.vec (fun q hq => hk _ (.inr ⟨q,hq,rfl⟩)) hn,Ya2 h.nx hn⟩
theorem Gt.lt {b w : Nat} {ys : List PK.Ky} {i : Nat} {so : Sl} {S : HS} (h : Gt b w ys i so S) {x : Nat} (ho : Og b so x) : x < S.next := by
 have := h.nx
 rcases ho with g | ⟨q,g,rfl⟩
 ·omega
 ·exact (h.vec.lo q g).2
theorem key_map {s : List UInt8} (h : ∃ n : List UInt8,s = n.map low) : s.map low = s := by
 obtain ⟨n,rfl⟩ := h
 rw [Ybd]
 exact Ybe fun b _ => low_low b
theorem of_spec {x : W} {t : T} {S : HS} {nD : Nat} {H : Hd} (h : RsI x t S) (hn : t.n ≤ 200) (id : Int) {xs : List KS.Ky} (hs : KS.Srt xs) (hm : ∀ v,v ∈ xs ↔ (id,v) ∈ t.L) :
  ∃ c so S',Y12.f (disp 2000 (nD + 2)) H 2000 (some (HA.cell0 x.w)) id S = some (.fn (.func 63) [] [.ptr (some (HA.cell0 c))],S') ∧ S'.heap c = .cells 1 [[so.hv]] true ∧ S'.rows so 1 = some ((xs.map (ofKey t.R)).map PK.row1) ∧ (S.next ≤ c ∧ c < S'.next) ∧ (∀ q,so.a = some q → S.next ≤ q.1 ∧ q.1 < S'.next) ∧ Fr S.next S S' := by
 have hxl : xs.length ≤ 900 := by
  obtain ⟨ys,h1,h2,h3,_⟩ := h.rel.at1 id
  have : ys = xs := KS.srt_ext h1 hs fun v => by rw [h2,hm]
  subst this
  omega
 rw [Y12.f,letv,letv]
 simp only [Zx2]
 have n3 : ((S.new (.cells 1 [[.ptr (some (HA.cell0 x.w))]] true)).new (.cells 1 [[Sl.nil.hv]] true)).next = S.next + 2 := rfl
 have f3 : Fr S.next S ((S.new (.cells 1 [[.ptr (some (HA.cell0 x.w))]] true)).new (.cells 1 [[Sl.nil.hv]] true)) := (Fr.new (Yaa _) _).trans (Fr.new (by simp only [Zx2]; omega) _)
 have c0 : ((S.new (.cells 1 [[.ptr (some (HA.cell0 x.w))]] true)).new (.cells 1 [[Sl.nil.hv]] true)).heap S.next = .cells 1 [[.ptr (some (HA.cell0 x.w))]] true := by
  rw [Zyy _ (by simp only [Zx2]; omega)]; exact Zxx _ _
 have c1 : ((S.new (.cells 1 [[.ptr (some (HA.cell0 x.w))]] true)).new (.cells 1 [[Sl.nil.hv]] true)).heap (S.next + 1) = .cells 1 [[Sl.nil.hv]] true := Zxx (S.new _) _
 generalize (S.new (.cells 1 [[.ptr (some (HA.cell0 x.w))]] true)).new (.cells 1 [[Sl.nil.hv]] true) = T at n3 f3 c0 c1 ⊢
 have hT := h.fr f3
 rw [Zabf c0,obs,if_pos (by simp),obs,obs,hT.ldr,obs]
 obtain ⟨fn,u,v,S1,K,e1,hTl,hK,f1⟩ := of_rel (nD := nD) hT.rel id hs hm
 have l1 := f1.le
 have h1 := hT.fr f1
 rw [e1,obs]
 have hlen : (xs.map KS.row1).length = xs.length := by simp
 have hI0 : Gt S.next x.w (xs.map (ofKey t.R)) 0 Sl.nil S1 := ⟨(f1.eq _ (by omega)).trans c0,(f1.eq _ (by omega)).trans c1,by rw [List.take_zero]; exact .nil,by omega⟩
 have hOS : ∀ i,OA x t i → i < S.next := fun i ho => h.ltO ho
 obtain ⟨T2,st,S',O',e2,e3,de,n5,ch,lt,hnn,hs'⟩ := Zaag (D := disp 2000 (nD + 2)) (H := H) (fv := .fn fn u v) (S := S1) (hd := fun vs T =>
   Option.bind (HS.lp T (S1.next + 1)) fun _ => Option.bind (Zaad vs) fun ar => Option.bind (dS ar) fun p => Y12.J0 (disp 2000 (nD + 2)) H 2000 (S1.next + 1) (some (HA.cell0 S.next)) (some (HA.cell0 (S.next + 1))) p T)
  (bd := fun i U => if h : i < xs.length then
    Option.bind (U.ldP (HA.cell0 S.next)) fun p11 => Option.bind p11 fun p12 => Option.bind (U.ldP (HA.fld p12 15)) fun p13 => Option.bind (Y15.f (disp 2000 (nD + 2)) H 2000 p13 xs[i] U) fun p14 => Option.bind (HS.ldSl p14.2 (HA.cell0 (S.next + 1))) fun p16 =>
    letv (HS.lit p14.2 [[(.ptr p14.1.1)]] 1) fun p17 => Option.bind (HS.rows p17.2 p17.1 1) fun p18 => Option.bind (HS.app p17.2 p16 p18 1) fun p19 => Option.bind (HS.sets p19.2 (HA.cell0 (S.next + 1)) [p19.1.hv]) fun p21 => HS.endr p21 (S1.next + 1) none else none)
  hTl (fun i h => (hK i h).2) (fun i O U => ∃ so,Gt S.next x.w (xs.map (ofKey t.R)) i so U ∧ (∀ y,OA x t y → U.heap y = S.heap y) ∧ ∀ y,O y ↔ (Og S.next so y ∨ OA x t y)) (fun _ _ _ => False)
  (fun i O U U' ⟨so,h1,h2,h3⟩ hk hn => ⟨so,h1.keep (fun y ho => hk y ((h3 y).2 (.inl ho))) hn,fun y ho => (hk y ((h3 y).2 (.inr ho))).trans (h2 y ho),h3⟩) (fun _ _ _ _ h => h.elim)
  (fun y => Og S.next Sl.nil y ∨ OA x t y) (fun y ho => by
   rcases ho with (g | ⟨q,g,_⟩) | g
   ·omega
   ·cases g
   ·have := hOS y g; omega) ⟨Sl.nil,hI0,fun y ho => (f1.eq y (by have := hOS y ho; omega)).trans (f3.eq y (hOS y ho)),fun _ => Iff.rfl⟩ (fun y ho hk => by
   have := hK y hk
   rcases ho with (g | ⟨q,g,_⟩) | g
   ·omega
   ·cases g
   ·have := hOS y g; omega)
  (fun i hi U hU => by
   have hi' : i < xs.length := by simpa using hi
   rw [lp_at hU,obs,Yaj,show Zaad (KS.row1 xs[i]) = some (KS.kv xs[i]) from rfl,obs,show dS (KS.kv xs[i]) = some xs[i] from rfl,obs,Y12.J0,Zab6 hU,obs,obs,dif_pos hi']
   rfl)
  (fun i hi O1 U ⟨so,g1,g2',g3⟩ hnu hl hno hlt => by
   have g2 : RsI x t U := h.keep g2' (by have := g1.nx; omega)
   have hi' : i < xs.length := by simpa using hi
   have hnx0 := g1.nx
   have hmem : (id,xs[i]) ∈ t.L := (hm _).1 (Yae hi')
   obtain ⟨e,he,hk1,hk2⟩ := (h.link _ _).1 hmem
   obtain ⟨o,U1,ho,eg,fg⟩ := Zaeb (n := nD + 1) (H := H) g2 xs[i]
   have hoe : o = some e := Fnd.uniq g2 ho (.some he (by rw [key_map ⟨e.name,hk1.symm⟩]; exact hk1))
   subst hoe
   have hptr : Zagb (some e) = ofKey t.R xs[i] := by rw [← hk1,Zaea h he]; rfl
   have lg := fg.le
   have g1 : Gt S.next x.w (xs.map (ofKey t.R)) i so U1 := g1.keep (fun y ho => fg.eq y (g1.lt ho)) lg
   have hnx := g1.nx
   have hso : ∀ q,so.a = some q → S.next + 2 ≤ q.1 ∧ q.1 < U.next := fun q hq => ⟨(g1.vec.lo q hq).1,hlt q.1 ((g3 _).2 (.inl (.inr ⟨q,hq,rfl⟩)))⟩
   rw [dif_pos hi',Zabf ((fg.eq _ (by omega)).symm.trans g1.c0),obs,obs,g2.ldb,obs,eg,obs]
   simp only
   rw [Zy8 g1.co,obs,hptr]
   obtain ⟨so',T3,e3,lr,v3,f3,k3,q3⟩ := PK.app1_spec (n := S.next + 2) (xs := (xs.map (ofKey t.R)).take i) (ofKey t.R xs[i]) g1.vec hnx (by simp; omega)
   have l3 := f3.le
   have e : (xs.map (ofKey t.R)).take (i + 1) = (xs.map (ofKey t.R)).take i ++ [ofKey t.R xs[i]] := by
    rw [Yaf (by simpa using hi'),Yaj]
   rw [← e] at v3
   have c3 : T3.heap (S.next + 1) = .cells 1 [[so.hv]] true := by rw [k3 _ (by omega) (fun q hq e => by have := hso q hq; omega)]; exact g1.co
   rw [letv,lr,obs,e3,obs,Zze _ c3,obs]
   have hU1 : U.next ≤ T3.next := by
    have : U1.next ≤ T3.next := by omega
    omega
   have hkk : ∀ y,y < U.next → y ≠ S.next + 1 → (∀ q,so.a = some q → q.1 ≠ y) → (T3.put (S.next + 1) (.cells 1 [[so'.hv]] true)).heap y = U.heap y := fun y a1 a2 a3 => by rw [Zxe _ a2,k3 y (by omega) a3,fg.eq y a1]
   have hg : Gt S.next x.w (xs.map (ofKey t.R)) (i + 1) so' (T3.put (S.next + 1) (.cells 1 [[so'.hv]] true)) := ⟨(hkk _ (by omega) (by omega) (fun q hq e => by have := hso q hq; omega)).trans ((fg.eq _ (by omega)).symm.trans g1.c0),Zxv _ _ _,v3.put_ne (fun q hq e => by have := v3.lo q hq; omega),by rw [Zxw]; omega⟩
   have hw2 : ∀ y,OA x t y → (T3.put (S.next + 1) (.cells 1 [[so'.hv]] true)).heap y = S.heap y := fun y ho => (hkk y (g2.ltO ho) (by have := hOS y ho; omega) (fun q hq e => by have := hso q hq; have := hOS y ho; omega)).trans (g2' y ho)
   refine ⟨_,fun y => Og S.next so' y ∨ OA x t y,none,rfl,⟨by rw [Zxw]; omega,fun y a1 a2 => ?_,fun y ho => ?_⟩,fun y ho => ?_,fun _ => ⟨so',hg,hw2,fun _ => Iff.rfl⟩,fun c h => by cases h⟩
   ·have hno : ¬ Og S.next so y := fun h => a2 ((g3 y).2 (.inl h))
    exact hkk y a1 (fun e => hno (.inl ⟨by omega,by omega⟩)) (fun q hq e => hno (.inr ⟨q,hq,e⟩))
   ·rcases ho with (g | ⟨q,g,rfl⟩) | g
    ·exact .inl ((g3 y).2 (.inl (.inl g)))
    ·rcases q3 q g with g' | ⟨q0,a1,a2⟩
     ·exact .inr (by omega)
     ·exact .inl ((g3 _).2 (.inl (.inr ⟨q0,a1,a2⟩)))
    ·exact .inl ((g3 y).2 (.inr g))
   ·rcases ho with g | g
    ·exact hg.lt g
    ·rw [Zxw]; have := hOS y g; omega)
 erw [e2]
 rw [obs]
 simp only [e3,obs]
 have hle := ch.le
 cases hst : st with
 | some c => exact (hs' c hst).elim
 | none =>
  obtain ⟨so,g1,g2,g3⟩ := hnn hst
  rw [hlen] at g1
  have hv := g1.vec
  rw [Yaz (by simp)] at hv
  have hlo := hv.lo
  have hnx := g1.nx
  simp only [pcode,obs,if_true]
  rw [Y12.J1]
  simp only [HS.leave,de,obs]
  refine ⟨S.next + 1,so,_,rfl,by rw [Zxe _ (by omega)]; exact g1.co,Zyc hv.rows fun q hq => ?_,⟨by omega,by rw [Zxw]; omega⟩,fun q hq => ⟨by have := hlo q hq; omega,by rw [Zxw]; exact (hlo q hq).2⟩,⟨by rw [Zxw]; omega,fun y hy => ?_⟩⟩
  ·have := hlo q hq
   have := (lt q.1 ((g3 _).2 (.inl (.inr ⟨q,hq,rfl⟩)))).1
   rw [Zxe _ this]
  ·rw [Zxe _ (by omega)]
   by_cases hx2 : OA x t y
   ·exact g2 y hx2
   ·rw [ch.eq y (by omega) (fun ho => by
     rcases ho with (g | ⟨q,g,_⟩) | g
     ·omega
     ·cases g
     ·exact hx2 g),f1.eq y (by omega)]
    exact f3.eq y hy
theorem Zahv {k n c : Nat} {B : HS} {s : Sl} {xs : List BK.En} (hk : xs.length < k) (hx : xs.length ≤ 1000000) (hc : B.heap c = .cells 1 [[s.hv]] true) (hr : B.rows s 2 = some (xs.map BK.enRow)) (K : Nat → Prop) (hK : K c ∧ ∀ q,s.a = some q → K q.1) :
  Tells (disp k (n + 2)) (.fn (.func 119) [] [.ptr (some (HA.cell0 c))]) (xs.map BK.enRow) K B := by
 intro H l I Stop ht O S hI hB
 have hlen : (xs.map BK.enRow).length = xs.length := by simp
 have hcS : S.heap c = .cells 1 [[s.hv]] true := (hB c hK.1).1.trans hc
 have hrS : S.rows s 2 = some (xs.map BK.enRow) := Zyc hr fun q hq => (hB q.1 (hK.2 q hq)).1
 have hloop : ∀ f i O1 T,xs.length - i < f → i ≤ xs.length → I i O1 T → S.next ≤ T.next → (∀ id,id < S.next → ¬ O id → T.heap id = S.heap id) → (∀ id,O1 id → O id ∨ S.next ≤ id) →
   ∃ S' O',Y58.L0 (disp k (n + 1)) H k f (.fn (.yield l) [] []) s (xs.length : Int) (i : Int) T = some ((),S') ∧ S.next ≤ S'.next ∧ (∀ id,id < S.next → ¬ O id → S'.heap id = S.heap id) ∧ (∀ id,O' id → O id ∨ S.next ≤ id) ∧ (I xs.length O' S' ∨ Stop O' S') := by
  intro f
  induction f with
  | zero => intro i O1 T h; omega
  | succ f ih =>
   intro i O1 T hf hi hIT hn hk2 hO
   rw [Y58.L0]
   by_cases hlt : i < xs.length
   ·have hrT : T.rows s 2 = some (xs.map BK.enRow) := Zyc hrS fun q hq => hk2 q.1 (hB q.1 (hK.2 q hq)).2.2 (hB q.1 (hK.2 q hq)).2.1
    obtain ⟨ad,a1,a2,a3⟩ := BK.en_rows hrT hlt
    rw [if_pos (by omega),a1,obs,a2,obs,a3,obs,letv]
    have hs0 : (T.new (.cells 2 [[.str [],.ptr none]] true)).sets (HA.cell0 T.next) [.str xs[i].1,.ptr xs[i].2] = some ((T.new (.cells 2 [[.str [],.ptr none]] true)).put T.next (.cells 2 [[.str xs[i].1,.ptr xs[i].2]] true)) := (Zyv (Zxx T _) rfl (by simp)).trans rfl
    have ft : Fr T.next T ((T.new (.cells 2 [[.str [],.ptr none]] true)).put T.next (.cells 2 [[.str xs[i].1,.ptr xs[i].2]] true)) := (Fr.new (Yaa _) _).trans (Fr.put (Yaa _) _)
    have hcell : ((T.new (.cells 2 [[.str [],.ptr none]] true)).put T.next (.cells 2 [[.str xs[i].1,.ptr xs[i].2]] true)).heap T.next = .cells 2 [[.str xs[i].1,.ptr xs[i].2]] true := Zxv _ _ _
    rw [hs0,obs]
    generalize (T.new (.cells 2 [[.str [],.ptr none]] true)).put T.next (.cells 2 [[.str xs[i].1,.ptr xs[i].2]] true) = T1 at ft hcell
    have hIT1 : I i O1 T1 := ht.keep i O1 T T1 hIT (fun id ho => ft.eq id (ht.lt i O1 T hIT id ho)) ft.le
    obtain ⟨b,T2,O2,e2,n2,k2,o2,g1,g2⟩ := ht.step i (by omega) O1 T1 hIT1
    have hle := ft.le
    have he : disp k (n + 1) H (.fn (.yield l) [] []) [.str xs[i].1,.ptr xs[i].2] T1 = some (.bool b,T2) := by
     rw [Zaa0,← e2,Yaj]; rfl
    have hk3 : ∀ id,id < S.next → ¬ O id → T2.heap id = S.heap id := fun id h1 h2 => ((k2 id (by omega) (fun ho => (hO id ho).elim h2 (fun h => by omega))).trans (ft.eq id (by omega))).trans (hk2 id h1 h2)
    have hO3 : ∀ id,O2 id → O id ∨ S.next ≤ id := fun id h => (o2 id h).elim (hO id) (fun h => .inr (by omega))
    rw [Zzs (Zxu hcell) rfl rfl,obs,Zacj (Zxu hcell) rfl rfl,obs,he,obs]
    simp only [dB,obs]
    cases b with
    | false => exact ⟨T2,O2,rfl,by omega,hk3,hO3,.inr (g2 rfl)⟩
    | true =>
     rw [if_neg (by simp),Zx6 (by omega) (by omega),show ((i : Int) + 1) = ((i + 1 : Nat) : Int) by simp]
     exact ih (i + 1) O2 T2 (by omega) (by omega) (g1 rfl) (by omega) hk3 hO3
   ·obtain rfl : i = xs.length := by omega
    rw [if_neg (by omega)]
    exact ⟨T,O1,rfl,hn,hk2,hO,.inl hIT⟩
 obtain ⟨S',O',e,h1,h2,h3,h4⟩ := hloop k 0 O S (by omega) (Yak _) hI (Yaa _) (fun _ _ _ => rfl) (fun _ h => .inl h)
 refine ⟨S',O',?_,h1,h2,h3,by rw [hlen]; exact h4⟩
 rw [Zz8]
 have hsl : (s.len : Int) = xs.length := by rw [← Zx7 hrS]; simp
 have e' : Zaaz (disp k (n + 1)) H k ([] ++ [HV.fn (.yield l) [] []] ++ [.ptr (some (HA.cell0 c))]) S = some (.tup [],S') := by
  rw [Zaaz]
  simp only [Yay,List.cons_append,Zaae,obs,dF,dP]
  rw [Y58.f,obs,Zy8 hcS,obs,hsl]
  erw [e]
  rfl
 repeat rw [if_neg (by decide)]
 rw [if_pos rfl,e']
theorem Zag0 {S : HS} {id : Nat} {f : Fn} {xs ys : List HV} {b : Bool} (h : S.heap id = .cells 1 [[.fn f xs ys]] b) : S.ldF (HA.cell0 id) = some (.fn f xs ys) := by rw [HS.ldF,Zabe h]; rfl
theorem Zahw {n c : Nat} {B : HS} {fv0 : Fn} {us ws : List HV} {es : List BK.En} {K : Nat → Prop} (hT : Tells (disp 2000 (n + 2)) (.fn fv0 us ws) (es.map BK.enRow) K B) (hc : B.heap c = .cells 1 [[.fn fv0 us ws]] true) (hK : K c) :
  Tells (disp 2000 (n + 3)) (.fn (.func 61) [] [.ptr (some (HA.cell0 c))]) (es.map fun e => [HV.ptr e.2]) K B := by
 intro H l I Stop ht O S hI hB
 have hcS : S.heap c = .cells 1 [[.fn fv0 us ws]] true := (hB c hK).1.trans hc
 have hcn := (hB c hK).2.2
 have f1 : Fr S.next S (S.new (.cells 1 [[.fn (.yield l) [] []]] true)) := Fr.new (Yaa _) _
 have c1 : (S.new (.cells 1 [[.fn (.yield l) [] []]] true)).heap S.next = .cells 1 [[.fn (.yield l) [] []]] true := Zxx _ _
 have n1 : (S.new (.cells 1 [[.fn (.yield l) [] []]] true)).next = S.next + 1 := rfl
 have hOl : ∀ id,O id → id < S.next := ht.lt 0 O S hI
 have e' : ∃ S' O',Zabu (disp 2000 (n + 2)) H 2000 ([] ++ [HV.fn (.yield l) [] []] ++ [.ptr (some (HA.cell0 c))]) S = some (.tup [],S') ∧ S.next ≤ S'.next ∧ (∀ id,id < S.next → ¬ O id → S'.heap id = S.heap id) ∧ (∀ id,O' id → O id ∨ S.next ≤ id) ∧ (I (es.map fun e => [HV.ptr e.2]).length O' S' ∨ Stop O' S') := by
  rw [Zabu]
  simp only [Yay,List.cons_append,Zaae,obs,dF,dP]
  rw [Y65.f]
  simp only [dF,obs,letv]
  generalize S.new (.cells 1 [[.fn (.yield l) [] []]] true) = S1 at f1 c1 n1 ⊢
  rw [Zag0 ((f1.eq c hcn).trans hcS),obs]
  have hB1 : ∀ id,K id → S1.heap id = B.heap id := fun id g => (f1.eq id (hB id g).2.2).trans (hB id g).1
  have hT1 : Tells (disp 2000 (n + 2)) (.fn fv0 us ws) (es.map BK.enRow) K S1 := fun H' l' I' Stop' ht' O' S' hI' hB' => hT H' l' I' Stop' ht' O' S' hI' (fun id g => ⟨(hB' id g).1.trans (hB1 id g),(hB' id g).2⟩)
  have hI1 : I 0 O S1 := ht.keep 0 O S S1 hI (fun id ho => f1.eq id (hOl id ho)) f1.le
  obtain ⟨T2,st,S',O',e2,e3,de,n5,ch,lt,hn,hs⟩ := Zaag (D := disp 2000 (n + 2)) (H := H) (fv := .fn fv0 us ws) (S := S1) (hd := fun vs T =>
    Option.bind (HS.lp T (S1.next + 1)) fun u14 => Option.bind (Zaae vs) fun ar11 => Option.bind (dS ar11.1) fun p12 => Option.bind (dP ar11.2) fun p13 => Y65.J0 (disp 2000 (n + 2)) H (S1.next + 1) (some (HA.cell0 S.next)) p13 T)
   (bd := fun i U => if h : i < es.length then Option.bind (HS.ldF U (HA.cell0 S.next)) fun p7 => Option.bind (disp 2000 (n + 2) H p7 [(.ptr es[i].2)] U) fun p8 => Option.bind (dB p8.1) fun p9 => if (!p9) = true then HS.endr p8.2 (S1.next + 1) (some .ret) else HS.endr p8.2 (S1.next + 1) none else none)
   hT1 (fun id g => by have := (hB id g).2.2; omega)
   (fun i OO U => U.heap S.next = .cells 1 [[.fn (.yield l) [] []]] true ∧ S.next < U.next ∧ ∃ O1 : Nat → Prop,(∀ id,OO id ↔ (id = S.next ∨ O1 id)) ∧ (∀ id,O1 id → id ≠ S.next) ∧ I i O1 U)
   (fun cd OO U => cd = .ret ∧ ∃ O1 : Nat → Prop,(∀ id,O1 id → OO id) ∧ Stop O1 U)
   (fun i OO U U' ⟨g1,g2,O1,g3,g4,g5⟩ hk hn => ⟨(hk _ ((g3 _).2 (.inl rfl))).trans g1,by omega,O1,g3,g4,ht.keep i O1 U U' g5 (fun id ho => hk id ((g3 id).2 (.inr ho))) hn⟩)
   (fun cd OO U U' ⟨g1,O1,g3,g5⟩ hk hn => ⟨g1,O1,g3,ht.keepS O1 U U' g5 (fun id ho => hk id (g3 id ho)) hn⟩)
   (fun id => id = S.next ∨ O id) (fun id g => by
    rcases g with rfl | g
    ·omega
    ·have := hOl id g; omega) ⟨c1,by omega,O,fun _ => Iff.rfl,fun id g e => by have := hOl id g; omega,hI1⟩ (fun id g hk => by
    rcases g with rfl | g
    ·have := (hB _ hk).2.2; omega
    ·exact (hB id hk).2.1 g)
   (fun i hi U hU => by
    have hi' : i < es.length := by simpa using hi
    rw [lp_at hU,obs,Yaj,show Zaae (BK.enRow es[i]) = some (.str es[i].1,.ptr es[i].2) from rfl,obs,show dS (HV.str es[i].1) = some es[i].1 from rfl,obs,show dP (HV.ptr es[i].2) = some es[i].2 from rfl,obs,Y65.J0,Zab6 hU,obs,obs,dif_pos hi'])
   (fun i hi OO U ⟨g1,g2,O1,g3,g4,g5⟩ hnu hl hno hlt => by
    have hi' : i < es.length := by simpa using hi
    obtain ⟨b,U2,O2,e4,n2,k2,o2,q1,q2⟩ := ht.step i (by simpa using hi') O1 U g5
    have he : disp 2000 (n + 2) H (.fn (.yield l) [] []) [.ptr es[i].2] U = some (.bool b,U2) := by
     rw [Zaa0,← e4,Yaj]
    rw [dif_pos hi',Zag0 g1,obs,he,obs]
    simp only [dB,obs]
    have hU2 : U2.heap S.next = .cells 1 [[.fn (.yield l) [] []]] true := (k2 _ g2 (fun g => g4 _ g rfl)).trans g1
    have ho2 : ∀ id,O2 id → id ≠ S.next := fun id g e => by
     rcases o2 id g with k | k
     ·exact g4 id k e
     ·omega
    have hch : Chg OO (fun id => id = S.next ∨ O2 id) U U2 := ⟨n2,fun id a1 a2 => k2 id a1 (fun g => a2 ((g3 id).2 (.inr g))),fun id g => by
     rcases g with g | g
     ·exact .inl ((g3 id).2 (.inl g))
     ·exact (o2 id g).imp (fun k => (g3 id).2 (.inr k)) (fun k => k)⟩
    cases b with
    | true =>
     refine ⟨U2,fun id => id = S.next ∨ O2 id,none,by rw [if_neg (by simp)],hch,fun id g => ?_,fun _ => ⟨hU2,by omega,O2,fun _ => Iff.rfl,ho2,q1 rfl⟩,fun cd h => by cases h⟩
     rcases g with rfl | g
     ·omega
     ·exact ht.lt _ _ _ (q1 rfl) id g
    | false =>
     refine ⟨U2,fun id => id = S.next ∨ O2 id,some .ret,by rw [if_pos (by simp)],hch,fun id g => ?_,fun h => (by cases h),fun cd h => by cases h; exact ⟨rfl,O2,fun id g => .inr g,q2 rfl⟩⟩
     rcases g with rfl | g
     ·omega
     ·exact ht.ltS _ _ (q2 rfl) id g)
  erw [e2]
  rw [obs]
  simp only [e3,obs]
  have hle := ch.le
  have hfin : ∀ O1 : Nat → Prop,(∀ id,O1 id → O' id) → (∀ id,O1 id → id ≠ S.next) → ∀ id,O1 id → O id ∨ S.next ≤ id := fun O1 h1 h2 id g => by
   rcases ch.own id (h1 id g) with (k | k) | k
   ·exact absurd k (h2 id g)
   ·exact .inl k
   ·exact .inr (by omega)
  have heq : ∀ id,id < S.next → ¬ O id → (S'.put S1.next HObj.dead).heap id = S.heap id := fun id g1 g2 => by
   rw [Zxe _ (by omega),ch.eq id (by omega) (fun g => by
    rcases g with g | g
    ·omega
    ·exact g2 g),f1.eq id g1]
  cases hst : st with
  | none =>
   obtain ⟨g1,g2,O1,g3,g4,g5⟩ := hn hst
   simp only [pcode,obs,if_true,HS.leave,de]
   refine ⟨_,O1,rfl,by rw [Zxw]; omega,heq,hfin O1 (fun id g => (g3 id).2 (.inr g)) g4,.inl ?_⟩
   have : (es.map fun e => [HV.ptr e.2]).length = (es.map BK.enRow).length := by simp
   rw [this]
   exact ht.keep _ O1 S' _ g5 (fun id g => Zxe _ (lt id ((g3 id).2 (.inr g))).1) (Yaa _)
  | some cd =>
   obtain ⟨g1,O1,g3,g5⟩ := hs cd hst
   subst g1
   simp only [pcode,obs,HS.leave,de]
   refine ⟨_,O1,rfl,by rw [Zxw]; omega,heq,fun id g => ?_,.inr (ht.keepS O1 S' _ g5 (fun id g => Zxe _ (lt id (g3 id g)).1) (Yaa _))⟩
   rcases ch.own id (g3 id g) with (k | k) | k
   ·exact .inr (by omega)
   ·exact .inl k
   ·exact .inr (by omega)
 obtain ⟨S',O',e,h1,h2,h3,h4⟩ := e'
 refine ⟨S',O',?_,h1,h2,h3,h4⟩
 rw [Zz8]
 repeat rw [if_neg (by decide)]
 rw [if_pos rfl,e]
theorem Tells.move {D : Dp} {fv : HV} {vs : List (List HV)} {K : Nat → Prop} {B B' : HS} (h : Tells D fv vs K B) (hk : ∀ id,K id → B'.heap id = B.heap id) : Tells D fv vs K B' :=
 fun H l I Stop ht O S hI hB => h H l I Stop ht O S hI fun id g => ⟨(hB id g).1.trans (hk id g),(hB id g).2⟩
theorem clamp {m : Int} (h0 : 0 ≤ m) (h1 : m ≤ 1000) : mx 0 (mn m 1000) = m := by
 unfold mx mn
 split <;> split at * <;> omega
theorem Zajf {mR mJ mB : Int} (r0 : 0 ≤ mR) (r1 : mR ≤ 1000) (j0 : 0 ≤ mJ) (j1 : mJ ≤ 1000) (S : HS) : ∃ x t S',Y30.f [] [] [] [] 0 0 mJ mR mB 0 0 0 0 0 0 S = some (some (HA.cell0 x.w),S') ∧ RsI x t S' ∧ x.mR = mR ∧ x.mJ = mJ ∧ t.n = 0 ∧ t.R = [] ∧ t.L = [] ∧ Fr S.next S S' ∧ ∀ y,OA x t y → S.next ≤ y := by
 rw [Y30.f,letv]
 have f0 : Fr S.next S (S.new (.cells 15 [[.str [],.str [],.str [],.str [],.int .i64 0,.int .i64 0,.int .i64 mJ,.int .i64 mR,.int .i64 mB,.int .i64 0,.int .i64 0,.int .i64 0,.int .i64 0,.int .i64 0,.int .i64 0]] true)) := Fr.new (Yaa _) _
 have c0 : (S.new (.cells 15 [[.str [],.str [],.str [],.str [],.int .i64 0,.int .i64 0,.int .i64 mJ,.int .i64 mR,.int .i64 mB,.int .i64 0,.int .i64 0,.int .i64 0,.int .i64 0,.int .i64 0,.int .i64 0]] true)).heap S.next = _ := Zxx _ _
 have n0 : (S.new (.cells 15 [[.str [],.str [],.str [],.str [],.int .i64 0,.int .i64 0,.int .i64 mJ,.int .i64 mR,.int .i64 mB,.int .i64 0,.int .i64 0,.int .i64 0,.int .i64 0,.int .i64 0,.int .i64 0]] true)).next = S.next + 1 := rfl
 generalize S.new (.cells 15 [[.str [],.str [],.str [],.str [],.int .i64 0,.int .i64 0,.int .i64 mJ,.int .i64 mR,.int .i64 mB,.int .i64 0,.int .i64 0,.int .i64 0,.int .i64 0,.int .i64 0,.int .i64 0]] true) = S0 at f0 c0 n0 ⊢
 rw [Zyb (Zxu c0) rfl rfl,obs,clamp r0 r1,Y75.f,if_neg (by omega),Y75.J0,if_neg (by simp; omega),letv,obs]
 simp only
 have f1 : Fr S0.next S0 (S0.new (.cells 2 [[.int .i64 mR,Sl.nil.hv]] true)) := Fr.new (Yaa _) _
 have c1 : (S0.new (.cells 2 [[.int .i64 mR,Sl.nil.hv]] true)).heap S0.next = .cells 2 [[.int .i64 mR,Sl.nil.hv]] true := Zxx _ _
 have n1 : (S0.new (.cells 2 [[.int .i64 mR,Sl.nil.hv]] true)).next = S0.next + 1 := rfl
 generalize S0.new (.cells 2 [[.int .i64 mR,Sl.nil.hv]] true) = S1 at f1 c1 n1 ⊢
 have c01 := (f1.eq S.next (by omega)).trans c0
 rw [Zyb (Zxu c01) rfl rfl,obs,clamp j0 j1]
 obtain ⟨S2,e2,hr,f2,n2,o2⟩ := new_rel (most := mJ) j0 (by omega) S1
 rw [e2,obs]
 simp only
 have c02 := (f2.eq S.next (by omega)).trans c01
 have c12 := (f2.eq S0.next (by omega)).trans c1
 rw [Zzs (Zxu c02) rfl rfl,obs,Zzs (Zxu c02) rfl rfl,obs,Zzs (Zxu c02) rfl rfl,obs,Zzs (Zxu c02) rfl rfl,obs,Zyb (Zxu c02) rfl rfl,obs,Zyb (Zxu c02) rfl rfl,obs,Zyb (Zxu c02) rfl rfl,obs,Zyb (Zxu c02) rfl rfl,obs,Zyb (Zxu c02) rfl rfl,obs,Zyb (Zxu c02) rfl rfl,obs,Zyb (Zxu c02) rfl rfl,obs,Zyb (Zxu c02) rfl rfl,obs,Zyb (Zxu c02) rfl rfl,obs,Zyb (Zxu c02) rfl rfl,obs,Zyb (Zxu c02) rfl rfl,obs,letv]
 have f3 : Fr S2.next S2 (S2.new (.cells 17 [(⟨S2.next,S0.next,S1.next + 2,S1.next,S1.next + 1,mR,mJ,mB⟩ : W).row] true)) := Fr.new (Yaa _) _
 have hOR : ∀ y,OR (S1.next + 2) S1.next (S1.next + 1) [] [] y → S1.next ≤ y ∧ y < S2.next := fun y g => ⟨o2 y g,hr.ltO g⟩
 have hOwn : ∀ y,Own S0.next Sl.nil y → y = S0.next := fun y g => by
  rcases g with g | ⟨q,hq,_⟩
  ·exact g
  ·cases hq
 refine ⟨⟨S2.next,S0.next,S1.next + 2,S1.next,S1.next + 1,mR,mJ,mB⟩,⟨Sl.nil,0,[],[],[],[]⟩,_,rfl,{ cell := Zxx _ _,hi := Yaw _,book := ⟨(f3.eq S0.next (by omega)).trans c12,.inl ⟨rfl,rfl,rfl⟩,fun q hq => (by cases hq),?_,List.Pairwise.nil,fun e he => (by cases he),by simp⟩,rel := hr.fr f3,rooms := fun e he => (by cases he),dwb := fun g => ?_,dwr := fun g => ?_,dbr := fun y g g' => ?_,pw := List.Pairwise.nil,dR := fun e he => (by cases he),link := fun a b => ⟨fun g => (by cases g),fun ⟨e,he,_⟩ => (by cases he)⟩,ne := fun e he => (by cases he),cm := fun e he => (by cases he),cR := Yaa _,mR0 := r0,mR1 := r1,mJ0 := j0,mJ1 := j1,cntR := r0,cntJ := fun a xs hs hm => ?_ },rfl,rfl,rfl,rfl,rfl,(f0.trans ((f1.mono f0.le).trans ((f2.mono (by omega)).trans (f3.mono (by omega))))),fun y g => ?_⟩
 ·show S0.next < S2.next + 1; omega
 ·have := hOwn _ g; simp only at this; omega
 ·have := (hOR _ g).2; simp only at this; omega
 ·have h1 := hOwn y g; have h2 := (hOR y g').1; omega
 ·have : xs = [] := by
   cases xs with
   | nil => rfl
   | cons v xs => have := (hm v).1 (by simp); cases this
  rw [this]; exact j0
 ·rcases g with (rfl | g | g) | ⟨e,he,_⟩
  ·show S.next ≤ S2.next; omega
  ·have := hOwn y g; omega
  ·have := (hOR y g).1; omega
  ·cases he
theorem Zagz {S : HS} {s : Sl} {xs : List Ac} (h : S.rows s 3 = some (xs.map Zadh)) {i : Nat} (hi : i < xs.length) : ∃ ad,S.idx s (i : Int) 3 = some ad ∧ S.ldI .i64 (HA.fld ad 0) = some xs[i].1 ∧ S.ldI .i64 (HA.fld ad 1) = some xs[i].2.1 ∧ S.ldS (HA.fld ad 2) = some xs[i].2.2 := by
 obtain ⟨ad,h1,h2,h3⟩ := Zab7 h (i := i) (by simpa using hi)
 rw [Yaj] at h3
 exact ⟨ad,h1,Zyb h3 h2 rfl,Zyb h3 h2 rfl,Zzs h3 h2 rfl⟩
theorem Zahu {S : HS} {s : Sl} {ls : List Ac} (hr : S.rows s 3 = some (ls.map Zadh)) : ∃ b,Y51.f 2000 s S = some (b,S) ∧ (b = false → ls.length ≤ 40 ∧ ∀ a ∈ ls,a.2.2.length ≤ 60) := by
 have hsl : (s.len : Int) = ls.length := by rw [← Zx7 hr]; simp
 rw [Y51.f,hsl]
 by_cases h40 : 40 < ls.length
 ·rw [if_pos (by omega)]; exact ⟨true,rfl,fun h => by cases h⟩
 rw [if_neg (by omega)]
 have hloop : ∀ f i,ls.length - i < f → i ≤ ls.length → (∀ a ∈ ls.take i,a.2.2.length ≤ 60) → ∃ b,Y51.L0 2000 f s (i : Int) S = some (b,S) ∧ (b = false → ls.length ≤ 40 ∧ ∀ a ∈ ls,a.2.2.length ≤ 60) := by
  intro f
  induction f with
  | zero => intro i h; omega
  | succ f ih =>
   intro i hf hi hall
   rw [Y51.L0,hsl]
   by_cases hlt : i < ls.length
   ·obtain ⟨ad,a1,a2,a3,a4⟩ := Zagz hr hlt
    rw [if_pos (by omega),a1,obs,a4,obs]
    by_cases hl : 60 < ls[i].2.2.length
    ·rw [if_pos (by omega)]; exact ⟨true,rfl,fun h => by cases h⟩
    ·rw [if_neg (by omega),Zx6 (by omega) (by omega),show ((i : Int) + 1) = ((i + 1 : Nat) : Int) by simp]
     refine ih (i + 1) (by omega) (by omega) fun a ha => ?_
     rw [Yaf hlt] at ha
     rcases Yab.1 ha with h | h
     ·exact hall a h
     ·simp at h; subst h; omega
   ·obtain rfl : i = ls.length := by omega
    rw [Yao] at hall
    rw [if_neg (by omega)]
    exact ⟨false,rfl,fun _ => ⟨by omega,hall⟩⟩
 exact hloop 2000 0 (by omega) (Yak _) (by simp)
theorem Zai9 : ∀ {rows : List (List HV)},(∀ row ∈ rows,RowFits [.int .i64,.int .i64,.str] row) → ∃ ls : List Ac,rows = ls.map Zadh := by
 intro rows
 induction rows with
 | nil => intro _; exact ⟨[],rfl⟩
 | cons r rows ih =>
  intro h
  obtain ⟨ls,e⟩ := ih fun row hr => h row (by simp [hr])
  have h0 := h r (by simp)
  have hl := h0.len
  obtain ⟨v0,v1,v2,rfl⟩ : ∃ v0 v1 v2,r = [v0,v1,v2] := by
   match r,hl with
   | [a,b,c],_ => exact ⟨a,b,c,rfl⟩
  obtain ⟨q0,q1,q2,_⟩ := h0
  obtain ⟨n,h1,_⟩ := q0
  obtain ⟨m,h2,_⟩ := q1
  obtain ⟨s,h3,_⟩ := q2
  exact ⟨(n,m,s) :: ls,by rw [e,h1,h2,h3]; rfl⟩
theorem Zaja {x : W} {t : T} {S : HS} {n : Nat} (h : RsI x t S) : ∃ c S' K,Y81.f (some (HA.cell0 x.w)) S = some (.fn (.func 61) [] [.ptr (some (HA.cell0 c))],S') ∧ Tells (disp 2000 (n + 3)) (.fn (.func 61) [] [.ptr (some (HA.cell0 c))]) (t.R.map fun e => [HV.ptr (some (HA.cell0 e.p))]) K S' ∧ (∀ y,K y → S.next ≤ y ∧ y < S'.next) ∧ Fr S.next S S' := by
 obtain ⟨c,s',S1,e1,g1,g2,g3,g4,g5,f1⟩ := BK.all_spec h.book
 have hcnt := h.book.cnt
 rw [Y81.f,if_neg (by simp),obs,h.ldb,obs,e1,obs,letv]
 simp only [show dF (HV.fn (.func 119) [] [.ptr (some (HA.cell0 c))]) = some (.fn (.func 119) [] [.ptr (some (HA.cell0 c))]) from rfl,obs]
 rw [Zze _ (Zxx _ _),obs]
 have f2 : Fr S1.next S1 ((S1.new (.cells 1 [[.nilFn]] true)).put S1.next (.cells 1 [[.fn (.func 119) [] [.ptr (some (HA.cell0 c))]]] true)) := (Fr.new (Yaa _) _).trans (Fr.put (Yaa _) _)
 have c2 : ((S1.new (.cells 1 [[.nilFn]] true)).put S1.next (.cells 1 [[.fn (.func 119) [] [.ptr (some (HA.cell0 c))]]] true)).heap S1.next = .cells 1 [[.fn (.func 119) [] [.ptr (some (HA.cell0 c))]]] true := Zxv _ _ _
 have n2 : ((S1.new (.cells 1 [[.nilFn]] true)).put S1.next (.cells 1 [[.fn (.func 119) [] [.ptr (some (HA.cell0 c))]]] true)).next = S1.next + 1 := rfl
 generalize (S1.new (.cells 1 [[.nilFn]] true)).put S1.next (.cells 1 [[.fn (.func 119) [] [.ptr (some (HA.cell0 c))]]] true) = S2 at f2 c2 n2 ⊢
 have l1 := f1.le
 have hrd : Rd S1.next S1 2 s' ((t.R.map ent).map BK.enRow) := ⟨g4,fun q hq => (g5 q hq).2⟩
 have hT := Zahv (k := 2000) (n := n) (B := S2) (c := c) (s := s') (xs := t.R.map ent) (by simp at hcnt ⊢; omega) (by simp at hcnt ⊢; omega) ((f2.eq _ g2).trans g3) (hrd.frame f2 (Yaa _)).rows (fun y => y = S1.next ∨ y = c ∨ ∃ q,s'.a = some q ∧ q.1 = y) ⟨.inr (.inl rfl),fun q hq => .inr (.inr ⟨q,hq,rfl⟩)⟩
 have hA := Zahw (n := n) hT c2 (.inl rfl)
 rw [Ybd] at hA
 refine ⟨S1.next,S2,_,rfl,hA,fun y g => ?_,f1.trans (f2.mono l1)⟩
 rcases g with rfl | rfl | ⟨q,hq,rfl⟩
 ·omega
 ·omega
 ·have := g5 q hq; omega
theorem Zaf5 {x : W} {t : T} {S : HS} (h : RsI x t S) (a : Int) {xs : List KS.Ky} (hs : KS.Srt xs) (hm : ∀ v,v ∈ xs ↔ (a,v) ∈ t.L) : Y69.f (some (HA.cell0 x.w)) a S = some ((xs.length : Int),S) := by
 rw [Y69.f,if_neg (by simp),obs,h.ldr,obs,Zaff h.rel a hs hm,obs]
inductive Chain (x : W) (id : Int) : List (List UInt8) → T → T → Prop
 | nil (t : T) : Chain x id [] t t
 | cons {k ks t t1 t2} {S : HS} (h0 : RsI x t S) (h1 : PRes t id k t1.R t1.L) (h2 : (id,k) ∈ t.L) (h : Chain x id ks t1 t2) : Chain x id (k :: ks) t t2
theorem Chain.snoc {x : W} {id : Int} {ks : List (List UInt8)} {t t1 t2 : T} (h : Chain x id ks t t1) {k : List UInt8} {S : HS} (h0 : RsI x t1 S) (h1 : PRes t1 id k t2.R t2.L) (h2 : (id,k) ∈ t1.L) : Chain x id (ks ++ [k]) t t2 := by
 induction h with
 | nil t => exact .cons h0 h1 h2 (.nil _)
 | cons g0 g1 g2 g ih => exact .cons g0 g1 g2 (ih h0 h1 h2)
theorem PRes.memL {t : T} {id : Int} {key : List UInt8} {R' : List Rm} {L' : List Pr} (h : PRes t id key R' L') : L' = wo (id,key) t.L := by
 cases h with
 | none h => exact (wo_no h).symm
 | stay _ _ _ _ _ _ _ => rfl
 | gone _ _ _ _ => rfl
theorem PRes.ofKey {t : T} {id : Int} {key : List UInt8} {R' : List Rm} {L' : List Pr} (h : PRes t id key R' L') {v : List UInt8} (hv : v ≠ key) : ofKey R' v = ofKey t.R v := by
 cases h with
 | none h => rfl
 | @stay A B e e' hR hk hin hp hn hms hne =>
  have h1 : ¬ e.key = v := fun g => hv (by rw [← g,hk])
  have h2 : ¬ e'.key = v := fun g => h1 (by rw [← g,Rm.key,Rm.key,hn])
  unfold Go.Proofs.YtbmfomkfmpppiaaGreat.X.ofKey
  rw [hR,List.find?_append,List.find?_append,List.find?_cons_of_neg (by simpa using h2),List.find?_cons_of_neg (by simpa using h1)]
 | @gone A B e hR hk hin hms =>
  have h1 : ¬ e.key = v := fun g => hv (by rw [← g,hk])
  unfold Go.Proofs.YtbmfomkfmpppiaaGreat.X.ofKey
  rw [hR,List.find?_append,List.find?_append,List.find?_cons_of_neg (by simpa using h1)]
theorem putB {U : HS} {l : Nat} {o o' : HObj} (h : U.heap l = o') : (U.put l o).put l o' = U := by
 unfold HS.put
 simp only
 congr 1
 funext y
 by_cases hy : y = l
 ·subst hy; simp [h]
 ·simp [hy]
def Ol (b : Nat) (y : Nat) : Prop := b ≤ y ∧ y < b + 3
structure Gl (b w : Nat) (id : Int) (i : Nat) (U : HS) : Prop where
 c0 : U.heap b = .cells 1 [[.ptr (some (HA.cell0 w))]] true
 c1 : U.heap (b + 1) = .cells 1 [[.int .i64 id]] true
 c2 : U.heap (b + 2) = .cells 1 [[.int .i64 i]] true
 nx : b + 3 ≤ U.next
theorem Gl.keep {b w : Nat} {id : Int} {i : Nat} {U U' : HS} (h : Gl b w id i U) (hk : ∀ y,Ol b y → U'.heap y = U.heap y) (hn : U.next ≤ U'.next) : Gl b w id i U' :=
 ⟨(hk _ ⟨by omega,by omega⟩).trans h.c0,(hk _ ⟨by omega,by omega⟩).trans h.c1,(hk _ ⟨by omega,by omega⟩).trans h.c2,Ya2 h.nx hn⟩
structure Lft (x : W) (t : T) (id : Int) (xs : List (List UInt8)) (i : Nat) (u : T) : Prop where
 ch : Chain x id (xs.take i) t u
 n : u.n = t.n
 own : ∀ v,(id,v) ∈ u.L ↔ v ∈ xs.drop i
 oth : ∀ a v,a ≠ id → ((a,v) ∈ u.L ↔ (a,v) ∈ t.L)
 key : ∀ v ∈ xs.drop i,ofKey u.R v = ofKey t.R v
theorem Zah1 {x : W} {t : T} {S : HS} {n : Nat} {H : Hd} (h : RsI x t S) (hn : t.n ≤ 200) (id : Int) {xs : List KS.Ky} (hs : KS.Srt xs) (hm : ∀ v,v ∈ xs ↔ (id,v) ∈ t.L) :
  ∃ u S',Y39.f (disp 2000 (n + 2)) H 2000 (some (HA.cell0 x.w)) id S = some ((xs.length : Int),S') ∧ RsI x u S' ∧ Chg (OA x t) (OA x u) S S' ∧ Lft x t id xs xs.length u := by
 have hxl : xs.length ≤ 900 := by
  obtain ⟨ys,h1,h2,h3,_⟩ := h.rel.at1 id
  have : ys = xs := KS.srt_ext h1 hs fun v => by rw [h2,hm]
  subst this
  omega
 have hnd : xs.Nodup := by
  have hs' : xs.Pairwise fun a b => KS.klt a b = true := hs
  exact hs'.imp fun {a b} g e => by subst e; simp [KS.klt,Zahx] at g
 have hOS : ∀ y,OA x t y → y < S.next := fun y ho => h.ltO ho
 rw [Y39.f,letv,letv,letv]
 simp only [Zx2]
 have f3 : Fr S.next S (((S.new (.cells 1 [[.ptr (some (HA.cell0 x.w))]] true)).new (.cells 1 [[.int .i64 id]] true)).new (.cells 1 [[.int .i64 0]] true)) := (Fr.new (Yaa _) _).trans ((Fr.new (by simp only [Zx2]; omega) _).trans (Fr.new (by simp only [Zx2]; omega) _))
 have g0 : Gl S.next x.w id 0 (((S.new (.cells 1 [[.ptr (some (HA.cell0 x.w))]] true)).new (.cells 1 [[.int .i64 id]] true)).new (.cells 1 [[.int .i64 0]] true)) := by
  refine ⟨?_,?_,?_,Yaa _⟩
  ·rw [Zyy _ (by simp only [Zx2]; omega),Zyy _ (by simp only [Zx2]; omega)]; exact Zxx _ _
  ·rw [Zyy _ (by simp only [Zx2]; omega)]; exact Zxx (S.new _) _
  ·exact Zxx ((S.new _).new _) _
 have n3 : (((S.new (.cells 1 [[.ptr (some (HA.cell0 x.w))]] true)).new (.cells 1 [[.int .i64 id]] true)).new (.cells 1 [[.int .i64 0]] true)).next = S.next + 3 := rfl
 generalize ((S.new (.cells 1 [[.ptr (some (HA.cell0 x.w))]] true)).new (.cells 1 [[.int .i64 id]] true)).new (.cells 1 [[.int .i64 0]] true) = S1 at f3 g0 n3 ⊢
 rw [show S.next + 1 + 1 = S.next + 2 from rfl,Zze _ g0.c2,obs]
 have f4 : Fr S.next S (S1.put (S.next + 2) (.cells 1 [[.int .i64 0]] true)) := f3.trans (Fr.put (by omega) _)
 have g1 : Gl S.next x.w id 0 (S1.put (S.next + 2) (.cells 1 [[.int .i64 0]] true)) := ⟨(Zxe _ (by omega)).trans g0.c0,(Zxe _ (by omega)).trans g0.c1,Zxv _ _ _,g0.nx⟩
 have n4 : (S1.put (S.next + 2) (.cells 1 [[.int .i64 0]] true)).next = S.next + 3 := n3
 generalize S1.put (S.next + 2) (.cells 1 [[.int .i64 0]] true) = S2 at f4 g1 n4 ⊢
 have h2 := h.fr f4
 rw [Zabf g1.c0,obs,Zza g1.c1,obs]
 obtain ⟨c,so,S3,e3,k1,k2,k3,k4,f5⟩ := of_spec (nD := n) (H := H) h2 hn id hs hm
 have l5 := f5.le
 have h3 := h2.fr f5
 have g3 : Gl S.next x.w id 0 S3 := g1.keep (fun y ho => f5.eq y (by have := ho.2; omega)) l5
 have hT := PK.of_tells (k := 2000) (n := n) (xs := xs.map (ofKey t.R)) (by simp; omega) (by simp; omega) k1 k2 (fun y => y = c ∨ ∃ q,so.a = some q ∧ q.1 = y) ⟨.inl rfl,fun q hq => .inr ⟨q,hq,rfl⟩⟩
 have hK : ∀ y,(y = c ∨ ∃ q,so.a = some q ∧ q.1 = y) → S2.next ≤ y ∧ y < S3.next := fun y g => by
  rcases g with rfl | ⟨q,hq,rfl⟩
  ·exact k3
  ·exact k4 q hq
 rw [e3,obs]
 have hlen : ((xs.map (ofKey t.R)).map PK.row1).length = xs.length := by simp
 obtain ⟨T2,st,D,O',e5,e6,de,n6,ch,lt,hnn,hq⟩ := Zaag (D := disp 2000 (n + 2)) (H := H) (fv := .fn (.func 63) [] [.ptr (some (HA.cell0 c))]) (S := S3) (hd := fun vs T =>
   Option.bind (HS.lp T (S3.next + 1)) fun _ => Option.bind (Zaad vs) fun ar => Option.bind (dP ar) fun p => Y39.J0 (disp 2000 (n + 2)) H 2000 (S3.next + 1) (some (HA.cell0 S.next)) (some (HA.cell0 (S.next + 1))) (some (HA.cell0 (S.next + 2))) p T)
  (bd := fun i U => if hi : i < xs.length then Y39.J0 (disp 2000 (n + 2)) H 2000 (S3.next + 1) (some (HA.cell0 S.next)) (some (HA.cell0 (S.next + 1))) (some (HA.cell0 (S.next + 2))) (ofKey t.R xs[i]) (U.put (S3.next + 1) (.loop .ready none)) else none)
  hT (fun y g => (hK y g).2) (fun i O U => ∃ u,Gl S.next x.w id i U ∧ RsI x u U ∧ Lft x t id xs i u ∧ (∀ y,OA x u y → y < S.next ∨ S.next + 3 ≤ y) ∧ ∀ y,O y ↔ (Ol S.next y ∨ OA x u y)) (fun _ _ _ => False)
  (fun i O U U' ⟨u,a1,a2,a3,a5,a4⟩ hk hn => ⟨u,a1.keep (fun y ho => hk y ((a4 y).2 (.inl ho))) hn,a2.keep (fun y ho => hk y ((a4 y).2 (.inr ho))) hn,a3,a5,a4⟩) (fun _ _ _ _ h => h.elim)
  (fun y => Ol S.next y ∨ OA x t y) (fun y ho => by
   rcases ho with ho | ho
   ·have := ho.2; omega
   ·have := hOS y ho; omega) ⟨t,g3,h3,⟨.nil t,rfl,fun v => by rw [List.drop_zero]; exact (hm v).symm,fun _ _ _ => Iff.rfl,fun _ _ => rfl⟩,fun y ho => .inl (hOS y ho),fun _ => Iff.rfl⟩ (fun y ho g => by
   have := hK y g
   rcases ho with ho | ho
   ·have := ho.2; omega
   ·have := hOS y ho; omega)
  (fun i hi U hU => by
   have hi' : i < xs.length := by simpa using hi
   rw [lp_at hU,obs,Yaj,Yaj,show Zaad (PK.row1 (ofKey t.R xs[i])) = some (.ptr (ofKey t.R xs[i])) from rfl,obs,show dP (HV.ptr (ofKey t.R xs[i])) = some (ofKey t.R xs[i]) from rfl,obs,dif_pos hi',putB hU])
  (fun i hi O1 U ⟨u,a1,a2,a3,a5,a4⟩ hnu hl hno hlt => by
   have hi' : i < xs.length := by simpa using hi
   have hdrop : xs.drop i = xs[i] :: xs.drop (i + 1) := Yal hi'
   have hmem : (id,xs[i]) ∈ u.L := (a3.own _).2 (by rw [hdrop]; exact Yba)
   obtain ⟨e,he,hk1,hk2⟩ := (a2.link _ _).1 hmem
   have hoe : ofKey t.R xs[i] = some (HA.cell0 e.p) := by rw [← a3.key _ (by rw [hdrop]; exact Yba),← hk1,Zaea a2 he]
   have hOu : ∀ y,OA x u y → y ≠ S3.next + 1 := fun y ho e => hno ((a4 _).2 (.inr (e ▸ ho)))
   have hb3 : S.next + 3 ≤ S3.next := by omega
   have hnm : e.name.length ≤ 1000 := a2.book.len (ent e) (Ya0.2 ⟨e,he,rfl⟩)
   rw [dif_pos hi',hoe,Y39.J0,Zab6 (Zxv _ _ _),obs,putB hl,obs,Zabf a1.c0,obs,obs,Zza a1.c1,obs,Zacx (a2.rooms _ he),obs]
   simp only
   rw [Zza a1.c1,obs,if_pos rfl,Zabf a1.c0,obs,if_pos rfl]
   obtain ⟨u',U2,e7,h7,n7,ch7,p7⟩ := Zafe (n := n + 1) (H := H) a2 id e.name hnm
   rw [e7,obs,obs]
   simp only
   have l7 := ch7.le
   have b1 : Gl S.next x.w id i U2 := a1.keep (fun y ho => ch7.eq y (by have := a1.nx; have := ho.2; omega) (fun g => by have := a5 y g; have := ho.1; have := ho.2; omega)) l7
   rw [Zza b1.c2,obs,obs,Zze _ b1.c2,obs,Zx6 (by omega) (by omega),show ((i : Int) + 1) = ((i + 1 : Nat) : Int) by simp]
   have hkey : e.name.map low = xs[i] := hk1
   rw [hkey] at p7
   have hL7 := p7.memL
   have hne : ∀ v ∈ xs.drop (i + 1),v ≠ xs[i] := fun v hv e => by
    have hnd' := hnd
    rw [← Yas i xs,hdrop,List.nodup_append] at hnd'
    have := (List.nodup_cons.1 hnd'.2.1).1
    exact this (e ▸ hv)
   have kP : ∀ y,y ≠ S.next + 2 → (U2.put (S.next + 2) (.cells 1 [[.int .i64 ((i + 1 : Nat) : Int)]] true)).heap y = U2.heap y := fun y hy => Zxe _ hy
   have hO7 : ∀ y,OA x u' y → y < S.next ∨ S.next + 3 ≤ y := fun y ho => (ch7.own y ho).elim (a5 y) (fun g => .inr (by omega))
   refine ⟨_,fun y => Ol S.next y ∨ OA x u' y,none,rfl,⟨by rw [Zxw]; exact l7,fun y r1 r2 => ?_,fun y ho => ?_⟩,fun y ho => ?_,fun _ => ⟨u',⟨?_,?_,Zxv _ _ _,b1.nx⟩,h7.keep (fun y ho => kP y (by have := hO7 y ho; omega)) (Yaa _),⟨?_,n7.trans a3.n,fun v => ?_,fun a v ha => ?_,fun v hv => ?_⟩,hO7,fun _ => Iff.rfl⟩,fun c h => by cases h⟩
   ·rw [kP y (fun e => r2 ((a4 y).2 (.inl ⟨by omega,by omega⟩)))]
    exact ch7.eq y r1 (fun g => r2 ((a4 y).2 (.inr g)))
   ·rcases ho with ho | ho
    ·exact .inl ((a4 y).2 (.inl ho))
    ·exact (ch7.own y ho).imp (fun g => (a4 y).2 (.inr g)) (fun g => g)
   ·rw [Zxw]
    rcases ho with ho | ho
    ·have := b1.nx; have := ho.2; omega
    ·exact h7.ltO ho
   ·rw [kP _ (by omega)]; exact b1.c0
   ·rw [kP _ (by omega)]; exact b1.c1
   ·rw [Yaf hi']; exact a3.ch.snoc a2 p7 hmem
   ·rw [hL7,Zadj,a3.own,hdrop]
    constructor
    ·rintro ⟨g1,g2⟩
     rcases Yac.1 g1 with rfl | g
     ·exact absurd rfl g2
     ·exact g
    ·intro g
     exact ⟨Ya9 _ g,fun e => hne v g (by simpa using e)⟩
   ·rw [hL7,Zadj,a3.oth a v ha]
    exact ⟨fun g => g.1,fun g => ⟨g,fun e => ha (by simpa using congrArg Prod.fst e)⟩⟩
   ·rw [p7.ofKey (hne v hv)]
    exact a3.key v (by rw [hdrop]; exact Ya9 _ hv))
 erw [e5]
 rw [obs]
 simp only [e6,obs]
 have hle := ch.le
 cases hst : st with
 | some cd => exact (hq cd hst).elim
 | none =>
  obtain ⟨u,a1,a2,a3,a5,a4⟩ := hnn hst
  rw [hlen] at a1 a3
  simp only [pcode,obs,if_true]
  rw [Zza a1.c2,obs]
  simp only [HS.leave,de,obs]
  have hOu : ∀ y,OA x u y → y ≠ S3.next := fun y ho => (lt y ((a4 y).2 (.inr ho))).1
  refine ⟨u,_,rfl,a2.keep (fun y ho => Zxe _ (hOu y ho)) (Yaa _),⟨by rw [Zxw]; omega,fun y r1 r2 => ?_,fun y ho => ?_⟩,a3⟩
  ·rw [Zxe _ (by omega),ch.eq y (by omega) (fun g => by
    rcases g with g | g
    ·have := g.1; omega
    ·exact r2 g),f5.eq y (by omega),f4.eq y r1]
  ·rcases ch.own y ((a4 y).2 (.inr ho)) with (g | g) | g
   ·have := a5 y ho; have := g.1; have := g.2; omega
   ·exact .inl g
   ·exact .inr (by omega)
theorem Zad3 {m z : Nat} {S : HS} {sl : Sl} {rows : List (List HV)} (row : List HV) (h : Vec m S z sl rows) (hm : m ≤ S.next) (hl : rows.length ≤ 100000) :
  ∃ sl' S',HS.rows (S.lit [row] z).2 (S.lit [row] z).1 z = some [row] ∧ HS.app (S.lit [row] z).2 sl [row] z = some (sl',S') ∧ Vec m S' z sl' (rows ++ [row]) ∧ Fr m S S' := by
 have fl : Fr S.next S (S.lit [row] z).2 := Zzd _ (Yaa _)
 have nl : (S.lit [row] z).2.next = S.next + 1 := rfl
 obtain ⟨s',S',e1,v1,f1⟩ := (h.frame fl (Yaa _)).app (new := [row]) (by omega) (by simp; omega)
 exact ⟨s',S',(Vec.lit (n := 0) (z := z) (S := S) _ (Yak _)).rows,e1,v1,(fl.mono hm).trans f1⟩
theorem Zae0 {k m : Nat} {x y : List UInt8} {S : HS} (hx : x.length ≤ 1000) (hy : y.length ≤ 1000) (hk : 2000 ≤ k) (hm : m ≤ S.next) : ∃ S',Y82.f k x y S = some (decide (x.map low = y.map low),S') ∧ Fr m S S' := by
 unfold Y82.f
 obtain ⟨S1,e1,f1⟩ := Zz2 (k := k) (m := m) (x := x) (S := S) (by omega) (by omega) (by omega) hm
 obtain ⟨S2,e2,f2⟩ := Zz2 (k := k) (m := m) (x := y) (S := S1) (by omega) (by omega) (by omega) (Ya2 hm f1.le)
 rw [e1,obs,e2,obs]
 exact ⟨S2,rfl,f1.trans f2⟩
structure Dr where
 p : Nat
 s : Sl
 name : List UInt8
 mb : Int
 ms : List MK.En
def Dr.ids (e : Dr) : List Int := e.ms.map (·.1)
def Dr.key (e : Dr) : List UInt8 := e.name.map low
def Dr.row (e : Dr) : List HV := [.str e.name,.int .i64 e.mb,e.s.hv,.str [],.str [110,116],.str [],.int .i64 0,Sl.nil.hv,Sl.nil.hv]
def OwnD (e : Dr) (id : Nat) : Prop := id = e.p ∨ ∃ q,e.s.a = some q ∧ q.1 = id
structure DI (e : Dr) (S : HS) : Prop where
 cell : S.heap e.p = .cells 9 [e.row] true
 rows : S.rows e.s 3 = some (e.ms.map MK.enRow)
 hi : e.p < S.next
 lo : ∀ q,e.s.a = some q → q.1 < S.next
 ne : ∀ q,e.s.a = some q → q.1 ≠ e.p
 cnt : e.ms.length ≤ 900
 nd : e.ids.Nodup
 nl : e.name.length ≤ 1000
section
variable {e : Dr} {S S' : HS}
theorem DI.lt (h : DI e S) {id : Nat} (ho : OwnD e id) : id < S.next := by
 rcases ho with rfl | ⟨q,hq,rfl⟩
 ·exact h.hi
 ·exact h.lo q hq
theorem DI.keep (h : DI e S) (hk : ∀ id,OwnD e id → S'.heap id = S.heap id) (hn : S.next ≤ S'.next) : DI e S' :=
 { h with
  cell := (hk _ (.inl rfl)).trans h.cell
  rows := Zyc h.rows fun q hq => hk _ (.inr ⟨q,hq,rfl⟩)
  hi := Yai h.hi hn
  lo := fun q hq => Yai (h.lo q hq) hn }
theorem DI.fr (h : DI e S) (hf : Fr S.next S S') : DI e S' := h.keep (fun id ho => hf.eq id (h.lt ho)) hf.le
theorem DI.slen (h : DI e S) : (e.s.len : Int) = e.ms.length := by rw [← Zx7 h.rows]; simp
theorem DI.ldS (h : DI e S) : S.ldSl (HA.fld (HA.cell0 e.p) 2) = some e.s := Zy4 (Zxu h.cell) rfl rfl
theorem DI.ldN (h : DI e S) : S.ldS (HA.fld (HA.cell0 e.p) 0) = some e.name := Zzs (Zxu h.cell) rfl rfl
theorem DI.ldG (h : DI e S) : S.ldSl (HA.fld (HA.cell0 e.p) 8) = some Sl.nil := Zy4 (Zxu h.cell) rfl rfl
theorem Zagw (h : DI e S) (id : Int) : ∃ r : Int,Y4.f 2000 (some (HA.cell0 e.p)) id S = some (r,S) ∧ ((r < 0 ∧ id ∉ e.ids) ∨ ∃ i,∃ hi : i < e.ms.length,r = (i : Int) ∧ (e.ms[i]'hi).1 = id) := by
 have hcnt := h.cnt
 have hloop : ∀ f i,e.ms.length - i < f → i ≤ e.ms.length → (∀ m ∈ e.ms.take i,m.1 ≠ id) → ∃ r : Int,Y4.L0 2000 f (some (HA.cell0 e.p)) id (i : Int) S = some (r,S) ∧ ((r < 0 ∧ id ∉ e.ids) ∨ ∃ i,∃ hi : i < e.ms.length,r = (i : Int) ∧ (e.ms[i]'hi).1 = id) := by
  intro f
  induction f with
  | zero => intro i h; omega
  | succ f ih =>
   intro i hf hi hno
   rw [Y4.L0,obs,h.ldS,obs,h.slen]
   by_cases hlt : i < e.ms.length
   ·obtain ⟨ad,a1,a2,a3,a4⟩ := MK.en_rows h.rows hlt
    rw [if_pos (by omega),obs,h.ldS,obs,a1,obs,a2,obs]
    by_cases he : e.ms[i].1 = id
    ·rw [if_pos he]; exact ⟨_,rfl,.inr ⟨i,hlt,rfl,he⟩⟩
    ·rw [if_neg he,Zx6 (by omega) (by omega),show ((i : Int) + 1) = ((i + 1 : Nat) : Int) by simp]
     refine ih (i + 1) (by omega) (by omega) fun m hm => ?_
     rw [Yaf hlt] at hm
     rcases Yab.1 hm with g | g
     ·exact hno m g
     ·simp at g; subst g; exact he
   ·obtain rfl : i = e.ms.length := by omega
    rw [Yao] at hno
    rw [if_neg (by omega)]
    refine ⟨-1,rfl,.inl ⟨by omega,fun hm => ?_⟩⟩
    obtain ⟨m,hm2,rfl⟩ := Ya0.1 hm
    exact hno m hm2 rfl
 exact hloop 2000 0 (by omega) (Yak _) (by simp)
theorem Zad4 (h : DI e S) (id : Int) : ∃ r : Int,Y4.f 2000 (some (HA.cell0 e.p)) id S = some (r,S) ∧ (r ≥ 0 ↔ id ∈ e.ids) := by
 obtain ⟨r,e1,g⟩ := Zagw h id
 refine ⟨r,e1,?_⟩
 rcases g with ⟨g1,g2⟩ | ⟨i,hi,rfl,g2⟩
 ·exact ⟨fun g => by omega,fun g => absurd g g2⟩
 ·exact ⟨fun _ => Ya0.2 ⟨_,Yae hi,g2⟩,fun _ => by omega⟩
theorem DI.put {S1 : HS} {s' : Sl} {ms' : List MK.En} (h : DI e S) (hf : Fr S.next S S1) (hr : S1.rows s' 3 = some (ms'.map MK.enRow)) (hq : ∀ q,s'.a = some q → S.next ≤ q.1 ∧ q.1 < S1.next) (hl : ms'.length ≤ 900) (hn : (ms'.map (·.1)).Nodup) :
  ∃ S2,S1.sets (HA.fld (HA.cell0 e.p) 2) [s'.hv] = some S2 ∧ DI { e with s := s',ms := ms' } S2 ∧ Chg (OwnD e) (OwnD { e with s := s',ms := ms' }) S S2 := by
 have hc : S1.heap e.p = .cells 9 [e.row] true := (hf.eq e.p h.hi).trans h.cell
 have hle := hf.le
 have hhi := h.hi
 refine ⟨S1.put e.p (.cells 9 [({ e with s := s',ms := ms' } : Dr).row] true),(Zyv hc rfl (by simp [Dr.row])).trans rfl,⟨Zxv _ _ _,Zyc hr fun q hq' => Zxe _ (by have := hq q hq'; omega),by rw [Zxw]; show e.p < S1.next; omega,fun q hq' => (hq q hq').2,fun q hq' => by have := hq q hq'; show q.1 ≠ e.p; omega,hl,hn,h.nl⟩,⟨by rw [Zxw]; exact hle,fun id h1 h2 => ?_,fun id ho => ?_⟩⟩
 ·rw [Zxe _ (fun e => h2 (.inl e))]; exact hf.eq id h1
 ·rcases ho with g | ⟨q,g,rfl⟩
  ·exact .inl (.inl g)
  ·exact .inr (hq q g).1
theorem Zaf0 (id : Int) (S : HS) : Y64.f 2000 Sl.nil id S = some (Sl.nil,S) := by
 rw [Y64.f,Y64.L0,if_neg (by simp [Sl.nil])]
theorem Zae1 (h : DI e S) (id : Int) (op : Bool) (hnew : id ∉ e.ids) (hc : e.ms.length < 900) :
  ∃ e' S',Y34.f 2000 (some (HA.cell0 e.p)) id op S = some ((),S') ∧ DI e' S' ∧ e'.p = e.p ∧ e'.name = e.name ∧ e'.ms = e.ms ++ [(id,op,false)] ∧ Chg (OwnD e) (OwnD e') S S' := by
 obtain ⟨r,e1,g⟩ := Zad4 h id
 rw [Y34.f,e1,obs]
 simp only
 rw [if_neg (fun k => hnew (g.1 k)),letv]
 have fl : Fr S.next S (S.lit [] 3).2 := Zzd _ (Yaa _)
 have vl := Vec.lit (n := S.next) (z := 3) (S := S) [] (Yaa _)
 have nl : (S.lit [] 3).2.next = S.next + 1 := rfl
 generalize S.lit [] 3 = P at fl vl nl ⊢
 obtain ⟨s3,S3⟩ := P
 simp only at fl vl nl ⊢
 have h3 := h.fr fl
 obtain ⟨s4,S4,e4,v4,f4⟩ := vl.app (new := e.ms.map MK.enRow) (by omega) (by simp; omega)
 have l4 := f4.le
 rw [Yay] at v4
 rw [obs,h3.ldS,obs,h3.rows,obs,e4,obs,letv]
 obtain ⟨s6,S6,r5,e6,v6,f6⟩ := Zad3 [.int .i64 id,.bool op,.bool false] v4 (by omega) (by simp; omega)
 have l6 := f6.le
 have ff : Fr S.next S S6 := (fl.trans (f4.mono (by omega))).trans (f6.mono (by omega))
 have er : e.ms.map MK.enRow ++ [[.int .i64 id,.bool op,.bool false]] = (e.ms ++ [(id,op,false)]).map MK.enRow := by simp [MK.enRow]
 rw [er] at v6
 obtain ⟨S7,e7,h7,ch7⟩ := h.put ff v6.rows (fun q hq => v6.lo q hq) (by simp; omega) (by
  rw [Yau,List.nodup_append]
  refine ⟨h.nd,by simp,fun a ha b hb => ?_⟩
  simp at hb
  subst hb
  exact fun e => hnew (e ▸ ha))
 simp only
 rw [r5,obs,e6,obs,obs]
 simp only
 rw [e7,obs,obs,h7.ldG,obs,Zaf0,obs,obs]
 have hs : S7.sets (HA.fld (HA.cell0 e.p) 8) [Sl.nil.hv] = some (S7.put e.p (.cells 9 [({ e with s := s6,ms := e.ms ++ [(id,op,false)] } : Dr).row] true)) := (Zyv h7.cell rfl (by simp [Dr.row])).trans rfl
 simp only
 rw [hs,obs]
 have hk : ∀ y,(S7.put e.p (.cells 9 [({ e with s := s6,ms := e.ms ++ [(id,op,false)] } : Dr).row] true)).heap y = S7.heap y := fun y => by
  by_cases hy : y = e.p
  ·subst hy; rw [Zxv]; exact h7.cell.symm
  ·exact Zxe _ hy
 exact ⟨{ e with s := s6,ms := e.ms ++ [(id,op,false)] },_,rfl,h7.keep (fun y _ => hk y) (Yaa _),rfl,rfl,rfl,⟨ch7.le,fun y h1 h2 => (hk y).trans (ch7.eq y h1 h2),ch7.own⟩⟩
theorem Zai4 (name : List UInt8) (mb : Int) (S : HS) (hl : name.length ≤ 1000) : ∃ e S',Y93.f name mb S = some (some (HA.cell0 e.p),S') ∧ DI e S' ∧ e.name = name ∧ e.ms = [] ∧ (∀ id,OwnD e id → S.next ≤ id) ∧ Fr S.next S S' := by
 refine ⟨⟨S.next,Sl.nil,name,mb,[]⟩,_,rfl,⟨Zxx _ _,rfl,Yaw _,fun q hq => (by cases hq),fun q hq => (by cases hq),Yak _,List.nodup_nil,hl⟩,rfl,rfl,fun id ho => ?_,Fr.new (Yaa _) _⟩
 rcases ho with rfl | ⟨q,hq,_⟩
 ·exact Yaa _
 ·cases hq
theorem Zahp (h : DI e S) (id : Int) (hin : id ∈ e.ids) :
  ∃ e' S',Y36.f 2000 (some (HA.cell0 e.p)) id S = some (true,S') ∧ DI e' S' ∧ e'.p = e.p ∧ e'.name = e.name ∧ (∃ i,∃ hi : i < e.ms.length,(e.ms[i]'hi).1 = id ∧ e'.ms = e.ms.eraseIdx i) ∧ Chg (OwnD e) (OwnD e') S S' := by
 obtain ⟨r,e1,g⟩ := Zagw h id
 rcases g with ⟨_,g⟩ | ⟨i,hi,rfl,hid⟩
 ·exact absurd hin g
 have hcnt := h.cnt
 rw [Y36.f,e1,obs]
 simp only
 rw [if_neg (by omega),letv]
 have fl : Fr S.next S (S.lit [] 3).2 := Zzd _ (Yaa _)
 have vl := Vec.lit (n := S.next) (z := 3) (S := S) [] (Yaa _)
 have nl : (S.lit [] 3).2.next = S.next + 1 := rfl
 generalize S.lit [] 3 = P at fl vl nl ⊢
 obtain ⟨s3,S3⟩ := P
 simp only at fl vl nl ⊢
 have h3 := h.fr fl
 have hsl := h.slen
 have hss := h.lo
 obtain ⟨c1,d1,d2⟩ := Zae6 h3.rows (m := i) (by simp; omega)
 have d1' : S.cut e.s 0 (i : Int) 3 = some c1 := by rw [← d1]; exact (Zad9 _ _ _ fun q hq => fl.eq _ (hss q hq)).symm
 obtain ⟨s4,S4,e4,v4,f4⟩ := vl.app (new := (e.ms.map MK.enRow).take i) (by omega) (by simp; omega)
 have l4 := f4.le
 rw [Yay] at v4
 have h4 : DI e S4 := h3.keep (fun x ho => f4.eq x (by have := h.lt ho; omega)) f4.le
 have hw : w64 ((i : Int) + 1) = ((i + 1 : Nat) : Int) := by rw [Zx6 (by omega) (by omega)]; simp
 obtain ⟨c5,d5,d6⟩ := Zag3 h4.rows (m := i + 1) (by simp; omega)
 have hlen : ((e.ms.map MK.enRow).length : Int) = (e.s.len : Int) := by rw [hsl]; simp
 rw [hlen] at d5
 have d5' : S3.cut e.s ((i + 1 : Nat) : Int) (e.s.len : Int) 3 = some c5 := by rw [← d5]; exact (Zad9 _ _ _ fun q hq => f4.eq _ (by have := hss q hq; omega)).symm
 have d5'' : S.cut e.s ((i + 1 : Nat) : Int) (e.s.len : Int) 3 = some c5 := by rw [← d5']; exact (Zad9 _ _ _ fun q hq => fl.eq _ (hss q hq)).symm
 obtain ⟨s6,S6,e6,v6,f6⟩ := v4.app (new := (e.ms.map MK.enRow).drop (i + 1)) (by omega) (by simp; omega)
 have l6 := f6.le
 have ff : Fr S.next S S6 := (fl.trans (f4.mono (by omega))).trans (f6.mono (by omega))
 have er : (e.ms.map MK.enRow).take i ++ (e.ms.map MK.enRow).drop (i + 1) = (e.ms.eraseIdx i).map MK.enRow := by
  rw [List.eraseIdx_eq_take_drop_succ,Yau,List.map_take,List.map_drop]
 rw [er] at v6
 have hle := List.length_eraseIdx_le e.ms i
 obtain ⟨S7,e7,h7,o7⟩ := h.put ff v6.rows (fun q hq => v6.lo q hq) (by omega) (h.nd.sublist (List.Sublist.map _ (List.eraseIdx_sublist _ _)))
 simp only [obs,h3.ldS,h.ldS,if_true,d1,d1',d2,e4,h4.ldS,hw,d5,d5',d5'',d6,e6,e7]
 exact ⟨_,S7,rfl,h7,rfl,rfl,⟨i,hi,hid,rfl⟩,o7⟩
theorem ddrop_no (h : DI e S) (id : Int) (hin : id ∉ e.ids) : Y36.f 2000 (some (HA.cell0 e.p)) id S = some (false,S) := by
 obtain ⟨r,e1,g⟩ := Zad4 h id
 rw [Y36.f,e1,obs]
 simp only
 rw [if_pos (by
  rcases Int.lt_or_le r 0 with k | k
  ·exact k
  ·exact absurd (g.1 k) hin)]
end
structure Dw where
 w : Nat
 mR : Int
 mJ : Int
 mB : Int
structure Dt where
 sl : Sl
 D : List Dr
def dptr (e : Dr) : PK.Ky := some (HA.cell0 e.p)
def OD (x : Dw) (d : Dt) (id : Nat) : Prop := id = x.w ∨ (∃ q,d.sl.a = some q ∧ q.1 = id) ∨ ∃ e ∈ d.D,OwnD e id
structure DocI (x : Dw) (d : Dt) (S : HS) : Prop where
 cell : S.heap x.w = .cells 4 [[.int .i64 x.mR,.int .i64 x.mJ,.int .i64 x.mB,d.sl.hv]] true
 rows : S.rows d.sl 1 = some ((d.D.map dptr).map PK.row1)
 hi : x.w < S.next
 lo : ∀ q,d.sl.a = some q → q.1 < S.next
 rooms : ∀ e ∈ d.D,DI e S
 cnt : d.D.length ≤ 900
 keys : d.D.Pairwise fun a b => a.key ≠ b.key
 own : d.D.Pairwise fun a b => ∀ id,OwnD a id → ¬ OwnD b id
 nw : ∀ e ∈ d.D,¬ OwnD e x.w
 nq : ∀ q,d.sl.a = some q → q.1 ≠ x.w ∧ ∀ e ∈ d.D,¬ OwnD e q.1
section
variable {x : Dw} {d : Dt} {S S' : HS}
theorem DocI.ltO (h : DocI x d S) {id : Nat} (ho : OD x d id) : id < S.next := by
 rcases ho with rfl | ⟨q,hq,rfl⟩ | ⟨e,he,g⟩
 ·exact h.hi
 ·exact h.lo q hq
 ·exact (h.rooms e he).lt g
theorem DocI.keep (h : DocI x d S) (hk : ∀ id,OD x d id → S'.heap id = S.heap id) (hn : S.next ≤ S'.next) : DocI x d S' :=
 { h with
  cell := (hk _ (.inl rfl)).trans h.cell
  rows := Zyc h.rows fun q hq => hk _ (.inr (.inl ⟨q,hq,rfl⟩))
  hi := Yai h.hi hn
  lo := fun q hq => Yai (h.lo q hq) hn
  rooms := fun e he => (h.rooms e he).keep (fun id g => hk id (.inr (.inr ⟨e,he,g⟩))) hn }
theorem DocI.fr (h : DocI x d S) (hf : Fr S.next S S') : DocI x d S' := h.keep (fun id ho => hf.eq id (h.ltO ho)) hf.le
theorem DocI.lds (h : DocI x d S) : S.ldSl (HA.fld (HA.cell0 x.w) 3) = some d.sl := Zy4 (Zxu h.cell) rfl rfl
theorem DocI.ldR (h : DocI x d S) : S.ldI .i64 (HA.fld (HA.cell0 x.w) 0) = some x.mR := Zyb (Zxu h.cell) rfl rfl
theorem DocI.ldJ (h : DocI x d S) : S.ldI .i64 (HA.fld (HA.cell0 x.w) 1) = some x.mJ := Zyb (Zxu h.cell) rfl rfl
theorem DocI.ldB (h : DocI x d S) : S.ldI .i64 (HA.fld (HA.cell0 x.w) 2) = some x.mB := Zyb (Zxu h.cell) rfl rfl
theorem DocI.slen (h : DocI x d S) : (d.sl.len : Int) = d.D.length := by rw [← Zx7 h.rows]; simp
theorem DocI.at_ (h : DocI x d S) {i : Nat} (hi : i < d.D.length) : ∃ ad,S.idx d.sl (i : Int) 1 = some ad ∧ S.ldP ad = some (some (HA.cell0 (d.D[i]'hi).p)) := by
 obtain ⟨ad,h1,h2⟩ := PK.ldK_at h.rows (i := i) (by simpa using hi)
 rw [Yaj] at h2
 exact ⟨ad,h1,h2⟩
inductive FndD (D : List Dr) (name : List UInt8) : Option Dr → Prop
 | some {e} (he : e ∈ D) (hk : e.key = name.map low) : FndD D name (some e)
 | none (h : ∀ e ∈ D,e.key ≠ name.map low) : FndD D name none
def Zabl (o : Option Dr) : Option HA := o.map fun e => HA.cell0 e.p
theorem Zacq (h : DocI x d S) (name : List UInt8) (hl : name.length ≤ 1000) : ∃ o S',Y17.f 2000 (some (HA.cell0 x.w)) name S = some (Zabl o,S') ∧ FndD d.D name o ∧ Fr S.next S S' := by
 have hcnt := h.cnt
 have hloop : ∀ f i (T : HS),d.D.length - i < f → i ≤ d.D.length → Fr S.next S T → (∀ e ∈ d.D.take i,e.key ≠ name.map low) → ∃ o S',Y17.L0 2000 f (some (HA.cell0 x.w)) name (i : Int) T = some (Zabl o,S') ∧ FndD d.D name o ∧ Fr S.next S S' := by
  intro f
  induction f with
  | zero => intro i T h; omega
  | succ f ih =>
   intro i T hf hi hfr hno
   have hT := h.fr hfr
   rw [Y17.L0,obs,hT.lds,obs,hT.slen]
   by_cases hlt : i < d.D.length
   ·obtain ⟨ad,a1,a2⟩ := hT.at_ hlt
    have hr := hT.rooms _ (Yae hlt)
    obtain ⟨T1,e1,f1⟩ := Zae0 (k := 2000) (m := T.next) (x := d.D[i].name) (y := name) (S := T) hr.nl hl (Yaa _) (Yaa _)
    have hT1 := hT.fr f1
    have hfr1 := hfr.trans (f1.mono hfr.le)
    obtain ⟨ad1,b1,b2⟩ := hT1.at_ hlt
    rw [if_pos (by omega),obs,hT.lds,obs,a1,obs,a2,obs,obs,hr.ldN,obs,e1,obs]
    by_cases he : d.D[i].name.map low = name.map low
    ·rw [if_pos (decide_eq_true he),obs]
     simp only
     rw [hT1.lds,obs,b1,obs,b2,obs]
     exact ⟨some d.D[i],T1,rfl,.some (Yae hlt) he,hfr1⟩
    ·rw [if_neg (by simpa using he),Zx6 (by omega) (by omega),show ((i : Int) + 1) = ((i + 1 : Nat) : Int) by simp]
     refine ih (i + 1) T1 (by omega) (by omega) hfr1 fun e hm => ?_
     rw [Yaf hlt] at hm
     rcases Yab.1 hm with g | g
     ·exact hno e g
     ·simp at g; subst g; exact he
   ·obtain rfl : i = d.D.length := by omega
    rw [Yao] at hno
    rw [if_neg (by omega)]
    exact ⟨none,T,rfl,.none hno,hfr⟩
 exact hloop 2000 0 S (by omega) (Yak _) (Fr.refl _ _) (by simp)
def SrtD (L : List Dr) : Prop := L.Pairwise fun a b => cmpL a.name b.name < 0
theorem ins_srtD {O : List Dr} {e : Dr} {a : Nat} (hs : SrtD O) (ha : a ≤ O.length) (hhi : ∀ j (hj : j < O.length),a ≤ j → cmpL O[j].name e.name > 0) (hlo : ∀ j (hj : j < O.length),j + 1 = a → ¬ cmpL O[j].name e.name > 0) (hne : ∀ o ∈ O,cmpL o.name e.name ≠ 0) : SrtD (O.take a ++ e :: O.drop a) := by
 have hlt : ∀ j (hj : j < O.length),j < a → cmpL O[j].name e.name < 0 := fun j hj hja => by
  have h1 : cmpL (O[a - 1]'(by omega)).name e.name < 0 := by
   have := hlo (a - 1) (by omega) (by omega)
   have := hne _ (Yae (show a - 1 < O.length by omega))
   omega
  rcases Yan j (a - 1) with g | g
  ·exact BK.cmpL_lt_trans (Yap.1 hs j (a - 1) hj (by omega) g) h1
  ·obtain rfl : j = a - 1 := by omega
   exact h1
 unfold SrtD
 rw [Yad,Yah]
 refine ⟨hs.sublist (List.take_sublist _ _),⟨fun o ho => ?_,hs.sublist (List.drop_sublist _ _)⟩,fun o ho o' ho' => ?_⟩
 ·obtain ⟨j,hj,rfl⟩ := Yag ho
  rw [Yat]
  have := hhi (a + j) (by simp at hj; omega) (by omega)
  rw [Zzp] at this
  omega
 ·obtain ⟨j,hj,rfl⟩ := Yag ho
  rw [Yar] at hj
  rw [Ybj]
  rcases Yac.1 ho' with rfl | ho'
  ·exact hlt j (by omega) (by omega)
  ·obtain ⟨i,hi,rfl⟩ := Yag ho'
   rw [Ya1] at hi
   rw [Yat]
   exact Yap.1 hs j (a + i) (by omega) (by omega) (by omega)
theorem Zai5 {y1 y8 : Int} {y2 : Bool} {y7 : Sl} {O : List Dr} {e : Dr} {rec1 : (Option HA) → Int → Bool → Sl → Int → HS → Option ((Sl) × HS)} {S0 : HS} (h : DocI x d S0) (he : e ∈ d.D) (hO : ∀ o ∈ O,o ∈ d.D) (hOl : O.length ≤ 900) (hs : SrtD O) (hne : ∀ o ∈ O,cmpL o.name e.name ≠ 0) {m : Nat} (hm : m ≤ S0.next) :
  ∀ f a (T : HS),a < f → a ≤ O.length → Fr S0.next S0 T → Rd T.next T 1 y7 ((O.map dptr).map PK.row1) → (∀ j (hj : j < O.length),a ≤ j → cmpL O[j].name e.name > 0) →
  ∃ a' s' T',Y0.L3 2000 rec1 f (some (HA.cell0 x.w)) y1 y2 y7 y8 (dptr e) (a : Int) T = rec1 (some (HA.cell0 x.w)) y1 y2 s' (w64 (y8 + 1)) T' ∧ Fr S0.next S0 T' ∧ Vec S0.next T' 1 s' (((O.take a' ++ e :: O.drop a').map dptr).map PK.row1) ∧ SrtD (O.take a' ++ e :: O.drop a') := by
 intro f
 induction f with
 | zero => intro a T h; omega
 | succ f ih =>
  intro a T hf ha hfr hrd hhi
  have hT := h.fr hfr
  have hle := hfr.le
  -- where it belongs
  have fin : ∀ T1,Fr S0.next S0 T1 → Rd T1.next T1 1 y7 ((O.map dptr).map PK.row1) → (∀ j (hj : j < O.length),j + 1 = a → ¬ cmpL O[j].name e.name > 0) →
    ∃ a' s' T',Y0.J4 2000 (Y0.L3 2000 rec1 f) rec1 (some (HA.cell0 x.w)) y1 y2 y7 y8 (dptr e) (a : Int) false T1 = rec1 (some (HA.cell0 x.w)) y1 y2 s' (w64 (y8 + 1)) T' ∧ Fr S0.next S0 T' ∧ Vec S0.next T' 1 s' (((O.take a' ++ e :: O.drop a').map dptr).map PK.row1) ∧ SrtD (O.take a' ++ e :: O.drop a') := by
   intro T1 hfr1 hrd1 hlo
   have hle1 := hfr1.le
   have hsl : (y7.len : Int) = O.length := by rw [hrd1.len]; simp
   rw [Y0.J4,if_neg (by simp)]
   obtain ⟨c1,d1,d2⟩ := Zae6 hrd1.rows (m := a) (by simpa using ha)
   obtain ⟨s2,T2,e2,v2,f2⟩ := (Vec.nil : Vec T1.next T1 1 Sl.nil []).app (new := ((O.map dptr).map PK.row1).take a) (Yaa _) (by simp; omega)
   rw [Yay] at v2
   have e2 : T1.app Sl.nil (((O.map dptr).map PK.row1).take a) 1 = some (s2,T2) := e2
   have l2 := f2.le
   obtain ⟨s3,T3,r3,e3,v3,f3⟩ := Zad3 [.ptr (dptr e)] v2 (by omega) (by simp; omega)
   have l3 := f3.le
   have hrd3 := (hrd1.frame (f2.trans f3) (Yaa _))
   obtain ⟨c4,d4,d5⟩ := Zag3 hrd3.rows (m := a) (by simpa using ha)
   have hlen : (((O.map dptr).map PK.row1).length : Int) = (y7.len : Int) := by rw [hsl]; simp
   rw [hlen] at d4
   obtain ⟨s6,T6,e6,v6,f6⟩ := v3.app (new := ((O.map dptr).map PK.row1).drop a) (by omega) (by simp; omega)
   have l6 := f6.le
   rw [d1,obs,d2,obs,e2,obs,letv,r3,obs,e3,obs,d4,obs,d5,obs,e6,obs,Y0.J2]
   have er : ((O.map dptr).map PK.row1).take a ++ [[.ptr (dptr e)]] ++ ((O.map dptr).map PK.row1).drop a = ((O.take a ++ e :: O.drop a).map dptr).map PK.row1 := by
    simp [List.map_take,List.map_drop,PK.row1]
   rw [er] at v6
   exact ⟨a,s6,T6,rfl,hfr1.trans (((f2.trans f3).trans f6).mono hle1),v6.mono hle1,ins_srtD hs ha hhi hlo hne⟩
  rw [Y0.L3]
  by_cases h0 : 0 < a
  ·have hw : w64 ((a : Int) - 1) = ((a - 1 : Nat) : Int) := by rw [Zx6 (by omega) (by omega)]; omega
   obtain ⟨ad,a1,a2⟩ := PK.ldK_at hrd.rows (i := a - 1) (by simp; omega)
   rw [Yaj] at a2
   have ho := hT.rooms _ (hO _ (Yae (show a - 1 < O.length by omega)))
   have hre := hT.rooms e he
   obtain ⟨T1,e1,f1⟩ := Zacs (k := 2000) (m := T.next) (x := (O[a - 1]'(by omega)).name) (y := e.name) (S := T) ho.nl hre.nl (Yaa _) (Yaa _)
   have hfr1 := hfr.trans (f1.mono hle)
   have hrd1 := (hrd.frame f1 (Yaa _)).mono f1.le
   rw [if_pos (by omega),hw,a1,obs,a2,obs]
   simp only [dptr,obs]
   rw [ho.ldN,obs,hre.ldN,obs,e1,obs]
   by_cases hc : cmpL (O[a - 1]'(by omega)).name e.name > 0
   ·simp only
    rw [decide_eq_true hc,Y0.J4,if_pos rfl,hw]
    refine ih (a - 1) T1 (by omega) (by omega) hfr1 hrd1 fun j hj hja => ?_
    rcases Yan j a with g | g
    ·obtain rfl : j = a - 1 := by omega
     exact hc
    ·exact hhi j hj g
   ·simp only
    rw [decide_eq_false hc]
    exact fin T1 hfr1 hrd1 fun j hj hja => by
     obtain rfl : j = a - 1 := by omega
     exact hc
  ·rw [if_neg (by omega)]
   exact fin T hfr hrd fun j hj hja => by omega
theorem Zabm (h : DocI x d S) (id : Int) (all : Bool) : ∃ so L S',Y0.f 2000 (some (HA.cell0 x.w)) id all S = some (so,S') ∧ S'.rows so 1 = some ((L.map dptr).map PK.row1) ∧ (∀ q,so.a = some q → S.next ≤ q.1 ∧ q.1 < S'.next) ∧ Fr S.next S S' ∧ L.Perm (d.D.filter fun e => all || decide (id ∈ e.ids)) ∧ SrtD L := by
 have hcnt := h.cnt
 have hloop : ∀ f i (T : HS) (y7 : Sl) (O : List Dr),d.D.length - i < f → i ≤ d.D.length → Fr S.next S T → Vec S.next T 1 y7 ((O.map dptr).map PK.row1) → O.Perm ((d.D.take i).filter fun e => all || decide (id ∈ e.ids)) → SrtD O →
   ∃ so L S',Y0.L0 2000 f (some (HA.cell0 x.w)) id all y7 (i : Int) T = some (so,S') ∧ S'.rows so 1 = some ((L.map dptr).map PK.row1) ∧ (∀ q,so.a = some q → S.next ≤ q.1 ∧ q.1 < S'.next) ∧ Fr S.next S S' ∧ L.Perm (d.D.filter fun e => all || decide (id ∈ e.ids)) ∧ SrtD L := by
  intro f
  induction f with
  | zero => intro i T y7 O h; omega
  | succ f ih =>
   intro i T y7 O hf hi hfr hv hp hs
   have hT := h.fr hfr
   have hle := hfr.le
   rw [Y0.L0,obs,hT.lds,obs,hT.slen]
   by_cases hlt : i < d.D.length
   ·obtain ⟨ad,a1,a2⟩ := hT.at_ hlt
    have hm := Yae hlt
    have hw : w64 ((i : Int) + 1) = ((i + 1 : Nat) : Int) := by rw [Zx6 (by omega) (by omega)]; simp
    have htk : (d.D.take (i + 1)).filter (fun e => all || decide (id ∈ e.ids)) = (d.D.take i).filter (fun e => all || decide (id ∈ e.ids)) ++ if (all || decide (id ∈ d.D[i].ids)) = true then [d.D[i]] else [] := by
     rw [Yaf hlt,Ybf]
     congr 1
     rw [List.filter_cons,List.filter_nil]
    have hOd : ∀ o ∈ O,o ∈ d.D.take i := fun o ho => (Ya8.1 (hp.subset ho)).1
    have hOl : O.length ≤ 900 := by
     have := hp.length_eq
     have := Ybg (fun e : Dr => all || decide (id ∈ e.ids)) (d.D.take i)
     rw [Yar] at this
     omega
    have put : (all || decide (id ∈ d.D[i].ids)) = true → ∃ so L S',Y0.J1 2000 (Y0.L0 2000 f) (some (HA.cell0 x.w)) id all y7 (i : Int) (dptr d.D[i]) false T = some (so,S') ∧ S'.rows so 1 = some ((L.map dptr).map PK.row1) ∧ (∀ q,so.a = some q → S.next ≤ q.1 ∧ q.1 < S'.next) ∧ Fr S.next S S' ∧ L.Perm (d.D.filter fun e => all || decide (id ∈ e.ids)) ∧ SrtD L := by
     intro hc
     rw [Y0.J1,if_neg (by simp)]
     have hsl : (y7.len : Int) = O.length := by rw [hv.len]; simp
     rw [hsl]
     obtain ⟨a',s',T',e1,f1,v1,g1⟩ := Zai5 (x := x) (d := d) (y1 := id) (y8 := (i : Int)) (y2 := all) (y7 := y7) (O := O) (e := d.D[i]) (rec1 := Y0.L0 2000 f) (S0 := T) hT hm (fun o ho => Ybh (hOd o ho)) hOl hs (fun o ho hc => by
      obtain ⟨j,hj,rfl⟩ := Yag (hOd o ho)
      rw [Yar] at hj
      rw [Ybj] at hc
      exact Yap.1 h.keys j i (by omega) hlt (by omega) ((Zzr _ _).1 hc)) (Yaa _) 2000 O.length T (by omega) (Yaa _) (Fr.refl _ _) (hv.rd) (fun j hj hja => by omega)
     rw [e1,hw]
     have l1 := f1.le
     refine ih (i + 1) T' s' _ (by omega) (by omega) (hfr.trans (f1.mono hle)) (v1.mono hle) ?_ g1
     rw [htk,if_pos hc]
     refine (Ybc.trans ?_)
     rw [Yas]
     exact (hp.cons _).trans (List.perm_append_singleton _ _).symm
    rw [if_pos (by omega),obs,hT.lds,obs,a1,obs,a2,obs]
    cases all with
    | true =>
     rw [if_neg (by simp)]
     exact put (by simp)
    | false =>
     obtain ⟨r,e1,g⟩ := Zad4 (hT.rooms _ hm) id
     rw [if_pos (by simp),e1,obs]
     by_cases hin : id ∈ d.D[i].ids
     ·have : decide (r < 0) = false := decide_eq_false (by have := g.2 hin; omega)
      simp only
      rw [this]
      exact put (by simpa using hin)
     ·have : decide (r < 0) = true := decide_eq_true (by
       rcases Int.lt_or_le r 0 with k | k
       ·exact k
       ·exact absurd (g.1 k) hin)
      simp only
      rw [this,Y0.J1,if_pos rfl,Y0.J2,hw]
      refine ih (i + 1) T y7 O (by omega) (by omega) hfr hv ?_ hs
      rw [htk,if_neg (by simpa using hin),Ya5]
      exact hp
   ·obtain rfl : i = d.D.length := by omega
    rw [Yao] at hp
    rw [if_neg (by omega)]
    exact ⟨y7,O,T,rfl,hv.rows,fun q hq => hv.lo q hq,hfr,hp,hs⟩
 exact hloop 2000 0 S Sl.nil [] (by omega) (Yak _) (Fr.refl _ _) .nil (by simp) List.Pairwise.nil
end
section
variable {x : Dw} {d : Dt} {S S' : HS}
theorem DocI.room_step {A B : List Dr} {e e' : Dr} (h : DocI x d S) (hD : d.D = A ++ e :: B) (hr : DI e' S') (hp : e'.p = e.p) (hn : e'.name = e.name) (ch : Chg (OwnD e) (OwnD e') S S') :
  DocI x { d with D := A ++ e' :: B } S' ∧ Chg (OD x d) (OD x { d with D := A ++ e' :: B }) S S' := by
 have he : e ∈ d.D := by rw [hD]; simp
 have hpw := h.own
 rw [hD,Yad,Yah] at hpw
 obtain ⟨p1,⟨p2,p3⟩,p4⟩ := hpw
 have hoth : ∀ y,y ∈ A ∨ y ∈ B → ∀ id,OwnD y id → ¬ OwnD e id := fun y hy id g g' => by
  rcases hy with hy | hy
  ·exact p4 y hy e (by simp) id g g'
  ·exact p2 y hy id g' g
 have hmem : ∀ y,y ∈ A ∨ y ∈ B → y ∈ d.D := fun y hy => by rw [hD]; simp; rcases hy with hy | hy <;> simp [hy]
 have hnew : ∀ y,y ∈ A ∨ y ∈ B → ∀ id,OwnD y id → ¬ OwnD e' id := fun y hy id g g' => by
  rcases ch.own id g' with k | k
  ·exact hoth y hy id g k
  ·have := (h.rooms y (hmem y hy)).lt g; omega
 have hcase : ∀ y,y ∈ A ++ e' :: B → (y ∈ A ∨ y ∈ B) ∨ y = e' := fun y hy => by
  simp only [Yab,Yac] at hy
  rcases hy with g | g | g <;> simp [g]
 have hkw : S'.heap x.w = S.heap x.w := ch.eq _ h.hi (h.nw e he)
 have hkq : ∀ q,d.sl.a = some q → S'.heap q.1 = S.heap q.1 := fun q hq => ch.eq _ (h.lo q hq) ((h.nq q hq).2 e he)
 have hle := ch.le
 refine ⟨⟨hkw.trans h.cell,?_,Yai h.hi hle,fun q hq => Yai (h.lo q hq) hle,?_,?_,?_,?_,?_,?_⟩,⟨hle,fun id g1 g2 => ch.eq id g1 (fun g => g2 (.inr (.inr ⟨e,he,g⟩))),?_⟩⟩
 ·have e1 : (A ++ e' :: B).map dptr = d.D.map dptr := by rw [hD]; simp [dptr,hp]
  show S'.rows d.sl 1 = some (((A ++ e' :: B).map dptr).map PK.row1)
  rw [e1]
  exact Zyc h.rows hkq
 ·intro y hy
  rcases hcase y hy with g | rfl
  ·exact (h.rooms y (hmem y g)).keep (fun id k => ch.eq id ((h.rooms y (hmem y g)).lt k) (hoth y g id k)) hle
  ·exact hr
 ·have := h.cnt; rw [hD] at this; show (A ++ e' :: B).length ≤ 900; simp at this ⊢; exact this
 ·have hk := h.keys
  rw [hD,Yad,Yah] at hk
  obtain ⟨k1,⟨k2,k3⟩,k4⟩ := hk
  have hke : e'.key = e.key := by unfold Dr.key; rw [hn]
  show (A ++ e' :: B).Pairwise _
  rw [Yad,Yah]
  refine ⟨k1,⟨fun y hy => by rw [hke]; exact k2 y hy,k3⟩,fun y hy z hz => ?_⟩
  rcases Yac.1 hz with rfl | hz
  ·rw [hke]; exact k4 y hy e (by simp)
  ·exact k4 y hy z (by simp [hz])
 ·show (A ++ e' :: B).Pairwise _
  rw [Yad,Yah]
  refine ⟨p1,⟨fun y hy id g g' => hnew y (.inr hy) id g' g,p3⟩,fun y hy z hz => ?_⟩
  rcases Yac.1 hz with rfl | hz
  ·exact hnew y (.inl hy)
  ·exact p4 y hy z (by simp [hz])
 ·intro y hy g
  rcases hcase y hy with k | rfl
  ·exact h.nw y (hmem y k) g
  ·rcases ch.own _ g with k | k
   ·exact h.nw e he k
   ·have := h.hi; omega
 ·intro q hq
  refine ⟨(h.nq q hq).1,fun y hy g => ?_⟩
  rcases hcase y hy with k | rfl
  ·exact (h.nq q hq).2 y (hmem y k) g
  ·rcases ch.own _ g with k | k
   ·exact (h.nq q hq).2 e he k
   ·have := h.lo q hq; omega
 ·rintro id (g | g | ⟨y,hy,g⟩)
  ·exact .inl (.inl g)
  ·exact .inl (.inr (.inl g))
  ·rcases hcase y hy with k | rfl
   ·exact .inl (.inr (.inr ⟨y,hmem y k,g⟩))
   ·exact (ch.own id g).imp (fun g => .inr (.inr ⟨e,he,g⟩)) (fun g => g)
theorem DocI.put_list {S1 : HS} {s' : Sl} {D' : List Dr} (h : DocI x d S) (hk : ∀ id,id < S.next → S1.heap id = S.heap id) (hle : S.next ≤ S1.next) (hr : S1.rows s' 1 = some ((D'.map dptr).map PK.row1)) (hq : ∀ q,s'.a = some q → S.next ≤ q.1 ∧ q.1 < S1.next ∧ ∀ e ∈ D',¬ OwnD e q.1)
  (hl : D'.length ≤ 900) (hrooms : ∀ e ∈ D',DI e S1) (hkeys : D'.Pairwise fun a b => a.key ≠ b.key) (hown : D'.Pairwise fun a b => ∀ id,OwnD a id → ¬ OwnD b id) (hnw : ∀ e ∈ D',¬ OwnD e x.w) (hsub : ∀ e ∈ D',∀ id,OwnD e id → OD x d id ∨ S.next ≤ id) :
  ∃ S2,S1.sets (HA.fld (HA.cell0 x.w) 3) [s'.hv] = some S2 ∧ DocI x ⟨s',D'⟩ S2 ∧ Chg (OD x d) (OD x ⟨s',D'⟩) S S2 := by
 have hhi := h.hi
 have hc : S1.heap x.w = .cells 4 [[.int .i64 x.mR,.int .i64 x.mJ,.int .i64 x.mB,d.sl.hv]] true := (hk _ hhi).trans h.cell
 refine ⟨S1.put x.w (.cells 4 [[.int .i64 x.mR,.int .i64 x.mJ,.int .i64 x.mB,s'.hv]] true),(Zyv hc rfl (by simp)).trans rfl,⟨Zxv _ _ _,Zyc hr fun q hq' => Zxe _ (by have := hq q hq'; omega),by rw [Zxw]; omega,fun q hq' => (hq q hq').2.1,fun e he => (hrooms e he).keep (fun id g => Zxe _ (fun e1 => hnw e he (e1 ▸ g))) (Yaa _),hl,hkeys,hown,hnw,fun q hq' => ⟨by have := hq q hq'; omega,(hq q hq').2.2⟩⟩,⟨hle,fun id h1 h2 => ?_,?_⟩⟩
 ·rw [Zxe _ (fun e => h2 (.inl e))]; exact hk id h1
 ·rintro id (g | ⟨q,hq',rfl⟩ | ⟨e,he,g⟩)
  ·exact .inl (.inl g)
  ·exact .inr (hq q hq').1
  ·exact hsub e he id g
def cntD (D : List Dr) (id : Int) : Nat := (D.filter fun e => decide (id ∈ e.ids)).length
inductive DJ (x : Dw) (D : List Dr) (id : Int) (name : List UInt8) : Option HA → Int → List Dr → Prop
 | stay {e} (he : e ∈ D) (hk : e.key = name.map low) (hin : id ∈ e.ids) : DJ x D id name (some (HA.cell0 e.p)) 0 D
 | full (hnot : ∀ e ∈ D,e.key = name.map low → id ∉ e.ids) (hf : x.mJ ≤ (cntD D id : Int) ∨ (∀ e ∈ D,e.key ≠ name.map low) ∧ x.mR ≤ (D.length : Int)) : DJ x D id name none 405 D
 | come {A B e e'} (hD : D = A ++ e :: B) (hk : e.key = name.map low) (hnot : id ∉ e.ids) (hp : e'.p = e.p) (hn : e'.name = e.name) (hms : e'.ms = e.ms ++ [(id,false,false)]) (hc : (cntD D id : Int) < x.mJ) : DJ x D id name (some (HA.cell0 e'.p)) 0 (A ++ e' :: B)
 | new {e'} (hno : ∀ e ∈ D,e.key ≠ name.map low) (hn : e'.name = name) (hms : e'.ms = [(id,true,false)]) (hl : (D.length : Int) < x.mR) (hc : (cntD D id : Int) < x.mJ) : DJ x D id name (some (HA.cell0 e'.p)) 0 (D ++ [e'])
def DJoined (x : Dw) (d : Dt) (S : HS) (id : Int) (name : List UInt8) (r : Option (((Option HA) × Int) × HS)) : Prop :=
 ∃ q c d' S',r = some ((q,c),S') ∧ DocI x d' S' ∧ Chg (OD x d) (OD x d') S S' ∧ DJ x d.D id name q c d'.D
theorem DJoined.pre {S1 : HS} {id : Int} {name : List UInt8} {r : Option (((Option HA) × Int) × HS)} (f : Fr S.next S S1) (h : DJoined x d S1 id name r) : DJoined x d S id name r := by
 obtain ⟨q,c,d',S',e,h1,h2,h3⟩ := h
 exact ⟨q,c,d',S',e,h1,(Chg.of_fr f).trans h2,h3⟩
theorem Zaf1 (h : DocI x d S) {e : Dr} (he : e ∈ d.D) (id : Int) (name : List UInt8) (hk : e.key = name.map low) (hnot : id ∉ e.ids) (hc : (cntD d.D id : Int) < x.mJ) (hms : e.ms.length < 900) : DJoined x d S id name (Y10.J1 2000 (some (HA.cell0 x.w)) id name (some (HA.cell0 e.p)) false S) := by
 rw [Y10.J1,if_neg (by simp),if_neg (by simp)]
 obtain ⟨e',S1,e1,h1,hp,hn,hm,ch⟩ := Zae1 (h.rooms e he) id false hnot hms
 obtain ⟨A,B,hD⟩ := Ybb he
 obtain ⟨h2,ch2⟩ := h.room_step hD h1 hp hn ch
 rw [e1,obs,Y10.J2,← hp]
 exact ⟨_,0,_,S1,rfl,h2,ch2,.come hD hk hnot hp hn hm hc⟩
theorem Zai6 (h : DocI x d S) (id : Int) (name : List UInt8) (hl : name.length ≤ 1000) (hno : ∀ e ∈ d.D,e.key ≠ name.map low) (hc : (cntD d.D id : Int) < x.mJ) (hR : (d.D.length : Int) < x.mR) (hcnt : d.D.length < 900) : DJoined x d S id name (Y10.J1 2000 (some (HA.cell0 x.w)) id name none false S) := by
 rw [Y10.J1,if_neg (by simp),if_pos (by rfl),obs,h.ldB,obs]
 obtain ⟨e0,S1,e1,h1,hn0,hm0,ho0,f1⟩ := Zai4 name x.mB S hl
 obtain ⟨e',S2,e2,h2,hp2,hn2,hm2,ch2⟩ := Zae1 h1 id true (by unfold Dr.ids; rw [hm0]; simp) (by rw [hm0]; simp)
 have l1 := f1.le
 have l2 := ch2.le
 have hkS : ∀ y,y < S.next → S2.heap y = S.heap y := fun y hy => (ch2.eq y (by omega) (fun g => by have := ho0 y g; omega)).trans (f1.eq y hy)
 have hfr2 : Fr S.next S S2 := ⟨by omega,hkS⟩
 have hd2 := h.fr hfr2
 have ho' : ∀ y,OwnD e' y → S.next ≤ y := fun y g => (ch2.own y g).elim (ho0 y) (fun g => by omega)
 rw [e1,obs]
 simp only
 rw [e2,obs,letv]
 have fl : Fr S2.next S2 (S2.lit [] 1).2 := Zzd _ (Yaa _)
 have vl := Vec.lit (n := S2.next) (z := 1) (S := S2) [] (Yaa _)
 have nl : (S2.lit [] 1).2.next = S2.next + 1 := rfl
 generalize S2.lit [] 1 = P at fl vl nl ⊢
 obtain ⟨s3,S3⟩ := P
 simp only at fl vl nl ⊢
 have h3 := hd2.fr fl
 obtain ⟨s4,S4,e4,v4,f4⟩ := vl.app (new := (d.D.map dptr).map PK.row1) (by omega) (by simp; omega)
 have l4 := f4.le
 rw [Yay] at v4
 rw [obs,h3.lds,obs,h3.rows,obs,e4,obs,letv]
 obtain ⟨s6,S6,r5,e6,v6,f6⟩ := Zad3 [.ptr (some (HA.cell0 e0.p))] v4 (by omega) (by simp; omega)
 have l6 := f6.le
 have ff : Fr S2.next S2 S6 := (fl.trans (f4.mono (by omega))).trans (f6.mono (by omega))
 have er : (d.D.map dptr).map PK.row1 ++ [[.ptr (some (HA.cell0 e0.p))]] = ((d.D ++ [e']).map dptr).map PK.row1 := by simp [PK.row1,dptr,hp2]
 rw [er] at v6
 have h6 : DI e' S6 := h2.fr ff
 have hD6 := hd2.fr ff
 obtain ⟨S7,e7,h7,ch7⟩ := h.put_list (S1 := S6) (s' := s6) (D' := d.D ++ [e']) (fun y hy => (ff.eq y (by omega)).trans (hkS y hy)) (by omega) v6.rows (fun q hq => by
   have hq' := v6.lo q hq
   refine ⟨by omega,by omega,fun e he g => ?_⟩
   rcases Yab.1 he with k | k
   ·have := (h.rooms e k).lt g; omega
   ·simp at k; subst k; have := h2.lt g; omega) (by simp; omega) (fun e he => by
   rcases Yab.1 he with k | k
   ·exact hD6.rooms e k
   ·simp at k; subst k; exact h6) (by
   rw [Yad]
   refine ⟨h.keys,List.pairwise_singleton _ _,fun a ha b hb => ?_⟩
   simp at hb
   subst hb
   intro g
   refine hno a ha (g.trans ?_)
   unfold Dr.key
   rw [hn2,hn0]) (by
   rw [Yad]
   refine ⟨h.own,List.pairwise_singleton _ _,fun a ha b hb id g g' => ?_⟩
   simp at hb
   subst hb
   have := (h.rooms a ha).lt g
   have := ho' id g'
   omega) (fun e he g => by
   rcases Yab.1 he with k | k
   ·exact h.nw e k g
   ·simp at k; subst k; have := ho' _ g; have := h.hi; omega) (fun e he y g => by
   rcases Yab.1 he with k | k
   ·exact .inl (.inr (.inr ⟨e,k,g⟩))
   ·simp at k; subst k; exact .inr (ho' _ g))
 simp only
 rw [r5,obs,e6,obs,obs]
 simp only
 rw [e7,obs,Y10.J2,← hp2]
 refine ⟨_,0,_,S7,rfl,h7,ch7,.new hno (by rw [hn2,hn0]) (by rw [hm2,hm0]; rfl) hR hc⟩
theorem FndD.uniq (h : DocI x d S) {a b : Dr} (ha : a ∈ d.D) (hb : b ∈ d.D) (hk : a.key = b.key) : a = b := by
 obtain ⟨i,hi,rfl⟩ := Yag ha
 obtain ⟨j,hj,rfl⟩ := Yag hb
 rcases Nat.lt_trichotomy i j with g | g | g
 ·exact absurd hk (Yap.1 h.keys i j hi hj g)
 ·subst g; rfl
 ·exact absurd hk.symm (Yap.1 h.keys j i hj hi g)
theorem Zahq (h : DocI x d S) (id : Int) (name : List UInt8) (hl : name.length ≤ 1000) (hcnt : d.D.length < 900) (hms : ∀ e ∈ d.D,e.ms.length < 900) : DJoined x d S id name (Y10.f 2000 (some (HA.cell0 x.w)) id name S) := by
 obtain ⟨o,S1,e1,ho,f1⟩ := Zacq h name hl
 have h1 := h.fr f1
 rw [Y10.f,e1,obs]
 refine DJoined.pre f1 ?_
 -- behind the look
 have main : ∀ o : Option Dr,FndD d.D name o → (∀ e,o = some e → id ∉ e.ids) → DJoined x d S1 id name (Y10.J0 2000 (some (HA.cell0 x.w)) id name (Zabl o) false S1) := by
  intro o ho hno
  obtain ⟨so,L,S2,e2,r2,q2,f2,hp,_⟩ := Zabm h1 id false
  have h2 := h1.fr f2
  have hlen : (so.len : Int) = (cntD d.D id : Int) := by
   rw [← Zx7 r2]
   simp only [Ya7]
   rw [hp.length_eq]
   rfl
  have hnot : ∀ e ∈ d.D,e.key = name.map low → id ∉ e.ids := fun e he hk => by
   cases ho with
   | @some e1 he1 hk1 => rw [FndD.uniq h he he1 (hk.trans hk1.symm)]; exact hno _ rfl
   | none g => exact absurd hk (g e he)
  rw [Y10.J0,if_neg (by simp),e2,obs,obs]
  simp only
  rw [h2.ldJ,obs,h1.ldJ,obs,if_pos rfl,hlen]
  refine DJoined.pre f2 ?_
  by_cases hJ : x.mJ ≤ (cntD d.D id : Int)
  ·rw [if_pos hJ,Y10.J1,if_pos rfl]
   exact ⟨none,405,d,S2,rfl,h2,Chg.refl _ _,.full hnot (.inl hJ)⟩
  ·rw [if_neg (by simpa using hJ)]
   cases ho with
   | @some e he hk =>
    rw [if_neg (by simp [Zabl])]
    exact Zaf1 h2 he id name hk (hno e rfl) (by omega) (hms e he)
   | none g =>
    rw [if_pos (by rfl),obs,h2.lds,obs,obs,h2.ldR,obs,h2.slen]
    by_cases hR : x.mR ≤ (d.D.length : Int)
    ·rw [decide_eq_true hR,Y10.J1,if_pos rfl]
     exact ⟨none,405,d,S2,rfl,h2,Chg.refl _ _,.full hnot (.inr ⟨g,hR⟩)⟩
    ·rw [decide_eq_false hR]
     exact Zai6 h2 id name hl g (by omega) (by omega) hcnt
 cases ho with
 | @some e he hk =>
  obtain ⟨r,e3,g⟩ := Zad4 (h1.rooms e he) id
  have e3' : Y4.f 2000 (Zabl (some e)) id S1 = some (r,S1) := e3
  rw [if_pos (by rfl)]
  simp only
  rw [e3',obs]
  by_cases hin : id ∈ e.ids
  ·have : decide (r ≥ 0) = true := decide_eq_true (g.2 hin)
   simp only
   rw [this,Y10.J0,if_pos rfl]
   exact ⟨_,0,d,S1,rfl,h1,Chg.refl _ _,.stay he hk hin⟩
  ·have : decide (r ≥ 0) = false := decide_eq_false (fun k => hin (g.1 k))
   simp only
   rw [this]
   exact main (some e) (.some he hk) (fun e1 h1 => by cases h1; exact hin)
 | none g =>
  rw [if_neg (by simp [Zabl])]
  exact main none (.none g) (fun e1 h1 => by cases h1)
end
section
variable {x : Dw} {d : Dt} {S S' : HS}
theorem DI.pEq {a b : Dr} (ha : DI a S) (hb : DI b S) : S.pEq (some (HA.cell0 a.p)) (some (HA.cell0 b.p)) = some (decide (a.p = b.p)) := by
 have oa : S.ptrObj (HA.cell0 a.p) = true := by simp only [HS.ptrObj,HA.cell0,ha.cell]; simp
 have ob : S.ptrObj (HA.cell0 b.p) = true := by simp only [HS.ptrObj,HA.cell0,hb.cell]; simp
 by_cases h : a.p = b.p
 ·rw [decide_eq_true h]
  simp [HS.pEq,Go.Proofs.YtbmfomkfmpppiaaGreat.HL.pEq,HA.cell0,h]
 ·rw [decide_eq_false h]
  have h1 : ¬ ((HA.cell0 a.p).id = (HA.cell0 b.p).id ∧ (HA.cell0 a.p).i = (HA.cell0 b.p).i ∧ (HA.cell0 a.p).j = (HA.cell0 b.p).j) := fun g => h g.1
  have h2 : (HA.cell0 a.p).id ≠ (HA.cell0 b.p).id ∧ S.ptrObj (HA.cell0 a.p) = true ∧ S.ptrObj (HA.cell0 b.p) = true := ⟨h,oa,ob⟩
  have e1 : Go.Proofs.YtbmfomkfmpppiaaGreat.HL.pEq (some (HA.cell0 a.p)) (some (HA.cell0 b.p)) = none := by unfold Go.Proofs.YtbmfomkfmpppiaaGreat.HL.pEq; exact if_neg h1
  unfold HS.pEq
  rw [e1]
  exact if_pos h2
inductive DP (D : List Dr) (id : Int) (key : List UInt8) : Bool → List Dr → Prop
 | none (h : ∀ e ∈ D,e.key = key → id ∉ e.ids) : DP D id key false D
 | stay {A B e e'} (hD : D = A ++ e :: B) (hk : e.key = key) (hin : id ∈ e.ids) (hp : e'.p = e.p) (hn : e'.name = e.name) (hms : ∃ i,∃ hi : i < e.ms.length,(e.ms[i]'hi).1 = id ∧ e'.ms = e.ms.eraseIdx i) (hne : e'.ms ≠ []) : DP D id key true (A ++ e' :: B)
 | gone {A B e} (hD : D = A ++ e :: B) (hk : e.key = key) (hin : id ∈ e.ids) (hms : e.ms.length = 1) : DP D id key true (A ++ B)
theorem Zai7 {A B : List Dr} {e : Dr} (h : DocI x d S) (hD : d.D = A ++ e :: B) :
  ∃ s' S',Y5.L1 2000 2000 (some (HA.cell0 x.w)) (some (HA.cell0 e.p)) Sl.nil 0 S = some (true,S') ∧ DocI x ⟨s',A ++ B⟩ S' ∧ Chg (OD x d) (OD x ⟨s',A ++ B⟩) S S' := by
 have hcnt := h.cnt
 have he : e ∈ d.D := by rw [hD]; simp
 have hdis : ∀ y,y ∈ A ∨ y ∈ B → y.p ≠ e.p := fun y hy g => by
  have hpw := h.own
  rw [hD,Yad,Yah] at hpw
  obtain ⟨p1,⟨p2,p3⟩,p4⟩ := hpw
  rcases hy with hy | hy
  ·exact p4 y hy e (by simp) y.p (.inl rfl) (.inl g)
  ·exact p2 y hy y.p (.inl g) (.inl rfl)
 have hall : d.D.filter (fun a => !decide (a.p = e.p)) = A ++ B := by
  rw [hD,Ybf,List.filter_cons,if_neg (by simp)]
  congr 1
  ·exact List.filter_eq_self.2 fun a ha => by simpa using hdis a (.inl ha)
  ·exact List.filter_eq_self.2 fun a ha => by simpa using hdis a (.inr ha)
 have hloop : ∀ f i (T : HS) (y8 : Sl),d.D.length - i < f → i ≤ d.D.length → Fr S.next S T → Vec S.next T 1 y8 ((((d.D.take i).filter fun a => !decide (a.p = e.p)).map dptr).map PK.row1) →
   ∃ s' S',Y5.L1 2000 f (some (HA.cell0 x.w)) (some (HA.cell0 e.p)) y8 (i : Int) T = some (true,S') ∧ DocI x ⟨s',A ++ B⟩ S' ∧ Chg (OD x d) (OD x ⟨s',A ++ B⟩) S S' := by
  intro f
  induction f with
  | zero => intro i T y8 h; omega
  | succ f ih =>
   intro i T y8 hf hi hfr hv
   have hT := h.fr hfr
   have hle := hfr.le
   rw [Y5.L1,obs,hT.lds,obs,hT.slen]
   by_cases hlt : i < d.D.length
   ·obtain ⟨ad,a1,a2⟩ := hT.at_ hlt
    have hm := Yae hlt
    have hw : w64 ((i : Int) + 1) = ((i + 1 : Nat) : Int) := by rw [Zx6 (by omega) (by omega)]; simp
    have htk : (d.D.take (i + 1)).filter (fun a => !decide (a.p = e.p)) = (d.D.take i).filter (fun a => !decide (a.p = e.p)) ++ if (!decide (d.D[i].p = e.p)) = true then [d.D[i]] else [] := by
     rw [Yaf hlt,Ybf]
     congr 1
     rw [List.filter_cons,List.filter_nil]
    have hfl : ((d.D.take i).filter (fun a => !decide (a.p = e.p))).length ≤ 900 := by
     have := Ybg (fun a : Dr => !decide (a.p = e.p)) (d.D.take i)
     rw [Yar] at this
     omega
    rw [if_pos (by omega),obs,hT.lds,obs,a1,obs,a2,obs,(hT.rooms _ hm).pEq (hT.rooms _ he),obs]
    by_cases hc : d.D[i].p = e.p
    ·rw [decide_eq_true hc,if_neg (by simp),Y5.J2,hw]
     refine ih (i + 1) T y8 (by omega) (by omega) hfr ?_
     rw [htk,if_neg (by simpa using hc),Ya5]
     exact hv
    ·rw [decide_eq_false hc,if_pos (by simp),obs,hT.lds,obs,a1,obs,a2,obs,letv]
     obtain ⟨s6,S6,r5,e6,v6,f6⟩ := Zad3 [.ptr (some (HA.cell0 d.D[i].p))] hv hle (by simp; omega)
     rw [r5,obs,e6,obs,Y5.J2,hw]
     refine ih (i + 1) S6 s6 (by omega) (by omega) (hfr.trans f6) ?_
     rw [htk,if_pos (by simpa using hc)]
     have er : ((((d.D.take i).filter fun a => !decide (a.p = e.p)).map dptr).map PK.row1) ++ [[.ptr (some (HA.cell0 d.D[i].p))]] = ((((d.D.take i).filter fun a => !decide (a.p = e.p)) ++ [d.D[i]]).map dptr).map PK.row1 := by simp [PK.row1,dptr]
     rw [er] at v6
     exact v6
   ·obtain rfl : i = d.D.length := by omega
    rw [Yao,hall] at hv
    have hsub : ∀ y ∈ A ++ B,y ∈ d.D := fun y hy => by
     rw [hD]
     simp only [Yab,Yac] at hy ⊢
     rcases hy with g | g <;> simp [g]
    have hsl : (A ++ B).Sublist d.D := by rw [hD]; exact List.Sublist.append (List.Sublist.refl _) (List.sublist_cons_self _ _)
    obtain ⟨S7,e7,h7,ch7⟩ := h.put_list (S1 := T) (s' := y8) (D' := A ++ B) (fun y hy => hfr.eq y hy) hle hv.rows (fun q hq => by
     have hq' := hv.lo q hq
     exact ⟨by omega,by omega,fun y hy g => by have := (h.rooms y (hsub y hy)).lt g; omega⟩) (by have := hsl.length_le; omega) (fun y hy => hT.rooms y (hsub y hy)) (h.keys.sublist hsl) (h.own.sublist hsl) (fun y hy => h.nw y (hsub y hy)) (fun y hy id g => .inl (.inr (.inr ⟨y,hsub y hy,g⟩)))
    rw [if_neg (by omega),obs,e7,obs,Y5.J3]
    exact ⟨y8,S7,rfl,h7,ch7⟩
 exact hloop 2000 0 S Sl.nil (by omega) (Yak _) (Fr.refl _ _) (Vec.nil : Vec S.next S 1 Sl.nil [])
def DParted (x : Dw) (d : Dt) (S : HS) (id : Int) (key : List UInt8) (r : Option (Bool × HS)) : Prop :=
 ∃ b d' S',r = some (b,S') ∧ DocI x d' S' ∧ Chg (OD x d) (OD x d') S S' ∧ DP d.D id key b d'.D
theorem Zade (h : DocI x d S) (id : Int) (name : List UInt8) (hl : name.length ≤ 1000) : DParted x d S id (name.map low) (Y5.f 2000 (some (HA.cell0 x.w)) id name S) := by
 obtain ⟨o,S1,e1,ho,f1⟩ := Zacq h name hl
 have h1 := h.fr f1
 rw [Y5.f,e1,obs]
 cases ho with
 | none g =>
  rw [if_pos (by rfl),Y5.J0,if_pos rfl]
  exact ⟨false,d,S1,rfl,h1,Chg.of_fr f1,.none fun e he hk => absurd hk (g e he)⟩
 | @some e he hk =>
  rw [if_neg (by simp [Zabl])]
  by_cases hin : id ∈ e.ids
  ·obtain ⟨e',S2,e2,h2,hp,hn,hms,ch⟩ := Zahp (h1.rooms e he) id hin
   obtain ⟨A,B,hD⟩ := Ybb he
   obtain ⟨h3,ch3⟩ := h1.room_step hD h2 hp hn ch
   have e2' : Y36.f 2000 (Zabl (some e)) id S1 = some (true,S2) := e2
   have he' : e' ∈ A ++ e' :: B := by simp
   have hr2 := h3.rooms e' he'
   simp only
   rw [e2',obs,Y5.J0,if_neg (by simp)]
   have hd : Zabl (some e) = some (HA.cell0 e'.p) := by rw [hp]; rfl
   rw [hd,obs]
   simp only
   rw [hr2.ldS,obs,hr2.slen]
   have hch := (Chg.of_fr (O := OD x d) f1).trans ch3
   by_cases hz : e'.ms = []
   ·obtain ⟨s',S3,e3,h4,ch4⟩ := Zai7 (A := A) (B := B) (e := e') h3 rfl
    rw [if_pos (by rw [hz]; rfl),e3]
    refine ⟨true,_,S3,rfl,h4,hch.trans ch4,.gone hD hk hin ?_⟩
    obtain ⟨i,hi,_,hm⟩ := hms
    have := congrArg List.length hm
    rw [hz,List.length_eraseIdx_of_lt hi] at this
    simp at this
    omega
   ·rw [if_neg (fun g => hz (Yax.1 (by omega))),Y5.J3]
    exact ⟨true,_,S2,rfl,h3,hch,.stay hD hk hin hp hn hms hz⟩
  ·have e2' : Y36.f 2000 (Zabl (some e)) id S1 = some (false,S1) := ddrop_no (h1.rooms e he) id hin
   simp only
   rw [e2',obs,Y5.J0,if_pos (by rfl)]
   refine ⟨false,d,S1,rfl,h1,Chg.of_fr f1,.none fun y hy hky => ?_⟩
   rw [FndD.uniq h hy he (hky.trans hk.symm)]
   exact hin
end
structure RM (e : Rm) (g : Dr) : Prop where
 name : g.name = e.name
 ms : e.ms.Perm g.ms
theorem RM.key {e : Rm} {g : Dr} (h : RM e g) : g.key = e.key := by unfold Dr.key Rm.key; rw [h.name]
theorem RM.ids {e : Rm} {g : Dr} (h : RM e g) (id : Int) : id ∈ e.ids ↔ id ∈ g.ids := (h.ms.map (·.1)).mem_iff
inductive F2 : List Rm → List Dr → Prop
 | nil : F2 [] []
 | cons {e g R D} (h : RM e g) (t : F2 R D) : F2 (e :: R) (g :: D)
theorem F2.append {A B : List Rm} {A' B' : List Dr} (h : F2 A A') (k : F2 B B') : F2 (A ++ B) (A' ++ B') := by
 induction h with
 | nil => exact k
 | cons h t ih => exact .cons h ih
theorem F2.split : ∀ {A B : List Rm} {D : List Dr},F2 (A ++ B) D → ∃ A' B',D = A' ++ B' ∧ F2 A A' ∧ F2 B B'
 | [],B,D,h => ⟨[],D,rfl,.nil,h⟩
 | a :: A,B,D,h => by
  cases h with
  | cons h t =>
   obtain ⟨A',B',e,h1,h2⟩ := F2.split t
   exact ⟨_ :: A',B',by rw [e]; rfl,.cons h h1,h2⟩
theorem F2.len {R : List Rm} {D : List Dr} (h : F2 R D) : R.length = D.length := by
 induction h with
 | nil => rfl
 | cons _ _ ih => simp [ih]
theorem F2.left {R : List Rm} {D : List Dr} (h : F2 R D) : ∀ e ∈ R,∃ g ∈ D,RM e g := by
 induction h with
 | nil => intro e he; cases he
 | cons h t ih =>
  intro e he
  rcases Yac.1 he with rfl | he
  ·exact ⟨_,Yba,h⟩
  ·obtain ⟨g,h1,h2⟩ := ih e he
   exact ⟨g,Ya9 _ h1,h2⟩
theorem F2.right {R : List Rm} {D : List Dr} (h : F2 R D) : ∀ g ∈ D,∃ e ∈ R,RM e g := by
 induction h with
 | nil => intro e he; cases he
 | cons h t ih =>
  intro e he
  rcases Yac.1 he with rfl | he
  ·exact ⟨_,Yba,h⟩
  ·obtain ⟨g,h1,h2⟩ := ih e he
   exact ⟨g,Ya9 _ h1,h2⟩
theorem F2.filter {p : Rm → Bool} {q : Dr → Bool} (hpq : ∀ e g,RM e g → p e = q g) {R : List Rm} {D : List Dr} (h : F2 R D) : F2 (R.filter p) (D.filter q) := by
 induction h with
 | nil => exact .nil
 | @cons e g R D h t ih =>
  rw [List.filter_cons,List.filter_cons,hpq e g h]
  split
  ·exact .cons h ih
  ·exact ih
def Sim (R : List Rm) (D : List Dr) : Prop := ∃ D',D'.Perm D ∧ F2 R D'
theorem Sim.len {R : List Rm} {D : List Dr} (h : Sim R D) : R.length = D.length := by
 obtain ⟨D',h1,h2⟩ := h
 rw [h2.len,h1.length_eq]
theorem Sim.left {R : List Rm} {D : List Dr} (h : Sim R D) {e : Rm} (he : e ∈ R) : ∃ g ∈ D,RM e g := by
 obtain ⟨D',h1,h2⟩ := h
 obtain ⟨g,h3,h4⟩ := h2.left e he
 exact ⟨g,h1.subset h3,h4⟩
theorem Sim.right {R : List Rm} {D : List Dr} (h : Sim R D) {g : Dr} (hg : g ∈ D) : ∃ e ∈ R,RM e g := by
 obtain ⟨D',h1,h2⟩ := h
 exact h2.right g (h1.symm.subset hg)
def Zab3 (id : Int) (R : List Rm) : List Rm := R.filter fun e => decide (id ∈ e.ids)
theorem Zad5 {x : W} {t : T} {S : HS} (h : RsI x t S) {id : Int} {xs : List KS.Ky} (hs : KS.Srt xs) (hm : ∀ v,v ∈ xs ↔ (id,v) ∈ t.L) : (Zab3 id t.R).map Rm.key = xs := by
 refine KS.srt_ext ?_ hs fun v => ?_
 ·have hp : t.R.Pairwise fun a b => KS.klt a.key b.key = true := by
   have hs : (t.R.map ent).Pairwise fun a b => cmpL a.1 b.1 < 0 := h.book.srt
   rw [List.pairwise_map] at hs
   refine hs.imp fun {a b} g => ?_
   have g : cmpL a.name b.name < 0 := g
   rw [Zab9] at g
   unfold KS.klt Rm.key
   by_cases hc : slt (a.name.map low) (b.name.map low) = true
   ·exact hc
   ·rw [if_neg hc] at g
    split at g <;> omega
  unfold KS.Srt
  rw [List.pairwise_map]
  exact hp.sublist List.filter_sublist
 ·rw [hm,h.link]
  simp only [Zab3,Ya0,Ya8,decide_eq_true_eq]
  constructor
  ·rintro ⟨e,⟨h1,h2⟩,h3⟩; exact ⟨e,h1,h3,h2⟩
  ·rintro ⟨e,h1,h3,h2⟩; exact ⟨e,⟨h1,h2⟩,h3⟩
theorem Sim.cnt {R : List Rm} {D : List Dr} (h : Sim R D) (id : Int) : cntD D id = (Zab3 id R).length := by
 obtain ⟨D',h1,h2⟩ := h
 have h3 := F2.filter (p := fun e => decide (id ∈ e.ids)) (q := fun g => decide (id ∈ g.ids)) (fun e g k => by rw [decide_eq_decide]; exact k.ids id) h2
 unfold cntD Zab3
 rw [h3.len]
 exact ((h1.filter _).length_eq).symm
section
variable {x : W} {t : T} {S S0 : HS} {y : Dw} {d : Dt}
theorem Sim.keys (h : RsI x t S) (hs : Sim t.R d.D) (hd : DocI y d S0) {e : Rm} {g : Dr} (he : e ∈ t.R) (hg : g ∈ d.D) (hk : e.key = g.key) : RM e g := by
 obtain ⟨e',he',hr⟩ := hs.right hg
 rw [← h.key_uniq he' he (hr.key.symm.trans hk.symm)]
 exact hr
theorem Sim.change {A B : List Rm} {e e' : Rm} {A' B' : List Dr} {g g' : Dr} (h : RsI x t S) (hd : DocI y d S0) (hs : Sim t.R d.D) (hR : t.R = A ++ e :: B) (hD : d.D = A' ++ g :: B') (hk : e.key = g.key) :
  (RM e' g' → Sim (A ++ e' :: B) (A' ++ g' :: B')) ∧ Sim (A ++ B) (A' ++ B') := by
 obtain ⟨D1,h1,h2⟩ := hs
 rw [hR] at h2
 obtain ⟨A1,C1,e1,k1,k2⟩ := h2.split
 cases k2 with
 | @cons _ g1 _ B1 k3 k4 =>
  have hg1 : g1 ∈ d.D := h1.subset (by rw [e1]; simp)
  have hgD : g ∈ d.D := by rw [hD]; simp
  have : g1 = g := FndD.uniq hd hg1 hgD (k3.key.trans hk)
  subst this
  rw [e1,hD] at h1
  have hp : (A1 ++ B1).Perm (A' ++ B') := (List.perm_cons g1).1 (Ybc.symm.trans (h1.trans Ybc))
  exact ⟨fun hr => ⟨A1 ++ g' :: B1,Ybc.trans ((hp.cons _).trans Ybc.symm),k1.append (.cons hr k4)⟩,⟨A1 ++ B1,hp,k1.append k4⟩⟩
theorem Sim.add {R : List Rm} {D : List Dr} (hs : Sim R D) {e' : Rm} {g' : Dr} (hr : RM e' g') (i : Nat) : Sim (R.take i ++ e' :: R.drop i) (D ++ [g']) := by
 obtain ⟨D1,h1,h2⟩ := hs
 rw [← Yas i R] at h2
 obtain ⟨A1,B1,e1,k1,k2⟩ := h2.split
 rw [e1] at h1
 exact ⟨A1 ++ g' :: B1,Ybc.trans ((h1.cons _).trans (List.perm_append_singleton _ _).symm),k1.append (.cons hr k2)⟩
def nameR (R : List Rm) (q : Option HA) (n : List UInt8) : Prop := (q = none ∧ n = []) ∨ ∃ e ∈ R,q = some (HA.cell0 e.p) ∧ n = e.name
def nameD (D : List Dr) (q : Option HA) (n : List UInt8) : Prop := (q = none ∧ n = []) ∨ ∃ e ∈ D,q = some (HA.cell0 e.p) ∧ n = e.name
theorem sim_join (h : RsI x t S) (hd : DocI y d S0) (hs : Sim t.R d.D) (hmR : x.mR = y.mR) (hmJ : x.mJ = y.mJ) {id : Int} {name : List UInt8} {q q' : Option HA} {c c' : Int} {R' : List Rm} {L' : List Pr} {D' : List Dr} (hj : JRes x t id name q c R' L') (hj' : DJ y d.D id name q' c' D') :
  c = c' ∧ Sim R' D' ∧ q.isNone = q'.isNone ∧ ∃ n,nameR R' q n ∧ nameD D' q' n := by
 obtain ⟨xs,k1,k2,_,_⟩ := h.rel.at1 id
 have hcnt : cntD d.D id = xs.length := by rw [hs.cnt,← Zad5 h k1 k2]; simp
 have hnR : ∀ {e : Rm},e ∈ t.R → e.key = name.map low → ¬ ∀ g ∈ d.D,g.key ≠ name.map low := fun he hk g => by
  obtain ⟨g1,h1,h2⟩ := hs.left he
  exact g g1 h1 (h2.key.trans hk)
 have hnD : ∀ {g : Dr},g ∈ d.D → g.key = name.map low → ¬ ∀ e ∈ t.R,e.key ≠ name.map low := fun hg hk g => by
  obtain ⟨e1,h1,h2⟩ := hs.right hg
  exact g e1 h1 (h2.key.symm.trans hk)
 have hlen := hs.len
 cases hj with
 | @stay e he hk hin =>
  cases hj' with
  | @stay g hg hk' hin' =>
   have hr := hs.keys h hd he hg (hk.trans hk'.symm)
   exact ⟨rfl,hs,rfl,e.name,.inr ⟨e,he,rfl,rfl⟩,.inr ⟨g,hg,rfl,hr.name.symm⟩⟩
  | full hnot hf =>
   obtain ⟨g,hg,hr⟩ := hs.left he
   exact absurd ((hr.ids id).1 hin) (hnot g hg (hr.key.trans hk))
  | @come A B g g' hD hk' hnot hp hn hms hc =>
   have hg : g ∈ d.D := by rw [hD]; simp
   have hr := hs.keys h hd he hg (hk.trans hk'.symm)
   exact absurd ((hr.ids id).1 hin) hnot
  | new hno _ _ _ _ => exact absurd hno (hnR he hk)
 | full hnot hf =>
  cases hj' with
  | @stay g hg hk' hin' =>
   obtain ⟨e,he,hr⟩ := hs.right hg
   exact absurd ((h.link _ _).2 ⟨e,he,hr.key.symm.trans hk',(hr.ids id).2 hin'⟩) hnot
  | full hnot' hf' => exact ⟨rfl,hs,rfl,[],.inl ⟨rfl,rfl⟩,.inl ⟨rfl,rfl⟩⟩
  | @come A B g g' hD hk' hnot' hp hn hms hc =>
   have hg : g ∈ d.D := by rw [hD]; simp
   rcases hf with k | ⟨k,_⟩
   ·have := k xs k1 k2; omega
   ·exact absurd k (hnD hg hk')
  | new hno hn hms hl hc =>
   rcases hf with k | ⟨_,k⟩
   ·have := k xs k1 k2; omega
   ·omega
 | @come A B e e' hR hk hnot hp hn hms hc =>
  have he : e ∈ t.R := by rw [hR]; simp
  cases hj' with
  | @stay g hg hk' hin' =>
   have hr := hs.keys h hd he hg (hk.trans hk'.symm)
   exact absurd ((hr.ids id).2 hin') hnot
  | full hnot' hf' =>
   have := hc xs k1 k2
   rcases hf' with k | ⟨k,_⟩
   ·omega
   ·exact absurd k (hnR he hk)
  | @come A' B' g g' hD hk' hnot' hp' hn' hms' hc' =>
   have hg : g ∈ d.D := by rw [hD]; simp
   have hr := hs.keys h hd he hg (hk.trans hk'.symm)
   have hr' : RM e' g' := by
    refine ⟨by rw [hn',hn,hr.name],?_⟩
    obtain ⟨i,hi⟩ := hms
    rw [hi,hms',Ya6,List.singleton_append]
    refine Ybc.trans ?_
    rw [Yas]
    exact (hr.ms.cons _).trans (List.perm_append_singleton _ _).symm
   exact ⟨rfl,(Sim.change h hd hs hR hD (hk.trans hk'.symm)).1 hr',rfl,e'.name,.inr ⟨e',by simp,rfl,rfl⟩,.inr ⟨g',by simp,rfl,hr'.name.symm⟩⟩
  | new hno _ _ _ _ => exact absurd hno (hnR he hk)
 | @new i e' hno hn hms hl hc =>
  have hcx := hc xs k1 k2
  cases hj' with
  | @stay g hg hk' hin' => exact absurd hno (hnD hg hk')
  | full hnot' hf' =>
   rcases hf' with k | ⟨_,k⟩
   ·omega
   ·omega
  | @come A' B' g g' hD hk' hnot' hp' hn' hms' hc' =>
   have hg : g ∈ d.D := by rw [hD]; simp
   exact absurd hno (hnD hg hk')
  | @new g' hno' hn' hms' hl' hc' =>
   have hr' : RM e' g' := ⟨by rw [hn',hn],by rw [hms,hms']⟩
   exact ⟨rfl,hs.add hr' i,rfl,e'.name,.inr ⟨e',by simp,rfl,rfl⟩,.inr ⟨g',by simp,rfl,hr'.name.symm⟩⟩
theorem Zadf {xs : List MK.En} {i : Nat} (hi : i < xs.length) : xs.Perm (xs[i] :: xs.eraseIdx i) := by
 have e : xs = xs.take i ++ xs[i] :: xs.drop (i + 1) := by rw [← Yal hi,Yas]
 rw [List.eraseIdx_eq_take_drop_succ]
 conv => lhs; rw [e]
 exact Ybc
theorem Zahr {xs ys : List MK.En} (h : xs.Perm ys) (hn : (ys.map (·.1)).Nodup) {i j : Nat} (hi : i < xs.length) (hj : j < ys.length) (he : (xs[i]'hi).1 = (ys[j]'hj).1) : (xs.eraseIdx i).Perm (ys.eraseIdx j) := by
 have h1 : xs.Perm (xs[i] :: xs.eraseIdx i) := Zadf hi
 have h2 : ys.Perm (ys[j] :: ys.eraseIdx j) := Zadf hj
 have h3 : xs[i] = ys[j] := by
  have hm : xs[i] ∈ ys := h.subset (Yae hi)
  obtain ⟨k,hk,e⟩ := Yag hm
  have : k = j := by
   have hne := Yap.1 (List.nodup_iff_pairwise_ne.1 hn)
   have hkj : (ys[k]'hk).1 = (ys[j]'hj).1 := by rw [e,he]
   rcases Nat.lt_trichotomy k j with g | g | g
   ·exact absurd (by rw [Yaj,Yaj]; exact hkj) (hne k j (by simpa using hk) (by simpa using hj) g)
   ·exact g
   ·exact absurd (by rw [Yaj,Yaj]; exact hkj.symm) (hne j k (by simpa using hj) (by simpa using hk) g)
  subst this
  exact e.symm
 rw [h3] at h1
 exact (List.perm_cons _).1 (h1.symm.trans (h.trans h2))
theorem Zagx (h : RsI x t S) (hd : DocI y d S0) (hs : Sim t.R d.D) {id : Int} {key : List UInt8} {b : Bool} {R' : List Rm} {L' : List Pr} {D' : List Dr} (hj : PRes t id key R' L') (hj' : DP d.D id key b D') : decide ((id,key) ∈ t.L) = b ∧ Sim R' D' := by
 have hnR : ∀ {e : Rm},e ∈ t.R → e.key = key → id ∈ e.ids → ¬ ∀ g ∈ d.D,g.key = key → id ∉ g.ids := fun he hk hin g => by
  obtain ⟨g1,h1,h2⟩ := hs.left he
  exact g g1 h1 (h2.key.trans hk) ((h2.ids id).1 hin)
 have hL : ∀ {e : Rm},e ∈ t.R → e.key = key → id ∈ e.ids → decide ((id,key) ∈ t.L) = true := fun he hk hin => decide_eq_true ((h.link _ _).2 ⟨_,he,hk,hin⟩)
 have hnD : ∀ {g : Dr},g ∈ d.D → g.key = key → id ∈ g.ids → (id,key) ∈ t.L := fun hg hk hin => by
  obtain ⟨e1,h1,h2⟩ := hs.right hg
  exact (h.link _ _).2 ⟨e1,h1,h2.key.symm.trans hk,(h2.ids id).2 hin⟩
 cases hj with
 | none hno =>
  cases hj' with
  | none _ => exact ⟨decide_eq_false hno,hs⟩
  | @stay A B g g' hD hk' hin' _ _ _ _ => exact absurd (hnD (by rw [hD]; simp) hk' hin') hno
  | @gone A B g hD hk' hin' _ => exact absurd (hnD (by rw [hD]; simp) hk' hin') hno
 | @stay A B e e' hR hk hin hp hn hms hne =>
  have he : e ∈ t.R := by rw [hR]; simp
  obtain ⟨i,_,hf,hms⟩ := hms
  obtain ⟨hi,hid⟩ := MK.found_at hf
  cases hj' with
  | none hno => exact absurd hno (hnR he hk hin)
  | @stay A' B' g g' hD hk' hin' hp' hn' hms' hne' =>
   have hg : g ∈ d.D := by rw [hD]; simp
   have hr := hs.keys h hd he hg (hk.trans hk'.symm)
   obtain ⟨j,hj,hjd,hms'⟩ := hms'
   have hr' : RM e' g' := ⟨by rw [hn',hn,hr.name],by rw [hms,hms']; exact Zahr hr.ms (hd.rooms g hg).nd hi hj (hid.trans hjd.symm)⟩
   exact ⟨hL he hk hin,(Sim.change h hd hs hR hD (hk.trans hk'.symm)).1 hr'⟩
  | @gone A' B' g hD hk' hin' hms' =>
   have hg : g ∈ d.D := by rw [hD]; simp
   have hr := hs.keys h hd he hg (hk.trans hk'.symm)
   have h1 := hr.ms.length_eq
   exfalso
   apply hne
   apply Yax.1
   rw [hms,List.length_eraseIdx_of_lt hi]
   omega
 | @gone A B e hR hk hin hms =>
  have he : e ∈ t.R := by rw [hR]; simp
  cases hj' with
  | none hno => exact absurd hno (hnR he hk hin)
  | @stay A' B' g g' hD hk' hin' hp' hn' hms' hne' =>
   have hg : g ∈ d.D := by rw [hD]; simp
   have hr := hs.keys h hd he hg (hk.trans hk'.symm)
   have h1 := hr.ms.length_eq
   obtain ⟨j,hj,hjd,hms'⟩ := hms'
   exfalso
   apply hne'
   apply Yax.1
   rw [hms',List.length_eraseIdx_of_lt hj]
   omega
  | @gone A' B' g hD hk' hin' hms' =>
   exact ⟨hL he hk hin,(Sim.change (e' := e) (g' := g) h hd hs hR hD (hk.trans hk'.symm)).2⟩
end
theorem Zagy : ∀ {A B : List Dr},SrtD A → SrtD B → A.Perm B → A = B
 | [],B,_,_,h => (List.nil_perm.1 h).symm ▸ rfl
 | a :: A,[],_,_,h => absurd (List.perm_nil.1 h) (by simp)
 | a :: A,b :: B,hA,hB,h => by
  have hA' := Yah.1 hA
  have hB' := Yah.1 hB
  have hab : a = b := by
   have h1 : a ∈ b :: B := h.subset (Yba)
   have h2 : b ∈ a :: A := h.symm.subset (Yba)
   rcases Yac.1 h1 with e | g1
   ·exact e
   rcases Yac.1 h2 with e | g2
   ·exact e.symm
   have k1 := hB'.1 a g1
   have k2 := hA'.1 b g2
   rw [Zzp] at k2
   omega
  subst hab
  rw [Zagy hA'.2 hB'.2 ((List.perm_cons _).1 h)]
theorem F2.srt {R : List Rm} {D : List Dr} (h : F2 R D) (hs : R.Pairwise fun a b => cmpL a.name b.name < 0) : SrtD D := by
 induction h with
 | nil => exact List.Pairwise.nil
 | @cons e g R D hr t ih =>
  have hs' := Yah.1 hs
  refine Yah.2 ⟨fun g' hg' => ?_,ih hs'.2⟩
  obtain ⟨e',he',hr'⟩ := t.right g' hg'
  rw [hr.name,hr'.name]
  exact hs'.1 e' he'
theorem Zacr {x : W} {t : T} {S : HS} (h : RsI x t S) {D L : List Dr} (hs : Sim t.R D) (p : Rm → Bool) (q : Dr → Bool) (hpq : ∀ e g,RM e g → p e = q g) (hp : L.Perm (D.filter q)) (hL : SrtD L) : F2 (t.R.filter p) L := by
 obtain ⟨D',h1,h2⟩ := hs
 have h3 := F2.filter hpq h2
 have hsR : (t.R.filter p).Pairwise fun a b => cmpL a.name b.name < 0 := by
  have hs : (t.R.map ent).Pairwise fun a b => cmpL a.1 b.1 < 0 := h.book.srt
  rw [List.pairwise_map] at hs
  exact List.Pairwise.sublist List.filter_sublist hs
 have : D'.filter q = L := Zagy (h3.srt hsR) hL ((h1.filter q).trans hp.symm)
 rw [← this]
 exact h3
theorem Zahs {n : Nat} {H : Hd} {e : Rm} {S : HS} (h : RI e S) {m : MK.En} (hm : m ∈ e.ms) : ∃ S',Y77.f (disp 2000 (n + 1)) H 2000 (some (HA.cell0 e.p)) m.1 S = some ((m.1,m.2.1,m.2.2,true),S') ∧ Fr S.next S S' := by
 rw [Y77.f,letv]
 have f0 : Fr S.next S (S.new (.cells 3 [[.int .i64 0,.bool false,.bool false]] true)) := Fr.new (Yaa _) _
 have c0 : (S.new (.cells 3 [[.int .i64 0,.bool false,.bool false]] true)).heap S.next = .cells 3 [[.int .i64 0,.bool false,.bool false]] true := Zxx _ _
 have n0 : (S.new (.cells 3 [[.int .i64 0,.bool false,.bool false]] true)).next = S.next + 1 := rfl
 generalize S.new (.cells 3 [[.int .i64 0,.bool false,.bool false]] true) = S0 at f0 c0 n0 ⊢
 have h0 := h.fr f0
 obtain ⟨i,S1,e1,hp,f1⟩ := Zaga (n := n) (H := H) (k := 2000) (Yaa _) h0 m.1
 have h1 := h0.fr f1
 have c1 := (f1.eq S.next (by omega)).trans c0
 have l1 := f1.le
 have hin : m.1 ∈ e.ids := Ya0.2 ⟨m,hm,rfl⟩
 have hf := (MK.found_iff hp h.srt).2 hin
 obtain ⟨hi,hid⟩ := MK.found_at hf
 have hmi : e.ms[i] = m := by
  obtain ⟨j,hj,rfl⟩ := Yag hm
  have hs : e.ms.Pairwise fun a b => MK.cmpI a.1 b.1 < 0 := h.srt
  rcases Nat.lt_trichotomy i j with g | g | g
  ·have := Yap.1 hs i j hi hj g
   rw [(MK.cmpI_zero _ _).2 hid] at this; omega
  ·subst g; rfl
  ·have := Yap.1 hs j i hj hi g
   rw [(MK.cmpI_zero _ _).2 hid.symm] at this; omega
 rw [e1,obs]
 have hs : S1.sets (HA.cell0 S.next) [.int .i64 m.1,.bool m.2.1,.bool m.2.2] = some (S1.put S.next (.cells 3 [[.int .i64 m.1,.bool m.2.1,.bool m.2.2]] true)) := (Zyv c1 rfl (by simp)).trans rfl
 obtain ⟨ad,a1,a2,a3,a4⟩ := MK.en_rows h1.ov.rows hi
 rw [hmi] at a2 a3 a4
 rw [if_neg (by simp [hf]),obs,h1.ldS,obs]
 simp only
 rw [a1,obs,a2,obs,a3,obs,a4,obs,hs,obs,Zyb (Zxu (Zxv _ _ _)) rfl rfl,obs,Zabq (Zxu (Zxv _ _ _)) rfl rfl,obs,Zabq (Zxu (Zxv _ _ _)) rfl rfl,obs]
 exact ⟨_,rfl,f0.trans ((f1.mono (by omega)).trans (Fr.put (Yaa _) _))⟩
theorem putG {U : HS} {l : Nat} {o o' : HObj} (h : U.heap l = o') : (U.put l o).put l o' = U := by
 unfold HS.put
 simp only
 congr 1
 funext y
 by_cases hy : y = l
 ·subst hy; simp [h]
 ·simp [hy]
structure Gs (b : Nat) (sl : Sl) (i : Nat) (K : Nat → Prop) (S U : HS) : Prop where
 c0 : U.heap b = .cells 1 [[sl.hv]] true
 c1 : U.heap (b + 1) = .cells 1 [[.bool false]] true
 c2 : U.heap (b + 2) = .cells 1 [[.int .i64 i]] true
 c3 : U.heap (b + 3) = .cells 1 [[.bool true]] true
 old : ∀ y,y < b → ¬ K y → U.heap y = S.heap y
 nx : b + 4 ≤ U.next
theorem Zae2 {n : Nat} {b l : Nat} {sl : Sl} {K : Nat → Prop} {S : HS} {i : Nat} {e : Rm} {g : Dr} {L : List Dr} (hrm : RM e g) (hre : RI e S) (hdg : ∀ e ∈ L,DI e S) (hb : b = S.next) (hi : i < L.length) (hg : L[i] = g) (hsl : S.rows sl 1 = some ((L.map dptr).map PK.row1)) (hKe : ∀ y,OwnR e y → ¬ K y) (hKg : ∀ y,OwnD g y → ¬ K y) (hKs : ∀ q,sl.a = some q → q.1 < S.next ∧ ¬ K q.1) (hil : L.length ≤ 1000) (hml : g.ms.length ≤ 900) :
  ∀ f k (V : HS),g.ms.length - k < f → k ≤ g.ms.length → Gs b sl i K S V → b + 6 ≤ V.next →
  ∃ V',Y13.L2 (disp 2000 (n + 1)) (fun _ => none) 2000 l f (some (HA.cell0 b)) (some (HA.cell0 (b + 2))) (some (HA.cell0 (b + 3))) (some (HA.cell0 e.p)) (k : Int) V = V'.endr l none ∧ Gs b sl (i + 1) K S V' ∧ (∀ y,y < V.next → y ≠ b + 2 → y ≠ b + 3 → V'.heap y = V.heap y) ∧ V.next ≤ V'.next := by
 intro f
 induction f with
 | zero => intro k V h; omega
 | succ f ih =>
  intro k V hf hk hV hn
  have hdV : ∀ V : HS,Gs b sl i K S V → DI g V := fun V hV => by
   have := hdg L[i] (Yae hi)
   rw [hg] at this
   exact this.keep (fun y ho => hV.old y (by have := this.lt ho; omega) (hKg y ho)) (by have := hV.nx; omega)
  have hrV : ∀ V : HS,Gs b sl i K S V → RI e V := fun V hV => hre.keep (fun y ho => hV.old y (by have := hre.lt ho; omega) (hKe y ho)) (by have := hV.nx; omega)
  have hsV : ∀ V : HS,Gs b sl i K S V → ∃ ad,V.idx sl (i : Int) 1 = some ad ∧ V.ldP ad = some (some (HA.cell0 g.p)) := fun V hV => by
   have hr : V.rows sl 1 = some ((L.map dptr).map PK.row1) := Zyc hsl fun q hq => hV.old _ (by have := (hKs q hq).1; omega) (hKs q hq).2
   obtain ⟨ad,h1,h2⟩ := PK.ldK_at hr (i := i) (by simpa using hi)
   rw [Yaj,hg] at h2
   exact ⟨ad,h1,h2⟩
  have hd := hdV V hV
  obtain ⟨ad,a1,a2⟩ := hsV V hV
  rw [Y13.L2,obs,Zy8 hV.c0,obs,obs,Zza hV.c2,obs,a1,obs,a2,obs,obs,hd.ldS,obs,hd.slen]
  by_cases hlt : k < g.ms.length
  ·obtain ⟨am,m1,m2,m3,m4⟩ := MK.en_rows hd.rows hlt
   have hw : w64 ((k : Int) + 1) = ((k + 1 : Nat) : Int) := by rw [Zx6 (by omega) (by omega)]; simp
   rw [if_pos (by omega),obs,Zy8 hV.c0,obs,obs,Zza hV.c2,obs,a1,obs,a2,obs,obs,hd.ldS,obs,m1,obs,m2,obs]
   have hmem : g.ms[k] ∈ e.ms := hrm.ms.symm.subset (Yae hlt)
   obtain ⟨V1,e1,f1⟩ := Zahs (n := n) (H := fun _ => none) (hrV V hV) hmem
   have l1 := f1.le
   rw [e1,obs,letv]
   have hs0 : (V1.new (.cells 3 [[.int .i64 0,.bool false,.bool false]] true)).sets (HA.cell0 V1.next) [.int .i64 g.ms[k].1,.bool g.ms[k].2.1,.bool g.ms[k].2.2] = some ((V1.new (.cells 3 [[.int .i64 0,.bool false,.bool false]] true)).put V1.next (.cells 3 [[.int .i64 g.ms[k].1,.bool g.ms[k].2.1,.bool g.ms[k].2.2]] true)) := (Zyv (Zxx V1 _) rfl (by simp)).trans rfl
   simp only
   rw [hs0,obs]
   have f2 : Fr V1.next V1 ((V1.new (.cells 3 [[.int .i64 0,.bool false,.bool false]] true)).put V1.next (.cells 3 [[.int .i64 g.ms[k].1,.bool g.ms[k].2.1,.bool g.ms[k].2.2]] true)) := (Fr.new (Yaa _) _).trans (Fr.put (Yaa _) _)
   have cN : ((V1.new (.cells 3 [[.int .i64 0,.bool false,.bool false]] true)).put V1.next (.cells 3 [[.int .i64 g.ms[k].1,.bool g.ms[k].2.1,.bool g.ms[k].2.2]] true)).heap V1.next = .cells 3 [[.int .i64 g.ms[k].1,.bool g.ms[k].2.1,.bool g.ms[k].2.2]] true := Zxv _ _ _
   have n2 : ((V1.new (.cells 3 [[.int .i64 0,.bool false,.bool false]] true)).put V1.next (.cells 3 [[.int .i64 g.ms[k].1,.bool g.ms[k].2.1,.bool g.ms[k].2.2]] true)).next = V1.next + 1 := rfl
   generalize (V1.new (.cells 3 [[.int .i64 0,.bool false,.bool false]] true)).put V1.next (.cells 3 [[.int .i64 g.ms[k].1,.bool g.ms[k].2.1,.bool g.ms[k].2.2]] true) = V2 at f2 cN n2 ⊢
   have fr : Fr V.next V V2 := f1.trans (f2.mono l1)
   have hV2 : Gs b sl i K S V2 := ⟨(fr.eq _ (by omega)).trans hV.c0,(fr.eq _ (by omega)).trans hV.c1,(fr.eq _ (by omega)).trans hV.c2,(fr.eq _ (by omega)).trans hV.c3,fun y h1 h2 => (fr.eq y (by omega)).trans (hV.old y h1 h2),by omega⟩
   have hd2 := hdV V2 hV2
   obtain ⟨ad2,b1,b2⟩ := hsV V2 hV2
   obtain ⟨am2,p1,p2,p3,p4⟩ := MK.en_rows hd2.rows hlt
   rw [obs,Zab5 hV2.c3,obs,if_pos rfl,if_pos trivial,Zyb (Zxu cN) rfl rfl,obs,Zabq (Zxu cN) rfl rfl,obs,Zabq (Zxu cN) rfl rfl,obs,obs,Zy8 hV2.c0,obs,obs,Zza hV2.c2,obs,b1,obs,b2,obs,obs,hd2.ldS,obs,p1,obs,p2,obs,p3,obs,p4,obs]
   have hks : Zz1 [.int .i64 g.ms[k].1,.bool g.ms[k].2.1,.bool g.ms[k].2.2] [.int .i64 g.ms[k].1,.bool g.ms[k].2.1,.bool g.ms[k].2.2] = some true := by simp [Zz1,Zyn]
   rw [hks,obs,obs,Zze _ hV2.c3,obs,hw]
   have hV3 : Gs b sl i K S (V2.put (b + 3) (.cells 1 [[.bool true]] true)) := ⟨(Zxe _ (by omega)).trans hV2.c0,(Zxe _ (by omega)).trans hV2.c1,(Zxe _ (by omega)).trans hV2.c2,Zxv _ _ _,fun y h1 h2 => (Zxe _ (by omega)).trans (hV2.old y h1 h2),hV2.nx⟩
   obtain ⟨V',e5,h5,k5,n5⟩ := ih (k + 1) _ (by omega) (by omega) hV3 (by rw [Zxw]; omega)
   rw [Zxw] at k5 n5
   exact ⟨V',e5,h5,fun y h1 h2 h3 => (k5 y (by omega) h2 h3).trans ((Zxe _ h3).trans (fr.eq y h1)),by omega⟩
  ·rw [if_neg (by omega),obs,Zza hV.c2,obs,obs,Zze _ hV.c2,obs,Zx6 (by omega) (by omega),show ((i : Int) + 1) = ((i + 1 : Nat) : Int) by simp]
   exact ⟨_,rfl,⟨(Zxe _ (by omega)).trans hV.c0,(Zxe _ (by omega)).trans hV.c1,Zxv _ _ _,(Zxe _ (by omega)).trans hV.c3,fun y h1 h2 => (Zxe _ (by omega)).trans (hV.old y h1 h2),hV.nx⟩,fun y _ h2 _ => Zxe _ h2,Yaa _⟩
theorem Zae3 {n : Nat} {fn : Fn} {u v : List HV} {Rs : List Rm} {L : List Dr} {K : Nat → Prop} {S : HS} {sl : Sl} (hT : Tells (disp 2000 (n + 1)) (.fn fn u v) (Rs.map fun e => [HV.ptr (some (HA.cell0 e.p))]) K S) (hK : ∀ y,K y → y < S.next) (hF : F2 Rs L) (hre : ∀ e ∈ Rs,RI e S) (hdg : ∀ g ∈ L,DI g S)
  (hsl : S.rows sl 1 = some ((L.map dptr).map PK.row1)) (hKe : ∀ e ∈ Rs,∀ y,OwnR e y → ¬ K y) (hKg : ∀ g ∈ L,∀ y,OwnD g y → ¬ K y) (hKs : ∀ q,sl.a = some q → q.1 < S.next ∧ ¬ K q.1) (hl : L.length ≤ 900) :
  ∃ S',Y13.f (disp 2000 (n + 1)) (fun _ => none) 2000 (.fn fn u v) sl S = some (true,S') ∧ Fr S.next S S' := by
 have hFl := hF.len
 have hsln : (sl.len : Int) = L.length := by rw [← Zx7 hsl]; simp
 have hat : ∀ {A : List Rm} {B : List Dr},F2 A B → ∀ i (h1 : i < A.length) (h2 : i < B.length),RM A[i] B[i] := by
  intro A B h
  induction h with
  | nil => intro i h1; simp at h1
  | cons h t ih =>
   intro i h1 h2
   cases i with
   | zero => exact h
   | succ i => exact ih i (by simpa using h1) (by simpa using h2)
 rw [Y13.f,letv,letv,letv]
 simp only [Zx2]
 have f3 : Fr S.next S (((S.new (.cells 1 [[sl.hv]] true)).new (.cells 1 [[.bool false]] true)).new (.cells 1 [[.int .i64 0]] true)) := (Fr.new (Yaa _) _).trans ((Fr.new (by simp only [Zx2]; omega) _).trans (Fr.new (by simp only [Zx2]; omega) _))
 have c0 : (((S.new (.cells 1 [[sl.hv]] true)).new (.cells 1 [[.bool false]] true)).new (.cells 1 [[.int .i64 0]] true)).heap S.next = .cells 1 [[sl.hv]] true := by
  rw [Zyy _ (by simp only [Zx2]; omega),Zyy _ (by simp only [Zx2]; omega)]; exact Zxx _ _
 have c1 : (((S.new (.cells 1 [[sl.hv]] true)).new (.cells 1 [[.bool false]] true)).new (.cells 1 [[.int .i64 0]] true)).heap (S.next + 1) = .cells 1 [[.bool false]] true := by
  rw [Zyy _ (by simp only [Zx2]; omega)]; exact Zxx (S.new _) _
 have c2 : (((S.new (.cells 1 [[sl.hv]] true)).new (.cells 1 [[.bool false]] true)).new (.cells 1 [[.int .i64 0]] true)).heap (S.next + 2) = .cells 1 [[.int .i64 0]] true := Zxx ((S.new _).new _) _
 have n3 : (((S.new (.cells 1 [[sl.hv]] true)).new (.cells 1 [[.bool false]] true)).new (.cells 1 [[.int .i64 0]] true)).next = S.next + 3 := rfl
 generalize ((S.new (.cells 1 [[sl.hv]] true)).new (.cells 1 [[.bool false]] true)).new (.cells 1 [[.int .i64 0]] true) = S1 at f3 c0 c1 c2 n3 ⊢
 rw [show S.next + 1 + 1 = S.next + 2 from rfl,Zze _ c2,obs,letv,Zxw,n3]
 have f4 : Fr S.next S ((S1.put (S.next + 2) (.cells 1 [[.int .i64 0]] true)).new (.cells 1 [[.bool false]] true)) := f3.trans ((Fr.put (by omega) _).trans (Fr.new (by rw [Zxw]; omega) _))
 have d0 : ((S1.put (S.next + 2) (.cells 1 [[.int .i64 0]] true)).new (.cells 1 [[.bool false]] true)).heap S.next = .cells 1 [[sl.hv]] true := by
  rw [Zyy _ (by rw [Zxw]; omega),Zxe _ (by omega)]; exact c0
 have d1 : ((S1.put (S.next + 2) (.cells 1 [[.int .i64 0]] true)).new (.cells 1 [[.bool false]] true)).heap (S.next + 1) = .cells 1 [[.bool false]] true := by
  rw [Zyy _ (by rw [Zxw]; omega),Zxe _ (by omega)]; exact c1
 have d2 : ((S1.put (S.next + 2) (.cells 1 [[.int .i64 0]] true)).new (.cells 1 [[.bool false]] true)).heap (S.next + 2) = .cells 1 [[.int .i64 0]] true := by
  rw [Zyy _ (by rw [Zxw]; omega)]; exact Zxv _ _ _
 have d3 : ((S1.put (S.next + 2) (.cells 1 [[.int .i64 0]] true)).new (.cells 1 [[.bool false]] true)).heap (S.next + 3) = .cells 1 [[.bool false]] true := by
  rw [← n3,show S1.next = (S1.put (S.next + 2) (.cells 1 [[.int .i64 0]] true)).next from rfl]; exact Zxx _ _
 have n4 : ((S1.put (S.next + 2) (.cells 1 [[.int .i64 0]] true)).new (.cells 1 [[.bool false]] true)).next = S.next + 4 := by rw [Zx2,Zxw,n3]
 generalize (S1.put (S.next + 2) (.cells 1 [[.int .i64 0]] true)).new (.cells 1 [[.bool false]] true) = S2 at f4 d0 d1 d2 d3 n4 ⊢
 rw [Zze _ d3,obs]
 have f5 : Fr S.next S (S2.put (S.next + 3) (.cells 1 [[.bool true]] true)) := f4.trans (Fr.put (by omega) _)
 have b0 := (Zxe (S := S2) (i := S.next) (id := S.next + 3) (.cells 1 [[.bool true]] true) (by omega)).trans d0
 have b1 := (Zxe (S := S2) (i := S.next + 1) (id := S.next + 3) (.cells 1 [[.bool true]] true) (by omega)).trans d1
 have b2 := (Zxe (S := S2) (i := S.next + 2) (id := S.next + 3) (.cells 1 [[.bool true]] true) (by omega)).trans d2
 have b3 := Zxv S2 (S.next + 3) (.cells 1 [[.bool true]] true)
 have n5 : (S2.put (S.next + 3) (.cells 1 [[.bool true]] true)).next = S.next + 4 := n4
 generalize S2.put (S.next + 3) (.cells 1 [[.bool true]] true) = S3 at f5 b0 b1 b2 b3 n5 ⊢
 simp only [HV.isNilFn,obs,Bool.false_eq_true,if_false]
 have hT3 := hT.move (B' := S3) fun y g => f5.eq y (hK y g)
 have hlen : (Rs.map fun e => [HV.ptr (some (HA.cell0 e.p))]).length = Rs.length := by simp
 obtain ⟨T,st,S4,O',e4,e5,de,n6,ch,lt,hnn,hq⟩ := Zaag (D := disp 2000 (n + 1)) (H := fun _ => none) (fv := .fn fn u v) (S := S3) (hd := fun vs T =>
   Option.bind (HS.lp T (S3.next + 1)) fun _ => Option.bind (Zaad vs) fun ar => Option.bind (dP ar) fun p => Y13.J0 (disp 2000 (n + 1)) (fun _ => none) 2000 (S3.next + 1) (some (HA.cell0 S.next)) (some (HA.cell0 (S.next + 1))) (some (HA.cell0 (S.next + 2))) (some (HA.cell0 (S.next + 3))) p T)
  (bd := fun i U => if hi : i < Rs.length then Y13.J0 (disp 2000 (n + 1)) (fun _ => none) 2000 (S3.next + 1) (some (HA.cell0 S.next)) (some (HA.cell0 (S.next + 1))) (some (HA.cell0 (S.next + 2))) (some (HA.cell0 (S.next + 3))) (some (HA.cell0 Rs[i].p)) (U.put (S3.next + 1) (.loop .ready none)) else none)
  hT3 (fun y g => by have := hK y g; omega) (fun i O U => Gs S.next sl i K S U ∧ ∀ y,O y ↔ ((S.next ≤ y ∧ y < S.next + 4) ∨ (y < S.next ∧ ¬ K y))) (fun _ _ _ => False)
  (fun i O U U' ⟨a1,a4⟩ hk hn => ⟨⟨(hk _ ((a4 _).2 (.inl ⟨by omega,by omega⟩))).trans a1.c0,(hk _ ((a4 _).2 (.inl ⟨by omega,by omega⟩))).trans a1.c1,(hk _ ((a4 _).2 (.inl ⟨by omega,by omega⟩))).trans a1.c2,(hk _ ((a4 _).2 (.inl ⟨by omega,by omega⟩))).trans a1.c3,fun y h1 h2 => (hk y ((a4 y).2 (.inr ⟨h1,h2⟩))).trans (a1.old y h1 h2),Ya2 a1.nx hn⟩,a4⟩) (fun _ _ _ _ h => h.elim)
  (fun y => (S.next ≤ y ∧ y < S.next + 4) ∨ (y < S.next ∧ ¬ K y)) (fun y ho => by omega) ⟨⟨b0,b1,b2,b3,fun y h1 h2 => f5.eq y h1,by omega⟩,fun _ => Iff.rfl⟩ (fun y ho g => by
   have := hK y g
   rcases ho with ho | ho
   ·omega
   ·exact ho.2 g)
  (fun i hi U hU => by
   have hi' : i < Rs.length := by simpa using hi
   rw [lp_at hU,obs,Yaj,show Zaad [HV.ptr (some (HA.cell0 Rs[i].p))] = some (.ptr (some (HA.cell0 Rs[i].p))) from rfl,obs,show dP (HV.ptr (some (HA.cell0 Rs[i].p))) = some (some (HA.cell0 Rs[i].p)) from rfl,obs,dif_pos hi',putG hU])
  (fun i hi O1 U ⟨a1,a4⟩ hnu hl1 hno hlt => by
   have hi' : i < Rs.length := by simpa using hi
   have hiL : i < L.length := by omega
   have hmR := Yae hi'
   have hmL := Yae hiL
   have hrm := hat hF i hi' hiL
   have hrU : RI Rs[i] U := (hre _ hmR).keep (fun y ho => a1.old y ((hre _ hmR).lt ho) (hKe _ hmR y ho)) (by omega)
   have hdU : DI L[i] U := (hdg _ hmL).keep (fun y ho => a1.old y ((hdg _ hmL).lt ho) (hKg _ hmL y ho)) (by omega)
   have hrows : U.rows sl 1 = some ((L.map dptr).map PK.row1) := Zyc hsl fun q hq => a1.old _ (hKs q hq).1 (hKs q hq).2
   obtain ⟨ad,x1,x2⟩ := PK.ldK_at hrows (i := i) (by simpa using hiL)
   rw [Yaj] at x2
   have x2' : U.ldP ad = some (some (HA.cell0 L[i].p)) := x2
   have hml : Rs[i].ms.length = L[i].ms.length := hrm.ms.length_eq
   have hdc := hdU.cnt
   rw [dif_pos hi',Y13.J0,Zab6 (Zxv _ _ _),obs,putG hl1,obs,Zza a1.c2,obs,obs,Zy8 a1.c0,obs,hsln,if_neg (by omega),Y13.J1,if_neg (by simp),obs,Zab5 a1.c3,obs,if_pos rfl]
   rw [Zacx hrU,obs,obs]
   simp only
   rw [Zy8 a1.c0,obs,obs,if_pos rfl,obs,Zza a1.c2,obs,obs,if_pos rfl,x1,obs,obs,if_pos rfl,x2',obs,obs,if_pos rfl,obs,hdU.ldN,obs,obs,if_pos rfl,if_pos hrm.name.symm,Zag5 hrU,obs,obs]
   simp only
   rw [Zy8 a1.c0,obs,obs,if_pos rfl,obs,Zza a1.c2,obs,obs,if_pos rfl,x1,obs,obs,if_pos rfl,x2',obs,obs,if_pos rfl,obs,hdU.ldS,obs,obs,if_pos rfl,obs,Zze _ a1.c3,obs,hdU.slen,hml,decide_eq_true rfl]
   have hG : Gs S.next sl i K S (U.put (S.next + 3) (.cells 1 [[.bool true]] true)) := ⟨(Zxe _ (by omega)).trans a1.c0,(Zxe _ (by omega)).trans a1.c1,(Zxe _ (by omega)).trans a1.c2,Zxv _ _ _,fun y h1 h2 => (Zxe _ (by omega)).trans (a1.old y h1 h2),a1.nx⟩
   obtain ⟨V',e7,h7,k7,n7⟩ := Zae2 (n := n) (l := S3.next + 1) (i := i) hrm (hre _ hmR) hdg rfl hiL rfl hsl (hKe _ hmR) (hKg _ hmL) hKs (by omega) hdc 2000 0 _ (by omega) (Yak _) hG (by rw [Zxw]; omega)
   rw [Zxw] at k7 n7
   rw [show ((0 : Nat) : Int) = 0 from rfl] at e7
   rw [e7]
   refine ⟨V',O1,none,rfl,⟨n7,fun y r1 r2 => ?_,fun y ho => .inl ho⟩,fun y ho => by have := hlt y ho; omega,fun _ => ⟨h7,a4⟩,fun c h => by cases h⟩
   have r3 : ¬ ((S.next ≤ y ∧ y < S.next + 4) ∨ (y < S.next ∧ ¬ K y)) := fun k => r2 ((a4 y).2 k)
   rw [k7 y r1 (fun e => r3 (.inl (by omega))) (fun e => r3 (.inl (by omega))),Zxe _ (fun e => r3 (.inl (by omega)))])
 erw [e4]
 rw [obs]
 simp only [e5,obs]
 have hle := ch.le
 cases hst : st with
 | some cd => exact (hq cd hst).elim
 | none =>
  obtain ⟨a1,a4⟩ := hnn hst
  rw [hlen] at a1
  simp only [pcode,obs,if_true]
  rw [Zab5 a1.c3,obs,if_pos rfl,Zza a1.c2,obs,Zy8 a1.c0,obs,hsln,hFl,decide_eq_true rfl,Y13.J3,obs,Zze _ a1.c1,obs]
  have de2 : ∀ o,(S4.put (S.next + 1) o).heap S3.next = .defer := fun o => (Zxe _ (by omega)).trans de
  simp only [HS.leave,de2,obs]
  rw [Zab5 ((Zxe _ (by omega)).trans (Zxv _ _ _)),obs]
  refine ⟨_,rfl,⟨by rw [Zxw,Zxw]; omega,fun y hy => ?_⟩⟩
  rw [Zxe _ (by omega),Zxe _ (by omega)]
  by_cases hk : K y
  ·exact (ch.eq y (by omega) (fun k => by
    rcases k with k | k
    ·omega
    ·exact k.2 hk)).trans (f5.eq y hy)
  ·exact a1.old y hy hk
section
variable {x : W} {y : Dw}
theorem Zaf2 {id : Int} {so : Sl} {L0 : List Dr} {S0 : HS} (hl0 : L0.length ≤ 900) (hr0 : S0.rows so 1 = some ((L0.map dptr).map PK.row1)) :
  ∀ (f i : Nat) (t u : T) (d : Dt) (U : HS),L0.length - i < f → i ≤ L0.length → Chain x id ((L0.drop i).map Dr.key) t u → Sim t.R d.D → DocI y d U → (∀ g ∈ L0.drop i,g ∈ d.D ∧ g.name.length ≤ 1000) → (L0.drop i).Pairwise (fun a b => a.key ≠ b.key) → (∀ q,so.a = some q → U.heap q.1 = S0.heap q.1 ∧ q.1 < U.next ∧ ¬ OD y d q.1) →
  ∃ d' U',Y46.L0 2000 f (some (HA.cell0 y.w)) id so (i : Int) U = some ((L0.length : Int),U') ∧ DocI y d' U' ∧ Sim u.R d'.D ∧ Chg (OD y d) (OD y d') U U' := by
 intro f
 induction f with
 | zero => intro i t u d U h; omega
 | succ f ih =>
  intro i t u d U hf hi hc hs hd hm hk hq
  have hrU : U.rows so 1 = some ((L0.map dptr).map PK.row1) := Zyc hr0 fun q h => (hq q h).1
  have hsl : (so.len : Int) = L0.length := by rw [← Zx7 hrU]; simp
  rw [Y46.L0,hsl]
  by_cases hlt : i < L0.length
  ·have hdr := Yal hlt
   rw [hdr] at hc hm hk
   rw [List.map_cons] at hc
   obtain ⟨ad,a1,a2⟩ := PK.ldK_at hrU (i := i) (by simpa using hlt)
   rw [Yaj] at a2
   have a2' : U.ldP ad = some (some (HA.cell0 L0[i].p)) := a2
   have hg := hm L0[i] Yba
   have hr := hd.rooms _ hg.1
   obtain ⟨b,d',U1,e1,h1,ch1,dp⟩ := Zade hd id L0[i].name hg.2
   cases hc with
   | @cons _ _ _ t1 _ S1 c0 c1 c2 c3 =>
    obtain ⟨hb,s1⟩ := Zagx c0 hd hs c1 dp
    have hkk := Yah.1 hk
    have hstay : ∀ g ∈ L0.drop (i + 1),g ∈ d'.D := fun g hg' => by
     have hgd := (hm g (Ya9 _ hg')).1
     have hne := hkk.1 g hg'
     generalize d'.D = D1 at dp
     cases dp with
     | none _ => exact hgd
     | @stay A B e e' hD hke _ _ _ _ _ =>
      rw [hD] at hgd
      simp only [Yab,Yac] at hgd ⊢
      rcases hgd with k | rfl | k
      ·exact .inl k
      ·exact absurd hke.symm hne
      ·exact .inr (.inr k)
     | @gone A B e hD hke _ _ =>
      rw [hD] at hgd
      simp only [Yab,Yac] at hgd ⊢
      rcases hgd with k | rfl | k
      ·exact .inl k
      ·exact absurd hke.symm hne
      ·exact .inr k
    have l1 := ch1.le
    rw [if_pos (by omega),a1,obs,a2',obs,obs,hr.ldN,obs,e1,obs,Zx6 (by omega) (by omega),show ((i : Int) + 1) = ((i + 1 : Nat) : Int) by simp]
    obtain ⟨d2,U2,e2,h2,s2,ch2⟩ := ih (i + 1) t1 u d' U1 (by omega) (by omega) c3 s1 h1 (fun g hg' => ⟨hstay g hg',(hm g (Ya9 _ hg')).2⟩) hkk.2 (fun q h => by
     obtain ⟨k1,k2,k3⟩ := hq q h
     refine ⟨(ch1.eq _ k2 k3).trans k1,by omega,fun k => ?_⟩
     rcases ch1.own _ k with k | k
     ·exact k3 k
     ·omega)
    exact ⟨d2,U2,e2,h2,s2,ch1.trans ch2⟩
  ·obtain rfl : i = L0.length := by omega
   rw [List.drop_length] at hc
   cases hc with
   | nil =>
    rw [if_neg (by omega)]
    exact ⟨d,U,rfl,hd,hs,Chg.refl _ _⟩
theorem Zaf3 {t u : T} {d : Dt} {S S1 : HS} {id : Int} {xs : List KS.Ky} (h : RsI x t S1) (hs : Sim t.R d.D) (hd : DocI y d S) (hx : KS.Srt xs) (hm : ∀ v,v ∈ xs ↔ (id,v) ∈ t.L) (hc : Chain x id xs t u) :
  ∃ d' S',Y46.f 2000 (some (HA.cell0 y.w)) id S = some ((xs.length : Int),S') ∧ DocI y d' S' ∧ Sim u.R d'.D ∧ Chg (OD y d) (OD y d') S S' := by
 obtain ⟨so,L,U,e1,r1,q1,f1,hp,hL⟩ := Zabm hd id false
 have hdU := hd.fr f1
 have hF := Zacr h hs (fun e => decide (id ∈ e.ids)) (fun g => false || decide (id ∈ g.ids)) (fun e g k => by simp [k.ids id]) hp hL
 have hkeys : L.map Dr.key = xs := by
  rw [← Zad5 h hx hm]
  unfold Zab3
  generalize t.R.filter (fun e => decide (id ∈ e.ids)) = R at hF
  clear hp hL r1 e1
  induction hF with
  | nil => rfl
  | cons hr _ ih => rw [List.map_cons,List.map_cons,ih,hr.key]
 have hsub : ∀ g ∈ L,g ∈ d.D := fun g hg => (Ya8.1 (hp.subset hg)).1
 have hlen : L.length = xs.length := by rw [← hkeys]; simp
 have hcnt := hd.cnt
 have hLl : L.length ≤ 900 := by
  have := hp.length_eq
  have := Ybg (fun g : Dr => false || decide (id ∈ g.ids)) d.D
  omega
 have hpw : L.Pairwise fun a b => a.key ≠ b.key := by
  have hL' : L.Pairwise fun a b => cmpL a.name b.name < 0 := hL
  refine hL'.imp fun {a b} k e => ?_
  have := (Zzr a.name b.name).2 e
  omega
 obtain ⟨d',U',e2,h2,s2,ch2⟩ := Zaf2 (x := x) (y := y) (id := id) (so := so) (L0 := L) (S0 := U) hLl r1 2000 0 t u d U (by omega) (Yak _) (by rw [List.drop_zero,hkeys]; exact hc) hs hdU (fun g hg => by
  rw [List.drop_zero] at hg
  exact ⟨hsub g hg,(hd.rooms g (hsub g hg)).nl⟩) (by rw [List.drop_zero]; exact hpw) (fun q hq => by
  have := q1 q hq
  exact ⟨rfl,by omega,fun k => by have := hd.ltO k; omega⟩)
 rw [Y46.f,e1,obs]
 refine ⟨d',U',?_,h2,s2,(Chg.of_fr f1).trans ch2⟩
 rw [show ((0 : Nat) : Int) = 0 from rfl,hlen] at e2
 exact e2
end
structure Both (x : W) (t : T) (y : Dw) (d : Dt) (g : Nat) (S U : HS) : Prop where
 r : RsI x t U
 dc : DocI y d U
 sim : Sim t.R d.D
 dis : ∀ id,OA x t id → ¬ OD y d id
 lo : ∀ id,OA x t id ∨ OD y d id → g ≤ id
 old : ∀ id,id < g → U.heap id = S.heap id
 gU : g ≤ U.next
structure Kp (x : W) (t t' : T) (y : Dw) (d d' : Dt) (U U1 U2 : HS) : Prop where
 eq : ∀ id,id < U.next → ¬ OA x t id → ¬ OD y d id → U1.heap id = U.heap id ∧ U2.heap id = U.heap id
 own : ∀ id,OA x t' id ∨ OD y d' id → OA x t id ∨ OD y d id ∨ U.next ≤ id
 le : U.next ≤ U1.next ∧ U1.next ≤ U2.next
theorem Kp.mk' {x : W} {t t' : T} {y : Dw} {d d' : Dt} {U U1 U2 : HS} (c1 : Chg (OA x t) (OA x t') U U1) (c2 : Chg (OD y d) (OD y d') U1 U2) : Kp x t t' y d d' U U1 U2 := by
 have l1 := c1.le
 have l2 := c2.le
 refine ⟨fun id h1 h2 h3 => ⟨c1.eq id h1 h2,(c2.eq id (by omega) h3).trans (c1.eq id h1 h2)⟩,fun id h => ?_,l1,l2⟩
 rcases h with h | h
 ·exact (c1.own id h).imp (fun k => k) .inr
 ·rcases c2.own id h with k | k
  ·exact .inr (.inl k)
  ·exact .inr (.inr (by omega))
section
variable {x : W} {t : T} {y : Dw} {d : Dt} {g : Nat} {S U : HS}
theorem Both.prog (h : Both x t y d g S U) {t' : T} {U' : HS} (hr : RsI x t' U') (ch : Chg (OA x t) (OA x t') U U') : DocI y d U' ∧ (∀ id,OA x t' id → ¬ OD y d id) ∧ (∀ id,OA x t' id ∨ OD y d id → g ≤ id) ∧ (∀ id,id < g → U'.heap id = S.heap id) ∧ g ≤ U'.next := by
 have hle := ch.le
 have hg := h.gU
 refine ⟨h.dc.keep (fun id ho => ch.eq id (h.dc.ltO ho) (fun ha => h.dis id ha ho)) hle,fun id ha ho => ?_,fun id ho => ?_,fun id hi => (ch.eq id (by omega) (fun ha => by have := h.lo id (.inl ha); omega)).trans (h.old id hi),by omega⟩
 ·rcases ch.own id ha with k | k
  ·exact h.dis id k ho
  ·have := h.dc.ltO ho; omega
 ·rcases ho with ho | ho
  ·rcases ch.own id ho with k | k
   ·exact h.lo id (.inl k)
   ·omega
  ·exact h.lo id (.inr ho)
theorem Zad6 {t' : T} {U1 U2 : HS} {d' : Dt} (hr : RsI x t' U1) (hd : DocI y d U1) (hdis : ∀ id,OA x t' id → ¬ OD y d id) (hlo : ∀ id,OA x t' id ∨ OD y d id → g ≤ id) (hold : ∀ id,id < g → U1.heap id = S.heap id) (hg : g ≤ U1.next) (hd' : DocI y d' U2) (ch : Chg (OD y d) (OD y d') U1 U2) (hs : Sim t'.R d'.D) : Both x t' y d' g S U2 := by
 have hle := ch.le
 refine ⟨hr.keep (fun id ha => ch.eq id (hr.ltO ha) (hdis id ha)) hle,hd',hs,fun id ha ho => ?_,fun id ho => ?_,fun id hi => (ch.eq id (by omega) (fun ha => by have := hlo id (.inr ha); omega)).trans (hold id hi),by omega⟩
 ·rcases ch.own id ho with k | k
  ·exact hdis id ha k
  ·have := hr.ltO ha; omega
 ·rcases ho with ho | ho
  ·exact hlo id (.inl ho)
  ·rcases ch.own id ho with k | k
   ·exact hlo id (.inr k)
   ·omega
theorem Both.fr (h : Both x t y d g S U) {U' : HS} (hf : Fr U.next U U') : Both x t y d g S U' :=
 ⟨h.r.fr hf,h.dc.fr hf,h.sim,h.dis,h.lo,fun id hi => (hf.eq id (by have := h.gU; omega)).trans (h.old id hi),by have := h.gU; have := hf.le; omega⟩
theorem Both.dlen (h : Both x t y d g S U) : d.D.length ≤ t.n := by rw [← h.sim.len]; exact h.r.cR
theorem Both.mlen (h : Both x t y d g S U) {e : Dr} (he : e ∈ d.D) : e.ms.length ≤ t.n := by
 obtain ⟨r,hr,k⟩ := h.sim.right he
 rw [← k.ms.length_eq]
 exact h.r.cm r hr
theorem Both.join (h : Both x t y d g S U) (hn : t.n + 1 ≤ 200) (hmR : x.mR = y.mR) (hmJ : x.mJ = y.mJ) (id : Int) (name : List UInt8) (hl : name.length ≤ 1000) {n : Nat} {H : Hd} :
  ∃ q c q' U1 t' d' U2,Y1.f (disp 2000 (n + 1)) H 2000 (some (HA.cell0 x.w)) id name U = some ((q,c),U1) ∧ Y10.f 2000 (some (HA.cell0 y.w)) id name U1 = some ((q',c),U2) ∧ Both x t' y d' g S U2 ∧ t'.n = t.n + 1 ∧ (∀ id,id < g → U1.heap id = S.heap id) ∧ Kp x t t' y d d' U U1 U2 ∧ q.isNone = q'.isNone ∧ ∃ m,nameR t'.R q m ∧ nameD d'.D q' m := by
 obtain ⟨q,c,t',U1,e1,h1,n1,ch1,jr⟩ := Zaje (n := n) (H := H) h.r hn id name hl
 obtain ⟨k1,k2,k3,k4,k5⟩ := h.prog h1 ch1
 obtain ⟨q',c',d',U2,e2,h2,ch2,dj⟩ := Zahq k1 id name hl (by have := h.dlen; omega) (fun e he => by have := h.mlen he; omega)
 obtain ⟨rfl,s1,s2⟩ := sim_join h.r h.dc h.sim hmR hmJ jr dj
 exact ⟨q,c,q',U1,t',d',U2,e1,e2,Zad6 h1 k1 k2 k3 k4 k5 h2 ch2 s1,n1,k4,.mk' ch1 ch2,s2⟩
theorem Both.part (h : Both x t y d g S U) (id : Int) (name : List UInt8) (hl : name.length ≤ 1000) {n : Nat} {H : Hd} :
  ∃ b U1 t' d' U2,Y14.f (disp 2000 (n + 1)) H 2000 (some (HA.cell0 x.w)) id name U = some (b,U1) ∧ Y5.f 2000 (some (HA.cell0 y.w)) id name U1 = some (b,U2) ∧ Both x t' y d' g S U2 ∧ t'.n = t.n ∧ (∀ id,id < g → U1.heap id = S.heap id) ∧ Kp x t t' y d d' U U1 U2 := by
 obtain ⟨t',U1,e1,h1,n1,ch1,pr⟩ := Zafe (n := n) (H := H) h.r id name hl
 obtain ⟨k1,k2,k3,k4,k5⟩ := h.prog h1 ch1
 obtain ⟨b,d',U2,e2,h2,ch2,dp⟩ := Zade k1 id name hl
 obtain ⟨hb,s1⟩ := Zagx h.r h.dc h.sim pr dp
 rw [hb] at e1
 exact ⟨b,U1,t',d',U2,e1,e2,Zad6 h1 k1 k2 k3 k4 k5 h2 ch2 s1,n1,k4,.mk' ch1 ch2⟩
theorem doc_new {S : HS} {mR mJ mB : Int} : DocI ⟨S.next,mR,mJ,mB⟩ ⟨Sl.nil,[]⟩ (S.new (.cells 4 [[.int .i64 mR,.int .i64 mJ,.int .i64 mB,Sl.nil.hv]] true)) :=
 ⟨Zxx _ _,rfl,Yaw _,fun q hq => (by cases hq),fun e he => (by cases he),Yak _,List.Pairwise.nil,List.Pairwise.nil,fun e he => (by cases he),fun q hq => (by cases hq)⟩
theorem both_new {S : HS} {mR mJ mB : Int} (r0 : 0 ≤ mR) (r1 : mR ≤ 1000) (j0 : 0 ≤ mJ) (j1 : mJ ≤ 1000) : ∃ x t y d S1 U,Y30.f [] [] [] [] 0 0 mJ mR mB 0 0 0 0 0 0 S = some (some (HA.cell0 x.w),S1) ∧ U = S1.new (.cells 4 [[.int .i64 mR,.int .i64 mJ,.int .i64 mB,Sl.nil.hv]] true) ∧ y.w = S1.next ∧ Both x t y d S.next S U ∧ t.n = 0 ∧ x.mR = mR ∧ x.mJ = mJ ∧ y.mR = mR ∧ y.mJ = mJ := by
 obtain ⟨x,t,S1,e1,h,mR',mJ',n0,R0,L0,f1,o1⟩ := Zajf (mB := mB) r0 r1 j0 j1 S
 have f2 : Fr S1.next S1 (S1.new (.cells 4 [[.int .i64 mR,.int .i64 mJ,.int .i64 mB,Sl.nil.hv]] true)) := Fr.new (Yaa _) _
 have l1 := f1.le
 refine ⟨x,t,⟨S1.next,mR,mJ,mB⟩,⟨Sl.nil,[]⟩,S1,_,e1,rfl,rfl,⟨h.fr f2,doc_new,by rw [R0]; exact ⟨[],List.Perm.nil,.nil⟩,fun id ha ho => ?_,fun id ho => ?_,fun id hi => (f2.eq id (by omega)).trans (f1.eq id hi),by rw [Zx2]; omega⟩,n0,mR',mJ',rfl,rfl⟩
 ·have := h.ltO ha
  rcases ho with rfl | ⟨q,hq,_⟩ | ⟨e,he,_⟩
  ·exact absurd this (Nat.lt_irrefl _)
  ·cases hq
  ·cases he
 ·rcases ho with ho | rfl | ⟨q,hq,_⟩ | ⟨e,he,_⟩
  ·exact o1 id ho
  ·exact l1
  ·cases hq
  ·cases he
end
section
variable {x : W} {t : T} {y : Dw} {d : Dt} {g : Nat} {S U : HS}
theorem Both.leave (h : Both x t y d g S U) (hn : t.n ≤ 200) (id : Int) {n : Nat} {H : Hd} :
  ∃ c U1 t' d' U2,Y39.f (disp 2000 (n + 2)) H 2000 (some (HA.cell0 x.w)) id U = some (c,U1) ∧ Y46.f 2000 (some (HA.cell0 y.w)) id U1 = some (c,U2) ∧ Both x t' y d' g S U2 ∧ t'.n = t.n ∧ Kp x t t' y d d' U U1 U2 := by
 obtain ⟨xs,hs,hm,_,_⟩ := h.r.rel.at1 id
 obtain ⟨u,U1,e1,h1,ch1,lf⟩ := Zah1 (n := n) (H := H) h.r hn id hs hm
 obtain ⟨k1,k2,k3,k4,k5⟩ := h.prog h1 ch1
 have hc := lf.ch
 rw [Yao] at hc
 obtain ⟨d',U2,e2,h2,s2,ch2⟩ := Zaf3 h.r h.sim k1 hs hm hc
 exact ⟨_,U1,u,d',U2,e1,e2,Zad6 h1 k1 k2 k3 k4 k5 h2 ch2 s2,lf.n,.mk' ch1 ch2⟩
theorem name_r {R : List Rm} {q : Option HA} {m : List UInt8} (h : nameR R q m) (hr : ∀ e ∈ R,RI e U) : Y6.f q U = some (m,U) := by
 rcases h with ⟨rfl,rfl⟩ | ⟨e,he,rfl,rfl⟩
 ·rfl
 ·exact Zacx (hr e he)
theorem name_d {D : List Dr} {q : Option HA} {m : List UInt8} (h : nameD D q m) (hr : ∀ e ∈ D,DI e U) : Y43.f q U = some (m,U) := by
 rcases h with ⟨rfl,rfl⟩ | ⟨e,he,rfl,rfl⟩
 ·rfl
 ·rw [Y43.f,if_neg (by simp),obs,(hr e he).ldN,obs]
theorem Zaht {kd id : Int} {nm : List UInt8} {p : Nat} {y2 : Sl} {y9 : Int} {rec0 : Sl → (Option HA) → (Option HA) → Int → HS → Option (Bool × HS)} (h : Both x t y d g S U) (hn : t.n ≤ 40) (hp : U.heap p = .cells 3 [[.int .i64 kd,.int .i64 id,.str nm]] true) (hpl : p < U.next) (hl : nm.length ≤ 1000) :
  ∃ U',Fr U.next U U' ∧ Y2.J5 (disp 2000 8) (fun _ => none) 2000 rec0 y2 (some (HA.cell0 x.w)) (some (HA.cell0 y.w)) y9 (some (HA.cell0 p)) U = rec0 y2 (some (HA.cell0 x.w)) (some (HA.cell0 y.w)) (w64 (y9 + 1)) U' := by
 have hnm : ∀ V : HS,Fr U.next U V → V.ldS (HA.fld (HA.cell0 p) 2) = some nm := fun V f => Zzs (Zxu ((f.eq p hpl).trans hp)) rfl rfl
 have hid : ∀ V : HS,Fr U.next U V → V.ldI .i64 (HA.fld (HA.cell0 p) 1) = some id := fun V f => Zyb (Zxu ((f.eq p hpl).trans hp)) rfl rfl
 obtain ⟨xs,hs,hm,_,_⟩ := h.r.rel.at1 id
 have hxs := Zad5 h.r hs hm
 have hlen := h.sim.len
 have hcnt : cntD d.D id = xs.length := by rw [h.sim.cnt,← hxs]; simp
 have hdl := h.dlen
 -- the room of the name
 obtain ⟨o,U1,ho,e1,f1⟩ := Zafg (n := 7) (H := fun _ => none) h.r nm
 have h1 := h.fr f1
 obtain ⟨o',U2,e2,ho',f2⟩ := Zacq h1.dc nm hl
 have h2 := h1.fr f2
 have l1 := f1.le
 have l2 := f2.le
 have F2' : Fr U.next U U2 := f1.trans (f2.mono l1)
 have hso : ∃ m,nameR t.R (Zagb o) m ∧ nameD d.D (Zabl o') m ∧ o.isSome = (Zabl o').isSome := by
  cases ho with
  | @some e he hk =>
   cases ho' with
   | @some g hg hk' =>
    have hr := h.sim.keys h.r h.dc he hg (hk.trans hk'.symm)
    exact ⟨e.name,.inr ⟨e,he,rfl,rfl⟩,.inr ⟨g,hg,rfl,hr.name.symm⟩,rfl⟩
   | none k =>
    obtain ⟨g,hg,hr⟩ := h.sim.left he
    exact absurd (hr.key.trans hk) (k g hg)
  | none k =>
   cases ho' with
   | @some g hg hk' =>
    obtain ⟨e,he,hr⟩ := h.sim.right hg
    exact absurd (hr.key.symm.trans hk') (k e he)
   | none _ => exact ⟨[],.inl ⟨rfl,rfl⟩,.inl ⟨rfl,rfl⟩,rfl⟩
 obtain ⟨m,m1,m2,m3⟩ := hso
 rw [Y2.J5,obs,hnm U (Fr.refl _ _),obs,e1,obs,obs]
 simp only
 rw [hnm U1 f1,obs,e2,obs]
 have c1 : (!(o.isSome == (!(Zabl o').isNone))) = false := by
  rw [m3]; cases Zabl o' <;> rfl
 simp only
 rw [c1,if_neg (by simp),name_r m1 h2.r.rooms,obs]
 simp only
 rw [name_d m2 h2.dc.rooms,obs]
 simp only
 rw [if_neg (by simp),Zajj h2.r,obs,obs]
 simp only
 rw [h2.dc.lds,obs,obs,if_pos rfl,h2.dc.slen,if_neg (by simp [hlen]),obs,hid U2 F2',obs,Zaf5 h2.r id hs hm,obs,obs]
 simp only
 rw [hid U2 F2',obs,obs,if_pos rfl]
 -- on how many
 obtain ⟨s3,L3,U3,e3,r3,q3,f3,p3,_⟩ := Zabm h2.dc id false
 have h3 := h2.fr f3
 have l3 := f3.le
 have F3' : Fr U.next U U3 := F2'.trans (f3.mono (by omega))
 have hs3 : (s3.len : Int) = (xs.length : Int) := by
  rw [← Zx7 r3]
  simp only [Ya7]
  rw [p3.length_eq,← hcnt]
  rfl
 rw [e3,obs]
 simp only
 rw [hs3,if_neg (by simp)]
 -- all rooms
 obtain ⟨c4,U4,K4,e4,hT4,hK4,f4⟩ := Zaja (n := 5) h3.r
 have h4 := h3.fr f4
 have l4 := f4.le
 obtain ⟨s5,L5,U5,e5,r5,q5,f5,p5,g5⟩ := Zabm h4.dc 0 true
 have h5 := h4.fr f5
 have l5 := f5.le
 have hL5 : ∀ g ∈ L5,g ∈ d.D := fun g hg => (Ya8.1 (p5.subset hg)).1
 have hF5 : F2 t.R L5 := by
  have := Zacr h4.r h4.sim (fun _ => true) (fun g => true || decide ((0 : Int) ∈ g.ids)) (fun e g k => by simp) p5 g5
  rwa [List.filter_eq_self.2 (fun _ _ => rfl)] at this
 have hOA : ∀ y',OA x t y' → y' < U.next := fun y' k => h.r.ltO k
 have hOD : ∀ y',OD y d y' → y' < U.next := fun y' k => h.dc.ltO k
 have hL5l : L5.length ≤ 900 := by rw [← hF5.len]; omega
 obtain ⟨U6,e6,f6⟩ := Zae3 (n := 7) (Rs := t.R) (L := L5) (K := K4) (S := U5) (sl := s5) (hT4.move fun y' k => f5.eq y' (hK4 y' k).2) (fun y' k => by have := hK4 y' k; omega) hF5 h5.r.rooms (fun g hg => h5.dc.rooms g (hL5 g hg)) r5 (fun e he y' k k' => by have := hOA y' (.inr ⟨e,he,k⟩); have := hK4 y' k'; omega) (fun g hg y' k k' => by have := hOD y' (.inr (.inr ⟨g,hL5 g hg,k⟩)); have := hK4 y' k'; omega) (fun q hq => ⟨(q5 q hq).2,fun k' => by have := q5 q hq; have := hK4 _ k'; omega⟩) hL5l
 have h6 := h5.fr f6
 have l6 := f6.le
 have F6' : Fr U.next U U6 := F3'.trans ((f4.mono (by omega)).trans ((f5.mono (by omega)).trans (f6.mono (by omega))))
 rw [e4,obs]
 simp only
 rw [e5,obs]
 simp only
 rw [e6,obs,if_neg (by simp),obs]
 simp only
 rw [hid U6 F6',obs]
 -- his rooms
 obtain ⟨c7,s7,U7,e7,k1,k2,k3,k4,f7⟩ := of_spec (nD := 6) (H := fun _ => none) h6.r (by omega) id hs hm
 have h7 := h6.fr f7
 have l7 := f7.le
 have F7' : Fr U.next U U7 := F6'.trans (f7.mono (by omega))
 have hown : xs.map (ofKey t.R) = (Zab3 id t.R).map fun e => some (HA.cell0 e.p) := by
  rw [← hxs,Ybd]
  exact Ybe fun e he => Zaea h.r (Ya8.1 he).1
 rw [hown] at k2
 have hml : (Zab3 id t.R).length ≤ 40 := by
  have := Ybg (fun e : Rm => decide (id ∈ e.ids)) t.R
  have := h.r.cR
  unfold Zab3; omega
 have hT7 := PK.of_tells (k := 2000) (n := 6) (xs := (Zab3 id t.R).map fun e => some (HA.cell0 e.p)) (by simp; omega) (by simp; omega) k1 k2 (fun y' => y' = c7 ∨ ∃ q,s7.a = some q ∧ q.1 = y') ⟨.inl rfl,fun q hq => .inr ⟨q,hq,rfl⟩⟩
 rw [Ybd] at hT7
 have hK7 : ∀ y',(y' = c7 ∨ ∃ q,s7.a = some q ∧ q.1 = y') → U6.next ≤ y' ∧ y' < U7.next := fun y' k => by
  rcases k with rfl | ⟨q,hq,rfl⟩
  ·exact k3
  ·exact k4 q hq
 obtain ⟨s8,L8,U8,e8,r8,q8,f8,p8,g8⟩ := Zabm h7.dc id false
 have h8 := h7.fr f8
 have l8 := f8.le
 have hL8 : ∀ g ∈ L8,g ∈ d.D := fun g hg => (Ya8.1 (p8.subset hg)).1
 have hF8 : F2 (Zab3 id t.R) L8 := Zacr h7.r h7.sim (fun e => decide (id ∈ e.ids)) (fun g => false || decide (id ∈ g.ids)) (fun e g k => by simp [k.ids id]) p8 g8
 have hRm : ∀ e ∈ Zab3 id t.R,e ∈ t.R := fun e he => (Ya8.1 he).1
 have hL8l : L8.length ≤ 900 := by rw [← hF8.len]; omega
 obtain ⟨U9,e9,f9⟩ := Zae3 (n := 7) (Rs := Zab3 id t.R) (L := L8) (S := U8) (sl := s8) (hT7.move fun y' k => f8.eq y' (hK7 y' k).2) (fun y' k => by have := hK7 y' k; omega) hF8 (fun e he => h8.r.rooms e (hRm e he)) (fun g hg => h8.dc.rooms g (hL8 g hg)) r8 (fun e he y' k k' => by have := hOA y' (.inr ⟨e,hRm e he,k⟩); have := hK7 y' k'; omega) (fun g hg y' k k' => by have := hOD y' (.inr (.inr ⟨g,hL8 g hg,k⟩)); have := hK7 y' k'; omega) (fun q hq => ⟨(q8 q hq).2,fun k' => by have := q8 q hq; have := hK7 _ k'; omega⟩) hL8l
 have l9 := f9.le
 rw [e7,obs,obs]
 simp only
 rw [hid U7 F7',obs,hid U6 F6',obs,if_pos rfl,e8,obs]
 simp only
 rw [e9,obs,Y2.J6,if_neg (by simp)]
 exact ⟨U9,F7'.trans ((f8.mono (by omega)).trans (f9.mono (by omega))),rfl⟩
end
theorem Zai8 {x : W} {y : Dw} {g : Nat} {y2 : Sl} {ls : List Ac} {S : HS} (h40 : ls.length ≤ 40) (hll : ∀ a ∈ ls,a.2.2.length ≤ 60) (hr : S.rows y2 3 = some (ls.map Zadh)) (hrq : ∀ q,y2.a = some q → q.1 < g) (hmR : x.mR = y.mR) (hmJ : x.mJ = y.mJ) :
  ∀ (f i : Nat) (t : T) (d : Dt) (U : HS),ls.length - i < f → i ≤ ls.length → Both x t y d g S U → t.n ≤ i →
  ∃ S',Y2.L4 (disp 2000 8) (fun _ => none) 2000 f y2 (some (HA.cell0 x.w)) (some (HA.cell0 y.w)) (i : Int) U = some (true,S') := by
 intro f
 induction f with
 | zero => intro i t d U h; omega
 | succ f ih =>
  intro i t d U hf hi h hn
  have hrU : U.rows y2 3 = some (ls.map Zadh) := Zyc hr fun q hq => h.old _ (hrq q hq)
  have hsl : (y2.len : Int) = ls.length := by rw [← Zx7 hrU]; simp
  rw [Y2.L4,hsl]
  by_cases hlt : i < ls.length
  ·obtain ⟨ad,a1,a2,a3,a4⟩ := Zagz hrU hlt
   have hi1 : w64 ((i : Int) + 1) = ((i + 1 : Nat) : Int) := by rw [Zx6 (by omega) (by omega)]; simp
   have hnl := hll ls[i] (Yae hlt)
   rw [if_pos (by omega),a1,obs,a2,obs,a3,obs,a4,obs,letv]
   have hs0 : (U.new (.cells 3 [[.int .i64 0,.int .i64 0,.str []]] true)).sets (HA.cell0 U.next) [.int .i64 ls[i].1,.int .i64 ls[i].2.1,.str ls[i].2.2] = some ((U.new (.cells 3 [[.int .i64 0,.int .i64 0,.str []]] true)).put U.next (.cells 3 [[.int .i64 ls[i].1,.int .i64 ls[i].2.1,.str ls[i].2.2]] true)) := (Zyv (Zxx U _) rfl (by simp)).trans rfl
   rw [hs0,obs]
   have f0 : Fr U.next U ((U.new (.cells 3 [[.int .i64 0,.int .i64 0,.str []]] true)).put U.next (.cells 3 [[.int .i64 ls[i].1,.int .i64 ls[i].2.1,.str ls[i].2.2]] true)) := (Fr.new (Yaa _) _).trans (Fr.put (Yaa _) _)
   have cP : ((U.new (.cells 3 [[.int .i64 0,.int .i64 0,.str []]] true)).put U.next (.cells 3 [[.int .i64 ls[i].1,.int .i64 ls[i].2.1,.str ls[i].2.2]] true)).heap U.next = .cells 3 [[.int .i64 ls[i].1,.int .i64 ls[i].2.1,.str ls[i].2.2]] true := Zxv _ _ _
   have nP : ((U.new (.cells 3 [[.int .i64 0,.int .i64 0,.str []]] true)).put U.next (.cells 3 [[.int .i64 ls[i].1,.int .i64 ls[i].2.1,.str ls[i].2.2]] true)).next = U.next + 1 := rfl
   generalize (U.new (.cells 3 [[.int .i64 0,.int .i64 0,.str []]] true)).put U.next (.cells 3 [[.int .i64 ls[i].1,.int .i64 ls[i].2.1,.str ls[i].2.2]] true) = V at f0 cP nP ⊢
   have hV := h.fr f0
   have hpo : ¬ OA x t U.next ∧ ¬ OD y d U.next := ⟨fun k => by have := h.r.ltO k; omega,fun k => by have := h.dc.ltO k; omega⟩
   have kd : ∀ W : HS,W.heap U.next = V.heap U.next → W.ldI .i64 (HA.fld (HA.cell0 U.next) 0) = some ls[i].1 := fun W e => Zyb (Zxu (e.trans cP)) rfl rfl
   have ki : ∀ W : HS,W.heap U.next = V.heap U.next → W.ldI .i64 (HA.fld (HA.cell0 U.next) 1) = some ls[i].2.1 := fun W e => Zyb (Zxu (e.trans cP)) rfl rfl
   have kn : ∀ W : HS,W.heap U.next = V.heap U.next → W.ldS (HA.fld (HA.cell0 U.next) 2) = some ls[i].2.2 := fun W e => Zzs (Zxu (e.trans cP)) rfl rfl
   -- behind the act
   have fin : ∀ (t' : T) (d' : Dt) (V2 : HS),Both x t' y d' g S V2 → t'.n ≤ i + 1 → V2.heap U.next = V.heap U.next → U.next < V2.next →
     ∃ S',Y2.J5 (disp 2000 8) (fun _ => none) 2000 (Y2.L4 (disp 2000 8) (fun _ => none) 2000 f) y2 (some (HA.cell0 x.w)) (some (HA.cell0 y.w)) (i : Int) (some (HA.cell0 U.next)) V2 = some (true,S') := by
    intro t' d' V2 h2 hn2 hc2 hlt2
    obtain ⟨V3,f3,e3⟩ := Zaht (rec0 := Y2.L4 (disp 2000 8) (fun _ => none) 2000 f) (y2 := y2) (y9 := (i : Int)) h2 (by omega) (hc2.trans cP) hlt2 (by omega)
    rw [e3,hi1]
    exact ih (i + 1) t' d' V3 (by omega) (by omega) (h2.fr f3) hn2
   rw [kd V rfl,obs]
   by_cases h1 : ls[i].1 = 1
   ·obtain ⟨b,U1,t',d',U2,e1,e2,h2,n2,hold,kp⟩ := hV.part ls[i].2.1 ls[i].2.2 (by omega) (n := 7) (H := fun _ => none)
    have hk := kp.eq U.next (by omega) hpo.1 hpo.2
    have hle := kp.le
    rw [if_pos h1,ki V rfl,obs,kn V rfl,obs,e1,obs]
    simp only
    rw [ki U1 hk.1,obs,obs,if_pos rfl,kn U1 hk.1,obs,obs,if_pos rfl,e2,obs,if_neg (by simp)]
    exact fin t' d' U2 h2 (by omega) hk.2 (by omega)
   ·rw [if_neg h1]
    by_cases h2' : ls[i].1 = 2
    ·obtain ⟨c,U1,t',d',U2,e1,e2,h2,n2,kp⟩ := hV.leave (by omega) ls[i].2.1 (n := 6) (H := fun _ => none)
     have hk := kp.eq U.next (by omega) hpo.1 hpo.2
     have hle := kp.le
     rw [if_pos h2',ki V rfl,obs,e1,obs]
     simp only
     rw [ki U1 hk.1,obs,obs,if_pos rfl,e2,obs,if_neg (by simp)]
     exact fin t' d' U2 h2 (by omega) hk.2 (by omega)
    ·obtain ⟨q,c,q',U1,t',d',U2,e1,e2,h2,n2,hold,kp,hq,m,m1,m2⟩ := hV.join (by omega) hmR hmJ ls[i].2.1 ls[i].2.2 (by omega) (n := 7) (H := fun _ => none)
     have hk := kp.eq U.next (by omega) hpo.1 hpo.2
     have hle := kp.le
     rw [if_neg h2',ki V rfl,obs,kn V rfl,obs,e1,obs]
     simp only
     rw [ki U1 hk.1,obs,kn U1 hk.1,obs,e2,obs,if_neg (by simp)]
     have hqq : (!(q.isNone == q'.isNone)) = false := by rw [hq]; simp
     simp only
     rw [hqq,Y2.J7,if_neg (by simp),name_r m1 h2.r.rooms,obs]
     simp only
     rw [name_d m2 h2.dc.rooms,obs,Y2.J8,if_neg (by simp)]
     exact fin t' d' U2 h2 (by omega) hk.2 (by omega)
  ·rw [if_neg (by omega)]
   exact ⟨_,rfl⟩
theorem Zad7 {S : HS} {y2 : Sl} {ls : List Ac} {a b : Int} (hr : Rd S.next S 3 y2 (ls.map Zadh)) : ∃ S',Y2.f (disp 2000 8) (fun _ => none) 2000 a b y2 S = some (true,S') := by
 obtain ⟨S1,e1,f1⟩ : ∃ S1,aw.f S = some (true,S1) ∧ Fr S.next S S1 := ⟨S,rfl,Fr.refl _ _⟩
 have l1 := f1.le
 have hr1 := hr.frame f1 (Yaa _)
 obtain ⟨c,e2,hc⟩ := Zahu hr1.rows
 have out : ∃ S',Y2.J3 (disp 2000 8) (fun _ => none) 2000 a b y2 true S1 = some (true,S') := ⟨S1,by rw [Y2.J3,if_pos rfl]⟩
 rw [Y2.f,e1,obs,if_neg (by simp),e2,obs]
 cases c with
 | true => rw [if_pos rfl,Y2.J0,if_pos rfl,Y2.J1,if_pos rfl,Y2.J2,if_pos rfl]; exact out
 | false =>
  obtain ⟨h40,hll⟩ := hc rfl
  rw [if_neg (by simp)]
  by_cases a0 : a < 0
  ·simp only
   rw [decide_eq_true a0,Y2.J0,if_pos rfl,Y2.J1,if_pos rfl,Y2.J2,if_pos rfl]; exact out
  simp only
  rw [decide_eq_false a0,Y2.J0,if_neg (by simp)]
  by_cases b0 : b < 0
  ·rw [decide_eq_true b0,Y2.J1,if_pos rfl,Y2.J2,if_pos rfl]; exact out
  rw [decide_eq_false b0,Y2.J1,if_neg (by simp)]
  by_cases a1 : a > 1000
  ·rw [decide_eq_true a1,Y2.J2,if_pos rfl]; exact out
  rw [decide_eq_false a1,Y2.J2,if_neg (by simp)]
  by_cases b1 : b > 1000
  ·rw [decide_eq_true b1]; exact out
  rw [decide_eq_false b1,Y2.J3,if_neg (by simp)]
  obtain ⟨x,t,y,d,S2,U,e3,rfl,hw,hb,n0,m1,m2,m3,m4⟩ := both_new (S := S1) (mR := a) (mJ := b) (mB := 3) (by omega) (by omega) (by omega) (by omega)
  rw [e3,obs,letv]
  simp only
  rw [← hw]
  exact Zai8 h40 hll hr1.rows (fun q hq => by have := hr.lt q hq; omega) (m1.trans m3.symm) (m2.trans m4.symm) 2000 0 t d _ (by omega) (Yak _) hb (by omega)
theorem roomsPlay_call (W : World) (β0 : Bt) (S : HS) (a : Int) (w0 : (Lit.int .i64 a).wf = true) (b : Int) (w1 : (Lit.int .i64 b).wf = true) (s2 : Sl) (rows2 : List (List HV)) (h2 : ArgSl S 3 s2 rows2) (f2 : ∀ row ∈ rows2,RowFits [.int .i64,.int .i64,.str] row) :
  HCall Tryz.prog W.heap.size W β0 5 [.int .i64 a,.int .i64 b,s2.hv] S (fun v _ => v = .bool true) := by
 obtain ⟨ls,rfl⟩ := Zai9 f2
 obtain ⟨_,h⟩ := Zad7 (a := a) (b := b) h2.rd
 exact (Y2.snd (Zag8 8) (fun _ _ h => by cases h) h).mono fun _ _ h => h.1
end Go.Proofs.YtbmfomkfmpppiaaGreat.X
