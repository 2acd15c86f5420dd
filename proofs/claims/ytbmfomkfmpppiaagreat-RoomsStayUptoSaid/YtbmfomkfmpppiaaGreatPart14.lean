/- The layer rooms: Leave, plain. The layer rooms: the methods of nothing, plain. The layer rooms: RoomsStay, plain. -/
import Derived.Test.YtbmfomkfmpppiaaGreatPart13
namespace Go.Proofs.YtbmfomkfmpppiaaGreat.X
open Go.Proofs.YtbmfomkfmpppiaaGreat.HL
set_option linter.unusedVariables false
inductive Chain (id : Int) : List (List UInt8) → T → T → Prop
 | nil (t : T) : Chain id [] t t
 | cons {k ks t t1 t2} (h1 : PRes t id k t1.R t1.L) (h2 : (id,k) ∈ t.L) (h : Chain id ks t1 t2) : Chain id (k :: ks) t t2
theorem Chain.snoc {id : Int} {ks : List (List UInt8)} {t t1 t2 : T} (h : Chain id ks t t1) {k : List UInt8} (h1 : PRes t1 id k t2.R t2.L) (h2 : (id,k) ∈ t1.L) : Chain id (ks ++ [k]) t t2 := by
 induction h with
 | nil t => exact .cons h1 h2 (.nil _)
 | cons g1 g2 g ih => exact .cons g1 g2 (ih h1 h2)
theorem PRes.memL {t : T} {id : Int} {key : List UInt8} {R' : List Rm} {L' : List Pr} (h : PRes t id key R' L') : L' = wo (id,key) t.L := by
 cases h with
 | none h => exact (wo_no h).symm
 | stay _ _ _ _ _ _ _ => rfl
 | gone _ _ _ _ => rfl
theorem PRes.ofKey {t : T} {id : Int} {key : List UInt8} {R' : List Rm} {L' : List Pr} (h : PRes t id key R' L') {v : List UInt8} (hv : v ≠ key) : ofKey R' v = ofKey t.R v := by
 cases h with
 | none h => rfl
 | @stay A B e e' hR hk hin hp hn hms hne =>
  have h1 : ¬ e.key = v := fun g => hv (by rw [← g,hk])
  have h2 : ¬ e'.key = v := fun g => h1 (by rw [← g,Rm.key,Rm.key,hn])
  unfold Go.Proofs.YtbmfomkfmpppiaaGreat.X.ofKey
  rw [hR,List.find?_append,List.find?_append,List.find?_cons_of_neg (by simpa using h2),List.find?_cons_of_neg (by simpa using h1)]
 | @gone A B e hR hk hin hms =>
  have h1 : ¬ e.key = v := fun g => hv (by rw [← g,hk])
  unfold Go.Proofs.YtbmfomkfmpppiaaGreat.X.ofKey
  rw [hR,List.find?_append,List.find?_append,List.find?_cons_of_neg (by simpa using h1)]
theorem putB {U : HS} {l : Nat} {o o' : HObj} (h : U.heap l = o') : (U.put l o).put l o' = U := by
 unfold HS.put
 simp only
 congr 1
 funext y
 by_cases hy : y = l
 ·subst hy; simp [h]
 ·simp [hy]
def Ol (b : Nat) (y : Nat) : Prop := b ≤ y ∧ y < b + 3
structure Gl (b w : Nat) (id : Int) (i : Nat) (U : HS) : Prop where
 c0 : U.heap b = .cells 1 [[.ptr (some (HA.cell0 w))]] true
 c1 : U.heap (b + 1) = .cells 1 [[.int .i64 id]] true
 c2 : U.heap (b + 2) = .cells 1 [[.int .i64 i]] true
 nx : b + 3 ≤ U.next
theorem Gl.keep {b w : Nat} {id : Int} {i : Nat} {U U' : HS} (h : Gl b w id i U) (hk : ∀ y,Ol b y → U'.heap y = U.heap y) (hn : U.next ≤ U'.next) : Gl b w id i U' :=
 ⟨(hk _ ⟨by omega,by omega⟩).trans h.c0,(hk _ ⟨by omega,by omega⟩).trans h.c1,(hk _ ⟨by omega,by omega⟩).trans h.c2,Nat.le_trans h.nx hn⟩
structure Lft (t : T) (id : Int) (xs : List (List UInt8)) (i : Nat) (u : T) : Prop where
 ch : Chain id (xs.take i) t u
 n : u.n = t.n
 own : ∀ v,(id,v) ∈ u.L ↔ v ∈ xs.drop i
 oth : ∀ a v,a ≠ id → ((a,v) ∈ u.L ↔ (a,v) ∈ t.L)
 key : ∀ v ∈ xs.drop i,ofKey u.R v = ofKey t.R v
theorem leave_spec {x : W} {t : T} {S : HS} {n : Nat} {H : Hd} (h : RsI x t S) (hn : t.n ≤ 200) (id : Int) {xs : List KS.Ky} (hs : KS.Srt xs) (hm : ∀ v,v ∈ xs ↔ (id,v) ∈ t.L) :
  ∃ u S',rooms_Rooms_Leave.f (disp 2000 (n + 2)) H 2000 (some (HA.cell0 x.w)) id S = some ((xs.length : Int),S') ∧ RsI x u S' ∧ Chg (OA x t) (OA x u) S S' ∧ Lft t id xs xs.length u := by
 have hxl : xs.length ≤ 900 := by
  obtain ⟨ys,h1,h2,h3,_⟩ := h.rel.at1 id
  have : ys = xs := KS.srt_ext h1 hs fun v => by rw [h2,hm]
  subst this
  omega
 have hnd : xs.Nodup := by
  have hs' : xs.Pairwise fun a b => KS.klt a b = true := hs
  exact hs'.imp fun {a b} g e => by subst e; simp [KS.klt,slt_irrefl] at g
 have hOS : ∀ y,OA x t y → y < S.next := fun y ho => h.ltO ho
 rw [rooms_Rooms_Leave.f,letv,letv,letv]
 simp only [new_next]
 have f3 : Fr S.next S (((S.new (.cells 1 [[.ptr (some (HA.cell0 x.w))]] true)).new (.cells 1 [[.int .i64 id]] true)).new (.cells 1 [[.int .i64 0]] true)) := (Fr.new (Nat.le_refl _) _).trans ((Fr.new (by simp only [new_next]; omega) _).trans (Fr.new (by simp only [new_next]; omega) _))
 have g0 : Gl S.next x.w id 0 (((S.new (.cells 1 [[.ptr (some (HA.cell0 x.w))]] true)).new (.cells 1 [[.int .i64 id]] true)).new (.cells 1 [[.int .i64 0]] true)) := by
  refine ⟨?_,?_,?_,Nat.le_refl _⟩
  ·rw [new_old _ (by simp only [new_next]; omega),new_old _ (by simp only [new_next]; omega)]; exact new_here _ _
  ·rw [new_old _ (by simp only [new_next]; omega)]; exact new_here (S.new _) _
  ·exact new_here ((S.new _).new _) _
 have n3 : (((S.new (.cells 1 [[.ptr (some (HA.cell0 x.w))]] true)).new (.cells 1 [[.int .i64 id]] true)).new (.cells 1 [[.int .i64 0]] true)).next = S.next + 3 := rfl
 generalize ((S.new (.cells 1 [[.ptr (some (HA.cell0 x.w))]] true)).new (.cells 1 [[.int .i64 id]] true)).new (.cells 1 [[.int .i64 0]] true) = S1 at f3 g0 n3 ⊢
 rw [show S.next + 1 + 1 = S.next + 2 from rfl,sets_cell _ g0.c2,obs]
 have f4 : Fr S.next S (S1.put (S.next + 2) (.cells 1 [[.int .i64 0]] true)) := f3.trans (Fr.put (by omega) _)
 have g1 : Gl S.next x.w id 0 (S1.put (S.next + 2) (.cells 1 [[.int .i64 0]] true)) := ⟨(put_other _ (by omega)).trans g0.c0,(put_other _ (by omega)).trans g0.c1,put_here _ _ _,g0.nx⟩
 have n4 : (S1.put (S.next + 2) (.cells 1 [[.int .i64 0]] true)).next = S.next + 3 := n3
 generalize S1.put (S.next + 2) (.cells 1 [[.int .i64 0]] true) = S2 at f4 g1 n4 ⊢
 have h2 := h.fr f4
 rw [ldP_cell g1.c0,obs,ldI_cell g1.c1,obs]
 obtain ⟨c,so,S3,e3,k1,k2,k3,k4,f5⟩ := of_spec (nD := n) (H := H) h2 hn id hs hm
 have l5 := f5.le
 have h3 := h2.fr f5
 have g3 : Gl S.next x.w id 0 S3 := g1.keep (fun y ho => f5.eq y (by have := ho.2; omega)) l5
 have hT := PK.of_tells (k := 2000) (n := n) (xs := xs.map (ofKey t.R)) (by simp; omega) (by simp; omega) k1 k2 (fun y => y = c ∨ ∃ q,so.a = some q ∧ q.1 = y) ⟨.inl rfl,fun q hq => .inr ⟨q,hq,rfl⟩⟩
 have hK : ∀ y,(y = c ∨ ∃ q,so.a = some q ∧ q.1 = y) → S2.next ≤ y ∧ y < S3.next := fun y g => by
  rcases g with rfl | ⟨q,hq,rfl⟩
  ·exact k3
  ·exact k4 q hq
 rw [e3,obs]
 have hlen : ((xs.map (ofKey t.R)).map PK.row1).length = xs.length := by simp
 obtain ⟨T2,st,D,O',e5,e6,de,n6,ch,lt,hnn,hq⟩ := range_tells (D := disp 2000 (n + 2)) (H := H) (fv := .fn (.func 63) [] [.ptr (some (HA.cell0 c))]) (S := S3) (hd := fun vs T =>
   Option.bind (HS.lp T (S3.next + 1)) fun _ => Option.bind (args1 vs) fun ar => Option.bind (dP ar) fun p => rooms_Rooms_Leave.J0 (disp 2000 (n + 2)) H 2000 (S3.next + 1) (some (HA.cell0 S.next)) (some (HA.cell0 (S.next + 1))) (some (HA.cell0 (S.next + 2))) p T)
  (bd := fun i U => if hi : i < xs.length then rooms_Rooms_Leave.J0 (disp 2000 (n + 2)) H 2000 (S3.next + 1) (some (HA.cell0 S.next)) (some (HA.cell0 (S.next + 1))) (some (HA.cell0 (S.next + 2))) (ofKey t.R xs[i]) (U.put (S3.next + 1) (.loop .ready none)) else none)
  hT (fun y g => (hK y g).2) (fun i O U => ∃ u,Gl S.next x.w id i U ∧ RsI x u U ∧ Lft t id xs i u ∧ (∀ y,OA x u y → y < S.next ∨ S.next + 3 ≤ y) ∧ ∀ y,O y ↔ (Ol S.next y ∨ OA x u y)) (fun _ _ _ => False)
  (fun i O U U' ⟨u,a1,a2,a3,a5,a4⟩ hk hn => ⟨u,a1.keep (fun y ho => hk y ((a4 y).2 (.inl ho))) hn,a2.keep (fun y ho => hk y ((a4 y).2 (.inr ho))) hn,a3,a5,a4⟩) (fun _ _ _ _ h => h.elim)
  (fun y => Ol S.next y ∨ OA x t y) (fun y ho => by
   rcases ho with ho | ho
   ·have := ho.2; omega
   ·have := hOS y ho; omega) ⟨t,g3,h3,⟨.nil t,rfl,fun v => by rw [List.drop_zero]; exact (hm v).symm,fun _ _ _ => Iff.rfl,fun _ _ => rfl⟩,fun y ho => .inl (hOS y ho),fun _ => Iff.rfl⟩ (fun y ho g => by
   have := hK y g
   rcases ho with ho | ho
   ·have := ho.2; omega
   ·have := hOS y ho; omega)
  (fun i hi U hU => by
   have hi' : i < xs.length := by simpa using hi
   rw [lp_at hU,obs,List.getElem_map,List.getElem_map,show args1 (PK.row1 (ofKey t.R xs[i])) = some (.ptr (ofKey t.R xs[i])) from rfl,obs,show dP (HV.ptr (ofKey t.R xs[i])) = some (ofKey t.R xs[i]) from rfl,obs,dif_pos hi',putB hU])
  (fun i hi O1 U ⟨u,a1,a2,a3,a5,a4⟩ hnu hl hno hlt => by
   have hi' : i < xs.length := by simpa using hi
   have hdrop : xs.drop i = xs[i] :: xs.drop (i + 1) := List.drop_eq_getElem_cons hi'
   have hmem : (id,xs[i]) ∈ u.L := (a3.own _).2 (by rw [hdrop]; exact List.mem_cons_self)
   obtain ⟨e,he,hk1,hk2⟩ := (a2.link _ _).1 hmem
   have hoe : ofKey t.R xs[i] = some (HA.cell0 e.p) := by rw [← a3.key _ (by rw [hdrop]; exact List.mem_cons_self),← hk1,ofKey_at a2 he]
   have hOu : ∀ y,OA x u y → y ≠ S3.next + 1 := fun y ho e => hno ((a4 _).2 (.inr (e ▸ ho)))
   have hb3 : S.next + 3 ≤ S3.next := by omega
   have hnm : e.name.length ≤ 1000 := a2.book.len (ent e) (List.mem_map.2 ⟨e,he,rfl⟩)
   rw [dif_pos hi',hoe,rooms_Rooms_Leave.J0,begin_at (put_here _ _ _),obs,putB hl,obs,ldP_cell a1.c0,obs,obs,ldI_cell a1.c1,obs,room_name (a2.rooms _ he),obs]
   simp only
   rw [ldI_cell a1.c1,obs,if_pos rfl,ldP_cell a1.c0,obs,if_pos rfl]
   obtain ⟨u',U2,e7,h7,n7,ch7,p7⟩ := part_spec (n := n + 1) (H := H) a2 id e.name hnm
   rw [e7,obs,obs]
   simp only
   have l7 := ch7.le
   have b1 : Gl S.next x.w id i U2 := a1.keep (fun y ho => ch7.eq y (by have := a1.nx; have := ho.2; omega) (fun g => by have := a5 y g; have := ho.1; have := ho.2; omega)) l7
   rw [ldI_cell b1.c2,obs,obs,sets_cell _ b1.c2,obs,w64_id (by omega) (by omega),show ((i : Int) + 1) = ((i + 1 : Nat) : Int) by simp]
   have hkey : e.name.map low = xs[i] := hk1
   rw [hkey] at p7
   have hL7 := p7.memL
   have hne : ∀ v ∈ xs.drop (i + 1),v ≠ xs[i] := fun v hv e => by
    have hnd' := hnd
    rw [← List.take_append_drop i xs,hdrop,List.nodup_append] at hnd'
    have := (List.nodup_cons.1 hnd'.2.1).1
    exact this (e ▸ hv)
   have kP : ∀ y,y ≠ S.next + 2 → (U2.put (S.next + 2) (.cells 1 [[.int .i64 ((i + 1 : Nat) : Int)]] true)).heap y = U2.heap y := fun y hy => put_other _ hy
   have hO7 : ∀ y,OA x u' y → y < S.next ∨ S.next + 3 ≤ y := fun y ho => (ch7.own y ho).elim (a5 y) (fun g => .inr (by omega))
   refine ⟨_,fun y => Ol S.next y ∨ OA x u' y,none,rfl,⟨by rw [put_next]; exact l7,fun y r1 r2 => ?_,fun y ho => ?_⟩,fun y ho => ?_,fun _ => ⟨u',⟨?_,?_,put_here _ _ _,b1.nx⟩,h7.keep (fun y ho => kP y (by have := hO7 y ho; omega)) (Nat.le_refl _),⟨?_,n7.trans a3.n,fun v => ?_,fun a v ha => ?_,fun v hv => ?_⟩,hO7,fun _ => Iff.rfl⟩,fun c h => by cases h⟩
   ·rw [kP y (fun e => r2 ((a4 y).2 (.inl ⟨by omega,by omega⟩)))]
    exact ch7.eq y r1 (fun g => r2 ((a4 y).2 (.inr g)))
   ·rcases ho with ho | ho
    ·exact .inl ((a4 y).2 (.inl ho))
    ·exact (ch7.own y ho).imp (fun g => (a4 y).2 (.inr g)) (fun g => g)
   ·rw [put_next]
    rcases ho with ho | ho
    ·have := b1.nx; have := ho.2; omega
    ·exact h7.ltO ho
   ·rw [kP _ (by omega)]; exact b1.c0
   ·rw [kP _ (by omega)]; exact b1.c1
   ·rw [List.take_succ_eq_append_getElem hi']; exact a3.ch.snoc p7 hmem
   ·rw [hL7,wo_mem,a3.own,hdrop]
    constructor
    ·rintro ⟨g1,g2⟩
     rcases List.mem_cons.1 g1 with rfl | g
     ·exact absurd rfl g2
     ·exact g
    ·intro g
     exact ⟨List.mem_cons_of_mem _ g,fun e => hne v g (by simpa using e)⟩
   ·rw [hL7,wo_mem,a3.oth a v ha]
    exact ⟨fun g => g.1,fun g => ⟨g,fun e => ha (by simpa using congrArg Prod.fst e)⟩⟩
   ·rw [p7.ofKey (hne v hv)]
    exact a3.key v (by rw [hdrop]; exact List.mem_cons_of_mem _ hv))
 erw [e5]
 rw [obs]
 simp only [e6,obs]
 have hle := ch.le
 cases hst : st with
 | some cd => exact (hq cd hst).elim
 | none =>
  obtain ⟨u,a1,a2,a3,a5,a4⟩ := hnn hst
  rw [hlen] at a1 a3
  simp only [pcode,obs,if_true]
  rw [ldI_cell a1.c2,obs]
  simp only [HS.leave,de,obs]
  have hOu : ∀ y,OA x u y → y ≠ S3.next := fun y ho => (lt y ((a4 y).2 (.inr ho))).1
  refine ⟨u,_,rfl,a2.keep (fun y ho => put_other _ (hOu y ho)) (Nat.le_refl _),⟨by rw [put_next]; omega,fun y r1 r2 => ?_,fun y ho => ?_⟩,a3⟩
  ·rw [put_other _ (by omega),ch.eq y (by omega) (fun g => by
    rcases g with g | g
    ·have := g.1; omega
    ·exact r2 g),f5.eq y (by omega),f4.eq y r1]
  ·rcases ch.own y ((a4 y).2 (.inr ho)) with (g | g) | g
   ·have := a5 y ho; have := g.1; have := g.2; omega
   ·exact .inl g
   ·exact .inr (by omega)
theorem range_nil {D : Dp} {H : Hd} {fv : HV} {K : Nat → Prop} {S : HS} {hd : List HV → HS → Option (HV × HS)} (hT : Tells D fv [] K S) (hK : ∀ id,K id → id < S.next) :
  ∃ T S',D (Hd.set H (S.next + 1) hd) fv [.fn (.yield (S.next + 1)) [] []] ((S.new .defer).new (.loop .ready none)) = some (.tup [],T) ∧ T.finish (S.next + 1) = some (none,S') ∧ S'.heap S.next = .defer ∧ S.next + 2 ≤ S'.next ∧ Fr S.next S S' := by
 obtain ⟨T,st,S',O',e1,e2,de,n5,ch,lt,hnn,hq⟩ := range_tells (D := D) (H := H) (fv := fv) (S := S) (hd := hd) (bd := fun _ _ => none) hT hK (fun _ _ _ => True) (fun _ _ _ => False) (fun _ _ _ _ _ _ _ => trivial) (fun _ _ _ _ h => h.elim) (fun _ => False) (fun _ h => h.elim) trivial (fun _ h => h.elim) (fun i hi => absurd hi (by simp)) (fun i hi => absurd hi (by simp))
 cases st with
 | some c => exact (hq c rfl).elim
 | none => exact ⟨T,S',e1,e2,de,n5,⟨ch.le,fun id h => ch.eq id h (fun g => g)⟩⟩
theorem of_none {n : Nat} {H : Hd} (id : Int) (S : HS) : ∃ c S',rooms_Rooms_Of.f (disp 2000 (n + 2)) H 2000 none id S = some (.fn (.func 63) [] [.ptr (some (HA.cell0 c))],S') ∧ Tells (disp 2000 (n + 2)) (.fn (.func 63) [] [.ptr (some (HA.cell0 c))]) [] (fun y => y = c) S' ∧ S.next ≤ c ∧ c < S'.next ∧ Fr S.next S S' := by
 rw [rooms_Rooms_Of.f,letv,letv]
 simp only [new_next]
 have c0 : ((S.new (.cells 1 [[.ptr none]] true)).new (.cells 1 [[Sl.nil.hv]] true)).heap S.next = .cells 1 [[.ptr none]] true := by
  rw [new_old _ (by simp only [new_next]; omega)]; exact new_here _ _
 have c1 : ((S.new (.cells 1 [[.ptr none]] true)).new (.cells 1 [[Sl.nil.hv]] true)).heap (S.next + 1) = .cells 1 [[Sl.nil.hv]] true := new_here (S.new _) _
 rw [ldP_cell c0,obs,if_neg (by simp),rooms_Rooms_Of.J1]
 simp only [HS.leave,obs]
 refine ⟨S.next + 1,_,rfl,?_,by omega,by simp only [new_next]; omega,(Fr.new (Nat.le_refl _) _).trans (Fr.new (by simp only [new_next]; omega) _)⟩
 have := PK.of_tells (k := 2000) (n := n) (xs := []) (by simp) (by simp) c1 (s := Sl.nil) rfl (fun y => y = S.next + 1) ⟨rfl,fun q hq => by cases hq⟩
 exact this
theorem leave_none {n : Nat} {H : Hd} (id : Int) (S : HS) : ∃ S',rooms_Rooms_Leave.f (disp 2000 (n + 2)) H 2000 none id S = some (0,S') ∧ Fr S.next S S' := by
 rw [rooms_Rooms_Leave.f,letv,letv,letv]
 simp only [new_next]
 have f3 : Fr S.next S (((S.new (.cells 1 [[.ptr none]] true)).new (.cells 1 [[.int .i64 id]] true)).new (.cells 1 [[.int .i64 0]] true)) := (Fr.new (Nat.le_refl _) _).trans ((Fr.new (by simp only [new_next]; omega) _).trans (Fr.new (by simp only [new_next]; omega) _))
 have c0 : (((S.new (.cells 1 [[.ptr none]] true)).new (.cells 1 [[.int .i64 id]] true)).new (.cells 1 [[.int .i64 0]] true)).heap S.next = .cells 1 [[.ptr none]] true := by
  rw [new_old _ (by simp only [new_next]; omega),new_old _ (by simp only [new_next]; omega)]; exact new_here _ _
 have c1 : (((S.new (.cells 1 [[.ptr none]] true)).new (.cells 1 [[.int .i64 id]] true)).new (.cells 1 [[.int .i64 0]] true)).heap (S.next + 1) = .cells 1 [[.int .i64 id]] true := by
  rw [new_old _ (by simp only [new_next]; omega)]; exact new_here (S.new _) _
 have c2 : (((S.new (.cells 1 [[.ptr none]] true)).new (.cells 1 [[.int .i64 id]] true)).new (.cells 1 [[.int .i64 0]] true)).heap (S.next + 2) = .cells 1 [[.int .i64 0]] true := new_here ((S.new _).new _) _
 have n3 : (((S.new (.cells 1 [[.ptr none]] true)).new (.cells 1 [[.int .i64 id]] true)).new (.cells 1 [[.int .i64 0]] true)).next = S.next + 3 := rfl
 generalize ((S.new (.cells 1 [[.ptr none]] true)).new (.cells 1 [[.int .i64 id]] true)).new (.cells 1 [[.int .i64 0]] true) = S1 at f3 c0 c1 c2 n3 ⊢
 rw [show S.next + 1 + 1 = S.next + 2 from rfl,sets_cell _ c2,obs]
 have f4 : Fr S.next S (S1.put (S.next + 2) (.cells 1 [[.int .i64 0]] true)) := f3.trans (Fr.put (by omega) _)
 have d0 := (put_other (S := S1) (i := S.next) (id := S.next + 2) (.cells 1 [[.int .i64 0]] true) (by omega)).trans c0
 have d1 := (put_other (S := S1) (i := S.next + 1) (id := S.next + 2) (.cells 1 [[.int .i64 0]] true) (by omega)).trans c1
 have d2 := put_here S1 (S.next + 2) (.cells 1 [[.int .i64 0]] true)
 have n4 : (S1.put (S.next + 2) (.cells 1 [[.int .i64 0]] true)).next = S.next + 3 := n3
 generalize S1.put (S.next + 2) (.cells 1 [[.int .i64 0]] true) = S2 at f4 d0 d1 d2 n4 ⊢
 rw [ldP_cell d0,obs,ldI_cell d1,obs]
 obtain ⟨c,S3,e3,hT,k1,k2,f5⟩ := of_none (n := n) (H := H) id S2
 rw [e3,obs]
 obtain ⟨T,S4,e4,e5,de,n5,f6⟩ := range_nil (H := H) (hd := fun vs T =>
   Option.bind (HS.lp T (S3.next + 1)) fun _ => Option.bind (args1 vs) fun ar => Option.bind (dP ar) fun p => rooms_Rooms_Leave.J0 (disp 2000 (n + 2)) H 2000 (S3.next + 1) (some (HA.cell0 S.next)) (some (HA.cell0 (S.next + 1))) (some (HA.cell0 (S.next + 2))) p T) hT (fun y g => by omega)
 erw [e4]
 rw [obs]
 simp only [e5,obs]
 have l5 := f5.le
 simp only [pcode,obs,if_true]
 rw [ldI_cell ((f6.eq _ (by omega)).trans ((f5.eq _ (by omega)).trans d2)),obs]
 simp only [HS.leave,de,obs]
 exact ⟨_,rfl,f4.trans ((f5.mono (by omega)).trans ((f6.mono (by omega)).trans (Fr.put (by omega) _)))⟩
theorem common_none {n : Nat} {H : Hd} (a b : Int) (S : HS) : ∃ S',rooms_Rooms_Common.f (disp 2000 (n + 2)) H 2000 none a b S = some (false,S') ∧ Fr S.next S S' := by
 rw [rooms_Rooms_Common.f,letv,letv]
 simp only [new_next]
 have f3 : Fr S.next S ((S.new (.cells 1 [[.int .i64 b]] true)).new (.cells 1 [[.bool false]] true)) := (Fr.new (Nat.le_refl _) _).trans (Fr.new (by simp only [new_next]; omega) _)
 have c1 : ((S.new (.cells 1 [[.int .i64 b]] true)).new (.cells 1 [[.bool false]] true)).heap (S.next + 1) = .cells 1 [[.bool false]] true := new_here (S.new _) _
 have n3 : ((S.new (.cells 1 [[.int .i64 b]] true)).new (.cells 1 [[.bool false]] true)).next = S.next + 2 := rfl
 generalize (S.new (.cells 1 [[.int .i64 b]] true)).new (.cells 1 [[.bool false]] true) = S2 at f3 c1 n3 ⊢
 obtain ⟨c,S3,e3,hT,k1,k2,f5⟩ := of_none (n := n) (H := H) a S2
 rw [e3,obs]
 obtain ⟨T,S4,e4,e5,de,n5,f6⟩ := range_nil (H := H) (hd := fun vs T =>
   Option.bind (HS.lp T (S3.next + 1)) fun _ => Option.bind (args1 vs) fun ar => Option.bind (dP ar) fun p => rooms_Rooms_Common.J0 (disp 2000 (n + 2)) H 2000 (S3.next + 1) (some (HA.cell0 S.next)) (some (HA.cell0 (S.next + 1))) p T) hT (fun y g => by omega)
 erw [e4]
 rw [obs]
 simp only [e5,obs]
 have l5 := f5.le
 simp only [pcode,obs,if_true]
 rw [sets_cell _ ((f6.eq _ (by omega)).trans ((f5.eq _ (by omega)).trans c1)),obs]
 have de2 : (S4.put (S.next + 1) (.cells 1 [[.bool false]] true)).heap S3.next = .defer := (put_other _ (by omega)).trans de
 simp only [HS.leave,de2,obs]
 rw [ldB_cell ((put_other _ (by omega)).trans (put_here _ _ _)),obs]
 exact ⟨_,rfl,f3.trans ((f5.mono (by omega)).trans ((f6.mono (by omega)).trans ((Fr.put (by omega) _).trans (Fr.put (by omega) _))))⟩
theorem peers_none {n : Nat} {H : Hd} (id : Int) (S : HS) : ∃ fn u v S' K,rooms_Rooms_Peers.f (disp 2000 (n + 3)) H 2000 none id S = some (.fn fn u v,S') ∧ Tells (disp 2000 (n + 3)) (.fn fn u v) [] K S' ∧ (∀ y,K y → S.next ≤ y ∧ y < S'.next) ∧ Fr S.next S S' := by
 rw [rooms_Rooms_Peers.f,letv]
 have f0 : Fr S.next S (S.new (.cells 1 [[Sl.nil.hv]] true)) := Fr.new (Nat.le_refl _) _
 have c0 : (S.new (.cells 1 [[Sl.nil.hv]] true)).heap S.next = .cells 1 [[Sl.nil.hv]] true := new_here _ _
 have n0 : (S.new (.cells 1 [[Sl.nil.hv]] true)).next = S.next + 1 := rfl
 generalize S.new (.cells 1 [[Sl.nil.hv]] true) = S0 at f0 c0 n0 ⊢
 obtain ⟨c,S1,e1,hT,k1,k2,f1⟩ := of_none (n := n + 1) (H := H) id S0
 have l1 := f1.le
 rw [e1,obs]
 obtain ⟨T,S2,e4,e5,de,n5,f2⟩ := range_nil (H := H) (hd := fun vs T =>
   Option.bind (HS.lp T (S1.next + 1)) fun u37 => Option.bind (args1 vs) fun ar35 => Option.bind (dP ar35) fun p36 => rooms_Rooms_Peers.J0 (disp 2000 (n + 3)) H 2000 (S1.next + 1) (some (HA.cell0 S.next)) p36 T) hT (fun y g => by omega)
 erw [e4]
 rw [obs]
 simp only [e5,obs]
 have l2 := f2.le
 simp only [pcode,obs,if_true]
 have d0 := (f2.eq S.next (by omega)).trans ((f1.eq S.next (by omega)).trans c0)
 rw [ldSl_cell d0,obs]
 obtain ⟨fv,S3,fn,u,v,S4,K,e6,e7,hT2,hK,f4⟩ := KI.uniW_tells (n := n) (sl := Sl.nil) (ps := []) (vals := []) (W := []) (S := S2) (x := id) ⟨rfl,fun j h => absurd h (by simp)⟩ ⟨rfl,fun q hq => by cases hq⟩ (by simp) ⟨List.Pairwise.nil,fun v => by simp⟩ (by simp) (fun xs h => by cases h)
 have l4 := f4.le
 rw [e6,obs,e7,obs]
 have de2 : S4.heap S1.next = .defer := (f4.eq _ (by omega)).trans de
 simp only [HS.leave,de2,obs]
 refine ⟨fn,u,v,_,K,rfl,hT2.move fun y g => put_other _ (by have := hK y g; omega),fun y g => ?_,f0.trans ((f1.mono (by omega)).trans ((f2.mono (by omega)).trans ((f4.mono (by omega)).trans (Fr.put (by omega) _))))⟩
 have := hK y g
 rw [put_next]; omega
theorem same_none {n : Nat} {fn : Fn} {u v : List HV} {K : Nat → Prop} {S : HS} (hT : Tells (disp 2000 n) (.fn fn u v) [] K S) (hK : ∀ y,K y → y < S.next) :
  ∃ S',rollcalllaw20_same.f (disp 2000 n) (fun _ => none) 2000 (.fn fn u v) Sl.nil S = some (true,S') ∧ Fr S.next S S' := by
 rw [rollcalllaw20_same.f,letv,letv,letv]
 simp only [new_next]
 have f3 : Fr S.next S (((S.new (.cells 1 [[Sl.nil.hv]] true)).new (.cells 1 [[.bool false]] true)).new (.cells 1 [[.int .i64 0]] true)) := (Fr.new (Nat.le_refl _) _).trans ((Fr.new (by simp only [new_next]; omega) _).trans (Fr.new (by simp only [new_next]; omega) _))
 have c0 : (((S.new (.cells 1 [[Sl.nil.hv]] true)).new (.cells 1 [[.bool false]] true)).new (.cells 1 [[.int .i64 0]] true)).heap S.next = .cells 1 [[Sl.nil.hv]] true := by
  rw [new_old _ (by simp only [new_next]; omega),new_old _ (by simp only [new_next]; omega)]; exact new_here _ _
 have c1 : (((S.new (.cells 1 [[Sl.nil.hv]] true)).new (.cells 1 [[.bool false]] true)).new (.cells 1 [[.int .i64 0]] true)).heap (S.next + 1) = .cells 1 [[.bool false]] true := by
  rw [new_old _ (by simp only [new_next]; omega)]; exact new_here (S.new _) _
 have c2 : (((S.new (.cells 1 [[Sl.nil.hv]] true)).new (.cells 1 [[.bool false]] true)).new (.cells 1 [[.int .i64 0]] true)).heap (S.next + 2) = .cells 1 [[.int .i64 0]] true := new_here ((S.new _).new _) _
 have n3 : (((S.new (.cells 1 [[Sl.nil.hv]] true)).new (.cells 1 [[.bool false]] true)).new (.cells 1 [[.int .i64 0]] true)).next = S.next + 3 := rfl
 generalize ((S.new (.cells 1 [[Sl.nil.hv]] true)).new (.cells 1 [[.bool false]] true)).new (.cells 1 [[.int .i64 0]] true) = S1 at f3 c0 c1 c2 n3 ⊢
 rw [show S.next + 1 + 1 = S.next + 2 from rfl,sets_cell _ c2,obs,letv,put_next,n3]
 have f4 : Fr S.next S ((S1.put (S.next + 2) (.cells 1 [[.int .i64 0]] true)).new (.cells 1 [[.bool false]] true)) := f3.trans ((Fr.put (by omega) _).trans (Fr.new (by rw [put_next]; omega) _))
 have d0 : ((S1.put (S.next + 2) (.cells 1 [[.int .i64 0]] true)).new (.cells 1 [[.bool false]] true)).heap S.next = .cells 1 [[Sl.nil.hv]] true := by
  rw [new_old _ (by rw [put_next]; omega),put_other _ (by omega)]; exact c0
 have d1 : ((S1.put (S.next + 2) (.cells 1 [[.int .i64 0]] true)).new (.cells 1 [[.bool false]] true)).heap (S.next + 1) = .cells 1 [[.bool false]] true := by
  rw [new_old _ (by rw [put_next]; omega),put_other _ (by omega)]; exact c1
 have d2 : ((S1.put (S.next + 2) (.cells 1 [[.int .i64 0]] true)).new (.cells 1 [[.bool false]] true)).heap (S.next + 2) = .cells 1 [[.int .i64 0]] true := by
  rw [new_old _ (by rw [put_next]; omega)]; exact put_here _ _ _
 have d3 : ((S1.put (S.next + 2) (.cells 1 [[.int .i64 0]] true)).new (.cells 1 [[.bool false]] true)).heap (S.next + 3) = .cells 1 [[.bool false]] true := by
  rw [← n3,show S1.next = (S1.put (S.next + 2) (.cells 1 [[.int .i64 0]] true)).next from rfl]; exact new_here _ _
 have n4 : ((S1.put (S.next + 2) (.cells 1 [[.int .i64 0]] true)).new (.cells 1 [[.bool false]] true)).next = S.next + 4 := by rw [new_next,put_next,n3]
 generalize (S1.put (S.next + 2) (.cells 1 [[.int .i64 0]] true)).new (.cells 1 [[.bool false]] true) = S2 at f4 d0 d1 d2 d3 n4 ⊢
 rw [sets_cell _ d3,obs]
 have f5 : Fr S.next S (S2.put (S.next + 3) (.cells 1 [[.bool true]] true)) := f4.trans (Fr.put (by omega) _)
 have b0 := (put_other (S := S2) (i := S.next) (id := S.next + 3) (.cells 1 [[.bool true]] true) (by omega)).trans d0
 have b1 := (put_other (S := S2) (i := S.next + 1) (id := S.next + 3) (.cells 1 [[.bool true]] true) (by omega)).trans d1
 have b2 := (put_other (S := S2) (i := S.next + 2) (id := S.next + 3) (.cells 1 [[.bool true]] true) (by omega)).trans d2
 have b3 := put_here S2 (S.next + 3) (.cells 1 [[.bool true]] true)
 have n5 : (S2.put (S.next + 3) (.cells 1 [[.bool true]] true)).next = S.next + 4 := n4
 generalize S2.put (S.next + 3) (.cells 1 [[.bool true]] true) = S3 at f5 b0 b1 b2 b3 n5 ⊢
 simp only [HV.isNilFn,obs,Bool.false_eq_true,if_false]
 have hT3 := hT.move (B' := S3) fun y g => f5.eq y (hK y g)
 obtain ⟨T,S4,e4,e5,de,n6,f6⟩ := range_nil (H := fun _ => none) (hd := fun vs T =>
   Option.bind (HS.lp T (S3.next + 1)) fun _ => Option.bind (args1 vs) fun ar => Option.bind (dP ar) fun p => rollcalllaw20_same.J0 (disp 2000 n) (fun _ => none) 2000 (S3.next + 1) (some (HA.cell0 S.next)) (some (HA.cell0 (S.next + 1))) (some (HA.cell0 (S.next + 2))) (some (HA.cell0 (S.next + 3))) p T) hT3 (fun y g => by have := hK y g; omega)
 erw [e4]
 rw [obs]
 simp only [e5,obs]
 simp only [pcode,obs,if_true]
 rw [ldB_cell ((f6.eq _ (by omega)).trans b3),obs,if_pos rfl,ldI_cell ((f6.eq _ (by omega)).trans b2),obs,ldSl_cell ((f6.eq _ (by omega)).trans b0),obs,rollcalllaw20_same.J3,obs,sets_cell _ ((f6.eq _ (by omega)).trans b1),obs]
 have de2 : ∀ o,(S4.put (S.next + 1) o).heap S3.next = .defer := fun o => (put_other _ (by omega)).trans de
 simp only [HS.leave,de2,obs]
 rw [ldB_cell ((put_other _ (by omega)).trans (put_here _ _ _)),obs]
 exact ⟨_,rfl,f5.trans ((f6.mono (by omega)).trans ((Fr.put (by omega) _).trans (Fr.put (by omega) _)))⟩
theorem all_none {n : Nat} (S : HS) : rooms_Rooms_All.f none S = some (.fn (.func 59) [] [],S) ∧ Tells (disp 2000 (n + 1)) (.fn (.func 59) [] []) [] (fun _ => False) S := by
 refine ⟨by rw [rooms_Rooms_All.f,if_pos (by rfl)],?_⟩
 intro H l I Stop ht O S hI hB
 refine ⟨S,O,?_,Nat.le_refl _,fun _ _ _ => rfl,fun _ h => .inl h,.inl hI⟩
 rw [disp_func]
 repeat rw [if_neg (by decide)]
 rw [if_pos rfl]
 rfl
structure Gk (kc bn : Nat) (m i : Nat) (U : HS) : Prop where
 ck : U.heap kc = .cells 1 [[.int .i64 i]] true
 cn : U.heap bn = .cells 1 [[.int .i64 m]] true
 lt : kc < U.next ∧ bn < U.next
theorem stay_end {n m b6 bn : Nat} {fn : Fn} {u v : List HV} {vs : List HA} {K : Nat → Prop} {S : HS} {b : Bool} (hm : vs.length = m) (hm2 : m ≤ 1000) (hT : Tells (disp 2000 (n + 3)) (.fn fn u v) (vs.map fun a => [HV.ptr (some a)]) K S) (hK : ∀ y,K y → y < S.next ∧ y ≠ bn) (cn : S.heap bn = .cells 1 [[.int .i64 m]] true) (c6 : S.heap b6 = .cells 1 [[.bool b]] true) (hb : bn < S.next ∧ b6 < S.next ∧ bn ≠ b6) :
  ∃ S',rollcalllaw20_RoomsStay.J3 (disp 2000 (n + 3)) (fun _ => none) 2000 (some (HA.cell0 b6)) (.fn fn u v) (some (HA.cell0 bn)) false [] S = some (true,S') := by
 rw [rollcalllaw20_RoomsStay.J3,if_neg (by simp),letv]
 have f1 : Fr S.next S ((S.new (.cells 1 [[.int .i64 0]] true)).put S.next (.cells 1 [[.int .i64 0]] true)) := (Fr.new (Nat.le_refl _) _).trans (Fr.put (Nat.le_refl _) _)
 rw [sets_cell _ (new_here _ _),obs]
 have c0 : ((S.new (.cells 1 [[.int .i64 0]] true)).put S.next (.cells 1 [[.int .i64 0]] true)).heap S.next = .cells 1 [[.int .i64 0]] true := put_here _ _ _
 have n1 : ((S.new (.cells 1 [[.int .i64 0]] true)).put S.next (.cells 1 [[.int .i64 0]] true)).next = S.next + 1 := rfl
 generalize (S.new (.cells 1 [[.int .i64 0]] true)).put S.next (.cells 1 [[.int .i64 0]] true) = S1 at f1 c0 n1 ⊢
 have hT1 := hT.move (B' := S1) fun y g => f1.eq y (hK y g).1
 have hlen : (vs.map fun a => [HV.ptr (some a)]).length = m := by simpa using hm
 obtain ⟨T,st,S2,O',e4,e5,de,n5,ch,lt,hnn,hq⟩ := range_tells (D := disp 2000 (n + 3)) (H := fun _ => none) (fv := .fn fn u v) (S := S1) (hd := fun vs T =>
   Option.bind (HS.lp T (S1.next + 1)) fun u71 => Option.bind (args1 vs) fun ar69 => Option.bind (dP ar69) fun p70 => rollcalllaw20_RoomsStay.J4 (disp 2000 (n + 3)) (fun _ => none) 2000 (S1.next + 1) (some (HA.cell0 b6)) (some (HA.cell0 bn)) (some (HA.cell0 S.next)) T)
  (bd := fun i U => rollcalllaw20_RoomsStay.J4 (disp 2000 (n + 3)) (fun _ => none) 2000 (S1.next + 1) (some (HA.cell0 b6)) (some (HA.cell0 bn)) (some (HA.cell0 S.next)) (U.put (S1.next + 1) (.loop .ready none)))
  hT1 (fun y g => by have := (hK y g).1; omega) (fun i O U => Gk S.next bn m i U ∧ ∀ y,O y ↔ (y = S.next ∨ y = bn)) (fun _ _ _ => False)
  (fun i O U U' ⟨g,a4⟩ hk hn => ⟨⟨(hk _ ((a4 _).2 (.inl rfl))).trans g.ck,(hk _ ((a4 _).2 (.inr rfl))).trans g.cn,by have := g.lt; omega⟩,a4⟩) (fun _ _ _ _ h => h.elim)
  (fun y => y = S.next ∨ y = bn) (fun y ho => by omega) ⟨⟨c0,(f1.eq _ hb.1).trans cn,by omega⟩,fun _ => Iff.rfl⟩ (fun y ho g => by have := hK y g; omega)
  (fun i hi U hU => by
   have hi' : i < vs.length := by simpa using hi
   rw [lp_at hU,obs,List.getElem_map,show args1 [HV.ptr (some vs[i])] = some (.ptr (some vs[i])) from rfl,obs,show dP (HV.ptr (some vs[i])) = some (some vs[i]) from rfl,obs,putB hU])
  (fun i hi O1 U ⟨g,a4⟩ hnu hl hno hlt => by
   have hi' : i < m := by rw [hlen] at hi; exact hi
   have hl1 : S1.next + 1 ≠ S.next ∧ S1.next + 1 ≠ bn := by omega
   rw [rollcalllaw20_RoomsStay.J4,begin_at (put_here _ _ _),obs,putB hl,obs,ldI_cell g.ck,obs,obs,sets_cell _ g.ck,obs,obs,w64_id (by omega) (by omega),ldI_cell (put_here _ _ _),obs,obs,ldI_cell ((put_other _ (by omega)).trans g.cn),obs,if_neg (by omega),show ((i : Int) + 1) = ((i + 1 : Nat) : Int) by simp]
   have := g.lt
   refine ⟨_,O1,none,rfl,⟨Nat.le_refl _,fun y r1 r2 => put_other _ (fun e => r2 ((a4 _).2 (.inl e))),fun y ho => .inl ho⟩,fun y ho => by rw [put_next]; have := (a4 y).1 ho; omega,fun _ => ⟨⟨put_here _ _ _,(put_other _ (by omega)).trans g.cn,by rw [put_next]; omega⟩,a4⟩,fun c h => by cases h⟩)
 erw [e4]
 rw [obs]
 simp only [e5,obs]
 cases hst : st with
 | some cd => exact (hq cd hst).elim
 | none =>
  obtain ⟨g,a4⟩ := hnn hst
  rw [hlen] at g
  have hle := ch.le
  have d6 : S2.heap b6 = .cells 1 [[.bool b]] true := (ch.eq _ (by omega) (by omega)).trans ((f1.eq _ hb.2.1).trans c6)
  simp only [pcode,obs,if_true]
  obtain ⟨fn',u',v',S3,K',e6,hT2,hK2,f3⟩ := peers_none (n := n) (H := fun _ => none) 1 S2
  have l3 := f3.le
  obtain ⟨out,S4,e7,hr,_,f4⟩ := KI.told_spec (n := n) (xs := []) (most := 0) hT2 (fun y g => (hK2 y g).2) (by simp) (by simp)
  have l4 := f4.le
  have hlen0 : (out.len : Int) = 0 := by rw [← rows_len hr]; rfl
  have k4 : ∀ y,y < S2.next → S4.heap y = S2.heap y := fun y h => (f4.eq y (by omega)).trans (f3.eq y h)
  rw [rooms_Rooms_Get.f,if_pos (by rfl),obs]
  simp only
  rw [rooms_Rooms_Join.f,if_pos (by rfl),obs]
  simp only
  rw [e6,obs]
  simp only
  rw [e7,obs]
  simp only
  have lt2 := g.lt
  rw [ldI_cell ((k4 _ lt2.1).trans g.ck),obs]
  rw [ldI_cell ((k4 _ lt2.2).trans g.cn),obs,if_pos rfl]
  rw [rollcalllaw20_RoomsStay.J5,if_pos (by rfl),rollcalllaw20_RoomsStay.J6,if_pos (by rfl),rollcalllaw20_RoomsStay.J7,if_pos (by rfl),rollcalllaw20_RoomsStay.J8,if_pos (by rfl),rollcalllaw20_RoomsStay.J9,if_pos (by rfl),rollcalllaw20_RoomsStay.J10,if_pos (by simpa using hlen0)]
  rw [rooms_Rooms_Part.f,rooms_Rooms_Get.f,if_pos (by rfl),obs,if_pos (by rfl),rooms_Rooms_Part.J0,if_pos rfl,obs]
  rw [rollcalllaw20_RoomsStay.J11,if_pos (by rfl)]
  obtain ⟨S5,e8,f5⟩ := leave_none (n := n + 1) (H := fun _ => none) 1 S4
  rw [e8,obs,rollcalllaw20_RoomsStay.J12,if_pos (by rfl),rooms_Rooms_Count.f,if_pos (by rfl),obs,rollcalllaw20_RoomsStay.J13,if_pos (by rfl),rooms_Rooms_Len.f,if_pos (by rfl),obs,rollcalllaw20_RoomsStay.J14,if_pos (by rfl)]
  obtain ⟨S6,e9,f6⟩ := common_none (n := n + 1) (H := fun _ => none) 1 1 S5
  obtain ⟨e10,hT10⟩ := all_none (n := n + 2) S6
  rw [e9,obs,rollcalllaw20_RoomsStay.J15,if_pos (by rfl),e10,obs]
  obtain ⟨S7,e11,f7⟩ := same_none (n := n + 3) hT10 (fun y g => g.elim)
  simp only
  rw [e11,obs,rollcalllaw20_RoomsStay.J16,if_pos (by rfl)]
  obtain ⟨c,S8,e12,hT12,k1,k2,f8⟩ := of_none (n := n + 1) (H := fun _ => none) 1 S7
  obtain ⟨S9,e13,f9⟩ := same_none (n := n + 3) hT12 (fun y g => by omega)
  simp only
  rw [e12,obs]
  simp only
  rw [e13,obs,rollcalllaw20_RoomsStay.J17,obs]
  simp only
  have l5 := f5.le
  have l6 := f6.le
  have l7 := f7.le
  have l8 := f8.le
  have l9 := f9.le
  have k9 : ∀ y,y < S2.next → S9.heap y = S2.heap y := fun y h => (f9.eq y (by omega)).trans ((f8.eq y (by omega)).trans ((f7.eq y (by omega)).trans ((f6.eq y (by omega)).trans ((f5.eq y (by omega)).trans (k4 y h)))))
  rw [sets_cell _ ((k9 _ (by omega)).trans d6),obs]
  have de2 : ∀ o,(S9.put b6 o).heap S1.next = .defer := fun o => (put_other _ (by omega)).trans ((k9 _ (by omega)).trans de)
  simp only [HS.leave,de2,obs]
  rw [ldB_cell ((put_other _ (by omega)).trans (put_here _ _ _)),obs]
  exact ⟨_,rfl⟩
theorem JRes.memL {x : W} {t : T} {id : Int} {name : List UInt8} {q : Option HA} {c : Int} {R' : List Rm} {L' : List Pr} (h : JRes x t id name q c R' L') {p : Pr} (hp : p ∈ L') : p ∈ t.L ∨ p.1 = id := by
 cases h with
 | stay _ _ _ => exact .inl hp
 | full _ _ => exact .inl hp
 | come _ _ _ _ _ _ _ =>
  rcases List.mem_append.1 hp with g | g
  ·exact .inl g
  ·simp at g; subst g; exact .inr rfl
 | new _ _ _ _ _ =>
  rcases List.mem_append.1 hp with g | g
  ·exact .inl g
  ·simp at g; subst g; exact .inr rfl
theorem stay_leave {x : W} {b6 bn : Nat} {y2 : Sl} {ls : List Ac} {t : T} {S : HS} {b : Bool} {m : Nat} {fn : Fn} {us ws : List HV} {vs : List HA} {K : Nat → Prop} (h40 : ls.length ≤ 40) (hr : S.rows y2 3 = some (ls.map actRow)) (hrq : ∀ q,y2.a = some q → q.1 < S.next ∧ ¬ OA x t q.1)
  (hm : vs.length = m) (hm2 : m ≤ 1000) (hT : Tells (disp 2000 8) (.fn fn us ws) (vs.map fun a => [HV.ptr (some a)]) K S) (hK : ∀ y,K y → y < S.next ∧ y ≠ bn ∧ ¬ OA x t y) (cn : S.heap bn = .cells 1 [[.int .i64 m]] true) (c6 : S.heap b6 = .cells 1 [[.bool b]] true) (hb : bn < S.next ∧ b6 < S.next ∧ bn ≠ b6) (hbO : ¬ OA x t bn ∧ ¬ OA x t b6) :
  ∀ (f i : Nat) (u : T) (U : HS),ls.length - i < f → i ≤ ls.length → RsI x u U → u.n ≤ 40 → (∀ p ∈ u.L,∃ a ∈ ls.drop i,a.2.1 = p.1) → Chg (OA x t) (OA x u) S U →
  ∃ S',rollcalllaw20_RoomsStay.L2 (disp 2000 8) (fun _ => none) 2000 f y2 (some (HA.cell0 b6)) (some (HA.cell0 x.w)) (.fn fn us ws) (some (HA.cell0 bn)) (i : Int) [] U = some (true,S') := by
 intro f
 induction f with
 | zero => intro i u U h; omega
 | succ f ih =>
  intro i u U hf hi h hn hL ch
  have hle := ch.le
  have hk : ∀ y,y < S.next → ¬ OA x t y → U.heap y = S.heap y := ch.eq
  have hrU : U.rows y2 3 = some (ls.map actRow) := rows_keep hr fun q hq => hk _ (hrq q hq).1 (hrq q hq).2
  have hsl : (y2.len : Int) = ls.length := by rw [← rows_len hrU]; simp
  rw [rollcalllaw20_RoomsStay.L2,hsl]
  by_cases hlt : i < ls.length
  ·obtain ⟨ad,a1,a2,a3,a4⟩ := act_rows hrU hlt
   have hi1 : w64 ((i : Int) + 1) = ((i + 1 : Nat) : Int) := by rw [w64_id (by omega) (by omega)]; simp
   rw [if_pos (by omega),a1,obs,a3,obs]
   obtain ⟨xs,hs,hm',_,_⟩ := h.rel.at1 ls[i].2.1
   obtain ⟨u',U',e1,h1,ch1,hl1⟩ := leave_spec (n := 6) (H := fun _ => none) h (by omega) ls[i].2.1 hs hm'
   have hle1 := ch1.le
   have ch' := ch.trans ch1
   have hrU' : U'.rows y2 3 = some (ls.map actRow) := rows_keep hr fun q hq => ch'.eq _ (hrq q hq).1 (hrq q hq).2
   obtain ⟨ad',b1,b2,b3,b4⟩ := act_rows hrU' hlt
   rw [e1,obs]
   simp only
   rw [b1,obs,b3,obs,rooms_count h1 ls[i].2.1 (xs := []) List.Pairwise.nil (fun v => by rw [hl1.own,List.drop_length]),obs,if_neg (by simp),hi1]
   refine ih (i + 1) u' U' (by omega) (by omega) h1 (by rw [hl1.n]; exact hn) (fun p hp => ?_) ch'
   by_cases he : p.1 = ls[i].2.1
   ·have : (ls[i].2.1,p.2) ∈ u'.L := by rw [← he]; exact hp
    rw [hl1.own,List.drop_length] at this
    cases this
   ·have : (p.1,p.2) ∈ u.L := (hl1.oth _ _ he).1 hp
    obtain ⟨a,ha,hae⟩ := hL _ this
    rw [List.drop_eq_getElem_cons hlt] at ha
    rcases List.mem_cons.1 ha with g | g
    ·subst g; exact absurd hae.symm he
    ·exact ⟨a,g,hae⟩
  ·obtain rfl : i = ls.length := by omega
   have hL0 : u.L = [] := by
    cases hc : u.L with
    | nil => rfl
    | cons p l =>
     obtain ⟨a,ha,_⟩ := hL p (by rw [hc]; simp)
     rw [List.drop_length] at ha; cases ha
   have hR0 : u.R = [] := by
    cases hc : u.R with
    | nil => rfl
    | cons e l =>
     have he : e ∈ u.R := by rw [hc]; simp
     have hne := h.ne e he
     obtain ⟨m,hm⟩ := List.exists_mem_of_ne_nil _ hne
     have : (m.1,e.key) ∈ u.L := (h.link _ _).2 ⟨e,he,rfl,List.mem_map.2 ⟨m,hm,rfl⟩⟩
     rw [hL0] at this; cases this
   rw [if_neg (by omega)]
   simp only [HV.isNilFn,obs,Bool.false_eq_true,if_false]
   rw [rooms_len h,obs,hR0]
   have e0 : (!decide (((([] : List Rm).length : Int),U).1 = 0)) = false := by simp
   rw [e0]
   simp only
   exact stay_end (n := 5) hm hm2 (hT.move fun y g => hk y (hK y g).1 (hK y g).2.2) (fun y g => ⟨by have := hK y g; omega,(hK y g).2.1⟩) ((hk _ hb.1 hbO.1).trans cn) ((hk _ hb.2.1 hbO.2).trans c6) ⟨by omega,by omega,hb.2.2⟩
theorem stay_loop {x : W} {b6 g : Nat} {y0 y1 : Int} {y2 : Sl} {ls : List Ac} {S : HS} {b : Bool} (h40 : ls.length ≤ 40) (hll : ∀ a ∈ ls,a.2.2.length ≤ 60) (hr : S.rows y2 3 = some (ls.map actRow)) (hrq : ∀ q,y2.a = some q → q.1 < g) (c6 : S.heap b6 = .cells 1 [[.bool b]] true) (hb : b6 < g) (hmR : x.mR = y0) (hmJ : x.mJ = y1) (h0 : 0 ≤ y0 ∧ y0 ≤ 255) (h1 : 0 ≤ y1 ∧ y1 ≤ 255) :
  ∀ (f i : Nat) (t : T) (U : HS),ls.length - i < f → i ≤ ls.length → RsI x t U → t.n ≤ i → (∀ p ∈ t.L,∃ a ∈ ls,a.2.1 = p.1) → (∀ y,OA x t y → g ≤ y) → (∀ y,y < g → U.heap y = S.heap y) → g ≤ U.next →
  ∃ S',rollcalllaw20_RoomsStay.L0 (disp 2000 8) (fun _ => none) 2000 f y0 y1 y2 (some (HA.cell0 b6)) (some (HA.cell0 x.w)) (i : Int) [] U = some (true,S') := by
 intro f
 induction f with
 | zero => intro i t U h; omega
 | succ f ih =>
  intro i t U hf hi h hn hL hO hk hg
  have hrU : U.rows y2 3 = some (ls.map actRow) := rows_keep hr fun q hq => hk _ (hrq q hq)
  have hsl : (y2.len : Int) = ls.length := by rw [← rows_len hrU]; simp
  have w0 : w64 y0 = y0 := w64_id (by omega) (by omega)
  have w1 : w64 y1 = y1 := w64_id (by omega) (by omega)
  rw [rollcalllaw20_RoomsStay.L0,hsl]
  by_cases hlt : i < ls.length
  ·obtain ⟨ad,a1,a2,a3,a4⟩ := act_rows hrU hlt
   have hi1 : w64 ((i : Int) + 1) = ((i + 1 : Nat) : Int) := by rw [w64_id (by omega) (by omega)]; simp
   have hnl := hll ls[i] (List.getElem_mem hlt)
   rw [if_pos (by omega),a1,obs,a3,obs,obs,a4,obs]
   obtain ⟨q,c,t',U',e1,h',n1,ch,jr⟩ := join_spec (n := 7) (H := fun _ => none) h (by omega) ls[i].2.1 ls[i].2.2 (by omega)
   have hle := ch.le
   have hO' : ∀ y,OA x t' y → g ≤ y := fun y ho => (ch.own y ho).elim (hO y) (fun g => by omega)
   have hk' : ∀ y,y < g → U'.heap y = S.heap y := fun y hy => (ch.eq y (by omega) (fun ho => by have := hO y ho; omega)).trans (hk y hy)
   have hrU' : U'.rows y2 3 = some (ls.map actRow) := rows_keep hr fun q hq => hk' _ (hrq q hq)
   obtain ⟨ad',b1,b2,b3,b4⟩ := act_rows hrU' hlt
   have hcR := h'.cntR
   obtain ⟨xs,hs,hm,_,_⟩ := h'.rel.at1 ls[i].2.1
   have hcJ := h'.cntJ _ _ hs hm
   rw [e1,obs]
   simp only
   rw [rooms_len h',obs,if_neg (by rw [w0]; omega)]
   simp only
   rw [b1,obs,b3,obs,rooms_count h' _ hs hm,obs,decide_eq_false (by rw [w1]; omega),rollcalllaw20_RoomsStay.J1,if_neg (by simp),hi1]
   exact ih (i + 1) t' U' (by omega) (by omega) h' (by omega) (fun p hp => (jr.memL hp).elim (hL p) (fun g => ⟨ls[i],List.getElem_mem hlt,g.symm⟩)) hO' hk' (by omega)
  ·rw [if_neg (by omega)]
   obtain ⟨c,U1,K1,e1,hT1,hK1,f1⟩ := rooms_all (n := 5) h
   have l1 := f1.le
   have h1' := h.fr f1
   have hOlt : ∀ y,OA x t y → y < U.next := fun y ho => h.ltO ho
   rw [e1,obs]
   simp only
   rw [rooms_len h1',obs,letv]
   simp only
   rw [sets_cell _ (new_here _ _),obs]
   have f2 : Fr U1.next U1 ((U1.new (.cells 1 [[.int .i64 0]] true)).put U1.next (.cells 1 [[.int .i64 t.R.length]] true)) := (Fr.new (Nat.le_refl _) _).trans (Fr.put (Nat.le_refl _) _)
   have c2 : ((U1.new (.cells 1 [[.int .i64 0]] true)).put U1.next (.cells 1 [[.int .i64 t.R.length]] true)).heap U1.next = .cells 1 [[.int .i64 t.R.length]] true := put_here _ _ _
   have n2 : ((U1.new (.cells 1 [[.int .i64 0]] true)).put U1.next (.cells 1 [[.int .i64 t.R.length]] true)).next = U1.next + 1 := rfl
   generalize (U1.new (.cells 1 [[.int .i64 0]] true)).put U1.next (.cells 1 [[.int .i64 t.R.length]] true) = U2 at f2 c2 n2 ⊢
   have hkg : ∀ y,y < g → U2.heap y = S.heap y := fun y hy => (f2.eq y (by omega)).trans ((f1.eq y (by omega)).trans (hk y hy))
   have hcR := h.cntR
   refine stay_leave (K := K1) (vs := t.R.map fun e => HA.cell0 e.p) (m := t.R.length) h40 (rows_keep hr fun q hq => hkg _ (hrq q hq)) (fun q hq => ⟨by have := hrq q hq; omega,fun ho => by have := hO _ ho; have := hrq q hq; omega⟩) (by simp) (by omega) (by rw [List.map_map]; exact hT1.move fun y g => f2.eq y (hK1 y g).2) (fun y g => ⟨by have := hK1 y g; omega,by have := hK1 y g; omega,fun ho => by have := hOlt _ ho; have := hK1 y g; omega⟩) c2 ((hkg _ hb).trans c6) ⟨by omega,by omega,by omega⟩ ⟨fun ho => by have := hOlt _ ho; omega,fun ho => by have := hO _ ho; omega⟩ 2000 0 t U2 (by omega) (Nat.zero_le _) (h1'.fr f2) (by omega) (by rw [List.drop_zero]; exact hL) (Chg.refl _ _)
theorem roomsStay_law {S : HS} {y2 : Sl} {ls : List Ac} {a b : Int} (ha : 0 ≤ a ∧ a ≤ 255) (hb : 0 ≤ b ∧ b ≤ 255) (hr : Rd S.next S 3 y2 (ls.map actRow)) : ∃ S',rollcalllaw20_RoomsStay.f (disp 2000 8) (fun _ => none) 2000 a b y2 S = some (true,S') := by
 rw [rollcalllaw20_RoomsStay.f,letv]
 have f0 : Fr S.next S (S.new (.cells 1 [[.bool false]] true)) := Fr.new (Nat.le_refl _) _
 have c4 : (S.new (.cells 1 [[.bool false]] true)).heap S.next = .cells 1 [[.bool false]] true := new_here _ _
 have n0 : (S.new (.cells 1 [[.bool false]] true)).next = S.next + 1 := rfl
 generalize S.new (.cells 1 [[.bool false]] true) = S0 at f0 c4 n0 ⊢
 have hr0 := hr.frame f0 (Nat.le_refl _)
 obtain ⟨S1,e1,f1⟩ : ∃ S1,aw.f S0 = some (true,S1) ∧ Fr S0.next S0 S1 := ⟨S0,rfl,Fr.refl _ _⟩
 have hr1 := hr0.frame f1 (by omega)
 obtain ⟨c,e2,hc⟩ := great_spec hr1.rows
 have l1 := f1.le
 have d4 := (f1.eq S.next (by omega)).trans c4
 rw [e1,obs,if_neg (by simp),e2,obs]
 cases c with
 | true =>
  rw [if_pos rfl,sets_cell _ d4,obs]
  simp only [HS.leave,obs]
  rw [ldB_cell (put_here _ _ _),obs]
  exact ⟨_,rfl⟩
 | false =>
  obtain ⟨h40,hll⟩ := hc rfl
  rw [if_neg (by simp),w64_id (by omega) (by omega),w64_id (by omega) (by omega)]
  obtain ⟨x,t,S2,e3,h,mR,mJ,n2,R0,L0,f2,o2⟩ := rooms_new (mR := a) (mJ := b) (mB := 3) ha.1 (by omega) hb.1 (by omega) S1
  have l2 := f2.le
  rw [e3,obs]
  exact stay_loop (g := S1.next) (S := S1) h40 hll hr1.rows (fun q hq => by have := hr.lt q hq; omega) d4 (by omega) mR mJ ha hb 2000 0 t S2 (by omega) (Nat.zero_le _) h (by omega) (by rw [L0]; intro p hp; cases hp) o2 (fun y hy => f2.eq y hy) l2
theorem roomsStay_call (W : World) (β0 : Bt) (S : HS) (a : Int) (w0 : (Lit.int .u8 a).wf = true) (b : Int) (w1 : (Lit.int .u8 b).wf = true) (s2 : Sl) (rows2 : List (List HV)) (h2 : ArgSl S 3 s2 rows2) (f2 : ∀ row ∈ rows2,RowFits [.int .i64,.int .i64,.str] row) :
  HCall Tryz.prog W.heap.size W β0 6 [.int .u8 a,.int .u8 b,s2.hv] S (fun v _ => v = .bool true) := by
 obtain ⟨ls,rfl⟩ := rows_acts f2
 have ha : 0 ≤ a ∧ a ≤ 255 := by
  simp only [Lit.wf,Bool.and_eq_true,decide_eq_true_eq] at w0
  simp [IntKind.min,IntKind.max,IntKind.signed,IntKind.bits] at w0
  omega
 have hb : 0 ≤ b ∧ b ≤ 255 := by
  simp only [Lit.wf,Bool.and_eq_true,decide_eq_true_eq] at w1
  simp [IntKind.min,IntKind.max,IntKind.signed,IntKind.bits] at w1
  omega
 obtain ⟨_,h⟩ := roomsStay_law ha hb h2.rd
 exact (rollcalllaw20_RoomsStay.snd (disp_snd 8) (fun _ _ h => by cases h) h).mono fun _ _ h => h.1
end Go.Proofs.YtbmfomkfmpppiaaGreat.X
