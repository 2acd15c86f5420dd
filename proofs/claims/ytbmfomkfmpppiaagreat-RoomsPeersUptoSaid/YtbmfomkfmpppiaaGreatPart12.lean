/- The layer rooms: steps of what is held, plain. The layer rooms: Join, plain. The layer rooms: Join, plain. The layer rooms: Part, plain. The layer rooms: the rooms of somebody, plain. The layer rooms: all rooms, as they are told, plain. The layer rooms: ranges inside a body; New, plain. The layer rooms: acts; members looked up; all rooms, plain. The layer rooms: what is told, gathered. The layer rooms: unions, plain. The layer rooms: Without, plain. The layer rooms: a range within a range; members told, plain. The layer rooms: the members of one room, gathered into a set, plain. The layer rooms: Peers, plain. The layer rooms: Peers, plain. The layer rooms: the document's rooms: one room, plain. The layer rooms: the document's rooms: all of them; Get, Of, plain. The layer rooms: the document's rooms: Join and Part, plain. The layer rooms: the document's rooms: Part, Leave, plain. The layer rooms: the program's rooms and the document's, side by side, plain. The document's lists of numbers, plain. The layer rooms: who has a room in common with whom: the program's answer and the document's, plain. The layer rooms: RoomsPeers, plain. -/
import Derived.Test.YtbmfomkfmpppiaaGreatPart11
namespace Go.Proofs.YtbmfomkfmpppiaaGreat.X
open Go.Proofs.YtbmfomkfmpppiaaGreat.HL
set_option linter.unusedVariables false
section
variable {x : W} {t : T} {S S' : HS}
theorem RsC.rel_step {n' : Nat} {E1' : List MA.En} {E2' : List MB.En} {L' : List Pr} (h : RsC x t S) (hr : RelI x.r x.m1 x.m2 n' x.mJ E1' E2' L' S') (ch : Chg (OR x.r x.m1 x.m2 t.E1 t.E2) (OR x.r x.m1 x.m2 E1' E2') S S') :
  RsC x { t with n := n',E1 := E1',E2 := E2',L := L' } S' ∧ Chg (OA x t) (OA x { t with n := n',E1 := E1',E2 := E2',L := L' }) S S' := by
 have hb : ∀ id,Own x.bk t.bs id → ¬ OR x.r x.m1 x.m2 E1' E2' id := fun id g g' => by
  rcases ch.own id g' with k | k
  ·exact h.dbr id g k
  ·have := h.book.lt g; omega
 have hw : ¬ OR x.r x.m1 x.m2 E1' E2' x.w := fun g' => by
  rcases ch.own _ g' with k | k
  ·exact h.dwr k
  ·have := h.hi; omega
 have hR : ∀ e ∈ t.R,∀ id,OwnR e id → ¬ OR x.r x.m1 x.m2 t.E1 t.E2 id := fun e he id g g' => h.dR e he id g (.inr (.inr g'))
 refine ⟨⟨(ch.eq _ h.hi h.dwr).trans h.cell,Yai h.hi ch.le,h.book.keep (fun id g => ch.eq id (h.book.lt g) (h.dbr id g)) ch.le,hr,fun e he => (h.rooms e he).keep (fun id g => ch.eq id ((h.rooms e he).lt g) (hR e he id g)) ch.le,h.dwb,hw,hb,h.pw,?_⟩,⟨ch.le,fun id g1 g2 => ch.eq id g1 (fun g => g2 (.inl (.inr (.inr g)))),?_⟩⟩
 ·rintro e he id g (g' | g' | g')
  ·exact h.dR e he id g (.inl g')
  ·exact h.dR e he id g (.inr (.inl g'))
  ·rcases ch.own id g' with k | k
   ·exact hR e he id g k
   ·have := (h.rooms e he).lt g; omega
 ·rintro id ((g | g | g) | g)
  ·exact .inl (.inl (.inl g))
  ·exact .inl (.inl (.inr (.inl g)))
  ·exact (ch.own id g).imp (fun g => .inl (.inr (.inr g))) (fun g => g)
  ·exact .inl (.inr g)
theorem RsC.room_step {A B : List Rm} {e e' : Rm} (h : RsC x t S) (hR : t.R = A ++ e :: B) (hr : RI e' S') (hp : e'.p = e.p) (hn : e'.name = e.name) (ch : Chg (OwnR e) (OwnR e') S S') :
  RsC x { t with R := A ++ e' :: B } S' ∧ Chg (OA x t) (OA x { t with R := A ++ e' :: B }) S S' := by
 have he : e ∈ t.R := by rw [hR]; simp
 have hB : ∀ id,OB x t id → id < S.next ∧ ¬ OwnR e id := fun id g => ⟨h.ltO (.inl g),fun g' => h.dR e he id g' g⟩
 have hkB : ∀ id,OB x t id → S'.heap id = S.heap id := fun id g => ch.eq id (hB id g).1 (hB id g).2
 have hpw := h.pw
 rw [hR,Yad,Yah] at hpw
 obtain ⟨p1,⟨p2,p3⟩,p4⟩ := hpw
 have hoth : ∀ y,y ∈ A ∨ y ∈ B → ∀ id,OwnR y id → ¬ OwnR e id := fun y hy id g g' => by
  rcases hy with hy | hy
  ·exact p4 y hy e (by simp) id g g'
  ·exact p2 y hy id g' g
 have hmem : ∀ y,y ∈ A ∨ y ∈ B → y ∈ t.R := fun y hy => by rw [hR]; simp; rcases hy with hy | hy <;> simp [hy]
 have hnew : ∀ y,y ∈ A ∨ y ∈ B → ∀ id,OwnR y id → ¬ OwnR e' id := fun y hy id g g' => by
  rcases ch.own id g' with k | k
  ·exact hoth y hy id g k
  ·have := (h.rooms y (hmem y hy)).lt g; omega
 refine ⟨⟨(hkB _ (.inl rfl)).trans h.cell,Yai h.hi ch.le,?_,h.rel.keep (fun id g => hkB id (.inr (.inr g))) ch.le,?_,h.dwb,h.dwr,h.dbr,?_,?_⟩,⟨ch.le,fun id g1 g2 => ch.eq id g1 (fun g => g2 (.inr ⟨e,he,g⟩)),?_⟩⟩
 ·have : (A ++ e' :: B).map ent = t.R.map ent := by rw [hR]; simp [ent,hp,hn]
  show BK.BI x.bk t.bs x.mR ((A ++ e' :: B).map ent) S'
  rw [this]
  exact h.book.keep (fun id g => hkB id (.inr (.inl g))) ch.le
 ·intro y hy
  have hy : y ∈ A ++ e' :: B := hy
  simp only [Yab,Yac] at hy
  have key : (y ∈ A ∨ y ∈ B) ∨ y = e' := by rcases hy with g | g | g <;> simp [g]
  rcases key with g | rfl
  ·exact (h.rooms y (hmem y g)).keep (fun id k => ch.eq id ((h.rooms y (hmem y g)).lt k) (hoth y g id k)) ch.le
  ·exact hr
 ·show (A ++ e' :: B).Pairwise _
  rw [Yad,Yah]
  refine ⟨p1,⟨fun y hy id g g' => hnew y (.inr hy) id g' g,p3⟩,fun y hy z hz => ?_⟩
  rcases Yac.1 hz with rfl | hz
  ·exact hnew y (.inl hy)
  ·exact p4 y hy z (by simp [hz])
 ·intro y hy id g g'
  have hy : y ∈ A ++ e' :: B := hy
  simp only [Yab,Yac] at hy
  have key : (y ∈ A ∨ y ∈ B) ∨ y = e' := by rcases hy with g | g | g <;> simp [g]
  rcases key with k | rfl
  ·exact h.dR y (hmem y k) id g g'
  ·rcases ch.own id g with k | k
   ·exact (hB id g').2 k
   ·have := (hB id g').1; omega
 ·rintro id (g | ⟨y,hy,g⟩)
  ·exact .inl (.inl g)
  ·have hy : y ∈ A ++ e' :: B := hy
   simp only [Yab,Yac] at hy
   have key : (y ∈ A ∨ y ∈ B) ∨ y = e' := by rcases hy with g | g | g <;> simp [g]
   rcases key with k | rfl
   ·exact .inl (.inr ⟨y,hmem y k,g⟩)
   ·exact (ch.own id g).imp (fun g => .inr ⟨e,he,g⟩) (fun g => g)
theorem RsC.book_step {bs' : Sl} {R' : List Rm} (h : RsC x t S) (hb : BK.BI x.bk bs' x.mR (R'.map ent) S') (on : Only x.bk t.bs bs' S S') (hr : ∀ e ∈ R',RI e S) (hpw : R'.Pairwise fun a b => ∀ id,OwnR a id → ¬ OwnR b id) (hd : ∀ e ∈ R',∀ id,OwnR e id → ¬ OB x t id) :
  RsC x { t with bs := bs',R := R' } S' ∧ S.next ≤ S'.next ∧ (∀ id,id < S.next → ¬ OA x t id → S'.heap id = S.heap id) := by
 have hk : ∀ id,id < S.next → ¬ Own x.bk t.bs id → S'.heap id = S.heap id := on.eq
 have hw : ¬ Own x.bk bs' x.w := fun g => by
  rcases on.own _ g with k | k
  ·exact h.dwb k
  ·have := h.hi; omega
 refine ⟨⟨(hk _ h.hi h.dwb).trans h.cell,Yai h.hi on.le,hb,h.rel.keep (fun id g => hk id (h.rel.ltO g) (fun g' => h.dbr id g' g)) on.le,fun e he => (hr e he).keep (fun id g => hk id ((hr e he).lt g) (fun g' => hd e he id g (.inr (.inl g')))) on.le,hw,h.dwr,fun id g g' => ?_,hpw,?_⟩,on.le,fun id g1 g2 => hk id g1 (fun g => g2 (.inl (.inr (.inl g))))⟩
 ·rcases on.own id g with k | k
  ·exact h.dbr id k g'
  ·have := h.rel.ltO g'; omega
 ·rintro e he id g (g' | g' | g')
  ·exact hd e he id g (.inl g')
  ·rcases on.own id g' with k | k
   ·exact hd e he id g (.inr (.inl k))
   ·have := (hr e he).lt g; omega
  ·exact hd e he id g (.inr (.inr g'))
end
theorem Zace {α : Type} [DecidableEq α] : ∀ (l m : List α),l.Nodup → (∀ x ∈ l,x ∈ m) → l.length ≤ m.length := by
 intro l
 induction l with
 | nil => intro m _ _; simp
 | cons x l ih =>
  intro m hn hs
  have hn' := List.nodup_cons.1 hn
  have h1 := ih (m.erase x) hn'.2 fun y hy => (List.mem_erase_of_ne (by rintro rfl; exact hn'.1 hy)).2 (hs y (by simp [hy]))
  have hx := hs x (by simp)
  rw [List.length_erase_of_mem hx] at h1
  have := List.length_pos_of_mem hx
  rw [List.length_cons]; omega
abbrev Ac := Int × Int × List UInt8
def Zac4 (a : Ac) : List HV := [.int .i64 a.1,.int .i64 a.2.1,.str a.2.2]
theorem Zac5 {xs : List KS.Ky} (h : KS.Srt xs) : xs.Nodup := h.imp fun {a b} h e => by subst e; rw [KS.klt_irrefl] at h; cases h
theorem new_rel {most : Int} (h0 : 0 ≤ most) (h1 : most ≤ 100000) (S : HS) : ∃ S',Y63.f most S = some ((some (HA.cell0 (S.next + 2)),0),S') ∧ RelI (S.next + 2) S.next (S.next + 1) 0 most [] [] [] S' ∧ Fr S.next S S' ∧ S'.next = S.next + 3 ∧ (∀ id,OR (S.next + 2) S.next (S.next + 1) [] [] id → S.next ≤ id) := by
 rw [Y63.f,if_neg (by omega),Y63.J0,if_neg (by rw [decide_eq_false (by omega)]; simp),letv,letv,letv]
 have e1 : ((S.new (.map [])).new (.map [])).heap S.next = .map [] := by rw [Zyn _ (by rw [Zxz]; omega)]; exact Zxv _ _
 have e2 : ((S.new (.map [])).new (.map [])).heap (S.next + 1) = .map [] := Zxv (S.new _) _
 have n2 : ((S.new (.map [])).new (.map [])).next = S.next + 2 := rfl
 have f2 : Fr S.next S ((S.new (.map [])).new (.map [])) := (Fr.new (Yaa _) _).trans (Fr.new (by rw [Zxz]; omega) _)
 rw [show (S.new (.map [])).next = S.next + 1 from rfl,n2]
 generalize (S.new (.map [])).new (.map []) = T at e1 e2 n2 f2 ⊢
 have f3 : Fr T.next T (T.new (.cells 4 [[.int .i64 most,.int .i64 0,.map (some S.next),.map (some (S.next + 1))]] true)) := Fr.new (Yaa _) _
 refine ⟨_,rfl,⟨by rw [← n2]; exact Zxv _ _,⟨(f3.eq _ (by omega)).trans e1,List.Pairwise.nil,fun e h => (by cases h),List.Pairwise.nil,fun e h => (by cases h),by rw [Zxz]; omega⟩,⟨(f3.eq _ (by omega)).trans e2,List.Pairwise.nil,fun e h => (by cases h),List.Pairwise.nil,fun e h => (by cases h),by rw [Zxz]; omega⟩,fun id g1 g2 => ?_,fun g => ?_,fun g => ?_,by rw [Zxz]; omega,fun a b => ⟨fun ⟨e,h,_⟩ => (by cases h),fun h => (by cases h)⟩,fun a b => ⟨fun ⟨e,h,_⟩ => (by cases h),fun h => (by cases h)⟩,fun e h => (by cases h),fun e h => (by cases h),fun e h => (by cases h),fun e h => (by cases h),List.nodup_nil,Yaa _,by omega⟩,f2.trans (f3.mono (by omega)),by rw [Zxz]; omega,fun id g => ?_⟩
 ·rcases g1 with g1 | ⟨e,h,_⟩
  ·rcases g2 with g2 | ⟨e,h,_⟩
   ·omega
   ·cases h
  ·cases h
 ·rcases g with g | ⟨e,h,_⟩
  ·omega
  ·cases h
 ·rcases g with g | ⟨e,h,_⟩
  ·omega
  ·cases h
 ·rcases g with g | (g | ⟨e,h,_⟩) | (g | ⟨e,h,_⟩)
  ·omega
  ·omega
  ·cases h
  ·omega
  ·cases h
theorem link_add {A B : List Rm} {e e' : Rm} {L : List Pr} {id : Int} (h : ∀ a b,(a,b) ∈ L ↔ ∃ y ∈ A ++ e :: B,y.key = b ∧ a ∈ y.ids) (hk : e'.key = e.key) (hi : ∀ a,a ∈ e'.ids ↔ a ∈ e.ids ∨ a = id) :
  ∀ a b,(a,b) ∈ L ++ [(id,e.key)] ↔ ∃ y ∈ A ++ e' :: B,y.key = b ∧ a ∈ y.ids := by
 intro a b
 rw [Yab,h]
 constructor
 ·rintro (⟨y,hy,h1,h2⟩ | g)
  ·simp only [Yab,Yac] at hy
   rcases hy with g | rfl | g
   ·exact ⟨y,by simp [g],h1,h2⟩
   ·exact ⟨e',by simp,hk.trans h1,(hi a).2 (.inl h2)⟩
   ·exact ⟨y,by simp [g],h1,h2⟩
  ·simp only [Yaq,Prod.mk.injEq] at g
   exact ⟨e',by simp,hk.trans g.2.symm,(hi a).2 (.inr g.1)⟩
 ·rintro ⟨y,hy,h1,h2⟩
  simp only [Yab,Yac] at hy
  rcases hy with g | rfl | g
  ·exact .inl ⟨y,by simp [g],h1,h2⟩
  ·rcases (hi a).1 h2 with g | rfl
   ·exact .inl ⟨e,by simp,hk.symm.trans h1,g⟩
   ·exact .inr (by simp [← h1,hk])
  ·exact .inl ⟨y,by simp [g],h1,h2⟩
theorem cnt_add {L : List Pr} {mJ : Int} {id : Int} {b : List UInt8} {xs : List KS.Ky} (h : ∀ a xs,KS.Srt xs → (∀ v,v ∈ xs ↔ (a,v) ∈ L) → (xs.length : Int) ≤ mJ) (hm : ∀ v,v ∈ xs ↔ (id,v) ∈ L) (hlt : (xs.length : Int) < mJ) :
  ∀ a ys,KS.Srt ys → (∀ v,v ∈ ys ↔ (a,v) ∈ L ++ [(id,b)]) → (ys.length : Int) ≤ mJ := by
 intro a ys hs hy
 by_cases ha : a = id
 ·subst ha
  have := Zace ys (b :: xs) (Zac5 hs) (fun v hv => by
   have := (hy v).1 hv
   simp only [Yab,Yaq,Prod.mk.injEq,true_and] at this
   rcases this with g | g
   ·exact Ybb _ ((hm v).2 g)
   ·rw [g]; simp)
  simp at this; omega
 ·refine h a ys hs fun v => ?_
  rw [hy]
  simp [ha]
section
variable {x : W} {t : T} {S : HS} {n : Nat} {H : Hd}
theorem RsI.mono {n' : Nat} {E1' : List MA.En} {E2' : List MB.En} {S' : HS} (h : RsI x t S) (hc : RsC x { t with n := n',E1 := E1',E2 := E2' } S') (hn : t.n ≤ n') : RsI x { t with n := n',E1 := E1',E2 := E2' } S' :=
 { hc with link := h.link,ne := h.ne,cm := fun e he => Ya2 (h.cm e he) hn,cR := Ya2 h.cR hn,mR0 := h.mR0,mR1 := h.mR1,mJ0 := h.mJ0,mJ1 := h.mJ1,cntR := h.cntR,cntJ := h.cntJ }
theorem Zahg {e e' : Rm} {id : Int} {op : Bool} (h : ∃ i,e'.ms = e.ms.take i ++ [(id,op,false)] ++ e.ms.drop i) : (∀ a,a ∈ e'.ids ↔ a ∈ e.ids ∨ a = id) ∧ e'.ms.length = e.ms.length + 1 := by
 obtain ⟨i,h⟩ := h
 constructor
 ·intro a
  unfold Rm.ids
  rw [h]
  have : e.ms.map (·.1) = (e.ms.take i).map (·.1) ++ (e.ms.drop i).map (·.1) := by rw [← Yau,Yas]
  rw [this]
  simp only [Yau,Yab,List.map_cons,List.map_nil,Yaq]
  constructor
  ·rintro ((g | g) | g)
   ·exact .inl (.inl g)
   ·exact .inr g
   ·exact .inl (.inr g)
  ·rintro ((g | g) | g)
   ·exact .inl (.inl g)
   ·exact .inr g
   ·exact .inl (.inr g)
 ·rw [h]
  have := congrArg List.length (Yas i e.ms)
  simp only [Ya3,List.length_singleton] at this ⊢
  omega
theorem come {A B : List Rm} {e : Rm} {L0 : List Pr} {id : Int} {op : Bool} {xs : List KS.Ky} (hC : RsC x t S) (hR : t.R = A ++ e :: B) (hL : t.L = L0 ++ [(id,e.key)])
  (link0 : ∀ a b,(a,b) ∈ L0 ↔ ∃ y ∈ A ++ e :: B,y.key = b ∧ a ∈ y.ids) (hnot : id ∉ e.ids)
  (ne0 : ∀ y ∈ A ++ B,y.ms ≠ []) (cm0 : ∀ y ∈ t.R,y.ms.length + 1 ≤ t.n) (cR0 : t.R.length ≤ t.n) (hn : t.n ≤ 200)
  (mR0 : 0 ≤ x.mR) (mR1 : x.mR ≤ 1000) (mJ0 : 0 ≤ x.mJ) (mJ1 : x.mJ ≤ 1000) (cntR : (t.R.length : Int) ≤ x.mR)
  (cnt0 : ∀ a xs,KS.Srt xs → (∀ v,v ∈ xs ↔ (a,v) ∈ L0) → (xs.length : Int) ≤ x.mJ) (hxs : ∀ v,v ∈ xs ↔ (id,v) ∈ L0) (hlt : (xs.length : Int) < x.mJ) :
  ∃ e' S',Y58.f (disp 2000 (n + 1)) H 2000 (some (HA.cell0 e.p)) id op S = some ((),S') ∧ RsI x { t with R := A ++ e' :: B } S' ∧ e'.p = e.p ∧ e'.name = e.name ∧ (∃ i,e'.ms = e.ms.take i ++ [(id,op,false)] ++ e.ms.drop i) ∧ Chg (OA x t) (OA x { t with R := A ++ e' :: B }) S S' := by
 have he : e ∈ t.R := by rw [hR]; simp
 have hcm := cm0 e he
 obtain ⟨e',S',e1,h1,h2,h3,h4,h5⟩ := room_add (n := n) (H := H) (k := 2000) (Yaa _) (hC.rooms e he) id op hnot (by omega)
 obtain ⟨c1,c2⟩ := hC.room_step hR h1 h2 h3 h5
 obtain ⟨i1,i2⟩ := Zahg h4
 have hk : e'.key = e.key := by unfold Rm.key; rw [h3]
 have hlen : (A ++ e' :: B).length = t.R.length := by rw [hR]; simp
 refine ⟨e',S',e1,{ c1 with link := ?_,ne := ?_,cm := ?_,cR := ?_,mR0 := mR0,mR1 := mR1,mJ0 := mJ0,mJ1 := mJ1,cntR := ?_,cntJ := ?_ },h2,h3,h4,c2⟩
 ·show ∀ a b,(a,b) ∈ t.L ↔ _
  rw [hL]
  exact link_add link0 hk i1
 ·intro y hy
  have hy : y ∈ A ++ e' :: B := hy
  simp only [Yab,Yac] at hy
  rcases hy with g | rfl | g
  ·exact ne0 y (by simp [g])
  ·intro g; rw [g] at i2; simp at i2
  ·exact ne0 y (by simp [g])
 ·intro y hy
  have hy : y ∈ A ++ e' :: B := hy
  simp only [Yab,Yac] at hy
  rcases hy with g | rfl | g
  ·have := cm0 y (by rw [hR]; simp [g]); show y.ms.length ≤ t.n; omega
  ·show y.ms.length ≤ t.n; omega
  ·have := cm0 y (by rw [hR]; simp [g]); show y.ms.length ≤ t.n; omega
 ·show (A ++ e' :: B).length ≤ t.n
  omega
 ·show ((A ++ e' :: B).length : Int) ≤ x.mR
  omega
 ·show ∀ a xs,KS.Srt xs → (∀ v,v ∈ xs ↔ (a,v) ∈ t.L) → _
  rw [hL]
  exact cnt_add cnt0 hxs hlt
end
section
variable {x : W} {t : T} {S : HS} {n : Nat} {H : Hd}
inductive JRes (x : W) (t : T) (id : Int) (name : List UInt8) : Option HA → Int → List Rm → List Pr → Prop
 | stay {e} (he : e ∈ t.R) (hk : e.key = name.map low) (hin : id ∈ e.ids) : JRes x t id name (some (HA.cell0 e.p)) 0 t.R t.L
 | full (hnot : (id,name.map low) ∉ t.L) (hf : (∀ xs,KS.Srt xs → (∀ v,v ∈ xs ↔ (id,v) ∈ t.L) → x.mJ ≤ (xs.length : Int)) ∨ (∀ e ∈ t.R,e.key ≠ name.map low) ∧ x.mR ≤ (t.R.length : Int)) : JRes x t id name none 405 t.R t.L
 | come {A B e e'} (hR : t.R = A ++ e :: B) (hk : e.key = name.map low) (hnot : id ∉ e.ids) (hp : e'.p = e.p) (hn : e'.name = e.name) (hms : ∃ i,e'.ms = e.ms.take i ++ [(id,false,false)] ++ e.ms.drop i)
   (hc : ∀ xs,KS.Srt xs → (∀ v,v ∈ xs ↔ (id,v) ∈ t.L) → (xs.length : Int) < x.mJ) : JRes x t id name (some (HA.cell0 e'.p)) 0 (A ++ e' :: B) (t.L ++ [(id,name.map low)])
 | new {i e'} (hno : ∀ e ∈ t.R,e.key ≠ name.map low) (hn : e'.name = name) (hms : e'.ms = [(id,true,false)]) (hl : (t.R.length : Int) < x.mR)
   (hc : ∀ xs,KS.Srt xs → (∀ v,v ∈ xs ↔ (id,v) ∈ t.L) → (xs.length : Int) < x.mJ) : JRes x t id name (some (HA.cell0 e'.p)) 0 (t.R.take i ++ e' :: t.R.drop i) (t.L ++ [(id,name.map low)])
def Joined (x : W) (t : T) (S : HS) (id : Int) (name : List UInt8) (r : Option (((Option HA) × Int) × HS)) : Prop :=
 ∃ q c t' S',r = some ((q,c),S') ∧ RsI x t' S' ∧ t'.n = t.n + 1 ∧ Chg (OA x t) (OA x t') S S' ∧ JRes x t id name q c t'.R t'.L
theorem Joined.pre {S1 : HS} {id : Int} {name : List UInt8} {r : Option (((Option HA) × Int) × HS)} (f : Fr S.next S S1) (h : Joined x t S1 id name r) : Joined x t S id name r := by
 obtain ⟨q,c,t',S',e,h1,h2,h3,h4⟩ := h
 exact ⟨q,c,t',S',e,h1,h2,(Chg.of_fr f).trans h3,h4⟩
theorem Zaa3 (h : RsI x t S) {e : Rm} (he : e ∈ t.R) (id : Int) : (id,e.key) ∈ t.L ↔ id ∈ e.ids := by
 rw [h.link]
 constructor
 ·rintro ⟨y,hy,h1,h2⟩
  rw [← h.key_uniq hy he h1]; exact h2
 ·intro g; exact ⟨e,he,rfl,g⟩
theorem Zahh (h : RsI x t S) (hn : t.n + 1 ≤ 200) {e : Rm} (he : e ∈ t.R) (id : Int) (name : List UInt8) (hnot : id ∉ e.ids) (hkn : e.key = name.map low) :
  Joined x t S id name (Y1.J1 (disp 2000 (n + 1)) H 2000 (some (HA.cell0 x.w)) id name (some (HA.cell0 e.p)) true e.key S) := by
 obtain ⟨xs,k1,k2,k3,k4⟩ := h.rel.at1 id
 have hnL : (id,e.key) ∉ t.L := fun g => hnot ((Zaa3 h he id).1 g)
 obtain ⟨E1',E2',S2,e1,g1,g2⟩ := Zai3 (k := 2000) (Yaa _) h.rel (by omega) id e.key k1 k2
 rw [if_neg hnL] at e1 g1
 obtain ⟨c1,c2⟩ := h.toRsC.rel_step g1 g2
 rw [Y1.J1,obs,h.ldr,obs,e1,obs]
 by_cases hf : x.mJ ≤ (xs.length : Int)
 ·rw [if_pos hf] at c1 c2 ⊢
  rw [if_pos (by rfl)]
  exact ⟨none,405,_,S2,rfl,h.mono c1 (Nat.le_succ _),rfl,c2,.full (hkn ▸ hnL) (.inl (fun ys k3 k4 => by rw [KS.srt_ext k3 k1 fun v => by rw [k4,k2]]; exact hf))⟩
 ·rw [if_neg hf] at c1 c2 ⊢
  rw [if_neg (by simp),if_neg (by simp),Y1.J2]
  obtain ⟨A,B,hR⟩ := Ybd he
  have hne := h.ne
  obtain ⟨e',S',e3,r1,r2,r3,r4,r5⟩ := come (n := n) (H := H) (t := { t with n := t.n + 1,E1 := E1',E2 := E2',L := t.L ++ [(id,e.key)] }) (A := A) (B := B) (e := e) (L0 := t.L) (id := id) (op := !true) (xs := xs) c1 hR rfl (by rw [← hR]; exact h.link) hnot (fun y hy => hne y (by rw [hR]; simp only [Yab,Yac] at hy ⊢; rcases hy with g | g <;> simp [g])) (fun y hy => Nat.succ_le_succ (h.cm y hy)) (Nat.le_succ_of_le h.cR) hn h.mR0 h.mR1 h.mJ0 h.mJ1 h.cntR h.cntJ k2 (by omega)
  rw [e3,obs]
  refine ⟨_,0,_,S',rfl,r1,rfl,c2.trans r5,?_⟩
  have := JRes.come (x := x) (t := t) (id := id) (name := name) (e' := e') hR hkn hnot r2 r3 r4 (fun ys k3 k4 => by rw [KS.srt_ext k3 k1 fun v => by rw [k4,k2]]; omega)
  rw [← hkn,r2] at this
  exact this
theorem join_new (h : RsI x t S) (hn : t.n + 1 ≤ 200) (id : Int) (name : List UInt8) (hl : name.length ≤ 1000) (hno : ∀ e ∈ t.R,e.key ≠ name.map low) :
  Joined x t S id name (Y1.J0 (disp 2000 (n + 1)) H 2000 (some (HA.cell0 x.w)) id name none false (name.map low) false S) := by
 obtain ⟨e0,S1,e1,h1,hnm,hms,hfr,f1⟩ := room_new (k := 2000) (S := S) (Yaa _) name x.mB
 have hS1 := h.fr f1
 rw [Y1.J0,if_neg (by simp),if_pos (by rfl),obs,h.ldmB,obs,e1,obs,obs]
 simp only
 rw [hS1.ldb,obs,BK.len_spec hS1.book,obs,obs]
 simp only
 rw [hS1.ldmR,obs,obs,if_pos rfl,Ya9]
 have hout : ∀ id,OwnR e0 id → ¬ OA x t id := fun i g g' => by have := h.ltO g'; have := hfr i g; omega
 have hnL : (id,name.map low) ∉ t.L := fun g => by
  obtain ⟨y,hy,g1,_⟩ := (h.link _ _).1 g
  exact hno y hy g1
 by_cases hfull : (t.R.length : Int) ≥ x.mR
 ·rw [if_pos hfull]
  refine Joined.pre f1 ?_
  exact ⟨none,405,{ t with n := t.n + 1 },S1,rfl,hS1.mono { hS1.toRsC with rel := hS1.rel.mono (Nat.le_succ _) (by show t.n + 1 ≤ 900; omega) } (Nat.le_succ _),rfl,Chg.refl _ _,.full hnL (.inr ⟨hno,hfull⟩)⟩
 rw [if_neg hfull]
 have hkey : e0.key = name.map low := by unfold Rm.key; rw [hnm]
 obtain ⟨xs,k1,k2,k3,k4⟩ := hS1.rel.at1 id
 obtain ⟨E1',E2',S2,e2,g1,g2⟩ := Zai3 (k := 2000) (Yaa _) hS1.rel (by omega) id (name.map low) k1 k2
 rw [if_neg hnL] at e2 g1
 obtain ⟨c1,c2⟩ := hS1.toRsC.rel_step g1 g2
 rw [Y1.J1,obs,hS1.ldr,obs,e2,obs]
 by_cases hf : x.mJ ≤ (xs.length : Int)
 ·rw [if_pos hf] at c1 c2 ⊢
  rw [if_pos (by rfl)]
  refine Joined.pre f1 ?_
  exact ⟨none,405,_,S2,rfl,hS1.mono c1 (Nat.le_succ _),rfl,c2,.full hnL (.inl (fun ys k3 k4 => by rw [KS.srt_ext k3 k1 fun v => by rw [k4,k2]]; exact hf))⟩
 rw [if_neg hf] at c1 c2 ⊢
 rw [if_neg (by simp),if_pos (by rfl),obs]
 simp only
 rw [c1.ldb,obs]
 have hcR := h.cR
 obtain ⟨i,bs',S3,hp,e3,b1,on⟩ := BK.put_spec (n := n) (H := H) (k := 2000) (Yaa _) c1.book (by simp; omega) name (some (HA.cell0 e0.p)) hl
 have hnf : BK.foundAt (t.R.map ent) name i = false := by
  obtain ⟨o,ho,q1,q2⟩ := Zacg hp h.book.srt
  cases ho with
  | some hy hk => exact absurd hk (hno _ hy)
  | none _ => exact q1
 have hnf2 : ¬ (((t.R.map ent).length : Int) ≥ x.mR) := by simpa using hfull
 simp only [BK.putL,hnf,Bool.false_eq_true,if_false,if_neg hnf2] at b1
 have hmap : (t.R.map ent).take i ++ [(name,some (HA.cell0 e0.p))] ++ (t.R.map ent).drop i = (t.R.take i ++ e0 :: t.R.drop i).map ent := by
  simp [ent,hnm,List.map_take,List.map_drop]
 rw [hmap] at b1
 have hsub : ∀ y,y ∈ t.R.take i ++ e0 :: t.R.drop i → y ∈ t.R ∨ y = e0 := fun y hy => by
  simp only [Yab,Yac] at hy
  rcases hy with g | g | g
  ·exact .inl (Ybj g)
  ·exact .inr g
  ·exact .inl (Ybk g)
 have hri0 : RI e0 S2 := h1.keep (fun y g => g2.eq y (h1.lt g) (fun g' => hout y g (.inl (.inr (.inr g'))))) g2.le
 have hOB : ∀ y,OwnR e0 y → ¬ OB x { t with n := t.n + 1,E1 := E1',E2 := E2',L := t.L ++ [(id,name.map low)] } y := fun y g g' => by
  rcases c2.own y (.inl g') with k | k
  ·exact hout y g k
  ·have := h1.lt g; omega
 obtain ⟨d1,d2,d3⟩ := c1.book_step (R' := t.R.take i ++ e0 :: t.R.drop i) b1 on (fun y hy => by
   rcases hsub y hy with g | rfl
   ·exact c1.rooms y g
   ·exact hri0) (by
   have hpw := h.pw
   rw [← Yas i t.R,Yad] at hpw
   rw [Yad,Yah]
   refine ⟨hpw.1,⟨fun y hy z g g' => hout z g (.inr ⟨y,Ybk hy,g'⟩),hpw.2.1⟩,fun y hy z hz => ?_⟩
   rcases Yac.1 hz with rfl | hz
   ·intro w g g'; exact hout w g' (.inr ⟨y,Ybj hy,g⟩)
   ·exact hpw.2.2 y hy z hz) (fun y hy z g => by
   rcases hsub y hy with k | rfl
   ·exact c1.dR y k z g
   ·exact hOB z g)
 rw [e3,obs,Y1.J2]
 have hnil : e0.ids = [] := by unfold Rm.ids; rw [hms]; rfl
 have hlenR : (t.R.take i ++ e0 :: t.R.drop i).length = t.R.length + 1 := by
  have := congrArg List.length (Yas i t.R)
  simp only [Ya3,List.length_cons] at this ⊢; omega
 have hcm := h.cm
 obtain ⟨e',S',e5,r1,r2,r3,r4,r5⟩ := come (n := n) (H := H) (t := { t with bs := bs',n := t.n + 1,E1 := E1',E2 := E2',L := t.L ++ [(id,name.map low)],R := t.R.take i ++ e0 :: t.R.drop i }) (A := t.R.take i) (B := t.R.drop i) (e := e0) (L0 := t.L) (id := id) (op := !false) (xs := xs) d1 rfl (by rw [hkey]) (fun a b => by
   rw [h.link]
   constructor
   ·rintro ⟨y,hy,q1,q2⟩
    refine ⟨y,?_,q1,q2⟩
    rw [← Yas i t.R] at hy
    simp only [Yab,Yac] at hy ⊢
    rcases hy with g | g <;> simp [g]
   ·rintro ⟨y,hy,q1,q2⟩
    rcases hsub y hy with g | rfl
    ·exact ⟨y,g,q1,q2⟩
    ·rw [hnil] at q2; cases q2) (by rw [hnil]; simp) (fun y hy => h.ne y (by rw [Yas] at hy; exact hy)) (fun y hy => by
   rcases hsub y hy with g | rfl
   ·exact Nat.succ_le_succ (h.cm y g)
   ·rw [hms]; exact Nat.succ_le_succ (Yak _)) (by show (t.R.take i ++ e0 :: t.R.drop i).length ≤ t.n + 1; omega) hn h.mR0 h.mR1 h.mJ0 h.mJ1 (by show ((t.R.take i ++ e0 :: t.R.drop i).length : Int) ≤ x.mR; omega) h.cntJ k2 (by omega)
 rw [e5,obs]
 have hJ : JRes x t id name (some (HA.cell0 e'.p)) 0 (t.R.take i ++ e' :: t.R.drop i) (t.L ++ [(id,name.map low)]) := by
  refine .new hno (r3.trans hnm) ?_ (by omega) (fun ys k3 k4 => by rw [KS.srt_ext k3 k1 fun v => by rw [k4,k2]]; omega)
  obtain ⟨j,hj⟩ := r4
  rw [hj,hms]; simp
 refine ⟨_,0,_,S',rfl,r1,rfl,?_,by rw [r2] at hJ; exact hJ⟩
 have l2 := g2.le
 have hcase : ∀ y,OA x { t with bs := bs',n := t.n + 1,E1 := E1',E2 := E2',L := t.L ++ [(id,name.map low)],R := t.R.take i ++ e0 :: t.R.drop i } y → OA x t y ∨ S.next ≤ y := by
  rintro y ((g | g | g) | ⟨z,hz,g⟩)
  ·exact .inl (.inl (.inl g))
  ·rcases on.own y g with k | k
   ·exact .inl (.inl (.inr (.inl k)))
   ·exact .inr (by have := f1.le; omega)
  ·rcases g2.own y g with k | k
   ·exact .inl (.inl (.inr (.inr k)))
   ·exact .inr (by have := f1.le; omega)
  ·rcases hsub z hz with k | rfl
   ·exact .inl (.inr ⟨z,k,g⟩)
   ·exact .inr (hfr y g)
 have hcase1 : ∀ y,OA x { t with n := t.n + 1,E1 := E1',E2 := E2',L := t.L ++ [(id,name.map low)] } y → OA x t y ∨ S.next ≤ y := fun y g => (c2.own y g).imp (fun g => g) (fun g => by have := f1.le; omega)
 have l1 := f1.le
 have l5 := r5.le
 refine ⟨by omega,fun y q1 q2 => ?_,fun y g => ?_⟩
 ·rw [r5.eq y (by omega) (fun g => (hcase y g).elim q2 (fun g => by omega)),d3 y (by omega) (fun g => (hcase1 y g).elim q2 (fun g => by omega)),c2.eq y (by omega) q2,f1.eq y q1]
 ·rcases r5.own y g with k | k
  ·exact hcase y k
  ·exact .inr (by omega)
theorem Zaix (h : RsI x t S) (hn : t.n + 1 ≤ 200) (id : Int) (name : List UInt8) (hl : name.length ≤ 1000) : Joined x t S id name (Y1.f (disp 2000 (n + 1)) H 2000 (some (HA.cell0 x.w)) id name S) := by
 obtain ⟨o,S1,ho,e1,f1⟩ := Zady (n := n) (H := H) h name
 obtain ⟨S2,e2,f2⟩ := Zaeu (k := 2000) (m := S1.next) (x := name) (S := S1) (by omega) (by omega) (Yaa _)
 have h2 := (h.fr f1).fr f2
 rw [Y1.f,if_neg (by simp),obs,h.ldb,obs,e1,obs,e2,obs]
 refine Joined.pre f1 (Joined.pre f2 ?_)
 cases ho with
 | @some e he hk =>
  rw [if_pos (by rfl),obs,h2.ldr,obs,Zafw (Yaa _) h2.rel,obs]
  simp only [← hk]
  by_cases hin : id ∈ e.ids
  ·rw [decide_eq_true ((Zaa3 h he id).2 hin),Y1.J0,if_pos rfl]
   exact ⟨_,0,{ t with n := t.n + 1 },S2,rfl,h2.mono { h2.toRsC with rel := h2.rel.mono (Nat.le_succ _) (by show t.n + 1 ≤ 900; omega) } (Nat.le_succ _),rfl,Chg.refl _ _,.stay he hk hin⟩
  ·rw [decide_eq_false (fun g => hin ((Zaa3 h he id).1 g)),Y1.J0,if_neg (by simp),if_neg (by simp)]
   exact Zahh h2 hn he id name hin hk
 | none hno =>
  rw [if_neg (by simp)]
  exact join_new h2 hn id name hl hno
end
theorem Zae0 {e : Rm} {id : Int} {i : Nat} (hs : MK.Srt e.ms) (hp : MK.PosOf e.ms id i) (hf : MK.foundAt e.ms id i = true) (a : Int) : a ∈ (e.ms.eraseIdx i).map (·.1) ↔ a ∈ e.ids ∧ a ≠ id := by
 obtain ⟨hi,h1⟩ := MK.found_at hf
 constructor
 ·intro g
  obtain ⟨m,hm,rfl⟩ := Ya0.1 g
  obtain ⟨g1,g2⟩ := MK.erase_away hs hf m hm
  exact ⟨Ya0.2 ⟨m,g1,rfl⟩,fun e => g2 ((MK.cmpI_zero _ _).2 e.symm)⟩
 ·rintro ⟨g,hne⟩
  obtain ⟨m,hm,rfl⟩ := Ya0.1 g
  obtain ⟨j,hj,rfl⟩ := Yag hm
  refine Ya0.2 ⟨e.ms[j],?_,rfl⟩
  rw [List.mem_eraseIdx_iff_getElem]
  exact ⟨j,hj,fun e => hne (by subst e; exact h1),rfl⟩
section
variable {x : W} {t : T} {S : HS} {n : Nat} {H : Hd}
inductive PRes (t : T) (id : Int) (key : List UInt8) : List Rm → List Pr → Prop
 | none (h : (id,key) ∉ t.L) : PRes t id key t.R t.L
 | stay {A B e e'} (hR : t.R = A ++ e :: B) (hk : e.key = key) (hin : id ∈ e.ids) (hp : e'.p = e.p) (hn : e'.name = e.name) (hms : ∃ i,MK.PosOf e.ms id i ∧ MK.foundAt e.ms id i = true ∧ e'.ms = e.ms.eraseIdx i) (hne : e'.ms ≠ []) : PRes t id key (A ++ e' :: B) (wo (id,key) t.L)
 | gone {A B e} (hR : t.R = A ++ e :: B) (hk : e.key = key) (hin : id ∈ e.ids) (hms : e.ms.length = 1) : PRes t id key (A ++ B) (wo (id,key) t.L)
def Parted (x : W) (t : T) (S : HS) (id : Int) (key : List UInt8) (r : Option (Bool × HS)) : Prop :=
 ∃ t' S',r = some (decide ((id,key) ∈ t.L),S') ∧ RsI x t' S' ∧ t'.n = t.n ∧ Chg (OA x t) (OA x t') S S' ∧ PRes t id key t'.R t'.L
theorem Parted.pre {S1 : HS} {id : Int} {key : List UInt8} {r : Option (Bool × HS)} (f : Fr S.next S S1) (h : Parted x t S1 id key r) : Parted x t S id key r := by
 obtain ⟨t',S',e,h1,h2,h3,h4⟩ := h
 exact ⟨t',S',e,h1,h2,(Chg.of_fr f).trans h3,h4⟩
theorem Zai0 (h : RsI x t S) (id : Int) (name : List UInt8) (hl : name.length ≤ 1000) : Parted x t S id (name.map low) (Y28.f (disp 2000 (n + 1)) H 2000 (some (HA.cell0 x.w)) id name S) := by
 obtain ⟨o,S1,ho,e1,f1⟩ := Zai5 (n := n) (H := H) h name
 have h1 := h.fr f1
 rw [Y28.f,e1,obs]
 cases ho with
 | none hno =>
  rw [if_pos (by rfl),Y28.J0,if_pos rfl]
  refine Parted.pre f1 ?_
  have hnL : (id,name.map low) ∉ t.L := fun g => by
   obtain ⟨y,hy,g1,_⟩ := (h.link _ _).1 g
   exact hno y hy g1
  rw [Parted,decide_eq_false hnL]
  exact ⟨t,S1,rfl,h1,rfl,Chg.refl _ _,.none hnL⟩
 | @some e he hk =>
  obtain ⟨S2,e2,f2⟩ := Zaeu (k := 2000) (m := S1.next) (x := name) (S := S1) (by omega) (by omega) (Yaa _)
  have h2 := h1.fr f2
  rw [if_neg (by simp),obs]
  simp only
  rw [h1.ldr,obs,e2,obs]
  simp only
  rw [h2.ldr,obs,if_pos rfl]
  refine Parted.pre f1 (Parted.pre f2 ?_)
  obtain ⟨E1',E2',S3,e3,g1,g2⟩ := Zahj (k := 2000) (Yaa _) h2.rel id (name.map low)
  obtain ⟨c1,c2⟩ := h2.toRsC.rel_step g1 g2
  rw [e3,obs,← hk]
  by_cases hin : id ∈ e.ids
  ·have hL : (id,e.key) ∈ t.L := (Zaa3 h he id).2 hin
   rw [Parted,decide_eq_true hL,Y28.J0,if_neg (by simp)]
   rw [← hk] at c1 c2
   obtain ⟨e',S4,e4,r1,r2,r3,⟨i,i1,i2,i3⟩,r5⟩ := Zai4 (n := n) (H := H) (k := 2000) (Yaa _) (c1.rooms e he) id hin
   have hids : ∀ a,a ∈ e'.ids ↔ a ∈ e.ids ∧ a ≠ id := fun a => by
    show a ∈ e'.ms.map (·.1) ↔ _
    rw [i3]; exact Zae0 (h.rooms e he).srt i1 i2 a
   have hi := MK.found_lt i2
   have hlen : e'.ms.length = e.ms.length - 1 := by rw [i3,List.length_eraseIdx,if_pos hi]
   obtain ⟨A,B,hR⟩ := Ybd he
   obtain ⟨d1,d2⟩ := c1.room_step (A := A) (B := B) hR r1 r2 r3 r5
   have hk' : e'.key = e.key := by unfold Rm.key; rw [r3]
   have hnd : ∀ y,y ∈ A ∨ y ∈ B → y ∈ t.R ∧ y.key ≠ e.key := fun y hy => by
    have hy' : y ∈ t.R := by rw [hR]; rcases hy with g | g <;> simp [g]
    refine ⟨hy',fun g => ?_⟩
    have hye := h.key_uniq hy' he g
    subst hye
    have hpw := h.pw
    rw [hR,Yad,Yah] at hpw
    rcases hy with g | g
    ·exact hpw.2.2 y g y (by simp) y.p (.inl (.inl rfl)) (.inl (.inl rfl))
    ·exact hpw.2.1.1 y g y.p (.inl (.inl rfl)) (.inl (.inl rfl))
   have link' : ∀ a b,(a,b) ∈ wo (id,e.key) t.L ↔ ∃ y ∈ A ++ e' :: B,y.key = b ∧ a ∈ y.ids := by
    intro a b
    rw [Zagm,h.link,hR]
    constructor
    ·rintro ⟨⟨y,hy,q1,q2⟩,q3⟩
     simp only [Yab,Yac] at hy
     rcases hy with g | rfl | g
     ·exact ⟨y,by simp [g],q1,q2⟩
     ·exact ⟨e',by simp,hk'.trans q1,(hids a).2 ⟨q2,fun g => q3 (by rw [g,q1])⟩⟩
     ·exact ⟨y,by simp [g],q1,q2⟩
    ·rintro ⟨y,hy,q1,q2⟩
     simp only [Yab,Yac] at hy
     have key : (y ∈ A ∨ y ∈ B) ∨ y = e' := by rcases hy with g | g | g <;> simp [g]
     rcases key with g | rfl
     ·refine ⟨⟨y,by rcases g with g | g <;> simp [g],q1,q2⟩,fun g' => ?_⟩
      simp only [Prod.mk.injEq] at g'
      exact (hnd y g).2 (q1.trans g'.2)
     ·obtain ⟨q3,q4⟩ := (hids a).1 q2
      refine ⟨⟨e,by simp,hk'.symm.trans q1,q3⟩,fun g' => ?_⟩
      simp only [Prod.mk.injEq] at g'
      exact q4 g'.1
   have cnt' : ∀ a xs,KS.Srt xs → (∀ v,v ∈ xs ↔ (a,v) ∈ wo (id,e.key) t.L) → (xs.length : Int) ≤ x.mJ := fun a xs hs hm => by
    obtain ⟨ys,k1,k2,_,_⟩ := h.rel.at1 a
    have := h.cntJ a ys k1 k2
    have := Zace xs ys (Zac5 hs) (fun v hv => (k2 v).2 (Zagm.1 ((hm v).1 hv)).1)
    omega
   have hcm : ∀ y ∈ A ++ e' :: B,y.ms.length ≤ t.n := fun y hy => by
    simp only [Yab,Yac] at hy
    rcases hy with g | rfl | g
    ·exact h.cm y (hnd y (.inl g)).1
    ·have := h.cm e he; omega
    ·exact h.cm y (hnd y (.inr g)).1
   have hRl : (A ++ e' :: B).length = t.R.length := by rw [hR]; simp
   have hcR := h.cR
   have hcntR := h.cntR
   have hptr : Zahk (some e) = some (HA.cell0 e.p) := rfl
   rw [hptr,e4,obs]
   simp only
   rw [show some (HA.cell0 e.p) = some (HA.cell0 e'.p) by rw [r2],room_len r1,obs]
   simp only
   by_cases hz : (e'.ms.length : Int) = 0
   ·rw [if_pos hz,obs,d1.ldb,obs]
    obtain ⟨j,bs',S5,hp,e5,b1,on⟩ := BK.delete_spec (n := n) (H := H) (k := 2000) (Yaa _) d1.book name
    have hp : BK.PosOf ((A ++ e' :: B).map ent) name j := hp
    have hsrt : BK.Srt ((A ++ e' :: B).map ent) := d1.book.srt
    obtain ⟨o,ho,q1,q2⟩ := Zacg hp hsrt
    have hfj : BK.foundAt ((A ++ e' :: B).map ent) name j = true := by
     cases hb : BK.foundAt ((A ++ e' :: B).map ent) name j with
     | true => rfl
     | false => exact absurd ((Zzp _ _).2 (hk'.trans hk).symm) (BK.none_alike hp hsrt hb (ent e') (Ya0.2 ⟨e',by simp,rfl⟩))
    obtain ⟨hj,q3⟩ := q2 hfj
    rw [q3] at ho
    have hjk : (A ++ e' :: B)[j].key = name.map low := by cases ho with | some _ g => exact g
    have hjA : j = A.length := by
     rcases Nat.lt_trichotomy j A.length with g | g | g
     ·rw [Ya5 g] at hjk
      exact absurd (hjk.trans hk.symm) (hnd _ (.inl (Yae g))).2
     ·exact g
     ·have hjB : (A ++ e' :: B)[j] ∈ B := by
       rw [Ya4 (by omega),List.getElem_cons,dif_neg (by omega)]
       exact Yae _
      exact absurd (hjk.trans hk.symm) (hnd _ (.inr hjB)).2
    have herase : ((A ++ e' :: B).map ent).eraseIdx j = (A ++ B).map ent := by
     rw [hjA,← Go.ChangeMaps.map_eraseIdx]
     congr 1
     rw [List.eraseIdx_append_of_length_le (Yaa _)]
     simp
    have b1 : BK.BI x.bk bs' x.mR ((A ++ B).map ent) S5 := by
     have : BK.BI x.bk bs' x.mR (if BK.foundAt ((A ++ e' :: B).map ent) name j = true then ((A ++ e' :: B).map ent).eraseIdx j else (A ++ e' :: B).map ent) S5 := b1
     rw [if_pos hfj,herase] at this
     exact this
    have hsub : ∀ y ∈ A ++ B,y ∈ A ++ e' :: B := fun y hy => by
     simp only [Yab,Yac] at hy ⊢
     rcases hy with g | g <;> simp [g]
    have hms : e'.ms = [] := Yax.1 (by omega)
    obtain ⟨k1,k2,k3⟩ := d1.book_step (R' := A ++ B) b1 on (fun y hy => d1.rooms y (hsub y hy)) (by
     have hpw : (A ++ e' :: B).Pairwise fun a b => ∀ id,OwnR a id → ¬ OwnR b id := d1.pw
     exact hpw.sublist (List.Sublist.append (List.Sublist.refl _) (List.sublist_cons_self _ _))) (fun y hy => d1.dR y (hsub y hy))
    rw [e5,obs,Y28.J1]
    have ch2 : Chg (OA x { t with n := t.n,E1 := E1',E2 := E2',L := wo (id,e.key) t.L,R := A ++ e' :: B }) (OA x { t with n := t.n,E1 := E1',E2 := E2',L := wo (id,e.key) t.L,bs := bs',R := A ++ B }) S4 S5 := by
     refine ⟨k2,k3,?_⟩
     rintro y ((g | g | g) | ⟨z,hz,g⟩)
     ·exact .inl (.inl (.inl g))
     ·exact (on.own y g).imp (fun g => .inl (.inr (.inl g))) (fun g => g)
     ·exact .inl (.inl (.inr (.inr g)))
     ·exact .inl (.inr ⟨z,hsub z hz,g⟩)
    have hAB : (A ++ B).length + 1 = (A ++ e' :: B).length := by simp; omega
    refine ⟨_,S5,rfl,{ k1 with link := ?_,ne := ?_,cm := fun y hy => hcm y (hsub y hy),cR := ?_,mR0 := h.mR0,mR1 := h.mR1,mJ0 := h.mJ0,mJ1 := h.mJ1,cntR := ?_,cntJ := cnt' },rfl,(c2.trans d2).trans ch2,.gone hR rfl hin (by omega)⟩
    ·intro a b
     refine (link' a b).trans ⟨?_,fun ⟨y,hy,q⟩ => ⟨y,hsub y hy,q⟩⟩
     rintro ⟨y,hy,w1,w2⟩
     simp only [Yab,Yac] at hy
     rcases hy with g | rfl | g
     ·exact ⟨y,by show y ∈ A ++ B; simp [g],w1,w2⟩
     ·unfold Rm.ids at w2; rw [hms] at w2; cases w2
     ·exact ⟨y,by show y ∈ A ++ B; simp [g],w1,w2⟩
    ·intro y hy
     have hy : y ∈ A ++ B := hy
     rcases Yab.1 hy with g | g
     ·exact h.ne y (hnd y (.inl g)).1
     ·exact h.ne y (hnd y (.inr g)).1
    ·show (A ++ B).length ≤ t.n
     omega
    ·show ((A ++ B).length : Int) ≤ x.mR
     omega
   ·rw [if_neg hz,Y28.J1]
    refine ⟨_,S4,rfl,{ d1 with link := link',ne := ?_,cm := hcm,cR := ?_,mR0 := h.mR0,mR1 := h.mR1,mJ0 := h.mJ0,mJ1 := h.mJ1,cntR := ?_,cntJ := cnt' },rfl,c2.trans d2,.stay hR rfl hin r2 r3 ⟨i,i1,i2,i3⟩ (fun g => hz (by rw [g]; rfl))⟩
    ·intro y hy
     have hy : y ∈ A ++ e' :: B := hy
     simp only [Yab,Yac] at hy
     rcases hy with g | rfl | g
     ·exact h.ne y (hnd y (.inl g)).1
     ·intro g; rw [g] at hz; exact hz rfl
     ·exact h.ne y (hnd y (.inr g)).1
    ·show (A ++ e' :: B).length ≤ t.n
     omega
    ·show ((A ++ e' :: B).length : Int) ≤ x.mR
     omega
  ·have hnL : (id,e.key) ∉ t.L := fun g => hin ((Zaa3 h he id).1 g)
   rw [Parted,decide_eq_false hnL,Y28.J0,if_pos (by rfl)]
   rw [← hk,wo_no hnL] at c1 c2
   exact ⟨_,S3,rfl,h2.mono c1 (Yaa _),rfl,c2,.none hnL⟩
end
namespace PK
abbrev Ky := Option HA
def row1 (k : Ky) : List HV := [.ptr k]
theorem ldK_at {S : HS} {s : Sl} {xs : List Ky} (h : S.rows s 1 = some (xs.map row1)) {i : Nat} (hi : i < xs.length) : ∃ ad,S.idx s (i : Int) 1 = some ad ∧ S.ldP ad = some xs[i] := by
 obtain ⟨ad,h1,h2⟩ := Zaer h (i := i) (v := .ptr xs[i]) (by simpa using hi) (by rw [Yaj]; rfl)
 exact ⟨ad,h1,by rw [HS.ldP,h2]; rfl⟩
theorem of_tells {k n c : Nat} {B : HS} {s : Sl} {xs : List Ky} (hk : xs.length < k) (hx : xs.length ≤ 1000000) (hc : B.heap c = .cells 1 [[s.hv]] true) (hr : B.rows s 1 = some (xs.map row1)) (K : Nat → Prop) (hK : K c ∧ ∀ q,s.a = some q → K q.1) :
  Tells (disp k (n + 2)) (.fn (.func 63) [] [.ptr (some (HA.cell0 c))]) (xs.map row1) K B := by
 intro H l I Stop ht O S hI hB
 have hlen : (xs.map row1).length = xs.length := by simp
 have hcS : S.heap c = .cells 1 [[s.hv]] true := (hB c hK.1).1.trans hc
 have hrS : S.rows s 1 = some (xs.map row1) := Zx1 hr fun q hq => (hB q.1 (hK.2 q hq)).1
 have hloop : ∀ f i O1 T,xs.length - i < f → i ≤ xs.length → I i O1 T → S.next ≤ T.next → (∀ id,id < S.next → ¬ O id → T.heap id = S.heap id) → (∀ id,O1 id → O id ∨ S.next ≤ id) →
   ∃ S' O',Y69.L0 (disp k (n + 1)) H k f (.fn (.yield l) [] []) s (xs.length : Int) (i : Int) T = some ((),S') ∧ S.next ≤ S'.next ∧ (∀ id,id < S.next → ¬ O id → S'.heap id = S.heap id) ∧ (∀ id,O' id → O id ∨ S.next ≤ id) ∧ (I xs.length O' S' ∨ Stop O' S') := by
  intro f
  induction f with
  | zero => intro i O1 T h; omega
  | succ f ih =>
   intro i O1 T hf hi hIT hn hk2 hO
   rw [Y69.L0]
   by_cases hlt : i < xs.length
   ·have hrT : T.rows s 1 = some (xs.map row1) := Zx1 hrS fun q hq => hk2 q.1 (hB q.1 (hK.2 q hq)).2.2 (hB q.1 (hK.2 q hq)).2.1
    obtain ⟨ad,a1,a2⟩ := ldK_at hrT hlt
    obtain ⟨b,T2,O2,e2,n2,k2,o2,g1,g2⟩ := ht.step i (by omega) O1 T hIT
    have he : disp k (n + 1) H (.fn (.yield l) [] []) [.ptr xs[i]] T = some (.bool b,T2) := by
     rw [Zzx,← e2,Yaj]; rfl
    have hk3 : ∀ id,id < S.next → ¬ O id → T2.heap id = S.heap id := fun id h1 h2 => (k2 id (by omega) (fun ho => (hO id ho).elim h2 (fun h => by omega))).trans (hk2 id h1 h2)
    have hO3 : ∀ id,O2 id → O id ∨ S.next ≤ id := fun id h => (o2 id h).elim (hO id) (fun h => .inr (by omega))
    rw [if_pos (by omega),a1,obs,a2,obs,he,obs]
    simp only [dB,obs]
    cases b with
    | false => exact ⟨T2,O2,rfl,by omega,hk3,hO3,.inr (g2 rfl)⟩
    | true =>
     rw [if_neg (by simp),Zx2 (by omega) (by omega),show ((i : Int) + 1) = ((i + 1 : Nat) : Int) by simp]
     exact ih (i + 1) O2 T2 (by omega) (by omega) (g1 rfl) (by omega) hk3 hO3
   ·obtain rfl : i = xs.length := by omega
    rw [if_neg (by omega)]
    exact ⟨T,O1,rfl,hn,hk2,hO,.inl hIT⟩
 obtain ⟨S',O',e,h1,h2,h3,h4⟩ := hloop k 0 O S (by omega) (Yak _) hI (Yaa _) (fun _ _ _ => rfl) (fun _ h => .inl h)
 refine ⟨S',O',?_,h1,h2,h3,by rw [hlen]; exact h4⟩
 rw [Zzq]
 have hsl : (s.len : Int) = xs.length := by rw [← Zx3 hrS]; simp
 have e' : Zabj (disp k (n + 1)) H k ([] ++ [HV.fn (.yield l) [] []] ++ [.ptr (some (HA.cell0 c))]) S = some (.tup [],S') := by
  rw [Zabj]
  simp only [Yay,List.cons_append,Zaa6,obs,dF,dP]
  rw [Y69.f,obs,Zym hcS,obs,hsl]
  erw [e]
  rfl
 repeat rw [if_neg (by decide)]
 rw [if_pos rfl,e']
theorem app1_spec {n : Nat} {S : HS} {s : Sl} {xs : List Ky} (t : Ky) (h : Vec n S 1 s (xs.map row1)) (hn : n ≤ S.next) (hl : xs.length < 1000000) :
  ∃ s' S',HS.app (S.lit [[.ptr t]] 1).2 s [[.ptr t]] 1 = some (s',S') ∧ (S.lit [[.ptr t]] 1).2.rows (S.lit [[.ptr t]] 1).1 1 = some [[.ptr t]] ∧ Vec n S' 1 s' ((xs ++ [t]).map row1) ∧ Fr n S S' ∧ (∀ id,id < S.next → (∀ q,s.a = some q → q.1 ≠ id) → S'.heap id = S.heap id) ∧ (∀ q,s'.a = some q → S.next ≤ q.1 ∨ ∃ q0,s.a = some q0 ∧ q0.1 = q.1) := by
 have fl : Fr S.next S (S.lit [[.ptr t]] 1).2 := Zyt _ (Yaa _)
 have nl : (S.lit [[.ptr t]] 1).2.next = S.next + 1 := rfl
 obtain ⟨s',S',e1,v1,f1,k1,q1⟩ := (h.frame fl (Yaa _)).app2 (new := [[.ptr t]]) (by omega) (by simp; omega)
 refine ⟨s',S',e1,(Vec.lit (n := 0) (z := 1) (S := S) _ (Yak _)).rows,by rw [Yau]; exact v1,(fl.mono hn).trans f1,fun id h1 h2 => (k1 id (by omega) h2).trans (fl.eq id h1),fun q hq => ?_⟩
 rcases q1 q hq with g | g
 ·exact .inl (by omega)
 ·exact .inr g
end PK
def Zabe (R : List Rm) (key : List UInt8) : PK.Ky := Zahk (R.find? fun e => decide (e.key = key))
theorem Zagl {x : W} {t : T} {S : HS} (h : RsI x t S) {e : Rm} (he : e ∈ t.R) : Zabe t.R e.key = some (HA.cell0 e.p) := by
 unfold Zabe
 cases hf : t.R.find? fun y => decide (y.key = e.key) with
 | none => exact absurd ((List.find?_eq_none.1 hf) e he) (by simp)
 | some y =>
  have h1 := List.find?_some hf
  have h2 := List.mem_of_find?_eq_some hf
  rw [h.key_uniq h2 he (by simpa using h1)]; rfl
def Og (b : Nat) (so : Sl) (id : Nat) : Prop := (b ≤ id ∧ id < b + 2) ∨ ∃ q,so.a = some q ∧ q.1 = id
structure Gt (b w : Nat) (ys : List PK.Ky) (i : Nat) (so : Sl) (S : HS) : Prop where
 c0 : S.heap b = .cells 1 [[.ptr (some (HA.cell0 w))]] true
 co : S.heap (b + 1) = .cells 1 [[so.hv]] true
 vec : Vec (b + 2) S 1 so ((ys.take i).map PK.row1)
 nx : b + 2 ≤ S.next
theorem Gt.keep {b w : Nat} {ys : List PK.Ky} {i : Nat} {so : Sl} {S S' : HS} (h : Gt b w ys i so S) (hk : ∀ id,Og b so id → S'.heap id = S.heap id) (hn : S.next ≤ S'.next) : Gt b w ys i so S' :=
 ⟨(hk _ (.inl ⟨by omega,by omega⟩)).trans h.c0,(hk _ (.inl ⟨by omega,by omega⟩)).trans h.co,Zabc h.vec (fun q hq => hk _ (.inr ⟨q,hq,rfl⟩)) hn,Ya2 h.nx hn⟩
theorem Gt.lt {b w : Nat} {ys : List PK.Ky} {i : Nat} {so : Sl} {S : HS} (h : Gt b w ys i so S) {x : Nat} (ho : Og b so x) : x < S.next := by
 have := h.nx
 rcases ho with g | ⟨q,g,rfl⟩
 ·omega
 ·exact (h.vec.lo q g).2
theorem key_map {s : List UInt8} (h : ∃ n : List UInt8,s = n.map low) : s.map low = s := by
 obtain ⟨n,rfl⟩ := h
 rw [Ybf]
 exact Ybg fun b _ => low_low b
theorem of_spec {x : W} {t : T} {S : HS} {nD : Nat} {H : Hd} (h : RsI x t S) (hn : t.n ≤ 200) (id : Int) {xs : List KS.Ky} (hs : KS.Srt xs) (hm : ∀ v,v ∈ xs ↔ (id,v) ∈ t.L) :
  ∃ c so S',Y25.f (disp 2000 (nD + 2)) H 2000 (some (HA.cell0 x.w)) id S = some (.fn (.func 63) [] [.ptr (some (HA.cell0 c))],S') ∧ S'.heap c = .cells 1 [[so.hv]] true ∧ S'.rows so 1 = some ((xs.map (Zabe t.R)).map PK.row1) ∧ (S.next ≤ c ∧ c < S'.next) ∧ (∀ q,so.a = some q → S.next ≤ q.1 ∧ q.1 < S'.next) ∧ Fr S.next S S' := by
 have hxl : xs.length ≤ 900 := by
  obtain ⟨ys,h1,h2,h3,_⟩ := h.rel.at1 id
  have : ys = xs := KS.srt_ext h1 hs fun v => by rw [h2,hm]
  subst this
  omega
 rw [Y25.f,letv,letv]
 simp only [Zxz]
 have n3 : ((S.new (.cells 1 [[.ptr (some (HA.cell0 x.w))]] true)).new (.cells 1 [[Sl.nil.hv]] true)).next = S.next + 2 := rfl
 have f3 : Fr S.next S ((S.new (.cells 1 [[.ptr (some (HA.cell0 x.w))]] true)).new (.cells 1 [[Sl.nil.hv]] true)) := (Fr.new (Yaa _) _).trans (Fr.new (by simp only [Zxz]; omega) _)
 have c0 : ((S.new (.cells 1 [[.ptr (some (HA.cell0 x.w))]] true)).new (.cells 1 [[Sl.nil.hv]] true)).heap S.next = .cells 1 [[.ptr (some (HA.cell0 x.w))]] true := by
  rw [Zyn _ (by simp only [Zxz]; omega)]; exact Zxv _ _
 have c1 : ((S.new (.cells 1 [[.ptr (some (HA.cell0 x.w))]] true)).new (.cells 1 [[Sl.nil.hv]] true)).heap (S.next + 1) = .cells 1 [[Sl.nil.hv]] true := Zxv (S.new _) _
 generalize (S.new (.cells 1 [[.ptr (some (HA.cell0 x.w))]] true)).new (.cells 1 [[Sl.nil.hv]] true) = T at n3 f3 c0 c1 ⊢
 have hT := h.fr f3
 rw [Zabs c0,obs,if_pos (by simp),obs,obs,hT.ldr,obs]
 obtain ⟨fn,u,v,S1,K,e1,hTl,hK,f1⟩ := of_rel (nD := nD) hT.rel id hs hm
 have l1 := f1.le
 have h1 := hT.fr f1
 rw [e1,obs]
 have hlen : (xs.map KS.row1).length = xs.length := by simp
 have hI0 : Gt S.next x.w (xs.map (Zabe t.R)) 0 Sl.nil S1 := ⟨(f1.eq _ (by omega)).trans c0,(f1.eq _ (by omega)).trans c1,by rw [List.take_zero]; exact .nil,by omega⟩
 have hOS : ∀ i,OA x t i → i < S.next := fun i ho => h.ltO ho
 obtain ⟨T2,st,S',O',e2,e3,de,n5,ch,lt,hnn,hs'⟩ := Zz3 (D := disp 2000 (nD + 2)) (H := H) (fv := .fn fn u v) (S := S1) (hd := fun vs T =>
   Option.bind (HS.lp T (S1.next + 1)) fun _ => Option.bind (Zzn vs) fun ar => Option.bind (dS ar) fun p => Y25.J0 (disp 2000 (nD + 2)) H 2000 (S1.next + 1) (some (HA.cell0 S.next)) (some (HA.cell0 (S.next + 1))) p T)
  (bd := fun i U => if h : i < xs.length then
    Option.bind (U.ldP (HA.cell0 S.next)) fun p11 => Option.bind p11 fun p12 => Option.bind (U.ldP (HA.fld p12 15)) fun p13 => Option.bind (Y15.f (disp 2000 (nD + 2)) H 2000 p13 xs[i] U) fun p14 => Option.bind (HS.ldSl p14.2 (HA.cell0 (S.next + 1))) fun p16 =>
    letv (HS.lit p14.2 [[(.ptr p14.1.1)]] 1) fun p17 => Option.bind (HS.rows p17.2 p17.1 1) fun p18 => Option.bind (HS.app p17.2 p16 p18 1) fun p19 => Option.bind (HS.sets p19.2 (HA.cell0 (S.next + 1)) [p19.1.hv]) fun p21 => HS.endr p21 (S1.next + 1) none else none)
  hTl (fun i h => (hK i h).2) (fun i O U => ∃ so,Gt S.next x.w (xs.map (Zabe t.R)) i so U ∧ (∀ y,OA x t y → U.heap y = S.heap y) ∧ ∀ y,O y ↔ (Og S.next so y ∨ OA x t y)) (fun _ _ _ => False)
  (fun i O U U' ⟨so,h1,h2,h3⟩ hk hn => ⟨so,h1.keep (fun y ho => hk y ((h3 y).2 (.inl ho))) hn,fun y ho => (hk y ((h3 y).2 (.inr ho))).trans (h2 y ho),h3⟩) (fun _ _ _ _ h => h.elim)
  (fun y => Og S.next Sl.nil y ∨ OA x t y) (fun y ho => by
   rcases ho with (g | ⟨q,g,_⟩) | g
   ·omega
   ·cases g
   ·have := hOS y g; omega) ⟨Sl.nil,hI0,fun y ho => (f1.eq y (by have := hOS y ho; omega)).trans (f3.eq y (hOS y ho)),fun _ => Iff.rfl⟩ (fun y ho hk => by
   have := hK y hk
   rcases ho with (g | ⟨q,g,_⟩) | g
   ·omega
   ·cases g
   ·have := hOS y g; omega)
  (fun i hi U hU => by
   have hi' : i < xs.length := by simpa using hi
   rw [Zafi hU,obs,Yaj,show Zzn (KS.row1 xs[i]) = some (KS.kv xs[i]) from rfl,obs,show dS (KS.kv xs[i]) = some xs[i] from rfl,obs,Y25.J0,Zaam hU,obs,obs,dif_pos hi']
   rfl)
  (fun i hi O1 U ⟨so,g1,g2',g3⟩ hnu hl hno hlt => by
   have g2 : RsI x t U := h.keep g2' (by have := g1.nx; omega)
   have hi' : i < xs.length := by simpa using hi
   have hnx0 := g1.nx
   have hmem : (id,xs[i]) ∈ t.L := (hm _).1 (Yae hi')
   obtain ⟨e,he,hk1,hk2⟩ := (h.link _ _).1 hmem
   obtain ⟨o,U1,ho,eg,fg⟩ := Zady (n := nD + 1) (H := H) g2 xs[i]
   have hoe : o = some e := Fnd.uniq g2 ho (.some he (by rw [key_map ⟨e.name,hk1.symm⟩]; exact hk1))
   subst hoe
   have hptr : Zahk (some e) = Zabe t.R xs[i] := by rw [← hk1,Zagl h he]; rfl
   have lg := fg.le
   have g1 : Gt S.next x.w (xs.map (Zabe t.R)) i so U1 := g1.keep (fun y ho => fg.eq y (g1.lt ho)) lg
   have hnx := g1.nx
   have hso : ∀ q,so.a = some q → S.next + 2 ≤ q.1 ∧ q.1 < U.next := fun q hq => ⟨(g1.vec.lo q hq).1,hlt q.1 ((g3 _).2 (.inl (.inr ⟨q,hq,rfl⟩)))⟩
   rw [dif_pos hi',Zabs ((fg.eq _ (by omega)).symm.trans g1.c0),obs,obs,g2.ldb,obs,eg,obs]
   simp only
   rw [Zym g1.co,obs,hptr]
   obtain ⟨so',T3,e3,lr,v3,f3,k3,q3⟩ := PK.app1_spec (n := S.next + 2) (xs := (xs.map (Zabe t.R)).take i) (Zabe t.R xs[i]) g1.vec hnx (by simp; omega)
   have l3 := f3.le
   have e : (xs.map (Zabe t.R)).take (i + 1) = (xs.map (Zabe t.R)).take i ++ [Zabe t.R xs[i]] := by
    rw [Yaf (by simpa using hi'),Yaj]
   rw [← e] at v3
   have c3 : T3.heap (S.next + 1) = .cells 1 [[so.hv]] true := by rw [k3 _ (by omega) (fun q hq e => by have := hso q hq; omega)]; exact g1.co
   rw [letv,lr,obs,e3,obs,Zzb _ c3,obs]
   have hU1 : U.next ≤ T3.next := by
    have : U1.next ≤ T3.next := by omega
    omega
   have hkk : ∀ y,y < U.next → y ≠ S.next + 1 → (∀ q,so.a = some q → q.1 ≠ y) → (T3.put (S.next + 1) (.cells 1 [[so'.hv]] true)).heap y = U.heap y := fun y a1 a2 a3 => by rw [Zxd _ a2,k3 y (by omega) a3,fg.eq y a1]
   have hg : Gt S.next x.w (xs.map (Zabe t.R)) (i + 1) so' (T3.put (S.next + 1) (.cells 1 [[so'.hv]] true)) := ⟨(hkk _ (by omega) (by omega) (fun q hq e => by have := hso q hq; omega)).trans ((fg.eq _ (by omega)).symm.trans g1.c0),Zxs _ _ _,v3.put_ne (fun q hq e => by have := v3.lo q hq; omega),by rw [Zxr]; omega⟩
   have hw2 : ∀ y,OA x t y → (T3.put (S.next + 1) (.cells 1 [[so'.hv]] true)).heap y = S.heap y := fun y ho => (hkk y (g2.ltO ho) (by have := hOS y ho; omega) (fun q hq e => by have := hso q hq; have := hOS y ho; omega)).trans (g2' y ho)
   refine ⟨_,fun y => Og S.next so' y ∨ OA x t y,none,rfl,⟨by rw [Zxr]; omega,fun y a1 a2 => ?_,fun y ho => ?_⟩,fun y ho => ?_,fun _ => ⟨so',hg,hw2,fun _ => Iff.rfl⟩,fun c h => by cases h⟩
   ·have hno : ¬ Og S.next so y := fun h => a2 ((g3 y).2 (.inl h))
    exact hkk y a1 (fun e => hno (.inl ⟨by omega,by omega⟩)) (fun q hq e => hno (.inr ⟨q,hq,e⟩))
   ·rcases ho with (g | ⟨q,g,rfl⟩) | g
    ·exact .inl ((g3 y).2 (.inl (.inl g)))
    ·rcases q3 q g with g' | ⟨q0,a1,a2⟩
     ·exact .inr (by omega)
     ·exact .inl ((g3 _).2 (.inl (.inr ⟨q0,a1,a2⟩)))
    ·exact .inl ((g3 y).2 (.inr g))
   ·rcases ho with g | g
    ·exact hg.lt g
    ·rw [Zxr]; have := hOS y g; omega)
 erw [e2]
 rw [obs]
 simp only [e3,obs]
 have hle := ch.le
 cases hst : st with
 | some c => exact (hs' c hst).elim
 | none =>
  obtain ⟨so,g1,g2,g3⟩ := hnn hst
  rw [hlen] at g1
  have hv := g1.vec
  rw [Yaz (by simp)] at hv
  have hlo := hv.lo
  have hnx := g1.nx
  simp only [pcode,obs,if_true]
  rw [Y25.J1]
  simp only [HS.leave,de,obs]
  refine ⟨S.next + 1,so,_,rfl,by rw [Zxd _ (by omega)]; exact g1.co,Zx1 hv.rows fun q hq => ?_,⟨by omega,by rw [Zxr]; omega⟩,fun q hq => ⟨by have := hlo q hq; omega,by rw [Zxr]; exact (hlo q hq).2⟩,⟨by rw [Zxr]; omega,fun y hy => ?_⟩⟩
  ·have := hlo q hq
   have := (lt q.1 ((g3 _).2 (.inl (.inr ⟨q,hq,rfl⟩)))).1
   rw [Zxd _ this]
  ·rw [Zxd _ (by omega)]
   by_cases hx2 : OA x t y
   ·exact g2 y hx2
   ·rw [ch.eq y (by omega) (fun ho => by
     rcases ho with (g | ⟨q,g,_⟩) | g
     ·omega
     ·cases g
     ·exact hx2 g),f1.eq y (by omega)]
    exact f3.eq y hy
theorem ldF_cell {S : HS} {id : Nat} {f : Fn} {xs ys : List HV} {b : Bool} (h : S.heap id = .cells 1 [[.fn f xs ys]] b) : S.ldF (HA.cell0 id) = some (.fn f xs ys) := by rw [HS.ldF,Zaal h]; rfl
theorem Zaez {D : Dp} {H : Hd} {fv : HV} {vs : List (List HV)} {K : Nat → Prop} {S : HS} {hd : List HV → HS → Option (HV × HS)} {bd : Nat → HS → Option (HV × HS)}
  (hT : Tells D fv vs K S) (hK : ∀ id,K id → id < S.next) (I : Nat → (Nat → Prop) → HS → Prop) (Q : Code → (Nat → Prop) → HS → Prop)
  (keepI : ∀ i O T T',I i O T → (∀ id,O id → T'.heap id = T.heap id) → T.next ≤ T'.next → I i O T')
  (keepQ : ∀ c O T T',Q c O T → (∀ id,O id → T'.heap id = T.heap id) → T.next ≤ T'.next → Q c O T')
  (O : Nat → Prop) (hO : ∀ id,O id → id < S.next) (hI : I 0 O S) (hOK : ∀ id,O id → ¬ K id)
  (hdef : ∀ i (hi : i < vs.length) T,T.heap (S.next) = .loop .ready none → S.next + 1 ≤ T.next → hd vs[i] T = bd i (T.put (S.next) (.loop .busy none)))
  (step : ∀ i (hi : i < vs.length) O1 U,I i O1 U → S.next + 1 ≤ U.next → U.heap (S.next) = .loop .busy none → ¬ O1 (S.next) → (∀ id,O1 id → id < U.next) →
   ∃ U' O2 j,bd i U = U'.endr (S.next) j ∧ Chg O1 O2 U U' ∧ (∀ id,O2 id → id < U'.next) ∧ (j = none → I (i + 1) O2 U') ∧ ∀ c,j = some c → Q c O2 U') :
  ∃ T st S' O',D (Hd.set H (S.next) hd) fv [.fn (.yield (S.next)) [] []] (S.new (.loop .ready none)) = some (.tup [],T) ∧ T.finish (S.next) = some (st,S') ∧ S.next + 1 ≤ S'.next ∧
   Chg O O' S S' ∧ (∀ id,O' id → id ≠ S.next ∧ id < S'.next) ∧ (st = none → I vs.length O' S') ∧ (∀ c,st = some c → Q c O' S') := by
 have f2 : Fr S.next S (S.new (.loop .ready none)) := Fr.new (Yaa _) _
 have n2 : (S.new (.loop .ready none)).next = S.next + 1 := rfl
 have l2 : (S.new (.loop .ready none)).heap (S.next) = .loop .ready none := Zxv S _
 generalize S.new (.loop .ready none) = S0 at f2 n2 l2 ⊢
 let J : Nat → (Nat → Prop) → HS → Prop := fun i OO T => ∃ O1,(∀ id,OO id ↔ (O1 id ∨ id = S.next)) ∧ (∀ id,O1 id → id ≠ S.next ∧ id < T.next ∧ (O id ∨ S.next + 1 ≤ id)) ∧ I i O1 T ∧ T.heap (S.next) = .loop .ready none ∧ S.next + 1 ≤ T.next
 let St : (Nat → Prop) → HS → Prop := fun OO T => ∃ O1 c,(∀ id,OO id ↔ (O1 id ∨ id = S.next)) ∧ (∀ id,O1 id → id ≠ S.next ∧ id < T.next ∧ (O id ∨ S.next + 1 ≤ id)) ∧ Q c O1 T ∧ T.heap (S.next) = .loop .done (some c) ∧ S.next + 1 ≤ T.next
 have hO' : ∀ id,O id → id ≠ S.next ∧ id < S0.next := fun id h => by have := hO id h; omega
 obtain ⟨T,O',e,t1,t2,t3,t4⟩ := hT (Hd.set H (S.next) hd) (S.next) J St (by
   refine ⟨fun i OO T T' h hk hn => ?_,fun OO T T' h hk hn => ?_,fun i OO T h id ho => ?_,fun OO T h id ho => ?_,fun i hi OO T h => ?_⟩
   ·obtain ⟨O1,a1,a2,a3,a5,a6⟩ := h
    exact ⟨O1,a1,fun id ho => ⟨(a2 id ho).1,by have := (a2 id ho).2.1; omega,(a2 id ho).2.2⟩,keepI _ _ _ _ a3 (fun id ho => hk id ((a1 id).2 (.inl ho))) hn,(hk _ ((a1 _).2 (.inr rfl))).trans a5,by omega⟩
   ·obtain ⟨O1,c,a1,a2,a3,a5,a6⟩ := h
    exact ⟨O1,c,a1,fun id ho => ⟨(a2 id ho).1,by have := (a2 id ho).2.1; omega,(a2 id ho).2.2⟩,keepQ _ _ _ _ a3 (fun id ho => hk id ((a1 id).2 (.inl ho))) hn,(hk _ ((a1 _).2 (.inr rfl))).trans a5,by omega⟩
   ·obtain ⟨O1,a1,a2,a3,a5,a6⟩ := h
    rcases (a1 id).1 ho with g | g
    ·exact (a2 id g).2.1
    ·omega
   ·obtain ⟨O1,c,a1,a2,a3,a5,a6⟩ := h
    rcases (a1 id).1 ho with g | g
    ·exact (a2 id g).2.1
    ·omega
   ·obtain ⟨O1,a1,a2,a3,a5,a6⟩ := h
    simp only [Hd.set,if_true,obs]
    rw [hdef i hi T a5 a6]
    have bk : ∀ id,id ≠ S.next → (T.put (S.next) (.loop .busy none)).heap id = T.heap id := fun id h => Zxd _ h
    have bn : (T.put (S.next) (.loop .busy none)).next = T.next := rfl
    have bl : (T.put (S.next) (.loop .busy none)).heap (S.next) = .loop .busy none := Zxs _ _ _
    generalize T.put (S.next) (.loop .busy none) = U at bk bn bl ⊢
    obtain ⟨U',O2,j,e1,c1,l1,p1,p2⟩ := step i hi O1 U (keepI _ _ _ _ a3 (fun id ho => bk id (a2 id ho).1) (by omega)) (by omega) bl (fun h => (a2 _ h).1 rfl) (fun id h => by have := (a2 id h).2.1; omega)
    have ul : U'.heap (S.next) = .loop .busy none := (c1.eq _ (by omega) (fun h => (a2 _ h).1 rfl)).trans bl
    have hle := c1.le
    have h2 : ∀ id,O2 id → id ≠ S.next ∧ id < U'.next ∧ (O id ∨ S.next + 1 ≤ id) := fun id h => by
     rcases c1.own id h with g | g
     ·exact ⟨(a2 id g).1,l1 id h,(a2 id g).2.2⟩
     ·exact ⟨by omega,l1 id h,.inr (by omega)⟩
    rw [e1,Zafj j ul]
    refine ⟨j.isNone,_,fun id => O2 id ∨ id = S.next,rfl,by rw [Zxr]; omega,fun id g1 g2 => ?_,fun id h => ?_,fun hj => ?_,fun hj => ?_⟩
    ·have g3 : ¬ O1 id := fun h => g2 ((a1 id).2 (.inl h))
     have g4 : id ≠ S.next := fun h => g2 ((a1 id).2 (.inr h))
     rw [Zxd _ g4,c1.eq id (by omega) g3,bk id g4]
    ·rcases h with h | h
     ·rcases c1.own id h with g | g
      ·exact .inl ((a1 id).2 (.inl g))
      ·exact .inr (by omega)
     ·exact .inl ((a1 id).2 (.inr h))
    ·have hj' : j = none := by simpa using hj
     subst hj'
     exact ⟨O2,fun _ => Iff.rfl,h2,keepI _ _ _ _ (p1 rfl) (fun id h => Zxd _ (h2 id h).1) (Yaa _),Zxs _ _ _,by rw [Zxr]; omega⟩
    ·cases j with
     | none => cases hj
     | some c => exact ⟨O2,c,fun _ => Iff.rfl,h2,keepQ _ _ _ _ (p2 c rfl) (fun id h => Zxd _ (h2 id h).1) (Yaa _),Zxs _ _ _,by rw [Zxr]; omega⟩)
  (fun id => O id ∨ id = S.next) S0 ⟨O,fun _ => Iff.rfl,fun id h => ⟨(hO' id h).1,(hO' id h).2,.inl h⟩,keepI _ _ _ _ hI (fun id h => f2.eq id (hO id h)) f2.le,l2,by omega⟩ (fun id hid => ⟨f2.eq id (hK id hid),fun ho => by
   have := hK id hid
   rcases ho with g | g
   ·exact hOK id g hid
   ·omega,by have := hK id hid; omega⟩)
 have hfr : ∀ id,id < S.next → ¬ O id → T.heap id = S.heap id := fun id h1 h2 => (t2 id (by omega) (fun ho => by
  rcases ho with g | g
  ·exact h2 g
  ·omega)).trans (f2.eq id h1)
 rcases t4 with h | h
 ·obtain ⟨O1,a1,a2,a3,a5,a6⟩ := h
  refine ⟨T,none,T.put (S.next) (.loop .exhausted none),O1,e,by simp [HS.finish,a5],a6,⟨by rw [Zxr]; omega,fun id h1 h2 => by rw [Zxd _ (by omega)]; exact hfr id h1 h2,fun id h => (a2 id h).2.2.elim .inl (fun g => .inr (by omega))⟩,fun id h => ⟨(a2 id h).1,(a2 id h).2.1⟩,fun _ => keepI _ _ _ _ a3 (fun id h => Zxd _ (a2 id h).1) (Yaa _),fun c hc => by cases hc⟩
 ·obtain ⟨O1,c,a1,a2,a3,a5,a6⟩ := h
  refine ⟨T,some c,T.put (S.next) (.loop .exhausted (some c)),O1,e,by simp [HS.finish,a5],a6,⟨by rw [Zxr]; omega,fun id h1 h2 => by rw [Zxd _ (by omega)]; exact hfr id h1 h2,fun id h => (a2 id h).2.2.elim .inl (fun g => .inr (by omega))⟩,fun id h => ⟨(a2 id h).1,(a2 id h).2.1⟩,fun hc => (by cases hc),fun c' hc => ?_⟩
  cases hc
  exact keepQ _ _ _ _ a3 (fun id h => Zxd _ (a2 id h).1) (Yaa _)
theorem Tells.move {D : Dp} {fv : HV} {vs : List (List HV)} {K : Nat → Prop} {B B' : HS} (h : Tells D fv vs K B) (hk : ∀ id,K id → B'.heap id = B.heap id) : Tells D fv vs K B' :=
 fun H l I Stop ht O S hI hB => h H l I Stop ht O S hI fun id g => ⟨(hB id g).1.trans (hk id g),(hB id g).2⟩
theorem clamp {m : Int} (h0 : 0 ≤ m) (h1 : m ≤ 1000) : mx 0 (mn m 1000) = m := by
 unfold mx mn
 split <;> split at * <;> omega
theorem Zaiz {mR mJ mB : Int} (r0 : 0 ≤ mR) (r1 : mR ≤ 1000) (j0 : 0 ≤ mJ) (j1 : mJ ≤ 1000) (S : HS) : ∃ x t S',Y37.f [] [] [] [] 0 0 mJ mR mB 0 0 0 0 0 0 S = some (some (HA.cell0 x.w),S') ∧ RsI x t S' ∧ x.mR = mR ∧ x.mJ = mJ ∧ t.n = 0 ∧ t.R = [] ∧ t.L = [] ∧ Fr S.next S S' ∧ ∀ y,OA x t y → S.next ≤ y := by
 rw [Y37.f,letv]
 have f0 : Fr S.next S (S.new (.cells 15 [[.str [],.str [],.str [],.str [],.int .i64 0,.int .i64 0,.int .i64 mJ,.int .i64 mR,.int .i64 mB,.int .i64 0,.int .i64 0,.int .i64 0,.int .i64 0,.int .i64 0,.int .i64 0]] true)) := Fr.new (Yaa _) _
 have c0 : (S.new (.cells 15 [[.str [],.str [],.str [],.str [],.int .i64 0,.int .i64 0,.int .i64 mJ,.int .i64 mR,.int .i64 mB,.int .i64 0,.int .i64 0,.int .i64 0,.int .i64 0,.int .i64 0,.int .i64 0]] true)).heap S.next = _ := Zxv _ _
 have n0 : (S.new (.cells 15 [[.str [],.str [],.str [],.str [],.int .i64 0,.int .i64 0,.int .i64 mJ,.int .i64 mR,.int .i64 mB,.int .i64 0,.int .i64 0,.int .i64 0,.int .i64 0,.int .i64 0,.int .i64 0]] true)).next = S.next + 1 := rfl
 generalize S.new (.cells 15 [[.str [],.str [],.str [],.str [],.int .i64 0,.int .i64 0,.int .i64 mJ,.int .i64 mR,.int .i64 mB,.int .i64 0,.int .i64 0,.int .i64 0,.int .i64 0,.int .i64 0,.int .i64 0]] true) = S0 at f0 c0 n0 ⊢
 rw [Zx8 (Zxu c0) rfl rfl,obs,clamp r0 r1,Y71.f,if_neg (by omega),Y71.J0,if_neg (by simp; omega),letv,obs]
 simp only
 have f1 : Fr S0.next S0 (S0.new (.cells 2 [[.int .i64 mR,Sl.nil.hv]] true)) := Fr.new (Yaa _) _
 have c1 : (S0.new (.cells 2 [[.int .i64 mR,Sl.nil.hv]] true)).heap S0.next = .cells 2 [[.int .i64 mR,Sl.nil.hv]] true := Zxv _ _
 have n1 : (S0.new (.cells 2 [[.int .i64 mR,Sl.nil.hv]] true)).next = S0.next + 1 := rfl
 generalize S0.new (.cells 2 [[.int .i64 mR,Sl.nil.hv]] true) = S1 at f1 c1 n1 ⊢
 have c01 := (f1.eq S.next (by omega)).trans c0
 rw [Zx8 (Zxu c01) rfl rfl,obs,clamp j0 j1]
 obtain ⟨S2,e2,hr,f2,n2,o2⟩ := new_rel (most := mJ) j0 (by omega) S1
 rw [e2,obs]
 simp only
 have c02 := (f2.eq S.next (by omega)).trans c01
 have c12 := (f2.eq S0.next (by omega)).trans c1
 rw [Zaae (Zxu c02) rfl rfl,obs,Zaae (Zxu c02) rfl rfl,obs,Zaae (Zxu c02) rfl rfl,obs,Zaae (Zxu c02) rfl rfl,obs,Zx8 (Zxu c02) rfl rfl,obs,Zx8 (Zxu c02) rfl rfl,obs,Zx8 (Zxu c02) rfl rfl,obs,Zx8 (Zxu c02) rfl rfl,obs,Zx8 (Zxu c02) rfl rfl,obs,Zx8 (Zxu c02) rfl rfl,obs,Zx8 (Zxu c02) rfl rfl,obs,Zx8 (Zxu c02) rfl rfl,obs,Zx8 (Zxu c02) rfl rfl,obs,Zx8 (Zxu c02) rfl rfl,obs,Zx8 (Zxu c02) rfl rfl,obs,letv]
 have f3 : Fr S2.next S2 (S2.new (.cells 17 [(⟨S2.next,S0.next,S1.next + 2,S1.next,S1.next + 1,mR,mJ,mB⟩ : W).row] true)) := Fr.new (Yaa _) _
 have hOR : ∀ y,OR (S1.next + 2) S1.next (S1.next + 1) [] [] y → S1.next ≤ y ∧ y < S2.next := fun y g => ⟨o2 y g,hr.ltO g⟩
 have hOwn : ∀ y,Own S0.next Sl.nil y → y = S0.next := fun y g => by
  rcases g with g | ⟨q,hq,_⟩
  ·exact g
  ·cases hq
 refine ⟨⟨S2.next,S0.next,S1.next + 2,S1.next,S1.next + 1,mR,mJ,mB⟩,⟨Sl.nil,0,[],[],[],[]⟩,_,rfl,{ cell := Zxv _ _,hi := Yaw _,book := ⟨(f3.eq S0.next (by omega)).trans c12,.inl ⟨rfl,rfl,rfl⟩,fun q hq => (by cases hq),?_,List.Pairwise.nil,fun e he => (by cases he),by simp⟩,rel := hr.fr f3,rooms := fun e he => (by cases he),dwb := fun g => ?_,dwr := fun g => ?_,dbr := fun y g g' => ?_,pw := List.Pairwise.nil,dR := fun e he => (by cases he),link := fun a b => ⟨fun g => (by cases g),fun ⟨e,he,_⟩ => (by cases he)⟩,ne := fun e he => (by cases he),cm := fun e he => (by cases he),cR := Yaa _,mR0 := r0,mR1 := r1,mJ0 := j0,mJ1 := j1,cntR := r0,cntJ := fun a xs hs hm => ?_ },rfl,rfl,rfl,rfl,rfl,(f0.trans ((f1.mono f0.le).trans ((f2.mono (by omega)).trans (f3.mono (by omega))))),fun y g => ?_⟩
 ·show S0.next < S2.next + 1; omega
 ·have := hOwn _ g; simp only at this; omega
 ·have := (hOR _ g).2; simp only at this; omega
 ·have h1 := hOwn y g; have h2 := (hOR y g').1; omega
 ·have : xs = [] := by
   cases xs with
   | nil => rfl
   | cons v xs => have := (hm v).1 (by simp); cases this
  rw [this]; exact j0
 ·rcases g with (rfl | g | g) | ⟨e,he,_⟩
  ·show S.next ≤ S2.next; omega
  ·have := hOwn y g; omega
  ·have := (hOR y g).1; omega
  ·cases he
theorem Zabv {S : HS} {s : Sl} {xs : List Ac} (h : S.rows s 3 = some (xs.map Zac4)) {i : Nat} (hi : i < xs.length) : ∃ ad,S.idx s (i : Int) 3 = some ad ∧ S.ldI .i64 (HA.fld ad 0) = some xs[i].1 ∧ S.ldI .i64 (HA.fld ad 1) = some xs[i].2.1 ∧ S.ldS (HA.fld ad 2) = some xs[i].2.2 := by
 obtain ⟨ad,h1,h2,h3⟩ := Zabt h (i := i) (by simpa using hi)
 rw [Yaj] at h3
 exact ⟨ad,h1,Zx8 h3 h2 rfl,Zx8 h3 h2 rfl,Zaae h3 h2 rfl⟩
theorem Zahf {S : HS} {s : Sl} {ls : List Ac} (hr : S.rows s 3 = some (ls.map Zac4)) : ∃ b,Y51.f 2000 s S = some (b,S) ∧ (b = false → ls.length ≤ 40 ∧ ∀ a ∈ ls,a.2.2.length ≤ 60) := by
 have hsl : (s.len : Int) = ls.length := by rw [← Zx3 hr]; simp
 rw [Y51.f,hsl]
 by_cases h40 : 40 < ls.length
 ·rw [if_pos (by omega)]; exact ⟨true,rfl,fun h => by cases h⟩
 rw [if_neg (by omega)]
 have hloop : ∀ f i,ls.length - i < f → i ≤ ls.length → (∀ a ∈ ls.take i,a.2.2.length ≤ 60) → ∃ b,Y51.L0 2000 f s (i : Int) S = some (b,S) ∧ (b = false → ls.length ≤ 40 ∧ ∀ a ∈ ls,a.2.2.length ≤ 60) := by
  intro f
  induction f with
  | zero => intro i h; omega
  | succ f ih =>
   intro i hf hi hall
   rw [Y51.L0,hsl]
   by_cases hlt : i < ls.length
   ·obtain ⟨ad,a1,a2,a3,a4⟩ := Zabv hr hlt
    rw [if_pos (by omega),a1,obs,a4,obs]
    by_cases hl : 60 < ls[i].2.2.length
    ·rw [if_pos (by omega)]; exact ⟨true,rfl,fun h => by cases h⟩
    ·rw [if_neg (by omega),Zx2 (by omega) (by omega),show ((i : Int) + 1) = ((i + 1 : Nat) : Int) by simp]
     refine ih (i + 1) (by omega) (by omega) fun a ha => ?_
     rw [Yaf hlt] at ha
     rcases Yab.1 ha with h | h
     ·exact hall a h
     ·simp at h; subst h; omega
   ·obtain rfl : i = ls.length := by omega
    rw [Yao] at hall
    rw [if_neg (by omega)]
    exact ⟨false,rfl,fun _ => ⟨by omega,hall⟩⟩
 exact hloop 2000 0 (by omega) (Yak _) (by simp)
theorem Zaiu : ∀ {rows : List (List HV)},(∀ row ∈ rows,RowFits [.int .i64,.int .i64,.str] row) → ∃ ls : List Ac,rows = ls.map Zac4 := by
 intro rows
 induction rows with
 | nil => intro _; exact ⟨[],rfl⟩
 | cons r rows ih =>
  intro h
  obtain ⟨ls,e⟩ := ih fun row hr => h row (by simp [hr])
  have h0 := h r (by simp)
  have hl := h0.len
  obtain ⟨v0,v1,v2,rfl⟩ : ∃ v0 v1 v2,r = [v0,v1,v2] := by
   match r,hl with
   | [a,b,c],_ => exact ⟨a,b,c,rfl⟩
  obtain ⟨q0,q1,q2,_⟩ := h0
  obtain ⟨n,h1,_⟩ := q0
  obtain ⟨m,h2,_⟩ := q1
  obtain ⟨s,h3,_⟩ := q2
  exact ⟨(n,m,s) :: ls,by rw [e,h1,h2,h3]; rfl⟩
theorem Zafq {n : Nat} {H : Hd} {e : Rm} {S : HS} (h : RI e S) (id : Int) : ∃ v0 v1 v2 S',Y73.f (disp 2000 (n + 1)) H 2000 (some (HA.cell0 e.p)) id S = some ((v0,v1,v2,decide (id ∈ e.ids)),S') ∧ Fr S.next S S' := by
 rw [Y73.f,letv]
 have f0 : Fr S.next S (S.new (.cells 3 [[.int .i64 0,.bool false,.bool false]] true)) := Fr.new (Yaa _) _
 have c0 : (S.new (.cells 3 [[.int .i64 0,.bool false,.bool false]] true)).heap S.next = .cells 3 [[.int .i64 0,.bool false,.bool false]] true := Zxv _ _
 have n0 : (S.new (.cells 3 [[.int .i64 0,.bool false,.bool false]] true)).next = S.next + 1 := rfl
 generalize S.new (.cells 3 [[.int .i64 0,.bool false,.bool false]] true) = S0 at f0 c0 n0 ⊢
 have h0 := h.fr f0
 obtain ⟨i,S1,e1,hp,f1⟩ := Zafx (n := n) (H := H) (k := 2000) (Yaa _) h0 id
 have h1 := h0.fr f1
 have c1 := (f1.eq S.next (by omega)).trans c0
 have l1 := f1.le
 rw [e1,obs]
 have hs : ∀ a b d,S1.sets (HA.cell0 S.next) [.int .i64 a,.bool b,.bool d] = some (S1.put S.next (.cells 3 [[.int .i64 a,.bool b,.bool d]] true)) := fun a b d => (Zyo c1 rfl (by simp)).trans rfl
 have fp : ∀ o,Fr S.next S (S1.put S.next o) := fun o => f0.trans ((f1.mono (by omega)).trans (Fr.put (Yaa _) _))
 by_cases hin : id ∈ e.ids
 ·have hf := (MK.found_iff hp h.srt).2 hin
  have hi := MK.found_lt hf
  obtain ⟨ad,a1,a2,a3,a4⟩ := MK.en_rows h1.ov.rows hi
  rw [if_neg (by simp [hf]),obs,h1.ldS,obs]
  simp only
  rw [a1,obs,a2,obs,a3,obs,a4,obs,hs,obs,Zx8 (Zxu (Zxs _ _ _)) rfl rfl,obs,Zaaf (Zxu (Zxs _ _ _)) rfl rfl,obs,Zaaf (Zxu (Zxs _ _ _)) rfl rfl,obs,decide_eq_true hin]
  exact ⟨_,_,_,_,rfl,fp _⟩
 ·have hf : MK.foundAt e.ms id i = false := by
   cases hf : MK.foundAt e.ms id i with
   | false => rfl
   | true => exact absurd ((MK.found_iff hp h.srt).1 hf) hin
  rw [if_pos (by simp [hf]),hs,obs,Zx8 (Zxu (Zxs _ _ _)) rfl rfl,obs,Zaaf (Zxu (Zxs _ _ _)) rfl rfl,obs,Zaaf (Zxu (Zxs _ _ _)) rfl rfl,obs,decide_eq_false hin]
  exact ⟨_,_,_,_,rfl,fp _⟩
namespace KI
def OT (b : Nat) (so : Sl) (id : Nat) : Prop := (b ≤ id ∧ id < b + 6) ∨ ∃ q,so.a = some q ∧ q.1 = id
structure ToI (b : Nat) (most : Int) (xs : List Ky) (st : LoopState) (i : Nat) (so : Sl) (S : HS) : Prop where
 cm : S.heap b = .cells 1 [[.int .i64 most]] true
 cr : S.heap (b + 1) = .cells 1 [[Sl.nil.hv]] true
 cb : S.heap (b + 2) = .cells 1 [[.bool false]] true
 co : S.heap (b + 3) = .cells 1 [[so.hv]] true
 de : S.heap (b + 4) = .defer
 lo : S.heap (b + 5) = .loop st none
 vec : Vec (b + 6) S 1 so ((xs.take i).map row1)
 nx : b + 6 ≤ S.next
theorem ToI.keep {b : Nat} {most : Int} {xs : List Ky} {st : LoopState} {i : Nat} {so : Sl} {S S' : HS} (h : ToI b most xs st i so S) (hk : ∀ id,OT b so id → S'.heap id = S.heap id) (hn : S.next ≤ S'.next) : ToI b most xs st i so S' :=
 ⟨(hk _ (.inl ⟨by omega,by omega⟩)).trans h.cm,(hk _ (.inl ⟨by omega,by omega⟩)).trans h.cr,(hk _ (.inl ⟨by omega,by omega⟩)).trans h.cb,(hk _ (.inl ⟨by omega,by omega⟩)).trans h.co,(hk _ (.inl ⟨by omega,by omega⟩)).trans h.de,(hk _ (.inl ⟨by omega,by omega⟩)).trans h.lo,Zabc h.vec (fun q hq => hk _ (.inr ⟨q,hq,rfl⟩)) hn,Ya2 h.nx hn⟩
theorem told_spec {n : Nat} {D : Dp} {xs : List Ky} {K : Nat → Prop} {fn : Fn} {u v : List HV} {most : Int} {S : HS} (hT : Tells D (.fn fn u v) (xs.map row1) K S) (hK : ∀ id,K id → id < S.next) (hm : (xs.length : Int) ≤ most) (hx : xs.length ≤ 100000) :
  ∃ out S',Y24.f D (fun _ => none) (.fn fn u v) most S = some ((out,true),S') ∧ S'.rows out 1 = some (xs.map row1) ∧ (∀ q,out.a = some q → S.next ≤ q.1 ∧ q.1 < S'.next) ∧ Fr S.next S S' := by
 rw [Y24.f,letv,letv,letv,letv]
 simp only [Zxz,HV.isNilFn,obs]
 rw [if_neg (by simp)]
 have n4 : ((((S.new (.cells 1 [[.int .i64 most]] true)).new (.cells 1 [[Sl.nil.hv]] true)).new (.cells 1 [[.bool false]] true)).new (.cells 1 [[Sl.nil.hv]] true)).next = S.next + 4 := rfl
 have f4 : Fr S.next S ((((S.new (.cells 1 [[.int .i64 most]] true)).new (.cells 1 [[Sl.nil.hv]] true)).new (.cells 1 [[.bool false]] true)).new (.cells 1 [[Sl.nil.hv]] true)) := (((Fr.new (Yaa _) _).trans (Fr.new (by simp only [Zxz]; omega) _)).trans (Fr.new (by simp only [Zxz]; omega) _)).trans (Fr.new (by simp only [Zxz]; omega) _)
 have c0 : ((((S.new (.cells 1 [[.int .i64 most]] true)).new (.cells 1 [[Sl.nil.hv]] true)).new (.cells 1 [[.bool false]] true)).new (.cells 1 [[Sl.nil.hv]] true)).heap S.next = .cells 1 [[.int .i64 most]] true := by
  rw [Zyn _ (by simp only [Zxz]; omega),Zyn _ (by simp only [Zxz]; omega),Zyn _ (by simp only [Zxz]; omega)]; exact Zxv _ _
 have c1 : ((((S.new (.cells 1 [[.int .i64 most]] true)).new (.cells 1 [[Sl.nil.hv]] true)).new (.cells 1 [[.bool false]] true)).new (.cells 1 [[Sl.nil.hv]] true)).heap (S.next + 1) = .cells 1 [[Sl.nil.hv]] true := by
  rw [Zyn _ (by simp only [Zxz]; omega),Zyn _ (by simp only [Zxz]; omega)]; exact Zxv (S.new _) _
 have c2 : ((((S.new (.cells 1 [[.int .i64 most]] true)).new (.cells 1 [[Sl.nil.hv]] true)).new (.cells 1 [[.bool false]] true)).new (.cells 1 [[Sl.nil.hv]] true)).heap (S.next + 2) = .cells 1 [[.bool false]] true := by
  rw [Zyn _ (by simp only [Zxz]; omega)]; exact Zxv ((S.new _).new _) _
 have c3 : ((((S.new (.cells 1 [[.int .i64 most]] true)).new (.cells 1 [[Sl.nil.hv]] true)).new (.cells 1 [[.bool false]] true)).new (.cells 1 [[Sl.nil.hv]] true)).heap (S.next + 3) = .cells 1 [[Sl.nil.hv]] true := Zxv (((S.new _).new _).new _) _
 rw [show S.next + 1 + 1 + 1 = S.next + 3 from rfl,show S.next + 1 + 1 = S.next + 2 from rfl]
 generalize (((S.new (.cells 1 [[.int .i64 most]] true)).new (.cells 1 [[Sl.nil.hv]] true)).new (.cells 1 [[.bool false]] true)).new (.cells 1 [[Sl.nil.hv]] true) = T at n4 f4 c0 c1 c2 c3 ⊢
 have f6 : Fr T.next T ((T.new .defer).new (.loop .ready none)) := (Fr.new (Yaa _) _).trans (Fr.new (by rw [Zxz]; omega) _)
 have n6 : ((T.new .defer).new (.loop .ready none)).next = S.next + 6 := by simp only [Zxz]; omega
 have hI0 : ToI S.next most xs .ready 0 Sl.nil ((T.new .defer).new (.loop .ready none)) := by
  refine ⟨(f6.eq _ (by omega)).trans c0,(f6.eq _ (by omega)).trans c1,(f6.eq _ (by omega)).trans c2,(f6.eq _ (by omega)).trans c3,?_,?_,by rw [List.take_zero]; exact .nil,by omega⟩
  ·rw [show S.next + 4 = T.next by omega,Zyn _ (by rw [Zxz]; omega)]; exact Zxv _ _
  ·rw [show S.next + 5 = (T.new .defer).next by rw [Zxz]; omega]; exact Zxv _ _
 have hl : T.next + 1 = S.next + 5 := by omega
 have hd : T.next = S.next + 4 := n4
 generalize hS0 : (T.new .defer).new (.loop .ready none) = S0 at hI0 f6 n6 ⊢
 rw [show S.next + 3 + 1 + 1 = S.next + 5 from rfl,show S.next + 3 + 1 = S.next + 4 from rfl]
 have fS0 : Fr S.next S S0 := f4.trans (f6.mono (by omega))
 have hlen : (xs.map row1).length = xs.length := by simp
 obtain ⟨S',O',e,l1,k1,o1,hh⟩ := hT (Hd.set (fun _ => none) (S.next + 5) fun vs T =>
   Option.bind (HS.lp T (S.next + 5)) fun _ => Option.bind (Zzn vs) fun ar => Option.bind (dI .i64 ar) fun p => Y24.J0 D (fun _ => none) (S.next + 5) (some (HA.cell0 S.next)) (some (HA.cell0 (S.next + 1))) (some (HA.cell0 (S.next + 2))) (some (HA.cell0 (S.next + 3))) p T)
  (S.next + 5) (fun i O U => ∃ so,ToI S.next most xs .ready i so U ∧ ∀ id,O id ↔ OT S.next so id) (fun _ _ => False) (by
   refine ⟨fun i O U U' ⟨so,h1,h2⟩ hk hn => ⟨so,h1.keep (fun id ho => hk id ((h2 id).2 ho)) hn,h2⟩,fun _ _ _ h => h.elim,fun i O U ⟨so,h1,h2⟩ id ho => ?_,fun _ _ h => h.elim,fun i hi O U ⟨so,h1,h2⟩ => ?_⟩
   ·have := h1.nx
    rcases (h2 id).1 ho with g | ⟨q,g,rfl⟩
    ·omega
    ·exact (h1.vec.lo q g).2
   ·rw [hlen] at hi
    simp only [Hd.set,if_true,obs]
    rw [Yaj,Zafi h1.lo,obs,show Zzn (row1 xs[i]) = some (kv xs[i]) from rfl,obs,show dI .i64 (kv xs[i]) = some xs[i] from dI_at _,obs]
    rw [Y24.J0,Zaam h1.lo,obs]
    -- begun
    have hso : ∀ q,so.a = some q → S.next + 6 ≤ q.1 := fun q hq => (h1.vec.lo q hq).1
    have b3 : (U.put (S.next + 5) (.loop .busy none)).heap (S.next + 3) = .cells 1 [[so.hv]] true := by rw [Zxd _ (by omega)]; exact h1.co
    have b0 : (U.put (S.next + 5) (.loop .busy none)).heap S.next = .cells 1 [[.int .i64 most]] true := by rw [Zxd _ (by omega)]; exact h1.cm
    have b5 : (U.put (S.next + 5) (.loop .busy none)).heap (S.next + 5) = .loop .busy none := Zxs _ _ _
    have bv : Vec (S.next + 6) (U.put (S.next + 5) (.loop .busy none)) 1 so ((xs.take i).map row1) := h1.vec.put_ne (fun q hq e => by have := hso q hq; omega)
    have bk : ∀ id,id ≠ S.next + 5 → (U.put (S.next + 5) (.loop .busy none)).heap id = U.heap id := fun id hne => Zxd _ hne
    have bn : (U.put (S.next + 5) (.loop .busy none)).next = U.next := rfl
    generalize U.put (S.next + 5) (.loop .busy none) = V at b3 b0 b5 bv bk bn ⊢
    have hsl : (so.len : Int) = i := by rw [bv.len]; simp; omega
    have hnx := h1.nx
    rw [obs,Zym b3,obs,obs,Zadl b0,obs,hsl,if_neg (by omega),obs,Zym b3,obs,letv]
    have fl : Fr V.next V (V.lit [[.int .i64 xs[i]]] 1).2 := Zyt _ (Yaa _)
    have lr : (V.lit [[.int .i64 xs[i]]] 1).2.rows (V.lit [[.int .i64 xs[i]]] 1).1 1 = some [[.int .i64 xs[i]]] := (Vec.lit (n := 0) (z := 1) (S := V) _ (Yak _)).rows
    have l2 : (V.lit [[.int .i64 xs[i]]] 1).2.next = V.next + 1 := rfl
    have v2 : Vec (S.next + 6) (V.lit [[.int .i64 xs[i]]] 1).2 1 so ((xs.take i).map row1) := bv.frame fl (Yaa _)
    obtain ⟨so',T3,e3,v3,f3,k3,q3⟩ := v2.app2 (new := [[.int .i64 xs[i]]]) (by omega) (by simp; omega)
    have n3 := f3.le
    have e : ((xs.take (i + 1)).map row1) = ((xs.take i).map row1) ++ [[.int .i64 xs[i]]] := by rw [Yaf hi,Yau]; rfl
    rw [← e] at v3
    have k4 : ∀ id,id < V.next → (∀ q,so.a = some q → q.1 ≠ id) → T3.heap id = V.heap id := fun id g1 g2 => (k3 id (by omega) g2).trans (fl.eq id g1)
    have c3' : T3.heap (S.next + 3) = .cells 1 [[so.hv]] true := by rw [k4 _ (by omega) (fun q hq e => by have := hso q hq; omega)]; exact b3
    rw [lr,obs,e3,obs,obs,Zzb _ c3',obs]
    have c5 : (T3.put (S.next + 3) (.cells 1 [[so'.hv]] true)).heap (S.next + 5) = .loop .busy none := by
     rw [Zxd _ (by omega),k4 _ (by omega) (fun q hq e => by have := hso q hq; omega)]; exact b5
    rw [Zafj none c5]
    have hkk : ∀ id,S.next ≤ id → id < S.next + 5 → id ≠ S.next + 3 → ((T3.put (S.next + 3) (.cells 1 [[so'.hv]] true)).put (S.next + 5) (.loop .ready none)).heap id = U.heap id := fun id g1 g2 g3 => by
     rw [Zxd _ (by omega),Zxd _ g3,k4 id (by omega) (fun q hq e => by have := hso q hq; omega),bk id (by omega)]
    refine ⟨true,_,OT S.next so',rfl,by simp only [Zxr]; omega,fun id g1 g2 => ?_,fun id ho => ?_,fun _ => ⟨so',⟨(hkk _ (by omega) (by omega) (by omega)).trans h1.cm,(hkk _ (by omega) (by omega) (by omega)).trans h1.cr,(hkk _ (by omega) (by omega) (by omega)).trans h1.cb,?_,(hkk _ (by omega) (by omega) (by omega)).trans h1.de,Zxs _ _ _,?_,by simp only [Zxr]; omega⟩,fun _ => Iff.rfl⟩,fun h => by cases h⟩
    ·have hno : ¬ OT S.next so id := fun h => g2 ((h2 id).2 h)
     have h5 : ¬ (S.next ≤ id ∧ id < S.next + 6) := fun h => hno (.inl h)
     show ((T3.put (S.next + 3) (.cells 1 [[so'.hv]] true)).put (S.next + 5) (.loop .ready none)).heap id = U.heap id
     rw [Zxd _ (by omega),Zxd _ (by omega),k4 id (by omega) (fun q hq e => hno (.inr ⟨q,hq,e⟩)),bk id (by omega)]
    ·rcases ho with g | ⟨q,g,rfl⟩
     ·exact .inl ((h2 id).2 (.inl g))
     ·rcases q3 q g with g' | ⟨q0,g1,g2⟩
      ·exact .inr (by omega)
      ·exact .inl ((h2 _).2 (.inr ⟨q0,g1,g2⟩))
    ·show ((T3.put (S.next + 3) (.cells 1 [[so'.hv]] true)).put (S.next + 5) (.loop .ready none)).heap (S.next + 3) = _
     rw [Zxd _ (by omega)]; exact Zxs _ _ _
    ·exact (v3.put_ne (fun q hq e => by have := (v3.lo q hq).1; omega)).put_ne (fun q hq e => by have := (v3.lo q hq).1; omega))
  (OT S.next Sl.nil) S0 ⟨Sl.nil,hI0,fun _ => Iff.rfl⟩ (fun id hid => ⟨fS0.eq id (hK id hid),(fun ho => by
   have := hK id hid
   rcases ho with g | ⟨q,g,_⟩
   ·omega
   ·cases g),by have := hK id hid; omega⟩)
 have hh' : ∃ so,ToI S.next most xs .ready (xs.map row1).length so S' ∧ ∀ id,O' id ↔ OT S.next so id := by
  rcases hh with h | h
  ·exact h
  ·exact h.elim
 obtain ⟨so,h1,h2⟩ := hh'
 rw [hlen] at h1
 have hv := h1.vec
 rw [Yao] at hv
 erw [e]
 rw [obs]
 have e1 : S'.finish (S.next + 5) = some (none,S'.put (S.next + 5) (.loop .exhausted none)) := by simp [HS.finish,h1.lo]
 rw [e1,obs]
 simp only [pcode,obs,if_true]
 have hlo := hv.lo
 have hnx := h1.nx
 have x3 : (S'.put (S.next + 5) (.loop .exhausted none)).heap (S.next + 3) = .cells 1 [[so.hv]] true := by rw [Zxd _ (by omega)]; exact h1.co
 have x1 : (S'.put (S.next + 5) (.loop .exhausted none)).heap (S.next + 1) = .cells 1 [[Sl.nil.hv]] true := by rw [Zxd _ (by omega)]; exact h1.cr
 have x2 : (S'.put (S.next + 5) (.loop .exhausted none)).heap (S.next + 2) = .cells 1 [[.bool false]] true := by rw [Zxd _ (by omega)]; exact h1.cb
 have x4 : (S'.put (S.next + 5) (.loop .exhausted none)).heap (S.next + 4) = .defer := by rw [Zxd _ (by omega)]; exact h1.de
 have xk : ∀ id,id ≠ S.next + 5 → (S'.put (S.next + 5) (.loop .exhausted none)).heap id = S'.heap id := fun id h => Zxd _ h
 have xn : (S'.put (S.next + 5) (.loop .exhausted none)).next = S'.next := rfl
 generalize S'.put (S.next + 5) (.loop .exhausted none) = X at x1 x2 x3 x4 xk xn ⊢
 have y2 : (X.put (S.next + 1) (.cells 1 [[so.hv]] true)).heap (S.next + 2) = .cells 1 [[.bool false]] true := by rw [Zxd _ (by omega)]; exact x2
 rw [Zym x3,obs,Zzb _ x1,obs,Zzb _ y2,obs]
 have y4 : ((X.put (S.next + 1) (.cells 1 [[so.hv]] true)).put (S.next + 2) (.cells 1 [[.bool true]] true)).heap (S.next + 4) = .defer := by rw [Zxd _ (by omega),Zxd _ (by omega)]; exact x4
 simp only [HS.leave,y4,obs]
 have z1 : (((X.put (S.next + 1) (.cells 1 [[so.hv]] true)).put (S.next + 2) (.cells 1 [[.bool true]] true)).put (S.next + 4) .dead).heap (S.next + 1) = .cells 1 [[so.hv]] true := by rw [Zxd _ (by omega),Zxd _ (by omega)]; exact Zxs _ _ _
 have z2 : (((X.put (S.next + 1) (.cells 1 [[so.hv]] true)).put (S.next + 2) (.cells 1 [[.bool true]] true)).put (S.next + 4) .dead).heap (S.next + 2) = .cells 1 [[.bool true]] true := by rw [Zxd _ (by omega)]; exact Zxs _ _ _
 rw [Zym z1,obs,Zadk z2,obs]
 refine ⟨so,_,rfl,Zx1 hv.rows fun q hq => ?_,fun q hq => ⟨by have := hlo q hq; omega,by simp only [Zxr]; have := hlo q hq; omega⟩,⟨by simp only [Zxr]; omega,fun id hid => ?_⟩⟩
 ·have := hlo q hq
  rw [Zxd _ (by omega),Zxd _ (by omega),Zxd _ (by omega),xk _ (by omega)]
 ·rw [Zxd _ (by omega),Zxd _ (by omega),Zxd _ (by omega),xk _ (by omega),k1 id (by omega) (fun ho => by
   rcases ho with g | ⟨q,g,_⟩
   ·omega
   ·cases g)]
  exact fS0.eq id hid
end KI
namespace KI
structure UI (g : Nat) (su : Sl) (sls : List Sl) (vals : List (List Ky)) (S : HS) : Prop where
 vec : Vec g S 1 su (sls.map fun s => [s.hv])
 len : sls.length = vals.length
 rows : ∀ j (h : j < sls.length) (h' : j < vals.length),S.rows sls[j] 1 = some (vals[j].map row1)
 lo : ∀ j (h : j < sls.length) q,sls[j].a = some q → g ≤ q.1 ∧ q.1 < S.next ∧ ∀ p,su.a = some p → p.1 ≠ q.1
theorem ldSl_of {S : HS} {ad : HA} {s : Sl} (h : S.get ad = some s.hv) : S.ldSl ad = some s := by rw [HS.ldSl,h]; rfl
theorem UI.slen {g : Nat} {su : Sl} {sls : List Sl} {vals : List (List Ky)} {S : HS} (h : UI g su sls vals S) : (su.len : Int) = vals.length := by rw [h.vec.len]; simp [h.len]
theorem UI.keep {g : Nat} {su : Sl} {sls : List Sl} {vals : List (List Ky)} {S S' : HS} (h : UI g su sls vals S) (hk : ∀ id,g ≤ id → id < S.next → ((∃ q,su.a = some q ∧ q.1 = id) ∨ ∃ s ∈ sls,∃ q,s.a = some q ∧ q.1 = id) → S'.heap id = S.heap id) (hn : S.next ≤ S'.next) : UI g su sls vals S' := by
 refine ⟨Zabc h.vec (fun q hq => hk q.1 (h.vec.lo q hq).1 (h.vec.lo q hq).2 (.inl ⟨q,hq,rfl⟩)) hn,h.len,fun j hj hj' => Zx1 (h.rows j hj hj') fun q hq => ?_,fun j hj q hq => ?_⟩
 ·have := h.lo j hj q hq
  exact hk q.1 this.1 this.2.1 (.inr ⟨_,Yae hj,q,hq,rfl⟩)
 ·have := h.lo j hj q hq
  exact ⟨this.1,by omega,this.2.2⟩
def Sets (ps : List (Option Nat)) (vals : List (List Ky)) (S : HS) : Prop := ps.length = vals.length ∧ ∀ j (h : j < ps.length) (h' : j < vals.length),match ps[j] with | none => vals[j] = [] | some p => ∃ s,SI p s vals[j] S
def ptrRow (p : Option Nat) : List HV := [.ptr (p.map HA.cell0)]
theorem Sets.fr {ps : List (Option Nat)} {vals : List (List Ky)} {S S' : HS} (h : Sets ps vals S) (hf : Fr S.next S S') : Sets ps vals S' := by
 refine ⟨h.1,fun j hj hj' => ?_⟩
 have := h.2 j hj hj'
 split at this
 ·exact this
 ·obtain ⟨s,h⟩ := this; exact ⟨s,h.fr hf⟩
theorem ldP_of {S : HS} {ad : HA} {p : Option HA} (h : S.get ad = some (.ptr p)) : S.ldP ad = some p := by rw [HS.ldP,h]; rfl
theorem list_opt {p : Option Nat} {xs : List Ky} {S : HS} (h : match p with | none => xs = [] | some p => ∃ s,SI p s xs S) : ∃ s' S',Y59.f (p.map HA.cell0) S = some (s',S') ∧ S'.rows s' 1 = some (xs.map row1) ∧ (∀ q,s'.a = some q → S.next ≤ q.1 ∧ q.1 < S'.next) ∧ Fr S.next S S' := by
 cases p with
 | none =>
  simp only at h
  subst h
  rw [Y59.f,if_pos (by rfl)]
  exact ⟨_,S,rfl,rfl,fun q hq => (by cases hq),Fr.refl _ _⟩
 | some p =>
  obtain ⟨s,h⟩ := h
  exact list_spec h
theorem Zahl {k : Nat} {sl : Sl} {ps : List (Option Nat)} {vals : List (List Ky)} {S : HS} (hk : 2000 ≤ k) (hs : Sets ps vals S) (hr : Rd S.next S 1 sl (ps.map ptrRow)) (hl : ps.length ≤ 1000) :
  ∃ su sls S',Y46.f k sl S = some (.fn (.func 88) [] [.ptr (some (HA.cell0 S.next))],S') ∧ S'.heap S.next = .cells 1 [[su.hv]] true ∧ UI (S.next + 1) su sls vals S' ∧ Fr S.next S S' ∧ S.next < S'.next := by
 have hsl : (sl.len : Int) = ps.length := by rw [hr.len]; simp
 have hlen := hs.1
 have hloop : ∀ f i T su sls,ps.length - i < f → i ≤ ps.length → Fr S.next S T → T.heap S.next = .cells 1 [[su.hv]] true → S.next < T.next → UI (S.next + 1) su sls (vals.take i) T →
   ∃ su sls S',Y46.L0 k f (some (HA.cell0 S.next)) sl (ps.length : Int) (i : Int) T = some (.fn (.func 88) [] [.ptr (some (HA.cell0 S.next))],S') ∧ S'.heap S.next = .cells 1 [[su.hv]] true ∧ UI (S.next + 1) su sls vals S' ∧ Fr S.next S S' ∧ S.next < S'.next := by
  intro f
  induction f with
  | zero => intro i T su sls h; omega
  | succ f ih =>
   intro i T su sls hf hi hfr hc hn hu
   rw [Y46.L0]
   by_cases hlt : i < ps.length
   ·have hrT : T.rows sl 1 = some (ps.map ptrRow) := (hr.frame hfr (Yaa _)).rows
    obtain ⟨ad,a1,a2⟩ := Zaer hrT (i := i) (v := .ptr (ps[i].map HA.cell0)) (by simpa using hlt) (by rw [Yaj]; rfl)
    obtain ⟨s',T1,e1,r1,q1,f1⟩ := list_opt ((hs.fr hfr).2 i hlt (by omega))
    have l1 := f1.le
    have c1 : T1.heap S.next = .cells 1 [[su.hv]] true := (f1.eq _ hn).trans hc
    have u1 : UI (S.next + 1) su sls (vals.take i) T1 := hu.keep (fun id _ h2 _ => f1.eq id h2) l1
    have fl : Fr T1.next T1 (T1.lit [[s'.hv]] 1).2 := Zyt _ (Yaa _)
    have l2 : (T1.lit [[s'.hv]] 1).2.next = T1.next + 1 := rfl
    have lr : (T1.lit [[s'.hv]] 1).2.rows (T1.lit [[s'.hv]] 1).1 1 = some [[s'.hv]] := (Vec.lit (n := 0) (z := 1) (S := T1) _ (Yak _)).rows
    have c2 : (T1.lit [[s'.hv]] 1).2.heap S.next = .cells 1 [[su.hv]] true := (fl.eq _ (by omega)).trans c1
    have u2 : UI (S.next + 1) su sls (vals.take i) (T1.lit [[s'.hv]] 1).2 := u1.keep (fun id _ h2 _ => fl.eq id h2) fl.le
    have hsu : sls.length = i := by rw [u2.len,Yar]; omega
    obtain ⟨su',T3,e3,v3,f3,k3,q3⟩ := u2.vec.app2 (new := [[s'.hv]]) (by omega) (by simp; omega)
    have n3 := f3.le
    have c3 : T3.heap S.next = .cells 1 [[su.hv]] true := (f3.eq _ (by omega)).trans c2
    rw [if_pos (by omega),a1,obs,ldP_of a2,obs,obs,Zym hc,obs,e1,obs,Zym c1,obs,if_pos rfl,letv,Zym c2,obs,if_pos rfl,lr,obs,e3,obs,obs,Zzb _ c3,obs,
     Zx2 (by omega) (by omega),show ((i : Int) + 1) = ((i + 1 : Nat) : Int) by simp]
    have hsu' : ∀ q,su'.a = some q → T1.next < q.1 ∨ ∃ q0,su.a = some q0 ∧ q0.1 = q.1 := fun q hq => by
     rcases q3 q hq with g | g
     ·exact .inl (by omega)
     ·exact .inr g
    have hold : ∀ id,id < T1.next → (∀ q,su.a = some q → q.1 ≠ id) → T3.heap id = T1.heap id := fun id h1 h2 => (k3 id (by omega) h2).trans (fl.eq id h1)
    have hnes : ∀ q,s'.a = some q → ∀ p,su.a = some p → p.1 ≠ q.1 := fun q hq p hp => by have := (hu.vec.lo p hp).2; have := (q1 q hq).1; omega
    refine ih (i + 1) _ su' (sls ++ [s']) (by omega) (by omega) ((hfr.trans (f1.mono hfr.le)).trans (((fl.mono (by omega)).trans (f3.mono (by omega))).trans (Fr.put (Yaa _) _))) (Zxs _ _ _) (by rw [Zxr]; omega) ?_
    have hm : (sls ++ [s']).map (fun s => [s.hv]) = sls.map (fun s => [s.hv]) ++ [[s'.hv]] := by simp
    refine ⟨?_,by rw [Ya3,Yar]; simp; omega,fun j hj hj' => ?_,fun j hj q hq => ?_⟩
    ·rw [hm]; exact v3.put_ne (fun q hq e => by have := (v3.lo q hq).1; omega)
    ·rw [Ybl]
     rw [Ya3,List.length_singleton] at hj
     rcases Yan j i with g | g
     ·have hjs : j < sls.length := by omega
      simp only [Ya5 hjs]
      have := u1.rows j hjs (by rw [Yar]; omega)
      rw [Ybl] at this
      refine Zx1 this fun q hq => ?_
      have hl := u1.lo j hjs q hq
      rw [Zxd _ (by omega)]
      exact hold q.1 hl.2.1 (fun p hp => hl.2.2 p hp)
     ·obtain rfl : j = i := by omega
      have e : (sls ++ [s'])[j] = s' := by rw [Ya4 (by omega)]; simp [hsu]
      rw [e]
      refine Zx1 r1 fun q hq => ?_
      have := q1 q hq
      rw [Zxd _ (by omega)]
      exact hold q.1 this.2 (fun p hp => hnes q hq p hp)
    ·rw [Ya3,List.length_singleton] at hj
     rcases Yan j i with g | g
     ·have hjs : j < sls.length := by omega
      simp only [Ya5 hjs] at hq
      have hl := u1.lo j hjs q hq
      refine ⟨hl.1,by rw [Zxr]; omega,fun p hp => ?_⟩
      rcases hsu' p hp with g' | ⟨p0,g1,g2⟩
      ·omega
      ·rw [← g2]; exact hl.2.2 p0 g1
     ·obtain rfl : j = i := by omega
      have e : (sls ++ [s'])[j] = s' := by rw [Ya4 (by omega)]; simp [hsu]
      rw [e] at hq
      have := q1 q hq
      refine ⟨by omega,by rw [Zxr]; omega,fun p hp => ?_⟩
      rcases hsu' p hp with g' | ⟨p0,g1,g2⟩
      ·omega
      ·rw [← g2]; exact hnes q hq p0 g1
   ·obtain rfl : i = ps.length := by omega
    rw [if_neg (by omega)]
    rw [Yaz (by omega)] at hu
    exact ⟨su,sls,T,rfl,hc,hu,hfr,hn⟩
 rw [Y46.f,letv,hsl]
 exact hloop k 0 _ Sl.nil [] (by omega) (Yak _) (Fr.new (Yaa _) _) (Zxv _ _) (Yaw _) ⟨Vec.nil,by simp,fun j hj => by simp at hj,fun j hj => by simp at hj⟩
structure UnionOf (W : List Ky) (vals : List (List Ky)) : Prop where
 srt : Srt W
 mem : ∀ v,v ∈ W ↔ ∃ xs ∈ vals,v ∈ xs
structure LI (g : Nat) (K : Nat → Prop) (left : Sl) (ts : List Sl) (rems : List (List Ky)) (S : HS) : Prop where
 vec : Vec g S 1 left (ts.map fun s => [s.hv])
 len : ts.length = rems.length
 rows : ∀ j (h : j < ts.length) (h' : j < rems.length),S.rows ts[j] 1 = some (rems[j].map row1)
 inK : ∀ j (h : j < ts.length) q,ts[j].a = some q → K q.1
def Rem (W : List Ky) (q : Nat) (vals rems : List (List Ky)) : Prop := rems.length = vals.length ∧ ∀ j (h : j < rems.length) (h' : j < vals.length),Srt rems[j] ∧ ∀ v,v ∈ rems[j] ↔ v ∈ vals[j] ∧ v ∈ W.drop q
theorem LI.at_ {g : Nat} {K : Nat → Prop} {left : Sl} {ts : List Sl} {rems : List (List Ky)} {S : HS} (h : LI g K left ts rems S) {j : Nat} (hj : j < ts.length) : ∃ ad,S.idx left (j : Int) 1 = some ad ∧ S.ldSl ad = some ts[j] := by
 obtain ⟨ad,h1,h2⟩ := Zaer h.vec.rows (i := j) (v := ts[j].hv) (by simpa using hj) (by rw [Yaj])
 exact ⟨ad,h1,ldSl_of h2⟩
theorem LI.slen {g : Nat} {K : Nat → Prop} {left : Sl} {ts : List Sl} {rems : List (List Ky)} {S : HS} (h : LI g K left ts rems S) : (left.len : Int) = rems.length := by rw [h.vec.len]; simp [h.len]
def Zai6 (rems : List (List Ky)) (i : Nat) (b : Int) : Prop :=
 (b = -1 ∧ ∀ j (h : j < rems.length),j < i → rems[j] = []) ∨ ∃ j0 : Nat,b = (j0 : Int) ∧ ∃ h : j0 < rems.length,j0 < i ∧ ∃ x xs,rems[j0] = x :: xs ∧ ∀ j (h : j < rems.length),j < i → ∀ y ys,rems[j] = y :: ys → klt y x = false
theorem Zadz {S : HS} {t : Sl} {x : Ky} {xs : List Ky} (h : S.rows t 1 = some ((x :: xs).map row1)) : ∃ ad,S.idx t 0 1 = some ad ∧ S.ldI .i64 ad = some x := by
 obtain ⟨ad,h1,h2⟩ := ldK_at h (i := 0) (by simp)
 exact ⟨ad,h1,h2⟩
theorem Zai7 {D : Dp} {H : Hd} {k g : Nat} {K : Nat → Prop} {y0 : HV} {left : Sl} {ts : List Sl} {rems : List (List Ky)} {S : HS} {r0 : HV → Sl → HS → Option (Unit × HS)} (h : LI g K left ts rems S) (hl : rems.length ≤ 1000) :
  ∀ n i b,rems.length - i < n → i ≤ rems.length → Zai6 rems i b →
  ∃ n' b',Y2.L1 D H k r0 n y0 left b left (rems.length : Int) (i : Int) S = Y2.L1 D H k r0 (n' + 1) y0 left b' left (rems.length : Int) (rems.length : Int) S ∧ Zai6 rems rems.length b' := by
 have hlen := h.len
 intro n
 induction n with
 | zero => intro i b h; omega
 | succ n ih =>
  intro i b hf hi hB
  by_cases hlt : i < rems.length
  ·obtain ⟨ad,a1,a2⟩ := h.at_ (j := i) (by omega)
   have hrow := h.rows i (by omega) hlt
   have htl : (ts[i].len : Int) = rems[i].length := by rw [← Zx3 hrow]; simp
   rw [Y2.L1,if_pos (by omega),a1,obs,a2,obs,htl]
   have hJ3 : ∀ b2,Zai6 rems (i + 1) b2 → ∃ n' b',Y2.J3 D H k (Y2.L1 D H k r0 n) r0 y0 left b2 left (rems.length : Int) (i : Int) S = Y2.L1 D H k r0 (n' + 1) y0 left b' left (rems.length : Int) (rems.length : Int) S ∧ Zai6 rems rems.length b' := by
    intro b2 hB2
    rw [Y2.J3,Zx2 (by omega) (by omega),show ((i : Int) + 1) = ((i + 1 : Nat) : Int) by simp]
    exact ih (i + 1) b2 (by omega) (by omega) hB2
   cases hri : rems[i] with
   | nil =>
    rw [if_neg (by simp),Y2.J2,if_neg (by simp)]
    refine hJ3 b ?_
    rcases hB with ⟨rfl,g⟩ | ⟨j0,rfl,hj0,g1,x,xs,g2,g3⟩
    ·refine .inl ⟨rfl,fun j hj hji => ?_⟩
     rcases Yan j i with g' | g'
     ·exact g j hj g'
     ·obtain rfl : j = i := by omega
      exact hri
    ·refine .inr ⟨j0,rfl,hj0,by omega,x,xs,g2,fun j hj hji y ys hy => ?_⟩
     rcases Yan j i with g' | g'
     ·exact g3 j hj g' y ys hy
     ·obtain rfl : j = i := by omega
      rw [hri] at hy; cases hy
   | cons z zs =>
    rw [if_pos (by simp)]
    rcases hB with ⟨rfl,g⟩ | ⟨j0,rfl,hj0,g1,x,xs,g2,g3⟩
    ·rw [if_pos (by omega),Y2.J2,if_pos rfl]
     refine hJ3 _ (.inr ⟨i,rfl,hlt,by omega,z,zs,hri,fun j hj hji y ys hy => ?_⟩)
     rcases Yan j i with g' | g'
     ·rw [g j hj g'] at hy; cases hy
     ·obtain rfl : j = i := by omega
      rw [hri] at hy; cases hy; exact klt_irrefl _
    ·have hrow0 := h.rows j0 (by omega) hj0
     rw [g2] at hrow0
     rw [hri] at hrow
     obtain ⟨ad1,c1,c2⟩ := Zadz hrow
     obtain ⟨ad2,d1,d2⟩ := Zadz hrow0
     obtain ⟨ad3,e1,e2⟩ := h.at_ (j := j0) (by omega)
     rw [if_neg (by omega),c1,obs,c2,obs,e1,obs,e2,obs,d1,obs,d2,obs,Y2.J2]
     by_cases hzx : z < x
     ·rw [if_pos (by simpa using hzx)]
      refine hJ3 _ (.inr ⟨i,rfl,hlt,by omega,z,zs,hri,fun j hj hji y ys hy => ?_⟩)
      rcases Yan j i with g' | g'
      ·cases hyz : klt y z with
       | false => rfl
       | true =>
        have := klt_trans hyz (show klt z x = true from decide_eq_true hzx)
        rw [g3 j hj g' y ys hy] at this; cases this
      ·obtain rfl : j = i := by omega
       rw [hri] at hy; cases hy; exact klt_irrefl _
     ·rw [if_neg (by simpa using hzx)]
      refine hJ3 _ (.inr ⟨j0,rfl,hj0,by omega,x,xs,g2,fun j hj hji y ys hy => ?_⟩)
      rcases Yan j i with g' | g'
      ·exact g3 j hj g' y ys hy
      ·obtain rfl : j = i := by omega
       rw [hri] at hy; cases hy
       exact decide_eq_false hzx
  ·obtain rfl : i = rems.length := by omega
   exact ⟨n,b,rfl,hB⟩
def Zz8 (x : Ky) (xs : List Ky) : List Ky := match xs with | [] => [] | y :: ys => if y = x then ys else y :: ys
theorem LI.keep {g : Nat} {K : Nat → Prop} {left : Sl} {ts : List Sl} {rems : List (List Ky)} {S S' : HS} (h : LI g K left ts rems S) (hk : ∀ q,left.a = some q → S'.heap q.1 = S.heap q.1) (hK : ∀ id,K id → S'.heap id = S.heap id) (hn : S.next ≤ S'.next) : LI g K left ts rems S' :=
 ⟨Zabc h.vec hk hn,h.len,fun j hj hj' => Zx1 (h.rows j hj hj') fun q hq => hK q.1 (h.inK j hj q hq),h.inK⟩
theorem Zai8 {D : Dp} {H : Hd} {k g : Nat} {K : Nat → Prop} {y0 : HV} {left : Sl} {rems : List (List Ky)} {x : Ky} {r0 : HV → Sl → HS → Option (Unit × HS)} {S0 : HS} (hl : rems.length ≤ 1000) (hxl : ∀ xs ∈ rems,xs.length ≤ 1000) (hKl : ∀ q,left.a = some q → ¬ K q.1) :
  ∀ n i S ts,rems.length - i < n → i ≤ rems.length → LI g K left ts ((rems.take i).map (Zz8 x) ++ rems.drop i) S → S.next = S0.next → (∀ id,(∀ q,left.a = some q → q.1 ≠ id) → S.heap id = S0.heap id) →
  ∃ n' S' ts',Y2.L4 D H k r0 n y0 left x left (rems.length : Int) (i : Int) S = Y2.L4 D H k r0 (n' + 1) y0 left x left (rems.length : Int) (rems.length : Int) S' ∧ LI g K left ts' (rems.map (Zz8 x)) S' ∧ S'.next = S0.next ∧ (∀ id,(∀ q,left.a = some q → q.1 ≠ id) → S'.heap id = S0.heap id) := by
 intro n
 induction n with
 | zero => intro i S ts h; omega
 | succ n ih =>
  intro i S ts hf hi h hn hk
  have hlen0 : ((rems.take i).map (Zz8 x) ++ rems.drop i).length = rems.length := by simp; omega
  have hlen := h.len
  rw [hlen0] at hlen
  by_cases hlt : i < rems.length
  ·have hri : ((rems.take i).map (Zz8 x) ++ rems.drop i)[i]'(by omega) = rems[i] := by
    rw [Ya4 (by simp; omega)]
    simp only [Ya9,Yar,Yat]
    congr 1
    omega
   obtain ⟨ad,a1,a2⟩ := h.at_ (j := i) (by omega)
   have hrow := h.rows i (by omega) (by omega)
   rw [hri] at hrow
   have htl : (ts[i].len : Int) = rems[i].length := by rw [← Zx3 hrow]; simp
   have hnext : ∀ (T : HS) (ts2 : List Sl),LI g K left ts2 ((rems.take (i + 1)).map (Zz8 x) ++ rems.drop (i + 1)) T → T.next = S0.next → (∀ id,(∀ q,left.a = some q → q.1 ≠ id) → T.heap id = S0.heap id) →
     ∃ n' S' ts',Y2.J6 D H k (Y2.L4 D H k r0 n) r0 y0 left x left (rems.length : Int) (i : Int) T = Y2.L4 D H k r0 (n' + 1) y0 left x left (rems.length : Int) (rems.length : Int) S' ∧ LI g K left ts' (rems.map (Zz8 x)) S' ∧ S'.next = S0.next ∧ (∀ id,(∀ q,left.a = some q → q.1 ≠ id) → S'.heap id = S0.heap id) := by
    intro T ts2 h2 hn2 hk2
    rw [Y2.J6,Zx2 (by omega) (by omega),show ((i : Int) + 1) = ((i + 1 : Nat) : Int) by simp]
    exact ih (i + 1) T ts2 (by omega) (by omega) h2 hn2 hk2
   have hsame : Zz8 x rems[i] = rems[i] → (rems.take (i + 1)).map (Zz8 x) ++ rems.drop (i + 1) = (rems.take i).map (Zz8 x) ++ rems.drop i := by
    intro e
    rw [Yaf hlt,Yau,List.map_singleton,e,Ya8,List.singleton_append,← Yal hlt]
   rw [Y2.L4,if_pos (by omega),a1,obs,a2,obs,htl]
   cases hrc : rems[i] with
   | nil =>
    rw [if_neg (by simp),Y2.J5,if_neg (by simp)]
    exact hnext S ts (by rw [hsame (by rw [hrc]; rfl)]; exact h) hn hk
   | cons y ys =>
    have hyl : (y :: ys).length ≤ 1000 := hxl _ (hrc ▸ Yae hlt)
    rw [hrc] at hrow
    obtain ⟨ad1,c1,c2⟩ := Zadz hrow
    rw [if_pos (by simp),c1,obs,c2,obs,Y2.J5]
    by_cases hyx : y = x
    ·obtain ⟨sc,d1,d2⟩ := Zadv hrow (m := 1) (by simp)
     have htl2 : (ts[i].len : Int) = (((y :: ys).map row1).length : Int) := by rw [← Zx3 hrow]
     rw [show ((1 : Nat) : Int) = 1 from rfl] at d1
     obtain ⟨ad2,S2,b1,b2,b3,b4,b5,b6,b7,b8⟩ := h.vec.set_ (i := i) (row := [sc.hv]) (by simp; omega) (by simp)
     rw [if_pos (by simpa using hyx),htl2,d1,obs,b1,obs,b4,obs]
     have hm : (ts.map fun s => [s.hv]).set i [sc.hv] = (ts.set i sc).map fun s => [s.hv] := by rw [List.map_set]
     rw [hm] at b5
     refine hnext S2 (ts.set i sc) ⟨b5,?_,fun j hj hj' => ?_,fun j hj q hq => ?_⟩ (b7.trans hn) (fun id hid => (b8 id hid).trans (hk id hid))
     ·simp; omega
     ·rw [List.length_set] at hj
      by_cases hji : j = i
      ·subst hji
       rw [List.getElem_set_self]
       have e : ((rems.take (j + 1)).map (Zz8 x) ++ rems.drop (j + 1))[j]'hj' = ys := by
        rw [Ya5 (by simp; omega),Yaj,Ybl,hrc]
        simp [Zz8,hyx]
       rw [e]
       have d2' : S.rows sc 1 = some (ys.map row1) := by rw [d2]; simp
       refine Zx1 d2' fun q hq => b8 q.1 fun p hp e' => hKl p hp ?_
       have hq1 : ∃ q2,ts[j].a = some q2 ∧ q2.1 = q.1 := by
        have hc := d1
        unfold HS.cut at hc
        rcases ifc hc with ⟨_,hc⟩ | ⟨_,hc⟩
        ·cases ha : ts[j].a with
         | none =>
          rw [ha] at hc
          simp only at hc
          rcases ifc hc with ⟨_,hc⟩ | ⟨_,hc⟩
          ·simp only [Option.some.injEq] at hc
           subst hc; cases hq
          ·cases hc
         | some p2 =>
          obtain ⟨id2,off2⟩ := p2
          rw [ha] at hc
          simp only at hc
          split at hc
          ·rcases ifc hc with ⟨_,hc⟩ | ⟨_,hc⟩
           ·simp only [Option.some.injEq] at hc
            subst hc
            simp only [Option.some.injEq] at hq
            exact ⟨_,rfl,by rw [← hq]⟩
           ·cases hc
          ·cases hc
        ·cases hc
       obtain ⟨q2,hq2,hq3⟩ := hq1
       rw [e',← hq3]
       exact h.inK j (by omega) q2 hq2
      ·rw [List.getElem_set_ne (Ne.symm hji)]
       have e : ((rems.take (i + 1)).map (Zz8 x) ++ rems.drop (i + 1))[j]'hj' = ((rems.take i).map (Zz8 x) ++ rems.drop i)[j]'(by rw [hlen0]; omega) := by
        rcases Yan j i with g' | g'
        ·rw [Ya5 (by simp; omega),Ya5 (by simp; omega)]
         simp only [Yaj,Ybl]
        ·rw [Ya4 (by simp; omega),Ya4 (by simp; omega)]
         simp only [Ya9,Yar,Yat]
         congr 1
         omega
       rw [e]
       refine Zx1 (h.rows j (by omega) (by rw [hlen0]; omega)) fun q hq => b8 q.1 fun p hp e' => hKl p hp (by rw [e']; exact h.inK j (by omega) q hq)
     ·rw [List.length_set] at hj
      by_cases hji : j = i
      ·subst hji
       rw [List.getElem_set_self] at hq
       have hq1 : ∃ q2,ts[j].a = some q2 ∧ q2.1 = q.1 := by
        have hc := d1
        unfold HS.cut at hc
        rcases ifc hc with ⟨_,hc⟩ | ⟨_,hc⟩
        ·cases ha : ts[j].a with
         | none =>
          rw [ha] at hc
          simp only at hc
          rcases ifc hc with ⟨_,hc⟩ | ⟨_,hc⟩
          ·simp only [Option.some.injEq] at hc
           subst hc; cases hq
          ·cases hc
         | some p2 =>
          obtain ⟨id2,off2⟩ := p2
          rw [ha] at hc
          simp only at hc
          split at hc
          ·rcases ifc hc with ⟨_,hc⟩ | ⟨_,hc⟩
           ·simp only [Option.some.injEq] at hc
            subst hc
            simp only [Option.some.injEq] at hq
            exact ⟨_,rfl,by rw [← hq]⟩
           ·cases hc
          ·cases hc
        ·cases hc
       obtain ⟨q2,hq2,hq3⟩ := hq1
       rw [← hq3]
       exact h.inK j (by omega) q2 hq2
      ·rw [List.getElem_set_ne (Ne.symm hji)] at hq
       exact h.inK j (by omega) q hq
    ·rw [if_neg (by simpa using hyx)]
     exact hnext S ts (by rw [hsame (by rw [hrc]; simp [Zz8,hyx])]; exact h) hn hk
  ·obtain rfl : i = rems.length := by omega
   refine ⟨n,S,ts,rfl,?_,hn,hk⟩
   simpa using h
theorem rem_drop {W : List Ky} {q : Nat} {vals rems : List (List Ky)} (h : Rem W q vals rems) (hW : Srt W) (hq : q < W.length) : Rem W (q + 1) vals (rems.map (Zz8 W[q])) := by
 refine ⟨by simp [h.1],fun j hj hj' => ?_⟩
 rw [Ya9] at hj
 rw [Yaj]
 obtain ⟨h1,h2⟩ := h.2 j hj hj'
 have hdq : ∀ v,v ∈ W.drop q ↔ v = W[q] ∨ v ∈ W.drop (q + 1) := fun v => by rw [Yal hq,Yac]
 have hnq : W[q] ∉ W.drop (q + 1) := by
  intro hm
  obtain ⟨i,hi,he⟩ := Yag hm
  rw [Yat] at he
  rw [Ya1] at hi
  have := hW.lt hq (show q + 1 + i < W.length by omega) (by omega)
  rw [he,klt_irrefl] at this; cases this
 cases hrc : rems[j] with
 | nil =>
  rw [hrc] at h2
  refine ⟨List.Pairwise.nil,fun v => ?_⟩
  constructor
  ·intro hv; cases hv
  ·rintro ⟨g1,g2⟩
   exact absurd ((h2 v).2 ⟨g1,(hdq v).2 (.inr g2)⟩) (by simp)
 | cons y ys =>
  rw [hrc] at h1 h2
  have hp := Yah.1 h1
  unfold Zz8
  by_cases hy : y = W[q]
  ·simp only [if_pos hy]
   refine ⟨hp.2,fun v => ?_⟩
   constructor
   ·intro hv
    obtain ⟨g1,g2⟩ := (h2 v).1 (by simp [hv])
    refine ⟨g1,((hdq v).1 g2).resolve_left fun e => ?_⟩
    have := hp.1 v hv
    rw [e,← hy,klt_irrefl] at this; cases this
   ·rintro ⟨g1,g2⟩
    have h3 := (h2 v).2 ⟨g1,(hdq v).2 (.inr g2)⟩
    rcases Yac.1 h3 with e | e
    ·subst e; rw [hy] at g2; exact absurd g2 hnq
    ·exact e
  ·simp only [if_neg hy]
   refine ⟨h1,fun v => ?_⟩
   rw [h2 v,hdq]
   constructor
   ·rintro ⟨g1,g2 | g2⟩
    ·subst g2
     exfalso
     have hm := (h2 W[q]).2 ⟨g1,(hdq _).2 (.inl rfl)⟩
     rcases Yac.1 hm with e | e
     ·exact hy e.symm
     ·have h3 := hp.1 _ e
      have h4 := ((hdq y).1 ((h2 y).1 (by simp)).2).resolve_left hy
      obtain ⟨i,hi,he⟩ := Yag h4
      rw [Yat] at he
      rw [Ya1] at hi
      have := hW.lt hq (show q + 1 + i < W.length by omega) (by omega)
      rw [he] at this
      have := klt_trans this h3
      rw [klt_irrefl] at this; cases this
    ·exact ⟨g1,g2⟩
   ·rintro ⟨g1,g2⟩
    exact ⟨g1,.inr g2⟩
theorem Zai9 {W : List Ky} {q : Nat} {vals rems : List (List Ky)} (hU : UnionOf W vals) (h : Rem W q vals rems) {b : Int} (hB : Zai6 rems rems.length b) :
  (b = -1 ∧ W.length ≤ q) ∨ ∃ j0 : Nat,b = (j0 : Int) ∧ ∃ (h : j0 < rems.length) (hq : q < W.length),∃ xs,rems[j0] = W[q] :: xs := by
 rcases hB with ⟨rfl,g⟩ | ⟨j0,rfl,hj0,_,x,xs,g2,g3⟩
 ·left
  refine ⟨rfl,?_⟩
  rcases Yan q W.length with hlt | hge
  ·exfalso
   obtain ⟨ys,hys,hm⟩ := (hU.mem W[q]).1 (Yae hlt)
   obtain ⟨j,hj,rfl⟩ := Yag hys
   have hjr : j < rems.length := by rw [h.1]; exact hj
   have := ((h.2 j hjr hj).2 W[q]).2 ⟨hm,by rw [Yal hlt]; exact Ybc⟩
   rw [g j hjr hjr] at this; cases this
  ·exact hge
 ·right
  have hjv : j0 < vals.length := by rw [← h.1]; exact hj0
  have hx := ((h.2 j0 hj0 hjv).2 x).1 (by rw [g2]; simp)
  have hlt : q < W.length := by
   rcases Yan q W.length with hlt | hge
   ·exact hlt
   ·rw [Ya6 hge] at hx; cases hx.2
  have hxe : x = W[q] := by
   have hd := hx.2
   rw [Yal hlt,Yac] at hd
   rcases hd with e | e
   ·exact e
   ·exfalso
    obtain ⟨i,hi,he⟩ := Yag e
    rw [Yat] at he
    rw [Ya1] at hi
    have h1 := hU.srt.lt hlt (show q + 1 + i < W.length by omega) (by omega)
    rw [he] at h1
    obtain ⟨ys,hys,hm⟩ := (hU.mem W[q]).1 (Yae hlt)
    obtain ⟨j,hj,rfl⟩ := Yag hys
    have hjr : j < rems.length := by rw [h.1]; exact hj
    obtain ⟨h2,h3⟩ := h.2 j hjr hj
    have h4 := (h3 W[q]).2 ⟨hm,by rw [Yal hlt]; exact Ybc⟩
    cases hrc : rems[j] with
    | nil => rw [hrc] at h4; cases h4
    | cons y ys =>
     rw [hrc] at h2 h4
     have h5 := g3 j hjr hjr y ys hrc
     rcases Yac.1 h4 with e2 | e2
     ·rw [← e2,h1] at h5; cases h5
     ·have := klt_trans ((Yah.1 h2).1 _ e2) h1
      rw [this] at h5; cases h5
  exact ⟨j0,rfl,hj0,hlt,xs,by rw [g2,hxe]⟩
theorem Zafy {k n c : Nat} {B : HS} {su : Sl} {sls : List Sl} {vals : List (List Ky)} {W : List Ky} {g0 : Nat} (hk : 2000 ≤ k) (hU : UnionOf W vals) (hW : W.length ≤ 1000) (hl : vals.length ≤ 1000) (hv : ∀ xs ∈ vals,Srt xs ∧ xs.length ≤ 1000) (hc : B.heap c = .cells 1 [[su.hv]] true) (hu : UI g0 su sls vals B) (K : Nat → Prop)
  (hKc : K c) (hKu : ∀ q,su.a = some q → K q.1) (hKs : ∀ s ∈ sls,∀ q,s.a = some q → K q.1) :
  Tells (disp k (n + 2)) (.fn (.func 88) [] [.ptr (some (HA.cell0 c))]) (W.map row1) K B := by
 intro H l I Stop ht O S hI hB
 have hlenW : (W.map row1).length = W.length := by simp
 have hcS : S.heap c = .cells 1 [[su.hv]] true := (hB c hKc).1.trans hc
 have hrS : S.rows su 1 = some (sls.map fun s => [s.hv]) := Zx1 hu.vec.rows fun q hq => (hB q.1 (hKu q hq)).1
 -- the rows are laid anew
 obtain ⟨left,S1,e1,v1,f1⟩ : ∃ left S1,Y83.f su S = some (left,S1) ∧ Vec S.next S1 1 left (sls.map fun s => [s.hv]) ∧ Fr S.next S S1 := by
  unfold Y83.f
  by_cases ha : su.a.isNone = true
  ·have hsn : sls.map (fun s => [s.hv]) = [] := by
    have h5 := hrS
    unfold HS.rows at h5
    rw [show su.a = none by simpa using ha] at h5
    simp only at h5
    rcases ifc h5 with ⟨_,h5⟩ | ⟨_,h5⟩
    ·exact (Option.some.inj h5).symm
    ·cases h5
   rw [if_pos ha,hsn]
   exact ⟨Sl.nil,S,rfl,.nil,Fr.refl _ _⟩
  ·have hll : sls.length = vals.length := hu.len
   rw [if_neg ha,letv]
   have hr' : (S.lit [] 1).2.rows su 1 = some (sls.map fun s => [s.hv]) := Zx1 hrS fun q hq => (Zyt (z := 1) (S := S) [] (Yaa _)).eq _ (hB q.1 (hKu q hq)).2.2
   obtain ⟨s',S1,e1,v1,f1⟩ := (Vec.lit (n := S.next) (z := 1) (S := S) [] (Yaa _)).app (new := sls.map fun s => [s.hv]) (Nat.le_succ _) (by simp; omega)
   rw [hr',obs,e1,obs]
   rw [Yay] at v1
   exact ⟨s',S1,rfl,v1,(Zyt [] (Yaa _)).trans f1⟩
 have n1 := f1.le
 have hKS : ∀ id,K id → S.heap id = B.heap id := fun id hid => (hB id hid).1
 have hleft : ∀ q,left.a = some q → S.next ≤ q.1 := fun q hq => (v1.lo q hq).1
 have hKl : ∀ q,left.a = some q → ¬ K q.1 := fun q hq hk' => by have := hleft q hq; have := (hB _ hk').2.2; omega
 have hL1 : LI S.next K left sls vals S1 := ⟨v1,hu.len,fun j hj hj' => Zx1 (hu.rows j hj hj') fun q hq => by
  have hq' := hKs _ (Yae hj) q hq
  rw [f1.eq _ (hB _ hq').2.2,hKS _ hq'],fun j hj q hq => hKs _ (Yae hj) q hq⟩
 have hI1 : I 0 O S1 := ht.keep 0 O S S1 hI (fun id ho => f1.eq id (ht.lt 0 O S hI id ho)) n1
 -- the rounds
 have hloop : ∀ f q O1 T ts rems,W.length - q < f → q ≤ W.length → LI S.next K left ts rems T → Rem W q vals rems → (∀ xs ∈ rems,xs.length ≤ 1000) → I q O1 T → S.next ≤ T.next → (∀ id,id < S.next → ¬ O id → T.heap id = S.heap id) → (∀ id,O1 id → O id ∨ S.next ≤ id) → (∀ p,left.a = some p → ¬ O1 p.1 ∧ p.1 < T.next) →
   ∃ S' O',Y2.L0 (disp k (n + 1)) H k f (.fn (.yield l) [] []) left T = some ((),S') ∧ S.next ≤ S'.next ∧ (∀ id,id < S.next → ¬ O id → S'.heap id = S.heap id) ∧ (∀ id,O' id → O id ∨ S.next ≤ id) ∧ (I W.length O' S' ∨ Stop O' S') := by
  intro f
  induction f with
  | zero => intro q O1 T ts rems h; omega
  | succ f ih =>
   intro q O1 T ts rems hf hq hL hR hrl hIT hn hk2 hO hlO
   have hrlen : rems.length ≤ 1000 := by rw [hR.1]; exact hl
   rw [Y2.L0,hL.slen]
   obtain ⟨n',b,eb,hb⟩ := Zai7 (D := disp k (n + 1)) (H := H) (y0 := .fn (.yield l) [] []) (r0 := Y2.L0 (disp k (n + 1)) H k f) (k := k) hL hrlen k 0 (-1) (by omega) (Yak _) (.inl ⟨rfl,fun j hj h => by omega⟩)
   rw [show ((0 : Nat) : Int) = 0 from rfl] at eb
   rw [eb,Y2.L1,if_neg (by omega)]
   rcases Zai9 hU hR hb with ⟨rfl,hend⟩ | ⟨j0,rfl,hj0,hlt,xs,hx⟩
   ·rw [if_pos (by omega)]
    obtain rfl : q = W.length := by omega
    exact ⟨T,O1,rfl,hn,hk2,hO,.inl hIT⟩
   ·have hll := hL.len
    obtain ⟨ad,a1,a2⟩ := hL.at_ (j := j0) (by omega)
    have hrow := hL.rows j0 (by omega) hj0
    rw [hx] at hrow
    obtain ⟨ad1,c1,c2⟩ := Zadz hrow
    rw [if_neg (by omega),a1,obs,a2,obs,c1,obs,c2,obs,hL.slen]
    obtain ⟨n2,T2,ts2,ed,hL2,hn2,hkd⟩ := Zai8 (D := disp k (n + 1)) (H := H) (y0 := .fn (.yield l) [] []) (r0 := Y2.L0 (disp k (n + 1)) H k f) (k := k) (x := W[q]) (S0 := T) hrlen hrl hKl k 0 T ts (by omega) (Yak _) (by simpa using hL) rfl (fun _ _ => rfl)
    rw [show ((0 : Nat) : Int) = 0 from rfl] at ed
    rw [ed,Y2.L4,if_neg (by omega)]
    have hI2 : I q O1 T2 := ht.keep q O1 T T2 hIT (fun id ho => hkd id fun p hp e => (hlO p hp).1 (e ▸ ho)) (by omega)
    obtain ⟨b,T3,O3,e3,n3,k3,o3,g1,g2⟩ := ht.step q (by omega) O1 T2 hI2
    have he : disp k (n + 1) H (.fn (.yield l) [] []) [.int .i64 W[q]] T2 = some (.bool b,T3) := by
     rw [Zzx,← e3,Yaj]; rfl
    have hk3 : ∀ id,id < S.next → ¬ O id → T3.heap id = S.heap id := fun id h1 h2 => by
     rw [k3 id (by omega) (fun ho => (hO id ho).elim h2 (fun h => by omega)),hkd id (fun p hp e => by have := hleft p hp; omega)]
     exact hk2 id h1 h2
    have hO3 : ∀ id,O3 id → O id ∨ S.next ≤ id := fun id h => (o3 id h).elim (hO id) (fun h => .inr (by omega))
    rw [he,obs]
    simp only [dB,obs]
    cases b with
    | false => exact ⟨T3,O3,rfl,by omega,hk3,hO3,.inr (g2 rfl)⟩
    | true =>
     rw [if_neg (by simp)]
     have hKT : ∀ id,K id → T3.heap id = T2.heap id := fun id hid => k3 id (by have := (hB id hid).2.2; omega) (fun ho => (hO id ho).elim (hB id hid).2.1 (fun h => by have := (hB id hid).2.2; omega))
     refine ih (q + 1) O3 T3 ts2 (rems.map (Zz8 W[q])) (by omega) (by omega) (hL2.keep (fun p hp => k3 p.1 (by have := (hlO p hp).2; omega) (hlO p hp).1) hKT n3) (rem_drop hR hU.srt hlt) (fun xs hxs => ?_) (g1 rfl) (by omega) hk3 hO3 (fun p hp => ⟨fun ho => ?_,by have := (hlO p hp).2; omega⟩)
     ·obtain ⟨ys,hys,rfl⟩ := Ya0.1 hxs
      have := hrl ys hys
      unfold Zz8
      split
      ·exact this
      ·split
       ·simp at this; omega
       ·exact this
     ·rcases o3 p.1 ho with h | h
      ·exact (hlO p hp).1 h
      ·have := (hlO p hp).2; omega
 obtain ⟨S',O',e,h1,h2,h3,h4⟩ := hloop k 0 O S1 sls vals (by omega) (Yak _) hL1 ⟨rfl,fun j hj hj' => ⟨(hv _ (Yae hj)).1,fun v => ⟨fun h => ⟨h,by rw [List.drop_zero]; exact (hU.mem v).2 ⟨_,Yae hj,h⟩⟩,fun h => h.1⟩⟩⟩ (fun xs hxs => (hv xs hxs).2) hI1 n1 (fun id hid _ => f1.eq id hid) (fun id ho => .inl ho) (fun p hp => ⟨fun ho => by have := ht.lt 0 O S hI p.1 ho; have := hleft p hp; omega,(v1.lo p hp).2⟩)
 refine ⟨S',O',?_,h1,h2,h3,by rw [hlenW]; exact h4⟩
 rw [Zzq]
 have e' : Zabk (disp k (n + 1)) H k ([] ++ [HV.fn (.yield l) [] []] ++ [.ptr (some (HA.cell0 c))]) S = some (.tup [],S') := by
  rw [Zabk]
  simp only [Yay,List.cons_append,Zaa6,obs,dF,dP]
  rw [Y2.f,obs,Zym hcS,obs,e1,obs]
  erw [e]
  rfl
 repeat rw [if_neg (by decide)]
 rw [if_pos rfl,e']
end KI
namespace KI
theorem ldF_cell {S : HS} {id : Nat} {f : Fn} {u v : List HV} {b : Bool} (h : S.heap id = .cells 1 [[.fn f u v]] b) : S.ldF (HA.cell0 id) = some (.fn f u v) := by rw [HS.ldF,Zaal h]; rfl
abbrev wof (x : Ky) (xs : List Ky) : List Ky := xs.filter fun y => !decide (y = x)
theorem Zago {x : Ky} {xs : List Ky} {i : Nat} (hi : i < xs.length) : wof x (xs.take (i + 1)) = wof x (xs.take i) ++ (if xs[i] = x then [] else [xs[i]]) := by
 rw [wof,Yaf hi,Ybh]
 congr 1
 by_cases h : xs[i] = x <;> simp [h]
theorem wof_at {x : Ky} {xs : List Ky} {i : Nat} (hi : i < xs.length) (hne : xs[i] ≠ x) : ∃ h : (wof x (xs.take i)).length < (wof x xs).length,(wof x xs)[(wof x (xs.take i)).length] = xs[i] := by
 have e : wof x xs = wof x (xs.take i) ++ xs[i] :: wof x (xs.drop (i + 1)) := by
  conv => lhs; rw [wof,← Yas i xs,Ybh,Yal hi,List.filter_cons]
  simp [hne]
 refine ⟨by rw [e]; simp,?_⟩
 simp only [e]
 rw [Ya4 (Yaa _)]
 simp
theorem Zae1 {k n a c : Nat} {B : HS} {fn : Fn} {u v : List HV} {x : Ky} {xs : List Ky} {K : Nat → Prop} (hT : ∀ S : HS,(∀ id,K id → S.heap id = B.heap id ∧ id < S.next) → Tells (disp k (n + 1)) (.fn fn u v) (xs.map row1) K S)
  (hK : ∀ id,K id → id < B.next) (hac : a < B.next ∧ c < B.next ∧ ¬ K a ∧ ¬ K c) (ha : B.heap a = .cells 1 [[.fn fn u v]] true) (hc : B.heap c = .cells 1 [[.int .i64 x]] true) :
  Tells (disp k (n + 2)) (.fn (.func 86) [] [.ptr (some (HA.cell0 a)),.ptr (some (HA.cell0 c))]) ((wof x xs).map row1) (fun id => id = a ∨ id = c ∨ K id) B := by
 intro H l I Stop ht O S hI hB
 have hOlt := ht.lt 0 O S hI
 have f1 : Fr S.next S (S.new (.cells 1 [[.fn (.yield l) [] []]] true)) := Fr.new (Yaa _) _
 have n1 : (S.new (.cells 1 [[.fn (.yield l) [] []]] true)).next = S.next + 1 := rfl
 have y1 : (S.new (.cells 1 [[.fn (.yield l) [] []]] true)).heap S.next = .cells 1 [[.fn (.yield l) [] []]] true := Zxv _ _
 have cA := hB a (.inl rfl)
 have cC := hB c (.inr (.inl rfl))
 rw [Zzq]
 repeat rw [if_neg (by decide)]
 rw [if_pos rfl,Zack]
 simp only [Yay,List.cons_append,args3,obs,dF,dP]
 rw [Y30.f,show dF (.fn (.yield l) [] []) = some (.fn (.yield l) [] []) from rfl,obs,letv,obs]
 generalize S.new (.cells 1 [[.fn (.yield l) [] []]] true) = S1 at f1 n1 y1 ⊢
 have a1 : S1.heap a = .cells 1 [[.fn fn u v]] true := (f1.eq a cA.2.2).trans (cA.1.trans ha)
 have c1 : S1.heap c = .cells 1 [[.int .i64 x]] true := (f1.eq c cC.2.2).trans (cC.1.trans hc)
 rw [ldF_cell a1,obs,show HV.isNilFn (HV.fn fn u v) = some false from rfl,obs,if_neg (by simp),obs,ldF_cell a1,obs]
 have hlen : (xs.map row1).length = xs.length := by simp
 have hwl : ((wof x xs).map row1).length = (wof x xs).length := by simp
 let OX : (Nat → Prop) → Nat → Prop := fun O1 id => O1 id ∨ id = c ∨ id = S.next
 -- what the rounds keep
 obtain ⟨T2,st,S',O',e2,e3,de,n5,ch,lt,hn,hs⟩ := Zz3 (D := disp k (n + 1)) (H := H) (fv := .fn fn u v) (S := S1) (hd := fun vs T =>
   Option.bind (HS.lp T (S1.next + 1)) fun _ => Option.bind (Zzn vs) fun ar => Option.bind (dI .i64 ar) fun p => Y30.J0 (disp k (n + 1)) H (S1.next + 1) (some (HA.cell0 c)) (some (HA.cell0 S.next)) p T)
  (bd := fun i U => if h : i < xs.length then Option.bind (U.ldI .i64 (HA.cell0 c)) fun p12 => if (!decide (xs[i] = p12)) = true then Option.bind (U.ldF (HA.cell0 S.next)) fun p15 => Option.bind (disp k (n + 1) H p15 [(.int .i64 xs[i])] U) fun p16 => Option.bind (dB p16.1) fun p17 => Y30.J1 (disp k (n + 1)) H (S1.next + 1) (!p17) p16.2 else Y30.J1 (disp k (n + 1)) H (S1.next + 1) false U else none)
  (hT S1 (fun id h => ⟨(f1.eq id (hB id (.inr (.inr h))).2.2).trans (hB id (.inr (.inr h))).1,by have := (hB id (.inr (.inr h))).2.2; omega⟩)) (fun id h => by have := (hB id (.inr (.inr h))).2.2; omega)
  (fun i O2 T => ∃ O1,(∀ id,O2 id ↔ OX O1 id) ∧ ¬ O1 c ∧ ¬ O1 S.next ∧ I (wof x (xs.take i)).length O1 T ∧ T.heap c = .cells 1 [[.int .i64 x]] true ∧ T.heap S.next = .cells 1 [[.fn (.yield l) [] []]] true ∧ S1.next ≤ T.next)
  (fun cd O2 T => ∃ O1,(∀ id,O2 id ↔ OX O1 id) ∧ ¬ O1 c ∧ ¬ O1 S.next ∧ Stop O1 T ∧ T.heap c = .cells 1 [[.int .i64 x]] true ∧ cd = .ret)
  (fun i O2 T T' ⟨O1,g1,g2,g3,g4,g5,g6,g7⟩ hk hn => ⟨O1,g1,g2,g3,ht.keep _ _ _ _ g4 (fun id ho => hk id ((g1 id).2 (.inl ho))) hn,(hk _ ((g1 _).2 (.inr (.inl rfl)))).trans g5,(hk _ ((g1 _).2 (.inr (.inr rfl)))).trans g6,by omega⟩)
  (fun cd O2 T T' ⟨O1,g1,g2,g3,g4,g5,g6⟩ hk hn => ⟨O1,g1,g2,g3,ht.keepS _ _ _ g4 (fun id ho => hk id ((g1 id).2 (.inl ho))) hn,(hk _ ((g1 _).2 (.inr (.inl rfl)))).trans g5,g6⟩)
  (OX O) (fun id h => by
   rcases h with g | g | g
   ·have := hOlt id g; omega
   ·have := cC.2.2; omega
   ·omega)
  ⟨O,fun _ => Iff.rfl,cC.2.1,fun h => by have := hOlt _ h; omega,by rw [List.take_zero]; exact ht.keep 0 O S S1 hI (fun id ho => f1.eq id (hOlt id ho)) f1.le,c1,y1,Yaa _⟩
  (fun id h hk' => by
   rcases h with g | g | g
   ·exact (hB id (.inr (.inr hk'))).2.1 g
   ·exact hac.2.2.2 (g ▸ hk')
   ·have := (hB id (.inr (.inr hk'))).2.2; omega)
  (fun i hi T h => by
   have hi' : i < xs.length := by simpa using hi
   rw [Zafi h,obs,Yaj,show Zzn (row1 xs[i]) = some (kv xs[i]) from rfl,obs,show dI .i64 (kv xs[i]) = some xs[i] from dI_at _,obs,Y30.J0,Zaam h,obs,obs,dif_pos hi']
   rfl)
  (fun i hi O2 U ⟨O1,g1,g2,g3,g4,g5,g6,g7⟩ hn2 hl hno hlt => by
   have hi' : i < xs.length := by simpa using hi
   rw [dif_pos hi',Zadl g5,obs]
   by_cases hx : xs[i] = x
   ·rw [if_neg (by simp [hx]),Y30.J1,if_neg (by simp)]
    refine ⟨U,O2,none,rfl,Chg.refl _ _,hlt,fun _ => ⟨O1,g1,g2,g3,?_,g5,g6,g7⟩,fun c h => by cases h⟩
    rw [Zago hi',if_pos hx,Ya7]; exact g4
   ·obtain ⟨w1,w2⟩ := wof_at hi' hx
    obtain ⟨b,T3,O3,e3,n3,k3,o3,p1,p2⟩ := ht.step (wof x (xs.take i)).length (by simpa using w1) O1 U g4
    have he : disp k (n + 1) H (.fn (.yield l) [] []) [.int .i64 xs[i]] U = some (.bool b,T3) := by
     rw [Zzx,← e3]
     simp only [Yaj,w2]
     rfl
    have lt3 : ∀ id,O3 id → id < T3.next := fun id ho => by
     cases b with
     | true => exact ht.lt _ _ _ (p1 rfl) id ho
     | false => exact ht.ltS _ _ (p2 rfl) id ho
    have hno3 : ∀ id,id < U.next → ¬ O1 id → ¬ O3 id := fun id q1 q2 q3 => by
     rcases o3 id q3 with g | g
     ·exact q2 g
     ·omega
    have hcU : c < U.next := by have := cC.2.2; omega
    have c3 : T3.heap c = .cells 1 [[.int .i64 x]] true := (k3 c hcU g2).trans g5
    have s3 : T3.heap S.next = .cells 1 [[.fn (.yield l) [] []]] true := (k3 _ (by omega) g3).trans g6
    have hch : Chg O2 (OX O3) U T3 := ⟨n3,fun id q1 q2 => k3 id q1 (fun h => q2 ((g1 id).2 (.inl h))),fun id ho => by
     rcases ho with h | h
     ·exact (o3 id h).elim (fun g => .inl ((g1 id).2 (.inl g))) .inr
     ·exact .inl ((g1 id).2 (.inr h))⟩
    have hlt3 : ∀ id,OX O3 id → id < T3.next := fun id ho => by
     rcases ho with h | h | h
     ·exact lt3 id h
     ·omega
     ·omega
    rw [if_pos (by simpa using hx),ldF_cell g6,obs,he,obs]
    simp only [dB,obs]
    cases b with
    | true =>
     rw [Y30.J1,if_neg (by simp)]
     refine ⟨T3,OX O3,none,rfl,hch,hlt3,fun _ => ⟨O3,fun _ => Iff.rfl,hno3 c hcU g2,hno3 _ (by omega) g3,?_,c3,s3,by omega⟩,fun c h => by cases h⟩
     rw [Zago hi',if_neg hx,Ya3,List.length_singleton]; exact p1 rfl
    | false =>
     rw [Y30.J1,if_pos (by rfl)]
     refine ⟨T3,OX O3,some .ret,rfl,hch,hlt3,fun h => (by cases h),fun cd hcd => ⟨O3,fun _ => Iff.rfl,hno3 c hcU g2,hno3 _ (by omega) g3,p2 rfl,c3,by cases hcd; rfl⟩⟩)
 erw [e2]
 rw [obs]
 simp only [e3,obs]
 have hle := ch.le
 have fin : ∀ (S2 : HS) (O1 : Nat → Prop),(∀ id,O' id ↔ OX O1 id) → ¬ O1 c → ¬ O1 S.next → S'.heap c = .cells 1 [[.int .i64 x]] true → (∀ id,id ≠ S1.next → S2.heap id = S'.heap id) → S2.next = S'.next →
   S.next ≤ S2.next ∧ (∀ id,id < S.next → ¬ O id → S2.heap id = S.heap id) ∧ (∀ id,O1 id → O id ∨ S.next ≤ id) := fun S2 O1 h1 h2 h2' h3 h4 h5 => by
  refine ⟨by omega,fun id q1 q2 => ?_,fun id ho => ?_⟩
  ·rw [h4 id (by omega)]
   by_cases hc' : id = c
   ·subst hc'; rw [h3,cC.1,hc]
   ·rw [ch.eq id (by omega) (fun h => by
     rcases h with g | g | g
     ·exact q2 g
     ·exact hc' g
     ·omega),f1.eq id q1]
  ·rcases ch.own id ((h1 id).2 (.inl ho)) with g | g
   ·rcases g with g | g | g
    ·exact .inl g
    ·subst g; exact absurd ho h2
    ·exact .inr (by omega)
   ·exact .inr (by omega)
 cases hst : st with
 | none =>
  obtain ⟨O1,g1,g2,g3,g4,g5,g6,g7⟩ := hn hst
  rw [hlen,Yao] at g4
  simp only [pcode,obs,if_true]
  simp only [HS.leave,de,obs]
  obtain ⟨q1,q2,q3⟩ := fin (S'.put S1.next .dead) O1 g1 g2 g3 g5 (fun id h => Zxd _ h) rfl
  exact ⟨_,O1,rfl,q1,q2,q3,.inl (by rw [hwl]; exact ht.keep _ _ _ _ g4 (fun id ho => Zxd _ (lt id ((g1 id).2 (.inl ho))).1) (Yaa _))⟩
 | some cd =>
  obtain ⟨O1,g1,g2,g3,g4,g5,g6⟩ := hs cd hst
  subst g6
  simp only [pcode,obs,if_true,if_false,show ¬ (1 : Nat) = 0 by decide]
  simp only [HS.leave,de,obs]
  obtain ⟨q1,q2,q3⟩ := fin (S'.put S1.next .dead) O1 g1 g2 g3 g5 (fun id h => Zxd _ h) rfl
  exact ⟨_,O1,rfl,q1,q2,q3,.inr (ht.keepS _ _ _ g4 (fun id ho => Zxd _ (lt id ((g1 id).2 (.inl ho))).1) (Yaa _))⟩
end KI
def mArg (e : MK.En) : List HV := [.agg (MK.enRow e)]
theorem Zaiy {k n c : Nat} {B : HS} {s : Sl} {xs : List MK.En} (hk : xs.length < k) (hx : xs.length ≤ 1000000) (hc : B.heap c = .cells 1 [[s.hv]] true) (hr : B.rows s 3 = some (xs.map MK.enRow)) (K : Nat → Prop) (hK : K c ∧ ∀ q,s.a = some q → K q.1) :
  Tells (disp k (n + 2)) (.fn (.func 113) [] [.ptr (some (HA.cell0 c))]) (xs.map mArg) K B := by
 intro H l I Stop ht O S hI hB
 have hlen : (xs.map mArg).length = xs.length := by simp
 have hcS : S.heap c = .cells 1 [[s.hv]] true := (hB c hK.1).1.trans hc
 have hrS : S.rows s 3 = some (xs.map MK.enRow) := Zx1 hr fun q hq => (hB q.1 (hK.2 q hq)).1
 have hloop : ∀ f i O1 T,xs.length - i < f → i ≤ xs.length → I i O1 T → S.next ≤ T.next → (∀ id,id < S.next → ¬ O id → T.heap id = S.heap id) → (∀ id,O1 id → O id ∨ S.next ≤ id) →
   ∃ S' O',Y62.L0 (disp k (n + 1)) H k f (.fn (.yield l) [] []) s (xs.length : Int) (i : Int) T = some ((),S') ∧ S.next ≤ S'.next ∧ (∀ id,id < S.next → ¬ O id → S'.heap id = S.heap id) ∧ (∀ id,O' id → O id ∨ S.next ≤ id) ∧ (I xs.length O' S' ∨ Stop O' S') := by
  intro f
  induction f with
  | zero => intro i O1 T h; omega
  | succ f ih =>
   intro i O1 T hf hi hIT hn hk2 hO
   rw [Y62.L0]
   by_cases hlt : i < xs.length
   ·have hrT : T.rows s 3 = some (xs.map MK.enRow) := Zx1 hrS fun q hq => hk2 q.1 (hB q.1 (hK.2 q hq)).2.2 (hB q.1 (hK.2 q hq)).2.1
    obtain ⟨ad,a1,a2,a3,a4⟩ := MK.en_rows hrT hlt
    rw [if_pos (by omega),a1,obs,a2,obs,a3,obs,a4,obs,letv]
    have hs0 : (T.new (.cells 3 [[.int .i64 0,.bool false,.bool false]] true)).sets (HA.cell0 T.next) [.int .i64 xs[i].1,.bool xs[i].2.1,.bool xs[i].2.2] = some ((T.new (.cells 3 [[.int .i64 0,.bool false,.bool false]] true)).put T.next (.cells 3 [[.int .i64 xs[i].1,.bool xs[i].2.1,.bool xs[i].2.2]] true)) := (Zyo (Zxv T _) rfl (by simp)).trans rfl
    have ft : Fr T.next T ((T.new (.cells 3 [[.int .i64 0,.bool false,.bool false]] true)).put T.next (.cells 3 [[.int .i64 xs[i].1,.bool xs[i].2.1,.bool xs[i].2.2]] true)) := (Fr.new (Yaa _) _).trans (Fr.put (Yaa _) _)
    have hcell : ((T.new (.cells 3 [[.int .i64 0,.bool false,.bool false]] true)).put T.next (.cells 3 [[.int .i64 xs[i].1,.bool xs[i].2.1,.bool xs[i].2.2]] true)).heap T.next = .cells 3 [[.int .i64 xs[i].1,.bool xs[i].2.1,.bool xs[i].2.2]] true := Zxs _ _ _
    rw [hs0,obs]
    generalize (T.new (.cells 3 [[.int .i64 0,.bool false,.bool false]] true)).put T.next (.cells 3 [[.int .i64 xs[i].1,.bool xs[i].2.1,.bool xs[i].2.2]] true) = T1 at ft hcell
    have hIT1 : I i O1 T1 := ht.keep i O1 T T1 hIT (fun id ho => ft.eq id (ht.lt i O1 T hIT id ho)) ft.le
    obtain ⟨b,T2,O2,e2,n2,k2,o2,g1,g2⟩ := ht.step i (by omega) O1 T1 hIT1
    have hle := ft.le
    have he : disp k (n + 1) H (.fn (.yield l) [] []) [.agg [.int .i64 xs[i].1,.bool xs[i].2.1,.bool xs[i].2.2]] T1 = some (.bool b,T2) := by
     rw [Zzx,← e2,Yaj]; rfl
    have hk3 : ∀ id,id < S.next → ¬ O id → T2.heap id = S.heap id := fun id h1 h2 => ((k2 id (by omega) (fun ho => (hO id ho).elim h2 (fun h => by omega))).trans (ft.eq id (by omega))).trans (hk2 id h1 h2)
    have hO3 : ∀ id,O2 id → O id ∨ S.next ≤ id := fun id h => (o2 id h).elim (hO id) (fun h => .inr (by omega))
    rw [Zx8 (Zxu hcell) rfl rfl,obs,Zaaf (Zxu hcell) rfl rfl,obs,Zaaf (Zxu hcell) rfl rfl,obs,he,obs]
    simp only [dB,obs]
    cases b with
    | false => exact ⟨T2,O2,rfl,by omega,hk3,hO3,.inr (g2 rfl)⟩
    | true =>
     rw [if_neg (by simp),Zx2 (by omega) (by omega),show ((i : Int) + 1) = ((i + 1 : Nat) : Int) by simp]
     exact ih (i + 1) O2 T2 (by omega) (by omega) (g1 rfl) (by omega) hk3 hO3
   ·obtain rfl : i = xs.length := by omega
    rw [if_neg (by omega)]
    exact ⟨T,O1,rfl,hn,hk2,hO,.inl hIT⟩
 obtain ⟨S',O',e,h1,h2,h3,h4⟩ := hloop k 0 O S (by omega) (Yak _) hI (Yaa _) (fun _ _ _ => rfl) (fun _ h => .inl h)
 refine ⟨S',O',?_,h1,h2,h3,by rw [hlen]; exact h4⟩
 rw [Zzq]
 have hsl : (s.len : Int) = xs.length := by rw [← Zx3 hrS]; simp
 have e' : Zaap (disp k (n + 1)) H k ([] ++ [HV.fn (.yield l) [] []] ++ [.ptr (some (HA.cell0 c))]) S = some (.tup [],S') := by
  rw [Zaap]
  simp only [Yay,List.cons_append,Zaa6,obs,dF,dP]
  rw [Y62.f,obs,Zym hcS,obs,hsl]
  erw [e]
  rfl
 repeat rw [if_neg (by decide)]
 rw [if_pos rfl,e']
theorem Zaey {n : Nat} {e : Rm} {S : HS} (h : RI e S) : ∃ c S' K,Y80.f (some (HA.cell0 e.p)) S = some (.fn (.func 113) [] [.ptr (some (HA.cell0 c))],S') ∧ Tells (disp 2000 (n + 2)) (.fn (.func 113) [] [.ptr (some (HA.cell0 c))]) (e.ms.map mArg) K S' ∧ (∀ id,K id → S.next ≤ id ∧ id < S'.next) ∧ Fr S.next S S' := by
 have hcnt := h.cnt
 have key : ∃ s' S1,Y87.f e.s S = some (s',S1) ∧ S1.rows s' 3 = some (e.ms.map MK.enRow) ∧ (∀ q,s'.a = some q → S.next ≤ q.1 ∧ q.1 < S1.next) ∧ Fr S.next S S1 := by
  rw [Y87.f]
  by_cases ha : e.s.a.isNone = true
  ·rw [if_pos ha]
   refine ⟨_,S,rfl,?_,fun q hq => (by cases hq),Fr.refl _ _⟩
   rw [h.ov.none (by simpa using ha)]; rfl
  ·rw [if_neg ha,letv]
   have hl := Vec.lit (n := S.next) (z := 3) (S := S) [] (Yaa _)
   have hr' : (S.lit [] 3).2.rows e.s 3 = some (e.ms.map MK.enRow) := (h.ov.rd.frame (Zyt [] (Yaa _)) (Yaa _)).rows
   obtain ⟨s',S1,e1,v1,f1⟩ := hl.app (new := e.ms.map MK.enRow) (Nat.le_succ _) (by simp; omega)
   rw [hr',obs,e1,obs]
   rw [Yay] at v1
   exact ⟨s',S1,rfl,v1.rows,v1.lo,(Zyt [] (Yaa _)).trans f1⟩
 obtain ⟨s',S1,e1,r1,q1,f1⟩ := key
 have l1 := f1.le
 have hrd : Rd S1.next S1 3 s' (e.ms.map MK.enRow) := ⟨r1,fun q hq => (q1 q hq).2⟩
 refine ⟨S1.next,S1.new (.cells 1 [[s'.hv]] true),fun id => id = S1.next ∨ ∃ q,s'.a = some q ∧ q.1 = id,?_,Zaiy (by omega) (by omega) (Zxv _ _) (hrd.frame (Fr.new (Yaa _) _) (Yaa _)).rows _ ⟨.inl rfl,fun q hq => .inr ⟨q,hq,rfl⟩⟩,fun id hid => ?_,f1.trans (Fr.new l1 _)⟩
 ·rw [Y80.f,if_neg (by simp),obs,h.ldS,obs,e1,obs,Y95.f,letv,obs]
 ·rcases hid with rfl | ⟨q,hq,rfl⟩
  ·exact ⟨l1,Yaw _⟩
  ·exact ⟨(q1 q hq).1,Nat.lt_succ_of_lt (q1 q hq).2⟩
theorem Zaft {T : HS} {l : Nat} {o c b : HObj} (h : l ≠ T.next) : ((T.new o).put T.next c).put l b = ((T.put l b).new o).put T.next c := by
 unfold HS.put HS.new HS.newM
 simp only [HS.mk.injEq]
 refine ⟨?_,trivial,trivial⟩
 funext id
 by_cases h1 : id = l
 ·subst h1; simp [h]
 ·by_cases h2 : id = T.next
  ·subst h2; simp [Ne.symm h]
  ·simp [h1,h2]
theorem Zaiw {e : Rm} {S : HS} (h : RI e S) : KI.Srt e.ids := by
 unfold Rm.ids KI.Srt
 rw [List.pairwise_map]
 exact h.srt.imp fun g => by rw [MK.cmpI_lt] at g; simpa [KI.klt] using g
theorem Zaew {n c q c2 : Nat} {H : Hd} {ids : List MK.En} {s0 : Sl} {S : HS} {K : Nat → Prop} (hT : Tells (disp 2000 (n + 2)) (.fn (.func 113) [] [.ptr (some (HA.cell0 c))]) (ids.map mArg) K S) (hK : ∀ y,K y → y < S.next) (hl : ids.length ≤ 900)
  (hs : KI.SI q s0 [] S) (hc : S.heap c2 = .cells 1 [[.ptr (some (HA.cell0 q))]] true) (hcl : c2 < S.next) (hcq : ¬ Own q s0 c2) (hKO : ∀ y,K y → y ≠ c2 ∧ ¬ Own q s0 y) :
  ∃ T2 S' s xs,disp 2000 (n + 2) (Hd.set H S.next fun vs T =>
    (Option.bind (HS.lp T S.next) fun u21 => (Option.bind (Zzn vs) fun ar16 => (Option.bind (dA3 ar16) fun p17 => (Option.bind (dI .i64 p17.1) fun p18 => (Option.bind (dB p17.2.1) fun p19 => (Option.bind (dB p17.2.2) fun p20 =>
     (Y12.J1 (disp 2000 (n + 2)) H 2000 S.next (some (HA.cell0 c2)) p18 p19 p20 T)))))))) (.fn (.func 113) [] [.ptr (some (HA.cell0 c))]) [.fn (.yield S.next) [] []] (S.new (.loop .ready none)) = some (.tup [],T2) ∧
   T2.finish S.next = some (none,S') ∧ KI.SI q s xs S' ∧ (∀ v,v ∈ xs ↔ v ∈ ids.map (fun m : MK.En => m.1)) ∧ S'.heap c2 = .cells 1 [[.ptr (some (HA.cell0 q))]] true ∧ S.next + 1 ≤ S'.next ∧ Chg (Own q s0) (Own q s) S S' := by
 obtain ⟨T2,st,S',O',e2,e3,n5,ch,lt,hnn,hq⟩ := Zaez (D := disp 2000 (n + 2)) (H := H) (fv := .fn (.func 113) [] [.ptr (some (HA.cell0 c))]) (S := S) (hd := fun vs T =>
    (Option.bind (HS.lp T S.next) fun u21 => (Option.bind (Zzn vs) fun ar16 => (Option.bind (dA3 ar16) fun p17 => (Option.bind (dI .i64 p17.1) fun p18 => (Option.bind (dB p17.2.1) fun p19 => (Option.bind (dB p17.2.2) fun p20 =>
     (Y12.J1 (disp 2000 (n + 2)) H 2000 S.next (some (HA.cell0 c2)) p18 p19 p20 T))))))))
  (bd := fun i U => if h : i < ids.length then
    letv ((U.new (.cells 3 [[.int .i64 0,.bool false,.bool false]] true)).put U.next (.cells 3 [[.int .i64 ids[i].1,.bool ids[i].2.1,.bool ids[i].2.2]] true)) fun p10 => Option.bind (p10.ldP (HA.cell0 c2)) fun p12 => Option.bind (p10.ldI .i64 (HA.fld (HA.cell0 U.next) 0)) fun p13 => letv (p10.lit [[.int .i64 p13]] 1) fun p14 => Option.bind (Y8.f 2000 p12 p14.1 p14.2) fun p15 => p15.2.endr S.next none else none)
  hT hK (fun i O U => ∃ s xs,KI.SI q s xs U ∧ xs.length ≤ i ∧ (∀ v,v ∈ xs ↔ v ∈ (ids.take i).map (fun m : MK.En => m.1)) ∧ U.heap c2 = .cells 1 [[.ptr (some (HA.cell0 q))]] true ∧ c2 < U.next ∧ ¬ Own q s c2 ∧ ∀ y,O y ↔ (y = c2 ∨ Own q s y)) (fun _ _ _ => False)
  (fun i O U U' ⟨s,xs,g1,g2,g3,g4,g5,g6,g7⟩ hk hn => ⟨s,xs,g1.keep (fun y ho => hk y ((g7 y).2 (.inr ho))) hn,g2,g3,(hk _ ((g7 _).2 (.inl rfl))).trans g4,by omega,g6,g7⟩) (fun _ _ _ _ h => h.elim)
  (fun y => y = c2 ∨ Own q s0 y) (fun y ho => by
   rcases ho with rfl | ho
   ·exact hcl
   ·exact hs.lt ho) ⟨s0,[],hs,Yaa _,by simp,hc,hcl,hcq,fun _ => Iff.rfl⟩ (fun y ho hk => by
   have := hKO y hk
   rcases ho with g | g
   ·exact this.1 g
   ·exact this.2 g)
  (fun i hi U hU hlU => by
   have hi' : i < ids.length := by simpa using hi
   rw [Zafi hU,obs,Yaj,show Zzn (mArg ids[i]) = some (.agg (MK.enRow ids[i])) from rfl,obs,show dA3 (HV.agg (MK.enRow ids[i])) = some (.int .i64 ids[i].1,.bool ids[i].2.1,.bool ids[i].2.2) from rfl,obs]
   simp only [dI_at,show ∀ b,dB (HV.bool b) = some b from fun _ => rfl,obs]
   have hs0 : (U.new (.cells 3 [[.int .i64 0,.bool false,.bool false]] true)).sets (HA.cell0 U.next) [.int .i64 ids[i].1,.bool ids[i].2.1,.bool ids[i].2.2] = some ((U.new (.cells 3 [[.int .i64 0,.bool false,.bool false]] true)).put U.next (.cells 3 [[.int .i64 ids[i].1,.bool ids[i].2.1,.bool ids[i].2.2]] true)) := (Zyo (Zxv U _) rfl (by simp)).trans rfl
   have hbu : ((U.new (.cells 3 [[.int .i64 0,.bool false,.bool false]] true)).put U.next (.cells 3 [[.int .i64 ids[i].1,.bool ids[i].2.1,.bool ids[i].2.2]] true)).heap S.next = .loop .ready none := by
    rw [Zxd _ (by omega),Zyn _ (by omega)]; exact hU
   rw [Y12.J1,letv,hs0,obs,Zaam hbu,obs,dif_pos hi',Zaft (by omega),obs]
   rfl)
  (fun i hi O1 U ⟨s,xs,g1,g2,g3,g4,g5,g6,g7⟩ hnu hlp hno hlt => by
   have hi' : i < ids.length := by simpa using hi
   rw [dif_pos hi',letv]
   have f1 : Fr U.next U ((U.new (.cells 3 [[.int .i64 0,.bool false,.bool false]] true)).put U.next (.cells 3 [[.int .i64 ids[i].1,.bool ids[i].2.1,.bool ids[i].2.2]] true)) := (Fr.new (Yaa _) _).trans (Fr.put (Yaa _) _)
   have c1 : ((U.new (.cells 3 [[.int .i64 0,.bool false,.bool false]] true)).put U.next (.cells 3 [[.int .i64 ids[i].1,.bool ids[i].2.1,.bool ids[i].2.2]] true)).heap U.next = .cells 3 [[.int .i64 ids[i].1,.bool ids[i].2.1,.bool ids[i].2.2]] true := Zxs _ _ _
   generalize (U.new (.cells 3 [[.int .i64 0,.bool false,.bool false]] true)).put U.next (.cells 3 [[.int .i64 ids[i].1,.bool ids[i].2.1,.bool ids[i].2.2]] true) = V at f1 c1 ⊢
   have l1 := f1.le
   have fl : Fr V.next V (V.lit [[.int .i64 ids[i].1]] 1).2 := Zyt _ (Yaa _)
   have l2 := fl.le
   have hlr : (V.lit [[.int .i64 ids[i].1]] 1).2.rows (V.lit [[.int .i64 ids[i].1]] 1).1 1 = some (([ids[i].1] : List KI.Ky).map KI.row1) := (Vec.lit (n := 0) (z := 1) (S := V) _ (Yak _)).rows
   rw [Zabs ((f1.eq _ g5).trans g4),obs,Zx8 (Zxu c1) rfl rfl,obs,letv]
   have hsV := (g1.fr f1).fr fl
   obtain ⟨s',xs',W,e1,r1,r2,r3,r4,r5⟩ := KI.add_spec (k := 2000) (ls := [ids[i].1]) (Yaa _) hsV hlr (fun p hp => by
    have : p = (V.next,0) := by simp [HS.lit] at hp; exact hp.symm
    subst this
    exact ⟨Yaw _,fun ho => by have := (g1.fr f1).lt ho; simp at this⟩) (by simp; omega)
   have l3 := r2.le
   rw [e1,obs]
   have hcw : W.heap c2 = .cells 1 [[.ptr (some (HA.cell0 q))]] true := by
    rw [r2.eq _ (by omega) g6,fl.eq _ (by omega),f1.eq _ g5]; exact g4
   have hno' : ¬ Own q s' c2 := fun g => (r2.own _ g).elim g6 (fun g => by omega)
   refine ⟨W,fun y => y = c2 ∨ Own q s' y,none,rfl,⟨by omega,fun y a1 a2 => ?_,fun y ho => ?_⟩,fun y ho => ?_,fun _ => ⟨s',xs',r1,by simp at r5; omega,fun v => ?_,hcw,by omega,hno',fun _ => Iff.rfl⟩,fun c h => by cases h⟩
   ·rw [r2.eq _ (by omega) (fun g => a2 ((g7 y).2 (.inr g))),fl.eq _ (by omega),f1.eq _ a1]
   ·rcases ho with g | g
    ·exact .inl ((g7 y).2 (.inl g))
    ·rcases r2.own y g with k | k
     ·exact .inl ((g7 y).2 (.inr k))
     ·exact .inr (by omega)
   ·rcases ho with rfl | g
    ·omega
    ·exact r1.lt g
   ·rw [r3,g3,Yaf hi',Yau,Yab,List.map_cons,List.map_nil])
 cases hst : st with
 | some cd => exact (hq cd hst).elim
 | none =>
  obtain ⟨s,xs,g1,g2,g3,g4,g5,g6,g7⟩ := hnn hst
  rw [hst] at e3
  refine ⟨T2,S',s,xs,e2,e3,g1,fun v => ?_,g4,n5,⟨ch.le,fun y a1 a2 => ?_,fun y ho => ?_⟩⟩
  ·rw [g3,Yaz (by simp)]
  ·by_cases hy : y = c2
   ·subst hy; rw [g4,hc]
   ·exact ch.eq y a1 (fun g => g.elim hy a2)
  ·rcases ch.own y ((g7 y).2 (.inr ho)) with (k | k) | k
   ·subst k; exact absurd ho g6
   ·exact .inl k
   ·exact .inr k
namespace KI
theorem UI.keepK {g : Nat} {su : Sl} {sls : List Sl} {vals : List (List Ky)} {S S' : HS} (h : UI g su sls vals S) (K : Nat → Prop) (h1 : ∀ q,su.a = some q → K q.1) (h2 : ∀ s ∈ sls,∀ q,s.a = some q → K q.1) (hk : ∀ id,K id → S'.heap id = S.heap id ∧ id < S'.next) : UI g su sls vals S' := by
 refine ⟨?_,h.len,fun j hj hj' => Zx1 (h.rows j hj hj') fun q hq => (hk _ (h2 _ (Yae hj) q hq)).1,fun j hj q hq => ?_⟩
 ·have hv := h.vec
  have hk' : ∀ q,su.a = some q → S'.heap q.1 = S.heap q.1 ∧ q.1 < S'.next := fun q hq => hk _ (h1 q hq)
  generalize sls.map (fun s => [s.hv]) = R at hv ⊢
  cases hv with
  | nil => exact .nil
  | open_ g1 g2 g3 => exact .open_ ((hk' _ rfl).1.trans g1) g2 (hk' _ rfl).2
  | capped g1 g2 g3 g4 g5 g6 => exact .capped ((hk' _ rfl).1.trans g1) g2 (hk' _ rfl).2 g4 g5 g6
 ·have := h.lo j hj q hq
  exact ⟨this.1,(hk _ (h2 _ (Yae hj) q hq)).2,this.2.2⟩
theorem uniW_tells {n : Nat} {sl : Sl} {ps : List (Option Nat)} {vals : List (List Ky)} {W : List Ky} {S : HS} {x : Int} (hs : Sets ps vals S) (hr : Rd S.next S 1 sl (ps.map ptrRow)) (hl : ps.length ≤ 1000) (hU : UnionOf W vals) (hW2 : W.length ≤ 1000) (hv : ∀ xs ∈ vals,Srt xs ∧ xs.length ≤ 1000) :
  ∃ fv S1 fn u v S2 K,Y46.f 2000 sl S = some (fv,S1) ∧ Y67.f fv x S1 = some (.fn fn u v,S2) ∧ Tells (disp 2000 (n + 3)) (.fn fn u v) ((wof x W).map row1) K S2 ∧ (∀ id,K id → S.next ≤ id ∧ id < S2.next) ∧ Fr S.next S S2 := by
 obtain ⟨su,sls,S1,e1,d1,u1,f1,n1⟩ := Zahl (k := 2000) (Yaa _) hs hr hl
 have hKlt : ∀ id,(id = S.next ∨ (∃ q,su.a = some q ∧ q.1 = id) ∨ ∃ s ∈ sls,∃ q,s.a = some q ∧ q.1 = id) → id < S1.next := fun id h => by
  rcases h with rfl | ⟨q,h,rfl⟩ | ⟨s,hs,q,h,rfl⟩
  ·omega
  ·exact (u1.vec.lo q h).2
  ·obtain ⟨j,hj,rfl⟩ := Yag hs
   exact (u1.lo j hj q h).2.1
 have hx : ∃ S2,Y67.f (.fn (.func 88) [] [.ptr (some (HA.cell0 S.next))]) x S1 = some (.fn (.func 86) [] [.ptr (some (HA.cell0 S1.next)),.ptr (some (HA.cell0 (S1.next + 1)))],S2) ∧ S2.next = S1.next + 2 ∧ Fr S1.next S1 S2 ∧ S2.heap S1.next = .cells 1 [[.fn (.func 88) [] [.ptr (some (HA.cell0 S.next))]]] true ∧ S2.heap (S1.next + 1) = .cells 1 [[.int .i64 x]] true := by
  rw [Y67.f,show dF (.fn (.func 88) [] [.ptr (some (HA.cell0 S.next))]) = some (.fn (.func 88) [] [.ptr (some (HA.cell0 S.next))]) from rfl,obs,letv,letv]
  exact ⟨_,rfl,rfl,(Fr.new (Yaa _) _).trans (Fr.new (by rw [Zxz]; omega) _),by rw [Zyn _ (by rw [Zxz]; omega)]; exact Zxv _ _,Zxv (S1.new _) _⟩
 obtain ⟨S2,e2,n2,f2,a2,c2⟩ := hx
 have hT := Zae1 (k := 2000) (n := n + 1) (B := S2) (x := x) (xs := W) (K := fun id => id = S.next ∨ (∃ q,su.a = some q ∧ q.1 = id) ∨ ∃ s ∈ sls,∃ q,s.a = some q ∧ q.1 = id) (fn := .func 88) (u := []) (v := [.ptr (some (HA.cell0 S.next))]) (a := S1.next) (c := S1.next + 1)
  (fun T hT => Zafy (k := 2000) (n := n) (c := S.next) (W := W) (Yaa _) hU hW2 (by rw [← hs.1]; exact hl) hv ((hT _ (.inl rfl)).1.trans ((f2.eq _ n1).trans d1)) (u1.keepK (fun id => id = S.next ∨ (∃ q,su.a = some q ∧ q.1 = id) ∨ ∃ s ∈ sls,∃ q,s.a = some q ∧ q.1 = id) (fun q hq => .inr (.inl ⟨q,hq,rfl⟩)) (fun s hs q hq => .inr (.inr ⟨s,hs,q,hq,rfl⟩)) (fun id h => ⟨(hT id h).1.trans (f2.eq id (hKlt id h)),(hT id h).2⟩))
   _ (.inl rfl) (fun q hq => .inr (.inl ⟨q,hq,rfl⟩)) (fun s hs q hq => .inr (.inr ⟨s,hs,q,hq,rfl⟩)))
  (fun id h => by have := hKlt id h; omega) ⟨by omega,by omega,fun h => by have := hKlt _ h; omega,fun h => by have := hKlt _ h; omega⟩ a2 c2
 refine ⟨_,S1,_,_,_,S2,_,e1,e2,hT,fun id h => ?_,f1.trans (f2.mono (by omega))⟩
 rcases h with rfl | rfl | h
 ·omega
 ·omega
 ·have h2 := hKlt id h
  refine ⟨?_,by omega⟩
  rcases h with rfl | ⟨q,h,rfl⟩ | ⟨s,hs,q,h,rfl⟩
  ·exact Yaa _
  ·have := (u1.vec.lo q h).1; omega
  ·obtain ⟨j,hj,rfl⟩ := Yag hs
   have := (u1.lo j hj q h).1; omega
end KI
theorem Zadx {x : W} {t : T} {S : HS} (h : RsI x t S) (id : Int) : ∀ xs : List KS.Ky,(∀ v ∈ xs,(id,v) ∈ t.L) → ∃ es : List Rm,es.map Rm.key = xs ∧ xs.map (Zabe t.R) = es.map (fun e => some (HA.cell0 e.p)) ∧ ∀ e ∈ es,e ∈ t.R ∧ id ∈ e.ids
 | [],_ => ⟨[],rfl,rfl,fun e he => by cases he⟩
 | v :: xs,hm => by
  obtain ⟨es,h1,h2,h3⟩ := Zadx h id xs (fun v hv => hm v (Ybb _ hv))
  obtain ⟨e,he,k1,k2⟩ := (h.link _ _).1 (hm v (by simp))
  refine ⟨e :: es,by rw [List.map_cons,h1,k1],by rw [List.map_cons,List.map_cons,h2,← k1,Zagl h he],fun y hy => ?_⟩
  rcases Yac.1 hy with rfl | hy
  ·exact ⟨he,k2⟩
  ·exact h3 y hy
structure Gp (b : Nat) (sts : List (Nat × Sl)) (vs : List (List Int)) (sl : Sl) (U : HS) : Prop where
 co : U.heap b = .cells 1 [[sl.hv]] true
 vec : Vec (b + 1) U 1 sl ((sts.map fun p => some (HA.cell0 p.1)).map PK.row1)
 len : sts.length = vs.length
 si : ∀ j (h : j < sts.length) (h' : j < vs.length),KI.SI sts[j].1 sts[j].2 vs[j] U
 lo : ∀ p ∈ sts,∀ y,Own p.1 p.2 y → b + 1 ≤ y ∧ ∀ q,sl.a = some q → q.1 ≠ y
 nx : b + 1 ≤ U.next
def Op (b : Nat) (sts : List (Nat × Sl)) (sl : Sl) (y : Nat) : Prop := y = b ∨ (∃ q,sl.a = some q ∧ q.1 = y) ∨ ∃ p ∈ sts,Own p.1 p.2 y
theorem Gp.keep {b : Nat} {sts : List (Nat × Sl)} {vs : List (List Int)} {sl : Sl} {U U' : HS} (h : Gp b sts vs sl U) (hk : ∀ y,Op b sts sl y → U'.heap y = U.heap y) (hn : U.next ≤ U'.next) : Gp b sts vs sl U' :=
 ⟨(hk _ (.inl rfl)).trans h.co,Zabc h.vec (fun q hq => hk _ (.inr (.inl ⟨q,hq,rfl⟩))) hn,h.len,fun j h1 h2 => (h.si j h1 h2).keep (fun y g => hk y (.inr (.inr ⟨_,Yae h1,g⟩))) hn,h.lo,Ya2 h.nx hn⟩
theorem Gp.lt {b : Nat} {sts : List (Nat × Sl)} {vs : List (List Int)} {sl : Sl} {U : HS} (h : Gp b sts vs sl U) {y : Nat} (ho : Op b sts sl y) : y < U.next := by
 rcases ho with rfl | ⟨q,hq,rfl⟩ | ⟨p,hp,g⟩
 ·have := h.nx; omega
 ·exact (h.vec.lo q hq).2
 ·obtain ⟨j,hj,rfl⟩ := Yag hp
  exact (h.si j hj (by have := h.len; omega)).lt g
theorem Zahi {x : W} {t : T} {S : HS} {nD : Nat} {H : Hd} (h : RsI x t S) (hn : t.n ≤ 200) (id : Int) {Wl : List KI.Ky} (hW : KI.Srt Wl) (hWm : ∀ v,v ∈ Wl ↔ ∃ e ∈ t.R,id ∈ e.ids ∧ v ∈ e.ids) (hWl : Wl.length ≤ 1000) :
  ∃ fn u v S' K,Y12.f (disp 2000 (nD + 3)) H 2000 (some (HA.cell0 x.w)) id S = some (.fn fn u v,S') ∧ Tells (disp 2000 (nD + 3)) (.fn fn u v) ((KI.wof id Wl).map KI.row1) K S' ∧ (∀ y,K y → S.next ≤ y ∧ y < S'.next) ∧ Fr S.next S S' := by
 obtain ⟨xs,hs,hm,hxl,_⟩ := h.rel.at1 id
 obtain ⟨es,q1,q2,q3⟩ := Zadx h id xs (fun v hv => (hm v).1 hv)
 have hel : es.length = xs.length := by rw [← q1]; simp
 rw [Y12.f,letv]
 have f0 : Fr S.next S (S.new (.cells 1 [[Sl.nil.hv]] true)) := Fr.new (Yaa _) _
 have c0 : (S.new (.cells 1 [[Sl.nil.hv]] true)).heap S.next = .cells 1 [[Sl.nil.hv]] true := Zxv _ _
 have n0 : (S.new (.cells 1 [[Sl.nil.hv]] true)).next = S.next + 1 := rfl
 generalize S.new (.cells 1 [[Sl.nil.hv]] true) = S0 at f0 c0 n0 ⊢
 have h0 := h.fr f0
 obtain ⟨c,so,S1,e1,k1,k2,k3,k4,f1⟩ := of_spec (nD := nD + 1) (H := H) h0 hn id hs hm
 have l1 := f1.le
 have h1 := h0.fr f1
 rw [e1,obs]
 rw [q2] at k2
 have hTl : Tells (disp 2000 (nD + 3)) (.fn (.func 63) [] [.ptr (some (HA.cell0 c))]) ((es.map fun e => some (HA.cell0 e.p)).map PK.row1) (fun y => y = c ∨ ∃ q,so.a = some q ∧ q.1 = y) S1 :=
  PK.of_tells (n := nD + 1) (by simp; omega) (by simp; omega) k1 k2 _ ⟨.inl rfl,fun q hq => .inr ⟨q,hq,rfl⟩⟩
 have hK : ∀ y,(y = c ∨ ∃ q,so.a = some q ∧ q.1 = y) → S0.next ≤ y ∧ y < S1.next := fun y g => by
  rcases g with rfl | ⟨q,hq,rfl⟩
  ·exact k3
  ·exact k4 q hq
 have hOS : ∀ y,OA x t y → y < S.next := fun y ho => h.ltO ho
 have hlen : ((es.map fun e => some (HA.cell0 e.p)).map PK.row1).length = es.length := by simp
 obtain ⟨T2,st,S',O',e2,e3,de,n5,ch,lt,hnn,hq'⟩ := Zz3 (D := disp 2000 (nD + 3)) (H := H) (fv := .fn (.func 63) [] [.ptr (some (HA.cell0 c))]) (S := S1) (hd := fun vs T =>
   Option.bind (HS.lp T (S1.next + 1)) fun u37 => Option.bind (Zzn vs) fun ar35 => Option.bind (dP ar35) fun p36 => Y12.J0 (disp 2000 (nD + 3)) H 2000 (S1.next + 1) (some (HA.cell0 S.next)) p36 T)
  (bd := fun i U => if hi : i < es.length then (Y12.J0 (disp 2000 (nD + 3)) H 2000 (S1.next + 1) (some (HA.cell0 S.next)) (some (HA.cell0 es[i].p)) (U.put (S1.next + 1) (.loop .ready none))) else none)
  hTl (fun y g => (hK y g).2) (fun i O U => ∃ sts sl,Gp S.next sts ((es.take i).map Rm.ids) sl U ∧ (∀ y,OA x t y → U.heap y = S.heap y) ∧ (∀ y,O y ↔ (Op S.next sts sl y ∨ OA x t y))) (fun _ _ _ => False)
  (fun i O U U' ⟨sts,sl,a1,a2,a3⟩ hk hn => ⟨sts,sl,a1.keep (fun y ho => hk y ((a3 y).2 (.inl ho))) hn,fun y ho => (hk y ((a3 y).2 (.inr ho))).trans (a2 y ho),a3⟩) (fun _ _ _ _ h => h.elim)
  (fun y => Op S.next [] Sl.nil y ∨ OA x t y) (fun y ho => by
   rcases ho with (rfl | ⟨q,hq,_⟩ | ⟨p,hp,_⟩) | ho
   ·omega
   ·cases hq
   ·cases hp
   ·have := hOS y ho; omega)
  ⟨[],Sl.nil,⟨(f1.eq _ (by omega)).trans c0,.nil,rfl,fun j hj => (by cases hj),fun p hp => (by cases hp),by omega⟩,fun y ho => (f1.eq y (by have := hOS y ho; omega)).trans (f0.eq y (hOS y ho)),fun _ => Iff.rfl⟩
  (fun y ho g => by
   have := hK y g
   rcases ho with (rfl | ⟨q,hq,_⟩ | ⟨p,hp,_⟩) | ho
   ·omega
   ·cases hq
   ·cases hp
   ·have := hOS y ho; omega)
  (fun i hi U hU => by
   have hi' : i < es.length := by simpa using hi
   rw [Zafi hU,obs,Yaj,Yaj,show Zzn (PK.row1 (some (HA.cell0 es[i].p))) = some (.ptr (some (HA.cell0 es[i].p))) from rfl,obs,show dP (HV.ptr (some (HA.cell0 es[i].p))) = some (some (HA.cell0 es[i].p)) from rfl,obs,dif_pos hi']
   have : (U.put (S1.next + 1) (.loop .busy none)).put (S1.next + 1) (.loop .ready none) = U := by
    unfold HS.put
    simp only
    congr 1
    funext y
    by_cases hy : y = S1.next + 1
    ·subst hy; simp [hU]
    ·simp [hy]
   rw [this])
  (fun i hi O1 U ⟨sts,sl,a1,a2,a3⟩ hnu hl hno hlt => by
   have hi' : i < es.length := by simpa using hi
   have hUb : (U.put (S1.next + 1) (.loop .ready none)).put (S1.next + 1) (.loop .busy none) = U := by
    unfold HS.put
    simp only
    congr 1
    funext y
    by_cases hy : y = S1.next + 1
    ·subst hy; simp [hl]
    ·simp [hy]
   rw [dif_pos hi',Y12.J0,Zaam (Zxs _ _ _),hUb,obs]
   have hmem := q3 es[i] (Yae hi')
   have hU : RsI x t U := h.keep a2 (by omega)
   obtain ⟨s0,ys,U1,e4,b1,fu1,b2,b3,b4⟩ := KI.of_spec (k := 2000) (sl := Sl.nil) (ls := []) (S := U) (Yaa _) (by exact ⟨rfl,fun q hq => by cases hq⟩) (by simp)
   have hys : ys = [] := Yax.1 (by simpa using b4)
   subst hys
   rw [e4,obs,letv]
   have lu1 := fu1.le
   simp only
   have hs0 : (U1.new (.cells 1 [[.ptr none]] true)).sets (HA.cell0 U1.next) [.ptr (some (HA.cell0 U.next))] = some ((U1.new (.cells 1 [[.ptr none]] true)).put U1.next (.cells 1 [[.ptr (some (HA.cell0 U.next))]] true)) := Zzb _ (Zxv _ _)
   rw [hs0,obs]
   have fu2 : Fr U1.next U1 ((U1.new (.cells 1 [[.ptr none]] true)).put U1.next (.cells 1 [[.ptr (some (HA.cell0 U.next))]] true)) := (Fr.new (Yaa _) _).trans (Fr.put (Yaa _) _)
   have c2 : ((U1.new (.cells 1 [[.ptr none]] true)).put U1.next (.cells 1 [[.ptr (some (HA.cell0 U.next))]] true)).heap U1.next = .cells 1 [[.ptr (some (HA.cell0 U.next))]] true := Zxs _ _ _
   have n2 : ((U1.new (.cells 1 [[.ptr none]] true)).put U1.next (.cells 1 [[.ptr (some (HA.cell0 U.next))]] true)).next = U1.next + 1 := rfl
   generalize (U1.new (.cells 1 [[.ptr none]] true)).put U1.next (.cells 1 [[.ptr (some (HA.cell0 U.next))]] true) = U2 at fu2 c2 n2 ⊢
   have hU2 := (hU.fr fu1).fr fu2
   obtain ⟨cm,U3,K,e5,hTm,hKm,fu3⟩ := Zaey (n := nD + 1) (hU2.rooms _ hmem.1)
   have lu3 := fu3.le
   have fr3 : Fr U.next U U3 := fu1.trans ((fu2.mono lu1).trans (fu3.mono (by omega)))
   rw [e5,obs,Zafi ((fr3.eq _ (by omega)).trans hl),obs]
   simp only
   have b1' := (b1.fr fu2).fr fu3
   have hOq : ∀ y,Own U.next s0 y → y < U1.next := fun y g => b1.lt g
   have hcnt := (h.rooms _ hmem.1).cnt
   obtain ⟨T3,U4,s,zs,e6,e7,d1,d2,d3,d4,d5⟩ := Zaew (n := nD + 1) (H := H) (c2 := U1.next) (q := U.next) (s0 := s0) hTm (fun y g => (hKm y g).2) (by omega) b1' ((fu3.eq _ (by omega)).trans c2) (by omega) (fun g => by have := hOq _ g; omega) (fun y g => ⟨by have := hKm y g; omega,fun g' => by have := hOq _ g'; have := hKm y g; omega⟩)
   erw [e6]
   rw [obs]
   simp only [e7,obs,pcode,if_true]
   have hzs : zs = es[i].ids := KI.srt_ext d1.srt (Zaiw (h.rooms _ hmem.1)) (fun v => by rw [d2]; rfl)
   subst hzs
   have a1' := a1.keep (U' := U3) (fun y ho => fr3.eq y (a1.lt ho)) fr3.le
   have l5 := d5.le
   have hold : ∀ y,y < U.next → U4.heap y = U.heap y := fun y hy => (d5.eq y (by omega) (fun g => by have := b2 y g; omega)).trans (fr3.eq y hy)
   have a4 : Gp S.next sts ((es.take i).map Rm.ids) sl U4 := a1.keep (fun y ho => hold y (a1.lt ho)) (by omega)
   have hsq : ∀ q,sl.a = some q → S.next + 1 ≤ q.1 ∧ q.1 < U.next := fun q hq => ⟨(a1.vec.lo q hq).1,(a1.vec.lo q hq).2⟩
   rw [Zym a4.co,obs,Zabs d3,obs,letv]
   obtain ⟨sl',T4,e8,lr,v4,f4,g4,o4⟩ := PK.app1_spec (n := S.next + 1) (xs := sts.map fun p => some (HA.cell0 p.1)) (some (HA.cell0 U.next)) a4.vec a4.nx (by have := a1.len; simp at this ⊢; omega)
   have l4 := f4.le
   rw [lr,obs,e8,obs]
   simp only
   have c4 : T4.heap S.next = .cells 1 [[sl.hv]] true := by rw [g4 _ (by omega) (fun q hq e => by have := hsq q hq; omega)]; exact a4.co
   rw [Zzb _ c4,obs]
   have hkk : ∀ y,y < U4.next → y ≠ S.next → (∀ q,sl.a = some q → q.1 ≠ y) → (T4.put S.next (.cells 1 [[sl'.hv]] true)).heap y = U4.heap y := fun y r1 r2 r3 => by rw [Zxd _ r2,g4 y r1 r3]
   have hown : ∀ y,Own U.next s y → U.next ≤ y := fun y g => by
    rcases d5.own y g with g' | g'
    ·exact b2 y g'
    ·omega
   have hsl' : ∀ q,sl'.a = some q → q.1 < U.next ∨ U4.next ≤ q.1 := fun q hq => by
    rcases o4 q hq with g | ⟨q0,g1,g2⟩
    ·exact .inr g
    ·exact .inl (by have := hsq q0 g1; omega)
   have hslk : ∀ q,sl'.a = some q → (∃ q0,sl.a = some q0 ∧ q0.1 = q.1) ∨ U4.next ≤ q.1 := fun q hq => by
    rcases o4 q hq with g | g
    ·exact .inr g
    ·exact .inl g
   have hlen1 := a1.len
   have hG : Gp S.next (sts ++ [(U.next,s)]) ((es.take (i + 1)).map Rm.ids) sl' (T4.put S.next (.cells 1 [[sl'.hv]] true)) := by
    have etk : (es.take (i + 1)).map Rm.ids = (es.take i).map Rm.ids ++ [es[i].ids] := by rw [Yaf hi',Yau]; rfl
    rw [etk]
    refine ⟨Zxs _ _ _,?_,by simp at hlen1 ⊢; omega,fun j j1 j2 => ?_,fun p hp y ho => ?_,by rw [Zxr]; omega⟩
    ·have : ((sts ++ [(U.next,s)]).map fun p => some (HA.cell0 p.1)) = (sts.map fun p => some (HA.cell0 p.1)) ++ [some (HA.cell0 U.next)] := by simp
     rw [this]
     exact v4.put_ne (fun q hq e => by have := (v4.lo q hq).1; omega)
    ·by_cases hj : j < sts.length
     ·rw [Ya5 hj,Ya5 (by omega)]
      have hsi := a4.si j hj (by omega)
      refine hsi.keep (fun y g => ?_) (by rw [Zxr]; omega)
      have hlo := a1.lo _ (Yae hj) y g
      exact hkk y (hsi.lt g) (by omega) hlo.2
     ·have hj2 : j = sts.length := by simp at j1; omega
      subst hj2
      rw [Ya4 (Yaa _),Ya4 (by omega)]
      have hi0 : sts.length - ((es.take i).map Rm.ids).length = 0 := by omega
      simp only [Nat.sub_self,hi0,List.getElem_cons_zero]
      refine d1.keep (fun y g => ?_) (by rw [Zxr]; omega)
      have := hown y g
      exact hkk y (d1.lt g) (by omega) (fun q hq e => by have := hsq q hq; omega)
    ·rcases Yab.1 hp with hp | hp
     ·have hlo := a1.lo p hp y ho
      refine ⟨hlo.1,fun q hq e => ?_⟩
      rcases hslk q hq with ⟨q0,g1,g2⟩ | g
      ·exact hlo.2 q0 g1 (g2.trans e)
      ·have := a1.lt (y := y) (.inr (.inr ⟨p,hp,ho⟩)); omega
     ·rw [Yaq] at hp
      subst hp
      have h1 := hown y ho
      have h2 := d1.lt ho
      refine ⟨by omega,fun q hq e => ?_⟩
      rcases hsl' q hq with g | g <;> omega
   have hw2 : ∀ y,OA x t y → (T4.put S.next (.cells 1 [[sl'.hv]] true)).heap y = S.heap y := fun y ho => by
    have hy := hOS y ho
    rw [hkk y (by omega) (by omega) (fun q hq e => by have := hsq q hq; omega),hold y (by omega)]
    exact a2 y ho
   refine ⟨_,fun y => Op S.next (sts ++ [(U.next,s)]) sl' y ∨ OA x t y,none,rfl,⟨by rw [Zxr]; omega,fun y r1 r2 => ?_,fun y ho => ?_⟩,fun y ho => ?_,fun _ => ⟨_,sl',hG,hw2,fun _ => Iff.rfl⟩,fun c h => by cases h⟩
   ·have hno : ¬ Op S.next sts sl y := fun g => r2 ((a3 y).2 (.inl g))
    rw [hkk y (by omega) (fun e => hno (.inl e)) (fun q hq e => hno (.inr (.inl ⟨q,hq,e⟩)))]
    exact hold y r1
   ·rcases ho with (rfl | ⟨q,hq,rfl⟩ | ⟨p,hp,g⟩) | ho
    ·exact .inl ((a3 _).2 (.inl (.inl rfl)))
    ·rcases hslk q hq with ⟨q0,g1,g2⟩ | g
     ·exact .inl ((a3 _).2 (.inl (.inr (.inl ⟨q0,g1,g2⟩))))
     ·exact .inr (by omega)
    ·rcases Yab.1 hp with hp | hp
     ·exact .inl ((a3 _).2 (.inl (.inr (.inr ⟨p,hp,g⟩))))
     ·rw [Yaq] at hp
      subst hp
      exact .inr (hown y g)
    ·exact .inl ((a3 _).2 (.inr ho))
   ·rcases ho with ho | ho
    ·exact hG.lt ho
    ·rw [Zxr]; have := hOS y ho; omega)
 erw [e2]
 rw [obs]
 simp only [e3,obs]
 have hle := ch.le
 cases hst : st with
 | some cd => exact (hq' cd hst).elim
 | none =>
  obtain ⟨sts,sl,a1,a2,a3⟩ := hnn hst
  rw [hlen,Yao] at a1
  simp only [pcode,obs,if_true]
  rw [Zym a1.co,obs]
  have hlen2 := a1.len
  simp at hlen2
  have hsets : KI.Sets (sts.map fun p => some p.1) (es.map Rm.ids) S' := ⟨by simp [hlen2],fun j j1 j2 => by
   have j1' : j < sts.length := by simpa using j1
   have := a1.si j j1' j2
   simp only [Yaj]
   exact ⟨sts[j].2,by simpa using this⟩⟩
  have hrd : Rd S'.next S' 1 sl ((sts.map fun p => some p.1).map KI.ptrRow) := by
   have : (sts.map fun p => some p.1).map KI.ptrRow = (sts.map fun p => some (HA.cell0 p.1)).map PK.row1 := by
    rw [Ybf,Ybf]; rfl
   rw [this]
   exact a1.vec.rd
  obtain ⟨fv,P1,fn,u,v,P2,K,g1,g2,g3,g4,g5⟩ := KI.uniW_tells (n := nD) (x := id) (W := Wl) hsets hrd (by simp; omega) ⟨hW,fun v => by
   rw [hWm]
   constructor
   ·rintro ⟨e,he,w1,w2⟩
    have hk : e.key ∈ xs := (hm _).2 ((Zaa3 h he id).2 w1)
    rw [← q1] at hk
    obtain ⟨e',he',hke⟩ := Ya0.1 hk
    have : e' = e := h.key_uniq (q3 e' he').1 he hke
    subst this
    exact ⟨e'.ids,Ya0.2 ⟨e',he',rfl⟩,w2⟩
   ·rintro ⟨ys,hy,hv⟩
    obtain ⟨e,he,rfl⟩ := Ya0.1 hy
    exact ⟨e,(q3 e he).1,(q3 e he).2,hv⟩⟩ hWl (fun ys hy => by
   obtain ⟨e,he,rfl⟩ := Ya0.1 hy
   have hr := h.rooms e (q3 e he).1
   have := hr.cnt
   exact ⟨Zaiw hr,by unfold Rm.ids; simp; omega⟩)
  rw [g1,obs,g2,obs]
  simp only
  have hd : P2.heap S1.next = .defer := (g5.eq _ (by omega)).trans de
  have l6 := g5.le
  simp only [HS.leave,hd,obs]
  refine ⟨fn,u,v,_,K,rfl,g3.move (fun y g => Zxd _ (by have := g4 y g; omega)),fun y g => ⟨by have := g4 y g; omega,by rw [Zxr]; exact (g4 y g).2⟩,⟨by rw [Zxr]; omega,fun y hy => ?_⟩⟩
  rw [Zxd _ (by omega),g5.eq _ (by omega)]
  by_cases ho : OA x t y
  ·exact a2 y ho
  ·rw [ch.eq y (by omega) (fun g => by
    rcases g with (rfl | ⟨q,hq,_⟩ | ⟨p,hp,_⟩) | g
    ·omega
    ·cases hq
    ·cases hp
    ·exact ho g),f1.eq y (by omega)]
   exact f0.eq y hy
theorem Zads {m z : Nat} {S : HS} {sl : Sl} {rows : List (List HV)} (row : List HV) (h : Vec m S z sl rows) (hm : m ≤ S.next) (hl : rows.length ≤ 100000) :
  ∃ sl' S',HS.rows (S.lit [row] z).2 (S.lit [row] z).1 z = some [row] ∧ HS.app (S.lit [row] z).2 sl [row] z = some (sl',S') ∧ Vec m S' z sl' (rows ++ [row]) ∧ Fr m S S' := by
 have fl : Fr S.next S (S.lit [row] z).2 := Zyt _ (Yaa _)
 have nl : (S.lit [row] z).2.next = S.next + 1 := rfl
 obtain ⟨s',S',e1,v1,f1⟩ := (h.frame fl (Yaa _)).app (new := [row]) (by omega) (by simp; omega)
 exact ⟨s',S',(Vec.lit (n := 0) (z := z) (S := S) _ (Yak _)).rows,e1,v1,(fl.mono hm).trans f1⟩
theorem refSame_spec {k m : Nat} {x y : List UInt8} {S : HS} (hx : x.length ≤ 1000) (hy : y.length ≤ 1000) (hk : 2000 ≤ k) (hm : m ≤ S.next) : ∃ S',Y86.f k x y S = some (decide (x.map low = y.map low),S') ∧ Fr m S S' := by
 unfold Y86.f
 obtain ⟨S1,e1,f1⟩ := Zzs (k := k) (m := m) (x := x) (S := S) (by omega) (by omega) (by omega) hm
 obtain ⟨S2,e2,f2⟩ := Zzs (k := k) (m := m) (x := y) (S := S1) (by omega) (by omega) (by omega) (Ya2 hm f1.le)
 rw [e1,obs,e2,obs]
 exact ⟨S2,rfl,f1.trans f2⟩
structure Dr where
 p : Nat
 s : Sl
 name : List UInt8
 mb : Int
 ms : List MK.En
def Dr.ids (e : Dr) : List Int := e.ms.map (·.1)
def Dr.key (e : Dr) : List UInt8 := e.name.map low
def Dr.row (e : Dr) : List HV := [.str e.name,.int .i64 e.mb,e.s.hv,.str [],.str [110,116],.str [],.int .i64 0,Sl.nil.hv,Sl.nil.hv]
def OwnD (e : Dr) (id : Nat) : Prop := id = e.p ∨ ∃ q,e.s.a = some q ∧ q.1 = id
structure DI (e : Dr) (S : HS) : Prop where
 cell : S.heap e.p = .cells 9 [e.row] true
 rows : S.rows e.s 3 = some (e.ms.map MK.enRow)
 hi : e.p < S.next
 lo : ∀ q,e.s.a = some q → q.1 < S.next
 ne : ∀ q,e.s.a = some q → q.1 ≠ e.p
 cnt : e.ms.length ≤ 900
 nd : e.ids.Nodup
 nl : e.name.length ≤ 1000
section
variable {e : Dr} {S S' : HS}
theorem DI.lt (h : DI e S) {id : Nat} (ho : OwnD e id) : id < S.next := by
 rcases ho with rfl | ⟨q,hq,rfl⟩
 ·exact h.hi
 ·exact h.lo q hq
theorem DI.keep (h : DI e S) (hk : ∀ id,OwnD e id → S'.heap id = S.heap id) (hn : S.next ≤ S'.next) : DI e S' :=
 { h with
  cell := (hk _ (.inl rfl)).trans h.cell
  rows := Zx1 h.rows fun q hq => hk _ (.inr ⟨q,hq,rfl⟩)
  hi := Yai h.hi hn
  lo := fun q hq => Yai (h.lo q hq) hn }
theorem DI.fr (h : DI e S) (hf : Fr S.next S S') : DI e S' := h.keep (fun id ho => hf.eq id (h.lt ho)) hf.le
theorem DI.slen (h : DI e S) : (e.s.len : Int) = e.ms.length := by rw [← Zx3 h.rows]; simp
theorem DI.ldS (h : DI e S) : S.ldSl (HA.fld (HA.cell0 e.p) 2) = some e.s := Zy2 (Zxu h.cell) rfl rfl
theorem DI.ldN (h : DI e S) : S.ldS (HA.fld (HA.cell0 e.p) 0) = some e.name := Zaae (Zxu h.cell) rfl rfl
theorem DI.ldG (h : DI e S) : S.ldSl (HA.fld (HA.cell0 e.p) 8) = some Sl.nil := Zy2 (Zxu h.cell) rfl rfl
theorem Zagf (h : DI e S) (id : Int) : ∃ r : Int,Y0.f 2000 (some (HA.cell0 e.p)) id S = some (r,S) ∧ ((r < 0 ∧ id ∉ e.ids) ∨ ∃ i,∃ hi : i < e.ms.length,r = (i : Int) ∧ (e.ms[i]'hi).1 = id) := by
 have hcnt := h.cnt
 have hloop : ∀ f i,e.ms.length - i < f → i ≤ e.ms.length → (∀ m ∈ e.ms.take i,m.1 ≠ id) → ∃ r : Int,Y0.L0 2000 f (some (HA.cell0 e.p)) id (i : Int) S = some (r,S) ∧ ((r < 0 ∧ id ∉ e.ids) ∨ ∃ i,∃ hi : i < e.ms.length,r = (i : Int) ∧ (e.ms[i]'hi).1 = id) := by
  intro f
  induction f with
  | zero => intro i h; omega
  | succ f ih =>
   intro i hf hi hno
   rw [Y0.L0,obs,h.ldS,obs,h.slen]
   by_cases hlt : i < e.ms.length
   ·obtain ⟨ad,a1,a2,a3,a4⟩ := MK.en_rows h.rows hlt
    rw [if_pos (by omega),obs,h.ldS,obs,a1,obs,a2,obs]
    by_cases he : e.ms[i].1 = id
    ·rw [if_pos he]; exact ⟨_,rfl,.inr ⟨i,hlt,rfl,he⟩⟩
    ·rw [if_neg he,Zx2 (by omega) (by omega),show ((i : Int) + 1) = ((i + 1 : Nat) : Int) by simp]
     refine ih (i + 1) (by omega) (by omega) fun m hm => ?_
     rw [Yaf hlt] at hm
     rcases Yab.1 hm with g | g
     ·exact hno m g
     ·simp at g; subst g; exact he
   ·obtain rfl : i = e.ms.length := by omega
    rw [Yao] at hno
    rw [if_neg (by omega)]
    refine ⟨-1,rfl,.inl ⟨by omega,fun hm => ?_⟩⟩
    obtain ⟨m,hm2,rfl⟩ := Ya0.1 hm
    exact hno m hm2 rfl
 exact hloop 2000 0 (by omega) (Yak _) (by simp)
theorem Zaa2 (h : DI e S) (id : Int) : ∃ r : Int,Y0.f 2000 (some (HA.cell0 e.p)) id S = some (r,S) ∧ (r ≥ 0 ↔ id ∈ e.ids) := by
 obtain ⟨r,e1,g⟩ := Zagf h id
 refine ⟨r,e1,?_⟩
 rcases g with ⟨g1,g2⟩ | ⟨i,hi,rfl,g2⟩
 ·exact ⟨fun g => by omega,fun g => absurd g g2⟩
 ·exact ⟨fun _ => Ya0.2 ⟨_,Yae hi,g2⟩,fun _ => by omega⟩
theorem DI.put {S1 : HS} {s' : Sl} {ms' : List MK.En} (h : DI e S) (hf : Fr S.next S S1) (hr : S1.rows s' 3 = some (ms'.map MK.enRow)) (hq : ∀ q,s'.a = some q → S.next ≤ q.1 ∧ q.1 < S1.next) (hl : ms'.length ≤ 900) (hn : (ms'.map (·.1)).Nodup) :
  ∃ S2,S1.sets (HA.fld (HA.cell0 e.p) 2) [s'.hv] = some S2 ∧ DI { e with s := s',ms := ms' } S2 ∧ Chg (OwnD e) (OwnD { e with s := s',ms := ms' }) S S2 := by
 have hc : S1.heap e.p = .cells 9 [e.row] true := (hf.eq e.p h.hi).trans h.cell
 have hle := hf.le
 have hhi := h.hi
 refine ⟨S1.put e.p (.cells 9 [({ e with s := s',ms := ms' } : Dr).row] true),(Zyo hc rfl (by simp [Dr.row])).trans rfl,⟨Zxs _ _ _,Zx1 hr fun q hq' => Zxd _ (by have := hq q hq'; omega),by rw [Zxr]; show e.p < S1.next; omega,fun q hq' => (hq q hq').2,fun q hq' => by have := hq q hq'; show q.1 ≠ e.p; omega,hl,hn,h.nl⟩,⟨by rw [Zxr]; exact hle,fun id h1 h2 => ?_,fun id ho => ?_⟩⟩
 ·rw [Zxd _ (fun e => h2 (.inl e))]; exact hf.eq id h1
 ·rcases ho with g | ⟨q,g,rfl⟩
  ·exact .inl (.inl g)
  ·exact .inr (hq q g).1
theorem Zafm (id : Int) (S : HS) : Y65.f 2000 Sl.nil id S = some (Sl.nil,S) := by
 rw [Y65.f,Y65.L0,if_neg (by simp [Sl.nil])]
theorem Zael (h : DI e S) (id : Int) (op : Bool) (hnew : id ∉ e.ids) (hc : e.ms.length < 900) :
  ∃ e' S',Y41.f 2000 (some (HA.cell0 e.p)) id op S = some ((),S') ∧ DI e' S' ∧ e'.p = e.p ∧ e'.name = e.name ∧ e'.ms = e.ms ++ [(id,op,false)] ∧ Chg (OwnD e) (OwnD e') S S' := by
 obtain ⟨r,e1,g⟩ := Zaa2 h id
 rw [Y41.f,e1,obs]
 simp only
 rw [if_neg (fun k => hnew (g.1 k)),letv]
 have fl : Fr S.next S (S.lit [] 3).2 := Zyt _ (Yaa _)
 have vl := Vec.lit (n := S.next) (z := 3) (S := S) [] (Yaa _)
 have nl : (S.lit [] 3).2.next = S.next + 1 := rfl
 generalize S.lit [] 3 = P at fl vl nl ⊢
 obtain ⟨s3,S3⟩ := P
 simp only at fl vl nl ⊢
 have h3 := h.fr fl
 obtain ⟨s4,S4,e4,v4,f4⟩ := vl.app (new := e.ms.map MK.enRow) (by omega) (by simp; omega)
 have l4 := f4.le
 rw [Yay] at v4
 rw [obs,h3.ldS,obs,h3.rows,obs,e4,obs,letv]
 obtain ⟨s6,S6,r5,e6,v6,f6⟩ := Zads [.int .i64 id,.bool op,.bool false] v4 (by omega) (by simp; omega)
 have l6 := f6.le
 have ff : Fr S.next S S6 := (fl.trans (f4.mono (by omega))).trans (f6.mono (by omega))
 have er : e.ms.map MK.enRow ++ [[.int .i64 id,.bool op,.bool false]] = (e.ms ++ [(id,op,false)]).map MK.enRow := by simp [MK.enRow]
 rw [er] at v6
 obtain ⟨S7,e7,h7,ch7⟩ := h.put ff v6.rows (fun q hq => v6.lo q hq) (by simp; omega) (by
  rw [Yau,List.nodup_append]
  refine ⟨h.nd,by simp,fun a ha b hb => ?_⟩
  simp at hb
  subst hb
  exact fun e => hnew (e ▸ ha))
 simp only
 rw [r5,obs,e6,obs,obs]
 simp only
 rw [e7,obs,obs,h7.ldG,obs,Zafm,obs,obs]
 have hs : S7.sets (HA.fld (HA.cell0 e.p) 8) [Sl.nil.hv] = some (S7.put e.p (.cells 9 [({ e with s := s6,ms := e.ms ++ [(id,op,false)] } : Dr).row] true)) := (Zyo h7.cell rfl (by simp [Dr.row])).trans rfl
 simp only
 rw [hs,obs]
 have hk : ∀ y,(S7.put e.p (.cells 9 [({ e with s := s6,ms := e.ms ++ [(id,op,false)] } : Dr).row] true)).heap y = S7.heap y := fun y => by
  by_cases hy : y = e.p
  ·subst hy; rw [Zxs]; exact h7.cell.symm
  ·exact Zxd _ hy
 exact ⟨{ e with s := s6,ms := e.ms ++ [(id,op,false)] },_,rfl,h7.keep (fun y _ => hk y) (Yaa _),rfl,rfl,rfl,⟨ch7.le,fun y h1 h2 => (hk y).trans (ch7.eq y h1 h2),ch7.own⟩⟩
theorem Zaio (name : List UInt8) (mb : Int) (S : HS) (hl : name.length ≤ 1000) : ∃ e S',Y107.f name mb S = some (some (HA.cell0 e.p),S') ∧ DI e S' ∧ e.name = name ∧ e.ms = [] ∧ (∀ id,OwnD e id → S.next ≤ id) ∧ Fr S.next S S' := by
 refine ⟨⟨S.next,Sl.nil,name,mb,[]⟩,_,rfl,⟨Zxv _ _,rfl,Yaw _,fun q hq => (by cases hq),fun q hq => (by cases hq),Yak _,List.nodup_nil,hl⟩,rfl,rfl,fun id ho => ?_,Fr.new (Yaa _) _⟩
 rcases ho with rfl | ⟨q,hq,_⟩
 ·exact Yaa _
 ·cases hq
theorem Zag9 (h : DI e S) (id : Int) (hin : id ∈ e.ids) :
  ∃ e' S',Y39.f 2000 (some (HA.cell0 e.p)) id S = some (true,S') ∧ DI e' S' ∧ e'.p = e.p ∧ e'.name = e.name ∧ (∃ i,∃ hi : i < e.ms.length,(e.ms[i]'hi).1 = id ∧ e'.ms = e.ms.eraseIdx i) ∧ Chg (OwnD e) (OwnD e') S S' := by
 obtain ⟨r,e1,g⟩ := Zagf h id
 rcases g with ⟨_,g⟩ | ⟨i,hi,rfl,hid⟩
 ·exact absurd hin g
 have hcnt := h.cnt
 rw [Y39.f,e1,obs]
 simp only
 rw [if_neg (by omega),letv]
 have fl : Fr S.next S (S.lit [] 3).2 := Zyt _ (Yaa _)
 have vl := Vec.lit (n := S.next) (z := 3) (S := S) [] (Yaa _)
 have nl : (S.lit [] 3).2.next = S.next + 1 := rfl
 generalize S.lit [] 3 = P at fl vl nl ⊢
 obtain ⟨s3,S3⟩ := P
 simp only at fl vl nl ⊢
 have h3 := h.fr fl
 have hsl := h.slen
 have hss := h.lo
 obtain ⟨c1,d1,d2⟩ := Zaeq h3.rows (m := i) (by simp; omega)
 have d1' : S.cut e.s 0 (i : Int) 3 = some c1 := by rw [← d1]; exact (Zadw _ _ _ fun q hq => fl.eq _ (hss q hq)).symm
 obtain ⟨s4,S4,e4,v4,f4⟩ := vl.app (new := (e.ms.map MK.enRow).take i) (by omega) (by simp; omega)
 have l4 := f4.le
 rw [Yay] at v4
 have h4 : DI e S4 := h3.keep (fun x ho => f4.eq x (by have := h.lt ho; omega)) f4.le
 have hw : w64 ((i : Int) + 1) = ((i + 1 : Nat) : Int) := by rw [Zx2 (by omega) (by omega)]; simp
 obtain ⟨c5,d5,d6⟩ := Zadv h4.rows (m := i + 1) (by simp; omega)
 have hlen : ((e.ms.map MK.enRow).length : Int) = (e.s.len : Int) := by rw [hsl]; simp
 rw [hlen] at d5
 have d5' : S3.cut e.s ((i + 1 : Nat) : Int) (e.s.len : Int) 3 = some c5 := by rw [← d5]; exact (Zadw _ _ _ fun q hq => f4.eq _ (by have := hss q hq; omega)).symm
 have d5'' : S.cut e.s ((i + 1 : Nat) : Int) (e.s.len : Int) 3 = some c5 := by rw [← d5']; exact (Zadw _ _ _ fun q hq => fl.eq _ (hss q hq)).symm
 obtain ⟨s6,S6,e6,v6,f6⟩ := v4.app (new := (e.ms.map MK.enRow).drop (i + 1)) (by omega) (by simp; omega)
 have l6 := f6.le
 have ff : Fr S.next S S6 := (fl.trans (f4.mono (by omega))).trans (f6.mono (by omega))
 have er : (e.ms.map MK.enRow).take i ++ (e.ms.map MK.enRow).drop (i + 1) = (e.ms.eraseIdx i).map MK.enRow := by
  rw [List.eraseIdx_eq_take_drop_succ,Yau,List.map_take,List.map_drop]
 rw [er] at v6
 have hle := List.length_eraseIdx_le e.ms i
 obtain ⟨S7,e7,h7,o7⟩ := h.put ff v6.rows (fun q hq => v6.lo q hq) (by omega) (h.nd.sublist (List.Sublist.map _ (List.eraseIdx_sublist _ _)))
 simp only [obs,h3.ldS,h.ldS,if_true,d1,d1',d2,e4,h4.ldS,hw,d5,d5',d5'',d6,e6,e7]
 exact ⟨_,S7,rfl,h7,rfl,rfl,⟨i,hi,hid,rfl⟩,o7⟩
theorem ddrop_no (h : DI e S) (id : Int) (hin : id ∉ e.ids) : Y39.f 2000 (some (HA.cell0 e.p)) id S = some (false,S) := by
 obtain ⟨r,e1,g⟩ := Zaa2 h id
 rw [Y39.f,e1,obs]
 simp only
 rw [if_pos (by
  rcases Int.lt_or_le r 0 with k | k
  ·exact k
  ·exact absurd (g.1 k) hin)]
end
structure Dw where
 w : Nat
 mR : Int
 mJ : Int
 mB : Int
structure Dt where
 sl : Sl
 D : List Dr
def dptr (e : Dr) : PK.Ky := some (HA.cell0 e.p)
def OD (x : Dw) (d : Dt) (id : Nat) : Prop := id = x.w ∨ (∃ q,d.sl.a = some q ∧ q.1 = id) ∨ ∃ e ∈ d.D,OwnD e id
structure DocI (x : Dw) (d : Dt) (S : HS) : Prop where
 cell : S.heap x.w = .cells 4 [[.int .i64 x.mR,.int .i64 x.mJ,.int .i64 x.mB,d.sl.hv]] true
 rows : S.rows d.sl 1 = some ((d.D.map dptr).map PK.row1)
 hi : x.w < S.next
 lo : ∀ q,d.sl.a = some q → q.1 < S.next
 rooms : ∀ e ∈ d.D,DI e S
 cnt : d.D.length ≤ 900
 keys : d.D.Pairwise fun a b => a.key ≠ b.key
 own : d.D.Pairwise fun a b => ∀ id,OwnD a id → ¬ OwnD b id
 nw : ∀ e ∈ d.D,¬ OwnD e x.w
 nq : ∀ q,d.sl.a = some q → q.1 ≠ x.w ∧ ∀ e ∈ d.D,¬ OwnD e q.1
section
variable {x : Dw} {d : Dt} {S S' : HS}
theorem DocI.ltO (h : DocI x d S) {id : Nat} (ho : OD x d id) : id < S.next := by
 rcases ho with rfl | ⟨q,hq,rfl⟩ | ⟨e,he,g⟩
 ·exact h.hi
 ·exact h.lo q hq
 ·exact (h.rooms e he).lt g
theorem DocI.keep (h : DocI x d S) (hk : ∀ id,OD x d id → S'.heap id = S.heap id) (hn : S.next ≤ S'.next) : DocI x d S' :=
 { h with
  cell := (hk _ (.inl rfl)).trans h.cell
  rows := Zx1 h.rows fun q hq => hk _ (.inr (.inl ⟨q,hq,rfl⟩))
  hi := Yai h.hi hn
  lo := fun q hq => Yai (h.lo q hq) hn
  rooms := fun e he => (h.rooms e he).keep (fun id g => hk id (.inr (.inr ⟨e,he,g⟩))) hn }
theorem DocI.fr (h : DocI x d S) (hf : Fr S.next S S') : DocI x d S' := h.keep (fun id ho => hf.eq id (h.ltO ho)) hf.le
theorem DocI.lds (h : DocI x d S) : S.ldSl (HA.fld (HA.cell0 x.w) 3) = some d.sl := Zy2 (Zxu h.cell) rfl rfl
theorem DocI.ldR (h : DocI x d S) : S.ldI .i64 (HA.fld (HA.cell0 x.w) 0) = some x.mR := Zx8 (Zxu h.cell) rfl rfl
theorem DocI.ldJ (h : DocI x d S) : S.ldI .i64 (HA.fld (HA.cell0 x.w) 1) = some x.mJ := Zx8 (Zxu h.cell) rfl rfl
theorem DocI.ldB (h : DocI x d S) : S.ldI .i64 (HA.fld (HA.cell0 x.w) 2) = some x.mB := Zx8 (Zxu h.cell) rfl rfl
theorem DocI.slen (h : DocI x d S) : (d.sl.len : Int) = d.D.length := by rw [← Zx3 h.rows]; simp
theorem DocI.at_ (h : DocI x d S) {i : Nat} (hi : i < d.D.length) : ∃ ad,S.idx d.sl (i : Int) 1 = some ad ∧ S.ldP ad = some (some (HA.cell0 (d.D[i]'hi).p)) := by
 obtain ⟨ad,h1,h2⟩ := PK.ldK_at h.rows (i := i) (by simpa using hi)
 rw [Yaj] at h2
 exact ⟨ad,h1,h2⟩
inductive FndD (D : List Dr) (name : List UInt8) : Option Dr → Prop
 | some {e} (he : e ∈ D) (hk : e.key = name.map low) : FndD D name (some e)
 | none (h : ∀ e ∈ D,e.key ≠ name.map low) : FndD D name none
def Zacr (o : Option Dr) : Option HA := o.map fun e => HA.cell0 e.p
theorem Zaem (h : DocI x d S) (name : List UInt8) (hl : name.length ≤ 1000) : ∃ o S',Y36.f 2000 (some (HA.cell0 x.w)) name S = some (Zacr o,S') ∧ FndD d.D name o ∧ Fr S.next S S' := by
 have hcnt := h.cnt
 have hloop : ∀ f i (T : HS),d.D.length - i < f → i ≤ d.D.length → Fr S.next S T → (∀ e ∈ d.D.take i,e.key ≠ name.map low) → ∃ o S',Y36.L0 2000 f (some (HA.cell0 x.w)) name (i : Int) T = some (Zacr o,S') ∧ FndD d.D name o ∧ Fr S.next S S' := by
  intro f
  induction f with
  | zero => intro i T h; omega
  | succ f ih =>
   intro i T hf hi hfr hno
   have hT := h.fr hfr
   rw [Y36.L0,obs,hT.lds,obs,hT.slen]
   by_cases hlt : i < d.D.length
   ·obtain ⟨ad,a1,a2⟩ := hT.at_ hlt
    have hr := hT.rooms _ (Yae hlt)
    obtain ⟨T1,e1,f1⟩ := refSame_spec (k := 2000) (m := T.next) (x := d.D[i].name) (y := name) (S := T) hr.nl hl (Yaa _) (Yaa _)
    have hT1 := hT.fr f1
    have hfr1 := hfr.trans (f1.mono hfr.le)
    obtain ⟨ad1,b1,b2⟩ := hT1.at_ hlt
    rw [if_pos (by omega),obs,hT.lds,obs,a1,obs,a2,obs,obs,hr.ldN,obs,e1,obs]
    by_cases he : d.D[i].name.map low = name.map low
    ·rw [if_pos (decide_eq_true he),obs]
     simp only
     rw [hT1.lds,obs,b1,obs,b2,obs]
     exact ⟨some d.D[i],T1,rfl,.some (Yae hlt) he,hfr1⟩
    ·rw [if_neg (by simpa using he),Zx2 (by omega) (by omega),show ((i : Int) + 1) = ((i + 1 : Nat) : Int) by simp]
     refine ih (i + 1) T1 (by omega) (by omega) hfr1 fun e hm => ?_
     rw [Yaf hlt] at hm
     rcases Yab.1 hm with g | g
     ·exact hno e g
     ·simp at g; subst g; exact he
   ·obtain rfl : i = d.D.length := by omega
    rw [Yao] at hno
    rw [if_neg (by omega)]
    exact ⟨none,T,rfl,.none hno,hfr⟩
 exact hloop 2000 0 S (by omega) (Yak _) (Fr.refl _ _) (by simp)
def SrtD (L : List Dr) : Prop := L.Pairwise fun a b => cmpL a.name b.name < 0
theorem ins_srtD {O : List Dr} {e : Dr} {a : Nat} (hs : SrtD O) (ha : a ≤ O.length) (hhi : ∀ j (hj : j < O.length),a ≤ j → cmpL O[j].name e.name > 0) (hlo : ∀ j (hj : j < O.length),j + 1 = a → ¬ cmpL O[j].name e.name > 0) (hne : ∀ o ∈ O,cmpL o.name e.name ≠ 0) : SrtD (O.take a ++ e :: O.drop a) := by
 have hlt : ∀ j (hj : j < O.length),j < a → cmpL O[j].name e.name < 0 := fun j hj hja => by
  have h1 : cmpL (O[a - 1]'(by omega)).name e.name < 0 := by
   have := hlo (a - 1) (by omega) (by omega)
   have := hne _ (Yae (show a - 1 < O.length by omega))
   omega
  rcases Yan j (a - 1) with g | g
  ·exact BK.cmpL_lt_trans (Yap.1 hs j (a - 1) hj (by omega) g) h1
  ·obtain rfl : j = a - 1 := by omega
   exact h1
 unfold SrtD
 rw [Yad,Yah]
 refine ⟨hs.sublist (List.take_sublist _ _),⟨fun o ho => ?_,hs.sublist (List.drop_sublist _ _)⟩,fun o ho o' ho' => ?_⟩
 ·obtain ⟨j,hj,rfl⟩ := Yag ho
  rw [Yat]
  have := hhi (a + j) (by simp at hj; omega) (by omega)
  rw [Zzi] at this
  omega
 ·obtain ⟨j,hj,rfl⟩ := Yag ho
  rw [Yar] at hj
  rw [Ybl]
  rcases Yac.1 ho' with rfl | ho'
  ·exact hlt j (by omega) (by omega)
  ·obtain ⟨i,hi,rfl⟩ := Yag ho'
   rw [Ya1] at hi
   rw [Yat]
   exact Yap.1 hs j (a + i) (by omega) (by omega) (by omega)
theorem Zaip {y1 y8 : Int} {y2 : Bool} {y7 : Sl} {O : List Dr} {e : Dr} {rec1 : (Option HA) → Int → Bool → Sl → Int → HS → Option ((Sl) × HS)} {S0 : HS} (h : DocI x d S0) (he : e ∈ d.D) (hO : ∀ o ∈ O,o ∈ d.D) (hOl : O.length ≤ 900) (hs : SrtD O) (hne : ∀ o ∈ O,cmpL o.name e.name ≠ 0) {m : Nat} (hm : m ≤ S0.next) :
  ∀ f a (T : HS),a < f → a ≤ O.length → Fr S0.next S0 T → Rd T.next T 1 y7 ((O.map dptr).map PK.row1) → (∀ j (hj : j < O.length),a ≤ j → cmpL O[j].name e.name > 0) →
  ∃ a' s' T',Y5.L3 2000 rec1 f (some (HA.cell0 x.w)) y1 y2 y7 y8 (dptr e) (a : Int) T = rec1 (some (HA.cell0 x.w)) y1 y2 s' (w64 (y8 + 1)) T' ∧ Fr S0.next S0 T' ∧ Vec S0.next T' 1 s' (((O.take a' ++ e :: O.drop a').map dptr).map PK.row1) ∧ SrtD (O.take a' ++ e :: O.drop a') := by
 intro f
 induction f with
 | zero => intro a T h; omega
 | succ f ih =>
  intro a T hf ha hfr hrd hhi
  have hT := h.fr hfr
  have hle := hfr.le
  -- where it belongs
  have fin : ∀ T1,Fr S0.next S0 T1 → Rd T1.next T1 1 y7 ((O.map dptr).map PK.row1) → (∀ j (hj : j < O.length),j + 1 = a → ¬ cmpL O[j].name e.name > 0) →
    ∃ a' s' T',Y5.J4 2000 (Y5.L3 2000 rec1 f) rec1 (some (HA.cell0 x.w)) y1 y2 y7 y8 (dptr e) (a : Int) false T1 = rec1 (some (HA.cell0 x.w)) y1 y2 s' (w64 (y8 + 1)) T' ∧ Fr S0.next S0 T' ∧ Vec S0.next T' 1 s' (((O.take a' ++ e :: O.drop a').map dptr).map PK.row1) ∧ SrtD (O.take a' ++ e :: O.drop a') := by
   intro T1 hfr1 hrd1 hlo
   have hle1 := hfr1.le
   have hsl : (y7.len : Int) = O.length := by rw [hrd1.len]; simp
   rw [Y5.J4,if_neg (by simp)]
   obtain ⟨c1,d1,d2⟩ := Zaeq hrd1.rows (m := a) (by simpa using ha)
   obtain ⟨s2,T2,e2,v2,f2⟩ := (Vec.nil : Vec T1.next T1 1 Sl.nil []).app (new := ((O.map dptr).map PK.row1).take a) (Yaa _) (by simp; omega)
   rw [Yay] at v2
   have e2 : T1.app Sl.nil (((O.map dptr).map PK.row1).take a) 1 = some (s2,T2) := e2
   have l2 := f2.le
   obtain ⟨s3,T3,r3,e3,v3,f3⟩ := Zads [.ptr (dptr e)] v2 (by omega) (by simp; omega)
   have l3 := f3.le
   have hrd3 := (hrd1.frame (f2.trans f3) (Yaa _))
   obtain ⟨c4,d4,d5⟩ := Zadv hrd3.rows (m := a) (by simpa using ha)
   have hlen : (((O.map dptr).map PK.row1).length : Int) = (y7.len : Int) := by rw [hsl]; simp
   rw [hlen] at d4
   obtain ⟨s6,T6,e6,v6,f6⟩ := v3.app (new := ((O.map dptr).map PK.row1).drop a) (by omega) (by simp; omega)
   have l6 := f6.le
   rw [d1,obs,d2,obs,e2,obs,letv,r3,obs,e3,obs,d4,obs,d5,obs,e6,obs,Y5.J2]
   have er : ((O.map dptr).map PK.row1).take a ++ [[.ptr (dptr e)]] ++ ((O.map dptr).map PK.row1).drop a = ((O.take a ++ e :: O.drop a).map dptr).map PK.row1 := by
    simp [List.map_take,List.map_drop,PK.row1]
   rw [er] at v6
   exact ⟨a,s6,T6,rfl,hfr1.trans (((f2.trans f3).trans f6).mono hle1),v6.mono hle1,ins_srtD hs ha hhi hlo hne⟩
  rw [Y5.L3]
  by_cases h0 : 0 < a
  ·have hw : w64 ((a : Int) - 1) = ((a - 1 : Nat) : Int) := by rw [Zx2 (by omega) (by omega)]; omega
   obtain ⟨ad,a1,a2⟩ := PK.ldK_at hrd.rows (i := a - 1) (by simp; omega)
   rw [Yaj] at a2
   have ho := hT.rooms _ (hO _ (Yae (show a - 1 < O.length by omega)))
   have hre := hT.rooms e he
   obtain ⟨T1,e1,f1⟩ := Zacb (k := 2000) (m := T.next) (x := (O[a - 1]'(by omega)).name) (y := e.name) (S := T) ho.nl hre.nl (Yaa _) (Yaa _)
   have hfr1 := hfr.trans (f1.mono hle)
   have hrd1 := (hrd.frame f1 (Yaa _)).mono f1.le
   rw [if_pos (by omega),hw,a1,obs,a2,obs]
   simp only [dptr,obs]
   rw [ho.ldN,obs,hre.ldN,obs,e1,obs]
   by_cases hc : cmpL (O[a - 1]'(by omega)).name e.name > 0
   ·simp only
    rw [decide_eq_true hc,Y5.J4,if_pos rfl,hw]
    refine ih (a - 1) T1 (by omega) (by omega) hfr1 hrd1 fun j hj hja => ?_
    rcases Yan j a with g | g
    ·obtain rfl : j = a - 1 := by omega
     exact hc
    ·exact hhi j hj g
   ·simp only
    rw [decide_eq_false hc]
    exact fin T1 hfr1 hrd1 fun j hj hja => by
     obtain rfl : j = a - 1 := by omega
     exact hc
  ·rw [if_neg (by omega)]
   exact fin T hfr hrd fun j hj hja => by omega
theorem dof_spec (h : DocI x d S) (id : Int) (all : Bool) : ∃ so L S',Y5.f 2000 (some (HA.cell0 x.w)) id all S = some (so,S') ∧ S'.rows so 1 = some ((L.map dptr).map PK.row1) ∧ (∀ q,so.a = some q → S.next ≤ q.1 ∧ q.1 < S'.next) ∧ Fr S.next S S' ∧ L.Perm (d.D.filter fun e => all || decide (id ∈ e.ids)) ∧ SrtD L := by
 have hcnt := h.cnt
 have hloop : ∀ f i (T : HS) (y7 : Sl) (O : List Dr),d.D.length - i < f → i ≤ d.D.length → Fr S.next S T → Vec S.next T 1 y7 ((O.map dptr).map PK.row1) → O.Perm ((d.D.take i).filter fun e => all || decide (id ∈ e.ids)) → SrtD O →
   ∃ so L S',Y5.L0 2000 f (some (HA.cell0 x.w)) id all y7 (i : Int) T = some (so,S') ∧ S'.rows so 1 = some ((L.map dptr).map PK.row1) ∧ (∀ q,so.a = some q → S.next ≤ q.1 ∧ q.1 < S'.next) ∧ Fr S.next S S' ∧ L.Perm (d.D.filter fun e => all || decide (id ∈ e.ids)) ∧ SrtD L := by
  intro f
  induction f with
  | zero => intro i T y7 O h; omega
  | succ f ih =>
   intro i T y7 O hf hi hfr hv hp hs
   have hT := h.fr hfr
   have hle := hfr.le
   rw [Y5.L0,obs,hT.lds,obs,hT.slen]
   by_cases hlt : i < d.D.length
   ·obtain ⟨ad,a1,a2⟩ := hT.at_ hlt
    have hm := Yae hlt
    have hw : w64 ((i : Int) + 1) = ((i + 1 : Nat) : Int) := by rw [Zx2 (by omega) (by omega)]; simp
    have htk : (d.D.take (i + 1)).filter (fun e => all || decide (id ∈ e.ids)) = (d.D.take i).filter (fun e => all || decide (id ∈ e.ids)) ++ if (all || decide (id ∈ d.D[i].ids)) = true then [d.D[i]] else [] := by
     rw [Yaf hlt,Ybh]
     congr 1
     rw [List.filter_cons,List.filter_nil]
    have hOd : ∀ o ∈ O,o ∈ d.D.take i := fun o ho => (Yba.1 (hp.subset ho)).1
    have hOl : O.length ≤ 900 := by
     have := hp.length_eq
     have := Ybi (fun e : Dr => all || decide (id ∈ e.ids)) (d.D.take i)
     rw [Yar] at this
     omega
    have put : (all || decide (id ∈ d.D[i].ids)) = true → ∃ so L S',Y5.J1 2000 (Y5.L0 2000 f) (some (HA.cell0 x.w)) id all y7 (i : Int) (dptr d.D[i]) false T = some (so,S') ∧ S'.rows so 1 = some ((L.map dptr).map PK.row1) ∧ (∀ q,so.a = some q → S.next ≤ q.1 ∧ q.1 < S'.next) ∧ Fr S.next S S' ∧ L.Perm (d.D.filter fun e => all || decide (id ∈ e.ids)) ∧ SrtD L := by
     intro hc
     rw [Y5.J1,if_neg (by simp)]
     have hsl : (y7.len : Int) = O.length := by rw [hv.len]; simp
     rw [hsl]
     obtain ⟨a',s',T',e1,f1,v1,g1⟩ := Zaip (x := x) (d := d) (y1 := id) (y8 := (i : Int)) (y2 := all) (y7 := y7) (O := O) (e := d.D[i]) (rec1 := Y5.L0 2000 f) (S0 := T) hT hm (fun o ho => Ybj (hOd o ho)) hOl hs (fun o ho hc => by
      obtain ⟨j,hj,rfl⟩ := Yag (hOd o ho)
      rw [Yar] at hj
      rw [Ybl] at hc
      exact Yap.1 h.keys j i (by omega) hlt (by omega) ((Zzp _ _).1 hc)) (Yaa _) 2000 O.length T (by omega) (Yaa _) (Fr.refl _ _) (hv.rd) (fun j hj hja => by omega)
     rw [e1,hw]
     have l1 := f1.le
     refine ih (i + 1) T' s' _ (by omega) (by omega) (hfr.trans (f1.mono hle)) (v1.mono hle) ?_ g1
     rw [htk,if_pos hc]
     refine (Ybe.trans ?_)
     rw [Yas]
     exact (hp.cons _).trans (List.perm_append_singleton _ _).symm
    rw [if_pos (by omega),obs,hT.lds,obs,a1,obs,a2,obs]
    cases all with
    | true =>
     rw [if_neg (by simp)]
     exact put (by simp)
    | false =>
     obtain ⟨r,e1,g⟩ := Zaa2 (hT.rooms _ hm) id
     rw [if_pos (by simp),e1,obs]
     by_cases hin : id ∈ d.D[i].ids
     ·have : decide (r < 0) = false := decide_eq_false (by have := g.2 hin; omega)
      simp only
      rw [this]
      exact put (by simpa using hin)
     ·have : decide (r < 0) = true := decide_eq_true (by
       rcases Int.lt_or_le r 0 with k | k
       ·exact k
       ·exact absurd (g.1 k) hin)
      simp only
      rw [this,Y5.J1,if_pos rfl,Y5.J2,hw]
      refine ih (i + 1) T y7 O (by omega) (by omega) hfr hv ?_ hs
      rw [htk,if_neg (by simpa using hin),Ya7]
      exact hp
   ·obtain rfl : i = d.D.length := by omega
    rw [Yao] at hp
    rw [if_neg (by omega)]
    exact ⟨y7,O,T,rfl,hv.rows,fun q hq => hv.lo q hq,hfr,hp,hs⟩
 exact hloop 2000 0 S Sl.nil [] (by omega) (Yak _) (Fr.refl _ _) .nil (by simp) List.Pairwise.nil
end
section
variable {x : Dw} {d : Dt} {S S' : HS}
theorem DocI.room_step {A B : List Dr} {e e' : Dr} (h : DocI x d S) (hD : d.D = A ++ e :: B) (hr : DI e' S') (hp : e'.p = e.p) (hn : e'.name = e.name) (ch : Chg (OwnD e) (OwnD e') S S') :
  DocI x { d with D := A ++ e' :: B } S' ∧ Chg (OD x d) (OD x { d with D := A ++ e' :: B }) S S' := by
 have he : e ∈ d.D := by rw [hD]; simp
 have hpw := h.own
 rw [hD,Yad,Yah] at hpw
 obtain ⟨p1,⟨p2,p3⟩,p4⟩ := hpw
 have hoth : ∀ y,y ∈ A ∨ y ∈ B → ∀ id,OwnD y id → ¬ OwnD e id := fun y hy id g g' => by
  rcases hy with hy | hy
  ·exact p4 y hy e (by simp) id g g'
  ·exact p2 y hy id g' g
 have hmem : ∀ y,y ∈ A ∨ y ∈ B → y ∈ d.D := fun y hy => by rw [hD]; simp; rcases hy with hy | hy <;> simp [hy]
 have hnew : ∀ y,y ∈ A ∨ y ∈ B → ∀ id,OwnD y id → ¬ OwnD e' id := fun y hy id g g' => by
  rcases ch.own id g' with k | k
  ·exact hoth y hy id g k
  ·have := (h.rooms y (hmem y hy)).lt g; omega
 have hcase : ∀ y,y ∈ A ++ e' :: B → (y ∈ A ∨ y ∈ B) ∨ y = e' := fun y hy => by
  simp only [Yab,Yac] at hy
  rcases hy with g | g | g <;> simp [g]
 have hkw : S'.heap x.w = S.heap x.w := ch.eq _ h.hi (h.nw e he)
 have hkq : ∀ q,d.sl.a = some q → S'.heap q.1 = S.heap q.1 := fun q hq => ch.eq _ (h.lo q hq) ((h.nq q hq).2 e he)
 have hle := ch.le
 refine ⟨⟨hkw.trans h.cell,?_,Yai h.hi hle,fun q hq => Yai (h.lo q hq) hle,?_,?_,?_,?_,?_,?_⟩,⟨hle,fun id g1 g2 => ch.eq id g1 (fun g => g2 (.inr (.inr ⟨e,he,g⟩))),?_⟩⟩
 ·have e1 : (A ++ e' :: B).map dptr = d.D.map dptr := by rw [hD]; simp [dptr,hp]
  show S'.rows d.sl 1 = some (((A ++ e' :: B).map dptr).map PK.row1)
  rw [e1]
  exact Zx1 h.rows hkq
 ·intro y hy
  rcases hcase y hy with g | rfl
  ·exact (h.rooms y (hmem y g)).keep (fun id k => ch.eq id ((h.rooms y (hmem y g)).lt k) (hoth y g id k)) hle
  ·exact hr
 ·have := h.cnt; rw [hD] at this; show (A ++ e' :: B).length ≤ 900; simp at this ⊢; exact this
 ·have hk := h.keys
  rw [hD,Yad,Yah] at hk
  obtain ⟨k1,⟨k2,k3⟩,k4⟩ := hk
  have hke : e'.key = e.key := by unfold Dr.key; rw [hn]
  show (A ++ e' :: B).Pairwise _
  rw [Yad,Yah]
  refine ⟨k1,⟨fun y hy => by rw [hke]; exact k2 y hy,k3⟩,fun y hy z hz => ?_⟩
  rcases Yac.1 hz with rfl | hz
  ·rw [hke]; exact k4 y hy e (by simp)
  ·exact k4 y hy z (by simp [hz])
 ·show (A ++ e' :: B).Pairwise _
  rw [Yad,Yah]
  refine ⟨p1,⟨fun y hy id g g' => hnew y (.inr hy) id g' g,p3⟩,fun y hy z hz => ?_⟩
  rcases Yac.1 hz with rfl | hz
  ·exact hnew y (.inl hy)
  ·exact p4 y hy z (by simp [hz])
 ·intro y hy g
  rcases hcase y hy with k | rfl
  ·exact h.nw y (hmem y k) g
  ·rcases ch.own _ g with k | k
   ·exact h.nw e he k
   ·have := h.hi; omega
 ·intro q hq
  refine ⟨(h.nq q hq).1,fun y hy g => ?_⟩
  rcases hcase y hy with k | rfl
  ·exact (h.nq q hq).2 y (hmem y k) g
  ·rcases ch.own _ g with k | k
   ·exact (h.nq q hq).2 e he k
   ·have := h.lo q hq; omega
 ·rintro id (g | g | ⟨y,hy,g⟩)
  ·exact .inl (.inl g)
  ·exact .inl (.inr (.inl g))
  ·rcases hcase y hy with k | rfl
   ·exact .inl (.inr (.inr ⟨y,hmem y k,g⟩))
   ·exact (ch.own id g).imp (fun g => .inr (.inr ⟨e,he,g⟩)) (fun g => g)
theorem DocI.put_list {S1 : HS} {s' : Sl} {D' : List Dr} (h : DocI x d S) (hk : ∀ id,id < S.next → S1.heap id = S.heap id) (hle : S.next ≤ S1.next) (hr : S1.rows s' 1 = some ((D'.map dptr).map PK.row1)) (hq : ∀ q,s'.a = some q → S.next ≤ q.1 ∧ q.1 < S1.next ∧ ∀ e ∈ D',¬ OwnD e q.1)
  (hl : D'.length ≤ 900) (hrooms : ∀ e ∈ D',DI e S1) (hkeys : D'.Pairwise fun a b => a.key ≠ b.key) (hown : D'.Pairwise fun a b => ∀ id,OwnD a id → ¬ OwnD b id) (hnw : ∀ e ∈ D',¬ OwnD e x.w) (hsub : ∀ e ∈ D',∀ id,OwnD e id → OD x d id ∨ S.next ≤ id) :
  ∃ S2,S1.sets (HA.fld (HA.cell0 x.w) 3) [s'.hv] = some S2 ∧ DocI x ⟨s',D'⟩ S2 ∧ Chg (OD x d) (OD x ⟨s',D'⟩) S S2 := by
 have hhi := h.hi
 have hc : S1.heap x.w = .cells 4 [[.int .i64 x.mR,.int .i64 x.mJ,.int .i64 x.mB,d.sl.hv]] true := (hk _ hhi).trans h.cell
 refine ⟨S1.put x.w (.cells 4 [[.int .i64 x.mR,.int .i64 x.mJ,.int .i64 x.mB,s'.hv]] true),(Zyo hc rfl (by simp)).trans rfl,⟨Zxs _ _ _,Zx1 hr fun q hq' => Zxd _ (by have := hq q hq'; omega),by rw [Zxr]; omega,fun q hq' => (hq q hq').2.1,fun e he => (hrooms e he).keep (fun id g => Zxd _ (fun e1 => hnw e he (e1 ▸ g))) (Yaa _),hl,hkeys,hown,hnw,fun q hq' => ⟨by have := hq q hq'; omega,(hq q hq').2.2⟩⟩,⟨hle,fun id h1 h2 => ?_,?_⟩⟩
 ·rw [Zxd _ (fun e => h2 (.inl e))]; exact hk id h1
 ·rintro id (g | ⟨q,hq',rfl⟩ | ⟨e,he,g⟩)
  ·exact .inl (.inl g)
  ·exact .inr (hq q hq').1
  ·exact hsub e he id g
def cntD (D : List Dr) (id : Int) : Nat := (D.filter fun e => decide (id ∈ e.ids)).length
inductive DJ (x : Dw) (D : List Dr) (id : Int) (name : List UInt8) : Option HA → Int → List Dr → Prop
 | stay {e} (he : e ∈ D) (hk : e.key = name.map low) (hin : id ∈ e.ids) : DJ x D id name (some (HA.cell0 e.p)) 0 D
 | full (hnot : ∀ e ∈ D,e.key = name.map low → id ∉ e.ids) (hf : x.mJ ≤ (cntD D id : Int) ∨ (∀ e ∈ D,e.key ≠ name.map low) ∧ x.mR ≤ (D.length : Int)) : DJ x D id name none 405 D
 | come {A B e e'} (hD : D = A ++ e :: B) (hk : e.key = name.map low) (hnot : id ∉ e.ids) (hp : e'.p = e.p) (hn : e'.name = e.name) (hms : e'.ms = e.ms ++ [(id,false,false)]) (hc : (cntD D id : Int) < x.mJ) : DJ x D id name (some (HA.cell0 e'.p)) 0 (A ++ e' :: B)
 | new {e'} (hno : ∀ e ∈ D,e.key ≠ name.map low) (hn : e'.name = name) (hms : e'.ms = [(id,true,false)]) (hl : (D.length : Int) < x.mR) (hc : (cntD D id : Int) < x.mJ) : DJ x D id name (some (HA.cell0 e'.p)) 0 (D ++ [e'])
def DJoined (x : Dw) (d : Dt) (S : HS) (id : Int) (name : List UInt8) (r : Option (((Option HA) × Int) × HS)) : Prop :=
 ∃ q c d' S',r = some ((q,c),S') ∧ DocI x d' S' ∧ Chg (OD x d) (OD x d') S S' ∧ DJ x d.D id name q c d'.D
theorem DJoined.pre {S1 : HS} {id : Int} {name : List UInt8} {r : Option (((Option HA) × Int) × HS)} (f : Fr S.next S S1) (h : DJoined x d S1 id name r) : DJoined x d S id name r := by
 obtain ⟨q,c,d',S',e,h1,h2,h3⟩ := h
 exact ⟨q,c,d',S',e,h1,(Chg.of_fr f).trans h2,h3⟩
theorem Zafn (h : DocI x d S) {e : Dr} (he : e ∈ d.D) (id : Int) (name : List UInt8) (hk : e.key = name.map low) (hnot : id ∉ e.ids) (hc : (cntD d.D id : Int) < x.mJ) (hms : e.ms.length < 900) : DJoined x d S id name (Y9.J1 2000 (some (HA.cell0 x.w)) id name (some (HA.cell0 e.p)) false S) := by
 rw [Y9.J1,if_neg (by simp),if_neg (by simp)]
 obtain ⟨e',S1,e1,h1,hp,hn,hm,ch⟩ := Zael (h.rooms e he) id false hnot hms
 obtain ⟨A,B,hD⟩ := Ybd he
 obtain ⟨h2,ch2⟩ := h.room_step hD h1 hp hn ch
 rw [e1,obs,Y9.J2,← hp]
 exact ⟨_,0,_,S1,rfl,h2,ch2,.come hD hk hnot hp hn hm hc⟩
theorem Zaiq (h : DocI x d S) (id : Int) (name : List UInt8) (hl : name.length ≤ 1000) (hno : ∀ e ∈ d.D,e.key ≠ name.map low) (hc : (cntD d.D id : Int) < x.mJ) (hR : (d.D.length : Int) < x.mR) (hcnt : d.D.length < 900) : DJoined x d S id name (Y9.J1 2000 (some (HA.cell0 x.w)) id name none false S) := by
 rw [Y9.J1,if_neg (by simp),if_pos (by rfl),obs,h.ldB,obs]
 obtain ⟨e0,S1,e1,h1,hn0,hm0,ho0,f1⟩ := Zaio name x.mB S hl
 obtain ⟨e',S2,e2,h2,hp2,hn2,hm2,ch2⟩ := Zael h1 id true (by unfold Dr.ids; rw [hm0]; simp) (by rw [hm0]; simp)
 have l1 := f1.le
 have l2 := ch2.le
 have hkS : ∀ y,y < S.next → S2.heap y = S.heap y := fun y hy => (ch2.eq y (by omega) (fun g => by have := ho0 y g; omega)).trans (f1.eq y hy)
 have hfr2 : Fr S.next S S2 := ⟨by omega,hkS⟩
 have hd2 := h.fr hfr2
 have ho' : ∀ y,OwnD e' y → S.next ≤ y := fun y g => (ch2.own y g).elim (ho0 y) (fun g => by omega)
 rw [e1,obs]
 simp only
 rw [e2,obs,letv]
 have fl : Fr S2.next S2 (S2.lit [] 1).2 := Zyt _ (Yaa _)
 have vl := Vec.lit (n := S2.next) (z := 1) (S := S2) [] (Yaa _)
 have nl : (S2.lit [] 1).2.next = S2.next + 1 := rfl
 generalize S2.lit [] 1 = P at fl vl nl ⊢
 obtain ⟨s3,S3⟩ := P
 simp only at fl vl nl ⊢
 have h3 := hd2.fr fl
 obtain ⟨s4,S4,e4,v4,f4⟩ := vl.app (new := (d.D.map dptr).map PK.row1) (by omega) (by simp; omega)
 have l4 := f4.le
 rw [Yay] at v4
 rw [obs,h3.lds,obs,h3.rows,obs,e4,obs,letv]
 obtain ⟨s6,S6,r5,e6,v6,f6⟩ := Zads [.ptr (some (HA.cell0 e0.p))] v4 (by omega) (by simp; omega)
 have l6 := f6.le
 have ff : Fr S2.next S2 S6 := (fl.trans (f4.mono (by omega))).trans (f6.mono (by omega))
 have er : (d.D.map dptr).map PK.row1 ++ [[.ptr (some (HA.cell0 e0.p))]] = ((d.D ++ [e']).map dptr).map PK.row1 := by simp [PK.row1,dptr,hp2]
 rw [er] at v6
 have h6 : DI e' S6 := h2.fr ff
 have hD6 := hd2.fr ff
 obtain ⟨S7,e7,h7,ch7⟩ := h.put_list (S1 := S6) (s' := s6) (D' := d.D ++ [e']) (fun y hy => (ff.eq y (by omega)).trans (hkS y hy)) (by omega) v6.rows (fun q hq => by
   have hq' := v6.lo q hq
   refine ⟨by omega,by omega,fun e he g => ?_⟩
   rcases Yab.1 he with k | k
   ·have := (h.rooms e k).lt g; omega
   ·simp at k; subst k; have := h2.lt g; omega) (by simp; omega) (fun e he => by
   rcases Yab.1 he with k | k
   ·exact hD6.rooms e k
   ·simp at k; subst k; exact h6) (by
   rw [Yad]
   refine ⟨h.keys,List.pairwise_singleton _ _,fun a ha b hb => ?_⟩
   simp at hb
   subst hb
   intro g
   refine hno a ha (g.trans ?_)
   unfold Dr.key
   rw [hn2,hn0]) (by
   rw [Yad]
   refine ⟨h.own,List.pairwise_singleton _ _,fun a ha b hb id g g' => ?_⟩
   simp at hb
   subst hb
   have := (h.rooms a ha).lt g
   have := ho' id g'
   omega) (fun e he g => by
   rcases Yab.1 he with k | k
   ·exact h.nw e k g
   ·simp at k; subst k; have := ho' _ g; have := h.hi; omega) (fun e he y g => by
   rcases Yab.1 he with k | k
   ·exact .inl (.inr (.inr ⟨e,k,g⟩))
   ·simp at k; subst k; exact .inr (ho' _ g))
 simp only
 rw [r5,obs,e6,obs,obs]
 simp only
 rw [e7,obs,Y9.J2,← hp2]
 refine ⟨_,0,_,S7,rfl,h7,ch7,.new hno (by rw [hn2,hn0]) (by rw [hm2,hm0]; rfl) hR hc⟩
theorem FndD.uniq (h : DocI x d S) {a b : Dr} (ha : a ∈ d.D) (hb : b ∈ d.D) (hk : a.key = b.key) : a = b := by
 obtain ⟨i,hi,rfl⟩ := Yag ha
 obtain ⟨j,hj,rfl⟩ := Yag hb
 rcases Nat.lt_trichotomy i j with g | g | g
 ·exact absurd hk (Yap.1 h.keys i j hi hj g)
 ·subst g; rfl
 ·exact absurd hk.symm (Yap.1 h.keys j i hj hi g)
theorem Zaha (h : DocI x d S) (id : Int) (name : List UInt8) (hl : name.length ≤ 1000) (hcnt : d.D.length < 900) (hms : ∀ e ∈ d.D,e.ms.length < 900) : DJoined x d S id name (Y9.f 2000 (some (HA.cell0 x.w)) id name S) := by
 obtain ⟨o,S1,e1,ho,f1⟩ := Zaem h name hl
 have h1 := h.fr f1
 rw [Y9.f,e1,obs]
 refine DJoined.pre f1 ?_
 -- behind the look
 have main : ∀ o : Option Dr,FndD d.D name o → (∀ e,o = some e → id ∉ e.ids) → DJoined x d S1 id name (Y9.J0 2000 (some (HA.cell0 x.w)) id name (Zacr o) false S1) := by
  intro o ho hno
  obtain ⟨so,L,S2,e2,r2,q2,f2,hp,_⟩ := dof_spec h1 id false
  have h2 := h1.fr f2
  have hlen : (so.len : Int) = (cntD d.D id : Int) := by
   rw [← Zx3 r2]
   simp only [Ya9]
   rw [hp.length_eq]
   rfl
  have hnot : ∀ e ∈ d.D,e.key = name.map low → id ∉ e.ids := fun e he hk => by
   cases ho with
   | @some e1 he1 hk1 => rw [FndD.uniq h he he1 (hk.trans hk1.symm)]; exact hno _ rfl
   | none g => exact absurd hk (g e he)
  rw [Y9.J0,if_neg (by simp),e2,obs,obs]
  simp only
  rw [h2.ldJ,obs,h1.ldJ,obs,if_pos rfl,hlen]
  refine DJoined.pre f2 ?_
  by_cases hJ : x.mJ ≤ (cntD d.D id : Int)
  ·rw [if_pos hJ,Y9.J1,if_pos rfl]
   exact ⟨none,405,d,S2,rfl,h2,Chg.refl _ _,.full hnot (.inl hJ)⟩
  ·rw [if_neg (by simpa using hJ)]
   cases ho with
   | @some e he hk =>
    rw [if_neg (by simp [Zacr])]
    exact Zafn h2 he id name hk (hno e rfl) (by omega) (hms e he)
   | none g =>
    rw [if_pos (by rfl),obs,h2.lds,obs,obs,h2.ldR,obs,h2.slen]
    by_cases hR : x.mR ≤ (d.D.length : Int)
    ·rw [decide_eq_true hR,Y9.J1,if_pos rfl]
     exact ⟨none,405,d,S2,rfl,h2,Chg.refl _ _,.full hnot (.inr ⟨g,hR⟩)⟩
    ·rw [decide_eq_false hR]
     exact Zaiq h2 id name hl g (by omega) (by omega) hcnt
 cases ho with
 | @some e he hk =>
  obtain ⟨r,e3,g⟩ := Zaa2 (h1.rooms e he) id
  have e3' : Y0.f 2000 (Zacr (some e)) id S1 = some (r,S1) := e3
  rw [if_pos (by rfl)]
  simp only
  rw [e3',obs]
  by_cases hin : id ∈ e.ids
  ·have : decide (r ≥ 0) = true := decide_eq_true (g.2 hin)
   simp only
   rw [this,Y9.J0,if_pos rfl]
   exact ⟨_,0,d,S1,rfl,h1,Chg.refl _ _,.stay he hk hin⟩
  ·have : decide (r ≥ 0) = false := decide_eq_false (fun k => hin (g.1 k))
   simp only
   rw [this]
   exact main (some e) (.some he hk) (fun e1 h1 => by cases h1; exact hin)
 | none g =>
  rw [if_neg (by simp [Zacr])]
  exact main none (.none g) (fun e1 h1 => by cases h1)
end
section
variable {x : Dw} {d : Dt} {S S' : HS}
theorem DI.pEq {a b : Dr} (ha : DI a S) (hb : DI b S) : S.pEq (some (HA.cell0 a.p)) (some (HA.cell0 b.p)) = some (decide (a.p = b.p)) := by
 have oa : S.ptrObj (HA.cell0 a.p) = true := by simp only [HS.ptrObj,HA.cell0,ha.cell]; simp
 have ob : S.ptrObj (HA.cell0 b.p) = true := by simp only [HS.ptrObj,HA.cell0,hb.cell]; simp
 by_cases h : a.p = b.p
 ·rw [decide_eq_true h]
  simp [HS.pEq,Go.Proofs.YtbmfomkfmpppiaaGreat.HL.pEq,HA.cell0,h]
 ·rw [decide_eq_false h]
  have h1 : ¬ ((HA.cell0 a.p).id = (HA.cell0 b.p).id ∧ (HA.cell0 a.p).i = (HA.cell0 b.p).i ∧ (HA.cell0 a.p).j = (HA.cell0 b.p).j) := fun g => h g.1
  have h2 : (HA.cell0 a.p).id ≠ (HA.cell0 b.p).id ∧ S.ptrObj (HA.cell0 a.p) = true ∧ S.ptrObj (HA.cell0 b.p) = true := ⟨h,oa,ob⟩
  have e1 : Go.Proofs.YtbmfomkfmpppiaaGreat.HL.pEq (some (HA.cell0 a.p)) (some (HA.cell0 b.p)) = none := by unfold Go.Proofs.YtbmfomkfmpppiaaGreat.HL.pEq; exact if_neg h1
  unfold HS.pEq
  rw [e1]
  exact if_pos h2
inductive DP (D : List Dr) (id : Int) (key : List UInt8) : Bool → List Dr → Prop
 | none (h : ∀ e ∈ D,e.key = key → id ∉ e.ids) : DP D id key false D
 | stay {A B e e'} (hD : D = A ++ e :: B) (hk : e.key = key) (hin : id ∈ e.ids) (hp : e'.p = e.p) (hn : e'.name = e.name) (hms : ∃ i,∃ hi : i < e.ms.length,(e.ms[i]'hi).1 = id ∧ e'.ms = e.ms.eraseIdx i) (hne : e'.ms ≠ []) : DP D id key true (A ++ e' :: B)
 | gone {A B e} (hD : D = A ++ e :: B) (hk : e.key = key) (hin : id ∈ e.ids) (hms : e.ms.length = 1) : DP D id key true (A ++ B)
theorem Zair {A B : List Dr} {e : Dr} (h : DocI x d S) (hD : d.D = A ++ e :: B) :
  ∃ s' S',Y11.L1 2000 2000 (some (HA.cell0 x.w)) (some (HA.cell0 e.p)) Sl.nil 0 S = some (true,S') ∧ DocI x ⟨s',A ++ B⟩ S' ∧ Chg (OD x d) (OD x ⟨s',A ++ B⟩) S S' := by
 have hcnt := h.cnt
 have he : e ∈ d.D := by rw [hD]; simp
 have hdis : ∀ y,y ∈ A ∨ y ∈ B → y.p ≠ e.p := fun y hy g => by
  have hpw := h.own
  rw [hD,Yad,Yah] at hpw
  obtain ⟨p1,⟨p2,p3⟩,p4⟩ := hpw
  rcases hy with hy | hy
  ·exact p4 y hy e (by simp) y.p (.inl rfl) (.inl g)
  ·exact p2 y hy y.p (.inl g) (.inl rfl)
 have hall : d.D.filter (fun a => !decide (a.p = e.p)) = A ++ B := by
  rw [hD,Ybh,List.filter_cons,if_neg (by simp)]
  congr 1
  ·exact List.filter_eq_self.2 fun a ha => by simpa using hdis a (.inl ha)
  ·exact List.filter_eq_self.2 fun a ha => by simpa using hdis a (.inr ha)
 have hloop : ∀ f i (T : HS) (y8 : Sl),d.D.length - i < f → i ≤ d.D.length → Fr S.next S T → Vec S.next T 1 y8 ((((d.D.take i).filter fun a => !decide (a.p = e.p)).map dptr).map PK.row1) →
   ∃ s' S',Y11.L1 2000 f (some (HA.cell0 x.w)) (some (HA.cell0 e.p)) y8 (i : Int) T = some (true,S') ∧ DocI x ⟨s',A ++ B⟩ S' ∧ Chg (OD x d) (OD x ⟨s',A ++ B⟩) S S' := by
  intro f
  induction f with
  | zero => intro i T y8 h; omega
  | succ f ih =>
   intro i T y8 hf hi hfr hv
   have hT := h.fr hfr
   have hle := hfr.le
   rw [Y11.L1,obs,hT.lds,obs,hT.slen]
   by_cases hlt : i < d.D.length
   ·obtain ⟨ad,a1,a2⟩ := hT.at_ hlt
    have hm := Yae hlt
    have hw : w64 ((i : Int) + 1) = ((i + 1 : Nat) : Int) := by rw [Zx2 (by omega) (by omega)]; simp
    have htk : (d.D.take (i + 1)).filter (fun a => !decide (a.p = e.p)) = (d.D.take i).filter (fun a => !decide (a.p = e.p)) ++ if (!decide (d.D[i].p = e.p)) = true then [d.D[i]] else [] := by
     rw [Yaf hlt,Ybh]
     congr 1
     rw [List.filter_cons,List.filter_nil]
    have hfl : ((d.D.take i).filter (fun a => !decide (a.p = e.p))).length ≤ 900 := by
     have := Ybi (fun a : Dr => !decide (a.p = e.p)) (d.D.take i)
     rw [Yar] at this
     omega
    rw [if_pos (by omega),obs,hT.lds,obs,a1,obs,a2,obs,(hT.rooms _ hm).pEq (hT.rooms _ he),obs]
    by_cases hc : d.D[i].p = e.p
    ·rw [decide_eq_true hc,if_neg (by simp),Y11.J2,hw]
     refine ih (i + 1) T y8 (by omega) (by omega) hfr ?_
     rw [htk,if_neg (by simpa using hc),Ya7]
     exact hv
    ·rw [decide_eq_false hc,if_pos (by simp),obs,hT.lds,obs,a1,obs,a2,obs,letv]
     obtain ⟨s6,S6,r5,e6,v6,f6⟩ := Zads [.ptr (some (HA.cell0 d.D[i].p))] hv hle (by simp; omega)
     rw [r5,obs,e6,obs,Y11.J2,hw]
     refine ih (i + 1) S6 s6 (by omega) (by omega) (hfr.trans f6) ?_
     rw [htk,if_pos (by simpa using hc)]
     have er : ((((d.D.take i).filter fun a => !decide (a.p = e.p)).map dptr).map PK.row1) ++ [[.ptr (some (HA.cell0 d.D[i].p))]] = ((((d.D.take i).filter fun a => !decide (a.p = e.p)) ++ [d.D[i]]).map dptr).map PK.row1 := by simp [PK.row1,dptr]
     rw [er] at v6
     exact v6
   ·obtain rfl : i = d.D.length := by omega
    rw [Yao,hall] at hv
    have hsub : ∀ y ∈ A ++ B,y ∈ d.D := fun y hy => by
     rw [hD]
     simp only [Yab,Yac] at hy ⊢
     rcases hy with g | g <;> simp [g]
    have hsl : (A ++ B).Sublist d.D := by rw [hD]; exact List.Sublist.append (List.Sublist.refl _) (List.sublist_cons_self _ _)
    obtain ⟨S7,e7,h7,ch7⟩ := h.put_list (S1 := T) (s' := y8) (D' := A ++ B) (fun y hy => hfr.eq y hy) hle hv.rows (fun q hq => by
     have hq' := hv.lo q hq
     exact ⟨by omega,by omega,fun y hy g => by have := (h.rooms y (hsub y hy)).lt g; omega⟩) (by have := hsl.length_le; omega) (fun y hy => hT.rooms y (hsub y hy)) (h.keys.sublist hsl) (h.own.sublist hsl) (fun y hy => h.nw y (hsub y hy)) (fun y hy id g => .inl (.inr (.inr ⟨y,hsub y hy,g⟩)))
    rw [if_neg (by omega),obs,e7,obs,Y11.J3]
    exact ⟨y8,S7,rfl,h7,ch7⟩
 exact hloop 2000 0 S Sl.nil (by omega) (Yak _) (Fr.refl _ _) (Vec.nil : Vec S.next S 1 Sl.nil [])
def DParted (x : Dw) (d : Dt) (S : HS) (id : Int) (key : List UInt8) (r : Option (Bool × HS)) : Prop :=
 ∃ b d' S',r = some (b,S') ∧ DocI x d' S' ∧ Chg (OD x d) (OD x d') S S' ∧ DP d.D id key b d'.D
theorem Zahb (h : DocI x d S) (id : Int) (name : List UInt8) (hl : name.length ≤ 1000) : DParted x d S id (name.map low) (Y11.f 2000 (some (HA.cell0 x.w)) id name S) := by
 obtain ⟨o,S1,e1,ho,f1⟩ := Zaem h name hl
 have h1 := h.fr f1
 rw [Y11.f,e1,obs]
 cases ho with
 | none g =>
  rw [if_pos (by rfl),Y11.J0,if_pos rfl]
  exact ⟨false,d,S1,rfl,h1,Chg.of_fr f1,.none fun e he hk => absurd hk (g e he)⟩
 | @some e he hk =>
  rw [if_neg (by simp [Zacr])]
  by_cases hin : id ∈ e.ids
  ·obtain ⟨e',S2,e2,h2,hp,hn,hms,ch⟩ := Zag9 (h1.rooms e he) id hin
   obtain ⟨A,B,hD⟩ := Ybd he
   obtain ⟨h3,ch3⟩ := h1.room_step hD h2 hp hn ch
   have e2' : Y39.f 2000 (Zacr (some e)) id S1 = some (true,S2) := e2
   have he' : e' ∈ A ++ e' :: B := by simp
   have hr2 := h3.rooms e' he'
   simp only
   rw [e2',obs,Y11.J0,if_neg (by simp)]
   have hd : Zacr (some e) = some (HA.cell0 e'.p) := by rw [hp]; rfl
   rw [hd,obs]
   simp only
   rw [hr2.ldS,obs,hr2.slen]
   have hch := (Chg.of_fr (O := OD x d) f1).trans ch3
   by_cases hz : e'.ms = []
   ·obtain ⟨s',S3,e3,h4,ch4⟩ := Zair (A := A) (B := B) (e := e') h3 rfl
    rw [if_pos (by rw [hz]; rfl),e3]
    refine ⟨true,_,S3,rfl,h4,hch.trans ch4,.gone hD hk hin ?_⟩
    obtain ⟨i,hi,_,hm⟩ := hms
    have := congrArg List.length hm
    rw [hz,List.length_eraseIdx_of_lt hi] at this
    simp at this
    omega
   ·rw [if_neg (fun g => hz (Yax.1 (by omega))),Y11.J3]
    exact ⟨true,_,S2,rfl,h3,hch,.stay hD hk hin hp hn hms hz⟩
  ·have e2' : Y39.f 2000 (Zacr (some e)) id S1 = some (false,S1) := ddrop_no (h1.rooms e he) id hin
   simp only
   rw [e2',obs,Y11.J0,if_pos (by rfl)]
   refine ⟨false,d,S1,rfl,h1,Chg.of_fr f1,.none fun y hy hky => ?_⟩
   rw [FndD.uniq h hy he (hky.trans hk.symm)]
   exact hin
end
structure RM (e : Rm) (g : Dr) : Prop where
 name : g.name = e.name
 ms : e.ms.Perm g.ms
theorem RM.key {e : Rm} {g : Dr} (h : RM e g) : g.key = e.key := by unfold Dr.key Rm.key; rw [h.name]
theorem RM.ids {e : Rm} {g : Dr} (h : RM e g) (id : Int) : id ∈ e.ids ↔ id ∈ g.ids := (h.ms.map (·.1)).mem_iff
inductive F2 : List Rm → List Dr → Prop
 | nil : F2 [] []
 | cons {e g R D} (h : RM e g) (t : F2 R D) : F2 (e :: R) (g :: D)
theorem F2.append {A B : List Rm} {A' B' : List Dr} (h : F2 A A') (k : F2 B B') : F2 (A ++ B) (A' ++ B') := by
 induction h with
 | nil => exact k
 | cons h t ih => exact .cons h ih
theorem F2.split : ∀ {A B : List Rm} {D : List Dr},F2 (A ++ B) D → ∃ A' B',D = A' ++ B' ∧ F2 A A' ∧ F2 B B'
 | [],B,D,h => ⟨[],D,rfl,.nil,h⟩
 | a :: A,B,D,h => by
  cases h with
  | cons h t =>
   obtain ⟨A',B',e,h1,h2⟩ := F2.split t
   exact ⟨_ :: A',B',by rw [e]; rfl,.cons h h1,h2⟩
theorem F2.len {R : List Rm} {D : List Dr} (h : F2 R D) : R.length = D.length := by
 induction h with
 | nil => rfl
 | cons _ _ ih => simp [ih]
theorem F2.left {R : List Rm} {D : List Dr} (h : F2 R D) : ∀ e ∈ R,∃ g ∈ D,RM e g := by
 induction h with
 | nil => intro e he; cases he
 | cons h t ih =>
  intro e he
  rcases Yac.1 he with rfl | he
  ·exact ⟨_,Ybc,h⟩
  ·obtain ⟨g,h1,h2⟩ := ih e he
   exact ⟨g,Ybb _ h1,h2⟩
theorem F2.right {R : List Rm} {D : List Dr} (h : F2 R D) : ∀ g ∈ D,∃ e ∈ R,RM e g := by
 induction h with
 | nil => intro e he; cases he
 | cons h t ih =>
  intro e he
  rcases Yac.1 he with rfl | he
  ·exact ⟨_,Ybc,h⟩
  ·obtain ⟨g,h1,h2⟩ := ih e he
   exact ⟨g,Ybb _ h1,h2⟩
theorem F2.filter {p : Rm → Bool} {q : Dr → Bool} (hpq : ∀ e g,RM e g → p e = q g) {R : List Rm} {D : List Dr} (h : F2 R D) : F2 (R.filter p) (D.filter q) := by
 induction h with
 | nil => exact .nil
 | @cons e g R D h t ih =>
  rw [List.filter_cons,List.filter_cons,hpq e g h]
  split
  ·exact .cons h ih
  ·exact ih
def Sim (R : List Rm) (D : List Dr) : Prop := ∃ D',D'.Perm D ∧ F2 R D'
theorem Sim.len {R : List Rm} {D : List Dr} (h : Sim R D) : R.length = D.length := by
 obtain ⟨D',h1,h2⟩ := h
 rw [h2.len,h1.length_eq]
theorem Sim.left {R : List Rm} {D : List Dr} (h : Sim R D) {e : Rm} (he : e ∈ R) : ∃ g ∈ D,RM e g := by
 obtain ⟨D',h1,h2⟩ := h
 obtain ⟨g,h3,h4⟩ := h2.left e he
 exact ⟨g,h1.subset h3,h4⟩
theorem Sim.right {R : List Rm} {D : List Dr} (h : Sim R D) {g : Dr} (hg : g ∈ D) : ∃ e ∈ R,RM e g := by
 obtain ⟨D',h1,h2⟩ := h
 exact h2.right g (h1.symm.subset hg)
def mineR (id : Int) (R : List Rm) : List Rm := R.filter fun e => decide (id ∈ e.ids)
theorem own_keys {x : W} {t : T} {S : HS} (h : RsI x t S) {id : Int} {xs : List KS.Ky} (hs : KS.Srt xs) (hm : ∀ v,v ∈ xs ↔ (id,v) ∈ t.L) : (mineR id t.R).map Rm.key = xs := by
 refine KS.srt_ext ?_ hs fun v => ?_
 ·have hp : t.R.Pairwise fun a b => KS.klt a.key b.key = true := by
   have hs : (t.R.map ent).Pairwise fun a b => cmpL a.1 b.1 < 0 := h.book.srt
   rw [List.pairwise_map] at hs
   refine hs.imp fun {a b} g => ?_
   have g : cmpL a.name b.name < 0 := g
   rw [Zabw] at g
   unfold KS.klt Rm.key
   by_cases hc : slt (a.name.map low) (b.name.map low) = true
   ·exact hc
   ·rw [if_neg hc] at g
    split at g <;> omega
  unfold KS.Srt
  rw [List.pairwise_map]
  exact hp.sublist List.filter_sublist
 ·rw [hm,h.link]
  simp only [mineR,Ya0,Yba,decide_eq_true_eq]
  constructor
  ·rintro ⟨e,⟨h1,h2⟩,h3⟩; exact ⟨e,h1,h3,h2⟩
  ·rintro ⟨e,h1,h3,h2⟩; exact ⟨e,⟨h1,h2⟩,h3⟩
theorem Sim.cnt {R : List Rm} {D : List Dr} (h : Sim R D) (id : Int) : cntD D id = (mineR id R).length := by
 obtain ⟨D',h1,h2⟩ := h
 have h3 := F2.filter (p := fun e => decide (id ∈ e.ids)) (q := fun g => decide (id ∈ g.ids)) (fun e g k => by rw [decide_eq_decide]; exact k.ids id) h2
 unfold cntD mineR
 rw [h3.len]
 exact ((h1.filter _).length_eq).symm
section
variable {x : W} {t : T} {S S0 : HS} {y : Dw} {d : Dt}
theorem Sim.keys (h : RsI x t S) (hs : Sim t.R d.D) (hd : DocI y d S0) {e : Rm} {g : Dr} (he : e ∈ t.R) (hg : g ∈ d.D) (hk : e.key = g.key) : RM e g := by
 obtain ⟨e',he',hr⟩ := hs.right hg
 rw [← h.key_uniq he' he (hr.key.symm.trans hk.symm)]
 exact hr
theorem Sim.change {A B : List Rm} {e e' : Rm} {A' B' : List Dr} {g g' : Dr} (h : RsI x t S) (hd : DocI y d S0) (hs : Sim t.R d.D) (hR : t.R = A ++ e :: B) (hD : d.D = A' ++ g :: B') (hk : e.key = g.key) :
  (RM e' g' → Sim (A ++ e' :: B) (A' ++ g' :: B')) ∧ Sim (A ++ B) (A' ++ B') := by
 obtain ⟨D1,h1,h2⟩ := hs
 rw [hR] at h2
 obtain ⟨A1,C1,e1,k1,k2⟩ := h2.split
 cases k2 with
 | @cons _ g1 _ B1 k3 k4 =>
  have hg1 : g1 ∈ d.D := h1.subset (by rw [e1]; simp)
  have hgD : g ∈ d.D := by rw [hD]; simp
  have : g1 = g := FndD.uniq hd hg1 hgD (k3.key.trans hk)
  subst this
  rw [e1,hD] at h1
  have hp : (A1 ++ B1).Perm (A' ++ B') := (List.perm_cons g1).1 (Ybe.symm.trans (h1.trans Ybe))
  exact ⟨fun hr => ⟨A1 ++ g' :: B1,Ybe.trans ((hp.cons _).trans Ybe.symm),k1.append (.cons hr k4)⟩,⟨A1 ++ B1,hp,k1.append k4⟩⟩
theorem Sim.add {R : List Rm} {D : List Dr} (hs : Sim R D) {e' : Rm} {g' : Dr} (hr : RM e' g') (i : Nat) : Sim (R.take i ++ e' :: R.drop i) (D ++ [g']) := by
 obtain ⟨D1,h1,h2⟩ := hs
 rw [← Yas i R] at h2
 obtain ⟨A1,B1,e1,k1,k2⟩ := h2.split
 rw [e1] at h1
 exact ⟨A1 ++ g' :: B1,Ybe.trans ((h1.cons _).trans (List.perm_append_singleton _ _).symm),k1.append (.cons hr k2)⟩
def nameR (R : List Rm) (q : Option HA) (n : List UInt8) : Prop := (q = none ∧ n = []) ∨ ∃ e ∈ R,q = some (HA.cell0 e.p) ∧ n = e.name
def nameD (D : List Dr) (q : Option HA) (n : List UInt8) : Prop := (q = none ∧ n = []) ∨ ∃ e ∈ D,q = some (HA.cell0 e.p) ∧ n = e.name
theorem sim_join (h : RsI x t S) (hd : DocI y d S0) (hs : Sim t.R d.D) (hmR : x.mR = y.mR) (hmJ : x.mJ = y.mJ) {id : Int} {name : List UInt8} {q q' : Option HA} {c c' : Int} {R' : List Rm} {L' : List Pr} {D' : List Dr} (hj : JRes x t id name q c R' L') (hj' : DJ y d.D id name q' c' D') :
  c = c' ∧ Sim R' D' ∧ ∃ n,nameR R' q n ∧ nameD D' q' n := by
 obtain ⟨xs,k1,k2,_,_⟩ := h.rel.at1 id
 have hcnt : cntD d.D id = xs.length := by rw [hs.cnt,← own_keys h k1 k2]; simp
 have hnR : ∀ {e : Rm},e ∈ t.R → e.key = name.map low → ¬ ∀ g ∈ d.D,g.key ≠ name.map low := fun he hk g => by
  obtain ⟨g1,h1,h2⟩ := hs.left he
  exact g g1 h1 (h2.key.trans hk)
 have hnD : ∀ {g : Dr},g ∈ d.D → g.key = name.map low → ¬ ∀ e ∈ t.R,e.key ≠ name.map low := fun hg hk g => by
  obtain ⟨e1,h1,h2⟩ := hs.right hg
  exact g e1 h1 (h2.key.symm.trans hk)
 have hlen := hs.len
 cases hj with
 | @stay e he hk hin =>
  cases hj' with
  | @stay g hg hk' hin' =>
   have hr := hs.keys h hd he hg (hk.trans hk'.symm)
   exact ⟨rfl,hs,e.name,.inr ⟨e,he,rfl,rfl⟩,.inr ⟨g,hg,rfl,hr.name.symm⟩⟩
  | full hnot hf =>
   obtain ⟨g,hg,hr⟩ := hs.left he
   exact absurd ((hr.ids id).1 hin) (hnot g hg (hr.key.trans hk))
  | @come A B g g' hD hk' hnot hp hn hms hc =>
   have hg : g ∈ d.D := by rw [hD]; simp
   have hr := hs.keys h hd he hg (hk.trans hk'.symm)
   exact absurd ((hr.ids id).1 hin) hnot
  | new hno _ _ _ _ => exact absurd hno (hnR he hk)
 | full hnot hf =>
  cases hj' with
  | @stay g hg hk' hin' =>
   obtain ⟨e,he,hr⟩ := hs.right hg
   exact absurd ((h.link _ _).2 ⟨e,he,hr.key.symm.trans hk',(hr.ids id).2 hin'⟩) hnot
  | full hnot' hf' => exact ⟨rfl,hs,[],.inl ⟨rfl,rfl⟩,.inl ⟨rfl,rfl⟩⟩
  | @come A B g g' hD hk' hnot' hp hn hms hc =>
   have hg : g ∈ d.D := by rw [hD]; simp
   rcases hf with k | ⟨k,_⟩
   ·have := k xs k1 k2; omega
   ·exact absurd k (hnD hg hk')
  | new hno hn hms hl hc =>
   rcases hf with k | ⟨_,k⟩
   ·have := k xs k1 k2; omega
   ·omega
 | @come A B e e' hR hk hnot hp hn hms hc =>
  have he : e ∈ t.R := by rw [hR]; simp
  cases hj' with
  | @stay g hg hk' hin' =>
   have hr := hs.keys h hd he hg (hk.trans hk'.symm)
   exact absurd ((hr.ids id).2 hin') hnot
  | full hnot' hf' =>
   have := hc xs k1 k2
   rcases hf' with k | ⟨k,_⟩
   ·omega
   ·exact absurd k (hnR he hk)
  | @come A' B' g g' hD hk' hnot' hp' hn' hms' hc' =>
   have hg : g ∈ d.D := by rw [hD]; simp
   have hr := hs.keys h hd he hg (hk.trans hk'.symm)
   have hr' : RM e' g' := by
    refine ⟨by rw [hn',hn,hr.name],?_⟩
    obtain ⟨i,hi⟩ := hms
    rw [hi,hms',Ya8,List.singleton_append]
    refine Ybe.trans ?_
    rw [Yas]
    exact (hr.ms.cons _).trans (List.perm_append_singleton _ _).symm
   exact ⟨rfl,(Sim.change h hd hs hR hD (hk.trans hk'.symm)).1 hr',e'.name,.inr ⟨e',by simp,rfl,rfl⟩,.inr ⟨g',by simp,rfl,hr'.name.symm⟩⟩
  | new hno _ _ _ _ => exact absurd hno (hnR he hk)
 | @new i e' hno hn hms hl hc =>
  have hcx := hc xs k1 k2
  cases hj' with
  | @stay g hg hk' hin' => exact absurd hno (hnD hg hk')
  | full hnot' hf' =>
   rcases hf' with k | ⟨_,k⟩
   ·omega
   ·omega
  | @come A' B' g g' hD hk' hnot' hp' hn' hms' hc' =>
   have hg : g ∈ d.D := by rw [hD]; simp
   exact absurd hno (hnD hg hk')
  | @new g' hno' hn' hms' hl' hc' =>
   have hr' : RM e' g' := ⟨by rw [hn',hn],by rw [hms,hms']⟩
   exact ⟨rfl,hs.add hr' i,e'.name,.inr ⟨e',by simp,rfl,rfl⟩,.inr ⟨g',by simp,rfl,hr'.name.symm⟩⟩
theorem Zac2 {xs : List MK.En} {i : Nat} (hi : i < xs.length) : xs.Perm (xs[i] :: xs.eraseIdx i) := by
 have e : xs = xs.take i ++ xs[i] :: xs.drop (i + 1) := by rw [← Yal hi,Yas]
 rw [List.eraseIdx_eq_take_drop_succ]
 conv => lhs; rw [e]
 exact Ybe
theorem Zahc {xs ys : List MK.En} (h : xs.Perm ys) (hn : (ys.map (·.1)).Nodup) {i j : Nat} (hi : i < xs.length) (hj : j < ys.length) (he : (xs[i]'hi).1 = (ys[j]'hj).1) : (xs.eraseIdx i).Perm (ys.eraseIdx j) := by
 have h1 : xs.Perm (xs[i] :: xs.eraseIdx i) := Zac2 hi
 have h2 : ys.Perm (ys[j] :: ys.eraseIdx j) := Zac2 hj
 have h3 : xs[i] = ys[j] := by
  have hm : xs[i] ∈ ys := h.subset (Yae hi)
  obtain ⟨k,hk,e⟩ := Yag hm
  have : k = j := by
   have hne := Yap.1 (List.nodup_iff_pairwise_ne.1 hn)
   have hkj : (ys[k]'hk).1 = (ys[j]'hj).1 := by rw [e,he]
   rcases Nat.lt_trichotomy k j with g | g | g
   ·exact absurd (by rw [Yaj,Yaj]; exact hkj) (hne k j (by simpa using hk) (by simpa using hj) g)
   ·exact g
   ·exact absurd (by rw [Yaj,Yaj]; exact hkj.symm) (hne j k (by simpa using hj) (by simpa using hk) g)
  subst this
  exact e.symm
 rw [h3] at h1
 exact (List.perm_cons _).1 (h1.symm.trans (h.trans h2))
theorem sim_part (h : RsI x t S) (hd : DocI y d S0) (hs : Sim t.R d.D) {id : Int} {key : List UInt8} {b : Bool} {R' : List Rm} {L' : List Pr} {D' : List Dr} (hj : PRes t id key R' L') (hj' : DP d.D id key b D') : decide ((id,key) ∈ t.L) = b ∧ Sim R' D' := by
 have hnR : ∀ {e : Rm},e ∈ t.R → e.key = key → id ∈ e.ids → ¬ ∀ g ∈ d.D,g.key = key → id ∉ g.ids := fun he hk hin g => by
  obtain ⟨g1,h1,h2⟩ := hs.left he
  exact g g1 h1 (h2.key.trans hk) ((h2.ids id).1 hin)
 have hL : ∀ {e : Rm},e ∈ t.R → e.key = key → id ∈ e.ids → decide ((id,key) ∈ t.L) = true := fun he hk hin => decide_eq_true ((h.link _ _).2 ⟨_,he,hk,hin⟩)
 have hnD : ∀ {g : Dr},g ∈ d.D → g.key = key → id ∈ g.ids → (id,key) ∈ t.L := fun hg hk hin => by
  obtain ⟨e1,h1,h2⟩ := hs.right hg
  exact (h.link _ _).2 ⟨e1,h1,h2.key.symm.trans hk,(h2.ids id).2 hin⟩
 cases hj with
 | none hno =>
  cases hj' with
  | none _ => exact ⟨decide_eq_false hno,hs⟩
  | @stay A B g g' hD hk' hin' _ _ _ _ => exact absurd (hnD (by rw [hD]; simp) hk' hin') hno
  | @gone A B g hD hk' hin' _ => exact absurd (hnD (by rw [hD]; simp) hk' hin') hno
 | @stay A B e e' hR hk hin hp hn hms hne =>
  have he : e ∈ t.R := by rw [hR]; simp
  obtain ⟨i,_,hf,hms⟩ := hms
  obtain ⟨hi,hid⟩ := MK.found_at hf
  cases hj' with
  | none hno => exact absurd hno (hnR he hk hin)
  | @stay A' B' g g' hD hk' hin' hp' hn' hms' hne' =>
   have hg : g ∈ d.D := by rw [hD]; simp
   have hr := hs.keys h hd he hg (hk.trans hk'.symm)
   obtain ⟨j,hj,hjd,hms'⟩ := hms'
   have hr' : RM e' g' := ⟨by rw [hn',hn,hr.name],by rw [hms,hms']; exact Zahc hr.ms (hd.rooms g hg).nd hi hj (hid.trans hjd.symm)⟩
   exact ⟨hL he hk hin,(Sim.change h hd hs hR hD (hk.trans hk'.symm)).1 hr'⟩
  | @gone A' B' g hD hk' hin' hms' =>
   have hg : g ∈ d.D := by rw [hD]; simp
   have hr := hs.keys h hd he hg (hk.trans hk'.symm)
   have h1 := hr.ms.length_eq
   exfalso
   apply hne
   apply Yax.1
   rw [hms,List.length_eraseIdx_of_lt hi]
   omega
 | @gone A B e hR hk hin hms =>
  have he : e ∈ t.R := by rw [hR]; simp
  cases hj' with
  | none hno => exact absurd hno (hnR he hk hin)
  | @stay A' B' g g' hD hk' hin' hp' hn' hms' hne' =>
   have hg : g ∈ d.D := by rw [hD]; simp
   have hr := hs.keys h hd he hg (hk.trans hk'.symm)
   have h1 := hr.ms.length_eq
   obtain ⟨j,hj,hjd,hms'⟩ := hms'
   exfalso
   apply hne'
   apply Yax.1
   rw [hms',List.length_eraseIdx_of_lt hj]
   omega
  | @gone A' B' g hD hk' hin' hms' =>
   exact ⟨hL he hk hin,(Sim.change (e' := e) (g' := g) h hd hs hR hD (hk.trans hk'.symm)).2⟩
end
namespace KI
theorem refHas_spec {k : Nat} {s : Sl} {xs : List Ky} {t : Ky} {S : HS} (h : S.rows s 1 = some (xs.map row1)) (hl : xs.length < k) (hl2 : xs.length ≤ 1000000) : Y29.f k s t S = some (decide (t ∈ xs),S) := by
 have hsl : (s.len : Int) = xs.length := by rw [← Zx3 h]; simp
 have hloop : ∀ f i,xs.length - i < f → i ≤ xs.length → Y29.L0 k f s t (i : Int) S = some (decide (t ∈ xs.drop i),S) := by
  intro f
  induction f with
  | zero => intro i h; omega
  | succ f ih =>
   intro i hf hi
   rw [Y29.L0,hsl]
   by_cases hlt : i < xs.length
   ·obtain ⟨ad,a1,a2⟩ := ldK_at h hlt
    rw [if_pos (by omega),a1,obs,a2,obs,Yal hlt]
    by_cases he : xs[i] = t
    ·rw [if_pos he,decide_eq_true (by simp [he])]
    ·rw [if_neg he,Zx2 (by omega) (by omega),show ((i : Int) + 1) = ((i + 1 : Nat) : Int) by simp,ih (i + 1) (by omega) (by omega)]
     have : (t ∈ xs[i] :: xs.drop (i + 1)) ↔ t ∈ xs.drop (i + 1) := by
      rw [Yac]; exact ⟨fun h => h.elim (fun e => absurd e.symm he) id,.inr⟩
     simp only [this]
   ·rw [if_neg (by omega),List.drop_of_length_le (by omega),decide_eq_false (by simp)]
 rw [Y29.f]
 exact (hloop k 0 (by omega) (Yak _)).trans (by rw [List.drop_zero])
theorem refSame_spec {k : Nat} {s s' : Sl} {xs ys : List Ky} {S : HS} (h : S.rows s 1 = some (xs.map row1)) (h' : S.rows s' 1 = some (ys.map row1)) (hl : xs.length < k) (hl2 : xs.length ≤ 1000000) : Y26.f k s s' S = some (decide (xs = ys),S) := by
 have hsl : (s.len : Int) = xs.length := by rw [← Zx3 h]; simp
 have hsl' : (s'.len : Int) = ys.length := by rw [← Zx3 h']; simp
 rw [Y26.f,hsl,hsl']
 by_cases hle : xs.length = ys.length
 ·rw [if_neg (by simp [hle])]
  have hloop : ∀ f i,xs.length - i < f → i ≤ xs.length → xs.take i = ys.take i → Y26.L0 k f s s' (i : Int) S = some (decide (xs = ys),S) := by
   intro f
   induction f with
   | zero => intro i h; omega
   | succ f ih =>
    intro i hf hi ht
    rw [Y26.L0,hsl]
    by_cases hlt : i < xs.length
    ·obtain ⟨ad,a1,a2⟩ := ldK_at h hlt
     obtain ⟨ad',b1,b2⟩ := ldK_at h' (i := i) (by omega)
     rw [if_pos (by omega),a1,obs,a2,obs,b1,obs,b2,obs]
     by_cases he : xs[i] = ys[i]'(by omega)
     ·rw [if_neg (by simpa using he),Zx2 (by omega) (by omega),show ((i : Int) + 1) = ((i + 1 : Nat) : Int) by simp]
      refine ih (i + 1) (by omega) (by omega) ?_
      rw [Yaf hlt,Yaf (by omega),ht,he]
     ·rw [if_pos (by simpa using he),decide_eq_false (fun e => he (by subst e; rfl))]
    ·rw [if_neg (by omega),decide_eq_true]
     rw [Yaz (by omega),Yaz (by omega)] at ht
     exact ht
  exact hloop k 0 (by omega) (Yak _) (by simp)
 ·rw [if_pos (by simpa using fun h => hle (by exact_mod_cast h)),decide_eq_false (fun e => hle (by rw [e]))]
def addG (t : Ky) : List Ky → Bool → List Ky
 | [],true => []
 | [],false => [t]
 | x :: xs,true => x :: addG t xs true
 | x :: xs,false => if x > t then t :: x :: addG t xs true else x :: addG t xs false
def addL (t : Ky) (xs : List Ky) : List Ky := if t ∈ xs then xs else addG t xs false
theorem Zaca (t : Ky) : ∀ xs,addG t xs true = xs := by
 intro xs
 induction xs with
 | nil => rfl
 | cons x xs ih => rw [addG,ih]
theorem Zagg (t v : Ky) : ∀ xs,v ∈ addG t xs false ↔ v = t ∨ v ∈ xs := by
 intro xs
 induction xs with
 | nil => simp [addG]
 | cons x xs ih =>
  rw [addG]
  split
  ·rw [Zaca]; simp
  ·rw [Yac,ih,Yac]
   constructor
   ·rintro (h | h | h)
    ·exact .inr (.inl h)
    ·exact .inl h
    ·exact .inr (.inr h)
   ·rintro (h | h | h)
    ·exact .inr (.inl h)
    ·exact .inl h
    ·exact .inr (.inr h)
theorem addL_mem (t v : Ky) (xs : List Ky) : v ∈ addL t xs ↔ v = t ∨ v ∈ xs := by
 unfold addL
 split
 ·rename_i h; exact ⟨.inr,fun g => g.elim (fun e => e ▸ h) id⟩
 ·exact Zagg t v xs
theorem addG_srt {t : Ky} : ∀ {xs},Srt xs → t ∉ xs → Srt (addG t xs false) := by
 intro xs
 induction xs with
 | nil => intro _ _; exact List.pairwise_singleton _ _
 | cons x xs ih =>
  intro h hn
  have h' := Yah.1 h
  simp only [Yac,not_or] at hn
  rw [addG]
  split
  ·rename_i hx
   rw [Zaca]
   refine Yah.2 ⟨fun b hb => ?_,h⟩
   have hx' : klt t x = true := decide_eq_true hx
   rcases Yac.1 hb with rfl | g
   ·exact hx'
   ·exact klt_trans hx' (h'.1 b g)
  ·rename_i hx
   refine Yah.2 ⟨fun b hb => ?_,ih h'.2 hn.2⟩
   rcases (Zagg t b xs).1 hb with rfl | g
   ·rcases klt_tri x b with g | g | g
    ·exact g
    ·exact absurd g.symm hn.1
    ·exact absurd (of_decide_eq_true g) hx
   ·exact h'.1 b g
theorem addL_srt {t : Ky} {xs : List Ky} (h : Srt xs) : Srt (addL t xs) := by
 unfold addL
 split
 ·exact h
 ·rename_i hn; exact addG_srt h hn
theorem addG_len (t : Ky) : ∀ xs,(addG t xs false).length = xs.length + 1 := by
 intro xs
 induction xs with
 | nil => rfl
 | cons x xs ih =>
  rw [addG]
  split
  ·rw [Zaca]; rfl
  ·rw [List.length_cons,ih]; rfl
theorem addL_len (t : Ky) (xs : List Ky) : (addL t xs).length ≤ xs.length + 1 ∧ xs.length ≤ (addL t xs).length := by
 unfold addL
 split
 ·exact ⟨by omega,Yaa _⟩
 ·rw [addG_len]; exact ⟨Yaa _,by omega⟩
theorem refAdd_spec {k : Nat} {s : Sl} {xs : List Ky} {t : Ky} {S : HS} (h : Rd S.next S 1 s (xs.map row1)) (hl : xs.length < k) (hl2 : xs.length < 100000) :
  ∃ s' S',Y20.f k s t S = some (s',S') ∧ Rd S'.next S' 1 s' ((addL t xs).map row1) ∧ Fr S.next S S' ∧ (s' = s ∨ ∀ q,s'.a = some q → S.next ≤ q.1) := by
 rw [Y20.f,refHas_spec h.rows hl (by omega),obs]
 by_cases hm : t ∈ xs
 ·rw [if_pos (decide_eq_true hm)]
  refine ⟨s,S,rfl,?_,Fr.refl _ _,.inl rfl⟩
  unfold addL
  rw [if_pos hm]
  exact h
 ·rw [if_neg (by simpa using hm)]
  have hsl : (s.len : Int) = xs.length := by rw [h.len]; simp
  have hloop : ∀ f i d o T pre,xs.length - i < f → i ≤ xs.length → Vec S.next T 1 o (pre.map row1) → Fr S.next S T → pre.length ≤ 2 * i →
    ∃ s' S',Y20.L0 k f s t o d (i : Int) T = some (s',S') ∧ Vec S.next S' 1 s' ((pre ++ addG t (xs.drop i) d).map row1) ∧ Fr S.next S S' := by
   intro f
   induction f with
   | zero => intro i d o T pre h; omega
   | succ f ih =>
    intro i d o T pre hf hi hv hfr hpl
    have hnT := hfr.le
    rw [Y20.L0,hsl]
    have hJ3 : ∀ o2 T2 (ys : List Ky),Vec S.next T2 1 o2 (ys.map row1) → Fr S.next S T2 → ∃ s' S',Y20.J3 k o2 T2 = some (s',S') ∧ Vec S.next S' 1 s' (ys.map row1) ∧ Fr S.next S S' := fun o2 T2 ys h1 h2 => ⟨o2,T2,rfl,h1,h2⟩
    by_cases hlt : i < xs.length
    ·have hJ2 : ∀ d2 o2 T2 pre2,Vec S.next T2 1 o2 (pre2.map row1) → Fr S.next S T2 → pre2.length ≤ 2 * i + 1 →
       ∃ s' S',Y20.J2 k (Y20.L0 k f) s t o2 d2 (i : Int) T2 = some (s',S') ∧ Vec S.next S' 1 s' ((pre2 ++ xs[i] :: addG t (xs.drop (i + 1)) d2).map row1) ∧ Fr S.next S S' := by
      intro d2 o2 T2 pre2 h1 h2 h3
      obtain ⟨ad,a1,a2⟩ := ldK_at (h.frame h2 (Yaa _)).rows hlt
      have := h2.le
      obtain ⟨o3,T3,e3,r3,v3,f3,_⟩ := app1_spec xs[i] h1 (by omega) (by omega)
      rw [Y20.J2,a1,obs,a2,obs,letv,r3,obs,e3,obs,Zx2 (by omega) (by omega),show ((i : Int) + 1) = ((i + 1 : Nat) : Int) by simp]
      obtain ⟨s',S',e4,v4,f4⟩ := ih (i + 1) d2 o3 T3 (pre2 ++ [xs[i]]) (by omega) (by omega) v3 (h2.trans f3) (by simp; omega)
      exact ⟨s',S',e4,by simpa using v4,f4⟩
     obtain ⟨ad,a1,a2⟩ := ldK_at (h.frame hfr (Yaa _)).rows hlt
     rw [if_pos (by omega),Yal hlt]
     cases d with
     | true =>
      rw [if_neg (by simp),Y20.J1,if_neg (by simp),addG]
      exact hJ2 true o T pre hv hfr (by omega)
     | false =>
      rw [if_pos (by rfl),a1,obs,a2,obs,Y20.J1,addG]
      by_cases hx : xs[i] > t
      ·obtain ⟨o3,T3,e3,r3,v3,f3,_⟩ := app1_spec t hv (by omega) (by omega)
       rw [if_pos (decide_eq_true hx),if_pos hx,letv,r3,obs,e3,obs]
       obtain ⟨s',S',e4,v4,f4⟩ := hJ2 true o3 T3 _ v3 (hfr.trans f3) (by simp; omega)
       exact ⟨s',S',e4,by simpa using v4,f4⟩
      ·rw [if_neg (by simpa using hx),if_neg hx]
       exact hJ2 false o T pre hv hfr (by omega)
    ·rw [if_neg (by omega),List.drop_of_length_le (by omega)]
     cases d with
     | true => rw [if_neg (by simp)]; exact hJ3 o T _ (by simpa [addG] using hv) hfr
     | false =>
      obtain ⟨o3,T3,e3,r3,v3,f3,_⟩ := app1_spec t hv (by omega) (by omega)
      rw [if_pos (by rfl),letv,r3,obs,e3,obs]
      exact hJ3 o3 T3 _ v3 (hfr.trans f3)
  obtain ⟨s',S',e,v,f⟩ := hloop k 0 false Sl.nil S [] (by omega) (Yak _) .nil (Fr.refl _ _) (by simp)
  refine ⟨s',S',e,?_,f,.inr fun q hq => (v.lo q hq).1⟩
  have := v.rd
  simpa [addL,hm] using this
end KI
theorem putF {U : HS} {l : Nat} {o o' : HObj} (h : U.heap l = o') : (U.put l o).put l o' = U := by
 unfold HS.put
 simp only
 congr 1
 funext y
 by_cases hy : y = l
 ·subst hy; simp [h]
 ·simp [hy]
theorem Zz2 {x : W} {t : T} {S : HS} {n : Nat} {H : Hd} (h : RsI x t S) (hn : t.n ≤ 200) (a b : Int) :
  ∃ (r : Bool) (S' : HS),Y4.f (disp 2000 (n + 2)) H 2000 (some (HA.cell0 x.w)) a b S = some (r,S') ∧ (r = true ↔ ∃ e ∈ t.R,a ∈ e.ids ∧ b ∈ e.ids) ∧ Fr S.next S S' := by
 obtain ⟨xs,hs,hm,hxl,_⟩ := h.rel.at1 a
 obtain ⟨es,q1,q2,q3⟩ := Zadx h a xs (fun v hv => (hm v).1 hv)
 have hel : es.length = xs.length := by rw [← q1]; simp
 have hall : ∀ e ∈ t.R,a ∈ e.ids → e ∈ es := fun e he hin => by
  have hk : e.key ∈ xs := (hm _).2 ((Zaa3 h he a).2 hin)
  rw [← q1] at hk
  obtain ⟨e',he',hke⟩ := Ya0.1 hk
  rw [← h.key_uniq (q3 e' he').1 he hke]
  exact he'
 rw [Y4.f,letv,letv]
 simp only [Zxz]
 have f3 : Fr S.next S ((S.new (.cells 1 [[.int .i64 b]] true)).new (.cells 1 [[.bool false]] true)) := (Fr.new (Yaa _) _).trans (Fr.new (by simp only [Zxz]; omega) _)
 have c0 : ((S.new (.cells 1 [[.int .i64 b]] true)).new (.cells 1 [[.bool false]] true)).heap S.next = .cells 1 [[.int .i64 b]] true := by
  rw [Zyn _ (by simp only [Zxz]; omega)]; exact Zxv _ _
 have c1 : ((S.new (.cells 1 [[.int .i64 b]] true)).new (.cells 1 [[.bool false]] true)).heap (S.next + 1) = .cells 1 [[.bool false]] true := Zxv (S.new _) _
 have n3 : ((S.new (.cells 1 [[.int .i64 b]] true)).new (.cells 1 [[.bool false]] true)).next = S.next + 2 := rfl
 generalize (S.new (.cells 1 [[.int .i64 b]] true)).new (.cells 1 [[.bool false]] true) = S2 at f3 c0 c1 n3 ⊢
 have h2 := h.fr f3
 obtain ⟨c,so,S3,e3,k1,k2,k3,k4,f5⟩ := of_spec (nD := n) (H := H) h2 hn a hs hm
 have l5 := f5.le
 have h3 := h2.fr f5
 rw [q2] at k2
 have hT := PK.of_tells (k := 2000) (n := n) (xs := es.map fun e => some (HA.cell0 e.p)) (by simp; omega) (by simp; omega) k1 k2 (fun y => y = c ∨ ∃ q,so.a = some q ∧ q.1 = y) ⟨.inl rfl,fun q hq => .inr ⟨q,hq,rfl⟩⟩
 have hK : ∀ y,(y = c ∨ ∃ q,so.a = some q ∧ q.1 = y) → S2.next ≤ y ∧ y < S3.next := fun y g => by
  rcases g with rfl | ⟨q,hq,rfl⟩
  ·exact k3
  ·exact k4 q hq
 have hOS : ∀ y,OA x t y → y < S.next := fun y ho => h.ltO ho
 rw [e3,obs]
 have hlen : ((es.map fun e => some (HA.cell0 e.p)).map PK.row1).length = es.length := by simp
 have fS3 : Fr S.next S S3 := f3.trans (f5.mono (by omega))
 obtain ⟨T2,st,D,O',e5,e6,de,n6,ch,lt,hnn,hq⟩ := Zz3 (D := disp 2000 (n + 2)) (H := H) (fv := .fn (.func 63) [] [.ptr (some (HA.cell0 c))]) (S := S3) (hd := fun vs T =>
   Option.bind (HS.lp T (S3.next + 1)) fun _ => Option.bind (Zzn vs) fun ar => Option.bind (dP ar) fun p => Y4.J0 (disp 2000 (n + 2)) H 2000 (S3.next + 1) (some (HA.cell0 S.next)) (some (HA.cell0 (S.next + 1))) p T)
  (bd := fun i U => if hi : i < es.length then Y4.J0 (disp 2000 (n + 2)) H 2000 (S3.next + 1) (some (HA.cell0 S.next)) (some (HA.cell0 (S.next + 1))) (some (HA.cell0 es[i].p)) (U.put (S3.next + 1) (.loop .ready none)) else none)
  hT (fun y g => (hK y g).2) (fun i O U => U.heap S.next = .cells 1 [[.int .i64 b]] true ∧ U.heap (S.next + 1) = .cells 1 [[.bool false]] true ∧ (∀ y,OA x t y → U.heap y = S.heap y) ∧ (∀ j (hj : j < es.length),j < i → b ∉ es[j].ids) ∧ ∀ y,O y ↔ (y = S.next ∨ y = S.next + 1 ∨ OA x t y))
  (fun cd O U => cd = .ret ∧ U.heap (S.next + 1) = .cells 1 [[.bool true]] true ∧ (∀ y,OA x t y → U.heap y = S.heap y) ∧ (∃ e ∈ es,b ∈ e.ids) ∧ ∀ y,O y ↔ (y = S.next ∨ y = S.next + 1 ∨ OA x t y))
  (fun i O U U' ⟨a1,a2,a3,a5,a4⟩ hk hn => ⟨(hk _ ((a4 _).2 (.inl rfl))).trans a1,(hk _ ((a4 _).2 (.inr (.inl rfl)))).trans a2,fun y ho => (hk y ((a4 y).2 (.inr (.inr ho)))).trans (a3 y ho),a5,a4⟩)
  (fun cd O U U' ⟨a1,a2,a3,a5,a4⟩ hk hn => ⟨a1,(hk _ ((a4 _).2 (.inr (.inl rfl)))).trans a2,fun y ho => (hk y ((a4 y).2 (.inr (.inr ho)))).trans (a3 y ho),a5,a4⟩)
  (fun y => y = S.next ∨ y = S.next + 1 ∨ OA x t y) (fun y ho => by
   rcases ho with rfl | rfl | ho
   ·omega
   ·omega
   ·have := hOS y ho; omega) ⟨(f5.eq _ (by omega)).trans c0,(f5.eq _ (by omega)).trans c1,fun y ho => fS3.eq y (hOS y ho),fun j hj hji => by omega,fun _ => Iff.rfl⟩ (fun y ho g => by
   have := hK y g
   rcases ho with rfl | rfl | ho
   ·omega
   ·omega
   ·have := hOS y ho; omega)
  (fun i hi U hU => by
   have hi' : i < es.length := by simpa using hi
   rw [Zafi hU,obs,Yaj,Yaj,show Zzn (PK.row1 (some (HA.cell0 es[i].p))) = some (.ptr (some (HA.cell0 es[i].p))) from rfl,obs,show dP (HV.ptr (some (HA.cell0 es[i].p))) = some (some (HA.cell0 es[i].p)) from rfl,obs,dif_pos hi',putF hU])
  (fun i hi O1 U ⟨a1,a2,a3,a5,a4⟩ hnu hl hno hlt => by
   have hi' : i < es.length := by simpa using hi
   have he := q3 es[i] (Yae hi')
   have hU : RsI x t U := h.keep a3 (by omega)
   rw [dif_pos hi',Y4.J0,Zaam (Zxs _ _ _),obs,putF hl,obs,Zadl a1,obs]
   obtain ⟨v0,v1,v2,U3,e7,f7⟩ := Zafq (n := n + 1) (H := H) (hU.rooms _ he.1) b
   have l7 := f7.le
   rw [e7,obs,letv]
   have hs0 : (U3.new (.cells 3 [[.int .i64 0,.bool false,.bool false]] true)).sets (HA.cell0 U3.next) [.int .i64 v0,.bool v1,.bool v2] = some ((U3.new (.cells 3 [[.int .i64 0,.bool false,.bool false]] true)).put U3.next (.cells 3 [[.int .i64 v0,.bool v1,.bool v2]] true)) := (Zyo (Zxv U3 _) rfl (by simp)).trans rfl
   simp only
   rw [hs0,obs]
   have f8 : Fr U3.next U3 ((U3.new (.cells 3 [[.int .i64 0,.bool false,.bool false]] true)).put U3.next (.cells 3 [[.int .i64 v0,.bool v1,.bool v2]] true)) := (Fr.new (Yaa _) _).trans (Fr.put (Yaa _) _)
   have n8 : ((U3.new (.cells 3 [[.int .i64 0,.bool false,.bool false]] true)).put U3.next (.cells 3 [[.int .i64 v0,.bool v1,.bool v2]] true)).next = U3.next + 1 := rfl
   generalize (U3.new (.cells 3 [[.int .i64 0,.bool false,.bool false]] true)).put U3.next (.cells 3 [[.int .i64 v0,.bool v1,.bool v2]] true) = U4 at f8 n8 ⊢
   have fr : Fr U.next U U4 := f7.trans (f8.mono l7)
   have hlow : ∀ y,OA x t y → y < U.next := fun y ho => by have := hOS y ho; omega
   by_cases hin : b ∈ es[i].ids
   ·rw [decide_eq_true hin,if_pos rfl,obs,Zzb _ ((fr.eq _ (by omega)).trans a2),obs]
    refine ⟨_,O1,some .ret,rfl,⟨by rw [Zxr]; omega,fun y r1 r2 => ?_,fun y ho => .inl ho⟩,fun y ho => by rw [Zxr]; have := hlt y ho; omega,fun h => (by cases h),fun cd hcd => ⟨by cases hcd; rfl,Zxs _ _ _,fun y ho => ?_,⟨es[i],Yae hi',hin⟩,a4⟩⟩
    ·rw [Zxd _ (fun e => r2 ((a4 y).2 (.inr (.inl e))))]; exact fr.eq y r1
    ·have := hOS y ho
     rw [Zxd _ (by omega)]; exact (fr.eq y (hlow y ho)).trans (a3 y ho)
   ·rw [decide_eq_false hin,if_neg (by simp)]
    refine ⟨_,O1,none,rfl,⟨by omega,fun y r1 r2 => fr.eq y r1,fun y ho => .inl ho⟩,fun y ho => by have := hlt y ho; omega,fun _ => ⟨(fr.eq _ (by omega)).trans a1,(fr.eq _ (by omega)).trans a2,fun y ho => (fr.eq y (hlow y ho)).trans (a3 y ho),fun j hj hji => ?_,a4⟩,fun c h => by cases h⟩
    rcases Yan j i with g | g
    ·exact a5 j hj g
    ·obtain rfl : j = i := by omega
     exact hin)
 erw [e5]
 rw [obs]
 simp only [e6,obs]
 have hle := ch.le
 have hfin : (∀ y,OA x t y → D.heap y = S.heap y) → ∀ y,y < S.next → D.heap y = S.heap y := fun g y hy => by
  by_cases ho : OA x t y
  ·exact g y ho
  ·rw [ch.eq y (by omega) (fun k => by
    rcases k with k | k | k
    ·omega
    ·omega
    ·exact ho k)]
   exact fS3.eq y hy
 cases hst : st with
 | none =>
  obtain ⟨a1,a2,a3,a5,a4⟩ := hnn hst
  rw [hlen] at a5
  simp only [pcode,obs,if_true]
  rw [Zzb _ a2,obs]
  have de2 : ∀ o,(D.put (S.next + 1) o).heap S3.next = .defer := fun o => (Zxd _ (by omega)).trans de
  simp only [HS.leave,de2,obs]
  rw [Zadk ((Zxd _ (by omega)).trans (Zxs _ _ _)),obs]
  refine ⟨false,_,rfl,⟨fun h => (by cases h),fun ⟨e,he,w1,w2⟩ => ?_⟩,⟨by rw [Zxr,Zxr]; omega,fun y hy => ?_⟩⟩
  ·obtain ⟨j,hj,rfl⟩ := Yag (hall e he w1)
   exact absurd w2 (a5 j hj hj)
  ·rw [Zxd _ (by omega),Zxd _ (by omega)]
   exact hfin a3 y hy
 | some cd =>
  obtain ⟨rfl,a2,a3,⟨e,he,w2⟩,a4⟩ := hq cd hst
  simp only [pcode,obs]
  rw [if_pos trivial]
  simp only [HS.leave,de,obs]
  rw [Zadk ((Zxd _ (by omega)).trans a2),obs]
  refine ⟨true,_,rfl,⟨fun _ => ⟨e,(q3 e he).1,(q3 e he).2,w2⟩,fun _ => rfl⟩,⟨by rw [Zxr]; omega,fun y hy => ?_⟩⟩
  rw [Zxd _ (by omega)]
  exact hfin a3 y hy
theorem Zaen {x : Dw} {d : Dt} {S : HS} (h : DocI x d S) (a b : Int) : ∃ r : Bool,Y44.f 2000 (some (HA.cell0 x.w)) a b S = some (r,S) ∧ (r = true ↔ ∃ g ∈ d.D,a ∈ g.ids ∧ b ∈ g.ids) := by
 have hcnt := h.cnt
 have hloop : ∀ f i,d.D.length - i < f → i ≤ d.D.length → (∀ g ∈ d.D.take i,¬ (a ∈ g.ids ∧ b ∈ g.ids)) → ∃ r : Bool,Y44.L0 2000 f (some (HA.cell0 x.w)) a b (i : Int) S = some (r,S) ∧ (r = true ↔ ∃ g ∈ d.D,a ∈ g.ids ∧ b ∈ g.ids) := by
  intro f
  induction f with
  | zero => intro i h; omega
  | succ f ih =>
   intro i hf hi hno
   rw [Y44.L0,obs,h.lds,obs,h.slen]
   by_cases hlt : i < d.D.length
   ·obtain ⟨ad,a1,a2⟩ := h.at_ hlt
    have hm := Yae hlt
    have hr := h.rooms _ hm
    obtain ⟨r1,e1,g1⟩ := Zaa2 hr a
    obtain ⟨r2,e2,g2⟩ := Zaa2 hr b
    have hw : w64 ((i : Int) + 1) = ((i + 1 : Nat) : Int) := by rw [Zx2 (by omega) (by omega)]; simp
    have next : ¬ (a ∈ d.D[i].ids ∧ b ∈ d.D[i].ids) → ∃ r : Bool,Y44.L0 2000 f (some (HA.cell0 x.w)) a b ((i + 1 : Nat) : Int) S = some (r,S) ∧ (r = true ↔ ∃ g ∈ d.D,a ∈ g.ids ∧ b ∈ g.ids) := fun hc => by
     refine ih (i + 1) (by omega) (by omega) fun g hg => ?_
     rw [Yaf hlt] at hg
     rcases Yab.1 hg with k | k
     ·exact hno g k
     ·simp at k; subst k; exact hc
    rw [if_pos (by omega),obs,h.lds,obs,a1,obs,a2,obs,e1,obs]
    by_cases hA : a ∈ d.D[i].ids
    ·rw [if_pos (g1.2 hA),obs]
     simp only
     rw [h.lds,obs,a1,obs,a2,obs,e2,obs,Y44.J1]
     by_cases hB : b ∈ d.D[i].ids
     ·rw [if_pos (decide_eq_true (g2.2 hB))]
      exact ⟨true,rfl,fun _ => ⟨_,hm,hA,hB⟩,fun _ => rfl⟩
     ·rw [if_neg (by simpa using fun k => hB (g2.1 k)),hw]
      exact next fun k => hB k.2
    ·rw [if_neg (fun k => hA (g1.1 k)),Y44.J1,if_neg (by simp),hw]
     exact next fun k => hA k.1
   ·obtain rfl : i = d.D.length := by omega
    rw [Yao] at hno
    rw [if_neg (by omega)]
    exact ⟨false,rfl,fun h => (by cases h),fun ⟨g,hg,k⟩ => absurd k (hno g hg)⟩
 exact hloop 2000 0 (by omega) (Yak _) (by simp)
theorem Zahd {xs : List KI.Ky} (h : KI.Srt xs) : xs.Nodup := by
 have h' : xs.Pairwise fun a b => KI.klt a b = true := h
 exact h'.imp fun {a b} g e => by subst e; rw [KI.klt_irrefl] at g; cases g
section
variable {x : Dw} {d : Dt} {S : HS}
theorem Zafo (h : DocI x d S) (id : Int) {Wl : List Int} (hW : ∀ g ∈ d.D,∀ v ∈ g.ids,v ∈ Wl) (hWl : Wl.length ≤ 1000) {i : Nat} (hi : i < d.D.length) (xs0 : List Int) {rec0 : (Option HA) → Int → Sl → Int → HS → Option ((Sl) × HS)} :
  ∀ f k (T : HS) (y5 : Sl) (xs : List Int),d.D[i].ms.length - k < f → k ≤ d.D[i].ms.length → Fr S.next S T → Rd T.next T 1 y5 (xs.map KI.row1) → KI.Srt xs → (∀ v ∈ xs,v ∈ Wl) → (∀ v,v ∈ xs ↔ v ∈ xs0 ∨ (v ≠ id ∧ id ∈ d.D[i].ids ∧ v ∈ (d.D[i].ms.take k).map (·.1))) →
   ∃ T' y5' xs',Y13.L1 2000 rec0 f (some (HA.cell0 x.w)) id y5 (i : Int) (k : Int) T = rec0 (some (HA.cell0 x.w)) id y5' (w64 ((i : Int) + 1)) T' ∧ Fr S.next S T' ∧ Rd T'.next T' 1 y5' (xs'.map KI.row1) ∧ KI.Srt xs' ∧ (∀ v ∈ xs',v ∈ Wl) ∧ (∀ v,v ∈ xs' ↔ v ∈ xs0 ∨ (v ≠ id ∧ id ∈ d.D[i].ids ∧ v ∈ d.D[i].ids)) := by
 intro f
 induction f with
 | zero => intro k T y5 xs h; omega
 | succ f ih =>
  intro k T y5 xs hf hk hfr hrd hs hxW hm
  have hT := h.fr hfr
  have hle := hfr.le
  obtain ⟨ad,a1,a2⟩ := hT.at_ hi
  have hmem := Yae hi
  have hr := hT.rooms _ hmem
  have hcnt := hr.cnt
  rw [Y13.L1,obs,hT.lds,obs,a1,obs,a2,obs,obs,hr.ldS,obs,hr.slen]
  by_cases hlt : k < d.D[i].ms.length
  ·obtain ⟨ad2,b1,b2,b3,b4⟩ := MK.en_rows hr.rows hlt
   obtain ⟨r1,e1,g1⟩ := Zaa2 hr id
   have hw : w64 ((k : Int) + 1) = ((k + 1 : Nat) : Int) := by rw [Zx2 (by omega) (by omega)]; simp
   have htk : ∀ v,v ∈ (d.D[i].ms.take (k + 1)).map (·.1) ↔ v ∈ (d.D[i].ms.take k).map (·.1) ∨ v = d.D[i].ms[k].1 := fun v => by
    rw [Yaf hlt,Yau,Yab]; simp
   have hin : d.D[i].ms[k].1 ∈ d.D[i].ids := Ya0.2 ⟨_,Yae hlt,rfl⟩
   have hxl : xs.length ≤ 1000 := Ya2 (Zace xs Wl (Zahd hs) hxW) hWl
   have skip : (d.D[i].ms[k].1 = id ∨ id ∉ d.D[i].ids) → ∃ T' y5' xs',Y13.L1 2000 rec0 f (some (HA.cell0 x.w)) id y5 (i : Int) ((k + 1 : Nat) : Int) T = rec0 (some (HA.cell0 x.w)) id y5' (w64 ((i : Int) + 1)) T' ∧ Fr S.next S T' ∧ Rd T'.next T' 1 y5' (xs'.map KI.row1) ∧ KI.Srt xs' ∧ (∀ v ∈ xs',v ∈ Wl) ∧ (∀ v,v ∈ xs' ↔ v ∈ xs0 ∨ (v ≠ id ∧ id ∈ d.D[i].ids ∧ v ∈ d.D[i].ids)) := fun hc => by
    refine ih (k + 1) T y5 xs (by omega) (by omega) hfr hrd hs hxW fun v => ?_
    rw [hm v,htk v]
    constructor
    ·rintro (g | ⟨g1,g2,g3⟩)
     ·exact .inl g
     ·exact .inr ⟨g1,g2,.inl g3⟩
    ·rintro (g | ⟨g1,g2,g3 | g3⟩)
     ·exact .inl g
     ·exact .inr ⟨g1,g2,g3⟩
     ·rcases hc with hc | hc
      ·exact absurd (g3.trans hc) g1
      ·exact absurd g2 hc
   rw [if_pos (by omega),obs,hT.lds,obs,a1,obs,a2,obs,obs,hr.ldS,obs,b1,obs,b2,obs]
   by_cases he : d.D[i].ms[k].1 = id
   ·rw [if_neg (by simpa using he),Y13.J2,if_neg (by simp),Y13.J3,hw]
    exact skip (.inl he)
   ·rw [if_pos (by simpa using he),obs,hT.lds,obs,a1,obs,a2,obs,e1,obs,Y13.J2]
    by_cases hA : id ∈ d.D[i].ids
    ·obtain ⟨s',T1,e2,v2,f2,_⟩ := KI.refAdd_spec (k := 2000) (t := d.D[i].ms[k].1) hrd (by omega) (by omega)
     rw [if_pos (decide_eq_true (g1.2 hA)),e2,obs,Y13.J3,hw]
     refine ih (k + 1) T1 s' _ (by omega) (by omega) (hfr.trans (f2.mono hle)) v2 (KI.addL_srt hs) (fun v hv => ?_) fun v => ?_
     ·rcases (KI.addL_mem _ _ _).1 hv with rfl | g
      ·exact hW _ hmem _ hin
      ·exact hxW v g
     ·rw [KI.addL_mem,hm v,htk v]
      constructor
      ·rintro (rfl | g | ⟨g1,g2,g3⟩)
       ·exact .inr ⟨he,hA,.inr rfl⟩
       ·exact .inl g
       ·exact .inr ⟨g1,g2,.inl g3⟩
      ·rintro (g | ⟨g1,g2,g3 | g3⟩)
       ·exact .inr (.inl g)
       ·exact .inr (.inr ⟨g1,g2,g3⟩)
       ·exact .inl g3
    ·rw [if_neg (by simpa using fun k => hA (g1.1 k)),Y13.J3,hw]
     exact skip (.inr hA)
  ·obtain rfl : k = d.D[i].ms.length := by omega
   rw [if_neg (by omega)]
   refine ⟨T,y5,xs,rfl,hfr,hrd,hs,hxW,fun v => ?_⟩
   rw [hm v,Yao]
   rfl
theorem Zafp (h : DocI x d S) (id : Int) {Wl : List Int} (hW : ∀ g ∈ d.D,∀ v ∈ g.ids,v ∈ Wl) (hWl : Wl.length ≤ 1000) :
  ∃ so xs S',Y13.f 2000 (some (HA.cell0 x.w)) id S = some (so,S') ∧ S'.rows so 1 = some (xs.map KI.row1) ∧ KI.Srt xs ∧ (∀ v,v ∈ xs ↔ v ≠ id ∧ ∃ g ∈ d.D,id ∈ g.ids ∧ v ∈ g.ids) ∧ Fr S.next S S' := by
 have hcnt := h.cnt
 have hloop : ∀ f i (T : HS) (y5 : Sl) (xs : List Int),d.D.length - i < f → i ≤ d.D.length → Fr S.next S T → Rd T.next T 1 y5 (xs.map KI.row1) → KI.Srt xs → (∀ v ∈ xs,v ∈ Wl) → (∀ v,v ∈ xs ↔ v ≠ id ∧ ∃ g ∈ d.D.take i,id ∈ g.ids ∧ v ∈ g.ids) →
   ∃ so xs S',Y13.L0 2000 f (some (HA.cell0 x.w)) id y5 (i : Int) T = some (so,S') ∧ S'.rows so 1 = some (xs.map KI.row1) ∧ KI.Srt xs ∧ (∀ v,v ∈ xs ↔ v ≠ id ∧ ∃ g ∈ d.D,id ∈ g.ids ∧ v ∈ g.ids) ∧ Fr S.next S S' := by
  intro f
  induction f with
  | zero => intro i T y5 xs h; omega
  | succ f ih =>
   intro i T y5 xs hf hi hfr hrd hs hxW hm
   have hT := h.fr hfr
   rw [Y13.L0,obs,hT.lds,obs,hT.slen]
   by_cases hlt : i < d.D.length
   ·have hc := (h.rooms _ (Yae hlt)).cnt
    obtain ⟨T',y5',xs',e1,f1,r1,s1,w1,m1⟩ := Zafo h id hW hWl hlt xs (rec0 := Y13.L0 2000 f) 2000 0 T y5 xs (by omega) (Yak _) hfr hrd hs hxW (fun v => by simp)
    rw [if_pos (by omega)]
    rw [show ((0 : Nat) : Int) = 0 from rfl] at e1
    rw [e1,Zx2 (by omega) (by omega),show ((i : Int) + 1) = ((i + 1 : Nat) : Int) by simp]
    refine ih (i + 1) T' y5' xs' (by omega) (by omega) f1 r1 s1 w1 fun v => ?_
    rw [m1 v,hm v,Yaf hlt]
    constructor
    ·rintro (⟨g1,g,g2,g3⟩ | ⟨g1,g2,g3⟩)
     ·exact ⟨g1,g,Yab.2 (.inl g2),g3⟩
     ·exact ⟨g1,d.D[i],Yab.2 (.inr (Yaq.2 rfl)),g2,g3⟩
    ·rintro ⟨g1,g,g2,g3⟩
     rcases Yab.1 g2 with k | k
     ·exact .inl ⟨g1,g,k,g3⟩
     ·simp at k; subst k; exact .inr ⟨g1,g3.1,g3.2⟩
   ·obtain rfl : i = d.D.length := by omega
    rw [Yao] at hm
    rw [if_neg (by omega)]
    exact ⟨y5,xs,T,rfl,hrd.rows,hs,hm,hfr⟩
 exact hloop 2000 0 S Sl.nil [] (by omega) (Yak _) (Fr.refl _ _) ⟨rfl,fun q hq => by cases hq⟩ List.Pairwise.nil (fun v h => by cases h) (fun v => by simp)
end
structure Both (x : W) (t : T) (y : Dw) (d : Dt) (g : Nat) (S U : HS) : Prop where
 r : RsI x t U
 dc : DocI y d U
 sim : Sim t.R d.D
 dis : ∀ id,OA x t id → ¬ OD y d id
 lo : ∀ id,OA x t id ∨ OD y d id → g ≤ id
 old : ∀ id,id < g → U.heap id = S.heap id
 gU : g ≤ U.next
section
variable {x : W} {t : T} {y : Dw} {d : Dt} {g : Nat} {S U : HS}
theorem Both.prog (h : Both x t y d g S U) {t' : T} {U' : HS} (hr : RsI x t' U') (ch : Chg (OA x t) (OA x t') U U') : DocI y d U' ∧ (∀ id,OA x t' id → ¬ OD y d id) ∧ (∀ id,OA x t' id ∨ OD y d id → g ≤ id) ∧ (∀ id,id < g → U'.heap id = S.heap id) ∧ g ≤ U'.next := by
 have hle := ch.le
 have hg := h.gU
 refine ⟨h.dc.keep (fun id ho => ch.eq id (h.dc.ltO ho) (fun ha => h.dis id ha ho)) hle,fun id ha ho => ?_,fun id ho => ?_,fun id hi => (ch.eq id (by omega) (fun ha => by have := h.lo id (.inl ha); omega)).trans (h.old id hi),by omega⟩
 ·rcases ch.own id ha with k | k
  ·exact h.dis id k ho
  ·have := h.dc.ltO ho; omega
 ·rcases ho with ho | ho
  ·rcases ch.own id ho with k | k
   ·exact h.lo id (.inl k)
   ·omega
  ·exact h.lo id (.inr ho)
theorem Zagh {t' : T} {U1 U2 : HS} {d' : Dt} (hr : RsI x t' U1) (hd : DocI y d U1) (hdis : ∀ id,OA x t' id → ¬ OD y d id) (hlo : ∀ id,OA x t' id ∨ OD y d id → g ≤ id) (hold : ∀ id,id < g → U1.heap id = S.heap id) (hg : g ≤ U1.next) (hd' : DocI y d' U2) (ch : Chg (OD y d) (OD y d') U1 U2) (hs : Sim t'.R d'.D) : Both x t' y d' g S U2 := by
 have hle := ch.le
 refine ⟨hr.keep (fun id ha => ch.eq id (hr.ltO ha) (hdis id ha)) hle,hd',hs,fun id ha ho => ?_,fun id ho => ?_,fun id hi => (ch.eq id (by omega) (fun ha => by have := hlo id (.inr ha); omega)).trans (hold id hi),by omega⟩
 ·rcases ch.own id ho with k | k
  ·exact hdis id ha k
  ·have := hr.ltO ha; omega
 ·rcases ho with ho | ho
  ·exact hlo id (.inl ho)
  ·rcases ch.own id ho with k | k
   ·exact hlo id (.inr k)
   ·omega
theorem Both.fr (h : Both x t y d g S U) {U' : HS} (hf : Fr U.next U U') : Both x t y d g S U' :=
 ⟨h.r.fr hf,h.dc.fr hf,h.sim,h.dis,h.lo,fun id hi => (hf.eq id (by have := h.gU; omega)).trans (h.old id hi),by have := h.gU; have := hf.le; omega⟩
theorem Both.dlen (h : Both x t y d g S U) : d.D.length ≤ t.n := by rw [← h.sim.len]; exact h.r.cR
theorem Both.mlen (h : Both x t y d g S U) {e : Dr} (he : e ∈ d.D) : e.ms.length ≤ t.n := by
 obtain ⟨r,hr,k⟩ := h.sim.right he
 rw [← k.ms.length_eq]
 exact h.r.cm r hr
theorem Both.join (h : Both x t y d g S U) (hn : t.n + 1 ≤ 200) (hmR : x.mR = y.mR) (hmJ : x.mJ = y.mJ) (id : Int) (name : List UInt8) (hl : name.length ≤ 1000) {n : Nat} {H : Hd} :
  ∃ q c q' U1 t' d' U2,Y1.f (disp 2000 (n + 1)) H 2000 (some (HA.cell0 x.w)) id name U = some ((q,c),U1) ∧ Y9.f 2000 (some (HA.cell0 y.w)) id name U1 = some ((q',c),U2) ∧ Both x t' y d' g S U2 ∧ t'.n = t.n + 1 ∧ (∀ id,id < g → U1.heap id = S.heap id) ∧ ∃ m,nameR t'.R q m ∧ nameD d'.D q' m := by
 obtain ⟨q,c,t',U1,e1,h1,n1,ch1,jr⟩ := Zaix (n := n) (H := H) h.r hn id name hl
 obtain ⟨k1,k2,k3,k4,k5⟩ := h.prog h1 ch1
 obtain ⟨q',c',d',U2,e2,h2,ch2,dj⟩ := Zaha k1 id name hl (by have := h.dlen; omega) (fun e he => by have := h.mlen he; omega)
 obtain ⟨rfl,s1,s2⟩ := sim_join h.r h.dc h.sim hmR hmJ jr dj
 exact ⟨q,c,q',U1,t',d',U2,e1,e2,Zagh h1 k1 k2 k3 k4 k5 h2 ch2 s1,n1,k4,s2⟩
theorem Both.part (h : Both x t y d g S U) (id : Int) (name : List UInt8) (hl : name.length ≤ 1000) {n : Nat} {H : Hd} :
  ∃ b U1 t' d' U2,Y28.f (disp 2000 (n + 1)) H 2000 (some (HA.cell0 x.w)) id name U = some (b,U1) ∧ Y11.f 2000 (some (HA.cell0 y.w)) id name U1 = some (b,U2) ∧ Both x t' y d' g S U2 ∧ t'.n = t.n ∧ (∀ id,id < g → U1.heap id = S.heap id) := by
 obtain ⟨t',U1,e1,h1,n1,ch1,pr⟩ := Zai0 (n := n) (H := H) h.r id name hl
 obtain ⟨k1,k2,k3,k4,k5⟩ := h.prog h1 ch1
 obtain ⟨b,d',U2,e2,h2,ch2,dp⟩ := Zahb k1 id name hl
 obtain ⟨hb,s1⟩ := sim_part h.r h.dc h.sim pr dp
 rw [hb] at e1
 exact ⟨b,U1,t',d',U2,e1,e2,Zagh h1 k1 k2 k3 k4 k5 h2 ch2 s1,n1,k4⟩
theorem doc_new {S : HS} {mR mJ mB : Int} : DocI ⟨S.next,mR,mJ,mB⟩ ⟨Sl.nil,[]⟩ (S.new (.cells 4 [[.int .i64 mR,.int .i64 mJ,.int .i64 mB,Sl.nil.hv]] true)) :=
 ⟨Zxv _ _,rfl,Yaw _,fun q hq => (by cases hq),fun e he => (by cases he),Yak _,List.Pairwise.nil,List.Pairwise.nil,fun e he => (by cases he),fun q hq => (by cases hq)⟩
theorem both_new {S : HS} {mR mJ mB : Int} (r0 : 0 ≤ mR) (r1 : mR ≤ 1000) (j0 : 0 ≤ mJ) (j1 : mJ ≤ 1000) : ∃ x t y d S1 U,Y37.f [] [] [] [] 0 0 mJ mR mB 0 0 0 0 0 0 S = some (some (HA.cell0 x.w),S1) ∧ U = S1.new (.cells 4 [[.int .i64 mR,.int .i64 mJ,.int .i64 mB,Sl.nil.hv]] true) ∧ y.w = S1.next ∧ Both x t y d S.next S U ∧ t.n = 0 ∧ x.mR = mR ∧ x.mJ = mJ ∧ y.mR = mR ∧ y.mJ = mJ := by
 obtain ⟨x,t,S1,e1,h,mR',mJ',n0,R0,L0,f1,o1⟩ := Zaiz (mB := mB) r0 r1 j0 j1 S
 have f2 : Fr S1.next S1 (S1.new (.cells 4 [[.int .i64 mR,.int .i64 mJ,.int .i64 mB,Sl.nil.hv]] true)) := Fr.new (Yaa _) _
 have l1 := f1.le
 refine ⟨x,t,⟨S1.next,mR,mJ,mB⟩,⟨Sl.nil,[]⟩,S1,_,e1,rfl,rfl,⟨h.fr f2,doc_new,by rw [R0]; exact ⟨[],List.Perm.nil,.nil⟩,fun id ha ho => ?_,fun id ho => ?_,fun id hi => (f2.eq id (by omega)).trans (f1.eq id hi),by rw [Zxz]; omega⟩,n0,mR',mJ',rfl,rfl⟩
 ·have := h.ltO ha
  rcases ho with rfl | ⟨q,hq,_⟩ | ⟨e,he,_⟩
  ·exact absurd this (Nat.lt_irrefl _)
  ·cases hq
  ·cases he
 ·rcases ho with ho | rfl | ⟨q,hq,_⟩ | ⟨e,he,_⟩
  ·exact o1 id ho
  ·exact l1
  ·cases hq
  ·cases he
end
theorem Zais {x : W} {t : T} {U : HS} (h : RsI x t U) (a : Int) : ∃ Wl : List KI.Ky,KI.Srt Wl ∧ (∀ v,v ∈ Wl ↔ ∃ e ∈ t.R,a ∈ e.ids ∧ v ∈ e.ids) ∧ Wl.length ≤ t.n := by
 have hfold : ∀ M : List Int,KI.Srt (M.foldr KI.addL []) ∧ (∀ v,v ∈ M.foldr KI.addL [] ↔ v ∈ M) ∧ (M.foldr KI.addL []).length ≤ M.length := by
  intro M
  induction M with
  | nil => exact ⟨List.Pairwise.nil,fun v => by simp,Yaa _⟩
  | cons m M ih =>
   obtain ⟨h1,h2,h3⟩ := ih
   refine ⟨KI.addL_srt h1,fun v => ?_,?_⟩
   ·rw [List.foldr_cons,KI.addL_mem,h2,Yac]
   ·have := (KI.addL_len m (M.foldr KI.addL [])).1
    rw [List.foldr_cons,List.length_cons]
    omega
 obtain ⟨h1,h2,h3⟩ := hfold ((t.L.filter fun p => decide ((a,p.2) ∈ t.L)).map (·.1))
 refine ⟨_,h1,fun v => ?_,?_⟩
 ·rw [h2]
  constructor
  ·intro g
   obtain ⟨p,hp,rfl⟩ := Ya0.1 g
   obtain ⟨g1,g2⟩ := Yba.1 hp
   obtain ⟨e1,k1,k2,k3⟩ := (h.link p.1 p.2).1 g1
   obtain ⟨e2,m1,m2,m3⟩ := (h.link a p.2).1 (by simpa using g2)
   have := h.key_uniq k1 m1 (k2.trans m2.symm)
   subst this
   exact ⟨e1,k1,m3,k3⟩
  ·rintro ⟨e,he,g1,g2⟩
   exact Ya0.2 ⟨(v,e.key),Yba.2 ⟨(h.link _ _).2 ⟨e,he,rfl,g2⟩,by simpa using (h.link _ _).2 ⟨e,he,rfl,g1⟩⟩,rfl⟩
 ·have := Ybi (fun p : Pr => decide ((a,p.2) ∈ t.L)) t.L
  have hl := h.rel.ll
  simp only [Ya9] at h3
  omega
theorem Zadt {a b : Bool} (h : a = true ↔ b = true) : (a == b) = true := by cases a <;> cases b <;> simp_all
theorem Zait {x : W} {t : T} {y : Dw} {d : Dt} {g : Nat} {S U : HS} (h : Both x t y d g S U) (hn : t.n ≤ 40) (a b : Int) :
  ∃ S',Option.bind (Y12.f (disp 2000 8) (fun _ => none) 2000 (some (HA.cell0 x.w)) a U) (fun p31 => Option.bind (Y24.f (disp 2000 8) (fun _ => none) p31.1 99 p31.2) fun p32 =>
   if p32.1.2 = true then Option.bind (Y13.f 2000 (some (HA.cell0 y.w)) a p32.2) fun p34 => Option.bind (Y26.f 2000 p32.1.1 p34.1 p34.2) fun p35 => Y14.J2 (disp 2000 8) (fun _ => none) 2000 a b (some (HA.cell0 x.w)) (some (HA.cell0 y.w)) p32.1.1 p35.1 p35.2
   else Y14.J2 (disp 2000 8) (fun _ => none) 2000 a b (some (HA.cell0 x.w)) (some (HA.cell0 y.w)) p32.1.1 false p32.2) = some (true,S') := by
 obtain ⟨Wl,w1,w2,w3⟩ := Zais h.r a
 obtain ⟨fn,u,v,S1,K,e1,hT,hK,f1⟩ := Zahi (nD := 5) (H := fun _ => none) h.r (by omega) a w1 w2 (by omega)
 have h1 := h.fr f1
 have hwl : (KI.wof a Wl).length ≤ Wl.length := Ybi _ _
 obtain ⟨out,S2,e2,r2,q2,f2⟩ := KI.told_spec (n := 5) (xs := KI.wof a Wl) (most := 99) hT (fun y g => (hK y g).2) (by omega) (by omega)
 have h2 := h1.fr f2
 obtain ⟨so,xs,S3,e3,r3,s3,m3,f3⟩ := Zafp h2.dc a (Wl := t.L.map (·.1)) (fun g hg v hv => by
  obtain ⟨e,he,k⟩ := h.sim.right hg
  exact Ya0.2 ⟨(v,e.key),(h.r.link _ _).2 ⟨e,he,rfl,(k.ids v).2 hv⟩,rfl⟩) (by have := h.r.rel.ll; simp; omega)
 have h3 := h2.fr f3
 have l2 := f2.le
 have r2' : S3.rows out 1 = some ((KI.wof a Wl).map KI.row1) := Zx1 r2 fun q hq => f3.eq _ (q2 q hq).2
 have hsim : ∀ v,(∃ g ∈ d.D,a ∈ g.ids ∧ v ∈ g.ids) ↔ ∃ e ∈ t.R,a ∈ e.ids ∧ v ∈ e.ids := fun v => by
  constructor
  ·rintro ⟨g,hg,k1,k2⟩
   obtain ⟨e,he,k⟩ := h.sim.right hg
   exact ⟨e,he,(k.ids a).2 k1,(k.ids v).2 k2⟩
  ·rintro ⟨e,he,k1,k2⟩
   obtain ⟨g,hg,k⟩ := h.sim.left he
   exact ⟨g,hg,(k.ids a).1 k1,(k.ids v).1 k2⟩
 have hmem : ∀ v,v ∈ KI.wof a Wl ↔ v ≠ a ∧ ∃ e ∈ t.R,a ∈ e.ids ∧ v ∈ e.ids := fun v => by
  unfold KI.wof
  rw [Yba,w2]
  constructor
  ·rintro ⟨k1,k2⟩; exact ⟨by simpa using k2,k1⟩
  ·rintro ⟨k1,k2⟩; exact ⟨k2,by simpa using k1⟩
 have hsw : KI.Srt (KI.wof a Wl) := List.Pairwise.sublist List.filter_sublist w1
 have hEq : KI.wof a Wl = xs := KI.srt_ext hsw s3 fun v => by rw [hmem,m3,hsim]
 rw [e1,obs]
 simp only
 rw [e2,obs,if_pos rfl]
 simp only
 rw [e3,obs]
 simp only
 rw [KI.refSame_spec r2' r3 (by omega) (by omega),obs,decide_eq_true hEq,Y14.J2,if_pos rfl]
 obtain ⟨c1,S4,e4,g4,f4⟩ := Zz2 (n := 6) (H := fun _ => none) h3.r (by omega) a b
 have h4 := h3.fr f4
 obtain ⟨c2,e5,g5⟩ := Zaen h4.dc a b
 simp only
 rw [e4,obs]
 simp only
 rw [e5,obs]
 have hc12 : (c1 == c2) = true := Zadt (by rw [g4,g5,hsim])
 simp only
 rw [hc12,Y14.J3,if_pos rfl]
 obtain ⟨c3,S5,e6,g6,f5⟩ := Zz2 (n := 6) (H := fun _ => none) h4.r (by omega) b a
 have h5 := h4.fr f5
 obtain ⟨c4,S6,e7,g7,f6⟩ := Zz2 (n := 6) (H := fun _ => none) h5.r (by omega) a b
 have h6 := h5.fr f6
 have hc34 : (c3 == c4) = true := Zadt (by
  rw [g6,g7]
  constructor <;> rintro ⟨e,he,k1,k2⟩ <;> exact ⟨e,he,k2,k1⟩)
 rw [e6,obs]
 simp only
 rw [e7,obs]
 simp only
 rw [hc34,Y14.J4,if_pos rfl]
 by_cases hab : a = b
 ·rw [if_pos hab,Y14.J5,if_pos rfl,Y14.J6]
  exact ⟨_,rfl⟩
 ·obtain ⟨c5,S7,e8,g8,f7⟩ := Zz2 (n := 6) (H := fun _ => none) h6.r (by omega) a b
  have l3 := f3.le
  have l4 := f4.le
  have l5 := f5.le
  have r6 : S6.rows out 1 = some ((KI.wof a Wl).map KI.row1) := Zx1 r2' fun q hq => by
   have := (q2 q hq).2
   rw [f6.eq _ (by omega),f5.eq _ (by omega),f4.eq _ (by omega)]
  rw [if_neg hab,KI.refHas_spec r6 (by omega) (by omega),obs]
  simp only
  rw [e8,obs]
  have hc5 : (decide (b ∈ KI.wof a Wl) == c5) = true := Zadt (by
   rw [decide_eq_true_iff,hmem,g8]
   exact ⟨fun k => k.2,fun k => ⟨fun e => hab e.symm,k⟩⟩)
  simp only
  rw [hc5,Y14.J5,if_pos rfl,Y14.J6]
  exact ⟨_,rfl⟩
theorem Zahe {x : W} {y : Dw} {g : Nat} {a b : Int} {y0 : Sl} {ls : List Ac} {S : HS} (h40 : ls.length ≤ 40) (hll : ∀ a ∈ ls,a.2.2.length ≤ 60) (hr : S.rows y0 3 = some (ls.map Zac4)) (hrq : ∀ q,y0.a = some q → q.1 < g) (hmR : x.mR = y.mR) (hmJ : x.mJ = y.mJ) :
  ∀ (f i : Nat) (t : T) (d : Dt) (U : HS),ls.length - i < f → i ≤ ls.length → Both x t y d g S U → t.n ≤ i →
  ∃ S',Y14.L0 (disp 2000 8) (fun _ => none) 2000 f y0 a b (some (HA.cell0 x.w)) (some (HA.cell0 y.w)) (i : Int) U = some (true,S') := by
 intro f
 induction f with
 | zero => intro i t d U h; omega
 | succ f ih =>
  intro i t d U hf hi h hn
  have rd : ∀ V : HS,(∀ id,id < g → V.heap id = S.heap id) → V.rows y0 3 = some (ls.map Zac4) := fun V hV => Zx1 hr fun q hq => hV _ (hrq q hq)
  have hrU := rd U h.old
  have hsl : (y0.len : Int) = ls.length := by rw [← Zx3 hrU]; simp
  rw [Y14.L0,hsl]
  by_cases hlt : i < ls.length
  ·obtain ⟨ad,a1,a2,a3,a4⟩ := Zabv hrU hlt
   have hi1 : w64 ((i : Int) + 1) = ((i + 1 : Nat) : Int) := by rw [Zx2 (by omega) (by omega)]; simp
   have hnl := hll ls[i] (Yae hlt)
   rw [if_pos (by omega),a1,obs,a2,obs]
   by_cases hkd : ls[i].1 = 1
   ·obtain ⟨c,U1,t',d',U2,e1,e2,h2,n2,hold⟩ := h.part ls[i].2.1 ls[i].2.2 (by omega) (n := 7) (H := fun _ => none)
    obtain ⟨ad',b1,b2,b3,b4⟩ := Zabv (rd U1 hold) hlt
    rw [if_pos hkd,obs,a3,obs,obs,a4,obs,e1,obs]
    simp only
    rw [b1,obs,b3,obs,obs,b4,obs,e2,obs,Y14.J1,hi1]
    exact ih (i + 1) t' d' U2 (by omega) (by omega) h2 (by omega)
   ·obtain ⟨q,c,q',U1,t',d',U2,e1,e2,h2,n2,hold,_⟩ := h.join (by omega) hmR hmJ ls[i].2.1 ls[i].2.2 (by omega) (n := 7) (H := fun _ => none)
    obtain ⟨ad',b1,b2,b3,b4⟩ := Zabv (rd U1 hold) hlt
    rw [if_neg hkd,obs,a3,obs,obs,a4,obs,e1,obs]
    simp only
    rw [b1,obs,b3,obs,obs,b4,obs,e2,obs,Y14.J1,hi1]
    exact ih (i + 1) t' d' U2 (by omega) (by omega) h2 (by omega)
  ·rw [if_neg (by omega)]
   exact Zait h (by omega) a b
theorem Zacs {S : HS} {y0 : Sl} {ls : List Ac} {a b : Int} (hr : Rd S.next S 3 y0 (ls.map Zac4)) : ∃ S',Y14.f (disp 2000 8) (fun _ => none) 2000 y0 a b S = some (true,S') := by
 obtain ⟨S1,e1,f1⟩ : ∃ S1,aw.f S = some (true,S1) ∧ Fr S.next S S1 := ⟨S,rfl,Fr.refl _ _⟩
 have l1 := f1.le
 have hr1 := hr.frame f1 (Yaa _)
 obtain ⟨c,e2,hc⟩ := Zahf hr1.rows
 rw [Y14.f,e1,obs,if_neg (by simp),e2,obs]
 cases c with
 | true => rw [if_pos rfl]; exact ⟨_,rfl⟩
 | false =>
  obtain ⟨h40,hll⟩ := hc rfl
  rw [if_neg (by simp)]
  obtain ⟨x,t,y,d,S2,U,e3,rfl,hw,hb,n0,m1,m2,m3,m4⟩ := both_new (S := S1) (mR := 50) (mJ := 50) (mB := 3) (by decide) (by decide) (by decide) (by decide)
  rw [e3,obs,letv]
  simp only
  rw [← hw]
  exact Zahe h40 hll hr1.rows (fun q hq => by have := hr.lt q hq; omega) (m1.trans m3.symm) (m2.trans m4.symm) 2000 0 t d _ (by omega) (Yak _) hb (by omega)
theorem roomsPeers_call (W : World) (β0 : Bt) (S : HS) (s0 : Sl) (rows0 : List (List HV)) (h0 : ArgSl S 3 s0 rows0) (f0 : ∀ row ∈ rows0,RowFits [.int .i64,.int .i64,.str] row) (a : Int) (w1 : (Lit.int .i64 a).wf = true) (b : Int) (w2 : (Lit.int .i64 b).wf = true) :
  HCall Tryz.prog W.heap.size W β0 3 [s0.hv,.int .i64 a,.int .i64 b] S (fun v _ => v = .bool true) := by
 obtain ⟨ls,rfl⟩ := Zaiu f0
 obtain ⟨_,h⟩ := Zacs (a := a) (b := b) h0.rd
 exact (Y14.snd (Zags 8) (fun _ _ h => by cases h) h).mono fun _ _ h => h.1
end Go.Proofs.YtbmfomkfmpppiaaGreat.X
