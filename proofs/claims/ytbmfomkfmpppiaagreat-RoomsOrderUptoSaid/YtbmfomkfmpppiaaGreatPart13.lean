/- The layer rooms: Part, plain. The layer rooms: the rooms of somebody, plain. The layer rooms: all rooms, as they are told, plain. The layer rooms: ranges inside a body; New, plain. The layer rooms: acts; members looked up; all rooms, plain. The layer rooms: RoomsOrder's first range, plain. The layer rooms: RoomsOrder, plain. The layer rooms: RoomsOrder, plain. The layer rooms: RoomsOrder, plain. -/
import Derived.Test.YtbmfomkfmpppiaaGreatPart12
namespace Go.Proofs.YtbmfomkfmpppiaaGreat.X
open Go.Proofs.YtbmfomkfmpppiaaGreat.HL
set_option linter.unusedVariables false
theorem mem_ids_drop {e : Rm} {id : Int} {i : Nat} (hs : MK.Srt e.ms) (hp : MK.PosOf e.ms id i) (hf : MK.foundAt e.ms id i = true) (a : Int) : a ∈ (e.ms.eraseIdx i).map (·.1) ↔ a ∈ e.ids ∧ a ≠ id := by
 obtain ⟨hi,h1⟩ := MK.found_at hf
 constructor
 ·intro g
  obtain ⟨m,hm,rfl⟩ := List.mem_map.1 g
  obtain ⟨g1,g2⟩ := MK.erase_away hs hf m hm
  exact ⟨List.mem_map.2 ⟨m,g1,rfl⟩,fun e => g2 ((MK.cmpI_zero _ _).2 e.symm)⟩
 ·rintro ⟨g,hne⟩
  obtain ⟨m,hm,rfl⟩ := List.mem_map.1 g
  obtain ⟨j,hj,rfl⟩ := List.getElem_of_mem hm
  refine List.mem_map.2 ⟨e.ms[j],?_,rfl⟩
  rw [List.mem_eraseIdx_iff_getElem]
  exact ⟨j,hj,fun e => hne (by subst e; exact h1),rfl⟩
section
variable {x : W} {t : T} {S : HS} {n : Nat} {H : Hd}
inductive PRes (t : T) (id : Int) (key : List UInt8) : List Rm → List Pr → Prop
 | none (h : (id,key) ∉ t.L) : PRes t id key t.R t.L
 | stay {A B e e'} (hR : t.R = A ++ e :: B) (hk : e.key = key) (hin : id ∈ e.ids) (hp : e'.p = e.p) (hn : e'.name = e.name) (hms : ∃ i,MK.PosOf e.ms id i ∧ MK.foundAt e.ms id i = true ∧ e'.ms = e.ms.eraseIdx i) (hne : e'.ms ≠ []) : PRes t id key (A ++ e' :: B) (wo (id,key) t.L)
 | gone {A B e} (hR : t.R = A ++ e :: B) (hk : e.key = key) (hin : id ∈ e.ids) (hms : e.ms.length = 1) : PRes t id key (A ++ B) (wo (id,key) t.L)
def Parted (x : W) (t : T) (S : HS) (id : Int) (key : List UInt8) (r : Option (Bool × HS)) : Prop :=
 ∃ t' S',r = some (decide ((id,key) ∈ t.L),S') ∧ RsI x t' S' ∧ t'.n = t.n ∧ Chg (OA x t) (OA x t') S S' ∧ PRes t id key t'.R t'.L
theorem Parted.pre {S1 : HS} {id : Int} {key : List UInt8} {r : Option (Bool × HS)} (f : Fr S.next S S1) (h : Parted x t S1 id key r) : Parted x t S id key r := by
 obtain ⟨t',S',e,h1,h2,h3,h4⟩ := h
 exact ⟨t',S',e,h1,h2,(Chg.of_fr f).trans h3,h4⟩
theorem part_spec (h : RsI x t S) (id : Int) (name : List UInt8) (hl : name.length ≤ 1000) : Parted x t S id (name.map low) (rooms_Rooms_Part.f (disp 2000 (n + 1)) H 2000 (some (HA.cell0 x.w)) id name S) := by
 obtain ⟨o,S1,ho,e1,f1⟩ := rooms_get (n := n) (H := H) h name
 have h1 := h.fr f1
 rw [rooms_Rooms_Part.f,e1,Option.bind_some]
 cases ho with
 | none hno =>
  rw [if_pos (by rfl),rooms_Rooms_Part.J0,if_pos rfl]
  refine Parted.pre f1 ?_
  have hnL : (id,name.map low) ∉ t.L := fun g => by
   obtain ⟨y,hy,g1,_⟩ := (h.link _ _).1 g
   exact hno y hy g1
  rw [Parted,decide_eq_false hnL]
  exact ⟨t,S1,rfl,h1,rfl,Chg.refl _ _,.none hnL⟩
 | @some e he hk =>
  obtain ⟨S2,e2,f2⟩ := text_spec (k := 2000) (m := S1.next) (x := name) (S := S1) (by omega) (by omega) (Nat.le_refl _)
  have h2 := h1.fr f2
  rw [if_neg (by simp),Option.bind_some]
  simp only
  rw [h1.ldr,Option.bind_some,e2,Option.bind_some]
  simp only
  rw [h2.ldr,Option.bind_some,if_pos rfl]
  refine Parted.pre f1 (Parted.pre f2 ?_)
  obtain ⟨E1',E2',S3,e3,g1,g2⟩ := remove_rel (k := 2000) (Nat.le_refl _) h2.rel id (name.map low)
  obtain ⟨c1,c2⟩ := h2.toRsC.rel_step g1 g2
  rw [e3,Option.bind_some,← hk]
  by_cases hin : id ∈ e.ids
  ·have hL : (id,e.key) ∈ t.L := (key_ids h he id).2 hin
   rw [Parted,decide_eq_true hL,rooms_Rooms_Part.J0,if_neg (by simp)]
   rw [← hk] at c1 c2
   obtain ⟨e',S4,e4,r1,r2,r3,⟨i,i1,i2,i3⟩,r5⟩ := room_drop (n := n) (H := H) (k := 2000) (Nat.le_refl _) (c1.rooms e he) id hin
   have hids : ∀ a,a ∈ e'.ids ↔ a ∈ e.ids ∧ a ≠ id := fun a => by
    show a ∈ e'.ms.map (·.1) ↔ _
    rw [i3]; exact mem_ids_drop (h.rooms e he).srt i1 i2 a
   have hi := MK.found_lt i2
   have hlen : e'.ms.length = e.ms.length - 1 := by rw [i3,List.length_eraseIdx,if_pos hi]
   obtain ⟨A,B,hR⟩ := List.append_of_mem he
   obtain ⟨d1,d2⟩ := c1.room_step (A := A) (B := B) hR r1 r2 r3 r5
   have hk' : e'.key = e.key := by unfold Rm.key; rw [r3]
   have hnd : ∀ y,y ∈ A ∨ y ∈ B → y ∈ t.R ∧ y.key ≠ e.key := fun y hy => by
    have hy' : y ∈ t.R := by rw [hR]; rcases hy with g | g <;> simp [g]
    refine ⟨hy',fun g => ?_⟩
    have hye := h.key_uniq hy' he g
    subst hye
    have hpw := h.pw
    rw [hR,List.pairwise_append,List.pairwise_cons] at hpw
    rcases hy with g | g
    ·exact hpw.2.2 y g y (by simp) y.p (.inl (.inl rfl)) (.inl (.inl rfl))
    ·exact hpw.2.1.1 y g y.p (.inl (.inl rfl)) (.inl (.inl rfl))
   have link' : ∀ a b,(a,b) ∈ wo (id,e.key) t.L ↔ ∃ y ∈ A ++ e' :: B,y.key = b ∧ a ∈ y.ids := by
    intro a b
    rw [wo_mem,h.link,hR]
    constructor
    ·rintro ⟨⟨y,hy,q1,q2⟩,q3⟩
     simp only [List.mem_append,List.mem_cons] at hy
     rcases hy with g | rfl | g
     ·exact ⟨y,by simp [g],q1,q2⟩
     ·exact ⟨e',by simp,hk'.trans q1,(hids a).2 ⟨q2,fun g => q3 (by rw [g,q1])⟩⟩
     ·exact ⟨y,by simp [g],q1,q2⟩
    ·rintro ⟨y,hy,q1,q2⟩
     simp only [List.mem_append,List.mem_cons] at hy
     have key : (y ∈ A ∨ y ∈ B) ∨ y = e' := by rcases hy with g | g | g <;> simp [g]
     rcases key with g | rfl
     ·refine ⟨⟨y,by rcases g with g | g <;> simp [g],q1,q2⟩,fun g' => ?_⟩
      simp only [Prod.mk.injEq] at g'
      exact (hnd y g).2 (q1.trans g'.2)
     ·obtain ⟨q3,q4⟩ := (hids a).1 q2
      refine ⟨⟨e,by simp,hk'.symm.trans q1,q3⟩,fun g' => ?_⟩
      simp only [Prod.mk.injEq] at g'
      exact q4 g'.1
   have cnt' : ∀ a xs,KS.Srt xs → (∀ v,v ∈ xs ↔ (a,v) ∈ wo (id,e.key) t.L) → (xs.length : Int) ≤ x.mJ := fun a xs hs hm => by
    obtain ⟨ys,k1,k2,_,_⟩ := h.rel.at1 a
    have := h.cntJ a ys k1 k2
    have := nodup_sub xs ys (srt_nodupS hs) (fun v hv => (k2 v).2 (wo_mem.1 ((hm v).1 hv)).1)
    omega
   have hcm : ∀ y ∈ A ++ e' :: B,y.ms.length ≤ t.n := fun y hy => by
    simp only [List.mem_append,List.mem_cons] at hy
    rcases hy with g | rfl | g
    ·exact h.cm y (hnd y (.inl g)).1
    ·have := h.cm e he; omega
    ·exact h.cm y (hnd y (.inr g)).1
   have hRl : (A ++ e' :: B).length = t.R.length := by rw [hR]; simp
   have hcR := h.cR
   have hcntR := h.cntR
   have hptr : ptrOf (some e) = some (HA.cell0 e.p) := rfl
   rw [hptr,e4,Option.bind_some]
   simp only
   rw [show some (HA.cell0 e.p) = some (HA.cell0 e'.p) by rw [r2],room_len r1,Option.bind_some]
   simp only
   by_cases hz : (e'.ms.length : Int) = 0
   ·rw [if_pos hz,Option.bind_some,d1.ldb,Option.bind_some]
    obtain ⟨j,bs',S5,hp,e5,b1,on⟩ := BK.delete_spec (n := n) (H := H) (k := 2000) (Nat.le_refl _) d1.book name
    have hp : BK.PosOf ((A ++ e' :: B).map ent) name j := hp
    have hsrt : BK.Srt ((A ++ e' :: B).map ent) := d1.book.srt
    obtain ⟨o,ho,q1,q2⟩ := found_ent hp hsrt
    have hfj : BK.foundAt ((A ++ e' :: B).map ent) name j = true := by
     cases hb : BK.foundAt ((A ++ e' :: B).map ent) name j with
     | true => rfl
     | false => exact absurd ((cmpL_zero _ _).2 (hk'.trans hk).symm) (BK.none_alike hp hsrt hb (ent e') (List.mem_map.2 ⟨e',by simp,rfl⟩))
    obtain ⟨hj,q3⟩ := q2 hfj
    rw [q3] at ho
    have hjk : (A ++ e' :: B)[j].key = name.map low := by cases ho with | some _ g => exact g
    have hjA : j = A.length := by
     rcases Nat.lt_trichotomy j A.length with g | g | g
     ·rw [List.getElem_append_left g] at hjk
      exact absurd (hjk.trans hk.symm) (hnd _ (.inl (List.getElem_mem g))).2
     ·exact g
     ·have hjB : (A ++ e' :: B)[j] ∈ B := by
       rw [List.getElem_append_right (by omega),List.getElem_cons,dif_neg (by omega)]
       exact List.getElem_mem _
      exact absurd (hjk.trans hk.symm) (hnd _ (.inr hjB)).2
    have herase : ((A ++ e' :: B).map ent).eraseIdx j = (A ++ B).map ent := by
     rw [hjA,← Go.ChangeMaps.map_eraseIdx]
     congr 1
     rw [List.eraseIdx_append_of_length_le (Nat.le_refl _)]
     simp
    have b1 : BK.BI x.bk bs' x.mR ((A ++ B).map ent) S5 := by
     have : BK.BI x.bk bs' x.mR (if BK.foundAt ((A ++ e' :: B).map ent) name j = true then ((A ++ e' :: B).map ent).eraseIdx j else (A ++ e' :: B).map ent) S5 := b1
     rw [if_pos hfj,herase] at this
     exact this
    have hsub : ∀ y ∈ A ++ B,y ∈ A ++ e' :: B := fun y hy => by
     simp only [List.mem_append,List.mem_cons] at hy ⊢
     rcases hy with g | g <;> simp [g]
    have hms : e'.ms = [] := List.length_eq_zero_iff.1 (by omega)
    obtain ⟨k1,k2,k3⟩ := d1.book_step (R' := A ++ B) b1 on (fun y hy => d1.rooms y (hsub y hy)) (by
     have hpw : (A ++ e' :: B).Pairwise fun a b => ∀ id,OwnR a id → ¬ OwnR b id := d1.pw
     exact hpw.sublist (List.Sublist.append (List.Sublist.refl _) (List.sublist_cons_self _ _))) (fun y hy => d1.dR y (hsub y hy))
    rw [e5,Option.bind_some,rooms_Rooms_Part.J1]
    have ch2 : Chg (OA x { t with n := t.n,E1 := E1',E2 := E2',L := wo (id,e.key) t.L,R := A ++ e' :: B }) (OA x { t with n := t.n,E1 := E1',E2 := E2',L := wo (id,e.key) t.L,bs := bs',R := A ++ B }) S4 S5 := by
     refine ⟨k2,k3,?_⟩
     rintro y ((g | g | g) | ⟨z,hz,g⟩)
     ·exact .inl (.inl (.inl g))
     ·exact (on.own y g).imp (fun g => .inl (.inr (.inl g))) (fun g => g)
     ·exact .inl (.inl (.inr (.inr g)))
     ·exact .inl (.inr ⟨z,hsub z hz,g⟩)
    have hAB : (A ++ B).length + 1 = (A ++ e' :: B).length := by simp; omega
    refine ⟨_,S5,rfl,{ k1 with link := ?_,ne := ?_,cm := fun y hy => hcm y (hsub y hy),cR := ?_,mR0 := h.mR0,mR1 := h.mR1,mJ0 := h.mJ0,mJ1 := h.mJ1,cntR := ?_,cntJ := cnt' },rfl,(c2.trans d2).trans ch2,.gone hR rfl hin (by omega)⟩
    ·intro a b
     refine (link' a b).trans ⟨?_,fun ⟨y,hy,q⟩ => ⟨y,hsub y hy,q⟩⟩
     rintro ⟨y,hy,w1,w2⟩
     simp only [List.mem_append,List.mem_cons] at hy
     rcases hy with g | rfl | g
     ·exact ⟨y,by show y ∈ A ++ B; simp [g],w1,w2⟩
     ·unfold Rm.ids at w2; rw [hms] at w2; cases w2
     ·exact ⟨y,by show y ∈ A ++ B; simp [g],w1,w2⟩
    ·intro y hy
     have hy : y ∈ A ++ B := hy
     rcases List.mem_append.1 hy with g | g
     ·exact h.ne y (hnd y (.inl g)).1
     ·exact h.ne y (hnd y (.inr g)).1
    ·show (A ++ B).length ≤ t.n
     omega
    ·show ((A ++ B).length : Int) ≤ x.mR
     omega
   ·rw [if_neg hz,rooms_Rooms_Part.J1]
    refine ⟨_,S4,rfl,{ d1 with link := link',ne := ?_,cm := hcm,cR := ?_,mR0 := h.mR0,mR1 := h.mR1,mJ0 := h.mJ0,mJ1 := h.mJ1,cntR := ?_,cntJ := cnt' },rfl,c2.trans d2,.stay hR rfl hin r2 r3 ⟨i,i1,i2,i3⟩ (fun g => hz (by rw [g]; rfl))⟩
    ·intro y hy
     have hy : y ∈ A ++ e' :: B := hy
     simp only [List.mem_append,List.mem_cons] at hy
     rcases hy with g | rfl | g
     ·exact h.ne y (hnd y (.inl g)).1
     ·intro g; rw [g] at hz; exact hz rfl
     ·exact h.ne y (hnd y (.inr g)).1
    ·show (A ++ e' :: B).length ≤ t.n
     omega
    ·show ((A ++ e' :: B).length : Int) ≤ x.mR
     omega
  ·have hnL : (id,e.key) ∉ t.L := fun g => hin ((key_ids h he id).1 g)
   rw [Parted,decide_eq_false hnL,rooms_Rooms_Part.J0,if_pos (by rfl)]
   rw [← hk,wo_no hnL] at c1 c2
   exact ⟨_,S3,rfl,h2.mono c1 (Nat.le_refl _),rfl,c2,.none hnL⟩
end
end Go.Proofs.YtbmfomkfmpppiaaGreat.X
namespace Go.Proofs.YtbmfomkfmpppiaaGreat.X
open Go.Proofs.YtbmfomkfmpppiaaGreat.HL
set_option linter.unusedVariables false
namespace PK
abbrev Ky := Option HA
def row1 (k : Ky) : List HV := [.ptr k]
theorem ldK_at {S : HS} {s : Sl} {xs : List Ky} (h : S.rows s 1 = some (xs.map row1)) {i : Nat} (hi : i < xs.length) : ∃ ad,S.idx s (i : Int) 1 = some ad ∧ S.ldP ad = some xs[i] := by
 obtain ⟨ad,h1,h2⟩ := get_at h (i := i) (v := .ptr xs[i]) (by simpa using hi) (by rw [List.getElem_map]; rfl)
 exact ⟨ad,h1,by rw [HS.ldP,h2]; rfl⟩
theorem of_tells {k n c : Nat} {B : HS} {s : Sl} {xs : List Ky} (hk : xs.length < k) (hx : xs.length ≤ 1000000) (hc : B.heap c = .cells 1 [[s.hv]] true) (hr : B.rows s 1 = some (xs.map row1)) (K : Nat → Prop) (hK : K c ∧ ∀ q,s.a = some q → K q.1) :
  Tells (disp k (n + 2)) (.fn (.func 63) [] [.ptr (some (HA.cell0 c))]) (xs.map row1) K B := by
 intro H l I Stop ht O S hI hB
 have hlen : (xs.map row1).length = xs.length := by simp
 have hcS : S.heap c = .cells 1 [[s.hv]] true := (hB c hK.1).1.trans hc
 have hrS : S.rows s 1 = some (xs.map row1) := rows_keep hr fun q hq => (hB q.1 (hK.2 q hq)).1
 have hloop : ∀ f i O1 T,xs.length - i < f → i ≤ xs.length → I i O1 T → S.next ≤ T.next → (∀ id,id < S.next → ¬ O id → T.heap id = S.heap id) → (∀ id,O1 id → O id ∨ S.next ≤ id) →
   ∃ S' O',rooms_Rooms_Of_1.L0 (disp k (n + 1)) H k f (.fn (.yield l) [] []) s (xs.length : Int) (i : Int) T = some ((),S') ∧ S.next ≤ S'.next ∧ (∀ id,id < S.next → ¬ O id → S'.heap id = S.heap id) ∧ (∀ id,O' id → O id ∨ S.next ≤ id) ∧ (I xs.length O' S' ∨ Stop O' S') := by
  intro f
  induction f with
  | zero => intro i O1 T h; omega
  | succ f ih =>
   intro i O1 T hf hi hIT hn hk2 hO
   rw [rooms_Rooms_Of_1.L0]
   by_cases hlt : i < xs.length
   ·have hrT : T.rows s 1 = some (xs.map row1) := rows_keep hrS fun q hq => hk2 q.1 (hB q.1 (hK.2 q hq)).2.2 (hB q.1 (hK.2 q hq)).2.1
    obtain ⟨ad,a1,a2⟩ := ldK_at hrT hlt
    obtain ⟨b,T2,O2,e2,n2,k2,o2,g1,g2⟩ := ht.step i (by omega) O1 T hIT
    have he : disp k (n + 1) H (.fn (.yield l) [] []) [.ptr xs[i]] T = some (.bool b,T2) := by
     rw [disp_yield,← e2,List.getElem_map]; rfl
    have hk3 : ∀ id,id < S.next → ¬ O id → T2.heap id = S.heap id := fun id h1 h2 => (k2 id (by omega) (fun ho => (hO id ho).elim h2 (fun h => by omega))).trans (hk2 id h1 h2)
    have hO3 : ∀ id,O2 id → O id ∨ S.next ≤ id := fun id h => (o2 id h).elim (hO id) (fun h => .inr (by omega))
    rw [if_pos (by omega),a1,Option.bind_some,a2,Option.bind_some,he,Option.bind_some]
    simp only [dB,Option.bind_some]
    cases b with
    | false => exact ⟨T2,O2,rfl,by omega,hk3,hO3,.inr (g2 rfl)⟩
    | true =>
     rw [if_neg (by simp),w64_id (by omega) (by omega),show ((i : Int) + 1) = ((i + 1 : Nat) : Int) by simp]
     exact ih (i + 1) O2 T2 (by omega) (by omega) (g1 rfl) (by omega) hk3 hO3
   ·obtain rfl : i = xs.length := by omega
    rw [if_neg (by omega)]
    exact ⟨T,O1,rfl,hn,hk2,hO,.inl hIT⟩
 obtain ⟨S',O',e,h1,h2,h3,h4⟩ := hloop k 0 O S (by omega) (Nat.zero_le _) hI (Nat.le_refl _) (fun _ _ _ => rfl) (fun _ h => .inl h)
 refine ⟨S',O',?_,h1,h2,h3,by rw [hlen]; exact h4⟩
 rw [disp_func]
 have hsl : (s.len : Int) = xs.length := by rw [← rows_len hrS]; simp
 have e' : call_63 (disp k (n + 1)) H k ([] ++ [HV.fn (.yield l) [] []] ++ [.ptr (some (HA.cell0 c))]) S = some (.tup [],S') := by
  rw [call_63]
  simp only [List.nil_append,List.cons_append,args2,Option.bind_some,dF,dP]
  rw [rooms_Rooms_Of_1.f,Option.bind_some,ldSl_cell hcS,Option.bind_some,hsl]
  erw [e]
  rfl
 repeat rw [if_neg (by decide)]
 rw [if_pos rfl,e']
theorem app1_spec {n : Nat} {S : HS} {s : Sl} {xs : List Ky} (t : Ky) (h : Vec n S 1 s (xs.map row1)) (hn : n ≤ S.next) (hl : xs.length < 1000000) :
  ∃ s' S',HS.app (S.lit [[.ptr t]] 1).2 s [[.ptr t]] 1 = some (s',S') ∧ (S.lit [[.ptr t]] 1).2.rows (S.lit [[.ptr t]] 1).1 1 = some [[.ptr t]] ∧ Vec n S' 1 s' ((xs ++ [t]).map row1) ∧ Fr n S S' ∧ (∀ id,id < S.next → (∀ q,s.a = some q → q.1 ≠ id) → S'.heap id = S.heap id) ∧ (∀ q,s'.a = some q → S.next ≤ q.1 ∨ ∃ q0,s.a = some q0 ∧ q0.1 = q.1) := by
 have fl : Fr S.next S (S.lit [[.ptr t]] 1).2 := lit_fr _ (Nat.le_refl _)
 have nl : (S.lit [[.ptr t]] 1).2.next = S.next + 1 := rfl
 obtain ⟨s',S',e1,v1,f1,k1,q1⟩ := (h.frame fl (Nat.le_refl _)).app2 (new := [[.ptr t]]) (by omega) (by simp; omega)
 refine ⟨s',S',e1,(Vec.lit (n := 0) (z := 1) (S := S) _ (Nat.zero_le _)).rows,by rw [List.map_append]; exact v1,(fl.mono hn).trans f1,fun id h1 h2 => (k1 id (by omega) h2).trans (fl.eq id h1),fun q hq => ?_⟩
 rcases q1 q hq with g | g
 ·exact .inl (by omega)
 ·exact .inr g
end PK
def ofKey (R : List Rm) (key : List UInt8) : PK.Ky := ptrOf (R.find? fun e => decide (e.key = key))
theorem ofKey_at {x : W} {t : T} {S : HS} (h : RsI x t S) {e : Rm} (he : e ∈ t.R) : ofKey t.R e.key = some (HA.cell0 e.p) := by
 unfold ofKey
 cases hf : t.R.find? fun y => decide (y.key = e.key) with
 | none => exact absurd ((List.find?_eq_none.1 hf) e he) (by simp)
 | some y =>
  have h1 := List.find?_some hf
  have h2 := List.mem_of_find?_eq_some hf
  rw [h.key_uniq h2 he (by simpa using h1)]; rfl
def Og (b : Nat) (so : Sl) (id : Nat) : Prop := (b ≤ id ∧ id < b + 2) ∨ ∃ q,so.a = some q ∧ q.1 = id
structure Gt (b w : Nat) (ys : List PK.Ky) (i : Nat) (so : Sl) (S : HS) : Prop where
 c0 : S.heap b = .cells 1 [[.ptr (some (HA.cell0 w))]] true
 co : S.heap (b + 1) = .cells 1 [[so.hv]] true
 vec : Vec (b + 2) S 1 so ((ys.take i).map PK.row1)
 nx : b + 2 ≤ S.next
theorem Gt.keep {b w : Nat} {ys : List PK.Ky} {i : Nat} {so : Sl} {S S' : HS} (h : Gt b w ys i so S) (hk : ∀ id,Og b so id → S'.heap id = S.heap id) (hn : S.next ≤ S'.next) : Gt b w ys i so S' :=
 ⟨(hk _ (.inl ⟨by omega,by omega⟩)).trans h.c0,(hk _ (.inl ⟨by omega,by omega⟩)).trans h.co,vec_keep h.vec (fun q hq => hk _ (.inr ⟨q,hq,rfl⟩)) hn,Nat.le_trans h.nx hn⟩
theorem Gt.lt {b w : Nat} {ys : List PK.Ky} {i : Nat} {so : Sl} {S : HS} (h : Gt b w ys i so S) {x : Nat} (ho : Og b so x) : x < S.next := by
 have := h.nx
 rcases ho with g | ⟨q,g,rfl⟩
 ·omega
 ·exact (h.vec.lo q g).2
theorem key_map {s : List UInt8} (h : ∃ n : List UInt8,s = n.map low) : s.map low = s := by
 obtain ⟨n,rfl⟩ := h
 rw [List.map_map]
 exact List.map_congr_left fun b _ => low_low b
theorem of_spec {x : W} {t : T} {S : HS} {nD : Nat} {H : Hd} (h : RsI x t S) (hn : t.n ≤ 200) (id : Int) {xs : List KS.Ky} (hs : KS.Srt xs) (hm : ∀ v,v ∈ xs ↔ (id,v) ∈ t.L) :
  ∃ c so S',rooms_Rooms_Of.f (disp 2000 (nD + 2)) H 2000 (some (HA.cell0 x.w)) id S = some (.fn (.func 63) [] [.ptr (some (HA.cell0 c))],S') ∧ S'.heap c = .cells 1 [[so.hv]] true ∧ S'.rows so 1 = some ((xs.map (ofKey t.R)).map PK.row1) ∧ (S.next ≤ c ∧ c < S'.next) ∧ (∀ q,so.a = some q → S.next ≤ q.1 ∧ q.1 < S'.next) ∧ Fr S.next S S' := by
 have hxl : xs.length ≤ 900 := by
  obtain ⟨ys,h1,h2,h3,_⟩ := h.rel.at1 id
  have : ys = xs := KS.srt_ext h1 hs fun v => by rw [h2,hm]
  subst this
  omega
 rw [rooms_Rooms_Of.f,letv,letv]
 simp only [new_next]
 have n3 : ((S.new (.cells 1 [[.ptr (some (HA.cell0 x.w))]] true)).new (.cells 1 [[Sl.nil.hv]] true)).next = S.next + 2 := rfl
 have f3 : Fr S.next S ((S.new (.cells 1 [[.ptr (some (HA.cell0 x.w))]] true)).new (.cells 1 [[Sl.nil.hv]] true)) := (Fr.new (Nat.le_refl _) _).trans (Fr.new (by simp only [new_next]; omega) _)
 have c0 : ((S.new (.cells 1 [[.ptr (some (HA.cell0 x.w))]] true)).new (.cells 1 [[Sl.nil.hv]] true)).heap S.next = .cells 1 [[.ptr (some (HA.cell0 x.w))]] true := by
  rw [new_old _ (by simp only [new_next]; omega)]; exact new_here _ _
 have c1 : ((S.new (.cells 1 [[.ptr (some (HA.cell0 x.w))]] true)).new (.cells 1 [[Sl.nil.hv]] true)).heap (S.next + 1) = .cells 1 [[Sl.nil.hv]] true := new_here (S.new _) _
 generalize (S.new (.cells 1 [[.ptr (some (HA.cell0 x.w))]] true)).new (.cells 1 [[Sl.nil.hv]] true) = T at n3 f3 c0 c1 ⊢
 have hT := h.fr f3
 rw [ldP_cell c0,Option.bind_some,if_pos (by simp),Option.bind_some,Option.bind_some,hT.ldr,Option.bind_some]
 obtain ⟨fn,u,v,S1,K,e1,hTl,hK,f1⟩ := of_rel (nD := nD) hT.rel id hs hm
 have l1 := f1.le
 have h1 := hT.fr f1
 rw [e1,Option.bind_some]
 have hlen : (xs.map KS.row1).length = xs.length := by simp
 have hI0 : Gt S.next x.w (xs.map (ofKey t.R)) 0 Sl.nil S1 := ⟨(f1.eq _ (by omega)).trans c0,(f1.eq _ (by omega)).trans c1,by rw [List.take_zero]; exact .nil,by omega⟩
 have hOS : ∀ i,OA x t i → i < S.next := fun i ho => h.ltO ho
 obtain ⟨T2,st,S',O',e2,e3,de,n5,ch,lt,hnn,hs'⟩ := range_tells (D := disp 2000 (nD + 2)) (H := H) (fv := .fn fn u v) (S := S1) (hd := fun vs T =>
   Option.bind (HS.lp T (S1.next + 1)) fun _ => Option.bind (args1 vs) fun ar => Option.bind (dS ar) fun p => rooms_Rooms_Of.J0 (disp 2000 (nD + 2)) H 2000 (S1.next + 1) (some (HA.cell0 S.next)) (some (HA.cell0 (S.next + 1))) p T)
  (bd := fun i U => if h : i < xs.length then
    Option.bind (U.ldP (HA.cell0 S.next)) fun p11 => Option.bind p11 fun p12 => Option.bind (U.ldP (HA.fld p12 15)) fun p13 => Option.bind (book_Book_room_Room_Get.f (disp 2000 (nD + 2)) H 2000 p13 xs[i] U) fun p14 => Option.bind (HS.ldSl p14.2 (HA.cell0 (S.next + 1))) fun p16 =>
    letv (HS.lit p14.2 [[(.ptr p14.1.1)]] 1) fun p17 => Option.bind (HS.rows p17.2 p17.1 1) fun p18 => Option.bind (HS.app p17.2 p16 p18 1) fun p19 => Option.bind (HS.sets p19.2 (HA.cell0 (S.next + 1)) [p19.1.hv]) fun p21 => HS.endr p21 (S1.next + 1) none else none)
  hTl (fun i h => (hK i h).2) (fun i O U => ∃ so,Gt S.next x.w (xs.map (ofKey t.R)) i so U ∧ (∀ y,OA x t y → U.heap y = S.heap y) ∧ ∀ y,O y ↔ (Og S.next so y ∨ OA x t y)) (fun _ _ _ => False)
  (fun i O U U' ⟨so,h1,h2,h3⟩ hk hn => ⟨so,h1.keep (fun y ho => hk y ((h3 y).2 (.inl ho))) hn,fun y ho => (hk y ((h3 y).2 (.inr ho))).trans (h2 y ho),h3⟩) (fun _ _ _ _ h => h.elim)
  (fun y => Og S.next Sl.nil y ∨ OA x t y) (fun y ho => by
   rcases ho with (g | ⟨q,g,_⟩) | g
   ·omega
   ·cases g
   ·have := hOS y g; omega) ⟨Sl.nil,hI0,fun y ho => (f1.eq y (by have := hOS y ho; omega)).trans (f3.eq y (hOS y ho)),fun _ => Iff.rfl⟩ (fun y ho hk => by
   have := hK y hk
   rcases ho with (g | ⟨q,g,_⟩) | g
   ·omega
   ·cases g
   ·have := hOS y g; omega)
  (fun i hi U hU => by
   have hi' : i < xs.length := by simpa using hi
   rw [lp_at hU,Option.bind_some,List.getElem_map,show args1 (KS.row1 xs[i]) = some (KS.kv xs[i]) from rfl,Option.bind_some,show dS (KS.kv xs[i]) = some xs[i] from rfl,Option.bind_some,rooms_Rooms_Of.J0,begin_at hU,Option.bind_some,Option.bind_some,dif_pos hi']
   rfl)
  (fun i hi O1 U ⟨so,g1,g2',g3⟩ hnu hl hno hlt => by
   have g2 : RsI x t U := h.keep g2' (by have := g1.nx; omega)
   have hi' : i < xs.length := by simpa using hi
   have hnx0 := g1.nx
   have hmem : (id,xs[i]) ∈ t.L := (hm _).1 (List.getElem_mem hi')
   obtain ⟨e,he,hk1,hk2⟩ := (h.link _ _).1 hmem
   obtain ⟨o,U1,ho,eg,fg⟩ := book_get (n := nD + 1) (H := H) g2 xs[i]
   have hoe : o = some e := Fnd.uniq g2 ho (.some he (by rw [key_map ⟨e.name,hk1.symm⟩]; exact hk1))
   subst hoe
   have hptr : ptrOf (some e) = ofKey t.R xs[i] := by rw [← hk1,ofKey_at h he]; rfl
   have lg := fg.le
   have g1 : Gt S.next x.w (xs.map (ofKey t.R)) i so U1 := g1.keep (fun y ho => fg.eq y (g1.lt ho)) lg
   have hnx := g1.nx
   have hso : ∀ q,so.a = some q → S.next + 2 ≤ q.1 ∧ q.1 < U.next := fun q hq => ⟨(g1.vec.lo q hq).1,hlt q.1 ((g3 _).2 (.inl (.inr ⟨q,hq,rfl⟩)))⟩
   rw [dif_pos hi',ldP_cell ((fg.eq _ (by omega)).symm.trans g1.c0),Option.bind_some,Option.bind_some,g2.ldb,Option.bind_some,eg,Option.bind_some]
   simp only
   rw [ldSl_cell g1.co,Option.bind_some,hptr]
   obtain ⟨so',T3,e3,lr,v3,f3,k3,q3⟩ := PK.app1_spec (n := S.next + 2) (xs := (xs.map (ofKey t.R)).take i) (ofKey t.R xs[i]) g1.vec hnx (by simp; omega)
   have l3 := f3.le
   have e : (xs.map (ofKey t.R)).take (i + 1) = (xs.map (ofKey t.R)).take i ++ [ofKey t.R xs[i]] := by
    rw [List.take_succ_eq_append_getElem (by simpa using hi'),List.getElem_map]
   rw [← e] at v3
   have c3 : T3.heap (S.next + 1) = .cells 1 [[so.hv]] true := by rw [k3 _ (by omega) (fun q hq e => by have := hso q hq; omega)]; exact g1.co
   rw [letv,lr,Option.bind_some,e3,Option.bind_some,sets_cell _ c3,Option.bind_some]
   have hU1 : U.next ≤ T3.next := by
    have : U1.next ≤ T3.next := by omega
    omega
   have hkk : ∀ y,y < U.next → y ≠ S.next + 1 → (∀ q,so.a = some q → q.1 ≠ y) → (T3.put (S.next + 1) (.cells 1 [[so'.hv]] true)).heap y = U.heap y := fun y a1 a2 a3 => by rw [put_other _ a2,k3 y (by omega) a3,fg.eq y a1]
   have hg : Gt S.next x.w (xs.map (ofKey t.R)) (i + 1) so' (T3.put (S.next + 1) (.cells 1 [[so'.hv]] true)) := ⟨(hkk _ (by omega) (by omega) (fun q hq e => by have := hso q hq; omega)).trans ((fg.eq _ (by omega)).symm.trans g1.c0),put_here _ _ _,v3.put_ne (fun q hq e => by have := v3.lo q hq; omega),by rw [put_next]; omega⟩
   have hw2 : ∀ y,OA x t y → (T3.put (S.next + 1) (.cells 1 [[so'.hv]] true)).heap y = S.heap y := fun y ho => (hkk y (g2.ltO ho) (by have := hOS y ho; omega) (fun q hq e => by have := hso q hq; have := hOS y ho; omega)).trans (g2' y ho)
   refine ⟨_,fun y => Og S.next so' y ∨ OA x t y,none,rfl,⟨by rw [put_next]; omega,fun y a1 a2 => ?_,fun y ho => ?_⟩,fun y ho => ?_,fun _ => ⟨so',hg,hw2,fun _ => Iff.rfl⟩,fun c h => by cases h⟩
   ·have hno : ¬ Og S.next so y := fun h => a2 ((g3 y).2 (.inl h))
    exact hkk y a1 (fun e => hno (.inl ⟨by omega,by omega⟩)) (fun q hq e => hno (.inr ⟨q,hq,e⟩))
   ·rcases ho with (g | ⟨q,g,rfl⟩) | g
    ·exact .inl ((g3 y).2 (.inl (.inl g)))
    ·rcases q3 q g with g' | ⟨q0,a1,a2⟩
     ·exact .inr (by omega)
     ·exact .inl ((g3 _).2 (.inl (.inr ⟨q0,a1,a2⟩)))
    ·exact .inl ((g3 y).2 (.inr g))
   ·rcases ho with g | g
    ·exact hg.lt g
    ·rw [put_next]; have := hOS y g; omega)
 erw [e2]
 rw [Option.bind_some]
 simp only [e3,Option.bind_some]
 have hle := ch.le
 cases hst : st with
 | some c => exact (hs' c hst).elim
 | none =>
  obtain ⟨so,g1,g2,g3⟩ := hnn hst
  rw [hlen] at g1
  have hv := g1.vec
  rw [List.take_of_length_le (by simp)] at hv
  have hlo := hv.lo
  have hnx := g1.nx
  simp only [pcode,Option.bind_some,if_true]
  rw [rooms_Rooms_Of.J1]
  simp only [HS.leave,de,Option.bind_some]
  refine ⟨S.next + 1,so,_,rfl,by rw [put_other _ (by omega)]; exact g1.co,rows_keep hv.rows fun q hq => ?_,⟨by omega,by rw [put_next]; omega⟩,fun q hq => ⟨by have := hlo q hq; omega,by rw [put_next]; exact (hlo q hq).2⟩,⟨by rw [put_next]; omega,fun y hy => ?_⟩⟩
  ·have := hlo q hq
   have := (lt q.1 ((g3 _).2 (.inl (.inr ⟨q,hq,rfl⟩)))).1
   rw [put_other _ this]
  ·rw [put_other _ (by omega)]
   by_cases hx2 : OA x t y
   ·exact g2 y hx2
   ·rw [ch.eq y (by omega) (fun ho => by
     rcases ho with (g | ⟨q,g,_⟩) | g
     ·omega
     ·cases g
     ·exact hx2 g),f1.eq y (by omega)]
    exact f3.eq y hy
end Go.Proofs.YtbmfomkfmpppiaaGreat.X
namespace Go.Proofs.YtbmfomkfmpppiaaGreat.X
open Go.Proofs.YtbmfomkfmpppiaaGreat.HL
set_option linter.unusedVariables false
theorem told_tells {k n c : Nat} {B : HS} {s : Sl} {xs : List BK.En} (hk : xs.length < k) (hx : xs.length ≤ 1000000) (hc : B.heap c = .cells 1 [[s.hv]] true) (hr : B.rows s 2 = some (xs.map BK.enRow)) (K : Nat → Prop) (hK : K c ∧ ∀ q,s.a = some q → K q.1) :
  Tells (disp k (n + 2)) (.fn (.func 119) [] [.ptr (some (HA.cell0 c))]) (xs.map BK.enRow) K B := by
 intro H l I Stop ht O S hI hB
 have hlen : (xs.map BK.enRow).length = xs.length := by simp
 have hcS : S.heap c = .cells 1 [[s.hv]] true := (hB c hK.1).1.trans hc
 have hrS : S.rows s 2 = some (xs.map BK.enRow) := rows_keep hr fun q hq => (hB q.1 (hK.2 q hq)).1
 have hloop : ∀ f i O1 T,xs.length - i < f → i ≤ xs.length → I i O1 T → S.next ≤ T.next → (∀ id,id < S.next → ¬ O id → T.heap id = S.heap id) → (∀ id,O1 id → O id ∨ S.next ≤ id) →
   ∃ S' O',book_told_room_Room_1.L0 (disp k (n + 1)) H k f (.fn (.yield l) [] []) s (xs.length : Int) (i : Int) T = some ((),S') ∧ S.next ≤ S'.next ∧ (∀ id,id < S.next → ¬ O id → S'.heap id = S.heap id) ∧ (∀ id,O' id → O id ∨ S.next ≤ id) ∧ (I xs.length O' S' ∨ Stop O' S') := by
  intro f
  induction f with
  | zero => intro i O1 T h; omega
  | succ f ih =>
   intro i O1 T hf hi hIT hn hk2 hO
   rw [book_told_room_Room_1.L0]
   by_cases hlt : i < xs.length
   ·have hrT : T.rows s 2 = some (xs.map BK.enRow) := rows_keep hrS fun q hq => hk2 q.1 (hB q.1 (hK.2 q hq)).2.2 (hB q.1 (hK.2 q hq)).2.1
    obtain ⟨ad,a1,a2,a3⟩ := BK.en_rows hrT hlt
    rw [if_pos (by omega),a1,Option.bind_some,a2,Option.bind_some,a3,Option.bind_some,letv]
    have hs0 : (T.new (.cells 2 [[.str [],.ptr none]] true)).sets (HA.cell0 T.next) [.str xs[i].1,.ptr xs[i].2] = some ((T.new (.cells 2 [[.str [],.ptr none]] true)).put T.next (.cells 2 [[.str xs[i].1,.ptr xs[i].2]] true)) := (sets_row (new_here T _) rfl (by simp)).trans rfl
    have ft : Fr T.next T ((T.new (.cells 2 [[.str [],.ptr none]] true)).put T.next (.cells 2 [[.str xs[i].1,.ptr xs[i].2]] true)) := (Fr.new (Nat.le_refl _) _).trans (Fr.put (Nat.le_refl _) _)
    have hcell : ((T.new (.cells 2 [[.str [],.ptr none]] true)).put T.next (.cells 2 [[.str xs[i].1,.ptr xs[i].2]] true)).heap T.next = .cells 2 [[.str xs[i].1,.ptr xs[i].2]] true := put_here _ _ _
    rw [hs0,Option.bind_some]
    generalize (T.new (.cells 2 [[.str [],.ptr none]] true)).put T.next (.cells 2 [[.str xs[i].1,.ptr xs[i].2]] true) = T1 at ft hcell
    have hIT1 : I i O1 T1 := ht.keep i O1 T T1 hIT (fun id ho => ft.eq id (ht.lt i O1 T hIT id ho)) ft.le
    obtain ⟨b,T2,O2,e2,n2,k2,o2,g1,g2⟩ := ht.step i (by omega) O1 T1 hIT1
    have hle := ft.le
    have he : disp k (n + 1) H (.fn (.yield l) [] []) [.str xs[i].1,.ptr xs[i].2] T1 = some (.bool b,T2) := by
     rw [disp_yield,← e2,List.getElem_map]; rfl
    have hk3 : ∀ id,id < S.next → ¬ O id → T2.heap id = S.heap id := fun id h1 h2 => ((k2 id (by omega) (fun ho => (hO id ho).elim h2 (fun h => by omega))).trans (ft.eq id (by omega))).trans (hk2 id h1 h2)
    have hO3 : ∀ id,O2 id → O id ∨ S.next ≤ id := fun id h => (o2 id h).elim (hO id) (fun h => .inr (by omega))
    rw [row_ldS (cell_row hcell) rfl rfl,Option.bind_some,row_ldP (cell_row hcell) rfl rfl,Option.bind_some,he,Option.bind_some]
    simp only [dB,Option.bind_some]
    cases b with
    | false => exact ⟨T2,O2,rfl,by omega,hk3,hO3,.inr (g2 rfl)⟩
    | true =>
     rw [if_neg (by simp),w64_id (by omega) (by omega),show ((i : Int) + 1) = ((i + 1 : Nat) : Int) by simp]
     exact ih (i + 1) O2 T2 (by omega) (by omega) (g1 rfl) (by omega) hk3 hO3
   ·obtain rfl : i = xs.length := by omega
    rw [if_neg (by omega)]
    exact ⟨T,O1,rfl,hn,hk2,hO,.inl hIT⟩
 obtain ⟨S',O',e,h1,h2,h3,h4⟩ := hloop k 0 O S (by omega) (Nat.zero_le _) hI (Nat.le_refl _) (fun _ _ _ => rfl) (fun _ h => .inl h)
 refine ⟨S',O',?_,h1,h2,h3,by rw [hlen]; exact h4⟩
 rw [disp_func]
 have hsl : (s.len : Int) = xs.length := by rw [← rows_len hrS]; simp
 have e' : call_119 (disp k (n + 1)) H k ([] ++ [HV.fn (.yield l) [] []] ++ [.ptr (some (HA.cell0 c))]) S = some (.tup [],S') := by
  rw [call_119]
  simp only [List.nil_append,List.cons_append,args2,Option.bind_some,dF,dP]
  rw [book_told_room_Room_1.f,Option.bind_some,ldSl_cell hcS,Option.bind_some,hsl]
  erw [e]
  rfl
 repeat rw [if_neg (by decide)]
 rw [if_pos rfl,e']
theorem ldF_cell {S : HS} {id : Nat} {f : Fn} {xs ys : List HV} {b : Bool} (h : S.heap id = .cells 1 [[.fn f xs ys]] b) : S.ldF (HA.cell0 id) = some (.fn f xs ys) := by rw [HS.ldF,get_cell h]; rfl
theorem all2_tells {n c : Nat} {B : HS} {fv0 : Fn} {us ws : List HV} {es : List BK.En} {K : Nat → Prop} (hT : Tells (disp 2000 (n + 2)) (.fn fv0 us ws) (es.map BK.enRow) K B) (hc : B.heap c = .cells 1 [[.fn fv0 us ws]] true) (hK : K c) :
  Tells (disp 2000 (n + 3)) (.fn (.func 61) [] [.ptr (some (HA.cell0 c))]) (es.map fun e => [HV.ptr e.2]) K B := by
 intro H l I Stop ht O S hI hB
 have hcS : S.heap c = .cells 1 [[.fn fv0 us ws]] true := (hB c hK).1.trans hc
 have hcn := (hB c hK).2.2
 have f1 : Fr S.next S (S.new (.cells 1 [[.fn (.yield l) [] []]] true)) := Fr.new (Nat.le_refl _) _
 have c1 : (S.new (.cells 1 [[.fn (.yield l) [] []]] true)).heap S.next = .cells 1 [[.fn (.yield l) [] []]] true := new_here _ _
 have n1 : (S.new (.cells 1 [[.fn (.yield l) [] []]] true)).next = S.next + 1 := rfl
 have hOl : ∀ id,O id → id < S.next := ht.lt 0 O S hI
 have e' : ∃ S' O',call_61 (disp 2000 (n + 2)) H 2000 ([] ++ [HV.fn (.yield l) [] []] ++ [.ptr (some (HA.cell0 c))]) S = some (.tup [],S') ∧ S.next ≤ S'.next ∧ (∀ id,id < S.next → ¬ O id → S'.heap id = S.heap id) ∧ (∀ id,O' id → O id ∨ S.next ≤ id) ∧ (I (es.map fun e => [HV.ptr e.2]).length O' S' ∨ Stop O' S') := by
  rw [call_61]
  simp only [List.nil_append,List.cons_append,args2,Option.bind_some,dF,dP]
  rw [rooms_Rooms_All_2.f]
  simp only [dF,Option.bind_some,letv]
  generalize S.new (.cells 1 [[.fn (.yield l) [] []]] true) = S1 at f1 c1 n1 ⊢
  rw [ldF_cell ((f1.eq c hcn).trans hcS),Option.bind_some]
  have hB1 : ∀ id,K id → S1.heap id = B.heap id := fun id g => (f1.eq id (hB id g).2.2).trans (hB id g).1
  have hT1 : Tells (disp 2000 (n + 2)) (.fn fv0 us ws) (es.map BK.enRow) K S1 := fun H' l' I' Stop' ht' O' S' hI' hB' => hT H' l' I' Stop' ht' O' S' hI' (fun id g => ⟨(hB' id g).1.trans (hB1 id g),(hB' id g).2⟩)
  have hI1 : I 0 O S1 := ht.keep 0 O S S1 hI (fun id ho => f1.eq id (hOl id ho)) f1.le
  obtain ⟨T2,st,S',O',e2,e3,de,n5,ch,lt,hn,hs⟩ := range_tells (D := disp 2000 (n + 2)) (H := H) (fv := .fn fv0 us ws) (S := S1) (hd := fun vs T =>
    Option.bind (HS.lp T (S1.next + 1)) fun u14 => Option.bind (args2 vs) fun ar11 => Option.bind (dS ar11.1) fun p12 => Option.bind (dP ar11.2) fun p13 => rooms_Rooms_All_2.J0 (disp 2000 (n + 2)) H (S1.next + 1) (some (HA.cell0 S.next)) p13 T)
   (bd := fun i U => if h : i < es.length then Option.bind (HS.ldF U (HA.cell0 S.next)) fun p7 => Option.bind (disp 2000 (n + 2) H p7 [(.ptr es[i].2)] U) fun p8 => Option.bind (dB p8.1) fun p9 => if (!p9) = true then HS.endr p8.2 (S1.next + 1) (some .ret) else HS.endr p8.2 (S1.next + 1) none else none)
   hT1 (fun id g => by have := (hB id g).2.2; omega)
   (fun i OO U => U.heap S.next = .cells 1 [[.fn (.yield l) [] []]] true ∧ S.next < U.next ∧ ∃ O1 : Nat → Prop,(∀ id,OO id ↔ (id = S.next ∨ O1 id)) ∧ (∀ id,O1 id → id ≠ S.next) ∧ I i O1 U)
   (fun cd OO U => cd = .ret ∧ ∃ O1 : Nat → Prop,(∀ id,O1 id → OO id) ∧ Stop O1 U)
   (fun i OO U U' ⟨g1,g2,O1,g3,g4,g5⟩ hk hn => ⟨(hk _ ((g3 _).2 (.inl rfl))).trans g1,by omega,O1,g3,g4,ht.keep i O1 U U' g5 (fun id ho => hk id ((g3 id).2 (.inr ho))) hn⟩)
   (fun cd OO U U' ⟨g1,O1,g3,g5⟩ hk hn => ⟨g1,O1,g3,ht.keepS O1 U U' g5 (fun id ho => hk id (g3 id ho)) hn⟩)
   (fun id => id = S.next ∨ O id) (fun id g => by
    rcases g with rfl | g
    ·omega
    ·have := hOl id g; omega) ⟨c1,by omega,O,fun _ => Iff.rfl,fun id g e => by have := hOl id g; omega,hI1⟩ (fun id g hk => by
    rcases g with rfl | g
    ·have := (hB _ hk).2.2; omega
    ·exact (hB id hk).2.1 g)
   (fun i hi U hU => by
    have hi' : i < es.length := by simpa using hi
    rw [lp_at hU,Option.bind_some,List.getElem_map,show args2 (BK.enRow es[i]) = some (.str es[i].1,.ptr es[i].2) from rfl,Option.bind_some,show dS (HV.str es[i].1) = some es[i].1 from rfl,Option.bind_some,show dP (HV.ptr es[i].2) = some es[i].2 from rfl,Option.bind_some,rooms_Rooms_All_2.J0,begin_at hU,Option.bind_some,Option.bind_some,dif_pos hi'])
   (fun i hi OO U ⟨g1,g2,O1,g3,g4,g5⟩ hnu hl hno hlt => by
    have hi' : i < es.length := by simpa using hi
    obtain ⟨b,U2,O2,e4,n2,k2,o2,q1,q2⟩ := ht.step i (by simpa using hi') O1 U g5
    have he : disp 2000 (n + 2) H (.fn (.yield l) [] []) [.ptr es[i].2] U = some (.bool b,U2) := by
     rw [disp_yield,← e4,List.getElem_map]
    rw [dif_pos hi',ldF_cell g1,Option.bind_some,he,Option.bind_some]
    simp only [dB,Option.bind_some]
    have hU2 : U2.heap S.next = .cells 1 [[.fn (.yield l) [] []]] true := (k2 _ g2 (fun g => g4 _ g rfl)).trans g1
    have ho2 : ∀ id,O2 id → id ≠ S.next := fun id g e => by
     rcases o2 id g with k | k
     ·exact g4 id k e
     ·omega
    have hch : Chg OO (fun id => id = S.next ∨ O2 id) U U2 := ⟨n2,fun id a1 a2 => k2 id a1 (fun g => a2 ((g3 id).2 (.inr g))),fun id g => by
     rcases g with g | g
     ·exact .inl ((g3 id).2 (.inl g))
     ·exact (o2 id g).imp (fun k => (g3 id).2 (.inr k)) (fun k => k)⟩
    cases b with
    | true =>
     refine ⟨U2,fun id => id = S.next ∨ O2 id,none,by rw [if_neg (by simp)],hch,fun id g => ?_,fun _ => ⟨hU2,by omega,O2,fun _ => Iff.rfl,ho2,q1 rfl⟩,fun cd h => by cases h⟩
     rcases g with rfl | g
     ·omega
     ·exact ht.lt _ _ _ (q1 rfl) id g
    | false =>
     refine ⟨U2,fun id => id = S.next ∨ O2 id,some .ret,by rw [if_pos (by simp)],hch,fun id g => ?_,fun h => (by cases h),fun cd h => by cases h; exact ⟨rfl,O2,fun id g => .inr g,q2 rfl⟩⟩
     rcases g with rfl | g
     ·omega
     ·exact ht.ltS _ _ (q2 rfl) id g)
  erw [e2]
  rw [Option.bind_some]
  simp only [e3,Option.bind_some]
  have hle := ch.le
  have hfin : ∀ O1 : Nat → Prop,(∀ id,O1 id → O' id) → (∀ id,O1 id → id ≠ S.next) → ∀ id,O1 id → O id ∨ S.next ≤ id := fun O1 h1 h2 id g => by
   rcases ch.own id (h1 id g) with (k | k) | k
   ·exact absurd k (h2 id g)
   ·exact .inl k
   ·exact .inr (by omega)
  have heq : ∀ id,id < S.next → ¬ O id → (S'.put S1.next HObj.dead).heap id = S.heap id := fun id g1 g2 => by
   rw [put_other _ (by omega),ch.eq id (by omega) (fun g => by
    rcases g with g | g
    ·omega
    ·exact g2 g),f1.eq id g1]
  cases hst : st with
  | none =>
   obtain ⟨g1,g2,O1,g3,g4,g5⟩ := hn hst
   simp only [pcode,Option.bind_some,if_true,HS.leave,de]
   refine ⟨_,O1,rfl,by rw [put_next]; omega,heq,hfin O1 (fun id g => (g3 id).2 (.inr g)) g4,.inl ?_⟩
   have : (es.map fun e => [HV.ptr e.2]).length = (es.map BK.enRow).length := by simp
   rw [this]
   exact ht.keep _ O1 S' _ g5 (fun id g => put_other _ (lt id ((g3 id).2 (.inr g))).1) (Nat.le_refl _)
  | some cd =>
   obtain ⟨g1,O1,g3,g5⟩ := hs cd hst
   subst g1
   simp only [pcode,Option.bind_some,HS.leave,de]
   refine ⟨_,O1,rfl,by rw [put_next]; omega,heq,fun id g => ?_,.inr (ht.keepS O1 S' _ g5 (fun id g => put_other _ (lt id (g3 id g)).1) (Nat.le_refl _))⟩
   rcases ch.own id (g3 id g) with (k | k) | k
   ·exact .inr (by omega)
   ·exact .inl k
   ·exact .inr (by omega)
 obtain ⟨S',O',e,h1,h2,h3,h4⟩ := e'
 refine ⟨S',O',?_,h1,h2,h3,h4⟩
 rw [disp_func]
 repeat rw [if_neg (by decide)]
 rw [if_pos rfl,e]
end Go.Proofs.YtbmfomkfmpppiaaGreat.X
namespace Go.Proofs.YtbmfomkfmpppiaaGreat.X
open Go.Proofs.YtbmfomkfmpppiaaGreat.HL
set_option linter.unusedVariables false
theorem Tells.move {D : Dp} {fv : HV} {vs : List (List HV)} {K : Nat → Prop} {B B' : HS} (h : Tells D fv vs K B) (hk : ∀ id,K id → B'.heap id = B.heap id) : Tells D fv vs K B' :=
 fun H l I Stop ht O S hI hB => h H l I Stop ht O S hI fun id g => ⟨(hB id g).1.trans (hk id g),(hB id g).2⟩
theorem clamp {m : Int} (h0 : 0 ≤ m) (h1 : m ≤ 1000) : mx 0 (mn m 1000) = m := by
 unfold mx mn
 split <;> split at * <;> omega
theorem rooms_new {mR mJ mB : Int} (r0 : 0 ≤ mR) (r1 : mR ≤ 1000) (j0 : 0 ≤ mJ) (j1 : mJ ≤ 1000) (S : HS) : ∃ x t S',rooms_New.f [] [] [] [] 0 0 mJ mR mB 0 0 0 0 0 0 S = some (some (HA.cell0 x.w),S') ∧ RsI x t S' ∧ x.mR = mR ∧ x.mJ = mJ ∧ t.n = 0 ∧ t.R = [] ∧ t.L = [] ∧ Fr S.next S S' ∧ ∀ y,OA x t y → S.next ≤ y := by
 rw [rooms_New.f,letv]
 have f0 : Fr S.next S (S.new (.cells 15 [[.str [],.str [],.str [],.str [],.int .i64 0,.int .i64 0,.int .i64 mJ,.int .i64 mR,.int .i64 mB,.int .i64 0,.int .i64 0,.int .i64 0,.int .i64 0,.int .i64 0,.int .i64 0]] true)) := Fr.new (Nat.le_refl _) _
 have c0 : (S.new (.cells 15 [[.str [],.str [],.str [],.str [],.int .i64 0,.int .i64 0,.int .i64 mJ,.int .i64 mR,.int .i64 mB,.int .i64 0,.int .i64 0,.int .i64 0,.int .i64 0,.int .i64 0,.int .i64 0]] true)).heap S.next = _ := new_here _ _
 have n0 : (S.new (.cells 15 [[.str [],.str [],.str [],.str [],.int .i64 0,.int .i64 0,.int .i64 mJ,.int .i64 mR,.int .i64 mB,.int .i64 0,.int .i64 0,.int .i64 0,.int .i64 0,.int .i64 0,.int .i64 0]] true)).next = S.next + 1 := rfl
 generalize S.new (.cells 15 [[.str [],.str [],.str [],.str [],.int .i64 0,.int .i64 0,.int .i64 mJ,.int .i64 mR,.int .i64 mB,.int .i64 0,.int .i64 0,.int .i64 0,.int .i64 0,.int .i64 0,.int .i64 0]] true) = S0 at f0 c0 n0 ⊢
 rw [row_ldI (cell_row c0) rfl rfl,Option.bind_some,clamp r0 r1,book_New_room_Room.f,if_neg (by omega),book_New_room_Room.J0,if_neg (by simp; omega),letv,Option.bind_some]
 simp only
 have f1 : Fr S0.next S0 (S0.new (.cells 2 [[.int .i64 mR,Sl.nil.hv]] true)) := Fr.new (Nat.le_refl _) _
 have c1 : (S0.new (.cells 2 [[.int .i64 mR,Sl.nil.hv]] true)).heap S0.next = .cells 2 [[.int .i64 mR,Sl.nil.hv]] true := new_here _ _
 have n1 : (S0.new (.cells 2 [[.int .i64 mR,Sl.nil.hv]] true)).next = S0.next + 1 := rfl
 generalize S0.new (.cells 2 [[.int .i64 mR,Sl.nil.hv]] true) = S1 at f1 c1 n1 ⊢
 have c01 := (f1.eq S.next (by omega)).trans c0
 rw [row_ldI (cell_row c01) rfl rfl,Option.bind_some,clamp j0 j1]
 obtain ⟨S2,e2,hr,f2,n2,o2⟩ := new_rel (most := mJ) j0 (by omega) S1
 rw [e2,Option.bind_some]
 simp only
 have c02 := (f2.eq S.next (by omega)).trans c01
 have c12 := (f2.eq S0.next (by omega)).trans c1
 rw [row_ldS (cell_row c02) rfl rfl,Option.bind_some,row_ldS (cell_row c02) rfl rfl,Option.bind_some,row_ldS (cell_row c02) rfl rfl,Option.bind_some,row_ldS (cell_row c02) rfl rfl,Option.bind_some,row_ldI (cell_row c02) rfl rfl,Option.bind_some,row_ldI (cell_row c02) rfl rfl,Option.bind_some,row_ldI (cell_row c02) rfl rfl,Option.bind_some,row_ldI (cell_row c02) rfl rfl,Option.bind_some,row_ldI (cell_row c02) rfl rfl,Option.bind_some,row_ldI (cell_row c02) rfl rfl,Option.bind_some,row_ldI (cell_row c02) rfl rfl,Option.bind_some,row_ldI (cell_row c02) rfl rfl,Option.bind_some,row_ldI (cell_row c02) rfl rfl,Option.bind_some,row_ldI (cell_row c02) rfl rfl,Option.bind_some,row_ldI (cell_row c02) rfl rfl,Option.bind_some,letv]
 have f3 : Fr S2.next S2 (S2.new (.cells 17 [(⟨S2.next,S0.next,S1.next + 2,S1.next,S1.next + 1,mR,mJ,mB⟩ : W).row] true)) := Fr.new (Nat.le_refl _) _
 have hOR : ∀ y,OR (S1.next + 2) S1.next (S1.next + 1) [] [] y → S1.next ≤ y ∧ y < S2.next := fun y g => ⟨o2 y g,hr.ltO g⟩
 have hOwn : ∀ y,Own S0.next Sl.nil y → y = S0.next := fun y g => by
  rcases g with g | ⟨q,hq,_⟩
  ·exact g
  ·cases hq
 refine ⟨⟨S2.next,S0.next,S1.next + 2,S1.next,S1.next + 1,mR,mJ,mB⟩,⟨Sl.nil,0,[],[],[],[]⟩,_,rfl,{ cell := new_here _ _,hi := Nat.lt_succ_self _,book := ⟨(f3.eq S0.next (by omega)).trans c12,.inl ⟨rfl,rfl,rfl⟩,fun q hq => (by cases hq),?_,List.Pairwise.nil,fun e he => (by cases he),by simp⟩,rel := hr.fr f3,rooms := fun e he => (by cases he),dwb := fun g => ?_,dwr := fun g => ?_,dbr := fun y g g' => ?_,pw := List.Pairwise.nil,dR := fun e he => (by cases he),link := fun a b => ⟨fun g => (by cases g),fun ⟨e,he,_⟩ => (by cases he)⟩,ne := fun e he => (by cases he),cm := fun e he => (by cases he),cR := Nat.le_refl _,mR0 := r0,mR1 := r1,mJ0 := j0,mJ1 := j1,cntR := r0,cntJ := fun a xs hs hm => ?_ },rfl,rfl,rfl,rfl,rfl,(f0.trans ((f1.mono f0.le).trans ((f2.mono (by omega)).trans (f3.mono (by omega))))),fun y g => ?_⟩
 ·show S0.next < S2.next + 1; omega
 ·have := hOwn _ g; simp only at this; omega
 ·have := (hOR _ g).2; simp only at this; omega
 ·have h1 := hOwn y g; have h2 := (hOR y g').1; omega
 ·have : xs = [] := by
   cases xs with
   | nil => rfl
   | cons v xs => have := (hm v).1 (by simp); cases this
  rw [this]; exact j0
 ·rcases g with (rfl | g | g) | ⟨e,he,_⟩
  ·show S.next ≤ S2.next; omega
  ·have := hOwn y g; omega
  ·have := (hOR y g).1; omega
  ·cases he
end Go.Proofs.YtbmfomkfmpppiaaGreat.X
namespace Go.Proofs.YtbmfomkfmpppiaaGreat.X
open Go.Proofs.YtbmfomkfmpppiaaGreat.HL
set_option linter.unusedVariables false
theorem act_rows {S : HS} {s : Sl} {xs : List Ac} (h : S.rows s 3 = some (xs.map actRow)) {i : Nat} (hi : i < xs.length) : ∃ ad,S.idx s (i : Int) 3 = some ad ∧ S.ldI .i64 (HA.fld ad 0) = some xs[i].1 ∧ S.ldI .i64 (HA.fld ad 1) = some xs[i].2.1 ∧ S.ldS (HA.fld ad 2) = some xs[i].2.2 := by
 obtain ⟨ad,h1,h2,h3⟩ := rows_idx h (i := i) (by simpa using hi)
 rw [List.getElem_map] at h3
 exact ⟨ad,h1,row_ldI h3 h2 rfl,row_ldI h3 h2 rfl,row_ldS h3 h2 rfl⟩
theorem great_spec {S : HS} {s : Sl} {ls : List Ac} (hr : S.rows s 3 = some (ls.map actRow)) : ∃ b,rollcalllaw20_great.f 2000 s S = some (b,S) ∧ (b = false → ls.length ≤ 40 ∧ ∀ a ∈ ls,a.2.2.length ≤ 60) := by
 have hsl : (s.len : Int) = ls.length := by rw [← rows_len hr]; simp
 rw [rollcalllaw20_great.f,hsl]
 by_cases h40 : 40 < ls.length
 ·rw [if_pos (by omega)]; exact ⟨true,rfl,fun h => by cases h⟩
 rw [if_neg (by omega)]
 have hloop : ∀ f i,ls.length - i < f → i ≤ ls.length → (∀ a ∈ ls.take i,a.2.2.length ≤ 60) → ∃ b,rollcalllaw20_great.L0 2000 f s (i : Int) S = some (b,S) ∧ (b = false → ls.length ≤ 40 ∧ ∀ a ∈ ls,a.2.2.length ≤ 60) := by
  intro f
  induction f with
  | zero => intro i h; omega
  | succ f ih =>
   intro i hf hi hall
   rw [rollcalllaw20_great.L0,hsl]
   by_cases hlt : i < ls.length
   ·obtain ⟨ad,a1,a2,a3,a4⟩ := act_rows hr hlt
    rw [if_pos (by omega),a1,Option.bind_some,a4,Option.bind_some]
    by_cases hl : 60 < ls[i].2.2.length
    ·rw [if_pos (by omega)]; exact ⟨true,rfl,fun h => by cases h⟩
    ·rw [if_neg (by omega),w64_id (by omega) (by omega),show ((i : Int) + 1) = ((i + 1 : Nat) : Int) by simp]
     refine ih (i + 1) (by omega) (by omega) fun a ha => ?_
     rw [List.take_succ_eq_append_getElem hlt] at ha
     rcases List.mem_append.1 ha with h | h
     ·exact hall a h
     ·simp at h; subst h; omega
   ·obtain rfl : i = ls.length := by omega
    rw [List.take_length] at hall
    rw [if_neg (by omega)]
    exact ⟨false,rfl,fun _ => ⟨by omega,hall⟩⟩
 exact hloop 2000 0 (by omega) (Nat.zero_le _) (by simp)
theorem rows_acts : ∀ {rows : List (List HV)},(∀ row ∈ rows,RowFits [.int .i64,.int .i64,.str] row) → ∃ ls : List Ac,rows = ls.map actRow := by
 intro rows
 induction rows with
 | nil => intro _; exact ⟨[],rfl⟩
 | cons r rows ih =>
  intro h
  obtain ⟨ls,e⟩ := ih fun row hr => h row (by simp [hr])
  have h0 := h r (by simp)
  have hl := h0.len
  obtain ⟨v0,v1,v2,rfl⟩ : ∃ v0 v1 v2,r = [v0,v1,v2] := by
   match r,hl with
   | [a,b,c],_ => exact ⟨a,b,c,rfl⟩
  obtain ⟨q0,q1,q2,_⟩ := h0
  obtain ⟨n,h1,_⟩ := q0
  obtain ⟨m,h2,_⟩ := q1
  obtain ⟨s,h3,_⟩ := q2
  exact ⟨(n,m,s) :: ls,by rw [e,h1,h2,h3]; rfl⟩
theorem member_spec {n : Nat} {H : Hd} {e : Rm} {S : HS} (h : RI e S) (id : Int) : ∃ v0 v1 v2 S',room_Room_Member.f (disp 2000 (n + 1)) H 2000 (some (HA.cell0 e.p)) id S = some ((v0,v1,v2,decide (id ∈ e.ids)),S') ∧ Fr S.next S S' := by
 rw [room_Room_Member.f,letv]
 have f0 : Fr S.next S (S.new (.cells 3 [[.int .i64 0,.bool false,.bool false]] true)) := Fr.new (Nat.le_refl _) _
 have c0 : (S.new (.cells 3 [[.int .i64 0,.bool false,.bool false]] true)).heap S.next = .cells 3 [[.int .i64 0,.bool false,.bool false]] true := new_here _ _
 have n0 : (S.new (.cells 3 [[.int .i64 0,.bool false,.bool false]] true)).next = S.next + 1 := rfl
 generalize S.new (.cells 3 [[.int .i64 0,.bool false,.bool false]] true) = S0 at f0 c0 n0 ⊢
 have h0 := h.fr f0
 obtain ⟨i,S1,e1,hp,f1⟩ := room_at (n := n) (H := H) (k := 2000) (Nat.le_refl _) h0 id
 have h1 := h0.fr f1
 have c1 := (f1.eq S.next (by omega)).trans c0
 have l1 := f1.le
 rw [e1,Option.bind_some]
 have hs : ∀ a b d,S1.sets (HA.cell0 S.next) [.int .i64 a,.bool b,.bool d] = some (S1.put S.next (.cells 3 [[.int .i64 a,.bool b,.bool d]] true)) := fun a b d => (sets_row c1 rfl (by simp)).trans rfl
 have fp : ∀ o,Fr S.next S (S1.put S.next o) := fun o => f0.trans ((f1.mono (by omega)).trans (Fr.put (Nat.le_refl _) _))
 by_cases hin : id ∈ e.ids
 ·have hf := (MK.found_iff hp h.srt).2 hin
  have hi := MK.found_lt hf
  obtain ⟨ad,a1,a2,a3,a4⟩ := MK.en_rows h1.ov.rows hi
  rw [if_neg (by simp [hf]),Option.bind_some,h1.ldS,Option.bind_some]
  simp only
  rw [a1,Option.bind_some,a2,Option.bind_some,a3,Option.bind_some,a4,Option.bind_some,hs,Option.bind_some,row_ldI (cell_row (put_here _ _ _)) rfl rfl,Option.bind_some,row_ldB (cell_row (put_here _ _ _)) rfl rfl,Option.bind_some,row_ldB (cell_row (put_here _ _ _)) rfl rfl,Option.bind_some,decide_eq_true hin]
  exact ⟨_,_,_,_,rfl,fp _⟩
 ·have hf : MK.foundAt e.ms id i = false := by
   cases hf : MK.foundAt e.ms id i with
   | false => rfl
   | true => exact absurd ((MK.found_iff hp h.srt).1 hf) hin
  rw [if_pos (by simp [hf]),hs,Option.bind_some,row_ldI (cell_row (put_here _ _ _)) rfl rfl,Option.bind_some,row_ldB (cell_row (put_here _ _ _)) rfl rfl,Option.bind_some,row_ldB (cell_row (put_here _ _ _)) rfl rfl,Option.bind_some,decide_eq_false hin]
  exact ⟨_,_,_,_,rfl,fp _⟩
theorem rooms_all {x : W} {t : T} {S : HS} {n : Nat} (h : RsI x t S) : ∃ c S' K,rooms_Rooms_All.f (some (HA.cell0 x.w)) S = some (.fn (.func 61) [] [.ptr (some (HA.cell0 c))],S') ∧ Tells (disp 2000 (n + 3)) (.fn (.func 61) [] [.ptr (some (HA.cell0 c))]) (t.R.map fun e => [HV.ptr (some (HA.cell0 e.p))]) K S' ∧ (∀ y,K y → S.next ≤ y ∧ y < S'.next) ∧ Fr S.next S S' := by
 obtain ⟨c,s',S1,e1,g1,g2,g3,g4,g5,f1⟩ := BK.all_spec h.book
 have hcnt := h.book.cnt
 rw [rooms_Rooms_All.f,if_neg (by simp),Option.bind_some,h.ldb,Option.bind_some,e1,Option.bind_some,letv]
 simp only [show dF (HV.fn (.func 119) [] [.ptr (some (HA.cell0 c))]) = some (.fn (.func 119) [] [.ptr (some (HA.cell0 c))]) from rfl,Option.bind_some]
 rw [sets_cell _ (new_here _ _),Option.bind_some]
 have f2 : Fr S1.next S1 ((S1.new (.cells 1 [[.nilFn]] true)).put S1.next (.cells 1 [[.fn (.func 119) [] [.ptr (some (HA.cell0 c))]]] true)) := (Fr.new (Nat.le_refl _) _).trans (Fr.put (Nat.le_refl _) _)
 have c2 : ((S1.new (.cells 1 [[.nilFn]] true)).put S1.next (.cells 1 [[.fn (.func 119) [] [.ptr (some (HA.cell0 c))]]] true)).heap S1.next = .cells 1 [[.fn (.func 119) [] [.ptr (some (HA.cell0 c))]]] true := put_here _ _ _
 have n2 : ((S1.new (.cells 1 [[.nilFn]] true)).put S1.next (.cells 1 [[.fn (.func 119) [] [.ptr (some (HA.cell0 c))]]] true)).next = S1.next + 1 := rfl
 generalize (S1.new (.cells 1 [[.nilFn]] true)).put S1.next (.cells 1 [[.fn (.func 119) [] [.ptr (some (HA.cell0 c))]]] true) = S2 at f2 c2 n2 ⊢
 have l1 := f1.le
 have hrd : Rd S1.next S1 2 s' ((t.R.map ent).map BK.enRow) := ⟨g4,fun q hq => (g5 q hq).2⟩
 have hT := told_tells (k := 2000) (n := n) (B := S2) (c := c) (s := s') (xs := t.R.map ent) (by simp at hcnt ⊢; omega) (by simp at hcnt ⊢; omega) ((f2.eq _ g2).trans g3) (hrd.frame f2 (Nat.le_refl _)).rows (fun y => y = S1.next ∨ y = c ∨ ∃ q,s'.a = some q ∧ q.1 = y) ⟨.inr (.inl rfl),fun q hq => .inr (.inr ⟨q,hq,rfl⟩)⟩
 have hA := all2_tells (n := n) hT c2 (.inl rfl)
 rw [List.map_map] at hA
 refine ⟨S1.next,S2,_,rfl,hA,fun y g => ?_,f1.trans (f2.mono l1)⟩
 rcases g with rfl | rfl | ⟨q,hq,rfl⟩
 ·omega
 ·omega
 ·have := g5 q hq; omega
end Go.Proofs.YtbmfomkfmpppiaaGreat.X
namespace Go.Proofs.YtbmfomkfmpppiaaGreat.X
open Go.Proofs.YtbmfomkfmpppiaaGreat.HL
set_option linter.unusedVariables false
def mineL (id : Int) (R : List Rm) : List Rm := R.filter fun e => decide (id ∈ e.ids)
def lastN (R : List Rm) (i : Nat) : List UInt8 := if i = 0 then [] else ((R.take i).getLast?.map (·.name)).getD []
theorem lastN_succ {R : List Rm} {i : Nat} (hi : i < R.length) : lastN R (i + 1) = R[i].name := by
 unfold lastN
 rw [if_neg (by omega),List.take_succ_eq_append_getElem hi,List.getLast?_concat]
 rfl
theorem lastN_pos {R : List Rm} {i : Nat} (hi : i < R.length) (h0 : 0 < i) : lastN R i = (R[i - 1]'(by omega)).name := by
 obtain ⟨j,rfl⟩ : ∃ j,i = j + 1 := ⟨i - 1,by omega⟩
 rw [lastN_succ (by omega)]; rfl
theorem own_list {x : W} {t : T} {S : HS} (h : RsI x t S) {id : Int} {xs : List KS.Ky} (hs : KS.Srt xs) (hm : ∀ v,v ∈ xs ↔ (id,v) ∈ t.L) : xs.map (ofKey t.R) = (mineL id t.R).map fun e => some (HA.cell0 e.p) := by
 have hF : (mineL id t.R).map Rm.key = xs := by
  refine KS.srt_ext ?_ hs fun v => ?_
  ·have hp : t.R.Pairwise fun a b => KS.klt a.key b.key = true := by
    have hs : (t.R.map ent).Pairwise fun a b => cmpL a.1 b.1 < 0 := h.book.srt
    rw [List.pairwise_map] at hs
    refine hs.imp fun {a b} g => ?_
    have g : cmpL a.name b.name < 0 := g
    rw [cmpL_slt] at g
    unfold KS.klt Rm.key
    by_cases hc : slt (a.name.map low) (b.name.map low) = true
    ·exact hc
    ·rw [if_neg hc] at g
     split at g <;> omega
   unfold KS.Srt
   rw [List.pairwise_map]
   exact hp.sublist List.filter_sublist
  ·rw [hm,h.link]
   simp only [mineL,List.mem_map,List.mem_filter,decide_eq_true_eq]
   constructor
   ·rintro ⟨e,⟨h1,h2⟩,h3⟩; exact ⟨e,h1,h3,h2⟩
   ·rintro ⟨e,h1,h3,h2⟩; exact ⟨e,⟨h1,h2⟩,h3⟩
 rw [← hF,List.map_map]
 refine List.map_congr_left fun e he => ?_
 exact ofKey_at h (List.mem_filter.1 he).1
structure G1 (b3 p : Nat) (id : Int) (R : List Rm) (i : Nat) (sl : Sl) (U : HS) : Prop where
 c3 : U.heap b3 = .cells 1 [[.int .i64 id]] true
 c9 : U.heap p = .cells 1 [[sl.hv]] true
 c10 : U.heap (p + 1) = .cells 1 [[.str (lastN R i)]] true
 c11 : U.heap (p + 2) = .cells 1 [[.int .i64 i]] true
 vec : Vec (p + 3) U 1 sl (((mineL id (R.take i)).map (·.name)).map KS.row1)
 nx : p + 3 ≤ U.next
 lt3 : b3 < p
def O1 (b3 p : Nat) (sl : Sl) (y : Nat) : Prop := y = b3 ∨ (p ≤ y ∧ y < p + 3) ∨ ∃ q,sl.a = some q ∧ q.1 = y
theorem G1.keep {b3 p : Nat} {id : Int} {R : List Rm} {i : Nat} {sl : Sl} {U U' : HS} (h : G1 b3 p id R i sl U) (hk : ∀ y,O1 b3 p sl y → U'.heap y = U.heap y) (hn : U.next ≤ U'.next) : G1 b3 p id R i sl U' :=
 ⟨(hk _ (.inl rfl)).trans h.c3,(hk _ (.inr (.inl ⟨by omega,by omega⟩))).trans h.c9,(hk _ (.inr (.inl ⟨by omega,by omega⟩))).trans h.c10,(hk _ (.inr (.inl ⟨by omega,by omega⟩))).trans h.c11,vec_keep h.vec (fun q hq => hk _ (.inr (.inr ⟨q,hq,rfl⟩))) hn,Nat.le_trans h.nx hn,h.lt3⟩
theorem G1.lt {b3 p : Nat} {id : Int} {R : List Rm} {i : Nat} {sl : Sl} {U : HS} (h : G1 b3 p id R i sl U) {y : Nat} (ho : O1 b3 p sl y) : y < U.next := by
 have := h.nx
 have := h.lt3
 rcases ho with rfl | g | ⟨q,g,rfl⟩
 ·omega
 ·omega
 ·exact (h.vec.lo q g).2
theorem ord_step {x : W} {t : T} {b3 p l : Nat} {id : Int} {sl : Sl} {U : HS} {y4 : Option HA} {H : Hd} {n i : Nat} (h : RsI x t U) (hR : t.R.length ≤ 50) (g : G1 b3 p id t.R i sl U) (hi : i < t.R.length) (hlp : U.heap l = .loop .ready none)
  (hl : p + 3 ≤ l ∧ l < U.next) (hOA : ∀ y,OA x t y → y < p) (hsl : ∀ q,sl.a = some q → q.1 ≠ l) (hnm : ∀ e ∈ t.R,e.name.length ≤ 1000) :
  ∃ V sl',rollcalllaw20_RoomsOrder.J3 (disp 2000 (n + 1)) H 2000 l (some (HA.cell0 b3)) y4 (some (HA.cell0 p)) (some (HA.cell0 (p + 1))) (some (HA.cell0 (p + 2))) (some (HA.cell0 t.R[i].p)) U = V.endr l none ∧
   G1 b3 p id t.R (i + 1) sl' V ∧ (U.next ≤ V.next) ∧ (∀ y,y < U.next → y ≠ l → ¬ ((p ≤ y ∧ y < p + 3) ∨ ∃ q,sl.a = some q ∧ q.1 = y) → V.heap y = U.heap y) ∧ V.heap l = .loop .busy none ∧ (∀ q,sl'.a = some q → (∃ q0,sl.a = some q0 ∧ q0.1 = q.1) ∨ U.next ≤ q.1) := by
 have he : t.R[i] ∈ t.R := List.getElem_mem hi
 have hnx := g.nx
 have h3 := g.lt3
 rw [rollcalllaw20_RoomsOrder.J3,begin_at hlp,Option.bind_some,Option.bind_some]
 have kU : ∀ y,y ≠ l → (U.put l (.loop .busy none)).heap y = U.heap y := fun y hy => put_other _ hy
 have hb : (U.put l (.loop .busy none)).heap l = .loop .busy none := put_here _ _ _
 have hn1 : (U.put l (.loop .busy none)).next = U.next := rfl
 generalize U.put l (.loop .busy none) = U1 at kU hb hn1 ⊢
 have hU1 : RsI x t U1 := h.keep (fun y ho => kU y (by have := hOA y ho; omega)) (by omega)
 have g1 : G1 b3 p id t.R i sl U1 := g.keep (fun y ho => kU y (by
  rcases ho with rfl | g | ⟨q,hq,rfl⟩
  ·omega
  ·omega
  ·exact hsl q hq)) (by omega)
 have hri := hU1.rooms _ he
 have hms := h.ne _ he
 have hml : ¬ ((t.R[i].ms.length : Int) = 0) := fun e => hms (List.length_eq_zero_iff.1 (by omega))
 rw [ldI_cell g1.c11,Option.bind_some,if_neg (by omega),room_len hri,Option.bind_some]
 simp only
 rw [if_neg hml,Option.bind_some,ldI_cell g1.c11,Option.bind_some]
 -- behind the comparison
 have J4 : ∀ U2,Fr U1.next U1 U2 → ∃ V sl',rollcalllaw20_RoomsOrder.J4 (disp 2000 (n + 1)) H 2000 l (some (HA.cell0 b3)) y4 (some (HA.cell0 p)) (some (HA.cell0 (p + 1))) (some (HA.cell0 (p + 2))) (some (HA.cell0 t.R[i].p)) false U2 = V.endr l none ∧
   G1 b3 p id t.R (i + 1) sl' V ∧ (U.next ≤ V.next) ∧ (∀ y,y < U.next → y ≠ l → ¬ ((p ≤ y ∧ y < p + 3) ∨ ∃ q,sl.a = some q ∧ q.1 = y) → V.heap y = U.heap y) ∧ V.heap l = .loop .busy none ∧ (∀ q,sl'.a = some q → (∃ q0,sl.a = some q0 ∧ q0.1 = q.1) ∨ U.next ≤ q.1) := by
  intro U2 f2
  have hri2 := hri.fr f2
  have g2 : G1 b3 p id t.R i sl U2 := g1.keep (fun y ho => f2.eq y (g1.lt ho)) f2.le
  rw [rollcalllaw20_RoomsOrder.J4,if_neg (by simp),Option.bind_some,ldI_cell g2.c3,Option.bind_some]
  obtain ⟨v0,v1,v2,U3,e3,f3⟩ := member_spec (n := n) (H := H) hri2 id
  rw [e3,Option.bind_some,letv]
  have hs : (U3.new (.cells 3 [[.int .i64 0,.bool false,.bool false]] true)).sets (HA.cell0 U3.next) [.int .i64 v0,.bool v1,.bool v2] = some ((U3.new (.cells 3 [[.int .i64 0,.bool false,.bool false]] true)).put U3.next (.cells 3 [[.int .i64 v0,.bool v1,.bool v2]] true)) := (sets_row (new_here U3 _) rfl (by simp)).trans rfl
  simp only
  rw [hs,Option.bind_some]
  have f4 : Fr U3.next U3 ((U3.new (.cells 3 [[.int .i64 0,.bool false,.bool false]] true)).put U3.next (.cells 3 [[.int .i64 v0,.bool v1,.bool v2]] true)) := (Fr.new (Nat.le_refl _) _).trans (Fr.put (Nat.le_refl _) _)
  generalize (U3.new (.cells 3 [[.int .i64 0,.bool false,.bool false]] true)).put U3.next (.cells 3 [[.int .i64 v0,.bool v1,.bool v2]] true) = U4 at f4 ⊢
  have l2 := f2.le
  have l3 := f3.le
  have l4 := f4.le
  have f14 : Fr U1.next U1 U4 := f2.trans ((f3.mono l2).trans (f4.mono (by omega)))
  have g4 : G1 b3 p id t.R i sl U4 := g1.keep (fun y ho => f14.eq y (g1.lt ho)) f14.le
  have hri4 := hri.fr f14
  -- behind the append
  have J5 : ∀ U5 sl',RI t.R[i] U5 → U5.heap (p + 1) = .cells 1 [[.str (lastN t.R i)]] true → U5.heap (p + 2) = .cells 1 [[.int .i64 i]] true → U5.heap p = .cells 1 [[sl'.hv]] true → U5.heap b3 = .cells 1 [[.int .i64 id]] true → Vec (p + 3) U5 1 sl' (((mineL id (t.R.take (i + 1))).map (·.name)).map KS.row1) → U4.next ≤ U5.next →
    ∃ V,rollcalllaw20_RoomsOrder.J5 (disp 2000 (n + 1)) H 2000 l (some (HA.cell0 (p + 1))) (some (HA.cell0 (p + 2))) (some (HA.cell0 t.R[i].p)) U5 = V.endr l none ∧ G1 b3 p id t.R (i + 1) sl' V ∧ V.next = U5.next ∧ ∀ y,y ≠ p + 1 → y ≠ p + 2 → V.heap y = U5.heap y := by
   intro U5 sl' r1 r2 r3 r4 r5 r6 r7
   rw [rollcalllaw20_RoomsOrder.J5,room_name r1,Option.bind_some,Option.bind_some]
   simp only
   rw [sets_cell _ r2,Option.bind_some,Option.bind_some,ldI_cell ((put_other _ (by omega)).trans r3),Option.bind_some,Option.bind_some,sets_cell _ ((put_other _ (by omega)).trans r3),Option.bind_some,w64_id (by omega) (by omega)]
   refine ⟨_,rfl,⟨?_,?_,?_,?_,?_,by simp only [put_next]; omega,h3⟩,rfl,fun y h1 h2 => by rw [put_other _ h2,put_other _ h1]⟩
   ·rw [put_other _ (by omega),put_other _ (by omega)]; exact r5
   ·rw [put_other _ (by omega),put_other _ (by omega)]; exact r4
   ·rw [put_other _ (by omega),lastN_succ hi]; exact put_here _ _ _
   ·rw [put_here]; simp
   ·exact (r6.put_ne (fun q hq e => by have := (r6.lo q hq).1; omega)).put_ne (fun q hq e => by have := (r6.lo q hq).1; omega)
  have hsq : ∀ q,sl.a = some q → p + 3 ≤ q.1 ∧ q.1 < U.next := fun q hq => ⟨(g.vec.lo q hq).1,(g.vec.lo q hq).2⟩
  have hU4 : ∀ y,y < U.next → y ≠ l → U4.heap y = U.heap y := fun y h1 h2 => (f14.eq y (by omega)).trans (kU y h2)
  by_cases hin : id ∈ t.R[i].ids
  ·rw [decide_eq_true hin,if_pos rfl,Option.bind_some,ldSl_cell g4.c9,Option.bind_some,room_name hri4,Option.bind_some]
   simp only
   rw [ldSl_cell g4.c9,Option.bind_some,if_pos rfl,letv]
   have fl : Fr U4.next U4 (U4.lit [[.str t.R[i].name]] 1).2 := lit_fr _ (Nat.le_refl _)
   have hlm : (mineL id (t.R.take i)).length ≤ 50 := by have := List.length_filter_le (fun e : Rm => decide (id ∈ e.ids)) (t.R.take i); simp [mineL] at this ⊢; omega
   obtain ⟨sl',T,e5,lr,v5,f5,k5,q5⟩ := KS.app1_spec (n := p + 3) (xs := (mineL id (t.R.take i)).map (·.name)) t.R[i].name g4.vec g4.nx (by simp; omega)
   have l5 := f5.le
   rw [ldSl_cell ((fl.eq _ (by have := g4.nx; omega)).trans g4.c9),Option.bind_some,if_pos rfl,lr,Option.bind_some,e5,Option.bind_some,Option.bind_some]
   simp only
   have hk5 : ∀ y,y < U4.next → (∀ q,sl.a = some q → q.1 ≠ y) → T.heap y = U4.heap y := k5
   have n4 := g4.nx
   have hp5 : T.heap p = .cells 1 [[sl.hv]] true := (hk5 p (by omega) (fun q hq e => by have := hsq q hq; omega)).trans g4.c9
   rw [sets_cell _ hp5,Option.bind_some]
   have hTl : U4.next ≤ T.next := by
    rcases Nat.lt_or_ge T.next U4.next with g | g
    ·have := f5.le; omega
    ·exact g
   have hmi : mineL id (t.R.take (i + 1)) = mineL id (t.R.take i) ++ [t.R[i]] := by
    unfold mineL
    rw [List.take_succ_eq_append_getElem hi,List.filter_append]
    simp [hin]
   have hown : ∀ y,OwnR t.R[i] y → y < p := fun y g => hOA y (.inr ⟨_,he,g⟩)
   obtain ⟨V,e6,g6,n6,k6⟩ := J5 (T.put p (.cells 1 [[sl'.hv]] true)) sl' (hri4.keep (fun y g => by
     have := hown y g
     rw [put_other _ (by omega)]
     exact hk5 y (by omega) (fun q hq e => by have := hsq q hq; omega)) (by rw [put_next]; omega))
    (by rw [put_other _ (by omega)]; exact (hk5 _ (by omega) (fun q hq e => by have := hsq q hq; omega)).trans g4.c10)
    (by rw [put_other _ (by omega)]; exact (hk5 _ (by omega) (fun q hq e => by have := hsq q hq; omega)).trans g4.c11)
    (put_here _ _ _)
    (by rw [put_other _ (by omega)]; exact (hk5 _ (by omega) (fun q hq e => by have := hsq q hq; omega)).trans g4.c3)
    (by rw [hmi,List.map_append]; exact v5.put_ne (fun q hq e => by have := (v5.lo q hq).1; omega)) (by rw [put_next]; omega)
   refine ⟨V,sl',e6,g6,by rw [n6,put_next]; omega,fun y h1 h2 hno => ?_,?_,fun q hq => (q5 q hq).elim (fun g => .inr (by omega)) (fun g => .inl g)⟩
   ·rw [k6 y (fun e => hno (.inl (by omega))) (fun e => hno (.inl (by omega))),put_other _ (fun e => hno (.inl (by omega))),hk5 y (by omega) (fun q hq e => hno (.inr ⟨q,hq,e⟩))]
    exact hU4 y h1 h2
   ·rw [k6 l (by omega) (by omega),put_other _ (by omega),hk5 l (by omega) hsl,f14.eq l (by omega)]
    exact hb
  ·rw [decide_eq_false hin,if_neg (by simp)]
   have hmi : mineL id (t.R.take (i + 1)) = mineL id (t.R.take i) := by
    unfold mineL
    rw [List.take_succ_eq_append_getElem hi,List.filter_append]
    simp [hin]
   obtain ⟨V,e6,g6,n6,k6⟩ := J5 U4 sl hri4 g4.c10 g4.c11 g4.c9 g4.c3 (by rw [hmi]; exact g4.vec) (Nat.le_refl _)
   refine ⟨V,sl,e6,g6,by rw [n6]; omega,fun y h1 h2 hno => ?_,?_,fun q hq => .inl ⟨q,hq,rfl⟩⟩
   ·rw [k6 y (fun e => hno (.inl (by omega))) (fun e => hno (.inl (by omega)))]
    exact hU4 y h1 h2
   ·rw [k6 l (by omega) (by omega),f14.eq l (by omega)]
    exact hb
 by_cases h0 : (i : Int) > 0
 ·rw [if_pos h0,Option.bind_some,ldS_cell g1.c10,Option.bind_some,room_name hri,Option.bind_some]
  simp only
  rw [ldS_cell g1.c10,Option.bind_some,if_pos rfl]
  have hlast := lastN_pos hi (by omega)
  have hl1 : (lastN t.R i).length ≤ 1000 := by rw [hlast]; exact hnm _ (List.getElem_mem _)
  obtain ⟨U2,e2,f2⟩ := refCompare_spec (k := 2000) (m := U1.next) (x := lastN t.R i) (y := t.R[i].name) (S := U1) hl1 (hnm _ he) (Nat.le_refl _) (Nat.le_refl _)
  have hlt : cmpL (lastN t.R i) t.R[i].name < 0 := by
   rw [hlast]
   have hs : (t.R.map ent).Pairwise fun a b => cmpL a.1 b.1 < 0 := h.book.srt
   rw [List.pairwise_map] at hs
   exact List.pairwise_iff_getElem.1 hs (i - 1) i (by omega) hi (by omega)
  rw [e2,Option.bind_some,decide_eq_false (by omega)]
  exact J4 U2 f2
 ·rw [if_neg h0]
  exact J4 U1 (Fr.refl _ _)
end Go.Proofs.YtbmfomkfmpppiaaGreat.X
namespace Go.Proofs.YtbmfomkfmpppiaaGreat.X
open Go.Proofs.YtbmfomkfmpppiaaGreat.HL
set_option linter.unusedVariables false
structure G2 (p p2 : Nat) (names : List (List UInt8)) (i : Nat) (sl : Sl) (U : HS) : Prop where
 c9 : U.heap p = .cells 1 [[sl.hv]] true
 c15 : U.heap p2 = .cells 1 [[.int .i64 i]] true
 rd : U.rows sl 1 = some (names.map KS.row1)
 lt : p < U.next ∧ p2 < U.next
 lq : ∀ q,sl.a = some q → q.1 < U.next ∧ q.1 ≠ p2
 ne : p ≠ p2
def O2 (p p2 : Nat) (sl : Sl) (y : Nat) : Prop := y = p ∨ y = p2 ∨ ∃ q,sl.a = some q ∧ q.1 = y
theorem G2.keep {p p2 : Nat} {names : List (List UInt8)} {i : Nat} {sl : Sl} {U U' : HS} (h : G2 p p2 names i sl U) (hk : ∀ y,O2 p p2 sl y → U'.heap y = U.heap y) (hn : U.next ≤ U'.next) : G2 p p2 names i sl U' :=
 ⟨(hk _ (.inl rfl)).trans h.c9,(hk _ (.inr (.inl rfl))).trans h.c15,rows_keep h.rd fun q hq => hk _ (.inr (.inr ⟨q,hq,rfl⟩)),⟨by have := h.lt; omega,by have := h.lt; omega⟩,fun q hq => ⟨by have := h.lq q hq; omega,(h.lq q hq).2⟩,h.ne⟩
theorem own_step {x : W} {t : T} {p p2 l : Nat} {names : List (List UInt8)} {sl : Sl} {U : HS} {y4 : Option HA} {H : Hd} {n i : Nat} {e : Rm} (h : RsI x t U) (he : e ∈ t.R) (g : G2 p p2 names i sl U) (hi : i < names.length) (hn : names[i] = e.name) (hc : names.length ≤ 1000) (hlp : U.heap l = .loop .ready none)
  (hl : l < U.next) (hOA : ∀ y,OA x t y → y ≠ l ∧ y ≠ p2) (hsl : ∀ q,sl.a = some q → q.1 ≠ l) (hp : p ≠ l ∧ p2 ≠ l) :
  ∃ V,rollcalllaw20_RoomsOrder.J6 (disp 2000 (n + 1)) H 2000 l y4 (some (HA.cell0 p)) (some (HA.cell0 p2)) (some (HA.cell0 e.p)) U = V.endr l none ∧ G2 p p2 names (i + 1) sl V ∧ V.next = U.next ∧ (∀ y,y ≠ l → y ≠ p2 → V.heap y = U.heap y) ∧ V.heap l = .loop .busy none := by
 rw [rollcalllaw20_RoomsOrder.J6,begin_at hlp,Option.bind_some,Option.bind_some]
 have kU : ∀ y,y ≠ l → (U.put l (.loop .busy none)).heap y = U.heap y := fun y hy => put_other _ hy
 have hb : (U.put l (.loop .busy none)).heap l = .loop .busy none := put_here _ _ _
 have hn1 : (U.put l (.loop .busy none)).next = U.next := rfl
 generalize U.put l (.loop .busy none) = U1 at kU hb hn1 ⊢
 have hU1 : RsI x t U1 := h.keep (fun y ho => kU y (hOA y ho).1) (by omega)
 have g1 : G2 p p2 names i sl U1 := g.keep (fun y ho => kU y (by
  rcases ho with rfl | rfl | ⟨q,hq,rfl⟩
  ·exact hp.1
  ·exact hp.2
  ·exact hsl q hq)) (by omega)
 have hlen : (sl.len : Int) = names.length := by rw [← rows_len g1.rd]; simp
 obtain ⟨ad,a1,a2⟩ := KS.ldK_at g1.rd hi
 rw [ldI_cell g1.c15,Option.bind_some,Option.bind_some,ldSl_cell g1.c9,Option.bind_some,hlen,if_neg (by omega),room_name (hU1.rooms _ he),Option.bind_some,Option.bind_some]
 simp only
 rw [ldSl_cell g1.c9,Option.bind_some,Option.bind_some,if_pos rfl,Option.bind_some,ldI_cell g1.c15,Option.bind_some,Option.bind_some,if_pos rfl,a1,Option.bind_some,Option.bind_some,if_pos rfl,a2,Option.bind_some,Option.bind_some,if_pos rfl,rollcalllaw20_RoomsOrder.J7,if_neg (by simp [hn]),Option.bind_some,ldI_cell g1.c15,Option.bind_some,Option.bind_some,sets_cell _ g1.c15,Option.bind_some,w64_id (by omega) (by omega)]
 refine ⟨_,rfl,⟨by rw [put_other _ g1.ne]; exact g1.c9,by rw [put_here]; simp,rows_keep g1.rd fun q hq => put_other _ (g1.lq q hq).2,g1.lt,g1.lq,g1.ne⟩,by rw [put_next,hn1],fun y h1 h2 => by rw [put_other _ h2,kU y h1],by rw [put_other _ (Ne.symm hp.2)]; exact hb⟩
theorem put_back {U : HS} {l : Nat} {o o' : HObj} (h : U.heap l = o') : (U.put l o).put l o' = U := by
 unfold HS.put
 simp only
 congr 1
 funext y
 by_cases hy : y = l
 ·subst hy; simp [h]
 ·simp [hy]
end Go.Proofs.YtbmfomkfmpppiaaGreat.X
namespace Go.Proofs.YtbmfomkfmpppiaaGreat.X
open Go.Proofs.YtbmfomkfmpppiaaGreat.HL
set_option linter.unusedVariables false
theorem order_end {x : W} {t : T} {b3 b4 : Nat} {id : Int} {S : HS} {fn1 fn2 : Fn} {u1 v1 u2 v2 : List HV} {K1 K2 : Nat → Prop} (h : RsI x t S) (hR : t.R.length ≤ 50) (hnm : ∀ e ∈ t.R,e.name.length ≤ 1000) (c3 : S.heap b3 = .cells 1 [[.int .i64 id]] true) (c4 : S.heap b4 = .cells 1 [[.bool false]] true) (h4 : b3 < S.next ∧ b4 < S.next ∧ b3 ≠ b4) (hO : ∀ y,OA x t y → y ≠ b3 ∧ y ≠ b4)
  (hT1 : Tells (disp 2000 8) (.fn fn1 u1 v1) (t.R.map fun e => [HV.ptr (some (HA.cell0 e.p))]) K1 S) (hK1 : ∀ y,K1 y → y < S.next ∧ ¬ OA x t y ∧ y ≠ b3 ∧ y ≠ b4)
  (hT2 : Tells (disp 2000 8) (.fn fn2 u2 v2) ((mineL id t.R).map fun e => [HV.ptr (some (HA.cell0 e.p))]) K2 S) (hK2 : ∀ y,K2 y → y < S.next ∧ ¬ OA x t y ∧ y ≠ b3 ∧ y ≠ b4) :
  ∃ S',rollcalllaw20_RoomsOrder.J2 (disp 2000 8) (fun _ => none) 2000 (some (HA.cell0 b3)) (some (HA.cell0 b4)) (some (HA.cell0 x.w)) (.fn fn1 u1 v1) (.fn fn2 u2 v2) false [] S = some (true,S') := by
 rw [rollcalllaw20_RoomsOrder.J2,if_neg (by simp),letv,letv]
 have e1 : ((S.new (.cells 1 [[Sl.nil.hv]] true)).new (.cells 1 [[.str []]] true)).sets (HA.cell0 (S.new (.cells 1 [[Sl.nil.hv]] true)).next) [.str []] = some (((S.new (.cells 1 [[Sl.nil.hv]] true)).new (.cells 1 [[.str []]] true)).put (S.new (.cells 1 [[Sl.nil.hv]] true)).next (.cells 1 [[.str []]] true)) := sets_cell _ (new_here _ _)
 rw [e1,Option.bind_some,letv]
 have fA : Fr S.next S (S.new (.cells 1 [[Sl.nil.hv]] true)) := Fr.new (Nat.le_refl _) _
 have cA : (S.new (.cells 1 [[Sl.nil.hv]] true)).heap S.next = .cells 1 [[Sl.nil.hv]] true := new_here _ _
 have nA : (S.new (.cells 1 [[Sl.nil.hv]] true)).next = S.next + 1 := rfl
 generalize S.new (.cells 1 [[Sl.nil.hv]] true) = A at fA cA nA ⊢
 have fB : Fr A.next A ((A.new (.cells 1 [[.str []]] true)).put A.next (.cells 1 [[.str []]] true)) := (Fr.new (Nat.le_refl _) _).trans (Fr.put (Nat.le_refl _) _)
 have cB : ((A.new (.cells 1 [[.str []]] true)).put A.next (.cells 1 [[.str []]] true)).heap A.next = .cells 1 [[.str []]] true := put_here _ _ _
 have nB : ((A.new (.cells 1 [[.str []]] true)).put A.next (.cells 1 [[.str []]] true)).next = A.next + 1 := rfl
 generalize (A.new (.cells 1 [[.str []]] true)).put A.next (.cells 1 [[.str []]] true) = B at fB cB nB ⊢
 rw [sets_cell _ (new_here _ _),Option.bind_some]
 have fC : Fr B.next B ((B.new (.cells 1 [[.int .i64 0]] true)).put B.next (.cells 1 [[.int .i64 0]] true)) := (Fr.new (Nat.le_refl _) _).trans (Fr.put (Nat.le_refl _) _)
 have cC : ((B.new (.cells 1 [[.int .i64 0]] true)).put B.next (.cells 1 [[.int .i64 0]] true)).heap B.next = .cells 1 [[.int .i64 0]] true := put_here _ _ _
 have nC : ((B.new (.cells 1 [[.int .i64 0]] true)).put B.next (.cells 1 [[.int .i64 0]] true)).next = B.next + 1 := rfl
 generalize (B.new (.cells 1 [[.int .i64 0]] true)).put B.next (.cells 1 [[.int .i64 0]] true) = C at fC cC nC ⊢
 have hp1 : A.next = S.next + 1 := nA
 have hp2 : B.next = S.next + 2 := by omega
 rw [hp1,hp2]
 have fr : Fr S.next S C := fA.trans ((fB.mono (by omega)).trans (fC.mono (by omega)))
 have hC := h.fr fr
 have hOS : ∀ y,OA x t y → y < S.next := fun y ho => h.ltO ho
 have g0 : G1 b3 S.next id t.R 0 Sl.nil C := ⟨(fr.eq _ h4.1).trans c3,(fC.eq _ (by omega)).trans ((fB.eq _ (by omega)).trans cA),(fC.eq _ (by omega)).trans (by rw [← hp1]; exact cB),by rw [← hp2]; exact cC,.nil,by omega,h4.1⟩
 have hT1' := hT1.move (B' := C) (fun y g => fr.eq y (hK1 y g).1)
 have hlen1 : (t.R.map fun e => [HV.ptr (some (HA.cell0 e.p))]).length = t.R.length := by simp
 obtain ⟨T2,st,D,O',e2,e3,de,n5,ch,lt,hnn,hq'⟩ := range_tells (D := disp 2000 8) (H := fun _ => none) (fv := .fn fn1 u1 v1) (S := C) (hd := fun vs T =>
   Option.bind (HS.lp T (C.next + 1)) fun u92 => Option.bind (args1 vs) fun ar90 => Option.bind (dP ar90) fun p91 => rollcalllaw20_RoomsOrder.J3 (disp 2000 8) (fun _ => none) 2000 (C.next + 1) (some (HA.cell0 b3)) (some (HA.cell0 b4)) (some (HA.cell0 S.next)) (some (HA.cell0 (S.next + 1))) (some (HA.cell0 (S.next + 2))) p91 T)
  (bd := fun i U => if hi : i < t.R.length then rollcalllaw20_RoomsOrder.J3 (disp 2000 8) (fun _ => none) 2000 (C.next + 1) (some (HA.cell0 b3)) (some (HA.cell0 b4)) (some (HA.cell0 S.next)) (some (HA.cell0 (S.next + 1))) (some (HA.cell0 (S.next + 2))) (some (HA.cell0 t.R[i].p)) (U.put (C.next + 1) (.loop .ready none)) else none)
  hT1' (fun y g => by have := (hK1 y g).1; omega) (fun i O U => ∃ sl,G1 b3 S.next id t.R i sl U ∧ (∀ y,OA x t y → U.heap y = C.heap y) ∧ ∀ y,O y ↔ (O1 b3 S.next sl y ∨ OA x t y)) (fun _ _ _ => False)
  (fun i O U U' ⟨sl,a1,a2,a3⟩ hk hn => ⟨sl,a1.keep (fun y ho => hk y ((a3 y).2 (.inl ho))) hn,fun y ho => (hk y ((a3 y).2 (.inr ho))).trans (a2 y ho),a3⟩) (fun _ _ _ _ h => h.elim)
  (fun y => O1 b3 S.next Sl.nil y ∨ OA x t y) (fun y ho => by
   rcases ho with ho | ho
   ·exact g0.lt ho
   ·have := hOS y ho; omega) ⟨Sl.nil,g0,fun _ _ => rfl,fun _ => Iff.rfl⟩ (fun y ho g => by
   have := hK1 y g
   rcases ho with (rfl | g' | ⟨q,hq,_⟩) | ho
   ·exact this.2.2.1 rfl
   ·omega
   ·cases hq
   ·exact this.2.1 ho)
  (fun i hi U hU => by
   have hi' : i < t.R.length := by simpa using hi
   rw [lp_at hU,Option.bind_some,List.getElem_map,show args1 [HV.ptr (some (HA.cell0 t.R[i].p))] = some (.ptr (some (HA.cell0 t.R[i].p))) from rfl,Option.bind_some,show dP (HV.ptr (some (HA.cell0 t.R[i].p))) = some (some (HA.cell0 t.R[i].p)) from rfl,Option.bind_some,dif_pos hi',put_back hU])
  (fun i hi Oi U ⟨sl,a1,a2,a3⟩ hnu hl hno hlt => by
   have hi' : i < t.R.length := by simpa using hi
   rw [dif_pos hi']
   have hsll : ∀ q,sl.a = some q → q.1 ≠ C.next + 1 := fun q hq e => hno ((a3 _).2 (.inl (.inr (.inr ⟨q,hq,e⟩))))
   have kP : ∀ y,y ≠ C.next + 1 → (U.put (C.next + 1) (.loop .ready none)).heap y = U.heap y := fun y hy => put_other _ hy
   have hP : RsI x t (U.put (C.next + 1) (.loop .ready none)) := hC.keep (fun y ho => (kP y (by have := hOS y ho; omega)).trans (a2 y ho)) (by rw [put_next]; omega)
   have aP := a1.keep (U' := U.put (C.next + 1) (.loop .ready none)) (fun y ho => kP y (fun e => hno ((a3 _).2 (.inl (e ▸ ho))))) (Nat.le_refl _)
   obtain ⟨V,sl',e4,gV,nV,kV,bV,qV⟩ := ord_step (n := 7) (y4 := some (HA.cell0 b4)) (H := fun _ => none) (l := C.next + 1) hP hR aP hi' (put_here _ _ _) ⟨by omega,by rw [put_next]; omega⟩ (fun y ho => hOS y ho) hsll hnm
   rw [put_next] at nV kV qV
   have hsq : ∀ q,sl.a = some q → S.next + 3 ≤ q.1 ∧ q.1 < U.next := fun q hq => ⟨(a1.vec.lo q hq).1,(a1.vec.lo q hq).2⟩
   refine ⟨V,fun y => O1 b3 S.next sl' y ∨ OA x t y,none,e4,⟨nV,fun y r1 r2 => ?_,fun y ho => ?_⟩,fun y ho => ?_,fun _ => ⟨sl',gV,fun y ho => ?_,fun _ => Iff.rfl⟩,fun c h => by cases h⟩
   ·by_cases hy : y = C.next + 1
    ·subst hy; rw [bV,hl]
    ·rw [kV y r1 hy (fun g => r2 ((a3 y).2 (.inl (.inr g)))),kP y hy]
   ·rcases ho with (rfl | g | ⟨q,hq,rfl⟩) | ho
    ·exact .inl ((a3 _).2 (.inl (.inl rfl)))
    ·exact .inl ((a3 _).2 (.inl (.inr (.inl g))))
    ·rcases qV q hq with ⟨q0,w1,w2⟩ | g
     ·exact .inl ((a3 _).2 (.inl (.inr (.inr ⟨q0,w1,w2⟩))))
     ·exact .inr g
    ·exact .inl ((a3 _).2 (.inr ho))
   ·rcases ho with ho | ho
    ·exact gV.lt ho
    ·have := hOS y ho; omega
   ·have hy := hOS y ho
    rw [kV y (by omega) (by omega) (fun g => by
     rcases g with g | ⟨q,hq,e⟩
     ·omega
     ·have := hsq q hq; omega),kP y (by omega)]
    exact a2 y ho)
 erw [e2]
 rw [Option.bind_some]
 simp only [e3,Option.bind_some]
 have hle := ch.le
 cases hst : st with
 | some cd => exact (hq' cd hst).elim
 | none =>
  obtain ⟨sl,a1,a2,a3⟩ := hnn hst
  rw [hlen1] at a1
  simp only [pcode,Option.bind_some,if_true]
  rw [letv,sets_cell _ (new_here _ _),Option.bind_some]
  have fE : Fr D.next D ((D.new (.cells 1 [[.int .i64 0]] true)).put D.next (.cells 1 [[.int .i64 0]] true)) := (Fr.new (Nat.le_refl _) _).trans (Fr.put (Nat.le_refl _) _)
  have cE : ((D.new (.cells 1 [[.int .i64 0]] true)).put D.next (.cells 1 [[.int .i64 0]] true)).heap D.next = .cells 1 [[.int .i64 0]] true := put_here _ _ _
  have nE : ((D.new (.cells 1 [[.int .i64 0]] true)).put D.next (.cells 1 [[.int .i64 0]] true)).next = D.next + 1 := rfl
  generalize (D.new (.cells 1 [[.int .i64 0]] true)).put D.next (.cells 1 [[.int .i64 0]] true) = E at fE cE nE ⊢
  have hsq : ∀ q,sl.a = some q → S.next + 3 ≤ q.1 ∧ q.1 < D.next := fun q hq => ⟨(a1.vec.lo q hq).1,(a1.vec.lo q hq).2⟩
  have hDk : ∀ y,y < S.next → y ≠ b3 → ¬ OA x t y → D.heap y = S.heap y := fun y r1 r2 r3 => (ch.eq y (by omega) (fun g => by
   rcases g with (g | g | ⟨q,hq,_⟩) | g
   ·exact r2 g
   ·omega
   ·cases hq
   ·exact r3 g)).trans (fr.eq y r1)
  have hD : RsI x t D := hC.keep a2 hle
  have hE := hD.fr fE
  have hT2' := hT2.move (B' := E) (fun y g => (fE.eq y (by have := (hK2 y g).1; omega)).trans (hDk y (hK2 y g).1 (hK2 y g).2.2.1 (hK2 y g).2.1))
  have hv := a1.vec
  rw [List.take_length] at hv
  have hlm : ((mineL id t.R).map (·.name)).length = (mineL id t.R).length := by simp
  have hlm2 : (mineL id t.R).length ≤ 50 := by have := List.length_filter_le (fun e : Rm => decide (id ∈ e.ids)) t.R; simp [mineL] at this ⊢; omega
  have hOp : ∀ y,O' y → y ≠ C.next ∧ y ≠ C.next + 1 ∧ y < D.next := lt
  have hsC : ∀ q,sl.a = some q → q.1 ≠ C.next := fun q hq => (hOp q.1 ((a3 _).2 (.inl (.inr (.inr ⟨q,hq,rfl⟩))))).1
  have g2 : G2 S.next D.next ((mineL id t.R).map (·.name)) 0 sl E := ⟨(fE.eq _ (by omega)).trans a1.c9,cE,rows_keep hv.rows fun q hq => fE.eq _ (hsq q hq).2,⟨by omega,by omega⟩,fun q hq => ⟨by have := (hsq q hq).2; omega,by have := (hsq q hq).2; omega⟩,by omega⟩
  have hlen2 : ((mineL id t.R).map fun e => [HV.ptr (some (HA.cell0 e.p))]).length = (mineL id t.R).length := by simp
  obtain ⟨T3,st2,F,O'',e5,e6,de2,n6,ch2,lt2,hnn2,hq2⟩ := range_tells (D := disp 2000 8) (H := fun _ => none) (fv := .fn fn2 u2 v2) (S := E) (hd := fun vs T =>
    Option.bind (HS.lp T (E.next + 1)) fun u129 => Option.bind (args1 vs) fun ar127 => Option.bind (dP ar127) fun p128 => rollcalllaw20_RoomsOrder.J6 (disp 2000 8) (fun _ => none) 2000 (E.next + 1) (some (HA.cell0 b4)) (some (HA.cell0 S.next)) (some (HA.cell0 D.next)) p128 T)
   (bd := fun i U => if hi : i < (mineL id t.R).length then rollcalllaw20_RoomsOrder.J6 (disp 2000 8) (fun _ => none) 2000 (E.next + 1) (some (HA.cell0 b4)) (some (HA.cell0 S.next)) (some (HA.cell0 D.next)) (some (HA.cell0 (mineL id t.R)[i].p)) (U.put (E.next + 1) (.loop .ready none)) else none)
   hT2' (fun y g => by have := (hK2 y g).1; omega) (fun i O U => G2 S.next D.next ((mineL id t.R).map (fun e : Rm => e.name)) i sl U ∧ (∀ y,OA x t y → U.heap y = E.heap y) ∧ ∀ y,O y ↔ (O2 S.next D.next sl y ∨ OA x t y)) (fun _ _ _ => False)
   (fun i O U U' ⟨b1,b2,b3⟩ hk hn => ⟨b1.keep (fun y ho => hk y ((b3 y).2 (.inl ho))) hn,fun y ho => (hk y ((b3 y).2 (.inr ho))).trans (b2 y ho),b3⟩) (fun _ _ _ _ h => h.elim)
   (fun y => O2 S.next D.next sl y ∨ OA x t y) (fun y ho => by
    rcases ho with (rfl | rfl | ⟨q,hq,rfl⟩) | ho
    ·omega
    ·omega
    ·exact (g2.lq q hq).1
    ·have := hOS y ho; omega) ⟨g2,fun _ _ => rfl,fun _ => Iff.rfl⟩ (fun y ho g => by
    have := hK2 y g
    rcases ho with (rfl | rfl | ⟨q,hq,rfl⟩) | ho
    ·omega
    ·omega
    ·have := hsq q hq; omega
    ·exact this.2.1 ho)
   (fun i hi U hU => by
    have hi' : i < (mineL id t.R).length := by simpa using hi
    rw [lp_at hU,Option.bind_some,List.getElem_map,show args1 [HV.ptr (some (HA.cell0 (mineL id t.R)[i].p))] = some (.ptr (some (HA.cell0 (mineL id t.R)[i].p))) from rfl,Option.bind_some,show dP (HV.ptr (some (HA.cell0 (mineL id t.R)[i].p))) = some (some (HA.cell0 (mineL id t.R)[i].p)) from rfl,Option.bind_some,dif_pos hi',put_back hU])
   (fun i hi Oi U ⟨b1,b2,b3'⟩ hnu hl hno hlt => by
    have hi' : i < (mineL id t.R).length := by simpa using hi
    rw [dif_pos hi']
    have kP : ∀ y,y ≠ E.next + 1 → (U.put (E.next + 1) (.loop .ready none)).heap y = U.heap y := fun y hy => put_other _ hy
    have hP : RsI x t (U.put (E.next + 1) (.loop .ready none)) := hE.keep (fun y ho => (kP y (by have := hOS y ho; omega)).trans (b2 y ho)) (by rw [put_next]; omega)
    have aP := b1.keep (U' := U.put (E.next + 1) (.loop .ready none)) (fun y ho => kP y (fun e => hno ((b3' _).2 (.inl (e ▸ ho))))) (Nat.le_refl _)
    obtain ⟨V,e7,gV,nV,kV,bV⟩ := own_step (n := 7) (y4 := some (HA.cell0 b4)) (H := fun _ => none) (l := E.next + 1) (e := (mineL id t.R)[i]) hP (List.mem_filter.1 (List.getElem_mem hi')).1 aP (by simpa using hi') (by simp) (by omega) (put_here _ _ _) (by rw [put_next]; omega) (fun y ho => by have := hOS y ho; omega) (fun q hq e => by have := hsq q hq; omega) ⟨by omega,by omega⟩
    rw [put_next] at nV
    have hkk : ∀ y,y ≠ E.next + 1 → y ≠ D.next → V.heap y = U.heap y := fun y r1 r2 => (kV y r1 r2).trans (kP y r1)
    refine ⟨V,fun y => O2 S.next D.next sl y ∨ OA x t y,none,e7,⟨by omega,fun y r1 r2 => ?_,fun y ho => .inl ((b3' y).2 ho)⟩,fun y ho => ?_,fun _ => ⟨gV,fun y ho => ?_,fun _ => Iff.rfl⟩,fun c h => by cases h⟩
    ·by_cases hy : y = E.next + 1
     ·subst hy; rw [bV,hl]
     ·exact hkk y hy (fun e => r2 ((b3' y).2 (.inl (.inr (.inl e)))))
    ·have := hlt y ((b3' y).2 ho); omega
    ·have hy := hOS y ho
     rw [hkk y (by omega) (by omega)]
     exact b2 y ho)
  erw [e5]
  rw [Option.bind_some]
  simp only [e6,Option.bind_some]
  have hle2 := ch2.le
  cases hst2 : st2 with
  | some cd => exact (hq2 cd hst2).elim
  | none =>
   obtain ⟨b1,b2,b3'⟩ := hnn2 hst2
   rw [hlen2] at b1
   have hlen : (sl.len : Int) = ((mineL id t.R).length : Int) := by rw [← rows_len b1.rd]; simp
   simp only [pcode,Option.bind_some,if_true]
   have hF : RsI x t F := hE.keep b2 hle2
   have hFk : ∀ y,y < E.next → y ≠ S.next → y ≠ D.next → (∀ q,sl.a = some q → q.1 ≠ y) → ¬ OA x t y → F.heap y = E.heap y := fun y r1 r2 r3 r4 r5 => ch2.eq y r1 (fun g => by
    rcases g with (g | g | ⟨q,hq,g⟩) | g
    ·exact r2 g
    ·exact r3 g
    ·exact r4 q hq g
    ·exact r5 g)
   have c11 : F.heap (S.next + 2) = .cells 1 [[.int .i64 t.R.length]] true := (hFk _ (by omega) (by omega) (by omega) (fun q hq e => by have := hsq q hq; omega) (fun g => by have := hOS _ g; omega)).trans ((fE.eq _ (by omega)).trans a1.c11)
   have cb4 : F.heap b4 = .cells 1 [[.bool false]] true := (hFk _ (by omega) (by omega) (by omega) (fun q hq e => by have := hsq q hq; omega) (fun g => (hO _ g).2 rfl)).trans ((fE.eq _ (by omega)).trans ((hDk b4 h4.2.1 (Ne.symm h4.2.2) (fun g => (hO _ g).2 rfl)).trans c4))
   have cd1 : F.heap C.next = .defer := (hFk _ (by omega) (by omega) (by omega) hsC (fun g => by have := hOS _ g; omega)).trans ((fE.eq _ (by omega)).trans de)
   rw [ldI_cell b1.c15,Option.bind_some,ldSl_cell b1.c9,Option.bind_some,hlen,if_pos rfl,ldI_cell c11,Option.bind_some,rooms_len hF,Option.bind_some]
   simp only
   rw [ldI_cell c11,Option.bind_some,if_pos rfl,sets_cell _ cb4,Option.bind_some]
   have h1 : ∀ o,(F.put b4 o).heap E.next = .defer := fun o => (put_other _ (by omega)).trans de2
   have h2 : ∀ o,((F.put b4 o).put E.next .dead).heap C.next = .defer := fun o => (put_other _ (by omega)).trans ((put_other _ (by omega)).trans cd1)
   simp only [HS.leave,h1,h2,Option.bind_some]
   rw [ldB_cell ((put_other _ (by omega)).trans ((put_other _ (by omega)).trans (put_here _ _ _))),Option.bind_some]
   exact ⟨_,by simp; rfl⟩
end Go.Proofs.YtbmfomkfmpppiaaGreat.X
namespace Go.Proofs.YtbmfomkfmpppiaaGreat.X
open Go.Proofs.YtbmfomkfmpppiaaGreat.HL
set_option linter.unusedVariables false
theorem order_loop {x : W} {b3 b4 g : Nat} {id : Int} {y0 : Sl} {ls : List Ac} {S : HS} (h40 : ls.length ≤ 40) (hll : ∀ a ∈ ls,a.2.2.length ≤ 60) (hr : S.rows y0 3 = some (ls.map actRow)) (hrq : ∀ q,y0.a = some q → q.1 < g) (c3 : S.heap b3 = .cells 1 [[.int .i64 id]] true) (c4 : S.heap b4 = .cells 1 [[.bool false]] true) (hb : b3 < g ∧ b4 < g ∧ b3 ≠ b4) (hmR : x.mR = 50) :
  ∀ (f i : Nat) (t : T) (U : HS),ls.length - i < f → i ≤ ls.length → RsI x t U → t.n ≤ i → (∀ y,OA x t y → g ≤ y) → (∀ y,y < g → U.heap y = S.heap y) → g ≤ U.next →
  ∃ S',rollcalllaw20_RoomsOrder.L0 (disp 2000 8) (fun _ => none) 2000 f y0 (some (HA.cell0 b3)) (some (HA.cell0 b4)) (some (HA.cell0 x.w)) (i : Int) [] U = some (true,S') := by
 intro f
 induction f with
 | zero => intro i t U h; omega
 | succ f ih =>
  intro i t U hf hi h hn hO hk hg
  have hrU : U.rows y0 3 = some (ls.map actRow) := rows_keep hr fun q hq => hk _ (hrq q hq)
  have hsl : (y0.len : Int) = ls.length := by rw [← rows_len hrU]; simp
  rw [rollcalllaw20_RoomsOrder.L0,hsl]
  by_cases hlt : i < ls.length
  ·obtain ⟨ad,a1,a2,a3,a4⟩ := act_rows hrU hlt
   have hi1 : w64 ((i : Int) + 1) = ((i + 1 : Nat) : Int) := by rw [w64_id (by omega) (by omega)]; simp
   have hnl := hll ls[i] (List.getElem_mem hlt)
   rw [if_pos (by omega),a1,Option.bind_some,a2,Option.bind_some]
   by_cases hkd : ls[i].1 = 1
   ·rw [if_pos hkd,Option.bind_some,a3,Option.bind_some,Option.bind_some,a4,Option.bind_some]
    obtain ⟨t',U',e1,h1,n1,ch,_⟩ := part_spec (n := 7) (H := fun _ => none) h ls[i].2.1 ls[i].2.2 (by omega)
    rw [e1,Option.bind_some,rollcalllaw20_RoomsOrder.J1,hi1]
    have hle := ch.le
    exact ih (i + 1) t' U' (by omega) (by omega) h1 (by omega) (fun y ho => (ch.own y ho).elim (hO y) (fun g => by omega)) (fun y hy => (ch.eq y (by omega) (fun ho => by have := hO y ho; omega)).trans (hk y hy)) (by omega)
   ·rw [if_neg hkd,Option.bind_some,a3,Option.bind_some,Option.bind_some,a4,Option.bind_some]
    obtain ⟨q,c,t',U',e1,h1,n1,ch,_⟩ := join_spec (n := 7) (H := fun _ => none) h (by omega) ls[i].2.1 ls[i].2.2 (by omega)
    rw [e1,Option.bind_some,rollcalllaw20_RoomsOrder.J1,hi1]
    have hle := ch.le
    exact ih (i + 1) t' U' (by omega) (by omega) h1 (by omega) (fun y ho => (ch.own y ho).elim (hO y) (fun g => by omega)) (fun y hy => (ch.eq y (by omega) (fun ho => by have := hO y ho; omega)).trans (hk y hy)) (by omega)
  ·rw [if_neg (by omega)]
   have c3U := (hk b3 hb.1).trans c3
   have c4U := (hk b4 hb.2.1).trans c4
   obtain ⟨c,U1,K1,e1,hT1,hK1,f1⟩ := rooms_all (n := 5) h
   have l1 := f1.le
   have h1 := h.fr f1
   rw [e1,Option.bind_some,Option.bind_some]
   simp only
   rw [ldI_cell ((f1.eq _ (by omega)).trans c3U),Option.bind_some,ldI_cell c3U,Option.bind_some,if_pos rfl]
   obtain ⟨xs,hs,hm,hxl,_⟩ := h1.rel.at1 id
   obtain ⟨co,so,U2,e2,k1,k2,k3,k4,f2⟩ := of_spec (nD := 6) (H := fun _ => none) h1 (by omega) id hs hm
   have l2 := f2.le
   have h2 := h1.fr f2
   rw [own_list h1 hs hm] at k2
   have hT2 := PK.of_tells (k := 2000) (n := 6) (xs := (mineL id t.R).map fun e => some (HA.cell0 e.p)) (by
    have := List.length_filter_le (fun e : Rm => decide (id ∈ e.ids)) t.R
    have := h.cR
    simp [mineL] at this ⊢; omega) (by
    have := List.length_filter_le (fun e : Rm => decide (id ∈ e.ids)) t.R
    have := h.cR
    simp [mineL] at this ⊢; omega) k1 k2 (fun y => y = co ∨ ∃ q,so.a = some q ∧ q.1 = y) ⟨.inl rfl,fun q hq => .inr ⟨q,hq,rfl⟩⟩
   rw [List.map_map] at hT2
   rw [e2,Option.bind_some]
   simp only [HV.isNilFn,Option.bind_some,Bool.false_eq_true,if_false]
   have hOlt : ∀ y,OA x t y → y < U.next := fun y ho => h.ltO ho
   refine order_end (fn1 := .func 61) (fn2 := .func 63) h2 (by have := h.cntR; omega) (fun e he => h.book.len (ent e) (List.mem_map.2 ⟨e,he,rfl⟩)) ((f2.eq _ (by omega)).trans ((f1.eq _ (by omega)).trans c3U)) ((f2.eq _ (by omega)).trans ((f1.eq _ (by omega)).trans c4U)) ⟨by omega,by omega,hb.2.2⟩ (fun y ho => by have := hO y ho; omega) (hT1.move fun y g => f2.eq y (hK1 y g).2) (fun y g => by
    have := hK1 y g
    exact ⟨by omega,fun ho => by have := hOlt y ho; omega,by omega,by omega⟩) hT2 (fun y g => by
    have hy : U1.next ≤ y ∧ y < U2.next := by
     rcases g with rfl | ⟨q,hq,rfl⟩
     ·exact k3
     ·exact k4 q hq
    exact ⟨by omega,fun ho => by have := hOlt y ho; omega,by omega,by omega⟩)
theorem roomsOrder_law {S : HS} {y0 : Sl} {ls : List Ac} {id : Int} (hr : Rd S.next S 3 y0 (ls.map actRow)) : ∃ S',rollcalllaw20_RoomsOrder.f (disp 2000 8) (fun _ => none) 2000 y0 id S = some (true,S') := by
 rw [rollcalllaw20_RoomsOrder.f,letv,letv]
 have f0 : Fr S.next S ((S.new (.cells 1 [[.int .i64 id]] true)).new (.cells 1 [[.bool false]] true)) := (Fr.new (Nat.le_refl _) _).trans (Fr.new (by rw [new_next]; omega) _)
 have c3 : ((S.new (.cells 1 [[.int .i64 id]] true)).new (.cells 1 [[.bool false]] true)).heap S.next = .cells 1 [[.int .i64 id]] true := by rw [new_old _ (by rw [new_next]; omega)]; exact new_here _ _
 have c4 : ((S.new (.cells 1 [[.int .i64 id]] true)).new (.cells 1 [[.bool false]] true)).heap (S.next + 1) = .cells 1 [[.bool false]] true := new_here (S.new _) _
 have n0 : ((S.new (.cells 1 [[.int .i64 id]] true)).new (.cells 1 [[.bool false]] true)).next = S.next + 2 := rfl
 rw [show (S.new (.cells 1 [[.int .i64 id]] true)).next = S.next + 1 from rfl]
 generalize (S.new (.cells 1 [[.int .i64 id]] true)).new (.cells 1 [[.bool false]] true) = S0 at f0 c3 c4 n0 ⊢
 have hr0 := hr.frame f0 (Nat.le_refl _)
 obtain ⟨S1,e1,f1⟩ : ∃ S1,aw.f S0 = some (true,S1) ∧ Fr S0.next S0 S1 := ⟨S0,rfl,Fr.refl _ _⟩
 have hr1 := hr0.frame f1 (by omega)
 obtain ⟨b,e2,hb⟩ := great_spec hr1.rows
 have l1 := f1.le
 have d3 := (f1.eq S.next (by omega)).trans c3
 have d4 := (f1.eq (S.next + 1) (by omega)).trans c4
 rw [e1,Option.bind_some,if_neg (by simp),e2,Option.bind_some]
 cases b with
 | true =>
  rw [if_pos rfl,sets_cell _ d4,Option.bind_some]
  simp only [HS.leave,Option.bind_some]
  rw [ldB_cell (put_here _ _ _),Option.bind_some]
  exact ⟨_,rfl⟩
 | false =>
  obtain ⟨h40,hll⟩ := hb rfl
  rw [if_neg (by simp)]
  obtain ⟨x,t,S2,e3,h,mR,mJ,n2,R0,L0,f2,o2⟩ := rooms_new (mR := 50) (mJ := 50) (mB := 3) (by decide) (by decide) (by decide) (by decide) S1
  have l2 := f2.le
  rw [e3,Option.bind_some]
  exact order_loop (g := S1.next) (S := S1) h40 hll hr1.rows (fun q hq => by have := hr.lt q hq; omega) d3 d4 ⟨by omega,by omega,by omega⟩ mR 2000 0 t S2 (by omega) (Nat.zero_le _) h (by omega) o2 (fun y hy => f2.eq y hy) l2
theorem roomsOrder_call (W : World) (β0 : Bt) (S : HS) (s0 : Sl) (rows0 : List (List HV)) (h0 : ArgSl S 3 s0 rows0) (f0 : ∀ row ∈ rows0,RowFits [.int .i64,.int .i64,.str] row) (id : Int) (w1 : (Lit.int .i64 id).wf = true) :
  HCall Tryz.prog W.heap.size W β0 4 [s0.hv,.int .i64 id] S (fun v _ => v = .bool true) := by
 obtain ⟨ls,rfl⟩ := rows_acts f0
 obtain ⟨_,h⟩ := roomsOrder_law (id := id) h0.rd
 exact (rollcalllaw20_RoomsOrder.snd (disp_snd 8) (fun _ _ h => by cases h) h).mono fun _ _ h => h.1
end Go.Proofs.YtbmfomkfmpppiaaGreat.X
