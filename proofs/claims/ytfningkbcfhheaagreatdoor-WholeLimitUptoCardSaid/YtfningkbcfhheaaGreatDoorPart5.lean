/- The layer HL, part 14: from a call's answer to what a law's row asks. The layer HL, part 18: slices among the arguments, laid as objects that nobody writes. The layer HL, part 19: reading slices, structs in cells. -/
import Derived.Test.YtfningkbcfhheaaGreatDoorPart3
import Derived.Carry
import Derived.WalkKit
import Derived.ProofKit
import Derived.OpenShut
import Derived.JoinedCond
import Derived.ChangeMaps5
set_option linter.unusedVariables false
set_option linter.unusedSimpArgs false
namespace Go.Proofs.YtfningkbcfhheaaGreatDoor.HL
open Go.RowKit Go.ChangeShapes Go.WideShapes Go.ChangeAt
theorem trodAll_keeps {H : Type} {enc : TypeId × Value → H} {P : Program} (hl : laidOutB P = true) {W W' : World} (hb : Below W.heap.size W W') : ∀ {ts : List TypeId} {vs : List Value} {ds : List (DataW H)} {ps : List MemPlace},
  DataW.TrodAll enc P W 0 (fun _ => true) true ts vs ds ps → ts.all (fun t => P.readableRec t && decide (t < P.types.size)) = true → ∀ sp : Nat → Bool,(∀ p ∈ ps,sp p.block = true) → (∀ p ∈ ps,p.block < W.heap.size) → DataW.TrodAll enc P W' 0 sp true ts vs ds ps := by
 intro ts
 induction ts with
 | nil => intro vs ds ps h _ sp _ _; obtain ⟨rfl,rfl,rfl⟩ := trodAll_nil h; exact trodAll_mk0
 | cons t ts ih =>
  intro vs ds ps h ha sp hs hlt
  obtain ⟨v,vs',d,ds',p,q,rfl,rfl,rfl,h1,h2⟩ := trodAll_cons h
  simp only [List.all_cons,Bool.and_eq_true,decide_eq_true_eq] at ha
  exact trodAll_cons_mk (WideElems.Trod_stays hl ha.1.1 ha.1.2 h1 (fun x hx => hb.same (hlt x (by simp [hx]))) (fun x hx => hs x (by simp [hx]))) (ih h2 ha.2 sp (fun x hx => hs x (by simp [hx])) (fun x hx => hlt x (by simp [hx])))
theorem post_true {H : Type} {enc : TypeId × Value → H} {P : Program} {f : Func} {s : ChangeSpec} {W W' : World} {args : Array Value} {ds gs : List (DataW H)} {before : List MemPlace} {b : TypeId} (hl : laidOutB P = true) (hts : f.params.toList.all (fun t => P.readableRec t && decide (t < P.types.size)) = true)
  (hv : s.vars = []) (hfn : s.fn H ds = { results := [.lit (.bool true)],args := ds }) (hW : DataW.Whole enc P f.params.toList s.vars false W args.toList ds gs before) (hb : Below W.heap.size W W') (hrt : f.resultTypes = #[b]) (hbool : P.underlying b = some .bool) :
  s.post enc P f false true false false W args (.bool true) W' := by
 have hWo := hW
 obtain ⟨p,q,hA,hV,hpq,hfz,hnd⟩ := hW
 rw [hv] at hV
 obtain ⟨rfl,rfl⟩ := trodVars_none hV
 have hsz : f.resultTypes.size = 1 := by rw [hrt]; rfl
 have hpl : p = before := by rw [hpq]; simp
 subst hpl
 have hlt : ∀ x ∈ p,x.block < W.heap.size := fun x hx => by simpa using hWo.lt x hx
 have hres : ∀ (b0 : Nat) (sp : Nat → Bool) (hd : Bool),DataW.TrodAll enc P W' b0 sp hd f.resultTypes.toList ((Value.bool true).resultList f.resultTypes.size) (s.fn H (ds ++ [])).results [] := by
  intro b0 sp hd
  rw [List.append_nil,hfn,hrt]
  exact trodAll_cons_mk (p := []) (p' := []) (shut_bool hbool _) trodAll_mk0
 have hargs : ∀ sp : Nat → Bool,(∀ x ∈ p,sp x.block = true) → DataW.TrodAll enc P W' 0 sp true f.params.toList args.toList (s.fn H (ds ++ [])).args p := by
  intro sp hs
  rw [List.append_nil,hfn]
  exact trodAll_keeps hl hb hA hts sp hs hlt
 have hvars : ∀ sp : Nat → Bool,(∀ x ∈ p,sp x.block = true) → DataW.TrodVars enc P W' sp s.vars (s.fn H (ds ++ [])).vars [] := by
  intro sp _
  rw [hv,List.append_nil,hfn]
  exact rfl
 have hold : ∀ x ∈ p,(fun b => decide (b < W.heap.size)) x.block = true := fun x hx => by simpa using hlt x hx
 refine ⟨ds,[],p,[],p,[],hWo,hres _ _ _,hargs _ hold,hvars _ hold,World.keptBut_mono (fun x hx => ⟨hx,?_⟩) (hb.frame (· ∈ p)),fun _ => ?_⟩
 ·exact Or.inr (by simpa using hx)
 ·refine ⟨ok_one hrt rfl (okWide_bool_mk hbool _),_,_,([] ++ p) ++ [],⟨[] ++ p,[],trodAll_append (hargs _ (fun _ _ => rfl)) (hres _ _ _),hvars _ (fun _ _ => rfl),rfl,?_,?_⟩,?_⟩
  ·intro b off hp
   have hp' : MemPlace.cell b off ∈ p := by simpa using hp
   rw [hb.frozen (hlt _ hp')]
   exact hfz b off hp'
  ·intro ha; cases ha
  ·intro x hx _
   simpa using hx
def S0 : HS := ⟨fun _ => .dead,0,fun _ => 0⟩
def B0 : Bt := fun _ => .none
theorem rel0 (W : World) : Rel W.heap.size W B0 S0 W :=
 ⟨Below.refl _ _,Nat.le_refl _,fun _ _ => ⟨rfl,rfl⟩,fun _ _ h => by simp [B0,Tgt.block] at h,fun _ => trivial,fun _ _ _ _ h => by simp [S0,HObj.own] at h⟩
theorem HCall.calls {P : Program} {W : World} {β0 : Bt} {f : FuncId} {args : List HV} {args' : Array Value} {S : HS} {R : HV → HS → Prop} (h : HCall P W.heap.size W β0 f args S R) (hrel : Rel W.heap.size W β0 S W) (ha : VRels β0 args args') (hR : ∀ v S',R v S' → v = .bool true) :
  Calls P f args' W (fun e W' => e = .returned (.bool true) ∧ Below W.heap.size W W') := by
 intro cs
 obtain ⟨β',v,S',v',w',fr,g1,g2,g3,g4,g5,g6,g7⟩ := h β0 W args' (Le.refl _) hrel ha cs
 have := hR _ _ g2
 subst this
 cases g3
 exact ⟨_,w',fr,⟨rfl,g4.below⟩,g5,g6,g7⟩
inductive SK where
 | int (k : IntKind)
 | str
 | bool
def SK.fits : SK → HV → Prop
 | .int k,v => ∃ n,v = .int k n ∧ k.min ≤ n ∧ n ≤ k.max
 | .str,v => ∃ s,v = .str s ∧ s.length ≤ maxLen
 | .bool,v => ∃ b,v = .bool b
def SK.of : SK → Value → Prop
 | .int k,v => ∃ n,v = .int k n ∧ k.min ≤ n ∧ n ≤ k.max
 | .str,v => ∃ s : ByteArray,v = .string s ∧ s.size ≤ maxLen
 | .bool,v => ∃ b,v = .bool b
theorem SK.get {k : SK} {v : Value} (h : k.of v) : ∃ u : HV,k.fits u ∧ u.flat = true ∧ ∀ β,VRel β u v := by
 cases k with
 | int k => obtain ⟨n,rfl,h1⟩ := h; exact ⟨.int k n,⟨n,rfl,h1⟩,rfl,fun β => .int k n⟩
 | str => obtain ⟨s,rfl,h1⟩ := h; exact ⟨.str s.data.toList,⟨_,rfl,by simpa using h1⟩,rfl,fun β => .str s.data.toList⟩
 | bool => obtain ⟨b,rfl⟩ := h; exact ⟨.bool b,⟨b,rfl⟩,rfl,fun β => .bool b⟩
def RowFits : List SK → List HV → Prop
 | [],[] => True
 | k :: ks,v :: vs => k.fits v ∧ RowFits ks vs
 | _,_ => False
theorem RowFits.len : ∀ {ks : List SK} {vs : List HV},RowFits ks vs → vs.length = ks.length
 | [],[],_ => rfl
 | k :: ks,v :: vs,h => by simp [RowFits.len h.2]
 | [],_ :: _,h => h.elim
 | _ :: _,[],h => h.elim
abbrev AObj := Option (Nat × List (List HV))
def objOf : AObj → HObj
 | some (z,rows) => .cells z rows false
 | none => .dead
inductive ArgOk (W : World) : AObj → Tgt → Prop
 | none : ArgOk W none .none
 | mem {z : Nat} {rows : List (List HV)} {b o : Nat} {arr : Array Value} {ty : TypeId} {fr : Nat × Nat} (h : W.heap[b]? = some (.cells arr ty fr)) (h1 : o + rows.length * z ≤ arr.size) (hz : 0 < z) (hr : ∀ β,RowsRel β rows arr o z) : ArgOk W (some (z,rows)) (.mem b o z rows.length arr.size)
inductive ArgSl (S : HS) (z : Nat) : Sl → List (List HV) → Prop
 | nil : ArgSl S z Sl.nil []
 | at_ {id : Nat} {rows : List (List HV)} (h : S.heap id = .cells z rows false) (hl : id < S.next) : ArgSl S z ⟨some (id,0),rows.length,none⟩ rows
theorem ArgSl.len {S : HS} {z : Nat} {s : Sl} {rows : List (List HV)} (h : ArgSl S z s rows) : s.len = rows.length := by cases h <;> rfl
theorem ArgSl.frame {S S' : HS} {z m : Nat} {s : Sl} {rows : List (List HV)} (h : ArgSl S z s rows) (hf : Fr m S S') (hm : S.next ≤ m) : ArgSl S' z s rows := by
 cases h with
 | nil => exact .nil
 | at_ h hl => exact .at_ (by rw [hf.eq _ (by omega)]; exact h) (Nat.lt_of_lt_of_le hl hf.le)
theorem ArgSl.rows {S : HS} {z : Nat} {s : Sl} {rows : List (List HV)} (h : ArgSl S z s rows) : S.rows s z = some rows := by
 cases h with
 | nil => simp [HS.rows,Sl.nil]
 | at_ h hl => simp [HS.rows,h]
end Go.Proofs.YtfningkbcfhheaaGreatDoor.HL
namespace Go.Proofs.YtfningkbcfhheaaGreatDoor.HL
structure Rd (m : Nat) (S : HS) (z : Nat) (s : Sl) (rows : List (List HV)) : Prop where
 rows : S.rows s z = some rows
 lt : ∀ p,s.a = some p → p.1 < m
theorem Rd.frame {m m' z : Nat} {S S' : HS} {s : Sl} {rows : List (List HV)} (h : Rd m S z s rows) (hf : Fr m' S S') (hm : m ≤ m') : Rd m S' z s rows := by
 refine ⟨?_,h.lt⟩
 have := h.rows
 unfold HS.rows at this ⊢
 cases ha : s.a with
 | none => rw [ha] at this; exact this
 | some p =>
  obtain ⟨id,off⟩ := p
  rw [ha] at this
  simp only at this ⊢
  rw [hf.eq id (Nat.lt_of_lt_of_le (h.lt _ ha) hm)]
  exact this
theorem Rd.mono {m m' z : Nat} {S : HS} {s : Sl} {rows : List (List HV)} (h : Rd m S z s rows) (hm : m ≤ m') : Rd m' S z s rows := ⟨h.rows,fun p hp => Nat.lt_of_lt_of_le (h.lt p hp) hm⟩
theorem Rd.len {m z : Nat} {S : HS} {s : Sl} {rows : List (List HV)} (h : Rd m S z s rows) : s.len = rows.length := (rows_len h.rows).symm
theorem rows_idx {S : HS} {z : Nat} {s : Sl} {rows : List (List HV)} (h : S.rows s z = some rows) {i : Nat} (hi : i < rows.length) : ∃ ad,S.idx s (i : Int) z = some ad ∧ ad.j = 0 ∧ S.row ad.id ad.i = some rows[i] := by
 have hl := (rows_len h).symm
 unfold HS.rows at h
 split at h
 ·split at h
  ·cases h; simp at hi
  ·cases h
 ·rename_i id off ha
  split at h
  ·rename_i z' rws own hh
   split at h
   ·rename_i hc
    cases h
    simp only [List.length_take,List.length_drop] at hi
    refine ⟨⟨id,off + i,0⟩,?_,rfl,?_⟩
    ·simp only [HS.idx,ha,hh]
     simp
     omega
    ·simp only [HS.row,hh,List.getElem_take,List.getElem_drop]
     rw [List.getElem?_eq_getElem]
   ·cases h
  ·cases h
theorem row_get {S : HS} {ad : HA} {r : List HV} {v : HV} {j : Nat} (h : S.row ad.id ad.i = some r) (hj : ad.j = 0) (hv : r[j]? = some v) : S.get (HA.fld ad j) = some v := by
 simp only [HS.get,h,Option.bind_some,hj,Nat.zero_add]
 exact hv
theorem row_ldI {S : HS} {ad : HA} {r : List HV} {k : IntKind} {n : Int} {j : Nat} (h : S.row ad.id ad.i = some r) (hj : ad.j = 0) (hv : r[j]? = some (.int k n)) : S.ldI k (HA.fld ad j) = some n := by
 rw [HS.ldI,row_get h hj hv]; simp [dI]
theorem row_ldP {S : HS} {ad : HA} {r : List HV} {p : Option HA} {j : Nat} (h : S.row ad.id ad.i = some r) (hj : ad.j = 0) (hv : r[j]? = some (.ptr p)) : S.ldP (HA.fld ad j) = some p := by
 rw [HS.ldP,row_get h hj hv]; rfl
theorem row_ldSl {S : HS} {ad : HA} {r : List HV} {s : Sl} {j : Nat} (h : S.row ad.id ad.i = some r) (hj : ad.j = 0) (hv : r[j]? = some s.hv) : S.ldSl (HA.fld ad j) = some s := by
 rw [HS.ldSl,row_get h hj hv]; rfl
theorem cell_row {S : HS} {id z : Nat} {r : List HV} {b : Bool} (h : S.heap id = .cells z [r] b) : S.row (HA.cell0 id).id (HA.cell0 id).i = some r := by simp [HS.row,h]
theorem sets_row {S : HS} {id z i j : Nat} {rows : List (List HV)} {r vs : List HV} (h : S.heap id = .cells z rows true) (hr : rows[i]? = some r) (hj : j + vs.length ≤ r.length) :
  S.sets ⟨id,i,j⟩ vs = some (S.put id (.cells z (rows.set i (r.take j ++ vs ++ r.drop (j + vs.length))) true)) := by
 simp only [HS.sets,h,hr,hj,if_true]
theorem Vec.mono {n m z : Nat} {T : HS} {s : Sl} {rows : List (List HV)} (h : Vec n T z s rows) (hm : m ≤ n) : Vec m T z s rows := by
 cases h with
 | nil => exact .nil
 | open_ g1 g2 g3 => exact .open_ g1 (Nat.le_trans hm g2) g3
 | capped g1 g2 g3 g4 g5 g6 => exact .capped g1 (Nat.le_trans hm g2) g3 g4 g5 g6
theorem Vec.lo {n z : Nat} {T : HS} {s : Sl} {rows : List (List HV)} (h : Vec n T z s rows) : ∀ q,s.a = some q → n ≤ q.1 ∧ q.1 < T.next := by
 intro q hq
 cases h with
 | nil => cases hq
 | open_ g1 g2 g3 => cases hq; exact ⟨g2,g3⟩
 | capped g1 g2 g3 g4 g5 g6 => cases hq; exact ⟨g2,g3⟩
end Go.Proofs.YtfningkbcfhheaaGreatDoor.HL
