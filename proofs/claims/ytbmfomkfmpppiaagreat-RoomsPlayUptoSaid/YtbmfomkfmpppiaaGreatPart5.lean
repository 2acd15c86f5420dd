/- The layer HL, part 27: what strings.Builder needs: typed appends, unsafe.String, pointers compared; and contracts of others. The layer HL, part 18: slices among the arguments, laid as objects that nobody writes. The layer HL, part 19: reading slices, structs in cells. -/
import Derived.Lib.UnsafeStr
import Derived.Lib.Builder
import Derived.Test.YtbmfomkfmpppiaaGreatPart4
namespace Go.Proofs.YtbmfomkfmpppiaaGreat.HL
set_option linter.unusedVariables false
open Go.RowKit (Below)
section
variable {P : Program} {base : Nat} {W0 : World} {a : HAct} {S S' : HS} {o : Oper} {β : Bt} {w : World}
def pEq (p q : Option HA) : Option Bool :=
 match p,q with
 | none,none => some true
 | none,some _ => some false
 | some _,none => some false
 | some x,some y => if x.id = y.id ∧ x.i = y.i ∧ x.j = y.j then some true else none
theorem Zaey {w : World} {t e : TypeId} {j : TypeInfo} (ht : P.underlying t = some (.pointer e)) (hj : P.info? e = some j) (ad : Addr) (d : Nat) : (Op.equalIn (d + 1) t (.pointer (some ad)) (.pointer (some ad))).run P w = .ok true w := by
 simp [Op.equalIn,run_underlying ht,sizeOf,typeInfo,hj,run_sameAddr_same]
theorem Zaiu {p q : Option HA} {b : Bool} {u v : Value} {w : World} {t e : TypeId} (h : pEq p q = some b) (hp : VRel β (.ptr p) u) (hq : VRel β (.ptr q) v) (ht : P.underlying t = some (.pointer e)) (hj : (P.info? e).isSome = true) :
  ∀ d,(Op.equalIn (d + 1) t u v).run P w = .ok b w := by
 intro d
 obtain ⟨j,hj⟩ := Option.isSome_iff_exists.1 hj
 cases hp with
 | ptrNil =>
  cases hq with
  | ptrNil => simp [pEq] at h; subst h; simp [Op.equalIn,run_underlying ht]
  | ptr hb => simp [pEq] at h; subst h; simp [Op.equalIn,run_underlying ht]
 | @ptr id b1 o1 z1 n1 t1 i1 j1 hb =>
  cases hq with
  | ptrNil => simp [pEq] at h; subst h; simp [Op.equalIn,run_underlying ht]
  | @ptr id2 b2 o2 z2 n2 t2 i2 j2 hb2 =>
   simp only [pEq] at h
   split at h
   ·rename_i hc
    obtain ⟨rfl,rfl,rfl⟩ := hc
    rw [hb] at hb2
    cases hb2
    cases h
    exact Zaey ht hj _ d
   ·cases h
theorem Zaiv {op : BinOp} {t ty e : TypeId} {x y : Operand} {p q : Option HA} {b r : Bool} (ho : o.op = .binOp op t x y ty) (ht : P.underlying t = some (.pointer e)) (hj : (P.info? e).isSome = true) (hx : Ev a x (.ptr p)) (hy : Ev a y (.ptr q)) (hv : pEq p q = some b)
  (hop : op = .eql ∧ r = b ∨ op = .neq ∧ r = !b) : OpOk P base W0 o a S (.bool r) S := by
 refine .pure (by rw [ho]; simp) fun β w a' _ h2 => ⟨.bool r,?_,.bool r⟩
 have hxr := hx.rel h2
 have hyr := hy.rel h2
 generalize hxv : a'.eval x = xv at hxr
 generalize hyv : a'.eval y = yv at hyr
 have h3 := Zaiu (w := w) hv hxr hyr ht hj 9999
 have e1 : ∃ u,xv = .pointer u := by cases hxr <;> exact ⟨_,rfl⟩
 have e2 : ∃ u,yv = .pointer u := by cases hyr <;> exact ⟨_,rfl⟩
 obtain ⟨u1,rfl⟩ := e1
 obtain ⟨u2,rfl⟩ := e2
 rcases hop with ⟨rfl,rfl⟩ | ⟨rfl,rfl⟩ <;> simp only [execOp,ho,hxv,hyv,eqGuard,binOp,Zz4] <;> simp [h3]
def HS.ptrObj (S : HS) (p : HA) : Bool :=
 match S.heap p.id with
 | .cells z rows own => own && decide (2 ≤ z)
 | _ => false
def HS.pEq (S : HS) (p q : Option HA) : Option Bool :=
 match Go.Proofs.YtbmfomkfmpppiaaGreat.HL.pEq p q with
 | some b => some b
 | none =>
  match p,q with
  | some x,some y => if x.id ≠ y.id ∧ S.ptrObj x = true ∧ S.ptrObj y = true then some false else none
  | _,_ => none
theorem Zabg {w : World} {a b : Addr} {ca cb : Array Value} {ta tb : TypeId} {fa fb : Nat × Nat} (hne : a.block ≠ b.block) (ha : w.heap[a.block]? = some (.cells ca ta fa)) (hb : w.heap[b.block]? = some (.cells cb tb fb)) (h1 : fa.2 ≤ fa.1) (h2 : fb.2 ≤ fb.1) :
  (sameAddr a b).run P w = .ok false w := by
 obtain ⟨la,ra⟩ := fa
 obtain ⟨lb,rb⟩ := fb
 have z1 : ∀ n,(decide (la ≤ n) && decide (n < ra)) = false := fun n => by
  by_cases g : la ≤ n
  ·simp at h1; simp [g]; omega
  ·simp [g]
 have z2 : ∀ n,(decide (lb ≤ n) && decide (n < rb)) = false := fun n => by
  by_cases g : lb ≤ n
  ·simp at h2; simp [g]; omega
  ·simp [g]
 simp [sameAddr,hne,World.frozen?,ha,hb,noView,viewAt,World.shape?,mayBeOne,stringish,z1,z2]
theorem Zahl {op : BinOp} {t ty e : TypeId} {x y : Operand} {p q : Option HA} {b r : Bool} (ho : o.op = .binOp op t x y ty) (ht : P.underlying t = some (.pointer e)) (hj : ((P.info? e).map fun j => decide (j.size ≠ 0)) = some true) (hx : Ev a x (.ptr p)) (hy : Ev a y (.ptr q)) (hv : S.pEq p q = some b)
  (hop : op = .eql ∧ r = b ∨ op = .neq ∧ r = !b) : OpOk P base W0 o a S (.bool r) S := by
 have hj1 : (P.info? e).isSome = true := by
  cases h : P.info? e with
  | none => rw [h] at hj; cases hj
  | some j => rfl
 cases hv0 : Go.Proofs.YtbmfomkfmpppiaaGreat.HL.pEq p q with
 | some b0 =>
  simp only [HS.pEq,hv0,Option.some.injEq] at hv
  subst hv
  exact Zaiv ho ht hj1 hx hy hv0 hop
 | none =>
  simp only [HS.pEq,hv0] at hv
  split at hv
  case h_2 => cases hv
  rename_i x1 y1
  split at hv
  case isFalse => cases hv
  rename_i hc
  cases hv
  obtain ⟨hne,hx1,hy1⟩ := hc
  refine .pure (by rw [ho]; simp) fun β w a' hrel h2 => ⟨.bool r,?_,.bool r⟩
  have hxr := hx.rel h2
  have hyr := hy.rel h2
  generalize hxv : a'.eval x = xv at hxr
  generalize hyv : a'.eval y = yv at hyr
  have own : ∀ {s : HA},S.ptrObj s = true → ∃ z rows,S.heap s.id = .cells z rows true ∧ 2 ≤ z := fun {s} hs => by
   unfold HS.ptrObj at hs
   split at hs
   ·rename_i z rows own hh
    simp at hs
    exact ⟨z,rows,by rw [hh,hs.1],hs.2⟩
   ·cases hs
  obtain ⟨zx,rx,hX,hzx⟩ := own hx1
  obtain ⟨zy,ry,hY,hzy⟩ := own hy1
  have oX := hrel.objs x1.id
  have oY := hrel.objs y1.id
  rw [hX] at oX
  rw [hY] at oY
  obtain ⟨b1,o1,t1,arr1,ty1,fr1,p1,p2,p3,p4,p5,p6,p7⟩ := oX
  obtain ⟨b2,o2,t2,arr2,ty2,fr2,q1,q2,q3,q4,q5,q6,q7⟩ := oY
  have hd : b1 ≠ b2 := fun e => by
   have := hrel.disj x1.id y1.id b1 hne (by rw [hX]; rfl) (by rw [hY]; rfl) (by rw [p1]; rfl)
   rw [q1,e] at this
   exact this rfl
  obtain ⟨j,hj2⟩ := Option.isSome_iff_exists.1 hj1
  rw [hj2] at hj
  have hsz : j.size ≠ 0 := by simpa using hj
  have h3 : ∀ d (u1 u2 : Addr),u1.block = b1 → u2.block = b2 → (Op.equalIn (d + 1) t (.pointer (some u1)) (.pointer (some u2))).run P w = .ok false w := fun d u1 u2 e1 e2 => by
   subst e1
   subst e2
   simp [Op.equalIn,run_underlying ht,sizeOf,typeInfo,hj2,hsz,Zabg (P := P) (w := w) (a := u1) (b := u2) hd p2 q2 ((p7 rfl).2.2.2.1 (.inr hzx)) ((q7 rfl).2.2.2.1 (.inr hzy))]
  cases hxr with
  | @ptr _ _ k1 k2 _ _ k3 k4 hb =>
   cases hyr with
   | @ptr _ _ n1 n2 _ _ n3 n4 hb2 =>
    rw [p1] at hb
    rw [q1] at hb2
    cases hb
    cases hb2
    have h4 := h3 9999 ⟨b1,o1 + k3 * zx + k4,none⟩ ⟨b2,o2 + n3 * zy + n4,none⟩ rfl rfl
    rcases hop with ⟨rfl,rfl⟩ | ⟨rfl,rfl⟩ <;> simp only [execOp,ho,hxv,hyv,eqGuard,binOp,Zz4] <;> simp [h4]
theorem Rel.top {w' : World} (h : Rel base W0 β S w) (hb : Below w.heap.size w w') : Rel base W0 β S w' := by
 refine ⟨h.below.trans ⟨hb.os,hb.tape,hb.output,hb.size,fun j hj => hb.block j (Yai hj h.size)⟩,Ya2 h.size hb.size,h.fresh,fun i c hc => Yai (h.lt i c hc) hb.size,fun i => ?_,h.disj⟩
 have h1 := h.objs i
 cases hS : S.heap i with
 | dead => trivial
 | cells z rows own =>
  rw [hS] at h1
  obtain ⟨b1,o1,tot,arr,t,fr,q1,q2,q3⟩ := h1
  exact ⟨b1,o1,tot,arr,t,fr,q1,(hb.block b1 (h.lt i b1 (by rw [q1]; rfl))).trans q2,q3⟩
 | map es =>
  rw [hS] at h1
  obtain ⟨b1,es',clk,q1,q2,q3,q4⟩ := h1
  exact ⟨b1,es',clk,q1,q2,(hb.block b1 (h.lt i b1 (by rw [q1]; rfl))).trans q3,q4⟩
 | loop st pend =>
  rw [hS] at h1
  obtain ⟨b1,L,q1,q2,q3⟩ := h1
  exact ⟨b1,L,q1,q2,(hb.block b1 (h.lt i b1 (by rw [q1]; rfl))).trans q3⟩
 | defer =>
  rw [hS] at h1
  obtain ⟨b1,q1,q2,q3⟩ := h1
  exact ⟨b1,q1,q2,(hb.block b1 (h.lt i b1 (by rw [q1]; rfl))).trans q3⟩
theorem HCall.of_calls {β0 : Bt} {f : FuncId} {args : List HV} {v : HV} (h : ∀ (β : Bt) (w : World) (args' : Array Value),Rel base W0 β S w → VRels β args args' → ∃ v',VRel β v v' ∧ Calls P f args' w fun e w' => e = .returned v' ∧ Below w.heap.size w w') :
  HCall P base W0 β0 f args S (fun u S1 => u = v ∧ S1 = S) := by
 intro β w args' hle hrel ha cs
 obtain ⟨v',hv,hc⟩ := h β w args' hrel ha
 obtain ⟨e,w',fr,⟨rfl,hb⟩,g2,g3,g4⟩ := hc cs
 exact ⟨β,v,S,v',w',fr,Le.refl _,⟨rfl,rfl⟩,hv,hrel.top hb,g2,g3,g4⟩
end
end Go.Proofs.YtbmfomkfmpppiaaGreat.HL
namespace Go.Proofs.YtbmfomkfmpppiaaGreat.HL
open Go.RowKit Go.ChangeShapes Go.WideShapes Go.ChangeAt
inductive SK where
 | int (k : IntKind)
 | str
 | bool
def SK.fits : SK → HV → Prop
 | .int k,v => ∃ n,v = .int k n ∧ k.min ≤ n ∧ n ≤ k.max
 | .str,v => ∃ s,v = .str s ∧ s.length ≤ maxLen
 | .bool,v => ∃ b,v = .bool b
def SK.of : SK → Value → Prop
 | .int k,v => ∃ n,v = .int k n ∧ k.min ≤ n ∧ n ≤ k.max
 | .str,v => ∃ s : ByteArray,v = .string s ∧ s.size ≤ maxLen
 | .bool,v => ∃ b,v = .bool b
theorem SK.get {k : SK} {v : Value} (h : k.of v) : ∃ u : HV,k.fits u ∧ u.flat = true ∧ ∀ β,VRel β u v := by
 cases k with
 | int k => obtain ⟨n,rfl,h1⟩ := h; exact ⟨.int k n,⟨n,rfl,h1⟩,rfl,fun β => .int k n⟩
 | str => obtain ⟨s,rfl,h1⟩ := h; exact ⟨.str s.data.toList,⟨_,rfl,by simpa using h1⟩,rfl,fun β => .str s.data.toList⟩
 | bool => obtain ⟨b,rfl⟩ := h; exact ⟨.bool b,⟨b,rfl⟩,rfl,fun β => .bool b⟩
def RowFits : List SK → List HV → Prop
 | [],[] => True
 | k :: ks,v :: vs => k.fits v ∧ RowFits ks vs
 | _,_ => False
theorem RowFits.len : ∀ {ks : List SK} {vs : List HV},RowFits ks vs → vs.length = ks.length
 | [],[],_ => rfl
 | k :: ks,v :: vs,h => by simp [RowFits.len h.2]
 | [],_ :: _,h => h.elim
 | _ :: _,[],h => h.elim
def Zabx (P : Program) (e : TypeId) (ks : List SK) : Prop :=
 ∀ (H : Type) (enc : TypeId × Value → H) (w : World) (base : Nat) (sp : Nat → Bool) (held : Bool) (n : Nat) (cs : List Value) (x : DataW H × List MemPlace),DataW.trod enc P w base sp held n e cs = some x → cs.length = ks.length ∧ ∀ (i : Nat) (k : SK),ks[i]? = some k → ∃ v,cs[i]? = some v ∧ k.of v
theorem Zahm {P : Program} {e : TypeId} {k : IntKind} (h : P.underlying e = some (.int k)) : Zabx P e [.int k] := by
 intro H enc w base sp held n cs x hx
 obtain ⟨m,rfl,_,hw⟩ := DataW.trod_int h hx
 refine ⟨rfl,fun i q hq => ?_⟩
 cases i with
 | zero => cases hq; exact ⟨_,rfl,m,rfl,by simpa [Lit.wf] using hw⟩
 | succ i => simp at hq
theorem Zahn {P : Program} {e : TypeId} (h : P.underlying e = some .string) : Zabx P e [.str] := by
 intro H enc w base sp held n cs x hx
 obtain ⟨s,rfl,_,hw⟩ := DataW.trod_string h hx
 refine ⟨rfl,fun i q hq => ?_⟩
 cases i with
 | zero => cases hq; exact ⟨_,rfl,s,rfl,hw⟩
 | succ i => simp at hq
theorem Zady {P : Program} {e : TypeId} {fs : Array Field} {ks : List SK} (h : P.underlying e = some (.struct fs)) (hz : P.cellsOf e = ks.length) (hn : fs.size = ks.length)
  (hf : ∀ (i : Nat) (f : Field) (k : SK),fs[i]? = some f → ks[i]? = some k → f.offset = i ∧ P.cellsOf f.type = 1 ∧ Zabx P f.type [k]) : Zabx P e ks := by
 intro H enc w base sp held n cs x hx
 obtain ⟨xs,m,_,_,hl,hxl,hxs⟩ := DataW.trod_struct h hx
 refine ⟨hl.trans hz,fun i k hk => ?_⟩
 have hik : i < ks.length := (List.getElem?_eq_some_iff.1 hk).1
 have hif : i < fs.size := by omega
 obtain ⟨q1,q2,q3⟩ := hf i _ k (Array.getElem?_eq_getElem hif) hk
 have h1 := hxs i _ (Array.getElem?_eq_getElem hif)
 rw [q1,q2] at h1
 have hxi : xs[i]? = some xs[i] := List.getElem?_eq_getElem (by omega)
 rw [hxi] at h1
 obtain ⟨g1,g2⟩ := q3 H enc w base sp held m _ _ h1
 obtain ⟨v,hv,hkv⟩ := g2 0 k rfl
 refine ⟨v,?_,hkv⟩
 rw [List.getElem?_take,if_pos (by omega),List.getElem?_drop] at hv
 simpa using hv
theorem rowOf {ks : List SK} : ∀ {cs : List Value},cs.length = ks.length → (∀ (i : Nat) (k : SK),ks[i]? = some k → ∃ v,cs[i]? = some v ∧ k.of v) → ∃ row,RowFits ks row ∧ ∀ (i : Nat) (v : HV),row[i]? = some v → v.flat = true ∧ ∃ v',cs[i]? = some v' ∧ ∀ β,VRel β v v' := by
 induction ks with
 | nil => intro cs _ _; exact ⟨[],trivial,fun i v h => by simp at h⟩
 | cons k ks ih =>
  intro cs hl h
  cases cs with
  | nil => simp at hl
  | cons c cs =>
   obtain ⟨row,h1,h2⟩ := ih (cs := cs) (by simpa using hl) (fun i q hq => by simpa using h (i + 1) q (by simpa using hq))
   obtain ⟨v,hv,hk⟩ := h 0 k rfl
   simp at hv
   subst hv
   obtain ⟨u,u1,u2,u3⟩ := SK.get (k := k) hk
   refine ⟨u :: row,⟨u1,h1⟩,fun i v hv => ?_⟩
   cases i with
   | zero => simp at hv; subst hv; exact ⟨u2,_,rfl,u3⟩
   | succ i => simpa using h2 i v (by simpa using hv)
theorem Zac4 {w : World} {a : Addr} {n : Nat} {cs : List Value} (h : (List.range n).mapM (fun i => w.cell? (a.add i)) = some cs) : cs.length = n ∧ ∀ i,i < n → w.cell? (a.add i) = cs[i]? :=
 ⟨by simpa using mapM_some_length h,fun i hi => mapM_some_get h i i (by simp [hi])⟩
theorem Zaiw {H : Type} {enc : TypeId × Value → H} {P : Program} {W : World} {r : Reach} {b0 base : Nat} {held : Bool} {t e : TypeId} {v : Value} {d : DataW H} {ps : List MemPlace} {ks : List SK} (ht : P.underlying t = some (.slice e)) (hz : P.cellsOf e = ks.length) (hz0 : 0 < ks.length) (hE : Zabx P e ks)
  (hval : Value.okWide P W r b0 t v) (hd : DataW.Trod enc P W base (fun _ => true) held t v d ps) :
  v = .slice none 0 0 ∨ ∃ b o arr ty fr rows ad len cap,v = .slice (some ad) len cap ∧ W.heap[b]? = some (.cells arr ty fr) ∧ (∀ β,RowsRel β rows arr o ks.length) ∧ rows.length = len ∧ (∀ row ∈ rows,RowFits ks row) ∧ o + len * ks.length ≤ arr.size ∧
   ((len = 0 ∧ cap = 0) ∨ (ad = ⟨b,o,none⟩ ∧ o + cap * ks.length ≤ arr.size ∧ len ≤ cap)) := by
 obtain ⟨fuel,hf⟩ := hd
 obtain ⟨a0,len0,cap0,hv⟩ := okWide_slice ht hval
 rcases DataW.trod_slice ht hf with ⟨hc,_⟩ | ⟨a,len,cap,elems,rest,n,_,hc,_,hbb,hle,hm,hlen,hel,hsp,_⟩
 ·left
  subst hv
  simpa [Value.cells] using hc
 ·right
  have hv2 : v = .slice (some a) len cap := by
   rw [hv] at hc ⊢
   simp only [Value.cells] at hc
   simpa using hc
  clear hc hf
  subst hv2
  have hhas : W.has P r b0 a e cap := by
   simp only [Value.okWide,ht,Cell.okWide,Cell.ok] at hval
   exact hval.2.2
  obtain ⟨_,hspot,row0,cells0,hshape,_⟩ := hhas
  obtain ⟨ab,ao,rfl⟩ : ∃ b o,a = ⟨b,o,none⟩ := ⟨a.block,a.off,by cases a; simp at hspot; subst hspot; rfl⟩
  simp only at hshape hbb hel
  obtain ⟨arr,ty,fr,hblock,hcs⟩ : ∃ arr ty fr,W.heap[ab]? = some (.cells arr ty fr) ∧ arr.size = cells0 := by
   unfold World.shape? at hshape
   split at hshape
   ·rename_i c el f hb; cases hshape; exact ⟨_,_,_,hb,rfl⟩
   ·cases hshape
  obtain ⟨hrl,hrest⟩ := hsp rfl
  have hcell : ∀ k,W.cell? ((⟨ab,ao,none⟩ : Addr).add k) = arr[ao + k]? := by
   intro k
   rw [Zzf]; simp [World.cell?,hblock]
  -- every row that may be read
  have hrow : ∀ i,i < cap → ∃ cs x,(List.range ks.length).mapM (fun j => W.cell? (((⟨ab,ao,none⟩ : Addr).add (i * ks.length)).add j)) = some cs ∧ DataW.trod enc P W base (fun _ => true) held n e cs = some x := by
   intro i hi
   have key : ∀ y : Option (DataW H × List MemPlace),(W.cells? base ((⟨ab,ao,none⟩ : Addr).add (i * P.cellsOf e)) (P.cellsOf e)).bind (DataW.trod enc P W base (fun _ => true) held n e) = y → y.isSome = true → ∃ cs x,(List.range ks.length).mapM (fun j => W.cell? (((⟨ab,ao,none⟩ : Addr).add (i * ks.length)).add j)) = some cs ∧ DataW.trod enc P W base (fun _ => true) held n e cs = some x := by
    intro y hy hs
    cases hcs2 : W.cells? base ((⟨ab,ao,none⟩ : Addr).add (i * P.cellsOf e)) (P.cellsOf e) with
    | none => rw [hcs2] at hy; simp at hy; rw [← hy] at hs; cases hs
    | some cs =>
     rw [hcs2,obs] at hy
     rw [← hy] at hs
     obtain ⟨x,hx⟩ := Option.isSome_iff_exists.1 hs
     refine ⟨cs,x,?_,hx⟩
     unfold World.cells? at hcs2
     rw [hz] at hcs2
     split at hcs2
     ·exact hcs2
     ·cases hcs2
   by_cases hil : i < len
   ·exact key _ (hel i hil) (by rw [List.getElem?_eq_getElem (by omega)]; rfl)
   ·have h2 := hrest (i - len) (by omega)
    rw [show len + (i - len) = i by omega] at h2
    exact key _ h2 (by rw [List.getElem?_eq_getElem (by omega)]; rfl)
  have hcells : ∀ i,i < cap → ∃ row,RowFits ks row ∧ ∀ (j : Nat) (u : HV),row[j]? = some u → u.flat = true ∧ ∃ u',arr[ao + i * ks.length + j]? = some u' ∧ ∀ β,VRel β u u' := by
   intro i hi
   obtain ⟨cs,x,h1,h2⟩ := hrow i hi
   obtain ⟨g1,g2⟩ := Zac4 h1
   obtain ⟨k1,k2⟩ := hE H enc W base _ held n cs x h2
   obtain ⟨row,r1,r2⟩ := rowOf k1 k2
   refine ⟨row,r1,fun j u hu => ?_⟩
   obtain ⟨f1,u',f2,f3⟩ := r2 j u hu
   have hj : j < ks.length := by
    have := (List.getElem?_eq_some_iff.1 hu).1
    rw [r1.len] at this; exact this
   refine ⟨f1,u',?_,f3⟩
   have := g2 j hj
   rw [f2] at this
   have e2 : ((⟨ab,ao,none⟩ : Addr).add (i * ks.length)).add j = (⟨ab,ao,none⟩ : Addr).add (i * ks.length + j) := by rw [Zzf,Zzf,Zzf,Nat.add_assoc]
   rw [e2,hcell] at this
   rw [Nat.add_assoc]; exact this
  have hrows : ∃ rows : List (List HV),rows.length = len ∧ (∀ row ∈ rows,RowFits ks row) ∧ ∀ β,RowsRel β rows arr ao ks.length := by
   have key : ∀ m,m ≤ len → ∃ rows : List (List HV),rows.length = m ∧ (∀ row ∈ rows,RowFits ks row) ∧ ∀ β,RowsRel β rows arr ao ks.length := by
    intro m
    induction m with
    | zero => intro _; exact ⟨[],rfl,fun _ h => by simp at h,fun β i row h => by simp at h⟩
    | succ m ih =>
     intro hm2
     obtain ⟨rows,h1,h2,h3⟩ := ih (by omega)
     obtain ⟨row,r1,r2⟩ := hcells m (by omega)
     refine ⟨rows ++ [row],by simp [h1],fun q hq => ?_,fun β i q hq => ?_⟩
     ·rcases Yab.1 hq with h | h
      ·exact h2 q h
      ·simp at h; subst h; exact r1
     ·by_cases hi : i < rows.length
      ·rw [List.getElem?_append_left hi] at hq
       exact h3 β i q hq
      ·rw [List.getElem?_append_right (by omega)] at hq
       have hi2 : i - rows.length = 0 := by
        have := (List.getElem?_eq_some_iff.1 hq).1
        simp at this; omega
       rw [hi2] at hq
       simp at hq
       subst hq
       have : i = m := by omega
       subst this
       refine ⟨r1.len,fun j u hu => ?_⟩
       obtain ⟨f1,u',f2,f3⟩ := r2 j u hu
       exact ⟨f1,u',f2,f3 β⟩
   exact key len (Yaa _)
  obtain ⟨rows,h1,h2,h3⟩ := hrows
  have hend : ∀ m,m ≤ cap → 0 < m → ao + m * ks.length ≤ arr.size := by
   intro m hm2 hm3
   obtain ⟨row,r1,r2⟩ := hcells (m - 1) (by omega)
   have hj : ks.length - 1 < row.length := by rw [r1.len]; omega
   obtain ⟨_,u',f2,_⟩ := r2 (ks.length - 1) _ (List.getElem?_eq_getElem hj)
   have := (Array.getElem?_eq_some_iff.1 f2).1
   have e3 : m * ks.length = (m - 1) * ks.length + ks.length := by
    obtain ⟨q,rfl⟩ : ∃ q,m = q + 1 := ⟨m - 1,by omega⟩
    simp [Nat.succ_mul]
   omega
  by_cases hcap : cap = 0
  ·-- no room at all
   refine ⟨ab,0,arr,ty,fr,rows,⟨ab,ao,none⟩,len,cap,rfl,hblock,fun β i row hr => ?_,h1,h2,by rw [show len = 0 by omega]; simp,.inl ⟨by omega,hcap⟩⟩
   have := (List.getElem?_eq_some_iff.1 hr).1
   omega
  ·refine ⟨ab,ao,arr,ty,fr,rows,⟨ab,ao,none⟩,len,cap,rfl,hblock,h3,h1,h2,?_,.inr ⟨?_,hend cap (Yaa _) (by omega),hle⟩⟩
   ·by_cases hl0 : len = 0
    ·have := hend cap (Yaa _) (by omega)
     subst hl0; simp; omega
    ·exact hend len hle (by omega)
   ·rfl
abbrev AObj := Option (Nat × List (List HV))
def objOf : AObj → HObj
 | some (z,rows) => .cells z rows false
 | none => .dead
def SA (l : List AObj) : HS := { heap := fun i => match l[i]? with | some x => objOf x | none => .dead,next := l.length }
def BA (ts : List Tgt) : Bt := fun i => match ts[i]? with | some t => t | none => .none
inductive ArgOk (W : World) : AObj → Tgt → Prop
 | none : ArgOk W none .none
 | mem {z : Nat} {rows : List (List HV)} {b o : Nat} {arr : Array Value} {ty : TypeId} {fr : Nat × Nat} (h : W.heap[b]? = some (.cells arr ty fr)) (h1 : o + rows.length * z ≤ arr.size) (hz : 0 < z) (hr : ∀ β,RowsRel β rows arr o z) : ArgOk W (some (z,rows)) (.mem b o z rows.length arr.size)
theorem relA {W : World} {l : List AObj} {ts : List Tgt} (hl : l.length = ts.length) (h : ∀ (i : Nat) (x : AObj) (t : Tgt),l[i]? = some x → ts[i]? = some t → ArgOk W x t) : Rel W.heap.size W (BA ts) (SA l) W := by
 have hat : ∀ i,i < l.length → ∃ x t,l[i]? = some x ∧ ts[i]? = some t ∧ ArgOk W x t := fun i hi => ⟨_,_,List.getElem?_eq_getElem hi,List.getElem?_eq_getElem (by omega),h i _ _ (List.getElem?_eq_getElem hi) (List.getElem?_eq_getElem (by omega))⟩
 have hout : ∀ i,l.length ≤ i → BA ts i = .none ∧ (SA l).heap i = .dead := fun i hi => by
  simp only [BA,SA]
  rw [List.getElem?_eq_none hi,List.getElem?_eq_none (by omega)]
  exact ⟨rfl,rfl⟩
 refine ⟨Below.refl _ _,Yaa _,fun i hi => hout i hi,fun i b hb => ?_,fun i => ?_,fun i j b _ ho => ?_⟩
 ·by_cases hi : i < l.length
  ·obtain ⟨x,t,h1,h2,h3⟩ := hat i hi
   simp only [BA,h2] at hb
   cases h3 with
   | none => simp [Tgt.block] at hb
   | mem q1 _ _ _ =>
    simp [Tgt.block] at hb
    subst hb
    exact (Array.getElem?_eq_some_iff.1 q1).1
  ·rw [(hout i (by omega)).1] at hb
   simp [Tgt.block] at hb
 ·by_cases hi : i < l.length
  ·obtain ⟨x,t,h1,h2,h3⟩ := hat i hi
   simp only [SA,h1]
   cases h3 with
   | none => exact trivial
   | mem q1 q2 q3 q4 => exact ⟨_,_,_,_,_,_,by simp only [BA,h2],q1,rfl,q2,q3,q4 _,fun h => by cases h⟩
  ·rw [(hout i (by omega)).2]; exact trivial
 ·exfalso
  by_cases hi : i < l.length
  ·obtain ⟨x,t,h1,h2,h3⟩ := hat i hi
   simp only [SA,h1] at ho
   cases h3 <;> simp [objOf,HObj.own] at ho
  ·rw [(hout i (by omega)).2] at ho
   simp [HObj.own] at ho
inductive ArgSl (S : HS) (z : Nat) : Sl → List (List HV) → Prop
 | nil : ArgSl S z Sl.nil []
 | at_ {id : Nat} {rows : List (List HV)} (h : S.heap id = .cells z rows false) (hl : id < S.next) : ArgSl S z ⟨some (id,0),rows.length,none⟩ rows
theorem ArgSl.len {S : HS} {z : Nat} {s : Sl} {rows : List (List HV)} (h : ArgSl S z s rows) : s.len = rows.length := by cases h <;> rfl
theorem ArgSl.frame {S S' : HS} {z m : Nat} {s : Sl} {rows : List (List HV)} (h : ArgSl S z s rows) (hf : Fr m S S') (hm : S.next ≤ m) : ArgSl S' z s rows := by
 cases h with
 | nil => exact .nil
 | at_ h hl => exact .at_ (by rw [hf.eq _ (by omega)]; exact h) (Yai hl hf.le)
theorem ArgSl.rows {S : HS} {z : Nat} {s : Sl} {rows : List (List HV)} (h : ArgSl S z s rows) : S.rows s z = some rows := by
 cases h with
 | nil => simp [HS.rows,Sl.nil]
 | at_ h hl => simp [HS.rows,h]
theorem open_arg {H : Type} {enc : TypeId × Value → H} {P : Program} {W : World} {r : Reach} {b0 base : Nat} {held : Bool} {t e : TypeId} {v : Value} {d : DataW H} {ps : List MemPlace} {ks : List SK} (ht : P.underlying t = some (.slice e)) (hz : P.cellsOf e = ks.length) (hz0 : 0 < ks.length) (hE : Zabx P e ks)
  (hval : Value.okWide P W r b0 t v) (hd : DataW.Trod enc P W base (fun _ => true) held t v d ps) :
  ∃ (x : AObj) (tg : Tgt) (sl : Nat → Sl) (rows : List (List HV)),ArgOk W x tg ∧ (∀ β id,β id = tg → VRel β (sl id).hv v) ∧ (∀ S id,S.heap id = objOf x → id < S.next → ArgSl S ks.length (sl id) rows) ∧ (∀ row ∈ rows,RowFits ks row) := by
 rcases Zaiw ht hz hz0 hE hval hd with rfl | ⟨b,o,arr,ty,fr,rows,ad,len,cap,rfl,h1,h2,h3,h4,h5,h6⟩
 ·exact ⟨none,.none,fun _ => Sl.nil,[],.none,fun β id _ => .slNil none,fun S id _ _ => .nil,fun _ h => by simp at h⟩
 ·refine ⟨some (ks.length,rows),.mem b o ks.length rows.length arr.size,fun id => ⟨some (id,0),rows.length,none⟩,rows,.mem h1 (by rw [h3]; exact h5) hz0 h2,fun β id hb => ?_,fun S id hS hl => .at_ hS hl,h4⟩
  rcases h6 with ⟨h7,h8⟩ | ⟨rfl,h8,h9⟩
  ·subst h7 h8
   have hr0 : rows.length = 0 := h3
   simp only [Sl.hv,hr0]
   exact VRel.slEnd (off := 0) hb (by omega) (fun _ => by omega) (fun q hq => by cases hq)
  ·simp only [Sl.hv]
   have := VRel.sl (off := 0) (c := none) (len := rows.length) (cap := cap) hb (by omega) (by omega) (fun _ => by omega) (fun q hq => by cases hq) (by rw [Nat.zero_add]; exact h8)
   simp only [Nat.zero_mul,Nat.add_zero] at this
   rw [h3] at this ⊢
   exact this
def skOk (P : Program) (t : TypeId) (k : SK) : Bool :=
 match P.underlying t,k with
 | some (.int k'),.int k => decide (k' = k)
 | some .string,.str => true
 | some .bool,.bool => true
 | _,_ => false
theorem Zags {P : Program} {t : TypeId} {k : SK} (h : skOk P t k = true) : Zabx P t [k] := by
 unfold skOk at h
 split at h
 ·rename_i k' k h1
  have := of_decide_eq_true h
  subst this
  exact Zahm h1
 ·rename_i h1; exact Zahn h1
 ·rename_i h1
  intro H enc w base sp held n cs x hx
  obtain ⟨b,rfl,_⟩ := DataW.trod_bool h1 hx
  refine ⟨rfl,fun i q hq => ?_⟩
  cases i with
  | zero => cases hq; exact ⟨_,rfl,b,rfl⟩
  | succ i => simp at hq
 ·cases h
def elemB (P : Program) (e : TypeId) (ks : List SK) : Bool :=
 match P.underlying e with
 | some (.struct fs) => P.cellsOf e == ks.length && fs.size == ks.length && (List.range ks.length).all fun i => match fs[i]?,ks[i]? with
  | some f,some k => f.offset == i && P.cellsOf f.type == 1 && skOk P f.type k
  | _,_ => false
 | _ => match ks with
  | [k] => skOk P e k
  | _ => false
theorem elemB_out {P : Program} {e : TypeId} {ks : List SK} (h : elemB P e ks = true) : Zabx P e ks := by
 unfold elemB at h
 split at h
 ·rename_i fs hfs
  simp only [Bool.and_eq_true,beq_iff_eq,List.all_eq_true,List.mem_range] at h
  obtain ⟨⟨h1,h2⟩,h3⟩ := h
  refine Zady hfs h1 h2 fun i f k hf hk => ?_
  have := h3 i (List.getElem?_eq_some_iff.1 hk).1
  rw [hf,hk] at this
  simp only [Bool.and_eq_true,beq_iff_eq] at this
  exact ⟨this.1.1,this.1.2,Zags this.2⟩
 ·split at h
  ·exact Zags h
  ·cases h
end Go.Proofs.YtbmfomkfmpppiaaGreat.HL
namespace Go.Proofs.YtbmfomkfmpppiaaGreat.HL
structure Rd (m : Nat) (S : HS) (z : Nat) (s : Sl) (rows : List (List HV)) : Prop where
 rows : S.rows s z = some rows
 lt : ∀ p,s.a = some p → p.1 < m
theorem Vec.rd {n z : Nat} {S : HS} {s : Sl} {rows : List (List HV)} (h : Vec n S z s rows) : Rd S.next S z s rows := by
 refine ⟨h.rows,fun p hp => ?_⟩
 cases h with
 | nil => cases hp
 | open_ h hn hl => cases hp; exact hl
 | capped h hn hl hc hr ht => cases hp; exact hl
theorem ArgSl.rd {S : HS} {z : Nat} {s : Sl} {rows : List (List HV)} (h : ArgSl S z s rows) : Rd S.next S z s rows := by
 refine ⟨h.rows,fun p hp => ?_⟩
 cases h with
 | nil => cases hp
 | at_ h hl => cases hp; exact hl
theorem Rd.frame {m m' z : Nat} {S S' : HS} {s : Sl} {rows : List (List HV)} (h : Rd m S z s rows) (hf : Fr m' S S') (hm : m ≤ m') : Rd m S' z s rows := by
 refine ⟨?_,h.lt⟩
 have := h.rows
 unfold HS.rows at this ⊢
 cases ha : s.a with
 | none => rw [ha] at this; exact this
 | some p =>
  obtain ⟨id,off⟩ := p
  rw [ha] at this
  simp only at this ⊢
  rw [hf.eq id (Yai (h.lt _ ha) hm)]
  exact this
theorem Rd.mono {m m' z : Nat} {S : HS} {s : Sl} {rows : List (List HV)} (h : Rd m S z s rows) (hm : m ≤ m') : Rd m' S z s rows := ⟨h.rows,fun p hp => Yai (h.lt p hp) hm⟩
theorem Rd.len {m z : Nat} {S : HS} {s : Sl} {rows : List (List HV)} (h : Rd m S z s rows) : s.len = rows.length := (Zx7 h.rows).symm
theorem Zab7 {S : HS} {z : Nat} {s : Sl} {rows : List (List HV)} (h : S.rows s z = some rows) {i : Nat} (hi : i < rows.length) : ∃ ad,S.idx s (i : Int) z = some ad ∧ ad.j = 0 ∧ S.row ad.id ad.i = some rows[i] := by
 have hl := (Zx7 h).symm
 unfold HS.rows at h
 split at h
 ·split at h
  ·cases h; simp at hi
  ·cases h
 ·rename_i id off ha
  split at h
  ·rename_i z' rws own hh
   split at h
   ·rename_i hc
    cases h
    simp only [Yar,Ya1] at hi
    refine ⟨⟨id,off + i,0⟩,?_,rfl,?_⟩
    ·simp only [HS.idx,ha,hh]
     simp
     omega
    ·simp only [HS.row,hh,Ybj,Yat]
     rw [List.getElem?_eq_getElem]
   ·cases h
  ·cases h
theorem Zaa9 {S : HS} {ad : HA} {r : List HV} {v : HV} {j : Nat} (h : S.row ad.id ad.i = some r) (hj : ad.j = 0) (hv : r[j]? = some v) : S.get (HA.fld ad j) = some v := by
 simp only [HS.get,h,obs,hj,Nat.zero_add]
 exact hv
theorem Zzs {S : HS} {ad : HA} {r : List HV} {s : List UInt8} {j : Nat} (h : S.row ad.id ad.i = some r) (hj : ad.j = 0) (hv : r[j]? = some (.str s)) : S.ldS (HA.fld ad j) = some s := by
 rw [HS.ldS,Zaa9 h hj hv]; rfl
theorem Zyb {S : HS} {ad : HA} {r : List HV} {k : IntKind} {n : Int} {j : Nat} (h : S.row ad.id ad.i = some r) (hj : ad.j = 0) (hv : r[j]? = some (.int k n)) : S.ldI k (HA.fld ad j) = some n := by
 rw [HS.ldI,Zaa9 h hj hv]; simp [dI]
theorem Zabq {S : HS} {ad : HA} {r : List HV} {b : Bool} {j : Nat} (h : S.row ad.id ad.i = some r) (hj : ad.j = 0) (hv : r[j]? = some (.bool b)) : S.ldB (HA.fld ad j) = some b := by
 rw [HS.ldB,Zaa9 h hj hv]; rfl
theorem Zacj {S : HS} {ad : HA} {r : List HV} {p : Option HA} {j : Nat} (h : S.row ad.id ad.i = some r) (hj : ad.j = 0) (hv : r[j]? = some (.ptr p)) : S.ldP (HA.fld ad j) = some p := by
 rw [HS.ldP,Zaa9 h hj hv]; rfl
theorem Zy4 {S : HS} {ad : HA} {r : List HV} {s : Sl} {j : Nat} (h : S.row ad.id ad.i = some r) (hj : ad.j = 0) (hv : r[j]? = some s.hv) : S.ldSl (HA.fld ad j) = some s := by
 rw [HS.ldSl,Zaa9 h hj hv]; rfl
theorem Zxu {S : HS} {id z : Nat} {r : List HV} {b : Bool} (h : S.heap id = .cells z [r] b) : S.row (HA.cell0 id).id (HA.cell0 id).i = some r := by simp [HS.row,h]
theorem Zyv {S : HS} {id z i j : Nat} {rows : List (List HV)} {r vs : List HV} (h : S.heap id = .cells z rows true) (hr : rows[i]? = some r) (hj : j + vs.length ≤ r.length) :
  S.sets ⟨id,i,j⟩ vs = some (S.put id (.cells z (rows.set i (r.take j ++ vs ++ r.drop (j + vs.length))) true)) := by
 simp only [HS.sets,h,hr,hj,if_true]
theorem Vec.put_ne {n z id : Nat} {T : HS} {s : Sl} {rows : List (List HV)} {o : HObj} (h : Vec n T z s rows) (hne : ∀ q,s.a = some q → q.1 ≠ id) : Vec n (T.put id o) z s rows := by
 cases h with
 | nil => exact .nil
 | open_ g1 g2 g3 => exact .open_ (by rw [Zxe _ (hne _ rfl)]; exact g1) g2 g3
 | capped g1 g2 g3 g4 g5 g6 => exact .capped (by rw [Zxe _ (hne _ rfl)]; exact g1) g2 g3 g4 g5 g6
theorem Vec.mono {n m z : Nat} {T : HS} {s : Sl} {rows : List (List HV)} (h : Vec n T z s rows) (hm : m ≤ n) : Vec m T z s rows := by
 cases h with
 | nil => exact .nil
 | open_ g1 g2 g3 => exact .open_ g1 (Ya2 hm g2) g3
 | capped g1 g2 g3 g4 g5 g6 => exact .capped g1 (Ya2 hm g2) g3 g4 g5 g6
theorem Vec.lo {n z : Nat} {T : HS} {s : Sl} {rows : List (List HV)} (h : Vec n T z s rows) : ∀ q,s.a = some q → n ≤ q.1 ∧ q.1 < T.next := by
 intro q hq
 cases h with
 | nil => cases hq
 | open_ g1 g2 g3 => cases hq; exact ⟨g2,g3⟩
 | capped g1 g2 g3 g4 g5 g6 => cases hq; exact ⟨g2,g3⟩
theorem Vec.app2 {n z : Nat} {S : HS} {s : Sl} {rows new : List (List HV)} (h : Vec n S z s rows) (hn : n ≤ S.next) (hl : rows.length + new.length ≤ 2147483648) : ∃ s' S',S.app s new z = some (s',S') ∧ Vec n S' z s' (rows ++ new) ∧ Fr n S S' ∧
  (∀ id,id < S.next → (∀ q,s.a = some q → q.1 ≠ id) → S'.heap id = S.heap id) ∧ (∀ q,s'.a = some q → S.next ≤ q.1 ∨ ∃ q0,s.a = some q0 ∧ q0.1 = q.1) := by
 unfold HS.app
 by_cases he : new = []
 ·subst he; rw [if_pos rfl]; exact ⟨s,S,rfl,by simpa using h,Fr.refl _ _,fun _ _ _ => rfl,fun q hq => .inr ⟨q,hq,rfl⟩⟩
 rw [if_neg he,if_pos (by rw [h.len]; exact hl)]
 have hne : 0 < new.length := List.length_pos_iff.2 he
 cases h with
 | nil =>
  refine ⟨_,_,rfl,?_,Fr.new hn _,fun id hid _ => Zyy _ hid,fun q hq => by cases hq; exact .inl (Yaa _)⟩
  exact .open_ (Zxx _ _) hn (by simp [Zx2])
 | @open_ id _ h hid hidl =>
  simp only [h,if_true]
  by_cases hfit : 0 + rows.length + new.length ≤ rows.length
  ·exfalso; omega
  rw [if_neg hfit,if_pos (by simp)]
  refine ⟨_,_,rfl,?_,(Fr.put hid _).trans (Fr.newM (by rw [Zxw]; exact hn) _ _),fun i hi hq => ?_,fun q hq => by cases hq; exact .inl (Yaa _)⟩
  ·have hv : ((S.put id .dead).newM (.cells z (rows.drop 0 ++ new) true) (mfg (S.mrk id))).heap S.next = .cells z (rows ++ new) true := Zabd _ _ _
   have := Vec.open_ (n := n) (z := z) hv hn (by simp [Zaew,Zxw])
   simpa using this
  ·rw [new_oldM _ _ (by rw [Zxw]; exact hi),Zxe _ (fun e => hq _ rfl e.symm)]
 | @capped id c _ all h hid hidl hc hr ht =>
  simp only [h,if_true]
  by_cases hfit : rows.length + new.length ≤ c
  ·rw [if_pos hfit]
   refine ⟨_,_,rfl,?_,Fr.put hid _,fun i hi hq => Zxe _ (fun e => hq _ rfl e.symm),fun q hq => by cases hq; exact .inr ⟨_,rfl,rfl⟩⟩
   have hlen : (splice all (0 + rows.length) new).length = c := by
    simp [splice]; omega
   have e : (rows ++ new).length = rows.length + new.length := by simp
   rw [← e]
   refine .capped (Zxv _ _ _) hid hidl hlen (by rw [e]; exact hfit) ?_
   unfold splice
   rw [Nat.zero_add,ht,e,List.take_left' (by simp)]
  ·rw [if_neg hfit]
   refine ⟨_,_,rfl,?_,Fr.new hn _,fun i hi _ => Zyy _ hi,fun q hq => by cases hq; exact .inl (Yaa _)⟩
   have hv : (S.new (.cells z ((all.drop 0).take rows.length ++ new) true)).heap S.next = .cells z (rows ++ new) true := by rw [List.drop_zero,ht]; exact Zxx _ _
   have := Vec.open_ (n := n) (z := z) hv hn (by simp [Zx2])
   simpa using this
theorem Vec.set_ {n z : Nat} {T : HS} {s : Sl} {rows : List (List HV)} (h : Vec n T z s rows) {i : Nat} {row : List HV} (hi : i < rows.length) (hr : row.length = (rows[i]).length) :
  ∃ ad T',T.idx s (i : Int) z = some ad ∧ ad.j = 0 ∧ T.row ad.id ad.i = some rows[i] ∧ T.sets ad row = some T' ∧ Vec n T' z s (rows.set i row) ∧ Fr n T T' ∧ T'.next = T.next ∧ (∀ id,(∀ q,s.a = some q → q.1 ≠ id) → T'.heap id = T.heap id) := by
 cases h with
 | nil => simp at hi
 | @open_ id _ g1 g2 g3 =>
  refine ⟨⟨id,i,0⟩,T.put id (.cells z (rows.set i row) true),by simp [HS.idx,g1,hi],rfl,by simp [HS.row,g1,hi],?_,?_,Fr.put g2 _,rfl,fun j hj => Zxe _ (fun e => hj _ rfl e.symm)⟩
  ·rw [Zyv g1 (List.getElem?_eq_getElem hi) (by omega)]
   simp [hr]
  ·have := Vec.open_ (n := n) (z := z) (Zxv T id (.cells z (rows.set i row) true)) g2 g3
   simpa using this
 | @capped id c _ all g1 g2 g3 g4 g5 g6 =>
  have hia : i < all.length := by omega
  have hget : all[i] = rows[i] := by
   have : (all.take rows.length)[i]? = rows[i]? := by rw [g6]
   rw [List.getElem?_take,if_pos hi,List.getElem?_eq_getElem hia,List.getElem?_eq_getElem hi] at this
   exact Option.some.inj this
  refine ⟨⟨id,i,0⟩,T.put id (.cells z (all.set i row) true),by simp [HS.idx,g1,hi],rfl,by simp [HS.row,g1,hia,hget],?_,?_,Fr.put g2 _,rfl,fun j hj => Zxe _ (fun e => hj _ rfl e.symm)⟩
  ·rw [Zyv g1 (List.getElem?_eq_getElem hia) (by rw [hget]; omega)]
   simp [hr,hget]
  ·have e : (rows.set i row).length = rows.length := by simp
   have := Vec.capped (n := n) (z := z) (c := c) (rows := rows.set i row) (Zxv T id (.cells z (all.set i row) true)) g2 g3 (by simpa using g4) (by simpa using g5) (by rw [e,List.take_set,g6])
   rw [e] at this
   exact this
end Go.Proofs.YtbmfomkfmpppiaaGreat.HL
