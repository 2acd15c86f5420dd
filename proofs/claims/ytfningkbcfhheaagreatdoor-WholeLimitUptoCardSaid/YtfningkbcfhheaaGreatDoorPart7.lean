/- The layer HL, part 24: maps. The layer HL, part 26: short words for printed proofs. -/
import Derived.Test.YtfningkbcfhheaaGreatDoorPart6
import Derived.Laws.StructEq
set_option linter.unusedVariables false
set_option linter.unusedSimpArgs false
set_option linter.unusedVariables false
set_option linter.unusedSimpArgs false
namespace Go.Proofs.YtfningkbcfhheaaGreatDoor.HL
open Go.RowKit (Below)
def kSame1 : HV → HV → Option Bool
 | .int k a,.int k' b => if k = k' then some (a == b) else none
 | .str a,.str b => some (a == b)
 | .bool a,.bool b => some (a == b)
 | _,_ => none
def kSames : List HV → List HV → Option Bool
 | [],[] => some true
 | a :: as,b :: bs => match kSame1 a b with
  | some true => kSames as bs
  | some false => some false
  | none => none
 | _,_ => none
def kSame : HV → HV → Option Bool
 | .agg xs,.agg ys => kSames xs ys
 | a,b => kSame1 a b
def mfind (k : HV) : List (HV × HV) → Nat → Option (Option (Nat × HV))
 | [],_ => some none
 | (k',v) :: es,i =>
  match kSame k k' with
  | some true => some (some (i,v))
  | some false => mfind k es (i + 1)
  | none => none
def HS.mp (S : HS) (r : Option Nat) : Option (List (HV × HV)) :=
 match r with
 | none => some []
 | some r => match S.heap r with | .map es => some es | _ => none
def HS.look (S : HS) (r : Option Nat) (k : HV) : Option (Option HV) := (S.mp r).bind fun es => (mfind k es 0).map fun x => x.map (·.2)
def HS.mput (S : HS) (r : Option Nat) (k v : HV) : Option HS :=
 match r with
 | none => none
 | some r => match S.heap r with
  | .map es => (mfind k es 0).map fun x => match x with | some (i,_) => S.put r (.map (es.set i (k,v))) | none => S.put r (.map (es ++ [(k,v)]))
  | _ => none
def HS.mdel (S : HS) (r : Option Nat) (k : HV) : Option HS :=
 match r with
 | none => some S
 | some r => match S.heap r with
  | .map es => (mfind k es 0).map fun x => match x with | some (i,_) => S.put r (.map (es.eraseIdx i)) | none => S.put r (.map es)
  | _ => none
section
variable {P : Program} {base : Nat} {W0 : Env} {a : HAct} {S : HS} {o : Oper} {β : Bt}
def PK (P : Program) (t : TypeId) (k : HV) : Prop :=
 ∃ d,P.underlying t = some d ∧ match d,k with | .int _,.int _ _ => True | .string,.str _ => True | .bool,.bool _ => True | _,_ => False
inductive FOk (P : Program) : List Field → Nat → List HV → Prop
 | nil {n : Nat} : FOk P [] n []
 | cons {f : Field} {fs : List Field} {n : Nat} {x : HV} {xs : List HV} (h1 : f.name ≠ "_") (h2 : f.offset = n) (h3 : PK P f.type x) (h4 : FOk P fs (n + 1) xs) : FOk P (f :: fs) n (x :: xs)
def KeyOk (P : Program) (t : TypeId) (k : HV) : Prop :=
 PK P t k ∨ ∃ fs xs,k = .agg xs ∧ P.underlying t = some (.struct fs) ∧ P.stoodInHeld t = false ∧ FOk P fs.toList 0 xs
theorem keyInt {t : TypeId} {ik jk : IntKind} {n : Int} (h : P.underlying t = some (.int ik)) : KeyOk P t (.int jk n) := .inl ⟨_,h,trivial⟩
theorem keyStr {t : TypeId} {s : List UInt8} (h : P.underlying t = some .string) : KeyOk P t (.str s) := .inl ⟨_,h,trivial⟩
theorem keyBool {t : TypeId} {b : Bool} (h : P.underlying t = some .bool) : KeyOk P t (.bool b) := .inl ⟨_,h,trivial⟩
def kindOf : HV → Nat
 | .int _ _ => 0
 | .str _ => 1
 | .bool _ => 2
 | _ => 3
def fldsChk (P : Program) : List Field → Nat → List Nat → Bool
 | [],_,[] => true
 | f :: fs,n,k :: ks => f.name != "_" && f.offset == n && (match P.underlying f.type,k with | some (.int _),0 => true | some .string,1 => true | some .bool,2 => true | _,_ => false) && fldsChk P fs (n + 1) ks
 | _,_,_ => false
def structChk (P : Program) (t : TypeId) (ks : List Nat) : Bool :=
 (match P.underlying t with | some (.struct fs) => fldsChk P fs.toList 0 ks | _ => false) && !P.stoodInHeld t
theorem flds_of {fs : List Field} : ∀ {n : Nat} {ks : List Nat} {xs : List HV},fldsChk P fs n ks = true → xs.map kindOf = ks → FOk P fs n xs := by
 induction fs with
 | nil =>
  intro n ks xs h hx
  cases ks with
  | nil => cases xs with
   | nil => exact .nil
   | cons x xs => cases hx
  | cons k ks => cases h
 | cons f fs ih =>
  intro n ks xs h hx
  cases ks with
  | nil => cases h
  | cons k ks =>
   cases xs with
   | nil => cases hx
   | cons x xs =>
    simp only [List.map_cons,List.cons.injEq] at hx
    simp only [fldsChk,Bool.and_eq_true,bne_iff_ne,ne_eq,beq_iff_eq] at h
    obtain ⟨⟨⟨h1,h2⟩,h3⟩,h4⟩ := h
    refine .cons h1 h2 ?_ (ih h4 hx.2)
    rw [← hx.1] at h3
    cases hu : P.underlying f.type with
    | none => rw [hu] at h3; simp at h3
    | some d =>
     rw [hu] at h3
     refine ⟨d,hu,?_⟩
     cases x <;> simp only [kindOf] at h3 <;> cases d <;> first | trivial | (simp at h3)
theorem keyStruct {t : TypeId} {ks : List Nat} {xs : List HV} (h : structChk P t ks = true) (hx : xs.map kindOf = ks) : KeyOk P t (.agg xs) := by
 simp only [structChk,Bool.and_eq_true,Bool.not_eq_true'] at h
 obtain ⟨h1,h2⟩ := h
 split at h1
 ·rename_i fs hu
  exact .inr ⟨fs,xs,rfl,hu,h2,flds_of h1 hx⟩
 ·cases h1
theorem sameNow_rel {d : TypeDesc} {k k' : HV} {u u' : Value} {q : Bool} (hd : match d,k with | .int _,.int _ _ => True | .string,.str _ => True | .bool,.bool _ => True | _,_ => False) (h : VRel β k u) (h' : VRel β k' u') (hs : kSame1 k k' = some q) : Instr.sameNow d u u' = some q := by
 cases h with
 | int ik n =>
  cases d <;> try exact hd.elim
  cases h' <;> first | (simp only [kSame1] at hs; cases hs; done) | skip
  rename_i ik2 n2
  simp only [kSame1] at hs
  simp only [Instr.sameNow]
  exact hs
 | str s =>
  cases d <;> try exact hd.elim
  cases h' <;> first | (simp only [kSame1] at hs; cases hs; done) | skip
  rename_i s2
  simp only [kSame1,Option.some.injEq] at hs
  simp only [Instr.sameNow,beq_mk,hs]
 | bool b =>
  cases d <;> try exact hd.elim
  cases h' <;> first | (simp only [kSame1] at hs; cases hs; done) | skip
  simp only [kSame1] at hs
  simp only [Instr.sameNow]
  exact hs
 | _ => cases d <;> exact hd.elim
theorem equal_pk {t : TypeId} {k k' : HV} {u u' : Value} {q : Bool} (hk : PK P t k) (h : VRel β k u) (h' : VRel β k' u') (hs : kSame1 k k' = some q) (d : Nat) (w : World) : (Op.equalIn (d + 1) t u u').run P w = .ok q w := by
 obtain ⟨e,h1,h2⟩ := hk
 cases h with
 | int ik n =>
  cases e <;> try exact h2.elim
  cases h' <;> first | (simp only [kSame1] at hs; cases hs; done) | skip
  rename_i ik2 n2
  simp only [kSame1] at hs
  split at hs
  ·rename_i e; subst e; cases hs; simp [Op.equalIn,underlying,h1]
  ·cases hs
 | str s =>
  cases e <;> try exact h2.elim
  cases h' <;> first | (simp only [kSame1] at hs; cases hs; done) | skip
  rename_i s2
  simp only [kSame1,Option.some.injEq] at hs
  subst hs
  simp [Op.equalIn,underlying,h1,beq_mk]
 | bool b =>
  cases e <;> try exact h2.elim
  cases h' <;> first | (simp only [kSame1] at hs; cases hs; done) | skip
  simp only [kSame1] at hs
  cases hs
  simp [Op.equalIn,underlying,h1]
 | _ => cases e <;> exact h2.elim
theorem PK.isAgg {t : TypeId} {k : HV} (h : PK P t k) (w : World) : (isAgg t).run P w = .ok false w := by
 obtain ⟨d,h1,h2⟩ := h
 cases d <;> first | (cases k <;> exact h2.elim) | simp [Go.isAgg,underlying,h1]
theorem PK.part {t : TypeId} {k : HV} (h : PK P t k) {cs : Array Value} {n : Nat} {v : Value} (hv : cs[n]? = some v) (w : World) : (part t cs n).run P w = .ok v w := by
 simp [Go.part,h.isAgg w,hv]
theorem equal_flds {fs : List Field} {n : Nat} {xs : List HV} (hf : FOk P fs n xs) : ∀ {ys : List HV} {us us' : Array Value} {q : Bool} (d : Nat) (w : World),(∀ i x,xs[i]? = some x → ∃ v,us[n + i]? = some v ∧ VRel β x v) → (∀ i y,ys[i]? = some y → ∃ v,us'[n + i]? = some v ∧ VRel β y v) → kSames xs ys = some q →
  (Op.eqFields (d + 1) us us' fs).run P w = .ok q w := by
 induction hf with
 | nil =>
  intro ys us us' q d w hx hy hs
  cases ys with
  | nil => simp only [kSames,Option.some.injEq] at hs; subst hs; simp [Op.eqFields]
  | cons y ys => cases hs
 | @cons f fs n x xs h1 h2 h3 h4 ih =>
  intro ys us us' q d w hx hy hs
  cases ys with
  | nil => cases hs
  | cons y ys =>
   obtain ⟨v,v1,v2⟩ := hx 0 x rfl
   obtain ⟨v',v1',v2'⟩ := hy 0 y rfl
   simp only [Nat.add_zero] at v1 v1'
   simp only [kSames] at hs
   have p1 := h3.part v1 w
   have p2 := h3.part v1' w
   rw [← h2] at p1 p2
   cases hk : kSame1 x y with
   | none => rw [hk] at hs; cases hs
   | some e =>
    rw [hk] at hs
    have he := equal_pk h3 v2 v2' hk d w
    cases e with
    | false =>
     simp only [Option.some.injEq] at hs
     subst hs
     simp [Op.eqFields,h1,p1,p2,he]
    | true =>
     have r1 := ih (us := us) (us' := us') d w (fun i x' hi => by
      have := hx (i + 1) x' (by simpa using hi)
      rwa [show n + (i + 1) = n + 1 + i by omega] at this) (fun i x' hi => by
      have := hy (i + 1) x' (by simpa using hi)
      rwa [show n + (i + 1) = n + 1 + i by omega] at this) hs
     simp [Op.eqFields,h1,p1,p2,he,r1]
theorem equal_struct {t : TypeId} {fs : Array Field} {xs ys : List HV} {u u' : Value} {q : Bool} (ht : P.underlying t = some (.struct fs)) (hs : P.stoodInHeld t = false) (hf : FOk P fs.toList 0 xs) (h : VRel β (.agg xs) u) (h' : VRel β (.agg ys) u') (hq : kSames xs ys = some q) (d : Nat) (w : World) : (Op.equalIn (d + 2) t u u').run P w = .ok q w := by
 have hfs : P.fieldsOf t = fs := by simp [Program.fieldsOf,ht]
 cases h with
 | @agg _ cs a1 a2 =>
  cases h' with
  | @agg _ cs' b1 b2 =>
   rw [run_equalIn_struct w (d + 1) t cs cs' (by rw [hfs]; exact ht) hs,hfs]
   exact equal_flds hf d w (fun i x hi => by
    have hl : i < cs.size := by rw [← a1]; exact (List.getElem?_eq_some_iff.1 hi).1
    exact ⟨cs[i],by simp [hl],a2 i x _ hi (by simp [hl])⟩) (fun i x hi => by
    have hl : i < cs'.size := by rw [← b1]; exact (List.getElem?_eq_some_iff.1 hi).1
    exact ⟨cs'[i],by simp [hl],b2 i x _ hi (by simp [hl])⟩) hq
theorem ok_agg_eq {op : BinOp} {t ty : TypeId} {x y : Operand} {xs ys : List HV} {q b : Bool} {ks : List Nat} (ho : o.op = .binOp op t x y ty) (hc : structChk P t ks = true) (hg : P.eqGuardType P.depth t = false) (hk : xs.map kindOf = ks) (hx : Ev a x (.agg xs)) (hy : Ev a y (.agg ys)) (hq : kSames xs ys = some q)
  (hop : op = .eql ∧ b = q ∨ op = .neq ∧ b = !q) : OpOk P base W0 o a S (.bool b) S := by
 refine .pure (by rw [ho]; simp) fun β w a' _ h2 => ⟨.bool b,?_,.bool b⟩
 have hxr := hx.rel h2
 have hyr := hy.rel h2
 generalize hxv : a'.eval x = xv at hxr
 generalize hyv : a'.eval y = yv at hyr
 obtain ⟨d,h1,h2⟩ | ⟨fs,zs,e,hu,hst,hf⟩ := keyStruct hc hk
 ·cases d <;> exact h2.elim
 ·cases e
  have hE := equal_struct hu hst hf hxr hyr hq 9998 w
  cases hxr with
  | @agg _ cs a1 a2 =>
   cases hyr with
   | @agg _ cs' b1 b2 =>
    have hgu := run_eqGuard_agg w op t x y cs cs' hg
    rcases hop with ⟨rfl,rfl⟩ | ⟨rfl,rfl⟩
    ·have := run_eql_struct (P := P) w t cs cs'
     rw [show (10000 : Nat) = 9998 + 2 from rfl,hE] at this
     simp [execOp,ho,hxv,hyv,hgu,this]
    ·have := run_neq_struct (P := P) w t cs cs'
     rw [show (10000 : Nat) = 9998 + 2 from rfl,hE] at this
     simp [execOp,ho,hxv,hyv,hgu,this]
theorem EntRel.tail {e : HV × HV} {es : List (HV × HV)} {e' : MapEntry} {es' : List MapEntry} (h : EntRel β (e :: es) (e' :: es').toArray) : (VRel β e.1 e'.key ∧ VRel β e.2 e'.val) ∧ EntRel β es es'.toArray := by
 refine ⟨h.2 0 e.1 e.2 e' rfl rfl,⟨by have := h.1; simp at this ⊢; exact this,fun i k v x h1 h2 => h.2 (i + 1) k v x (by simpa using h1) (by simpa using h2)⟩⟩
def FRel (β : Bt) : Option (Nat × HV) → Option (Nat × Value) → Prop
 | some (j,v),some (j',v') => j = j' ∧ VRel β v v'
 | none,none => True
 | _,_ => False
theorem findNow_rel {d : TypeDesc} {k : HV} {u : Value} (hd : match d,k with | .int _,.int _ _ => True | .string,.str _ => True | .bool,.bool _ => True | _,_ => False) (h : VRel β k u) :
  ∀ (es : List (HV × HV)) (es' : List MapEntry) (i : Nat) (r : Option (Nat × HV)),EntRel β es es'.toArray → mfind k es i = some r →
   ∃ r',Instr.findNow d u es' i = some r' ∧ FRel β r r'
 | [],es',i,r,hE,hf => by
  have : es' = [] := by have := hE.1; simp at this; exact List.length_eq_zero_iff.1 this.symm
  subst this
  simp only [mfind,Option.some.injEq] at hf
  subst hf
  exact ⟨none,rfl,trivial⟩
 | (k',v) :: es,[],i,r,hE,hf => by have := hE.1; simp at this
 | (k',v) :: es,e' :: es',i,r,hE,hf => by
  obtain ⟨⟨h1,h2⟩,h3⟩ := hE.tail
  simp only [mfind] at hf
  cases hs : kSame k k' with
  | none => rw [hs] at hf; cases hf
  | some q =>
   have hs1 : kSame1 k k' = some q := by
    cases k <;> first | (cases d <;> exact hd.elim) | exact hs
   have hn := sameNow_rel hd h h1 hs1
   rw [hs] at hf
   cases q with
   | true =>
    simp only [Option.some.injEq] at hf
    subst hf
    exact ⟨some (i,e'.val),by simp only [Instr.findNow,hn],rfl,h2⟩
   | false =>
    obtain ⟨r',g1,g2⟩ := findNow_rel hd h es es' (i + 1) r h3 hf
    exact ⟨r',by simp only [Instr.findNow,hn]; exact g1,g2⟩
theorem findAsking_rel {t : TypeId} {fs : Array Field} {xs : List HV} {u : Value} (ht : P.underlying t = some (.struct fs)) (hst : P.stoodInHeld t = false) (hf : FOk P fs.toList 0 xs) (h : VRel β (.agg xs) u) (w : World) :
  ∀ (es : List (HV × HV)) (es' : List MapEntry) (i : Nat) (r : Option (Nat × HV)),EntRel β es es'.toArray → mfind (.agg xs) es i = some r →
   ∃ r',(Instr.findAsking t u es' i).run P w = .ok r' w ∧ FRel β r r'
 | [],es',i,r,hE,hf => by
  have : es' = [] := by have := hE.1; simp at this; exact List.length_eq_zero_iff.1 this.symm
  subst this
  simp only [mfind,Option.some.injEq] at hf
  subst hf
  exact ⟨none,by simp [Instr.findAsking],trivial⟩
 | (k',v) :: es,[],i,r,hE,hf => by have := hE.1; simp at this
 | (k',v) :: es,e' :: es',i,r,hE,hm => by
  obtain ⟨⟨h1,h2⟩,h3⟩ := hE.tail
  simp only [mfind] at hm
  cases hs : kSame (.agg xs) k' with
  | none => rw [hs] at hm; cases hm
  | some q =>
   obtain ⟨ys,rfl,hq⟩ : ∃ ys,k' = .agg ys ∧ kSames xs ys = some q := by
    cases k' <;> first | exact ⟨_,rfl,hs⟩ | (simp [kSame,kSame1] at hs)
   have hE2 : (Op.equal t u e'.key).run P w = .ok q w := equal_struct ht hst hf h h1 hq 9998 w
   rw [hs] at hm
   cases q with
   | true =>
    simp only [Option.some.injEq] at hm
    subst hm
    exact ⟨some (i,e'.val),by simp [Instr.findAsking,hE2],rfl,h2⟩
   | false =>
    obtain ⟨r',g1,g2⟩ := findAsking_rel ht hst hf h w es es' (i + 1) r h3 hm
    exact ⟨r',by simp [Instr.findAsking,hE2,g1],g2⟩
theorem findKey_ask {t : TypeId} {fs : Array Field} (hu : P.underlying t = some (.struct fs)) (x : Value) (es : List MapEntry) (w : World) : (Instr.findKey t x es).run P w = (Instr.findAsking t x es).run P w := by
 cases es with
 | nil => simp [Instr.findKey,run_underlying hu,Instr.findNow,Instr.findAsking]
 | cons e es => simp [Instr.findKey,run_underlying hu,Instr.findNow,Instr.sameNow]
theorem findKey_rel {t : TypeId} {k : HV} {u : Value} (hk : KeyOk P t k) (h : VRel β k u) {es : List (HV × HV)} {es' : Array MapEntry} {r : Option (Nat × HV)} (hE : EntRel β es es') (hf : mfind k es 0 = some r) (w : World) :
  ∃ r',(Instr.findKey t u es'.toList).run P w = .ok r' w ∧ FRel β r r' := by
 rcases hk with ⟨d,h1,h2⟩ | ⟨fs,xs,rfl,hu,hst,hfo⟩
 ·obtain ⟨r',g1,g2⟩ := findNow_rel h2 h es es'.toList 0 r (by simpa using hE) hf
  exact ⟨r',by simp [Instr.findKey,underlying,h1,g1],g2⟩
 ·rw [findKey_ask hu]
  exact findAsking_rel hu hst hfo h w es es'.toList 0 r (by simpa using hE) hf
theorem checkKey_pk {t : TypeId} {k : HV} {u : Value} {q : Bool} (hk : PK P t k) (h : VRel β k u) (w : World) (n : Nat) : (Instr.checkKey q (n + 1) t u).run P w = .ok () w := by
 obtain ⟨d,h1,h2⟩ := hk
 cases d <;> first | (cases k <;> exact h2.elim) | (cases k <;> first | exact h2.elim | (cases h; simp [Instr.checkKey,underlying,h1]))
theorem checkFlds {fs : List Field} {n : Nat} {xs : List HV} (hf : FOk P fs n xs) : ∀ {us : Array Value} {q : Bool} (d : Nat) (w : World),(∀ i x,xs[i]? = some x → ∃ v,us[n + i]? = some v ∧ VRel β x v) →
  (forIn fs PUnit.unit (fun f _ => if f.name ≠ "_" then do
     Instr.checkKey q (d + 1) f.type (← part f.type us f.offset)
     pure (ForInStep.yield PUnit.unit)
    else pure (ForInStep.yield PUnit.unit)) : Sem PUnit).run P w = .ok PUnit.unit w := by
 induction hf with
 | nil => intro us q d w hx; simp
 | @cons f fs n x xs h1 h2 h3 h4 ih =>
  intro us q d w hx
  obtain ⟨v,v1,v2⟩ := hx 0 x rfl
  simp only [Nat.add_zero] at v1
  have p1 := h3.part v1 w
  rw [← h2] at p1
  have p2 := checkKey_pk (q := q) h3 v2 w d
  have r1 := ih (us := us) (q := q) d w (fun i x' hi => by
   have := hx (i + 1) x' (by simpa using hi)
   rwa [show n + (i + 1) = n + 1 + i by omega] at this)
  simp only [List.forIn_cons,Sem.run_bind,h1,ne_eq,not_false_eq_true,if_true,Result.andThen_ok,p1,p2,Sem.run_pure]
  exact r1
theorem checkKey_ok {t : TypeId} {k : HV} {u : Value} {q : Bool} (hk : KeyOk P t k) (h : VRel β k u) (w : World) : (Instr.checkKey q 10000 t u).run P w = .ok () w := by
 rcases hk with hk | ⟨fs,xs,rfl,hu,hst,hfo⟩
 ·exact checkKey_pk hk h w 9999
 ·cases h with
  | @agg _ cs a1 a2 =>
   rw [show (10000 : Nat) = 9998 + 1 + 1 from rfl,Instr.checkKey]
   simp only [Sem.run_bind,run_underlying hu,Result.andThen_ok]
   rw [← Array.forIn_toList]
   have := checkFlds (q := q) hfo 9998 w (us := cs) (fun i x hi => by
    have hl : i < cs.size := by rw [← a1]; exact (List.getElem?_eq_some_iff.1 hi).1
    exact ⟨cs[i],by simp [hl],a2 i x _ hi (by simp [hl])⟩)
   have e : (PUnit.unit : Unit) = () := rfl
   erw [this]
   rfl
theorem ok_makeMap_e {t : TypeId} {S' : HS} (ho : o.op = .makeMap t none) (hq : S' = S.new (.map [])) : OpOk P base W0 o a S (.map (some S.next)) S' := by
 subst hq
 refine ⟨by rw [ho]; simp,fun β w a' h1 h2 => ?_⟩
 obtain ⟨β',g1,g2,g3⟩ := h1.alloc (.map #[] 0) (.map []) (.obj w.heap.size) rfl (fun β' hle hb => ⟨w.heap.size,#[],0,hb,h1.size,by simp,⟨rfl,fun i k v e h => by simp at h⟩⟩)
 exact ⟨β',_,.map (some w.heap.size),g1,.inl (by simp [execOp,ho,Instr.makeMap]),.map g2,g3⟩
theorem HS.mp_rel {w : World} (h : Rel base W0 β S w) {r : Option Nat} {es : List (HV × HV)} (hm : S.mp r = some es) {x : Value} (hx : VRel β (.map r) x) :
  (r = none ∧ es = [] ∧ x = .map none) ∨ ∃ id b es' clk,r = some id ∧ S.heap id = .map es ∧ x = .map (some b) ∧ β id = .obj b ∧ base ≤ b ∧ w.heap[b]? = some (.map es' clk) ∧ EntRel β es es' := by
 unfold HS.mp at hm
 cases hx with
 | mapNil => simp only [Option.some.injEq] at hm; exact .inl ⟨rfl,hm.symm,rfl⟩
 | @map id b hb =>
  simp only at hm
  split at hm
  ·rename_i es0 hS
   cases hm
   have ho := h.objs id
   rw [hS] at ho
   obtain ⟨b1,es',clk,q1,q2,q3,q4⟩ := ho
   rw [hb] at q1
   cases q1
   exact .inr ⟨id,b,es',clk,rfl,hS,rfl,hb,q2,q3,q4⟩
  ·cases hm
theorem look_run {t kt et : TypeId} {zv : Value} {z k : HV} {r : Option Nat} {u : Option HV} {w : World} {x kv : Value} (h : Rel base W0 β S w) (ht : P.underlying t = some (.map kt et)) (hz : (P.info? et).map (·.zero) = some (some zv)) (hzr : VRel β z zv) (hk : KeyOk P kt k) (hx : VRel β (.map r) x) (hy : VRel β k kv)
  (hv : S.look r k = some u) (commaOk : Bool) : ∃ v',(Instr.lookup t x kv commaOk).run P w = .ok (if commaOk then .tuple #[v',.bool u.isSome] else v') w ∧ VRel β (u.getD z) v' := by
 obtain ⟨i,hi,hi2⟩ : ∃ i,P.info? et = some i ∧ i.zero = some zv := by
  cases hc : P.info? et with
  | none => rw [hc] at hz; cases hz
  | some i => rw [hc] at hz; exact ⟨i,rfl,by simpa using hz⟩
 unfold HS.look at hv
 cases hm : S.mp r with
 | none => rw [hm] at hv; cases hv
 | some es =>
  rw [hm,Option.bind_some] at hv
  cases hf : mfind k es 0 with
  | none => rw [hf] at hv; cases hv
  | some fr =>
   rw [hf] at hv
   simp only [Option.map_some,Option.some.injEq] at hv
   rcases HS.mp_rel h hm hx with ⟨rfl,rfl,rfl⟩ | ⟨id,b,es',clk,rfl,hS,rfl,hb,hbase,hw,hE⟩
   ·simp only [mfind,Option.some.injEq] at hf
    subst hf
    simp only [Option.map_none] at hv
    subst hv
    refine ⟨zv,?_,hzr⟩
    have hc := checkKey_ok (q := true) hk hy w
    obtain ⟨d,k1⟩ : ∃ d,P.underlying kt = some d := by
     rcases hk with ⟨d,k1,_⟩ | ⟨fs,_,_,k1,_⟩
     ·exact ⟨d,k1⟩
     ·exact ⟨_,k1⟩
    cases commaOk <;> simp [Instr.lookup,underlying,ht,hc,Instr.findKey,Instr.findNow,k1,zeroValue,typeInfo,hi,hi2]
   ·obtain ⟨r',g1,g2⟩ := findKey_rel hk hy hE hf w
    have hc := checkKey_ok (q := es'.isEmpty) hk hy w
    cases fr with
    | none =>
     cases r' with
     | some y => exact g2.elim
     | none =>
      simp only [Option.map_none] at hv
      subst hv
      refine ⟨zv,?_,hzr⟩
      cases commaOk <;> simp [Instr.lookup,underlying,ht,getObj,Sem.run,hw,hc,g1,zeroValue,typeInfo,hi,hi2]
    | some y =>
     obtain ⟨j,v⟩ := y
     cases r' with
     | none => exact g2.elim
     | some y' =>
      obtain ⟨j',v'⟩ := y'
      simp only [Option.map_some] at hv
      subst hv
      refine ⟨v',?_,g2.2⟩
      cases commaOk <;> simp [Instr.lookup,underlying,ht,getObj,Sem.run,hw,hc,g1]
theorem ok_lookup {t kt et : TypeId} {zv : Value} {z k w : HV} {x y : Operand} {r : Option Nat} {u : Option HV} (ho : o.op = .lookup t x y false) (ht : P.underlying t = some (.map kt et)) (hz : (P.info? et).map (·.zero) = some (some zv)) (hzr : ∀ β,VRel β z zv) (hk : KeyOk P kt k) (hx : Ev a x (.map r)) (hy : Ev a y k)
  (hv : S.look r k = some u) (hw : u.getD z = w) : OpOk P base W0 o a S w S := by
 subst hw
 refine .pure (by rw [ho]; simp) fun β w a' h1 h2 => ?_
 obtain ⟨v',g1,g2⟩ := look_run h1 ht hz (hzr β) hk (hx.rel h2) (hy.rel h2) hv false
 exact ⟨v',by simp only [execOp,ho]; simp [g1],g2⟩
theorem ok_lookup_ok {t kt et : TypeId} {zv : Value} {z k w : HV} {x y : Operand} {r : Option Nat} {u : Option HV} (ho : o.op = .lookup t x y true) (ht : P.underlying t = some (.map kt et)) (hz : (P.info? et).map (·.zero) = some (some zv)) (hzr : ∀ β,VRel β z zv) (hk : KeyOk P kt k) (hx : Ev a x (.map r)) (hy : Ev a y k)
  (hv : S.look r k = some u) (hw : u.getD z = w) : OpOk P base W0 o a S (.tup [w,.bool u.isSome]) S := by
 subst hw
 refine .pure (by rw [ho]; simp) fun β w a' h1 h2 => ?_
 obtain ⟨v',g1,g2⟩ := look_run h1 ht hz (hzr β) hk (hx.rel h2) (hy.rel h2) hv true
 exact ⟨_,by simp only [execOp,ho]; simp [g1],VRels.tup (VRels.cons g2 (VRels.cons (.bool _) (VRels.nil β)))⟩
theorem mfind_at {k : HV} : ∀ {es : List (HV × HV)} {i0 j : Nat} {v : HV},mfind k es i0 = some (some (j,v)) → i0 ≤ j ∧ ∃ k',es[j - i0]? = some (k',v) ∧ kSame k k' = some true
 | [],_,_,_,h => by simp [mfind] at h
 | (k',v') :: es,i0,j,v,h => by
  simp only [mfind] at h
  cases hs : kSame k k' with
  | none => rw [hs] at h; cases h
  | some q =>
   rw [hs] at h
   cases q with
   | true =>
    simp only [Option.some.injEq,Prod.mk.injEq] at h
    obtain ⟨rfl,rfl⟩ := h
    exact ⟨Nat.le_refl _,k',by simp,hs⟩
   | false =>
    obtain ⟨g1,k2,g2,g3⟩ := mfind_at h
    refine ⟨by omega,k2,?_,g3⟩
    rw [show j - i0 = (j - (i0 + 1)) + 1 by omega]
    simpa using g2
theorem bits1 {k k' : HV} {u u' : Value} (h : VRel β k u) (h' : VRel β k' u') (hs : kSame1 k k' = some true) (n : Nat) : Instr.sameBits n u' u = true := by
 cases h with
 | int ik m =>
  cases h' <;> first | (simp only [kSame1] at hs; cases hs; done) | skip
  rename_i ik2 m2
  simp only [kSame1] at hs
  split at hs
  ·rename_i e; subst e
   simp only [Option.some.injEq,beq_iff_eq] at hs
   subst hs
   cases n <;> simp [Instr.sameBits]
  ·cases hs
 | str s =>
  cases h' <;> first | (simp only [kSame1] at hs; cases hs; done) | skip
  rename_i s2
  simp only [kSame1,Option.some.injEq,beq_iff_eq] at hs
  subst hs
  cases n <;> simp [Instr.sameBits,beq_mk]
 | bool b =>
  cases h' <;> first | (simp only [kSame1] at hs; cases hs; done) | skip
  simp only [kSame1,Option.some.injEq,beq_iff_eq] at hs
  subst hs
  cases n <;> simp [Instr.sameBits]
 | _ => simp [kSame1] at hs
theorem bitsAll : ∀ {xs ys : List HV} {us us' : List Value} (n : Nat),VRels β xs us.toArray → VRels β ys us'.toArray → kSames xs ys = some true → us'.length = us.length ∧ (us'.zip us).all (fun p => Instr.sameBits n p.1 p.2) = true
 | [],[],us,us',n,h,h',hs => by
  have e1 : us = [] := by have := h.1; simp at this; exact List.length_eq_zero_iff.1 this.symm
  have e2 : us' = [] := by have := h'.1; simp at this; exact List.length_eq_zero_iff.1 this.symm
  subst e1; subst e2; exact ⟨rfl,rfl⟩
 | [],_ :: _,_,_,_,_,_,hs => by cases hs
 | _ :: _,[],_,_,_,_,_,hs => by cases hs
 | x :: xs,y :: ys,[],us',n,h,h',hs => by have := h.1; simp at this
 | x :: xs,y :: ys,u :: us,[],n,h,h',hs => by have := h'.1; simp at this
 | x :: xs,y :: ys,u :: us,u' :: us',n,h,h',hs => by
  simp only [kSames] at hs
  cases hk : kSame1 x y with
  | none => rw [hk] at hs; cases hs
  | some e =>
   rw [hk] at hs
   cases e with
   | false => cases hs
   | true =>
    have t1 : VRels β xs us.toArray := ⟨by have := h.1; simp at this ⊢; exact this,fun i v x h1 h2 => h.2 (i + 1) v x (by simpa using h1) (by simpa using h2)⟩
    have t2 : VRels β ys us'.toArray := ⟨by have := h'.1; simp at this ⊢; exact this,fun i v x h1 h2 => h'.2 (i + 1) v x (by simpa using h1) (by simpa using h2)⟩
    obtain ⟨g1,g2⟩ := bitsAll n t1 t2 hs
    refine ⟨by simp [g1],?_⟩
    rw [List.zip_cons_cons,List.all_cons,g2,Bool.and_true]
    exact bits1 (h.2 0 x u rfl rfl) (h'.2 0 y u' rfl rfl) hk n
theorem same_bits {t : TypeId} {k k' : HV} {u u' : Value} (hk : KeyOk P t k) (h : VRel β k u) (h' : VRel β k' u') (hs : kSame k k' = some true) (w : World) : (Instr.keyThatStays u' u).run P w = .ok u w := by
 have hb : Instr.sameBits 10000 u' u = true := by
  rcases hk with ⟨d,_,h2⟩ | ⟨fs,xs,rfl,_⟩
  ·exact bits1 h h' (by cases k <;> first | (cases d <;> exact h2.elim) | exact hs) _
  ·obtain ⟨ys,rfl,hq⟩ : ∃ ys,k' = .agg ys ∧ kSames xs ys = some true := by
    cases k' <;> first | exact ⟨_,rfl,hs⟩ | (simp [kSame,kSame1] at hs)
   cases h with
   | @agg _ cs a1 a2 =>
    cases h' with
    | @agg _ cs' b1 b2 =>
     obtain ⟨g1,g2⟩ := bitsAll 9999 (us := cs.toList) (us' := cs'.toList) ⟨a1,a2⟩ ⟨b1,b2⟩ hq
     show Instr.sameBits (9999 + 1) _ _ = true
     simp only [Instr.sameBits,Bool.and_eq_true,beq_iff_eq]
     exact ⟨by simpa using g1,g2⟩
 simp [Instr.keyThatStays,hb]
theorem EntRel.set {es : List (HV × HV)} {es' : Array MapEntry} (h : EntRel β es es') {k v : HV} {x : MapEntry → MapEntry} {kv vv : Value} (h1 : VRel β k kv) (h2 : VRel β v vv) (hx : ∀ e,(x e).key = kv ∧ (x e).val = vv) (i : Nat) : EntRel β (es.set i (k,v)) (es'.modify i x) := by
 refine ⟨by simp [h.1],fun j k2 v2 e q1 q2 => ?_⟩
 rw [List.getElem?_set] at q1
 rw [Array.getElem?_modify] at q2
 by_cases hij : i = j
 ·subst hij
  rw [if_pos rfl] at q1
  split at q1
  ·cases q1
   rw [if_pos rfl] at q2
   cases he : es'[i]? with
   | none => rw [he] at q2; cases q2
   | some e0 =>
    rw [he] at q2
    simp only [Option.map_some,Option.some.injEq] at q2
    subst q2
    rw [(hx e0).1,(hx e0).2]
    exact ⟨h1,h2⟩
  ·cases q1
 ·rw [if_neg hij] at q1 q2
  exact h.2 j k2 v2 e q1 q2
theorem EntRel.push {es : List (HV × HV)} {es' : Array MapEntry} (h : EntRel β es es') {k v : HV} {e : MapEntry} (h1 : VRel β k e.key) (h2 : VRel β v e.val) : EntRel β (es ++ [(k,v)]) (es'.push e) := by
 refine ⟨by simp [h.1],fun j k2 v2 x q1 q2 => ?_⟩
 rw [List.getElem?_append] at q1
 rw [Array.getElem?_push] at q2
 split at q1
 ·rename_i hlt
  rw [if_neg (by have := h.1; omega)] at q2
  exact h.2 j k2 v2 x q1 q2
 ·rename_i hge
  have hl : j - es.length < 1 := by
   have := (List.getElem?_eq_some_iff.1 q1).1
   simpa using this
  have hj : j = es'.size := by have := h.1; omega
  rw [if_pos hj] at q2
  cases q2
  rw [show j - es.length = 0 by omega] at q1
  simp only [List.getElem?_cons_zero,Option.some.injEq,Prod.mk.injEq] at q1
  obtain ⟨rfl,rfl⟩ := q1
  exact ⟨h1,h2⟩
theorem EntRel.erase {es : List (HV × HV)} {es' : Array MapEntry} (h : EntRel β es es') (i : Nat) : EntRel β (es.eraseIdx i) (es'.eraseIdxIfInBounds i) := by
 have e : (es'.eraseIdxIfInBounds i).toList = es'.toList.eraseIdx i := by
  unfold Array.eraseIdxIfInBounds
  split
  ·simp
  ·rename_i hge
   rw [List.eraseIdx_of_length_le (by simpa using hge)]
 refine ⟨?_,fun j k v x q1 q2 => ?_⟩
 ·rw [← Array.length_toList,e,List.length_eraseIdx,List.length_eraseIdx,h.1,Array.length_toList]
 ·rw [← Array.getElem?_toList,e,List.getElem?_eraseIdx] at q2
  rw [List.getElem?_eraseIdx] at q1
  split at q1
  ·rename_i hlt; rw [if_pos hlt] at q2; exact h.2 j k v x q1 (by simpa using q2)
  ·rename_i hlt; rw [if_neg hlt] at q2; exact h.2 _ k v x q1 (by simpa using q2)
theorem set_there {w : World} {b : Nat} {x : Obj} (h : w.heap[b]? = some x) (o' : Obj) : (w.heap.setIfInBounds b o')[b]? = some o' := by
 rw [Array.getElem?_setIfInBounds,if_pos rfl,if_pos (Array.getElem?_eq_some_iff.1 h).1]
theorem ok_mapUpdate {t kt et : TypeId} {k v : HV} {x y u : Operand} {r : Option Nat} {S' : HS} (ho : o.op = .mapUpdate t x y u) (ht : P.underlying t = some (.map kt et)) (hk : KeyOk P kt k) (hx : Ev a x (.map r)) (hy : Ev a y k) (hu : Ev a u v) (hv : S.mput r k v = some S') : OpOk P base W0 o a S (.tup []) S' := by
 refine ⟨by rw [ho]; simp,fun β w a' h1 h2 => ?_⟩
 have hxr := hx.rel h2
 have hyr := hy.rel h2
 have hur := hu.rel h2
 generalize hxv : a'.eval x = xv at hxr
 generalize hyv : a'.eval y = yv at hyr
 generalize huv : a'.eval u = uv at hur
 cases r with
 | none => cases hv
 | some id =>
  simp only [HS.mput] at hv
  split at hv
  case h_2 => cases hv
  rename_i es hS
  cases hf : mfind k es 0 with
  | none => rw [hf] at hv; cases hv
  | some fr =>
   rw [hf] at hv
   simp only [Option.map_some,Option.some.injEq] at hv
   have hm : S.mp (some id) = some es := by simp [HS.mp,hS]
   rcases HS.mp_rel h1 hm hxr with ⟨h0,_⟩ | ⟨id',b,es',clk,h0,hS',hxe,hb,hbase,hw,hE⟩
   ·cases h0
   ·cases h0
    subst hxe
    obtain ⟨r',g1,g2⟩ := findKey_rel hk hyr hE hf w
    have hc := checkKey_ok (q := false) hk hyr w
    cases fr with
    | none =>
     cases r' with
     | some y => exact g2.elim
     | none =>
      subst hv
      have hR := h1.setObj (id := id) (b := b) (o := .map (es ++ [(k,v)])) (o' := .map (es'.push { key := yv,val := uv,born := clk }) (clk + 1)) (by rw [hb]; rfl) hbase (by rw [hS]; rfl) (by rw [hS]; rfl)
       ⟨b,es'.push { key := yv,val := uv,born := clk },clk + 1,hb,hbase,set_there hw _,hE.push (e := { key := yv,val := uv,born := clk }) hyr hur⟩
      refine ⟨β,_,undef,.refl β,.inr ⟨?_,rfl⟩,VRel.undef β,hR⟩
      simp [execOp,ho,hxv,hyv,huv,Instr.mapUpdate,underlying,ht,getObj,setObj,Sem.run,hw,hc,g1,undef]
    | some q =>
     obtain ⟨j,v0⟩ := q
     cases r' with
     | none => exact g2.elim
     | some y' =>
      obtain ⟨j',v'⟩ := y'
      obtain ⟨rfl,g3⟩ := g2
      subst hv
      obtain ⟨_,k',m1,m2⟩ := mfind_at hf
      rw [Nat.sub_zero] at m1
      have hjl : j < es'.size := by rw [← hE.1]; exact (List.getElem?_eq_some_iff.1 m1).1
      have hjk := hE.2 j k' v0 es'[j] m1 (Array.getElem?_eq_getElem hjl)
      have hst := same_bits hk hyr hjk.1 m2 w
      have hR := h1.setObj (id := id) (b := b) (o := .map (es.set j (k,v))) (o' := .map (es'.modify j fun e => { e with key := yv,val := uv }) clk) (by rw [hb]; rfl) hbase (by rw [hS]; rfl) (by rw [hS]; rfl)
       ⟨b,es'.modify j fun e => { e with key := yv,val := uv },clk,hb,hbase,set_there hw _,hE.set (x := fun e => { e with key := yv,val := uv }) hyr hur (fun e => ⟨rfl,rfl⟩) j⟩
      refine ⟨β,_,undef,.refl β,.inr ⟨?_,rfl⟩,VRel.undef β,hR⟩
      simp [execOp,ho,hxv,hyv,huv,Instr.mapUpdate,underlying,ht,getObj,setObj,Sem.run,hw,hc,g1,undef,hjl,hst]
theorem ok_delete {t kt et : TypeId} {k : HV} {x y : Operand} {tys : Array TypeId} {r : Option Nat} {S' : HS} (ho : o.op = .call ⟨.builtin .delete,#[x,y],tys⟩) (h0 : tys[0]? = some t) (ht : P.underlying t = some (.map kt et)) (hk : KeyOk P kt k) (hx : Ev a x (.map r)) (hy : Ev a y k) (hv : S.mdel r k = some S') : OpOk P base W0 o a S (.tup []) S' := by
 refine ⟨by rw [ho]; simp,fun β w a' h1 h2 => ?_⟩
 have hxr := hx.rel h2
 have hyr := hy.rel h2
 generalize hxv : a'.eval x = xv at hxr
 generalize hyv : a'.eval y = yv at hyr
 cases r with
 | none =>
  simp only [HS.mdel,Option.some.injEq] at hv
  subst hv
  cases hxr
  have hc := checkKey_ok (q := true) hk hyr w
  exact ⟨β,w,undef,.refl β,.inl (by simp [execOp,ho,resolve,invoke,builtin,hxv,hyv,Builtin.delete_,h0,underlying,ht,hc,undef]),VRel.undef β,h1⟩
 | some id =>
  simp only [HS.mdel] at hv
  split at hv
  case h_2 => cases hv
  rename_i es hS
  cases hf : mfind k es 0 with
  | none => rw [hf] at hv; cases hv
  | some fr =>
   rw [hf] at hv
   simp only [Option.map_some,Option.some.injEq] at hv
   have hm : S.mp (some id) = some es := by simp [HS.mp,hS]
   rcases HS.mp_rel h1 hm hxr with ⟨h0',_⟩ | ⟨id',b,es',clk,h0',hS',hxe,hb,hbase,hw,hE⟩
   ·cases h0'
   ·cases h0'
    subst hxe
    obtain ⟨r',g1,g2⟩ := findKey_rel hk hyr hE hf w
    have hc := checkKey_ok (q := es'.isEmpty) hk hyr w
    cases fr with
    | none =>
     cases r' with
     | some y => exact g2.elim
     | none =>
      subst hv
      have hR := h1.setObj (id := id) (b := b) (o := .map es) (o' := .map es' clk) (by rw [hb]; rfl) hbase (by rw [hS]; rfl) (by rw [hS]; rfl)
       ⟨b,es',clk,hb,hbase,set_there hw _,hE⟩
      refine ⟨β,_,undef,.refl β,.inl ?_,VRel.undef β,hR⟩
      simp [execOp,ho,resolve,invoke,builtin,hxv,hyv,Builtin.delete_,h0,underlying,ht,getObj,setObj,Sem.run,hw,hc,g1,undef]
    | some q =>
     obtain ⟨j,v0⟩ := q
     cases r' with
     | none => exact g2.elim
     | some y' =>
      obtain ⟨j',v'⟩ := y'
      obtain ⟨rfl,g3⟩ := g2
      subst hv
      have hR := h1.setObj (id := id) (b := b) (o := .map (es.eraseIdx j)) (o' := .map (es'.eraseIdxIfInBounds j) clk) (by rw [hb]; rfl) hbase (by rw [hS]; rfl) (by rw [hS]; rfl)
       ⟨b,es'.eraseIdxIfInBounds j,clk,hb,hbase,set_there hw _,hE.erase j⟩
      refine ⟨β,_,undef,.refl β,.inl ?_,VRel.undef β,hR⟩
      simp [execOp,ho,resolve,invoke,builtin,hxv,hyv,Builtin.delete_,h0,underlying,ht,getObj,setObj,Sem.run,hw,hc,g1,undef]
end
end Go.Proofs.YtfningkbcfhheaaGreatDoor.HL
namespace Go.Proofs.YtfningkbcfhheaaGreatDoor.HL
set_option linter.unusedVariables false
abbrev τ : HV := .tup []
def kA : Code → Code
 | .seq x _ => x
 | .cond _ x _ => x
 | .block _ x => x
 | .loop x => x
 | .scope x => x
 | .rangeFunc _ _ x _ => x
 | _ => .skip
def kB : Code → Code
 | .seq _ x => x
 | .cond _ _ x => x
 | .rangeFunc _ _ _ x => x
 | _ => .skip
def kR : Code → Array Oper
 | .region _ x _ => x
 | _ => #[]
theorem w0 {a : HAct} {v : HV} : a.put none v = a := rfl
theorem w1 {l : List HV} {ds : List Nat} {d : Tmp} {v : HV} : (⟨l,ds⟩ : HAct).put (some d) v = ⟨l.set d v,ds⟩ := rfl
theorem w2 {a b : HV} {l : List HV} : (a :: l).set 0 b = b :: l := rfl
theorem w3 {a b : HV} {l : List HV} {n : Nat} : (a :: l).set (n + 1) b = a :: l.set n b := rfl
section
variable {P : Program} {base : Nat} {W0 : Env} {β0 : Bt} {f : FuncId} {ro : Option Nat} {k : List Item} {a : HAct} {S S' : HS} {R : HV → HS → Prop} {ops : Array Oper} {i j : Nat} {rest : List Nat} {op : Op} {v : HV} {b c : Bool} {cls : List Nat}
theorem qS (d : Tmp) (ho : OpAt ops i (some d) op none) (hop : ∀ {o : Oper},o.op = op → OpOk P base W0 o a S v S') (h : HRun P base W0 β0 f ro (.inRegion ops rest :: k) (a.put (some d) v) S' R) : HRun P base W0 β0 f ro (.inRegion ops (i :: rest) :: k) a S R := q_op ho (fun _ => hop) h
theorem qN (ho : OpAt ops i none op none) (hop : ∀ {o : Oper},o.op = op → OpOk P base W0 o a S v S') (h : HRun P base W0 β0 f ro (.inRegion ops rest :: k) a S' R) : HRun P base W0 β0 f ro (.inRegion ops (i :: rest) :: k) a S R := q_op ho (fun _ => hop) h
theorem qG (t d : Tmp) (ho : OpAt ops i (some d) op (some (j,b))) (hc : c = b) (hop : ∀ {o : Oper},o.op = op → OpOk P base W0 o a S v S') (h : HRun P base W0 β0 f ro (.inRegion ops rest :: k) (a.put (some d) v) S' R) (hj : GuardAt ops j t := by rfl) (hb : a.tmps[t]? = some (.bool c) := by rfl) :
  HRun P base W0 β0 f ro (.inRegion ops (i :: rest) :: k) a S R := q_op_g ho hj hb hc (fun _ => hop) h
abbrev NoSel (op : Op) : Prop := ∀ cs b,op ≠ .select cs b
variable {past : List (Nat × HS)} {pend : List (Nat × (HS → Prop))}
theorem yf (d : Tmp) (ts : List Tmp) (ho : OpAt ops i (some d) op none) (hop : ∀ {o : Oper} {T : HS},o.op = op → OpOk P base W0 o (a.mask ts) T v T) (h : DrawGo2 P base W0 β0 f ro k ops cls (i + 1) (a.put (some d) v) S R)
  (hs : NoSel op := by intro _ _ h; cases h) (hl : ((ops[i]?).map (fun o => o.looksAt ops)) = some ts := by kernel_rfl) (hc : cls.getD i 0 = 0 := by rfl) (h3 : cls.all (· != 3) = true := by decide) : DrawGo2 P base W0 β0 f ro k ops cls i a S R := x_go (f_op ho hs hl (fun _ _ => hop)) hc h h3
theorem yr (d : Tmp) (ts : List Tmp) (ho : OpAt ops i (some d) op none) (hop : ∀ {o : Oper},o.op = op → OpOk P base W0 o (a.mask ts) S v S) (h : DrawGo2 P base W0 β0 f ro k ops cls (i + 1) (a.put (some d) v) S R)
  (hs : NoSel op := by intro _ _ h; cases h) (hl : ((ops[i]?).map (fun o => o.looksAt ops)) = some ts := by kernel_rfl) (hc : cls.getD i 0 = 1 := by rfl) (h3 : cls.all (· != 3) = true := by decide) : DrawGo2 P base W0 β0 f ro k ops cls i a S R := x_go (r_op ho hs hl (fun _ => hop)) hc h h3
theorem ye (d : Tmp) (ts : List Tmp) (ho : OpAt ops i (some d) op none) (hop : ∀ {o : Oper},o.op = op → OpOk P base W0 o (a.mask ts) S v S') (h : DrawGo2 P base W0 β0 f ro k ops cls (i + 1) (a.put (some d) v) S' R)
  (hs : NoSel op := by intro _ _ h; cases h) (hl : ((ops[i]?).map (fun o => o.looksAt ops)) = some ts := by kernel_rfl) (hc : cls.getD i 0 = 2 := by rfl) (h3 : cls.all (· != 3) = true := by decide) : DrawGo2 P base W0 β0 f ro k ops cls i a S R := x_go (e_op ho hs hl (fun _ => hop)) hc h h3
section
variable {P : Program} {base : Nat} {W0 : Env} {β0 : Bt} {f : FuncId} {ro : Option Nat} {k : List Item} {a : HAct} {S S' : HS} {o : Oper}
variable {R : HV → HS → Prop}
theorem rE {ops : Array Oper} (h : HRun P base W0 β0 f ro k a S R) : HRun P base W0 β0 f ro (.inRegion ops [] :: k) a S R := hr_region_end h
theorem qQ {c x y : Code} (hc : c = .seq x y) (h : HRun P base W0 β0 f ro (.code x :: .code y :: k) a S R) : HRun P base W0 β0 f ro (.code c :: k) a S R := q_seq hc h
theorem qR {id : Nat} {c : Code} {ops : Array Oper} {is : List Nat} (hc : c = .region id ops false) (hi : List.range ops.size = is) (h : HRun P base W0 β0 f ro (.inRegion ops is :: k) a S R) : HRun P base W0 β0 f ro (.code c :: k) a S R := q_region hc hi h
theorem oM {t : Tmp} {v : HV} (ho : o.op = .move (.tmp t)) (h : a.tmps[t]? = some v) : OpOk P base W0 o a S v S := ok_move ho (.tmp h)
theorem oA {t : Tmp} {v : HV} (ho : o.op = .assign (.tmp t)) (h : a.tmps[t]? = some v) : OpOk P base W0 o a S v S := ok_assign ho (.tmp h)
theorem oB {op : BinOp} {t ty : TypeId} {x y : Tmp} {k : IntKind} {m n : Int} {v : HV} (ho : o.op = .binOp op t (.tmp x) (.tmp y) ty) (hx : a.tmps[x]? = some (.int k m)) (hy : a.tmps[y]? = some (.int k n)) (hv : ibin op k m n = some v) : OpOk P base W0 o a S v S := ok_ibin ho (.tmp hx) (.tmp hy) hv
theorem oC {op : BinOp} {t ty : TypeId} {x : Tmp} {k : IntKind} {m n : Int} {v : HV} (ho : o.op = .binOp op t (.tmp x) (.const (.int k n)) ty) (hx : a.tmps[x]? = some (.int k m)) (hv : ibin op k m n = some v) : OpOk P base W0 o a S v S := ok_ibin ho (.tmp hx) (.int _ _) hv
theorem oF {s : TypeId} {x : Tmp} {f off u n : Nat} {e : Option HA} {ad : HA} (ho : o.op = .fieldAddr s (.tmp x) f) (hfi : fieldInfo P s f = some (off,u,n)) (hn : n ≠ 0) (hx : a.tmps[x]? = some (.ptr e)) (he : e = some ad) : OpOk P base W0 o a S (.ptr (some (ad.fld off))) S := ok_fieldAddr_s ho hfi hn (.tmp hx) he
theorem oN {x : Tmp} {e : Option HA} {q : HA} (ho : o.op = .nilCheck (.tmp x)) (hx : a.tmps[x]? = some (.ptr e)) (he : e = some q) : OpOk P base W0 o a S (.ptr (some q)) S := ok_nilCheck_p ho (.tmp hx) he
theorem oL {t : TypeId} {x : Tmp} {e : Option HA} {ad : HA} {v : HV} (ho : o.op = .load t (.tmp x)) (ht : Scalar P t) (hx : a.tmps[x]? = some (.ptr e)) (he : e = some ad) (hv : S.get ad = some v) : OpOk P base W0 o a S v S := ok_load_s ho ht (.tmp hx) he hv
theorem oX {t e : TypeId} {x y : Tmp} {s : Sl} {k : IntKind} {i : Int} {z : Nat} {ad : HA} (ho : o.op = .indexAddr t (.tmp x) (.tmp y)) (ht : P.underlying t = some (.slice e)) (hz : ∃ q,P.info? e = some q ∧ q.size = z) (hx : a.tmps[x]? = some s.hv) (hy : a.tmps[y]? = some (.int k i)) (hv : S.idx s i z = some ad) :
  OpOk P base W0 o a S (.ptr (some ad)) S := ok_indexAddr ho ht hz (.tmp hx) (.tmp hy) hv
end
end
end Go.Proofs.YtfningkbcfhheaaGreatDoor.HL
