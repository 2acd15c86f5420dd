/- The layer HL, part 27: what strings.Builder needs: typed appends, unsafe.String, pointers compared; and contracts of others. The layer HI, part 1: a heap as a tree, a frame as a list, which the kernel reckons with. The layer HI, part 2: what operations do, as functions; each with its proof. The layer HI, part 10: operations that the layer HL lacked. The layer HI, part 3: operations upon values. The layer HI, part 4: operations upon structs, slices, maps; the builtin functions. The layer HI, part 5: the builtin functions; any operation. The layer HI, part 6: an evaluator of functions; what it answers, a call answers. -/
import Derived.Test.YtfningkbcfhheaaGreatDoorPart7
import Derived.Lib.UnsafeStr
import Derived.Lib.Builder
set_option linter.unusedVariables false
set_option linter.unusedSimpArgs false
namespace Go.Proofs.YtfningkbcfhheaaGreatDoor.HL
set_option linter.unusedVariables false
open Go.RowKit (Below)
section
variable {P : Program} {base : Nat} {W0 : Env} {a : HAct} {S S' : HS} {o : Oper} {β : Bt} {w : World}
theorem ok_append_strT {t u e : Nat} {zr : List HV} (he : ElemAt P t e 1 zr) {x y : Operand} {tys : Array TypeId} (ho : o.op = .call ⟨.builtin .append,#[x,y],tys⟩) (h0 : tys[0]? = some t) (h1 : tys[1]? = some u) (hu : P.underlying u = some .string)
  {s s' : Sl} {txt : List UInt8} (hx : Ev a x s.hv) (hy : Ev a y (.str txt)) (hv : S.appT s (bytesRows txt) 1 e = some (s',S')) : OpOk P base W0 o a S s'.hv S' := by
 refine ⟨by rw [ho]; simp,fun β w a' h h2 => ?_⟩
 have hxr := hx.rel h2
 generalize hxv : a'.eval x = xv at hxr
 have e1 : (⟨txt.toArray⟩ : ByteArray).extract 0 txt.length = ⟨txt.toArray⟩ := by rw [extract_mk]; simp
 obtain ⟨β',w',v',k1,k2,k3,k4⟩ := h.appT he o.type hv hxr (src := .string ⟨txt.toArray⟩) (arrN := (⟨txt.toArray⟩ : ByteArray).data.map fun b => Value.int .u8 b.toNat) (appends_of he h0 h1 (.inr hu) (fun d => by simp [Builtin.lenOf,size_mk,size_bytesRows])
  (fun d => by simp [Builtin.firstCells,size_bytesRows,e1])) (by simp [size_bytesRows]) (bytes_rel txt β)
 exact ⟨β',w',v',k1,.inl (by simp [execOp,ho,resolve,invoke,builtin,hxv,hy.at_str h2,k2]),k3,k4⟩
def pEq (p q : Option HA) : Option Bool :=
 match p,q with
 | none,none => some true
 | none,some _ => some false
 | some _,none => some false
 | some x,some y => if x.id = y.id ∧ x.i = y.i ∧ x.j = y.j then some true else none
theorem run_ptr_same {w : World} {t e : TypeId} {j : TypeInfo} (ht : P.underlying t = some (.pointer e)) (hj : P.info? e = some j) (ad : Addr) (d : Nat) : (Op.equalIn (d + 1) t (.pointer (some ad)) (.pointer (some ad))).run P w = .ok true w := by
 simp [Op.equalIn,run_underlying ht,sizeOf,typeInfo,hj,run_sameAddr_same]
theorem run_ptrEq {p q : Option HA} {b : Bool} {u v : Value} {w : World} {t e : TypeId} (h : pEq p q = some b) (hp : VRel β (.ptr p) u) (hq : VRel β (.ptr q) v) (ht : P.underlying t = some (.pointer e)) (hj : (P.info? e).isSome = true) :
  ∀ d,(Op.equalIn (d + 1) t u v).run P w = .ok b w := by
 intro d
 obtain ⟨j,hj⟩ := Option.isSome_iff_exists.1 hj
 cases hp with
 | ptrNil =>
  cases hq with
  | ptrNil => simp [pEq] at h; subst h; simp [Op.equalIn,run_underlying ht]
  | ptr hb => simp [pEq] at h; subst h; simp [Op.equalIn,run_underlying ht]
 | @ptr id b1 o1 z1 n1 t1 i1 j1 hb =>
  cases hq with
  | ptrNil => simp [pEq] at h; subst h; simp [Op.equalIn,run_underlying ht]
  | @ptr id2 b2 o2 z2 n2 t2 i2 j2 hb2 =>
   simp only [pEq] at h
   split at h
   ·rename_i hc
    obtain ⟨rfl,rfl,rfl⟩ := hc
    rw [hb] at hb2
    cases hb2
    cases h
    exact run_ptr_same ht hj _ d
   ·cases h
theorem ok_ptr_eq {op : BinOp} {t ty e : TypeId} {x y : Operand} {p q : Option HA} {b r : Bool} (ho : o.op = .binOp op t x y ty) (ht : P.underlying t = some (.pointer e)) (hj : (P.info? e).isSome = true) (hx : Ev a x (.ptr p)) (hy : Ev a y (.ptr q)) (hv : pEq p q = some b)
  (hop : op = .eql ∧ r = b ∨ op = .neq ∧ r = !b) : OpOk P base W0 o a S (.bool r) S := by
 refine .pure (by rw [ho]; simp) fun β w a' _ h2 => ⟨.bool r,?_,.bool r⟩
 have hxr := hx.rel h2
 have hyr := hy.rel h2
 generalize hxv : a'.eval x = xv at hxr
 generalize hyv : a'.eval y = yv at hyr
 have h3 := run_ptrEq (w := w) hv hxr hyr ht hj 9999
 have e1 : ∃ u,xv = .pointer u := by cases hxr <;> exact ⟨_,rfl⟩
 have e2 : ∃ u,yv = .pointer u := by cases hyr <;> exact ⟨_,rfl⟩
 obtain ⟨u1,rfl⟩ := e1
 obtain ⟨u2,rfl⟩ := e2
 rcases hop with ⟨rfl,rfl⟩ | ⟨rfl,rfl⟩ <;> simp only [execOp,ho,hxv,hyv,eqGuard,binOp,equal_def] <;> simp [h3]
def HS.spot (S : HS) (p : Option HA) : Bool :=
 match p with
 | none => false
 | some ad =>
  match S.heap ad.id with
  | .cells z rows _ => decide (ad.i < rows.length ∧ ad.j < z)
  | _ => false
theorem Rel.spot (h : Rel base W0 β S w) {p : Option HA} {v : Value} (hs : S.spot p = true) (hv : VRel β (.ptr p) v) : ∃ ad t tot,v = .pointer (some ad) ∧ w.shape? ad.block = some (t,tot) ∧ ad.off < tot := by
 cases hv with
 | ptrNil => cases hs
 | @ptr id b o z n tot i j hb =>
  simp only [HS.spot] at hs
  split at hs
  ·rename_i z' rows own hS
   obtain ⟨b',o',tot',arr,t,fr,q1,q2,q3,q4,q5,q6⟩ := h.live hS
   rw [hb] at q1
   cases q1
   simp only [decide_eq_true_eq] at hs
   refine ⟨_,t,tot,rfl,by simp [World.shape?,q2,q3],?_⟩
   have hm : (i + 1) * z ≤ rows.length * z := Nat.mul_le_mul_right z (by omega)
   rw [Nat.succ_mul] at hm
   simp only
   omega
  ·cases hs
theorem ok_toUnsafe {src dst t : TypeId} {x : Operand} {p : Option HA} (ho : o.op = .convert src dst x) (hs : P.underlying src = some (.pointer t)) (hd : P.underlying dst = some .unsafePointer) (hj : (P.info? t).map (decide <| ·.size ≠ 0) = some true) (hx : Ev a x (.ptr p)) (hv : S.spot p = true) :
  OpOk P base W0 o a S (.ptr p) S := by
 refine .pure (by rw [ho]; simp) fun β w a' h1 h2 => ?_
 have hxr := hx.rel h2
 generalize hxv : a'.eval x = xv at hxr
 obtain ⟨ad,t',tot,rfl,k2,k3⟩ := h1.spot hv hxr
 obtain ⟨j,hj1,hj2⟩ := Option.map_eq_some_iff.1 hj
 exact ⟨_,by simp [execOp,ho,hxv,Lib.run_to_unsafe w ad hs hd hj1 (by simpa using hj2) k2 k3],hxr⟩
def HS.spotT (S : HS) (p : Option HA) (T z : Nat) : Bool :=
 match p with
 | none => false
 | some ad =>
  match S.heap ad.id with
  | .cells z' rows own => decide (own = true ∧ ad.i = 0 ∧ ad.j = 0 ∧ z' = z ∧ rows.length = 1 ∧ S.mrk ad.id = T + 2)
  | _ => false
theorem liesAt_one {e : TypeId} {count : Nat} (hc : 0 < P.cellsOf e) (hn : 1 ≤ count) : liesAt P P.depth e count 0 e 1 = true := by
 have hd : P.depth = (2 * (P.types.size + Made.depth) + 1) + 1 := rfl
 rw [hd]
 simp only [liesAt,Bool.or_eq_true]
 left
 rw [hd]
 have : P.cellsOf e ≠ 0 := by omega
 simp [rowAt,this,hn,sameLayout]
theorem ok_fromUnsafe {src dst t z : TypeId} {x : Operand} {p : Option HA} (ho : o.op = .convert src dst x) (hs : P.underlying src = some .unsafePointer) (hd : P.underlying dst = some (.pointer t)) (hj : (P.info? t).isSome = true) (hz : z = P.cellsOf t) (hc : 0 < P.cellsOf t)
  (hx : Ev a x (.ptr p)) (hv : S.spotT p t z = true) : OpOk P base W0 o a S (.ptr p) S := by
 refine .pure (by rw [ho]; simp) fun β w a' h1 h2 => ?_
 have hxr := hx.rel h2
 generalize hxv : a'.eval x = xv at hxr
 obtain ⟨j,hj⟩ := Option.isSome_iff_exists.1 hj
 cases hxr with
 | ptrNil => cases hv
 | @ptr id b ob z0 n tot i jj hb =>
  simp only [HS.spotT] at hv
  split at hv
  ·rename_i z' rows own hS
   simp only [decide_eq_true_eq] at hv
   obtain ⟨v1,v2,v3,v4,v5,v6⟩ := hv
   subst v2 v3 v4
   have ho' := h1.objs id
   rw [hS] at ho'
   obtain ⟨b',o',tot',arr,ty,fr,q1,q2,q3,q4,q5,q6,q7⟩ := ho'
   rw [hb] at q1
   cases q1
   obtain ⟨e1,rfl⟩ := (q7 v1).2.2.2.2 t v6
   rw [e1] at q2
   have hlies := liesAt_one (P := P) (e := t) (count := tot / P.cellsOf t) hc (by rw [← hz]; exact Nat.div_pos (by rw [v5] at q4; omega) q5)
   have e0 : (0 + 0 * z0 + 0 : Nat) = 0 := by omega
   have hrun := Lib.run_from_unsafe w ⟨b,0,none⟩ hs hd hj (show w.shape? b = some (t,tot) by simp [World.shape?,q2,q3]) hlies
   refine ⟨.pointer (some ⟨b,0,none⟩),by simp only [execOp,ho,hxv,e0]; simp [hrun],?_⟩
   have := VRel.ptr (β := β) (i := 0) (j := 0) hb
   simpa using this
  ·cases hv
def Sl.data (s : Sl) : Option (Option HA) :=
 match s.a with
 | none => some none
 | some (id,off) => if 0 < s.len then some (some ⟨id,off,0⟩) else none
theorem ok_sliceData {x : Operand} {tys : Array TypeId} {s : Sl} {q : Option HA} (ho : o.op = .call ⟨.builtin .unsafeSliceData,#[x],tys⟩) (hx : Ev a x s.hv) (hv : s.data = some q) : OpOk P base W0 o a S (.ptr q) S := by
 refine .pure (by rw [ho]; simp) fun β w a' _ h2 => ?_
 have hr := hx.rel h2
 obtain ⟨sa,len,c⟩ := s
 simp only [Sl.hv] at hr
 generalize hxv : a'.eval x = xv at hr
 cases hr with
 | slNil =>
  simp only [Sl.data,Option.some.injEq] at hv
  subst hv
  exact ⟨.pointer none,by simp [execOp,ho,resolve,invoke,builtin,hxv,Lib.run_unsafeSliceData_nil],.ptrNil⟩
 | @sl id b o1 z n tot off _ cap _ h h1 h23 h3 h4 h5 =>
  simp only [Sl.data] at hv
  split at hv
  ·rename_i hl
   cases hv
   refine ⟨.pointer (some ⟨b,o1 + off * z,none⟩),by simp [execOp,ho,resolve,invoke,builtin,hxv,Lib.run_unsafeSliceData_row _ _ _ _ _ _ (show cap ≠ 0 by omega)],?_⟩
   have := VRel.ptr (β := β) (i := off) (j := 0) h
   simpa using this
  ·cases hv
 | slEnd h h2' h3 h4 => simp [Sl.data] at hv
def HS.ustr (S : HS) (q : Option HA) (n : Int) (e : Nat) : Option (List UInt8 × HS) :=
 if n = 0 then some ([],S) else
 match q with
 | none => none
 | some ad =>
  match S.heap ad.id with
  | .cells 1 rows true => if ad.j = 0 ∧ 0 < n ∧ n ≤ 9223372036854775807 ∧ ad.i + n.toNat ≤ rows.length ∧ S.mrk ad.id = e + 2 then (bytesOf ((rows.drop ad.i).take n.toNat)).map fun t => (t,S.put ad.id (.cells 1 rows false)) else none
  | _ => none
theorem liesAt_at {e : TypeId} (hc : P.cellsOf e = 1) (count off n : Nat) (hn : off + n ≤ count) : liesAt P P.depth e count off e n = true := by
 have hd : P.depth = (2 * (P.types.size + Made.depth) + 1) + 1 := rfl
 rw [hd]
 simp only [liesAt,Bool.or_eq_true]
 left
 rw [hd]
 simp [rowAt,hc,hn,sameLayout,Nat.mod_one]
theorem run_loadInts (w : World) : ∀ (ns : List Int) (a : Addr) (acc : ByteArray),(∀ j x,ns[j]? = some x → w.cell? (a.add j) = some (.int .u8 x)) →
  (loadBytes a acc ns.length).run P w = .ok ⟨acc.data ++ (ns.map fun n => UInt8.ofNat n.toNat).toArray⟩ w
 | [],a,acc,_ => by simp [loadBytes]
 | x :: l,a,acc,h => by
  have h0 : w.cell? a = some (.int .u8 x) := by
   have := h 0 x rfl
   simpa [Addr.add] using this
  have ih := run_loadInts w l (a.add 1) (acc.push (UInt8.ofNat x.toNat)) (fun j y hy => by
   have := h (j + 1) y (by simpa using hy)
   have e : (a.add 1).add j = a.add (j + 1) := by
    unfold Addr.add
    by_cases hj : j = 0
    ·subst hj; simp
    ·simp [hj]; omega
   rw [e]; exact this)
  have hx : (x.toNat).toUInt8 = UInt8.ofNat x.toNat := rfl
  simp only [List.length_cons,loadBytes,Sem.run_bind,run_load,h0,Result.andThen,hx]
  rw [ih]
  congr 1
  apply ByteArray.ext
  simp [ByteArray.push]
theorem run_unsafeString_at (w : World) (pt it ty e : TypeId) (hp : P.underlying pt = some (.pointer e)) (hc : P.cellsOf e = 1) (g off cells : Nat) (hsh : w.shape? g = some (e,cells)) (l : List Int) (h0 : l ≠ []) (hn : off + l.length ≤ cells) (h63 : l.length ≤ 9223372036854775807)
  (hcell : ∀ j x,l[j]? = some x → w.cell? ((⟨g,off,none⟩ : Addr).add j) = some (.int .u8 x)) :
  (Builtin.unsafeString_ #[pt,it] ty #[.pointer (some ⟨g,off,none⟩),.int .i64 l.length]).run P w =   .ok (.string ⟨(l.map fun n => UInt8.ofNat n.toNat).toArray⟩) (w.freeze ⟨g,off,none⟩ l.length) := by
 have hl : l.length ≠ 0 := by simpa using h0
 have hlb := run_loadInts (P := P) w l ⟨g,off,none⟩ .empty hcell
 have hlies := liesAt_at (P := P) hc (cells / P.cellsOf e) off l.length (by rw [hc]; simpa using hn)
 have h63' : ¬ (9223372036854775807 : Int) < (l.length : Int) := by omega
 have hdef : Builtin.unsafeString_ #[pt,it] ty #[.pointer (some ⟨g,off,none⟩),.int .i64 l.length] =
   (do
    let n ← asInt (.int .i64 l.length)
    if n < 0 then runtimePanic (.error "unsafe.String: len out of range")
    if n > IntKind.i64.max then unsupported (.unsafePointer "String: a length above the largest int")
    if n = 0 then pure (.string .empty)
    else if ← variablesAt ⟨g,off,none⟩ (← elemOf pt) n.toNat then do
     let s ← loadBytes ⟨g,off,none⟩ .empty n.toNat
     freeze ⟨g,off,none⟩ n.toNat
     pure (.string s)
    else unsupported (.unsafePointer "String: not so many bytes at ptr")) := rfl
 rw [hdef]
 have hmax : IntKind.i64.max = 9223372036854775807 := rfl
 have hneg : ¬ (l.length : Int) < 0 := by omega
 simp [asInt,asIntOf,hmax,h63',hneg,hl,variablesAt,hsh,elemOf,run_underlying hp,hlies,hlb]
theorem ok_allocT {t : TypeId} {zv : Value} {r : List HV} {S' : HS} (ho : o.op = .alloc t) (ht : (P.info? t).map (·.zero) = some (some zv)) (hz : ∀ β,VRels β r zv.cells) (hr : 0 < r.length) (hf : r.all (·.flat) = true) (hq : S' = S.newM (.cells r.length [r] true) (t + 2)) :
  OpOk P base W0 o a S (.ptr (some (.cell0 S.next))) S' := by
 subst hq
 refine ⟨by rw [ho]; simp,fun β w a' h1 h2 => ?_⟩
 obtain ⟨β',g1,g2,g3⟩ := h1.newRowsM [r] zv.cells t (0,0) r.length (t + 2) (.typed (Nat.le_refl _)) hr (by simp [(hz β).1]) (rows_one (hz β) (fun v hv => List.all_eq_true.1 hf v hv)) (fun i _ => by omega) (.inl (by simp [(hz β).1]))
 obtain ⟨i,hi,hi2⟩ : ∃ i,P.info? t = some i ∧ i.zero = some zv := by
  cases hc : P.info? t with
  | none => rw [hc] at ht; cases ht
  | some i => rw [hc] at ht; exact ⟨i,rfl,by simpa using ht⟩
 refine ⟨β',_,.pointer (some ⟨w.heap.size,0,none⟩),g1,.inl ?_,?_,g3⟩
 ·simp [execOp,ho,Instr.alloc,zeroValue,typeInfo,hi,hi2,newVar,newRow]
 ·simpa [HA.cell0] using VRel.ptr (i := 0) (j := 0) g2
theorem bytes_at {rows : List (List HV)} {arr : Array Value} {ob i n : Nat} {ns : List Int} (h : RowsRel β rows arr ob 1) (ht : (rows.drop i).take n = ns.map fun n => [HV.int .u8 n]) (j : Nat) (x : Int) (hx : ns[j]? = some x) : arr[ob + i + j]? = some (.int .u8 x) := by
 have e1 : ((rows.drop i).take n)[j]? = some [HV.int .u8 x] := by rw [ht]; simp [hx]
 rw [List.getElem?_take] at e1
 split at e1
 ·rw [List.getElem?_drop] at e1
  obtain ⟨_,g2⟩ := h _ _ e1
  obtain ⟨_,v',g3,g4⟩ := g2 0 _ rfl
  cases g4
  rw [← g3]
  congr 1
  omega
 ·cases e1
theorem freeze_is {w : World} {b off n : Nat} {arr : Array Value} {t : TypeId} {fr : Nat × Nat} (hw : w.heap[b]? = some (.cells arr t fr)) (hn : n ≠ 0) : ∃ fr',w.freeze ⟨b,off,none⟩ n = { w with heap := w.heap.setIfInBounds b (.cells arr t fr') } := by
 obtain ⟨lo,hi⟩ := fr
 refine ⟨if lo == hi then (off,off + n) else (min lo off,max hi (off + n)),?_⟩
 simp only [World.freeze,if_neg hn]
 congr 1
 apply Array.ext_getElem?
 intro i
 rw [Array.getElem?_modify,Array.getElem?_setIfInBounds]
 by_cases h : b = i
 ·subst h
  have hlt : b < w.heap.size := by
   rcases Nat.lt_or_ge b w.heap.size with h' | h'
   ·exact h'
   ·simp [Array.getElem?_eq_none h'] at hw
  rw [if_pos rfl,if_pos rfl,if_pos hlt,hw]
  rfl
 ·rw [if_neg h,if_neg h]
theorem ok_unsafeString {x y : Operand} {pt it e : TypeId} {q : Option HA} {n : Int} {txt : List UInt8} {S' : HS} (ho : o.op = .call ⟨.builtin .unsafeString,#[x,y],#[pt,it]⟩) (hp : P.underlying pt = some (.pointer e)) (hc : P.cellsOf e = 1)
  (hx : Ev a x (.ptr q)) (hy : Ev a y (.int .i64 n)) (hv : S.ustr q n e = some (txt,S')) : OpOk P base W0 o a S (.str txt) S' := by
 refine ⟨by rw [ho]; simp,fun β w a' h h2 => ?_⟩
 have hxr := hx.rel h2
 have hyv := hy.at_int h2
 generalize hxv : a'.eval x = xv at hxr
 unfold HS.ustr at hv
 split at hv
 ·rename_i h0
  subst h0
  cases hv
  have hk : ∃ p,xv = .pointer p := by cases hxr <;> exact ⟨_,rfl⟩
  obtain ⟨p,rfl⟩ := hk
  exact ⟨β,w,.string .empty,Le.refl _,.inl (by simp [execOp,ho,resolve,invoke,builtin,hxv,hyv,Lib.run_unsafeString_none]),.str [],h⟩
 ·rename_i h0
  cases hxr with
  | ptrNil => cases hv
  | @ptr id b ob z0 m tot i jj hb =>
   simp only at hv
   split at hv
   ·rename_i rows hS
    split at hv
    case isFalse => cases hv
    rename_i hcnd
    obtain ⟨c1,c2,c3,c4,c5⟩ := hcnd
    subst c1
    obtain ⟨txt',e1,e2⟩ := Option.map_eq_some_iff.1 hv
    cases e2
    have ho' := h.objs id
    rw [hS] at ho'
    obtain ⟨b',o',tot',arr,ty,fr,q1,q2,q3,q4,q5,q6,q7⟩ := ho'
    rw [hb] at q1
    cases q1
    obtain ⟨t1,rfl⟩ := (q7 rfl).2.2.2.2 e c5
    rw [t1] at q2
    obtain ⟨ns,n1,n2⟩ := bytes_nums _ _ e1
    have hlen : ns.length = n.toNat := by
     have := congrArg List.length n1
     simp at this
     omega
    have hn : (ns.length : Int) = n := by omega
    have hat := fun j x hj => bytes_at (β := β) (ob := 0) q6 n1 j x hj
    have hrun := run_unsafeString_at (P := P) w pt it o.type e hp hc b (0 + i * 1 + 0) tot (by simp [World.shape?,q2,q3]) ns (by intro e; rw [e] at hlen; simp at hlen; omega) (by rw [hlen]; omega) (by omega) (by
     intro j x hj
     have := hat j x hj
     by_cases hj0 : j = 0
     ·subst hj0; simp [World.cell?,Addr.add,q2]; simpa using this
     ·simp [World.cell?,Addr.add,q2,hj0]; simpa using this)
    rw [hn,← n2] at hrun
    obtain ⟨fr',hfr⟩ := freeze_is (off := 0 + i * 1 + 0) (n := ns.length) q2 (by omega)
    rw [hfr] at hrun
    refine ⟨β,_,.string ⟨txt.toArray⟩,Le.refl _,.inl (by simp [execOp,ho,resolve,invoke,builtin,hxv,hyv]; simp at hrun; rw [hrun]; rfl),.str txt,?_⟩
    refine h.setObj (by rw [hb]; rfl) (q7 rfl).1 (by rw [hS]; rfl) (by rw [hS]; rfl) ?_
    exact ⟨b,0,tot,arr,e,fr',hb,by
     have hlt : b < w.heap.size := by
      rcases Nat.lt_or_ge b w.heap.size with h' | h'
      ·exact h'
      ·simp [Array.getElem?_eq_none h'] at q2
     simp [hlt],q3,q4,q5,q6,fun hq => by cases hq⟩
   ·cases hv
theorem Rel.top {w' : World} (h : Rel base W0 β S w) (hb : Below w.heap.size w w') : Rel base W0 β S w' := by
 refine ⟨h.below.trans ⟨hb.os,hb.tape,hb.output,hb.size,fun j hj => hb.block j (Nat.lt_of_lt_of_le hj h.size)⟩,Nat.le_trans h.size hb.size,h.fresh,fun i c hc => Nat.lt_of_lt_of_le (h.lt i c hc) hb.size,fun i => ?_,h.disj⟩
 have h1 := h.objs i
 cases hS : S.heap i with
 | dead => trivial
 | cells z rows own =>
  rw [hS] at h1
  obtain ⟨b1,o1,tot,arr,t,fr,q1,q2,q3⟩ := h1
  exact ⟨b1,o1,tot,arr,t,fr,q1,(hb.block b1 (h.lt i b1 (by rw [q1]; rfl))).trans q2,q3⟩
 | map es =>
  rw [hS] at h1
  obtain ⟨b1,es',clk,q1,q2,q3,q4⟩ := h1
  exact ⟨b1,es',clk,q1,q2,(hb.block b1 (h.lt i b1 (by rw [q1]; rfl))).trans q3,q4⟩
 | loop st pend =>
  rw [hS] at h1
  obtain ⟨b1,L,q1,q2,q3⟩ := h1
  exact ⟨b1,L,q1,q2,(hb.block b1 (h.lt i b1 (by rw [q1]; rfl))).trans q3⟩
 | defer =>
  rw [hS] at h1
  obtain ⟨b1,q1,q2,q3⟩ := h1
  exact ⟨b1,q1,q2,(hb.block b1 (h.lt i b1 (by rw [q1]; rfl))).trans q3⟩
 | call g vs => rw [hS] at h1; exact h1
 | opq => rw [hS] at h1; exact W0.stable _ _ _ _ _ h1 (.refl β) rfl fun b hbb => hb.block b (h.lt i b hbb)
theorem VRels.two {a b : HV} {args' : Array Value} (h : VRels β [a,b] args') : ∃ u v,args' = #[u,v] ∧ VRel β a u ∧ VRel β b v := by
 obtain ⟨l⟩ := args'
 obtain ⟨hl,hv⟩ := h
 match l,hl with
 | [u,v],_ => exact ⟨u,v,rfl,hv 0 _ _ rfl rfl,hv 1 _ _ rfl rfl⟩
theorem HCall.of_calls {β0 : Bt} {f : FuncId} {args : List HV} {v : HV} (h : ∀ (β : Bt) (w : World) (args' : Array Value),Rel base W0 β S w → VRels β args args' → ∃ v',VRel β v v' ∧ Calls P f args' w fun e w' => e = .returned v' ∧ Below w.heap.size w w') :
  HCall P base W0 β0 f args S (fun u S1 => u = v ∧ S1 = S) := by
 intro β w args' hle hrel ha cs
 obtain ⟨v',hv,hc⟩ := h β w args' hrel ha
 obtain ⟨e,w',fr,⟨rfl,hb⟩,g2,g3,g4⟩ := hc cs
 exact ⟨β,v,S,v',w',fr,Le.refl _,⟨rfl,rfl⟩,hv,hrel.top hb,g2,g3,g4⟩
theorem VRel.down {β β' : Bt} (hb : Le β β') {v : HV} {v0 : Value} (h : VRel β v v0) : ∀ {v1 : Value},VRel β' v v1 → VRel β v v1 := by
 have lists : ∀ {cs : List HV} {c0 c1 : Array Value},cs.length = c0.size → (∀ (i : Nat) (v : HV) (v' : Value),cs[i]? = some v → c0[i]? = some v' → ∀ {v1 : Value},VRel β' v v1 → VRel β v v1) → (∀ (i : Nat) (v : HV) (v' : Value),cs[i]? = some v → c1[i]? = some v' → VRel β' v v') →
   ∀ (i : Nat) (v : HV) (v' : Value),cs[i]? = some v → c1[i]? = some v' → VRel β v v' := by
  intro cs c0 c1 hl h0 h1 i v v' hv hv'
  have hi : i < c0.size := by rw [← hl]; exact (List.getElem?_eq_some_iff.1 hv).1
  exact h0 i v _ hv (Array.getElem?_eq_getElem hi) (h1 i v v' hv hv')
 induction h with
 | bool b => intro v1 h1; cases h1; exact .bool b
 | int k n => intro v1 h1; cases h1; exact .int k n
 | str s => intro v1 h1; cases h1; exact .str s
 | ptrNil => intro v1 h1; cases h1; exact .ptrNil
 | ptr h =>
  intro v1 h1
  have e := hb.eq h (by simp)
  cases h1 with
  | ptr h' => rw [e] at h'; cases h'; exact .ptr h
 | slNil c => intro v1 h1; cases h1; exact .slNil c
 | sl h _ _ _ _ _ =>
  intro v1 h1
  have e := hb.eq h (by simp)
  cases h1 with
  | sl h' g1 g2 g3 g4 g5 => rw [e] at h'; cases h'; exact .sl h g1 g2 g3 g4 g5
  | slEnd h' g2 g3 g4 => rw [e] at h'; cases h'; exact .slEnd h g2 g3 g4
 | slEnd h _ _ _ =>
  intro v1 h1
  have e := hb.eq h (by simp)
  cases h1 with
  | sl h' g1 g2 g3 g4 g5 => rw [e] at h'; cases h'; exact .sl h g1 g2 g3 g4 g5
  | slEnd h' g2 g3 g4 => rw [e] at h'; cases h'; exact .slEnd h g2 g3 g4
 | mapNil => intro v1 h1; cases h1; exact .mapNil
 | map h =>
  intro v1 h1
  have e := hb.eq h (by simp)
  cases h1 with
  | map h' => rw [e] at h'; cases h'; exact .map h
 | fn h1 _ h3 _ ih1 ih2 =>
  intro v1 h
  cases h with
  | fn g1 g2 g3 g4 => exact .fn g1 (lists h1 ih1 g2) g3 (lists h3 ih2 g4)
 | yld h =>
  intro v1 h1
  have e := hb.eq h (by simp)
  cases h1 with
  | yld h' => rw [e] at h'; cases h'; exact .yld h
 | nilFn => intro v1 h1; cases h1; exact .nilFn
 | agg h1 _ ih =>
  intro v1 h
  cases h with
  | agg g1 g2 => exact .agg g1 (lists h1 ih g2)
 | tup h1 _ ih =>
  intro v1 h
  cases h with
  | tup g1 g2 => exact .tup g1 (lists h1 ih g2)
 | nilIf => intro v1 h1; cases h1; exact .nilIf
 | junk h => intro v1 h1; cases h1 with | junk h' => exact .junk h'
theorem RowsRel.down {β β' : Bt} (hb : Le β β') {rows : List (List HV)} {a0 a1 : Array Value} {o o' z : Nat} (h0 : RowsRel β rows a0 o z) (h1 : RowsRel β' rows a1 o' z) : RowsRel β rows a1 o' z := by
 intro i row hr
 obtain ⟨g1,g2⟩ := h1 i row hr
 refine ⟨g1,fun j v hv => ?_⟩
 obtain ⟨f1,v1,f2,f3⟩ := g2 j v hv
 obtain ⟨_,v0,e2,e3⟩ := (h0 i row hr).2 j v hv
 exact ⟨f1,v1,f2,VRel.down hb e3 f3⟩
theorem EntRel.down {β β' : Bt} (hb : Le β β') {es : List (HV × HV)} {a0 a1 : Array MapEntry} (h0 : EntRel β es a0) (h1 : EntRel β' es a1) : EntRel β es a1 := by
 refine ⟨h1.1,fun i k v e hk he => ?_⟩
 have hi : i < a0.size := by rw [← h0.1]; exact (List.getElem?_eq_some_iff.1 hk).1
 obtain ⟨e1,e2⟩ := h0.2 i k v _ hk (Array.getElem?_eq_getElem hi)
 obtain ⟨f1,f2⟩ := h1.2 i k v e hk he
 exact ⟨VRel.down hb e1 f1,VRel.down hb e2 f2⟩
structure Ext (S S' : HS) : Prop where
 heap : ∀ i,i < S.next → S'.heap i = S.heap i
 mrk : ∀ i,i < S.next → S'.mrk i = S.mrk i
 le : S.next ≤ S'.next
theorem Ext.refl (S : HS) : Ext S S := ⟨fun _ _ => rfl,fun _ _ => rfl,Nat.le_refl _⟩
theorem Ext.trans {A B C : HS} (h : Ext A B) (k : Ext B C) : Ext A C := ⟨fun i hi => (k.heap i (Nat.lt_of_lt_of_le hi h.le)).trans (h.heap i hi),fun i hi => (k.mrk i (Nat.lt_of_lt_of_le hi h.le)).trans (h.mrk i hi),Nat.le_trans h.le k.le⟩
theorem Ext.newM (S : HS) (o : HObj) (m : Nat) : Ext S (S.newM o m) := ⟨fun i hi => by simp [HS.newM,show i ≠ S.next by omega],fun i hi => by simp [HS.newM,show i ≠ S.next by omega],Nat.le_succ _⟩
theorem Ext.lit (S : HS) (rows : List (List HV)) (z : Nat) : Ext S (S.lit rows z).2 := Ext.newM _ _ _
theorem Rel.forget {β' : Bt} {w0 : World} {S' : HS} (h0 : Rel base W0 β S w0) (h : Rel base W0 β' S' w) (hb : Le β β') (he : Ext S S') : Rel base W0 β S w := by
 have old : ∀ i,β i ≠ .none → i < S.next := fun i hi => Nat.lt_of_not_le fun hn => hi (h0.fresh i hn).1
 refine ⟨h.below,h.size,h0.fresh,fun i c hc => ?_,fun i => ?_,h0.disj⟩
 ·have hn : β i ≠ .none := fun e => by rw [e] at hc; cases hc
  exact h.lt i c (by rw [hb i hn]; exact hc)
 ·have a0 := h0.objs i
  have a1 := h.objs i
  cases hS : S.heap i with
  | dead => trivial
  | cells z rows own =>
   rw [hS] at a0
   obtain ⟨b0,o0,tot0,arr0,t0,fr0,p1,p2,p3,p4,p5,p6,p7⟩ := a0
   have hi := old i (by rw [p1]; simp)
   rw [he.heap i hi,hS,he.mrk i hi] at a1
   obtain ⟨b,o,tot,arr,t,fr,q1,q2,q3,q4,q5,q6,q7⟩ := a1
   have e := hb i (by rw [p1]; simp)
   exact ⟨b,o,tot,arr,t,fr,e ▸ q1,q2,q3,q4,q5,RowsRel.down hb p6 q6,q7⟩
  | map es =>
   rw [hS] at a0
   obtain ⟨b0,es0,clk0,p1,p2,p3,p4⟩ := a0
   have hi := old i (by rw [p1]; simp)
   rw [he.heap i hi,hS] at a1
   obtain ⟨b,es',clk,q1,q2,q3,q4⟩ := a1
   have e := hb i (by rw [p1]; simp)
   exact ⟨b,es',clk,e ▸ q1,q2,q3,EntRel.down hb p4 q4⟩
  | loop st pend =>
   rw [hS] at a0
   obtain ⟨b0,L0,p1,p2,p3⟩ := a0
   have hi := old i (by rw [p1]; simp)
   rw [he.heap i hi,hS] at a1
   obtain ⟨b,L,q1,q2,q3⟩ := a1
   have e := hb i (by rw [p1]; simp)
   exact ⟨b,L,e ▸ q1,q2,q3⟩
  | defer =>
   rw [hS] at a0
   obtain ⟨b0,p1,p2,p3⟩ := a0
   have hi := old i (by rw [p1]; simp)
   rw [he.heap i hi,hS] at a1
   obtain ⟨b,q1,q2,q3⟩ := a1
   have e := hb i (by rw [p1]; simp)
   exact ⟨b,e ▸ q1,q2,q3⟩
  | call g vs => rw [hS] at a0; exact a0
  | opq =>
   rw [hS] at a0
   by_cases hn : β i = .none
   ·refine W0.stable _ _ _ _ _ a0 (.refl β) rfl fun b hb => ?_
    rw [hn] at hb; cases hb
   ·rw [he.heap i (old i hn),hS] at a1
    exact W0.down _ _ _ _ _ a0 a1 hb
theorem HCall.forget {β0 : Bt} {f : FuncId} {args : List HV} {t : List UInt8} (h : HCall P base W0 β0 f args S (fun v S1 => v = .str t ∧ Ext S S1)) : HCall P base W0 β0 f args S (fun v S1 => v = .str t ∧ S1 = S) := by
 intro β w args' hle hrel ha cs
 obtain ⟨β',v,S',v',w',fr,g1,⟨rfl,g2⟩,g3,g4,g5,g6,g7⟩ := h β w args' hle hrel ha cs
 refine ⟨β,_,S,v',w',fr,Le.refl _,⟨rfl,rfl⟩,?_,hrel.forget g4 g1 g2,g5,g6,g7⟩
 cases g3
 exact .str t
theorem ok_indexArr {t e n : Nat} {x y : Operand} {vs : List HV} {k : IntKind} {i : Int} {v : HV} (ho : o.op = .index t x y) (ht : P.underlying t = some (.array n e)) (hz : ∃ q,P.info? e = some q ∧ q.size = 1) (hs : Scalar P e) (hx : Ev a x (.agg vs)) (hy : Ev a y (.int k i)) (hi : 0 ≤ i ∧ i < n) (hv : vs[i.toNat]? = some v) :
  OpOk P base W0 o a S v S := by
 refine .pure (by rw [ho]; simp) fun β w a' h1 h2 => ?_
 obtain ⟨q,hq1,hq2⟩ := hz
 have hr := hx.rel h2
 generalize hxv : a'.eval x = xv at hr
 cases hr with
 | agg e1 e2 =>
  obtain ⟨v',m1,m2⟩ := VRels.get ⟨e1,e2⟩ hv
  exact ⟨v',by simp [execOp,ho,Instr.index,hxv,hy.at_int h2,asIntOf,underlying,ht,hi,part,hs.isAgg,Go.sizeOf,typeInfo,hq1,hq2,m1],m2⟩
structure ArrAt (P : Program) (t e n : Nat) (zr : List HV) : Prop where
 und : P.underlying t = some (.array n e)
 size : ∃ q,P.info? e = some q ∧ q.size = 1
 info : ∃ q zv,P.info? t = some q ∧ q.zero = some zv ∧ ∀ β,VRels β zr zv.cells
theorem ok_buildArr {t e n : Nat} {zr : List HV} (hst : ArrAt P t e n zr) {parts : Array (Nat × Operand)} {is : List Nat} {xs : List Operand} {vs : List HV} {r : List HV} (ho : o.op = .build t parts) (hp : parts = (is.zip xs).toArray) (hl : is.length = xs.length)
  (hx : Evs a xs.toArray vs) (hr : hfill (fun i => some (i * 1,1)) zr (is.zip vs) = some r) : OpOk P base W0 o a S (.agg r) S := by
 refine .pure (by rw [ho]; simp) fun β w a' h h2 => ?_
 obtain ⟨q,zv,i1,i2,i3⟩ := hst.info
 obtain ⟨qe,e1,e2⟩ := hst.size
 have hvr : VRels β vs (xs.map a'.eval).toArray := by simpa using hx.rel h2
 have hvl : vs.length = xs.length := by have := hx.1; simpa using this
 obtain ⟨r',g1,g2⟩ := fill_rel (β := β) (place := fun i => some (i * 1,1)) (is.zip vs) (is.zip (xs.map a'.eval)) zr zv.cells r (i3 β) (by rw [List.map_fst_zip (by omega),List.map_fst_zip (by simp; omega)]) (by rw [List.map_snd_zip (by omega),List.map_snd_zip (by simp; omega)]; exact hvr) hr
 refine ⟨.agg r',?_,g2.agg⟩
 have hpm : (parts.map fun (i,x) => (i,a'.eval x)).toList = is.zip (xs.map a'.eval) := by
  rw [hp,List.map_toArray,List.zip_map_right]
  apply List.map_congr_left
  intro p _; rfl
 simp only [execOp,ho,Instr.build,Sem.run_bind,zeroValue,Go.sizeOf,typeInfo,run_program,Result.andThen_ok,i1,Sem.run_pure,i2,underlying,hst.und,e1,e2,hpm,g1]
theorem arrAt_mk {t e n : Nat} {zr : List HV} {zv : Value} (hu : P.underlying t = some (.array n e)) (hs : ∃ q,P.info? e = some q ∧ q.size = 1) (h : (P.info? t).map (·.zero) = some (some zv)) (hz : ∀ β,VRels β zr zv.cells) : ArrAt P t e n zr := by
 obtain ⟨q,h1,h2⟩ := Option.map_eq_some_iff.1 h
 exact ⟨hu,hs,q,zv,h1,h2,hz⟩
end
end Go.Proofs.YtfningkbcfhheaaGreatDoor.HL
namespace Go.Proofs.YtfningkbcfhheaaGreatDoor.HL
set_option linter.unusedVariables false
noncomputable section
inductive Tr (α : Type) where
 | leaf
 | node (l : Tr α) (v : Option α) (r : Tr α)
section
variable {α γ : Type}
def trL (_ : Nat) : Option α := none
def trN (_ : Tr α) (v : Option α) (_ : Tr α) (gl gr : Nat → Option α) (n : Nat) : Option α :=
 Nat.rec (motive := fun _ => Option α) v (fun m _ => Bool.rec (motive := fun _ => Option α) (gr (Nat.div m 2)) (gl (Nat.div m 2)) (Nat.beq (Nat.mod m 2) 0)) n
def Tr.get (t : Tr α) (n : Nat) : Option α := Tr.rec (motive := fun _ => Nat → Option α) trL trN t n
abbrev StT (α γ : Type) := Nat → α → (Tr α → Option γ) → Option γ
def stL (ih : Tr α → StT α γ) (n : Nat) (v : α) (k : Tr α → Option γ) : Option γ :=
 Nat.rec (motive := fun _ => Option γ) (k (.node .leaf (some v) .leaf)) (fun m _ => Bool.rec (motive := fun _ => Option γ) (ih .leaf (Nat.div m 2) v fun r => k (.node .leaf none r)) (ih .leaf (Nat.div m 2) v fun l => k (.node l none .leaf)) (Nat.beq (Nat.mod m 2) 0)) n
def stN (ih : Tr α → StT α γ) (l : Tr α) (w : Option α) (r : Tr α) (n : Nat) (v : α) (k : Tr α → Option γ) : Option γ :=
 Nat.rec (motive := fun _ => Option γ) (k (.node l (some v) r)) (fun m _ => Bool.rec (motive := fun _ => Option γ) (ih r (Nat.div m 2) v fun r => k (.node l w r)) (ih l (Nat.div m 2) v fun l => k (.node l w r)) (Nat.beq (Nat.mod m 2) 0)) n
def stS (_ : Nat) (ih : Tr α → StT α γ) (t : Tr α) : StT α γ := Tr.rec (motive := fun _ => StT α γ) (stL ih) (fun l w r _ _ => stN ih l w r) t
def stZ (_ : Tr α) (_ : Nat) (_ : α) (_ : Tr α → Option γ) : Option γ := none
def Tr.setK (d : Nat) (t : Tr α) (n : Nat) (v : α) (k : Tr α → Option γ) : Option γ := Nat.rec (motive := fun _ => Tr α → StT α γ) stZ stS d t n v k
theorem Tr.get_leaf (n : Nat) : (Tr.leaf : Tr α).get n = none := rfl
theorem Tr.get_zero (l r : Tr α) (v : Option α) : (Tr.node l v r).get 0 = v := rfl
theorem beq_even {n : Nat} : Nat.beq (Nat.mod n 2) 0 = decide (n % 2 = 0) := by
 show Nat.beq (n % 2) 0 = _
 rw [Bool.eq_iff_iff]; simp
theorem brec {β : Type} (b : Bool) (x y : β) : (Bool.rec (motive := fun _ => β) x y b : β) = cond b y x := by cases b <;> rfl
theorem Tr.get_succ (l r : Tr α) (v : Option α) (n : Nat) : (Tr.node l v r).get (n + 1) = cond (decide (n % 2 = 0)) (l.get (n / 2)) (r.get (n / 2)) := by
 show (Bool.rec (motive := fun _ => Option α) _ _ _ : Option α) = _
 rw [brec,beq_even]; rfl
theorem Tr.setK_out {r : γ} {v : α} : ∀ (d : Nat) (t : Tr α) (n : Nat) (k : Tr α → Option γ),Tr.setK d t n v k = some r → ∃ t',k t' = some r ∧ ∀ i,t'.get i = if i = n then some v else t.get i := by
 intro d
 induction d with
 | zero => intro t n k h; cases h
 | succ d ih =>
  intro t n k h
  have hl : ∀ (l r0 : Tr α) (w : Option α) (m : Nat),m % 2 = 0 → ∀ l' : Tr α,(∀ i,l'.get i = if i = m / 2 then some v else l.get i) → ∀ i,(Tr.node l' w r0).get i = if i = m + 1 then some v else (Tr.node l w r0).get i := by
   intro l r0 w m hm l' hl' i
   cases i with
   | zero => rw [Tr.get_zero,Tr.get_zero,if_neg (by omega)]
   | succ i =>
    rw [Tr.get_succ,Tr.get_succ]
    by_cases hi : i % 2 = 0
    ·rw [decide_eq_true hi,cond_true,cond_true,hl']
     by_cases e : i = m
     ·subst e; simp
     ·rw [if_neg (by omega),if_neg (by omega)]
    ·rw [decide_eq_false hi,cond_false,cond_false,if_neg (by omega)]
  have hr : ∀ (l r0 : Tr α) (w : Option α) (m : Nat),¬ m % 2 = 0 → ∀ r' : Tr α,(∀ i,r'.get i = if i = m / 2 then some v else r0.get i) → ∀ i,(Tr.node l w r').get i = if i = m + 1 then some v else (Tr.node l w r0).get i := by
   intro l r0 w m hm r' hr' i
   cases i with
   | zero => rw [Tr.get_zero,Tr.get_zero,if_neg (by omega)]
   | succ i =>
    rw [Tr.get_succ,Tr.get_succ]
    by_cases hi : i % 2 = 0
    ·rw [decide_eq_true hi,cond_true,cond_true,if_neg (by omega)]
    ·rw [decide_eq_false hi,cond_false,cond_false,hr']
     by_cases e : i = m
     ·subst e; simp
     ·rw [if_neg (by omega),if_neg (by omega)]
  have hlf : ∀ i,(Tr.node (Tr.leaf : Tr α) none .leaf).get i = none := by
   intro i
   cases i with
   | zero => rfl
   | succ i => rw [Tr.get_succ]; by_cases hi : i % 2 = 0 <;> simp [hi,Tr.get_leaf]
  cases t with
  | leaf =>
   cases n with
   | zero =>
    refine ⟨_,h,fun i => ?_⟩
    cases i with
    | zero => rfl
    | succ i =>
     rw [Tr.get_succ,Tr.get_leaf,if_neg (by omega)]
     by_cases hi : i % 2 = 0 <;> simp [hi,Tr.get_leaf]
   | succ n =>
    replace h : (Bool.rec (motive := fun _ => Option γ) (Tr.setK d .leaf (n / 2) v fun r => k (.node .leaf none r)) (Tr.setK d .leaf (n / 2) v fun l => k (.node l none .leaf)) (Nat.beq (Nat.mod n 2) 0) : Option γ) = some r := h
    rw [brec,beq_even] at h
    by_cases hn : n % 2 = 0
    ·rw [decide_eq_true hn,cond_true] at h
     obtain ⟨t',h1,h2⟩ := ih _ _ _ h
     exact ⟨_,h1,fun i => by rw [hl .leaf .leaf none n hn t' h2 i,hlf,Tr.get_leaf]⟩
    ·rw [decide_eq_false hn,cond_false] at h
     obtain ⟨t',h1,h2⟩ := ih _ _ _ h
     exact ⟨_,h1,fun i => by rw [hr .leaf .leaf none n hn t' h2 i,hlf,Tr.get_leaf]⟩
  | node l w r0 =>
   cases n with
   | zero =>
    refine ⟨_,h,fun i => ?_⟩
    cases i with
    | zero => rfl
    | succ i => rw [Tr.get_succ,Tr.get_succ,if_neg (by omega)]
   | succ n =>
    replace h : (Bool.rec (motive := fun _ => Option γ) (Tr.setK d r0 (n / 2) v fun r => k (.node l w r)) (Tr.setK d l (n / 2) v fun l => k (.node l w r0)) (Nat.beq (Nat.mod n 2) 0) : Option γ) = some r := h
    rw [brec,beq_even] at h
    by_cases hn : n % 2 = 0
    ·rw [decide_eq_true hn,cond_true] at h
     obtain ⟨t',h1,h2⟩ := ih _ _ _ h
     exact ⟨_,h1,hl l r0 w n hn t' h2⟩
    ·rw [decide_eq_false hn,cond_false] at h
     obtain ⟨t',h1,h2⟩ := ih _ _ _ h
     exact ⟨_,h1,hr l r0 w n hn t' h2⟩
def frcN (n : Nat) (k : Nat → Option γ) : Option γ := Nat.rec (motive := fun _ => Option γ) (k 0) (fun n _ => k (Nat.succ n)) n
theorem frcN_eq (n : Nat) (k : Nat → Option γ) : frcN n k = k n := by cases n <;> rfl
def frcZ (n : Int) (k : Int → Option γ) : Option γ := Int.rec (motive := fun _ => Option γ) (fun n => frcN n fun n => k (.ofNat n)) (fun n => frcN n fun n => k (.negSucc n)) n
theorem frcZ_eq (n : Int) (k : Int → Option γ) : frcZ n k = k n := by cases n <;> simp [frcZ,frcN_eq]
def frcL {β : Type} (f : β → (β → Option γ) → Option γ) (l : List β) (k : List β → Option γ) : Option γ :=
 List.rec (motive := fun _ => (List β → Option γ) → Option γ) (fun k => k []) (fun a _ ih k => f a fun a => ih fun l => k (a :: l)) l k
theorem frcL_eq {β : Type} {f : β → (β → Option γ) → Option γ} (hf : ∀ a k,f a k = k a) : ∀ (l : List β) (k : List β → Option γ),frcL f l k = k l := by
 intro l
 induction l with
 | nil => intro k; rfl
 | cons a l ih =>
  intro k
  show f a (fun a => frcL f l fun l => k (a :: l)) = _
  rw [hf,ih]
def frcS {β : Type} (l : List β) (k : List β → Option γ) : Option γ :=
 List.rec (motive := fun _ => (List β → Option γ) → Option γ) (fun k => k []) (fun a _ ih k => ih fun l => k (a :: l)) l k
theorem frcS_eq {β : Type} : ∀ (l : List β) (k : List β → Option γ),frcS l k = k l := by
 intro l
 induction l with
 | nil => intro k; rfl
 | cons a l ih =>
  intro k
  show frcS l (fun l => k (a :: l)) = _
  rw [ih]
def frcO {β : Type} (f : β → (β → Option γ) → Option γ) (o : Option β) (k : Option β → Option γ) : Option γ :=
 Option.rec (motive := fun _ => Option γ) (k none) (fun a => f a fun a => k (some a)) o
theorem frcO_eq {β : Type} {f : β → (β → Option γ) → Option γ} (hf : ∀ a k,f a k = k a) (o : Option β) (k : Option β → Option γ) : frcO f o k = k o := by
 cases o with
 | none => rfl
 | some a => exact hf a _
def frcB (b : Bool) (k : Bool → Option γ) : Option γ := Bool.rec (motive := fun _ => Option γ) (k false) (k true) b
theorem frcB_eq (b : Bool) (k : Bool → Option γ) : frcB b k = k b := by cases b <;> rfl
def frcA (a : HA) (k : HA → Option γ) : Option γ := frcN a.id fun x => frcN a.i fun y => frcN a.j fun z => k ⟨x,y,z⟩
theorem frcA_eq (a : HA) (k : HA → Option γ) : frcA a k = k a := by simp [frcA,frcN_eq]
def frcP (p : Nat × Nat) (k : Nat × Nat → Option γ) : Option γ := frcN p.1 fun x => frcN p.2 fun y => k (x,y)
theorem frcP_eq (a : Nat × Nat) (k : Nat × Nat → Option γ) : frcP a k = k a := by simp [frcP,frcN_eq]
abbrev KV (γ : Type) := (HV → Option γ) → Option γ
def fvB (b : Bool) (k : HV → Option γ) : Option γ := frcB b fun b => k (.bool b)
def fvI (q : IntKind) (n : Int) (k : HV → Option γ) : Option γ := frcZ n fun n => k (.int q n)
def fvS (s : List UInt8) (k : HV → Option γ) : Option γ := frcS s fun s => k (.str s)
def fvP (a : Option HA) (k : HV → Option γ) : Option γ := frcO frcA a fun a => k (.ptr a)
def fvSl (a : Option (Nat × Nat)) (n : Nat) (c : Option Nat) (k : HV → Option γ) : Option γ := frcO frcP a fun a => frcN n fun n => frcO frcN c fun c => k (.sl a n c)
def fvM (r : Option Nat) (k : HV → Option γ) : Option γ := k (.map r)
def fvF (f : Fn) (xs ys : List HV) (k : HV → Option γ) : Option γ := frcS xs fun xs => frcS ys fun ys => k (.fn f xs ys)
def fvNf (k : HV → Option γ) : Option γ := k .nilFn
def fvA (cs : List HV) (k : HV → Option γ) : Option γ := frcS cs fun cs => k (.agg cs)
def fvT (cs : List HV) (k : HV → Option γ) : Option γ := frcS cs fun cs => k (.tup cs)
def fvNi (k : HV → Option γ) : Option γ := k .nilIf
def fvJ (k : HV → Option γ) : Option γ := k .junk
def frcV (v : HV) (k : HV → Option γ) : Option γ := HV.casesOn (motive_1 := fun _ => KV γ) v fvB fvI fvS fvP fvSl fvM fvF fvNf fvA fvT fvNi fvJ k
theorem frcV_eq (v : HV) (k : HV → Option γ) : frcV v k = k v := by
 cases v with
 | bool b => exact frcB_eq b fun b => k (.bool b)
 | int q n => exact frcZ_eq n fun n => k (.int q n)
 | str s => exact frcS_eq s fun s => k (.str s)
 | ptr a => exact frcO_eq frcA_eq a fun a => k (.ptr a)
 | sl a n c =>
  show frcO frcP a (fun a => frcN n fun n => frcO frcN c fun c => k (.sl a n c)) = _
  rw [frcO_eq frcP_eq,frcN_eq,frcO_eq frcN_eq]
 | map r => rfl
 | fn f xs ys =>
  show frcS xs (fun xs => frcS ys fun ys => k (.fn f xs ys)) = _
  rw [frcS_eq,frcS_eq]
 | nilFn => rfl
 | agg cs => exact frcS_eq cs fun cs => k (.agg cs)
 | tup cs => exact frcS_eq cs fun cs => k (.tup cs)
 | nilIf => rfl
 | junk => rfl
def frcE (e : HV × HV) (k : HV × HV → Option γ) : Option γ := k (e.1,e.2)
theorem frcE_eq (e : HV × HV) (k : HV × HV → Option γ) : frcE e k = k e := rfl
abbrev KO (γ : Type) := (HObj → Option γ) → Option γ
def foD (k : HObj → Option γ) : Option γ := k .dead
def foC (z : Nat) (rows : List (List HV)) (own : Bool) (k : HObj → Option γ) : Option γ := frcN z fun z => frcL frcS rows fun rows => frcB own fun own => k (.cells z rows own)
def foM (es : List (HV × HV)) (k : HObj → Option γ) : Option γ := frcL frcE es fun es => k (.map es)
def foL (st : LoopState) (p : Option Code) (k : HObj → Option γ) : Option γ := k (.loop st p)
def foF (k : HObj → Option γ) : Option γ := k .defer
def foP (g : FuncId) (vs : List HV) (k : HObj → Option γ) : Option γ := frcS vs fun vs => k (.call g vs)
def foO (k : HObj → Option γ) : Option γ := k .opq
def frcOb (o : HObj) (k : HObj → Option γ) : Option γ := HObj.rec (motive := fun _ => KO γ) foD foC foM foL foF foP foO o k
theorem frcOb_eq (o : HObj) (k : HObj → Option γ) : frcOb o k = k o := by
 cases o with
 | dead => rfl
 | cells z rows own =>
  show frcN z (fun z => frcL frcS rows fun rows => frcB own fun own => k (.cells z rows own)) = _
  rw [frcN_eq,frcL_eq frcS_eq,frcB_eq]
 | map es => exact frcL_eq frcE_eq es fun es => k (.map es)
 | loop st p => rfl
 | defer => rfl
 | call g vs => exact frcS_eq vs fun vs => k (.call g vs)
 | opq => rfl
end
structure CS where
 h : Tr HObj
 next : Nat
 m : Tr Nat
 d : Nat
def CS.mk_ (c : CS) (i : Nat) : Nat := (c.m.get i).getD c.d
def CS.hs (c : CS) : HS := ⟨fun i => (c.h.get i).getD .dead,c.next,fun i => c.mk_ i⟩
section
variable {γ : Type}
abbrev SY (γ : Type) := HS → (CS → Option γ) → CS → Option γ
def sy0 (S' : HS) (k : CS → Option γ) (c : CS) : Option γ := CS.rec (motive := fun _ => Option γ) (fun h _ m d => frcN S'.next fun n => k ⟨h,n,m,d⟩) c
def sy1 (id : Nat) (_ : List Nat) (ih : SY γ) (S' : HS) (k : CS → Option γ) (c : CS) : Option γ :=
 CS.rec (motive := fun _ => Option γ) (fun h nx m d => frcOb (S'.heap id) fun o => Tr.setK 40 h id o fun h => Bool.rec (motive := fun _ => Option γ) (frcN (S'.mrk id) fun q => Tr.setK 40 m id q fun m => ih S' k ⟨h,nx,m,d⟩) (ih S' k ⟨h,nx,m,d⟩) (Nat.beq (S'.mrk id) ((m.get id).getD d))) c
def CS.syncK (S' : HS) (k : CS → Option γ) (ids : List Nat) (c : CS) : Option γ := List.rec (motive := fun _ => SY γ) sy0 sy1 ids S' k c
theorem CS.syncK_out {S' : HS} {k : CS → Option γ} {r : γ} : ∀ (ids : List Nat) (c : CS),CS.syncK S' k ids c = some r → (∀ i,i ∉ ids → S'.heap i = c.hs.heap i ∧ S'.mrk i = c.hs.mrk i) → ∃ c',k c' = some r ∧ c'.hs = S' := by
 intro ids
 induction ids with
 | nil =>
  intro c h hs
  obtain ⟨ch,cn,cm,cd⟩ := c
  replace h : (frcN S'.next fun n => k ⟨ch,n,cm,cd⟩) = some r := h
  rw [frcN_eq] at h
  refine ⟨_,h,?_⟩
  obtain ⟨hp,n,mk⟩ := S'
  have h1 : hp = fun i => (ch.get i).getD .dead := funext fun i => (hs i (by simp)).1
  have h2 : mk = fun i => (cm.get i).getD cd := funext fun i => (hs i (by simp)).2
  subst h1 h2
  rfl
 | cons id ids ih =>
  intro c h hs
  obtain ⟨ch,cn,cm,cd⟩ := c
  replace h : (frcOb (S'.heap id) fun o => Tr.setK 40 ch id o fun h => (Bool.rec (motive := fun _ => Option γ) (frcN (S'.mrk id) fun q => Tr.setK 40 cm id q fun m => CS.syncK S' k ids ⟨h,cn,m,cd⟩) (CS.syncK S' k ids ⟨h,cn,cm,cd⟩) (Nat.beq (S'.mrk id) ((cm.get id).getD cd)) : Option γ)) = some r := h
  rw [frcOb_eq] at h
  obtain ⟨h',h1,h2⟩ := Tr.setK_out _ _ _ _ h
  rw [brec] at h1
  cases hm : Nat.beq (S'.mrk id) ((cm.get id).getD cd) with
  | true =>
   rw [hm,cond_true] at h1
   refine ih _ h1 fun i hi => ?_
   by_cases e : i = id
   ·subst e
    exact ⟨by simp [CS.hs,h2],by simpa [CS.hs,CS.mk_] using hm⟩
   ·have := hs i (by simp [e,hi])
    exact ⟨by rw [this.1]; simp [CS.hs,h2,e],by rw [this.2]; rfl⟩
  | false =>
   rw [hm,cond_false,frcN_eq] at h1
   obtain ⟨m',h3,h4⟩ := Tr.setK_out _ _ _ _ h1
   refine ih _ h3 fun i hi => ?_
   by_cases e : i = id
   ·subst e
    exact ⟨by simp [CS.hs,h2],by simp [CS.hs,CS.mk_,h4]⟩
   ·have := hs i (by simp [e,hi])
    exact ⟨by rw [this.1]; simp [CS.hs,h2,e],by rw [this.2]; simp [CS.hs,CS.mk_,h4,e]⟩
def CS.syncP (S' : HS) (id : Nat) (c : CS) (k : CS → Option γ) : Option γ := CS.rec (motive := fun _ => Option γ) (fun h nx m d => frcOb (S'.heap id) fun o => Tr.setK 40 h id o fun h => k ⟨h,nx,m,d⟩) c
theorem CS.syncP_out {S' : HS} {k : CS → Option γ} {r : γ} {id : Nat} {c : CS} (h : CS.syncP S' id c k = some r) (hs : ∀ i,i ≠ id → S'.heap i = c.hs.heap i) (hm : S'.mrk = c.hs.mrk) (hn : S'.next = c.next) : ∃ c',k c' = some r ∧ c'.hs = S' := by
 obtain ⟨ch,cn,cm,cd⟩ := c
 replace h : (frcOb (S'.heap id) fun o => Tr.setK 40 ch id o fun h => k ⟨h,cn,cm,cd⟩) = some r := h
 rw [frcOb_eq] at h
 obtain ⟨h',h1,h2⟩ := Tr.setK_out _ _ _ _ h
 refine ⟨_,h1,?_⟩
 obtain ⟨hp,n,mk⟩ := S'
 simp only at hm hn hs h2
 subst hn
 have e1 : hp = fun i => (h'.get i).getD .dead := funext fun i => by
  rw [h2]
  by_cases e : i = id
  ·subst e; simp
  ·rw [if_neg e]; exact hs i e
 rw [hm,e1]
 rfl
def sa0 (S' : HS) (k : CS → Option γ) (c : CS) : Option γ := CS.rec (motive := fun _ => Option γ) (fun h _ _ _ => frcN S'.next fun n => k ⟨h,n,.leaf,1⟩) c
def sa1 (id : Nat) (_ : List Nat) (ih : SY γ) (S' : HS) (k : CS → Option γ) (c : CS) : Option γ :=
 CS.rec (motive := fun _ => Option γ) (fun h nx m d => frcOb (S'.heap id) fun o => Tr.setK 40 h id o fun h => ih S' k ⟨h,nx,m,d⟩) c
def CS.syncA (S' : HS) (k : CS → Option γ) (ids : List Nat) (c : CS) : Option γ := List.rec (motive := fun _ => SY γ) sa0 sa1 ids S' k c
theorem CS.syncA_out {S' : HS} {k : CS → Option γ} {r : γ} (hm : S'.mrk = fun _ => 1) : ∀ (ids : List Nat) (c : CS),CS.syncA S' k ids c = some r → (∀ i,i ∉ ids → S'.heap i = c.hs.heap i) → ∃ c',k c' = some r ∧ c'.hs = S' := by
 intro ids
 induction ids with
 | nil =>
  intro c h hs
  obtain ⟨ch,cn,cm,cd⟩ := c
  replace h : (frcN S'.next fun n => k ⟨ch,n,.leaf,1⟩) = some r := h
  rw [frcN_eq] at h
  refine ⟨_,h,?_⟩
  obtain ⟨hp,n,mk⟩ := S'
  have h1 : hp = fun i => (ch.get i).getD .dead := funext fun i => hs i (by simp)
  simp only at hm
  subst h1 hm
  rfl
 | cons id ids ih =>
  intro c h hs
  obtain ⟨ch,cn,cm,cd⟩ := c
  replace h : (frcOb (S'.heap id) fun o => Tr.setK 40 ch id o fun h => CS.syncA S' k ids ⟨h,cn,cm,cd⟩) = some r := h
  rw [frcOb_eq] at h
  obtain ⟨h',h1,h2⟩ := Tr.setK_out _ _ _ _ h
  refine ih _ h1 fun i hi => ?_
  by_cases e : i = id
  ·subst e; simp [CS.hs,h2]
  ·rw [hs i (by simp [e,hi])]; simp [CS.hs,h2,e]
end
inductive Fl where
 | nil
 | cons (d : Tmp) (v : HV) (r : Fl)
def flN (_ : Nat) : Option HV := none
def flC (d : Tmp) (v : HV) (_ : Fl) (ih : Nat → Option HV) (t : Nat) : Option HV := Bool.rec (motive := fun _ => Option HV) (ih t) (some v) (Nat.beq d t)
def Fl.get (l : Fl) (t : Nat) : Option HV := Fl.rec (motive := fun _ => Nat → Option HV) flN flC l t
theorem Fl.get_cons (d : Tmp) (v : HV) (r : Fl) (t : Nat) : (Fl.cons d v r).get t = cond (Nat.beq d t) (some v) (r.get t) := brec _ _ _
theorem nbeq_ne {d t : Nat} (e : ¬ d = t) : Nat.beq d t = false := by
 cases h : Nat.beq d t with
 | false => rfl
 | true => exact absurd (Nat.eq_of_beq_eq_true h) e
structure Agr (n : Nat) (l : Fl) (ds : List Nat) (a : HAct) : Prop where
 ds : a.defers = ds
 len : a.tmps.length = n
 at_ : ∀ t v,l.get t = some v → a.tmps[t]? = some v
theorem Agr.put {n : Nat} {l : Fl} {ds : List Nat} {a : HAct} (h : Agr n l ds a) {d : Tmp} (hd : d < n) (v : HV) : Agr n (.cons d v l) ds (a.put (some d) v) := by
 refine ⟨h.ds,by show (a.tmps.set d v).length = n; simpa using h.len,fun t u hu => ?_⟩
 show (a.tmps.set d v)[t]? = some u
 rw [Fl.get_cons] at hu
 rw [List.getElem?_set]
 by_cases e : d = t
 ·subst e
  rw [show Nat.beq d d = true by simp,cond_true] at hu
  rw [if_pos rfl,if_pos (by rw [h.len]; exact hd),hu]
 ·rw [nbeq_ne e,cond_false] at hu
  rw [if_neg e]
  exact h.at_ t u hu
def Fl.put (l : Fl) (d : Option Tmp) (v : HV) : Fl := Option.rec (motive := fun _ => Fl) l (fun d => .cons d v l) d
def inB (d : Option Tmp) (n : Nat) : Bool := match d with | none => true | some d => Nat.ble (d + 1) n
theorem Agr.putO {n : Nat} {l : Fl} {ds : List Nat} {a : HAct} (h : Agr n l ds a) {d : Option Tmp} (hd : inB d n = true) (v : HV) : Agr n (l.put d v) ds (a.put d v) := by
 cases d with
 | none => exact h
 | some d => exact h.put (Nat.le_of_ble_eq_true hd) v
def hasN (s d : Nat) : Bool := Nat.beq (Nat.land (Nat.shiftRight s d) 1) 1
theorem hasN_is (s d : Nat) : hasN s d = s.testBit d := by
 have h : Nat.land (Nat.shiftRight s d) 1 = (s >>> d) % 2 := Nat.and_one_is_mod _
 unfold hasN
 rw [h,Nat.testBit_eq_decide_div_mod_eq,Nat.shiftRight_eq_div_pow,Bool.eq_iff_iff]
 simp
def ddC {γ : Type} (d : Tmp) (v : HV) (_ : Fl) (ih : Nat → (Fl → Option γ) → Option γ) (s : Nat) (k : Fl → Option γ) : Option γ :=
 Bool.rec (motive := fun _ => Option γ) (ih (Nat.lor s (Nat.shiftLeft 1 d)) fun r => k (.cons d v r)) (ih s k) (hasN s d)
def ddK {γ : Type} (l : Fl) (s : Nat) (k : Fl → Option γ) : Option γ := Fl.rec (motive := fun _ => Nat → (Fl → Option γ) → Option γ) (fun _ k => k .nil) ddC l s k
theorem ddK_out {γ : Type} {r : γ} : ∀ (l : Fl) (s : Nat) (k : Fl → Option γ),ddK l s k = some r → ∃ l',k l' = some r ∧ (∀ t v,l'.get t = some v → l.get t = some v) ∧ ∀ t,s.testBit t = true → l'.get t = none := by
 intro l
 induction l with
 | nil => intro s k h; exact ⟨.nil,h,fun _ _ h => h,fun _ _ => rfl⟩
 | cons d v l ih =>
  intro s k h
  replace h : (Bool.rec (ddK l (Nat.lor s (Nat.shiftLeft 1 d)) fun r => k (.cons d v r)) (ddK l s k) (hasN s d) : Option γ) = some r := h
  rw [brec,hasN_is] at h
  cases hd : s.testBit d with
  | true =>
   rw [hd,cond_true] at h
   obtain ⟨l',h1,h2,h3⟩ := ih _ _ h
   refine ⟨l',h1,fun t u hu => ?_,h3⟩
   rw [Fl.get_cons]
   by_cases e : d = t
   ·subst e; rw [h3 _ hd] at hu; cases hu
   ·rw [nbeq_ne e,cond_false]; exact h2 t u hu
  | false =>
   rw [hd,cond_false] at h
   obtain ⟨l',h1,h2,h3⟩ := ih _ _ h
   refine ⟨_,h1,fun t u hu => ?_,fun t ht => ?_⟩
   ·rw [Fl.get_cons] at hu ⊢
    by_cases e : d = t
    ·subst e; rw [show Nat.beq d d = true by simp] at hu ⊢; exact hu
    ·rw [nbeq_ne e,cond_false] at hu ⊢; exact h2 t u hu
   ·have e : ¬ d = t := fun e => by subst e; rw [hd] at ht; cases ht
    rw [Fl.get_cons,nbeq_ne e,cond_false]
    refine h3 t ?_
    show (s ||| (1 <<< d)).testBit t = true
    rw [Nat.testBit_or,ht,Bool.true_or]
def mkL (vs : List HV) (i : Nat) (l : Fl) : Fl := List.rec (motive := fun _ => Nat → Fl → Fl) (fun _ l => l) (fun v _ ih i l => ih (Nat.succ i) (.cons i v l)) vs i l
theorem mkL_get : ∀ (vs : List HV) (i : Nat) (l : Fl) (t : Nat) (v : HV),(mkL vs i l).get t = some v → (i ≤ t ∧ vs[t - i]? = some v) ∨ l.get t = some v := by
 intro vs
 induction vs with
 | nil => intro i l t v h; exact .inr h
 | cons x vs ih =>
  intro i l t v h
  replace h : (mkL vs (i + 1) (.cons i x l)).get t = some v := h
  rcases ih _ _ _ _ h with ⟨h1,h2⟩ | h2
  ·refine .inl ⟨by omega,?_⟩
   rw [show t - i = (t - (i + 1)) + 1 by omega]
   exact h2
  ·rw [Fl.get_cons] at h2
   by_cases e : i = t
   ·subst e
    rw [show Nat.beq i i = true by simp,cond_true] at h2
    cases h2
    exact .inl ⟨Nat.le_refl _,by simp⟩
   ·rw [nbeq_ne e,cond_false] at h2
    exact .inr h2
theorem mkL_agr (vs : List HV) (nt : Nat) : Agr (vs.length + (nt - vs.length)) (mkL vs 0 .nil) [] { tmps := vs ++ List.replicate (nt - vs.length) (.tup []),defers := [] } := by
 refine ⟨rfl,by simp,fun t v h => ?_⟩
 rcases mkL_get _ _ _ _ _ h with ⟨_,h1⟩ | h1
 ·rw [Nat.sub_zero] at h1
  have hlt := (List.getElem?_eq_some_iff.1 h1).1
  show (vs ++ _)[t]? = some v
  rw [List.getElem?_append_left hlt,h1]
 ·cases h1
def mkP (ps : List Tmp) (vs : List HV) (l : Fl) : Fl :=
 List.rec (motive := fun _ => List HV → Fl → Fl) (fun _ l => l) (fun p _ ih vs l => List.rec (motive := fun _ => Fl) l (fun v vs _ => ih vs (.cons p v l)) vs) ps vs l
theorem mkP_agr {n : Nat} {ds : List Nat} : ∀ (ps : List Tmp) (vs : List HV) (l : Fl) (a : HAct),Agr n l ds a → ps.all (fun p => Nat.ble (p + 1) n) = true → Agr n (mkP ps vs l) ds { tmps := HAct.params a.tmps ps vs,defers := a.defers } := by
 intro ps
 induction ps with
 | nil => intro vs l a h _; cases vs <;> exact h
 | cons p ps ih =>
  intro vs l a h hp
  simp only [List.all_cons,Bool.and_eq_true] at hp
  cases vs with
  | nil => exact h
  | cons v vs => exact ih vs (.cons p v l) (a.put (some p) v) (h.put (Nat.le_of_ble_eq_true hp.1) v) hp.2
end
noncomputable section
def Off (S S' : HS) (ids : List Nat) : Prop := ∀ i,i ∉ ids → S'.heap i = S.heap i ∧ S'.mrk i = S.mrk i
theorem Off.refl (S : HS) (ids : List Nat) : Off S S ids := fun _ _ => ⟨rfl,rfl⟩
theorem Off.put (S : HS) (id : Nat) (o : HObj) {ids : List Nat} (h : id ∈ ids) : Off S (S.put id o) ids := fun i hi => ⟨put_other o (fun e => hi (e ▸ h)),rfl⟩
theorem Off.newM (S : HS) (o : HObj) (m : Nat) {ids : List Nat} (h : S.next ∈ ids) : Off S (S.newM o m) ids := fun i hi => by
 have hne : i ≠ S.next := fun e => hi (e ▸ h)
 simp [HS.newM,hne]
theorem Off.trans {S S1 S2 : HS} {ids : List Nat} (h : Off S S1 ids) (k : Off S1 S2 ids) : Off S S2 ids := fun i hi => ⟨(k i hi).1.trans (h i hi).1,(k i hi).2.trans (h i hi).2⟩
def Sl.ids (S : HS) (s : Sl) : List Nat := match s.a with | none => [S.next] | some (id,_) => [id,S.next]
theorem Sl.ids_at {S : HS} {s : Sl} {id off : Nat} (h : s.a = some (id,off)) : id ∈ s.ids S ∧ S.next ∈ s.ids S := by simp [Sl.ids,h]
theorem Sl.ids_next {S : HS} {s : Sl} : S.next ∈ s.ids S := by unfold Sl.ids; split <;> simp
theorem sets_off {S S' : HS} {ad : HA} {vs : List HV} (h : S.sets ad vs = some S') : Off S S' [ad.id] := by
 unfold HS.sets at h
 split at h
 ·split at h
  ·split at h
   ·cases h; exact .put _ _ _ (by simp)
   ·cases h
  ·cases h
 ·cases h
theorem appT_off {S S' : HS} {s s' : Sl} {new : List (List HV)} {z e : Nat} (h : S.appT s new z e = some (s',S')) : Off S S' (s.ids S) := by
 unfold HS.appT at h
 split at h
 ·cases h; exact .refl _ _
 ·split at h
  ·split at h
   ·split at h
    ·cases h; exact .newM _ _ _ Sl.ids_next
    ·cases h
   ·rename_i id off ha
    obtain ⟨i1,i2⟩ := Sl.ids_at (S := S) ha
    split at h
    ·split at h
     ·split at h
      ·split at h
       ·split at h
        ·cases h; exact .put _ _ _ i1
        ·cases h
       ·cases h; exact .newM _ _ _ i2
      ·split at h
       ·split at h
        ·cases h; exact .put _ _ _ i1
        ·split at h
         ·cases h; exact (Off.put _ _ _ i1).trans (.newM _ _ _ i2)
         ·cases h
       ·cases h
     ·cases h
    ·cases h
  ·cases h
theorem app_off {S S' : HS} {s s' : Sl} {new : List (List HV)} {z : Nat} (h : S.app s new z = some (s',S')) : Off S S' (s.ids S) := by
 unfold HS.app at h
 split at h
 ·cases h; exact .refl _ _
 ·split at h
  ·split at h
   ·split at h
    ·cases h; exact .newM _ _ _ Sl.ids_next
    ·cases h
   ·rename_i id off ha
    obtain ⟨i1,i2⟩ := Sl.ids_at (S := S) ha
    split at h
    ·split at h
     ·split at h
      ·split at h
       ·split at h
        ·cases h; exact .put _ _ _ i1
        ·cases h
       ·cases h; exact .newM _ _ _ i2
      ·split at h
       ·split at h
        ·cases h; exact .put _ _ _ i1
        ·split at h
         ·cases h; exact (Off.put _ _ _ i1).trans (.newM _ _ _ i2)
         ·cases h
       ·cases h
     ·cases h
    ·cases h
  ·cases h
theorem over_off {S S' : HS} {s : Sl} {new : List (List HV)} {z : Nat} (h : S.over s new z = some S') : Off S S' (s.ids S) := by
 unfold HS.over at h
 split at h
 ·cases h; exact .refl _ _
 ·split at h
  ·cases h
  ·rename_i id off ha
   split at h
   ·split at h
    ·cases h; exact .put _ _ _ (Sl.ids_at ha).1
    ·cases h
   ·cases h
theorem make_off {S S' : HS} {s : Sl} {n c : Int} {zr : List HV} (h : S.make n c zr = some (s,S')) : Off S S' [S.next] := by
 unfold HS.make at h
 split at h
 ·cases h; exact .newM _ _ _ (by simp)
 ·cases h
theorem mput_off {S S' : HS} {r : Nat} {k v : HV} (h : S.mput (some r) k v = some S') : Off S S' [r] := by
 simp only [HS.mput] at h
 split at h
 ·rename_i es he
  cases hm : mfind k es 0 with
  | none => rw [hm] at h; cases h
  | some x =>
   rw [hm] at h
   cases x <;> (cases h; exact .put _ _ _ (by simp))
 ·cases h
theorem mdel_off {S S' : HS} {r : Nat} {k : HV} (h : S.mdel (some r) k = some S') : Off S S' [r] := by
 simp only [HS.mdel] at h
 split at h
 ·rename_i es he
  cases hm : mfind k es 0 with
  | none => rw [hm] at h; cases h
  | some x =>
   rw [hm] at h
   cases x <;> (cases h; exact .put _ _ _ (by simp))
 ·cases h
theorem ustr_off {S S' : HS} {ad : HA} {n : Int} {e : Nat} {t : List UInt8} (h : S.ustr (some ad) n e = some (t,S')) : Off S S' [ad.id] := by
 unfold HS.ustr at h
 split at h
 ·cases h; exact .refl _ _
 ·simp only at h
  split at h
  ·split at h
   ·rename_i rows _ _
    obtain ⟨t',h1,h2⟩ := Option.map_eq_some_iff.1 h
    cases h2
    exact .put _ _ _ (by simp)
   ·cases h
  ·cases h
def cv (d : Nat) : Value → Option HV :=
 Nat.rec (motive := fun _ => Value → Option HV) (fun _ => none) (fun _ ih v => match v with
  | .bool b => some (.bool b)
  | .int k n => some (.int k n)
  | .string s => some (.str s.data.toList)
  | .pointer none => some (.ptr none)
  | .slice none 0 0 => some (.sl none 0 none)
  | .map none => some (.map none)
  | .nilFunc => some .nilFn
  | .nilIface => some .nilIf
  | .agg cs => (cs.toList.mapM ih).map .agg
  | .tuple cs => (cs.toList.mapM ih).map .tup
  | _ => none) d
theorem mapM_rel {f : Value → Option HV} {β : Bt} (hf : ∀ v u,f v = some u → VRel β u v) : ∀ (l : List Value) (us : List HV),l.mapM f = some us → VRels β us l.toArray := by
 intro l
 induction l with
 | nil => intro us h; simp at h; subst h; exact VRels.nil β
 | cons v l ih =>
  intro us h
  rw [List.mapM_cons] at h
  obtain ⟨u,h1,h⟩ := Option.bind_eq_some_iff.1 h
  obtain ⟨us',h2,h⟩ := Option.bind_eq_some_iff.1 h
  cases h
  exact VRels.cons (hf v u h1) (ih us' h2)
theorem cv_ok (β : Bt) : ∀ (d : Nat) (v : Value) (u : HV),cv d v = some u → VRel β u v := by
 intro d
 induction d with
 | zero => intro v u h; cases h
 | succ d ih =>
  intro v u h
  unfold cv at h
  simp only at h
  split at h
  ·cases h; exact .bool _
  ·cases h; exact .int _ _
  ·rename_i s
   cases h
   obtain ⟨⟨l⟩⟩ := s
   exact .str l
  ·cases h; exact .ptrNil
  ·cases h; exact .slNil _
  ·cases h; exact .mapNil
  ·cases h; exact .nilFn
  ·cases h; exact .nilIf
  ·rename_i cs
   obtain ⟨us,h1,h2⟩ := Option.map_eq_some_iff.1 h
   cases h2
   have := VRels.agg (mapM_rel (fun v u h => ih v u h) _ _ h1)
   simpa using this
  ·rename_i cs
   obtain ⟨us,h1,h2⟩ := Option.map_eq_some_iff.1 h
   cases h2
   have := VRels.tup (mapM_rel (fun v u h => ih v u h) _ _ h1)
   simpa using this
  ·cases h
def evT (t : Tmp) (l : Fl) : Option HV := l.get t
def evC (c : Value) (_ : Fl) : Option HV := cv 6 c
def evG (_ : Nat) (_ : Fl) : Option HV := none
def evF (f : FuncId) (_ : Fl) : Option HV := some (.fn (.func f) [] [])
def ev (l : Fl) (x : Operand) : Option HV := Operand.rec (motive := fun _ => Fl → Option HV) evT evC evG evF x l
theorem ev_ok {n : Nat} {ds : List Nat} {a : HAct} {l : Fl} {x : Operand} {v : HV} (ha : Agr n l ds a) (h : ev l x = some v) : Ev a x v := by
 cases x with
 | tmp t => exact .tmp (ha.at_ t v h)
 | const c => exact .const fun β => cv_ok β 6 c v h
 | global g => cases h
 | func f => cases h; exact .func _
end
end Go.Proofs.YtfningkbcfhheaaGreatDoor.HL
namespace Go.Proofs.YtfningkbcfhheaaGreatDoor.HL
set_option linter.unusedVariables false
open Go.RowKit (Below)
section
variable {P : Program} {base : Nat} {W0 : Env} {a : HAct} {S S' : HS} {o : Oper}
theorem ok_insert {t kt et : TypeId} {k v : HV} {x y u : Operand} {r : Option Nat} (ho : o.op = .insert t x y u) (ht : P.underlying t = some (.map kt et)) (hk : KeyOk P kt k) (hx : Ev a x (.map r)) (hy : Ev a y k) (hu : Ev a u v) (hv : S.mput r k v = some S') : OpOk P base W0 o a S (.tup []) S' := by
 refine ⟨by rw [ho]; simp,fun β w a' h1 h2 => ?_⟩
 obtain ⟨β',w',v',q1,q2,q3,q4⟩ := (ok_mapUpdate (o := { o with op := .mapUpdate t x y u }) (base := base) (W0 := W0) rfl ht hk hx hy hu hv).2 β w a' h1 h2
 have he : execOp a'.eval o = execOp a'.eval { o with op := .mapUpdate t x y u } := by simp only [execOp,ho]
 exact ⟨β',w',v',q1,by rw [he]; exact q2,q3,q4⟩
theorem ok_len_map {x : Operand} {tys : Array TypeId} {t kt et : TypeId} {r : Option Nat} {es : List (HV × HV)} (ho : o.op = .call ⟨.builtin .len,#[x],tys⟩) (h0 : tys[0]? = some t) (ht : P.underlying t = some (.map kt et)) (hx : Ev a x (.map r)) (hm : S.mp r = some es) : OpOk P base W0 o a S (.int .i64 es.length) S := by
 refine .pure (by rw [ho]; simp) fun β w a' h1 h2 => ?_
 have hxr := hx.rel h2
 generalize hxv : a'.eval x = xv at hxr
 refine ⟨.int .i64 es.length,?_,.int _ _⟩
 rcases HS.mp_rel h1 hm hxr with ⟨_,rfl,rfl⟩ | ⟨id,b,es',clk,_,_,rfl,_,_,hw,hE⟩
 ·simp [execOp,ho,resolve,invoke,builtin,hxv,Builtin.len_,h0,underlying,ht,goInt]
 ·simp [execOp,ho,resolve,invoke,builtin,hxv,Builtin.len_,h0,underlying,ht,goInt,getObj,Sem.run,hw,hE.1]
def bcount (s : List UInt8) (c : Int) : Int := s.foldl (fun (n : Int) x => if x = c.toNat.toUInt8 then n + 1 else n) 0
theorem fold_loop {β : Type} (f : β → UInt8 → β) (s : List UInt8) (h : (ByteArray.mk s.toArray).size ≤ (ByteArray.mk s.toArray).size) : ∀ (i j : Nat) (b : β),i + j = s.length → ByteArray.foldlM.loop (m := _root_.Id) (fun x1 x2 => pure (f x1 x2)) ⟨s.toArray⟩ (ByteArray.mk s.toArray).size h i j b = (s.drop j).foldl f b := by
 intro i
 induction i with
 | zero =>
  intro j b hj
  rw [ByteArray.foldlM.loop.eq_def,dif_neg (by rw [size_mk]; omega),List.drop_of_length_le (by omega)]
  rfl
 | succ i ih =>
  intro j b hj
  have hlt : j < s.length := by omega
  rw [ByteArray.foldlM.loop.eq_def,dif_pos (by rw [size_mk]; omega),List.drop_eq_getElem_cons hlt,List.foldl_cons]
  exact ih (j + 1) _ (by omega)
theorem fold_mk {β : Type} (f : β → UInt8 → β) (s : List UInt8) (b : β) : (ByteArray.mk s.toArray).foldl f b = s.foldl f b := by
 unfold ByteArray.foldl ByteArray.foldlM
 simp only [Nat.le_refl,dite_true,Nat.sub_zero]
 exact fold_loop f s (Nat.le_refl _) (ByteArray.mk s.toArray).size 0 b (by rw [size_mk]; rfl)
theorem run_count (s : List UInt8) (c : Int) (w : World) : (Extern.BytealgCount.count #[.string ⟨s.toArray⟩,.int .u8 c]).run P w = .ok (.int .i64 (bcount s c)) w := by
 change Sem.run P (do
  let b ← Extern.Bytes.bytesOf (.string ⟨s.toArray⟩)
  let c' ← Extern.Bytes.asByte (.int .u8 c)
  pure (goInt (b.foldl (fun n x => if x == c' then n + 1 else n) (0 : Nat)))) w = _
 simp only [Extern.Bytes.bytesOf,Extern.Bytes.asByte,Sem.run_bind,Sem.run_pure,Result.andThen,goInt]
 have key : (ByteArray.mk s.toArray).foldl (fun (n : Int) x => if (x == c.toNat.toUInt8) = true then n + 1 else n) ((0 : Nat) : Int) = bcount s c := by
  rw [fold_mk]
  unfold bcount
  simp only [beq_iff_eq]
  rfl
 rw [key]
theorem ok_count {f : FuncId} {x y : Operand} {tys : Array TypeId} {s : List UInt8} {c : Int} (ho : o.op = .call ⟨.value (.func f),#[x,y],tys⟩) (hf : ExtAt P f Extern.BytealgCount.count) (hx : Ev a x (.str s)) (hy : Ev a y (.int .u8 c)) : OpOk P base W0 o a S (.int .i64 (bcount s c)) S := by
 refine ok_ext ho hf (Evs.cons hx (Evs.cons hy Evs.nil)) fun β w vs' h => ?_
 obtain ⟨hl,hv⟩ := h
 obtain ⟨u1,u2,rfl⟩ : ∃ u1 u2,vs' = #[u1,u2] := by
  obtain ⟨l⟩ := vs'
  match l,hl with
  | [u1,u2],_ => exact ⟨u1,u2,rfl⟩
 have h1 := hv 0 (.str s) u1 rfl rfl
 have h2 := hv 1 (.int .u8 c) u2 rfl rfl
 cases h1
 cases h2
 exact ⟨_,run_count _ _ _,.int _ _⟩
def HS.share (S : HS) (s : Sl) : Option HS :=
 match s.a with
 | some (id,_) => (match S.heap id with | .cells 1 rows true => some (S.put id (.cells 1 rows false)) | _ => none)
 | none => none
theorem ok_conv_same {t e : TypeId} {x : Operand} {s : Sl} (ho : o.op = .convert t t x) (ht : P.underlying t = some (.slice e)) (he : P.underlying e = some (.int .u8)) (hx : Ev a x s.hv) (hl : 0 < s.len) (hv : S.share s = some S') : OpOk P base W0 o a S s.hv S' := by
 refine ⟨by rw [ho]; simp,fun β w a' h h2 => ?_⟩
 obtain ⟨sa,len,c⟩ := s
 have hxr := hx.rel h2
 generalize hxv : a'.eval x = xv at hxr
 unfold HS.share at hv
 split at hv
 ·rename_i id off hsa
  simp only at hsa
  subst hsa
  split at hv
  ·rename_i rows hS
   cases hv
   have ho' := h.objs id
   rw [hS] at ho'
   obtain ⟨b,ob,tot,arr,ty,fr,q1,q2,q3,q4,q5,q6,q7⟩ := ho'
   simp only [Sl.hv] at hxr
   cases hxr with
   | @sl _ b1 o1 z1 n1 tot1 _ _ cap _ g1 g2 g3 g4 g5 g6 =>
    rw [q1] at g1
    cases g1
    obtain ⟨fr',hfr⟩ := freeze_is (off := tot) (n := 1) q2 (by omega)
    have hlt : b < w.heap.size := (Array.getElem?_eq_some_iff.1 q2).1
    refine ⟨β,{ w with heap := w.heap.setIfInBounds b (.cells arr ty fr') },.slice (some ⟨b,ob + off * 1,none⟩) len cap,Le.refl _,.inl ?_,.sl q1 g2 g3 g4 g5 g6,?_⟩
    ·have hms : (markStringish ⟨b,ob + off * 1,none⟩).run P w = .ok () { w with heap := w.heap.setIfInBounds b (.cells arr ty fr') } := by
      have hsh : w.shape? b = some (ty,arr.size) := by simp [World.shape?,q2]
      simp only [markStringish,Sem.run_bind,run_shape,hsh,Result.andThen_ok,run_freeze]
      rw [q3,hfr]
     simp only [execOp,ho,hxv,convert,Sem.run_bind,underlying,run_program,Result.andThen_ok,ht,he,Sem.run_pure,beq_self_eq_true]
     rw [hms]
     rfl
    ·refine h.setObj (by rw [q1]; rfl) (q7 rfl).1 (by rw [hS]; rfl) (by rw [hS]; rfl) ?_
     exact ⟨b,ob,tot,arr,ty,fr',q1,by simp [hlt],q3,q4,q5,q6,fun hq => by cases hq⟩
   | slEnd => exact absurd hl (Nat.lt_irrefl _)
  ·cases hv
 ·cases hv
theorem ok_nil_if {op : BinOp} {t ty : TypeId} {x : Operand} {b : Bool} {ms : Array (String × TypeId)} (ho : o.op = .binOp op t x (.const .nilIface) ty) (ht : P.underlying t = some (.interface ms)) (hx : Ev a x .nilIf) (hop : op = .eql ∧ b = true ∨ op = .neq ∧ b = false) : OpOk P base W0 o a S (.bool b) S := by
 refine .pure (by rw [ho]; simp) fun β w a' _ h2 => ⟨.bool b,?_,.bool b⟩
 have hr := hx.rel h2
 generalize hxv : a'.eval x = xv at hr
 have hc : a'.eval (.const .nilIface) = .nilIface := rfl
 cases hr
 have he : (Op.equalIn (9999 + 1) t .nilIface .nilIface).run P w = .ok true w := by unfold Op.equalIn; simp [underlying,ht]
 rcases hop with ⟨rfl,rfl⟩ | ⟨rfl,rfl⟩ <;> simp [execOp,ho,hxv,hc,eqGuard,binOp,equal_def,he]
end
end Go.Proofs.YtfningkbcfhheaaGreatDoor.HL
namespace Go.Proofs.YtfningkbcfhheaaGreatDoor.HL
set_option linter.unusedVariables false
noncomputable section
open Go.RowKit (Below)
section
variable {P : Program} {base : Nat} {W0 : Env} {a : HAct} {S : HS} {o : Oper}
def pairOp (op : BinOp) (q : Bool) : Option HV :=
 match op with
 | .eql => some (.bool q)
 | .neq => some (.bool (!q))
 | _ => none
theorem pairOp_out {op : BinOp} {q : Bool} {v : HV} (h : pairOp op q = some v) : ∃ b,v = .bool b ∧ (op = .eql ∧ b = q ∨ op = .neq ∧ b = !q) := by
 unfold pairOp at h
 split at h
 ·cases h; exact ⟨_,rfl,.inl ⟨rfl,rfl⟩⟩
 ·cases h; exact ⟨_,rfl,.inr ⟨rfl,rfl⟩⟩
 ·cases h
def binI (op : BinOp) (k k' : IntKind) (m n : Int) : Option HV :=
 match op with
 | .shl => if 0 ≤ n then some (.int k (k.wrap (m * 2 ^ (min n.toNat k.bits)))) else none
 | .shr => if 0 ≤ n then some (.int k (m.fdiv (2 ^ (min n.toNat k.bits)))) else none
 | .quo => if k = k' ∧ n ≠ 0 then some (.int k (k.wrap (m.tdiv n))) else none
 | .rem => if k = k' ∧ n ≠ 0 then some (.int k (m.tmod n)) else none
 | op => if k = k' then ibin op k m n else none
theorem binI_ok {op : BinOp} {t ty : TypeId} {x y : Operand} {k k' : IntKind} {m n : Int} {v : HV} (ho : o.op = .binOp op t x y ty) (hx : Ev a x (.int k m)) (hy : Ev a y (.int k' n)) (h : binI op k k' m n = some v) : OpOk P base W0 o a S v S := by
 unfold binI at h
 split at h
 ·split at h
  ·cases h; exact ok_shl ho hx hy (by assumption)
  ·cases h
 ·split at h
  ·cases h; exact ok_shr ho hx hy (by assumption)
  ·cases h
 ·split at h
  ·rename_i hc; obtain ⟨rfl,hn⟩ := hc; cases h; exact ok_quo ho hx hy hn
  ·cases h
 ·split at h
  ·rename_i hc; obtain ⟨rfl,hn⟩ := hc; cases h; exact ok_rem ho hx hy hn
  ·cases h
 ·split at h
  ·rename_i hc; subst hc; exact ok_ibin ho hx hy h
  ·cases h
def binS (op : BinOp) (m n : List UInt8) : Option HV :=
 match op with
 | .add => if m.length + n.length ≤ 9223372036854775807 then some (.str (m ++ n)) else none
 | op => sbin op m n
theorem binS_ok {op : BinOp} {t ty : TypeId} {x y : Operand} {m n : List UInt8} {v : HV} (ho : o.op = .binOp op t x y ty) (hx : Ev a x (.str m)) (hy : Ev a y (.str n)) (h : binS op m n = some v) : OpOk P base W0 o a S v S := by
 unfold binS at h
 split at h
 ·split at h
  ·cases h; exact ok_sadd ho hx hy (by assumption)
  ·cases h
 ·exact ok_sbin ho hx hy h
def binR (P : Program) (op : BinOp) (t : TypeId) (y : Operand) (vx vy : HV) : Option HV :=
 match vx with
 | .int k m => match vy with | .int k' n => binI op k k' m n | _ => none
 | .str m => match vy with | .str n => binS op m n | _ => none
 | .bool p => match vy with
  | .bool q => match P.underlying t with | some .bool => pairOp op (p == q) | _ => none
  | _ => none
 | .ptr p => match vy with
  | .ptr q => match P.underlying t with | some (.pointer e) => if (P.info? e).isSome = true then (pEq p q).bind (pairOp op) else none | _ => none
  | _ => none
 | .sl p _ _ => match y with
  | .const (.slice none 0 0) => match P.underlying t with | some (.slice _) => pairOp op p.isNone | _ => none
  | _ => none
 | .map p => match y with
  | .const (.map none) => match P.underlying t with | some (.map _ _) => pairOp op p.isNone | _ => none
  | _ => none
 | .fn _ _ _ => match y with
  | .const .nilFunc => match P.underlying t with | some (.func _ _ _) => pairOp op false | _ => none
  | _ => none
 | .nilFn => match y with
  | .const .nilFunc => match P.underlying t with | some (.func _ _ _) => pairOp op true | _ => none
  | _ => none
 | .nilIf => match y with
  | .const .nilIface => match P.underlying t with | some (.interface _) => pairOp op true | _ => none
  | _ => none
 | .agg xs => match vy with
  | .agg ys => if structChk P t (xs.map kindOf) = true ∧ P.eqGuardType P.depth t = false then (kSames xs ys).bind (pairOp op) else none
  | _ => none
 | _ => none
theorem binR_ok {op : BinOp} {t ty : TypeId} {x y : Operand} {vx vy v : HV} (ho : o.op = .binOp op t x y ty) (hx : Ev a x vx) (hy : Ev a y vy) (h : binR P op t y vx vy = some v) : OpOk P base W0 o a S v S := by
 unfold binR at h
 split at h
 ·split at h
  ·exact binI_ok ho hx hy h
  ·cases h
 ·split at h
  ·exact binS_ok ho hx hy h
  ·cases h
 ·split at h
  ·split at h
   ·rename_i hu
    obtain ⟨b,rfl,hb⟩ := pairOp_out h
    exact ok_beq ho hu hb hx hy
   ·cases h
  ·cases h
 ·split at h
  ·split at h
   ·rename_i e hu
    split at h
    ·rename_i hi
     obtain ⟨q,h1,h⟩ := Option.bind_eq_some_iff.1 h
     obtain ⟨b,rfl,hb⟩ := pairOp_out h
     exact ok_ptr_eq ho hu hi hx hy h1 hb
    ·cases h
   ·cases h
  ·cases h
 ·split at h
  ·split at h
   ·rename_i hu
    obtain ⟨b,rfl,hb⟩ := pairOp_out h
    exact ok_nil_sl ho hu hx hb
   ·cases h
  ·cases h
 ·split at h
  ·split at h
   ·rename_i hu
    obtain ⟨b,rfl,hb⟩ := pairOp_out h
    exact ok_nil_map ho hu hx hb
   ·cases h
  ·cases h
 ·split at h
  ·split at h
   ·rename_i hu
    obtain ⟨b,rfl,hb⟩ := pairOp_out h
    exact ok_nil_fn ho hu hx rfl hb
   ·cases h
  ·cases h
 ·split at h
  ·split at h
   ·rename_i hu
    obtain ⟨b,rfl,hb⟩ := pairOp_out h
    exact ok_nil_fn ho hu hx rfl hb
   ·cases h
  ·cases h
 ·split at h
  ·split at h
   ·rename_i hu
    obtain ⟨b,rfl,hb⟩ := pairOp_out h
    exact ok_nil_if ho hu hx (by simpa using hb)
   ·cases h
  ·cases h
 ·split at h
  ·split at h
   ·rename_i hc
    obtain ⟨q,h1,h⟩ := Option.bind_eq_some_iff.1 h
    obtain ⟨b,rfl,hb⟩ := pairOp_out h
    exact ok_agg_eq ho hc.1 hc.2 rfl hx hy h1 hb
   ·cases h
  ·cases h
 ·cases h
def unR (op : UnOp) (vx : HV) : Option HV :=
 match op with
 | .not => match vx with | .bool b => some (.bool (!b)) | _ => none
 | .neg => match vx with | .int k n => some (.int k (k.wrap (0 - n))) | _ => none
 | _ => none
theorem unR_ok {op : UnOp} {t : TypeId} {x : Operand} {vx v : HV} (ho : o.op = .unOp op t x) (hx : Ev a x vx) (h : unR op vx = some v) : OpOk P base W0 o a S v S := by
 unfold unR at h
 split at h
 ·split at h
  ·cases h; exact ok_not ho hx
  ·cases h
 ·split at h
  ·cases h; exact ok_neg ho hx
  ·cases h
 ·cases h
abbrev Out := HV × HS × List Nat
def same (S : HS) (v : HV) : Out := (v,S,[])
def Does (P : Program) (base : Nat) (W0 : Env) (o : Oper) (a : HAct) (S : HS) (r : Out) : Prop := OpOk P base W0 o a S r.1 r.2.1 ∧ Off S r.2.1 r.2.2
theorem Does.pure {v : HV} (h : OpOk P base W0 o a S v S) : Does P base W0 o a S (same S v) := ⟨h,.refl _ _⟩
def isU8 (P : Program) (e : TypeId) : Bool := match P.underlying e with | some (.int .u8) => true | _ => false
theorem isU8_out {e : TypeId} (h : isU8 P e = true) : P.underlying e = some (.int .u8) := by
 unfold isU8 at h
 split at h
 ·assumption
 ·cases h
theorem share_off {S S' : HS} {s : Sl} (h : S.share s = some S') : Off S S' (s.ids S) := by
 unfold HS.share at h
 split at h
 ·rename_i id off ha
  split at h
  ·cases h; exact .put _ _ _ (Sl.ids_at ha).1
  ·cases h
 ·cases h
def convR (P : Program) (S : HS) (src dst : TypeId) (vx : HV) : Option Out :=
 match P.underlying src with
 | none => none
 | some ds => match P.underlying dst with
  | some (.int k') => match vx with | .int k n => some (same S (.int k' (k'.wrap n))) | _ => none
  | some .string => match ds with
   | .string => match vx with | .str s => some (same S (.str s)) | _ => none
   | .slice e => match vx with | .sl q n c => if isU8 P e = true then (S.text ⟨q,n,c⟩).map fun t => same S (.str t) else none | _ => none
   | _ => none
  | some (.slice e) => match ds with
   | .string => match vx with | .str s => if isU8 P e = true then some ((S.ofStr s).1.hv,(S.ofStr s).2,[S.next]) else none | _ => none
   | .slice _ => match vx with | .sl q n c => if src = dst ∧ isU8 P e = true ∧ 0 < n then (S.share ⟨q,n,c⟩).map fun S' => (.sl q n c,S',Sl.ids S ⟨q,n,c⟩) else none | _ => none
   | _ => none
  | some .unsafePointer => match ds with
   | .pointer t => match vx with | .ptr p => if (P.info? t).map (decide <| ·.size ≠ 0) = some true ∧ S.spot p = true then some (same S (.ptr p)) else none | _ => none
   | _ => none
  | some (.pointer t) => match ds with
   | .unsafePointer => match vx with | .ptr p => if (P.info? t).isSome = true ∧ 0 < P.cellsOf t ∧ S.spotT p t (P.cellsOf t) = true then some (same S (.ptr p)) else none | _ => none
   | _ => none
  | _ => none
theorem convR_ok {src dst : TypeId} {x : Operand} {vx : HV} {r : Out} (ho : o.op = .convert src dst x) (hx : Ev a x vx) (h : convR P S src dst vx = some r) : Does P base W0 o a S r := by
 unfold convR at h
 split at h
 ·cases h
 ·rename_i ds hs
  split at h
  ·rename_i k' hd
   split at h
   ·cases h; exact .pure (ok_conv_int ho hs hd hx)
   ·cases h
  ·rename_i hd
   split at h
   ·split at h
    ·cases h; exact .pure (ok_conv_str ho hs hd hx)
    ·cases h
   ·split at h
    ·split at h
     ·rename_i he
      obtain ⟨t,h1,h2⟩ := Option.map_eq_some_iff.1 h
      cases h2
      exact .pure (ok_str_of_bytes (s := ⟨_,_,_⟩) ho hs (isU8_out he) hd hx h1)
     ·cases h
    ·cases h
   ·cases h
  ·rename_i e hd
   split at h
   ·split at h
    ·split at h
     ·rename_i he
      cases h
      exact ⟨ok_ofStr_s ho hs hd (isU8_out he) hx rfl,.newM _ _ _ (by simp)⟩
     ·cases h
    ·cases h
   ·split at h
    ·split at h
     ·rename_i hc
      obtain ⟨rfl,he,hn⟩ := hc
      obtain ⟨S',h1,h2⟩ := Option.map_eq_some_iff.1 h
      cases h2
      exact ⟨ok_conv_same (s := ⟨_,_,_⟩) ho hd (isU8_out he) hx hn h1,share_off h1⟩
     ·cases h
    ·cases h
   ·cases h
  ·rename_i hd
   split at h
   ·split at h
    ·split at h
     ·rename_i hc; cases h; exact .pure (ok_toUnsafe ho hs hd hc.1 hx hc.2)
     ·cases h
    ·cases h
   ·cases h
  ·rename_i t hd
   split at h
   ·split at h
    ·split at h
     ·rename_i hc; cases h; exact .pure (ok_fromUnsafe ho hs hd hc.1 rfl hc.2.1 hx hc.2.2)
     ·cases h
    ·cases h
   ·cases h
  ·cases h
def nilR (vx : HV) : Option HV :=
 match vx with
 | .ptr (some q) => some (.ptr (some q))
 | .fn g xs ys => some (.fn g xs ys)
 | _ => none
theorem nilR_ok {x : Operand} {vx v : HV} (ho : o.op = .nilCheck x) (hx : Ev a x vx) (h : nilR vx = some v) : OpOk P base W0 o a S v S := by
 unfold nilR at h
 split at h
 ·rename_i q; cases h; exact ok_nilCheck ho hx ⟨q,.inl rfl⟩
 ·rename_i g xs ys; cases h; exact ok_nilCheck ho hx ⟨⟨0,0,0⟩,.inr ⟨g,xs,ys,rfl⟩⟩
 ·cases h
def fldR (P : Program) (s : TypeId) (f : Nat) (vx : HV) : Option HV :=
 match vx with
 | .ptr (some ad) => match fieldInfo P s f with | some (off,_,n) => if n ≠ 0 then some (.ptr (some (ad.fld off))) else none | none => none
 | _ => none
theorem fldR_ok {s : TypeId} {x : Operand} {f : Nat} {vx v : HV} (ho : o.op = .fieldAddr s x f) (hx : Ev a x vx) (h : fldR P s f vx = some v) : OpOk P base W0 o a S v S := by
 unfold fldR at h
 split at h
 ·split at h
  ·rename_i hf
   split at h
   ·rename_i hn; cases h; exact ok_fieldAddr_s ho hf hn hx rfl
   ·cases h
  ·cases h
 ·cases h
def shapeOf (P : Program) (t : TypeId) : Nat := match P.underlying t with | none => 0 | some (.struct _) => 2 | some (.array _ _) => 2 | some _ => 1
theorem shape_scalar {t : TypeId} (h : shapeOf P t = 1) : Scalar P t := by
 unfold shapeOf at h
 split at h
 ·cases h
 ·cases h
 ·cases h
 ·rename_i d h1 h2 h3
  refine ⟨d,h3,?_⟩
  cases d <;> first | trivial | exact (h1 _ rfl).elim | exact (h2 _ _ rfl).elim
def sizeOf? (P : Program) (t : TypeId) : Option Nat := (P.info? t).map (·.size)
theorem size_out {t n : Nat} (h : sizeOf? P t = some n) : ∃ i,P.info? t = some i ∧ i.size = n := by
 unfold sizeOf? at h
 obtain ⟨i,h1,h2⟩ := Option.map_eq_some_iff.1 h
 exact ⟨i,h1,h2⟩
theorem shape_agg {t n : Nat} (h : shapeOf P t = 2) (hn : sizeOf? P t = some n) : IsAgg P t n := by
 refine ⟨?_,size_out hn⟩
 unfold shapeOf at h
 split at h
 ·cases h
 ·rename_i h1; exact ⟨_,h1,trivial⟩
 ·rename_i h1; exact ⟨_,h1,trivial⟩
 ·cases h
def fieldR (P : Program) (s : TypeId) (f : Nat) (vx : HV) : Option HV :=
 match vx with
 | .agg vs => match fieldInfo P s f with | some (off,u,_) => if shapeOf P u = 1 then vs[off]? else none | none => none
 | _ => none
theorem fieldR_ok {s : TypeId} {x : Operand} {f : Nat} {vx v : HV} (ho : o.op = .field s x f) (hx : Ev a x vx) (h : fieldR P s f vx = some v) : OpOk P base W0 o a S v S := by
 unfold fieldR at h
 split at h
 ·split at h
  ·rename_i hf
   split at h
   ·rename_i hn; exact ok_field ho hf (shape_scalar hn) hx h
   ·cases h
  ·cases h
 ·cases h
def loadR (P : Program) (S : HS) (t : TypeId) (vx : HV) : Option HV :=
 match vx with
 | .ptr (some ad) => match shapeOf P t with
  | 1 => S.get ad
  | 2 => match sizeOf? P t with | some n => (S.gets ad n).map .agg | none => none
  | _ => none
 | _ => none
theorem loadR_ok {t : TypeId} {x : Operand} {vx v : HV} (ho : o.op = .load t x) (hx : Ev a x vx) (h : loadR P S t vx = some v) : OpOk P base W0 o a S v S := by
 unfold loadR at h
 split at h
 ·split at h
  ·rename_i hs; exact ok_load_s ho (shape_scalar hs) hx rfl h
  ·rename_i hs
   split at h
   ·rename_i n hn
    obtain ⟨vs,h1,h2⟩ := Option.map_eq_some_iff.1 h
    cases h2
    exact ok_load_arr ho (shape_agg hs hn) hx rfl h1
   ·cases h
  ·cases h
 ·cases h
def allFlat (vs : List HV) : Bool := vs.all (·.flat)
def storeR (P : Program) (S : HS) (t : TypeId) (vx vy : HV) : Option Out :=
 match vx with
 | .ptr (some ad) => match sizeOf? P t with
  | some n => if n = vy.cells.length ∧ allFlat vy.cells = true then (S.sets ad vy.cells).map fun S' => (.tup [],S',[ad.id]) else none
  | none => none
 | _ => none
theorem storeR_ok {t : TypeId} {x y : Operand} {vx vy : HV} {r : Out} (ho : o.op = .store t x y) (hx : Ev a x vx) (hy : Ev a y vy) (h : storeR P S t vx vy = some r) : Does P base W0 o a S r := by
 unfold storeR at h
 split at h
 ·split at h
  ·rename_i n hn
   split at h
   ·rename_i hc
    obtain ⟨rfl,hf⟩ := hc
    obtain ⟨S',h1,h2⟩ := Option.map_eq_some_iff.1 h
    cases h2
    exact ⟨ok_store_s ho (size_out hn) hx rfl hy hf h1,sets_off h1⟩
   ·cases h
  ·cases h
 ·cases h
def zeroR (P : Program) (t : TypeId) : Option (List HV) := match P.info? t with | some i => (match i.zero with | some zv => zv.cells.toList.mapM (cv 6) | none => none) | none => none
theorem zeroR_out {t : TypeId} {r : List HV} (h : zeroR P t = some r) : ∃ i zv,P.info? t = some i ∧ i.zero = some zv ∧ ∀ β,VRels β r zv.cells := by
 unfold zeroR at h
 split at h
 ·rename_i i hi
  split at h
  ·rename_i zv hz
   refine ⟨i,zv,hi,hz,fun β => ?_⟩
   have := mapM_rel (fun v u h => cv_ok β 6 v u h) _ _ h
   simpa using this
  ·cases h
 ·cases h
theorem zero_info {t : TypeId} {i : TypeInfo} {zv : Value} (h1 : P.info? t = some i) (h2 : i.zero = some zv) : (P.info? t).map (·.zero) = some (some zv) := by rw [h1]; simp [h2]
def allocR (P : Program) (S : HS) (t : TypeId) : Option Out :=
 match zeroR P t with
 | some r => if 0 < r.length ∧ allFlat r = true then some (.ptr (some (.cell0 S.next)),S.newM (.cells r.length [r] true) (t + 2),[S.next]) else none
 | none => none
theorem allocR_ok {t : TypeId} {r : Out} (ho : o.op = .alloc t) (h : allocR P S t = some r) : Does P base W0 o a S r := by
 unfold allocR at h
 split at h
 ·rename_i zr hz
  split at h
  ·rename_i hc
   obtain ⟨i,zv,h1,h2,h3⟩ := zeroR_out hz
   cases h
   exact ⟨ok_allocT ho (zero_info h1 h2) h3 hc.1 hc.2 rfl,.newM _ _ _ (by simp)⟩
  ·cases h
 ·cases h
def boxR (S : HS) (vx : HV) : Option Out :=
 if 0 < vx.cells.length ∧ allFlat vx.cells = true then some (.ptr (some (.cell0 S.next)),S.new (.cells vx.cells.length [vx.cells] true),[S.next]) else none
theorem boxR_ok {t : TypeId} {x : Operand} {vx : HV} {r : Out} (ho : o.op = .box t x) (hx : Ev a x vx) (h : boxR S vx = some r) : Does P base W0 o a S r := by
 unfold boxR at h
 split at h
 ·rename_i hc
  cases h
  exact ⟨ok_box_e ho hx hc.1 hc.2 rfl,.newM _ _ _ (by simp)⟩
 ·cases h
end
end
noncomputable section
open Go.RowKit (Below)
section
variable {P : Program} {base : Nat} {W0 : Env} {a : HAct} {S : HS} {o : Oper}
theorem evs_of {e : Operand → Option HV} : ∀ {xs : List Operand} {vs : List HV},(∀ x ∈ xs,∀ v,e x = some v → Ev a x v) → xs.mapM e = some vs → Evs a xs.toArray vs := by
 intro xs
 induction xs with
 | nil => intro vs _ h; simp at h; subst h; exact Evs.nil
 | cons x xs ih =>
  intro vs he h
  rw [List.mapM_cons] at h
  obtain ⟨v,h1,h⟩ := Option.bind_eq_some_iff.1 h
  obtain ⟨vs',h2,h⟩ := Option.bind_eq_some_iff.1 h
  cases h
  exact .cons (he x (by simp) v h1) (ih (fun y hy => he y (by simp [hy])) h2)
theorem zip_parts (l : List (Nat × Operand)) : (l.map (·.1)).zip (l.map (·.2)) = l := by
 induction l with
 | nil => rfl
 | cons x l ih => simp [ih]
def buildR (P : Program) (t : TypeId) (is : List Nat) (vs : List HV) : Option HV :=
 match P.underlying t with
 | some (.struct _) => (match structPlaces P t with
  | some pl => (match zeroR P t with | some zr => (hfill (pl[·]?) zr (is.zip vs)).map .agg | none => none)
  | none => none)
 | some (.array _ e) => (match sizeOf? P e with
  | some 1 => (match zeroR P t with | some zr => (hfill (fun i => some (i * 1,1)) zr (is.zip vs)).map .agg | none => none)
  | _ => none)
 | _ => none
theorem buildR_ok {t : TypeId} {parts : Array (Nat × Operand)} {vs : List HV} {v : HV} (ho : o.op = .build t parts) (hx : Evs a (parts.toList.map (·.2)).toArray vs) (h : buildR P t (parts.toList.map (·.1)) vs = some v) : OpOk P base W0 o a S v S := by
 have hp : parts = ((parts.toList.map (·.1)).zip (parts.toList.map (·.2))).toArray := by rw [zip_parts]
 unfold buildR at h
 split at h
 ·split at h
  ·rename_i pl hpl
   split at h
   ·rename_i zr hz
    obtain ⟨i,zv,h1,h2,h3⟩ := zeroR_out hz
    obtain ⟨r,h4,h5⟩ := Option.map_eq_some_iff.1 h
    cases h5
    exact ok_build (structAt_mk hpl (zero_info h1 h2) h3) ho hp (by simp) hx h4
   ·cases h
  ·cases h
 ·rename_i hu
  split at h
  ·rename_i hs
   split at h
   ·rename_i zr hz
    obtain ⟨i,zv,h1,h2,h3⟩ := zeroR_out hz
    obtain ⟨r,h4,h5⟩ := Option.map_eq_some_iff.1 h
    cases h5
    exact ok_buildArr (arrAt_mk hu (size_out hs) (zero_info h1 h2) h3) ho hp (by simp) hx h4
   ·cases h
  ·cases h
 ·cases h
def elemR (P : Program) (t : TypeId) : Option (Nat × Nat × List HV) :=
 match P.underlying t with
 | some (.slice e) => (match P.info? e with
  | some i => (match zeroR P e with
   | some zr => if i.bytes ≤ 4096 ∧ zr.length = i.size ∧ 0 < i.size ∧ allFlat zr = true then some (e,i.size,zr) else none
   | none => none)
  | none => none)
 | _ => none
theorem elemR_out {t e z : Nat} {zr : List HV} (h : elemR P t = some (e,z,zr)) : ElemAt P t e z zr := by
 unfold elemR at h
 split at h
 ·rename_i e0 hu
  split at h
  ·rename_i i hi
   split at h
   ·rename_i zr0 hz
    split at h
    ·rename_i hc
     obtain ⟨c1,c2,c3,c4⟩ := hc
     obtain ⟨i1,zv,h1,h2,h3⟩ := zeroR_out hz
     rw [hi] at h1; cases h1
     cases h
     exact ⟨hu,⟨i,zv,hi,rfl,c1,h2,h3⟩,⟨c2,c3⟩,fun v hv => List.all_eq_true.1 c4 v hv⟩
    ·cases h
   ·cases h
  ·cases h
 ·cases h
theorem idx_parts : ∀ (l : List (Nat × Operand)) (k : Nat),l.map (·.1) = List.range' k l.length → l = ((l.map (·.2)).zipIdx k).map fun p => (p.2,p.1) := by
 intro l
 induction l with
 | nil => intro k _; rfl
 | cons x l ih =>
  intro k h
  simp only [List.map_cons,List.length_cons,List.range'_succ,List.cons.injEq] at h
  have := ih (k + 1) h.2
  simp only [List.map_cons,List.zipIdx_cons]
  rw [← this,← h.1]
def litR (P : Program) (S : HS) (t : TypeId) (n : Nat) (is : List Nat) (vs : List HV) : Option Out :=
 match elemR P t with
 | some (e,z,zr) => if is = List.range' 0 is.length ∧ is.length = n ∧ n * z ≤ 65536 ∧ vs.all (fun v => v.cells.length == z) = true ∧ vs.all (fun v => allFlat v.cells) = true then some ((S.lit (vs.map HV.cells) z).1.hv,(S.lit (vs.map HV.cells) z).2,[S.next]) else none
 | none => none
theorem litR_ok {t : TypeId} {n : Nat} {parts : Array (Nat × Operand)} {vs : List HV} {r : Out} (ho : o.op = .buildSlice t n parts) (hx : Evs a (parts.toList.map (·.2)).toArray vs) (h : litR P S t n (parts.toList.map (·.1)) vs = some r) : Does P base W0 o a S r := by
 unfold litR at h
 split at h
 ·rename_i e z zr he
  split at h
  ·rename_i hc
   obtain ⟨c1,c2,c3,c4,c5⟩ := hc
   cases h
   refine ⟨ok_buildSlice_s (xs := parts.toList.map (·.2)) (elemR_out he) ho (idx_parts _ 0 (by simpa using c1)) (by simpa using c2) c3 hx c4 c5 rfl,.newM _ _ _ (by simp)⟩
  ·cases h
 ·cases h
def makeR (P : Program) (S : HS) (t : TypeId) (vx vy : HV) : Option Out :=
 match vx with
 | .int _ n => (match vy with
  | .int _ c => (match elemR P t with | some (_,_,zr) => (S.make n c zr).map fun p => (p.1.hv,p.2,[S.next]) | none => none)
  | _ => none)
 | _ => none
theorem makeR_ok {t : TypeId} {x y : Operand} {vx vy : HV} {r : Out} (ho : o.op = .makeSlice t x y) (hx : Ev a x vx) (hy : Ev a y vy) (h : makeR P S t vx vy = some r) : Does P base W0 o a S r := by
 unfold makeR at h
 split at h
 ·split at h
  ·split at h
   ·rename_i he
    obtain ⟨p,h1,h2⟩ := Option.map_eq_some_iff.1 h
    cases h2
    exact ⟨ok_make (elemR_out he) ho hx hy h1,make_off h1⟩
   ·cases h
  ·cases h
 ·cases h
def bndR (e : Operand → Option HV) (x : Option Operand) (d : Option Int) : Option (IntKind × Int) :=
 match x with
 | none => d.map fun n => (.i64,n)
 | some y => (match e y with | some (.int k n) => some (k,n) | _ => none)
theorem bndR_out {e : Operand → Option HV} {x : Option Operand} {d : Option Int} {k : IntKind} {n : Int} (he : ∀ y,x = some y → ∀ v,e y = some v → Ev a y v) (h : bndR e x d = some (k,n)) : (x = none ∧ d = some n) ∨ ∃ y,x = some y ∧ Ev a y (.int k n) := by
 unfold bndR at h
 split at h
 ·obtain ⟨m,h1,h2⟩ := Option.map_eq_some_iff.1 h
  cases h2
  exact .inl ⟨rfl,h1⟩
 ·rename_i y
  split at h
  ·rename_i k' n' h1; cases h; exact .inr ⟨y,rfl,he y rfl _ h1⟩
  ·cases h
def sliceR (P : Program) (S : HS) (e : Operand → Option HV) (t : TypeId) (vx : HV) (lo hi mx : Option Operand) : Option HV :=
 match bndR e lo (some 0) with
 | none => none
 | some (_,l) => match vx with
  | .str s => (match bndR e hi (some (s.length : Int)) with
   | some (_,h) => (match mx with
    | none => (match P.underlying t with | some .string => if 0 ≤ l ∧ l ≤ h ∧ h ≤ (s.length : Int) then some (.str ((s.drop l.toNat).take (h.toNat - l.toNat))) else none | _ => none)
    | some _ => none)
   | none => none)
  | .sl q n c => (match P.underlying t with
   | some (.slice el) => (match P.info? el with
    | some i => (match mx with
     | none => (match bndR e hi (some (n : Int)) with | some (_,h) => (S.cut ⟨q,n,c⟩ l h i.size).map Sl.hv | none => none)
     | some ym => (match bndR e hi none with | some (_,h) => (match e ym with | some (.int _ m) => (S.cut3 ⟨q,n,c⟩ l h m i.size).map Sl.hv | _ => none) | none => none))
    | none => none)
   | _ => none)
  | _ => none
theorem sliceR_ok {e : Operand → Option HV} {t : TypeId} {x : Operand} {lo hi mx : Option Operand} {vx v : HV} (ho : o.op = .slice t x lo hi mx) (hx : Ev a x vx) (he : ∀ y,(lo = some y ∨ hi = some y ∨ mx = some y) → ∀ v,e y = some v → Ev a y v) (h : sliceR P S e t vx lo hi mx = some v) : OpOk P base W0 o a S v S := by
 unfold sliceR at h
 split at h
 ·cases h
 ·rename_i kl l hlo
  have hlo := (bndR_out (fun y hy => he y (.inl hy)) hlo).imp (fun ⟨h1,h2⟩ => (⟨h1,((Option.some.injEq _ _).mp h2).symm⟩ : lo = none ∧ l = 0)) id
  split at h
  ·rename_i s
   split at h
   ·rename_i kh hh hhi
    have hhi := (bndR_out (fun y hy => he y (.inr (.inl hy))) hhi).imp (fun ⟨h1,h2⟩ => (⟨h1,((Option.some.injEq _ _).mp h2).symm⟩ : hi = none ∧ hh = (s.length : Int))) id
    split at h
    ·split at h
     ·rename_i hu
      split at h
      ·rename_i hc
       cases h
       exact ok_slice_str ho hu hx hlo hhi hc.1 hc.2.1 hc.2.2
      ·cases h
     ·cases h
    ·cases h
   ·cases h
  ·rename_i q n c
   split at h
   ·rename_i el hu
    split at h
    ·rename_i i hi'
     have hz : SizeIs P el i.size i.bytes := ⟨i,hi',rfl,rfl⟩
     split at h
     ·split at h
      ·rename_i kh hh hhi
       have hhi := (bndR_out (fun y hy => he y (.inr (.inl hy))) hhi).imp (fun ⟨h1,h2⟩ => (⟨h1,((Option.some.injEq _ _).mp h2).symm⟩ : hi = none ∧ hh = (n : Int))) id
       obtain ⟨s',h1,h2⟩ := Option.map_eq_some_iff.1 h
       cases h2
       exact ok_slice (s := ⟨q,n,c⟩) ho hu hz hx hlo hhi h1
      ·cases h
     ·rename_i ym
      split at h
      ·rename_i kh hh hhi
       have hhi : False ∨ ∃ y,hi = some y ∧ Ev a y (.int kh hh) := (bndR_out (fun y hy => he y (.inr (.inl hy))) hhi).imp (fun g => absurd g.2 (by simp)) id
       split at h
       ·rename_i km m hm
        obtain ⟨s',h1,h2⟩ := Option.map_eq_some_iff.1 h
        cases h2
        exact ok_slice3 (s := ⟨q,n,c⟩) ho hu hz hx hlo hhi (he ym (.inr (.inr rfl)) _ hm) h1
       ·cases h
      ·cases h
    ·cases h
   ·cases h
  ·cases h
def idxAdR (P : Program) (S : HS) (t : TypeId) (vx vy : HV) : Option HV :=
 match vy with
 | .int _ i => (match P.underlying t with
  | some (.slice e) => (match vx with
   | .sl q n c => (match sizeOf? P e with | some z => (S.idx ⟨q,n,c⟩ i z).map fun ad => .ptr (some ad) | none => none)
   | _ => none)
  | some (.array n e) => (match vx with
   | .ptr (some ad) => (match sizeOf? P e with | some 1 => if 0 ≤ i ∧ i < (n : Int) then some (.ptr (some (ad.fld i.toNat))) else none | _ => none)
   | _ => none)
  | _ => none)
 | _ => none
theorem idxAdR_ok {t : TypeId} {x y : Operand} {vx vy v : HV} (ho : o.op = .indexAddr t x y) (hx : Ev a x vx) (hy : Ev a y vy) (h : idxAdR P S t vx vy = some v) : OpOk P base W0 o a S v S := by
 unfold idxAdR at h
 split at h
 ·split at h
  ·rename_i hu
   split at h
   ·split at h
    ·rename_i hz
     obtain ⟨ad,h1,h2⟩ := Option.map_eq_some_iff.1 h
     cases h2
     exact ok_indexAddr (s := ⟨_,_,_⟩) ho hu (size_out hz) hx hy h1
    ·cases h
   ·cases h
  ·rename_i hu
   split at h
   ·split at h
    ·rename_i hz
     split at h
     ·rename_i hc; cases h; exact ok_indexAddr_arr ho hu (size_out hz) hx rfl hy hc
     ·cases h
    ·cases h
   ·cases h
  ·cases h
 ·cases h
def idxR (P : Program) (t : TypeId) (vx vy : HV) : Option HV :=
 match vy with
 | .int _ i => (match P.underlying t with
  | some .string => (match vx with
   | .str s => (sat s i).map fun b => .int .u8 b.toNat
   | _ => none)
  | some (.array n e) => (match vx with
   | .agg vs => (match sizeOf? P e with | some 1 => if shapeOf P e = 1 ∧ 0 ≤ i ∧ i < (n : Int) then vs[i.toNat]? else none | _ => none)
   | _ => none)
  | _ => none)
 | _ => none
theorem idxR_ok {t : TypeId} {x y : Operand} {vx vy v : HV} (ho : o.op = .index t x y) (hx : Ev a x vx) (hy : Ev a y vy) (h : idxR P t vx vy = some v) : OpOk P base W0 o a S v S := by
 unfold idxR at h
 split at h
 ·split at h
  ·rename_i hu
   split at h
   ·obtain ⟨b,h1,h2⟩ := Option.map_eq_some_iff.1 h
    cases h2
    exact ok_index_s ho hu hx hy h1
   ·cases h
  ·rename_i hu
   split at h
   ·split at h
    ·rename_i hz
     split at h
     ·rename_i hc; exact ok_indexArr ho hu (size_out hz) (shape_scalar hc.1) hx hy hc.2 h
     ·cases h
    ·cases h
   ·cases h
  ·cases h
 ·cases h
def keyR (P : Program) (t : TypeId) (k : HV) : Bool :=
 match k with
 | .int _ _ => (match P.underlying t with | some (.int _) => true | _ => false)
 | .str _ => (match P.underlying t with | some .string => true | _ => false)
 | .bool _ => (match P.underlying t with | some .bool => true | _ => false)
 | .agg xs => structChk P t (xs.map kindOf)
 | _ => false
theorem keyR_out {t : TypeId} {k : HV} (h : keyR P t k = true) : KeyOk P t k := by
 unfold keyR at h
 split at h
 ·split at h
  ·rename_i hu; exact keyInt hu
  ·cases h
 ·split at h
  ·rename_i hu; exact keyStr hu
  ·cases h
 ·split at h
  ·rename_i hu; exact keyBool hu
  ·cases h
 ·exact keyStruct h rfl
 ·cases h
def zeroV (P : Program) (t : TypeId) : Option HV := match P.info? t with | some i => (match i.zero with | some zv => cv 6 zv | none => none) | none => none
theorem zeroV_out {t : TypeId} {z : HV} (h : zeroV P t = some z) : ∃ zv,(P.info? t).map (·.zero) = some (some zv) ∧ ∀ β,VRel β z zv := by
 unfold zeroV at h
 split at h
 ·rename_i i hi
  split at h
  ·rename_i zv hz; exact ⟨zv,zero_info hi hz,fun β => cv_ok β _ _ _ h⟩
  ·cases h
 ·cases h
def lookR (P : Program) (S : HS) (t : TypeId) (vx vy : HV) (ok : Bool) : Option HV :=
 match vx with
 | .map r => (match P.underlying t with
  | some (.map kt et) => (match zeroV P et with
   | some z => if keyR P kt vy = true then (S.look r vy).map fun u => cond ok (.tup [u.getD z,.bool u.isSome]) (u.getD z) else none
   | none => none)
  | _ => none)
 | _ => none
theorem lookR_ok {t : TypeId} {x y : Operand} {vx vy v : HV} {ok : Bool} (ho : o.op = .lookup t x y ok) (hx : Ev a x vx) (hy : Ev a y vy) (h : lookR P S t vx vy ok = some v) : OpOk P base W0 o a S v S := by
 unfold lookR at h
 split at h
 ·split at h
  ·rename_i hu
   split at h
   ·rename_i z hz
    obtain ⟨zv,z1,z2⟩ := zeroV_out hz
    split at h
    ·rename_i hk
     obtain ⟨u,h1,h2⟩ := Option.map_eq_some_iff.1 h
     cases ok with
     | true => cases h2; exact ok_lookup_ok ho hu z1 z2 (keyR_out hk) hx hy h1 rfl
     | false => cases h2; exact ok_lookup ho hu z1 z2 (keyR_out hk) hx hy h1 rfl
    ·cases h
   ·cases h
  ·cases h
 ·cases h
def mputR (P : Program) (S : HS) (t : TypeId) (vx vy vu : HV) : Option Out :=
 match vx with
 | .map (some r) => (match P.underlying t with
  | some (.map kt _) => if keyR P kt vy = true then (S.mput (some r) vy vu).map fun S' => (.tup [],S',[r]) else none
  | _ => none)
 | _ => none
theorem mputR_ok {t : TypeId} {x y u : Operand} {vx vy vu : HV} {r : Out} (ho : o.op = .mapUpdate t x y u) (hx : Ev a x vx) (hy : Ev a y vy) (hu : Ev a u vu) (h : mputR P S t vx vy vu = some r) : Does P base W0 o a S r := by
 unfold mputR at h
 split at h
 ·split at h
  ·rename_i ht
   split at h
   ·rename_i hk
    obtain ⟨S',h1,h2⟩ := Option.map_eq_some_iff.1 h
    cases h2
    exact ⟨ok_mapUpdate ho ht (keyR_out hk) hx hy hu h1,mput_off h1⟩
   ·cases h
  ·cases h
 ·cases h
def insR (P : Program) (S : HS) (t : TypeId) (vx vy vu : HV) : Option Out := mputR P S t vx vy vu
theorem insR_ok {t : TypeId} {x y u : Operand} {vx vy vu : HV} {r : Out} (ho : o.op = .insert t x y u) (hx : Ev a x vx) (hy : Ev a y vy) (hu : Ev a u vu) (h : insR P S t vx vy vu = some r) : Does P base W0 o a S r := by
 unfold insR mputR at h
 split at h
 ·split at h
  ·rename_i ht
   split at h
   ·rename_i hk
    obtain ⟨S',h1,h2⟩ := Option.map_eq_some_iff.1 h
    cases h2
    exact ⟨ok_insert ho ht (keyR_out hk) hx hy hu h1,mput_off h1⟩
   ·cases h
  ·cases h
 ·cases h
end
end
noncomputable section
open Go.RowKit (Below)
section
variable {P : Program} {base : Nat} {W0 : Env} {a : HAct} {S : HS} {o : Oper}
def built1 (P : Program) (S : HS) (b : Builtin) (tys : Array TypeId) (vx : HV) : Option Out :=
 match b with
 | .len => (match tys.toList with
  | t :: _ => (match P.underlying t with
   | some .string => (match vx with | .str s => some (same S (.int .i64 s.length)) | _ => none)
   | some (.slice _) => (match vx with | .sl _ n _ => some (same S (.int .i64 n)) | _ => none)
   | some (.map _ _) => (match vx with | .map r => (S.mp r).map fun es => same S (.int .i64 es.length) | _ => none)
   | _ => none)
  | _ => none)
 | .cap => (match tys.toList with
  | t :: _ => (match P.underlying t with
   | some (.slice _) => (match vx with | .sl q n c => (Sl.capOf ⟨q,n,c⟩).map fun k => same S (.int .i64 k) | _ => none)
   | _ => none)
  | _ => none)
 | .clear => (match tys.toList with
  | t :: _ => (match elemR P t with
   | some (_,z,zr) => (match vx with | .sl q n c => (S.over ⟨q,n,c⟩ (List.replicate n zr) z).map fun S' => (.tup [],S',Sl.ids S ⟨q,n,c⟩) | _ => none)
   | none => none)
  | _ => none)
 | .unsafeSliceData => (match vx with | .sl q n c => (Sl.data ⟨q,n,c⟩).map fun p => same S (.ptr p) | _ => none)
 | _ => none
theorem tys_at {tys : Array TypeId} {t : TypeId} {l : List TypeId} (h : tys.toList = t :: l) : tys[0]? = some t := by
 obtain ⟨l'⟩ := tys
 simp only at h
 subst h
 rfl
theorem built1_ok {b : Builtin} {x : Operand} {tys : Array TypeId} {vx : HV} {r : Out} (ho : o.op = .call ⟨.builtin b,#[x],tys⟩) (hx : Ev a x vx) (h : built1 P S b tys vx = some r) : Does P base W0 o a S r := by
 unfold built1 at h
 split at h
 ·split at h
  ·rename_i ht
   split at h
   ·rename_i hu
    split at h
    ·cases h; exact .pure (ok_len_str ho (tys_at ht) hu hx)
    ·cases h
   ·rename_i hu
    split at h
    ·cases h; exact .pure (ok_len_sl ho (tys_at ht) hu hx)
    ·cases h
   ·rename_i hu
    split at h
    ·obtain ⟨es,h1,h2⟩ := Option.map_eq_some_iff.1 h
     cases h2
     exact .pure (ok_len_map ho (tys_at ht) hu hx h1)
    ·cases h
   ·cases h
  ·cases h
 ·split at h
  ·rename_i ht
   split at h
   ·rename_i hu
    split at h
    ·obtain ⟨k,h1,h2⟩ := Option.map_eq_some_iff.1 h
     cases h2
     exact .pure (ok_cap (s := ⟨_,_,_⟩) ho (tys_at ht) hu hx h1)
    ·cases h
   ·cases h
  ·cases h
 ·split at h
  ·rename_i ht
   split at h
   ·rename_i he
    split at h
    ·obtain ⟨S',h1,h2⟩ := Option.map_eq_some_iff.1 h
     cases h2
     exact ⟨ok_clear (s := ⟨_,_,_⟩) (elemR_out he) ho (tys_at ht) hx h1,over_off h1⟩
    ·cases h
   ·cases h
  ·cases h
 ·split at h
  ·obtain ⟨k,h1,h2⟩ := Option.map_eq_some_iff.1 h
   cases h2
   exact .pure (ok_sliceData (s := ⟨_,_,_⟩) ho hx h1)
  ·cases h
 ·cases h
def appR (P : Program) (S : HS) (t u : TypeId) (s : Sl) (vy : HV) : Option Out :=
 match elemR P t with
 | none => none
 | some (e,z,zr) => match P.underlying u with
  | some .string => (match vy with | .str txt => if z = 1 then (S.appT s (bytesRows txt) 1 e).map fun p => (p.1.hv,p.2,s.ids S) else none | _ => none)
  | some (.int _) => (match vy with | .int .i64 n => (S.appZ s n zr z).map fun p => (p.1.hv,p.2,s.ids S) | _ => none)
  | some (.slice _) => (match vy with | .sl q n c => (match S.rows ⟨q,n,c⟩ z with | some new => (S.appT s new z e).map fun p => (p.1.hv,p.2,s.ids S) | none => none) | _ => none)
  | _ => none
def built2 (P : Program) (S : HS) (b : Builtin) (tys : Array TypeId) (vx vy : HV) : Option Out :=
 match b with
 | .min => (match vx with | .int k m => (match vy with | .int k' n => if k = k' then some (same S (.int k (if n < m then n else m))) else none | _ => none) | _ => none)
 | .max => (match vx with | .int k m => (match vy with | .int k' n => if k = k' then some (same S (.int k (if n > m then n else m))) else none | _ => none) | _ => none)
 | .append => (match tys.toList with
  | t :: u :: _ => (match vx with | .sl q n c => appR P S t u ⟨q,n,c⟩ vy | _ => none)
  | _ => none)
 | .copy => (match tys.toList with
  | t :: _ => (match elemR P t with
   | some (_,z,_) => (match vx with
    | .sl q n c => (match vy with
     | .sl q' n' c' => (match S.rows ⟨q',n',c'⟩ z with
      | some new => (S.over ⟨q,n,c⟩ (new.take n) z).map fun S' => (.int .i64 (new.take n).length,S',Sl.ids S ⟨q,n,c⟩)
      | none => none)
     | _ => none)
    | _ => none)
   | none => none)
  | _ => none)
 | .delete => (match tys.toList with
  | t :: _ => (match vx with
   | .map (some r) => (match P.underlying t with
    | some (.map kt _) => if keyR P kt vy = true then (S.mdel (some r) vy).map fun S' => (.tup [],S',[r]) else none
    | _ => none)
   | _ => none)
  | _ => none)
 | .unsafeString => (match tys.toList with
  | [pt,it] => (match P.underlying pt with
   | some (.pointer e) => (match vx with
    | .ptr (some ad) => (match vy with | .int .i64 n => if P.cellsOf e = 1 then (S.ustr (some ad) n e).map fun p => (.str p.1,p.2,[ad.id]) else none | _ => none)
    | _ => none)
   | _ => none)
  | _ => none)
 | _ => none
theorem tys_at2 {tys : Array TypeId} {t u : TypeId} {l : List TypeId} (h : tys.toList = t :: u :: l) : tys[0]? = some t ∧ tys[1]? = some u := by
 obtain ⟨l'⟩ := tys
 simp only at h
 subst h
 exact ⟨rfl,rfl⟩
theorem appZ_off {S S' : HS} {s s' : Sl} {n : Int} {zr : List HV} {z : Nat} (h : S.appZ s n zr z = some (s',S')) : Off S S' (s.ids S) := by
 unfold HS.appZ at h
 split at h
 ·exact app_off h
 ·cases h
theorem built2_ok {b : Builtin} {x y : Operand} {tys : Array TypeId} {vx vy : HV} {r : Out} (ho : o.op = .call ⟨.builtin b,#[x,y],tys⟩) (hx : Ev a x vx) (hy : Ev a y vy) (h : built2 P S b tys vx vy = some r) : Does P base W0 o a S r := by
 unfold built2 at h
 split at h
 ·split at h
  ·split at h
   ·split at h
    ·rename_i hk; subst hk; cases h; exact .pure (ok_min ho hx hy)
    ·cases h
   ·cases h
  ·cases h
 ·split at h
  ·split at h
   ·split at h
    ·rename_i hk; subst hk; cases h; exact .pure (ok_max ho hx hy)
    ·cases h
   ·cases h
  ·cases h
 ·split at h
  ·rename_i ht
   obtain ⟨t1,t2⟩ := tys_at2 ht
   split at h
   ·unfold appR at h
    split at h
    ·cases h
    ·rename_i he
     have he := elemR_out he
     split at h
     ·rename_i hu
      split at h
      ·split at h
       ·rename_i hz
        subst hz
        obtain ⟨p,h1,h2⟩ := Option.map_eq_some_iff.1 h
        cases h2
        exact ⟨ok_append_strT (s := ⟨_,_,_⟩) he ho t1 t2 hu hx hy h1,appT_off h1⟩
       ·cases h
      ·cases h
     ·rename_i hu
      split at h
      ·obtain ⟨p,h1,h2⟩ := Option.map_eq_some_iff.1 h
       cases h2
       exact ⟨ok_append_zeros (s := ⟨_,_,_⟩) he ho t1 t2 hu hx hy h1,appZ_off h1⟩
      ·cases h
     ·rename_i hu
      split at h
      ·split at h
       ·rename_i hr
        obtain ⟨p,h1,h2⟩ := Option.map_eq_some_iff.1 h
        cases h2
        exact ⟨ok_appendT (s := ⟨_,_,_⟩) (s1 := ⟨_,_,_⟩) he ho t1 t2 ⟨_,hu⟩ hx hy hr h1,appT_off h1⟩
       ·cases h
      ·cases h
     ·cases h
   ·cases h
  ·cases h
 ·split at h
  ·rename_i ht
   split at h
   ·rename_i he
    split at h
    ·split at h
     ·split at h
      ·rename_i hr
       obtain ⟨p,h1,h2⟩ := Option.map_eq_some_iff.1 h
       cases h2
       exact ⟨ok_copy (s := ⟨_,_,_⟩) (s1 := ⟨_,_,_⟩) (elemR_out he) ho (tys_at ht) hx hy hr h1,over_off h1⟩
      ·cases h
     ·cases h
    ·cases h
   ·cases h
  ·cases h
 ·split at h
  ·rename_i ht
   split at h
   ·split at h
    ·rename_i hu
     split at h
     ·rename_i hk
      obtain ⟨p,h1,h2⟩ := Option.map_eq_some_iff.1 h
      cases h2
      exact ⟨ok_delete ho (tys_at ht) hu (keyR_out hk) hx hy h1,mdel_off h1⟩
     ·cases h
    ·cases h
   ·cases h
  ·cases h
 ·split at h
  ·rename_i ht
   split at h
   ·rename_i hu
    split at h
    ·split at h
     ·split at h
      ·rename_i hc
       obtain ⟨p,h1,h2⟩ := Option.map_eq_some_iff.1 h
       cases h2
       obtain ⟨l⟩ := tys
       simp only at ht
       subst ht
       exact ⟨ok_unsafeString ho hu hc hx hy h1,ustr_off h1⟩
      ·cases h
     ·cases h
    ·cases h
   ·cases h
  ·cases h
 ·cases h
def oMove (e : Operand → Option HV) (S : HS) (x : Operand) : Option Out := (e x).map (same S)
def oPick (e : Operand → Option HV) (S : HS) (c x y : Operand) : Option Out := match e c with | some (.bool b) => (cond b (e x) (e y)).map (same S) | _ => none
def oBox (e : Operand → Option HV) (S : HS) (x : Operand) : Option Out := (e x).bind fun vx => boxR S vx
def oBuild (P : Program) (e : Operand → Option HV) (S : HS) (t : TypeId) (ps : Array (Nat × Operand)) : Option Out := match (ps.toList.map (·.2)).mapM e with | some vs => (buildR P t (ps.toList.map (·.1)) vs).map (same S) | none => none
def oLit (P : Program) (e : Operand → Option HV) (S : HS) (t : TypeId) (n : Nat) (ps : Array (Nat × Operand)) : Option Out := match (ps.toList.map (·.2)).mapM e with | some vs => litR P S t n (ps.toList.map (·.1)) vs | none => none
def oLoad (P : Program) (e : Operand → Option HV) (S : HS) (t : TypeId) (x : Operand) : Option Out := (e x).bind fun vx => (loadR P S t vx).map (same S)
def oStore (P : Program) (e : Operand → Option HV) (S : HS) (t : TypeId) (x y : Operand) : Option Out := (e x).bind fun vx => (e y).bind fun vy => storeR P S t vx vy
def oNil (e : Operand → Option HV) (S : HS) (x : Operand) : Option Out := (e x).bind fun vx => (nilR vx).map (same S)
def oBin (P : Program) (e : Operand → Option HV) (S : HS) (op : BinOp) (t : TypeId) (x y : Operand) : Option Out := (e x).bind fun vx => (e y).bind fun vy => (binR P op t y vx vy).map (same S)
def oUn (e : Operand → Option HV) (S : HS) (op : UnOp) (x : Operand) : Option Out := (e x).bind fun vx => (unR op vx).map (same S)
def oConv (P : Program) (e : Operand → Option HV) (S : HS) (src dst : TypeId) (x : Operand) : Option Out := (e x).bind fun vx => convR P S src dst vx
def oFunc (e : Operand → Option HV) (S : HS) (fn : Fn) (fs cs : Array Operand) : Option Out := match fn with
 | .func g => (match fs.toList.mapM e with | some vs => (match cs.toList.mapM e with | some ws => some (same S (.fn (.func g) vs ws)) | none => none) | none => none)
 | _ => none
def oMap (S : HS) (r : Option Operand) : Option Out := match r with | none => some (.map (some S.next),S.new (.map []),[S.next]) | some _ => none
def oMake (P : Program) (e : Operand → Option HV) (S : HS) (t : TypeId) (x y : Operand) : Option Out := (e x).bind fun vx => (e y).bind fun vy => makeR P S t vx vy
def oSlice (P : Program) (e : Operand → Option HV) (S : HS) (t : TypeId) (x : Operand) (lo hi mx : Option Operand) : Option Out := (e x).bind fun vx => (sliceR P S e t vx lo hi mx).map (same S)
def oFld (P : Program) (e : Operand → Option HV) (S : HS) (s : TypeId) (x : Operand) (f : Nat) : Option Out := (e x).bind fun vx => (fldR P s f vx).map (same S)
def oField (P : Program) (e : Operand → Option HV) (S : HS) (s : TypeId) (x : Operand) (f : Nat) : Option Out := (e x).bind fun vx => (fieldR P s f vx).map (same S)
def oIdxA (P : Program) (e : Operand → Option HV) (S : HS) (t : TypeId) (x y : Operand) : Option Out := (e x).bind fun vx => (e y).bind fun vy => (idxAdR P S t vx vy).map (same S)
def oIdx (P : Program) (e : Operand → Option HV) (S : HS) (t : TypeId) (x y : Operand) : Option Out := (e x).bind fun vx => (e y).bind fun vy => (idxR P t vx vy).map (same S)
def oLook (P : Program) (e : Operand → Option HV) (S : HS) (t : TypeId) (x y : Operand) (ok : Bool) : Option Out := (e x).bind fun vx => (e y).bind fun vy => (lookR P S t vx vy ok).map (same S)
def oMput (P : Program) (e : Operand → Option HV) (S : HS) (t : TypeId) (x y u : Operand) : Option Out := (e x).bind fun vx => (e y).bind fun vy => (e u).bind fun vu => mputR P S t vx vy vu
def oIns (P : Program) (e : Operand → Option HV) (S : HS) (t : TypeId) (x y u : Operand) : Option Out := (e x).bind fun vx => (e y).bind fun vy => (e u).bind fun vu => insR P S t vx vy vu
def oExt (e : Operand → Option HV) (S : HS) (x : Operand) (i : Nat) : Option Out := match e x with | some (.tup vs) => (vs[i]?).map (same S) | _ => none
def oCall (P : Program) (e : Operand → Option HV) (S : HS) (c : Call) : Option Out := match c.callee with
  | .builtin b => (match c.args.toList with
   | [x] => (e x).bind fun vx => built1 P S b c.argTypes vx
   | [x,y] => (e x).bind fun vx => (e y).bind fun vy => built2 P S b c.argTypes vx vy
   | _ => none)
  | _ => none
def opR (P : Program) (e : Operand → Option HV) (op : Op) (S : HS) : Option Out :=
 match op with
 | .move x => oMove e S x
 | .assign x => oMove e S x
 | .pick c x y => oPick e S c x y
 | .alloc t => allocR P S t
 | .box _ x => oBox e S x
 | .build t ps => oBuild P e S t ps
 | .buildSlice t n ps => oLit P e S t n ps
 | .load t x => oLoad P e S t x
 | .store t x y => oStore P e S t x y
 | .nilCheck x => oNil e S x
 | .binOp op t x y _ => oBin P e S op t x y
 | .unOp op _ x => oUn e S op x
 | .convert src dst x => oConv P e S src dst x
 | .makeFunc fn fs cs => oFunc e S fn fs cs
 | .makeMap _ r => oMap S r
 | .makeSlice t x y => oMake P e S t x y
 | .slice t x lo hi mx => oSlice P e S t x lo hi mx
 | .fieldAddr s x f => oFld P e S s x f
 | .field s x f => oField P e S s x f
 | .indexAddr t x y => oIdxA P e S t x y
 | .index t x y => oIdx P e S t x y
 | .lookup t x y ok => oLook P e S t x y ok
 | .mapUpdate t x y u => oMput P e S t x y u
 | .insert t x y u => oIns P e S t x y u
 | .extract x i => oExt e S x i
 | .call c => oCall P e S c
 | _ => none
theorem arr_of {α : Type} {xs : Array α} {l : List α} (h : xs.toList = l) : xs = l.toArray := by
 rw [← h]
theorem opR_ok {e : Operand → Option HV} {op : Op} {r : Out} (he : ∀ x ∈ op.operands,∀ v,e x = some v → Ev a x v) (ho : o.op = op) (h : opR P e op S = some r) : Does P base W0 o a S r := by
 have pure1 : ∀ {x : Option HV} {r : Out},x.map (same S) = some r → ∃ v,x = some v ∧ r = same S v := fun h => by
  obtain ⟨v,h1,h2⟩ := Option.map_eq_some_iff.1 h
  exact ⟨v,h1,h2.symm⟩
 cases op with
 | move x =>
  obtain ⟨v,h1,rfl⟩ := pure1 h
  exact .pure (ok_move ho (he x (by simp [Op.operands]) v h1))
 | assign x =>
  obtain ⟨v,h1,rfl⟩ := pure1 h
  exact .pure (ok_assign ho (he x (by simp [Op.operands]) v h1))
 | pick c x y =>
  simp only [opR,oPick,oBuild,oLit,oFunc,oExt,oCall] at h
  split at h
  ·rename_i b hc
   obtain ⟨v,h1,rfl⟩ := pure1 h
   have hc := he c (by simp [Op.operands]) _ hc
   cases b with
   | true => exact .pure (ok_pick_t ho hc (he x (by simp [Op.operands]) v h1))
   | false => exact .pure (ok_pick_f ho hc (he y (by simp [Op.operands]) v h1))
  ·cases h
 | alloc t => exact allocR_ok ho h
 | box t x =>
  obtain ⟨vx,h1,h2⟩ := Option.bind_eq_some_iff.1 h
  exact boxR_ok ho (he x (by simp [Op.operands]) vx h1) h2
 | build t ps =>
  simp only [opR,oPick,oBuild,oLit,oFunc,oExt,oCall] at h
  split at h
  ·rename_i vs hv
   obtain ⟨v,h1,rfl⟩ := pure1 h
   exact .pure (buildR_ok ho (evs_of (fun x hx => he x (by simpa [Op.operands] using hx)) hv) h1)
  ·cases h
 | buildSlice t n ps =>
  simp only [opR,oPick,oBuild,oLit,oFunc,oExt,oCall] at h
  split at h
  ·rename_i vs hv
   exact litR_ok ho (evs_of (fun x hx => he x (by simpa [Op.operands] using hx)) hv) h
  ·cases h
 | load t x =>
  obtain ⟨vx,h1,h2⟩ := Option.bind_eq_some_iff.1 h
  obtain ⟨v,h3,rfl⟩ := pure1 h2
  exact .pure (loadR_ok ho (he x (by simp [Op.operands]) vx h1) h3)
 | store t x y =>
  obtain ⟨vx,h1,h2⟩ := Option.bind_eq_some_iff.1 h
  obtain ⟨vy,h3,h4⟩ := Option.bind_eq_some_iff.1 h2
  exact storeR_ok ho (he x (by simp [Op.operands]) vx h1) (he y (by simp [Op.operands]) vy h3) h4
 | nilCheck x =>
  obtain ⟨vx,h1,h2⟩ := Option.bind_eq_some_iff.1 h
  obtain ⟨v,h3,rfl⟩ := pure1 h2
  exact .pure (nilR_ok ho (he x (by simp [Op.operands]) vx h1) h3)
 | binOp bop t x y ty =>
  obtain ⟨vx,h1,h2⟩ := Option.bind_eq_some_iff.1 h
  obtain ⟨vy,h3,h4⟩ := Option.bind_eq_some_iff.1 h2
  obtain ⟨v,h5,rfl⟩ := pure1 h4
  exact .pure (binR_ok ho (he x (by simp [Op.operands]) vx h1) (he y (by simp [Op.operands]) vy h3) h5)
 | unOp uop t x =>
  obtain ⟨vx,h1,h2⟩ := Option.bind_eq_some_iff.1 h
  obtain ⟨v,h3,rfl⟩ := pure1 h2
  exact .pure (unR_ok ho (he x (by simp [Op.operands]) vx h1) h3)
 | convert src dst x =>
  obtain ⟨vx,h1,h2⟩ := Option.bind_eq_some_iff.1 h
  exact convR_ok ho (he x (by simp [Op.operands]) vx h1) h2
 | makeFunc fn fs cs =>
  cases fn with
  | func g =>
   simp only [opR,oPick,oBuild,oLit,oFunc,oExt,oCall] at h
   split at h
   ·rename_i vs hv
    split at h
    ·rename_i ws hw
     cases h
     have e1 := evs_of (fun x hx => he x (by simp [Op.operands]; exact .inl (by simpa using hx))) hv
     have e2 := evs_of (fun x hx => he x (by simp [Op.operands]; exact .inr (by simpa using hx))) hw
     exact .pure (ok_makeFunc ho (by simpa using e1) (by simpa using e2))
    ·cases h
   ·cases h
  | _ => cases h
 | makeMap t res =>
  cases res with
  | none =>
   cases h
   exact ⟨ok_makeMap_e ho rfl,.newM _ _ _ (by simp)⟩
  | some x => cases h
 | makeSlice t x y =>
  obtain ⟨vx,h1,h2⟩ := Option.bind_eq_some_iff.1 h
  obtain ⟨vy,h3,h4⟩ := Option.bind_eq_some_iff.1 h2
  exact makeR_ok ho (he x (by simp [Op.operands]) vx h1) (he y (by simp [Op.operands]) vy h3) h4
 | slice t x lo hi mx =>
  obtain ⟨vx,h1,h2⟩ := Option.bind_eq_some_iff.1 h
  obtain ⟨v,h3,rfl⟩ := pure1 h2
  refine .pure (sliceR_ok ho (he x (by simp [Op.operands]) vx h1) (fun y hy => he y ?_) h3)
  rcases hy with rfl | rfl | rfl <;> simp [Op.operands]
 | fieldAddr s x f =>
  obtain ⟨vx,h1,h2⟩ := Option.bind_eq_some_iff.1 h
  obtain ⟨v,h3,rfl⟩ := pure1 h2
  exact .pure (fldR_ok ho (he x (by simp [Op.operands]) vx h1) h3)
 | field s x f =>
  obtain ⟨vx,h1,h2⟩ := Option.bind_eq_some_iff.1 h
  obtain ⟨v,h3,rfl⟩ := pure1 h2
  exact .pure (fieldR_ok ho (he x (by simp [Op.operands]) vx h1) h3)
 | indexAddr t x y =>
  obtain ⟨vx,h1,h2⟩ := Option.bind_eq_some_iff.1 h
  obtain ⟨vy,h3,h4⟩ := Option.bind_eq_some_iff.1 h2
  obtain ⟨v,h5,rfl⟩ := pure1 h4
  exact .pure (idxAdR_ok ho (he x (by simp [Op.operands]) vx h1) (he y (by simp [Op.operands]) vy h3) h5)
 | index t x y =>
  obtain ⟨vx,h1,h2⟩ := Option.bind_eq_some_iff.1 h
  obtain ⟨vy,h3,h4⟩ := Option.bind_eq_some_iff.1 h2
  obtain ⟨v,h5,rfl⟩ := pure1 h4
  exact .pure (idxR_ok ho (he x (by simp [Op.operands]) vx h1) (he y (by simp [Op.operands]) vy h3) h5)
 | lookup t x y ok =>
  obtain ⟨vx,h1,h2⟩ := Option.bind_eq_some_iff.1 h
  obtain ⟨vy,h3,h4⟩ := Option.bind_eq_some_iff.1 h2
  obtain ⟨v,h5,rfl⟩ := pure1 h4
  exact .pure (lookR_ok ho (he x (by simp [Op.operands]) vx h1) (he y (by simp [Op.operands]) vy h3) h5)
 | mapUpdate t x y u =>
  obtain ⟨vx,h1,h2⟩ := Option.bind_eq_some_iff.1 h
  obtain ⟨vy,h3,h4⟩ := Option.bind_eq_some_iff.1 h2
  obtain ⟨vu,h5,h6⟩ := Option.bind_eq_some_iff.1 h4
  exact mputR_ok ho (he x (by simp [Op.operands]) vx h1) (he y (by simp [Op.operands]) vy h3) (he u (by simp [Op.operands]) vu h5) h6
 | insert t x y u =>
  obtain ⟨vx,h1,h2⟩ := Option.bind_eq_some_iff.1 h
  obtain ⟨vy,h3,h4⟩ := Option.bind_eq_some_iff.1 h2
  obtain ⟨vu,h5,h6⟩ := Option.bind_eq_some_iff.1 h4
  exact insR_ok ho (he x (by simp [Op.operands]) vx h1) (he y (by simp [Op.operands]) vy h3) (he u (by simp [Op.operands]) vu h5) h6
 | extract x i =>
  simp only [opR,oPick,oBuild,oLit,oFunc,oExt,oCall] at h
  split at h
  ·rename_i vs hv
   obtain ⟨v,h1,rfl⟩ := pure1 h
   exact .pure (ok_extract ho (he x (by simp [Op.operands]) _ hv) h1)
  ·cases h
 | call c =>
  obtain ⟨callee,args,tys⟩ := c
  simp only [opR,oPick,oBuild,oLit,oFunc,oExt,oCall] at h
  split at h
  ·rename_i b
   split at h
   ·rename_i x hx
    obtain rfl := arr_of hx
    obtain ⟨vx,h1,h2⟩ := Option.bind_eq_some_iff.1 h
    exact built1_ok ho (he x (by simp [Op.operands,Call.operands]) vx h1) h2
   ·rename_i x y hx
    obtain rfl := arr_of hx
    obtain ⟨vx,h1,h2⟩ := Option.bind_eq_some_iff.1 h
    obtain ⟨vy,h3,h4⟩ := Option.bind_eq_some_iff.1 h2
    exact built2_ok ho (he x (by simp [Op.operands,Call.operands]) vx h1) (he y (by simp [Op.operands,Call.operands]) vy h3) h4
   ·cases h
  ·cases h
 | _ => cases h
end
end
noncomputable section
open Go.RowKit (Below)
structure LR where
 l : Nat
 f : FuncId
 n : Nat
 F : Fl
 ps : Array Tmp
 assign : Code
 body : Code
abbrev Res := HV × CS
abbrev Rec := HV → List HV → CS → List LR → Option Res
structure Kn where
 idxB : List Nat
 noE : List Nat
 cnt : List Nat
 over : FuncId → Option (List HV → CS → Option Res)
 fu : Nat
 dfn : FuncId := 0
abbrev DrawF := Program → Kn → Rec → List LR → Array Oper → (Fl → CS → Option Res) → Fl → CS → Option Res
structure Xc where
 P : Program
 K : Kn
 dr : DrawF
 rc : Rec
 E : List LR
 n : Nat
 f : FuncId
 ro : Option Nat
def wantG (l : Fl) (ops : Array Oper) (g : Nat × Bool) : Option Bool :=
 match (ops[g.1]?).bind (·.dst) with
 | some t => (match l.get t with
  | some (.bool b) => some (cond g.2 b (!b))
  | some (.tup []) => some false
  | _ => none)
 | none => none
def wantR (l : Fl) (ops : Array Oper) (o : Oper) : Option Bool := Option.rec (motive := fun _ => Option Bool) (some true) (fun g => wantG l ops g) o.guard
def extR (K : Kn) (g : FuncId) (vs : List HV) : Option HV :=
 match K.idxB.contains g with
 | true => (match vs with | [.str s,.int .u8 c] => some (.int .i64 (bidx s c)) | _ => none)
 | false => (match K.noE.contains g with
  | true => (match vs with | [v] => some v | _ => none)
  | false => (match K.cnt.contains g with
   | true => (match vs with | [.str s,.int .u8 c] => some (.int .i64 (bcount s c)) | _ => none)
   | false => none))
def callOp (op : Op) : Option (Operand × List Operand) :=
 match op with
 | .call c => (match c.callee with | .value fx => some (fx,c.args.toList) | _ => none)
 | _ => none
def extOf (fx : Operand) : Option FuncId := match fx with | .func g => some g | _ => none
abbrev DO := Xc → Fl → CS → (HV → CS → Option Res) → Option Res
def bnd {α : Type} (o : Option α) (k : α → Option Res) : Option Res := Option.rec (motive := fun _ => Option Res) none k o
theorem bnd_out {α : Type} {o : Option α} {k : α → Option Res} {r : Res} (h : bnd o k = some r) : ∃ v,o = some v ∧ k v = some r := by
 cases o with
 | none => cases h
 | some v => exact ⟨v,rfl,h⟩
def xP (x : Xc) (k : Program → Option Res) : Option Res := Xc.rec (motive := fun _ => Option Res) (fun P _ _ _ _ _ _ _ => k P) x
theorem xP_eq (x : Xc) (k : Program → Option Res) : xP x k = k x.P := by cases x; rfl
def dOut (o : Option Out) (c : CS) (k : HV → CS → Option Res) : Option Res := bnd o fun r => CS.syncK r.2.1 (fun c => frcV r.1 fun v => k v c) r.2.2 c
def dGen (op : Op) : DO := fun x l c k => xP x fun P => dOut (opR P (ev l) op c.hs) c k
def dMove (y : Operand) : DO := fun x l c k => bnd (ev l y) fun v => k v c
def dLoad (t : TypeId) (y : Operand) : DO := fun x l c k => bnd (ev l y) fun vx => xP x fun P => bnd (loadR P c.hs t vx) fun v => k v c
def dStore (t : TypeId) (y z : Operand) : DO := fun x l c k => bnd (ev l y) fun vx => bnd (ev l z) fun vy => xP x fun P => bnd (storeR P c.hs t vx vy) fun r => bnd r.2.2.head? fun id => CS.syncP r.2.1 id c fun c => k (.tup []) c
def dNil (y : Operand) : DO := fun x l c k => bnd (ev l y) fun vx => bnd (nilR vx) fun v => k v c
def dBin (op : BinOp) (t : TypeId) (y z : Operand) (_ : TypeId) : DO := fun x l c k => bnd (ev l y) fun vx => bnd (ev l z) fun vy => xP x fun P => bnd (binR P op t z vx vy) fun v => frcV v fun v => k v c
def dUn (op : UnOp) (_ : TypeId) (y : Operand) : DO := fun x l c k => bnd (ev l y) fun vx => bnd (unR op vx) fun v => frcV v fun v => k v c
def dFld (s : TypeId) (y : Operand) (f : Nat) : DO := fun x l c k => bnd (ev l y) fun vx => xP x fun P => bnd (fldR P s f vx) fun v => frcV v fun v => k v c
def dIdxA (t : TypeId) (y z : Operand) : DO := fun x l c k => bnd (ev l y) fun vx => bnd (ev l z) fun vy => xP x fun P => bnd (idxAdR P c.hs t vx vy) fun v => frcV v fun v => k v c
def dIdx (t : TypeId) (y z : Operand) : DO := fun x l c k => bnd (ev l y) fun vx => bnd (ev l z) fun vy => xP x fun P => bnd (idxR P t vx vy) fun v => frcV v fun v => k v c
def dExt (y : Operand) (i : Nat) : DO := fun x l c k => bnd (ev l y) fun vx => bnd (dT vx) fun vs => bnd (vs[i]?) fun v => k v c
def evL (l : Fl) (xs : List Operand) : Option (List HV) := List.rec (motive := fun _ => Option (List HV)) (some []) (fun y _ ih => Option.rec (motive := fun _ => Option (List HV)) none (fun v => Option.rec (motive := fun _ => Option (List HV)) none (fun vs => some (v :: vs)) ih) (ev l y)) xs
theorem evL_eq (l : Fl) : ∀ xs : List Operand,evL l xs = xs.mapM (ev l) := by
 intro xs
 induction xs with
 | nil => simp [evL]
 | cons y xs ih =>
  show (Option.rec (motive := fun _ => Option (List HV)) none (fun v => Option.rec (motive := fun _ => Option (List HV)) none (fun vs => some (v :: vs)) (evL l xs)) (ev l y) : Option (List HV)) = _
  rw [List.mapM_cons,← ih]
  cases ev l y with
  | none => rfl
  | some v => cases evL l xs <;> rfl
def dCv (args : Array Operand) (fx : Operand) : DO := fun x l c k => bnd (ev l fx) fun fv => bnd (evL l args.toList) fun vs =>
 Option.rec (motive := fun _ => Option Res) (bnd (x.rc fv vs c x.E) fun r => k r.1 r.2) (fun v => k v c) ((extOf fx).bind fun g => extR x.K g vs)
def dCall (cl : Call) : DO := Callee.rec (motive := fun _ => DO) (fun fx => dCv cl.args fx) (fun _ _ => dGen (.call cl)) (fun _ => dGen (.call cl)) cl.callee
def dO (op : Op) : DO :=
 Op.rec (motive := fun _ => DO) dMove dMove (fun a b c => dGen (.pick a b c)) (fun t => dGen (.alloc t)) (fun t y => dGen (.box t y)) (fun t ps => dGen (.build t ps)) (fun t n ps => dGen (.buildSlice t n ps)) (fun a b c d => dGen (.insert a b c d))
  dLoad dStore (fun g => dGen (.ready g)) (fun g => dGen (.waits g)) dNil dBin dUn (fun a b y => dGen (.convert a b y)) (fun d y => dGen (.sliceToArrayPointer d y)) (fun t y => dGen (.makeInterface t y)) (fun f a b => dGen (.makeFunc f a b)) (fun t r => dGen (.makeMap t r))
  (fun t s => dGen (.makeChan t s)) (fun t a b => dGen (.makeSlice t a b)) (fun t y a b m => dGen (.slice t y a b m)) dFld (fun s y f => dGen (.field s y f)) dIdxA dIdx (fun t y z b => dGen (.lookup t y z b)) (fun t a b d => dGen (.mapUpdate t a b d)) (fun t a b => dGen (.mapEntry t a b))
  (fun t a b d => dGen (.entryStore t a b d)) (fun t y => dGen (.range t y)) (fun i s => dGen (.next i s)) (fun i => dGen (.entry i)) (fun y a b d => dGen (.typeAssert y a b d)) dExt dCall (fun d => dGen (.go d)) (fun d => dGen (.defer d)) (fun y => dGen (.panic y)) (fun a b => dGen (.send a b))
  (fun t y b => dGen (.recv t y b)) (fun a b => dGen (.select a b)) op
abbrev OL := Xc → Array Oper → (Fl → CS → Option Res) → Fl → CS → Option Res
def olN : OL := fun x ops k l c => k l c
def olW (w : Option Bool) (o : Oper) (ih : OL) : OL := fun x ops k l c =>
 match w with
 | some true => dO o.op x l c fun v c => ih x ops k (l.put o.dst v) c
 | some false => ih x ops k (l.put o.dst (.tup [])) c
 | none => none
def olC (o : Oper) (_ : List Oper) (ih : OL) : OL := fun x ops k l c =>
 Option.rec (motive := fun _ => Option Res) (dO o.op x l c fun v c => ih x ops k (l.put o.dst v) c) (fun g => olW (wantG l ops g) o ih x ops k l c) o.guard
def opsT (L : List Oper) : OL := List.rec (motive := fun _ => OL) olN olC L
theorem olC_eq (o : Oper) (L : List Oper) (ih : OL) (x : Xc) (ops : Array Oper) (k : Fl → CS → Option Res) (l : Fl) (c : CS) : olC o L ih x ops k l c = olW (wantR l ops o) o ih x ops k l c := by
 unfold olC wantR
 cases o.guard <;> rfl
def retV (P : Program) (l : Fl) (S : HS) (r : ResultVar) : Option HV :=
 match r with
 | .tmp t => l.get t
 | .cell x t => (match l.get x with
  | some (.ptr (some ad)) => (match shapeOf P t with
   | 1 => S.get ad
   | 2 => (match sizeOf? P t with | some n => (S.gets ad n).bind fun vs => if 0 < vs.length then some (.agg vs) else none | none => none)
   | _ => none)
  | _ => none)
def retR (P : Program) (fn : Func) (l : Fl) (S : HS) : Option HV :=
 match fn.results.toList.mapM (retV P l S) with
 | some [v] => some v
 | some vs => some (.tup vs)
 | none => none
def leave0 (fn : Func) (P : Program) (l : Fl) (c : CS) : Option Res := bnd (retR P fn l c.hs) fun v => some (v,c)
def leave1 (fn : Func) (P : Program) (l : Fl) (ds : List Nat) (c : CS) : Option Res := bnd (c.hs.leave ds) fun S' => bnd (retR P fn l S') fun v => CS.syncK S' (fun c' => some (v,c')) ds c
def leaveT (P : Program) (f : FuncId) (l : Fl) (ds : List Nat) (c : CS) : Option Res := bnd P.funcs[f]? fun fn => List.rec (motive := fun _ => Option Res) (leave0 fn P l c) (fun _ _ _ => leave1 fn P l ds c) ds
def leaveO (K : Kn) (rec : Rec) (E : List LR) (d : Nat) (o : HObj) (ih : CS → Option Res) (c : CS) : Option Res := match o with
 | .call g vs => (match K.over g with
  | none => bnd (rec (.fn (.func g) [] []) vs c E) fun r => ih r.2
  | some _ => none)
 | .defer => CS.syncP (c.hs.put d .dead) d c fun c' => ih c'
 | _ => none
def leaveD (P : Program) (K : Kn) (rec : Rec) (E : List LR) (fn : Func) (l : Fl) (ds : List Nat) : CS → Option Res := List.rec (motive := fun _ => CS → Option Res) (fun c => leave0 fn P l c) (fun d _ ih c => leaveO K rec E d (c.hs.heap d) ih c) ds
def leaveX (P : Program) (K : Kn) (rec : Rec) (E : List LR) (f : FuncId) (l : Fl) (ds : List Nat) (c : CS) : Option Res :=
 Bool.rec (motive := fun _ => Option Res) (leaveT P f l ds c) (bnd P.funcs[f]? fun fn => leaveD P K rec E fn l ds c) (Nat.beq f K.dfn)
def endT (l : Nat) (j : Option Code) (c : CS) : Option Res := bnd (c.hs.endr l j) fun p => CS.syncP p.2 l c fun c' => some (p.1,c')
abbrev KF := Fl → List Nat → CS → Option Res
abbrev CO := Xc → List (Nat × KF) → Fl → List Nat → CS → KF → Option Res
def findK (id : Nat) (ex : List (Nat × KF)) : Option KF := List.rec (motive := fun _ => Option KF) none (fun q _ ih => Bool.rec (motive := fun _ => Option KF) ih (some q.2) (Nat.beq q.1 id)) ex
def dstOk (ops : Array Oper) (n : Nat) : Bool := ops.toList.all fun o => inB o.dst n
def cSkip : CO := fun x ex l ds c k => k l ds c
def isDfr (o : Oper) : Option (FuncId × List Operand) := match o.op,o.guard,o.dst with
 | .defer ⟨.value (.func g),xs,_⟩,none,none => some (g,xs.toList)
 | _,_,_ => none
def opsD (x : Xc) (ops : Array Oper) (l : Fl) (ds : List Nat) (c : CS) (k : KF) : Option Res :=
 match x.ro,(ops.toList.getLast?).bind isDfr with
 | none,some q => opsT ops.toList.dropLast x ops (fun l c => bnd (evL l q.2) fun vs => CS.syncK (c.hs.new (.call q.1 vs)) (fun c1 => k l (c.next :: ds) c1) [c.next] c) l c
 | _,_ => opsT ops.toList x ops (fun l c => k l ds c) l c
def cReg (_ : Nat) (ops : Array Oper) (draw : Bool) : CO := fun x ex l ds c k =>
 Bool.rec (motive := fun _ => Option Res) none (Bool.rec (motive := fun _ => Option Res) (Bool.rec (motive := fun _ => Option Res) (opsT ops.toList x ops (fun l c => k l ds c) l c) (opsD x ops l ds c k) (Nat.beq x.f x.K.dfn)) (x.dr x.P x.K x.rc x.E ops (fun l c => k l ds c) l c) draw) (dstOk ops x.n)
def cSeq (_ _ : Code) (a b : CO) : CO := fun x ex l ds c k => a x ex l ds c fun l ds c => b x ex l ds c k
def cCond (o : Operand) (_ _ : Code) (a b : CO) : CO := fun x ex l ds c k => bnd (ev l o) fun v => bnd (dB v) fun t => (Bool.rec (motive := fun _ => CO) b a t) x ex l ds c k
def cBlock (id : Nat) (_ : Code) (a : CO) : CO := fun x ex l ds c k => a x ((id,k) :: ex) l ds c k
def cLoop (_ : Code) (a : CO) : CO := fun x ex l ds c _ => Nat.rec (motive := fun _ => KF) (fun _ _ _ => none) (fun _ ih l ds c => ddK l 0 fun l => a x ex l ds c ih) x.K.fu l ds c
def cExit (id : Nat) : CO := fun x ex l ds c _ => Option.rec (motive := fun _ => Option Res) (bnd x.ro fun lo => endT lo (some (.exit id)) c) (fun k => k l ds c) (findK id ex)
def cScope (_ : Code) (a : CO) : CO := a
def cLabel (_ : Nat) : CO := cSkip
def cNone (_ : Nat) : CO := fun x ex l ds c k => none
def cRet : CO := fun x ex l ds c _ => Option.rec (motive := fun _ => Option Res) (xP x fun P => leaveX P x.K x.rc x.E x.f l ds c) (fun lo => endT lo (some .ret) c) x.ro
def cRefuse (_ : String) : CO := fun x ex l ds c k => none
def cPend (j : Option Code) (x : Xc) (ex : List (Nat × KF)) (l : Fl) (ds : List Nat) (c : CS) (k : KF) : Option Res :=
 match j with
 | none => k l ds c
 | some .ret => cRet x ex l ds c k
 | some (.exit id) => cExit id x ex l ds c k
 | _ => none
def cRange0 (fv : HV) (ps : Array Tmp) (assign body : Code) : CO := fun x ex l ds c k =>
 CS.syncK ((c.hs.new .defer).new (.loop .ready none)) (fun c1 => bnd (x.rc fv [.fn (.yield (c.next + 1)) [] []] c1 (⟨c.next + 1,x.f,x.n,l,ps,assign,body⟩ :: x.E)) fun r => bnd (r.2.hs.finish (c.next + 1)) fun p =>
  CS.syncP p.2 (c.next + 1) r.2 fun c3 => cPend p.1 x ex l (c.next :: ds) c3 k) [c.next,c.next + 1] c
def cRange1 (lo : Nat) (fv : HV) (ps : Array Tmp) (assign body : Code) : CO := fun x ex l ds c k => bnd (c.hs.lp lo) fun _ =>
 CS.syncK (c.hs.new (.loop .ready none)) (fun c1 => bnd (x.rc fv [.fn (.yield c.next) [] []] c1 (⟨c.next,x.f,x.n,l,ps,assign,body⟩ :: x.E)) fun r => bnd (r.2.hs.finish c.next) fun p =>
  CS.syncP p.2 c.next r.2 fun c3 => cPend p.1 x ex l ds c3 k) [c.next] c
def cRange (g : Operand) (ps : Array Tmp) (assign body : Code) (_ _ : CO) : CO := fun x ex l ds c k => bnd (ev l g) fun fv => frcN c.next fun _ => Option.rec (motive := fun _ => CO) (cRange0 fv ps assign body) (fun lo => cRange1 lo fv ps assign body) x.ro x ex l ds c k
def cexec (a : Code) : CO := Code.rec (motive := fun _ => CO) cSkip cReg cSeq cCond cBlock cLoop cRange cExit cScope cLabel cNone cRet cRefuse a
def findL (l : Nat) (E : List LR) : Option LR := List.rec (motive := fun _ => Option LR) none (fun r _ ih => Bool.rec (motive := fun _ => Option LR) ih (some r) (Nat.beq r.l l)) E
def callB (P : Program) (K : Kn) (dr : DrawF) (rec : Rec) (g : FuncId) (fn : Func) (code : Code) (vs : List HV) (c : CS) (E : List LR) : Option Res :=
 Bool.rec (motive := fun _ => Option Res)
  (Option.rec (motive := fun _ => Option Res) (frcN (Nat.add vs.length (Nat.sub fn.ntmps vs.length)) fun n => cexec code ⟨P,K,dr,rec,E,n,g,none⟩ [] (mkL vs 0 .nil) [] c fun l ds c => leaveX P K rec E g l ds c) (fun r => r vs c) (K.over g))
  none (fn.name == "runtime.NumGoroutine")
def callF (P : Program) (K : Kn) (dr : DrawF) (rec : Rec) (g : FuncId) (vs : List HV) (c : CS) (E : List LR) : Option Res := bnd P.funcs[g]? fun fn => bnd fn.body fun code => callB P K dr rec g fn code vs c E
def roundT (P : Program) (K : Kn) (dr : DrawF) (rec : Rec) (lo : Nat) (r : LR) (vs : List HV) (c : CS) (E : List LR) : Option Res :=
 Bool.rec (motive := fun _ => Option Res) none
  (cexec r.assign ⟨P,K,dr,rec,E,r.n,r.f,some lo⟩ [] (mkP r.ps.toList vs r.F) [] c fun l ds c => bnd (c.hs.begin_ lo) fun S' => CS.syncP S' lo c fun c => cexec r.body ⟨P,K,dr,rec,E,r.n,r.f,some lo⟩ [] l ds c fun l ds c => endT lo none c)
  (Nat.beq vs.length r.ps.size && r.ps.toList.all (fun p => Nat.ble (p + 1) r.n))
def callY (P : Program) (K : Kn) (dr : DrawF) (rec : Rec) (lo : Nat) (vs : List HV) (c : CS) (E : List LR) : Option Res := bnd (findL lo E) fun r => bnd (c.hs.lp lo) fun _ => roundT P K dr rec lo r vs c E
def callT (P : Program) (K : Kn) (dr : DrawF) (rec : Rec) (fv : HV) (vs : List HV) (c : CS) (E : List LR) : Option Res :=
 match fv with
 | .fn (.func g) first cap => callF P K dr rec g (first ++ vs ++ cap) c E
 | .fn (.yield l) [] [] => callY P K dr rec l vs c E
 | _ => none
def exec (P : Program) (K : Kn) (dr : DrawF) (n : Nat) : Rec := Nat.rec (motive := fun _ => Rec) (fun _ _ _ _ => none) (fun _ ih => callT P K dr ih) n
end
end Go.Proofs.YtfningkbcfhheaaGreatDoor.HL
