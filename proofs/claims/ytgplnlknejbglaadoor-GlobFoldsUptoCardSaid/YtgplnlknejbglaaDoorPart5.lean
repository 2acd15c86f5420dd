/- The layer HL, part 27: what strings.Builder needs: typed appends, unsafe.String, pointers compared; and contracts of others. The layer HL, part 18: slices among the arguments, laid as objects that nobody writes. The layer HL, part 19: reading slices, structs in cells. -/
import Derived.Lib.UnsafeStr
import Derived.Lib.Builder
import Derived.Test.YtgplnlknejbglaaDoorPart4
namespace Go.Proofs.YtgplnlknejbglaaDoor.HL
set_option linter.unusedVariables false
open Go.RowKit (Below)
section
variable {P : Program} {base : Nat} {W0 : World} {a : HAct} {S S' : HS} {o : Oper} {β : Bt} {w : World}
/-! ### appends whose block's type is kept in mind -/
theorem ok_append_strT {t u e : Nat} {zr : List HV} (he : ElemAt P t e 1 zr) {x y : Operand} {tys : Array TypeId} (ho : o.op = .call ⟨.builtin .append,#[x,y],tys⟩) (h0 : tys[0]? = some t) (h1 : tys[1]? = some u) (hu : P.underlying u = some .string)
  {s s' : Sl} {txt : List UInt8} (hx : Ev a x s.hv) (hy : Ev a y (.str txt)) (hv : S.appT s (bytesRows txt) 1 e = some (s',S')) : OpOk P base W0 o a S s'.hv S' := by
 refine ⟨by rw [ho]; simp,fun β w a' h h2 => ?_⟩
 have hxr := hx.rel h2
 generalize hxv : a'.eval x = xv at hxr
 have e1 : (⟨txt.toArray⟩ : ByteArray).extract 0 txt.length = ⟨txt.toArray⟩ := by rw [extract_mk]; simp
 obtain ⟨β',w',v',k1,k2,k3,k4⟩ := h.appT he o.type hv hxr (src := .string ⟨txt.toArray⟩) (arrN := (⟨txt.toArray⟩ : ByteArray).data.map fun b => Value.int .u8 b.toNat) (appends_of he h0 h1 (.inr hu) (fun d => by simp [Builtin.lenOf,size_mk,size_bytesRows])
  (fun d => by simp [Builtin.firstCells,size_bytesRows,e1])) (by simp [size_bytesRows]) (bytes_rel txt β)
 exact ⟨β',w',v',k1,.inl (by simp [execOp,ho,resolve,invoke,builtin,hxv,hy.at_str h2,k2]),k3,k4⟩
/-! ### pointers -/
/-- Are two pointers one? (Told where they are the same, or one is nil.) -/
def pEq (p q : Option HA) : Option Bool :=
 match p,q with
 | none,none => some true
 | none,some _ => some false
 | some _,none => some false
 | some x,some y => if x.id = y.id ∧ x.i = y.i ∧ x.j = y.j then some true else none
theorem run_ptr_same {w : World} {t e : TypeId} {j : TypeInfo} (ht : P.underlying t = some (.pointer e)) (hj : P.info? e = some j) (ad : Addr) (d : Nat) : (Op.equalIn (d + 1) t (.pointer (some ad)) (.pointer (some ad))).run P w = .ok true w := by
 simp [Op.equalIn,run_underlying ht,sizeOf,typeInfo,hj,run_sameAddr_same]
theorem run_ptrEq {p q : Option HA} {b : Bool} {u v : Value} {w : World} {t e : TypeId} (h : pEq p q = some b) (hp : VRel β (.ptr p) u) (hq : VRel β (.ptr q) v) (ht : P.underlying t = some (.pointer e)) (hj : (P.info? e).isSome = true) :
  ∀ d,(Op.equalIn (d + 1) t u v).run P w = .ok b w := by
 intro d
 obtain ⟨j,hj⟩ := Option.isSome_iff_exists.1 hj
 cases hp with
 | ptrNil =>
  cases hq with
  | ptrNil => simp [pEq] at h; subst h; simp [Op.equalIn,run_underlying ht]
  | ptr hb => simp [pEq] at h; subst h; simp [Op.equalIn,run_underlying ht]
 | @ptr id b1 o1 z1 n1 t1 i1 j1 hb =>
  cases hq with
  | ptrNil => simp [pEq] at h; subst h; simp [Op.equalIn,run_underlying ht]
  | @ptr id2 b2 o2 z2 n2 t2 i2 j2 hb2 =>
   simp only [pEq] at h
   split at h
   ·rename_i hc
    obtain ⟨rfl,rfl,rfl⟩ := hc
    rw [hb] at hb2
    cases hb2
    cases h
    exact run_ptr_same ht hj _ d
   ·cases h
theorem ok_ptr_eq {op : BinOp} {t ty e : TypeId} {x y : Operand} {p q : Option HA} {b r : Bool} (ho : o.op = .binOp op t x y ty) (ht : P.underlying t = some (.pointer e)) (hj : (P.info? e).isSome = true) (hx : Ev a x (.ptr p)) (hy : Ev a y (.ptr q)) (hv : pEq p q = some b)
  (hop : op = .eql ∧ r = b ∨ op = .neq ∧ r = !b) : OpOk P base W0 o a S (.bool r) S := by
 refine .pure (by rw [ho]; simp) fun β w a' _ h2 => ⟨.bool r,?_,.bool r⟩
 have hxr := hx.rel h2
 have hyr := hy.rel h2
 generalize hxv : a'.eval x = xv at hxr
 generalize hyv : a'.eval y = yv at hyr
 have h3 := run_ptrEq (w := w) hv hxr hyr ht hj 9999
 have e1 : ∃ u,xv = .pointer u := by cases hxr <;> exact ⟨_,rfl⟩
 have e2 : ∃ u,yv = .pointer u := by cases hyr <;> exact ⟨_,rfl⟩
 obtain ⟨u1,rfl⟩ := e1
 obtain ⟨u2,rfl⟩ := e2
 rcases hop with ⟨rfl,rfl⟩ | ⟨rfl,rfl⟩ <;> simp only [execOp,ho,hxv,hyv,eqGuard,binOp,equal_def] <;> simp [h3]
/-! ### unsafe pointers -/
def HS.spot (S : HS) (p : Option HA) : Bool :=
 match p with
 | none => false
 | some ad =>
  match S.heap ad.id with
  | .cells z rows _ => decide (ad.i < rows.length ∧ ad.j < z)
  | _ => false
theorem Rel.spot (h : Rel base W0 β S w) {p : Option HA} {v : Value} (hs : S.spot p = true) (hv : VRel β (.ptr p) v) : ∃ ad t tot,v = .pointer (some ad) ∧ w.shape? ad.block = some (t,tot) ∧ ad.off < tot := by
 cases hv with
 | ptrNil => cases hs
 | @ptr id b o z n tot i j hb =>
  simp only [HS.spot] at hs
  split at hs
  ·rename_i z' rows own hS
   obtain ⟨b',o',tot',arr,t,fr,q1,q2,q3,q4,q5,q6⟩ := h.live hS
   rw [hb] at q1
   cases q1
   simp only [decide_eq_true_eq] at hs
   refine ⟨_,t,tot,rfl,by simp [World.shape?,q2,q3],?_⟩
   have hm : (i + 1) * z ≤ rows.length * z := Nat.mul_le_mul_right z (by omega)
   rw [Nat.succ_mul] at hm
   simp only
   omega
  ·cases hs
theorem ok_toUnsafe {src dst t : TypeId} {x : Operand} {p : Option HA} (ho : o.op = .convert src dst x) (hs : P.underlying src = some (.pointer t)) (hd : P.underlying dst = some .unsafePointer) (hj : (P.info? t).map (decide <| ·.size ≠ 0) = some true) (hx : Ev a x (.ptr p)) (hv : S.spot p = true) :
  OpOk P base W0 o a S (.ptr p) S := by
 refine .pure (by rw [ho]; simp) fun β w a' h1 h2 => ?_
 have hxr := hx.rel h2
 generalize hxv : a'.eval x = xv at hxr
 obtain ⟨ad,t',tot,rfl,k2,k3⟩ := h1.spot hv hxr
 obtain ⟨j,hj1,hj2⟩ := Option.map_eq_some_iff.1 hj
 exact ⟨_,by simp [execOp,ho,hxv,Lib.run_to_unsafe w ad hs hd hj1 (by simpa using hj2) k2 k3],hxr⟩
/-- A pointer to the only row, of two cells, of a block whose type is known. -/
def HS.spotT (S : HS) (p : Option HA) (T z : Nat) : Bool :=
 match p with
 | none => false
 | some ad =>
  match S.heap ad.id with
  | .cells z' rows own => decide (own = true ∧ ad.i = 0 ∧ ad.j = 0 ∧ z' = z ∧ rows.length = 1 ∧ S.mrk ad.id = T + 2)
  | _ => false
theorem liesAt_one {e : TypeId} {count : Nat} (hc : 0 < P.cellsOf e) (hn : 1 ≤ count) : liesAt P P.depth e count 0 e 1 = true := by
 have hd : P.depth = (2 * (P.types.size + Made.depth) + 1) + 1 := rfl
 rw [hd]
 simp only [liesAt,Bool.or_eq_true]
 left
 rw [hd]
 have : P.cellsOf e ≠ 0 := by omega
 simp [rowAt,this,hn,sameLayout]
theorem ok_fromUnsafe {src dst t z : TypeId} {x : Operand} {p : Option HA} (ho : o.op = .convert src dst x) (hs : P.underlying src = some .unsafePointer) (hd : P.underlying dst = some (.pointer t)) (hj : (P.info? t).isSome = true) (hz : z = P.cellsOf t) (hc : 0 < P.cellsOf t)
  (hx : Ev a x (.ptr p)) (hv : S.spotT p t z = true) : OpOk P base W0 o a S (.ptr p) S := by
 refine .pure (by rw [ho]; simp) fun β w a' h1 h2 => ?_
 have hxr := hx.rel h2
 generalize hxv : a'.eval x = xv at hxr
 obtain ⟨j,hj⟩ := Option.isSome_iff_exists.1 hj
 cases hxr with
 | ptrNil => cases hv
 | @ptr id b ob z0 n tot i jj hb =>
  simp only [HS.spotT] at hv
  split at hv
  ·rename_i z' rows own hS
   simp only [decide_eq_true_eq] at hv
   obtain ⟨v1,v2,v3,v4,v5,v6⟩ := hv
   subst v2 v3 v4
   have ho' := h1.objs id
   rw [hS] at ho'
   obtain ⟨b',o',tot',arr,ty,fr,q1,q2,q3,q4,q5,q6,q7⟩ := ho'
   rw [hb] at q1
   cases q1
   obtain ⟨e1,rfl⟩ := (q7 v1).2.2.2.2 t v6
   rw [e1] at q2
   have hlies := liesAt_one (P := P) (e := t) (count := tot / P.cellsOf t) hc (by rw [← hz]; exact Nat.div_pos (by rw [v5] at q4; omega) q5)
   have e0 : (0 + 0 * z0 + 0 : Nat) = 0 := by omega
   have hrun := Lib.run_from_unsafe w ⟨b,0,none⟩ hs hd hj (show w.shape? b = some (t,tot) by simp [World.shape?,q2,q3]) hlies
   refine ⟨.pointer (some ⟨b,0,none⟩),by simp only [execOp,ho,hxv,e0]; simp [hrun],?_⟩
   have := VRel.ptr (β := β) (i := 0) (j := 0) hb
   simpa using this
  ·cases hv
/-! ### unsafe.SliceData, unsafe.String -/
def Sl.data (s : Sl) : Option (Option HA) :=
 match s.a with
 | none => some none
 | some (id,off) => if 0 < s.len then some (some ⟨id,off,0⟩) else none
theorem ok_sliceData {x : Operand} {tys : Array TypeId} {s : Sl} {q : Option HA} (ho : o.op = .call ⟨.builtin .unsafeSliceData,#[x],tys⟩) (hx : Ev a x s.hv) (hv : s.data = some q) : OpOk P base W0 o a S (.ptr q) S := by
 refine .pure (by rw [ho]; simp) fun β w a' _ h2 => ?_
 have hr := hx.rel h2
 obtain ⟨sa,len,c⟩ := s
 simp only [Sl.hv] at hr
 generalize hxv : a'.eval x = xv at hr
 cases hr with
 | slNil =>
  simp only [Sl.data,Option.some.injEq] at hv
  subst hv
  exact ⟨.pointer none,by simp [execOp,ho,resolve,invoke,builtin,hxv,Lib.run_unsafeSliceData_nil],.ptrNil⟩
 | @sl id b o1 z n tot off _ cap _ h h1 h23 h3 h4 h5 =>
  simp only [Sl.data] at hv
  split at hv
  ·rename_i hl
   cases hv
   refine ⟨.pointer (some ⟨b,o1 + off * z,none⟩),by simp [execOp,ho,resolve,invoke,builtin,hxv,Lib.run_unsafeSliceData_row _ _ _ _ _ _ (show cap ≠ 0 by omega)],?_⟩
   have := VRel.ptr (β := β) (i := off) (j := 0) h
   simpa using this
  ·cases hv
 | slEnd h h2' h3 h4 => simp [Sl.data] at hv
/-- The text behind a pointer: its block is nobody's alone any more. -/
def HS.ustr (S : HS) (q : Option HA) (n : Int) (e : Nat) : Option (List UInt8 × HS) :=
 if n = 0 then some ([],S) else
 match q with
 | none => none
 | some ad =>
  match S.heap ad.id with
  | .cells 1 rows true => if ad.j = 0 ∧ 0 < n ∧ n ≤ 9223372036854775807 ∧ ad.i + n.toNat ≤ rows.length ∧ S.mrk ad.id = e + 2 then (bytesOf ((rows.drop ad.i).take n.toNat)).map fun t => (t,S.put ad.id (.cells 1 rows false)) else none
  | _ => none
theorem liesAt_at {e : TypeId} (hc : P.cellsOf e = 1) (count off n : Nat) (hn : off + n ≤ count) : liesAt P P.depth e count off e n = true := by
 have hd : P.depth = (2 * (P.types.size + Made.depth) + 1) + 1 := rfl
 rw [hd]
 simp only [liesAt,Bool.or_eq_true]
 left
 rw [hd]
 simp [rowAt,hc,hn,sameLayout,Nat.mod_one]
theorem run_loadInts (w : World) : ∀ (ns : List Int) (a : Addr) (acc : ByteArray),(∀ j x,ns[j]? = some x → w.cell? (a.add j) = some (.int .u8 x)) →
  (loadBytes a acc ns.length).run P w = .ok ⟨acc.data ++ (ns.map fun n => UInt8.ofNat n.toNat).toArray⟩ w
 | [],a,acc,_ => by simp [loadBytes]
 | x :: l,a,acc,h => by
  have h0 : w.cell? a = some (.int .u8 x) := by
   have := h 0 x rfl
   simpa [Addr.add] using this
  have ih := run_loadInts w l (a.add 1) (acc.push (UInt8.ofNat x.toNat)) (fun j y hy => by
   have := h (j + 1) y (by simpa using hy)
   have e : (a.add 1).add j = a.add (j + 1) := by
    unfold Addr.add
    by_cases hj : j = 0
    ·subst hj; simp
    ·simp [hj]; omega
   rw [e]; exact this)
  have hx : (x.toNat).toUInt8 = UInt8.ofNat x.toNat := rfl
  simp only [List.length_cons,loadBytes,Sem.run_bind,run_load,h0,Result.andThen,hx]
  rw [ih]
  congr 1
  apply ByteArray.ext
  simp [ByteArray.push]
theorem run_unsafeString_at (w : World) (pt it ty e : TypeId) (hp : P.underlying pt = some (.pointer e)) (hc : P.cellsOf e = 1) (g off cells : Nat) (hsh : w.shape? g = some (e,cells)) (l : List Int) (h0 : l ≠ []) (hn : off + l.length ≤ cells) (h63 : l.length ≤ 9223372036854775807)
  (hcell : ∀ j x,l[j]? = some x → w.cell? ((⟨g,off,none⟩ : Addr).add j) = some (.int .u8 x)) :
  (Builtin.unsafeString_ #[pt,it] ty #[.pointer (some ⟨g,off,none⟩),.int .i64 l.length]).run P w =   .ok (.string ⟨(l.map fun n => UInt8.ofNat n.toNat).toArray⟩) (w.freeze ⟨g,off,none⟩ l.length) := by
 have hl : l.length ≠ 0 := by simpa using h0
 have hlb := run_loadInts (P := P) w l ⟨g,off,none⟩ .empty hcell
 have hlies := liesAt_at (P := P) hc (cells / P.cellsOf e) off l.length (by rw [hc]; simpa using hn)
 have h63' : ¬ (9223372036854775807 : Int) < (l.length : Int) := by omega
 have hdef : Builtin.unsafeString_ #[pt,it] ty #[.pointer (some ⟨g,off,none⟩),.int .i64 l.length] =
   (do
    let n ← asInt (.int .i64 l.length)
    if n < 0 then runtimePanic (.error "unsafe.String: len out of range")
    if n > IntKind.i64.max then unsupported (.unsafePointer "String: a length above the largest int")
    if n = 0 then pure (.string .empty)
    else if ← variablesAt ⟨g,off,none⟩ (← elemOf pt) n.toNat then do
     let s ← loadBytes ⟨g,off,none⟩ .empty n.toNat
     freeze ⟨g,off,none⟩ n.toNat
     pure (.string s)
    else unsupported (.unsafePointer "String: not so many bytes at ptr")) := rfl
 rw [hdef]
 have hmax : IntKind.i64.max = 9223372036854775807 := rfl
 have hneg : ¬ (l.length : Int) < 0 := by omega
 simp [asInt,asIntOf,hmax,h63',hneg,hl,variablesAt,hsh,elemOf,run_underlying hp,hlies,hlb]
/-- A new variable of which the type is kept in mind. -/
theorem ok_allocT {t : TypeId} {zv : Value} {r : List HV} {S' : HS} (ho : o.op = .alloc t) (ht : (P.info? t).map (·.zero) = some (some zv)) (hz : ∀ β,VRels β r zv.cells) (hr : 0 < r.length) (hf : r.all (·.flat) = true) (hq : S' = S.newM (.cells r.length [r] true) (t + 2)) :
  OpOk P base W0 o a S (.ptr (some (.cell0 S.next))) S' := by
 subst hq
 refine ⟨by rw [ho]; simp,fun β w a' h1 h2 => ?_⟩
 obtain ⟨β',g1,g2,g3⟩ := h1.newRowsM [r] zv.cells t (0,0) r.length (t + 2) (.typed (Nat.le_refl _)) hr (by simp [(hz β).1]) (rows_one (hz β) (fun v hv => List.all_eq_true.1 hf v hv)) (fun i _ => by omega) (.inl (by simp [(hz β).1]))
 obtain ⟨i,hi,hi2⟩ : ∃ i,P.info? t = some i ∧ i.zero = some zv := by
  cases hc : P.info? t with
  | none => rw [hc] at ht; cases ht
  | some i => rw [hc] at ht; exact ⟨i,rfl,by simpa using ht⟩
 refine ⟨β',_,.pointer (some ⟨w.heap.size,0,none⟩),g1,.inl ?_,?_,g3⟩
 ·simp [execOp,ho,Instr.alloc,zeroValue,typeInfo,hi,hi2,newVar,newRow]
 ·simpa [HA.cell0] using VRel.ptr (i := 0) (j := 0) g2
theorem bytes_at {rows : List (List HV)} {arr : Array Value} {ob i n : Nat} {ns : List Int} (h : RowsRel β rows arr ob 1) (ht : (rows.drop i).take n = ns.map fun n => [HV.int .u8 n]) (j : Nat) (x : Int) (hx : ns[j]? = some x) : arr[ob + i + j]? = some (.int .u8 x) := by
 have e1 : ((rows.drop i).take n)[j]? = some [HV.int .u8 x] := by rw [ht]; simp [hx]
 rw [List.getElem?_take] at e1
 split at e1
 ·rw [List.getElem?_drop] at e1
  obtain ⟨_,g2⟩ := h _ _ e1
  obtain ⟨_,v',g3,g4⟩ := g2 0 _ rfl
  cases g4
  rw [← g3]
  congr 1
  omega
 ·cases e1
theorem freeze_is {w : World} {b off n : Nat} {arr : Array Value} {t : TypeId} {fr : Nat × Nat} (hw : w.heap[b]? = some (.cells arr t fr)) (hn : n ≠ 0) : ∃ fr',w.freeze ⟨b,off,none⟩ n = { w with heap := w.heap.setIfInBounds b (.cells arr t fr') } := by
 obtain ⟨lo,hi⟩ := fr
 refine ⟨if lo == hi then (off,off + n) else (min lo off,max hi (off + n)),?_⟩
 simp only [World.freeze,if_neg hn]
 congr 1
 apply Array.ext_getElem?
 intro i
 rw [Array.getElem?_modify,Array.getElem?_setIfInBounds]
 by_cases h : b = i
 ·subst h
  have hlt : b < w.heap.size := by
   rcases Nat.lt_or_ge b w.heap.size with h' | h'
   ·exact h'
   ·simp [Array.getElem?_eq_none h'] at hw
  rw [if_pos rfl,if_pos rfl,if_pos hlt,hw]
  rfl
 ·rw [if_neg h,if_neg h]
theorem ok_unsafeString {x y : Operand} {pt it e : TypeId} {q : Option HA} {n : Int} {txt : List UInt8} {S' : HS} (ho : o.op = .call ⟨.builtin .unsafeString,#[x,y],#[pt,it]⟩) (hp : P.underlying pt = some (.pointer e)) (hc : P.cellsOf e = 1)
  (hx : Ev a x (.ptr q)) (hy : Ev a y (.int .i64 n)) (hv : S.ustr q n e = some (txt,S')) : OpOk P base W0 o a S (.str txt) S' := by
 refine ⟨by rw [ho]; simp,fun β w a' h h2 => ?_⟩
 have hxr := hx.rel h2
 have hyv := hy.at_int h2
 generalize hxv : a'.eval x = xv at hxr
 unfold HS.ustr at hv
 split at hv
 ·rename_i h0
  subst h0
  cases hv
  have hk : ∃ p,xv = .pointer p := by cases hxr <;> exact ⟨_,rfl⟩
  obtain ⟨p,rfl⟩ := hk
  exact ⟨β,w,.string .empty,Le.refl _,.inl (by simp [execOp,ho,resolve,invoke,builtin,hxv,hyv,Lib.run_unsafeString_none]),.str [],h⟩
 ·rename_i h0
  cases hxr with
  | ptrNil => cases hv
  | @ptr id b ob z0 m tot i jj hb =>
   simp only at hv
   split at hv
   ·rename_i rows hS
    split at hv
    case isFalse => cases hv
    rename_i hcnd
    obtain ⟨c1,c2,c3,c4,c5⟩ := hcnd
    subst c1
    obtain ⟨txt',e1,e2⟩ := Option.map_eq_some_iff.1 hv
    cases e2
    have ho' := h.objs id
    rw [hS] at ho'
    obtain ⟨b',o',tot',arr,ty,fr,q1,q2,q3,q4,q5,q6,q7⟩ := ho'
    rw [hb] at q1
    cases q1
    obtain ⟨t1,rfl⟩ := (q7 rfl).2.2.2.2 e c5
    rw [t1] at q2
    obtain ⟨ns,n1,n2⟩ := bytes_nums _ _ e1
    have hlen : ns.length = n.toNat := by
     have := congrArg List.length n1
     simp at this
     omega
    have hn : (ns.length : Int) = n := by omega
    have hat := fun j x hj => bytes_at (β := β) (ob := 0) q6 n1 j x hj
    have hrun := run_unsafeString_at (P := P) w pt it o.type e hp hc b (0 + i * 1 + 0) tot (by simp [World.shape?,q2,q3]) ns (by intro e; rw [e] at hlen; simp at hlen; omega) (by rw [hlen]; omega) (by omega) (by
     intro j x hj
     have := hat j x hj
     by_cases hj0 : j = 0
     ·subst hj0; simp [World.cell?,Addr.add,q2]; simpa using this
     ·simp [World.cell?,Addr.add,q2,hj0]; simpa using this)
    rw [hn,← n2] at hrun
    obtain ⟨fr',hfr⟩ := freeze_is (off := 0 + i * 1 + 0) (n := ns.length) q2 (by omega)
    rw [hfr] at hrun
    refine ⟨β,_,.string ⟨txt.toArray⟩,Le.refl _,.inl (by simp [execOp,ho,resolve,invoke,builtin,hxv,hyv]; simp at hrun; rw [hrun]; rfl),.str txt,?_⟩
    refine h.setObj (by rw [hb]; rfl) (q7 rfl).1 (by rw [hS]; rfl) (by rw [hS]; rfl) ?_
    exact ⟨b,0,tot,arr,e,fr',hb,by
     have hlt : b < w.heap.size := by
      rcases Nat.lt_or_ge b w.heap.size with h' | h'
      ·exact h'
      ·simp [Array.getElem?_eq_none h'] at q2
     simp [hlt],q3,q4,q5,q6,fun hq => by cases hq⟩
   ·cases hv
theorem Rel.top {w' : World} (h : Rel base W0 β S w) (hb : Below w.heap.size w w') : Rel base W0 β S w' := by
 refine ⟨h.below.trans ⟨hb.os,hb.tape,hb.output,hb.size,fun j hj => hb.block j (Nat.lt_of_lt_of_le hj h.size)⟩,Nat.le_trans h.size hb.size,h.fresh,fun i c hc => Nat.lt_of_lt_of_le (h.lt i c hc) hb.size,fun i => ?_,h.disj⟩
 have h1 := h.objs i
 cases hS : S.heap i with
 | dead => trivial
 | cells z rows own =>
  rw [hS] at h1
  obtain ⟨b1,o1,tot,arr,t,fr,q1,q2,q3⟩ := h1
  exact ⟨b1,o1,tot,arr,t,fr,q1,(hb.block b1 (h.lt i b1 (by rw [q1]; rfl))).trans q2,q3⟩
 | map es =>
  rw [hS] at h1
  obtain ⟨b1,es',clk,q1,q2,q3,q4⟩ := h1
  exact ⟨b1,es',clk,q1,q2,(hb.block b1 (h.lt i b1 (by rw [q1]; rfl))).trans q3,q4⟩
 | loop st pend =>
  rw [hS] at h1
  obtain ⟨b1,L,q1,q2,q3⟩ := h1
  exact ⟨b1,L,q1,q2,(hb.block b1 (h.lt i b1 (by rw [q1]; rfl))).trans q3⟩
 | defer =>
  rw [hS] at h1
  obtain ⟨b1,q1,q2,q3⟩ := h1
  exact ⟨b1,q1,q2,(hb.block b1 (h.lt i b1 (by rw [q1]; rfl))).trans q3⟩
theorem VRels.two {a b : HV} {args' : Array Value} (h : VRels β [a,b] args') : ∃ u v,args' = #[u,v] ∧ VRel β a u ∧ VRel β b v := by
 obtain ⟨l⟩ := args'
 obtain ⟨hl,hv⟩ := h
 match l,hl with
 | [u,v],_ => exact ⟨u,v,rfl,hv 0 _ _ rfl rfl,hv 1 _ _ rfl rfl⟩
/-- A contract of the library, over all worlds: a call that leaves all that was as it was. -/
theorem HCall.of_calls {β0 : Bt} {f : FuncId} {args : List HV} {v : HV} (h : ∀ (β : Bt) (w : World) (args' : Array Value),Rel base W0 β S w → VRels β args args' → ∃ v',VRel β v v' ∧ Calls P f args' w fun e w' => e = .returned v' ∧ Below w.heap.size w w') :
  HCall P base W0 β0 f args S (fun u S1 => u = v ∧ S1 = S) := by
 intro β w args' hle hrel ha cs
 obtain ⟨v',hv,hc⟩ := h β w args' hrel ha
 obtain ⟨e,w',fr,⟨rfl,hb⟩,g2,g3,g4⟩ := hc cs
 exact ⟨β,v,S,v',w',fr,Le.refl _,⟨rfl,rfl⟩,hv,hrel.top hb,g2,g3,g4⟩
/-! ### what a call has made itself may be forgotten -/
theorem VRel.down {β β' : Bt} (hb : Le β β') {v : HV} {v0 : Value} (h : VRel β v v0) : ∀ {v1 : Value},VRel β' v v1 → VRel β v v1 := by
 have lists : ∀ {cs : List HV} {c0 c1 : Array Value},cs.length = c0.size → (∀ (i : Nat) (v : HV) (v' : Value),cs[i]? = some v → c0[i]? = some v' → ∀ {v1 : Value},VRel β' v v1 → VRel β v v1) → (∀ (i : Nat) (v : HV) (v' : Value),cs[i]? = some v → c1[i]? = some v' → VRel β' v v') →
   ∀ (i : Nat) (v : HV) (v' : Value),cs[i]? = some v → c1[i]? = some v' → VRel β v v' := by
  intro cs c0 c1 hl h0 h1 i v v' hv hv'
  have hi : i < c0.size := by rw [← hl]; exact (List.getElem?_eq_some_iff.1 hv).1
  exact h0 i v _ hv (Array.getElem?_eq_getElem hi) (h1 i v v' hv hv')
 induction h with
 | bool b => intro v1 h1; cases h1; exact .bool b
 | int k n => intro v1 h1; cases h1; exact .int k n
 | str s => intro v1 h1; cases h1; exact .str s
 | ptrNil => intro v1 h1; cases h1; exact .ptrNil
 | ptr h =>
  intro v1 h1
  have e := hb.eq h (by simp)
  cases h1 with
  | ptr h' => rw [e] at h'; cases h'; exact .ptr h
 | slNil c => intro v1 h1; cases h1; exact .slNil c
 | sl h _ _ _ _ _ =>
  intro v1 h1
  have e := hb.eq h (by simp)
  cases h1 with
  | sl h' g1 g2 g3 g4 g5 => rw [e] at h'; cases h'; exact .sl h g1 g2 g3 g4 g5
  | slEnd h' g2 g3 g4 => rw [e] at h'; cases h'; exact .slEnd h g2 g3 g4
 | slEnd h _ _ _ =>
  intro v1 h1
  have e := hb.eq h (by simp)
  cases h1 with
  | sl h' g1 g2 g3 g4 g5 => rw [e] at h'; cases h'; exact .sl h g1 g2 g3 g4 g5
  | slEnd h' g2 g3 g4 => rw [e] at h'; cases h'; exact .slEnd h g2 g3 g4
 | mapNil => intro v1 h1; cases h1; exact .mapNil
 | map h =>
  intro v1 h1
  have e := hb.eq h (by simp)
  cases h1 with
  | map h' => rw [e] at h'; cases h'; exact .map h
 | fn h1 _ h3 _ ih1 ih2 =>
  intro v1 h
  cases h with
  | fn g1 g2 g3 g4 => exact .fn g1 (lists h1 ih1 g2) g3 (lists h3 ih2 g4)
 | yld h =>
  intro v1 h1
  have e := hb.eq h (by simp)
  cases h1 with
  | yld h' => rw [e] at h'; cases h'; exact .yld h
 | nilFn => intro v1 h1; cases h1; exact .nilFn
 | agg h1 _ ih =>
  intro v1 h
  cases h with
  | agg g1 g2 => exact .agg g1 (lists h1 ih g2)
 | tup h1 _ ih =>
  intro v1 h
  cases h with
  | tup g1 g2 => exact .tup g1 (lists h1 ih g2)
 | nilIf => intro v1 h1; cases h1; exact .nilIf
 | junk h => intro v1 h1; cases h1 with | junk h' => exact .junk h'
theorem RowsRel.down {β β' : Bt} (hb : Le β β') {rows : List (List HV)} {a0 a1 : Array Value} {o o' z : Nat} (h0 : RowsRel β rows a0 o z) (h1 : RowsRel β' rows a1 o' z) : RowsRel β rows a1 o' z := by
 intro i row hr
 obtain ⟨g1,g2⟩ := h1 i row hr
 refine ⟨g1,fun j v hv => ?_⟩
 obtain ⟨f1,v1,f2,f3⟩ := g2 j v hv
 obtain ⟨_,v0,e2,e3⟩ := (h0 i row hr).2 j v hv
 exact ⟨f1,v1,f2,VRel.down hb e3 f3⟩
theorem EntRel.down {β β' : Bt} (hb : Le β β') {es : List (HV × HV)} {a0 a1 : Array MapEntry} (h0 : EntRel β es a0) (h1 : EntRel β' es a1) : EntRel β es a1 := by
 refine ⟨h1.1,fun i k v e hk he => ?_⟩
 have hi : i < a0.size := by rw [← h0.1]; exact (List.getElem?_eq_some_iff.1 hk).1
 obtain ⟨e1,e2⟩ := h0.2 i k v _ hk (Array.getElem?_eq_getElem hi)
 obtain ⟨f1,f2⟩ := h1.2 i k v e hk he
 exact ⟨VRel.down hb e1 f1,VRel.down hb e2 f2⟩
/-- All that was, is as it was. -/
structure Ext (S S' : HS) : Prop where
 heap : ∀ i,i < S.next → S'.heap i = S.heap i
 mrk : ∀ i,i < S.next → S'.mrk i = S.mrk i
 le : S.next ≤ S'.next
theorem Ext.refl (S : HS) : Ext S S := ⟨fun _ _ => rfl,fun _ _ => rfl,Nat.le_refl _⟩
theorem Ext.trans {A B C : HS} (h : Ext A B) (k : Ext B C) : Ext A C := ⟨fun i hi => (k.heap i (Nat.lt_of_lt_of_le hi h.le)).trans (h.heap i hi),fun i hi => (k.mrk i (Nat.lt_of_lt_of_le hi h.le)).trans (h.mrk i hi),Nat.le_trans h.le k.le⟩
theorem Ext.newM (S : HS) (o : HObj) (m : Nat) : Ext S (S.newM o m) := ⟨fun i hi => by simp [HS.newM,show i ≠ S.next by omega],fun i hi => by simp [HS.newM,show i ≠ S.next by omega],Nat.le_succ _⟩
theorem Ext.lit (S : HS) (rows : List (List HV)) (z : Nat) : Ext S (S.lit rows z).2 := Ext.newM _ _ _
theorem Rel.forget {β' : Bt} {w0 : World} {S' : HS} (h0 : Rel base W0 β S w0) (h : Rel base W0 β' S' w) (hb : Le β β') (he : Ext S S') : Rel base W0 β S w := by
 have old : ∀ i,β i ≠ .none → i < S.next := fun i hi => Nat.lt_of_not_le fun hn => hi (h0.fresh i hn).1
 refine ⟨h.below,h.size,h0.fresh,fun i c hc => ?_,fun i => ?_,h0.disj⟩
 ·have hn : β i ≠ .none := fun e => by rw [e] at hc; cases hc
  exact h.lt i c (by rw [hb i hn]; exact hc)
 ·have a0 := h0.objs i
  have a1 := h.objs i
  cases hS : S.heap i with
  | dead => trivial
  | cells z rows own =>
   rw [hS] at a0
   obtain ⟨b0,o0,tot0,arr0,t0,fr0,p1,p2,p3,p4,p5,p6,p7⟩ := a0
   have hi := old i (by rw [p1]; simp)
   rw [he.heap i hi,hS,he.mrk i hi] at a1
   obtain ⟨b,o,tot,arr,t,fr,q1,q2,q3,q4,q5,q6,q7⟩ := a1
   have e := hb i (by rw [p1]; simp)
   exact ⟨b,o,tot,arr,t,fr,e ▸ q1,q2,q3,q4,q5,RowsRel.down hb p6 q6,q7⟩
  | map es =>
   rw [hS] at a0
   obtain ⟨b0,es0,clk0,p1,p2,p3,p4⟩ := a0
   have hi := old i (by rw [p1]; simp)
   rw [he.heap i hi,hS] at a1
   obtain ⟨b,es',clk,q1,q2,q3,q4⟩ := a1
   have e := hb i (by rw [p1]; simp)
   exact ⟨b,es',clk,e ▸ q1,q2,q3,EntRel.down hb p4 q4⟩
  | loop st pend =>
   rw [hS] at a0
   obtain ⟨b0,L0,p1,p2,p3⟩ := a0
   have hi := old i (by rw [p1]; simp)
   rw [he.heap i hi,hS] at a1
   obtain ⟨b,L,q1,q2,q3⟩ := a1
   have e := hb i (by rw [p1]; simp)
   exact ⟨b,L,e ▸ q1,q2,q3⟩
  | defer =>
   rw [hS] at a0
   obtain ⟨b0,p1,p2,p3⟩ := a0
   have hi := old i (by rw [p1]; simp)
   rw [he.heap i hi,hS] at a1
   obtain ⟨b,q1,q2,q3⟩ := a1
   have e := hb i (by rw [p1]; simp)
   exact ⟨b,e ▸ q1,q2,q3⟩
/-- A call that makes but things of its own, and answers with a text. -/
theorem HCall.forget {β0 : Bt} {f : FuncId} {args : List HV} {t : List UInt8} (h : HCall P base W0 β0 f args S (fun v S1 => v = .str t ∧ Ext S S1)) : HCall P base W0 β0 f args S (fun v S1 => v = .str t ∧ S1 = S) := by
 intro β w args' hle hrel ha cs
 obtain ⟨β',v,S',v',w',fr,g1,⟨rfl,g2⟩,g3,g4,g5,g6,g7⟩ := h β w args' hle hrel ha cs
 refine ⟨β,_,S,v',w',fr,Le.refl _,⟨rfl,rfl⟩,?_,hrel.forget g4 g1 g2,g5,g6,g7⟩
 cases g3
 exact .str t
/-! ### small arrays -/
end
end Go.Proofs.YtgplnlknejbglaaDoor.HL
namespace Go.Proofs.YtgplnlknejbglaaDoor.HL
open Go.RowKit Go.ChangeShapes Go.WideShapes Go.ChangeAt
/-- Kinds of cells. -/
inductive SK where
 | int (k : IntKind)
 | str
 | bool
def SK.fits : SK → HV → Prop
 | .int k,v => ∃ n,v = .int k n ∧ k.min ≤ n ∧ n ≤ k.max
 | .str,v => ∃ s,v = .str s ∧ s.length ≤ maxLen
 | .bool,v => ∃ b,v = .bool b
def SK.of : SK → Value → Prop
 | .int k,v => ∃ n,v = .int k n ∧ k.min ≤ n ∧ n ≤ k.max
 | .str,v => ∃ s : ByteArray,v = .string s ∧ s.size ≤ maxLen
 | .bool,v => ∃ b,v = .bool b
theorem SK.get {k : SK} {v : Value} (h : k.of v) : ∃ u : HV,k.fits u ∧ u.flat = true ∧ ∀ β,VRel β u v := by
 cases k with
 | int k => obtain ⟨n,rfl,h1⟩ := h; exact ⟨.int k n,⟨n,rfl,h1⟩,rfl,fun β => .int k n⟩
 | str => obtain ⟨s,rfl,h1⟩ := h; exact ⟨.str s.data.toList,⟨_,rfl,by simpa using h1⟩,rfl,fun β => .str s.data.toList⟩
 | bool => obtain ⟨b,rfl⟩ := h; exact ⟨.bool b,⟨b,rfl⟩,rfl,fun β => .bool b⟩
/-- A row that fits its kinds. -/
def RowFits : List SK → List HV → Prop
 | [],[] => True
 | k :: ks,v :: vs => k.fits v ∧ RowFits ks vs
 | _,_ => False
theorem RowFits.len : ∀ {ks : List SK} {vs : List HV},RowFits ks vs → vs.length = ks.length
 | [],[],_ => rfl
 | k :: ks,v :: vs,h => by simp [RowFits.len h.2]
 | [],_ :: _,h => h.elim
 | _ :: _,[],h => h.elim
/-! ### the first heap -/
abbrev AObj := Option (Nat × List (List HV))
def objOf : AObj → HObj
 | some (z,rows) => .cells z rows false
 | none => .dead
inductive ArgOk (W : World) : AObj → Tgt → Prop
 | none : ArgOk W none .none
 | mem {z : Nat} {rows : List (List HV)} {b o : Nat} {arr : Array Value} {ty : TypeId} {fr : Nat × Nat} (h : W.heap[b]? = some (.cells arr ty fr)) (h1 : o + rows.length * z ≤ arr.size) (hz : 0 < z) (hr : ∀ β,RowsRel β rows arr o z) : ArgOk W (some (z,rows)) (.mem b o z rows.length arr.size)
/-- A slice that is an argument, over a heap. -/
inductive ArgSl (S : HS) (z : Nat) : Sl → List (List HV) → Prop
 | nil : ArgSl S z Sl.nil []
 | at_ {id : Nat} {rows : List (List HV)} (h : S.heap id = .cells z rows false) (hl : id < S.next) : ArgSl S z ⟨some (id,0),rows.length,none⟩ rows
theorem ArgSl.len {S : HS} {z : Nat} {s : Sl} {rows : List (List HV)} (h : ArgSl S z s rows) : s.len = rows.length := by cases h <;> rfl
theorem ArgSl.frame {S S' : HS} {z m : Nat} {s : Sl} {rows : List (List HV)} (h : ArgSl S z s rows) (hf : Fr m S S') (hm : S.next ≤ m) : ArgSl S' z s rows := by
 cases h with
 | nil => exact .nil
 | at_ h hl => exact .at_ (by rw [hf.eq _ (by omega)]; exact h) (Nat.lt_of_lt_of_le hl hf.le)
theorem ArgSl.rows {S : HS} {z : Nat} {s : Sl} {rows : List (List HV)} (h : ArgSl S z s rows) : S.rows s z = some rows := by
 cases h with
 | nil => simp [HS.rows,Sl.nil]
 | at_ h hl => simp [HS.rows,h]
/-! ### kinds by evaluation -/
end Go.Proofs.YtgplnlknejbglaaDoor.HL
namespace Go.Proofs.YtgplnlknejbglaaDoor.HL
/-- A slice reads as rows; its block lies below m. -/
structure Rd (m : Nat) (S : HS) (z : Nat) (s : Sl) (rows : List (List HV)) : Prop where
 rows : S.rows s z = some rows
 lt : ∀ p,s.a = some p → p.1 < m
theorem Rd.frame {m m' z : Nat} {S S' : HS} {s : Sl} {rows : List (List HV)} (h : Rd m S z s rows) (hf : Fr m' S S') (hm : m ≤ m') : Rd m S' z s rows := by
 refine ⟨?_,h.lt⟩
 have := h.rows
 unfold HS.rows at this ⊢
 cases ha : s.a with
 | none => rw [ha] at this; exact this
 | some p =>
  obtain ⟨id,off⟩ := p
  rw [ha] at this
  simp only at this ⊢
  rw [hf.eq id (Nat.lt_of_lt_of_le (h.lt _ ha) hm)]
  exact this
theorem Rd.mono {m m' z : Nat} {S : HS} {s : Sl} {rows : List (List HV)} (h : Rd m S z s rows) (hm : m ≤ m') : Rd m' S z s rows := ⟨h.rows,fun p hp => Nat.lt_of_lt_of_le (h.lt p hp) hm⟩
theorem Rd.len {m z : Nat} {S : HS} {s : Sl} {rows : List (List HV)} (h : Rd m S z s rows) : s.len = rows.length := (rows_len h.rows).symm
theorem Vec.mono {n m z : Nat} {T : HS} {s : Sl} {rows : List (List HV)} (h : Vec n T z s rows) (hm : m ≤ n) : Vec m T z s rows := by
 cases h with
 | nil => exact .nil
 | open_ g1 g2 g3 => exact .open_ g1 (Nat.le_trans hm g2) g3
 | capped g1 g2 g3 g4 g5 g6 => exact .capped g1 (Nat.le_trans hm g2) g3 g4 g5 g6
theorem Vec.lo {n z : Nat} {T : HS} {s : Sl} {rows : List (List HV)} (h : Vec n T z s rows) : ∀ q,s.a = some q → n ≤ q.1 ∧ q.1 < T.next := by
 intro q hq
 cases h with
 | nil => cases hq
 | open_ g1 g2 g3 => cases hq; exact ⟨g2,g3⟩
 | capped g1 g2 g3 g4 g5 g6 => cases hq; exact ⟨g2,g3⟩
end Go.Proofs.YtgplnlknejbglaaDoor.HL
