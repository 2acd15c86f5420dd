/- The layer HL, part 9: texts and bytes, copy, structs, maps. The layer HL, part 10: the rules as the printed proofs use them. -/
import Derived.Test.YtfningkbcfhheaaGreatDoorPart1
import Derived.Laws.BytesArg
set_option linter.unusedVariables false
set_option linter.unusedSimpArgs false
namespace Go.Proofs.YtfningkbcfhheaaGreatDoor.HL
open Go.RowKit (Below)
def byteRow : List HV → Option Int
 | [.int .u8 n] => some n
 | _ => none
def bytesOf (rows : List (List HV)) : Option (List UInt8) := rows.mapM fun r => (byteRow r).map fun n => UInt8.ofNat n.toNat
def HS.text (S : HS) (s : Sl) : Option (List UInt8) := (S.rows s 1).bind bytesOf
section
variable {P : Program} {base : Nat} {W0 : Env} {a : HAct} {S : HS} {o : Oper} {β : Bt} {w : World}
theorem bytes_nums : ∀ (rows : List (List HV)) (t : List UInt8),bytesOf rows = some t → ∃ ns : List Int,rows = ns.map (fun n => [HV.int .u8 n]) ∧ t = ns.map fun n => UInt8.ofNat n.toNat := by
 intro rows
 induction rows with
 | nil => intro t h; simp [bytesOf] at h; subst h; exact ⟨[],rfl,rfl⟩
 | cons r rows ih =>
  intro t h
  simp only [bytesOf,List.mapM_cons] at h
  cases hr : byteRow r with
  | none => rw [hr] at h; cases h
  | some n =>
   rw [hr] at h
   simp only [Option.map_some,Option.bind_eq_bind,Option.bind_some] at h
   cases ht : bytesOf rows with
   | none => simp only [bytesOf] at ht; rw [ht] at h; cases h
   | some t' =>
    simp only [bytesOf] at ht
    rw [ht] at h
    obtain ⟨ns,e1,e2⟩ := ih t' ht
    simp at h
    subst h
    refine ⟨n :: ns,?_,by simp [e2]⟩
    have : r = [.int .u8 n] := by
     unfold byteRow at hr
     split at hr
     ·cases hr; rfl
     ·cases hr
    rw [this,e1]; rfl
theorem ok_str_of_bytes {src dst e : TypeId} {x : Operand} {s : Sl} {t : List UInt8} (ho : o.op = .convert src dst x) (hs : P.underlying src = some (.slice e)) (he : P.underlying e = some (.int .u8)) (hd : P.underlying dst = some .string) (hx : Ev a x s.hv) (hv : S.text s = some t) :
  OpOk P base W0 o a S (.str t) S := by
 refine .pure (by rw [ho]; simp) fun β w a' h h2 => ?_
 have hxr := hx.rel h2
 generalize hxv : a'.eval x = xv at hxr
 unfold HS.text at hv
 cases hr : S.rows s 1 with
 | none => rw [hr] at hv; cases hv
 | some rows =>
  rw [hr,Option.bind_some] at hv
  obtain ⟨ns,e1,e2⟩ := bytes_nums rows t hv
  have hl := rows_len hr
  obtain ⟨arr,g1,g2,g3⟩ := h.rows (P := P) hr hxr s.len (Nat.le_refl _)
  rw [← hl,List.take_length] at g3
  obtain ⟨y,cap,hy⟩ := Sl.at hxr
  have harr : arr = (ns.map (Value.int .u8)).toArray := by
   have hnl : ns.length = s.len := by rw [← hl,e1]; simp
   apply Array.ext_getElem?
   intro i
   by_cases hi : i < ns.length
   ·obtain ⟨_,q⟩ := g3 i [.int .u8 ns[i]] (by rw [e1]; simp [hi])
    obtain ⟨_,v',q1,q2⟩ := q 0 _ rfl
    simp at q1
    cases q2
    simp [q1,hi]
   ·rw [Array.getElem?_eq_none (by rw [g2]; omega),Array.getElem?_eq_none (by simp; omega)]
  refine ⟨.string ⟨t.toArray⟩,?_,.str _⟩
  have hrun : (convert src dst xv).run P w = .ok (.string ⟨t.toArray⟩) w := by
   subst hy
   rw [run_convert_bytes_string w src dst e _ _ _ hs he hd]
   cases y with
   | none =>
    simp [Builtin.firstCells] at g1
    have : ns = [] := by
     have : (ns.map (Value.int .u8)).toArray = #[] := by rw [← harr,← g1]
     simpa using this
    subst this
    subst e2
    simp [Conv.bytesToString]
    rfl
   | some ad =>
    simp only [Builtin.firstCells,Nat.mul_one] at g1
    rw [harr] at g1
    rw [run_bytesToString w ad s.len cap ns g1,foldl_push_bytes]
    simp [ByteArray.empty,ByteArray.emptyWithCapacity,e2]
    rfl
  simp [execOp,ho,hxv,hrun]
theorem ok_bytes_of_str {src dst e : TypeId} {x : Operand} {s : List UInt8} (ho : o.op = .convert src dst x) (hs : P.underlying src = some .string) (hd : P.underlying dst = some (.slice e)) (he : P.underlying e = some (.int .u8)) (hx : Ev a x (.str s)) :
  OpOk P base W0 o a S (S.ofStr s).1.hv (S.ofStr s).2 := by
 refine ⟨by rw [ho]; simp,fun β w a' h h2 => ?_⟩
 let q : Question := .appendCap s.length 0 e
 let cap := q.cut (w.tape w.drawn q)
 have hcap : s.length ≤ cap := by simp only [cap,q,Question.cut]; omega
 let elems : Array Value := s.toArray.map fun b => Value.int .u8 b.toNat
 let arr : Array Value := elems ++ Array.replicate (cap - s.length) (.int .u8 0)
 have hsz : arr.size = cap := by simp [arr,elems]; omega
 obtain ⟨β',g1,g2,g3⟩ := (h.drawn (w.drawn + 1)).newRowsM (bytesRows s) arr e (cap,cap + 1) 1 1 .one (by omega) (by rw [hsz,size_bytesRows]; omega) ((bytes_rel s β).weaken) (fun i hi => by rw [hsz] at hi; simp only; omega) (.inr (by
  intro v' hv'
  simp only [arr,elems,Array.toList_append,List.mem_append,Array.toList_map,List.mem_map,Array.toList_replicate,List.mem_replicate] at hv'
  rcases hv' with ⟨_,_,rfl⟩ | ⟨_,rfl⟩ <;> rfl))
 refine ⟨β',_,.slice (some ⟨w.heap.size,0,none⟩) s.length cap,g1,.inl ?_,?_,by simpa [HS.ofStr] using g3⟩
 ·have e1 : (⟨s.toArray⟩ : ByteArray).data = s.toArray := rfl
  have hfz : World.freeze { w with drawn := w.drawn + 1,heap := w.heap.push (.cells arr e) } { block := w.heap.size,off := arr.size } 1 = { w with drawn := w.drawn + 1,heap := w.heap.push (.cells arr e (cap,cap + 1)) } := by
   unfold World.freeze
   rw [if_neg (by omega)]
   congr 1
   apply Array.ext_getElem?
   intro j
   rw [Array.getElem?_modify]
   by_cases ej : w.heap.size = j
   ·subst ej; simp [hsz]
   ·rw [if_neg ej,Array.getElem?_push,Array.getElem?_push,if_neg (fun e => ej e.symm),if_neg (fun e => ej e.symm)]
  have hms : (markStringish ⟨w.heap.size,0,none⟩).run P { w with drawn := w.drawn + 1,heap := w.heap.push (.cells arr e) } = .ok () { w with drawn := w.drawn + 1,heap := w.heap.push (.cells arr e (cap,cap + 1)) } := by
   have hsh : World.shape? { w with drawn := w.drawn + 1,heap := w.heap.push (.cells arr e) } w.heap.size = some (e,arr.size) := by
    simp [World.shape?]
   simp only [markStringish,Sem.run_bind,run_shape,hsh,Result.andThen_ok,run_freeze]
   rw [hfz]
  simp only [execOp,ho,hx.at_str h2,convert,Sem.run_bind,underlying,run_program,Result.andThen_ok,hs,hd,he,Sem.run_pure,Conv.stringToBytes,size_mk,run_choose,Question.forced,Bool.false_eq_true,if_false,newRow,run_newObj]
  show (Result.andThen (Result.andThen ((markStringish ⟨w.heap.size,0,none⟩).run P { w with drawn := w.drawn + 1,heap := w.heap.push (.cells arr e) }) fun _ w' => .ok (Value.slice (some ⟨w.heap.size,0,none⟩) s.length cap) w') fun a w' => .ok (Next.value a) w') = _
  rw [hms]
  rfl
 ·simp only [HS.ofStr,Sl.hv]
  rw [size_bytesRows,hsz] at g2
  have := VRel.sl (β := β') (off := 0) (len := s.length) (cap := cap) (c := none) g2 hcap (by simp) (fun _ => by simpa using hcap) (fun q hq => by cases hq) (by simp)
  simpa using this
theorem ok_copy {t e z : Nat} {zr : List HV} (he : ElemAt P t e z zr) {x y : Operand} {tys : Array TypeId} (ho : o.op = .call ⟨.builtin .copy,#[x,y],tys⟩) (h0 : tys[0]? = some t)
  {s s1 : Sl} {new : List (List HV)} {S' : HS} (hx : Ev a x s.hv) (hy : Ev a y s1.hv) (hnew : S.rows s1 z = some new) (hv : S.over s (new.take s.len) z = some S') : OpOk P base W0 o a S (.int .i64 (new.take s.len).length) S' := by
 refine ⟨by rw [ho]; simp,fun β w a' h h2 => ?_⟩
 have hxr := hx.rel h2
 have hyr := hy.rel h2
 generalize hxv : a'.eval x = xv at hxr
 generalize hyv : a'.eval y = yv at hyr
 have hl := rows_len hnew
 obtain ⟨arrN,g1,g2,g3⟩ := h.rows (P := P) hnew hyr (Nat.min s1.len s.len) (Nat.min_le_left _ _)
 have htk : new.take (Nat.min s1.len s.len) = new.take s.len := by
  rw [show Nat.min s1.len s.len = min s1.len s.len from rfl,← hl]
  by_cases hc : new.length ≤ s.len
  ·rw [Nat.min_eq_left hc,List.take_length,List.take_of_length_le hc]
  ·rw [Nat.min_eq_right (by omega)]
 rw [htk] at g3
 have hlen : (new.take s.len).length = Nat.min s1.len s.len := by rw [List.length_take,hl]; exact Nat.min_comm _ _
 obtain ⟨y1,cap1,hy1⟩ := Sl.at hyr
 obtain ⟨x1,cap0,hx1⟩ := Sl.at hxr
 obtain ⟨by_,hsize⟩ := he.size
 obtain ⟨q,hq1,hq2,_⟩ := hsize
 have hzp := he.pos.2
 have hone := g3.flatMem hzp (by rw [g2,hlen]) rfl
 have hpre : ∀ (w' : World),(match x1 with | some ad => storeCells ad arrN.toList | none => pure ()).run P w = .ok () w' → (execOp a'.eval o).run P w = .ok (.value (.int .i64 (new.take s.len).length)) w' := by
  intro w' hst
  subst hy1 hx1
  rw [hlen]
  cases x1 with
  | none => simp at hst; subst hst; simp [execOp,ho,resolve,invoke,builtin,hxv,hyv,Builtin.copy_,h0,underlying,he.slice,Builtin.lenOf,Go.sizeOf,typeInfo,hq1,hq2,g1,goInt]
  | some ad => simp at hst; simp [execOp,ho,resolve,invoke,builtin,hxv,hyv,Builtin.copy_,h0,underlying,he.slice,Builtin.lenOf,Go.sizeOf,typeInfo,hq1,hq2,g1,goInt,hst]
 unfold HS.over at hv
 split at hv
 ·rename_i hnil
  cases hv
  have : arrN.toList = [] := by
   have : arrN.size = 0 := by rw [g2,← hlen,hnil]; simp
   simpa using this
  exact ⟨β,w,_,.refl β,.inl (hpre w (by rw [this]; cases x1 <;> simp [storeCells])),.int _ _,h⟩
 ·rename_i hnil
  obtain ⟨sa,len,c⟩ := s
  simp only [Sl.hv] at hxr hv hlen g3 hnil hpre
  cases sa with
  | none => cases hv
  | some p =>
   obtain ⟨id,off⟩ := p
   simp only at hv
   split at hv
   case h_2 => cases hv
   rename_i z' rows hS
   split at hv
   case isFalse => cases hv
   rename_i hc
   cases hv
   obtain ⟨hzz,hc1,hc2⟩ := hc
   subst z'
   obtain ⟨b,o1,tot,arr,ty1,fr,q1,q2,q3,q4,q5,q6,q7,q8,q9,_⟩ := h.owned hS
   have hpos : 0 < (new.take len).length := by
    cases hnn : new.take len with
    | nil => exact absurd hnn hnil
    | cons _ _ => simp
   cases hxr with
   | sl hb e1 e2 e3 e4 e5 =>
    rw [q1] at hb
    cases hb
    cases hx1
    have hm : (off + (new.take len).length) * z ≤ rows.length * z := Nat.mul_le_mul_right z hc2
    rw [Nat.add_mul] at hm
    have hsz : arrN.size = (new.take len).length * z := by rw [g2,hlen]
    have hst := run_storeCells (P := P) (b := b) (o := o1 + off * z) (t := ty1) (fr := fr) arrN.toList 0 w arr q2 (by rw [Array.length_toList,hsz]; omega) hone (by rw [q3]; exact q8)
    simp only [Nat.add_zero] at hst
    exact ⟨β,_,_,.refl β,.inl (hpre _ hst),.int _ _,h.setRow hS q1 q2 (by simp [over_size]) (by simp [splice]; simp at hc2; omega) (q6.splice g3 hsz hc2 (by rw [q3]; exact q4)) (over_mem _ _ _ q9 hone)⟩
   | slEnd hb e2 e3 e4 => simp at hpos
def hfill (place : Nat → Option (Nat × Nat)) (cells : List HV) : List (Nat × HV) → Option (List HV)
 | [] => some cells
 | (i,v) :: rest =>
  match place i with
  | none => none
  | some (off,size) => if v.cells.length ≠ size ∨ off + v.cells.length > cells.length then none else hfill place (cells.take off ++ v.cells ++ cells.drop (off + v.cells.length)) rest
theorem fill_rel {place : Nat → Option (Nat × Nat)} : ∀ (ps : List (Nat × HV)) (ps' : List (Nat × Value)) (cells : List HV) (cells' : Array Value) (r : List HV),VRels β cells cells' → ps.map (·.1) = ps'.map (·.1) → VRels β (ps.map (·.2)) (ps'.map (·.2)).toArray → hfill place cells ps = some r →
  ∃ r',Instr.fill place cells' ps' = some r' ∧ VRels β r r' := by
 intro ps
 induction ps with
 | nil =>
  intro ps' cells cells' r h hi _ hf
  obtain rfl : ps' = [] := by cases ps' <;> simp_all
  simp [hfill] at hf
  subst hf
  exact ⟨cells',rfl,h⟩
 | cons p ps ih =>
  intro ps' cells cells' r h hi hv hf
  cases ps' with
  | nil => simp at hi
  | cons p' ps' =>
   obtain ⟨i,v⟩ := p
   obtain ⟨i',v'⟩ := p'
   simp at hi
   obtain ⟨rfl,hi⟩ := hi
   have hvr : VRel β v v' := hv.2 0 v v' rfl (by simp)
   have hvs : VRels β (ps.map (·.2)) (ps'.map (·.2)).toArray := ⟨by have := hv.1; simp at this ⊢; exact this,fun j x x' h1 h2 => hv.2 (j + 1) x x' (by simpa using h1) (by simpa using h2)⟩
   simp only [hfill] at hf
   cases hp : place i with
   | none => rw [hp] at hf; cases hf
   | some os =>
    obtain ⟨off,size⟩ := os
    rw [hp] at hf
    simp only at hf
    split at hf
    ·cases hf
    ·rename_i hc
     have hcr := hvr.cells
     have hc1 : v'.cells.size = size := by rw [← hcr.1]; simp only [not_or,ne_eq,Classical.not_not] at hc; exact hc.1
     have hc2 : off + v'.cells.size ≤ cells'.size := by rw [← hcr.1,← h.1]; simp only [not_or] at hc; omega
     have hfold : ∀ (l : List Value) (m : Nat) (arr : Array Value),(l.zipIdx m).foldl (fun cs (c,j) => cs.setIfInBounds (off + j) c) arr = over arr (off + m) l := by
      intro l
      induction l with
      | nil => intro m arr; rfl
      | cons x l ih2 => intro m arr; simp only [List.zipIdx_cons,List.foldl_cons,over]; rw [ih2]; rfl
     have hzi : v'.cells.zipIdx.foldl (fun cs (c,j) => cs.setIfInBounds (off + j) c) cells' = over cells' off v'.cells.toList := by
      rw [← Array.foldl_toList,Array.toList_zipIdx]; exact hfold _ 0 cells'
     have hnew : VRels β (cells.take off ++ v.cells ++ cells.drop (off + v.cells.length)) (over cells' off v'.cells.toList) := by
      have hvl : v.cells.length = v'.cells.size := hcr.1
      have hcl : cells.length = cells'.size := h.1
      refine ⟨by rw [over_size]; simp; omega,fun j x x' h1 h2 => ?_⟩
      rw [over_get _ _ _ _ (by simpa using hc2)] at h2
      rw [List.getElem?_append] at h1
      have hlen1 : (cells.take off ++ v.cells).length = off + v.cells.length := by simp; omega
      rw [hlen1] at h1
      by_cases c1 : j < off + v.cells.length
      ·rw [if_pos c1,List.getElem?_append] at h1
       by_cases c2 : j < off
       ·rw [if_pos (by simp; omega),List.getElem?_take,if_pos c2] at h1
        rw [if_neg (by omega)] at h2
        exact h.2 j x x' h1 h2
       ·rw [if_neg (by simp; omega)] at h1
        have e1 : j - (cells.take off).length = j - off := by simp; omega
        rw [e1] at h1
        rw [if_pos (by simp; omega)] at h2
        exact hcr.2 _ x x' h1 (by simpa using h2)
      ·rw [if_neg c1,List.getElem?_drop] at h1
       rw [if_neg (by simp; omega)] at h2
       exact h.2 j x x' (by rw [← h1]; congr 1; omega) h2
     obtain ⟨r',g1,g2⟩ := ih ps' _ _ r hnew hi hvs hf
     refine ⟨r',?_,g2⟩
     simp only [Instr.fill,hp,hzi]
     rw [if_neg (by simp [hc1]; rw [hc1] at hc2; omega)]
     exact g1
structure StructAt (P : Program) (t : TypeId) (places : List (Nat × Nat)) (zr : List HV) : Prop where
 fields : ∃ fs,P.underlying t = some (.struct fs) ∧ ∀ w,(fs.mapM (m := Sem) fun f => do pure (f.offset,← sizeOf f.type)).run P w = .ok places.toArray w
 info : ∃ q zv,P.info? t = some q ∧ q.zero = some zv ∧ ∀ β,VRels β zr zv.cells
theorem ok_build {t : TypeId} {places : List (Nat × Nat)} {zr : List HV} (hst : StructAt P t places zr) {parts : Array (Nat × Operand)} {is : List Nat} {xs : List Operand} {vs : List HV} {r : List HV} (ho : o.op = .build t parts) (hp : parts = (is.zip xs).toArray) (hl : is.length = xs.length)
  (hx : Evs a xs.toArray vs) (hr : hfill (places[·]?) zr (is.zip vs) = some r) : OpOk P base W0 o a S (.agg r) S := by
 refine .pure (by rw [ho]; simp) fun β w a' h h2 => ?_
 obtain ⟨fs,q1,q2⟩ := hst.fields
 obtain ⟨q,zv,i1,i2,i3⟩ := hst.info
 have hvr : VRels β vs (xs.map a'.eval).toArray := by simpa using hx.rel h2
 have hvl : vs.length = xs.length := by have := hx.1; simpa using this
 obtain ⟨r',g1,g2⟩ := fill_rel (β := β) (place := (places[·]?)) (is.zip vs) (is.zip (xs.map a'.eval)) zr zv.cells r (i3 β) (by rw [List.map_fst_zip (by omega),List.map_fst_zip (by simp; omega)]) (by rw [List.map_snd_zip (by omega),List.map_snd_zip (by simp; omega)]; exact hvr) hr
 refine ⟨.agg r',?_,g2.agg⟩
 have hpm : (parts.map fun (i,x) => (i,a'.eval x)).toList = is.zip (xs.map a'.eval) := by
  rw [hp,List.map_toArray,List.zip_map_right]
  apply List.map_congr_left
  intro p _; rfl
 have hpl : (fun (i : Nat) => (places.toArray)[i]?) = (fun (i : Nat) => places[i]?) := by funext i; simp
 simp only [execOp,ho,Instr.build,Sem.run_bind,zeroValue,typeInfo,run_program,Result.andThen_ok,i1,Sem.run_pure,i2,underlying,q1,q2,hpm,hpl,g1]
end
abbrev w64 (n : Int) : Int := IntKind.i64.wrap n
abbrev w8 (n : Int) : Int := IntKind.u8.wrap n
def HS.leave (S : HS) : List Nat → Option HS
 | [] => some S
 | d :: ds => match S.heap d with
  | .defer => (S.put d .dead).leave ds
  | _ => none
def HS.lp (S : HS) (l : Nat) : Option Unit :=
 match S.heap l with
 | .loop _ _ => some ()
 | _ => none
def HS.begin_ (S : HS) (l : Nat) : Option HS :=
 match S.heap l with
 | .loop .ready pend => some (S.put l (.loop .busy pend))
 | _ => none
def HS.endr (S : HS) (l : Nat) (jump : Option Code) : Option (HV × HS) :=
 match S.heap l with
 | .loop _ _ => some (.bool jump.isNone,S.put l (.loop (if jump.isNone then .ready else .done) jump))
 | _ => none
def HS.finish (S : HS) (l : Nat) : Option (Option Code × HS) :=
 match S.heap l with
 | .loop .busy _ => none
 | .loop _ pend => some (pend,S.put l (.loop .exhausted pend))
 | _ => none
def dB : HV → Option Bool | .bool b => some b | _ => none
def dI (k : IntKind) : HV → Option Int | .int k' n => if k' = k then some n else none | _ => none
def dS : HV → Option (List UInt8) | .str s => some s | _ => none
def dP : HV → Option (Option HA) | .ptr q => some q | _ => none
def dSl : HV → Option Sl | .sl q n c => some ⟨q,n,c⟩ | _ => none
def dT : HV → Option (List HV) | .tup cs => some cs | _ => none
theorem dB_out {v : HV} {b : Bool} (h : dB v = some b) : v = .bool b := by cases v <;> simp_all [dB]
theorem dI_out {k : IntKind} {v : HV} {n : Int} (h : dI k v = some n) : v = .int k n := by
 cases v <;> simp_all [dI]
theorem dS_out {v : HV} {s : List UInt8} (h : dS v = some s) : v = .str s := by cases v <;> simp_all [dS]
theorem dP_out {v : HV} {q : Option HA} (h : dP v = some q) : v = .ptr q := by cases v <;> simp_all [dP]
theorem dSl_out {v : HV} {s : Sl} (h : dSl v = some s) : v = s.hv := by cases v <;> simp_all [dSl,Sl.hv] <;> (subst h; simp)
theorem dT_out {v : HV} {cs : List HV} (h : dT v = some cs) : v = .tup cs := by cases v <;> simp_all [dT]
theorem bindo {α β : Type} {x : Option α} {f : α → Option β} {r : β} (h : x.bind f = some r) : ∃ y,x = some y ∧ f y = some r := Option.bind_eq_some_iff.1 h
theorem gd {α : Type} {c : Prop} [Decidable c] {x : Option α} {r : α} (h : (if c then x else none) = some r) : c ∧ x = some r := by
 split at h
 ·rename_i hc; exact ⟨hc,h⟩
 ·cases h
section
variable {P : Program} {base : Nat} {W0 : Env} {β0 : Bt} {f : FuncId} {ro : Option Nat} {k : List Item} {a : HAct} {S : HS} {R : HV → HS → Prop}
theorem leave_kills : ∀ (ds : List Nat) (S S' : HS),S.leave ds = some S' → S' = S.kills ds ∧ Defers S ds := by
 intro ds
 induction ds with
 | nil => intro S S' h; simp [HS.leave] at h; exact ⟨h.symm,trivial⟩
 | cons d ds ih =>
  intro S S' h
  unfold HS.leave at h
  split at h
  ·rename_i hd
   obtain ⟨h1,h2⟩ := ih _ _ h
   exact ⟨h1,hd,h2⟩
  ·cases h
def opOf : Option Oper → Option (Option Tmp × Op × Option (Nat × Bool))
 | some { dst := d,op := p,guard := g,.. } => some (d,p,g)
 | none => none
def OpAt (ops : Array Oper) (i : Nat) (dst : Option Tmp) (op : Op) (g : Option (Nat × Bool)) : Prop := opOf ops[i]? = some (dst,op,g)
theorem OpAt.out {ops : Array Oper} {i : Nat} {dst : Option Tmp} {op : Op} {g : Option (Nat × Bool)} (h : OpAt ops i dst op g) : ∃ o,ops[i]? = some o ∧ o.dst = dst ∧ o.op = op ∧ o.guard = g := by
 unfold OpAt at h
 cases ho : ops[i]? with
 | none => rw [ho] at h; cases h
 | some o => rw [ho] at h; simp [opOf] at h; exact ⟨o,rfl,h.1,h.2.1,h.2.2⟩
def GuardAt (ops : Array Oper) (j : Nat) (t : Tmp) : Prop := (ops[j]?).bind (·.dst) = some t
theorem q_op {ops : Array Oper} {i : Nat} {rest : List Nat} {dst : Option Tmp} {op : Op} {v : HV} {S' : HS} (ho : OpAt ops i dst op none) (hop : ∀ o : Oper,o.op = op → OpOk P base W0 o a S v S')
  (h : HRun P base W0 β0 f ro (.inRegion ops rest :: k) (a.put dst v) S' R) : HRun P base W0 β0 f ro (.inRegion ops (i :: rest) :: k) a S R := by
 obtain ⟨o,h1,h2,h3,h4⟩ := ho.out
 refine hr_op h1 (by unfold Wants; rw [h4]; trivial) (hop o h3) ?_
 rw [h2]; exact h
theorem q_op_g {ops : Array Oper} {i j : Nat} {t : Tmp} {b c : Bool} {rest : List Nat} {dst : Option Tmp} {op : Op} {v : HV} {S' : HS} (ho : OpAt ops i dst op (some (j,b))) (hj : GuardAt ops j t) (hb : a.tmps[t]? = some (.bool c)) (hc : c = b) (hop : ∀ o : Oper,o.op = op → OpOk P base W0 o a S v S')
  (h : HRun P base W0 β0 f ro (.inRegion ops rest :: k) (a.put dst v) S' R) : HRun P base W0 β0 f ro (.inRegion ops (i :: rest) :: k) a S R := by
 subst hc
 obtain ⟨o,h1,h2,h3,h4⟩ := ho.out
 refine hr_op h1 (by unfold Wants; rw [h4]; exact ⟨t,hj,hb⟩) (hop o h3) ?_
 rw [h2]; exact h
theorem q_skip {ops : Array Oper} {i j : Nat} {t : Tmp} {b c : Bool} {rest : List Nat} {dst : Option Tmp} {op : Op} (ho : OpAt ops i dst op (some (j,b))) (hj : GuardAt ops j t) (hb : a.tmps[t]? = some (.bool c)) (hc : c = !b)
  (h : HRun P base W0 β0 f ro (.inRegion ops rest :: k) (a.put dst (.tup [])) S R) : HRun P base W0 β0 f ro (.inRegion ops (i :: rest) :: k) a S R := by
 subst hc
 obtain ⟨o,h1,h2,h3,h4⟩ := ho.out
 refine hr_op_skip h1 (by unfold Skips; rw [h4]; exact ⟨t,hj,.inl hb⟩) ?_
 rw [h2]; exact h
theorem q_skip_u {ops : Array Oper} {i j : Nat} {t : Tmp} {b : Bool} {rest : List Nat} {dst : Option Tmp} {op : Op} (ho : OpAt ops i dst op (some (j,b))) (hj : GuardAt ops j t) (hb : a.tmps[t]? = some (.tup []))
  (h : HRun P base W0 β0 f ro (.inRegion ops rest :: k) (a.put dst (.tup [])) S R) : HRun P base W0 β0 f ro (.inRegion ops (i :: rest) :: k) a S R := by
 obtain ⟨o,h1,h2,h3,h4⟩ := ho.out
 refine hr_op_skip h1 (by unfold Skips; rw [h4]; exact ⟨t,hj,.inr hb⟩) ?_
 rw [h2]; exact h
theorem q_call {ops : Array Oper} {i : Nat} {rest : List Nat} {dst : Option Tmp} {fx : Operand} {xs : Array Operand} {tys : Array TypeId} {fv : HV} {vs : List HV} {R1 : HV → HS → Prop} (ho : OpAt ops i dst (.call ⟨.value fx,xs,tys⟩) none)
  (hf : Ev a fx fv) (hxs : Evs a xs vs) (hi : HInv P base W0 β0 fv vs S R1)
  (h : ∀ v S',R1 v S' → HRun P base W0 β0 f ro (.inRegion ops rest :: k) (a.put dst v) S' R) : HRun P base W0 β0 f ro (.inRegion ops (i :: rest) :: k) a S R := by
 obtain ⟨o,h1,h2,h3,h4⟩ := ho.out
 refine hr_call h1 (by unfold Wants; rw [h4]; trivial) h3 hf hxs hi ?_
 rw [h2]; exact h
theorem q_call_g {ops : Array Oper} {i j : Nat} {t : Tmp} {b c : Bool} {rest : List Nat} {dst : Option Tmp} {fx : Operand} {xs : Array Operand} {tys : Array TypeId} {fv : HV} {vs : List HV} {R1 : HV → HS → Prop} (ho : OpAt ops i dst (.call ⟨.value fx,xs,tys⟩) (some (j,b))) (hj : GuardAt ops j t) (hb : a.tmps[t]? = some (.bool c)) (hc : c = b)
  (hf : Ev a fx fv) (hxs : Evs a xs vs) (hi : HInv P base W0 β0 fv vs S R1)
  (h : ∀ v S',R1 v S' → HRun P base W0 β0 f ro (.inRegion ops rest :: k) (a.put dst v) S' R) : HRun P base W0 β0 f ro (.inRegion ops (i :: rest) :: k) a S R := by
 subst hc
 obtain ⟨o,h1,h2,h3,h4⟩ := ho.out
 refine hr_call h1 (by unfold Wants; rw [h4]; exact ⟨t,hj,hb⟩) h3 hf hxs hi ?_
 rw [h2]; exact h
theorem HInv.static {fn : Func} {vs : List HV} {c : Code} (hf : FnAt P f fn) (hb : fn.body = some c) (h : HCall P base W0 β0 f vs S R) : HInv P base W0 β0 (.fn (.func f) [] []) vs S R :=
 .func hf hb (by simpa using h)
theorem q_skipc {c : Code} (hc : c = .skip) (h : HRun P base W0 β0 f ro k a S R) : HRun P base W0 β0 f ro (.code c :: k) a S R := by subst hc; exact hr_skip h
theorem q_seq {c x y : Code} (hc : c = .seq x y) (h : HRun P base W0 β0 f ro (.code x :: .code y :: k) a S R) : HRun P base W0 β0 f ro (.code c :: k) a S R := by subst hc; exact hr_seq h
theorem q_block {id : Nat} {c x : Code} (hc : c = .block id x) (h : HRun P base W0 β0 f ro (.code x :: .inBlock id :: k) a S R) : HRun P base W0 β0 f ro (.code c :: k) a S R := by subst hc; exact hr_block h
theorem q_loop {c x : Code} (hc : c = .loop x) (h : HRun P base W0 β0 f ro (.inLoop x :: k) a S R) : HRun P base W0 β0 f ro (.code c :: k) a S R := by
 subst hc
 refine hr_loop ?_
 intro β w a' h1 h2 h3 b cs h4 h5 h6 h7
 obtain ⟨β',v,S',v',w',g1,g2,g3,g4,g5⟩ := h β w a' h1 h2 h3 b cs h4 h5 h6 h7
 refine ⟨β',v,S',v',w',g1,g2,g3,g4,?_⟩
 have hs : step P (lone (b.atR a' (.inLoop x :: k)) cs w) = .next (lone (b.atR a' (.code x :: .inLoop x :: k)) cs w) := stepR_inLoop
 -- the machine's steps are one way only: what starts at the second starts at the first
 cases hro : b.roundOf with
 | none =>
  rw [hro] at g5
  obtain ⟨fr,s1,s2,s2',s3⟩ := g5
  obtain ⟨n,hn⟩ := s1
  cases n with
  | zero =>
   simp [runN] at hn
   exfalso
   have hm : fr.mode = .run := by
    have := congrArg (fun m => (m.gs[0]?).map (·.frame.mode)) hn
    simp [lone,Frame.atR] at this
    exact this.symm
   rw [s3.1] at hm
   cases hm
  | succ n =>
   simp only [runN,hs] at hn
   exact ⟨fr,⟨n,hn⟩,s2,s2',s3⟩
 | some l =>
  rw [hro] at g5
  obtain ⟨c,cs',s1,s2⟩ := g5
  obtain ⟨n,hn⟩ := s2
  cases n with
  | zero =>
   simp [runN] at hn
   exfalso
   have := congrArg (fun m => (m.gs[0]?).map (·.callers.length)) hn
   rw [s1] at this
   simp [lone] at this
  | succ n =>
   simp only [runN,hs] at hn
   exact ⟨c,cs',s1,⟨n,hn⟩⟩
theorem q_exit {id : Nat} {c : Code} {k' : List Item} (hc : c = .exit id) (hx : exitTo id k = some k') (h : HRun P base W0 β0 f ro k' a S R) : HRun P base W0 β0 f ro (.code c :: k) a S R := by subst hc; exact hr_exit hx h
theorem q_region {id : Nat} {c : Code} {ops : Array Oper} {is : List Nat} (hc : c = .region id ops false) (hi : List.range ops.size = is) (h : HRun P base W0 β0 f ro (.inRegion ops is :: k) a S R) : HRun P base W0 β0 f ro (.code c :: k) a S R := by subst hc; exact hr_region hi h
theorem q_cond_t {c x y : Code} {o : Operand} {b : Bool} (hc : c = .cond o x y) (ho : Ev a o (.bool b)) (hb : b = true) (h : HRun P base W0 β0 f ro (.code x :: k) a S R) : HRun P base W0 β0 f ro (.code c :: k) a S R := by subst hc; subst hb; exact hr_cond_t ho h
theorem q_cond_f {c x y : Code} {o : Operand} {b : Bool} (hc : c = .cond o x y) (ho : Ev a o (.bool b)) (hb : b = false) (h : HRun P base W0 β0 f ro (.code y :: k) a S R) : HRun P base W0 β0 f ro (.code c :: k) a S R := by subst hc; subst hb; exact hr_cond_f ho h
theorem q_ret {c : Code} {fn : Func} {v : HV} {S' : HS} (hc : c = .ret) (hf : P.funcs[f]? = some fn) (hl : S.leave a.defers = some S') (hres : ResOk P base W0 fn a S' v) (hR : R v S') : HRun P base W0 β0 f none (.code c :: k) a S R := by
 subst hc
 obtain ⟨h1,h2⟩ := leave_kills _ _ _ hl
 subst h1
 exact hr_ret hf hres h2 hR
theorem q_end {fn : Func} {v : HV} {S' : HS} (hf : P.funcs[f]? = some fn) (hl : S.leave a.defers = some S') (hres : ResOk P base W0 fn a S' v) (hR : R v S') : HRun P base W0 β0 f none [] a S R := by
 obtain ⟨h1,h2⟩ := leave_kills _ _ _ hl
 subst h1
 exact hr_end hf hres h2 hR
theorem q_begin {l : Nat} {S1 : HS} (hb : S.begin_ l = some S1) (h : HRun P base W0 β0 f (some l) k a S1 R) : HRun P base W0 β0 f (some l) (.beginRound :: k) a S R := by
 unfold HS.begin_ at hb
 split at hb
 ·rename_i hl; cases hb; exact hr_beginRound hl h
 ·cases hb
theorem q_round_end {l : Nat} {v : HV} {S' : HS} (hb : S.endr l none = some (v,S')) (hR : R v S') : HRun P base W0 β0 f (some l) [] a S R := by
 unfold HS.endr at hb
 split at hb
 ·rename_i hl; cases hb; exact hr_round_end hl hR
 ·cases hb
theorem q_round_ret {l : Nat} {c : Code} {v : HV} {S' : HS} (hc : c = .ret) (hb : S.endr l (some .ret) = some (v,S')) (hR : R v S') : HRun P base W0 β0 f (some l) (.code c :: k) a S R := by
 subst hc
 unfold HS.endr at hb
 split at hb
 ·rename_i hl; cases hb; exact hr_round_ret hl hR
 ·cases hb
theorem q_round_exit {l id : Nat} {c : Code} {v : HV} {S' : HS} (hc : c = .exit id) (hx : exitTo id k = none) (hb : S.endr l (some (.exit id)) = some (v,S')) (hR : R v S') : HRun P base W0 β0 f (some l) (.code c :: k) a S R := by
 subst hc
 unfold HS.endr at hb
 split at hb
 ·rename_i hl; cases hb; exact hr_round_exit hx hl hR
 ·cases hb
theorem finish_out {l : Nat} {pend : Option Code} {S' : HS} (h : S.finish l = some (pend,S')) : ∃ st pend',S.heap l = .loop st pend' ∧ st ≠ .busy ∧ pend = pend' ∧ S' = S.put l (.loop .exhausted pend') := by
 unfold HS.finish at h
 cases hS : S.heap l with
 | loop st p =>
  rw [hS] at h
  cases st <;> simp at h <;> (obtain ⟨rfl,rfl⟩ := h; exact ⟨_,_,rfl,by simp,rfl,rfl⟩)
 | _ => rw [hS] at h; cases h
theorem lp_out {l : Nat} {u : Unit} (h : S.lp l = some u) : ∃ st pend,S.heap l = .loop st pend := by
 unfold HS.lp at h
 split at h
 ·rename_i st p hl; exact ⟨st,p,hl⟩
 ·cases h
theorem q_yield {l : Nat} {vs : List HV} {u0 : Unit} {ps : Array Tmp} {assign body : Code} (hl : LoopAt β0 l f a ps assign body) (hS : S.lp l = some u0) (hn : vs.length = ps.size)
  (h : HRun P base W0 β0 f (some l) [.code assign,.beginRound,.code body] { tmps := HAct.params a.tmps ps.toList vs,defers := [] } S R) : HInv P base W0 β0 (.fn (.yield l) [] []) vs S R := by
 obtain ⟨st,pend,hl0⟩ := lp_out hS
 exact .yield hl hl0 hn h
theorem ok_quo {t ty : TypeId} {x y : Operand} {i : IntKind} {m n : Int} {o : Oper} (ho : o.op = .binOp .quo t x y ty) (hx : Ev a x (.int i m)) (hy : Ev a y (.int i n)) (hn : n ≠ 0) : OpOk P base W0 o a S (.int i (i.wrap (m.tdiv n))) S :=
 ok_ibin ho hx hy (by simp [ibin,hn])
theorem ok_rem {t ty : TypeId} {x y : Operand} {i : IntKind} {m n : Int} {o : Oper} (ho : o.op = .binOp .rem t x y ty) (hx : Ev a x (.int i m)) (hy : Ev a y (.int i n)) (hn : n ≠ 0) : OpOk P base W0 o a S (.int i (m.tmod n)) S :=
 ok_ibin ho hx hy (by simp [ibin,hn])
theorem ok_sadd {t ty : TypeId} {x y : Operand} {m n : List UInt8} {o : Oper} (ho : o.op = .binOp .add t x y ty) (hx : Ev a x (.str m)) (hy : Ev a y (.str n)) (hn : m.length + n.length ≤ 9223372036854775807) : OpOk P base W0 o a S (.str (m ++ n)) S :=
 ok_sbin ho hx hy (by simp [sbin,hn])
theorem elemAt_mk {t e z by_ : Nat} {zr : List HV} {zv : Value} (h1 : P.underlying t = some (.slice e)) (h2 : (P.info? e).map (fun i => (i.size,i.bytes,i.zero)) = some (z,by_,some zv)) (h3 : by_ ≤ 4096) (h4 : ∀ β,VRels β zr zv.cells) (h5 : zr.length = z) (h6 : 0 < z) (h7 : zr.all (·.flat) = true) : ElemAt P t e z zr := by
 cases hi : P.info? e with
 | none => rw [hi] at h2; cases h2
 | some q =>
  rw [hi] at h2
  simp at h2
  exact ⟨h1,⟨q,zv,hi,h2.1,by omega,h2.2.2,h4⟩,⟨h5,h6⟩,fun v hv => List.all_eq_true.1 h7 v hv⟩
theorem sizeIs_mk {e z by_ : Nat} (h : (P.info? e).map (fun i => (i.size,i.bytes)) = some (z,by_)) : SizeIs P e z by_ := by
 cases hi : P.info? e with
 | none => rw [hi] at h; cases h
 | some q => rw [hi] at h; simp at h; exact ⟨q,hi,h.1,h.2⟩
theorem size_mk' {e z : Nat} (h : (P.info? e).map (·.size) = some z) : ∃ q,P.info? e = some q ∧ q.size = z := by
 cases hi : P.info? e with
 | none => rw [hi] at h; cases h
 | some q => rw [hi] at h; simp at h; exact ⟨q,rfl,h⟩
end
end Go.Proofs.YtfningkbcfhheaaGreatDoor.HL
