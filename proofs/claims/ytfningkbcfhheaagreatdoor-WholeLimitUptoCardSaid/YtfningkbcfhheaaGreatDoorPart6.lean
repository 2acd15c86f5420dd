/- The layer HL, part 22: capacities, clear, appended zeros, slices that overlap. The layer HL, part 23: slices.Insert and slices.Delete as operations of the abstract heap: capacities are opened ahead of a call and put away behind it. -/
import Derived.Test.YtfningkbcfhheaaGreatDoorPart4
import Derived.Test.YtfningkbcfhheaaGreatDoorPart5
import Derived.Lib.Overlaps
set_option linter.unusedVariables false
set_option linter.unusedSimpArgs false
set_option linter.unusedVariables false
set_option linter.unusedSimpArgs false
namespace Go.Proofs.YtfningkbcfhheaaGreatDoor.HL
open Go.RowKit (Below)
instance instDecHA : DecidableEq HA := fun ⟨a,b,c⟩ ⟨d,e,f⟩ => decidable_of_iff (a = d ∧ b = e ∧ c = f) (by simp)
instance instDecSl : DecidableEq Sl := fun ⟨a,b,c⟩ ⟨d,e,f⟩ => decidable_of_iff (a = d ∧ b = e ∧ c = f) (by simp)
def Sl.capOf (s : Sl) : Option Int := match s.a with | none => some 0 | some _ => s.cap.map fun (q : Nat) => (q : Int)
def HS.appZ (S : HS) (s : Sl) (n : Int) (zr : List HV) (z : Nat) : Option (Sl × HS) := if 0 < n then S.app s (List.replicate n.toNat zr) z else none
def HS.ovl (S : HS) (s t : Sl) : Option Bool :=
 match s.a,t.a with
 | some (i,_),some (j,_) =>
  if s.len = 0 ∨ t.len = 0 then some false
  else if i = j then none
  else match S.heap i,S.heap j with
   | .cells _ _ true,.cells _ (_ :: _) _ => if S.mrk i ≠ 1 then some false else none
   | _,_ => none
 | _,_ => some false
section
variable {P : Program} {base : Nat} {W0 : Env} {a : HAct} {S : HS} {o : Oper}
theorem ok_cap {x : Operand} {tys : Array TypeId} {t e : TypeId} {s : Sl} {n : Int} (ho : o.op = .call ⟨.builtin .cap,#[x],tys⟩) (h0 : tys[0]? = some t) (ht : P.underlying t = some (.slice e)) (hx : Ev a x s.hv) (hv : s.capOf = some n) : OpOk P base W0 o a S (.int .i64 n) S := by
 refine .pure (by rw [ho]; simp) fun β w a' _ h2 => ?_
 have hr := hx.rel h2
 obtain ⟨sa,len,c⟩ := s
 simp only [Sl.hv] at hr
 simp only [Sl.capOf] at hv
 generalize hxv : a'.eval x = xv at hr
 have key : ∀ (y : Option Addr) (l cap : Nat),xv = .slice y l cap → (cap : Int) = n → ∃ v',(execOp a'.eval o).run P w = .ok (.value v') w ∧ VRel β (.int .i64 n) v' := by
  intro y l cap e1 e2
  subst e1 e2
  exact ⟨_,by simp [execOp,ho,resolve,invoke,builtin,Builtin.cap_,hxv,h0,underlying,ht,goInt],.int _ _⟩
 cases hr with
 | slNil => simp only [Option.some.injEq] at hv; exact key _ _ _ rfl hv
 | sl h h1 h2 h3 h4 h5 =>
  cases c with
  | none => cases hv
  | some q =>
   simp only [Option.map_some,Option.some.injEq] at hv
   exact key _ _ _ rfl (by rw [(h4 q rfl).1]; exact hv)
 | slEnd h h2 h3 h4 =>
  cases c with
  | none => cases hv
  | some q =>
   simp only [Option.map_some,Option.some.injEq] at hv
   exact key _ _ _ rfl (by rw [← hv,h4 q rfl])
theorem ok_slice3 {t e z by_ : Nat} {x ym : Operand} {lo hi : Option Operand} {s s' : Sl} {l h m : Int} {kl kh km : IntKind} (ho : o.op = .slice t x lo hi (some ym)) (ht : P.underlying t = some (.slice e)) (hz : SizeIs P e z by_) (hx : Ev a x s.hv)
  (hlo : (lo = none ∧ l = 0) ∨ ∃ y,lo = some y ∧ Ev a y (.int kl l)) (hhi : False ∨ ∃ y,hi = some y ∧ Ev a y (.int kh h)) (hm : Ev a ym (.int km m)) (hv : S.cut3 s l h m z = some s') : OpOk P base W0 o a S s'.hv S := by
 refine .pure (by rw [ho]; simp) fun β w a' h1 h2 => ?_
 obtain ⟨sa,len,c⟩ := s
 have hrx := hx.rel h2
 simp only [Sl.hv] at hrx
 generalize hxv : a'.eval x = xv at hrx
 unfold HS.cut3 at hv
 split at hv
 case isFalse => cases hv
 rename_i hlh
 have hbounds : ∀ (cap : Nat),m ≤ cap → (Instr.sliceBounds true len cap (lo.map a'.eval) (hi.map a'.eval) (some (a'.eval ym))).run P w = .ok (l.toNat,h.toNat,m.toNat) w := by
  intro cap hc
  have h0 : 0 ≤ h := by omega
  have m0 : 0 ≤ m := by omega
  have e1 : ((h.toNat : Nat) : Int) = h := by omega
  have e2 : ((m.toNat : Nat) : Int) = m := by omega
  rcases hhi with hf | ⟨u,rfl,hu⟩
  ·exact hf.elim
  rcases hlo with ⟨rfl,rfl⟩ | ⟨y,rfl,hy⟩
  ·simp [Instr.sliceBounds,Instr.sliceBound,asIntOf,hu.at_int h2,hm.at_int h2,h0,m0,hc,e2,hlh.2.2]
  ·simp [Instr.sliceBounds,Instr.sliceBound,asIntOf,hu.at_int h2,hm.at_int h2,hy.at_int h2,h0,m0,hc,e1,e2,hlh.1,hlh.2.1,hlh.2.2]
 have hfin : ∀ (y : Option Addr) (cap : Nat),xv = .slice y len cap → m ≤ cap → (execOp a'.eval o).run P w = .ok (.value (.slice (if m.toNat = l.toNat then y else y.map (·.add (l.toNat * z))) (h.toNat - l.toNat) (m.toNat - l.toNat))) w := by
  intro y cap hy hc
  have := slice_core (w := w) (x := y) ht hz (hbounds cap hc)
  simp [execOp,ho,hxv,hy,this]
 cases sa with
 | none =>
  simp only at hv
  split at hv
  ·rename_i hh
   cases hv
   cases hrx with
   | slNil =>
    obtain rfl : l = 0 := by omega
    obtain rfl : h = 0 := by omega
    subst hh
    exact ⟨_,hfin none 0 rfl (by omega),by simpa [Sl.hv] using VRel.slNil (some 0)⟩
  ·cases hv
 | some p =>
  obtain ⟨id,off⟩ := p
  simp only at hv
  split at hv
  ·rename_i z' rows own hS
   split at hv
   ·rename_i hcond
    cases hv
    obtain ⟨rfl,hcond⟩ := hcond
    obtain ⟨b,o1,tot,arr,ty,fr,q1,q2,q3,q4,q5,q6⟩ := h1.live hS
    simp only [Sl.hv]
    cases hrx with
    | @sl _ b1 _ z2 n2 tot2 _ _ cap _ hb e1 e2 e3 e4 e5 =>
     rw [hb] at q1
     cases q1
     have hcap : m ≤ cap ∧ off + m.toNat ≤ rows.length := by
      rcases hcond with hc | ⟨hc1,hc2⟩ | ⟨q,hc1,hc2⟩
      ·exact ⟨by omega,by omega⟩
      ·have := e3 hc1; exact ⟨by omega,hc2⟩
      ·have := e4 q hc1; exact ⟨by omega,by omega⟩
     refine ⟨_,hfin _ cap rfl hcap.1,?_⟩
     by_cases hml : m.toNat = l.toNat
     ·rw [if_pos hml]
      have e0 : h.toNat - l.toNat = 0 := by omega
      have e00 : m.toNat - l.toNat = 0 := by omega
      rw [e0,e00]
      exact .slEnd hb (by omega) (fun hc => by cases hc) (fun q hq => by cases hq; rfl)
     ·rw [if_neg hml]
      simp only [Option.map_some,add_none]
      have e9 : o1 + off * z' + l.toNat * z' = o1 + (off + l.toNat) * z' := by rw [Nat.add_mul]; omega
      rw [e9]
      refine .sl hb (by omega) (by omega) (fun hc => by cases hc) (fun q hq => by cases hq; exact ⟨rfl,by omega⟩) ?_
      have : off + l.toNat + (m.toNat - l.toNat) ≤ off + cap := by omega
      have := Nat.mul_le_mul_right z' this
      omega
    | @slEnd _ b1 o2 z2 n2 tot2 _ _ ad hb e2 e3 e4 =>
     rw [hb] at q1
     cases q1
     have h0 : m = 0 := by
      rcases hcond with hc | ⟨hc1,hc2⟩ | ⟨q,hc1,hc2⟩
      ·simp at hc; omega
      ·have := e3 hc1; omega
      ·have := e4 q hc1; omega
     obtain rfl : l = 0 := by omega
     obtain rfl : h = 0 := by omega
     subst h0
     refine ⟨_,hfin _ 0 rfl (by omega),?_⟩
     simp only [Int.toNat_zero,Nat.add_zero,Nat.sub_zero,if_true]
     exact .slEnd hb e2 (fun hc => by cases hc) (fun q hq => by cases hq; rfl)
   ·cases hv
  ·cases hv
theorem ok_clear {t e z : Nat} {zr : List HV} (he : ElemAt P t e z zr) {x : Operand} {tys : Array TypeId} (ho : o.op = .call ⟨.builtin .clear,#[x],tys⟩) (h0 : tys[0]? = some t)
  {s : Sl} {S' : HS} (hx : Ev a x s.hv) (hv : S.over s (List.replicate s.len zr) z = some S') : OpOk P base W0 o a S (.tup []) S' := by
 refine ⟨by rw [ho]; simp,fun β w a' h h2 => ?_⟩
 have hxr := hx.rel h2
 generalize hxv : a'.eval x = xv at hxr
 obtain ⟨q,zv,q1,q2,q3,q4,q5⟩ := he.info
 have hzp := he.pos
 have hzs : zv.cells.size = z := by rw [← (q5 (fun _ => .none)).1]; exact he.pos.1
 obtain ⟨sa,len,c⟩ := s
 simp only [Sl.hv] at hxr
 unfold HS.over at hv
 split at hv
 ·rename_i hnil
  cases hv
  have hl0 : len = 0 := by simpa using hnil
  subst hl0
  refine ⟨β,w,_,.refl β,.inl ?_,VRel.undef β,h⟩
  cases hxr <;> simp [execOp,ho,resolve,invoke,builtin,Builtin.clear_,hxv,h0,underlying,he.slice,undef]
 ·rename_i hnn
  have hlp : 0 < len := by
   cases len with
   | zero => exact absurd rfl hnn
   | succ n => omega
  cases sa with
  | none => cases hv
  | some p =>
   obtain ⟨id,off⟩ := p
   simp only at hv
   split at hv
   case h_2 => cases hv
   rename_i z' rows hS
   split at hv
   case isFalse => cases hv
   rename_i hc
   cases hv
   obtain ⟨hzz,hc1,hc2⟩ := hc
   subst z'
   rw [List.length_replicate] at hc1 hc2
   obtain ⟨b,o1,tot,arr,ty1,fr,g1,g2,g3,g4,g5,g6,g7,g8,g9,_⟩ := h.owned hS
   have zrel := zeros_rel (q5 β) (by omega) he.flat len
   have zsz : ((Array.range (len * zv.cells.size)).map fun i => zv.cells[i % zv.cells.size]!).size = (List.replicate len zr).length * z := by simp [hzs]
   have zone := zrel.flatMem (by omega) (by rw [zsz,hzp.1]) rfl
   cases hxr with
   | sl hb e1 e2 e3 e4 e5 =>
    rw [g1] at hb
    cases hb
    have hm : (off + len) * z ≤ rows.length * z := Nat.mul_le_mul_right z hc2
    rw [Nat.add_mul] at hm
    have hst := run_storeCells (P := P) (b := b) (o := o1 + off * z) (t := ty1) (fr := fr) ((Array.range (len * zv.cells.size)).map fun i => zv.cells[i % zv.cells.size]!).toList 0 w arr g2 (by rw [Array.length_toList,zsz,List.length_replicate]; omega) zone (by rw [g3]; exact g8)
    simp only [Nat.add_zero] at hst
    have hl0 : len ≠ 0 := by omega
    refine ⟨β,_,_,.refl β,.inl ?_,VRel.undef β,h.setRow hS g1 g2 (arr' := over arr (o1 + off * z) ((Array.range (len * zv.cells.size)).map fun i => zv.cells[i % zv.cells.size]!).toList) (by simp [over_size]) (by simp [splice]; omega) (g6.splice (by rw [hzp.1] at zrel; exact zrel) zsz (by rw [List.length_replicate]; exact hc2) (by rw [g3]; exact g4)) (over_mem _ _ _ g9 zone)⟩
    cases len with
    | zero => exact absurd rfl hl0
    | succ n =>
     simp only [Array.toList_map,Array.toList_range] at hst
     simp [execOp,ho,resolve,invoke,builtin,Builtin.clear_,hxv,h0,underlying,he.slice,zeroValue,typeInfo,q1,q4,Builtin.zeroCells,undef,hst]
   | slEnd hb e2 e3 e4 => omega
theorem appends_zeros {t e z : Nat} {zr : List HV} (he : ElemAt P t e z zr) {tys : Array TypeId} {u : TypeId} (h0 : tys[0]? = some t) (h1 : tys[1]? = some u) {ik : IntKind} (hu : P.underlying u = some (.int ik)) {n : Nat} (hn0 : 0 < n) (hn : n ≤ 2147483648) {ty : TypeId} {w : World} :
  ∃ zv : Value,(∀ β,VRels β zr zv.cells) ∧ Appends P w e z tys ty (.int .i64 n) n (Builtin.zeroCells zv.cells n) := by
 obtain ⟨q,zv,q1,q2,q3,q4,q5⟩ := he.info
 have hzp := he.pos
 have hzs : zv.cells.size = z := by rw [← (q5 (fun _ => .none)).1]; exact he.pos.1
 have hw : IntKind.i64.wrap (n : Int) = (n : Int) := w64_id (by omega) (by omega)
 have hmul : (n : Int) * (q.bytes : Int) ≤ 2147483648 * 4096 := by
  have : n * q.bytes ≤ 2147483648 * 4096 := Nat.mul_le_mul hn q3
  have h2 : ((n * q.bytes : Nat) : Int) ≤ ((2147483648 * 4096 : Nat) : Int) := Int.ofNat_le.2 this
  simpa using h2
 have hb1 : ¬ ((n : Int) < 0) := by omega
 have hb2 : ¬ ((281474976710656 : Int) < (n : Int) * (q.bytes : Int)) := by omega
 have hnz : ¬ (n = 0) := by omega
 have hzz : ¬ (n * z = 0) := Nat.mul_ne_zero (by omega) (by omega)
 refine ⟨zv,q5,⟨fun x len cap hle => ?_,fun x len cap arrO hold hlt hb => ?_⟩⟩
 ·cases x <;> simp [Builtin.append_,h0,h1,hu,underlying,he.slice,Go.sizeOf,typeInfo,q1,q2,q4,asInt,asIntOf,hw,hb1,hb2,hle,hnz,hzz,zeroValue]
 ·have hns := nextslicecap_le (len + n) cap hlt
  have hnum : Builtin.nextslicecap (len + n) cap * q.bytes ≤ 4294969296 * 4096 := Nat.mul_le_mul (by omega) q3
  have hmax : IntKind.i64.max = 9223372036854775807 := by decide
  refine ⟨(Question.appendCap (len + n) cap e).cut (w.tape w.drawn (.appendCap (len + n) cap e)),Builtin.zeroCells zv.cells ((Question.appendCap (len + n) cap e).cut (w.tape w.drawn (.appendCap (len + n) cap e)) - (len + n)),?_,?_,he.zero_one q1 q4 _,?_⟩
  ·simp only [Question.cut]; omega
  ·simp [Builtin.zeroCells,hzs]
  ·have n1 : ¬ len + n ≤ cap := by omega
   have hO : (Builtin.firstCells z len (.slice x len cap)).run P w.drew = .ok arrO w.drew := hold (w.drawn + 1)
   have n4 : ¬ (281474976710656 < Builtin.nextslicecap (len + n) cap * q.bytes) := by omega
   have n5 : ¬ (9223372036854775807 < (len : Int) + (n : Int)) := by omega
   simp [Builtin.append_,h0,h1,hu,underlying,he.slice,Go.sizeOf,typeInfo,q1,q2,q4,asInt,asIntOf,hw,hb1,hb2,n1,hnz,hzz,hmax,n5,n4,zeroValue,Question.forced,hO,newRow]
   rfl
theorem ok_append_zeros {t u e z : Nat} {zr : List HV} (he : ElemAt P t e z zr) {x y : Operand} {tys : Array TypeId} (ho : o.op = .call ⟨.builtin .append,#[x,y],tys⟩) (h0 : tys[0]? = some t) (h1 : tys[1]? = some u) {ik : IntKind} (hu : P.underlying u = some (.int ik))
  {s s' : Sl} {n : Int} {S' : HS} (hx : Ev a x s.hv) (hy : Ev a y (.int .i64 n)) (hv : S.appZ s n zr z = some (s',S')) : OpOk P base W0 o a S s'.hv S' := by
 refine ⟨by rw [ho]; simp,fun β w a' h h2 => ?_⟩
 have hxr := hx.rel h2
 generalize hxv : a'.eval x = xv at hxr
 unfold HS.appZ at hv
 split at hv
 case isFalse => cases hv
 rename_i hn0
 obtain ⟨m,rfl⟩ : ∃ m : Nat,n = (m : Int) := ⟨n.toNat,by omega⟩
 rw [Int.toNat_natCast] at hv
 have hm0 : 0 < m := by omega
 have hbnd : m ≤ 2147483648 := by
  unfold HS.app at hv
  rw [if_neg (by intro hc; have := congrArg List.length hc; simp at this; omega)] at hv
  split at hv
  ·rename_i hb; simp at hb; omega
  ·cases hv
 obtain ⟨zv,z1,z2⟩ := appends_zeros (ty := o.type) (w := w) he h0 h1 hu hm0 hbnd
 have hzp := he.pos
 have hzs : zv.cells.size = z := by rw [← (z1 (fun _ => .none)).1]; exact he.pos.1
 have hrel := zeros_rel (z1 β) (by omega) he.flat m
 rw [hzp.1] at hrel
 obtain ⟨β',w',v',k1,k2,k3,k4⟩ := h.app he o.type (tys := tys) hv hxr (src := .int .i64 m) (arrN := Builtin.zeroCells zv.cells m) (by rw [List.length_replicate]; exact z2) (by simp [Builtin.zeroCells,hzs]) hrel
 exact ⟨β',w',v',k1,.inl (by simp [execOp,ho,resolve,invoke,builtin,hxv,hy.at_int h2,k2]),k3,k4⟩
theorem ok_extR {f : FuncId} {e : Array Value → Sem Value} {xs : Array Operand} {tys : Array TypeId} {vs : List HV} {v : HV} (ho : o.op = .call ⟨.value (.func f),xs,tys⟩) (hf : ExtAt P f e) (hxs : Evs a xs vs)
  (hrun : ∀ (β : Bt) (w : World) (vs' : Array Value),Rel base W0 β S w → VRels β vs vs' → ∃ v',(e vs').run P w = .ok v' w ∧ VRel β v v') : OpOk P base W0 o a S v S := by
 refine ⟨by rw [ho]; simp,fun β w a' h1 h2 => ?_⟩
 obtain ⟨fn,q1,q2,q3,q4,q5⟩ := hf.is
 obtain ⟨v',g1,g2⟩ := hrun β w _ h1 (hxs.rel h2)
 refine ⟨β,w,v',Le.refl _,.inl ?_,g2,h1⟩
 have hc := run_callFunc_extern q1 q2 q3 q4 q5 (xs.map a'.eval) w
 rw [g1] at hc
 simp only [Result.andThen_ok] at hc
 simp only [execOp,ho,resolve,Act.eval,invoke,Sem.run_bind]
 simp [Deferred.ofValue,invoke,hc]
theorem ok_overlaps {f : FuncId} {x y : Operand} {tys : Array TypeId} {t tR e z by_ : Nat} {s1 s2 : Sl} {q : Bool} (ho : o.op = .call ⟨.value (.func f),#[x,y],tys⟩) (hf : ExtAt P f (Extern.SlicesOverlaps.overlaps #[t,t] #[tR])) (ht : P.underlying t = some (.slice e)) (hz : SizeIs P e z by_)
  (hx : Ev a x s1.hv) (hy : Ev a y s2.hv) (hv : S.ovl s1 s2 = some q) : OpOk P base W0 o a S (.bool q) S := by
 refine ok_extR ho hf (Evs.cons hx (Evs.cons hy Evs.nil)) fun β w vs' hR h => ?_
 obtain ⟨hl,hvs⟩ := h
 obtain ⟨u1,u2,rfl⟩ : ∃ u1 u2,vs' = #[u1,u2] := by
  obtain ⟨l⟩ := vs'
  match l,hl with
  | [u1,u2],_ => exact ⟨u1,u2,rfl⟩
 have r1 := hvs 0 _ _ rfl rfl
 have r2 := hvs 1 _ _ rfl rfl
 obtain ⟨a1,l1,c1⟩ := s1
 obtain ⟨a2,l2,c2⟩ := s2
 simp only [Sl.hv] at r1 r2
 have h0 : ∀ (x y : Option Addr) (l1 l2 k1 k2 : Nat),(x = none ∨ y = none ∨ l1 = 0 ∨ l2 = 0) → (Extern.SlicesOverlaps.overlaps #[t,t] #[tR] #[.slice x l1 k1,.slice y l2 k2]).run P w = .ok (.bool false) w := by
  intro x y l1 l2 k1 k2 hc
  change Sem.run P (α := Value) (do
   let some t := (#[t,t] : Array TypeId)[0]? | stuck "slices.overlaps: no parameter types"
   let .slice elem ← underlying t | stuck "slices.overlaps: slice type expected"
   let size ← sizeOf elem
   match x,y with
   | some a,some b =>
    if l1 = 0 ∨ l2 = 0 ∨ size = 0 then pure (Value.bool false)
    else if a.block != b.block && (← frozen a) && (← frozen b) then unsupported .addressObserved
    else do
     if a.block != b.block then do
      noView a; noView b
      if ← mayBeOne a b then return Value.bool ((← choose (.extern "sameAddr.stringBytes" 2)) == 1)
     pure (Value.bool (a.block == b.block && a.off < b.off + l2 * size && b.off < a.off + l1 * size))
   | _,_ => pure (Value.bool false)) w = _
  cases x with
  | none => simp [underlying,ht,hz.run]
  | some x =>
   cases y with
   | none => simp [underlying,ht,hz.run]
   | some y =>
    have hc2 : l1 = 0 ∨ l2 = 0 ∨ z = 0 := by
     rcases hc with hc | hc | hc | hc
     ·cases hc
     ·cases hc
     ·exact .inl hc
     ·exact .inr (.inl hc)
    simp [underlying,ht,hz.run,hc2]
 simp only [HS.ovl] at hv
 cases a1 with
 | none => simp only [Option.some.injEq] at hv; subst hv; cases r1; cases r2 <;> exact ⟨_,h0 _ _ _ _ _ _ (.inl rfl),.bool _⟩
 | some p1 =>
  obtain ⟨i,o1⟩ := p1
  cases a2 with
  | none => simp only [Option.some.injEq] at hv; subst hv; cases r2; cases r1 <;> exact ⟨_,h0 _ _ _ _ _ _ (.inr (.inl rfl)),.bool _⟩
  | some p2 =>
   obtain ⟨j,o2⟩ := p2
   simp only at hv
   split at hv
   ·rename_i hlz
    simp only [Option.some.injEq] at hv; subst hv
    cases r1 <;> cases r2 <;> exact ⟨_,h0 _ _ _ _ _ _ (.inr (.inr hlz)),.bool _⟩
   ·rename_i hlz
    split at hv
    ·cases hv
    rename_i hij
    split at hv
    ·rename_i z1 rows1 z2 row2 rows2 own2 hi hj
     split at hv
     ·rename_i hmk
      simp only [Option.some.injEq] at hv; subst hv
      obtain ⟨b1,p1,tot1,arr1,t1,fr1,g1,g2,g3,g4,g5,g6,g7,g8,g9,g10⟩ := hR.owned hi
      obtain ⟨b2,p2,tot2,arr2,t2,fr2,k1,k2,k3,k4,k5,k6⟩ := hR.live hj
      have hne : b1 ≠ b2 := fun e => hR.disj i j b1 hij (by rw [hi]; rfl) (by rw [hj]; rfl) (by rw [g1]; rfl) (by rw [k1,e]; rfl)
      have hfr := g10.1 hmk
      have hbig : arr2.size ≠ 0 := by
       rw [k3]
       have : 1 * z2 ≤ (row2 :: rows2).length * z2 := Nat.mul_le_mul_right z2 (by simp)
       omega
      cases r1 with
      | sl m1 m2 m3 m4 m5 m6 =>
       rw [g1] at m1; cases m1
       cases r2 with
       | sl n1 n2 n3 n4 n5 n6 =>
        rw [k1] at n1; cases n1
        refine ⟨_,Go.Lib.run_overlaps_apart w t tR e ht z (fun w => hz.run) _ _ _ _ _ _ hne t1 t2 arr1.size arr2.size (by simp [World.shape?,g2]) (by simp [World.shape?,k2]) hbig ?_ ?_,.bool _⟩
        ·simp only [World.frozen?,g2]; simp; omega
        ·simp only [World.frozen?,g2]; simp; omega
       | slEnd n1 n2 n3 n4 => exact absurd (.inr rfl) hlz
      | slEnd m1 m2 m3 m4 => exact absurd (.inl rfl) hlz
     ·cases hv
    ·cases hv
end
end Go.Proofs.YtfningkbcfhheaaGreatDoor.HL
set_option linter.unusedVariables false
set_option linter.unusedSimpArgs false
namespace Go.Proofs.YtfningkbcfhheaaGreatDoor.HL
open Go.RowKit (Below)
def HS.swap (S : HS) (id : Nat) (o : HObj) : HS :=
 { heap := fun i => if i = S.next + 1 then o else if i = S.next ∨ i = id then .dead else S.heap i,next := S.next + 2,mrk := fun _ => 1 }
def HS.ins (S : HS) (s : Sl) (i : Int) (v : Sl) (z : Nat) : Option (Sl × HS) :=
 Option.bind (S.rows v z) fun new =>
 if new = [] ∨ ¬ (s.len + new.length ≤ 2147483648) then none else
 match s.a with
 | none => if s.len = 0 ∧ i = 0 then some (⟨some (S.next,0),new.length,none⟩,S.new (.cells z new true)) else none
 | some (id,off) =>
  match S.heap id,v.a with
  | .cells z' rows true,some (j,_) =>
   if z' = z ∧ off = 0 ∧ s.cap = none ∧ s.len = rows.length ∧ 0 ≤ i ∧ i ≤ s.len ∧ j ≠ id ∧ j < S.next ∧ S.mrk j ≠ 1 ∧ (S.heap j).own = true then
    some (⟨some (S.next + 1,0),rows.length + new.length,none⟩,S.swap id (.cells z (rows.take i.toNat ++ new ++ rows.drop i.toNat) true))
   else none
  | _,_ => none
def HS.del (S : HS) (s : Sl) (i j : Int) (z : Nat) : Option (Sl × HS) :=
 match s.a with
 | none => none
 | some (id,off) =>
  match S.heap id with
  | .cells z' rows true =>
   if z' = z ∧ off = 0 ∧ s.cap = none ∧ s.len = rows.length ∧ 0 ≤ i ∧ i < j ∧ j ≤ s.len ∧ s.len ≤ 2147483648 then
    some (⟨some (S.next,0),i.toNat + (rows.length - j.toNat),none⟩,{ (S.put id .dead).new (.cells z (rows.take i.toNat ++ rows.drop j.toNat) true) with mrk := fun _ => 1 })
   else none
  | _ => none
section
variable {P : Program} {base : Nat} {W0 : Env} {β0 β : Bt} {S : HS} {w : World}
theorem Rel.openCap (h : Rel base W0 β S w) {id z : Nat} {rows : List (List HV)} {xv : Value} (hS : S.heap id = .cells z rows true) (hx : VRel β (.sl (some (id,0)) rows.length none) xv) :
  ∃ (cap : Nat) (β' : Bt),rows.length ≤ cap ∧ Le β β' ∧ VRel β' (.sl (some (S.next,0)) rows.length (some cap)) xv ∧
   Rel base W0 β' ((S.put id .dead).newM (.cells z (rows ++ List.replicate (cap - rows.length) (List.replicate z .junk)) true) (S.mrk id)) w := by
 obtain ⟨b,o,tot,arr,t,fr,q1,q2,q3,q4,q5,q6,q7,q8,q9,q10⟩ := h.owned hS
 have main : ∀ cap,rows.length ≤ cap → o + cap * z ≤ tot → ∃ β',Le β β' ∧ β' S.next = .mem b o z cap tot ∧ Rel base W0 β' ((S.put id .dead).newM (.cells z (rows ++ List.replicate (cap - rows.length) (List.replicate z .junk)) true) (S.mrk id)) w := by
  intro cap hc ht
  have hl : (rows ++ List.replicate (cap - rows.length) (List.replicate z HV.junk)).length = cap := by simp; omega
  obtain ⟨β',g1,g2,g3⟩ := h.rename (m := S.mrk id) (hm := fun q => q) hS q1 q2 (arr' := arr) rfl (o' := o) (rows' := rows ++ List.replicate (cap - rows.length) (List.replicate z .junk)) (by
   intro i row hi
   rw [List.getElem?_append] at hi
   split at hi
   ·exact q6 i row hi
   ·rename_i hge
    rw [List.getElem?_replicate] at hi
    split at hi
    ·rename_i hlt
     cases hi
     refine ⟨by simp,fun j v hv => ?_⟩
     rw [List.getElem?_replicate] at hv
     split at hv
     ·rename_i hj
      cases hv
      have hlt2 : o + i * z + j < arr.size := by
       have : (i + 1) * z ≤ cap * z := Nat.mul_le_mul_right z (by omega)
       rw [Nat.succ_mul] at this
       omega
      exact ⟨rfl,arr[o + i * z + j],Array.getElem?_eq_getElem hlt2,.junk (q9 _ (by simp))⟩
     ·cases hv
    ·cases hi) (by rw [hl]; exact ht) q9
  rw [hl] at g2
  rw [setRow_self q2] at g3
  exact ⟨β',g1,g2,g3⟩
 generalize hl : rows.length = len at hx q1 main
 cases hx with
 | sl hb e1 e2 e3 e4 e5 =>
  rename_i cap
  rw [q1] at hb
  cases hb
  rw [Nat.zero_add] at e5
  obtain ⟨β',g1,g2,g3⟩ := main cap e1 e5
  exact ⟨cap,β',e1,g1,.sl g2 e1 (by omega) (fun hc => by cases hc) (fun q hq => by cases hq; exact ⟨rfl,by omega⟩) (by rw [Nat.zero_add]; exact e5),g3⟩
 | slEnd hb e2 e3 e4 =>
  obtain ⟨β',g1,g2,g3⟩ := main 0 (Nat.le_refl _) (by omega)
  exact ⟨0,β',Nat.le_refl _,g1,.slEnd g2 (Nat.le_refl _) (fun hc => by cases hc) (fun q hq => by cases hq; rfl),g3⟩
theorem Rel.closeCap (h : Rel base W0 β S w) {id z len : Nat} {all : List (List HV)} {c : Option Nat} {xv : Value} (hS : S.heap id = .cells z all true) (hlen : len ≤ all.length) (hx : VRel β (.sl (some (id,0)) len c) xv) :
  ∃ β',Le β β' ∧ VRel β' (.sl (some (S.next,0)) len none) xv ∧ Rel base W0 β' ((S.put id .dead).newM (.cells z (all.take len) true) (S.mrk id)) w := by
 obtain ⟨b,o,tot,arr,t,fr,q1,q2,q3,q4,q5,q6,q7,q8,q9,q10⟩ := h.owned hS
 have hl : (all.take len).length = len := by simp; omega
 obtain ⟨β',g1,g2,g3⟩ := h.rename hS q1 q2 (arr' := arr) rfl (o' := o) (rows' := all.take len) (by
  intro i row hi
  rw [List.getElem?_take] at hi
  split at hi
  ·exact q6 i row hi
  ·cases hi) (by
   rw [hl]
   have : len * z ≤ all.length * z := Nat.mul_le_mul_right z hlen
   omega) q9 (m := S.mrk id) (fun q => q)
 rw [hl] at g2
 rw [setRow_self q2] at g3
 refine ⟨β',g1,?_,g3⟩
 cases hx with
 | sl hb e1 e2 e3 e4 e5 =>
  rw [q1] at hb
  cases hb
  exact .sl g2 e1 (by omega) (fun _ => by omega) (fun q hq => by cases hq) e5
 | slEnd hb e2 e3 e4 => exact .slEnd g2 (by omega) (fun _ => by omega) (fun q hq => by cases hq)
theorem Rel.as {S' : HS} (h : Rel base W0 β S w) (h1 : ∀ i,S'.heap i = S.heap i) (h2 : S'.next = S.next) (h3 : ∀ i,S'.mrk i = 1) : Rel base W0 β S' w :=
 h.mark (funext h1) h2 fun i => by rw [h3]; exact .of_lt (by omega) fun h => absurd rfl h
end
theorem splice_at {α : Type} {A B new : List α} {a : Nat} (h : A.length = a) : splice (A ++ B) a new = A ++ new ++ B.drop new.length := by
 subst h
 simp only [splice,List.take_left',List.drop_append,Nat.add_sub_cancel_left]
 rw [List.drop_of_length_le (by omega)]
 rfl
def insF (rot : Sl → Int → HS → Option (Unit × HS)) (z : Nat) (zr : List HV) (x0 : Sl) (x1 : Int) (x2 : Sl) (S : HS) : Option (Sl × HS) :=
 (Option.bind (HS.cut S x0 x1 (Sl.len x0 : Int) z) fun p1 =>
 (if (Sl.len x2 : Int) = 0 then
 some (x0,S) else
 (if x1 = (Sl.len x0 : Int) then
 (Option.bind (HS.rows S x2 z) fun p4 =>
 (Option.bind (HS.app S x0 p4 z) fun p5 =>
 some ((p5.1),(p5.2)))) else
 (Option.bind (Sl.capOf x0) fun p6 =>
 (if (w64 ((Sl.len x0 : Int) + (Sl.len x2 : Int))) > p6 then
 (Option.bind (HS.cut S x0 0 x1 z) fun p8 =>
 (Option.bind (HS.appZ S p8 (w64 ((w64 ((Sl.len x0 : Int) + (Sl.len x2 : Int))) - x1)) zr z) fun p9 =>
 (Option.bind (HS.cut (p9.2) (p9.1) x1 (Sl.len (p9.1) : Int) z) fun p10 =>
 (Option.bind (HS.rows (p9.2) x2 z) fun p11 =>
 (Option.bind (HS.over (p9.2) p10 (List.take (Sl.len p10) p11) z) fun p12 =>
 (Option.bind (HS.cut p12 (p9.1) (w64 (x1 + (Sl.len x2 : Int))) (Sl.len (p9.1) : Int) z) fun p13 =>
 (Option.bind (HS.cut p12 x0 x1 (Sl.len x0 : Int) z) fun p14 =>
 (Option.bind (HS.rows p12 p14 z) fun p15 =>
 (Option.bind (HS.over p12 p13 (List.take (Sl.len p13) p15) z) fun p16 =>
 some ((p9.1),p16)))))))))) else
 (Option.bind (HS.cut S x0 0 (w64 ((Sl.len x0 : Int) + (Sl.len x2 : Int))) z) fun p17 =>
 (Option.bind (HS.cut S p17 (w64 (x1 + (Sl.len x2 : Int))) (Sl.len p17 : Int) z) fun p18 =>
 (Option.bind (HS.ovl S x2 p18) fun p19 =>
 (if (!p19) = true then
 (Option.bind (HS.cut S p17 (w64 (x1 + (Sl.len x2 : Int))) (Sl.len p17 : Int) z) fun p21 =>
 (Option.bind (HS.cut S p17 x1 (Sl.len p17 : Int) z) fun p22 =>
 (Option.bind (HS.rows S p22 z) fun p23 =>
 (Option.bind (HS.over S p21 (List.take (Sl.len p21) p23) z) fun p24 =>
 (Option.bind (HS.cut p24 p17 x1 (Sl.len p17 : Int) z) fun p25 =>
 (Option.bind (HS.rows p24 x2 z) fun p26 =>
 (Option.bind (HS.over p24 p25 (List.take (Sl.len p25) p26) z) fun p27 =>
 some (p17,p27)))))))) else
 (Option.bind (HS.cut S p17 (Sl.len x0 : Int) (Sl.len p17 : Int) z) fun p28 =>
 (Option.bind (HS.rows S x2 z) fun p29 =>
 (Option.bind (HS.over S p28 (List.take (Sl.len p28) p29) z) fun p30 =>
 (Option.bind (HS.cut p30 p17 x1 (Sl.len p17 : Int) z) fun p31 =>
 (Option.bind (rot p31 (Sl.len x2 : Int) p30) fun p32 =>
 some (p17,p32.2)))))))))))))))
theorem cut_cap {S : HS} {id z off len c : Nat} {all : List (List HV)} {b : Bool} (h : S.heap id = .cells z all b) {l q : Nat} (hl : l ≤ q) (hq : q ≤ c) :
  S.cut ⟨some (id,off),len,some c⟩ (l : Int) (q : Int) z = some ⟨some (id,off + l),q - l,some (c - l)⟩ := by
 have h1 : (0 : Int) ≤ (l : Int) ∧ (l : Int) ≤ (q : Int) := ⟨by omega,by omega⟩
 simp only [HS.cut,if_pos h1,h,Int.toNat_natCast,Option.map_some]
 rw [if_pos ⟨trivial,.inr (.inr ⟨c,rfl,by omega⟩)⟩]
theorem cut_len {S : HS} {id z off len : Nat} {c : Option Nat} {all : List (List HV)} {b : Bool} (h : S.heap id = .cells z all b) {l q : Nat} (hl : l ≤ q) (hq : q ≤ len) :
  S.cut ⟨some (id,off),len,c⟩ (l : Int) (q : Int) z = some ⟨some (id,off + l),q - l,c.map (· - l)⟩ := by
 have h1 : (0 : Int) ≤ (l : Int) ∧ (l : Int) ≤ (q : Int) := ⟨by omega,by omega⟩
 simp only [HS.cut,if_pos h1,h,Int.toNat_natCast]
 rw [if_pos ⟨trivial,.inl (by show (q : Int) ≤ (len : Int); omega)⟩]
theorem over_at {S : HS} {id z off len : Nat} {c : Option Nat} {all new : List (List HV)} (h : S.heap id = .cells z all true) (hne : new ≠ []) (h1 : new.length ≤ len) (h2 : off + new.length ≤ all.length) :
  S.over ⟨some (id,off),len,c⟩ new z = some (S.put id (.cells z (splice all off new) true)) := by
 simp only [HS.over,if_neg hne,h]
 rw [if_pos ⟨trivial,h1,h2⟩]
theorem rows_at {S : HS} {id z off len : Nat} {c : Option Nat} {all : List (List HV)} {b : Bool} (h : S.heap id = .cells z all b) (h2 : off + len ≤ all.length) : S.rows ⟨some (id,off),len,c⟩ z = some ((all.drop off).take len) := by
 simp only [HS.rows,h]
 rw [if_pos ⟨trivial,h2⟩]
theorem rows_same {S T : HS} {s : Sl} {z : Nat} {rows : List (List HV)} (h : S.rows s z = some rows) (he : ∀ q,s.a = some q → T.heap q.1 = S.heap q.1) : T.rows s z = some rows := by
 unfold HS.rows at h ⊢
 cases ha : s.a with
 | none => rw [ha] at h; exact h
 | some q =>
  obtain ⟨id,off⟩ := q
  rw [ha] at h
  simp only at h ⊢
  rw [he _ ha]
  exact h
def InsOut (S1 : HS) (o z n cap : Nat) (rows' : List (List HV)) (p : Sl × HS) : Prop :=
 (p.1 = ⟨some (S1.next,0),n,none⟩ ∧ p.2.next = S1.next + 1 ∧ p.2.heap S1.next = .cells z rows' true ∧ ∀ k,k ≠ S1.next → p.2.heap k = S1.heap k) ∨
 (p.1 = ⟨some (o,0),n,some cap⟩ ∧ p.2.next = S1.next ∧ (∃ all,p.2.heap o = .cells z all true ∧ all.length = cap ∧ all.take n = rows' ∧ n ≤ cap) ∧ ∀ k,k ≠ o → p.2.heap k = S1.heap k)
theorem ins_plain {rot : Sl → Int → HS → Option (Unit × HS)} {z : Nat} {zr : List HV} {S1 : HS} {o cap j joff m : Nat} {rows all new : List (List HV)} {vc : Option Nat} {i : Nat} (ho : o < S1.next) (hj : j < S1.next) (hjo : j ≠ o)
  (hS : S1.heap o = .cells z all true) (hall : all.length = cap) (hrows : all.take rows.length = rows) (hcap : rows.length ≤ cap) (hjown : (S1.heap j).own = true) (hmk : S1.mrk j ≠ 1) (hnew : S1.rows ⟨some (j,joff),m,vc⟩ z = some new) (hm : new ≠ []) (hi : i ≤ rows.length) (hb : rows.length + new.length ≤ 2147483648) :
  ∃ p,insF rot z zr ⟨some (o,0),rows.length,some cap⟩ (i : Int) ⟨some (j,joff),m,vc⟩ S1 = some p ∧ InsOut S1 o z (rows.length + new.length) cap (rows.take i ++ new ++ rows.drop i) p := by
 have hml : m = new.length := (rows_len hnew).symm
 have hm0 : 0 < new.length := List.length_pos_iff.2 hm
 have hw1 : w64 ((rows.length : Int) + (m : Int)) = ((rows.length + new.length : Nat) : Int) := by rw [w64_id (by omega) (by omega)]; omega
 have hw2 : w64 ((i : Int) + (m : Int)) = ((i + new.length : Nat) : Int) := by rw [w64_id (by omega) (by omega)]; omega
 have hcut := cut_len (c := some cap) (off := 0) hS hi (Nat.le_refl rows.length)
 unfold insF
 simp only [hcut,Option.bind_some]
 rw [if_neg (by omega)]
 by_cases hin : i = rows.length
 ·subst hin
  rw [if_pos rfl,hnew,Option.bind_some]
  simp only [HS.app,if_neg hm,if_pos hb,hS,if_true]
  by_cases hfit : rows.length + new.length ≤ cap
  ·rw [if_pos hfit,Option.bind_some]
   refine ⟨_,rfl,.inr ⟨rfl,rfl,⟨_,put_here _ _ _,?_,?_,hfit⟩,fun k hk => put_other _ hk⟩⟩
   ·simp [splice]; omega
   ·unfold splice
    rw [Nat.zero_add,hrows,List.take_length,List.drop_length,List.append_nil,List.take_left' (by simp)]
  ·rw [if_neg hfit,Option.bind_some]
   refine ⟨_,rfl,.inl ⟨rfl,rfl,?_,fun k hk => ?_⟩⟩
   ·rw [new_here,List.drop_zero,hrows,List.take_length,List.drop_length,List.append_nil]
   ·simp [HS.new,HS.newM,hk]
 have hlt : i < rows.length := by omega
 have htk : all.take i = rows.take i := by rw [← hrows,List.take_take,Nat.min_eq_left (by omega)]
 have hdr : (all.drop i).take (rows.length - i) = rows.drop i := by rw [← hrows,List.drop_take,hrows]
 have hdne : rows.drop i ≠ [] := by intro hc; have := congrArg List.length hc; simp at this; omega
 rw [if_neg (by omega)]
 simp only [Sl.capOf,Option.map_some,Option.bind_some,hw1,hw2]
 by_cases hfit : rows.length + new.length ≤ cap
 ·rw [if_neg (by omega)]
  have c17 : S1.cut ⟨some (o,0),rows.length,some cap⟩ 0 ((rows.length + new.length : Nat) : Int) z = some ⟨some (o,0),rows.length + new.length,some cap⟩ := by
   have := cut_cap (off := 0) (len := rows.length) hS (Nat.zero_le (rows.length + new.length)) hfit
   simpa using this
  have c18 := cut_len (off := 0) (len := rows.length + new.length) (c := some cap) hS (l := i + new.length) (q := rows.length + new.length) (by omega) (Nat.le_refl _)
  have c22 := cut_len (off := 0) (len := rows.length + new.length) (c := some cap) hS (l := i) (q := rows.length + new.length) (by omega) (Nat.le_refl _)
  have hovl : S1.ovl ⟨some (j,joff),m,vc⟩ ⟨some (o,0 + (i + new.length)),rows.length + new.length - (i + new.length),(some cap).map (· - (i + new.length))⟩ = some false := by
   cases hhj : S1.heap j with
   | cells zj rj oj =>
    rw [hhj] at hjown
    cases all with
    | nil => simp at hall; omega
    | cons a0 al =>
     have h0 : ¬ (m = 0 ∨ rows.length + new.length - (i + new.length) = 0) := by omega
     have : oj = true := hjown
     subst this
     simp only [HS.ovl,if_neg h0,if_neg hjo,hhj,hS,if_pos hmk]
   | dead => rw [hhj] at hjown; cases hjown
   | map es => unfold HS.rows at hnew; simp only [hhj] at hnew; cases hnew
   | loop st pd => unfold HS.rows at hnew; simp only [hhj] at hnew; cases hnew
   | defer => unfold HS.rows at hnew; simp only [hhj] at hnew; cases hnew
   | call g vs => unfold HS.rows at hnew; simp only [hhj] at hnew; cases hnew
   | opq => unfold HS.rows at hnew; simp only [hhj] at hnew; cases hnew
  simp only [c17,c18,hovl,Option.bind_some,Bool.not_false,if_true,c22]
  have r22 := rows_at (off := 0 + i) (len := rows.length + new.length - i) (c := (some cap).map (· - i)) hS (by omega)
  have htt : List.take (rows.length + new.length - (i + new.length)) ((all.drop (0 + i)).take (rows.length + new.length - i)) = rows.drop i := by
   rw [List.take_take,Nat.min_eq_left (by omega),Nat.zero_add,show rows.length + new.length - (i + new.length) = rows.length - i by omega,hdr]
  have o24 := over_at (off := 0 + (i + new.length)) (len := rows.length + new.length - (i + new.length)) (c := (some cap).map (· - (i + new.length))) (new := rows.drop i) hS hdne (by simp; omega) (by simp; omega)
  simp only [r22,Option.bind_some,htt,o24]
  have h24 : (S1.put o (.cells z (splice all (0 + (i + new.length)) (rows.drop i)) true)).heap o = .cells z (splice all (0 + (i + new.length)) (rows.drop i)) true := put_here _ _ _
  have hl24 : (splice all (0 + (i + new.length)) (rows.drop i)).length = cap := by simp [splice]; omega
  have c25 := cut_len (off := 0) (len := rows.length + new.length) (c := some cap) h24 (l := i) (q := rows.length + new.length) (by omega) (Nat.le_refl _)
  have r26 : (S1.put o (.cells z (splice all (0 + (i + new.length)) (rows.drop i)) true)).rows ⟨some (j,joff),m,vc⟩ z = some new := rows_same hnew fun q hq => by cases hq; exact put_other _ hjo
  have htn : List.take (rows.length + new.length - i) new = new := List.take_of_length_le (by omega)
  have o27 := over_at (off := 0 + i) (len := rows.length + new.length - i) (c := (some cap).map (· - i)) (new := new) h24 hm (by omega) (by omega)
  simp only [c25,r26,Option.bind_some,htn,o27]
  refine ⟨_,rfl,.inr ⟨rfl,rfl,⟨_,put_here _ _ _,?_,?_,hfit⟩,fun k hk => by rw [put_other _ hk,put_other _ hk]⟩⟩
  ·have : ∀ (A : List (List HV)) (a : Nat),a + new.length ≤ A.length → (splice A a new).length = A.length := by intro A a ha; simp [splice]; omega
   rw [this _ _ (by omega),hl24]
  ·have e1 : all = rows.take i ++ all.drop i := by rw [← htk,List.take_append_drop]
   have hle : (all.take (i + new.length)).length = i + new.length := by simp; omega
   have e2 : splice all (0 + (i + new.length)) (rows.drop i) = all.take (i + new.length) ++ rows.drop i ++ all.drop (rows.length + new.length) := by
    rw [Nat.zero_add]
    unfold splice
    rw [List.length_drop,show i + new.length + (rows.length - i) = rows.length + new.length by omega]
   have e3 : all.take (i + new.length) = rows.take i ++ (all.drop i).take new.length := by
    rw [← htk,List.take_add]
   rw [e2,e3,List.append_assoc,List.append_assoc,Nat.zero_add,splice_at (by simp; omega),List.drop_left' (by simp; omega),← List.append_assoc,List.take_left' (by simp; omega)]
 ·rw [if_pos (by omega)]
  have c8 : S1.cut ⟨some (o,0),rows.length,some cap⟩ 0 (i : Int) z = some ⟨some (o,0),i,some cap⟩ := by
   have := cut_len (off := 0) (len := rows.length) (c := some cap) hS (Nat.zero_le i) hi
   simpa using this
  have hw3 : w64 (((rows.length + new.length : Nat) : Int) - (i : Int)) = ((rows.length + new.length - i : Nat) : Int) := by rw [w64_id (by omega) (by omega)]; omega
  have hzne : List.replicate (rows.length + new.length - i) zr ≠ [] := by intro hc; have := congrArg List.length hc; simp at this; omega
  have happ : S1.appZ ⟨some (o,0),i,some cap⟩ ((rows.length + new.length - i : Nat) : Int) zr z = some (⟨some (S1.next,0),rows.length + new.length,none⟩,S1.new (.cells z (rows.take i ++ List.replicate (rows.length + new.length - i) zr) true)) := by
   simp only [HS.appZ,Int.toNat_natCast]
   rw [if_pos (by omega)]
   simp only [HS.app,if_neg hzne,List.length_replicate,hS,if_true]
   rw [if_pos (by omega),if_neg (by omega),List.drop_zero,htk,show i + (rows.length + new.length - i) = rows.length + new.length by omega]
  simp only [c8,Option.bind_some,hw3,happ]
  have hN : (S1.new (.cells z (rows.take i ++ List.replicate (rows.length + new.length - i) zr) true)).heap S1.next = .cells z (rows.take i ++ List.replicate (rows.length + new.length - i) zr) true := new_here _ _
  have hlN : (rows.take i ++ List.replicate (rows.length + new.length - i) zr).length = rows.length + new.length := by simp; omega
  have c10 := cut_len (off := 0) (len := rows.length + new.length) (c := none) hN (l := i) (q := rows.length + new.length) (by omega) (Nat.le_refl _)
  have r11 : (S1.new (.cells z (rows.take i ++ List.replicate (rows.length + new.length - i) zr) true)).rows ⟨some (j,joff),m,vc⟩ z = some new := rows_same hnew fun q hq => by cases hq; exact new_old _ hj
  have htn : List.take (rows.length + new.length - i) new = new := List.take_of_length_le (by omega)
  have o12 := over_at (off := 0 + i) (len := rows.length + new.length - i) (c := (none : Option Nat).map (· - i)) (new := new) hN hm (by omega) (by omega)
  simp only [c10,r11,Option.bind_some,htn,o12]
  have e12 : splice (rows.take i ++ List.replicate (rows.length + new.length - i) zr) (0 + i) new = rows.take i ++ new ++ List.replicate (rows.length - i) zr := by
   rw [Nat.zero_add,splice_at (by simp; omega),List.drop_replicate,show rows.length + new.length - i - new.length = rows.length - i by omega]
  simp only [e12]
  have h12 : ((S1.new (.cells z (rows.take i ++ List.replicate (rows.length + new.length - i) zr) true)).put S1.next (.cells z (rows.take i ++ new ++ List.replicate (rows.length - i) zr) true)).heap S1.next = .cells z (rows.take i ++ new ++ List.replicate (rows.length - i) zr) true := put_here _ _ _
  have h12o : ((S1.new (.cells z (rows.take i ++ List.replicate (rows.length + new.length - i) zr) true)).put S1.next (.cells z (rows.take i ++ new ++ List.replicate (rows.length - i) zr) true)).heap o = .cells z all true := by rw [put_other _ (by omega),new_old _ ho]; exact hS
  have hl12 : (rows.take i ++ new ++ List.replicate (rows.length - i) zr).length = rows.length + new.length := by simp; omega
  have c13 := cut_len (off := 0) (len := rows.length + new.length) (c := none) h12 (l := i + new.length) (q := rows.length + new.length) (by omega) (Nat.le_refl _)
  have c14 := cut_len (off := 0) (len := rows.length) (c := some cap) h12o (l := i) (q := rows.length) hi (Nat.le_refl _)
  have r15 := rows_at (off := 0 + i) (len := rows.length - i) (c := (some cap).map (· - i)) h12o (by omega)
  rw [Nat.zero_add,hdr] at r15
  have htt : List.take (rows.length + new.length - (i + new.length)) (rows.drop i) = rows.drop i := List.take_of_length_le (by simp; omega)
  have o16 := over_at (off := 0 + (i + new.length)) (len := rows.length + new.length - (i + new.length)) (c := (none : Option Nat).map (· - (i + new.length))) (new := rows.drop i) h12 hdne (by simp; omega) (by simp; omega)
  simp only [c13,c14,Nat.zero_add,r15,Option.bind_some,htt] at o16 ⊢
  rw [o16,Option.bind_some]
  refine ⟨_,rfl,.inl ⟨rfl,rfl,?_,fun k hk => ?_⟩⟩
  ·have hz0 : List.drop (rows.drop i).length (List.replicate (rows.length - i) zr) = [] := List.drop_of_length_le (by rw [List.length_replicate,List.length_drop]; exact Nat.le_refl _)
   rw [put_here,splice_at (by simp; omega),hz0,List.append_nil]
  ·rw [put_other _ hk,put_other _ hk]; simp [HS.new,HS.newM,hk]
section
variable {P : Program} {base : Nat} {W0 : Env} {β0 : Bt} {fid : FuncId} {S : HS}
theorem ins_snd {rot : Sl → Int → HS → Option (Unit × HS)} {z : Nat} {zr : List HV} {x0 x2 : Sl} {x1 : Int} {q : Sl × HS}
  (hsnd : ∀ (x0 : Sl) (S : HS) (p : Sl × HS),insF rot z zr x0 x1 x2 S = some p → HCall P base W0 β0 fid [x0.hv,.int .i64 x1,x2.hv] S (fun v S1 => v = p.1.hv ∧ S1 = p.2))
  (h : S.ins x0 x1 x2 z = some q) : HCall P base W0 β0 fid [x0.hv,.int .i64 x1,x2.hv] S (fun v S1 => v = q.1.hv ∧ S1 = q.2) := by
 unfold HS.ins at h
 cases hnew : S.rows x2 z with
 | none => rw [hnew] at h; cases h
 | some new =>
  rw [hnew,Option.bind_some] at h
  split at h
  ·cases h
  rename_i hc0
  have hm : new ≠ [] := fun e => hc0 (.inl e)
  have hb : x0.len + new.length ≤ 2147483648 := Classical.not_not.1 fun e => hc0 (.inr e)
  have hml := rows_len hnew
  have hm0 : 0 < new.length := List.length_pos_iff.2 hm
  obtain ⟨xa,xl,xc⟩ := x0
  cases xa with
  | none =>
   simp only at h
   split at h
   ·rename_i hc
    cases h
    obtain ⟨rfl,rfl⟩ := hc
    refine hsnd _ _ _ ?_
    unfold insF
    have hc : S.cut ⟨none,0,xc⟩ 0 ((0 : Nat) : Int) z = some ⟨none,0,xc⟩ := by simp [HS.cut]
    simp only [hc,Option.bind_some]
    rw [if_neg (by omega),if_pos (by rfl),hnew,Option.bind_some]
    simp only [HS.app,if_neg hm,if_true,Nat.zero_add]
    rw [if_pos (by simpa using hb),Option.bind_some]
   ·cases h
  | some pa =>
   obtain ⟨id,off⟩ := pa
   simp only at h
   split at h
   case h_2 => cases h
   rename_i z' rows j joff hS hva
   split at h
   case isFalse => cases h
   rename_i hc
   cases h
   obtain ⟨rfl,rfl,h3,h4,h5,h6,h7,h8,h9,h10⟩ := hc
   subst h3 h4
   obtain ⟨i,rfl⟩ : ∃ i : Nat,x1 = (i : Int) := ⟨x1.toNat,by omega⟩
   obtain ⟨va,vl,vc⟩ := x2
   simp only at hva hml
   subst hva
   intro β w args' g1 g2 g3 cs
   obtain ⟨xv,hx0,hx1⟩ := g3.get (i := 0) rfl
   obtain ⟨cap,β1,k1,k2,k3,k4⟩ := g2.openCap hS hx1
   have hidlt : id < S.next := by
    rcases Nat.lt_or_ge id S.next with e | e
    ·exact e
    ·have := (g2.fresh id e).2; rw [hS] at this; cases this
   have hS1 : ((S.put id .dead).newM (.cells z' (rows ++ List.replicate (cap - rows.length) (List.replicate z' .junk)) true) (S.mrk id)).heap S.next = .cells z' (rows ++ List.replicate (cap - rows.length) (List.replicate z' .junk)) true := new_hereM _ _ _
   have hn1 : ((S.put id .dead).newM (.cells z' (rows ++ List.replicate (cap - rows.length) (List.replicate z' .junk)) true) (S.mrk id)).next = S.next + 1 := rfl
   have hold : ∀ k,k ≠ S.next → k ≠ id → ((S.put id .dead).newM (.cells z' (rows ++ List.replicate (cap - rows.length) (List.replicate z' .junk)) true) (S.mrk id)).heap k = S.heap k := fun k e1 e2 => by simp [HS.newM,HS.put,e1,e2]
   have hdead : ((S.put id .dead).newM (.cells z' (rows ++ List.replicate (cap - rows.length) (List.replicate z' .junk)) true) (S.mrk id)).heap id = .dead := by simp [HS.newM,HS.put]; omega
   have hmk1 : ((S.put id .dead).newM (.cells z' (rows ++ List.replicate (cap - rows.length) (List.replicate z' .junk)) true) (S.mrk id)).mrk j ≠ 1 := by
    have : j ≠ S.next := by omega
    simp [HS.newM,HS.put,this]; exact h9
   generalize (S.put id .dead).newM (.cells z' (rows ++ List.replicate (cap - rows.length) (List.replicate z' .junk)) true) (S.mrk id) = S1 at k4 hS1 hn1 hold hdead hmk1
   have hjn : j ≠ S.next := by omega
   obtain ⟨p,e1,e2⟩ := ins_plain (rot := rot) (z := z') (zr := zr) (S1 := S1) (o := S.next) (cap := cap) (j := j) (joff := joff) (m := vl) (rows := rows) (new := new) (vc := vc) (i := i) (by omega) (by omega) hjn hS1 (by simp; omega) (by simp) k1 (by rw [hold j hjn h7]; exact h10) hmk1 (rows_same hnew fun q hq => by cases hq; exact hold j hjn h7) hm (by omega) hb
   have g3' : VRels β1 [(⟨some (S.next,0),rows.length,some cap⟩ : Sl).hv,.int .i64 i,(⟨some (j,joff),vl,vc⟩ : Sl).hv] args' := by
    refine ⟨g3.1,fun n v v' q1 q2 => ?_⟩
    cases n with
    | zero =>
     simp only [List.getElem?_cons_zero,Option.some.injEq] at q1
     rw [hx0] at q2
     cases q2
     rw [← q1]; exact k3
    | succ n => exact (g3.2 (n + 1) v v' (by simpa using q1) q2).mono k2
   obtain ⟨β2,v,S2,v',w2,fr,m1,⟨m2,m3⟩,m4,m5,m6,m7,m8⟩ := hsnd _ _ _ e1 β1 w args' (g1.trans k2) k4 g3' cs
   subst m2 m3
   have hswap : ∀ k,(S.swap id (.cells z' (rows.take i ++ new ++ rows.drop i) true)).heap k = if k = S.next + 1 then .cells z' (rows.take i ++ new ++ rows.drop i) true else if k = S.next ∨ k = id then .dead else S.heap k := fun k => rfl
   rcases e2 with ⟨t1,t2,t3,t4⟩ | ⟨t1,t2,⟨all,t3,t5,t6,t7⟩,t4⟩
   ·have hR := (m5.kill S.next).as (S' := S.swap id (.cells z' (rows.take i ++ new ++ rows.drop i) true)) (fun k => by
     rw [hswap]
     by_cases a1 : k = S.next
     ·subst a1; rw [if_neg (by omega),if_pos (.inl rfl),put_here]
     ·rw [put_other _ a1]
      by_cases a2 : k = S.next + 1
      ·subst a2; rw [if_pos rfl,← hn1,t3]
      ·rw [if_neg a2,t4 k (by omega)]
       by_cases a3 : k = id
       ·subst a3; rw [if_pos (.inr rfl),hdead]
       ·rw [if_neg (by omega),hold k a1 a3]) (by show S.next + 2 = p.2.next; omega) (fun _ => rfl)
    refine ⟨β2,_,_,v',w2,fr,k2.trans m1,⟨rfl,rfl⟩,?_,hR,m6,m7,m8⟩
    rw [t1,hn1] at m4
    exact m4
   ·rw [t1] at m4
    obtain ⟨β3,n1,n2,n3⟩ := m5.closeCap (len := rows.length + new.length) t3 (by omega) m4
    rw [t6] at n3
    have hn2 : p.2.next = S.next + 1 := by omega
    have hR := n3.as (S' := S.swap id (.cells z' (rows.take i ++ new ++ rows.drop i) true)) (fun k => by
     rw [hswap]
     show _ = if k = p.2.next then _ else if k = S.next then HObj.dead else p.2.heap k
     rw [hn2]
     by_cases a2 : k = S.next + 1
     ·rw [if_pos a2,if_pos a2]
     ·rw [if_neg a2,if_neg a2]
      by_cases a1 : k = S.next
      ·rw [if_pos (.inl a1),if_pos a1]
      ·rw [if_neg a1,t4 k a1]
       by_cases a3 : k = id
       ·subst a3; rw [if_pos (.inr rfl),hdead]
       ·rw [if_neg (by omega),hold k a1 a3]) (by show S.next + 2 = p.2.next + 1; omega) (fun _ => rfl)
    refine ⟨β3,_,_,v',w2,fr,(k2.trans m1).trans n1,⟨rfl,rfl⟩,?_,hR,m6,m7,m8⟩
    rw [hn2] at n2
    exact n2
end
def delF (z : Nat) (zr : List HV) (x0 : Sl) (x1 : Int) (x2 : Int) (S : HS) : Option (Sl × HS) :=
 (Option.bind (HS.cut3 S x0 x1 x2 (Sl.len x0 : Int) z) fun p1 =>
 (if x1 = x2 then
 some (x0,S) else
 (Option.bind (HS.cut S x0 0 x1 z) fun p3 =>
 (Option.bind (HS.cut S x0 x2 (Sl.len x0 : Int) z) fun p4 =>
 (Option.bind (HS.rows S p4 z) fun p5 =>
 (Option.bind (HS.app S p3 p5 z) fun p6 =>
 (Option.bind (HS.cut (p6.2) (p6.1) (Sl.len (p6.1) : Int) (Sl.len x0 : Int) z) fun p7 =>
 (Option.bind (HS.over (p6.2) p7 (List.replicate (Sl.len p7) zr) z) fun p8 =>
 some ((p6.1),p8)))))))))
theorem del_plain {z : Nat} {zr : List HV} {S : HS} {id : Nat} {rows : List (List HV)} {i j : Nat} (hS : S.heap id = .cells z rows true) (hij : i < j) (hj : j ≤ rows.length) (hb : rows.length ≤ 2147483648) :
  ∃ all S',delF z zr ⟨some (id,0),rows.length,none⟩ (i : Int) (j : Int) S = some (⟨some (id,0),i + (rows.length - j),none⟩,S') ∧ S'.next = S.next ∧ S'.heap id = .cells z all true ∧ all.length = rows.length ∧ all.take (i + (rows.length - j)) = rows.take i ++ rows.drop j ∧ ∀ k,k ≠ id → S'.heap k = S.heap k := by
 have h3 : S.cut3 ⟨some (id,0),rows.length,none⟩ (i : Int) (j : Int) (rows.length : Int) z = some ⟨some (id,0 + i),j - i,some (rows.length - i)⟩ := by
  have h1 : (0 : Int) ≤ (i : Int) ∧ (i : Int) ≤ (j : Int) ∧ (j : Int) ≤ (rows.length : Int) := ⟨by omega,by omega,by omega⟩
  simp only [HS.cut3,if_pos h1,hS,Int.toNat_natCast]
  rw [if_pos ⟨trivial,.inl (Int.le_refl _)⟩]
 have c3 : S.cut ⟨some (id,0),rows.length,none⟩ 0 (i : Int) z = some ⟨some (id,0),i,none⟩ := by
  have := cut_len (off := 0) (len := rows.length) (c := none) hS (Nat.zero_le i) (show i ≤ rows.length by omega)
  simpa using this
 have c4 := cut_len (off := 0) (len := rows.length) (c := none) hS (l := j) (q := rows.length) hj (Nat.le_refl _)
 have r5 := rows_at (off := 0 + j) (len := rows.length - j) (c := (none : Option Nat).map (· - j)) hS (by omega)
 have e5 : (rows.drop (0 + j)).take (rows.length - j) = rows.drop j := by rw [Nat.zero_add]; exact List.take_of_length_le (by simp)
 rw [e5] at r5
 unfold delF
 simp only [h3,Option.bind_some]
 rw [if_neg (by omega)]
 simp only [c3,c4,r5,Option.bind_some]
 obtain ⟨R5,S5,g1,g2,g3,g4,g5,g6⟩ : ∃ R5 S5,S.app ⟨some (id,0),i,none⟩ (rows.drop j) z = some (⟨some (id,0),i + (rows.length - j),none⟩,S5) ∧ S5.next = S.next ∧ S5.heap id = .cells z R5 true ∧ R5.length = rows.length ∧ R5.take (i + (rows.length - j)) = rows.take i ++ rows.drop j ∧ ∀ k,k ≠ id → S5.heap k = S.heap k := by
  by_cases hje : rows.drop j = []
  ·have hjn : rows.length - j = 0 := by have := congrArg List.length hje; simp at this; omega
   refine ⟨rows,S,?_,rfl,hS,rfl,?_,fun _ _ => rfl⟩
   ·rw [HS.app,if_pos hje,hjn]; rfl
   ·rw [hje,List.append_nil,hjn,Nat.add_zero]
  ·have hl : (rows.drop j).length = rows.length - j := by simp
   refine ⟨splice rows (0 + i) (rows.drop j),S.put id (.cells z (splice rows (0 + i) (rows.drop j)) true),?_,rfl,put_here _ _ _,?_,?_,fun k hk => put_other _ hk⟩
   ·simp only [HS.app,if_neg hje,hl]
    rw [if_pos (by omega)]
    simp only [hS,if_true]
    rw [if_pos (by omega)]
   ·simp [splice]; omega
   ·rw [Nat.zero_add]
    unfold splice
    rw [List.take_left' (by simp; omega)]
 simp only [g1,Option.bind_some]
 have c7 : S5.cut ⟨some (id,0),i + (rows.length - j),none⟩ ((i + (rows.length - j) : Nat) : Int) (rows.length : Int) z = some ⟨some (id,0 + (i + (rows.length - j))),rows.length - (i + (rows.length - j)),none⟩ := by
  have h1 : (0 : Int) ≤ ((i + (rows.length - j) : Nat) : Int) ∧ ((i + (rows.length - j) : Nat) : Int) ≤ (rows.length : Int) := ⟨by omega,by omega⟩
  simp only [HS.cut,if_pos h1,g3,Int.toNat_natCast]
  rw [if_pos ⟨trivial,.inr (.inl ⟨trivial,by omega⟩)⟩]
  rfl
 have hzne : List.replicate (rows.length - (i + (rows.length - j))) zr ≠ [] := by intro hc; have := congrArg List.length hc; simp at this; omega
 have o8 := over_at (off := 0 + (i + (rows.length - j))) (len := rows.length - (i + (rows.length - j))) (c := none) (new := List.replicate (rows.length - (i + (rows.length - j))) zr) g3 hzne (by simp) (by simp; omega)
 simp only [c7,Option.bind_some,o8]
 refine ⟨_,_,rfl,g2,put_here _ _ _,?_,?_,fun k hk => (put_other _ hk).trans (g6 k hk)⟩
 ·simp [splice]; omega
 ·rw [Nat.zero_add]
  unfold splice
  rw [List.append_assoc,List.take_left' (by simp; omega),g5]
section
variable {P : Program} {base : Nat} {W0 : Env} {β0 : Bt} {fid : FuncId} {S : HS}
theorem del_snd {z : Nat} {zr : List HV} {x0 : Sl} {x1 x2 : Int} {q : Sl × HS}
  (hsnd : ∀ (x0 : Sl) (S : HS) (p : Sl × HS),delF z zr x0 x1 x2 S = some p → HCall P base W0 β0 fid [x0.hv,.int .i64 x1,.int .i64 x2] S (fun v S1 => v = p.1.hv ∧ S1 = p.2))
  (h : S.del x0 x1 x2 z = some q) : HCall P base W0 β0 fid [x0.hv,.int .i64 x1,.int .i64 x2] S (fun v S1 => v = q.1.hv ∧ S1 = q.2) := by
 unfold HS.del at h
 obtain ⟨xa,xl,xc⟩ := x0
 cases xa with
 | none => cases h
 | some pa =>
  obtain ⟨id,off⟩ := pa
  simp only at h
  split at h
  case h_2 => cases h
  rename_i z' rows hS
  split at h
  case isFalse => cases h
  rename_i hc
  cases h
  obtain ⟨rfl,rfl,h3,h4,h5,h6,h7,h8⟩ := hc
  subst h3 h4
  obtain ⟨i,rfl⟩ : ∃ i : Nat,x1 = (i : Int) := ⟨x1.toNat,by omega⟩
  obtain ⟨j,rfl⟩ : ∃ j : Nat,x2 = (j : Int) := ⟨x2.toNat,by omega⟩
  obtain ⟨all,S2,e1,t1,t2,t3,t4,t5⟩ := del_plain (z := z') (zr := zr) (i := i) (j := j) hS (by omega) (by omega) (by omega)
  intro β w args' g1 g2 g3 cs
  obtain ⟨β2,v,S3,v',w2,fr,m1,⟨m2,m3⟩,m4,m5,m6,m7,m8⟩ := hsnd _ _ _ e1 β w args' g1 g2 g3 cs
  subst m2
  have m3' : S3 = S2 := m3
  subst m3'
  obtain ⟨β3,n1,n2,n3⟩ := m5.closeCap (len := i + (rows.length - j)) t2 (by omega) m4
  have hR := n3.as (S' := { (S.put id .dead).new (.cells z' (rows.take i ++ rows.drop j) true) with mrk := fun _ => 1 }) (fun k => by
   show (if k = S.next then HObj.cells z' (rows.take i ++ rows.drop j) true else if k = id then HObj.dead else S.heap k) = if k = S3.next then HObj.cells z' (all.take (i + (rows.length - j))) true else if k = id then HObj.dead else S3.heap k
   rw [t1,t4]
   by_cases a1 : k = S.next
   ·rw [if_pos a1,if_pos a1]
   ·rw [if_neg a1,if_neg a1]
    by_cases a2 : k = id
    ·rw [if_pos a2,if_pos a2]
    ·rw [if_neg a2,if_neg a2,t5 k a2]) (by show S.next + 1 = S3.next + 1; rw [t1]) (fun _ => rfl)
  simp only [Int.toNat_natCast]
  refine ⟨β3,_,_,v',w2,fr,m1.trans n1,⟨rfl,rfl⟩,?_,hR,m6,m7,m8⟩
  rw [t1] at n2
  exact n2
end
end Go.Proofs.YtfningkbcfhheaaGreatDoor.HL
