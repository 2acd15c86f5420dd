/- The layer HL, part 22: capacities, clear, appended zeros, slices that overlap. -/
import Derived.Test.YtcphapfclncggaaDoorHLu
import Derived.Test.YtcphapfclncggaaDoorHLs
import Derived.Lib.Overlaps
set_option linter.unusedVariables false
set_option linter.unusedSimpArgs false
namespace Go.Proofs.YtcphapfclncggaaDoor.HL
open Go.RowKit (Below)

instance instDecHA : DecidableEq HA := fun ⟨a, b, c⟩ ⟨d, e, f⟩ => decidable_of_iff (a = d ∧ b = e ∧ c = f) (by simp)
instance instDecSl : DecidableEq Sl := fun ⟨a, b, c⟩ ⟨d, e, f⟩ => decidable_of_iff (a = d ∧ b = e ∧ c = f) (by simp)
/-- The capacity, where it is known. -/
def Sl.capOf (s : Sl) : Option Int := match s.a with | none => some 0 | some _ => s.cap.map fun (q : Nat) => (q : Int)
/-- append(s, make(.., n)...), n above 0 -/
def HS.appZ (S : HS) (s : Sl) (n : Int) (zr : List HV) (z : Nat) : Option (Sl × HS) := if 0 < n then S.app s (List.replicate n.toNat zr) z else none
/-- Do two slices share elements? -/
def HS.ovl (S : HS) (s t : Sl) : Option Bool :=
  match s.a, t.a with
  | some (i, _), some (j, _) =>
    if s.len = 0 ∨ t.len = 0 then some false
    else if i = j then none
    else match S.heap i, S.heap j with
      | .cells _ _ true, .cells _ (_ :: _) _ => if S.mrk i ≠ 1 then some false else none
      | _, _ => none
  | _, _ => some false

section
variable {P : Program} {base : Nat} {W0 : World} {a : HAct} {S : HS} {o : Oper}

theorem ok_cap {x : Operand} {tys : Array TypeId} {t e : TypeId} {s : Sl} {n : Int} (ho : o.op = .call ⟨.builtin .cap, #[x], tys⟩) (h0 : tys[0]? = some t) (ht : P.underlying t = some (.slice e)) (hx : Ev a x s.hv) (hv : s.capOf = some n) : OpOk P base W0 o a S (.int .i64 n) S := by
  refine .pure (by rw [ho]; simp) fun β w a' _ h2 => ?_
  have hr := hx.rel h2
  obtain ⟨sa, len, c⟩ := s
  simp only [Sl.hv] at hr
  simp only [Sl.capOf] at hv
  generalize hxv : a'.eval x = xv at hr
  have key : ∀ (y : Option Addr) (l cap : Nat), xv = .slice y l cap → (cap : Int) = n → ∃ v', (execOp a'.eval o).run P w = .ok (.value v') w ∧ VRel β (.int .i64 n) v' := by
    intro y l cap e1 e2
    subst e1 e2
    exact ⟨_, by simp [execOp, ho, resolve, invoke, builtin, Builtin.cap_, hxv, h0, underlying, ht, goInt], .int _ _⟩
  cases hr with
  | slNil => simp only [Option.some.injEq] at hv; exact key _ _ _ rfl hv
  | sl h h1 h2 h3 h4 h5 =>
    cases c with
    | none => cases hv
    | some q =>
      simp only [Option.map_some, Option.some.injEq] at hv
      exact key _ _ _ rfl (by rw [(h4 q rfl).1]; exact hv)
  | slEnd h h2 h3 h4 =>
    cases c with
    | none => cases hv
    | some q =>
      simp only [Option.map_some, Option.some.injEq] at hv
      exact key _ _ _ rfl (by rw [← hv, h4 q rfl])

/-- s[l:h:m] -/
theorem ok_slice3 {t e z by_ : Nat} {x ym : Operand} {lo hi : Option Operand} {s s' : Sl} {l h m : Int} {kl kh km : IntKind} (ho : o.op = .slice t x lo hi (some ym)) (ht : P.underlying t = some (.slice e)) (hz : SizeIs P e z by_) (hx : Ev a x s.hv)
    (hlo : (lo = none ∧ l = 0) ∨ ∃ y, lo = some y ∧ Ev a y (.int kl l)) (hhi : False ∨ ∃ y, hi = some y ∧ Ev a y (.int kh h)) (hm : Ev a ym (.int km m)) (hv : S.cut3 s l h m z = some s') : OpOk P base W0 o a S s'.hv S := by
  refine .pure (by rw [ho]; simp) fun β w a' h1 h2 => ?_
  obtain ⟨sa, len, c⟩ := s
  have hrx := hx.rel h2
  simp only [Sl.hv] at hrx
  generalize hxv : a'.eval x = xv at hrx
  unfold HS.cut3 at hv
  split at hv
  case isFalse => cases hv
  rename_i hlh
  have hbounds : ∀ (cap : Nat), m ≤ cap → (Instr.sliceBounds true len cap (lo.map a'.eval) (hi.map a'.eval) (some (a'.eval ym))).run P w = .ok (l.toNat, h.toNat, m.toNat) w := by
    intro cap hc
    have h0 : 0 ≤ h := by omega
    have m0 : 0 ≤ m := by omega
    have e1 : ((h.toNat : Nat) : Int) = h := by omega
    have e2 : ((m.toNat : Nat) : Int) = m := by omega
    rcases hhi with hf | ⟨u, rfl, hu⟩
    · exact hf.elim
    rcases hlo with ⟨rfl, rfl⟩ | ⟨y, rfl, hy⟩
    · simp [Instr.sliceBounds, Instr.sliceBound, asIntOf, hu.at_int h2, hm.at_int h2, h0, m0, hc, e2, hlh.2.2]
    · simp [Instr.sliceBounds, Instr.sliceBound, asIntOf, hu.at_int h2, hm.at_int h2, hy.at_int h2, h0, m0, hc, e1, e2, hlh.1, hlh.2.1, hlh.2.2]
  have hfin : ∀ (y : Option Addr) (cap : Nat), xv = .slice y len cap → m ≤ cap → (execOp a'.eval o).run P w = .ok (.value (.slice (if m.toNat = l.toNat then y else y.map (·.add (l.toNat * z))) (h.toNat - l.toNat) (m.toNat - l.toNat))) w := by
    intro y cap hy hc
    have := slice_core (w := w) (x := y) ht hz (hbounds cap hc)
    simp [execOp, ho, hxv, hy, this]
  cases sa with
  | none =>
    simp only at hv
    split at hv
    · rename_i hh
      cases hv
      cases hrx with
      | slNil =>
        obtain rfl : l = 0 := by omega
        obtain rfl : h = 0 := by omega
        subst hh
        exact ⟨_, hfin none 0 rfl (by omega), by simpa [Sl.hv] using VRel.slNil (some 0)⟩
    · cases hv
  | some p =>
    obtain ⟨id, off⟩ := p
    simp only at hv
    split at hv
    · rename_i z' rows own hS
      split at hv
      · rename_i hcond
        cases hv
        obtain ⟨rfl, hcond⟩ := hcond
        obtain ⟨b, o1, tot, arr, ty, fr, q1, q2, q3, q4, q5, q6⟩ := h1.live hS
        simp only [Sl.hv]
        cases hrx with
        | @sl _ b1 _ z2 n2 tot2 _ _ cap _ hb e1 e2 e3 e4 e5 =>
          rw [hb] at q1
          cases q1
          have hcap : m ≤ cap ∧ off + m.toNat ≤ rows.length := by
            rcases hcond with hc | ⟨hc1, hc2⟩ | ⟨q, hc1, hc2⟩
            · exact ⟨by omega, by omega⟩
            · have := e3 hc1; exact ⟨by omega, hc2⟩
            · have := e4 q hc1; exact ⟨by omega, by omega⟩
          refine ⟨_, hfin _ cap rfl hcap.1, ?_⟩
          by_cases hml : m.toNat = l.toNat
          · rw [if_pos hml]
            have e0 : h.toNat - l.toNat = 0 := by omega
            have e00 : m.toNat - l.toNat = 0 := by omega
            rw [e0, e00]
            exact .slEnd hb (by omega) (fun hc => by cases hc) (fun q hq => by cases hq; rfl)
          · rw [if_neg hml]
            simp only [Option.map_some, add_none]
            have e9 : o1 + off * z' + l.toNat * z' = o1 + (off + l.toNat) * z' := by rw [Nat.add_mul]; omega
            rw [e9]
            refine .sl hb (by omega) (by omega) (fun hc => by cases hc) (fun q hq => by cases hq; exact ⟨rfl, by omega⟩) ?_
            have : off + l.toNat + (m.toNat - l.toNat) ≤ off + cap := by omega
            have := Nat.mul_le_mul_right z' this
            omega
        | @slEnd _ b1 o2 z2 n2 tot2 _ _ ad hb e2 e3 e4 =>
          rw [hb] at q1
          cases q1
          have h0 : m = 0 := by
            rcases hcond with hc | ⟨hc1, hc2⟩ | ⟨q, hc1, hc2⟩
            · simp at hc; omega
            · have := e3 hc1; omega
            · have := e4 q hc1; omega
          obtain rfl : l = 0 := by omega
          obtain rfl : h = 0 := by omega
          subst h0
          refine ⟨_, hfin _ 0 rfl (by omega), ?_⟩
          simp only [Int.toNat_zero, Nat.add_zero, Nat.sub_zero, if_true]
          exact .slEnd hb e2 (fun hc => by cases hc) (fun q hq => by cases hq; rfl)
      · cases hv
    · cases hv

/-- clear(s) -/
theorem ok_clear {t e z : Nat} {zr : List HV} (he : ElemAt P t e z zr) {x : Operand} {tys : Array TypeId} (ho : o.op = .call ⟨.builtin .clear, #[x], tys⟩) (h0 : tys[0]? = some t)
    {s : Sl} {S' : HS} (hx : Ev a x s.hv) (hv : S.over s (List.replicate s.len zr) z = some S') : OpOk P base W0 o a S (.tup []) S' := by
  refine ⟨by rw [ho]; simp, fun β w a' h h2 => ?_⟩
  have hxr := hx.rel h2
  generalize hxv : a'.eval x = xv at hxr
  obtain ⟨q, zv, q1, q2, q3, q4, q5⟩ := he.info
  have hzp := he.pos
  have hzs : zv.cells.size = z := by rw [← (q5 (fun _ => .none)).1]; exact he.pos.1
  obtain ⟨sa, len, c⟩ := s
  simp only [Sl.hv] at hxr
  unfold HS.over at hv
  split at hv
  · rename_i hnil
    cases hv
    have hl0 : len = 0 := by simpa using hnil
    subst hl0
    refine ⟨β, w, _, .refl β, .inl ?_, VRel.undef β, h⟩
    cases hxr <;> simp [execOp, ho, resolve, invoke, builtin, Builtin.clear_, hxv, h0, underlying, he.slice, undef]
  · rename_i hnn
    have hlp : 0 < len := by
      cases len with
      | zero => exact absurd rfl hnn
      | succ n => omega
    cases sa with
    | none => cases hv
    | some p =>
      obtain ⟨id, off⟩ := p
      simp only at hv
      split at hv
      case h_2 => cases hv
      rename_i z' rows hS
      split at hv
      case isFalse => cases hv
      rename_i hc
      cases hv
      obtain ⟨hzz, hc1, hc2⟩ := hc
      subst z'
      rw [List.length_replicate] at hc1 hc2
      obtain ⟨b, o1, tot, arr, ty1, fr, g1, g2, g3, g4, g5, g6, g7, g8, g9, _⟩ := h.owned hS
      have zrel := zeros_rel (q5 β) (by omega) he.flat len
      have zsz : ((Array.range (len * zv.cells.size)).map fun i => zv.cells[i % zv.cells.size]!).size = (List.replicate len zr).length * z := by simp [hzs]
      have zone := zrel.flatMem (by omega) (by rw [zsz, hzp.1]) rfl
      cases hxr with
      | sl hb e1 e2 e3 e4 e5 =>
        rw [g1] at hb
        cases hb
        have hm : (off + len) * z ≤ rows.length * z := Nat.mul_le_mul_right z hc2
        rw [Nat.add_mul] at hm
        have hst := run_storeCells (P := P) (b := b) (o := o1 + off * z) (t := ty1) (fr := fr) ((Array.range (len * zv.cells.size)).map fun i => zv.cells[i % zv.cells.size]!).toList 0 w arr g2 (by rw [Array.length_toList, zsz, List.length_replicate]; omega) zone (by rw [g3]; exact g8)
        simp only [Nat.add_zero] at hst
        have hl0 : len ≠ 0 := by omega
        refine ⟨β, _, _, .refl β, .inl ?_, VRel.undef β, h.setRow hS g1 g2 (arr' := over arr (o1 + off * z) ((Array.range (len * zv.cells.size)).map fun i => zv.cells[i % zv.cells.size]!).toList) (by simp [over_size]) (by simp [splice]; omega) (g6.splice (by rw [hzp.1] at zrel; exact zrel) zsz (by rw [List.length_replicate]; exact hc2) (by rw [g3]; exact g4)) (over_mem _ _ _ g9 zone)⟩
        cases len with
        | zero => exact absurd rfl hl0
        | succ n =>
          simp only [Array.toList_map, Array.toList_range] at hst
          simp [execOp, ho, resolve, invoke, builtin, Builtin.clear_, hxv, h0, underlying, he.slice, zeroValue, typeInfo, q1, q4, Builtin.zeroCells, undef, hst]
      | slEnd hb e2 e3 e4 => omega

/-- append(s, make(.., n)...): so many zeros. -/
theorem appends_zeros {t e z : Nat} {zr : List HV} (he : ElemAt P t e z zr) {tys : Array TypeId} {u : TypeId} (h0 : tys[0]? = some t) (h1 : tys[1]? = some u) {ik : IntKind} (hu : P.underlying u = some (.int ik)) {n : Nat} (hn0 : 0 < n) (hn : n ≤ 2147483648) {ty : TypeId} {w : World} :
    ∃ zv : Value, (∀ β, VRels β zr zv.cells) ∧ Appends P w e z tys ty (.int .i64 n) n (Builtin.zeroCells zv.cells n) := by
  obtain ⟨q, zv, q1, q2, q3, q4, q5⟩ := he.info
  have hzp := he.pos
  have hzs : zv.cells.size = z := by rw [← (q5 (fun _ => .none)).1]; exact he.pos.1
  have hw : IntKind.i64.wrap (n : Int) = (n : Int) := w64_id (by omega) (by omega)
  have hmul : (n : Int) * (q.bytes : Int) ≤ 2147483648 * 4096 := by
    have : n * q.bytes ≤ 2147483648 * 4096 := Nat.mul_le_mul hn q3
    have h2 : ((n * q.bytes : Nat) : Int) ≤ ((2147483648 * 4096 : Nat) : Int) := Int.ofNat_le.2 this
    simpa using h2
  have hb1 : ¬ ((n : Int) < 0) := by omega
  have hb2 : ¬ ((281474976710656 : Int) < (n : Int) * (q.bytes : Int)) := by omega
  have hnz : ¬ (n = 0) := by omega
  have hzz : ¬ (n * z = 0) := Nat.mul_ne_zero (by omega) (by omega)
  refine ⟨zv, q5, ⟨fun x len cap hle => ?_, fun x len cap arrO hold hlt hb => ?_⟩⟩
  · cases x <;> simp [Builtin.append_, h0, h1, hu, underlying, he.slice, Go.sizeOf, typeInfo, q1, q2, q4, asInt, asIntOf, hw, hb1, hb2, hle, hnz, hzz, zeroValue]
  · have hns := nextslicecap_le (len + n) cap hlt
    have hnum : Builtin.nextslicecap (len + n) cap * q.bytes ≤ 4294969296 * 4096 := Nat.mul_le_mul (by omega) q3
    have hmax : IntKind.i64.max = 9223372036854775807 := by decide
    refine ⟨(Question.appendCap (len + n) cap e).cut (w.tape w.drawn (.appendCap (len + n) cap e)), Builtin.zeroCells zv.cells ((Question.appendCap (len + n) cap e).cut (w.tape w.drawn (.appendCap (len + n) cap e)) - (len + n)), ?_, ?_, he.zero_one q1 q4 _, ?_⟩
    · simp only [Question.cut]; omega
    · simp [Builtin.zeroCells, hzs]
    · have n1 : ¬ len + n ≤ cap := by omega
      have hO : (Builtin.firstCells z len (.slice x len cap)).run P w.drew = .ok arrO w.drew := hold (w.drawn + 1)
      have n4 : ¬ (281474976710656 < Builtin.nextslicecap (len + n) cap * q.bytes) := by omega
      have n5 : ¬ (9223372036854775807 < (len : Int) + (n : Int)) := by omega
      simp [Builtin.append_, h0, h1, hu, underlying, he.slice, Go.sizeOf, typeInfo, q1, q2, q4, asInt, asIntOf, hw, hb1, hb2, n1, hnz, hzz, hmax, n5, n4, zeroValue, Question.forced, hO, newRow]
      rfl
theorem ok_append_zeros {t u e z : Nat} {zr : List HV} (he : ElemAt P t e z zr) {x y : Operand} {tys : Array TypeId} (ho : o.op = .call ⟨.builtin .append, #[x, y], tys⟩) (h0 : tys[0]? = some t) (h1 : tys[1]? = some u) {ik : IntKind} (hu : P.underlying u = some (.int ik))
    {s s' : Sl} {n : Int} {S' : HS} (hx : Ev a x s.hv) (hy : Ev a y (.int .i64 n)) (hv : S.appZ s n zr z = some (s', S')) : OpOk P base W0 o a S s'.hv S' := by
  refine ⟨by rw [ho]; simp, fun β w a' h h2 => ?_⟩
  have hxr := hx.rel h2
  generalize hxv : a'.eval x = xv at hxr
  unfold HS.appZ at hv
  split at hv
  case isFalse => cases hv
  rename_i hn0
  obtain ⟨m, rfl⟩ : ∃ m : Nat, n = (m : Int) := ⟨n.toNat, by omega⟩
  rw [Int.toNat_natCast] at hv
  have hm0 : 0 < m := by omega
  have hbnd : m ≤ 2147483648 := by
    unfold HS.app at hv
    rw [if_neg (by intro hc; have := congrArg List.length hc; simp at this; omega)] at hv
    split at hv
    · rename_i hb; simp at hb; omega
    · cases hv
  obtain ⟨zv, z1, z2⟩ := appends_zeros (ty := o.type) (w := w) he h0 h1 hu hm0 hbnd
  have hzp := he.pos
  have hzs : zv.cells.size = z := by rw [← (z1 (fun _ => .none)).1]; exact he.pos.1
  have hrel := zeros_rel (z1 β) (by omega) he.flat m
  rw [hzp.1] at hrel
  obtain ⟨β', w', v', k1, k2, k3, k4⟩ := h.app he o.type (tys := tys) hv hxr (src := .int .i64 m) (arrN := Builtin.zeroCells zv.cells m) (by rw [List.length_replicate]; exact z2) (by simp [Builtin.zeroCells, hzs]) hrel
  exact ⟨β', w', v', k1, .inl (by simp [execOp, ho, resolve, invoke, builtin, hxv, hy.at_int h2, k2]), k3, k4⟩

theorem ok_extR {f : FuncId} {e : Array Value → Sem Value} {xs : Array Operand} {tys : Array TypeId} {vs : List HV} {v : HV} (ho : o.op = .call ⟨.value (.func f), xs, tys⟩) (hf : ExtAt P f e) (hxs : Evs a xs vs)
    (hrun : ∀ (β : Bt) (w : World) (vs' : Array Value), Rel base W0 β S w → VRels β vs vs' → ∃ v', (e vs').run P w = .ok v' w ∧ VRel β v v') : OpOk P base W0 o a S v S := by
  refine ⟨by rw [ho]; simp, fun β w a' h1 h2 => ?_⟩
  obtain ⟨fn, q1, q2, q3, q4, q5⟩ := hf.is
  obtain ⟨v', g1, g2⟩ := hrun β w _ h1 (hxs.rel h2)
  refine ⟨β, w, v', Le.refl _, .inl ?_, g2, h1⟩
  have hc := run_callFunc_extern q1 q2 q3 q4 q5 (xs.map a'.eval) w
  rw [g1] at hc
  simp only [Result.andThen_ok] at hc
  simp only [execOp, ho, resolve, Act.eval, invoke, Sem.run_bind]
  simp [Deferred.ofValue, invoke, hc]

theorem ok_overlaps {f : FuncId} {x y : Operand} {tys : Array TypeId} {t tR e z by_ : Nat} {s1 s2 : Sl} {q : Bool} (ho : o.op = .call ⟨.value (.func f), #[x, y], tys⟩) (hf : ExtAt P f (Extern.SlicesOverlaps.overlaps #[t, t] #[tR])) (ht : P.underlying t = some (.slice e)) (hz : SizeIs P e z by_)
    (hx : Ev a x s1.hv) (hy : Ev a y s2.hv) (hv : S.ovl s1 s2 = some q) : OpOk P base W0 o a S (.bool q) S := by
  refine ok_extR ho hf (Evs.cons hx (Evs.cons hy Evs.nil)) fun β w vs' hR h => ?_
  obtain ⟨hl, hvs⟩ := h
  obtain ⟨u1, u2, rfl⟩ : ∃ u1 u2, vs' = #[u1, u2] := by
    obtain ⟨l⟩ := vs'
    match l, hl with
    | [u1, u2], _ => exact ⟨u1, u2, rfl⟩
  have r1 := hvs 0 _ _ rfl rfl
  have r2 := hvs 1 _ _ rfl rfl
  obtain ⟨a1, l1, c1⟩ := s1
  obtain ⟨a2, l2, c2⟩ := s2
  simp only [Sl.hv] at r1 r2
  have h0 : ∀ (x y : Option Addr) (l1 l2 k1 k2 : Nat), (x = none ∨ y = none ∨ l1 = 0 ∨ l2 = 0) → (Extern.SlicesOverlaps.overlaps #[t, t] #[tR] #[.slice x l1 k1, .slice y l2 k2]).run P w = .ok (.bool false) w := by
    intro x y l1 l2 k1 k2 hc
    change Sem.run P (α := Value) (do
      let some t := (#[t, t] : Array TypeId)[0]? | stuck "slices.overlaps: no parameter types"
      let .slice elem ← underlying t | stuck "slices.overlaps: slice type expected"
      let size ← sizeOf elem
      match x, y with
      | some a, some b =>
        if l1 = 0 ∨ l2 = 0 ∨ size = 0 then pure (Value.bool false)
        else if a.block != b.block && (← frozen a) && (← frozen b) then unsupported .addressObserved
        else do
          if a.block != b.block then do
            noView a; noView b
            if ← mayBeOne a b then return Value.bool ((← choose (.extern "sameAddr.stringBytes" 2)) == 1)
          pure (Value.bool (a.block == b.block && a.off < b.off + l2 * size && b.off < a.off + l1 * size))
      | _, _ => pure (Value.bool false)) w = _
    cases x with
    | none => simp [underlying, ht, hz.run]
    | some x =>
      cases y with
      | none => simp [underlying, ht, hz.run]
      | some y =>
        have hc2 : l1 = 0 ∨ l2 = 0 ∨ z = 0 := by
          rcases hc with hc | hc | hc | hc
          · cases hc
          · cases hc
          · exact .inl hc
          · exact .inr (.inl hc)
        simp [underlying, ht, hz.run, hc2]
  simp only [HS.ovl] at hv
  cases a1 with
  | none => simp only [Option.some.injEq] at hv; subst hv; cases r1; cases r2 <;> exact ⟨_, h0 _ _ _ _ _ _ (.inl rfl), .bool _⟩
  | some p1 =>
    obtain ⟨i, o1⟩ := p1
    cases a2 with
    | none => simp only [Option.some.injEq] at hv; subst hv; cases r2; cases r1 <;> exact ⟨_, h0 _ _ _ _ _ _ (.inr (.inl rfl)), .bool _⟩
    | some p2 =>
      obtain ⟨j, o2⟩ := p2
      simp only at hv
      split at hv
      · rename_i hlz
        simp only [Option.some.injEq] at hv; subst hv
        cases r1 <;> cases r2 <;> exact ⟨_, h0 _ _ _ _ _ _ (.inr (.inr hlz)), .bool _⟩
      · rename_i hlz
        split at hv
        · cases hv
        rename_i hij
        split at hv
        · rename_i z1 rows1 z2 row2 rows2 own2 hi hj
          split at hv
          · rename_i hmk
            simp only [Option.some.injEq] at hv; subst hv
            obtain ⟨b1, p1, tot1, arr1, t1, fr1, g1, g2, g3, g4, g5, g6, g7, g8, g9, g10⟩ := hR.owned hi
            obtain ⟨b2, p2, tot2, arr2, t2, fr2, k1, k2, k3, k4, k5, k6⟩ := hR.live hj
            have hne : b1 ≠ b2 := fun e => hR.disj i j b1 hij (by rw [hi]; rfl) (by rw [hj]; rfl) (by rw [g1]; rfl) (by rw [k1, e]; rfl)
            have hfr := g10.1 hmk
            have hbig : arr2.size ≠ 0 := by
              rw [k3]
              have : 1 * z2 ≤ (row2 :: rows2).length * z2 := Nat.mul_le_mul_right z2 (by simp)
              omega
            cases r1 with
            | sl m1 m2 m3 m4 m5 m6 =>
              rw [g1] at m1; cases m1
              cases r2 with
              | sl n1 n2 n3 n4 n5 n6 =>
                rw [k1] at n1; cases n1
                refine ⟨_, Go.Lib.run_overlaps_apart w t tR e ht z (fun w => hz.run) _ _ _ _ _ _ hne t1 t2 arr1.size arr2.size (by simp [World.shape?, g2]) (by simp [World.shape?, k2]) hbig ?_ ?_, .bool _⟩
                · simp only [World.frozen?, g2]; simp; omega
                · simp only [World.frozen?, g2]; simp; omega
              | slEnd n1 n2 n3 n4 => exact absurd (.inr rfl) hlz
            | slEnd m1 m2 m3 m4 => exact absurd (.inl rfl) hlz
          · cases hv
        · cases hv
end
end Go.Proofs.YtcphapfclncggaaDoor.HL
