/- The layer HL, part 12: what printed functions are made of. -/
import Derived.Test.YtcphapfclncggaaDoorHLk
namespace Go.Proofs.YtcphapfclncggaaDoor.HL
open Go.RowKit (Below)

def letv {α β : Type} (x : α) (f : α → β) : β := f x
theorem leto {α β : Type} {x : α} {f : α → β} {r : β} (h : letv x f = r) : ∃ y, y = x ∧ f y = r := ⟨x, rfl, h⟩
theorem ifc {α : Type} {c : Prop} [Decidable c] {x y : α} {r : α} (h : (if c then x else y) = r) : (c ∧ x = r) ∨ (¬ c ∧ y = r) := by
  split at h
  · rename_i hc; exact .inl ⟨hc, h⟩
  · rename_i hc; exact .inr ⟨hc, h⟩
theorem bfalse {b : Bool} (h : ¬ b = true) : b = false := by cases b <;> simp_all

abbrev HA.fld (a : HA) (j : Nat) : HA := ⟨a.id, a.i, a.j + j⟩
abbrev HA.cell0 (id : Nat) : HA := ⟨id, 0, 0⟩
def HS.ldI (S : HS) (k : IntKind) (ad : HA) : Option Int := (S.get ad).bind (dI k)
def HS.ldB (S : HS) (ad : HA) : Option Bool := (S.get ad).bind dB
def HS.ldS (S : HS) (ad : HA) : Option (List UInt8) := (S.get ad).bind dS
def HS.ldP (S : HS) (ad : HA) : Option (Option HA) := (S.get ad).bind dP
def HS.ldSl (S : HS) (ad : HA) : Option Sl := (S.get ad).bind dSl
def HS.ldM (S : HS) (ad : HA) : Option (Option Nat) := (S.get ad).bind dM
def HS.ldF (S : HS) (ad : HA) : Option HV := (S.get ad).bind dF
def sat (s : List UInt8) (n : Int) : Option UInt8 := if 0 ≤ n then s[n.toNat]? else none
abbrev ssub (s : List UInt8) (l h : Int) : List UInt8 := (s.drop l.toNat).take (h.toNat - l.toNat)
abbrev mn (m n : Int) : Int := if n < m then n else m
abbrev mx (m n : Int) : Int := if n > m then n else m
abbrev iand (k : IntKind) (m n : Int) : Int := k.wrap (BitVec.ofInt k.bits m &&& BitVec.ofInt k.bits n).toNat
abbrev ior (k : IntKind) (m n : Int) : Int := k.wrap (BitVec.ofInt k.bits m ||| BitVec.ofInt k.bits n).toNat
abbrev ixor (k : IntKind) (m n : Int) : Int := k.wrap (BitVec.ofInt k.bits m ^^^ BitVec.ofInt k.bits n).toNat
abbrev iandNot (k : IntKind) (m n : Int) : Int := k.wrap (BitVec.ofInt k.bits m &&& ~~~ BitVec.ofInt k.bits n).toNat

def GetsAt (S : HS) (ad : HA) : Nat → List HV → Prop
  | _, [] => True
  | j, v :: vs => S.get (ad.fld j) = some v ∧ GetsAt S ad (j + 1) vs

section
variable {P : Program} {base : Nat} {W0 : World} {a : HAct} {S : HS} {o : Oper}

theorem ldI_out {k : IntKind} {ad : HA} {n : Int} (h : S.ldI k ad = some n) : S.get ad = some (.int k n) := by
  obtain ⟨v, h1, h2⟩ := bindo h; rw [h1, dI_out h2]
theorem ldB_out {ad : HA} {n : Bool} (h : S.ldB ad = some n) : S.get ad = some (.bool n) := by
  obtain ⟨v, h1, h2⟩ := bindo h; rw [h1, dB_out h2]
theorem ldS_out {ad : HA} {n : List UInt8} (h : S.ldS ad = some n) : S.get ad = some (.str n) := by
  obtain ⟨v, h1, h2⟩ := bindo h; rw [h1, dS_out h2]
theorem ldP_out {ad : HA} {n : Option HA} (h : S.ldP ad = some n) : S.get ad = some (.ptr n) := by
  obtain ⟨v, h1, h2⟩ := bindo h; rw [h1, dP_out h2]
theorem ldSl_out {ad : HA} {n : Sl} (h : S.ldSl ad = some n) : S.get ad = some n.hv := by
  obtain ⟨v, h1, h2⟩ := bindo h; rw [h1, dSl_out h2]
theorem ldM_out {ad : HA} {n : Option Nat} (h : S.ldM ad = some n) : S.get ad = some (.map n) := by
  obtain ⟨v, h1, h2⟩ := bindo h; rw [h1, dM_out h2]
theorem ldF_out {ad : HA} {n : HV} (h : S.ldF ad = some n) : S.get ad = some n := by
  obtain ⟨v, h1, h2⟩ := bindo h; rw [h1, dF_out h2]
theorem sat_out {s : List UInt8} {n : Int} {b : UInt8} (h : sat s n = some b) : 0 ≤ n ∧ s[n.toNat]? = some b := by
  unfold sat at h; split at h
  · rename_i hn; exact ⟨hn, h⟩
  · cases h

theorem gets_of {ad : HA} {vs : List HV} (h : GetsAt S ad 0 vs) (hne : 0 < vs.length) : S.gets ad vs.length = some vs := by
  have key : ∀ (vs : List HV) (j : Nat), GetsAt S ad j vs → ∀ i v, vs[i]? = some v → S.get (ad.fld (j + i)) = some v := by
    intro vs
    induction vs with
    | nil => intro j _ i v hv; simp at hv
    | cons x vs ih =>
      intro j hg i v hv
      cases i with
      | zero => simp at hv; subst hv; exact hg.1
      | succ i => rw [show j + (i + 1) = j + 1 + i by omega]; exact ih (j + 1) hg.2 i v (by simpa using hv)
  have hk := key vs 0 h
  cases vs with
  | nil => simp at hne
  | cons v0 vs' =>
    have h0 := hk 0 v0 rfl
    simp only [HS.get, Nat.add_zero] at h0
    unfold HS.gets
    cases hr : S.row ad.id ad.i with
    | none => simp [hr] at h0
    | some r =>
      have hall : ∀ i v, (v0 :: vs')[i]? = some v → r[ad.j + i]? = some v := by
        intro i v hv
        have := hk i v hv
        simp only [HS.get, hr, Option.bind_some, Nat.zero_add] at this
        exact this
      have hlast := hall vs'.length ((v0 :: vs')[vs'.length]'(by simp)) (by rw [List.getElem?_eq_getElem])
      have hlt : ad.j + vs'.length < r.length := (List.getElem?_eq_some_iff.1 hlast).1
      simp only [Option.bind_some]
      rw [if_pos (by simp; omega)]
      congr 1
      apply List.ext_getElem?
      intro i
      rw [List.getElem?_take]
      by_cases hi : i < (v0 :: vs').length
      · rw [if_pos hi, List.getElem?_drop, hall i _ (List.getElem?_eq_getElem hi), List.getElem?_eq_getElem hi]
      · rw [if_neg hi, List.getElem?_eq_none (by omega)]

theorem ok_pick_tt {c x y : Operand} {v : HV} {b : Bool} (ho : o.op = .pick c x y) (hc : Ev a c (.bool b)) (hb : b = true) (hx : Ev a x v) : OpOk P base W0 o a S v S := ok_pick_t ho (hb ▸ hc) hx
theorem ok_pick_ff {c x y : Operand} {v : HV} {b : Bool} (ho : o.op = .pick c x y) (hc : Ev a c (.bool b)) (hb : b = false) (hx : Ev a y v) : OpOk P base W0 o a S v S := ok_pick_f ho (hb ▸ hc) hx
theorem ok_nilCheck_p {x : Operand} {e : Option HA} {q : HA} (ho : o.op = .nilCheck x) (hx : Ev a x (.ptr e)) (he : e = some q) : OpOk P base W0 o a S (.ptr (some q)) S := by
  subst he; exact ok_nilCheck ho hx ⟨q, .inl rfl⟩
theorem ok_nilCheck_f {x : Operand} {v : HV} (ho : o.op = .nilCheck x) (hx : Ev a x v) (hv : v.isNilFn = some false) : OpOk P base W0 o a S v S := by
  cases v <;> simp [HV.isNilFn] at hv
  exact ok_nilCheck ho hx ⟨⟨0, 0, 0⟩, .inr ⟨_, _, _, rfl⟩⟩
theorem ok_load_s {t : TypeId} {x : Operand} {e : Option HA} {ad : HA} {v : HV} (ho : o.op = .load t x) (ht : Scalar P t) (hx : Ev a x (.ptr e)) (he : e = some ad) (hv : S.get ad = some v) : OpOk P base W0 o a S v S := by
  subst he; exact ok_load ho ht hx hv
theorem ok_load_a {t : TypeId} {x : Operand} {e : Option HA} {ad : HA} {vs : List HV} (ho : o.op = .load t x) (ht : IsAgg P t vs.length) (hx : Ev a x (.ptr e)) (he : e = some ad) (hv : GetsAt S ad 0 vs) (hn : 0 < vs.length) : OpOk P base W0 o a S (.agg vs) S := by
  subst he; exact ok_load_agg ho ht hx (gets_of hv hn)
theorem ok_store_s {t : TypeId} {x y : Operand} {e : Option HA} {ad : HA} {v : HV} {S' : HS} (ho : o.op = .store t x y) (ht : ∃ i, P.info? t = some i ∧ i.size = v.cells.length) (hx : Ev a x (.ptr e)) (he : e = some ad) (hy : Ev a y v) (hf : v.cells.all (·.flat) = true)
    (hv : S.sets ad v.cells = some S') : OpOk P base W0 o a S (.tup []) S' := by
  subst he; exact ok_store ho ht hx hy rfl (fun u hu => List.all_eq_true.1 hf u hu) hv
theorem ok_fieldAddr_s {s : TypeId} {x : Operand} {f off u n : Nat} {e : Option HA} {ad : HA} (ho : o.op = .fieldAddr s x f) (hfi : fieldInfo P s f = some (off, u, n)) (hn : n ≠ 0) (hx : Ev a x (.ptr e)) (he : e = some ad) : OpOk P base W0 o a S (.ptr (some (ad.fld off))) S := by
  subst he; exact ok_fieldAddr ho hfi hn hx
theorem ok_alloc_s {t : TypeId} {zv : Value} {r : List HV} (ho : o.op = .alloc t) (ht : (P.info? t).map (·.zero) = some (some zv)) (hz : ∀ β, VRels β r zv.cells) (hr : 0 < r.length) (hf : r.all (·.flat) = true) :
    OpOk P base W0 o a S (.ptr (some (.cell0 S.next))) (S.new (.cells r.length [r] true)) := ok_alloc ho ht hz hr (fun v hv => List.all_eq_true.1 hf v hv)
theorem ok_box_s {t : TypeId} {x : Operand} {v : HV} (ho : o.op = .box t x) (hx : Ev a x v) (hr : 0 < v.cells.length) (hf : v.cells.all (·.flat) = true) :
    OpOk P base W0 o a S (.ptr (some (.cell0 S.next))) (S.new (.cells v.cells.length [v.cells] true)) := ok_box ho hx hr (fun u hu => List.all_eq_true.1 hf u hu)
theorem ok_buildSlice_s {t e z : Nat} {zr : List HV} (he : ElemAt P t e z zr) {n : Nat} {parts : Array (Nat × Operand)} {xs : List Operand} {vs : List HV} {p : Sl × HS} (ho : o.op = .buildSlice t n parts) (hp : parts.toList = xs.zipIdx.map fun p => (p.2, p.1)) (hn : xs.length = n) (hsm : n * z ≤ 65536)
    (hx : Evs a xs.toArray vs) (hz : vs.all (fun v => v.cells.length == z) = true) (hf : vs.all (fun v => v.cells.all (·.flat)) = true) (hq : p = S.lit (vs.map HV.cells) z) :
    OpOk P base W0 o a S p.1.hv p.2 := by
  subst hq
  exact ok_buildSlice he ho hp hn hsm hx (fun v hv => by simpa using List.all_eq_true.1 hz v hv) (fun v hv u hu => List.all_eq_true.1 (List.all_eq_true.1 hf v hv) u hu)
theorem ok_ofStr_s {src dst e : TypeId} {x : Operand} {s : List UInt8} {p : Sl × HS} (ho : o.op = .convert src dst x) (hs : P.underlying src = some .string) (hd : P.underlying dst = some (.slice e)) (he : P.underlying e = some (.int .u8)) (hx : Ev a x (.str s)) (hq : p = S.ofStr s) :
    OpOk P base W0 o a S p.1.hv p.2 := by
  subst hq; exact ok_bytes_of_str ho hs hd he hx
theorem ok_index_s {t : TypeId} {x y : Operand} {s : List UInt8} {k : IntKind} {n : Int} {b : UInt8} (ho : o.op = .index t x y) (ht : P.underlying t = some .string) (hx : Ev a x (.str s)) (hy : Ev a y (.int k n)) (hb : sat s n = some b) : OpOk P base W0 o a S (.int .u8 b.toNat) S :=
  ok_index ho ht hx hy (sat_out hb).1 (sat_out hb).2
theorem q_opd {β0 : Bt} {o : Oper} {v : HV} (hsel : ∀ cs b, o.op ≠ .select cs b) (h : OpOk P base W0 o a S v S) : QOk P base W0 β0 o a S v := .inl ⟨hsel, h⟩
end

section
variable {P : Program} {base : Nat} {W0 : World} {β0 : Bt} {f : FuncId} {ro : Option Nat} {k : List Item} {R : HV → HS → Prop} {ops : Array Oper} {S : HS} {i : Nat} {a : HAct} {v : HV}
/-- The quiet operations from i on, and what follows them. -/
def DrawGo (P : Program) (base : Nat) (W0 : World) (β0 : Bt) (f : FuncId) (ro : Option Nat) (k : List Item) (ops : Array Oper) (i : Nat) (a : HAct) (S : HS) (R : HV → HS → Prop) : Prop :=
  ∃ vs m b, QChain P base W0 β0 ops S i a vs m b ∧ drawOk ops m = true ∧ ∃ is, List.range' m (ops.size - m) = is ∧ HRun P base W0 β0 f ro (.inRegion ops is :: k) b S R
theorem DrawGo.cons {o : Oper} (ho : ops[i]? = some o) (hq : QAt P base W0 β0 ops o (a.mask (o.looksAt ops)) S v) (h : DrawGo P base W0 β0 f ro k ops (i + 1) (a.put o.dst v) S R) : DrawGo P base W0 β0 f ro k ops i a S R :=
  let ⟨vs, m, b, h1, h2⟩ := h
  ⟨v :: vs, m, b, .cons ho hq h1, h2⟩
theorem d_rest {is : List Nat} (hm : drawOk ops i = true) (his : List.range' i (ops.size - i) = is) (h : HRun P base W0 β0 f ro (.inRegion ops is :: k) a S R) : DrawGo P base W0 β0 f ro k ops i a S R :=
  ⟨[], i, a, .nil i a, hm, is, his, h⟩
theorem d_start {c : Code} {id : Nat} (hc : c = .region id ops true) (h : DrawGo P base W0 β0 f ro k ops 0 a S R) : HRun P base W0 β0 f ro (.code c :: k) a S R :=
  let ⟨_, _, _, h1, h2, _, h3, h4⟩ := h
  q_draw hc h2 h1 h3 h4
theorem d_op {dst : Option Tmp} {op : Op} {ts : List Tmp} (ho : OpAt ops i dst op none) (hs : ∀ cs b, op ≠ .select cs b) (hl : ((ops[i]?).map (fun o => o.looksAt ops)) = some ts) (hop : ∀ o : Oper, o.op = op → OpOk P base W0 o (a.mask ts) S v S)
    (h : DrawGo P base W0 β0 f ro k ops (i + 1) (a.put dst v) S R) : DrawGo P base W0 β0 f ro k ops i a S R := by
  obtain ⟨o, h1, h2, h3, h4⟩ := ho.out
  rw [h1] at hl
  cases hl
  refine .cons h1 (.inl ⟨by unfold Wants; rw [h4]; trivial, .inl ⟨by rw [h3]; exact hs, hop o h3⟩⟩) ?_
  rw [h2]; exact h
theorem d_op_g {j : Nat} {t : Tmp} {g c : Bool} {dst : Option Tmp} {op : Op} {ts : List Tmp} (ho : OpAt ops i dst op (some (j, g))) (hs : ∀ cs b, op ≠ .select cs b) (hl : ((ops[i]?).map (fun o => o.looksAt ops)) = some ts) (hj : GuardAt ops j t) (hb : (a.mask ts).tmps[t]? = some (.bool c)) (hc : c = g)
    (hop : ∀ o : Oper, o.op = op → OpOk P base W0 o (a.mask ts) S v S) (h : DrawGo P base W0 β0 f ro k ops (i + 1) (a.put dst v) S R) : DrawGo P base W0 β0 f ro k ops i a S R := by
  subst hc
  obtain ⟨o, h1, h2, h3, h4⟩ := ho.out
  rw [h1] at hl
  cases hl
  refine .cons h1 (.inl ⟨by unfold Wants; rw [h4]; exact ⟨t, hj, hb⟩, .inl ⟨by rw [h3]; exact hs, hop o h3⟩⟩) ?_
  rw [h2]; exact h
theorem d_call {dst : Option Tmp} {fx : Operand} {xs : Array Operand} {tys : Array TypeId} {fv : HV} {ws : List HV} {ts : List Tmp} (ho : OpAt ops i dst (.call ⟨.value fx, xs, tys⟩) none) (hl : ((ops[i]?).map (fun o => o.looksAt ops)) = some ts) (hf : Ev (a.mask ts) fx fv) (hxs : Evs (a.mask ts) xs ws)
    (hi : HInv P base W0 β0 fv ws S (fun v1 S1 => v1 = v ∧ S1 = S)) (h : DrawGo P base W0 β0 f ro k ops (i + 1) (a.put dst v) S R) : DrawGo P base W0 β0 f ro k ops i a S R := by
  obtain ⟨o, h1, h2, h3, h4⟩ := ho.out
  rw [h1] at hl
  cases hl
  refine .cons h1 (.inl ⟨by unfold Wants; rw [h4]; trivial, .inr ⟨fx, xs, tys, fv, ws, h3, hf, hxs, hi⟩⟩) ?_
  rw [h2]; exact h
theorem d_call_g {j : Nat} {t : Tmp} {g c : Bool} {dst : Option Tmp} {fx : Operand} {xs : Array Operand} {tys : Array TypeId} {fv : HV} {ws : List HV} {ts : List Tmp} (ho : OpAt ops i dst (.call ⟨.value fx, xs, tys⟩) (some (j, g))) (hl : ((ops[i]?).map (fun o => o.looksAt ops)) = some ts) (hj : GuardAt ops j t) (hb : (a.mask ts).tmps[t]? = some (.bool c)) (hc : c = g)
    (hf : Ev (a.mask ts) fx fv) (hxs : Evs (a.mask ts) xs ws) (hi : HInv P base W0 β0 fv ws S (fun v1 S1 => v1 = v ∧ S1 = S)) (h : DrawGo P base W0 β0 f ro k ops (i + 1) (a.put dst v) S R) : DrawGo P base W0 β0 f ro k ops i a S R := by
  subst hc
  obtain ⟨o, h1, h2, h3, h4⟩ := ho.out
  rw [h1] at hl
  cases hl
  refine .cons h1 (.inl ⟨by unfold Wants; rw [h4]; exact ⟨t, hj, hb⟩, .inr ⟨fx, xs, tys, fv, ws, h3, hf, hxs, hi⟩⟩) ?_
  rw [h2]; exact h
theorem d_skip {j : Nat} {t : Tmp} {g c : Bool} {dst : Option Tmp} {op : Op} {ts : List Tmp} (ho : OpAt ops i dst op (some (j, g))) (hl : ((ops[i]?).map (fun o => o.looksAt ops)) = some ts) (hj : GuardAt ops j t) (hb : (a.mask ts).tmps[t]? = some (.bool c)) (hc : c = !g)
    (h : DrawGo P base W0 β0 f ro k ops (i + 1) (a.put dst (.tup [])) S R) : DrawGo P base W0 β0 f ro k ops i a S R := by
  subst hc
  obtain ⟨o, h1, h2, h3, h4⟩ := ho.out
  rw [h1] at hl
  cases hl
  refine .cons h1 (.inr ⟨by unfold Skips; rw [h4]; exact ⟨t, hj, .inl hb⟩, rfl⟩) ?_
  rw [h2]; exact h
theorem d_skip_u {j : Nat} {t : Tmp} {g : Bool} {dst : Option Tmp} {op : Op} {ts : List Tmp} (ho : OpAt ops i dst op (some (j, g))) (hl : ((ops[i]?).map (fun o => o.looksAt ops)) = some ts) (hj : GuardAt ops j t) (hb : (a.mask ts).tmps[t]? = some (.tup []))
    (h : DrawGo P base W0 β0 f ro k ops (i + 1) (a.put dst (.tup [])) S R) : DrawGo P base W0 β0 f ro k ops i a S R := by
  obtain ⟨o, h1, h2, h3, h4⟩ := ho.out
  rw [h1] at hl
  cases hl
  refine .cons h1 (.inr ⟨by unfold Skips; rw [h4]; exact ⟨t, hj, .inr hb⟩, rfl⟩) ?_
  rw [h2]; exact h
end
theorem isAgg_mk2 {P : Program} {t n : Nat} (h1 : (match P.underlying t with | some (.struct _) => true | some (.array _ _) => true | _ => false) = true) (h2 : (P.info? t).map (·.size) = some n) : IsAgg P t n := by
  refine ⟨?_, size_mk' h2⟩
  cases h : P.underlying t with
  | none => rw [h] at h1; cases h1
  | some d => rw [h] at h1; cases d <;> simp at h1 <;> exact ⟨_, rfl, trivial⟩
def structPlaces (P : Program) (t : TypeId) : Option (List (Nat × Nat)) :=
  match P.underlying t with
  | some (.struct fs) => fs.toList.mapM fun f => (P.info? f.type).map fun i => (f.offset, i.size)
  | _ => none
theorem structAt_mk {P : Program} {t : Nat} {pl : List (Nat × Nat)} {zr : List HV} {zv : Value} (h1 : structPlaces P t = some pl) (h2 : (P.info? t).map (·.zero) = some (some zv)) (h3 : ∀ β, VRels β zr zv.cells) : StructAt P t pl zr := by
  unfold structPlaces at h1
  split at h1
  · rename_i fs hfs
    refine ⟨⟨fs, hfs, fun w => ?_⟩, ?_⟩
    · have key : ∀ (l : List Field) (pl : List (Nat × Nat)), (l.mapM fun f => (P.info? f.type).map fun i => (f.offset, i.size)) = some pl → (l.mapM (m := Sem) fun f => do pure (f.offset, ← sizeOf f.type)).run P w = .ok pl w := by
        intro l
        induction l with
        | nil => intro pl h; simp at h; subst h; simp
        | cons f l ih =>
          intro pl h
          simp only [List.mapM_cons] at h
          cases hi : P.info? f.type with
          | none => rw [hi] at h; cases h
          | some i =>
            rw [hi] at h
            simp only [Option.map_some, Option.bind_eq_bind, Option.bind_some] at h
            cases hl : l.mapM fun f => (P.info? f.type).map fun i => (f.offset, i.size) with
            | none => rw [hl] at h; cases h
            | some pl' =>
              rw [hl] at h
              simp at h
              subst h
              have := ih pl' hl
              simp only [List.mapM_cons, Sem.run_bind, Go.sizeOf, typeInfo, run_program, Result.andThen_ok, hi, Sem.run_pure] at this ⊢
              rw [this]
              rfl
      rw [← Array.toArray_toList (xs := fs), List.mapM_toArray]
      simp only [Sem.run_map, key fs.toList pl h1, Result.andThen_ok]
    · cases hi : P.info? t with
      | none => rw [hi] at h2; cases h2
      | some q => rw [hi] at h2; exact ⟨q, zv, rfl, by simpa using h2, h3⟩
  · cases h1
end Go.Proofs.YtcphapfclncggaaDoor.HL
