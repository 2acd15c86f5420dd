/- The layer HL, part 9: texts and bytes, copy, structs, maps. The layer HL, part 10: the rules as the printed proofs use them. -/
import Derived.Laws.BytesArg
import Derived.Test.YtgplnlknejbglaaDoorPart1
namespace Go.Proofs.YtgplnlknejbglaaDoor.HL
open Go.RowKit (Below)
/-- The numbers of a row of bytes. -/
def byteRow : List HV → Option Int
 | [.int .u8 n] => some n
 | _ => none
def bytesOf (rows : List (List HV)) : Option (List UInt8) := rows.mapM fun r => (byteRow r).map fun n => UInt8.ofNat n.toNat
def HS.text (S : HS) (s : Sl) : Option (List UInt8) := (S.rows s 1).bind bytesOf
section
variable {P : Program} {base : Nat} {W0 : World} {a : HAct} {S : HS} {o : Oper} {β : Bt} {w : World}
theorem bytes_nums : ∀ (rows : List (List HV)) (t : List UInt8),bytesOf rows = some t → ∃ ns : List Int,rows = ns.map (fun n => [HV.int .u8 n]) ∧ t = ns.map fun n => UInt8.ofNat n.toNat := by
 intro rows
 induction rows with
 | nil => intro t h; simp [bytesOf] at h; subst h; exact ⟨[],rfl,rfl⟩
 | cons r rows ih =>
  intro t h
  simp only [bytesOf,List.mapM_cons] at h
  cases hr : byteRow r with
  | none => rw [hr] at h; cases h
  | some n =>
   rw [hr] at h
   simp only [Option.map_some,Option.bind_eq_bind,Option.bind_some] at h
   cases ht : bytesOf rows with
   | none => simp only [bytesOf] at ht; rw [ht] at h; cases h
   | some t' =>
    simp only [bytesOf] at ht
    rw [ht] at h
    obtain ⟨ns,e1,e2⟩ := ih t' ht
    simp at h
    subst h
    refine ⟨n :: ns,?_,by simp [e2]⟩
    have : r = [.int .u8 n] := by
     unfold byteRow at hr
     split at hr
     ·cases hr; rfl
     ·cases hr
    rw [this,e1]; rfl
theorem ok_str_of_bytes {src dst e : TypeId} {x : Operand} {s : Sl} {t : List UInt8} (ho : o.op = .convert src dst x) (hs : P.underlying src = some (.slice e)) (he : P.underlying e = some (.int .u8)) (hd : P.underlying dst = some .string) (hx : Ev a x s.hv) (hv : S.text s = some t) :
  OpOk P base W0 o a S (.str t) S := by
 refine .pure (by rw [ho]; simp) fun β w a' h h2 => ?_
 have hxr := hx.rel h2
 generalize hxv : a'.eval x = xv at hxr
 unfold HS.text at hv
 cases hr : S.rows s 1 with
 | none => rw [hr] at hv; cases hv
 | some rows =>
  rw [hr,Option.bind_some] at hv
  obtain ⟨ns,e1,e2⟩ := bytes_nums rows t hv
  have hl := rows_len hr
  obtain ⟨arr,g1,g2,g3⟩ := h.rows (P := P) hr hxr s.len (Nat.le_refl _)
  rw [← hl,List.take_length] at g3
  obtain ⟨y,cap,hy⟩ := Sl.at hxr
  have harr : arr = (ns.map (Value.int .u8)).toArray := by
   have hnl : ns.length = s.len := by rw [← hl,e1]; simp
   apply Array.ext_getElem?
   intro i
   by_cases hi : i < ns.length
   ·obtain ⟨_,q⟩ := g3 i [.int .u8 ns[i]] (by rw [e1]; simp [hi])
    obtain ⟨_,v',q1,q2⟩ := q 0 _ rfl
    simp at q1
    cases q2
    simp [q1,hi]
   ·rw [Array.getElem?_eq_none (by rw [g2]; omega),Array.getElem?_eq_none (by simp; omega)]
  refine ⟨.string ⟨t.toArray⟩,?_,.str _⟩
  have hrun : (convert src dst xv).run P w = .ok (.string ⟨t.toArray⟩) w := by
   subst hy
   rw [run_convert_bytes_string w src dst e _ _ _ hs he hd]
   cases y with
   | none =>
    simp [Builtin.firstCells] at g1
    have : ns = [] := by
     have : (ns.map (Value.int .u8)).toArray = #[] := by rw [← harr,← g1]
     simpa using this
    subst this
    subst e2
    simp [Conv.bytesToString]
    rfl
   | some ad =>
    simp only [Builtin.firstCells,Nat.mul_one] at g1
    rw [harr] at g1
    rw [run_bytesToString w ad s.len cap ns g1,foldl_push_bytes]
    simp [ByteArray.empty,ByteArray.emptyWithCapacity,e2]
    rfl
  simp [execOp,ho,hxv,hrun]
/-! ### Structs as values -/
end
end Go.Proofs.YtgplnlknejbglaaDoor.HL
namespace Go.Proofs.YtgplnlknejbglaaDoor.HL
open Go.RowKit (Below)
abbrev w64 (n : Int) : Int := IntKind.i64.wrap n
abbrev w8 (n : Int) : Int := IntKind.u8.wrap n
/-! ### Shallow steps -/
def HS.leave (S : HS) : List Nat → Option HS
 | [] => some S
 | d :: ds => match S.heap d with
  | .defer => (S.put d .dead).leave ds
  | _ => none
def HS.finish (S : HS) (l : Nat) : Option (Option Code × HS) :=
 match S.heap l with
 | .loop .busy _ => none
 | .loop _ pend => some (pend,S.put l (.loop .exhausted pend))
 | _ => none
def dB : HV → Option Bool | .bool b => some b | _ => none
def dP : HV → Option (Option HA) | .ptr q => some q | _ => none
def dSl : HV → Option Sl | .sl q n c => some ⟨q,n,c⟩ | _ => none
theorem dB_out {v : HV} {b : Bool} (h : dB v = some b) : v = .bool b := by cases v <;> simp_all [dB]
theorem dP_out {v : HV} {q : Option HA} (h : dP v = some q) : v = .ptr q := by cases v <;> simp_all [dP]
theorem dSl_out {v : HV} {s : Sl} (h : dSl v = some s) : v = s.hv := by cases v <;> simp_all [dSl,Sl.hv] <;> (subst h; simp)
theorem bindo {α β : Type} {x : Option α} {f : α → Option β} {r : β} (h : x.bind f = some r) : ∃ y,x = some y ∧ f y = some r := Option.bind_eq_some_iff.1 h
theorem gd {α : Type} {c : Prop} [Decidable c] {x : Option α} {r : α} (h : (if c then x else none) = some r) : c ∧ x = some r := by
 split at h
 ·rename_i hc; exact ⟨hc,h⟩
 ·cases h
section
variable {P : Program} {base : Nat} {W0 : World} {β0 : Bt} {f : FuncId} {ro : Option Nat} {k : List Item} {a : HAct} {S : HS} {R : HV → HS → Prop}
theorem leave_kills : ∀ (ds : List Nat) (S S' : HS),S.leave ds = some S' → S' = S.kills ds ∧ Defers S ds := by
 intro ds
 induction ds with
 | nil => intro S S' h; simp [HS.leave] at h; exact ⟨h.symm,trivial⟩
 | cons d ds ih =>
  intro S S' h
  unfold HS.leave at h
  split at h
  ·rename_i hd
   obtain ⟨h1,h2⟩ := ih _ _ h
   exact ⟨h1,hd,h2⟩
  ·cases h
def opOf : Option Oper → Option (Option Tmp × Op × Option (Nat × Bool))
 | some { dst := d,op := p,guard := g,.. } => some (d,p,g)
 | none => none
def OpAt (ops : Array Oper) (i : Nat) (dst : Option Tmp) (op : Op) (g : Option (Nat × Bool)) : Prop := opOf ops[i]? = some (dst,op,g)
theorem OpAt.out {ops : Array Oper} {i : Nat} {dst : Option Tmp} {op : Op} {g : Option (Nat × Bool)} (h : OpAt ops i dst op g) : ∃ o,ops[i]? = some o ∧ o.dst = dst ∧ o.op = op ∧ o.guard = g := by
 unfold OpAt at h
 cases ho : ops[i]? with
 | none => rw [ho] at h; cases h
 | some o => rw [ho] at h; simp [opOf] at h; exact ⟨o,rfl,h.1,h.2.1,h.2.2⟩
/-- The guard's own destination. -/
def GuardAt (ops : Array Oper) (j : Nat) (t : Tmp) : Prop := (ops[j]?).bind (·.dst) = some t
theorem q_op {ops : Array Oper} {i : Nat} {rest : List Nat} {dst : Option Tmp} {op : Op} {v : HV} {S' : HS} (ho : OpAt ops i dst op none) (hop : ∀ o : Oper,o.op = op → OpOk P base W0 o a S v S')
  (h : HRun P base W0 β0 f ro (.inRegion ops rest :: k) (a.put dst v) S' R) : HRun P base W0 β0 f ro (.inRegion ops (i :: rest) :: k) a S R := by
 obtain ⟨o,h1,h2,h3,h4⟩ := ho.out
 refine hr_op h1 (by unfold Wants; rw [h4]; trivial) (hop o h3) ?_
 rw [h2]; exact h
theorem q_op_g {ops : Array Oper} {i j : Nat} {t : Tmp} {b c : Bool} {rest : List Nat} {dst : Option Tmp} {op : Op} {v : HV} {S' : HS} (ho : OpAt ops i dst op (some (j,b))) (hj : GuardAt ops j t) (hb : a.tmps[t]? = some (.bool c)) (hc : c = b) (hop : ∀ o : Oper,o.op = op → OpOk P base W0 o a S v S')
  (h : HRun P base W0 β0 f ro (.inRegion ops rest :: k) (a.put dst v) S' R) : HRun P base W0 β0 f ro (.inRegion ops (i :: rest) :: k) a S R := by
 subst hc
 obtain ⟨o,h1,h2,h3,h4⟩ := ho.out
 refine hr_op h1 (by unfold Wants; rw [h4]; exact ⟨t,hj,hb⟩) (hop o h3) ?_
 rw [h2]; exact h
theorem q_skip {ops : Array Oper} {i j : Nat} {t : Tmp} {b c : Bool} {rest : List Nat} {dst : Option Tmp} {op : Op} (ho : OpAt ops i dst op (some (j,b))) (hj : GuardAt ops j t) (hb : a.tmps[t]? = some (.bool c)) (hc : c = !b)
  (h : HRun P base W0 β0 f ro (.inRegion ops rest :: k) (a.put dst (.tup [])) S R) : HRun P base W0 β0 f ro (.inRegion ops (i :: rest) :: k) a S R := by
 subst hc
 obtain ⟨o,h1,h2,h3,h4⟩ := ho.out
 refine hr_op_skip h1 (by unfold Skips; rw [h4]; exact ⟨t,hj,.inl hb⟩) ?_
 rw [h2]; exact h
theorem q_skip_u {ops : Array Oper} {i j : Nat} {t : Tmp} {b : Bool} {rest : List Nat} {dst : Option Tmp} {op : Op} (ho : OpAt ops i dst op (some (j,b))) (hj : GuardAt ops j t) (hb : a.tmps[t]? = some (.tup []))
  (h : HRun P base W0 β0 f ro (.inRegion ops rest :: k) (a.put dst (.tup [])) S R) : HRun P base W0 β0 f ro (.inRegion ops (i :: rest) :: k) a S R := by
 obtain ⟨o,h1,h2,h3,h4⟩ := ho.out
 refine hr_op_skip h1 (by unfold Skips; rw [h4]; exact ⟨t,hj,.inr hb⟩) ?_
 rw [h2]; exact h
theorem q_call {ops : Array Oper} {i : Nat} {rest : List Nat} {dst : Option Tmp} {fx : Operand} {xs : Array Operand} {tys : Array TypeId} {fv : HV} {vs : List HV} {R1 : HV → HS → Prop} (ho : OpAt ops i dst (.call ⟨.value fx,xs,tys⟩) none)
  (hf : Ev a fx fv) (hxs : Evs a xs vs) (hi : HInv P base W0 β0 fv vs S R1)
  (h : ∀ v S',R1 v S' → HRun P base W0 β0 f ro (.inRegion ops rest :: k) (a.put dst v) S' R) : HRun P base W0 β0 f ro (.inRegion ops (i :: rest) :: k) a S R := by
 obtain ⟨o,h1,h2,h3,h4⟩ := ho.out
 refine hr_call h1 (by unfold Wants; rw [h4]; trivial) h3 hf hxs hi ?_
 rw [h2]; exact h
theorem q_call_g {ops : Array Oper} {i j : Nat} {t : Tmp} {b c : Bool} {rest : List Nat} {dst : Option Tmp} {fx : Operand} {xs : Array Operand} {tys : Array TypeId} {fv : HV} {vs : List HV} {R1 : HV → HS → Prop} (ho : OpAt ops i dst (.call ⟨.value fx,xs,tys⟩) (some (j,b))) (hj : GuardAt ops j t) (hb : a.tmps[t]? = some (.bool c)) (hc : c = b)
  (hf : Ev a fx fv) (hxs : Evs a xs vs) (hi : HInv P base W0 β0 fv vs S R1)
  (h : ∀ v S',R1 v S' → HRun P base W0 β0 f ro (.inRegion ops rest :: k) (a.put dst v) S' R) : HRun P base W0 β0 f ro (.inRegion ops (i :: rest) :: k) a S R := by
 subst hc
 obtain ⟨o,h1,h2,h3,h4⟩ := ho.out
 refine hr_call h1 (by unfold Wants; rw [h4]; exact ⟨t,hj,hb⟩) h3 hf hxs hi ?_
 rw [h2]; exact h
theorem HInv.static {fn : Func} {vs : List HV} {c : Code} (hf : FnAt P f fn) (hb : fn.body = some c) (h : HCall P base W0 β0 f vs S R) : HInv P base W0 β0 (.fn (.func f) [] []) vs S R :=
 .func hf hb (by simpa using h)
theorem q_skipc {c : Code} (hc : c = .skip) (h : HRun P base W0 β0 f ro k a S R) : HRun P base W0 β0 f ro (.code c :: k) a S R := by subst hc; exact hr_skip h
theorem q_seq {c x y : Code} (hc : c = .seq x y) (h : HRun P base W0 β0 f ro (.code x :: .code y :: k) a S R) : HRun P base W0 β0 f ro (.code c :: k) a S R := by subst hc; exact hr_seq h
theorem q_block {id : Nat} {c x : Code} (hc : c = .block id x) (h : HRun P base W0 β0 f ro (.code x :: .inBlock id :: k) a S R) : HRun P base W0 β0 f ro (.code c :: k) a S R := by subst hc; exact hr_block h
theorem q_loop {c x : Code} (hc : c = .loop x) (h : HRun P base W0 β0 f ro (.inLoop x :: k) a S R) : HRun P base W0 β0 f ro (.code c :: k) a S R := by
 subst hc
 refine hr_loop ?_
 intro β w a' h1 h2 h3 b cs h4 h5 h6 h7
 obtain ⟨β',v,S',v',w',g1,g2,g3,g4,g5⟩ := h β w a' h1 h2 h3 b cs h4 h5 h6 h7
 refine ⟨β',v,S',v',w',g1,g2,g3,g4,?_⟩
 have hs : step P (lone (b.atR a' (.inLoop x :: k)) cs w) = .next (lone (b.atR a' (.code x :: .inLoop x :: k)) cs w) := stepR_inLoop
 -- the machine's steps are one way only: what starts at the second starts at the first
 cases hro : b.roundOf with
 | none =>
  rw [hro] at g5
  obtain ⟨fr,s1,s2,s3⟩ := g5
  obtain ⟨n,hn⟩ := s1
  cases n with
  | zero =>
   simp [runN] at hn
   exfalso
   have hm : fr.mode = .run := by
    have := congrArg (fun m => (m.gs[0]?).map (·.frame.mode)) hn
    simp [lone,Frame.atR] at this
    exact this.symm
   rw [s3.1] at hm
   cases hm
  | succ n =>
   simp only [runN,hs] at hn
   exact ⟨fr,⟨n,hn⟩,s2,s3⟩
 | some l =>
  rw [hro] at g5
  obtain ⟨c,cs',s1,s2⟩ := g5
  obtain ⟨n,hn⟩ := s2
  cases n with
  | zero =>
   simp [runN] at hn
   exfalso
   have := congrArg (fun m => (m.gs[0]?).map (·.callers.length)) hn
   rw [s1] at this
   simp [lone] at this
  | succ n =>
   simp only [runN,hs] at hn
   exact ⟨c,cs',s1,⟨n,hn⟩⟩
theorem q_exit {id : Nat} {c : Code} {k' : List Item} (hc : c = .exit id) (hx : exitTo id k = some k') (h : HRun P base W0 β0 f ro k' a S R) : HRun P base W0 β0 f ro (.code c :: k) a S R := by subst hc; exact hr_exit hx h
theorem q_region {id : Nat} {c : Code} {ops : Array Oper} {is : List Nat} (hc : c = .region id ops false) (hi : List.range ops.size = is) (h : HRun P base W0 β0 f ro (.inRegion ops is :: k) a S R) : HRun P base W0 β0 f ro (.code c :: k) a S R := by subst hc; exact hr_region hi h
theorem q_cond_t {c x y : Code} {o : Operand} {b : Bool} (hc : c = .cond o x y) (ho : Ev a o (.bool b)) (hb : b = true) (h : HRun P base W0 β0 f ro (.code x :: k) a S R) : HRun P base W0 β0 f ro (.code c :: k) a S R := by subst hc; subst hb; exact hr_cond_t ho h
theorem q_cond_f {c x y : Code} {o : Operand} {b : Bool} (hc : c = .cond o x y) (ho : Ev a o (.bool b)) (hb : b = false) (h : HRun P base W0 β0 f ro (.code y :: k) a S R) : HRun P base W0 β0 f ro (.code c :: k) a S R := by subst hc; subst hb; exact hr_cond_f ho h
theorem q_ret {c : Code} {fn : Func} {v : HV} {S' : HS} (hc : c = .ret) (hf : P.funcs[f]? = some fn) (hl : S.leave a.defers = some S') (hres : ResOk P base W0 fn a S' v) (hR : R v S') : HRun P base W0 β0 f none (.code c :: k) a S R := by
 subst hc
 obtain ⟨h1,h2⟩ := leave_kills _ _ _ hl
 subst h1
 exact hr_ret hf hres h2 hR
theorem q_end {fn : Func} {v : HV} {S' : HS} (hf : P.funcs[f]? = some fn) (hl : S.leave a.defers = some S') (hres : ResOk P base W0 fn a S' v) (hR : R v S') : HRun P base W0 β0 f none [] a S R := by
 obtain ⟨h1,h2⟩ := leave_kills _ _ _ hl
 subst h1
 exact hr_end hf hres h2 hR
/-! rounds -/
theorem ok_sadd {t ty : TypeId} {x y : Operand} {m n : List UInt8} {o : Oper} (ho : o.op = .binOp .add t x y ty) (hx : Ev a x (.str m)) (hy : Ev a y (.str n)) (hn : m.length + n.length ≤ 9223372036854775807) : OpOk P base W0 o a S (.str (m ++ n)) S :=
 ok_sbin ho hx hy (by simp [sbin,hn])
/-! types -/
theorem elemAt_mk {t e z by_ : Nat} {zr : List HV} {zv : Value} (h1 : P.underlying t = some (.slice e)) (h2 : (P.info? e).map (fun i => (i.size,i.bytes,i.zero)) = some (z,by_,some zv)) (h3 : by_ ≤ 4096) (h4 : ∀ β,VRels β zr zv.cells) (h5 : zr.length = z) (h6 : 0 < z) (h7 : zr.all (·.flat) = true) : ElemAt P t e z zr := by
 cases hi : P.info? e with
 | none => rw [hi] at h2; cases h2
 | some q =>
  rw [hi] at h2
  simp at h2
  exact ⟨h1,⟨q,zv,hi,h2.1,by omega,h2.2.2,h4⟩,⟨h5,h6⟩,fun v hv => List.all_eq_true.1 h7 v hv⟩
theorem size_mk' {e z : Nat} (h : (P.info? e).map (·.size) = some z) : ∃ q,P.info? e = some q ∧ q.size = z := by
 cases hi : P.info? e with
 | none => rw [hi] at h; cases h
 | some q => rw [hi] at h; simp at h; exact ⟨q,rfl,h⟩
end
end Go.Proofs.YtgplnlknejbglaaDoor.HL
