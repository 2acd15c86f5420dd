/- The layer HL, part 10: the rules as the printed proofs use them. -/
import Derived.Test.YtcphapfclncggaaDoorHLi
namespace Go.Proofs.YtcphapfclncggaaDoor.HL
open Go.RowKit (Below)

abbrev w64 (n : Int) : Int := IntKind.i64.wrap n
abbrev w8 (n : Int) : Int := IntKind.u8.wrap n

/-! ### Shallow steps -/
def HS.leave (S : HS) : List Nat → Option HS
  | [] => some S
  | d :: ds => match S.heap d with
    | .defer => (S.put d .dead).leave ds
    | _ => none
def HS.lp (S : HS) (l : Nat) : Option Unit :=
  match S.heap l with
  | .loop _ _ => some ()
  | _ => none
def HS.begin_ (S : HS) (l : Nat) : Option HS :=
  match S.heap l with
  | .loop .ready pend => some (S.put l (.loop .busy pend))
  | _ => none
def HS.endr (S : HS) (l : Nat) (jump : Option Code) : Option (HV × HS) :=
  match S.heap l with
  | .loop _ _ => some (.bool jump.isNone, S.put l (.loop (if jump.isNone then .ready else .done) jump))
  | _ => none
def HS.finish (S : HS) (l : Nat) : Option (Option Code × HS) :=
  match S.heap l with
  | .loop .busy _ => none
  | .loop _ pend => some (pend, S.put l (.loop .exhausted pend))
  | _ => none

def dB : HV → Option Bool | .bool b => some b | _ => none
def dI (k : IntKind) : HV → Option Int | .int k' n => if k' = k then some n else none | _ => none
def dS : HV → Option (List UInt8) | .str s => some s | _ => none
def dP : HV → Option (Option HA) | .ptr q => some q | _ => none
def dSl : HV → Option Sl | .sl q n c => some ⟨q, n, c⟩ | _ => none
def dM : HV → Option (Option Nat) | .map q => some q | _ => none
def dF : HV → Option HV | .fn f xs ys => some (.fn f xs ys) | .nilFn => some .nilFn | _ => none
def dA : HV → Option (List HV) | .agg cs => some cs | _ => none
def dT : HV → Option (List HV) | .tup cs => some cs | _ => none
theorem dB_out {v : HV} {b : Bool} (h : dB v = some b) : v = .bool b := by cases v <;> simp_all [dB]
theorem dI_out {k : IntKind} {v : HV} {n : Int} (h : dI k v = some n) : v = .int k n := by
  cases v <;> simp_all [dI]
theorem dS_out {v : HV} {s : List UInt8} (h : dS v = some s) : v = .str s := by cases v <;> simp_all [dS]
theorem dP_out {v : HV} {q : Option HA} (h : dP v = some q) : v = .ptr q := by cases v <;> simp_all [dP]
theorem dSl_out {v : HV} {s : Sl} (h : dSl v = some s) : v = s.hv := by cases v <;> simp_all [dSl, Sl.hv] <;> (subst h; simp)
theorem dM_out {v : HV} {q : Option Nat} (h : dM v = some q) : v = .map q := by cases v <;> simp_all [dM]
theorem dF_out {v w : HV} (h : dF v = some w) : v = w := by cases v <;> simp_all [dF]
theorem dA_out {v : HV} {cs : List HV} (h : dA v = some cs) : v = .agg cs := by cases v <;> simp_all [dA]
theorem dT_out {v : HV} {cs : List HV} (h : dT v = some cs) : v = .tup cs := by cases v <;> simp_all [dT]

theorem bindo {α β : Type} {x : Option α} {f : α → Option β} {r : β} (h : x.bind f = some r) : ∃ y, x = some y ∧ f y = some r := Option.bind_eq_some_iff.1 h
theorem gd {α : Type} {c : Prop} [Decidable c] {x : Option α} {r : α} (h : (if c then x else none) = some r) : c ∧ x = some r := by
  split at h
  · rename_i hc; exact ⟨hc, h⟩
  · cases h

section
variable {P : Program} {base : Nat} {W0 : World} {β0 : Bt} {f : FuncId} {ro : Option Nat} {k : List Item} {a : HAct} {S : HS} {R : HV → HS → Prop}

theorem leave_kills : ∀ (ds : List Nat) (S S' : HS), S.leave ds = some S' → S' = S.kills ds ∧ Defers S ds := by
  intro ds
  induction ds with
  | nil => intro S S' h; simp [HS.leave] at h; exact ⟨h.symm, trivial⟩
  | cons d ds ih =>
    intro S S' h
    unfold HS.leave at h
    split at h
    · rename_i hd
      obtain ⟨h1, h2⟩ := ih _ _ h
      exact ⟨h1, hd, h2⟩
    · cases h

def opOf : Option Oper → Option (Option Tmp × Op × Option (Nat × Bool))
  | some { dst := d, op := p, guard := g, .. } => some (d, p, g)
  | none => none
def OpAt (ops : Array Oper) (i : Nat) (dst : Option Tmp) (op : Op) (g : Option (Nat × Bool)) : Prop := opOf ops[i]? = some (dst, op, g)
theorem OpAt.out {ops : Array Oper} {i : Nat} {dst : Option Tmp} {op : Op} {g : Option (Nat × Bool)} (h : OpAt ops i dst op g) : ∃ o, ops[i]? = some o ∧ o.dst = dst ∧ o.op = op ∧ o.guard = g := by
  unfold OpAt at h
  cases ho : ops[i]? with
  | none => rw [ho] at h; cases h
  | some o => rw [ho] at h; simp [opOf] at h; exact ⟨o, rfl, h.1, h.2.1, h.2.2⟩
/-- The guard's own destination. -/
def GuardAt (ops : Array Oper) (j : Nat) (t : Tmp) : Prop := (ops[j]?).bind (·.dst) = some t

theorem q_op {ops : Array Oper} {i : Nat} {rest : List Nat} {dst : Option Tmp} {op : Op} {v : HV} {S' : HS} (ho : OpAt ops i dst op none) (hop : ∀ o : Oper, o.op = op → OpOk P base W0 o a S v S')
    (h : HRun P base W0 β0 f ro (.inRegion ops rest :: k) (a.put dst v) S' R) : HRun P base W0 β0 f ro (.inRegion ops (i :: rest) :: k) a S R := by
  obtain ⟨o, h1, h2, h3, h4⟩ := ho.out
  refine hr_op h1 (by unfold Wants; rw [h4]; trivial) (hop o h3) ?_
  rw [h2]; exact h
theorem q_op_g {ops : Array Oper} {i j : Nat} {t : Tmp} {b c : Bool} {rest : List Nat} {dst : Option Tmp} {op : Op} {v : HV} {S' : HS} (ho : OpAt ops i dst op (some (j, b))) (hj : GuardAt ops j t) (hb : a.tmps[t]? = some (.bool c)) (hc : c = b) (hop : ∀ o : Oper, o.op = op → OpOk P base W0 o a S v S')
    (h : HRun P base W0 β0 f ro (.inRegion ops rest :: k) (a.put dst v) S' R) : HRun P base W0 β0 f ro (.inRegion ops (i :: rest) :: k) a S R := by
  subst hc
  obtain ⟨o, h1, h2, h3, h4⟩ := ho.out
  refine hr_op h1 (by unfold Wants; rw [h4]; exact ⟨t, hj, hb⟩) (hop o h3) ?_
  rw [h2]; exact h
theorem q_skip {ops : Array Oper} {i j : Nat} {t : Tmp} {b c : Bool} {rest : List Nat} {dst : Option Tmp} {op : Op} (ho : OpAt ops i dst op (some (j, b))) (hj : GuardAt ops j t) (hb : a.tmps[t]? = some (.bool c)) (hc : c = !b)
    (h : HRun P base W0 β0 f ro (.inRegion ops rest :: k) (a.put dst (.tup [])) S R) : HRun P base W0 β0 f ro (.inRegion ops (i :: rest) :: k) a S R := by
  subst hc
  obtain ⟨o, h1, h2, h3, h4⟩ := ho.out
  refine hr_op_skip h1 (by unfold Skips; rw [h4]; exact ⟨t, hj, .inl hb⟩) ?_
  rw [h2]; exact h
theorem q_skip_u {ops : Array Oper} {i j : Nat} {t : Tmp} {b : Bool} {rest : List Nat} {dst : Option Tmp} {op : Op} (ho : OpAt ops i dst op (some (j, b))) (hj : GuardAt ops j t) (hb : a.tmps[t]? = some (.tup []))
    (h : HRun P base W0 β0 f ro (.inRegion ops rest :: k) (a.put dst (.tup [])) S R) : HRun P base W0 β0 f ro (.inRegion ops (i :: rest) :: k) a S R := by
  obtain ⟨o, h1, h2, h3, h4⟩ := ho.out
  refine hr_op_skip h1 (by unfold Skips; rw [h4]; exact ⟨t, hj, .inr hb⟩) ?_
  rw [h2]; exact h
theorem q_call {ops : Array Oper} {i : Nat} {rest : List Nat} {dst : Option Tmp} {fx : Operand} {xs : Array Operand} {tys : Array TypeId} {fv : HV} {vs : List HV} {R1 : HV → HS → Prop} (ho : OpAt ops i dst (.call ⟨.value fx, xs, tys⟩) none)
    (hf : Ev a fx fv) (hxs : Evs a xs vs) (hi : HInv P base W0 β0 fv vs S R1)
    (h : ∀ v S', R1 v S' → HRun P base W0 β0 f ro (.inRegion ops rest :: k) (a.put dst v) S' R) : HRun P base W0 β0 f ro (.inRegion ops (i :: rest) :: k) a S R := by
  obtain ⟨o, h1, h2, h3, h4⟩ := ho.out
  refine hr_call h1 (by unfold Wants; rw [h4]; trivial) h3 hf hxs hi ?_
  rw [h2]; exact h
theorem q_call_g {ops : Array Oper} {i j : Nat} {t : Tmp} {b c : Bool} {rest : List Nat} {dst : Option Tmp} {fx : Operand} {xs : Array Operand} {tys : Array TypeId} {fv : HV} {vs : List HV} {R1 : HV → HS → Prop} (ho : OpAt ops i dst (.call ⟨.value fx, xs, tys⟩) (some (j, b))) (hj : GuardAt ops j t) (hb : a.tmps[t]? = some (.bool c)) (hc : c = b)
    (hf : Ev a fx fv) (hxs : Evs a xs vs) (hi : HInv P base W0 β0 fv vs S R1)
    (h : ∀ v S', R1 v S' → HRun P base W0 β0 f ro (.inRegion ops rest :: k) (a.put dst v) S' R) : HRun P base W0 β0 f ro (.inRegion ops (i :: rest) :: k) a S R := by
  subst hc
  obtain ⟨o, h1, h2, h3, h4⟩ := ho.out
  refine hr_call h1 (by unfold Wants; rw [h4]; exact ⟨t, hj, hb⟩) h3 hf hxs hi ?_
  rw [h2]; exact h

theorem HInv.static {fn : Func} {vs : List HV} {c : Code} (hf : FnAt P f fn) (hb : fn.body = some c) (h : HCall P base W0 β0 f vs S R) : HInv P base W0 β0 (.fn (.func f) [] []) vs S R :=
  .func hf hb (by simpa using h)

theorem q_skipc {c : Code} (hc : c = .skip) (h : HRun P base W0 β0 f ro k a S R) : HRun P base W0 β0 f ro (.code c :: k) a S R := by subst hc; exact hr_skip h
theorem q_seq {c x y : Code} (hc : c = .seq x y) (h : HRun P base W0 β0 f ro (.code x :: .code y :: k) a S R) : HRun P base W0 β0 f ro (.code c :: k) a S R := by subst hc; exact hr_seq h
theorem q_block {id : Nat} {c x : Code} (hc : c = .block id x) (h : HRun P base W0 β0 f ro (.code x :: .inBlock id :: k) a S R) : HRun P base W0 β0 f ro (.code c :: k) a S R := by subst hc; exact hr_block h
theorem q_loop {c x : Code} (hc : c = .loop x) (h : HRun P base W0 β0 f ro (.inLoop x :: k) a S R) : HRun P base W0 β0 f ro (.code c :: k) a S R := by
  subst hc
  refine hr_loop ?_
  intro β w a' h1 h2 h3 b cs h4 h5 h6 h7
  obtain ⟨β', v, S', v', w', g1, g2, g3, g4, g5⟩ := h β w a' h1 h2 h3 b cs h4 h5 h6 h7
  refine ⟨β', v, S', v', w', g1, g2, g3, g4, ?_⟩
  have hs : step P (lone (b.atR a' (.inLoop x :: k)) cs w) = .next (lone (b.atR a' (.code x :: .inLoop x :: k)) cs w) := stepR_inLoop
  -- the machine's steps are one way only: what starts at the second starts at the first
  cases hro : b.roundOf with
  | none =>
    rw [hro] at g5
    obtain ⟨fr, s1, s2, s3⟩ := g5
    obtain ⟨n, hn⟩ := s1
    cases n with
    | zero =>
      simp [runN] at hn
      exfalso
      have hm : fr.mode = .run := by
        have := congrArg (fun m => (m.gs[0]?).map (·.frame.mode)) hn
        simp [lone, Frame.atR] at this
        exact this.symm
      rw [s3.1] at hm
      cases hm
    | succ n =>
      simp only [runN, hs] at hn
      exact ⟨fr, ⟨n, hn⟩, s2, s3⟩
  | some l =>
    rw [hro] at g5
    obtain ⟨c, cs', s1, s2⟩ := g5
    obtain ⟨n, hn⟩ := s2
    cases n with
    | zero =>
      simp [runN] at hn
      exfalso
      have := congrArg (fun m => (m.gs[0]?).map (·.callers.length)) hn
      rw [s1] at this
      simp [lone] at this
    | succ n =>
      simp only [runN, hs] at hn
      exact ⟨c, cs', s1, ⟨n, hn⟩⟩
theorem q_exit {id : Nat} {c : Code} {k' : List Item} (hc : c = .exit id) (hx : exitTo id k = some k') (h : HRun P base W0 β0 f ro k' a S R) : HRun P base W0 β0 f ro (.code c :: k) a S R := by subst hc; exact hr_exit hx h
theorem q_region {id : Nat} {c : Code} {ops : Array Oper} {is : List Nat} (hc : c = .region id ops false) (hi : List.range ops.size = is) (h : HRun P base W0 β0 f ro (.inRegion ops is :: k) a S R) : HRun P base W0 β0 f ro (.code c :: k) a S R := by subst hc; exact hr_region hi h
theorem q_cond_t {c x y : Code} {o : Operand} {b : Bool} (hc : c = .cond o x y) (ho : Ev a o (.bool b)) (hb : b = true) (h : HRun P base W0 β0 f ro (.code x :: k) a S R) : HRun P base W0 β0 f ro (.code c :: k) a S R := by subst hc; subst hb; exact hr_cond_t ho h
theorem q_cond_f {c x y : Code} {o : Operand} {b : Bool} (hc : c = .cond o x y) (ho : Ev a o (.bool b)) (hb : b = false) (h : HRun P base W0 β0 f ro (.code y :: k) a S R) : HRun P base W0 β0 f ro (.code c :: k) a S R := by subst hc; subst hb; exact hr_cond_f ho h
theorem q_ret {c : Code} {fn : Func} {v : HV} {S' : HS} (hc : c = .ret) (hf : P.funcs[f]? = some fn) (hl : S.leave a.defers = some S') (hres : ResOk P base W0 fn a S' v) (hR : R v S') : HRun P base W0 β0 f none (.code c :: k) a S R := by
  subst hc
  obtain ⟨h1, h2⟩ := leave_kills _ _ _ hl
  subst h1
  exact hr_ret hf hres h2 hR
theorem q_end {fn : Func} {v : HV} {S' : HS} (hf : P.funcs[f]? = some fn) (hl : S.leave a.defers = some S') (hres : ResOk P base W0 fn a S' v) (hR : R v S') : HRun P base W0 β0 f none [] a S R := by
  obtain ⟨h1, h2⟩ := leave_kills _ _ _ hl
  subst h1
  exact hr_end hf hres h2 hR

/-! rounds -/
theorem q_begin {l : Nat} {S1 : HS} (hb : S.begin_ l = some S1) (h : HRun P base W0 β0 f (some l) k a S1 R) : HRun P base W0 β0 f (some l) (.beginRound :: k) a S R := by
  unfold HS.begin_ at hb
  split at hb
  · rename_i hl; cases hb; exact hr_beginRound hl h
  · cases hb
theorem q_round_end {l : Nat} {v : HV} {S' : HS} (hb : S.endr l none = some (v, S')) (hR : R v S') : HRun P base W0 β0 f (some l) [] a S R := by
  unfold HS.endr at hb
  split at hb
  · rename_i hl; cases hb; exact hr_round_end hl hR
  · cases hb
theorem q_round_ret {l : Nat} {c : Code} {v : HV} {S' : HS} (hc : c = .ret) (hb : S.endr l (some .ret) = some (v, S')) (hR : R v S') : HRun P base W0 β0 f (some l) (.code c :: k) a S R := by
  subst hc
  unfold HS.endr at hb
  split at hb
  · rename_i hl; cases hb; exact hr_round_ret hl hR
  · cases hb
theorem q_round_exit {l id : Nat} {c : Code} {v : HV} {S' : HS} (hc : c = .exit id) (hx : exitTo id k = none) (hb : S.endr l (some (.exit id)) = some (v, S')) (hR : R v S') : HRun P base W0 β0 f (some l) (.code c :: k) a S R := by
  subst hc
  unfold HS.endr at hb
  split at hb
  · rename_i hl; cases hb; exact hr_round_exit hx hl hR
  · cases hb
theorem finish_out {l : Nat} {pend : Option Code} {S' : HS} (h : S.finish l = some (pend, S')) : ∃ st pend', S.heap l = .loop st pend' ∧ st ≠ .busy ∧ pend = pend' ∧ S' = S.put l (.loop .exhausted pend') := by
  unfold HS.finish at h
  cases hS : S.heap l with
  | loop st p =>
    rw [hS] at h
    cases st <;> simp at h <;> (obtain ⟨rfl, rfl⟩ := h; exact ⟨_, _, rfl, by simp, rfl, rfl⟩)
  | _ => rw [hS] at h; cases h
theorem lp_out {l : Nat} {u : Unit} (h : S.lp l = some u) : ∃ st pend, S.heap l = .loop st pend := by
  unfold HS.lp at h
  split at h
  · rename_i st p hl; exact ⟨st, p, hl⟩
  · cases h

/-- for .. := range g, in a function's own frame; the table's answer at hand. -/
theorem q_range {c assign body : Code} {g : Operand} {ps : Array Tmp} {fv v : HV} {H : Hd} {D : Dp} {S2 S3 : HS} {pend : Option Code} {round : List HV → HS → Option (HV × HS)} (hc : c = .rangeFunc g ps assign body) (hg : Ev a g fv) (hD : DSound P base W0 D) (hH : HSound P base W0 β0 H)
    (hrun : D (H.set (S.next + 1) round) fv [.fn (.yield (S.next + 1)) [] []] ((S.new .defer).new (.loop .ready none)) = some (v, S2)) (hfin : S2.finish (S.next + 1) = some (pend, S3))
    (hround : ∀ β1, Le β0 β1 → LoopAt β1 (S.next + 1) f a ps assign body → ∀ vs T u T', round vs T = some (u, T') → HInv P base W0 β1 (.fn (.yield (S.next + 1)) [] []) vs T (fun v1 S1 => v1 = u ∧ S1 = T'))
    (h : HRun P base W0 β0 f none (jumped pend k) { a with defers := S.next :: a.defers } S3 R) : HRun P base W0 β0 f none (.code c :: k) a S R := by
  subst hc
  obtain ⟨st, pend', f1, f2, f3, f4⟩ := finish_out hfin
  subst f3 f4
  refine hr_range (R1 := fun v1 S1 => v1 = v ∧ S1 = S2) hg (fun β1 h1 h2 => hD β1 _ ((hH.up h1).set (fun vs T u T' hr => hround β1 h1 h2 vs T u T' hr)) fv _ _ _ _ hrun) ?_
  rintro v1 S1 ⟨rfl, rfl⟩
  exact ⟨st, _, f1, f2, h⟩
/-- for .. := range g, in a round. -/
theorem q_range_in {lo : Nat} {u0 : Unit} {c assign body : Code} {g : Operand} {ps : Array Tmp} {fv v : HV} {H : Hd} {D : Dp} {S2 S3 : HS} {pend : Option Code} {round : List HV → HS → Option (HV × HS)} (hlo : S.lp lo = some u0) (hc : c = .rangeFunc g ps assign body) (hg : Ev a g fv) (hD : DSound P base W0 D) (hH : HSound P base W0 β0 H)
    (hrun : D (H.set S.next round) fv [.fn (.yield S.next) [] []] (S.new (.loop .ready none)) = some (v, S2)) (hfin : S2.finish S.next = some (pend, S3))
    (hround : ∀ β1, Le β0 β1 → LoopAt β1 S.next f a ps assign body → ∀ vs T u T', round vs T = some (u, T') → HInv P base W0 β1 (.fn (.yield S.next) [] []) vs T (fun v1 S1 => v1 = u ∧ S1 = T'))
    (h : HRun P base W0 β0 f (some lo) (jumped pend k) a S3 R) : HRun P base W0 β0 f (some lo) (.code c :: k) a S R := by
  subst hc
  obtain ⟨st0, pend0, hl0⟩ := lp_out hlo
  obtain ⟨st, pend', f1, f2, f3, f4⟩ := finish_out hfin
  subst f3 f4
  refine hr_range_in hl0 (R1 := fun v1 S1 => v1 = v ∧ S1 = S2) hg (fun β1 h1 h2 => hD β1 _ ((hH.up h1).set (fun vs T u T' hr => hround β1 h1 h2 vs T u T' hr)) fv _ _ _ _ hrun) ?_
  rintro v1 S1 ⟨rfl, rfl⟩
  exact ⟨st, _, f1, f2, h⟩
theorem q_yield {l : Nat} {vs : List HV} {u0 : Unit} {ps : Array Tmp} {assign body : Code} (hl : LoopAt β0 l f a ps assign body) (hS : S.lp l = some u0) (hn : vs.length = ps.size)
    (h : HRun P base W0 β0 f (some l) [.code assign, .beginRound, .code body] { tmps := HAct.params a.tmps ps.toList vs, defers := [] } S R) : HInv P base W0 β0 (.fn (.yield l) [] []) vs S R := by
  obtain ⟨st, pend, hl0⟩ := lp_out hS
  exact .yield hl hl0 hn h

theorem ok_quo {t ty : TypeId} {x y : Operand} {i : IntKind} {m n : Int} {o : Oper} (ho : o.op = .binOp .quo t x y ty) (hx : Ev a x (.int i m)) (hy : Ev a y (.int i n)) (hn : n ≠ 0) : OpOk P base W0 o a S (.int i (i.wrap (m.tdiv n))) S :=
  ok_ibin ho hx hy (by simp [ibin, hn])
theorem ok_rem {t ty : TypeId} {x y : Operand} {i : IntKind} {m n : Int} {o : Oper} (ho : o.op = .binOp .rem t x y ty) (hx : Ev a x (.int i m)) (hy : Ev a y (.int i n)) (hn : n ≠ 0) : OpOk P base W0 o a S (.int i (m.tmod n)) S :=
  ok_ibin ho hx hy (by simp [ibin, hn])
theorem ok_sadd {t ty : TypeId} {x y : Operand} {m n : List UInt8} {o : Oper} (ho : o.op = .binOp .add t x y ty) (hx : Ev a x (.str m)) (hy : Ev a y (.str n)) (hn : m.length + n.length ≤ 9223372036854775807) : OpOk P base W0 o a S (.str (m ++ n)) S :=
  ok_sbin ho hx hy (by simp [sbin, hn])

/-! types -/
theorem elemAt_mk {t e z by_ : Nat} {zr : List HV} {zv : Value} (h1 : P.underlying t = some (.slice e)) (h2 : (P.info? e).map (fun i => (i.size, i.bytes, i.zero)) = some (z, by_, some zv)) (h3 : by_ ≤ 4096) (h4 : ∀ β, VRels β zr zv.cells) (h5 : zr.length = z) (h6 : 0 < z) (h7 : zr.all (·.flat) = true) : ElemAt P t e z zr := by
  cases hi : P.info? e with
  | none => rw [hi] at h2; cases h2
  | some q =>
    rw [hi] at h2
    simp at h2
    exact ⟨h1, ⟨q, zv, hi, h2.1, by omega, h2.2.2, h4⟩, ⟨h5, h6⟩, fun v hv => List.all_eq_true.1 h7 v hv⟩
theorem sizeIs_mk {e z by_ : Nat} (h : (P.info? e).map (fun i => (i.size, i.bytes)) = some (z, by_)) : SizeIs P e z by_ := by
  cases hi : P.info? e with
  | none => rw [hi] at h; cases h
  | some q => rw [hi] at h; simp at h; exact ⟨q, hi, h.1, h.2⟩
theorem size_mk' {e z : Nat} (h : (P.info? e).map (·.size) = some z) : ∃ q, P.info? e = some q ∧ q.size = z := by
  cases hi : P.info? e with
  | none => rw [hi] at h; cases h
  | some q => rw [hi] at h; simp at h; exact ⟨q, rfl, h⟩
theorem isAgg_mk {t n : Nat} {fs : Array Field} (h1 : P.underlying t = some (.struct fs)) (h2 : (P.info? t).map (·.size) = some n) : IsAgg P t n := ⟨⟨_, h1, trivial⟩, size_mk' h2⟩
end
end Go.Proofs.YtcphapfclncggaaDoor.HL
