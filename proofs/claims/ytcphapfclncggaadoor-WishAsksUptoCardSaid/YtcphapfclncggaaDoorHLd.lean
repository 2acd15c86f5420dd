/- The layer HL, part 4: the two ways into a range over a function; tables of function values. -/
import Derived.Test.YtcphapfclncggaaDoorHLc
namespace Go.Proofs.YtcphapfclncggaaDoor.HL
open Go.RowKit (Below)
section
variable {P : Program} {base : Nat} {W0 : World} {β0 : Bt} {f : FuncId} {ro : Option Nat} {k : List Item} {a : HAct} {S : HS} {R : HV → HS → Prop}

theorem enter_out (ps : Array Tmp) (assign body : Code) (β : Bt) (w : World) (a' : Act) (x : Option Nat) (h : Rel base W0 β S w) (ha : ARel β a a') (hx : RoRel β none x) :
    ∃ β1 w1 b1 mark D, Le β β1 ∧ Rel base W0 β1 ((S.new .defer).new (.loop .ready none)) w1 ∧ β1 (S.next + 1) = .loop b1 { fn := f, tmps := a'.tmps, params := ps, assign := assign, body := body, defers := D } ∧
      (Instr.enterLoop f a'.tmps ps assign body x).run P w = .ok (b1, mark) w1 ∧ DRel β1 (S.next :: a.defers) (mark ++ a'.defers) := by
  cases x with
  | some x => exact hx.elim
  | none =>
    obtain ⟨β1, g1, g2, g3⟩ := h.alloc (.deferred (some [])) .defer (.obj w.heap.size) rfl (fun β' _ hb => ⟨w.heap.size, hb, h.size, by simp⟩)
    let L : LInfo := { fn := f, tmps := a'.tmps, params := ps, assign := assign, body := body, defers := w.heap.size }
    obtain ⟨β2, q1, q2, q3⟩ := g3.alloc (L.obj .ready none) (.loop .ready none) (.loop (w.heap.size + 1) L) (by simp [Tgt.block]) (fun β' _ hb => ⟨w.heap.size + 1, L, hb, Nat.le_succ_of_le h.size, by show ((w.heap.push _).push _)[w.heap.size + 1]? = _; rw [Array.getElem?_push, if_pos (by simp)]⟩)
    refine ⟨β2, _, w.heap.size + 1, [{ target := .collected w.heap.size, args := #[] }], w.heap.size, g1.trans q1, q3, q2, by simp [Instr.enterLoop, L]; rfl, ?_⟩
    refine ⟨by simp [ha.defers.1], fun i d d' h1 h2 => ?_⟩
    cases i with
    | zero =>
      simp at h1 h2
      subst h1; subst h2
      exact ⟨w.heap.size, q1.eq g2 (by simp), rfl⟩
    | succ i => exact (ha.defers.mono (g1.trans q1)).2 i d d' (by simpa using h1) (by simpa using h2)

theorem enter_in {lo : Nat} {st : LoopState} {pend : Option Code} (hlo : S.heap lo = .loop st pend) (ps : Array Tmp) (assign body : Code) (β : Bt) (w : World) (a' : Act) (x : Option Nat) (h : Rel base W0 β S w) (ha : ARel β a a') (hx : RoRel β (some lo) x) :
    ∃ β1 w1 b1 mark D, Le β β1 ∧ Rel base W0 β1 (S.new (.loop .ready none)) w1 ∧ β1 S.next = .loop b1 { fn := f, tmps := a'.tmps, params := ps, assign := assign, body := body, defers := D } ∧
      (Instr.enterLoop f a'.tmps ps assign body x).run P w = .ok (b1, mark) w1 ∧ DRel β1 a.defers (mark ++ a'.defers) := by
  cases x with
  | none => exact hx.elim
  | some x =>
    obtain ⟨L0, hL0⟩ := hx
    have ho := h.objs lo
    rw [hlo] at ho
    obtain ⟨b0, L1, r1, r2, r3⟩ := ho
    rw [hL0] at r1
    cases r1
    let L : LInfo := { fn := f, tmps := a'.tmps, params := ps, assign := assign, body := body, defers := L0.defers }
    obtain ⟨β2, q1, q2, q3⟩ := h.alloc (L.obj .ready none) (.loop .ready none) (.loop w.heap.size L) (by simp [Tgt.block]) (fun β' _ hb => ⟨w.heap.size, L, hb, h.size, by simp⟩)
    refine ⟨β2, _, w.heap.size, [], L0.defers, q1, q3, q2, by simp [Instr.enterLoop, Instr.getLoop, getObj, Sem.run, r3, LInfo.obj, L], ?_⟩
    simpa using ha.defers.mono q1

/-- 'for .. := range g { .. }' in a function's own frame. -/
theorem hr_range {g : Operand} {ps : Array Tmp} {assign body : Code} {fv : HV} {R1 : HV → HS → Prop}
    (hg : Ev a g fv)
    (hcall : ∀ β1, Le β0 β1 → LoopAt β1 (S.next + 1) f a ps assign body → HInv P base W0 β1 fv [.fn (.yield (S.next + 1)) [] []] ((S.new .defer).new (.loop .ready none)) R1)
    (hend : ∀ v S2, R1 v S2 → ∃ st pend, S2.heap (S.next + 1) = .loop st pend ∧ st ≠ .busy ∧ HRun P base W0 β0 f none (jumped pend k) { a with defers := S.next :: a.defers } (S2.put (S.next + 1) (.loop .exhausted pend)) R) :
    HRun P base W0 β0 f none (.code (.rangeFunc g ps assign body) :: k) a S R :=
  hr_range_step hg (fun β w a' x h1 h2 h3 => enter_out ps assign body β w a' x h1 h2 h3) hcall hend
/-- 'for .. := range g { .. }' in the body of another such loop. -/
theorem hr_range_in {lo : Nat} {st0 : LoopState} {pend0 : Option Code} (hlo : S.heap lo = .loop st0 pend0) {g : Operand} {ps : Array Tmp} {assign body : Code} {fv : HV} {R1 : HV → HS → Prop}
    (hg : Ev a g fv)
    (hcall : ∀ β1, Le β0 β1 → LoopAt β1 S.next f a ps assign body → HInv P base W0 β1 fv [.fn (.yield S.next) [] []] (S.new (.loop .ready none)) R1)
    (hend : ∀ v S2, R1 v S2 → ∃ st pend, S2.heap S.next = .loop st pend ∧ st ≠ .busy ∧ HRun P base W0 β0 f (some lo) (jumped pend k) a (S2.put S.next (.loop .exhausted pend)) R) :
    HRun P base W0 β0 f (some lo) (.code (.rangeFunc g ps assign body) :: k) a S R :=
  hr_range_step hg (fun β w a' x h1 h2 h3 => enter_in hlo ps assign body β w a' x h1 h2 h3) hcall hend

/-! ### Tables -/
/-- What is done by each yield. -/
abbrev Hd := Nat → Option (List HV → HS → Option (HV × HS))
def Hd.set (H : Hd) (l : Nat) (r : List HV → HS → Option (HV × HS)) : Hd := fun i => if i = l then some r else H i
/-- What a call of a function value does. -/
abbrev Dp := Hd → HV → List HV → HS → Option (HV × HS)

def HSound (P : Program) (base : Nat) (W0 : World) (β0 : Bt) (H : Hd) : Prop :=
  ∀ l r, H l = some r → ∀ vs S v S', r vs S = some (v, S') → HInv P base W0 β0 (.fn (.yield l) [] []) vs S (fun v1 S1 => v1 = v ∧ S1 = S')
theorem HSound.up {H : Hd} {β1 : Bt} (h : HSound P base W0 β0 H) (hb : Le β0 β1) : HSound P base W0 β1 H :=
  fun l r hl vs S v S' hr => (h l r hl vs S v S' hr).up hb
theorem HSound.set {H : Hd} (h : HSound P base W0 β0 H) {l : Nat} {r : List HV → HS → Option (HV × HS)}
    (hr : ∀ vs S v S', r vs S = some (v, S') → HInv P base W0 β0 (.fn (.yield l) [] []) vs S (fun v1 S1 => v1 = v ∧ S1 = S')) : HSound P base W0 β0 (H.set l r) := by
  intro i q hq vs S v S' hv
  unfold Hd.set at hq
  split at hq
  · rename_i e; subst e; cases hq; exact hr vs S v S' hv
  · exact h i q hq vs S v S' hv
def DSound (P : Program) (base : Nat) (W0 : World) (D : Dp) : Prop :=
  ∀ β0 H, HSound P base W0 β0 H → ∀ fv vs S v S', D H fv vs S = some (v, S') → HInv P base W0 β0 fv vs S (fun v1 S1 => v1 = v ∧ S1 = S')

end
end Go.Proofs.YtcphapfclncggaaDoor.HL
