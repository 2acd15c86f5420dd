/- The layer HL, part 26: short words for printed proofs. -/
import Derived.Test.YtcphapfclncggaaDoorHLx
namespace Go.Proofs.YtcphapfclncggaaDoor.HL
set_option linter.unusedVariables false
abbrev τ : HV := .tup []
def kA : Code → Code
  | .seq x _ => x
  | .cond _ x _ => x
  | .block _ x => x
  | .loop x => x
  | .scope x => x
  | .rangeFunc _ _ x _ => x
  | _ => .skip
def kB : Code → Code
  | .seq _ x => x
  | .cond _ _ x => x
  | .rangeFunc _ _ _ x => x
  | _ => .skip
def kR : Code → Array Oper
  | .region _ x _ => x
  | _ => #[]
theorem w0 {a : HAct} {v : HV} : a.put none v = a := rfl
theorem w1 {l : List HV} {ds : List Nat} {d : Tmp} {v : HV} : (⟨l, ds⟩ : HAct).put (some d) v = ⟨l.set d v, ds⟩ := rfl
theorem w2 {a b : HV} {l : List HV} : (a :: l).set 0 b = b :: l := rfl
theorem w3 {a b : HV} {l : List HV} {n : Nat} : (a :: l).set (n + 1) b = a :: l.set n b := rfl
section
variable {P : Program} {base : Nat} {W0 : World} {β0 : Bt} {f : FuncId} {ro : Option Nat} {k : List Item} {a : HAct} {S S' : HS} {R : HV → HS → Prop} {ops : Array Oper} {i j : Nat} {rest : List Nat} {op : Op} {v : HV} {b c : Bool} {cls : List Nat}
theorem qS (d : Tmp) (ho : OpAt ops i (some d) op none) (hop : ∀ {o : Oper}, o.op = op → OpOk P base W0 o a S v S') (h : HRun P base W0 β0 f ro (.inRegion ops rest :: k) (a.put (some d) v) S' R) : HRun P base W0 β0 f ro (.inRegion ops (i :: rest) :: k) a S R := q_op ho (fun _ => hop) h
theorem qN (ho : OpAt ops i none op none) (hop : ∀ {o : Oper}, o.op = op → OpOk P base W0 o a S v S') (h : HRun P base W0 β0 f ro (.inRegion ops rest :: k) a S' R) : HRun P base W0 β0 f ro (.inRegion ops (i :: rest) :: k) a S R := q_op ho (fun _ => hop) h
theorem qG (t d : Tmp) (ho : OpAt ops i (some d) op (some (j, b))) (hc : c = b) (hop : ∀ {o : Oper}, o.op = op → OpOk P base W0 o a S v S') (h : HRun P base W0 β0 f ro (.inRegion ops rest :: k) (a.put (some d) v) S' R) (hj : GuardAt ops j t := by rfl) (hb : a.tmps[t]? = some (.bool c) := by rfl) :
    HRun P base W0 β0 f ro (.inRegion ops (i :: rest) :: k) a S R := q_op_g ho hj hb hc (fun _ => hop) h
abbrev NoSel (op : Op) : Prop := ∀ cs b, op ≠ .select cs b
variable {past : List (Nat × HS)} {pend : List (Nat × (HS → Prop))}
theorem xf (d : Tmp) (ts : List Tmp) (ho : OpAt ops i (some d) op none) (hop : ∀ {o : Oper} {T : HS}, o.op = op → OpOk P base W0 o (a.mask ts) T v T) (h : DrawGoP P base W0 β0 f ro k ops cls past pend (i + 1) (a.put (some d) v) S R)
    (hs : NoSel op := by intro _ _ h; cases h) (hl : ((ops[i]?).map (fun o => o.looksAt ops)) = some ts := by kernel_rfl) (hc : cls.getD i 0 = 0 := by rfl) : DrawGoP P base W0 β0 f ro k ops cls past pend i a S R := x_goP (f_op ho hs hl (fun _ _ => hop)) hc (by decide) (by decide) h
theorem xr (d : Tmp) (ts : List Tmp) (ho : OpAt ops i (some d) op none) (hop : ∀ {o : Oper}, o.op = op → OpOk P base W0 o (a.mask ts) S v S) (h : DrawGoP P base W0 β0 f ro k ops cls past pend (i + 1) (a.put (some d) v) S R)
    (hs : NoSel op := by intro _ _ h; cases h) (hl : ((ops[i]?).map (fun o => o.looksAt ops)) = some ts := by kernel_rfl) (hc : cls.getD i 0 = 1 := by rfl) : DrawGoP P base W0 β0 f ro k ops cls past pend i a S R := x_goP (r_op ho hs hl (fun _ => hop)) hc (by decide) (by decide) h
theorem ze (d : Tmp) (ts : List Tmp) (ho : OpAt ops i (some d) op none) (hop : ∀ {o : Oper}, o.op = op → OpOk P base W0 o (a.mask ts) S v S') (hp : PendOk ops i S' pend) (h : DrawGoP P base W0 β0 f ro k ops cls ((i, S) :: past) pend (i + 1) (a.put (some d) v) S' R)
    (hs : NoSel op := by intro _ _ h; cases h) (hl : ((ops[i]?).map (fun o => o.looksAt ops)) = some ts := by kernel_rfl) (hc : cls.getD i 0 = 2 := by rfl) : DrawGoP P base W0 β0 f ro k ops cls past pend i a S R := x_goE (e_op ho hs hl (fun _ => hop)) hc hp h
theorem yf (d : Tmp) (ts : List Tmp) (ho : OpAt ops i (some d) op none) (hop : ∀ {o : Oper} {T : HS}, o.op = op → OpOk P base W0 o (a.mask ts) T v T) (h : DrawGo2 P base W0 β0 f ro k ops cls (i + 1) (a.put (some d) v) S R)
    (hs : NoSel op := by intro _ _ h; cases h) (hl : ((ops[i]?).map (fun o => o.looksAt ops)) = some ts := by kernel_rfl) (hc : cls.getD i 0 = 0 := by rfl) (h3 : cls.all (· != 3) = true := by decide) : DrawGo2 P base W0 β0 f ro k ops cls i a S R := x_go (f_op ho hs hl (fun _ _ => hop)) hc h h3
theorem yr (d : Tmp) (ts : List Tmp) (ho : OpAt ops i (some d) op none) (hop : ∀ {o : Oper}, o.op = op → OpOk P base W0 o (a.mask ts) S v S) (h : DrawGo2 P base W0 β0 f ro k ops cls (i + 1) (a.put (some d) v) S R)
    (hs : NoSel op := by intro _ _ h; cases h) (hl : ((ops[i]?).map (fun o => o.looksAt ops)) = some ts := by kernel_rfl) (hc : cls.getD i 0 = 1 := by rfl) (h3 : cls.all (· != 3) = true := by decide) : DrawGo2 P base W0 β0 f ro k ops cls i a S R := x_go (r_op ho hs hl (fun _ => hop)) hc h h3
theorem ye (d : Tmp) (ts : List Tmp) (ho : OpAt ops i (some d) op none) (hop : ∀ {o : Oper}, o.op = op → OpOk P base W0 o (a.mask ts) S v S') (h : DrawGo2 P base W0 β0 f ro k ops cls (i + 1) (a.put (some d) v) S' R)
    (hs : NoSel op := by intro _ _ h; cases h) (hl : ((ops[i]?).map (fun o => o.looksAt ops)) = some ts := by kernel_rfl) (hc : cls.getD i 0 = 2 := by rfl) (h3 : cls.all (· != 3) = true := by decide) : DrawGo2 P base W0 β0 f ro k ops cls i a S R := x_go (e_op ho hs hl (fun _ => hop)) hc h h3
theorem xfg (d t : Tmp) (ts : List Tmp) (ho : OpAt ops i (some d) op (some (j, b))) (hcb : c = b) (hop : ∀ {o : Oper} {T : HS}, o.op = op → OpOk P base W0 o (a.mask ts) T v T) (h : DrawGoP P base W0 β0 f ro k ops cls past pend (i + 1) (a.put (some d) v) S R)
    (hs : NoSel op := by intro _ _ h; cases h) (hl : ((ops[i]?).map (fun o => o.looksAt ops)) = some ts := by kernel_rfl) (hj : GuardAt ops j t := by rfl) (hb : (a.mask ts).tmps[t]? = some (.bool c) := by rfl) (hc : cls.getD i 0 = 0 := by rfl) : DrawGoP P base W0 β0 f ro k ops cls past pend i a S R := x_goP (f_op_g ho hs hl hj hb hcb (fun _ _ => hop)) hc (by decide) (by decide) h
theorem xrg (d t : Tmp) (ts : List Tmp) (ho : OpAt ops i (some d) op (some (j, b))) (hcb : c = b) (hop : ∀ {o : Oper}, o.op = op → OpOk P base W0 o (a.mask ts) S v S) (h : DrawGoP P base W0 β0 f ro k ops cls past pend (i + 1) (a.put (some d) v) S R)
    (hs : NoSel op := by intro _ _ h; cases h) (hl : ((ops[i]?).map (fun o => o.looksAt ops)) = some ts := by kernel_rfl) (hj : GuardAt ops j t := by rfl) (hb : (a.mask ts).tmps[t]? = some (.bool c) := by rfl) (hc : cls.getD i 0 = 1 := by rfl) : DrawGoP P base W0 β0 f ro k ops cls past pend i a S R := x_goP (r_op_g ho hs hl hj hb hcb (fun _ => hop)) hc (by decide) (by decide) h
theorem zeg (d t : Tmp) (ts : List Tmp) (ho : OpAt ops i (some d) op (some (j, b))) (hcb : c = b) (hop : ∀ {o : Oper}, o.op = op → OpOk P base W0 o (a.mask ts) S v S') (hp : PendOk ops i S' pend) (h : DrawGoP P base W0 β0 f ro k ops cls ((i, S) :: past) pend (i + 1) (a.put (some d) v) S' R)
    (hs : NoSel op := by intro _ _ h; cases h) (hl : ((ops[i]?).map (fun o => o.looksAt ops)) = some ts := by kernel_rfl) (hj : GuardAt ops j t := by rfl) (hb : (a.mask ts).tmps[t]? = some (.bool c) := by rfl) (hc : cls.getD i 0 = 2 := by rfl) : DrawGoP P base W0 β0 f ro k ops cls past pend i a S R := x_goE (e_op_g ho hs hl hj hb hcb (fun _ => hop)) hc hp h
theorem yfg (d t : Tmp) (ts : List Tmp) (ho : OpAt ops i (some d) op (some (j, b))) (hcb : c = b) (hop : ∀ {o : Oper} {T : HS}, o.op = op → OpOk P base W0 o (a.mask ts) T v T) (h : DrawGo2 P base W0 β0 f ro k ops cls (i + 1) (a.put (some d) v) S R)
    (hs : NoSel op := by intro _ _ h; cases h) (hl : ((ops[i]?).map (fun o => o.looksAt ops)) = some ts := by kernel_rfl) (hj : GuardAt ops j t := by rfl) (hb : (a.mask ts).tmps[t]? = some (.bool c) := by rfl) (hc : cls.getD i 0 = 0 := by rfl) (h3 : cls.all (· != 3) = true := by decide) : DrawGo2 P base W0 β0 f ro k ops cls i a S R := x_go (f_op_g ho hs hl hj hb hcb (fun _ _ => hop)) hc h h3
theorem yrg (d t : Tmp) (ts : List Tmp) (ho : OpAt ops i (some d) op (some (j, b))) (hcb : c = b) (hop : ∀ {o : Oper}, o.op = op → OpOk P base W0 o (a.mask ts) S v S) (h : DrawGo2 P base W0 β0 f ro k ops cls (i + 1) (a.put (some d) v) S R)
    (hs : NoSel op := by intro _ _ h; cases h) (hl : ((ops[i]?).map (fun o => o.looksAt ops)) = some ts := by kernel_rfl) (hj : GuardAt ops j t := by rfl) (hb : (a.mask ts).tmps[t]? = some (.bool c) := by rfl) (hc : cls.getD i 0 = 1 := by rfl) (h3 : cls.all (· != 3) = true := by decide) : DrawGo2 P base W0 β0 f ro k ops cls i a S R := x_go (r_op_g ho hs hl hj hb hcb (fun _ => hop)) hc h h3
theorem yeg (d t : Tmp) (ts : List Tmp) (ho : OpAt ops i (some d) op (some (j, b))) (hcb : c = b) (hop : ∀ {o : Oper}, o.op = op → OpOk P base W0 o (a.mask ts) S v S') (h : DrawGo2 P base W0 β0 f ro k ops cls (i + 1) (a.put (some d) v) S' R)
    (hs : NoSel op := by intro _ _ h; cases h) (hl : ((ops[i]?).map (fun o => o.looksAt ops)) = some ts := by kernel_rfl) (hj : GuardAt ops j t := by rfl) (hb : (a.mask ts).tmps[t]? = some (.bool c) := by rfl) (hc : cls.getD i 0 = 2 := by rfl) (h3 : cls.all (· != 3) = true := by decide) : DrawGo2 P base W0 β0 f ro k ops cls i a S R := x_go (e_op_g ho hs hl hj hb hcb (fun _ => hop)) hc h h3
theorem xfs (d t : Tmp) (ts : List Tmp) (ho : OpAt ops i (some d) op (some (j, b))) (hcb : c = !b) (h : DrawGoP P base W0 β0 f ro k ops cls past pend (i + 1) (a.put (some d) (.tup [])) S R)
    (hl : ((ops[i]?).map (fun o => o.looksAt ops)) = some ts := by kernel_rfl) (hj : GuardAt ops j t := by rfl) (hb : (a.mask ts).tmps[t]? = some (.bool c) := by rfl) (hc : cls.getD i 0 = 0 := by rfl) : DrawGoP P base W0 β0 f ro k ops cls past pend i a S R := x_goP (f_skip ho hl hj hb hcb) hc (by decide) (by decide) h
theorem xrs (d t : Tmp) (ts : List Tmp) (ho : OpAt ops i (some d) op (some (j, b))) (hcb : c = !b) (h : DrawGoP P base W0 β0 f ro k ops cls past pend (i + 1) (a.put (some d) (.tup [])) S R)
    (hl : ((ops[i]?).map (fun o => o.looksAt ops)) = some ts := by kernel_rfl) (hj : GuardAt ops j t := by rfl) (hb : (a.mask ts).tmps[t]? = some (.bool c) := by rfl) (hc : cls.getD i 0 = 1 := by rfl) : DrawGoP P base W0 β0 f ro k ops cls past pend i a S R := x_goP (r_skip ho hl hj hb hcb) hc (by decide) (by decide) h
theorem zes (d t : Tmp) (ts : List Tmp) (ho : OpAt ops i (some d) op (some (j, b))) (hcb : c = !b) (hp : PendOk ops i S pend) (h : DrawGoP P base W0 β0 f ro k ops cls ((i, S) :: past) pend (i + 1) (a.put (some d) (.tup [])) S R)
    (hl : ((ops[i]?).map (fun o => o.looksAt ops)) = some ts := by kernel_rfl) (hj : GuardAt ops j t := by rfl) (hb : (a.mask ts).tmps[t]? = some (.bool c) := by rfl) (hc : cls.getD i 0 = 2 := by rfl) : DrawGoP P base W0 β0 f ro k ops cls past pend i a S R := x_goE (e_skip ho hl hj hb hcb) hc hp h
theorem yfs (d t : Tmp) (ts : List Tmp) (ho : OpAt ops i (some d) op (some (j, b))) (hcb : c = !b) (h : DrawGo2 P base W0 β0 f ro k ops cls (i + 1) (a.put (some d) (.tup [])) S R)
    (hl : ((ops[i]?).map (fun o => o.looksAt ops)) = some ts := by kernel_rfl) (hj : GuardAt ops j t := by rfl) (hb : (a.mask ts).tmps[t]? = some (.bool c) := by rfl) (hc : cls.getD i 0 = 0 := by rfl) (h3 : cls.all (· != 3) = true := by decide) : DrawGo2 P base W0 β0 f ro k ops cls i a S R := x_go (f_skip ho hl hj hb hcb) hc h h3
theorem yrs (d t : Tmp) (ts : List Tmp) (ho : OpAt ops i (some d) op (some (j, b))) (hcb : c = !b) (h : DrawGo2 P base W0 β0 f ro k ops cls (i + 1) (a.put (some d) (.tup [])) S R)
    (hl : ((ops[i]?).map (fun o => o.looksAt ops)) = some ts := by kernel_rfl) (hj : GuardAt ops j t := by rfl) (hb : (a.mask ts).tmps[t]? = some (.bool c) := by rfl) (hc : cls.getD i 0 = 1 := by rfl) (h3 : cls.all (· != 3) = true := by decide) : DrawGo2 P base W0 β0 f ro k ops cls i a S R := x_go (r_skip ho hl hj hb hcb) hc h h3
theorem yes (d t : Tmp) (ts : List Tmp) (ho : OpAt ops i (some d) op (some (j, b))) (hcb : c = !b) (h : DrawGo2 P base W0 β0 f ro k ops cls (i + 1) (a.put (some d) (.tup [])) S R)
    (hl : ((ops[i]?).map (fun o => o.looksAt ops)) = some ts := by kernel_rfl) (hj : GuardAt ops j t := by rfl) (hb : (a.mask ts).tmps[t]? = some (.bool c) := by rfl) (hc : cls.getD i 0 = 2 := by rfl) (h3 : cls.all (· != 3) = true := by decide) : DrawGo2 P base W0 β0 f ro k ops cls i a S R := x_go (e_skip ho hl hj hb hcb) hc h h3
end
end Go.Proofs.YtcphapfclncggaaDoor.HL
