/- The layer HL, part 7: slices. -/
import Derived.Test.YtcphapfclncggaaDoorHLf
namespace Go.Proofs.YtcphapfclncggaaDoor.HL
open Go.RowKit (Below)

/-- s[l:h] -/
def HS.cut (S : HS) (s : Sl) (l h : Int) (z : Nat) : Option Sl :=
  if 0 ≤ l ∧ l ≤ h then
    match s.a with
    | none => if h = 0 then some ⟨none, 0, s.cap⟩ else none
    | some (id, off) =>
      match S.heap id with
      | .cells z' rows _ =>
        if z' = z ∧ (h ≤ s.len ∨ (s.cap = none ∧ off + h.toNat ≤ rows.length) ∨ (∃ c, s.cap = some c ∧ h ≤ c)) then some ⟨some (id, off + l.toNat), h.toNat - l.toNat, s.cap.map (· - l.toNat)⟩ else none
      | _ => none
  else none
/-- s[l:h:m] -/
def HS.cut3 (S : HS) (s : Sl) (l h m : Int) (z : Nat) : Option Sl :=
  if 0 ≤ l ∧ l ≤ h ∧ h ≤ m then
    match s.a with
    | none => if m = 0 then some ⟨none, 0, some 0⟩ else none
    | some (id, off) =>
      match S.heap id with
      | .cells z' rows _ =>
        if z' = z ∧ (m ≤ s.len ∨ (s.cap = none ∧ off + m.toNat ≤ rows.length) ∨ (∃ c, s.cap = some c ∧ m ≤ c)) then some ⟨some (id, off + l.toNat), h.toNat - l.toNat, some (m.toNat - l.toNat)⟩ else none
      | _ => none
  else none
/-- What a slice holds. -/
def HS.rows (S : HS) (s : Sl) (z : Nat) : Option (List (List HV)) :=
  match s.a with
  | none => if s.len = 0 then some [] else none
  | some (id, off) =>
    match S.heap id with
    | .cells z' rows _ => if z' = z ∧ off + s.len ≤ rows.length then some ((rows.drop off).take s.len) else none
    | _ => none
def splice {α : Type} (rows : List α) (i : Nat) (new : List α) : List α := rows.take i ++ new ++ rows.drop (i + new.length)
def HS.app (S : HS) (s : Sl) (new : List (List HV)) (z : Nat) : Option (Sl × HS) :=
  if new = [] then some (s, S)
  else if s.len + new.length ≤ 2147483648 then
    match s.a with
    | none => if s.len = 0 then some (⟨some (S.next, 0), new.length, none⟩, S.new (.cells z new true)) else none
    | some (id, off) =>
      match S.heap id with
      | .cells z' rows own =>
        if z' = z then
          match s.cap with
          | some c =>
            if s.len + new.length ≤ c then
              if own = true then some (⟨some (id, off), s.len + new.length, some c⟩, S.put id (.cells z (splice rows (off + s.len) new) true)) else none
            else some (⟨some (S.next, 0), s.len + new.length, none⟩, S.new (.cells z ((rows.drop off).take s.len ++ new) true))
          | none =>
            if own = true then
              if off + s.len + new.length ≤ rows.length then some (⟨some (id, off), s.len + new.length, none⟩, S.put id (.cells z (splice rows (off + s.len) new) true))
              else if off + s.len = rows.length then some (⟨some (S.next, 0), s.len + new.length, none⟩, (S.put id .dead).newM (.cells z (rows.drop off ++ new) true) (mfg (S.mrk id)))
              else none
            else none
        else none
      | _ => none
  else none
/-- append, where the type of the block is told in its mark. -/
def HS.appT (S : HS) (s : Sl) (new : List (List HV)) (z : Nat) (e : Nat) : Option (Sl × HS) :=
  if new = [] then some (s, S)
  else if s.len + new.length ≤ 2147483648 then
    match s.a with
    | none => if s.len = 0 then some (⟨some (S.next, 0), new.length, none⟩, S.newM (.cells z new true) (e + 2)) else none
    | some (id, off) =>
      match S.heap id with
      | .cells z' rows own =>
        if z' = z then
          match s.cap with
          | some c =>
            if s.len + new.length ≤ c then
              if own = true then some (⟨some (id, off), s.len + new.length, some c⟩, S.put id (.cells z (splice rows (off + s.len) new) true)) else none
            else some (⟨some (S.next, 0), s.len + new.length, none⟩, S.newM (.cells z ((rows.drop off).take s.len ++ new) true) (e + 2))
          | none =>
            if own = true then
              if off + s.len + new.length ≤ rows.length then some (⟨some (id, off), s.len + new.length, none⟩, S.put id (.cells z (splice rows (off + s.len) new) true))
              else if off + s.len = rows.length then some (⟨some (S.next, 0), s.len + new.length, none⟩, (S.put id .dead).newM (.cells z (rows.drop off ++ new) true) (if S.mrk id = e + 2 ∧ off = 0 then e + 2 else mfg (S.mrk id)))
              else none
            else none
        else none
      | _ => none
  else none
def HS.make (S : HS) (n c : Int) (zr : List HV) : Option (Sl × HS) :=
  if 0 ≤ n ∧ n ≤ c ∧ c ≤ 2147483648 then some (⟨some (S.next, 0), n.toNat, some c.toNat⟩, S.new (.cells zr.length (List.replicate c.toNat zr) true)) else none
def HS.lit (S : HS) (rows : List (List HV)) (z : Nat) : Sl × HS := (⟨some (S.next, 0), rows.length, some rows.length⟩, S.new (.cells z rows true))
def bytesRows (s : List UInt8) : List (List HV) := s.map fun b => [.int .u8 b.toNat]
def HS.ofStr (S : HS) (s : List UInt8) : Sl × HS := (⟨some (S.next, 0), s.length, none⟩, S.newM (.cells 1 (bytesRows s) true) 1)
def byteOfRow : List HV → Option UInt8
  | [.int .u8 n] => some (UInt8.ofNat n.toNat)
  | _ => none
def HS.str (S : HS) (s : Sl) : Option (List UInt8) := (S.rows s 1).bind fun rows => rows.mapM byteOfRow
/-- copy(dst, src), of so many rows. -/
def HS.over (S : HS) (s : Sl) (new : List (List HV)) (z : Nat) : Option HS :=
  if new = [] then some S else
  match s.a with
  | none => none
  | some (id, off) =>
    match S.heap id with
    | .cells z' rows true => if z' = z ∧ new.length ≤ s.len ∧ off + new.length ≤ rows.length then some (S.put id (.cells z (splice rows off new) true)) else none
    | _ => none

section
variable {P : Program} {base : Nat} {W0 : World} {a : HAct} {S : HS} {o : Oper} {β : Bt} {w : World}

def SizeIs (P : Program) (e z bytes : Nat) : Prop := ∃ q, P.info? e = some q ∧ q.size = z ∧ q.bytes = bytes
theorem SizeIs.run {e z by_ : Nat} (h : SizeIs P e z by_) : (sizeOf e).run P w = .ok z w := by
  obtain ⟨q, h1, h2, _⟩ := h; simp [Go.sizeOf, typeInfo, h1, h2]

theorem slice_core {cap l h m z by_ : Nat} {t e : TypeId} {x : Option Addr} {len : Nat} (ht : P.underlying t = some (.slice e)) (hz : SizeIs P e z by_) {lo hi mx : Option Value} (hb : (Instr.sliceBounds true len cap lo hi mx).run P w = .ok (l, h, m) w) :
    (Instr.sliceAt t (.slice x len cap) lo hi mx).run P w = .ok (.slice (if m = l then x else x.map (·.add (l * z))) (h - l) (m - l)) w := by
  obtain ⟨q, h1, h2, _⟩ := hz
  simp [Instr.sliceAt, underlying, ht, Instr.slice, hb, Go.sizeOf, typeInfo, h1, h2]

theorem ok_slice {t e z by_ : Nat} {x : Operand} {lo hi : Option Operand} {s s' : Sl} {l h : Int} {kl kh : IntKind} (ho : o.op = .slice t x lo hi none) (ht : P.underlying t = some (.slice e)) (hz : SizeIs P e z by_) (hx : Ev a x s.hv)
    (hlo : (lo = none ∧ l = 0) ∨ ∃ y, lo = some y ∧ Ev a y (.int kl l)) (hhi : (hi = none ∧ h = s.len) ∨ ∃ y, hi = some y ∧ Ev a y (.int kh h)) (hv : S.cut s l h z = some s') : OpOk P base W0 o a S s'.hv S := by
  refine .pure (by rw [ho]; simp) fun β w a' h1 h2 => ?_
  obtain ⟨sa, len, c⟩ := s
  have hrx := hx.rel h2
  simp only [Sl.hv] at hrx hhi
  generalize hxv : a'.eval x = xv at hrx
  unfold HS.cut at hv
  split at hv
  case isFalse => cases hv
  rename_i hlh
  have hbounds : ∀ (cap : Nat), h ≤ cap → len ≤ cap → (Instr.sliceBounds true len cap (lo.map a'.eval) (hi.map a'.eval) none).run P w = .ok (l.toNat, h.toNat, cap) w := by
    intro cap hc hlc
    have h0 : 0 ≤ h := by omega
    have e1 : ((h.toNat : Nat) : Int) = h := by omega
    rcases hlo with ⟨rfl, rfl⟩ | ⟨y, rfl, hy⟩ <;> rcases hhi with ⟨rfl, rfl⟩ | ⟨u, rfl, hu⟩
    · simp [Instr.sliceBounds]
    · simp [Instr.sliceBounds, Instr.sliceBound, asIntOf, hu.at_int h2, h0, hc]
    · simp [Instr.sliceBounds, Instr.sliceBound, asIntOf, hy.at_int h2, hlh.1, hlh.2]
    · simp [Instr.sliceBounds, Instr.sliceBound, asIntOf, hu.at_int h2, hy.at_int h2, h0, hc, hlh.1, e1, hlh.2]
  have hfin : ∀ (y : Option Addr) (cap : Nat), xv = .slice y len cap → h ≤ cap → len ≤ cap → (execOp a'.eval o).run P w = .ok (.value (.slice (if cap = l.toNat then y else y.map (·.add (l.toNat * z))) (h.toNat - l.toNat) (cap - l.toNat))) w := by
    intro y cap hy hc hlc
    have := slice_core (w := w) (x := y) ht hz (hbounds cap hc hlc)
    simp [execOp, ho, hxv, hy, this]
  cases sa with
  | none =>
    simp only at hv
    split at hv
    · rename_i hh
      cases hv
      cases hrx with
      | slNil =>
        obtain rfl : l = 0 := by omega
        obtain rfl : h = 0 := hh
        exact ⟨_, hfin none 0 rfl (by omega) (Nat.le_refl _), by simpa [Sl.hv] using VRel.slNil c⟩
    · cases hv
  | some p =>
    obtain ⟨id, off⟩ := p
    simp only at hv
    split at hv
    · rename_i z' rows own hS
      split at hv
      · rename_i hcond
        cases hv
        obtain ⟨rfl, hcond⟩ := hcond
        obtain ⟨b, o1, tot, arr, ty, fr, q1, q2, q3, q4, q5, q6⟩ := h1.live hS
        simp only [Sl.hv]
        cases hrx with
        | @sl _ b1 _ z2 n2 tot2 _ _ cap _ hb e1 e2 e3 e4 e5 =>
          rw [hb] at q1
          cases q1
          have hcap : h ≤ cap ∧ off + h.toNat ≤ rows.length := by
            rcases hcond with hc | ⟨hc1, hc2⟩ | ⟨q, hc1, hc2⟩
            · exact ⟨by omega, by omega⟩
            · have := e3 hc1; exact ⟨by omega, hc2⟩
            · have := e4 q hc1; exact ⟨by omega, by omega⟩
          refine ⟨_, hfin _ cap rfl hcap.1 e1, ?_⟩
          by_cases hm : cap = l.toNat
          · rw [if_pos hm]
            have e0 : h.toNat - l.toNat = 0 := by omega
            have e00 : cap - l.toNat = 0 := by omega
            rw [e0, e00]
            refine .slEnd hb (by omega) (fun hc => ?_) (fun q hq => ?_)
            · have := e3 (by simpa using hc); omega
            · cases c with
              | none => cases hq
              | some q' =>
                have := e4 q' rfl
                simp at hq
                omega
          · rw [if_neg hm]
            simp only [Option.map_some, add_none]
            have e9 : o1 + off * z' + l.toNat * z' = o1 + (off + l.toNat) * z' := by rw [Nat.add_mul]; omega
            rw [e9]
            refine .sl hb (by omega) (by omega) (fun hc => ?_) (fun q hq => ?_) ?_
            · have := e3 (by simpa using hc); omega
            · cases c with
              | none => cases hq
              | some q' =>
                have := e4 q' rfl
                simp at hq
                omega
            · have : off + l.toNat + (cap - l.toNat) = off + cap := by omega
              rw [this]; exact e5
        | @slEnd _ b1 o2 z2 n2 tot2 _ _ ad hb e2 e3 e4 =>
          rw [hb] at q1
          cases q1
          have h0 : h = 0 := by
            rcases hcond with hc | ⟨hc1, hc2⟩ | ⟨q, hc1, hc2⟩
            · simp at hc; omega
            · have := e3 hc1; omega
            · have := e4 q hc1; omega
          obtain rfl : l = 0 := by omega
          subst h0
          refine ⟨_, hfin _ 0 rfl (by omega) (Nat.le_refl _), ?_⟩
          simp only [Int.toNat_zero, Nat.add_zero, Nat.sub_zero, if_true]
          refine .slEnd hb e2 (fun hc => e3 (by simpa using hc)) (fun q hq => ?_)
          cases c with
          | none => cases hq
          | some q' => have := e4 q' rfl; simp at hq; omega
      · cases hv
    · cases hv

/-- The cells of a slice's rows, in the world. -/
theorem Rel.rows (h : Rel base W0 β S w) {s : Sl} {z : Nat} {rows : List (List HV)} (hr : S.rows s z = some rows) {xv : Value} (hx : VRel β s.hv xv) (n : Nat) (hn : n ≤ s.len) :
    ∃ arr : Array Value, (Builtin.firstCells z n xv).run P w = .ok arr w ∧ arr.size = n * z ∧ RowsRel β (rows.take n) arr 0 z := by
  obtain ⟨sa, len, c⟩ := s
  simp only [HS.rows] at hr
  simp only [Sl.hv] at hx
  cases sa with
  | none =>
    simp only at hr
    split at hr
    · rename_i e
      cases hr
      subst e
      obtain rfl : n = 0 := by simpa using hn
      cases hx
      exact ⟨#[], by simp [Builtin.firstCells], by simp, fun i row hi => by simp at hi⟩
    · cases hr
  | some p =>
    obtain ⟨id, off⟩ := p
    simp only at hr
    split at hr
    · rename_i z' rws own hS
      split at hr
      · rename_i hc
        cases hr
        obtain ⟨rfl, hle⟩ := hc
        obtain ⟨b, o1, tot, arr, ty, fr, q1, q2, q3, q4, q5, q6⟩ := h.live hS
        simp only at hn
        have hmul : (off + n) * z' ≤ rws.length * z' := Nat.mul_le_mul_right z' (by omega)
        rw [Nat.add_mul] at hmul
        cases hx with
        | sl hb e1 e2 e3 e4 e5 =>
          rw [hb] at q1
          cases q1
          have hl := run_loadCells (P := P) (o := o1 + off * z') q2 (n * z') 0 #[] (by omega)
          simp only [Nat.add_zero, Array.empty_append] at hl
          refine ⟨arr.extract (o1 + off * z') (o1 + off * z' + n * z'), by simpa [Builtin.firstCells, loadCells] using hl, by simp; omega, fun i row hi => ?_⟩
          rw [List.take_take, List.getElem?_take] at hi
          split at hi
          · rename_i hin
            rw [List.getElem?_drop] at hi
            obtain ⟨g1, g2⟩ := q6 _ row hi
            refine ⟨g1, fun j v hv => ?_⟩
            obtain ⟨g3, v', g4, g5⟩ := g2 j v hv
            refine ⟨g3, v', ?_, g5⟩
            have hj : j < z' := by rw [← g1]; exact (List.getElem?_eq_some_iff.1 hv).1
            have hi2 : i * z' + j < n * z' := mul_lt_rows (by omega) hj
            rw [Array.getElem?_extract, if_pos (by omega), ← g4]
            congr 1
            rw [Nat.add_mul]; omega
          · cases hi
        | slEnd hb e2 e3 e4 =>
          obtain rfl : n = 0 := by simpa using hn
          exact ⟨#[], by simp [Builtin.firstCells, loadCells, loadCellsFrom], by simp, fun i row hi => by simp at hi⟩
      · cases hr
    · cases hr

theorem RowsRel.append {rows new : List (List HV)} {arr arr' : Array Value} {z : Nat} (h : RowsRel β rows arr 0 z) (hsz : arr.size = rows.length * z) (k : RowsRel β new arr' 0 z) : RowsRel β (rows ++ new) (arr ++ arr') 0 z := by
  intro i row hi
  rw [List.getElem?_append] at hi
  split at hi
  · rename_i hlt
    obtain ⟨g1, g2⟩ := h i row hi
    refine ⟨g1, fun j v hv => ?_⟩
    obtain ⟨g3, v', g4, g5⟩ := g2 j v hv
    refine ⟨g3, v', ?_, g5⟩
    rw [Array.getElem?_append, if_pos (Array.getElem?_eq_some_iff.1 g4).1]; exact g4
  · rename_i hlt
    obtain ⟨g1, g2⟩ := k _ row hi
    refine ⟨g1, fun j v hv => ?_⟩
    obtain ⟨g3, v', g4, g5⟩ := g2 j v hv
    refine ⟨g3, v', ?_, g5⟩
    have : rows.length * z ≤ i * z := Nat.mul_le_mul_right z (by omega)
    rw [Array.getElem?_append, if_neg (by omega), ← g4]
    congr 1
    rw [Nat.sub_mul]; omega
theorem RowsRel.weaken {rows : List (List HV)} {arr arr' : Array Value} {z : Nat} (h : RowsRel β rows arr 0 z) : RowsRel β rows (arr ++ arr') 0 z := by
  intro i row hi
  obtain ⟨g1, g2⟩ := h i row hi
  refine ⟨g1, fun j v hv => ?_⟩
  obtain ⟨g3, v', g4, g5⟩ := g2 j v hv
  exact ⟨g3, v', by rw [Array.getElem?_append, if_pos (Array.getElem?_eq_some_iff.1 g4).1]; exact g4, g5⟩
/-- New rows laid over an object's own from row i on. -/
theorem RowsRel.splice {rows new : List (List HV)} {arr arrN : Array Value} {o z i : Nat} (h : RowsRel β rows arr o z) (hn : RowsRel β new arrN 0 z) (hsz : arrN.size = new.length * z) (hi : i + new.length ≤ rows.length) (htot : o + rows.length * z ≤ arr.size) :
    RowsRel β (HL.splice rows i new) (over arr (o + i * z) arrN.toList) o z := by
  have hm : (i + new.length) * z ≤ rows.length * z := Nat.mul_le_mul_right z hi
  rw [Nat.add_mul] at hm
  intro q row hq
  have hlen1 : (rows.take i ++ new).length = i + new.length := by simp; omega
  unfold HL.splice at hq
  rw [List.getElem?_append, hlen1] at hq
  by_cases c1 : q < i + new.length
  · rw [if_pos c1, List.getElem?_append] at hq
    by_cases c2 : q < i
    · rw [if_pos (by simp; omega), List.getElem?_take, if_pos c2] at hq
      obtain ⟨g1, g2⟩ := h q row hq
      refine ⟨g1, fun j v hv => ?_⟩
      obtain ⟨g3, v', g4, g5⟩ := g2 j v hv
      have hj : j < z := by rw [← g1]; exact (List.getElem?_eq_some_iff.1 hv).1
      have := mul_lt_rows c2 hj
      refine ⟨g3, v', ?_, g5⟩
      rw [over_get _ _ _ _ (by simp [hsz]; omega), if_neg (by omega)]; exact g4
    · rw [if_neg (by simp; omega)] at hq
      have e1 : q - (rows.take i).length = q - i := by simp; omega
      rw [e1] at hq
      obtain ⟨g1, g2⟩ := hn _ row hq
      refine ⟨g1, fun j v hv => ?_⟩
      obtain ⟨g3, v', g4, g5⟩ := g2 j v hv
      have hj : j < z := by rw [← g1]; exact (List.getElem?_eq_some_iff.1 hv).1
      have h2 := mul_lt_rows (show q - i < new.length by omega) hj
      refine ⟨g3, v', ?_, g5⟩
      have e2 : q * z = i * z + (q - i) * z := by rw [← Nat.add_mul]; congr 1; omega
      rw [over_get _ _ _ _ (by simp [hsz]; omega), if_pos (by simp [hsz]; omega)]
      rw [show o + q * z + j - (o + i * z) = 0 + (q - i) * z + j by omega]
      simpa using g4
  · rw [if_neg c1, List.getElem?_drop] at hq
    rw [show i + new.length + (q - (i + new.length)) = q by omega] at hq
    obtain ⟨g1, g2⟩ := h q row hq
    refine ⟨g1, fun j v hv => ?_⟩
    obtain ⟨g3, v', g4, g5⟩ := g2 j v hv
    refine ⟨g3, v', ?_, g5⟩
    have hm2 : (i + new.length) * z ≤ q * z := Nat.mul_le_mul_right z (by omega)
    rw [Nat.add_mul] at hm2
    rw [over_get _ _ _ _ (by simp [hsz]; omega), if_neg (by simp [hsz]; omega)]; exact g4

theorem nextslicecap_le (need old : Nat) (h : old < need) : Builtin.nextslicecap need old ≤ 2 * need + 2000 := by
  unfold Builtin.nextslicecap
  split
  · omega
  · split
    · omega
    · unfold Builtin.growBy; split
      · omega
      · unfold Builtin.growBy; split
        · omega
        · unfold Builtin.growBy; split
          · omega
          · unfold Builtin.growBy; split
            · omega
            · unfold Builtin.growBy; omega

structure ElemAt (P : Program) (t e z : Nat) (zr : List HV) : Prop where
  slice : P.underlying t = some (.slice e)
  info : ∃ q zv, P.info? e = some q ∧ q.size = z ∧ q.bytes ≤ 4096 ∧ q.zero = some zv ∧ ∀ β, VRels β zr zv.cells
  pos : zr.length = z ∧ 0 < z
  flat : ∀ v ∈ zr, v.flat = true
theorem ElemAt.zero_one {t e z : Nat} {zr : List HV} (h : ElemAt P t e z zr) {q : TypeInfo} {zv : Value} (hq : P.info? e = some q) (hzv : q.zero = some zv) (n : Nat) : ∀ v' ∈ (Builtin.zeroCells zv.cells n).toList, v'.oneCell' = true := by
  obtain ⟨q', zv', h1, h2, h3, h4, h5⟩ := h.info
  rw [hq] at h1
  cases h1
  rw [hzv] at h4
  cases h4
  have hr := h5 (fun _ => .none)
  have hp : 0 < zv.cells.size := by rw [← hr.1, h.pos.1]; exact h.pos.2
  intro v' hv'
  simp only [Builtin.zeroCells, Array.toList_map, List.mem_map] at hv'
  obtain ⟨i, _, hi⟩ := hv'
  have hlt : i % zv.cells.size < zv.cells.size := Nat.mod_lt _ hp
  have hg : zv.cells[i % zv.cells.size]? = some v' := by
    rw [← hi, getElem!_pos zv.cells _ hlt, Array.getElem?_eq_getElem hlt]
  have hlz : i % zv.cells.size < zr.length := by rw [hr.1]; exact hlt
  exact ((hr.2 _ _ _ (List.getElem?_eq_getElem hlz) hg).one (h.flat _ (List.getElem_mem hlz))).1
theorem ElemAt.size {t e z : Nat} {zr : List HV} (h : ElemAt P t e z zr) : ∃ by_, SizeIs P e z by_ := by
  obtain ⟨q, zv, h1, h2, h3, _⟩ := h.info
  exact ⟨q.bytes, q, h1, h2, rfl⟩

/-- The second argument of an append is a slice or a text. -/
def NoInt (P : Program) (u : TypeId) : Prop := (∃ e, P.underlying u = some (.slice e)) ∨ P.underlying u = some .string

theorem append_fits {t e z : Nat} {zr : List HV} (he : ElemAt P t e z zr) {tys : Array TypeId} {u : TypeId} (h0 : tys[0]? = some t) (h1 : tys[1]? = some u) (hu : NoInt P u) {x : Option Addr} {len cap n : Nat} {src : Value} {arrN : Array Value} {ty : TypeId}
    (hn : (Builtin.lenOf src).run P w = .ok n w) (hcells : (Builtin.firstCells z n src).run P w = .ok arrN w) (hle : len + n ≤ cap) :
    (Builtin.append_ tys ty #[.slice x len cap, src]).run P w = ((match x with | some a => storeCells (a.add (len * z)) arrN.toList | none => pure ()).run P w).andThen fun _ w' => .ok (.slice x (len + n) cap) w' := by
  obtain ⟨q, zv, q1, q2, q3, q4, q5⟩ := he.info
  rcases hu with ⟨e', hd⟩ | hd <;> cases x <;> simp [Builtin.append_, h0, h1, underlying, he.slice, hd, Go.sizeOf, typeInfo, q1, q2, hn, hle, hcells]

theorem append_grows {t e z : Nat} {zr : List HV} (he : ElemAt P t e z zr) {tys : Array TypeId} {u : TypeId} (h0 : tys[0]? = some t) (h1 : tys[1]? = some u) (hu : NoInt P u) {x : Option Addr} {len cap n : Nat} {src : Value} {arrN arrO : Array Value} {ty : TypeId}
    (hn : ∀ d, (Builtin.lenOf src).run P { w with drawn := d } = .ok n { w with drawn := d }) (hcells : ∀ d, (Builtin.firstCells z n src).run P { w with drawn := d } = .ok arrN { w with drawn := d })
    (hold : ∀ d, (Builtin.firstCells z len (.slice x len cap)).run P { w with drawn := d } = .ok arrO { w with drawn := d }) (hlt : cap < len + n) (hbound : len + n ≤ 2147483648) :
    ∃ (newCap : Nat) (rest : Array Value), len + n ≤ newCap ∧ rest.size = (newCap - (len + n)) * z ∧ (∀ v' ∈ rest.toList, v'.oneCell' = true) ∧
      (Builtin.append_ tys ty #[.slice x len cap, src]).run P w = .ok (.slice (some ⟨w.heap.size, 0, none⟩) (len + n) newCap) { w with drawn := w.drawn + 1, heap := w.heap.push (.cells (arrO ++ arrN ++ rest) e) } := by
  obtain ⟨q, zv, q1, q2, q3, q4, q5⟩ := he.info
  have hzs : zv.cells.size = z := by rw [← (q5 (fun _ => .none)).1]; exact he.pos.1
  have hns := nextslicecap_le (len + n) cap hlt
  have hnum : Builtin.nextslicecap (len + n) cap * q.bytes ≤ 4294969296 * 4096 := Nat.mul_le_mul (by omega) q3
  have hmax : IntKind.i64.max = 9223372036854775807 := by decide
  refine ⟨(Question.appendCap (len + n) cap e).cut (w.tape w.drawn (.appendCap (len + n) cap e)), Builtin.zeroCells zv.cells ((Question.appendCap (len + n) cap e).cut (w.tape w.drawn (.appendCap (len + n) cap e)) - (len + n)), ?_, ?_, he.zero_one q1 q4 _, ?_⟩
  · simp only [Question.cut]; omega
  · simp [Builtin.zeroCells, hzs]
  · have n1 : ¬ len + n ≤ cap := by omega
    have hn0 := hn w.drawn
    have hn1 : (Builtin.lenOf src).run P w = .ok n w := hn0
    have hc : (Builtin.firstCells z n src).run P w.drew = .ok arrN w.drew := hcells (w.drawn + 1)
    have hO : (Builtin.firstCells z len (.slice x len cap)).run P w.drew = .ok arrO w.drew := hold (w.drawn + 1)
    have n4 : ¬ (281474976710656 < Builtin.nextslicecap (len + n) cap * q.bytes) := by omega
    have n5 : ¬ (9223372036854775807 < (len : Int) + (n : Int)) := by omega
    rcases hu with ⟨e', hd⟩ | hd <;> simp [Builtin.append_, h0, h1, hd, underlying, he.slice, Go.sizeOf, typeInfo, hn1, n1, n4, hmax, n5, q1, q2, q4, zeroValue, Question.forced, hO, hc, newRow] <;> rfl
end
end Go.Proofs.YtcphapfclncggaaDoor.HL
