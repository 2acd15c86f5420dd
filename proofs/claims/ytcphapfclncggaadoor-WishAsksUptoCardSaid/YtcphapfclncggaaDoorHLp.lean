/- The layer HL, part 15: plain laws of the abstract heap. -/
import Derived.Test.YtcphapfclncggaaDoorHLm
namespace Go.Proofs.YtcphapfclncggaaDoor.HL

theorem w64_id {n : Int} (h1 : -9223372036854775808 ≤ n) (h2 : n ≤ 9223372036854775807) : w64 n = n := by
  simp only [w64, IntKind.wrap, IntKind.signed, IntKind.bits]
  simp
  omega
theorem w8_id {n : Int} (h1 : 0 ≤ n) (h2 : n ≤ 255) : w8 n = n := by
  simp only [w8, IntKind.wrap, IntKind.signed, IntKind.bits]
  simp
  omega
theorem sat_lt {s : List UInt8} {i : Nat} (h : i < s.length) : sat s (i : Int) = some s[i] := by
  simp [sat, h]

/-! ### frames -/
/-- What stood below n stands as it did. -/
structure Fr (n : Nat) (S S' : HS) : Prop where
  le : S.next ≤ S'.next
  eq : ∀ id, id < n → S'.heap id = S.heap id
theorem Fr.refl (n : Nat) (S : HS) : Fr n S S := ⟨Nat.le_refl _, fun _ _ => rfl⟩
theorem Fr.trans {n : Nat} {A B C : HS} (h : Fr n A B) (k : Fr n B C) : Fr n A C := ⟨Nat.le_trans h.le k.le, fun i hi => (k.eq i hi).trans (h.eq i hi)⟩
theorem Fr.mono {n m : Nat} {A B : HS} (h : Fr n A B) (hm : m ≤ n) : Fr m A B := ⟨h.le, fun i hi => h.eq i (Nat.lt_of_lt_of_le hi hm)⟩
theorem Fr.newM {n : Nat} {S : HS} (h : n ≤ S.next) (o : HObj) (m : Nat) : Fr n S (S.newM o m) := ⟨Nat.le_succ _, fun i hi => by simp [HS.newM, show i ≠ S.next by omega]⟩
theorem Fr.new {n : Nat} {S : HS} (h : n ≤ S.next) (o : HObj) : Fr n S (S.new o) := Fr.newM h o 0
theorem Fr.put {n id : Nat} {S : HS} (h : n ≤ id) (o : HObj) : Fr n S (S.put id o) := ⟨Nat.le_refl _, fun i hi => by simp [HS.put, show i ≠ id by omega]⟩

theorem new_next (S : HS) (o : HObj) : (S.new o).next = S.next + 1 := rfl
theorem put_next (S : HS) (id : Nat) (o : HObj) : (S.put id o).next = S.next := rfl
theorem new_hereM (S : HS) (o : HObj) (m : Nat) : (S.newM o m).heap S.next = o := by simp [HS.newM]
theorem new_here (S : HS) (o : HObj) : (S.new o).heap S.next = o := new_hereM S o 0
theorem new_old {S : HS} {id : Nat} (o : HObj) (h : id < S.next) : (S.new o).heap id = S.heap id := by simp [HS.new, HS.newM, show id ≠ S.next by omega]
theorem new_oldM {S : HS} {id : Nat} (o : HObj) (m : Nat) (h : id < S.next) : (S.newM o m).heap id = S.heap id := by simp [HS.newM, show id ≠ S.next by omega]
theorem new_nextM (S : HS) (o : HObj) (m : Nat) : (S.newM o m).next = S.next + 1 := rfl
theorem put_here (S : HS) (id : Nat) (o : HObj) : (S.put id o).heap id = o := by simp [HS.put]
theorem put_other {S : HS} {i id : Nat} (o : HObj) (h : i ≠ id) : (S.put id o).heap i = S.heap i := by simp [HS.put, h]

/-! ### slices that one alone holds -/
/-- A slice of the frame's own (blocks from n on), what it holds. -/
inductive Vec (n : Nat) (S : HS) (z : Nat) : Sl → List (List HV) → Prop
  | nil {c : Option Nat} : Vec n S z ⟨none, 0, c⟩ []
  | open_ {id : Nat} {rows : List (List HV)} (h : S.heap id = .cells z rows true) (hn : n ≤ id) (hl : id < S.next) : Vec n S z ⟨some (id, 0), rows.length, none⟩ rows
  | capped {id c : Nat} {rows all : List (List HV)} (h : S.heap id = .cells z all true) (hn : n ≤ id) (hl : id < S.next) (hc : all.length = c) (hr : rows.length ≤ c) (ht : all.take rows.length = rows) : Vec n S z ⟨some (id, 0), rows.length, some c⟩ rows
theorem Vec.len {n z : Nat} {S : HS} {s : Sl} {rows : List (List HV)} (h : Vec n S z s rows) : s.len = rows.length := by cases h <;> rfl
theorem Vec.frame {n z m : Nat} {S S' : HS} {s : Sl} {rows : List (List HV)} (h : Vec n S z s rows) (hf : Fr m S S') (hm : S.next ≤ m) : Vec n S' z s rows := by
  cases h with
  | nil => exact .nil
  | open_ h hn hl => exact .open_ (by rw [hf.eq _ (by omega)]; exact h) hn (Nat.lt_of_lt_of_le hl hf.le)
  | capped h hn hl hc hr ht => exact .capped (by rw [hf.eq _ (by omega)]; exact h) hn (Nat.lt_of_lt_of_le hl hf.le) hc hr ht
theorem Vec.new {n z : Nat} {S : HS} {s : Sl} {rows : List (List HV)} (h : Vec n S z s rows) (o : HObj) : Vec n (S.new o) z s rows := h.frame (Fr.new (Nat.le_refl _) o) (Nat.le_refl _)
theorem Vec.rows {n z : Nat} {S : HS} {s : Sl} {rows : List (List HV)} (h : Vec n S z s rows) : S.rows s z = some rows := by
  cases h with
  | nil => simp [HS.rows]
  | open_ h hn hl => simp [HS.rows, h]
  | capped h hn hl hc hr ht => simp [HS.rows, h, ht]; omega
theorem Vec.app {n z : Nat} {S : HS} {s : Sl} {rows new : List (List HV)} (h : Vec n S z s rows) (hn : n ≤ S.next) (hl : rows.length + new.length ≤ 2147483648) : ∃ s' S', S.app s new z = some (s', S') ∧ Vec n S' z s' (rows ++ new) ∧ Fr n S S' := by
  unfold HS.app
  by_cases he : new = []
  · subst he; rw [if_pos rfl]; exact ⟨s, S, rfl, by simpa using h, Fr.refl _ _⟩
  rw [if_neg he, if_pos (by rw [h.len]; exact hl)]
  have hne : 0 < new.length := List.length_pos_iff.2 he
  cases h with
  | nil =>
    refine ⟨_, _, rfl, ?_, Fr.new hn _⟩
    exact .open_ (new_here _ _) hn (by simp [new_next])
  | @open_ id _ h hid hidl =>
    simp only [h, if_true]
    by_cases hfit : 0 + rows.length + new.length ≤ rows.length
    · exfalso; omega
    rw [if_neg hfit, if_pos (by simp)]
    refine ⟨_, _, rfl, ?_, (Fr.put hid _).trans (Fr.newM (by rw [put_next]; exact hn) _ _)⟩
    have hv : ((S.put id .dead).newM (.cells z (rows.drop 0 ++ new) true) (mfg (S.mrk id))).heap S.next = .cells z (rows ++ new) true := new_hereM _ _ _
    have := Vec.open_ (n := n) (z := z) hv hn (by simp [new_nextM, put_next])
    simpa using this
  | @capped id c _ all h hid hidl hc hr ht =>
    simp only [h, if_true]
    by_cases hfit : rows.length + new.length ≤ c
    · rw [if_pos hfit]
      refine ⟨_, _, rfl, ?_, Fr.put hid _⟩
      have hlen : (splice all (0 + rows.length) new).length = c := by
        simp [splice]; omega
      have e : (rows ++ new).length = rows.length + new.length := by simp
      rw [← e]
      refine .capped (put_here _ _ _) hid hidl hlen (by rw [e]; exact hfit) ?_
      unfold splice
      rw [Nat.zero_add, ht, e, List.take_left' (by simp)]
    · rw [if_neg hfit]
      refine ⟨_, _, rfl, ?_, Fr.new hn _⟩
      have hv : (S.new (.cells z ((all.drop 0).take rows.length ++ new) true)).heap S.next = .cells z (rows ++ new) true := by rw [List.drop_zero, ht]; exact new_here _ _
      have := Vec.open_ (n := n) (z := z) hv hn (by simp [new_next])
      simpa using this
theorem Vec.lit {n z : Nat} {S : HS} (rows : List (List HV)) (hn : n ≤ S.next) : Vec n (S.lit rows z).2 z (S.lit rows z).1 rows := by
  exact .capped (new_here _ _) hn (Nat.lt_succ_self _) rfl (Nat.le_refl _) (List.take_length ..)
theorem lit_fr {n z : Nat} {S : HS} (rows : List (List HV)) (hn : n ≤ S.next) : Fr n S (S.lit rows z).2 := Fr.new hn _
theorem Vec.make {n : Nat} {S : HS} {c : Int} {zr : List HV} (hn : n ≤ S.next) (hc : 0 ≤ c) (hc2 : c ≤ 2147483648) : ∃ s S', S.make 0 c zr = some (s, S') ∧ Vec n S' zr.length s [] ∧ Fr n S S' := by
  have e : S.make 0 c zr = some (⟨some (S.next, 0), 0, some c.toNat⟩, S.new (.cells zr.length (List.replicate c.toNat zr) true)) := by rw [HS.make, if_pos ⟨Int.le_refl _, hc, hc2⟩]; rfl
  exact ⟨_, _, e, .capped (rows := []) (new_here _ _) hn (Nat.lt_succ_self _) (by simp) (Nat.zero_le _) rfl, Fr.new hn _⟩
theorem Vec.makeN {m : Nat} {S : HS} {n c : Nat} {zr : List HV} (hn : m ≤ S.next) (hnc : n ≤ c) (hc2 : c ≤ 2147483648) : ∃ s S', S.make n c zr = some (s, S') ∧ Vec m S' zr.length s (List.replicate n zr) ∧ Fr m S S' := by
  have e : S.make n c zr = some (⟨some (S.next, 0), (List.replicate n zr).length, some c⟩, S.new (.cells zr.length (List.replicate c zr) true)) := by
    rw [HS.make, if_pos ⟨by omega, by omega, by omega⟩]
    simp
  exact ⟨_, _, e, .capped (new_here _ _) hn (Nat.lt_succ_self _) (by simp) (by simpa using hnc) (by simp [List.take_replicate]; omega), Fr.new hn _⟩

/-! ### bytes -/
theorem byteRow_one (b : UInt8) : byteRow [.int .u8 b.toNat] = some (b.toNat : Int) := rfl
theorem bytesOf_rows : ∀ (t : List UInt8), bytesOf (bytesRows t) = some t := by
  intro t
  induction t with
  | nil => rfl
  | cons b t ih =>
    unfold bytesOf bytesRows at ih ⊢
    rw [List.map_cons, List.mapM_cons, ih]
    simp [byteRow]
theorem Vec.text {n : Nat} {S : HS} {s : Sl} {t : List UInt8} (h : Vec n S 1 s (bytesRows t)) : S.text s = some t := by
  unfold HS.text
  rw [h.rows, Option.bind_some, bytesOf_rows]
theorem bytesRows_app (s t : List UInt8) : bytesRows (s ++ t) = bytesRows s ++ bytesRows t := by simp [bytesRows]
theorem bytesRows_len (s : List UInt8) : (bytesRows s).length = s.length := by simp [bytesRows]

/-! ### single cells -/
theorem get_cell {S : HS} {id : Nat} {v : HV} {b : Bool} (h : S.heap id = .cells 1 [[v]] b) : S.get (HA.cell0 id) = some v := by simp [HS.get, HS.row, h]
theorem ldS_cell {S : HS} {id : Nat} {s : List UInt8} {b : Bool} (h : S.heap id = .cells 1 [[.str s]] b) : S.ldS (HA.cell0 id) = some s := by rw [HS.ldS, get_cell h]; rfl
theorem ldB_cell {S : HS} {id : Nat} {s : Bool} {b : Bool} (h : S.heap id = .cells 1 [[.bool s]] b) : S.ldB (HA.cell0 id) = some s := by rw [HS.ldB, get_cell h]; rfl
theorem ldI_cell {S : HS} {id : Nat} {k : IntKind} {s : Int} {b : Bool} (h : S.heap id = .cells 1 [[.int k s]] b) : S.ldI k (HA.cell0 id) = some s := by rw [HS.ldI, get_cell h]; simp [dI]
theorem ldP_cell {S : HS} {id : Nat} {s : Option HA} {b : Bool} (h : S.heap id = .cells 1 [[.ptr s]] b) : S.ldP (HA.cell0 id) = some s := by rw [HS.ldP, get_cell h]; rfl
theorem ldSl_cell {S : HS} {id : Nat} {s : Sl} {b : Bool} (h : S.heap id = .cells 1 [[s.hv]] b) : S.ldSl (HA.cell0 id) = some s := by rw [HS.ldSl, get_cell h]; rfl
theorem ldM_cell {S : HS} {id : Nat} {s : Option Nat} {b : Bool} (h : S.heap id = .cells 1 [[.map s]] b) : S.ldM (HA.cell0 id) = some s := by rw [HS.ldM, get_cell h]; rfl
theorem sets_cell {S : HS} {id : Nat} {v : HV} (u : HV) (h : S.heap id = .cells 1 [[v]] true) : S.sets (HA.cell0 id) [u] = some (S.put id (.cells 1 [[u]] true)) := by simp [HS.sets, h]
theorem lp_at {S : HS} {l : Nat} {st : LoopState} {p : Option Code} (h : S.heap l = .loop st p) : S.lp l = some () := by simp [HS.lp, h]
theorem begin_at {S : HS} {l : Nat} {p : Option Code} (h : S.heap l = .loop .ready p) : S.begin_ l = some (S.put l (.loop .busy p)) := by simp [HS.begin_, h]
theorem endr_at {S : HS} {l : Nat} {st : LoopState} {p : Option Code} (j : Option Code) (h : S.heap l = .loop st p) : S.endr l j = some (.bool j.isNone, S.put l (.loop (if j.isNone then .ready else .done) j)) := by simp [HS.endr, h]
end Go.Proofs.YtcphapfclncggaaDoor.HL
