/- Functions of the library, by the kit's contracts, laid at this program. -/
import Derived.Test.YtpjabhpfaahgoaaProg
import Derived.Test.YtpjabhpfaahgoaaHLq
import Derived.Shelf.Strings.Cut
namespace Go.Proofs.Ytpjabhpfaahgoaa.X
open Go.Proofs.Ytpjabhpfaahgoaa.HL Go.RowKit
set_option linter.unusedVariables false
set_option maxRecDepth 100000
/-- The library's numbers here. -/
def ren : Go.Shelf.Ren := ⟨(fun | 145 => 26 | 217 => 31 | 219 => 33 | 220 => 30 | 224 => 38 | 225 => 37 | 266 => 34 | 267 => 39 | 314 => 40 | n => n), (fun | 3 => 3 | 4 => 4 | 5 => 5 | 9 => 9 | 46 => 67 | 51 => 68 | 59 => 55 | 146 => 69 | n => n), (fun | 1 => 0 | n => n)⟩
theorem lays145 : Go.Proofs.Lays.n145 Try.prog ren :=
  { mixed := by kernel_rfl, f145 := Try.func26.trans (congrArg some (by kernel_rfl)), f217 := Try.func31.trans (congrArg some (by kernel_rfl)), f219 := Try.func33.trans (congrArg some (by kernel_rfl)), f220 := Try.func30.trans (congrArg some (by kernel_rfl)), f224 := Try.func38.trans (congrArg some (by kernel_rfl)), f225 := Try.func37.trans (congrArg some (by kernel_rfl)), f266 := Try.func34.trans (congrArg some (by kernel_rfl)), f267 := Try.func39.trans (congrArg some (by kernel_rfl)), f314 := Try.func40.trans (congrArg some (by kernel_rfl)), t3 := Try.underlying3, a3 := Try.isAgg3, z3 := Try.sizeOf3, v3 := Try.zeroValue3, t4 := Try.underlying4, a4 := Try.isAgg4, z4 := Try.sizeOf4, v4 := Try.zeroValue4, t5 := Try.underlying5, a5 := Try.isAgg5, z5 := Try.sizeOf5, v5 := Try.zeroValue5, t9 := Try.underlying9, a9 := Try.isAgg9, z9 := Try.sizeOf9, v9 := Try.zeroValue9, t46 := Try.underlying67, a46 := Try.isAgg67, z46 := Try.sizeOf67, v46 := Try.zeroValue67, t51 := Try.underlying68, a51 := Try.isAgg68, z51 := Try.sizeOf68, v51 := Try.zeroValue68, t59 := Try.underlying55, a59 := Try.isAgg55, z59 := Try.sizeOf55, v59 := Try.zeroValue55, t146 := Try.underlying69, a146 := Try.isAgg69, z146 := Try.sizeOf69, v146 := Try.zeroValue69, g1 := by kernel_rfl }
/-- The library's variable holds some number. -/
structure GF (W0 : World) (base : Nat) : Prop where
  lt : 0 < base
  is : ∃ m, W0.cell? ⟨0, 0, none⟩ = some (.int .i64 m)
theorem GF.cell {W0 w : World} {base : Nat} (h : GF W0 base) (hb : Below base W0 w) : ∃ m, w.cell? ⟨0, 0, none⟩ = some (.int .i64 m) := by
  obtain ⟨m, hm⟩ := h.is
  refine ⟨m, ?_⟩
  simp only [World.cell?] at hm ⊢
  rw [hb.block 0 h.lt]
  exact hm
theorem below_drewN (w : World) (n : Nat) : Below w.heap.size w (w.drewN n) := ⟨rfl, rfl, rfl, Nat.le_refl _, fun _ _ => rfl⟩
namespace strings_Cut
theorem at_ : FnAt Try.prog 26 Try.f26 := ⟨Try.func26, by kernel_rfl⟩
theorem body : Try.f26.body = some ((Try.f26.body).getD .skip) := by kernel_rfl
def f (x0 : (List UInt8)) (x1 : (List UInt8)) : Option ((List UInt8) × (List UInt8) × Bool) :=
  if x0.length < 4294967281 then some (Lib.cut x0 x1) else none
theorem snd {base : Nat} {W0 : World} {β0 : Bt} (hG : GF W0 base) {x0 : (List UInt8)} {x1 : (List UInt8)} {S : HS} {p : (List UInt8) × (List UInt8) × Bool} (h : f x0 x1 = some p) : HCall Try.prog base W0 β0 26 [(.str x0), (.str x1)] S (fun v S1 => v = (.tup [(.str p.1), (.str p.2.1), (.bool p.2.2)]) ∧ S1 = S) := by
  unfold f at h
  split at h
  · rename_i hc
    cases h
    refine HCall.of_calls fun β w args' hr ha => ?_
    obtain ⟨u1, u2, rfl, r1, r2⟩ := ha.two
    cases r1; cases r2
    obtain ⟨m, hm⟩ := hG.cell hr.below
    refine ⟨_, ?_, (Any.strings_Cut lays145 ⟨x0.toArray⟩ ⟨x1.toArray⟩ m w (by simpa [size_mk] using hc) hm).mono fun e w' ⟨he, n, hw⟩ => ⟨he, hw ▸ below_drewN _ _⟩⟩
    exact .tup rfl (fun i v v' h1 h2 => by
      match i with
      | 0 => cases h1; cases h2; exact .str _
      | 1 => cases h1; cases h2; exact .str _
      | 2 => cases h1; cases h2; exact .bool _
      | i + 3 => simp at h1)
  · cases h
end strings_Cut
end Go.Proofs.Ytpjabhpfaahgoaa.X
