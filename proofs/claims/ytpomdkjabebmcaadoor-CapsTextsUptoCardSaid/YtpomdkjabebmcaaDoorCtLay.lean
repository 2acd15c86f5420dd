/- Functions of the library, by the kit's contracts, laid at this program. -/
import Derived.Test.YtpomdkjabebmcaaDoorProg
import Derived.Test.YtpomdkjabebmcaaDoorHLq
import Derived.Shelf.Strings.Count
import Derived.Shelf.Strings.OnBuilder
namespace Go.Proofs.YtpomdkjabebmcaaDoor.X
open Go.Proofs.YtpomdkjabebmcaaDoor.HL Go.RowKit
set_option linter.unusedVariables false
set_option maxRecDepth 100000
/-- The library's numbers here. -/
def ren : Go.Shelf.Ren := ⟨(fun | 138 => 27 | 143 => 28 | 156 => 18 | 165 => 23 | 166 => 24 | 169 => 25 | 195 => 32 | 217 => 39 | 218 => 34 | 219 => 35 | 224 => 41 | 225 => 40 | 240 => 30 | 241 => 31 | 266 => 43 | 267 => 42 | 276 => 36 | 277 => 37 | 314 => 44 | n => n), (fun | 0 => 0 | 3 => 3 | 4 => 4 | 5 => 5 | 9 => 9 | 20 => 20 | 31 => 33 | 37 => 43 | 46 => 63 | 51 => 68 | 70 => 42 | 72 => 45 | 75 => 48 | 76 => 49 | 80 => 51 | 127 => 55 | 146 => 69 | 164 => 59 | n => n), (fun | 1 => 0 | n => n)⟩
theorem lays138 : Go.Proofs.Lays.n138 Tryd.prog ren :=
  { mixed := by kernel_rfl, f138 := Tryd.func27.trans (congrArg some (by kernel_rfl)), f143 := Tryd.func28.trans (congrArg some (by kernel_rfl)), f195 := Tryd.func32.trans (congrArg some (by kernel_rfl)), f217 := Tryd.func39.trans (congrArg some (by kernel_rfl)), f218 := Tryd.func34.trans (congrArg some (by kernel_rfl)), f219 := Tryd.func35.trans (congrArg some (by kernel_rfl)), f224 := Tryd.func41.trans (congrArg some (by kernel_rfl)), f225 := Tryd.func40.trans (congrArg some (by kernel_rfl)), f266 := Tryd.func43.trans (congrArg some (by kernel_rfl)), f267 := Tryd.func42.trans (congrArg some (by kernel_rfl)), f314 := Tryd.func44.trans (congrArg some (by kernel_rfl)), t0 := Tryd.underlying0, a0 := Tryd.isAgg0, z0 := Tryd.sizeOf0, v0 := Tryd.zeroValue0, t3 := Tryd.underlying3, a3 := Tryd.isAgg3, z3 := Tryd.sizeOf3, v3 := Tryd.zeroValue3, t4 := Tryd.underlying4, a4 := Tryd.isAgg4, z4 := Tryd.sizeOf4, v4 := Tryd.zeroValue4, t5 := Tryd.underlying5, a5 := Tryd.isAgg5, z5 := Tryd.sizeOf5, v5 := Tryd.zeroValue5, t9 := Tryd.underlying9, a9 := Tryd.isAgg9, z9 := Tryd.sizeOf9, v9 := Tryd.zeroValue9, t46 := Tryd.underlying63, a46 := Tryd.isAgg63, z46 := Tryd.sizeOf63, v46 := Tryd.zeroValue63, t51 := Tryd.underlying68, a51 := Tryd.isAgg68, z51 := Tryd.sizeOf68, v51 := Tryd.zeroValue68, t146 := Tryd.underlying69, a146 := Tryd.isAgg69, z146 := Tryd.sizeOf69, v146 := Tryd.zeroValue69, g1 := by kernel_rfl }
theorem lays156 : Go.Proofs.Lays.n156 Tryd.prog ren :=
  { mixed := by kernel_rfl, f156 := Tryd.func18.trans (congrArg some (by kernel_rfl)), f165 := Tryd.func23.trans (congrArg some (by kernel_rfl)), f166 := Tryd.func24.trans (congrArg some (by kernel_rfl)), f169 := Tryd.func25.trans (congrArg some (by kernel_rfl)), f240 := Tryd.func30.trans (congrArg some (by kernel_rfl)), f241 := Tryd.func31.trans (congrArg some (by kernel_rfl)), f276 := Tryd.func36.trans (congrArg some (by kernel_rfl)), f277 := Tryd.func37.trans (congrArg some (by kernel_rfl)), t0 := Tryd.underlying0, a0 := Tryd.isAgg0, z0 := Tryd.sizeOf0, v0 := Tryd.zeroValue0, t3 := Tryd.underlying3, a3 := Tryd.isAgg3, z3 := Tryd.sizeOf3, v3 := Tryd.zeroValue3, t4 := Tryd.underlying4, a4 := Tryd.isAgg4, z4 := Tryd.sizeOf4, v4 := Tryd.zeroValue4, t9 := Tryd.underlying9, a9 := Tryd.isAgg9, z9 := Tryd.sizeOf9, v9 := Tryd.zeroValue9, t20 := Tryd.underlying20, a20 := Tryd.isAgg20, z20 := Tryd.sizeOf20, v20 := Tryd.zeroValue20, t31 := Tryd.underlying33, a31 := Tryd.isAgg33, z31 := Tryd.sizeOf33, v31 := Tryd.zeroValue33, t37 := Tryd.underlying43, a37 := Tryd.isAgg43, z37 := Tryd.sizeOf43, v37 := Tryd.zeroValue43, t70 := Tryd.underlying42, a70 := Tryd.isAgg42, z70 := Tryd.sizeOf42, v70 := Tryd.zeroValue42, t72 := Tryd.underlying45, a72 := Tryd.isAgg45, z72 := Tryd.sizeOf45, v72 := Tryd.zeroValue45, t75 := Tryd.underlying48, a75 := Tryd.isAgg48, z75 := Tryd.sizeOf48, v75 := Tryd.zeroValue48, t76 := Tryd.underlying49, a76 := Tryd.isAgg49, z76 := Tryd.sizeOf49, v76 := Tryd.zeroValue49, t127 := Tryd.underlying55, a127 := Tryd.isAgg55, z127 := Tryd.sizeOf55, v127 := Tryd.zeroValue55, t164 := Tryd.underlying59, a164 := Tryd.isAgg59, z164 := Tryd.sizeOf59, v164 := Tryd.zeroValue59 }
theorem bextra : Go.Proofs.Builder.Extra Tryd.prog ren :=
  { sizeBuilder := by kernel_rfl, liesBuilder := by kernel_rfl, t5 := Tryd.underlying5, a5 := Tryd.isAgg5, z5 := Tryd.sizeOf5, v5 := Tryd.zeroValue5, infoByte := by kernel_rfl, cellsByte := by kernel_rfl, sizeByte := by kernel_rfl, neB5 := by decide }
namespace strings_Count
theorem at_ : FnAt Tryd.prog 27 Tryd.f27 := ⟨Tryd.func27, by kernel_rfl⟩
theorem body : Tryd.f27.body = some ((Tryd.f27.body).getD .skip) := by kernel_rfl
def f (x0 : (List UInt8)) (x1 : (List UInt8)) : Option Int := match x1 with
  | [c] => some (Lib.countByte x0 c : Int)
  | _ => none
theorem snd {base : Nat} {W0 : World} {β0 : Bt} {x0 : (List UInt8)} {x1 : (List UInt8)} {S : HS} {p : Int} (h : f x0 x1 = some p) : HCall Tryd.prog base W0 β0 27 [(.str x0), (.str x1)] S (fun v S1 => v = (.int .i64 p) ∧ S1 = S) := by
  unfold f at h
  split at h
  · cases h
    refine HCall.of_calls fun β w args' hr ha => ?_
    obtain ⟨u1, u2, rfl, r1, r2⟩ := ha.two
    cases r1; cases r2
    exact ⟨_, .int _ _, (Any.strings_Count_one lays138 _ _ w).mono fun e w' ⟨he, hw⟩ => ⟨he, hw ▸ Below.refl _ _⟩⟩
  · cases h
end strings_Count
namespace strings_Join
theorem at_ : FnAt Tryd.prog 18 Tryd.f18 := ⟨Tryd.func18, by kernel_rfl⟩
theorem body : Tryd.f18.body = some ((Tryd.f18.body).getD .skip) := by kernel_rfl
def strsOf (rows : List (List HV)) : Option (List (List UInt8)) := rows.mapM fun r => match r with | [.str s] => some s | _ => none
theorem strsOf_rows : ∀ {rows : List (List HV)} {xs : List (List UInt8)}, strsOf rows = some xs → rows = xs.map fun s => [HV.str s] := by
  intro rows
  induction rows with
  | nil => intro xs h; simp [strsOf] at h; subst h; rfl
  | cons r rows ih =>
    intro xs h
    simp only [strsOf, List.mapM_cons] at h
    split at h
    · simp only [Option.pure_def, Option.bind_eq_bind, Option.bind_some] at h
      cases hc : strsOf rows with
      | none => simp only [strsOf] at hc; rw [hc] at h; cases h
      | some ys =>
        simp only [strsOf] at hc
        rw [hc] at h
        cases h
        rw [ih (by simp only [strsOf]; exact hc)]; rfl
    · cases h
def f (x0 : Sl) (x1 : (List UInt8)) (S : HS) : Option ((List UInt8) × HS) :=
  Option.bind (S.rows x0 1) fun rows => Option.bind (strsOf rows) fun xs =>
  if xs.length ≤ 140737488355328 ∧ (Lib.join xs x1).length ≤ 140737488355328 then some (Lib.join xs x1, S) else none
theorem snd {base : Nat} {W0 : World} {β0 : Bt} {x0 : Sl} {x1 : (List UInt8)} {S : HS} {p : (List UInt8) × HS} (h : f x0 x1 S = some p) : HCall Tryd.prog base W0 β0 18 [(Sl.hv x0), (.str x1)] S (fun v S1 => v = (.str p.1) ∧ S1 = p.2) := by
  unfold f at h
  obtain ⟨rows, hr, h⟩ := bindo h
  obtain ⟨xs, hx, h⟩ := bindo h
  obtain ⟨hc, h⟩ := gd h
  cases h
  have hrows := strsOf_rows hx
  have hl := rows_len hr
  rw [hrows, List.length_map] at hl
  refine HCall.of_calls fun β w args' hR ha => ?_
  obtain ⟨u1, u2, rfl, r1, r2⟩ := ha.two
  cases r2
  obtain ⟨sa, len, cp⟩ := x0
  simp only [Sl.hv] at r1
  simp only at hl
  have hnil : xs = [] → Lib.join xs x1 = [] := fun e => by rw [e]; rfl
  have hz : len = 0 → xs = [] := fun e => List.length_eq_zero_iff.1 (by omega)
  cases r1 with
  | slNil =>
    rw [hnil (hz rfl)]
    exact ⟨_, .str [], (Any.strings_Join_none lays156 bextra none 0 _ w).mono fun e w' ⟨he, hw⟩ => ⟨he, hw ▸ Below.refl _ _⟩⟩
  | slEnd hb e2 e3 e4 =>
    rw [hnil (hz rfl)]
    exact ⟨_, .str [], (Any.strings_Join_none lays156 bextra _ 0 _ w).mono fun e w' ⟨he, hw⟩ => ⟨he, hw ▸ Below.refl _ _⟩⟩
  | @sl id b o1 z1 n tot off _ cap _ hb e1 e2 e3 e4 e5 =>
    simp only [HS.rows] at hr
    split at hr
    · rename_i z' rows0 own hS
      split at hr
      · rename_i hcnd
        obtain ⟨rfl, hle⟩ := hcnd
        cases hr
        obtain ⟨b', o', tot', arr, t, fr, q1, q2, q3, q4, q5, q6⟩ := hR.live hS
        rw [hb] at q1
        cases q1
        have hmap : (xs.map fun s => (⟨s.toArray⟩ : ByteArray)).map (·.data.toList) = xs := by rw [List.map_map]; exact List.map_id' xs
        have hj := Any.strings_Join lays156 bextra b (o1 + off * 1) cap (xs.map fun s => (⟨s.toArray⟩ : ByteArray)) ⟨x1.toArray⟩ w (by
          intro j x hx
          rw [List.getElem?_map] at hx
          obtain ⟨s, hs, rfl⟩ := Option.map_eq_some_iff.1 hx
          have hrow : ((rows0.drop off).take len)[j]? = some [HV.str s] := by rw [hrows, List.getElem?_map, hs]; rfl
          rw [List.getElem?_take] at hrow
          split at hrow
          · rw [List.getElem?_drop] at hrow
            obtain ⟨_, g2⟩ := q6 _ _ hrow
            obtain ⟨_, v', g3, g4⟩ := g2 0 _ rfl
            cases g4
            simp only [World.cell?, q2]
            simpa [Nat.add_assoc] using g3
          · cases hrow) (hR.lt id b (by rw [hb]; rfl)) (by simpa using hc.1) (by simp; omega) (by rw [hmap]; exact hc.2)
        rw [hmap] at hj
        have hlen : (xs.map fun s => (⟨s.toArray⟩ : ByteArray)).length = len := by simp [hl]
        rw [hlen] at hj
        exact ⟨_, .str _, hj⟩
      · cases hr
    · cases hr
end strings_Join
end Go.Proofs.YtpomdkjabebmcaaDoor.X
