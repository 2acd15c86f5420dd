/- Functions of the program, each as a Lean function over the layer HL: a call answers what the Lean function answers, where it answers. Functions of the program, each as a Lean function over the layer HL: a call answers what the Lean function answers, where it answers. -/
import Derived.Test.YtbmfomkfmpppiaaGreatProg
import Derived.Test.YtbmfomkfmpppiaaGreatPart8
namespace Go.Proofs.YtbmfomkfmpppiaaGreat.X
open Go.Proofs.YtbmfomkfmpppiaaGreat.HL
set_option linter.unusedVariables false
set_option linter.unusedSimpArgs false
set_option maxRecDepth 20000
set_option maxHeartbeats 4000000
abbrev HP := Option HA
abbrev DS := DSound Tryz.prog
abbrev HT := @HSound Tryz.prog
abbrev HR := HRun Tryz.prog
abbrev HC := HCall Tryz.prog
abbrev z := τ
noncomputable section
variable {b : Nat} {w : World} {e : Bt}
variable {S : HS} {D : Dp} {H : Hd} {k : Nat} {Ga j q m F o N Gh i a G B M O K A C E I J L Q U V Z c d g r Kd Ke Kf Kg Kh Ki Kj Kk Kl Km Kn Ko Kp Kq Kr Ks Kt Ku Kv Kw Kx Ky Kz Ma Mb : HV}
theorem st120 : StructAt Tryz.prog 120 [(0,1),(1,1)] [(.int .i64 0),(Sl.hv Sl.nil)] := Zyo (zv := (.agg #[(.int .i64 0),(.slice none 0 0)])) (by kernel_rfl) (by kernel_rfl) (fun β => VRels.cons (.int _ _) (VRels.cons (.slNil none) (VRels.nil β)))
theorem st124 : StructAt Tryz.prog 124 [(0,1),(1,1),(2,1),(3,1)] [(.int .i64 0),(.int .i64 0),(.map none),(.map none)] := Zyo (zv := (.agg #[(.int .i64 0),(.int .i64 0),(.map none),(.map none)])) (by kernel_rfl) (by kernel_rfl) (fun β => VRels.cons (.int _ _) (VRels.cons (.int _ _) (VRels.cons (.mapNil) (VRels.cons (.mapNil) (VRels.nil β)))))
theorem fi28_7 : Zxy Tryz.prog 28 7 = some (7,3,1) := by kernel_rfl
theorem sc3 : Scalar Tryz.prog 3 := ⟨(.int .i64),by kernel_rfl,trivial⟩
theorem fi28_6 : Zxy Tryz.prog 28 6 = some (6,3,1) := by kernel_rfl
theorem ia28 : IsAgg Tryz.prog 28 15 := Zabc (by kernel_rfl) (by kernel_rfl)
theorem st83 : StructAt Tryz.prog 83 [(0,15),(15,1),(16,1)] [(.str []),(.str []),(.str []),(.str []),(.int .i64 0),(.int .i64 0),(.int .i64 0),(.int .i64 0),(.int .i64 0),(.int .i64 0),(.int .i64 0),(.int .i64 0),(.int .i64 0),(.int .i64 0),(.int .i64 0),(.ptr none),(.ptr none)] := Zyo (zv := (.agg #[(.string ⟨#[]⟩),(.string ⟨#[]⟩),(.string ⟨#[]⟩),(.string ⟨#[]⟩),(.int .i64 0),(.int .i64 0),(.int .i64 0),(.int .i64 0),(.int .i64 0),(.int .i64 0),(.int .i64 0),(.int .i64 0),(.int .i64 0),(.int .i64 0),(.int .i64 0),(.pointer none),(.pointer none)])) (by kernel_rfl) (by kernel_rfl) (fun β => VRels.cons (.str []) (VRels.cons (.str []) (VRels.cons (.str []) (VRels.cons (.str []) (VRels.cons (.int _ _) (VRels.cons (.int _ _) (VRels.cons (.int _ _) (VRels.cons (.int _ _) (VRels.cons (.int _ _) (VRels.cons (.int _ _) (VRels.cons (.int _ _) (VRels.cons (.int _ _) (VRels.cons (.int _ _) (VRels.cons (.int _ _) (VRels.cons (.int _ _) (VRels.cons (.ptrNil) (VRels.cons (.ptrNil) (VRels.nil β))))))))))))))))))
theorem Zyr : Tryz.prog.underlying 118 = some (.slice 133) := by kernel_rfl
theorem tu3 : Tryz.prog.underlying 3 = some (.int .i64) := by kernel_rfl
theorem Zafh : Tryz.prog.underlying 166 = some (.int .u64) := by kernel_rfl
theorem Zabr : ∃ q,Tryz.prog.info? 133 = some q ∧ q.size = 2 := size_mk' (by kernel_rfl)
theorem Zajk : IsAgg Tryz.prog 133 2 := Zabc (by kernel_rfl) (by kernel_rfl)
theorem tu9 : Tryz.prog.underlying 9 = some .string := by kernel_rfl
theorem Zajl : Zxy Tryz.prog 133 0 = some (0,9,1) := by kernel_rfl
theorem sc9 : Scalar Tryz.prog 9 := ⟨.string,by kernel_rfl,trivial⟩
theorem tu75 : Tryz.prog.underlying 75 = some (.pointer 120) := by kernel_rfl
theorem Zz3 : Zxy Tryz.prog 120 1 = some (1,118,1) := by kernel_rfl
theorem Zaec : Scalar Tryz.prog 118 := ⟨(.slice 133),by kernel_rfl,trivial⟩
theorem Zajm : Zxy Tryz.prog 133 1 = some (1,36,1) := by kernel_rfl
theorem sc36 : Scalar Tryz.prog 36 := ⟨(.pointer 114),by kernel_rfl,trivial⟩
theorem el127 : ElemAt Tryz.prog 127 5 1 [(.int .u8 0)] := Zzm (zv := (.int .u8 0)) (by_ := 1) (by kernel_rfl) (by kernel_rfl) (by decide) (fun β => VRels.cons (.int _ _) (VRels.nil β)) rfl (by decide) rfl
theorem tu127 : Tryz.prog.underlying 127 = some (.slice 5) := by kernel_rfl
theorem tu5 : Tryz.prog.underlying 5 = some (.int .u8) := by kernel_rfl
theorem tu57 : Tryz.prog.underlying 57 = some (.slice 9) := by kernel_rfl
theorem sz9 : ∃ q,Tryz.prog.info? 9 = some q ∧ q.size = 1 := size_mk' (by kernel_rfl)
theorem Zah3 : Tryz.prog.underlying 134 = some (.pointer 159) := by kernel_rfl
theorem Zaai : Zxy Tryz.prog 159 0 = some (0,57,1) := by kernel_rfl
theorem sc57 : Scalar Tryz.prog 57 := ⟨(.slice 9),by kernel_rfl,trivial⟩
theorem tu79 : Tryz.prog.underlying 79 = some (.pointer 124) := by kernel_rfl
theorem Zacz : Zxy Tryz.prog 124 2 = some (2,121,1) := by kernel_rfl
theorem Zajn : Scalar Tryz.prog 121 := ⟨(.map 3 134),by kernel_rfl,trivial⟩
theorem Zaed : Tryz.prog.underlying 121 = some (.map 3 134) := by kernel_rfl
theorem Zagc : (Tryz.prog.info? 134).map (·.zero) = some (some (.pointer none)) := by kernel_rfl
theorem tu42 : Tryz.prog.underlying 42 = some (.slice 3) := by kernel_rfl
theorem sz3 : ∃ q,Tryz.prog.info? 3 = some q ∧ q.size = 1 := size_mk' (by kernel_rfl)
theorem si3 : SizeIs Tryz.prog 3 1 8 := Zaar (by kernel_rfl)
theorem el42 : ElemAt Tryz.prog 42 3 1 [(.int .i64 0)] := Zzm (zv := (.int .i64 0)) (by_ := 8) (by kernel_rfl) (by kernel_rfl) (by decide) (fun β => VRels.cons (.int _ _) (VRels.nil β)) rfl (by decide) rfl
theorem ext116 : ExtAt Tryz.prog 116 (Extern.SlicesOverlaps.overlaps #[42,42] #[4]) := ⟨Tryz.f116,Tryz.func116,by kernel_rfl,by kernel_rfl,by kernel_rfl,by kernel_rfl⟩
theorem tu96 : Tryz.prog.underlying 96 = some (.pointer 138) := by kernel_rfl
theorem Zaau : Zxy Tryz.prog 138 0 = some (0,42,1) := by kernel_rfl
theorem sc42 : Scalar Tryz.prog 42 := ⟨(.slice 3),by kernel_rfl,trivial⟩
theorem sz42 : ∃ q,Tryz.prog.info? 42 = some q ∧ q.size = 1 := size_mk' (by kernel_rfl)
theorem st138 : StructAt Tryz.prog 138 [(0,1)] [(Sl.hv Sl.nil)] := Zyo (zv := (.agg #[(.slice none 0 0)])) (by kernel_rfl) (by kernel_rfl) (fun β => VRels.cons (.slNil none) (VRels.nil β))
theorem st114 : StructAt Tryz.prog 114 [(0,1),(1,1),(2,1),(3,1),(4,1),(5,1),(6,1),(7,1),(8,1)] [(.str []),(.int .i64 0),(Sl.hv Sl.nil),(.str []),(.int .i64 0),(.str []),(.int .i64 0),(Sl.hv Sl.nil),(.ptr none)] := Zyo (zv := (.agg #[(.string ⟨#[]⟩),(.int .i64 0),(.slice none 0 0),(.string ⟨#[]⟩),(.int .i64 0),(.string ⟨#[]⟩),(.int .i64 0),(.slice none 0 0),(.pointer none)])) (by kernel_rfl) (by kernel_rfl) (fun β => VRels.cons (.str []) (VRels.cons (.int _ _) (VRels.cons (.slNil none) (VRels.cons (.str []) (VRels.cons (.int _ _) (VRels.cons (.str []) (VRels.cons (.int _ _) (VRels.cons (.slNil none) (VRels.cons (.ptrNil) (VRels.nil β))))))))))
theorem si9 : SizeIs Tryz.prog 9 1 16 := Zaar (by kernel_rfl)
theorem el57 : ElemAt Tryz.prog 57 9 1 [(.str [])] := Zzm (zv := (.string ⟨#[]⟩)) (by_ := 16) (by kernel_rfl) (by kernel_rfl) (by decide) (fun β => VRels.cons (.str []) (VRels.nil β)) rfl (by decide) rfl
theorem ext133 : ExtAt Tryz.prog 133 (Extern.SlicesOverlaps.overlaps #[57,57] #[4]) := ⟨Tryz.f133,Tryz.func133,by kernel_rfl,by kernel_rfl,by kernel_rfl,by kernel_rfl⟩
theorem sz57 : ∃ q,Tryz.prog.info? 57 = some q ∧ q.size = 1 := size_mk' (by kernel_rfl)
theorem st159 : StructAt Tryz.prog 159 [(0,1)] [(Sl.hv Sl.nil)] := Zyo (zv := (.agg #[(.slice none 0 0)])) (by kernel_rfl) (by kernel_rfl) (fun β => VRels.cons (.slNil none) (VRels.nil β))
theorem Zah4 : Tryz.prog.underlying 122 = some (.map 9 96) := by kernel_rfl
theorem zi96 : (Tryz.prog.info? 96).map (·.zero) = some (some (.pointer none)) := by kernel_rfl
theorem fi124_0 : Zxy Tryz.prog 124 0 = some (0,3,1) := by kernel_rfl
theorem Zajo : Zxy Tryz.prog 124 3 = some (3,122,1) := by kernel_rfl
theorem sc122 : Scalar Tryz.prog 122 := ⟨(.map 9 96),by kernel_rfl,trivial⟩
theorem Zaee : Zxy Tryz.prog 124 1 = some (1,3,1) := by kernel_rfl
theorem Zaaj : SizeIs Tryz.prog 133 2 24 := Zaar (by kernel_rfl)
theorem Zab4 : ElemAt Tryz.prog 118 133 2 [(.str []),(.ptr none)] := Zzm (zv := (.agg #[(.string ⟨#[]⟩),(.pointer none)])) (by_ := 24) (by kernel_rfl) (by kernel_rfl) (by decide) (fun β => VRels.cons (.str []) (VRels.cons (.ptrNil) (VRels.nil β))) rfl (by decide) rfl
theorem ext108 : ExtAt Tryz.prog 108 (Extern.SlicesOverlaps.overlaps #[118,118] #[4]) := ⟨Tryz.f108,Tryz.func108,by kernel_rfl,by kernel_rfl,by kernel_rfl,by kernel_rfl⟩
theorem st133 : StructAt Tryz.prog 133 [(0,1),(1,1)] [(.str []),(.ptr none)] := Zyo (zv := (.agg #[(.string ⟨#[]⟩),(.pointer none)])) (by kernel_rfl) (by kernel_rfl) (fun β => VRels.cons (.str []) (VRels.cons (.ptrNil) (VRels.nil β)))
theorem fi120_0 : Zxy Tryz.prog 120 0 = some (0,3,1) := by kernel_rfl
theorem sz118 : ∃ q,Tryz.prog.info? 118 = some q ∧ q.size = 1 := size_mk' (by kernel_rfl)
theorem tu87 : Tryz.prog.underlying 87 = some (.slice 62) := by kernel_rfl
theorem sz62 : ∃ q,Tryz.prog.info? 62 = some q ∧ q.size = 3 := size_mk' (by kernel_rfl)
theorem ia62 : IsAgg Tryz.prog 62 3 := Zabc (by kernel_rfl) (by kernel_rfl)
theorem Zag7 : Zxy Tryz.prog 62 0 = some (0,3,1) := by kernel_rfl
theorem tu36 : Tryz.prog.underlying 36 = some (.pointer 114) := by kernel_rfl
theorem Zaav : Zxy Tryz.prog 114 2 = some (2,87,1) := by kernel_rfl
theorem sc87 : Scalar Tryz.prog 87 := ⟨(.slice 62),by kernel_rfl,trivial⟩
theorem si62 : SizeIs Tryz.prog 62 3 16 := Zaar (by kernel_rfl)
theorem el87 : ElemAt Tryz.prog 87 62 3 [(.int .i64 0),(.bool false),(.bool false)] := Zzm (zv := (.agg #[(.int .i64 0),(.bool false),(.bool false)])) (by_ := 16) (by kernel_rfl) (by kernel_rfl) (by decide) (fun β => VRels.cons (.int _ _) (VRels.cons (.bool _) (VRels.cons (.bool _) (VRels.nil β)))) rfl (by decide) rfl
theorem ext110 : ExtAt Tryz.prog 110 (Extern.SlicesOverlaps.overlaps #[87,87] #[4]) := ⟨Tryz.f110,Tryz.func110,by kernel_rfl,by kernel_rfl,by kernel_rfl,by kernel_rfl⟩
theorem st62 : StructAt Tryz.prog 62 [(0,1),(1,1),(2,1)] [(.int .i64 0),(.bool false),(.bool false)] := Zyo (zv := (.agg #[(.int .i64 0),(.bool false),(.bool false)])) (by kernel_rfl) (by kernel_rfl) (fun β => VRels.cons (.int _ _) (VRels.cons (.bool _) (VRels.cons (.bool _) (VRels.nil β))))
theorem sz87 : ∃ q,Tryz.prog.info? 87 = some q ∧ q.size = 1 := size_mk' (by kernel_rfl)
theorem fi114_8 : Zxy Tryz.prog 114 8 = some (8,96,1) := by kernel_rfl
theorem sc96 : Scalar Tryz.prog 96 := ⟨(.pointer 138),by kernel_rfl,trivial⟩
theorem tu25 : Tryz.prog.underlying 25 = some (.pointer 83) := by kernel_rfl
theorem Zab1 : Zxy Tryz.prog 83 1 = some (15,75,1) := by kernel_rfl
theorem sc75 : Scalar Tryz.prog 75 := ⟨(.pointer 120),by kernel_rfl,trivial⟩
theorem Zafi : Zxy Tryz.prog 83 2 = some (16,79,1) := by kernel_rfl
theorem sc79 : Scalar Tryz.prog 79 := ⟨(.pointer 124),by kernel_rfl,trivial⟩
theorem fi83_0 : Zxy Tryz.prog 83 0 = some (0,28,15) := by kernel_rfl
theorem fi28_8 : Zxy Tryz.prog 28 8 = some (8,3,1) := by kernel_rfl
theorem sc109 : Scalar Tryz.prog 109 := ⟨(.slice 36),by kernel_rfl,trivial⟩
theorem tu109 : Tryz.prog.underlying 109 = some (.slice 36) := by kernel_rfl
theorem sz36 : ∃ q,Tryz.prog.info? 36 = some q ∧ q.size = 1 := size_mk' (by kernel_rfl)
theorem zi109 : (Tryz.prog.info? 109).map (·.zero) = some (some (.slice none 0 0)) := by kernel_rfl
theorem zr109 : ∀ β,VRels β [(Sl.hv Sl.nil)] (Value.cells (.slice none 0 0)) := fun β => VRels.cons (.slNil none) (VRels.nil β)
theorem sc25 : Scalar Tryz.prog 25 := ⟨(.pointer 83),by kernel_rfl,trivial⟩
theorem el109 : ElemAt Tryz.prog 109 36 1 [(.ptr none)] := Zzm (zv := (.pointer none)) (by_ := 8) (by kernel_rfl) (by kernel_rfl) (by decide) (fun β => VRels.cons (.ptrNil) (VRels.nil β)) rfl (by decide) rfl
theorem sz109 : ∃ q,Tryz.prog.info? 109 = some q ∧ q.size = 1 := size_mk' (by kernel_rfl)
theorem zi62 : (Tryz.prog.info? 62).map (·.zero) = some (some (.agg #[(.int .i64 0),(.bool false),(.bool false)])) := by kernel_rfl
theorem zr62 : ∀ β,VRels β [(.int .i64 0),(.bool false),(.bool false)] (Value.cells (.agg #[(.int .i64 0),(.bool false),(.bool false)])) := fun β => VRels.cons (.int _ _) (VRels.cons (.bool _) (VRels.cons (.bool _) (VRels.nil β)))
theorem Zac7 : Tryz.prog.underlying 144 = some (.slice 42) := by kernel_rfl
theorem el144 : ElemAt Tryz.prog 144 42 1 [(Sl.hv Sl.nil)] := Zzm (zv := (.slice none 0 0)) (by_ := 24) (by kernel_rfl) (by kernel_rfl) (by decide) (fun β => VRels.cons (.slNil none) (VRels.nil β)) rfl (by decide) rfl
theorem sc144 : Scalar Tryz.prog 144 := ⟨(.slice 42),by kernel_rfl,trivial⟩
theorem zi144 : (Tryz.prog.info? 144).map (·.zero) = some (some (.slice none 0 0)) := by kernel_rfl
theorem zr144 : ∀ β,VRels β [(Sl.hv Sl.nil)] (Value.cells (.slice none 0 0)) := fun β => VRels.cons (.slNil none) (VRels.nil β)
theorem tu95 : Tryz.prog.underlying 95 = some (.slice 96) := by kernel_rfl
theorem sz96 : ∃ q,Tryz.prog.info? 96 = some q ∧ q.size = 1 := size_mk' (by kernel_rfl)
theorem sz144 : ∃ q,Tryz.prog.info? 144 = some q ∧ q.size = 1 := size_mk' (by kernel_rfl)
theorem sc46 : Scalar Tryz.prog 46 := ⟨(.func #[85] #[] false),by kernel_rfl,trivial⟩
theorem tu46 : Tryz.prog.underlying 46 = some (.func #[85] #[] false) := by kernel_rfl
theorem sc85 : Scalar Tryz.prog 85 := ⟨(.func #[3] #[4] false),by kernel_rfl,trivial⟩
theorem zi95 : (Tryz.prog.info? 95).map (·.zero) = some (some (.slice none 0 0)) := by kernel_rfl
theorem zr95 : ∀ β,VRels β [(Sl.hv Sl.nil)] (Value.cells (.slice none 0 0)) := fun β => VRels.cons (.slNil none) (VRels.nil β)
theorem zr96 : ∀ β,VRels β [(.ptr none)] (Value.cells (.pointer none)) := fun β => VRels.cons (.ptrNil) (VRels.nil β)
theorem sc95 : Scalar Tryz.prog 95 := ⟨(.slice 96),by kernel_rfl,trivial⟩
theorem el95 : ElemAt Tryz.prog 95 96 1 [(.ptr none)] := Zzm (zv := (.pointer none)) (by_ := 8) (by kernel_rfl) (by kernel_rfl) (by decide) (fun β => VRels.cons (.ptrNil) (VRels.nil β)) rfl (by decide) rfl
theorem sz95 : ∃ q,Tryz.prog.info? 95 = some q ∧ q.size = 1 := size_mk' (by kernel_rfl)
theorem zi42 : (Tryz.prog.info? 42).map (·.zero) = some (some (.slice none 0 0)) := by kernel_rfl
theorem zr42 : ∀ β,VRels β [(Sl.hv Sl.nil)] (Value.cells (.slice none 0 0)) := fun β => VRels.cons (.slNil none) (VRels.nil β)
theorem zi4 : (Tryz.prog.info? 4).map (·.zero) = some (some (.bool false)) := by kernel_rfl
theorem zr4 : ∀ β,VRels β [(.bool false)] (Value.cells (.bool false)) := fun β => VRels.cons (.bool _) (VRels.nil β)
theorem sz4 : ∃ q,Tryz.prog.info? 4 = some q ∧ q.size = 1 := size_mk' (by kernel_rfl)
theorem sc4 : Scalar Tryz.prog 4 := ⟨.bool,by kernel_rfl,trivial⟩
theorem st28 : StructAt Tryz.prog 28 [(0,1),(1,1),(2,1),(3,1),(4,1),(5,1),(6,1),(7,1),(8,1),(9,1),(10,1),(11,1),(12,1),(13,1),(14,1)] [(.str []),(.str []),(.str []),(.str []),(.int .i64 0),(.int .i64 0),(.int .i64 0),(.int .i64 0),(.int .i64 0),(.int .i64 0),(.int .i64 0),(.int .i64 0),(.int .i64 0),(.int .i64 0),(.int .i64 0)] := Zyo (zv := (.agg #[(.string ⟨#[]⟩),(.string ⟨#[]⟩),(.string ⟨#[]⟩),(.string ⟨#[]⟩),(.int .i64 0),(.int .i64 0),(.int .i64 0),(.int .i64 0),(.int .i64 0),(.int .i64 0),(.int .i64 0),(.int .i64 0),(.int .i64 0),(.int .i64 0),(.int .i64 0)])) (by kernel_rfl) (by kernel_rfl) (fun β => VRels.cons (.str []) (VRels.cons (.str []) (VRels.cons (.str []) (VRels.cons (.str []) (VRels.cons (.int _ _) (VRels.cons (.int _ _) (VRels.cons (.int _ _) (VRels.cons (.int _ _) (VRels.cons (.int _ _) (VRels.cons (.int _ _) (VRels.cons (.int _ _) (VRels.cons (.int _ _) (VRels.cons (.int _ _) (VRels.cons (.int _ _) (VRels.cons (.int _ _) (VRels.nil β))))))))))))))))
theorem tu22 : Tryz.prog.underlying 22 = some (.slice 34) := by kernel_rfl
theorem sz34 : ∃ q,Tryz.prog.info? 34 = some q ∧ q.size = 3 := size_mk' (by kernel_rfl)
theorem Zac0 : Zxy Tryz.prog 34 2 = some (2,9,1) := by kernel_rfl
theorem Zz7 : Zxy Tryz.prog 32 3 = some (3,30,1) := by kernel_rfl
theorem sc30 : Scalar Tryz.prog 30 := ⟨(.slice 39),by kernel_rfl,trivial⟩
theorem tu30 : Tryz.prog.underlying 30 = some (.slice 39) := by kernel_rfl
theorem sz39 : ∃ q,Tryz.prog.info? 39 = some q ∧ q.size = 1 := size_mk' (by kernel_rfl)
theorem sc39 : Scalar Tryz.prog 39 := ⟨(.pointer 89),by kernel_rfl,trivial⟩
theorem Zadk : Zxy Tryz.prog 89 0 = some (0,9,1) := by kernel_rfl
theorem Zaam : Zxy Tryz.prog 89 2 = some (2,87,1) := by kernel_rfl
theorem tu39 : Tryz.prog.underlying 39 = some (.pointer 89) := by kernel_rfl
theorem ij89 : ((Tryz.prog.info? 89).map fun j => decide (j.size ≠ 0)) = some true := by kernel_rfl
theorem el30 : ElemAt Tryz.prog 30 39 1 [(.ptr none)] := Zzm (zv := (.pointer none)) (by_ := 8) (by kernel_rfl) (by kernel_rfl) (by decide) (fun β => VRels.cons (.ptrNil) (VRels.nil β)) rfl (by decide) rfl
theorem sz30 : ∃ q,Tryz.prog.info? 30 = some q ∧ q.size = 1 := size_mk' (by kernel_rfl)
theorem fi114_0 : Zxy Tryz.prog 114 0 = some (0,9,1) := by kernel_rfl
theorem zi3 : (Tryz.prog.info? 3).map (·.zero) = some (some (.int .i64 0)) := by kernel_rfl
theorem zr3 : ∀ β,VRels β [(.int .i64 0)] (Value.cells (.int .i64 0)) := fun β => VRels.cons (.int _ _) (VRels.nil β)
theorem si39 : SizeIs Tryz.prog 39 1 8 := Zaar (by kernel_rfl)
theorem st89 : StructAt Tryz.prog 89 [(0,1),(1,1),(2,1),(3,1),(4,1),(5,1),(6,1),(7,1),(8,1)] [(.str []),(.int .i64 0),(Sl.hv Sl.nil),(.str []),(.str []),(.str []),(.int .i64 0),(Sl.hv Sl.nil),(Sl.hv Sl.nil)] := Zyo (zv := (.agg #[(.string ⟨#[]⟩),(.int .i64 0),(.slice none 0 0),(.string ⟨#[]⟩),(.string ⟨#[]⟩),(.string ⟨#[]⟩),(.int .i64 0),(.slice none 0 0),(.slice none 0 0)])) (by kernel_rfl) (by kernel_rfl) (fun β => VRels.cons (.str []) (VRels.cons (.int _ _) (VRels.cons (.slNil none) (VRels.cons (.str []) (VRels.cons (.str []) (VRels.cons (.str []) (VRels.cons (.int _ _) (VRels.cons (.slNil none) (VRels.cons (.slNil none) (VRels.nil β))))))))))
theorem fi89_8 : Zxy Tryz.prog 89 8 = some (8,42,1) := by kernel_rfl
theorem fi32_1 : Zxy Tryz.prog 32 1 = some (1,3,1) := by kernel_rfl
theorem fi32_2 : Zxy Tryz.prog 32 2 = some (2,3,1) := by kernel_rfl
theorem fi32_0 : Zxy Tryz.prog 32 0 = some (0,3,1) := by kernel_rfl
theorem zi133 : (Tryz.prog.info? 133).map (·.zero) = some (some (.agg #[(.string ⟨#[]⟩),(.pointer none)])) := by kernel_rfl
theorem zr133 : ∀ β,VRels β [(.str []),(.ptr none)] (Value.cells (.agg #[(.string ⟨#[]⟩),(.pointer none)])) := fun β => VRels.cons (.str []) (VRels.cons (.ptrNil) (VRels.nil β))
theorem sc107 : Scalar Tryz.prog 107 := ⟨(.func #[147] #[] false),by kernel_rfl,trivial⟩
theorem sc105 : Scalar Tryz.prog 105 := ⟨(.func #[36] #[4] false),by kernel_rfl,trivial⟩
theorem zi107 : (Tryz.prog.info? 107).map (·.zero) = some (some .nilFunc) := by kernel_rfl
theorem zr107 : ∀ β,VRels β [.nilFn] (Value.cells .nilFunc) := fun β => VRels.cons (.nilFn) (VRels.nil β)
theorem sz107 : ∃ q,Tryz.prog.info? 107 = some q ∧ q.size = 1 := size_mk' (by kernel_rfl)
theorem tu54 : Tryz.prog.underlying 54 = some (.func #[105] #[] false) := by kernel_rfl
theorem eg62 : Tryz.prog.eqGuardType Tryz.prog.depth 62 = false := by kernel_rfl
theorem sk62 : Zabj Tryz.prog 62 [0,2,2] = true := by kernel_rfl
theorem st32 : StructAt Tryz.prog 32 [(0,1),(1,1),(2,1),(3,1)] [(.int .i64 0),(.int .i64 0),(.int .i64 0),(Sl.hv Sl.nil)] := Zyo (zv := (.agg #[(.int .i64 0),(.int .i64 0),(.int .i64 0),(.slice none 0 0)])) (by kernel_rfl) (by kernel_rfl) (fun β => VRels.cons (.int _ _) (VRels.cons (.int _ _) (VRels.cons (.int _ _) (VRels.cons (.slNil none) (VRels.nil β)))))
theorem ia34 : IsAgg Tryz.prog 34 3 := Zabc (by kernel_rfl) (by kernel_rfl)
theorem zi34 : (Tryz.prog.info? 34).map (·.zero) = some (some (.agg #[(.int .i64 0),(.int .i64 0),(.string ⟨#[]⟩)])) := by kernel_rfl
theorem zr34 : ∀ β,VRels β [(.int .i64 0),(.int .i64 0),(.str [])] (Value.cells (.agg #[(.int .i64 0),(.int .i64 0),(.string ⟨#[]⟩)])) := fun β => VRels.cons (.int _ _) (VRels.cons (.int _ _) (VRels.cons (.str []) (VRels.nil β)))
theorem fi34_0 : Zxy Tryz.prog 34 0 = some (0,3,1) := by kernel_rfl
theorem Zaa5 : Zxy Tryz.prog 34 1 = some (1,3,1) := by kernel_rfl
theorem tu4 : Tryz.prog.underlying 4 = some .bool := by kernel_rfl
namespace Y75
theorem at_ : FnAt Tryz.prog 36 Tryz.f36 := ⟨Tryz.func36,by kernel_rfl⟩
def d0 := (Tryz.f36.body).getD .skip
def r1 := kT d0
def r4 := kT (kY d0)
def r7 := kT (kY (kY d0))
def r11 := kT (kW d0)
def c10 : Code := .seq (.region 3 r11 false) .ret
def c5 : Code := .cond (.tmp 9) (.seq (.region 2 r7 false) .ret) .skip
def c0 : Code := .seq (.region 0 r1 false) (.seq (.seq (.region 1 r4 false) c5) c10)
theorem body : Tryz.f36.body = some c0 := by kernel_rfl
def J0  (y0 : Int) (y9 : Bool) (S : HS) : Option ((HP × Int) × HS) :=
 (if y9 = true then
 some ((none,2),S) else
 (letv (HS.new S (.cells 2 [[(.int .i64 y0),(Sl.hv Sl.nil)]] true)) fun p3 =>
 some (((some (HA.cell0 S.next)),0),p3)))
theorem J0_snd   {y0 : Int} {y9 : Bool} {p : (HP × Int) × HS} (h : J0  y0 y9 S = some p) : HR b w e 36 none [.code c5,.code c10] ⟨[(.int .i64 y0),j,q,m,F,o,N,Gh,i,(.bool y9),G,B,M],[]⟩ S (RR (.tup [(.ptr p.1.1),(.int .i64 p.1.2)]) p.2) := by
 unfold J0 at h
 rcases ifc h with ⟨hc2,h⟩ | ⟨hc2,h⟩
 ·refine Zxb rfl (.tmp rfl) hc2 (qT rfl rfl rfl (qS 2 rfl (Zxa · (.const fun _ => .ptrNil)) (qS 3 rfl (Zxa · (.int _ _)) (rE ?_))))
  cases h
  exact Zxl rfl at_.at_ rfl (res2 rfl rfl rfl) ⟨rfl,rfl⟩
 ·obtain ⟨p3,hp3,h⟩ := leto h
  refine Zxc rfl (.tmp rfl) (bfalse hc2) (Zxd rfl (qT rfl rfl rfl (uM 10 rfl rfl (qS 11 rfl (Zy1 (is := [0]) (xs := [(.tmp 10)]) (r := [(.int .i64 y0),(Sl.hv Sl.nil)]) st120 · rfl rfl (ev1 rfl) rfl) (qS 12 rfl (Zyf · (.tmp rfl) (Yav _) rfl hp3) (uA 2 rfl rfl ?_))))))
  try dsimp only [w0,w1,w2,w3]
  refine qS 3 rfl (Zxa · (.int _ _)) (rE ?_)
  cases h
  exact Zxl rfl at_.at_ rfl (res2 rfl rfl rfl) ⟨rfl,rfl⟩
def f (x0 : Int) (S : HS) : Option ((HP × Int) × HS) :=
 (if x0 < 0 then
 J0 x0 true S else
 J0 x0 (decide (x0 > 100000)) S)
theorem snd {x0 : Int}  {p : (HP × Int) × HS} (h : f x0 S = some p) : HC b w e 36 [(.int .i64 x0)] S (RR (.tup [(.ptr p.1.1),(.int .i64 p.1.2)]) p.2) := by
 unfold f at h
 refine HCall.of_run at_.at_ body ?_
 show HR b w e 36 none [.code c0] ⟨[(.int .i64 x0),z,z,z,z,z,z,z,z,z,z,z,z],[]⟩ S _
 refine qT rfl rfl rfl (qS 2 rfl (Zxa · (.const fun _ => .ptrNil)) (qS 3 rfl (Zxa · (.int _ _)) (rE ?_)))
 dsimp only [w0,w1,w2,w3]
 refine qQ rfl (qT rfl rfl rfl (uM 4 rfl rfl (uC 5 rfl rfl rfl (uM 6 rfl rfl ?_))))
 rcases ifc h with ⟨hc1,h⟩ | ⟨hc1,h⟩
 ·refine Zxi (dst := some 7) (t := 6) rfl rfl rfl (decide_eq_true hc1) ?_
  try dsimp only [w0,w1,w2,w3]
  refine Zxi (dst := some 8) (t := 6) rfl rfl rfl (decide_eq_true hc1) (qS 9 rfl (Zxh · (.tmp rfl) (decide_eq_true hc1) (.bool _)) (rE ?_))
  dsimp only [w0,w1,w2,w3]
  exact J0_snd  h
 ·refine qG 6 7 rfl (decide_eq_false hc1) (oM · rfl) ?_
  try dsimp only [w0,w1,w2,w3]
  refine qG 6 8 rfl (decide_eq_false hc1) (oC · rfl rfl) (qS 9 rfl (Zxm · (.tmp rfl) (decide_eq_false hc1) (.tmp rfl)) (rE ?_))
  dsimp only [w0,w1,w2,w3]
  exact J0_snd  h
end Y75
namespace Y57
theorem at_ : FnAt Tryz.prog 37 Tryz.f37 := ⟨Tryz.func37,by kernel_rfl⟩
def d0 := (Tryz.f37.body).getD .skip
def r1 := kT d0
def r4 := kT (kY d0)
def r7 := kT (kY (kY d0))
def r11 := kT (kW d0)
def c10 : Code := .seq (.region 3 r11 false) .ret
def c5 : Code := .cond (.tmp 9) (.seq (.region 2 r7 false) .ret) .skip
def c0 : Code := .seq (.region 0 r1 false) (.seq (.seq (.region 1 r4 false) c5) c10)
theorem body : Tryz.f37.body = some c0 := by kernel_rfl
def J0  (y0 : Int) (y9 : Bool) (S : HS) : Option ((HP × Int) × HS) :=
 (if y9 = true then
 some ((none,2),S) else
 (letv (HS.new S (.map [])) fun p3 =>
 (letv (HS.new p3 (.map [])) fun p4 =>
 (letv (HS.new p4 (.cells 4 [[(.int .i64 y0),(.int .i64 0),(.map (some S.next)),(.map (some p3.next))]] true)) fun p5 =>
 some (((some (HA.cell0 p4.next)),0),p5)))))
theorem J0_snd   {y0 : Int} {y9 : Bool} {p : (HP × Int) × HS} (h : J0  y0 y9 S = some p) : HR b w e 37 none [.code c5,.code c10] ⟨[(.int .i64 y0),j,q,m,F,o,N,Gh,i,(.bool y9),G,B,M,O,K],[]⟩ S (RR (.tup [(.ptr p.1.1),(.int .i64 p.1.2)]) p.2) := by
 unfold J0 at h
 rcases ifc h with ⟨hc2,h⟩ | ⟨hc2,h⟩
 ·refine Zxb rfl (.tmp rfl) hc2 (qT rfl rfl rfl (qS 2 rfl (Zxa · (.const fun _ => .ptrNil)) (qS 3 rfl (Zxa · (.int _ _)) (rE ?_))))
  cases h
  exact Zxl rfl at_.at_ rfl (res2 rfl rfl rfl) ⟨rfl,rfl⟩
 ·obtain ⟨p3,hp3,h⟩ := leto h
  obtain ⟨p4,hp4,h⟩ := leto h
  refine Zxc rfl (.tmp rfl) (bfalse hc2) (Zxd rfl (qT rfl rfl rfl (uM 10 rfl rfl (qS 11 rfl (Zabz · hp3) (qS 12 rfl (Zabz · hp4) (qS 13 rfl (Zy1 (is := [0,2,3]) (xs := [(.tmp 10),(.tmp 11),(.tmp 12)]) (r := [(.int .i64 y0),(.int .i64 0),(.map (some S.next)),(.map (some p3.next))]) st124 · rfl rfl (ev3 rfl rfl rfl) rfl) ?_))))))
  try dsimp only [w0,w1,w2,w3]
  obtain ⟨p5,hp5,h⟩ := leto h
  refine qS 14 rfl (Zyf · (.tmp rfl) (Yav _) rfl hp5) (uA 2 rfl rfl (qS 3 rfl (Zxa · (.int _ _)) (rE ?_)))
  cases h
  exact Zxl rfl at_.at_ rfl (res2 rfl rfl rfl) ⟨rfl,rfl⟩
def f (x0 : Int) (S : HS) : Option ((HP × Int) × HS) :=
 (if x0 < 0 then
 J0 x0 true S else
 J0 x0 (decide (x0 > 100000)) S)
theorem snd {x0 : Int}  {p : (HP × Int) × HS} (h : f x0 S = some p) : HC b w e 37 [(.int .i64 x0)] S (RR (.tup [(.ptr p.1.1),(.int .i64 p.1.2)]) p.2) := by
 unfold f at h
 refine HCall.of_run at_.at_ body ?_
 show HR b w e 37 none [.code c0] ⟨[(.int .i64 x0),z,z,z,z,z,z,z,z,z,z,z,z,z,z],[]⟩ S _
 refine qT rfl rfl rfl (qS 2 rfl (Zxa · (.const fun _ => .ptrNil)) (qS 3 rfl (Zxa · (.int _ _)) (rE ?_)))
 dsimp only [w0,w1,w2,w3]
 refine qQ rfl (qT rfl rfl rfl (uM 4 rfl rfl (uC 5 rfl rfl rfl (uM 6 rfl rfl ?_))))
 rcases ifc h with ⟨hc1,h⟩ | ⟨hc1,h⟩
 ·refine Zxi (dst := some 7) (t := 6) rfl rfl rfl (decide_eq_true hc1) ?_
  try dsimp only [w0,w1,w2,w3]
  refine Zxi (dst := some 8) (t := 6) rfl rfl rfl (decide_eq_true hc1) (qS 9 rfl (Zxh · (.tmp rfl) (decide_eq_true hc1) (.bool _)) (rE ?_))
  dsimp only [w0,w1,w2,w3]
  exact J0_snd  h
 ·refine qG 6 7 rfl (decide_eq_false hc1) (oM · rfl) ?_
  try dsimp only [w0,w1,w2,w3]
  refine qG 6 8 rfl (decide_eq_false hc1) (oC · rfl rfl) (qS 9 rfl (Zxm · (.tmp rfl) (decide_eq_false hc1) (.tmp rfl)) (rE ?_))
  dsimp only [w0,w1,w2,w3]
  exact J0_snd  h
end Y57
namespace Y30
theorem at_ : FnAt Tryz.prog 9 Tryz.f9 := ⟨Tryz.func9,by kernel_rfl⟩
def d0 := (Tryz.f9.body).getD .skip
def r1 := kT d0
def r3 := kT (kB d0)
def r5 := kT (kW d0)
def r7 := kT (kW (kB d0))
def c0 : Code := .seq (.region 0 r1 false) (.seq (.region 1 r3 false) (.seq (.region 2 r5 false) (.seq (.region 3 r7 false) .ret)))
theorem body : Tryz.f9.body = some c0 := by kernel_rfl
def f (x0_0 : (List UInt8)) (x0_1 : (List UInt8)) (x0_2 : (List UInt8)) (x0_3 : (List UInt8)) (x0_4 : Int) (x0_5 : Int) (x0_6 : Int) (x0_7 : Int) (x0_8 : Int) (x0_9 : Int) (x0_10 : Int) (x0_11 : Int) (x0_12 : Int) (x0_13 : Int) (x0_14 : Int) (S : HS) : Option ((HP) × HS) :=
 (letv (HS.new S (.cells 15 [[(.str x0_0),(.str x0_1),(.str x0_2),(.str x0_3),(.int .i64 x0_4),(.int .i64 x0_5),(.int .i64 x0_6),(.int .i64 x0_7),(.int .i64 x0_8),(.int .i64 x0_9),(.int .i64 x0_10),(.int .i64 x0_11),(.int .i64 x0_12),(.int .i64 x0_13),(.int .i64 x0_14)]] true)) fun p1 =>
 ((p1.ldI .i64 (HA.fld (HA.cell0 S.next) 7)).bind fun p2 =>
 ((Y75.f (mx 0 (mn p2 1000)) p1).bind fun p3 =>
 ((p3.2.ldI .i64 (HA.fld (HA.cell0 S.next) 6)).bind fun p4 =>
 ((Y57.f (mx 0 (mn p4 1000)) p3.2).bind fun p5 =>
 ((p5.2.ldS (HA.fld (HA.cell0 S.next) 0)).bind fun p6 =>
 ((p5.2.ldS (HA.fld (HA.cell0 S.next) 1)).bind fun p7 =>
 ((p5.2.ldS (HA.fld (HA.cell0 S.next) 2)).bind fun p8 =>
 ((p5.2.ldS (HA.fld (HA.cell0 S.next) 3)).bind fun p9 =>
 ((p5.2.ldI .i64 (HA.fld (HA.cell0 S.next) 4)).bind fun p10 =>
 ((p5.2.ldI .i64 (HA.fld (HA.cell0 S.next) 5)).bind fun p11 =>
 ((p5.2.ldI .i64 (HA.fld (HA.cell0 S.next) 6)).bind fun p12 =>
 ((p5.2.ldI .i64 (HA.fld (HA.cell0 S.next) 7)).bind fun p13 =>
 ((p5.2.ldI .i64 (HA.fld (HA.cell0 S.next) 8)).bind fun p14 =>
 ((p5.2.ldI .i64 (HA.fld (HA.cell0 S.next) 9)).bind fun p15 =>
 ((p5.2.ldI .i64 (HA.fld (HA.cell0 S.next) 10)).bind fun p16 =>
 ((p5.2.ldI .i64 (HA.fld (HA.cell0 S.next) 11)).bind fun p17 =>
 ((p5.2.ldI .i64 (HA.fld (HA.cell0 S.next) 12)).bind fun p18 =>
 ((p5.2.ldI .i64 (HA.fld (HA.cell0 S.next) 13)).bind fun p19 =>
 ((p5.2.ldI .i64 (HA.fld (HA.cell0 S.next) 14)).bind fun p20 =>
 (letv (HS.new p5.2 (.cells 17 [[(.str p6),(.str p7),(.str p8),(.str p9),(.int .i64 p10),(.int .i64 p11),(.int .i64 p12),(.int .i64 p13),(.int .i64 p14),(.int .i64 p15),(.int .i64 p16),(.int .i64 p17),(.int .i64 p18),(.int .i64 p19),(.int .i64 p20),(.ptr p3.1.1),(.ptr p5.1.1)]] true)) fun p21 =>
 some ((some (HA.cell0 p5.2.next)),p21))))))))))))))))))))))
theorem snd {x0_0 : (List UInt8)} {x0_1 : (List UInt8)} {x0_2 : (List UInt8)} {x0_3 : (List UInt8)} {x0_4 : Int} {x0_5 : Int} {x0_6 : Int} {x0_7 : Int} {x0_8 : Int} {x0_9 : Int} {x0_10 : Int} {x0_11 : Int} {x0_12 : Int} {x0_13 : Int} {x0_14 : Int}  {p : (HP) × HS} (h : f x0_0 x0_1 x0_2 x0_3 x0_4 x0_5 x0_6 x0_7 x0_8 x0_9 x0_10 x0_11 x0_12 x0_13 x0_14 S = some p) : HC b w e 9 [(.agg [(.str x0_0),(.str x0_1),(.str x0_2),(.str x0_3),(.int .i64 x0_4),(.int .i64 x0_5),(.int .i64 x0_6),(.int .i64 x0_7),(.int .i64 x0_8),(.int .i64 x0_9),(.int .i64 x0_10),(.int .i64 x0_11),(.int .i64 x0_12),(.int .i64 x0_13),(.int .i64 x0_14)])] S (RR (.ptr p.1) p.2) := by
 unfold f at h
 refine HCall.of_run at_.at_ body ?_
 show HR b w e 9 none [.code c0] ⟨[(.agg [(.str x0_0),(.str x0_1),(.str x0_2),(.str x0_3),(.int .i64 x0_4),(.int .i64 x0_5),(.int .i64 x0_6),(.int .i64 x0_7),(.int .i64 x0_8),(.int .i64 x0_9),(.int .i64 x0_10),(.int .i64 x0_11),(.int .i64 x0_12),(.int .i64 x0_13),(.int .i64 x0_14)]),z,z,z,z,z,z,z,z,z,z,z,z,z,z,z,z,z,z,z,z,z,z,z,z,z,z,z],[]⟩ S _
 obtain ⟨p1,hp1,h⟩ := leto h
 refine qT rfl rfl rfl (qS 1 rfl (Zyf · (.tmp rfl) (Yav _) rfl hp1) (qS 2 rfl (Zxa · (.const fun _ => .ptrNil)) (rE ?_)))
 dsimp only [w0,w1,w2,w3]
 obtain ⟨p2,hp2,h⟩ := bindo h
 refine qT rfl rfl rfl (uF 8 rfl fi28_7 (by decide) rfl rfl (uL 9 rfl sc3 rfl rfl (Zxq hp2) (qS 10 rfl (Zaih · (.tmp rfl) (.int _ _)) (qS 11 rfl (ok_max · (.int _ _) (.tmp rfl)) ?_))))
 try dsimp only [w0,w1,w2,w3]
 obtain ⟨p3,hp3,h⟩ := bindo h
 refine uQ 12 rfl (.func _) (ev1 rfl) (HInv.static Y75.at_ Y75.body (Y75.snd  hp3)) (uM 7 rfl rfl (qS 13 rfl (Zxr · (.tmp rfl) rfl) (qS 14 rfl (Zxr · (.tmp rfl) rfl) ?_)))
 try dsimp only [w0,w1,w2,w3]
 refine uA 3 rfl rfl (uA 4 rfl rfl (rE ?_))
 dsimp only [w0,w1,w2,w3]
 obtain ⟨p4,hp4,h⟩ := bindo h
 refine qT rfl rfl rfl (uF 16 rfl fi28_6 (by decide) rfl rfl (uL 17 rfl sc3 rfl rfl (Zxq hp4) (qS 18 rfl (Zaih · (.tmp rfl) (.int _ _)) (qS 19 rfl (ok_max · (.int _ _) (.tmp rfl)) ?_))))
 try dsimp only [w0,w1,w2,w3]
 obtain ⟨p5,hp5,h⟩ := bindo h
 refine uQ 20 rfl (.func _) (ev1 rfl) (HInv.static Y57.at_ Y57.body (Y57.snd  hp5)) (uM 15 rfl rfl (qS 21 rfl (Zxr · (.tmp rfl) rfl) (qS 22 rfl (Zxr · (.tmp rfl) rfl) ?_)))
 try dsimp only [w0,w1,w2,w3]
 refine uA 5 rfl rfl (uA 6 rfl rfl (rE ?_))
 dsimp only [w0,w1,w2,w3]
 obtain ⟨p6,hp6,p7,hp7,p8,hp8,p9,hp9,h⟩ := bd4 h
 obtain ⟨p10,hp10,p11,hp11,p12,hp12,p13,hp13,h⟩ := bd4 h
 obtain ⟨p14,hp14,p15,hp15,p16,hp16,p17,hp17,h⟩ := bd4 h
 obtain ⟨p18,hp18,p19,hp19,p20,hp20,h⟩ := bd3 h
 refine qT rfl rfl rfl (qS 23 rfl (Zyl (vs := [(.str p6),(.str p7),(.str p8),(.str p9),(.int .i64 p10),(.int .i64 p11),(.int .i64 p12),(.int .i64 p13),(.int .i64 p14),(.int .i64 p15),(.int .i64 p16),(.int .i64 p17),(.int .i64 p18),(.int .i64 p19),(.int .i64 p20)]) · ia28 (.tmp rfl) rfl ⟨Zx4 hp6,Zx4 hp7,Zx4 hp8,Zx4 hp9,Zxq hp10,Zxq hp11,Zxq hp12,Zxq hp13,Zxq hp14,Zxq hp15,Zxq hp16,Zxq hp17,Zxq hp18,Zxq hp19,Zxq hp20,trivial⟩ (by simp)) (uM 24 rfl rfl (uM 25 rfl rfl (qS 26 rfl (Zy1 (is := [0,1,2]) (xs := [(.tmp 23),(.tmp 24),(.tmp 25)]) (r := [(.str p6),(.str p7),(.str p8),(.str p9),(.int .i64 p10),(.int .i64 p11),(.int .i64 p12),(.int .i64 p13),(.int .i64 p14),(.int .i64 p15),(.int .i64 p16),(.int .i64 p17),(.int .i64 p18),(.int .i64 p19),(.int .i64 p20),(.ptr p3.1.1),(.ptr p5.1.1)]) st83 · rfl rfl (ev3 rfl rfl rfl) rfl) ?_))))
 try dsimp only [w0,w1,w2,w3]
 obtain ⟨p21,hp21,h⟩ := leto h
 refine qS 27 rfl (Zyf · (.tmp rfl) (Yav _) rfl hp21) (uA 2 rfl rfl (rE ?_))
 cases h
 exact Zxl rfl at_.at_ rfl (res1 rfl rfl) ⟨rfl,rfl⟩
end Y30
namespace Y45
theorem at_ : FnAt Tryz.prog 102 Tryz.f102 := ⟨Tryz.func102,by kernel_rfl⟩
def d0 := (Tryz.f102.body).getD .skip
def r1 := kT d0
def r3 := kT (kB d0)
def r5 := kT (kW d0)
def d6 := kW (kB d0)
def d9 := kX (kA d6)
def r11 := kT (kA d9)
def r17 := kT (kY d9)
def r19 := kT (kZ (kB d9))
def r21 := kT (kW (kY d9))
def r22 := kR (kW (kZ (kB d9)))
def r24 := kT (kB d6)
def c25 : Code := .ret
def c23 : Code := .seq (.region 8 r24 false) c25
def c9 : Code := .seq (.seq (.region 3 r11 false) (.cond (.tmp 17) .skip (.exit 0))) (.block 1 (.seq (.region 4 r17 false) (.seq (.region 5 r19 false) (.cond (.tmp 31) (.region 6 r21 false) (.region 7 r22 false)))))
def c0 : Code := .seq (.region 0 r1 false) (.seq (.region 1 r3 false) (.seq (.region 2 r5 false) (.seq (.block 0 (.loop c9)) c23)))
theorem body : Tryz.f102.body = some c0 := by kernel_rfl
def J1 (D : Dp) (H : Hd) (k : Nat) (y35 : Int) (y48 : Bool) (S : HS) : Option ((Int × Bool) × HS) :=
 some ((y35,y48),S)
theorem J1_snd (hD : DS b w D) (hH : HT b w e H) {y35 : Int} {y48 : Bool} {p : (Int × Bool) × HS} (h : J1 D H k y35 y48 S = some p) : HR b w e 102 none [.inRegion r24 [14,15],.code c25] ⟨[Ga,j,q,m,F,o,N,Gh,i,a,G,B,M,O,K,A,C,E,I,J,L,Q,U,V,Z,c,d,g,r,Kd,Ke,Kf,Kg,Kh,Ki,(.int .i64 y35),Kk,Kl,Km,Kn,Ko,Kp,Kq,Kr,Ks,Kt,Ku,Kv,(.bool y48)],[]⟩ S (RR (.tup [(.int .i64 p.1.1),(.bool p.1.2)]) p.2) := by
 unfold J1 at h
 refine uA 6 rfl rfl (uA 7 rfl rfl (rE ?_))
 cases h
 exact Zxl rfl at_.at_ rfl (res2 rfl rfl rfl) ⟨rfl,rfl⟩
def L0 (D : Dp) (H : Hd) (k : Nat) : Nat → Sl → (List UInt8) → HV → Int → Int → Int → HS → Option ((Int × Bool) × HS)
 | 0,_,_,_,_,_,_,_ => none
 | n + 1,y0,y1,y2,y8,y9,y10,S =>
  (if y9 < y10 then
  ((S.idx y0 (w64 (Int.fdiv (IntKind.wrap .u64 (w64 (y9 + y10))) (2 ^ (min (Int.toNat 1) (IntKind.bits .u64))))) 2).bind fun p2 =>
  ((S.ldS (HA.fld p2 0)).bind fun p3 =>
  ((S.ldP (HA.fld p2 1)).bind fun p4 =>
  ((D H y2 [(.agg [(.str p3),(.ptr p4)]),(.str y1)] S).bind fun p5 =>
  ((dI .i64 p5.1).bind fun p6 =>
  (if p6 < 0 then
  (L0 D H k n) y0 y1 y2 y8 (w64 ((w64 (Int.fdiv (IntKind.wrap .u64 (w64 (y9 + y10))) (2 ^ (min (Int.toNat 1) (IntKind.bits .u64))))) + 1)) y10 p5.2 else
  (L0 D H k n) y0 y1 y2 y8 y9 (w64 (Int.fdiv (IntKind.wrap .u64 (w64 (y9 + y10))) (2 ^ (min (Int.toNat 1) (IntKind.bits .u64))))) p5.2)))))) else
  (if y9 < y8 then
  ((S.idx y0 y9 2).bind fun p9 =>
  ((S.ldS (HA.fld p9 0)).bind fun p10 =>
  ((S.ldP (HA.fld p9 1)).bind fun p11 =>
  ((D H y2 [(.agg [(.str p10),(.ptr p11)]),(.str y1)] S).bind fun p12 =>
  ((dI .i64 p12.1).bind fun p13 =>
  J1 D H k y9 (decide (p13 = 0)) p12.2))))) else
  J1 D H k y9 false S))
theorem L0_snd (hD : DS b w D) (hH : HT b w e H) : ∀ {n : Nat} ⦃y0 : Sl⦄ ⦃y1 : (List UInt8)⦄ ⦃y2 : HV⦄ ⦃y8 : Int⦄ ⦃y9 : Int⦄ ⦃y10 : Int⦄ ⦃S : HS⦄ ⦃p : (Int × Bool) × HS⦄ ⦃m F o N Gh B M O K A C E I J L Q U V Z c d g r Kd Ke Kf Kg Kh Ki Kj Kk Kl Km Kn Ko Kp Kq Kr Ks Kt Ku Kv Kw : HV⦄,L0 D H k n y0 y1 y2 y8 y9 y10 S = some p → HR b w e 102 none [.inLoop c9,.inBlock 0,.code c23] ⟨[(Sl.hv y0),(.str y1),y2,m,F,o,N,Gh,(.int .i64 y8),(.int .i64 y9),(.int .i64 y10),B,M,O,K,A,C,E,I,J,L,Q,U,V,Z,c,d,g,r,Kd,Ke,Kf,Kg,Kh,Ki,Kj,Kk,Kl,Km,Kn,Ko,Kp,Kq,Kr,Ks,Kt,Ku,Kv,Kw],[]⟩ S (RR (.tup [(.int .i64 p.1.1),(.bool p.1.2)]) p.2) := by
 intro n
 induction n with
 | zero => intro _ _ _ _ _ _ _ _ _ _ _ _ _ _ _ _ _ _ _ _ _ _ _ _ _ _ _ _ _ _ _ _ _ _ _ _ _ _ _ _ _ _ _ _ _ _ _ _ _ _ _ h; cases h
 | succ n ih =>
  intro y0 y1 y2 y8 y9 y10 S p m F o N Gh B M O K A C E I J L Q U V Z c d g r Kd Ke Kf Kg Kh Ki Kj Kk Kl Km Kn Ko Kp Kq Kr Ks Kt Ku Kv Kw h
  simp only [L0] at h
  refine Zxz (qQ rfl (qT rfl rfl rfl (uM 15 rfl rfl (uM 16 rfl rfl (uB 17 rfl rfl rfl rfl (rE ?_))))))
  dsimp only [w0,w1,w2,w3]
  rcases ifc h with ⟨hc1,h⟩ | ⟨hc1,h⟩
  ·refine Zxb rfl (.tmp rfl) (decide_eq_true hc1) (Zxd rfl (Zxo rfl (qT rfl rfl rfl (uM 18 rfl rfl (uM 19 rfl rfl (uB 20 rfl rfl rfl rfl (qS 21 rfl (Zy5 · tu3 Zafh (.tmp rfl)) ?_)))))))
   try dsimp only [w0,w1,w2,w3]
   refine qS 22 rfl (Zago · (.tmp rfl) (.int _ _) (by decide)) (qS 23 rfl (Zy5 · Zafh tu3 (.tmp rfl)) (uA 11 rfl rfl (rE ?_)))
   dsimp only [w0,w1,w2,w3]
   obtain ⟨p2,hp2,h⟩ := bindo h
   refine qT rfl rfl rfl (uM 24 rfl rfl (uM 25 rfl rfl (uM 26 rfl rfl (qS 27 rfl (oX (s := y0) · Zyr Zabr rfl rfl hp2) ?_))))
   try dsimp only [w0,w1,w2,w3]
   obtain ⟨p3,hp3,p4,hp4,p5,hp5,p6,hp6,h⟩ := bd4 h
   refine qS 28 rfl (Zyl (vs := [(.str p3),(.ptr p4)]) · Zajk (.tmp rfl) rfl ⟨Zx4 hp3,Zx0 hp4,trivial⟩ (by simp)) (uM 29 rfl rfl (uQ 30 rfl (.tmp rfl) (ev2 rfl rfl) (hD _ _ hH _ _ _ _ _ hp5) ?_))
   rw [Zaa2 hp6]
   refine uC 31 rfl rfl rfl (rE ?_)
   dsimp only [w0,w1,w2,w3]
   rcases ifc h with ⟨hc7,h⟩ | ⟨hc7,h⟩
   ·refine Zxb rfl (.tmp rfl) (decide_eq_true hc7) (qR rfl rfl (uM 32 rfl rfl (uC 33 rfl rfl rfl (uA 9 rfl rfl (rE ?_)))))
    dsimp only [w0,w1,w2,w3]
    refine Zxf ?_
    try dsimp only [w0,w1,w2,w3]
    exact ih h
   ·refine Zxc rfl (.tmp rfl) (decide_eq_false hc7) (qR rfl rfl (uM 34 rfl rfl (uA 10 rfl rfl (rE ?_))))
    dsimp only [w0,w1,w2,w3]
    refine Zxf ?_
    try dsimp only [w0,w1,w2,w3]
    exact ih h
  ·refine Zxc rfl (.tmp rfl) (decide_eq_false hc1) (Zyh rfl rfl (qT rfl rfl rfl (uM 35 rfl rfl (uM 36 rfl rfl (uM 37 rfl rfl (uB 38 rfl rfl rfl rfl ?_))))))
   try dsimp only [w0,w1,w2,w3]
   refine uM 39 rfl rfl ?_
   rcases ifc h with ⟨hc8,h⟩ | ⟨hc8,h⟩
   ·refine qG 39 40 rfl (decide_eq_true hc8) (oM · rfl) (qG 39 41 rfl (decide_eq_true hc8) (oM · rfl) (qG 39 42 rfl (decide_eq_true hc8) (oM · rfl) ?_))
    try dsimp only [w0,w1,w2,w3]
    obtain ⟨p9,hp9,p10,hp10,p11,hp11,p12,hp12,h⟩ := bd4 h
    obtain ⟨p13,hp13,h⟩ := bindo h
    refine qG 39 43 rfl (decide_eq_true hc8) (oX (s := y0) · Zyr Zabr rfl rfl hp9) (qG 39 44 rfl (decide_eq_true hc8) (Zyl (vs := [(.str p10),(.ptr p11)]) · Zajk (.tmp rfl) rfl ⟨Zx4 hp10,Zx0 hp11,trivial⟩ (by simp)) (qG 39 45 rfl (decide_eq_true hc8) (oM · rfl) (Zyp (t := 39) (dst := some 46) rfl rfl rfl (decide_eq_true hc8) (.tmp rfl) (ev2 rfl rfl) (hD _ _ hH _ _ _ _ _ hp12) ?_)))
    rintro _ _ ⟨rfl,rfl⟩
    rw [Zaa2 hp13]
    try dsimp only [w0,w1,w2,w3]
    refine qG 39 47 rfl (decide_eq_true hc8) (oC · rfl rfl) (qS 48 rfl (Zxh · (.tmp rfl) (decide_eq_true hc8) (.tmp rfl)) ?_)
    try dsimp only [w0,w1,w2,w3]
    exact J1_snd hD hH h
   ·refine Zxi (dst := some 40) (t := 39) rfl rfl rfl (decide_eq_false hc8) (Zxi (dst := some 41) (t := 39) rfl rfl rfl (decide_eq_false hc8) (Zxi (dst := some 42) (t := 39) rfl rfl rfl (decide_eq_false hc8) ?_))
    try dsimp only [w0,w1,w2,w3]
    refine Zxi (dst := some 43) (t := 39) rfl rfl rfl (decide_eq_false hc8) (Zxi (dst := some 44) (t := 39) rfl rfl rfl (decide_eq_false hc8) (Zxi (dst := some 45) (t := 39) rfl rfl rfl (decide_eq_false hc8) (Zxi (dst := some 46) (t := 39) rfl rfl rfl (decide_eq_false hc8) ?_)))
    try dsimp only [w0,w1,w2,w3]
    refine Zxi (dst := some 47) (t := 39) rfl rfl rfl (decide_eq_false hc8) (qS 48 rfl (Zxm · (.tmp rfl) (decide_eq_false hc8) (.bool _)) ?_)
    try dsimp only [w0,w1,w2,w3]
    exact J1_snd hD hH h
def f (D : Dp) (H : Hd) (k : Nat) (x0 : Sl) (x1 : (List UInt8)) (x2 : HV) (S : HS) : Option ((Int × Bool) × HS) :=
 L0 D H k k x0 x1 x2 (Sl.len x0 : Int) 0 (Sl.len x0 : Int) S
theorem snd {x0 : Sl} {x1 : (List UInt8)} {x2 : HV} (hD : DS b w D) (hH : HT b w e H) {p : (Int × Bool) × HS} (h : f D H k x0 x1 x2 S = some p) : HC b w e 102 [(Sl.hv x0),(.str x1),x2] S (RR (.tup [(.int .i64 p.1.1),(.bool p.1.2)]) p.2) := by
 unfold f at h
 refine HCall.of_run at_.at_ body ?_
 show HR b w e 102 none [.code c0] ⟨[(Sl.hv x0),(.str x1),x2,z,z,z,z,z,z,z,z,z,z,z,z,z,z,z,z,z,z,z,z,z,z,z,z,z,z,z,z,z,z,z,z,z,z,z,z,z,z,z,z,z,z,z,z,z,z],[]⟩ S _
 refine qT rfl rfl rfl (qS 6 rfl (Zxa · (.int _ _)) (qS 7 rfl (Zxa · (.bool _)) (rE ?_)))
 dsimp only [w0,w1,w2,w3]
 refine qT rfl rfl rfl (uM 12 rfl rfl (qS 13 rfl (Zxg (q := Sl.a x0) (n := Sl.len x0) (z := Sl.cap x0) · rfl Zyr (.tmp rfl)) (uA 8 rfl rfl (rE ?_))))
 dsimp only [w0,w1,w2,w3]
 refine qT rfl rfl rfl (uM 14 rfl rfl (qS 9 rfl (Zxa · (.int _ _)) (uA 10 rfl rfl (rE ?_))))
 dsimp only [w0,w1,w2,w3]
 refine qQ rfl (Zxo rfl (Zye rfl ?_))
 try dsimp only [w0,w1,w2,w3]
 exact L0_snd hD hH h
end Y45
namespace Y18
theorem at_ : FnAt Tryz.prog 70 Tryz.f70 := ⟨Tryz.func70,by kernel_rfl⟩
def d0 := (Tryz.f70.body).getD .skip
def r1 := kT d0
def d4 := kX (kB d0)
def r5 := kT d4
def r8 := kT (kY d4)
def r11 := kT (kW d4)
def r14 := kT (kY (kW d4))
def r17 := kT (kW (kW d4))
def r20 := kT (kY (kW (kW d4)))
def r24 := kT (kW d0)
def c23 : Code := .seq (.region 7 r24 false) .ret
def c12 : Code := .cond (.tmp 12) (.seq (.region 4 r14 false) .ret) (.seq (.region 5 r17 false) (.cond (.tmp 25) (.seq (.region 6 r20 false) .ret) .skip))
def c6 : Code := .cond (.tmp 3) (.seq (.region 2 r8 false) .ret) (.seq (.region 3 r11 false) c12)
def c0 : Code := .seq (.region 0 r1 false) (.seq (.block 0 (.seq (.region 1 r5 false) c6)) c23)
theorem body : Tryz.f70.body = some c0 := by kernel_rfl
variable {y0 : Int} {y9 y18 y22 : Bool}
def J2  (y0 : Int) (y22 : Bool) : Option (Int) :=
 (if y22 = true then
 some (w8 (y0 + 32)) else
 (if y0 = 126 then
 some 94 else
 some y0))
theorem J2_snd   {p : Int} (h : J2  y0 y22 = some p) : HR b w e 70 none [.inRegion r11 [10],.code c12,.inBlock 0,.code c23] ⟨[(.int .u8 y0),j,q,m,F,o,N,Gh,i,a,G,B,M,O,K,A,C,E,I,J,L,Q,(.bool y22),V,Z,c,d,g,r],[]⟩ S (RR (.int .u8 p) S) := by
 unfold J2 at h
 refine uA 12 rfl rfl (rE ?_)
 dsimp only [w0,w1,w2,w3]
 rcases ifc h with ⟨hc5,h⟩ | ⟨hc5,h⟩
 ·refine Zxb rfl (.tmp rfl) hc5 (qT rfl rfl rfl (uM 23 rfl rfl (uC 24 rfl rfl rfl (uA 2 rfl rfl (rE ?_)))))
  cases h
  exact Zxl rfl at_.at_ rfl (res1 rfl rfl) ⟨rfl,rfl⟩
 ·refine Zxc rfl (.tmp rfl) (bfalse hc5) (qT rfl rfl rfl (uM 26 rfl rfl (uC 27 rfl rfl rfl (uA 25 rfl rfl (rE ?_)))))
  dsimp only [w0,w1,w2,w3]
  rcases ifc h with ⟨hc6,h⟩ | ⟨hc6,h⟩
  ·refine Zxb rfl (.tmp rfl) (decide_eq_true hc6) (qT rfl rfl rfl (qS 2 rfl (Zxa · (.int _ _)) (rE ?_)))
   cases h
   exact Zxl rfl at_.at_ rfl (res1 rfl rfl) ⟨rfl,rfl⟩
  ·refine Zxc rfl (.tmp rfl) (decide_eq_false hc6) (Zxd rfl (Zxf (qT rfl rfl rfl (uM 28 rfl rfl (uA 2 rfl rfl (rE ?_))))))
   cases h
   exact Zxl rfl at_.at_ rfl (res1 rfl rfl) ⟨rfl,rfl⟩
def J1  (y0 : Int) (y18 : Bool) : Option (Int) :=
 (if y18 = true then
 J2 y0 true else
 J2 y0 (decide (y0 = 92)))
theorem J1_snd   {p : Int} (h : J1  y0 y18 = some p) : HR b w e 70 none [.inRegion r11 [6,7,8,9,10],.code c12,.inBlock 0,.code c23] ⟨[(.int .u8 y0),j,q,m,F,o,N,Gh,i,a,G,B,M,O,K,A,C,E,(.bool y18),J,L,Q,U,V,Z,c,d,g,r],[]⟩ S (RR (.int .u8 p) S) := by
 unfold J1 at h
 refine uM 19 rfl rfl ?_
 rcases ifc h with ⟨hc4,h⟩ | ⟨hc4,h⟩
 ·refine Zxi (dst := some 20) (t := 19) rfl rfl rfl hc4 ?_
  try dsimp only [w0,w1,w2,w3]
  refine Zxi (dst := some 21) (t := 19) rfl rfl rfl hc4 (qS 22 rfl (Zxh · (.tmp rfl) hc4 (.bool _)) ?_)
  try dsimp only [w0,w1,w2,w3]
  exact J2_snd  h
 ·refine qG 19 20 rfl (bfalse hc4) (oM · rfl) ?_
  try dsimp only [w0,w1,w2,w3]
  refine qG 19 21 rfl (bfalse hc4) (oC · rfl rfl) (qS 22 rfl (Zxm · (.tmp rfl) (bfalse hc4) (.tmp rfl)) ?_)
  try dsimp only [w0,w1,w2,w3]
  exact J2_snd  h
def J0  (y0 : Int) (y9 : Bool) : Option (Int) :=
 (if y9 = true then
 some (w8 (y0 + 32)) else
 (if y0 = 91 then
 J1 y0 true else
 J1 y0 (decide (y0 = 93))))
theorem J0_snd   {p : Int} (h : J0  y0 y9 = some p) : HR b w e 70 none [.inRegion r5 [6],.code c6,.inBlock 0,.code c23] ⟨[(.int .u8 y0),j,q,m,F,o,N,Gh,i,(.bool y9),G,B,M,O,K,A,C,E,I,J,L,Q,U,V,Z,c,d,g,r],[]⟩ S (RR (.int .u8 p) S) := by
 unfold J0 at h
 refine uA 3 rfl rfl (rE ?_)
 dsimp only [w0,w1,w2,w3]
 rcases ifc h with ⟨hc2,h⟩ | ⟨hc2,h⟩
 ·refine Zxb rfl (.tmp rfl) hc2 (qT rfl rfl rfl (uM 10 rfl rfl (uC 11 rfl rfl rfl (uA 2 rfl rfl (rE ?_)))))
  cases h
  exact Zxl rfl at_.at_ rfl (res1 rfl rfl) ⟨rfl,rfl⟩
 ·refine Zxc rfl (.tmp rfl) (bfalse hc2) (qT rfl rfl rfl (uM 13 rfl rfl (uC 14 rfl rfl rfl (uM 15 rfl rfl ?_))))
  rcases ifc h with ⟨hc3,h⟩ | ⟨hc3,h⟩
  ·refine Zxi (dst := some 16) (t := 15) rfl rfl rfl (decide_eq_true hc3) ?_
   try dsimp only [w0,w1,w2,w3]
   refine Zxi (dst := some 17) (t := 15) rfl rfl rfl (decide_eq_true hc3) (qS 18 rfl (Zxh · (.tmp rfl) (decide_eq_true hc3) (.bool _)) ?_)
   try dsimp only [w0,w1,w2,w3]
   exact J1_snd  h
  ·refine qG 15 16 rfl (decide_eq_false hc3) (oM · rfl) ?_
   try dsimp only [w0,w1,w2,w3]
   refine qG 15 17 rfl (decide_eq_false hc3) (oC · rfl rfl) (qS 18 rfl (Zxm · (.tmp rfl) (decide_eq_false hc3) (.tmp rfl)) ?_)
   try dsimp only [w0,w1,w2,w3]
   exact J1_snd  h
def f (x0 : Int) : Option (Int) :=
 (if x0 ≥ 65 then
 J0 x0 (decide (x0 ≤ 90)) else
 J0 x0 false)
theorem snd {x0 : Int}  {p : Int} (h : f x0 = some p) : HC b w e 70 [(.int .u8 x0)] S (RR (.int .u8 p) S) := by
 unfold f at h
 refine HCall.of_run at_.at_ body ?_
 show HR b w e 70 none [.code c0] ⟨[(.int .u8 x0),z,z,z,z,z,z,z,z,z,z,z,z,z,z,z,z,z,z,z,z,z,z,z,z,z,z,z,z],[]⟩ S _
 refine qT rfl rfl rfl (qS 2 rfl (Zxa · (.int _ _)) (rE ?_))
 dsimp only [w0,w1,w2,w3]
 refine qQ rfl (Zxo rfl (qT rfl rfl rfl (uM 4 rfl rfl (uC 5 rfl rfl rfl (uM 6 rfl rfl ?_)))))
 rcases ifc h with ⟨hc1,h⟩ | ⟨hc1,h⟩
 ·refine qG 6 7 rfl (decide_eq_true hc1) (oM · rfl) ?_
  try dsimp only [w0,w1,w2,w3]
  refine qG 6 8 rfl (decide_eq_true hc1) (oC · rfl rfl) (qS 9 rfl (Zxh · (.tmp rfl) (decide_eq_true hc1) (.tmp rfl)) ?_)
  try dsimp only [w0,w1,w2,w3]
  exact J0_snd  h
 ·refine Zxi (dst := some 7) (t := 6) rfl rfl rfl (decide_eq_false hc1) ?_
  try dsimp only [w0,w1,w2,w3]
  refine Zxi (dst := some 8) (t := 6) rfl rfl rfl (decide_eq_false hc1) (qS 9 rfl (Zxm · (.tmp rfl) (decide_eq_false hc1) (.bool _)) ?_)
  try dsimp only [w0,w1,w2,w3]
  exact J0_snd  h
end Y18
namespace Y48
theorem at_ : FnAt Tryz.prog 104 Tryz.f104 := ⟨Tryz.func104,by kernel_rfl⟩
def d0 := (Tryz.f104.body).getD .skip
def r1 := kT d0
def r4 := kT (kY d0)
def d5 := kZ (kB d0)
def r8 := kT (kX d5)
def d9 := kZ (kA d5)
def d15 := kX (kB d9)
def r16 := kT d15
def r18 := kT (kB d15)
def r21 := kT (kY (kB d15))
def r24 := kT (kY (kY (kB d15)))
def r28 := kT (kW (kB d15))
def r31 := kT (kY (kW (kB d15)))
def r34 := kR (kW d9)
def d36 := kY (kB d0)
def r38 := kT (kA d36)
def r41 := kT (kY (kA d36))
def r44 := kT (kW (kA d36))
def r47 := kT (kY (kW (kA d36)))
def r51 := kT (kW (kB d0))
def c35 : Code := .seq (.block 2 (.seq (.region 10 r38 false) (.cond (.tmp 31) (.seq (.region 11 r41 false) .ret) (.seq (.region 12 r44 false) (.cond (.tmp 37) (.seq (.region 13 r47 false) .ret) .skip))))) (.seq (.region 14 r51 false) .ret)
def c7 : Code := .seq (.region 2 r8 false) (.seq (.cond (.tmp 14) .skip (.exit 0)) (.seq (.block 1 (.seq (.region 3 r16 false) (.seq (.region 4 r18 true) (.seq (.seq (.region 5 r21 false) (.cond (.tmp 26) (.seq (.region 6 r24 false) .ret) .skip)) (.seq (.region 7 r28 false) (.cond (.tmp 29) (.seq (.region 8 r31 false) .ret) .skip)))))) (.region 9 r34 false)))
def c0 : Code := .seq (.region 0 r1 false) (.seq (.seq (.region 1 r4 false) (.block 0 (.loop c7))) c35)
theorem body : Tryz.f104.body = some c0 := by kernel_rfl
def L0 (k : Nat) : Nat → (List UInt8) → (List UInt8) → Int → Int → Option (Int)
 | 0,_,_,_,_ => none
 | n + 1,y0,y1,y12,y13 =>
  (if y13 < y12 then
  ((sat y0 y13).bind fun p2 =>
  ((Y18.f (UInt8.toNat p2 : Int)).bind fun p3 =>
  ((sat y1 y13).bind fun p4 =>
  ((Y18.f (UInt8.toNat p4 : Int)).bind fun p5 =>
  (if p3 < p5 then
  some (-1) else
  (if p3 > p5 then
  some 1 else
  (L0 k n) y0 y1 y12 (w64 (y13 + 1)))))))) else
  (if (List.length y0 : Int) < (List.length y1 : Int) then
  some (-1) else
  (if (List.length y0 : Int) > (List.length y1 : Int) then
  some 1 else
  some 0)))
theorem L0_snd  : ∀ {n : Nat} ⦃y0 : (List UInt8)⦄ ⦃y1 : (List UInt8)⦄ ⦃y12 : Int⦄ ⦃y13 : Int⦄ ⦃S : HS⦄ ⦃p : Int⦄ ⦃q m F o N Gh i a G B K A C E I J L Q U V Z c d g r Kd Ke Kf Kg Kh Ki Kj Kk Kl Km Kn Ko Kp Kq : HV⦄,L0 k n y0 y1 y12 y13 = some p → HR b w e 104 none [.inLoop c7,.inBlock 0,.code c35] ⟨[(.str y0),(.str y1),q,m,F,o,N,Gh,i,a,G,B,(.int .i64 y12),(.int .i64 y13),K,A,C,E,I,J,L,Q,U,V,Z,c,d,g,r,Kd,Ke,Kf,Kg,Kh,Ki,Kj,Kk,Kl,Km,Kn,Ko,Kp,Kq],[]⟩ S (RR (.int .i64 p) S) := by
 intro n
 induction n with
 | zero => intro _ _ _ _ _ _ _ _ _ _ _ _ _ _ _ _ _ _ _ _ _ _ _ _ _ _ _ _ _ _ _ _ _ _ _ _ _ _ _ _ _ _ _ _ _ h; cases h
 | succ n ih =>
  intro y0 y1 y12 y13 S p q m F o N Gh i a G B K A C E I J L Q U V Z c d g r Kd Ke Kf Kg Kh Ki Kj Kk Kl Km Kn Ko Kp Kq h
  simp only [L0] at h
  refine Zxz (qT rfl rfl rfl (uB 14 rfl rfl rfl rfl (rE ?_)))
  dsimp only [w0,w1,w2,w3]
  refine qQ rfl ?_
  rcases ifc h with ⟨hc1,h⟩ | ⟨hc1,h⟩
  ·refine Zxb rfl (.tmp rfl) (decide_eq_true hc1) (Zxd rfl (qQ rfl (Zxo rfl (qT rfl rfl rfl (uM 15 rfl rfl (uA 5 rfl rfl (rE ?_)))))))
   dsimp only [w0,w1,w2,w3]
   refine qQ rfl ?_
   refine Zx8 (cls := [0,0,0,0,0,0,0,0,0,0]) (rk := [0,1,2,3,4,5,6,7,8,9]) rfl (by kernel_rfl) ?_
   refine yf 16 [0] rfl (oM · rfl) ?_
   refine yf 17 [5] rfl (oM · rfl) ?_
   obtain ⟨p2,hp2,h⟩ := bindo h
   refine yf 18 [16,17] rfl (Zzv · tu9 (.tmp rfl) (.tmp rfl) hp2) ?_
   obtain ⟨p3,hp3,h⟩ := bindo h
   refine x_go (f_call (dst := some 19) (ts := [18]) rfl (by kernel_rfl) (.func _) (ev1 rfl) (fun _ => (HInv.static Y18.at_ Y18.body (Y18.snd  hp3)))) rfl ?_
   try dsimp only [w0,w1,w2,w3]
   refine yf 20 [1] rfl (oM · rfl) ?_
   refine yf 21 [5] rfl (oM · rfl) ?_
   obtain ⟨p4,hp4,h⟩ := bindo h
   refine yf 22 [20,21] rfl (Zzv · tu9 (.tmp rfl) (.tmp rfl) hp4) ?_
   obtain ⟨p5,hp5,h⟩ := bindo h
   refine x_go (f_call (dst := some 23) (ts := [22]) rfl (by kernel_rfl) (.func _) (ev1 rfl) (fun _ => (HInv.static Y18.at_ Y18.body (Y18.snd  hp5)))) rfl ?_
   try dsimp only [w0,w1,w2,w3]
   refine yf 6 [19] rfl (oA · rfl) ?_
   refine yf 7 [23] rfl (oA · rfl) ?_
   refine Zx5 rfl ?_
   refine rE ?_
   try dsimp only [w0,w1,w2,w3]
   refine qQ rfl (qT rfl rfl rfl (uM 24 rfl rfl (uM 25 rfl rfl (uB 26 rfl rfl rfl rfl (rE ?_)))))
   dsimp only [w0,w1,w2,w3]
   rcases ifc h with ⟨hc6,h⟩ | ⟨hc6,h⟩
   ·refine Zxb rfl (.tmp rfl) (decide_eq_true hc6) (qT rfl rfl rfl (qS 4 rfl (Zxa · (.int _ _)) (rE ?_)))
    cases h
    exact Zxl rfl at_.at_ rfl (res1 rfl rfl) ⟨rfl,rfl⟩
   ·refine Zxc rfl (.tmp rfl) (decide_eq_false hc6) (Zxd rfl (qT rfl rfl rfl (uM 27 rfl rfl (uM 28 rfl rfl (uB 29 rfl rfl rfl rfl (rE ?_))))))
    dsimp only [w0,w1,w2,w3]
    rcases ifc h with ⟨hc7,h⟩ | ⟨hc7,h⟩
    ·refine Zxb rfl (.tmp rfl) (decide_eq_true hc7) (qT rfl rfl rfl (qS 4 rfl (Zxa · (.int _ _)) (rE ?_)))
     cases h
     exact Zxl rfl at_.at_ rfl (res1 rfl rfl) ⟨rfl,rfl⟩
    ·refine Zxc rfl (.tmp rfl) (decide_eq_false hc7) (Zxd rfl (Zxf (qR rfl rfl (uC 30 rfl rfl rfl (uM 13 rfl rfl (rE ?_))))))
     dsimp only [w0,w1,w2,w3]
     exact ih h
  ·refine Zxc rfl (.tmp rfl) (decide_eq_false hc1) (Zyh rfl rfl (qQ rfl (Zxo rfl (qT rfl rfl rfl (uM 32 rfl rfl (qS 33 rfl (Zyw · rfl tu9 (.tmp rfl)) (uM 34 rfl rfl (qS 35 rfl (Zyw · rfl tu9 (.tmp rfl)) ?_))))))))
   try dsimp only [w0,w1,w2,w3]
   refine uB 36 rfl rfl rfl rfl (uA 31 rfl rfl (rE ?_))
   dsimp only [w0,w1,w2,w3]
   rcases ifc h with ⟨hc8,h⟩ | ⟨hc8,h⟩
   ·refine Zxb rfl (.tmp rfl) (decide_eq_true hc8) (qT rfl rfl rfl (qS 4 rfl (Zxa · (.int _ _)) (rE ?_)))
    cases h
    exact Zxl rfl at_.at_ rfl (res1 rfl rfl) ⟨rfl,rfl⟩
   ·refine Zxc rfl (.tmp rfl) (decide_eq_false hc8) (qT rfl rfl rfl (uM 38 rfl rfl (qS 39 rfl (Zyw · rfl tu9 (.tmp rfl)) (uM 40 rfl rfl (qS 41 rfl (Zyw · rfl tu9 (.tmp rfl)) ?_)))))
    try dsimp only [w0,w1,w2,w3]
    refine uB 42 rfl rfl rfl rfl (uA 37 rfl rfl (rE ?_))
    dsimp only [w0,w1,w2,w3]
    rcases ifc h with ⟨hc9,h⟩ | ⟨hc9,h⟩
    ·refine Zxb rfl (.tmp rfl) (decide_eq_true hc9) (qT rfl rfl rfl (qS 4 rfl (Zxa · (.int _ _)) (rE ?_)))
     cases h
     exact Zxl rfl at_.at_ rfl (res1 rfl rfl) ⟨rfl,rfl⟩
    ·refine Zxc rfl (.tmp rfl) (decide_eq_false hc9) (Zxd rfl (Zxf (qT rfl rfl rfl (qS 4 rfl (Zxa · (.int _ _)) (rE ?_)))))
     cases h
     exact Zxl rfl at_.at_ rfl (res1 rfl rfl) ⟨rfl,rfl⟩
def f (k : Nat) (x0 : (List UInt8)) (x1 : (List UInt8)) : Option (Int) :=
 L0 k k x0 x1 (mn (List.length x0 : Int) (List.length x1 : Int)) 0
theorem snd {x0 : (List UInt8)} {x1 : (List UInt8)}  {p : Int} (h : f k x0 x1 = some p) : HC b w e 104 [(.str x0),(.str x1)] S (RR (.int .i64 p) S) := by
 unfold f at h
 refine HCall.of_run at_.at_ body ?_
 show HR b w e 104 none [.code c0] ⟨[(.str x0),(.str x1),z,z,z,z,z,z,z,z,z,z,z,z,z,z,z,z,z,z,z,z,z,z,z,z,z,z,z,z,z,z,z,z,z,z,z,z,z,z,z,z,z],[]⟩ S _
 refine qT rfl rfl rfl (qS 4 rfl (Zxa · (.int _ _)) (rE ?_))
 dsimp only [w0,w1,w2,w3]
 refine qQ rfl (qT rfl rfl rfl (uM 8 rfl rfl (qS 9 rfl (Zyw · rfl tu9 (.tmp rfl)) (uM 10 rfl rfl (qS 11 rfl (Zyw · rfl tu9 (.tmp rfl)) ?_)))))
 try dsimp only [w0,w1,w2,w3]
 refine qS 12 rfl (Zaih · (.tmp rfl) (.tmp rfl)) (qS 13 rfl (Zzj · (.int _ _)) (rE ?_))
 dsimp only [w0,w1,w2,w3]
 refine Zxo rfl (Zye rfl ?_)
 try dsimp only [w0,w1,w2,w3]
 exact L0_snd  h
end Y48
namespace Y89
theorem at_ : FnAt Tryz.prog 103 Tryz.f103 := ⟨Tryz.func103,by kernel_rfl⟩
def d0 := (Tryz.f103.body).getD .skip
def r1 := kT d0
def r3 := kT (kB d0)
def c0 : Code := .seq (.region 0 r1 false) (.seq (.region 1 r3 false) .ret)
theorem body : Tryz.f103.body = some c0 := by kernel_rfl
def f (k : Nat) (x0_0 : (List UInt8)) (x0_1 : HP) (x1 : (List UInt8)) (S : HS) : Option ((Int) × HS) :=
 (letv (HS.new S (.cells 2 [[(.str x0_0),(.ptr x0_1)]] true)) fun p1 =>
 ((p1.ldS (HA.fld (HA.cell0 S.next) 0)).bind fun p2 =>
 ((Y48.f k p2 x1).bind fun p3 =>
 some (p3,p1))))
theorem snd {x0_0 : (List UInt8)} {x0_1 : HP} {x1 : (List UInt8)}  {p : (Int) × HS} (h : f k x0_0 x0_1 x1 S = some p) : HC b w e 103 [(.agg [(.str x0_0),(.ptr x0_1)]),(.str x1)] S (RR (.int .i64 p.1) p.2) := by
 unfold f at h
 refine HCall.of_run at_.at_ body ?_
 show HR b w e 103 none [.code c0] ⟨[(.agg [(.str x0_0),(.ptr x0_1)]),(.str x1),z,z,z,z,z,z,z],[]⟩ S _
 obtain ⟨p1,hp1,h⟩ := leto h
 refine qT rfl rfl rfl (qS 2 rfl (Zyf · (.tmp rfl) (Yav _) rfl hp1) (qS 4 rfl (Zxa · (.int _ _)) (rE ?_)))
 dsimp only [w0,w1,w2,w3]
 obtain ⟨p2,hp2,p3,hp3,h⟩ := bd2 h
 refine qT rfl rfl rfl (uF 5 rfl Zajl (by decide) rfl rfl (uL 6 rfl sc9 rfl rfl (Zx4 hp2) (uM 7 rfl rfl (uQ 8 rfl (.func _) (ev2 rfl rfl) (HInv.static Y48.at_ Y48.body (Y48.snd  hp3)) ?_))))
 try dsimp only [w0,w1,w2,w3]
 refine uA 4 rfl rfl (rE ?_)
 cases h
 exact Zxl rfl at_.at_ rfl (res1 rfl rfl) ⟨rfl,rfl⟩
end Y89
namespace Y19
theorem at_ : FnAt Tryz.prog 72 Tryz.f72 := ⟨Tryz.func72,by kernel_rfl⟩
def d0 := (Tryz.f72.body).getD .skip
def r1 := kT d0
def r4 := kT (kY d0)
def r7 := kT (kY (kY d0))
def r11 := kT (kW d0)
def c0 : Code := .seq (.region 0 r1 false) (.seq (.seq (.region 1 r4 false) (.cond (.tmp 7) (.seq (.region 2 r7 false) .ret) .skip)) (.seq (.region 3 r11 false) .ret))
theorem body : Tryz.f72.body = some c0 := by kernel_rfl
def f (D : Dp) (H : Hd) (k : Nat) (x0 : HP) (x1 : (List UInt8)) (S : HS) : Option ((Int × Bool) × HS) :=
 (if (Option.isNone x0) = true then
 some ((0,false),S) else
 (x0.bind fun p2 =>
 ((S.ldSl (HA.fld p2 1)).bind fun p3 =>
 ((Y45.f D H k p3 x1 (HV.fn (.func 103) [] []) S).bind fun p4 =>
 some ((p4.1.1,p4.1.2),p4.2)))))
theorem snd {x0 : HP} {x1 : (List UInt8)} (hD : DS b w D) (hH : HT b w e H) {p : (Int × Bool) × HS} (h : f D H k x0 x1 S = some p) : HC b w e 72 [(.ptr x0),(.str x1)] S (RR (.tup [(.int .i64 p.1.1),(.bool p.1.2)]) p.2) := by
 unfold f at h
 refine HCall.of_run at_.at_ body ?_
 show HR b w e 72 none [.code c0] ⟨[(.ptr x0),(.str x1),z,z,z,z,z,z,z,z,z,z,z,z,z,z],[]⟩ S _
 refine qT rfl rfl rfl (qS 4 rfl (Zxa · (.int _ _)) (qS 5 rfl (Zxa · (.bool _)) (rE ?_)))
 dsimp only [w0,w1,w2,w3]
 refine qQ rfl (qT rfl rfl rfl (uM 6 rfl rfl (qS 7 rfl (Zxt · tu75 (.tmp rfl) (.inl ⟨rfl,rfl⟩)) (rE ?_))))
 dsimp only [w0,w1,w2,w3]
 rcases ifc h with ⟨hc1,h⟩ | ⟨hc1,h⟩
 ·refine Zxb rfl (.tmp rfl) hc1 (qT rfl rfl rfl (qS 4 rfl (Zxa · (.int _ _)) (qS 5 rfl (Zxa · (.bool _)) (rE ?_))))
  cases h
  exact Zxl rfl at_.at_ rfl (res2 rfl rfl rfl) ⟨rfl,rfl⟩
 ·obtain ⟨p2,hp2,p3,hp3,h⟩ := bd2 h
  refine Zxc rfl (.tmp rfl) (bfalse hc1) (Zxd rfl (qT rfl rfl rfl (uM 8 rfl rfl (uN 9 rfl rfl hp2 (uF 10 rfl Zz3 (by decide) rfl rfl (uL 11 rfl Zaec rfl rfl (Zxj hp3) ?_))))))
  try dsimp only [w0,w1,w2,w3]
  obtain ⟨p4,hp4,h⟩ := bindo h
  refine uM 12 rfl rfl (uQ 13 rfl (.func _) (.cons (.tmp rfl) (.cons (.tmp rfl) (.cons (.func _) Evs.nil))) (HInv.static Y45.at_ Y45.body (Y45.snd hD hH hp4)) (qS 14 rfl (Zxr · (.tmp rfl) rfl) (qS 15 rfl (Zxr · (.tmp rfl) rfl) ?_)))
  try dsimp only [w0,w1,w2,w3]
  refine uA 4 rfl rfl (uA 5 rfl rfl (rE ?_))
  cases h
  exact Zxl rfl at_.at_ rfl (res2 rfl rfl rfl) ⟨rfl,rfl⟩
end Y19
namespace Y15
theorem at_ : FnAt Tryz.prog 43 Tryz.f43 := ⟨Tryz.func43,by kernel_rfl⟩
def d0 := (Tryz.f43.body).getD .skip
def r1 := kT d0
def r3 := kT (kB d0)
def r6 := kT (kY (kB d0))
def d8 := kY (kY (kB d0))
def r9 := kT d8
def r11 := kT (kB d8)
def r15 := kT (kW (kB d0))
def c0 : Code := .seq (.region 0 r1 false) (.seq (.region 1 r3 false) (.seq (.seq (.region 2 r6 false) (.cond (.tmp 16) (.seq (.region 3 r9 false) (.seq (.region 4 r11 false) .ret)) .skip)) (.seq (.region 5 r15 false) .ret)))
theorem body : Tryz.f43.body = some c0 := by kernel_rfl
def f (D : Dp) (H : Hd) (k : Nat) (x0 : HP) (x1 : (List UInt8)) (S : HS) : Option ((HP × Bool) × HS) :=
 ((Y19.f D H k x0 x1 S).bind fun p1 =>
 (if (!p1.1.2) = true then
 some ((none,false),p1.2) else
 (x0.bind fun p3 =>
 ((p1.2.ldSl (HA.fld p3 1)).bind fun p4 =>
 ((p1.2.idx p4 p1.1.1 2).bind fun p5 =>
 ((p1.2.ldP (HA.fld p5 1)).bind fun p6 =>
 some ((p6,true),p1.2)))))))
theorem snd {x0 : HP} {x1 : (List UInt8)} (hD : DS b w D) (hH : HT b w e H) {p : (HP × Bool) × HS} (h : f D H k x0 x1 S = some p) : HC b w e 43 [(.ptr x0),(.str x1)] S (RR (.tup [(.ptr p.1.1),(.bool p.1.2)]) p.2) := by
 unfold f at h
 refine HCall.of_run at_.at_ body ?_
 show HR b w e 43 none [.code c0] ⟨[(.ptr x0),(.str x1),z,z,z,z,z,z,z,z,z,z,z,z,z,z,z,z,z,z,z,z,z,z,z,z],[]⟩ S _
 refine qT rfl rfl rfl (qS 4 rfl (Zxa · (.const fun _ => .ptrNil)) (qS 5 rfl (Zxa · (.bool _)) (rE ?_)))
 dsimp only [w0,w1,w2,w3]
 obtain ⟨p1,hp1,h⟩ := bindo h
 refine qT rfl rfl rfl (uM 10 rfl rfl (uM 11 rfl rfl (uQ 12 rfl (.func _) (ev2 rfl rfl) (HInv.static Y19.at_ Y19.body (Y19.snd hD hH hp1)) (uM 9 rfl rfl ?_))))
 try dsimp only [w0,w1,w2,w3]
 refine qS 13 rfl (Zxr · (.tmp rfl) rfl) (qS 14 rfl (Zxr · (.tmp rfl) rfl) (uA 6 rfl rfl (uA 7 rfl rfl (rE ?_))))
 dsimp only [w0,w1,w2,w3]
 refine qQ rfl (qT rfl rfl rfl (uM 15 rfl rfl (qS 16 rfl (Zys · (.tmp rfl)) (rE ?_))))
 dsimp only [w0,w1,w2,w3]
 rcases ifc h with ⟨hc2,h⟩ | ⟨hc2,h⟩
 ·refine Zxb rfl (.tmp rfl) hc2 (qT rfl rfl rfl (qS 8 rfl (Zxa · (.const fun _ => .ptrNil)) (rE ?_)))
  dsimp only [w0,w1,w2,w3]
  refine qT rfl rfl rfl (uM 17 rfl rfl (uA 4 rfl rfl (qS 5 rfl (Zxa · (.bool _)) (rE ?_))))
  cases h
  exact Zxl rfl at_.at_ rfl (res2 rfl rfl rfl) ⟨rfl,rfl⟩
 ·obtain ⟨p3,hp3,p4,hp4,h⟩ := bd2 h
  refine Zxc rfl (.tmp rfl) (bfalse hc2) (Zxd rfl (qT rfl rfl rfl (uM 18 rfl rfl (uN 19 rfl rfl hp3 (uF 20 rfl Zz3 (by decide) rfl rfl (uL 21 rfl Zaec rfl rfl (Zxj hp4) ?_))))))
  try dsimp only [w0,w1,w2,w3]
  obtain ⟨p5,hp5,p6,hp6,h⟩ := bd2 h
  refine uM 22 rfl rfl (qS 23 rfl (oX (s := p4) · Zyr Zabr rfl rfl hp5) (uF 24 rfl Zajm (by decide) rfl rfl (uL 25 rfl sc36 rfl rfl (Zx0 hp6) ?_)))
  try dsimp only [w0,w1,w2,w3]
  refine uA 4 rfl rfl (qS 5 rfl (Zxa · (.bool _)) (rE ?_))
  cases h
  exact Zxl rfl at_.at_ rfl (res2 rfl rfl rfl) ⟨rfl,rfl⟩
end Y15
namespace Y28
theorem at_ : FnAt Tryz.prog 39 Tryz.f39 := ⟨Tryz.func39,by kernel_rfl⟩
def d0 := (Tryz.f39.body).getD .skip
def r1 := kT d0
def r3 := kT (kB d0)
def d5 := kY (kB d0)
def r6 := kT d5
def d9 := kX (kB d5)
def r10 := kT d9
def r18 := kT (kX (kW d9))
def r19 := kR (kZ (kY (kB d9)))
def r20 := kR (kW (kB d9))
def r22 := kT (kW (kB d0))
def c21 : Code := .seq (.region 7 r22 false) .ret
def c9 : Code := .seq (.region 3 r10 false) (.seq (.cond (.tmp 11) .skip (.exit 0)) (.seq (.block 1 (.seq (.region 4 r18 false) (.region 5 r19 false))) (.region 6 r20 false)))
def c0 : Code := .seq (.region 0 r1 false) (.seq (.region 1 r3 false) (.seq (.seq (.region 2 r6 false) (.block 0 (.loop c9))) c21))
theorem body : Tryz.f39.body = some c0 := by kernel_rfl
def L0 (k : Nat) : Nat → (List UInt8) → Sl → Int → Int → HS → Option (((List UInt8)) × HS)
 | 0,_,_,_,_,_ => none
 | n + 1,y0,y3,y9,y10,S =>
  (if y10 < y9 then
  ((sat y0 y10).bind fun p3 =>
  ((Y18.f (UInt8.toNat p3 : Int)).bind fun p4 =>
  (letv (HS.lit S [[(.int .u8 p4)]] 1) fun p5 =>
  ((p5.2.rows (p5.1) 1).bind fun p6 =>
  ((p5.2.app y3 p6 1).bind fun p7 =>
  (L0 k n) y0 (p7.1) y9 (w64 (y10 + 1)) (p7.2)))))) else
  ((S.text y3).bind fun p8 =>
  some (p8,S)))
theorem L0_snd  : ∀ {n : Nat} ⦃y0 : (List UInt8)⦄ ⦃y3 : Sl⦄ ⦃y9 : Int⦄ ⦃y10 : Int⦄ ⦃S : HS⦄ ⦃p : ((List UInt8)) × HS⦄ ⦃j q F o N Gh i B M O K A C E I J L Q U : HV⦄,L0 k n y0 y3 y9 y10 S = some p → HR b w e 39 none [.inLoop c9,.inBlock 0,.code c21] ⟨[(.str y0),j,q,(Sl.hv y3),F,o,N,Gh,i,(.int .i64 y9),(.int .i64 y10),B,M,O,K,A,C,E,I,J,L,Q,U],[]⟩ S (RR (.str p.1) p.2) := by
 intro n
 induction n with
 | zero => intro _ _ _ _ _ _ _ _ _ _ _ _ _ _ _ _ _ _ _ _ _ _ _ _ _ h; cases h
 | succ n ih =>
  intro y0 y3 y9 y10 S p j q F o N Gh i B M O K A C E I J L Q U h
  simp only [L0] at h
  refine Zxz (qT rfl rfl rfl (uB 11 rfl rfl rfl rfl (rE ?_)))
  dsimp only [w0,w1,w2,w3]
  refine qQ rfl ?_
  rcases ifc h with ⟨hc2,h⟩ | ⟨hc2,h⟩
  ·refine Zxb rfl (.tmp rfl) (decide_eq_true hc2) (Zxd rfl (qQ rfl (Zxo rfl (qT rfl rfl rfl (uM 12 rfl rfl (uA 4 rfl rfl (rE ?_)))))))
   dsimp only [w0,w1,w2,w3]
   obtain ⟨p3,hp3,h⟩ := bindo h
   refine qR rfl rfl (uM 13 rfl rfl (uM 14 rfl rfl (uM 15 rfl rfl (qS 16 rfl (Zzv · tu9 (.tmp rfl) (.tmp rfl) hp3) ?_))))
   try dsimp only [w0,w1,w2,w3]
   obtain ⟨p4,hp4,h⟩ := bindo h
   refine uQ 17 rfl (.func _) (ev1 rfl) (HInv.static Y18.at_ Y18.body (Y18.snd  hp4)) ?_
   obtain ⟨p5,hp5,h⟩ := leto h
   obtain ⟨p6,hp6,p7,hp7,h⟩ := bd2 h
   refine qS 18 rfl (Zxp (xs := [(.tmp 17)]) el127 · rfl rfl (by decide) (ev1 rfl) rfl rfl hp5) (qS 19 rfl (Zx1 (s := y3) (s1 := (p5.1)) el127 · rfl rfl ⟨_,tu127⟩ (.tmp rfl) (.tmp rfl) hp6 hp7) (uA 3 rfl rfl (rE ?_)))
   dsimp only [w0,w1,w2,w3]
   refine Zxf (qR rfl rfl (uC 20 rfl rfl rfl (uM 10 rfl rfl (rE ?_))))
   dsimp only [w0,w1,w2,w3]
   exact ih h
  ·obtain ⟨p8,hp8,h⟩ := bindo h
   refine Zxc rfl (.tmp rfl) (decide_eq_false hc2) (Zyh rfl rfl (qT rfl rfl rfl (uM 21 rfl rfl (qS 22 rfl (Zaap (s := y3) · tu127 tu5 tu9 (.tmp rfl) hp8) (uA 2 rfl rfl (rE ?_))))))
   cases h
   exact Zxl rfl at_.at_ rfl (res1 rfl rfl) ⟨rfl,rfl⟩
def f (k : Nat) (x0 : (List UInt8)) (S : HS) : Option (((List UInt8)) × HS) :=
 ((S.make 0 (List.length x0 : Int) [(.int .u8 0)]).bind fun p1 =>
 L0 k k x0 (p1.1) (List.length x0 : Int) 0 (p1.2))
theorem snd {x0 : (List UInt8)}  {p : ((List UInt8)) × HS} (h : f k x0 S = some p) : HC b w e 39 [(.str x0)] S (RR (.str p.1) p.2) := by
 unfold f at h
 refine HCall.of_run at_.at_ body ?_
 show HR b w e 39 none [.code c0] ⟨[(.str x0),z,z,z,z,z,z,z,z,z,z,z,z,z,z,z,z,z,z,z,z,z,z],[]⟩ S _
 refine qT rfl rfl rfl (qS 2 rfl (Zxa · (.str _)) (rE ?_))
 dsimp only [w0,w1,w2,w3]
 obtain ⟨p1,hp1,h⟩ := bindo h
 refine qT rfl rfl rfl (uM 5 rfl rfl (qS 6 rfl (Zyw · rfl tu9 (.tmp rfl)) (qS 7 rfl (ok_make el127 · (.int _ _) (.tmp rfl) hp1) (uA 3 rfl rfl (rE ?_)))))
 dsimp only [w0,w1,w2,w3]
 refine qQ rfl (qT rfl rfl rfl (uM 8 rfl rfl (qS 9 rfl (Zyw · rfl tu9 (.tmp rfl)) (qS 10 rfl (Zzj · (.int _ _)) (rE ?_)))))
 dsimp only [w0,w1,w2,w3]
 refine Zxo rfl (Zye rfl ?_)
 try dsimp only [w0,w1,w2,w3]
 exact L0_snd  h
end Y28
namespace Y40
theorem at_ : FnAt Tryz.prog 132 Tryz.f132 := ⟨Tryz.func132,by kernel_rfl⟩
def d0 := (Tryz.f132.body).getD .skip
def r1 := kT d0
def r3 := kT (kB d0)
def c0 : Code := .seq (.region 0 r1 false) (.seq (.region 1 r3 false) .ret)
theorem body : Tryz.f132.body = some c0 := by kernel_rfl
def f (x0 : (List UInt8)) : Option (Bool) :=
 some (!decide (x0 = x0))
theorem snd {x0 : (List UInt8)}  {p : Bool} (h : f x0 = some p) : HC b w e 132 [(.str x0)] S (RR (.bool p) S) := by
 unfold f at h
 refine HCall.of_run at_.at_ body ?_
 show HR b w e 132 none [.code c0] ⟨[(.str x0),z,z,z,z,z],[]⟩ S _
 refine qT rfl rfl rfl (qS 2 rfl (Zxa · (.bool _)) (rE ?_))
 dsimp only [w0,w1,w2,w3]
 refine qT rfl rfl rfl (uM 3 rfl rfl (uM 4 rfl rfl (qS 5 rfl (Zzw · (.tmp rfl) (.tmp rfl) rfl) (uA 2 rfl rfl (rE ?_)))))
 cases h
 exact Zxl rfl at_.at_ rfl (res1 rfl rfl) ⟨rfl,rfl⟩
end Y40
namespace Y50
theorem at_ : FnAt Tryz.prog 124 Tryz.f124 := ⟨Tryz.func124,by kernel_rfl⟩
def d0 := (Tryz.f124.body).getD .skip
def r1 := kT d0
def r3 := kT (kB d0)
def c4 : Code := .ret
def c0 : Code := .seq (.region 0 r1 false) (.seq (.region 1 r3 false) c4)
theorem body : Tryz.f124.body = some c0 := by kernel_rfl
variable {y0 y1 : (List UInt8)} {y11 y16 : Bool}
def J1  (y16 : Bool) : Option (Bool) :=
 some y16
theorem J1_snd   {p : Bool} (h : J1  y16 = some p) : HR b w e 124 none [.inRegion r3 [12],.code c4] ⟨[Ga,j,q,m,F,o,N,Gh,i,a,G,B,M,O,K,A,(.bool y16)],[]⟩ S (RR (.bool p) S) := by
 unfold J1 at h
 refine uA 4 rfl rfl (rE ?_)
 cases h
 exact Zxl rfl at_.at_ rfl (res1 rfl rfl) ⟨rfl,rfl⟩
def J0  (y0 : (List UInt8)) (y1 : (List UInt8)) (y11 : Bool) : Option (Bool) :=
 (if y11 = true then
 J1 true else
 J1 (slt y0 y1))
theorem J0_snd   {p : Bool} (h : J0  y0 y1 y11 = some p) : HR b w e 124 none [.inRegion r3 [7,8,9,10,11,12],.code c4] ⟨[(.str y0),(.str y1),q,m,F,o,N,Gh,i,a,G,(.bool y11),M,O,K,A,C],[]⟩ S (RR (.bool p) S) := by
 unfold J0 at h
 refine uM 12 rfl rfl ?_
 try dsimp only [w0,w1,w2,w3]
 rcases ifc h with ⟨hc4,h⟩ | ⟨hc4,h⟩
 ·refine Zxi (dst := some 13) (t := 12) rfl rfl rfl hc4 (Zxi (dst := some 14) (t := 12) rfl rfl rfl hc4 (Zxi (dst := some 15) (t := 12) rfl rfl rfl hc4 (qS 16 rfl (Zxh · (.tmp rfl) hc4 (.bool _)) ?_)))
  try dsimp only [w0,w1,w2,w3]
  exact J1_snd  h
 ·refine qG 12 13 rfl (bfalse hc4) (oM · rfl) (qG 12 14 rfl (bfalse hc4) (oM · rfl) (qG 12 15 rfl (bfalse hc4) (Zzw · (.tmp rfl) (.tmp rfl) rfl) (qS 16 rfl (Zxm · (.tmp rfl) (bfalse hc4) (.tmp rfl)) ?_)))
  try dsimp only [w0,w1,w2,w3]
  exact J1_snd  h
def f (x0 : (List UInt8)) (x1 : (List UInt8)) : Option (Bool) :=
 ((Y40.f x0).bind fun p1 =>
 (if p1 = true then
 ((Y40.f x1).bind fun p3 =>
 J0 x0 x1 (!p3)) else
 J0 x0 x1 false))
theorem snd {x0 : (List UInt8)} {x1 : (List UInt8)}  {p : Bool} (h : f x0 x1 = some p) : HC b w e 124 [(.str x0),(.str x1)] S (RR (.bool p) S) := by
 unfold f at h
 refine HCall.of_run at_.at_ body ?_
 show HR b w e 124 none [.code c0] ⟨[(.str x0),(.str x1),z,z,z,z,z,z,z,z,z,z,z,z,z,z,z],[]⟩ S _
 refine qT rfl rfl rfl (qS 4 rfl (Zxa · (.bool _)) (rE ?_))
 dsimp only [w0,w1,w2,w3]
 obtain ⟨p1,hp1,h⟩ := bindo h
 refine qT rfl rfl rfl (uM 5 rfl rfl (uQ 6 rfl (.func _) (ev1 rfl) (HInv.static Y40.at_ Y40.body (Y40.snd  hp1)) (uM 7 rfl rfl ?_)))
 rcases ifc h with ⟨hc2,h⟩ | ⟨hc2,h⟩
 ·refine qG 7 8 rfl hc2 (oM · rfl) ?_
  try dsimp only [w0,w1,w2,w3]
  obtain ⟨p3,hp3,h⟩ := bindo h
  refine Zyp (t := 7) (dst := some 9) rfl rfl rfl hc2 (.func _) (ev1 rfl) (HInv.static Y40.at_ Y40.body (Y40.snd  hp3)) ?_
  rintro _ _ ⟨rfl,rfl⟩
  refine qG 7 10 rfl hc2 (Zys · (.tmp rfl)) (qS 11 rfl (Zxh · (.tmp rfl) hc2 (.tmp rfl)) ?_)
  try dsimp only [w0,w1,w2,w3]
  exact J0_snd  h
 ·refine Zxi (dst := some 8) (t := 7) rfl rfl rfl (bfalse hc2) ?_
  try dsimp only [w0,w1,w2,w3]
  refine Zxi (dst := some 9) (t := 7) rfl rfl rfl (bfalse hc2) (Zxi (dst := some 10) (t := 7) rfl rfl rfl (bfalse hc2) (qS 11 rfl (Zxm · (.tmp rfl) (bfalse hc2) (.bool _)) ?_))
  try dsimp only [w0,w1,w2,w3]
  exact J0_snd  h
end Y50
namespace Y37
theorem at_ : FnAt Tryz.prog 125 Tryz.f125 := ⟨Tryz.func125,by kernel_rfl⟩
def d0 := (Tryz.f125.body).getD .skip
def r1 := kT d0
def r3 := kT (kB d0)
def c0 : Code := .seq (.region 0 r1 false) (.seq (.region 1 r3 false) .ret)
theorem body : Tryz.f125.body = some c0 := by kernel_rfl
def f (x0 : (List UInt8)) : Option (Bool) :=
 some (!decide (x0 = x0))
theorem snd {x0 : (List UInt8)}  {p : Bool} (h : f x0 = some p) : HC b w e 125 [(.str x0)] S (RR (.bool p) S) := by
 unfold f at h
 refine HCall.of_run at_.at_ body ?_
 show HR b w e 125 none [.code c0] ⟨[(.str x0),z,z,z,z,z],[]⟩ S _
 refine qT rfl rfl rfl (qS 2 rfl (Zxa · (.bool _)) (rE ?_))
 dsimp only [w0,w1,w2,w3]
 refine qT rfl rfl rfl (uM 3 rfl rfl (uM 4 rfl rfl (qS 5 rfl (Zzw · (.tmp rfl) (.tmp rfl) rfl) (uA 2 rfl rfl (rE ?_)))))
 cases h
 exact Zxl rfl at_.at_ rfl (res1 rfl rfl) ⟨rfl,rfl⟩
end Y37
namespace Y3
theorem at_ : FnAt Tryz.prog 105 Tryz.f105 := ⟨Tryz.func105,by kernel_rfl⟩
def d0 := (Tryz.f105.body).getD .skip
def r1 := kT d0
def r3 := kT (kB d0)
def r5 := kT (kW d0)
def d6 := kW (kB d0)
def d9 := kX (kA d6)
def r11 := kT (kA d9)
def r17 := kT (kY d9)
def r19 := kT (kZ (kB d9))
def r21 := kT (kW (kY d9))
def r22 := kR (kW (kZ (kB d9)))
def r24 := kT (kB d6)
def c25 : Code := .ret
def c23 : Code := .seq (.region 8 r24 false) c25
def c9 : Code := .seq (.seq (.region 3 r11 false) (.cond (.tmp 15) .skip (.exit 0))) (.block 1 (.seq (.region 4 r17 false) (.seq (.region 5 r19 false) (.cond (.tmp 27) (.region 6 r21 false) (.region 7 r22 false)))))
def c0 : Code := .seq (.region 0 r1 false) (.seq (.region 1 r3 false) (.seq (.region 2 r5 false) (.seq (.block 0 (.loop c9)) c23)))
theorem body : Tryz.f105.body = some c0 := by kernel_rfl
variable {y31 : Int} {y35 y42 y51 y52 y53 : Bool}
def J2 (k : Nat) (y31 : Int) (y53 : Bool) (S : HS) : Option ((Int × Bool) × HS) :=
 some ((y31,y53),S)
theorem J2_snd  {p : (Int × Bool) × HS} (h : J2 k y31 y53 S = some p) : HR b w e 105 none [.inRegion r24 [23,24],.code c25] ⟨[Ga,j,q,m,F,o,N,Gh,i,a,G,B,M,O,K,A,C,E,I,J,L,Q,U,V,Z,c,d,g,r,Kd,Ke,(.int .i64 y31),Kg,Kh,Ki,Kj,Kk,Kl,Km,Kn,Ko,Kp,Kq,Kr,Ks,Kt,Ku,Kv,Kw,Kx,Ky,Kz,Ma,(.bool y53)],[]⟩ S (RR (.tup [(.int .i64 p.1.1),(.bool p.1.2)]) p.2) := by
 unfold J2 at h
 refine uA 4 rfl rfl ?_
 try dsimp only [w0,w1,w2,w3]
 refine uA 5 rfl rfl (rE ?_)
 cases h
 exact Zxl rfl at_.at_ rfl (res2 rfl rfl rfl) ⟨rfl,rfl⟩
def J1 (k : Nat) (y31 : Int) (y35 : Bool) (y52 : Bool) (S : HS) : Option ((Int × Bool) × HS) :=
 (if y35 = true then
 J2 k y31 y52 S else
 J2 k y31 false S)
theorem J1_snd  {p : (Int × Bool) × HS} (h : J1 k y31 y35 y52 S = some p) : HR b w e 105 none [.inRegion r24 [22,23,24],.code c25] ⟨[Ga,j,q,m,F,o,N,Gh,i,a,G,B,M,O,K,A,C,E,I,J,L,Q,U,V,Z,c,d,g,r,Kd,Ke,(.int .i64 y31),Kg,Kh,Ki,(.bool y35),Kk,Kl,Km,Kn,Ko,Kp,Kq,Kr,Ks,Kt,Ku,Kv,Kw,Kx,Ky,Kz,(.bool y52),Mb],[]⟩ S (RR (.tup [(.int .i64 p.1.1),(.bool p.1.2)]) p.2) := by
 unfold J1 at h
 rcases ifc h with ⟨hc10,h⟩ | ⟨hc10,h⟩
 ·refine qS 53 rfl (Zxh · (.tmp rfl) hc10 (.tmp rfl)) ?_
  try dsimp only [w0,w1,w2,w3]
  exact J2_snd  h
 ·refine qS 53 rfl (Zxm · (.tmp rfl) (bfalse hc10) (.bool _)) ?_
  try dsimp only [w0,w1,w2,w3]
  exact J2_snd  h
def J3 (k : Nat) (y31 : Int) (y35 : Bool) (y42 : Bool) (y51 : Bool) (S : HS) : Option ((Int × Bool) × HS) :=
 (if y35 = true then
 (if y42 = true then
 J1 k y31 y35 true S else
 J1 k y31 y35 y51 S) else
 J2 k y31 false S)
theorem J3_snd  {p : (Int × Bool) × HS} (h : J3 k y31 y35 y42 y51 S = some p) : HR b w e 105 none [.inRegion r24 [21,22,23,24],.code c25] ⟨[Ga,j,q,m,F,o,N,Gh,i,a,G,B,M,O,K,A,C,E,I,J,L,Q,U,V,Z,c,d,g,r,Kd,Ke,(.int .i64 y31),Kg,Kh,Ki,(.bool y35),Kk,Kl,Km,Kn,Ko,Kp,(.bool y42),Kr,Ks,Kt,Ku,Kv,Kw,Kx,Ky,(.bool y51),Ma,Mb],[]⟩ S (RR (.tup [(.int .i64 p.1.1),(.bool p.1.2)]) p.2) := by
 unfold J3 at h
 rcases ifc h with ⟨hc16,h⟩ | ⟨hc16,h⟩
 ·rcases ifc h with ⟨hc17,h⟩ | ⟨hc17,h⟩
  ·refine qG 35 52 rfl hc16 (Zxh · (.tmp rfl) hc17 (.bool _)) ?_
   try dsimp only [w0,w1,w2,w3]
   exact J1_snd  h
  ·refine qG 35 52 rfl hc16 (Zxm · (.tmp rfl) (bfalse hc17) (.tmp rfl)) ?_
   try dsimp only [w0,w1,w2,w3]
   exact J1_snd  h
 ·refine Zxi (dst := some 52) (t := 35) rfl rfl rfl (bfalse hc16) (qS 53 rfl (Zxm · (.tmp rfl) (bfalse hc16) (.bool _)) ?_)
  try dsimp only [w0,w1,w2,w3]
  exact J2_snd  h
def L0 (k : Nat) : Nat → Sl → (List UInt8) → Int → Int → Int → HS → Option ((Int × Bool) × HS)
 | 0,_,_,_,_,_,_ => none
 | n + 1,y0,y1,y6,y7,y8,S =>
  (if y7 < y8 then
  ((S.idx y0 (w64 (Int.fdiv (IntKind.wrap .u64 (w64 (y7 + y8))) (2 ^ (min (Int.toNat 1) (IntKind.bits .u64))))) 1).bind fun p2 =>
  ((S.ldS p2).bind fun p3 =>
  ((Y50.f p3 y1).bind fun p4 =>
  (if p4 = true then
  (L0 k n) y0 y1 y6 (w64 ((w64 (Int.fdiv (IntKind.wrap .u64 (w64 (y7 + y8))) (2 ^ (min (Int.toNat 1) (IntKind.bits .u64))))) + 1)) y8 S else
  (L0 k n) y0 y1 y6 y7 (w64 (Int.fdiv (IntKind.wrap .u64 (w64 (y7 + y8))) (2 ^ (min (Int.toNat 1) (IntKind.bits .u64))))) S)))) else
  (if y7 < y6 then
  ((S.idx y0 y7 1).bind fun p7 =>
  ((S.ldS p7).bind fun p8 =>
  (if p8 = y1 then
  J1 k y7 (decide (y7 < y6)) true S else
  ((S.idx y0 y7 1).bind fun p11 =>
  ((S.ldS p11).bind fun p12 =>
  ((Y37.f p12).bind fun p13 =>
  (if p13 = true then
  ((Y37.f y1).bind fun p15 =>
  J3 k y7 (decide (y7 < y6)) (decide (p8 = y1)) p15 S) else
  J3 k y7 (decide (y7 < y6)) (decide (p8 = y1)) false S))))))) else
  J2 k y7 false S))
theorem L0_snd  : ∀ {n : Nat} ⦃y0 : Sl⦄ ⦃y1 : (List UInt8)⦄ ⦃y6 : Int⦄ ⦃y7 : Int⦄ ⦃y8 : Int⦄ ⦃S : HS⦄ ⦃p : (Int × Bool) × HS⦄ ⦃q m F o a G B M O K A C E I J L Q U V Z c d g r Kd Ke Kf Kg Kh Ki Kj Kk Kl Km Kn Ko Kp Kq Kr Ks Kt Ku Kv Kw Kx Ky Kz Ma Mb : HV⦄,L0 k n y0 y1 y6 y7 y8 S = some p → HR b w e 105 none [.inLoop c9,.inBlock 0,.code c23] ⟨[(Sl.hv y0),(.str y1),q,m,F,o,(.int .i64 y6),(.int .i64 y7),(.int .i64 y8),a,G,B,M,O,K,A,C,E,I,J,L,Q,U,V,Z,c,d,g,r,Kd,Ke,Kf,Kg,Kh,Ki,Kj,Kk,Kl,Km,Kn,Ko,Kp,Kq,Kr,Ks,Kt,Ku,Kv,Kw,Kx,Ky,Kz,Ma,Mb],[]⟩ S (RR (.tup [(.int .i64 p.1.1),(.bool p.1.2)]) p.2) := by
 intro n
 induction n with
 | zero => intro _ _ _ _ _ _ _ _ _ _ _ _ _ _ _ _ _ _ _ _ _ _ _ _ _ _ _ _ _ _ _ _ _ _ _ _ _ _ _ _ _ _ _ _ _ _ _ _ _ _ _ _ _ _ _ _ h; cases h
 | succ n ih =>
  intro y0 y1 y6 y7 y8 S p q m F o a G B M O K A C E I J L Q U V Z c d g r Kd Ke Kf Kg Kh Ki Kj Kk Kl Km Kn Ko Kp Kq Kr Ks Kt Ku Kv Kw Kx Ky Kz Ma Mb h
  simp only [L0] at h
  refine Zxz (qQ rfl (qT rfl rfl rfl (uM 13 rfl rfl (uM 14 rfl rfl (uB 15 rfl rfl rfl rfl (rE ?_))))))
  dsimp only [w0,w1,w2,w3]
  rcases ifc h with ⟨hc1,h⟩ | ⟨hc1,h⟩
  ·refine Zxb rfl (.tmp rfl) (decide_eq_true hc1) (Zxd rfl (Zxo rfl (qT rfl rfl rfl (uM 16 rfl rfl (uM 17 rfl rfl (uB 18 rfl rfl rfl rfl (qS 19 rfl (Zy5 · tu3 Zafh (.tmp rfl)) ?_)))))))
   try dsimp only [w0,w1,w2,w3]
   refine qS 20 rfl (Zago · (.tmp rfl) (.int _ _) (by decide)) (qS 21 rfl (Zy5 · Zafh tu3 (.tmp rfl)) (uA 9 rfl rfl (rE ?_)))
   dsimp only [w0,w1,w2,w3]
   obtain ⟨p2,hp2,p3,hp3,h⟩ := bd2 h
   refine qT rfl rfl rfl (uM 22 rfl rfl (uM 23 rfl rfl (qS 24 rfl (oX (s := y0) · tu57 sz9 rfl rfl hp2) (uL 25 rfl sc9 rfl rfl (Zx4 hp3) ?_))))
   try dsimp only [w0,w1,w2,w3]
   obtain ⟨p4,hp4,h⟩ := bindo h
   refine uM 26 rfl rfl (uQ 27 rfl (.func _) (ev2 rfl rfl) (HInv.static Y50.at_ Y50.body (Y50.snd  hp4)) (rE ?_))
   dsimp only [w0,w1,w2,w3]
   rcases ifc h with ⟨hc5,h⟩ | ⟨hc5,h⟩
   ·refine Zxb rfl (.tmp rfl) hc5 (qR rfl rfl (uM 28 rfl rfl (uC 29 rfl rfl rfl (uA 7 rfl rfl (rE ?_)))))
    dsimp only [w0,w1,w2,w3]
    refine Zxf ?_
    try dsimp only [w0,w1,w2,w3]
    exact ih h
   ·refine Zxc rfl (.tmp rfl) (bfalse hc5) (qR rfl rfl (uM 30 rfl rfl (uA 8 rfl rfl (rE ?_))))
    dsimp only [w0,w1,w2,w3]
    refine Zxf ?_
    try dsimp only [w0,w1,w2,w3]
    exact ih h
  ·refine Zxc rfl (.tmp rfl) (decide_eq_false hc1) (Zyh rfl rfl (qT rfl rfl rfl (uM 31 rfl rfl (uM 32 rfl rfl (uM 33 rfl rfl (uB 34 rfl rfl rfl rfl ?_))))))
   try dsimp only [w0,w1,w2,w3]
   refine uM 35 rfl rfl ?_
   rcases ifc h with ⟨hc6,h⟩ | ⟨hc6,h⟩
   ·obtain ⟨p7,hp7,h⟩ := bindo h
    refine qG 35 36 rfl (decide_eq_true hc6) (oM · rfl) (qG 35 37 rfl (decide_eq_true hc6) (oM · rfl) (qG 35 38 rfl (decide_eq_true hc6) (oX (s := y0) · tu57 sz9 rfl rfl hp7) ?_))
    try dsimp only [w0,w1,w2,w3]
    obtain ⟨p8,hp8,h⟩ := bindo h
    refine qG 35 39 rfl (decide_eq_true hc6) (oL · sc9 rfl rfl (Zx4 hp8)) (qG 35 40 rfl (decide_eq_true hc6) (oM · rfl) (qG 35 41 rfl (decide_eq_true hc6) (Zzw · (.tmp rfl) (.tmp rfl) rfl) (qG 35 42 rfl (decide_eq_true hc6) (oM · rfl) ?_)))
    try dsimp only [w0,w1,w2,w3]
    rcases ifc h with ⟨hc9,h⟩ | ⟨hc9,h⟩
    ·refine Zxi (dst := some 43) (t := 42) rfl rfl rfl (decide_eq_true hc9) (Zxi (dst := some 44) (t := 42) rfl rfl rfl (decide_eq_true hc9) (Zxi (dst := some 45) (t := 42) rfl rfl rfl (decide_eq_true hc9) (Zxi (dst := some 46) (t := 42) rfl rfl rfl (decide_eq_true hc9) ?_)))
     try dsimp only [w0,w1,w2,w3]
     refine Zxi (dst := some 47) (t := 42) rfl rfl rfl (decide_eq_true hc9) (Zxi (dst := some 48) (t := 42) rfl rfl rfl (decide_eq_true hc9) (Zyd (dst := some 49) (t := 48) rfl rfl rfl (Zyd (dst := some 50) (t := 48) rfl rfl rfl ?_)))
     try dsimp only [w0,w1,w2,w3]
     refine Zxi (dst := some 51) (t := 42) rfl rfl rfl (decide_eq_true hc9) (qG 35 52 rfl (decide_eq_true hc6) (Zxh · (.tmp rfl) (decide_eq_true hc9) (.bool _)) ?_)
     try dsimp only [w0,w1,w2,w3]
     exact J1_snd  h
    ·obtain ⟨p11,hp11,p12,hp12,h⟩ := bd2 h
     refine qG 42 43 rfl (decide_eq_false hc9) (oM · rfl) (qG 42 44 rfl (decide_eq_false hc9) (oM · rfl) (qG 42 45 rfl (decide_eq_false hc9) (oX (s := y0) · tu57 sz9 rfl rfl hp11) (qG 42 46 rfl (decide_eq_false hc9) (oL · sc9 rfl rfl (Zx4 hp12)) ?_)))
     try dsimp only [w0,w1,w2,w3]
     obtain ⟨p13,hp13,h⟩ := bindo h
     refine Zyp (t := 42) (dst := some 47) rfl rfl rfl (decide_eq_false hc9) (.func _) (ev1 rfl) (HInv.static Y37.at_ Y37.body (Y37.snd  hp13)) ?_
     rintro _ _ ⟨rfl,rfl⟩
     refine qG 42 48 rfl (decide_eq_false hc9) (oM · rfl) ?_
     rcases ifc h with ⟨hc14,h⟩ | ⟨hc14,h⟩
     ·obtain ⟨p15,hp15,h⟩ := bindo h
      refine qG 48 49 rfl hc14 (oM · rfl) (Zyp (t := 48) (dst := some 50) rfl rfl rfl hc14 (.func _) (ev1 rfl) (HInv.static Y37.at_ Y37.body (Y37.snd  hp15)) ?_)
      rintro _ _ ⟨rfl,rfl⟩
      try dsimp only [w0,w1,w2,w3]
      refine qG 42 51 rfl (decide_eq_false hc9) (Zxh · (.tmp rfl) hc14 (.tmp rfl)) ?_
      try dsimp only [w0,w1,w2,w3]
      exact J3_snd  h
     ·refine Zxi (dst := some 49) (t := 48) rfl rfl rfl (bfalse hc14) (Zxi (dst := some 50) (t := 48) rfl rfl rfl (bfalse hc14) ?_)
      try dsimp only [w0,w1,w2,w3]
      refine qG 42 51 rfl (decide_eq_false hc9) (Zxm · (.tmp rfl) (bfalse hc14) (.bool _)) ?_
      try dsimp only [w0,w1,w2,w3]
      exact J3_snd  h
   ·refine Zxi (dst := some 36) (t := 35) rfl rfl rfl (decide_eq_false hc6) (Zxi (dst := some 37) (t := 35) rfl rfl rfl (decide_eq_false hc6) (Zxi (dst := some 38) (t := 35) rfl rfl rfl (decide_eq_false hc6) ?_))
    try dsimp only [w0,w1,w2,w3]
    refine Zxi (dst := some 39) (t := 35) rfl rfl rfl (decide_eq_false hc6) (Zxi (dst := some 40) (t := 35) rfl rfl rfl (decide_eq_false hc6) (Zxi (dst := some 41) (t := 35) rfl rfl rfl (decide_eq_false hc6) (Zxi (dst := some 42) (t := 35) rfl rfl rfl (decide_eq_false hc6) ?_)))
    try dsimp only [w0,w1,w2,w3]
    refine Zyd (dst := some 43) (t := 42) rfl rfl rfl (Zyd (dst := some 44) (t := 42) rfl rfl rfl (Zyd (dst := some 45) (t := 42) rfl rfl rfl (Zyd (dst := some 46) (t := 42) rfl rfl rfl ?_)))
    try dsimp only [w0,w1,w2,w3]
    refine Zyd (dst := some 47) (t := 42) rfl rfl rfl (Zyd (dst := some 48) (t := 42) rfl rfl rfl (Zyd (dst := some 49) (t := 48) rfl rfl rfl (Zyd (dst := some 50) (t := 48) rfl rfl rfl ?_)))
    try dsimp only [w0,w1,w2,w3]
    refine Zyd (dst := some 51) (t := 42) rfl rfl rfl (Zxi (dst := some 52) (t := 35) rfl rfl rfl (decide_eq_false hc6) (qS 53 rfl (Zxm · (.tmp rfl) (decide_eq_false hc6) (.bool _)) ?_))
    try dsimp only [w0,w1,w2,w3]
    exact J2_snd  h
def f (k : Nat) (x0 : Sl) (x1 : (List UInt8)) (S : HS) : Option ((Int × Bool) × HS) :=
 L0 k k x0 x1 (Sl.len x0 : Int) 0 (Sl.len x0 : Int) S
theorem snd {x0 : Sl} {x1 : (List UInt8)}  {p : (Int × Bool) × HS} (h : f k x0 x1 S = some p) : HC b w e 105 [(Sl.hv x0),(.str x1)] S (RR (.tup [(.int .i64 p.1.1),(.bool p.1.2)]) p.2) := by
 unfold f at h
 refine HCall.of_run at_.at_ body ?_
 show HR b w e 105 none [.code c0] ⟨[(Sl.hv x0),(.str x1),z,z,z,z,z,z,z,z,z,z,z,z,z,z,z,z,z,z,z,z,z,z,z,z,z,z,z,z,z,z,z,z,z,z,z,z,z,z,z,z,z,z,z,z,z,z,z,z,z,z,z,z],[]⟩ S _
 refine qT rfl rfl rfl (qS 4 rfl (Zxa · (.int _ _)) (qS 5 rfl (Zxa · (.bool _)) (rE ?_)))
 dsimp only [w0,w1,w2,w3]
 refine qT rfl rfl rfl (uM 10 rfl rfl (qS 11 rfl (Zxg (q := Sl.a x0) (n := Sl.len x0) (z := Sl.cap x0) · rfl tu57 (.tmp rfl)) (uA 6 rfl rfl (rE ?_))))
 dsimp only [w0,w1,w2,w3]
 refine qT rfl rfl rfl (uM 12 rfl rfl (qS 7 rfl (Zxa · (.int _ _)) (uA 8 rfl rfl (rE ?_))))
 dsimp only [w0,w1,w2,w3]
 refine qQ rfl (Zxo rfl (Zye rfl ?_))
 try dsimp only [w0,w1,w2,w3]
 exact L0_snd  h
end Y3
namespace Y66
theorem at_ : FnAt Tryz.prog 74 Tryz.f74 := ⟨Tryz.func74,by kernel_rfl⟩
def d0 := (Tryz.f74.body).getD .skip
def r1 := kT d0
def r4 := kT (kY d0)
def r7 := kT (kY (kY d0))
def r11 := kT (kW d0)
def r13 := kT (kW (kB d0))
def c0 : Code := .seq (.region 0 r1 false) (.seq (.seq (.region 1 r4 false) (.cond (.tmp 8) (.seq (.region 2 r7 false) .ret) .skip)) (.seq (.region 3 r11 false) (.seq (.region 4 r13 false) .ret)))
theorem body : Tryz.f74.body = some c0 := by kernel_rfl
def f (k : Nat) (x0 : HP) (x1 : (List UInt8)) (S : HS) : Option ((Bool) × HS) :=
 (if (Option.isNone x0) = true then
 some (false,S) else
 (x0.bind fun p2 =>
 ((S.ldSl (HA.fld p2 0)).bind fun p3 =>
 ((Y3.f k p3 x1 S).bind fun p4 =>
 some (p4.1.2,p4.2)))))
theorem snd {x0 : HP} {x1 : (List UInt8)}  {p : (Bool) × HS} (h : f k x0 x1 S = some p) : HC b w e 74 [(.ptr x0),(.str x1)] S (RR (.bool p.1) p.2) := by
 unfold f at h
 refine HCall.of_run at_.at_ body ?_
 show HR b w e 74 none [.code c0] ⟨[(.ptr x0),(.str x1),z,z,z,z,z,z,z,z,z,z,z,z,z,z,z,z,z],[]⟩ S _
 refine qT rfl rfl rfl (qS 4 rfl (Zxa · (.bool _)) (rE ?_))
 dsimp only [w0,w1,w2,w3]
 refine qQ rfl (qT rfl rfl rfl (uM 7 rfl rfl (qS 8 rfl (Zxt · Zah3 (.tmp rfl) (.inl ⟨rfl,rfl⟩)) (rE ?_))))
 dsimp only [w0,w1,w2,w3]
 rcases ifc h with ⟨hc1,h⟩ | ⟨hc1,h⟩
 ·refine Zxb rfl (.tmp rfl) hc1 (qT rfl rfl rfl (qS 4 rfl (Zxa · (.bool _)) (rE ?_)))
  cases h
  exact Zxl rfl at_.at_ rfl (res1 rfl rfl) ⟨rfl,rfl⟩
 ·obtain ⟨p2,hp2,p3,hp3,h⟩ := bd2 h
  refine Zxc rfl (.tmp rfl) (bfalse hc1) (Zxd rfl (qT rfl rfl rfl (uM 10 rfl rfl (uN 11 rfl rfl hp2 (uF 12 rfl Zaai (by decide) rfl rfl (uL 13 rfl sc57 rfl rfl (Zxj hp3) ?_))))))
  try dsimp only [w0,w1,w2,w3]
  obtain ⟨p4,hp4,h⟩ := bindo h
  refine uM 14 rfl rfl (uQ 15 rfl (.func _) (ev2 rfl rfl) (HInv.static Y3.at_ Y3.body (Y3.snd  hp4)) (uM 9 rfl rfl (qS 16 rfl (Zxr · (.tmp rfl) rfl) ?_)))
  try dsimp only [w0,w1,w2,w3]
  refine qS 17 rfl (Zxr · (.tmp rfl) rfl) (uA 5 rfl rfl (uA 6 rfl rfl (rE ?_)))
  dsimp only [w0,w1,w2,w3]
  refine qT rfl rfl rfl (uM 18 rfl rfl (uA 4 rfl rfl (rE ?_)))
  cases h
  exact Zxl rfl at_.at_ rfl (res1 rfl rfl) ⟨rfl,rfl⟩
end Y66
namespace Y16
theorem at_ : FnAt Tryz.prog 44 Tryz.f44 := ⟨Tryz.func44,by kernel_rfl⟩
def d0 := (Tryz.f44.body).getD .skip
def r1 := kT d0
def r3 := kT (kB d0)
def c4 : Code := .ret
def c0 : Code := .seq (.region 0 r1 false) (.seq (.region 1 r3 false) c4)
theorem body : Tryz.f44.body = some c0 := by kernel_rfl
def J0 (k : Nat) (y18 : Bool) (S : HS) : Option ((Bool) × HS) :=
 some (y18,S)
theorem J0_snd  {y18 : Bool} {p : (Bool) × HS} (h : J0 k y18 S = some p) : HR b w e 44 none [.inRegion r3 [12],.code c4] ⟨[Ga,j,q,m,F,o,N,Gh,i,a,G,B,M,O,K,A,C,E,(.bool y18)],[]⟩ S (RR (.bool p.1) p.2) := by
 unfold J0 at h
 refine uA 6 rfl rfl (rE ?_)
 cases h
 exact Zxl rfl at_.at_ rfl (res1 rfl rfl) ⟨rfl,rfl⟩
def f (k : Nat) (x0 : HP) (x1 : Int) (x2 : (List UInt8)) (S : HS) : Option ((Bool) × HS) :=
 (if (!Option.isNone x0) = true then
 (x0.bind fun p2 =>
 ((S.ldM (HA.fld p2 2)).bind fun p3 =>
 ((S.look p3 (.int .i64 x1)).bind fun p4 =>
 ((dP (Option.getD p4 (.ptr none))).bind fun p5 =>
 ((Y66.f k p5 x2 S).bind fun p6 =>
 J0 k p6.1 p6.2))))) else
 J0 k false S)
theorem snd {x0 : HP} {x1 : Int} {x2 : (List UInt8)}  {p : (Bool) × HS} (h : f k x0 x1 x2 S = some p) : HC b w e 44 [(.ptr x0),(.int .i64 x1),(.str x2)] S (RR (.bool p.1) p.2) := by
 unfold f at h
 refine HCall.of_run at_.at_ body ?_
 show HR b w e 44 none [.code c0] ⟨[(.ptr x0),(.int .i64 x1),(.str x2),z,z,z,z,z,z,z,z,z,z,z,z,z,z,z,z],[]⟩ S _
 refine qT rfl rfl rfl (qS 6 rfl (Zxa · (.bool _)) (rE ?_))
 dsimp only [w0,w1,w2,w3]
 refine qT rfl rfl rfl (uM 7 rfl rfl (qS 8 rfl (Zxt · tu79 (.tmp rfl) (.inr ⟨rfl,rfl⟩)) (uM 9 rfl rfl ?_)))
 rcases ifc h with ⟨hc1,h⟩ | ⟨hc1,h⟩
 ·refine qG 9 10 rfl hc1 (oM · rfl) ?_
  try dsimp only [w0,w1,w2,w3]
  obtain ⟨p2,hp2,p3,hp3,h⟩ := bd2 h
  refine qG 9 11 rfl hc1 (oN · rfl hp2) (qG 9 12 rfl hc1 (oF · Zacz (by decide) rfl rfl) (qG 9 13 rfl hc1 (oL · Zajn rfl rfl (Zaa8 hp3)) (qG 9 14 rfl hc1 (oM · rfl) ?_)))
  try dsimp only [w0,w1,w2,w3]
  obtain ⟨p4,hp4,p5,hp5,p6,hp6,h⟩ := bd3 h
  refine qG 9 15 rfl hc1 (Zy9 · Zaed Zagc (fun β => .ptrNil) (Zabi tu3) (.tmp rfl) (.tmp rfl) hp4 (Zy3 hp5)) (qG 9 16 rfl hc1 (oM · rfl) (Zyp (t := 9) (dst := some 17) rfl rfl rfl hc1 (.func _) (ev2 rfl rfl) (HInv.static Y66.at_ Y66.body (Y66.snd  hp6)) ?_))
  rintro _ _ ⟨rfl,rfl⟩
  refine qS 18 rfl (Zxh · (.tmp rfl) hc1 (.tmp rfl)) ?_
  try dsimp only [w0,w1,w2,w3]
  exact J0_snd  h
 ·refine Zxi (dst := some 10) (t := 9) rfl rfl rfl (bfalse hc1) ?_
  try dsimp only [w0,w1,w2,w3]
  refine Zxi (dst := some 11) (t := 9) rfl rfl rfl (bfalse hc1) (Zxi (dst := some 12) (t := 9) rfl rfl rfl (bfalse hc1) (Zxi (dst := some 13) (t := 9) rfl rfl rfl (bfalse hc1) (Zxi (dst := some 14) (t := 9) rfl rfl rfl (bfalse hc1) ?_)))
  try dsimp only [w0,w1,w2,w3]
  refine Zxi (dst := some 15) (t := 9) rfl rfl rfl (bfalse hc1) (Zxi (dst := some 16) (t := 9) rfl rfl rfl (bfalse hc1) (Zxi (dst := some 17) (t := 9) rfl rfl rfl (bfalse hc1) (qS 18 rfl (Zxm · (.tmp rfl) (bfalse hc1) (.bool _)) ?_)))
  try dsimp only [w0,w1,w2,w3]
  exact J0_snd  h
end Y16
namespace Y8
theorem at_ : FnAt Tryz.prog 122 Tryz.f122 := ⟨Tryz.func122,by kernel_rfl⟩
def d0 := (Tryz.f122.body).getD .skip
def r1 := kT d0
def r3 := kT (kB d0)
def c0 : Code := .seq (.region 0 r1 false) (.seq (.region 1 r3 false) .ret)
theorem body : Tryz.f122.body = some c0 := by kernel_rfl
def f (x0 : Int) : Option (Bool) :=
 some (!decide (x0 = x0))
theorem snd {x0 : Int}  {p : Bool} (h : f x0 = some p) : HC b w e 122 [(.int .i64 x0)] S (RR (.bool p) S) := by
 unfold f at h
 refine HCall.of_run at_.at_ body ?_
 show HR b w e 122 none [.code c0] ⟨[(.int .i64 x0),z,z,z,z,z],[]⟩ S _
 refine qT rfl rfl rfl (qS 2 rfl (Zxa · (.bool _)) (rE ?_))
 dsimp only [w0,w1,w2,w3]
 refine qT rfl rfl rfl (uM 3 rfl rfl (uM 4 rfl rfl (uB 5 rfl rfl rfl rfl (uA 2 rfl rfl (rE ?_)))))
 cases h
 exact Zxl rfl at_.at_ rfl (res1 rfl rfl) ⟨rfl,rfl⟩
end Y8
namespace Y47
theorem at_ : FnAt Tryz.prog 114 Tryz.f114 := ⟨Tryz.func114,by kernel_rfl⟩
def d0 := (Tryz.f114.body).getD .skip
def r1 := kT d0
def r3 := kT (kB d0)
def c4 : Code := .ret
def c0 : Code := .seq (.region 0 r1 false) (.seq (.region 1 r3 false) c4)
theorem body : Tryz.f114.body = some c0 := by kernel_rfl
variable {y0 y1 : Int} {y11 y16 : Bool}
def J1  (y16 : Bool) : Option (Bool) :=
 some y16
theorem J1_snd   {p : Bool} (h : J1  y16 = some p) : HR b w e 114 none [.inRegion r3 [12],.code c4] ⟨[Ga,j,q,m,F,o,N,Gh,i,a,G,B,M,O,K,A,(.bool y16)],[]⟩ S (RR (.bool p) S) := by
 unfold J1 at h
 refine uA 4 rfl rfl (rE ?_)
 cases h
 exact Zxl rfl at_.at_ rfl (res1 rfl rfl) ⟨rfl,rfl⟩
def J0  (y0 : Int) (y1 : Int) (y11 : Bool) : Option (Bool) :=
 (if y11 = true then
 J1 true else
 J1 (decide (y0 < y1)))
theorem J0_snd   {p : Bool} (h : J0  y0 y1 y11 = some p) : HR b w e 114 none [.inRegion r3 [7,8,9,10,11,12],.code c4] ⟨[(.int .i64 y0),(.int .i64 y1),q,m,F,o,N,Gh,i,a,G,(.bool y11),M,O,K,A,C],[]⟩ S (RR (.bool p) S) := by
 unfold J0 at h
 refine uM 12 rfl rfl ?_
 try dsimp only [w0,w1,w2,w3]
 rcases ifc h with ⟨hc4,h⟩ | ⟨hc4,h⟩
 ·refine Zxi (dst := some 13) (t := 12) rfl rfl rfl hc4 (Zxi (dst := some 14) (t := 12) rfl rfl rfl hc4 (Zxi (dst := some 15) (t := 12) rfl rfl rfl hc4 (qS 16 rfl (Zxh · (.tmp rfl) hc4 (.bool _)) ?_)))
  try dsimp only [w0,w1,w2,w3]
  exact J1_snd  h
 ·refine qG 12 13 rfl (bfalse hc4) (oM · rfl) (qG 12 14 rfl (bfalse hc4) (oM · rfl) (qG 12 15 rfl (bfalse hc4) (oB · rfl rfl rfl) (qS 16 rfl (Zxm · (.tmp rfl) (bfalse hc4) (.tmp rfl)) ?_)))
  try dsimp only [w0,w1,w2,w3]
  exact J1_snd  h
def f (x0 : Int) (x1 : Int) : Option (Bool) :=
 ((Y8.f x0).bind fun p1 =>
 (if p1 = true then
 ((Y8.f x1).bind fun p3 =>
 J0 x0 x1 (!p3)) else
 J0 x0 x1 false))
theorem snd {x0 : Int} {x1 : Int}  {p : Bool} (h : f x0 x1 = some p) : HC b w e 114 [(.int .i64 x0),(.int .i64 x1)] S (RR (.bool p) S) := by
 unfold f at h
 refine HCall.of_run at_.at_ body ?_
 show HR b w e 114 none [.code c0] ⟨[(.int .i64 x0),(.int .i64 x1),z,z,z,z,z,z,z,z,z,z,z,z,z,z,z],[]⟩ S _
 refine qT rfl rfl rfl (qS 4 rfl (Zxa · (.bool _)) (rE ?_))
 dsimp only [w0,w1,w2,w3]
 obtain ⟨p1,hp1,h⟩ := bindo h
 refine qT rfl rfl rfl (uM 5 rfl rfl (uQ 6 rfl (.func _) (ev1 rfl) (HInv.static Y8.at_ Y8.body (Y8.snd  hp1)) (uM 7 rfl rfl ?_)))
 rcases ifc h with ⟨hc2,h⟩ | ⟨hc2,h⟩
 ·refine qG 7 8 rfl hc2 (oM · rfl) ?_
  try dsimp only [w0,w1,w2,w3]
  obtain ⟨p3,hp3,h⟩ := bindo h
  refine Zyp (t := 7) (dst := some 9) rfl rfl rfl hc2 (.func _) (ev1 rfl) (HInv.static Y8.at_ Y8.body (Y8.snd  hp3)) ?_
  rintro _ _ ⟨rfl,rfl⟩
  refine qG 7 10 rfl hc2 (Zys · (.tmp rfl)) (qS 11 rfl (Zxh · (.tmp rfl) hc2 (.tmp rfl)) ?_)
  try dsimp only [w0,w1,w2,w3]
  exact J0_snd  h
 ·refine Zxi (dst := some 8) (t := 7) rfl rfl rfl (bfalse hc2) ?_
  try dsimp only [w0,w1,w2,w3]
  refine Zxi (dst := some 9) (t := 7) rfl rfl rfl (bfalse hc2) (Zxi (dst := some 10) (t := 7) rfl rfl rfl (bfalse hc2) (qS 11 rfl (Zxm · (.tmp rfl) (bfalse hc2) (.bool _)) ?_))
  try dsimp only [w0,w1,w2,w3]
  exact J0_snd  h
end Y47
namespace Y38
theorem at_ : FnAt Tryz.prog 115 Tryz.f115 := ⟨Tryz.func115,by kernel_rfl⟩
def d0 := (Tryz.f115.body).getD .skip
def r1 := kT d0
def r3 := kT (kB d0)
def c0 : Code := .seq (.region 0 r1 false) (.seq (.region 1 r3 false) .ret)
theorem body : Tryz.f115.body = some c0 := by kernel_rfl
def f (x0 : Int) : Option (Bool) :=
 some (!decide (x0 = x0))
theorem snd {x0 : Int}  {p : Bool} (h : f x0 = some p) : HC b w e 115 [(.int .i64 x0)] S (RR (.bool p) S) := by
 unfold f at h
 refine HCall.of_run at_.at_ body ?_
 show HR b w e 115 none [.code c0] ⟨[(.int .i64 x0),z,z,z,z,z],[]⟩ S _
 refine qT rfl rfl rfl (qS 2 rfl (Zxa · (.bool _)) (rE ?_))
 dsimp only [w0,w1,w2,w3]
 refine qT rfl rfl rfl (uM 3 rfl rfl (uM 4 rfl rfl (uB 5 rfl rfl rfl rfl (uA 2 rfl rfl (rE ?_)))))
 cases h
 exact Zxl rfl at_.at_ rfl (res1 rfl rfl) ⟨rfl,rfl⟩
end Y38
namespace Y9
theorem at_ : FnAt Tryz.prog 84 Tryz.f84 := ⟨Tryz.func84,by kernel_rfl⟩
def d0 := (Tryz.f84.body).getD .skip
def r1 := kT d0
def r3 := kT (kB d0)
def r5 := kT (kW d0)
def d6 := kW (kB d0)
def d9 := kX (kA d6)
def r11 := kT (kA d9)
def r17 := kT (kY d9)
def r19 := kT (kZ (kB d9))
def r21 := kT (kW (kY d9))
def r22 := kR (kW (kZ (kB d9)))
def r24 := kT (kB d6)
def c25 : Code := .ret
def c23 : Code := .seq (.region 8 r24 false) c25
def c9 : Code := .seq (.seq (.region 3 r11 false) (.cond (.tmp 15) .skip (.exit 0))) (.block 1 (.seq (.region 4 r17 false) (.seq (.region 5 r19 false) (.cond (.tmp 27) (.region 6 r21 false) (.region 7 r22 false)))))
def c0 : Code := .seq (.region 0 r1 false) (.seq (.region 1 r3 false) (.seq (.region 2 r5 false) (.seq (.block 0 (.loop c9)) c23)))
theorem body : Tryz.f84.body = some c0 := by kernel_rfl
variable {y31 : Int} {y35 y42 y51 y52 y53 : Bool}
def J2 (k : Nat) (y31 : Int) (y53 : Bool) (S : HS) : Option ((Int × Bool) × HS) :=
 some ((y31,y53),S)
theorem J2_snd  {p : (Int × Bool) × HS} (h : J2 k y31 y53 S = some p) : HR b w e 84 none [.inRegion r24 [23,24],.code c25] ⟨[Ga,j,q,m,F,o,N,Gh,i,a,G,B,M,O,K,A,C,E,I,J,L,Q,U,V,Z,c,d,g,r,Kd,Ke,(.int .i64 y31),Kg,Kh,Ki,Kj,Kk,Kl,Km,Kn,Ko,Kp,Kq,Kr,Ks,Kt,Ku,Kv,Kw,Kx,Ky,Kz,Ma,(.bool y53)],[]⟩ S (RR (.tup [(.int .i64 p.1.1),(.bool p.1.2)]) p.2) := by
 unfold J2 at h
 refine uA 4 rfl rfl ?_
 try dsimp only [w0,w1,w2,w3]
 refine uA 5 rfl rfl (rE ?_)
 cases h
 exact Zxl rfl at_.at_ rfl (res2 rfl rfl rfl) ⟨rfl,rfl⟩
def J1 (k : Nat) (y31 : Int) (y35 : Bool) (y52 : Bool) (S : HS) : Option ((Int × Bool) × HS) :=
 (if y35 = true then
 J2 k y31 y52 S else
 J2 k y31 false S)
theorem J1_snd  {p : (Int × Bool) × HS} (h : J1 k y31 y35 y52 S = some p) : HR b w e 84 none [.inRegion r24 [22,23,24],.code c25] ⟨[Ga,j,q,m,F,o,N,Gh,i,a,G,B,M,O,K,A,C,E,I,J,L,Q,U,V,Z,c,d,g,r,Kd,Ke,(.int .i64 y31),Kg,Kh,Ki,(.bool y35),Kk,Kl,Km,Kn,Ko,Kp,Kq,Kr,Ks,Kt,Ku,Kv,Kw,Kx,Ky,Kz,(.bool y52),Mb],[]⟩ S (RR (.tup [(.int .i64 p.1.1),(.bool p.1.2)]) p.2) := by
 unfold J1 at h
 rcases ifc h with ⟨hc10,h⟩ | ⟨hc10,h⟩
 ·refine qS 53 rfl (Zxh · (.tmp rfl) hc10 (.tmp rfl)) ?_
  try dsimp only [w0,w1,w2,w3]
  exact J2_snd  h
 ·refine qS 53 rfl (Zxm · (.tmp rfl) (bfalse hc10) (.bool _)) ?_
  try dsimp only [w0,w1,w2,w3]
  exact J2_snd  h
def J3 (k : Nat) (y31 : Int) (y35 : Bool) (y42 : Bool) (y51 : Bool) (S : HS) : Option ((Int × Bool) × HS) :=
 (if y35 = true then
 (if y42 = true then
 J1 k y31 y35 true S else
 J1 k y31 y35 y51 S) else
 J2 k y31 false S)
theorem J3_snd  {p : (Int × Bool) × HS} (h : J3 k y31 y35 y42 y51 S = some p) : HR b w e 84 none [.inRegion r24 [21,22,23,24],.code c25] ⟨[Ga,j,q,m,F,o,N,Gh,i,a,G,B,M,O,K,A,C,E,I,J,L,Q,U,V,Z,c,d,g,r,Kd,Ke,(.int .i64 y31),Kg,Kh,Ki,(.bool y35),Kk,Kl,Km,Kn,Ko,Kp,(.bool y42),Kr,Ks,Kt,Ku,Kv,Kw,Kx,Ky,(.bool y51),Ma,Mb],[]⟩ S (RR (.tup [(.int .i64 p.1.1),(.bool p.1.2)]) p.2) := by
 unfold J3 at h
 rcases ifc h with ⟨hc16,h⟩ | ⟨hc16,h⟩
 ·rcases ifc h with ⟨hc17,h⟩ | ⟨hc17,h⟩
  ·refine qG 35 52 rfl hc16 (Zxh · (.tmp rfl) hc17 (.bool _)) ?_
   try dsimp only [w0,w1,w2,w3]
   exact J1_snd  h
  ·refine qG 35 52 rfl hc16 (Zxm · (.tmp rfl) (bfalse hc17) (.tmp rfl)) ?_
   try dsimp only [w0,w1,w2,w3]
   exact J1_snd  h
 ·refine Zxi (dst := some 52) (t := 35) rfl rfl rfl (bfalse hc16) (qS 53 rfl (Zxm · (.tmp rfl) (bfalse hc16) (.bool _)) ?_)
  try dsimp only [w0,w1,w2,w3]
  exact J2_snd  h
def L0 (k : Nat) : Nat → Sl → Int → Int → Int → Int → HS → Option ((Int × Bool) × HS)
 | 0,_,_,_,_,_,_ => none
 | n + 1,y0,y1,y6,y7,y8,S =>
  (if y7 < y8 then
  ((S.idx y0 (w64 (Int.fdiv (IntKind.wrap .u64 (w64 (y7 + y8))) (2 ^ (min (Int.toNat 1) (IntKind.bits .u64))))) 1).bind fun p2 =>
  ((S.ldI .i64 p2).bind fun p3 =>
  ((Y47.f p3 y1).bind fun p4 =>
  (if p4 = true then
  (L0 k n) y0 y1 y6 (w64 ((w64 (Int.fdiv (IntKind.wrap .u64 (w64 (y7 + y8))) (2 ^ (min (Int.toNat 1) (IntKind.bits .u64))))) + 1)) y8 S else
  (L0 k n) y0 y1 y6 y7 (w64 (Int.fdiv (IntKind.wrap .u64 (w64 (y7 + y8))) (2 ^ (min (Int.toNat 1) (IntKind.bits .u64))))) S)))) else
  (if y7 < y6 then
  ((S.idx y0 y7 1).bind fun p7 =>
  ((S.ldI .i64 p7).bind fun p8 =>
  (if p8 = y1 then
  J1 k y7 (decide (y7 < y6)) true S else
  ((S.idx y0 y7 1).bind fun p11 =>
  ((S.ldI .i64 p11).bind fun p12 =>
  ((Y38.f p12).bind fun p13 =>
  (if p13 = true then
  ((Y38.f y1).bind fun p15 =>
  J3 k y7 (decide (y7 < y6)) (decide (p8 = y1)) p15 S) else
  J3 k y7 (decide (y7 < y6)) (decide (p8 = y1)) false S))))))) else
  J2 k y7 false S))
theorem L0_snd  : ∀ {n : Nat} ⦃y0 : Sl⦄ ⦃y1 : Int⦄ ⦃y6 : Int⦄ ⦃y7 : Int⦄ ⦃y8 : Int⦄ ⦃S : HS⦄ ⦃p : (Int × Bool) × HS⦄ ⦃q m F o a G B M O K A C E I J L Q U V Z c d g r Kd Ke Kf Kg Kh Ki Kj Kk Kl Km Kn Ko Kp Kq Kr Ks Kt Ku Kv Kw Kx Ky Kz Ma Mb : HV⦄,L0 k n y0 y1 y6 y7 y8 S = some p → HR b w e 84 none [.inLoop c9,.inBlock 0,.code c23] ⟨[(Sl.hv y0),(.int .i64 y1),q,m,F,o,(.int .i64 y6),(.int .i64 y7),(.int .i64 y8),a,G,B,M,O,K,A,C,E,I,J,L,Q,U,V,Z,c,d,g,r,Kd,Ke,Kf,Kg,Kh,Ki,Kj,Kk,Kl,Km,Kn,Ko,Kp,Kq,Kr,Ks,Kt,Ku,Kv,Kw,Kx,Ky,Kz,Ma,Mb],[]⟩ S (RR (.tup [(.int .i64 p.1.1),(.bool p.1.2)]) p.2) := by
 intro n
 induction n with
 | zero => intro _ _ _ _ _ _ _ _ _ _ _ _ _ _ _ _ _ _ _ _ _ _ _ _ _ _ _ _ _ _ _ _ _ _ _ _ _ _ _ _ _ _ _ _ _ _ _ _ _ _ _ _ _ _ _ _ h; cases h
 | succ n ih =>
  intro y0 y1 y6 y7 y8 S p q m F o a G B M O K A C E I J L Q U V Z c d g r Kd Ke Kf Kg Kh Ki Kj Kk Kl Km Kn Ko Kp Kq Kr Ks Kt Ku Kv Kw Kx Ky Kz Ma Mb h
  simp only [L0] at h
  refine Zxz (qQ rfl (qT rfl rfl rfl (uM 13 rfl rfl (uM 14 rfl rfl (uB 15 rfl rfl rfl rfl (rE ?_))))))
  dsimp only [w0,w1,w2,w3]
  rcases ifc h with ⟨hc1,h⟩ | ⟨hc1,h⟩
  ·refine Zxb rfl (.tmp rfl) (decide_eq_true hc1) (Zxd rfl (Zxo rfl (qT rfl rfl rfl (uM 16 rfl rfl (uM 17 rfl rfl (uB 18 rfl rfl rfl rfl (qS 19 rfl (Zy5 · tu3 Zafh (.tmp rfl)) ?_)))))))
   try dsimp only [w0,w1,w2,w3]
   refine qS 20 rfl (Zago · (.tmp rfl) (.int _ _) (by decide)) (qS 21 rfl (Zy5 · Zafh tu3 (.tmp rfl)) (uA 9 rfl rfl (rE ?_)))
   dsimp only [w0,w1,w2,w3]
   obtain ⟨p2,hp2,p3,hp3,h⟩ := bd2 h
   refine qT rfl rfl rfl (uM 22 rfl rfl (uM 23 rfl rfl (qS 24 rfl (oX (s := y0) · tu42 sz3 rfl rfl hp2) (uL 25 rfl sc3 rfl rfl (Zxq hp3) ?_))))
   try dsimp only [w0,w1,w2,w3]
   obtain ⟨p4,hp4,h⟩ := bindo h
   refine uM 26 rfl rfl (uQ 27 rfl (.func _) (ev2 rfl rfl) (HInv.static Y47.at_ Y47.body (Y47.snd  hp4)) (rE ?_))
   dsimp only [w0,w1,w2,w3]
   rcases ifc h with ⟨hc5,h⟩ | ⟨hc5,h⟩
   ·refine Zxb rfl (.tmp rfl) hc5 (qR rfl rfl (uM 28 rfl rfl (uC 29 rfl rfl rfl (uA 7 rfl rfl (rE ?_)))))
    dsimp only [w0,w1,w2,w3]
    refine Zxf ?_
    try dsimp only [w0,w1,w2,w3]
    exact ih h
   ·refine Zxc rfl (.tmp rfl) (bfalse hc5) (qR rfl rfl (uM 30 rfl rfl (uA 8 rfl rfl (rE ?_))))
    dsimp only [w0,w1,w2,w3]
    refine Zxf ?_
    try dsimp only [w0,w1,w2,w3]
    exact ih h
  ·refine Zxc rfl (.tmp rfl) (decide_eq_false hc1) (Zyh rfl rfl (qT rfl rfl rfl (uM 31 rfl rfl (uM 32 rfl rfl (uM 33 rfl rfl (uB 34 rfl rfl rfl rfl ?_))))))
   try dsimp only [w0,w1,w2,w3]
   refine uM 35 rfl rfl ?_
   rcases ifc h with ⟨hc6,h⟩ | ⟨hc6,h⟩
   ·obtain ⟨p7,hp7,h⟩ := bindo h
    refine qG 35 36 rfl (decide_eq_true hc6) (oM · rfl) (qG 35 37 rfl (decide_eq_true hc6) (oM · rfl) (qG 35 38 rfl (decide_eq_true hc6) (oX (s := y0) · tu42 sz3 rfl rfl hp7) ?_))
    try dsimp only [w0,w1,w2,w3]
    obtain ⟨p8,hp8,h⟩ := bindo h
    refine qG 35 39 rfl (decide_eq_true hc6) (oL · sc3 rfl rfl (Zxq hp8)) (qG 35 40 rfl (decide_eq_true hc6) (oM · rfl) (qG 35 41 rfl (decide_eq_true hc6) (oB · rfl rfl rfl) (qG 35 42 rfl (decide_eq_true hc6) (oM · rfl) ?_)))
    try dsimp only [w0,w1,w2,w3]
    rcases ifc h with ⟨hc9,h⟩ | ⟨hc9,h⟩
    ·refine Zxi (dst := some 43) (t := 42) rfl rfl rfl (decide_eq_true hc9) (Zxi (dst := some 44) (t := 42) rfl rfl rfl (decide_eq_true hc9) (Zxi (dst := some 45) (t := 42) rfl rfl rfl (decide_eq_true hc9) (Zxi (dst := some 46) (t := 42) rfl rfl rfl (decide_eq_true hc9) ?_)))
     try dsimp only [w0,w1,w2,w3]
     refine Zxi (dst := some 47) (t := 42) rfl rfl rfl (decide_eq_true hc9) (Zxi (dst := some 48) (t := 42) rfl rfl rfl (decide_eq_true hc9) (Zyd (dst := some 49) (t := 48) rfl rfl rfl (Zyd (dst := some 50) (t := 48) rfl rfl rfl ?_)))
     try dsimp only [w0,w1,w2,w3]
     refine Zxi (dst := some 51) (t := 42) rfl rfl rfl (decide_eq_true hc9) (qG 35 52 rfl (decide_eq_true hc6) (Zxh · (.tmp rfl) (decide_eq_true hc9) (.bool _)) ?_)
     try dsimp only [w0,w1,w2,w3]
     exact J1_snd  h
    ·obtain ⟨p11,hp11,p12,hp12,h⟩ := bd2 h
     refine qG 42 43 rfl (decide_eq_false hc9) (oM · rfl) (qG 42 44 rfl (decide_eq_false hc9) (oM · rfl) (qG 42 45 rfl (decide_eq_false hc9) (oX (s := y0) · tu42 sz3 rfl rfl hp11) (qG 42 46 rfl (decide_eq_false hc9) (oL · sc3 rfl rfl (Zxq hp12)) ?_)))
     try dsimp only [w0,w1,w2,w3]
     obtain ⟨p13,hp13,h⟩ := bindo h
     refine Zyp (t := 42) (dst := some 47) rfl rfl rfl (decide_eq_false hc9) (.func _) (ev1 rfl) (HInv.static Y38.at_ Y38.body (Y38.snd  hp13)) ?_
     rintro _ _ ⟨rfl,rfl⟩
     refine qG 42 48 rfl (decide_eq_false hc9) (oM · rfl) ?_
     rcases ifc h with ⟨hc14,h⟩ | ⟨hc14,h⟩
     ·obtain ⟨p15,hp15,h⟩ := bindo h
      refine qG 48 49 rfl hc14 (oM · rfl) (Zyp (t := 48) (dst := some 50) rfl rfl rfl hc14 (.func _) (ev1 rfl) (HInv.static Y38.at_ Y38.body (Y38.snd  hp15)) ?_)
      rintro _ _ ⟨rfl,rfl⟩
      try dsimp only [w0,w1,w2,w3]
      refine qG 42 51 rfl (decide_eq_false hc9) (Zxh · (.tmp rfl) hc14 (.tmp rfl)) ?_
      try dsimp only [w0,w1,w2,w3]
      exact J3_snd  h
     ·refine Zxi (dst := some 49) (t := 48) rfl rfl rfl (bfalse hc14) (Zxi (dst := some 50) (t := 48) rfl rfl rfl (bfalse hc14) ?_)
      try dsimp only [w0,w1,w2,w3]
      refine qG 42 51 rfl (decide_eq_false hc9) (Zxm · (.tmp rfl) (bfalse hc14) (.bool _)) ?_
      try dsimp only [w0,w1,w2,w3]
      exact J3_snd  h
   ·refine Zxi (dst := some 36) (t := 35) rfl rfl rfl (decide_eq_false hc6) (Zxi (dst := some 37) (t := 35) rfl rfl rfl (decide_eq_false hc6) (Zxi (dst := some 38) (t := 35) rfl rfl rfl (decide_eq_false hc6) ?_))
    try dsimp only [w0,w1,w2,w3]
    refine Zxi (dst := some 39) (t := 35) rfl rfl rfl (decide_eq_false hc6) (Zxi (dst := some 40) (t := 35) rfl rfl rfl (decide_eq_false hc6) (Zxi (dst := some 41) (t := 35) rfl rfl rfl (decide_eq_false hc6) (Zxi (dst := some 42) (t := 35) rfl rfl rfl (decide_eq_false hc6) ?_)))
    try dsimp only [w0,w1,w2,w3]
    refine Zyd (dst := some 43) (t := 42) rfl rfl rfl (Zyd (dst := some 44) (t := 42) rfl rfl rfl (Zyd (dst := some 45) (t := 42) rfl rfl rfl (Zyd (dst := some 46) (t := 42) rfl rfl rfl ?_)))
    try dsimp only [w0,w1,w2,w3]
    refine Zyd (dst := some 47) (t := 42) rfl rfl rfl (Zyd (dst := some 48) (t := 42) rfl rfl rfl (Zyd (dst := some 49) (t := 48) rfl rfl rfl (Zyd (dst := some 50) (t := 48) rfl rfl rfl ?_)))
    try dsimp only [w0,w1,w2,w3]
    refine Zyd (dst := some 51) (t := 42) rfl rfl rfl (Zxi (dst := some 52) (t := 35) rfl rfl rfl (decide_eq_false hc6) (qS 53 rfl (Zxm · (.tmp rfl) (decide_eq_false hc6) (.bool _)) ?_))
    try dsimp only [w0,w1,w2,w3]
    exact J2_snd  h
def f (k : Nat) (x0 : Sl) (x1 : Int) (S : HS) : Option ((Int × Bool) × HS) :=
 L0 k k x0 x1 (Sl.len x0 : Int) 0 (Sl.len x0 : Int) S
theorem snd {x0 : Sl} {x1 : Int}  {p : (Int × Bool) × HS} (h : f k x0 x1 S = some p) : HC b w e 84 [(Sl.hv x0),(.int .i64 x1)] S (RR (.tup [(.int .i64 p.1.1),(.bool p.1.2)]) p.2) := by
 unfold f at h
 refine HCall.of_run at_.at_ body ?_
 show HR b w e 84 none [.code c0] ⟨[(Sl.hv x0),(.int .i64 x1),z,z,z,z,z,z,z,z,z,z,z,z,z,z,z,z,z,z,z,z,z,z,z,z,z,z,z,z,z,z,z,z,z,z,z,z,z,z,z,z,z,z,z,z,z,z,z,z,z,z,z,z],[]⟩ S _
 refine qT rfl rfl rfl (qS 4 rfl (Zxa · (.int _ _)) (qS 5 rfl (Zxa · (.bool _)) (rE ?_)))
 dsimp only [w0,w1,w2,w3]
 refine qT rfl rfl rfl (uM 10 rfl rfl (qS 11 rfl (Zxg (q := Sl.a x0) (n := Sl.len x0) (z := Sl.cap x0) · rfl tu42 (.tmp rfl)) (uA 6 rfl rfl (rE ?_))))
 dsimp only [w0,w1,w2,w3]
 refine qT rfl rfl rfl (uM 12 rfl rfl (qS 7 rfl (Zxa · (.int _ _)) (uA 8 rfl rfl (rE ?_))))
 dsimp only [w0,w1,w2,w3]
 refine qQ rfl (Zxo rfl (Zye rfl ?_))
 try dsimp only [w0,w1,w2,w3]
 exact L0_snd  h
end Y9
namespace Y27
theorem at_ : FnAt Tryz.prog 137 Tryz.f137 := ⟨Tryz.func137,by kernel_rfl⟩
def d0 := (Tryz.f137.body).getD .skip
def r1 := kT d0
def r6 := kT (kX (kY d0))
def r12 := kT (kY (kX (kB d0)))
def r13 := kR (kW (kX (kB d0)))
def c4 : Code := .seq (.seq (.region 1 r6 false) (.cond (.tmp 9) .skip (.exit 0))) (.seq (.block 1 (.region 3 r12 true)) (.region 2 r13 false))
def c0 : Code := .seq (.region 0 r1 false) (.block 0 (.loop c4))
theorem body : Tryz.f137.body = some c0 := by kernel_rfl
def L0 (k : Nat) : Nat → Sl → Int → Int → HS → Option ((Unit) × HS)
 | 0,_,_,_,_ => none
 | n + 1,y0,y2,y3,S =>
  (if y2 < y3 then
  ((S.idx y0 y3 1).bind fun p2 =>
  ((S.ldI .i64 p2).bind fun p3 =>
  ((S.idx y0 y2 1).bind fun p4 =>
  ((S.ldI .i64 p4).bind fun p5 =>
  ((S.idx y0 y2 1).bind fun p6 =>
  ((S.sets p6 [(.int .i64 p3)]).bind fun p7 =>
  ((p7.idx y0 y3 1).bind fun p8 =>
  ((p7.sets p8 [(.int .i64 p5)]).bind fun p9 =>
  (L0 k n) y0 (w64 (y2 + 1)) (w64 (y3 - 1)) p9)))))))) else
  some ((),S))
theorem L0_snd  : ∀ {n : Nat} ⦃y0 : Sl⦄ ⦃y2 : Int⦄ ⦃y3 : Int⦄ ⦃S : HS⦄ ⦃p : (Unit) × HS⦄ ⦃j F o N Gh i a G B M O K A C E I J L Q U V Z c d g : HV⦄,L0 k n y0 y2 y3 S = some p → HR b w e 137 none [.inLoop c4,.inBlock 0] ⟨[(Sl.hv y0),j,(.int .i64 y2),(.int .i64 y3),F,o,N,Gh,i,a,G,B,M,O,K,A,C,E,I,J,L,Q,U,V,Z,c,d,g],[]⟩ S (RR (.tup []) p.2) := by
 intro n
 induction n with
 | zero => intro _ _ _ _ _ _ _ _ _ _ _ _ _ _ _ _ _ _ _ _ _ _ _ _ _ _ _ _ _ _ h; cases h
 | succ n ih =>
  intro y0 y2 y3 S p j F o N Gh i a G B M O K A C E I J L Q U V Z c d g h
  simp only [L0] at h
  refine Zxz (qQ rfl (qT rfl rfl rfl (uM 7 rfl rfl (uM 8 rfl rfl (uB 9 rfl rfl rfl rfl (rE ?_))))))
  dsimp only [w0,w1,w2,w3]
  rcases ifc h with ⟨hc1,h⟩ | ⟨hc1,h⟩
  ·refine Zxb rfl (.tmp rfl) (decide_eq_true hc1) (Zxd rfl (qQ rfl (Zxo rfl ?_)))
   refine Zx8 (cls := [0,0,0,0,0,0,1,1,0,0,1,1,1,2,1,2]) (rk := [0,1,12,13,2,3,4,5,6,7,8,9,10,11,14,15]) rfl (by kernel_rfl) ?_
   refine yf 14 [0] rfl (oM · rfl) ?_
   refine yf 15 [2] rfl (oM · rfl) ?_
   refine yf 16 [0] rfl (oM · rfl) ?_
   refine yf 17 [3] rfl (oM · rfl) ?_
   try dsimp only [w0,w1,w2,w3]
   refine yf 18 [0] rfl (oM · rfl) ?_
   refine yf 19 [3] rfl (oM · rfl) ?_
   obtain ⟨p2,hp2,h⟩ := bindo h
   refine yr 20 [18,19] rfl (oX (s := y0) · tu42 sz3 rfl rfl hp2) ?_
   obtain ⟨p3,hp3,h⟩ := bindo h
   refine yr 21 [20] rfl (oL · sc3 rfl rfl (Zxq hp3)) ?_
   try dsimp only [w0,w1,w2,w3]
   refine yf 22 [0] rfl (oM · rfl) ?_
   refine yf 23 [2] rfl (oM · rfl) ?_
   obtain ⟨p4,hp4,h⟩ := bindo h
   refine yr 24 [22,23] rfl (oX (s := y0) · tu42 sz3 rfl rfl hp4) ?_
   obtain ⟨p5,hp5,h⟩ := bindo h
   refine yr 25 [24] rfl (oL · sc3 rfl rfl (Zxq hp5)) ?_
   try dsimp only [w0,w1,w2,w3]
   obtain ⟨p6,hp6,h⟩ := bindo h
   refine yr 26 [14,15] rfl (oX (s := y0) · tu42 sz3 rfl rfl hp6) ?_
   obtain ⟨p7,hp7,h⟩ := bindo h
   refine x_go (e_op (dst := none) (ts := [26,21]) rfl (by intro _ _ h; cases h) (by kernel_rfl) (fun _ ho => Zxk (v := (.int .i64 p3)) ho sz3 (.tmp rfl) rfl (.tmp rfl) rfl hp7)) rfl ?_
   obtain ⟨p8,hp8,h⟩ := bindo h
   refine yr 27 [16,17] rfl (oX (s := y0) · tu42 sz3 rfl rfl hp8) ?_
   obtain ⟨p9,hp9,h⟩ := bindo h
   refine x_go (e_op (dst := none) (ts := [27,25]) rfl (by intro _ _ h; cases h) (by kernel_rfl) (fun _ ho => Zxk (v := (.int .i64 p5)) ho sz3 (.tmp rfl) rfl (.tmp rfl) rfl hp9)) rfl ?_
   refine Zx5 rfl ?_
   refine rE ?_
   try dsimp only [w0,w1,w2,w3]
   refine Zxf (qR rfl rfl (uM 10 rfl rfl (uC 11 rfl rfl rfl (uM 12 rfl rfl (uC 13 rfl rfl rfl ?_)))))
   try dsimp only [w0,w1,w2,w3]
   refine uA 2 rfl rfl (uA 3 rfl rfl (rE ?_))
   dsimp only [w0,w1,w2,w3]
   exact ih h
  ·cases h
   exact Zxc rfl (.tmp rfl) (decide_eq_false hc1) (Zyh rfl rfl (Zzq at_.at_ rfl (res0 rfl) ⟨rfl,rfl⟩))
def f (k : Nat) (x0 : Sl) (S : HS) : Option ((Unit) × HS) :=
 L0 k k x0 0 (w64 ((Sl.len x0 : Int) - 1)) S
theorem snd {x0 : Sl}  {p : (Unit) × HS} (h : f k x0 S = some p) : HC b w e 137 [(Sl.hv x0)] S (RR (.tup []) p.2) := by
 unfold f at h
 refine HCall.of_run at_.at_ body ?_
 show HR b w e 137 none [.code c0] ⟨[(Sl.hv x0),z,z,z,z,z,z,z,z,z,z,z,z,z,z,z,z,z,z,z,z,z,z,z,z,z,z,z],[]⟩ S _
 refine qT rfl rfl rfl (uM 4 rfl rfl (qS 5 rfl (Zxg (q := Sl.a x0) (n := Sl.len x0) (z := Sl.cap x0) · rfl tu42 (.tmp rfl)) (uC 6 rfl rfl rfl (qS 2 rfl (Zxa · (.int _ _)) ?_))))
 try dsimp only [w0,w1,w2,w3]
 refine uA 3 rfl rfl (rE ?_)
 dsimp only [w0,w1,w2,w3]
 refine Zxo rfl (Zye rfl ?_)
 try dsimp only [w0,w1,w2,w3]
 exact L0_snd  h
end Y27
namespace Y129
theorem at_ : FnAt Tryz.prog 129 Tryz.f129 := ⟨Tryz.func129,by kernel_rfl⟩
def d0 := (Tryz.f129.body).getD .skip
def r1 := kT d0
def r3 := kT (kB d0)
def r4 := kR (kW d0)
def c0 : Code := .seq (.region 0 r1 false) (.seq (.region 1 r3 false) (.region 2 r4 false))
theorem body : Tryz.f129.body = some c0 := by kernel_rfl
def f (k : Nat) (x0 : Sl) (x1 : Int) (S : HS) : Option ((Unit) × HS) :=
 ((S.cut x0 0 x1 1).bind fun p1 =>
 ((Y27.f k p1 S).bind fun p2 =>
 ((p2.2.cut x0 x1 (Sl.len x0 : Int) 1).bind fun p3 =>
 ((Y27.f k p3 p2.2).bind fun p4 =>
 ((Y27.f k x0 p4.2).bind fun p5 =>
 some ((),p5.2))))))
theorem snd {x0 : Sl} {x1 : Int}  {p : (Unit) × HS} (h : f k x0 x1 S = some p) : HC b w e 129 [(Sl.hv x0),(.int .i64 x1)] S (RR (.tup []) p.2) := by
 unfold f at h
 refine HCall.of_run at_.at_ body ?_
 show HR b w e 129 none [.code c0] ⟨[(Sl.hv x0),(.int .i64 x1),z,z,z,z,z,z,z,z,z,z,z,z],[]⟩ S _
 obtain ⟨p1,hp1,p2,hp2,h⟩ := bd2 h
 refine qT rfl rfl rfl (uM 4 rfl rfl (uM 5 rfl rfl (qS 6 rfl (Zxn (kl := .i64) (kh := .i64) (s := x0) (l := 0) (h := x1) · tu42 si3 (.tmp rfl) (.inl ⟨rfl,rfl⟩) (.inr ⟨_,rfl,(.tmp rfl)⟩) hp1) (uQ 7 rfl (.func _) (ev1 rfl) (HInv.static Y27.at_ Y27.body (Y27.snd  hp2)) (rE ?_)))))
 dsimp only [w0,w1,w2,w3]
 obtain ⟨p3,hp3,p4,hp4,h⟩ := bd2 h
 refine qT rfl rfl rfl (uM 8 rfl rfl (uM 9 rfl rfl (qS 10 rfl (Zxn (kl := .i64) (kh := .i64) (s := x0) (l := x1) (h := (Sl.len x0 : Int)) · tu42 si3 (.tmp rfl) (.inr ⟨_,rfl,(.tmp rfl)⟩) (.inl ⟨rfl,rfl⟩) hp3) (uQ 11 rfl (.func _) (ev1 rfl) (HInv.static Y27.at_ Y27.body (Y27.snd  hp4)) (rE ?_)))))
 dsimp only [w0,w1,w2,w3]
 obtain ⟨p5,hp5,h⟩ := bindo h
 refine qR rfl rfl (uM 12 rfl rfl (uQ 13 rfl (.func _) (ev1 rfl) (HInv.static Y27.at_ Y27.body (Y27.snd  hp5)) (rE ?_)))
 dsimp only [w0,w1,w2,w3]
 cases h
 exact Zzq at_.at_ rfl (res0 rfl) ⟨rfl,rfl⟩
end Y129
namespace Y103
theorem at_ : FnAt Tryz.prog 117 Tryz.f117 := ⟨Tryz.func117,by kernel_rfl⟩
def d0 := (Tryz.f117.body).getD .skip
def r0 := kR d0
def c0 : Code := .region 0 r0 false
theorem body : Tryz.f117.body = some c0 := by kernel_rfl
def f (k : Nat) (x0 : Sl) (x1 : Int) (S : HS) : Option ((Unit) × HS) :=
 ((Y129.f k x0 (w64 ((Sl.len x0 : Int) - x1)) S).bind fun p1 =>
 some ((),p1.2))
theorem snd {x0 : Sl} {x1 : Int}  {p : (Unit) × HS} (h : f k x0 x1 S = some p) : HC b w e 117 [(Sl.hv x0),(.int .i64 x1)] S (RR (.tup []) p.2) := by
 unfold f at h
 refine HCall.of_run at_.at_ body ?_
 show HR b w e 117 none [.code c0] ⟨[(Sl.hv x0),(.int .i64 x1),z,z,z,z,z,z,z,z],[]⟩ S _
 refine qR rfl rfl (uM 4 rfl rfl (uM 5 rfl rfl (qS 6 rfl (Zxg (q := Sl.a x0) (n := Sl.len x0) (z := Sl.cap x0) · rfl tu42 (.tmp rfl)) (uM 7 rfl rfl ?_))))
 try dsimp only [w0,w1,w2,w3]
 obtain ⟨p1,hp1,h⟩ := bindo h
 refine uB 8 rfl rfl rfl rfl (uQ 9 rfl (.func _) (ev2 rfl rfl) (HInv.static Y129.at_ Y129.body (Y129.snd  hp1)) (rE ?_))
 dsimp only [w0,w1,w2,w3]
 cases h
 exact Zzq at_.at_ rfl (res0 rfl) ⟨rfl,rfl⟩
end Y103
namespace Y126
theorem at_ : FnAt Tryz.prog 85 Tryz.f85 := ⟨Tryz.func85,by kernel_rfl⟩
def d0 := (Tryz.f85.body).getD .skip
def r1 := kT d0
def r3 := kT (kB d0)
def r5 := kT (kW d0)
def d6 := kW (kB d0)
def r8 := kT (kA d6)
def r11 := kT (kY (kA d6))
def r15 := kT (kB d6)
def r18 := kT (kY (kB d6))
def r21 := kT (kY (kY (kB d6)))
def d24 := kW (kB d6)
def r26 := kT (kA d24)
def d28 := kY (kA d24)
def r29 := kT d28
def r31 := kT (kB d28)
def r33 := kT (kW d28)
def r35 := kT (kW (kB d28))
def r39 := kT (kB d24)
def d41 := kY (kB d24)
def r42 := kT d41
def r45 := kT (kY d41)
def r47 := kT (kZ (kB d41))
def r49 := kT (kW (kY d41))
def r53 := kT (kW (kB d24))
def r55 := kT (kW (kW d24))
def r57 := kT (kW (kW (kB d24)))
def c0 : Code := .seq (.region 0 r1 false) (.seq (.region 1 r3 false) (.seq (.region 2 r5 false) (.seq (.seq (.region 3 r8 false) (.cond (.tmp 16) (.seq (.region 4 r11 false) .ret) .skip)) (.seq (.region 5 r15 false) (.seq (.seq (.region 6 r18 false) (.cond (.tmp 22) (.seq (.region 7 r21 false) .ret) .skip)) (.seq (.seq (.region 8 r26 false) (.cond (.tmp 31) (.seq (.region 9 r29 false) (.seq (.region 10 r31 false) (.seq (.region 11 r33 true) (.seq (.region 12 r35 false) .ret)))) .skip)) (.seq (.region 13 r39 false) (.seq (.seq (.region 14 r42 false) (.cond (.tmp 68) (.seq (.region 15 r45 true) (.seq (.region 16 r47 false) (.seq (.region 17 r49 false) .ret))) .skip)) (.seq (.region 18 r53 false) (.seq (.region 19 r55 false) (.seq (.region 20 r57 false) .ret)))))))))))
theorem body : Tryz.f85.body = some c0 := by kernel_rfl
def f (k : Nat) (x0 : Sl) (x1 : Int) (x2 : Sl) (S : HS) : Option ((Sl) × HS) :=
 ((S.cut x0 x1 (Sl.len x0 : Int) 1).bind fun p1 =>
 (if (Sl.len x2 : Int) = 0 then
 some (x0,S) else
 (if x1 = (Sl.len x0 : Int) then
 ((S.rows x2 1).bind fun p4 =>
 ((S.app x0 p4 1).bind fun p5 =>
 some ((p5.1),(p5.2)))) else
 ((Sl.capOf x0).bind fun p6 =>
 (if (w64 ((Sl.len x0 : Int) + (Sl.len x2 : Int))) > p6 then
 ((S.cut x0 0 x1 1).bind fun p8 =>
 ((S.appZ p8 (w64 ((w64 ((Sl.len x0 : Int) + (Sl.len x2 : Int))) - x1)) [(.int .i64 0)] 1).bind fun p9 =>
 ((p9.2.cut (p9.1) x1 (Sl.len (p9.1) : Int) 1).bind fun p10 =>
 ((p9.2.rows x2 1).bind fun p11 =>
 ((p9.2.over p10 (List.take (Sl.len p10) p11) 1).bind fun p12 =>
 ((p12.cut (p9.1) (w64 (x1 + (Sl.len x2 : Int))) (Sl.len (p9.1) : Int) 1).bind fun p13 =>
 ((p12.cut x0 x1 (Sl.len x0 : Int) 1).bind fun p14 =>
 ((p12.rows p14 1).bind fun p15 =>
 ((p12.over p13 (List.take (Sl.len p13) p15) 1).bind fun p16 =>
 some ((p9.1),p16)))))))))) else
 ((S.cut x0 0 (w64 ((Sl.len x0 : Int) + (Sl.len x2 : Int))) 1).bind fun p17 =>
 ((S.cut p17 (w64 (x1 + (Sl.len x2 : Int))) (Sl.len p17 : Int) 1).bind fun p18 =>
 ((S.ovl x2 p18).bind fun p19 =>
 (if (!p19) = true then
 ((S.cut p17 (w64 (x1 + (Sl.len x2 : Int))) (Sl.len p17 : Int) 1).bind fun p21 =>
 ((S.cut p17 x1 (Sl.len p17 : Int) 1).bind fun p22 =>
 ((S.rows p22 1).bind fun p23 =>
 ((S.over p21 (List.take (Sl.len p21) p23) 1).bind fun p24 =>
 ((p24.cut p17 x1 (Sl.len p17 : Int) 1).bind fun p25 =>
 ((p24.rows x2 1).bind fun p26 =>
 ((p24.over p25 (List.take (Sl.len p25) p26) 1).bind fun p27 =>
 some (p17,p27)))))))) else
 ((S.cut p17 (Sl.len x0 : Int) (Sl.len p17 : Int) 1).bind fun p28 =>
 ((S.rows x2 1).bind fun p29 =>
 ((S.over p28 (List.take (Sl.len p28) p29) 1).bind fun p30 =>
 ((p30.cut p17 x1 (Sl.len p17 : Int) 1).bind fun p31 =>
 ((Y103.f k p31 (Sl.len x2 : Int) p30).bind fun p32 =>
 some (p17,p32.2)))))))))))))))
theorem snd {x0 : Sl} {x1 : Int} {x2 : Sl}  {p : (Sl) × HS} (h : f k x0 x1 x2 S = some p) : HC b w e 85 [(Sl.hv x0),(.int .i64 x1),(Sl.hv x2)] S (RR (Sl.hv p.1) p.2) := by
 unfold f at h
 refine HCall.of_run at_.at_ body ?_
 show HR b w e 85 none [.code c0] ⟨[(Sl.hv x0),(.int .i64 x1),(Sl.hv x2),z,z,z,z,z,z,z,z,z,z,z,z,z,z,z,z,z,z,z,z,z,z,z,z,z,z,z,z,z,z,z,z,z,z,z,z,z,z,z,z,z,z,z,z,z,z,z,z,z,z,z,z,z,z,z,z,z,z,z,z,z,z,z,z,z,z,z,z,z,z,z,z,z,z,z,z,z,z,z,z,z,z,z,z,z,z,z,z,z,z,z,z],[]⟩ S _
 refine qT rfl rfl rfl (qS 6 rfl (Zxa · (.const fun _ => .slNil none)) (rE ?_))
 dsimp only [w0,w1,w2,w3]
 obtain ⟨p1,hp1,h⟩ := bindo h
 refine qT rfl rfl rfl (uM 10 rfl rfl (uM 11 rfl rfl (qS 12 rfl (Zxn (kl := .i64) (kh := .i64) (s := x0) (l := x1) (h := (Sl.len x0 : Int)) · tu42 si3 (.tmp rfl) (.inr ⟨_,rfl,(.tmp rfl)⟩) (.inl ⟨rfl,rfl⟩) hp1) (rE ?_))))
 dsimp only [w0,w1,w2,w3]
 refine qT rfl rfl rfl (uM 13 rfl rfl (qS 14 rfl (Zxg (q := Sl.a x2) (n := Sl.len x2) (z := Sl.cap x2) · rfl tu42 (.tmp rfl)) (uA 7 rfl rfl (rE ?_))))
 dsimp only [w0,w1,w2,w3]
 refine qQ rfl (qT rfl rfl rfl (uM 15 rfl rfl (uC 16 rfl rfl rfl (rE ?_))))
 dsimp only [w0,w1,w2,w3]
 rcases ifc h with ⟨hc2,h⟩ | ⟨hc2,h⟩
 ·refine Zxb rfl (.tmp rfl) (decide_eq_true hc2) (qT rfl rfl rfl (uM 17 rfl rfl (uA 6 rfl rfl (rE ?_))))
  cases h
  exact Zxl rfl at_.at_ rfl (res1 rfl rfl) ⟨rfl,rfl⟩
 ·refine Zxc rfl (.tmp rfl) (decide_eq_false hc2) (Zxd rfl (qT rfl rfl rfl (uM 18 rfl rfl (qS 19 rfl (Zxg (q := Sl.a x0) (n := Sl.len x0) (z := Sl.cap x0) · rfl tu42 (.tmp rfl)) (uA 8 rfl rfl (rE ?_))))))
  dsimp only [w0,w1,w2,w3]
  refine qQ rfl (qT rfl rfl rfl (uM 20 rfl rfl (uM 21 rfl rfl (uB 22 rfl rfl rfl rfl (rE ?_)))))
  dsimp only [w0,w1,w2,w3]
  rcases ifc h with ⟨hc3,h⟩ | ⟨hc3,h⟩
  ·obtain ⟨p4,hp4,p5,hp5,h⟩ := bd2 h
   refine Zxb rfl (.tmp rfl) (decide_eq_true hc3) (qT rfl rfl rfl (uM 23 rfl rfl (uM 24 rfl rfl (qS 25 rfl (Zx1 (s := x0) (s1 := x2) el42 · rfl rfl ⟨_,tu42⟩ (.tmp rfl) (.tmp rfl) hp4 hp5) (uA 6 rfl rfl (rE ?_))))))
   cases h
   exact Zxl rfl at_.at_ rfl (res1 rfl rfl) ⟨rfl,rfl⟩
  ·refine Zxc rfl (.tmp rfl) (decide_eq_false hc3) (Zxd rfl (qQ rfl (qT rfl rfl rfl (uM 26 rfl rfl (uM 27 rfl rfl (uB 28 rfl rfl rfl rfl (uM 29 rfl rfl ?_)))))))
   try dsimp only [w0,w1,w2,w3]
   obtain ⟨p6,hp6,h⟩ := bindo h
   refine qS 30 rfl (Zagt (s := x0) · rfl tu42 (.tmp rfl) hp6) (uB 31 rfl rfl rfl rfl (rE ?_))
   dsimp only [w0,w1,w2,w3]
   rcases ifc h with ⟨hc7,h⟩ | ⟨hc7,h⟩
   ·obtain ⟨p8,hp8,h⟩ := bindo h
    refine Zxb rfl (.tmp rfl) (decide_eq_true hc7) (qT rfl rfl rfl (uM 32 rfl rfl (uM 33 rfl rfl (qS 34 rfl (Zxn (kl := .i64) (kh := .i64) (s := x0) (l := 0) (h := x1) · tu42 si3 (.tmp rfl) (.inl ⟨rfl,rfl⟩) (.inr ⟨_,rfl,(.tmp rfl)⟩) hp8) (uM 35 rfl rfl ?_)))))
    try dsimp only [w0,w1,w2,w3]
    refine uM 36 rfl rfl (uB 37 rfl rfl rfl rfl (uM 38 rfl rfl (uB 39 rfl rfl rfl rfl ?_)))
    try dsimp only [w0,w1,w2,w3]
    obtain ⟨p9,hp9,h⟩ := bindo h
    refine qS 40 rfl (Zzo (s := p8) el42 · rfl rfl tu3 (.tmp rfl) (.tmp rfl) hp9) (uA 9 rfl rfl (rE ?_))
    dsimp only [w0,w1,w2,w3]
    obtain ⟨p10,hp10,h⟩ := bindo h
    refine qT rfl rfl rfl (uM 41 rfl rfl (uM 42 rfl rfl (qS 43 rfl (Zxn (kl := .i64) (kh := .i64) (s := (p9.1)) (l := x1) (h := (Sl.len (p9.1) : Int)) · tu42 si3 (.tmp rfl) (.inr ⟨_,rfl,(.tmp rfl)⟩) (.inl ⟨rfl,rfl⟩) hp10) (uM 44 rfl rfl ?_))))
    try dsimp only [w0,w1,w2,w3]
    obtain ⟨p11,hp11,p12,hp12,h⟩ := bd2 h
    refine qS 45 rfl (Zyx (s := p10) (s1 := x2) el42 · rfl (.tmp rfl) (.tmp rfl) hp11 hp12) (rE ?_)
    dsimp only [w0,w1,w2,w3]
    refine qQ rfl ?_
    refine Zx8 (cls := [0,0,0,0,1,0,0,1,2]) (rk := [0,1,2,3,4,5,6,7,8]) rfl (by kernel_rfl) ?_
    refine yf 46 [9] rfl (oM · rfl) ?_
    refine yf 47 [1] rfl (oM · rfl) ?_
    refine yf 48 [7] rfl (oM · rfl) ?_
    refine yf 49 [47,48] rfl (oB · rfl rfl rfl) ?_
    try dsimp only [w0,w1,w2,w3]
    obtain ⟨p13,hp13,h⟩ := bindo h
    refine yr 50 [46,49] rfl (Zxn (kl := .i64) (kh := .i64) (s := (p9.1)) (l := (w64 (x1 + (Sl.len x2 : Int)))) (h := (Sl.len (p9.1) : Int)) · tu42 si3 (.tmp rfl) (.inr ⟨_,rfl,(.tmp rfl)⟩) (.inl ⟨rfl,rfl⟩) hp13) ?_
    refine yf 51 [0] rfl (oM · rfl) ?_
    refine yf 52 [1] rfl (oM · rfl) ?_
    obtain ⟨p14,hp14,h⟩ := bindo h
    refine yr 53 [51,52] rfl (Zxn (kl := .i64) (kh := .i64) (s := x0) (l := x1) (h := (Sl.len x0 : Int)) · tu42 si3 (.tmp rfl) (.inr ⟨_,rfl,(.tmp rfl)⟩) (.inl ⟨rfl,rfl⟩) hp14) ?_
    try dsimp only [w0,w1,w2,w3]
    obtain ⟨p15,hp15,p16,hp16,h⟩ := bd2 h
    refine ye 54 [50,53] rfl (Zyx (s := p13) (s1 := p14) el42 · rfl (.tmp rfl) (.tmp rfl) hp15 hp16) ?_
    refine Zx5 rfl ?_
    refine rE ?_
    try dsimp only [w0,w1,w2,w3]
    refine qT rfl rfl rfl (uM 55 rfl rfl (uA 6 rfl rfl (rE ?_)))
    cases h
    exact Zxl rfl at_.at_ rfl (res1 rfl rfl) ⟨rfl,rfl⟩
   ·refine Zxc rfl (.tmp rfl) (decide_eq_false hc7) (Zxd rfl (qT rfl rfl rfl (uM 56 rfl rfl (uM 57 rfl rfl (uM 58 rfl rfl (uB 59 rfl rfl rfl rfl ?_))))))
    try dsimp only [w0,w1,w2,w3]
    obtain ⟨p17,hp17,h⟩ := bindo h
    refine qS 60 rfl (Zxn (kl := .i64) (kh := .i64) (s := x0) (l := 0) (h := (w64 ((Sl.len x0 : Int) + (Sl.len x2 : Int)))) · tu42 si3 (.tmp rfl) (.inl ⟨rfl,rfl⟩) (.inr ⟨_,rfl,(.tmp rfl)⟩) hp17) (uA 0 rfl rfl (rE ?_))
    dsimp only [w0,w1,w2,w3]
    refine qQ rfl (qT rfl rfl rfl (uM 61 rfl rfl (uM 62 rfl rfl (uM 63 rfl rfl (uM 64 rfl rfl ?_)))))
    try dsimp only [w0,w1,w2,w3]
    obtain ⟨p18,hp18,p19,hp19,h⟩ := bd2 h
    refine uB 65 rfl rfl rfl rfl (qS 66 rfl (Zxn (kl := .i64) (kh := .i64) (s := p17) (l := (w64 (x1 + (Sl.len x2 : Int)))) (h := (Sl.len p17 : Int)) · tu42 si3 (.tmp rfl) (.inr ⟨_,rfl,(.tmp rfl)⟩) (.inl ⟨rfl,rfl⟩) hp18) (qS 67 rfl (Zaaf (s1 := x2) (s2 := p18) · ext116 tu42 si3 (.tmp rfl) (.tmp rfl) hp19) (qS 68 rfl (Zys · (.tmp rfl)) (rE ?_))))
    dsimp only [w0,w1,w2,w3]
    rcases ifc h with ⟨hc20,h⟩ | ⟨hc20,h⟩
    ·refine Zxb rfl (.tmp rfl) hc20 (qQ rfl ?_)
     refine Zx8 (cls := [0,0,0,0,1,0,0,1,2]) (rk := [0,1,2,3,4,5,6,7,8]) rfl (by kernel_rfl) ?_
     refine yf 69 [0] rfl (oM · rfl) ?_
     refine yf 70 [1] rfl (oM · rfl) ?_
     refine yf 71 [7] rfl (oM · rfl) ?_
     refine yf 72 [70,71] rfl (oB · rfl rfl rfl) ?_
     try dsimp only [w0,w1,w2,w3]
     obtain ⟨p21,hp21,h⟩ := bindo h
     refine yr 73 [69,72] rfl (Zxn (kl := .i64) (kh := .i64) (s := p17) (l := (w64 (x1 + (Sl.len x2 : Int)))) (h := (Sl.len p17 : Int)) · tu42 si3 (.tmp rfl) (.inr ⟨_,rfl,(.tmp rfl)⟩) (.inl ⟨rfl,rfl⟩) hp21) ?_
     refine yf 74 [0] rfl (oM · rfl) ?_
     refine yf 75 [1] rfl (oM · rfl) ?_
     obtain ⟨p22,hp22,h⟩ := bindo h
     refine yr 76 [74,75] rfl (Zxn (kl := .i64) (kh := .i64) (s := p17) (l := x1) (h := (Sl.len p17 : Int)) · tu42 si3 (.tmp rfl) (.inr ⟨_,rfl,(.tmp rfl)⟩) (.inl ⟨rfl,rfl⟩) hp22) ?_
     try dsimp only [w0,w1,w2,w3]
     obtain ⟨p23,hp23,p24,hp24,h⟩ := bd2 h
     refine ye 77 [73,76] rfl (Zyx (s := p21) (s1 := p22) el42 · rfl (.tmp rfl) (.tmp rfl) hp23 hp24) ?_
     refine Zx5 rfl ?_
     refine rE ?_
     try dsimp only [w0,w1,w2,w3]
     obtain ⟨p25,hp25,h⟩ := bindo h
     refine qT rfl rfl rfl (uM 78 rfl rfl (uM 79 rfl rfl (qS 80 rfl (Zxn (kl := .i64) (kh := .i64) (s := p17) (l := x1) (h := (Sl.len p17 : Int)) · tu42 si3 (.tmp rfl) (.inr ⟨_,rfl,(.tmp rfl)⟩) (.inl ⟨rfl,rfl⟩) hp25) (uM 81 rfl rfl ?_))))
     try dsimp only [w0,w1,w2,w3]
     obtain ⟨p26,hp26,p27,hp27,h⟩ := bd2 h
     refine qS 82 rfl (Zyx (s := p25) (s1 := x2) el42 · rfl (.tmp rfl) (.tmp rfl) hp26 hp27) (rE ?_)
     dsimp only [w0,w1,w2,w3]
     refine qT rfl rfl rfl (uM 83 rfl rfl (uA 6 rfl rfl (rE ?_)))
     cases h
     exact Zxl rfl at_.at_ rfl (res1 rfl rfl) ⟨rfl,rfl⟩
    ·obtain ⟨p28,hp28,h⟩ := bindo h
     refine Zxc rfl (.tmp rfl) (bfalse hc20) (Zxd rfl (qT rfl rfl rfl (uM 84 rfl rfl (uM 85 rfl rfl (qS 86 rfl (Zxn (kl := .i64) (kh := .i64) (s := p17) (l := (Sl.len x0 : Int)) (h := (Sl.len p17 : Int)) · tu42 si3 (.tmp rfl) (.inr ⟨_,rfl,(.tmp rfl)⟩) (.inl ⟨rfl,rfl⟩) hp28) (uM 87 rfl rfl ?_))))))
     try dsimp only [w0,w1,w2,w3]
     obtain ⟨p29,hp29,p30,hp30,h⟩ := bd2 h
     refine qS 88 rfl (Zyx (s := p28) (s1 := x2) el42 · rfl (.tmp rfl) (.tmp rfl) hp29 hp30) (rE ?_)
     dsimp only [w0,w1,w2,w3]
     obtain ⟨p31,hp31,h⟩ := bindo h
     refine qT rfl rfl rfl (uM 89 rfl rfl (uM 90 rfl rfl (qS 91 rfl (Zxn (kl := .i64) (kh := .i64) (s := p17) (l := x1) (h := (Sl.len p17 : Int)) · tu42 si3 (.tmp rfl) (.inr ⟨_,rfl,(.tmp rfl)⟩) (.inl ⟨rfl,rfl⟩) hp31) (uM 92 rfl rfl ?_))))
     try dsimp only [w0,w1,w2,w3]
     obtain ⟨p32,hp32,h⟩ := bindo h
     refine uQ 93 rfl (.func _) (ev2 rfl rfl) (HInv.static Y103.at_ Y103.body (Y103.snd  hp32)) (rE ?_)
     dsimp only [w0,w1,w2,w3]
     refine qT rfl rfl rfl (uM 94 rfl rfl (uA 6 rfl rfl (rE ?_)))
     cases h
     exact Zxl rfl at_.at_ rfl (res1 rfl rfl) ⟨rfl,rfl⟩
end Y126
namespace Y97
theorem at_ : FnAt Tryz.prog 85 Tryz.f85 := Y126.at_
theorem body : Tryz.f85.body = some Y126.c0 := Y126.body
def f (x0 : Sl) (x1 : Int) (x2 : Sl) (S : HS) : Option ((Sl) × HS) := HS.ins S x0 x1 x2 1
theorem snd {b : Nat} {w : World} {e : Bt} {x0 : Sl} {x1 : Int} {x2 : Sl} {p : (Sl) × HS} (h : f x0 x1 x2 S = some p) : HC b w e 85 [(Sl.hv x0),(.int .i64 x1),(Sl.hv x2)] S (RR (Sl.hv p.1) p.2) :=
 Zad0 (rot := fun a b T => Y103.f 0 a b T) (zr := [(.int .i64 0)]) (fun _ _ _ h => Y126.snd (k := 0) h) h
end Y97
namespace Y11
theorem at_ : FnAt Tryz.prog 55 Tryz.f55 := ⟨Tryz.func55,by kernel_rfl⟩
def d0 := (Tryz.f55.body).getD .skip
def r1 := kT d0
def r3 := kT (kB d0)
def r6 := kT (kY (kB d0))
def r9 := kT (kY (kY (kB d0)))
def d12 := kW (kB d0)
def r14 := kT (kA d12)
def d16 := kY (kA d12)
def r18 := kT (kA d16)
def d23 := kW (kA d16)
def r26 := kT (kX d23)
def d27 := kZ (kA d23)
def r28 := kT d27
def r30 := kT (kB d27)
def r33 := kT (kY (kB d27))
def r34 := kR (kZ (kW d27))
def r36 := kR (kB d23)
def r38 := kT (kB d12)
def c37 : Code := .seq (.region 12 r38 false) .ret
def c36 : Code := .region 11 r36 false
def c17 : Code := .seq (.region 5 r18 false) (.seq (.cond (.tmp 15) .skip (.exit 0)) (.seq (.block 1 (.seq (.region 6 r26 false) (.seq (.region 7 r28 false) (.seq (.region 8 r30 false) (.cond (.tmp 28) (.seq (.region 9 r33 false) (.region 10 r34 false)) .skip))))) c36))
def c0 : Code := .seq (.region 0 r1 false) (.seq (.region 1 r3 false) (.seq (.seq (.region 2 r6 false) (.cond (.tmp 11) (.seq (.region 3 r9 false) .ret) .skip)) (.seq (.seq (.region 4 r14 false) (.block 0 (.loop c17))) c37)))
theorem body : Tryz.f55.body = some c0 := by kernel_rfl
variable {y0 : HP} {y5 y13 y14 : Int} {y12 : Sl}
def J1 (k : Nat) (rec0 : HP → Int → Sl → Int → Int → HS → Option ((Int) × HS)) (y0 : HP) (y5 : Int) (y12 : Sl) (y13 : Int) (y14 : Int) (S : HS) : Option ((Int) × HS) :=
 rec0 y0 y5 y12 y13 (w64 (y14 + 1)) S
theorem J1_snd {rec0 : HP → Int → Sl → Int → Int → HS → Option ((Int) × HS)} (hrec0 : ∀ ⦃y0 : HP⦄ ⦃y5 : Int⦄ ⦃y12 : Sl⦄ ⦃y13 : Int⦄ ⦃y14 : Int⦄ ⦃S : HS⦄ ⦃p : (Int) × HS⦄ ⦃j q m F N Gh i a G B A C E I J L Q U V Z c d g r Kd Ke Kf Kg Kh Ki Kj Kk Kl Km Kn Ko Kp Kq Kr : HV⦄,rec0 y0 y5 y12 y13 y14 S = some p → HR b w e 55 none [.inLoop c17,.inBlock 0,.code c37] ⟨[(.ptr y0),j,q,m,F,(.int .i64 y5),N,Gh,i,a,G,B,(Sl.hv y12),(.int .i64 y13),(.int .i64 y14),A,C,E,I,J,L,Q,U,V,Z,c,d,g,r,Kd,Ke,Kf,Kg,Kh,Ki,Kj,Kk,Kl,Km,Kn,Ko,Kp,Kq,Kr],[]⟩ S (RR (.int .i64 p.1) p.2)) {p : (Int) × HS} (h : J1 k rec0 y0 y5 y12 y13 y14 S = some p) : HR b w e 55 none [.code c36,.inLoop c17,.inBlock 0,.code c37] ⟨[(.ptr y0),j,q,m,F,(.int .i64 y5),N,Gh,i,a,G,B,(Sl.hv y12),(.int .i64 y13),(.int .i64 y14),A,C,E,I,J,L,Q,U,V,Z,c,d,g,r,Kd,Ke,Kf,Kg,Kh,Ki,Kj,Kk,Kl,Km,Kn,Ko,Kp,Kq,Kr],[]⟩ S (RR (.int .i64 p.1) p.2) := by
 unfold J1 at h
 refine qR rfl rfl (uC 42 rfl rfl rfl (uM 14 rfl rfl (rE ?_)))
 dsimp only [w0,w1,w2,w3]
 exact hrec0 h
def L0 (k : Nat) : Nat → HP → Int → Sl → Int → Int → HS → Option ((Int) × HS)
 | 0,_,_,_,_,_,_ => none
 | n + 1,y0,y5,y12,y13,y14,S =>
  (if y14 < y13 then
  ((S.idx y12 y14 1).bind fun p3 =>
  ((S.ldI .i64 p3).bind fun p4 =>
  (y0.bind fun p5 =>
  ((S.ldSl (HA.fld p5 0)).bind fun p6 =>
  ((Y9.f k p6 p4 S).bind fun p7 =>
  (if (!p7.1.2) = true then
  (y0.bind fun p9 =>
  ((p7.2.ldSl (HA.fld p9 0)).bind fun p10 =>
  (letv (HS.lit p7.2 [[(.int .i64 p4)]] 1) fun p11 =>
  ((Y97.f p10 p7.1.1 (p11.1) (p11.2)).bind fun p12 =>
  (y0.bind fun p13 =>
  ((p12.2.sets (HA.fld p13 0) [(Sl.hv p12.1)]).bind fun p14 =>
  J1 k (L0 k n) y0 (w64 (y5 + 1)) y12 y13 y14 p14)))))) else
  J1 k (L0 k n) y0 y5 y12 y13 y14 p7.2)))))) else
  some (y5,S))
theorem L0_snd  : ∀ {n : Nat} ⦃y0 : HP⦄ ⦃y5 : Int⦄ ⦃y12 : Sl⦄ ⦃y13 : Int⦄ ⦃y14 : Int⦄ ⦃S : HS⦄ ⦃p : (Int) × HS⦄ ⦃j q m F N Gh i a G B A C E I J L Q U V Z c d g r Kd Ke Kf Kg Kh Ki Kj Kk Kl Km Kn Ko Kp Kq Kr : HV⦄,L0 k n y0 y5 y12 y13 y14 S = some p → HR b w e 55 none [.inLoop c17,.inBlock 0,.code c37] ⟨[(.ptr y0),j,q,m,F,(.int .i64 y5),N,Gh,i,a,G,B,(Sl.hv y12),(.int .i64 y13),(.int .i64 y14),A,C,E,I,J,L,Q,U,V,Z,c,d,g,r,Kd,Ke,Kf,Kg,Kh,Ki,Kj,Kk,Kl,Km,Kn,Ko,Kp,Kq,Kr],[]⟩ S (RR (.int .i64 p.1) p.2) := by
 intro n
 induction n with
 | zero => intro _ _ _ _ _ _ _ _ _ _ _ _ _ _ _ _ _ _ _ _ _ _ _ _ _ _ _ _ _ _ _ _ _ _ _ _ _ _ _ _ _ _ _ _ _ _ h; cases h
 | succ n ih =>
  intro y0 y5 y12 y13 y14 S p j q m F N Gh i a G B A C E I J L Q U V Z c d g r Kd Ke Kf Kg Kh Ki Kj Kk Kl Km Kn Ko Kp Kq Kr h
  simp only [L0] at h
  refine Zxz (qT rfl rfl rfl (uB 15 rfl rfl rfl rfl (rE ?_)))
  dsimp only [w0,w1,w2,w3]
  refine qQ rfl ?_
  rcases ifc h with ⟨hc2,h⟩ | ⟨hc2,h⟩
  ·obtain ⟨p3,hp3,p4,hp4,h⟩ := bd2 h
   refine Zxb rfl (.tmp rfl) (decide_eq_true hc2) (Zxd rfl (qQ rfl (Zxo rfl (qT rfl rfl rfl (qS 16 rfl (oX (s := y12) · tu42 sz3 rfl rfl hp3) (uL 17 rfl sc3 rfl rfl (Zxq hp4) (uA 7 rfl rfl (rE ?_))))))))
   dsimp only [w0,w1,w2,w3]
   obtain ⟨p5,hp5,p6,hp6,h⟩ := bd2 h
   refine qT rfl rfl rfl (uM 19 rfl rfl (uN 20 rfl rfl hp5 (uF 21 rfl Zaau (by decide) rfl rfl (uL 22 rfl sc42 rfl rfl (Zxj hp6) ?_))))
   try dsimp only [w0,w1,w2,w3]
   obtain ⟨p7,hp7,h⟩ := bindo h
   refine uM 23 rfl rfl (uQ 24 rfl (.func _) (ev2 rfl rfl) (HInv.static Y9.at_ Y9.body (Y9.snd  hp7)) (uM 18 rfl rfl (qS 25 rfl (Zxr · (.tmp rfl) rfl) ?_)))
   try dsimp only [w0,w1,w2,w3]
   refine qS 26 rfl (Zxr · (.tmp rfl) rfl) (uA 8 rfl rfl (uA 9 rfl rfl (rE ?_)))
   dsimp only [w0,w1,w2,w3]
   refine qT rfl rfl rfl (uM 27 rfl rfl (qS 28 rfl (Zys · (.tmp rfl)) (rE ?_)))
   dsimp only [w0,w1,w2,w3]
   rcases ifc h with ⟨hc8,h⟩ | ⟨hc8,h⟩
   ·obtain ⟨p9,hp9,h⟩ := bindo h
    refine Zxb rfl (.tmp rfl) hc8 (qT rfl rfl rfl (uM 29 rfl rfl (uM 30 rfl rfl (uN 31 rfl rfl hp9 (uF 32 rfl Zaau (by decide) rfl rfl ?_)))))
    try dsimp only [w0,w1,w2,w3]
    obtain ⟨p10,hp10,h⟩ := bindo h
    obtain ⟨p11,hp11,h⟩ := leto h
    refine uL 33 rfl sc42 rfl rfl (Zxj hp10) (uM 34 rfl rfl (uM 35 rfl rfl (qS 36 rfl (Zxp (xs := [(.tmp 35)]) el42 · rfl rfl (by decide) (ev1 rfl) rfl rfl hp11) ?_)))
    try dsimp only [w0,w1,w2,w3]
    obtain ⟨p12,hp12,h⟩ := bindo h
    refine uQ 37 rfl (.func _) (ev3 rfl rfl rfl) (HInv.static Y97.at_ Y97.body (Y97.snd  hp12)) ?_
    obtain ⟨p13,hp13,p14,hp14,h⟩ := bd2 h
    refine uN 38 rfl rfl hp13 (uF 39 rfl Zaau (by decide) rfl rfl (qN rfl (Zxk (v := (Sl.hv p12.1)) · sz42 (.tmp rfl) rfl (.tmp rfl) rfl hp14) (rE ?_)))
    dsimp only [w0,w1,w2,w3]
    refine qR rfl rfl (uM 40 rfl rfl (uC 41 rfl rfl rfl (uA 5 rfl rfl (rE ?_))))
    dsimp only [w0,w1,w2,w3]
    refine Zxf ?_
    try dsimp only [w0,w1,w2,w3]
    exact J1_snd ih h
   ·refine Zxc rfl (.tmp rfl) (bfalse hc8) (Zxd rfl (Zxf ?_))
    try dsimp only [w0,w1,w2,w3]
    exact J1_snd ih h
  ·refine Zxc rfl (.tmp rfl) (decide_eq_false hc2) (Zyh rfl rfl (qT rfl rfl rfl (uM 43 rfl rfl (uA 4 rfl rfl (rE ?_)))))
   cases h
   exact Zxl rfl at_.at_ rfl (res1 rfl rfl) ⟨rfl,rfl⟩
def f (k : Nat) (x0 : HP) (x1 : Sl) (S : HS) : Option ((Int) × HS) :=
 (if (Option.isNone x0) = true then
 some (0,S) else
 L0 k k x0 0 x1 (Sl.len x1 : Int) 0 S)
theorem snd {x0 : HP} {x1 : Sl}  {p : (Int) × HS} (h : f k x0 x1 S = some p) : HC b w e 55 [(.ptr x0),(Sl.hv x1)] S (RR (.int .i64 p.1) p.2) := by
 unfold f at h
 refine HCall.of_run at_.at_ body ?_
 show HR b w e 55 none [.code c0] ⟨[(.ptr x0),(Sl.hv x1),z,z,z,z,z,z,z,z,z,z,z,z,z,z,z,z,z,z,z,z,z,z,z,z,z,z,z,z,z,z,z,z,z,z,z,z,z,z,z,z,z,z],[]⟩ S _
 refine qT rfl rfl rfl (qS 4 rfl (Zxa · (.int _ _)) (rE ?_))
 dsimp only [w0,w1,w2,w3]
 refine qT rfl rfl rfl (qS 5 rfl (Zxa · (.int _ _)) (rE ?_))
 dsimp only [w0,w1,w2,w3]
 refine qQ rfl (qT rfl rfl rfl (uM 10 rfl rfl (qS 11 rfl (Zxt · tu96 (.tmp rfl) (.inl ⟨rfl,rfl⟩)) (rE ?_))))
 dsimp only [w0,w1,w2,w3]
 rcases ifc h with ⟨hc1,h⟩ | ⟨hc1,h⟩
 ·refine Zxb rfl (.tmp rfl) hc1 (qT rfl rfl rfl (qS 4 rfl (Zxa · (.int _ _)) (rE ?_)))
  cases h
  exact Zxl rfl at_.at_ rfl (res1 rfl rfl) ⟨rfl,rfl⟩
 ·refine Zxc rfl (.tmp rfl) (bfalse hc1) (Zxd rfl (qQ rfl (qT rfl rfl rfl (uM 12 rfl rfl (qS 13 rfl (Zxg (q := Sl.a x1) (n := Sl.len x1) (z := Sl.cap x1) · rfl tu42 (.tmp rfl)) (qS 14 rfl (Zzj · (.int _ _)) (rE ?_)))))))
  dsimp only [w0,w1,w2,w3]
  refine Zxo rfl (Zye rfl ?_)
  try dsimp only [w0,w1,w2,w3]
  exact L0_snd  h
end Y11
namespace Y21
theorem at_ : FnAt Tryz.prog 53 Tryz.f53 := ⟨Tryz.func53,by kernel_rfl⟩
def d0 := (Tryz.f53.body).getD .skip
def r1 := kT d0
def r3 := kT (kB d0)
def r5 := kT (kW d0)
def r7 := kT (kW (kB d0))
def c0 : Code := .seq (.region 0 r1 false) (.seq (.region 1 r3 false) (.seq (.region 2 r5 false) (.seq (.region 3 r7 false) .ret)))
theorem body : Tryz.f53.body = some c0 := by kernel_rfl
def f (k : Nat) (x0 : Sl) (S : HS) : Option ((HP) × HS) :=
 (letv (HS.new S (.cells 1 [[(Sl.hv Sl.nil)]] true)) fun p1 =>
 ((Y11.f k (some (HA.cell0 S.next)) x0 p1).bind fun p2 =>
 some ((some (HA.cell0 S.next)),p2.2)))
theorem snd {x0 : Sl}  {p : (HP) × HS} (h : f k x0 S = some p) : HC b w e 53 [(Sl.hv x0)] S (RR (.ptr p.1) p.2) := by
 unfold f at h
 refine HCall.of_run at_.at_ body ?_
 show HR b w e 53 none [.code c0] ⟨[(Sl.hv x0),z,z,z,z,z,z,z,z,z],[]⟩ S _
 refine qT rfl rfl rfl (qS 2 rfl (Zxa · (.const fun _ => .ptrNil)) (rE ?_))
 dsimp only [w0,w1,w2,w3]
 obtain ⟨p1,hp1,h⟩ := leto h
 refine qT rfl rfl rfl (qS 4 rfl (Zy1 (is := []) (xs := []) (r := [(Sl.hv Sl.nil)]) st138 · rfl rfl Evs.nil rfl) (qS 5 rfl (Zyf · (.tmp rfl) (Yav _) rfl hp1) (uA 3 rfl rfl (rE ?_))))
 dsimp only [w0,w1,w2,w3]
 obtain ⟨p2,hp2,h⟩ := bindo h
 refine qT rfl rfl rfl (uM 6 rfl rfl (uM 7 rfl rfl (uQ 8 rfl (.func _) (ev2 rfl rfl) (HInv.static Y11.at_ Y11.body (Y11.snd  hp2)) (rE ?_))))
 dsimp only [w0,w1,w2,w3]
 refine qT rfl rfl rfl (uM 9 rfl rfl (uA 2 rfl rfl (rE ?_)))
 cases h
 exact Zxl rfl at_.at_ rfl (res1 rfl rfl) ⟨rfl,rfl⟩
end Y21
namespace Y68
theorem at_ : FnAt Tryz.prog 45 Tryz.f45 := ⟨Tryz.func45,by kernel_rfl⟩
def d0 := (Tryz.f45.body).getD .skip
def r1 := kT d0
def r3 := kT (kB d0)
def c0 : Code := .seq (.region 0 r1 false) (.seq (.region 1 r3 false) .ret)
theorem body : Tryz.f45.body = some c0 := by kernel_rfl
def f (k : Nat) (x0 : (List UInt8)) (x1 : Int) (S : HS) : Option ((HP) × HS) :=
 ((Y21.f k Sl.nil S).bind fun p1 =>
 (letv (HS.new p1.2 (.cells 9 [[(.str x0),(.int .i64 x1),(Sl.hv Sl.nil),(.str []),(.int .i64 20),(.str []),(.int .i64 0),(Sl.hv Sl.nil),(.ptr p1.1)]] true)) fun p2 =>
 some ((some (HA.cell0 p1.2.next)),p2)))
theorem snd {x0 : (List UInt8)} {x1 : Int}  {p : (HP) × HS} (h : f k x0 x1 S = some p) : HC b w e 45 [(.str x0),(.int .i64 x1)] S (RR (.ptr p.1) p.2) := by
 unfold f at h
 refine HCall.of_run at_.at_ body ?_
 show HR b w e 45 none [.code c0] ⟨[(.str x0),(.int .i64 x1),z,z,z,z,z,z,z,z],[]⟩ S _
 refine qT rfl rfl rfl (qS 4 rfl (Zxa · (.const fun _ => .ptrNil)) (rE ?_))
 dsimp only [w0,w1,w2,w3]
 obtain ⟨p1,hp1,h⟩ := bindo h
 refine qT rfl rfl rfl (uM 5 rfl rfl (uM 6 rfl rfl (uQ 7 rfl (.func _) (.cons (.const fun _ => .slNil none) Evs.nil) (HInv.static Y21.at_ Y21.body (Y21.snd  hp1)) (qS 8 rfl (Zy1 (is := [0,1,4,8]) (xs := [(.tmp 5),(.tmp 6),(.const (.int .i64 20)),(.tmp 7)]) (r := [(.str x0),(.int .i64 x1),(Sl.hv Sl.nil),(.str []),(.int .i64 20),(.str []),(.int .i64 0),(Sl.hv Sl.nil),(.ptr p1.1)]) st114 · rfl rfl (.cons (.tmp rfl) (.cons (.tmp rfl) (.cons (.int _ _) (ev1 rfl)))) rfl) ?_))))
 try dsimp only [w0,w1,w2,w3]
 obtain ⟨p2,hp2,h⟩ := leto h
 refine qS 9 rfl (Zyf · (.tmp rfl) (Yav _) rfl hp2) (uA 4 rfl rfl (rE ?_))
 cases h
 exact Zxl rfl at_.at_ rfl (res1 rfl rfl) ⟨rfl,rfl⟩
end Y68
namespace Y35
theorem at_ : FnAt Tryz.prog 46 Tryz.f46 := ⟨Tryz.func46,by kernel_rfl⟩
def d0 := (Tryz.f46.body).getD .skip
def r1 := kT d0
def r4 := kT (kY d0)
def r7 := kT (kY (kY d0))
def r11 := kT (kW d0)
def c0 : Code := .seq (.region 0 r1 false) (.seq (.seq (.region 1 r4 false) (.cond (.tmp 4) (.seq (.region 2 r7 false) .ret) .skip)) (.seq (.region 3 r11 false) .ret))
theorem body : Tryz.f46.body = some c0 := by kernel_rfl
def f (x0 : HP) (S : HS) : Option ((Int) × HS) :=
 (if (Option.isNone x0) = true then
 some (0,S) else
 (x0.bind fun p2 =>
 ((S.ldSl (HA.fld p2 1)).bind fun p3 =>
 some ((Sl.len p3 : Int),S))))
theorem snd {x0 : HP}  {p : (Int) × HS} (h : f x0 S = some p) : HC b w e 46 [(.ptr x0)] S (RR (.int .i64 p.1) p.2) := by
 unfold f at h
 refine HCall.of_run at_.at_ body ?_
 show HR b w e 46 none [.code c0] ⟨[(.ptr x0),z,z,z,z,z,z,z,z,z],[]⟩ S _
 refine qT rfl rfl rfl (qS 2 rfl (Zxa · (.int _ _)) (rE ?_))
 dsimp only [w0,w1,w2,w3]
 refine qQ rfl (qT rfl rfl rfl (uM 3 rfl rfl (qS 4 rfl (Zxt · tu75 (.tmp rfl) (.inl ⟨rfl,rfl⟩)) (rE ?_))))
 dsimp only [w0,w1,w2,w3]
 rcases ifc h with ⟨hc1,h⟩ | ⟨hc1,h⟩
 ·refine Zxb rfl (.tmp rfl) hc1 (qT rfl rfl rfl (qS 2 rfl (Zxa · (.int _ _)) (rE ?_)))
  cases h
  exact Zxl rfl at_.at_ rfl (res1 rfl rfl) ⟨rfl,rfl⟩
 ·obtain ⟨p2,hp2,p3,hp3,h⟩ := bd2 h
  refine Zxc rfl (.tmp rfl) (bfalse hc1) (Zxd rfl (qT rfl rfl rfl (uM 5 rfl rfl (uN 6 rfl rfl hp2 (uF 7 rfl Zz3 (by decide) rfl rfl (uL 8 rfl Zaec rfl rfl (Zxj hp3) ?_))))))
  try dsimp only [w0,w1,w2,w3]
  refine qS 9 rfl (Zxg (q := Sl.a p3) (n := Sl.len p3) (z := Sl.cap p3) · rfl Zyr (.tmp rfl)) (uA 2 rfl rfl (rE ?_))
  cases h
  exact Zxl rfl at_.at_ rfl (res1 rfl rfl) ⟨rfl,rfl⟩
end Y35
end
noncomputable section
variable {b : Nat} {w : World} {e : Bt}
variable {S : HS} {D : Dp} {H : Hd} {k : Nat} {Ga j q m F o N Gh i a G B M O K A C E I J L Q U V Z c d g r Kd Ke Kf Kg Kh Ki Kj Kk Kl Km Kn Ko Kp Kq Kr Ks Kt Ku Kv Kw Kx Ky Kz : HV}
namespace Y29
theorem at_ : FnAt Tryz.prog 99 Tryz.f99 := ⟨Tryz.func99,by kernel_rfl⟩
def d0 := (Tryz.f99.body).getD .skip
def r1 := kT d0
def r4 := kT (kY d0)
def r7 := kT (kY (kY d0))
def r11 := kT (kW d0)
def c0 : Code := .seq (.region 0 r1 false) (.seq (.seq (.region 1 r4 false) (.cond (.tmp 4) (.seq (.region 2 r7 false) .ret) .skip)) (.seq (.region 3 r11 false) .ret))
theorem body : Tryz.f99.body = some c0 := by kernel_rfl
def f (x0 : HP) (S : HS) : Option ((Int) × HS) :=
 (if (Option.isNone x0) = true then
 some (0,S) else
 (x0.bind fun p2 =>
 ((S.ldSl (HA.fld p2 0)).bind fun p3 =>
 some ((Sl.len p3 : Int),S))))
theorem snd {x0 : HP}  {p : (Int) × HS} (h : f x0 S = some p) : HC b w e 99 [(.ptr x0)] S (RR (.int .i64 p.1) p.2) := by
 unfold f at h
 refine HCall.of_run at_.at_ body ?_
 show HR b w e 99 none [.code c0] ⟨[(.ptr x0),z,z,z,z,z,z,z,z,z],[]⟩ S _
 refine qT rfl rfl rfl (qS 2 rfl (Zxa · (.int _ _)) (rE ?_))
 dsimp only [w0,w1,w2,w3]
 refine qQ rfl (qT rfl rfl rfl (uM 3 rfl rfl (qS 4 rfl (Zxt · Zah3 (.tmp rfl) (.inl ⟨rfl,rfl⟩)) (rE ?_))))
 dsimp only [w0,w1,w2,w3]
 rcases ifc h with ⟨hc1,h⟩ | ⟨hc1,h⟩
 ·refine Zxb rfl (.tmp rfl) hc1 (qT rfl rfl rfl (qS 2 rfl (Zxa · (.int _ _)) (rE ?_)))
  cases h
  exact Zxl rfl at_.at_ rfl (res1 rfl rfl) ⟨rfl,rfl⟩
 ·obtain ⟨p2,hp2,p3,hp3,h⟩ := bd2 h
  refine Zxc rfl (.tmp rfl) (bfalse hc1) (Zxd rfl (qT rfl rfl rfl (uM 5 rfl rfl (uN 6 rfl rfl hp2 (uF 7 rfl Zaai (by decide) rfl rfl (uL 8 rfl sc57 rfl rfl (Zxj hp3) ?_))))))
  try dsimp only [w0,w1,w2,w3]
  refine qS 9 rfl (Zxg (q := Sl.a p3) (n := Sl.len p3) (z := Sl.cap p3) · rfl tu57 (.tmp rfl)) (uA 2 rfl rfl (rE ?_))
  cases h
  exact Zxl rfl at_.at_ rfl (res1 rfl rfl) ⟨rfl,rfl⟩
end Y29
namespace Y32
theorem at_ : FnAt Tryz.prog 67 Tryz.f67 := ⟨Tryz.func67,by kernel_rfl⟩
def d0 := (Tryz.f67.body).getD .skip
def r1 := kT d0
def r4 := kT (kY d0)
def r7 := kT (kY (kY d0))
def r11 := kT (kW d0)
def c0 : Code := .seq (.region 0 r1 false) (.seq (.seq (.region 1 r4 false) (.cond (.tmp 6) (.seq (.region 2 r7 false) .ret) .skip)) (.seq (.region 3 r11 false) .ret))
theorem body : Tryz.f67.body = some c0 := by kernel_rfl
def f (x0 : HP) (x1 : Int) (S : HS) : Option ((Int) × HS) :=
 (if (Option.isNone x0) = true then
 some (0,S) else
 (x0.bind fun p2 =>
 ((S.ldM (HA.fld p2 2)).bind fun p3 =>
 ((S.look p3 (.int .i64 x1)).bind fun p4 =>
 ((dP (Option.getD p4 (.ptr none))).bind fun p5 =>
 ((Y29.f p5 S).bind fun p6 =>
 some (p6.1,p6.2)))))))
theorem snd {x0 : HP} {x1 : Int}  {p : (Int) × HS} (h : f x0 x1 S = some p) : HC b w e 67 [(.ptr x0),(.int .i64 x1)] S (RR (.int .i64 p.1) p.2) := by
 unfold f at h
 refine HCall.of_run at_.at_ body ?_
 show HR b w e 67 none [.code c0] ⟨[(.ptr x0),(.int .i64 x1),z,z,z,z,z,z,z,z,z,z,z,z],[]⟩ S _
 refine qT rfl rfl rfl (qS 4 rfl (Zxa · (.int _ _)) (rE ?_))
 dsimp only [w0,w1,w2,w3]
 refine qQ rfl (qT rfl rfl rfl (uM 5 rfl rfl (qS 6 rfl (Zxt · tu79 (.tmp rfl) (.inl ⟨rfl,rfl⟩)) (rE ?_))))
 dsimp only [w0,w1,w2,w3]
 rcases ifc h with ⟨hc1,h⟩ | ⟨hc1,h⟩
 ·refine Zxb rfl (.tmp rfl) hc1 (qT rfl rfl rfl (qS 4 rfl (Zxa · (.int _ _)) (rE ?_)))
  cases h
  exact Zxl rfl at_.at_ rfl (res1 rfl rfl) ⟨rfl,rfl⟩
 ·obtain ⟨p2,hp2,p3,hp3,h⟩ := bd2 h
  refine Zxc rfl (.tmp rfl) (bfalse hc1) (Zxd rfl (qT rfl rfl rfl (uM 7 rfl rfl (uN 8 rfl rfl hp2 (uF 9 rfl Zacz (by decide) rfl rfl (uL 10 rfl Zajn rfl rfl (Zaa8 hp3) ?_))))))
  try dsimp only [w0,w1,w2,w3]
  obtain ⟨p4,hp4,p5,hp5,p6,hp6,h⟩ := bd3 h
  refine uM 11 rfl rfl (qS 12 rfl (Zy9 · Zaed Zagc (fun β => .ptrNil) (Zabi tu3) (.tmp rfl) (.tmp rfl) hp4 (Zy3 hp5)) (uQ 13 rfl (.func _) (ev1 rfl) (HInv.static Y29.at_ Y29.body (Y29.snd  hp6)) (uA 4 rfl rfl (rE ?_))))
  cases h
  exact Zxl rfl at_.at_ rfl (res1 rfl rfl) ⟨rfl,rfl⟩
end Y32
namespace Y25
theorem at_ : FnAt Tryz.prog 139 Tryz.f139 := ⟨Tryz.func139,by kernel_rfl⟩
def d0 := (Tryz.f139.body).getD .skip
def r1 := kT d0
def r6 := kT (kX (kY d0))
def r12 := kT (kY (kX (kB d0)))
def r13 := kR (kW (kX (kB d0)))
def c4 : Code := .seq (.seq (.region 1 r6 false) (.cond (.tmp 9) .skip (.exit 0))) (.seq (.block 1 (.region 3 r12 true)) (.region 2 r13 false))
def c0 : Code := .seq (.region 0 r1 false) (.block 0 (.loop c4))
theorem body : Tryz.f139.body = some c0 := by kernel_rfl
def L0 (k : Nat) : Nat → Sl → Int → Int → HS → Option ((Unit) × HS)
 | 0,_,_,_,_ => none
 | n + 1,y0,y2,y3,S =>
  (if y2 < y3 then
  ((S.idx y0 y3 1).bind fun p2 =>
  ((S.ldS p2).bind fun p3 =>
  ((S.idx y0 y2 1).bind fun p4 =>
  ((S.ldS p4).bind fun p5 =>
  ((S.idx y0 y2 1).bind fun p6 =>
  ((S.sets p6 [(.str p3)]).bind fun p7 =>
  ((p7.idx y0 y3 1).bind fun p8 =>
  ((p7.sets p8 [(.str p5)]).bind fun p9 =>
  (L0 k n) y0 (w64 (y2 + 1)) (w64 (y3 - 1)) p9)))))))) else
  some ((),S))
theorem L0_snd  : ∀ {n : Nat} ⦃y0 : Sl⦄ ⦃y2 : Int⦄ ⦃y3 : Int⦄ ⦃S : HS⦄ ⦃p : (Unit) × HS⦄ ⦃j F o N Gh i a G B M O K A C E I J L Q U V Z c d g : HV⦄,L0 k n y0 y2 y3 S = some p → HR b w e 139 none [.inLoop c4,.inBlock 0] ⟨[(Sl.hv y0),j,(.int .i64 y2),(.int .i64 y3),F,o,N,Gh,i,a,G,B,M,O,K,A,C,E,I,J,L,Q,U,V,Z,c,d,g],[]⟩ S (RR (.tup []) p.2) := by
 intro n
 induction n with
 | zero => intro _ _ _ _ _ _ _ _ _ _ _ _ _ _ _ _ _ _ _ _ _ _ _ _ _ _ _ _ _ _ h; cases h
 | succ n ih =>
  intro y0 y2 y3 S p j F o N Gh i a G B M O K A C E I J L Q U V Z c d g h
  simp only [L0] at h
  refine Zxz (qQ rfl (qT rfl rfl rfl (uM 7 rfl rfl (uM 8 rfl rfl (uB 9 rfl rfl rfl rfl (rE ?_))))))
  dsimp only [w0,w1,w2,w3]
  rcases ifc h with ⟨hc1,h⟩ | ⟨hc1,h⟩
  ·refine Zxb rfl (.tmp rfl) (decide_eq_true hc1) (Zxd rfl (qQ rfl (Zxo rfl ?_)))
   refine Zx8 (cls := [0,0,0,0,0,0,1,1,0,0,1,1,1,2,1,2]) (rk := [0,1,12,13,2,3,4,5,6,7,8,9,10,11,14,15]) rfl (by kernel_rfl) ?_
   refine yf 14 [0] rfl (oM · rfl) ?_
   refine yf 15 [2] rfl (oM · rfl) ?_
   refine yf 16 [0] rfl (oM · rfl) ?_
   refine yf 17 [3] rfl (oM · rfl) ?_
   try dsimp only [w0,w1,w2,w3]
   refine yf 18 [0] rfl (oM · rfl) ?_
   refine yf 19 [3] rfl (oM · rfl) ?_
   obtain ⟨p2,hp2,h⟩ := bindo h
   refine yr 20 [18,19] rfl (oX (s := y0) · tu57 sz9 rfl rfl hp2) ?_
   obtain ⟨p3,hp3,h⟩ := bindo h
   refine yr 21 [20] rfl (oL · sc9 rfl rfl (Zx4 hp3)) ?_
   try dsimp only [w0,w1,w2,w3]
   refine yf 22 [0] rfl (oM · rfl) ?_
   refine yf 23 [2] rfl (oM · rfl) ?_
   obtain ⟨p4,hp4,h⟩ := bindo h
   refine yr 24 [22,23] rfl (oX (s := y0) · tu57 sz9 rfl rfl hp4) ?_
   obtain ⟨p5,hp5,h⟩ := bindo h
   refine yr 25 [24] rfl (oL · sc9 rfl rfl (Zx4 hp5)) ?_
   try dsimp only [w0,w1,w2,w3]
   obtain ⟨p6,hp6,h⟩ := bindo h
   refine yr 26 [14,15] rfl (oX (s := y0) · tu57 sz9 rfl rfl hp6) ?_
   obtain ⟨p7,hp7,h⟩ := bindo h
   refine x_go (e_op (dst := none) (ts := [26,21]) rfl (by intro _ _ h; cases h) (by kernel_rfl) (fun _ ho => Zxk (v := (.str p3)) ho sz9 (.tmp rfl) rfl (.tmp rfl) rfl hp7)) rfl ?_
   obtain ⟨p8,hp8,h⟩ := bindo h
   refine yr 27 [16,17] rfl (oX (s := y0) · tu57 sz9 rfl rfl hp8) ?_
   obtain ⟨p9,hp9,h⟩ := bindo h
   refine x_go (e_op (dst := none) (ts := [27,25]) rfl (by intro _ _ h; cases h) (by kernel_rfl) (fun _ ho => Zxk (v := (.str p5)) ho sz9 (.tmp rfl) rfl (.tmp rfl) rfl hp9)) rfl ?_
   refine Zx5 rfl ?_
   refine rE ?_
   try dsimp only [w0,w1,w2,w3]
   refine Zxf (qR rfl rfl (uM 10 rfl rfl (uC 11 rfl rfl rfl (uM 12 rfl rfl (uC 13 rfl rfl rfl ?_)))))
   try dsimp only [w0,w1,w2,w3]
   refine uA 2 rfl rfl (uA 3 rfl rfl (rE ?_))
   dsimp only [w0,w1,w2,w3]
   exact ih h
  ·cases h
   exact Zxc rfl (.tmp rfl) (decide_eq_false hc1) (Zyh rfl rfl (Zzq at_.at_ rfl (res0 rfl) ⟨rfl,rfl⟩))
def f (k : Nat) (x0 : Sl) (S : HS) : Option ((Unit) × HS) :=
 L0 k k x0 0 (w64 ((Sl.len x0 : Int) - 1)) S
theorem snd {x0 : Sl}  {p : (Unit) × HS} (h : f k x0 S = some p) : HC b w e 139 [(Sl.hv x0)] S (RR (.tup []) p.2) := by
 unfold f at h
 refine HCall.of_run at_.at_ body ?_
 show HR b w e 139 none [.code c0] ⟨[(Sl.hv x0),z,z,z,z,z,z,z,z,z,z,z,z,z,z,z,z,z,z,z,z,z,z,z,z,z,z,z],[]⟩ S _
 refine qT rfl rfl rfl (uM 4 rfl rfl (qS 5 rfl (Zxg (q := Sl.a x0) (n := Sl.len x0) (z := Sl.cap x0) · rfl tu57 (.tmp rfl)) (uC 6 rfl rfl rfl (qS 2 rfl (Zxa · (.int _ _)) ?_))))
 try dsimp only [w0,w1,w2,w3]
 refine uA 3 rfl rfl (rE ?_)
 dsimp only [w0,w1,w2,w3]
 refine Zxo rfl (Zye rfl ?_)
 try dsimp only [w0,w1,w2,w3]
 exact L0_snd  h
end Y25
namespace Y119
theorem at_ : FnAt Tryz.prog 138 Tryz.f138 := ⟨Tryz.func138,by kernel_rfl⟩
def d0 := (Tryz.f138.body).getD .skip
def r1 := kT d0
def r3 := kT (kB d0)
def r4 := kR (kW d0)
def c0 : Code := .seq (.region 0 r1 false) (.seq (.region 1 r3 false) (.region 2 r4 false))
theorem body : Tryz.f138.body = some c0 := by kernel_rfl
def f (k : Nat) (x0 : Sl) (x1 : Int) (S : HS) : Option ((Unit) × HS) :=
 ((S.cut x0 0 x1 1).bind fun p1 =>
 ((Y25.f k p1 S).bind fun p2 =>
 ((p2.2.cut x0 x1 (Sl.len x0 : Int) 1).bind fun p3 =>
 ((Y25.f k p3 p2.2).bind fun p4 =>
 ((Y25.f k x0 p4.2).bind fun p5 =>
 some ((),p5.2))))))
theorem snd {x0 : Sl} {x1 : Int}  {p : (Unit) × HS} (h : f k x0 x1 S = some p) : HC b w e 138 [(Sl.hv x0),(.int .i64 x1)] S (RR (.tup []) p.2) := by
 unfold f at h
 refine HCall.of_run at_.at_ body ?_
 show HR b w e 138 none [.code c0] ⟨[(Sl.hv x0),(.int .i64 x1),z,z,z,z,z,z,z,z,z,z,z,z],[]⟩ S _
 obtain ⟨p1,hp1,p2,hp2,h⟩ := bd2 h
 refine qT rfl rfl rfl (uM 4 rfl rfl (uM 5 rfl rfl (qS 6 rfl (Zxn (kl := .i64) (kh := .i64) (s := x0) (l := 0) (h := x1) · tu57 si9 (.tmp rfl) (.inl ⟨rfl,rfl⟩) (.inr ⟨_,rfl,(.tmp rfl)⟩) hp1) (uQ 7 rfl (.func _) (ev1 rfl) (HInv.static Y25.at_ Y25.body (Y25.snd  hp2)) (rE ?_)))))
 dsimp only [w0,w1,w2,w3]
 obtain ⟨p3,hp3,p4,hp4,h⟩ := bd2 h
 refine qT rfl rfl rfl (uM 8 rfl rfl (uM 9 rfl rfl (qS 10 rfl (Zxn (kl := .i64) (kh := .i64) (s := x0) (l := x1) (h := (Sl.len x0 : Int)) · tu57 si9 (.tmp rfl) (.inr ⟨_,rfl,(.tmp rfl)⟩) (.inl ⟨rfl,rfl⟩) hp3) (uQ 11 rfl (.func _) (ev1 rfl) (HInv.static Y25.at_ Y25.body (Y25.snd  hp4)) (rE ?_)))))
 dsimp only [w0,w1,w2,w3]
 obtain ⟨p5,hp5,h⟩ := bindo h
 refine qR rfl rfl (uM 12 rfl rfl (uQ 13 rfl (.func _) (ev1 rfl) (HInv.static Y25.at_ Y25.body (Y25.snd  hp5)) (rE ?_)))
 dsimp only [w0,w1,w2,w3]
 cases h
 exact Zzq at_.at_ rfl (res0 rfl) ⟨rfl,rfl⟩
end Y119
namespace Y95
theorem at_ : FnAt Tryz.prog 134 Tryz.f134 := ⟨Tryz.func134,by kernel_rfl⟩
def d0 := (Tryz.f134.body).getD .skip
def r0 := kR d0
def c0 : Code := .region 0 r0 false
theorem body : Tryz.f134.body = some c0 := by kernel_rfl
def f (k : Nat) (x0 : Sl) (x1 : Int) (S : HS) : Option ((Unit) × HS) :=
 ((Y119.f k x0 (w64 ((Sl.len x0 : Int) - x1)) S).bind fun p1 =>
 some ((),p1.2))
theorem snd {x0 : Sl} {x1 : Int}  {p : (Unit) × HS} (h : f k x0 x1 S = some p) : HC b w e 134 [(Sl.hv x0),(.int .i64 x1)] S (RR (.tup []) p.2) := by
 unfold f at h
 refine HCall.of_run at_.at_ body ?_
 show HR b w e 134 none [.code c0] ⟨[(Sl.hv x0),(.int .i64 x1),z,z,z,z,z,z,z,z],[]⟩ S _
 refine qR rfl rfl (uM 4 rfl rfl (uM 5 rfl rfl (qS 6 rfl (Zxg (q := Sl.a x0) (n := Sl.len x0) (z := Sl.cap x0) · rfl tu57 (.tmp rfl)) (uM 7 rfl rfl ?_))))
 try dsimp only [w0,w1,w2,w3]
 obtain ⟨p1,hp1,h⟩ := bindo h
 refine uB 8 rfl rfl rfl rfl (uQ 9 rfl (.func _) (ev2 rfl rfl) (HInv.static Y119.at_ Y119.body (Y119.snd  hp1)) (rE ?_))
 dsimp only [w0,w1,w2,w3]
 cases h
 exact Zzq at_.at_ rfl (res0 rfl) ⟨rfl,rfl⟩
end Y95
namespace Y123
theorem at_ : FnAt Tryz.prog 126 Tryz.f126 := ⟨Tryz.func126,by kernel_rfl⟩
def d0 := (Tryz.f126.body).getD .skip
def r1 := kT d0
def r3 := kT (kB d0)
def r5 := kT (kW d0)
def d6 := kW (kB d0)
def r8 := kT (kA d6)
def r11 := kT (kY (kA d6))
def r15 := kT (kB d6)
def r18 := kT (kY (kB d6))
def r21 := kT (kY (kY (kB d6)))
def d24 := kW (kB d6)
def r26 := kT (kA d24)
def d28 := kY (kA d24)
def r29 := kT d28
def r31 := kT (kB d28)
def r33 := kT (kW d28)
def r35 := kT (kW (kB d28))
def r39 := kT (kB d24)
def d41 := kY (kB d24)
def r42 := kT d41
def r45 := kT (kY d41)
def r47 := kT (kZ (kB d41))
def r49 := kT (kW (kY d41))
def r53 := kT (kW (kB d24))
def r55 := kT (kW (kW d24))
def r57 := kT (kW (kW (kB d24)))
def c0 : Code := .seq (.region 0 r1 false) (.seq (.region 1 r3 false) (.seq (.region 2 r5 false) (.seq (.seq (.region 3 r8 false) (.cond (.tmp 16) (.seq (.region 4 r11 false) .ret) .skip)) (.seq (.region 5 r15 false) (.seq (.seq (.region 6 r18 false) (.cond (.tmp 22) (.seq (.region 7 r21 false) .ret) .skip)) (.seq (.seq (.region 8 r26 false) (.cond (.tmp 31) (.seq (.region 9 r29 false) (.seq (.region 10 r31 false) (.seq (.region 11 r33 true) (.seq (.region 12 r35 false) .ret)))) .skip)) (.seq (.region 13 r39 false) (.seq (.seq (.region 14 r42 false) (.cond (.tmp 68) (.seq (.region 15 r45 true) (.seq (.region 16 r47 false) (.seq (.region 17 r49 false) .ret))) .skip)) (.seq (.region 18 r53 false) (.seq (.region 19 r55 false) (.seq (.region 20 r57 false) .ret)))))))))))
theorem body : Tryz.f126.body = some c0 := by kernel_rfl
def f (k : Nat) (x0 : Sl) (x1 : Int) (x2 : Sl) (S : HS) : Option ((Sl) × HS) :=
 ((S.cut x0 x1 (Sl.len x0 : Int) 1).bind fun p1 =>
 (if (Sl.len x2 : Int) = 0 then
 some (x0,S) else
 (if x1 = (Sl.len x0 : Int) then
 ((S.rows x2 1).bind fun p4 =>
 ((S.app x0 p4 1).bind fun p5 =>
 some ((p5.1),(p5.2)))) else
 ((Sl.capOf x0).bind fun p6 =>
 (if (w64 ((Sl.len x0 : Int) + (Sl.len x2 : Int))) > p6 then
 ((S.cut x0 0 x1 1).bind fun p8 =>
 ((S.appZ p8 (w64 ((w64 ((Sl.len x0 : Int) + (Sl.len x2 : Int))) - x1)) [(.str [])] 1).bind fun p9 =>
 ((p9.2.cut (p9.1) x1 (Sl.len (p9.1) : Int) 1).bind fun p10 =>
 ((p9.2.rows x2 1).bind fun p11 =>
 ((p9.2.over p10 (List.take (Sl.len p10) p11) 1).bind fun p12 =>
 ((p12.cut (p9.1) (w64 (x1 + (Sl.len x2 : Int))) (Sl.len (p9.1) : Int) 1).bind fun p13 =>
 ((p12.cut x0 x1 (Sl.len x0 : Int) 1).bind fun p14 =>
 ((p12.rows p14 1).bind fun p15 =>
 ((p12.over p13 (List.take (Sl.len p13) p15) 1).bind fun p16 =>
 some ((p9.1),p16)))))))))) else
 ((S.cut x0 0 (w64 ((Sl.len x0 : Int) + (Sl.len x2 : Int))) 1).bind fun p17 =>
 ((S.cut p17 (w64 (x1 + (Sl.len x2 : Int))) (Sl.len p17 : Int) 1).bind fun p18 =>
 ((S.ovl x2 p18).bind fun p19 =>
 (if (!p19) = true then
 ((S.cut p17 (w64 (x1 + (Sl.len x2 : Int))) (Sl.len p17 : Int) 1).bind fun p21 =>
 ((S.cut p17 x1 (Sl.len p17 : Int) 1).bind fun p22 =>
 ((S.rows p22 1).bind fun p23 =>
 ((S.over p21 (List.take (Sl.len p21) p23) 1).bind fun p24 =>
 ((p24.cut p17 x1 (Sl.len p17 : Int) 1).bind fun p25 =>
 ((p24.rows x2 1).bind fun p26 =>
 ((p24.over p25 (List.take (Sl.len p25) p26) 1).bind fun p27 =>
 some (p17,p27)))))))) else
 ((S.cut p17 (Sl.len x0 : Int) (Sl.len p17 : Int) 1).bind fun p28 =>
 ((S.rows x2 1).bind fun p29 =>
 ((S.over p28 (List.take (Sl.len p28) p29) 1).bind fun p30 =>
 ((p30.cut p17 x1 (Sl.len p17 : Int) 1).bind fun p31 =>
 ((Y95.f k p31 (Sl.len x2 : Int) p30).bind fun p32 =>
 some (p17,p32.2)))))))))))))))
theorem snd {x0 : Sl} {x1 : Int} {x2 : Sl}  {p : (Sl) × HS} (h : f k x0 x1 x2 S = some p) : HC b w e 126 [(Sl.hv x0),(.int .i64 x1),(Sl.hv x2)] S (RR (Sl.hv p.1) p.2) := by
 unfold f at h
 refine HCall.of_run at_.at_ body ?_
 show HR b w e 126 none [.code c0] ⟨[(Sl.hv x0),(.int .i64 x1),(Sl.hv x2),z,z,z,z,z,z,z,z,z,z,z,z,z,z,z,z,z,z,z,z,z,z,z,z,z,z,z,z,z,z,z,z,z,z,z,z,z,z,z,z,z,z,z,z,z,z,z,z,z,z,z,z,z,z,z,z,z,z,z,z,z,z,z,z,z,z,z,z,z,z,z,z,z,z,z,z,z,z,z,z,z,z,z,z,z,z,z,z,z,z,z,z],[]⟩ S _
 refine qT rfl rfl rfl (qS 6 rfl (Zxa · (.const fun _ => .slNil none)) (rE ?_))
 dsimp only [w0,w1,w2,w3]
 obtain ⟨p1,hp1,h⟩ := bindo h
 refine qT rfl rfl rfl (uM 10 rfl rfl (uM 11 rfl rfl (qS 12 rfl (Zxn (kl := .i64) (kh := .i64) (s := x0) (l := x1) (h := (Sl.len x0 : Int)) · tu57 si9 (.tmp rfl) (.inr ⟨_,rfl,(.tmp rfl)⟩) (.inl ⟨rfl,rfl⟩) hp1) (rE ?_))))
 dsimp only [w0,w1,w2,w3]
 refine qT rfl rfl rfl (uM 13 rfl rfl (qS 14 rfl (Zxg (q := Sl.a x2) (n := Sl.len x2) (z := Sl.cap x2) · rfl tu57 (.tmp rfl)) (uA 7 rfl rfl (rE ?_))))
 dsimp only [w0,w1,w2,w3]
 refine qQ rfl (qT rfl rfl rfl (uM 15 rfl rfl (uC 16 rfl rfl rfl (rE ?_))))
 dsimp only [w0,w1,w2,w3]
 rcases ifc h with ⟨hc2,h⟩ | ⟨hc2,h⟩
 ·refine Zxb rfl (.tmp rfl) (decide_eq_true hc2) (qT rfl rfl rfl (uM 17 rfl rfl (uA 6 rfl rfl (rE ?_))))
  cases h
  exact Zxl rfl at_.at_ rfl (res1 rfl rfl) ⟨rfl,rfl⟩
 ·refine Zxc rfl (.tmp rfl) (decide_eq_false hc2) (Zxd rfl (qT rfl rfl rfl (uM 18 rfl rfl (qS 19 rfl (Zxg (q := Sl.a x0) (n := Sl.len x0) (z := Sl.cap x0) · rfl tu57 (.tmp rfl)) (uA 8 rfl rfl (rE ?_))))))
  dsimp only [w0,w1,w2,w3]
  refine qQ rfl (qT rfl rfl rfl (uM 20 rfl rfl (uM 21 rfl rfl (uB 22 rfl rfl rfl rfl (rE ?_)))))
  dsimp only [w0,w1,w2,w3]
  rcases ifc h with ⟨hc3,h⟩ | ⟨hc3,h⟩
  ·obtain ⟨p4,hp4,p5,hp5,h⟩ := bd2 h
   refine Zxb rfl (.tmp rfl) (decide_eq_true hc3) (qT rfl rfl rfl (uM 23 rfl rfl (uM 24 rfl rfl (qS 25 rfl (Zx1 (s := x0) (s1 := x2) el57 · rfl rfl ⟨_,tu57⟩ (.tmp rfl) (.tmp rfl) hp4 hp5) (uA 6 rfl rfl (rE ?_))))))
   cases h
   exact Zxl rfl at_.at_ rfl (res1 rfl rfl) ⟨rfl,rfl⟩
  ·refine Zxc rfl (.tmp rfl) (decide_eq_false hc3) (Zxd rfl (qQ rfl (qT rfl rfl rfl (uM 26 rfl rfl (uM 27 rfl rfl (uB 28 rfl rfl rfl rfl (uM 29 rfl rfl ?_)))))))
   try dsimp only [w0,w1,w2,w3]
   obtain ⟨p6,hp6,h⟩ := bindo h
   refine qS 30 rfl (Zagt (s := x0) · rfl tu57 (.tmp rfl) hp6) (uB 31 rfl rfl rfl rfl (rE ?_))
   dsimp only [w0,w1,w2,w3]
   rcases ifc h with ⟨hc7,h⟩ | ⟨hc7,h⟩
   ·obtain ⟨p8,hp8,h⟩ := bindo h
    refine Zxb rfl (.tmp rfl) (decide_eq_true hc7) (qT rfl rfl rfl (uM 32 rfl rfl (uM 33 rfl rfl (qS 34 rfl (Zxn (kl := .i64) (kh := .i64) (s := x0) (l := 0) (h := x1) · tu57 si9 (.tmp rfl) (.inl ⟨rfl,rfl⟩) (.inr ⟨_,rfl,(.tmp rfl)⟩) hp8) (uM 35 rfl rfl ?_)))))
    try dsimp only [w0,w1,w2,w3]
    refine uM 36 rfl rfl (uB 37 rfl rfl rfl rfl (uM 38 rfl rfl (uB 39 rfl rfl rfl rfl ?_)))
    try dsimp only [w0,w1,w2,w3]
    obtain ⟨p9,hp9,h⟩ := bindo h
    refine qS 40 rfl (Zzo (s := p8) el57 · rfl rfl tu3 (.tmp rfl) (.tmp rfl) hp9) (uA 9 rfl rfl (rE ?_))
    dsimp only [w0,w1,w2,w3]
    obtain ⟨p10,hp10,h⟩ := bindo h
    refine qT rfl rfl rfl (uM 41 rfl rfl (uM 42 rfl rfl (qS 43 rfl (Zxn (kl := .i64) (kh := .i64) (s := (p9.1)) (l := x1) (h := (Sl.len (p9.1) : Int)) · tu57 si9 (.tmp rfl) (.inr ⟨_,rfl,(.tmp rfl)⟩) (.inl ⟨rfl,rfl⟩) hp10) (uM 44 rfl rfl ?_))))
    try dsimp only [w0,w1,w2,w3]
    obtain ⟨p11,hp11,p12,hp12,h⟩ := bd2 h
    refine qS 45 rfl (Zyx (s := p10) (s1 := x2) el57 · rfl (.tmp rfl) (.tmp rfl) hp11 hp12) (rE ?_)
    dsimp only [w0,w1,w2,w3]
    refine qQ rfl ?_
    refine Zx8 (cls := [0,0,0,0,1,0,0,1,2]) (rk := [0,1,2,3,4,5,6,7,8]) rfl (by kernel_rfl) ?_
    refine yf 46 [9] rfl (oM · rfl) ?_
    refine yf 47 [1] rfl (oM · rfl) ?_
    refine yf 48 [7] rfl (oM · rfl) ?_
    refine yf 49 [47,48] rfl (oB · rfl rfl rfl) ?_
    try dsimp only [w0,w1,w2,w3]
    obtain ⟨p13,hp13,h⟩ := bindo h
    refine yr 50 [46,49] rfl (Zxn (kl := .i64) (kh := .i64) (s := (p9.1)) (l := (w64 (x1 + (Sl.len x2 : Int)))) (h := (Sl.len (p9.1) : Int)) · tu57 si9 (.tmp rfl) (.inr ⟨_,rfl,(.tmp rfl)⟩) (.inl ⟨rfl,rfl⟩) hp13) ?_
    refine yf 51 [0] rfl (oM · rfl) ?_
    refine yf 52 [1] rfl (oM · rfl) ?_
    obtain ⟨p14,hp14,h⟩ := bindo h
    refine yr 53 [51,52] rfl (Zxn (kl := .i64) (kh := .i64) (s := x0) (l := x1) (h := (Sl.len x0 : Int)) · tu57 si9 (.tmp rfl) (.inr ⟨_,rfl,(.tmp rfl)⟩) (.inl ⟨rfl,rfl⟩) hp14) ?_
    try dsimp only [w0,w1,w2,w3]
    obtain ⟨p15,hp15,p16,hp16,h⟩ := bd2 h
    refine ye 54 [50,53] rfl (Zyx (s := p13) (s1 := p14) el57 · rfl (.tmp rfl) (.tmp rfl) hp15 hp16) ?_
    refine Zx5 rfl ?_
    refine rE ?_
    try dsimp only [w0,w1,w2,w3]
    refine qT rfl rfl rfl (uM 55 rfl rfl (uA 6 rfl rfl (rE ?_)))
    cases h
    exact Zxl rfl at_.at_ rfl (res1 rfl rfl) ⟨rfl,rfl⟩
   ·refine Zxc rfl (.tmp rfl) (decide_eq_false hc7) (Zxd rfl (qT rfl rfl rfl (uM 56 rfl rfl (uM 57 rfl rfl (uM 58 rfl rfl (uB 59 rfl rfl rfl rfl ?_))))))
    try dsimp only [w0,w1,w2,w3]
    obtain ⟨p17,hp17,h⟩ := bindo h
    refine qS 60 rfl (Zxn (kl := .i64) (kh := .i64) (s := x0) (l := 0) (h := (w64 ((Sl.len x0 : Int) + (Sl.len x2 : Int)))) · tu57 si9 (.tmp rfl) (.inl ⟨rfl,rfl⟩) (.inr ⟨_,rfl,(.tmp rfl)⟩) hp17) (uA 0 rfl rfl (rE ?_))
    dsimp only [w0,w1,w2,w3]
    refine qQ rfl (qT rfl rfl rfl (uM 61 rfl rfl (uM 62 rfl rfl (uM 63 rfl rfl (uM 64 rfl rfl ?_)))))
    try dsimp only [w0,w1,w2,w3]
    obtain ⟨p18,hp18,p19,hp19,h⟩ := bd2 h
    refine uB 65 rfl rfl rfl rfl (qS 66 rfl (Zxn (kl := .i64) (kh := .i64) (s := p17) (l := (w64 (x1 + (Sl.len x2 : Int)))) (h := (Sl.len p17 : Int)) · tu57 si9 (.tmp rfl) (.inr ⟨_,rfl,(.tmp rfl)⟩) (.inl ⟨rfl,rfl⟩) hp18) (qS 67 rfl (Zaaf (s1 := x2) (s2 := p18) · ext133 tu57 si9 (.tmp rfl) (.tmp rfl) hp19) (qS 68 rfl (Zys · (.tmp rfl)) (rE ?_))))
    dsimp only [w0,w1,w2,w3]
    rcases ifc h with ⟨hc20,h⟩ | ⟨hc20,h⟩
    ·refine Zxb rfl (.tmp rfl) hc20 (qQ rfl ?_)
     refine Zx8 (cls := [0,0,0,0,1,0,0,1,2]) (rk := [0,1,2,3,4,5,6,7,8]) rfl (by kernel_rfl) ?_
     refine yf 69 [0] rfl (oM · rfl) ?_
     refine yf 70 [1] rfl (oM · rfl) ?_
     refine yf 71 [7] rfl (oM · rfl) ?_
     refine yf 72 [70,71] rfl (oB · rfl rfl rfl) ?_
     try dsimp only [w0,w1,w2,w3]
     obtain ⟨p21,hp21,h⟩ := bindo h
     refine yr 73 [69,72] rfl (Zxn (kl := .i64) (kh := .i64) (s := p17) (l := (w64 (x1 + (Sl.len x2 : Int)))) (h := (Sl.len p17 : Int)) · tu57 si9 (.tmp rfl) (.inr ⟨_,rfl,(.tmp rfl)⟩) (.inl ⟨rfl,rfl⟩) hp21) ?_
     refine yf 74 [0] rfl (oM · rfl) ?_
     refine yf 75 [1] rfl (oM · rfl) ?_
     obtain ⟨p22,hp22,h⟩ := bindo h
     refine yr 76 [74,75] rfl (Zxn (kl := .i64) (kh := .i64) (s := p17) (l := x1) (h := (Sl.len p17 : Int)) · tu57 si9 (.tmp rfl) (.inr ⟨_,rfl,(.tmp rfl)⟩) (.inl ⟨rfl,rfl⟩) hp22) ?_
     try dsimp only [w0,w1,w2,w3]
     obtain ⟨p23,hp23,p24,hp24,h⟩ := bd2 h
     refine ye 77 [73,76] rfl (Zyx (s := p21) (s1 := p22) el57 · rfl (.tmp rfl) (.tmp rfl) hp23 hp24) ?_
     refine Zx5 rfl ?_
     refine rE ?_
     try dsimp only [w0,w1,w2,w3]
     obtain ⟨p25,hp25,h⟩ := bindo h
     refine qT rfl rfl rfl (uM 78 rfl rfl (uM 79 rfl rfl (qS 80 rfl (Zxn (kl := .i64) (kh := .i64) (s := p17) (l := x1) (h := (Sl.len p17 : Int)) · tu57 si9 (.tmp rfl) (.inr ⟨_,rfl,(.tmp rfl)⟩) (.inl ⟨rfl,rfl⟩) hp25) (uM 81 rfl rfl ?_))))
     try dsimp only [w0,w1,w2,w3]
     obtain ⟨p26,hp26,p27,hp27,h⟩ := bd2 h
     refine qS 82 rfl (Zyx (s := p25) (s1 := x2) el57 · rfl (.tmp rfl) (.tmp rfl) hp26 hp27) (rE ?_)
     dsimp only [w0,w1,w2,w3]
     refine qT rfl rfl rfl (uM 83 rfl rfl (uA 6 rfl rfl (rE ?_)))
     cases h
     exact Zxl rfl at_.at_ rfl (res1 rfl rfl) ⟨rfl,rfl⟩
    ·obtain ⟨p28,hp28,h⟩ := bindo h
     refine Zxc rfl (.tmp rfl) (bfalse hc20) (Zxd rfl (qT rfl rfl rfl (uM 84 rfl rfl (uM 85 rfl rfl (qS 86 rfl (Zxn (kl := .i64) (kh := .i64) (s := p17) (l := (Sl.len x0 : Int)) (h := (Sl.len p17 : Int)) · tu57 si9 (.tmp rfl) (.inr ⟨_,rfl,(.tmp rfl)⟩) (.inl ⟨rfl,rfl⟩) hp28) (uM 87 rfl rfl ?_))))))
     try dsimp only [w0,w1,w2,w3]
     obtain ⟨p29,hp29,p30,hp30,h⟩ := bd2 h
     refine qS 88 rfl (Zyx (s := p28) (s1 := x2) el57 · rfl (.tmp rfl) (.tmp rfl) hp29 hp30) (rE ?_)
     dsimp only [w0,w1,w2,w3]
     obtain ⟨p31,hp31,h⟩ := bindo h
     refine qT rfl rfl rfl (uM 89 rfl rfl (uM 90 rfl rfl (qS 91 rfl (Zxn (kl := .i64) (kh := .i64) (s := p17) (l := x1) (h := (Sl.len p17 : Int)) · tu57 si9 (.tmp rfl) (.inr ⟨_,rfl,(.tmp rfl)⟩) (.inl ⟨rfl,rfl⟩) hp31) (uM 92 rfl rfl ?_))))
     try dsimp only [w0,w1,w2,w3]
     obtain ⟨p32,hp32,h⟩ := bindo h
     refine uQ 93 rfl (.func _) (ev2 rfl rfl) (HInv.static Y95.at_ Y95.body (Y95.snd  hp32)) (rE ?_)
     dsimp only [w0,w1,w2,w3]
     refine qT rfl rfl rfl (uM 94 rfl rfl (uA 6 rfl rfl (rE ?_)))
     cases h
     exact Zxl rfl at_.at_ rfl (res1 rfl rfl) ⟨rfl,rfl⟩
end Y123
namespace Y100
theorem at_ : FnAt Tryz.prog 126 Tryz.f126 := Y123.at_
theorem body : Tryz.f126.body = some Y123.c0 := Y123.body
def f (x0 : Sl) (x1 : Int) (x2 : Sl) (S : HS) : Option ((Sl) × HS) := HS.ins S x0 x1 x2 1
theorem snd {b : Nat} {w : World} {e : Bt} {x0 : Sl} {x1 : Int} {x2 : Sl} {p : (Sl) × HS} (h : f x0 x1 x2 S = some p) : HC b w e 126 [(Sl.hv x0),(.int .i64 x1),(Sl.hv x2)] S (RR (Sl.hv p.1) p.2) :=
 Zad0 (rot := fun a b T => Y95.f 0 a b T) (zr := [(.str [])]) (fun _ _ _ h => Y123.snd (k := 0) h) h
end Y100
namespace Y23
theorem at_ : FnAt Tryz.prog 107 Tryz.f107 := ⟨Tryz.func107,by kernel_rfl⟩
def d0 := (Tryz.f107.body).getD .skip
def r1 := kT d0
def r3 := kT (kB d0)
def r6 := kT (kY (kB d0))
def r9 := kT (kY (kY (kB d0)))
def d12 := kW (kB d0)
def r14 := kT (kA d12)
def d16 := kY (kA d12)
def r18 := kT (kA d16)
def d23 := kW (kA d16)
def r26 := kT (kX d23)
def d27 := kZ (kA d23)
def r28 := kT d27
def r30 := kT (kB d27)
def r33 := kT (kY (kB d27))
def r34 := kR (kZ (kW d27))
def r36 := kR (kB d23)
def r38 := kT (kB d12)
def c37 : Code := .seq (.region 12 r38 false) .ret
def c36 : Code := .region 11 r36 false
def c17 : Code := .seq (.region 5 r18 false) (.seq (.cond (.tmp 15) .skip (.exit 0)) (.seq (.block 1 (.seq (.region 6 r26 false) (.seq (.region 7 r28 false) (.seq (.region 8 r30 false) (.cond (.tmp 28) (.seq (.region 9 r33 false) (.region 10 r34 false)) .skip))))) c36))
def c0 : Code := .seq (.region 0 r1 false) (.seq (.region 1 r3 false) (.seq (.seq (.region 2 r6 false) (.cond (.tmp 11) (.seq (.region 3 r9 false) .ret) .skip)) (.seq (.seq (.region 4 r14 false) (.block 0 (.loop c17))) c37)))
theorem body : Tryz.f107.body = some c0 := by kernel_rfl
variable {y0 : HP} {y5 y13 y14 : Int} {y12 : Sl}
def J1 (k : Nat) (rec0 : HP → Int → Sl → Int → Int → HS → Option ((Int) × HS)) (y0 : HP) (y5 : Int) (y12 : Sl) (y13 : Int) (y14 : Int) (S : HS) : Option ((Int) × HS) :=
 rec0 y0 y5 y12 y13 (w64 (y14 + 1)) S
theorem J1_snd {rec0 : HP → Int → Sl → Int → Int → HS → Option ((Int) × HS)} (hrec0 : ∀ ⦃y0 : HP⦄ ⦃y5 : Int⦄ ⦃y12 : Sl⦄ ⦃y13 : Int⦄ ⦃y14 : Int⦄ ⦃S : HS⦄ ⦃p : (Int) × HS⦄ ⦃j q m F N Gh i a G B A C E I J L Q U V Z c d g r Kd Ke Kf Kg Kh Ki Kj Kk Kl Km Kn Ko Kp Kq Kr : HV⦄,rec0 y0 y5 y12 y13 y14 S = some p → HR b w e 107 none [.inLoop c17,.inBlock 0,.code c37] ⟨[(.ptr y0),j,q,m,F,(.int .i64 y5),N,Gh,i,a,G,B,(Sl.hv y12),(.int .i64 y13),(.int .i64 y14),A,C,E,I,J,L,Q,U,V,Z,c,d,g,r,Kd,Ke,Kf,Kg,Kh,Ki,Kj,Kk,Kl,Km,Kn,Ko,Kp,Kq,Kr],[]⟩ S (RR (.int .i64 p.1) p.2)) {p : (Int) × HS} (h : J1 k rec0 y0 y5 y12 y13 y14 S = some p) : HR b w e 107 none [.code c36,.inLoop c17,.inBlock 0,.code c37] ⟨[(.ptr y0),j,q,m,F,(.int .i64 y5),N,Gh,i,a,G,B,(Sl.hv y12),(.int .i64 y13),(.int .i64 y14),A,C,E,I,J,L,Q,U,V,Z,c,d,g,r,Kd,Ke,Kf,Kg,Kh,Ki,Kj,Kk,Kl,Km,Kn,Ko,Kp,Kq,Kr],[]⟩ S (RR (.int .i64 p.1) p.2) := by
 unfold J1 at h
 refine qR rfl rfl (uC 42 rfl rfl rfl (uM 14 rfl rfl (rE ?_)))
 dsimp only [w0,w1,w2,w3]
 exact hrec0 h
def L0 (k : Nat) : Nat → HP → Int → Sl → Int → Int → HS → Option ((Int) × HS)
 | 0,_,_,_,_,_,_ => none
 | n + 1,y0,y5,y12,y13,y14,S =>
  (if y14 < y13 then
  ((S.idx y12 y14 1).bind fun p3 =>
  ((S.ldS p3).bind fun p4 =>
  (y0.bind fun p5 =>
  ((S.ldSl (HA.fld p5 0)).bind fun p6 =>
  ((Y3.f k p6 p4 S).bind fun p7 =>
  (if (!p7.1.2) = true then
  (y0.bind fun p9 =>
  ((p7.2.ldSl (HA.fld p9 0)).bind fun p10 =>
  (letv (HS.lit p7.2 [[(.str p4)]] 1) fun p11 =>
  ((Y100.f p10 p7.1.1 (p11.1) (p11.2)).bind fun p12 =>
  (y0.bind fun p13 =>
  ((p12.2.sets (HA.fld p13 0) [(Sl.hv p12.1)]).bind fun p14 =>
  J1 k (L0 k n) y0 (w64 (y5 + 1)) y12 y13 y14 p14)))))) else
  J1 k (L0 k n) y0 y5 y12 y13 y14 p7.2)))))) else
  some (y5,S))
theorem L0_snd  : ∀ {n : Nat} ⦃y0 : HP⦄ ⦃y5 : Int⦄ ⦃y12 : Sl⦄ ⦃y13 : Int⦄ ⦃y14 : Int⦄ ⦃S : HS⦄ ⦃p : (Int) × HS⦄ ⦃j q m F N Gh i a G B A C E I J L Q U V Z c d g r Kd Ke Kf Kg Kh Ki Kj Kk Kl Km Kn Ko Kp Kq Kr : HV⦄,L0 k n y0 y5 y12 y13 y14 S = some p → HR b w e 107 none [.inLoop c17,.inBlock 0,.code c37] ⟨[(.ptr y0),j,q,m,F,(.int .i64 y5),N,Gh,i,a,G,B,(Sl.hv y12),(.int .i64 y13),(.int .i64 y14),A,C,E,I,J,L,Q,U,V,Z,c,d,g,r,Kd,Ke,Kf,Kg,Kh,Ki,Kj,Kk,Kl,Km,Kn,Ko,Kp,Kq,Kr],[]⟩ S (RR (.int .i64 p.1) p.2) := by
 intro n
 induction n with
 | zero => intro _ _ _ _ _ _ _ _ _ _ _ _ _ _ _ _ _ _ _ _ _ _ _ _ _ _ _ _ _ _ _ _ _ _ _ _ _ _ _ _ _ _ _ _ _ _ h; cases h
 | succ n ih =>
  intro y0 y5 y12 y13 y14 S p j q m F N Gh i a G B A C E I J L Q U V Z c d g r Kd Ke Kf Kg Kh Ki Kj Kk Kl Km Kn Ko Kp Kq Kr h
  simp only [L0] at h
  refine Zxz (qT rfl rfl rfl (uB 15 rfl rfl rfl rfl (rE ?_)))
  dsimp only [w0,w1,w2,w3]
  refine qQ rfl ?_
  rcases ifc h with ⟨hc2,h⟩ | ⟨hc2,h⟩
  ·obtain ⟨p3,hp3,p4,hp4,h⟩ := bd2 h
   refine Zxb rfl (.tmp rfl) (decide_eq_true hc2) (Zxd rfl (qQ rfl (Zxo rfl (qT rfl rfl rfl (qS 16 rfl (oX (s := y12) · tu57 sz9 rfl rfl hp3) (uL 17 rfl sc9 rfl rfl (Zx4 hp4) (uA 7 rfl rfl (rE ?_))))))))
   dsimp only [w0,w1,w2,w3]
   obtain ⟨p5,hp5,p6,hp6,h⟩ := bd2 h
   refine qT rfl rfl rfl (uM 19 rfl rfl (uN 20 rfl rfl hp5 (uF 21 rfl Zaai (by decide) rfl rfl (uL 22 rfl sc57 rfl rfl (Zxj hp6) ?_))))
   try dsimp only [w0,w1,w2,w3]
   obtain ⟨p7,hp7,h⟩ := bindo h
   refine uM 23 rfl rfl (uQ 24 rfl (.func _) (ev2 rfl rfl) (HInv.static Y3.at_ Y3.body (Y3.snd  hp7)) (uM 18 rfl rfl (qS 25 rfl (Zxr · (.tmp rfl) rfl) ?_)))
   try dsimp only [w0,w1,w2,w3]
   refine qS 26 rfl (Zxr · (.tmp rfl) rfl) (uA 8 rfl rfl (uA 9 rfl rfl (rE ?_)))
   dsimp only [w0,w1,w2,w3]
   refine qT rfl rfl rfl (uM 27 rfl rfl (qS 28 rfl (Zys · (.tmp rfl)) (rE ?_)))
   dsimp only [w0,w1,w2,w3]
   rcases ifc h with ⟨hc8,h⟩ | ⟨hc8,h⟩
   ·obtain ⟨p9,hp9,h⟩ := bindo h
    refine Zxb rfl (.tmp rfl) hc8 (qT rfl rfl rfl (uM 29 rfl rfl (uM 30 rfl rfl (uN 31 rfl rfl hp9 (uF 32 rfl Zaai (by decide) rfl rfl ?_)))))
    try dsimp only [w0,w1,w2,w3]
    obtain ⟨p10,hp10,h⟩ := bindo h
    obtain ⟨p11,hp11,h⟩ := leto h
    refine uL 33 rfl sc57 rfl rfl (Zxj hp10) (uM 34 rfl rfl (uM 35 rfl rfl (qS 36 rfl (Zxp (xs := [(.tmp 35)]) el57 · rfl rfl (by decide) (ev1 rfl) rfl rfl hp11) ?_)))
    try dsimp only [w0,w1,w2,w3]
    obtain ⟨p12,hp12,h⟩ := bindo h
    refine uQ 37 rfl (.func _) (ev3 rfl rfl rfl) (HInv.static Y100.at_ Y100.body (Y100.snd  hp12)) ?_
    obtain ⟨p13,hp13,p14,hp14,h⟩ := bd2 h
    refine uN 38 rfl rfl hp13 (uF 39 rfl Zaai (by decide) rfl rfl (qN rfl (Zxk (v := (Sl.hv p12.1)) · sz57 (.tmp rfl) rfl (.tmp rfl) rfl hp14) (rE ?_)))
    dsimp only [w0,w1,w2,w3]
    refine qR rfl rfl (uM 40 rfl rfl (uC 41 rfl rfl rfl (uA 5 rfl rfl (rE ?_))))
    dsimp only [w0,w1,w2,w3]
    refine Zxf ?_
    try dsimp only [w0,w1,w2,w3]
    exact J1_snd ih h
   ·refine Zxc rfl (.tmp rfl) (bfalse hc8) (Zxd rfl (Zxf ?_))
    try dsimp only [w0,w1,w2,w3]
    exact J1_snd ih h
  ·refine Zxc rfl (.tmp rfl) (decide_eq_false hc2) (Zyh rfl rfl (qT rfl rfl rfl (uM 43 rfl rfl (uA 4 rfl rfl (rE ?_)))))
   cases h
   exact Zxl rfl at_.at_ rfl (res1 rfl rfl) ⟨rfl,rfl⟩
def f (k : Nat) (x0 : HP) (x1 : Sl) (S : HS) : Option ((Int) × HS) :=
 (if (Option.isNone x0) = true then
 some (0,S) else
 L0 k k x0 0 x1 (Sl.len x1 : Int) 0 S)
theorem snd {x0 : HP} {x1 : Sl}  {p : (Int) × HS} (h : f k x0 x1 S = some p) : HC b w e 107 [(.ptr x0),(Sl.hv x1)] S (RR (.int .i64 p.1) p.2) := by
 unfold f at h
 refine HCall.of_run at_.at_ body ?_
 show HR b w e 107 none [.code c0] ⟨[(.ptr x0),(Sl.hv x1),z,z,z,z,z,z,z,z,z,z,z,z,z,z,z,z,z,z,z,z,z,z,z,z,z,z,z,z,z,z,z,z,z,z,z,z,z,z,z,z,z,z],[]⟩ S _
 refine qT rfl rfl rfl (qS 4 rfl (Zxa · (.int _ _)) (rE ?_))
 dsimp only [w0,w1,w2,w3]
 refine qT rfl rfl rfl (qS 5 rfl (Zxa · (.int _ _)) (rE ?_))
 dsimp only [w0,w1,w2,w3]
 refine qQ rfl (qT rfl rfl rfl (uM 10 rfl rfl (qS 11 rfl (Zxt · Zah3 (.tmp rfl) (.inl ⟨rfl,rfl⟩)) (rE ?_))))
 dsimp only [w0,w1,w2,w3]
 rcases ifc h with ⟨hc1,h⟩ | ⟨hc1,h⟩
 ·refine Zxb rfl (.tmp rfl) hc1 (qT rfl rfl rfl (qS 4 rfl (Zxa · (.int _ _)) (rE ?_)))
  cases h
  exact Zxl rfl at_.at_ rfl (res1 rfl rfl) ⟨rfl,rfl⟩
 ·refine Zxc rfl (.tmp rfl) (bfalse hc1) (Zxd rfl (qQ rfl (qT rfl rfl rfl (uM 12 rfl rfl (qS 13 rfl (Zxg (q := Sl.a x1) (n := Sl.len x1) (z := Sl.cap x1) · rfl tu57 (.tmp rfl)) (qS 14 rfl (Zzj · (.int _ _)) (rE ?_)))))))
  dsimp only [w0,w1,w2,w3]
  refine Zxo rfl (Zye rfl ?_)
  try dsimp only [w0,w1,w2,w3]
  exact L0_snd  h
end Y23
namespace Y73
theorem at_ : FnAt Tryz.prog 106 Tryz.f106 := ⟨Tryz.func106,by kernel_rfl⟩
def d0 := (Tryz.f106.body).getD .skip
def r1 := kT d0
def r3 := kT (kB d0)
def r5 := kT (kW d0)
def r7 := kT (kW (kB d0))
def c0 : Code := .seq (.region 0 r1 false) (.seq (.region 1 r3 false) (.seq (.region 2 r5 false) (.seq (.region 3 r7 false) .ret)))
theorem body : Tryz.f106.body = some c0 := by kernel_rfl
def f (k : Nat) (x0 : Sl) (S : HS) : Option ((HP) × HS) :=
 (letv (HS.new S (.cells 1 [[(Sl.hv Sl.nil)]] true)) fun p1 =>
 ((Y23.f k (some (HA.cell0 S.next)) x0 p1).bind fun p2 =>
 some ((some (HA.cell0 S.next)),p2.2)))
theorem snd {x0 : Sl}  {p : (HP) × HS} (h : f k x0 S = some p) : HC b w e 106 [(Sl.hv x0)] S (RR (.ptr p.1) p.2) := by
 unfold f at h
 refine HCall.of_run at_.at_ body ?_
 show HR b w e 106 none [.code c0] ⟨[(Sl.hv x0),z,z,z,z,z,z,z,z,z],[]⟩ S _
 refine qT rfl rfl rfl (qS 2 rfl (Zxa · (.const fun _ => .ptrNil)) (rE ?_))
 dsimp only [w0,w1,w2,w3]
 obtain ⟨p1,hp1,h⟩ := leto h
 refine qT rfl rfl rfl (qS 4 rfl (Zy1 (is := []) (xs := []) (r := [(Sl.hv Sl.nil)]) st159 · rfl rfl Evs.nil rfl) (qS 5 rfl (Zyf · (.tmp rfl) (Yav _) rfl hp1) (uA 3 rfl rfl (rE ?_))))
 dsimp only [w0,w1,w2,w3]
 obtain ⟨p2,hp2,h⟩ := bindo h
 refine qT rfl rfl rfl (uM 6 rfl rfl (uM 7 rfl rfl (uQ 8 rfl (.func _) (ev2 rfl rfl) (HInv.static Y23.at_ Y23.body (Y23.snd  hp2)) (rE ?_))))
 dsimp only [w0,w1,w2,w3]
 refine qT rfl rfl rfl (uM 9 rfl rfl (uA 2 rfl rfl (rE ?_)))
 cases h
 exact Zxl rfl at_.at_ rfl (res1 rfl rfl) ⟨rfl,rfl⟩
end Y73
namespace Y54
theorem at_ : FnAt Tryz.prog 75 Tryz.f75 := ⟨Tryz.func75,by kernel_rfl⟩
def d0 := (Tryz.f75.body).getD .skip
def r2 := kT (kA d0)
def r4 := kT (kZ d0)
def r6 := kR (kB d0)
def c6 : Code := .region 2 r6 false
def c0 : Code := .seq (.seq (.region 0 r2 false) (.cond (.tmp 9) (.region 1 r4 false) .skip)) c6
theorem body : Tryz.f75.body = some c0 := by kernel_rfl
def J0 (k : Nat) (y0 : (Option Nat)) (y1 : Int) (y2 : (List UInt8)) (S : HS) : Option ((Unit) × HS) :=
 ((S.look y0 (.int .i64 y1)).bind fun p6 =>
 ((dP (Option.getD p6 (.ptr none))).bind fun p7 =>
 (letv (HS.lit S [[(.str y2)]] 1) fun p8 =>
 ((Y23.f k p7 (p8.1) (p8.2)).bind fun p9 =>
 some ((),p9.2)))))
theorem J0_snd  {y0 : (Option Nat)} {y1 : Int} {y2 : (List UInt8)} {p : (Unit) × HS} (h : J0 k y0 y1 y2 S = some p) : HR b w e 75 none [.code c6] ⟨[(.map y0),(.int .i64 y1),(.str y2),m,F,o,N,Gh,i,a,G,B,M,O,K,A,C,E,I],[]⟩ S (RR (.tup []) p.2) := by
 unfold J0 at h
 obtain ⟨p6,hp6,p7,hp7,h⟩ := bd2 h
 refine qR rfl rfl (uM 13 rfl rfl (uM 14 rfl rfl (qS 15 rfl (Zy9 · Zaed Zagc (fun β => .ptrNil) (Zabi tu3) (.tmp rfl) (.tmp rfl) hp6 (Zy3 hp7)) (uM 16 rfl rfl ?_))))
 try dsimp only [w0,w1,w2,w3]
 obtain ⟨p8,hp8,h⟩ := leto h
 obtain ⟨p9,hp9,h⟩ := bindo h
 refine qS 17 rfl (Zxp (xs := [(.tmp 16)]) el57 · rfl rfl (by decide) (ev1 rfl) rfl rfl hp8) (uQ 18 rfl (.func _) (ev2 rfl rfl) (HInv.static Y23.at_ Y23.body (Y23.snd  hp9)) (rE ?_))
 dsimp only [w0,w1,w2,w3]
 cases h
 exact Zzq at_.at_ rfl (res0 rfl) ⟨rfl,rfl⟩
def f (k : Nat) (x0 : (Option Nat)) (x1 : Int) (x2 : (List UInt8)) (S : HS) : Option ((Unit) × HS) :=
 ((S.look x0 (.int .i64 x1)).bind fun p1 =>
 ((dP (Option.getD p1 (.ptr none))).bind fun p2 =>
 (if (Option.isNone p2) = true then
 ((Y73.f k Sl.nil S).bind fun p4 =>
 ((p4.2.mput x0 (.int .i64 x1) (.ptr p4.1)).bind fun p5 =>
 J0 k x0 x1 x2 p5)) else
 J0 k x0 x1 x2 S)))
theorem snd {x0 : (Option Nat)} {x1 : Int} {x2 : (List UInt8)}  {p : (Unit) × HS} (h : f k x0 x1 x2 S = some p) : HC b w e 75 [(.map x0),(.int .i64 x1),(.str x2)] S (RR (.tup []) p.2) := by
 unfold f at h
 refine HCall.of_run at_.at_ body ?_
 show HR b w e 75 none [.code c0] ⟨[(.map x0),(.int .i64 x1),(.str x2),z,z,z,z,z,z,z,z,z,z,z,z,z,z,z,z],[]⟩ S _
 obtain ⟨p1,hp1,p2,hp2,h⟩ := bd2 h
 refine qQ rfl (qT rfl rfl rfl (uM 6 rfl rfl (uM 7 rfl rfl (qS 8 rfl (Zy9 · Zaed Zagc (fun β => .ptrNil) (Zabi tu3) (.tmp rfl) (.tmp rfl) hp1 (Zy3 hp2)) (qS 9 rfl (Zxt · Zah3 (.tmp rfl) (.inl ⟨rfl,rfl⟩)) (rE ?_))))))
 dsimp only [w0,w1,w2,w3]
 rcases ifc h with ⟨hc3,h⟩ | ⟨hc3,h⟩
 ·obtain ⟨p4,hp4,h⟩ := bindo h
  refine Zxb rfl (.tmp rfl) hc3 (qR rfl rfl (uM 10 rfl rfl (uM 11 rfl rfl (uQ 12 rfl (.func _) (.cons (.const fun _ => .slNil none) Evs.nil) (HInv.static Y73.at_ Y73.body (Y73.snd  hp4)) ?_))))
  obtain ⟨p5,hp5,h⟩ := bindo h
  refine qN rfl (Zab0 · Zaed (Zabi tu3) (.tmp rfl) (.tmp rfl) (.tmp rfl) hp5) (rE ?_)
  try dsimp only [w0,w1,w2,w3]
  exact J0_snd  h
 ·refine Zxc rfl (.tmp rfl) (bfalse hc3) (Zxd rfl ?_)
  try dsimp only [w0,w1,w2,w3]
  exact J0_snd  h
end Y54
namespace Y56
theorem at_ : FnAt Tryz.prog 76 Tryz.f76 := ⟨Tryz.func76,by kernel_rfl⟩
def d0 := (Tryz.f76.body).getD .skip
def r2 := kT (kA d0)
def r4 := kT (kZ d0)
def r6 := kR (kB d0)
def c6 : Code := .region 2 r6 false
def c0 : Code := .seq (.seq (.region 0 r2 false) (.cond (.tmp 9) (.region 1 r4 false) .skip)) c6
theorem body : Tryz.f76.body = some c0 := by kernel_rfl
def J0 (k : Nat) (y0 : (Option Nat)) (y1 : (List UInt8)) (y2 : Int) (S : HS) : Option ((Unit) × HS) :=
 ((S.look y0 (.str y1)).bind fun p6 =>
 ((dP (Option.getD p6 (.ptr none))).bind fun p7 =>
 (letv (HS.lit S [[(.int .i64 y2)]] 1) fun p8 =>
 ((Y11.f k p7 (p8.1) (p8.2)).bind fun p9 =>
 some ((),p9.2)))))
theorem J0_snd  {y0 : (Option Nat)} {y1 : (List UInt8)} {y2 : Int} {p : (Unit) × HS} (h : J0 k y0 y1 y2 S = some p) : HR b w e 76 none [.code c6] ⟨[(.map y0),(.str y1),(.int .i64 y2),m,F,o,N,Gh,i,a,G,B,M,O,K,A,C,E,I],[]⟩ S (RR (.tup []) p.2) := by
 unfold J0 at h
 obtain ⟨p6,hp6,p7,hp7,h⟩ := bd2 h
 refine qR rfl rfl (uM 13 rfl rfl (uM 14 rfl rfl (qS 15 rfl (Zy9 · Zah4 zi96 (fun β => .ptrNil) (Zadd tu9) (.tmp rfl) (.tmp rfl) hp6 (Zy3 hp7)) (uM 16 rfl rfl ?_))))
 try dsimp only [w0,w1,w2,w3]
 obtain ⟨p8,hp8,h⟩ := leto h
 obtain ⟨p9,hp9,h⟩ := bindo h
 refine qS 17 rfl (Zxp (xs := [(.tmp 16)]) el42 · rfl rfl (by decide) (ev1 rfl) rfl rfl hp8) (uQ 18 rfl (.func _) (ev2 rfl rfl) (HInv.static Y11.at_ Y11.body (Y11.snd  hp9)) (rE ?_))
 dsimp only [w0,w1,w2,w3]
 cases h
 exact Zzq at_.at_ rfl (res0 rfl) ⟨rfl,rfl⟩
def f (k : Nat) (x0 : (Option Nat)) (x1 : (List UInt8)) (x2 : Int) (S : HS) : Option ((Unit) × HS) :=
 ((S.look x0 (.str x1)).bind fun p1 =>
 ((dP (Option.getD p1 (.ptr none))).bind fun p2 =>
 (if (Option.isNone p2) = true then
 ((Y21.f k Sl.nil S).bind fun p4 =>
 ((p4.2.mput x0 (.str x1) (.ptr p4.1)).bind fun p5 =>
 J0 k x0 x1 x2 p5)) else
 J0 k x0 x1 x2 S)))
theorem snd {x0 : (Option Nat)} {x1 : (List UInt8)} {x2 : Int}  {p : (Unit) × HS} (h : f k x0 x1 x2 S = some p) : HC b w e 76 [(.map x0),(.str x1),(.int .i64 x2)] S (RR (.tup []) p.2) := by
 unfold f at h
 refine HCall.of_run at_.at_ body ?_
 show HR b w e 76 none [.code c0] ⟨[(.map x0),(.str x1),(.int .i64 x2),z,z,z,z,z,z,z,z,z,z,z,z,z,z,z,z],[]⟩ S _
 obtain ⟨p1,hp1,p2,hp2,h⟩ := bd2 h
 refine qQ rfl (qT rfl rfl rfl (uM 6 rfl rfl (uM 7 rfl rfl (qS 8 rfl (Zy9 · Zah4 zi96 (fun β => .ptrNil) (Zadd tu9) (.tmp rfl) (.tmp rfl) hp1 (Zy3 hp2)) (qS 9 rfl (Zxt · tu96 (.tmp rfl) (.inl ⟨rfl,rfl⟩)) (rE ?_))))))
 dsimp only [w0,w1,w2,w3]
 rcases ifc h with ⟨hc3,h⟩ | ⟨hc3,h⟩
 ·obtain ⟨p4,hp4,h⟩ := bindo h
  refine Zxb rfl (.tmp rfl) hc3 (qR rfl rfl (uM 10 rfl rfl (uM 11 rfl rfl (uQ 12 rfl (.func _) (.cons (.const fun _ => .slNil none) Evs.nil) (HInv.static Y21.at_ Y21.body (Y21.snd  hp4)) ?_))))
  obtain ⟨p5,hp5,h⟩ := bindo h
  refine qN rfl (Zab0 · Zah4 (Zadd tu9) (.tmp rfl) (.tmp rfl) (.tmp rfl) hp5) (rE ?_)
  try dsimp only [w0,w1,w2,w3]
  exact J0_snd  h
 ·refine Zxc rfl (.tmp rfl) (bfalse hc3) (Zxd rfl ?_)
  try dsimp only [w0,w1,w2,w3]
  exact J0_snd  h
end Y56
namespace Y72
theorem at_ : FnAt Tryz.prog 47 Tryz.f47 := ⟨Tryz.func47,by kernel_rfl⟩
def d0 := (Tryz.f47.body).getD .skip
def r1 := kT d0
def d4 := kX (kB d0)
def r5 := kT d4
def r8 := kT (kY d4)
def r11 := kT (kW d4)
def r14 := kT (kY (kW d4))
def r17 := kT (kW (kW d4))
def r20 := kT (kY (kW (kW d4)))
def r24 := kT (kW d0)
def r26 := kT (kW (kB d0))
def r28 := kT (kW (kW d0))
def r30 := kT (kW (kW (kB d0)))
def c0 : Code := .seq (.region 0 r1 false) (.seq (.block 0 (.seq (.region 1 r5 false) (.cond (.tmp 7) (.seq (.region 2 r8 false) .ret) (.seq (.region 3 r11 false) (.cond (.tmp 10) (.seq (.region 4 r14 false) .ret) (.seq (.region 5 r17 true) (.cond (.tmp 15) (.seq (.region 6 r20 false) .ret) .skip))))))) (.seq (.region 7 r24 false) (.seq (.region 8 r26 false) (.seq (.region 9 r28 false) (.seq (.region 10 r30 false) .ret)))))
theorem body : Tryz.f47.body = some c0 := by kernel_rfl
def f (k : Nat) (x0 : HP) (x1 : Int) (x2 : (List UInt8)) (S : HS) : Option ((Int) × HS) :=
 (if (Option.isNone x0) = true then
 some (1,S) else
 ((Y16.f k x0 x1 x2 S).bind fun p2 =>
 (if p2.1 = true then
 some (6,p2.2) else
 ((Y32.f x0 x1 p2.2).bind fun p4 =>
 (x0.bind fun p5 =>
 ((p4.2.ldI .i64 (HA.fld p5 0)).bind fun p6 =>
 ((p2.2.ldI .i64 (HA.fld p5 0)).bind fun p7 =>
 (if p7 = p6 then
 (if p4.1 ≥ p6 then
 some (7,p4.2) else
 (x0.bind fun p10 =>
 ((p4.2.ldM (HA.fld p10 2)).bind fun p11 =>
 ((Y54.f k p11 x1 x2 p4.2).bind fun p12 =>
 (x0.bind fun p13 =>
 ((p12.2.ldM (HA.fld p13 3)).bind fun p14 =>
 ((Y56.f k p14 x2 x1 p12.2).bind fun p15 =>
 (x0.bind fun p16 =>
 ((p15.2.ldI .i64 (HA.fld p16 1)).bind fun p17 =>
 (x0.bind fun p18 =>
 ((p15.2.sets (HA.fld p18 1) [(.int .i64 (w64 (p17 + 1)))]).bind fun p19 =>
 some (0,p19)))))))))))) else none))))))))
theorem snd {x0 : HP} {x1 : Int} {x2 : (List UInt8)}  {p : (Int) × HS} (h : f k x0 x1 x2 S = some p) : HC b w e 47 [(.ptr x0),(.int .i64 x1),(.str x2)] S (RR (.int .i64 p.1) p.2) := by
 unfold f at h
 refine HCall.of_run at_.at_ body ?_
 show HR b w e 47 none [.code c0] ⟨[(.ptr x0),(.int .i64 x1),(.str x2),z,z,z,z,z,z,z,z,z,z,z,z,z,z,z,z,z,z,z,z,z,z,z,z,z,z,z,z,z,z,z,z,z,z,z,z,z,z,z,z,z,z],[]⟩ S _
 refine qT rfl rfl rfl (qS 6 rfl (Zxa · (.int _ _)) (rE ?_))
 dsimp only [w0,w1,w2,w3]
 refine qQ rfl (Zxo rfl (qT rfl rfl rfl (uM 8 rfl rfl (qS 9 rfl (Zxt · tu79 (.tmp rfl) (.inl ⟨rfl,rfl⟩)) (uA 7 rfl rfl (rE ?_))))))
 dsimp only [w0,w1,w2,w3]
 rcases ifc h with ⟨hc1,h⟩ | ⟨hc1,h⟩
 ·refine Zxb rfl (.tmp rfl) hc1 (qT rfl rfl rfl (qS 6 rfl (Zxa · (.int _ _)) (rE ?_)))
  cases h
  exact Zxl rfl at_.at_ rfl (res1 rfl rfl) ⟨rfl,rfl⟩
 ·obtain ⟨p2,hp2,h⟩ := bindo h
  refine Zxc rfl (.tmp rfl) (bfalse hc1) (qT rfl rfl rfl (uM 11 rfl rfl (uM 12 rfl rfl (uM 13 rfl rfl (uQ 14 rfl (.func _) (ev3 rfl rfl rfl) (HInv.static Y16.at_ Y16.body (Y16.snd  hp2)) ?_)))))
  try dsimp only [w0,w1,w2,w3]
  refine uA 10 rfl rfl (rE ?_)
  dsimp only [w0,w1,w2,w3]
  rcases ifc h with ⟨hc3,h⟩ | ⟨hc3,h⟩
  ·refine Zxb rfl (.tmp rfl) hc3 (qT rfl rfl rfl (qS 6 rfl (Zxa · (.int _ _)) (rE ?_)))
   cases h
   exact Zxl rfl at_.at_ rfl (res1 rfl rfl) ⟨rfl,rfl⟩
  ·refine Zxc rfl (.tmp rfl) (bfalse hc3) (qQ rfl ?_)
   refine Zx8 (cls := [0,0,2,0,0,0,3,0,0]) (rk := [0,1,2,3,4,5,6,7,8]) rfl (by kernel_rfl) ?_
   refine xf 16 [0] rfl (oM · rfl) ?_
   refine xf 17 [1] rfl (oM · rfl) ?_
   obtain ⟨p4,hp4,h⟩ := bindo h
   refine Zzc (Zaa3 (dst := some 18) (ts := [16,17]) rfl (by kernel_rfl) (.func _) (ev2 rfl rfl) (HInv.static Y32.at_ Y32.body (Y32.snd  hp4))) rfl trivial ?_
   refine xf 19 [0] rfl (oM · rfl) ?_
   try dsimp only [w0,w1,w2,w3]
   obtain ⟨p5,hp5,h⟩ := bindo h
   refine xf 20 [19] rfl (oN · rfl hp5) ?_
   refine xf 21 [20] rfl (oF · fi124_0 (by decide) rfl rfl) ?_
   obtain ⟨p6,hp6,p7,hp7,h⟩ := bd2 h
   obtain ⟨hg8,h⟩ := gd h
   refine Zx3 (r_op (dst := some 22) (ts := [21]) rfl (by intro _ _ h; cases h) (by kernel_rfl) (fun _ ho => Zxs ho sc3 (.tmp rfl) rfl (Zxq hp6))) rfl ⟨.inr (l_op (dst := some 22) (ts := [21]) rfl (by intro _ _ h; cases h) (by kernel_rfl) (fun _ ho => Zxs ho sc3 (.tmp rfl) rfl (Zxq (hp7.trans (congrArg some hg8))))),trivial⟩ ?_
   refine xf 23 [18,22] rfl (oB · rfl rfl rfl) ?_
   try dsimp only [w0,w1,w2,w3]
   refine xf 15 [23] rfl (oA · rfl) ?_
   refine Zx5 rfl ?_
   refine rE ?_
   try dsimp only [w0,w1,w2,w3]
   rcases ifc h with ⟨hc9,h⟩ | ⟨hc9,h⟩
   ·refine Zxb rfl (.tmp rfl) (decide_eq_true hc9) (qT rfl rfl rfl (qS 6 rfl (Zxa · (.int _ _)) (rE ?_)))
    cases h
    exact Zxl rfl at_.at_ rfl (res1 rfl rfl) ⟨rfl,rfl⟩
   ·obtain ⟨p10,hp10,p11,hp11,h⟩ := bd2 h
    refine Zxc rfl (.tmp rfl) (decide_eq_false hc9) (Zxd rfl (Zxf (qT rfl rfl rfl (uM 24 rfl rfl (uN 25 rfl rfl hp10 (uF 26 rfl Zacz (by decide) rfl rfl (uL 27 rfl Zajn rfl rfl (Zaa8 hp11) ?_)))))))
    try dsimp only [w0,w1,w2,w3]
    obtain ⟨p12,hp12,h⟩ := bindo h
    refine uM 28 rfl rfl (uM 29 rfl rfl (uQ 30 rfl (.func _) (ev3 rfl rfl rfl) (HInv.static Y54.at_ Y54.body (Y54.snd  hp12)) (rE ?_)))
    dsimp only [w0,w1,w2,w3]
    obtain ⟨p13,hp13,p14,hp14,h⟩ := bd2 h
    refine qT rfl rfl rfl (uM 31 rfl rfl (uN 32 rfl rfl hp13 (uF 33 rfl Zajo (by decide) rfl rfl (uL 34 rfl sc122 rfl rfl (Zaa8 hp14) ?_))))
    try dsimp only [w0,w1,w2,w3]
    obtain ⟨p15,hp15,h⟩ := bindo h
    refine uM 35 rfl rfl (uM 36 rfl rfl (uQ 37 rfl (.func _) (ev3 rfl rfl rfl) (HInv.static Y56.at_ Y56.body (Y56.snd  hp15)) (rE ?_)))
    dsimp only [w0,w1,w2,w3]
    obtain ⟨p16,hp16,p17,hp17,h⟩ := bd2 h
    refine qT rfl rfl rfl (uM 38 rfl rfl (uN 39 rfl rfl hp16 (uF 40 rfl Zaee (by decide) rfl rfl (uL 41 rfl sc3 rfl rfl (Zxq hp17) ?_))))
    try dsimp only [w0,w1,w2,w3]
    obtain ⟨p18,hp18,p19,hp19,h⟩ := bd2 h
    refine uC 42 rfl rfl rfl (uN 43 rfl rfl hp18 (uF 44 rfl Zaee (by decide) rfl rfl (qN rfl (Zxk (v := (.int .i64 (w64 (p17 + 1)))) · sz3 (.tmp rfl) rfl (.tmp rfl) rfl hp19) (rE ?_))))
    dsimp only [w0,w1,w2,w3]
    refine qT rfl rfl rfl (qS 6 rfl (Zxa · (.int _ _)) (rE ?_))
    cases h
    exact Zxl rfl at_.at_ rfl (res1 rfl rfl) ⟨rfl,rfl⟩
end Y72
namespace Y24
theorem at_ : FnAt Tryz.prog 135 Tryz.f135 := ⟨Tryz.func135,by kernel_rfl⟩
def d0 := (Tryz.f135.body).getD .skip
def r1 := kT d0
def r6 := kT (kX (kY d0))
def r12 := kT (kY (kX (kB d0)))
def r13 := kR (kW (kX (kB d0)))
def c4 : Code := .seq (.seq (.region 1 r6 false) (.cond (.tmp 9) .skip (.exit 0))) (.seq (.block 1 (.region 3 r12 true)) (.region 2 r13 false))
def c0 : Code := .seq (.region 0 r1 false) (.block 0 (.loop c4))
theorem body : Tryz.f135.body = some c0 := by kernel_rfl
def L0 (k : Nat) : Nat → Sl → Int → Int → HS → Option ((Unit) × HS)
 | 0,_,_,_,_ => none
 | n + 1,y0,y2,y3,S =>
  (if y2 < y3 then
  ((S.idx y0 y3 2).bind fun p2 =>
  ((S.ldS (HA.fld p2 0)).bind fun p3 =>
  ((S.ldP (HA.fld p2 1)).bind fun p4 =>
  ((S.idx y0 y2 2).bind fun p5 =>
  ((S.ldS (HA.fld p5 0)).bind fun p6 =>
  ((S.ldP (HA.fld p5 1)).bind fun p7 =>
  ((S.idx y0 y2 2).bind fun p8 =>
  ((S.sets p8 [(.str p3),(.ptr p4)]).bind fun p9 =>
  ((p9.idx y0 y3 2).bind fun p10 =>
  ((p9.sets p10 [(.str p6),(.ptr p7)]).bind fun p11 =>
  (L0 k n) y0 (w64 (y2 + 1)) (w64 (y3 - 1)) p11)))))))))) else
  some ((),S))
theorem L0_snd  : ∀ {n : Nat} ⦃y0 : Sl⦄ ⦃y2 : Int⦄ ⦃y3 : Int⦄ ⦃S : HS⦄ ⦃p : (Unit) × HS⦄ ⦃j F o N Gh i a G B M O K A C E I J L Q U V Z c d g : HV⦄,L0 k n y0 y2 y3 S = some p → HR b w e 135 none [.inLoop c4,.inBlock 0] ⟨[(Sl.hv y0),j,(.int .i64 y2),(.int .i64 y3),F,o,N,Gh,i,a,G,B,M,O,K,A,C,E,I,J,L,Q,U,V,Z,c,d,g],[]⟩ S (RR (.tup []) p.2) := by
 intro n
 induction n with
 | zero => intro _ _ _ _ _ _ _ _ _ _ _ _ _ _ _ _ _ _ _ _ _ _ _ _ _ _ _ _ _ _ h; cases h
 | succ n ih =>
  intro y0 y2 y3 S p j F o N Gh i a G B M O K A C E I J L Q U V Z c d g h
  simp only [L0] at h
  refine Zxz (qQ rfl (qT rfl rfl rfl (uM 7 rfl rfl (uM 8 rfl rfl (uB 9 rfl rfl rfl rfl (rE ?_))))))
  dsimp only [w0,w1,w2,w3]
  rcases ifc h with ⟨hc1,h⟩ | ⟨hc1,h⟩
  ·refine Zxb rfl (.tmp rfl) (decide_eq_true hc1) (Zxd rfl (qQ rfl (Zxo rfl ?_)))
   refine Zx8 (cls := [0,0,0,0,0,0,1,1,0,0,1,1,1,2,1,2]) (rk := [0,1,12,13,2,3,4,5,6,7,8,9,10,11,14,15]) rfl (by kernel_rfl) ?_
   refine yf 14 [0] rfl (oM · rfl) ?_
   refine yf 15 [2] rfl (oM · rfl) ?_
   refine yf 16 [0] rfl (oM · rfl) ?_
   refine yf 17 [3] rfl (oM · rfl) ?_
   try dsimp only [w0,w1,w2,w3]
   refine yf 18 [0] rfl (oM · rfl) ?_
   refine yf 19 [3] rfl (oM · rfl) ?_
   obtain ⟨p2,hp2,h⟩ := bindo h
   refine yr 20 [18,19] rfl (oX (s := y0) · Zyr Zabr rfl rfl hp2) ?_
   obtain ⟨p3,hp3,p4,hp4,h⟩ := bd2 h
   refine yr 21 [20] rfl (Zyl (vs := [(.str p3),(.ptr p4)]) · Zajk (.tmp rfl) rfl ⟨Zx4 hp3,Zx0 hp4,trivial⟩ (by simp)) ?_
   try dsimp only [w0,w1,w2,w3]
   refine yf 22 [0] rfl (oM · rfl) ?_
   refine yf 23 [2] rfl (oM · rfl) ?_
   obtain ⟨p5,hp5,h⟩ := bindo h
   refine yr 24 [22,23] rfl (oX (s := y0) · Zyr Zabr rfl rfl hp5) ?_
   obtain ⟨p6,hp6,p7,hp7,h⟩ := bd2 h
   refine yr 25 [24] rfl (Zyl (vs := [(.str p6),(.ptr p7)]) · Zajk (.tmp rfl) rfl ⟨Zx4 hp6,Zx0 hp7,trivial⟩ (by simp)) ?_
   try dsimp only [w0,w1,w2,w3]
   obtain ⟨p8,hp8,h⟩ := bindo h
   refine yr 26 [14,15] rfl (oX (s := y0) · Zyr Zabr rfl rfl hp8) ?_
   obtain ⟨p9,hp9,h⟩ := bindo h
   refine x_go (e_op (dst := none) (ts := [26,21]) rfl (by intro _ _ h; cases h) (by kernel_rfl) (fun _ ho => Zxk (v := (.agg [(.str p3),(.ptr p4)])) ho Zabr (.tmp rfl) rfl (.tmp rfl) rfl hp9)) rfl ?_
   obtain ⟨p10,hp10,h⟩ := bindo h
   refine yr 27 [16,17] rfl (oX (s := y0) · Zyr Zabr rfl rfl hp10) ?_
   obtain ⟨p11,hp11,h⟩ := bindo h
   refine x_go (e_op (dst := none) (ts := [27,25]) rfl (by intro _ _ h; cases h) (by kernel_rfl) (fun _ ho => Zxk (v := (.agg [(.str p6),(.ptr p7)])) ho Zabr (.tmp rfl) rfl (.tmp rfl) rfl hp11)) rfl ?_
   refine Zx5 rfl ?_
   refine rE ?_
   try dsimp only [w0,w1,w2,w3]
   refine Zxf (qR rfl rfl (uM 10 rfl rfl (uC 11 rfl rfl rfl (uM 12 rfl rfl (uC 13 rfl rfl rfl ?_)))))
   try dsimp only [w0,w1,w2,w3]
   refine uA 2 rfl rfl (uA 3 rfl rfl (rE ?_))
   dsimp only [w0,w1,w2,w3]
   exact ih h
  ·cases h
   exact Zxc rfl (.tmp rfl) (decide_eq_false hc1) (Zyh rfl rfl (Zzq at_.at_ rfl (res0 rfl) ⟨rfl,rfl⟩))
def f (k : Nat) (x0 : Sl) (S : HS) : Option ((Unit) × HS) :=
 L0 k k x0 0 (w64 ((Sl.len x0 : Int) - 1)) S
theorem snd {x0 : Sl}  {p : (Unit) × HS} (h : f k x0 S = some p) : HC b w e 135 [(Sl.hv x0)] S (RR (.tup []) p.2) := by
 unfold f at h
 refine HCall.of_run at_.at_ body ?_
 show HR b w e 135 none [.code c0] ⟨[(Sl.hv x0),z,z,z,z,z,z,z,z,z,z,z,z,z,z,z,z,z,z,z,z,z,z,z,z,z,z,z],[]⟩ S _
 refine qT rfl rfl rfl (uM 4 rfl rfl (qS 5 rfl (Zxg (q := Sl.a x0) (n := Sl.len x0) (z := Sl.cap x0) · rfl Zyr (.tmp rfl)) (uC 6 rfl rfl rfl (qS 2 rfl (Zxa · (.int _ _)) ?_))))
 try dsimp only [w0,w1,w2,w3]
 refine uA 3 rfl rfl (rE ?_)
 dsimp only [w0,w1,w2,w3]
 refine Zxo rfl (Zye rfl ?_)
 try dsimp only [w0,w1,w2,w3]
 exact L0_snd  h
end Y24
namespace Y112
theorem at_ : FnAt Tryz.prog 127 Tryz.f127 := ⟨Tryz.func127,by kernel_rfl⟩
def d0 := (Tryz.f127.body).getD .skip
def r1 := kT d0
def r3 := kT (kB d0)
def r4 := kR (kW d0)
def c0 : Code := .seq (.region 0 r1 false) (.seq (.region 1 r3 false) (.region 2 r4 false))
theorem body : Tryz.f127.body = some c0 := by kernel_rfl
def f (k : Nat) (x0 : Sl) (x1 : Int) (S : HS) : Option ((Unit) × HS) :=
 ((S.cut x0 0 x1 2).bind fun p1 =>
 ((Y24.f k p1 S).bind fun p2 =>
 ((p2.2.cut x0 x1 (Sl.len x0 : Int) 2).bind fun p3 =>
 ((Y24.f k p3 p2.2).bind fun p4 =>
 ((Y24.f k x0 p4.2).bind fun p5 =>
 some ((),p5.2))))))
theorem snd {x0 : Sl} {x1 : Int}  {p : (Unit) × HS} (h : f k x0 x1 S = some p) : HC b w e 127 [(Sl.hv x0),(.int .i64 x1)] S (RR (.tup []) p.2) := by
 unfold f at h
 refine HCall.of_run at_.at_ body ?_
 show HR b w e 127 none [.code c0] ⟨[(Sl.hv x0),(.int .i64 x1),z,z,z,z,z,z,z,z,z,z,z,z],[]⟩ S _
 obtain ⟨p1,hp1,p2,hp2,h⟩ := bd2 h
 refine qT rfl rfl rfl (uM 4 rfl rfl (uM 5 rfl rfl (qS 6 rfl (Zxn (kl := .i64) (kh := .i64) (s := x0) (l := 0) (h := x1) · Zyr Zaaj (.tmp rfl) (.inl ⟨rfl,rfl⟩) (.inr ⟨_,rfl,(.tmp rfl)⟩) hp1) (uQ 7 rfl (.func _) (ev1 rfl) (HInv.static Y24.at_ Y24.body (Y24.snd  hp2)) (rE ?_)))))
 dsimp only [w0,w1,w2,w3]
 obtain ⟨p3,hp3,p4,hp4,h⟩ := bd2 h
 refine qT rfl rfl rfl (uM 8 rfl rfl (uM 9 rfl rfl (qS 10 rfl (Zxn (kl := .i64) (kh := .i64) (s := x0) (l := x1) (h := (Sl.len x0 : Int)) · Zyr Zaaj (.tmp rfl) (.inr ⟨_,rfl,(.tmp rfl)⟩) (.inl ⟨rfl,rfl⟩) hp3) (uQ 11 rfl (.func _) (ev1 rfl) (HInv.static Y24.at_ Y24.body (Y24.snd  hp4)) (rE ?_)))))
 dsimp only [w0,w1,w2,w3]
 obtain ⟨p5,hp5,h⟩ := bindo h
 refine qR rfl rfl (uM 12 rfl rfl (uQ 13 rfl (.func _) (ev1 rfl) (HInv.static Y24.at_ Y24.body (Y24.snd  hp5)) (rE ?_)))
 dsimp only [w0,w1,w2,w3]
 cases h
 exact Zzq at_.at_ rfl (res0 rfl) ⟨rfl,rfl⟩
end Y112
namespace Y101
theorem at_ : FnAt Tryz.prog 109 Tryz.f109 := ⟨Tryz.func109,by kernel_rfl⟩
def d0 := (Tryz.f109.body).getD .skip
def r0 := kR d0
def c0 : Code := .region 0 r0 false
theorem body : Tryz.f109.body = some c0 := by kernel_rfl
def f (k : Nat) (x0 : Sl) (x1 : Int) (S : HS) : Option ((Unit) × HS) :=
 ((Y112.f k x0 (w64 ((Sl.len x0 : Int) - x1)) S).bind fun p1 =>
 some ((),p1.2))
theorem snd {x0 : Sl} {x1 : Int}  {p : (Unit) × HS} (h : f k x0 x1 S = some p) : HC b w e 109 [(Sl.hv x0),(.int .i64 x1)] S (RR (.tup []) p.2) := by
 unfold f at h
 refine HCall.of_run at_.at_ body ?_
 show HR b w e 109 none [.code c0] ⟨[(Sl.hv x0),(.int .i64 x1),z,z,z,z,z,z,z,z],[]⟩ S _
 refine qR rfl rfl (uM 4 rfl rfl (uM 5 rfl rfl (qS 6 rfl (Zxg (q := Sl.a x0) (n := Sl.len x0) (z := Sl.cap x0) · rfl Zyr (.tmp rfl)) (uM 7 rfl rfl ?_))))
 try dsimp only [w0,w1,w2,w3]
 obtain ⟨p1,hp1,h⟩ := bindo h
 refine uB 8 rfl rfl rfl rfl (uQ 9 rfl (.func _) (ev2 rfl rfl) (HInv.static Y112.at_ Y112.body (Y112.snd  hp1)) (rE ?_))
 dsimp only [w0,w1,w2,w3]
 cases h
 exact Zzq at_.at_ rfl (res0 rfl) ⟨rfl,rfl⟩
end Y101
namespace Y116
theorem at_ : FnAt Tryz.prog 77 Tryz.f77 := ⟨Tryz.func77,by kernel_rfl⟩
def d0 := (Tryz.f77.body).getD .skip
def r1 := kT d0
def r3 := kT (kB d0)
def r5 := kT (kW d0)
def d6 := kW (kB d0)
def r8 := kT (kA d6)
def r11 := kT (kY (kA d6))
def r15 := kT (kB d6)
def r18 := kT (kY (kB d6))
def r21 := kT (kY (kY (kB d6)))
def d24 := kW (kB d6)
def r26 := kT (kA d24)
def d28 := kY (kA d24)
def r29 := kT d28
def r31 := kT (kB d28)
def r33 := kT (kW d28)
def r35 := kT (kW (kB d28))
def r39 := kT (kB d24)
def d41 := kY (kB d24)
def r42 := kT d41
def r45 := kT (kY d41)
def r47 := kT (kZ (kB d41))
def r49 := kT (kW (kY d41))
def r53 := kT (kW (kB d24))
def r55 := kT (kW (kW d24))
def r57 := kT (kW (kW (kB d24)))
def c0 : Code := .seq (.region 0 r1 false) (.seq (.region 1 r3 false) (.seq (.region 2 r5 false) (.seq (.seq (.region 3 r8 false) (.cond (.tmp 16) (.seq (.region 4 r11 false) .ret) .skip)) (.seq (.region 5 r15 false) (.seq (.seq (.region 6 r18 false) (.cond (.tmp 22) (.seq (.region 7 r21 false) .ret) .skip)) (.seq (.seq (.region 8 r26 false) (.cond (.tmp 31) (.seq (.region 9 r29 false) (.seq (.region 10 r31 false) (.seq (.region 11 r33 true) (.seq (.region 12 r35 false) .ret)))) .skip)) (.seq (.region 13 r39 false) (.seq (.seq (.region 14 r42 false) (.cond (.tmp 68) (.seq (.region 15 r45 true) (.seq (.region 16 r47 false) (.seq (.region 17 r49 false) .ret))) .skip)) (.seq (.region 18 r53 false) (.seq (.region 19 r55 false) (.seq (.region 20 r57 false) .ret)))))))))))
theorem body : Tryz.f77.body = some c0 := by kernel_rfl
def f (k : Nat) (x0 : Sl) (x1 : Int) (x2 : Sl) (S : HS) : Option ((Sl) × HS) :=
 ((S.cut x0 x1 (Sl.len x0 : Int) 2).bind fun p1 =>
 (if (Sl.len x2 : Int) = 0 then
 some (x0,S) else
 (if x1 = (Sl.len x0 : Int) then
 ((S.rows x2 2).bind fun p4 =>
 ((S.app x0 p4 2).bind fun p5 =>
 some ((p5.1),(p5.2)))) else
 ((Sl.capOf x0).bind fun p6 =>
 (if (w64 ((Sl.len x0 : Int) + (Sl.len x2 : Int))) > p6 then
 ((S.cut x0 0 x1 2).bind fun p8 =>
 ((S.appZ p8 (w64 ((w64 ((Sl.len x0 : Int) + (Sl.len x2 : Int))) - x1)) [(.str []),(.ptr none)] 2).bind fun p9 =>
 ((p9.2.cut (p9.1) x1 (Sl.len (p9.1) : Int) 2).bind fun p10 =>
 ((p9.2.rows x2 2).bind fun p11 =>
 ((p9.2.over p10 (List.take (Sl.len p10) p11) 2).bind fun p12 =>
 ((p12.cut (p9.1) (w64 (x1 + (Sl.len x2 : Int))) (Sl.len (p9.1) : Int) 2).bind fun p13 =>
 ((p12.cut x0 x1 (Sl.len x0 : Int) 2).bind fun p14 =>
 ((p12.rows p14 2).bind fun p15 =>
 ((p12.over p13 (List.take (Sl.len p13) p15) 2).bind fun p16 =>
 some ((p9.1),p16)))))))))) else
 ((S.cut x0 0 (w64 ((Sl.len x0 : Int) + (Sl.len x2 : Int))) 2).bind fun p17 =>
 ((S.cut p17 (w64 (x1 + (Sl.len x2 : Int))) (Sl.len p17 : Int) 2).bind fun p18 =>
 ((S.ovl x2 p18).bind fun p19 =>
 (if (!p19) = true then
 ((S.cut p17 (w64 (x1 + (Sl.len x2 : Int))) (Sl.len p17 : Int) 2).bind fun p21 =>
 ((S.cut p17 x1 (Sl.len p17 : Int) 2).bind fun p22 =>
 ((S.rows p22 2).bind fun p23 =>
 ((S.over p21 (List.take (Sl.len p21) p23) 2).bind fun p24 =>
 ((p24.cut p17 x1 (Sl.len p17 : Int) 2).bind fun p25 =>
 ((p24.rows x2 2).bind fun p26 =>
 ((p24.over p25 (List.take (Sl.len p25) p26) 2).bind fun p27 =>
 some (p17,p27)))))))) else
 ((S.cut p17 (Sl.len x0 : Int) (Sl.len p17 : Int) 2).bind fun p28 =>
 ((S.rows x2 2).bind fun p29 =>
 ((S.over p28 (List.take (Sl.len p28) p29) 2).bind fun p30 =>
 ((p30.cut p17 x1 (Sl.len p17 : Int) 2).bind fun p31 =>
 ((Y101.f k p31 (Sl.len x2 : Int) p30).bind fun p32 =>
 some (p17,p32.2)))))))))))))))
theorem snd {x0 : Sl} {x1 : Int} {x2 : Sl}  {p : (Sl) × HS} (h : f k x0 x1 x2 S = some p) : HC b w e 77 [(Sl.hv x0),(.int .i64 x1),(Sl.hv x2)] S (RR (Sl.hv p.1) p.2) := by
 unfold f at h
 refine HCall.of_run at_.at_ body ?_
 show HR b w e 77 none [.code c0] ⟨[(Sl.hv x0),(.int .i64 x1),(Sl.hv x2),z,z,z,z,z,z,z,z,z,z,z,z,z,z,z,z,z,z,z,z,z,z,z,z,z,z,z,z,z,z,z,z,z,z,z,z,z,z,z,z,z,z,z,z,z,z,z,z,z,z,z,z,z,z,z,z,z,z,z,z,z,z,z,z,z,z,z,z,z,z,z,z,z,z,z,z,z,z,z,z,z,z,z,z,z,z,z,z,z,z,z,z],[]⟩ S _
 refine qT rfl rfl rfl (qS 6 rfl (Zxa · (.const fun _ => .slNil none)) (rE ?_))
 dsimp only [w0,w1,w2,w3]
 obtain ⟨p1,hp1,h⟩ := bindo h
 refine qT rfl rfl rfl (uM 10 rfl rfl (uM 11 rfl rfl (qS 12 rfl (Zxn (kl := .i64) (kh := .i64) (s := x0) (l := x1) (h := (Sl.len x0 : Int)) · Zyr Zaaj (.tmp rfl) (.inr ⟨_,rfl,(.tmp rfl)⟩) (.inl ⟨rfl,rfl⟩) hp1) (rE ?_))))
 dsimp only [w0,w1,w2,w3]
 refine qT rfl rfl rfl (uM 13 rfl rfl (qS 14 rfl (Zxg (q := Sl.a x2) (n := Sl.len x2) (z := Sl.cap x2) · rfl Zyr (.tmp rfl)) (uA 7 rfl rfl (rE ?_))))
 dsimp only [w0,w1,w2,w3]
 refine qQ rfl (qT rfl rfl rfl (uM 15 rfl rfl (uC 16 rfl rfl rfl (rE ?_))))
 dsimp only [w0,w1,w2,w3]
 rcases ifc h with ⟨hc2,h⟩ | ⟨hc2,h⟩
 ·refine Zxb rfl (.tmp rfl) (decide_eq_true hc2) (qT rfl rfl rfl (uM 17 rfl rfl (uA 6 rfl rfl (rE ?_))))
  cases h
  exact Zxl rfl at_.at_ rfl (res1 rfl rfl) ⟨rfl,rfl⟩
 ·refine Zxc rfl (.tmp rfl) (decide_eq_false hc2) (Zxd rfl (qT rfl rfl rfl (uM 18 rfl rfl (qS 19 rfl (Zxg (q := Sl.a x0) (n := Sl.len x0) (z := Sl.cap x0) · rfl Zyr (.tmp rfl)) (uA 8 rfl rfl (rE ?_))))))
  dsimp only [w0,w1,w2,w3]
  refine qQ rfl (qT rfl rfl rfl (uM 20 rfl rfl (uM 21 rfl rfl (uB 22 rfl rfl rfl rfl (rE ?_)))))
  dsimp only [w0,w1,w2,w3]
  rcases ifc h with ⟨hc3,h⟩ | ⟨hc3,h⟩
  ·obtain ⟨p4,hp4,p5,hp5,h⟩ := bd2 h
   refine Zxb rfl (.tmp rfl) (decide_eq_true hc3) (qT rfl rfl rfl (uM 23 rfl rfl (uM 24 rfl rfl (qS 25 rfl (Zx1 (s := x0) (s1 := x2) Zab4 · rfl rfl ⟨_,Zyr⟩ (.tmp rfl) (.tmp rfl) hp4 hp5) (uA 6 rfl rfl (rE ?_))))))
   cases h
   exact Zxl rfl at_.at_ rfl (res1 rfl rfl) ⟨rfl,rfl⟩
  ·refine Zxc rfl (.tmp rfl) (decide_eq_false hc3) (Zxd rfl (qQ rfl (qT rfl rfl rfl (uM 26 rfl rfl (uM 27 rfl rfl (uB 28 rfl rfl rfl rfl (uM 29 rfl rfl ?_)))))))
   try dsimp only [w0,w1,w2,w3]
   obtain ⟨p6,hp6,h⟩ := bindo h
   refine qS 30 rfl (Zagt (s := x0) · rfl Zyr (.tmp rfl) hp6) (uB 31 rfl rfl rfl rfl (rE ?_))
   dsimp only [w0,w1,w2,w3]
   rcases ifc h with ⟨hc7,h⟩ | ⟨hc7,h⟩
   ·obtain ⟨p8,hp8,h⟩ := bindo h
    refine Zxb rfl (.tmp rfl) (decide_eq_true hc7) (qT rfl rfl rfl (uM 32 rfl rfl (uM 33 rfl rfl (qS 34 rfl (Zxn (kl := .i64) (kh := .i64) (s := x0) (l := 0) (h := x1) · Zyr Zaaj (.tmp rfl) (.inl ⟨rfl,rfl⟩) (.inr ⟨_,rfl,(.tmp rfl)⟩) hp8) (uM 35 rfl rfl ?_)))))
    try dsimp only [w0,w1,w2,w3]
    refine uM 36 rfl rfl (uB 37 rfl rfl rfl rfl (uM 38 rfl rfl (uB 39 rfl rfl rfl rfl ?_)))
    try dsimp only [w0,w1,w2,w3]
    obtain ⟨p9,hp9,h⟩ := bindo h
    refine qS 40 rfl (Zzo (s := p8) Zab4 · rfl rfl tu3 (.tmp rfl) (.tmp rfl) hp9) (uA 9 rfl rfl (rE ?_))
    dsimp only [w0,w1,w2,w3]
    obtain ⟨p10,hp10,h⟩ := bindo h
    refine qT rfl rfl rfl (uM 41 rfl rfl (uM 42 rfl rfl (qS 43 rfl (Zxn (kl := .i64) (kh := .i64) (s := (p9.1)) (l := x1) (h := (Sl.len (p9.1) : Int)) · Zyr Zaaj (.tmp rfl) (.inr ⟨_,rfl,(.tmp rfl)⟩) (.inl ⟨rfl,rfl⟩) hp10) (uM 44 rfl rfl ?_))))
    try dsimp only [w0,w1,w2,w3]
    obtain ⟨p11,hp11,p12,hp12,h⟩ := bd2 h
    refine qS 45 rfl (Zyx (s := p10) (s1 := x2) Zab4 · rfl (.tmp rfl) (.tmp rfl) hp11 hp12) (rE ?_)
    dsimp only [w0,w1,w2,w3]
    refine qQ rfl ?_
    refine Zx8 (cls := [0,0,0,0,1,0,0,1,2]) (rk := [0,1,2,3,4,5,6,7,8]) rfl (by kernel_rfl) ?_
    refine yf 46 [9] rfl (oM · rfl) ?_
    refine yf 47 [1] rfl (oM · rfl) ?_
    refine yf 48 [7] rfl (oM · rfl) ?_
    refine yf 49 [47,48] rfl (oB · rfl rfl rfl) ?_
    try dsimp only [w0,w1,w2,w3]
    obtain ⟨p13,hp13,h⟩ := bindo h
    refine yr 50 [46,49] rfl (Zxn (kl := .i64) (kh := .i64) (s := (p9.1)) (l := (w64 (x1 + (Sl.len x2 : Int)))) (h := (Sl.len (p9.1) : Int)) · Zyr Zaaj (.tmp rfl) (.inr ⟨_,rfl,(.tmp rfl)⟩) (.inl ⟨rfl,rfl⟩) hp13) ?_
    refine yf 51 [0] rfl (oM · rfl) ?_
    refine yf 52 [1] rfl (oM · rfl) ?_
    obtain ⟨p14,hp14,h⟩ := bindo h
    refine yr 53 [51,52] rfl (Zxn (kl := .i64) (kh := .i64) (s := x0) (l := x1) (h := (Sl.len x0 : Int)) · Zyr Zaaj (.tmp rfl) (.inr ⟨_,rfl,(.tmp rfl)⟩) (.inl ⟨rfl,rfl⟩) hp14) ?_
    try dsimp only [w0,w1,w2,w3]
    obtain ⟨p15,hp15,p16,hp16,h⟩ := bd2 h
    refine ye 54 [50,53] rfl (Zyx (s := p13) (s1 := p14) Zab4 · rfl (.tmp rfl) (.tmp rfl) hp15 hp16) ?_
    refine Zx5 rfl ?_
    refine rE ?_
    try dsimp only [w0,w1,w2,w3]
    refine qT rfl rfl rfl (uM 55 rfl rfl (uA 6 rfl rfl (rE ?_)))
    cases h
    exact Zxl rfl at_.at_ rfl (res1 rfl rfl) ⟨rfl,rfl⟩
   ·refine Zxc rfl (.tmp rfl) (decide_eq_false hc7) (Zxd rfl (qT rfl rfl rfl (uM 56 rfl rfl (uM 57 rfl rfl (uM 58 rfl rfl (uB 59 rfl rfl rfl rfl ?_))))))
    try dsimp only [w0,w1,w2,w3]
    obtain ⟨p17,hp17,h⟩ := bindo h
    refine qS 60 rfl (Zxn (kl := .i64) (kh := .i64) (s := x0) (l := 0) (h := (w64 ((Sl.len x0 : Int) + (Sl.len x2 : Int)))) · Zyr Zaaj (.tmp rfl) (.inl ⟨rfl,rfl⟩) (.inr ⟨_,rfl,(.tmp rfl)⟩) hp17) (uA 0 rfl rfl (rE ?_))
    dsimp only [w0,w1,w2,w3]
    refine qQ rfl (qT rfl rfl rfl (uM 61 rfl rfl (uM 62 rfl rfl (uM 63 rfl rfl (uM 64 rfl rfl ?_)))))
    try dsimp only [w0,w1,w2,w3]
    obtain ⟨p18,hp18,p19,hp19,h⟩ := bd2 h
    refine uB 65 rfl rfl rfl rfl (qS 66 rfl (Zxn (kl := .i64) (kh := .i64) (s := p17) (l := (w64 (x1 + (Sl.len x2 : Int)))) (h := (Sl.len p17 : Int)) · Zyr Zaaj (.tmp rfl) (.inr ⟨_,rfl,(.tmp rfl)⟩) (.inl ⟨rfl,rfl⟩) hp18) (qS 67 rfl (Zaaf (s1 := x2) (s2 := p18) · ext108 Zyr Zaaj (.tmp rfl) (.tmp rfl) hp19) (qS 68 rfl (Zys · (.tmp rfl)) (rE ?_))))
    dsimp only [w0,w1,w2,w3]
    rcases ifc h with ⟨hc20,h⟩ | ⟨hc20,h⟩
    ·refine Zxb rfl (.tmp rfl) hc20 (qQ rfl ?_)
     refine Zx8 (cls := [0,0,0,0,1,0,0,1,2]) (rk := [0,1,2,3,4,5,6,7,8]) rfl (by kernel_rfl) ?_
     refine yf 69 [0] rfl (oM · rfl) ?_
     refine yf 70 [1] rfl (oM · rfl) ?_
     refine yf 71 [7] rfl (oM · rfl) ?_
     refine yf 72 [70,71] rfl (oB · rfl rfl rfl) ?_
     try dsimp only [w0,w1,w2,w3]
     obtain ⟨p21,hp21,h⟩ := bindo h
     refine yr 73 [69,72] rfl (Zxn (kl := .i64) (kh := .i64) (s := p17) (l := (w64 (x1 + (Sl.len x2 : Int)))) (h := (Sl.len p17 : Int)) · Zyr Zaaj (.tmp rfl) (.inr ⟨_,rfl,(.tmp rfl)⟩) (.inl ⟨rfl,rfl⟩) hp21) ?_
     refine yf 74 [0] rfl (oM · rfl) ?_
     refine yf 75 [1] rfl (oM · rfl) ?_
     obtain ⟨p22,hp22,h⟩ := bindo h
     refine yr 76 [74,75] rfl (Zxn (kl := .i64) (kh := .i64) (s := p17) (l := x1) (h := (Sl.len p17 : Int)) · Zyr Zaaj (.tmp rfl) (.inr ⟨_,rfl,(.tmp rfl)⟩) (.inl ⟨rfl,rfl⟩) hp22) ?_
     try dsimp only [w0,w1,w2,w3]
     obtain ⟨p23,hp23,p24,hp24,h⟩ := bd2 h
     refine ye 77 [73,76] rfl (Zyx (s := p21) (s1 := p22) Zab4 · rfl (.tmp rfl) (.tmp rfl) hp23 hp24) ?_
     refine Zx5 rfl ?_
     refine rE ?_
     try dsimp only [w0,w1,w2,w3]
     obtain ⟨p25,hp25,h⟩ := bindo h
     refine qT rfl rfl rfl (uM 78 rfl rfl (uM 79 rfl rfl (qS 80 rfl (Zxn (kl := .i64) (kh := .i64) (s := p17) (l := x1) (h := (Sl.len p17 : Int)) · Zyr Zaaj (.tmp rfl) (.inr ⟨_,rfl,(.tmp rfl)⟩) (.inl ⟨rfl,rfl⟩) hp25) (uM 81 rfl rfl ?_))))
     try dsimp only [w0,w1,w2,w3]
     obtain ⟨p26,hp26,p27,hp27,h⟩ := bd2 h
     refine qS 82 rfl (Zyx (s := p25) (s1 := x2) Zab4 · rfl (.tmp rfl) (.tmp rfl) hp26 hp27) (rE ?_)
     dsimp only [w0,w1,w2,w3]
     refine qT rfl rfl rfl (uM 83 rfl rfl (uA 6 rfl rfl (rE ?_)))
     cases h
     exact Zxl rfl at_.at_ rfl (res1 rfl rfl) ⟨rfl,rfl⟩
    ·obtain ⟨p28,hp28,h⟩ := bindo h
     refine Zxc rfl (.tmp rfl) (bfalse hc20) (Zxd rfl (qT rfl rfl rfl (uM 84 rfl rfl (uM 85 rfl rfl (qS 86 rfl (Zxn (kl := .i64) (kh := .i64) (s := p17) (l := (Sl.len x0 : Int)) (h := (Sl.len p17 : Int)) · Zyr Zaaj (.tmp rfl) (.inr ⟨_,rfl,(.tmp rfl)⟩) (.inl ⟨rfl,rfl⟩) hp28) (uM 87 rfl rfl ?_))))))
     try dsimp only [w0,w1,w2,w3]
     obtain ⟨p29,hp29,p30,hp30,h⟩ := bd2 h
     refine qS 88 rfl (Zyx (s := p28) (s1 := x2) Zab4 · rfl (.tmp rfl) (.tmp rfl) hp29 hp30) (rE ?_)
     dsimp only [w0,w1,w2,w3]
     obtain ⟨p31,hp31,h⟩ := bindo h
     refine qT rfl rfl rfl (uM 89 rfl rfl (uM 90 rfl rfl (qS 91 rfl (Zxn (kl := .i64) (kh := .i64) (s := p17) (l := x1) (h := (Sl.len p17 : Int)) · Zyr Zaaj (.tmp rfl) (.inr ⟨_,rfl,(.tmp rfl)⟩) (.inl ⟨rfl,rfl⟩) hp31) (uM 92 rfl rfl ?_))))
     try dsimp only [w0,w1,w2,w3]
     obtain ⟨p32,hp32,h⟩ := bindo h
     refine uQ 93 rfl (.func _) (ev2 rfl rfl) (HInv.static Y101.at_ Y101.body (Y101.snd  hp32)) (rE ?_)
     dsimp only [w0,w1,w2,w3]
     refine qT rfl rfl rfl (uM 94 rfl rfl (uA 6 rfl rfl (rE ?_)))
     cases h
     exact Zxl rfl at_.at_ rfl (res1 rfl rfl) ⟨rfl,rfl⟩
end Y116
namespace Y92
theorem at_ : FnAt Tryz.prog 77 Tryz.f77 := Y116.at_
theorem body : Tryz.f77.body = some Y116.c0 := Y116.body
def f (x0 : Sl) (x1 : Int) (x2 : Sl) (S : HS) : Option ((Sl) × HS) := HS.ins S x0 x1 x2 2
theorem snd {b : Nat} {w : World} {e : Bt} {x0 : Sl} {x1 : Int} {x2 : Sl} {p : (Sl) × HS} (h : f x0 x1 x2 S = some p) : HC b w e 77 [(Sl.hv x0),(.int .i64 x1),(Sl.hv x2)] S (RR (Sl.hv p.1) p.2) :=
 Zad0 (rot := fun a b T => Y101.f 0 a b T) (zr := [(.str []),(.ptr none)]) (fun _ _ _ h => Y116.snd (k := 0) h) h
end Y92
namespace Y53
theorem at_ : FnAt Tryz.prog 48 Tryz.f48 := ⟨Tryz.func48,by kernel_rfl⟩
def d0 := (Tryz.f48.body).getD .skip
def r1 := kT d0
def r4 := kT (kY d0)
def r7 := kT (kY (kY d0))
def r11 := kT (kW d0)
def d12 := kW (kB d0)
def r15 := kT (kX d12)
def d16 := kZ (kA d12)
def r17 := kT d16
def r19 := kT (kB d16)
def r22 := kT (kY (kB d16))
def r24 := kR (kW (kB d16))
def r26 := kT (kB d12)
def c25 : Code := .seq (.region 9 r26 false) .ret
def c0 : Code := .seq (.region 0 r1 false) (.seq (.seq (.region 1 r4 false) (.cond (.tmp 10) (.seq (.region 2 r7 false) .ret) .skip)) (.seq (.region 3 r11 false) (.seq (.block 0 (.seq (.region 5 r15 false) (.cond (.tmp 30) (.region 6 r17 false) (.seq (.region 7 r19 true) (.cond (.tmp 41) (.seq (.region 8 r22 false) .ret) (.region 4 r24 false)))))) c25)))
theorem body : Tryz.f48.body = some c0 := by kernel_rfl
def J0 (D : Dp) (H : Hd) (k : Nat) (S : HS) : Option ((Int) × HS) :=
 some (0,S)
theorem J0_snd (hD : DS b w D) (hH : HT b w e H) {p : (Int) × HS} (h : J0 D H k S = some p) : HR b w e 48 none [.code c25] ⟨[Ga,j,q,m,F,o,N,Gh,i,a,G,B,M,O,K,A,C,E,I,J,L,Q,U,V,Z,c,d,g,r,Kd,Ke,Kf,Kg,Kh,Ki,Kj,Kk,Kl,Km,Kn,Ko,Kp,Kq,Kr,Ks,Kt,Ku,Kv,Kw,Kx,Ky,Kz],[]⟩ S (RR (.int .i64 p.1) p.2) := by
 unfold J0 at h
 refine qT rfl rfl rfl (qS 6 rfl (Zxa · (.int _ _)) (rE ?_))
 cases h
 exact Zxl rfl at_.at_ rfl (res1 rfl rfl) ⟨rfl,rfl⟩
def f (D : Dp) (H : Hd) (k : Nat) (x0 : HP) (x1 : (List UInt8)) (x2 : HP) (S : HS) : Option ((Int) × HS) :=
 (if (Option.isNone x0) = true then
 some (1,S) else
 ((Y19.f D H k x0 x1 S).bind fun p2 =>
 (if p2.1.2 = true then
 (x0.bind fun p4 =>
 ((p2.2.ldSl (HA.fld p4 1)).bind fun p5 =>
 ((p2.2.idx p5 p2.1.1 2).bind fun p6 =>
 ((p2.2.sets p6 [(.str x1),(.ptr x2)]).bind fun p7 =>
 J0 D H k p7)))) else
 (x0.bind fun p8 =>
 ((p2.2.ldSl (HA.fld p8 1)).bind fun p9 =>
 (x0.bind fun p10 =>
 ((p2.2.ldI .i64 (HA.fld p10 0)).bind fun p11 =>
 (if (Sl.len p9 : Int) ≥ p11 then
 some (7,p2.2) else
 (x0.bind fun p13 =>
 ((p2.2.ldSl (HA.fld p13 1)).bind fun p14 =>
 (letv (HS.lit p2.2 [[(.str x1),(.ptr x2)]] 2) fun p15 =>
 ((Y92.f p14 p2.1.1 (p15.1) (p15.2)).bind fun p16 =>
 (x0.bind fun p17 =>
 ((p16.2.sets (HA.fld p17 1) [(Sl.hv p16.1)]).bind fun p18 =>
 J0 D H k p18))))))))))))))
theorem snd {x0 : HP} {x1 : (List UInt8)} {x2 : HP} (hD : DS b w D) (hH : HT b w e H) {p : (Int) × HS} (h : f D H k x0 x1 x2 S = some p) : HC b w e 48 [(.ptr x0),(.str x1),(.ptr x2)] S (RR (.int .i64 p.1) p.2) := by
 unfold f at h
 refine HCall.of_run at_.at_ body ?_
 show HR b w e 48 none [.code c0] ⟨[(.ptr x0),(.str x1),(.ptr x2),z,z,z,z,z,z,z,z,z,z,z,z,z,z,z,z,z,z,z,z,z,z,z,z,z,z,z,z,z,z,z,z,z,z,z,z,z,z,z,z,z,z,z,z,z,z,z,z,z],[]⟩ S _
 refine qT rfl rfl rfl (qS 6 rfl (Zxa · (.int _ _)) (rE ?_))
 dsimp only [w0,w1,w2,w3]
 refine qQ rfl (qT rfl rfl rfl (uM 9 rfl rfl (qS 10 rfl (Zxt · tu75 (.tmp rfl) (.inl ⟨rfl,rfl⟩)) (rE ?_))))
 dsimp only [w0,w1,w2,w3]
 rcases ifc h with ⟨hc1,h⟩ | ⟨hc1,h⟩
 ·refine Zxb rfl (.tmp rfl) hc1 (qT rfl rfl rfl (qS 6 rfl (Zxa · (.int _ _)) (rE ?_)))
  cases h
  exact Zxl rfl at_.at_ rfl (res1 rfl rfl) ⟨rfl,rfl⟩
 ·obtain ⟨p2,hp2,h⟩ := bindo h
  refine Zxc rfl (.tmp rfl) (bfalse hc1) (Zxd rfl (qT rfl rfl rfl (uM 12 rfl rfl (uM 13 rfl rfl (uQ 14 rfl (.func _) (ev2 rfl rfl) (HInv.static Y19.at_ Y19.body (Y19.snd hD hH hp2)) (uM 11 rfl rfl ?_))))))
  try dsimp only [w0,w1,w2,w3]
  refine qS 15 rfl (Zxr · (.tmp rfl) rfl) (qS 16 rfl (Zxr · (.tmp rfl) rfl) (uA 7 rfl rfl (uA 8 rfl rfl (rE ?_))))
  dsimp only [w0,w1,w2,w3]
  refine qQ rfl (Zxo rfl (qT rfl rfl rfl (uM 31 rfl rfl (uA 30 rfl rfl (rE ?_)))))
  dsimp only [w0,w1,w2,w3]
  rcases ifc h with ⟨hc3,h⟩ | ⟨hc3,h⟩
  ·obtain ⟨p4,hp4,p5,hp5,h⟩ := bd2 h
   refine Zxb rfl (.tmp rfl) hc3 (qR rfl rfl (uM 32 rfl rfl (uN 33 rfl rfl hp4 (uF 34 rfl Zz3 (by decide) rfl rfl (uL 35 rfl Zaec rfl rfl (Zxj hp5) ?_)))))
   try dsimp only [w0,w1,w2,w3]
   refine uM 36 rfl rfl (uM 37 rfl rfl (uM 38 rfl rfl (qS 39 rfl (Zy1 (is := [0,1]) (xs := [(.tmp 37),(.tmp 38)]) (r := [(.str x1),(.ptr x2)]) st133 · rfl rfl (ev2 rfl rfl) rfl) ?_)))
   try dsimp only [w0,w1,w2,w3]
   obtain ⟨p6,hp6,p7,hp7,h⟩ := bd2 h
   refine qS 40 rfl (oX (s := p5) · Zyr Zabr rfl rfl hp6) (qN rfl (Zxk (v := (.agg [(.str x1),(.ptr x2)])) · Zabr (.tmp rfl) rfl (.tmp rfl) rfl hp7) (rE ?_))
   dsimp only [w0,w1,w2,w3]
   refine Zxf ?_
   try dsimp only [w0,w1,w2,w3]
   exact J0_snd hD hH h
  ·refine Zxc rfl (.tmp rfl) (bfalse hc3) (qQ rfl ?_)
   refine Zx8 (cls := [0,0,0,1,0,0,0,0,1,0,0]) (rk := [0,1,2,3,4,5,6,7,8,9,10]) rfl (by kernel_rfl) ?_
   refine yf 42 [0] rfl (oM · rfl) ?_
   obtain ⟨p8,hp8,h⟩ := bindo h
   refine yf 43 [42] rfl (oN · rfl hp8) ?_
   refine yf 44 [43] rfl (oF · Zz3 (by decide) rfl rfl) ?_
   obtain ⟨p9,hp9,h⟩ := bindo h
   refine yr 45 [44] rfl (oL · Zaec rfl rfl (Zxj hp9)) ?_
   try dsimp only [w0,w1,w2,w3]
   refine yf 46 [45] rfl (Zxg (q := Sl.a p9) (n := Sl.len p9) (z := Sl.cap p9) · rfl Zyr (.tmp rfl)) ?_
   refine yf 47 [0] rfl (oM · rfl) ?_
   obtain ⟨p10,hp10,h⟩ := bindo h
   refine yf 48 [47] rfl (oN · rfl hp10) ?_
   refine yf 49 [48] rfl (oF · fi120_0 (by decide) rfl rfl) ?_
   try dsimp only [w0,w1,w2,w3]
   obtain ⟨p11,hp11,h⟩ := bindo h
   refine yr 50 [49] rfl (oL · sc3 rfl rfl (Zxq hp11)) ?_
   refine yf 51 [46,50] rfl (oB · rfl rfl rfl) ?_
   refine yf 41 [51] rfl (oA · rfl) ?_
   refine Zx5 rfl ?_
   refine rE ?_
   try dsimp only [w0,w1,w2,w3]
   rcases ifc h with ⟨hc12,h⟩ | ⟨hc12,h⟩
   ·refine Zxb rfl (.tmp rfl) (decide_eq_true hc12) (qT rfl rfl rfl (qS 6 rfl (Zxa · (.int _ _)) (rE ?_)))
    cases h
    exact Zxl rfl at_.at_ rfl (res1 rfl rfl) ⟨rfl,rfl⟩
   ·obtain ⟨p13,hp13,h⟩ := bindo h
    refine Zxc rfl (.tmp rfl) (decide_eq_false hc12) (qR rfl rfl (uM 17 rfl rfl (uM 18 rfl rfl (uN 19 rfl rfl hp13 (uF 20 rfl Zz3 (by decide) rfl rfl ?_)))))
    try dsimp only [w0,w1,w2,w3]
    obtain ⟨p14,hp14,h⟩ := bindo h
    refine uL 21 rfl Zaec rfl rfl (Zxj hp14) (uM 22 rfl rfl (uM 23 rfl rfl (uM 24 rfl rfl ?_)))
    try dsimp only [w0,w1,w2,w3]
    obtain ⟨p15,hp15,h⟩ := leto h
    obtain ⟨p16,hp16,h⟩ := bindo h
    refine qS 25 rfl (Zy1 (is := [0,1]) (xs := [(.tmp 23),(.tmp 24)]) (r := [(.str x1),(.ptr x2)]) st133 · rfl rfl (ev2 rfl rfl) rfl) (qS 26 rfl (Zxp (xs := [(.tmp 25)]) Zab4 · rfl rfl (by decide) (ev1 rfl) rfl rfl hp15) (uQ 27 rfl (.func _) (ev3 rfl rfl rfl) (HInv.static Y92.at_ Y92.body (Y92.snd  hp16)) ?_))
    obtain ⟨p17,hp17,h⟩ := bindo h
    refine uN 28 rfl rfl hp17 ?_
    try dsimp only [w0,w1,w2,w3]
    obtain ⟨p18,hp18,h⟩ := bindo h
    refine uF 29 rfl Zz3 (by decide) rfl rfl (qN rfl (Zxk (v := (Sl.hv p16.1)) · sz118 (.tmp rfl) rfl (.tmp rfl) rfl hp18) (rE ?_))
    dsimp only [w0,w1,w2,w3]
    refine Zxf ?_
    try dsimp only [w0,w1,w2,w3]
    exact J0_snd hD hH h
end Y53
namespace Y44
theorem at_ : FnAt Tryz.prog 96 Tryz.f96 := ⟨Tryz.func96,by kernel_rfl⟩
def d0 := (Tryz.f96.body).getD .skip
def r1 := kT d0
def r3 := kT (kB d0)
def r5 := kT (kW d0)
def d6 := kW (kB d0)
def d9 := kX (kA d6)
def r11 := kT (kA d9)
def r17 := kT (kY d9)
def r19 := kT (kZ (kB d9))
def r21 := kT (kW (kY d9))
def r22 := kR (kW (kZ (kB d9)))
def r24 := kT (kB d6)
def c25 : Code := .ret
def c23 : Code := .seq (.region 8 r24 false) c25
def c9 : Code := .seq (.seq (.region 3 r11 false) (.cond (.tmp 17) .skip (.exit 0))) (.block 1 (.seq (.region 4 r17 false) (.seq (.region 5 r19 false) (.cond (.tmp 31) (.region 6 r21 false) (.region 7 r22 false)))))
def c0 : Code := .seq (.region 0 r1 false) (.seq (.region 1 r3 false) (.seq (.region 2 r5 false) (.seq (.block 0 (.loop c9)) c23)))
theorem body : Tryz.f96.body = some c0 := by kernel_rfl
def J1 (D : Dp) (H : Hd) (k : Nat) (y35 : Int) (y48 : Bool) (S : HS) : Option ((Int × Bool) × HS) :=
 some ((y35,y48),S)
theorem J1_snd (hD : DS b w D) (hH : HT b w e H) {y35 : Int} {y48 : Bool} {p : (Int × Bool) × HS} (h : J1 D H k y35 y48 S = some p) : HR b w e 96 none [.inRegion r24 [14,15],.code c25] ⟨[Ga,j,q,m,F,o,N,Gh,i,a,G,B,M,O,K,A,C,E,I,J,L,Q,U,V,Z,c,d,g,r,Kd,Ke,Kf,Kg,Kh,Ki,(.int .i64 y35),Kk,Kl,Km,Kn,Ko,Kp,Kq,Kr,Ks,Kt,Ku,Kv,(.bool y48)],[]⟩ S (RR (.tup [(.int .i64 p.1.1),(.bool p.1.2)]) p.2) := by
 unfold J1 at h
 refine uA 6 rfl rfl (uA 7 rfl rfl (rE ?_))
 cases h
 exact Zxl rfl at_.at_ rfl (res2 rfl rfl rfl) ⟨rfl,rfl⟩
def L0 (D : Dp) (H : Hd) (k : Nat) : Nat → Sl → Int → HV → Int → Int → Int → HS → Option ((Int × Bool) × HS)
 | 0,_,_,_,_,_,_,_ => none
 | n + 1,y0,y1,y2,y8,y9,y10,S =>
  (if y9 < y10 then
  ((S.idx y0 (w64 (Int.fdiv (IntKind.wrap .u64 (w64 (y9 + y10))) (2 ^ (min (Int.toNat 1) (IntKind.bits .u64))))) 3).bind fun p2 =>
  ((S.ldI .i64 (HA.fld p2 0)).bind fun p3 =>
  ((S.ldB (HA.fld p2 1)).bind fun p4 =>
  ((S.ldB (HA.fld p2 2)).bind fun p5 =>
  ((D H y2 [(.agg [(.int .i64 p3),(.bool p4),(.bool p5)]),(.int .i64 y1)] S).bind fun p6 =>
  ((dI .i64 p6.1).bind fun p7 =>
  (if p7 < 0 then
  (L0 D H k n) y0 y1 y2 y8 (w64 ((w64 (Int.fdiv (IntKind.wrap .u64 (w64 (y9 + y10))) (2 ^ (min (Int.toNat 1) (IntKind.bits .u64))))) + 1)) y10 p6.2 else
  (L0 D H k n) y0 y1 y2 y8 y9 (w64 (Int.fdiv (IntKind.wrap .u64 (w64 (y9 + y10))) (2 ^ (min (Int.toNat 1) (IntKind.bits .u64))))) p6.2))))))) else
  (if y9 < y8 then
  ((S.idx y0 y9 3).bind fun p10 =>
  ((S.ldI .i64 (HA.fld p10 0)).bind fun p11 =>
  ((S.ldB (HA.fld p10 1)).bind fun p12 =>
  ((S.ldB (HA.fld p10 2)).bind fun p13 =>
  ((D H y2 [(.agg [(.int .i64 p11),(.bool p12),(.bool p13)]),(.int .i64 y1)] S).bind fun p14 =>
  ((dI .i64 p14.1).bind fun p15 =>
  J1 D H k y9 (decide (p15 = 0)) p14.2)))))) else
  J1 D H k y9 false S))
theorem L0_snd (hD : DS b w D) (hH : HT b w e H) : ∀ {n : Nat} ⦃y0 : Sl⦄ ⦃y1 : Int⦄ ⦃y2 : HV⦄ ⦃y8 : Int⦄ ⦃y9 : Int⦄ ⦃y10 : Int⦄ ⦃S : HS⦄ ⦃p : (Int × Bool) × HS⦄ ⦃m F o N Gh B M O K A C E I J L Q U V Z c d g r Kd Ke Kf Kg Kh Ki Kj Kk Kl Km Kn Ko Kp Kq Kr Ks Kt Ku Kv Kw : HV⦄,L0 D H k n y0 y1 y2 y8 y9 y10 S = some p → HR b w e 96 none [.inLoop c9,.inBlock 0,.code c23] ⟨[(Sl.hv y0),(.int .i64 y1),y2,m,F,o,N,Gh,(.int .i64 y8),(.int .i64 y9),(.int .i64 y10),B,M,O,K,A,C,E,I,J,L,Q,U,V,Z,c,d,g,r,Kd,Ke,Kf,Kg,Kh,Ki,Kj,Kk,Kl,Km,Kn,Ko,Kp,Kq,Kr,Ks,Kt,Ku,Kv,Kw],[]⟩ S (RR (.tup [(.int .i64 p.1.1),(.bool p.1.2)]) p.2) := by
 intro n
 induction n with
 | zero => intro _ _ _ _ _ _ _ _ _ _ _ _ _ _ _ _ _ _ _ _ _ _ _ _ _ _ _ _ _ _ _ _ _ _ _ _ _ _ _ _ _ _ _ _ _ _ _ _ _ _ _ h; cases h
 | succ n ih =>
  intro y0 y1 y2 y8 y9 y10 S p m F o N Gh B M O K A C E I J L Q U V Z c d g r Kd Ke Kf Kg Kh Ki Kj Kk Kl Km Kn Ko Kp Kq Kr Ks Kt Ku Kv Kw h
  simp only [L0] at h
  refine Zxz (qQ rfl (qT rfl rfl rfl (uM 15 rfl rfl (uM 16 rfl rfl (uB 17 rfl rfl rfl rfl (rE ?_))))))
  dsimp only [w0,w1,w2,w3]
  rcases ifc h with ⟨hc1,h⟩ | ⟨hc1,h⟩
  ·refine Zxb rfl (.tmp rfl) (decide_eq_true hc1) (Zxd rfl (Zxo rfl (qT rfl rfl rfl (uM 18 rfl rfl (uM 19 rfl rfl (uB 20 rfl rfl rfl rfl (qS 21 rfl (Zy5 · tu3 Zafh (.tmp rfl)) ?_)))))))
   try dsimp only [w0,w1,w2,w3]
   refine qS 22 rfl (Zago · (.tmp rfl) (.int _ _) (by decide)) (qS 23 rfl (Zy5 · Zafh tu3 (.tmp rfl)) (uA 11 rfl rfl (rE ?_)))
   dsimp only [w0,w1,w2,w3]
   obtain ⟨p2,hp2,h⟩ := bindo h
   refine qT rfl rfl rfl (uM 24 rfl rfl (uM 25 rfl rfl (uM 26 rfl rfl (qS 27 rfl (oX (s := y0) · tu87 sz62 rfl rfl hp2) ?_))))
   try dsimp only [w0,w1,w2,w3]
   obtain ⟨p3,hp3,p4,hp4,p5,hp5,p6,hp6,h⟩ := bd4 h
   obtain ⟨p7,hp7,h⟩ := bindo h
   refine qS 28 rfl (Zyl (vs := [(.int .i64 p3),(.bool p4),(.bool p5)]) · ia62 (.tmp rfl) rfl ⟨Zxq hp3,Zya hp4,Zya hp5,trivial⟩ (by simp)) (uM 29 rfl rfl (uQ 30 rfl (.tmp rfl) (ev2 rfl rfl) (hD _ _ hH _ _ _ _ _ hp6) ?_))
   rw [Zaa2 hp7]
   refine uC 31 rfl rfl rfl (rE ?_)
   dsimp only [w0,w1,w2,w3]
   rcases ifc h with ⟨hc8,h⟩ | ⟨hc8,h⟩
   ·refine Zxb rfl (.tmp rfl) (decide_eq_true hc8) (qR rfl rfl (uM 32 rfl rfl (uC 33 rfl rfl rfl (uA 9 rfl rfl (rE ?_)))))
    dsimp only [w0,w1,w2,w3]
    refine Zxf ?_
    try dsimp only [w0,w1,w2,w3]
    exact ih h
   ·refine Zxc rfl (.tmp rfl) (decide_eq_false hc8) (qR rfl rfl (uM 34 rfl rfl (uA 10 rfl rfl (rE ?_))))
    dsimp only [w0,w1,w2,w3]
    refine Zxf ?_
    try dsimp only [w0,w1,w2,w3]
    exact ih h
  ·refine Zxc rfl (.tmp rfl) (decide_eq_false hc1) (Zyh rfl rfl (qT rfl rfl rfl (uM 35 rfl rfl (uM 36 rfl rfl (uM 37 rfl rfl (uB 38 rfl rfl rfl rfl ?_))))))
   try dsimp only [w0,w1,w2,w3]
   refine uM 39 rfl rfl ?_
   rcases ifc h with ⟨hc9,h⟩ | ⟨hc9,h⟩
   ·refine qG 39 40 rfl (decide_eq_true hc9) (oM · rfl) (qG 39 41 rfl (decide_eq_true hc9) (oM · rfl) (qG 39 42 rfl (decide_eq_true hc9) (oM · rfl) ?_))
    try dsimp only [w0,w1,w2,w3]
    obtain ⟨p10,hp10,p11,hp11,p12,hp12,p13,hp13,h⟩ := bd4 h
    obtain ⟨p14,hp14,p15,hp15,h⟩ := bd2 h
    refine qG 39 43 rfl (decide_eq_true hc9) (oX (s := y0) · tu87 sz62 rfl rfl hp10) (qG 39 44 rfl (decide_eq_true hc9) (Zyl (vs := [(.int .i64 p11),(.bool p12),(.bool p13)]) · ia62 (.tmp rfl) rfl ⟨Zxq hp11,Zya hp12,Zya hp13,trivial⟩ (by simp)) (qG 39 45 rfl (decide_eq_true hc9) (oM · rfl) (Zyp (t := 39) (dst := some 46) rfl rfl rfl (decide_eq_true hc9) (.tmp rfl) (ev2 rfl rfl) (hD _ _ hH _ _ _ _ _ hp14) ?_)))
    rintro _ _ ⟨rfl,rfl⟩
    rw [Zaa2 hp15]
    try dsimp only [w0,w1,w2,w3]
    refine qG 39 47 rfl (decide_eq_true hc9) (oC · rfl rfl) (qS 48 rfl (Zxh · (.tmp rfl) (decide_eq_true hc9) (.tmp rfl)) ?_)
    try dsimp only [w0,w1,w2,w3]
    exact J1_snd hD hH h
   ·refine Zxi (dst := some 40) (t := 39) rfl rfl rfl (decide_eq_false hc9) (Zxi (dst := some 41) (t := 39) rfl rfl rfl (decide_eq_false hc9) (Zxi (dst := some 42) (t := 39) rfl rfl rfl (decide_eq_false hc9) ?_))
    try dsimp only [w0,w1,w2,w3]
    refine Zxi (dst := some 43) (t := 39) rfl rfl rfl (decide_eq_false hc9) (Zxi (dst := some 44) (t := 39) rfl rfl rfl (decide_eq_false hc9) (Zxi (dst := some 45) (t := 39) rfl rfl rfl (decide_eq_false hc9) (Zxi (dst := some 46) (t := 39) rfl rfl rfl (decide_eq_false hc9) ?_)))
    try dsimp only [w0,w1,w2,w3]
    refine Zxi (dst := some 47) (t := 39) rfl rfl rfl (decide_eq_false hc9) (qS 48 rfl (Zxm · (.tmp rfl) (decide_eq_false hc9) (.bool _)) ?_)
    try dsimp only [w0,w1,w2,w3]
    exact J1_snd hD hH h
def f (D : Dp) (H : Hd) (k : Nat) (x0 : Sl) (x1 : Int) (x2 : HV) (S : HS) : Option ((Int × Bool) × HS) :=
 L0 D H k k x0 x1 x2 (Sl.len x0 : Int) 0 (Sl.len x0 : Int) S
theorem snd {x0 : Sl} {x1 : Int} {x2 : HV} (hD : DS b w D) (hH : HT b w e H) {p : (Int × Bool) × HS} (h : f D H k x0 x1 x2 S = some p) : HC b w e 96 [(Sl.hv x0),(.int .i64 x1),x2] S (RR (.tup [(.int .i64 p.1.1),(.bool p.1.2)]) p.2) := by
 unfold f at h
 refine HCall.of_run at_.at_ body ?_
 show HR b w e 96 none [.code c0] ⟨[(Sl.hv x0),(.int .i64 x1),x2,z,z,z,z,z,z,z,z,z,z,z,z,z,z,z,z,z,z,z,z,z,z,z,z,z,z,z,z,z,z,z,z,z,z,z,z,z,z,z,z,z,z,z,z,z,z],[]⟩ S _
 refine qT rfl rfl rfl (qS 6 rfl (Zxa · (.int _ _)) (qS 7 rfl (Zxa · (.bool _)) (rE ?_)))
 dsimp only [w0,w1,w2,w3]
 refine qT rfl rfl rfl (uM 12 rfl rfl (qS 13 rfl (Zxg (q := Sl.a x0) (n := Sl.len x0) (z := Sl.cap x0) · rfl tu87 (.tmp rfl)) (uA 8 rfl rfl (rE ?_))))
 dsimp only [w0,w1,w2,w3]
 refine qT rfl rfl rfl (uM 14 rfl rfl (qS 9 rfl (Zxa · (.int _ _)) (uA 10 rfl rfl (rE ?_))))
 dsimp only [w0,w1,w2,w3]
 refine qQ rfl (Zxo rfl (Zye rfl ?_))
 try dsimp only [w0,w1,w2,w3]
 exact L0_snd hD hH h
end Y44
namespace Y74
theorem at_ : FnAt Tryz.prog 98 Tryz.f98 := ⟨Tryz.func98,by kernel_rfl⟩
def d0 := (Tryz.f98.body).getD .skip
def r1 := kT d0
def r3 := kT (kB d0)
def r5 := kT (kW d0)
def d6 := kW (kB d0)
def r8 := kT (kA d6)
def r12 := kT (kX (kZ d6))
def r15 := kT (kY (kX (kZ d6)))
def r19 := kT (kZ (kZ d6))
def r24 := kT (kY d6)
def r27 := kT (kY (kY d6))
def r32 := kT (kY (kB d6))
def r35 := kT (kY (kY (kB d6)))
def r40 := kT (kY (kW d6))
def r43 := kT (kY (kY (kW d6)))
def r47 := kT (kW (kW d6))
def c0 : Code := .seq (.region 0 r1 false) (.seq (.region 1 r3 false) (.seq (.region 2 r5 false) (.seq (.seq (.region 3 r8 false) (.cond (.tmp 11) (.seq (.seq (.region 4 r12 false) (.cond (.tmp 12) (.seq (.region 5 r15 false) .ret) .skip)) (.seq (.region 6 r19 false) .ret)) .skip)) (.seq (.seq (.region 7 r24 false) (.cond (.tmp 13) (.seq (.region 8 r27 false) .ret) .skip)) (.seq (.seq (.region 9 r32 false) (.cond (.tmp 16) (.seq (.region 10 r35 false) .ret) .skip)) (.seq (.seq (.region 11 r40 false) (.cond (.tmp 19) (.seq (.region 12 r43 false) .ret) .skip)) (.seq (.region 13 r47 false) .ret)))))))
theorem body : Tryz.f98.body = some c0 := by kernel_rfl
def f (x0 : Int) (x1 : Int) : Option (Int) :=
 ((Y8.f x0).bind fun p1 =>
 ((Y8.f x1).bind fun p2 =>
 (if p1 = true then
 (if p2 = true then
 some 0 else
 some (-1)) else
 (if p2 = true then
 some 1 else
 (if x0 < x1 then
 some (-1) else
 (if x0 > x1 then
 some 1 else
 some 0))))))
theorem snd {x0 : Int} {x1 : Int}  {p : Int} (h : f x0 x1 = some p) : HC b w e 98 [(.int .i64 x0),(.int .i64 x1)] S (RR (.int .i64 p) S) := by
 unfold f at h
 refine HCall.of_run at_.at_ body ?_
 show HR b w e 98 none [.code c0] ⟨[(.int .i64 x0),(.int .i64 x1),z,z,z,z,z,z,z,z,z,z,z,z,z,z,z,z,z,z],[]⟩ S _
 refine qT rfl rfl rfl (qS 4 rfl (Zxa · (.int _ _)) (rE ?_))
 dsimp only [w0,w1,w2,w3]
 obtain ⟨p1,hp1,h⟩ := bindo h
 refine qT rfl rfl rfl (uM 7 rfl rfl (uQ 8 rfl (.func _) (ev1 rfl) (HInv.static Y8.at_ Y8.body (Y8.snd  hp1)) (uA 5 rfl rfl (rE ?_))))
 dsimp only [w0,w1,w2,w3]
 obtain ⟨p2,hp2,h⟩ := bindo h
 refine qT rfl rfl rfl (uM 9 rfl rfl (uQ 10 rfl (.func _) (ev1 rfl) (HInv.static Y8.at_ Y8.body (Y8.snd  hp2)) (uA 6 rfl rfl (rE ?_))))
 dsimp only [w0,w1,w2,w3]
 refine qQ rfl (qT rfl rfl rfl (uM 11 rfl rfl (rE ?_)))
 dsimp only [w0,w1,w2,w3]
 rcases ifc h with ⟨hc3,h⟩ | ⟨hc3,h⟩
 ·refine Zxb rfl (.tmp rfl) hc3 (qQ rfl (qT rfl rfl rfl (uM 12 rfl rfl (rE ?_))))
  dsimp only [w0,w1,w2,w3]
  rcases ifc h with ⟨hc4,h⟩ | ⟨hc4,h⟩
  ·refine Zxb rfl (.tmp rfl) hc4 (qT rfl rfl rfl (qS 4 rfl (Zxa · (.int _ _)) (rE ?_)))
   cases h
   exact Zxl rfl at_.at_ rfl (res1 rfl rfl) ⟨rfl,rfl⟩
  ·refine Zxc rfl (.tmp rfl) (bfalse hc4) (Zxd rfl (qT rfl rfl rfl (qS 4 rfl (Zxa · (.int _ _)) (rE ?_))))
   cases h
   exact Zxl rfl at_.at_ rfl (res1 rfl rfl) ⟨rfl,rfl⟩
 ·refine Zxc rfl (.tmp rfl) (bfalse hc3) (Zxd rfl (qQ rfl (qT rfl rfl rfl (uM 13 rfl rfl (rE ?_)))))
  dsimp only [w0,w1,w2,w3]
  rcases ifc h with ⟨hc5,h⟩ | ⟨hc5,h⟩
  ·refine Zxb rfl (.tmp rfl) hc5 (qT rfl rfl rfl (qS 4 rfl (Zxa · (.int _ _)) (rE ?_)))
   cases h
   exact Zxl rfl at_.at_ rfl (res1 rfl rfl) ⟨rfl,rfl⟩
  ·refine Zxc rfl (.tmp rfl) (bfalse hc5) (Zxd rfl (qQ rfl (qT rfl rfl rfl (uM 14 rfl rfl (uM 15 rfl rfl (uB 16 rfl rfl rfl rfl (rE ?_)))))))
   dsimp only [w0,w1,w2,w3]
   rcases ifc h with ⟨hc6,h⟩ | ⟨hc6,h⟩
   ·refine Zxb rfl (.tmp rfl) (decide_eq_true hc6) (qT rfl rfl rfl (qS 4 rfl (Zxa · (.int _ _)) (rE ?_)))
    cases h
    exact Zxl rfl at_.at_ rfl (res1 rfl rfl) ⟨rfl,rfl⟩
   ·refine Zxc rfl (.tmp rfl) (decide_eq_false hc6) (Zxd rfl (qQ rfl (qT rfl rfl rfl (uM 17 rfl rfl (uM 18 rfl rfl (uB 19 rfl rfl rfl rfl (rE ?_)))))))
    dsimp only [w0,w1,w2,w3]
    rcases ifc h with ⟨hc7,h⟩ | ⟨hc7,h⟩
    ·refine Zxb rfl (.tmp rfl) (decide_eq_true hc7) (qT rfl rfl rfl (qS 4 rfl (Zxa · (.int _ _)) (rE ?_)))
     cases h
     exact Zxl rfl at_.at_ rfl (res1 rfl rfl) ⟨rfl,rfl⟩
    ·refine Zxc rfl (.tmp rfl) (decide_eq_false hc7) (Zxd rfl (qT rfl rfl rfl (qS 4 rfl (Zxa · (.int _ _)) (rE ?_))))
     cases h
     exact Zxl rfl at_.at_ rfl (res1 rfl rfl) ⟨rfl,rfl⟩
end Y74
namespace Y98
theorem at_ : FnAt Tryz.prog 97 Tryz.f97 := ⟨Tryz.func97,by kernel_rfl⟩
def d0 := (Tryz.f97.body).getD .skip
def r1 := kT d0
def r3 := kT (kB d0)
def c0 : Code := .seq (.region 0 r1 false) (.seq (.region 1 r3 false) .ret)
theorem body : Tryz.f97.body = some c0 := by kernel_rfl
def f (x0_0 : Int) (x0_1 : Bool) (x0_2 : Bool) (x1 : Int) (S : HS) : Option ((Int) × HS) :=
 (letv (HS.new S (.cells 3 [[(.int .i64 x0_0),(.bool x0_1),(.bool x0_2)]] true)) fun p1 =>
 ((p1.ldI .i64 (HA.fld (HA.cell0 S.next) 0)).bind fun p2 =>
 ((Y74.f p2 x1).bind fun p3 =>
 some (p3,p1))))
theorem snd {x0_0 : Int} {x0_1 : Bool} {x0_2 : Bool} {x1 : Int}  {p : (Int) × HS} (h : f x0_0 x0_1 x0_2 x1 S = some p) : HC b w e 97 [(.agg [(.int .i64 x0_0),(.bool x0_1),(.bool x0_2)]),(.int .i64 x1)] S (RR (.int .i64 p.1) p.2) := by
 unfold f at h
 refine HCall.of_run at_.at_ body ?_
 show HR b w e 97 none [.code c0] ⟨[(.agg [(.int .i64 x0_0),(.bool x0_1),(.bool x0_2)]),(.int .i64 x1),z,z,z,z,z,z,z],[]⟩ S _
 obtain ⟨p1,hp1,h⟩ := leto h
 refine qT rfl rfl rfl (qS 2 rfl (Zyf · (.tmp rfl) (Yav _) rfl hp1) (qS 4 rfl (Zxa · (.int _ _)) (rE ?_)))
 dsimp only [w0,w1,w2,w3]
 obtain ⟨p2,hp2,p3,hp3,h⟩ := bd2 h
 refine qT rfl rfl rfl (uF 5 rfl Zag7 (by decide) rfl rfl (uL 6 rfl sc3 rfl rfl (Zxq hp2) (uM 7 rfl rfl (uQ 8 rfl (.func _) (ev2 rfl rfl) (HInv.static Y74.at_ Y74.body (Y74.snd  hp3)) ?_))))
 try dsimp only [w0,w1,w2,w3]
 refine uA 4 rfl rfl (rE ?_)
 cases h
 exact Zxl rfl at_.at_ rfl (res1 rfl rfl) ⟨rfl,rfl⟩
end Y98
namespace Y22
theorem at_ : FnAt Tryz.prog 65 Tryz.f65 := ⟨Tryz.func65,by kernel_rfl⟩
def d0 := (Tryz.f65.body).getD .skip
def r1 := kT d0
def r4 := kT (kY d0)
def r7 := kT (kY (kY d0))
def r11 := kT (kW d0)
def c0 : Code := .seq (.region 0 r1 false) (.seq (.seq (.region 1 r4 false) (.cond (.tmp 7) (.seq (.region 2 r7 false) .ret) .skip)) (.seq (.region 3 r11 false) .ret))
theorem body : Tryz.f65.body = some c0 := by kernel_rfl
def f (D : Dp) (H : Hd) (k : Nat) (x0 : HP) (x1 : Int) (S : HS) : Option ((Int × Bool) × HS) :=
 (if (Option.isNone x0) = true then
 some ((0,false),S) else
 (x0.bind fun p2 =>
 ((S.ldSl (HA.fld p2 2)).bind fun p3 =>
 ((Y44.f D H k p3 x1 (HV.fn (.func 97) [] []) S).bind fun p4 =>
 some ((p4.1.1,p4.1.2),p4.2)))))
theorem snd {x0 : HP} {x1 : Int} (hD : DS b w D) (hH : HT b w e H) {p : (Int × Bool) × HS} (h : f D H k x0 x1 S = some p) : HC b w e 65 [(.ptr x0),(.int .i64 x1)] S (RR (.tup [(.int .i64 p.1.1),(.bool p.1.2)]) p.2) := by
 unfold f at h
 refine HCall.of_run at_.at_ body ?_
 show HR b w e 65 none [.code c0] ⟨[(.ptr x0),(.int .i64 x1),z,z,z,z,z,z,z,z,z,z,z,z,z,z],[]⟩ S _
 refine qT rfl rfl rfl (qS 4 rfl (Zxa · (.int _ _)) (qS 5 rfl (Zxa · (.bool _)) (rE ?_)))
 dsimp only [w0,w1,w2,w3]
 refine qQ rfl (qT rfl rfl rfl (uM 6 rfl rfl (qS 7 rfl (Zxt · tu36 (.tmp rfl) (.inl ⟨rfl,rfl⟩)) (rE ?_))))
 dsimp only [w0,w1,w2,w3]
 rcases ifc h with ⟨hc1,h⟩ | ⟨hc1,h⟩
 ·refine Zxb rfl (.tmp rfl) hc1 (qT rfl rfl rfl (qS 4 rfl (Zxa · (.int _ _)) (qS 5 rfl (Zxa · (.bool _)) (rE ?_))))
  cases h
  exact Zxl rfl at_.at_ rfl (res2 rfl rfl rfl) ⟨rfl,rfl⟩
 ·obtain ⟨p2,hp2,p3,hp3,h⟩ := bd2 h
  refine Zxc rfl (.tmp rfl) (bfalse hc1) (Zxd rfl (qT rfl rfl rfl (uM 8 rfl rfl (uN 9 rfl rfl hp2 (uF 10 rfl Zaav (by decide) rfl rfl (uL 11 rfl sc87 rfl rfl (Zxj hp3) ?_))))))
  try dsimp only [w0,w1,w2,w3]
  obtain ⟨p4,hp4,h⟩ := bindo h
  refine uM 12 rfl rfl (uQ 13 rfl (.func _) (.cons (.tmp rfl) (.cons (.tmp rfl) (.cons (.func _) Evs.nil))) (HInv.static Y44.at_ Y44.body (Y44.snd hD hH hp4)) (qS 14 rfl (Zxr · (.tmp rfl) rfl) (qS 15 rfl (Zxr · (.tmp rfl) rfl) ?_)))
  try dsimp only [w0,w1,w2,w3]
  refine uA 4 rfl rfl (uA 5 rfl rfl (rE ?_))
  cases h
  exact Zxl rfl at_.at_ rfl (res2 rfl rfl rfl) ⟨rfl,rfl⟩
end Y22
namespace Y26
theorem at_ : FnAt Tryz.prog 136 Tryz.f136 := ⟨Tryz.func136,by kernel_rfl⟩
def d0 := (Tryz.f136.body).getD .skip
def r1 := kT d0
def r6 := kT (kX (kY d0))
def r12 := kT (kY (kX (kB d0)))
def r13 := kR (kW (kX (kB d0)))
def c4 : Code := .seq (.seq (.region 1 r6 false) (.cond (.tmp 9) .skip (.exit 0))) (.seq (.block 1 (.region 3 r12 true)) (.region 2 r13 false))
def c0 : Code := .seq (.region 0 r1 false) (.block 0 (.loop c4))
theorem body : Tryz.f136.body = some c0 := by kernel_rfl
def L0 (k : Nat) : Nat → Sl → Int → Int → HS → Option ((Unit) × HS)
 | 0,_,_,_,_ => none
 | n + 1,y0,y2,y3,S =>
  (if y2 < y3 then
  ((S.idx y0 y3 3).bind fun p2 =>
  ((S.ldI .i64 (HA.fld p2 0)).bind fun p3 =>
  ((S.ldB (HA.fld p2 1)).bind fun p4 =>
  ((S.ldB (HA.fld p2 2)).bind fun p5 =>
  ((S.idx y0 y2 3).bind fun p6 =>
  ((S.ldI .i64 (HA.fld p6 0)).bind fun p7 =>
  ((S.ldB (HA.fld p6 1)).bind fun p8 =>
  ((S.ldB (HA.fld p6 2)).bind fun p9 =>
  ((S.idx y0 y2 3).bind fun p10 =>
  ((S.sets p10 [(.int .i64 p3),(.bool p4),(.bool p5)]).bind fun p11 =>
  ((p11.idx y0 y3 3).bind fun p12 =>
  ((p11.sets p12 [(.int .i64 p7),(.bool p8),(.bool p9)]).bind fun p13 =>
  (L0 k n) y0 (w64 (y2 + 1)) (w64 (y3 - 1)) p13)))))))))))) else
  some ((),S))
theorem L0_snd  : ∀ {n : Nat} ⦃y0 : Sl⦄ ⦃y2 : Int⦄ ⦃y3 : Int⦄ ⦃S : HS⦄ ⦃p : (Unit) × HS⦄ ⦃j F o N Gh i a G B M O K A C E I J L Q U V Z c d g : HV⦄,L0 k n y0 y2 y3 S = some p → HR b w e 136 none [.inLoop c4,.inBlock 0] ⟨[(Sl.hv y0),j,(.int .i64 y2),(.int .i64 y3),F,o,N,Gh,i,a,G,B,M,O,K,A,C,E,I,J,L,Q,U,V,Z,c,d,g],[]⟩ S (RR (.tup []) p.2) := by
 intro n
 induction n with
 | zero => intro _ _ _ _ _ _ _ _ _ _ _ _ _ _ _ _ _ _ _ _ _ _ _ _ _ _ _ _ _ _ h; cases h
 | succ n ih =>
  intro y0 y2 y3 S p j F o N Gh i a G B M O K A C E I J L Q U V Z c d g h
  simp only [L0] at h
  refine Zxz (qQ rfl (qT rfl rfl rfl (uM 7 rfl rfl (uM 8 rfl rfl (uB 9 rfl rfl rfl rfl (rE ?_))))))
  dsimp only [w0,w1,w2,w3]
  rcases ifc h with ⟨hc1,h⟩ | ⟨hc1,h⟩
  ·refine Zxb rfl (.tmp rfl) (decide_eq_true hc1) (Zxd rfl (qQ rfl (Zxo rfl ?_)))
   refine Zx8 (cls := [0,0,0,0,0,0,1,1,0,0,1,1,1,2,1,2]) (rk := [0,1,12,13,2,3,4,5,6,7,8,9,10,11,14,15]) rfl (by kernel_rfl) ?_
   refine yf 14 [0] rfl (oM · rfl) ?_
   refine yf 15 [2] rfl (oM · rfl) ?_
   refine yf 16 [0] rfl (oM · rfl) ?_
   refine yf 17 [3] rfl (oM · rfl) ?_
   try dsimp only [w0,w1,w2,w3]
   refine yf 18 [0] rfl (oM · rfl) ?_
   refine yf 19 [3] rfl (oM · rfl) ?_
   obtain ⟨p2,hp2,h⟩ := bindo h
   refine yr 20 [18,19] rfl (oX (s := y0) · tu87 sz62 rfl rfl hp2) ?_
   obtain ⟨p3,hp3,p4,hp4,p5,hp5,h⟩ := bd3 h
   refine yr 21 [20] rfl (Zyl (vs := [(.int .i64 p3),(.bool p4),(.bool p5)]) · ia62 (.tmp rfl) rfl ⟨Zxq hp3,Zya hp4,Zya hp5,trivial⟩ (by simp)) ?_
   try dsimp only [w0,w1,w2,w3]
   refine yf 22 [0] rfl (oM · rfl) ?_
   refine yf 23 [2] rfl (oM · rfl) ?_
   obtain ⟨p6,hp6,h⟩ := bindo h
   refine yr 24 [22,23] rfl (oX (s := y0) · tu87 sz62 rfl rfl hp6) ?_
   obtain ⟨p7,hp7,p8,hp8,p9,hp9,h⟩ := bd3 h
   refine yr 25 [24] rfl (Zyl (vs := [(.int .i64 p7),(.bool p8),(.bool p9)]) · ia62 (.tmp rfl) rfl ⟨Zxq hp7,Zya hp8,Zya hp9,trivial⟩ (by simp)) ?_
   try dsimp only [w0,w1,w2,w3]
   obtain ⟨p10,hp10,h⟩ := bindo h
   refine yr 26 [14,15] rfl (oX (s := y0) · tu87 sz62 rfl rfl hp10) ?_
   obtain ⟨p11,hp11,h⟩ := bindo h
   refine x_go (e_op (dst := none) (ts := [26,21]) rfl (by intro _ _ h; cases h) (by kernel_rfl) (fun _ ho => Zxk (v := (.agg [(.int .i64 p3),(.bool p4),(.bool p5)])) ho sz62 (.tmp rfl) rfl (.tmp rfl) rfl hp11)) rfl ?_
   obtain ⟨p12,hp12,h⟩ := bindo h
   refine yr 27 [16,17] rfl (oX (s := y0) · tu87 sz62 rfl rfl hp12) ?_
   obtain ⟨p13,hp13,h⟩ := bindo h
   refine x_go (e_op (dst := none) (ts := [27,25]) rfl (by intro _ _ h; cases h) (by kernel_rfl) (fun _ ho => Zxk (v := (.agg [(.int .i64 p7),(.bool p8),(.bool p9)])) ho sz62 (.tmp rfl) rfl (.tmp rfl) rfl hp13)) rfl ?_
   refine Zx5 rfl ?_
   refine rE ?_
   try dsimp only [w0,w1,w2,w3]
   refine Zxf (qR rfl rfl (uM 10 rfl rfl (uC 11 rfl rfl rfl (uM 12 rfl rfl (uC 13 rfl rfl rfl ?_)))))
   try dsimp only [w0,w1,w2,w3]
   refine uA 2 rfl rfl (uA 3 rfl rfl (rE ?_))
   dsimp only [w0,w1,w2,w3]
   exact ih h
  ·cases h
   exact Zxc rfl (.tmp rfl) (decide_eq_false hc1) (Zyh rfl rfl (Zzq at_.at_ rfl (res0 rfl) ⟨rfl,rfl⟩))
def f (k : Nat) (x0 : Sl) (S : HS) : Option ((Unit) × HS) :=
 L0 k k x0 0 (w64 ((Sl.len x0 : Int) - 1)) S
theorem snd {x0 : Sl}  {p : (Unit) × HS} (h : f k x0 S = some p) : HC b w e 136 [(Sl.hv x0)] S (RR (.tup []) p.2) := by
 unfold f at h
 refine HCall.of_run at_.at_ body ?_
 show HR b w e 136 none [.code c0] ⟨[(Sl.hv x0),z,z,z,z,z,z,z,z,z,z,z,z,z,z,z,z,z,z,z,z,z,z,z,z,z,z,z],[]⟩ S _
 refine qT rfl rfl rfl (uM 4 rfl rfl (qS 5 rfl (Zxg (q := Sl.a x0) (n := Sl.len x0) (z := Sl.cap x0) · rfl tu87 (.tmp rfl)) (uC 6 rfl rfl rfl (qS 2 rfl (Zxa · (.int _ _)) ?_))))
 try dsimp only [w0,w1,w2,w3]
 refine uA 3 rfl rfl (rE ?_)
 dsimp only [w0,w1,w2,w3]
 refine Zxo rfl (Zye rfl ?_)
 try dsimp only [w0,w1,w2,w3]
 exact L0_snd  h
end Y26
namespace Y121
theorem at_ : FnAt Tryz.prog 128 Tryz.f128 := ⟨Tryz.func128,by kernel_rfl⟩
def d0 := (Tryz.f128.body).getD .skip
def r1 := kT d0
def r3 := kT (kB d0)
def r4 := kR (kW d0)
def c0 : Code := .seq (.region 0 r1 false) (.seq (.region 1 r3 false) (.region 2 r4 false))
theorem body : Tryz.f128.body = some c0 := by kernel_rfl
def f (k : Nat) (x0 : Sl) (x1 : Int) (S : HS) : Option ((Unit) × HS) :=
 ((S.cut x0 0 x1 3).bind fun p1 =>
 ((Y26.f k p1 S).bind fun p2 =>
 ((p2.2.cut x0 x1 (Sl.len x0 : Int) 3).bind fun p3 =>
 ((Y26.f k p3 p2.2).bind fun p4 =>
 ((Y26.f k x0 p4.2).bind fun p5 =>
 some ((),p5.2))))))
theorem snd {x0 : Sl} {x1 : Int}  {p : (Unit) × HS} (h : f k x0 x1 S = some p) : HC b w e 128 [(Sl.hv x0),(.int .i64 x1)] S (RR (.tup []) p.2) := by
 unfold f at h
 refine HCall.of_run at_.at_ body ?_
 show HR b w e 128 none [.code c0] ⟨[(Sl.hv x0),(.int .i64 x1),z,z,z,z,z,z,z,z,z,z,z,z],[]⟩ S _
 obtain ⟨p1,hp1,p2,hp2,h⟩ := bd2 h
 refine qT rfl rfl rfl (uM 4 rfl rfl (uM 5 rfl rfl (qS 6 rfl (Zxn (kl := .i64) (kh := .i64) (s := x0) (l := 0) (h := x1) · tu87 si62 (.tmp rfl) (.inl ⟨rfl,rfl⟩) (.inr ⟨_,rfl,(.tmp rfl)⟩) hp1) (uQ 7 rfl (.func _) (ev1 rfl) (HInv.static Y26.at_ Y26.body (Y26.snd  hp2)) (rE ?_)))))
 dsimp only [w0,w1,w2,w3]
 obtain ⟨p3,hp3,p4,hp4,h⟩ := bd2 h
 refine qT rfl rfl rfl (uM 8 rfl rfl (uM 9 rfl rfl (qS 10 rfl (Zxn (kl := .i64) (kh := .i64) (s := x0) (l := x1) (h := (Sl.len x0 : Int)) · tu87 si62 (.tmp rfl) (.inr ⟨_,rfl,(.tmp rfl)⟩) (.inl ⟨rfl,rfl⟩) hp3) (uQ 11 rfl (.func _) (ev1 rfl) (HInv.static Y26.at_ Y26.body (Y26.snd  hp4)) (rE ?_)))))
 dsimp only [w0,w1,w2,w3]
 obtain ⟨p5,hp5,h⟩ := bindo h
 refine qR rfl rfl (uM 12 rfl rfl (uQ 13 rfl (.func _) (ev1 rfl) (HInv.static Y26.at_ Y26.body (Y26.snd  hp5)) (rE ?_)))
 dsimp only [w0,w1,w2,w3]
 cases h
 exact Zzq at_.at_ rfl (res0 rfl) ⟨rfl,rfl⟩
end Y121
namespace Y90
theorem at_ : FnAt Tryz.prog 111 Tryz.f111 := ⟨Tryz.func111,by kernel_rfl⟩
def d0 := (Tryz.f111.body).getD .skip
def r0 := kR d0
def c0 : Code := .region 0 r0 false
theorem body : Tryz.f111.body = some c0 := by kernel_rfl
def f (k : Nat) (x0 : Sl) (x1 : Int) (S : HS) : Option ((Unit) × HS) :=
 ((Y121.f k x0 (w64 ((Sl.len x0 : Int) - x1)) S).bind fun p1 =>
 some ((),p1.2))
theorem snd {x0 : Sl} {x1 : Int}  {p : (Unit) × HS} (h : f k x0 x1 S = some p) : HC b w e 111 [(Sl.hv x0),(.int .i64 x1)] S (RR (.tup []) p.2) := by
 unfold f at h
 refine HCall.of_run at_.at_ body ?_
 show HR b w e 111 none [.code c0] ⟨[(Sl.hv x0),(.int .i64 x1),z,z,z,z,z,z,z,z],[]⟩ S _
 refine qR rfl rfl (uM 4 rfl rfl (uM 5 rfl rfl (qS 6 rfl (Zxg (q := Sl.a x0) (n := Sl.len x0) (z := Sl.cap x0) · rfl tu87 (.tmp rfl)) (uM 7 rfl rfl ?_))))
 try dsimp only [w0,w1,w2,w3]
 obtain ⟨p1,hp1,h⟩ := bindo h
 refine uB 8 rfl rfl rfl rfl (uQ 9 rfl (.func _) (ev2 rfl rfl) (HInv.static Y121.at_ Y121.body (Y121.snd  hp1)) (rE ?_))
 dsimp only [w0,w1,w2,w3]
 cases h
 exact Zzq at_.at_ rfl (res0 rfl) ⟨rfl,rfl⟩
end Y90
namespace Y110
theorem at_ : FnAt Tryz.prog 78 Tryz.f78 := ⟨Tryz.func78,by kernel_rfl⟩
def d0 := (Tryz.f78.body).getD .skip
def r1 := kT d0
def r3 := kT (kB d0)
def r5 := kT (kW d0)
def d6 := kW (kB d0)
def r8 := kT (kA d6)
def r11 := kT (kY (kA d6))
def r15 := kT (kB d6)
def r18 := kT (kY (kB d6))
def r21 := kT (kY (kY (kB d6)))
def d24 := kW (kB d6)
def r26 := kT (kA d24)
def d28 := kY (kA d24)
def r29 := kT d28
def r31 := kT (kB d28)
def r33 := kT (kW d28)
def r35 := kT (kW (kB d28))
def r39 := kT (kB d24)
def d41 := kY (kB d24)
def r42 := kT d41
def r45 := kT (kY d41)
def r47 := kT (kZ (kB d41))
def r49 := kT (kW (kY d41))
def r53 := kT (kW (kB d24))
def r55 := kT (kW (kW d24))
def r57 := kT (kW (kW (kB d24)))
def c0 : Code := .seq (.region 0 r1 false) (.seq (.region 1 r3 false) (.seq (.region 2 r5 false) (.seq (.seq (.region 3 r8 false) (.cond (.tmp 16) (.seq (.region 4 r11 false) .ret) .skip)) (.seq (.region 5 r15 false) (.seq (.seq (.region 6 r18 false) (.cond (.tmp 22) (.seq (.region 7 r21 false) .ret) .skip)) (.seq (.seq (.region 8 r26 false) (.cond (.tmp 31) (.seq (.region 9 r29 false) (.seq (.region 10 r31 false) (.seq (.region 11 r33 true) (.seq (.region 12 r35 false) .ret)))) .skip)) (.seq (.region 13 r39 false) (.seq (.seq (.region 14 r42 false) (.cond (.tmp 68) (.seq (.region 15 r45 true) (.seq (.region 16 r47 false) (.seq (.region 17 r49 false) .ret))) .skip)) (.seq (.region 18 r53 false) (.seq (.region 19 r55 false) (.seq (.region 20 r57 false) .ret)))))))))))
theorem body : Tryz.f78.body = some c0 := by kernel_rfl
def f (k : Nat) (x0 : Sl) (x1 : Int) (x2 : Sl) (S : HS) : Option ((Sl) × HS) :=
 ((S.cut x0 x1 (Sl.len x0 : Int) 3).bind fun p1 =>
 (if (Sl.len x2 : Int) = 0 then
 some (x0,S) else
 (if x1 = (Sl.len x0 : Int) then
 ((S.rows x2 3).bind fun p4 =>
 ((S.app x0 p4 3).bind fun p5 =>
 some ((p5.1),(p5.2)))) else
 ((Sl.capOf x0).bind fun p6 =>
 (if (w64 ((Sl.len x0 : Int) + (Sl.len x2 : Int))) > p6 then
 ((S.cut x0 0 x1 3).bind fun p8 =>
 ((S.appZ p8 (w64 ((w64 ((Sl.len x0 : Int) + (Sl.len x2 : Int))) - x1)) [(.int .i64 0),(.bool false),(.bool false)] 3).bind fun p9 =>
 ((p9.2.cut (p9.1) x1 (Sl.len (p9.1) : Int) 3).bind fun p10 =>
 ((p9.2.rows x2 3).bind fun p11 =>
 ((p9.2.over p10 (List.take (Sl.len p10) p11) 3).bind fun p12 =>
 ((p12.cut (p9.1) (w64 (x1 + (Sl.len x2 : Int))) (Sl.len (p9.1) : Int) 3).bind fun p13 =>
 ((p12.cut x0 x1 (Sl.len x0 : Int) 3).bind fun p14 =>
 ((p12.rows p14 3).bind fun p15 =>
 ((p12.over p13 (List.take (Sl.len p13) p15) 3).bind fun p16 =>
 some ((p9.1),p16)))))))))) else
 ((S.cut x0 0 (w64 ((Sl.len x0 : Int) + (Sl.len x2 : Int))) 3).bind fun p17 =>
 ((S.cut p17 (w64 (x1 + (Sl.len x2 : Int))) (Sl.len p17 : Int) 3).bind fun p18 =>
 ((S.ovl x2 p18).bind fun p19 =>
 (if (!p19) = true then
 ((S.cut p17 (w64 (x1 + (Sl.len x2 : Int))) (Sl.len p17 : Int) 3).bind fun p21 =>
 ((S.cut p17 x1 (Sl.len p17 : Int) 3).bind fun p22 =>
 ((S.rows p22 3).bind fun p23 =>
 ((S.over p21 (List.take (Sl.len p21) p23) 3).bind fun p24 =>
 ((p24.cut p17 x1 (Sl.len p17 : Int) 3).bind fun p25 =>
 ((p24.rows x2 3).bind fun p26 =>
 ((p24.over p25 (List.take (Sl.len p25) p26) 3).bind fun p27 =>
 some (p17,p27)))))))) else
 ((S.cut p17 (Sl.len x0 : Int) (Sl.len p17 : Int) 3).bind fun p28 =>
 ((S.rows x2 3).bind fun p29 =>
 ((S.over p28 (List.take (Sl.len p28) p29) 3).bind fun p30 =>
 ((p30.cut p17 x1 (Sl.len p17 : Int) 3).bind fun p31 =>
 ((Y90.f k p31 (Sl.len x2 : Int) p30).bind fun p32 =>
 some (p17,p32.2)))))))))))))))
theorem snd {x0 : Sl} {x1 : Int} {x2 : Sl}  {p : (Sl) × HS} (h : f k x0 x1 x2 S = some p) : HC b w e 78 [(Sl.hv x0),(.int .i64 x1),(Sl.hv x2)] S (RR (Sl.hv p.1) p.2) := by
 unfold f at h
 refine HCall.of_run at_.at_ body ?_
 show HR b w e 78 none [.code c0] ⟨[(Sl.hv x0),(.int .i64 x1),(Sl.hv x2),z,z,z,z,z,z,z,z,z,z,z,z,z,z,z,z,z,z,z,z,z,z,z,z,z,z,z,z,z,z,z,z,z,z,z,z,z,z,z,z,z,z,z,z,z,z,z,z,z,z,z,z,z,z,z,z,z,z,z,z,z,z,z,z,z,z,z,z,z,z,z,z,z,z,z,z,z,z,z,z,z,z,z,z,z,z,z,z,z,z,z,z],[]⟩ S _
 refine qT rfl rfl rfl (qS 6 rfl (Zxa · (.const fun _ => .slNil none)) (rE ?_))
 dsimp only [w0,w1,w2,w3]
 obtain ⟨p1,hp1,h⟩ := bindo h
 refine qT rfl rfl rfl (uM 10 rfl rfl (uM 11 rfl rfl (qS 12 rfl (Zxn (kl := .i64) (kh := .i64) (s := x0) (l := x1) (h := (Sl.len x0 : Int)) · tu87 si62 (.tmp rfl) (.inr ⟨_,rfl,(.tmp rfl)⟩) (.inl ⟨rfl,rfl⟩) hp1) (rE ?_))))
 dsimp only [w0,w1,w2,w3]
 refine qT rfl rfl rfl (uM 13 rfl rfl (qS 14 rfl (Zxg (q := Sl.a x2) (n := Sl.len x2) (z := Sl.cap x2) · rfl tu87 (.tmp rfl)) (uA 7 rfl rfl (rE ?_))))
 dsimp only [w0,w1,w2,w3]
 refine qQ rfl (qT rfl rfl rfl (uM 15 rfl rfl (uC 16 rfl rfl rfl (rE ?_))))
 dsimp only [w0,w1,w2,w3]
 rcases ifc h with ⟨hc2,h⟩ | ⟨hc2,h⟩
 ·refine Zxb rfl (.tmp rfl) (decide_eq_true hc2) (qT rfl rfl rfl (uM 17 rfl rfl (uA 6 rfl rfl (rE ?_))))
  cases h
  exact Zxl rfl at_.at_ rfl (res1 rfl rfl) ⟨rfl,rfl⟩
 ·refine Zxc rfl (.tmp rfl) (decide_eq_false hc2) (Zxd rfl (qT rfl rfl rfl (uM 18 rfl rfl (qS 19 rfl (Zxg (q := Sl.a x0) (n := Sl.len x0) (z := Sl.cap x0) · rfl tu87 (.tmp rfl)) (uA 8 rfl rfl (rE ?_))))))
  dsimp only [w0,w1,w2,w3]
  refine qQ rfl (qT rfl rfl rfl (uM 20 rfl rfl (uM 21 rfl rfl (uB 22 rfl rfl rfl rfl (rE ?_)))))
  dsimp only [w0,w1,w2,w3]
  rcases ifc h with ⟨hc3,h⟩ | ⟨hc3,h⟩
  ·obtain ⟨p4,hp4,p5,hp5,h⟩ := bd2 h
   refine Zxb rfl (.tmp rfl) (decide_eq_true hc3) (qT rfl rfl rfl (uM 23 rfl rfl (uM 24 rfl rfl (qS 25 rfl (Zx1 (s := x0) (s1 := x2) el87 · rfl rfl ⟨_,tu87⟩ (.tmp rfl) (.tmp rfl) hp4 hp5) (uA 6 rfl rfl (rE ?_))))))
   cases h
   exact Zxl rfl at_.at_ rfl (res1 rfl rfl) ⟨rfl,rfl⟩
  ·refine Zxc rfl (.tmp rfl) (decide_eq_false hc3) (Zxd rfl (qQ rfl (qT rfl rfl rfl (uM 26 rfl rfl (uM 27 rfl rfl (uB 28 rfl rfl rfl rfl (uM 29 rfl rfl ?_)))))))
   try dsimp only [w0,w1,w2,w3]
   obtain ⟨p6,hp6,h⟩ := bindo h
   refine qS 30 rfl (Zagt (s := x0) · rfl tu87 (.tmp rfl) hp6) (uB 31 rfl rfl rfl rfl (rE ?_))
   dsimp only [w0,w1,w2,w3]
   rcases ifc h with ⟨hc7,h⟩ | ⟨hc7,h⟩
   ·obtain ⟨p8,hp8,h⟩ := bindo h
    refine Zxb rfl (.tmp rfl) (decide_eq_true hc7) (qT rfl rfl rfl (uM 32 rfl rfl (uM 33 rfl rfl (qS 34 rfl (Zxn (kl := .i64) (kh := .i64) (s := x0) (l := 0) (h := x1) · tu87 si62 (.tmp rfl) (.inl ⟨rfl,rfl⟩) (.inr ⟨_,rfl,(.tmp rfl)⟩) hp8) (uM 35 rfl rfl ?_)))))
    try dsimp only [w0,w1,w2,w3]
    refine uM 36 rfl rfl (uB 37 rfl rfl rfl rfl (uM 38 rfl rfl (uB 39 rfl rfl rfl rfl ?_)))
    try dsimp only [w0,w1,w2,w3]
    obtain ⟨p9,hp9,h⟩ := bindo h
    refine qS 40 rfl (Zzo (s := p8) el87 · rfl rfl tu3 (.tmp rfl) (.tmp rfl) hp9) (uA 9 rfl rfl (rE ?_))
    dsimp only [w0,w1,w2,w3]
    obtain ⟨p10,hp10,h⟩ := bindo h
    refine qT rfl rfl rfl (uM 41 rfl rfl (uM 42 rfl rfl (qS 43 rfl (Zxn (kl := .i64) (kh := .i64) (s := (p9.1)) (l := x1) (h := (Sl.len (p9.1) : Int)) · tu87 si62 (.tmp rfl) (.inr ⟨_,rfl,(.tmp rfl)⟩) (.inl ⟨rfl,rfl⟩) hp10) (uM 44 rfl rfl ?_))))
    try dsimp only [w0,w1,w2,w3]
    obtain ⟨p11,hp11,p12,hp12,h⟩ := bd2 h
    refine qS 45 rfl (Zyx (s := p10) (s1 := x2) el87 · rfl (.tmp rfl) (.tmp rfl) hp11 hp12) (rE ?_)
    dsimp only [w0,w1,w2,w3]
    refine qQ rfl ?_
    refine Zx8 (cls := [0,0,0,0,1,0,0,1,2]) (rk := [0,1,2,3,4,5,6,7,8]) rfl (by kernel_rfl) ?_
    refine yf 46 [9] rfl (oM · rfl) ?_
    refine yf 47 [1] rfl (oM · rfl) ?_
    refine yf 48 [7] rfl (oM · rfl) ?_
    refine yf 49 [47,48] rfl (oB · rfl rfl rfl) ?_
    try dsimp only [w0,w1,w2,w3]
    obtain ⟨p13,hp13,h⟩ := bindo h
    refine yr 50 [46,49] rfl (Zxn (kl := .i64) (kh := .i64) (s := (p9.1)) (l := (w64 (x1 + (Sl.len x2 : Int)))) (h := (Sl.len (p9.1) : Int)) · tu87 si62 (.tmp rfl) (.inr ⟨_,rfl,(.tmp rfl)⟩) (.inl ⟨rfl,rfl⟩) hp13) ?_
    refine yf 51 [0] rfl (oM · rfl) ?_
    refine yf 52 [1] rfl (oM · rfl) ?_
    obtain ⟨p14,hp14,h⟩ := bindo h
    refine yr 53 [51,52] rfl (Zxn (kl := .i64) (kh := .i64) (s := x0) (l := x1) (h := (Sl.len x0 : Int)) · tu87 si62 (.tmp rfl) (.inr ⟨_,rfl,(.tmp rfl)⟩) (.inl ⟨rfl,rfl⟩) hp14) ?_
    try dsimp only [w0,w1,w2,w3]
    obtain ⟨p15,hp15,p16,hp16,h⟩ := bd2 h
    refine ye 54 [50,53] rfl (Zyx (s := p13) (s1 := p14) el87 · rfl (.tmp rfl) (.tmp rfl) hp15 hp16) ?_
    refine Zx5 rfl ?_
    refine rE ?_
    try dsimp only [w0,w1,w2,w3]
    refine qT rfl rfl rfl (uM 55 rfl rfl (uA 6 rfl rfl (rE ?_)))
    cases h
    exact Zxl rfl at_.at_ rfl (res1 rfl rfl) ⟨rfl,rfl⟩
   ·refine Zxc rfl (.tmp rfl) (decide_eq_false hc7) (Zxd rfl (qT rfl rfl rfl (uM 56 rfl rfl (uM 57 rfl rfl (uM 58 rfl rfl (uB 59 rfl rfl rfl rfl ?_))))))
    try dsimp only [w0,w1,w2,w3]
    obtain ⟨p17,hp17,h⟩ := bindo h
    refine qS 60 rfl (Zxn (kl := .i64) (kh := .i64) (s := x0) (l := 0) (h := (w64 ((Sl.len x0 : Int) + (Sl.len x2 : Int)))) · tu87 si62 (.tmp rfl) (.inl ⟨rfl,rfl⟩) (.inr ⟨_,rfl,(.tmp rfl)⟩) hp17) (uA 0 rfl rfl (rE ?_))
    dsimp only [w0,w1,w2,w3]
    refine qQ rfl (qT rfl rfl rfl (uM 61 rfl rfl (uM 62 rfl rfl (uM 63 rfl rfl (uM 64 rfl rfl ?_)))))
    try dsimp only [w0,w1,w2,w3]
    obtain ⟨p18,hp18,p19,hp19,h⟩ := bd2 h
    refine uB 65 rfl rfl rfl rfl (qS 66 rfl (Zxn (kl := .i64) (kh := .i64) (s := p17) (l := (w64 (x1 + (Sl.len x2 : Int)))) (h := (Sl.len p17 : Int)) · tu87 si62 (.tmp rfl) (.inr ⟨_,rfl,(.tmp rfl)⟩) (.inl ⟨rfl,rfl⟩) hp18) (qS 67 rfl (Zaaf (s1 := x2) (s2 := p18) · ext110 tu87 si62 (.tmp rfl) (.tmp rfl) hp19) (qS 68 rfl (Zys · (.tmp rfl)) (rE ?_))))
    dsimp only [w0,w1,w2,w3]
    rcases ifc h with ⟨hc20,h⟩ | ⟨hc20,h⟩
    ·refine Zxb rfl (.tmp rfl) hc20 (qQ rfl ?_)
     refine Zx8 (cls := [0,0,0,0,1,0,0,1,2]) (rk := [0,1,2,3,4,5,6,7,8]) rfl (by kernel_rfl) ?_
     refine yf 69 [0] rfl (oM · rfl) ?_
     refine yf 70 [1] rfl (oM · rfl) ?_
     refine yf 71 [7] rfl (oM · rfl) ?_
     refine yf 72 [70,71] rfl (oB · rfl rfl rfl) ?_
     try dsimp only [w0,w1,w2,w3]
     obtain ⟨p21,hp21,h⟩ := bindo h
     refine yr 73 [69,72] rfl (Zxn (kl := .i64) (kh := .i64) (s := p17) (l := (w64 (x1 + (Sl.len x2 : Int)))) (h := (Sl.len p17 : Int)) · tu87 si62 (.tmp rfl) (.inr ⟨_,rfl,(.tmp rfl)⟩) (.inl ⟨rfl,rfl⟩) hp21) ?_
     refine yf 74 [0] rfl (oM · rfl) ?_
     refine yf 75 [1] rfl (oM · rfl) ?_
     obtain ⟨p22,hp22,h⟩ := bindo h
     refine yr 76 [74,75] rfl (Zxn (kl := .i64) (kh := .i64) (s := p17) (l := x1) (h := (Sl.len p17 : Int)) · tu87 si62 (.tmp rfl) (.inr ⟨_,rfl,(.tmp rfl)⟩) (.inl ⟨rfl,rfl⟩) hp22) ?_
     try dsimp only [w0,w1,w2,w3]
     obtain ⟨p23,hp23,p24,hp24,h⟩ := bd2 h
     refine ye 77 [73,76] rfl (Zyx (s := p21) (s1 := p22) el87 · rfl (.tmp rfl) (.tmp rfl) hp23 hp24) ?_
     refine Zx5 rfl ?_
     refine rE ?_
     try dsimp only [w0,w1,w2,w3]
     obtain ⟨p25,hp25,h⟩ := bindo h
     refine qT rfl rfl rfl (uM 78 rfl rfl (uM 79 rfl rfl (qS 80 rfl (Zxn (kl := .i64) (kh := .i64) (s := p17) (l := x1) (h := (Sl.len p17 : Int)) · tu87 si62 (.tmp rfl) (.inr ⟨_,rfl,(.tmp rfl)⟩) (.inl ⟨rfl,rfl⟩) hp25) (uM 81 rfl rfl ?_))))
     try dsimp only [w0,w1,w2,w3]
     obtain ⟨p26,hp26,p27,hp27,h⟩ := bd2 h
     refine qS 82 rfl (Zyx (s := p25) (s1 := x2) el87 · rfl (.tmp rfl) (.tmp rfl) hp26 hp27) (rE ?_)
     dsimp only [w0,w1,w2,w3]
     refine qT rfl rfl rfl (uM 83 rfl rfl (uA 6 rfl rfl (rE ?_)))
     cases h
     exact Zxl rfl at_.at_ rfl (res1 rfl rfl) ⟨rfl,rfl⟩
    ·obtain ⟨p28,hp28,h⟩ := bindo h
     refine Zxc rfl (.tmp rfl) (bfalse hc20) (Zxd rfl (qT rfl rfl rfl (uM 84 rfl rfl (uM 85 rfl rfl (qS 86 rfl (Zxn (kl := .i64) (kh := .i64) (s := p17) (l := (Sl.len x0 : Int)) (h := (Sl.len p17 : Int)) · tu87 si62 (.tmp rfl) (.inr ⟨_,rfl,(.tmp rfl)⟩) (.inl ⟨rfl,rfl⟩) hp28) (uM 87 rfl rfl ?_))))))
     try dsimp only [w0,w1,w2,w3]
     obtain ⟨p29,hp29,p30,hp30,h⟩ := bd2 h
     refine qS 88 rfl (Zyx (s := p28) (s1 := x2) el87 · rfl (.tmp rfl) (.tmp rfl) hp29 hp30) (rE ?_)
     dsimp only [w0,w1,w2,w3]
     obtain ⟨p31,hp31,h⟩ := bindo h
     refine qT rfl rfl rfl (uM 89 rfl rfl (uM 90 rfl rfl (qS 91 rfl (Zxn (kl := .i64) (kh := .i64) (s := p17) (l := x1) (h := (Sl.len p17 : Int)) · tu87 si62 (.tmp rfl) (.inr ⟨_,rfl,(.tmp rfl)⟩) (.inl ⟨rfl,rfl⟩) hp31) (uM 92 rfl rfl ?_))))
     try dsimp only [w0,w1,w2,w3]
     obtain ⟨p32,hp32,h⟩ := bindo h
     refine uQ 93 rfl (.func _) (ev2 rfl rfl) (HInv.static Y90.at_ Y90.body (Y90.snd  hp32)) (rE ?_)
     dsimp only [w0,w1,w2,w3]
     refine qT rfl rfl rfl (uM 94 rfl rfl (uA 6 rfl rfl (rE ?_)))
     cases h
     exact Zxl rfl at_.at_ rfl (res1 rfl rfl) ⟨rfl,rfl⟩
end Y110
namespace Y88
theorem at_ : FnAt Tryz.prog 78 Tryz.f78 := Y110.at_
theorem body : Tryz.f78.body = some Y110.c0 := Y110.body
def f (x0 : Sl) (x1 : Int) (x2 : Sl) (S : HS) : Option ((Sl) × HS) := HS.ins S x0 x1 x2 3
theorem snd {b : Nat} {w : World} {e : Bt} {x0 : Sl} {x1 : Int} {x2 : Sl} {p : (Sl) × HS} (h : f x0 x1 x2 S = some p) : HC b w e 78 [(Sl.hv x0),(.int .i64 x1),(Sl.hv x2)] S (RR (Sl.hv p.1) p.2) :=
 Zad0 (rot := fun a b T => Y90.f 0 a b T) (zr := [(.int .i64 0),(.bool false),(.bool false)]) (fun _ _ _ h => Y110.snd (k := 0) h) h
end Y88
namespace Y132
theorem at_ : FnAt Tryz.prog 112 Tryz.f112 := ⟨Tryz.func112,by kernel_rfl⟩
def d0 := (Tryz.f112.body).getD .skip
def r1 := kT d0
def r3 := kT (kB d0)
def r6 := kT (kY (kB d0))
def r9 := kT (kY (kY (kB d0)))
def d12 := kW (kB d0)
def r13 := kT d12
def r15 := kT (kB d12)
def r17 := kT (kW d12)
def r19 := kT (kW (kB d12))
def c0 : Code := .seq (.region 0 r1 false) (.seq (.region 1 r3 false) (.seq (.seq (.region 2 r6 false) (.cond (.tmp 16) (.seq (.region 3 r9 false) .ret) .skip)) (.seq (.region 4 r13 false) (.seq (.region 5 r15 true) (.seq (.region 6 r17 false) (.seq (.region 7 r19 false) .ret))))))
theorem body : Tryz.f112.body = some c0 := by kernel_rfl
def f (x0 : Sl) (x1 : Int) (x2 : Int) (S : HS) : Option ((Sl) × HS) :=
 ((S.cut3 x0 x1 x2 (Sl.len x0 : Int) 1).bind fun p1 =>
 (if x1 = x2 then
 some (x0,S) else
 ((S.cut x0 0 x1 1).bind fun p3 =>
 ((S.cut x0 x2 (Sl.len x0 : Int) 1).bind fun p4 =>
 ((S.rows p4 1).bind fun p5 =>
 ((S.app p3 p5 1).bind fun p6 =>
 ((p6.2.cut (p6.1) (Sl.len (p6.1) : Int) (Sl.len x0 : Int) 1).bind fun p7 =>
 ((p6.2.over p7 (List.replicate (Sl.len p7) [(.int .i64 0)]) 1).bind fun p8 =>
 some ((p6.1),p8)))))))))
theorem snd {x0 : Sl} {x1 : Int} {x2 : Int}  {p : (Sl) × HS} (h : f x0 x1 x2 S = some p) : HC b w e 112 [(Sl.hv x0),(.int .i64 x1),(.int .i64 x2)] S (RR (Sl.hv p.1) p.2) := by
 unfold f at h
 refine HCall.of_run at_.at_ body ?_
 show HR b w e 112 none [.code c0] ⟨[(Sl.hv x0),(.int .i64 x1),(.int .i64 x2),z,z,z,z,z,z,z,z,z,z,z,z,z,z,z,z,z,z,z,z,z,z,z,z,z,z,z,z,z,z],[]⟩ S _
 refine qT rfl rfl rfl (qS 6 rfl (Zxa · (.const fun _ => .slNil none)) (rE ?_))
 dsimp only [w0,w1,w2,w3]
 refine qT rfl rfl rfl (uM 8 rfl rfl (uM 9 rfl rfl (uM 10 rfl rfl (uM 11 rfl rfl ?_))))
 try dsimp only [w0,w1,w2,w3]
 obtain ⟨p1,hp1,h⟩ := bindo h
 refine qS 12 rfl (Zxg (q := Sl.a x0) (n := Sl.len x0) (z := Sl.cap x0) · rfl tu42 (.tmp rfl)) (qS 13 rfl (Zabh (kl := .i64) (kh := .i64) (s := x0) (l := x1) (h := x2) · tu42 si3 (.tmp rfl) (.inr ⟨_,rfl,(.tmp rfl)⟩) (.inr ⟨_,rfl,(.tmp rfl)⟩) (.tmp rfl) hp1) (rE ?_))
 dsimp only [w0,w1,w2,w3]
 refine qQ rfl (qT rfl rfl rfl (uM 14 rfl rfl (uM 15 rfl rfl (uB 16 rfl rfl rfl rfl (rE ?_)))))
 dsimp only [w0,w1,w2,w3]
 rcases ifc h with ⟨hc2,h⟩ | ⟨hc2,h⟩
 ·refine Zxb rfl (.tmp rfl) (decide_eq_true hc2) (qT rfl rfl rfl (uM 17 rfl rfl (uA 6 rfl rfl (rE ?_))))
  cases h
  exact Zxl rfl at_.at_ rfl (res1 rfl rfl) ⟨rfl,rfl⟩
 ·refine Zxc rfl (.tmp rfl) (decide_eq_false hc2) (Zxd rfl (qT rfl rfl rfl (uM 18 rfl rfl (qS 19 rfl (Zxg (q := Sl.a x0) (n := Sl.len x0) (z := Sl.cap x0) · rfl tu42 (.tmp rfl)) (uA 7 rfl rfl (rE ?_))))))
  dsimp only [w0,w1,w2,w3]
  refine qQ rfl ?_
  refine Zx8 (cls := [0,0,1,0,0,1,2,0]) (rk := [0,1,2,3,4,5,6,7]) rfl (by kernel_rfl) ?_
  refine yf 20 [0] rfl (oM · rfl) ?_
  refine yf 21 [1] rfl (oM · rfl) ?_
  obtain ⟨p3,hp3,h⟩ := bindo h
  refine yr 22 [20,21] rfl (Zxn (kl := .i64) (kh := .i64) (s := x0) (l := 0) (h := x1) · tu42 si3 (.tmp rfl) (.inl ⟨rfl,rfl⟩) (.inr ⟨_,rfl,(.tmp rfl)⟩) hp3) ?_
  refine yf 23 [0] rfl (oM · rfl) ?_
  try dsimp only [w0,w1,w2,w3]
  refine yf 24 [2] rfl (oM · rfl) ?_
  obtain ⟨p4,hp4,h⟩ := bindo h
  refine yr 25 [23,24] rfl (Zxn (kl := .i64) (kh := .i64) (s := x0) (l := x2) (h := (Sl.len x0 : Int)) · tu42 si3 (.tmp rfl) (.inr ⟨_,rfl,(.tmp rfl)⟩) (.inl ⟨rfl,rfl⟩) hp4) ?_
  obtain ⟨p5,hp5,p6,hp6,h⟩ := bd2 h
  refine ye 26 [22,25] rfl (Zx1 (s := p3) (s1 := p4) el42 · rfl rfl ⟨_,tu42⟩ (.tmp rfl) (.tmp rfl) hp5 hp6) ?_
  refine yf 0 [26] rfl (oA · rfl) ?_
  refine Zx5 rfl ?_
  refine rE ?_
  try dsimp only [w0,w1,w2,w3]
  refine qT rfl rfl rfl (uM 27 rfl rfl (uM 28 rfl rfl (qS 29 rfl (Zxg (q := Sl.a (p6.1)) (n := Sl.len (p6.1)) (z := Sl.cap (p6.1)) · rfl tu42 (.tmp rfl)) (uM 30 rfl rfl ?_))))
  try dsimp only [w0,w1,w2,w3]
  obtain ⟨p7,hp7,p8,hp8,h⟩ := bd2 h
  refine qS 31 rfl (Zxn (kl := .i64) (kh := .i64) (s := (p6.1)) (l := (Sl.len (p6.1) : Int)) (h := (Sl.len x0 : Int)) · tu42 si3 (.tmp rfl) (.inr ⟨_,rfl,(.tmp rfl)⟩) (.inr ⟨_,rfl,(.tmp rfl)⟩) hp7) (qN rfl (Zab8 (s := p7) el42 · rfl (.tmp rfl) hp8) (rE ?_))
  dsimp only [w0,w1,w2,w3]
  refine qT rfl rfl rfl (uM 32 rfl rfl (uA 6 rfl rfl (rE ?_)))
  cases h
  exact Zxl rfl at_.at_ rfl (res1 rfl rfl) ⟨rfl,rfl⟩
end Y132
namespace Y96
theorem at_ : FnAt Tryz.prog 112 Tryz.f112 := Y132.at_
theorem body : Tryz.f112.body = some Y132.c0 := Y132.body
def f (x0 : Sl) (x1 : Int) (x2 : Int) (S : HS) : Option ((Sl) × HS) := HS.del S x0 x1 x2 1
theorem snd {b : Nat} {w : World} {e : Bt} {x0 : Sl} {x1 x2 : Int} {p : (Sl) × HS} (h : f x0 x1 x2 S = some p) : HC b w e 112 [(Sl.hv x0),(.int .i64 x1),(.int .i64 x2)] S (RR (Sl.hv p.1) p.2) :=
 Zad1 (zr := [(.int .i64 0)]) (fun _ _ _ h => Y132.snd h) h
end Y96
namespace Y20
theorem at_ : FnAt Tryz.prog 79 Tryz.f79 := ⟨Tryz.func79,by kernel_rfl⟩
def d0 := (Tryz.f79.body).getD .skip
def r1 := kT d0
def r3 := kT (kB d0)
def r6 := kT (kY (kB d0))
def r9 := kT (kY (kY (kB d0)))
def d12 := kW (kB d0)
def r14 := kT (kA d12)
def d16 := kY (kA d12)
def r18 := kT (kA d16)
def d23 := kW (kA d16)
def r26 := kT (kX d23)
def d27 := kZ (kA d23)
def r28 := kT d27
def r30 := kT (kB d27)
def r33 := kT (kY (kB d27))
def r34 := kR (kZ (kW d27))
def r36 := kR (kB d23)
def r38 := kT (kB d12)
def c37 : Code := .seq (.region 12 r38 false) .ret
def c36 : Code := .region 11 r36 false
def c17 : Code := .seq (.region 5 r18 false) (.seq (.cond (.tmp 15) .skip (.exit 0)) (.seq (.block 1 (.seq (.region 6 r26 false) (.seq (.region 7 r28 false) (.seq (.region 8 r30 false) (.cond (.tmp 27) (.seq (.region 9 r33 false) (.region 10 r34 false)) .skip))))) c36))
def c0 : Code := .seq (.region 0 r1 false) (.seq (.region 1 r3 false) (.seq (.seq (.region 2 r6 false) (.cond (.tmp 11) (.seq (.region 3 r9 false) .ret) .skip)) (.seq (.seq (.region 4 r14 false) (.block 0 (.loop c17))) c37)))
theorem body : Tryz.f79.body = some c0 := by kernel_rfl
variable {y0 : HP} {y5 y13 y14 : Int} {y12 : Sl}
def J1 (k : Nat) (rec0 : HP → Int → Sl → Int → Int → HS → Option ((Int) × HS)) (y0 : HP) (y5 : Int) (y12 : Sl) (y13 : Int) (y14 : Int) (S : HS) : Option ((Int) × HS) :=
 rec0 y0 y5 y12 y13 (w64 (y14 + 1)) S
theorem J1_snd {rec0 : HP → Int → Sl → Int → Int → HS → Option ((Int) × HS)} (hrec0 : ∀ ⦃y0 : HP⦄ ⦃y5 : Int⦄ ⦃y12 : Sl⦄ ⦃y13 : Int⦄ ⦃y14 : Int⦄ ⦃S : HS⦄ ⦃p : (Int) × HS⦄ ⦃j q m F N Gh i a G B A C E I J L Q U V Z c d g r Kd Ke Kf Kg Kh Ki Kj Kk Kl Km Kn Ko Kp Kq : HV⦄,rec0 y0 y5 y12 y13 y14 S = some p → HR b w e 79 none [.inLoop c17,.inBlock 0,.code c37] ⟨[(.ptr y0),j,q,m,F,(.int .i64 y5),N,Gh,i,a,G,B,(Sl.hv y12),(.int .i64 y13),(.int .i64 y14),A,C,E,I,J,L,Q,U,V,Z,c,d,g,r,Kd,Ke,Kf,Kg,Kh,Ki,Kj,Kk,Kl,Km,Kn,Ko,Kp,Kq],[]⟩ S (RR (.int .i64 p.1) p.2)) {p : (Int) × HS} (h : J1 k rec0 y0 y5 y12 y13 y14 S = some p) : HR b w e 79 none [.code c36,.inLoop c17,.inBlock 0,.code c37] ⟨[(.ptr y0),j,q,m,F,(.int .i64 y5),N,Gh,i,a,G,B,(Sl.hv y12),(.int .i64 y13),(.int .i64 y14),A,C,E,I,J,L,Q,U,V,Z,c,d,g,r,Kd,Ke,Kf,Kg,Kh,Ki,Kj,Kk,Kl,Km,Kn,Ko,Kp,Kq],[]⟩ S (RR (.int .i64 p.1) p.2) := by
 unfold J1 at h
 refine qR rfl rfl (uC 41 rfl rfl rfl (uM 14 rfl rfl (rE ?_)))
 dsimp only [w0,w1,w2,w3]
 exact hrec0 h
def L0 (k : Nat) : Nat → HP → Int → Sl → Int → Int → HS → Option ((Int) × HS)
 | 0,_,_,_,_,_,_ => none
 | n + 1,y0,y5,y12,y13,y14,S =>
  (if y14 < y13 then
  ((S.idx y12 y14 1).bind fun p3 =>
  ((S.ldI .i64 p3).bind fun p4 =>
  (y0.bind fun p5 =>
  ((S.ldSl (HA.fld p5 0)).bind fun p6 =>
  ((Y9.f k p6 p4 S).bind fun p7 =>
  (if p7.1.2 = true then
  (y0.bind fun p9 =>
  ((p7.2.ldSl (HA.fld p9 0)).bind fun p10 =>
  ((Y96.f p10 p7.1.1 (w64 (p7.1.1 + 1)) p7.2).bind fun p11 =>
  (y0.bind fun p12 =>
  ((p11.2.sets (HA.fld p12 0) [(Sl.hv p11.1)]).bind fun p13 =>
  J1 k (L0 k n) y0 (w64 (y5 + 1)) y12 y13 y14 p13))))) else
  J1 k (L0 k n) y0 y5 y12 y13 y14 p7.2)))))) else
  some (y5,S))
theorem L0_snd  : ∀ {n : Nat} ⦃y0 : HP⦄ ⦃y5 : Int⦄ ⦃y12 : Sl⦄ ⦃y13 : Int⦄ ⦃y14 : Int⦄ ⦃S : HS⦄ ⦃p : (Int) × HS⦄ ⦃j q m F N Gh i a G B A C E I J L Q U V Z c d g r Kd Ke Kf Kg Kh Ki Kj Kk Kl Km Kn Ko Kp Kq : HV⦄,L0 k n y0 y5 y12 y13 y14 S = some p → HR b w e 79 none [.inLoop c17,.inBlock 0,.code c37] ⟨[(.ptr y0),j,q,m,F,(.int .i64 y5),N,Gh,i,a,G,B,(Sl.hv y12),(.int .i64 y13),(.int .i64 y14),A,C,E,I,J,L,Q,U,V,Z,c,d,g,r,Kd,Ke,Kf,Kg,Kh,Ki,Kj,Kk,Kl,Km,Kn,Ko,Kp,Kq],[]⟩ S (RR (.int .i64 p.1) p.2) := by
 intro n
 induction n with
 | zero => intro _ _ _ _ _ _ _ _ _ _ _ _ _ _ _ _ _ _ _ _ _ _ _ _ _ _ _ _ _ _ _ _ _ _ _ _ _ _ _ _ _ _ _ _ _ h; cases h
 | succ n ih =>
  intro y0 y5 y12 y13 y14 S p j q m F N Gh i a G B A C E I J L Q U V Z c d g r Kd Ke Kf Kg Kh Ki Kj Kk Kl Km Kn Ko Kp Kq h
  simp only [L0] at h
  refine Zxz (qT rfl rfl rfl (uB 15 rfl rfl rfl rfl (rE ?_)))
  dsimp only [w0,w1,w2,w3]
  refine qQ rfl ?_
  rcases ifc h with ⟨hc2,h⟩ | ⟨hc2,h⟩
  ·obtain ⟨p3,hp3,p4,hp4,h⟩ := bd2 h
   refine Zxb rfl (.tmp rfl) (decide_eq_true hc2) (Zxd rfl (qQ rfl (Zxo rfl (qT rfl rfl rfl (qS 16 rfl (oX (s := y12) · tu42 sz3 rfl rfl hp3) (uL 17 rfl sc3 rfl rfl (Zxq hp4) (uA 7 rfl rfl (rE ?_))))))))
   dsimp only [w0,w1,w2,w3]
   obtain ⟨p5,hp5,p6,hp6,h⟩ := bd2 h
   refine qT rfl rfl rfl (uM 19 rfl rfl (uN 20 rfl rfl hp5 (uF 21 rfl Zaau (by decide) rfl rfl (uL 22 rfl sc42 rfl rfl (Zxj hp6) ?_))))
   try dsimp only [w0,w1,w2,w3]
   obtain ⟨p7,hp7,h⟩ := bindo h
   refine uM 23 rfl rfl (uQ 24 rfl (.func _) (ev2 rfl rfl) (HInv.static Y9.at_ Y9.body (Y9.snd  hp7)) (uM 18 rfl rfl (qS 25 rfl (Zxr · (.tmp rfl) rfl) ?_)))
   try dsimp only [w0,w1,w2,w3]
   refine qS 26 rfl (Zxr · (.tmp rfl) rfl) (uA 8 rfl rfl (uA 9 rfl rfl (rE ?_)))
   dsimp only [w0,w1,w2,w3]
   refine qT rfl rfl rfl (uM 27 rfl rfl (rE ?_))
   dsimp only [w0,w1,w2,w3]
   rcases ifc h with ⟨hc8,h⟩ | ⟨hc8,h⟩
   ·obtain ⟨p9,hp9,h⟩ := bindo h
    refine Zxb rfl (.tmp rfl) hc8 (qT rfl rfl rfl (uM 28 rfl rfl (uM 29 rfl rfl (uN 30 rfl rfl hp9 (uF 31 rfl Zaau (by decide) rfl rfl ?_)))))
    try dsimp only [w0,w1,w2,w3]
    obtain ⟨p10,hp10,h⟩ := bindo h
    refine uL 32 rfl sc42 rfl rfl (Zxj hp10) (uM 33 rfl rfl (uM 34 rfl rfl (uC 35 rfl rfl rfl ?_)))
    try dsimp only [w0,w1,w2,w3]
    obtain ⟨p11,hp11,h⟩ := bindo h
    refine uQ 36 rfl (.func _) (ev3 rfl rfl rfl) (HInv.static Y96.at_ Y96.body (Y96.snd  hp11)) ?_
    obtain ⟨p12,hp12,p13,hp13,h⟩ := bd2 h
    refine uN 37 rfl rfl hp12 (uF 38 rfl Zaau (by decide) rfl rfl (qN rfl (Zxk (v := (Sl.hv p11.1)) · sz42 (.tmp rfl) rfl (.tmp rfl) rfl hp13) (rE ?_)))
    dsimp only [w0,w1,w2,w3]
    refine qR rfl rfl (uM 39 rfl rfl (uC 40 rfl rfl rfl (uA 5 rfl rfl (rE ?_))))
    dsimp only [w0,w1,w2,w3]
    refine Zxf ?_
    try dsimp only [w0,w1,w2,w3]
    exact J1_snd ih h
   ·refine Zxc rfl (.tmp rfl) (bfalse hc8) (Zxd rfl (Zxf ?_))
    try dsimp only [w0,w1,w2,w3]
    exact J1_snd ih h
  ·refine Zxc rfl (.tmp rfl) (decide_eq_false hc2) (Zyh rfl rfl (qT rfl rfl rfl (uM 42 rfl rfl (uA 4 rfl rfl (rE ?_)))))
   cases h
   exact Zxl rfl at_.at_ rfl (res1 rfl rfl) ⟨rfl,rfl⟩
def f (k : Nat) (x0 : HP) (x1 : Sl) (S : HS) : Option ((Int) × HS) :=
 (if (Option.isNone x0) = true then
 some (0,S) else
 L0 k k x0 0 x1 (Sl.len x1 : Int) 0 S)
theorem snd {x0 : HP} {x1 : Sl}  {p : (Int) × HS} (h : f k x0 x1 S = some p) : HC b w e 79 [(.ptr x0),(Sl.hv x1)] S (RR (.int .i64 p.1) p.2) := by
 unfold f at h
 refine HCall.of_run at_.at_ body ?_
 show HR b w e 79 none [.code c0] ⟨[(.ptr x0),(Sl.hv x1),z,z,z,z,z,z,z,z,z,z,z,z,z,z,z,z,z,z,z,z,z,z,z,z,z,z,z,z,z,z,z,z,z,z,z,z,z,z,z,z,z],[]⟩ S _
 refine qT rfl rfl rfl (qS 4 rfl (Zxa · (.int _ _)) (rE ?_))
 dsimp only [w0,w1,w2,w3]
 refine qT rfl rfl rfl (qS 5 rfl (Zxa · (.int _ _)) (rE ?_))
 dsimp only [w0,w1,w2,w3]
 refine qQ rfl (qT rfl rfl rfl (uM 10 rfl rfl (qS 11 rfl (Zxt · tu96 (.tmp rfl) (.inl ⟨rfl,rfl⟩)) (rE ?_))))
 dsimp only [w0,w1,w2,w3]
 rcases ifc h with ⟨hc1,h⟩ | ⟨hc1,h⟩
 ·refine Zxb rfl (.tmp rfl) hc1 (qT rfl rfl rfl (qS 4 rfl (Zxa · (.int _ _)) (rE ?_)))
  cases h
  exact Zxl rfl at_.at_ rfl (res1 rfl rfl) ⟨rfl,rfl⟩
 ·refine Zxc rfl (.tmp rfl) (bfalse hc1) (Zxd rfl (qQ rfl (qT rfl rfl rfl (uM 12 rfl rfl (qS 13 rfl (Zxg (q := Sl.a x1) (n := Sl.len x1) (z := Sl.cap x1) · rfl tu42 (.tmp rfl)) (qS 14 rfl (Zzj · (.int _ _)) (rE ?_)))))))
  dsimp only [w0,w1,w2,w3]
  refine Zxo rfl (Zye rfl ?_)
  try dsimp only [w0,w1,w2,w3]
  exact L0_snd  h
end Y20
end
end Go.Proofs.YtbmfomkfmpppiaaGreat.X
