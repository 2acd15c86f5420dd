/- Functions of the program, each as a Lean function over the layer HL: a call answers what the Lean function answers, where it answers. -/
import Derived.Test.YtbmfomkfmpppiaaGreatProg
import Derived.Test.YtbmfomkfmpppiaaGreatPart8
namespace Go.Proofs.YtbmfomkfmpppiaaGreat.X
open Go.Proofs.YtbmfomkfmpppiaaGreat.HL
set_option linter.unusedVariables false
set_option linter.unusedSimpArgs false
set_option maxRecDepth 20000
set_option maxHeartbeats 4000000
abbrev HP := Option HA
abbrev DS := DSound Tryz.prog
abbrev HT := @HSound Tryz.prog
abbrev HR := HRun Tryz.prog
noncomputable section
variable {base : Nat} {W0 : World} {β0 : Bt}
variable {D : Dp} {H : Hd} {k : Nat} {Ga Gb Gc Gd Ge Gf Gg Gh Gi Gj Gk Gl Gm Gn Go Gp Gq Gr Gs Gt Gu Gv Gw Gx Gy Gz Ka Kb Kc Kd Ke Kf Kg Kh Ki Kj Kk Kl Km Kn Ko Kp Kq Kr Ks Kt Ku Kv Kw Kx Ky Kz Ma Mb : HV}
theorem st120 : StructAt Tryz.prog 120 [(0,1),(1,1)] [(.int .i64 0),(Sl.hv Sl.nil)] := structAt_mk (zv := (.agg #[(.int .i64 0),(.slice none 0 0)])) (by kernel_rfl) (by kernel_rfl) (fun β => VRels.cons (.int _ _) (VRels.cons (.slNil none) (VRels.nil β)))
theorem st124 : StructAt Tryz.prog 124 [(0,1),(1,1),(2,1),(3,1)] [(.int .i64 0),(.int .i64 0),(.map none),(.map none)] := structAt_mk (zv := (.agg #[(.int .i64 0),(.int .i64 0),(.map none),(.map none)])) (by kernel_rfl) (by kernel_rfl) (fun β => VRels.cons (.int _ _) (VRels.cons (.int _ _) (VRels.cons (.mapNil) (VRels.cons (.mapNil) (VRels.nil β)))))
theorem fi28_7 : fieldInfo Tryz.prog 28 7 = some (7,3,1) := by kernel_rfl
theorem sc3 : Scalar Tryz.prog 3 := ⟨(.int .i64),by kernel_rfl,trivial⟩
theorem fi28_6 : fieldInfo Tryz.prog 28 6 = some (6,3,1) := by kernel_rfl
theorem ia28 : IsAgg Tryz.prog 28 15 := isAgg_mk2 (by kernel_rfl) (by kernel_rfl)
theorem st83 : StructAt Tryz.prog 83 [(0,15),(15,1),(16,1)] [(.str []),(.str []),(.str []),(.str []),(.int .i64 0),(.int .i64 0),(.int .i64 0),(.int .i64 0),(.int .i64 0),(.int .i64 0),(.int .i64 0),(.int .i64 0),(.int .i64 0),(.int .i64 0),(.int .i64 0),(.ptr none),(.ptr none)] := structAt_mk (zv := (.agg #[(.string ⟨#[]⟩),(.string ⟨#[]⟩),(.string ⟨#[]⟩),(.string ⟨#[]⟩),(.int .i64 0),(.int .i64 0),(.int .i64 0),(.int .i64 0),(.int .i64 0),(.int .i64 0),(.int .i64 0),(.int .i64 0),(.int .i64 0),(.int .i64 0),(.int .i64 0),(.pointer none),(.pointer none)])) (by kernel_rfl) (by kernel_rfl) (fun β => VRels.cons (.str []) (VRels.cons (.str []) (VRels.cons (.str []) (VRels.cons (.str []) (VRels.cons (.int _ _) (VRels.cons (.int _ _) (VRels.cons (.int _ _) (VRels.cons (.int _ _) (VRels.cons (.int _ _) (VRels.cons (.int _ _) (VRels.cons (.int _ _) (VRels.cons (.int _ _) (VRels.cons (.int _ _) (VRels.cons (.int _ _) (VRels.cons (.int _ _) (VRels.cons (.ptrNil) (VRels.cons (.ptrNil) (VRels.nil β))))))))))))))))))
theorem tu118 : Tryz.prog.underlying 118 = some (.slice 133) := by kernel_rfl
theorem tu3 : Tryz.prog.underlying 3 = some (.int .i64) := by kernel_rfl
theorem tu166 : Tryz.prog.underlying 166 = some (.int .u64) := by kernel_rfl
theorem sz133 : ∃ q,Tryz.prog.info? 133 = some q ∧ q.size = 2 := size_mk' (by kernel_rfl)
theorem ia133 : IsAgg Tryz.prog 133 2 := isAgg_mk2 (by kernel_rfl) (by kernel_rfl)
theorem tu9 : Tryz.prog.underlying 9 = some .string := by kernel_rfl
theorem fi133_0 : fieldInfo Tryz.prog 133 0 = some (0,9,1) := by kernel_rfl
theorem sc9 : Scalar Tryz.prog 9 := ⟨.string,by kernel_rfl,trivial⟩
theorem tu75 : Tryz.prog.underlying 75 = some (.pointer 120) := by kernel_rfl
theorem fi120_1 : fieldInfo Tryz.prog 120 1 = some (1,118,1) := by kernel_rfl
theorem sc118 : Scalar Tryz.prog 118 := ⟨(.slice 133),by kernel_rfl,trivial⟩
theorem fi133_1 : fieldInfo Tryz.prog 133 1 = some (1,36,1) := by kernel_rfl
theorem sc36 : Scalar Tryz.prog 36 := ⟨(.pointer 114),by kernel_rfl,trivial⟩
theorem el127 : ElemAt Tryz.prog 127 5 1 [(.int .u8 0)] := elemAt_mk (zv := (.int .u8 0)) (by_ := 1) (by kernel_rfl) (by kernel_rfl) (by decide) (fun β => VRels.cons (.int _ _) (VRels.nil β)) rfl (by decide) rfl
theorem tu127 : Tryz.prog.underlying 127 = some (.slice 5) := by kernel_rfl
theorem tu5 : Tryz.prog.underlying 5 = some (.int .u8) := by kernel_rfl
theorem tu57 : Tryz.prog.underlying 57 = some (.slice 9) := by kernel_rfl
theorem sz9 : ∃ q,Tryz.prog.info? 9 = some q ∧ q.size = 1 := size_mk' (by kernel_rfl)
theorem tu134 : Tryz.prog.underlying 134 = some (.pointer 159) := by kernel_rfl
theorem fi159_0 : fieldInfo Tryz.prog 159 0 = some (0,57,1) := by kernel_rfl
theorem sc57 : Scalar Tryz.prog 57 := ⟨(.slice 9),by kernel_rfl,trivial⟩
theorem tu79 : Tryz.prog.underlying 79 = some (.pointer 124) := by kernel_rfl
theorem fi124_2 : fieldInfo Tryz.prog 124 2 = some (2,121,1) := by kernel_rfl
theorem sc121 : Scalar Tryz.prog 121 := ⟨(.map 3 134),by kernel_rfl,trivial⟩
theorem tu121 : Tryz.prog.underlying 121 = some (.map 3 134) := by kernel_rfl
theorem zi134 : (Tryz.prog.info? 134).map (·.zero) = some (some (.pointer none)) := by kernel_rfl
theorem tu42 : Tryz.prog.underlying 42 = some (.slice 3) := by kernel_rfl
theorem sz3 : ∃ q,Tryz.prog.info? 3 = some q ∧ q.size = 1 := size_mk' (by kernel_rfl)
theorem si3 : SizeIs Tryz.prog 3 1 8 := sizeIs_mk (by kernel_rfl)
theorem el42 : ElemAt Tryz.prog 42 3 1 [(.int .i64 0)] := elemAt_mk (zv := (.int .i64 0)) (by_ := 8) (by kernel_rfl) (by kernel_rfl) (by decide) (fun β => VRels.cons (.int _ _) (VRels.nil β)) rfl (by decide) rfl
theorem ext116 : ExtAt Tryz.prog 116 (Extern.SlicesOverlaps.overlaps #[42,42] #[4]) := ⟨Tryz.f116,Tryz.func116,by kernel_rfl,by kernel_rfl,by kernel_rfl,by kernel_rfl⟩
theorem tu96 : Tryz.prog.underlying 96 = some (.pointer 138) := by kernel_rfl
theorem fi138_0 : fieldInfo Tryz.prog 138 0 = some (0,42,1) := by kernel_rfl
theorem sc42 : Scalar Tryz.prog 42 := ⟨(.slice 3),by kernel_rfl,trivial⟩
theorem sz42 : ∃ q,Tryz.prog.info? 42 = some q ∧ q.size = 1 := size_mk' (by kernel_rfl)
theorem st138 : StructAt Tryz.prog 138 [(0,1)] [(Sl.hv Sl.nil)] := structAt_mk (zv := (.agg #[(.slice none 0 0)])) (by kernel_rfl) (by kernel_rfl) (fun β => VRels.cons (.slNil none) (VRels.nil β))
theorem st114 : StructAt Tryz.prog 114 [(0,1),(1,1),(2,1),(3,1),(4,1),(5,1),(6,1),(7,1),(8,1)] [(.str []),(.int .i64 0),(Sl.hv Sl.nil),(.str []),(.int .i64 0),(.str []),(.int .i64 0),(Sl.hv Sl.nil),(.ptr none)] := structAt_mk (zv := (.agg #[(.string ⟨#[]⟩),(.int .i64 0),(.slice none 0 0),(.string ⟨#[]⟩),(.int .i64 0),(.string ⟨#[]⟩),(.int .i64 0),(.slice none 0 0),(.pointer none)])) (by kernel_rfl) (by kernel_rfl) (fun β => VRels.cons (.str []) (VRels.cons (.int _ _) (VRels.cons (.slNil none) (VRels.cons (.str []) (VRels.cons (.int _ _) (VRels.cons (.str []) (VRels.cons (.int _ _) (VRels.cons (.slNil none) (VRels.cons (.ptrNil) (VRels.nil β))))))))))
theorem si9 : SizeIs Tryz.prog 9 1 16 := sizeIs_mk (by kernel_rfl)
theorem el57 : ElemAt Tryz.prog 57 9 1 [(.str [])] := elemAt_mk (zv := (.string ⟨#[]⟩)) (by_ := 16) (by kernel_rfl) (by kernel_rfl) (by decide) (fun β => VRels.cons (.str []) (VRels.nil β)) rfl (by decide) rfl
theorem ext133 : ExtAt Tryz.prog 133 (Extern.SlicesOverlaps.overlaps #[57,57] #[4]) := ⟨Tryz.f133,Tryz.func133,by kernel_rfl,by kernel_rfl,by kernel_rfl,by kernel_rfl⟩
theorem sz57 : ∃ q,Tryz.prog.info? 57 = some q ∧ q.size = 1 := size_mk' (by kernel_rfl)
theorem st159 : StructAt Tryz.prog 159 [(0,1)] [(Sl.hv Sl.nil)] := structAt_mk (zv := (.agg #[(.slice none 0 0)])) (by kernel_rfl) (by kernel_rfl) (fun β => VRels.cons (.slNil none) (VRels.nil β))
theorem tu122 : Tryz.prog.underlying 122 = some (.map 9 96) := by kernel_rfl
theorem zi96 : (Tryz.prog.info? 96).map (·.zero) = some (some (.pointer none)) := by kernel_rfl
theorem fi124_0 : fieldInfo Tryz.prog 124 0 = some (0,3,1) := by kernel_rfl
theorem fi124_3 : fieldInfo Tryz.prog 124 3 = some (3,122,1) := by kernel_rfl
theorem sc122 : Scalar Tryz.prog 122 := ⟨(.map 9 96),by kernel_rfl,trivial⟩
theorem fi124_1 : fieldInfo Tryz.prog 124 1 = some (1,3,1) := by kernel_rfl
theorem si133 : SizeIs Tryz.prog 133 2 24 := sizeIs_mk (by kernel_rfl)
theorem el118 : ElemAt Tryz.prog 118 133 2 [(.str []),(.ptr none)] := elemAt_mk (zv := (.agg #[(.string ⟨#[]⟩),(.pointer none)])) (by_ := 24) (by kernel_rfl) (by kernel_rfl) (by decide) (fun β => VRels.cons (.str []) (VRels.cons (.ptrNil) (VRels.nil β))) rfl (by decide) rfl
theorem ext108 : ExtAt Tryz.prog 108 (Extern.SlicesOverlaps.overlaps #[118,118] #[4]) := ⟨Tryz.f108,Tryz.func108,by kernel_rfl,by kernel_rfl,by kernel_rfl,by kernel_rfl⟩
theorem st133 : StructAt Tryz.prog 133 [(0,1),(1,1)] [(.str []),(.ptr none)] := structAt_mk (zv := (.agg #[(.string ⟨#[]⟩),(.pointer none)])) (by kernel_rfl) (by kernel_rfl) (fun β => VRels.cons (.str []) (VRels.cons (.ptrNil) (VRels.nil β)))
theorem fi120_0 : fieldInfo Tryz.prog 120 0 = some (0,3,1) := by kernel_rfl
theorem sz118 : ∃ q,Tryz.prog.info? 118 = some q ∧ q.size = 1 := size_mk' (by kernel_rfl)
theorem tu87 : Tryz.prog.underlying 87 = some (.slice 62) := by kernel_rfl
theorem sz62 : ∃ q,Tryz.prog.info? 62 = some q ∧ q.size = 3 := size_mk' (by kernel_rfl)
theorem ia62 : IsAgg Tryz.prog 62 3 := isAgg_mk2 (by kernel_rfl) (by kernel_rfl)
theorem fi62_0 : fieldInfo Tryz.prog 62 0 = some (0,3,1) := by kernel_rfl
theorem tu36 : Tryz.prog.underlying 36 = some (.pointer 114) := by kernel_rfl
theorem fi114_2 : fieldInfo Tryz.prog 114 2 = some (2,87,1) := by kernel_rfl
theorem sc87 : Scalar Tryz.prog 87 := ⟨(.slice 62),by kernel_rfl,trivial⟩
theorem si62 : SizeIs Tryz.prog 62 3 16 := sizeIs_mk (by kernel_rfl)
theorem el87 : ElemAt Tryz.prog 87 62 3 [(.int .i64 0),(.bool false),(.bool false)] := elemAt_mk (zv := (.agg #[(.int .i64 0),(.bool false),(.bool false)])) (by_ := 16) (by kernel_rfl) (by kernel_rfl) (by decide) (fun β => VRels.cons (.int _ _) (VRels.cons (.bool _) (VRels.cons (.bool _) (VRels.nil β)))) rfl (by decide) rfl
theorem ext110 : ExtAt Tryz.prog 110 (Extern.SlicesOverlaps.overlaps #[87,87] #[4]) := ⟨Tryz.f110,Tryz.func110,by kernel_rfl,by kernel_rfl,by kernel_rfl,by kernel_rfl⟩
theorem st62 : StructAt Tryz.prog 62 [(0,1),(1,1),(2,1)] [(.int .i64 0),(.bool false),(.bool false)] := structAt_mk (zv := (.agg #[(.int .i64 0),(.bool false),(.bool false)])) (by kernel_rfl) (by kernel_rfl) (fun β => VRels.cons (.int _ _) (VRels.cons (.bool _) (VRels.cons (.bool _) (VRels.nil β))))
theorem sz87 : ∃ q,Tryz.prog.info? 87 = some q ∧ q.size = 1 := size_mk' (by kernel_rfl)
theorem fi114_8 : fieldInfo Tryz.prog 114 8 = some (8,96,1) := by kernel_rfl
theorem sc96 : Scalar Tryz.prog 96 := ⟨(.pointer 138),by kernel_rfl,trivial⟩
theorem tu25 : Tryz.prog.underlying 25 = some (.pointer 83) := by kernel_rfl
theorem fi83_1 : fieldInfo Tryz.prog 83 1 = some (15,75,1) := by kernel_rfl
theorem sc75 : Scalar Tryz.prog 75 := ⟨(.pointer 120),by kernel_rfl,trivial⟩
theorem fi83_2 : fieldInfo Tryz.prog 83 2 = some (16,79,1) := by kernel_rfl
theorem sc79 : Scalar Tryz.prog 79 := ⟨(.pointer 124),by kernel_rfl,trivial⟩
theorem fi83_0 : fieldInfo Tryz.prog 83 0 = some (0,28,15) := by kernel_rfl
theorem fi28_8 : fieldInfo Tryz.prog 28 8 = some (8,3,1) := by kernel_rfl
theorem sc109 : Scalar Tryz.prog 109 := ⟨(.slice 36),by kernel_rfl,trivial⟩
theorem tu109 : Tryz.prog.underlying 109 = some (.slice 36) := by kernel_rfl
theorem sz36 : ∃ q,Tryz.prog.info? 36 = some q ∧ q.size = 1 := size_mk' (by kernel_rfl)
theorem zi109 : (Tryz.prog.info? 109).map (·.zero) = some (some (.slice none 0 0)) := by kernel_rfl
theorem zr109 : ∀ β,VRels β [(Sl.hv Sl.nil)] (Value.cells (.slice none 0 0)) := fun β => VRels.cons (.slNil none) (VRels.nil β)
theorem sc25 : Scalar Tryz.prog 25 := ⟨(.pointer 83),by kernel_rfl,trivial⟩
theorem el109 : ElemAt Tryz.prog 109 36 1 [(.ptr none)] := elemAt_mk (zv := (.pointer none)) (by_ := 8) (by kernel_rfl) (by kernel_rfl) (by decide) (fun β => VRels.cons (.ptrNil) (VRels.nil β)) rfl (by decide) rfl
theorem sz109 : ∃ q,Tryz.prog.info? 109 = some q ∧ q.size = 1 := size_mk' (by kernel_rfl)
theorem zi62 : (Tryz.prog.info? 62).map (·.zero) = some (some (.agg #[(.int .i64 0),(.bool false),(.bool false)])) := by kernel_rfl
theorem zr62 : ∀ β,VRels β [(.int .i64 0),(.bool false),(.bool false)] (Value.cells (.agg #[(.int .i64 0),(.bool false),(.bool false)])) := fun β => VRels.cons (.int _ _) (VRels.cons (.bool _) (VRels.cons (.bool _) (VRels.nil β)))
theorem tu144 : Tryz.prog.underlying 144 = some (.slice 42) := by kernel_rfl
theorem el144 : ElemAt Tryz.prog 144 42 1 [(Sl.hv Sl.nil)] := elemAt_mk (zv := (.slice none 0 0)) (by_ := 24) (by kernel_rfl) (by kernel_rfl) (by decide) (fun β => VRels.cons (.slNil none) (VRels.nil β)) rfl (by decide) rfl
theorem sc144 : Scalar Tryz.prog 144 := ⟨(.slice 42),by kernel_rfl,trivial⟩
theorem zi144 : (Tryz.prog.info? 144).map (·.zero) = some (some (.slice none 0 0)) := by kernel_rfl
theorem zr144 : ∀ β,VRels β [(Sl.hv Sl.nil)] (Value.cells (.slice none 0 0)) := fun β => VRels.cons (.slNil none) (VRels.nil β)
theorem tu95 : Tryz.prog.underlying 95 = some (.slice 96) := by kernel_rfl
theorem sz96 : ∃ q,Tryz.prog.info? 96 = some q ∧ q.size = 1 := size_mk' (by kernel_rfl)
theorem sz144 : ∃ q,Tryz.prog.info? 144 = some q ∧ q.size = 1 := size_mk' (by kernel_rfl)
theorem sc46 : Scalar Tryz.prog 46 := ⟨(.func #[85] #[] false),by kernel_rfl,trivial⟩
theorem tu46 : Tryz.prog.underlying 46 = some (.func #[85] #[] false) := by kernel_rfl
theorem sc85 : Scalar Tryz.prog 85 := ⟨(.func #[3] #[4] false),by kernel_rfl,trivial⟩
theorem zi95 : (Tryz.prog.info? 95).map (·.zero) = some (some (.slice none 0 0)) := by kernel_rfl
theorem zr95 : ∀ β,VRels β [(Sl.hv Sl.nil)] (Value.cells (.slice none 0 0)) := fun β => VRels.cons (.slNil none) (VRels.nil β)
theorem zr96 : ∀ β,VRels β [(.ptr none)] (Value.cells (.pointer none)) := fun β => VRels.cons (.ptrNil) (VRels.nil β)
theorem sc95 : Scalar Tryz.prog 95 := ⟨(.slice 96),by kernel_rfl,trivial⟩
theorem el95 : ElemAt Tryz.prog 95 96 1 [(.ptr none)] := elemAt_mk (zv := (.pointer none)) (by_ := 8) (by kernel_rfl) (by kernel_rfl) (by decide) (fun β => VRels.cons (.ptrNil) (VRels.nil β)) rfl (by decide) rfl
theorem sz95 : ∃ q,Tryz.prog.info? 95 = some q ∧ q.size = 1 := size_mk' (by kernel_rfl)
theorem zi42 : (Tryz.prog.info? 42).map (·.zero) = some (some (.slice none 0 0)) := by kernel_rfl
theorem zr42 : ∀ β,VRels β [(Sl.hv Sl.nil)] (Value.cells (.slice none 0 0)) := fun β => VRels.cons (.slNil none) (VRels.nil β)
theorem zi4 : (Tryz.prog.info? 4).map (·.zero) = some (some (.bool false)) := by kernel_rfl
theorem zr4 : ∀ β,VRels β [(.bool false)] (Value.cells (.bool false)) := fun β => VRels.cons (.bool _) (VRels.nil β)
theorem sz4 : ∃ q,Tryz.prog.info? 4 = some q ∧ q.size = 1 := size_mk' (by kernel_rfl)
theorem sc4 : Scalar Tryz.prog 4 := ⟨.bool,by kernel_rfl,trivial⟩
theorem st28 : StructAt Tryz.prog 28 [(0,1),(1,1),(2,1),(3,1),(4,1),(5,1),(6,1),(7,1),(8,1),(9,1),(10,1),(11,1),(12,1),(13,1),(14,1)] [(.str []),(.str []),(.str []),(.str []),(.int .i64 0),(.int .i64 0),(.int .i64 0),(.int .i64 0),(.int .i64 0),(.int .i64 0),(.int .i64 0),(.int .i64 0),(.int .i64 0),(.int .i64 0),(.int .i64 0)] := structAt_mk (zv := (.agg #[(.string ⟨#[]⟩),(.string ⟨#[]⟩),(.string ⟨#[]⟩),(.string ⟨#[]⟩),(.int .i64 0),(.int .i64 0),(.int .i64 0),(.int .i64 0),(.int .i64 0),(.int .i64 0),(.int .i64 0),(.int .i64 0),(.int .i64 0),(.int .i64 0),(.int .i64 0)])) (by kernel_rfl) (by kernel_rfl) (fun β => VRels.cons (.str []) (VRels.cons (.str []) (VRels.cons (.str []) (VRels.cons (.str []) (VRels.cons (.int _ _) (VRels.cons (.int _ _) (VRels.cons (.int _ _) (VRels.cons (.int _ _) (VRels.cons (.int _ _) (VRels.cons (.int _ _) (VRels.cons (.int _ _) (VRels.cons (.int _ _) (VRels.cons (.int _ _) (VRels.cons (.int _ _) (VRels.cons (.int _ _) (VRels.nil β))))))))))))))))
theorem tu22 : Tryz.prog.underlying 22 = some (.slice 34) := by kernel_rfl
theorem sz34 : ∃ q,Tryz.prog.info? 34 = some q ∧ q.size = 3 := size_mk' (by kernel_rfl)
theorem fi34_2 : fieldInfo Tryz.prog 34 2 = some (2,9,1) := by kernel_rfl
theorem zi133 : (Tryz.prog.info? 133).map (·.zero) = some (some (.agg #[(.string ⟨#[]⟩),(.pointer none)])) := by kernel_rfl
theorem zr133 : ∀ β,VRels β [(.str []),(.ptr none)] (Value.cells (.agg #[(.string ⟨#[]⟩),(.pointer none)])) := fun β => VRels.cons (.str []) (VRels.cons (.ptrNil) (VRels.nil β))
theorem sc107 : Scalar Tryz.prog 107 := ⟨(.func #[147] #[] false),by kernel_rfl,trivial⟩
theorem sc105 : Scalar Tryz.prog 105 := ⟨(.func #[36] #[4] false),by kernel_rfl,trivial⟩
theorem zi107 : (Tryz.prog.info? 107).map (·.zero) = some (some .nilFunc) := by kernel_rfl
theorem zr107 : ∀ β,VRels β [.nilFn] (Value.cells .nilFunc) := fun β => VRels.cons (.nilFn) (VRels.nil β)
theorem sz107 : ∃ q,Tryz.prog.info? 107 = some q ∧ q.size = 1 := size_mk' (by kernel_rfl)
theorem fi114_0 : fieldInfo Tryz.prog 114 0 = some (0,9,1) := by kernel_rfl
theorem zi3 : (Tryz.prog.info? 3).map (·.zero) = some (some (.int .i64 0)) := by kernel_rfl
theorem zr3 : ∀ β,VRels β [(.int .i64 0)] (Value.cells (.int .i64 0)) := fun β => VRels.cons (.int _ _) (VRels.nil β)
theorem tu54 : Tryz.prog.underlying 54 = some (.func #[105] #[] false) := by kernel_rfl
theorem sc30 : Scalar Tryz.prog 30 := ⟨(.slice 39),by kernel_rfl,trivial⟩
theorem tu30 : Tryz.prog.underlying 30 = some (.slice 39) := by kernel_rfl
theorem sz39 : ∃ q,Tryz.prog.info? 39 = some q ∧ q.size = 1 := size_mk' (by kernel_rfl)
theorem sc39 : Scalar Tryz.prog 39 := ⟨(.pointer 89),by kernel_rfl,trivial⟩
theorem fi89_0 : fieldInfo Tryz.prog 89 0 = some (0,9,1) := by kernel_rfl
theorem fi89_2 : fieldInfo Tryz.prog 89 2 = some (2,87,1) := by kernel_rfl
theorem eg62 : Tryz.prog.eqGuardType Tryz.prog.depth 62 = false := by kernel_rfl
theorem sk62 : structChk Tryz.prog 62 [0,2,2] = true := by kernel_rfl
theorem fi34_1 : fieldInfo Tryz.prog 34 1 = some (1,3,1) := by kernel_rfl
namespace book_New_room_Room
theorem at_ : FnAt Tryz.prog 36 Tryz.f36 := ⟨Tryz.func36,by kernel_rfl⟩
def d0 := (Tryz.f36.body).getD .skip
def r1 := kR (kA d0)
def r4 := kR (kA (kA (kB d0)))
def r7 := kR (kA (kA (kB (kA (kB d0)))))
def r11 := kR (kA (kB (kB d0)))
def c10 : Code := .seq (.region 3 r11 false) .ret
def c5 : Code := .cond (.tmp 9) (.seq (.region 2 r7 false) .ret) .skip
def c0 : Code := .seq (.region 0 r1 false) (.seq (.seq (.region 1 r4 false) c5) c10)
theorem body : Tryz.f36.body = some c0 := by kernel_rfl
def J0  (y0 : Int) (y9 : Bool) (S : HS) : Option ((HP × Int) × HS) :=
 (if y9 = true then
 some ((none,2),S) else
 (letv (HS.new S (.cells 2 [[(.int .i64 y0),(Sl.hv Sl.nil)]] true)) fun p3 =>
 some (((some (HA.cell0 S.next)),0),p3)))
theorem J0_snd   {y0 : Int} {y9 : Bool} {S : HS} {p : (HP × Int) × HS} (h : J0  y0 y9 S = some p) : HR base W0 β0 36 none [.code c5,.code c10] ⟨[(.int .i64 y0),Gb,Gc,Gd,Ge,Gf,Gg,Gh,Gi,(.bool y9),Gk,Gl,Gm],[]⟩ S (fun v S1 => v = (.tup [(.ptr p.1.1),(.int .i64 p.1.2)]) ∧ S1 = p.2) := by
 unfold J0 at h
 rcases ifc h with ⟨hc2,h⟩ | ⟨hc2,h⟩
 ·refine q_cond_t rfl (.tmp rfl) hc2 (qQ rfl (qR rfl rfl (qS 2 rfl (ok_assign · (.const fun _ => .ptrNil)) (qS 3 rfl (ok_assign · (.int _ _)) (rE ?_)))))
  cases h
  exact q_ret rfl at_.at_ rfl (res2 rfl rfl rfl) ⟨rfl,rfl⟩
 ·obtain ⟨p3,hp3,h⟩ := leto h
  refine q_cond_f rfl (.tmp rfl) (bfalse hc2) (q_skipc rfl (qQ rfl (qR rfl rfl (qS 10 rfl (oM · rfl) (qS 11 rfl (ok_build (is := [0]) (xs := [(.tmp 10)]) (r := [(.int .i64 y0),(Sl.hv Sl.nil)]) st120 · rfl rfl (.cons (.tmp rfl) Evs.nil) rfl) (qS 12 rfl (ok_box_e · (.tmp rfl) (Nat.zero_lt_succ _) rfl hp3) (qS 2 rfl (oA · rfl) ?_)))))))
  try dsimp only [w0,w1,w2,w3]
  refine qS 3 rfl (ok_assign · (.int _ _)) (rE ?_)
  cases h
  exact q_ret rfl at_.at_ rfl (res2 rfl rfl rfl) ⟨rfl,rfl⟩
def f (x0 : Int) (S : HS) : Option ((HP × Int) × HS) :=
 (if x0 < 0 then
 J0 x0 true S else
 J0 x0 (decide (x0 > 100000)) S)
theorem snd {x0 : Int} {S : HS}  {p : (HP × Int) × HS} (h : f x0 S = some p) : HCall Tryz.prog base W0 β0 36 [(.int .i64 x0)] S (fun v S1 => v = (.tup [(.ptr p.1.1),(.int .i64 p.1.2)]) ∧ S1 = p.2) := by
 unfold f at h
 refine HCall.of_run at_.at_ body ?_
 show HR base W0 β0 36 none [.code c0] ⟨[(.int .i64 x0),τ,τ,τ,τ,τ,τ,τ,τ,τ,τ,τ,τ],[]⟩ S _
 refine qQ rfl (qR rfl rfl (qS 2 rfl (ok_assign · (.const fun _ => .ptrNil)) (qS 3 rfl (ok_assign · (.int _ _)) (rE ?_))))
 try dsimp only [w0,w1,w2,w3]
 refine qQ rfl (qQ rfl (qR rfl rfl (qS 4 rfl (oM · rfl) (qS 5 rfl (oC · rfl rfl) (qS 6 rfl (oM · rfl) ?_)))))
 rcases ifc h with ⟨hc1,h⟩ | ⟨hc1,h⟩
 ·refine q_skip (dst := some 7) (t := 6) rfl rfl rfl (decide_eq_true hc1) ?_
  try dsimp only [w0,w1,w2,w3]
  refine q_skip (dst := some 8) (t := 6) rfl rfl rfl (decide_eq_true hc1) (qS 9 rfl (ok_pick_tt · (.tmp rfl) (decide_eq_true hc1) (.bool _)) (rE ?_))
  try dsimp only [w0,w1,w2,w3]
  exact J0_snd  h
 ·refine qG 6 7 rfl (decide_eq_false hc1) (oM · rfl) ?_
  try dsimp only [w0,w1,w2,w3]
  refine qG 6 8 rfl (decide_eq_false hc1) (oC · rfl rfl) (qS 9 rfl (ok_pick_ff · (.tmp rfl) (decide_eq_false hc1) (.tmp rfl)) (rE ?_))
  try dsimp only [w0,w1,w2,w3]
  exact J0_snd  h
end book_New_room_Room
namespace pair_New_int_string
theorem at_ : FnAt Tryz.prog 37 Tryz.f37 := ⟨Tryz.func37,by kernel_rfl⟩
def d0 := (Tryz.f37.body).getD .skip
def r1 := kR (kA d0)
def r4 := kR (kA (kA (kB d0)))
def r7 := kR (kA (kA (kB (kA (kB d0)))))
def r11 := kR (kA (kB (kB d0)))
def c10 : Code := .seq (.region 3 r11 false) .ret
def c5 : Code := .cond (.tmp 9) (.seq (.region 2 r7 false) .ret) .skip
def c0 : Code := .seq (.region 0 r1 false) (.seq (.seq (.region 1 r4 false) c5) c10)
theorem body : Tryz.f37.body = some c0 := by kernel_rfl
def J0  (y0 : Int) (y9 : Bool) (S : HS) : Option ((HP × Int) × HS) :=
 (if y9 = true then
 some ((none,2),S) else
 (letv (HS.new S (.map [])) fun p3 =>
 (letv (HS.new p3 (.map [])) fun p4 =>
 (letv (HS.new p4 (.cells 4 [[(.int .i64 y0),(.int .i64 0),(.map (some S.next)),(.map (some p3.next))]] true)) fun p5 =>
 some (((some (HA.cell0 p4.next)),0),p5)))))
theorem J0_snd   {y0 : Int} {y9 : Bool} {S : HS} {p : (HP × Int) × HS} (h : J0  y0 y9 S = some p) : HR base W0 β0 37 none [.code c5,.code c10] ⟨[(.int .i64 y0),Gb,Gc,Gd,Ge,Gf,Gg,Gh,Gi,(.bool y9),Gk,Gl,Gm,Gn,Go],[]⟩ S (fun v S1 => v = (.tup [(.ptr p.1.1),(.int .i64 p.1.2)]) ∧ S1 = p.2) := by
 unfold J0 at h
 rcases ifc h with ⟨hc2,h⟩ | ⟨hc2,h⟩
 ·refine q_cond_t rfl (.tmp rfl) hc2 (qQ rfl (qR rfl rfl (qS 2 rfl (ok_assign · (.const fun _ => .ptrNil)) (qS 3 rfl (ok_assign · (.int _ _)) (rE ?_)))))
  cases h
  exact q_ret rfl at_.at_ rfl (res2 rfl rfl rfl) ⟨rfl,rfl⟩
 ·obtain ⟨p3,hp3,h⟩ := leto h
  obtain ⟨p4,hp4,h⟩ := leto h
  refine q_cond_f rfl (.tmp rfl) (bfalse hc2) (q_skipc rfl (qQ rfl (qR rfl rfl (qS 10 rfl (oM · rfl) (qS 11 rfl (ok_makeMap_e · hp3) (qS 12 rfl (ok_makeMap_e · hp4) (qS 13 rfl (ok_build (is := [0,2,3]) (xs := [(.tmp 10),(.tmp 11),(.tmp 12)]) (r := [(.int .i64 y0),(.int .i64 0),(.map (some S.next)),(.map (some p3.next))]) st124 · rfl rfl (.cons (.tmp rfl) (.cons (.tmp rfl) (.cons (.tmp rfl) Evs.nil))) rfl) ?_)))))))
  try dsimp only [w0,w1,w2,w3]
  obtain ⟨p5,hp5,h⟩ := leto h
  refine qS 14 rfl (ok_box_e · (.tmp rfl) (Nat.zero_lt_succ _) rfl hp5) (qS 2 rfl (oA · rfl) (qS 3 rfl (ok_assign · (.int _ _)) (rE ?_)))
  cases h
  exact q_ret rfl at_.at_ rfl (res2 rfl rfl rfl) ⟨rfl,rfl⟩
def f (x0 : Int) (S : HS) : Option ((HP × Int) × HS) :=
 (if x0 < 0 then
 J0 x0 true S else
 J0 x0 (decide (x0 > 100000)) S)
theorem snd {x0 : Int} {S : HS}  {p : (HP × Int) × HS} (h : f x0 S = some p) : HCall Tryz.prog base W0 β0 37 [(.int .i64 x0)] S (fun v S1 => v = (.tup [(.ptr p.1.1),(.int .i64 p.1.2)]) ∧ S1 = p.2) := by
 unfold f at h
 refine HCall.of_run at_.at_ body ?_
 show HR base W0 β0 37 none [.code c0] ⟨[(.int .i64 x0),τ,τ,τ,τ,τ,τ,τ,τ,τ,τ,τ,τ,τ,τ],[]⟩ S _
 refine qQ rfl (qR rfl rfl (qS 2 rfl (ok_assign · (.const fun _ => .ptrNil)) (qS 3 rfl (ok_assign · (.int _ _)) (rE ?_))))
 try dsimp only [w0,w1,w2,w3]
 refine qQ rfl (qQ rfl (qR rfl rfl (qS 4 rfl (oM · rfl) (qS 5 rfl (oC · rfl rfl) (qS 6 rfl (oM · rfl) ?_)))))
 rcases ifc h with ⟨hc1,h⟩ | ⟨hc1,h⟩
 ·refine q_skip (dst := some 7) (t := 6) rfl rfl rfl (decide_eq_true hc1) ?_
  try dsimp only [w0,w1,w2,w3]
  refine q_skip (dst := some 8) (t := 6) rfl rfl rfl (decide_eq_true hc1) (qS 9 rfl (ok_pick_tt · (.tmp rfl) (decide_eq_true hc1) (.bool _)) (rE ?_))
  try dsimp only [w0,w1,w2,w3]
  exact J0_snd  h
 ·refine qG 6 7 rfl (decide_eq_false hc1) (oM · rfl) ?_
  try dsimp only [w0,w1,w2,w3]
  refine qG 6 8 rfl (decide_eq_false hc1) (oC · rfl rfl) (qS 9 rfl (ok_pick_ff · (.tmp rfl) (decide_eq_false hc1) (.tmp rfl)) (rE ?_))
  try dsimp only [w0,w1,w2,w3]
  exact J0_snd  h
end pair_New_int_string
namespace rooms_New
theorem at_ : FnAt Tryz.prog 9 Tryz.f9 := ⟨Tryz.func9,by kernel_rfl⟩
def d0 := (Tryz.f9.body).getD .skip
def r1 := kR (kA d0)
def r3 := kR (kA (kB d0))
def r5 := kR (kA (kB (kB d0)))
def r7 := kR (kA (kB (kB (kB d0))))
def c0 : Code := .seq (.region 0 r1 false) (.seq (.region 1 r3 false) (.seq (.region 2 r5 false) (.seq (.region 3 r7 false) .ret)))
theorem body : Tryz.f9.body = some c0 := by kernel_rfl
def f (x0_0 : (List UInt8)) (x0_1 : (List UInt8)) (x0_2 : (List UInt8)) (x0_3 : (List UInt8)) (x0_4 : Int) (x0_5 : Int) (x0_6 : Int) (x0_7 : Int) (x0_8 : Int) (x0_9 : Int) (x0_10 : Int) (x0_11 : Int) (x0_12 : Int) (x0_13 : Int) (x0_14 : Int) (S : HS) : Option ((HP) × HS) :=
 (letv (HS.new S (.cells 15 [[(.str x0_0),(.str x0_1),(.str x0_2),(.str x0_3),(.int .i64 x0_4),(.int .i64 x0_5),(.int .i64 x0_6),(.int .i64 x0_7),(.int .i64 x0_8),(.int .i64 x0_9),(.int .i64 x0_10),(.int .i64 x0_11),(.int .i64 x0_12),(.int .i64 x0_13),(.int .i64 x0_14)]] true)) fun p1 =>
 ((p1.ldI .i64 (HA.fld (HA.cell0 S.next) 7)).bind fun p2 =>
 ((book_New_room_Room.f (mx 0 (mn p2 1000)) p1).bind fun p3 =>
 ((p3.2.ldI .i64 (HA.fld (HA.cell0 S.next) 6)).bind fun p4 =>
 ((pair_New_int_string.f (mx 0 (mn p4 1000)) p3.2).bind fun p5 =>
 ((p5.2.ldS (HA.fld (HA.cell0 S.next) 0)).bind fun p6 =>
 ((p5.2.ldS (HA.fld (HA.cell0 S.next) 1)).bind fun p7 =>
 ((p5.2.ldS (HA.fld (HA.cell0 S.next) 2)).bind fun p8 =>
 ((p5.2.ldS (HA.fld (HA.cell0 S.next) 3)).bind fun p9 =>
 ((p5.2.ldI .i64 (HA.fld (HA.cell0 S.next) 4)).bind fun p10 =>
 ((p5.2.ldI .i64 (HA.fld (HA.cell0 S.next) 5)).bind fun p11 =>
 ((p5.2.ldI .i64 (HA.fld (HA.cell0 S.next) 6)).bind fun p12 =>
 ((p5.2.ldI .i64 (HA.fld (HA.cell0 S.next) 7)).bind fun p13 =>
 ((p5.2.ldI .i64 (HA.fld (HA.cell0 S.next) 8)).bind fun p14 =>
 ((p5.2.ldI .i64 (HA.fld (HA.cell0 S.next) 9)).bind fun p15 =>
 ((p5.2.ldI .i64 (HA.fld (HA.cell0 S.next) 10)).bind fun p16 =>
 ((p5.2.ldI .i64 (HA.fld (HA.cell0 S.next) 11)).bind fun p17 =>
 ((p5.2.ldI .i64 (HA.fld (HA.cell0 S.next) 12)).bind fun p18 =>
 ((p5.2.ldI .i64 (HA.fld (HA.cell0 S.next) 13)).bind fun p19 =>
 ((p5.2.ldI .i64 (HA.fld (HA.cell0 S.next) 14)).bind fun p20 =>
 (letv (HS.new p5.2 (.cells 17 [[(.str p6),(.str p7),(.str p8),(.str p9),(.int .i64 p10),(.int .i64 p11),(.int .i64 p12),(.int .i64 p13),(.int .i64 p14),(.int .i64 p15),(.int .i64 p16),(.int .i64 p17),(.int .i64 p18),(.int .i64 p19),(.int .i64 p20),(.ptr p3.1.1),(.ptr p5.1.1)]] true)) fun p21 =>
 some ((some (HA.cell0 p5.2.next)),p21))))))))))))))))))))))
theorem snd {x0_0 : (List UInt8)} {x0_1 : (List UInt8)} {x0_2 : (List UInt8)} {x0_3 : (List UInt8)} {x0_4 : Int} {x0_5 : Int} {x0_6 : Int} {x0_7 : Int} {x0_8 : Int} {x0_9 : Int} {x0_10 : Int} {x0_11 : Int} {x0_12 : Int} {x0_13 : Int} {x0_14 : Int} {S : HS}  {p : (HP) × HS} (h : f x0_0 x0_1 x0_2 x0_3 x0_4 x0_5 x0_6 x0_7 x0_8 x0_9 x0_10 x0_11 x0_12 x0_13 x0_14 S = some p) : HCall Tryz.prog base W0 β0 9 [(.agg [(.str x0_0),(.str x0_1),(.str x0_2),(.str x0_3),(.int .i64 x0_4),(.int .i64 x0_5),(.int .i64 x0_6),(.int .i64 x0_7),(.int .i64 x0_8),(.int .i64 x0_9),(.int .i64 x0_10),(.int .i64 x0_11),(.int .i64 x0_12),(.int .i64 x0_13),(.int .i64 x0_14)])] S (fun v S1 => v = (.ptr p.1) ∧ S1 = p.2) := by
 unfold f at h
 refine HCall.of_run at_.at_ body ?_
 show HR base W0 β0 9 none [.code c0] ⟨[(.agg [(.str x0_0),(.str x0_1),(.str x0_2),(.str x0_3),(.int .i64 x0_4),(.int .i64 x0_5),(.int .i64 x0_6),(.int .i64 x0_7),(.int .i64 x0_8),(.int .i64 x0_9),(.int .i64 x0_10),(.int .i64 x0_11),(.int .i64 x0_12),(.int .i64 x0_13),(.int .i64 x0_14)]),τ,τ,τ,τ,τ,τ,τ,τ,τ,τ,τ,τ,τ,τ,τ,τ,τ,τ,τ,τ,τ,τ,τ,τ,τ,τ,τ],[]⟩ S _
 obtain ⟨p1,hp1,h⟩ := leto h
 refine qQ rfl (qR rfl rfl (qS 1 rfl (ok_box_e · (.tmp rfl) (Nat.zero_lt_succ _) rfl hp1) (qS 2 rfl (ok_assign · (.const fun _ => .ptrNil)) (rE ?_))))
 try dsimp only [w0,w1,w2,w3]
 obtain ⟨p2,hp2,h⟩ := bindo h
 refine qQ rfl (qR rfl rfl (qS 8 rfl (oF · fi28_7 (by decide) rfl rfl) (qS 9 rfl (oL · sc3 rfl rfl (ldI_out hp2)) (qS 10 rfl (ok_min · (.tmp rfl) (.int _ _)) (qS 11 rfl (ok_max · (.int _ _) (.tmp rfl)) ?_)))))
 try dsimp only [w0,w1,w2,w3]
 obtain ⟨p3,hp3,h⟩ := bindo h
 refine q_call (dst := some 12) rfl (.func _) (.cons (.tmp rfl) Evs.nil) (HInv.static book_New_room_Room.at_ book_New_room_Room.body (book_New_room_Room.snd  hp3)) ?_
 rintro _ _ ⟨rfl,rfl⟩
 refine qS 7 rfl (oM · rfl) (qS 13 rfl (ok_extract · (.tmp rfl) rfl) (qS 14 rfl (ok_extract · (.tmp rfl) rfl) ?_))
 try dsimp only [w0,w1,w2,w3]
 refine qS 3 rfl (oA · rfl) (qS 4 rfl (oA · rfl) (rE ?_))
 try dsimp only [w0,w1,w2,w3]
 obtain ⟨p4,hp4,h⟩ := bindo h
 refine qQ rfl (qR rfl rfl (qS 16 rfl (oF · fi28_6 (by decide) rfl rfl) (qS 17 rfl (oL · sc3 rfl rfl (ldI_out hp4)) (qS 18 rfl (ok_min · (.tmp rfl) (.int _ _)) (qS 19 rfl (ok_max · (.int _ _) (.tmp rfl)) ?_)))))
 try dsimp only [w0,w1,w2,w3]
 obtain ⟨p5,hp5,h⟩ := bindo h
 refine q_call (dst := some 20) rfl (.func _) (.cons (.tmp rfl) Evs.nil) (HInv.static pair_New_int_string.at_ pair_New_int_string.body (pair_New_int_string.snd  hp5)) ?_
 rintro _ _ ⟨rfl,rfl⟩
 refine qS 15 rfl (oM · rfl) (qS 21 rfl (ok_extract · (.tmp rfl) rfl) (qS 22 rfl (ok_extract · (.tmp rfl) rfl) ?_))
 try dsimp only [w0,w1,w2,w3]
 refine qS 5 rfl (oA · rfl) (qS 6 rfl (oA · rfl) (rE ?_))
 try dsimp only [w0,w1,w2,w3]
 obtain ⟨p6,hp6,h⟩ := bindo h
 obtain ⟨p7,hp7,h⟩ := bindo h
 obtain ⟨p8,hp8,h⟩ := bindo h
 obtain ⟨p9,hp9,h⟩ := bindo h
 obtain ⟨p10,hp10,h⟩ := bindo h
 obtain ⟨p11,hp11,h⟩ := bindo h
 obtain ⟨p12,hp12,h⟩ := bindo h
 obtain ⟨p13,hp13,h⟩ := bindo h
 obtain ⟨p14,hp14,h⟩ := bindo h
 obtain ⟨p15,hp15,h⟩ := bindo h
 obtain ⟨p16,hp16,h⟩ := bindo h
 obtain ⟨p17,hp17,h⟩ := bindo h
 obtain ⟨p18,hp18,h⟩ := bindo h
 obtain ⟨p19,hp19,h⟩ := bindo h
 obtain ⟨p20,hp20,h⟩ := bindo h
 refine qQ rfl (qR rfl rfl (qS 23 rfl (ok_load_a (vs := [(.str p6),(.str p7),(.str p8),(.str p9),(.int .i64 p10),(.int .i64 p11),(.int .i64 p12),(.int .i64 p13),(.int .i64 p14),(.int .i64 p15),(.int .i64 p16),(.int .i64 p17),(.int .i64 p18),(.int .i64 p19),(.int .i64 p20)]) · ia28 (.tmp rfl) rfl ⟨ldS_out hp6,ldS_out hp7,ldS_out hp8,ldS_out hp9,ldI_out hp10,ldI_out hp11,ldI_out hp12,ldI_out hp13,ldI_out hp14,ldI_out hp15,ldI_out hp16,ldI_out hp17,ldI_out hp18,ldI_out hp19,ldI_out hp20,trivial⟩ (by simp)) (qS 24 rfl (oM · rfl) (qS 25 rfl (oM · rfl) (qS 26 rfl (ok_build (is := [0,1,2]) (xs := [(.tmp 23),(.tmp 24),(.tmp 25)]) (r := [(.str p6),(.str p7),(.str p8),(.str p9),(.int .i64 p10),(.int .i64 p11),(.int .i64 p12),(.int .i64 p13),(.int .i64 p14),(.int .i64 p15),(.int .i64 p16),(.int .i64 p17),(.int .i64 p18),(.int .i64 p19),(.int .i64 p20),(.ptr p3.1.1),(.ptr p5.1.1)]) st83 · rfl rfl (.cons (.tmp rfl) (.cons (.tmp rfl) (.cons (.tmp rfl) Evs.nil))) rfl) ?_)))))
 try dsimp only [w0,w1,w2,w3]
 obtain ⟨p21,hp21,h⟩ := leto h
 refine qS 27 rfl (ok_box_e · (.tmp rfl) (Nat.zero_lt_succ _) rfl hp21) (qS 2 rfl (oA · rfl) (rE ?_))
 cases h
 exact q_ret rfl at_.at_ rfl (res1 rfl rfl) ⟨rfl,rfl⟩
end rooms_New
namespace slices_BinarySearchFunc_book_entry_room_Room_book_entry_room_Room_string
theorem at_ : FnAt Tryz.prog 102 Tryz.f102 := ⟨Tryz.func102,by kernel_rfl⟩
def d0 := (Tryz.f102.body).getD .skip
def r1 := kR (kA d0)
def r3 := kR (kA (kB d0))
def r5 := kR (kA (kB (kB d0)))
def d6 := kB (kB (kB d0))
def d9 := kA (kA (kA d6))
def r11 := kR (kA (kA d9))
def r17 := kR (kA (kA (kB d9)))
def r19 := kR (kA (kB (kA (kB d9))))
def r21 := kR (kA (kB (kB (kA (kB d9)))))
def r22 := kR (kB (kB (kB (kA (kB d9)))))
def r24 := kR (kA (kB d6))
def c25 : Code := .ret
def c23 : Code := .seq (.region 8 r24 false) c25
def c9 : Code := .seq (.seq (.region 3 r11 false) (.cond (.tmp 17) .skip (.exit 0))) (.block 1 (.seq (.region 4 r17 false) (.seq (.region 5 r19 false) (.cond (.tmp 31) (.region 6 r21 false) (.region 7 r22 false)))))
def c0 : Code := .seq (.region 0 r1 false) (.seq (.region 1 r3 false) (.seq (.region 2 r5 false) (.seq (.block 0 (.loop c9)) c23)))
theorem body : Tryz.f102.body = some c0 := by kernel_rfl
def J1 (D : Dp) (H : Hd) (k : Nat) (y35 : Int) (y48 : Bool) (S : HS) : Option ((Int × Bool) × HS) :=
 some ((y35,y48),S)
theorem J1_snd (hD : DS base W0 D) (hH : HT base W0 β0 H)  {y35 : Int} {y48 : Bool} {S : HS} {p : (Int × Bool) × HS} (h : J1 D H k y35 y48 S = some p) : HR base W0 β0 102 none [.inRegion r24 [14,15],.code c25] ⟨[Ga,Gb,Gc,Gd,Ge,Gf,Gg,Gh,Gi,Gj,Gk,Gl,Gm,Gn,Go,Gp,Gq,Gr,Gs,Gt,Gu,Gv,Gw,Gx,Gy,Gz,Ka,Kb,Kc,Kd,Ke,Kf,Kg,Kh,Ki,(.int .i64 y35),Kk,Kl,Km,Kn,Ko,Kp,Kq,Kr,Ks,Kt,Ku,Kv,(.bool y48)],[]⟩ S (fun v S1 => v = (.tup [(.int .i64 p.1.1),(.bool p.1.2)]) ∧ S1 = p.2) := by
 unfold J1 at h
 refine qS 6 rfl (oA · rfl) (qS 7 rfl (oA · rfl) (rE ?_))
 cases h
 exact q_ret rfl at_.at_ rfl (res2 rfl rfl rfl) ⟨rfl,rfl⟩
def L0 (D : Dp) (H : Hd) (k : Nat) : Nat → Sl → (List UInt8) → HV → Int → Int → Int → HS → Option ((Int × Bool) × HS)
 | 0,_,_,_,_,_,_,_ => none
 | n + 1,y0,y1,y2,y8,y9,y10,S =>
  (if y9 < y10 then
  ((S.idx y0 (w64 (Int.fdiv (IntKind.wrap .u64 (w64 (y9 + y10))) (2 ^ (min (Int.toNat 1) (IntKind.bits .u64))))) 2).bind fun p2 =>
  ((S.ldS (HA.fld p2 0)).bind fun p3 =>
  ((S.ldP (HA.fld p2 1)).bind fun p4 =>
  ((D H y2 [(.agg [(.str p3),(.ptr p4)]),(.str y1)] S).bind fun p5 =>
  ((dI .i64 p5.1).bind fun p6 =>
  (if p6 < 0 then
  (L0 D H k n) y0 y1 y2 y8 (w64 ((w64 (Int.fdiv (IntKind.wrap .u64 (w64 (y9 + y10))) (2 ^ (min (Int.toNat 1) (IntKind.bits .u64))))) + 1)) y10 p5.2 else
  (L0 D H k n) y0 y1 y2 y8 y9 (w64 (Int.fdiv (IntKind.wrap .u64 (w64 (y9 + y10))) (2 ^ (min (Int.toNat 1) (IntKind.bits .u64))))) p5.2)))))) else
  (if y9 < y8 then
  ((S.idx y0 y9 2).bind fun p9 =>
  ((S.ldS (HA.fld p9 0)).bind fun p10 =>
  ((S.ldP (HA.fld p9 1)).bind fun p11 =>
  ((D H y2 [(.agg [(.str p10),(.ptr p11)]),(.str y1)] S).bind fun p12 =>
  ((dI .i64 p12.1).bind fun p13 =>
  J1 D H k y9 (decide (p13 = 0)) p12.2))))) else
  J1 D H k y9 false S))
theorem L0_snd (hD : DS base W0 D) (hH : HT base W0 β0 H)  : ∀ {n : Nat} ⦃y0 : Sl⦄ ⦃y1 : (List UInt8)⦄ ⦃y2 : HV⦄ ⦃y8 : Int⦄ ⦃y9 : Int⦄ ⦃y10 : Int⦄ ⦃S : HS⦄ ⦃p : (Int × Bool) × HS⦄ ⦃Gd Ge Gf Gg Gh Gl Gm Gn Go Gp Gq Gr Gs Gt Gu Gv Gw Gx Gy Gz Ka Kb Kc Kd Ke Kf Kg Kh Ki Kj Kk Kl Km Kn Ko Kp Kq Kr Ks Kt Ku Kv Kw : HV⦄,L0 D H k n y0 y1 y2 y8 y9 y10 S = some p → HR base W0 β0 102 none [.inLoop c9,.inBlock 0,.code c23] ⟨[(Sl.hv y0),(.str y1),y2,Gd,Ge,Gf,Gg,Gh,(.int .i64 y8),(.int .i64 y9),(.int .i64 y10),Gl,Gm,Gn,Go,Gp,Gq,Gr,Gs,Gt,Gu,Gv,Gw,Gx,Gy,Gz,Ka,Kb,Kc,Kd,Ke,Kf,Kg,Kh,Ki,Kj,Kk,Kl,Km,Kn,Ko,Kp,Kq,Kr,Ks,Kt,Ku,Kv,Kw],[]⟩ S (fun v S1 => v = (.tup [(.int .i64 p.1.1),(.bool p.1.2)]) ∧ S1 = p.2) := by
 intro n
 induction n with
 | zero => intro _ _ _ _ _ _ _ _ _ _ _ _ _ _ _ _ _ _ _ _ _ _ _ _ _ _ _ _ _ _ _ _ _ _ _ _ _ _ _ _ _ _ _ _ _ _ _ _ _ _ _ h; cases h
 | succ n ih =>
  intro y0 y1 y2 y8 y9 y10 S p Gd Ge Gf Gg Gh Gl Gm Gn Go Gp Gq Gr Gs Gt Gu Gv Gw Gx Gy Gz Ka Kb Kc Kd Ke Kf Kg Kh Ki Kj Kk Kl Km Kn Ko Kp Kq Kr Ks Kt Ku Kv Kw h
  simp only [L0] at h
  refine hr_inLoop (qQ rfl (qQ rfl (qR rfl rfl (qS 15 rfl (oM · rfl) (qS 16 rfl (oM · rfl) (qS 17 rfl (oB · rfl rfl rfl) (rE ?_)))))))
  try dsimp only [w0,w1,w2,w3]
  rcases ifc h with ⟨hc1,h⟩ | ⟨hc1,h⟩
  ·refine q_cond_t rfl (.tmp rfl) (decide_eq_true hc1) (q_skipc rfl (q_block rfl (qQ rfl (qR rfl rfl (qS 18 rfl (oM · rfl) (qS 19 rfl (oM · rfl) (qS 20 rfl (oB · rfl rfl rfl) (qS 21 rfl (ok_conv_int · tu3 tu166 (.tmp rfl)) ?_))))))))
   try dsimp only [w0,w1,w2,w3]
   refine qS 22 rfl (ok_shr · (.tmp rfl) (.int _ _) (by decide)) (qS 23 rfl (ok_conv_int · tu166 tu3 (.tmp rfl)) (qS 11 rfl (oA · rfl) (rE ?_)))
   try dsimp only [w0,w1,w2,w3]
   obtain ⟨p2,hp2,h⟩ := bindo h
   refine qQ rfl (qR rfl rfl (qS 24 rfl (oM · rfl) (qS 25 rfl (oM · rfl) (qS 26 rfl (oM · rfl) (qS 27 rfl (oX (s := y0) · tu118 sz133 rfl rfl hp2) ?_)))))
   try dsimp only [w0,w1,w2,w3]
   obtain ⟨p3,hp3,h⟩ := bindo h
   obtain ⟨p4,hp4,h⟩ := bindo h
   obtain ⟨p5,hp5,h⟩ := bindo h
   obtain ⟨p6,hp6,h⟩ := bindo h
   refine qS 28 rfl (ok_load_a (vs := [(.str p3),(.ptr p4)]) · ia133 (.tmp rfl) rfl ⟨ldS_out hp3,ldP_out hp4,trivial⟩ (by simp)) (qS 29 rfl (oM · rfl) (q_call (dst := some 30) rfl (.tmp rfl) (.cons (.tmp rfl) (.cons (.tmp rfl) Evs.nil)) (hD _ _ hH _ _ _ _ _ hp5) ?_))
   rintro _ _ ⟨rfl,rfl⟩
   rw [dI_out hp6]
   refine qS 31 rfl (oC · rfl rfl) (rE ?_)
   try dsimp only [w0,w1,w2,w3]
   rcases ifc h with ⟨hc7,h⟩ | ⟨hc7,h⟩
   ·refine q_cond_t rfl (.tmp rfl) (decide_eq_true hc7) (qR rfl rfl (qS 32 rfl (oM · rfl) (qS 33 rfl (oC · rfl rfl) (qS 9 rfl (oA · rfl) (rE ?_)))))
    try dsimp only [w0,w1,w2,w3]
    refine hr_inBlock ?_
    try dsimp only [w0,w1,w2,w3]
    exact ih h
   ·refine q_cond_f rfl (.tmp rfl) (decide_eq_false hc7) (qR rfl rfl (qS 34 rfl (oM · rfl) (qS 10 rfl (oA · rfl) (rE ?_))))
    try dsimp only [w0,w1,w2,w3]
    refine hr_inBlock ?_
    try dsimp only [w0,w1,w2,w3]
    exact ih h
  ·refine q_cond_f rfl (.tmp rfl) (decide_eq_false hc1) (q_exit rfl rfl (qQ rfl (qR rfl rfl (qS 35 rfl (oM · rfl) (qS 36 rfl (oM · rfl) (qS 37 rfl (oM · rfl) (qS 38 rfl (oB · rfl rfl rfl) ?_)))))))
   try dsimp only [w0,w1,w2,w3]
   refine qS 39 rfl (oM · rfl) ?_
   rcases ifc h with ⟨hc8,h⟩ | ⟨hc8,h⟩
   ·refine qG 39 40 rfl (decide_eq_true hc8) (oM · rfl) (qG 39 41 rfl (decide_eq_true hc8) (oM · rfl) (qG 39 42 rfl (decide_eq_true hc8) (oM · rfl) ?_))
    try dsimp only [w0,w1,w2,w3]
    obtain ⟨p9,hp9,h⟩ := bindo h
    obtain ⟨p10,hp10,h⟩ := bindo h
    obtain ⟨p11,hp11,h⟩ := bindo h
    obtain ⟨p12,hp12,h⟩ := bindo h
    obtain ⟨p13,hp13,h⟩ := bindo h
    refine qG 39 43 rfl (decide_eq_true hc8) (oX (s := y0) · tu118 sz133 rfl rfl hp9) (qG 39 44 rfl (decide_eq_true hc8) (ok_load_a (vs := [(.str p10),(.ptr p11)]) · ia133 (.tmp rfl) rfl ⟨ldS_out hp10,ldP_out hp11,trivial⟩ (by simp)) (qG 39 45 rfl (decide_eq_true hc8) (oM · rfl) (q_call_g (t := 39) (dst := some 46) rfl rfl rfl (decide_eq_true hc8) (.tmp rfl) (.cons (.tmp rfl) (.cons (.tmp rfl) Evs.nil)) (hD _ _ hH _ _ _ _ _ hp12) ?_)))
    rintro _ _ ⟨rfl,rfl⟩
    rw [dI_out hp13]
    try dsimp only [w0,w1,w2,w3]
    refine qG 39 47 rfl (decide_eq_true hc8) (oC · rfl rfl) (qS 48 rfl (ok_pick_tt · (.tmp rfl) (decide_eq_true hc8) (.tmp rfl)) ?_)
    try dsimp only [w0,w1,w2,w3]
    exact J1_snd hD hH h
   ·refine q_skip (dst := some 40) (t := 39) rfl rfl rfl (decide_eq_false hc8) (q_skip (dst := some 41) (t := 39) rfl rfl rfl (decide_eq_false hc8) (q_skip (dst := some 42) (t := 39) rfl rfl rfl (decide_eq_false hc8) ?_))
    try dsimp only [w0,w1,w2,w3]
    refine q_skip (dst := some 43) (t := 39) rfl rfl rfl (decide_eq_false hc8) (q_skip (dst := some 44) (t := 39) rfl rfl rfl (decide_eq_false hc8) (q_skip (dst := some 45) (t := 39) rfl rfl rfl (decide_eq_false hc8) (q_skip (dst := some 46) (t := 39) rfl rfl rfl (decide_eq_false hc8) ?_)))
    try dsimp only [w0,w1,w2,w3]
    refine q_skip (dst := some 47) (t := 39) rfl rfl rfl (decide_eq_false hc8) (qS 48 rfl (ok_pick_ff · (.tmp rfl) (decide_eq_false hc8) (.bool _)) ?_)
    try dsimp only [w0,w1,w2,w3]
    exact J1_snd hD hH h
def f (D : Dp) (H : Hd) (k : Nat) (x0 : Sl) (x1 : (List UInt8)) (x2 : HV) (S : HS) : Option ((Int × Bool) × HS) :=
 L0 D H k k x0 x1 x2 (Sl.len x0 : Int) 0 (Sl.len x0 : Int) S
theorem snd {x0 : Sl} {x1 : (List UInt8)} {x2 : HV} {S : HS} (hD : DS base W0 D) (hH : HT base W0 β0 H)  {p : (Int × Bool) × HS} (h : f D H k x0 x1 x2 S = some p) : HCall Tryz.prog base W0 β0 102 [(Sl.hv x0),(.str x1),x2] S (fun v S1 => v = (.tup [(.int .i64 p.1.1),(.bool p.1.2)]) ∧ S1 = p.2) := by
 unfold f at h
 refine HCall.of_run at_.at_ body ?_
 show HR base W0 β0 102 none [.code c0] ⟨[(Sl.hv x0),(.str x1),x2,τ,τ,τ,τ,τ,τ,τ,τ,τ,τ,τ,τ,τ,τ,τ,τ,τ,τ,τ,τ,τ,τ,τ,τ,τ,τ,τ,τ,τ,τ,τ,τ,τ,τ,τ,τ,τ,τ,τ,τ,τ,τ,τ,τ,τ,τ],[]⟩ S _
 refine qQ rfl (qR rfl rfl (qS 6 rfl (ok_assign · (.int _ _)) (qS 7 rfl (ok_assign · (.bool _)) (rE ?_))))
 try dsimp only [w0,w1,w2,w3]
 refine qQ rfl (qR rfl rfl (qS 12 rfl (oM · rfl) (qS 13 rfl (ok_len_sl (q := Sl.a x0) (n := Sl.len x0) (z := Sl.cap x0) · rfl tu118 (.tmp rfl)) (qS 8 rfl (oA · rfl) (rE ?_)))))
 try dsimp only [w0,w1,w2,w3]
 refine qQ rfl (qR rfl rfl (qS 14 rfl (oM · rfl) (qS 9 rfl (ok_assign · (.int _ _)) (qS 10 rfl (oA · rfl) (rE ?_)))))
 try dsimp only [w0,w1,w2,w3]
 refine qQ rfl (q_block rfl (q_loop rfl ?_))
 try dsimp only [w0,w1,w2,w3]
 exact L0_snd hD hH h
end slices_BinarySearchFunc_book_entry_room_Room_book_entry_room_Room_string
namespace fold_Byte
theorem at_ : FnAt Tryz.prog 70 Tryz.f70 := ⟨Tryz.func70,by kernel_rfl⟩
def d0 := (Tryz.f70.body).getD .skip
def r1 := kR (kA d0)
def d4 := kA (kA (kB d0))
def r5 := kR (kA d4)
def r8 := kR (kA (kA (kB d4)))
def r11 := kR (kA (kB (kB d4)))
def r14 := kR (kA (kA (kB (kB (kB d4)))))
def r17 := kR (kA (kB (kB (kB (kB d4)))))
def r20 := kR (kA (kA (kB (kB (kB (kB (kB d4)))))))
def r24 := kR (kA (kB (kB d0)))
def c23 : Code := .seq (.region 7 r24 false) .ret
def c12 : Code := .cond (.tmp 12) (.seq (.region 4 r14 false) .ret) (.seq (.region 5 r17 false) (.cond (.tmp 25) (.seq (.region 6 r20 false) .ret) .skip))
def c6 : Code := .cond (.tmp 3) (.seq (.region 2 r8 false) .ret) (.seq (.region 3 r11 false) c12)
def c0 : Code := .seq (.region 0 r1 false) (.seq (.block 0 (.seq (.region 1 r5 false) c6)) c23)
theorem body : Tryz.f70.body = some c0 := by kernel_rfl
def J2  (y0 : Int) (y22 : Bool) : Option (Int) :=
 (if y22 = true then
 some (w8 (y0 + 32)) else
 (if y0 = 126 then
 some 94 else
 some y0))
theorem J2_snd   {y0 : Int} {y22 : Bool} {S : HS} {p : Int} (h : J2  y0 y22 = some p) : HR base W0 β0 70 none [.inRegion r11 [10],.code c12,.inBlock 0,.code c23] ⟨[(.int .u8 y0),Gb,Gc,Gd,Ge,Gf,Gg,Gh,Gi,Gj,Gk,Gl,Gm,Gn,Go,Gp,Gq,Gr,Gs,Gt,Gu,Gv,(.bool y22),Gx,Gy,Gz,Ka,Kb,Kc],[]⟩ S (fun v S1 => v = (.int .u8 p) ∧ S1 = S) := by
 unfold J2 at h
 refine qS 12 rfl (oA · rfl) (rE ?_)
 try dsimp only [w0,w1,w2,w3]
 rcases ifc h with ⟨hc5,h⟩ | ⟨hc5,h⟩
 ·refine q_cond_t rfl (.tmp rfl) hc5 (qQ rfl (qR rfl rfl (qS 23 rfl (oM · rfl) (qS 24 rfl (oC · rfl rfl) (qS 2 rfl (oA · rfl) (rE ?_))))))
  cases h
  exact q_ret rfl at_.at_ rfl (res1 rfl rfl) ⟨rfl,rfl⟩
 ·refine q_cond_f rfl (.tmp rfl) (bfalse hc5) (qQ rfl (qR rfl rfl (qS 26 rfl (oM · rfl) (qS 27 rfl (oC · rfl rfl) (qS 25 rfl (oA · rfl) (rE ?_))))))
  try dsimp only [w0,w1,w2,w3]
  rcases ifc h with ⟨hc6,h⟩ | ⟨hc6,h⟩
  ·refine q_cond_t rfl (.tmp rfl) (decide_eq_true hc6) (qQ rfl (qR rfl rfl (qS 2 rfl (ok_assign · (.int _ _)) (rE ?_))))
   cases h
   exact q_ret rfl at_.at_ rfl (res1 rfl rfl) ⟨rfl,rfl⟩
  ·refine q_cond_f rfl (.tmp rfl) (decide_eq_false hc6) (q_skipc rfl (hr_inBlock (qQ rfl (qR rfl rfl (qS 28 rfl (oM · rfl) (qS 2 rfl (oA · rfl) (rE ?_)))))))
   cases h
   exact q_ret rfl at_.at_ rfl (res1 rfl rfl) ⟨rfl,rfl⟩
def J1  (y0 : Int) (y18 : Bool) : Option (Int) :=
 (if y18 = true then
 J2 y0 true else
 J2 y0 (decide (y0 = 92)))
theorem J1_snd   {y0 : Int} {y18 : Bool} {S : HS} {p : Int} (h : J1  y0 y18 = some p) : HR base W0 β0 70 none [.inRegion r11 [6,7,8,9,10],.code c12,.inBlock 0,.code c23] ⟨[(.int .u8 y0),Gb,Gc,Gd,Ge,Gf,Gg,Gh,Gi,Gj,Gk,Gl,Gm,Gn,Go,Gp,Gq,Gr,(.bool y18),Gt,Gu,Gv,Gw,Gx,Gy,Gz,Ka,Kb,Kc],[]⟩ S (fun v S1 => v = (.int .u8 p) ∧ S1 = S) := by
 unfold J1 at h
 refine qS 19 rfl (oM · rfl) ?_
 rcases ifc h with ⟨hc4,h⟩ | ⟨hc4,h⟩
 ·refine q_skip (dst := some 20) (t := 19) rfl rfl rfl hc4 ?_
  try dsimp only [w0,w1,w2,w3]
  refine q_skip (dst := some 21) (t := 19) rfl rfl rfl hc4 (qS 22 rfl (ok_pick_tt · (.tmp rfl) hc4 (.bool _)) ?_)
  try dsimp only [w0,w1,w2,w3]
  exact J2_snd  h
 ·refine qG 19 20 rfl (bfalse hc4) (oM · rfl) ?_
  try dsimp only [w0,w1,w2,w3]
  refine qG 19 21 rfl (bfalse hc4) (oC · rfl rfl) (qS 22 rfl (ok_pick_ff · (.tmp rfl) (bfalse hc4) (.tmp rfl)) ?_)
  try dsimp only [w0,w1,w2,w3]
  exact J2_snd  h
def J0  (y0 : Int) (y9 : Bool) : Option (Int) :=
 (if y9 = true then
 some (w8 (y0 + 32)) else
 (if y0 = 91 then
 J1 y0 true else
 J1 y0 (decide (y0 = 93))))
theorem J0_snd   {y0 : Int} {y9 : Bool} {S : HS} {p : Int} (h : J0  y0 y9 = some p) : HR base W0 β0 70 none [.inRegion r5 [6],.code c6,.inBlock 0,.code c23] ⟨[(.int .u8 y0),Gb,Gc,Gd,Ge,Gf,Gg,Gh,Gi,(.bool y9),Gk,Gl,Gm,Gn,Go,Gp,Gq,Gr,Gs,Gt,Gu,Gv,Gw,Gx,Gy,Gz,Ka,Kb,Kc],[]⟩ S (fun v S1 => v = (.int .u8 p) ∧ S1 = S) := by
 unfold J0 at h
 refine qS 3 rfl (oA · rfl) (rE ?_)
 try dsimp only [w0,w1,w2,w3]
 rcases ifc h with ⟨hc2,h⟩ | ⟨hc2,h⟩
 ·refine q_cond_t rfl (.tmp rfl) hc2 (qQ rfl (qR rfl rfl (qS 10 rfl (oM · rfl) (qS 11 rfl (oC · rfl rfl) (qS 2 rfl (oA · rfl) (rE ?_))))))
  cases h
  exact q_ret rfl at_.at_ rfl (res1 rfl rfl) ⟨rfl,rfl⟩
 ·refine q_cond_f rfl (.tmp rfl) (bfalse hc2) (qQ rfl (qR rfl rfl (qS 13 rfl (oM · rfl) (qS 14 rfl (oC · rfl rfl) (qS 15 rfl (oM · rfl) ?_)))))
  rcases ifc h with ⟨hc3,h⟩ | ⟨hc3,h⟩
  ·refine q_skip (dst := some 16) (t := 15) rfl rfl rfl (decide_eq_true hc3) ?_
   try dsimp only [w0,w1,w2,w3]
   refine q_skip (dst := some 17) (t := 15) rfl rfl rfl (decide_eq_true hc3) (qS 18 rfl (ok_pick_tt · (.tmp rfl) (decide_eq_true hc3) (.bool _)) ?_)
   try dsimp only [w0,w1,w2,w3]
   exact J1_snd  h
  ·refine qG 15 16 rfl (decide_eq_false hc3) (oM · rfl) ?_
   try dsimp only [w0,w1,w2,w3]
   refine qG 15 17 rfl (decide_eq_false hc3) (oC · rfl rfl) (qS 18 rfl (ok_pick_ff · (.tmp rfl) (decide_eq_false hc3) (.tmp rfl)) ?_)
   try dsimp only [w0,w1,w2,w3]
   exact J1_snd  h
def f (x0 : Int) : Option (Int) :=
 (if x0 ≥ 65 then
 J0 x0 (decide (x0 ≤ 90)) else
 J0 x0 false)
theorem snd {x0 : Int} {S : HS}  {p : Int} (h : f x0 = some p) : HCall Tryz.prog base W0 β0 70 [(.int .u8 x0)] S (fun v S1 => v = (.int .u8 p) ∧ S1 = S) := by
 unfold f at h
 refine HCall.of_run at_.at_ body ?_
 show HR base W0 β0 70 none [.code c0] ⟨[(.int .u8 x0),τ,τ,τ,τ,τ,τ,τ,τ,τ,τ,τ,τ,τ,τ,τ,τ,τ,τ,τ,τ,τ,τ,τ,τ,τ,τ,τ,τ],[]⟩ S _
 refine qQ rfl (qR rfl rfl (qS 2 rfl (ok_assign · (.int _ _)) (rE ?_)))
 try dsimp only [w0,w1,w2,w3]
 refine qQ rfl (q_block rfl (qQ rfl (qR rfl rfl (qS 4 rfl (oM · rfl) (qS 5 rfl (oC · rfl rfl) (qS 6 rfl (oM · rfl) ?_))))))
 rcases ifc h with ⟨hc1,h⟩ | ⟨hc1,h⟩
 ·refine qG 6 7 rfl (decide_eq_true hc1) (oM · rfl) ?_
  try dsimp only [w0,w1,w2,w3]
  refine qG 6 8 rfl (decide_eq_true hc1) (oC · rfl rfl) (qS 9 rfl (ok_pick_tt · (.tmp rfl) (decide_eq_true hc1) (.tmp rfl)) ?_)
  try dsimp only [w0,w1,w2,w3]
  exact J0_snd  h
 ·refine q_skip (dst := some 7) (t := 6) rfl rfl rfl (decide_eq_false hc1) ?_
  try dsimp only [w0,w1,w2,w3]
  refine q_skip (dst := some 8) (t := 6) rfl rfl rfl (decide_eq_false hc1) (qS 9 rfl (ok_pick_ff · (.tmp rfl) (decide_eq_false hc1) (.bool _)) ?_)
  try dsimp only [w0,w1,w2,w3]
  exact J0_snd  h
end fold_Byte
namespace fold_Compare
theorem at_ : FnAt Tryz.prog 104 Tryz.f104 := ⟨Tryz.func104,by kernel_rfl⟩
def d0 := (Tryz.f104.body).getD .skip
def r1 := kR (kA d0)
def r4 := kR (kA (kA (kB d0)))
def d5 := kB (kA (kB d0))
def r8 := kR (kA (kA (kA d5)))
def d9 := kB (kA (kA d5))
def d15 := kA (kA (kB d9))
def r16 := kR (kA d15)
def r18 := kR (kA (kB d15))
def r21 := kR (kA (kA (kB (kB d15))))
def r24 := kR (kA (kA (kB (kA (kB (kB d15))))))
def r28 := kR (kA (kB (kB (kB d15))))
def r31 := kR (kA (kA (kB (kB (kB (kB d15))))))
def r34 := kR (kB (kB d9))
def d36 := kA (kB (kB d0))
def r38 := kR (kA (kA d36))
def r41 := kR (kA (kA (kB (kA d36))))
def r44 := kR (kA (kB (kB (kA d36))))
def r47 := kR (kA (kA (kB (kB (kB (kA d36))))))
def r51 := kR (kA (kB (kB (kB d0))))
def c35 : Code := .seq (.block 2 (.seq (.region 10 r38 false) (.cond (.tmp 31) (.seq (.region 11 r41 false) .ret) (.seq (.region 12 r44 false) (.cond (.tmp 37) (.seq (.region 13 r47 false) .ret) .skip))))) (.seq (.region 14 r51 false) .ret)
def c7 : Code := .seq (.region 2 r8 false) (.seq (.cond (.tmp 14) .skip (.exit 0)) (.seq (.block 1 (.seq (.region 3 r16 false) (.seq (.region 4 r18 true) (.seq (.seq (.region 5 r21 false) (.cond (.tmp 26) (.seq (.region 6 r24 false) .ret) .skip)) (.seq (.region 7 r28 false) (.cond (.tmp 29) (.seq (.region 8 r31 false) .ret) .skip)))))) (.region 9 r34 false)))
def c0 : Code := .seq (.region 0 r1 false) (.seq (.seq (.region 1 r4 false) (.block 0 (.loop c7))) c35)
theorem body : Tryz.f104.body = some c0 := by kernel_rfl
def L0 (k : Nat) : Nat → (List UInt8) → (List UInt8) → Int → Int → Option (Int)
 | 0,_,_,_,_ => none
 | n + 1,y0,y1,y12,y13 =>
  (if y13 < y12 then
  ((sat y0 y13).bind fun p2 =>
  ((fold_Byte.f (UInt8.toNat p2 : Int)).bind fun p3 =>
  ((sat y1 y13).bind fun p4 =>
  ((fold_Byte.f (UInt8.toNat p4 : Int)).bind fun p5 =>
  (if p3 < p5 then
  some (-1) else
  (if p3 > p5 then
  some 1 else
  (L0 k n) y0 y1 y12 (w64 (y13 + 1)))))))) else
  (if (List.length y0 : Int) < (List.length y1 : Int) then
  some (-1) else
  (if (List.length y0 : Int) > (List.length y1 : Int) then
  some 1 else
  some 0)))
theorem L0_snd  : ∀ {n : Nat} ⦃y0 : (List UInt8)⦄ ⦃y1 : (List UInt8)⦄ ⦃y12 : Int⦄ ⦃y13 : Int⦄ ⦃S : HS⦄ ⦃p : Int⦄ ⦃Gc Gd Ge Gf Gg Gh Gi Gj Gk Gl Go Gp Gq Gr Gs Gt Gu Gv Gw Gx Gy Gz Ka Kb Kc Kd Ke Kf Kg Kh Ki Kj Kk Kl Km Kn Ko Kp Kq : HV⦄,L0 k n y0 y1 y12 y13 = some p → HR base W0 β0 104 none [.inLoop c7,.inBlock 0,.code c35] ⟨[(.str y0),(.str y1),Gc,Gd,Ge,Gf,Gg,Gh,Gi,Gj,Gk,Gl,(.int .i64 y12),(.int .i64 y13),Go,Gp,Gq,Gr,Gs,Gt,Gu,Gv,Gw,Gx,Gy,Gz,Ka,Kb,Kc,Kd,Ke,Kf,Kg,Kh,Ki,Kj,Kk,Kl,Km,Kn,Ko,Kp,Kq],[]⟩ S (fun v S1 => v = (.int .i64 p) ∧ S1 = S) := by
 intro n
 induction n with
 | zero => intro _ _ _ _ _ _ _ _ _ _ _ _ _ _ _ _ _ _ _ _ _ _ _ _ _ _ _ _ _ _ _ _ _ _ _ _ _ _ _ _ _ _ _ _ _ h; cases h
 | succ n ih =>
  intro y0 y1 y12 y13 S p Gc Gd Ge Gf Gg Gh Gi Gj Gk Gl Go Gp Gq Gr Gs Gt Gu Gv Gw Gx Gy Gz Ka Kb Kc Kd Ke Kf Kg Kh Ki Kj Kk Kl Km Kn Ko Kp Kq h
  simp only [L0] at h
  refine hr_inLoop (qQ rfl (qR rfl rfl (qS 14 rfl (oB · rfl rfl rfl) (rE ?_))))
  try dsimp only [w0,w1,w2,w3]
  refine qQ rfl ?_
  rcases ifc h with ⟨hc1,h⟩ | ⟨hc1,h⟩
  ·refine q_cond_t rfl (.tmp rfl) (decide_eq_true hc1) (q_skipc rfl (qQ rfl (q_block rfl (qQ rfl (qR rfl rfl (qS 15 rfl (oM · rfl) (qS 5 rfl (oA · rfl) (rE ?_))))))))
   try dsimp only [w0,w1,w2,w3]
   refine qQ rfl ?_
   refine x_start (cls := [0,0,0,0,0,0,0,0,0,0]) (rk := [0,1,2,3,4,5,6,7,8,9]) rfl (by kernel_rfl) ?_
   refine yf 16 [0] rfl (oM · rfl) ?_
   refine yf 17 [5] rfl (oM · rfl) ?_
   obtain ⟨p2,hp2,h⟩ := bindo h
   refine yf 18 [16,17] rfl (ok_index_s · tu9 (.tmp rfl) (.tmp rfl) hp2) ?_
   obtain ⟨p3,hp3,h⟩ := bindo h
   refine x_go (f_call (dst := some 19) (ts := [18]) rfl (by kernel_rfl) (.func _) (.cons (.tmp rfl) Evs.nil) (fun _ => (HInv.static fold_Byte.at_ fold_Byte.body (fold_Byte.snd  hp3)))) rfl ?_
   try dsimp only [w0,w1,w2,w3]
   refine yf 20 [1] rfl (oM · rfl) ?_
   refine yf 21 [5] rfl (oM · rfl) ?_
   obtain ⟨p4,hp4,h⟩ := bindo h
   refine yf 22 [20,21] rfl (ok_index_s · tu9 (.tmp rfl) (.tmp rfl) hp4) ?_
   obtain ⟨p5,hp5,h⟩ := bindo h
   refine x_go (f_call (dst := some 23) (ts := [22]) rfl (by kernel_rfl) (.func _) (.cons (.tmp rfl) Evs.nil) (fun _ => (HInv.static fold_Byte.at_ fold_Byte.body (fold_Byte.snd  hp5)))) rfl ?_
   try dsimp only [w0,w1,w2,w3]
   refine yf 6 [19] rfl (oA · rfl) ?_
   refine yf 7 [23] rfl (oA · rfl) ?_
   refine x_rest rfl ?_
   refine rE ?_
   try dsimp only [w0,w1,w2,w3]
   refine qQ rfl (qQ rfl (qR rfl rfl (qS 24 rfl (oM · rfl) (qS 25 rfl (oM · rfl) (qS 26 rfl (oB · rfl rfl rfl) (rE ?_))))))
   try dsimp only [w0,w1,w2,w3]
   rcases ifc h with ⟨hc6,h⟩ | ⟨hc6,h⟩
   ·refine q_cond_t rfl (.tmp rfl) (decide_eq_true hc6) (qQ rfl (qR rfl rfl (qS 4 rfl (ok_assign · (.int _ _)) (rE ?_))))
    cases h
    exact q_ret rfl at_.at_ rfl (res1 rfl rfl) ⟨rfl,rfl⟩
   ·refine q_cond_f rfl (.tmp rfl) (decide_eq_false hc6) (q_skipc rfl (qQ rfl (qR rfl rfl (qS 27 rfl (oM · rfl) (qS 28 rfl (oM · rfl) (qS 29 rfl (oB · rfl rfl rfl) (rE ?_)))))))
    try dsimp only [w0,w1,w2,w3]
    rcases ifc h with ⟨hc7,h⟩ | ⟨hc7,h⟩
    ·refine q_cond_t rfl (.tmp rfl) (decide_eq_true hc7) (qQ rfl (qR rfl rfl (qS 4 rfl (ok_assign · (.int _ _)) (rE ?_))))
     cases h
     exact q_ret rfl at_.at_ rfl (res1 rfl rfl) ⟨rfl,rfl⟩
    ·refine q_cond_f rfl (.tmp rfl) (decide_eq_false hc7) (q_skipc rfl (hr_inBlock (qR rfl rfl (qS 30 rfl (oC · rfl rfl) (qS 13 rfl (oM · rfl) (rE ?_))))))
     try dsimp only [w0,w1,w2,w3]
     exact ih h
  ·refine q_cond_f rfl (.tmp rfl) (decide_eq_false hc1) (q_exit rfl rfl (qQ rfl (q_block rfl (qQ rfl (qR rfl rfl (qS 32 rfl (oM · rfl) (qS 33 rfl (ok_len_str · rfl tu9 (.tmp rfl)) (qS 34 rfl (oM · rfl) (qS 35 rfl (ok_len_str · rfl tu9 (.tmp rfl)) ?_)))))))))
   try dsimp only [w0,w1,w2,w3]
   refine qS 36 rfl (oB · rfl rfl rfl) (qS 31 rfl (oA · rfl) (rE ?_))
   try dsimp only [w0,w1,w2,w3]
   rcases ifc h with ⟨hc8,h⟩ | ⟨hc8,h⟩
   ·refine q_cond_t rfl (.tmp rfl) (decide_eq_true hc8) (qQ rfl (qR rfl rfl (qS 4 rfl (ok_assign · (.int _ _)) (rE ?_))))
    cases h
    exact q_ret rfl at_.at_ rfl (res1 rfl rfl) ⟨rfl,rfl⟩
   ·refine q_cond_f rfl (.tmp rfl) (decide_eq_false hc8) (qQ rfl (qR rfl rfl (qS 38 rfl (oM · rfl) (qS 39 rfl (ok_len_str · rfl tu9 (.tmp rfl)) (qS 40 rfl (oM · rfl) (qS 41 rfl (ok_len_str · rfl tu9 (.tmp rfl)) ?_))))))
    try dsimp only [w0,w1,w2,w3]
    refine qS 42 rfl (oB · rfl rfl rfl) (qS 37 rfl (oA · rfl) (rE ?_))
    try dsimp only [w0,w1,w2,w3]
    rcases ifc h with ⟨hc9,h⟩ | ⟨hc9,h⟩
    ·refine q_cond_t rfl (.tmp rfl) (decide_eq_true hc9) (qQ rfl (qR rfl rfl (qS 4 rfl (ok_assign · (.int _ _)) (rE ?_))))
     cases h
     exact q_ret rfl at_.at_ rfl (res1 rfl rfl) ⟨rfl,rfl⟩
    ·refine q_cond_f rfl (.tmp rfl) (decide_eq_false hc9) (q_skipc rfl (hr_inBlock (qQ rfl (qR rfl rfl (qS 4 rfl (ok_assign · (.int _ _)) (rE ?_))))))
     cases h
     exact q_ret rfl at_.at_ rfl (res1 rfl rfl) ⟨rfl,rfl⟩
def f (k : Nat) (x0 : (List UInt8)) (x1 : (List UInt8)) : Option (Int) :=
 L0 k k x0 x1 (mn (List.length x0 : Int) (List.length x1 : Int)) 0
theorem snd {x0 : (List UInt8)} {x1 : (List UInt8)} {S : HS}  {p : Int} (h : f k x0 x1 = some p) : HCall Tryz.prog base W0 β0 104 [(.str x0),(.str x1)] S (fun v S1 => v = (.int .i64 p) ∧ S1 = S) := by
 unfold f at h
 refine HCall.of_run at_.at_ body ?_
 show HR base W0 β0 104 none [.code c0] ⟨[(.str x0),(.str x1),τ,τ,τ,τ,τ,τ,τ,τ,τ,τ,τ,τ,τ,τ,τ,τ,τ,τ,τ,τ,τ,τ,τ,τ,τ,τ,τ,τ,τ,τ,τ,τ,τ,τ,τ,τ,τ,τ,τ,τ,τ],[]⟩ S _
 refine qQ rfl (qR rfl rfl (qS 4 rfl (ok_assign · (.int _ _)) (rE ?_)))
 try dsimp only [w0,w1,w2,w3]
 refine qQ rfl (qQ rfl (qR rfl rfl (qS 8 rfl (oM · rfl) (qS 9 rfl (ok_len_str · rfl tu9 (.tmp rfl)) (qS 10 rfl (oM · rfl) (qS 11 rfl (ok_len_str · rfl tu9 (.tmp rfl)) ?_))))))
 try dsimp only [w0,w1,w2,w3]
 refine qS 12 rfl (ok_min · (.tmp rfl) (.tmp rfl)) (qS 13 rfl (ok_move · (.int _ _)) (rE ?_))
 try dsimp only [w0,w1,w2,w3]
 refine q_block rfl (q_loop rfl ?_)
 try dsimp only [w0,w1,w2,w3]
 exact L0_snd  h
end fold_Compare
namespace book_Book_room_Room_at_1
theorem at_ : FnAt Tryz.prog 103 Tryz.f103 := ⟨Tryz.func103,by kernel_rfl⟩
def d0 := (Tryz.f103.body).getD .skip
def r1 := kR (kA d0)
def r3 := kR (kA (kB d0))
def c0 : Code := .seq (.region 0 r1 false) (.seq (.region 1 r3 false) .ret)
theorem body : Tryz.f103.body = some c0 := by kernel_rfl
def f (k : Nat) (x0_0 : (List UInt8)) (x0_1 : HP) (x1 : (List UInt8)) (S : HS) : Option ((Int) × HS) :=
 (letv (HS.new S (.cells 2 [[(.str x0_0),(.ptr x0_1)]] true)) fun p1 =>
 ((p1.ldS (HA.fld (HA.cell0 S.next) 0)).bind fun p2 =>
 ((fold_Compare.f k p2 x1).bind fun p3 =>
 some (p3,p1))))
theorem snd {x0_0 : (List UInt8)} {x0_1 : HP} {x1 : (List UInt8)} {S : HS}  {p : (Int) × HS} (h : f k x0_0 x0_1 x1 S = some p) : HCall Tryz.prog base W0 β0 103 [(.agg [(.str x0_0),(.ptr x0_1)]),(.str x1)] S (fun v S1 => v = (.int .i64 p.1) ∧ S1 = p.2) := by
 unfold f at h
 refine HCall.of_run at_.at_ body ?_
 show HR base W0 β0 103 none [.code c0] ⟨[(.agg [(.str x0_0),(.ptr x0_1)]),(.str x1),τ,τ,τ,τ,τ,τ,τ],[]⟩ S _
 obtain ⟨p1,hp1,h⟩ := leto h
 refine qQ rfl (qR rfl rfl (qS 2 rfl (ok_box_e · (.tmp rfl) (Nat.zero_lt_succ _) rfl hp1) (qS 4 rfl (ok_assign · (.int _ _)) (rE ?_))))
 try dsimp only [w0,w1,w2,w3]
 obtain ⟨p2,hp2,h⟩ := bindo h
 obtain ⟨p3,hp3,h⟩ := bindo h
 refine qQ rfl (qR rfl rfl (qS 5 rfl (oF · fi133_0 (by decide) rfl rfl) (qS 6 rfl (oL · sc9 rfl rfl (ldS_out hp2)) (qS 7 rfl (oM · rfl) (q_call (dst := some 8) rfl (.func _) (.cons (.tmp rfl) (.cons (.tmp rfl) Evs.nil)) (HInv.static fold_Compare.at_ fold_Compare.body (fold_Compare.snd  hp3)) ?_)))))
 rintro _ _ ⟨rfl,rfl⟩
 try dsimp only [w0,w1,w2,w3]
 refine qS 4 rfl (oA · rfl) (rE ?_)
 cases h
 exact q_ret rfl at_.at_ rfl (res1 rfl rfl) ⟨rfl,rfl⟩
end book_Book_room_Room_at_1
namespace book_Book_room_Room_at
theorem at_ : FnAt Tryz.prog 72 Tryz.f72 := ⟨Tryz.func72,by kernel_rfl⟩
def d0 := (Tryz.f72.body).getD .skip
def r1 := kR (kA d0)
def r4 := kR (kA (kA (kB d0)))
def r7 := kR (kA (kA (kB (kA (kB d0)))))
def r11 := kR (kA (kB (kB d0)))
def c0 : Code := .seq (.region 0 r1 false) (.seq (.seq (.region 1 r4 false) (.cond (.tmp 7) (.seq (.region 2 r7 false) .ret) .skip)) (.seq (.region 3 r11 false) .ret))
theorem body : Tryz.f72.body = some c0 := by kernel_rfl
def f (D : Dp) (H : Hd) (k : Nat) (x0 : HP) (x1 : (List UInt8)) (S : HS) : Option ((Int × Bool) × HS) :=
 (if (Option.isNone x0) = true then
 some ((0,false),S) else
 (x0.bind fun p2 =>
 ((S.ldSl (HA.fld p2 1)).bind fun p3 =>
 ((slices_BinarySearchFunc_book_entry_room_Room_book_entry_room_Room_string.f D H k p3 x1 (HV.fn (.func 103) [] []) S).bind fun p4 =>
 some ((p4.1.1,p4.1.2),p4.2)))))
theorem snd {x0 : HP} {x1 : (List UInt8)} {S : HS} (hD : DS base W0 D) (hH : HT base W0 β0 H)  {p : (Int × Bool) × HS} (h : f D H k x0 x1 S = some p) : HCall Tryz.prog base W0 β0 72 [(.ptr x0),(.str x1)] S (fun v S1 => v = (.tup [(.int .i64 p.1.1),(.bool p.1.2)]) ∧ S1 = p.2) := by
 unfold f at h
 refine HCall.of_run at_.at_ body ?_
 show HR base W0 β0 72 none [.code c0] ⟨[(.ptr x0),(.str x1),τ,τ,τ,τ,τ,τ,τ,τ,τ,τ,τ,τ,τ,τ],[]⟩ S _
 refine qQ rfl (qR rfl rfl (qS 4 rfl (ok_assign · (.int _ _)) (qS 5 rfl (ok_assign · (.bool _)) (rE ?_))))
 try dsimp only [w0,w1,w2,w3]
 refine qQ rfl (qQ rfl (qR rfl rfl (qS 6 rfl (oM · rfl) (qS 7 rfl (ok_nil_ptr · tu75 (.tmp rfl) (.inl ⟨rfl,rfl⟩)) (rE ?_)))))
 try dsimp only [w0,w1,w2,w3]
 rcases ifc h with ⟨hc1,h⟩ | ⟨hc1,h⟩
 ·refine q_cond_t rfl (.tmp rfl) hc1 (qQ rfl (qR rfl rfl (qS 4 rfl (ok_assign · (.int _ _)) (qS 5 rfl (ok_assign · (.bool _)) (rE ?_)))))
  cases h
  exact q_ret rfl at_.at_ rfl (res2 rfl rfl rfl) ⟨rfl,rfl⟩
 ·obtain ⟨p2,hp2,h⟩ := bindo h
  obtain ⟨p3,hp3,h⟩ := bindo h
  refine q_cond_f rfl (.tmp rfl) (bfalse hc1) (q_skipc rfl (qQ rfl (qR rfl rfl (qS 8 rfl (oM · rfl) (qS 9 rfl (oN · rfl hp2) (qS 10 rfl (oF · fi120_1 (by decide) rfl rfl) (qS 11 rfl (oL · sc118 rfl rfl (ldSl_out hp3)) ?_)))))))
  try dsimp only [w0,w1,w2,w3]
  obtain ⟨p4,hp4,h⟩ := bindo h
  refine qS 12 rfl (oM · rfl) (q_call (dst := some 13) rfl (.func _) (.cons (.tmp rfl) (.cons (.tmp rfl) (.cons (.func _) Evs.nil))) (HInv.static slices_BinarySearchFunc_book_entry_room_Room_book_entry_room_Room_string.at_ slices_BinarySearchFunc_book_entry_room_Room_book_entry_room_Room_string.body (slices_BinarySearchFunc_book_entry_room_Room_book_entry_room_Room_string.snd hD hH hp4)) ?_)
  rintro _ _ ⟨rfl,rfl⟩
  refine qS 14 rfl (ok_extract · (.tmp rfl) rfl) (qS 15 rfl (ok_extract · (.tmp rfl) rfl) ?_)
  try dsimp only [w0,w1,w2,w3]
  refine qS 4 rfl (oA · rfl) (qS 5 rfl (oA · rfl) (rE ?_))
  cases h
  exact q_ret rfl at_.at_ rfl (res2 rfl rfl rfl) ⟨rfl,rfl⟩
end book_Book_room_Room_at
namespace book_Book_room_Room_Get
theorem at_ : FnAt Tryz.prog 43 Tryz.f43 := ⟨Tryz.func43,by kernel_rfl⟩
def d0 := (Tryz.f43.body).getD .skip
def r1 := kR (kA d0)
def r3 := kR (kA (kB d0))
def r6 := kR (kA (kA (kB (kB d0))))
def d8 := kA (kB (kA (kB (kB d0))))
def r9 := kR (kA d8)
def r11 := kR (kA (kB d8))
def r15 := kR (kA (kB (kB (kB d0))))
def c0 : Code := .seq (.region 0 r1 false) (.seq (.region 1 r3 false) (.seq (.seq (.region 2 r6 false) (.cond (.tmp 16) (.seq (.region 3 r9 false) (.seq (.region 4 r11 false) .ret)) .skip)) (.seq (.region 5 r15 false) .ret)))
theorem body : Tryz.f43.body = some c0 := by kernel_rfl
def f (D : Dp) (H : Hd) (k : Nat) (x0 : HP) (x1 : (List UInt8)) (S : HS) : Option ((HP × Bool) × HS) :=
 ((book_Book_room_Room_at.f D H k x0 x1 S).bind fun p1 =>
 (if (!p1.1.2) = true then
 some ((none,false),p1.2) else
 (x0.bind fun p3 =>
 ((p1.2.ldSl (HA.fld p3 1)).bind fun p4 =>
 ((p1.2.idx p4 p1.1.1 2).bind fun p5 =>
 ((p1.2.ldP (HA.fld p5 1)).bind fun p6 =>
 some ((p6,true),p1.2)))))))
theorem snd {x0 : HP} {x1 : (List UInt8)} {S : HS} (hD : DS base W0 D) (hH : HT base W0 β0 H)  {p : (HP × Bool) × HS} (h : f D H k x0 x1 S = some p) : HCall Tryz.prog base W0 β0 43 [(.ptr x0),(.str x1)] S (fun v S1 => v = (.tup [(.ptr p.1.1),(.bool p.1.2)]) ∧ S1 = p.2) := by
 unfold f at h
 refine HCall.of_run at_.at_ body ?_
 show HR base W0 β0 43 none [.code c0] ⟨[(.ptr x0),(.str x1),τ,τ,τ,τ,τ,τ,τ,τ,τ,τ,τ,τ,τ,τ,τ,τ,τ,τ,τ,τ,τ,τ,τ,τ],[]⟩ S _
 refine qQ rfl (qR rfl rfl (qS 4 rfl (ok_assign · (.const fun _ => .ptrNil)) (qS 5 rfl (ok_assign · (.bool _)) (rE ?_))))
 try dsimp only [w0,w1,w2,w3]
 obtain ⟨p1,hp1,h⟩ := bindo h
 refine qQ rfl (qR rfl rfl (qS 10 rfl (oM · rfl) (qS 11 rfl (oM · rfl) (q_call (dst := some 12) rfl (.func _) (.cons (.tmp rfl) (.cons (.tmp rfl) Evs.nil)) (HInv.static book_Book_room_Room_at.at_ book_Book_room_Room_at.body (book_Book_room_Room_at.snd hD hH hp1)) ?_))))
 rintro _ _ ⟨rfl,rfl⟩
 refine qS 9 rfl (oM · rfl) ?_
 try dsimp only [w0,w1,w2,w3]
 refine qS 13 rfl (ok_extract · (.tmp rfl) rfl) (qS 14 rfl (ok_extract · (.tmp rfl) rfl) (qS 6 rfl (oA · rfl) (qS 7 rfl (oA · rfl) (rE ?_))))
 try dsimp only [w0,w1,w2,w3]
 refine qQ rfl (qQ rfl (qR rfl rfl (qS 15 rfl (oM · rfl) (qS 16 rfl (ok_not · (.tmp rfl)) (rE ?_)))))
 try dsimp only [w0,w1,w2,w3]
 rcases ifc h with ⟨hc2,h⟩ | ⟨hc2,h⟩
 ·refine q_cond_t rfl (.tmp rfl) hc2 (qQ rfl (qR rfl rfl (qS 8 rfl (ok_assign · (.const fun _ => .ptrNil)) (rE ?_))))
  try dsimp only [w0,w1,w2,w3]
  refine qQ rfl (qR rfl rfl (qS 17 rfl (oM · rfl) (qS 4 rfl (oA · rfl) (qS 5 rfl (ok_assign · (.bool _)) (rE ?_)))))
  cases h
  exact q_ret rfl at_.at_ rfl (res2 rfl rfl rfl) ⟨rfl,rfl⟩
 ·obtain ⟨p3,hp3,h⟩ := bindo h
  obtain ⟨p4,hp4,h⟩ := bindo h
  refine q_cond_f rfl (.tmp rfl) (bfalse hc2) (q_skipc rfl (qQ rfl (qR rfl rfl (qS 18 rfl (oM · rfl) (qS 19 rfl (oN · rfl hp3) (qS 20 rfl (oF · fi120_1 (by decide) rfl rfl) (qS 21 rfl (oL · sc118 rfl rfl (ldSl_out hp4)) ?_)))))))
  try dsimp only [w0,w1,w2,w3]
  obtain ⟨p5,hp5,h⟩ := bindo h
  obtain ⟨p6,hp6,h⟩ := bindo h
  refine qS 22 rfl (oM · rfl) (qS 23 rfl (oX (s := p4) · tu118 sz133 rfl rfl hp5) (qS 24 rfl (oF · fi133_1 (by decide) rfl rfl) (qS 25 rfl (oL · sc36 rfl rfl (ldP_out hp6)) ?_)))
  try dsimp only [w0,w1,w2,w3]
  refine qS 4 rfl (oA · rfl) (qS 5 rfl (ok_assign · (.bool _)) (rE ?_))
  cases h
  exact q_ret rfl at_.at_ rfl (res2 rfl rfl rfl) ⟨rfl,rfl⟩
end book_Book_room_Room_Get
namespace fold_Text
theorem at_ : FnAt Tryz.prog 39 Tryz.f39 := ⟨Tryz.func39,by kernel_rfl⟩
def d0 := (Tryz.f39.body).getD .skip
def r1 := kR (kA d0)
def r3 := kR (kA (kB d0))
def d5 := kA (kB (kB d0))
def r6 := kR (kA d5)
def d9 := kA (kA (kB d5))
def r10 := kR (kA d9)
def r18 := kR (kA (kA (kA (kB (kB d9)))))
def r19 := kR (kB (kA (kA (kB (kB d9)))))
def r20 := kR (kB (kB (kB d9)))
def r22 := kR (kA (kB (kB (kB d0))))
def c21 : Code := .seq (.region 7 r22 false) .ret
def c9 : Code := .seq (.region 3 r10 false) (.seq (.cond (.tmp 11) .skip (.exit 0)) (.seq (.block 1 (.seq (.region 4 r18 false) (.region 5 r19 false))) (.region 6 r20 false)))
def c0 : Code := .seq (.region 0 r1 false) (.seq (.region 1 r3 false) (.seq (.seq (.region 2 r6 false) (.block 0 (.loop c9))) c21))
theorem body : Tryz.f39.body = some c0 := by kernel_rfl
def L0 (k : Nat) : Nat → (List UInt8) → Sl → Int → Int → HS → Option (((List UInt8)) × HS)
 | 0,_,_,_,_,_ => none
 | n + 1,y0,y3,y9,y10,S =>
  (if y10 < y9 then
  ((sat y0 y10).bind fun p3 =>
  ((fold_Byte.f (UInt8.toNat p3 : Int)).bind fun p4 =>
  (letv (HS.lit S [[(.int .u8 p4)]] 1) fun p5 =>
  ((p5.2.rows (p5.1) 1).bind fun p6 =>
  ((p5.2.app y3 p6 1).bind fun p7 =>
  (L0 k n) y0 (p7.1) y9 (w64 (y10 + 1)) (p7.2)))))) else
  ((S.text y3).bind fun p8 =>
  some (p8,S)))
theorem L0_snd  : ∀ {n : Nat} ⦃y0 : (List UInt8)⦄ ⦃y3 : Sl⦄ ⦃y9 : Int⦄ ⦃y10 : Int⦄ ⦃S : HS⦄ ⦃p : ((List UInt8)) × HS⦄ ⦃Gb Gc Ge Gf Gg Gh Gi Gl Gm Gn Go Gp Gq Gr Gs Gt Gu Gv Gw : HV⦄,L0 k n y0 y3 y9 y10 S = some p → HR base W0 β0 39 none [.inLoop c9,.inBlock 0,.code c21] ⟨[(.str y0),Gb,Gc,(Sl.hv y3),Ge,Gf,Gg,Gh,Gi,(.int .i64 y9),(.int .i64 y10),Gl,Gm,Gn,Go,Gp,Gq,Gr,Gs,Gt,Gu,Gv,Gw],[]⟩ S (fun v S1 => v = (.str p.1) ∧ S1 = p.2) := by
 intro n
 induction n with
 | zero => intro _ _ _ _ _ _ _ _ _ _ _ _ _ _ _ _ _ _ _ _ _ _ _ _ _ h; cases h
 | succ n ih =>
  intro y0 y3 y9 y10 S p Gb Gc Ge Gf Gg Gh Gi Gl Gm Gn Go Gp Gq Gr Gs Gt Gu Gv Gw h
  simp only [L0] at h
  refine hr_inLoop (qQ rfl (qR rfl rfl (qS 11 rfl (oB · rfl rfl rfl) (rE ?_))))
  try dsimp only [w0,w1,w2,w3]
  refine qQ rfl ?_
  rcases ifc h with ⟨hc2,h⟩ | ⟨hc2,h⟩
  ·refine q_cond_t rfl (.tmp rfl) (decide_eq_true hc2) (q_skipc rfl (qQ rfl (q_block rfl (qQ rfl (qR rfl rfl (qS 12 rfl (oM · rfl) (qS 4 rfl (oA · rfl) (rE ?_))))))))
   try dsimp only [w0,w1,w2,w3]
   obtain ⟨p3,hp3,h⟩ := bindo h
   refine qR rfl rfl (qS 13 rfl (oM · rfl) (qS 14 rfl (oM · rfl) (qS 15 rfl (oM · rfl) (qS 16 rfl (ok_index_s · tu9 (.tmp rfl) (.tmp rfl) hp3) ?_))))
   try dsimp only [w0,w1,w2,w3]
   obtain ⟨p4,hp4,h⟩ := bindo h
   refine q_call (dst := some 17) rfl (.func _) (.cons (.tmp rfl) Evs.nil) (HInv.static fold_Byte.at_ fold_Byte.body (fold_Byte.snd  hp4)) ?_
   rintro _ _ ⟨rfl,rfl⟩
   obtain ⟨p5,hp5,h⟩ := leto h
   obtain ⟨p6,hp6,h⟩ := bindo h
   obtain ⟨p7,hp7,h⟩ := bindo h
   refine qS 18 rfl (ok_buildSlice_s (xs := [(.tmp 17)]) el127 · rfl rfl (by decide) (.cons (.tmp rfl) Evs.nil) rfl rfl hp5) (qS 19 rfl (ok_append (s := y3) (s1 := (p5.1)) el127 · rfl rfl ⟨_,tu127⟩ (.tmp rfl) (.tmp rfl) hp6 hp7) (qS 3 rfl (oA · rfl) (rE ?_)))
   try dsimp only [w0,w1,w2,w3]
   refine hr_inBlock (qR rfl rfl (qS 20 rfl (oC · rfl rfl) (qS 10 rfl (oM · rfl) (rE ?_))))
   try dsimp only [w0,w1,w2,w3]
   exact ih h
  ·obtain ⟨p8,hp8,h⟩ := bindo h
   refine q_cond_f rfl (.tmp rfl) (decide_eq_false hc2) (q_exit rfl rfl (qQ rfl (qR rfl rfl (qS 21 rfl (oM · rfl) (qS 22 rfl (ok_str_of_bytes (s := y3) · tu127 tu5 tu9 (.tmp rfl) hp8) (qS 2 rfl (oA · rfl) (rE ?_)))))))
   cases h
   exact q_ret rfl at_.at_ rfl (res1 rfl rfl) ⟨rfl,rfl⟩
def f (k : Nat) (x0 : (List UInt8)) (S : HS) : Option (((List UInt8)) × HS) :=
 ((S.make 0 (List.length x0 : Int) [(.int .u8 0)]).bind fun p1 =>
 L0 k k x0 (p1.1) (List.length x0 : Int) 0 (p1.2))
theorem snd {x0 : (List UInt8)} {S : HS}  {p : ((List UInt8)) × HS} (h : f k x0 S = some p) : HCall Tryz.prog base W0 β0 39 [(.str x0)] S (fun v S1 => v = (.str p.1) ∧ S1 = p.2) := by
 unfold f at h
 refine HCall.of_run at_.at_ body ?_
 show HR base W0 β0 39 none [.code c0] ⟨[(.str x0),τ,τ,τ,τ,τ,τ,τ,τ,τ,τ,τ,τ,τ,τ,τ,τ,τ,τ,τ,τ,τ,τ],[]⟩ S _
 refine qQ rfl (qR rfl rfl (qS 2 rfl (ok_assign · (.str _)) (rE ?_)))
 try dsimp only [w0,w1,w2,w3]
 obtain ⟨p1,hp1,h⟩ := bindo h
 refine qQ rfl (qR rfl rfl (qS 5 rfl (oM · rfl) (qS 6 rfl (ok_len_str · rfl tu9 (.tmp rfl)) (qS 7 rfl (ok_make el127 · (.int _ _) (.tmp rfl) hp1) (qS 3 rfl (oA · rfl) (rE ?_))))))
 try dsimp only [w0,w1,w2,w3]
 refine qQ rfl (qQ rfl (qR rfl rfl (qS 8 rfl (oM · rfl) (qS 9 rfl (ok_len_str · rfl tu9 (.tmp rfl)) (qS 10 rfl (ok_move · (.int _ _)) (rE ?_))))))
 try dsimp only [w0,w1,w2,w3]
 refine q_block rfl (q_loop rfl ?_)
 try dsimp only [w0,w1,w2,w3]
 exact L0_snd  h
end fold_Text
namespace cmp_isNaN_string
theorem at_ : FnAt Tryz.prog 132 Tryz.f132 := ⟨Tryz.func132,by kernel_rfl⟩
def d0 := (Tryz.f132.body).getD .skip
def r1 := kR (kA d0)
def r3 := kR (kA (kB d0))
def c0 : Code := .seq (.region 0 r1 false) (.seq (.region 1 r3 false) .ret)
theorem body : Tryz.f132.body = some c0 := by kernel_rfl
def f (x0 : (List UInt8)) : Option (Bool) :=
 some (!decide (x0 = x0))
theorem snd {x0 : (List UInt8)} {S : HS}  {p : Bool} (h : f x0 = some p) : HCall Tryz.prog base W0 β0 132 [(.str x0)] S (fun v S1 => v = (.bool p) ∧ S1 = S) := by
 unfold f at h
 refine HCall.of_run at_.at_ body ?_
 show HR base W0 β0 132 none [.code c0] ⟨[(.str x0),τ,τ,τ,τ,τ],[]⟩ S _
 refine qQ rfl (qR rfl rfl (qS 2 rfl (ok_assign · (.bool _)) (rE ?_)))
 try dsimp only [w0,w1,w2,w3]
 refine qQ rfl (qR rfl rfl (qS 3 rfl (oM · rfl) (qS 4 rfl (oM · rfl) (qS 5 rfl (ok_sbin · (.tmp rfl) (.tmp rfl) rfl) (qS 2 rfl (oA · rfl) (rE ?_))))))
 cases h
 exact q_ret rfl at_.at_ rfl (res1 rfl rfl) ⟨rfl,rfl⟩
end cmp_isNaN_string
namespace cmp_Less_string
theorem at_ : FnAt Tryz.prog 124 Tryz.f124 := ⟨Tryz.func124,by kernel_rfl⟩
def d0 := (Tryz.f124.body).getD .skip
def r1 := kR (kA d0)
def r3 := kR (kA (kB d0))
def c4 : Code := .ret
def c0 : Code := .seq (.region 0 r1 false) (.seq (.region 1 r3 false) c4)
theorem body : Tryz.f124.body = some c0 := by kernel_rfl
def J1  (y16 : Bool) : Option (Bool) :=
 some y16
theorem J1_snd   {y16 : Bool} {S : HS} {p : Bool} (h : J1  y16 = some p) : HR base W0 β0 124 none [.inRegion r3 [12],.code c4] ⟨[Ga,Gb,Gc,Gd,Ge,Gf,Gg,Gh,Gi,Gj,Gk,Gl,Gm,Gn,Go,Gp,(.bool y16)],[]⟩ S (fun v S1 => v = (.bool p) ∧ S1 = S) := by
 unfold J1 at h
 refine qS 4 rfl (oA · rfl) (rE ?_)
 cases h
 exact q_ret rfl at_.at_ rfl (res1 rfl rfl) ⟨rfl,rfl⟩
def J0  (y0 : (List UInt8)) (y1 : (List UInt8)) (y11 : Bool) : Option (Bool) :=
 (if y11 = true then
 J1 true else
 J1 (slt y0 y1))
theorem J0_snd   {y0 : (List UInt8)} {y1 : (List UInt8)} {y11 : Bool} {S : HS} {p : Bool} (h : J0  y0 y1 y11 = some p) : HR base W0 β0 124 none [.inRegion r3 [7,8,9,10,11,12],.code c4] ⟨[(.str y0),(.str y1),Gc,Gd,Ge,Gf,Gg,Gh,Gi,Gj,Gk,(.bool y11),Gm,Gn,Go,Gp,Gq],[]⟩ S (fun v S1 => v = (.bool p) ∧ S1 = S) := by
 unfold J0 at h
 refine qS 12 rfl (oM · rfl) ?_
 try dsimp only [w0,w1,w2,w3]
 rcases ifc h with ⟨hc4,h⟩ | ⟨hc4,h⟩
 ·refine q_skip (dst := some 13) (t := 12) rfl rfl rfl hc4 (q_skip (dst := some 14) (t := 12) rfl rfl rfl hc4 (q_skip (dst := some 15) (t := 12) rfl rfl rfl hc4 (qS 16 rfl (ok_pick_tt · (.tmp rfl) hc4 (.bool _)) ?_)))
  try dsimp only [w0,w1,w2,w3]
  exact J1_snd  h
 ·refine qG 12 13 rfl (bfalse hc4) (oM · rfl) (qG 12 14 rfl (bfalse hc4) (oM · rfl) (qG 12 15 rfl (bfalse hc4) (ok_sbin · (.tmp rfl) (.tmp rfl) rfl) (qS 16 rfl (ok_pick_ff · (.tmp rfl) (bfalse hc4) (.tmp rfl)) ?_)))
  try dsimp only [w0,w1,w2,w3]
  exact J1_snd  h
def f (x0 : (List UInt8)) (x1 : (List UInt8)) : Option (Bool) :=
 ((cmp_isNaN_string.f x0).bind fun p1 =>
 (if p1 = true then
 ((cmp_isNaN_string.f x1).bind fun p3 =>
 J0 x0 x1 (!p3)) else
 J0 x0 x1 false))
theorem snd {x0 : (List UInt8)} {x1 : (List UInt8)} {S : HS}  {p : Bool} (h : f x0 x1 = some p) : HCall Tryz.prog base W0 β0 124 [(.str x0),(.str x1)] S (fun v S1 => v = (.bool p) ∧ S1 = S) := by
 unfold f at h
 refine HCall.of_run at_.at_ body ?_
 show HR base W0 β0 124 none [.code c0] ⟨[(.str x0),(.str x1),τ,τ,τ,τ,τ,τ,τ,τ,τ,τ,τ,τ,τ,τ,τ],[]⟩ S _
 refine qQ rfl (qR rfl rfl (qS 4 rfl (ok_assign · (.bool _)) (rE ?_)))
 try dsimp only [w0,w1,w2,w3]
 obtain ⟨p1,hp1,h⟩ := bindo h
 refine qQ rfl (qR rfl rfl (qS 5 rfl (oM · rfl) (q_call (dst := some 6) rfl (.func _) (.cons (.tmp rfl) Evs.nil) (HInv.static cmp_isNaN_string.at_ cmp_isNaN_string.body (cmp_isNaN_string.snd  hp1)) ?_)))
 rintro _ _ ⟨rfl,rfl⟩
 refine qS 7 rfl (oM · rfl) ?_
 rcases ifc h with ⟨hc2,h⟩ | ⟨hc2,h⟩
 ·refine qG 7 8 rfl hc2 (oM · rfl) ?_
  try dsimp only [w0,w1,w2,w3]
  obtain ⟨p3,hp3,h⟩ := bindo h
  refine q_call_g (t := 7) (dst := some 9) rfl rfl rfl hc2 (.func _) (.cons (.tmp rfl) Evs.nil) (HInv.static cmp_isNaN_string.at_ cmp_isNaN_string.body (cmp_isNaN_string.snd  hp3)) ?_
  rintro _ _ ⟨rfl,rfl⟩
  refine qG 7 10 rfl hc2 (ok_not · (.tmp rfl)) (qS 11 rfl (ok_pick_tt · (.tmp rfl) hc2 (.tmp rfl)) ?_)
  try dsimp only [w0,w1,w2,w3]
  exact J0_snd  h
 ·refine q_skip (dst := some 8) (t := 7) rfl rfl rfl (bfalse hc2) ?_
  try dsimp only [w0,w1,w2,w3]
  refine q_skip (dst := some 9) (t := 7) rfl rfl rfl (bfalse hc2) (q_skip (dst := some 10) (t := 7) rfl rfl rfl (bfalse hc2) (qS 11 rfl (ok_pick_ff · (.tmp rfl) (bfalse hc2) (.bool _)) ?_))
  try dsimp only [w0,w1,w2,w3]
  exact J0_snd  h
end cmp_Less_string
namespace slices_isNaN_string
theorem at_ : FnAt Tryz.prog 125 Tryz.f125 := ⟨Tryz.func125,by kernel_rfl⟩
def d0 := (Tryz.f125.body).getD .skip
def r1 := kR (kA d0)
def r3 := kR (kA (kB d0))
def c0 : Code := .seq (.region 0 r1 false) (.seq (.region 1 r3 false) .ret)
theorem body : Tryz.f125.body = some c0 := by kernel_rfl
def f (x0 : (List UInt8)) : Option (Bool) :=
 some (!decide (x0 = x0))
theorem snd {x0 : (List UInt8)} {S : HS}  {p : Bool} (h : f x0 = some p) : HCall Tryz.prog base W0 β0 125 [(.str x0)] S (fun v S1 => v = (.bool p) ∧ S1 = S) := by
 unfold f at h
 refine HCall.of_run at_.at_ body ?_
 show HR base W0 β0 125 none [.code c0] ⟨[(.str x0),τ,τ,τ,τ,τ],[]⟩ S _
 refine qQ rfl (qR rfl rfl (qS 2 rfl (ok_assign · (.bool _)) (rE ?_)))
 try dsimp only [w0,w1,w2,w3]
 refine qQ rfl (qR rfl rfl (qS 3 rfl (oM · rfl) (qS 4 rfl (oM · rfl) (qS 5 rfl (ok_sbin · (.tmp rfl) (.tmp rfl) rfl) (qS 2 rfl (oA · rfl) (rE ?_))))))
 cases h
 exact q_ret rfl at_.at_ rfl (res1 rfl rfl) ⟨rfl,rfl⟩
end slices_isNaN_string
namespace slices_BinarySearch_string_string
theorem at_ : FnAt Tryz.prog 105 Tryz.f105 := ⟨Tryz.func105,by kernel_rfl⟩
def d0 := (Tryz.f105.body).getD .skip
def r1 := kR (kA d0)
def r3 := kR (kA (kB d0))
def r5 := kR (kA (kB (kB d0)))
def d6 := kB (kB (kB d0))
def d9 := kA (kA (kA d6))
def r11 := kR (kA (kA d9))
def r17 := kR (kA (kA (kB d9)))
def r19 := kR (kA (kB (kA (kB d9))))
def r21 := kR (kA (kB (kB (kA (kB d9)))))
def r22 := kR (kB (kB (kB (kA (kB d9)))))
def r24 := kR (kA (kB d6))
def c25 : Code := .ret
def c23 : Code := .seq (.region 8 r24 false) c25
def c9 : Code := .seq (.seq (.region 3 r11 false) (.cond (.tmp 15) .skip (.exit 0))) (.block 1 (.seq (.region 4 r17 false) (.seq (.region 5 r19 false) (.cond (.tmp 27) (.region 6 r21 false) (.region 7 r22 false)))))
def c0 : Code := .seq (.region 0 r1 false) (.seq (.region 1 r3 false) (.seq (.region 2 r5 false) (.seq (.block 0 (.loop c9)) c23)))
theorem body : Tryz.f105.body = some c0 := by kernel_rfl
def J2 (k : Nat) (y31 : Int) (y53 : Bool) (S : HS) : Option ((Int × Bool) × HS) :=
 some ((y31,y53),S)
theorem J2_snd  {y31 : Int} {y53 : Bool} {S : HS} {p : (Int × Bool) × HS} (h : J2 k y31 y53 S = some p) : HR base W0 β0 105 none [.inRegion r24 [23,24],.code c25] ⟨[Ga,Gb,Gc,Gd,Ge,Gf,Gg,Gh,Gi,Gj,Gk,Gl,Gm,Gn,Go,Gp,Gq,Gr,Gs,Gt,Gu,Gv,Gw,Gx,Gy,Gz,Ka,Kb,Kc,Kd,Ke,(.int .i64 y31),Kg,Kh,Ki,Kj,Kk,Kl,Km,Kn,Ko,Kp,Kq,Kr,Ks,Kt,Ku,Kv,Kw,Kx,Ky,Kz,Ma,(.bool y53)],[]⟩ S (fun v S1 => v = (.tup [(.int .i64 p.1.1),(.bool p.1.2)]) ∧ S1 = p.2) := by
 unfold J2 at h
 refine qS 4 rfl (oA · rfl) ?_
 try dsimp only [w0,w1,w2,w3]
 refine qS 5 rfl (oA · rfl) (rE ?_)
 cases h
 exact q_ret rfl at_.at_ rfl (res2 rfl rfl rfl) ⟨rfl,rfl⟩
def J1 (k : Nat) (y31 : Int) (y35 : Bool) (y52 : Bool) (S : HS) : Option ((Int × Bool) × HS) :=
 (if y35 = true then
 J2 k y31 y52 S else
 J2 k y31 false S)
theorem J1_snd  {y31 : Int} {y35 : Bool} {y52 : Bool} {S : HS} {p : (Int × Bool) × HS} (h : J1 k y31 y35 y52 S = some p) : HR base W0 β0 105 none [.inRegion r24 [22,23,24],.code c25] ⟨[Ga,Gb,Gc,Gd,Ge,Gf,Gg,Gh,Gi,Gj,Gk,Gl,Gm,Gn,Go,Gp,Gq,Gr,Gs,Gt,Gu,Gv,Gw,Gx,Gy,Gz,Ka,Kb,Kc,Kd,Ke,(.int .i64 y31),Kg,Kh,Ki,(.bool y35),Kk,Kl,Km,Kn,Ko,Kp,Kq,Kr,Ks,Kt,Ku,Kv,Kw,Kx,Ky,Kz,(.bool y52),Mb],[]⟩ S (fun v S1 => v = (.tup [(.int .i64 p.1.1),(.bool p.1.2)]) ∧ S1 = p.2) := by
 unfold J1 at h
 rcases ifc h with ⟨hc10,h⟩ | ⟨hc10,h⟩
 ·refine qS 53 rfl (ok_pick_tt · (.tmp rfl) hc10 (.tmp rfl)) ?_
  try dsimp only [w0,w1,w2,w3]
  exact J2_snd  h
 ·refine qS 53 rfl (ok_pick_ff · (.tmp rfl) (bfalse hc10) (.bool _)) ?_
  try dsimp only [w0,w1,w2,w3]
  exact J2_snd  h
def J3 (k : Nat) (y31 : Int) (y35 : Bool) (y42 : Bool) (y51 : Bool) (S : HS) : Option ((Int × Bool) × HS) :=
 (if y35 = true then
 (if y42 = true then
 J1 k y31 y35 true S else
 J1 k y31 y35 y51 S) else
 J2 k y31 false S)
theorem J3_snd  {y31 : Int} {y35 : Bool} {y42 : Bool} {y51 : Bool} {S : HS} {p : (Int × Bool) × HS} (h : J3 k y31 y35 y42 y51 S = some p) : HR base W0 β0 105 none [.inRegion r24 [21,22,23,24],.code c25] ⟨[Ga,Gb,Gc,Gd,Ge,Gf,Gg,Gh,Gi,Gj,Gk,Gl,Gm,Gn,Go,Gp,Gq,Gr,Gs,Gt,Gu,Gv,Gw,Gx,Gy,Gz,Ka,Kb,Kc,Kd,Ke,(.int .i64 y31),Kg,Kh,Ki,(.bool y35),Kk,Kl,Km,Kn,Ko,Kp,(.bool y42),Kr,Ks,Kt,Ku,Kv,Kw,Kx,Ky,(.bool y51),Ma,Mb],[]⟩ S (fun v S1 => v = (.tup [(.int .i64 p.1.1),(.bool p.1.2)]) ∧ S1 = p.2) := by
 unfold J3 at h
 rcases ifc h with ⟨hc16,h⟩ | ⟨hc16,h⟩
 ·rcases ifc h with ⟨hc17,h⟩ | ⟨hc17,h⟩
  ·refine qG 35 52 rfl hc16 (ok_pick_tt · (.tmp rfl) hc17 (.bool _)) ?_
   try dsimp only [w0,w1,w2,w3]
   exact J1_snd  h
  ·refine qG 35 52 rfl hc16 (ok_pick_ff · (.tmp rfl) (bfalse hc17) (.tmp rfl)) ?_
   try dsimp only [w0,w1,w2,w3]
   exact J1_snd  h
 ·refine q_skip (dst := some 52) (t := 35) rfl rfl rfl (bfalse hc16) (qS 53 rfl (ok_pick_ff · (.tmp rfl) (bfalse hc16) (.bool _)) ?_)
  try dsimp only [w0,w1,w2,w3]
  exact J2_snd  h
def L0 (k : Nat) : Nat → Sl → (List UInt8) → Int → Int → Int → HS → Option ((Int × Bool) × HS)
 | 0,_,_,_,_,_,_ => none
 | n + 1,y0,y1,y6,y7,y8,S =>
  (if y7 < y8 then
  ((S.idx y0 (w64 (Int.fdiv (IntKind.wrap .u64 (w64 (y7 + y8))) (2 ^ (min (Int.toNat 1) (IntKind.bits .u64))))) 1).bind fun p2 =>
  ((S.ldS p2).bind fun p3 =>
  ((cmp_Less_string.f p3 y1).bind fun p4 =>
  (if p4 = true then
  (L0 k n) y0 y1 y6 (w64 ((w64 (Int.fdiv (IntKind.wrap .u64 (w64 (y7 + y8))) (2 ^ (min (Int.toNat 1) (IntKind.bits .u64))))) + 1)) y8 S else
  (L0 k n) y0 y1 y6 y7 (w64 (Int.fdiv (IntKind.wrap .u64 (w64 (y7 + y8))) (2 ^ (min (Int.toNat 1) (IntKind.bits .u64))))) S)))) else
  (if y7 < y6 then
  ((S.idx y0 y7 1).bind fun p7 =>
  ((S.ldS p7).bind fun p8 =>
  (if p8 = y1 then
  J1 k y7 (decide (y7 < y6)) true S else
  ((S.idx y0 y7 1).bind fun p11 =>
  ((S.ldS p11).bind fun p12 =>
  ((slices_isNaN_string.f p12).bind fun p13 =>
  (if p13 = true then
  ((slices_isNaN_string.f y1).bind fun p15 =>
  J3 k y7 (decide (y7 < y6)) (decide (p8 = y1)) p15 S) else
  J3 k y7 (decide (y7 < y6)) (decide (p8 = y1)) false S))))))) else
  J2 k y7 false S))
theorem L0_snd  : ∀ {n : Nat} ⦃y0 : Sl⦄ ⦃y1 : (List UInt8)⦄ ⦃y6 : Int⦄ ⦃y7 : Int⦄ ⦃y8 : Int⦄ ⦃S : HS⦄ ⦃p : (Int × Bool) × HS⦄ ⦃Gc Gd Ge Gf Gj Gk Gl Gm Gn Go Gp Gq Gr Gs Gt Gu Gv Gw Gx Gy Gz Ka Kb Kc Kd Ke Kf Kg Kh Ki Kj Kk Kl Km Kn Ko Kp Kq Kr Ks Kt Ku Kv Kw Kx Ky Kz Ma Mb : HV⦄,L0 k n y0 y1 y6 y7 y8 S = some p → HR base W0 β0 105 none [.inLoop c9,.inBlock 0,.code c23] ⟨[(Sl.hv y0),(.str y1),Gc,Gd,Ge,Gf,(.int .i64 y6),(.int .i64 y7),(.int .i64 y8),Gj,Gk,Gl,Gm,Gn,Go,Gp,Gq,Gr,Gs,Gt,Gu,Gv,Gw,Gx,Gy,Gz,Ka,Kb,Kc,Kd,Ke,Kf,Kg,Kh,Ki,Kj,Kk,Kl,Km,Kn,Ko,Kp,Kq,Kr,Ks,Kt,Ku,Kv,Kw,Kx,Ky,Kz,Ma,Mb],[]⟩ S (fun v S1 => v = (.tup [(.int .i64 p.1.1),(.bool p.1.2)]) ∧ S1 = p.2) := by
 intro n
 induction n with
 | zero => intro _ _ _ _ _ _ _ _ _ _ _ _ _ _ _ _ _ _ _ _ _ _ _ _ _ _ _ _ _ _ _ _ _ _ _ _ _ _ _ _ _ _ _ _ _ _ _ _ _ _ _ _ _ _ _ _ h; cases h
 | succ n ih =>
  intro y0 y1 y6 y7 y8 S p Gc Gd Ge Gf Gj Gk Gl Gm Gn Go Gp Gq Gr Gs Gt Gu Gv Gw Gx Gy Gz Ka Kb Kc Kd Ke Kf Kg Kh Ki Kj Kk Kl Km Kn Ko Kp Kq Kr Ks Kt Ku Kv Kw Kx Ky Kz Ma Mb h
  simp only [L0] at h
  refine hr_inLoop (qQ rfl (qQ rfl (qR rfl rfl (qS 13 rfl (oM · rfl) (qS 14 rfl (oM · rfl) (qS 15 rfl (oB · rfl rfl rfl) (rE ?_)))))))
  try dsimp only [w0,w1,w2,w3]
  rcases ifc h with ⟨hc1,h⟩ | ⟨hc1,h⟩
  ·refine q_cond_t rfl (.tmp rfl) (decide_eq_true hc1) (q_skipc rfl (q_block rfl (qQ rfl (qR rfl rfl (qS 16 rfl (oM · rfl) (qS 17 rfl (oM · rfl) (qS 18 rfl (oB · rfl rfl rfl) (qS 19 rfl (ok_conv_int · tu3 tu166 (.tmp rfl)) ?_))))))))
   try dsimp only [w0,w1,w2,w3]
   refine qS 20 rfl (ok_shr · (.tmp rfl) (.int _ _) (by decide)) (qS 21 rfl (ok_conv_int · tu166 tu3 (.tmp rfl)) (qS 9 rfl (oA · rfl) (rE ?_)))
   try dsimp only [w0,w1,w2,w3]
   obtain ⟨p2,hp2,h⟩ := bindo h
   obtain ⟨p3,hp3,h⟩ := bindo h
   refine qQ rfl (qR rfl rfl (qS 22 rfl (oM · rfl) (qS 23 rfl (oM · rfl) (qS 24 rfl (oX (s := y0) · tu57 sz9 rfl rfl hp2) (qS 25 rfl (oL · sc9 rfl rfl (ldS_out hp3)) ?_)))))
   try dsimp only [w0,w1,w2,w3]
   obtain ⟨p4,hp4,h⟩ := bindo h
   refine qS 26 rfl (oM · rfl) (q_call (dst := some 27) rfl (.func _) (.cons (.tmp rfl) (.cons (.tmp rfl) Evs.nil)) (HInv.static cmp_Less_string.at_ cmp_Less_string.body (cmp_Less_string.snd  hp4)) ?_)
   rintro _ _ ⟨rfl,rfl⟩
   refine rE ?_
   try dsimp only [w0,w1,w2,w3]
   rcases ifc h with ⟨hc5,h⟩ | ⟨hc5,h⟩
   ·refine q_cond_t rfl (.tmp rfl) hc5 (qR rfl rfl (qS 28 rfl (oM · rfl) (qS 29 rfl (oC · rfl rfl) (qS 7 rfl (oA · rfl) (rE ?_)))))
    try dsimp only [w0,w1,w2,w3]
    refine hr_inBlock ?_
    try dsimp only [w0,w1,w2,w3]
    exact ih h
   ·refine q_cond_f rfl (.tmp rfl) (bfalse hc5) (qR rfl rfl (qS 30 rfl (oM · rfl) (qS 8 rfl (oA · rfl) (rE ?_))))
    try dsimp only [w0,w1,w2,w3]
    refine hr_inBlock ?_
    try dsimp only [w0,w1,w2,w3]
    exact ih h
  ·refine q_cond_f rfl (.tmp rfl) (decide_eq_false hc1) (q_exit rfl rfl (qQ rfl (qR rfl rfl (qS 31 rfl (oM · rfl) (qS 32 rfl (oM · rfl) (qS 33 rfl (oM · rfl) (qS 34 rfl (oB · rfl rfl rfl) ?_)))))))
   try dsimp only [w0,w1,w2,w3]
   refine qS 35 rfl (oM · rfl) ?_
   rcases ifc h with ⟨hc6,h⟩ | ⟨hc6,h⟩
   ·obtain ⟨p7,hp7,h⟩ := bindo h
    refine qG 35 36 rfl (decide_eq_true hc6) (oM · rfl) (qG 35 37 rfl (decide_eq_true hc6) (oM · rfl) (qG 35 38 rfl (decide_eq_true hc6) (oX (s := y0) · tu57 sz9 rfl rfl hp7) ?_))
    try dsimp only [w0,w1,w2,w3]
    obtain ⟨p8,hp8,h⟩ := bindo h
    refine qG 35 39 rfl (decide_eq_true hc6) (oL · sc9 rfl rfl (ldS_out hp8)) (qG 35 40 rfl (decide_eq_true hc6) (oM · rfl) (qG 35 41 rfl (decide_eq_true hc6) (ok_sbin · (.tmp rfl) (.tmp rfl) rfl) (qG 35 42 rfl (decide_eq_true hc6) (oM · rfl) ?_)))
    try dsimp only [w0,w1,w2,w3]
    rcases ifc h with ⟨hc9,h⟩ | ⟨hc9,h⟩
    ·refine q_skip (dst := some 43) (t := 42) rfl rfl rfl (decide_eq_true hc9) (q_skip (dst := some 44) (t := 42) rfl rfl rfl (decide_eq_true hc9) (q_skip (dst := some 45) (t := 42) rfl rfl rfl (decide_eq_true hc9) (q_skip (dst := some 46) (t := 42) rfl rfl rfl (decide_eq_true hc9) ?_)))
     try dsimp only [w0,w1,w2,w3]
     refine q_skip (dst := some 47) (t := 42) rfl rfl rfl (decide_eq_true hc9) (q_skip (dst := some 48) (t := 42) rfl rfl rfl (decide_eq_true hc9) (q_skip_u (dst := some 49) (t := 48) rfl rfl rfl (q_skip_u (dst := some 50) (t := 48) rfl rfl rfl ?_)))
     try dsimp only [w0,w1,w2,w3]
     refine q_skip (dst := some 51) (t := 42) rfl rfl rfl (decide_eq_true hc9) (qG 35 52 rfl (decide_eq_true hc6) (ok_pick_tt · (.tmp rfl) (decide_eq_true hc9) (.bool _)) ?_)
     try dsimp only [w0,w1,w2,w3]
     exact J1_snd  h
    ·obtain ⟨p11,hp11,h⟩ := bindo h
     obtain ⟨p12,hp12,h⟩ := bindo h
     refine qG 42 43 rfl (decide_eq_false hc9) (oM · rfl) (qG 42 44 rfl (decide_eq_false hc9) (oM · rfl) (qG 42 45 rfl (decide_eq_false hc9) (oX (s := y0) · tu57 sz9 rfl rfl hp11) (qG 42 46 rfl (decide_eq_false hc9) (oL · sc9 rfl rfl (ldS_out hp12)) ?_)))
     try dsimp only [w0,w1,w2,w3]
     obtain ⟨p13,hp13,h⟩ := bindo h
     refine q_call_g (t := 42) (dst := some 47) rfl rfl rfl (decide_eq_false hc9) (.func _) (.cons (.tmp rfl) Evs.nil) (HInv.static slices_isNaN_string.at_ slices_isNaN_string.body (slices_isNaN_string.snd  hp13)) ?_
     rintro _ _ ⟨rfl,rfl⟩
     refine qG 42 48 rfl (decide_eq_false hc9) (oM · rfl) ?_
     rcases ifc h with ⟨hc14,h⟩ | ⟨hc14,h⟩
     ·obtain ⟨p15,hp15,h⟩ := bindo h
      refine qG 48 49 rfl hc14 (oM · rfl) (q_call_g (t := 48) (dst := some 50) rfl rfl rfl hc14 (.func _) (.cons (.tmp rfl) Evs.nil) (HInv.static slices_isNaN_string.at_ slices_isNaN_string.body (slices_isNaN_string.snd  hp15)) ?_)
      rintro _ _ ⟨rfl,rfl⟩
      try dsimp only [w0,w1,w2,w3]
      refine qG 42 51 rfl (decide_eq_false hc9) (ok_pick_tt · (.tmp rfl) hc14 (.tmp rfl)) ?_
      try dsimp only [w0,w1,w2,w3]
      exact J3_snd  h
     ·refine q_skip (dst := some 49) (t := 48) rfl rfl rfl (bfalse hc14) (q_skip (dst := some 50) (t := 48) rfl rfl rfl (bfalse hc14) ?_)
      try dsimp only [w0,w1,w2,w3]
      refine qG 42 51 rfl (decide_eq_false hc9) (ok_pick_ff · (.tmp rfl) (bfalse hc14) (.bool _)) ?_
      try dsimp only [w0,w1,w2,w3]
      exact J3_snd  h
   ·refine q_skip (dst := some 36) (t := 35) rfl rfl rfl (decide_eq_false hc6) (q_skip (dst := some 37) (t := 35) rfl rfl rfl (decide_eq_false hc6) (q_skip (dst := some 38) (t := 35) rfl rfl rfl (decide_eq_false hc6) ?_))
    try dsimp only [w0,w1,w2,w3]
    refine q_skip (dst := some 39) (t := 35) rfl rfl rfl (decide_eq_false hc6) (q_skip (dst := some 40) (t := 35) rfl rfl rfl (decide_eq_false hc6) (q_skip (dst := some 41) (t := 35) rfl rfl rfl (decide_eq_false hc6) (q_skip (dst := some 42) (t := 35) rfl rfl rfl (decide_eq_false hc6) ?_)))
    try dsimp only [w0,w1,w2,w3]
    refine q_skip_u (dst := some 43) (t := 42) rfl rfl rfl (q_skip_u (dst := some 44) (t := 42) rfl rfl rfl (q_skip_u (dst := some 45) (t := 42) rfl rfl rfl (q_skip_u (dst := some 46) (t := 42) rfl rfl rfl ?_)))
    try dsimp only [w0,w1,w2,w3]
    refine q_skip_u (dst := some 47) (t := 42) rfl rfl rfl (q_skip_u (dst := some 48) (t := 42) rfl rfl rfl (q_skip_u (dst := some 49) (t := 48) rfl rfl rfl (q_skip_u (dst := some 50) (t := 48) rfl rfl rfl ?_)))
    try dsimp only [w0,w1,w2,w3]
    refine q_skip_u (dst := some 51) (t := 42) rfl rfl rfl (q_skip (dst := some 52) (t := 35) rfl rfl rfl (decide_eq_false hc6) (qS 53 rfl (ok_pick_ff · (.tmp rfl) (decide_eq_false hc6) (.bool _)) ?_))
    try dsimp only [w0,w1,w2,w3]
    exact J2_snd  h
def f (k : Nat) (x0 : Sl) (x1 : (List UInt8)) (S : HS) : Option ((Int × Bool) × HS) :=
 L0 k k x0 x1 (Sl.len x0 : Int) 0 (Sl.len x0 : Int) S
theorem snd {x0 : Sl} {x1 : (List UInt8)} {S : HS}  {p : (Int × Bool) × HS} (h : f k x0 x1 S = some p) : HCall Tryz.prog base W0 β0 105 [(Sl.hv x0),(.str x1)] S (fun v S1 => v = (.tup [(.int .i64 p.1.1),(.bool p.1.2)]) ∧ S1 = p.2) := by
 unfold f at h
 refine HCall.of_run at_.at_ body ?_
 show HR base W0 β0 105 none [.code c0] ⟨[(Sl.hv x0),(.str x1),τ,τ,τ,τ,τ,τ,τ,τ,τ,τ,τ,τ,τ,τ,τ,τ,τ,τ,τ,τ,τ,τ,τ,τ,τ,τ,τ,τ,τ,τ,τ,τ,τ,τ,τ,τ,τ,τ,τ,τ,τ,τ,τ,τ,τ,τ,τ,τ,τ,τ,τ,τ],[]⟩ S _
 refine qQ rfl (qR rfl rfl (qS 4 rfl (ok_assign · (.int _ _)) (qS 5 rfl (ok_assign · (.bool _)) (rE ?_))))
 try dsimp only [w0,w1,w2,w3]
 refine qQ rfl (qR rfl rfl (qS 10 rfl (oM · rfl) (qS 11 rfl (ok_len_sl (q := Sl.a x0) (n := Sl.len x0) (z := Sl.cap x0) · rfl tu57 (.tmp rfl)) (qS 6 rfl (oA · rfl) (rE ?_)))))
 try dsimp only [w0,w1,w2,w3]
 refine qQ rfl (qR rfl rfl (qS 12 rfl (oM · rfl) (qS 7 rfl (ok_assign · (.int _ _)) (qS 8 rfl (oA · rfl) (rE ?_)))))
 try dsimp only [w0,w1,w2,w3]
 refine qQ rfl (q_block rfl (q_loop rfl ?_))
 try dsimp only [w0,w1,w2,w3]
 exact L0_snd  h
end slices_BinarySearch_string_string
namespace set_Set_string_Has
theorem at_ : FnAt Tryz.prog 74 Tryz.f74 := ⟨Tryz.func74,by kernel_rfl⟩
def d0 := (Tryz.f74.body).getD .skip
def r1 := kR (kA d0)
def r4 := kR (kA (kA (kB d0)))
def r7 := kR (kA (kA (kB (kA (kB d0)))))
def r11 := kR (kA (kB (kB d0)))
def r13 := kR (kA (kB (kB (kB d0))))
def c0 : Code := .seq (.region 0 r1 false) (.seq (.seq (.region 1 r4 false) (.cond (.tmp 8) (.seq (.region 2 r7 false) .ret) .skip)) (.seq (.region 3 r11 false) (.seq (.region 4 r13 false) .ret)))
theorem body : Tryz.f74.body = some c0 := by kernel_rfl
def f (k : Nat) (x0 : HP) (x1 : (List UInt8)) (S : HS) : Option ((Bool) × HS) :=
 (if (Option.isNone x0) = true then
 some (false,S) else
 (x0.bind fun p2 =>
 ((S.ldSl (HA.fld p2 0)).bind fun p3 =>
 ((slices_BinarySearch_string_string.f k p3 x1 S).bind fun p4 =>
 some (p4.1.2,p4.2)))))
theorem snd {x0 : HP} {x1 : (List UInt8)} {S : HS}  {p : (Bool) × HS} (h : f k x0 x1 S = some p) : HCall Tryz.prog base W0 β0 74 [(.ptr x0),(.str x1)] S (fun v S1 => v = (.bool p.1) ∧ S1 = p.2) := by
 unfold f at h
 refine HCall.of_run at_.at_ body ?_
 show HR base W0 β0 74 none [.code c0] ⟨[(.ptr x0),(.str x1),τ,τ,τ,τ,τ,τ,τ,τ,τ,τ,τ,τ,τ,τ,τ,τ,τ],[]⟩ S _
 refine qQ rfl (qR rfl rfl (qS 4 rfl (ok_assign · (.bool _)) (rE ?_)))
 try dsimp only [w0,w1,w2,w3]
 refine qQ rfl (qQ rfl (qR rfl rfl (qS 7 rfl (oM · rfl) (qS 8 rfl (ok_nil_ptr · tu134 (.tmp rfl) (.inl ⟨rfl,rfl⟩)) (rE ?_)))))
 try dsimp only [w0,w1,w2,w3]
 rcases ifc h with ⟨hc1,h⟩ | ⟨hc1,h⟩
 ·refine q_cond_t rfl (.tmp rfl) hc1 (qQ rfl (qR rfl rfl (qS 4 rfl (ok_assign · (.bool _)) (rE ?_))))
  cases h
  exact q_ret rfl at_.at_ rfl (res1 rfl rfl) ⟨rfl,rfl⟩
 ·obtain ⟨p2,hp2,h⟩ := bindo h
  obtain ⟨p3,hp3,h⟩ := bindo h
  refine q_cond_f rfl (.tmp rfl) (bfalse hc1) (q_skipc rfl (qQ rfl (qR rfl rfl (qS 10 rfl (oM · rfl) (qS 11 rfl (oN · rfl hp2) (qS 12 rfl (oF · fi159_0 (by decide) rfl rfl) (qS 13 rfl (oL · sc57 rfl rfl (ldSl_out hp3)) ?_)))))))
  try dsimp only [w0,w1,w2,w3]
  obtain ⟨p4,hp4,h⟩ := bindo h
  refine qS 14 rfl (oM · rfl) (q_call (dst := some 15) rfl (.func _) (.cons (.tmp rfl) (.cons (.tmp rfl) Evs.nil)) (HInv.static slices_BinarySearch_string_string.at_ slices_BinarySearch_string_string.body (slices_BinarySearch_string_string.snd  hp4)) ?_)
  rintro _ _ ⟨rfl,rfl⟩
  refine qS 9 rfl (oM · rfl) (qS 16 rfl (ok_extract · (.tmp rfl) rfl) ?_)
  try dsimp only [w0,w1,w2,w3]
  refine qS 17 rfl (ok_extract · (.tmp rfl) rfl) (qS 5 rfl (oA · rfl) (qS 6 rfl (oA · rfl) (rE ?_)))
  try dsimp only [w0,w1,w2,w3]
  refine qQ rfl (qR rfl rfl (qS 18 rfl (oM · rfl) (qS 4 rfl (oA · rfl) (rE ?_))))
  cases h
  exact q_ret rfl at_.at_ rfl (res1 rfl rfl) ⟨rfl,rfl⟩
end set_Set_string_Has
namespace pair_Rel_int_string_Has
theorem at_ : FnAt Tryz.prog 44 Tryz.f44 := ⟨Tryz.func44,by kernel_rfl⟩
def d0 := (Tryz.f44.body).getD .skip
def r1 := kR (kA d0)
def r3 := kR (kA (kB d0))
def c4 : Code := .ret
def c0 : Code := .seq (.region 0 r1 false) (.seq (.region 1 r3 false) c4)
theorem body : Tryz.f44.body = some c0 := by kernel_rfl
def J0 (k : Nat) (y18 : Bool) (S : HS) : Option ((Bool) × HS) :=
 some (y18,S)
theorem J0_snd  {y18 : Bool} {S : HS} {p : (Bool) × HS} (h : J0 k y18 S = some p) : HR base W0 β0 44 none [.inRegion r3 [12],.code c4] ⟨[Ga,Gb,Gc,Gd,Ge,Gf,Gg,Gh,Gi,Gj,Gk,Gl,Gm,Gn,Go,Gp,Gq,Gr,(.bool y18)],[]⟩ S (fun v S1 => v = (.bool p.1) ∧ S1 = p.2) := by
 unfold J0 at h
 refine qS 6 rfl (oA · rfl) (rE ?_)
 cases h
 exact q_ret rfl at_.at_ rfl (res1 rfl rfl) ⟨rfl,rfl⟩
def f (k : Nat) (x0 : HP) (x1 : Int) (x2 : (List UInt8)) (S : HS) : Option ((Bool) × HS) :=
 (if (!Option.isNone x0) = true then
 (x0.bind fun p2 =>
 ((S.ldM (HA.fld p2 2)).bind fun p3 =>
 ((S.look p3 (.int .i64 x1)).bind fun p4 =>
 ((dP (Option.getD p4 (.ptr none))).bind fun p5 =>
 ((set_Set_string_Has.f k p5 x2 S).bind fun p6 =>
 J0 k p6.1 p6.2))))) else
 J0 k false S)
theorem snd {x0 : HP} {x1 : Int} {x2 : (List UInt8)} {S : HS}  {p : (Bool) × HS} (h : f k x0 x1 x2 S = some p) : HCall Tryz.prog base W0 β0 44 [(.ptr x0),(.int .i64 x1),(.str x2)] S (fun v S1 => v = (.bool p.1) ∧ S1 = p.2) := by
 unfold f at h
 refine HCall.of_run at_.at_ body ?_
 show HR base W0 β0 44 none [.code c0] ⟨[(.ptr x0),(.int .i64 x1),(.str x2),τ,τ,τ,τ,τ,τ,τ,τ,τ,τ,τ,τ,τ,τ,τ,τ],[]⟩ S _
 refine qQ rfl (qR rfl rfl (qS 6 rfl (ok_assign · (.bool _)) (rE ?_)))
 try dsimp only [w0,w1,w2,w3]
 refine qQ rfl (qR rfl rfl (qS 7 rfl (oM · rfl) (qS 8 rfl (ok_nil_ptr · tu79 (.tmp rfl) (.inr ⟨rfl,rfl⟩)) (qS 9 rfl (oM · rfl) ?_))))
 rcases ifc h with ⟨hc1,h⟩ | ⟨hc1,h⟩
 ·refine qG 9 10 rfl hc1 (oM · rfl) ?_
  try dsimp only [w0,w1,w2,w3]
  obtain ⟨p2,hp2,h⟩ := bindo h
  obtain ⟨p3,hp3,h⟩ := bindo h
  refine qG 9 11 rfl hc1 (oN · rfl hp2) (qG 9 12 rfl hc1 (oF · fi124_2 (by decide) rfl rfl) (qG 9 13 rfl hc1 (oL · sc121 rfl rfl (ldM_out hp3)) (qG 9 14 rfl hc1 (oM · rfl) ?_)))
  try dsimp only [w0,w1,w2,w3]
  obtain ⟨p4,hp4,h⟩ := bindo h
  obtain ⟨p5,hp5,h⟩ := bindo h
  obtain ⟨p6,hp6,h⟩ := bindo h
  refine qG 9 15 rfl hc1 (ok_lookup · tu121 zi134 (fun β => .ptrNil) (keyInt tu3) (.tmp rfl) (.tmp rfl) hp4 (dP_out hp5)) (qG 9 16 rfl hc1 (oM · rfl) (q_call_g (t := 9) (dst := some 17) rfl rfl rfl hc1 (.func _) (.cons (.tmp rfl) (.cons (.tmp rfl) Evs.nil)) (HInv.static set_Set_string_Has.at_ set_Set_string_Has.body (set_Set_string_Has.snd  hp6)) ?_))
  rintro _ _ ⟨rfl,rfl⟩
  refine qS 18 rfl (ok_pick_tt · (.tmp rfl) hc1 (.tmp rfl)) ?_
  try dsimp only [w0,w1,w2,w3]
  exact J0_snd  h
 ·refine q_skip (dst := some 10) (t := 9) rfl rfl rfl (bfalse hc1) ?_
  try dsimp only [w0,w1,w2,w3]
  refine q_skip (dst := some 11) (t := 9) rfl rfl rfl (bfalse hc1) (q_skip (dst := some 12) (t := 9) rfl rfl rfl (bfalse hc1) (q_skip (dst := some 13) (t := 9) rfl rfl rfl (bfalse hc1) (q_skip (dst := some 14) (t := 9) rfl rfl rfl (bfalse hc1) ?_)))
  try dsimp only [w0,w1,w2,w3]
  refine q_skip (dst := some 15) (t := 9) rfl rfl rfl (bfalse hc1) (q_skip (dst := some 16) (t := 9) rfl rfl rfl (bfalse hc1) (q_skip (dst := some 17) (t := 9) rfl rfl rfl (bfalse hc1) (qS 18 rfl (ok_pick_ff · (.tmp rfl) (bfalse hc1) (.bool _)) ?_)))
  try dsimp only [w0,w1,w2,w3]
  exact J0_snd  h
end pair_Rel_int_string_Has
namespace cmp_isNaN_int
theorem at_ : FnAt Tryz.prog 122 Tryz.f122 := ⟨Tryz.func122,by kernel_rfl⟩
def d0 := (Tryz.f122.body).getD .skip
def r1 := kR (kA d0)
def r3 := kR (kA (kB d0))
def c0 : Code := .seq (.region 0 r1 false) (.seq (.region 1 r3 false) .ret)
theorem body : Tryz.f122.body = some c0 := by kernel_rfl
def f (x0 : Int) : Option (Bool) :=
 some (!decide (x0 = x0))
theorem snd {x0 : Int} {S : HS}  {p : Bool} (h : f x0 = some p) : HCall Tryz.prog base W0 β0 122 [(.int .i64 x0)] S (fun v S1 => v = (.bool p) ∧ S1 = S) := by
 unfold f at h
 refine HCall.of_run at_.at_ body ?_
 show HR base W0 β0 122 none [.code c0] ⟨[(.int .i64 x0),τ,τ,τ,τ,τ],[]⟩ S _
 refine qQ rfl (qR rfl rfl (qS 2 rfl (ok_assign · (.bool _)) (rE ?_)))
 try dsimp only [w0,w1,w2,w3]
 refine qQ rfl (qR rfl rfl (qS 3 rfl (oM · rfl) (qS 4 rfl (oM · rfl) (qS 5 rfl (oB · rfl rfl rfl) (qS 2 rfl (oA · rfl) (rE ?_))))))
 cases h
 exact q_ret rfl at_.at_ rfl (res1 rfl rfl) ⟨rfl,rfl⟩
end cmp_isNaN_int
namespace cmp_Less_int
theorem at_ : FnAt Tryz.prog 114 Tryz.f114 := ⟨Tryz.func114,by kernel_rfl⟩
def d0 := (Tryz.f114.body).getD .skip
def r1 := kR (kA d0)
def r3 := kR (kA (kB d0))
def c4 : Code := .ret
def c0 : Code := .seq (.region 0 r1 false) (.seq (.region 1 r3 false) c4)
theorem body : Tryz.f114.body = some c0 := by kernel_rfl
def J1  (y16 : Bool) : Option (Bool) :=
 some y16
theorem J1_snd   {y16 : Bool} {S : HS} {p : Bool} (h : J1  y16 = some p) : HR base W0 β0 114 none [.inRegion r3 [12],.code c4] ⟨[Ga,Gb,Gc,Gd,Ge,Gf,Gg,Gh,Gi,Gj,Gk,Gl,Gm,Gn,Go,Gp,(.bool y16)],[]⟩ S (fun v S1 => v = (.bool p) ∧ S1 = S) := by
 unfold J1 at h
 refine qS 4 rfl (oA · rfl) (rE ?_)
 cases h
 exact q_ret rfl at_.at_ rfl (res1 rfl rfl) ⟨rfl,rfl⟩
def J0  (y0 : Int) (y1 : Int) (y11 : Bool) : Option (Bool) :=
 (if y11 = true then
 J1 true else
 J1 (decide (y0 < y1)))
theorem J0_snd   {y0 : Int} {y1 : Int} {y11 : Bool} {S : HS} {p : Bool} (h : J0  y0 y1 y11 = some p) : HR base W0 β0 114 none [.inRegion r3 [7,8,9,10,11,12],.code c4] ⟨[(.int .i64 y0),(.int .i64 y1),Gc,Gd,Ge,Gf,Gg,Gh,Gi,Gj,Gk,(.bool y11),Gm,Gn,Go,Gp,Gq],[]⟩ S (fun v S1 => v = (.bool p) ∧ S1 = S) := by
 unfold J0 at h
 refine qS 12 rfl (oM · rfl) ?_
 try dsimp only [w0,w1,w2,w3]
 rcases ifc h with ⟨hc4,h⟩ | ⟨hc4,h⟩
 ·refine q_skip (dst := some 13) (t := 12) rfl rfl rfl hc4 (q_skip (dst := some 14) (t := 12) rfl rfl rfl hc4 (q_skip (dst := some 15) (t := 12) rfl rfl rfl hc4 (qS 16 rfl (ok_pick_tt · (.tmp rfl) hc4 (.bool _)) ?_)))
  try dsimp only [w0,w1,w2,w3]
  exact J1_snd  h
 ·refine qG 12 13 rfl (bfalse hc4) (oM · rfl) (qG 12 14 rfl (bfalse hc4) (oM · rfl) (qG 12 15 rfl (bfalse hc4) (oB · rfl rfl rfl) (qS 16 rfl (ok_pick_ff · (.tmp rfl) (bfalse hc4) (.tmp rfl)) ?_)))
  try dsimp only [w0,w1,w2,w3]
  exact J1_snd  h
def f (x0 : Int) (x1 : Int) : Option (Bool) :=
 ((cmp_isNaN_int.f x0).bind fun p1 =>
 (if p1 = true then
 ((cmp_isNaN_int.f x1).bind fun p3 =>
 J0 x0 x1 (!p3)) else
 J0 x0 x1 false))
theorem snd {x0 : Int} {x1 : Int} {S : HS}  {p : Bool} (h : f x0 x1 = some p) : HCall Tryz.prog base W0 β0 114 [(.int .i64 x0),(.int .i64 x1)] S (fun v S1 => v = (.bool p) ∧ S1 = S) := by
 unfold f at h
 refine HCall.of_run at_.at_ body ?_
 show HR base W0 β0 114 none [.code c0] ⟨[(.int .i64 x0),(.int .i64 x1),τ,τ,τ,τ,τ,τ,τ,τ,τ,τ,τ,τ,τ,τ,τ],[]⟩ S _
 refine qQ rfl (qR rfl rfl (qS 4 rfl (ok_assign · (.bool _)) (rE ?_)))
 try dsimp only [w0,w1,w2,w3]
 obtain ⟨p1,hp1,h⟩ := bindo h
 refine qQ rfl (qR rfl rfl (qS 5 rfl (oM · rfl) (q_call (dst := some 6) rfl (.func _) (.cons (.tmp rfl) Evs.nil) (HInv.static cmp_isNaN_int.at_ cmp_isNaN_int.body (cmp_isNaN_int.snd  hp1)) ?_)))
 rintro _ _ ⟨rfl,rfl⟩
 refine qS 7 rfl (oM · rfl) ?_
 rcases ifc h with ⟨hc2,h⟩ | ⟨hc2,h⟩
 ·refine qG 7 8 rfl hc2 (oM · rfl) ?_
  try dsimp only [w0,w1,w2,w3]
  obtain ⟨p3,hp3,h⟩ := bindo h
  refine q_call_g (t := 7) (dst := some 9) rfl rfl rfl hc2 (.func _) (.cons (.tmp rfl) Evs.nil) (HInv.static cmp_isNaN_int.at_ cmp_isNaN_int.body (cmp_isNaN_int.snd  hp3)) ?_
  rintro _ _ ⟨rfl,rfl⟩
  refine qG 7 10 rfl hc2 (ok_not · (.tmp rfl)) (qS 11 rfl (ok_pick_tt · (.tmp rfl) hc2 (.tmp rfl)) ?_)
  try dsimp only [w0,w1,w2,w3]
  exact J0_snd  h
 ·refine q_skip (dst := some 8) (t := 7) rfl rfl rfl (bfalse hc2) ?_
  try dsimp only [w0,w1,w2,w3]
  refine q_skip (dst := some 9) (t := 7) rfl rfl rfl (bfalse hc2) (q_skip (dst := some 10) (t := 7) rfl rfl rfl (bfalse hc2) (qS 11 rfl (ok_pick_ff · (.tmp rfl) (bfalse hc2) (.bool _)) ?_))
  try dsimp only [w0,w1,w2,w3]
  exact J0_snd  h
end cmp_Less_int
namespace slices_isNaN_int
theorem at_ : FnAt Tryz.prog 115 Tryz.f115 := ⟨Tryz.func115,by kernel_rfl⟩
def d0 := (Tryz.f115.body).getD .skip
def r1 := kR (kA d0)
def r3 := kR (kA (kB d0))
def c0 : Code := .seq (.region 0 r1 false) (.seq (.region 1 r3 false) .ret)
theorem body : Tryz.f115.body = some c0 := by kernel_rfl
def f (x0 : Int) : Option (Bool) :=
 some (!decide (x0 = x0))
theorem snd {x0 : Int} {S : HS}  {p : Bool} (h : f x0 = some p) : HCall Tryz.prog base W0 β0 115 [(.int .i64 x0)] S (fun v S1 => v = (.bool p) ∧ S1 = S) := by
 unfold f at h
 refine HCall.of_run at_.at_ body ?_
 show HR base W0 β0 115 none [.code c0] ⟨[(.int .i64 x0),τ,τ,τ,τ,τ],[]⟩ S _
 refine qQ rfl (qR rfl rfl (qS 2 rfl (ok_assign · (.bool _)) (rE ?_)))
 try dsimp only [w0,w1,w2,w3]
 refine qQ rfl (qR rfl rfl (qS 3 rfl (oM · rfl) (qS 4 rfl (oM · rfl) (qS 5 rfl (oB · rfl rfl rfl) (qS 2 rfl (oA · rfl) (rE ?_))))))
 cases h
 exact q_ret rfl at_.at_ rfl (res1 rfl rfl) ⟨rfl,rfl⟩
end slices_isNaN_int
namespace slices_BinarySearch_int_int
theorem at_ : FnAt Tryz.prog 84 Tryz.f84 := ⟨Tryz.func84,by kernel_rfl⟩
def d0 := (Tryz.f84.body).getD .skip
def r1 := kR (kA d0)
def r3 := kR (kA (kB d0))
def r5 := kR (kA (kB (kB d0)))
def d6 := kB (kB (kB d0))
def d9 := kA (kA (kA d6))
def r11 := kR (kA (kA d9))
def r17 := kR (kA (kA (kB d9)))
def r19 := kR (kA (kB (kA (kB d9))))
def r21 := kR (kA (kB (kB (kA (kB d9)))))
def r22 := kR (kB (kB (kB (kA (kB d9)))))
def r24 := kR (kA (kB d6))
def c25 : Code := .ret
def c23 : Code := .seq (.region 8 r24 false) c25
def c9 : Code := .seq (.seq (.region 3 r11 false) (.cond (.tmp 15) .skip (.exit 0))) (.block 1 (.seq (.region 4 r17 false) (.seq (.region 5 r19 false) (.cond (.tmp 27) (.region 6 r21 false) (.region 7 r22 false)))))
def c0 : Code := .seq (.region 0 r1 false) (.seq (.region 1 r3 false) (.seq (.region 2 r5 false) (.seq (.block 0 (.loop c9)) c23)))
theorem body : Tryz.f84.body = some c0 := by kernel_rfl
def J2 (k : Nat) (y31 : Int) (y53 : Bool) (S : HS) : Option ((Int × Bool) × HS) :=
 some ((y31,y53),S)
theorem J2_snd  {y31 : Int} {y53 : Bool} {S : HS} {p : (Int × Bool) × HS} (h : J2 k y31 y53 S = some p) : HR base W0 β0 84 none [.inRegion r24 [23,24],.code c25] ⟨[Ga,Gb,Gc,Gd,Ge,Gf,Gg,Gh,Gi,Gj,Gk,Gl,Gm,Gn,Go,Gp,Gq,Gr,Gs,Gt,Gu,Gv,Gw,Gx,Gy,Gz,Ka,Kb,Kc,Kd,Ke,(.int .i64 y31),Kg,Kh,Ki,Kj,Kk,Kl,Km,Kn,Ko,Kp,Kq,Kr,Ks,Kt,Ku,Kv,Kw,Kx,Ky,Kz,Ma,(.bool y53)],[]⟩ S (fun v S1 => v = (.tup [(.int .i64 p.1.1),(.bool p.1.2)]) ∧ S1 = p.2) := by
 unfold J2 at h
 refine qS 4 rfl (oA · rfl) ?_
 try dsimp only [w0,w1,w2,w3]
 refine qS 5 rfl (oA · rfl) (rE ?_)
 cases h
 exact q_ret rfl at_.at_ rfl (res2 rfl rfl rfl) ⟨rfl,rfl⟩
def J1 (k : Nat) (y31 : Int) (y35 : Bool) (y52 : Bool) (S : HS) : Option ((Int × Bool) × HS) :=
 (if y35 = true then
 J2 k y31 y52 S else
 J2 k y31 false S)
theorem J1_snd  {y31 : Int} {y35 : Bool} {y52 : Bool} {S : HS} {p : (Int × Bool) × HS} (h : J1 k y31 y35 y52 S = some p) : HR base W0 β0 84 none [.inRegion r24 [22,23,24],.code c25] ⟨[Ga,Gb,Gc,Gd,Ge,Gf,Gg,Gh,Gi,Gj,Gk,Gl,Gm,Gn,Go,Gp,Gq,Gr,Gs,Gt,Gu,Gv,Gw,Gx,Gy,Gz,Ka,Kb,Kc,Kd,Ke,(.int .i64 y31),Kg,Kh,Ki,(.bool y35),Kk,Kl,Km,Kn,Ko,Kp,Kq,Kr,Ks,Kt,Ku,Kv,Kw,Kx,Ky,Kz,(.bool y52),Mb],[]⟩ S (fun v S1 => v = (.tup [(.int .i64 p.1.1),(.bool p.1.2)]) ∧ S1 = p.2) := by
 unfold J1 at h
 rcases ifc h with ⟨hc10,h⟩ | ⟨hc10,h⟩
 ·refine qS 53 rfl (ok_pick_tt · (.tmp rfl) hc10 (.tmp rfl)) ?_
  try dsimp only [w0,w1,w2,w3]
  exact J2_snd  h
 ·refine qS 53 rfl (ok_pick_ff · (.tmp rfl) (bfalse hc10) (.bool _)) ?_
  try dsimp only [w0,w1,w2,w3]
  exact J2_snd  h
def J3 (k : Nat) (y31 : Int) (y35 : Bool) (y42 : Bool) (y51 : Bool) (S : HS) : Option ((Int × Bool) × HS) :=
 (if y35 = true then
 (if y42 = true then
 J1 k y31 y35 true S else
 J1 k y31 y35 y51 S) else
 J2 k y31 false S)
theorem J3_snd  {y31 : Int} {y35 : Bool} {y42 : Bool} {y51 : Bool} {S : HS} {p : (Int × Bool) × HS} (h : J3 k y31 y35 y42 y51 S = some p) : HR base W0 β0 84 none [.inRegion r24 [21,22,23,24],.code c25] ⟨[Ga,Gb,Gc,Gd,Ge,Gf,Gg,Gh,Gi,Gj,Gk,Gl,Gm,Gn,Go,Gp,Gq,Gr,Gs,Gt,Gu,Gv,Gw,Gx,Gy,Gz,Ka,Kb,Kc,Kd,Ke,(.int .i64 y31),Kg,Kh,Ki,(.bool y35),Kk,Kl,Km,Kn,Ko,Kp,(.bool y42),Kr,Ks,Kt,Ku,Kv,Kw,Kx,Ky,(.bool y51),Ma,Mb],[]⟩ S (fun v S1 => v = (.tup [(.int .i64 p.1.1),(.bool p.1.2)]) ∧ S1 = p.2) := by
 unfold J3 at h
 rcases ifc h with ⟨hc16,h⟩ | ⟨hc16,h⟩
 ·rcases ifc h with ⟨hc17,h⟩ | ⟨hc17,h⟩
  ·refine qG 35 52 rfl hc16 (ok_pick_tt · (.tmp rfl) hc17 (.bool _)) ?_
   try dsimp only [w0,w1,w2,w3]
   exact J1_snd  h
  ·refine qG 35 52 rfl hc16 (ok_pick_ff · (.tmp rfl) (bfalse hc17) (.tmp rfl)) ?_
   try dsimp only [w0,w1,w2,w3]
   exact J1_snd  h
 ·refine q_skip (dst := some 52) (t := 35) rfl rfl rfl (bfalse hc16) (qS 53 rfl (ok_pick_ff · (.tmp rfl) (bfalse hc16) (.bool _)) ?_)
  try dsimp only [w0,w1,w2,w3]
  exact J2_snd  h
def L0 (k : Nat) : Nat → Sl → Int → Int → Int → Int → HS → Option ((Int × Bool) × HS)
 | 0,_,_,_,_,_,_ => none
 | n + 1,y0,y1,y6,y7,y8,S =>
  (if y7 < y8 then
  ((S.idx y0 (w64 (Int.fdiv (IntKind.wrap .u64 (w64 (y7 + y8))) (2 ^ (min (Int.toNat 1) (IntKind.bits .u64))))) 1).bind fun p2 =>
  ((S.ldI .i64 p2).bind fun p3 =>
  ((cmp_Less_int.f p3 y1).bind fun p4 =>
  (if p4 = true then
  (L0 k n) y0 y1 y6 (w64 ((w64 (Int.fdiv (IntKind.wrap .u64 (w64 (y7 + y8))) (2 ^ (min (Int.toNat 1) (IntKind.bits .u64))))) + 1)) y8 S else
  (L0 k n) y0 y1 y6 y7 (w64 (Int.fdiv (IntKind.wrap .u64 (w64 (y7 + y8))) (2 ^ (min (Int.toNat 1) (IntKind.bits .u64))))) S)))) else
  (if y7 < y6 then
  ((S.idx y0 y7 1).bind fun p7 =>
  ((S.ldI .i64 p7).bind fun p8 =>
  (if p8 = y1 then
  J1 k y7 (decide (y7 < y6)) true S else
  ((S.idx y0 y7 1).bind fun p11 =>
  ((S.ldI .i64 p11).bind fun p12 =>
  ((slices_isNaN_int.f p12).bind fun p13 =>
  (if p13 = true then
  ((slices_isNaN_int.f y1).bind fun p15 =>
  J3 k y7 (decide (y7 < y6)) (decide (p8 = y1)) p15 S) else
  J3 k y7 (decide (y7 < y6)) (decide (p8 = y1)) false S))))))) else
  J2 k y7 false S))
theorem L0_snd  : ∀ {n : Nat} ⦃y0 : Sl⦄ ⦃y1 : Int⦄ ⦃y6 : Int⦄ ⦃y7 : Int⦄ ⦃y8 : Int⦄ ⦃S : HS⦄ ⦃p : (Int × Bool) × HS⦄ ⦃Gc Gd Ge Gf Gj Gk Gl Gm Gn Go Gp Gq Gr Gs Gt Gu Gv Gw Gx Gy Gz Ka Kb Kc Kd Ke Kf Kg Kh Ki Kj Kk Kl Km Kn Ko Kp Kq Kr Ks Kt Ku Kv Kw Kx Ky Kz Ma Mb : HV⦄,L0 k n y0 y1 y6 y7 y8 S = some p → HR base W0 β0 84 none [.inLoop c9,.inBlock 0,.code c23] ⟨[(Sl.hv y0),(.int .i64 y1),Gc,Gd,Ge,Gf,(.int .i64 y6),(.int .i64 y7),(.int .i64 y8),Gj,Gk,Gl,Gm,Gn,Go,Gp,Gq,Gr,Gs,Gt,Gu,Gv,Gw,Gx,Gy,Gz,Ka,Kb,Kc,Kd,Ke,Kf,Kg,Kh,Ki,Kj,Kk,Kl,Km,Kn,Ko,Kp,Kq,Kr,Ks,Kt,Ku,Kv,Kw,Kx,Ky,Kz,Ma,Mb],[]⟩ S (fun v S1 => v = (.tup [(.int .i64 p.1.1),(.bool p.1.2)]) ∧ S1 = p.2) := by
 intro n
 induction n with
 | zero => intro _ _ _ _ _ _ _ _ _ _ _ _ _ _ _ _ _ _ _ _ _ _ _ _ _ _ _ _ _ _ _ _ _ _ _ _ _ _ _ _ _ _ _ _ _ _ _ _ _ _ _ _ _ _ _ _ h; cases h
 | succ n ih =>
  intro y0 y1 y6 y7 y8 S p Gc Gd Ge Gf Gj Gk Gl Gm Gn Go Gp Gq Gr Gs Gt Gu Gv Gw Gx Gy Gz Ka Kb Kc Kd Ke Kf Kg Kh Ki Kj Kk Kl Km Kn Ko Kp Kq Kr Ks Kt Ku Kv Kw Kx Ky Kz Ma Mb h
  simp only [L0] at h
  refine hr_inLoop (qQ rfl (qQ rfl (qR rfl rfl (qS 13 rfl (oM · rfl) (qS 14 rfl (oM · rfl) (qS 15 rfl (oB · rfl rfl rfl) (rE ?_)))))))
  try dsimp only [w0,w1,w2,w3]
  rcases ifc h with ⟨hc1,h⟩ | ⟨hc1,h⟩
  ·refine q_cond_t rfl (.tmp rfl) (decide_eq_true hc1) (q_skipc rfl (q_block rfl (qQ rfl (qR rfl rfl (qS 16 rfl (oM · rfl) (qS 17 rfl (oM · rfl) (qS 18 rfl (oB · rfl rfl rfl) (qS 19 rfl (ok_conv_int · tu3 tu166 (.tmp rfl)) ?_))))))))
   try dsimp only [w0,w1,w2,w3]
   refine qS 20 rfl (ok_shr · (.tmp rfl) (.int _ _) (by decide)) (qS 21 rfl (ok_conv_int · tu166 tu3 (.tmp rfl)) (qS 9 rfl (oA · rfl) (rE ?_)))
   try dsimp only [w0,w1,w2,w3]
   obtain ⟨p2,hp2,h⟩ := bindo h
   obtain ⟨p3,hp3,h⟩ := bindo h
   refine qQ rfl (qR rfl rfl (qS 22 rfl (oM · rfl) (qS 23 rfl (oM · rfl) (qS 24 rfl (oX (s := y0) · tu42 sz3 rfl rfl hp2) (qS 25 rfl (oL · sc3 rfl rfl (ldI_out hp3)) ?_)))))
   try dsimp only [w0,w1,w2,w3]
   obtain ⟨p4,hp4,h⟩ := bindo h
   refine qS 26 rfl (oM · rfl) (q_call (dst := some 27) rfl (.func _) (.cons (.tmp rfl) (.cons (.tmp rfl) Evs.nil)) (HInv.static cmp_Less_int.at_ cmp_Less_int.body (cmp_Less_int.snd  hp4)) ?_)
   rintro _ _ ⟨rfl,rfl⟩
   refine rE ?_
   try dsimp only [w0,w1,w2,w3]
   rcases ifc h with ⟨hc5,h⟩ | ⟨hc5,h⟩
   ·refine q_cond_t rfl (.tmp rfl) hc5 (qR rfl rfl (qS 28 rfl (oM · rfl) (qS 29 rfl (oC · rfl rfl) (qS 7 rfl (oA · rfl) (rE ?_)))))
    try dsimp only [w0,w1,w2,w3]
    refine hr_inBlock ?_
    try dsimp only [w0,w1,w2,w3]
    exact ih h
   ·refine q_cond_f rfl (.tmp rfl) (bfalse hc5) (qR rfl rfl (qS 30 rfl (oM · rfl) (qS 8 rfl (oA · rfl) (rE ?_))))
    try dsimp only [w0,w1,w2,w3]
    refine hr_inBlock ?_
    try dsimp only [w0,w1,w2,w3]
    exact ih h
  ·refine q_cond_f rfl (.tmp rfl) (decide_eq_false hc1) (q_exit rfl rfl (qQ rfl (qR rfl rfl (qS 31 rfl (oM · rfl) (qS 32 rfl (oM · rfl) (qS 33 rfl (oM · rfl) (qS 34 rfl (oB · rfl rfl rfl) ?_)))))))
   try dsimp only [w0,w1,w2,w3]
   refine qS 35 rfl (oM · rfl) ?_
   rcases ifc h with ⟨hc6,h⟩ | ⟨hc6,h⟩
   ·obtain ⟨p7,hp7,h⟩ := bindo h
    refine qG 35 36 rfl (decide_eq_true hc6) (oM · rfl) (qG 35 37 rfl (decide_eq_true hc6) (oM · rfl) (qG 35 38 rfl (decide_eq_true hc6) (oX (s := y0) · tu42 sz3 rfl rfl hp7) ?_))
    try dsimp only [w0,w1,w2,w3]
    obtain ⟨p8,hp8,h⟩ := bindo h
    refine qG 35 39 rfl (decide_eq_true hc6) (oL · sc3 rfl rfl (ldI_out hp8)) (qG 35 40 rfl (decide_eq_true hc6) (oM · rfl) (qG 35 41 rfl (decide_eq_true hc6) (oB · rfl rfl rfl) (qG 35 42 rfl (decide_eq_true hc6) (oM · rfl) ?_)))
    try dsimp only [w0,w1,w2,w3]
    rcases ifc h with ⟨hc9,h⟩ | ⟨hc9,h⟩
    ·refine q_skip (dst := some 43) (t := 42) rfl rfl rfl (decide_eq_true hc9) (q_skip (dst := some 44) (t := 42) rfl rfl rfl (decide_eq_true hc9) (q_skip (dst := some 45) (t := 42) rfl rfl rfl (decide_eq_true hc9) (q_skip (dst := some 46) (t := 42) rfl rfl rfl (decide_eq_true hc9) ?_)))
     try dsimp only [w0,w1,w2,w3]
     refine q_skip (dst := some 47) (t := 42) rfl rfl rfl (decide_eq_true hc9) (q_skip (dst := some 48) (t := 42) rfl rfl rfl (decide_eq_true hc9) (q_skip_u (dst := some 49) (t := 48) rfl rfl rfl (q_skip_u (dst := some 50) (t := 48) rfl rfl rfl ?_)))
     try dsimp only [w0,w1,w2,w3]
     refine q_skip (dst := some 51) (t := 42) rfl rfl rfl (decide_eq_true hc9) (qG 35 52 rfl (decide_eq_true hc6) (ok_pick_tt · (.tmp rfl) (decide_eq_true hc9) (.bool _)) ?_)
     try dsimp only [w0,w1,w2,w3]
     exact J1_snd  h
    ·obtain ⟨p11,hp11,h⟩ := bindo h
     obtain ⟨p12,hp12,h⟩ := bindo h
     refine qG 42 43 rfl (decide_eq_false hc9) (oM · rfl) (qG 42 44 rfl (decide_eq_false hc9) (oM · rfl) (qG 42 45 rfl (decide_eq_false hc9) (oX (s := y0) · tu42 sz3 rfl rfl hp11) (qG 42 46 rfl (decide_eq_false hc9) (oL · sc3 rfl rfl (ldI_out hp12)) ?_)))
     try dsimp only [w0,w1,w2,w3]
     obtain ⟨p13,hp13,h⟩ := bindo h
     refine q_call_g (t := 42) (dst := some 47) rfl rfl rfl (decide_eq_false hc9) (.func _) (.cons (.tmp rfl) Evs.nil) (HInv.static slices_isNaN_int.at_ slices_isNaN_int.body (slices_isNaN_int.snd  hp13)) ?_
     rintro _ _ ⟨rfl,rfl⟩
     refine qG 42 48 rfl (decide_eq_false hc9) (oM · rfl) ?_
     rcases ifc h with ⟨hc14,h⟩ | ⟨hc14,h⟩
     ·obtain ⟨p15,hp15,h⟩ := bindo h
      refine qG 48 49 rfl hc14 (oM · rfl) (q_call_g (t := 48) (dst := some 50) rfl rfl rfl hc14 (.func _) (.cons (.tmp rfl) Evs.nil) (HInv.static slices_isNaN_int.at_ slices_isNaN_int.body (slices_isNaN_int.snd  hp15)) ?_)
      rintro _ _ ⟨rfl,rfl⟩
      try dsimp only [w0,w1,w2,w3]
      refine qG 42 51 rfl (decide_eq_false hc9) (ok_pick_tt · (.tmp rfl) hc14 (.tmp rfl)) ?_
      try dsimp only [w0,w1,w2,w3]
      exact J3_snd  h
     ·refine q_skip (dst := some 49) (t := 48) rfl rfl rfl (bfalse hc14) (q_skip (dst := some 50) (t := 48) rfl rfl rfl (bfalse hc14) ?_)
      try dsimp only [w0,w1,w2,w3]
      refine qG 42 51 rfl (decide_eq_false hc9) (ok_pick_ff · (.tmp rfl) (bfalse hc14) (.bool _)) ?_
      try dsimp only [w0,w1,w2,w3]
      exact J3_snd  h
   ·refine q_skip (dst := some 36) (t := 35) rfl rfl rfl (decide_eq_false hc6) (q_skip (dst := some 37) (t := 35) rfl rfl rfl (decide_eq_false hc6) (q_skip (dst := some 38) (t := 35) rfl rfl rfl (decide_eq_false hc6) ?_))
    try dsimp only [w0,w1,w2,w3]
    refine q_skip (dst := some 39) (t := 35) rfl rfl rfl (decide_eq_false hc6) (q_skip (dst := some 40) (t := 35) rfl rfl rfl (decide_eq_false hc6) (q_skip (dst := some 41) (t := 35) rfl rfl rfl (decide_eq_false hc6) (q_skip (dst := some 42) (t := 35) rfl rfl rfl (decide_eq_false hc6) ?_)))
    try dsimp only [w0,w1,w2,w3]
    refine q_skip_u (dst := some 43) (t := 42) rfl rfl rfl (q_skip_u (dst := some 44) (t := 42) rfl rfl rfl (q_skip_u (dst := some 45) (t := 42) rfl rfl rfl (q_skip_u (dst := some 46) (t := 42) rfl rfl rfl ?_)))
    try dsimp only [w0,w1,w2,w3]
    refine q_skip_u (dst := some 47) (t := 42) rfl rfl rfl (q_skip_u (dst := some 48) (t := 42) rfl rfl rfl (q_skip_u (dst := some 49) (t := 48) rfl rfl rfl (q_skip_u (dst := some 50) (t := 48) rfl rfl rfl ?_)))
    try dsimp only [w0,w1,w2,w3]
    refine q_skip_u (dst := some 51) (t := 42) rfl rfl rfl (q_skip (dst := some 52) (t := 35) rfl rfl rfl (decide_eq_false hc6) (qS 53 rfl (ok_pick_ff · (.tmp rfl) (decide_eq_false hc6) (.bool _)) ?_))
    try dsimp only [w0,w1,w2,w3]
    exact J2_snd  h
def f (k : Nat) (x0 : Sl) (x1 : Int) (S : HS) : Option ((Int × Bool) × HS) :=
 L0 k k x0 x1 (Sl.len x0 : Int) 0 (Sl.len x0 : Int) S
theorem snd {x0 : Sl} {x1 : Int} {S : HS}  {p : (Int × Bool) × HS} (h : f k x0 x1 S = some p) : HCall Tryz.prog base W0 β0 84 [(Sl.hv x0),(.int .i64 x1)] S (fun v S1 => v = (.tup [(.int .i64 p.1.1),(.bool p.1.2)]) ∧ S1 = p.2) := by
 unfold f at h
 refine HCall.of_run at_.at_ body ?_
 show HR base W0 β0 84 none [.code c0] ⟨[(Sl.hv x0),(.int .i64 x1),τ,τ,τ,τ,τ,τ,τ,τ,τ,τ,τ,τ,τ,τ,τ,τ,τ,τ,τ,τ,τ,τ,τ,τ,τ,τ,τ,τ,τ,τ,τ,τ,τ,τ,τ,τ,τ,τ,τ,τ,τ,τ,τ,τ,τ,τ,τ,τ,τ,τ,τ,τ],[]⟩ S _
 refine qQ rfl (qR rfl rfl (qS 4 rfl (ok_assign · (.int _ _)) (qS 5 rfl (ok_assign · (.bool _)) (rE ?_))))
 try dsimp only [w0,w1,w2,w3]
 refine qQ rfl (qR rfl rfl (qS 10 rfl (oM · rfl) (qS 11 rfl (ok_len_sl (q := Sl.a x0) (n := Sl.len x0) (z := Sl.cap x0) · rfl tu42 (.tmp rfl)) (qS 6 rfl (oA · rfl) (rE ?_)))))
 try dsimp only [w0,w1,w2,w3]
 refine qQ rfl (qR rfl rfl (qS 12 rfl (oM · rfl) (qS 7 rfl (ok_assign · (.int _ _)) (qS 8 rfl (oA · rfl) (rE ?_)))))
 try dsimp only [w0,w1,w2,w3]
 refine qQ rfl (q_block rfl (q_loop rfl ?_))
 try dsimp only [w0,w1,w2,w3]
 exact L0_snd  h
end slices_BinarySearch_int_int
namespace slices_Reverse_int_int
theorem at_ : FnAt Tryz.prog 137 Tryz.f137 := ⟨Tryz.func137,by kernel_rfl⟩
def d0 := (Tryz.f137.body).getD .skip
def r1 := kR (kA d0)
def r6 := kR (kA (kA (kA (kA (kB d0)))))
def r12 := kR (kA (kA (kB (kA (kA (kB d0))))))
def r13 := kR (kB (kB (kA (kA (kB d0)))))
def c4 : Code := .seq (.seq (.region 1 r6 false) (.cond (.tmp 9) .skip (.exit 0))) (.seq (.block 1 (.region 3 r12 true)) (.region 2 r13 false))
def c0 : Code := .seq (.region 0 r1 false) (.block 0 (.loop c4))
theorem body : Tryz.f137.body = some c0 := by kernel_rfl
def L0 (k : Nat) : Nat → Sl → Int → Int → HS → Option ((Unit) × HS)
 | 0,_,_,_,_ => none
 | n + 1,y0,y2,y3,S =>
  (if y2 < y3 then
  ((S.idx y0 y3 1).bind fun p2 =>
  ((S.ldI .i64 p2).bind fun p3 =>
  ((S.idx y0 y2 1).bind fun p4 =>
  ((S.ldI .i64 p4).bind fun p5 =>
  ((S.idx y0 y2 1).bind fun p6 =>
  ((S.sets p6 [(.int .i64 p3)]).bind fun p7 =>
  ((p7.idx y0 y3 1).bind fun p8 =>
  ((p7.sets p8 [(.int .i64 p5)]).bind fun p9 =>
  (L0 k n) y0 (w64 (y2 + 1)) (w64 (y3 - 1)) p9)))))))) else
  some ((),S))
theorem L0_snd  : ∀ {n : Nat} ⦃y0 : Sl⦄ ⦃y2 : Int⦄ ⦃y3 : Int⦄ ⦃S : HS⦄ ⦃p : (Unit) × HS⦄ ⦃Gb Ge Gf Gg Gh Gi Gj Gk Gl Gm Gn Go Gp Gq Gr Gs Gt Gu Gv Gw Gx Gy Gz Ka Kb : HV⦄,L0 k n y0 y2 y3 S = some p → HR base W0 β0 137 none [.inLoop c4,.inBlock 0] ⟨[(Sl.hv y0),Gb,(.int .i64 y2),(.int .i64 y3),Ge,Gf,Gg,Gh,Gi,Gj,Gk,Gl,Gm,Gn,Go,Gp,Gq,Gr,Gs,Gt,Gu,Gv,Gw,Gx,Gy,Gz,Ka,Kb],[]⟩ S (fun v S1 => v = (.tup []) ∧ S1 = p.2) := by
 intro n
 induction n with
 | zero => intro _ _ _ _ _ _ _ _ _ _ _ _ _ _ _ _ _ _ _ _ _ _ _ _ _ _ _ _ _ _ h; cases h
 | succ n ih =>
  intro y0 y2 y3 S p Gb Ge Gf Gg Gh Gi Gj Gk Gl Gm Gn Go Gp Gq Gr Gs Gt Gu Gv Gw Gx Gy Gz Ka Kb h
  simp only [L0] at h
  refine hr_inLoop (qQ rfl (qQ rfl (qR rfl rfl (qS 7 rfl (oM · rfl) (qS 8 rfl (oM · rfl) (qS 9 rfl (oB · rfl rfl rfl) (rE ?_)))))))
  try dsimp only [w0,w1,w2,w3]
  rcases ifc h with ⟨hc1,h⟩ | ⟨hc1,h⟩
  ·refine q_cond_t rfl (.tmp rfl) (decide_eq_true hc1) (q_skipc rfl (qQ rfl (q_block rfl ?_)))
   refine x_start (cls := [0,0,0,0,0,0,1,1,0,0,1,1,1,2,1,2]) (rk := [0,1,12,13,2,3,4,5,6,7,8,9,10,11,14,15]) rfl (by kernel_rfl) ?_
   refine yf 14 [0] rfl (oM · rfl) ?_
   refine yf 15 [2] rfl (oM · rfl) ?_
   refine yf 16 [0] rfl (oM · rfl) ?_
   refine yf 17 [3] rfl (oM · rfl) ?_
   try dsimp only [w0,w1,w2,w3]
   refine yf 18 [0] rfl (oM · rfl) ?_
   refine yf 19 [3] rfl (oM · rfl) ?_
   obtain ⟨p2,hp2,h⟩ := bindo h
   refine yr 20 [18,19] rfl (oX (s := y0) · tu42 sz3 rfl rfl hp2) ?_
   obtain ⟨p3,hp3,h⟩ := bindo h
   refine yr 21 [20] rfl (oL · sc3 rfl rfl (ldI_out hp3)) ?_
   try dsimp only [w0,w1,w2,w3]
   refine yf 22 [0] rfl (oM · rfl) ?_
   refine yf 23 [2] rfl (oM · rfl) ?_
   obtain ⟨p4,hp4,h⟩ := bindo h
   refine yr 24 [22,23] rfl (oX (s := y0) · tu42 sz3 rfl rfl hp4) ?_
   obtain ⟨p5,hp5,h⟩ := bindo h
   refine yr 25 [24] rfl (oL · sc3 rfl rfl (ldI_out hp5)) ?_
   try dsimp only [w0,w1,w2,w3]
   obtain ⟨p6,hp6,h⟩ := bindo h
   refine yr 26 [14,15] rfl (oX (s := y0) · tu42 sz3 rfl rfl hp6) ?_
   obtain ⟨p7,hp7,h⟩ := bindo h
   refine x_go (e_op (dst := none) (ts := [26,21]) rfl (by intro _ _ h; cases h) (by kernel_rfl) (fun _ ho => ok_store_s (v := (.int .i64 p3)) ho sz3 (.tmp rfl) rfl (.tmp rfl) rfl hp7)) rfl ?_
   obtain ⟨p8,hp8,h⟩ := bindo h
   refine yr 27 [16,17] rfl (oX (s := y0) · tu42 sz3 rfl rfl hp8) ?_
   obtain ⟨p9,hp9,h⟩ := bindo h
   refine x_go (e_op (dst := none) (ts := [27,25]) rfl (by intro _ _ h; cases h) (by kernel_rfl) (fun _ ho => ok_store_s (v := (.int .i64 p5)) ho sz3 (.tmp rfl) rfl (.tmp rfl) rfl hp9)) rfl ?_
   refine x_rest rfl ?_
   refine rE ?_
   try dsimp only [w0,w1,w2,w3]
   refine hr_inBlock (qR rfl rfl (qS 10 rfl (oM · rfl) (qS 11 rfl (oC · rfl rfl) (qS 12 rfl (oM · rfl) (qS 13 rfl (oC · rfl rfl) ?_)))))
   try dsimp only [w0,w1,w2,w3]
   refine qS 2 rfl (oA · rfl) (qS 3 rfl (oA · rfl) (rE ?_))
   try dsimp only [w0,w1,w2,w3]
   exact ih h
  ·cases h
   exact q_cond_f rfl (.tmp rfl) (decide_eq_false hc1) (q_exit rfl rfl (q_end at_.at_ rfl (res0 rfl) ⟨rfl,rfl⟩))
def f (k : Nat) (x0 : Sl) (S : HS) : Option ((Unit) × HS) :=
 L0 k k x0 0 (w64 ((Sl.len x0 : Int) - 1)) S
theorem snd {x0 : Sl} {S : HS}  {p : (Unit) × HS} (h : f k x0 S = some p) : HCall Tryz.prog base W0 β0 137 [(Sl.hv x0)] S (fun v S1 => v = (.tup []) ∧ S1 = p.2) := by
 unfold f at h
 refine HCall.of_run at_.at_ body ?_
 show HR base W0 β0 137 none [.code c0] ⟨[(Sl.hv x0),τ,τ,τ,τ,τ,τ,τ,τ,τ,τ,τ,τ,τ,τ,τ,τ,τ,τ,τ,τ,τ,τ,τ,τ,τ,τ,τ],[]⟩ S _
 refine qQ rfl (qR rfl rfl (qS 4 rfl (oM · rfl) (qS 5 rfl (ok_len_sl (q := Sl.a x0) (n := Sl.len x0) (z := Sl.cap x0) · rfl tu42 (.tmp rfl)) (qS 6 rfl (oC · rfl rfl) (qS 2 rfl (ok_assign · (.int _ _)) ?_)))))
 try dsimp only [w0,w1,w2,w3]
 refine qS 3 rfl (oA · rfl) (rE ?_)
 try dsimp only [w0,w1,w2,w3]
 refine q_block rfl (q_loop rfl ?_)
 try dsimp only [w0,w1,w2,w3]
 exact L0_snd  h
end slices_Reverse_int_int
namespace slices_rotateLeft_int
theorem at_ : FnAt Tryz.prog 129 Tryz.f129 := ⟨Tryz.func129,by kernel_rfl⟩
def d0 := (Tryz.f129.body).getD .skip
def r1 := kR (kA d0)
def r3 := kR (kA (kB d0))
def r4 := kR (kB (kB d0))
def c0 : Code := .seq (.region 0 r1 false) (.seq (.region 1 r3 false) (.region 2 r4 false))
theorem body : Tryz.f129.body = some c0 := by kernel_rfl
def f (k : Nat) (x0 : Sl) (x1 : Int) (S : HS) : Option ((Unit) × HS) :=
 ((S.cut x0 0 x1 1).bind fun p1 =>
 ((slices_Reverse_int_int.f k p1 S).bind fun p2 =>
 ((p2.2.cut x0 x1 (Sl.len x0 : Int) 1).bind fun p3 =>
 ((slices_Reverse_int_int.f k p3 p2.2).bind fun p4 =>
 ((slices_Reverse_int_int.f k x0 p4.2).bind fun p5 =>
 some ((),p5.2))))))
theorem snd {x0 : Sl} {x1 : Int} {S : HS}  {p : (Unit) × HS} (h : f k x0 x1 S = some p) : HCall Tryz.prog base W0 β0 129 [(Sl.hv x0),(.int .i64 x1)] S (fun v S1 => v = (.tup []) ∧ S1 = p.2) := by
 unfold f at h
 refine HCall.of_run at_.at_ body ?_
 show HR base W0 β0 129 none [.code c0] ⟨[(Sl.hv x0),(.int .i64 x1),τ,τ,τ,τ,τ,τ,τ,τ,τ,τ,τ,τ],[]⟩ S _
 obtain ⟨p1,hp1,h⟩ := bindo h
 obtain ⟨p2,hp2,h⟩ := bindo h
 refine qQ rfl (qR rfl rfl (qS 4 rfl (oM · rfl) (qS 5 rfl (oM · rfl) (qS 6 rfl (ok_slice (kl := .i64) (kh := .i64) (s := x0) (l := 0) (h := x1) · tu42 si3 (.tmp rfl) (.inl ⟨rfl,rfl⟩) (.inr ⟨_,rfl,(.tmp rfl)⟩) hp1) (q_call (dst := some 7) rfl (.func _) (.cons (.tmp rfl) Evs.nil) (HInv.static slices_Reverse_int_int.at_ slices_Reverse_int_int.body (slices_Reverse_int_int.snd  hp2)) ?_)))))
 rintro _ _ ⟨rfl,rfl⟩
 refine rE ?_
 try dsimp only [w0,w1,w2,w3]
 obtain ⟨p3,hp3,h⟩ := bindo h
 obtain ⟨p4,hp4,h⟩ := bindo h
 refine qQ rfl (qR rfl rfl (qS 8 rfl (oM · rfl) (qS 9 rfl (oM · rfl) (qS 10 rfl (ok_slice (kl := .i64) (kh := .i64) (s := x0) (l := x1) (h := (Sl.len x0 : Int)) · tu42 si3 (.tmp rfl) (.inr ⟨_,rfl,(.tmp rfl)⟩) (.inl ⟨rfl,rfl⟩) hp3) (q_call (dst := some 11) rfl (.func _) (.cons (.tmp rfl) Evs.nil) (HInv.static slices_Reverse_int_int.at_ slices_Reverse_int_int.body (slices_Reverse_int_int.snd  hp4)) ?_)))))
 rintro _ _ ⟨rfl,rfl⟩
 refine rE ?_
 try dsimp only [w0,w1,w2,w3]
 obtain ⟨p5,hp5,h⟩ := bindo h
 refine qR rfl rfl (qS 12 rfl (oM · rfl) (q_call (dst := some 13) rfl (.func _) (.cons (.tmp rfl) Evs.nil) (HInv.static slices_Reverse_int_int.at_ slices_Reverse_int_int.body (slices_Reverse_int_int.snd  hp5)) ?_))
 rintro _ _ ⟨rfl,rfl⟩
 refine rE ?_
 try dsimp only [w0,w1,w2,w3]
 cases h
 exact q_end at_.at_ rfl (res0 rfl) ⟨rfl,rfl⟩
end slices_rotateLeft_int
namespace slices_rotateRight_int
theorem at_ : FnAt Tryz.prog 117 Tryz.f117 := ⟨Tryz.func117,by kernel_rfl⟩
def d0 := (Tryz.f117.body).getD .skip
def r0 := kR d0
def c0 : Code := .region 0 r0 false
theorem body : Tryz.f117.body = some c0 := by kernel_rfl
def f (k : Nat) (x0 : Sl) (x1 : Int) (S : HS) : Option ((Unit) × HS) :=
 ((slices_rotateLeft_int.f k x0 (w64 ((Sl.len x0 : Int) - x1)) S).bind fun p1 =>
 some ((),p1.2))
theorem snd {x0 : Sl} {x1 : Int} {S : HS}  {p : (Unit) × HS} (h : f k x0 x1 S = some p) : HCall Tryz.prog base W0 β0 117 [(Sl.hv x0),(.int .i64 x1)] S (fun v S1 => v = (.tup []) ∧ S1 = p.2) := by
 unfold f at h
 refine HCall.of_run at_.at_ body ?_
 show HR base W0 β0 117 none [.code c0] ⟨[(Sl.hv x0),(.int .i64 x1),τ,τ,τ,τ,τ,τ,τ,τ],[]⟩ S _
 refine qR rfl rfl (qS 4 rfl (oM · rfl) (qS 5 rfl (oM · rfl) (qS 6 rfl (ok_len_sl (q := Sl.a x0) (n := Sl.len x0) (z := Sl.cap x0) · rfl tu42 (.tmp rfl)) (qS 7 rfl (oM · rfl) ?_))))
 try dsimp only [w0,w1,w2,w3]
 obtain ⟨p1,hp1,h⟩ := bindo h
 refine qS 8 rfl (oB · rfl rfl rfl) (q_call (dst := some 9) rfl (.func _) (.cons (.tmp rfl) (.cons (.tmp rfl) Evs.nil)) (HInv.static slices_rotateLeft_int.at_ slices_rotateLeft_int.body (slices_rotateLeft_int.snd  hp1)) ?_)
 rintro _ _ ⟨rfl,rfl⟩
 refine rE ?_
 try dsimp only [w0,w1,w2,w3]
 cases h
 exact q_end at_.at_ rfl (res0 rfl) ⟨rfl,rfl⟩
end slices_rotateRight_int
namespace slices_Insert_int_int
theorem at_ : FnAt Tryz.prog 85 Tryz.f85 := ⟨Tryz.func85,by kernel_rfl⟩
def d0 := (Tryz.f85.body).getD .skip
def r1 := kR (kA d0)
def r3 := kR (kA (kB d0))
def r5 := kR (kA (kB (kB d0)))
def d6 := kB (kB (kB d0))
def r8 := kR (kA (kA d6))
def r11 := kR (kA (kA (kB (kA d6))))
def r15 := kR (kA (kB d6))
def r18 := kR (kA (kA (kB (kB d6))))
def r21 := kR (kA (kA (kB (kA (kB (kB d6))))))
def d24 := kB (kB (kB d6))
def r26 := kR (kA (kA d24))
def d28 := kA (kB (kA d24))
def r29 := kR (kA d28)
def r31 := kR (kA (kB d28))
def r33 := kR (kA (kB (kB d28)))
def r35 := kR (kA (kB (kB (kB d28))))
def r39 := kR (kA (kB d24))
def d41 := kA (kB (kB d24))
def r42 := kR (kA d41)
def r45 := kR (kA (kA (kB d41)))
def r47 := kR (kA (kB (kA (kB d41))))
def r49 := kR (kA (kB (kB (kA (kB d41)))))
def r53 := kR (kA (kB (kB (kB d24))))
def r55 := kR (kA (kB (kB (kB (kB d24)))))
def r57 := kR (kA (kB (kB (kB (kB (kB d24))))))
def c0 : Code := .seq (.region 0 r1 false) (.seq (.region 1 r3 false) (.seq (.region 2 r5 false) (.seq (.seq (.region 3 r8 false) (.cond (.tmp 16) (.seq (.region 4 r11 false) .ret) .skip)) (.seq (.region 5 r15 false) (.seq (.seq (.region 6 r18 false) (.cond (.tmp 22) (.seq (.region 7 r21 false) .ret) .skip)) (.seq (.seq (.region 8 r26 false) (.cond (.tmp 31) (.seq (.region 9 r29 false) (.seq (.region 10 r31 false) (.seq (.region 11 r33 true) (.seq (.region 12 r35 false) .ret)))) .skip)) (.seq (.region 13 r39 false) (.seq (.seq (.region 14 r42 false) (.cond (.tmp 68) (.seq (.region 15 r45 true) (.seq (.region 16 r47 false) (.seq (.region 17 r49 false) .ret))) .skip)) (.seq (.region 18 r53 false) (.seq (.region 19 r55 false) (.seq (.region 20 r57 false) .ret)))))))))))
theorem body : Tryz.f85.body = some c0 := by kernel_rfl
def f (k : Nat) (x0 : Sl) (x1 : Int) (x2 : Sl) (S : HS) : Option ((Sl) × HS) :=
 ((S.cut x0 x1 (Sl.len x0 : Int) 1).bind fun p1 =>
 (if (Sl.len x2 : Int) = 0 then
 some (x0,S) else
 (if x1 = (Sl.len x0 : Int) then
 ((S.rows x2 1).bind fun p4 =>
 ((S.app x0 p4 1).bind fun p5 =>
 some ((p5.1),(p5.2)))) else
 ((Sl.capOf x0).bind fun p6 =>
 (if (w64 ((Sl.len x0 : Int) + (Sl.len x2 : Int))) > p6 then
 ((S.cut x0 0 x1 1).bind fun p8 =>
 ((S.appZ p8 (w64 ((w64 ((Sl.len x0 : Int) + (Sl.len x2 : Int))) - x1)) [(.int .i64 0)] 1).bind fun p9 =>
 ((p9.2.cut (p9.1) x1 (Sl.len (p9.1) : Int) 1).bind fun p10 =>
 ((p9.2.rows x2 1).bind fun p11 =>
 ((p9.2.over p10 (List.take (Sl.len p10) p11) 1).bind fun p12 =>
 ((p12.cut (p9.1) (w64 (x1 + (Sl.len x2 : Int))) (Sl.len (p9.1) : Int) 1).bind fun p13 =>
 ((p12.cut x0 x1 (Sl.len x0 : Int) 1).bind fun p14 =>
 ((p12.rows p14 1).bind fun p15 =>
 ((p12.over p13 (List.take (Sl.len p13) p15) 1).bind fun p16 =>
 some ((p9.1),p16)))))))))) else
 ((S.cut x0 0 (w64 ((Sl.len x0 : Int) + (Sl.len x2 : Int))) 1).bind fun p17 =>
 ((S.cut p17 (w64 (x1 + (Sl.len x2 : Int))) (Sl.len p17 : Int) 1).bind fun p18 =>
 ((S.ovl x2 p18).bind fun p19 =>
 (if (!p19) = true then
 ((S.cut p17 (w64 (x1 + (Sl.len x2 : Int))) (Sl.len p17 : Int) 1).bind fun p21 =>
 ((S.cut p17 x1 (Sl.len p17 : Int) 1).bind fun p22 =>
 ((S.rows p22 1).bind fun p23 =>
 ((S.over p21 (List.take (Sl.len p21) p23) 1).bind fun p24 =>
 ((p24.cut p17 x1 (Sl.len p17 : Int) 1).bind fun p25 =>
 ((p24.rows x2 1).bind fun p26 =>
 ((p24.over p25 (List.take (Sl.len p25) p26) 1).bind fun p27 =>
 some (p17,p27)))))))) else
 ((S.cut p17 (Sl.len x0 : Int) (Sl.len p17 : Int) 1).bind fun p28 =>
 ((S.rows x2 1).bind fun p29 =>
 ((S.over p28 (List.take (Sl.len p28) p29) 1).bind fun p30 =>
 ((p30.cut p17 x1 (Sl.len p17 : Int) 1).bind fun p31 =>
 ((slices_rotateRight_int.f k p31 (Sl.len x2 : Int) p30).bind fun p32 =>
 some (p17,p32.2)))))))))))))))
theorem snd {x0 : Sl} {x1 : Int} {x2 : Sl} {S : HS}  {p : (Sl) × HS} (h : f k x0 x1 x2 S = some p) : HCall Tryz.prog base W0 β0 85 [(Sl.hv x0),(.int .i64 x1),(Sl.hv x2)] S (fun v S1 => v = (Sl.hv p.1) ∧ S1 = p.2) := by
 unfold f at h
 refine HCall.of_run at_.at_ body ?_
 show HR base W0 β0 85 none [.code c0] ⟨[(Sl.hv x0),(.int .i64 x1),(Sl.hv x2),τ,τ,τ,τ,τ,τ,τ,τ,τ,τ,τ,τ,τ,τ,τ,τ,τ,τ,τ,τ,τ,τ,τ,τ,τ,τ,τ,τ,τ,τ,τ,τ,τ,τ,τ,τ,τ,τ,τ,τ,τ,τ,τ,τ,τ,τ,τ,τ,τ,τ,τ,τ,τ,τ,τ,τ,τ,τ,τ,τ,τ,τ,τ,τ,τ,τ,τ,τ,τ,τ,τ,τ,τ,τ,τ,τ,τ,τ,τ,τ,τ,τ,τ,τ,τ,τ,τ,τ,τ,τ,τ,τ],[]⟩ S _
 refine qQ rfl (qR rfl rfl (qS 6 rfl (ok_assign · (.const fun _ => .slNil none)) (rE ?_)))
 try dsimp only [w0,w1,w2,w3]
 obtain ⟨p1,hp1,h⟩ := bindo h
 refine qQ rfl (qR rfl rfl (qS 10 rfl (oM · rfl) (qS 11 rfl (oM · rfl) (qS 12 rfl (ok_slice (kl := .i64) (kh := .i64) (s := x0) (l := x1) (h := (Sl.len x0 : Int)) · tu42 si3 (.tmp rfl) (.inr ⟨_,rfl,(.tmp rfl)⟩) (.inl ⟨rfl,rfl⟩) hp1) (rE ?_)))))
 try dsimp only [w0,w1,w2,w3]
 refine qQ rfl (qR rfl rfl (qS 13 rfl (oM · rfl) (qS 14 rfl (ok_len_sl (q := Sl.a x2) (n := Sl.len x2) (z := Sl.cap x2) · rfl tu42 (.tmp rfl)) (qS 7 rfl (oA · rfl) (rE ?_)))))
 try dsimp only [w0,w1,w2,w3]
 refine qQ rfl (qQ rfl (qR rfl rfl (qS 15 rfl (oM · rfl) (qS 16 rfl (oC · rfl rfl) (rE ?_)))))
 try dsimp only [w0,w1,w2,w3]
 rcases ifc h with ⟨hc2,h⟩ | ⟨hc2,h⟩
 ·refine q_cond_t rfl (.tmp rfl) (decide_eq_true hc2) (qQ rfl (qR rfl rfl (qS 17 rfl (oM · rfl) (qS 6 rfl (oA · rfl) (rE ?_)))))
  cases h
  exact q_ret rfl at_.at_ rfl (res1 rfl rfl) ⟨rfl,rfl⟩
 ·refine q_cond_f rfl (.tmp rfl) (decide_eq_false hc2) (q_skipc rfl (qQ rfl (qR rfl rfl (qS 18 rfl (oM · rfl) (qS 19 rfl (ok_len_sl (q := Sl.a x0) (n := Sl.len x0) (z := Sl.cap x0) · rfl tu42 (.tmp rfl)) (qS 8 rfl (oA · rfl) (rE ?_)))))))
  try dsimp only [w0,w1,w2,w3]
  refine qQ rfl (qQ rfl (qR rfl rfl (qS 20 rfl (oM · rfl) (qS 21 rfl (oM · rfl) (qS 22 rfl (oB · rfl rfl rfl) (rE ?_))))))
  try dsimp only [w0,w1,w2,w3]
  rcases ifc h with ⟨hc3,h⟩ | ⟨hc3,h⟩
  ·obtain ⟨p4,hp4,h⟩ := bindo h
   obtain ⟨p5,hp5,h⟩ := bindo h
   refine q_cond_t rfl (.tmp rfl) (decide_eq_true hc3) (qQ rfl (qR rfl rfl (qS 23 rfl (oM · rfl) (qS 24 rfl (oM · rfl) (qS 25 rfl (ok_append (s := x0) (s1 := x2) el42 · rfl rfl ⟨_,tu42⟩ (.tmp rfl) (.tmp rfl) hp4 hp5) (qS 6 rfl (oA · rfl) (rE ?_)))))))
   cases h
   exact q_ret rfl at_.at_ rfl (res1 rfl rfl) ⟨rfl,rfl⟩
  ·refine q_cond_f rfl (.tmp rfl) (decide_eq_false hc3) (q_skipc rfl (qQ rfl (qQ rfl (qR rfl rfl (qS 26 rfl (oM · rfl) (qS 27 rfl (oM · rfl) (qS 28 rfl (oB · rfl rfl rfl) (qS 29 rfl (oM · rfl) ?_))))))))
   try dsimp only [w0,w1,w2,w3]
   obtain ⟨p6,hp6,h⟩ := bindo h
   refine qS 30 rfl (ok_cap (s := x0) · rfl tu42 (.tmp rfl) hp6) (qS 31 rfl (oB · rfl rfl rfl) (rE ?_))
   try dsimp only [w0,w1,w2,w3]
   rcases ifc h with ⟨hc7,h⟩ | ⟨hc7,h⟩
   ·obtain ⟨p8,hp8,h⟩ := bindo h
    refine q_cond_t rfl (.tmp rfl) (decide_eq_true hc7) (qQ rfl (qR rfl rfl (qS 32 rfl (oM · rfl) (qS 33 rfl (oM · rfl) (qS 34 rfl (ok_slice (kl := .i64) (kh := .i64) (s := x0) (l := 0) (h := x1) · tu42 si3 (.tmp rfl) (.inl ⟨rfl,rfl⟩) (.inr ⟨_,rfl,(.tmp rfl)⟩) hp8) (qS 35 rfl (oM · rfl) ?_))))))
    try dsimp only [w0,w1,w2,w3]
    refine qS 36 rfl (oM · rfl) (qS 37 rfl (oB · rfl rfl rfl) (qS 38 rfl (oM · rfl) (qS 39 rfl (oB · rfl rfl rfl) ?_)))
    try dsimp only [w0,w1,w2,w3]
    obtain ⟨p9,hp9,h⟩ := bindo h
    refine qS 40 rfl (ok_append_zeros (s := p8) el42 · rfl rfl tu3 (.tmp rfl) (.tmp rfl) hp9) (qS 9 rfl (oA · rfl) (rE ?_))
    try dsimp only [w0,w1,w2,w3]
    obtain ⟨p10,hp10,h⟩ := bindo h
    refine qQ rfl (qR rfl rfl (qS 41 rfl (oM · rfl) (qS 42 rfl (oM · rfl) (qS 43 rfl (ok_slice (kl := .i64) (kh := .i64) (s := (p9.1)) (l := x1) (h := (Sl.len (p9.1) : Int)) · tu42 si3 (.tmp rfl) (.inr ⟨_,rfl,(.tmp rfl)⟩) (.inl ⟨rfl,rfl⟩) hp10) (qS 44 rfl (oM · rfl) ?_)))))
    try dsimp only [w0,w1,w2,w3]
    obtain ⟨p11,hp11,h⟩ := bindo h
    obtain ⟨p12,hp12,h⟩ := bindo h
    refine qS 45 rfl (ok_copy (s := p10) (s1 := x2) el42 · rfl (.tmp rfl) (.tmp rfl) hp11 hp12) (rE ?_)
    try dsimp only [w0,w1,w2,w3]
    refine qQ rfl ?_
    refine x_start (cls := [0,0,0,0,1,0,0,1,2]) (rk := [0,1,2,3,4,5,6,7,8]) rfl (by kernel_rfl) ?_
    refine yf 46 [9] rfl (oM · rfl) ?_
    refine yf 47 [1] rfl (oM · rfl) ?_
    refine yf 48 [7] rfl (oM · rfl) ?_
    refine yf 49 [47,48] rfl (oB · rfl rfl rfl) ?_
    try dsimp only [w0,w1,w2,w3]
    obtain ⟨p13,hp13,h⟩ := bindo h
    refine yr 50 [46,49] rfl (ok_slice (kl := .i64) (kh := .i64) (s := (p9.1)) (l := (w64 (x1 + (Sl.len x2 : Int)))) (h := (Sl.len (p9.1) : Int)) · tu42 si3 (.tmp rfl) (.inr ⟨_,rfl,(.tmp rfl)⟩) (.inl ⟨rfl,rfl⟩) hp13) ?_
    refine yf 51 [0] rfl (oM · rfl) ?_
    refine yf 52 [1] rfl (oM · rfl) ?_
    obtain ⟨p14,hp14,h⟩ := bindo h
    refine yr 53 [51,52] rfl (ok_slice (kl := .i64) (kh := .i64) (s := x0) (l := x1) (h := (Sl.len x0 : Int)) · tu42 si3 (.tmp rfl) (.inr ⟨_,rfl,(.tmp rfl)⟩) (.inl ⟨rfl,rfl⟩) hp14) ?_
    try dsimp only [w0,w1,w2,w3]
    obtain ⟨p15,hp15,h⟩ := bindo h
    obtain ⟨p16,hp16,h⟩ := bindo h
    refine ye 54 [50,53] rfl (ok_copy (s := p13) (s1 := p14) el42 · rfl (.tmp rfl) (.tmp rfl) hp15 hp16) ?_
    refine x_rest rfl ?_
    refine rE ?_
    try dsimp only [w0,w1,w2,w3]
    refine qQ rfl (qR rfl rfl (qS 55 rfl (oM · rfl) (qS 6 rfl (oA · rfl) (rE ?_))))
    cases h
    exact q_ret rfl at_.at_ rfl (res1 rfl rfl) ⟨rfl,rfl⟩
   ·refine q_cond_f rfl (.tmp rfl) (decide_eq_false hc7) (q_skipc rfl (qQ rfl (qR rfl rfl (qS 56 rfl (oM · rfl) (qS 57 rfl (oM · rfl) (qS 58 rfl (oM · rfl) (qS 59 rfl (oB · rfl rfl rfl) ?_)))))))
    try dsimp only [w0,w1,w2,w3]
    obtain ⟨p17,hp17,h⟩ := bindo h
    refine qS 60 rfl (ok_slice (kl := .i64) (kh := .i64) (s := x0) (l := 0) (h := (w64 ((Sl.len x0 : Int) + (Sl.len x2 : Int)))) · tu42 si3 (.tmp rfl) (.inl ⟨rfl,rfl⟩) (.inr ⟨_,rfl,(.tmp rfl)⟩) hp17) (qS 0 rfl (oA · rfl) (rE ?_))
    try dsimp only [w0,w1,w2,w3]
    refine qQ rfl (qQ rfl (qR rfl rfl (qS 61 rfl (oM · rfl) (qS 62 rfl (oM · rfl) (qS 63 rfl (oM · rfl) (qS 64 rfl (oM · rfl) ?_))))))
    try dsimp only [w0,w1,w2,w3]
    obtain ⟨p18,hp18,h⟩ := bindo h
    obtain ⟨p19,hp19,h⟩ := bindo h
    refine qS 65 rfl (oB · rfl rfl rfl) (qS 66 rfl (ok_slice (kl := .i64) (kh := .i64) (s := p17) (l := (w64 (x1 + (Sl.len x2 : Int)))) (h := (Sl.len p17 : Int)) · tu42 si3 (.tmp rfl) (.inr ⟨_,rfl,(.tmp rfl)⟩) (.inl ⟨rfl,rfl⟩) hp18) (qS 67 rfl (ok_overlaps (s1 := x2) (s2 := p18) · ext116 tu42 si3 (.tmp rfl) (.tmp rfl) hp19) (qS 68 rfl (ok_not · (.tmp rfl)) (rE ?_))))
    try dsimp only [w0,w1,w2,w3]
    rcases ifc h with ⟨hc20,h⟩ | ⟨hc20,h⟩
    ·refine q_cond_t rfl (.tmp rfl) hc20 (qQ rfl ?_)
     refine x_start (cls := [0,0,0,0,1,0,0,1,2]) (rk := [0,1,2,3,4,5,6,7,8]) rfl (by kernel_rfl) ?_
     refine yf 69 [0] rfl (oM · rfl) ?_
     refine yf 70 [1] rfl (oM · rfl) ?_
     refine yf 71 [7] rfl (oM · rfl) ?_
     refine yf 72 [70,71] rfl (oB · rfl rfl rfl) ?_
     try dsimp only [w0,w1,w2,w3]
     obtain ⟨p21,hp21,h⟩ := bindo h
     refine yr 73 [69,72] rfl (ok_slice (kl := .i64) (kh := .i64) (s := p17) (l := (w64 (x1 + (Sl.len x2 : Int)))) (h := (Sl.len p17 : Int)) · tu42 si3 (.tmp rfl) (.inr ⟨_,rfl,(.tmp rfl)⟩) (.inl ⟨rfl,rfl⟩) hp21) ?_
     refine yf 74 [0] rfl (oM · rfl) ?_
     refine yf 75 [1] rfl (oM · rfl) ?_
     obtain ⟨p22,hp22,h⟩ := bindo h
     refine yr 76 [74,75] rfl (ok_slice (kl := .i64) (kh := .i64) (s := p17) (l := x1) (h := (Sl.len p17 : Int)) · tu42 si3 (.tmp rfl) (.inr ⟨_,rfl,(.tmp rfl)⟩) (.inl ⟨rfl,rfl⟩) hp22) ?_
     try dsimp only [w0,w1,w2,w3]
     obtain ⟨p23,hp23,h⟩ := bindo h
     obtain ⟨p24,hp24,h⟩ := bindo h
     refine ye 77 [73,76] rfl (ok_copy (s := p21) (s1 := p22) el42 · rfl (.tmp rfl) (.tmp rfl) hp23 hp24) ?_
     refine x_rest rfl ?_
     refine rE ?_
     try dsimp only [w0,w1,w2,w3]
     obtain ⟨p25,hp25,h⟩ := bindo h
     refine qQ rfl (qR rfl rfl (qS 78 rfl (oM · rfl) (qS 79 rfl (oM · rfl) (qS 80 rfl (ok_slice (kl := .i64) (kh := .i64) (s := p17) (l := x1) (h := (Sl.len p17 : Int)) · tu42 si3 (.tmp rfl) (.inr ⟨_,rfl,(.tmp rfl)⟩) (.inl ⟨rfl,rfl⟩) hp25) (qS 81 rfl (oM · rfl) ?_)))))
     try dsimp only [w0,w1,w2,w3]
     obtain ⟨p26,hp26,h⟩ := bindo h
     obtain ⟨p27,hp27,h⟩ := bindo h
     refine qS 82 rfl (ok_copy (s := p25) (s1 := x2) el42 · rfl (.tmp rfl) (.tmp rfl) hp26 hp27) (rE ?_)
     try dsimp only [w0,w1,w2,w3]
     refine qQ rfl (qR rfl rfl (qS 83 rfl (oM · rfl) (qS 6 rfl (oA · rfl) (rE ?_))))
     cases h
     exact q_ret rfl at_.at_ rfl (res1 rfl rfl) ⟨rfl,rfl⟩
    ·obtain ⟨p28,hp28,h⟩ := bindo h
     refine q_cond_f rfl (.tmp rfl) (bfalse hc20) (q_skipc rfl (qQ rfl (qR rfl rfl (qS 84 rfl (oM · rfl) (qS 85 rfl (oM · rfl) (qS 86 rfl (ok_slice (kl := .i64) (kh := .i64) (s := p17) (l := (Sl.len x0 : Int)) (h := (Sl.len p17 : Int)) · tu42 si3 (.tmp rfl) (.inr ⟨_,rfl,(.tmp rfl)⟩) (.inl ⟨rfl,rfl⟩) hp28) (qS 87 rfl (oM · rfl) ?_)))))))
     try dsimp only [w0,w1,w2,w3]
     obtain ⟨p29,hp29,h⟩ := bindo h
     obtain ⟨p30,hp30,h⟩ := bindo h
     refine qS 88 rfl (ok_copy (s := p28) (s1 := x2) el42 · rfl (.tmp rfl) (.tmp rfl) hp29 hp30) (rE ?_)
     try dsimp only [w0,w1,w2,w3]
     obtain ⟨p31,hp31,h⟩ := bindo h
     refine qQ rfl (qR rfl rfl (qS 89 rfl (oM · rfl) (qS 90 rfl (oM · rfl) (qS 91 rfl (ok_slice (kl := .i64) (kh := .i64) (s := p17) (l := x1) (h := (Sl.len p17 : Int)) · tu42 si3 (.tmp rfl) (.inr ⟨_,rfl,(.tmp rfl)⟩) (.inl ⟨rfl,rfl⟩) hp31) (qS 92 rfl (oM · rfl) ?_)))))
     try dsimp only [w0,w1,w2,w3]
     obtain ⟨p32,hp32,h⟩ := bindo h
     refine q_call (dst := some 93) rfl (.func _) (.cons (.tmp rfl) (.cons (.tmp rfl) Evs.nil)) (HInv.static slices_rotateRight_int.at_ slices_rotateRight_int.body (slices_rotateRight_int.snd  hp32)) ?_
     rintro _ _ ⟨rfl,rfl⟩
     refine rE ?_
     try dsimp only [w0,w1,w2,w3]
     refine qQ rfl (qR rfl rfl (qS 94 rfl (oM · rfl) (qS 6 rfl (oA · rfl) (rE ?_))))
     cases h
     exact q_ret rfl at_.at_ rfl (res1 rfl rfl) ⟨rfl,rfl⟩
end slices_Insert_int_int
namespace slices_Insert_int_int_w
theorem at_ : FnAt Tryz.prog 85 Tryz.f85 := slices_Insert_int_int.at_
theorem body : Tryz.f85.body = some slices_Insert_int_int.c0 := slices_Insert_int_int.body
def f (x0 : Sl) (x1 : Int) (x2 : Sl) (S : HS) : Option ((Sl) × HS) := HS.ins S x0 x1 x2 1
theorem snd {base : Nat} {W0 : World} {β0 : Bt} {x0 : Sl} {x1 : Int} {x2 : Sl} {S : HS} {p : (Sl) × HS} (h : f x0 x1 x2 S = some p) : HCall Tryz.prog base W0 β0 85 [(Sl.hv x0),(.int .i64 x1),(Sl.hv x2)] S (fun v S1 => v = (Sl.hv p.1) ∧ S1 = p.2) :=
 ins_snd (rot := fun a b T => slices_rotateRight_int.f 0 a b T) (zr := [(.int .i64 0)]) (fun _ _ _ h => slices_Insert_int_int.snd (k := 0) h) h
end slices_Insert_int_int_w
namespace set_Set_int_Add
theorem at_ : FnAt Tryz.prog 55 Tryz.f55 := ⟨Tryz.func55,by kernel_rfl⟩
def d0 := (Tryz.f55.body).getD .skip
def r1 := kR (kA d0)
def r3 := kR (kA (kB d0))
def r6 := kR (kA (kA (kB (kB d0))))
def r9 := kR (kA (kA (kB (kA (kB (kB d0))))))
def d12 := kB (kB (kB d0))
def r14 := kR (kA (kA d12))
def d16 := kA (kB (kA d12))
def r18 := kR (kA (kA d16))
def d23 := kB (kB (kA d16))
def r26 := kR (kA (kA (kA d23)))
def d27 := kB (kA (kA d23))
def r28 := kR (kA d27)
def r30 := kR (kA (kB d27))
def r33 := kR (kA (kA (kB (kB d27))))
def r34 := kR (kB (kA (kB (kB d27))))
def r36 := kR (kB d23)
def r38 := kR (kA (kB d12))
def c37 : Code := .seq (.region 12 r38 false) .ret
def c36 : Code := .region 11 r36 false
def c17 : Code := .seq (.region 5 r18 false) (.seq (.cond (.tmp 15) .skip (.exit 0)) (.seq (.block 1 (.seq (.region 6 r26 false) (.seq (.region 7 r28 false) (.seq (.region 8 r30 false) (.cond (.tmp 28) (.seq (.region 9 r33 false) (.region 10 r34 false)) .skip))))) c36))
def c0 : Code := .seq (.region 0 r1 false) (.seq (.region 1 r3 false) (.seq (.seq (.region 2 r6 false) (.cond (.tmp 11) (.seq (.region 3 r9 false) .ret) .skip)) (.seq (.seq (.region 4 r14 false) (.block 0 (.loop c17))) c37)))
theorem body : Tryz.f55.body = some c0 := by kernel_rfl
def J1 (k : Nat) (rec0 : HP → Int → Sl → Int → Int → HS → Option ((Int) × HS)) (y0 : HP) (y5 : Int) (y12 : Sl) (y13 : Int) (y14 : Int) (S : HS) : Option ((Int) × HS) :=
 rec0 y0 y5 y12 y13 (w64 (y14 + 1)) S
theorem J1_snd {rec0 : HP → Int → Sl → Int → Int → HS → Option ((Int) × HS)} (hrec0 : ∀ ⦃y0 : HP⦄ ⦃y5 : Int⦄ ⦃y12 : Sl⦄ ⦃y13 : Int⦄ ⦃y14 : Int⦄ ⦃S : HS⦄ ⦃p : (Int) × HS⦄ ⦃Gb Gc Gd Ge Gg Gh Gi Gj Gk Gl Gp Gq Gr Gs Gt Gu Gv Gw Gx Gy Gz Ka Kb Kc Kd Ke Kf Kg Kh Ki Kj Kk Kl Km Kn Ko Kp Kq Kr : HV⦄,rec0 y0 y5 y12 y13 y14 S = some p → HR base W0 β0 55 none [.inLoop c17,.inBlock 0,.code c37] ⟨[(.ptr y0),Gb,Gc,Gd,Ge,(.int .i64 y5),Gg,Gh,Gi,Gj,Gk,Gl,(Sl.hv y12),(.int .i64 y13),(.int .i64 y14),Gp,Gq,Gr,Gs,Gt,Gu,Gv,Gw,Gx,Gy,Gz,Ka,Kb,Kc,Kd,Ke,Kf,Kg,Kh,Ki,Kj,Kk,Kl,Km,Kn,Ko,Kp,Kq,Kr],[]⟩ S (fun v S1 => v = (.int .i64 p.1) ∧ S1 = p.2)) {y0 : HP} {y5 : Int} {y12 : Sl} {y13 : Int} {y14 : Int} {S : HS} {p : (Int) × HS} (h : J1 k rec0 y0 y5 y12 y13 y14 S = some p) : HR base W0 β0 55 none [.code c36,.inLoop c17,.inBlock 0,.code c37] ⟨[(.ptr y0),Gb,Gc,Gd,Ge,(.int .i64 y5),Gg,Gh,Gi,Gj,Gk,Gl,(Sl.hv y12),(.int .i64 y13),(.int .i64 y14),Gp,Gq,Gr,Gs,Gt,Gu,Gv,Gw,Gx,Gy,Gz,Ka,Kb,Kc,Kd,Ke,Kf,Kg,Kh,Ki,Kj,Kk,Kl,Km,Kn,Ko,Kp,Kq,Kr],[]⟩ S (fun v S1 => v = (.int .i64 p.1) ∧ S1 = p.2) := by
 unfold J1 at h
 refine qR rfl rfl (qS 42 rfl (oC · rfl rfl) (qS 14 rfl (oM · rfl) (rE ?_)))
 try dsimp only [w0,w1,w2,w3]
 exact hrec0 h
def L0 (k : Nat) : Nat → HP → Int → Sl → Int → Int → HS → Option ((Int) × HS)
 | 0,_,_,_,_,_,_ => none
 | n + 1,y0,y5,y12,y13,y14,S =>
  (if y14 < y13 then
  ((S.idx y12 y14 1).bind fun p3 =>
  ((S.ldI .i64 p3).bind fun p4 =>
  (y0.bind fun p5 =>
  ((S.ldSl (HA.fld p5 0)).bind fun p6 =>
  ((slices_BinarySearch_int_int.f k p6 p4 S).bind fun p7 =>
  (if (!p7.1.2) = true then
  (y0.bind fun p9 =>
  ((p7.2.ldSl (HA.fld p9 0)).bind fun p10 =>
  (letv (HS.lit p7.2 [[(.int .i64 p4)]] 1) fun p11 =>
  ((slices_Insert_int_int_w.f p10 p7.1.1 (p11.1) (p11.2)).bind fun p12 =>
  (y0.bind fun p13 =>
  ((p12.2.sets (HA.fld p13 0) [(Sl.hv p12.1)]).bind fun p14 =>
  J1 k (L0 k n) y0 (w64 (y5 + 1)) y12 y13 y14 p14)))))) else
  J1 k (L0 k n) y0 y5 y12 y13 y14 p7.2)))))) else
  some (y5,S))
theorem L0_snd  : ∀ {n : Nat} ⦃y0 : HP⦄ ⦃y5 : Int⦄ ⦃y12 : Sl⦄ ⦃y13 : Int⦄ ⦃y14 : Int⦄ ⦃S : HS⦄ ⦃p : (Int) × HS⦄ ⦃Gb Gc Gd Ge Gg Gh Gi Gj Gk Gl Gp Gq Gr Gs Gt Gu Gv Gw Gx Gy Gz Ka Kb Kc Kd Ke Kf Kg Kh Ki Kj Kk Kl Km Kn Ko Kp Kq Kr : HV⦄,L0 k n y0 y5 y12 y13 y14 S = some p → HR base W0 β0 55 none [.inLoop c17,.inBlock 0,.code c37] ⟨[(.ptr y0),Gb,Gc,Gd,Ge,(.int .i64 y5),Gg,Gh,Gi,Gj,Gk,Gl,(Sl.hv y12),(.int .i64 y13),(.int .i64 y14),Gp,Gq,Gr,Gs,Gt,Gu,Gv,Gw,Gx,Gy,Gz,Ka,Kb,Kc,Kd,Ke,Kf,Kg,Kh,Ki,Kj,Kk,Kl,Km,Kn,Ko,Kp,Kq,Kr],[]⟩ S (fun v S1 => v = (.int .i64 p.1) ∧ S1 = p.2) := by
 intro n
 induction n with
 | zero => intro _ _ _ _ _ _ _ _ _ _ _ _ _ _ _ _ _ _ _ _ _ _ _ _ _ _ _ _ _ _ _ _ _ _ _ _ _ _ _ _ _ _ _ _ _ _ h; cases h
 | succ n ih =>
  intro y0 y5 y12 y13 y14 S p Gb Gc Gd Ge Gg Gh Gi Gj Gk Gl Gp Gq Gr Gs Gt Gu Gv Gw Gx Gy Gz Ka Kb Kc Kd Ke Kf Kg Kh Ki Kj Kk Kl Km Kn Ko Kp Kq Kr h
  simp only [L0] at h
  refine hr_inLoop (qQ rfl (qR rfl rfl (qS 15 rfl (oB · rfl rfl rfl) (rE ?_))))
  try dsimp only [w0,w1,w2,w3]
  refine qQ rfl ?_
  rcases ifc h with ⟨hc2,h⟩ | ⟨hc2,h⟩
  ·obtain ⟨p3,hp3,h⟩ := bindo h
   obtain ⟨p4,hp4,h⟩ := bindo h
   refine q_cond_t rfl (.tmp rfl) (decide_eq_true hc2) (q_skipc rfl (qQ rfl (q_block rfl (qQ rfl (qR rfl rfl (qS 16 rfl (oX (s := y12) · tu42 sz3 rfl rfl hp3) (qS 17 rfl (oL · sc3 rfl rfl (ldI_out hp4)) (qS 7 rfl (oA · rfl) (rE ?_)))))))))
   try dsimp only [w0,w1,w2,w3]
   obtain ⟨p5,hp5,h⟩ := bindo h
   obtain ⟨p6,hp6,h⟩ := bindo h
   refine qQ rfl (qR rfl rfl (qS 19 rfl (oM · rfl) (qS 20 rfl (oN · rfl hp5) (qS 21 rfl (oF · fi138_0 (by decide) rfl rfl) (qS 22 rfl (oL · sc42 rfl rfl (ldSl_out hp6)) ?_)))))
   try dsimp only [w0,w1,w2,w3]
   obtain ⟨p7,hp7,h⟩ := bindo h
   refine qS 23 rfl (oM · rfl) (q_call (dst := some 24) rfl (.func _) (.cons (.tmp rfl) (.cons (.tmp rfl) Evs.nil)) (HInv.static slices_BinarySearch_int_int.at_ slices_BinarySearch_int_int.body (slices_BinarySearch_int_int.snd  hp7)) ?_)
   rintro _ _ ⟨rfl,rfl⟩
   refine qS 18 rfl (oM · rfl) (qS 25 rfl (ok_extract · (.tmp rfl) rfl) ?_)
   try dsimp only [w0,w1,w2,w3]
   refine qS 26 rfl (ok_extract · (.tmp rfl) rfl) (qS 8 rfl (oA · rfl) (qS 9 rfl (oA · rfl) (rE ?_)))
   try dsimp only [w0,w1,w2,w3]
   refine qQ rfl (qR rfl rfl (qS 27 rfl (oM · rfl) (qS 28 rfl (ok_not · (.tmp rfl)) (rE ?_))))
   try dsimp only [w0,w1,w2,w3]
   rcases ifc h with ⟨hc8,h⟩ | ⟨hc8,h⟩
   ·obtain ⟨p9,hp9,h⟩ := bindo h
    refine q_cond_t rfl (.tmp rfl) hc8 (qQ rfl (qR rfl rfl (qS 29 rfl (oM · rfl) (qS 30 rfl (oM · rfl) (qS 31 rfl (oN · rfl hp9) (qS 32 rfl (oF · fi138_0 (by decide) rfl rfl) ?_))))))
    try dsimp only [w0,w1,w2,w3]
    obtain ⟨p10,hp10,h⟩ := bindo h
    obtain ⟨p11,hp11,h⟩ := leto h
    refine qS 33 rfl (oL · sc42 rfl rfl (ldSl_out hp10)) (qS 34 rfl (oM · rfl) (qS 35 rfl (oM · rfl) (qS 36 rfl (ok_buildSlice_s (xs := [(.tmp 35)]) el42 · rfl rfl (by decide) (.cons (.tmp rfl) Evs.nil) rfl rfl hp11) ?_)))
    try dsimp only [w0,w1,w2,w3]
    obtain ⟨p12,hp12,h⟩ := bindo h
    refine q_call (dst := some 37) rfl (.func _) (.cons (.tmp rfl) (.cons (.tmp rfl) (.cons (.tmp rfl) Evs.nil))) (HInv.static slices_Insert_int_int_w.at_ slices_Insert_int_int_w.body (slices_Insert_int_int_w.snd  hp12)) ?_
    rintro _ _ ⟨rfl,rfl⟩
    obtain ⟨p13,hp13,h⟩ := bindo h
    obtain ⟨p14,hp14,h⟩ := bindo h
    refine qS 38 rfl (oN · rfl hp13) (qS 39 rfl (oF · fi138_0 (by decide) rfl rfl) (qN rfl (ok_store_s (v := (Sl.hv p12.1)) · sz42 (.tmp rfl) rfl (.tmp rfl) rfl hp14) (rE ?_)))
    try dsimp only [w0,w1,w2,w3]
    refine qR rfl rfl (qS 40 rfl (oM · rfl) (qS 41 rfl (oC · rfl rfl) (qS 5 rfl (oA · rfl) (rE ?_))))
    try dsimp only [w0,w1,w2,w3]
    refine hr_inBlock ?_
    try dsimp only [w0,w1,w2,w3]
    exact J1_snd ih h
   ·refine q_cond_f rfl (.tmp rfl) (bfalse hc8) (q_skipc rfl (hr_inBlock ?_))
    try dsimp only [w0,w1,w2,w3]
    exact J1_snd ih h
  ·refine q_cond_f rfl (.tmp rfl) (decide_eq_false hc2) (q_exit rfl rfl (qQ rfl (qR rfl rfl (qS 43 rfl (oM · rfl) (qS 4 rfl (oA · rfl) (rE ?_))))))
   cases h
   exact q_ret rfl at_.at_ rfl (res1 rfl rfl) ⟨rfl,rfl⟩
def f (k : Nat) (x0 : HP) (x1 : Sl) (S : HS) : Option ((Int) × HS) :=
 (if (Option.isNone x0) = true then
 some (0,S) else
 L0 k k x0 0 x1 (Sl.len x1 : Int) 0 S)
theorem snd {x0 : HP} {x1 : Sl} {S : HS}  {p : (Int) × HS} (h : f k x0 x1 S = some p) : HCall Tryz.prog base W0 β0 55 [(.ptr x0),(Sl.hv x1)] S (fun v S1 => v = (.int .i64 p.1) ∧ S1 = p.2) := by
 unfold f at h
 refine HCall.of_run at_.at_ body ?_
 show HR base W0 β0 55 none [.code c0] ⟨[(.ptr x0),(Sl.hv x1),τ,τ,τ,τ,τ,τ,τ,τ,τ,τ,τ,τ,τ,τ,τ,τ,τ,τ,τ,τ,τ,τ,τ,τ,τ,τ,τ,τ,τ,τ,τ,τ,τ,τ,τ,τ,τ,τ,τ,τ,τ,τ],[]⟩ S _
 refine qQ rfl (qR rfl rfl (qS 4 rfl (ok_assign · (.int _ _)) (rE ?_)))
 try dsimp only [w0,w1,w2,w3]
 refine qQ rfl (qR rfl rfl (qS 5 rfl (ok_assign · (.int _ _)) (rE ?_)))
 try dsimp only [w0,w1,w2,w3]
 refine qQ rfl (qQ rfl (qR rfl rfl (qS 10 rfl (oM · rfl) (qS 11 rfl (ok_nil_ptr · tu96 (.tmp rfl) (.inl ⟨rfl,rfl⟩)) (rE ?_)))))
 try dsimp only [w0,w1,w2,w3]
 rcases ifc h with ⟨hc1,h⟩ | ⟨hc1,h⟩
 ·refine q_cond_t rfl (.tmp rfl) hc1 (qQ rfl (qR rfl rfl (qS 4 rfl (ok_assign · (.int _ _)) (rE ?_))))
  cases h
  exact q_ret rfl at_.at_ rfl (res1 rfl rfl) ⟨rfl,rfl⟩
 ·refine q_cond_f rfl (.tmp rfl) (bfalse hc1) (q_skipc rfl (qQ rfl (qQ rfl (qR rfl rfl (qS 12 rfl (oM · rfl) (qS 13 rfl (ok_len_sl (q := Sl.a x1) (n := Sl.len x1) (z := Sl.cap x1) · rfl tu42 (.tmp rfl)) (qS 14 rfl (ok_move · (.int _ _)) (rE ?_))))))))
  try dsimp only [w0,w1,w2,w3]
  refine q_block rfl (q_loop rfl ?_)
  try dsimp only [w0,w1,w2,w3]
  exact L0_snd  h
end set_Set_int_Add
namespace set_Of_int
theorem at_ : FnAt Tryz.prog 53 Tryz.f53 := ⟨Tryz.func53,by kernel_rfl⟩
def d0 := (Tryz.f53.body).getD .skip
def r1 := kR (kA d0)
def r3 := kR (kA (kB d0))
def r5 := kR (kA (kB (kB d0)))
def r7 := kR (kA (kB (kB (kB d0))))
def c0 : Code := .seq (.region 0 r1 false) (.seq (.region 1 r3 false) (.seq (.region 2 r5 false) (.seq (.region 3 r7 false) .ret)))
theorem body : Tryz.f53.body = some c0 := by kernel_rfl
def f (k : Nat) (x0 : Sl) (S : HS) : Option ((HP) × HS) :=
 (letv (HS.new S (.cells 1 [[(Sl.hv Sl.nil)]] true)) fun p1 =>
 ((set_Set_int_Add.f k (some (HA.cell0 S.next)) x0 p1).bind fun p2 =>
 some ((some (HA.cell0 S.next)),p2.2)))
theorem snd {x0 : Sl} {S : HS}  {p : (HP) × HS} (h : f k x0 S = some p) : HCall Tryz.prog base W0 β0 53 [(Sl.hv x0)] S (fun v S1 => v = (.ptr p.1) ∧ S1 = p.2) := by
 unfold f at h
 refine HCall.of_run at_.at_ body ?_
 show HR base W0 β0 53 none [.code c0] ⟨[(Sl.hv x0),τ,τ,τ,τ,τ,τ,τ,τ,τ],[]⟩ S _
 refine qQ rfl (qR rfl rfl (qS 2 rfl (ok_assign · (.const fun _ => .ptrNil)) (rE ?_)))
 try dsimp only [w0,w1,w2,w3]
 obtain ⟨p1,hp1,h⟩ := leto h
 refine qQ rfl (qR rfl rfl (qS 4 rfl (ok_build (is := []) (xs := []) (r := [(Sl.hv Sl.nil)]) st138 · rfl rfl Evs.nil rfl) (qS 5 rfl (ok_box_e · (.tmp rfl) (Nat.zero_lt_succ _) rfl hp1) (qS 3 rfl (oA · rfl) (rE ?_)))))
 try dsimp only [w0,w1,w2,w3]
 obtain ⟨p2,hp2,h⟩ := bindo h
 refine qQ rfl (qR rfl rfl (qS 6 rfl (oM · rfl) (qS 7 rfl (oM · rfl) (q_call (dst := some 8) rfl (.func _) (.cons (.tmp rfl) (.cons (.tmp rfl) Evs.nil)) (HInv.static set_Set_int_Add.at_ set_Set_int_Add.body (set_Set_int_Add.snd  hp2)) ?_))))
 rintro _ _ ⟨rfl,rfl⟩
 refine rE ?_
 try dsimp only [w0,w1,w2,w3]
 refine qQ rfl (qR rfl rfl (qS 9 rfl (oM · rfl) (qS 2 rfl (oA · rfl) (rE ?_))))
 cases h
 exact q_ret rfl at_.at_ rfl (res1 rfl rfl) ⟨rfl,rfl⟩
end set_Of_int
namespace room_New
theorem at_ : FnAt Tryz.prog 45 Tryz.f45 := ⟨Tryz.func45,by kernel_rfl⟩
def d0 := (Tryz.f45.body).getD .skip
def r1 := kR (kA d0)
def r3 := kR (kA (kB d0))
def c0 : Code := .seq (.region 0 r1 false) (.seq (.region 1 r3 false) .ret)
theorem body : Tryz.f45.body = some c0 := by kernel_rfl
def f (k : Nat) (x0 : (List UInt8)) (x1 : Int) (S : HS) : Option ((HP) × HS) :=
 ((set_Of_int.f k Sl.nil S).bind fun p1 =>
 (letv (HS.new p1.2 (.cells 9 [[(.str x0),(.int .i64 x1),(Sl.hv Sl.nil),(.str []),(.int .i64 20),(.str []),(.int .i64 0),(Sl.hv Sl.nil),(.ptr p1.1)]] true)) fun p2 =>
 some ((some (HA.cell0 p1.2.next)),p2)))
theorem snd {x0 : (List UInt8)} {x1 : Int} {S : HS}  {p : (HP) × HS} (h : f k x0 x1 S = some p) : HCall Tryz.prog base W0 β0 45 [(.str x0),(.int .i64 x1)] S (fun v S1 => v = (.ptr p.1) ∧ S1 = p.2) := by
 unfold f at h
 refine HCall.of_run at_.at_ body ?_
 show HR base W0 β0 45 none [.code c0] ⟨[(.str x0),(.int .i64 x1),τ,τ,τ,τ,τ,τ,τ,τ],[]⟩ S _
 refine qQ rfl (qR rfl rfl (qS 4 rfl (ok_assign · (.const fun _ => .ptrNil)) (rE ?_)))
 try dsimp only [w0,w1,w2,w3]
 obtain ⟨p1,hp1,h⟩ := bindo h
 refine qQ rfl (qR rfl rfl (qS 5 rfl (oM · rfl) (qS 6 rfl (oM · rfl) (q_call (dst := some 7) rfl (.func _) (.cons (.const fun _ => .slNil none) Evs.nil) (HInv.static set_Of_int.at_ set_Of_int.body (set_Of_int.snd  hp1)) ?_))))
 rintro _ _ ⟨rfl,rfl⟩
 refine qS 8 rfl (ok_build (is := [0,1,4,8]) (xs := [(.tmp 5),(.tmp 6),(.const (.int .i64 20)),(.tmp 7)]) (r := [(.str x0),(.int .i64 x1),(Sl.hv Sl.nil),(.str []),(.int .i64 20),(.str []),(.int .i64 0),(Sl.hv Sl.nil),(.ptr p1.1)]) st114 · rfl rfl (.cons (.tmp rfl) (.cons (.tmp rfl) (.cons (.int _ _) (.cons (.tmp rfl) Evs.nil)))) rfl) ?_
 try dsimp only [w0,w1,w2,w3]
 obtain ⟨p2,hp2,h⟩ := leto h
 refine qS 9 rfl (ok_box_e · (.tmp rfl) (Nat.zero_lt_succ _) rfl hp2) (qS 4 rfl (oA · rfl) (rE ?_))
 cases h
 exact q_ret rfl at_.at_ rfl (res1 rfl rfl) ⟨rfl,rfl⟩
end room_New
namespace book_Book_room_Room_Len
theorem at_ : FnAt Tryz.prog 46 Tryz.f46 := ⟨Tryz.func46,by kernel_rfl⟩
def d0 := (Tryz.f46.body).getD .skip
def r1 := kR (kA d0)
def r4 := kR (kA (kA (kB d0)))
def r7 := kR (kA (kA (kB (kA (kB d0)))))
def r11 := kR (kA (kB (kB d0)))
def c0 : Code := .seq (.region 0 r1 false) (.seq (.seq (.region 1 r4 false) (.cond (.tmp 4) (.seq (.region 2 r7 false) .ret) .skip)) (.seq (.region 3 r11 false) .ret))
theorem body : Tryz.f46.body = some c0 := by kernel_rfl
def f (x0 : HP) (S : HS) : Option ((Int) × HS) :=
 (if (Option.isNone x0) = true then
 some (0,S) else
 (x0.bind fun p2 =>
 ((S.ldSl (HA.fld p2 1)).bind fun p3 =>
 some ((Sl.len p3 : Int),S))))
theorem snd {x0 : HP} {S : HS}  {p : (Int) × HS} (h : f x0 S = some p) : HCall Tryz.prog base W0 β0 46 [(.ptr x0)] S (fun v S1 => v = (.int .i64 p.1) ∧ S1 = p.2) := by
 unfold f at h
 refine HCall.of_run at_.at_ body ?_
 show HR base W0 β0 46 none [.code c0] ⟨[(.ptr x0),τ,τ,τ,τ,τ,τ,τ,τ,τ],[]⟩ S _
 refine qQ rfl (qR rfl rfl (qS 2 rfl (ok_assign · (.int _ _)) (rE ?_)))
 try dsimp only [w0,w1,w2,w3]
 refine qQ rfl (qQ rfl (qR rfl rfl (qS 3 rfl (oM · rfl) (qS 4 rfl (ok_nil_ptr · tu75 (.tmp rfl) (.inl ⟨rfl,rfl⟩)) (rE ?_)))))
 try dsimp only [w0,w1,w2,w3]
 rcases ifc h with ⟨hc1,h⟩ | ⟨hc1,h⟩
 ·refine q_cond_t rfl (.tmp rfl) hc1 (qQ rfl (qR rfl rfl (qS 2 rfl (ok_assign · (.int _ _)) (rE ?_))))
  cases h
  exact q_ret rfl at_.at_ rfl (res1 rfl rfl) ⟨rfl,rfl⟩
 ·obtain ⟨p2,hp2,h⟩ := bindo h
  obtain ⟨p3,hp3,h⟩ := bindo h
  refine q_cond_f rfl (.tmp rfl) (bfalse hc1) (q_skipc rfl (qQ rfl (qR rfl rfl (qS 5 rfl (oM · rfl) (qS 6 rfl (oN · rfl hp2) (qS 7 rfl (oF · fi120_1 (by decide) rfl rfl) (qS 8 rfl (oL · sc118 rfl rfl (ldSl_out hp3)) ?_)))))))
  try dsimp only [w0,w1,w2,w3]
  refine qS 9 rfl (ok_len_sl (q := Sl.a p3) (n := Sl.len p3) (z := Sl.cap p3) · rfl tu118 (.tmp rfl)) (qS 2 rfl (oA · rfl) (rE ?_))
  cases h
  exact q_ret rfl at_.at_ rfl (res1 rfl rfl) ⟨rfl,rfl⟩
end book_Book_room_Room_Len
namespace set_Set_string_Len
theorem at_ : FnAt Tryz.prog 99 Tryz.f99 := ⟨Tryz.func99,by kernel_rfl⟩
def d0 := (Tryz.f99.body).getD .skip
def r1 := kR (kA d0)
def r4 := kR (kA (kA (kB d0)))
def r7 := kR (kA (kA (kB (kA (kB d0)))))
def r11 := kR (kA (kB (kB d0)))
def c0 : Code := .seq (.region 0 r1 false) (.seq (.seq (.region 1 r4 false) (.cond (.tmp 4) (.seq (.region 2 r7 false) .ret) .skip)) (.seq (.region 3 r11 false) .ret))
theorem body : Tryz.f99.body = some c0 := by kernel_rfl
def f (x0 : HP) (S : HS) : Option ((Int) × HS) :=
 (if (Option.isNone x0) = true then
 some (0,S) else
 (x0.bind fun p2 =>
 ((S.ldSl (HA.fld p2 0)).bind fun p3 =>
 some ((Sl.len p3 : Int),S))))
theorem snd {x0 : HP} {S : HS}  {p : (Int) × HS} (h : f x0 S = some p) : HCall Tryz.prog base W0 β0 99 [(.ptr x0)] S (fun v S1 => v = (.int .i64 p.1) ∧ S1 = p.2) := by
 unfold f at h
 refine HCall.of_run at_.at_ body ?_
 show HR base W0 β0 99 none [.code c0] ⟨[(.ptr x0),τ,τ,τ,τ,τ,τ,τ,τ,τ],[]⟩ S _
 refine qQ rfl (qR rfl rfl (qS 2 rfl (ok_assign · (.int _ _)) (rE ?_)))
 try dsimp only [w0,w1,w2,w3]
 refine qQ rfl (qQ rfl (qR rfl rfl (qS 3 rfl (oM · rfl) (qS 4 rfl (ok_nil_ptr · tu134 (.tmp rfl) (.inl ⟨rfl,rfl⟩)) (rE ?_)))))
 try dsimp only [w0,w1,w2,w3]
 rcases ifc h with ⟨hc1,h⟩ | ⟨hc1,h⟩
 ·refine q_cond_t rfl (.tmp rfl) hc1 (qQ rfl (qR rfl rfl (qS 2 rfl (ok_assign · (.int _ _)) (rE ?_))))
  cases h
  exact q_ret rfl at_.at_ rfl (res1 rfl rfl) ⟨rfl,rfl⟩
 ·obtain ⟨p2,hp2,h⟩ := bindo h
  obtain ⟨p3,hp3,h⟩ := bindo h
  refine q_cond_f rfl (.tmp rfl) (bfalse hc1) (q_skipc rfl (qQ rfl (qR rfl rfl (qS 5 rfl (oM · rfl) (qS 6 rfl (oN · rfl hp2) (qS 7 rfl (oF · fi159_0 (by decide) rfl rfl) (qS 8 rfl (oL · sc57 rfl rfl (ldSl_out hp3)) ?_)))))))
  try dsimp only [w0,w1,w2,w3]
  refine qS 9 rfl (ok_len_sl (q := Sl.a p3) (n := Sl.len p3) (z := Sl.cap p3) · rfl tu57 (.tmp rfl)) (qS 2 rfl (oA · rfl) (rE ?_))
  cases h
  exact q_ret rfl at_.at_ rfl (res1 rfl rfl) ⟨rfl,rfl⟩
end set_Set_string_Len
end
end Go.Proofs.YtbmfomkfmpppiaaGreat.X
