/- The layer HL, part 20: functions without a body, that the model answers itself. The layer HL, part 21: arrays of scalars. -/
import Derived.Laws.Externs
import Derived.Test.YtbmfomkfmpppiaaGreatPart5
namespace Go.Proofs.YtbmfomkfmpppiaaGreat.HL
open Go.RowKit (Below)
structure ExtAt (P : Program) (f : FuncId) (e : Array Value → Sem Value) : Prop where
 is : ∃ fn,P.funcs[f]? = some fn ∧ (fn.name == "runtime.NumGoroutine") = false ∧ fn.body.isNone = true ∧ Extern.findNext fn = none ∧ Extern.find fn = some e
section
variable {P : Program} {base : Nat} {W0 : World} {a : HAct} {S : HS} {o : Oper}
end
section
variable {P : Program} {base : Nat} {W0 : World} {a : HAct} {S : HS} {o : Oper}
theorem getsAt_of {ad : HA} {n : Nat} {vs : List HV} (h : S.gets ad n = some vs) : vs.length = n ∧ GetsAt S ad 0 vs := by
 unfold HS.gets at h
 cases hr : S.row ad.id ad.i with
 | none => rw [hr] at h; cases h
 | some r =>
  rw [hr,obs] at h
  split at h
  ·rename_i hle
   cases h
   have hl : ((r.drop ad.j).take n).length = n := by simp; omega
   refine ⟨hl,?_⟩
   have key : ∀ (m j : Nat),j + m = n → GetsAt S ad j (((r.drop ad.j).take n).drop j) := by
    intro m
    induction m with
    | zero => intro j hj; rw [List.drop_eq_nil_of_le (by omega)]; trivial
    | succ m ih =>
     intro j hj
     have hlt : j < ((r.drop ad.j).take n).length := by omega
     rw [List.drop_eq_getElem_cons hlt]
     refine ⟨?_,ih (j + 1) (by omega)⟩
     simp only [HS.get,hr,obs]
     rw [List.getElem_take,List.getElem_drop,List.getElem?_eq_getElem]
   exact key n 0 (by omega)
  ·cases h
theorem ResAt.arr {x : Tmp} {t n : Nat} {e : Option HA} {ad : HA} {vs : List HV} (h : a.tmps[x]? = some (.ptr e)) (he : e = some ad) (ht : IsAgg P t n) (hn : 0 < n) (hv : S.gets ad n = some vs) : ResAt P a S (.cell x t) (.agg vs) := by
 obtain ⟨h1,h2⟩ := getsAt_of hv
 exact .agg h he (by rw [h1]; exact ht) h2 (by omega)
end
end Go.Proofs.YtbmfomkfmpppiaaGreat.HL
