/- The layer HL, part 20: functions without a body, that the model answers itself. The layer HL, part 21: arrays of scalars. -/
import Derived.Test.YtfningkbcfhheaaGreatDoorPart3
import Derived.Laws.Externs
set_option linter.unusedVariables false
set_option linter.unusedSimpArgs false
namespace Go.Proofs.YtfningkbcfhheaaGreatDoor.HL
open Go.RowKit (Below)
structure ExtAt (P : Program) (f : FuncId) (e : Array Value → Sem Value) : Prop where
 is : ∃ fn,P.funcs[f]? = some fn ∧ (fn.name == "runtime.NumGoroutine") = false ∧ fn.body.isNone = true ∧ Extern.findNext fn = none ∧ Extern.find fn = some e
section
variable {P : Program} {base : Nat} {W0 : Env} {a : HAct} {S : HS} {o : Oper}
theorem ok_ext {f : FuncId} {e : Array Value → Sem Value} {xs : Array Operand} {tys : Array TypeId} {vs : List HV} {v : HV} (ho : o.op = .call ⟨.value (.func f),xs,tys⟩) (hf : ExtAt P f e) (hxs : Evs a xs vs)
  (hrun : ∀ (β : Bt) (w : World) (vs' : Array Value),VRels β vs vs' → ∃ v',(e vs').run P w = .ok v' w ∧ VRel β v v') : OpOk P base W0 o a S v S := by
 refine ⟨by rw [ho]; simp,fun β w a' h1 h2 => ?_⟩
 obtain ⟨fn,q1,q2,q3,q4,q5⟩ := hf.is
 obtain ⟨v',g1,g2⟩ := hrun β w _ (hxs.rel h2)
 refine ⟨β,w,v',Le.refl _,.inl ?_,g2,h1⟩
 have hc := run_callFunc_extern q1 q2 q3 q4 q5 (xs.map a'.eval) w
 rw [g1] at hc
 simp only [Result.andThen_ok] at hc
 simp only [execOp,ho,resolve,Act.eval,invoke,Sem.run_bind]
 simp [Deferred.ofValue,hc]
def bidx (s : List UInt8) (c : Int) : Int := firstIdx ⟨s.toArray⟩ c.toNat.toUInt8
theorem ok_idxByte {f : FuncId} {x y : Operand} {tys : Array TypeId} {s : List UInt8} {c : Int} (ho : o.op = .call ⟨.value (.func f),#[x,y],tys⟩) (hf : ExtAt P f Extern.BytealgIndexByte.indexByte) (hx : Ev a x (.str s)) (hy : Ev a y (.int .u8 c)) : OpOk P base W0 o a S (.int .i64 (bidx s c)) S := by
 refine ok_ext ho hf (Evs.cons hx (Evs.cons hy Evs.nil)) fun β w vs' h => ?_
 obtain ⟨hl,hv⟩ := h
 obtain ⟨u1,u2,rfl⟩ : ∃ u1 u2,vs' = #[u1,u2] := by
  obtain ⟨l⟩ := vs'
  match l,hl with
  | [u1,u2],_ => exact ⟨u1,u2,rfl⟩
 have h1 := hv 0 (.str s) u1 rfl rfl
 have h2 := hv 1 (.int .u8 c) u2 rfl rfl
 cases h1
 cases h2
 exact ⟨_,run_indexByte_string _ _ _,.int _ _⟩
theorem ok_noEscape {f : FuncId} {x : Operand} {tys : Array TypeId} {v : HV} (ho : o.op = .call ⟨.value (.func f),#[x],tys⟩) (hf : ExtAt P f Extern.AbiNoEscape.same) (hx : Ev a x v) : OpOk P base W0 o a S v S := by
 refine ok_ext ho hf (Evs.cons hx Evs.nil) fun β w vs' h => ?_
 obtain ⟨hl,hv⟩ := h
 obtain ⟨u1,rfl⟩ : ∃ u1,vs' = #[u1] := by
  obtain ⟨l⟩ := vs'
  match l,hl with
  | [u1],_ => exact ⟨u1,rfl⟩
 exact ⟨u1,rfl,hv 0 v u1 rfl rfl⟩
end
section
variable {P : Program} {base : Nat} {W0 : Env} {a : HAct} {S : HS} {o : Oper}
theorem vrels_rep {β : Bt} {n : Nat} {v : HV} {v' : Value} (h : VRel β v v') : VRels β (List.replicate n v) (Array.replicate n v') := by
 refine ⟨by simp,fun i x x' h1 h2 => ?_⟩
 rw [List.getElem?_replicate] at h1
 rw [Array.getElem?_replicate] at h2
 split at h1
 ·rename_i hi
  rw [if_pos hi] at h2
  cases h1; cases h2; exact h
 ·cases h1
theorem ok_alloc_arr {t n : Nat} {zv : Value} {v : HV} {S' : HS} (ho : o.op = .alloc t) (ht : (P.info? t).map (·.zero) = some (some (.agg (Array.replicate n zv)))) (hz : ∀ β,VRel β v zv) (hn : 0 < n) (hf : v.flat = true) (hq : S' = S.new (.cells n [List.replicate n v] true)) :
  OpOk P base W0 o a S (.ptr (some (.cell0 S.next))) S' := by
 have := ok_alloc_e (P := P) (base := base) (W0 := W0) (a := a) (S := S) (r := List.replicate n v) (S' := S') ho ht (fun β => by simpa [Value.cells] using vrels_rep (hz β)) (by simpa using hn) (by simp [hf]) (by simpa using hq)
 exact this
theorem ok_load_arr {t : TypeId} {x : Operand} {e : Option HA} {ad : HA} {n : Nat} {vs : List HV} (ho : o.op = .load t x) (ht : IsAgg P t n) (hx : Ev a x (.ptr e)) (he : e = some ad) (hv : S.gets ad n = some vs) : OpOk P base W0 o a S (.agg vs) S := by
 subst he; exact ok_load_agg ho ht hx hv
theorem ok_indexAddr_arr {t e n : Nat} {x y : Operand} {ex : Option HA} {ad : HA} {k : IntKind} {i : Int} (ho : o.op = .indexAddr t x y) (ht : P.underlying t = some (.array n e)) (hz : ∃ q,P.info? e = some q ∧ q.size = 1) (hx : Ev a x (.ptr ex)) (he : ex = some ad) (hy : Ev a y (.int k i)) (hi : 0 ≤ i ∧ i < n) :
  OpOk P base W0 o a S (.ptr (some (ad.fld i.toNat))) S := by
 subst he
 refine .pure (by rw [ho]; simp) fun β w a' h1 h2 => ?_
 obtain ⟨q,hq1,hq2⟩ := hz
 have hrx := hx.rel h2
 generalize hxv : a'.eval x = xv at hrx
 cases hrx with
 | @ptr id b o1 z m tot ii jj hb =>
  refine ⟨.pointer (some ⟨b,o1 + ii * z + (jj + i.toNat),none⟩),?_,VRel.ptr hb⟩
  simp [execOp,ho,Instr.indexAt,Instr.sureAddr,hxv,hy.at_int h2,asIntOf,underlying,ht,hi.1,hi.2,Go.sizeOf,typeInfo,hq1,hq2,add_none,Nat.add_assoc]
theorem ok_store_arr {t n : Nat} {x y : Operand} {e : Option HA} {ad : HA} {vs : List HV} {S' : HS} (ho : o.op = .store t x y) (ht : ∃ i,P.info? t = some i ∧ i.size = n) (hx : Ev a x (.ptr e)) (he : e = some ad) (hy : Ev a y (.agg vs)) (hg : vs.length = n ∧ vs.all (·.flat) = true) (hv : S.sets ad vs = some S') :
  OpOk P base W0 o a S (.tup []) S' := by
 obtain ⟨i,h1,h2⟩ := ht
 exact ok_store_s (v := .agg vs) ho ⟨i,h1,h2.trans hg.1.symm⟩ hx he hy hg.2 hv
theorem getsAt_of {ad : HA} {n : Nat} {vs : List HV} (h : S.gets ad n = some vs) : vs.length = n ∧ GetsAt S ad 0 vs := by
 unfold HS.gets at h
 cases hr : S.row ad.id ad.i with
 | none => rw [hr] at h; cases h
 | some r =>
  rw [hr,Option.bind_some] at h
  split at h
  ·rename_i hle
   cases h
   have hl : ((r.drop ad.j).take n).length = n := by simp; omega
   refine ⟨hl,?_⟩
   have key : ∀ (m j : Nat),j + m = n → GetsAt S ad j (((r.drop ad.j).take n).drop j) := by
    intro m
    induction m with
    | zero => intro j hj; rw [List.drop_eq_nil_of_le (by omega)]; trivial
    | succ m ih =>
     intro j hj
     have hlt : j < ((r.drop ad.j).take n).length := by omega
     rw [List.drop_eq_getElem_cons hlt]
     refine ⟨?_,ih (j + 1) (by omega)⟩
     simp only [HS.get,hr,Option.bind_some]
     rw [List.getElem_take,List.getElem_drop,List.getElem?_eq_getElem]
   exact key n 0 (by omega)
  ·cases h
theorem ResAt.arr {x : Tmp} {t n : Nat} {e : Option HA} {ad : HA} {vs : List HV} (h : a.tmps[x]? = some (.ptr e)) (he : e = some ad) (ht : IsAgg P t n) (hn : 0 < n) (hv : S.gets ad n = some vs) : ResAt P a S (.cell x t) (.agg vs) := by
 obtain ⟨h1,h2⟩ := getsAt_of hv
 exact .agg h he (by rw [h1]; exact ht) h2 (by omega)
end
end Go.Proofs.YtfningkbcfhheaaGreatDoor.HL
