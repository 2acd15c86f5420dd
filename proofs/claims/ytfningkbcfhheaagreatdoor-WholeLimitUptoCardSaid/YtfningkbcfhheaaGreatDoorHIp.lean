/- The layer HI, part 16: the chain of a statement's operations in the text's order, makers among them. -/
import Derived.Test.YtfningkbcfhheaaGreatDoorPart9
set_option linter.unusedVariables false
set_option linter.unusedSimpArgs false
namespace Go.Proofs.YtfningkbcfhheaaGreatDoor.HL
set_option linter.unusedVariables false
section
variable {P : Program} {base : Nat} {W0 E : Env} {β0 : Bt} {f : FuncId} {ro : Option Nat} {k : List Item} {R : HV → HS → Prop} {ops : Array Oper} {cls : Nat → Nat} {mk : Nat → Option (Nat × HObj)}
def SettleOk (ops : Array Oper) (cls : Nat → Nat) (mk : Nat → Option (Nat × HObj)) (i : Nat) (S Sq S' : HS) : Prop :=
 (∃ l : List (Nat × HObj),Sq = S.settles l ∧ (l.map (·.1)).Nodup ∧ ∀ q ∈ l,S.heap q.1 = .opq ∧ goodOb q.2 = true ∧ ∃ j,mk j = some q ∧ Anc ops j i) ∧
 ∀ j r ob,mk j = some (r,ob) → (∀ w,w ≤ i → cls w = 2 → ((Region.before ops).getD w 0).testBit j = false) → S'.heap r = .opq
def LateM (ops : Array Oper) (cls : Nat → Nat) (i : Nat) (p : HS → Prop) (i0 : Nat) (vs : List (HV × HS × HS)) : Prop :=
 ∀ j z,vs[j]? = some z → cls (i0 + j) = 2 → ((Region.before ops).getD (i0 + j) 0).testBit i = false → p z.2.1
def MStep (P : Program) (base : Nat) (β0 : Bt) (ops : Array Oper) (cls : Nat → Nat) (mk : Nat → Option (Nat × HObj)) (past : List (Nat × HS)) (i : Nat) (o : Oper) (a : HAct) (S Sq S' : HS) (v : HV) (vs : List (HV × HS × HS)) : Prop :=
 match mk i with
 | some q => cls i = 0 ∧ S' = S ∧ Makes P base ops o (a.mask (o.looksAt ops)) v q.1 q.2
 | none => (cls i = 0 ∧ S' = S ∧ ∀ E T,QAt2 P base E β0 ops o (a.mask (o.looksAt ops)) T v T) ∨
  (cls i = 2 ∧ (∀ E,QAt2 P base E β0 ops o (a.mask (o.looksAt ops)) Sq v S') ∧ SettleOk ops cls mk i S Sq S') ∨
  (cls i = 3 ∧ S' = S ∧ ∀ E,QAt2 P base E β0 ops o (a.mask (o.looksAt ops)) S v S ∧ LateM ops cls i (fun T => QAt2 P base E β0 ops o (a.mask (o.looksAt ops)) T v T) (i + 1) vs ∧
   PastOk ops i (fun T => QAt2 P base E β0 ops o (a.mask (o.looksAt ops)) T v T) past)
inductive MChain (P : Program) (base : Nat) (β0 : Bt) (ops : Array Oper) (cls : Nat → Nat) (mk : Nat → Option (Nat × HObj)) : List (Nat × HS) → Nat → HAct → HS → List (HV × HS × HS) → HAct → HS → Prop
 | nil (past : List (Nat × HS)) (a : HAct) (S : HS) : MChain P base β0 ops cls mk past ops.size a S [] a S
 | cons {past past' : List (Nat × HS)} {i : Nat} {a : HAct} {S Sq S' : HS} {o : Oper} {v : HV} {vs : List (HV × HS × HS)} {b : HAct} {Sn : HS} (ho : ops[i]? = some o) (hs : MStep P base β0 ops cls mk past i o a S Sq S' v vs)
   (hp : (∀ q ∈ past,q ∈ past') ∧ (cls i = 2 → (i,S) ∈ past'))
   (h : MChain P base β0 ops cls mk past' (i + 1) (a.put o.dst v) S' vs b Sn) : MChain P base β0 ops cls mk past i a S ((v,S',Sq) :: vs) b Sn
theorem MChain.len {past : List (Nat × HS)} {i0 : Nat} {a b : HAct} {S Sn : HS} {vs : List (HV × HS × HS)} (h : MChain P base β0 ops cls mk past i0 a S vs b Sn) : i0 + vs.length = ops.size := by
 induction h with
 | nil => rfl
 | cons _ _ _ _ ih => simp only [List.length_cons]; omega
theorem MChain.spell {past : List (Nat × HS)} {i0 : Nat} {a b : HAct} {S Sn : HS} {vs : List (HV × HS × HS)} (h : MChain P base β0 ops cls mk past i0 a S vs b Sn) : ∀ (a0 : HAct) (val : Nat → HV) (Hp Hq : Nat → HS),Hp i0 = S → (∀ j,i0 ≤ j → j < ops.size → (val j,Hp (j + 1),Hq j) = vs.getD (j - i0) (.tup [],Sn,Sn)) → DrawOk2 ops cls → (∀ w,w < i0 → cls w = 2 → (w,Hp w) ∈ past) →
  i0 ≤ ops.size ∧ Hp ops.size = Sn ∧ (Agrees ops a0 val ops.size (fun j => j < i0) a →
   (∀ j o,i0 ≤ j → j < ops.size → ops[j]? = some o → (∃ A,Agrees ops a0 val ops.size (fun l => l < j) A ∧ Step4 P base β0 ops cls mk Hp Hq j o A (val j)) ∧ (cls j = 2 → SettleOk ops cls mk j (Hp j) (Hq j) (Hp (j + 1))) ∧ (cls j ≠ 2 → Hp (j + 1) = Hp j)) ∧ Agrees ops a0 val ops.size (fun l => l < ops.size) b) := by
 induction h with
 | nil past a S => intro a0 val Hp Hq h0 _ _ _; exact ⟨Nat.le_refl _,h0,fun h => ⟨fun j o h1 h2 => by omega,h⟩⟩
 | @cons past past' i a S Sq S' o v vs b Sn ho hs hp h ih =>
  intro a0 val Hp Hq h0 hval hd hpast
  have hi : i < ops.size := (Array.getElem?_eq_some_iff.1 ho).1
  have hv0 := hval i (Nat.le_refl _) hi
  simp only [Nat.sub_self,List.getD_cons_zero,Prod.mk.injEq] at hv0
  obtain ⟨v1,v2,v3⟩ := hv0
  obtain ⟨g1,g2,g3⟩ := ih a0 val Hp Hq v2 (fun j h1 h2 => by rw [hval j (by omega) h2,show j - i = (j - (i + 1)) + 1 by omega]; rfl) hd (fun w hw hcw => by
   rcases Nat.lt_or_ge w i with h5 | h5
   ·exact hp.1 _ (hpast w h5 hcw)
   ·have : w = i := by omega
    subst this
    rw [h0]; exact hp.2 hcw)
  refine ⟨by omega,g2,fun hA => ?_⟩
  have hst := hA.step2 hd (i := i) hi ho (by omega)
  have heq : (fun j => j < i ∨ j = i) = (fun j => j < i + 1) := by funext j; simp only [eq_iff_iff]; omega
  rw [heq,v1] at hst
  obtain ⟨k1,k2⟩ := g3 hst
  refine ⟨fun j o' h1 h2 h3 => ?_,k2⟩
  by_cases e : j = i
  ·subst e
   rw [ho] at h3; cases h3
   have hlen := h.len
   unfold MStep at hs
   unfold Step4
   rw [v1,v2,v3,h0]
   split at hs
   ·rename_i q hmk
    simp only [hmk]
    exact ⟨⟨a,hA,hs.2.1,hs.2.2⟩,fun hc => absurd (hs.1.symm.trans hc) (by decide),fun _ => hs.2.1⟩
   ·rename_i hmk
    simp only [hmk]
    rcases hs with ⟨c0,c1,c2⟩ | ⟨c0,c1,c2⟩ | ⟨c0,c1,c2⟩
    ·exact ⟨⟨a,hA,.inl ⟨c0,c1,c2⟩⟩,fun hc => absurd (c0.symm.trans hc) (by decide),fun _ => c1⟩
    ·exact ⟨⟨a,hA,.inr (.inl ⟨c0,c1⟩)⟩,fun _ => c2,fun hc => absurd c0 hc⟩
    ·refine ⟨⟨a,hA,.inr (.inr ⟨c0,c1,fun E => ⟨(c2 E).1,fun w q1 q2 q3 q4 => ?_,fun w q1 q2 q3 => ?_⟩⟩)⟩,fun hc => absurd (c0.symm.trans hc) (by decide),fun _ => c1⟩
     ·have hw := hval w (by omega) q2
      have hix : w - (j + 1) < vs.length := by omega
      rw [show w - j = (w - (j + 1)) + 1 by omega,List.getD_cons_succ,List.getD_eq_getElem?_getD,List.getElem?_eq_getElem hix,Option.getD_some] at hw
      exact (c2 E).2.1 (w - (j + 1)) (val w,Hp (w + 1),Hq w) (by rw [List.getElem?_eq_getElem hix,hw]) (by rw [show j + 1 + (w - (j + 1)) = w by omega]; exact q3) (by rw [show j + 1 + (w - (j + 1)) = w by omega]; exact q4)
     ·rcases (c2 E).2.2 _ (hpast w q1 q2) with g | g
      ·rw [g] at q3; cases q3
      ·exact g
  ·exact k1 j o' (by omega) h2 h3
end
end Go.Proofs.YtfningkbcfhheaaGreatDoor.HL
