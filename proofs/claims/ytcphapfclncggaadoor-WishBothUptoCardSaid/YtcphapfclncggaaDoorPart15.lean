/- The layer wish: strings.Split at a comma, plain. The layer wish: what the document tells of MONITOR and WATCH, plain. The layer wish: WishBoth, plain. -/
import Derived.Lib.Bytealg
import Derived.Test.YtcphapfclncggaaDoorPart14
namespace Go.Proofs.YtcphapfclncggaaDoor.X
open Go.Proofs.YtcphapfclncggaaDoor.HL
set_option linter.unusedVariables false
/-- The words of a text: between its commas. -/
def words : List UInt8 → List (List UInt8)
 | [] => [[]]
 | b :: s => if b = 44 then [] :: words s else match words s with
  | [] => [[b]]
  | w :: ws => (b :: w) :: ws
def headW (b : UInt8) : List (List UInt8) → List (List UInt8)
 | [] => [[b]]
 | w :: ws => (b :: w) :: ws
theorem words_co (s : List UInt8) : words (44 :: s) = [] :: words s := by rw [words,if_pos rfl]
theorem words_nco {b : UInt8} (s : List UInt8) (h : b ≠ 44) : words (b :: s) = headW b (words s) := by
 rw [words,if_neg h]
 cases words s <;> rfl
theorem words_ne (s : List UInt8) : words s ≠ [] := by
 cases s with
 | nil => simp [words]
 | cons b s =>
  unfold words
  split
  ·simp
  ·cases words s <;> simp
theorem words_none {s : List UInt8} (h : 44 ∉ s) : words s = [s] := by
 induction s with
 | nil => rfl
 | cons b s ih =>
  simp only [List.mem_cons,not_or] at h
  rw [words,if_neg (fun e => h.1 e.symm),ih h.2]
theorem words_some {a s : List UInt8} (h : 44 ∉ a) : words (a ++ 44 :: s) = a :: words s := by
 induction a with
 | nil => rw [List.nil_append,words,if_pos rfl]
 | cons b a ih =>
  simp only [List.mem_cons,not_or] at h
  rw [List.cons_append,words,if_neg (fun e => h.1 e.symm),ih h.2]
theorem words_len (s : List UInt8) : (words s).length = s.count 44 + 1 := by
 induction s with
 | nil => rfl
 | cons b s ih =>
  unfold words
  by_cases hb : b = 44
  ·rw [if_pos hb]; subst hb; simp [ih]
  ·rw [if_neg hb]
   cases hw : words s with
   | nil => exact absurd hw (words_ne s)
   | cons w ws => rw [hw] at ih; simp at ih; simp [hb,ih]
theorem bidx_eq (s : List UInt8) (c : UInt8) : bidx s (c.toNat : Int) = Lib.indexByte s c := by
 have h : ((c.toNat : Int).toNat).toUInt8 = c := by simp
 rw [bidx,h,Lib.firstIdx_eq]
theorem ixb_none {s : List UInt8} {c : UInt8} (h : c ∉ s) : Lib.indexByte s c = -1 := by
 induction s with
 | nil => rfl
 | cons b s ih =>
  simp only [List.mem_cons,not_or] at h
  unfold Lib.indexByte
  rw [if_neg (by simpa using fun e => h.1 e.symm),ih h.2]
  rfl
theorem ixb_some {a s : List UInt8} {c : UInt8} (h : c ∉ a) : Lib.indexByte (a ++ c :: s) c = a.length := by
 induction a with
 | nil => simp [Lib.indexByte]
 | cons b a ih =>
  simp only [List.mem_cons,not_or] at h
  rw [List.cons_append]
  unfold Lib.indexByte
  rw [if_neg (by simpa using fun e => h.1 e.symm),ih h.2,if_neg (by simp)]
  simp
/-- A text has a byte not at all, or a first time. -/
theorem view (c : UInt8) (s : List UInt8) : c ∉ s ∨ ∃ a b,s = a ++ c :: b ∧ c ∉ a := by
 induction s with
 | nil => exact .inl (by simp)
 | cons x s ih =>
  by_cases h : x = c
  ·subst h; exact .inr ⟨[],s,rfl,by simp⟩
  ·rcases ih with h1 | ⟨a,b,rfl,h1⟩
   ·exact .inl (by simp [h1,Ne.symm h])
   ·exact .inr ⟨x :: a,b,rfl,by simp [h1,Ne.symm h]⟩
theorem index_one {k : Nat} {s : List UInt8} {c : UInt8} {S : HS} : internal_stringslite_Index.f k s [c] S = some (Lib.indexByte s c,S) := by
 unfold internal_stringslite_Index.f internal_stringslite_Index.J0
 rw [if_neg (by simp)]
 by_cases h : [c] = s
 ·rw [decide_eq_true h,if_pos rfl,← h]; simp [Lib.indexByte]
 ·rw [decide_eq_false h,if_neg (by simp),if_pos (by simp)]
  simp only [sat,Option.bind_some,internal_stringslite_IndexByte.f]
  simp [bidx_eq]
/-- What is left of a line. -/
def strRow (x : List UInt8) : List HV := [.str x]
theorem count_words (s : List UInt8) : (words s).length = Lib.countByte s 44 + 1 := words_len s
theorem cut_a {S : HS} {s sc : Sl} {l h : Int} {z : Nat} (hc : S.cut s l h z = some sc) {q : Nat × Nat} (hq : sc.a = some q) : ∃ p,s.a = some p ∧ p.1 = q.1 := by
 obtain ⟨sa,n,c⟩ := s
 unfold HS.cut at hc
 split at hc
 ·cases sa with
  | none =>
   simp only at hc
   split at hc
   ·cases hc; cases hq
   ·cases hc
  | some p =>
   obtain ⟨id,off⟩ := p
   simp only at hc
   split at hc
   ·split at hc
    ·cases hc; cases hq; exact ⟨_,rfl,rfl⟩
    ·cases hc
   ·cases hc
 ·cases hc
theorem split_end {k : Nat} {m : Nat} {S : HS} {sl : Sl} {done : List (List UInt8)} {s : List UInt8} (hV : Vec m S 1 sl ((done ++ [[]]).map strRow)) (hd : done.length ≤ 1000) :
  ∃ sc S',strings_genSplit.J2 k s sl (done.length : Int) S = some (sc,S') ∧ S'.rows sc 1 = some ((done ++ [s]).map strRow) ∧ sc.len = done.length + 1 ∧ Fr m S S' ∧ (∀ q,sc.a = some q → m ≤ q.1 ∧ q.1 < S'.next) := by
 obtain ⟨ad,S1,h1,h2,h3,h4,h5,h6,h7,h8⟩ := hV.set_ (i := done.length) (row := [HV.str s]) (by simp) (by simp [strRow])
 have hset : ((done ++ [[]]).map strRow).set done.length [HV.str s] = (done ++ [s]).map strRow := by
  simp [strRow]
 rw [hset] at h5
 have hw : w64 ((done.length : Int) + 1) = (((done ++ [s]).map strRow).length : Int) := by rw [w64_id (by omega) (by omega)]; simp
 obtain ⟨sc,c1,c2⟩ := rows_cut h5.rows (m := 0) (Nat.zero_le _)
 refine ⟨sc,S1,?_,by simpa using c2,?_,h6,?_⟩
 ·rw [strings_genSplit.J2,h1,Option.bind_some,h4,Option.bind_some,hw]
  rw [show ((0 : Nat) : Int) = 0 from rfl] at c1
  rw [c1,Option.bind_some]
 ·have := rows_len c2; simpa using this.symm
 ·intro q hq
  obtain ⟨p,hp1,hp2⟩ := cut_a c1 hq
  have := h5.lo p hp1
  rw [← hp2]; exact this
theorem split_loop {k m : Nat} {sl : Sl} {n : Nat} (hn : n ≤ 1000) : ∀ (f : Nat) (done : List (List UInt8)) (s : List UInt8) (S : HS),n - done.length < f → done.length + (words s).length = n → s.length ≤ 1000 → Vec m S 1 sl ((done ++ List.replicate (n - done.length) []).map strRow) →
  ∃ sc S',strings_genSplit.L1 k f s [44] 0 ((n : Int) - 1) sl (done.length : Int) S = some (sc,S') ∧ S'.rows sc 1 = some ((done ++ words s).map strRow) ∧ sc.len = n ∧ Fr m S S' ∧ (∀ q,sc.a = some q → m ≤ q.1 ∧ q.1 < S'.next) := by
 intro f
 induction f with
 | zero => intro done s S h; omega
 | succ f ih =>
  intro done s S h hw hl hV
  have hpos : 0 < (words s).length := List.length_pos_iff.2 (words_ne s)
  unfold strings_genSplit.L1
  rcases view 44 s with hs | ⟨a,b,rfl,hs⟩
  ·have h1 : n = done.length + 1 := by rw [words_none hs] at hw; simpa using hw.symm
   have e1 : n - done.length = 1 := by omega
   rw [e1] at hV
   rw [if_neg (by omega),words_none hs]
   obtain ⟨sc,S',g1,g2,g3,g4,g5⟩ := split_end (k := k) (s := s) hV (by omega)
   exact ⟨sc,S',g1,g2,by omega,g4,g5⟩
  ·rw [words_some hs] at hw ⊢
   simp only [List.length_cons] at hw
   have hb : 0 < (words b).length := List.length_pos_iff.2 (words_ne b)
   simp at hl
   rw [if_pos (by omega)]
   unfold strings_Index.f
   rw [index_one,Option.bind_some,Option.bind_some,ixb_some hs]
   simp only []
   have hi : done.length < ((done ++ List.replicate (n - done.length) []).map strRow).length := by simp; omega
   obtain ⟨ad,S1,h1,h2,h3,h4,h5,h6,h7,h8⟩ := hV.set_ (i := done.length) (row := [HV.str a]) hi (by simp [strRow])
   have hset : ((done ++ List.replicate (n - done.length) ([] : List UInt8)).map strRow).set done.length [HV.str a] = ((done ++ [a]) ++ List.replicate (n - (done ++ [a]).length) []).map strRow := by
    have e : n - done.length = (n - (done ++ [a]).length) + 1 := by simp; omega
    rw [e,List.replicate_succ]
    simp [strRow]
   rw [hset] at h5
   have w0 : w64 ((a.length : Int) + 0) = (a.length : Int) := by rw [w64_id (by omega) (by omega)]; simp
   have w1 : w64 ((a.length : Int) + (([44] : List UInt8).length : Int)) = ((a.length + 1 : Nat) : Int) := by rw [w64_id (by simp; omega) (by simp; omega)]; simp
   have w2 : w64 ((done.length : Int) + 1) = ((done ++ [a]).length : Int) := by rw [w64_id (by omega) (by omega)]; simp
   have t1 : ssub (a ++ 44 :: b) 0 (a.length : Int) = a := by simp [ssub]
   have t2 : ssub (a ++ 44 :: b) ((a.length + 1 : Nat) : Int) ((a ++ 44 :: b).length : Int) = b := by
    simp only [ssub,Int.toNat_natCast]
    have e1 : (a ++ 44 :: b).drop (a.length + 1) = b := by simp [List.drop_append]
    rw [e1]
    exact List.take_of_length_le (by simp; omega)
   rw [if_neg (by omega),w0,w1,w2,if_pos ⟨by omega,by omega,by simp; omega⟩,h1,Option.bind_some,t1,h4,Option.bind_some,if_pos ⟨by omega,by simp; omega,by omega⟩,t2]
   obtain ⟨sc,S',g1,g2,g3,g4,g5⟩ := ih (done ++ [a]) b S1 (by simp; omega) (by simp; omega) (by omega) h5
   exact ⟨sc,S',g1,by simpa using g2,g3,h6.trans g4,g5⟩
theorem split_spec {k : Nat} {x : List UInt8} {S : HS} (hx : x.length ≤ 900) (hk : 2000 ≤ k) :
  ∃ sc S',strings_Split.f k x [44] S = some (sc,S') ∧ S'.rows sc 1 = some ((words x).map strRow) ∧ sc.len = (words x).length ∧ Fr S.next S S' ∧ (∀ q,sc.a = some q → S.next ≤ q.1 ∧ q.1 < S'.next) := by
 have hc := count_words x
 have hcl : Lib.countByte x 44 ≤ x.length := List.count_le_length
 have hn1 : w64 ((Lib.countByte x 44 : Int) + 1) = ((words x).length : Int) := by rw [w64_id (by omega) (by omega)]; omega
 have hn2 : mn ((words x).length : Int) (w64 ((x.length : Int) + 1)) = ((words x).length : Int) := by
  rw [w64_id (by omega) (by omega)]
  unfold mn
  split <;> omega
 have hn3 : w64 (((words x).length : Int) - 1) = ((words x).length : Int) - 1 := w64_id (by omega) (by omega)
 obtain ⟨sl,S1,e1,v1,f1⟩ := Vec.makeN (m := S.next) (S := S) (n := (words x).length) (c := (words x).length) (zr := [.str []]) (Nat.le_refl _) (Nat.le_refl _) (by omega)
 unfold strings_Split.f strings_genSplit.f
 rw [if_neg (by decide),if_neg (by simp),if_pos (by decide)]
 have hcount : strings_Count.f x [44] = some (Lib.countByte x 44 : Int) := rfl
 rw [hcount,Option.bind_some,hn1,strings_genSplit.J0,hn2,e1,Option.bind_some,hn3]
 have hv : Vec S.next S1 1 sl ((([] : List (List UInt8)) ++ List.replicate ((words x).length - ([] : List (List UInt8)).length) []).map strRow) := by
  simpa [strRow] using v1
 obtain ⟨sc,S',g1,g2,g3,g4,g5⟩ := split_loop (k := k) (n := (words x).length) (by omega) k [] x S1 (by simp; omega) (by simp) (by omega) hv
 refine ⟨sc,S',?_,by simpa using g2,g3,f1.trans g4,g5⟩
 rw [show ((([] : List (List UInt8)).length : Nat) : Int) = 0 from rfl] at g1
 rw [g1,Option.bind_some]
end Go.Proofs.YtcphapfclncggaaDoor.X
namespace Go.Proofs.YtcphapfclncggaaDoor.X
open Go.Proofs.YtcphapfclncggaaDoor.HL
set_option linter.unusedVariables false
/-! ### the letter of a text -/
def sing (signs : List UInt8) (s : List UInt8) : Int := match s with
 | [c] => if c = 99 ∨ c = 67 then 67 else if c = 108 ∨ c = 76 then 76 else if c = 115 ∨ c = 83 then 83 else if c ∈ signs then c.toNat else 0
 | _ => 0
theorem sing_one (signs : List UInt8) (c : UInt8) : sing signs [c] = (if c = 99 ∨ c = 67 then 67 else if c = 108 ∨ c = 76 then 76 else if c = 115 ∨ c = 83 then 83 else if c ∈ signs then (c.toNat : Int) else 0 : Int) := rfl
theorem ixb_pos {s : List UInt8} {c : UInt8} : (0 ≤ Lib.indexByte s c) = (c ∈ s) := by
 apply propext
 constructor
 ·intro h
  apply Classical.byContradiction
  intro hn
  rw [ixb_none hn] at h
  omega
 ·intro h
  rcases view c s with hn | ⟨a,b,rfl,hn⟩
  ·exact absurd h hn
  ·rw [ixb_some hn]; omega
theorem low3 (c : UInt8) : (c = 99 ∧ Lib.indexByte [99,108,115] c = 0) ∨ (c = 108 ∧ Lib.indexByte [99,108,115] c = 1) ∨ (c = 115 ∧ Lib.indexByte [99,108,115] c = 2) ∨ (c ≠ 99 ∧ c ≠ 108 ∧ c ≠ 115 ∧ Lib.indexByte [99,108,115] c = -1) :=
 all_bytes (p := fun c => (c = 99 ∧ Lib.indexByte [99,108,115] c = 0) ∨ (c = 108 ∧ Lib.indexByte [99,108,115] c = 1) ∨ (c = 115 ∧ Lib.indexByte [99,108,115] c = 2) ∨ (c ≠ 99 ∧ c ≠ 108 ∧ c ≠ 115 ∧ Lib.indexByte [99,108,115] c = -1)) (by decide +kernel) c
theorem single_spec {k : Nat} {s signs : List UInt8} {S : HS} (hs : signs.length ≤ 10) (hb : ∀ c ∈ signs,c ≠ 99 ∧ c ≠ 108 ∧ c ≠ 115 ∧ c ≠ 67 ∧ c ≠ 76 ∧ c ≠ 83) : wish_single.f k s signs S = some (sing signs s,S) := by
 unfold wish_single.f
 by_cases h1 : s.length = 1
 ·obtain ⟨c,rfl⟩ : ∃ c,s = [c] := List.length_eq_one_iff.1 h1
  rw [if_neg (by simp),show sat [c] 0 = some c from rfl,Option.bind_some,strings_IndexByte.f,internal_stringslite_IndexByte.f,Option.bind_some,Option.bind_some]
  rw [bidx_eq]
  rcases low3 c with ⟨rfl,e⟩ | ⟨rfl,e⟩ | ⟨rfl,e⟩ | ⟨n1,n2,n3,e⟩
  ·rw [e,if_pos (by decide)]; rfl
  ·rw [e,if_pos (by decide)]; rfl
  ·rw [e,if_pos (by decide)]; rfl
  ·rw [e,if_neg (by decide),if_pos (by simp; omega),strings_Contains.f,strings_Index.f,index_one,Option.bind_some,Option.bind_some,Option.bind_some]
   have hp : decide (Lib.indexByte ([67,76,83] ++ signs) c ≥ 0) = decide (c ∈ ([67,76,83] ++ signs : List UInt8)) := by
    rw [decide_eq_decide,ge_iff_le,ixb_pos]
   simp only [hp]
   have hm : (c ∈ ([67,76,83] ++ signs : List UInt8)) ↔ (c = 67 ∨ c = 76 ∨ c = 83 ∨ c ∈ signs) := by simp
   by_cases hc : c ∈ ([67,76,83] ++ signs : List UInt8)
   ·rw [if_pos (by simpa using hc),Option.bind_some]
    have := hm.1 hc
    rw [sing_one]
    rcases this with rfl | rfl | rfl | h
    ·rfl
    ·rfl
    ·rfl
    ·obtain ⟨_,_,_,m1,m2,m3⟩ := hb c h
     rw [if_neg (by simp [n1,m1]),if_neg (by simp [n2,m2]),if_neg (by simp [n3,m3]),if_pos h]
   ·rw [if_neg (by simpa using hc)]
    have hn : ¬ (c = 67 ∨ c = 76 ∨ c = 83 ∨ c ∈ signs) := fun h => hc (hm.2 h)
    simp only [not_or] at hn
    rw [sing_one]
    rw [if_neg (by simp [n1,hn.1]),if_neg (by simp [n2,hn.2.1]),if_neg (by simp [n3,hn.2.2.1]),if_neg hn.2.2.2]
 ·have e0 : sing signs s = 0 := by
   unfold sing
   split
   ·simp at h1
   ·rfl
  rw [if_pos (by simpa using fun h => h1 (by omega)),e0]
/-! ### one more behind a slice that one alone holds -/
theorem app_lit {m z : Nat} {S : HS} {sl : Sl} {rows : List (List HV)} (row : List HV) (h : Vec m S z sl rows) (hm : m ≤ S.next) (hl : rows.length ≤ 100000) :
  (S.lit [row] z).2.rows (S.lit [row] z).1 z = some [row] ∧ ∃ s' S',(S.lit [row] z).2.app sl [row] z = some (s',S') ∧ Vec m S' z s' (rows ++ [row]) ∧ Fr m S S' := by
 refine ⟨(Vec.lit (n := m) (z := z) (S := S) [row] hm).rows,?_⟩
 have lf : Fr S.next S (S.lit [row] z).2 := lit_fr _ (Nat.le_refl _)
 obtain ⟨s',S',e1,v1,f1⟩ := (h.frame lf (Nat.le_refl _)).app (new := [row]) (Nat.le_trans hm lf.le) (by simp; omega)
 exact ⟨s',S',e1,v1,(lf.mono hm).trans f1⟩
theorem str_rows {S : HS} {s : Sl} {xs : List (List UInt8)} (h : S.rows s 1 = some (xs.map strRow)) {i : Nat} (hi : i < xs.length) : ∃ ad,S.idx s (i : Int) 1 = some ad ∧ S.ldS ad = some xs[i] := by
 obtain ⟨ad,h1,h2,h3⟩ := rows_idx h (i := i) (by simpa using hi)
 refine ⟨ad,h1,?_⟩
 exact row_ldS (j := 0) (ad := ad) h3 h2 (by simp [strRow])
theorem str_row0 {S : HS} {s : Sl} {x : List UInt8} {xs : List (List UInt8)} (h : S.rows s 1 = some ((x :: xs).map strRow)) : ∃ ad,S.idx s 0 1 = some ad ∧ S.ldS ad = some x :=
 str_rows h (i := 0) (by simp)
theorem str_row1 {S : HS} {s : Sl} {x y : List UInt8} {xs : List (List UInt8)} (h : S.rows s 1 = some ((x :: y :: xs).map strRow)) : ∃ ad,S.idx s 1 1 = some ad ∧ S.ldS ad = some y :=
 str_rows h (i := 1) (by simp)
def monB : List (List UInt8) → Int × List (List UInt8)
 | [] => (0,[])
 | p :: r => if sing [43,45] p = 43 ∨ sing [43,45] p = 45 then match r with
   | [] => (sing [43,45] p,[])
   | s :: _ => (sing [43,45] p,(words s).filter nickB)
  else (sing [43,45] p,[])
theorem monB_no {p : List UInt8} {r : List (List UInt8)} (h : ¬ (sing [43,45] p = 43 ∨ sing [43,45] p = 45)) : monB (p :: r) = (sing [43,45] p,[]) := by
 unfold monB; simp only [if_neg h]
theorem vec_mono {n m z : Nat} {S : HS} {s : Sl} {rows : List (List HV)} (h : Vec n S z s rows) (hm : m ≤ n) : Vec m S z s rows := by
 cases h with
 | nil => exact .nil
 | open_ h hn hl => exact .open_ h (by omega) hl
 | capped h hn hl hc hr ht => exact .capped h (by omega) hl hc hr ht
theorem words_mem {s w : List UInt8} : w ∈ words s → w.length ≤ s.length := by
 induction s generalizing w with
 | nil => intro h; simp [words] at h; subst h; simp
 | cons b s ih =>
  intro h
  by_cases hb : b = 44
  ·subst hb
   rw [words_co] at h
   rcases List.mem_cons.1 h with rfl | h
   ·simp
   ·have := ih h; simp; omega
  ·rw [words_nco _ hb] at h
   cases hw : words s with
   | nil => exact absurd hw (words_ne s)
   | cons w0 ws =>
    rw [hw,headW] at h
    rcases List.mem_cons.1 h with rfl | h
    ·have := ih (w := w0) (by rw [hw]; simp); simp; omega
    ·have := ih (w := w) (by rw [hw]; simp [h]); simp; omega
theorem mon_loop {k m : Nat} {op : Int} {ws : List (List UInt8)} {y30 : Sl} (hk : 2000 ≤ k) (hn : ws.length ≤ 1000) (hw : ∀ w ∈ ws,w.length ≤ 1000) (hq : ∀ q,y30.a = some q → q.1 < m) :
  ∀ (f i : Nat) (out : Sl) (S : HS),ws.length - i < f → i ≤ ws.length → m ≤ S.next → S.rows y30 1 = some (ws.map strRow) → Vec m S 1 out (((ws.take i).filter nickB).map strRow) →
   ∃ out' S',wish_Monitor.L2 k f op out y30 (ws.length : Int) (i : Int) S = some ((op,out'),S') ∧ Vec m S' 1 out' ((ws.filter nickB).map strRow) ∧ Fr m S S' := by
 intro f
 induction f with
 | zero => intro i out S h; omega
 | succ f ih =>
  intro i out S h hi hm hr hV
  rw [wish_Monitor.L2]
  by_cases hlt : i < ws.length
  ·obtain ⟨ad,a1,a2⟩ := str_rows hr hlt
   obtain ⟨S1,e1,f1⟩ := nick_spec (k := k) (m := S.next) (x := ws[i]) (S := S) (hw _ (List.getElem_mem hlt)) hk (Nat.le_refl _)
   have hi1 : w64 ((i : Int) + 1) = ((i + 1 : Nat) : Int) := by rw [w64_id (by omega) (by omega)]; simp
   have f1m := f1.mono hm
   have hr1 : S1.rows y30 1 = some (ws.map strRow) := rows_same hr fun p hp => f1m.eq _ (hq p hp)
   have hV1 := hV.frame f1 (Nat.le_refl _)
   have hl1 : m ≤ S1.next := Nat.le_trans hm f1.le
   rw [if_pos (by omega),a1,Option.bind_some,a2,Option.bind_some,e1,Option.bind_some]
   by_cases hb : nickB ws[i] = true
   ·obtain ⟨l1,s',S2,l2,v2,f2⟩ := app_lit [.str ws[i]] hV1 hl1 (by
     have : ((ws.take i).filter nickB).length ≤ (ws.take i).length := List.length_filter_le _ _
     simp at this ⊢; omega)
    rw [hb,if_neg (by simp),letv,l1,Option.bind_some,l2,Option.bind_some,wish_Monitor.J3,hi1]
    have e : (ws.take (i + 1)).filter nickB = (ws.take i).filter nickB ++ [ws[i]] := by
     rw [List.take_succ_eq_append_getElem hlt,List.filter_append,List.filter_cons_of_pos hb,List.filter_nil]
    have hr2 : S2.rows y30 1 = some (ws.map strRow) := rows_same hr1 fun p hp => f2.eq _ (hq p hp)
    obtain ⟨out',S',g1,g2,g3⟩ := ih (i + 1) s' S2 (by omega) (by omega) (Nat.le_trans hl1 f2.le) hr2 (by rw [e,List.map_append]; exact v2)
    exact ⟨out',S',g1,g2,(f1m.trans f2).trans g3⟩
   ·have hb' : nickB ws[i] = false := by simpa using hb
    rw [hb',if_pos (by simp),wish_Monitor.J3,hi1]
    have e : (ws.take (i + 1)).filter nickB = (ws.take i).filter nickB := by
     rw [List.take_succ_eq_append_getElem hlt,List.filter_append,List.filter_cons_of_neg hb,List.filter_nil,List.append_nil]
    obtain ⟨out',S',g1,g2,g3⟩ := ih (i + 1) out S1 (by omega) (by omega) hl1 hr1 (by rw [e]; exact hV1)
    exact ⟨out',S',g1,g2,f1m.trans g3⟩
  ·obtain rfl : i = ws.length := by omega
   rw [List.take_length] at hV
   rw [if_neg (by omega)]
   exact ⟨out,S,rfl,hV,Fr.refl _ _⟩
theorem mon_signs : ∀ c ∈ ([43,45] : List UInt8),c ≠ 99 ∧ c ≠ 108 ∧ c ≠ 115 ∧ c ≠ 67 ∧ c ≠ 76 ∧ c ≠ 83 := by decide
theorem mon_spec {k : Nat} {xs : List (List UInt8)} {x0 : Sl} {S : HS} (hk : 2000 ≤ k) (hx : ∀ x ∈ xs,x.length ≤ 100) (hr : S.rows x0 1 = some (xs.map strRow)) :
  ∃ out S',wish_Monitor.f k x0 S = some (((monB xs).1,out),S') ∧ Vec S.next S' 1 out ((monB xs).2.map strRow) ∧ Fr S.next S S' := by
 have hlen : x0.len = xs.length := by have := rows_len hr; simpa using this.symm
 rw [wish_Monitor.f]
 cases xs with
 | nil =>
  rw [if_pos (by rw [hlen]; rfl)]
  exact ⟨Sl.nil,S,rfl,.nil,Fr.refl _ _⟩
 | cons p r =>
  obtain ⟨ad,a1,a2⟩ := str_row0 hr
  rw [if_neg (by rw [hlen]; simp; omega),a1,Option.bind_some,a2,Option.bind_some,single_spec (by decide) mon_signs,Option.bind_some]
  have last : (sing [43,45] p = 43 ∨ sing [43,45] p = 45) → ∃ out S',wish_Monitor.J0 k x0 (sing [43,45] p) false S = some (((monB (p :: r)).1,out),S') ∧ Vec S.next S' 1 out ((monB (p :: r)).2.map strRow) ∧ Fr S.next S S' := by
   intro hop
   rw [wish_Monitor.J0,if_neg (by simp),wish_Monitor.J1]
   cases r with
   | nil =>
    rw [if_pos (by rw [hlen]; simp),monB,if_pos hop]
    exact ⟨Sl.nil,S,rfl,.nil,Fr.refl _ _⟩
   | cons s r =>
    obtain ⟨ad2,b1,b2⟩ := str_row1 hr
    have hs : s.length ≤ 100 := hx s (by simp)
    obtain ⟨sc,S1,g1,g2,g3,g4,g5⟩ := split_spec (k := k) (x := s) (S := S) (by omega) hk
    have hwl : (words s).length ≤ 101 := by rw [words_len]; have : s.count 44 ≤ s.length := List.count_le_length; omega
    obtain ⟨out,S2,m1,m2,m3⟩ := mon_loop (k := k) (m := S1.next) (op := sing [43,45] p) (ws := words s) (y30 := sc) hk (by omega) (fun w hw => by have := words_mem hw; omega) (fun q hq => (g5 q hq).2) k 0 Sl.nil S1 (by omega) (Nat.zero_le _) (Nat.le_refl _) g2 (by rw [List.take_zero]; exact .nil)
    rw [if_neg (by rw [hlen]; simp; omega),b1,Option.bind_some,b2,Option.bind_some,g1,Option.bind_some,g3,monB,if_pos hop]
    rw [show ((0 : Nat) : Int) = 0 from rfl] at m1
    refine ⟨out,S2,m1,?_,g4.trans (m3.mono g4.le)⟩
    exact vec_mono m2 g4.le
  by_cases h43 : sing [43,45] p = 43
  ·rw [h43,if_neg (by simp),← h43]
   exact last (.inl h43)
  ·rw [if_pos (by simpa using h43)]
   by_cases h45 : sing [43,45] p = 45
   ·rw [h45,show (!decide ((45 : Int) = 45)) = false by simp,← h45]
    exact last (.inr h45)
   ·rw [show (!decide (sing [43,45] p = 45)) = true by simpa using h45,wish_Monitor.J0,if_pos rfl,wish_Monitor.J1,if_pos rfl,monB_no (by rintro (h | h); exact h43 h; exact h45 h)]
    exact ⟨Sl.nil,S,rfl,.nil,Fr.refl _ _⟩
def wishRow (x : Int × List UInt8) : List HV := [.int .u8 x.1,.str x.2]
def watch1 (s : List UInt8) : List (Int × List UInt8) :=
 if sing [] s ≠ 0 then [(sing [] s,[])] else match s with
  | c :: t => if (c = 43 ∨ c = 45) ∧ nickB t = true then [((c.toNat : Int),t)] else []
  | [] => []
def watB (xs : List (List UInt8)) : List (Int × List UInt8) := if xs = [] then [(76,[])] else xs.flatMap watch1
theorem watch1_len (s : List UInt8) : (watch1 s).length ≤ 1 := by
 unfold watch1
 split
 ·simp
 ·split
  ·split <;> simp
  ·simp
theorem watch1_cons {c : UInt8} {t : List UInt8} (h : sing [] (c :: t) = 0) : watch1 (c :: t) = if (c = 43 ∨ c = 45) ∧ nickB t = true then [((c.toNat : Int),t)] else [] := by
 unfold watch1; rw [if_neg (by simpa using h)]
theorem flat_len (xs : List (List UInt8)) : (xs.flatMap watch1).length ≤ xs.length := by
 induction xs with
 | nil => simp
 | cons x xs ih => have := watch1_len x; rw [List.flatMap_cons,List.length_append,List.length_cons]; omega
theorem u8_ok {z : Int} (c : UInt8) : ((c.toNat : Int) = 43 ↔ c = 43) ∧ ((c.toNat : Int) = 45 ↔ c = 45) := all_bytes (p := fun c => ((c.toNat : Int) = 43 ↔ c = 43) ∧ ((c.toNat : Int) = 45 ↔ c = 45)) (by decide +kernel) c
theorem cons_sub (c : UInt8) (t : List UInt8) : ssub (c :: t) 1 ((c :: t).length : Int) = t := by
 simp only [ssub,Int.toNat_natCast]
 exact List.take_of_length_le (by simp)
theorem watch_loop {k m : Nat} {xs : List (List UInt8)} {x0 : Sl} (hk : 2000 ≤ k) (hn : xs.length ≤ 1000) (hx : ∀ x ∈ xs,x.length ≤ 100) (hq : ∀ q,x0.a = some q → q.1 < m) :
  ∀ (f i : Nat) (out : Sl) (S : HS),xs.length - i < f → i ≤ xs.length → m ≤ S.next → S.rows x0 1 = some (xs.map strRow) → Vec m S 2 out (((xs.take i).flatMap watch1).map wishRow) →
   ∃ out' S',wish_Watch.L0 k f out x0 (xs.length : Int) (i : Int) S = some (out',S') ∧ Vec m S' 2 out' ((xs.flatMap watch1).map wishRow) ∧ Fr m S S' := by
 intro f
 induction f with
 | zero => intro i out S h; omega
 | succ f ih =>
  intro i out S h hi hm hr hV
  rw [wish_Watch.L0]
  by_cases hlt : i < xs.length
  ·obtain ⟨ad,a1,a2⟩ := str_rows hr hlt
   have hi1 : w64 ((i : Int) + 1) = ((i + 1 : Nat) : Int) := by rw [w64_id (by omega) (by omega)]; simp
   have hxi := hx _ (List.getElem_mem hlt)
   have et : (xs.take (i + 1)).flatMap watch1 = (xs.take i).flatMap watch1 ++ watch1 xs[i] := by
    rw [List.take_succ_eq_append_getElem hlt,List.flatMap_append]; simp
   have hfl : (((xs.take i).flatMap watch1).map wishRow).length ≤ 1000 := by have := flat_len (xs.take i); rw [List.length_map]; rw [List.length_take] at this; omega
   rw [if_pos (by omega),a1,Option.bind_some,a2,Option.bind_some,single_spec (by decide) (by simp),Option.bind_some]
   generalize hs : xs[i] = s at *
   -- one more behind
   have more : ∀ (row : Int × List UInt8) (S1 : HS) (f1 : Fr m S S1) (hV1 : Vec m S1 2 out (((xs.take i).flatMap watch1).map wishRow)) (hm1 : m ≤ S1.next) (he : watch1 s = [row]),
     ∃ out' S',(letv (HS.lit S1 [wishRow row] 2) fun p8 => Option.bind (HS.rows (p8.2) (p8.1) 2) fun p9 => Option.bind (HS.app (p8.2) out p9 2) fun p10 => wish_Watch.J1 k (wish_Watch.L0 k f) (p10.1) x0 (xs.length : Int) (i : Int) (p10.2)) = some (out',S') ∧ Vec m S' 2 out' ((xs.flatMap watch1).map wishRow) ∧ Fr m S S' := by
    intro row S1 f1 hV1 hm1 he
    obtain ⟨l1,s',S2,l2,v2,f2⟩ := app_lit (wishRow row) hV1 hm1 (by omega)
    rw [letv,l1,Option.bind_some,l2,Option.bind_some,wish_Watch.J1,hi1]
    obtain ⟨out',S',g1,g2,g3⟩ := ih (i + 1) s' S2 (by omega) (by omega) (Nat.le_trans hm1 f2.le) (rows_same hr fun q h => (f1.trans f2).eq _ (hq q h)) (by rw [et,he,List.map_append]; exact v2)
    exact ⟨out',S',g1,g2,(f1.trans f2).trans g3⟩
   have none_ : ∀ (S1 : HS) (f1 : Fr m S S1) (hV1 : Vec m S1 2 out (((xs.take i).flatMap watch1).map wishRow)) (hm1 : m ≤ S1.next) (he : watch1 s = []),
     ∃ out' S',wish_Watch.J1 k (wish_Watch.L0 k f) out x0 (xs.length : Int) (i : Int) S1 = some (out',S') ∧ Vec m S' 2 out' ((xs.flatMap watch1).map wishRow) ∧ Fr m S S' := by
    intro S1 f1 hV1 hm1 he
    rw [wish_Watch.J1,hi1]
    obtain ⟨out',S',g1,g2,g3⟩ := ih (i + 1) out S1 (by omega) (by omega) hm1 (rows_same hr fun q h => f1.eq _ (hq q h)) (by rw [et,he,List.append_nil]; exact hV1)
    exact ⟨out',S',g1,g2,f1.trans g3⟩
   by_cases h0 : sing [] s = 0
   ·rw [if_neg (by simp [h0])]
    cases s with
    | nil =>
     rw [if_neg (by simp),wish_Watch.J3,if_neg (by simp),wish_Watch.J4,if_neg (by simp)]
     exact none_ S (Fr.refl _ _) hV hm (by unfold watch1; rw [if_neg (by simpa using h0)])
    | cons c t =>
     have sign : (c = 43 ∨ c = 45) → ∃ out' S',wish_Watch.J3 k (wish_Watch.L0 k f) out (c :: t) x0 (xs.length : Int) (i : Int) true S = some (out',S') ∧ Vec m S' 2 out' ((xs.flatMap watch1).map wishRow) ∧ Fr m S S' := by
      intro hc
      simp only [List.length_cons] at hxi
      obtain ⟨S1,e1,f1⟩ := nick_spec (k := k) (m := S.next) (x := t) (S := S) (by omega) hk (Nat.le_refl _)
      rw [wish_Watch.J3,if_pos rfl,if_pos ⟨by omega,by simp; omega,by omega⟩,cons_sub,e1,Option.bind_some,wish_Watch.J4]
      by_cases hb : nickB t = true
      ·rw [if_pos hb,show sat (c :: t) 0 = some c from rfl,Option.bind_some,if_pos ⟨by omega,by simp; omega,by omega⟩,cons_sub]
       exact more ((c.toNat : Int),t) S1 (f1.mono hm) (hV.frame f1 (Nat.le_refl _)) (Nat.le_trans hm f1.le) (by rw [watch1_cons h0,if_pos ⟨hc,hb⟩])
      ·rw [if_neg hb]
       exact none_ S1 (f1.mono hm) (hV.frame f1 (Nat.le_refl _)) (Nat.le_trans hm f1.le) (by rw [watch1_cons h0,if_neg (fun h => hb h.2)])
     have plain : ¬ (c = 43 ∨ c = 45) → ∃ out' S',wish_Watch.J3 k (wish_Watch.L0 k f) out (c :: t) x0 (xs.length : Int) (i : Int) false S = some (out',S') ∧ Vec m S' 2 out' ((xs.flatMap watch1).map wishRow) ∧ Fr m S S' := by
      intro hc
      rw [wish_Watch.J3,if_neg (by simp),wish_Watch.J4,if_neg (by simp)]
      exact none_ S (Fr.refl _ _) hV hm (by rw [watch1_cons h0,if_neg (fun h => hc h.1)])
     obtain ⟨u1,u2⟩ := u8_ok (z := 0) c
     rw [if_pos (by simp),show sat (c :: t) 0 = some c from rfl,Option.bind_some]
     by_cases h43 : c = 43
     ·rw [if_pos (u1.2 h43),wish_Watch.J2,if_pos (by simp)]
      exact sign (.inl h43)
     ·rw [if_neg (fun e => h43 (u1.1 e)),Option.bind_some,wish_Watch.J2,if_pos (by simp)]
      by_cases h45 : c = 45
      ·rw [decide_eq_true (u2.2 h45)]; exact sign (.inr h45)
      ·rw [decide_eq_false (fun e => h45 (u2.1 e))]; exact plain (by rintro (h | h); exact h43 h; exact h45 h)
   ·rw [if_pos (by simpa using h0)]
    exact more (sing [] s,[]) S (Fr.refl _ _) hV hm (by unfold watch1; rw [if_pos h0])
  ·obtain rfl : i = xs.length := by omega
   rw [List.take_length] at hV
   rw [if_neg (by omega)]
   exact ⟨out,S,rfl,hV,Fr.refl _ _⟩
theorem watch_spec {k : Nat} {xs : List (List UInt8)} {x0 : Sl} {S : HS} (hk : 2000 ≤ k) (hn : xs.length ≤ 1000) (hx : ∀ x ∈ xs,x.length ≤ 100) (hr : S.rows x0 1 = some (xs.map strRow)) (hq : ∀ q,x0.a = some q → q.1 < S.next) :
  ∃ out S',wish_Watch.f k x0 S = some (out,S') ∧ Vec S.next S' 2 out ((watB xs).map wishRow) ∧ Fr S.next S S' := by
 have hlen : x0.len = xs.length := by have := rows_len hr; simpa using this.symm
 rw [wish_Watch.f]
 by_cases h0 : xs = []
 ·subst h0
  rw [if_pos (by rw [hlen]; rfl),letv]
  exact ⟨_,_,rfl,Vec.lit _ (Nat.le_refl _),lit_fr _ (Nat.le_refl _)⟩
 ·have : xs.length ≠ 0 := fun h => h0 (List.length_eq_zero_iff.1 h)
  rw [if_neg (by rw [hlen]; omega),hlen]
  obtain ⟨out,S',g1,g2,g3⟩ := watch_loop (k := k) (m := S.next) hk hn hx hq k 0 Sl.nil S (by omega) (Nat.zero_le _) (Nat.le_refl _) hr (by rw [List.take_zero]; exact .nil)
  exact ⟨out,S',g1,by unfold watB; rw [if_neg h0]; exact g2,g3⟩
theorem texts_loop {k : Nat} {xs : List (List UInt8)} {x y : Sl} {S : HS} (hn : xs.length ≤ 1000) (h1 : S.rows x 1 = some (xs.map strRow)) (h2 : S.rows y 1 = some (xs.map strRow)) :
  ∀ (f i : Nat),xs.length - i < f → i ≤ xs.length → rollcallref01_Texts.L0 k f x y (i : Int) S = some (true,S) := by
 have hl : x.len = xs.length := by have := rows_len h1; simpa using this.symm
 intro f
 induction f with
 | zero => intro i h; omega
 | succ f ih =>
  intro i h hi
  rw [rollcallref01_Texts.L0]
  by_cases hlt : i < xs.length
  ·obtain ⟨a1,b1,c1⟩ := str_rows h1 hlt
   obtain ⟨a2,b2,c2⟩ := str_rows h2 hlt
   have hi1 : w64 ((i : Int) + 1) = ((i + 1 : Nat) : Int) := by rw [w64_id (by omega) (by omega)]; simp
   rw [if_pos (by omega),b1,Option.bind_some,c1,Option.bind_some,b2,Option.bind_some,c2,Option.bind_some,if_neg (by simp),hi1]
   exact ih (i + 1) (by omega) (by omega)
  ·rw [if_neg (by omega)]
theorem texts_spec {k : Nat} {xs : List (List UInt8)} {x y : Sl} {S : HS} (hk : 2000 ≤ k) (hn : xs.length ≤ 1000) (h1 : S.rows x 1 = some (xs.map strRow)) (h2 : S.rows y 1 = some (xs.map strRow)) : rollcallref01_Texts.f k x y S = some (true,S) := by
 have hl1 : x.len = xs.length := by have := rows_len h1; simpa using this.symm
 have hl2 : y.len = xs.length := by have := rows_len h2; simpa using this.symm
 rw [rollcallref01_Texts.f,hl1,hl2,if_neg (by simp)]
 exact texts_loop hn h1 h2 k 0 (by omega) (Nat.zero_le _)
theorem wish_rows {S : HS} {s : Sl} {xs : List (Int × List UInt8)} (h : S.rows s 2 = some (xs.map wishRow)) {i : Nat} (hi : i < xs.length) : ∃ ad,S.idx s (i : Int) 2 = some ad ∧ S.ldI .u8 (HA.fld ad 0) = some xs[i].1 ∧ S.ldS (HA.fld ad 1) = some xs[i].2 := by
 obtain ⟨ad,h1,h2,h3⟩ := rows_idx h (i := i) (by simpa using hi)
 rw [List.getElem_map] at h3
 exact ⟨ad,h1,row_ldI h3 h2 rfl,row_ldS h3 h2 rfl⟩
theorem ksame_wish (a : Int) (b : List UInt8) : kSames [(.int .u8 a),(.str b)] [(.int .u8 a),(.str b)] = some true := by simp [kSames,kSame1]
theorem awake_spec {S : HS} : ∃ S',rollcalllaw21_awake.f 2000 S = some (true,S') ∧ Fr S.next S S' := by
 rw [rollcalllaw21_awake.f,letv]
 have v1 : Vec S.next (S.lit ([[43],[97,110,110,44,44,49,120,44,98,111,98]].map strRow) 1).2 1 (S.lit ([[43],[97,110,110,44,44,49,120,44,98,111,98]].map strRow) 1).1 ([[43],[97,110,110,44,44,49,120,44,98,111,98]].map strRow) := Vec.lit _ (Nat.le_refl _)
 have f1 : Fr S.next S (S.lit ([[43],[97,110,110,44,44,49,120,44,98,111,98]].map strRow) 1).2 := lit_fr _ (Nat.le_refl _)
 have e0 : HS.lit S [[(.str ([43] : List UInt8))],[(.str ([97,110,110,44,44,49,120,44,98,111,98] : List UInt8))]] 1 = S.lit ([[43],[97,110,110,44,44,49,120,44,98,111,98]].map strRow) 1 := rfl
 rw [e0]
 generalize S.lit ([[43],[97,110,110,44,44,49,120,44,98,111,98]].map strRow) 1 = P1 at v1 f1 ⊢
 obtain ⟨p1,S1⟩ := P1
 simp only at v1 f1 ⊢
 obtain ⟨out,S2,e2,v2,f2⟩ := mon_spec (k := 2000) (xs := [[43],[97,110,110,44,44,49,120,44,98,111,98]]) (x0 := p1) (S := S1) (Nat.le_refl _) (by decide) v1.rows
 rw [show monB [[43],[97,110,110,44,44,49,120,44,98,111,98]] = (43,[[97,110,110],[98,111,98]]) from by decide +kernel] at e2 v2
 rw [e2,Option.bind_some,letv]
 have e3 : HS.lit S2 [[(.str ([43,97,110,110] : List UInt8))],[(.str ([45,98,111,98] : List UInt8))],[(.str ([99] : List UInt8))],[(.str ([120] : List UInt8))]] 1 = S2.lit ([[43,97,110,110],[45,98,111,98],[99],[120]].map strRow) 1 := rfl
 have v3 : Vec S2.next (S2.lit ([[43,97,110,110],[45,98,111,98],[99],[120]].map strRow) 1).2 1 (S2.lit ([[43,97,110,110],[45,98,111,98],[99],[120]].map strRow) 1).1 ([[43,97,110,110],[45,98,111,98],[99],[120]].map strRow) := Vec.lit _ (Nat.le_refl _)
 have f3 : Fr S2.next S2 (S2.lit ([[43,97,110,110],[45,98,111,98],[99],[120]].map strRow) 1).2 := lit_fr _ (Nat.le_refl _)
 simp only
 rw [e3]
 generalize S2.lit ([[43,97,110,110],[45,98,111,98],[99],[120]].map strRow) 1 = P3 at v3 f3 ⊢
 obtain ⟨p3,S3⟩ := P3
 simp only at v3 f3 ⊢
 have v23 := v2.frame f3 (Nat.le_refl _)
 obtain ⟨wo,S4,e4,v4,f4⟩ := watch_spec (k := 2000) (xs := [[43,97,110,110],[45,98,111,98],[99],[120]]) (x0 := p3) (S := S3) (Nat.le_refl _) (by decide) (by decide) v3.rows (fun q hq => (v3.lo q hq).2)
 rw [show watB [[43,97,110,110],[45,98,111,98],[99],[120]] = [(43,[97,110,110]),(45,[98,111,98]),(67,[])] from by decide +kernel] at v4
 have v24 := v23.frame f4 (Nat.le_refl _)
 rw [e4,Option.bind_some,if_pos trivial,letv]
 have e5 : HS.lit S4 [[(.str ([97,110,110] : List UInt8))],[(.str ([98,111,98] : List UInt8))]] 1 = S4.lit ([[97,110,110],[98,111,98]].map strRow) 1 := rfl
 have v5 : Vec S4.next (S4.lit ([[97,110,110],[98,111,98]].map strRow) 1).2 1 (S4.lit ([[97,110,110],[98,111,98]].map strRow) 1).1 ([[97,110,110],[98,111,98]].map strRow) := Vec.lit _ (Nat.le_refl _)
 have f5 : Fr S4.next S4 (S4.lit ([[97,110,110],[98,111,98]].map strRow) 1).2 := lit_fr _ (Nat.le_refl _)
 simp only
 rw [e5]
 generalize S4.lit ([[97,110,110],[98,111,98]].map strRow) 1 = P5 at v5 f5 ⊢
 obtain ⟨p5,S5⟩ := P5
 simp only at v5 f5 ⊢
 have v25 := v24.frame f5 (Nat.le_refl _)
 have v45 := v4.frame f5 (Nat.le_refl _)
 rw [texts_spec (xs := [[97,110,110],[98,111,98]]) (Nat.le_refl _) (by decide) v25.rows v5.rows,Option.bind_some]
 have hl : wo.len = 3 := v45.len
 obtain ⟨a0,b0,c0,d0⟩ := wish_rows v45.rows (i := 0) (by simp)
 obtain ⟨a1,b1,c1,d1⟩ := wish_rows v45.rows (i := 1) (by simp)
 obtain ⟨a2,b2,c2,d2⟩ := wish_rows v45.rows (i := 2) (by simp)
 rw [show ((0 : Nat) : Int) = 0 from rfl] at b0
 rw [show ((1 : Nat) : Int) = 1 from rfl] at b1
 rw [show ((2 : Nat) : Int) = 2 from rfl] at b2
 simp only [List.getElem_cons_zero,List.getElem_cons_succ] at c0 d0 c1 d1 c2 d2
 rw [rollcalllaw21_awake.J0,if_pos rfl,hl,show decide (((3 : Nat) : Int) = 3) = true from rfl,rollcalllaw21_awake.J1,if_pos rfl,b0,Option.bind_some,c0,Option.bind_some,d0,Option.bind_some,ksame_wish,Option.bind_some]
 rw [rollcalllaw21_awake.J2,if_pos rfl,b1,Option.bind_some,c1,Option.bind_some,d1,Option.bind_some,ksame_wish,Option.bind_some]
 rw [rollcalllaw21_awake.J3,if_pos rfl,b2,Option.bind_some,c2,Option.bind_some,d2,Option.bind_some,ksame_wish,Option.bind_some,rollcalllaw21_awake.J4]
 have l1 := f1.le
 have l2 := f2.le
 have l3 := f3.le
 have l4 := f4.le
 exact ⟨S5,rfl,(((f1.trans (f2.mono l1)).trans (f3.mono (by omega))).trans (f4.mono (by omega))).trans (f5.mono (by omega))⟩
end Go.Proofs.YtcphapfclncggaaDoor.X
namespace Go.Proofs.YtcphapfclncggaaDoor.X
open Go.Proofs.YtcphapfclncggaaDoor.HL
set_option linter.unusedVariables false
set_option maxRecDepth 100000
theorem nodup_sub {α : Type} [DecidableEq α] : ∀ (l m : List α),l.Nodup → (∀ x ∈ l,x ∈ m) → l.length ≤ m.length := by
 intro l
 induction l with
 | nil => intro m _ _; simp
 | cons x l ih =>
  intro m hn hs
  have hn' := List.nodup_cons.1 hn
  have h1 := ih (m.erase x) hn'.2 fun y hy => (List.mem_erase_of_ne (by rintro rfl; exact hn'.1 hy)).2 (hs y (by simp [hy]))
  have hx := hs x (by simp)
  rw [List.length_erase_of_mem hx] at h1
  have := List.length_pos_of_mem hx
  rw [List.length_cons]; omega
/-! ### acts -/
abbrev Ac := Int × Int × List UInt8
def actRow (a : Ac) : List HV := [.int .i64 a.1,.int .i64 a.2.1,.str a.2.2]
theorem act_rows {S : HS} {s : Sl} {xs : List Ac} (h : S.rows s 3 = some (xs.map actRow)) {i : Nat} (hi : i < xs.length) : ∃ ad,S.idx s (i : Int) 3 = some ad ∧ S.ldI .i64 (HA.fld ad 0) = some xs[i].1 ∧ S.ldI .i64 (HA.fld ad 1) = some xs[i].2.1 ∧ S.ldS (HA.fld ad 2) = some xs[i].2.2 := by
 obtain ⟨ad,h1,h2,h3⟩ := rows_idx h (i := i) (by simpa using hi)
 rw [List.getElem_map] at h3
 exact ⟨ad,h1,row_ldI h3 h2 rfl,row_ldI h3 h2 rfl,row_ldS h3 h2 rfl⟩
theorem great_spec {S : HS} {s : Sl} {ls : List Ac} (hr : S.rows s 3 = some (ls.map actRow)) : ∃ b,rollcalllaw21_great.f 2000 s S = some (b,S) ∧ (b = false → ls.length ≤ 40 ∧ ∀ a ∈ ls,a.2.2.length ≤ 30) := by
 have hsl : (s.len : Int) = ls.length := by rw [← rows_len hr]; simp
 rw [rollcalllaw21_great.f,hsl]
 by_cases h40 : 40 < ls.length
 ·rw [if_pos (by omega)]; exact ⟨true,rfl,fun h => by cases h⟩
 rw [if_neg (by omega)]
 have hloop : ∀ f i,ls.length - i < f → i ≤ ls.length → (∀ a ∈ ls.take i,a.2.2.length ≤ 30) → ∃ b,rollcalllaw21_great.L0 2000 f s (i : Int) S = some (b,S) ∧ (b = false → ls.length ≤ 40 ∧ ∀ a ∈ ls,a.2.2.length ≤ 30) := by
  intro f
  induction f with
  | zero => intro i h; omega
  | succ f ih =>
   intro i hf hi hall
   rw [rollcalllaw21_great.L0,hsl]
   by_cases hlt : i < ls.length
   ·obtain ⟨ad,a1,a2,a3,a4⟩ := act_rows hr hlt
    rw [if_pos (by omega),a1,Option.bind_some,a4,Option.bind_some]
    by_cases hl : 30 < ls[i].2.2.length
    ·rw [if_pos (by omega)]; exact ⟨true,rfl,fun h => by cases h⟩
    ·rw [if_neg (by omega),w64_id (by omega) (by omega),show ((i : Int) + 1) = ((i + 1 : Nat) : Int) by simp]
     refine ih (i + 1) (by omega) (by omega) fun a ha => ?_
     rw [List.take_succ_eq_append_getElem hlt] at ha
     rcases List.mem_append.1 ha with h | h
     ·exact hall a h
     ·simp at h; subst h; omega
   ·obtain rfl : i = ls.length := by omega
    rw [List.take_length] at hall
    rw [if_neg (by omega)]
    exact ⟨false,rfl,fun _ => ⟨by omega,hall⟩⟩
 exact hloop 2000 0 (by omega) (Nat.zero_le _) (by simp)
theorem rows_acts : ∀ {rows : List (List HV)},(∀ row ∈ rows,RowFits [.int .i64,.int .i64,.str] row) → ∃ ls : List Ac,rows = ls.map actRow := by
 intro rows
 induction rows with
 | nil => intro _; exact ⟨[],rfl⟩
 | cons r rows ih =>
  intro h
  obtain ⟨ls,e⟩ := ih fun row hr => h row (by simp [hr])
  have h0 := h r (by simp)
  have hl := h0.len
  obtain ⟨v0,v1,v2,rfl⟩ : ∃ v0 v1 v2,r = [v0,v1,v2] := by
   match r,hl with
   | [a,b,c],_ => exact ⟨a,b,c,rfl⟩
  obtain ⟨q0,q1,q2,_⟩ := h0
  obtain ⟨n,h1,_⟩ := q0
  obtain ⟨m,h2,_⟩ := q1
  obtain ⟨s,h3,_⟩ := q2
  exact ⟨(n,m,s) :: ls,by rw [e,h1,h2,h3]; rfl⟩
/-! ### those on whose lists a name is -/
theorem WI.ex {w am r m1 m2 n : Nat} {most : Int} {E1 : List MA.En} {E2 : List MB.En} {X : List Wn} {S : HS} (h : WI w am r m1 m2 n most E1 E2 X S) (id : Int) : ∃ xs,KS.Srt xs ∧ ∀ v,v ∈ xs ↔ (id,v) ∈ X.map pk := by
 obtain ⟨xs,h1,h2,_⟩ := h.rel.at1 id
 exact ⟨xs,h1,h2⟩
theorem srt_nodupI {xs : List KI.Ky} (h : KI.Srt xs) : xs.Nodup := h.imp fun {a b} h e => by subst e; rw [KI.klt_irrefl] at h; cases h
theorem srt_nodupS {xs : List KS.Ky} (h : KS.Srt xs) : xs.Nodup := h.imp fun {a b} h e => by subst e; rw [KS.klt_irrefl] at h; cases h
theorem clients_w {w am r m1 m2 n : Nat} {most : Int} {E1 : List MA.En} {E2 : List MB.En} {X : List Wn} {S : HS} (h : WI w am r m1 m2 n most E1 E2 X S) (hX : X.length ≤ 99) (name : List UInt8) (hl : name.length ≤ 1000) :
  ∃ xs out S',rollcalllaw21_clients.f (disp 2000 4) (fun _ => none) 2000 (some (HA.cell0 w)) name S = some ((out,true),S') ∧ KI.Srt xs ∧ (∀ v,v ∈ xs ↔ (v,name.map low) ∈ X.map pk) ∧ S'.rows out 1 = some (xs.map KI.row1) ∧ (∀ q,out.a = some q → S.next ≤ q.1 ∧ q.1 < S'.next) ∧ Fr S.next S S' := by
 obtain ⟨xs,h1,h2,_⟩ := h.rel.at2 (name.map low)
 have hlen : xs.length ≤ 99 := by
  have := nodup_sub (xs.map fun v => ((v,name.map low) : Pr)) (X.map pk) (by
   rw [List.nodup_iff_pairwise_ne,List.pairwise_map]
   exact (srt_nodupI h1).imp fun h e => h (by simpa using e)) (fun y hy => by
   obtain ⟨v,hv,rfl⟩ := List.mem_map.1 hy
   exact (h2 v).1 hv)
  simp at this; omega
 obtain ⟨out,S',e,r1,q,f⟩ := KI.Clients.clients_spec (D := disp 2000 4) (xs := xs) (S := S) (r := some (HA.cell0 w)) (b := name) (fun T fT => by
  have hT := h.fr fT
  obtain ⟨S1,e1,f1⟩ := text_spec (k := 2000) (m := T.next) (x := name) (S := T) (by omega) (by omega) (Nat.le_refl _)
  have h1' := hT.fr f1
  obtain ⟨fn,u,v,S2,K,e2,t2,k2,f2⟩ := by_rel (nD := 2) h1'.rel (name.map low) h1 h2
  refine ⟨fn,u,v,S2,K,?_,t2,fun x hx => ?_,f1.trans (f2.mono f1.le)⟩
  ·rw [wish_Lists_By.f,if_neg (by simp),Option.bind_some,hT.ldp,Option.bind_some,e1,Option.bind_some,h1'.ldp,Option.bind_some,if_pos rfl,e2,Option.bind_some]
  ·have := k2 x hx; have := f1.le; omega) hlen
 exact ⟨xs,out,S',e,h1,h2,r1,q,f⟩
namespace KI
theorem refHas_spec {k : Nat} {s : Sl} {xs : List Ky} {t : Ky} {S : HS} (h : S.rows s 1 = some (xs.map row1)) (hl : xs.length < k) (hl2 : xs.length ≤ 1000000) : rollcallref10_Has.f k s t S = some (decide (t ∈ xs),S) := by
 have hsl : (s.len : Int) = xs.length := by rw [← rows_len h]; simp
 have hloop : ∀ f i,xs.length - i < f → i ≤ xs.length → rollcallref10_Has.L0 k f s t (i : Int) S = some (decide (t ∈ xs.drop i),S) := by
  intro f
  induction f with
  | zero => intro i h; omega
  | succ f ih =>
   intro i hf hi
   rw [rollcallref10_Has.L0,hsl]
   by_cases hlt : i < xs.length
   ·obtain ⟨ad,a1,a2⟩ := ldK_at h hlt
    rw [if_pos (by omega),a1,Option.bind_some,a2,Option.bind_some,List.drop_eq_getElem_cons hlt]
    by_cases he : xs[i] = t
    ·rw [if_pos he,decide_eq_true (by simp [he])]
    ·rw [if_neg he,w64_id (by omega) (by omega),show ((i : Int) + 1) = ((i + 1 : Nat) : Int) by simp,ih (i + 1) (by omega) (by omega)]
     have : (t ∈ xs[i] :: xs.drop (i + 1)) ↔ t ∈ xs.drop (i + 1) := by
      rw [List.mem_cons]; exact ⟨fun h => h.elim (fun e => absurd e.symm he) id,.inr⟩
     simp only [this]
   ·rw [if_neg (by omega),List.drop_of_length_le (by omega),decide_eq_false (by simp)]
 rw [rollcallref10_Has.f]
 exact (hloop k 0 (by omega) (Nat.zero_le _)).trans (by rw [List.drop_zero])
end KI
/-- As many as go are those of a client. -/
theorem clr_len {id : Int} {X : List Wn} {xs : List KS.Ky} (hn : (X.map pk).Nodup) (hs : KS.Srt xs) (hm : ∀ v,v ∈ xs ↔ (id,v) ∈ X.map pk) : (clr id X).length + xs.length = X.length := by
 have h1 : (X.filter fun x => decide (x.1 = id)).length = xs.length := by
  apply Nat.le_antisymm
  ·have := nodup_sub ((X.filter fun x => decide (x.1 = id)).map fun x => x.2.map low) xs (by
    rw [List.nodup_iff_pairwise_ne,List.pairwise_map]
    have hp : X.Pairwise fun a b => pk a ≠ pk b := by
     rw [List.nodup_iff_pairwise_ne,List.pairwise_map] at hn; exact hn
    have hp2 := hp.filter (fun x => decide (x.1 = id))
    refine List.Pairwise.imp_of_mem (fun {a b} ha hb h e => h ?_) hp2
    have h1 := (List.mem_filter.1 ha).2
    have h2 := (List.mem_filter.1 hb).2
    simp only [decide_eq_true_eq] at h1 h2
    simp [pk,h1,h2,e]) (fun y hy => by
    obtain ⟨x,hx,rfl⟩ := List.mem_map.1 hy
    obtain ⟨h1,h2⟩ := List.mem_filter.1 hx
    simp only [decide_eq_true_eq] at h2
    exact (hm _).2 (List.mem_map.2 ⟨x,h1,by simp [pk,h2]⟩))
   simpa using this
  ·have := nodup_sub xs ((X.filter fun x => decide (x.1 = id)).map fun x => x.2.map low) (srt_nodupS hs) (fun v hv => by
    obtain ⟨x,hx,e⟩ := List.mem_map.1 ((hm v).1 hv)
    simp only [pk,Prod.mk.injEq] at e
    exact List.mem_map.2 ⟨x,List.mem_filter.2 ⟨hx,by simp [e.1]⟩,e.2⟩)
   simpa using this
 have h2 : ∀ Y : List Wn,(Y.filter fun x => !decide (x.1 = id)).length + (Y.filter fun x => decide (x.1 = id)).length = Y.length := by
  intro Y
  induction Y with
  | nil => rfl
  | cons y Y ih =>
   by_cases h : y.1 = id
   ·rw [List.filter_cons_of_neg (by simp [h]),List.filter_cons_of_pos (by simp [h]),List.length_cons,List.length_cons]; omega
   ·rw [List.filter_cons_of_pos (by simp [h]),List.filter_cons_of_neg (by simp [h]),List.length_cons,List.length_cons]; omega
 have := h2 X
 unfold clr
 omega
/-! ### the loops -/
theorem rows_off {S S' : HS} {g z : Nat} {y : Sl} {rows : List (List HV)} (h : S.rows y z = some rows) (hy : ∀ q,y.a = some q → q.1 < g) (hk : ∀ id,id < g → S'.heap id = S.heap id) : S'.rows y z = some rows := rows_keep h fun q hq => hk q.1 (hy q hq)
theorem l4_loop {g w am r m1 m2 : Nat} {most : Int} {y0 : Sl} {ls : List Ac} (hls : ls.length ≤ 40) (hy : ∀ q,y0.a = some q → q.1 < g) :
  ∀ (f i : Nat) (n : Nat) (E1 : List MA.En) (E2 : List MB.En) (X : List Wn) (S : HS),ls.length - i < f → i ≤ ls.length → WI w am r m1 m2 n most E1 E2 X S → S.rows y0 3 = some (ls.map actRow) → (∀ id,OW w am r m1 m2 E1 E2 id → g ≤ id) → g ≤ S.next → (∀ x ∈ X,x.2.length ≤ 30) → (∀ x ∈ X,∃ j,∃ h : j < ls.length,i ≤ j ∧ ls[j].2.1 = x.1) → X.length ≤ 1000 →
   ∃ S',rollcalllaw21_WishBoth.L4 (disp 2000 4) (fun _ => none) 2000 f y0 (some (HA.cell0 w)) (X.length : Int) true (i : Int) S = some (true,S') := by
 intro f
 induction f with
 | zero => intro i n E1 E2 X S h; omega
 | succ f ih =>
  intro i n E1 E2 X S hf hi h hr hg hgn hl hX hXl
  have hsl : (y0.len : Int) = ls.length := by rw [← rows_len hr]; simp
  rw [rollcalllaw21_WishBoth.L4,hsl]
  by_cases hlt : i < ls.length
  ·obtain ⟨ad,a1,a2,a3,a4⟩ := act_rows hr hlt
   obtain ⟨xs,hs,hm⟩ := h.ex ls[i].2.1
   obtain ⟨F1,F2,S1,e1,h1,c1⟩ := WCl.clear_w h ls[i].2.1 hs hm (fun x hx => by have := hl x hx; omega)
   have hlen := clr_len h.rel.nd hs hm
   rw [if_pos (by omega),a1,Option.bind_some,a3,Option.bind_some,e1,Option.bind_some]
   simp only
   rw [w64_id (by omega) (by omega),w64_id (by omega) (by omega),show ((i : Int) + 1) = ((i + 1 : Nat) : Int) by simp,show ((X.length : Int) - (xs.length : Int)) = ((clr ls[i].2.1 X).length : Int) by omega]
   have hk : ∀ id,id < g → S1.heap id = S.heap id := fun id hid => c1.eq id (by omega) (fun ho => by have := hg id ho; omega)
   have hle := c1.le
   refine ih (i + 1) n F1 F2 _ S1 (by omega) (by omega) h1 (rows_off hr hy hk) (fun id ho => ?_) (by omega) (fun x hx => hl x (List.mem_filter.1 hx).1) (fun x hx => ?_) (by omega)
   ·rcases c1.own id ho with q | q
    ·exact hg id q
    ·omega
   ·obtain ⟨b1,b2⟩ := List.mem_filter.1 hx
    obtain ⟨j,hj,hij,e⟩ := hX x b1
    refine ⟨j,hj,?_,e⟩
    rcases Nat.lt_or_ge i j with q | q
    ·exact q
    ·obtain rfl : i = j := by omega
     simp [e] at b2
  ·have hnil : X = [] := by
    cases X with
    | nil => rfl
    | cons x X => obtain ⟨j,hj,hij,_⟩ := hX x (by simp); omega
   subst hnil
   rw [if_neg (by omega),if_pos rfl,rollcalllaw21_WishBoth.J5]
   exact ⟨S,rfl⟩
theorem l3_loop {g w am r m1 m2 n : Nat} {most : Int} {y0 y8 : Sl} {ls : List Ac} {name : List UInt8} {E1 : List MA.En} {E2 : List MB.En} {X : List Wn} {xs : List KI.Ky} (hls : ls.length ≤ 40) (hnm : name.length ≤ 30) (hy : ∀ q,y0.a = some q → q.1 < g) (hx : xs.length ≤ 99) (hm : ∀ v,v ∈ xs ↔ (v,name.map low) ∈ X.map pk) (hl : ∀ x ∈ X,x.2.length ≤ 30) (hX : ∀ x ∈ X,∃ j,∃ h : j < ls.length,ls[j].2.1 = x.1) (hXl : X.length ≤ 1000) (hg : ∀ id,OW w am r m1 m2 E1 E2 id → g ≤ id) :
  ∀ (f i : Nat) (S : HS),ls.length - i < f → i ≤ ls.length → WI w am r m1 m2 n most E1 E2 X S → S.rows y0 3 = some (ls.map actRow) → S.rows y8 1 = some (xs.map KI.row1) → (∀ q,y8.a = some q → q.1 < S.next) → g ≤ S.next →
   ∃ S',rollcalllaw21_WishBoth.L3 (disp 2000 4) (fun _ => none) 2000 f y0 name (some (HA.cell0 w)) (X.length : Int) y8 true (i : Int) S = some (true,S') := by
 intro f
 induction f with
 | zero => intro i S h; omega
 | succ f ih =>
  intro i S hf hi h hr h8 hq8 hgn
  have hsl : (y0.len : Int) = ls.length := by rw [← rows_len hr]; simp
  rw [rollcalllaw21_WishBoth.L3,hsl]
  by_cases hlt : i < ls.length
  ·obtain ⟨ad,a1,a2,a3,a4⟩ := act_rows hr hlt
   obtain ⟨S1,e1,f1⟩ := has_w (k := 2000) (Nat.le_refl _) h ls[i].2.1 name (by omega)
   rw [if_pos (by omega),a1,Option.bind_some,a3,Option.bind_some,KI.refHas_spec h8 (by omega) (by omega),Option.bind_some]
   simp only [a1,a3,Option.bind_some,if_true,e1]
   have e2 : decide (ls[i].2.1 ∈ xs) = decide ((ls[i].2.1,name.map low) ∈ X.map pk) := by rw [decide_eq_decide,hm]
   rw [e2,if_neg (by simp),w64_id (by omega) (by omega),show ((i : Int) + 1) = ((i + 1 : Nat) : Int) by simp]
   exact ih (i + 1) S1 (by omega) (by omega) (h.fr f1) (rows_off hr hy fun id hid => f1.eq id (by omega)) (rows_keep h8 fun q hq => f1.eq _ (hq8 q hq)) (fun q hq => Nat.lt_of_lt_of_le (hq8 q hq) f1.le) (Nat.le_trans hgn f1.le)
  ·rw [if_neg (by omega)]
   exact l4_loop hls hy 2000 0 n E1 E2 X S (by omega) (Nat.zero_le _) h hr hg hgn hl (fun x hx => by obtain ⟨j,hj,e⟩ := hX x hx; exact ⟨j,hj,Nat.zero_le _,e⟩) hXl
theorem l1_loop {g w am r m1 m2 : Nat} {most : Int} {y0 : Sl} {ls : List Ac} {name : List UInt8} (hls : ls.length ≤ 40) (hll : ∀ a ∈ ls,a.2.2.length ≤ 30) (hnm : name.length ≤ 30) (hy : ∀ q,y0.a = some q → q.1 < g) :
  ∀ (f i : Nat) (E1 : List MA.En) (E2 : List MB.En) (X : List Wn) (S : HS),ls.length - i < f → i ≤ ls.length → WI w am r m1 m2 i most E1 E2 X S → S.rows y0 3 = some (ls.map actRow) → (∀ id,OW w am r m1 m2 E1 E2 id → g ≤ id) → g ≤ S.next → (∀ x ∈ X,x.2.length ≤ 30) → (∀ x ∈ X,∃ j,∃ h : j < ls.length,ls[j].2.1 = x.1) →
   ∃ S',rollcalllaw21_WishBoth.L1 (disp 2000 4) (fun _ => none) 2000 f y0 name (some (HA.cell0 w)) (X.length : Int) (i : Int) S = some (true,S') := by
 intro f
 induction f with
 | zero => intro i E1 E2 X S h; omega
 | succ f ih =>
  intro i E1 E2 X S hf hi h hr hg hgn hl hX
  have hsl : (y0.len : Int) = ls.length := by rw [← rows_len hr]; simp
  have hXi : X.length ≤ i := by have := h.rel.ll; simpa using this
  rw [rollcalllaw21_WishBoth.L1,hsl]
  by_cases hlt : i < ls.length
  ·obtain ⟨ad,a1,a2,a3,a4⟩ := act_rows hr hlt
   have hw : w64 ((i : Int) + 1) = ((i + 1 : Nat) : Int) := by rw [w64_id (by omega) (by omega)]; simp
   have hli := hll _ (List.getElem_mem hlt)
   rw [if_pos (by omega),a1,Option.bind_some,a2,Option.bind_some]
   have go : ∀ (F1 : List MA.En) (F2 : List MB.En) (Y : List Wn) (S1 : HS),WI w am r m1 m2 (i + 1) most F1 F2 Y S1 → Chg (OW w am r m1 m2 E1 E2) (OW w am r m1 m2 F1 F2) S S1 → (∀ x ∈ Y,x.2.length ≤ 30) → (∀ x ∈ Y,∃ j,∃ h : j < ls.length,ls[j].2.1 = x.1) →
     ∃ S',rollcalllaw21_WishBoth.J2 (disp 2000 4) (fun _ => none) 2000 (rollcalllaw21_WishBoth.L1 (disp 2000 4) (fun _ => none) 2000 f) y0 name (some (HA.cell0 w)) (Y.length : Int) (i : Int) S1 = some (true,S') := by
    intro F1 F2 Y S1 h1 c1 hl1 hX1
    rw [rollcalllaw21_WishBoth.J2,hw]
    have hle := c1.le
    exact ih (i + 1) F1 F2 Y S1 (by omega) (by omega) h1 (rows_off hr hy fun id hid => c1.eq id (by omega) (fun ho => by have := hg id ho; omega)) (fun id ho => by
     rcases c1.own id ho with q | q
     ·exact hg id q
     ·omega) (by omega) hl1 hX1
   by_cases h1 : ls[i].1 = 1
   ·rw [if_pos h1,Option.bind_some,a3,Option.bind_some,Option.bind_some,a4,Option.bind_some]
    obtain ⟨F1,F2,S1,e1,q1,c1⟩ := remove_w (k := 2000) (Nat.le_refl _) h ls[i].2.1 ls[i].2.2 (by omega)
    have q2 := q1.mono (n' := i + 1) (by omega) (by omega)
    have sub : ∀ x ∈ wox (ls[i].2.1,ls[i].2.2.map low) X,x ∈ X := fun x hx => (wox_mem.1 hx).1
    rw [e1,Option.bind_some]
    by_cases hin : (ls[i].2.1,ls[i].2.2.map low) ∈ X.map pk
    ·have hlen : (wox (ls[i].2.1,ls[i].2.2.map low) X).length = X.length - 1 := by
      have := congrArg List.length (wox_map (ls[i].2.1,ls[i].2.2.map low) X)
      rw [wo_len h.rel.nd hin] at this
      simpa using this
     have hpos : 0 < X.length := by
      have := List.length_pos_of_mem hin; simpa using this
     rw [if_pos (by simpa using hin),w64_id (by omega) (by omega),show ((X.length : Int) - 1) = ((wox (ls[i].2.1,ls[i].2.2.map low) X).length : Int) by omega]
     exact go F1 F2 _ S1 q2 c1 (fun x hx => hl x (sub x hx)) (fun x hx => hX x (sub x hx))
    ·have e := wox_no hin
     rw [e] at q2
     rw [if_neg (by simpa using hin)]
     exact go F1 F2 _ S1 q2 c1 hl hX
   ·rw [if_neg h1,Option.bind_some,a3,Option.bind_some,Option.bind_some,a4,Option.bind_some]
    obtain ⟨xs,hs,hm⟩ := h.ex ls[i].2.1
    obtain ⟨F1,F2,S1,e1,q1,c1⟩ := add_w (k := 2000) (Nat.le_refl _) h (by omega) ls[i].2.1 ls[i].2.2 (by omega) hs hm
    rw [e1,Option.bind_some]
    by_cases hin : (ls[i].2.1,ls[i].2.2.map low) ∈ X.map pk
    ·simp only [hin,if_true] at q1 ⊢
     rw [if_neg (by decide)]
     exact go F1 F2 _ S1 q1 c1 hl hX
    ·simp only [hin,if_false] at q1 ⊢
     by_cases hful : most ≤ (xs.length : Int)
     ·simp only [hful,if_true] at q1 ⊢
      rw [if_neg (by decide)]
      exact go F1 F2 _ S1 q1 c1 hl hX
     ·simp only [hful,if_false] at q1 ⊢
      rw [if_pos trivial,w64_id (by omega) (by omega),show ((X.length : Int) + 1) = ((X ++ [(ls[i].2.1,ls[i].2.2)]).length : Int) by simp]
      exact go F1 F2 _ S1 q1 c1 (fun x hx => by
       rcases List.mem_append.1 hx with q | q
       ·exact hl x q
       ·simp at q; subst q; exact hli) (fun x hx => by
       rcases List.mem_append.1 hx with q | q
       ·exact hX x q
       ·simp at q; subst q; exact ⟨i,hlt,rfl⟩)
  ·obtain ⟨xs,out,S1,e1,s1,m1',r1,q1,f1⟩ := clients_w h (by omega) name (by omega)
   have hxl : xs.length ≤ 99 := by
    have := nodup_sub (xs.map fun v => ((v,name.map low) : Pr)) (X.map pk) (by
     rw [List.nodup_iff_pairwise_ne,List.pairwise_map]
     exact (srt_nodupI s1).imp fun h e => h (by simpa using e)) (fun y hy => by
     obtain ⟨v,hv,rfl⟩ := List.mem_map.1 hy
     exact (m1' v).1 hv)
    simp at this; omega
   rw [if_neg (by omega),e1,Option.bind_some]
   exact l3_loop (n := i) hls hnm hy hxl m1' hl hX (by omega) hg 2000 0 S1 (by omega) (Nat.zero_le _) (h.fr f1) (rows_off hr hy fun id hid => f1.eq id (by omega)) r1 (fun q hq => (q1 q hq).2) (Nat.le_trans hgn f1.le)
theorem wishBoth_law {S : HS} {y0 : Sl} {ls : List Ac} {name : List UInt8} (hr : Rd S.next S 3 y0 (ls.map actRow)) : ∃ S',rollcalllaw21_WishBoth.f (disp 2000 4) (fun _ => none) 2000 y0 name S = some (true,S') := by
 rw [rollcalllaw21_WishBoth.f]
 obtain ⟨S1,e1,f1⟩ := awake_spec (S := S)
 have hr1 := hr.frame f1 (Nat.le_refl _)
 obtain ⟨b,e2,hb⟩ := great_spec hr1.rows
 rw [e1,Option.bind_some,if_neg (by simp),e2,Option.bind_some]
 cases b with
 | true => rw [if_pos rfl,rollcalllaw21_WishBoth.J0,if_pos rfl]; exact ⟨_,rfl⟩
 | false =>
  obtain ⟨h40,hll⟩ := hb rfl
  rw [if_neg (by simp),rollcalllaw21_WishBoth.J0]
  by_cases hn : (name.length : Int) > 30
  ·rw [if_pos (by simpa using hn)]; exact ⟨_,rfl⟩
  rw [if_neg (by simpa using hn)]
  obtain ⟨S2,e3,w2,f2,o2⟩ := new_w (most := 50) (by decide) (by decide) S1
  rw [e3,Option.bind_some]
  have l1 := f1.le
  have l2 := f2.le
  exact l1_loop (g := S1.next) h40 hll (by omega) (fun q hq => by have := hr.lt q hq; omega) 2000 0 [] [] [] S2 (by omega) (Nat.zero_le _) w2 (hr1.frame f2 (by omega)).rows o2 l2 (by simp) (by simp)
theorem wishBoth_call (W : World) (β0 : Bt) (S : HS) (s0 : Sl) (rows0 : List (List HV)) (h0 : ArgSl S 3 s0 rows0) (f0 : ∀ row ∈ rows0,RowFits [.int .i64,.int .i64,.str] row) (name : List UInt8) :
  HCall Tryd.prog W.heap.size W β0 4 [s0.hv,.str name] S (fun v _ => v = .bool true) := by
 obtain ⟨ls,rfl⟩ := rows_acts f0
 obtain ⟨_,h⟩ := wishBoth_law (name := name) h0.rd
 exact (rollcalllaw21_WishBoth.snd (disp_snd 4) (fun _ _ h => by cases h) h).mono fun _ _ h => h.1
end Go.Proofs.YtcphapfclncggaaDoor.X
