/- The layer wish: strings.Split at a comma, plain. The layer wish: what the document tells of MONITOR and WATCH, plain. The layer wish: lists of nothing; WishNone, plain. -/
import Derived.Lib.Bytealg
import Derived.Test.YtcphapfclncggaaDoorPart14
namespace Go.Proofs.YtcphapfclncggaaDoor.X
open Go.Proofs.YtcphapfclncggaaDoor.HL
set_option linter.unusedVariables false
/-- The words of a text: between its commas. -/
def words : List UInt8 → List (List UInt8)
 | [] => [[]]
 | b :: s => if b = 44 then [] :: words s else match words s with
  | [] => [[b]]
  | w :: ws => (b :: w) :: ws
def headW (b : UInt8) : List (List UInt8) → List (List UInt8)
 | [] => [[b]]
 | w :: ws => (b :: w) :: ws
theorem words_co (s : List UInt8) : words (44 :: s) = [] :: words s := by rw [words,if_pos rfl]
theorem words_nco {b : UInt8} (s : List UInt8) (h : b ≠ 44) : words (b :: s) = headW b (words s) := by
 rw [words,if_neg h]
 cases words s <;> rfl
theorem words_ne (s : List UInt8) : words s ≠ [] := by
 cases s with
 | nil => simp [words]
 | cons b s =>
  unfold words
  split
  ·simp
  ·cases words s <;> simp
theorem words_none {s : List UInt8} (h : 44 ∉ s) : words s = [s] := by
 induction s with
 | nil => rfl
 | cons b s ih =>
  simp only [List.mem_cons,not_or] at h
  rw [words,if_neg (fun e => h.1 e.symm),ih h.2]
theorem words_some {a s : List UInt8} (h : 44 ∉ a) : words (a ++ 44 :: s) = a :: words s := by
 induction a with
 | nil => rw [List.nil_append,words,if_pos rfl]
 | cons b a ih =>
  simp only [List.mem_cons,not_or] at h
  rw [List.cons_append,words,if_neg (fun e => h.1 e.symm),ih h.2]
theorem words_len (s : List UInt8) : (words s).length = s.count 44 + 1 := by
 induction s with
 | nil => rfl
 | cons b s ih =>
  unfold words
  by_cases hb : b = 44
  ·rw [if_pos hb]; subst hb; simp [ih]
  ·rw [if_neg hb]
   cases hw : words s with
   | nil => exact absurd hw (words_ne s)
   | cons w ws => rw [hw] at ih; simp at ih; simp [hb,ih]
theorem bidx_eq (s : List UInt8) (c : UInt8) : bidx s (c.toNat : Int) = Lib.indexByte s c := by
 have h : ((c.toNat : Int).toNat).toUInt8 = c := by simp
 rw [bidx,h,Lib.firstIdx_eq]
theorem ixb_none {s : List UInt8} {c : UInt8} (h : c ∉ s) : Lib.indexByte s c = -1 := by
 induction s with
 | nil => rfl
 | cons b s ih =>
  simp only [List.mem_cons,not_or] at h
  unfold Lib.indexByte
  rw [if_neg (by simpa using fun e => h.1 e.symm),ih h.2]
  rfl
theorem ixb_some {a s : List UInt8} {c : UInt8} (h : c ∉ a) : Lib.indexByte (a ++ c :: s) c = a.length := by
 induction a with
 | nil => simp [Lib.indexByte]
 | cons b a ih =>
  simp only [List.mem_cons,not_or] at h
  rw [List.cons_append]
  unfold Lib.indexByte
  rw [if_neg (by simpa using fun e => h.1 e.symm),ih h.2,if_neg (by simp)]
  simp
/-- A text has a byte not at all, or a first time. -/
theorem view (c : UInt8) (s : List UInt8) : c ∉ s ∨ ∃ a b,s = a ++ c :: b ∧ c ∉ a := by
 induction s with
 | nil => exact .inl (by simp)
 | cons x s ih =>
  by_cases h : x = c
  ·subst h; exact .inr ⟨[],s,rfl,by simp⟩
  ·rcases ih with h1 | ⟨a,b,rfl,h1⟩
   ·exact .inl (by simp [h1,Ne.symm h])
   ·exact .inr ⟨x :: a,b,rfl,by simp [h1,Ne.symm h]⟩
theorem index_one {k : Nat} {s : List UInt8} {c : UInt8} {S : HS} : internal_stringslite_Index.f k s [c] S = some (Lib.indexByte s c,S) := by
 unfold internal_stringslite_Index.f internal_stringslite_Index.J0
 rw [if_neg (by simp)]
 by_cases h : [c] = s
 ·rw [decide_eq_true h,if_pos rfl,← h]; simp [Lib.indexByte]
 ·rw [decide_eq_false h,if_neg (by simp),if_pos (by simp)]
  simp only [sat,Option.bind_some,internal_stringslite_IndexByte.f]
  simp [bidx_eq]
/-- What is left of a line. -/
def strRow (x : List UInt8) : List HV := [.str x]
theorem count_words (s : List UInt8) : (words s).length = Lib.countByte s 44 + 1 := words_len s
theorem cut_a {S : HS} {s sc : Sl} {l h : Int} {z : Nat} (hc : S.cut s l h z = some sc) {q : Nat × Nat} (hq : sc.a = some q) : ∃ p,s.a = some p ∧ p.1 = q.1 := by
 obtain ⟨sa,n,c⟩ := s
 unfold HS.cut at hc
 split at hc
 ·cases sa with
  | none =>
   simp only at hc
   split at hc
   ·cases hc; cases hq
   ·cases hc
  | some p =>
   obtain ⟨id,off⟩ := p
   simp only at hc
   split at hc
   ·split at hc
    ·cases hc; cases hq; exact ⟨_,rfl,rfl⟩
    ·cases hc
   ·cases hc
 ·cases hc
theorem split_end {k : Nat} {m : Nat} {S : HS} {sl : Sl} {done : List (List UInt8)} {s : List UInt8} (hV : Vec m S 1 sl ((done ++ [[]]).map strRow)) (hd : done.length ≤ 1000) :
  ∃ sc S',strings_genSplit.J2 k s sl (done.length : Int) S = some (sc,S') ∧ S'.rows sc 1 = some ((done ++ [s]).map strRow) ∧ sc.len = done.length + 1 ∧ Fr m S S' ∧ (∀ q,sc.a = some q → m ≤ q.1 ∧ q.1 < S'.next) := by
 obtain ⟨ad,S1,h1,h2,h3,h4,h5,h6,h7,h8⟩ := hV.set_ (i := done.length) (row := [HV.str s]) (by simp) (by simp [strRow])
 have hset : ((done ++ [[]]).map strRow).set done.length [HV.str s] = (done ++ [s]).map strRow := by
  simp [strRow]
 rw [hset] at h5
 have hw : w64 ((done.length : Int) + 1) = (((done ++ [s]).map strRow).length : Int) := by rw [w64_id (by omega) (by omega)]; simp
 obtain ⟨sc,c1,c2⟩ := rows_cut h5.rows (m := 0) (Nat.zero_le _)
 refine ⟨sc,S1,?_,by simpa using c2,?_,h6,?_⟩
 ·rw [strings_genSplit.J2,h1,Option.bind_some,h4,Option.bind_some,hw]
  rw [show ((0 : Nat) : Int) = 0 from rfl] at c1
  rw [c1,Option.bind_some]
 ·have := rows_len c2; simpa using this.symm
 ·intro q hq
  obtain ⟨p,hp1,hp2⟩ := cut_a c1 hq
  have := h5.lo p hp1
  rw [← hp2]; exact this
theorem split_loop {k m : Nat} {sl : Sl} {n : Nat} (hn : n ≤ 1000) : ∀ (f : Nat) (done : List (List UInt8)) (s : List UInt8) (S : HS),n - done.length < f → done.length + (words s).length = n → s.length ≤ 1000 → Vec m S 1 sl ((done ++ List.replicate (n - done.length) []).map strRow) →
  ∃ sc S',strings_genSplit.L1 k f s [44] 0 ((n : Int) - 1) sl (done.length : Int) S = some (sc,S') ∧ S'.rows sc 1 = some ((done ++ words s).map strRow) ∧ sc.len = n ∧ Fr m S S' ∧ (∀ q,sc.a = some q → m ≤ q.1 ∧ q.1 < S'.next) := by
 intro f
 induction f with
 | zero => intro done s S h; omega
 | succ f ih =>
  intro done s S h hw hl hV
  have hpos : 0 < (words s).length := List.length_pos_iff.2 (words_ne s)
  unfold strings_genSplit.L1
  rcases view 44 s with hs | ⟨a,b,rfl,hs⟩
  ·have h1 : n = done.length + 1 := by rw [words_none hs] at hw; simpa using hw.symm
   have e1 : n - done.length = 1 := by omega
   rw [e1] at hV
   rw [if_neg (by omega),words_none hs]
   obtain ⟨sc,S',g1,g2,g3,g4,g5⟩ := split_end (k := k) (s := s) hV (by omega)
   exact ⟨sc,S',g1,g2,by omega,g4,g5⟩
  ·rw [words_some hs] at hw ⊢
   simp only [List.length_cons] at hw
   have hb : 0 < (words b).length := List.length_pos_iff.2 (words_ne b)
   simp at hl
   rw [if_pos (by omega)]
   unfold strings_Index.f
   rw [index_one,Option.bind_some,Option.bind_some,ixb_some hs]
   simp only []
   have hi : done.length < ((done ++ List.replicate (n - done.length) []).map strRow).length := by simp; omega
   obtain ⟨ad,S1,h1,h2,h3,h4,h5,h6,h7,h8⟩ := hV.set_ (i := done.length) (row := [HV.str a]) hi (by simp [strRow])
   have hset : ((done ++ List.replicate (n - done.length) ([] : List UInt8)).map strRow).set done.length [HV.str a] = ((done ++ [a]) ++ List.replicate (n - (done ++ [a]).length) []).map strRow := by
    have e : n - done.length = (n - (done ++ [a]).length) + 1 := by simp; omega
    rw [e,List.replicate_succ]
    simp [strRow]
   rw [hset] at h5
   have w0 : w64 ((a.length : Int) + 0) = (a.length : Int) := by rw [w64_id (by omega) (by omega)]; simp
   have w1 : w64 ((a.length : Int) + (([44] : List UInt8).length : Int)) = ((a.length + 1 : Nat) : Int) := by rw [w64_id (by simp; omega) (by simp; omega)]; simp
   have w2 : w64 ((done.length : Int) + 1) = ((done ++ [a]).length : Int) := by rw [w64_id (by omega) (by omega)]; simp
   have t1 : ssub (a ++ 44 :: b) 0 (a.length : Int) = a := by simp [ssub]
   have t2 : ssub (a ++ 44 :: b) ((a.length + 1 : Nat) : Int) ((a ++ 44 :: b).length : Int) = b := by
    simp only [ssub,Int.toNat_natCast]
    have e1 : (a ++ 44 :: b).drop (a.length + 1) = b := by simp [List.drop_append]
    rw [e1]
    exact List.take_of_length_le (by simp; omega)
   rw [if_neg (by omega),w0,w1,w2,if_pos ⟨by omega,by omega,by simp; omega⟩,h1,Option.bind_some,t1,h4,Option.bind_some,if_pos ⟨by omega,by simp; omega,by omega⟩,t2]
   obtain ⟨sc,S',g1,g2,g3,g4,g5⟩ := ih (done ++ [a]) b S1 (by simp; omega) (by simp; omega) (by omega) h5
   exact ⟨sc,S',g1,by simpa using g2,g3,h6.trans g4,g5⟩
theorem split_spec {k : Nat} {x : List UInt8} {S : HS} (hx : x.length ≤ 900) (hk : 2000 ≤ k) :
  ∃ sc S',strings_Split.f k x [44] S = some (sc,S') ∧ S'.rows sc 1 = some ((words x).map strRow) ∧ sc.len = (words x).length ∧ Fr S.next S S' ∧ (∀ q,sc.a = some q → S.next ≤ q.1 ∧ q.1 < S'.next) := by
 have hc := count_words x
 have hcl : Lib.countByte x 44 ≤ x.length := List.count_le_length
 have hn1 : w64 ((Lib.countByte x 44 : Int) + 1) = ((words x).length : Int) := by rw [w64_id (by omega) (by omega)]; omega
 have hn2 : mn ((words x).length : Int) (w64 ((x.length : Int) + 1)) = ((words x).length : Int) := by
  rw [w64_id (by omega) (by omega)]
  unfold mn
  split <;> omega
 have hn3 : w64 (((words x).length : Int) - 1) = ((words x).length : Int) - 1 := w64_id (by omega) (by omega)
 obtain ⟨sl,S1,e1,v1,f1⟩ := Vec.makeN (m := S.next) (S := S) (n := (words x).length) (c := (words x).length) (zr := [.str []]) (Nat.le_refl _) (Nat.le_refl _) (by omega)
 unfold strings_Split.f strings_genSplit.f
 rw [if_neg (by decide),if_neg (by simp),if_pos (by decide)]
 have hcount : strings_Count.f x [44] = some (Lib.countByte x 44 : Int) := rfl
 rw [hcount,Option.bind_some,hn1,strings_genSplit.J0,hn2,e1,Option.bind_some,hn3]
 have hv : Vec S.next S1 1 sl ((([] : List (List UInt8)) ++ List.replicate ((words x).length - ([] : List (List UInt8)).length) []).map strRow) := by
  simpa [strRow] using v1
 obtain ⟨sc,S',g1,g2,g3,g4,g5⟩ := split_loop (k := k) (n := (words x).length) (by omega) k [] x S1 (by simp; omega) (by simp) (by omega) hv
 refine ⟨sc,S',?_,by simpa using g2,g3,f1.trans g4,g5⟩
 rw [show ((([] : List (List UInt8)).length : Nat) : Int) = 0 from rfl] at g1
 rw [g1,Option.bind_some]
end Go.Proofs.YtcphapfclncggaaDoor.X
namespace Go.Proofs.YtcphapfclncggaaDoor.X
open Go.Proofs.YtcphapfclncggaaDoor.HL
set_option linter.unusedVariables false
/-! ### the letter of a text -/
def sing (signs : List UInt8) (s : List UInt8) : Int := match s with
 | [c] => if c = 99 ∨ c = 67 then 67 else if c = 108 ∨ c = 76 then 76 else if c = 115 ∨ c = 83 then 83 else if c ∈ signs then c.toNat else 0
 | _ => 0
theorem sing_one (signs : List UInt8) (c : UInt8) : sing signs [c] = (if c = 99 ∨ c = 67 then 67 else if c = 108 ∨ c = 76 then 76 else if c = 115 ∨ c = 83 then 83 else if c ∈ signs then (c.toNat : Int) else 0 : Int) := rfl
theorem ixb_pos {s : List UInt8} {c : UInt8} : (0 ≤ Lib.indexByte s c) = (c ∈ s) := by
 apply propext
 constructor
 ·intro h
  apply Classical.byContradiction
  intro hn
  rw [ixb_none hn] at h
  omega
 ·intro h
  rcases view c s with hn | ⟨a,b,rfl,hn⟩
  ·exact absurd h hn
  ·rw [ixb_some hn]; omega
theorem low3 (c : UInt8) : (c = 99 ∧ Lib.indexByte [99,108,115] c = 0) ∨ (c = 108 ∧ Lib.indexByte [99,108,115] c = 1) ∨ (c = 115 ∧ Lib.indexByte [99,108,115] c = 2) ∨ (c ≠ 99 ∧ c ≠ 108 ∧ c ≠ 115 ∧ Lib.indexByte [99,108,115] c = -1) :=
 all_bytes (p := fun c => (c = 99 ∧ Lib.indexByte [99,108,115] c = 0) ∨ (c = 108 ∧ Lib.indexByte [99,108,115] c = 1) ∨ (c = 115 ∧ Lib.indexByte [99,108,115] c = 2) ∨ (c ≠ 99 ∧ c ≠ 108 ∧ c ≠ 115 ∧ Lib.indexByte [99,108,115] c = -1)) (by decide +kernel) c
theorem single_spec {k : Nat} {s signs : List UInt8} {S : HS} (hs : signs.length ≤ 10) (hb : ∀ c ∈ signs,c ≠ 99 ∧ c ≠ 108 ∧ c ≠ 115 ∧ c ≠ 67 ∧ c ≠ 76 ∧ c ≠ 83) : wish_single.f k s signs S = some (sing signs s,S) := by
 unfold wish_single.f
 by_cases h1 : s.length = 1
 ·obtain ⟨c,rfl⟩ : ∃ c,s = [c] := List.length_eq_one_iff.1 h1
  rw [if_neg (by simp),show sat [c] 0 = some c from rfl,Option.bind_some,strings_IndexByte.f,internal_stringslite_IndexByte.f,Option.bind_some,Option.bind_some]
  rw [bidx_eq]
  rcases low3 c with ⟨rfl,e⟩ | ⟨rfl,e⟩ | ⟨rfl,e⟩ | ⟨n1,n2,n3,e⟩
  ·rw [e,if_pos (by decide)]; rfl
  ·rw [e,if_pos (by decide)]; rfl
  ·rw [e,if_pos (by decide)]; rfl
  ·rw [e,if_neg (by decide),if_pos (by simp; omega),strings_Contains.f,strings_Index.f,index_one,Option.bind_some,Option.bind_some,Option.bind_some]
   have hp : decide (Lib.indexByte ([67,76,83] ++ signs) c ≥ 0) = decide (c ∈ ([67,76,83] ++ signs : List UInt8)) := by
    rw [decide_eq_decide,ge_iff_le,ixb_pos]
   simp only [hp]
   have hm : (c ∈ ([67,76,83] ++ signs : List UInt8)) ↔ (c = 67 ∨ c = 76 ∨ c = 83 ∨ c ∈ signs) := by simp
   by_cases hc : c ∈ ([67,76,83] ++ signs : List UInt8)
   ·rw [if_pos (by simpa using hc),Option.bind_some]
    have := hm.1 hc
    rw [sing_one]
    rcases this with rfl | rfl | rfl | h
    ·rfl
    ·rfl
    ·rfl
    ·obtain ⟨_,_,_,m1,m2,m3⟩ := hb c h
     rw [if_neg (by simp [n1,m1]),if_neg (by simp [n2,m2]),if_neg (by simp [n3,m3]),if_pos h]
   ·rw [if_neg (by simpa using hc)]
    have hn : ¬ (c = 67 ∨ c = 76 ∨ c = 83 ∨ c ∈ signs) := fun h => hc (hm.2 h)
    simp only [not_or] at hn
    rw [sing_one]
    rw [if_neg (by simp [n1,hn.1]),if_neg (by simp [n2,hn.2.1]),if_neg (by simp [n3,hn.2.2.1]),if_neg hn.2.2.2]
 ·have e0 : sing signs s = 0 := by
   unfold sing
   split
   ·simp at h1
   ·rfl
  rw [if_pos (by simpa using fun h => h1 (by omega)),e0]
/-! ### one more behind a slice that one alone holds -/
theorem app_lit {m z : Nat} {S : HS} {sl : Sl} {rows : List (List HV)} (row : List HV) (h : Vec m S z sl rows) (hm : m ≤ S.next) (hl : rows.length ≤ 100000) :
  (S.lit [row] z).2.rows (S.lit [row] z).1 z = some [row] ∧ ∃ s' S',(S.lit [row] z).2.app sl [row] z = some (s',S') ∧ Vec m S' z s' (rows ++ [row]) ∧ Fr m S S' := by
 refine ⟨(Vec.lit (n := m) (z := z) (S := S) [row] hm).rows,?_⟩
 have lf : Fr S.next S (S.lit [row] z).2 := lit_fr _ (Nat.le_refl _)
 obtain ⟨s',S',e1,v1,f1⟩ := (h.frame lf (Nat.le_refl _)).app (new := [row]) (Nat.le_trans hm lf.le) (by simp; omega)
 exact ⟨s',S',e1,v1,(lf.mono hm).trans f1⟩
theorem str_rows {S : HS} {s : Sl} {xs : List (List UInt8)} (h : S.rows s 1 = some (xs.map strRow)) {i : Nat} (hi : i < xs.length) : ∃ ad,S.idx s (i : Int) 1 = some ad ∧ S.ldS ad = some xs[i] := by
 obtain ⟨ad,h1,h2,h3⟩ := rows_idx h (i := i) (by simpa using hi)
 refine ⟨ad,h1,?_⟩
 exact row_ldS (j := 0) (ad := ad) h3 h2 (by simp [strRow])
theorem str_row0 {S : HS} {s : Sl} {x : List UInt8} {xs : List (List UInt8)} (h : S.rows s 1 = some ((x :: xs).map strRow)) : ∃ ad,S.idx s 0 1 = some ad ∧ S.ldS ad = some x :=
 str_rows h (i := 0) (by simp)
theorem str_row1 {S : HS} {s : Sl} {x y : List UInt8} {xs : List (List UInt8)} (h : S.rows s 1 = some ((x :: y :: xs).map strRow)) : ∃ ad,S.idx s 1 1 = some ad ∧ S.ldS ad = some y :=
 str_rows h (i := 1) (by simp)
def monB : List (List UInt8) → Int × List (List UInt8)
 | [] => (0,[])
 | p :: r => if sing [43,45] p = 43 ∨ sing [43,45] p = 45 then match r with
   | [] => (sing [43,45] p,[])
   | s :: _ => (sing [43,45] p,(words s).filter nickB)
  else (sing [43,45] p,[])
theorem monB_no {p : List UInt8} {r : List (List UInt8)} (h : ¬ (sing [43,45] p = 43 ∨ sing [43,45] p = 45)) : monB (p :: r) = (sing [43,45] p,[]) := by
 unfold monB; simp only [if_neg h]
theorem vec_mono {n m z : Nat} {S : HS} {s : Sl} {rows : List (List HV)} (h : Vec n S z s rows) (hm : m ≤ n) : Vec m S z s rows := by
 cases h with
 | nil => exact .nil
 | open_ h hn hl => exact .open_ h (by omega) hl
 | capped h hn hl hc hr ht => exact .capped h (by omega) hl hc hr ht
theorem words_mem {s w : List UInt8} : w ∈ words s → w.length ≤ s.length := by
 induction s generalizing w with
 | nil => intro h; simp [words] at h; subst h; simp
 | cons b s ih =>
  intro h
  by_cases hb : b = 44
  ·subst hb
   rw [words_co] at h
   rcases List.mem_cons.1 h with rfl | h
   ·simp
   ·have := ih h; simp; omega
  ·rw [words_nco _ hb] at h
   cases hw : words s with
   | nil => exact absurd hw (words_ne s)
   | cons w0 ws =>
    rw [hw,headW] at h
    rcases List.mem_cons.1 h with rfl | h
    ·have := ih (w := w0) (by rw [hw]; simp); simp; omega
    ·have := ih (w := w) (by rw [hw]; simp [h]); simp; omega
theorem mon_loop {k m : Nat} {op : Int} {ws : List (List UInt8)} {y30 : Sl} (hk : 2000 ≤ k) (hn : ws.length ≤ 1000) (hw : ∀ w ∈ ws,w.length ≤ 1000) (hq : ∀ q,y30.a = some q → q.1 < m) :
  ∀ (f i : Nat) (out : Sl) (S : HS),ws.length - i < f → i ≤ ws.length → m ≤ S.next → S.rows y30 1 = some (ws.map strRow) → Vec m S 1 out (((ws.take i).filter nickB).map strRow) →
   ∃ out' S',wish_Monitor.L2 k f op out y30 (ws.length : Int) (i : Int) S = some ((op,out'),S') ∧ Vec m S' 1 out' ((ws.filter nickB).map strRow) ∧ Fr m S S' := by
 intro f
 induction f with
 | zero => intro i out S h; omega
 | succ f ih =>
  intro i out S h hi hm hr hV
  rw [wish_Monitor.L2]
  by_cases hlt : i < ws.length
  ·obtain ⟨ad,a1,a2⟩ := str_rows hr hlt
   obtain ⟨S1,e1,f1⟩ := nick_spec (k := k) (m := S.next) (x := ws[i]) (S := S) (hw _ (List.getElem_mem hlt)) hk (Nat.le_refl _)
   have hi1 : w64 ((i : Int) + 1) = ((i + 1 : Nat) : Int) := by rw [w64_id (by omega) (by omega)]; simp
   have f1m := f1.mono hm
   have hr1 : S1.rows y30 1 = some (ws.map strRow) := rows_same hr fun p hp => f1m.eq _ (hq p hp)
   have hV1 := hV.frame f1 (Nat.le_refl _)
   have hl1 : m ≤ S1.next := Nat.le_trans hm f1.le
   rw [if_pos (by omega),a1,Option.bind_some,a2,Option.bind_some,e1,Option.bind_some]
   by_cases hb : nickB ws[i] = true
   ·obtain ⟨l1,s',S2,l2,v2,f2⟩ := app_lit [.str ws[i]] hV1 hl1 (by
     have : ((ws.take i).filter nickB).length ≤ (ws.take i).length := List.length_filter_le _ _
     simp at this ⊢; omega)
    rw [hb,if_neg (by simp),letv,l1,Option.bind_some,l2,Option.bind_some,wish_Monitor.J3,hi1]
    have e : (ws.take (i + 1)).filter nickB = (ws.take i).filter nickB ++ [ws[i]] := by
     rw [List.take_succ_eq_append_getElem hlt,List.filter_append,List.filter_cons_of_pos hb,List.filter_nil]
    have hr2 : S2.rows y30 1 = some (ws.map strRow) := rows_same hr1 fun p hp => f2.eq _ (hq p hp)
    obtain ⟨out',S',g1,g2,g3⟩ := ih (i + 1) s' S2 (by omega) (by omega) (Nat.le_trans hl1 f2.le) hr2 (by rw [e,List.map_append]; exact v2)
    exact ⟨out',S',g1,g2,(f1m.trans f2).trans g3⟩
   ·have hb' : nickB ws[i] = false := by simpa using hb
    rw [hb',if_pos (by simp),wish_Monitor.J3,hi1]
    have e : (ws.take (i + 1)).filter nickB = (ws.take i).filter nickB := by
     rw [List.take_succ_eq_append_getElem hlt,List.filter_append,List.filter_cons_of_neg hb,List.filter_nil,List.append_nil]
    obtain ⟨out',S',g1,g2,g3⟩ := ih (i + 1) out S1 (by omega) (by omega) hl1 hr1 (by rw [e]; exact hV1)
    exact ⟨out',S',g1,g2,f1m.trans g3⟩
  ·obtain rfl : i = ws.length := by omega
   rw [List.take_length] at hV
   rw [if_neg (by omega)]
   exact ⟨out,S,rfl,hV,Fr.refl _ _⟩
theorem mon_signs : ∀ c ∈ ([43,45] : List UInt8),c ≠ 99 ∧ c ≠ 108 ∧ c ≠ 115 ∧ c ≠ 67 ∧ c ≠ 76 ∧ c ≠ 83 := by decide
theorem mon_spec {k : Nat} {xs : List (List UInt8)} {x0 : Sl} {S : HS} (hk : 2000 ≤ k) (hx : ∀ x ∈ xs,x.length ≤ 100) (hr : S.rows x0 1 = some (xs.map strRow)) :
  ∃ out S',wish_Monitor.f k x0 S = some (((monB xs).1,out),S') ∧ Vec S.next S' 1 out ((monB xs).2.map strRow) ∧ Fr S.next S S' := by
 have hlen : x0.len = xs.length := by have := rows_len hr; simpa using this.symm
 rw [wish_Monitor.f]
 cases xs with
 | nil =>
  rw [if_pos (by rw [hlen]; rfl)]
  exact ⟨Sl.nil,S,rfl,.nil,Fr.refl _ _⟩
 | cons p r =>
  obtain ⟨ad,a1,a2⟩ := str_row0 hr
  rw [if_neg (by rw [hlen]; simp; omega),a1,Option.bind_some,a2,Option.bind_some,single_spec (by decide) mon_signs,Option.bind_some]
  have last : (sing [43,45] p = 43 ∨ sing [43,45] p = 45) → ∃ out S',wish_Monitor.J0 k x0 (sing [43,45] p) false S = some (((monB (p :: r)).1,out),S') ∧ Vec S.next S' 1 out ((monB (p :: r)).2.map strRow) ∧ Fr S.next S S' := by
   intro hop
   rw [wish_Monitor.J0,if_neg (by simp),wish_Monitor.J1]
   cases r with
   | nil =>
    rw [if_pos (by rw [hlen]; simp),monB,if_pos hop]
    exact ⟨Sl.nil,S,rfl,.nil,Fr.refl _ _⟩
   | cons s r =>
    obtain ⟨ad2,b1,b2⟩ := str_row1 hr
    have hs : s.length ≤ 100 := hx s (by simp)
    obtain ⟨sc,S1,g1,g2,g3,g4,g5⟩ := split_spec (k := k) (x := s) (S := S) (by omega) hk
    have hwl : (words s).length ≤ 101 := by rw [words_len]; have : s.count 44 ≤ s.length := List.count_le_length; omega
    obtain ⟨out,S2,m1,m2,m3⟩ := mon_loop (k := k) (m := S1.next) (op := sing [43,45] p) (ws := words s) (y30 := sc) hk (by omega) (fun w hw => by have := words_mem hw; omega) (fun q hq => (g5 q hq).2) k 0 Sl.nil S1 (by omega) (Nat.zero_le _) (Nat.le_refl _) g2 (by rw [List.take_zero]; exact .nil)
    rw [if_neg (by rw [hlen]; simp; omega),b1,Option.bind_some,b2,Option.bind_some,g1,Option.bind_some,g3,monB,if_pos hop]
    rw [show ((0 : Nat) : Int) = 0 from rfl] at m1
    refine ⟨out,S2,m1,?_,g4.trans (m3.mono g4.le)⟩
    exact vec_mono m2 g4.le
  by_cases h43 : sing [43,45] p = 43
  ·rw [h43,if_neg (by simp),← h43]
   exact last (.inl h43)
  ·rw [if_pos (by simpa using h43)]
   by_cases h45 : sing [43,45] p = 45
   ·rw [h45,show (!decide ((45 : Int) = 45)) = false by simp,← h45]
    exact last (.inr h45)
   ·rw [show (!decide (sing [43,45] p = 45)) = true by simpa using h45,wish_Monitor.J0,if_pos rfl,wish_Monitor.J1,if_pos rfl,monB_no (by rintro (h | h); exact h43 h; exact h45 h)]
    exact ⟨Sl.nil,S,rfl,.nil,Fr.refl _ _⟩
def wishRow (x : Int × List UInt8) : List HV := [.int .u8 x.1,.str x.2]
def watch1 (s : List UInt8) : List (Int × List UInt8) :=
 if sing [] s ≠ 0 then [(sing [] s,[])] else match s with
  | c :: t => if (c = 43 ∨ c = 45) ∧ nickB t = true then [((c.toNat : Int),t)] else []
  | [] => []
def watB (xs : List (List UInt8)) : List (Int × List UInt8) := if xs = [] then [(76,[])] else xs.flatMap watch1
theorem watch1_len (s : List UInt8) : (watch1 s).length ≤ 1 := by
 unfold watch1
 split
 ·simp
 ·split
  ·split <;> simp
  ·simp
theorem watch1_cons {c : UInt8} {t : List UInt8} (h : sing [] (c :: t) = 0) : watch1 (c :: t) = if (c = 43 ∨ c = 45) ∧ nickB t = true then [((c.toNat : Int),t)] else [] := by
 unfold watch1; rw [if_neg (by simpa using h)]
theorem flat_len (xs : List (List UInt8)) : (xs.flatMap watch1).length ≤ xs.length := by
 induction xs with
 | nil => simp
 | cons x xs ih => have := watch1_len x; rw [List.flatMap_cons,List.length_append,List.length_cons]; omega
theorem u8_ok {z : Int} (c : UInt8) : ((c.toNat : Int) = 43 ↔ c = 43) ∧ ((c.toNat : Int) = 45 ↔ c = 45) := all_bytes (p := fun c => ((c.toNat : Int) = 43 ↔ c = 43) ∧ ((c.toNat : Int) = 45 ↔ c = 45)) (by decide +kernel) c
theorem cons_sub (c : UInt8) (t : List UInt8) : ssub (c :: t) 1 ((c :: t).length : Int) = t := by
 simp only [ssub,Int.toNat_natCast]
 exact List.take_of_length_le (by simp)
theorem watch_loop {k m : Nat} {xs : List (List UInt8)} {x0 : Sl} (hk : 2000 ≤ k) (hn : xs.length ≤ 1000) (hx : ∀ x ∈ xs,x.length ≤ 100) (hq : ∀ q,x0.a = some q → q.1 < m) :
  ∀ (f i : Nat) (out : Sl) (S : HS),xs.length - i < f → i ≤ xs.length → m ≤ S.next → S.rows x0 1 = some (xs.map strRow) → Vec m S 2 out (((xs.take i).flatMap watch1).map wishRow) →
   ∃ out' S',wish_Watch.L0 k f out x0 (xs.length : Int) (i : Int) S = some (out',S') ∧ Vec m S' 2 out' ((xs.flatMap watch1).map wishRow) ∧ Fr m S S' := by
 intro f
 induction f with
 | zero => intro i out S h; omega
 | succ f ih =>
  intro i out S h hi hm hr hV
  rw [wish_Watch.L0]
  by_cases hlt : i < xs.length
  ·obtain ⟨ad,a1,a2⟩ := str_rows hr hlt
   have hi1 : w64 ((i : Int) + 1) = ((i + 1 : Nat) : Int) := by rw [w64_id (by omega) (by omega)]; simp
   have hxi := hx _ (List.getElem_mem hlt)
   have et : (xs.take (i + 1)).flatMap watch1 = (xs.take i).flatMap watch1 ++ watch1 xs[i] := by
    rw [List.take_succ_eq_append_getElem hlt,List.flatMap_append]; simp
   have hfl : (((xs.take i).flatMap watch1).map wishRow).length ≤ 1000 := by have := flat_len (xs.take i); rw [List.length_map]; rw [List.length_take] at this; omega
   rw [if_pos (by omega),a1,Option.bind_some,a2,Option.bind_some,single_spec (by decide) (by simp),Option.bind_some]
   generalize hs : xs[i] = s at *
   -- one more behind
   have more : ∀ (row : Int × List UInt8) (S1 : HS) (f1 : Fr m S S1) (hV1 : Vec m S1 2 out (((xs.take i).flatMap watch1).map wishRow)) (hm1 : m ≤ S1.next) (he : watch1 s = [row]),
     ∃ out' S',(letv (HS.lit S1 [wishRow row] 2) fun p8 => Option.bind (HS.rows (p8.2) (p8.1) 2) fun p9 => Option.bind (HS.app (p8.2) out p9 2) fun p10 => wish_Watch.J1 k (wish_Watch.L0 k f) (p10.1) x0 (xs.length : Int) (i : Int) (p10.2)) = some (out',S') ∧ Vec m S' 2 out' ((xs.flatMap watch1).map wishRow) ∧ Fr m S S' := by
    intro row S1 f1 hV1 hm1 he
    obtain ⟨l1,s',S2,l2,v2,f2⟩ := app_lit (wishRow row) hV1 hm1 (by omega)
    rw [letv,l1,Option.bind_some,l2,Option.bind_some,wish_Watch.J1,hi1]
    obtain ⟨out',S',g1,g2,g3⟩ := ih (i + 1) s' S2 (by omega) (by omega) (Nat.le_trans hm1 f2.le) (rows_same hr fun q h => (f1.trans f2).eq _ (hq q h)) (by rw [et,he,List.map_append]; exact v2)
    exact ⟨out',S',g1,g2,(f1.trans f2).trans g3⟩
   have none_ : ∀ (S1 : HS) (f1 : Fr m S S1) (hV1 : Vec m S1 2 out (((xs.take i).flatMap watch1).map wishRow)) (hm1 : m ≤ S1.next) (he : watch1 s = []),
     ∃ out' S',wish_Watch.J1 k (wish_Watch.L0 k f) out x0 (xs.length : Int) (i : Int) S1 = some (out',S') ∧ Vec m S' 2 out' ((xs.flatMap watch1).map wishRow) ∧ Fr m S S' := by
    intro S1 f1 hV1 hm1 he
    rw [wish_Watch.J1,hi1]
    obtain ⟨out',S',g1,g2,g3⟩ := ih (i + 1) out S1 (by omega) (by omega) hm1 (rows_same hr fun q h => f1.eq _ (hq q h)) (by rw [et,he,List.append_nil]; exact hV1)
    exact ⟨out',S',g1,g2,f1.trans g3⟩
   by_cases h0 : sing [] s = 0
   ·rw [if_neg (by simp [h0])]
    cases s with
    | nil =>
     rw [if_neg (by simp),wish_Watch.J3,if_neg (by simp),wish_Watch.J4,if_neg (by simp)]
     exact none_ S (Fr.refl _ _) hV hm (by unfold watch1; rw [if_neg (by simpa using h0)])
    | cons c t =>
     have sign : (c = 43 ∨ c = 45) → ∃ out' S',wish_Watch.J3 k (wish_Watch.L0 k f) out (c :: t) x0 (xs.length : Int) (i : Int) true S = some (out',S') ∧ Vec m S' 2 out' ((xs.flatMap watch1).map wishRow) ∧ Fr m S S' := by
      intro hc
      simp only [List.length_cons] at hxi
      obtain ⟨S1,e1,f1⟩ := nick_spec (k := k) (m := S.next) (x := t) (S := S) (by omega) hk (Nat.le_refl _)
      rw [wish_Watch.J3,if_pos rfl,if_pos ⟨by omega,by simp; omega,by omega⟩,cons_sub,e1,Option.bind_some,wish_Watch.J4]
      by_cases hb : nickB t = true
      ·rw [if_pos hb,show sat (c :: t) 0 = some c from rfl,Option.bind_some,if_pos ⟨by omega,by simp; omega,by omega⟩,cons_sub]
       exact more ((c.toNat : Int),t) S1 (f1.mono hm) (hV.frame f1 (Nat.le_refl _)) (Nat.le_trans hm f1.le) (by rw [watch1_cons h0,if_pos ⟨hc,hb⟩])
      ·rw [if_neg hb]
       exact none_ S1 (f1.mono hm) (hV.frame f1 (Nat.le_refl _)) (Nat.le_trans hm f1.le) (by rw [watch1_cons h0,if_neg (fun h => hb h.2)])
     have plain : ¬ (c = 43 ∨ c = 45) → ∃ out' S',wish_Watch.J3 k (wish_Watch.L0 k f) out (c :: t) x0 (xs.length : Int) (i : Int) false S = some (out',S') ∧ Vec m S' 2 out' ((xs.flatMap watch1).map wishRow) ∧ Fr m S S' := by
      intro hc
      rw [wish_Watch.J3,if_neg (by simp),wish_Watch.J4,if_neg (by simp)]
      exact none_ S (Fr.refl _ _) hV hm (by rw [watch1_cons h0,if_neg (fun h => hc h.1)])
     obtain ⟨u1,u2⟩ := u8_ok (z := 0) c
     rw [if_pos (by simp),show sat (c :: t) 0 = some c from rfl,Option.bind_some]
     by_cases h43 : c = 43
     ·rw [if_pos (u1.2 h43),wish_Watch.J2,if_pos (by simp)]
      exact sign (.inl h43)
     ·rw [if_neg (fun e => h43 (u1.1 e)),Option.bind_some,wish_Watch.J2,if_pos (by simp)]
      by_cases h45 : c = 45
      ·rw [decide_eq_true (u2.2 h45)]; exact sign (.inr h45)
      ·rw [decide_eq_false (fun e => h45 (u2.1 e))]; exact plain (by rintro (h | h); exact h43 h; exact h45 h)
   ·rw [if_pos (by simpa using h0)]
    exact more (sing [] s,[]) S (Fr.refl _ _) hV hm (by unfold watch1; rw [if_pos h0])
  ·obtain rfl : i = xs.length := by omega
   rw [List.take_length] at hV
   rw [if_neg (by omega)]
   exact ⟨out,S,rfl,hV,Fr.refl _ _⟩
theorem watch_spec {k : Nat} {xs : List (List UInt8)} {x0 : Sl} {S : HS} (hk : 2000 ≤ k) (hn : xs.length ≤ 1000) (hx : ∀ x ∈ xs,x.length ≤ 100) (hr : S.rows x0 1 = some (xs.map strRow)) (hq : ∀ q,x0.a = some q → q.1 < S.next) :
  ∃ out S',wish_Watch.f k x0 S = some (out,S') ∧ Vec S.next S' 2 out ((watB xs).map wishRow) ∧ Fr S.next S S' := by
 have hlen : x0.len = xs.length := by have := rows_len hr; simpa using this.symm
 rw [wish_Watch.f]
 by_cases h0 : xs = []
 ·subst h0
  rw [if_pos (by rw [hlen]; rfl),letv]
  exact ⟨_,_,rfl,Vec.lit _ (Nat.le_refl _),lit_fr _ (Nat.le_refl _)⟩
 ·have : xs.length ≠ 0 := fun h => h0 (List.length_eq_zero_iff.1 h)
  rw [if_neg (by rw [hlen]; omega),hlen]
  obtain ⟨out,S',g1,g2,g3⟩ := watch_loop (k := k) (m := S.next) hk hn hx hq k 0 Sl.nil S (by omega) (Nat.zero_le _) (Nat.le_refl _) hr (by rw [List.take_zero]; exact .nil)
  exact ⟨out,S',g1,by unfold watB; rw [if_neg h0]; exact g2,g3⟩
theorem texts_loop {k : Nat} {xs : List (List UInt8)} {x y : Sl} {S : HS} (hn : xs.length ≤ 1000) (h1 : S.rows x 1 = some (xs.map strRow)) (h2 : S.rows y 1 = some (xs.map strRow)) :
  ∀ (f i : Nat),xs.length - i < f → i ≤ xs.length → rollcallref01_Texts.L0 k f x y (i : Int) S = some (true,S) := by
 have hl : x.len = xs.length := by have := rows_len h1; simpa using this.symm
 intro f
 induction f with
 | zero => intro i h; omega
 | succ f ih =>
  intro i h hi
  rw [rollcallref01_Texts.L0]
  by_cases hlt : i < xs.length
  ·obtain ⟨a1,b1,c1⟩ := str_rows h1 hlt
   obtain ⟨a2,b2,c2⟩ := str_rows h2 hlt
   have hi1 : w64 ((i : Int) + 1) = ((i + 1 : Nat) : Int) := by rw [w64_id (by omega) (by omega)]; simp
   rw [if_pos (by omega),b1,Option.bind_some,c1,Option.bind_some,b2,Option.bind_some,c2,Option.bind_some,if_neg (by simp),hi1]
   exact ih (i + 1) (by omega) (by omega)
  ·rw [if_neg (by omega)]
theorem texts_spec {k : Nat} {xs : List (List UInt8)} {x y : Sl} {S : HS} (hk : 2000 ≤ k) (hn : xs.length ≤ 1000) (h1 : S.rows x 1 = some (xs.map strRow)) (h2 : S.rows y 1 = some (xs.map strRow)) : rollcallref01_Texts.f k x y S = some (true,S) := by
 have hl1 : x.len = xs.length := by have := rows_len h1; simpa using this.symm
 have hl2 : y.len = xs.length := by have := rows_len h2; simpa using this.symm
 rw [rollcallref01_Texts.f,hl1,hl2,if_neg (by simp)]
 exact texts_loop hn h1 h2 k 0 (by omega) (Nat.zero_le _)
theorem wish_rows {S : HS} {s : Sl} {xs : List (Int × List UInt8)} (h : S.rows s 2 = some (xs.map wishRow)) {i : Nat} (hi : i < xs.length) : ∃ ad,S.idx s (i : Int) 2 = some ad ∧ S.ldI .u8 (HA.fld ad 0) = some xs[i].1 ∧ S.ldS (HA.fld ad 1) = some xs[i].2 := by
 obtain ⟨ad,h1,h2,h3⟩ := rows_idx h (i := i) (by simpa using hi)
 rw [List.getElem_map] at h3
 exact ⟨ad,h1,row_ldI h3 h2 rfl,row_ldS h3 h2 rfl⟩
theorem ksame_wish (a : Int) (b : List UInt8) : kSames [(.int .u8 a),(.str b)] [(.int .u8 a),(.str b)] = some true := by simp [kSames,kSame1]
theorem awake_spec {S : HS} : ∃ S',rollcalllaw21_awake.f 2000 S = some (true,S') ∧ Fr S.next S S' := by
 rw [rollcalllaw21_awake.f,letv]
 have v1 : Vec S.next (S.lit ([[43],[97,110,110,44,44,49,120,44,98,111,98]].map strRow) 1).2 1 (S.lit ([[43],[97,110,110,44,44,49,120,44,98,111,98]].map strRow) 1).1 ([[43],[97,110,110,44,44,49,120,44,98,111,98]].map strRow) := Vec.lit _ (Nat.le_refl _)
 have f1 : Fr S.next S (S.lit ([[43],[97,110,110,44,44,49,120,44,98,111,98]].map strRow) 1).2 := lit_fr _ (Nat.le_refl _)
 have e0 : HS.lit S [[(.str ([43] : List UInt8))],[(.str ([97,110,110,44,44,49,120,44,98,111,98] : List UInt8))]] 1 = S.lit ([[43],[97,110,110,44,44,49,120,44,98,111,98]].map strRow) 1 := rfl
 rw [e0]
 generalize S.lit ([[43],[97,110,110,44,44,49,120,44,98,111,98]].map strRow) 1 = P1 at v1 f1 ⊢
 obtain ⟨p1,S1⟩ := P1
 simp only at v1 f1 ⊢
 obtain ⟨out,S2,e2,v2,f2⟩ := mon_spec (k := 2000) (xs := [[43],[97,110,110,44,44,49,120,44,98,111,98]]) (x0 := p1) (S := S1) (Nat.le_refl _) (by decide) v1.rows
 rw [show monB [[43],[97,110,110,44,44,49,120,44,98,111,98]] = (43,[[97,110,110],[98,111,98]]) from by decide +kernel] at e2 v2
 rw [e2,Option.bind_some,letv]
 have e3 : HS.lit S2 [[(.str ([43,97,110,110] : List UInt8))],[(.str ([45,98,111,98] : List UInt8))],[(.str ([99] : List UInt8))],[(.str ([120] : List UInt8))]] 1 = S2.lit ([[43,97,110,110],[45,98,111,98],[99],[120]].map strRow) 1 := rfl
 have v3 : Vec S2.next (S2.lit ([[43,97,110,110],[45,98,111,98],[99],[120]].map strRow) 1).2 1 (S2.lit ([[43,97,110,110],[45,98,111,98],[99],[120]].map strRow) 1).1 ([[43,97,110,110],[45,98,111,98],[99],[120]].map strRow) := Vec.lit _ (Nat.le_refl _)
 have f3 : Fr S2.next S2 (S2.lit ([[43,97,110,110],[45,98,111,98],[99],[120]].map strRow) 1).2 := lit_fr _ (Nat.le_refl _)
 simp only
 rw [e3]
 generalize S2.lit ([[43,97,110,110],[45,98,111,98],[99],[120]].map strRow) 1 = P3 at v3 f3 ⊢
 obtain ⟨p3,S3⟩ := P3
 simp only at v3 f3 ⊢
 have v23 := v2.frame f3 (Nat.le_refl _)
 obtain ⟨wo,S4,e4,v4,f4⟩ := watch_spec (k := 2000) (xs := [[43,97,110,110],[45,98,111,98],[99],[120]]) (x0 := p3) (S := S3) (Nat.le_refl _) (by decide) (by decide) v3.rows (fun q hq => (v3.lo q hq).2)
 rw [show watB [[43,97,110,110],[45,98,111,98],[99],[120]] = [(43,[97,110,110]),(45,[98,111,98]),(67,[])] from by decide +kernel] at v4
 have v24 := v23.frame f4 (Nat.le_refl _)
 rw [e4,Option.bind_some,if_pos trivial,letv]
 have e5 : HS.lit S4 [[(.str ([97,110,110] : List UInt8))],[(.str ([98,111,98] : List UInt8))]] 1 = S4.lit ([[97,110,110],[98,111,98]].map strRow) 1 := rfl
 have v5 : Vec S4.next (S4.lit ([[97,110,110],[98,111,98]].map strRow) 1).2 1 (S4.lit ([[97,110,110],[98,111,98]].map strRow) 1).1 ([[97,110,110],[98,111,98]].map strRow) := Vec.lit _ (Nat.le_refl _)
 have f5 : Fr S4.next S4 (S4.lit ([[97,110,110],[98,111,98]].map strRow) 1).2 := lit_fr _ (Nat.le_refl _)
 simp only
 rw [e5]
 generalize S4.lit ([[97,110,110],[98,111,98]].map strRow) 1 = P5 at v5 f5 ⊢
 obtain ⟨p5,S5⟩ := P5
 simp only at v5 f5 ⊢
 have v25 := v24.frame f5 (Nat.le_refl _)
 have v45 := v4.frame f5 (Nat.le_refl _)
 rw [texts_spec (xs := [[97,110,110],[98,111,98]]) (Nat.le_refl _) (by decide) v25.rows v5.rows,Option.bind_some]
 have hl : wo.len = 3 := v45.len
 obtain ⟨a0,b0,c0,d0⟩ := wish_rows v45.rows (i := 0) (by simp)
 obtain ⟨a1,b1,c1,d1⟩ := wish_rows v45.rows (i := 1) (by simp)
 obtain ⟨a2,b2,c2,d2⟩ := wish_rows v45.rows (i := 2) (by simp)
 rw [show ((0 : Nat) : Int) = 0 from rfl] at b0
 rw [show ((1 : Nat) : Int) = 1 from rfl] at b1
 rw [show ((2 : Nat) : Int) = 2 from rfl] at b2
 simp only [List.getElem_cons_zero,List.getElem_cons_succ] at c0 d0 c1 d1 c2 d2
 rw [rollcalllaw21_awake.J0,if_pos rfl,hl,show decide (((3 : Nat) : Int) = 3) = true from rfl,rollcalllaw21_awake.J1,if_pos rfl,b0,Option.bind_some,c0,Option.bind_some,d0,Option.bind_some,ksame_wish,Option.bind_some]
 rw [rollcalllaw21_awake.J2,if_pos rfl,b1,Option.bind_some,c1,Option.bind_some,d1,Option.bind_some,ksame_wish,Option.bind_some]
 rw [rollcalllaw21_awake.J3,if_pos rfl,b2,Option.bind_some,c2,Option.bind_some,d2,Option.bind_some,ksame_wish,Option.bind_some,rollcalllaw21_awake.J4]
 have l1 := f1.le
 have l2 := f2.le
 have l3 := f3.le
 have l4 := f4.le
 exact ⟨S5,rfl,(((f1.trans (f2.mono l1)).trans (f3.mono (by omega))).trans (f4.mono (by omega))).trans (f5.mono (by omega))⟩
end Go.Proofs.YtcphapfclncggaaDoor.X
namespace Go.Proofs.YtcphapfclncggaaDoor.X
open Go.Proofs.YtcphapfclncggaaDoor.HL
set_option linter.unusedVariables false
set_option maxRecDepth 100000
/-! ### lists of nothing -/
theorem of_nil {D : Dp} {H : Hd} {id : Int} {S : HS} : ∃ S',wish_Lists_Of.f D H none id S = some (.fn (.func 53) [] [.ptr (some (HA.cell0 (S.next + 2)))],S') ∧ S'.heap (S.next + 2) = .cells 1 [[Sl.nil.hv]] true ∧ S'.next = S.next + 3 ∧ Fr S.next S S' := by
 rw [wish_Lists_Of.f,letv,letv,letv]
 simp only [new_next]
 have c0 : (((S.new (.cells 1 [[.ptr none]] true)).new (.cells 1 [[.int .i64 id]] true)).new (.cells 1 [[Sl.nil.hv]] true)).heap S.next = .cells 1 [[.ptr none]] true := by
  rw [new_old _ (by simp only [new_next]; omega),new_old _ (by simp only [new_next]; omega)]; exact new_here _ _
 rw [ldP_cell c0,Option.bind_some,if_neg (by simp),wish_Lists_Of.J1]
 simp only [HS.leave,Option.bind_some]
 exact ⟨_,rfl,new_here ((S.new _).new _) _,rfl,((Fr.new (Nat.le_refl _) _).trans (Fr.new (by simp only [new_next]; omega) _)).trans (Fr.new (by simp only [new_next]; omega) _)⟩
theorem call_nil {H : Hd} {l c : Nat} {T : HS} (hc : T.heap c = .cells 1 [[Sl.nil.hv]] true) : disp 2000 4 H (.fn (.func 53) [] [.ptr (some (HA.cell0 c))]) [.fn (.yield l) [] []] T = some (.tup [],T) := by
 rw [disp_func]
 repeat rw [if_neg (by decide)]
 rw [if_pos rfl,call_53]
 simp only [List.nil_append,List.cons_append,args2,Option.bind_some,dF,dP]
 rw [wish_Lists_Of_1.f,Option.bind_some,ldSl_cell hc,Option.bind_some,wish_Lists_Of_1.L0,if_neg (by decide)]
 rfl
theorem clear_nil {id : Int} {S : HS} : ∃ S',wish_Lists_Clear.f (disp 2000 4) (fun _ => none) 2000 none id S = some (0,S') ∧ Fr S.next S S' := by
 rw [wish_Lists_Clear.f,letv,letv,letv]
 simp only [new_next]
 have c2' : (((S.new (.cells 1 [[.ptr none]] true)).new (.cells 1 [[.int .i64 id]] true)).new (.cells 1 [[.int .i64 0]] true)).heap (S.next + 2) = .cells 1 [[.int .i64 0]] true := new_here ((S.new _).new _) _
 rw [show S.next + 1 + 1 = S.next + 2 from rfl,sets_cell _ c2',Option.bind_some]
 have n3 : ((((S.new (.cells 1 [[.ptr none]] true)).new (.cells 1 [[.int .i64 id]] true)).new (.cells 1 [[.int .i64 0]] true)).put (S.next + 2) (.cells 1 [[.int .i64 0]] true)).next = S.next + 3 := rfl
 have f3 : Fr S.next S ((((S.new (.cells 1 [[.ptr none]] true)).new (.cells 1 [[.int .i64 id]] true)).new (.cells 1 [[.int .i64 0]] true)).put (S.next + 2) (.cells 1 [[.int .i64 0]] true)) := (((Fr.new (Nat.le_refl _) _).trans (Fr.new (by simp only [new_next]; omega) _)).trans (Fr.new (by simp only [new_next]; omega) _)).trans (Fr.put (by omega) _)
 have c0 : ((((S.new (.cells 1 [[.ptr none]] true)).new (.cells 1 [[.int .i64 id]] true)).new (.cells 1 [[.int .i64 0]] true)).put (S.next + 2) (.cells 1 [[.int .i64 0]] true)).heap S.next = .cells 1 [[.ptr none]] true := by
  rw [put_other _ (by omega),new_old _ (by simp only [new_next]; omega),new_old _ (by simp only [new_next]; omega)]; exact new_here _ _
 have c1 : ((((S.new (.cells 1 [[.ptr none]] true)).new (.cells 1 [[.int .i64 id]] true)).new (.cells 1 [[.int .i64 0]] true)).put (S.next + 2) (.cells 1 [[.int .i64 0]] true)).heap (S.next + 1) = .cells 1 [[.int .i64 id]] true := by
  rw [put_other _ (by omega),new_old _ (by simp only [new_next]; omega)]; exact new_here (S.new _) _
 have c2 : ((((S.new (.cells 1 [[.ptr none]] true)).new (.cells 1 [[.int .i64 id]] true)).new (.cells 1 [[.int .i64 0]] true)).put (S.next + 2) (.cells 1 [[.int .i64 0]] true)).heap (S.next + 2) = .cells 1 [[.int .i64 0]] true := put_here _ _ _
 generalize (((S.new (.cells 1 [[.ptr none]] true)).new (.cells 1 [[.int .i64 id]] true)).new (.cells 1 [[.int .i64 0]] true)).put (S.next + 2) (.cells 1 [[.int .i64 0]] true) = T at n3 f3 c0 c1 c2 ⊢
 obtain ⟨S1,e1,hc,n1,f1⟩ := of_nil (D := disp 2000 4) (H := fun _ => none) (id := id) (S := T)
 rw [ldP_cell c0,Option.bind_some,ldI_cell c1,Option.bind_some,e1,Option.bind_some]
 have f6 : Fr S1.next S1 ((S1.new .defer).new (.loop .ready none)) := (Fr.new (Nat.le_refl _) _).trans (Fr.new (by rw [new_next]; omega) _)
 have n6 : ((S1.new .defer).new (.loop .ready none)).next = S1.next + 2 := rfl
 have d6 : ((S1.new .defer).new (.loop .ready none)).heap S1.next = .defer := by rw [new_old _ (by rw [new_next]; omega)]; exact new_here _ _
 have l6 : ((S1.new .defer).new (.loop .ready none)).heap (S1.next + 1) = .loop .ready none := new_here (S1.new .defer) _
 simp only
 generalize (S1.new .defer).new (.loop .ready none) = C at f6 n6 d6 l6 ⊢
 rw [call_nil ((f6.eq _ (by omega)).trans hc),Option.bind_some]
 have e8 : C.finish (S1.next + 1) = some (none,C.put (S1.next + 1) (.loop .exhausted none)) := by simp [HS.finish,l6]
 simp only [e8,Option.bind_some,pcode,if_true]
 have y2 : (C.put (S1.next + 1) (.loop .exhausted none)).heap (S.next + 2) = .cells 1 [[.int .i64 0]] true := by
  rw [put_other _ (by omega),f6.eq _ (by omega),f1.eq _ (by omega)]; exact c2
 have y3 : (C.put (S1.next + 1) (.loop .exhausted none)).heap S1.next = .defer := by rw [put_other _ (by omega)]; exact d6
 rw [ldI_cell y2,Option.bind_some]
 simp only [HS.leave,y3,Option.bind_some]
 exact ⟨_,rfl,(((f3.trans (f1.mono (by omega))).trans (f6.mono (by omega))).trans (Fr.put (by omega) _)).trans (Fr.put (by omega) _)⟩
theorem names_nil {id : Int} {S : HS} : ∃ out S',rollcalllaw21_names.f (disp 2000 4) (fun _ => none) none id S = some ((out,true),S') ∧ out.len = 0 ∧ Fr S.next S S' := by
 obtain ⟨out,S',e,r,q,f⟩ := KS.Names.names_spec (D := disp 2000 4) (xs := []) (S := S) (r := none) (id := id) (fun T fT => by
  obtain ⟨S1,e1,hc,n1,f1⟩ := of_nil (D := disp 2000 4) (H := fun _ => none) (id := id) (S := T)
  exact ⟨_,_,_,S1,fun x => x = T.next + 2,e1,KS.of_tells (k := 2000) (n := 2) (s := Sl.nil) (xs := []) (by simp) (by simp) hc rfl _ ⟨rfl,fun q hq => by cases hq⟩,fun x hx => by subst hx; omega,f1⟩) (by simp)
 exact ⟨out,S',e,by have := rows_len r; simpa using this.symm,f⟩
theorem by_tells {n : Nat} {B : HS} (K : Nat → Prop) : Tells (disp 2000 (n + 2)) (.fn (.func 49) [] []) [] K B := by
 intro H l I Stop ht O S hI hB
 refine ⟨S,O,?_,Nat.le_refl _,fun _ _ _ => rfl,fun _ h => .inl h,.inl hI⟩
 rw [disp_func]
 repeat rw [if_neg (by decide)]
 rw [if_pos rfl,call_49]
 rfl
theorem clients_nil {name : List UInt8} {S : HS} : ∃ out S',rollcalllaw21_clients.f (disp 2000 4) (fun _ => none) 2000 none name S = some ((out,true),S') ∧ out.len = 0 ∧ Fr S.next S S' := by
 obtain ⟨out,S',e,r,q,f⟩ := KI.Clients.clients_spec (D := disp 2000 4) (xs := []) (S := S) (r := none) (b := name) (fun T fT => by
  refine ⟨.func 49,[],[],T,fun _ => False,?_,by_tells (n := 2) _,fun x hx => hx.elim,Fr.refl _ _⟩
  rw [wish_Lists_By.f,if_pos (by simp)]) (by simp)
 exact ⟨out,S',e,by have := rows_len r; simpa using this.symm,f⟩
/-! ### the law -/
theorem srt_one (v : List UInt8) : KS.Srt [v] := by simp [KS.Srt]
theorem wishNone_spec (id : Int) (name other : List UInt8) : ∃ S',rollcalllaw21_WishNone.f (disp 2000 4) (fun _ => none) 2000 id name other S0 = some (true,S') := by
 obtain ⟨S1,e1,f1⟩ := awake_spec (S := S0)
 rw [rollcalllaw21_WishNone.f,e1,Option.bind_some,if_neg (by simp)]
 by_cases h1 : (name.length : Int) > 30
 ·rw [if_pos h1,rollcalllaw21_WishNone.J0,if_pos rfl,rollcalllaw21_WishNone.J1,if_pos rfl]; exact ⟨_,rfl⟩
 rw [if_neg h1,rollcalllaw21_WishNone.J0]
 by_cases h2 : (other.length : Int) > 30
 ·rw [if_pos (by simpa using h2),rollcalllaw21_WishNone.J1,if_pos rfl]; exact ⟨_,rfl⟩
 rw [if_neg (by simpa using h2)]
 obtain ⟨S2,e2,f2⟩ := refSame_spec (k := 2000) (m := S1.next) (x := name) (y := other) (S := S1) (by omega) (by omega) (Nat.le_refl _) (Nat.le_refl _)
 rw [e2,Option.bind_some,rollcalllaw21_WishNone.J1]
 by_cases hs : name.map low = other.map low
 ·rw [if_pos (by simpa using hs)]; exact ⟨_,rfl⟩
 rw [if_neg (by simpa using hs)]
 obtain ⟨o3,S3,e3,z3,f3⟩ := names_nil (id := id) (S := S2)
 obtain ⟨o4,S4,e4,z4,f4⟩ := clients_nil (name := name) (S := S3)
 obtain ⟨S5,e5,f5⟩ := clear_nil (id := id) (S := S4)
 rw [e3,Option.bind_some,e4,Option.bind_some,if_neg (by simp),rollcalllaw21_WishNone.J2,if_neg (by simp),z3,z4,show (!decide (w64 (((0 : Nat) : Int) + ((0 : Nat) : Int)) = 0)) = false by decide,rollcalllaw21_WishNone.J3,if_neg (by simp),wish_Lists_Add.f,if_pos (by simp),Option.bind_some,show (!decide (((1 : Int),S4).1 = 1)) = false by simp,rollcalllaw21_WishNone.J4,if_neg (by simp),wish_Lists_Remove.f,if_pos (by simp),Option.bind_some,rollcalllaw21_WishNone.J5,if_neg (by simp),e5,Option.bind_some,show (!decide (((0 : Int),S5).1 = 0)) = false by simp,rollcalllaw21_WishNone.J6,if_neg (by simp),wish_Lists_Has.f,if_neg (by simp),Option.bind_some,rollcalllaw21_WishNone.J7,if_neg (by simp),wish_Lists_Count.f,if_pos (by simp),Option.bind_some,show (!decide (((0 : Int),S5).1 = 0)) = false by simp,rollcalllaw21_WishNone.J8,if_neg (by simp)]
 simp only
 obtain ⟨S6,e6,w6,f6,o6⟩ := new_w (most := 1) (by decide) (by decide) S5
 obtain ⟨S7,e7,w7,f7,o7⟩ := new_w (most := 0) (by decide) (by decide) S6
 have m1 : mx 0 (mn 1 100000) = 1 := by decide
 have m0 : mx 0 (mn 0 100000) = 0 := by decide
 rw [m1] at w6
 rw [m0] at w7
 have w6a := w6.fr f7
 have nil_srt : KS.Srt ([] : List KS.Ky) := by simp [KS.Srt]
 obtain ⟨F1,F2,S8,e8,w8,c8⟩ := add_w (k := 2000) (Nat.le_refl _) w7 (by omega) id name (by omega) (xs := []) nil_srt (by simp)
 simp only [List.map_nil,List.not_mem_nil,if_false,List.length_nil,Int.ofNat_zero,Int.le_refl,if_true] at e8
 have w6b := w6a.keep (fun x ho => c8.eq x (by have := w6a.ltO ho; exact this) (fun h' => by have a := o7 x h'; have b := w6.ltO ho; omega)) c8.le
 obtain ⟨G1,G2,S9,e9,w9,c9⟩ := add_w (k := 2000) (Nat.le_refl _) w6b (by omega) id name (by omega) (xs := []) nil_srt (by simp)
 simp only [List.map_nil,List.not_mem_nil,if_false,List.length_nil,List.nil_append] at e9 w9
 rw [if_neg (by decide)] at e9 w9
 have hm1 : ∀ v,v ∈ [name.map low] ↔ (id,v) ∈ [(id,name)].map pk := by intro v; simp [pk]
 obtain ⟨H1,H2,S10,e10,w10,c10⟩ := add_w (k := 2000) (Nat.le_refl _) w9 (by omega) id name (by omega) (srt_one _) hm1
 rw [if_pos (by simp [pk])] at e10 w10
 obtain ⟨J1,J2,S11,e11,w11,c11⟩ := add_w (k := 2000) (Nat.le_refl _) w10 (by omega) id other (by omega) (srt_one _) hm1
 have hno : (id,other.map low) ∉ [(id,name)].map pk := by simp [pk]; exact fun h => hs h.symm
 rw [if_neg hno,if_pos (by simp)] at e11 w11
 obtain ⟨K1,K2,S12,e12,w12,c12⟩ := WCl.clear_w w11 id (srt_one _) hm1 (by simp; omega)
 have hclr : clr id [(id,name)] = [] := by simp [clr]
 rw [hclr] at w12
 obtain ⟨L1,L2,S13,e13,w13,c13⟩ := add_w (k := 2000) (Nat.le_refl _) w12 (by omega) id other (by omega) (xs := []) nil_srt (by simp)
 simp only [List.map_nil,List.not_mem_nil,if_false,List.length_nil,List.nil_append] at e13 w13
 rw [if_neg (by decide)] at e13 w13
 obtain ⟨S14,e14,f14⟩ := has_w (k := 2000) (Nat.le_refl _) w13 id name (by omega)
 rw [decide_eq_false (by simp [pk]; exact hs)] at e14
 simp only [List.length_cons,List.length_nil] at e12
 rw [e6,Option.bind_some,e7,Option.bind_some,e8,Option.bind_some,if_pos (by rfl),e9,Option.bind_some,show decide (((0 : Int),S9).1 = 0) = true from rfl,rollcalllaw21_WishNone.J9,if_pos rfl,e10,Option.bind_some,show decide (((6 : Int),S10).1 = 6) = true from rfl,rollcalllaw21_WishNone.J10,if_pos rfl,e11,Option.bind_some,show decide (((7 : Int),S11).1 = 7) = true from rfl,rollcalllaw21_WishNone.J11,if_pos rfl,e12,Option.bind_some,show decide (((((0 + 1 : Nat)) : Int),S12).1 = 1) = true from rfl,rollcalllaw21_WishNone.J12,if_pos rfl,e13,Option.bind_some,show decide (((0 : Int),S13).1 = 0) = true from rfl,rollcalllaw21_WishNone.J13,if_pos rfl,e14,Option.bind_some,rollcalllaw21_WishNone.J14]
 exact ⟨S14,rfl⟩
theorem wishNone_call (W : World) (id : Int) {p : Prop} (_w : p) (name other : List UInt8) : HCall Tryd.prog W.heap.size W B0 5 [.int .i64 id,.str name,.str other] S0 (fun v _ => v = .bool true) := by
 obtain ⟨_,h⟩ := wishNone_spec id name other
 exact (rollcalllaw21_WishNone.snd (disp_snd 4) (fun _ _ h => by cases h) h).mono fun _ _ h => h.1
end Go.Proofs.YtcphapfclncggaaDoor.X
