/- The layer wish: strings.Split at a comma, plain. The layer wish: what the document tells of MONITOR and WATCH, plain. The document's lists of numbers, plain. The layer wish: the document's lists of names, plain. The layer wish: the document's lists, changed, plain. The layer wish: WishPlays, plain. -/
import Derived.Lib.Bytealg
import Derived.Test.YtcphapfclncggaaGreatDoorPart14
namespace Go.Proofs.YtcphapfclncggaaGreatDoor.X
open Go.Proofs.YtcphapfclncggaaGreatDoor.HL
set_option linter.unusedVariables false
def words : List UInt8 → List (List UInt8)
 | [] => [[]]
 | b :: s => if b = 44 then [] :: words s else match words s with
  | [] => [[b]]
  | w :: ws => (b :: w) :: ws
def headW (b : UInt8) : List (List UInt8) → List (List UInt8)
 | [] => [[b]]
 | w :: ws => (b :: w) :: ws
theorem words_co (s : List UInt8) : words (44 :: s) = [] :: words s := by rw [words,if_pos rfl]
theorem words_nco {b : UInt8} (s : List UInt8) (h : b ≠ 44) : words (b :: s) = headW b (words s) := by
 rw [words,if_neg h]
 cases words s <;> rfl
theorem words_ne (s : List UInt8) : words s ≠ [] := by
 cases s with
 | nil => simp [words]
 | cons b s =>
  unfold words
  split
  ·simp
  ·cases words s <;> simp
theorem words_none {s : List UInt8} (h : 44 ∉ s) : words s = [s] := by
 induction s with
 | nil => rfl
 | cons b s ih =>
  simp only [List.mem_cons,not_or] at h
  rw [words,if_neg (fun e => h.1 e.symm),ih h.2]
theorem words_some {a s : List UInt8} (h : 44 ∉ a) : words (a ++ 44 :: s) = a :: words s := by
 induction a with
 | nil => rw [List.nil_append,words,if_pos rfl]
 | cons b a ih =>
  simp only [List.mem_cons,not_or] at h
  rw [List.cons_append,words,if_neg (fun e => h.1 e.symm),ih h.2]
theorem words_len (s : List UInt8) : (words s).length = s.count 44 + 1 := by
 induction s with
 | nil => rfl
 | cons b s ih =>
  unfold words
  by_cases hb : b = 44
  ·rw [if_pos hb]; subst hb; simp [ih]
  ·rw [if_neg hb]
   cases hw : words s with
   | nil => exact absurd hw (words_ne s)
   | cons w ws => rw [hw] at ih; simp at ih; simp [hb,ih]
theorem bidx_eq (s : List UInt8) (c : UInt8) : bidx s (c.toNat : Int) = Lib.indexByte s c := by
 have h : ((c.toNat : Int).toNat).toUInt8 = c := by simp
 rw [bidx,h,Lib.firstIdx_eq]
theorem ixb_none {s : List UInt8} {c : UInt8} (h : c ∉ s) : Lib.indexByte s c = -1 := by
 induction s with
 | nil => rfl
 | cons b s ih =>
  simp only [List.mem_cons,not_or] at h
  unfold Lib.indexByte
  rw [if_neg (by simpa using fun e => h.1 e.symm),ih h.2]
  rfl
theorem ixb_some {a s : List UInt8} {c : UInt8} (h : c ∉ a) : Lib.indexByte (a ++ c :: s) c = a.length := by
 induction a with
 | nil => simp [Lib.indexByte]
 | cons b a ih =>
  simp only [List.mem_cons,not_or] at h
  rw [List.cons_append]
  unfold Lib.indexByte
  rw [if_neg (by simpa using fun e => h.1 e.symm),ih h.2,if_neg (by simp)]
  simp
theorem view (c : UInt8) (s : List UInt8) : c ∉ s ∨ ∃ a b,s = a ++ c :: b ∧ c ∉ a := by
 induction s with
 | nil => exact .inl (by simp)
 | cons x s ih =>
  by_cases h : x = c
  ·subst h; exact .inr ⟨[],s,rfl,by simp⟩
  ·rcases ih with h1 | ⟨a,b,rfl,h1⟩
   ·exact .inl (by simp [h1,Ne.symm h])
   ·exact .inr ⟨x :: a,b,rfl,by simp [h1,Ne.symm h]⟩
theorem index_one {k : Nat} {s : List UInt8} {c : UInt8} {S : HS} : internal_stringslite_Index.f k s [c] S = some (Lib.indexByte s c,S) := by
 unfold internal_stringslite_Index.f internal_stringslite_Index.J0
 rw [if_neg (by simp)]
 by_cases h : [c] = s
 ·rw [decide_eq_true h,if_pos rfl,← h]; simp [Lib.indexByte]
 ·rw [decide_eq_false h,if_neg (by simp),if_pos (by simp)]
  simp only [sat,Option.bind_some,internal_stringslite_IndexByte.f]
  simp [bidx_eq]
def strRow (x : List UInt8) : List HV := [.str x]
theorem count_words (s : List UInt8) : (words s).length = Lib.countByte s 44 + 1 := words_len s
theorem cut_a {S : HS} {s sc : Sl} {l h : Int} {z : Nat} (hc : S.cut s l h z = some sc) {q : Nat × Nat} (hq : sc.a = some q) : ∃ p,s.a = some p ∧ p.1 = q.1 := by
 obtain ⟨sa,n,c⟩ := s
 unfold HS.cut at hc
 split at hc
 ·cases sa with
  | none =>
   simp only at hc
   split at hc
   ·cases hc; cases hq
   ·cases hc
  | some p =>
   obtain ⟨id,off⟩ := p
   simp only at hc
   split at hc
   ·split at hc
    ·cases hc; cases hq; exact ⟨_,rfl,rfl⟩
    ·cases hc
   ·cases hc
 ·cases hc
theorem split_end {k : Nat} {m : Nat} {S : HS} {sl : Sl} {done : List (List UInt8)} {s : List UInt8} (hV : Vec m S 1 sl ((done ++ [[]]).map strRow)) (hd : done.length ≤ 1000) :
  ∃ sc S',strings_genSplit.J2 k s sl (done.length : Int) S = some (sc,S') ∧ S'.rows sc 1 = some ((done ++ [s]).map strRow) ∧ sc.len = done.length + 1 ∧ Fr m S S' ∧ (∀ q,sc.a = some q → m ≤ q.1 ∧ q.1 < S'.next) := by
 obtain ⟨ad,S1,h1,h2,h3,h4,h5,h6,h7,h8⟩ := hV.set_ (i := done.length) (row := [HV.str s]) (by simp) (by simp [strRow])
 have hset : ((done ++ [[]]).map strRow).set done.length [HV.str s] = (done ++ [s]).map strRow := by
  simp [strRow]
 rw [hset] at h5
 have hw : w64 ((done.length : Int) + 1) = (((done ++ [s]).map strRow).length : Int) := by rw [w64_id (by omega) (by omega)]; simp
 obtain ⟨sc,c1,c2⟩ := rows_cut h5.rows (m := 0) (Nat.zero_le _)
 refine ⟨sc,S1,?_,by simpa using c2,?_,h6,?_⟩
 ·rw [strings_genSplit.J2,h1,Option.bind_some,h4,Option.bind_some,hw]
  rw [show ((0 : Nat) : Int) = 0 from rfl] at c1
  rw [c1,Option.bind_some]
 ·have := rows_len c2; simpa using this.symm
 ·intro q hq
  obtain ⟨p,hp1,hp2⟩ := cut_a c1 hq
  have := h5.lo p hp1
  rw [← hp2]; exact this
theorem split_loop {k m : Nat} {sl : Sl} {n : Nat} (hn : n ≤ 1000) : ∀ (f : Nat) (done : List (List UInt8)) (s : List UInt8) (S : HS),n - done.length < f → done.length + (words s).length = n → s.length ≤ 1000 → Vec m S 1 sl ((done ++ List.replicate (n - done.length) []).map strRow) →
  ∃ sc S',strings_genSplit.L1 k f s [44] 0 ((n : Int) - 1) sl (done.length : Int) S = some (sc,S') ∧ S'.rows sc 1 = some ((done ++ words s).map strRow) ∧ sc.len = n ∧ Fr m S S' ∧ (∀ q,sc.a = some q → m ≤ q.1 ∧ q.1 < S'.next) := by
 intro f
 induction f with
 | zero => intro done s S h; omega
 | succ f ih =>
  intro done s S h hw hl hV
  have hpos : 0 < (words s).length := List.length_pos_iff.2 (words_ne s)
  unfold strings_genSplit.L1
  rcases view 44 s with hs | ⟨a,b,rfl,hs⟩
  ·have h1 : n = done.length + 1 := by rw [words_none hs] at hw; simpa using hw.symm
   have e1 : n - done.length = 1 := by omega
   rw [e1] at hV
   rw [if_neg (by omega),words_none hs]
   obtain ⟨sc,S',g1,g2,g3,g4,g5⟩ := split_end (k := k) (s := s) hV (by omega)
   exact ⟨sc,S',g1,g2,by omega,g4,g5⟩
  ·rw [words_some hs] at hw ⊢
   simp only [List.length_cons] at hw
   have hb : 0 < (words b).length := List.length_pos_iff.2 (words_ne b)
   simp at hl
   rw [if_pos (by omega)]
   unfold strings_Index.f
   rw [index_one,Option.bind_some,Option.bind_some,ixb_some hs]
   simp only []
   have hi : done.length < ((done ++ List.replicate (n - done.length) []).map strRow).length := by simp; omega
   obtain ⟨ad,S1,h1,h2,h3,h4,h5,h6,h7,h8⟩ := hV.set_ (i := done.length) (row := [HV.str a]) hi (by simp [strRow])
   have hset : ((done ++ List.replicate (n - done.length) ([] : List UInt8)).map strRow).set done.length [HV.str a] = ((done ++ [a]) ++ List.replicate (n - (done ++ [a]).length) []).map strRow := by
    have e : n - done.length = (n - (done ++ [a]).length) + 1 := by simp; omega
    rw [e,List.replicate_succ]
    simp [strRow]
   rw [hset] at h5
   have w0 : w64 ((a.length : Int) + 0) = (a.length : Int) := by rw [w64_id (by omega) (by omega)]; simp
   have w1 : w64 ((a.length : Int) + (([44] : List UInt8).length : Int)) = ((a.length + 1 : Nat) : Int) := by rw [w64_id (by simp; omega) (by simp; omega)]; simp
   have w2 : w64 ((done.length : Int) + 1) = ((done ++ [a]).length : Int) := by rw [w64_id (by omega) (by omega)]; simp
   have t1 : ssub (a ++ 44 :: b) 0 (a.length : Int) = a := by simp [ssub]
   have t2 : ssub (a ++ 44 :: b) ((a.length + 1 : Nat) : Int) ((a ++ 44 :: b).length : Int) = b := by
    simp only [ssub,Int.toNat_natCast]
    have e1 : (a ++ 44 :: b).drop (a.length + 1) = b := by simp [List.drop_append]
    rw [e1]
    exact List.take_of_length_le (by simp; omega)
   rw [if_neg (by omega),w0,w1,w2,if_pos ⟨by omega,by omega,by simp; omega⟩,h1,Option.bind_some,t1,h4,Option.bind_some,if_pos ⟨by omega,by simp; omega,by omega⟩,t2]
   obtain ⟨sc,S',g1,g2,g3,g4,g5⟩ := ih (done ++ [a]) b S1 (by simp; omega) (by simp; omega) (by omega) h5
   exact ⟨sc,S',g1,by simpa using g2,g3,h6.trans g4,g5⟩
theorem split_spec {k : Nat} {x : List UInt8} {S : HS} (hx : x.length ≤ 900) (hk : 2000 ≤ k) :
  ∃ sc S',strings_Split.f k x [44] S = some (sc,S') ∧ S'.rows sc 1 = some ((words x).map strRow) ∧ sc.len = (words x).length ∧ Fr S.next S S' ∧ (∀ q,sc.a = some q → S.next ≤ q.1 ∧ q.1 < S'.next) := by
 have hc := count_words x
 have hcl : Lib.countByte x 44 ≤ x.length := List.count_le_length
 have hn1 : w64 ((Lib.countByte x 44 : Int) + 1) = ((words x).length : Int) := by rw [w64_id (by omega) (by omega)]; omega
 have hn2 : mn ((words x).length : Int) (w64 ((x.length : Int) + 1)) = ((words x).length : Int) := by
  rw [w64_id (by omega) (by omega)]
  unfold mn
  split <;> omega
 have hn3 : w64 (((words x).length : Int) - 1) = ((words x).length : Int) - 1 := w64_id (by omega) (by omega)
 obtain ⟨sl,S1,e1,v1,f1⟩ := Vec.makeN (m := S.next) (S := S) (n := (words x).length) (c := (words x).length) (zr := [.str []]) (Nat.le_refl _) (Nat.le_refl _) (by omega)
 unfold strings_Split.f strings_genSplit.f
 rw [if_neg (by decide),if_neg (by simp),if_pos (by decide)]
 have hcount : strings_Count.f x [44] = some (Lib.countByte x 44 : Int) := rfl
 rw [hcount,Option.bind_some,hn1,strings_genSplit.J0,hn2,e1,Option.bind_some,hn3]
 have hv : Vec S.next S1 1 sl ((([] : List (List UInt8)) ++ List.replicate ((words x).length - ([] : List (List UInt8)).length) []).map strRow) := by
  simpa [strRow] using v1
 obtain ⟨sc,S',g1,g2,g3,g4,g5⟩ := split_loop (k := k) (n := (words x).length) (by omega) k [] x S1 (by simp; omega) (by simp) (by omega) hv
 refine ⟨sc,S',?_,by simpa using g2,g3,f1.trans g4,g5⟩
 rw [show ((([] : List (List UInt8)).length : Nat) : Int) = 0 from rfl] at g1
 rw [g1,Option.bind_some]
end Go.Proofs.YtcphapfclncggaaGreatDoor.X
namespace Go.Proofs.YtcphapfclncggaaGreatDoor.X
open Go.Proofs.YtcphapfclncggaaGreatDoor.HL
set_option linter.unusedVariables false
def sing (signs : List UInt8) (s : List UInt8) : Int := match s with
 | [c] => if c = 99 ∨ c = 67 then 67 else if c = 108 ∨ c = 76 then 76 else if c = 115 ∨ c = 83 then 83 else if c ∈ signs then c.toNat else 0
 | _ => 0
theorem sing_one (signs : List UInt8) (c : UInt8) : sing signs [c] = (if c = 99 ∨ c = 67 then 67 else if c = 108 ∨ c = 76 then 76 else if c = 115 ∨ c = 83 then 83 else if c ∈ signs then (c.toNat : Int) else 0 : Int) := rfl
theorem ixb_pos {s : List UInt8} {c : UInt8} : (0 ≤ Lib.indexByte s c) = (c ∈ s) := by
 apply propext
 constructor
 ·intro h
  apply Classical.byContradiction
  intro hn
  rw [ixb_none hn] at h
  omega
 ·intro h
  rcases view c s with hn | ⟨a,b,rfl,hn⟩
  ·exact absurd h hn
  ·rw [ixb_some hn]; omega
theorem low3 (c : UInt8) : (c = 99 ∧ Lib.indexByte [99,108,115] c = 0) ∨ (c = 108 ∧ Lib.indexByte [99,108,115] c = 1) ∨ (c = 115 ∧ Lib.indexByte [99,108,115] c = 2) ∨ (c ≠ 99 ∧ c ≠ 108 ∧ c ≠ 115 ∧ Lib.indexByte [99,108,115] c = -1) :=
 all_bytes (p := fun c => (c = 99 ∧ Lib.indexByte [99,108,115] c = 0) ∨ (c = 108 ∧ Lib.indexByte [99,108,115] c = 1) ∨ (c = 115 ∧ Lib.indexByte [99,108,115] c = 2) ∨ (c ≠ 99 ∧ c ≠ 108 ∧ c ≠ 115 ∧ Lib.indexByte [99,108,115] c = -1)) (by decide +kernel) c
theorem single_spec {k : Nat} {s signs : List UInt8} {S : HS} (hs : signs.length ≤ 10) (hb : ∀ c ∈ signs,c ≠ 99 ∧ c ≠ 108 ∧ c ≠ 115 ∧ c ≠ 67 ∧ c ≠ 76 ∧ c ≠ 83) : wish_single.f k s signs S = some (sing signs s,S) := by
 unfold wish_single.f
 by_cases h1 : s.length = 1
 ·obtain ⟨c,rfl⟩ : ∃ c,s = [c] := List.length_eq_one_iff.1 h1
  rw [if_neg (by simp),show sat [c] 0 = some c from rfl,Option.bind_some,strings_IndexByte.f,internal_stringslite_IndexByte.f,Option.bind_some,Option.bind_some]
  rw [bidx_eq]
  rcases low3 c with ⟨rfl,e⟩ | ⟨rfl,e⟩ | ⟨rfl,e⟩ | ⟨n1,n2,n3,e⟩
  ·rw [e,if_pos (by decide)]; rfl
  ·rw [e,if_pos (by decide)]; rfl
  ·rw [e,if_pos (by decide)]; rfl
  ·rw [e,if_neg (by decide),if_pos (by simp; omega),strings_Contains.f,strings_Index.f,index_one,Option.bind_some,Option.bind_some,Option.bind_some]
   have hp : decide (Lib.indexByte ([67,76,83] ++ signs) c ≥ 0) = decide (c ∈ ([67,76,83] ++ signs : List UInt8)) := by
    rw [decide_eq_decide,ge_iff_le,ixb_pos]
   simp only [hp]
   have hm : (c ∈ ([67,76,83] ++ signs : List UInt8)) ↔ (c = 67 ∨ c = 76 ∨ c = 83 ∨ c ∈ signs) := by simp
   by_cases hc : c ∈ ([67,76,83] ++ signs : List UInt8)
   ·rw [if_pos (by simpa using hc),Option.bind_some]
    have := hm.1 hc
    rw [sing_one]
    rcases this with rfl | rfl | rfl | h
    ·rfl
    ·rfl
    ·rfl
    ·obtain ⟨_,_,_,m1,m2,m3⟩ := hb c h
     rw [if_neg (by simp [n1,m1]),if_neg (by simp [n2,m2]),if_neg (by simp [n3,m3]),if_pos h]
   ·rw [if_neg (by simpa using hc)]
    have hn : ¬ (c = 67 ∨ c = 76 ∨ c = 83 ∨ c ∈ signs) := fun h => hc (hm.2 h)
    simp only [not_or] at hn
    rw [sing_one]
    rw [if_neg (by simp [n1,hn.1]),if_neg (by simp [n2,hn.2.1]),if_neg (by simp [n3,hn.2.2.1]),if_neg hn.2.2.2]
 ·have e0 : sing signs s = 0 := by
   unfold sing
   split
   ·simp at h1
   ·rfl
  rw [if_pos (by simpa using fun h => h1 (by omega)),e0]
theorem app_lit {m z : Nat} {S : HS} {sl : Sl} {rows : List (List HV)} (row : List HV) (h : Vec m S z sl rows) (hm : m ≤ S.next) (hl : rows.length ≤ 100000) :
  (S.lit [row] z).2.rows (S.lit [row] z).1 z = some [row] ∧ ∃ s' S',(S.lit [row] z).2.app sl [row] z = some (s',S') ∧ Vec m S' z s' (rows ++ [row]) ∧ Fr m S S' := by
 refine ⟨(Vec.lit (n := m) (z := z) (S := S) [row] hm).rows,?_⟩
 have lf : Fr S.next S (S.lit [row] z).2 := lit_fr _ (Nat.le_refl _)
 obtain ⟨s',S',e1,v1,f1⟩ := (h.frame lf (Nat.le_refl _)).app (new := [row]) (Nat.le_trans hm lf.le) (by simp; omega)
 exact ⟨s',S',e1,v1,(lf.mono hm).trans f1⟩
theorem str_rows {S : HS} {s : Sl} {xs : List (List UInt8)} (h : S.rows s 1 = some (xs.map strRow)) {i : Nat} (hi : i < xs.length) : ∃ ad,S.idx s (i : Int) 1 = some ad ∧ S.ldS ad = some xs[i] := by
 obtain ⟨ad,h1,h2,h3⟩ := rows_idx h (i := i) (by simpa using hi)
 refine ⟨ad,h1,?_⟩
 exact row_ldS (j := 0) (ad := ad) h3 h2 (by simp [strRow])
theorem str_row0 {S : HS} {s : Sl} {x : List UInt8} {xs : List (List UInt8)} (h : S.rows s 1 = some ((x :: xs).map strRow)) : ∃ ad,S.idx s 0 1 = some ad ∧ S.ldS ad = some x :=
 str_rows h (i := 0) (by simp)
theorem str_row1 {S : HS} {s : Sl} {x y : List UInt8} {xs : List (List UInt8)} (h : S.rows s 1 = some ((x :: y :: xs).map strRow)) : ∃ ad,S.idx s 1 1 = some ad ∧ S.ldS ad = some y :=
 str_rows h (i := 1) (by simp)
def monB : List (List UInt8) → Int × List (List UInt8)
 | [] => (0,[])
 | p :: r => if sing [43,45] p = 43 ∨ sing [43,45] p = 45 then match r with
   | [] => (sing [43,45] p,[])
   | s :: _ => (sing [43,45] p,(words s).filter nickB)
  else (sing [43,45] p,[])
theorem monB_no {p : List UInt8} {r : List (List UInt8)} (h : ¬ (sing [43,45] p = 43 ∨ sing [43,45] p = 45)) : monB (p :: r) = (sing [43,45] p,[]) := by
 unfold monB; simp only [if_neg h]
theorem vec_mono {n m z : Nat} {S : HS} {s : Sl} {rows : List (List HV)} (h : Vec n S z s rows) (hm : m ≤ n) : Vec m S z s rows := by
 cases h with
 | nil => exact .nil
 | open_ h hn hl => exact .open_ h (by omega) hl
 | capped h hn hl hc hr ht => exact .capped h (by omega) hl hc hr ht
theorem words_mem {s w : List UInt8} : w ∈ words s → w.length ≤ s.length := by
 induction s generalizing w with
 | nil => intro h; simp [words] at h; subst h; simp
 | cons b s ih =>
  intro h
  by_cases hb : b = 44
  ·subst hb
   rw [words_co] at h
   rcases List.mem_cons.1 h with rfl | h
   ·simp
   ·have := ih h; simp; omega
  ·rw [words_nco _ hb] at h
   cases hw : words s with
   | nil => exact absurd hw (words_ne s)
   | cons w0 ws =>
    rw [hw,headW] at h
    rcases List.mem_cons.1 h with rfl | h
    ·have := ih (w := w0) (by rw [hw]; simp); simp; omega
    ·have := ih (w := w) (by rw [hw]; simp [h]); simp; omega
theorem mon_loop {k m : Nat} {op : Int} {ws : List (List UInt8)} {y30 : Sl} (hk : 2000 ≤ k) (hn : ws.length ≤ 1000) (hw : ∀ w ∈ ws,w.length ≤ 1000) (hq : ∀ q,y30.a = some q → q.1 < m) :
  ∀ (f i : Nat) (out : Sl) (S : HS),ws.length - i < f → i ≤ ws.length → m ≤ S.next → S.rows y30 1 = some (ws.map strRow) → Vec m S 1 out (((ws.take i).filter nickB).map strRow) →
   ∃ out' S',wish_Monitor.L2 k f op out y30 (ws.length : Int) (i : Int) S = some ((op,out'),S') ∧ Vec m S' 1 out' ((ws.filter nickB).map strRow) ∧ Fr m S S' := by
 intro f
 induction f with
 | zero => intro i out S h; omega
 | succ f ih =>
  intro i out S h hi hm hr hV
  rw [wish_Monitor.L2]
  by_cases hlt : i < ws.length
  ·obtain ⟨ad,a1,a2⟩ := str_rows hr hlt
   obtain ⟨S1,e1,f1⟩ := nick_spec (k := k) (m := S.next) (x := ws[i]) (S := S) (hw _ (List.getElem_mem hlt)) hk (Nat.le_refl _)
   have hi1 : w64 ((i : Int) + 1) = ((i + 1 : Nat) : Int) := by rw [w64_id (by omega) (by omega)]; simp
   have f1m := f1.mono hm
   have hr1 : S1.rows y30 1 = some (ws.map strRow) := rows_same hr fun p hp => f1m.eq _ (hq p hp)
   have hV1 := hV.frame f1 (Nat.le_refl _)
   have hl1 : m ≤ S1.next := Nat.le_trans hm f1.le
   rw [if_pos (by omega),a1,Option.bind_some,a2,Option.bind_some,e1,Option.bind_some]
   by_cases hb : nickB ws[i] = true
   ·obtain ⟨l1,s',S2,l2,v2,f2⟩ := app_lit [.str ws[i]] hV1 hl1 (by
     have : ((ws.take i).filter nickB).length ≤ (ws.take i).length := List.length_filter_le _ _
     simp at this ⊢; omega)
    rw [hb,if_neg (by simp),letv,l1,Option.bind_some,l2,Option.bind_some,wish_Monitor.J3,hi1]
    have e : (ws.take (i + 1)).filter nickB = (ws.take i).filter nickB ++ [ws[i]] := by
     rw [List.take_succ_eq_append_getElem hlt,List.filter_append,List.filter_cons_of_pos hb,List.filter_nil]
    have hr2 : S2.rows y30 1 = some (ws.map strRow) := rows_same hr1 fun p hp => f2.eq _ (hq p hp)
    obtain ⟨out',S',g1,g2,g3⟩ := ih (i + 1) s' S2 (by omega) (by omega) (Nat.le_trans hl1 f2.le) hr2 (by rw [e,List.map_append]; exact v2)
    exact ⟨out',S',g1,g2,(f1m.trans f2).trans g3⟩
   ·have hb' : nickB ws[i] = false := by simpa using hb
    rw [hb',if_pos (by simp),wish_Monitor.J3,hi1]
    have e : (ws.take (i + 1)).filter nickB = (ws.take i).filter nickB := by
     rw [List.take_succ_eq_append_getElem hlt,List.filter_append,List.filter_cons_of_neg hb,List.filter_nil,List.append_nil]
    obtain ⟨out',S',g1,g2,g3⟩ := ih (i + 1) out S1 (by omega) (by omega) hl1 hr1 (by rw [e]; exact hV1)
    exact ⟨out',S',g1,g2,f1m.trans g3⟩
  ·obtain rfl : i = ws.length := by omega
   rw [List.take_length] at hV
   rw [if_neg (by omega)]
   exact ⟨out,S,rfl,hV,Fr.refl _ _⟩
theorem mon_signs : ∀ c ∈ ([43,45] : List UInt8),c ≠ 99 ∧ c ≠ 108 ∧ c ≠ 115 ∧ c ≠ 67 ∧ c ≠ 76 ∧ c ≠ 83 := by decide
theorem mon_spec {k : Nat} {xs : List (List UInt8)} {x0 : Sl} {S : HS} (hk : 2000 ≤ k) (hx : ∀ x ∈ xs,x.length ≤ 100) (hr : S.rows x0 1 = some (xs.map strRow)) :
  ∃ out S',wish_Monitor.f k x0 S = some (((monB xs).1,out),S') ∧ Vec S.next S' 1 out ((monB xs).2.map strRow) ∧ Fr S.next S S' := by
 have hlen : x0.len = xs.length := by have := rows_len hr; simpa using this.symm
 rw [wish_Monitor.f]
 cases xs with
 | nil =>
  rw [if_pos (by rw [hlen]; rfl)]
  exact ⟨Sl.nil,S,rfl,.nil,Fr.refl _ _⟩
 | cons p r =>
  obtain ⟨ad,a1,a2⟩ := str_row0 hr
  rw [if_neg (by rw [hlen]; simp; omega),a1,Option.bind_some,a2,Option.bind_some,single_spec (by decide) mon_signs,Option.bind_some]
  have last : (sing [43,45] p = 43 ∨ sing [43,45] p = 45) → ∃ out S',wish_Monitor.J0 k x0 (sing [43,45] p) false S = some (((monB (p :: r)).1,out),S') ∧ Vec S.next S' 1 out ((monB (p :: r)).2.map strRow) ∧ Fr S.next S S' := by
   intro hop
   rw [wish_Monitor.J0,if_neg (by simp),wish_Monitor.J1]
   cases r with
   | nil =>
    rw [if_pos (by rw [hlen]; simp),monB,if_pos hop]
    exact ⟨Sl.nil,S,rfl,.nil,Fr.refl _ _⟩
   | cons s r =>
    obtain ⟨ad2,b1,b2⟩ := str_row1 hr
    have hs : s.length ≤ 100 := hx s (by simp)
    obtain ⟨sc,S1,g1,g2,g3,g4,g5⟩ := split_spec (k := k) (x := s) (S := S) (by omega) hk
    have hwl : (words s).length ≤ 101 := by rw [words_len]; have : s.count 44 ≤ s.length := List.count_le_length; omega
    obtain ⟨out,S2,m1,m2,m3⟩ := mon_loop (k := k) (m := S1.next) (op := sing [43,45] p) (ws := words s) (y30 := sc) hk (by omega) (fun w hw => by have := words_mem hw; omega) (fun q hq => (g5 q hq).2) k 0 Sl.nil S1 (by omega) (Nat.zero_le _) (Nat.le_refl _) g2 (by rw [List.take_zero]; exact .nil)
    rw [if_neg (by rw [hlen]; simp; omega),b1,Option.bind_some,b2,Option.bind_some,g1,Option.bind_some,g3,monB,if_pos hop]
    rw [show ((0 : Nat) : Int) = 0 from rfl] at m1
    refine ⟨out,S2,m1,?_,g4.trans (m3.mono g4.le)⟩
    exact vec_mono m2 g4.le
  by_cases h43 : sing [43,45] p = 43
  ·rw [h43,if_neg (by simp),← h43]
   exact last (.inl h43)
  ·rw [if_pos (by simpa using h43)]
   by_cases h45 : sing [43,45] p = 45
   ·rw [h45,show (!decide ((45 : Int) = 45)) = false by simp,← h45]
    exact last (.inr h45)
   ·rw [show (!decide (sing [43,45] p = 45)) = true by simpa using h45,wish_Monitor.J0,if_pos rfl,wish_Monitor.J1,if_pos rfl,monB_no (by rintro (h | h); exact h43 h; exact h45 h)]
    exact ⟨Sl.nil,S,rfl,.nil,Fr.refl _ _⟩
def wishRow (x : Int × List UInt8) : List HV := [.int .u8 x.1,.str x.2]
def watch1 (s : List UInt8) : List (Int × List UInt8) :=
 if sing [] s ≠ 0 then [(sing [] s,[])] else match s with
  | c :: t => if (c = 43 ∨ c = 45) ∧ nickB t = true then [((c.toNat : Int),t)] else []
  | [] => []
def watB (xs : List (List UInt8)) : List (Int × List UInt8) := if xs = [] then [(76,[])] else xs.flatMap watch1
theorem watch1_len (s : List UInt8) : (watch1 s).length ≤ 1 := by
 unfold watch1
 split
 ·simp
 ·split
  ·split <;> simp
  ·simp
theorem watch1_cons {c : UInt8} {t : List UInt8} (h : sing [] (c :: t) = 0) : watch1 (c :: t) = if (c = 43 ∨ c = 45) ∧ nickB t = true then [((c.toNat : Int),t)] else [] := by
 unfold watch1; rw [if_neg (by simpa using h)]
theorem flat_len (xs : List (List UInt8)) : (xs.flatMap watch1).length ≤ xs.length := by
 induction xs with
 | nil => simp
 | cons x xs ih => have := watch1_len x; rw [List.flatMap_cons,List.length_append,List.length_cons]; omega
theorem u8_ok {z : Int} (c : UInt8) : ((c.toNat : Int) = 43 ↔ c = 43) ∧ ((c.toNat : Int) = 45 ↔ c = 45) := all_bytes (p := fun c => ((c.toNat : Int) = 43 ↔ c = 43) ∧ ((c.toNat : Int) = 45 ↔ c = 45)) (by decide +kernel) c
theorem cons_sub (c : UInt8) (t : List UInt8) : ssub (c :: t) 1 ((c :: t).length : Int) = t := by
 simp only [ssub,Int.toNat_natCast]
 exact List.take_of_length_le (by simp)
theorem watch_loop {k m : Nat} {xs : List (List UInt8)} {x0 : Sl} (hk : 2000 ≤ k) (hn : xs.length ≤ 1000) (hx : ∀ x ∈ xs,x.length ≤ 100) (hq : ∀ q,x0.a = some q → q.1 < m) :
  ∀ (f i : Nat) (out : Sl) (S : HS),xs.length - i < f → i ≤ xs.length → m ≤ S.next → S.rows x0 1 = some (xs.map strRow) → Vec m S 2 out (((xs.take i).flatMap watch1).map wishRow) →
   ∃ out' S',wish_Watch.L0 k f out x0 (xs.length : Int) (i : Int) S = some (out',S') ∧ Vec m S' 2 out' ((xs.flatMap watch1).map wishRow) ∧ Fr m S S' := by
 intro f
 induction f with
 | zero => intro i out S h; omega
 | succ f ih =>
  intro i out S h hi hm hr hV
  rw [wish_Watch.L0]
  by_cases hlt : i < xs.length
  ·obtain ⟨ad,a1,a2⟩ := str_rows hr hlt
   have hi1 : w64 ((i : Int) + 1) = ((i + 1 : Nat) : Int) := by rw [w64_id (by omega) (by omega)]; simp
   have hxi := hx _ (List.getElem_mem hlt)
   have et : (xs.take (i + 1)).flatMap watch1 = (xs.take i).flatMap watch1 ++ watch1 xs[i] := by
    rw [List.take_succ_eq_append_getElem hlt,List.flatMap_append]; simp
   have hfl : (((xs.take i).flatMap watch1).map wishRow).length ≤ 1000 := by have := flat_len (xs.take i); rw [List.length_map]; rw [List.length_take] at this; omega
   rw [if_pos (by omega),a1,Option.bind_some,a2,Option.bind_some,single_spec (by decide) (by simp),Option.bind_some]
   generalize hs : xs[i] = s at *
   -- one more behind
   have more : ∀ (row : Int × List UInt8) (S1 : HS) (f1 : Fr m S S1) (hV1 : Vec m S1 2 out (((xs.take i).flatMap watch1).map wishRow)) (hm1 : m ≤ S1.next) (he : watch1 s = [row]),
     ∃ out' S',(letv (HS.lit S1 [wishRow row] 2) fun p8 => Option.bind (HS.rows (p8.2) (p8.1) 2) fun p9 => Option.bind (HS.app (p8.2) out p9 2) fun p10 => wish_Watch.J1 k (wish_Watch.L0 k f) (p10.1) x0 (xs.length : Int) (i : Int) (p10.2)) = some (out',S') ∧ Vec m S' 2 out' ((xs.flatMap watch1).map wishRow) ∧ Fr m S S' := by
    intro row S1 f1 hV1 hm1 he
    obtain ⟨l1,s',S2,l2,v2,f2⟩ := app_lit (wishRow row) hV1 hm1 (by omega)
    rw [letv,l1,Option.bind_some,l2,Option.bind_some,wish_Watch.J1,hi1]
    obtain ⟨out',S',g1,g2,g3⟩ := ih (i + 1) s' S2 (by omega) (by omega) (Nat.le_trans hm1 f2.le) (rows_same hr fun q h => (f1.trans f2).eq _ (hq q h)) (by rw [et,he,List.map_append]; exact v2)
    exact ⟨out',S',g1,g2,(f1.trans f2).trans g3⟩
   have none_ : ∀ (S1 : HS) (f1 : Fr m S S1) (hV1 : Vec m S1 2 out (((xs.take i).flatMap watch1).map wishRow)) (hm1 : m ≤ S1.next) (he : watch1 s = []),
     ∃ out' S',wish_Watch.J1 k (wish_Watch.L0 k f) out x0 (xs.length : Int) (i : Int) S1 = some (out',S') ∧ Vec m S' 2 out' ((xs.flatMap watch1).map wishRow) ∧ Fr m S S' := by
    intro S1 f1 hV1 hm1 he
    rw [wish_Watch.J1,hi1]
    obtain ⟨out',S',g1,g2,g3⟩ := ih (i + 1) out S1 (by omega) (by omega) hm1 (rows_same hr fun q h => f1.eq _ (hq q h)) (by rw [et,he,List.append_nil]; exact hV1)
    exact ⟨out',S',g1,g2,f1.trans g3⟩
   by_cases h0 : sing [] s = 0
   ·rw [if_neg (by simp [h0])]
    cases s with
    | nil =>
     rw [if_neg (by simp),wish_Watch.J3,if_neg (by simp),wish_Watch.J4,if_neg (by simp)]
     exact none_ S (Fr.refl _ _) hV hm (by unfold watch1; rw [if_neg (by simpa using h0)])
    | cons c t =>
     have sign : (c = 43 ∨ c = 45) → ∃ out' S',wish_Watch.J3 k (wish_Watch.L0 k f) out (c :: t) x0 (xs.length : Int) (i : Int) true S = some (out',S') ∧ Vec m S' 2 out' ((xs.flatMap watch1).map wishRow) ∧ Fr m S S' := by
      intro hc
      simp only [List.length_cons] at hxi
      obtain ⟨S1,e1,f1⟩ := nick_spec (k := k) (m := S.next) (x := t) (S := S) (by omega) hk (Nat.le_refl _)
      rw [wish_Watch.J3,if_pos rfl,if_pos ⟨by omega,by simp; omega,by omega⟩,cons_sub,e1,Option.bind_some,wish_Watch.J4]
      by_cases hb : nickB t = true
      ·rw [if_pos hb,show sat (c :: t) 0 = some c from rfl,Option.bind_some,if_pos ⟨by omega,by simp; omega,by omega⟩,cons_sub]
       exact more ((c.toNat : Int),t) S1 (f1.mono hm) (hV.frame f1 (Nat.le_refl _)) (Nat.le_trans hm f1.le) (by rw [watch1_cons h0,if_pos ⟨hc,hb⟩])
      ·rw [if_neg hb]
       exact none_ S1 (f1.mono hm) (hV.frame f1 (Nat.le_refl _)) (Nat.le_trans hm f1.le) (by rw [watch1_cons h0,if_neg (fun h => hb h.2)])
     have plain : ¬ (c = 43 ∨ c = 45) → ∃ out' S',wish_Watch.J3 k (wish_Watch.L0 k f) out (c :: t) x0 (xs.length : Int) (i : Int) false S = some (out',S') ∧ Vec m S' 2 out' ((xs.flatMap watch1).map wishRow) ∧ Fr m S S' := by
      intro hc
      rw [wish_Watch.J3,if_neg (by simp),wish_Watch.J4,if_neg (by simp)]
      exact none_ S (Fr.refl _ _) hV hm (by rw [watch1_cons h0,if_neg (fun h => hc h.1)])
     obtain ⟨u1,u2⟩ := u8_ok (z := 0) c
     rw [if_pos (by simp),show sat (c :: t) 0 = some c from rfl,Option.bind_some]
     by_cases h43 : c = 43
     ·rw [if_pos (u1.2 h43),wish_Watch.J2,if_pos (by simp)]
      exact sign (.inl h43)
     ·rw [if_neg (fun e => h43 (u1.1 e)),Option.bind_some,wish_Watch.J2,if_pos (by simp)]
      by_cases h45 : c = 45
      ·rw [decide_eq_true (u2.2 h45)]; exact sign (.inr h45)
      ·rw [decide_eq_false (fun e => h45 (u2.1 e))]; exact plain (by rintro (h | h); exact h43 h; exact h45 h)
   ·rw [if_pos (by simpa using h0)]
    exact more (sing [] s,[]) S (Fr.refl _ _) hV hm (by unfold watch1; rw [if_pos h0])
  ·obtain rfl : i = xs.length := by omega
   rw [List.take_length] at hV
   rw [if_neg (by omega)]
   exact ⟨out,S,rfl,hV,Fr.refl _ _⟩
theorem watch_spec {k : Nat} {xs : List (List UInt8)} {x0 : Sl} {S : HS} (hk : 2000 ≤ k) (hn : xs.length ≤ 1000) (hx : ∀ x ∈ xs,x.length ≤ 100) (hr : S.rows x0 1 = some (xs.map strRow)) (hq : ∀ q,x0.a = some q → q.1 < S.next) :
  ∃ out S',wish_Watch.f k x0 S = some (out,S') ∧ Vec S.next S' 2 out ((watB xs).map wishRow) ∧ Fr S.next S S' := by
 have hlen : x0.len = xs.length := by have := rows_len hr; simpa using this.symm
 rw [wish_Watch.f]
 by_cases h0 : xs = []
 ·subst h0
  rw [if_pos (by rw [hlen]; rfl),letv]
  exact ⟨_,_,rfl,Vec.lit _ (Nat.le_refl _),lit_fr _ (Nat.le_refl _)⟩
 ·have : xs.length ≠ 0 := fun h => h0 (List.length_eq_zero_iff.1 h)
  rw [if_neg (by rw [hlen]; omega),hlen]
  obtain ⟨out,S',g1,g2,g3⟩ := watch_loop (k := k) (m := S.next) hk hn hx hq k 0 Sl.nil S (by omega) (Nat.zero_le _) (Nat.le_refl _) hr (by rw [List.take_zero]; exact .nil)
  exact ⟨out,S',g1,by unfold watB; rw [if_neg h0]; exact g2,g3⟩
theorem texts_loop {k : Nat} {xs : List (List UInt8)} {x y : Sl} {S : HS} (hn : xs.length ≤ 1000) (h1 : S.rows x 1 = some (xs.map strRow)) (h2 : S.rows y 1 = some (xs.map strRow)) :
  ∀ (f i : Nat),xs.length - i < f → i ≤ xs.length → rollcallref01_Texts.L0 k f x y (i : Int) S = some (true,S) := by
 have hl : x.len = xs.length := by have := rows_len h1; simpa using this.symm
 intro f
 induction f with
 | zero => intro i h; omega
 | succ f ih =>
  intro i h hi
  rw [rollcallref01_Texts.L0]
  by_cases hlt : i < xs.length
  ·obtain ⟨a1,b1,c1⟩ := str_rows h1 hlt
   obtain ⟨a2,b2,c2⟩ := str_rows h2 hlt
   have hi1 : w64 ((i : Int) + 1) = ((i + 1 : Nat) : Int) := by rw [w64_id (by omega) (by omega)]; simp
   rw [if_pos (by omega),b1,Option.bind_some,c1,Option.bind_some,b2,Option.bind_some,c2,Option.bind_some,if_neg (by simp),hi1]
   exact ih (i + 1) (by omega) (by omega)
  ·rw [if_neg (by omega)]
theorem texts_spec {k : Nat} {xs : List (List UInt8)} {x y : Sl} {S : HS} (hk : 2000 ≤ k) (hn : xs.length ≤ 1000) (h1 : S.rows x 1 = some (xs.map strRow)) (h2 : S.rows y 1 = some (xs.map strRow)) : rollcallref01_Texts.f k x y S = some (true,S) := by
 have hl1 : x.len = xs.length := by have := rows_len h1; simpa using this.symm
 have hl2 : y.len = xs.length := by have := rows_len h2; simpa using this.symm
 rw [rollcallref01_Texts.f,hl1,hl2,if_neg (by simp)]
 exact texts_loop hn h1 h2 k 0 (by omega) (Nat.zero_le _)
theorem wish_rows {S : HS} {s : Sl} {xs : List (Int × List UInt8)} (h : S.rows s 2 = some (xs.map wishRow)) {i : Nat} (hi : i < xs.length) : ∃ ad,S.idx s (i : Int) 2 = some ad ∧ S.ldI .u8 (HA.fld ad 0) = some xs[i].1 ∧ S.ldS (HA.fld ad 1) = some xs[i].2 := by
 obtain ⟨ad,h1,h2,h3⟩ := rows_idx h (i := i) (by simpa using hi)
 rw [List.getElem_map] at h3
 exact ⟨ad,h1,row_ldI h3 h2 rfl,row_ldS h3 h2 rfl⟩
theorem ksame_wish (a : Int) (b : List UInt8) : kSames [(.int .u8 a),(.str b)] [(.int .u8 a),(.str b)] = some true := by simp [kSames,kSame1]
theorem awake_spec {S : HS} : ∃ S',rollcalllaw21_awake.f 2000 S = some (true,S') ∧ Fr S.next S S' := by
 rw [rollcalllaw21_awake.f,letv]
 have v1 : Vec S.next (S.lit ([[43],[97,110,110,44,44,49,120,44,98,111,98]].map strRow) 1).2 1 (S.lit ([[43],[97,110,110,44,44,49,120,44,98,111,98]].map strRow) 1).1 ([[43],[97,110,110,44,44,49,120,44,98,111,98]].map strRow) := Vec.lit _ (Nat.le_refl _)
 have f1 : Fr S.next S (S.lit ([[43],[97,110,110,44,44,49,120,44,98,111,98]].map strRow) 1).2 := lit_fr _ (Nat.le_refl _)
 have e0 : HS.lit S [[(.str ([43] : List UInt8))],[(.str ([97,110,110,44,44,49,120,44,98,111,98] : List UInt8))]] 1 = S.lit ([[43],[97,110,110,44,44,49,120,44,98,111,98]].map strRow) 1 := rfl
 rw [e0]
 generalize S.lit ([[43],[97,110,110,44,44,49,120,44,98,111,98]].map strRow) 1 = P1 at v1 f1 ⊢
 obtain ⟨p1,S1⟩ := P1
 simp only at v1 f1 ⊢
 obtain ⟨out,S2,e2,v2,f2⟩ := mon_spec (k := 2000) (xs := [[43],[97,110,110,44,44,49,120,44,98,111,98]]) (x0 := p1) (S := S1) (Nat.le_refl _) (by decide) v1.rows
 rw [show monB [[43],[97,110,110,44,44,49,120,44,98,111,98]] = (43,[[97,110,110],[98,111,98]]) from by decide +kernel] at e2 v2
 rw [e2,Option.bind_some,letv]
 have e3 : HS.lit S2 [[(.str ([43,97,110,110] : List UInt8))],[(.str ([45,98,111,98] : List UInt8))],[(.str ([99] : List UInt8))],[(.str ([120] : List UInt8))]] 1 = S2.lit ([[43,97,110,110],[45,98,111,98],[99],[120]].map strRow) 1 := rfl
 have v3 : Vec S2.next (S2.lit ([[43,97,110,110],[45,98,111,98],[99],[120]].map strRow) 1).2 1 (S2.lit ([[43,97,110,110],[45,98,111,98],[99],[120]].map strRow) 1).1 ([[43,97,110,110],[45,98,111,98],[99],[120]].map strRow) := Vec.lit _ (Nat.le_refl _)
 have f3 : Fr S2.next S2 (S2.lit ([[43,97,110,110],[45,98,111,98],[99],[120]].map strRow) 1).2 := lit_fr _ (Nat.le_refl _)
 simp only
 rw [e3]
 generalize S2.lit ([[43,97,110,110],[45,98,111,98],[99],[120]].map strRow) 1 = P3 at v3 f3 ⊢
 obtain ⟨p3,S3⟩ := P3
 simp only at v3 f3 ⊢
 have v23 := v2.frame f3 (Nat.le_refl _)
 obtain ⟨wo,S4,e4,v4,f4⟩ := watch_spec (k := 2000) (xs := [[43,97,110,110],[45,98,111,98],[99],[120]]) (x0 := p3) (S := S3) (Nat.le_refl _) (by decide) (by decide) v3.rows (fun q hq => (v3.lo q hq).2)
 rw [show watB [[43,97,110,110],[45,98,111,98],[99],[120]] = [(43,[97,110,110]),(45,[98,111,98]),(67,[])] from by decide +kernel] at v4
 have v24 := v23.frame f4 (Nat.le_refl _)
 rw [e4,Option.bind_some,if_pos trivial,letv]
 have e5 : HS.lit S4 [[(.str ([97,110,110] : List UInt8))],[(.str ([98,111,98] : List UInt8))]] 1 = S4.lit ([[97,110,110],[98,111,98]].map strRow) 1 := rfl
 have v5 : Vec S4.next (S4.lit ([[97,110,110],[98,111,98]].map strRow) 1).2 1 (S4.lit ([[97,110,110],[98,111,98]].map strRow) 1).1 ([[97,110,110],[98,111,98]].map strRow) := Vec.lit _ (Nat.le_refl _)
 have f5 : Fr S4.next S4 (S4.lit ([[97,110,110],[98,111,98]].map strRow) 1).2 := lit_fr _ (Nat.le_refl _)
 simp only
 rw [e5]
 generalize S4.lit ([[97,110,110],[98,111,98]].map strRow) 1 = P5 at v5 f5 ⊢
 obtain ⟨p5,S5⟩ := P5
 simp only at v5 f5 ⊢
 have v25 := v24.frame f5 (Nat.le_refl _)
 have v45 := v4.frame f5 (Nat.le_refl _)
 rw [texts_spec (xs := [[97,110,110],[98,111,98]]) (Nat.le_refl _) (by decide) v25.rows v5.rows,Option.bind_some]
 have hl : wo.len = 3 := v45.len
 obtain ⟨a0,b0,c0,d0⟩ := wish_rows v45.rows (i := 0) (by simp)
 obtain ⟨a1,b1,c1,d1⟩ := wish_rows v45.rows (i := 1) (by simp)
 obtain ⟨a2,b2,c2,d2⟩ := wish_rows v45.rows (i := 2) (by simp)
 rw [show ((0 : Nat) : Int) = 0 from rfl] at b0
 rw [show ((1 : Nat) : Int) = 1 from rfl] at b1
 rw [show ((2 : Nat) : Int) = 2 from rfl] at b2
 simp only [List.getElem_cons_zero,List.getElem_cons_succ] at c0 d0 c1 d1 c2 d2
 rw [rollcalllaw21_awake.J0,if_pos rfl,hl,show decide (((3 : Nat) : Int) = 3) = true from rfl,rollcalllaw21_awake.J1,if_pos rfl,b0,Option.bind_some,c0,Option.bind_some,d0,Option.bind_some,ksame_wish,Option.bind_some]
 rw [rollcalllaw21_awake.J2,if_pos rfl,b1,Option.bind_some,c1,Option.bind_some,d1,Option.bind_some,ksame_wish,Option.bind_some]
 rw [rollcalllaw21_awake.J3,if_pos rfl,b2,Option.bind_some,c2,Option.bind_some,d2,Option.bind_some,ksame_wish,Option.bind_some,rollcalllaw21_awake.J4]
 have l1 := f1.le
 have l2 := f2.le
 have l3 := f3.le
 have l4 := f4.le
 exact ⟨S5,rfl,(((f1.trans (f2.mono l1)).trans (f3.mono (by omega))).trans (f4.mono (by omega))).trans (f5.mono (by omega))⟩
end Go.Proofs.YtcphapfclncggaaGreatDoor.X
namespace Go.Proofs.YtcphapfclncggaaGreatDoor.X
open Go.Proofs.YtcphapfclncggaaGreatDoor.HL
set_option linter.unusedVariables false
namespace KI
theorem refHas_spec {k : Nat} {s : Sl} {xs : List Ky} {t : Ky} {S : HS} (h : S.rows s 1 = some (xs.map row1)) (hl : xs.length < k) (hl2 : xs.length ≤ 1000000) : rollcallref10_Has.f k s t S = some (decide (t ∈ xs),S) := by
 have hsl : (s.len : Int) = xs.length := by rw [← rows_len h]; simp
 have hloop : ∀ f i,xs.length - i < f → i ≤ xs.length → rollcallref10_Has.L0 k f s t (i : Int) S = some (decide (t ∈ xs.drop i),S) := by
  intro f
  induction f with
  | zero => intro i h; omega
  | succ f ih =>
   intro i hf hi
   rw [rollcallref10_Has.L0,hsl]
   by_cases hlt : i < xs.length
   ·obtain ⟨ad,a1,a2⟩ := ldK_at h hlt
    rw [if_pos (by omega),a1,Option.bind_some,a2,Option.bind_some,List.drop_eq_getElem_cons hlt]
    by_cases he : xs[i] = t
    ·rw [if_pos he,decide_eq_true (by simp [he])]
    ·rw [if_neg he,w64_id (by omega) (by omega),show ((i : Int) + 1) = ((i + 1 : Nat) : Int) by simp,ih (i + 1) (by omega) (by omega)]
     have : (t ∈ xs[i] :: xs.drop (i + 1)) ↔ t ∈ xs.drop (i + 1) := by
      rw [List.mem_cons]; exact ⟨fun h => h.elim (fun e => absurd e.symm he) id,.inr⟩
     simp only [this]
   ·rw [if_neg (by omega),List.drop_of_length_le (by omega),decide_eq_false (by simp)]
 rw [rollcallref10_Has.f]
 exact (hloop k 0 (by omega) (Nat.zero_le _)).trans (by rw [List.drop_zero])
theorem refSame_spec {k : Nat} {s s' : Sl} {xs ys : List Ky} {S : HS} (h : S.rows s 1 = some (xs.map row1)) (h' : S.rows s' 1 = some (ys.map row1)) (hl : xs.length < k) (hl2 : xs.length ≤ 1000000) : rollcallref10_Same.f k s s' S = some (decide (xs = ys),S) := by
 have hsl : (s.len : Int) = xs.length := by rw [← rows_len h]; simp
 have hsl' : (s'.len : Int) = ys.length := by rw [← rows_len h']; simp
 rw [rollcallref10_Same.f,hsl,hsl']
 by_cases hle : xs.length = ys.length
 ·rw [if_neg (by simp [hle])]
  have hloop : ∀ f i,xs.length - i < f → i ≤ xs.length → xs.take i = ys.take i → rollcallref10_Same.L0 k f s s' (i : Int) S = some (decide (xs = ys),S) := by
   intro f
   induction f with
   | zero => intro i h; omega
   | succ f ih =>
    intro i hf hi ht
    rw [rollcallref10_Same.L0,hsl]
    by_cases hlt : i < xs.length
    ·obtain ⟨ad,a1,a2⟩ := ldK_at h hlt
     obtain ⟨ad',b1,b2⟩ := ldK_at h' (i := i) (by omega)
     rw [if_pos (by omega),a1,Option.bind_some,a2,Option.bind_some,b1,Option.bind_some,b2,Option.bind_some]
     by_cases he : xs[i] = ys[i]'(by omega)
     ·rw [if_neg (by simpa using he),w64_id (by omega) (by omega),show ((i : Int) + 1) = ((i + 1 : Nat) : Int) by simp]
      refine ih (i + 1) (by omega) (by omega) ?_
      rw [List.take_succ_eq_append_getElem hlt,List.take_succ_eq_append_getElem (by omega),ht,he]
     ·rw [if_pos (by simpa using he),decide_eq_false (fun e => he (by subst e; rfl))]
    ·rw [if_neg (by omega),decide_eq_true]
     rw [List.take_of_length_le (by omega),List.take_of_length_le (by omega)] at ht
     exact ht
  exact hloop k 0 (by omega) (Nat.zero_le _) (by simp)
 ·rw [if_pos (by simpa using fun h => hle (by exact_mod_cast h)),decide_eq_false (fun e => hle (by rw [e]))]
def addG (t : Ky) : List Ky → Bool → List Ky
 | [],true => []
 | [],false => [t]
 | x :: xs,true => x :: addG t xs true
 | x :: xs,false => if x > t then t :: x :: addG t xs true else x :: addG t xs false
def addL (t : Ky) (xs : List Ky) : List Ky := if t ∈ xs then xs else addG t xs false
theorem addG_true (t : Ky) : ∀ xs,addG t xs true = xs := by
 intro xs
 induction xs with
 | nil => rfl
 | cons x xs ih => rw [addG,ih]
theorem addG_mem (t v : Ky) : ∀ xs,v ∈ addG t xs false ↔ v = t ∨ v ∈ xs := by
 intro xs
 induction xs with
 | nil => simp [addG]
 | cons x xs ih =>
  rw [addG]
  split
  ·rw [addG_true]; simp
  ·rw [List.mem_cons,ih,List.mem_cons]
   constructor
   ·rintro (h | h | h)
    ·exact .inr (.inl h)
    ·exact .inl h
    ·exact .inr (.inr h)
   ·rintro (h | h | h)
    ·exact .inr (.inl h)
    ·exact .inl h
    ·exact .inr (.inr h)
theorem addL_mem (t v : Ky) (xs : List Ky) : v ∈ addL t xs ↔ v = t ∨ v ∈ xs := by
 unfold addL
 split
 ·rename_i h; exact ⟨.inr,fun g => g.elim (fun e => e ▸ h) id⟩
 ·exact addG_mem t v xs
theorem addG_srt {t : Ky} : ∀ {xs},Srt xs → t ∉ xs → Srt (addG t xs false) := by
 intro xs
 induction xs with
 | nil => intro _ _; exact List.pairwise_singleton _ _
 | cons x xs ih =>
  intro h hn
  have h' := List.pairwise_cons.1 h
  simp only [List.mem_cons,not_or] at hn
  rw [addG]
  split
  ·rename_i hx
   rw [addG_true]
   refine List.pairwise_cons.2 ⟨fun b hb => ?_,h⟩
   have hx' : klt t x = true := decide_eq_true hx
   rcases List.mem_cons.1 hb with rfl | g
   ·exact hx'
   ·exact klt_trans hx' (h'.1 b g)
  ·rename_i hx
   refine List.pairwise_cons.2 ⟨fun b hb => ?_,ih h'.2 hn.2⟩
   rcases (addG_mem t b xs).1 hb with rfl | g
   ·rcases klt_tri x b with g | g | g
    ·exact g
    ·exact absurd g.symm hn.1
    ·exact absurd (of_decide_eq_true g) hx
   ·exact h'.1 b g
theorem addL_srt {t : Ky} {xs : List Ky} (h : Srt xs) : Srt (addL t xs) := by
 unfold addL
 split
 ·exact h
 ·rename_i hn; exact addG_srt h hn
theorem addG_len (t : Ky) : ∀ xs,(addG t xs false).length = xs.length + 1 := by
 intro xs
 induction xs with
 | nil => rfl
 | cons x xs ih =>
  rw [addG]
  split
  ·rw [addG_true]; rfl
  ·rw [List.length_cons,ih]; rfl
theorem addL_len (t : Ky) (xs : List Ky) : (addL t xs).length ≤ xs.length + 1 ∧ xs.length ≤ (addL t xs).length := by
 unfold addL
 split
 ·exact ⟨by omega,Nat.le_refl _⟩
 ·rw [addG_len]; exact ⟨Nat.le_refl _,by omega⟩
theorem refAdd_spec {k : Nat} {s : Sl} {xs : List Ky} {t : Ky} {S : HS} (h : Rd S.next S 1 s (xs.map row1)) (hl : xs.length < k) (hl2 : xs.length < 100000) :
  ∃ s' S',rollcallref10_Add.f k s t S = some (s',S') ∧ Rd S'.next S' 1 s' ((addL t xs).map row1) ∧ Fr S.next S S' ∧ (s' = s ∨ ∀ q,s'.a = some q → S.next ≤ q.1) := by
 rw [rollcallref10_Add.f,refHas_spec h.rows hl (by omega),Option.bind_some]
 by_cases hm : t ∈ xs
 ·rw [if_pos (decide_eq_true hm)]
  refine ⟨s,S,rfl,?_,Fr.refl _ _,.inl rfl⟩
  unfold addL
  rw [if_pos hm]
  exact h
 ·rw [if_neg (by simpa using hm)]
  have hsl : (s.len : Int) = xs.length := by rw [h.len]; simp
  have hloop : ∀ f i d o T pre,xs.length - i < f → i ≤ xs.length → Vec S.next T 1 o (pre.map row1) → Fr S.next S T → pre.length ≤ 2 * i →
    ∃ s' S',rollcallref10_Add.L0 k f s t o d (i : Int) T = some (s',S') ∧ Vec S.next S' 1 s' ((pre ++ addG t (xs.drop i) d).map row1) ∧ Fr S.next S S' := by
   intro f
   induction f with
   | zero => intro i d o T pre h; omega
   | succ f ih =>
    intro i d o T pre hf hi hv hfr hpl
    have hnT := hfr.le
    rw [rollcallref10_Add.L0,hsl]
    have hJ3 : ∀ o2 T2 (ys : List Ky),Vec S.next T2 1 o2 (ys.map row1) → Fr S.next S T2 → ∃ s' S',rollcallref10_Add.J3 k o2 T2 = some (s',S') ∧ Vec S.next S' 1 s' (ys.map row1) ∧ Fr S.next S S' := fun o2 T2 ys h1 h2 => ⟨o2,T2,rfl,h1,h2⟩
    by_cases hlt : i < xs.length
    ·have hJ2 : ∀ d2 o2 T2 pre2,Vec S.next T2 1 o2 (pre2.map row1) → Fr S.next S T2 → pre2.length ≤ 2 * i + 1 →
       ∃ s' S',rollcallref10_Add.J2 k (rollcallref10_Add.L0 k f) s t o2 d2 (i : Int) T2 = some (s',S') ∧ Vec S.next S' 1 s' ((pre2 ++ xs[i] :: addG t (xs.drop (i + 1)) d2).map row1) ∧ Fr S.next S S' := by
      intro d2 o2 T2 pre2 h1 h2 h3
      obtain ⟨ad,a1,a2⟩ := ldK_at (h.frame h2 (Nat.le_refl _)).rows hlt
      have := h2.le
      obtain ⟨o3,T3,e3,r3,v3,f3,_⟩ := app1_spec xs[i] h1 (by omega) (by omega)
      rw [rollcallref10_Add.J2,a1,Option.bind_some,a2,Option.bind_some,letv,r3,Option.bind_some,e3,Option.bind_some,w64_id (by omega) (by omega),show ((i : Int) + 1) = ((i + 1 : Nat) : Int) by simp]
      obtain ⟨s',S',e4,v4,f4⟩ := ih (i + 1) d2 o3 T3 (pre2 ++ [xs[i]]) (by omega) (by omega) v3 (h2.trans f3) (by simp; omega)
      exact ⟨s',S',e4,by simpa using v4,f4⟩
     obtain ⟨ad,a1,a2⟩ := ldK_at (h.frame hfr (Nat.le_refl _)).rows hlt
     rw [if_pos (by omega),List.drop_eq_getElem_cons hlt]
     cases d with
     | true =>
      rw [if_neg (by simp),rollcallref10_Add.J1,if_neg (by simp),addG]
      exact hJ2 true o T pre hv hfr (by omega)
     | false =>
      rw [if_pos (by rfl),a1,Option.bind_some,a2,Option.bind_some,rollcallref10_Add.J1,addG]
      by_cases hx : xs[i] > t
      ·obtain ⟨o3,T3,e3,r3,v3,f3,_⟩ := app1_spec t hv (by omega) (by omega)
       rw [if_pos (decide_eq_true hx),if_pos hx,letv,r3,Option.bind_some,e3,Option.bind_some]
       obtain ⟨s',S',e4,v4,f4⟩ := hJ2 true o3 T3 _ v3 (hfr.trans f3) (by simp; omega)
       exact ⟨s',S',e4,by simpa using v4,f4⟩
      ·rw [if_neg (by simpa using hx),if_neg hx]
       exact hJ2 false o T pre hv hfr (by omega)
    ·rw [if_neg (by omega),List.drop_of_length_le (by omega)]
     cases d with
     | true => rw [if_neg (by simp)]; exact hJ3 o T _ (by simpa [addG] using hv) hfr
     | false =>
      obtain ⟨o3,T3,e3,r3,v3,f3,_⟩ := app1_spec t hv (by omega) (by omega)
      rw [if_pos (by rfl),letv,r3,Option.bind_some,e3,Option.bind_some]
      exact hJ3 o3 T3 _ v3 (hfr.trans f3)
  obtain ⟨s',S',e,v,f⟩ := hloop k 0 false Sl.nil S [] (by omega) (Nat.zero_le _) .nil (Fr.refl _ _) (by simp)
  refine ⟨s',S',e,?_,f,.inr fun q hq => (v.lo q hq).1⟩
  have := v.rd
  simpa [addL,hm] using this
end KI
end Go.Proofs.YtcphapfclncggaaGreatDoor.X
namespace Go.Proofs.YtcphapfclncggaaGreatDoor.X
open Go.Proofs.YtcphapfclncggaaGreatDoor.HL
set_option linter.unusedVariables false
theorem nodup_inj {α : Type} {l : List α} (h : l.Nodup) {i j : Nat} (hi : i < l.length) (hj : j < l.length) (e : l[i] = l[j]) : i = j := by
 have hp := List.pairwise_iff_getElem.1 (List.nodup_iff_pairwise_ne.1 h)
 rcases Nat.lt_trichotomy i j with g | g | g
 ·exact absurd e (hp i j hi hj g)
 ·exact g
 ·exact absurd e.symm (hp j i hj hi g)
def wRow (x : Wn) : List HV := [.int .i64 x.1,.str x.2]
structure RefW (p : Nat) (most : Int) (s : Sl) (X : List Wn) (S : HS) : Prop where
 cell : S.heap p = .cells 2 [[.int .i64 most,s.hv]] true
 rows : S.rows s 2 = some (X.map wRow)
 lt : p < S.next
 sl : ∀ q,s.a = some q → q.1 < S.next
 ne : ∀ q,s.a = some q → q.1 ≠ p
 ll : X.length ≤ 900
 nl : ∀ x ∈ X,x.2.length ≤ 1000
section
variable {p : Nat} {most : Int} {s : Sl} {X : List Wn} {S : HS}
theorem RefW.ltO (h : RefW p most s X S) {id : Nat} (ho : Own p s id) : id < S.next := by
 rcases ho with rfl | ⟨q,g,rfl⟩
 ·exact h.lt
 ·exact h.sl q g
theorem RefW.keep {S' : HS} (h : RefW p most s X S) (hk : ∀ id,Own p s id → S'.heap id = S.heap id) (hn : S.next ≤ S'.next) : RefW p most s X S' :=
 ⟨(hk _ (.inl rfl)).trans h.cell,rows_keep h.rows fun q hq => hk _ (.inr ⟨q,hq,rfl⟩),Nat.lt_of_lt_of_le h.lt hn,fun q hq => Nat.lt_of_lt_of_le (h.sl q hq) hn,h.ne,h.ll,h.nl⟩
theorem RefW.fr {S' : HS} (h : RefW p most s X S) (hf : Fr S.next S S') : RefW p most s X S' := h.keep (fun id ho => hf.eq id (h.ltO ho)) hf.le
theorem RefW.lds (h : RefW p most s X S) : S.ldSl (HA.fld (HA.cell0 p) 1) = some s := row_ldSl (cell_row h.cell) rfl rfl
theorem RefW.ldm (h : RefW p most s X S) : S.ldI .i64 (HA.fld (HA.cell0 p) 0) = some most := row_ldI (cell_row h.cell) rfl rfl
theorem RefW.slen (h : RefW p most s X S) : (s.len : Int) = X.length := by rw [← rows_len h.rows]; simp
theorem RefW.at_ (h : RefW p most s X S) {i : Nat} (hi : i < X.length) : ∃ ad,S.idx s (i : Int) 2 = some ad ∧ S.ldI .i64 (HA.fld ad 0) = some X[i].1 ∧ S.ldS (HA.fld ad 1) = some X[i].2 := by
 obtain ⟨ad,h1,h2,h3⟩ := rows_idx h.rows (i := i) (by simpa using hi)
 rw [List.getElem_map] at h3
 exact ⟨ad,h1,row_ldI h3 h2 rfl,row_ldS h3 h2 rfl⟩
theorem ref_at {k : Nat} (hk : 2000 ≤ k) (h : RefW p most s X S) (id : Int) (name : List UInt8) (hl : name.length ≤ 1000) :
  ∃ v S',rollcallref21_Lists_At.f k (some (HA.cell0 p)) id name S = some (v,S') ∧ Fr S.next S S' ∧ ((v = -1 ∧ (id,name.map low) ∉ X.map pk) ∨ ∃ j,∃ hj : j < X.length,v = (j : Int) ∧ pk X[j] = (id,name.map low)) := by
 have hll := h.ll
 have hloop : ∀ f i (T : HS),X.length - i < f → i ≤ X.length → Fr S.next S T → (∀ x ∈ X.take i,pk x ≠ (id,name.map low)) →
   ∃ v S',rollcallref21_Lists_At.L0 k f (some (HA.cell0 p)) id name (i : Int) T = some (v,S') ∧ Fr S.next S S' ∧ ((v = -1 ∧ (id,name.map low) ∉ X.map pk) ∨ ∃ j,∃ hj : j < X.length,v = (j : Int) ∧ pk X[j] = (id,name.map low)) := by
  intro f
  induction f with
  | zero => intro i T h; omega
  | succ f ih =>
   intro i T hf hi hfr hno
   have hT := h.fr hfr
   rw [rollcallref21_Lists_At.L0]
   simp only [Option.bind_some,hT.lds,hT.slen]
   by_cases hlt : i < X.length
   ·obtain ⟨ad,a1,a2,a3⟩ := hT.at_ hlt
    have hw : w64 ((i : Int) + 1) = ((i + 1 : Nat) : Int) := by rw [w64_id (by omega) (by omega)]; simp
    have next : pk X[i] ≠ (id,name.map low) → ∀ T',Fr S.next S T' → ∃ v S',rollcallref21_Lists_At.J1 k (rollcallref21_Lists_At.L0 k f) (some (HA.cell0 p)) id name (i : Int) false T' = some (v,S') ∧ Fr S.next S S' ∧ ((v = -1 ∧ (id,name.map low) ∉ X.map pk) ∨ ∃ j,∃ hj : j < X.length,v = (j : Int) ∧ pk X[j] = (id,name.map low)) := by
     intro hne T' hfr'
     rw [rollcallref21_Lists_At.J1,if_neg (by simp),hw]
     refine ih (i + 1) T' (by omega) (by omega) hfr' fun x hx => ?_
     rw [List.take_succ_eq_append_getElem hlt] at hx
     rcases List.mem_append.1 hx with g | g
     ·exact hno x g
     ·simp at g; subst g; exact hne
    rw [if_pos (by omega)]
    simp only [a1,a2,a3,Option.bind_some]
    by_cases h1 : X[i].1 = id
    ·obtain ⟨T2,e2,f2⟩ := refSame_spec (k := k) (m := T.next) (x := X[i].2) (y := name) (S := T) (h.nl _ (List.getElem_mem hlt)) hl hk (Nat.le_refl _)
     rw [if_pos h1,e2,Option.bind_some]
     by_cases h2 : X[i].2.map low = name.map low
     ·rw [decide_eq_true h2,rollcallref21_Lists_At.J1,if_pos rfl]
      exact ⟨_,T2,rfl,hfr.trans (f2.mono hfr.le),.inr ⟨i,hlt,rfl,by simp [pk,h1,h2]⟩⟩
     ·rw [decide_eq_false h2]
      exact next (by simp [pk,h2]) T2 (hfr.trans (f2.mono hfr.le))
    ·rw [if_neg h1]
     exact next (by simp [pk,h1]) T hfr
   ·obtain rfl : i = X.length := by omega
    rw [List.take_length] at hno
    rw [if_neg (by omega)]
    refine ⟨-1,T,rfl,hfr,.inl ⟨rfl,fun hm => ?_⟩⟩
    obtain ⟨x,hx,e⟩ := List.mem_map.1 hm
    exact hno x hx e
 rw [rollcallref21_Lists_At.f]
 exact hloop k 0 S (by omega) (Nat.zero_le _) (Fr.refl _ _) (by simp)
structure Gath (X : List Wn) (id : Int) (i : Nat) (o : List (List UInt8)) : Prop where
 srt : KS.Srt (o.map fun y => y.map low)
 mem : ∀ y,y ∈ o ↔ (id,y) ∈ X.take i
theorem Gath.len {X : List Wn} {id : Int} {i : Nat} {o : List (List UInt8)} (h : Gath X id i o) : o.length ≤ X.length := by
 have hnd : o.Nodup := by
  have : (o.map fun y => y.map low).Nodup := h.srt.imp fun {a b} h e => by subst e; rw [KS.klt_irrefl] at h; cases h
  rw [List.nodup_iff_pairwise_ne,List.pairwise_map] at this
  exact this.imp fun h e => h (by rw [e])
 have := nodup_sub (o.map fun y => ((id,y) : Wn)) X (by
  rw [List.nodup_iff_pairwise_ne,List.pairwise_map]
  exact hnd.imp fun h e => h (by simpa using e)) (fun x hx => by
  obtain ⟨y,hy,rfl⟩ := List.mem_map.1 hx
  exact List.mem_of_mem_take ((h.mem y).1 hy))
 simpa using this
theorem cmp_pos {x y : List UInt8} : cmpL x y > 0 ↔ KS.klt (y.map low) (x.map low) = true := by
 rw [cmpL_slt]
 have ht := KS.klt_tri (x.map low) (y.map low)
 have ha : KS.klt (x.map low) (y.map low) = true → KS.klt (y.map low) (x.map low) = false := KS.klt_asymm
 unfold KS.klt at ht ha ⊢
 by_cases h1 : slt (x.map low) (y.map low) = true
 ·rw [if_pos h1,ha h1]; simp
 ·rw [if_neg h1]
  by_cases h2 : x.map low = y.map low
  ·rw [if_pos h2,h2]; have := KS.klt_irrefl (y.map low); unfold KS.klt at this; simp [this]
  ·rw [if_neg h2]
   rcases ht with g | g | g
   ·exact absurd g h1
   ·exact absurd g h2
   ·simp [g]
theorem Gath.ins {X : List Wn} {id : Int} {i : Nat} {o : List (List UInt8)} (h : Gath X id i o) (hi : i < X.length) (hn : (X.map pk).Nodup) (h1 : X[i].1 = id) {a : Nat} (ha : a ≤ o.length)
  (hlo : ∀ y ∈ o.take a,KS.klt (y.map low) (X[i].2.map low) = true) (hhi : ∀ y ∈ o.drop a,KS.klt (X[i].2.map low) (y.map low) = true) : Gath X id (i + 1) (o.take a ++ [X[i].2] ++ o.drop a) := by
 constructor
 ·rw [List.map_append,List.map_append]
  have hs := h.srt
  rw [← List.take_append_drop a o,List.map_append] at hs
  obtain ⟨s1,s2,s3⟩ := List.pairwise_append.1 hs
  refine List.pairwise_append.2 ⟨List.pairwise_append.2 ⟨s1,by simp,fun u hu v hv => ?_⟩,s2,fun u hu v hv => ?_⟩
  ·obtain ⟨y,hy,rfl⟩ := List.mem_map.1 hu
   simp at hv; subst hv; simpa using hlo y hy
  ·rcases List.mem_append.1 hu with g | g
   ·exact s3 u g v hv
   ·simp at g; subst g
    obtain ⟨y,hy,rfl⟩ := List.mem_map.1 hv
    simpa using hhi y hy
 ·intro y
  have e : y ∈ o.take a ++ [X[i].2] ++ o.drop a ↔ y ∈ o ∨ y = X[i].2 := by
   have : y ∈ o ↔ y ∈ o.take a ∨ y ∈ o.drop a := by
    conv => lhs; rw [← List.take_append_drop a o]
    exact List.mem_append
   rw [this]; simp; constructor
   ·rintro (g | g | g)
    ·exact .inl (.inl g)
    ·exact .inr g
    ·exact .inl (.inr g)
   ·rintro ((g | g) | g)
    ·exact .inl g
    ·exact .inr (.inr g)
    ·exact .inr (.inl g)
  rw [e,h.mem,List.take_succ_eq_append_getElem hi,List.mem_append,List.mem_singleton]
  constructor
  ·rintro (g | g)
   ·exact .inl g
   ·exact .inr (by rw [g,← h1])
  ·rintro (g | g)
   ·exact .inl g
   ·exact .inr (by rw [← g])
theorem ref_of {k : Nat} (hk : 2000 ≤ k) (h : RefW p most s X S) (hn : (X.map pk).Nodup) (id : Int) :
  ∃ out S' o,rollcallref21_Lists_Of.f k (some (HA.cell0 p)) id S = some (out,S') ∧ Fr S.next S S' ∧ Vec S.next S' 1 out (o.map KS.row1) ∧ Gath X id X.length o := by
 have hll := h.ll
 have hloop : ∀ f i (T : HS) (y : Sl) (o : List (List UInt8)),X.length - i < f → i ≤ X.length → Fr S.next S T → Vec S.next T 1 y (o.map KS.row1) → Gath X id i o →
   ∃ out S' o,rollcallref21_Lists_Of.L0 k f (some (HA.cell0 p)) id y (i : Int) T = some (out,S') ∧ Fr S.next S S' ∧ Vec S.next S' 1 out (o.map KS.row1) ∧ Gath X id X.length o := by
  intro f
  induction f with
  | zero => intro i T y o h; omega
  | succ f ih =>
   intro i T y o hf hi hfr hV hG
   have hT := h.fr hfr
   have hol := hG.len
   rw [rollcallref21_Lists_Of.L0]
   simp only [Option.bind_some,hT.lds,hT.slen]
   by_cases hlt : i < X.length
   ·obtain ⟨ad,a1,a2,a3⟩ := hT.at_ hlt
    have hw : w64 ((i : Int) + 1) = ((i + 1 : Nat) : Int) := by rw [w64_id (by omega) (by omega)]; simp
    rw [if_pos (by omega)]
    simp only [a1,a2,Option.bind_some]
    by_cases h1 : X[i].1 = id
    ·rw [if_neg (by simpa using h1)]
     have hyl : (y.len : Int) = (o.length : Int) := by rw [hV.len]; simp
     rw [hyl]
     -- the place
     have hplace : ∀ g a (U : HS),a < g → a ≤ o.length → Fr S.next S U → Vec S.next U 1 y (o.map KS.row1) → (∀ z ∈ o.drop a,KS.klt (X[i].2.map low) (z.map low) = true) →
       ∃ out S' o,rollcallref21_Lists_Of.L2 k (rollcallref21_Lists_Of.L0 k f) g (some (HA.cell0 p)) id y (i : Int) (a : Int) U = some (out,S') ∧ Fr S.next S S' ∧ Vec S.next S' 1 out (o.map KS.row1) ∧ Gath X id X.length o := by
      intro g
      induction g with
      | zero => intro a U h; omega
      | succ g ihg =>
       intro a U hag hal hfU hVU hhi
       have hU := h.fr hfU
       obtain ⟨adU,b1,b2,b3⟩ := hU.at_ hlt
       have hle := hfU.le
       -- the end
       have fin : ∀ (W : HS),Fr S.next S W → Vec S.next W 1 y (o.map KS.row1) → (∀ z ∈ o.take a,KS.klt (z.map low) (X[i].2.map low) = true) →
         ∃ out S' o,rollcallref21_Lists_Of.J3 k (rollcallref21_Lists_Of.L2 k (rollcallref21_Lists_Of.L0 k f) g) (rollcallref21_Lists_Of.L0 k f) (some (HA.cell0 p)) id y (i : Int) (a : Int) false W = some (out,S') ∧ Fr S.next S S' ∧ Vec S.next S' 1 out (o.map KS.row1) ∧ Gath X id X.length o := by
        intro W hfW hVW hlo
        have hlW := hfW.le
        have hW := h.fr hfW
        rw [rollcallref21_Lists_Of.J3,if_neg (by simp)]
        obtain ⟨c1,d1,d2⟩ := rows_cutT hVW.rows (m := a) (by simpa using hal)
        obtain ⟨s3,S3,e3,v3,f3⟩ := (Vec.nil (n := W.next) (S := W) (z := 1) (c := none)).app (new := (o.map KS.row1).take a) (Nat.le_refl _) (by simp; omega)
        have v3' : S3.rows s3 1 = some ((o.map KS.row1).take a) := by have := v3.rows; simpa using this
        have hS3 := hW.fr f3
        have l3 := f3.le
        obtain ⟨ad3,g1,g2,g3⟩ := hS3.at_ hlt
        have v3n : Vec W.next S3 1 s3 ((o.map KS.row1).take a) := by simpa using v3
        have flit : Fr S3.next S3 (S3.lit [[.str X[i].2]] 1).2 := lit_fr _ (Nat.le_refl _)
        have rlit : (S3.lit [[.str X[i].2]] 1).2.rows (S3.lit [[.str X[i].2]] 1).1 1 = some [[.str X[i].2]] := (Vec.lit (n := 0) (z := 1) (S := S3) _ (Nat.zero_le _)).rows
        have llit := flit.le
        obtain ⟨s4,S4,e4,v4,f4⟩ := (v3n.frame flit (Nat.le_refl _)).app (new := [[.str X[i].2]]) (by omega) (by simp; omega)
        have l4 := f4.le
        have hyW : ∀ q,y.a = some q → q.1 < W.next := fun q hq => (hVW.lo q hq).2
        have hr4 : S4.rows y 1 = some (o.map KS.row1) := rows_keep hVW.rows fun q hq => by
         have := hyW q hq
         rw [f4.eq _ (by omega),flit.eq _ (by omega),f3.eq _ (by omega)]
        obtain ⟨c5,d5,d6⟩ := rows_cut hr4 (m := a) (by simpa using hal)
        obtain ⟨s6,S6,e6,v6,f6⟩ := v4.app (new := (o.map KS.row1).drop a) (by omega) (by simp; omega)
        have l6 := f6.le
        simp only [d1,d2,Option.bind_some,show Sl.nil = (⟨none,0,none⟩ : Sl) from rfl,e3,hS3.lds,g1,g3,letv,rlit,e4]
        have hyl2 : (y.len : Int) = ((o.map KS.row1).length : Int) := by rw [hyl]; simp
        rw [hyl2,d5,Option.bind_some,d6,Option.bind_some,e6,Option.bind_some,rollcallref21_Lists_Of.J1,hw]
        refine ih (i + 1) S6 s6 (o.take a ++ [X[i].2] ++ o.drop a) (by omega) (by omega) ((((hfW.trans (f3.mono hlW)).trans (flit.mono (by omega))).trans (f4.mono (by omega))).trans (f6.mono (by omega))) ?_ (hG.ins hlt hn h1 hal hlo hhi)
        have : (o.take a ++ [X[i].2] ++ o.drop a).map KS.row1 = (o.map KS.row1).take a ++ [[.str X[i].2]] ++ (o.map KS.row1).drop a := by simp [KS.row1,KS.kv]
        rw [this]
        exact vec_mono v6 (by omega)
       rw [rollcallref21_Lists_Of.L2]
       by_cases ha0 : 0 < a
       ·have ha1 : a - 1 < o.length := by omega
        have hwa : w64 ((a : Int) - 1) = ((a - 1 : Nat) : Int) := by rw [w64_id (by omega) (by omega)]; omega
        obtain ⟨adz,z1,z2⟩ := KS.ldK_at hVU.rows ha1
        rw [if_pos (by omega),hwa,z1,Option.bind_some,z2,Option.bind_some]
        simp only [Option.bind_some,hU.lds,b1,b3]
        have hmo := (hG.mem o[a - 1]).1 (List.getElem_mem ha1)
        obtain ⟨U2,e2,f2⟩ := refCompare_spec (k := k) (m := U.next) (x := o[a - 1]) (y := X[i].2) (S := U) (h.nl _ (List.mem_of_mem_take hmo)) (h.nl _ (List.getElem_mem hlt)) hk (Nat.le_refl _)
        have hfU2 := hfU.trans (f2.mono hle)
        have hV2 := hVU.frame f2 (Nat.le_refl _)
        rw [e2,Option.bind_some]
        by_cases hc : cmpL o[a - 1] X[i].2 > 0
        ·rw [decide_eq_true hc,rollcallref21_Lists_Of.J3,if_pos rfl,hwa]
         refine ihg (a - 1) U2 (by omega) (by omega) hfU2 hV2 fun z hz => ?_
         rw [List.drop_eq_getElem_cons ha1] at hz
         rcases List.mem_cons.1 hz with g | g
         ·subst g; exact cmp_pos.1 hc
         ·rw [show a - 1 + 1 = a by omega] at g; exact hhi z g
        ·rw [decide_eq_false hc]
         refine fin U2 hfU2 hV2 fun z hz => ?_
         -- all below are below
         have hlast : KS.klt (o[a - 1].map low) (X[i].2.map low) = true := by
          rcases KS.klt_tri (o[a - 1].map low) (X[i].2.map low) with g | g | g
          ·exact g
          ·exfalso
           have hj : ∃ j,∃ hj : j < X.length,j < i ∧ X[j] = (id,o[a - 1]) := by
            obtain ⟨j,hj,e⟩ := List.getElem_of_mem hmo
            simp at hj
            exact ⟨j,by omega,by omega,by simpa using e⟩
           obtain ⟨j,hj,hji,e⟩ := hj
           have hp : (X.map pk)[j]'(by simpa using hj) = (X.map pk)[i]'(by simpa using hlt) := by
            simp [pk,e,g,h1]
           have := nodup_inj hn _ _ hp
           omega
          ·exact absurd (cmp_pos.2 g) hc
         obtain ⟨j,hj,e⟩ := List.getElem_of_mem hz
         simp at hj
         rw [List.getElem_take] at e
         subst e
         rcases Nat.lt_or_ge j (a - 1) with g | g
         ·have hp := (List.pairwise_iff_getElem.1 hG.srt) j (a - 1) (by simp; omega) (by simp; omega) g
          simp only [List.getElem_map] at hp
          exact KS.klt_trans hp hlast
         ·obtain rfl : j = a - 1 := by omega
          exact hlast
       ·obtain rfl : a = 0 := by omega
        rw [if_neg (by omega)]
        exact fin U hfU hVU (by simp)
     exact hplace k o.length T (by omega) (Nat.le_refl _) hfr hV (by simp)
    ·rw [if_pos (by simpa using h1),rollcallref21_Lists_Of.J1,hw]
     refine ih (i + 1) T y o (by omega) (by omega) hfr hV ⟨hG.srt,fun z => ?_⟩
     rw [hG.mem,List.take_succ_eq_append_getElem hlt,List.mem_append,List.mem_singleton]
     exact ⟨.inl,fun g => g.elim (fun g => g) fun g => absurd (by rw [← g]) h1⟩
   ·obtain rfl : i = X.length := by omega
    rw [if_neg (by omega)]
    exact ⟨y,T,o,rfl,hfr,hV,hG⟩
 rw [rollcallref21_Lists_Of.f]
 exact hloop k 0 S Sl.nil [] (by omega) (Nat.zero_le _) (Fr.refl _ _) .nil ⟨List.Pairwise.nil,by simp⟩
theorem Gath.is {o : List (List UInt8)} {id : Int} (h : Gath X id X.length o) {xs : List KS.Ky} (hs : KS.Srt xs) (hn : (X.map pk).Nodup) (hm : ∀ v,v ∈ xs ↔ (id,v) ∈ X.map pk) : o = xs.map (spell X id) := by
 have hm2 := h.mem
 simp only [List.take_length] at hm2
 have e : (o.map fun y => y.map low) = xs := KS.srt_ext h.srt hs fun v => by
  rw [hm]
  constructor
  ·intro hv
   obtain ⟨y,hy,rfl⟩ := List.mem_map.1 hv
   exact List.mem_map.2 ⟨(id,y),(hm2 y).1 hy,rfl⟩
  ·intro hv
   obtain ⟨x,hx,e⟩ := List.mem_map.1 hv
   simp only [pk,Prod.mk.injEq] at e
   refine List.mem_map.2 ⟨x.2,(hm2 x.2).2 ?_,e.2⟩
   rw [← e.1]; exact hx
 rw [← e,List.map_map]
 conv => lhs; rw [← List.map_id o]
 apply List.map_congr_left
 intro y hy
 have hx := (hm2 y).1 hy
 have hmem : (id,y.map low) ∈ X.map pk := List.mem_map.2 ⟨(id,y),hx,rfl⟩
 obtain ⟨x,hx2,hp,hsp⟩ := spell_at hmem
 show y = spell X id (y.map low)
 rw [hsp]
 obtain ⟨i,hi,e1⟩ := List.getElem_of_mem hx
 obtain ⟨j,hj,e2⟩ := List.getElem_of_mem hx2
 have hp2 : (X.map pk)[i]'(by simpa using hi) = (X.map pk)[j]'(by simpa using hj) := by
  rw [List.getElem_map,List.getElem_map,e1,e2,hp]; rfl
 have := nodup_inj hn _ _ hp2
 subst this
 rw [e1] at e2
 rw [← e2]
end
end Go.Proofs.YtcphapfclncggaaGreatDoor.X
namespace Go.Proofs.YtcphapfclncggaaGreatDoor.X
open Go.Proofs.YtcphapfclncggaaGreatDoor.HL
set_option linter.unusedVariables false
section
variable {p : Nat} {most : Int} {s : Sl} {X : List Wn} {S : HS}
theorem ref_by {k : Nat} (hk : 2000 ≤ k) (h : RefW p most s X S) (name : List UInt8) (hl : name.length ≤ 1000) : ∃ so S' xs,rollcallref21_Lists_By.f k (some (HA.cell0 p)) name S = some (so,S') ∧ KI.Srt xs ∧ (∀ v,v ∈ xs ↔ (v,name.map low) ∈ X.map pk) ∧ S'.rows so 1 = some (xs.map KI.row1) ∧ Fr S.next S S' := by
 have hll := h.ll
 have hloop : ∀ f i (T : HS) (y : Sl) (xs : List Int),X.length - i < f → i ≤ X.length → Fr S.next S T → Rd T.next T 1 y (xs.map KI.row1) → KI.Srt xs → xs.length ≤ i → (∀ v,v ∈ xs ↔ (v,name.map low) ∈ (X.take i).map pk) →
   ∃ so S' xs,rollcallref21_Lists_By.L0 k f (some (HA.cell0 p)) name y (i : Int) T = some (so,S') ∧ KI.Srt xs ∧ (∀ v,v ∈ xs ↔ (v,name.map low) ∈ X.map pk) ∧ S'.rows so 1 = some (xs.map KI.row1) ∧ Fr S.next S S' := by
  intro f
  induction f with
  | zero => intro i T y xs h; omega
  | succ f ih =>
   intro i T y xs hfi hi hfr hv hs hxl hm
   have hT := h.fr hfr
   have hle := hfr.le
   rw [rollcallref21_Lists_By.L0]
   simp only [Option.bind_some,hT.lds,hT.slen]
   by_cases hlt : i < X.length
   ·obtain ⟨ad,a1,a2,a3⟩ := hT.at_ hlt
    have hw : w64 ((i : Int) + 1) = ((i + 1 : Nat) : Int) := by rw [w64_id (by omega) (by omega)]; simp
    obtain ⟨T1,e1,f1⟩ := refSame_spec (k := k) (m := T.next) (x := X[i].2) (y := name) (S := T) (h.nl _ (List.getElem_mem hlt)) hl hk (Nat.le_refl _)
    have hfr1 := hfr.trans (f1.mono hle)
    have hT1 := hT.fr f1
    obtain ⟨ad1,b1,b2,b3⟩ := hT1.at_ hlt
    have hv1 := (hv.frame f1 (Nat.le_refl _)).mono f1.le
    rw [if_pos (by omega)]
    simp only [a1,a3,Option.bind_some,e1]
    have htk : ∀ v,(v,name.map low) ∈ (X.take (i + 1)).map pk ↔ (v,name.map low) ∈ (X.take i).map pk ∨ (v,name.map low) = pk X[i] := fun v => by rw [List.take_succ_eq_append_getElem hlt,List.map_append,List.mem_append]; simp
    by_cases h1 : X[i].2.map low = name.map low
    ·obtain ⟨y2,T2,e2,r2,f2,_⟩ := KI.refAdd_spec (k := k) (t := X[i].1) hv1 (by omega) (by omega)
     rw [if_pos (decide_eq_true h1)]
     simp only [hT1.lds,b1,b2,Option.bind_some,e2]
     rw [rollcallref21_Lists_By.J1,hw]
     refine ih (i + 1) T2 y2 _ (by omega) (by omega) (hfr1.trans (f2.mono hfr1.le)) r2 (KI.addL_srt hs) (by have := (KI.addL_len X[i].1 xs).1; omega) fun v => ?_
     rw [KI.addL_mem,htk,← hm]
     constructor
     ·rintro (rfl | g)
      ·exact .inr (by rw [← h1]; rfl)
      ·exact .inl g
     ·rintro (g | g)
      ·exact .inr g
      ·exact .inl (congrArg Prod.fst g)
    ·rw [if_neg (by simpa using h1),rollcallref21_Lists_By.J1,hw]
     refine ih (i + 1) T1 y xs (by omega) (by omega) hfr1 hv1 hs (by omega) fun v => ?_
     rw [htk,← hm]
     exact ⟨.inl,fun g => g.elim (fun g => g) fun g => absurd (congrArg Prod.snd g).symm h1⟩
   ·obtain rfl : i = X.length := by omega
    rw [if_neg (by omega)]
    rw [List.take_length] at hm
    exact ⟨y,T,xs,rfl,hs,hm,hv.rows,hfr⟩
 rw [rollcallref21_Lists_By.f]
 exact hloop k 0 S Sl.nil [] (by omega) (Nat.zero_le _) (Fr.refl _ _) ⟨rfl,fun q hq => by cases hq⟩ List.Pairwise.nil (Nat.le_refl _) (fun v => by simp)
theorem RefW.put {S1 : HS} {s' : Sl} {X' : List Wn} (h : RefW p most s X S) (hf : Fr S.next S S1) (hr : S1.rows s' 2 = some (X'.map wRow)) (hq : ∀ q,s'.a = some q → S.next ≤ q.1 ∧ q.1 < S1.next) (hl : X'.length ≤ 900) (hn : ∀ x ∈ X',x.2.length ≤ 1000) :
  ∃ S2,S1.sets (HA.fld (HA.cell0 p) 1) [s'.hv] = some S2 ∧ RefW p most s' X' S2 ∧ Only p s s' S S2 := by
 have hlt := h.lt
 have hc : S1.heap p = .cells 2 [[.int .i64 most,s.hv]] true := (hf.eq p hlt).trans h.cell
 have hle := hf.le
 refine ⟨S1.put p (.cells 2 [[.int .i64 most,s'.hv]] true),(sets_row hc rfl (by simp)).trans rfl,⟨put_here _ _ _,rows_keep hr fun q hq' => put_other _ (by have := hq q hq'; omega),by rw [put_next]; omega,fun q hq' => (hq q hq').2,fun q hq' => by have := hq q hq'; omega,hl,hn⟩,⟨by rw [put_next]; exact hle,fun id h1 h2 => ?_,fun id ho => ?_⟩⟩
 ·rw [put_other _ (fun e => h2 (.inl e))]; exact hf.eq id h1
 ·rcases ho with g | ⟨q,g,rfl⟩
  ·exact .inl (.inl g)
  ·exact .inr (hq q g).1
theorem ref_add {k : Nat} (hk : 2000 ≤ k) (h : RefW p most s X S) (hn : (X.map pk).Nodup) (id : Int) (name : List UInt8) (hl : name.length ≤ 1000) (hll : X.length + 1 ≤ 900) {xs : List KS.Ky} (hs : KS.Srt xs) (hm : ∀ v,v ∈ xs ↔ (id,v) ∈ X.map pk) :
  ∃ s' S',rollcallref21_Lists_Add.f k (some (HA.cell0 p)) id name S = some ((if (id,name.map low) ∈ X.map pk then 6 else if most ≤ xs.length then 7 else 0),S') ∧ RefW p most s' (if (id,name.map low) ∈ X.map pk then X else if most ≤ xs.length then X else X ++ [(id,name)]) S' ∧ Only p s s' S S' := by
 obtain ⟨v,S1,e1,f1,hv⟩ := ref_at hk h id name hl
 have h1 := h.fr f1
 have l1 := f1.le
 rw [rollcallref21_Lists_Add.f,e1,Option.bind_some]
 rcases hv with ⟨rfl,hin⟩ | ⟨j,hj,rfl,hp⟩
 ·rw [if_neg (by simp)]
  simp only [hin,if_false]
  obtain ⟨out,S2,o,e2,f2,v2,g2⟩ := ref_of hk h1 hn id
  have ho := g2.is hs hn hm
  have h2 := h1.fr f2
  have l2 := f2.le
  have hol : (out.len : Int) = xs.length := by rw [v2.len,ho]; simp
  rw [e2,Option.bind_some]
  simp only [Option.bind_some,h2.ldm,h1.ldm,if_true,hol]
  by_cases hf : most ≤ (xs.length : Int)
  ·simp only [if_pos (show (xs.length : Int) ≥ most from hf),if_pos hf]
   exact ⟨s,S2,rfl,h2,Only.of_fr (f1.trans (f2.mono l1))⟩
  ·simp only [if_neg (show ¬ ((xs.length : Int) ≥ most) from hf),if_neg hf]
   have fl : Fr S2.next S2 (S2.lit [] 2).2 := lit_fr _ (Nat.le_refl _)
   have vl := Vec.lit (n := S2.next) (z := 2) (S := S2) [] (Nat.le_refl _)
   have nl : (S2.lit [] 2).2.next = S2.next + 1 := rfl
   rw [letv]
   generalize S2.lit [] 2 = P at fl vl nl ⊢
   obtain ⟨s3,S3⟩ := P
   simp only at fl vl nl ⊢
   have h3 := h2.fr fl
   obtain ⟨s4,S4,e4,v4,f4⟩ := vl.app (new := X.map wRow) (by omega) (by simp; omega)
   have l4 := f4.le
   rw [List.nil_append] at v4
   simp only [h3.lds,h3.rows,Option.bind_some,e4]
   obtain ⟨r5,s6,S6,e6,v6,f6⟩ := app_lit [.int .i64 id,.str name] v4 (by omega) (by simp; omega)
   have l6 := f6.le
   have ff : Fr S.next S S6 := (((f1.trans (f2.mono l1)).trans (fl.mono (by omega))).trans (f4.mono (by omega))).trans (f6.mono (by omega))
   have er : X.map wRow ++ [[.int .i64 id,.str name]] = (X ++ [(id,name)]).map wRow := by simp [wRow]
   rw [er] at v6
   obtain ⟨S7,e7,h7,o7⟩ := h.put ff v6.rows (fun q hq => by have := v6.lo q hq; omega) (by simp; omega) (fun x hx => by
    rcases List.mem_append.1 hx with g | g
    ·exact h.nl x g
    ·simp at g; subst g; exact hl)
   rw [letv,r5,Option.bind_some,e6,Option.bind_some,e7,Option.bind_some]
   exact ⟨s6,S7,rfl,h7,o7⟩
 ·have hin : (id,name.map low) ∈ X.map pk := List.mem_map.2 ⟨X[j],List.getElem_mem hj,hp⟩
  rw [if_pos (by omega)]
  simp only [hin,if_true]
  exact ⟨s,S1,rfl,h1,Only.of_fr f1⟩
theorem ref_remove {k : Nat} (hk : 2000 ≤ k) (h : RefW p most s X S) (hn : (X.map pk).Nodup) (id : Int) (name : List UInt8) (hl : name.length ≤ 1000) :
  ∃ s' S',rollcallref21_Lists_Remove.f k (some (HA.cell0 p)) id name S = some (decide ((id,name.map low) ∈ X.map pk),S') ∧ RefW p most s' (wox (id,name.map low) X) S' ∧ Only p s s' S S' := by
 obtain ⟨v,S1,e1,f1,hv⟩ := ref_at hk h id name hl
 have h1 := h.fr f1
 have l1 := f1.le
 have hll := h.ll
 rw [rollcallref21_Lists_Remove.f,e1,Option.bind_some]
 rcases hv with ⟨rfl,hin⟩ | ⟨j,hj,rfl,hp⟩
 ·rw [if_pos (by simp),wox_no hin,decide_eq_false hin]
  exact ⟨s,S1,rfl,h1,Only.of_fr f1⟩
 ·have hin : (id,name.map low) ∈ X.map pk := List.mem_map.2 ⟨X[j],List.getElem_mem hj,hp⟩
  rw [if_neg (by omega),decide_eq_true hin]
  have fl : Fr S1.next S1 (S1.lit [] 2).2 := lit_fr _ (Nat.le_refl _)
  have vl := Vec.lit (n := S1.next) (z := 2) (S := S1) [] (Nat.le_refl _)
  have nl : (S1.lit [] 2).2.next = S1.next + 1 := rfl
  rw [letv]
  generalize S1.lit [] 2 = P at fl vl nl ⊢
  obtain ⟨s3,S3⟩ := P
  simp only at fl vl nl ⊢
  have h3 := h1.fr fl
  have hsl := h.slen
  have hss : ∀ q,s.a = some q → q.1 < S1.next := fun q hq => h1.sl q hq
  -- the two cuts
  obtain ⟨c1,d1,d2⟩ := rows_cutT h3.rows (m := j) (by simp; omega)
  have d1' : S1.cut s 0 (j : Int) 2 = some c1 := by rw [← d1]; exact (cut_keep _ _ _ fun q hq => fl.eq _ (hss q hq)).symm
  obtain ⟨s4,S4,e4,v4,f4⟩ := vl.app (new := (X.map wRow).take j) (by omega) (by simp; omega)
  have l4 := f4.le
  rw [List.nil_append] at v4
  have h4 : RefW p most s X S4 := h3.keep (fun x ho => f4.eq x (by have := h1.ltO ho; omega)) f4.le
  have hw : w64 ((j : Int) + 1) = ((j + 1 : Nat) : Int) := by rw [w64_id (by omega) (by omega)]; simp
  obtain ⟨c5,d5,d6⟩ := rows_cut h4.rows (m := j + 1) (by simp; omega)
  have hlen : ((X.map wRow).length : Int) = (s.len : Int) := by rw [hsl]; simp
  rw [hlen] at d5
  have d5' : S3.cut s ((j + 1 : Nat) : Int) (s.len : Int) 2 = some c5 := by rw [← d5]; exact (cut_keep _ _ _ fun q hq => f4.eq _ (by have := hss q hq; omega)).symm
  have d5'' : S1.cut s ((j + 1 : Nat) : Int) (s.len : Int) 2 = some c5 := by rw [← d5']; exact (cut_keep _ _ _ fun q hq => fl.eq _ (hss q hq)).symm
  obtain ⟨s6,S6,e6,v6,f6⟩ := v4.app (new := (X.map wRow).drop (j + 1)) (by omega) (by simp; omega)
  have l6 := f6.le
  have ff : Fr S.next S S6 := ((f1.trans (fl.mono (by omega))).trans (f4.mono (by omega))).trans (f6.mono (by omega))
  have er : (X.map wRow).take j ++ (X.map wRow).drop (j + 1) = (wox (id,name.map low) X).map wRow := by
   rw [← List.eraseIdx_eq_take_drop_succ,← map_erase,erase_pk hn hj,hp]; rfl
  rw [er] at v6
  obtain ⟨S7,e7,h7,o7⟩ := h.put ff v6.rows (fun q hq => by have := v6.lo q hq; omega) (Nat.le_trans (List.length_filter_le _ _) hll) (fun x hx => h.nl x (wox_mem.1 hx).1)
  simp only [Option.bind_some,h3.lds,h1.lds,if_true,d1,d1',d2,e4,h4.lds,hw,d5,d5',d5'',d6,e6,e7]
  exact ⟨s6,S7,rfl,h7,o7⟩
theorem ref_clear {k : Nat} (hk : 2000 ≤ k) (h : RefW p most s X S) (hn : (X.map pk).Nodup) (id : Int) {xs : List KS.Ky} (hs : KS.Srt xs) (hm : ∀ v,v ∈ xs ↔ (id,v) ∈ X.map pk) :
  ∃ s' S',rollcallref21_Lists_Clear.f k (some (HA.cell0 p)) id S = some ((xs.length : Int),S') ∧ RefW p most s' (clr id X) S' ∧ Only p s s' S S' := by
 have hll := h.ll
 obtain ⟨out,S1,o,e1,f1,v1,g1⟩ := ref_of hk h hn id
 have ho := g1.is hs hn hm
 subst ho
 have hxl : xs.length ≤ 900 := by have := g1.len; simp at this; omega
 have hol : (out.len : Int) = xs.length := by rw [v1.len]; simp
 have hloop : ∀ f i (T : HS) (sT : Sl),xs.length - i < f → i ≤ xs.length → RefW p most sT (woxs id (xs.take i) X) T → Only p s sT S T → T.rows out 1 = some ((xs.map (spell X id)).map KS.row1) → (∀ q,out.a = some q → S.next ≤ q.1 ∧ q.1 < T.next) → (∀ q,out.a = some q → ¬ Own p sT q.1) →
   ∃ s' S',rollcallref21_Lists_Clear.L0 k f (some (HA.cell0 p)) id out (i : Int) T = some ((xs.length : Int),S') ∧ RefW p most s' (clr id X) S' ∧ Only p s s' S S' := by
  intro f
  induction f with
  | zero => intro i T sT h; omega
  | succ f ih =>
   intro i T sT hf hi hT oT hr hq hno
   rw [rollcallref21_Lists_Clear.L0,hol]
   by_cases hlt : i < xs.length
   ·obtain ⟨ad,a1,a2⟩ := KS.ldK_at hr (i := i) (by simpa using hlt)
    rw [List.getElem_map] at a2
    have hmem : (id,xs[i]) ∈ X.map pk := (hm _).1 (List.getElem_mem hlt)
    obtain ⟨x,hx,hp,hsp⟩ := spell_at hmem
    have hnT : ((woxs id (xs.take i) X).map pk).Nodup := by
     rw [woxs_filter]; exact hn.sublist (List.Sublist.map _ List.filter_sublist)
    obtain ⟨s2,T2,e2,h2,o2⟩ := ref_remove hk hT hnT id (spell X id xs[i]) (by rw [hsp]; exact h.nl x hx)
    rw [spell_low hmem] at e2 h2
    have l2 := o2.le
    rw [if_pos (by omega),a1,Option.bind_some,a2,Option.bind_some,e2,Option.bind_some,w64_id (by omega) (by omega),show ((i : Int) + 1) = ((i + 1 : Nat) : Int) by simp]
    have e : woxs id (xs.take (i + 1)) X = wox (id,xs[i]) (woxs id (xs.take i) X) := by
     unfold woxs
     rw [List.take_succ_eq_append_getElem hlt,List.foldl_append]; rfl
    refine ih (i + 1) T2 s2 (by omega) (by omega) (by rw [e]; exact h2) (oT.trans o2) (rows_keep hr fun q hq' => o2.eq q.1 (hq q hq').2 (hno q hq')) (fun q hq' => ⟨(hq q hq').1,Nat.lt_of_lt_of_le (hq q hq').2 l2⟩) (fun q hq' ho => ?_)
    rcases o2.own _ ho with g | g
    ·exact hno q hq' g
    ·have := (hq q hq').2; omega
   ·obtain rfl : i = xs.length := by omega
    rw [List.take_length,woxs_all hm] at hT
    rw [if_neg (by omega)]
    exact ⟨sT,T,rfl,hT,oT⟩
 rw [rollcallref21_Lists_Clear.f,e1,Option.bind_some]
 refine hloop k 0 S1 s (by omega) (Nat.zero_le _) (by rw [List.take_zero]; exact h.fr f1) (Only.of_fr f1) v1.rows (fun q hq => v1.lo q hq) (fun q hq ho => ?_)
 have := h.ltO ho
 have := v1.lo q hq
 omega
end
end Go.Proofs.YtcphapfclncggaaGreatDoor.X
namespace Go.Proofs.YtcphapfclncggaaGreatDoor.X
open Go.Proofs.YtcphapfclncggaaGreatDoor.HL
set_option linter.unusedVariables false
abbrev Ac := Int × Int × List UInt8
def actRow (a : Ac) : List HV := [.int .i64 a.1,.int .i64 a.2.1,.str a.2.2]
theorem act_rows {S : HS} {s : Sl} {xs : List Ac} (h : S.rows s 3 = some (xs.map actRow)) {i : Nat} (hi : i < xs.length) : ∃ ad,S.idx s (i : Int) 3 = some ad ∧ S.ldI .i64 (HA.fld ad 0) = some xs[i].1 ∧ S.ldI .i64 (HA.fld ad 1) = some xs[i].2.1 ∧ S.ldS (HA.fld ad 2) = some xs[i].2.2 := by
 obtain ⟨ad,h1,h2,h3⟩ := rows_idx h (i := i) (by simpa using hi)
 rw [List.getElem_map] at h3
 exact ⟨ad,h1,row_ldI h3 h2 rfl,row_ldI h3 h2 rfl,row_ldS h3 h2 rfl⟩
theorem great_spec {S : HS} {s : Sl} {ls : List Ac} (hr : S.rows s 3 = some (ls.map actRow)) : ∃ b,rollcalllaw21_great.f 2000 s S = some (b,S) ∧ (b = false → ls.length ≤ 40 ∧ ∀ a ∈ ls,a.2.2.length ≤ 30) := by
 have hsl : (s.len : Int) = ls.length := by rw [← rows_len hr]; simp
 rw [rollcalllaw21_great.f,hsl]
 by_cases h40 : 40 < ls.length
 ·rw [if_pos (by omega)]; exact ⟨true,rfl,fun h => by cases h⟩
 rw [if_neg (by omega)]
 have hloop : ∀ f i,ls.length - i < f → i ≤ ls.length → (∀ a ∈ ls.take i,a.2.2.length ≤ 30) → ∃ b,rollcalllaw21_great.L0 2000 f s (i : Int) S = some (b,S) ∧ (b = false → ls.length ≤ 40 ∧ ∀ a ∈ ls,a.2.2.length ≤ 30) := by
  intro f
  induction f with
  | zero => intro i h; omega
  | succ f ih =>
   intro i hf hi hall
   rw [rollcalllaw21_great.L0,hsl]
   by_cases hlt : i < ls.length
   ·obtain ⟨ad,a1,a2,a3,a4⟩ := act_rows hr hlt
    rw [if_pos (by omega),a1,Option.bind_some,a4,Option.bind_some]
    by_cases hl : 30 < ls[i].2.2.length
    ·rw [if_pos (by omega)]; exact ⟨true,rfl,fun h => by cases h⟩
    ·rw [if_neg (by omega),w64_id (by omega) (by omega),show ((i : Int) + 1) = ((i + 1 : Nat) : Int) by simp]
     refine ih (i + 1) (by omega) (by omega) fun a ha => ?_
     rw [List.take_succ_eq_append_getElem hlt] at ha
     rcases List.mem_append.1 ha with h | h
     ·exact hall a h
     ·simp at h; subst h; omega
   ·obtain rfl : i = ls.length := by omega
    rw [List.take_length] at hall
    rw [if_neg (by omega)]
    exact ⟨false,rfl,fun _ => ⟨by omega,hall⟩⟩
 exact hloop 2000 0 (by omega) (Nat.zero_le _) (by simp)
theorem rows_acts : ∀ {rows : List (List HV)},(∀ row ∈ rows,RowFits [.int .i64,.int .i64,.str] row) → ∃ ls : List Ac,rows = ls.map actRow := by
 intro rows
 induction rows with
 | nil => intro _; exact ⟨[],rfl⟩
 | cons r rows ih =>
  intro h
  obtain ⟨ls,e⟩ := ih fun row hr => h row (by simp [hr])
  have h0 := h r (by simp)
  have hl := h0.len
  obtain ⟨v0,v1,v2,rfl⟩ : ∃ v0 v1 v2,r = [v0,v1,v2] := by
   match r,hl with
   | [a,b,c],_ => exact ⟨a,b,c,rfl⟩
  obtain ⟨q0,q1,q2,_⟩ := h0
  obtain ⟨n,h1,_⟩ := q0
  obtain ⟨m,h2,_⟩ := q1
  obtain ⟨s,h3,_⟩ := q2
  exact ⟨(n,m,s) :: ls,by rw [e,h1,h2,h3]; rfl⟩
theorem WI.ex {w am r m1 m2 n : Nat} {most : Int} {E1 : List MA.En} {E2 : List MB.En} {X : List Wn} {S : HS} (h : WI w am r m1 m2 n most E1 E2 X S) (id : Int) : ∃ xs,KS.Srt xs ∧ ∀ v,v ∈ xs ↔ (id,v) ∈ X.map pk := by
 obtain ⟨xs,h1,h2,_⟩ := h.rel.at1 id
 exact ⟨xs,h1,h2⟩
theorem srt_nodupI {xs : List KI.Ky} (h : KI.Srt xs) : xs.Nodup := h.imp fun {a b} h e => by subst e; rw [KI.klt_irrefl] at h; cases h
theorem srt_nodupS {xs : List KS.Ky} (h : KS.Srt xs) : xs.Nodup := h.imp fun {a b} h e => by subst e; rw [KS.klt_irrefl] at h; cases h
theorem clients_w {w am r m1 m2 n : Nat} {most : Int} {E1 : List MA.En} {E2 : List MB.En} {X : List Wn} {S : HS} (h : WI w am r m1 m2 n most E1 E2 X S) (hX : X.length ≤ 99) (name : List UInt8) (hl : name.length ≤ 1000) :
  ∃ xs out S',rollcalllaw21_clients.f (disp 2000 4) (fun _ => none) 2000 (some (HA.cell0 w)) name S = some ((out,true),S') ∧ KI.Srt xs ∧ (∀ v,v ∈ xs ↔ (v,name.map low) ∈ X.map pk) ∧ S'.rows out 1 = some (xs.map KI.row1) ∧ (∀ q,out.a = some q → S.next ≤ q.1 ∧ q.1 < S'.next) ∧ Fr S.next S S' := by
 obtain ⟨xs,h1,h2,_⟩ := h.rel.at2 (name.map low)
 have hlen : xs.length ≤ 99 := by
  have := nodup_sub (xs.map fun v => ((v,name.map low) : Pr)) (X.map pk) (by
   rw [List.nodup_iff_pairwise_ne,List.pairwise_map]
   exact (srt_nodupI h1).imp fun h e => h (by simpa using e)) (fun y hy => by
   obtain ⟨v,hv,rfl⟩ := List.mem_map.1 hy
   exact (h2 v).1 hv)
  simp at this; omega
 obtain ⟨out,S',e,r1,q,f⟩ := KI.Clients.clients_spec (D := disp 2000 4) (xs := xs) (S := S) (r := some (HA.cell0 w)) (b := name) (fun T fT => by
  have hT := h.fr fT
  obtain ⟨S1,e1,f1⟩ := text_spec (k := 2000) (m := T.next) (x := name) (S := T) (by omega) (by omega) (Nat.le_refl _)
  have h1' := hT.fr f1
  obtain ⟨fn,u,v,S2,K,e2,t2,k2,f2⟩ := by_rel (nD := 2) h1'.rel (name.map low) h1 h2
  refine ⟨fn,u,v,S2,K,?_,t2,fun x hx => ?_,f1.trans (f2.mono f1.le)⟩
  ·rw [wish_Lists_By.f,if_neg (by simp),Option.bind_some,hT.ldp,Option.bind_some,e1,Option.bind_some,h1'.ldp,Option.bind_some,if_pos rfl,e2,Option.bind_some]
  ·have := k2 x hx; have := f1.le; omega) hlen
 exact ⟨xs,out,S',e,h1,h2,r1,q,f⟩
theorem names_w {w am r m1 m2 n : Nat} {most : Int} {E1 : List MA.En} {E2 : List MB.En} {X : List Wn} {S : HS} (h : WI w am r m1 m2 n most E1 E2 X S) (id : Int) {xs : List KS.Ky} (hs : KS.Srt xs) (hm : ∀ v,v ∈ xs ↔ (id,v) ∈ X.map pk) (hx : xs.length ≤ 99) :
  ∃ out S',rollcalllaw21_names.f (disp 2000 4) (fun _ => none) (some (HA.cell0 w)) id S = some ((out,true),S') ∧ S'.rows out 1 = some ((xs.map (spell X id)).map KS.row1) ∧ (∀ q,out.a = some q → S.next ≤ q.1 ∧ q.1 < S'.next) ∧ Fr S.next S S' := by
 exact KS.Names.names_spec (D := disp 2000 4) (xs := xs.map (spell X id)) (S := S) (r := some (HA.cell0 w)) (id := id) (fun T fT => by
  have hT := h.fr fT
  obtain ⟨c,so,S1,e1,hc,hr,hcn,hso,f1⟩ := WOf.of_spec hT id hs hm
  exact ⟨_,_,_,S1,fun x => x = c ∨ ∃ q,so.a = some q ∧ q.1 = x,e1,KS.of_tells (k := 2000) (n := 2) (by simp; omega) (by simp; omega) hc hr _ ⟨.inl rfl,fun q hq => .inr ⟨q,hq,rfl⟩⟩,fun x hx => by
   rcases hx with rfl | ⟨q,hq,rfl⟩
   ·exact hcn
   ·exact hso q hq,f1⟩) (by simpa using hx)
structure Both (g w am r m1 m2 p n : Nat) (most : Int) (E1 : List MA.En) (E2 : List MB.En) (s : Sl) (X : List Wn) (S : HS) : Prop where
 wi : WI w am r m1 m2 n most E1 E2 X S
 rw : RefW p most s X S
 dis : ∀ id,OW w am r m1 m2 E1 E2 id → ¬ Own p s id
 l1 : ∀ id,OW w am r m1 m2 E1 E2 id → g ≤ id
 l2 : ∀ id,Own p s id → g ≤ id
 gn : g ≤ S.next
section
variable {g w am r m1 m2 p n : Nat} {most : Int} {E1 : List MA.En} {E2 : List MB.En} {s : Sl} {X : List Wn} {S : HS}
theorem Both.fr {S' : HS} (h : Both g w am r m1 m2 p n most E1 E2 s X S) (hf : Fr S.next S S') : Both g w am r m1 m2 p n most E1 E2 s X S' := ⟨h.wi.fr hf,h.rw.fr hf,h.dis,h.l1,h.l2,Nat.le_trans h.gn hf.le⟩
theorem Both.ref {E1' : List MA.En} {E2' : List MB.En} {S1 : HS} (h : Both g w am r m1 m2 p n most E1 E2 s X S) (ch : Chg (OW w am r m1 m2 E1 E2) (OW w am r m1 m2 E1' E2') S S1) : RefW p most s X S1 := h.rw.keep (fun id ho => ch.eq id (h.rw.ltO ho) (fun g' => h.dis id g' ho)) ch.le
theorem Both.step {n' : Nat} {E1' : List MA.En} {E2' : List MB.En} {X' : List Wn} {s' : Sl} {S1 S2 : HS} (h : Both g w am r m1 m2 p n most E1 E2 s X S) (h1 : WI w am r m1 m2 n' most E1' E2' X' S1) (ch : Chg (OW w am r m1 m2 E1 E2) (OW w am r m1 m2 E1' E2') S S1) (h2 : RefW p most s' X' S2) (o2 : Only p s s' S1 S2) :
  Both g w am r m1 m2 p n' most E1' E2' s' X' S2 := by
 have l1 := ch.le
 have gn := h.gn
 have hno : ∀ id,OW w am r m1 m2 E1' E2' id → ¬ Own p s id := fun id ho g' => by
  rcases ch.own id ho with a | a
  ·exact h.dis id a g'
  ·have := h.rw.ltO g'; omega
 refine ⟨h1.keep (fun id ho => o2.eq id (h1.ltO ho) (hno id ho)) o2.le,h2,fun id ho g' => ?_,fun id ho => ?_,fun id ho => ?_,by have := o2.le; omega⟩
 ·rcases o2.own id g' with a | a
  ·exact hno id ho a
  ·have := h1.ltO ho; omega
 ·rcases ch.own id ho with a | a
  ·exact h.l1 id a
  ·omega
 ·rcases o2.own id ho with a | a
  ·exact h.l2 id a
  ·omega
theorem off_step {E1' : List MA.En} {E2' : List MB.En} {s' : Sl} {S1 S2 : HS} (h : Both g w am r m1 m2 p n most E1 E2 s X S) (ch : Chg (OW w am r m1 m2 E1 E2) (OW w am r m1 m2 E1' E2') S S1) (o2 : Only p s s' S1 S2) {id : Nat} (hid : id < S.next) (h1 : ¬ OW w am r m1 m2 E1 E2 id) (h2 : ¬ Own p s id) : S2.heap id = S.heap id :=
 (o2.eq id (Nat.lt_of_lt_of_le hid ch.le) h2).trans (ch.eq id hid h1)
theorem j4_spec {at_ : Nat} {y1 : Sl} {name : List UInt8} {i : Int} {ac : Ac} {r0 : Sl → List UInt8 → Option HA → Option HA → Int → HS → Option (Bool × HS)} (h : Both g w am r m1 m2 p n most E1 E2 s X S) (hX : X.length ≤ 99) (hnm : name.length ≤ 30) (ha : S.heap at_ = .cells 3 [actRow ac] true) (hat : at_ < S.next) :
  ∃ S',Fr S.next S S' ∧ rollcalllaw21_WishPlays.J4 (disp 2000 4) (fun _ => none) 2000 r0 y1 name (some (HA.cell0 w)) (some (HA.cell0 p)) i (some (HA.cell0 at_)) true S = r0 y1 name (some (HA.cell0 w)) (some (HA.cell0 p)) (w64 (i + 1)) S' := by
 have hrow : ∀ T : HS,Fr S.next S T → T.ldI .i64 (HA.fld (HA.cell0 at_) 1) = some ac.2.1 := fun T hT => row_ldI (cell_row ((hT.eq _ hat).trans ha)) rfl rfl
 obtain ⟨xs,hs,hm⟩ := h.wi.ex ac.2.1
 have hxl : xs.length ≤ 99 := by
  have := nodup_sub (xs.map fun v => ((ac.2.1,v) : Pr)) (X.map pk) (by
   rw [List.nodup_iff_pairwise_ne,List.pairwise_map]
   exact (srt_nodupS hs).imp fun h e => h (by simpa using e)) (fun y hy => by
   obtain ⟨v,hv,rfl⟩ := List.mem_map.1 hy
   exact (hm v).1 hv)
  simp at this; omega
 obtain ⟨o1,S1,e1,r1,q1,f1⟩ := names_w h.wi ac.2.1 hs hm hxl
 have h1 := h.fr f1
 have l1 := f1.le
 obtain ⟨ys,o2,S2,e2,s2,m2',r2,q2,f2⟩ := clients_w h1.wi hX name (by omega)
 have h2 := h1.fr f2
 have l2 := f2.le
 have f12 := f1.trans (f2.mono l1)
 have r1b : S2.rows o1 1 = some ((xs.map (spell X ac.2.1)).map KS.row1) := rows_keep r1 fun q hq => f2.eq _ (q1 q hq).2
 have hl1 : (o1.len : Int) = xs.length := by rw [← rows_len r1]; simp
 have hcount := count_w h2.wi ac.2.1 hs hm
 obtain ⟨S3,e3,f3⟩ := has_w (k := 2000) (Nat.le_refl _) h2.wi ac.2.1 name (by omega)
 have h3 := h2.fr f3
 have l3 := f3.le
 have f13 := f12.trans (f3.mono (by omega))
 obtain ⟨v4,S4,e4,f4,hv4⟩ := ref_at (k := 2000) (Nat.le_refl _) h3.rw ac.2.1 name (by omega)
 have h4 := h3.fr f4
 have l4 := f4.le
 have f14 := f13.trans (f4.mono (by omega))
 have hv : decide (v4 ≥ 0) = decide ((ac.2.1,name.map low) ∈ X.map pk) := by
  rcases hv4 with ⟨rfl,hin⟩ | ⟨j,hj,rfl,hp⟩
  ·rw [decide_eq_false hin]; rfl
  ·rw [decide_eq_true (List.mem_map.2 ⟨X[j],List.getElem_mem hj,hp⟩),decide_eq_true (by omega)]
 obtain ⟨o5,S5,o,e5,f5,v5,g5⟩ := ref_of (k := 2000) (Nat.le_refl _) h4.rw h4.wi.rel.nd ac.2.1
 have ho := g5.is hs h4.wi.rel.nd hm
 subst ho
 have h5 := h4.fr f5
 have l5 := f5.le
 have r15 : S5.rows o1 1 = some ((xs.map (spell X ac.2.1)).map KS.row1) := rows_keep r1b fun q hq => by
  have := q1 q hq
  rw [f5.eq _ (by omega),f4.eq _ (by omega),f3.eq _ (by omega)]
 have r25 : S5.rows o2 1 = some (ys.map KI.row1) := rows_keep r2 fun q hq => by
  have := q2 q hq
  rw [f5.eq _ (by omega),f4.eq _ (by omega),f3.eq _ (by omega)]
 have htx : rollcallref01_Texts.f 2000 o1 o5 S5 = some (true,S5) := texts_spec (Nat.le_refl _) (by simp; omega) r15 v5.rows
 obtain ⟨o6,S6,zs,e6,s6,m6,r6,f6⟩ := ref_by (k := 2000) (Nat.le_refl _) h5.rw name (by omega)
 have l6 := f6.le
 have hz : ys = zs := KI.srt_ext s2 s6 fun v => by rw [m2',m6]
 subst hz
 have hyl : ys.length ≤ 99 := by
  have := nodup_sub (ys.map fun v => ((v,name.map low) : Pr)) (X.map pk) (by
   rw [List.nodup_iff_pairwise_ne,List.pairwise_map]
   exact (srt_nodupI s2).imp fun h e => h (by simpa using e)) (fun y hy => by
   obtain ⟨v,hv,rfl⟩ := List.mem_map.1 hy
   exact (m2' v).1 hv)
  simp at this; omega
 have r26 : S6.rows o2 1 = some (ys.map KI.row1) := rows_keep r25 fun q hq => f6.eq _ (by have := q2 q hq; omega)
 have hsame := KI.refSame_spec (k := 2000) r26 r6 (by omega) (by omega)
 rw [decide_eq_true rfl] at hsame
 have f15 := f14.trans (f5.mono (by omega))
 refine ⟨S6,f15.trans (f6.mono (by omega)),?_⟩
 rw [rollcalllaw21_WishPlays.J4,Option.bind_some,hrow S (Fr.refl _ _),Option.bind_some,e1,Option.bind_some,e2,Option.bind_some,if_neg (by simp),if_neg (by simp),if_neg (by simp),Option.bind_some,hrow S2 f12,Option.bind_some,hcount,Option.bind_some,if_neg (by simp [hl1]),Option.bind_some,hrow S2 f12,Option.bind_some,e3,Option.bind_some,Option.bind_some,hrow S3 f13,Option.bind_some]
 simp only [hrow S2 f12,Option.bind_some,if_true,e4]
 rw [hv,if_neg (by simp),hrow S4 f14,Option.bind_some,e5,Option.bind_some,htx,Option.bind_some,if_neg (by simp),e6,Option.bind_some,hsame,Option.bind_some,rollcalllaw21_WishPlays.J5,if_neg (by simp)]
end
theorem lay_act (T : HS) (a : Ac) : ∃ A,(T.new (.cells 3 [[.int .i64 0,.int .i64 0,.str []]] true)).sets (HA.cell0 T.next) [.int .i64 a.1,.int .i64 a.2.1,.str a.2.2] = some A ∧ A.heap T.next = .cells 3 [actRow a] true ∧ Fr T.next T A ∧ A.next = T.next + 1 := by
 have h : (T.new (.cells 3 [[.int .i64 0,.int .i64 0,.str []]] true)).heap T.next = .cells 3 [[.int .i64 0,.int .i64 0,.str []]] true := new_here _ _
 exact ⟨_,sets_row h rfl (by simp),put_here _ _ _,(Fr.new (Nat.le_refl _) _).trans (Fr.put (Nat.le_refl _) _),rfl⟩
theorem plays_loop {g w am r m1 m2 p : Nat} {most : Int} {y1 : Sl} {name : List UInt8} {ls : List Ac} (hls : ls.length ≤ 40) (hll : ∀ a ∈ ls,a.2.2.length ≤ 30) (hnm : name.length ≤ 30) (hy : ∀ q,y1.a = some q → q.1 < g) :
  ∀ (f i : Nat) (E1 : List MA.En) (E2 : List MB.En) (s : Sl) (X : List Wn) (S : HS),ls.length - i < f → i ≤ ls.length → Both g w am r m1 m2 p i most E1 E2 s X S → S.rows y1 3 = some (ls.map actRow) → (∀ x ∈ X,x.2.length ≤ 30) →
   ∃ S',rollcalllaw21_WishPlays.L3 (disp 2000 4) (fun _ => none) 2000 f y1 name (some (HA.cell0 w)) (some (HA.cell0 p)) (i : Int) S = some (true,S') := by
 intro f
 induction f with
 | zero => intro i E1 E2 s X S h; omega
 | succ f ih =>
  intro i E1 E2 s X S hf hi h hr hl
  have hsl : (y1.len : Int) = ls.length := by rw [← rows_len hr]; simp
  rw [rollcalllaw21_WishPlays.L3,hsl]
  by_cases hlt : i < ls.length
  ·obtain ⟨ad,a1,a2,a3,a4⟩ := act_rows hr hlt
   obtain ⟨A,eA,cA,fA,nA⟩ := lay_act S ls[i]
   have hA := h.fr fA
   have hli := hll _ (List.getElem_mem hlt)
   have hw : w64 ((i : Int) + 1) = ((i + 1 : Nat) : Int) := by rw [w64_id (by omega) (by omega)]; simp
   have hgn := h.gn
   have c0 : A.ldI .i64 (HA.fld (HA.cell0 S.next) 0) = some ls[i].1 := row_ldI (cell_row cA) rfl rfl
   have c1 : ∀ T : HS,T.heap S.next = A.heap S.next → T.ldI .i64 (HA.fld (HA.cell0 S.next) 1) = some ls[i].2.1 := fun T hT => row_ldI (cell_row (hT.trans cA)) rfl rfl
   have c2 : ∀ T : HS,T.heap S.next = A.heap S.next → T.ldS (HA.fld (HA.cell0 S.next) 2) = some ls[i].2.2 := fun T hT => row_ldS (cell_row (hT.trans cA)) rfl rfl
   have hXi : X.length ≤ i := by have := h.wi.rel.ll; simpa using this
   have noO : ¬ OW w am r m1 m2 E1 E2 S.next := fun ho => by have := h.wi.ltO ho; omega
   have noP : ¬ Own p s S.next := fun ho => by have := h.rw.ltO ho; omega
   rw [if_pos (by omega),a1,Option.bind_some,a2,Option.bind_some,a3,Option.bind_some,a4,Option.bind_some,letv,eA,Option.bind_some,c0,Option.bind_some]
   -- behind an act
   have go : ∀ (F1 : List MA.En) (F2 : List MB.En) (s' : Sl) (Y : List Wn) (S1 S2 : HS),WI w am r m1 m2 (i + 1) most F1 F2 Y S1 → Chg (OW w am r m1 m2 E1 E2) (OW w am r m1 m2 F1 F2) A S1 → RefW p most s' Y S2 → Only p s s' S1 S2 → (∀ x ∈ Y,x.2.length ≤ 30) →
     ∃ S',rollcalllaw21_WishPlays.J4 (disp 2000 4) (fun _ => none) 2000 (rollcalllaw21_WishPlays.L3 (disp 2000 4) (fun _ => none) 2000 f) y1 name (some (HA.cell0 w)) (some (HA.cell0 p)) (i : Int) (some (HA.cell0 S.next)) true S2 = some (true,S') := by
    intro F1 F2 s' Y S1 S2 q1 ch q2 o2 hlY
    have hB := hA.step q1 ch q2 o2
    have l1 := ch.le
    have l2 := o2.le
    have hYi : Y.length ≤ i + 1 := by have := q1.rel.ll; simpa using this
    obtain ⟨S3,f3,e3⟩ := j4_spec (r0 := rollcalllaw21_WishPlays.L3 (disp 2000 4) (fun _ => none) 2000 f) (y1 := y1) (i := (i : Int)) (ac := ls[i]) (at_ := S.next) hB (by omega) hnm ((off_step hA ch o2 (by omega) noO noP).trans cA) (by omega)
    rw [e3,hw]
    exact ih (i + 1) F1 F2 s' Y S3 (by omega) (by omega) (hB.fr f3) (rows_keep hr fun q hq => by
     have hq1 := hy q hq
     rw [f3.eq _ (by omega),off_step hA ch o2 (by omega) (fun ho => by have := h.l1 _ ho; omega) (fun ho => by have := h.l2 _ ho; omega),fA.eq _ (by omega)]) hlY
   by_cases k1 : ls[i].1 = 1
   ·obtain ⟨F1,F2,S1,e1,q1,ch⟩ := remove_w (k := 2000) (Nat.le_refl _) hA.wi ls[i].2.1 ls[i].2.2 (by omega)
    have g1 := ch.eq S.next (by omega) noO
    have hR := hA.ref ch
    obtain ⟨s',S2,e2,q2,o2⟩ := ref_remove (k := 2000) (Nat.le_refl _) hR hA.wi.rel.nd ls[i].2.1 ls[i].2.2 (by omega)
    rw [if_pos k1]
    simp only [c1 A rfl,c2 A rfl,Option.bind_some,e1,c1 S1 g1,c2 S1 g1,if_true,e2,beq_self_eq_true]
    exact go F1 F2 s' _ S1 S2 (q1.mono (by omega) (by omega)) ch q2 o2 (fun x hx => hl x (wox_mem.1 hx).1)
   ·rw [if_neg k1]
    by_cases k2 : ls[i].1 = 2
    ·obtain ⟨xs,hs,hm⟩ := hA.wi.ex ls[i].2.1
     obtain ⟨F1,F2,S1,e1,q1,ch⟩ := WCl.clear_w hA.wi ls[i].2.1 hs hm (fun x hx => by have := hl x hx; omega)
     have g1 := ch.eq S.next (by omega) noO
     have hR := hA.ref ch
     obtain ⟨s',S2,e2,q2,o2⟩ := ref_clear (k := 2000) (Nat.le_refl _) hR hA.wi.rel.nd ls[i].2.1 hs hm
     rw [if_pos k2]
     simp only [c1 A rfl,Option.bind_some,e1,c1 S1 g1,if_true,e2,decide_true]
     exact go F1 F2 s' _ S1 S2 (q1.mono (by omega) (by omega)) ch q2 o2 (fun x hx => hl x (List.mem_filter.1 hx).1)
    ·obtain ⟨xs,hs,hm⟩ := hA.wi.ex ls[i].2.1
     obtain ⟨F1,F2,S1,e1,q1,ch⟩ := add_w (k := 2000) (Nat.le_refl _) hA.wi (by omega) ls[i].2.1 ls[i].2.2 (by omega) hs hm
     have g1 := ch.eq S.next (by omega) noO
     have hR := hA.ref ch
     obtain ⟨s',S2,e2,q2,o2⟩ := ref_add (k := 2000) (Nat.le_refl _) hR hA.wi.rel.nd ls[i].2.1 ls[i].2.2 (by omega) (by omega) hs hm
     rw [if_neg k2]
     simp only [c1 A rfl,c2 A rfl,Option.bind_some,e1,c1 S1 g1,c2 S1 g1,if_true,e2,decide_true]
     refine go F1 F2 s' _ S1 S2 q1 ch q2 o2 (fun x hx => ?_)
     split at hx
     ·exact hl x hx
     ·split at hx
      ·exact hl x hx
      ·rcases List.mem_append.1 hx with g' | g'
       ·exact hl x g'
       ·simp at g'; subst g'; exact hli
  ·rw [if_neg (by omega)]
   exact ⟨S,rfl⟩
theorem wishPlays_law {S : HS} {most : Int} {y1 : Sl} {ls : List Ac} {name : List UInt8} (hr : Rd S.next S 3 y1 (ls.map actRow)) : ∃ S',rollcalllaw21_WishPlays.f (disp 2000 4) (fun _ => none) 2000 most y1 name S = some (true,S') := by
 rw [rollcalllaw21_WishPlays.f]
 obtain ⟨S1,e1,f1⟩ := awake_spec (S := S)
 have hr1 := hr.frame f1 (Nat.le_refl _)
 obtain ⟨b,e2,hb⟩ := great_spec hr1.rows
 rw [e1,Option.bind_some,if_neg (by simp),e2,Option.bind_some]
 have quit : ∃ S',rollcalllaw21_WishPlays.J0 (disp 2000 4) (fun _ => none) 2000 most y1 name true S1 = some (true,S') := by
  rw [rollcalllaw21_WishPlays.J0,if_pos rfl,rollcalllaw21_WishPlays.J1,if_pos rfl,rollcalllaw21_WishPlays.J2,if_pos rfl]; exact ⟨_,rfl⟩
 cases b with
 | true => rw [if_pos rfl]; exact quit
 | false =>
  obtain ⟨h40,hll⟩ := hb rfl
  rw [if_neg (by simp)]
  by_cases hn : (name.length : Int) > 30
  ·rw [decide_eq_true hn]; exact quit
  rw [decide_eq_false hn,rollcalllaw21_WishPlays.J0,if_neg (by simp),rollcalllaw21_WishPlays.J1]
  by_cases h0 : most < 0
  ·rw [if_pos (by simpa using h0),rollcalllaw21_WishPlays.J2,if_pos rfl]; exact ⟨_,rfl⟩
  rw [if_neg (by simpa using h0),rollcalllaw21_WishPlays.J2]
  by_cases h1000 : most > 1000
  ·rw [if_pos (by simpa using h1000)]; exact ⟨_,rfl⟩
  rw [if_neg (by simpa using h1000)]
  obtain ⟨S2,e3,w2,f2,o2⟩ := new_w (most := most) (by omega) (by omega) S1
  have hmm : mx 0 (mn most 100000) = most := by unfold mx mn; split <;> split <;> omega
  rw [hmm] at w2
  have l1 := f1.le
  have l2 := f2.le
  rw [e3,Option.bind_some,letv]
  have f3 : Fr S2.next S2 (S2.new (.cells 2 [[.int .i64 most,Sl.nil.hv]] true)) := Fr.new (Nat.le_refl _) _
  have cS : (S2.new (.cells 2 [[.int .i64 most,Sl.nil.hv]] true)).heap S2.next = .cells 2 [[.int .i64 most,Sl.nil.hv]] true := new_here _ _
  have n3 : (S2.new (.cells 2 [[.int .i64 most,Sl.nil.hv]] true)).next = S2.next + 1 := rfl
  simp only
  generalize S2.new (.cells 2 [[.int .i64 most,Sl.nil.hv]] true) = S3 at f3 cS n3 ⊢
  have hB : Both S1.next (S1.next + 4) (S1.next + 3) (S1.next + 2) S1.next (S1.next + 1) S2.next 0 most [] [] Sl.nil [] S3 := by
   refine ⟨w2.fr f3,⟨cS,rfl,by omega,fun q hq => (by cases hq),fun q hq => (by cases hq),by simp,by simp⟩,fun id ho g' => ?_,o2,fun id ho => ?_,by omega⟩
   ·have := w2.ltO ho
    rcases g' with rfl | ⟨q,hq,_⟩
    ·omega
    ·cases hq
   ·rcases ho with rfl | ⟨q,hq,_⟩
    ·omega
    ·cases hq
  exact plays_loop (g := S1.next) h40 hll (by omega) (fun q hq => by have := hr.lt q hq; omega) 2000 0 [] [] Sl.nil [] S3 (by omega) (Nat.zero_le _) hB ((hr1.frame f2 (by omega)).frame f3 (by omega)).rows (by simp)
theorem wishPlays_call (W : World) (β0 : Bt) (S : HS) (most : Int) {q : Prop} (_w : q) (s1 : Sl) (rows1 : List (List HV)) (h1 : ArgSl S 3 s1 rows1) (f1 : ∀ row ∈ rows1,RowFits [.int .i64,.int .i64,.str] row) (name : List UInt8) :
  HCall Tryz.prog W.heap.size W β0 3 [.int .i64 most,s1.hv,.str name] S (fun v _ => v = .bool true) := by
 obtain ⟨ls,rfl⟩ := rows_acts f1
 obtain ⟨_,h⟩ := wishPlays_law (most := most) (name := name) h1.rd
 exact (rollcalllaw21_WishPlays.snd (disp_snd 4) (fun _ _ h => by cases h) h).mono fun _ _ h => h.1
end Go.Proofs.YtcphapfclncggaaGreatDoor.X
