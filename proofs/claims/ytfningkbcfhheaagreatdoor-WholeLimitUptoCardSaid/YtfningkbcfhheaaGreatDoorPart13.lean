/- What valid.all and valid.Clean answer, and that they leave nothing: as overs of the evaluator. valid.all and valid.Clean met by what they answer, for the evaluator. sendq.torn met by what it answers where all is drained: an over of the evaluator. -/
import Derived.Test.YtfningkbcfhheaaGreatDoorPart12
import Derived.Test.YtfningkbcfhheaaGreatDoorPart11
set_option linter.unusedVariables false
set_option linter.unusedSimpArgs false
namespace Go.Proofs.YtfningkbcfhheaaGreatDoor.X
open Go.Proofs.YtfningkbcfhheaaGreatDoor.HL
set_option linter.unusedVariables false
def okB (b : UInt8) : Bool := b.toNat != 0 && b.toNat != 10 && b.toNat != 13
theorem ok_is (b : UInt8) : isOf 64 b = okB b := by
 have h : ∀ n : Fin 256,isOf 64 (UInt8.ofNat n.val) = okB (UInt8.ofNat n.val) := by decide +kernel
 have := h ⟨b.toNat,b.toNat_lt⟩
 simpa using this
def cleanL (x : List UInt8) (most : Int) : List UInt8 := (x.filter okB).take most.toNat
theorem take_add {a r : List UInt8} {most : Int} (h : (a.length : Int) ≥ most) : a ++ r.take (most.toNat - a.length) = a := by
 have : most.toNat - a.length = 0 := by omega
 simp [this]
theorem clean_loop {k q b : Nat} {x : List UInt8} {most : Int} (hx : x.length ≤ 1000) : ∀ (n i : Nat) (acc : List UInt8) (S : HS),x.length - i < n → i ≤ x.length → acc.length ≤ i → BldAt S b acc → q < b → S.heap q = .cells 256 [kpart 256] true →
  ∃ S',valid_Clean.L0 k n x most (some (HA.cell0 q)) (some (HA.cell0 b)) (i : Int) S = some (acc ++ ((x.drop i).filter okB).take (most.toNat - acc.length),S') ∧ Fx b S S' := by
 intro n
 induction n with
 | zero => intro i acc S h; omega
 | succ n ih =>
  intro i acc S h hi ha hB hq hS
  unfold valid_Clean.L0
  by_cases hlt : i < x.length
  ·rw [if_pos (by omega),len_spec hB,Option.bind_some]
   unfold valid_Clean.J1
   by_cases hm : (acc.length : Int) < most
   ·have hb := x[i].toNat_lt
    have hr : S.ldI .u16 (HA.fld (HA.cell0 q) (Int.toNat ((x[i]).toNat : Int))) = some (kindOf ((x[i]).toNat : Int)) := by
     rw [Int.toNat_natCast]
     exact row_ldI (cell_row hS) rfl (kpart_get (by omega))
    rw [if_pos (by simpa using hm),sat_lt hlt,Option.bind_some,Option.bind_some,if_pos ⟨by omega,by omega⟩,hr,Option.bind_some,List.drop_eq_getElem_cons hlt,List.filter_cons]
    have hi1 : w64 ((i : Int) + 1) = ((i + 1 : Nat) : Int) := by rw [w64_id (by omega) (by omega)]; simp
    have hok := ok_is x[i]
    simp only [isOf] at hok
    rw [hok]
    by_cases h0 : okB x[i] = true
    ·rw [if_pos h0,Option.bind_some]
     obtain ⟨S1,e1,B1,f1⟩ := writeByte_spec hB x[i] (by omega)
     rw [e1,Option.bind_some,valid_Clean.J2,hi1]
     obtain ⟨S2,e2,f2⟩ := ih (i + 1) (acc ++ [x[i]]) S1 (by omega) (by omega) (by simp; omega) B1 hq ((f1.eq q hq).trans hS)
     refine ⟨S2,?_,f1.trans f2⟩
     rw [e2,if_pos h0]
     have : most.toNat - acc.length = (most.toNat - (acc ++ [x[i]]).length) + 1 := by simp; omega
     rw [this,List.take_succ_cons,List.append_assoc]
     rfl
    ·rw [if_neg h0,valid_Clean.J2,hi1]
     obtain ⟨S2,e2,f2⟩ := ih (i + 1) acc S (by omega) (by omega) (by omega) hB hq hS
     exact ⟨S2,by rw [e2,if_neg h0],f2⟩
   ·rw [if_neg (by simpa using hm)]
    obtain ⟨S2,e2,f2⟩ := string_spec hB (by omega)
    rw [e2,Option.bind_some]
    exact ⟨S2,by rw [take_add (by omega)],f2⟩
  ·rw [if_neg (by omega),valid_Clean.J1,if_neg (by simp),List.drop_eq_nil_of_le (by omega)]
   obtain ⟨S2,e2,f2⟩ := string_spec hB (by omega)
   rw [e2,Option.bind_some]
   exact ⟨S2,by simp,f2⟩
theorem clean_spec {k m : Nat} {x : List UInt8} {most : Int} {S : HS} (hx : x.length ≤ 1000) (hk : 2000 ≤ k) (hm : m ≤ S.next) : ∃ S',valid_Clean.f k x most S = some (cleanL x most,S') ∧ Fx m S S' := by
 unfold valid_Clean.f
 obtain ⟨S1,e1,f1⟩ := kinds_spec (k := k) (m := m) (S := S) (by omega) hm
 have hl : (kpart 256).length = 256 := kpart_len (Nat.le_refl _)
 have hf : List.all (kpart 256) HV.flat = true := by simp [kpart,HV.flat]
 rw [e1,Option.bind_some,letv,if_pos ⟨hl,hf⟩,show HA.cell0 S1.next = (⟨S1.next,0,0⟩ : HA) from rfl,
   sets_row (new_here S1 _) rfl (by rw [hl,List.length_replicate]; exact Nat.le_refl _),List.drop_eq_nil_of_le (by rw [hl,List.length_replicate]; exact Nat.le_refl _),List.take_zero,List.nil_append,List.append_nil,List.set_cons_zero,Option.bind_some]
 simp only [letv]
 generalize hS2 : (S1.new (.cells 256 [List.replicate 256 (.int .u16 0)] true)).put S1.next (.cells 256 [kpart 256] true) = S2
 have h2 : S2.heap S1.next = .cells 256 [kpart 256] true := by rw [← hS2]; exact put_here _ _ _
 have n2 : S2.next = S1.next + 1 := by rw [← hS2]; rfl
 have f2 : Fx m S1 S2 := by rw [← hS2]; exact (Fx.new (Nat.le_trans hm f1.le) _).trans (Fx.put (Nat.le_trans hm f1.le) _)
 have hB : BldAt (S2.newM (.cells 2 [[(.ptr none),(Sl.hv Sl.nil)]] true) 162) S2.next [] := ⟨none,Sl.nil,new_hereM _ _ _,.inl rfl,by simp [HS.newM],by simp [HS.newM],.inl ⟨rfl,rfl⟩⟩
 obtain ⟨S3,e3,f3⟩ := clean_loop (k := k) (q := S1.next) (b := S2.next) (x := x) (most := most) hx k 0 [] _ (by omega) (by omega) (by simp) hB (by omega) (by rw [new_oldM _ _ (by omega)]; exact h2)
 have hm2 : m ≤ S2.next := by have := f1.le; omega
 exact ⟨S3,by simpa [cleanL] using e3,f1.trans (f2.trans ((Fx.newM hm2 _ _).trans (f3.mono hm2)))⟩
noncomputable section
def kTab : Nat := 149436752682629618864031038003373424862995114988227536833758167914850527298780627131493503094610696436895808550787516755126788122810671310228039268743285241936872683139313021603634903110511267710190187423047197334399026880278573998448828511580030090775548193282068817028612445198442177341074069395544422368532069990159089684460922785683794546899436563319990558922281251771260100491128475557220811234165023078394644573068128642606650086993421554015774874409914688700346292376571782509437928720151723111468971261812577277949012007516820808192
def kBit (of : Nat) (b : UInt8) : Bool := Bool.rec true false (Nat.beq (Nat.land (Nat.shiftRight kTab (Nat.mul 7 b.toNat)) of) 0)
theorem kBit_is {of : Nat} (ho : of ∈ [1,2,4,8,16,32,64]) (b : UInt8) : kBit of b = isOf (of : Int) b := by
 have h : ∀ of ∈ [1,2,4,8,16,32,64],∀ n : Fin 256,kBit of (UInt8.ofNat n.val) = isOf (of : Int) (UInt8.ofNat n.val) := by decide +kernel
 have := h of ho ⟨b.toNat,b.toNat_lt⟩
 simpa using this
def allB (of : Nat) (x : List UInt8) : Bool := List.rec (motive := fun _ => Bool) true (fun b _ ih => Bool.rec false ih (kBit of b)) x
theorem allB_is {of : Nat} (ho : of ∈ [1,2,4,8,16,32,64]) : ∀ x : List UInt8,allB of x = x.all (isOf (of : Int)) := by
 intro x
 induction x with
 | nil => rfl
 | cons b x ih =>
  show (Bool.rec false (allB of x) (kBit of b) : Bool) = _
  rw [ih,kBit_is ho,List.all_cons]
  cases isOf (of : Int) b <;> rfl
def allK (of : Nat) : Bool := Nat.beq of 64 || Nat.beq of 2 || Nat.beq of 1 || Nat.beq of 4 || Nat.beq of 8 || Nat.beq of 16 || Nat.beq of 32
theorem allK_out {of : Nat} (h : allK of = true) : of ∈ [1,2,4,8,16,32,64] := by
 simp only [allK,Bool.or_eq_true] at h
 have e : ∀ {a b : Nat},Nat.beq a b = true → a = b := fun h => Nat.eq_of_beq_eq_true h
 rcases h with (((((h | h) | h) | h) | h) | h) | h <;> (have := e h; simp only [List.mem_cons,List.not_mem_nil,or_false]; omega)
def resB (b : Bool) (c : CS) : Option Res := Bool.rec (motive := fun _ => Option Res) (some (.bool false,c)) (some (.bool true,c)) b
theorem resB_eq (b : Bool) (c : CS) : resB b c = some (.bool b,c) := by cases b <;> rfl
def allC (args : List HV) (c : CS) : Option Res :=
 match args with
 | [.str x,.int .i64 (.ofNat least),.int .i64 (.ofNat most),.int .u16 (.ofNat of)] =>
  cond (allK of && Nat.ble x.length 100000) (resB (Nat.ble least x.length && Nat.ble x.length most && allB of x) c) none
 | _ => none
theorem allC_ok {base : Nat} {W0 : Env} {β0 : Bt} {args : List HV} {c : CS} {out : Res} (h : allC args c = some out) : HCall Tryz.prog base W0 β0 86 args c.hs (fun v S1 => v = out.1 ∧ S1 = out.2.hs) := by
 unfold allC at h
 split at h
 ·rename_i x least most of
  cases hc : allK of && Nat.ble x.length 100000 with
  | false => rw [hc] at h; cases h
  | true =>
   rw [hc,cond_true,resB_eq] at h
   cases h
   rw [Bool.and_eq_true] at hc
   have hl := Nat.le_of_ble_eq_true hc.2
   obtain ⟨S',e,f⟩ := all_spec (k := 1000000) (m := c.hs.next) (x := x) (of := (of : Int)) (least := (least : Int)) (most := (most : Int)) (S := c.hs) hl (by omega) (by omega) (Nat.le_refl _)
   refine HCall.forgetV rfl ((valid_all.snd e).mono fun v S1 g => ⟨g.1.trans ?_,g.2 ▸ f.ext⟩)
   rw [allB_is (allK_out hc.1)]
   congr 2
   rw [Bool.eq_iff_iff]
   simp [Nat.ble_eq]
 ·cases h
def okN (b : UInt8) : Bool := Bool.rec true false (Nat.beq b.toNat 0 || Nat.beq b.toNat 10 || Nat.beq b.toNat 13)
theorem okN_is (b : UInt8) : okN b = okB b := by
 have h : ∀ n : Fin 256,okN (UInt8.ofNat n.val) = okB (UInt8.ofNat n.val) := by decide +kernel
 have := h ⟨b.toNat,b.toNat_lt⟩
 simpa using this
def filN (x : List UInt8) (most : Nat) (k : List UInt8 → Option Res) : Option Res :=
 List.rec (motive := fun _ => Nat → (List UInt8 → Option Res) → Option Res) (fun _ k => k []) (fun b _ ih most k => Nat.rec (motive := fun _ => Option Res) (k []) (fun m _ => Bool.rec (motive := fun _ => Option Res) (ih (Nat.succ m) k) (ih m fun r => k (b :: r)) (okN b)) most) x most k
theorem filN_eq : ∀ (x : List UInt8) (most : Nat) (k : List UInt8 → Option Res),filN x most k = k ((x.filter okB).take most) := by
 intro x
 induction x with
 | nil => intro most k; simp [filN]
 | cons b x ih =>
  intro most k
  cases most with
  | zero => exact (by simp : k [] = k (((b :: x).filter okB).take 0))
  | succ m =>
   show (Bool.rec (filN x (m + 1) k) (filN x m fun r => k (b :: r)) (okN b) : Option Res) = _
   rw [okN_is,List.filter_cons]
   cases okB b
   ·exact ih _ _
   ·exact ih _ _
def clnC (args : List HV) (c : CS) : Option Res :=
 match args with
 | [.str x,.int .i64 (.ofNat most)] => cond (Nat.ble x.length 1000) (filN x most fun r => some (.str r,c)) none
 | _ => none
theorem clnC_ok {base : Nat} {W0 : Env} {β0 : Bt} {args : List HV} {c : CS} {out : Res} (h : clnC args c = some out) : HCall Tryz.prog base W0 β0 42 args c.hs (fun v S1 => v = out.1 ∧ S1 = out.2.hs) := by
 unfold clnC at h
 split at h
 ·rename_i x most
  cases hc : Nat.ble x.length 1000 with
  | false => rw [hc] at h; cases h
  | true =>
   rw [hc,cond_true,filN_eq] at h
   cases h
   obtain ⟨S',e,f⟩ := clean_spec (k := 1000000) (m := c.hs.next) (x := x) (most := (most : Int)) (S := c.hs) (Nat.le_of_ble_eq_true hc) (by omega) (Nat.le_refl _)
   refine HCall.forgetV rfl ((valid_Clean.snd e).mono fun v S1 g => ⟨g.1,g.2 ▸ f.ext⟩)
 ·cases h
end
theorem bidx_bounds (s : List UInt8) (c : Int) : -1 ≤ bidx s c ∧ bidx s c < s.length ∨ bidx s c = -1 := by
 unfold bidx firstIdx
 split
 ·rename_i i hi
  have := List.mem_of_find?_eq_some hi
  simp only [List.mem_range,size_mk] at this
  omega
 ·exact .inr rfl
theorem rows_cut {S : HS} {s : Sl} {z : Nat} {rows : List (List HV)} (h : S.rows s z = some rows) {m : Nat} (hm : m ≤ rows.length) : ∃ sc,S.cut s (m : Int) (rows.length : Int) z = some sc ∧ S.rows sc z = some (rows.drop m) := by
 have hl := rows_len h
 obtain ⟨sa,sl,sc⟩ := s
 have hl2 : rows.length = sl := hl
 subst hl2
 cases sa with
 | none =>
  simp only [HS.rows] at h
  split at h
  ·rename_i e
   cases h
   obtain rfl : m = 0 := by simpa using hm
   exact ⟨⟨none,0,sc⟩,by simp [HS.cut],by simp [HS.rows]⟩
  ·cases h
 | some p =>
  obtain ⟨id,off⟩ := p
  simp only [HS.rows] at h
  split at h
  ·rename_i z' rws own hh
   split at h
   ·rename_i hc
    obtain ⟨rfl,hc⟩ := hc
    simp only [Option.some.injEq] at h
    refine ⟨_,cut_len hh hm (Nat.le_refl _),?_⟩
    rw [rows_at hh (by omega)]
    congr 1
    rw [← List.drop_drop,← List.drop_take,h]
   ·cases h
  ·cases h
def tornL (bs : List UInt8) : Nat → Nat → Int → Int
 | 0,_,_ => 0
 | n + 1,i,r =>
  if h : i < bs.length then
   if r = 0 then 0 else if ((bs[i]).toNat : Int) = 10 then tornL bs n (i + 1) (r - 1) else if r - 1 = 0 then bidx (bs.drop (i + 1)) 10 + 1 else tornL bs n (i + 1) (r - 1)
  else 0
def tornP (k : Nat) (bs : List UInt8) (was n : Int) : Int := if n ≤ was then was - n else tornL bs k was.toNat (n - was)
theorem torn_loop {k : Nat} {S : HS} {s : Sl} {bs : List UInt8} (hr : S.rows s 1 = some (bytesRows bs)) (hb : bs.length ≤ 1000000) : ∀ (n i : Nat) (r : Int),bs.length - i < n → 0 ≤ r → r ≤ 1000000 → sendq_torn.L0 k n s r (i : Int) S = some (tornL bs n i r,S) ∧ 0 ≤ tornL bs n i r ∧ tornL bs n i r ≤ 1000000 := by
 have hl : s.len = bs.length := by rw [← rows_len hr,bytesRows_len]
 intro n
 induction n with
 | zero => intro i r h; omega
 | succ n ih =>
  intro i r h h0 h1
  unfold sendq_torn.L0
  by_cases hlt : i < bs.length
  ·rw [hl,if_pos (by omega),tornL,dif_pos hlt]
   by_cases hr0 : r = 0
   ·rw [if_pos hr0,if_pos hr0]; exact ⟨rfl,by omega,by omega⟩
   obtain ⟨ad,a1,a2,a3⟩ := rows_idx hr (i := i) (by rw [bytesRows_len]; exact hlt)
   have hld : S.ldI .u8 ad = some ((bs[i]).toNat : Int) := by
    have := row_ldI (j := 0) (k := .u8) (n := ((bs[i]).toNat : Int)) a3 a2 (by simp [bytesRows])
    obtain ⟨b1,b2,b3⟩ := ad
    simp only at a2
    subst a2
    exact this
   rw [if_neg hr0,if_neg hr0,a1,Option.bind_some,hld,Option.bind_some,w64_id (n := r - 1) (by omega) (by omega)]
   have hnext : sendq_torn.J1 k (sendq_torn.L0 k n) s (r - 1) (i : Int) S = some (tornL bs n (i + 1) (r - 1),S) ∧ 0 ≤ tornL bs n (i + 1) (r - 1) ∧ tornL bs n (i + 1) (r - 1) ≤ 1000000 := by
    rw [sendq_torn.J1,w64_id (by omega) (by omega),show ((i : Int) + 1) = ((i + 1 : Nat) : Int) by simp]
    exact ih (i + 1) (r - 1) (by omega) (by omega) (by omega)
   by_cases h10 : ((bs[i]).toNat : Int) = 10
   ·rw [if_pos h10,if_pos h10]; exact hnext
   ·rw [if_neg h10,if_neg h10]
    by_cases hr1 : r - 1 = 0
    ·rw [if_pos hr1,if_pos hr1,w64_id (n := (i : Int) + 1) (by omega) (by omega),show ((i : Int) + 1) = ((i + 1 : Nat) : Int) by simp]
     have hcut : ∃ s2,S.cut s ((i + 1 : Nat) : Int) (bs.length : Int) 1 = some s2 ∧ S.rows s2 1 = some (bytesRows (bs.drop (i + 1))) := by
      obtain ⟨s2,c1,c2⟩ := rows_cut hr (m := i + 1) (by rw [bytesRows_len]; omega)
      rw [bytesRows_len] at c1
      exact ⟨s2,c1,by rw [c2,bytesRows,bytesRows,List.map_drop]⟩
     obtain ⟨s2,c1,c2⟩ := hcut
     have ht : S.text s2 = some (bs.drop (i + 1)) := by unfold HS.text; rw [c2,Option.bind_some,bytesOf_rows]
     rw [c1,Option.bind_some,ht,Option.bind_some]
     unfold strings_IndexByte.f internal_stringslite_IndexByte.f
     rw [Option.bind_some,Option.bind_some]
     have hbd := bidx_bounds (bs.drop (i + 1)) 10
     rw [List.length_drop] at hbd
     rw [w64_id (by omega) (by omega)]
     exact ⟨rfl,by omega,by omega⟩
    ·rw [if_neg hr1,if_neg hr1]; exact hnext
  ·rw [hl,if_neg (by omega),tornL,dif_neg hlt]; exact ⟨rfl,by omega,by omega⟩
theorem torn_spec {k : Nat} {S : HS} {s : Sl} {bs : List UInt8} (hr : S.rows s 1 = some (bytesRows bs)) (hb : bs.length ≤ 1000000) (hk : bs.length < k) {was n : Int} (h1 : 0 ≤ was) (h2 : was ≤ 1000000) (h3 : 0 ≤ n) (h4 : n ≤ 1000000) : sendq_torn.f k s was n S = some (tornP k bs was n,S) ∧ 0 ≤ tornP k bs was n ∧ tornP k bs was n ≤ 1000000 := by
 unfold sendq_torn.f tornP
 by_cases hle : n ≤ was
 ·rw [if_pos hle,if_pos hle,w64_id (by omega) (by omega)]; exact ⟨rfl,by omega,by omega⟩
 ·obtain ⟨w,rfl⟩ : ∃ w : Nat,was = (w : Int) := ⟨was.toNat,by omega⟩
  rw [if_neg hle,if_neg hle,w64_id (by omega) (by omega),Int.toNat_natCast]
  exact torn_loop hr hb k w _ (by omega) (by omega) (by omega)
theorem tornL_zero {bs : List UInt8} : ∀ (n i : Nat) (r : Int),(bs.length : Int) ≤ i + r → tornL bs n i r = 0 := by
 intro n
 induction n with
 | zero => intro i r h; rfl
 | succ n ih =>
  intro i r h
  rw [tornL]
  by_cases hlt : i < bs.length
  ·rw [dif_pos hlt]
   by_cases hr0 : r = 0
   ·rw [if_pos hr0]
   ·rw [if_neg hr0]
    have hn := ih (i + 1) (r - 1) (by omega)
    by_cases h10 : ((bs[i]).toNat : Int) = 10
    ·rw [if_pos h10,hn]
    ·rw [if_neg h10]
     by_cases hr1 : r - 1 = 0
     ·rw [if_pos hr1,List.drop_eq_nil_of_le (by omega)]; rfl
     ·rw [if_neg hr1,hn]
  ·rw [dif_neg hlt]
noncomputable section
def isByte (v : HV) : Bool := match v with | .int .u8 (.ofNat n) => Nat.ble n 255 | _ => false
def rowB (r : List HV) : Bool := match r with | [v] => isByte v | _ => false
def rowsB (rows : List (List HV)) : Bool := List.rec (motive := fun _ => Bool) true (fun r _ ih => Bool.rec false ih (rowB r)) rows
theorem rowsB_out : ∀ {rows : List (List HV)},rowsB rows = true → ∃ bs : List UInt8,rows = bytesRows bs := by
 intro rows
 induction rows with
 | nil => intro _; exact ⟨[],rfl⟩
 | cons r rows ih =>
  intro h
  replace h : (Bool.rec false (rowsB rows) (rowB r) : Bool) = true := h
  cases hr : rowB r with
  | false => rw [hr] at h; cases h
  | true =>
   rw [hr] at h
   obtain ⟨bs,rfl⟩ := ih h
   unfold rowB at hr
   split at hr
   ·unfold isByte at hr
    split at hr
    ·rename_i n
     have := Nat.le_of_ble_eq_true hr
     refine ⟨n.toUInt8 :: bs,?_⟩
     simp only [bytesRows,List.map_cons,List.cons.injEq,and_true,HV.int.injEq,true_and]
     show (n : Int) = (n.toUInt8.toNat : Int)
     have e : n.toUInt8.toNat = n := by
      show n % 256 = n
      omega
     rw [e]
    ·cases hr
   ·cases hr
def tornC (args : List HV) (c : CS) : Option Res :=
 match args with
 | [.sl a len q,.int .i64 (.ofNat was),.int .i64 (.ofNat n)] => Option.rec (motive := fun _ => Option Res) none (fun rows =>
   cond (rowsB rows && Nat.ble was 1000000 && Nat.ble n 1000000 && Nat.ble len 900000) (cond (Nat.ble n was) (some (.int .i64 (.ofNat (Nat.sub was n)),c)) (cond (Nat.ble len n) (some (.int .i64 0,c)) none)) none) (c.hs.rows ⟨a,len,q⟩ 1)
 | _ => none
theorem tornC_ok {base : Nat} {W0 : Env} {β0 : Bt} {args : List HV} {c : CS} {out : Res} (h : tornC args c = some out) : HCall Tryz.prog base W0 β0 57 args c.hs (fun v S1 => v = out.1 ∧ S1 = out.2.hs) := by
 unfold tornC at h
 split at h
 ·rename_i a len q was n
  cases hr : c.hs.rows ⟨a,len,q⟩ 1 with
  | none => rw [hr] at h; cases h
  | some rows =>
   rw [hr] at h
   replace h : cond (rowsB rows && Nat.ble was 1000000 && Nat.ble n 1000000 && Nat.ble len 900000) (cond (Nat.ble n was) (some (HV.int .i64 (.ofNat (Nat.sub was n)),c)) (cond (Nat.ble len n) (some (HV.int .i64 0,c)) none)) none = some out := h
   cases hc : rowsB rows && Nat.ble was 1000000 && Nat.ble n 1000000 && Nat.ble len 900000 with
   | false => rw [hc] at h; cases h
   | true =>
    rw [hc,cond_true] at h
    simp only [Bool.and_eq_true,Nat.ble_eq] at hc
    obtain ⟨⟨⟨h1,h2⟩,h3⟩,h4⟩ := hc
    obtain ⟨bs,rfl⟩ := rowsB_out h1
    have hl : bs.length = len := by have := rows_len hr; rw [bytesRows_len] at this; exact this
    obtain ⟨e,_,_⟩ := torn_spec (k := 1000001) (was := (was : Int)) (n := (n : Int)) hr (by omega) (by omega) (by omega) (by omega) (by omega) (by omega)
    cases hw : Nat.ble n was with
    | true =>
     rw [hw] at h
     cases h
     have h5 := Nat.le_of_ble_eq_true hw
     have hz : tornP 1000001 bs (was : Int) (n : Int) = Int.ofNat (Nat.sub was n) := by
      unfold tornP
      rw [if_pos (by omega)]
      show (was : Int) - (n : Int) = ((was - n : Nat) : Int)
      omega
     rw [hz] at e
     exact (sendq_torn.snd e).mono fun v S1 g => ⟨g.1,g.2⟩
    | false =>
     rw [hw,cond_false] at h
     have h5 : ¬ n ≤ was := fun hh => by rw [Nat.ble_eq_true_of_le hh] at hw; cases hw
     cases hm : Nat.ble len n with
     | false => rw [hm] at h; cases h
     | true =>
      rw [hm] at h
      cases h
      have h6 := Nat.le_of_ble_eq_true hm
      have hz : tornP 1000001 bs (was : Int) (n : Int) = 0 := by
       unfold tornP
       rw [if_neg (by omega)]
       exact tornL_zero _ _ _ (by omega)
      rw [hz] at e
      exact (sendq_torn.snd e).mono fun v S1 g => ⟨g.1,g.2⟩
 ·cases h
end
end Go.Proofs.YtfningkbcfhheaaGreatDoor.X
