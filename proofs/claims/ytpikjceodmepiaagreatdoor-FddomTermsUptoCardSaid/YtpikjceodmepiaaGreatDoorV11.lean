import Derived.Shelf.Small.Bits
import Derived.Test.YtpikjceodmepiaaGreatDoorRows
import Derived.WalkKit
import Derived.Deep.QuietTactic
import Derived.BigQuiet
import Derived.Deep.RegionHeld3
import Derived.Deep.DrawnRows
import Derived.Deep.DeepCutAuto
import Derived.Deep.CutBlock
import Derived.Laws.BytesArg
import Derived.Laws.AppendOwnNone
import Derived.ProofKit
import Derived.OpenShut
import Derived.JoinedCond
import Derived.JoinedOf
import Derived.JoinedAt
import Derived.ChangeSame
import Derived.ChangeSlices
import Derived.RowKit3
import Derived.Carry
import Derived.Lib.SmallJoins
import Derived.Deep.LoopGhost
import Derived.Maps.AppendAt
import Derived.IntWalk
import Derived.Test.YtpikjceodmepiaaGreatDoorV1
import Derived.Test.YtpikjceodmepiaaGreatDoorV2
import Derived.Test.YtpikjceodmepiaaGreatDoorV3
import Derived.Test.YtpikjceodmepiaaGreatDoorV4
import Derived.Test.YtpikjceodmepiaaGreatDoorV6
import Derived.Test.YtpikjceodmepiaaGreatDoorV7
import Derived.Test.YtpikjceodmepiaaGreatDoorV0
set_option maxRecDepth 1000000
set_option maxHeartbeats 64000000
set_option linter.unusedVariables false
set_option linter.unusedSimpArgs false
namespace Go.Proofs.YtpikjceodmepiaaGreatDoor
section
open Go.RowKit Hb
theorem ret_tup {a b c d:Value} (h1:a=c) (h2:b=d):Ending.returned (.tuple #[a,b]) = .returned (.tuple #[c,d]):=by rw [h1,h2]
theorem int_eq {k:IntKind} {a b:Int} (h:a=b):Value.int k a=Value.int k b:=by rw [h]
theorem or_hi_lo (h lo:Nat) (hh:h<4294967296) (hl:lo<4294967296):bits .or .u64 ((h:Int) * 4294967296) (lo:Int)=((h * 4294967296+lo:Nat):Int):=by
 have:=bits_or_u64 (h * 4294967296) lo (by omega) (by omega)
 rw [Nat.or_comm,or_add (s:=32) (by omega) (by omega)] at this
 rw [show ((h:Int) * 4294967296)=((h * 4294967296:Nat):Int) by omega,this]
 omega
theorem div32_any (h lo y:Nat) (w:World) (hh:h<y) (hy:y<4294967296) (hl:lo<4294967296) :
  Calls Tryz.prog 104 #[.int .u32 (h:Int),.int .u32 (lo:Int),.int .u32 (y:Int)] w fun e w'=>
   e = .returned (.tuple #[.int .u32 ((h * 4294967296+lo) / y:Nat),.int .u32 ((h * 4294967296+lo) % y:Nat)])∧Dr w w':=by
 have h0:((y:Int) != 0)=true:=by rw [bne_iff_ne];omega
 have h1:decide ((y:Int)≤(h:Int))=false:=decide_eq_false (by omega)
 have h2:decide (y≤h)=false:=decide_eq_false (by omega)
 have h3:(1:Int)≤(y:Int):=by omega
 have hor:=or_hi_lo h lo (by omega) hl
 have hz:h * 4294967296+lo<y * 4294967296:=by omega
 have hzq:(h * 4294967296+lo) / y<4294967296:=Nat.div_lt_of_lt_mul (by omega)
 have hzr:(h * 4294967296+lo) % y<y:=Nat.mod_lt _ (by omega)
 have hz9:h * 4294967296+lo<18446744073709551616:=by omega
 generalize h * 4294967296+lo=z at *
 obtain ⟨q,hq⟩:∃ q,z / y=q:=⟨_,rfl⟩
 obtain ⟨r,hr⟩:∃ r,z % y=r:=⟨_,rfl⟩
 have hqi:(z:Int) / (y:Int)=(q:Int):=by rw [←hq];simp
 have hri:(z:Int) % (y:Int)=(r:Int):=by rw [←hr];simp
 rw [hq] at hzq ⊢
 rw [hr] at hzr ⊢
 clear hq hr hz
 go_enter Tryz.func104,Tryz.ntmps104
 go_wp2_with fail
 go_quiet (fail)
 go_wp2
 go_ret2
 exact ⟨ret_tup (int_eq (by omega)) (int_eq (by omega)),(Dr.refl _).more _⟩
end
section
open Go.RowKit Hb
attribute [local go_sem ↓] Go.wp_at_zero Go.wp_at_succ
end
section
open Go.RowKit Hb
def dval (c:Nat):Nat:=if 48≤c∧c≤57 then c - 48 else if 97≤c∧c≤122 then c - 87 else if 65≤c∧c≤90 then c - 55 else 99
theorem value_any (c:Nat) (w:World) (hc:c<256):Calls Tryz.prog 133 #[.int .u8 (c:Int)] w fun e w'=>e = .returned (.int .i64 (dval c:Nat))∧w=w':=by
 have key:(c<48)∨(48≤c∧c≤57)∨(58≤c∧c<65)∨(65≤c∧c≤90)∨(91≤c∧c<97)∨(97≤c∧c≤122)∨(123≤c):=by omega
 rcases key with h | h | h | h | h | h | h
 ·have HD:=Qh (show dval c=99 by simp only [dval];repeat (first | rw [if_pos (by omega)] | rw [if_neg (by omega)]))
  have:decide ((48:Int)≤(c:Int))=false:=decide_eq_false (by omega)
  have:decide ((c:Int)≤57)=true:=decide_eq_true (by omega)
  have:decide ((97:Int)≤(c:Int))=false:=decide_eq_false (by omega)
  have:decide ((c:Int)≤122)=true:=decide_eq_true (by omega)
  have:decide ((65:Int)≤(c:Int))=false:=decide_eq_false (by omega)
  have:decide ((c:Int)≤90)=true:=decide_eq_true (by omega)
  rw [HD.out]
  go_enter Tryz.func133,Tryz.ntmps133
  go_wp2
  go_ret
  exact ⟨ret_int (by omega),rfl⟩
 ·have HD:=Qh (show dval c=c - 48 by simp only [dval];repeat (first | rw [if_pos (by omega)] | rw [if_neg (by omega)]))
  have:decide ((48:Int)≤(c:Int))=true:=decide_eq_true (by omega)
  have:decide ((c:Int)≤57)=true:=decide_eq_true (by omega)
  have:decide ((97:Int)≤(c:Int))=false:=decide_eq_false (by omega)
  have:decide ((c:Int)≤122)=true:=decide_eq_true (by omega)
  have:decide ((65:Int)≤(c:Int))=false:=decide_eq_false (by omega)
  have:decide ((c:Int)≤90)=true:=decide_eq_true (by omega)
  rw [HD.out]
  go_enter Tryz.func133,Tryz.ntmps133
  go_wp2
  go_ret
  exact ⟨ret_int (by omega),rfl⟩
 ·have HD:=Qh (show dval c=99 by simp only [dval];repeat (first | rw [if_pos (by omega)] | rw [if_neg (by omega)]))
  have:decide ((48:Int)≤(c:Int))=true:=decide_eq_true (by omega)
  have:decide ((c:Int)≤57)=false:=decide_eq_false (by omega)
  have:decide ((97:Int)≤(c:Int))=false:=decide_eq_false (by omega)
  have:decide ((c:Int)≤122)=true:=decide_eq_true (by omega)
  have:decide ((65:Int)≤(c:Int))=false:=decide_eq_false (by omega)
  have:decide ((c:Int)≤90)=true:=decide_eq_true (by omega)
  rw [HD.out]
  go_enter Tryz.func133,Tryz.ntmps133
  go_wp2
  go_ret
  exact ⟨ret_int (by omega),rfl⟩
 ·have HD:=Qh (show dval c=c - 55 by simp only [dval];repeat (first | rw [if_pos (by omega)] | rw [if_neg (by omega)]))
  have:decide ((48:Int)≤(c:Int))=true:=decide_eq_true (by omega)
  have:decide ((c:Int)≤57)=false:=decide_eq_false (by omega)
  have:decide ((97:Int)≤(c:Int))=false:=decide_eq_false (by omega)
  have:decide ((c:Int)≤122)=true:=decide_eq_true (by omega)
  have:decide ((65:Int)≤(c:Int))=true:=decide_eq_true (by omega)
  have:decide ((c:Int)≤90)=true:=decide_eq_true (by omega)
  rw [HD.out]
  go_enter Tryz.func133,Tryz.ntmps133
  go_wp2
  go_ret
  exact ⟨ret_int (by omega),rfl⟩
 ·have HD:=Qh (show dval c=99 by simp only [dval];repeat (first | rw [if_pos (by omega)] | rw [if_neg (by omega)]))
  have:decide ((48:Int)≤(c:Int))=true:=decide_eq_true (by omega)
  have:decide ((c:Int)≤57)=false:=decide_eq_false (by omega)
  have:decide ((97:Int)≤(c:Int))=false:=decide_eq_false (by omega)
  have:decide ((c:Int)≤122)=true:=decide_eq_true (by omega)
  have:decide ((65:Int)≤(c:Int))=true:=decide_eq_true (by omega)
  have:decide ((c:Int)≤90)=false:=decide_eq_false (by omega)
  rw [HD.out]
  go_enter Tryz.func133,Tryz.ntmps133
  go_wp2
  go_ret
  exact ⟨ret_int (by omega),rfl⟩
 ·have HD:=Qh (show dval c=c - 87 by simp only [dval];repeat (first | rw [if_pos (by omega)] | rw [if_neg (by omega)]))
  have:decide ((48:Int)≤(c:Int))=true:=decide_eq_true (by omega)
  have:decide ((c:Int)≤57)=false:=decide_eq_false (by omega)
  have:decide ((97:Int)≤(c:Int))=true:=decide_eq_true (by omega)
  have:decide ((c:Int)≤122)=true:=decide_eq_true (by omega)
  have:decide ((65:Int)≤(c:Int))=true:=decide_eq_true (by omega)
  have:decide ((c:Int)≤90)=false:=decide_eq_false (by omega)
  rw [HD.out]
  go_enter Tryz.func133,Tryz.ntmps133
  go_wp2
  go_ret
  exact ⟨ret_int (by omega),rfl⟩
 ·have HD:=Qh (show dval c=99 by simp only [dval];repeat (first | rw [if_pos (by omega)] | rw [if_neg (by omega)]))
  have:decide ((48:Int)≤(c:Int))=true:=decide_eq_true (by omega)
  have:decide ((c:Int)≤57)=false:=decide_eq_false (by omega)
  have:decide ((97:Int)≤(c:Int))=true:=decide_eq_true (by omega)
  have:decide ((c:Int)≤122)=false:=decide_eq_false (by omega)
  have:decide ((65:Int)≤(c:Int))=true:=decide_eq_true (by omega)
  have:decide ((c:Int)≤90)=false:=decide_eq_false (by omega)
  rw [HD.out]
  go_enter Tryz.func133,Tryz.ntmps133
  go_wp2
  go_ret
  exact ⟨ret_int (by omega),rfl⟩
theorem pval_le_go (r:Nat) (hr:1≤r) (ds:List Nat):∀ a,a≤ds.foldl (fun a d=>a * r+d) a:=by
 induction ds with
 | nil=>intro a;exact Nat.le_refl _
 | cons d ds ih=>
  intro a
  have h:=ih (a * r+d)
  have:a≤a * r:=Nat.le_mul_of_pos_right a hr
  exact Nat.le_trans (by omega) h
theorem pval_append (r:Nat) (ds es:List Nat):pval r (ds ++ es)=es.foldl (fun a d=>a * r+d) (pval r ds):=by simp [pval]
theorem pval_take_le {r:Nat} (hr:1≤r) (ds:List Nat) (k:Nat):pval r (ds.take k)≤pval r ds:=by
 conv=>rhs;rw [←List.take_append_drop k ds]
 rw [pval_append]
 exact pval_le_go r hr _ _
def sdig (s:List UInt8):List Nat:=s.map fun c=>dval c.toNat
theorem nrm_of_ge {l:List Nat} (hd:Dig W l) (h:l ≠ []→W ^ (l.length - 1)≤nv W l):Nrm l:=by
 refine nrm_of_getD fun hl=>?_
 intro h0
 have h1:=h hl
 have hlen:0<l.length:=List.length_pos_iff.2 hl
 have h2:nv W l=nv W (l.take (l.length - 1)):=by
  have:=take_succ_nv W l (k:=l.length - 1) (by omega)
  rw [h0,Nat.mul_zero,Nat.add_zero,show l.length - 1+1=l.length by omega,List.take_length] at this
  exact this
 have h3:=nv_lt (hd.take (l.length - 1))
 rw [List.length_take,Nat.min_eq_left (by omega)] at h3
 omega
theorem PIn.start {W0 wr:World} {A:Option Addr} {n c:Nat} {l:List Nat} {r d:Nat} (ho:OwnU wr W0.heap.size A n c (u32s l)) (hl:l.length=n) (hd:Dig W l) (hb:Below W0.heap.size W0 wr) (hd9:d<4294967296) :
  PIn W0 A n c l r d 0 (.int .u64 (d:Int)) wr:=
 ⟨l,d,rfl,hd9,hl,hd,fun _ _=>rfl,by rw [nvp_zero];simp;omega,ho,hb⟩
theorem PRel.stay {W0 wr:World} {A:Option Addr} {n c:Nat} {l o:List Nat} {r i:Nat} {ds:List Nat} (hi:i<ds.length) (hn:n≤128) (hln:l.length=n) (hnl:Nrm l) (hv:nv W l=pval r (ds.take i)) (hr:1≤r)
  (h1:o.length=n) (h2:Dig W o) (h3:nv W o+W ^ n * 0=nv W l * r+ds.getD i 0) (h4:OwnU wr W0.heap.size A n c (u32s o)) (h5:Below W0.heap.size W0 wr) :
  nv W o=pval r (ds.take (i+1))∧(nv W o<2 ^ 4096→PRel W0 r ds (i+1) (.slice A n c) wr):=by
 have e:nv W o=pval r (ds.take (i+1)):=by rw [pval_take_succ r ds hi,←hv,←h3];simp
 refine ⟨e,fun hlt=>⟨A,n,c,o,rfl,h4,h1,hn,h2,nrm_of_ge h2 fun hne=>?_,e,hlt,h5⟩⟩
 have hl0:l ≠ []:=by
  intro e;rw [e] at hln;simp at hln
  exact hne (List.length_eq_zero_iff.1 (by omega))
 have h6:=nv_ge (b:=W) hnl hl0
 have h7:nv W l≤nv W l * r:=Nat.le_mul_of_pos_right _ hr
 rw [h1,←hln]
 omega
def pNeg (bs:List UInt8):Bool:=bs.head?==some 45
def pRest (bs:List UInt8):List UInt8:=if pNeg bs then bs.tail else bs
def pBad (bs:List UInt8) (r:Int):Bool:=(pRest bs).isEmpty || (pRest bs).any fun c=>decide (r≤(dval c.toNat:Int))
def pVal (bs:List UInt8) (r:Int):Int:=if pNeg bs then -(pval r.toNat (sdig (pRest bs)):Int) else (pval r.toNat (sdig (pRest bs)):Int)
def pCode (bs:List UInt8) (r:Int):Int:=if r<2∨36<r then 13 else if pBad bs r then 12 else err (tooLong (pVal bs r))
theorem Parse_radix (s:ByteArray) (r:Int) (w:World) (hr:r<2∨36<r) (z:Int) (co:Int) (hco:co=13) :
  Calls Tryz.prog 110 #[.string s,.int .i64 r] w (PostC w z co):=by
 have HB:=Qh (Below.refl w.heap.size w)
 have HC:=Qh hco
 clear hco
 by_cases h:r<2
 ·have d1:decide (r<2)=true:=decide_eq_true h
  clear hr
  go_enter Tryz.func110,Tryz.ntmps110
  go_wp2
  exact bodyPost_ret (v:=.tuple #[zeroV,.int .i64 13]) (by simp [results,Tryz.results110,go_sem]) rfl
   (PostC.bad HC.out (by decide) (HB.out.alloc (Nat.le_refl _) _))
 ·have d1:decide (r<2)=false:=decide_eq_false h
  have d2:decide (36<r)=true:=decide_eq_true (by omega)
  clear hr
  go_enter Tryz.func110,Tryz.ntmps110
  go_wp2
  exact bodyPost_ret (v:=.tuple #[zeroV,.int .i64 13]) (by simp [results,Tryz.results110,go_sem]) rfl
   (PostC.bad HC.out (by decide) (HB.out.alloc (Nat.le_refl _) _))
theorem str_empty {s:ByteArray} (h:s.size=0):s.toList.isEmpty=true:=by
 rw [ByteArray.toList_eq]
 have:s.data.toList.length=0:=by simpa using h
 rw [List.length_eq_zero_iff.1 this];rfl
theorem str_full {s:ByteArray} (h:s.size≠0):s.toList.isEmpty=false:=by
 rw [ByteArray.toList_eq]
 cases hl:s.data.toList with
 | nil=>exact absurd (by have:=congrArg List.length hl;simpa using this) h
 | cons a l=>rfl
theorem sdig_length (s:ByteArray):(sdig s.data.toList).length=s.size:=by simp [sdig]
theorem sdig_get (s:ByteArray) {k:Nat} (h:k<s.size):(sdig s.data.toList).getD k 0=dval s[k].toNat:=by
 rw [getD_eq (by rw [sdig_length];exact h)]
 simp only [sdig,List.getElem_map]
 rfl
theorem pBad_empty {bs:List UInt8} {r:Int} {s:ByteArray} (h:s.data.toList=pRest bs) (h0:s.size=0):pBad bs r=true:=by
 have:s.data.toList = []:=List.length_eq_zero_iff.1 (by simpa using h0)
 simp [pBad,←h,this]
theorem pBad_at {bs:List UInt8} {r:Nat} {s:ByteArray} (h:s.data.toList=pRest bs) {k:Nat} (hk:k<s.size) (hd:r≤dval s[k].toNat):pBad bs r=true:=by
 simp only [pBad,←h,Bool.or_eq_true,List.any_eq_true]
 right
 refine ⟨s[k],?_,by simpa using hd⟩
 show s.data[k]∈_
 simp
theorem pBad_none {bs:List UInt8} {r:Nat} {s:ByteArray} (h:s.data.toList=pRest bs) (h0:s.size≠0) (hd:∀ j,j<s.size→(sdig s.data.toList).getD j 0<r):pBad bs r=false:=by
 have hne:=str_full h0
 rw [ByteArray.toList_eq] at hne
 rw [pBad,←h,hne,Bool.false_or,List.any_eq_false]
 intro c hc
 obtain ⟨j,hj,rfl⟩:=List.getElem_of_mem hc
 have hj2:j<s.size:=by simpa using hj
 have h3:=hd j hj2
 rw [sdig_get s hj2] at h3
 have:s.data.toList[j]=s[j]:=by simp;rfl
 rw [this]
 simp;omega
theorem pCode_bad {bs:List UInt8} {r:Nat} (h1:2≤r) (h2:r≤36) (h:pBad bs r=true):pCode bs r=12:=by
 rw [pCode,if_neg (by omega),h];rfl
theorem pVal_natAbs (bs:List UInt8) (r:Nat):(pVal bs r).natAbs=pval r (sdig (pRest bs)):=by
 unfold pVal;split <;> simp
theorem pCode_err {bs:List UInt8} {r:Nat} (h1:2≤r) (h2:r≤36) (h:pBad bs r=false):pCode bs r=err (tooLong (pVal bs r)):=by
 rw [pCode,if_neg (by omega),h];rfl
theorem tooLong_iff {z:Int} : tooLong z=decide (¬z.natAbs<2 ^ 4096):=by
 rw [tooLong]
 refine decide_eq_decide.2 ⟨fun h h2=>?_,fun h=>?_⟩
 ·have:=blen_le_iff.2 h2;omega
 ·rcases Nat.lt_or_ge 4096 (blen z.natAbs) with h2 | h2
  ·exact h2
  ·exact absurd (blen_le_iff.1 h2) h
theorem pCode_long {bs:List UInt8} {r:Nat} (h1:2≤r) (h2:r≤36) (h:pBad bs r=false) (k:Nat) (hl:¬pval r ((sdig (pRest bs)).take k)<2 ^ 4096):pCode bs r=10:=by
 rw [pCode_err h1 h2 h,tooLong_iff,pVal_natAbs]
 have:=pval_take_le (r:=r) (by omega) (sdig (pRest bs)) k
 have h3:¬pval r (sdig (pRest bs))<2 ^ 4096:=fun h=>hl (Nat.lt_of_le_of_lt this h)
 rw [decide_eq_true h3];rfl
theorem pCode_ok {bs:List UInt8} {r:Nat} (h1:2≤r) (h2:r≤36) (h:pBad bs r=false) (hl:pval r (sdig (pRest bs))<2 ^ 4096):pCode bs r=0:=by
 rw [pCode_err h1 h2 h,tooLong_iff,pVal_natAbs,decide_eq_false (Classical.not_not.2 hl)];rfl
theorem pNeg_cases (s:ByteArray):(s.size=0∧pNeg s.data.toList=false)∨(∃ h:0<s.size,s[0].toNat≠45∧pNeg s.data.toList=false)∨(∃ h:0<s.size,s[0].toNat=45∧pNeg s.data.toList=true∧(s.extract 1 s.size).data.toList=s.data.toList.tail∧(s.extract 1 s.size).size=s.size - 1):=by
 rcases Nat.eq_zero_or_pos s.size with h | h
 ·left
  have:s.data.toList = []:=List.length_eq_zero_iff.1 (by simpa using h)
  exact ⟨h,by rw [this];rfl⟩
 ·right
  have e:s.data.toList=s[0] :: s.data.toList.tail:=by
   have h2:0<s.data.toList.length:=by simpa using h
   have h3:s[0]=s.data.toList[0]:=by simp;rfl
   rw [h3]
   exact (List.cons_head_tail (by intro e;rw [e] at h2;simp at h2)).symm.trans (by rw [List.head_eq_getElem])
  have e2:pNeg s.data.toList=decide (s[0].toNat=45):=by
   rw [e,pNeg,List.head?_cons]
   by_cases h4:s[0].toNat=45
   ·have h5:s[0]=45:=UInt8.toNat_inj.1 h4
    rw [decide_eq_true h4,h5];rfl
   ·rw [decide_eq_false h4]
    rw [beq_eq_false_iff_ne]
    intro h5
    injection h5 with h5
    exact h4 (by rw [h5];rfl)
  by_cases h4:s[0].toNat=45
  ·right
   refine ⟨h,h4,by rw [e2];exact decide_eq_true h4,?_,?_⟩
   ·rw [ByteArray.data_extract]
    simp [List.drop_one]
    exact List.take_of_length_le (by simp)
   ·simp
  ·left
   exact ⟨h,h4,by rw [e2];exact decide_eq_false h4⟩
theorem PRel.start (w:World) (r:Nat) (ds:List Nat):PRel (w.alloc (.cells #[.bool false,.slice none 0 0] 56)) r ds 0 (.slice none 0 0) (w.alloc (.cells #[.bool false,.slice none 0 0] 56)):=
 ⟨none,0,0,[],rfl,⟨rfl,.inl ⟨rfl,rfl⟩⟩,rfl,by omega,Dig.nil _,Nrm.nil,rfl,M_pos,Below.refl _ _⟩
theorem Parse_good (s:ByteArray) (r:Nat) (w:World) (hs:s.size≤maxLen) (hr:2≤r) (hr2:r≤36) :
  Calls Tryz.prog 110 #[.string s,.int .i64 (r:Int)] w (PostC w (pVal s.data.toList r) (pCode s.data.toList r)):=by
 have HB:=Qh (Below.refl w.heap.size w)
 have d1:decide ((r:Int)<2)=false:=decide_eq_false (by omega)
 have d2:decide ((36:Int)<(r:Int))=false:=decide_eq_false (by omega)
 unfold maxLen at hs
 have HP:(s.size=0∧pNeg s.data.toList=false)∨(∃ h:0<s.size,s[0].toNat≠45∧pNeg s.data.toList=false)∨(∃ h:0<s.size,s[0].toNat=45∧pNeg s.data.toList=true∧(s.extract 1 s.size).data.toList=s.data.toList.tail∧(s.extract 1 s.size).size=s.size - 1):=pNeg_cases s
 rcases HP with ⟨h1,hng⟩ | ⟨h1,hb,hng⟩ | ⟨h1,hb,hng,hs2,hsz2⟩
 ·obtain ⟨s',hs'⟩:∃ s':ByteArray,s'=s:=⟨_,rfl⟩
  have HS':=Qh (Qa (show s'.data.toList=pRest s.data.toList by rw [hs',pRest,hng];rfl) hng)
  have d5:decide ((0:Int)<(s'.size:Int))=false:=decide_eq_false (by rw [hs'];omega)
  have d6:decide (0<s'.size)=false:=decide_eq_false (by rw [hs'];omega)
  have hm:s'.size≤9223372036854775807:=by rw [hs'];omega
  rw [show (Value.string s) = .string s' by rw [hs']]
  clear hng h1 hs'
  go_enter Tryz.func110,Tryz.ntmps110
  go_wp2_with fail
  clear d1 d2 d5 d6 hs
  go_loop [33] (fun i=>∃ k:Nat,k≤s'.size∧i = .int .i64 k∧Hid (∀ j,j<k→(sdig s'.data.toList).getD j 0<r)) (fun i=>s'.size - (intOf i).toNat)
  case atStart=>exact ⟨0,Nat.zero_le _,rfl,fun j hj=>absurd hj (Nat.not_lt_zero _)⟩
  case round=>
   obtain ⟨k,hk,rfl,hdj⟩:=hrel
   by_cases hks:k<s'.size
   ·have hk0:(0:Int)≤(k:Int):=by omega
    have hk1:(k:Int)<(s'.size:Int):=by omega
    have HV:=Qh (fun w1=>value_any s'[k].toNat w1 (UInt8.toNat_lt _))
    have HG:=Qh (sdig_get s' hks)
    have H12:=Qh (fun h=>pBad_at (r:=r) HS'.out.1 hks h)
    generalize hdv:dval s'[k].toNat=dv at *
    by_cases hlt:dv<r
    ·have d3:decide ((r:Int)≤(dv:Int))=false:=decide_eq_false (by omega)
     have d4:decide (r≤dv)=false:=decide_eq_false (by omega)
     clear hdv
     go_wp2_with (go_at_call 133;(with_reducible refine (HV.out _).mono ?_);rintro e w' ⟨rfl,rfl⟩)
     go_round
     case rel=>exact ⟨k+1,by omega,by go_num,fun j hj=>by
      rcases Nat.lt_or_ge j k with h | h
      ·exact hdj.out j h
      ·obtain rfl:j=k:=by omega
       rw [HG.out];exact hlt⟩
     case measure=>simp [intOf];omega
    ·have d3:decide ((r:Int)≤(dv:Int))=true:=decide_eq_true (by omega)
     have d4:decide (r≤dv)=true:=decide_eq_true (by omega)
     have HC:=Qh (pCode_bad hr hr2 (H12.out (by omega)))
     clear hdv
     go_wp2_with (go_at_call 133;(with_reducible refine (HV.out _).mono ?_);rintro e w' ⟨rfl,rfl⟩)
     exact bodyPost_ret (v:=.tuple #[zeroV,.int .i64 12]) (by simp [results,Tryz.results110,go_sem]) rfl
      (PostC.bad HC.out (by decide) (HB.out.alloc (Nat.le_refl _) _))
   ·obtain rfl:k=s'.size:=by omega
    by_cases he:s'.size=0
    ·have e1:=str_empty he
     have HC:=Qh (pCode_bad hr hr2 (pBad_empty (r:=r) HS'.out.1 he))
     go_wp2
     exact bodyPost_ret (v:=.tuple #[zeroV,.int .i64 12]) (by simp [results,Tryz.results110,go_sem]) rfl
      (PostC.bad HC.out (by decide) (HB.out.alloc (Nat.le_refl _) _))
    ·have e1:=str_full he
     have HBd:=Qh (pBad_none HS'.out.1 he hdj.out)
     go_wp2_with fail
     have hN:=Qh (PRel.start w r (sdig s'.data.toList))
     have HWB:=Qh (Bx.new w (.bool false) (.slice none 0 0))
     generalize hW0:w.alloc (.cells #[.bool false,.slice none 0 0] 56)=W0 at *
     have hW0z:W0.heap.size=w.heap.size+1:=by rw [←hW0];simp
     have HW0:=Qh (show Below w.heap.size w W0 by rw [←hW0];exact HB.out.alloc (Nat.le_refl _) _)
     have HWZ:=Qh hW0z
     clear hW0 hW0z
     go_loopw [8,49] (fun lv i wr=>∃ k:Nat,k≤s'.size∧i = .int .i64 k∧PRel W0 r (sdig s'.data.toList) k lv wr) (fun _ i _=>s'.size - (intOf i).toNat)
     case atStart=>exact ⟨0,Nat.zero_le _,rfl,hN.out⟩
     case round=>
      obtain ⟨k,hk,rfl,hrel⟩:=hrel
      have hWb:Below W0.heap.size W0 wr:=by obtain ⟨_,_,_,_,_,_,_,_,_,_,_,_,h⟩:=hrel;exact h
      obtain ⟨r0,r1,r2,r3⟩:=(HWB.out.below hWb (by rw [HWZ.out];omega)).facts
      have HWr:=Qh hWb
      clear hWb
      obtain ⟨A,n,c,l,rfl,ho,hln,hn128,hdl,hnl,hv,hlt,_⟩:=hrel
      by_cases hks:k<s'.size
      ·have hk0:(0:Int)≤(k:Int):=by omega
       have hk1:(k:Int)<(s'.size:Int):=by omega
       have HV:=Qh (fun w1=>value_any s'[k].toNat w1 (UInt8.toNat_lt _))
       have hdg:=sdig_get s' hks
       have hdr:=hdj.out k hks
       rw [hdg] at hdr
       generalize hdv:dval s'[k].toNat=dv at *
       have hdv9:dv<4294967296:=by omega
       have HIn:=Qh (PIn.start (r:=r) (d:=dv) ho hln hdl HWr.out hdv9)
       have HSt:=Qh (fun o (cy:Nat) wr (h1:o.length=n) (h2:Dig W o) (h3:nv W o+W ^ n * 0=nv W l * r+dv) h4 h5=>PRel.stay (W0:=W0) (wr:=wr) (A:=A) (c:=c) (i:=k) (ds:=sdig s'.data.toList) (by rw [sdig_length];exact hks) hn128 hln hnl hv (by omega) h1 h2 (by rw [hdg];exact h3) h4 h5)
       have HMo:=Qh (fun o (cy:Nat) A c wr (h0:cy≠0) (h9:cy<4294967296) (h1:o.length=n) (h2:Dig W o) (h3:nv W o+W ^ n * cy=nv W l * r+dv) h4 h5=>PRel.more (W0:=W0) (wr:=wr) (A:=A) (c:=c) (i:=k) (ds:=sdig s'.data.toList) (by rw [sdig_length];exact hks) hv h0 h9 h1 h2 (by rw [hdg];exact h3) h4 h5)
       have HDL:=Qh (Qa hln hdl)
       have hn9:n≤9223372036854775807:=by omega
       have hnI:(n:Int)≤128:=by omega
       obtain ⟨wo,hwo⟩:∃ wo:World,wo=wr:=⟨_,rfl⟩
       subst hwo
       clear ho hln hdl hnl hv hlt hdg hdv hN
       go_wp2_with (go_at_call 133;(with_reducible refine (HV.out _).mono ?_);rintro e w' ⟨rfl,rfl⟩)
       go_loopw [10,59] (fun cv kv wr=>∃ k2:Nat,k2≤n∧kv = .int .i64 k2∧PIn W0 A n c l r dv k2 cv wr) (fun _ kv _=>n - (intOf kv).toNat)
       case atStart=>exact ⟨0,Nat.zero_le _,rfl,HIn.out⟩
       case round=>
        obtain ⟨k2,hk2,rfl,hin⟩:=hrel
        by_cases hk2n:k2<n
        ·obtain ⟨g,rfl⟩:∃ g,A=some ⟨g,0,none⟩:=by
          obtain ⟨_,_,_,_,_,_,_,_,h,_⟩:=hin
          obtain ⟨g,h,_⟩:=Own.at_ h (by omega)
          exact ⟨g,h⟩
         obtain ⟨cy,rfl,hcy,hcl,hfz,hst⟩:=hin.facts hk2n hr2 HDL.out.2
         have hx:l.getD k2 0<4294967296:=HDL.out.2.getD (by decide) k2
         have HS:=Qh hst
         generalize l.getD k2 0=x at *
         obtain ⟨hq1,hq2⟩:=par_lt hx hr2 hcy
         obtain ⟨q,hq⟩:∃ q,x * r=q:=⟨_,rfl⟩
         rw [hq] at HS hq1 hq2
         have hqi:(x:Int) * (r:Int)=(q:Int):=by rw [←hq];simp
         have hk20:(0:Int)≤(k2:Int):=by omega
         have hk21:(k2:Int)<(n:Int):=by omega
         clear hq hst hin
         go_wp2_with fail
         go_roundw
         case rel=>exact ⟨k2+1,by omega,by go_num,HS.out⟩
         case measure=>simp [intOf];omega
        ·obtain rfl:k2=n:=by omega
         obtain ⟨o,cy,rfl,hcy,h1,h2,h3,h4,h5⟩:=hin.done HDL.out.1
         obtain ⟨r0,r1,r2,r3⟩:=(HWB.out.below h5 (by rw [HWZ.out];omega)).facts
         clear hin
         by_cases hc0:cy=0
         ·subst hc0
          have hBW:Below W0.heap.size W0 wr:=h5
          have hM:=HSt.out o 0 wr h1 h2 h3 h4 h5
          have hblen:nv W o<2 ^ 4096↔blen (nv W o)≤4096:=(blen_le_iff (k:=4096)).symm
          have HSz:=Qh (size_any (Own.sl h4 h2 h1) (by omega))
          by_cases hbig:nv W o<2 ^ 4096
          ·have hb3:=hblen.1 hbig
           have HPR:=Qh (hM.2 hbig)
           generalize blen (nv W o)=x at *
           have hd8:decide ((4096:Int)<(x:Int))=false:=decide_eq_false (by omega)
           have hd9:decide (4096<x)=false:=decide_eq_false (by omega)
           clear hM hblen hbig h1 h2 h3 h4 h5 hBW
           go_wp2_with (go_at_call 92;(with_reducible refine HSz.out.mono ?_);rintro e w' ⟨rfl,rfl⟩)
           go_roundw
           case rel=>exact ⟨k+1,by omega,by go_num,HPR.out⟩
           case measure=>simp [intOf];omega
          ·have hb3:4096<blen (nv W o):=by
            rcases Nat.lt_or_ge 4096 (blen (nv W o)) with h | h
            ·exact h
            ·exact absurd (hblen.2 h) hbig
           have HC:=Qh (pCode_long hr hr2 HBd.out (k+1) (by rw [←HS'.out.1,←hM.1];exact hbig))
           generalize blen (nv W o)=x at *
           have hd8:decide ((4096:Int)<(x:Int))=true:=decide_eq_true (by omega)
           have hd9:decide (4096<x)=true:=decide_eq_true (by omega)
           have HBZ:=Qh (HW0.out.trans (hBW.mono (B':=w.heap.size) HW0.out.size))
           obtain ⟨r0,r1,r2,r3⟩:=(HWB.out.below hBW (by rw [HWZ.out];omega)).facts
           clear hM hblen hbig hBW h1 h2 h3 h4 h5
           go_wp2_with (go_at_call 92;(with_reducible refine HSz.out.mono ?_);rintro e w' ⟨rfl,rfl⟩)
           exact bodyPost_ret (v:=.tuple #[zeroV,.int .i64 10]) (by simp [results,Tryz.results110,go_sem,r0,r1]) rfl
            (PostC.bad HC.out (by decide) ((HBZ.out.setCell (by first | omega | (simp;done) | (simp;omega)) _).setCell (by first | omega | (simp;done) | (simp;omega)) _))
         ·have hd6:decide ((0:Int)<(cy:Int))=true:=decide_eq_true (by omega)
          have hd7:decide (0<cy)=true:=decide_eq_true (by omega)
          have hcm:(cy:Int) % 4294967296=(cy:Int):=by omega
          have HO:=Qh h4
          have H5:=Qh h5
          have HX:=Qh (Qa h1 (Qa h2 h3))
          have hz5:=h5.size
          have HM2:=Qh (fun A c wr h4 h5=>HMo.out o cy A c wr hc0 hcy h1 h2 h3 h4 h5)
          clear h4 h5 h1 h2 h3
          go_wp2_with (at_builtin;refine wpList_append_u32 (by rfl) _ _ (by rfl) _ A k2 c o (by rfl) (Own.alloc HO.out _) wr.heap.size cy (by rfl) (by simp [go_sem]) (by omega) (by simp;omega) ?_;intro A' c' w1 ho1 hb1)
          have hBW:Below W0.heap.size W0 w1:=(H5.out.alloc hz5 _).trans hb1
          have hM:=HM2.out A' c' w1 ho1 hBW
          have hblen:nv W (o ++ [cy])<2 ^ 4096↔blen (nv W (o ++ [cy]))≤4096:=(blen_le_iff (k:=4096)).symm
          have HSz:=Qh (size_any (Own.sl ho1 (HX.out.2.1.append (Dig.cons hcy (Dig.nil _))) (by simp [HX.out.1])) (by omega))
          by_cases hbig:nv W (o ++ [cy])<2 ^ 4096
          ·have hb3:=hblen.1 hbig
           have HPR:=Qh (hM.2 hbig)
           generalize blen (nv W (o ++ [cy]))=x at *
           have hd8:decide ((4096:Int)<(x:Int))=false:=decide_eq_false (by omega)
           have hd9:decide (4096<x)=false:=decide_eq_false (by omega)
           clear hM hblen hbig
           go_wp2_with (go_at_call 92;(with_reducible refine HSz.out.mono ?_);rintro e w' ⟨rfl,rfl⟩)
           go_roundw
           case rel=>exact ⟨k+1,by omega,by go_num,HPR.out⟩
           case measure=>simp [intOf];omega
          ·have hb3:4096<blen (nv W (o ++ [cy])):=by
            rcases Nat.lt_or_ge 4096 (blen (nv W (o ++ [cy]))) with h | h
            ·exact h
            ·exact absurd (hblen.2 h) hbig
           have HC:=Qh (pCode_long hr hr2 HBd.out (k+1) (by rw [←HS'.out.1,←hM.1];exact hbig))
           generalize blen (nv W (o ++ [cy]))=x at *
           have hd8:decide ((4096:Int)<(x:Int))=true:=decide_eq_true (by omega)
           have hd9:decide (4096<x)=true:=decide_eq_true (by omega)
           have HBZ:=Qh (HW0.out.trans (hBW.mono (B':=w.heap.size) HW0.out.size))
           obtain ⟨r0,r1,r2,r3⟩:=(HWB.out.below hBW (by rw [HWZ.out];omega)).facts
           clear hM hblen hbig hBW
           go_wp2_with (go_at_call 92;(with_reducible refine HSz.out.mono ?_);rintro e w' ⟨rfl,rfl⟩)
           exact bodyPost_ret (v:=.tuple #[zeroV,.int .i64 10]) (by simp [results,Tryz.results110,go_sem,r0,r1]) rfl
            (PostC.bad HC.out (by decide) ((HBZ.out.setCell (by first | omega | (simp;done) | (simp;omega)) _).setCell (by first | omega | (simp;done) | (simp;omega)) _))
      ·obtain rfl:k=s'.size:=by omega
       have HR:=Qh (Qa ho (Qa hln (Qa hdl hlt)))
       rw [List.take_of_length_le (by rw [sdig_length];exact Nat.le_refl _)] at hv
       have HZ:=Qh (show ∀ b,pNeg s.data.toList=b→ival b l=pVal s.data.toList r by
        intro b hb;rw [ival,hv,pVal,hb,HS'.out.1,Int.toNat_natCast])
       have HC:=Qh (pCode_ok hr hr2 HBd.out (by rw [←HS'.out.1,←hv];exact hlt))
       clear ho hln hdl hlt hv hnl
       go_wp2_with fail
       refine (laid_own _ HR.out.1 HR.out.2.1 HR.out.2.2.1 (HZ.out _ HS'.out.2)).mono ?_
       rintro ex w2 ⟨v,rfl,⟨A2,c2,rfl,ho2⟩,hb2⟩
       obtain ⟨r0,r1,r2,r3⟩:=(HWB.out.below (Qt HWr.out hb2) (by rw [HWZ.out];omega)).facts
       have hr9:=fun u u'=>ResI.stored (w:=w) (g:=w.heap.size) (u:=u) (u':=u') ⟨A2,c2,rfl,ho2⟩ (HW0.out.trans ((Qt HWr.out hb2).mono HW0.out.size)) (by rw [HWZ.out];omega) (Nat.le_refl _)
       have HR9:=Qh hr9
       clear hr9 ho2 hb2
       go_wp2
       exact bodyPost_ret (v:=.tuple #[.agg #[.bool (decide (pVal s.data.toList r<0)),.slice A2 (digs W (pVal s.data.toList r).natAbs).length c2],.int .i64 0]) (by simp [results,Tryz.results110,go_sem,r0,r1]) rfl
        (PostC.ok HC.out (HR9.out _ _).1 (HR9.out _ _).2)
 ·obtain ⟨s',hs'⟩:∃ s':ByteArray,s'=s:=⟨_,rfl⟩
  have HS':=Qh (Qa (show s'.data.toList=pRest s.data.toList by rw [hs',pRest,hng];rfl) hng)
  have hh:0<s'.size:=by rw [hs'];exact h1
  have d5:decide ((0:Int)<(s'.size:Int))=true:=decide_eq_true (by omega)
  have d6:decide (0<s'.size)=true:=decide_eq_true hh
  have d7:((s'[0].toNat:Int)==45)=false:=beq_eq_false_iff_ne.2 (by subst hs';omega)
  have hm:s'.size≤9223372036854775807:=by rw [hs'];omega
  rw [show (Value.string s) = .string s' by rw [hs']]
  clear hng h1 hb hs'
  go_enter Tryz.func110,Tryz.ntmps110
  go_wp2_with fail
  generalize s'[0].toNat=c0 at *
  clear d1 d2 d5 d6 d7 hs hh
  go_loop [33] (fun i=>∃ k:Nat,k≤s'.size∧i = .int .i64 k∧Hid (∀ j,j<k→(sdig s'.data.toList).getD j 0<r)) (fun i=>s'.size - (intOf i).toNat)
  case atStart=>exact ⟨0,Nat.zero_le _,rfl,fun j hj=>absurd hj (Nat.not_lt_zero _)⟩
  case round=>
   obtain ⟨k,hk,rfl,hdj⟩:=hrel
   by_cases hks:k<s'.size
   ·have hk0:(0:Int)≤(k:Int):=by omega
    have hk1:(k:Int)<(s'.size:Int):=by omega
    have HV:=Qh (fun w1=>value_any s'[k].toNat w1 (UInt8.toNat_lt _))
    have HG:=Qh (sdig_get s' hks)
    have H12:=Qh (fun h=>pBad_at (r:=r) HS'.out.1 hks h)
    generalize hdv:dval s'[k].toNat=dv at *
    by_cases hlt:dv<r
    ·have d3:decide ((r:Int)≤(dv:Int))=false:=decide_eq_false (by omega)
     have d4:decide (r≤dv)=false:=decide_eq_false (by omega)
     clear hdv
     go_wp2_with (go_at_call 133;(with_reducible refine (HV.out _).mono ?_);rintro e w' ⟨rfl,rfl⟩)
     go_round
     case rel=>exact ⟨k+1,by omega,by go_num,fun j hj=>by
      rcases Nat.lt_or_ge j k with h | h
      ·exact hdj.out j h
      ·obtain rfl:j=k:=by omega
       rw [HG.out];exact hlt⟩
     case measure=>simp [intOf];omega
    ·have d3:decide ((r:Int)≤(dv:Int))=true:=decide_eq_true (by omega)
     have d4:decide (r≤dv)=true:=decide_eq_true (by omega)
     have HC:=Qh (pCode_bad hr hr2 (H12.out (by omega)))
     clear hdv
     go_wp2_with (go_at_call 133;(with_reducible refine (HV.out _).mono ?_);rintro e w' ⟨rfl,rfl⟩)
     exact bodyPost_ret (v:=.tuple #[zeroV,.int .i64 12]) (by simp [results,Tryz.results110,go_sem]) rfl
      (PostC.bad HC.out (by decide) (HB.out.alloc (Nat.le_refl _) _))
   ·obtain rfl:k=s'.size:=by omega
    by_cases he:s'.size=0
    ·have e1:=str_empty he
     have HC:=Qh (pCode_bad hr hr2 (pBad_empty (r:=r) HS'.out.1 he))
     go_wp2
     exact bodyPost_ret (v:=.tuple #[zeroV,.int .i64 12]) (by simp [results,Tryz.results110,go_sem]) rfl
      (PostC.bad HC.out (by decide) (HB.out.alloc (Nat.le_refl _) _))
    ·have e1:=str_full he
     have HBd:=Qh (pBad_none HS'.out.1 he hdj.out)
     go_wp2_with fail
     have hN:=Qh (PRel.start w r (sdig s'.data.toList))
     have HWB:=Qh (Bx.new w (.bool false) (.slice none 0 0))
     generalize hW0:w.alloc (.cells #[.bool false,.slice none 0 0] 56)=W0 at *
     have hW0z:W0.heap.size=w.heap.size+1:=by rw [←hW0];simp
     have HW0:=Qh (show Below w.heap.size w W0 by rw [←hW0];exact HB.out.alloc (Nat.le_refl _) _)
     have HWZ:=Qh hW0z
     clear hW0 hW0z
     go_loopw [8,49] (fun lv i wr=>∃ k:Nat,k≤s'.size∧i = .int .i64 k∧PRel W0 r (sdig s'.data.toList) k lv wr) (fun _ i _=>s'.size - (intOf i).toNat)
     case atStart=>exact ⟨0,Nat.zero_le _,rfl,hN.out⟩
     case round=>
      obtain ⟨k,hk,rfl,hrel⟩:=hrel
      have hWb:Below W0.heap.size W0 wr:=by obtain ⟨_,_,_,_,_,_,_,_,_,_,_,_,h⟩:=hrel;exact h
      obtain ⟨r0,r1,r2,r3⟩:=(HWB.out.below hWb (by rw [HWZ.out];omega)).facts
      have HWr:=Qh hWb
      clear hWb
      obtain ⟨A,n,c,l,rfl,ho,hln,hn128,hdl,hnl,hv,hlt,_⟩:=hrel
      by_cases hks:k<s'.size
      ·have hk0:(0:Int)≤(k:Int):=by omega
       have hk1:(k:Int)<(s'.size:Int):=by omega
       have HV:=Qh (fun w1=>value_any s'[k].toNat w1 (UInt8.toNat_lt _))
       have hdg:=sdig_get s' hks
       have hdr:=hdj.out k hks
       rw [hdg] at hdr
       generalize hdv:dval s'[k].toNat=dv at *
       have hdv9:dv<4294967296:=by omega
       have HIn:=Qh (PIn.start (r:=r) (d:=dv) ho hln hdl HWr.out hdv9)
       have HSt:=Qh (fun o (cy:Nat) wr (h1:o.length=n) (h2:Dig W o) (h3:nv W o+W ^ n * 0=nv W l * r+dv) h4 h5=>PRel.stay (W0:=W0) (wr:=wr) (A:=A) (c:=c) (i:=k) (ds:=sdig s'.data.toList) (by rw [sdig_length];exact hks) hn128 hln hnl hv (by omega) h1 h2 (by rw [hdg];exact h3) h4 h5)
       have HMo:=Qh (fun o (cy:Nat) A c wr (h0:cy≠0) (h9:cy<4294967296) (h1:o.length=n) (h2:Dig W o) (h3:nv W o+W ^ n * cy=nv W l * r+dv) h4 h5=>PRel.more (W0:=W0) (wr:=wr) (A:=A) (c:=c) (i:=k) (ds:=sdig s'.data.toList) (by rw [sdig_length];exact hks) hv h0 h9 h1 h2 (by rw [hdg];exact h3) h4 h5)
       have HDL:=Qh (Qa hln hdl)
       have hn9:n≤9223372036854775807:=by omega
       have hnI:(n:Int)≤128:=by omega
       obtain ⟨wo,hwo⟩:∃ wo:World,wo=wr:=⟨_,rfl⟩
       subst hwo
       clear ho hln hdl hnl hv hlt hdg hdv hN
       go_wp2_with (go_at_call 133;(with_reducible refine (HV.out _).mono ?_);rintro e w' ⟨rfl,rfl⟩)
       go_loopw [10,59] (fun cv kv wr=>∃ k2:Nat,k2≤n∧kv = .int .i64 k2∧PIn W0 A n c l r dv k2 cv wr) (fun _ kv _=>n - (intOf kv).toNat)
       case atStart=>exact ⟨0,Nat.zero_le _,rfl,HIn.out⟩
       case round=>
        obtain ⟨k2,hk2,rfl,hin⟩:=hrel
        by_cases hk2n:k2<n
        ·obtain ⟨g,rfl⟩:∃ g,A=some ⟨g,0,none⟩:=by
          obtain ⟨_,_,_,_,_,_,_,_,h,_⟩:=hin
          obtain ⟨g,h,_⟩:=Own.at_ h (by omega)
          exact ⟨g,h⟩
         obtain ⟨cy,rfl,hcy,hcl,hfz,hst⟩:=hin.facts hk2n hr2 HDL.out.2
         have hx:l.getD k2 0<4294967296:=HDL.out.2.getD (by decide) k2
         have HS:=Qh hst
         generalize l.getD k2 0=x at *
         obtain ⟨hq1,hq2⟩:=par_lt hx hr2 hcy
         obtain ⟨q,hq⟩:∃ q,x * r=q:=⟨_,rfl⟩
         rw [hq] at HS hq1 hq2
         have hqi:(x:Int) * (r:Int)=(q:Int):=by rw [←hq];simp
         have hk20:(0:Int)≤(k2:Int):=by omega
         have hk21:(k2:Int)<(n:Int):=by omega
         clear hq hst hin
         go_wp2_with fail
         go_roundw
         case rel=>exact ⟨k2+1,by omega,by go_num,HS.out⟩
         case measure=>simp [intOf];omega
        ·obtain rfl:k2=n:=by omega
         obtain ⟨o,cy,rfl,hcy,h1,h2,h3,h4,h5⟩:=hin.done HDL.out.1
         obtain ⟨r0,r1,r2,r3⟩:=(HWB.out.below h5 (by rw [HWZ.out];omega)).facts
         clear hin
         by_cases hc0:cy=0
         ·subst hc0
          have hBW:Below W0.heap.size W0 wr:=h5
          have hM:=HSt.out o 0 wr h1 h2 h3 h4 h5
          have hblen:nv W o<2 ^ 4096↔blen (nv W o)≤4096:=(blen_le_iff (k:=4096)).symm
          have HSz:=Qh (size_any (Own.sl h4 h2 h1) (by omega))
          by_cases hbig:nv W o<2 ^ 4096
          ·have hb3:=hblen.1 hbig
           have HPR:=Qh (hM.2 hbig)
           generalize blen (nv W o)=x at *
           have hd8:decide ((4096:Int)<(x:Int))=false:=decide_eq_false (by omega)
           have hd9:decide (4096<x)=false:=decide_eq_false (by omega)
           clear hM hblen hbig h1 h2 h3 h4 h5 hBW
           go_wp2_with (go_at_call 92;(with_reducible refine HSz.out.mono ?_);rintro e w' ⟨rfl,rfl⟩)
           go_roundw
           case rel=>exact ⟨k+1,by omega,by go_num,HPR.out⟩
           case measure=>simp [intOf];omega
          ·have hb3:4096<blen (nv W o):=by
            rcases Nat.lt_or_ge 4096 (blen (nv W o)) with h | h
            ·exact h
            ·exact absurd (hblen.2 h) hbig
           have HC:=Qh (pCode_long hr hr2 HBd.out (k+1) (by rw [←HS'.out.1,←hM.1];exact hbig))
           generalize blen (nv W o)=x at *
           have hd8:decide ((4096:Int)<(x:Int))=true:=decide_eq_true (by omega)
           have hd9:decide (4096<x)=true:=decide_eq_true (by omega)
           have HBZ:=Qh (HW0.out.trans (hBW.mono (B':=w.heap.size) HW0.out.size))
           obtain ⟨r0,r1,r2,r3⟩:=(HWB.out.below hBW (by rw [HWZ.out];omega)).facts
           clear hM hblen hbig hBW h1 h2 h3 h4 h5
           go_wp2_with (go_at_call 92;(with_reducible refine HSz.out.mono ?_);rintro e w' ⟨rfl,rfl⟩)
           exact bodyPost_ret (v:=.tuple #[zeroV,.int .i64 10]) (by simp [results,Tryz.results110,go_sem,r0,r1]) rfl
            (PostC.bad HC.out (by decide) ((HBZ.out.setCell (by first | omega | (simp;done) | (simp;omega)) _).setCell (by first | omega | (simp;done) | (simp;omega)) _))
         ·have hd6:decide ((0:Int)<(cy:Int))=true:=decide_eq_true (by omega)
          have hd7:decide (0<cy)=true:=decide_eq_true (by omega)
          have hcm:(cy:Int) % 4294967296=(cy:Int):=by omega
          have HO:=Qh h4
          have H5:=Qh h5
          have HX:=Qh (Qa h1 (Qa h2 h3))
          have hz5:=h5.size
          have HM2:=Qh (fun A c wr h4 h5=>HMo.out o cy A c wr hc0 hcy h1 h2 h3 h4 h5)
          clear h4 h5 h1 h2 h3
          go_wp2_with (at_builtin;refine wpList_append_u32 (by rfl) _ _ (by rfl) _ A k2 c o (by rfl) (Own.alloc HO.out _) wr.heap.size cy (by rfl) (by simp [go_sem]) (by omega) (by simp;omega) ?_;intro A' c' w1 ho1 hb1)
          have hBW:Below W0.heap.size W0 w1:=(H5.out.alloc hz5 _).trans hb1
          have hM:=HM2.out A' c' w1 ho1 hBW
          have hblen:nv W (o ++ [cy])<2 ^ 4096↔blen (nv W (o ++ [cy]))≤4096:=(blen_le_iff (k:=4096)).symm
          have HSz:=Qh (size_any (Own.sl ho1 (HX.out.2.1.append (Dig.cons hcy (Dig.nil _))) (by simp [HX.out.1])) (by omega))
          by_cases hbig:nv W (o ++ [cy])<2 ^ 4096
          ·have hb3:=hblen.1 hbig
           have HPR:=Qh (hM.2 hbig)
           generalize blen (nv W (o ++ [cy]))=x at *
           have hd8:decide ((4096:Int)<(x:Int))=false:=decide_eq_false (by omega)
           have hd9:decide (4096<x)=false:=decide_eq_false (by omega)
           clear hM hblen hbig
           go_wp2_with (go_at_call 92;(with_reducible refine HSz.out.mono ?_);rintro e w' ⟨rfl,rfl⟩)
           go_roundw
           case rel=>exact ⟨k+1,by omega,by go_num,HPR.out⟩
           case measure=>simp [intOf];omega
          ·have hb3:4096<blen (nv W (o ++ [cy])):=by
            rcases Nat.lt_or_ge 4096 (blen (nv W (o ++ [cy]))) with h | h
            ·exact h
            ·exact absurd (hblen.2 h) hbig
           have HC:=Qh (pCode_long hr hr2 HBd.out (k+1) (by rw [←HS'.out.1,←hM.1];exact hbig))
           generalize blen (nv W (o ++ [cy]))=x at *
           have hd8:decide ((4096:Int)<(x:Int))=true:=decide_eq_true (by omega)
           have hd9:decide (4096<x)=true:=decide_eq_true (by omega)
           have HBZ:=Qh (HW0.out.trans (hBW.mono (B':=w.heap.size) HW0.out.size))
           obtain ⟨r0,r1,r2,r3⟩:=(HWB.out.below hBW (by rw [HWZ.out];omega)).facts
           clear hM hblen hbig hBW
           go_wp2_with (go_at_call 92;(with_reducible refine HSz.out.mono ?_);rintro e w' ⟨rfl,rfl⟩)
           exact bodyPost_ret (v:=.tuple #[zeroV,.int .i64 10]) (by simp [results,Tryz.results110,go_sem,r0,r1]) rfl
            (PostC.bad HC.out (by decide) ((HBZ.out.setCell (by first | omega | (simp;done) | (simp;omega)) _).setCell (by first | omega | (simp;done) | (simp;omega)) _))
      ·obtain rfl:k=s'.size:=by omega
       have HR:=Qh (Qa ho (Qa hln (Qa hdl hlt)))
       rw [List.take_of_length_le (by rw [sdig_length];exact Nat.le_refl _)] at hv
       have HZ:=Qh (show ∀ b,pNeg s.data.toList=b→ival b l=pVal s.data.toList r by
        intro b hb;rw [ival,hv,pVal,hb,HS'.out.1,Int.toNat_natCast])
       have HC:=Qh (pCode_ok hr hr2 HBd.out (by rw [←HS'.out.1,←hv];exact hlt))
       clear ho hln hdl hlt hv hnl
       go_wp2_with fail
       refine (laid_own _ HR.out.1 HR.out.2.1 HR.out.2.2.1 (HZ.out _ HS'.out.2)).mono ?_
       rintro ex w2 ⟨v,rfl,⟨A2,c2,rfl,ho2⟩,hb2⟩
       obtain ⟨r0,r1,r2,r3⟩:=(HWB.out.below (Qt HWr.out hb2) (by rw [HWZ.out];omega)).facts
       have hr9:=fun u u'=>ResI.stored (w:=w) (g:=w.heap.size) (u:=u) (u':=u') ⟨A2,c2,rfl,ho2⟩ (HW0.out.trans ((Qt HWr.out hb2).mono HW0.out.size)) (by rw [HWZ.out];omega) (Nat.le_refl _)
       have HR9:=Qh hr9
       clear hr9 ho2 hb2
       go_wp2
       exact bodyPost_ret (v:=.tuple #[.agg #[.bool (decide (pVal s.data.toList r<0)),.slice A2 (digs W (pVal s.data.toList r).natAbs).length c2],.int .i64 0]) (by simp [results,Tryz.results110,go_sem,r0,r1]) rfl
        (PostC.ok HC.out (HR9.out _ _).1 (HR9.out _ _).2)
 ·obtain ⟨s',hs'⟩:∃ s',s.extract 1 s.size=s':=⟨_,rfl⟩
  have HS':=Qh (Qa (show s'.data.toList=pRest s.data.toList by rw [pRest,hng,if_pos rfl,←hs2,hs']) hng)
  rw [hs'] at hsz2
  have hsz3:s.size - 1=s'.size:=hsz2.symm
  have d5:decide ((0:Int)<(s.size:Int))=true:=decide_eq_true (by omega)
  have d6:decide (0<s.size)=true:=decide_eq_true h1
  have hm:s'.size≤9223372036854775807:=by omega
  clear hng hs2 hsz2
  go_enter Tryz.func110,Tryz.ntmps110
  go_wp2_with fail
  clear hs' hsz3 hb d1 d2 d5 d6 h1 hs
  go_loop [33] (fun i=>∃ k:Nat,k≤s'.size∧i = .int .i64 k∧Hid (∀ j,j<k→(sdig s'.data.toList).getD j 0<r)) (fun i=>s'.size - (intOf i).toNat)
  case atStart=>exact ⟨0,Nat.zero_le _,rfl,fun j hj=>absurd hj (Nat.not_lt_zero _)⟩
  case round=>
   obtain ⟨k,hk,rfl,hdj⟩:=hrel
   by_cases hks:k<s'.size
   ·have hk0:(0:Int)≤(k:Int):=by omega
    have hk1:(k:Int)<(s'.size:Int):=by omega
    have HV:=Qh (fun w1=>value_any s'[k].toNat w1 (UInt8.toNat_lt _))
    have HG:=Qh (sdig_get s' hks)
    have H12:=Qh (fun h=>pBad_at (r:=r) HS'.out.1 hks h)
    generalize hdv:dval s'[k].toNat=dv at *
    by_cases hlt:dv<r
    ·have d3:decide ((r:Int)≤(dv:Int))=false:=decide_eq_false (by omega)
     have d4:decide (r≤dv)=false:=decide_eq_false (by omega)
     clear hdv
     go_wp2_with (go_at_call 133;(with_reducible refine (HV.out _).mono ?_);rintro e w' ⟨rfl,rfl⟩)
     go_round
     case rel=>exact ⟨k+1,by omega,by go_num,fun j hj=>by
      rcases Nat.lt_or_ge j k with h | h
      ·exact hdj.out j h
      ·obtain rfl:j=k:=by omega
       rw [HG.out];exact hlt⟩
     case measure=>simp [intOf];omega
    ·have d3:decide ((r:Int)≤(dv:Int))=true:=decide_eq_true (by omega)
     have d4:decide (r≤dv)=true:=decide_eq_true (by omega)
     have HC:=Qh (pCode_bad hr hr2 (H12.out (by omega)))
     clear hdv
     go_wp2_with (go_at_call 133;(with_reducible refine (HV.out _).mono ?_);rintro e w' ⟨rfl,rfl⟩)
     exact bodyPost_ret (v:=.tuple #[zeroV,.int .i64 12]) (by simp [results,Tryz.results110,go_sem]) rfl
      (PostC.bad HC.out (by decide) (HB.out.alloc (Nat.le_refl _) _))
   ·obtain rfl:k=s'.size:=by omega
    by_cases he:s'.size=0
    ·have e1:=str_empty he
     have HC:=Qh (pCode_bad hr hr2 (pBad_empty (r:=r) HS'.out.1 he))
     go_wp2
     exact bodyPost_ret (v:=.tuple #[zeroV,.int .i64 12]) (by simp [results,Tryz.results110,go_sem]) rfl
      (PostC.bad HC.out (by decide) (HB.out.alloc (Nat.le_refl _) _))
    ·have e1:=str_full he
     have HBd:=Qh (pBad_none HS'.out.1 he hdj.out)
     go_wp2_with fail
     have hN:=Qh (PRel.start w r (sdig s'.data.toList))
     have HWB:=Qh (Bx.new w (.bool false) (.slice none 0 0))
     generalize hW0:w.alloc (.cells #[.bool false,.slice none 0 0] 56)=W0 at *
     have hW0z:W0.heap.size=w.heap.size+1:=by rw [←hW0];simp
     have HW0:=Qh (show Below w.heap.size w W0 by rw [←hW0];exact HB.out.alloc (Nat.le_refl _) _)
     have HWZ:=Qh hW0z
     clear hW0 hW0z
     go_loopw [8,49] (fun lv i wr=>∃ k:Nat,k≤s'.size∧i = .int .i64 k∧PRel W0 r (sdig s'.data.toList) k lv wr) (fun _ i _=>s'.size - (intOf i).toNat)
     case atStart=>exact ⟨0,Nat.zero_le _,rfl,hN.out⟩
     case round=>
      obtain ⟨k,hk,rfl,hrel⟩:=hrel
      have hWb:Below W0.heap.size W0 wr:=by obtain ⟨_,_,_,_,_,_,_,_,_,_,_,_,h⟩:=hrel;exact h
      obtain ⟨r0,r1,r2,r3⟩:=(HWB.out.below hWb (by rw [HWZ.out];omega)).facts
      have HWr:=Qh hWb
      clear hWb
      obtain ⟨A,n,c,l,rfl,ho,hln,hn128,hdl,hnl,hv,hlt,_⟩:=hrel
      by_cases hks:k<s'.size
      ·have hk0:(0:Int)≤(k:Int):=by omega
       have hk1:(k:Int)<(s'.size:Int):=by omega
       have HV:=Qh (fun w1=>value_any s'[k].toNat w1 (UInt8.toNat_lt _))
       have hdg:=sdig_get s' hks
       have hdr:=hdj.out k hks
       rw [hdg] at hdr
       generalize hdv:dval s'[k].toNat=dv at *
       have hdv9:dv<4294967296:=by omega
       have HIn:=Qh (PIn.start (r:=r) (d:=dv) ho hln hdl HWr.out hdv9)
       have HSt:=Qh (fun o (cy:Nat) wr (h1:o.length=n) (h2:Dig W o) (h3:nv W o+W ^ n * 0=nv W l * r+dv) h4 h5=>PRel.stay (W0:=W0) (wr:=wr) (A:=A) (c:=c) (i:=k) (ds:=sdig s'.data.toList) (by rw [sdig_length];exact hks) hn128 hln hnl hv (by omega) h1 h2 (by rw [hdg];exact h3) h4 h5)
       have HMo:=Qh (fun o (cy:Nat) A c wr (h0:cy≠0) (h9:cy<4294967296) (h1:o.length=n) (h2:Dig W o) (h3:nv W o+W ^ n * cy=nv W l * r+dv) h4 h5=>PRel.more (W0:=W0) (wr:=wr) (A:=A) (c:=c) (i:=k) (ds:=sdig s'.data.toList) (by rw [sdig_length];exact hks) hv h0 h9 h1 h2 (by rw [hdg];exact h3) h4 h5)
       have HDL:=Qh (Qa hln hdl)
       have hn9:n≤9223372036854775807:=by omega
       have hnI:(n:Int)≤128:=by omega
       obtain ⟨wo,hwo⟩:∃ wo:World,wo=wr:=⟨_,rfl⟩
       subst hwo
       clear ho hln hdl hnl hv hlt hdg hdv hN
       go_wp2_with (go_at_call 133;(with_reducible refine (HV.out _).mono ?_);rintro e w' ⟨rfl,rfl⟩)
       go_loopw [10,59] (fun cv kv wr=>∃ k2:Nat,k2≤n∧kv = .int .i64 k2∧PIn W0 A n c l r dv k2 cv wr) (fun _ kv _=>n - (intOf kv).toNat)
       case atStart=>exact ⟨0,Nat.zero_le _,rfl,HIn.out⟩
       case round=>
        obtain ⟨k2,hk2,rfl,hin⟩:=hrel
        by_cases hk2n:k2<n
        ·obtain ⟨g,rfl⟩:∃ g,A=some ⟨g,0,none⟩:=by
          obtain ⟨_,_,_,_,_,_,_,_,h,_⟩:=hin
          obtain ⟨g,h,_⟩:=Own.at_ h (by omega)
          exact ⟨g,h⟩
         obtain ⟨cy,rfl,hcy,hcl,hfz,hst⟩:=hin.facts hk2n hr2 HDL.out.2
         have hx:l.getD k2 0<4294967296:=HDL.out.2.getD (by decide) k2
         have HS:=Qh hst
         generalize l.getD k2 0=x at *
         obtain ⟨hq1,hq2⟩:=par_lt hx hr2 hcy
         obtain ⟨q,hq⟩:∃ q,x * r=q:=⟨_,rfl⟩
         rw [hq] at HS hq1 hq2
         have hqi:(x:Int) * (r:Int)=(q:Int):=by rw [←hq];simp
         have hk20:(0:Int)≤(k2:Int):=by omega
         have hk21:(k2:Int)<(n:Int):=by omega
         clear hq hst hin
         go_wp2_with fail
         go_roundw
         case rel=>exact ⟨k2+1,by omega,by go_num,HS.out⟩
         case measure=>simp [intOf];omega
        ·obtain rfl:k2=n:=by omega
         obtain ⟨o,cy,rfl,hcy,h1,h2,h3,h4,h5⟩:=hin.done HDL.out.1
         obtain ⟨r0,r1,r2,r3⟩:=(HWB.out.below h5 (by rw [HWZ.out];omega)).facts
         clear hin
         by_cases hc0:cy=0
         ·subst hc0
          have hBW:Below W0.heap.size W0 wr:=h5
          have hM:=HSt.out o 0 wr h1 h2 h3 h4 h5
          have hblen:nv W o<2 ^ 4096↔blen (nv W o)≤4096:=(blen_le_iff (k:=4096)).symm
          have HSz:=Qh (size_any (Own.sl h4 h2 h1) (by omega))
          by_cases hbig:nv W o<2 ^ 4096
          ·have hb3:=hblen.1 hbig
           have HPR:=Qh (hM.2 hbig)
           generalize blen (nv W o)=x at *
           have hd8:decide ((4096:Int)<(x:Int))=false:=decide_eq_false (by omega)
           have hd9:decide (4096<x)=false:=decide_eq_false (by omega)
           clear hM hblen hbig h1 h2 h3 h4 h5 hBW
           go_wp2_with (go_at_call 92;(with_reducible refine HSz.out.mono ?_);rintro e w' ⟨rfl,rfl⟩)
           go_roundw
           case rel=>exact ⟨k+1,by omega,by go_num,HPR.out⟩
           case measure=>simp [intOf];omega
          ·have hb3:4096<blen (nv W o):=by
            rcases Nat.lt_or_ge 4096 (blen (nv W o)) with h | h
            ·exact h
            ·exact absurd (hblen.2 h) hbig
           have HC:=Qh (pCode_long hr hr2 HBd.out (k+1) (by rw [←HS'.out.1,←hM.1];exact hbig))
           generalize blen (nv W o)=x at *
           have hd8:decide ((4096:Int)<(x:Int))=true:=decide_eq_true (by omega)
           have hd9:decide (4096<x)=true:=decide_eq_true (by omega)
           have HBZ:=Qh (HW0.out.trans (hBW.mono (B':=w.heap.size) HW0.out.size))
           obtain ⟨r0,r1,r2,r3⟩:=(HWB.out.below hBW (by rw [HWZ.out];omega)).facts
           clear hM hblen hbig hBW h1 h2 h3 h4 h5
           go_wp2_with (go_at_call 92;(with_reducible refine HSz.out.mono ?_);rintro e w' ⟨rfl,rfl⟩)
           exact bodyPost_ret (v:=.tuple #[zeroV,.int .i64 10]) (by simp [results,Tryz.results110,go_sem,r0,r1]) rfl
            (PostC.bad HC.out (by decide) ((HBZ.out.setCell (by first | omega | (simp;done) | (simp;omega)) _).setCell (by first | omega | (simp;done) | (simp;omega)) _))
         ·have hd6:decide ((0:Int)<(cy:Int))=true:=decide_eq_true (by omega)
          have hd7:decide (0<cy)=true:=decide_eq_true (by omega)
          have hcm:(cy:Int) % 4294967296=(cy:Int):=by omega
          have HO:=Qh h4
          have H5:=Qh h5
          have HX:=Qh (Qa h1 (Qa h2 h3))
          have hz5:=h5.size
          have HM2:=Qh (fun A c wr h4 h5=>HMo.out o cy A c wr hc0 hcy h1 h2 h3 h4 h5)
          clear h4 h5 h1 h2 h3
          go_wp2_with (at_builtin;refine wpList_append_u32 (by rfl) _ _ (by rfl) _ A k2 c o (by rfl) (Own.alloc HO.out _) wr.heap.size cy (by rfl) (by simp [go_sem]) (by omega) (by simp;omega) ?_;intro A' c' w1 ho1 hb1)
          have hBW:Below W0.heap.size W0 w1:=(H5.out.alloc hz5 _).trans hb1
          have hM:=HM2.out A' c' w1 ho1 hBW
          have hblen:nv W (o ++ [cy])<2 ^ 4096↔blen (nv W (o ++ [cy]))≤4096:=(blen_le_iff (k:=4096)).symm
          have HSz:=Qh (size_any (Own.sl ho1 (HX.out.2.1.append (Dig.cons hcy (Dig.nil _))) (by simp [HX.out.1])) (by omega))
          by_cases hbig:nv W (o ++ [cy])<2 ^ 4096
          ·have hb3:=hblen.1 hbig
           have HPR:=Qh (hM.2 hbig)
           generalize blen (nv W (o ++ [cy]))=x at *
           have hd8:decide ((4096:Int)<(x:Int))=false:=decide_eq_false (by omega)
           have hd9:decide (4096<x)=false:=decide_eq_false (by omega)
           clear hM hblen hbig
           go_wp2_with (go_at_call 92;(with_reducible refine HSz.out.mono ?_);rintro e w' ⟨rfl,rfl⟩)
           go_roundw
           case rel=>exact ⟨k+1,by omega,by go_num,HPR.out⟩
           case measure=>simp [intOf];omega
          ·have hb3:4096<blen (nv W (o ++ [cy])):=by
            rcases Nat.lt_or_ge 4096 (blen (nv W (o ++ [cy]))) with h | h
            ·exact h
            ·exact absurd (hblen.2 h) hbig
           have HC:=Qh (pCode_long hr hr2 HBd.out (k+1) (by rw [←HS'.out.1,←hM.1];exact hbig))
           generalize blen (nv W (o ++ [cy]))=x at *
           have hd8:decide ((4096:Int)<(x:Int))=true:=decide_eq_true (by omega)
           have hd9:decide (4096<x)=true:=decide_eq_true (by omega)
           have HBZ:=Qh (HW0.out.trans (hBW.mono (B':=w.heap.size) HW0.out.size))
           obtain ⟨r0,r1,r2,r3⟩:=(HWB.out.below hBW (by rw [HWZ.out];omega)).facts
           clear hM hblen hbig hBW
           go_wp2_with (go_at_call 92;(with_reducible refine HSz.out.mono ?_);rintro e w' ⟨rfl,rfl⟩)
           exact bodyPost_ret (v:=.tuple #[zeroV,.int .i64 10]) (by simp [results,Tryz.results110,go_sem,r0,r1]) rfl
            (PostC.bad HC.out (by decide) ((HBZ.out.setCell (by first | omega | (simp;done) | (simp;omega)) _).setCell (by first | omega | (simp;done) | (simp;omega)) _))
      ·obtain rfl:k=s'.size:=by omega
       have HR:=Qh (Qa ho (Qa hln (Qa hdl hlt)))
       rw [List.take_of_length_le (by rw [sdig_length];exact Nat.le_refl _)] at hv
       have HZ:=Qh (show ∀ b,pNeg s.data.toList=b→ival b l=pVal s.data.toList r by
        intro b hb;rw [ival,hv,pVal,hb,HS'.out.1,Int.toNat_natCast])
       have HC:=Qh (pCode_ok hr hr2 HBd.out (by rw [←HS'.out.1,←hv];exact hlt))
       clear ho hln hdl hlt hv hnl
       go_wp2_with fail
       refine (laid_own _ HR.out.1 HR.out.2.1 HR.out.2.2.1 (HZ.out _ HS'.out.2)).mono ?_
       rintro ex w2 ⟨v,rfl,⟨A2,c2,rfl,ho2⟩,hb2⟩
       obtain ⟨r0,r1,r2,r3⟩:=(HWB.out.below (Qt HWr.out hb2) (by rw [HWZ.out];omega)).facts
       have hr9:=fun u u'=>ResI.stored (w:=w) (g:=w.heap.size) (u:=u) (u':=u') ⟨A2,c2,rfl,ho2⟩ (HW0.out.trans ((Qt HWr.out hb2).mono HW0.out.size)) (by rw [HWZ.out];omega) (Nat.le_refl _)
       have HR9:=Qh hr9
       clear hr9 ho2 hb2
       go_wp2
       exact bodyPost_ret (v:=.tuple #[.agg #[.bool (decide (pVal s.data.toList r<0)),.slice A2 (digs W (pVal s.data.toList r).natAbs).length c2],.int .i64 0]) (by simp [results,Tryz.results110,go_sem,r0,r1]) rfl
        (PostC.ok HC.out (HR9.out _ _).1 (HR9.out _ _).2)
theorem Parse_any (s:ByteArray) (r:Int) (w:World) (hs:s.size≤maxLen) :
  Calls Tryz.prog 110 #[.string s,.int .i64 r] w (PostC w (pVal s.data.toList r) (pCode s.data.toList r)):=by
 by_cases h:r<2∨36<r
 ·exact Parse_radix s r w h _ _ (by rw [pCode,if_pos h])
 ·obtain ⟨n,rfl⟩:=Int.eq_ofNat_of_zero_le (show 0≤r by omega)
  exact Parse_good s n w hs (by omega) (by omega)
def txtL (neg:Bool) (r n:Nat):List Nat:=if n=0 then [48] else (if neg then [45] else []) ++ ((digs r n).map chrN).reverse
theorem infoB8:(Tryz.prog.info? 5).map (fun i=>(i.zero,i.size,i.bytes))=some (some (.int .u8 0),1,1):=by kernel_rfl
theorem Own.keep {t:TypeId} {w w':World} {B C n c g:Nat} {xs:List Value} (h:Own t w B (some ⟨g,0,none⟩) n c xs) (hb:Below C w w') (hg:g<C):Own t w' B (some ⟨g,0,none⟩) n c xs:=by
 refine ⟨h.1,?_⟩
 rcases h.2 with h1 | ⟨g',cap,cur,h1,h2,h3,h4⟩
 ·exact .inl h1
 ·injection h1 with a b d
  injection a with a
  injection a with a
  subst a;subst d
  exact .inr ⟨g,c,cur,rfl,h2,(hb.block g hg).trans h3,h4⟩
theorem Own.lt' {t:TypeId} {w:World} {B n c g:Nat} {xs:List Value} (h:Own t w B (some ⟨g,0,none⟩) n c xs):g<w.heap.size∧B≤g:=by
 rcases h.form with ⟨h1,_⟩ | ⟨g',h1,h2,h3⟩
 ·cases h1
 ·injection h1 with h1;injection h1 with h1;omega
theorem TIn.start {W1 wr:World} {B1 B2 g n c:Nat} {l:List Nat} {A':Option Addr} {n' c':Nat} {out:List Nat} {r:Nat} (hr:0<r) (hl:l.length=n) (hd:Dig W l) (h1:OwnU wr B1 (some ⟨g,0,none⟩) n c (u32s l)) (h2:OwnB wr B2 A' n' c' (u8s out)) (h3:Below B1 W1 wr) :
  TIn W1 B1 B2 g n c l A' n' c' out r n (.int .u32 0) wr:=
 ⟨l,0,rfl,hr,hl,hd,fun _ _=>rfl,by rw [List.drop_eq_nil_of_le (by omega)];simp [nv],h1,h2,h3⟩
theorem digs_len_r {r N:Nat} (hr:2≤r) (hN:N<2 ^ 4096):(digs r N).length≤4096:=
 digs_length_le (b:=r) (n:=N) (k:=4096) (by omega) (Ql hN (Nat.pow_le_pow_left (n:=2) (m:=r) hr 4096))
theorem TRel.next {W1 wr:World} {B1 B2 g n c r N n' c':Nat} {l o:List Nat} {A':Option Addr} {ds:List Nat} (hr:2≤r) (hN:N<2 ^ 4096) (hn:l ≠ []) (hnrm:Nrm l) (h:digs r N=ds ++ digs r (nv W l)) (hl:ds.length=n')
  (h1:o.length=n) (hn128:n≤128) (h2:Dig W o) (h3:nv W o=nv W l / r) (h4:OwnU wr B1 (some ⟨g,0,none⟩) n c (u32s o)) (h5:OwnB wr B2 A' (n'+1) c' (u8s (ds.map chrN ++ [chrN (nv W l % r)]))) (h6:Below B1 W1 wr) :
  TRel W1 B1 B2 g c r N (.slice (some ⟨g,0,none⟩) (tlen o) c) (.slice A' (n'+1) c') wr:=by
 have hp:=nv_pos (b:=W) (by decide) hnrm hn
 have e:digs r N=(ds ++ [nv W l % r]) ++ digs r (nv W (tr o)):=by
  rw [h,nv_tr,h3,List.append_assoc,digs_pos (by omega) (by omega:nv W l≠0)];rfl
 refine ⟨tlen o,tr o,A',n'+1,c',ds ++ [nv W l % r],rfl,rfl,tr_length o,Nat.le_trans (tlen_le o) (by omega),h2.tr,tr_nrm o,e,by simp [hl],?_,?_,by rw [List.map_append];exact h5,h6⟩
 ·have h7:=TRel.lt hr hn hnrm h
  have h8:=digs_len_r hr hN
  omega
 ·have:=Own.take h4 (k:=tlen o) (by rw [←h1];exact tlen_le o)
  rwa [u32s_take] at this
theorem wpList_append_u8 {ops:Array Oper} {rest:List Oper} {o:Oper} {a:Act} {Q:Exit→Act→World→Prop} {w:World} (hgd:o.guard=none) (s x:Operand)
  (ho:o.op = .call { callee:=.builtin .append,args:=#[s,x],argTypes:=#[151,151] })
  (base:Nat) (A:Option Addr) (n cp:Nat) (l:List Nat) (hs:a.eval s = .slice A n cp) (hown:OwnB w base A n cp (u8s l))
  (g:Nat) (y:Nat) (hx:a.eval x = .slice (some ⟨g,0,none⟩) 1 1) (hc:w.cell? ⟨g,0,none⟩=some (.int .u8 (y:Int))) (hn:n≤67108864) (hbase:base≤w.heap.size)
  (h:∀ A' c' w',OwnB w' base A' (n+1) c' (u8s (l ++ [y]))→Below base w w'→wpList Tryz.prog ops Q rest (a.put o.dst (.slice A' (n+1) c')) w'):wpList Tryz.prog ops Q (o :: rest) a w:=by
 obtain ⟨i0,hi,hz0,hz1,hz2⟩:=info_parts infoB8
 refine wpList_append_own _ hgd s x 151 ho base 5 i0 (.int .u8 0) 1 1 Tryz.underlying151 hi hz0 hz1 hz2 rfl (by decide) _ n (u8s l) hs hown ⟨g,0,none⟩ 1 1 [.int .u8 (y:Int)] hx rfl ?_ ?_ (by simp [maxLen];omega) (by omega) hbase ?_
 ·intro j u hj
  cases j with
  | zero=>simp at hj;subst hj;exact hc
  | succ j=>simp at hj
 ·intro u hu;simp at hu;subst hu;rfl
 ·intro v' w' hown' hg _
  have hf:∃ A' c',v' = .slice A' (n+1) c':=by
   rcases hown'.2 with ⟨h1,h2⟩ | ⟨g',cap,cur,h1,_⟩
   ·exact absurd h2 (by simp)
   ·exact ⟨_,_,h1⟩
  obtain ⟨A',c',rfl⟩:=hf
  refine h A' c' w' (by have h3:=hown';rw [show u8s l ++ [Value.int .u8 (y:Int)]=u8s (l ++ [y]) by simp [u8s]] at h3;exact h3) ⟨hg.os,hg.tape,hg.output,hg.size,fun j hj=>hg.block j (by omega) ?_⟩
  rcases Own.form hown with ⟨rfl,_⟩ | ⟨g',rfl,h4,_⟩
  ·simp [Value.ownBlock]
  ·simp [Value.ownBlock];omega
theorem RvRel.start {w1 wr:World} {B1 B2 n g c:Nat} {l:List Nat} (hl:l.length=n) (h:OwnB wr B2 (some ⟨g,0,none⟩) n c (u8s l)) (hb:Below B1 w1 wr):RvRel w1 B1 B2 n g c l 0 wr:=
 ⟨l,hl,fun j hj=>by rw [if_neg (by omega)],h,hb⟩
theorem RvRel.drew {w1 wr:World} {B1 B2 n g c i:Nat} {l:List Nat} (h:RvRel w1 B1 B2 n g c l i wr):RvRel w1 B1 B2 n g c l i wr.drew:=by
 obtain ⟨o,h1,h2,h3,h4⟩:=h
 exact ⟨o,h1,h2,h3,h4.drew⟩
theorem conv_own {wr:World} {B2 n g c:Nat} {l:List Nat} (h:OwnB wr B2 (some ⟨g,0,none⟩) n c (u8s l)) (hl:l.length=n):(convert 151 9 (.slice (some ⟨g,0,none⟩) n c)).run Tryz.prog wr = .ok (.string (strOfNums (l.map fun x:Nat=>(x:Int)))) wr:=by
 refine run_convert_bytes_arg wr 151 5 Tryz.underlying151 Tryz.underlying5 g 0 n c (l.map fun x:Nat=>(x:Int)) (by simpa using hl) (fun i hi=>?_) 9 Tryz.underlying9
 rw [Nat.zero_add,Own.cell h hi,u8s_get (by omega),getD_eq (by omega)]
 rw [List.getD_eq_getElem?_getD,List.getElem?_map,List.getElem?_eq_getElem (by omega)]
 rfl
def strN (l:List Nat):ByteArray:=⟨(l.map UInt8.ofNat).toArray⟩
def TextPost (w:World) (l:List Nat) (co:Int) (e:Ending) (w':World):Prop:=e = .returned (.tuple #[.string (strN l),.int .i64 co])∧Below w.heap.size w w'
def tCode (lg:Bool) (r:Int):Int:=if lg then 10 else if r<2∨36<r then 13 else 0
def tList (lg:Bool) (neg:Bool) (n:Nat) (r:Int):List Nat:=if lg then [] else if r<2∨36<r then [] else txtL neg r.toNat n
theorem TextPost.mk {w w':World} {l l':List Nat} {co co':Int} {s:ByteArray} (h1:l=l') (h2:co=co') (h3:s=strN l') (hb:Below w.heap.size w w'):TextPost w l co (.returned (.tuple #[.string s,.int .i64 co'])) w':=by
 subst h1;subst h2;subst h3;exact ⟨rfl,hb⟩
abbrev W1x (w:World) (neg:Bool) (A:Option Addr) (n c:Nat):World:=(w.alloc (.cells #[.bool neg,.slice A n c] 56)).alloc (.cells #[.bool neg,.slice A n c] 56)
theorem W1x_long {w:World} {neg:Bool} {B:Nat} {A:Option Addr} {l:List Nat} {n c:Nat} (hs:SlU w B A n c l) (hn:n≤67108864) (hB:B≤w.heap.size) :
  Calls Tryz.prog 86 #[.slice (some ⟨w.heap.size+1,0,none⟩) 1 1] (W1x w neg A n c) (LongPost (lng l) (W1x w neg A n c)):=by
 have hb:Below w.heap.size w (W1x w neg A n c):=(Qb).alloc (by simp) _
 have hf:=(Bx.new (w.alloc (.cells #[.bool neg,.slice A n c] 56)) (.bool neg) (.slice A n c)).facts
 simp only [World.size_alloc] at hf
 exact long1_any (neg:=neg) (hs.below hb hB) hn (Nat.le_trans hB hb.size) hf.1 hf.2.1
theorem Text_bad (neg:Bool) {B:Nat} {A:Option Addr} {l:List Nat} {n c:Nat} {w:World} (hs:SlU w B A n c l) (hn:n≤67108864) (hB:B≤w.heap.size) (r:Int) (hbad:lng l=true∨r<2∨36<r) :
  Calls Tryz.prog 74 #[.agg #[.bool neg,.slice A n c],.int .i64 r] w (TextPost w (tList (lng l) neg (nv W l) r) (tCode (lng l) r)):=by
 have HL:=Qh (W1x_long (neg:=neg) hs hn hB)
 have HB:=Qh (Below.refl w.heap.size w)
 cases hb:lng l
 ·rw [hb] at HL
  have hr:r<2∨36<r:=by
   rcases hbad with h | h
   ·rw [hb] at h;cases h
   ·exact h
  have H1:=Qh (show tList false neg (nv W l) r = [] by rw [tList,if_neg (by simp),if_pos hr])
  have H2:=Qh (show tCode false r=13 by rw [tCode,if_neg (by simp),if_pos hr])
  clear hbad hb hs hn hB
  by_cases h2:r<2
  ·have d1:decide (r<2)=true:=decide_eq_true h2
   clear hr
   go_enter Tryz.func74,Tryz.ntmps74
   go_wp2_with fail
   refine HL.out.mono ?_
   rintro ex w3 ⟨rfl,hb3⟩
   go_wp2
   go_ret2
   exact TextPost.mk H1.out H2.out rfl (((HB.out.alloc (Nat.le_refl _) _).alloc (by simp) _).trans (hb3.mono (B':=w.heap.size) (by simp;omega)))
  ·have d1:decide (r<2)=false:=decide_eq_false h2
   have d2:decide (36<r)=true:=decide_eq_true (by omega)
   clear hr
   go_enter Tryz.func74,Tryz.ntmps74
   go_wp2_with fail
   refine HL.out.mono ?_
   rintro ex w3 ⟨rfl,hb3⟩
   go_wp2
   go_ret2
   exact TextPost.mk H1.out H2.out rfl (((HB.out.alloc (Nat.le_refl _) _).alloc (by simp) _).trans (hb3.mono (B':=w.heap.size) (by simp;omega)))
 ·rw [hb] at HL
  have H1:=Qh (show tList true neg (nv W l) r = [] by rw [tList,if_pos rfl])
  have H2:=Qh (show tCode true r=10 by rw [tCode,if_pos rfl])
  clear hbad hb hs hn hB
  go_enter Tryz.func74,Tryz.ntmps74
  go_wp2_with fail
  refine HL.out.mono ?_
  rintro ex w3 ⟨rfl,hb3⟩
  go_wp2
  go_ret2
  exact TextPost.mk H1.out H2.out rfl (((HB.out.alloc (Nat.le_refl _) _).alloc (by simp) _).trans (hb3.mono (B':=w.heap.size) (by simp;omega)))
theorem strNums_rev (l:List Nat):strOfNums (l.map (fun x:Nat=>(x:Int))).reverse=strN l.reverse:=by
 simp [strOfNums,strN,List.map_reverse]
theorem alpha_all:∀ i:Fin 36,((#[48,49,50,51,52,53,54,55,56,57,97,98,99,100,101,102,103,104,105,106,107,108,109,110,111,112,113,114,115,116,117,118,119,120,121,122]:Array UInt8)[i.1]!).toNat=chrN i.1:=by decide
theorem alpha_get {rr:Nat} (h:rr<36) (h':rr<(⟨#[48,49,50,51,52,53,54,55,56,57,97,98,99,100,101,102,103,104,105,106,107,108,109,110,111,112,113,114,115,116,117,118,119,120,121,122]⟩:ByteArray).size):((⟨#[48,49,50,51,52,53,54,55,56,57,97,98,99,100,101,102,103,104,105,106,107,108,109,110,111,112,113,114,115,116,117,118,119,120,121,122]⟩:ByteArray)[rr]'h').toNat=chrN rr:=by
 rw [←alpha_all ⟨rr,h⟩]
 show _=((#[48,49,50,51,52,53,54,55,56,57,97,98,99,100,101,102,103,104,105,106,107,108,109,110,111,112,113,114,115,116,117,118,119,120,121,122]:Array UInt8)[rr]!).toNat
 rw [getElem!_pos _ rr (by simpa using h)]
 rfl
theorem Text_good (neg:Bool) {B:Nat} {A:Option Addr} {l:List Nat} {n c:Nat} {w:World} (hs:SlU w B A n c l) (hn:n≤67108864) (hB:B≤w.heap.size) (r:Nat) (hr:2≤r) (hr2:r≤36) (hlg:lng l=false) :
  Calls Tryz.prog 74 #[.agg #[.bool neg,.slice A n c],.int .i64 (r:Int)] w (TextPost w (txtL neg r (nv W l)) 0):=by
 have HL:=Qh (W1x_long (neg:=neg) hs hn hB)
 rw [hlg] at HL
 have HB:=Qh (Below.refl w.heap.size w)
 have d1:decide ((r:Int)<2)=false:=decide_eq_false (by omega)
 have d2:decide ((36:Int)<(r:Int))=false:=decide_eq_false (by omega)
 have HI:=Qh (fun w1 (hb:Below w.heap.size w w1)=>trim_any (hs.below (C:=w.heap.size) hb hB))
 have HO:=Qh (fun w1 (hb:Below w.heap.size w w1)=>own_any ((hs.tr).below (C:=w.heap.size) hb hB) (by have:=tlen_le l;have:=hs.len;omega) (Nat.le_trans hB hb.size))
 have HD:=Qh (Qa hs.dig.tr (tr_nrm l))
 have hv:=nv_tr W l
 have hlt:nv W l<2 ^ 4096:=by
  have:=of_decide_eq_false hlg
  exact (blen_le_iff (n:=nv W l) (k:=4096)).1 (by omega)
 have HTz:=Qh (show tlen l=0→txtL neg r (nv W (tr l)) = [48] from fun h=>by rw [nv_tr,(tlen_zero_iff (b:=W) (by decide) l).1 h];rfl)
 have HTp:=Qh (show tlen l≠0→nv W (tr l)≠0 from fun h=>by rw [nv_tr];exact fun h2=>h ((tlen_zero_iff (b:=W) (by decide) l).2 h2))
 have HTL:=Qh (tr_length l)
 rw [←hv] at hlt ⊢
 have h128:=Qh (nrm_len (k:=128) (tr_nrm l) (by rw [W128];exact hlt))
 have HLT:=Qh hlt
 generalize tr l=l2 at *
 generalize tlen l=tl at *
 clear hlg hs hn hB hv hlt
 go_enter Tryz.func74,Tryz.ntmps74
 go_wp2_with fail
 refine HL.out.mono ?_
 rintro ex w3 ⟨rfl,hb3⟩
 have HB3:=Qh (((HB.out.alloc (Nat.le_refl _) (.cells #[.bool neg,.slice A n c] 56)).alloc (by simp) (.cells #[.bool neg,.slice A n c] 56)).trans (hb3.mono (B':=w.heap.size) (by simp;omega)))
 have hz3:=hb3.size
 simp at hz3
 have hbx:=((Bx.alloc (Bx.new w (.bool neg) (.slice A n c)) _).below hb3 (by simp;omega))
 obtain ⟨a0,a1,_,_⟩:=hbx.facts
 clear hb3
 go_wp2_with (go_at_call 55;refine (HI.out _ HB3.out).mono ?_;rintro e w' ⟨rfl,rfl⟩)
 refine (HO.out _ HB3.out).mono ?_
 rintro e w1 ⟨A1,n1,c1,rfl,ho1,hl1,hb1⟩
 obtain rfl:n1=tl:=by rw [←hl1];exact HTL.out
 by_cases h0:n1=0
 ·have HT:=Qh (HTz.out h0)
  subst h0
  go_wp2
  go_ret2
  exact TextPost.mk HT.out rfl rfl (HB3.out.trans (hb1.mono (B':=w.heap.size) (by omega)))
 ·obtain ⟨g,rfl,hg1,hg2⟩:=Own.at_ ho1 (by omega)
  have hk0:((n1:Int)==0)=false:=beq_eq_false_iff_ne.2 (by omega)
  obtain ⟨b0,_,_,_⟩:=(hbx.below hb1 (by omega)).facts
  have HX:=Qh (hbx.below hb1 (by omega))
  have H3:=Qh hb1
  have HS:=Qh (show TRel w1 w3.heap.size w1.heap.size g c1 r (nv W l2) (.slice (some ⟨g,0,none⟩) n1 c1) (.slice none 0 0) w1 from
   ⟨n1,l2,none,0,0,[],rfl,rfl,hl1,by rw [←hl1];exact h128.out,HD.out.1,HD.out.2,rfl,rfl,by omega,ho1,⟨rfl,.inl ⟨rfl,rfl⟩⟩,Below.refl _ _⟩)
  have HNz:=Qh (HTp.out h0)
  clear ho1 hb1 a0 a1 hbx
  have hg2':=hg2
  have HLT2:=Qh (digs_len_r hr HLT.out)
  generalize hN:nv W l2=N at *
  obtain ⟨K,hK⟩:∃ K,(digs r N).length=K:=⟨_,rfl⟩
  rw [hK] at HLT2
  have HK:=Qh hK
  have HNN:=Qh hN
  have HW:=Qh (Qa (HX.out) (Qa hg1 hg2))
  generalize hB2:w1.heap.size=B2 at *
  have HB2:=Qh hB2
  generalize hB1:w3.heap.size=B1 at *
  have HB1:=Qh hB1
  clear hK hN hB1 hB2
  go_wp2_with fail
  go_loopw [6,7] (fun lv ov wr=>TRel w1 B1 B2 g c1 r N lv ov wr) (fun _ ov _=>K - (match ov with | .slice _ n _=>n | _=>0))
  case atStart=>exact HS.out
  case round=>
   obtain ⟨n,l,A',n',c',ds,rfl,rfl,hln,hn128,hdl,hnrm,hdg,hdn,hn4,ho,hob,hbw⟩:=hrel
   by_cases hn0:n=0
   ·have hl0:l = []:=List.length_eq_zero_iff.1 (by omega)
    subst hl0
    have hdr:digs r N=ds:=by rw [hdg,show nv W ([]:List Nat)=0 from rfl,digs_zero,List.append_nil]
    obtain ⟨b0,b1,_,_⟩:=(HW.out.1.below hbw (by omega)).facts
    have hKz:0<K:=by rw [←HK.out,digs_pos (by omega) HNz.out];simp
    have hKn:K=n':=by rw [←HK.out,hdr,hdn]
    have HKn:=Qh hKn
    have hB2z:B2≤wr.heap.size:=by have:=hbw.size;rw [←HB2.out];exact this
    have hn'0:0<n':=by omega
    subst hn0
    clear hKn
    cases neg
    ·have HOB:=Qh hob
     have HBW:=Qh hbw
     clear hob hbw ho
     go_wp2_with fail
     have hn1:(ds.map chrN).length=n':=by simp [hdn]
     obtain ⟨g2,hA2,hg3,hg4⟩:=Own.at_ HOB.out (by omega)
     subst hA2
     have HRS:=Qh (RvRel.start (B1:=B1) (w1:=w1) hn1 HOB.out HBW.out)
     have HTX:=Qh (show txtL false r N=(ds.map chrN).reverse by rw [txtL,if_neg HNz.out,hdr];simp)
     have HLEN:=Qh hn1
     have hnI:((n':Nat):Int)≤5000:=by omega
     have hnI0:(1:Int)≤((n':Nat):Int):=by omega
     have HG:=Qh (show B1≤g2 by have:=HW.out.2;omega)
     generalize hnn:n'=nn at *
     have HNN2:=Qh (show (nn:Int) - 1=(nn:Int) - 1 from rfl)
     clear hnn
     generalize ds.map chrN=ll at *
     clear hdg hdr hn1 hdn hn4
     go_loopw [10,11] (fun iv kv wr=>∃ i:Nat,2 * i≤nn+1∧iv = .int .i64 (i:Int)∧kv = .int .i64 ((nn:Int) - 1 - (i:Int))∧RvRel w1 B1 B2 nn g2 c' ll i wr) (fun _ kv _=>(intOf kv+1).toNat)
     case atStart=>exact ⟨0,by omega,rfl,congrArg (Value.int .i64) (by have:=HNN2.out;omega),HRS.out⟩
     case round=>
      obtain ⟨i,hi,rfl,rfl,hrv⟩:=hrel
      by_cases hik:2 * i+1<nn
      ·obtain ⟨k,hk⟩:∃ k:Nat,k+i+1=nn:=⟨nn - 1 - i,by omega⟩
       have hkI:(nn:Int) - 1 - (i:Int)=(k:Int):=by omega
       obtain ⟨f1,f2,f3,f4,hnx⟩:=hrv.facts hk (by omega) HG.out
       have HNX:=Qh hnx
       have hi0:(0:Int)≤(i:Int):=by omega
       have hi1:(i:Int)<(nn:Int):=by omega
       have hk0:(0:Int)≤(k:Int):=by omega
       have hk1:(k:Int)<(nn:Int):=by omega
       have hik2:(i:Int)<(k:Int):=by omega
       have hne1:¬(i=k):=by omega
       have hne2:¬(k=i):=by omega
       generalize ll.getD i 0=x at *
       generalize ll.getD k 0=y at *
       rw [hkI]
       have HKI:=Qh hkI
       clear hnx hrv hkI
       go_wp2_with fail
       go_region
       all_goals
        go_wp2
        exact ⟨⟨i+1,by omega,by go_num,congrArg (Value.int .i64) (by have:=HKI.out;omega),HNX.out.drew⟩,by simp [intOf]⟩
      ·obtain ⟨ho9,hb9⟩:=hrv.done HLEN.out (by omega)
       have hcv:=conv_own ho9 (by simpa using HLEN.out)
       have HB9:=Qh hb9
       have hd5:decide ((i:Int)<(nn:Int) - 1 - (i:Int))=false:=decide_eq_false (by omega)
       clear ho9 hb9 hrv
       go_wp2
       go_ret2
       exact TextPost.mk HTX.out rfl (strNums_rev _) (HB3.out.trans ((H3.out.trans HB9.out).mono (by omega)))
    ·have HOB0:=Qh hob
     have HBW0:=Qh hbw
     have hbz:=hbw.size
     clear hob hbw ho
     go_wp2_with (at_builtin;refine wpList_append_u8 (by rfl) _ _ (by rfl) _ A' n' c' (ds.map chrN) (by rfl) (Own.alloc HOB0.out _) wr.heap.size 45 (by rfl) ?hc (by omega) (by simp;omega) ?_;rotate_left;intro A'' c'' w4 ho4 hb4)
     case hc=>exact cell_of_row _ _ 0 _ _ (0,0) (heap_alloc_new wr _)
     have HOB:=Qh ho4
     have HBW:=Qh ((HBW0.out.alloc (by have:=HW.out.2;omega) _).trans (hb4.mono (by have:=HW.out.2;omega)))
     clear ho4 hb4
     go_wp2_with fail
     have hn1:(ds.map chrN ++ [45]).length=n'+1:=by simp [hdn]
     obtain ⟨g2,hA2,hg3,hg4⟩:=Own.at_ HOB.out (by omega)
     subst hA2
     have HRS:=Qh (RvRel.start (B1:=B1) (w1:=w1) hn1 HOB.out HBW.out)
     have HTX:=Qh (show txtL true r N=(ds.map chrN ++ [45]).reverse by rw [txtL,if_neg HNz.out,hdr];simp)
     have HLEN:=Qh hn1
     have hnI:((n'+1:Nat):Int)≤5000:=by omega
     have hnI0:(1:Int)≤((n'+1:Nat):Int):=by omega
     have HG:=Qh (show B1≤g2 by have:=HW.out.2;omega)
     generalize hnn:n'+1=nn at *
     have HNN2:=Qh (show (n':Int)=(nn:Int) - 1 by omega)
     clear hnn
     generalize ds.map chrN ++ [45]=ll at *
     clear hdg hdr hn1 hdn hn4
     go_loopw [10,11] (fun iv kv wr=>∃ i:Nat,2 * i≤nn+1∧iv = .int .i64 (i:Int)∧kv = .int .i64 ((nn:Int) - 1 - (i:Int))∧RvRel w1 B1 B2 nn g2 c'' ll i wr) (fun _ kv _=>(intOf kv+1).toNat)
     case atStart=>exact ⟨0,by omega,rfl,congrArg (Value.int .i64) (by have:=HNN2.out;omega),HRS.out⟩
     case round=>
      obtain ⟨i,hi,rfl,rfl,hrv⟩:=hrel
      by_cases hik:2 * i+1<nn
      ·obtain ⟨k,hk⟩:∃ k:Nat,k+i+1=nn:=⟨nn - 1 - i,by omega⟩
       have hkI:(nn:Int) - 1 - (i:Int)=(k:Int):=by omega
       obtain ⟨f1,f2,f3,f4,hnx⟩:=hrv.facts hk (by omega) HG.out
       have HNX:=Qh hnx
       have hi0:(0:Int)≤(i:Int):=by omega
       have hi1:(i:Int)<(nn:Int):=by omega
       have hk0:(0:Int)≤(k:Int):=by omega
       have hk1:(k:Int)<(nn:Int):=by omega
       have hik2:(i:Int)<(k:Int):=by omega
       have hne1:¬(i=k):=by omega
       have hne2:¬(k=i):=by omega
       generalize ll.getD i 0=x at *
       generalize ll.getD k 0=y at *
       rw [hkI]
       have HKI:=Qh hkI
       clear hnx hrv hkI
       go_wp2_with fail
       go_region
       all_goals
        go_wp2
        exact ⟨⟨i+1,by omega,by go_num,congrArg (Value.int .i64) (by have:=HKI.out;omega),HNX.out.drew⟩,by simp [intOf]⟩
      ·obtain ⟨ho9,hb9⟩:=hrv.done HLEN.out (by omega)
       have hcv:=conv_own ho9 (by simpa using HLEN.out)
       have HB9:=Qh hb9
       have hd5:decide ((i:Int)<(nn:Int) - 1 - (i:Int))=false:=decide_eq_false (by omega)
       clear ho9 hb9 hrv
       go_wp2
       go_ret2
       exact TextPost.mk HTX.out rfl (strNums_rev _) (HB3.out.trans ((H3.out.trans HB9.out).mono (by omega)))
   ·have hne:l ≠ []:=by intro e;rw [e] at hln;exact hn0 hln.symm
    have hlt:=TRel.lt hr hne hnrm hdg
    rw [HK.out,hdn] at hlt
    have HIn:=Qh (TIn.start (by omega) hln hdl ho hob hbw (r:=r))
    have HNx:=Qh (fun n o A'' c'' wr=>TRel.next (W1:=w1) (wr:=wr) (B1:=B1) (B2:=B2) (g:=g) (n:=n) (c:=c1) (n':=n') (c':=c'') (A':=A'') (o:=o) hr HLT.out hne hnrm hdg hdn)
    have HLn:=Qh (Qa hln hdl)
    have hszB:∀ wr:World,w1.heap.size≤wr.heap.size→B2≤wr.heap.size:=by rw [HB2.out];exact fun _ h=>h
    have hd3:decide ((0:Int)<(n:Int))=true:=decide_eq_true (by omega)
    have hd4:decide (0<n)=true:=decide_eq_true (by omega)
    have hnI:(n:Int)≤128:=by omega
    have hnI0:(1:Int)≤(n:Int):=by omega
    obtain ⟨wo,hwo⟩:∃ wo:World,wo=wr:=⟨_,rfl⟩
    subst hwo
    clear ho hob hbw hln hdl hnrm hdg hdn hne
    go_wp2_with fail
    go_loopw [8,9] (fun sv iv wr=>∃ i:Nat,i≤n∧iv = .int .i64 ((i:Int) - 1)∧TIn w1 B1 B2 g n c1 l A' n' c' (ds.map chrN) r i sv wr) (fun _ iv _=>(intOf iv+1).toNat)
    case atStart=>exact ⟨n,Nat.le_refl _,rfl,HIn.out⟩
    case round=>
     obtain ⟨i,hi,rfl,hin⟩:=hrel
     by_cases hi0:i=0
     ·subst hi0
      obtain ⟨o,rfl,hrm,h1,h2,h3,h4,h5,h6⟩:=hin.done
      have HT:=Qh (trim_any (Own.sl h4 h2 h1))
      have HO4:=Qh (Qa h1 (Qa h2 (Qa h3 (Qa h4 (Qa h5 h6)))))
      have hz:=(Own.lt' h4).1
      have hzb:=h6.size
      have hB2z:=hszB wr (by have:=h6.size;omega)
      have HNy:=Qh (fun A'' c'' w2 k1 k2=>HNx.out n o A'' c'' w2 h1 hn128 h2 h3 k1 (by exact k2))
      generalize hrr:nv W l % r=rr at *
      have h36:rr<36:=by omega
      have h36I:(rr:Int)<36:=by omega
      clear hin h1 h2 h3 h4 h5 h6 hrr
      go_wp2_with (first
       | (go_at_call 55;(with_reducible refine HT.out.mono ?_);rintro e w2 ⟨rfl,rfl⟩)
       | (at_builtin;refine wpList_append_u8 (by rfl) _ _ (by rfl) _ A' n' c' (ds.map chrN) (by rfl) (Own.alloc HO4.out.2.2.2.2.1 _) wr.heap.size (chrN rr) (by rfl) ?hc (by omega) (by simp;omega) ?_;rotate_left;intro A'' c'' w4 ho4 hb4))
      case hc=>
       rw [alpha_get h36]
       exact cell_of_row _ _ 0 _ _ (0,0) (heap_alloc_new wr _)
      have HEnd:=Qh (HNy.out A'' c'' w4 (Own.keep (Own.alloc HO4.out.2.2.2.1 _) (hb4.mono (by exact Nat.le_refl _)) (by exact HW.out.2.2)) ho4 ((HO4.out.2.2.2.2.2.alloc (by have:=HW.out.2.1;omega) _).trans (hb4.mono (by have:=HW.out.2;omega))))
      go_roundw
      case rel=>exact HEnd.out
      case measure=>simp;omega
     ·obtain ⟨j,rfl⟩:∃ j,i=j+1:=⟨i - 1,by omega⟩
      obtain ⟨rem,rfl,hrem,hc,hf,hst⟩:=hin.facts (by omega) HLn.out.2 HLn.out.1 hr2 HW.out.2.1 HW.out.2.2
      have hx:l.getD j 0<4294967296:=HLn.out.2.getD (by decide) j
      have HDv:=Qh (fun w1=>div32_any rem (l.getD j 0) r w1 hrem (by omega) hx)
      generalize l.getD j 0=x at *
      have hj0:(0:Int)≤(j:Int):=by omega
      have hj1:(j:Int)<(n:Int):=by omega
      generalize hqq:(rem * 4294967296+x) / r=q at *
      generalize hmm:(rem * 4294967296+x) % r=m at *
      clear hin hqq hmm
      go_wp2_with (go_at_call 104;(with_reducible refine (HDv.out _).mono ?_);rintro e w2 ⟨rfl,hdr⟩;obtain ⟨k1,k2,hS⟩:=hst.out _ hdr;have HSS:=Qh hS;clear hS)
      go_roundw
      case rel=>exact ⟨j,by omega,by go_num,HSS.out⟩
      case measure=>simp [intOf]
theorem Text_any (neg:Bool) {B:Nat} {A:Option Addr} {l:List Nat} {n c:Nat} {w:World} (hs:SlU w B A n c l) (hn:n≤67108864) (hB:B≤w.heap.size) (r:Int) :
  Calls Tryz.prog 74 #[.agg #[.bool neg,.slice A n c],.int .i64 r] w (TextPost w (tList (lng l) neg (nv W l) r) (tCode (lng l) r)):=by
 by_cases hbad:lng l=true∨r<2∨36<r
 ·exact Text_bad neg hs hn hB r hbad
 ·have hl:lng l=false:=by
   cases h:lng l with
   | false=>rfl
   | true=>exact absurd (.inl h) hbad
  obtain ⟨k,rfl⟩:=Int.eq_ofNat_of_zero_le (show 0≤r by omega)
  rw [hl,tList,tCode,if_neg (by simp),if_neg (by omega),if_neg (by simp),if_neg (by omega),Int.toNat_natCast]
  exact Text_good neg hs hn hB k (by omega) (by omega) hl
end
section
open Go.ChangeShapes Go.WideShapes Go.ChangeAt Go.RowKit Go.Joins Hb
section
end
end
section
open Go.RowKit Hb
section
end
section
end
theorem lng_ival {neg:Bool} {l:List Nat} {z:Int} (h:ival neg l=z):lng l=tooLong z:=by
 rw [lng,tooLong,←h,ival_natAbs]
section
end
section
end
theorem txt_same {na nb:Bool} {r m n:Nat} (h:(if na then -(m:Int) else (m:Int))=(if nb then -(n:Int) else n)):txtL na r m=txtL nb r n:=by
 have hmn:m=n:=by cases na <;> cases nb <;> simp at h <;> omega
 subst hmn
 by_cases h0:m=0
 ·subst h0;rfl
 ·have:na=nb:=by cases na <;> cases nb <;> simp at h ⊢ <;> omega
  rw [this]
theorem ival_if (neg:Bool) (l:List Nat):ival neg l=if neg then -(nv W l:Int) else (nv W l:Int):=rfl
def txtZ (z:Int) (r:Nat):List Nat:=txtL (decide (z<0)) r z.natAbs
theorem txtZ_eq {neg:Bool} {l:List Nat} {z:Int} (h:ival neg l=z) (r:Nat):txtL neg r (nv W l)=txtZ z r:=by
 refine txt_same ?_
 rw [←ival_if,h]
 by_cases hz:z<0
 ·rw [if_pos (by simpa using hz)];omega
 ·rw [if_neg (by simpa using hz)];omega
def TextQ (w:World) (s:ByteArray) (e:Ending) (w':World):Prop:=e = .returned (.tuple #[.string s,.int .i64 0])∧Below w.heap.size w w'
theorem Text_z {w:World} {A:Option Addr} {n c:Nat} {l:List Nat} {neg:Bool} {z:Int} {r:Nat} {R:Int} {s:ByteArray} (hR:R=(r:Int)) (hr:2≤r) (hr2:r≤36) (hs:SlU w w.heap.size A n c l) (hn:n≤1000) (hx:ival neg l=z) (t1:tooLong z=false) (hq:strN (txtZ z r)=s) :
  Calls Tryz.prog 74 #[.agg #[.bool neg,.slice A n c],.int .i64 R] w (TextQ w s):=by
 subst hR
 have h:=Text_any neg hs (by omega) (Nat.le_refl _) (r:Int)
 rw [lng_ival hx,t1,tList,tCode,if_neg (by simp),if_neg (by omega),if_neg (by simp),if_neg (by omega),Int.toNat_natCast,txtZ_eq hx] at h
 rw [←hq]
 exact h
theorem strN_size {z:Int} {r:Nat} (hr:2≤r) (t:tooLong z=false):(strN (txtZ z r)).size≤4098:=by
 have h1:(strN (txtZ z r)).size=(txtZ z r).length:=by simp [strN,ByteArray.size]
 rw [h1,txtZ,txtL]
 have h2:=Classical.not_not.1 (of_decide_eq_false (tooLong_iff ▸ t))
 have h3:=digs_len_r hr h2
 split
 ·simp
 ·split <;> simp <;> omega
section
end
end
end Go.Proofs.YtpikjceodmepiaaGreatDoor
