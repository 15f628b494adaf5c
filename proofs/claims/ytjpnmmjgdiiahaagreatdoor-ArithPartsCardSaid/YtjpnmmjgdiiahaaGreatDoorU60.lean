import Derived.Shelf.Small.Bits
import Derived.Test.YtjpnmmjgdiiahaaGreatDoorRows
import Derived.WalkKit
import Derived.Deep.QuietTactic
import Derived.BigQuiet
import Derived.Deep.RegionHeld3
import Derived.Deep.DrawnRows
import Derived.Deep.DeepCutAuto
import Derived.Deep.CutBlock
import Derived.Laws.BytesArg
import Derived.Laws.AppendOwnNone
import Derived.ProofKit
import Derived.OpenShut
import Derived.JoinedCond
import Derived.JoinedOf
import Derived.JoinedAt
import Derived.ChangeSame
import Derived.ChangeSlices
import Derived.RowKit3
import Derived.Carry
import Derived.Lib.SmallJoins
import Derived.Deep.LoopGhost
import Derived.Maps.AppendAt
import Derived.IntWalk
import Derived.StillTailTactics
import Derived.Laws.Cover2
import Derived.Laws.FloatArith
import Derived.Test.YtjpnmmjgdiiahaaGreatDoorU1
import Derived.Test.YtjpnmmjgdiiahaaGreatDoorU2
import Derived.Test.YtjpnmmjgdiiahaaGreatDoorU3
import Derived.Test.YtjpnmmjgdiiahaaGreatDoorU4
import Derived.Test.YtjpnmmjgdiiahaaGreatDoorU5
import Derived.Test.YtjpnmmjgdiiahaaGreatDoorU6
set_option linter.unusedVariables false
set_option linter.unusedSimpArgs false
namespace Hb
theorem two_pow_cast (k:Nat):((2 ^ k:Nat):Int)=(2:Int) ^ k:=by simp
def shZ (x n:Int):Int:=if 0≤n then x * 2 ^ n.toNat else x / 2 ^ (-n).toNat
theorem shZ_up (x:Int) (k:Nat):shZ x (k:Int)=x * 2 ^ k:=by rw [shZ,if_pos (by omega),Int.toNat_natCast]
theorem shZ_down (x:Int) {k:Nat} (hk:0<k):shZ x (-(k:Int))=x / 2 ^ k:=by
 rw [shZ,if_neg (by omega),Int.neg_neg,Int.toNat_natCast]
theorem shZ_zero (x:Int):shZ x 0=x:=by
 have:=shZ_up x 0
 simpa using this
theorem shZ_nought (n:Int):shZ 0 n=0:=by unfold shZ;split <;> simp
theorem up_abs (x:Int) (k:Nat):(x * 2 ^ k).natAbs=x.natAbs * 2 ^ k:=by
 rw [Int.natAbs_mul,Int.natAbs_pow];rfl
theorem blen_up {a:Nat} (h:a≠0) (k:Nat):blen (a * 2 ^ k)=blen a+k:=by
 have:=blen_add_mul (k:=k) (x:=0) (y:=a) (Nat.two_pow_pos k) h
 rw [Nat.zero_add,Nat.mul_comm] at this;omega
theorem div_of_parts {P:Nat} (hP:0<P) {x q r:Int} (h:r+P * q=x) (h0:0≤r) (h1:r<P):x / (P:Int)=q:=
 ((Int.ediv_emod_unique (by omega)).2 ⟨h,h0,h1⟩).1
theorem down_pos (a k:Nat):(a:Int) / 2 ^ k=((a / 2 ^ k:Nat):Int):=by
 rw [←two_pow_cast];rfl
theorem down_neg0 {a k:Nat} (h:a % 2 ^ k=0) : -(a:Int) / 2 ^ k = -((a / 2 ^ k:Nat):Int):=by
 have h2:=Nat.div_add_mod a (2 ^ k)
 rw [h] at h2
 rw [←two_pow_cast]
 refine div_of_parts (r:=0) (Nat.two_pow_pos k) ?_ (by omega) (by have:=Nat.two_pow_pos k;omega)
 have h3:((2 ^ k * (a / 2 ^ k):Nat):Int)=(a:Int):=by rw [Nat.add_zero] at h2;rw [h2]
 rw [Int.natCast_mul] at h3
 rw [Int.mul_neg,h3];omega
theorem down_neg1 {a k:Nat} (h:a % 2 ^ k≠0) : -(a:Int) / 2 ^ k = -((a / 2 ^ k:Nat):Int) + -1:=by
 have h2:=Nat.div_add_mod a (2 ^ k)
 have h4:=Nat.mod_lt a (Nat.two_pow_pos k)
 rw [←two_pow_cast]
 refine div_of_parts (r:=((2 ^ k:Nat):Int) - (a % 2 ^ k:Nat)) (Nat.two_pow_pos k) ?_ (by omega) (by omega)
 have h3:((2 ^ k * (a / 2 ^ k)+a % 2 ^ k:Nat):Int)=(a:Int):=by rw [h2]
 rw [Int.natCast_add,Int.natCast_mul] at h3
 rw [Int.mul_add,Int.mul_neg]
 generalize ((2 ^ k:Nat):Int) * ((a / 2 ^ k:Nat):Int)=t at *
 omega
theorem down_abs (x:Int) (k:Nat):(x / 2 ^ k).natAbs≤x.natAbs:=by
 obtain ⟨a,rfl | rfl⟩:=Int.eq_nat_or_neg x
 ·rw [down_pos,Int.natAbs_natCast,Int.natAbs_natCast]
  exact Nat.div_le_self _ _
 ·rw [Int.natAbs_neg,Int.natAbs_natCast]
  have h4:=Nat.div_le_self a (2 ^ k)
  by_cases h0:a % 2 ^ k=0
  ·rw [down_neg0 h0,Int.natAbs_neg,Int.natAbs_natCast];exact h4
  ·have h5:a / 2 ^ k<a:=by
    by_cases hk:k=0
    ·subst hk;rw [Nat.pow_zero] at h0;omega
    ·refine Nat.div_lt_self (Nat.pos_of_ne_zero (fun e=>h0 (by rw [e];simp))) ?_
     exact Nat.one_lt_two_pow hk
   rw [down_neg1 h0]
   generalize a / 2 ^ k=b at *
   omega
theorem down_far {x:Int} {M k:Nat} (h:x.natAbs<2 ^ M) (hk:M≤k):x / 2 ^ k=if x<0 then -1 else 0:=by
 have h1:x.natAbs<2 ^ k:=Nat.lt_of_lt_of_le h (Nat.pow_le_pow_right (by decide) hk)
 rcases Int.natAbs_eq x with e | e
 ·rw [if_neg (by omega)]
  rw [e,down_pos,Nat.div_eq_of_lt h1];rfl
 ·by_cases h0:x=0
  ·subst h0;simp
  ·have h2:x.natAbs % 2 ^ k≠0:=by rw [Nat.mod_eq_of_lt h1];omega
   rw [if_pos (by omega),e,down_neg1 h2,Nat.div_eq_of_lt h1];rfl
theorem nv_two (k:Nat):nv W (List.replicate (k / 32) 0 ++ [2 ^ (k % 32)])=2 ^ k:=by
 rw [nv_append,nv_replicate,nv_single,List.length_replicate,W_pow_eq,Nat.zero_add,←Nat.pow_add]
 congr 1;omega
theorem dig_two_pow (k:Nat):Dig W (List.replicate (k / 32) 0 ++ [2 ^ (k % 32)]):=by
 refine Dig.append (Dig.replicate _ _ (by decide)) (Dig.cons ?_ (Dig.nil _))
 have:2 ^ (k % 32)<2 ^ 32:=Nat.pow_lt_pow_right (by decide) (by omega)
 exact this
theorem nv_up (l o:List Nat) (k:Nat) (h:nv W o=nv W l * 2 ^ (k % 32)):nv W (List.replicate (k / 32) 0 ++ o)=nv W l * 2 ^ k:=by
 rw [nv_append,nv_replicate,List.length_replicate,W_pow_eq,Nat.zero_add,h,Nat.mul_comm,Nat.mul_assoc,←Nat.pow_add]
 congr 2;omega
end Hb
namespace Go.Proofs.YtjpnmmjgdiiahaaGreatDoor
section
open Go.RowKit Hb
set_option maxRecDepth 100000 in
set_option maxHeartbeats 2000000 in
theorem Shift_long (neg:Bool) {B:Nat} {A:Option Addr} {l:List Nat} {n c:Nat} {w:World} (hs:SlU w B A n c l) (hn:n≤67108000) (hB:B≤w.heap.size) (hlg:lng l=true) (k z:Int) :
  Calls Tryz.prog 158 #[.agg #[.bool neg,.slice A n c],.int .i64 k] w (PostC w z 10):=by
 have HL:=Lib.hid (P1w_long (neg:=neg) hs (by omega) hB)
 rw [hlg] at HL
 clear hs hn hB hlg
 go_enter Tryz.func158,Tryz.ntmps158
 go_wp2_with fail
 refine HL.out.mono ?_
 rintro ex w3 ⟨rfl,hb3⟩
 obtain ⟨h1,h2,h3,h4⟩:=P1w_after hb3
 obtain ⟨a0,a1,_,_⟩:=h1.facts
 obtain ⟨r0,r1,r2,r3⟩:=h2.facts
 have H1:=Lib.hid h1
 have H2:=Lib.hid h2
 have H3:=Lib.hid h3
 clear h1 h2 h3 hb3
 go_wp2
 exact bodyPost_ret (v:=.tuple #[zeroV,.int .i64 10]) (by simp [results,Tryz.results158,go_sem,r0,r1]) rfl
  (PostC.bad rfl (by decide) ((H3.out.setCell (by simp) _).setCell (by simp) _))
set_option maxRecDepth 100000 in
set_option maxHeartbeats 2000000 in
theorem Shift_nought (neg:Bool) {B:Nat} {A:Option Addr} {l:List Nat} {n c:Nat} {w:World} (hs:SlU w B A n c l) (hn:n≤67108000) (hB:B≤w.heap.size) (hlg:lng l=false) (h0:ival neg l=0) (k:Int) :
  Calls Tryz.prog 158 #[.agg #[.bool neg,.slice A n c],.int .i64 k] w (PostC w 0 0):=by
 have HL:=Lib.hid (P1w_long (neg:=neg) hs (by omega) hB)
 rw [hlg] at HL
 obtain ⟨s,hsg⟩:∃ s,(ival neg l).sign=s:=⟨_,rfl⟩
 have HSg:Hid (∀ w1,Below w.heap.size w w1→Calls Tryz.prog 21 #[.agg #[.bool neg,.slice A n c]] w1 (CmpZPost s w1)):=Lib.hid (fun w1 hb=>by rw [←hsg];exact sign_any neg (hs.below (C:=w.heap.size) hb hB) (Nat.le_trans hB hb.size))
 have hs0:(s==0)=true:=by rw [←hsg,h0];rfl
 clear hs hn hB hlg h0 hsg
 go_enter Tryz.func158,Tryz.ntmps158
 go_wp2_with fail
 refine HL.out.mono ?_
 rintro ex w3 ⟨rfl,hb3⟩
 obtain ⟨h1,h2,h3,h4⟩:=P1w_after hb3
 obtain ⟨a0,a1,_,_⟩:=h1.facts
 obtain ⟨r0,r1,r2,r3⟩:=h2.facts
 have H1:=Lib.hid h1
 have H2:=Lib.hid h2
 have H3:=Lib.hid h3
 clear h1 h2 h3 hb3
 go_wp2_with fail
 refine (HSg.out _ H3.out).mono ?_
 rintro ex w4 ⟨rfl,hb4⟩
 have hz4:=hb4.size
 replace H1:=Lib.hid (H1.out.below hb4 (by omega))
 replace H2:=Lib.hid (H2.out.below hb4 (by omega))
 replace H3:=Lib.hid (H3.out.trans (hb4.mono (by omega)))
 clear hb4 a0 a1 r0 r1 r2 r3
 obtain ⟨a0,a1,_,_⟩:=H1.out.facts
 obtain ⟨r0,r1,r2,r3⟩:=H2.out.facts
 go_wp2
 exact bodyPost_ret (v:=.tuple #[zeroV,.int .i64 0]) (by simp [results,Tryz.results158,go_sem,r0,r1]) rfl
  (PostC.ok rfl (ResI.zero _ _) ((H3.out.setCell (by simp) _).setCell (by simp) _))
set_option maxRecDepth 100000 in
set_option maxHeartbeats 2000000 in
theorem Shift_great (neg:Bool) {B:Nat} {A:Option Addr} {l:List Nat} {n c:Nat} {w:World} (hs:SlU w B A n c l) (hn:n≤67108000) (hB:B≤w.heap.size) (hlg:lng l=false) (h0:ival neg l≠0) (k:Nat) (bl:Nat) (hbl:blen (nv W l)=bl) (hg:4096<bl+k) (z:Int) :
  Calls Tryz.prog 158 #[.agg #[.bool neg,.slice A n c],.int .i64 (k:Int)] w (PostC w z 10):=by
 have HL:=Lib.hid (P1w_long (neg:=neg) hs (by omega) hB)
 rw [hlg] at HL
 obtain ⟨s,hsg⟩:∃ s,(ival neg l).sign=s:=⟨_,rfl⟩
 have HSg:Hid (∀ w1,Below w.heap.size w w1→Calls Tryz.prog 21 #[.agg #[.bool neg,.slice A n c]] w1 (CmpZPost s w1)):=Lib.hid (fun w1 hb=>by rw [←hsg];exact sign_any neg (hs.below (C:=w.heap.size) hb hB) (Nat.le_trans hB hb.size))
 have hs0:(s==0)=false:=beq_eq_false_iff_ne.2 (fun e=>h0 (Int.sign_eq_zero_iff_zero.1 (hsg.trans e)))
 have HBt:Hid (∀ w1,Below w.heap.size w w1→Calls Tryz.prog 20 #[.agg #[.bool neg,.slice A n c]] w1 (CmpZPost (bl:Int) w1)):=Lib.hid (fun w1 hb=>by rw [←hbl];exact bits_any neg (hs.below (C:=w.heap.size) hb hB) (by omega) (Nat.le_trans hB hb.size))
 have hk0:(0:Int)≤(k:Int):=by omega
 have hb4:bl≤4096:=by have:=of_decide_eq_false hlg;omega
 clear hs hn hB hlg h0 hsg hbl
 by_cases hk:4096<k
 ·have d1:decide ((4096:Int)<(k:Int))=true:=decide_eq_true (by omega)
  have d2:decide (4096<k)=true:=decide_eq_true hk
  go_enter Tryz.func158,Tryz.ntmps158
  go_wp2_with fail
  refine HL.out.mono ?_
  rintro ex w3 ⟨rfl,hb3⟩
  obtain ⟨h1,h2,h3,h4⟩:=P1w_after hb3
  obtain ⟨a0,a1,_,_⟩:=h1.facts
  obtain ⟨r0,r1,r2,r3⟩:=h2.facts
  have H1:=Lib.hid h1
  have H2:=Lib.hid h2
  have H3:=Lib.hid h3
  clear h1 h2 h3 hb3
  go_wp2_with fail
  refine (HSg.out _ H3.out).mono ?_
  rintro ex w4 ⟨rfl,hb4⟩
  have hz4:=hb4.size
  replace H1:=Lib.hid (H1.out.below hb4 (by omega))
  replace H2:=Lib.hid (H2.out.below hb4 (by omega))
  replace H3:=Lib.hid (H3.out.trans (hb4.mono (by omega)))
  clear hb4 a0 a1 r0 r1 r2 r3
  obtain ⟨a0,a1,_,_⟩:=H1.out.facts
  obtain ⟨r0,r1,r2,r3⟩:=H2.out.facts
  go_wp2
  exact bodyPost_ret (v:=.tuple #[zeroV,.int .i64 10]) (by simp [results,Tryz.results158,go_sem,r0,r1]) rfl
   (PostC.bad rfl (by decide) ((H3.out.setCell (by simp) _).setCell (by simp) _))
 ·have d1:decide ((4096:Int)<(k:Int))=false:=decide_eq_false (by omega)
  have d2:decide (4096<k)=false:=decide_eq_false hk
  have d3:decide ((4096:Int)<(bl:Int)+(k:Int))=true:=decide_eq_true (by omega)
  go_enter Tryz.func158,Tryz.ntmps158
  go_wp2_with fail
  refine HL.out.mono ?_
  rintro ex w3 ⟨rfl,hb3⟩
  obtain ⟨h1,h2,h3,h4⟩:=P1w_after hb3
  obtain ⟨a0,a1,_,_⟩:=h1.facts
  obtain ⟨r0,r1,r2,r3⟩:=h2.facts
  have H1:=Lib.hid h1
  have H2:=Lib.hid h2
  have H3:=Lib.hid h3
  clear h1 h2 h3 hb3
  go_wp2_with fail
  refine (HSg.out _ H3.out).mono ?_
  rintro ex w4 ⟨rfl,hb4⟩
  have hz4:=hb4.size
  replace H1:=Lib.hid (H1.out.below hb4 (by omega))
  replace H2:=Lib.hid (H2.out.below hb4 (by omega))
  replace H3:=Lib.hid (H3.out.trans (hb4.mono (by omega)))
  clear hb4 a0 a1 r0 r1 r2 r3
  obtain ⟨a0,a1,_,_⟩:=H1.out.facts
  obtain ⟨r0,r1,r2,r3⟩:=H2.out.facts
  go_wp2_with fail
  refine (HBt.out _ H3.out).mono ?_
  rintro ex w5 ⟨rfl,hb5⟩
  have hz5:=hb5.size
  replace H1:=Lib.hid (H1.out.below hb5 (by omega))
  replace H2:=Lib.hid (H2.out.below hb5 (by omega))
  replace H3:=Lib.hid (H3.out.trans (hb5.mono (by omega)))
  clear hb5 a0 a1 r0 r1 r2 r3
  obtain ⟨a0,a1,_,_⟩:=H1.out.facts
  obtain ⟨r0,r1,r2,r3⟩:=H2.out.facts
  go_wp2
  exact bodyPost_ret (v:=.tuple #[zeroV,.int .i64 10]) (by simp [results,Tryz.results158,go_sem,r0,r1]) rfl
   (PostC.bad rfl (by decide) ((H3.out.setCell (by simp) _).setCell (by simp) _))
set_option maxRecDepth 100000 in
set_option maxHeartbeats 2000000 in
theorem Shift_up (neg:Bool) {B:Nat} {A:Option Addr} {l:List Nat} {n c:Nat} {w:World} (hs:SlU w B A n c l) (hn:n≤67108000) (hB:B≤w.heap.size) (hlg:lng l=false) (h0:ival neg l≠0) (k:Nat) (bl:Nat) (hbl:blen (nv W l)=bl) (hg:bl+k≤4096) (Z:Int) (hZ:ival neg l * 2 ^ k=Z) :
  Calls Tryz.prog 158 #[.agg #[.bool neg,.slice A n c],.int .i64 (k:Int)] w (PostC w Z 0):=by
 have HL:=Lib.hid (P1w_long (neg:=neg) hs (by omega) hB)
 rw [hlg] at HL
 obtain ⟨s,hsg⟩:∃ s,(ival neg l).sign=s:=⟨_,rfl⟩
 have HSg:Hid (∀ w1,Below w.heap.size w w1→Calls Tryz.prog 21 #[.agg #[.bool neg,.slice A n c]] w1 (CmpZPost s w1)):=Lib.hid (fun w1 hb=>by rw [←hsg];exact sign_any neg (hs.below (C:=w.heap.size) hb hB) (Nat.le_trans hB hb.size))
 have hs0:(s==0)=false:=beq_eq_false_iff_ne.2 (fun e=>h0 (Int.sign_eq_zero_iff_zero.1 (hsg.trans e)))
 have HBt:Hid (∀ w1,Below w.heap.size w w1→Calls Tryz.prog 20 #[.agg #[.bool neg,.slice A n c]] w1 (CmpZPost (bl:Int) w1)):=Lib.hid (fun w1 hb=>by rw [←hbl];exact bits_any neg (hs.below (C:=w.heap.size) hb hB) (by omega) (Nat.le_trans hB hb.size))
 have hk0:(0:Int)≤(k:Int):=by omega
 have d1:decide ((4096:Int)<(k:Int))=false:=decide_eq_false (by omega)
 have d2:decide (4096<k)=false:=decide_eq_false (by omega)
 have d3:decide ((4096:Int)<(bl:Int)+(k:Int))=false:=decide_eq_false (by omega)
 have hb4:bl≤4096:=by omega
 have hk4:k≤4096:=by omega
 obtain ⟨q,hq⟩:∃ q,k / 32=q:=⟨_,rfl⟩
 obtain ⟨r,hr⟩:∃ r,k % 32=r:=⟨_,rfl⟩
 have hqI:(k:Int) / 32=(q:Int):=by omega
 have hrI:(k:Int) % 32=(r:Int):=by omega
 have hmk:=makeU q (by omega)
 have HQ:=Lib.hid (show q≤maxLen by unfold maxLen;omega)
 have HQ2:=Lib.hid (show q+(n+1)≤67108864 by omega)
 have HShl:=Lib.hid (fun w1 (hb:Below w.heap.size w w1)=>shl_any (s:=r) (hs.below (C:=w.heap.size) hb hB) (by omega) (Nat.le_trans hB hb.size) (by omega))
 have HV:Hid (∀ o,nv W o=nv W l * 2 ^ r→ival neg (List.replicate q 0 ++ o)=Z):=Lib.hid (fun o ho=>by
  have h1:=nv_up l o k (by rw [hr];exact ho)
  rw [hq] at h1
  rw [←hZ]
  unfold ival
  rw [h1,Int.natCast_mul,two_pow_cast]
  split
  ·rw [Int.neg_mul]
  ·rfl)
 clear hs hn hB hlg h0 hsg hbl hg hq hr hZ
 go_enter Tryz.func158,Tryz.ntmps158
 go_wp2_with fail
 refine HL.out.mono ?_
 rintro ex w3 ⟨rfl,hb3⟩
 obtain ⟨h1,h2,h3,h4⟩:=P1w_after hb3
 obtain ⟨a0,a1,_,_⟩:=h1.facts
 obtain ⟨r0,r1,r2,r3⟩:=h2.facts
 have H1:=Lib.hid h1
 have H2:=Lib.hid h2
 have H3:=Lib.hid h3
 clear h1 h2 h3 hb3
 go_wp2_with fail
 refine (HSg.out _ H3.out).mono ?_
 rintro ex w4 ⟨rfl,hb4⟩
 have hz4:=hb4.size
 replace H1:=Lib.hid (H1.out.below hb4 (by omega))
 replace H2:=Lib.hid (H2.out.below hb4 (by omega))
 replace H3:=Lib.hid (H3.out.trans (hb4.mono (by omega)))
 clear hb4 a0 a1 r0 r1 r2 r3
 obtain ⟨a0,a1,_,_⟩:=H1.out.facts
 obtain ⟨r0,r1,r2,r3⟩:=H2.out.facts
 go_wp2_with fail
 refine (HBt.out _ H3.out).mono ?_
 rintro ex w5 ⟨rfl,hb5⟩
 have hz5:=hb5.size
 replace H1:=Lib.hid (H1.out.below hb5 (by omega))
 replace H2:=Lib.hid (H2.out.below hb5 (by omega))
 replace H3:=Lib.hid (H3.out.trans (hb5.mono (by omega)))
 clear hb5 a0 a1 r0 r1 r2 r3
 obtain ⟨a0,a1,_,_⟩:=H1.out.facts
 obtain ⟨r0,r1,r2,r3⟩:=H2.out.facts
 go_upto_region 8 with fail
 have hS:=Lib.hid (fun w' (hb:Below w5.heap.size w5 w')=>And.intro (H1.out.below hb (Bx.lt H1.out)).facts.1 (H1.out.below hb (Bx.lt H1.out)).facts.2.1)
 have hT:=Lib.hid (fun w' (hb:Below w5.heap.size w5 w')=>H2.out.below hb (Bx.lt H2.out))
 have KK:Below w5.heap.size w5 w5.drew:=(Below.refl _ _).drew
 refine wp_region_wait (fun w'=>w'.cell? ⟨w.heap.size,0,none⟩=some (.bool neg)∧w'.cell? ⟨w.heap.size,1,none⟩=some (.slice A n c)) 12 (by kernel_rfl) ?_
 change wpAnyW _ _ _ _ _ _ _ _ _ w5.drew
 have zd:w5.heap.size≤w5.drew.heap.size:=Nat.le_refl _
 generalize w5.drew=u0 at *
 have hqw:IntKind.i64.wrap (q:Int)=(q:Int):=IntWalk.i64_in _ (by omega)
 have hrt:(k:Int).tmod 32=(r:Int):=by rw [Int.tmod_eq_emod_of_nonneg hk0];exact hrI
 refine wpAnyW_take 12 (i:=0) (v:=.pointer (some ⟨w.heap.size,0,none⟩)) rfl (by kernel_rfl) (by kernel_rfl) (by kernel_rfl) (by kernel_rfl) (fun _ _ _ h=>h) (Or.inl ⟨by kernel_rfl,fun w5 hSw=>by go_simp⟩) (hS.out _ KK) ?_
 refine wpAnyW_take 12 (i:=1) (v:=.bool neg) rfl (by kernel_rfl) (by kernel_rfl) (by kernel_rfl) (by kernel_rfl) (fun _ _ _ h=>h) (Or.inl ⟨by kernel_rfl,fun w5 hSw=>by go_simp⟩) (hS.out _ KK) ?_
 refine wpAnyW_take 12 (i:=2) (v:=.int .i64 (k:Int)) rfl (by kernel_rfl) (by kernel_rfl) (by kernel_rfl) (by kernel_rfl) (fun _ _ _ h=>h) (Or.inl ⟨by kernel_rfl,fun w5 hSw=>by go_simp⟩) (hS.out _ KK) ?_
 refine wpAnyW_take 12 (i:=3) (v:=.int .i64 (q:Int)) rfl (by kernel_rfl) (by kernel_rfl) (by kernel_rfl) (by kernel_rfl) (fun _ _ _ h=>h) (Or.inl ⟨by kernel_rfl,fun w5 hSw=>by go_simp⟩) (hS.out _ KK) ?_
 refine wpAnyW_take 12 (i:=5) (v:=.pointer (some ⟨w.heap.size,1,none⟩)) rfl (by kernel_rfl) (by kernel_rfl) (by kernel_rfl) (by kernel_rfl) (fun _ _ _ h=>h) (Or.inl ⟨by kernel_rfl,fun w5 hSw=>by go_simp⟩) (hS.out _ KK) ?_
 refine wpAnyW_take 12 (i:=6) (v:=.slice A n c) rfl (by kernel_rfl) (by kernel_rfl) (by kernel_rfl) (by kernel_rfl) (fun _ _ _ h=>h) (Or.inl ⟨by kernel_rfl,fun w5 hSw=>by go_simp⟩) (hS.out _ KK) ?_
 refine wpAnyW_take 12 (i:=7) (v:=.int .i64 (k:Int)) rfl (by kernel_rfl) (by kernel_rfl) (by kernel_rfl) (by kernel_rfl) (fun _ _ _ h=>h) (Or.inl ⟨by kernel_rfl,fun w5 hSw=>by go_simp⟩) (hS.out _ KK) ?_
 refine wpAnyW_take 12 (i:=8) (v:=.int .i64 (r:Int)) rfl (by kernel_rfl) (by kernel_rfl) (by kernel_rfl) (by kernel_rfl) (fun _ _ _ h=>h) (Or.inl ⟨by kernel_rfl,fun w5 hSw=>by go_simp⟩) (hS.out _ KK) ?_
 refine wpAnyW_two (i:=4) (i2:=9) (by kernel_rfl) rfl rfl (fun K hK=>?_) (fun K hK=>?_)
 ·go_simp
  have omk:=own_zeros u0 q (B:=w5.heap.size) KK.size HQ.out
  have zu1:u0.heap.size<(u0.alloc (.cells (madeCells #[.int .u32 0] q) 79)).heap.size:=by simp
  replace KK:=Below.alloc KK KK.size (.cells (madeCells #[.int .u32 0] q) 79)
  refine hK.out _ _ (fun _=>hS.out _ KK) ?_
  generalize u0.alloc (.cells (madeCells #[.int .u32 0] q) 79)=u1 at *
  generalize u0.heap.size=g2 at *
  refine uW 9 fun K hK=>?_
  go_simp
  (with_reducible refine (HShl.out _ (H3.out.trans (KK.mono (by omega)))).mono ?_)
  rintro ex u3 ⟨rfl,o,hol,hod,_,hov,osh,hbb⟩
  replace omk:=Own.below omk hbb (Nat.le_refl _)
  replace KK:=KK.trans (hbb.mono KK.size)
  have zu3:=hbb.size
  have zzu3:=(own_block osh rfl).2
  replace osh:=Own.sl osh hod hol
  clear hbb
  refine hK.out _ _ (fun _=>hS.out _ KK) ?_
  generalize u1.heap.size=g4 at *
  refine uW 10 fun K hK=>?_
  rw [if_pos (by kernel_rfl)]
  refine wp_append_far (base:=w5.heap.size) (l0:=List.replicate q 0) (l:=o) (A:=some ⟨g4,0,none⟩) (A0:=some ⟨g2,0,none⟩) (n0:=q) (c0:=q) (m:=n+1) (c:=n+1) _ _ (by rfl) (by rfl) omk (by rfl) (fun h=>by cases h) osh HQ2.out KK.size ?_
  intro Aap cap u5 oap hbb hff _
  replace KK:=KK.trans (hbb.mono (Nat.le_refl _))
  clear hbb hff omk osh
  refine hK.out _ _ (fun _=>hS.out _ KK) ?_
  refine uW 11 fun K hK=>?_
  go_simp
  (with_reducible refine (laid_at neg oap (by rw [List.length_append,List.length_replicate,hol]) ((Dig.replicate _ _ (by decide)).append hod) (HV.out o hov)).mono ?_)
  rintro ex u6 ⟨rfl,ores,hbb⟩
  replace KK:=KK.trans (hbb.mono KK.size)
  clear hbb oap
  refine hK.out _ _ (fun _=>hS.out _ KK) ?_
  refine uW 12 fun K hK=>?_
  obtain ⟨t0,t1,t2,t3⟩:=(hT.out _ KK).facts
  go_simp
  refine hK.out _ _ (fun h=>absurd h (by simp)) ?_
  refine uW 13 fun K hK=>?_
  go_simp
  refine hK.out _ _ (fun h=>absurd h (by simp)) ?_
  refine wpAnyW_done (by kernel_rfl) ?_ _
  go_wp2
  exact bodyPost_ret (v:=.tuple #[.agg #[.bool (decide (Z<0)),.slice Aap (digs W Z.natAbs).length cap],.int .i64 0]) (by simp [results,Tryz.results158,go_sem,t0,t1]) rfl
   (PostC.ok rfl (ResI.stored (w:=w) (g:=w.heap.size+1) ⟨Aap,cap,rfl,ores⟩ (H3.out.trans (KK.mono (B':=w.heap.size) H3.out.size)) (by omega) (by omega)).1 (ResI.stored (w:=w) (g:=w.heap.size+1) ⟨Aap,cap,rfl,ores⟩ (H3.out.trans (KK.mono (B':=w.heap.size) H3.out.size)) (by omega) (by omega)).2)
 ·go_simp
  (with_reducible refine (HShl.out _ (H3.out.trans (KK.mono (by omega)))).mono ?_)
  rintro ex u7 ⟨rfl,o,hol,hod,_,hov,osh,hbb⟩
  replace KK:=KK.trans (hbb.mono KK.size)
  have zu7:=hbb.size
  have zzu7:=(own_block osh rfl).2
  replace osh:=Own.sl osh hod hol
  clear hbb
  refine hK.out _ _ (fun _=>hS.out _ KK) ?_
  generalize u0.heap.size=g8 at *
  refine uW 4 fun K hK=>?_
  go_simp
  replace osh:=SlU.to osh ((Below.refl u7.heap.size u7).alloc (Nat.le_refl _) (.cells (madeCells #[.int .u32 0] q) 79)) (Nat.le_refl _)
  have omk:=own_zeros u7 q (B:=w5.heap.size) KK.size HQ.out
  have zu9:u7.heap.size<(u7.alloc (.cells (madeCells #[.int .u32 0] q) 79)).heap.size:=by simp
  replace KK:=Below.alloc KK KK.size (.cells (madeCells #[.int .u32 0] q) 79)
  refine hK.out _ _ (fun _=>hS.out _ KK) ?_
  generalize u7.alloc (.cells (madeCells #[.int .u32 0] q) 79)=u9 at *
  generalize u7.heap.size=g10 at *
  refine uW 10 fun K hK=>?_
  rw [if_pos (by kernel_rfl)]
  refine wp_append_far (base:=w5.heap.size) (l0:=List.replicate q 0) (l:=o) (A:=some ⟨g8,0,none⟩) (A0:=some ⟨g10,0,none⟩) (n0:=q) (c0:=q) (m:=n+1) (c:=n+1) _ _ (by rfl) (by rfl) omk (by rfl) (fun h=>by cases h) osh HQ2.out KK.size ?_
  intro Aap cap u11 oap hbb hff _
  replace KK:=KK.trans (hbb.mono (Nat.le_refl _))
  clear hbb hff omk osh
  refine hK.out _ _ (fun _=>hS.out _ KK) ?_
  refine uW 11 fun K hK=>?_
  go_simp
  (with_reducible refine (laid_at neg oap (by rw [List.length_append,List.length_replicate,hol]) ((Dig.replicate _ _ (by decide)).append hod) (HV.out o hov)).mono ?_)
  rintro ex u12 ⟨rfl,ores,hbb⟩
  replace KK:=KK.trans (hbb.mono KK.size)
  clear hbb oap
  refine hK.out _ _ (fun _=>hS.out _ KK) ?_
  refine uW 12 fun K hK=>?_
  obtain ⟨t0,t1,t2,t3⟩:=(hT.out _ KK).facts
  go_simp
  refine hK.out _ _ (fun h=>absurd h (by simp)) ?_
  refine uW 13 fun K hK=>?_
  go_simp
  refine hK.out _ _ (fun h=>absurd h (by simp)) ?_
  refine wpAnyW_done (by kernel_rfl) ?_ _
  go_wp2
  exact bodyPost_ret (v:=.tuple #[.agg #[.bool (decide (Z<0)),.slice Aap (digs W Z.natAbs).length cap],.int .i64 0]) (by simp [results,Tryz.results158,go_sem,t0,t1]) rfl
   (PostC.ok rfl (ResI.stored (w:=w) (g:=w.heap.size+1) ⟨Aap,cap,rfl,ores⟩ (H3.out.trans (KK.mono (B':=w.heap.size) H3.out.size)) (by omega) (by omega)).1 (ResI.stored (w:=w) (g:=w.heap.size+1) ⟨Aap,cap,rfl,ores⟩ (H3.out.trans (KK.mono (B':=w.heap.size) H3.out.size)) (by omega) (by omega)).2)
set_option maxRecDepth 100000 in
set_option maxHeartbeats 4000000 in
theorem Shift_down (neg:Bool) {B:Nat} {A:Option Addr} {l:List Nat} {n c:Nat} {w:World} (hs:SlU w B A n c l) (hn:n≤67108000) (hB:B≤w.heap.size) (hlg:lng l=false) (h0:ival neg l≠0) (kk mm:Int) (m:Nat) (hmm:mm = -(m:Int)) (hm0:0<m) (hm4:m≤4097) (hk:kk<0) (hk2 : -9223372036854775808≤kk) (hc1:kk < -4096→mm = -4097) (hc2:¬kk < -4096→mm=kk)  (Z:Int) (hZ:ival neg l / 2 ^ m=Z) :
  Calls Tryz.prog 158 #[.agg #[.bool neg,.slice A n c],.int .i64 kk] w (PostC w Z 0):=by
 have HL:=Lib.hid (P1w_long (neg:=neg) hs (by omega) hB)
 rw [hlg] at HL
 obtain ⟨s,hsg⟩:∃ s,(ival neg l).sign=s:=⟨_,rfl⟩
 have HSg:Hid (∀ w1,Below w.heap.size w w1→Calls Tryz.prog 21 #[.agg #[.bool neg,.slice A n c]] w1 (CmpZPost s w1)):=Lib.hid (fun w1 hb=>by rw [←hsg];exact sign_any neg (hs.below (C:=w.heap.size) hb hB) (Nat.le_trans hB hb.size))
 have hs0:(s==0)=false:=beq_eq_false_iff_ne.2 (fun e=>h0 (Int.sign_eq_zero_iff_zero.1 (hsg.trans e)))
 have d0:decide ((0:Int)≤kk)=false:=decide_eq_false (by omega)
 have HC1:=Lib.hid (fun h:kk < -4096=>(hc1 h).symm)
 have HC2:=Lib.hid (fun h:¬kk < -4096=>(hc2 h).symm)
 have hm1 : -4097≤mm:=by omega
 have hm2:mm<0:=by omega
 have hneg : -mm=(m:Int):=by omega
 obtain ⟨q,hq⟩:∃ q,m / 32=q:=⟨_,rfl⟩
 obtain ⟨r,hr⟩:∃ r,m % 32=r:=⟨_,rfl⟩
 obtain ⟨p,hp⟩:∃ p,2 ^ r=p:=⟨_,rfl⟩
 have hqI:(m:Int) / 32=(q:Int):=by omega
 have hrI:(m:Int) % 32=(r:Int):=by omega
 have hp32:p<4294967296:=by
  have:2 ^ r<2 ^ 32:=Nat.pow_lt_pow_right (by decide) (by omega)
  omega
 have hpI:(2:Int) ^ r=(p:Int):=by rw [←hp];simp
 have hpM:(p:Int) % 4294967296=(p:Int):=by omega
 have HPW:Hid (IntKind.u32.wrap (p:Int)=(p:Int)):=Lib.hid (wrap_u32 p hp32)
 have hmk:=makeU q (by omega)
 have HQ:=Lib.hid (show q≤maxLen by unfold maxLen;omega)
 have HQ2:=Lib.hid (show q+1≤67108864 by omega)
 have HP:=Lib.hid (And.intro hp32 True.intro)
 obtain ⟨zp,hzp⟩:∃ z:Int,((2 ^ m:Nat):Int)=z:=⟨_,rfl⟩
 have hzd:Dig W (List.replicate q 0 ++ [p]):=by have:=dig_two_pow m;rw [hq,hr,hp] at this;exact this
 have hzv:ival false (List.replicate q 0 ++ [p])=zp:=by
  have:=Hb.nv_two m
  rw [hq,hr,hp] at this
  rw [←hzp];unfold ival;rw [this];rfl
 have HV:=Lib.hid (And.intro hzd hzv)
 have hza:zp.natAbs=2 ^ m:=by rw [←hzp,Int.natAbs_natCast]
 have HPV:=Lib.hid (show nv W (digs W zp.natAbs)=2 ^ m by rw [nv_digs (by decide),hza])
 have HPn:=Lib.hid (show (digs W zp.natAbs).length≤129 by
  refine digs_length_le (k:=129) (by decide) ?_
  rw [hza,W_pow_eq]
  generalize hK9:32 * 129=K9
  exact Nat.pow_lt_pow_right (by decide) (by omega))
 have HSl:=Lib.hid (fun w1 (hb:Below w.heap.size w w1)=>And.intro (hs.below (C:=w.heap.size) hb hB) (Nat.le_trans hB hb.size))
 have HN:=Lib.hid (show n≤67108000 from hn)
 have hlen:=hs.len
 have HLn:=Lib.hid (show l.length=n from hlen)
 have HDl:=Lib.hid hs.dig
 have hiv:ival neg l=if neg then -(nv W l:Int) else (nv W l:Int):=rfl
 have HZ:=Lib.hid hZ
 have HIV:=Lib.hid hiv
 clear hs hn hB hlg h0 hsg hZ hq hr hp hzp hzd hzv hza hmm hm0 hc1 hc2 hlen hiv hp32
 go_enter Tryz.func158,Tryz.ntmps158
 go_wp2_with fail
 refine HL.out.mono ?_
 rintro ex w3 ⟨rfl,hb3⟩
 obtain ⟨h1,h2,h3,h4⟩:=P1w_after hb3
 obtain ⟨a0,a1,_,_⟩:=h1.facts
 obtain ⟨r0,r1,r2,r3⟩:=h2.facts
 have H1:=Lib.hid h1
 have H2:=Lib.hid h2
 have H3:=Lib.hid h3
 clear h1 h2 h3 hb3
 go_wp2_with fail
 refine (HSg.out _ H3.out).mono ?_
 rintro ex w4 ⟨rfl,hb4⟩
 have hz4:=hb4.size
 replace H1:=Lib.hid (H1.out.below hb4 (by omega))
 replace H2:=Lib.hid (H2.out.below hb4 (by omega))
 replace H3:=Lib.hid (H3.out.trans (hb4.mono (by omega)))
 clear hb4 a0 a1 r0 r1 r2 r3
 obtain ⟨a0,a1,_,_⟩:=H1.out.facts
 obtain ⟨r0,r1,r2,r3⟩:=H2.out.facts
 go_upto_if 43 with fail
 go_cut [1] (fun s1 wx=>s1 = .int .i64 mm∧w4=wx)
 case first=>
  go_wp2_with fail
  all_goals
   go_meet
   first | exact ⟨by rw [HC1.out ‹_›],rfl⟩ | exact ⟨by rw [HC2.out (by omega)],rfl⟩
 obtain ⟨rfl,rfl⟩:=hcut
 clear HC1 HC2 d0 hk hk2
 go_upto_region 11 with fail
 go_cut [6] (fun s6 wx=>∃ g A2 c2,s6 = .pointer (some ⟨g,0,none⟩)∧Bx wx g (.bool (decide (zp<0))) (.slice A2 (digs W zp.natAbs).length c2)∧OwnU wx w4.heap.size A2 (digs W zp.natAbs).length c2 (u32s (digs W zp.natAbs))∧Below w4.heap.size w4 wx∧w4.heap.size≤g)
 case first=>
   have KK:Below w4.heap.size w4 w4.drew:=(Below.refl _ _).drew
   refine wp_region_wait (fun _=>True) 12 (by kernel_rfl) ?_
   change wpAnyW _ _ _ _ _ _ _ _ _ w4.drew
   have zd:w4.heap.size≤w4.drew.heap.size:=Nat.le_refl _
   generalize w4.drew=u0 at *
   have hqw:IntKind.i64.wrap (q:Int)=(q:Int):=IntWalk.i64_in _ (by omega)
   have hmw:IntKind.i64.wrap (m:Int)=(m:Int):=IntWalk.i64_in _ (by omega)
   have hpw:IntKind.u32.wrap (p:Int)=(p:Int):=HPW.out
   have hrt:(m:Int).tmod 32=(r:Int):=by rw [Int.tmod_eq_emod_of_nonneg (by omega)];exact hrI
   refine wpAnyW_take 12 (i:=0) (v:=.int .i64 mm) rfl (by kernel_rfl) (by kernel_rfl) (by kernel_rfl) (by kernel_rfl) (fun _ _ _ h=>h) (Or.inl ⟨by kernel_rfl,fun w5 hSw=>by go_simp⟩) trivial ?_
   refine wpAnyW_take 12 (i:=1) (v:=.int .i64 (m:Int)) rfl (by kernel_rfl) (by kernel_rfl) (by kernel_rfl) (by kernel_rfl) (fun _ _ _ h=>h) (Or.inl ⟨by kernel_rfl,fun w5 hSw=>by go_simp⟩) trivial ?_
   refine wpAnyW_take 12 (i:=2) (v:=.int .i64 (q:Int)) rfl (by kernel_rfl) (by kernel_rfl) (by kernel_rfl) (by kernel_rfl) (fun _ _ _ h=>h) (Or.inl ⟨by kernel_rfl,fun w5 hSw=>by go_simp⟩) trivial ?_
   refine wpAnyW_take 12 (i:=4) (v:=.int .i64 mm) rfl (by kernel_rfl) (by kernel_rfl) (by kernel_rfl) (by kernel_rfl) (fun _ _ _ h=>h) (Or.inl ⟨by kernel_rfl,fun w5 hSw=>by go_simp⟩) trivial ?_
   refine wpAnyW_take 12 (i:=5) (v:=.int .i64 (m:Int)) rfl (by kernel_rfl) (by kernel_rfl) (by kernel_rfl) (by kernel_rfl) (fun _ _ _ h=>h) (Or.inl ⟨by kernel_rfl,fun w5 hSw=>by go_simp⟩) trivial ?_
   refine wpAnyW_take 12 (i:=6) (v:=.int .i64 (r:Int)) rfl (by kernel_rfl) (by kernel_rfl) (by kernel_rfl) (by kernel_rfl) (fun _ _ _ h=>h) (Or.inl ⟨by kernel_rfl,fun w5 hSw=>by go_simp⟩) trivial ?_
   refine wpAnyW_take 12 (i:=7) (v:=.int .u32 (p:Int)) rfl (by kernel_rfl) (by kernel_rfl) (by kernel_rfl) (by kernel_rfl) (fun _ _ _ h=>h) (Or.inl ⟨by kernel_rfl,fun w5 hSw=>by go_simp⟩) trivial ?_
   refine wpAnyW_three (i:=3) (i2:=8) (i3:=11) (by kernel_rfl) rfl rfl rfl (fun K hK=>?_) (fun K hK=>?_) (fun K hK=>?_)
   ·go_simp
    have omk:=own_zeros u0 q (B:=w4.heap.size) KK.size HQ.out
    have zu13:u0.heap.size<(u0.alloc (.cells (madeCells #[.int .u32 0] q) 79)).heap.size:=by simp
    replace KK:=Below.alloc KK KK.size (.cells (madeCells #[.int .u32 0] q) 79)
    refine hK.out _ _ (fun _=>trivial) ?_
    generalize u0.alloc (.cells (madeCells #[.int .u32 0] q) 79)=u13 at *
    generalize u0.heap.size=g14 at *
    refine wpAnyW_two (i:=8) (i2:=11) (by kernel_rfl) rfl rfl (fun K hK=>?_) (fun K hK=>?_)
    ·go_simp
     replace omk:=Own.alloc omk (.cells #[.int .u32 (p:Int)] 79)
     have obs:=own_one u13 p (B:=w4.heap.size) KK.size
     have zu15:u13.heap.size<(u13.alloc (.cells #[.int .u32 (p:Int)] 79)).heap.size:=by simp
     replace KK:=Below.alloc KK KK.size (.cells #[.int .u32 (p:Int)] 79)
     refine hK.out _ _ (fun _=>trivial) ?_
     generalize u13.alloc (.cells #[.int .u32 (p:Int)] 79)=u15 at *
     generalize u13.heap.size=g16 at *
     refine wpAnyW_two (i:=9) (i2:=11) (by kernel_rfl) rfl rfl (fun K hK=>?_) (fun K hK=>?_)
     ·rw [if_pos (by kernel_rfl)]
      have osl:=Own.sl obs (Dig.cons HP.out.1 (Dig.nil _)) rfl
      refine wp_append_far (base:=w4.heap.size) (l0:=List.replicate q 0) (l:=[p]) (A:=some ⟨g16,0,none⟩) (A0:=some ⟨g14,0,none⟩) (n0:=q) (c0:=q) (m:=1) (c:=1) _ _ (by rfl) (by rfl) omk (by rfl) (fun h=>by cases h) osl HQ2.out KK.size ?_
      intro Aap cap u17 oap hbb hff hat
      replace KK:=KK.trans (hbb.mono (Nat.le_refl _))
      clear hbb hff hat omk obs osl
      refine hK.out _ _ (fun _=>trivial) ?_
      refine wpAnyW_two (i:=10) (i2:=11) (by kernel_rfl) rfl rfl (fun K hK=>?_) (fun K hK=>?_)
      ·go_simp
       (with_reducible refine (laid_at false oap (by simp) HV.out.1 HV.out.2).mono ?_)
       rintro ex u18 ⟨rfl,ores,hbb⟩
       replace KK:=KK.trans (hbb.mono KK.size)
       clear hbb oap
       refine hK.out _ _ (fun _=>trivial) ?_
       refine uW 11 fun K hK=>?_
       go_simp
       have hap:∀ g',Aap=some ⟨g',0,none⟩→g'≠u18.heap.size:=fun g' e=>Nat.ne_of_lt (own_block ores e).2
       replace ores:=Own.alloc ores (.cells #[.bool false,.slice none 0 0] 39)
       have bal:=Bx.new u18 (.bool false) (.slice none 0 0)
       have hwal:w4.heap.size≤u18.heap.size:=KK.size
       have zu19:u18.heap.size<(u18.alloc (.cells #[.bool false,.slice none 0 0] 39)).heap.size:=by simp
       replace KK:=Below.alloc KK KK.size (.cells #[.bool false,.slice none 0 0] 39)
       refine hK.out _ _ (fun _=>trivial) ?_
       replace hap:=Lib.hid hap
       generalize u18.alloc (.cells #[.bool false,.slice none 0 0] 39)=u19 at *
       generalize u18.heap.size=g20 at *
       refine uW 12 fun K hK=>?_
       obtain ⟨t0,t1,t2,t3⟩:=bal.facts
       go_simp
       refine hK.out _ _ (fun h=>absurd h (by simp)) ?_
       refine wpAnyW_done (by kernel_rfl) ?_ _
       go_wp2_with fail
       go_meet
       exact ⟨g20,Aap,cap,rfl,Bx.set bal _ _,(ores.far (p:=⟨g20,0,none⟩) hap.out _).far (p:=⟨g20,1,none⟩) hap.out _,(KK.setCell (by simpa using hwal) _).setCell (by simpa using hwal) _,hwal⟩
      ·go_simp
       have hap:∀ g',Aap=some ⟨g',0,none⟩→g'≠u17.heap.size:=fun g' e=>Nat.ne_of_lt (own_block oap e).2
       replace oap:=Own.alloc oap (.cells #[.bool false,.slice none 0 0] 39)
       have bal:=Bx.new u17 (.bool false) (.slice none 0 0)
       have hwal:w4.heap.size≤u17.heap.size:=KK.size
       have zu21:u17.heap.size<(u17.alloc (.cells #[.bool false,.slice none 0 0] 39)).heap.size:=by simp
       replace KK:=Below.alloc KK KK.size (.cells #[.bool false,.slice none 0 0] 39)
       refine hK.out _ _ (fun _=>trivial) ?_
       replace hap:=Lib.hid hap
       generalize u17.alloc (.cells #[.bool false,.slice none 0 0] 39)=u21 at *
       generalize u17.heap.size=g22 at *
       refine uW 10 fun K hK=>?_
       go_simp
       (with_reducible refine (laid_at false oap (by simp) HV.out.1 HV.out.2).mono ?_)
       rintro ex u23 ⟨rfl,ores,hbb⟩
       replace bal:=Bx.below bal hbb (Bx.lt bal)
       replace KK:=KK.trans (hbb.mono KK.size)
       clear hbb oap
       refine hK.out _ _ (fun _=>trivial) ?_
       refine uW 12 fun K hK=>?_
       obtain ⟨t0,t1,t2,t3⟩:=bal.facts
       go_simp
       refine hK.out _ _ (fun h=>absurd h (by simp)) ?_
       refine wpAnyW_done (by kernel_rfl) ?_ _
       go_wp2_with fail
       go_meet
       exact ⟨g22,Aap,cap,rfl,Bx.set bal _ _,(ores.far (p:=⟨g22,0,none⟩) hap.out _).far (p:=⟨g22,1,none⟩) hap.out _,(KK.setCell (by simpa using hwal) _).setCell (by simpa using hwal) _,hwal⟩
     ·go_simp
      replace omk:=Own.alloc omk (.cells #[.bool false,.slice none 0 0] 39)
      replace obs:=Own.alloc obs (.cells #[.bool false,.slice none 0 0] 39)
      have bal:=Bx.new u15 (.bool false) (.slice none 0 0)
      have hwal:w4.heap.size≤u15.heap.size:=KK.size
      have zu24:u15.heap.size<(u15.alloc (.cells #[.bool false,.slice none 0 0] 39)).heap.size:=by simp
      replace KK:=Below.alloc KK KK.size (.cells #[.bool false,.slice none 0 0] 39)
      refine hK.out _ _ (fun _=>trivial) ?_
      generalize u15.alloc (.cells #[.bool false,.slice none 0 0] 39)=u24 at *
      generalize u15.heap.size=g25 at *
      refine uW 9 fun K hK=>?_
      rw [if_pos (by kernel_rfl)]
      have osl:=Own.sl obs (Dig.cons HP.out.1 (Dig.nil _)) rfl
      refine wp_append_far (base:=w4.heap.size) (l0:=List.replicate q 0) (l:=[p]) (A:=some ⟨g16,0,none⟩) (A0:=some ⟨g14,0,none⟩) (n0:=q) (c0:=q) (m:=1) (c:=1) _ _ (by rfl) (by rfl) omk (by rfl) (fun h=>by cases h) osl HQ2.out KK.size ?_
      intro Aap cap u26 oap hbb hff hat
      have ltb:=Bx.lt bal
      have ltm:=(own_block omk rfl).2
      have hne:g25≠g14:=by omega
      have hap:∀ g',Aap=some ⟨g',0,none⟩→g'≠g25:=fun g' e e2=>by
       rcases hat g' e with h | h
       ·injection h with h;injection h with h _ _;exact hne (e2.symm.trans h.symm)
       ·omega
      replace bal:=Bx.same bal (hff g25 ltb (by intro e;injection e with e;injection e with e _ _;exact hne e.symm))
      replace hap:=Lib.hid hap
      clear ltb ltm hne
      replace KK:=KK.trans (hbb.mono (Nat.le_refl _))
      clear hbb hff hat omk obs osl
      refine hK.out _ _ (fun _=>trivial) ?_
      refine uW 10 fun K hK=>?_
      go_simp
      (with_reducible refine (laid_at false oap (by simp) HV.out.1 HV.out.2).mono ?_)
      rintro ex u27 ⟨rfl,ores,hbb⟩
      replace bal:=Bx.below bal hbb (Bx.lt bal)
      replace KK:=KK.trans (hbb.mono KK.size)
      clear hbb oap
      refine hK.out _ _ (fun _=>trivial) ?_
      refine uW 12 fun K hK=>?_
      obtain ⟨t0,t1,t2,t3⟩:=bal.facts
      go_simp
      refine hK.out _ _ (fun h=>absurd h (by simp)) ?_
      refine wpAnyW_done (by kernel_rfl) ?_ _
      go_wp2_with fail
      go_meet
      exact ⟨g25,Aap,cap,rfl,Bx.set bal _ _,(ores.far (p:=⟨g25,0,none⟩) hap.out _).far (p:=⟨g25,1,none⟩) hap.out _,(KK.setCell (by simpa using hwal) _).setCell (by simpa using hwal) _,hwal⟩
    ·go_simp
     replace omk:=Own.alloc omk (.cells #[.bool false,.slice none 0 0] 39)
     have bal:=Bx.new u13 (.bool false) (.slice none 0 0)
     have hwal:w4.heap.size≤u13.heap.size:=KK.size
     have zu28:u13.heap.size<(u13.alloc (.cells #[.bool false,.slice none 0 0] 39)).heap.size:=by simp
     replace KK:=Below.alloc KK KK.size (.cells #[.bool false,.slice none 0 0] 39)
     refine hK.out _ _ (fun _=>trivial) ?_
     generalize u13.alloc (.cells #[.bool false,.slice none 0 0] 39)=u28 at *
     generalize u13.heap.size=g29 at *
     refine uW 8 fun K hK=>?_
     go_simp
     replace omk:=Own.alloc omk (.cells #[.int .u32 (p:Int)] 79)
     replace bal:=Bx.alloc bal (.cells #[.int .u32 (p:Int)] 79)
     have obs:=own_one u28 p (B:=w4.heap.size) KK.size
     have zu30:u28.heap.size<(u28.alloc (.cells #[.int .u32 (p:Int)] 79)).heap.size:=by simp
     replace KK:=Below.alloc KK KK.size (.cells #[.int .u32 (p:Int)] 79)
     refine hK.out _ _ (fun _=>trivial) ?_
     generalize u28.alloc (.cells #[.int .u32 (p:Int)] 79)=u30 at *
     generalize u28.heap.size=g31 at *
     refine uW 9 fun K hK=>?_
     rw [if_pos (by kernel_rfl)]
     have osl:=Own.sl obs (Dig.cons HP.out.1 (Dig.nil _)) rfl
     refine wp_append_far (base:=w4.heap.size) (l0:=List.replicate q 0) (l:=[p]) (A:=some ⟨g31,0,none⟩) (A0:=some ⟨g14,0,none⟩) (n0:=q) (c0:=q) (m:=1) (c:=1) _ _ (by rfl) (by rfl) omk (by rfl) (fun h=>by cases h) osl HQ2.out KK.size ?_
     intro Aap cap u32 oap hbb hff hat
     have ltb:=Bx.lt bal
     have ltm:=(own_block omk rfl).2
     have hne:g29≠g14:=by omega
     have hap:∀ g',Aap=some ⟨g',0,none⟩→g'≠g29:=fun g' e e2=>by
      rcases hat g' e with h | h
      ·injection h with h;injection h with h _ _;exact hne (e2.symm.trans h.symm)
      ·omega
     replace bal:=Bx.same bal (hff g29 ltb (by intro e;injection e with e;injection e with e _ _;exact hne e.symm))
     replace hap:=Lib.hid hap
     clear ltb ltm hne
     replace KK:=KK.trans (hbb.mono (Nat.le_refl _))
     clear hbb hff hat omk obs osl
     refine hK.out _ _ (fun _=>trivial) ?_
     refine uW 10 fun K hK=>?_
     go_simp
     (with_reducible refine (laid_at false oap (by simp) HV.out.1 HV.out.2).mono ?_)
     rintro ex u33 ⟨rfl,ores,hbb⟩
     replace bal:=Bx.below bal hbb (Bx.lt bal)
     replace KK:=KK.trans (hbb.mono KK.size)
     clear hbb oap
     refine hK.out _ _ (fun _=>trivial) ?_
     refine uW 12 fun K hK=>?_
     obtain ⟨t0,t1,t2,t3⟩:=bal.facts
     go_simp
     refine hK.out _ _ (fun h=>absurd h (by simp)) ?_
     refine wpAnyW_done (by kernel_rfl) ?_ _
     go_wp2_with fail
     go_meet
     exact ⟨g29,Aap,cap,rfl,Bx.set bal _ _,(ores.far (p:=⟨g29,0,none⟩) hap.out _).far (p:=⟨g29,1,none⟩) hap.out _,(KK.setCell (by simpa using hwal) _).setCell (by simpa using hwal) _,hwal⟩
   ·go_simp
    have obs:=own_one u0 p (B:=w4.heap.size) KK.size
    have zu34:u0.heap.size<(u0.alloc (.cells #[.int .u32 (p:Int)] 79)).heap.size:=by simp
    replace KK:=Below.alloc KK KK.size (.cells #[.int .u32 (p:Int)] 79)
    refine hK.out _ _ (fun _=>trivial) ?_
    generalize u0.alloc (.cells #[.int .u32 (p:Int)] 79)=u34 at *
    generalize u0.heap.size=g35 at *
    refine wpAnyW_two (i:=3) (i2:=11) (by kernel_rfl) rfl rfl (fun K hK=>?_) (fun K hK=>?_)
    ·go_simp
     replace obs:=Own.alloc obs (.cells (madeCells #[.int .u32 0] q) 79)
     have omk:=own_zeros u34 q (B:=w4.heap.size) KK.size HQ.out
     have zu36:u34.heap.size<(u34.alloc (.cells (madeCells #[.int .u32 0] q) 79)).heap.size:=by simp
     replace KK:=Below.alloc KK KK.size (.cells (madeCells #[.int .u32 0] q) 79)
     refine hK.out _ _ (fun _=>trivial) ?_
     generalize u34.alloc (.cells (madeCells #[.int .u32 0] q) 79)=u36 at *
     generalize u34.heap.size=g37 at *
     refine wpAnyW_two (i:=9) (i2:=11) (by kernel_rfl) rfl rfl (fun K hK=>?_) (fun K hK=>?_)
     ·rw [if_pos (by kernel_rfl)]
      have osl:=Own.sl obs (Dig.cons HP.out.1 (Dig.nil _)) rfl
      refine wp_append_far (base:=w4.heap.size) (l0:=List.replicate q 0) (l:=[p]) (A:=some ⟨g35,0,none⟩) (A0:=some ⟨g37,0,none⟩) (n0:=q) (c0:=q) (m:=1) (c:=1) _ _ (by rfl) (by rfl) omk (by rfl) (fun h=>by cases h) osl HQ2.out KK.size ?_
      intro Aap cap u38 oap hbb hff hat
      replace KK:=KK.trans (hbb.mono (Nat.le_refl _))
      clear hbb hff hat omk obs osl
      refine hK.out _ _ (fun _=>trivial) ?_
      refine wpAnyW_two (i:=10) (i2:=11) (by kernel_rfl) rfl rfl (fun K hK=>?_) (fun K hK=>?_)
      ·go_simp
       (with_reducible refine (laid_at false oap (by simp) HV.out.1 HV.out.2).mono ?_)
       rintro ex u39 ⟨rfl,ores,hbb⟩
       replace KK:=KK.trans (hbb.mono KK.size)
       clear hbb oap
       refine hK.out _ _ (fun _=>trivial) ?_
       refine uW 11 fun K hK=>?_
       go_simp
       have hap:∀ g',Aap=some ⟨g',0,none⟩→g'≠u39.heap.size:=fun g' e=>Nat.ne_of_lt (own_block ores e).2
       replace ores:=Own.alloc ores (.cells #[.bool false,.slice none 0 0] 39)
       have bal:=Bx.new u39 (.bool false) (.slice none 0 0)
       have hwal:w4.heap.size≤u39.heap.size:=KK.size
       have zu40:u39.heap.size<(u39.alloc (.cells #[.bool false,.slice none 0 0] 39)).heap.size:=by simp
       replace KK:=Below.alloc KK KK.size (.cells #[.bool false,.slice none 0 0] 39)
       refine hK.out _ _ (fun _=>trivial) ?_
       replace hap:=Lib.hid hap
       generalize u39.alloc (.cells #[.bool false,.slice none 0 0] 39)=u40 at *
       generalize u39.heap.size=g41 at *
       refine uW 12 fun K hK=>?_
       obtain ⟨t0,t1,t2,t3⟩:=bal.facts
       go_simp
       refine hK.out _ _ (fun h=>absurd h (by simp)) ?_
       refine wpAnyW_done (by kernel_rfl) ?_ _
       go_wp2_with fail
       go_meet
       exact ⟨g41,Aap,cap,rfl,Bx.set bal _ _,(ores.far (p:=⟨g41,0,none⟩) hap.out _).far (p:=⟨g41,1,none⟩) hap.out _,(KK.setCell (by simpa using hwal) _).setCell (by simpa using hwal) _,hwal⟩
      ·go_simp
       have hap:∀ g',Aap=some ⟨g',0,none⟩→g'≠u38.heap.size:=fun g' e=>Nat.ne_of_lt (own_block oap e).2
       replace oap:=Own.alloc oap (.cells #[.bool false,.slice none 0 0] 39)
       have bal:=Bx.new u38 (.bool false) (.slice none 0 0)
       have hwal:w4.heap.size≤u38.heap.size:=KK.size
       have zu42:u38.heap.size<(u38.alloc (.cells #[.bool false,.slice none 0 0] 39)).heap.size:=by simp
       replace KK:=Below.alloc KK KK.size (.cells #[.bool false,.slice none 0 0] 39)
       refine hK.out _ _ (fun _=>trivial) ?_
       replace hap:=Lib.hid hap
       generalize u38.alloc (.cells #[.bool false,.slice none 0 0] 39)=u42 at *
       generalize u38.heap.size=g43 at *
       refine uW 10 fun K hK=>?_
       go_simp
       (with_reducible refine (laid_at false oap (by simp) HV.out.1 HV.out.2).mono ?_)
       rintro ex u44 ⟨rfl,ores,hbb⟩
       replace bal:=Bx.below bal hbb (Bx.lt bal)
       replace KK:=KK.trans (hbb.mono KK.size)
       clear hbb oap
       refine hK.out _ _ (fun _=>trivial) ?_
       refine uW 12 fun K hK=>?_
       obtain ⟨t0,t1,t2,t3⟩:=bal.facts
       go_simp
       refine hK.out _ _ (fun h=>absurd h (by simp)) ?_
       refine wpAnyW_done (by kernel_rfl) ?_ _
       go_wp2_with fail
       go_meet
       exact ⟨g43,Aap,cap,rfl,Bx.set bal _ _,(ores.far (p:=⟨g43,0,none⟩) hap.out _).far (p:=⟨g43,1,none⟩) hap.out _,(KK.setCell (by simpa using hwal) _).setCell (by simpa using hwal) _,hwal⟩
     ·go_simp
      replace obs:=Own.alloc obs (.cells #[.bool false,.slice none 0 0] 39)
      replace omk:=Own.alloc omk (.cells #[.bool false,.slice none 0 0] 39)
      have bal:=Bx.new u36 (.bool false) (.slice none 0 0)
      have hwal:w4.heap.size≤u36.heap.size:=KK.size
      have zu45:u36.heap.size<(u36.alloc (.cells #[.bool false,.slice none 0 0] 39)).heap.size:=by simp
      replace KK:=Below.alloc KK KK.size (.cells #[.bool false,.slice none 0 0] 39)
      refine hK.out _ _ (fun _=>trivial) ?_
      generalize u36.alloc (.cells #[.bool false,.slice none 0 0] 39)=u45 at *
      generalize u36.heap.size=g46 at *
      refine uW 9 fun K hK=>?_
      rw [if_pos (by kernel_rfl)]
      have osl:=Own.sl obs (Dig.cons HP.out.1 (Dig.nil _)) rfl
      refine wp_append_far (base:=w4.heap.size) (l0:=List.replicate q 0) (l:=[p]) (A:=some ⟨g35,0,none⟩) (A0:=some ⟨g37,0,none⟩) (n0:=q) (c0:=q) (m:=1) (c:=1) _ _ (by rfl) (by rfl) omk (by rfl) (fun h=>by cases h) osl HQ2.out KK.size ?_
      intro Aap cap u47 oap hbb hff hat
      have ltb:=Bx.lt bal
      have ltm:=(own_block omk rfl).2
      have hne:g46≠g37:=by omega
      have hap:∀ g',Aap=some ⟨g',0,none⟩→g'≠g46:=fun g' e e2=>by
       rcases hat g' e with h | h
       ·injection h with h;injection h with h _ _;exact hne (e2.symm.trans h.symm)
       ·omega
      replace bal:=Bx.same bal (hff g46 ltb (by intro e;injection e with e;injection e with e _ _;exact hne e.symm))
      replace hap:=Lib.hid hap
      clear ltb ltm hne
      replace KK:=KK.trans (hbb.mono (Nat.le_refl _))
      clear hbb hff hat omk obs osl
      refine hK.out _ _ (fun _=>trivial) ?_
      refine uW 10 fun K hK=>?_
      go_simp
      (with_reducible refine (laid_at false oap (by simp) HV.out.1 HV.out.2).mono ?_)
      rintro ex u48 ⟨rfl,ores,hbb⟩
      replace bal:=Bx.below bal hbb (Bx.lt bal)
      replace KK:=KK.trans (hbb.mono KK.size)
      clear hbb oap
      refine hK.out _ _ (fun _=>trivial) ?_
      refine uW 12 fun K hK=>?_
      obtain ⟨t0,t1,t2,t3⟩:=bal.facts
      go_simp
      refine hK.out _ _ (fun h=>absurd h (by simp)) ?_
      refine wpAnyW_done (by kernel_rfl) ?_ _
      go_wp2_with fail
      go_meet
      exact ⟨g46,Aap,cap,rfl,Bx.set bal _ _,(ores.far (p:=⟨g46,0,none⟩) hap.out _).far (p:=⟨g46,1,none⟩) hap.out _,(KK.setCell (by simpa using hwal) _).setCell (by simpa using hwal) _,hwal⟩
    ·go_simp
     replace obs:=Own.alloc obs (.cells #[.bool false,.slice none 0 0] 39)
     have bal:=Bx.new u34 (.bool false) (.slice none 0 0)
     have hwal:w4.heap.size≤u34.heap.size:=KK.size
     have zu49:u34.heap.size<(u34.alloc (.cells #[.bool false,.slice none 0 0] 39)).heap.size:=by simp
     replace KK:=Below.alloc KK KK.size (.cells #[.bool false,.slice none 0 0] 39)
     refine hK.out _ _ (fun _=>trivial) ?_
     generalize u34.alloc (.cells #[.bool false,.slice none 0 0] 39)=u49 at *
     generalize u34.heap.size=g50 at *
     refine uW 3 fun K hK=>?_
     go_simp
     replace obs:=Own.alloc obs (.cells (madeCells #[.int .u32 0] q) 79)
     replace bal:=Bx.alloc bal (.cells (madeCells #[.int .u32 0] q) 79)
     have omk:=own_zeros u49 q (B:=w4.heap.size) KK.size HQ.out
     have zu51:u49.heap.size<(u49.alloc (.cells (madeCells #[.int .u32 0] q) 79)).heap.size:=by simp
     replace KK:=Below.alloc KK KK.size (.cells (madeCells #[.int .u32 0] q) 79)
     refine hK.out _ _ (fun _=>trivial) ?_
     generalize u49.alloc (.cells (madeCells #[.int .u32 0] q) 79)=u51 at *
     generalize u49.heap.size=g52 at *
     refine uW 9 fun K hK=>?_
     rw [if_pos (by kernel_rfl)]
     have osl:=Own.sl obs (Dig.cons HP.out.1 (Dig.nil _)) rfl
     refine wp_append_far (base:=w4.heap.size) (l0:=List.replicate q 0) (l:=[p]) (A:=some ⟨g35,0,none⟩) (A0:=some ⟨g52,0,none⟩) (n0:=q) (c0:=q) (m:=1) (c:=1) _ _ (by rfl) (by rfl) omk (by rfl) (fun h=>by cases h) osl HQ2.out KK.size ?_
     intro Aap cap u53 oap hbb hff hat
     have ltb:=Bx.lt bal
     have ltm:=(own_block omk rfl).2
     have hne:g50≠g52:=by omega
     have hap:∀ g',Aap=some ⟨g',0,none⟩→g'≠g50:=fun g' e e2=>by
      rcases hat g' e with h | h
      ·injection h with h;injection h with h _ _;exact hne (e2.symm.trans h.symm)
      ·omega
     replace bal:=Bx.same bal (hff g50 ltb (by intro e;injection e with e;injection e with e _ _;exact hne e.symm))
     replace hap:=Lib.hid hap
     clear ltb ltm hne
     replace KK:=KK.trans (hbb.mono (Nat.le_refl _))
     clear hbb hff hat omk obs osl
     refine hK.out _ _ (fun _=>trivial) ?_
     refine uW 10 fun K hK=>?_
     go_simp
     (with_reducible refine (laid_at false oap (by simp) HV.out.1 HV.out.2).mono ?_)
     rintro ex u54 ⟨rfl,ores,hbb⟩
     replace bal:=Bx.below bal hbb (Bx.lt bal)
     replace KK:=KK.trans (hbb.mono KK.size)
     clear hbb oap
     refine hK.out _ _ (fun _=>trivial) ?_
     refine uW 12 fun K hK=>?_
     obtain ⟨t0,t1,t2,t3⟩:=bal.facts
     go_simp
     refine hK.out _ _ (fun h=>absurd h (by simp)) ?_
     refine wpAnyW_done (by kernel_rfl) ?_ _
     go_wp2_with fail
     go_meet
     exact ⟨g50,Aap,cap,rfl,Bx.set bal _ _,(ores.far (p:=⟨g50,0,none⟩) hap.out _).far (p:=⟨g50,1,none⟩) hap.out _,(KK.setCell (by simpa using hwal) _).setCell (by simpa using hwal) _,hwal⟩
   ·go_simp
    have bal:=Bx.new u0 (.bool false) (.slice none 0 0)
    have hwal:w4.heap.size≤u0.heap.size:=KK.size
    have zu55:u0.heap.size<(u0.alloc (.cells #[.bool false,.slice none 0 0] 39)).heap.size:=by simp
    replace KK:=Below.alloc KK KK.size (.cells #[.bool false,.slice none 0 0] 39)
    refine hK.out _ _ (fun _=>trivial) ?_
    generalize u0.alloc (.cells #[.bool false,.slice none 0 0] 39)=u55 at *
    generalize u0.heap.size=g56 at *
    refine wpAnyW_two (i:=3) (i2:=8) (by kernel_rfl) rfl rfl (fun K hK=>?_) (fun K hK=>?_)
    ·go_simp
     replace bal:=Bx.alloc bal (.cells (madeCells #[.int .u32 0] q) 79)
     have omk:=own_zeros u55 q (B:=w4.heap.size) KK.size HQ.out
     have zu57:u55.heap.size<(u55.alloc (.cells (madeCells #[.int .u32 0] q) 79)).heap.size:=by simp
     replace KK:=Below.alloc KK KK.size (.cells (madeCells #[.int .u32 0] q) 79)
     refine hK.out _ _ (fun _=>trivial) ?_
     generalize u55.alloc (.cells (madeCells #[.int .u32 0] q) 79)=u57 at *
     generalize u55.heap.size=g58 at *
     refine uW 8 fun K hK=>?_
     go_simp
     replace bal:=Bx.alloc bal (.cells #[.int .u32 (p:Int)] 79)
     replace omk:=Own.alloc omk (.cells #[.int .u32 (p:Int)] 79)
     have obs:=own_one u57 p (B:=w4.heap.size) KK.size
     have zu59:u57.heap.size<(u57.alloc (.cells #[.int .u32 (p:Int)] 79)).heap.size:=by simp
     replace KK:=Below.alloc KK KK.size (.cells #[.int .u32 (p:Int)] 79)
     refine hK.out _ _ (fun _=>trivial) ?_
     generalize u57.alloc (.cells #[.int .u32 (p:Int)] 79)=u59 at *
     generalize u57.heap.size=g60 at *
     refine uW 9 fun K hK=>?_
     rw [if_pos (by kernel_rfl)]
     have osl:=Own.sl obs (Dig.cons HP.out.1 (Dig.nil _)) rfl
     refine wp_append_far (base:=w4.heap.size) (l0:=List.replicate q 0) (l:=[p]) (A:=some ⟨g60,0,none⟩) (A0:=some ⟨g58,0,none⟩) (n0:=q) (c0:=q) (m:=1) (c:=1) _ _ (by rfl) (by rfl) omk (by rfl) (fun h=>by cases h) osl HQ2.out KK.size ?_
     intro Aap cap u61 oap hbb hff hat
     have ltb:=Bx.lt bal
     have ltm:=(own_block omk rfl).2
     have hne:g56≠g58:=by omega
     have hap:∀ g',Aap=some ⟨g',0,none⟩→g'≠g56:=fun g' e e2=>by
      rcases hat g' e with h | h
      ·injection h with h;injection h with h _ _;exact hne (e2.symm.trans h.symm)
      ·omega
     replace bal:=Bx.same bal (hff g56 ltb (by intro e;injection e with e;injection e with e _ _;exact hne e.symm))
     replace hap:=Lib.hid hap
     clear ltb ltm hne
     replace KK:=KK.trans (hbb.mono (Nat.le_refl _))
     clear hbb hff hat omk obs osl
     refine hK.out _ _ (fun _=>trivial) ?_
     refine uW 10 fun K hK=>?_
     go_simp
     (with_reducible refine (laid_at false oap (by simp) HV.out.1 HV.out.2).mono ?_)
     rintro ex u62 ⟨rfl,ores,hbb⟩
     replace bal:=Bx.below bal hbb (Bx.lt bal)
     replace KK:=KK.trans (hbb.mono KK.size)
     clear hbb oap
     refine hK.out _ _ (fun _=>trivial) ?_
     refine uW 12 fun K hK=>?_
     obtain ⟨t0,t1,t2,t3⟩:=bal.facts
     go_simp
     refine hK.out _ _ (fun h=>absurd h (by simp)) ?_
     refine wpAnyW_done (by kernel_rfl) ?_ _
     go_wp2_with fail
     go_meet
     exact ⟨g56,Aap,cap,rfl,Bx.set bal _ _,(ores.far (p:=⟨g56,0,none⟩) hap.out _).far (p:=⟨g56,1,none⟩) hap.out _,(KK.setCell (by simpa using hwal) _).setCell (by simpa using hwal) _,hwal⟩
    ·go_simp
     replace bal:=Bx.alloc bal (.cells #[.int .u32 (p:Int)] 79)
     have obs:=own_one u55 p (B:=w4.heap.size) KK.size
     have zu63:u55.heap.size<(u55.alloc (.cells #[.int .u32 (p:Int)] 79)).heap.size:=by simp
     replace KK:=Below.alloc KK KK.size (.cells #[.int .u32 (p:Int)] 79)
     refine hK.out _ _ (fun _=>trivial) ?_
     generalize u55.alloc (.cells #[.int .u32 (p:Int)] 79)=u63 at *
     generalize u55.heap.size=g64 at *
     refine uW 3 fun K hK=>?_
     go_simp
     replace bal:=Bx.alloc bal (.cells (madeCells #[.int .u32 0] q) 79)
     replace obs:=Own.alloc obs (.cells (madeCells #[.int .u32 0] q) 79)
     have omk:=own_zeros u63 q (B:=w4.heap.size) KK.size HQ.out
     have zu65:u63.heap.size<(u63.alloc (.cells (madeCells #[.int .u32 0] q) 79)).heap.size:=by simp
     replace KK:=Below.alloc KK KK.size (.cells (madeCells #[.int .u32 0] q) 79)
     refine hK.out _ _ (fun _=>trivial) ?_
     generalize u63.alloc (.cells (madeCells #[.int .u32 0] q) 79)=u65 at *
     generalize u63.heap.size=g66 at *
     refine uW 9 fun K hK=>?_
     rw [if_pos (by kernel_rfl)]
     have osl:=Own.sl obs (Dig.cons HP.out.1 (Dig.nil _)) rfl
     refine wp_append_far (base:=w4.heap.size) (l0:=List.replicate q 0) (l:=[p]) (A:=some ⟨g64,0,none⟩) (A0:=some ⟨g66,0,none⟩) (n0:=q) (c0:=q) (m:=1) (c:=1) _ _ (by rfl) (by rfl) omk (by rfl) (fun h=>by cases h) osl HQ2.out KK.size ?_
     intro Aap cap u67 oap hbb hff hat
     have ltb:=Bx.lt bal
     have ltm:=(own_block omk rfl).2
     have hne:g56≠g66:=by omega
     have hap:∀ g',Aap=some ⟨g',0,none⟩→g'≠g56:=fun g' e e2=>by
      rcases hat g' e with h | h
      ·injection h with h;injection h with h _ _;exact hne (e2.symm.trans h.symm)
      ·omega
     replace bal:=Bx.same bal (hff g56 ltb (by intro e;injection e with e;injection e with e _ _;exact hne e.symm))
     replace hap:=Lib.hid hap
     clear ltb ltm hne
     replace KK:=KK.trans (hbb.mono (Nat.le_refl _))
     clear hbb hff hat omk obs osl
     refine hK.out _ _ (fun _=>trivial) ?_
     refine uW 10 fun K hK=>?_
     go_simp
     (with_reducible refine (laid_at false oap (by simp) HV.out.1 HV.out.2).mono ?_)
     rintro ex u68 ⟨rfl,ores,hbb⟩
     replace bal:=Bx.below bal hbb (Bx.lt bal)
     replace KK:=KK.trans (hbb.mono KK.size)
     clear hbb oap
     refine hK.out _ _ (fun _=>trivial) ?_
     refine uW 12 fun K hK=>?_
     obtain ⟨t0,t1,t2,t3⟩:=bal.facts
     go_simp
     refine hK.out _ _ (fun h=>absurd h (by simp)) ?_
     refine wpAnyW_done (by kernel_rfl) ?_ _
     go_wp2_with fail
     go_meet
     exact ⟨g56,Aap,cap,rfl,Bx.set bal _ _,(ores.far (p:=⟨g56,0,none⟩) hap.out _).far (p:=⟨g56,1,none⟩) hap.out _,(KK.setCell (by simpa using hwal) _).setCell (by simpa using hwal) _,hwal⟩
 obtain ⟨g,A2,c2,rfl,hgx,hgo,hgb,hgw⟩:=hcut
 have hzc:=hgb.size
 have hlg:=hgx.lt
 replace H1:=Lib.hid (H1.out.below hgb (Bx.lt H1.out))
 replace H2:=Lib.hid (H2.out.below hgb (Bx.lt H2.out))
 replace H3:=Lib.hid (H3.out.trans (hgb.mono H3.out.size))
 clear hgb a0 a1 r0 r1 r2 r3 hqI hrI hpI hpM hmk hneg hm1 hm2 HQ HQ2 HP HV
 obtain ⟨a0,a1,_,_⟩:=H1.out.facts
 obtain ⟨b0,b1,_,_⟩:=hgx.facts
 have HG:=Lib.hid hgx
 have HO:=Lib.hid (Own.int hgo)
 clear hgx hgo
 go_wp2_with fail
 (with_reducible refine (divide_any (HSl.out _ H3.out).1 HO.out (Nat.le_trans HN.out (by decide)) (HSl.out _ H3.out).2 (Nat.le_refl _) (by rw [HPV.out];exact Nat.ne_of_gt (Nat.two_pow_pos m))).mono ?_)
 rintro ex w6 ⟨A3,A4,n3,c3,n4,c4,o1,o2,rfl,hq1,hq2,hq3,hq4,hq5,hr1,hr2,hr3,hr4,hr5,-,hb6⟩
 rw [HPV.out] at hq4 hr4
 have hz6:=hb6.size
 replace H1:=Lib.hid (H1.out.below hb6 (Bx.lt H1.out))
 replace H2:=Lib.hid (H2.out.below hb6 (Bx.lt H2.out))
 replace H3:=Lib.hid (H3.out.trans (hb6.mono H3.out.size))
 obtain ⟨z1,hz1⟩:∃ z1,ival neg o1=z1:=⟨_,rfl⟩
 have HV1:=Lib.hid hz1
 have HQ1:=Lib.hid (And.intro hq2 (And.intro hq3 (And.intro hq4 hq5)))
 have HQo:=Lib.hid hq1
 have HR:=Lib.hid (Own.sl hr1 hr3 hr2)
 have HR4:=Lib.hid hr4
 have hlt0:w.heap.size+1<wc.heap.size:=by have:=Bx.lt H2.out;omega
 clear hb6 a0 a1 b0 b1 HG HO hz1 hq1 hq2 hq3 hq4 hq5 hr1 hr2 hr3 hr4 hr5
 obtain ⟨a0,a1,_,_⟩:=H1.out.facts
 go_wp2_with fail
 (with_reducible refine (laid_at neg HQo.out HQ1.out.1 HQ1.out.2.1 HV1.out).mono ?_)
 rintro ex w7 ⟨rfl,ho7,hb7⟩
 have hz7:=hb7.size
 replace H1:=Lib.hid (H1.out.below hb7 (Bx.lt H1.out))
 replace H2:=Lib.hid (H2.out.below hb7 (Bx.lt H2.out))
 replace H3:=Lib.hid (H3.out.trans (hb7.mono H3.out.size))
 have HR7:=Lib.hid (SlU.to HR.out hb7 (Nat.le_refl _))
 have HO7:=Lib.hid ho7
 have HL1:=Lib.hid (show (digs W z1.natAbs).length≤67108864 by
  have h1:z1.natAbs=nv W o1:=by rw [←HV1.out,ival_natAbs]
  have h2:=nv_lt HQ1.out.2.1
  have h3:=digs_length_le (n:=nv W o1) (k:=n+1) (by decide) (Nat.lt_of_lt_of_le h2 (Nat.pow_le_pow_right (by decide) (by rw [HQ1.out.1];exact HQ1.out.2.2.2)))
  have h4:=HN.out
  rw [h1];omega)
 have OV:=Lib.hid (Own.alloc ho7 (.cells #[.bool (decide (z1<0)),.slice A3 (digs W z1.natAbs).length c3] 39))
 have G1:=Lib.hid (Bx.new w7 (.bool (decide (z1<0))) (.slice A3 (digs W z1.natAbs).length c3))
 have hG7:wc.heap.size≤w7.heap.size:=by omega
 have hz8:w7.heap.size<(w7.alloc (.cells #[.bool (decide (z1<0)),.slice A3 (digs W z1.natAbs).length c3] 39)).heap.size:=by simp
 have hneG:w.heap.size+1≠w7.heap.size:=by omega
 have H18:=Lib.hid (Bx.alloc H1.out (.cells #[.bool (decide (z1<0)),.slice A3 (digs W z1.natAbs).length c3] 39))
 have H28:=Lib.hid (Bx.alloc H2.out (.cells #[.bool (decide (z1<0)),.slice A3 (digs W z1.natAbs).length c3] 39))
 have H38:=Lib.hid (Below.alloc H3.out H3.out.size (.cells #[.bool (decide (z1<0)),.slice A3 (digs W z1.natAbs).length c3] 39))
 have HR8:=Lib.hid (SlU.to HR7.out ((Below.refl w7.heap.size w7).alloc (Nat.le_refl _) (.cells #[.bool (decide (z1<0)),.slice A3 (digs W z1.natAbs).length c3] 39)) (Nat.le_refl _))
 clear ho7 hb7 a0 a1 H1 H2 H3 HR7 HO7 HR
 go_upto_region 14 with fail
 generalize (w7.alloc (.cells #[.bool (decide (z1<0)),.slice A3 (digs W z1.natAbs).length c3] 39))=w8 at *
 generalize w7.heap.size=G at *
 obtain ⟨a0,a1,_,_⟩:=H18.out.facts
 obtain ⟨r0,r1,r2,r3⟩:=H28.out.facts
 obtain ⟨g0,g1,_,_⟩:=G1.out.facts
 have HZC:Hid (Z=if neg then (if nv W l % 2 ^ m=0 then -((nv W l / 2 ^ m:Nat):Int) else -((nv W l / 2 ^ m:Nat):Int) + -1) else ((nv W l / 2 ^ m:Nat):Int)):=Lib.hid (by
  rw [←HZ.out,HIV.out]
  cases neg
  ·exact down_pos _ _
  ·simp only [if_true]
   split
   ·rename_i h;exact down_neg0 h
   ·rename_i h;exact down_neg1 h)
 have HZ1:Hid (z1=if neg then -((nv W l / 2 ^ m:Nat):Int) else ((nv W l / 2 ^ m:Nat):Int)):=Lib.hid (by
  rw [←HV1.out];unfold ival;rw [HQ1.out.2.2.1])
 cases neg
 ·have HE:=Lib.hid (show z1=Z by rw [HZC.out,HZ1.out];rfl)
  go_wp2
  have hr:=ResI.stored (w:=w) (g:=w.heap.size+1) (u:=.bool (decide (z1<0))) (u':=.slice A3 (digs W z1.natAbs).length c3) ⟨A3,c3,rfl,OV.out⟩ H38.out (by omega) (by omega)
  exact bodyPost_ret (v:=.tuple #[.agg #[.bool (decide (z1<0)),.slice A3 (digs W z1.natAbs).length c3],.int .i64 0]) (by simp [results,Tryz.results158,go_sem,r0,r1]) rfl (PostC.ok rfl (by rw [←HE.out];exact hr.1) hr.2)
 ·by_cases hrm:nv W l % 2 ^ m=0
  ·have HE:=Lib.hid (show z1=Z by rw [HZC.out,HZ1.out];simp [hrm])
   have ht:=(tlen_zero_iff (b:=W) (by decide) o2).2 (by rw [HR4.out];exact hrm)
   have HT:=Lib.hid (trim_any HR8.out)
   rw [ht] at HT
   clear ht hrm
   go_wp2_with fail
   refine (HT.out).mono ?_
   rintro ex w7' ⟨rfl,rfl⟩
   go_wp2
   have hr:=ResI.stored (w:=w) (g:=w.heap.size+1) (u:=.bool (decide (z1<0))) (u':=.slice A3 (digs W z1.natAbs).length c3) ⟨A3,c3,rfl,OV.out⟩ H38.out (by omega) (by omega)
   exact bodyPost_ret (v:=.tuple #[.agg #[.bool (decide (z1<0)),.slice A3 (digs W z1.natAbs).length c3],.int .i64 0]) (by simp [results,Tryz.results158,go_sem,r0,r1]) rfl (PostC.ok rfl (by rw [←HE.out];exact hr.1) hr.2)
  ·have HE:=Lib.hid (show z1 + -1=Z by rw [HZC.out,HZ1.out];simp [hrm])
   have ht:0<tlen o2:=Nat.pos_of_ne_zero (fun e=>hrm (by rw [←HR4.out];exact (tlen_zero_iff (b:=W) (by decide) o2).1 e))
   have htI:decide ((0:Int)<(tlen o2:Int))=true:=decide_eq_true (by omega)
   have htN:decide (0<tlen o2)=true:=decide_eq_true ht
   have HT:=Lib.hid (trim_any HR8.out)
   generalize tlen o2=tn at *
   clear hrm
   go_wp2_with fail
   refine (HT.out).mono ?_
   rintro ex w7' ⟨rfl,rfl⟩
   go_upto_region 15 with fail
   obtain ⟨m1,hm1⟩:∃ m1:Int,m1 = -1:=⟨_,rfl⟩
   have HM1:=Lib.hid (fun w1=>from_at (m1:=m1) w1 hm1)
   have HL9:=Lib.hid (show (digs W m1.natAbs).length≤67108864 from Nat.le_trans (digs_length_le (k:=1) (by decide) (by rw [hm1];decide)) (by decide))
   have HE2:=Lib.hid (show z1+m1=Z by rw [hm1];exact HE.out)
   clear hm1
   have KK:Below w8.heap.size w8 w8.drew:=(Below.refl _ _).drew
   have hS:=Lib.hid (fun w' (hb:Below w8.heap.size w8 w')=>And.intro (G1.out.below hb (Bx.lt G1.out)).facts.1 (G1.out.below hb (Bx.lt G1.out)).facts.2.1)
   refine wp_region_wait (fun w'=>w'.cell? ⟨G,0,none⟩=some (.bool (decide (z1<0)))∧w'.cell? ⟨G,1,none⟩=some (.slice A3 (digs W z1.natAbs).length c3)) 3 (by kernel_rfl) ?_
   change wpAnyW _ _ _ _ _ _ _ _ _ w8.drew
   refine wpAnyW_take 3 (i:=0) (v:=.agg #[.bool (decide (z1<0)),.slice A3 (digs W z1.natAbs).length c3]) rfl (by kernel_rfl) (by kernel_rfl) (by kernel_rfl) (by kernel_rfl) (fun _ _ _ h=>h) (Or.inl ⟨by kernel_rfl,fun w5 hSw=>by go_simp⟩) (hS.out _ KK) ?_
   refine uW 1 fun K hK=>?_
   go_simp
   (with_reducible refine (HM1.out _).mono ?_)
   rintro ex w9 ⟨v,rfl,⟨A9,c9,rfl,ho9⟩,hb9⟩
   replace KK:=KK.trans (hb9.mono KK.size)
   refine hK.out _ _ (fun _=>hS.out _ KK) ?_
   refine uW 2 fun K hK=>?_
   go_simp
   (with_reducible refine (sum_own2 (OV.out.below KK (Nat.le_refl _)) HL1.out ho9 HL9.out HE2.out).mono ?_)
   rintro ex w10 ⟨v,rfl,⟨A10,c10,rfl,ho10⟩,hb10⟩
   have hz9:=KK.size
   replace KK:=KK.trans (hb10.mono KK.size)
   refine hK.out _ _ (fun _=>hS.out _ KK) ?_
   refine uW 3 fun K hK=>?_
   have G2:=Lib.hid (G1.out.below KK (Bx.lt G1.out))
   obtain ⟨t0,t1,t2,t3⟩:=G2.out.facts
   go_simp
   refine hK.out _ _ (fun h=>absurd h (by simp)) ?_
   refine wpAnyW_done (by kernel_rfl) ?_ _
   have H28':=Lib.hid (H28.out.below KK (Bx.lt H28.out))
   have H38':=Lib.hid (H38.out.trans (KK.mono H38.out.size))
   have hgn:w.heap.size+1≠G:=hneG
   have G3:=Lib.hid (Bx.set G2.out (.bool (decide (Z<0))) (.slice A10 (digs W Z.natAbs).length c10))
   have H29:=Lib.hid (Bx.far (Bx.far H28'.out (p:=⟨G,0,none⟩) hgn (.bool (decide (Z<0)))) (p:=⟨G,1,none⟩) hgn (.slice A10 (digs W Z.natAbs).length c10))
   have hG9:G<w9.heap.size:=by omega
   have O11:=Lib.hid (Own.farB (Own.farB ho10 (p:=⟨G,0,none⟩) hG9 (.bool (decide (Z<0)))) (p:=⟨G,1,none⟩) hG9 (.slice A10 (digs W Z.natAbs).length c10))
   have H39:=Lib.hid ((H38'.out.setCell (p:=⟨G,0,none⟩) (by simp;omega) (.bool (decide (Z<0)))).setCell (p:=⟨G,1,none⟩) (by simp;omega) (.slice A10 (digs W Z.natAbs).length c10))
   generalize ((w10.setCell ⟨G,0,none⟩ (.bool (decide (Z<0)))).setCell ⟨G,1,none⟩ (.slice A10 (digs W Z.natAbs).length c10))=w11 at *
   clear r0 r1 r2 r3 a0 a1 g0 g1 t0 t1 t2 t3 KK hb9 hb10 ho9 ho10
   obtain ⟨g0,g1,_,_⟩:=G3.out.facts
   obtain ⟨r0,r1,r2,r3⟩:=H29.out.facts
   go_wp2
   have hr:=ResI.stored (w:=w) (g:=w.heap.size+1) (u:=.bool (decide (Z<0))) (u':=.slice A10 (digs W Z.natAbs).length c10) ⟨A10,c10,rfl,O11.out⟩ H39.out (by omega) (by omega)
   exact bodyPost_ret (v:=.tuple #[.agg #[.bool (decide (Z<0)),.slice A10 (digs W Z.natAbs).length c10],.int .i64 0]) (by simp [results,Tryz.results158,go_sem,r0,r1]) rfl (PostC.ok rfl hr.1 hr.2)
theorem tooLong_up {x:Int} (h:x≠0) (k:Nat):tooLong (x * 2 ^ k)=decide (4096<blen x.natAbs+k):=by
 rw [tooLong,up_abs,blen_up (by omega)]
theorem tooLong_down {x:Int} (h:tooLong x=false) (k:Nat):tooLong (x / 2 ^ k)=false:=by
 have h1:=of_decide_eq_false h
 have h2:=blen_mono (down_abs x k)
 exact decide_eq_false (by omega)
theorem Shift_any (neg:Bool) {B:Nat} {A:Option Addr} {l:List Nat} {n c:Nat} {w:World} (hs:SlU w B A n c l) (hn:n≤67108000) (hB:B≤w.heap.size) (k:Int) (hk1 : -9223372036854775808≤k) :
  Calls Tryz.prog 158 #[.agg #[.bool neg,.slice A n c],.int .i64 k] w (PostC w (shZ (ival neg l) k) (err (lng l || tooLong (shZ (ival neg l) k)))):=by
 cases hlg:lng l
 ·by_cases h0:ival neg l=0
  ·have e:tooLong 0=false:=by simp [tooLong,blen_zero]
   rw [h0,shZ_nought,e]
   exact Shift_nought neg hs hn hB hlg h0 k
  ·have ht:tooLong (ival neg l)=false:=by rw [←hlg];exact (lng_ival rfl).symm
   have hab:=ival_natAbs neg l
   by_cases hk:0≤k
   ·obtain ⟨j,rfl⟩:=Int.eq_ofNat_of_zero_le hk
    rw [shZ_up,tooLong_up h0,hab]
    by_cases hg:4096<blen (nv W l)+j
    ·rw [decide_eq_true hg]
     exact Shift_great neg hs hn hB hlg h0 j _ rfl hg _
    ·rw [decide_eq_false hg]
     exact Shift_up neg hs hn hB hlg h0 j _ rfl (by omega) _ rfl
   ·obtain ⟨j,hj⟩:∃ j:Nat,k = -(j:Int):=⟨k.natAbs,by omega⟩
    have hj0:0<j:=by omega
    have e:tooLong (shZ (ival neg l) k)=false:=by rw [hj,shZ_down _ hj0];exact tooLong_down ht j
    rw [e]
    by_cases hf:k < -4096
    ·refine Shift_down neg hs hn hB hlg h0 k (-4097) 4097 (by omega) (by omega) (by omega) (by omega) hk1 (fun _=>rfl) (fun h=>absurd hf h) _ ?_
     have hlt:(ival neg l).natAbs<2 ^ 4096:=by
      have:=of_decide_eq_false ht
      have h9:=(blen_le_iff (n:=(ival neg l).natAbs) (k:=4096)).1 (by omega)
      exact h9
     rw [hj,shZ_down _ hj0,down_far (k:=4097) hlt (by omega),down_far (k:=j) hlt (by omega)]
    ·refine Shift_down neg hs hn hB hlg h0 k k j hj hj0 (by omega) (by omega) hk1 (fun h=>absurd h hf) (fun _=>rfl) _ ?_
     rw [hj,shZ_down _ hj0]
 ·exact Shift_long neg hs hn hB hlg k _
section
variable {w:World} {A A':Option Addr} {n c n' c':Nat} {l m:List Nat} {na nb:Bool} {x y z:Int}
theorem Shift_z {k:Int} (hs:SlU w w.heap.size A n c l) (hn:n≤1000) (hx:ival na l=x) (hk : -9223372036854775808≤k) (hz:shZ x k=z) (t1:tooLong x=false) (t3:tooLong z=false) :
  Calls Tryz.prog 158 #[.agg #[.bool na,.slice A n c],.int .i64 k] w (PostR w z 0):=by
 have h:=Shift_any na hs (by omega) (Nat.le_refl _) k hk
 rw [hx,hz,lng_ival hx,t1,t3] at h
 exact h.mono fun _ _ h=>h.ok_ rfl
end
section
end
section
end
end
end Go.Proofs.YtjpnmmjgdiiahaaGreatDoor
namespace Hb
open Ieee
theorem float_of_top {t:Nat} (h1:2 ^ 52≤t) (h2:t≤2 ^ 53):Go.FloatKind.f64.nearest (t:Int)=1074 * 2 ^ 52+t:=by
 unfold Go.FloatKind.nearest Go.FloatKind.encode
 show double.nearest (decide ((t:Int)<0)) (t:Int).natAbs 0=_
 rw [decide_eq_false (by omega),Int.natAbs_natCast]
 rcases Nat.lt_or_ge t (2 ^ 53) with h | h
 ·have:=nearest_at (k:=0) (q:=0) (p:=0) h1 h (by omega) (by omega) (by omega)
  rw [Nat.pow_zero,Nat.mul_one] at this
  exact this
 ·obtain rfl:t=2 ^ 53:=by omega
  have:=nearest_at (m:=2 ^ 52) (k:=1) (q:=0) (p:=1) (by decide) (by decide) (by omega) (by omega) (by omega)
  exact this
theorem mul_one_f {x:Nat} (h1:2 ^ 52≤x) (h2:x<9218868437227405312):double.mul 4607182418800017408 x=some x:=by
 have g1:double.signWeight=9223372036854775808:=rfl
 have g2:double.binade=4503599627370496:=rfl
 have g3:double.infRung=9218868437227405312:=rfl
 have g4:double.leastPlace = -1074:=rfl
 have e1:x / 9223372036854775808 % 2=0:=by omega
 have e2:x % 9223372036854775808=x:=by omega
 have hx:double.read x = .number false (4503599627370496+x % 4503599627370496) (-1074+((x / 4503599627370496 - 1:Nat):Int)):=by
  unfold Format.read
  simp only [g1,g2,g3,g4,e1,e2]
  rw [if_neg (by omega),if_pos h2]
  rfl
 have h0:double.read 4607182418800017408 = .number false 4503599627370496 (-52):=by decide +kernel
 unfold Format.mul
 rw [hx,h0]
 show some (double.nearest (false ^^ false) (4503599627370496 * (4503599627370496+x % 4503599627370496)) (-52+(-1074+((x / 4503599627370496 - 1:Nat):Int))))=some x
 have e3:4503599627370496 * (4503599627370496+x % 4503599627370496)=(4503599627370496+x % 4503599627370496) * 2 ^ 52:=by
  rw [Nat.mul_comm]
 rw [e3,show (false ^^ false)=false from rfl]
 rw [nearest_at (m:=4503599627370496+x % 4503599627370496) (k:=52) (p:=-1074+((x / 4503599627370496 - 1:Nat):Int)) (by omega) (by omega) (by omega) (by omega) (by omega)]
 exact congrArg some (by omega)
end Hb
namespace Hb
def flV (a:Nat):Nat:=if 54<blen a then a / 2 ^ (blen a - 54) else a * 2 ^ (54 - blen a)
def flLow (a:Nat):Bool:=decide (54<blen a) && decide (a % 2 ^ (blen a - 54)≠0)
def flUp (a:Nat):Bool:=decide (flV a % 2=1) && (flLow a || decide (flV a / 2 % 2=1))
def flTop (a:Nat):Nat:=flV a / 2+(flUp a).toNat
def flInf (a:Nat):Bool:=decide (1024<blen a) || decide ((blen a+1021) * 4503599627370496+flTop a=9218868437227405312)
def flBits (a:Nat):Nat:=(blen a+1021) * 4503599627370496+flTop a
theorem flV_bounds {a:Nat} (h:a≠0):9007199254740992≤flV a∧flV a<18014398509481984:=by
 obtain ⟨h1,h2⟩:=blen_bounds h
 have hp:=blen_pos h
 unfold flV
 generalize blen a=n at *
 split
 ·rename_i h3
  obtain ⟨k,rfl⟩:∃ k,n=k+54:=⟨n - 54,by omega⟩
  rw [show k+54 - 54=k by omega]
  have hk:=Nat.two_pow_pos k
  constructor
  ·refine (Nat.le_div_iff_mul_le hk).2 ?_
   rw [show k+54 - 1=53+k by omega,Nat.pow_add] at h1
   exact h1
  ·refine (Nat.div_lt_iff_lt_mul hk).2 ?_
   rw [show k+54=54+k by omega,Nat.pow_add] at h2
   exact h2
 ·rename_i h3
  obtain ⟨k,hk⟩:∃ k,54 - n=k:=⟨_,rfl⟩
  rw [hk]
  have hk0:=Nat.two_pow_pos k
  constructor
  ·have h4:2 ^ (n - 1) * 2 ^ k≤a * 2 ^ k:=Nat.mul_le_mul_right _ h1
   rw [←Nat.pow_add,show n - 1+k=53 by omega] at h4
   exact h4
  ·have h4:a * 2 ^ k<2 ^ n * 2 ^ k:=Nat.mul_lt_mul_of_pos_right h2 hk0
   rw [←Nat.pow_add,show n+k=54 by omega] at h4
   exact h4
theorem flTop_bounds {a:Nat} (h:a≠0):4503599627370496≤flTop a∧flTop a≤9007199254740992:=by
 have:=flV_bounds h
 unfold flTop
 cases flUp a <;> simp <;> omega
theorem flBits_le {a:Nat} (h:a≠0) (hn:blen a≤1024):flBits a≤9218868437227405312∧4503599627370496≤flBits a:=by
 have:=flTop_bounds h
 unfold flBits
 omega
theorem flInf_zero:flInf 0=false:=by
 have e:blen 0=0:=blen_zero
 have ev:flV 0=0:=by unfold flV;rw [e];simp
 have el:flLow 0=false:=by unfold flLow;rw [e];rfl
 have eu:flUp 0=false:=by unfold flUp;rw [ev,el];rfl
 unfold flInf flTop
 rw [e,ev,eu]
 decide
end Hb
namespace Go.Proofs.YtjpnmmjgdiiahaaGreatDoor
section
open Hb
def tfC (x:Int):Int:=if tooLong x then 10 else if flInf x.natAbs then 14 else 0
def tfB (x:Int):Nat:=if tooLong x then 0 else if x=0 then 0 else if flInf x.natAbs then 0 else flBits x.natAbs+(if x<0 then 9223372036854775808 else 0)
end
end Go.Proofs.YtjpnmmjgdiiahaaGreatDoor
namespace Hb
end Hb
namespace Go.Proofs.YtjpnmmjgdiiahaaGreatDoor
section
open Hb
theorem tfB_zero:tfB 0=0:=by
 unfold tfB
 split
 ·rfl
 ·rw [if_pos rfl]
theorem tooLong_blen {x:Int} {k:Nat} (h:blen x.natAbs≤k) (hk:k≤4096):tooLong x=false:=by
 unfold tooLong
 exact decide_eq_false (by omega)
end
section
open Go.RowKit Hb
theorem bits_and_u64 (a b:Nat) (ha:a<18446744073709551616) (hb:b<18446744073709551616):bits .and .u64 (a:Int) (b:Int)=((a &&& b:Nat):Int):=by
 unfold bits
 show IntKind.u64.wrap ((BitVec.ofInt 64 (a:Int) &&& BitVec.ofInt 64 (b:Int)).toNat:Int)=_
 rw [BitVec.toNat_and,ofInt64 ha,ofInt64 hb,u64_wrap (Nat.lt_of_le_of_lt Nat.and_le_left ha)]
theorem bits_and_i64 (a b:Nat) (ha:a<9223372036854775808) (hb:b<9223372036854775808):bits .and .i64 (a:Int) (b:Int)=((a &&& b:Nat):Int):=by
 unfold bits
 show IntKind.i64.wrap ((BitVec.ofInt 64 (a:Int) &&& BitVec.ofInt 64 (b:Int)).toNat:Int)=_
 have h9:a &&& b<9223372036854775808:=Nat.lt_of_le_of_lt Nat.and_le_left ha
 rw [BitVec.toNat_and,ofInt64 (by omega),ofInt64 (by omega),IntWalk.i64_in _ (by omega)]
theorem and_low (a k:Nat):a &&& (2 ^ k - 1)=a % 2 ^ k:=Nat.and_two_pow_sub_one_eq_mod a k
theorem or_high {a k:Nat} (b:Nat) (h:a<2 ^ k):a ||| (b * 2 ^ k)=a+b * 2 ^ k:=by
 rw [Nat.or_comm,Nat.mul_comm,←Nat.two_pow_add_eq_or_of_lt h,Nat.add_comm]
theorem clear_sign {F:Nat} (h:F<9223372036854775808):bits .andNot .u64 (F:Int) 9223372036854775808=(F:Int):=by
 have h1:=bits_andNot_u64 F 9223372036854775808 (by omega) (by decide)
 rw [show ((9223372036854775808:Nat):Int)=9223372036854775808 from rfl] at h1
 rw [h1,show 18446744073709551615 - 9223372036854775808=2 ^ 63 - 1 from rfl,and_low,Nat.mod_eq_of_lt h]
theorem clear_exp {F:Nat} (h:F<9223372036854775808):bits .andNot .u64 (F:Int) 9218868437227405312=((F % 4503599627370496:Nat):Int):=by
 have h1:=bits_andNot_u64 F 9218868437227405312 (by omega) (by decide)
 rw [show ((9218868437227405312:Nat):Int)=9218868437227405312 from rfl] at h1
 rw [h1]
 have h2:F &&& (2 ^ 63 - 1)=F:=by rw [and_low,Nat.mod_eq_of_lt h]
 have h3:(2 ^ 63 - 1) &&& (18446744073709551615 - 9218868437227405312)=2 ^ 52 - 1:=by decide +kernel
 have h4:F &&& (18446744073709551615 - 9218868437227405312)=F % 2 ^ 52:=by
  conv=>lhs;rw [←h2]
  rw [Nat.and_assoc,h3,and_low]
 rw [h4]
set_option maxRecDepth 100000 in
theorem Abs_any (F:Nat) (hF:F<9223372036854775808) (w:World) :
  Calls Tryz.prog 86 #[.float .f64 F] w fun e w'=>e = .returned (.float .f64 F)∧w=w':=by
 have hb:=run_bits F
 have hb2:=run_frombits F
 have hb3:=clear_sign hF
 go_enter Tryz.func86,Tryz.ntmps86
 go_wp2
 go_ret
 exact ⟨rfl,rfl⟩
set_option maxRecDepth 100000 in
theorem IsNaN_any (F:Nat) (hF:F<9218868437227405312) (w:World) :
  Calls Tryz.prog 166 #[.float .f64 F] w fun e w'=>e = .returned (.bool false)∧w=w':=by
 have ho:FloatKind.f64.format.order F F=some .eq:=order_self hF
 go_enter Tryz.func166,Tryz.ntmps166
 go_wp2
 go_ret
 exact ⟨rfl,rfl⟩
set_option maxRecDepth 100000 in
theorem IsInf_any (F:Nat) (hF:F≤9218868437227405312) {b:Bool} (hb:decide (F=9218868437227405312)=b) (w:World) :
  Calls Tryz.prog 165 #[.float .f64 F,.int .i64 0] w fun e w'=>e = .returned (.bool b)∧w=w':=by
 have ho:=order_inf F hF
 rw [hb] at ho
 have HA:=Lib.hid (Abs_any F (by omega))
 clear hb
 go_enter Tryz.func165,Tryz.ntmps165
 go_wp2_with fail
 refine (HA.out _).mono ?_
 rintro ex w5 ⟨rfl,rfl⟩
 go_wp2
 go_ret
 exact ⟨rfl,rfl⟩
set_option maxRecDepth 100000 in
theorem normalize_any (F:Nat) (h1:4503599627370496≤F) (h2:F<9218868437227405312) (w:World) :
  Calls Tryz.prog 223 #[.float .f64 F] w fun e w'=>e = .returned (.tuple #[.float .f64 F,.int .i64 0])∧w=w':=by
 have ho:(FloatKind.f64.format.order F 4503599627370496==some .lt)=false:=by
  rcases Nat.lt_or_ge 4503599627370496 F with h3 | h3
  ·rw [show FloatKind.f64.format.order F 4503599627370496=some .gt from order_gt h2 h3];rfl
  ·obtain rfl:F=4503599627370496:=by omega
   rw [show FloatKind.f64.format.order 4503599627370496 4503599627370496=some .eq from order_self h2];rfl
 have HA:=Lib.hid (Abs_any F (by omega))
 clear h1 h2
 go_enter Tryz.func223,Tryz.ntmps223
 go_wp2_with fail
 refine (HA.out _).mono ?_
 rintro ex w5 ⟨rfl,rfl⟩
 go_wp2
 exact bodyPost_ret (v:=.tuple #[.float .f64 F,.int .i64 0]) (by simp [results,Tryz.results223,go_sem]) rfl ⟨rfl,rfl⟩
set_option maxRecDepth 100000 in
theorem Inf_any (w:World) :
  Calls Tryz.prog 224 #[.int .i64 1] w fun e w'=>e = .returned (.float .f64 9218868437227405312)∧w=w':=by
 have hb2:∀ w:World,(callFunc 63 #[.int .u64 9218868437227405312]).run Tryz.prog w = .ok (.value (.float .f64 9218868437227405312)) w:=run_frombits 9218868437227405312
 go_enter Tryz.func224,Tryz.ntmps224
 go_wp2
 go_ret
 exact ⟨rfl,rfl⟩
set_option maxRecDepth 100000 in
theorem ldexp_ok (t:Nat) (h1:4503599627370496≤t) (h2:t≤9007199254740992) (k:Nat) (hk:k≤1023) (hov:(k+1022) * 4503599627370496+t<9218868437227405312) (w:World) :
  Calls Tryz.prog 217 #[.float .f64 (4836865999795912704+t),.int .i64 ((k:Int) - 52)] w fun e w'=>e = .returned (.float .f64 ((k+1022) * 4503599627370496+t))∧w=w':=by
 obtain ⟨F,hF⟩:∃ F,4836865999795912704+t=F:=⟨_,rfl⟩
 have ho:(FloatKind.f64.format.order F 0==some .eq)=false:=by
  rw [show FloatKind.f64.format.order F 0=some .gt from order_gt (by omega) (by omega)];rfl
 have HI:=Lib.hid (IsInf_any F (by omega) (b:=false) (decide_eq_false (by omega)))
 have HN:=Lib.hid (IsNaN_any F (by omega))
 have HM:=Lib.hid (normalize_any F (by omega) (by omega))
 have hb:=run_bits F
 obtain ⟨E,hE⟩:∃ E,F / 4503599627370496=E:=⟨_,rfl⟩
 have hE2:E=1075∧t<9007199254740992∨E=1076∧t=9007199254740992:=by omega
 have hkI:(k:Int)≤1023:=by omega
 have hk0:(0:Int)≤(k:Int):=by omega
 obtain ⟨f0,hf0⟩:∃ f,F % 4503599627370496=f:=⟨_,rfl⟩
 obtain ⟨ke,hke⟩:∃ ke:Int,(k:Int) - 52+((E:Int) - 1023)=ke:=⟨_,rfl⟩
 obtain ⟨X,hX⟩:∃ X,(k+1022) * 4503599627370496+t=X:=⟨_,rfl⟩
 have hbE:=bits_and_i64 E 2047 (by omega) (by decide)
 rw [show (2047:Nat)=2 ^ 11 - 1 from rfl,and_low,Nat.mod_eq_of_lt (show E<2 ^ 11 by omega)] at hbE
 rw [show ((2 ^ 11 - 1:Nat):Int)=2047 from rfl] at hbE
 have hce:=clear_exp (F:=F) (by omega)
 rw [hf0] at hce
 have hor:bits .or .u64 (f0:Int) ((ke+1023) * 4503599627370496)=(X:Int):=by
  obtain ⟨kn,hkn⟩:∃ kn:Nat,ke+1023=(kn:Int):=⟨(ke+1023).toNat,by omega⟩
  have hkn2:kn≤2047:=by omega
  have h:=bits_or_u64 f0 (kn * 4503599627370496) (by omega) (Nat.lt_of_le_of_lt (Nat.mul_le_mul_right _ hkn2) (by decide))
  rw [show kn * 4503599627370496=kn * 2 ^ 52 from rfl,or_high kn (show f0<2 ^ 52 by omega)] at h
  rw [hkn,show (kn:Int) * 4503599627370496=((kn * 2 ^ 52:Nat):Int) by rw [Int.natCast_mul];rfl,h]
  congr 1
  omega
 have hb2:=run_frombits X
 have hmul:∀ w1,(binOp .mul 68 (.float .f64 4607182418800017408) (.float .f64 X)).run Tryz.prog w1 = .ok (.float .f64 X) w1:=fun w1=>run_float_arith w1 .mul _ .f64 _ _ _ (mul_one_f (by omega) (by omega))
 have hEI:(F:Int) / 4503599627370496=(E:Int):=by omega
 have hE3:(1075:Int)≤(E:Int):=by omega
 have hE4:(E:Int)≤1076:=by omega
 have hk3 : -2000≤ke:=by omega
 have hk4:ke≤1023:=by omega
 have hk5 : -1000≤ke:=by omega
 rw [hF,hX]
 have HF:=Lib.hid hF
 clear hF hE2 hE hf0 hX hkI hk0 hov
 go_enter Tryz.func217,Tryz.ntmps217
 go_wp2_with fail
 refine (HI.out _).mono ?_
 rintro ex w5 ⟨rfl,rfl⟩
 go_wp2_with fail
 refine (HN.out _).mono ?_
 rintro ex w5 ⟨rfl,rfl⟩
 go_wp2_with fail
 refine (HM.out _).mono ?_
 rintro ex w5 ⟨rfl,rfl⟩
 go_wp2_with fail
 go_ret
 exact ⟨rfl,rfl⟩
set_option maxRecDepth 100000 in
theorem ldexp_ov (t:Nat) (h1:4503599627370496≤t) (h2:t≤9007199254740992) (k:Nat) (hk:k≤1023) (hov:(k+1022) * 4503599627370496+t=9218868437227405312) (w:World) :
  Calls Tryz.prog 217 #[.float .f64 (4836865999795912704+t),.int .i64 ((k:Int) - 52)] w fun e w'=>e = .returned (.float .f64 ((k+1022) * 4503599627370496+t))∧w=w':=by
 obtain ⟨F,hF⟩:∃ F,4836865999795912704+t=F:=⟨_,rfl⟩
 have ho:(FloatKind.f64.format.order F 0==some .eq)=false:=by
  rw [show FloatKind.f64.format.order F 0=some .gt from order_gt (by omega) (by omega)];rfl
 have HI:=Lib.hid (IsInf_any F (by omega) (b:=false) (decide_eq_false (by omega)))
 have HN:=Lib.hid (IsNaN_any F (by omega))
 have HM:=Lib.hid (normalize_any F (by omega) (by omega))
 have hb:=run_bits F
 obtain ⟨E,hE⟩:∃ E,F / 4503599627370496=E:=⟨_,rfl⟩
 have hE2:E=1075∧t<9007199254740992∨E=1076∧t=9007199254740992:=by omega
 have hkI:(k:Int)≤1023:=by omega
 have hk0:(0:Int)≤(k:Int):=by omega
 obtain ⟨f0,hf0⟩:∃ f,F % 4503599627370496=f:=⟨_,rfl⟩
 obtain ⟨ke,hke⟩:∃ ke:Int,(k:Int) - 52+((E:Int) - 1023)=ke:=⟨_,rfl⟩
 obtain ⟨X,hX⟩:∃ X,(k+1022) * 4503599627370496+t=X:=⟨_,rfl⟩
 have hbE:=bits_and_i64 E 2047 (by omega) (by decide)
 rw [show (2047:Nat)=2 ^ 11 - 1 from rfl,and_low,Nat.mod_eq_of_lt (show E<2 ^ 11 by omega)] at hbE
 rw [show ((2 ^ 11 - 1:Nat):Int)=2047 from rfl] at hbE
 have ho2:(FloatKind.f64.format.order F 0==some .lt)=false:=by
  rw [show FloatKind.f64.format.order F 0=some .gt from order_gt (by omega) (by omega)];rfl
 have hEI:(F:Int) / 4503599627370496=(E:Int):=by omega
 have hE3:(1075:Int)≤(E:Int):=by omega
 have hE4:(E:Int)≤1076:=by omega
 have hk3:ke=1024:=by omega
 have hk4:ke≤1100:=by omega
 have hk5:(1023:Int)<ke:=by omega
 clear hk3
 rw [hF,hX,show X=9218868437227405312 by omega]
 have HF:=Lib.hid hF
 clear hF hE2 hE hf0 hX hkI hk0 hov
 go_enter Tryz.func217,Tryz.ntmps217
 go_wp2_with fail
 refine (HI.out _).mono ?_
 rintro ex w5 ⟨rfl,rfl⟩
 go_wp2_with fail
 refine (HN.out _).mono ?_
 rintro ex w5 ⟨rfl,rfl⟩
 go_wp2_with fail
 refine (HM.out _).mono ?_
 rintro ex w5 ⟨rfl,rfl⟩
 go_wp2_with fail
 refine (Inf_any _).mono ?_
 rintro ex w5 ⟨rfl,rfl⟩
 go_wp2
 go_ret
 exact ⟨rfl,rfl⟩
set_option maxRecDepth 100000 in
theorem Ldexp_any (t:Nat) (h1:4503599627370496≤t) (h2:t≤9007199254740992) (k:Nat) (hk:k≤1023) (w:World) :
  Calls Tryz.prog 206 #[.float .f64 (4836865999795912704+t),.int .i64 ((k:Int) - 52)] w fun e w'=>e = .returned (.float .f64 ((k+1022) * 4503599627370496+t))∧w=w':=by
 have HL:=Lib.hid (show Calls Tryz.prog 217 #[.float .f64 (4836865999795912704+t),.int .i64 ((k:Int) - 52)] w (fun e w'=>e = .returned (.float .f64 ((k+1022) * 4503599627370496+t))∧w=w') from by
  rcases Nat.lt_or_ge ((k+1022) * 4503599627370496+t) 9218868437227405312 with h | h
  ·exact ldexp_ok t h1 h2 k hk h w
  ·exact ldexp_ov t h1 h2 k hk (by omega) w)
 generalize 4836865999795912704+t=F at *
 generalize (k+1022) * 4503599627370496+t=X at *
 generalize (k:Int) - 52=kk at *
 clear h1 h2 hk
 go_enter Tryz.func206,Tryz.ntmps206
 go_wp2_with fail
 refine HL.out.mono ?_
 rintro ex w5 ⟨rfl,rfl⟩
 go_wp2
 go_ret
 exact ⟨rfl,rfl⟩
def TfPost (w:World) (fb:Nat) (co:Int) (e:Ending) (w':World):Prop:=e = .returned (.tuple #[.int .u64 (fb:Int),.int .i64 co])∧Below w.heap.size w w'
theorem tf_start {w:World} {neg:Bool} {B:Nat} {A:Option Addr} {l:List Nat} {n c:Nat} (hs:SlU w B A n c l) (hn:n≤67108864) (hB:B≤w.heap.size) :
  Below w.heap.size w ((w.alloc (.cells #[.bool neg,.slice A n c] 39)).alloc (.cells #[.bool neg,.slice A n c] 39))∧Bx ((w.alloc (.cells #[.bool neg,.slice A n c] 39)).alloc (.cells #[.bool neg,.slice A n c] 39)) w.heap.size (.bool neg) (.slice A n c) ∧
  Calls Tryz.prog 42 #[.slice (some ⟨w.heap.size+1,0,none⟩) 1 1] ((w.alloc (.cells #[.bool neg,.slice A n c] 39)).alloc (.cells #[.bool neg,.slice A n c] 39)) (LongPost (lng l) ((w.alloc (.cells #[.bool neg,.slice A n c] 39)).alloc (.cells #[.bool neg,.slice A n c] 39))):=by
 have hb:Below w.heap.size w ((w.alloc (.cells #[.bool neg,.slice A n c] 39)).alloc (.cells #[.bool neg,.slice A n c] 39)):=((Below.refl _ _).alloc (Nat.le_refl _) _).alloc (by simp) _
 refine ⟨hb,Bx.alloc (Bx.new w (.bool neg) (.slice A n c)) _,?_⟩
 have hf:=(Bx.new (w.alloc (.cells #[.bool neg,.slice A n c] 39)) (.bool neg) (.slice A n c)).facts
 simp only [World.size_alloc] at hf
 exact long1_any (neg:=neg) (hs.below hb hB) (Nat.le_trans hn (by decide)) (Nat.le_trans hB hb.size) hf.1 hf.2.1
theorem run_negF {X:Nat} (h:X<9223372036854775808) (w:World):(Op.unary .neg (.float .f64 X)).run Tryz.prog w = .ok (.float .f64 (X+9223372036854775808)) w:=by
 have e:Op.negFloat .f64 X=X+9223372036854775808:=by
  show X ^^^ 2 ^ 63=X+9223372036854775808
  have h1:=Nat.two_pow_add_eq_or_of_lt (i:=63) (b:=X) h 1
  rw [show X+9223372036854775808=2 ^ 63 * 1+X by omega,h1,Nat.mul_one]
  refine Nat.eq_of_testBit_eq fun i=>?_
  rw [Nat.testBit_xor,Nat.testBit_or,Nat.testBit_two_pow]
  by_cases hi:63=i
  ·subst hi
   rw [Nat.testBit_lt_two_pow h]
   rfl
  ·rw [decide_eq_false hi]
   simp
 rw [←e]
 rfl
theorem fin_sl {w:World} {B c g V:Nat} {A:Option Addr} (h:OwnU w B A 2 c (u32s (digs W V))) (hg:g<B) (hl:(digs W V).length=2) {u v:Value} : SlU ((w.setCell ⟨g,0,none⟩ u).setCell ⟨g,1,none⟩ v) ((w.setCell ⟨g,0,none⟩ u).setCell ⟨g,1,none⟩ v).heap.size A 2 c (digs W V):=
 Own.sl (Own.farB (Own.farB h (p:=⟨g,0,none⟩) hg u) (p:=⟨g,1,none⟩) hg v) (dig_digs (by decide) _) hl
set_option maxRecDepth 100000 in
set_option maxHeartbeats 8000000 in
theorem ToFloat_long (neg:Bool) {B:Nat} {A:Option Addr} {l:List Nat} {n c:Nat} {w:World} (hs:SlU w B A n c l) (hn:n≤67108000) (hB:B≤w.heap.size) (hl:lng l=true) :
  Calls Tryz.prog 164 #[.agg #[.bool neg,.slice A n c]] w (TfPost w 0 10):=by
 have HT:=Lib.hid (tf_start (neg:=neg) hs (by omega) hB)
 rw [hl] at HT
 clear hs hn hB hl
 go_enter Tryz.func164,Tryz.ntmps164
 go_wp2_with fail
 refine (HT.out.2.2).mono ?_
 rintro ex w3 ⟨rfl,hb3⟩
 have H1:=Lib.hid (HT.out.2.1.below hb3 (by simp;omega))
 have H3:=Lib.hid (HT.out.1.trans (hb3.mono HT.out.1.size))
 clear hb3
 obtain ⟨a0,a1,_,_⟩:=H1.out.facts
 go_wp2
 exact bodyPost_ret (v:=.tuple #[.int .u64 0,.int .i64 10]) (by simp [results,Tryz.results164,go_sem]) rfl ⟨rfl,H3.out⟩
set_option maxRecDepth 100000 in
set_option maxHeartbeats 8000000 in
theorem ToFloat_nought (neg:Bool) {B:Nat} {A:Option Addr} {l:List Nat} {n c:Nat} {w:World} (hs:SlU w B A n c l) (hn:n≤67108000) (hB:B≤w.heap.size) (hl:lng l=false) (hbb:blen (nv W l)=0) :
  Calls Tryz.prog 164 #[.agg #[.bool neg,.slice A n c]] w (TfPost w 0 0):=by
 have HT:=Lib.hid (tf_start (neg:=neg) hs (by omega) hB)
 rw [hl] at HT
 obtain ⟨b,hb⟩:∃ b,blen (nv W l)=b:=⟨_,rfl⟩
 have HBt:=Lib.hid (fun w1 (hb9:Below w.heap.size w w1)=>show Calls Tryz.prog 20 #[.agg #[.bool neg,.slice A n c]] w1 (CmpZPost (b:Int) w1) from by
  have h:=bits_any neg (hs.below (C:=w.heap.size) hb9 hB) (by omega) (Nat.le_trans hB hb9.size)
  rw [hb] at h
  exact h)
 rw [hb] at hbb
 subst hbb
 clear hs hn hB hl hb
 go_enter Tryz.func164,Tryz.ntmps164
 go_wp2_with fail
 refine (HT.out.2.2).mono ?_
 rintro ex w3 ⟨rfl,hb3⟩
 have H1:=Lib.hid (HT.out.2.1.below hb3 (by simp;omega))
 have H3:=Lib.hid (HT.out.1.trans (hb3.mono HT.out.1.size))
 clear hb3
 obtain ⟨a0,a1,_,_⟩:=H1.out.facts
 go_wp2_with fail
 refine (HBt.out _ H3.out).mono ?_
 rintro ex w4 ⟨rfl,hb4⟩
 replace H1:=Lib.hid (H1.out.below hb4 (Bx.lt H1.out))
 replace H3:=Lib.hid (H3.out.trans (hb4.mono H3.out.size))
 clear hb4 a0 a1
 obtain ⟨a0,a1,_,_⟩:=H1.out.facts
 go_wp2
 exact bodyPost_ret (v:=.tuple #[.int .u64 0,.int .i64 0]) (by simp [results,Tryz.results164,go_sem]) rfl ⟨rfl,H3.out⟩
set_option maxRecDepth 100000 in
set_option maxHeartbeats 8000000 in
theorem ToFloat_great (neg:Bool) {B:Nat} {A:Option Addr} {l:List Nat} {n c:Nat} {w:World} (hs:SlU w B A n c l) (hn:n≤67108000) (hB:B≤w.heap.size) (hl:lng l=false) (hbb:1024<blen (nv W l)) :
  Calls Tryz.prog 164 #[.agg #[.bool neg,.slice A n c]] w (TfPost w 0 14):=by
 have HT:=Lib.hid (tf_start (neg:=neg) hs (by omega) hB)
 rw [hl] at HT
 obtain ⟨b,hb⟩:∃ b,blen (nv W l)=b:=⟨_,rfl⟩
 have HBt:=Lib.hid (fun w1 (hb9:Below w.heap.size w w1)=>show Calls Tryz.prog 20 #[.agg #[.bool neg,.slice A n c]] w1 (CmpZPost (b:Int) w1) from by
  have h:=bits_any neg (hs.below (C:=w.heap.size) hb9 hB) (by omega) (Nat.le_trans hB hb9.size)
  rw [hb] at h
  exact h)
 rw [hb] at hbb
 have hd1:decide ((1024:Int)<(b:Int))=true:=decide_eq_true (by omega)
 have hd2:((b:Int)==0)=false:=beq_eq_false_iff_ne.2 (by omega)
 clear hs hn hB hl hb hbb
 go_enter Tryz.func164,Tryz.ntmps164
 go_wp2_with fail
 refine (HT.out.2.2).mono ?_
 rintro ex w3 ⟨rfl,hb3⟩
 have H1:=Lib.hid (HT.out.2.1.below hb3 (by simp;omega))
 have H3:=Lib.hid (HT.out.1.trans (hb3.mono HT.out.1.size))
 clear hb3
 obtain ⟨a0,a1,_,_⟩:=H1.out.facts
 go_wp2_with fail
 refine (HBt.out _ H3.out).mono ?_
 rintro ex w4 ⟨rfl,hb4⟩
 replace H1:=Lib.hid (H1.out.below hb4 (Bx.lt H1.out))
 replace H3:=Lib.hid (H3.out.trans (hb4.mono H3.out.size))
 clear hb4 a0 a1
 obtain ⟨a0,a1,_,_⟩:=H1.out.facts
 go_wp2
 exact bodyPost_ret (v:=.tuple #[.int .u64 0,.int .i64 14]) (by simp [results,Tryz.results164,go_sem]) rfl ⟨rfl,H3.out⟩
set_option maxRecDepth 100000 in
set_option maxHeartbeats 8000000 in
theorem ToFloat_main (neg:Bool) {B:Nat} {A:Option Addr} {l:List Nat} {n c:Nat} {w:World} (hs:SlU w B A n c l) (hn:n≤67108000) (hB:B≤w.heap.size) {fb:Nat} {co:Int} (hl:lng l=false) (hbb:0<blen (nv W l)∧blen (nv W l)≤1024) (hfb:(if flBits (nv W l)=9218868437227405312 then 0 else flBits (nv W l)+(if neg then 9223372036854775808 else 0))=fb) (hco:(if flBits (nv W l)=9218868437227405312 then 14 else 0:Int)=co) :
  Calls Tryz.prog 164 #[.agg #[.bool neg,.slice A n c]] w (TfPost w fb co):=by
 have HT:=Lib.hid (tf_start (neg:=neg) hs (by omega) hB)
 rw [hl] at HT
 obtain ⟨b,hb⟩:∃ b,blen (nv W l)=b:=⟨_,rfl⟩
 have HBt:=Lib.hid (fun w1 (hb9:Below w.heap.size w w1)=>show Calls Tryz.prog 20 #[.agg #[.bool neg,.slice A n c]] w1 (CmpZPost (b:Int) w1) from by
  have h:=bits_any neg (hs.below (C:=w.heap.size) hb9 hB) (by omega) (Nat.le_trans hB hb9.size)
  rw [hb] at h
  exact h)
 rw [hb] at hbb
 obtain ⟨a,ha⟩:∃ a,nv W l=a:=⟨_,rfl⟩
 have ha0:a≠0:=by
  rintro rfl
  rw [ha,blen_zero] at hb
  omega
 rw [ha] at hb hfb hco
 have hV:=flV_bounds ha0
 have hTp:=flTop_bounds ha0
 have hbk:=(flBits_le ha0 (by omega)).1
 have HNm:=Lib.hid (fun w1 (hb9:Below w.heap.size w w1)=>And.intro (trim_any (hs.below (C:=w.heap.size) hb9 hB)) (own_any ((hs.tr).below (C:=w.heap.size) hb9 hB) (by have:=tlen_le l;have:=hs.len;omega) (Nat.le_trans hB hb9.size)))
 have HZt:=Lib.hid (show ival false (tr l)=(a:Int) by unfold ival;rw [nv_tr,ha];rfl)
 have HDt:=Lib.hid (hs.dig.tr)
 obtain ⟨V,hVd⟩:∃ V,flV a=V:=⟨_,rfl⟩
 obtain ⟨low,hlow⟩:∃ b,flLow a=b:=⟨_,rfl⟩
 obtain ⟨up,hup⟩:∃ b,flUp a=b:=⟨_,rfl⟩
 obtain ⟨X,hX⟩:∃ X,flBits a=X:=⟨_,rfl⟩
 obtain ⟨mm,hmm⟩:∃ mm:Int,(b:Int) - 54=mm:=⟨_,rfl⟩
 have hd1:decide ((1024:Int)<(b:Int))=false:=decide_eq_false (by omega)
 have hd2:((b:Int)==0)=false:=beq_eq_false_iff_ne.2 (by omega)
 rw [hVd] at hV
 have hbI:(b:Int)≤1024:=by omega
 have hb0:(0:Int)<(b:Int):=by omega
 have HAb:=Lib.hid (And.intro hb hbb)
 have HVd:=Lib.hid hVd
 have HLw:=Lib.hid hlow
 have HUp:=Lib.hid hup
 have HX:=Lib.hid hX
 have HTp:=Lib.hid hTp
 have HFb:=Lib.hid (And.intro hfb (And.intro hco True.intro))
 have HVb:=Lib.hid hV
 have HA0:=Lib.hid ha0
 have HXl:=Lib.hid (show X≤9218868437227405312 by omega)
 have HMM:=Lib.hid hmm
 have HLt:=Lib.hid (tr_length l)
 have HLa:=Lib.hid (show (digs W a).length≤67108000 by
  obtain ⟨K,hK⟩:∃ K:Nat,K=1024:=⟨_,rfl⟩
  have h8:=lt_of_digs_length (b:=2) (n:=a) (k:=K) (by decide) (by unfold blen at hb;omega)
  have h9:=digs_length_le (b:=W) (n:=a) (k:=32) (by decide) (by rw [W_pow_eq,show 32 * 32=K by omega];exact h8)
  omega)
 have HL2:=Lib.hid (show (digs W V).length=2 by
  rw [digs_pos (by decide) (by omega),digs_pos (by decide) (by have:W=4294967296:=rfl;rw [this];omega),show V / W / W=0 by have:W=4294967296:=rfl;rw [this];omega,digs_zero];rfl)
 have HTl:=Lib.hid (show tlen l≤67108000 by have:=tlen_le l;have:=hs.len;omega)
 clear hs hn hB hl hb hbb ha hV hTp hbk hVd hlow hup hX hfb hco ha0
 go_enter Tryz.func164,Tryz.ntmps164
 go_wp2_with fail
 refine (HT.out.2.2).mono ?_
 rintro ex w3 ⟨rfl,hb3⟩
 have H1:=Lib.hid (HT.out.2.1.below hb3 (by simp;omega))
 have H3:=Lib.hid (HT.out.1.trans (hb3.mono HT.out.1.size))
 clear hb3
 obtain ⟨a0,a1,_,_⟩:=H1.out.facts
 go_wp2_with fail
 refine (HBt.out _ H3.out).mono ?_
 rintro ex w4 ⟨rfl,hb4⟩
 replace H1:=Lib.hid (H1.out.below hb4 (Bx.lt H1.out))
 replace H3:=Lib.hid (H3.out.trans (hb4.mono H3.out.size))
 clear hb4 a0 a1
 obtain ⟨a0,a1,_,_⟩:=H1.out.facts
 go_wp2_with fail
 (refine (HNm.out _ H3.out).1.mono ?_)
 rintro ex w5 ⟨rfl,rfl⟩
 go_wp2_with fail
 (with_reducible refine (HNm.out _ H3.out).2.mono ?_)
 rintro ex w5 ⟨A4,n4,c4,rfl,ho4,hl4,hb5⟩
 have H15:=Lib.hid (H1.out.below hb5 (Bx.lt H1.out))
 have H35:=Lib.hid (H3.out.trans (hb5.mono H3.out.size))
 have HO4:=Lib.hid ho4
 have HL4:=Lib.hid hl4
 clear ho4 hl4 hb5 a0 a1
 go_wp2_with fail
 (with_reducible refine (laid_at false HO4.out HL4.out HDt.out HZt.out).mono ?_)
 rintro ex w6 ⟨rfl,ho6,hb6⟩
 have hda:decide ((a:Int)<0)=false:=decide_eq_false (by omega)
 have hna:(a:Int).natAbs=a:=Int.natAbs_natCast a
 rw [hna] at ho6
 have H16:=Lib.hid (H15.out.below hb6 (Bx.lt H15.out))
 have H36:=Lib.hid (H35.out.trans (hb6.mono H35.out.size))
 have HO6:=Lib.hid (Own.alloc ho6 (.cells #[.bool false,.slice A4 (digs W a).length c4] 39))
 have HV6:=Lib.hid (Bx.new w6 (.bool false) (.slice A4 (digs W a).length c4))
 have H17:=Lib.hid (Bx.alloc H16.out (.cells #[.bool false,.slice A4 (digs W a).length c4] 39))
 have H37:=Lib.hid (Below.alloc H36.out H36.out.size (.cells #[.bool false,.slice A4 (digs W a).length c4] 39))
 have hlt6:=Bx.lt H16.out
 have HN6:=Lib.hid (fun g' (e:A4=some ⟨g',0,none⟩)=>show g'<w6.heap.size from (own_block ho6 e).2)
 clear ho6 hb6
 rw [hda,hna]
 clear hda hna
 go_upto_region 10 with fail
 have HV7:=Lib.hid (Bx.lt HV6.out)
 generalize w6.alloc (.cells #[.bool false,.slice A4 (digs W a).length c4] 39)=W5 at *
 have HG5:=Lib.hid (show w.heap.size≤w6.heap.size from H36.out.size)
 generalize w6.heap.size=g5 at *
 obtain ⟨v0,v1,v2,v3⟩:=HV6.out.facts
 go_upto_if 32 with fail
 go_cut [7] (fun s7 wx=>∃ A9 c9,s7 = .bool low∧Bx wx g5 (.bool false) (.slice A9 2 c9)∧SlU wx wx.heap.size A9 2 c9 (digs W V)∧Below g5 W5 wx)
 case first=>
  by_cases hc54:54<b
  ·obtain ⟨m,hm⟩:∃ m,b - 54=m:=⟨_,rfl⟩
   have hm0:0<m:=by omega
   have hmI:mm=(m:Int):=by have:=HMM.out;omega
   subst hmI
   have HVm:=Lib.hid (show a / 2 ^ m=V by have h:=HVd.out;rw [flV,HAb.out.1,if_pos hc54,hm] at h;exact h)
   have HLm:=Lib.hid (show decide (a % 2 ^ m≠0)=low by have h:=HLw.out;rw [flLow,HAb.out.1,decide_eq_true hc54,hm,Bool.true_and] at h;exact h)
   have hmp:decide ((0:Int)<(m:Int))=true:=decide_eq_true (by omega)
   have hm9:(m:Int)≤970:=by omega
   have hm00:(0:Int)<(m:Int):=by omega
   obtain ⟨q,hq⟩:∃ q,m / 32=q:=⟨_,rfl⟩
   obtain ⟨r,hr⟩:∃ r,m % 32=r:=⟨_,rfl⟩
   obtain ⟨p,hp⟩:∃ p,2 ^ r=p:=⟨_,rfl⟩
   have hqI:(m:Int) / 32=(q:Int):=by omega
   have hrI:(m:Int) % 32=(r:Int):=by omega
   have hp32:p<4294967296:=by
    have:2 ^ r<2 ^ 32:=Nat.pow_lt_pow_right (by decide) (by omega)
    omega
   have hpI:(2:Int) ^ r=(p:Int):=by rw [←hp];simp
   have hpM:(p:Int) % 4294967296=(p:Int):=by omega
   have HPW:Hid (IntKind.u32.wrap (p:Int)=(p:Int)):=Lib.hid (wrap_u32 p hp32)
   have hmk:=makeU q (by omega)
   have HQ:=Lib.hid (show q≤maxLen by unfold maxLen;omega)
   have HQ2:=Lib.hid (show q+1≤67108864 by omega)
   have HP:=Lib.hid (And.intro hp32 True.intro)
   obtain ⟨zp,hzp⟩:∃ z:Int,((2 ^ m:Nat):Int)=z:=⟨_,rfl⟩
   have hzd:Dig W (List.replicate q 0 ++ [p]):=by have:=dig_two_pow m;rw [hq,hr,hp] at this;exact this
   have hzv:ival false (List.replicate q 0 ++ [p])=zp:=by
    have:=Hb.nv_two m
    rw [hq,hr,hp] at this
    rw [←hzp];unfold ival;rw [this];rfl
   have HV:=Lib.hid (And.intro hzd hzv)
   have hza:zp.natAbs=2 ^ m:=by rw [←hzp,Int.natAbs_natCast]
   have HPV:=Lib.hid (show nv W (digs W zp.natAbs)=2 ^ m by rw [nv_digs (by decide),hza])
   clear hq hr hp hzp hzd hzv hza hp32 hc54 hm HMM
   go_upto_region 12 with fail
   go_cut [8] (fun s8 wx=>∃ g A2 c2,s8 = .pointer (some ⟨g,0,none⟩)∧Bx wx g (.bool (decide (zp<0))) (.slice A2 (digs W zp.natAbs).length c2)∧OwnU wx W5.heap.size A2 (digs W zp.natAbs).length c2 (u32s (digs W zp.natAbs))∧Below W5.heap.size W5 wx∧W5.heap.size≤g)
   case first=>
    have KK:Below W5.heap.size W5 W5.drew:=(Below.refl _ _).drew
    refine wp_region_wait (fun _=>True) 10 (by kernel_rfl) ?_
    change wpAnyW _ _ _ _ _ _ _ _ _ W5.drew
    have zd:W5.heap.size≤W5.drew.heap.size:=Nat.le_refl _
    generalize W5.drew=u0 at *
    have hqw:IntKind.i64.wrap (q:Int)=(q:Int):=IntWalk.i64_in _ (by omega)
    have hpw:IntKind.u32.wrap (p:Int)=(p:Int):=HPW.out
    have hrt:(m:Int).tmod 32=(r:Int):=by rw [Int.tmod_eq_emod_of_nonneg (by omega)];exact hrI
    refine wpAnyW_take 10 (i:=0) (v:=.int .i64 (m:Int)) rfl (by kernel_rfl) (by kernel_rfl) (by kernel_rfl) (by kernel_rfl) (fun _ _ _ h=>h) (Or.inl ⟨by kernel_rfl,fun w5 hSw=>by go_simp⟩) trivial ?_
    refine wpAnyW_take 10 (i:=1) (v:=.int .i64 (q:Int)) rfl (by kernel_rfl) (by kernel_rfl) (by kernel_rfl) (by kernel_rfl) (fun _ _ _ h=>h) (Or.inl ⟨by kernel_rfl,fun w5 hSw=>by go_simp⟩) trivial ?_
    refine wpAnyW_take 10 (i:=3) (v:=.int .i64 (m:Int)) rfl (by kernel_rfl) (by kernel_rfl) (by kernel_rfl) (by kernel_rfl) (fun _ _ _ h=>h) (Or.inl ⟨by kernel_rfl,fun w5 hSw=>by go_simp⟩) trivial ?_
    refine wpAnyW_take 10 (i:=4) (v:=.int .i64 (r:Int)) rfl (by kernel_rfl) (by kernel_rfl) (by kernel_rfl) (by kernel_rfl) (fun _ _ _ h=>h) (Or.inl ⟨by kernel_rfl,fun w5 hSw=>by go_simp⟩) trivial ?_
    refine wpAnyW_take 10 (i:=5) (v:=.int .u32 (p:Int)) rfl (by kernel_rfl) (by kernel_rfl) (by kernel_rfl) (by kernel_rfl) (fun _ _ _ h=>h) (Or.inl ⟨by kernel_rfl,fun w5 hSw=>by go_simp⟩) trivial ?_
    refine wpAnyW_three (i:=2) (i2:=6) (i3:=9) (by kernel_rfl) rfl rfl rfl (fun K hK=>?_) (fun K hK=>?_) (fun K hK=>?_)
    ·go_simp
     have omk:=own_zeros u0 q (B:=W5.heap.size) KK.size HQ.out
     have zu1:u0.heap.size<(u0.alloc (.cells (madeCells #[.int .u32 0] q) 79)).heap.size:=by simp
     replace KK:=Below.alloc KK KK.size (.cells (madeCells #[.int .u32 0] q) 79)
     refine hK.out _ _ (fun _=>trivial) ?_
     generalize u0.alloc (.cells (madeCells #[.int .u32 0] q) 79)=u1 at *
     generalize u0.heap.size=g2 at *
     refine wpAnyW_two (i:=6) (i2:=9) (by kernel_rfl) rfl rfl (fun K hK=>?_) (fun K hK=>?_)
     ·go_simp
      replace omk:=Own.alloc omk (.cells #[.int .u32 (p:Int)] 79)
      have obs:=own_one u1 p (B:=W5.heap.size) KK.size
      have zu3:u1.heap.size<(u1.alloc (.cells #[.int .u32 (p:Int)] 79)).heap.size:=by simp
      replace KK:=Below.alloc KK KK.size (.cells #[.int .u32 (p:Int)] 79)
      refine hK.out _ _ (fun _=>trivial) ?_
      generalize u1.alloc (.cells #[.int .u32 (p:Int)] 79)=u3 at *
      generalize u1.heap.size=g4 at *
      refine wpAnyW_two (i:=7) (i2:=9) (by kernel_rfl) rfl rfl (fun K hK=>?_) (fun K hK=>?_)
      ·rw [if_pos (by kernel_rfl)]
       have osl:=Own.sl obs (Dig.cons HP.out.1 (Dig.nil _)) rfl
       refine wp_append_far (base:=W5.heap.size) (l0:=List.replicate q 0) (l:=[p]) (A:=some ⟨g4,0,none⟩) (A0:=some ⟨g2,0,none⟩) (n0:=q) (c0:=q) (m:=1) (c:=1) _ _ (by rfl) (by rfl) omk (by rfl) (fun h=>by cases h) osl HQ2.out KK.size ?_
       intro Aap cap u5 oap hbb hff hat
       replace KK:=KK.trans (hbb.mono (Nat.le_refl _))
       clear hbb hff hat omk obs osl
       refine hK.out _ _ (fun _=>trivial) ?_
       refine wpAnyW_two (i:=8) (i2:=9) (by kernel_rfl) rfl rfl (fun K hK=>?_) (fun K hK=>?_)
       ·go_simp
        (with_reducible refine (laid_at false oap (by simp) HV.out.1 HV.out.2).mono ?_)
        rintro ex u6 ⟨rfl,ores,hbb⟩
        replace KK:=KK.trans (hbb.mono KK.size)
        clear hbb oap
        refine hK.out _ _ (fun _=>trivial) ?_
        refine uW 9 fun K hK=>?_
        go_simp
        have hap:∀ g',Aap=some ⟨g',0,none⟩→g'≠u6.heap.size:=fun g' e=>Nat.ne_of_lt (own_block ores e).2
        replace ores:=Own.alloc ores (.cells #[.bool false,.slice none 0 0] 39)
        have bal:=Bx.new u6 (.bool false) (.slice none 0 0)
        have hwal:W5.heap.size≤u6.heap.size:=KK.size
        have zu7:u6.heap.size<(u6.alloc (.cells #[.bool false,.slice none 0 0] 39)).heap.size:=by simp
        replace KK:=Below.alloc KK KK.size (.cells #[.bool false,.slice none 0 0] 39)
        refine hK.out _ _ (fun _=>trivial) ?_
        replace hap:=Lib.hid hap
        generalize u6.alloc (.cells #[.bool false,.slice none 0 0] 39)=u7 at *
        generalize u6.heap.size=g8 at *
        refine uW 10 fun K hK=>?_
        obtain ⟨t0,t1,t2,t3⟩:=bal.facts
        go_simp
        refine hK.out _ _ (fun h=>absurd h (by simp)) ?_
        refine wpAnyW_done (by kernel_rfl) ?_ _
        go_wp2_with fail
        go_meet
        exact ⟨g8,Aap,cap,rfl,Bx.set bal _ _,(ores.far (p:=⟨g8,0,none⟩) hap.out _).far (p:=⟨g8,1,none⟩) hap.out _,(KK.setCell (by simpa using hwal) _).setCell (by simpa using hwal) _,hwal⟩
       ·go_simp
        have hap:∀ g',Aap=some ⟨g',0,none⟩→g'≠u5.heap.size:=fun g' e=>Nat.ne_of_lt (own_block oap e).2
        replace oap:=Own.alloc oap (.cells #[.bool false,.slice none 0 0] 39)
        have bal:=Bx.new u5 (.bool false) (.slice none 0 0)
        have hwal:W5.heap.size≤u5.heap.size:=KK.size
        have zu9:u5.heap.size<(u5.alloc (.cells #[.bool false,.slice none 0 0] 39)).heap.size:=by simp
        replace KK:=Below.alloc KK KK.size (.cells #[.bool false,.slice none 0 0] 39)
        refine hK.out _ _ (fun _=>trivial) ?_
        replace hap:=Lib.hid hap
        generalize u5.alloc (.cells #[.bool false,.slice none 0 0] 39)=u9 at *
        generalize u5.heap.size=g10 at *
        refine uW 8 fun K hK=>?_
        go_simp
        (with_reducible refine (laid_at false oap (by simp) HV.out.1 HV.out.2).mono ?_)
        rintro ex u11 ⟨rfl,ores,hbb⟩
        replace bal:=Bx.below bal hbb (Bx.lt bal)
        replace KK:=KK.trans (hbb.mono KK.size)
        clear hbb oap
        refine hK.out _ _ (fun _=>trivial) ?_
        refine uW 10 fun K hK=>?_
        obtain ⟨t0,t1,t2,t3⟩:=bal.facts
        go_simp
        refine hK.out _ _ (fun h=>absurd h (by simp)) ?_
        refine wpAnyW_done (by kernel_rfl) ?_ _
        go_wp2_with fail
        go_meet
        exact ⟨g10,Aap,cap,rfl,Bx.set bal _ _,(ores.far (p:=⟨g10,0,none⟩) hap.out _).far (p:=⟨g10,1,none⟩) hap.out _,(KK.setCell (by simpa using hwal) _).setCell (by simpa using hwal) _,hwal⟩
      ·go_simp
       replace omk:=Own.alloc omk (.cells #[.bool false,.slice none 0 0] 39)
       replace obs:=Own.alloc obs (.cells #[.bool false,.slice none 0 0] 39)
       have bal:=Bx.new u3 (.bool false) (.slice none 0 0)
       have hwal:W5.heap.size≤u3.heap.size:=KK.size
       have zu12:u3.heap.size<(u3.alloc (.cells #[.bool false,.slice none 0 0] 39)).heap.size:=by simp
       replace KK:=Below.alloc KK KK.size (.cells #[.bool false,.slice none 0 0] 39)
       refine hK.out _ _ (fun _=>trivial) ?_
       generalize u3.alloc (.cells #[.bool false,.slice none 0 0] 39)=u12 at *
       generalize u3.heap.size=g13 at *
       refine uW 7 fun K hK=>?_
       rw [if_pos (by kernel_rfl)]
       have osl:=Own.sl obs (Dig.cons HP.out.1 (Dig.nil _)) rfl
       refine wp_append_far (base:=W5.heap.size) (l0:=List.replicate q 0) (l:=[p]) (A:=some ⟨g4,0,none⟩) (A0:=some ⟨g2,0,none⟩) (n0:=q) (c0:=q) (m:=1) (c:=1) _ _ (by rfl) (by rfl) omk (by rfl) (fun h=>by cases h) osl HQ2.out KK.size ?_
       intro Aap cap u14 oap hbb hff hat
       have ltb:=Bx.lt bal
       have ltm:=(own_block omk rfl).2
       have hne:g13≠g2:=by omega
       have hap:∀ g',Aap=some ⟨g',0,none⟩→g'≠g13:=fun g' e e2=>by
        rcases hat g' e with h | h
        ·injection h with h;injection h with h _ _;exact hne (e2.symm.trans h.symm)
        ·omega
       replace bal:=Bx.same bal (hff g13 ltb (by intro e;injection e with e;injection e with e _ _;exact hne e.symm))
       replace hap:=Lib.hid hap
       clear ltb ltm hne
       replace KK:=KK.trans (hbb.mono (Nat.le_refl _))
       clear hbb hff hat omk obs osl
       refine hK.out _ _ (fun _=>trivial) ?_
       refine uW 8 fun K hK=>?_
       go_simp
       (with_reducible refine (laid_at false oap (by simp) HV.out.1 HV.out.2).mono ?_)
       rintro ex u15 ⟨rfl,ores,hbb⟩
       replace bal:=Bx.below bal hbb (Bx.lt bal)
       replace KK:=KK.trans (hbb.mono KK.size)
       clear hbb oap
       refine hK.out _ _ (fun _=>trivial) ?_
       refine uW 10 fun K hK=>?_
       obtain ⟨t0,t1,t2,t3⟩:=bal.facts
       go_simp
       refine hK.out _ _ (fun h=>absurd h (by simp)) ?_
       refine wpAnyW_done (by kernel_rfl) ?_ _
       go_wp2_with fail
       go_meet
       exact ⟨g13,Aap,cap,rfl,Bx.set bal _ _,(ores.far (p:=⟨g13,0,none⟩) hap.out _).far (p:=⟨g13,1,none⟩) hap.out _,(KK.setCell (by simpa using hwal) _).setCell (by simpa using hwal) _,hwal⟩
     ·go_simp
      replace omk:=Own.alloc omk (.cells #[.bool false,.slice none 0 0] 39)
      have bal:=Bx.new u1 (.bool false) (.slice none 0 0)
      have hwal:W5.heap.size≤u1.heap.size:=KK.size
      have zu16:u1.heap.size<(u1.alloc (.cells #[.bool false,.slice none 0 0] 39)).heap.size:=by simp
      replace KK:=Below.alloc KK KK.size (.cells #[.bool false,.slice none 0 0] 39)
      refine hK.out _ _ (fun _=>trivial) ?_
      generalize u1.alloc (.cells #[.bool false,.slice none 0 0] 39)=u16 at *
      generalize u1.heap.size=g17 at *
      refine uW 6 fun K hK=>?_
      go_simp
      replace omk:=Own.alloc omk (.cells #[.int .u32 (p:Int)] 79)
      replace bal:=Bx.alloc bal (.cells #[.int .u32 (p:Int)] 79)
      have obs:=own_one u16 p (B:=W5.heap.size) KK.size
      have zu18:u16.heap.size<(u16.alloc (.cells #[.int .u32 (p:Int)] 79)).heap.size:=by simp
      replace KK:=Below.alloc KK KK.size (.cells #[.int .u32 (p:Int)] 79)
      refine hK.out _ _ (fun _=>trivial) ?_
      generalize u16.alloc (.cells #[.int .u32 (p:Int)] 79)=u18 at *
      generalize u16.heap.size=g19 at *
      refine uW 7 fun K hK=>?_
      rw [if_pos (by kernel_rfl)]
      have osl:=Own.sl obs (Dig.cons HP.out.1 (Dig.nil _)) rfl
      refine wp_append_far (base:=W5.heap.size) (l0:=List.replicate q 0) (l:=[p]) (A:=some ⟨g19,0,none⟩) (A0:=some ⟨g2,0,none⟩) (n0:=q) (c0:=q) (m:=1) (c:=1) _ _ (by rfl) (by rfl) omk (by rfl) (fun h=>by cases h) osl HQ2.out KK.size ?_
      intro Aap cap u20 oap hbb hff hat
      have ltb:=Bx.lt bal
      have ltm:=(own_block omk rfl).2
      have hne:g17≠g2:=by omega
      have hap:∀ g',Aap=some ⟨g',0,none⟩→g'≠g17:=fun g' e e2=>by
       rcases hat g' e with h | h
       ·injection h with h;injection h with h _ _;exact hne (e2.symm.trans h.symm)
       ·omega
      replace bal:=Bx.same bal (hff g17 ltb (by intro e;injection e with e;injection e with e _ _;exact hne e.symm))
      replace hap:=Lib.hid hap
      clear ltb ltm hne
      replace KK:=KK.trans (hbb.mono (Nat.le_refl _))
      clear hbb hff hat omk obs osl
      refine hK.out _ _ (fun _=>trivial) ?_
      refine uW 8 fun K hK=>?_
      go_simp
      (with_reducible refine (laid_at false oap (by simp) HV.out.1 HV.out.2).mono ?_)
      rintro ex u21 ⟨rfl,ores,hbb⟩
      replace bal:=Bx.below bal hbb (Bx.lt bal)
      replace KK:=KK.trans (hbb.mono KK.size)
      clear hbb oap
      refine hK.out _ _ (fun _=>trivial) ?_
      refine uW 10 fun K hK=>?_
      obtain ⟨t0,t1,t2,t3⟩:=bal.facts
      go_simp
      refine hK.out _ _ (fun h=>absurd h (by simp)) ?_
      refine wpAnyW_done (by kernel_rfl) ?_ _
      go_wp2_with fail
      go_meet
      exact ⟨g17,Aap,cap,rfl,Bx.set bal _ _,(ores.far (p:=⟨g17,0,none⟩) hap.out _).far (p:=⟨g17,1,none⟩) hap.out _,(KK.setCell (by simpa using hwal) _).setCell (by simpa using hwal) _,hwal⟩
    ·go_simp
     have obs:=own_one u0 p (B:=W5.heap.size) KK.size
     have zu22:u0.heap.size<(u0.alloc (.cells #[.int .u32 (p:Int)] 79)).heap.size:=by simp
     replace KK:=Below.alloc KK KK.size (.cells #[.int .u32 (p:Int)] 79)
     refine hK.out _ _ (fun _=>trivial) ?_
     generalize u0.alloc (.cells #[.int .u32 (p:Int)] 79)=u22 at *
     generalize u0.heap.size=g23 at *
     refine wpAnyW_two (i:=2) (i2:=9) (by kernel_rfl) rfl rfl (fun K hK=>?_) (fun K hK=>?_)
     ·go_simp
      replace obs:=Own.alloc obs (.cells (madeCells #[.int .u32 0] q) 79)
      have omk:=own_zeros u22 q (B:=W5.heap.size) KK.size HQ.out
      have zu24:u22.heap.size<(u22.alloc (.cells (madeCells #[.int .u32 0] q) 79)).heap.size:=by simp
      replace KK:=Below.alloc KK KK.size (.cells (madeCells #[.int .u32 0] q) 79)
      refine hK.out _ _ (fun _=>trivial) ?_
      generalize u22.alloc (.cells (madeCells #[.int .u32 0] q) 79)=u24 at *
      generalize u22.heap.size=g25 at *
      refine wpAnyW_two (i:=7) (i2:=9) (by kernel_rfl) rfl rfl (fun K hK=>?_) (fun K hK=>?_)
      ·rw [if_pos (by kernel_rfl)]
       have osl:=Own.sl obs (Dig.cons HP.out.1 (Dig.nil _)) rfl
       refine wp_append_far (base:=W5.heap.size) (l0:=List.replicate q 0) (l:=[p]) (A:=some ⟨g23,0,none⟩) (A0:=some ⟨g25,0,none⟩) (n0:=q) (c0:=q) (m:=1) (c:=1) _ _ (by rfl) (by rfl) omk (by rfl) (fun h=>by cases h) osl HQ2.out KK.size ?_
       intro Aap cap u26 oap hbb hff hat
       replace KK:=KK.trans (hbb.mono (Nat.le_refl _))
       clear hbb hff hat omk obs osl
       refine hK.out _ _ (fun _=>trivial) ?_
       refine wpAnyW_two (i:=8) (i2:=9) (by kernel_rfl) rfl rfl (fun K hK=>?_) (fun K hK=>?_)
       ·go_simp
        (with_reducible refine (laid_at false oap (by simp) HV.out.1 HV.out.2).mono ?_)
        rintro ex u27 ⟨rfl,ores,hbb⟩
        replace KK:=KK.trans (hbb.mono KK.size)
        clear hbb oap
        refine hK.out _ _ (fun _=>trivial) ?_
        refine uW 9 fun K hK=>?_
        go_simp
        have hap:∀ g',Aap=some ⟨g',0,none⟩→g'≠u27.heap.size:=fun g' e=>Nat.ne_of_lt (own_block ores e).2
        replace ores:=Own.alloc ores (.cells #[.bool false,.slice none 0 0] 39)
        have bal:=Bx.new u27 (.bool false) (.slice none 0 0)
        have hwal:W5.heap.size≤u27.heap.size:=KK.size
        have zu28:u27.heap.size<(u27.alloc (.cells #[.bool false,.slice none 0 0] 39)).heap.size:=by simp
        replace KK:=Below.alloc KK KK.size (.cells #[.bool false,.slice none 0 0] 39)
        refine hK.out _ _ (fun _=>trivial) ?_
        replace hap:=Lib.hid hap
        generalize u27.alloc (.cells #[.bool false,.slice none 0 0] 39)=u28 at *
        generalize u27.heap.size=g29 at *
        refine uW 10 fun K hK=>?_
        obtain ⟨t0,t1,t2,t3⟩:=bal.facts
        go_simp
        refine hK.out _ _ (fun h=>absurd h (by simp)) ?_
        refine wpAnyW_done (by kernel_rfl) ?_ _
        go_wp2_with fail
        go_meet
        exact ⟨g29,Aap,cap,rfl,Bx.set bal _ _,(ores.far (p:=⟨g29,0,none⟩) hap.out _).far (p:=⟨g29,1,none⟩) hap.out _,(KK.setCell (by simpa using hwal) _).setCell (by simpa using hwal) _,hwal⟩
       ·go_simp
        have hap:∀ g',Aap=some ⟨g',0,none⟩→g'≠u26.heap.size:=fun g' e=>Nat.ne_of_lt (own_block oap e).2
        replace oap:=Own.alloc oap (.cells #[.bool false,.slice none 0 0] 39)
        have bal:=Bx.new u26 (.bool false) (.slice none 0 0)
        have hwal:W5.heap.size≤u26.heap.size:=KK.size
        have zu30:u26.heap.size<(u26.alloc (.cells #[.bool false,.slice none 0 0] 39)).heap.size:=by simp
        replace KK:=Below.alloc KK KK.size (.cells #[.bool false,.slice none 0 0] 39)
        refine hK.out _ _ (fun _=>trivial) ?_
        replace hap:=Lib.hid hap
        generalize u26.alloc (.cells #[.bool false,.slice none 0 0] 39)=u30 at *
        generalize u26.heap.size=g31 at *
        refine uW 8 fun K hK=>?_
        go_simp
        (with_reducible refine (laid_at false oap (by simp) HV.out.1 HV.out.2).mono ?_)
        rintro ex u32 ⟨rfl,ores,hbb⟩
        replace bal:=Bx.below bal hbb (Bx.lt bal)
        replace KK:=KK.trans (hbb.mono KK.size)
        clear hbb oap
        refine hK.out _ _ (fun _=>trivial) ?_
        refine uW 10 fun K hK=>?_
        obtain ⟨t0,t1,t2,t3⟩:=bal.facts
        go_simp
        refine hK.out _ _ (fun h=>absurd h (by simp)) ?_
        refine wpAnyW_done (by kernel_rfl) ?_ _
        go_wp2_with fail
        go_meet
        exact ⟨g31,Aap,cap,rfl,Bx.set bal _ _,(ores.far (p:=⟨g31,0,none⟩) hap.out _).far (p:=⟨g31,1,none⟩) hap.out _,(KK.setCell (by simpa using hwal) _).setCell (by simpa using hwal) _,hwal⟩
      ·go_simp
       replace obs:=Own.alloc obs (.cells #[.bool false,.slice none 0 0] 39)
       replace omk:=Own.alloc omk (.cells #[.bool false,.slice none 0 0] 39)
       have bal:=Bx.new u24 (.bool false) (.slice none 0 0)
       have hwal:W5.heap.size≤u24.heap.size:=KK.size
       have zu33:u24.heap.size<(u24.alloc (.cells #[.bool false,.slice none 0 0] 39)).heap.size:=by simp
       replace KK:=Below.alloc KK KK.size (.cells #[.bool false,.slice none 0 0] 39)
       refine hK.out _ _ (fun _=>trivial) ?_
       generalize u24.alloc (.cells #[.bool false,.slice none 0 0] 39)=u33 at *
       generalize u24.heap.size=g34 at *
       refine uW 7 fun K hK=>?_
       rw [if_pos (by kernel_rfl)]
       have osl:=Own.sl obs (Dig.cons HP.out.1 (Dig.nil _)) rfl
       refine wp_append_far (base:=W5.heap.size) (l0:=List.replicate q 0) (l:=[p]) (A:=some ⟨g23,0,none⟩) (A0:=some ⟨g25,0,none⟩) (n0:=q) (c0:=q) (m:=1) (c:=1) _ _ (by rfl) (by rfl) omk (by rfl) (fun h=>by cases h) osl HQ2.out KK.size ?_
       intro Aap cap u35 oap hbb hff hat
       have ltb:=Bx.lt bal
       have ltm:=(own_block omk rfl).2
       have hne:g34≠g25:=by omega
       have hap:∀ g',Aap=some ⟨g',0,none⟩→g'≠g34:=fun g' e e2=>by
        rcases hat g' e with h | h
        ·injection h with h;injection h with h _ _;exact hne (e2.symm.trans h.symm)
        ·omega
       replace bal:=Bx.same bal (hff g34 ltb (by intro e;injection e with e;injection e with e _ _;exact hne e.symm))
       replace hap:=Lib.hid hap
       clear ltb ltm hne
       replace KK:=KK.trans (hbb.mono (Nat.le_refl _))
       clear hbb hff hat omk obs osl
       refine hK.out _ _ (fun _=>trivial) ?_
       refine uW 8 fun K hK=>?_
       go_simp
       (with_reducible refine (laid_at false oap (by simp) HV.out.1 HV.out.2).mono ?_)
       rintro ex u36 ⟨rfl,ores,hbb⟩
       replace bal:=Bx.below bal hbb (Bx.lt bal)
       replace KK:=KK.trans (hbb.mono KK.size)
       clear hbb oap
       refine hK.out _ _ (fun _=>trivial) ?_
       refine uW 10 fun K hK=>?_
       obtain ⟨t0,t1,t2,t3⟩:=bal.facts
       go_simp
       refine hK.out _ _ (fun h=>absurd h (by simp)) ?_
       refine wpAnyW_done (by kernel_rfl) ?_ _
       go_wp2_with fail
       go_meet
       exact ⟨g34,Aap,cap,rfl,Bx.set bal _ _,(ores.far (p:=⟨g34,0,none⟩) hap.out _).far (p:=⟨g34,1,none⟩) hap.out _,(KK.setCell (by simpa using hwal) _).setCell (by simpa using hwal) _,hwal⟩
     ·go_simp
      replace obs:=Own.alloc obs (.cells #[.bool false,.slice none 0 0] 39)
      have bal:=Bx.new u22 (.bool false) (.slice none 0 0)
      have hwal:W5.heap.size≤u22.heap.size:=KK.size
      have zu37:u22.heap.size<(u22.alloc (.cells #[.bool false,.slice none 0 0] 39)).heap.size:=by simp
      replace KK:=Below.alloc KK KK.size (.cells #[.bool false,.slice none 0 0] 39)
      refine hK.out _ _ (fun _=>trivial) ?_
      generalize u22.alloc (.cells #[.bool false,.slice none 0 0] 39)=u37 at *
      generalize u22.heap.size=g38 at *
      refine uW 2 fun K hK=>?_
      go_simp
      replace obs:=Own.alloc obs (.cells (madeCells #[.int .u32 0] q) 79)
      replace bal:=Bx.alloc bal (.cells (madeCells #[.int .u32 0] q) 79)
      have omk:=own_zeros u37 q (B:=W5.heap.size) KK.size HQ.out
      have zu39:u37.heap.size<(u37.alloc (.cells (madeCells #[.int .u32 0] q) 79)).heap.size:=by simp
      replace KK:=Below.alloc KK KK.size (.cells (madeCells #[.int .u32 0] q) 79)
      refine hK.out _ _ (fun _=>trivial) ?_
      generalize u37.alloc (.cells (madeCells #[.int .u32 0] q) 79)=u39 at *
      generalize u37.heap.size=g40 at *
      refine uW 7 fun K hK=>?_
      rw [if_pos (by kernel_rfl)]
      have osl:=Own.sl obs (Dig.cons HP.out.1 (Dig.nil _)) rfl
      refine wp_append_far (base:=W5.heap.size) (l0:=List.replicate q 0) (l:=[p]) (A:=some ⟨g23,0,none⟩) (A0:=some ⟨g40,0,none⟩) (n0:=q) (c0:=q) (m:=1) (c:=1) _ _ (by rfl) (by rfl) omk (by rfl) (fun h=>by cases h) osl HQ2.out KK.size ?_
      intro Aap cap u41 oap hbb hff hat
      have ltb:=Bx.lt bal
      have ltm:=(own_block omk rfl).2
      have hne:g38≠g40:=by omega
      have hap:∀ g',Aap=some ⟨g',0,none⟩→g'≠g38:=fun g' e e2=>by
       rcases hat g' e with h | h
       ·injection h with h;injection h with h _ _;exact hne (e2.symm.trans h.symm)
       ·omega
      replace bal:=Bx.same bal (hff g38 ltb (by intro e;injection e with e;injection e with e _ _;exact hne e.symm))
      replace hap:=Lib.hid hap
      clear ltb ltm hne
      replace KK:=KK.trans (hbb.mono (Nat.le_refl _))
      clear hbb hff hat omk obs osl
      refine hK.out _ _ (fun _=>trivial) ?_
      refine uW 8 fun K hK=>?_
      go_simp
      (with_reducible refine (laid_at false oap (by simp) HV.out.1 HV.out.2).mono ?_)
      rintro ex u42 ⟨rfl,ores,hbb⟩
      replace bal:=Bx.below bal hbb (Bx.lt bal)
      replace KK:=KK.trans (hbb.mono KK.size)
      clear hbb oap
      refine hK.out _ _ (fun _=>trivial) ?_
      refine uW 10 fun K hK=>?_
      obtain ⟨t0,t1,t2,t3⟩:=bal.facts
      go_simp
      refine hK.out _ _ (fun h=>absurd h (by simp)) ?_
      refine wpAnyW_done (by kernel_rfl) ?_ _
      go_wp2_with fail
      go_meet
      exact ⟨g38,Aap,cap,rfl,Bx.set bal _ _,(ores.far (p:=⟨g38,0,none⟩) hap.out _).far (p:=⟨g38,1,none⟩) hap.out _,(KK.setCell (by simpa using hwal) _).setCell (by simpa using hwal) _,hwal⟩
    ·go_simp
     have bal:=Bx.new u0 (.bool false) (.slice none 0 0)
     have hwal:W5.heap.size≤u0.heap.size:=KK.size
     have zu43:u0.heap.size<(u0.alloc (.cells #[.bool false,.slice none 0 0] 39)).heap.size:=by simp
     replace KK:=Below.alloc KK KK.size (.cells #[.bool false,.slice none 0 0] 39)
     refine hK.out _ _ (fun _=>trivial) ?_
     generalize u0.alloc (.cells #[.bool false,.slice none 0 0] 39)=u43 at *
     generalize u0.heap.size=g44 at *
     refine wpAnyW_two (i:=2) (i2:=6) (by kernel_rfl) rfl rfl (fun K hK=>?_) (fun K hK=>?_)
     ·go_simp
      replace bal:=Bx.alloc bal (.cells (madeCells #[.int .u32 0] q) 79)
      have omk:=own_zeros u43 q (B:=W5.heap.size) KK.size HQ.out
      have zu45:u43.heap.size<(u43.alloc (.cells (madeCells #[.int .u32 0] q) 79)).heap.size:=by simp
      replace KK:=Below.alloc KK KK.size (.cells (madeCells #[.int .u32 0] q) 79)
      refine hK.out _ _ (fun _=>trivial) ?_
      generalize u43.alloc (.cells (madeCells #[.int .u32 0] q) 79)=u45 at *
      generalize u43.heap.size=g46 at *
      refine uW 6 fun K hK=>?_
      go_simp
      replace bal:=Bx.alloc bal (.cells #[.int .u32 (p:Int)] 79)
      replace omk:=Own.alloc omk (.cells #[.int .u32 (p:Int)] 79)
      have obs:=own_one u45 p (B:=W5.heap.size) KK.size
      have zu47:u45.heap.size<(u45.alloc (.cells #[.int .u32 (p:Int)] 79)).heap.size:=by simp
      replace KK:=Below.alloc KK KK.size (.cells #[.int .u32 (p:Int)] 79)
      refine hK.out _ _ (fun _=>trivial) ?_
      generalize u45.alloc (.cells #[.int .u32 (p:Int)] 79)=u47 at *
      generalize u45.heap.size=g48 at *
      refine uW 7 fun K hK=>?_
      rw [if_pos (by kernel_rfl)]
      have osl:=Own.sl obs (Dig.cons HP.out.1 (Dig.nil _)) rfl
      refine wp_append_far (base:=W5.heap.size) (l0:=List.replicate q 0) (l:=[p]) (A:=some ⟨g48,0,none⟩) (A0:=some ⟨g46,0,none⟩) (n0:=q) (c0:=q) (m:=1) (c:=1) _ _ (by rfl) (by rfl) omk (by rfl) (fun h=>by cases h) osl HQ2.out KK.size ?_
      intro Aap cap u49 oap hbb hff hat
      have ltb:=Bx.lt bal
      have ltm:=(own_block omk rfl).2
      have hne:g44≠g46:=by omega
      have hap:∀ g',Aap=some ⟨g',0,none⟩→g'≠g44:=fun g' e e2=>by
       rcases hat g' e with h | h
       ·injection h with h;injection h with h _ _;exact hne (e2.symm.trans h.symm)
       ·omega
      replace bal:=Bx.same bal (hff g44 ltb (by intro e;injection e with e;injection e with e _ _;exact hne e.symm))
      replace hap:=Lib.hid hap
      clear ltb ltm hne
      replace KK:=KK.trans (hbb.mono (Nat.le_refl _))
      clear hbb hff hat omk obs osl
      refine hK.out _ _ (fun _=>trivial) ?_
      refine uW 8 fun K hK=>?_
      go_simp
      (with_reducible refine (laid_at false oap (by simp) HV.out.1 HV.out.2).mono ?_)
      rintro ex u50 ⟨rfl,ores,hbb⟩
      replace bal:=Bx.below bal hbb (Bx.lt bal)
      replace KK:=KK.trans (hbb.mono KK.size)
      clear hbb oap
      refine hK.out _ _ (fun _=>trivial) ?_
      refine uW 10 fun K hK=>?_
      obtain ⟨t0,t1,t2,t3⟩:=bal.facts
      go_simp
      refine hK.out _ _ (fun h=>absurd h (by simp)) ?_
      refine wpAnyW_done (by kernel_rfl) ?_ _
      go_wp2_with fail
      go_meet
      exact ⟨g44,Aap,cap,rfl,Bx.set bal _ _,(ores.far (p:=⟨g44,0,none⟩) hap.out _).far (p:=⟨g44,1,none⟩) hap.out _,(KK.setCell (by simpa using hwal) _).setCell (by simpa using hwal) _,hwal⟩
     ·go_simp
      replace bal:=Bx.alloc bal (.cells #[.int .u32 (p:Int)] 79)
      have obs:=own_one u43 p (B:=W5.heap.size) KK.size
      have zu51:u43.heap.size<(u43.alloc (.cells #[.int .u32 (p:Int)] 79)).heap.size:=by simp
      replace KK:=Below.alloc KK KK.size (.cells #[.int .u32 (p:Int)] 79)
      refine hK.out _ _ (fun _=>trivial) ?_
      generalize u43.alloc (.cells #[.int .u32 (p:Int)] 79)=u51 at *
      generalize u43.heap.size=g52 at *
      refine uW 2 fun K hK=>?_
      go_simp
      replace bal:=Bx.alloc bal (.cells (madeCells #[.int .u32 0] q) 79)
      replace obs:=Own.alloc obs (.cells (madeCells #[.int .u32 0] q) 79)
      have omk:=own_zeros u51 q (B:=W5.heap.size) KK.size HQ.out
      have zu53:u51.heap.size<(u51.alloc (.cells (madeCells #[.int .u32 0] q) 79)).heap.size:=by simp
      replace KK:=Below.alloc KK KK.size (.cells (madeCells #[.int .u32 0] q) 79)
      refine hK.out _ _ (fun _=>trivial) ?_
      generalize u51.alloc (.cells (madeCells #[.int .u32 0] q) 79)=u53 at *
      generalize u51.heap.size=g54 at *
      refine uW 7 fun K hK=>?_
      rw [if_pos (by kernel_rfl)]
      have osl:=Own.sl obs (Dig.cons HP.out.1 (Dig.nil _)) rfl
      refine wp_append_far (base:=W5.heap.size) (l0:=List.replicate q 0) (l:=[p]) (A:=some ⟨g52,0,none⟩) (A0:=some ⟨g54,0,none⟩) (n0:=q) (c0:=q) (m:=1) (c:=1) _ _ (by rfl) (by rfl) omk (by rfl) (fun h=>by cases h) osl HQ2.out KK.size ?_
      intro Aap cap u55 oap hbb hff hat
      have ltb:=Bx.lt bal
      have ltm:=(own_block omk rfl).2
      have hne:g44≠g54:=by omega
      have hap:∀ g',Aap=some ⟨g',0,none⟩→g'≠g44:=fun g' e e2=>by
       rcases hat g' e with h | h
       ·injection h with h;injection h with h _ _;exact hne (e2.symm.trans h.symm)
       ·omega
      replace bal:=Bx.same bal (hff g44 ltb (by intro e;injection e with e;injection e with e _ _;exact hne e.symm))
      replace hap:=Lib.hid hap
      clear ltb ltm hne
      replace KK:=KK.trans (hbb.mono (Nat.le_refl _))
      clear hbb hff hat omk obs osl
      refine hK.out _ _ (fun _=>trivial) ?_
      refine uW 8 fun K hK=>?_
      go_simp
      (with_reducible refine (laid_at false oap (by simp) HV.out.1 HV.out.2).mono ?_)
      rintro ex u56 ⟨rfl,ores,hbb⟩
      replace bal:=Bx.below bal hbb (Bx.lt bal)
      replace KK:=KK.trans (hbb.mono KK.size)
      clear hbb oap
      refine hK.out _ _ (fun _=>trivial) ?_
      refine uW 10 fun K hK=>?_
      obtain ⟨t0,t1,t2,t3⟩:=bal.facts
      go_simp
      refine hK.out _ _ (fun h=>absurd h (by simp)) ?_
      refine wpAnyW_done (by kernel_rfl) ?_ _
      go_wp2_with fail
      go_meet
      exact ⟨g44,Aap,cap,rfl,Bx.set bal _ _,(ores.far (p:=⟨g44,0,none⟩) hap.out _).far (p:=⟨g44,1,none⟩) hap.out _,(KK.setCell (by simpa using hwal) _).setCell (by simpa using hwal) _,hwal⟩
   obtain ⟨g8,A2,c2,rfl,hgx,hgo,hgb,hgw⟩:=hcut
   have hzc:=hgb.size
   have HVc:=Lib.hid (HV6.out.below hgb HV7.out)
   have HOc:=Lib.hid (HO6.out.below hgb (Nat.le_refl _))
   have HBc:=Lib.hid (hgb.mono (Nat.le_of_lt HV7.out))
   have HO:=Lib.hid (Own.int hgo)
   obtain ⟨v0,v1,v2,v3⟩:=HVc.out.facts
   obtain ⟨b0,b1,_,_⟩:=hgx.facts
   have hgc:g5<wc.heap.size:=Nat.lt_of_lt_of_le HV7.out hzc
   clear hgb hgx hgo hqI hrI hpI hpM hmk HQ HQ2 HP HV
   go_wp2_with fail
   (with_reducible refine (divide_any (Own.sl HOc.out (dig_digs (by decide) _) rfl) HO.out (by have:=HLa.out;omega) (Nat.le_refl _) (Nat.le_refl _) (by rw [HPV.out];exact Nat.ne_of_gt (Nat.two_pow_pos m))).mono ?_)
   rintro ex w6 ⟨A3,A5,n3,c3,n5,c5,o1,o2,rfl,hq1,hq2,hq3,hq4,hq5,hr1,hr2,hr3,hr4,hr5,-,hb6⟩
   rw [HPV.out,nv_digs (by decide)] at hq4 hr4
   rw [HVm.out] at hq4
   have hz6:=hb6.size
   have HZ1:=Lib.hid (show ival false o1=(V:Int) by unfold ival;rw [hq4];rfl)
   have HQ1:=Lib.hid (And.intro hq2 hq3)
   have HQo:=Lib.hid hq1
   have HR:=Lib.hid (Own.sl hr1 hr3 hr2)
   have HT2:=Lib.hid (show decide (0<tlen o2)=low by
    rw [←HLm.out,←hr4]
    refine decide_eq_decide.2 ?_
    have:=tlen_zero_iff (b:=W) (by decide) o2
    omega)
   have HVd6:=Lib.hid (HVc.out.below hb6 hgc)
   have HBd:=Lib.hid (HBc.out.trans (hb6.mono (Nat.le_of_lt hgc)))
   clear hq1 hq2 hq3 hq4 hq5 hr1 hr2 hr3 hr4 hr5 hb6 v0 v1 v2 v3 b0 b1
   obtain ⟨v0,v1,v2,v3⟩:=HVd6.out.facts
   go_wp2_with fail
   (with_reducible refine (laid_at false HQo.out HQ1.out.1 HQ1.out.2 HZ1.out).mono ?_)
   rintro ex w7 ⟨rfl,ho7,hb7⟩
   rw [decide_eq_false (show ¬(V:Int)<0 by omega),Int.natAbs_natCast,HL2.out]
   rw [Int.natAbs_natCast,HL2.out] at ho7
   have hz7:=hb7.size
   have HO7:=Lib.hid ho7
   have HT3:=Lib.hid (trim_any (SlU.to HR.out hb7 (Nat.le_refl _)))
   have HVe:=Lib.hid (HVd6.out.below hb7 (by omega))
   have HBe:=Lib.hid (HBd.out.trans (hb7.mono (by omega)))
   have hlo9:=HT2.out
   have hlo8:decide ((0:Int)<(tlen o2:Int))=low:=by rw [←hlo9];exact decide_eq_decide.2 (by omega)
   clear ho7 hb7 v0 v1 v2 v3
   obtain ⟨v0,v1,v2,v3⟩:=HVe.out.facts
   go_wp2_with fail
   refine (HT3.out).mono ?_
   rintro ex w8 ⟨rfl,rfl⟩
   go_wp2_with fail
   go_meet
   refine ⟨A3,c3,rfl,Bx.set HVe.out _ _,?_,(HBe.out.setCell (Nat.le_refl _) _).setCell (Nat.le_refl _) _⟩
   exact fin_sl HO7.out (by omega) HL2.out
  ·have hm0:¬(0:Int)<mm:=by have:=HMM.out;omega
   have hmd:decide ((0:Int)<mm)=false:=decide_eq_false hm0
   obtain ⟨k,hk⟩:∃ k:Nat,54 - b=k:=⟨_,rfl⟩
   have hmI : -mm=(k:Int):=by have:=HMM.out;omega
   have hmb : -54≤mm:=by have:=HMM.out;omega
   have hmb2:mm≤0:=by omega
   have HVm:=Lib.hid (show a * 2 ^ k=V by have h:=HVd.out;rw [flV,HAb.out.1,if_neg hc54,hk] at h;exact h)
   have hlow0:low=false:=by have h:=HLw.out;rw [flLow,HAb.out.1,decide_eq_false hc54,Bool.false_and] at h;exact h.symm
   subst hlow0
   have HSh:=Lib.hid (Shift_z (na:=false) (k:=(k:Int)) (x:=(a:Int)) (z:=(V:Int)) (Own.sl HO6.out (dig_digs (by decide) _) rfl) (by have h9:=digs_length_le (b:=W) (n:=a) (k:=2) (by decide) (Nat.lt_of_lt_of_le (lt_of_digs_length (b:=2) (k:=54) (by decide) (show (digs 2 a).length≤54 by have:=HAb.out.1;unfold blen at this;omega)) (by decide));omega) (by unfold ival;rw [nv_digs (by decide)];rfl) (by omega) (by rw [shZ_up,←HVm.out,Int.natCast_mul,two_pow_cast]) (by rw [tooLong,Int.natAbs_natCast,HAb.out.1];exact decide_eq_false (by omega)) (by rw [tooLong,Int.natAbs_natCast];exact decide_eq_false (by have:=blen_le_iff.2 (show V<2 ^ 54 from HVb.out.2);omega)))
   clear HMM hc54 hk hm0
   go_wp2_with fail
   (with_reducible refine HSh.out.mono ?_)
   rintro ex w7 ⟨v,rfl,⟨A7,c7,rfl,ho7⟩,hb7⟩
   rw [decide_eq_false (show ¬(V:Int)<0 by omega),Int.natAbs_natCast,HL2.out]
   rw [Int.natAbs_natCast,HL2.out] at ho7
   have HVe:=Lib.hid (HV6.out.below hb7 HV7.out)
   have HBe:=Lib.hid (hb7.mono (Nat.le_of_lt HV7.out))
   have HO7:=Lib.hid ho7
   clear ho7 hb7 v0 v1 v2 v3
   obtain ⟨v0,v1,v2,v3⟩:=HVe.out.facts
   go_wp2_with fail
   go_meet
   refine ⟨A7,c7,rfl,Bx.set HVe.out _ _,?_,(HBe.out.setCell (Nat.le_refl _) _).setCell (Nat.le_refl _) _⟩
   exact fin_sl HO7.out HV7.out HL2.out
 obtain ⟨A9,c9,rfl,hb9,hs9,hbw9⟩:=hcut
 obtain ⟨V0,hV0⟩:∃ v,V % 4294967296=v:=⟨_,rfl⟩
 obtain ⟨V1,hV1⟩:∃ v,V / 4294967296=v:=⟨_,rfl⟩
 have hVlt:=HVb.out.2
 have hVge:=HVb.out.1
 have hdg:digs W V = [V0,V1]:=by
  have hW:W=4294967296:=rfl
  rw [digs_pos (by decide) (by omega),digs_pos (by decide) (by rw [hW];omega),show V / W / W=0 by rw [hW];omega,digs_zero,show V % W=V0 from hV0,show V / W % W=V1 by rw [hW];omega]
 rw [hdg] at hs9
 obtain ⟨gA,oA,rfl,_,hcA⟩:=SlU.at_ hs9 (by decide)
 have hc0:wc.cell? ⟨gA,oA,none⟩=some (.int .u32 (V0:Int)):=hcA 0 (by decide)
 have hc1:wc.cell? ⟨gA,oA+1,none⟩=some (.int .u32 (V1:Int)):=hcA 1 (by decide)
 have hcap:=hs9.cap
 obtain ⟨v0,v1,_,_⟩:=hb9.facts
 have hx9:=H17.out.below hbw9 hlt6
 obtain ⟨a0,a1,_,_⟩:=hx9.facts
 have HB9:=Lib.hid (H37.out.trans (hbw9.mono HG5.out))
 have hor:bits .or .u64 (V0:Int) ((V1:Int) * 4294967296)=(V:Int):=by
  have h:=bits_or_u64 V0 (V1 * 4294967296) (by omega) (by omega)
  rw [show V1 * 4294967296=V1 * 2 ^ 32 from rfl,or_high V1 (show V0<2 ^ 32 by omega)] at h
  rw [show (V1:Int) * 4294967296=((V1 * 2 ^ 32:Nat):Int) by rw [Int.natCast_mul];rfl,h]
  congr 1
  omega
 obtain ⟨h0,hh0⟩:∃ h,V % 2=h:=⟨_,rfl⟩
 obtain ⟨d0,hd0⟩:∃ h,V / 2=h:=⟨_,rfl⟩
 obtain ⟨e0,he0⟩:∃ h,d0 % 2=h:=⟨_,rfl⟩
 have hba:bits .and .u64 (V:Int) 1=(h0:Int):=by
  have h:=bits_and_u64 V (2 ^ 1 - 1) (by omega) (by decide)
  rw [and_low,show V % 2 ^ 1=h0 from hh0] at h
  exact h
 have hbd:bits .and .u64 (d0:Int) 1=(e0:Int):=by
  have h:=bits_and_u64 d0 (2 ^ 1 - 1) (by omega) (by decide)
  rw [and_low,show d0 % 2 ^ 1=e0 from he0] at h
  exact h
 have hVd2:(V:Int) / 2=(d0:Int):=by omega
 have hV0I:(V0:Int)<4294967296:=by omega
 have hV1I:(V1:Int)<4194304:=by omega
 have hV0J:(0:Int)≤(V0:Int):=by omega
 have hV1J:(0:Int)≤(V1:Int):=by omega
 have hVI:(V:Int)<18014398509481984:=by omega
 have hVJ:(0:Int)≤(V:Int):=by omega
 have hd0I:(d0:Int)≤9007199254740991:=by omega
 have hd0J:(0:Int)≤(d0:Int):=by omega
 have HHH:=Lib.hid (And.intro hh0 (And.intro hd0 he0))
 clear hs9 hcA hdg hb9 hbw9 hx9 hV0 hV1 hVlt hVge hh0 hd0 he0
 obtain ⟨p1,hp1⟩:∃ p:Bool,((h0:Int)==1)=p:=⟨_,rfl⟩
 obtain ⟨p2,hp2⟩:∃ p:Bool,((e0:Int)==1)=p:=⟨_,rfl⟩
 have HUP:=Lib.hid (show up=(p1 && (low || p2)) by
  rw [←HUp.out,flUp,HVd.out,HLw.out,←hp1,←hp2,HHH.out.1,HHH.out.2.1,HHH.out.2.2]
  have x1:((h0:Int)==1)=decide (h0=1):=by rw [Bool.eq_iff_iff];simp;omega
  have x2:((e0:Int)==1)=decide (e0=1):=by rw [Bool.eq_iff_iff];simp;omega
  rw [x1,x2])
 obtain ⟨t,ht⟩:∃ t,flTop a=t:=⟨_,rfl⟩
 have HTt:=Lib.hid (show d0+up.toNat=t by rw [←ht,flTop,HVd.out,HUp.out,HHH.out.2.1])
 have htb:=HTp.out
 rw [ht] at htb
 have HBX:=Lib.hid (show (b+1021) * 4503599627370496+t=X by have h:=HX.out;rw [flBits,HAb.out.1,ht] at h;exact h)
 clear ht
 obtain ⟨wq,hwq⟩:∃ q:World,q=wc:=⟨_,rfl⟩
 subst hwq
 go_wp2
 go_quiet (fail)
 go_upto_region 19 with fail
 go_cut [90] (fun s90 wx=>s90 = .bool up∧Dr wq wx)
 case first=>
  cases p1 <;> cases low <;> cases p2
  all_goals
   go_wp2_with fail
   go_meet
   exact ⟨by rw [HUP.out];rfl,⟨_,rfl⟩⟩
 obtain ⟨rfl,hwd⟩:=hcut
 have HWD:=Lib.hid hwd
 clear hwd hp1 hp2
 go_upto_if 90 with fail
 go_cut [11] (fun s11 wx=>s11 = .int .u64 (t:Int)∧Dr wq wx)
 case first=>
  cases up
  ·have h1:(t:Int)=(d0:Int):=by have:=HTt.out;simp at this;omega
   have H1t:=Lib.hid h1
   clear h1
   go_wp2_with fail
   go_meet
   exact ⟨by rw [H1t.out],HWD.out⟩
  ·have h1:(t:Int)=(d0:Int)+1:=by have:=HTt.out;simp at this;omega
   have H1t:=Lib.hid h1
   clear h1
   go_wp2_with fail
   go_meet
   exact ⟨by rw [H1t.out],HWD.out⟩
 obtain ⟨rfl,hwd2⟩:=hcut
 have HDr:=Lib.hid hwd2
 have a2:=(hwd2.cell _).trans a0
 have HB10:=Lib.hid (HB9.out.trans (hwd2.below w.heap.size))
 clear hwd2 HWD a0 a1 v0 v1 hc0 hc1 hor hba hbd hVd2 hV0I hV1I hV0J hV1J hVI hVJ hd0I hd0J
 obtain ⟨k,hk⟩:∃ k,b - 1=k:=⟨_,rfl⟩
 obtain ⟨kk,hkk⟩:∃ kk:Int,(b:Int) - 53=kk:=⟨_,rfl⟩
 have hfl:floatOfInt FloatKind.f64 (t:Int)=4836865999795912704+t:=float_of_top htb.1 htb.2
 obtain ⟨F,hF⟩:∃ F,4836865999795912704+t=F:=⟨_,rfl⟩
 rw [hF] at hfl
 have HLd:=Lib.hid (fun w1=>show Calls Tryz.prog 206 #[.float .f64 F,.int .i64 kk] w1 (fun e w'=>e = .returned (.float .f64 X)∧w1=w') from by
  have h:=Ldexp_any t htb.1 htb.2 k (by omega) w1
  rw [hF,show (k:Int) - 52=kk by omega,show k+1022=b+1021 by omega,HBX.out] at h
  exact h)
 obtain ⟨iv,hiv⟩:∃ iv:Bool,decide (X=9218868437227405312)=iv:=⟨_,rfl⟩
 have HIv:=Lib.hid hiv
 have HIs:=Lib.hid (fun w1=>IsInf_any X HXl.out hiv w1)
 have HXp:=Lib.hid (show 4503599627370496≤X by have h:=HBX.out;omega)
 clear hk htb hF hiv HTt
 go_wp2_with fail
 (with_reducible refine (HLd.out _).mono ?_)
 rintro ex w5 ⟨rfl,rfl⟩
 go_wp2_with fail
 (with_reducible refine (HIs.out _).mono ?_)
 rintro ex w5 ⟨rfl,rfl⟩
 have HFX:=Lib.hid (show (if X=9218868437227405312 then 0 else X+(if neg then 9223372036854775808 else 0))=fb∧(if X=9218868437227405312 then 14 else 0:Int)=co by
  have h1:=HFb.out.1
  have h2:=HFb.out.2.1
  rw [HX.out] at h1 h2
  exact ⟨h1,h2⟩)
 cases iv
 ·have hx9:¬X=9218868437227405312:=of_decide_eq_false HIv.out
  cases neg
  ·have HR:=Lib.hid (show X=fb∧0=co by have h:=HFX.out;rw [if_neg hx9,if_neg hx9,if_neg (by simp)] at h;exact h)
   have hbt:=run_bits X
   clear hx9
   go_wp2_with fail
   exact bodyPost_ret (v:=.tuple #[.int .u64 (X:Int),.int .i64 0]) (by simp [results,Tryz.results164,go_sem]) rfl ⟨by rw [←HR.out.1,←HR.out.2],HB10.out⟩
  ·have HR:=Lib.hid (show X+9223372036854775808=fb∧0=co by have h:=HFX.out;rw [if_neg hx9,if_neg hx9,if_pos rfl] at h;exact h)
   have hbt:=run_bits (X+9223372036854775808)
   have hng:=run_negF (X:=X) (by have:=HXl.out;omega)
   clear hx9
   go_wp2_with fail
   exact bodyPost_ret (v:=.tuple #[.int .u64 ((X+9223372036854775808:Nat):Int),.int .i64 0]) (by simp [results,Tryz.results164,go_sem]) rfl ⟨by rw [←HR.out.1,←HR.out.2],HB10.out⟩
 ·have hx9:X=9218868437227405312:=of_decide_eq_true HIv.out
  have HR:=Lib.hid (show 0=fb∧14=co by have h:=HFX.out;rw [if_pos hx9,if_pos hx9] at h;exact h)
  clear hx9
  go_wp2_with fail
  exact bodyPost_ret (v:=.tuple #[.int .u64 0,.int .i64 14]) (by simp [results,Tryz.results164,go_sem]) rfl ⟨by rw [←HR.out.1,←HR.out.2];rfl,HB10.out⟩
def OfPost (w:World) (e:Ending) (w':World) (k:Int):Prop:=e = .returned (.tuple #[zeroV,.int .i64 k])∧Below w.heap.size w w'
set_option maxRecDepth 100000 in
set_option maxHeartbeats 8000000 in
theorem OfFloat_nought (f:Nat) (hf:f<18446744073709551616) {w:World} {ex:Nat} (he:f / 4503599627370496 % 2048=ex) (hx:ex<1012) :
  Calls Tryz.prog 65 #[.int .u64 (f:Int)] w (fun e w'=>OfPost w e w' 0):=by
 obtain ⟨q,hq⟩:∃ q,f / 4503599627370496=q:=⟨_,rfl⟩
 have hq1:q<4096:=by omega
 have hqI:(f:Int) / 4503599627370496=(q:Int):=by omega
 obtain ⟨E,hE⟩:∃ E:Int,(ex:Int)=E:=⟨_,rfl⟩
 have hba:bits .and .u64 (q:Int) 2047=E:=by
  rw [←hE]
  have h:=bits_and_u64 q (2 ^ 11 - 1) (by omega) (by decide)
  rw [and_low,show q % 2 ^ 11=ex by rw [←hq];exact he] at h
  exact h
 have hf0:(0:Int)≤(f:Int):=by omega
 have hq1I:(q:Int)<4096:=by omega
 have hxI:E<1012:=by omega
 have hx0:(0:Int)≤E:=by omega
 have d1:(E==2047)=false:=beq_eq_false_iff_ne.2 (by omega)
 have d3:decide (E - 1075 < -63)=true:=decide_eq_true (by omega)
 obtain ⟨b2,d2⟩:∃ b,decide (0<E)=b:=⟨_,rfl⟩
 clear he hq hf hx hE
 cases b2
 all_goals
  go_enter Tryz.func65,Tryz.ntmps65
  go_wp2
  exact bodyPost_ret (v:=.tuple #[.agg #[.bool false,.slice none 0 0],.int .i64 0]) (by simp [results,Tryz.results65,go_sem]) rfl ⟨rfl,(Below.refl _ _).alloc (Nat.le_refl _) _⟩
set_option maxRecDepth 100000 in
set_option maxHeartbeats 8000000 in
theorem OfFloat_main (f:Nat) (hf:f<18446744073709551616) {w:World} {ex:Nat} (he:f / 4503599627370496 % 2048=ex) (hx1:1012≤ex) (hx2:ex<2047) {z:Int} (hz:ofZ f=z) :
  Calls Tryz.prog 65 #[.int .u64 (f:Int)] w (PostR w z 0):=by
 obtain ⟨q,hq⟩:∃ q,f / 4503599627370496=q:=⟨_,rfl⟩
 obtain ⟨m,hm⟩:∃ q,f % 4503599627370496=q:=⟨_,rfl⟩
 obtain ⟨M,hM⟩:∃ M,4503599627370496+m=M:=⟨_,rfl⟩
 obtain ⟨sb,hsb⟩:∃ q,f / 9223372036854775808=q:=⟨_,rfl⟩
 have hq1:q<4096:=by omega
 have hqI:(f:Int) / 4503599627370496=(q:Int):=by omega
 have hsI:(f:Int) / 9223372036854775808=(sb:Int):=by omega
 obtain ⟨s,hs⟩:∃ s:Bool,((sb:Int)==1)=s:=⟨_,rfl⟩
 obtain ⟨E,hE⟩:∃ E:Int,(ex:Int)=E:=⟨_,rfl⟩
 have hba:bits .and .u64 (q:Int) 2047=E:=by
  rw [←hE]
  have h:=bits_and_u64 q (2 ^ 11 - 1) (by omega) (by decide)
  rw [and_low,show q % 2 ^ 11=ex by rw [←hq];exact he] at h
  exact h
 have hbm:bits .and .u64 (f:Int) 4503599627370495=(m:Int):=by
  have h:=bits_and_u64 f (2 ^ 52 - 1) hf (by decide)
  rw [and_low,show f % 2 ^ 52=m from hm] at h
  exact h
 have hbo:bits .or .u64 (m:Int) 4503599627370496=(M:Int):=by
  have h:=bits_or_u64 m (1 * 2 ^ 52) (by omega) (by decide)
  rw [or_high 1 (show m<2 ^ 52 by omega)] at h
  rw [show (M:Int)=((m+1 * 2 ^ 52:Nat):Int) by omega]
  exact h
 have hf0:(0:Int)≤(f:Int):=by omega
 have hq1I:(q:Int)<4096:=by omega
 have hxI:E<2047:=by omega
 have hx0:1012≤E:=by omega
 have hM0:(0:Int)≤(M:Int):=by omega
 have hM9:(M:Int)<9007199254740992:=by omega
 have hm0:(0:Int)≤(m:Int):=by omega
 have d1:(E==2047)=false:=beq_eq_false_iff_ne.2 (by omega)
 have d2:decide (0<E)=true:=decide_eq_true (by omega)
 have d3:decide (E - 1075 < -63)=false:=decide_eq_false (by omega)
 have HZ:=Lib.hid hz
 have HSI:=Lib.hid hsI
 clear hsI
 have HB1:=Lib.hid ((Below.refl w.heap.size w).alloc (Nat.le_refl _) (.cells #[.bool false,.slice none 0 0] 39))
 have hs0:s=decide (sb=1):=by rw [←hs,Bool.eq_iff_iff];simp;omega
 have HSG:=Lib.hid (show s=decide (9223372036854775808≤f) by rw [hs0];exact decide_eq_decide.2 (by omega))
 by_cases h75:ex<1075
 ·have d4:decide (E - 1075<0)=true:=decide_eq_true (by omega)
  obtain ⟨k,hk⟩:∃ k,1075 - ex=k:=⟨_,rfl⟩
  obtain ⟨V,hV⟩:∃ V,M / 2 ^ k=V:=⟨_,rfl⟩
  have hVM:V≤M:=by rw [←hV];exact Nat.div_le_self _ _
  have hsh:(Op.shift .shr .u64 (M:Int) .i64 (-(E - 1075)))=pure (.int .u64 (V:Int)):=by
   rw [show -(E - 1075)=(k:Int) by omega,shift_shr _ _ _ _ (by omega) (show (k:Int)≤64 by omega),Int.toNat_natCast,←hV,Int.natCast_ediv,Int.natCast_pow]
   rfl
  have HN:=Lib.hid (show ofN f=V by rw [ofN,if_neg (by omega),if_neg (by omega),he,hm,hM,hk,hV])
  have hV9:(V:Int)<9007199254740992:=by omega
  have hV0:(0:Int)≤(V:Int):=by omega
  obtain ⟨v0,hv0⟩:∃ v,V % 4294967296=v:=⟨_,rfl⟩
  obtain ⟨v1,hv1⟩:∃ v,V / 4294967296=v:=⟨_,rfl⟩
  have hV0e:(V:Int) % 4294967296=(v0:Int):=by omega
  have hV1e:(V:Int) / 4294967296=(v1:Int):=by omega
  have HDg:=Lib.hid (dig_two (a:=v0) (b:=v1) (by omega) (by omega))
  obtain ⟨y,hy⟩:∃ y:Int,(if s then -(V:Int) else (V:Int))=y:=⟨_,rfl⟩
  have HY:=Lib.hid (show ival s [v0,v1]=y by
   rw [←hy,←hv0,←hv1]
   exact ival_two s)
  have ty:tooLong y=false:=tooLong_blen (k:=53) (blen_le_iff.2 (by rw [←hy];split <;> omega)) (by decide)
  have HTy:=Lib.hid ty
  have hzy:y=z:=by
   rw [←hz,ofZ,HN.out,←hy,HSG.out]
   by_cases h9:f<9223372036854775808
   ·rw [if_pos h9,if_neg (by simp;omega)]
   ·rw [if_neg h9,if_pos (by simp;omega)]
  have tz:tooLong z=false:=by rw [←hzy];exact ty
  have HSZ:=Lib.hid (show shZ y 0=z by rw [shZ_zero];exact hzy)
  have HK:=Lib.hid (show (-9223372036854775808:Int)≤0 by decide)
  have HTz:=Lib.hid tz
  clear he hq hf hm hM hsb hz h75 hx1 hx2 hE hs0 hv0 hv1 hy ty tz hzy hk hV hVM
  go_enter Tryz.func65,Tryz.ntmps65
  go_upto_region 12 with fail
  have HX:=Lib.hid (Bx.new w (.bool false) (.slice none 0 0))
  have hz1:w.heap.size<(w.alloc (.cells #[.bool false,.slice none 0 0] 39)).heap.size:=by simp
  generalize w.alloc (.cells #[.bool false,.slice none 0 0] 39)=W1 at *
  have hsI:=HSI.out
  go_wp2_with fail
  (with_reducible refine (laid_at s (own_two W1 v0 v1 rfl (Nat.le_refl _)) rfl HDg.out HY.out).mono ?_)
  rintro ex w3 ⟨rfl,ho3,hb3⟩
  have hz3:=hb3.size
  simp only [World.size_alloc] at hz3
  have HB3:=Lib.hid ((HB1.out.alloc HB1.out.size (.cells #[.int .u32 (v0:Int),.int .u32 (v1:Int)] 79)).trans (hb3.mono (by simp;omega)))
  have HX3:=Lib.hid ((HX.out.alloc (.cells #[.int .u32 (v0:Int),.int .u32 (v1:Int)] 79)).below hb3 (by simp;omega))
  have HO3:=Lib.hid (Own.sl ho3 (dig_digs (by decide) _) rfl)
  clear ho3 hb3
  go_wp2_with fail
  (with_reducible refine (Shift_z (k:=0) (x:=y) (z:=z) HO3.out (Nat.le_trans (not_too_len HTy.out) (by decide)) (ival_digs y) HK.out HSZ.out HTy.out HTz.out).mono ?_)
  rintro ex w4 ⟨v,rfl,⟨A4,c4,rfl,ho4⟩,hb4⟩
  have hz4:=hb4.size
  have HX4:=Lib.hid ((HX3.out.below hb4 (by omega)).alloc (.cells #[.bool (decide (z<0)),.slice A4 (digs W z.natAbs).length c4] 39))
  have HB4:=Lib.hid ((HB3.out.trans (hb4.mono HB3.out.size)).alloc (by omega) (.cells #[.bool (decide (z<0)),.slice A4 (digs W z.natAbs).length c4] 39))
  have HO4:=Lib.hid (Own.alloc ho4 (.cells #[.bool (decide (z<0)),.slice A4 (digs W z.natAbs).length c4] 39))
  clear ho4 hb4 hsI
  obtain ⟨r0,r1,r2,r3⟩:=HX4.out.facts
  have hg3:w.heap.size<w3.heap.size:=by omega
  have hr:=Lib.hid (ResI.stored (w:=w) (g:=w.heap.size) (u:=.bool (decide (z<0))) (u':=.slice A4 (digs W z.natAbs).length c4) ⟨A4,c4,rfl,HO4.out⟩ HB4.out hg3 (Nat.le_refl _))
  go_wp2
  exact bodyPost_ret (v:=.tuple #[.agg #[.bool (decide (z<0)),.slice A4 (digs W z.natAbs).length c4],.int .i64 0]) (by simp [results,Tryz.results65,go_sem,r0,r1]) rfl ⟨_,rfl,hr.out.1,hr.out.2⟩
 ·have d4:decide (E - 1075<0)=false:=decide_eq_false (by omega)
  obtain ⟨k,hk⟩:∃ k,ex - 1075=k:=⟨_,rfl⟩
  have HN:=Lib.hid (show ofN f=M * 2 ^ k by rw [ofN,if_neg (by omega),if_pos (by omega),he,hm,hM,hk])
  obtain ⟨v0,hv0⟩:∃ v,M % 4294967296=v:=⟨_,rfl⟩
  obtain ⟨v1,hv1⟩:∃ v,M / 4294967296=v:=⟨_,rfl⟩
  have hV0e:(M:Int) % 4294967296=(v0:Int):=by omega
  have hV1e:(M:Int) / 4294967296=(v1:Int):=by omega
  have HDg:=Lib.hid (dig_two (a:=v0) (b:=v1) (by omega) (by omega))
  obtain ⟨y,hy⟩:∃ y:Int,(if s then -(M:Int) else (M:Int))=y:=⟨_,rfl⟩
  have HY:=Lib.hid (show ival s [v0,v1]=y by
   rw [←hy,←hv0,←hv1]
   exact ival_two s)
  have ty:tooLong y=false:=tooLong_blen (k:=53) (blen_le_iff.2 (by rw [←hy];split <;> omega)) (by decide)
  have HTy:=Lib.hid ty
  have hzy:shZ y (E - 1075)=z:=by
   rw [←hE,show (ex:Int) - 1075=(k:Int) by omega,shZ_up,←hz,ofZ,HN.out,←hy,HSG.out]
   by_cases h9:f<9223372036854775808
   ·rw [if_pos h9,if_neg (by simp;omega),Int.natCast_mul,Int.natCast_pow];rfl
   ·rw [if_neg h9,if_pos (by simp;omega),Int.natCast_mul,Int.natCast_pow,Int.neg_mul];rfl
  have tz:tooLong z=false:=by
   refine tooLong_blen (k:=53+k) ?_ (by omega)
   have e:z.natAbs=M * 2 ^ k:=by rw [←hz,ofZ,HN.out];split <;> omega
   rw [e]
   refine blen_le_iff.2 ?_
   rw [Nat.pow_add]
   exact Nat.mul_lt_mul_of_pos_right (show M<2 ^ 53 by omega) (Nat.two_pow_pos _)
  have HSZ:=Lib.hid hzy
  have HK:=Lib.hid (show (-9223372036854775808:Int)≤E - 1075 by omega)
  have HTz:=Lib.hid tz
  clear he hq hf hm hM hsb hz h75 hx1 hx2 hE hs0 hv0 hv1 hy ty tz hzy hk
  go_enter Tryz.func65,Tryz.ntmps65
  go_upto_region 12 with fail
  have HX:=Lib.hid (Bx.new w (.bool false) (.slice none 0 0))
  have hz1:w.heap.size<(w.alloc (.cells #[.bool false,.slice none 0 0] 39)).heap.size:=by simp
  generalize w.alloc (.cells #[.bool false,.slice none 0 0] 39)=W1 at *
  have hsI:=HSI.out
  go_wp2_with fail
  (with_reducible refine (laid_at s (own_two W1 v0 v1 rfl (Nat.le_refl _)) rfl HDg.out HY.out).mono ?_)
  rintro ex w3 ⟨rfl,ho3,hb3⟩
  have hz3:=hb3.size
  simp only [World.size_alloc] at hz3
  have HB3:=Lib.hid ((HB1.out.alloc HB1.out.size (.cells #[.int .u32 (v0:Int),.int .u32 (v1:Int)] 79)).trans (hb3.mono (by simp;omega)))
  have HX3:=Lib.hid ((HX.out.alloc (.cells #[.int .u32 (v0:Int),.int .u32 (v1:Int)] 79)).below hb3 (by simp;omega))
  have HO3:=Lib.hid (Own.sl ho3 (dig_digs (by decide) _) rfl)
  clear ho3 hb3
  go_wp2_with fail
  (with_reducible refine (Shift_z (k:=E - 1075) (x:=y) (z:=z) HO3.out (Nat.le_trans (not_too_len HTy.out) (by decide)) (ival_digs y) HK.out HSZ.out HTy.out HTz.out).mono ?_)
  rintro ex w4 ⟨v,rfl,⟨A4,c4,rfl,ho4⟩,hb4⟩
  have hz4:=hb4.size
  have HX4:=Lib.hid ((HX3.out.below hb4 (by omega)).alloc (.cells #[.bool (decide (z<0)),.slice A4 (digs W z.natAbs).length c4] 39))
  have HB4:=Lib.hid ((HB3.out.trans (hb4.mono HB3.out.size)).alloc (by omega) (.cells #[.bool (decide (z<0)),.slice A4 (digs W z.natAbs).length c4] 39))
  have HO4:=Lib.hid (Own.alloc ho4 (.cells #[.bool (decide (z<0)),.slice A4 (digs W z.natAbs).length c4] 39))
  clear ho4 hb4 hsI
  obtain ⟨r0,r1,r2,r3⟩:=HX4.out.facts
  have hg3:w.heap.size<w3.heap.size:=by omega
  have hr:=Lib.hid (ResI.stored (w:=w) (g:=w.heap.size) (u:=.bool (decide (z<0))) (u':=.slice A4 (digs W z.natAbs).length c4) ⟨A4,c4,rfl,HO4.out⟩ HB4.out hg3 (Nat.le_refl _))
  go_wp2
  exact bodyPost_ret (v:=.tuple #[.agg #[.bool (decide (z<0)),.slice A4 (digs W z.natAbs).length c4],.int .i64 0]) (by simp [results,Tryz.results65,go_sem,r0,r1]) rfl ⟨_,rfl,hr.out.1,hr.out.2⟩
theorem ival_neg_iff {neg:Bool} {l:List Nat} (h:nv W l≠0):(ival neg l<0)↔neg=true:=by
 unfold ival
 generalize nv W l=a at *
 cases neg
 ·rw [if_neg (by simp)]
  exact ⟨fun h9=>by omega,fun h9=>by cases h9⟩
 ·rw [if_pos rfl]
  exact ⟨fun _=>rfl,fun _=>by omega⟩
theorem tf_parts {neg:Bool} {l:List Nat} {x:Int} (hx:ival neg l=x) (hl:lng l=false) (h0:nv W l≠0) (hg:¬1024<blen (nv W l)) {X:Nat} (hX:flBits (nv W l)=X) {I:Nat} (hI:9218868437227405312=I) :
  (if X=I then 0 else X+(if neg then 9223372036854775808 else 0))=tfB x∧(if X=I then 14 else 0:Int)=tfC x:=by
 have hlx:=lng_ival hx
 have hab:x.natAbs=nv W l:=by rw [←hx,ival_natAbs]
 have hsg:=ival_neg_iff (neg:=neg) h0
 rw [hx] at hsg
 have hi:flInf (nv W l)=decide (X=I):=by rw [←hX,←hI];unfold flInf flBits;rw [decide_eq_false hg,Bool.false_or]
 have hx0:¬x=0:=by omega
 unfold tfB tfC
 rw [←hlx,hl,hab,hi,hX]
 simp only [Bool.false_eq_true,if_false,if_neg hx0,decide_eq_true_eq]
 refine ⟨?_,trivial⟩
 by_cases h9:X=I
 ·rw [if_pos h9,if_pos h9]
 ·rw [if_neg h9,if_neg h9]
  cases neg
  ·rw [if_neg (by simp),if_neg (fun h8=>by have:=hsg.1 h8;cases this)]
  ·rw [if_pos rfl,if_pos (hsg.2 rfl)]
theorem tf_long {neg:Bool} {l:List Nat} {x:Int} (hx:ival neg l=x) (hl:lng l=true):tfB x=0∧tfC x=10:=by
 unfold tfB tfC
 rw [←lng_ival hx,hl]
 exact ⟨rfl,rfl⟩
theorem tf_nought {neg:Bool} {l:List Nat} {x:Int} (hx:ival neg l=x) (h0:nv W l=0):tfB x=0∧tfC x=0:=by
 have hab:x.natAbs=nv W l:=by rw [←hx,ival_natAbs]
 have hx0:x=0:=by omega
 subst hx0
 refine ⟨tfB_zero,?_⟩
 unfold tfC
 rw [show Int.natAbs 0=0 from rfl,flInf_zero,show tooLong 0=false from tooLong_lt 0 (by decide) (by decide)]
 rfl
theorem tf_great {neg:Bool} {l:List Nat} {x:Int} (hx:ival neg l=x) (hl:lng l=false) (hg:1024<blen (nv W l)):tfB x=0∧tfC x=14:=by
 have hab:x.natAbs=nv W l:=by rw [←hx,ival_natAbs]
 have hi:flInf (nv W l)=true:=by unfold flInf;rw [decide_eq_true hg,Bool.true_or]
 unfold tfB tfC
 rw [←lng_ival hx,hl,hab,hi]
 simp
theorem ToFloat_any (neg:Bool) {A:Option Addr} {l:List Nat} {n c:Nat} {w:World} (hs:SlU w w.heap.size A n c l) (hn:n≤67108000) {x:Int} (hx:ival neg l=x) {F:Nat} {co:Int} (hF:tfB x=F) (hco:tfC x=co) :
  Calls Tryz.prog 164 #[.agg #[.bool neg,.slice A n c]] w (TfPost w F co):=by
 subst hF hco
 cases hl:lng l
 ·by_cases hz:nv W l=0
  ·obtain ⟨e1,e2⟩:=tf_nought hx hz
   rw [e1,e2]
   exact ToFloat_nought neg hs hn (Nat.le_refl _) hl (by rw [hz,blen_zero])
  ·by_cases hg:1024<blen (nv W l)
   ·obtain ⟨e1,e2⟩:=tf_great hx hl hg
    rw [e1,e2]
    exact ToFloat_great neg hs hn (Nat.le_refl _) hl hg
   ·obtain ⟨e1,e2⟩:=tf_parts hx hl hz hg rfl rfl
    exact ToFloat_main neg hs hn (Nat.le_refl _) hl ⟨blen_pos hz,by omega⟩ e1 e2
 ·obtain ⟨e1,e2⟩:=tf_long hx hl
  rw [e1,e2]
  exact ToFloat_long neg hs hn (Nat.le_refl _) hl
section
end
theorem resI_nought (w:World) (B:Nat):ResI w B zeroV 0:=⟨none,0,by rw [show (digs W (Int.natAbs 0)).length=0 by rw [show Int.natAbs 0=0 from rfl,digs_zero];rfl];rfl,by rw [show Int.natAbs 0=0 from rfl,digs_zero];exact ⟨rfl,.inl ⟨rfl,rfl⟩⟩⟩
theorem OfFloat_z {F:Nat} {z:Int} (w:World) (hF:F<18446744073709551616∧F / 4503599627370496 % 2048≠2047) (hz:ofZ F=z) :
  Calls Tryz.prog 65 #[.int .u64 (F:Int)] w (PostR w z 0):=by
 by_cases h:F / 4503599627370496 % 2048<1012
 ·have h0:ofN F=0:=by
   unfold ofN
   split
   ·rfl
   ·rw [if_neg (by omega)]
    refine Nat.div_eq_of_lt ?_
    refine Nat.lt_of_lt_of_le (m:=2 ^ 64) (by omega) (Nat.pow_le_pow_right (by decide) (by omega))
  have hz0:z=0:=by rw [←hz,ofZ,h0];split <;> rfl
  subst hz0
  exact (OfFloat_nought F hF.1 rfl h).mono fun e w' ⟨he,hb⟩=>⟨zeroV,he,resI_nought _ _,hb⟩
 ·exact OfFloat_main F hF.1 rfl (by omega) (by omega) hz
section
end
section
end
section
end
end
end Go.Proofs.YtjpnmmjgdiiahaaGreatDoor
