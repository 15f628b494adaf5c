import Derived.Shelf.Small.Bits
import Derived.Test.YtpikjceodmepiaaGreatDoorRows
import Derived.WalkKit
import Derived.Deep.QuietTactic
import Derived.BigQuiet
import Derived.Deep.RegionHeld3
import Derived.Deep.DrawnRows
import Derived.Deep.DeepCutAuto
import Derived.Deep.CutBlock
import Derived.Laws.BytesArg
import Derived.Laws.AppendOwnNone
import Derived.ProofKit
import Derived.OpenShut
import Derived.JoinedCond
import Derived.JoinedOf
import Derived.JoinedAt
import Derived.ChangeSame
import Derived.ChangeSlices
import Derived.RowKit3
import Derived.Carry
import Derived.Lib.SmallJoins
import Derived.Deep.LoopGhost
import Derived.Maps.AppendAt
import Derived.IntWalk
import Derived.StillTailTactics
import Derived.Laws.Cover2
import Derived.Laws.FloatArith
import Derived.Lib.Hide
import Derived.Deep.AppendLies
import Derived.Deep.OwnRows
import Derived.Lib.ValidU
import Derived.Shelf.Unicode.ValidAny
import Derived.Lib.LaidU8T
import Derived.Lib.ValidLaws
import Derived.Lib.TrimUEq
import Derived.Deep.Strs
import Derived.Deep.Slices
import Derived.SizedLaws
import Derived.Deep.DeepHandedRow
import Derived.Deep.DeepWitnessRowRef
import Derived.Lib.LaidTab
import Derived.Lay
import Derived.Test.YtpikjceodmepiaaGreatDoorV1
import Derived.Test.YtpikjceodmepiaaGreatDoorV2
import Derived.Test.YtpikjceodmepiaaGreatDoorV3
import Derived.Test.YtpikjceodmepiaaGreatDoorV4
import Derived.Test.YtpikjceodmepiaaGreatDoorV6
import Derived.Test.YtpikjceodmepiaaGreatDoorV7
import Derived.Test.YtpikjceodmepiaaGreatDoorV8
import Derived.Test.YtpikjceodmepiaaGreatDoorV9
import Derived.Test.YtpikjceodmepiaaGreatDoorV11
import Derived.Test.YtpikjceodmepiaaGreatDoorV12
import Derived.Test.YtpikjceodmepiaaGreatDoorV13
import Derived.Test.YtpikjceodmepiaaGreatDoorV14
import Derived.Test.YtpikjceodmepiaaGreatDoorV0
set_option exponentiation.threshold 5000
set_option maxRecDepth 1000000
set_option maxHeartbeats 64000000
set_option linter.unusedVariables false
set_option linter.unusedSimpArgs false
namespace Go.Proofs.YtpikjceodmepiaaGreatDoor
section
open Go.RowKit Hb
end
section
open Go.ChangeShapes Go.WideShapes Go.ChangeAt Go.RowKit Go.Joins Hb
section
end
end
section
open Go.RowKit Hb
section
end
section
end
section
end
section
end
section
end
end
end Go.Proofs.YtpikjceodmepiaaGreatDoor
namespace Hb
open Ieee
end Hb
namespace Hb
end Hb
namespace Go.Proofs.YtpikjceodmepiaaGreatDoor
section
open Hb
end
end Go.Proofs.YtpikjceodmepiaaGreatDoor
namespace Hb
end Hb
namespace Go.Proofs.YtpikjceodmepiaaGreatDoor
section
open Hb
end
section
open Go.RowKit Hb
theorem and_low (a k:Nat):a &&& (2 ^ k - 1)=a % 2 ^ k:=Nat.and_two_pow_sub_one_eq_mod a k
section
end
end
end Go.Proofs.YtpikjceodmepiaaGreatDoor
namespace Ht
namespace Tm
end Tm
section
end
end Ht
namespace Hb
open Ieee
end Hb
namespace Go.Proofs.YtpikjceodmepiaaGreatDoor
section
open Go.RowKit Hb Ht
attribute [local go_sem] Oper.semAt_some
theorem floN_iff {F:Nat} (hF:F<18446744073709551616):(F / 4503599627370496 % 2048≠2047↔F % 9223372036854775808<9218868437227405312):=by omega
theorem bits_and_u64 (a b:Nat) (ha:a<18446744073709551616) (hb:b<18446744073709551616):bits .and .u64 (a:Int) (b:Int)=((a &&& b:Nat):Int):=by
 unfold bits
 show IntKind.u64.wrap ((BitVec.ofInt 64 (a:Int) &&& BitVec.ofInt 64 (b:Int)).toNat:Int)=_
 rw [BitVec.toNat_and,ofInt64 ha,ofInt64 hb,u64_wrap (Nat.lt_of_le_of_lt Nat.and_le_left ha)]
theorem rfloats_any (F:Nat) (hF:F<18446744073709551616) (w:World) :
  Calls Tryz.prog 113 #[.int .u64 (F:Int)] w fun e w'=>e = .returned (.bool (floN F))∧w=w':=by
 have ha:bits .and .u64 ((F:Int) / 4503599627370496) 2047=((F / 4503599627370496 % 2048:Nat):Int):=by
  have h:=bits_and_u64 (F / 4503599627370496) (2 ^ 11 - 1) (by omega) (by decide)
  rw [and_low] at h
  exact h
 have hiff:=floN_iff hF
 unfold floN
 obtain ⟨r,hr⟩:∃ r,F / 4503599627370496 % 2048=r:=⟨_,rfl⟩
 rw [hr] at ha hiff
 by_cases h1:r=2047
 ·subst h1
  have h2:¬F % 9223372036854775808<9218868437227405312:=fun h=>(hiff.2 h) rfl
  rw [decide_eq_false h2]
  clear h2 hiff hr hF
  go_enter Tryz.func113,Tryz.ntmps113
  go_wp2
  go_ret
  exact ⟨rfl,rfl⟩
 ·have h2:F % 9223372036854775808<9218868437227405312:=hiff.1 h1
  have hrI:((r:Int) != 2047)=true:=by simpa using (show (r:Int)≠2047 by omega)
  have hrI2:¬(r:Int)=2047:=by omega
  rw [decide_eq_true h2]
  by_cases h3:F=9223372036854775808
  ·subst h3
   rw [show decide ((9223372036854775808:Nat)≠9223372036854775808)=false from by decide]
   clear h2 hiff hr hF h1
   go_enter Tryz.func113,Tryz.ntmps113
   go_wp2
   go_ret
   exact ⟨rfl,rfl⟩
  ·have hFI:((F:Int) != 9223372036854775808)=true:=by simpa using (show (F:Int)≠9223372036854775808 by omega)
   rw [decide_eq_true h3]
   clear h2 hiff hr hF h1 h3
   go_enter Tryz.func113,Tryz.ntmps113
   go_wp2
   go_ret
   exact ⟨rfl,rfl⟩
theorem digs_2_le {n k:Nat} (h:blen n≤k):(digs 2 n).length≤k:=digs_length_le (by decide) (blen_le_iff.1 h)
theorem rcanonical_any (s:ByteArray) (w:World) (hs:s.size≤maxLen) :
  Calls Tryz.prog 112 #[.string s] w fun e w'=>e = .returned (.bool (canonB s.data.toList))∧Below w.heap.size w w':=by
 have HP:=Qh (rParse_anyL s 10 w (by unfold maxLen at hs;omega))
 obtain ⟨co,hco⟩:∃ co,pCode s.data.toList 10=co:=⟨_,rfl⟩
 obtain ⟨z,hz⟩:∃ z,pVal s.data.toList 10=z:=⟨_,rfl⟩
 obtain ⟨st,hst⟩:∃ st,strN (txtZ z 10)=st:=⟨_,rfl⟩
 have hC:canonB s.data.toList=(decide (co=0) && decide (st.data.toList=s.data.toList)):=by unfold canonB;rw [hco,hz,←hst];rfl
 rw [hC]
 obtain ⟨R,hR⟩:∃ R,(decide (co=0) && decide (st.data.toList=s.data.toList))=R:=⟨_,rfl⟩
 rw [hR]
 have HR:=Qh hR
 have HSt:=Qh hst
 rw [hco,hz] at HP
 have HT:=Qh (fun h:co=0=>show tooLong z=false by rw [←hz];exact code_ok (hco.trans h))
 clear hC hco hz hR hst
 go_enter Tryz.func112,Tryz.ntmps112
 go_wp2_with fail
 (with_reducible refine HP.out.mono ?_)
 rintro e w1 ⟨v,rfl,hv0,hv1,hb1⟩
 by_cases h0:co=0
 ·subst h0
  obtain ⟨A,c,rfl,ho⟩:=hv0 rfl
  have ht:=HT.out rfl
  have hbl:=short_blen ht
  have hdl:=digs_2_le hbl
  have hsl:SlI w1 w1.heap.size A (digs 2 z.natAbs).length c (digs 2 z.natAbs):=ho.sl (dig_digs (by decide) _) rfl
  have hb2:Below w1.heap.size w1 (w1.alloc (.cells #[.bool (decide (z<0)),.slice A (digs 2 z.natAbs).length c] 79)):=Qb
  have hT:=rText_any (x:=z) (w:=w1.alloc (.cells #[.bool (decide (z<0)),.slice A (digs 2 z.natAbs).length c] 79)) ((hsl.below (C:=w1.heap.size) hb2 (Nat.le_refl _)).mono hb2.size) (Nat.le_refl _) hdl 10 (by omega) (by omega)
  rw [show ((10:Nat):Int)=10 from rfl,HSt.out] at hT
  have HX:=Qh hT
  have HB:=Qh (Qt hb1 hb2)
  clear hT hv0 hv1 hb1 ho ht hbl hdl hsl hb2
  generalize (digs 2 z.natAbs).length=n at *
  generalize decide (z<0)=sgn at *
  go_wp2_with fail
  (with_reducible refine HX.out.mono ?_)
  rintro e w3 ⟨rfl,hb3⟩
  have HB3:=Qh (Qt HB.out hb3)
  clear hb3
  by_cases he:st.data.toList=s.data.toList
  ·have s1:(st.toList==s.toList)=true:=by rw [ByteArray.toList_eq,ByteArray.toList_eq,he];simp
   have HE:=Qh (show true=R by rw [←HR.out,decide_eq_true he];rfl)
   clear he
   go_wp2
   go_ret
   exact ⟨by rw [←HE.out];rfl,HB3.out⟩
  ·have s1:(st.toList==s.toList)=false:=by rw [ByteArray.toList_eq,ByteArray.toList_eq];exact beq_eq_false_iff_ne.2 he
   have HE:=Qh (show false=R by rw [←HR.out,decide_eq_false he];simp)
   clear he
   go_wp2
   go_ret
   exact ⟨by rw [←HE.out];rfl,HB3.out⟩
 ·have hv:=hv1 h0
  subst hv
  have h0b:(co != 0)=true:=by simpa using h0
  have HE:=Qh (show false=R by rw [←HR.out,decide_eq_false h0];simp)
  have HB:=Qh hb1
  clear hv0 hv1 h0 hb1
  go_wp2
  go_ret
  exact ⟨by rw [←HE.out];rfl,HB.out.alloc HB.out.size _⟩
theorem one20 {t:Tm} (h:t.k<1∨5<t.k∨stray t=true∨t.v<0∨(t.k=5∧(t.as.length=0∨64<t.as.length))):oneP t=20:=if_pos h
theorem one_go {t:Tm} (h:¬(t.k<1∨5<t.k∨stray t=true∨t.v<0∨(t.k=5∧(t.as.length=0∨64<t.as.length)))):oneP t=if Lib.validD t.n=false∨1000<t.n.length then 21
 else if t.k=3∧canonB t.m=false then 22
 else if t.k=4∧floB t.b=false then 23
 else 0:=if_neg h
theorem stray_n {t:Tm} (h:t.n ≠ []) (h2:t.k≠2) (h5:t.k≠5):stray t=true:=by simp [stray,h,h2,h5]
theorem stray_m {t:Tm} (h:t.m ≠ []) (h3:t.k≠3):stray t=true:=by simp [stray,h,h3]
theorem stray_b {t:Tm} (h:t.b≠0) (h4:t.k≠4):stray t=true:=by simp [stray,h,h4]
theorem stray_v {t:Tm} (h:t.v≠0) (h1:t.k≠1):stray t=true:=by simp [stray,h,h1]
theorem stray_l {t:Tm} (h:t.as.length≠0) (h5:t.k≠5):stray t=true:=by unfold stray;simp only [Bool.or_eq_true];exact .inr (by simp [h,h5])
theorem stray_no {t:Tm} (hn:t.n = []∨t.k=2∨t.k=5) (hm:t.m = []∨t.k=3) (hb:t.b=0∨t.k=4) (hv:t.v=0∨t.k=1) (hl:t.as.length=0∨t.k=5):stray t=false:=by
 unfold stray
 simp only [Bool.or_eq_false_iff]
 refine ⟨⟨⟨⟨?_,?_⟩,?_⟩,?_⟩,?_⟩
 ·rcases hn with h | h | h <;> simp [h]
 ·rcases hm with h | h <;> simp [h]
 ·rcases hb with h | h <;> simp [h]
 ·rcases hv with h | h <;> simp [h]
 ·rcases hl with h | h <;> simp [h]
theorem bytes_ne {n:List UInt8} {nb:ByteArray} (h:(⟨n.toArray⟩:ByteArray)=nb) (hn:n ≠ []):nb.toList.isEmpty=false∧(nb.toList == [])=false∧¬nb.toList = []:=by
 have e:nb.toList=n:=by rw [←h,ByteArray.toList_eq]
 rw [e]
 cases n with
 | nil=>exact absurd rfl hn
 | cons a l=>exact ⟨rfl,rfl,by simp⟩
theorem rone_any {w:World} {t:Tm} {sl:Value} (h:TAt w w.heap.size t sl) (hf:t.n.length≤4611686018427387904):Calls Tryz.prog 81 #[valT t sl] w fun e w'=>e = .returned (.int .i64 (oneP t))∧Below w.heap.size w w':=by
 obtain ⟨k,nl,ml,b,v,ts,nb,mb,A,c,rfl,rfl,hnb,hmb,hl1,hl2,hl3,hv,hs1,hs2⟩:=h.letters
 have hok:=h.ok
 obtain ⟨L,hL⟩:∃ L,ts.length=L:=⟨_,rfl⟩
 rw [hv]
 rw [hL] at h hl1 hl3 ⊢
 obtain ⟨R,hR⟩:∃ R,oneP (.mk k nl ml b v ts)=R:=⟨_,rfl⟩
 rw [hR]
 have HR:=Qh hR
 have hUv:=fun (w':World)=>UTF_any nb w' (by rw [←hnb];show nl.toArray.size≤_;rw [List.size_toArray];exact hf)
 rw [show nb.data.toList=nl by rw [←hnb]] at hUv
 obtain ⟨U,hUu⟩:∃ U,Lib.validD nl=U:=⟨_,rfl⟩
 obtain ⟨N,hN⟩:∃ N,nl.length=N:=⟨_,rfl⟩
 have hsz:nb.size=N:=by rw [←hN,←hnb];exact List.size_toArray
 have hNI:(N:Int)≤4611686018427387904:=by change nl.length≤_ at hf;omega
 rw [hUu] at hUv
 have HUv:=Qh hUv
 have hIn:=fun (w':World)=>rcanonical_any mb w' hs2
 rw [show mb.data.toList=ml by rw [←hmb]] at hIn
 obtain ⟨C,hC⟩:∃ C,canonB ml=C:=⟨_,rfl⟩
 rw [hC] at hIn
 have HIn:=Qh hIn
 obtain ⟨F,hF⟩:∃ F,floB b=F:=⟨_,rfl⟩
 have hFl:=fun (w':World)=>rfloats_any b.toNat (by have:=hok.2.2.1;simp only [Tm.b] at this;omega) w'
 rw [show floN b.toNat=F from hF,show ((b.toNat:Nat):Int)=b by have:=hok.2.2.1;simp only [Tm.b] at this;omega] at hFl
 have HFl:=Qh hFl
 have HD:=Qh (Qa hUu (Qa hN (Qa hC (Qa hF hL))))
 have hLI:(L:Int)≤1759218604400:=by unfold maxArgs at hl3;omega
 obtain ⟨W1,hW1⟩:∃ W1,(w.alloc (.cells (Q5 k nb mb b v (.slice A L c)) 26))=W1:=⟨_,rfl⟩
 have hb1:Below w.heap.size w W1:=by rw [←hW1];exact Qb
 have hX:TBox W1 w.heap.size (.mk k nl ml b v ts) (.slice A L c):=by rw [←hW1];exact TBox.new w hnb hmb
 obtain ⟨x0,x1,x2,x3,x4,x5⟩:=hX.cells hnb hmb
 have HX:=Qh (Qa hb1 hX)
 have HM:=Qh (Qa hnb hmb)
 have HKb:=Qh (show 0≤b∧b<18446744073709551616 from hok.2.2.1)
 have hbu0:=HKb.out.1
 have hbu1:=HKb.out.2
 subst hW1
 clear h hv hok hf hb1 hX hUv hIn hFl hUu hC hF hN hR hnb hmb hL hs1 hs2 hl1 hl3
 by_cases hk1:k<1
 ·have hk1b:(k==1)=false:=beq_eq_false_iff_ne.2 (by omega)
  have hk2b:(k==2)=false:=beq_eq_false_iff_ne.2 (by omega)
  have hk3b:(k==3)=false:=beq_eq_false_iff_ne.2 (by omega)
  have hk4b:(k==4)=false:=beq_eq_false_iff_ne.2 (by omega)
  have hk5b:(k==5)=false:=beq_eq_false_iff_ne.2 (by omega)
  have HE:=Qh (show (20:Int)=R by rw [←HR.out];refine Eq.symm ?_;exact one20 (.inl hk1))
  go_enter Tryz.func81,Tryz.ntmps81
  go_wp2_with (first
   | (go_at_call 111;(with_reducible refine (HUv.out _).mono ?_);rintro e w2 ⟨rfl,rfl⟩)
   | (go_at_call 112;(with_reducible refine (HIn.out _).mono ?_);rintro e w4 ⟨rfl,hb4⟩)
   | (go_at_call 113;(with_reducible refine (HFl.out _).mono ?_);rintro e w5 ⟨rfl,rfl⟩))
  all_goals
   go_ret
   exact ⟨by rw [←HE.out];rfl,HX.out.1⟩
 by_cases hk5:5<k
 ·have hk1b:(k==1)=false:=beq_eq_false_iff_ne.2 (by omega)
  have hk2b:(k==2)=false:=beq_eq_false_iff_ne.2 (by omega)
  have hk3b:(k==3)=false:=beq_eq_false_iff_ne.2 (by omega)
  have hk4b:(k==4)=false:=beq_eq_false_iff_ne.2 (by omega)
  have hk5b:(k==5)=false:=beq_eq_false_iff_ne.2 (by omega)
  have HE:=Qh (show (20:Int)=R by rw [←HR.out];refine Eq.symm ?_;exact one20 (.inr (.inl hk5)))
  go_enter Tryz.func81,Tryz.ntmps81
  go_wp2_with (first
   | (go_at_call 111;(with_reducible refine (HUv.out _).mono ?_);rintro e w2 ⟨rfl,rfl⟩)
   | (go_at_call 112;(with_reducible refine (HIn.out _).mono ?_);rintro e w4 ⟨rfl,hb4⟩)
   | (go_at_call 113;(with_reducible refine (HFl.out _).mono ?_);rintro e w5 ⟨rfl,rfl⟩))
  all_goals
   go_ret
   exact ⟨by rw [←HE.out];rfl,HX.out.1⟩
 have hkk:k=1∨k=2∨k=3∨k=4∨k=5:=by omega
 clear hk1 hk5
 rcases hkk with rfl | rfl | rfl | rfl | rfl
 ·skip
  by_cases hn0:nl = []
  case neg=>
   obtain ⟨e1,e2,e3⟩:=bytes_ne HM.out.1 hn0
   have HE:=Qh (show (20:Int)=R by rw [←HR.out];refine Eq.symm ?_;exact one20 (.inr (.inr (.inl (stray_n hn0 (show (1:Int)≠2 by decide) (show (1:Int)≠5 by decide))))))
   clear hn0
   go_enter Tryz.func81,Tryz.ntmps81
   go_wp2_with (first
    | (go_at_call 111;(with_reducible refine (HUv.out _).mono ?_);rintro e w2 ⟨rfl,rfl⟩)
    | (go_at_call 112;(with_reducible refine (HIn.out _).mono ?_);rintro e w4 ⟨rfl,hb4⟩)
    | (go_at_call 113;(with_reducible refine (HFl.out _).mono ?_);rintro e w5 ⟨rfl,rfl⟩))
   all_goals
    go_ret
    exact ⟨by rw [←HE.out];rfl,HX.out.1⟩
  subst hn0
  obtain rfl:nb=⟨#[]⟩:=HM.out.1.symm
  by_cases hm0:ml = []
  case neg=>
   obtain ⟨f1,f2,f3⟩:=bytes_ne HM.out.2 hm0
   have HE:=Qh (show (20:Int)=R by rw [←HR.out];refine Eq.symm ?_;exact one20 (.inr (.inr (.inl (stray_m hm0 (show (1:Int)≠3 by decide))))))
   clear hm0
   go_enter Tryz.func81,Tryz.ntmps81
   go_wp2_with (first
    | (go_at_call 111;(with_reducible refine (HUv.out _).mono ?_);rintro e w2 ⟨rfl,rfl⟩)
    | (go_at_call 112;(with_reducible refine (HIn.out _).mono ?_);rintro e w4 ⟨rfl,hb4⟩)
    | (go_at_call 113;(with_reducible refine (HFl.out _).mono ?_);rintro e w5 ⟨rfl,rfl⟩))
   all_goals
    go_ret
    exact ⟨by rw [←HE.out];rfl,HX.out.1⟩
  subst hm0
  obtain rfl:mb=⟨#[]⟩:=HM.out.2.symm
  by_cases hb0:b=0
  case neg=>
   have g1:(b != 0)=true:=by simpa using hb0
   have g2:¬b=0:=hb0
   have HE:=Qh (show (20:Int)=R by rw [←HR.out];refine Eq.symm ?_;exact one20 (.inr (.inr (.inl (stray_b hb0 (show (1:Int)≠4 by decide))))))
   clear hb0
   go_enter Tryz.func81,Tryz.ntmps81
   go_wp2_with (first
    | (go_at_call 111;(with_reducible refine (HUv.out _).mono ?_);rintro e w2 ⟨rfl,rfl⟩)
    | (go_at_call 112;(with_reducible refine (HIn.out _).mono ?_);rintro e w4 ⟨rfl,hb4⟩)
    | (go_at_call 113;(with_reducible refine (HFl.out _).mono ?_);rintro e w5 ⟨rfl,rfl⟩))
   all_goals
    go_ret
    exact ⟨by rw [←HE.out];rfl,HX.out.1⟩
  subst hb0
  by_cases hvz:v=0
  ·subst hvz
   by_cases hL0:L=0
   case neg=>
    have g1:(0:Int)<(L:Int):=by omega
    have HE:=Qh (show (20:Int)=R by rw [←HR.out];refine Eq.symm ?_;exact one20 (.inr (.inr (.inl (stray_l (show ts.length≠0 by rw [HD.out.2.2.2.2];exact hL0) (show (1:Int)≠5 by decide))))))
    clear hL0
    go_enter Tryz.func81,Tryz.ntmps81
    go_wp2_with (first
     | (go_at_call 111;(with_reducible refine (HUv.out _).mono ?_);rintro e w2 ⟨rfl,rfl⟩)
     | (go_at_call 112;(with_reducible refine (HIn.out _).mono ?_);rintro e w4 ⟨rfl,hb4⟩)
     | (go_at_call 113;(with_reducible refine (HFl.out _).mono ?_);rintro e w5 ⟨rfl,rfl⟩))
    all_goals
     go_ret
     exact ⟨by rw [←HE.out];rfl,HX.out.1⟩
   subst hL0
   have hgo:=Qh (one_go (t:=.mk 1 [] [] 0 0 ts) (fun h=>by
    have hs:=stray_no (t:=.mk 1 [] [] 0 0 ts) (.inl rfl) (.inl rfl) (.inl rfl) (.inr rfl) (.inl HD.out.2.2.2.2)
    rcases h with h | h | h | h | h
    ·exact absurd h (by show ¬(1:Int)<1;omega)
    ·exact absurd h (by show ¬(5:Int)<1;omega)
    ·rw [hs] at h;cases h
    ·exact absurd h (by show ¬(0:Int)<0;omega)
    ·exact absurd h (fun h=>absurd h.1 (show (1:Int)≠5 by decide))))
   cases U
   ·skip
    have HE:=Qh (show (21:Int)=R by rw [←HR.out];refine Eq.symm ?_;exact hgo.out.trans (if_pos (.inl HD.out.1)))
    go_enter Tryz.func81,Tryz.ntmps81
    go_wp2_with (first
     | (go_at_call 111;(with_reducible refine (HUv.out _).mono ?_);rintro e w2 ⟨rfl,rfl⟩)
     | (go_at_call 112;(with_reducible refine (HIn.out _).mono ?_);rintro e w4 ⟨rfl,hb4⟩)
     | (go_at_call 113;(with_reducible refine (HFl.out _).mono ?_);rintro e w5 ⟨rfl,rfl⟩))
    all_goals
     go_ret
     exact ⟨by rw [←HE.out];rfl,HX.out.1⟩
   by_cases h1000:1000<N
   ·have h1I:(1000:Int)<(N:Int):=by omega
    have HE:=Qh (show (21:Int)=R by rw [←HR.out];refine Eq.symm ?_;exact hgo.out.trans (if_pos (.inr (by show 1000<([]:List UInt8).length;rw [HD.out.2.1];exact h1000))))
    clear h1000
    go_enter Tryz.func81,Tryz.ntmps81
    go_wp2_with (first
     | (go_at_call 111;(with_reducible refine (HUv.out _).mono ?_);rintro e w2 ⟨rfl,rfl⟩)
     | (go_at_call 112;(with_reducible refine (HIn.out _).mono ?_);rintro e w4 ⟨rfl,hb4⟩)
     | (go_at_call 113;(with_reducible refine (HFl.out _).mono ?_);rintro e w5 ⟨rfl,rfl⟩))
    all_goals
     go_ret
     exact ⟨by rw [←HE.out];rfl,HX.out.1⟩
   have h1I:¬(1000:Int)<(N:Int):=by omega
   have h1J:(N:Int)≤1000:=by omega
   have HU2:=Qh (show ¬(Lib.validD []=false∨1000<([]:List UInt8).length) from fun h=>by
    rcases h with h | h
    ·rw [HD.out.1] at h;cases h
    ·rw [HD.out.2.1] at h;exact h1000 h)
   clear h1000
   have HE:=Qh (show (0:Int)=R by rw [←HR.out];refine Eq.symm ?_;exact hgo.out.trans ((if_neg HU2.out).trans ((if_neg (fun h=>absurd h.1 (show (1:Int)≠3 by decide))).trans (if_neg (fun h=>absurd h.1 (show (1:Int)≠4 by decide))))))
   go_enter Tryz.func81,Tryz.ntmps81
   go_wp2_with (first
    | (go_at_call 111;(with_reducible refine (HUv.out _).mono ?_);rintro e w2 ⟨rfl,rfl⟩)
    | (go_at_call 112;(with_reducible refine (HIn.out _).mono ?_);rintro e w4 ⟨rfl,hb4⟩)
    | (go_at_call 113;(with_reducible refine (HFl.out _).mono ?_);rintro e w5 ⟨rfl,rfl⟩))
   all_goals
    go_ret
    exact ⟨by rw [←HE.out];rfl,HX.out.1⟩
  ·have g8:(v != 0)=true:=by simpa using hvz
   have g9:¬v=0:=hvz
   by_cases hL0:L=0
   case neg=>
    have g1:(0:Int)<(L:Int):=by omega
    have HE:=Qh (show (20:Int)=R by rw [←HR.out];refine Eq.symm ?_;exact one20 (.inr (.inr (.inl (stray_l (show ts.length≠0 by rw [HD.out.2.2.2.2];exact hL0) (show (1:Int)≠5 by decide))))))
    clear hL0
    go_enter Tryz.func81,Tryz.ntmps81
    go_wp2_with (first
     | (go_at_call 111;(with_reducible refine (HUv.out _).mono ?_);rintro e w2 ⟨rfl,rfl⟩)
     | (go_at_call 112;(with_reducible refine (HIn.out _).mono ?_);rintro e w4 ⟨rfl,hb4⟩)
     | (go_at_call 113;(with_reducible refine (HFl.out _).mono ?_);rintro e w5 ⟨rfl,rfl⟩))
    all_goals
     go_ret
     exact ⟨by rw [←HE.out];rfl,HX.out.1⟩
   subst hL0
   by_cases hv0:v<0
   ·have g1:(v != 0)=true:=by simp;omega
    have HE:=Qh (show (20:Int)=R by rw [←HR.out];refine Eq.symm ?_;exact one20 (.inr (.inr (.inr (.inl hv0)))))
    go_enter Tryz.func81,Tryz.ntmps81
    go_wp2_with (first
     | (go_at_call 111;(with_reducible refine (HUv.out _).mono ?_);rintro e w2 ⟨rfl,rfl⟩)
     | (go_at_call 112;(with_reducible refine (HIn.out _).mono ?_);rintro e w4 ⟨rfl,hb4⟩)
     | (go_at_call 113;(with_reducible refine (HFl.out _).mono ?_);rintro e w5 ⟨rfl,rfl⟩))
    all_goals
     go_ret
     exact ⟨by rw [←HE.out];rfl,HX.out.1⟩
   have hv1:0<v:=by omega
   have hgo:=Qh (one_go (t:=.mk 1 [] [] 0 v ts) (fun h=>by
    have hs:=stray_no (t:=.mk 1 [] [] 0 v ts) (.inl rfl) (.inl rfl) (.inl rfl) (.inr rfl) (.inl HD.out.2.2.2.2)
    rcases h with h | h | h | h | h
    ·exact absurd h (by show ¬(1:Int)<1;omega)
    ·exact absurd h (by show ¬(5:Int)<1;omega)
    ·rw [hs] at h;cases h
    ·exact absurd h (by show ¬v<0;omega)
    ·exact absurd h (fun h=>absurd h.1 (show (1:Int)≠5 by decide))))
   cases U
   ·skip
    have HE:=Qh (show (21:Int)=R by rw [←HR.out];refine Eq.symm ?_;exact hgo.out.trans (if_pos (.inl HD.out.1)))
    go_enter Tryz.func81,Tryz.ntmps81
    go_wp2_with (first
     | (go_at_call 111;(with_reducible refine (HUv.out _).mono ?_);rintro e w2 ⟨rfl,rfl⟩)
     | (go_at_call 112;(with_reducible refine (HIn.out _).mono ?_);rintro e w4 ⟨rfl,hb4⟩)
     | (go_at_call 113;(with_reducible refine (HFl.out _).mono ?_);rintro e w5 ⟨rfl,rfl⟩))
    all_goals
     go_ret
     exact ⟨by rw [←HE.out];rfl,HX.out.1⟩
   by_cases h1000:1000<N
   ·have h1I:(1000:Int)<(N:Int):=by omega
    have HE:=Qh (show (21:Int)=R by rw [←HR.out];refine Eq.symm ?_;exact hgo.out.trans (if_pos (.inr (by show 1000<([]:List UInt8).length;rw [HD.out.2.1];exact h1000))))
    clear h1000
    go_enter Tryz.func81,Tryz.ntmps81
    go_wp2_with (first
     | (go_at_call 111;(with_reducible refine (HUv.out _).mono ?_);rintro e w2 ⟨rfl,rfl⟩)
     | (go_at_call 112;(with_reducible refine (HIn.out _).mono ?_);rintro e w4 ⟨rfl,hb4⟩)
     | (go_at_call 113;(with_reducible refine (HFl.out _).mono ?_);rintro e w5 ⟨rfl,rfl⟩))
    all_goals
     go_ret
     exact ⟨by rw [←HE.out];rfl,HX.out.1⟩
   have h1I:¬(1000:Int)<(N:Int):=by omega
   have h1J:(N:Int)≤1000:=by omega
   have HU2:=Qh (show ¬(Lib.validD []=false∨1000<([]:List UInt8).length) from fun h=>by
    rcases h with h | h
    ·rw [HD.out.1] at h;cases h
    ·rw [HD.out.2.1] at h;exact h1000 h)
   clear h1000
   have HE:=Qh (show (0:Int)=R by rw [←HR.out];refine Eq.symm ?_;exact hgo.out.trans ((if_neg HU2.out).trans ((if_neg (fun h=>absurd h.1 (show (1:Int)≠3 by decide))).trans (if_neg (fun h=>absurd h.1 (show (1:Int)≠4 by decide))))))
   go_enter Tryz.func81,Tryz.ntmps81
   go_wp2_with (first
    | (go_at_call 111;(with_reducible refine (HUv.out _).mono ?_);rintro e w2 ⟨rfl,rfl⟩)
    | (go_at_call 112;(with_reducible refine (HIn.out _).mono ?_);rintro e w4 ⟨rfl,hb4⟩)
    | (go_at_call 113;(with_reducible refine (HFl.out _).mono ?_);rintro e w5 ⟨rfl,rfl⟩))
   all_goals
    go_ret
    exact ⟨by rw [←HE.out];rfl,HX.out.1⟩
 ·skip
  by_cases hm0:ml = []
  case neg=>
   obtain ⟨f1,f2,f3⟩:=bytes_ne HM.out.2 hm0
   have HE:=Qh (show (20:Int)=R by rw [←HR.out];refine Eq.symm ?_;exact one20 (.inr (.inr (.inl (stray_m hm0 (show (2:Int)≠3 by decide))))))
   clear hm0
   go_enter Tryz.func81,Tryz.ntmps81
   go_wp2_with (first
    | (go_at_call 111;(with_reducible refine (HUv.out _).mono ?_);rintro e w2 ⟨rfl,rfl⟩)
    | (go_at_call 112;(with_reducible refine (HIn.out _).mono ?_);rintro e w4 ⟨rfl,hb4⟩)
    | (go_at_call 113;(with_reducible refine (HFl.out _).mono ?_);rintro e w5 ⟨rfl,rfl⟩))
   all_goals
    go_ret
    exact ⟨by rw [←HE.out];rfl,HX.out.1⟩
  subst hm0
  obtain rfl:mb=⟨#[]⟩:=HM.out.2.symm
  by_cases hb0:b=0
  case neg=>
   have g1:(b != 0)=true:=by simpa using hb0
   have g2:¬b=0:=hb0
   have HE:=Qh (show (20:Int)=R by rw [←HR.out];refine Eq.symm ?_;exact one20 (.inr (.inr (.inl (stray_b hb0 (show (2:Int)≠4 by decide))))))
   clear hb0
   go_enter Tryz.func81,Tryz.ntmps81
   go_wp2_with (first
    | (go_at_call 111;(with_reducible refine (HUv.out _).mono ?_);rintro e w2 ⟨rfl,rfl⟩)
    | (go_at_call 112;(with_reducible refine (HIn.out _).mono ?_);rintro e w4 ⟨rfl,hb4⟩)
    | (go_at_call 113;(with_reducible refine (HFl.out _).mono ?_);rintro e w5 ⟨rfl,rfl⟩))
   all_goals
    go_ret
    exact ⟨by rw [←HE.out];rfl,HX.out.1⟩
  subst hb0
  by_cases hv0:v=0
  case neg=>
   have g1:(v != 0)=true:=by simpa using hv0
   have g2:¬v=0:=hv0
   have HE:=Qh (show (20:Int)=R by rw [←HR.out];refine Eq.symm ?_;exact one20 (.inr (.inr (.inl (stray_v hv0 (show (2:Int)≠1 by decide))))))
   clear hv0
   go_enter Tryz.func81,Tryz.ntmps81
   go_wp2_with (first
    | (go_at_call 111;(with_reducible refine (HUv.out _).mono ?_);rintro e w2 ⟨rfl,rfl⟩)
    | (go_at_call 112;(with_reducible refine (HIn.out _).mono ?_);rintro e w4 ⟨rfl,hb4⟩)
    | (go_at_call 113;(with_reducible refine (HFl.out _).mono ?_);rintro e w5 ⟨rfl,rfl⟩))
   all_goals
    go_ret
    exact ⟨by rw [←HE.out];rfl,HX.out.1⟩
  subst hv0
  by_cases hL0:L=0
  case neg=>
   have g1:(0:Int)<(L:Int):=by omega
   have HE:=Qh (show (20:Int)=R by rw [←HR.out];refine Eq.symm ?_;exact one20 (.inr (.inr (.inl (stray_l (show ts.length≠0 by rw [HD.out.2.2.2.2];exact hL0) (show (2:Int)≠5 by decide))))))
   clear hL0
   go_enter Tryz.func81,Tryz.ntmps81
   go_wp2_with (first
    | (go_at_call 111;(with_reducible refine (HUv.out _).mono ?_);rintro e w2 ⟨rfl,rfl⟩)
    | (go_at_call 112;(with_reducible refine (HIn.out _).mono ?_);rintro e w4 ⟨rfl,hb4⟩)
    | (go_at_call 113;(with_reducible refine (HFl.out _).mono ?_);rintro e w5 ⟨rfl,rfl⟩))
   all_goals
    go_ret
    exact ⟨by rw [←HE.out];rfl,HX.out.1⟩
  subst hL0
  have hgo:=Qh (one_go (t:=.mk 2 nl [] 0 0 ts) (fun h=>by
   have hs:=stray_no (t:=.mk 2 nl [] 0 0 ts) (.inr (.inl rfl)) (.inl rfl) (.inl rfl) (.inl rfl) (.inl HD.out.2.2.2.2)
   rcases h with h | h | h | h | h
   ·exact absurd h (by show ¬(2:Int)<1;omega)
   ·exact absurd h (by show ¬(5:Int)<2;omega)
   ·rw [hs] at h;cases h
   ·exact absurd h (by show ¬(0:Int)<0;omega)
   ·exact absurd h (fun h=>absurd h.1 (show (2:Int)≠5 by decide))))
  cases U
  ·skip
   have HE:=Qh (show (21:Int)=R by rw [←HR.out];refine Eq.symm ?_;exact hgo.out.trans (if_pos (.inl HD.out.1)))
   go_enter Tryz.func81,Tryz.ntmps81
   go_wp2_with (first
    | (go_at_call 111;(with_reducible refine (HUv.out _).mono ?_);rintro e w2 ⟨rfl,rfl⟩)
    | (go_at_call 112;(with_reducible refine (HIn.out _).mono ?_);rintro e w4 ⟨rfl,hb4⟩)
    | (go_at_call 113;(with_reducible refine (HFl.out _).mono ?_);rintro e w5 ⟨rfl,rfl⟩))
   all_goals
    go_ret
    exact ⟨by rw [←HE.out];rfl,HX.out.1⟩
  by_cases h1000:1000<N
  ·have h1I:(1000:Int)<(N:Int):=by omega
   have HE:=Qh (show (21:Int)=R by rw [←HR.out];refine Eq.symm ?_;exact hgo.out.trans (if_pos (.inr (by show 1000<(nl:List UInt8).length;rw [HD.out.2.1];exact h1000))))
   clear h1000
   go_enter Tryz.func81,Tryz.ntmps81
   go_wp2_with (first
    | (go_at_call 111;(with_reducible refine (HUv.out _).mono ?_);rintro e w2 ⟨rfl,rfl⟩)
    | (go_at_call 112;(with_reducible refine (HIn.out _).mono ?_);rintro e w4 ⟨rfl,hb4⟩)
    | (go_at_call 113;(with_reducible refine (HFl.out _).mono ?_);rintro e w5 ⟨rfl,rfl⟩))
   all_goals
    go_ret
    exact ⟨by rw [←HE.out];rfl,HX.out.1⟩
  have h1I:¬(1000:Int)<(N:Int):=by omega
  have h1J:(N:Int)≤1000:=by omega
  have HU2:=Qh (show ¬(Lib.validD nl=false∨1000<(nl:List UInt8).length) from fun h=>by
   rcases h with h | h
   ·rw [HD.out.1] at h;cases h
   ·rw [HD.out.2.1] at h;exact h1000 h)
  clear h1000
  have HE:=Qh (show (0:Int)=R by rw [←HR.out];refine Eq.symm ?_;exact hgo.out.trans ((if_neg HU2.out).trans ((if_neg (fun h=>absurd h.1 (show (2:Int)≠3 by decide))).trans (if_neg (fun h=>absurd h.1 (show (2:Int)≠4 by decide))))))
  go_enter Tryz.func81,Tryz.ntmps81
  go_wp2_with (first
   | (go_at_call 111;(with_reducible refine (HUv.out _).mono ?_);rintro e w2 ⟨rfl,rfl⟩)
   | (go_at_call 112;(with_reducible refine (HIn.out _).mono ?_);rintro e w4 ⟨rfl,hb4⟩)
   | (go_at_call 113;(with_reducible refine (HFl.out _).mono ?_);rintro e w5 ⟨rfl,rfl⟩))
  all_goals
   go_ret
   exact ⟨by rw [←HE.out];rfl,HX.out.1⟩
 ·skip
  by_cases hn0:nl = []
  case neg=>
   obtain ⟨e1,e2,e3⟩:=bytes_ne HM.out.1 hn0
   have HE:=Qh (show (20:Int)=R by rw [←HR.out];refine Eq.symm ?_;exact one20 (.inr (.inr (.inl (stray_n hn0 (show (3:Int)≠2 by decide) (show (3:Int)≠5 by decide))))))
   clear hn0
   go_enter Tryz.func81,Tryz.ntmps81
   go_wp2_with (first
    | (go_at_call 111;(with_reducible refine (HUv.out _).mono ?_);rintro e w2 ⟨rfl,rfl⟩)
    | (go_at_call 112;(with_reducible refine (HIn.out _).mono ?_);rintro e w4 ⟨rfl,hb4⟩)
    | (go_at_call 113;(with_reducible refine (HFl.out _).mono ?_);rintro e w5 ⟨rfl,rfl⟩))
   all_goals
    go_ret
    exact ⟨by rw [←HE.out];rfl,HX.out.1⟩
  subst hn0
  obtain rfl:nb=⟨#[]⟩:=HM.out.1.symm
  by_cases hmz:ml = []
  ·subst hmz
   obtain rfl:mb=⟨#[]⟩:=HM.out.2.symm
   by_cases hb0:b=0
   case neg=>
    have g1:(b != 0)=true:=by simpa using hb0
    have g2:¬b=0:=hb0
    have HE:=Qh (show (20:Int)=R by rw [←HR.out];refine Eq.symm ?_;exact one20 (.inr (.inr (.inl (stray_b hb0 (show (3:Int)≠4 by decide))))))
    clear hb0
    go_enter Tryz.func81,Tryz.ntmps81
    go_wp2_with (first
     | (go_at_call 111;(with_reducible refine (HUv.out _).mono ?_);rintro e w2 ⟨rfl,rfl⟩)
     | (go_at_call 112;(with_reducible refine (HIn.out _).mono ?_);rintro e w4 ⟨rfl,hb4⟩)
     | (go_at_call 113;(with_reducible refine (HFl.out _).mono ?_);rintro e w5 ⟨rfl,rfl⟩))
    all_goals
     go_ret
     exact ⟨by rw [←HE.out];rfl,HX.out.1⟩
   subst hb0
   by_cases hv0:v=0
   case neg=>
    have g1:(v != 0)=true:=by simpa using hv0
    have g2:¬v=0:=hv0
    have HE:=Qh (show (20:Int)=R by rw [←HR.out];refine Eq.symm ?_;exact one20 (.inr (.inr (.inl (stray_v hv0 (show (3:Int)≠1 by decide))))))
    clear hv0
    go_enter Tryz.func81,Tryz.ntmps81
    go_wp2_with (first
     | (go_at_call 111;(with_reducible refine (HUv.out _).mono ?_);rintro e w2 ⟨rfl,rfl⟩)
     | (go_at_call 112;(with_reducible refine (HIn.out _).mono ?_);rintro e w4 ⟨rfl,hb4⟩)
     | (go_at_call 113;(with_reducible refine (HFl.out _).mono ?_);rintro e w5 ⟨rfl,rfl⟩))
    all_goals
     go_ret
     exact ⟨by rw [←HE.out];rfl,HX.out.1⟩
   subst hv0
   by_cases hL0:L=0
   case neg=>
    have g1:(0:Int)<(L:Int):=by omega
    have HE:=Qh (show (20:Int)=R by rw [←HR.out];refine Eq.symm ?_;exact one20 (.inr (.inr (.inl (stray_l (show ts.length≠0 by rw [HD.out.2.2.2.2];exact hL0) (show (3:Int)≠5 by decide))))))
    clear hL0
    go_enter Tryz.func81,Tryz.ntmps81
    go_wp2_with (first
     | (go_at_call 111;(with_reducible refine (HUv.out _).mono ?_);rintro e w2 ⟨rfl,rfl⟩)
     | (go_at_call 112;(with_reducible refine (HIn.out _).mono ?_);rintro e w4 ⟨rfl,hb4⟩)
     | (go_at_call 113;(with_reducible refine (HFl.out _).mono ?_);rintro e w5 ⟨rfl,rfl⟩))
    all_goals
     go_ret
     exact ⟨by rw [←HE.out];rfl,HX.out.1⟩
   subst hL0
   have hgo:=Qh (one_go (t:=.mk 3 [] [] 0 0 ts) (fun h=>by
    have hs:=stray_no (t:=.mk 3 [] [] 0 0 ts) (.inl rfl) (.inr rfl) (.inl rfl) (.inl rfl) (.inl HD.out.2.2.2.2)
    rcases h with h | h | h | h | h
    ·exact absurd h (by show ¬(3:Int)<1;omega)
    ·exact absurd h (by show ¬(5:Int)<3;omega)
    ·rw [hs] at h;cases h
    ·exact absurd h (by show ¬(0:Int)<0;omega)
    ·exact absurd h (fun h=>absurd h.1 (show (3:Int)≠5 by decide))))
   cases U
   ·skip
    have HE:=Qh (show (21:Int)=R by rw [←HR.out];refine Eq.symm ?_;exact hgo.out.trans (if_pos (.inl HD.out.1)))
    go_enter Tryz.func81,Tryz.ntmps81
    go_wp2_with (first
     | (go_at_call 111;(with_reducible refine (HUv.out _).mono ?_);rintro e w2 ⟨rfl,rfl⟩)
     | (go_at_call 112;(with_reducible refine (HIn.out _).mono ?_);rintro e w4 ⟨rfl,hb4⟩)
     | (go_at_call 113;(with_reducible refine (HFl.out _).mono ?_);rintro e w5 ⟨rfl,rfl⟩))
    all_goals
     go_ret
     exact ⟨by rw [←HE.out];rfl,HX.out.1⟩
   by_cases h1000:1000<N
   ·have h1I:(1000:Int)<(N:Int):=by omega
    have HE:=Qh (show (21:Int)=R by rw [←HR.out];refine Eq.symm ?_;exact hgo.out.trans (if_pos (.inr (by show 1000<([]:List UInt8).length;rw [HD.out.2.1];exact h1000))))
    clear h1000
    go_enter Tryz.func81,Tryz.ntmps81
    go_wp2_with (first
     | (go_at_call 111;(with_reducible refine (HUv.out _).mono ?_);rintro e w2 ⟨rfl,rfl⟩)
     | (go_at_call 112;(with_reducible refine (HIn.out _).mono ?_);rintro e w4 ⟨rfl,hb4⟩)
     | (go_at_call 113;(with_reducible refine (HFl.out _).mono ?_);rintro e w5 ⟨rfl,rfl⟩))
    all_goals
     go_ret
     exact ⟨by rw [←HE.out];rfl,HX.out.1⟩
   have h1I:¬(1000:Int)<(N:Int):=by omega
   have h1J:(N:Int)≤1000:=by omega
   have HU2:=Qh (show ¬(Lib.validD []=false∨1000<([]:List UInt8).length) from fun h=>by
    rcases h with h | h
    ·rw [HD.out.1] at h;cases h
    ·rw [HD.out.2.1] at h;exact h1000 h)
   clear h1000
   cases C
   ·skip
    have HE:=Qh (show (22:Int)=R by rw [←HR.out];refine Eq.symm ?_;exact hgo.out.trans ((if_neg HU2.out).trans (if_pos ⟨rfl,HD.out.2.2.1⟩)))
    go_enter Tryz.func81,Tryz.ntmps81
    go_wp2_with (first
     | (go_at_call 111;(with_reducible refine (HUv.out _).mono ?_);rintro e w2 ⟨rfl,rfl⟩)
     | (go_at_call 112;(with_reducible refine (HIn.out _).mono ?_);rintro e w4 ⟨rfl,hb4⟩)
     | (go_at_call 113;(with_reducible refine (HFl.out _).mono ?_);rintro e w5 ⟨rfl,rfl⟩))
    all_goals
     go_ret
     exact ⟨by rw [←HE.out];rfl,Qt HX.out.1 hb4⟩
   ·skip
    have HE:=Qh (show (0:Int)=R by rw [←HR.out];refine Eq.symm ?_;exact hgo.out.trans ((if_neg HU2.out).trans ((if_neg (fun h=>by have h2:=h.2;change canonB []=false at h2;rw [HD.out.2.2.1] at h2;cases h2)).trans (if_neg (fun h=>absurd h.1 (show (3:Int)≠4 by decide))))))
    go_enter Tryz.func81,Tryz.ntmps81
    go_wp2_with (first
     | (go_at_call 111;(with_reducible refine (HUv.out _).mono ?_);rintro e w2 ⟨rfl,rfl⟩)
     | (go_at_call 112;(with_reducible refine (HIn.out _).mono ?_);rintro e w4 ⟨rfl,hb4⟩)
     | (go_at_call 113;(with_reducible refine (HFl.out _).mono ?_);rintro e w5 ⟨rfl,rfl⟩))
    all_goals
     go_ret
     exact ⟨by rw [←HE.out];rfl,Qt HX.out.1 hb4⟩
  ·obtain ⟨f1,f2,f3⟩:=bytes_ne HM.out.2 hmz
   clear hmz
   by_cases hb0:b=0
   case neg=>
    have g1:(b != 0)=true:=by simpa using hb0
    have g2:¬b=0:=hb0
    have HE:=Qh (show (20:Int)=R by rw [←HR.out];refine Eq.symm ?_;exact one20 (.inr (.inr (.inl (stray_b hb0 (show (3:Int)≠4 by decide))))))
    clear hb0
    go_enter Tryz.func81,Tryz.ntmps81
    go_wp2_with (first
     | (go_at_call 111;(with_reducible refine (HUv.out _).mono ?_);rintro e w2 ⟨rfl,rfl⟩)
     | (go_at_call 112;(with_reducible refine (HIn.out _).mono ?_);rintro e w4 ⟨rfl,hb4⟩)
     | (go_at_call 113;(with_reducible refine (HFl.out _).mono ?_);rintro e w5 ⟨rfl,rfl⟩))
    all_goals
     go_ret
     exact ⟨by rw [←HE.out];rfl,HX.out.1⟩
   subst hb0
   by_cases hv0:v=0
   case neg=>
    have g1:(v != 0)=true:=by simpa using hv0
    have g2:¬v=0:=hv0
    have HE:=Qh (show (20:Int)=R by rw [←HR.out];refine Eq.symm ?_;exact one20 (.inr (.inr (.inl (stray_v hv0 (show (3:Int)≠1 by decide))))))
    clear hv0
    go_enter Tryz.func81,Tryz.ntmps81
    go_wp2_with (first
     | (go_at_call 111;(with_reducible refine (HUv.out _).mono ?_);rintro e w2 ⟨rfl,rfl⟩)
     | (go_at_call 112;(with_reducible refine (HIn.out _).mono ?_);rintro e w4 ⟨rfl,hb4⟩)
     | (go_at_call 113;(with_reducible refine (HFl.out _).mono ?_);rintro e w5 ⟨rfl,rfl⟩))
    all_goals
     go_ret
     exact ⟨by rw [←HE.out];rfl,HX.out.1⟩
   subst hv0
   by_cases hL0:L=0
   case neg=>
    have g1:(0:Int)<(L:Int):=by omega
    have HE:=Qh (show (20:Int)=R by rw [←HR.out];refine Eq.symm ?_;exact one20 (.inr (.inr (.inl (stray_l (show ts.length≠0 by rw [HD.out.2.2.2.2];exact hL0) (show (3:Int)≠5 by decide))))))
    clear hL0
    go_enter Tryz.func81,Tryz.ntmps81
    go_wp2_with (first
     | (go_at_call 111;(with_reducible refine (HUv.out _).mono ?_);rintro e w2 ⟨rfl,rfl⟩)
     | (go_at_call 112;(with_reducible refine (HIn.out _).mono ?_);rintro e w4 ⟨rfl,hb4⟩)
     | (go_at_call 113;(with_reducible refine (HFl.out _).mono ?_);rintro e w5 ⟨rfl,rfl⟩))
    all_goals
     go_ret
     exact ⟨by rw [←HE.out];rfl,HX.out.1⟩
   subst hL0
   have hgo:=Qh (one_go (t:=.mk 3 [] ml 0 0 ts) (fun h=>by
    have hs:=stray_no (t:=.mk 3 [] ml 0 0 ts) (.inl rfl) (.inr rfl) (.inl rfl) (.inl rfl) (.inl HD.out.2.2.2.2)
    rcases h with h | h | h | h | h
    ·exact absurd h (by show ¬(3:Int)<1;omega)
    ·exact absurd h (by show ¬(5:Int)<3;omega)
    ·rw [hs] at h;cases h
    ·exact absurd h (by show ¬(0:Int)<0;omega)
    ·exact absurd h (fun h=>absurd h.1 (show (3:Int)≠5 by decide))))
   cases U
   ·skip
    have HE:=Qh (show (21:Int)=R by rw [←HR.out];refine Eq.symm ?_;exact hgo.out.trans (if_pos (.inl HD.out.1)))
    go_enter Tryz.func81,Tryz.ntmps81
    go_wp2_with (first
     | (go_at_call 111;(with_reducible refine (HUv.out _).mono ?_);rintro e w2 ⟨rfl,rfl⟩)
     | (go_at_call 112;(with_reducible refine (HIn.out _).mono ?_);rintro e w4 ⟨rfl,hb4⟩)
     | (go_at_call 113;(with_reducible refine (HFl.out _).mono ?_);rintro e w5 ⟨rfl,rfl⟩))
    all_goals
     go_ret
     exact ⟨by rw [←HE.out];rfl,HX.out.1⟩
   by_cases h1000:1000<N
   ·have h1I:(1000:Int)<(N:Int):=by omega
    have HE:=Qh (show (21:Int)=R by rw [←HR.out];refine Eq.symm ?_;exact hgo.out.trans (if_pos (.inr (by show 1000<([]:List UInt8).length;rw [HD.out.2.1];exact h1000))))
    clear h1000
    go_enter Tryz.func81,Tryz.ntmps81
    go_wp2_with (first
     | (go_at_call 111;(with_reducible refine (HUv.out _).mono ?_);rintro e w2 ⟨rfl,rfl⟩)
     | (go_at_call 112;(with_reducible refine (HIn.out _).mono ?_);rintro e w4 ⟨rfl,hb4⟩)
     | (go_at_call 113;(with_reducible refine (HFl.out _).mono ?_);rintro e w5 ⟨rfl,rfl⟩))
    all_goals
     go_ret
     exact ⟨by rw [←HE.out];rfl,HX.out.1⟩
   have h1I:¬(1000:Int)<(N:Int):=by omega
   have h1J:(N:Int)≤1000:=by omega
   have HU2:=Qh (show ¬(Lib.validD []=false∨1000<([]:List UInt8).length) from fun h=>by
    rcases h with h | h
    ·rw [HD.out.1] at h;cases h
    ·rw [HD.out.2.1] at h;exact h1000 h)
   clear h1000
   cases C
   ·skip
    have HE:=Qh (show (22:Int)=R by rw [←HR.out];refine Eq.symm ?_;exact hgo.out.trans ((if_neg HU2.out).trans (if_pos ⟨rfl,HD.out.2.2.1⟩)))
    go_enter Tryz.func81,Tryz.ntmps81
    go_wp2_with (first
     | (go_at_call 111;(with_reducible refine (HUv.out _).mono ?_);rintro e w2 ⟨rfl,rfl⟩)
     | (go_at_call 112;(with_reducible refine (HIn.out _).mono ?_);rintro e w4 ⟨rfl,hb4⟩)
     | (go_at_call 113;(with_reducible refine (HFl.out _).mono ?_);rintro e w5 ⟨rfl,rfl⟩))
    all_goals
     go_ret
     exact ⟨by rw [←HE.out];rfl,Qt HX.out.1 hb4⟩
   ·skip
    have HE:=Qh (show (0:Int)=R by rw [←HR.out];refine Eq.symm ?_;exact hgo.out.trans ((if_neg HU2.out).trans ((if_neg (fun h=>by have h2:=h.2;change canonB ml=false at h2;rw [HD.out.2.2.1] at h2;cases h2)).trans (if_neg (fun h=>absurd h.1 (show (3:Int)≠4 by decide))))))
    go_enter Tryz.func81,Tryz.ntmps81
    go_wp2_with (first
     | (go_at_call 111;(with_reducible refine (HUv.out _).mono ?_);rintro e w2 ⟨rfl,rfl⟩)
     | (go_at_call 112;(with_reducible refine (HIn.out _).mono ?_);rintro e w4 ⟨rfl,hb4⟩)
     | (go_at_call 113;(with_reducible refine (HFl.out _).mono ?_);rintro e w5 ⟨rfl,rfl⟩))
    all_goals
     go_ret
     exact ⟨by rw [←HE.out];rfl,Qt HX.out.1 hb4⟩
 ·skip
  by_cases hn0:nl = []
  case neg=>
   obtain ⟨e1,e2,e3⟩:=bytes_ne HM.out.1 hn0
   have HE:=Qh (show (20:Int)=R by rw [←HR.out];refine Eq.symm ?_;exact one20 (.inr (.inr (.inl (stray_n hn0 (show (4:Int)≠2 by decide) (show (4:Int)≠5 by decide))))))
   clear hn0
   go_enter Tryz.func81,Tryz.ntmps81
   go_wp2_with (first
    | (go_at_call 111;(with_reducible refine (HUv.out _).mono ?_);rintro e w2 ⟨rfl,rfl⟩)
    | (go_at_call 112;(with_reducible refine (HIn.out _).mono ?_);rintro e w4 ⟨rfl,hb4⟩)
    | (go_at_call 113;(with_reducible refine (HFl.out _).mono ?_);rintro e w5 ⟨rfl,rfl⟩))
   all_goals
    go_ret
    exact ⟨by rw [←HE.out];rfl,HX.out.1⟩
  subst hn0
  obtain rfl:nb=⟨#[]⟩:=HM.out.1.symm
  by_cases hm0:ml = []
  case neg=>
   obtain ⟨f1,f2,f3⟩:=bytes_ne HM.out.2 hm0
   have HE:=Qh (show (20:Int)=R by rw [←HR.out];refine Eq.symm ?_;exact one20 (.inr (.inr (.inl (stray_m hm0 (show (4:Int)≠3 by decide))))))
   clear hm0
   go_enter Tryz.func81,Tryz.ntmps81
   go_wp2_with (first
    | (go_at_call 111;(with_reducible refine (HUv.out _).mono ?_);rintro e w2 ⟨rfl,rfl⟩)
    | (go_at_call 112;(with_reducible refine (HIn.out _).mono ?_);rintro e w4 ⟨rfl,hb4⟩)
    | (go_at_call 113;(with_reducible refine (HFl.out _).mono ?_);rintro e w5 ⟨rfl,rfl⟩))
   all_goals
    go_ret
    exact ⟨by rw [←HE.out];rfl,HX.out.1⟩
  subst hm0
  obtain rfl:mb=⟨#[]⟩:=HM.out.2.symm
  by_cases hbz:b=0
  ·subst hbz
   by_cases hv0:v=0
   case neg=>
    have g1:(v != 0)=true:=by simpa using hv0
    have g2:¬v=0:=hv0
    have HE:=Qh (show (20:Int)=R by rw [←HR.out];refine Eq.symm ?_;exact one20 (.inr (.inr (.inl (stray_v hv0 (show (4:Int)≠1 by decide))))))
    clear hv0
    go_enter Tryz.func81,Tryz.ntmps81
    go_wp2_with (first
     | (go_at_call 111;(with_reducible refine (HUv.out _).mono ?_);rintro e w2 ⟨rfl,rfl⟩)
     | (go_at_call 112;(with_reducible refine (HIn.out _).mono ?_);rintro e w4 ⟨rfl,hb4⟩)
     | (go_at_call 113;(with_reducible refine (HFl.out _).mono ?_);rintro e w5 ⟨rfl,rfl⟩))
    all_goals
     go_ret
     exact ⟨by rw [←HE.out];rfl,HX.out.1⟩
   subst hv0
   by_cases hL0:L=0
   case neg=>
    have g1:(0:Int)<(L:Int):=by omega
    have HE:=Qh (show (20:Int)=R by rw [←HR.out];refine Eq.symm ?_;exact one20 (.inr (.inr (.inl (stray_l (show ts.length≠0 by rw [HD.out.2.2.2.2];exact hL0) (show (4:Int)≠5 by decide))))))
    clear hL0
    go_enter Tryz.func81,Tryz.ntmps81
    go_wp2_with (first
     | (go_at_call 111;(with_reducible refine (HUv.out _).mono ?_);rintro e w2 ⟨rfl,rfl⟩)
     | (go_at_call 112;(with_reducible refine (HIn.out _).mono ?_);rintro e w4 ⟨rfl,hb4⟩)
     | (go_at_call 113;(with_reducible refine (HFl.out _).mono ?_);rintro e w5 ⟨rfl,rfl⟩))
    all_goals
     go_ret
     exact ⟨by rw [←HE.out];rfl,HX.out.1⟩
   subst hL0
   have hgo:=Qh (one_go (t:=.mk 4 [] [] 0 0 ts) (fun h=>by
    have hs:=stray_no (t:=.mk 4 [] [] 0 0 ts) (.inl rfl) (.inl rfl) (.inr rfl) (.inl rfl) (.inl HD.out.2.2.2.2)
    rcases h with h | h | h | h | h
    ·exact absurd h (by show ¬(4:Int)<1;omega)
    ·exact absurd h (by show ¬(5:Int)<4;omega)
    ·rw [hs] at h;cases h
    ·exact absurd h (by show ¬(0:Int)<0;omega)
    ·exact absurd h (fun h=>absurd h.1 (show (4:Int)≠5 by decide))))
   cases U
   ·skip
    have HE:=Qh (show (21:Int)=R by rw [←HR.out];refine Eq.symm ?_;exact hgo.out.trans (if_pos (.inl HD.out.1)))
    go_enter Tryz.func81,Tryz.ntmps81
    go_wp2_with (first
     | (go_at_call 111;(with_reducible refine (HUv.out _).mono ?_);rintro e w2 ⟨rfl,rfl⟩)
     | (go_at_call 112;(with_reducible refine (HIn.out _).mono ?_);rintro e w4 ⟨rfl,hb4⟩)
     | (go_at_call 113;(with_reducible refine (HFl.out _).mono ?_);rintro e w5 ⟨rfl,rfl⟩))
    all_goals
     go_ret
     exact ⟨by rw [←HE.out];rfl,HX.out.1⟩
   by_cases h1000:1000<N
   ·have h1I:(1000:Int)<(N:Int):=by omega
    have HE:=Qh (show (21:Int)=R by rw [←HR.out];refine Eq.symm ?_;exact hgo.out.trans (if_pos (.inr (by show 1000<([]:List UInt8).length;rw [HD.out.2.1];exact h1000))))
    clear h1000
    go_enter Tryz.func81,Tryz.ntmps81
    go_wp2_with (first
     | (go_at_call 111;(with_reducible refine (HUv.out _).mono ?_);rintro e w2 ⟨rfl,rfl⟩)
     | (go_at_call 112;(with_reducible refine (HIn.out _).mono ?_);rintro e w4 ⟨rfl,hb4⟩)
     | (go_at_call 113;(with_reducible refine (HFl.out _).mono ?_);rintro e w5 ⟨rfl,rfl⟩))
    all_goals
     go_ret
     exact ⟨by rw [←HE.out];rfl,HX.out.1⟩
   have h1I:¬(1000:Int)<(N:Int):=by omega
   have h1J:(N:Int)≤1000:=by omega
   have HU2:=Qh (show ¬(Lib.validD []=false∨1000<([]:List UInt8).length) from fun h=>by
    rcases h with h | h
    ·rw [HD.out.1] at h;cases h
    ·rw [HD.out.2.1] at h;exact h1000 h)
   clear h1000
   cases F
   ·skip
    have HE:=Qh (show (23:Int)=R by rw [←HR.out];refine Eq.symm ?_;exact hgo.out.trans ((if_neg HU2.out).trans ((if_neg (fun h=>absurd h.1 (show (4:Int)≠3 by decide))).trans (if_pos ⟨rfl,HD.out.2.2.2.1⟩))))
    go_enter Tryz.func81,Tryz.ntmps81
    go_wp2_with (first
     | (go_at_call 111;(with_reducible refine (HUv.out _).mono ?_);rintro e w2 ⟨rfl,rfl⟩)
     | (go_at_call 112;(with_reducible refine (HIn.out _).mono ?_);rintro e w4 ⟨rfl,hb4⟩)
     | (go_at_call 113;(with_reducible refine (HFl.out _).mono ?_);rintro e w5 ⟨rfl,rfl⟩))
    all_goals
     go_ret
     exact ⟨by rw [←HE.out];rfl,HX.out.1⟩
   ·skip
    have HE:=Qh (show (0:Int)=R by rw [←HR.out];refine Eq.symm ?_;exact hgo.out.trans ((if_neg HU2.out).trans ((if_neg (fun h=>absurd h.1 (show (4:Int)≠3 by decide))).trans (if_neg (fun h=>by have h2:=h.2;change floB 0=false at h2;rw [HD.out.2.2.2.1] at h2;cases h2)))))
    go_enter Tryz.func81,Tryz.ntmps81
    go_wp2_with (first
     | (go_at_call 111;(with_reducible refine (HUv.out _).mono ?_);rintro e w2 ⟨rfl,rfl⟩)
     | (go_at_call 112;(with_reducible refine (HIn.out _).mono ?_);rintro e w4 ⟨rfl,hb4⟩)
     | (go_at_call 113;(with_reducible refine (HFl.out _).mono ?_);rintro e w5 ⟨rfl,rfl⟩))
    all_goals
     go_ret
     exact ⟨by rw [←HE.out];rfl,HX.out.1⟩
  ·have g8:(b != 0)=true:=by simpa using hbz
   have g9:¬b=0:=hbz
   clear hbz
   by_cases hv0:v=0
   case neg=>
    have g1:(v != 0)=true:=by simpa using hv0
    have g2:¬v=0:=hv0
    have HE:=Qh (show (20:Int)=R by rw [←HR.out];refine Eq.symm ?_;exact one20 (.inr (.inr (.inl (stray_v hv0 (show (4:Int)≠1 by decide))))))
    clear hv0
    go_enter Tryz.func81,Tryz.ntmps81
    go_wp2_with (first
     | (go_at_call 111;(with_reducible refine (HUv.out _).mono ?_);rintro e w2 ⟨rfl,rfl⟩)
     | (go_at_call 112;(with_reducible refine (HIn.out _).mono ?_);rintro e w4 ⟨rfl,hb4⟩)
     | (go_at_call 113;(with_reducible refine (HFl.out _).mono ?_);rintro e w5 ⟨rfl,rfl⟩))
    all_goals
     go_ret
     exact ⟨by rw [←HE.out];rfl,HX.out.1⟩
   subst hv0
   by_cases hL0:L=0
   case neg=>
    have g1:(0:Int)<(L:Int):=by omega
    have HE:=Qh (show (20:Int)=R by rw [←HR.out];refine Eq.symm ?_;exact one20 (.inr (.inr (.inl (stray_l (show ts.length≠0 by rw [HD.out.2.2.2.2];exact hL0) (show (4:Int)≠5 by decide))))))
    clear hL0
    go_enter Tryz.func81,Tryz.ntmps81
    go_wp2_with (first
     | (go_at_call 111;(with_reducible refine (HUv.out _).mono ?_);rintro e w2 ⟨rfl,rfl⟩)
     | (go_at_call 112;(with_reducible refine (HIn.out _).mono ?_);rintro e w4 ⟨rfl,hb4⟩)
     | (go_at_call 113;(with_reducible refine (HFl.out _).mono ?_);rintro e w5 ⟨rfl,rfl⟩))
    all_goals
     go_ret
     exact ⟨by rw [←HE.out];rfl,HX.out.1⟩
   subst hL0
   have hgo:=Qh (one_go (t:=.mk 4 [] [] b 0 ts) (fun h=>by
    have hs:=stray_no (t:=.mk 4 [] [] b 0 ts) (.inl rfl) (.inl rfl) (.inr rfl) (.inl rfl) (.inl HD.out.2.2.2.2)
    rcases h with h | h | h | h | h
    ·exact absurd h (by show ¬(4:Int)<1;omega)
    ·exact absurd h (by show ¬(5:Int)<4;omega)
    ·rw [hs] at h;cases h
    ·exact absurd h (by show ¬(0:Int)<0;omega)
    ·exact absurd h (fun h=>absurd h.1 (show (4:Int)≠5 by decide))))
   cases U
   ·skip
    have HE:=Qh (show (21:Int)=R by rw [←HR.out];refine Eq.symm ?_;exact hgo.out.trans (if_pos (.inl HD.out.1)))
    go_enter Tryz.func81,Tryz.ntmps81
    go_wp2_with (first
     | (go_at_call 111;(with_reducible refine (HUv.out _).mono ?_);rintro e w2 ⟨rfl,rfl⟩)
     | (go_at_call 112;(with_reducible refine (HIn.out _).mono ?_);rintro e w4 ⟨rfl,hb4⟩)
     | (go_at_call 113;(with_reducible refine (HFl.out _).mono ?_);rintro e w5 ⟨rfl,rfl⟩))
    all_goals
     go_ret
     exact ⟨by rw [←HE.out];rfl,HX.out.1⟩
   by_cases h1000:1000<N
   ·have h1I:(1000:Int)<(N:Int):=by omega
    have HE:=Qh (show (21:Int)=R by rw [←HR.out];refine Eq.symm ?_;exact hgo.out.trans (if_pos (.inr (by show 1000<([]:List UInt8).length;rw [HD.out.2.1];exact h1000))))
    clear h1000
    go_enter Tryz.func81,Tryz.ntmps81
    go_wp2_with (first
     | (go_at_call 111;(with_reducible refine (HUv.out _).mono ?_);rintro e w2 ⟨rfl,rfl⟩)
     | (go_at_call 112;(with_reducible refine (HIn.out _).mono ?_);rintro e w4 ⟨rfl,hb4⟩)
     | (go_at_call 113;(with_reducible refine (HFl.out _).mono ?_);rintro e w5 ⟨rfl,rfl⟩))
    all_goals
     go_ret
     exact ⟨by rw [←HE.out];rfl,HX.out.1⟩
   have h1I:¬(1000:Int)<(N:Int):=by omega
   have h1J:(N:Int)≤1000:=by omega
   have HU2:=Qh (show ¬(Lib.validD []=false∨1000<([]:List UInt8).length) from fun h=>by
    rcases h with h | h
    ·rw [HD.out.1] at h;cases h
    ·rw [HD.out.2.1] at h;exact h1000 h)
   clear h1000
   cases F
   ·skip
    have HE:=Qh (show (23:Int)=R by rw [←HR.out];refine Eq.symm ?_;exact hgo.out.trans ((if_neg HU2.out).trans ((if_neg (fun h=>absurd h.1 (show (4:Int)≠3 by decide))).trans (if_pos ⟨rfl,HD.out.2.2.2.1⟩))))
    go_enter Tryz.func81,Tryz.ntmps81
    go_wp2_with (first
     | (go_at_call 111;(with_reducible refine (HUv.out _).mono ?_);rintro e w2 ⟨rfl,rfl⟩)
     | (go_at_call 112;(with_reducible refine (HIn.out _).mono ?_);rintro e w4 ⟨rfl,hb4⟩)
     | (go_at_call 113;(with_reducible refine (HFl.out _).mono ?_);rintro e w5 ⟨rfl,rfl⟩))
    all_goals
     go_ret
     exact ⟨by rw [←HE.out];rfl,HX.out.1⟩
   ·skip
    have HE:=Qh (show (0:Int)=R by rw [←HR.out];refine Eq.symm ?_;exact hgo.out.trans ((if_neg HU2.out).trans ((if_neg (fun h=>absurd h.1 (show (4:Int)≠3 by decide))).trans (if_neg (fun h=>by have h2:=h.2;change floB b=false at h2;rw [HD.out.2.2.2.1] at h2;cases h2)))))
    go_enter Tryz.func81,Tryz.ntmps81
    go_wp2_with (first
     | (go_at_call 111;(with_reducible refine (HUv.out _).mono ?_);rintro e w2 ⟨rfl,rfl⟩)
     | (go_at_call 112;(with_reducible refine (HIn.out _).mono ?_);rintro e w4 ⟨rfl,hb4⟩)
     | (go_at_call 113;(with_reducible refine (HFl.out _).mono ?_);rintro e w5 ⟨rfl,rfl⟩))
    all_goals
     go_ret
     exact ⟨by rw [←HE.out];rfl,HX.out.1⟩
 ·skip
  by_cases hm0:ml = []
  case neg=>
   obtain ⟨f1,f2,f3⟩:=bytes_ne HM.out.2 hm0
   have HE:=Qh (show (20:Int)=R by rw [←HR.out];refine Eq.symm ?_;exact one20 (.inr (.inr (.inl (stray_m hm0 (show (5:Int)≠3 by decide))))))
   clear hm0
   go_enter Tryz.func81,Tryz.ntmps81
   go_wp2_with (first
    | (go_at_call 111;(with_reducible refine (HUv.out _).mono ?_);rintro e w2 ⟨rfl,rfl⟩)
    | (go_at_call 112;(with_reducible refine (HIn.out _).mono ?_);rintro e w4 ⟨rfl,hb4⟩)
    | (go_at_call 113;(with_reducible refine (HFl.out _).mono ?_);rintro e w5 ⟨rfl,rfl⟩))
   all_goals
    go_ret
    exact ⟨by rw [←HE.out];rfl,HX.out.1⟩
  subst hm0
  obtain rfl:mb=⟨#[]⟩:=HM.out.2.symm
  by_cases hb0:b=0
  case neg=>
   have g1:(b != 0)=true:=by simpa using hb0
   have g2:¬b=0:=hb0
   have HE:=Qh (show (20:Int)=R by rw [←HR.out];refine Eq.symm ?_;exact one20 (.inr (.inr (.inl (stray_b hb0 (show (5:Int)≠4 by decide))))))
   clear hb0
   go_enter Tryz.func81,Tryz.ntmps81
   go_wp2_with (first
    | (go_at_call 111;(with_reducible refine (HUv.out _).mono ?_);rintro e w2 ⟨rfl,rfl⟩)
    | (go_at_call 112;(with_reducible refine (HIn.out _).mono ?_);rintro e w4 ⟨rfl,hb4⟩)
    | (go_at_call 113;(with_reducible refine (HFl.out _).mono ?_);rintro e w5 ⟨rfl,rfl⟩))
   all_goals
    go_ret
    exact ⟨by rw [←HE.out];rfl,HX.out.1⟩
  subst hb0
  by_cases hv0:v=0
  case neg=>
   have g1:(v != 0)=true:=by simpa using hv0
   have g2:¬v=0:=hv0
   have HE:=Qh (show (20:Int)=R by rw [←HR.out];refine Eq.symm ?_;exact one20 (.inr (.inr (.inl (stray_v hv0 (show (5:Int)≠1 by decide))))))
   clear hv0
   go_enter Tryz.func81,Tryz.ntmps81
   go_wp2_with (first
    | (go_at_call 111;(with_reducible refine (HUv.out _).mono ?_);rintro e w2 ⟨rfl,rfl⟩)
    | (go_at_call 112;(with_reducible refine (HIn.out _).mono ?_);rintro e w4 ⟨rfl,hb4⟩)
    | (go_at_call 113;(with_reducible refine (HFl.out _).mono ?_);rintro e w5 ⟨rfl,rfl⟩))
   all_goals
    go_ret
    exact ⟨by rw [←HE.out];rfl,HX.out.1⟩
  subst hv0
  by_cases hL0:L=0
  ·subst hL0
   have HE:=Qh (show (20:Int)=R by rw [←HR.out];refine Eq.symm ?_;exact one20 (.inr (.inr (.inr (.inr ⟨rfl,.inl HD.out.2.2.2.2⟩)))))
   go_enter Tryz.func81,Tryz.ntmps81
   go_wp2_with (first
    | (go_at_call 111;(with_reducible refine (HUv.out _).mono ?_);rintro e w2 ⟨rfl,rfl⟩)
    | (go_at_call 112;(with_reducible refine (HIn.out _).mono ?_);rintro e w4 ⟨rfl,hb4⟩)
    | (go_at_call 113;(with_reducible refine (HFl.out _).mono ?_);rintro e w5 ⟨rfl,rfl⟩))
   all_goals
    go_ret
    exact ⟨by rw [←HE.out];rfl,HX.out.1⟩
  by_cases hL6:64<L
  ·have g1:(64:Int)<(L:Int):=by omega
   have g2:¬(L:Int)=0:=by omega
   have g3:(0:Int)<(L:Int):=by omega
   have HE:=Qh (show (20:Int)=R by rw [←HR.out];refine Eq.symm ?_;exact one20 (.inr (.inr (.inr (.inr ⟨rfl,.inr (by show 64<ts.length;rw [HD.out.2.2.2.2];exact hL6)⟩)))))
   clear hL0 hL6
   go_enter Tryz.func81,Tryz.ntmps81
   go_wp2_with (first
    | (go_at_call 111;(with_reducible refine (HUv.out _).mono ?_);rintro e w2 ⟨rfl,rfl⟩)
    | (go_at_call 112;(with_reducible refine (HIn.out _).mono ?_);rintro e w4 ⟨rfl,hb4⟩)
    | (go_at_call 113;(with_reducible refine (HFl.out _).mono ?_);rintro e w5 ⟨rfl,rfl⟩))
   all_goals
    go_ret
    exact ⟨by rw [←HE.out];rfl,HX.out.1⟩
  have g1:(L:Int)≤64:=by omega
  have g2:¬(L:Int)=0:=by omega
  have g3:(0:Int)<(L:Int):=by omega
  have g4:¬L=0:=by omega
  have g5:L≤64:=by omega
  have g6:((L:Int)==0)=false:=beq_eq_false_iff_ne.2 g2
  have g7:decide (64<L)=false:=decide_eq_false (by omega)
  have g8:(L==0)=false:=beq_eq_false_iff_ne.2 g4
  have hgo:=Qh (one_go (t:=.mk 5 nl [] 0 0 ts) (fun h=>by
   have hs:=stray_no (t:=.mk 5 nl [] 0 0 ts) (.inr (.inr rfl)) (.inl rfl) (.inl rfl) (.inl rfl) (.inr rfl)
   rcases h with h | h | h | h | h
   ·exact absurd h (by show ¬(5:Int)<1;omega)
   ·exact absurd h (by show ¬(5:Int)<5;omega)
   ·rw [hs] at h;cases h
   ·exact absurd h (by show ¬(0:Int)<0;omega)
   ·exact absurd h (fun h=>by have:=h.2;have e:=HD.out.2.2.2.2;change ts.length=0∨64<ts.length at this;rw [e] at this;omega)))
  clear hL0 hL6
  cases U
  ·skip
   have HE:=Qh (show (21:Int)=R by rw [←HR.out];refine Eq.symm ?_;exact hgo.out.trans (if_pos (.inl HD.out.1)))
   go_enter Tryz.func81,Tryz.ntmps81
   go_wp2_with (first
    | (go_at_call 111;(with_reducible refine (HUv.out _).mono ?_);rintro e w2 ⟨rfl,rfl⟩)
    | (go_at_call 112;(with_reducible refine (HIn.out _).mono ?_);rintro e w4 ⟨rfl,hb4⟩)
    | (go_at_call 113;(with_reducible refine (HFl.out _).mono ?_);rintro e w5 ⟨rfl,rfl⟩))
   all_goals
    go_ret
    exact ⟨by rw [←HE.out];rfl,HX.out.1⟩
  by_cases h1000:1000<N
  ·have h1I:(1000:Int)<(N:Int):=by omega
   have HE:=Qh (show (21:Int)=R by rw [←HR.out];refine Eq.symm ?_;exact hgo.out.trans (if_pos (.inr (by show 1000<(nl:List UInt8).length;rw [HD.out.2.1];exact h1000))))
   clear h1000
   go_enter Tryz.func81,Tryz.ntmps81
   go_wp2_with (first
    | (go_at_call 111;(with_reducible refine (HUv.out _).mono ?_);rintro e w2 ⟨rfl,rfl⟩)
    | (go_at_call 112;(with_reducible refine (HIn.out _).mono ?_);rintro e w4 ⟨rfl,hb4⟩)
    | (go_at_call 113;(with_reducible refine (HFl.out _).mono ?_);rintro e w5 ⟨rfl,rfl⟩))
   all_goals
    go_ret
    exact ⟨by rw [←HE.out];rfl,HX.out.1⟩
  have h1I:¬(1000:Int)<(N:Int):=by omega
  have h1J:(N:Int)≤1000:=by omega
  have HU2:=Qh (show ¬(Lib.validD nl=false∨1000<(nl:List UInt8).length) from fun h=>by
   rcases h with h | h
   ·rw [HD.out.1] at h;cases h
   ·rw [HD.out.2.1] at h;exact h1000 h)
  clear h1000
  have HE:=Qh (show (0:Int)=R by rw [←HR.out];refine Eq.symm ?_;exact hgo.out.trans ((if_neg HU2.out).trans ((if_neg (fun h=>absurd h.1 (show (5:Int)≠3 by decide))).trans (if_neg (fun h=>absurd h.1 (show (5:Int)≠4 by decide))))))
  go_enter Tryz.func81,Tryz.ntmps81
  go_wp2_with (first
   | (go_at_call 111;(with_reducible refine (HUv.out _).mono ?_);rintro e w2 ⟨rfl,rfl⟩)
   | (go_at_call 112;(with_reducible refine (HIn.out _).mono ?_);rintro e w4 ⟨rfl,hb4⟩)
   | (go_at_call 113;(with_reducible refine (HFl.out _).mono ?_);rintro e w5 ⟨rfl,rfl⟩))
  all_goals
   go_ret
   exact ⟨by rw [←HE.out];rfl,HX.out.1⟩
end
end Go.Proofs.YtpikjceodmepiaaGreatDoor
namespace Ht
namespace Tm
end Tm
section
end
end Ht
namespace Ht
end Ht
namespace Go.Proofs.YtpikjceodmepiaaGreatDoor
section
open Go.RowKit Hb Ht
def RCountOk (t:Tm):Prop:=∀ (w:World) (sl:Value) (n:Nat),TAt w w.heap.size t sl→n≤4000→Calls Tryz.prog 80 #[valT t sl,.int .i64 (n:Int)] w fun e w'=>e = .returned (.int .i64 (cnt t n:Nat))∧Below w.heap.size w w'
theorem rcount_any (t:Tm):RCountOk t:=by
 refine Tm.ind (p:=RCountOk) (fun k nl ml b v ts ih=>?_) t
 intro w sl n h hn
 obtain ⟨A,c,rfl,hl1,hl2,hl3⟩:=h.slice
 obtain ⟨nb,hnb⟩:∃ nb:ByteArray,(⟨nl.toArray⟩:ByteArray)=nb:=⟨_,rfl⟩
 obtain ⟨mb,hmb⟩:∃ mb:ByteArray,(⟨ml.toArray⟩:ByteArray)=mb:=⟨_,rfl⟩
 obtain ⟨L,hL⟩:∃ L,ts.length=L:=⟨_,rfl⟩
 change ts.length≤c at hl1
 change ts.length≤maxArgs at hl3
 change TAt w w.heap.size (.mk k nl ml b v ts) (.slice A ts.length c) at h
 change Calls Tryz.prog 80 #[valT _ (.slice A ts.length c),_] w _
 rw [valT_mk hnb hmb]
 rw [hL] at h hl1 hl3 ⊢
 obtain ⟨R,hR⟩:∃ R,cnt (.mk k nl ml b v ts) n=R:=⟨_,rfl⟩
 rw [hR]
 have hRs:cnts ts (n+1)=R:=by rw [←hR];rfl
 have HIH:=Qh ih
 have HT:=Qh h
 have HL:=Qh (Qa hL hRs)
 have hLI:(L:Int)≤1759218604400:=by unfold maxArgs at hl3;omega
 have hX:=TBox.new (ts:=ts) w (k:=k) (b:=b) (v:=v) (sl:=.slice A L c) hnb hmb
 have hB:=Qh (show Below w.heap.size w (w.alloc (.cells (Q5 k nb mb b v (.slice A L c)) 26)) from Qb)
 obtain ⟨x0,x1,x2,x3,x4,x5⟩:=hX.cells hnb hmb
 have HX:=Qh hX
 have HM:=Qh (Qa hnb hmb)
 clear ih h hR hRs hL hnb hmb hX
 go_enter Tryz.func80,Tryz.ntmps80
 go_upto_region 3 with fail
 obtain ⟨W1,hW1⟩:∃ W1,w.alloc (.cells (Q5 k nb mb b v (.slice A L c)) 26)=W1:=⟨_,rfl⟩
 rw [hW1] at hB HX x0 x1 x2 x3 x4 x5 ⊢
 have HT1:=Qh (HT.out.to hB.out hB.out.size)
 clear hW1 x0 x1 x2 x3 x4 x5
 go_loopw [1,5] (fun v1 v5 wr=>∃ x i:Nat,v1 = .int .i64 (x:Int)∧v5 = .int .i64 (i:Int)∧i≤L∧x≤4001∧Hid (cnts (ts.drop i) x=R∧Below W1.heap.size W1 wr)) (fun _ v5 _=>((L:Int) - intOf v5).toNat)
 case atStart=>exact ⟨n+1,0,rfl,rfl,Nat.zero_le _,by omega,Qh ⟨HL.out.2,Below.refl _ _⟩⟩
 case round=>
  obtain ⟨x,i,rfl,rfl,hi,hx,HI⟩:=hrel
  have hXr:=HX.out.below HI.out.2
  obtain ⟨x0,x1,x2,x3,x4,x5⟩:=hXr.cells HM.out.1 HM.out.2
  clear hXr
  by_cases hlt:i<L
  ·have hltI:(i:Int)<(L:Int):=by omega
   have hi0:(0:Int)≤(i:Int):=by omega
   have hil:i<ts.length:=by rw [HL.out.1];exact hlt
   obtain ⟨a,ha⟩:∃ a,ts[i]?=some a:=⟨_,List.getElem?_eq_getElem hil⟩
   have hTr:=(HT1.out.to HI.out.2 HI.out.2.size)
   obtain ⟨g,o,rfl,hgB,helt⟩:=hTr.arg ha
   obtain ⟨A',c',k',n',m',b',v',ts',nb',mb',rfl,hnb',hmb',hta,e0,e1,e2,e3,e4,e5⟩:=EltAt.cells helt
   have hd:ts.drop i = .mk k' n' m' b' v' ts' :: ts.drop (i+1):=by rw [List.drop_eq_getElem_cons hil,←List.getElem?_eq_some_iff.1 ha |>.2]
   have HC:=Qh (HIH.out _ (List.mem_of_getElem? ha))
   have HN:=Qh (Qa hnb' hmb')
   have HTA:=Qh hta
   have HLT:=Qh hlt
   have HD:=Qh hd
   clear hTr helt hta hnb' hmb' ha hil hlt hd hi
   by_cases hbig:4000<x
   ·have hbI:¬(x:Int)≤4000:=by omega
    have HE:=Qh (show x=R from by
     have h9:=HI.out.1
     rw [HD.out,cnts,if_pos hbig] at h9
     exact h9)
    have HB2:=Qh HI.out.2
    clear hbig
    go_wp2
    go_ret
    exact ⟨by rw [HE.out];rfl,Qt hB.out HB2.out⟩
   ·have hbI:(x:Int)≤4000:=by omega
    have HE:=Qh (show cnts (ts.drop (i+1)) (cnt (.mk k' n' m' b' v' ts') x)=R from by
     have h9:=HI.out.1
     rw [HD.out,cnts,if_neg hbig] at h9
     exact h9)
    have HCl:=Qh (HC.out wr (.slice A' ts'.length c') x HTA.out (by omega))
    rw [valT_mk HN.out.1 HN.out.2] at HCl
    have HSm:=Qh (cnt_small (.mk k' n' m' b' v' ts') x (by omega))
    have HB2:=Qh HI.out.2
    generalize cnt (.mk k' n' m' b' v' ts') x=z at *
    clear hbig
    go_wp2_with (go_at_call 80;(with_reducible refine HCl.out.mono ?_);rintro e w' ⟨rfl,hb3⟩;have HB3:=Qh (HB2.out.trans (hb3.mono HB2.out.size));clear hb3)
    go_roundw
    case rel=>exact ⟨z,i+1,rfl,rfl,HLT.out,HSm.out,Qh ⟨HE.out,HB3.out⟩⟩
    case measure=>
     have:=HLT.out
     show ((L:Int) - ((i:Int)+1)).toNat<((L:Int) - (i:Int)).toNat
     omega
  ·have ei:i=L:=by omega
   subst ei
   have HE:=Qh (show x=R∧Below W1.heap.size W1 wr from by
    have h9:=HI.out
    rw [List.drop_of_length_le (by rw [HL.out.1];exact Nat.le_refl _)] at h9
    exact h9)
   clear hlt hi
   go_wp2
   go_ret
   exact ⟨by rw [HE.out.1];rfl,Qt hB.out HE.out.2⟩
theorem rNodes_any {w:World} {t:Tm} {sl:Value} (h:TAt w w.heap.size t sl):Calls Tryz.prog 44 #[valT t sl] w fun e w'=>e = .returned (.int .i64 (nodes t:Nat))∧Below w.heap.size w w':=by
 obtain ⟨k,nl,ml,b,v,ts,nb,mb,A,c,rfl,rfl,hnb,hmb,hl1,hl2,hl3,hv,hs1,hs2⟩:=h.letters
 have hc:=rcount_any (.mk k nl ml b v ts) (w.alloc (.cells (Q5 k nb mb b v (.slice A ts.length c)) 26)) (.slice A ts.length c) 0 (h.boxed _) (by omega)
 have hR:nodes (.mk k nl ml b v ts)=min (cnt (.mk k nl ml b v ts) 0) 4001:=rfl
 have hsm:=cnt_small (.mk k nl ml b v ts) 0 (by omega)
 rw [hv,show ((0:Nat):Int)=0 from rfl] at hc
 rw [hv,hR]
 generalize cnt (.mk k nl ml b v ts) 0=z at *
 rw [show min z 4001=z by omega]
 have HC:=Qh hc
 have hX:=TBox.new (ts:=ts) w (k:=k) (b:=b) (v:=v) (sl:=.slice A ts.length c) hnb hmb
 have HB:=Qh (show Below w.heap.size w (w.alloc (.cells (Q5 k nb mb b v (.slice A ts.length c)) 26)) from Qb)
 obtain ⟨x0,x1,x2,x3,x4,x5⟩:=hX.cells hnb hmb
 have hzI:(z:Int)≤4001:=by omega
 clear hc h hv hR hX
 go_enter Tryz.func44,Tryz.ntmps44
 go_upto_region 2 with (go_at_call 80;(with_reducible refine HC.out.mono ?_);rintro e w' ⟨rfl,hb3⟩;have HB3:=Qh (HB.out.trans (hb3.mono HB.out.size));clear hb3)
 by_cases hz:4000<z
 ·have hz1:z=4001:=by omega
  subst hz1
  go_wp2
  go_ret
  exact ⟨rfl,HB3.out⟩
 ·have hzI:¬(4000:Int)<(z:Int):=by omega
  go_wp2
  go_ret
  exact ⟨rfl,HB3.out⟩
end
end Go.Proofs.YtpikjceodmepiaaGreatDoor
namespace Ht
mutual
def Fits:Tm→Prop
 | .mk _ n _ _ _ ts=>n.length≤4611686018427387904∧Fitss ts
def Fitss:List Tm→Prop
 | []=>True
 | a :: ts=>Fits a∧Fitss ts
end
theorem Fitss.iff:∀ {ts:List Tm},Fitss ts↔∀ a∈ts,Fits a
 | []=>by simp [Fitss]
 | a :: ts=>by rw [Fitss,Fitss.iff (ts:=ts)];simp
theorem Fits.iff {t:Tm} : Fits t↔t.n.length≤4611686018427387904∧∀ a∈t.as,Fits a:=by
 obtain ⟨k,n,m,b,v,ts⟩:=t
 rw [Fits,Fitss.iff]
 rfl
end Ht
namespace Go.Proofs.YtpikjceodmepiaaGreatDoor
section
open Go.ChangeShapes Go.WideShapes Go.ChangeAt Go.RowKit Go.Joins Go.Deep Hb Ht
section
end
end
section
open Go.RowKit Hb Ht
attribute [local go_sem] Oper.semAt_some
def RAllOk (t:Tm):Prop:=∀ (w:World) (sl:Value),TAt w w.heap.size t sl→Fits t→Calls Tryz.prog 45 #[valT t sl] w fun e w'=>e = .returned (.int .i64 (errsP t))∧Below w.heap.size w w'
theorem rall_any (t:Tm):RAllOk t:=by
 refine Tm.ind (p:=RAllOk) (fun k nl ml b v ts ih=>?_) t
 intro w sl h hFit
 obtain ⟨A,c,rfl,hl1,hl2,hl3⟩:=h.slice
 obtain ⟨nb,hnb⟩:∃ nb:ByteArray,(⟨nl.toArray⟩:ByteArray)=nb:=⟨_,rfl⟩
 obtain ⟨mb,hmb⟩:∃ mb:ByteArray,(⟨ml.toArray⟩:ByteArray)=mb:=⟨_,rfl⟩
 obtain ⟨L,hL⟩:∃ L,ts.length=L:=⟨_,rfl⟩
 change ts.length≤c at hl1
 change ts.length≤maxArgs at hl3
 change TAt w w.heap.size (.mk k nl ml b v ts) (.slice A ts.length c) at h
 change Calls Tryz.prog 45 #[valT _ (.slice A ts.length c)] w _
 have hNd:=fun w1 (hb:Below w.heap.size w w1)=>rone_any (h.to hb hb.size) (Fits.iff.1 hFit).1
 simp only [valT_mk hnb hmb] at hNd
 rw [valT_mk hnb hmb]
 rw [hL] at h hl1 hl3 hNd ⊢
 obtain ⟨R,hR⟩:∃ R,errsP (.mk k nl ml b v ts)=R:=⟨_,rfl⟩
 obtain ⟨R0,hR0⟩:∃ R0,oneP (.mk k nl ml b v ts)=R0:=⟨_,rfl⟩
 rw [hR]
 have HR:=Qh (show (R0≠0→R0=R)∧(R0=0→errss Lib.validD canonB floB ts=R) from by
  have h9:(if oneP (.mk k nl ml b v ts)≠0 then oneP (.mk k nl ml b v ts) else errss Lib.validD canonB floB ts)=R:=hR
  rw [hR0] at h9
  by_cases h0:R0=0
  ·rw [if_neg (by simp [h0])] at h9;exact ⟨fun h=>absurd h0 h,fun _=>h9⟩
  ·rw [if_pos h0] at h9;exact ⟨fun _=>h9,fun h=>absurd h h0⟩)
 have HNd:=Qh hNd
 rw [hR0] at HNd
 have HIH:=Qh (Qa ih (Fits.iff.1 hFit).2)
 have HT:=Qh h
 have HL:=Qh hL
 have HM:=Qh (Qa hnb hmb)
 have hLI:(L:Int)≤1759218604400:=by unfold maxArgs at hl3;omega
 obtain ⟨W1,hW1⟩:∃ W1,w.alloc (.cells (Q5 k nb mb b v (.slice A L c)) 26)=W1:=⟨_,rfl⟩
 have hb1:Below w.heap.size w W1:=by rw [←hW1];exact Qb
 have hX:=TBox.new (ts:=ts) w (k:=k) (b:=b) (v:=v) (sl:=.slice A L c) hnb hmb
 rw [hW1] at hX
 obtain ⟨x0,x1,x2,x3,x4,x5⟩:=hX.cells hnb hmb
 have HB:=Qh (Qa hb1 hX)
 subst hW1
 clear ih h hR hR0 hL hnb hmb hX hb1 hNd hFit
 go_enter Tryz.func45,Tryz.ntmps45
 go_wp2_with fail
 (with_reducible refine (HNd.out _ HB.out.1).mono ?_)
 rintro e w2 ⟨rfl,hb2⟩
 have HB2:=Qh (Qa (Qt HB.out.1 hb2) (HB.out.2.below hb2))
 clear hb2 x0 x1 x2 x3 x4 x5 HNd
 go_upto_region 3 with fail
 go_loopw [3,4] (fun v3 v4 wr=>∃ (i:Nat) (E:Int),v3 = .int .i64 E∧v4 = .int .i64 (i:Int)∧i≤L∧Hid ((E≠0→E=R)∧(E=0→errss Lib.validD canonB floB (ts.drop i)=R)∧Below w.heap.size w wr∧TBox wr w.heap.size (.mk k nl ml b v ts) (.slice A L c))) (fun _ v4 _=>((L:Int) - intOf v4).toNat)
 case atStart=>exact ⟨0,R0,rfl,rfl,Nat.zero_le _,Qh ⟨HR.out.1,HR.out.2,HB2.out.1,HB2.out.2⟩⟩
 case round=>
  obtain ⟨i,E,rfl,rfl,hi,HI⟩:=hrel
  obtain ⟨x0,x1,x2,x3,x4,x5⟩:=HI.out.2.2.2.cells HM.out.1 HM.out.2
  by_cases hlt:i<L
  ·have hltI:(i:Int)<(L:Int):=by omega
   have hi0:(0:Int)≤(i:Int):=by omega
   by_cases h0:E=0
   ·subst h0
    have hil:i<ts.length:=by rw [HL.out];exact hlt
    obtain ⟨a,ha⟩:∃ a,ts[i]?=some a:=⟨_,List.getElem?_eq_getElem hil⟩
    obtain ⟨g,o,rfl,hgB,helt⟩:=(HT.out.to HI.out.2.2.1 HI.out.2.2.1.size).arg ha
    have HD:=Qh (errss_drop ha (HI.out.2.1 rfl))
    obtain ⟨A',c',k',n',m',b',v',ts',nb',mb',rfl,hnb',hmb',hta,e0,e1,e2,e3,e4,e5⟩:=EltAt.cells helt
    obtain ⟨q,hq⟩:∃ q,ts'.length=q:=⟨_,rfl⟩
    have hC:=HIH.out.1 _ (List.mem_of_getElem? ha) wr _ hta (HIH.out.2 _ (List.mem_of_getElem? ha))
    rw [valT_mk hnb' hmb',hq] at hC
    obtain ⟨R1,hR1⟩:∃ R1,errsP (.mk k' n' m' b' v' ts')=R1:=⟨_,rfl⟩
    rw [hR1] at hC HD
    have HC:=Qh hC
    have HLT:=Qh hlt
    rw [hq] at e5
    clear helt hta hnb' hmb' ha hil hlt hi hq hC hR1
    go_wp2_with (go_at_call 45;(with_reducible refine HC.out.mono ?_);rintro e w' ⟨rfl,hb4⟩;have HB4:=Qh (Qa (HI.out.2.2.1.trans (hb4.mono HI.out.2.2.1.size)) (HI.out.2.2.2.below hb4));clear hb4)
    refine ⟨⟨i+1,R1,rfl,rfl,HLT.out,Qh ⟨HD.out.1,HD.out.2,HB4.out.1,HB4.out.2⟩⟩,?_⟩
    have:=HLT.out
    show ((L:Int) - ((i:Int)+1)).toNat<((L:Int) - (i:Int)).toNat
    omega
   ·have h0b:(E==0)=false:=beq_eq_false_iff_ne.2 h0
    have HE:=Qh (HI.out.1 h0)
    clear h0 hlt hi
    go_wp2
    go_ret
    exact ⟨by rw [←HE.out];rfl,HI.out.2.2.1⟩
  ·have ei:i=L:=by omega
   subst ei
   have HE:=Qh (show E=R from by
    by_cases h0:E=0
    ·have h9:=HI.out.2.1 h0
     rw [List.drop_of_length_le (by rw [HL.out];exact Nat.le_refl _)] at h9
     rw [h0];exact h9
    ·exact HI.out.1 h0)
   clear hlt hi
   go_wp2
   go_ret
   exact ⟨by rw [←HE.out];rfl,HI.out.2.2.1⟩
theorem rCheck_any {w:World} {t:Tm} {sl:Value} (h:TAt w w.heap.size t sl) (hf:Fits t):Calls Tryz.prog 12 #[valT t sl] w fun e w'=>e = .returned (.int .i64 (checkP t))∧Below w.heap.size w w':=by
 obtain ⟨k,nl,ml,b,v,ts,nb,mb,A,c,rfl,rfl,hnb,hmb,hl1,hl2,hl3,hv,hs1,hs2⟩:=h.letters
 have hb1:Below w.heap.size w (w.alloc (.cells (Q5 k nb mb b v (.slice A ts.length c)) 26)):=Qb
 have HC:=Qh (rNodes_any (h.to hb1 hb1.size))
 have HN:=Qh (fun w2 (hb:Below _ (w.alloc (.cells (Q5 k nb mb b v (.slice A ts.length c)) 26)) w2)=>rall_any (.mk k nl ml b v ts) w2 (.slice A ts.length c) ((h.to hb1 hb1.size).to hb hb.size) hf)
 rw [hv] at HC HN ⊢
 obtain ⟨n,hn⟩:∃ n,nodes (.mk k nl ml b v ts)=n:=⟨_,rfl⟩
 obtain ⟨E,hE⟩:∃ E,errsP (.mk k nl ml b v ts)=E:=⟨_,rfl⟩
 have hR:checkP (.mk k nl ml b v ts)=if 4000<n then 24 else E:=by rw [←hn,←hE];rfl
 have hnl:n≤4001:=by rw [←hn];unfold nodes;omega
 rw [hR]
 rw [hn] at HC
 rw [hE] at HN
 have hX:=TBox.new (ts:=ts) w (k:=k) (b:=b) (v:=v) (sl:=.slice A ts.length c) hnb hmb
 have HB:=Qh (Qa hb1 hX)
 have HM:=Qh (Qa hnb hmb)
 obtain ⟨x0,x1,x2,x3,x4,x5⟩:=hX.cells hnb hmb
 have hzI:(n:Int)≤4001:=by omega
 clear h hv hR hX hn hE hb1 hf
 by_cases hz:4000<n
 ·have hzI:(4000:Int)<(n:Int):=by omega
  rw [if_pos hz]
  clear hz
  go_enter Tryz.func12,Tryz.ntmps12
  go_wp2_with (go_at_call 44;(with_reducible refine HC.out.mono ?_);rintro e w' ⟨rfl,hb3⟩;have HB3:=Qh (HB.out.1.trans (hb3.mono HB.out.1.size));clear hb3)
  go_ret
  exact ⟨rfl,HB3.out⟩
 ·have hzI:¬(4000:Int)<(n:Int):=by omega
  rw [if_neg hz]
  clear hz
  go_enter Tryz.func12,Tryz.ntmps12
  go_wp2_with (first
   | (go_at_call 44;(with_reducible refine HC.out.mono ?_);rintro e w' ⟨rfl,hb3⟩;obtain ⟨y0,y1,y2,y3,y4,y5⟩:=(HB.out.2.below hb3).cells HM.out.1 HM.out.2;have HB3:=Qh (Qa (HB.out.1.trans (hb3.mono HB.out.1.size)) hb3);clear hb3)
   | (go_at_call 45;(with_reducible refine (HN.out _ HB3.out.2).mono ?_);rintro e w' ⟨rfl,hb4⟩;have HB4:=Qh (HB3.out.1.trans (hb4.mono HB3.out.1.size));clear hb4))
  go_ret
  exact ⟨rfl,HB4.out⟩
end
section
open Go.RowKit Hb Hf Ht
attribute [local go_sem ↓] Go.wp_at_zero Go.wp_at_succ
attribute [local go_sem] Oper.semAt_some
theorem cmpB_eq {a b:Bd} (ha:a.Tri) (hb:b.Tri):cmpB a b=0↔a.ed=b.ed:=by
 obtain ⟨ai,ag,aA,an,ac,al⟩:=a
 obtain ⟨bi,bg,bA,bn,bc,bl⟩:=b
 unfold Bd.Tri at ha hb
 simp only at ha hb
 rcases ha with rfl | rfl | rfl <;> rcases hb with rfl | rfl | rfl <;> simp [cmpB,Bd.ed,cmpZ]
 split
 ·omega
 ·split <;> omega
theorem tm_letters (t:Tm):∃ k nb mb b v,∀ sl,Ht.cells6 t sl = [.int .i64 k,.string nb,.string mb,.int .u64 b,.int .i64 v,sl]:=⟨_,_,_,_,_,fun _=>rfl⟩
theorem end_letters (e:Ed):∃ k nb mb,∀ sl,Ht.cells6 (endT e) sl = [.int .i64 k,.string nb,.string mb,.int .u64 0,.int .i64 0,sl]:=by
 cases e <;> exact ⟨_,_,_,fun _=>rfl⟩
theorem TBox.cellsL {w:World} {g:Nat} {t:Tm} {sl a0 a1 a2 a3 a4:Value} (h:TBox w g t sl) (hl:∀ sl,Ht.cells6 t sl = [a0,a1,a2,a3,a4,sl]):w.cell? ⟨g,0,none⟩=some a0∧w.cell? ⟨g,1,none⟩=some a1∧w.cell? ⟨g,2,none⟩=some a2∧w.cell? ⟨g,3,none⟩=some a3∧w.cell? ⟨g,4,none⟩=some a4∧w.cell? ⟨g,5,none⟩=some sl:=by
 unfold TBox at h
 rw [hl] at h
 refine ⟨?_,?_,?_,?_,?_,?_⟩ <;> (rw [cell_of_row w g _ _ _ (0,0) h];rfl)
theorem TBox.setL {w:World} {g:Nat} {t t':Tm} {sl sl' a0 a1 a2 a3 a4:Value} (h:TBox w g t sl) (hl:∀ sl,Ht.cells6 t' sl = [a0,a1,a2,a3,a4,sl]) :
  TBox ((((((w.setCell ⟨g,0,none⟩ a0).setCell ⟨g,1,none⟩ a1).setCell ⟨g,2,none⟩ a2).setCell ⟨g,3,none⟩ a3).setCell ⟨g,4,none⟩ a4).setCell ⟨g,5,none⟩ sl') g t' sl'∧w.grownBy ((((((w.setCell ⟨g,0,none⟩ a0).setCell ⟨g,1,none⟩ a1).setCell ⟨g,2,none⟩ a2).setCell ⟨g,3,none⟩ a3).setCell ⟨g,4,none⟩ a4).setCell ⟨g,5,none⟩ sl') (some g):=by
 refine ⟨?_,gb_setCell (gb_setCell (gb_setCell (gb_setCell (gb_setCell (gb_setCell (gb_refl _ _) _ _) _ _) _ _) _ _) _ _) _ _⟩
 unfold TBox at h ⊢
 rw [hl]
 obtain ⟨c0,c1,c2,c3,c4,hc⟩:=tm_letters t
 rw [hc] at h
 simp [World.setCell,Array.getElem?_modify,h]
theorem TBox.newL (w:World) {t:Tm} {sl a0 a1 a2 a3 a4:Value} (hl:∀ sl,Ht.cells6 t sl = [a0,a1,a2,a3,a4,sl]):TBox (w.alloc (.cells #[a0,a1,a2,a3,a4,sl] 26)) w.heap.size t sl:=by
 unfold TBox
 rw [hl]
 exact heap_alloc_new w _
theorem TBox.gro {w w':World} {g N:Nat} {t:Tm} {sl:Value} (h:TBox w g t sl) (hg:w.grownBy w' (some N)) (hn:g≠N):TBox w' g t sl:=(hg.block g (Array.getElem?_eq_some_iff.1 h).1 (fun e=>by injection e with e;exact hn e)).trans h
def accT:List R→Tm
 | []=>zeroT
 | r :: rs=>rs.foldl orT (spanT r)
theorem accT_snoc:∀ {L:List R} {r:R},L ≠ []→accT (L ++ [r])=orT (accT L) r
 | [],_,h=>absurd rfl h
 | s :: L,r,_=>by simp [accT,List.foldl_append]
theorem accT_set {L:List R} (h:L ≠ []):setT L=accT L:=by cases L with
 | nil=>exact absurd rfl h
 | cons r rs=>rfl
theorem of_ok2 {w:World} {P:Nat→Prop} {ta tb:Tm} {sa sb:Value} {s:List UInt8} {nb:ByteArray} (ha:TAtP w P ta sa) (hb:TAtP w P tb sb) (hP:∀ b,P b→b<w.heap.size) (hs:(⟨s.toArray⟩:ByteArray)=nb) (hl:s.length≤maxLen) :
  Calls Tryz.prog 36 #[.string nb,valT ta sa,valT tb sb] w fun e w'=>∃ A c,e = .returned (.agg (Qn 5 nb (.slice A 2 c)))∧TAtP w' (Grow P w w') (cmpT s [ta,tb]) (.slice A 2 c)∧Below w.heap.size w w':=
 (of_ok ha hb hP hs hl).mono fun e w' ⟨sl,he,ht,hb2⟩=>by
  obtain ⟨A,c,e1,_⟩:=TAtP.iff.1 ht
  have e2:sl = .slice A 2 c:=e1
  subst e2
  exact ⟨A,c,by rw [he,←hs];rfl,ht,hb2⟩
theorem take_snoc {L:List R} {k:Nat} {r:R} (h:L[k]?=some r):L.take (k+1)=L.take k ++ [r]:=by rw [List.take_add_one,h];rfl
abbrev VT (w:World) (A:Option Addr) (n c:Nat):World:=((w.alloc (.cells #[.slice A n c] 22)).alloc (.cells Qz 26)).alloc (.cells #[.pointer (some ⟨w.heap.size,0,none⟩)] 89)
theorem VT_facts (w:World) (A:Option Addr) (n c:Nat):Below w.heap.size w (VT w A n c)∧(VT w A n c).heap.size=w.heap.size+3∧VBox (VT w A n c) w.heap.size A n c∧TBox (VT w A n c) (w.heap.size+1) zeroT (.slice none 0 0)∧(VT w A n c).cell? ⟨w.heap.size+2,0,none⟩=some (.pointer (some ⟨w.heap.size,0,none⟩)):=by
 refine ⟨((Qb).alloc (by simp) _).alloc (by simp;omega) _,by simp,?_,?_,?_⟩
 ·have h0:VBox (w.alloc (.cells #[.slice A n c] 22)) w.heap.size A n c:=heap_alloc_new w _
  exact (((Qb).alloc (by simp) _).block w.heap.size (by simp)).trans h0
 ·have h0:TBox ((w.alloc (.cells #[.slice A n c] 22)).alloc (.cells Qz 26)) (w.heap.size+1) zeroT (.slice none 0 0):=by
   have:=TBox.new (w.alloc (.cells #[.slice A n c] 22)) (k:=0) (v:=0) (b:=0) (n:=[]) (m:=[]) (ts:=[]) (sl:=.slice none 0 0) (nb:=⟨#[]⟩) (mb:=⟨#[]⟩) rfl rfl
   rw [World.size_alloc] at this
   exact this
  exact ((Qb).block (w.heap.size+1) (by simp)).trans h0
 ·have:=heap_alloc_new ((w.alloc (.cells #[.slice A n c] 22)).alloc (.cells Qz 26)) (.cells #[.pointer (some ⟨w.heap.size,0,none⟩)] 89)
  simp only [World.size_alloc] at this
  rw [cell_of_row _ _ 0 _ _ (0,0) this]
  rfl
def TermPostB (B:Nat) (w:World) (L:List R) (K M:Nat) (e:Ending) (w':World):Prop:=
 ∃ N sl,NF N∧(∀ z,Hf.mem z N↔Hf.mem z L)∧N.length≤K∧Bnd M N∧e = .returned (.tuple #[valT (setT N) sl,.int .i64 0])∧TAtP w' (Fr B w') (setT N) sl∧Below B w w'
abbrev zeroTV:Value:=.agg Qz
def TkPost (B:Nat) (w:World) (L:List R) (K M:Nat) (X10 X90 X0:Prop) (e:Ending) (w':World):Prop:=
 Below B w w'∧B+3≤w'.heap.size∧TBox w' (B+1) zeroT (.slice none 0 0)∧((e = .returned (.int .i64 10)∧X10)∨(e = .returned (.int .i64 90)∧X90) ∨
  (e = .returned (.int .i64 0)∧X0∧∃ A1 n1 c1 qs,VBox w' B A1 n1 c1∧SOut w' (B+3) A1 n1 c1 qs K M∧(∀ z,Hf.mem z (qs.map edsR)↔Hf.mem z L)))
def TermPostA (B:Nat) (w:World) (L:List R) (K M:Nat) (X10 X90 X0:Prop) (e:Ending) (w':World):Prop:=
 Below B w w'∧((e = .returned (.tuple #[zeroTV,.int .i64 10])∧X10)∨(e = .returned (.tuple #[zeroTV,.int .i64 90])∧X90)∨(X0∧TermPostB B w L K M e w'))
structure TH (w1:World) (T:Tm) (A:Option Addr) (n c:Nat) (wr:World):Prop where
 bel:Below w1.heap.size w1 wr
 box:TBox wr w1.heap.size T (.slice A n c)
 at_:TAtP wr (fun b=>w1.heap.size<b∧b<wr.heap.size) T (.slice A n c)
theorem Term_core {w:World} {A:Option Addr} {n c K M:Nat} {L:List R} {X10 X90 X0:Prop} (hT:Calls Tryz.prog 35 #[.slice none 0 0,.slice (some ⟨w.heap.size+1+1,0,none⟩) 1 1] (VT w A n c) (TkPost w.heap.size w L K M X10 X90 X0)) (hK:K≤1000) (hM:M≤128) :
  Calls Tryz.prog 8 #[.slice A n c] w (TermPostA w.heap.size w L K M X10 X90 X0):=by
 obtain ⟨B,hB⟩:∃ B,w.heap.size=B:=⟨_,rfl⟩
 have HB:=Qh hB
 have HT:=Qh hT
 have HKM:=Qh (Qa hK hM)
 rw [hB]
 unfold VT TkPost at HT
 rw [hB] at HT
 clear hT hK hM hB
 go_enter Tryz.func8,Tryz.ntmps8
 go_wp2_with fail
 rw [HB.out]
 (with_reducible refine HT.out.mono ?_)
 rintro e w1 ⟨hb1,hz1,ht1,hcs⟩
 have HB1:=Qh hb1
 have HZ1:=Qh hz1
 have HT1:=Qh ht1
 rcases hcs with ⟨he,hx⟩ | ⟨he,hx⟩ | ⟨he,hx,A1,n1,c1,qs,hv1,ho1,hm1⟩
 ·subst he
  obtain ⟨f0,f1,f2,f3,f4,f5⟩:=TBox.frozens HT1.out
  obtain ⟨y0,y1,y2,y3,y4,y5⟩:=TBox.cells (nb:=⟨#[]⟩) (mb:=⟨#[]⟩) HT1.out rfl rfl
  have HSe:=Qh (TBox.setL (t':=zeroT) (sl':=.slice none 0 0) (a0:=.int .i64 0) (a1:=.string ⟨#[]⟩) (a2:=.string ⟨#[]⟩) (a3:=.int .u64 0) (a4:=.int .i64 0) HT1.out (fun _=>rfl))
  clear hb1 hz1 ht1 HT
  go_wp2_with fail
  generalize (((((w1.setCell ⟨B+1,0,none⟩ (.int .i64 0)).setCell ⟨B+1,1,none⟩ (.string ⟨#[]⟩)).setCell ⟨B+1,2,none⟩ (.string ⟨#[]⟩)).setCell ⟨B+1,3,none⟩ (.int .u64 0)).setCell ⟨B+1,4,none⟩ (.int .i64 0)).setCell ⟨B+1,5,none⟩ (.slice none 0 0)=w9 at *
  obtain ⟨r0,r1,r2,r3,r4,r5⟩:=TBox.cells (nb:=⟨#[]⟩) (mb:=⟨#[]⟩) HSe.out.1 rfl rfl
  have HB9:=Qh (show Below B w w9 from HB1.out.grown HSe.out.2 (by have:=HZ1.out;omega) (Qg (by omega)))
  have key:TermPostA B w L K M X10 X90 X0 (.returned (.tuple #[zeroTV,.int .i64 10])) w9:=⟨HB9.out,.inl ⟨rfl,hx⟩⟩
  first
   | (go_ret;exact key)
   | exact bodyPost_ret (by simp [results,Tryz.results8,go_sem,r0,r1,r2,r3,r4,r5]) rfl key
 ·subst he
  obtain ⟨f0,f1,f2,f3,f4,f5⟩:=TBox.frozens HT1.out
  obtain ⟨y0,y1,y2,y3,y4,y5⟩:=TBox.cells (nb:=⟨#[]⟩) (mb:=⟨#[]⟩) HT1.out rfl rfl
  have HSe:=Qh (TBox.setL (t':=zeroT) (sl':=.slice none 0 0) (a0:=.int .i64 0) (a1:=.string ⟨#[]⟩) (a2:=.string ⟨#[]⟩) (a3:=.int .u64 0) (a4:=.int .i64 0) HT1.out (fun _=>rfl))
  clear hb1 hz1 ht1 HT
  go_wp2_with fail
  generalize (((((w1.setCell ⟨B+1,0,none⟩ (.int .i64 0)).setCell ⟨B+1,1,none⟩ (.string ⟨#[]⟩)).setCell ⟨B+1,2,none⟩ (.string ⟨#[]⟩)).setCell ⟨B+1,3,none⟩ (.int .u64 0)).setCell ⟨B+1,4,none⟩ (.int .i64 0)).setCell ⟨B+1,5,none⟩ (.slice none 0 0)=w9 at *
  obtain ⟨r0,r1,r2,r3,r4,r5⟩:=TBox.cells (nb:=⟨#[]⟩) (mb:=⟨#[]⟩) HSe.out.1 rfl rfl
  have HB9:=Qh (show Below B w w9 from HB1.out.grown HSe.out.2 (by have:=HZ1.out;omega) (Qg (by omega)))
  have key:TermPostA B w L K M X10 X90 X0 (.returned (.tuple #[zeroTV,.int .i64 90])) w9:=⟨HB9.out,.inr (.inl ⟨rfl,hx⟩)⟩
  first
   | (go_ret;exact key)
   | exact bodyPost_ret (by simp [results,Tryz.results8,go_sem,r0,r1,r2,r3,r4,r5]) rfl key
 subst he
 have HX0:=Qh hx
 have HS1:=Qh ho1.set
 have HGo:=Qh ho1.gd
 have HNf:=Qh (Qa ho1.nf (Qa ho1.bnd hm1))
 have HLq:=Qh (show qs.length=n1∧n1≤K∧n1≤1000 from ⟨ho1.row.len,ho1.len,Nat.le_trans ho1.len HKM.out.1⟩)
 have hn9:n1≤1000:=HLq.out.2.2
 have HFin:=Qh (fun e w' (h:TermPostB B w L K M e w')=>show TermPostA B w L K M X10 X90 X0 e w' from ⟨by obtain ⟨_,_,_,_,_,_,_,_,hb⟩:=h;exact hb,.inr (.inr ⟨HX0.out,h⟩)⟩)
 obtain ⟨v0,_⟩:=hv1.cell
 clear hb1 hz1 ht1 hv1 ho1 hm1 HT hx
 by_cases hn0:n1=0
 ·subst hn0
  obtain ⟨z1,hz1⟩:∃ z:Int,1=z:=⟨_,rfl⟩
  have HF:=Qh (show ∀ u,Calls Tryz.prog 27 #[.int .i64 1] u (PostI u z1) from fun u=>by rw [←hz1];exact from_any 1 u (by omega) (by omega))
  have HZ:=Qh hz1
  have HSz:=Qh (show szE (.num z1)≤128 from by rw [←hz1,szE_one];omega)
  obtain ⟨ka,na,ma,hla⟩:=end_letters (.num z1)
  obtain ⟨kb,nb',mb,hlb⟩:=end_letters (.num 0)
  have HLa:=Qh hla
  have HLb:=Qh hlb
  have HEa:=Qh (fun (u:World) A2 c2 (hat:(nb z1 A2 c2).At u (fun x=>x<u.heap.size))=>show Calls Tryz.prog 37 #[.agg #[.int .i64 0,.bool (decide (z1<0)),.slice A2 (digs W z1.natAbs).length c2]] u (fun e w'=>e = .returned (.agg (Q5 ka na ma 0 0 (.slice none 0 0)))∧Below u.heap.size u w') from by
   have hh:=end_ok (b:=nb z1 A2 c2) hat (fun x hx=>hx) (.inr (.inl rfl)) HSz.out
   unfold EndTPost valT at hh
   rw [nb_ed,HLa.out] at hh
   exact hh)
  have HEb:=Qh (fun (u:World)=>show Calls Tryz.prog 37 #[.agg #[.int .i64 0,.bool false,.slice none 0 0]] u (fun e w'=>e = .returned (.agg (Q5 kb nb' mb 0 0 (.slice none 0 0)))∧Below u.heap.size u w') from by
   have hh:=end_ok (w:=u) (b:=ib 0) (P:=fun x=>x<u.heap.size) (ib_at _ _ (by omega)) (fun x hx=>hx) (.inr (.inl rfl)) (by simp [ib])
   unfold EndTPost valT at hh
   rw [show (ib 0).ed = .num 0 from rfl,HLb.out] at hh
   exact hh)
  clear hz1 hla hlb
  generalize hd:decide (z1<0)=zd at HEa
  generalize hl:(digs W z1.natAbs).length=zl at HEa
  have HD:=Qh (Qa hd hl)
  clear hd hl
  go_wp2_with fail
  (with_reducible refine (HF.out w1).mono ?_)
  rintro e u1 ⟨v,rfl,hr,hb1⟩
  obtain ⟨A2,c2,rfl,hat⟩:=hr.nb
  rw [HD.out.1,HD.out.2]
  have HA1:=Qh (hat.wide (fun x hx=>hx.2))
  have HU1:=Qh hb1
  clear hr hat hb1 v0
  go_wp2_with fail
  (with_reducible refine (HEa.out u1 _ _ HA1.out).mono ?_)
  rintro e u2 ⟨rfl,hb2⟩
  have HU2:=Qh (Qt HU1.out hb2)
  clear hb2
  go_wp2_with fail
  (with_reducible refine (HEb.out u2).mono ?_)
  rintro e u3 ⟨rfl,hb3⟩
  have HU3:=Qh (Qt HU2.out hb3)
  clear hb3
  have HOf:=Qh (of_ok2 (w:=u3) (P:=fun b=>False) (ta:=endT (.num z1)) (tb:=endT (.num 0)) (sa:=.slice none 0 0) (sb:=.slice none 0 0) (s:=sDots) (nb:=⟨#[46,46]⟩) (TAtP.leaf _ _ (end_as _) (by simp [maxLen]) (okF_end HSz.out)) (TAtP.leaf _ _ (end_as _) (by simp [maxLen]) (okF_end (by unfold EdOk;rw [szE_nought];omega))) (fun b hb=>hb.elim) rfl (by decide))
  unfold valT at HOf
  rw [HLa.out,HLb.out] at HOf
  go_wp2_with fail
  (with_reducible refine HOf.out.mono ?_)
  rintro e u4 ⟨A4,c4,rfl,hat4,hb4⟩
  have HU4:=Qh (Qt HU3.out hb4)
  have HAt4:=Qh hat4
  have HU34:=Qh (Qa HU3.out.size hb4.size)
  clear hat4 hb4
  have HR:=Qh (show TBox u4 (B+1) zeroT (.slice none 0 0) from (HU4.out.block (B+1) (by have:=HZ1.out;omega)).trans HT1.out)
  obtain ⟨f0,f1,f2,f3,f4,f5⟩:=TBox.frozens HR.out
  obtain ⟨y0,y1,y2,y3,y4,y5⟩:=TBox.cells (nb:=⟨#[]⟩) (mb:=⟨#[]⟩) HR.out rfl rfl
  have HSe:=Qh (TBox.setL (t':=cmpT sDots [endT (.num z1),endT (.num 0)]) (sl':=.slice A4 2 c4) (a0:=.int .i64 5) (a1:=.string ⟨#[46,46]⟩) (a2:=.string ⟨#[]⟩) (a3:=.int .u64 0) (a4:=.int .i64 0) HR.out (fun _=>rfl))
  go_wp2_with fail
  generalize (((((u4.setCell ⟨B+1,0,none⟩ (.int .i64 5)).setCell ⟨B+1,1,none⟩ (.string ⟨#[46,46]⟩)).setCell ⟨B+1,2,none⟩ (.string ⟨#[]⟩)).setCell ⟨B+1,3,none⟩ (.int .u64 0)).setCell ⟨B+1,4,none⟩ (.int .i64 0)).setCell ⟨B+1,5,none⟩ (.slice A4 2 c4)=w9 at *
  obtain ⟨r0,r1,r2,r3,r4,r5⟩:=TBox.cellsL (a0:=.int .i64 5) (a1:=.string ⟨#[46,46]⟩) (a2:=.string ⟨#[]⟩) (a3:=.int .u64 0) (a4:=.int .i64 0) HSe.out.1 (fun _=>rfl)
  have HTT:=Qh (show setT []=cmpT sDots [endT (.num z1),endT (.num 0)] from by rw [←HZ.out];rfl)
  have HB9:=Qh (show Below B w w9 from (HB1.out.trans (HU4.out.mono (by have:=HZ1.out;omega))).grown HSe.out.2 (by have:=HZ1.out;have:=HU4.out.size;omega) (Qg (by omega)))
  have key:TermPostB B w L K M (.returned (.tuple #[.agg (Qn 5 ⟨#[46,46]⟩ (.slice A4 2 c4)),.int .i64 0])) w9:=
   ⟨[],.slice A4 2 c4,trivial,fun z=>by
    have h1:=HNf.out.2.2 z
    rw [List.length_eq_zero_iff.1 HLq.out.1] at h1
    exact h1,Nat.zero_le _,fun r hr=>by simp at hr,by rw [HTT.out];rfl,by
    rw [HTT.out]
    have hz:=HSe.out.2.size
    have hz1:=HZ1.out
    have hz3:=HU34.out
    refine TAtP.keep _ HAt4.out (fun b hb=>?_)
    rcases hb with hb | hb
    ·exact hb.elim
    ·exact ⟨⟨by have:=hb.1;omega,by have:=hb.2;omega⟩,HSe.out.2.block b hb.2 (fun e=>by injection e with e;have:=hb.1;omega)⟩,HB9.out⟩
  first
   | (go_ret;exact HFin.out _ _ key)
   | exact bodyPost_ret (v:=.tuple #[.agg (Qn 5 ⟨#[46,46]⟩ (.slice A4 2 c4)),.int .i64 0]) (by simp [results,Tryz.results8,go_sem,r0,r1,r2,r3,r4,r5]) rfl (HFin.out _ _ key)
 ·have hn0i:((n1:Int)==0)=false:=beq_eq_false_iff_ne.2 (by omega)
  have v1:(w1.alloc (.cells Qz 26)).cell? ⟨B,0,none⟩=some (.slice A1 n1 c1):=(((Below.refl w1.heap.size w1).alloc (Nat.le_refl _) _).cell (p:=⟨B,0,none⟩) (show B<w1.heap.size by have:=HZ1.out;omega)).trans v0
  go_wp2_with fail
  clear v1
  have HSC:=Qh (show TH w1 zeroT none 0 0 (w1.alloc (.cells Qz 26)) from
   ⟨Qb,TBox.new w1 (k:=0) (v:=0) (b:=0) (n:=[]) (m:=[]) (ts:=[]) (sl:=.slice none 0 0) (nb:=⟨#[]⟩) (mb:=⟨#[]⟩) rfl rfl,TAtP.leaf _ _ rfl (by simp [maxLen]) ⟨by simp [zeroT,Tm.n],by simp [zeroT,Tm.m],by simp [zeroT,Tm.b],by simp [zeroT,Tm.v],by simp [zeroT,Tm.k]⟩⟩)
  have HN0:=Qh hn0
  clear v0 hn0 hn0i
  go_loopw [26] (fun vi wr=>∃ k T Ta n2 c2,k≤n1∧vi = .int .i64 (k:Nat)∧Hid (T=accT ((qs.map edsR).take k))∧Hid (TH w1 T Ta n2 c2 wr)) (fun vi _=>n1 - (intOf vi).toNat)
  case atStart=>exact ⟨0,zeroT,none,0,0,Nat.zero_le _,rfl,Qh rfl,HSC⟩
  case round=>
   obtain ⟨k,T,Ta,n2,c2,hk,rfl,HAc,HI⟩:=hrel
   clear HSC
   by_cases hkn:k<n1
   ·obtain ⟨p,hp⟩:∃ p,qs[k]?=some p:=⟨qs[k]'(by have:=HLq.out.1;omega),by simp⟩
    obtain ⟨b,o,rfl,hPb,q0,q1,q2,q3,q4,q5⟩:=HS1.out.row.at_ hp
    have hpm:=List.mem_of_getElem? hp
    have HGd:=Qh (HGo.out p hpm)
    have HPe:=Qh (show (qs.map edsR)[k]?=some (edsR p) from by rw [List.getElem?_map,hp];rfl)
    have HKp:=Qh (show ∀ u,Below w1.heap.size w1 u→Rg.At u (fun x=>x<u.heap.size) p from fun u hu=>(HS1.out.kid p hpm).keep (fun x hx=>⟨by have:=hx.2;have:=hu.size;omega,hu.block x hx.2⟩))
    have hbc:∀ j u,w1.cell? ⟨b,j,none⟩=some u→wr.cell? ⟨b,j,none⟩=some u:=fun j u h=>(HI.out.bel.cell (p:=⟨b,j,none⟩) hPb.2).trans h
    have i0:=hbc _ _ q0
    have i1:=hbc _ _ q1
    have i2:=hbc _ _ q2
    have i3:=hbc _ _ q3
    have i4:=hbc _ _ q4
    have i5:=hbc _ _ q5
    have hX:=RBox.new wr p
    have HBx:=Qh (show Below wr.heap.size wr (wr.alloc (.cells (cells6 p).toArray 69)) from Qb)
    obtain ⟨⟨p1i,p1g,p1A,p1n,p1c,p1l⟩,⟨p2i,p2g,p2A,p2n,p2c,p2l⟩⟩:=p
    have HX:=Qh hX
    simp only [cells6_eq] at HX HBx
    simp only at i0 i1 i2 i3 i4 i5
    have hki:(k:Int)<(n1:Int):=by omega
    have hk0:(0:Int)≤(k:Int):=by omega
    have HM1:=Qh (show p1n≤128∧p2n≤128 from by
     have h1:=HNf.out.2.1 _ (List.mem_map.2 ⟨_,hpm,rfl⟩)
     have h2:=HGd.out.1.1.szE (HKp.out w1 (Below.refl _ _)).a.lim.len
     have h3:=HGd.out.1.2.szE (HKp.out w1 (Below.refl _ _)).b.lim.len
     have:=HKM.out.2
     simp only at h2 h3
     unfold edsR at h1
     simp only at h1
     omega)
    have hw1:=HI.out.bel.size
    have hGl:=HI.out.box.lt
    clear q0 q1 q2 q3 q4 q5 hp hpm hX hbc hPb
    go_upto_region 10 with fail
    clear i0 i1 i2 i3 i4 i5
    have hXl:=HX.out.lt
    generalize (wr.alloc (.cells #[.int .i64 p1i,.bool p1g,.slice p1A p1n p1c,.int .i64 p2i,.bool p2g,.slice p2A p2n p2c] 69))=w5 at *
    obtain ⟨ea,hea⟩:∃ x,Bd.ed ⟨p1i,p1g,p1A,p1n,p1c,p1l⟩=x:=⟨_,rfl⟩
    obtain ⟨eb,heb⟩:∃ x,Bd.ed ⟨p2i,p2g,p2A,p2n,p2c,p2l⟩=x:=⟨_,rfl⟩
    obtain ⟨ka,na,ma,hla⟩:=end_letters ea
    obtain ⟨kb,nb',mb,hlb⟩:=end_letters eb
    have HEa:=Qh (fun (u:World) (hu:Below w1.heap.size w1 u)=>show Calls Tryz.prog 37 #[.agg #[.int .i64 p1i,.bool p1g,.slice p1A p1n p1c]] u (fun e w'=>e = .returned (.agg (Q5 ka na ma 0 0 (.slice none 0 0)))∧Below u.heap.size u w') from by
     have hh:=end_ok (HKp.out u hu).a (fun x hx=>hx) HGd.out.1.1.tri HM1.out.1
     unfold EndTPost valT at hh
     rw [hea,hla] at hh
     exact hh)
    have HEb:=Qh (fun (u:World) (hu:Below w1.heap.size w1 u)=>show Calls Tryz.prog 37 #[.agg #[.int .i64 p2i,.bool p2g,.slice p2A p2n p2c]] u (fun e w'=>e = .returned (.agg (Q5 kb nb' mb 0 0 (.slice none 0 0)))∧Below u.heap.size u w') from by
     have hh:=end_ok (HKp.out u hu).b (fun x hx=>hx) HGd.out.1.2.tri HM1.out.2
     unfold EndTPost valT at hh
     rw [heb,hlb] at hh
     exact hh)
    have HLa:=Qh hla
    have HLb:=Qh hlb
    obtain ⟨s,hs⟩:∃ s,cmpB ⟨p1i,p1g,p1A,p1n,p1c,p1l⟩ ⟨p2i,p2g,p2A,p2n,p2c,p2l⟩=s:=⟨_,rfl⟩
    have HCm:=Qh (fun (u:World) (hu:Below w1.heap.size w1 u)=>show Calls Tryz.prog 38 #[.agg #[.int .i64 p1i,.bool p1g,.slice p1A p1n p1c],.agg #[.int .i64 p2i,.bool p2g,.slice p2A p2n p2c]] u (fun e w'=>e = .returned (.int .i64 s)∧Gr u w') from by
     have hh:=fcmp_any (HKp.out u hu).a (HKp.out u hu).b (fun x hx=>hx) HGd.out.1.1.tri HGd.out.1.2.tri
     simp only at hh
     rw [hs] at hh
     exact hh)
    have HCs:=Qh (show s=0↔ea=eb from by rw [←hs,←hea,←heb];exact cmpB_eq HGd.out.1.1.tri HGd.out.1.2.tri)
    have HOa:=Qh (show okF (endT ea)∧okF (endT eb) from by
     have h1:=HGd.out.1.1.szE (HKp.out w1 (Below.refl _ _)).a.lim.len
     have h2:=HGd.out.1.2.szE (HKp.out w1 (Below.refl _ _)).b.lim.len
     simp only at h1 h2
     rw [hea] at h1
     rw [heb] at h2
     exact ⟨okF_end (by unfold EdOk;have:=HM1.out.1;omega),okF_end (by unfold EdOk;have:=HM1.out.2;omega)⟩)
    have HRe:=Qh (show (qs.map edsR)[k]?=some (ea,eb) from by rw [HPe.out];unfold edsR;rw [hea,heb])
    have HB5:=Qh (show Below w1.heap.size w1 w5∧Below wr.heap.size wr w5 from ⟨HI.out.bel.trans (HBx.out.mono hw1),HBx.out⟩)
    clear hea heb hla hlb hs HPe HBx
    obtain ⟨x0,x1,x2,x3,x4,x5⟩:=HX.out.cells
    simp only at x0 x1 x2 x3 x4 x5
    go_upto_region 11 with (go_at_call 37;(with_reducible refine (HEa.out _ HB5.out.1).mono ?_);rintro e u1 ⟨rfl,hb1⟩;have HU1:=Qh hb1;clear hb1 x0 x1 x2 x3 x4 x5)
    have hU1:=HU1.out.size
    have HU2:=Qh (HU1.out.alloc HU1.out.size (.cells (Q5 ka na ma 0 0 (.slice none 0 0)) 26))
    have HX2:=Qh (TBox.newL u1 (sl:=.slice none 0 0) HLa.out)
    generalize hgx:u1.heap.size=Gx at *
    generalize (u1.alloc (.cells (Q5 ka na ma 0 0 (.slice none 0 0)) 26))=u2 at *
    obtain ⟨x0,x1,x2,x3,x4,x5⟩:=(RBox.below HX.out HU2.out).cells
    simp only at x0 x1 x2 x3 x4 x5
    have HB6:=Qh (show Below w1.heap.size w1 u2 from HB5.out.1.trans (HU2.out.mono (by have:=HB5.out.1.size;omega)))
    clear hgx HU1
    by_cases hs0:s=0
    ·subst hs0
     have HSp:=Qh (show spanT (ea,eb)=endT ea from if_pos (HCs.out.1 rfl))
     go_upto_region 13 with (go_at_call 38;(with_reducible refine (HCm.out _ HB6.out).mono ?_);rintro e u3 ⟨rfl,hg3⟩;have HU3:=Qh hg3.bel;clear hg3 x0 x1 x2 x3 x4 x5)
     have HX3:=Qh (show TBox u3 Gx (spanT (ea,eb)) (.slice none 0 0) from by rw [HSp.out];exact TBox.below HX2.out HU3.out)
     have HL3:=Qh (show ∀ sl,Ht.cells6 (spanT (ea,eb)) sl = [.int .i64 ka,.string na,.string ma,.int .u64 0,.int .i64 0,sl] from by rw [HSp.out];exact HLa.out)
     have HA3:=Qh (show TAtP u3 (fun b=>w1.heap.size<b∧b<u3.heap.size∧b≠Gx) (spanT (ea,eb)) (.slice none 0 0) from by rw [HSp.out];exact TAtP.leaf _ _ (end_as _) (by simp [maxLen]) HOa.out.1)
     have HB9:=Qh (show Below wr.heap.size wr u3 from HB5.out.2.trans ((Qt HU2.out HU3.out).mono HB5.out.2.size))
     have HTb:=Qh (TBox.below HI.out.box HB9.out)
     have hu3:=HB9.out.size
     have HBw:=Qh (HI.out.bel.trans (HB9.out.mono hw1))
     have HTa:=Qh (show TAtP u3 (fun b=>w1.heap.size<b∧b<u3.heap.size) T (.slice Ta n2 c2) from TAtP.keep _ HI.out.at_ (fun b hb=>⟨⟨hb.1,by omega⟩,HB9.out.block b hb.2⟩))
     obtain ⟨x0,x1,x2,x3,x4,x5⟩:=TBox.cellsL HX3.out HL3.out
     by_cases hk00:k=0
     ·have hki0:((k:Int)==0)=true:=by rw [hk00];rfl
      obtain ⟨f0,f1,f2,f3,f4,f5⟩:=TBox.frozens HTb.out
      obtain ⟨kT,nT,mT,bT,vT,hlT⟩:=tm_letters T
      obtain ⟨y0,y1,y2,y3,y4,y5⟩:=TBox.cellsL HTb.out hlT
      clear hlT
      have hset:=TBox.setL (sl':=.slice none 0 0) HTb.out HL3.out
      go_wp2_with fail
      generalize (((((u3.setCell ⟨w1.heap.size,0,none⟩ (.int .i64 ka)).setCell ⟨w1.heap.size,1,none⟩ (.string na)).setCell ⟨w1.heap.size,2,none⟩ (.string ma)).setCell ⟨w1.heap.size,3,none⟩ (.int .u64 0)).setCell ⟨w1.heap.size,4,none⟩ (.int .i64 0)).setCell ⟨w1.heap.size,5,none⟩ (.slice none 0 0)=u4 at *
      have HS4:=Qh hset
      have HT4:=Qh (show TH w1 (spanT (ea,eb)) none 0 0 u4 from ⟨HBw.out.grown HS4.out.2 HBw.out.size (Qg (by omega)),HS4.out.1,
       TAtP.keep _ HA3.out (fun b hb=>⟨⟨hb.1,Ql hb.2.1 HS4.out.2.size⟩,HS4.out.2.block b hb.2.1 (fun e=>by injection e with e;have:=hb.1;omega)⟩)⟩)
      have HA4:=Qh (show spanT (ea,eb)=accT ((qs.map edsR).take (k+1)) from by
       rw [take_snoc HRe.out,hk00];rfl)
      go_roundw
      case rel=>exact ⟨k+1,spanT (ea,eb),none,0,0,by omega,by go_num,HA4,HT4⟩
      case measure=>simp [intOf];omega
     ·have hki0:((k:Int)==0)=false:=beq_eq_false_iff_ne.2 (by omega)
      obtain ⟨kT,nT,mT,bT,vT,hlT⟩:=tm_letters T
      obtain ⟨y0,y1,y2,y3,y4,y5⟩:=TBox.cellsL HTb.out hlT
      have HOf:=Qh (of_ok2 (w:=u3) (P:=fun b=>w1.heap.size<b∧b<u3.heap.size) (ta:=T) (tb:=spanT (ea,eb)) (sa:=.slice Ta n2 c2) (sb:=.slice none 0 0) (s:=sOr) (nb:=⟨#[92,47]⟩) HTa.out (TAtP.wide HA3.out (fun b hb=>⟨hb.1,hb.2.1⟩)) (fun b hb=>hb.2) rfl (by decide))
      unfold valT at HOf
      rw [hlT,HL3.out] at HOf
      have HLT:=Qh hlT
      clear hlT
      go_wp2_with (go_at_call 36;(with_reducible refine HOf.out.mono ?_);rintro e u4 ⟨A4,c4,rfl,hat4,hb4⟩;have HU4:=Qh hb4;have HA4:=Qh hat4;have HT4:=Qh (TBox.below HTb.out hb4);clear hat4 hb4;obtain ⟨f0,f1,f2,f3,f4,f5⟩:=TBox.frozens HT4.out;obtain ⟨z0,z1,z2,z3,z4,z5⟩:=TBox.cellsL HT4.out HLT.out)
      have hset:=TBox.setL (t':=cmpT sOr [T,spanT (ea,eb)]) (sl':=.slice A4 2 c4) (a0:=.int .i64 5) (a1:=.string ⟨#[92,47]⟩) (a2:=.string ⟨#[]⟩) (a3:=.int .u64 0) (a4:=.int .i64 0) HT4.out (fun _=>rfl)
      generalize (((((u4.setCell ⟨w1.heap.size,0,none⟩ (.int .i64 5)).setCell ⟨w1.heap.size,1,none⟩ (.string ⟨#[92,47]⟩)).setCell ⟨w1.heap.size,2,none⟩ (.string ⟨#[]⟩)).setCell ⟨w1.heap.size,3,none⟩ (.int .u64 0)).setCell ⟨w1.heap.size,4,none⟩ (.int .i64 0)).setCell ⟨w1.heap.size,5,none⟩ (.slice A4 2 c4)=u5 at *
      have HS5:=Qh hset
      have HBw5:=Qh (Qt HBw.out HU4.out)
      have HT5:=Qh (show TH w1 (cmpT sOr [T,spanT (ea,eb)]) A4 2 c4 u5 from ⟨HBw5.out.grown HS5.out.2 HBw5.out.size (Qg (by omega)),HS5.out.1,
       TAtP.keep _ HA4.out (fun b hb=>by
        have hz:=HS5.out.2.size
        have hz4:=HU4.out.size
        have hbb:w1.heap.size<b∧b<u4.heap.size:=by
         rcases hb with hb | hb
         ·omega
         ·omega
        exact ⟨⟨hbb.1,by omega⟩,HS5.out.2.block b hbb.2 (fun e=>by injection e with e;omega)⟩)⟩)
      have HA5:=Qh (show cmpT sOr [T,spanT (ea,eb)]=accT ((qs.map edsR).take (k+1)) from by
       rw [take_snoc HRe.out,accT_snoc (fun e=>by
        have h1:=congrArg List.length e
        rw [List.length_take,List.length_map,HLq.out.1] at h1
        simp at h1
        omega),←HAc.out];rfl)
      go_roundw
      case rel=>exact ⟨k+1,_,A4,2,c4,by omega,by go_num,HA5,HT5⟩
      case measure=>simp [intOf];omega
    ·have hs0b:(s==0)=false:=beq_eq_false_iff_ne.2 hs0
     have HSp:=Qh (show spanT (ea,eb)=cmpT sDots [endT ea,endT eb] from if_neg (fun e=>hs0 (HCs.out.2 e)))
     go_upto_region 12 with (go_at_call 38;(with_reducible refine (HCm.out _ HB6.out).mono ?_);rintro e ux ⟨rfl,hg3⟩;have HUx:=Qh hg3.bel;clear hg3 x0 x1 x2 x3 x4 x5)
     have HB7:=Qh (show Below w1.heap.size w1 ux from HB6.out.trans (HUx.out.mono (by have:=HB6.out.size;omega)))
     have HXx:=Qh (TBox.below HX2.out HUx.out)
     have HXr:=Qh (RBox.below (RBox.below HX.out HU2.out) HUx.out)
     have hgxl:Gx<ux.heap.size:=HXx.out.lt
     have HG5:=Qh (show w5.heap.size≤Gx∧wr.heap.size≤w5.heap.size from ⟨by omega,HB5.out.2.size⟩)
     refine wp_region_U 5 (by kernel_rfl) (fun z9 K0 hs9=>?_)
     refine tZ0 0 K0 ?_ (y:=fun z5 hS=>by obtain ⟨y0,y1,y2,y3,y4,y5⟩:=TBox.cellsL (TBox.below HXx.out hS) HLa.out;go_simp;rfl)
     refine tZ0 1 K0 ?_
     refine tZ0 2 K0 ?_ (y:=fun z5 hS=>by obtain ⟨x0,x1,x2,x3,x4,x5⟩:=(HXr.out.below hS).cells;simp only at x0 x1 x2 x3 x4 x5;go_simp;rfl)
     refine uW 3 fun K hK=>?_
     go_simp
     (with_reducible refine (HEb.out z9 (HB7.out.trans (K0.mono HB7.out.size))).mono ?_)
     rintro e ua ⟨rfl,hba⟩
     have K1:=Qt K0 hba
     refine hK.out _ _ (fun _=>K1) ?_
     refine uW 4 fun K hK=>?_
     go_simp
     have HOf:=Qh (of_ok2 (w:=ua) (P:=fun b=>False) (ta:=endT ea) (tb:=endT eb) (sa:=.slice none 0 0) (sb:=.slice none 0 0) (s:=sDots) (nb:=⟨#[46,46]⟩) (TAtP.leaf _ _ (end_as _) (by simp [maxLen]) HOa.out.1) (TAtP.leaf _ _ (end_as _) (by simp [maxLen]) HOa.out.2) (fun b hb=>hb.elim) rfl (by decide))
     unfold valT at HOf
     rw [HLa.out,HLb.out] at HOf
     (with_reducible refine HOf.out.mono ?_)
     rintro e ub ⟨A4,c4,rfl,hat4,hb4⟩
     have K2:=Qt K1 hb4
     refine hK.out _ _ (fun _=>K2) ?_
     have HXb:=Qh (TBox.below HXx.out K2)
     obtain ⟨f0,f1,f2,f3,f4,f5⟩:=TBox.frozens HXb.out
     obtain ⟨y0,y1,y2,y3,y4,y5⟩:=TBox.cellsL HXb.out HLa.out
     have hset:=TBox.setL (t':=cmpT sDots [endT ea,endT eb]) (sl':=.slice A4 2 c4) (a0:=.int .i64 5) (a1:=.string ⟨#[46,46]⟩) (a2:=.string ⟨#[]⟩) (a3:=.int .u64 0) (a4:=.int .i64 0) HXb.out (fun _=>rfl)
     refine uW 5 fun K hK=>?_
     go_simp
     refine hK.out _ _ (fun h=>absurd h (by simp)) ?_
     refine wpAnyW_done (by kernel_rfl) ?_ _
     have HKz:=Qh (Qa K0.size (Qa hba.size hb4.size))
     have HKb:=Qh K2
     have HAt4:=Qh hat4
     clear f0 f1 f2 f3 f4 f5 y0 y1 y2 y3 y4 y5 K0 K1 K2 hba hb4 hat4 hs9 HOf
     generalize (((((ub.setCell ⟨Gx,0,none⟩ (.int .i64 5)).setCell ⟨Gx,1,none⟩ (.string ⟨#[46,46]⟩)).setCell ⟨Gx,2,none⟩ (.string ⟨#[]⟩)).setCell ⟨Gx,3,none⟩ (.int .u64 0)).setCell ⟨Gx,4,none⟩ (.int .i64 0)).setCell ⟨Gx,5,none⟩ (.slice A4 2 c4)=u3 at *
     have HX3:=Qh (show TBox u3 Gx (spanT (ea,eb)) (.slice A4 2 c4) from by rw [HSp.out];exact hset.1)
     have HL3:=Qh (show ∀ sl,Ht.cells6 (spanT (ea,eb)) sl = [.int .i64 5,.string ⟨#[46,46]⟩,.string ⟨#[]⟩,.int .u64 0,.int .i64 0,sl] from by rw [HSp.out];exact fun _=>rfl)
     have HGr:=Qh hset.2
     clear hset
     have HA3:=Qh (show TAtP u3 (fun b=>w1.heap.size<b∧b<u3.heap.size∧b≠Gx) (spanT (ea,eb)) (.slice A4 2 c4) from by
      rw [HSp.out]
      refine TAtP.keep _ HAt4.out (fun b hb=>?_)
      have h1:=HKz.out
      have h2:=HGr.out.size
      have h3:=HG5.out
      rcases hb with hb | hb
      ·exact hb.elim
      ·exact ⟨⟨by omega,by omega,by omega⟩,HGr.out.block b hb.2 (fun e=>by injection e with e;omega)⟩)
     have HB9:=Qh (show Below wr.heap.size wr u3 from (HB5.out.2.trans ((HU2.out.trans ((Qt HUx.out HKb.out).mono HU2.out.size)).mono HB5.out.2.size)).grown HGr.out (by have:=HKz.out;have:=HG5.out;omega) (fun j e=>by injection e with e;have:=HG5.out;omega))
     have HTb:=Qh (TBox.below HI.out.box HB9.out)
     have hu3:=HB9.out.size
     have HBw:=Qh (HI.out.bel.trans (HB9.out.mono hw1))
     have HTa:=Qh (show TAtP u3 (fun b=>w1.heap.size<b∧b<u3.heap.size) T (.slice Ta n2 c2) from TAtP.keep _ HI.out.at_ (fun b hb=>⟨⟨hb.1,by omega⟩,HB9.out.block b hb.2⟩))
     obtain ⟨x0,x1,x2,x3,x4,x5⟩:=TBox.cellsL HX3.out HL3.out
     by_cases hk00:k=0
     ·have hki0:((k:Int)==0)=true:=by rw [hk00];rfl
      obtain ⟨f0,f1,f2,f3,f4,f5⟩:=TBox.frozens HTb.out
      obtain ⟨kT,nT,mT,bT,vT,hlT⟩:=tm_letters T
      obtain ⟨y0,y1,y2,y3,y4,y5⟩:=TBox.cellsL HTb.out hlT
      clear hlT
      have hset:=TBox.setL (sl':=.slice A4 2 c4) HTb.out HL3.out
      go_wp2_with fail
      generalize (((((u3.setCell ⟨w1.heap.size,0,none⟩ (.int .i64 5)).setCell ⟨w1.heap.size,1,none⟩ (.string ⟨#[46,46]⟩)).setCell ⟨w1.heap.size,2,none⟩ (.string ⟨#[]⟩)).setCell ⟨w1.heap.size,3,none⟩ (.int .u64 0)).setCell ⟨w1.heap.size,4,none⟩ (.int .i64 0)).setCell ⟨w1.heap.size,5,none⟩ (.slice A4 2 c4)=u4 at *
      have HS4:=Qh hset
      have HT4:=Qh (show TH w1 (spanT (ea,eb)) A4 2 c4 u4 from ⟨HBw.out.grown HS4.out.2 HBw.out.size (Qg (by omega)),HS4.out.1,
       TAtP.keep _ HA3.out (fun b hb=>⟨⟨hb.1,Ql hb.2.1 HS4.out.2.size⟩,HS4.out.2.block b hb.2.1 (fun e=>by injection e with e;have:=hb.1;omega)⟩)⟩)
      have HA4:=Qh (show spanT (ea,eb)=accT ((qs.map edsR).take (k+1)) from by
       rw [take_snoc HRe.out,hk00];rfl)
      go_roundw
      case rel=>exact ⟨k+1,spanT (ea,eb),A4,2,c4,by omega,by go_num,HA4,HT4⟩
      case measure=>simp [intOf];omega
     ·have hki0:((k:Int)==0)=false:=beq_eq_false_iff_ne.2 (by omega)
      obtain ⟨kT,nT,mT,bT,vT,hlT⟩:=tm_letters T
      obtain ⟨y0,y1,y2,y3,y4,y5⟩:=TBox.cellsL HTb.out hlT
      have HOf:=Qh (of_ok2 (w:=u3) (P:=fun b=>w1.heap.size<b∧b<u3.heap.size) (ta:=T) (tb:=spanT (ea,eb)) (sa:=.slice Ta n2 c2) (sb:=.slice A4 2 c4) (s:=sOr) (nb:=⟨#[92,47]⟩) HTa.out (TAtP.wide HA3.out (fun b hb=>⟨hb.1,hb.2.1⟩)) (fun b hb=>hb.2) rfl (by decide))
      unfold valT at HOf
      rw [hlT,HL3.out] at HOf
      have HLT:=Qh hlT
      clear hlT
      go_wp2_with (go_at_call 36;(with_reducible refine HOf.out.mono ?_);rintro e u4 ⟨A6,c6,rfl,hat4,hb4⟩;have HU4:=Qh hb4;have HA4:=Qh hat4;have HT4:=Qh (TBox.below HTb.out hb4);clear hat4 hb4;obtain ⟨f0,f1,f2,f3,f4,f5⟩:=TBox.frozens HT4.out;obtain ⟨z0,z1,z2,z3,z4,z5⟩:=TBox.cellsL HT4.out HLT.out)
      have hset:=TBox.setL (t':=cmpT sOr [T,spanT (ea,eb)]) (sl':=.slice A6 2 c6) (a0:=.int .i64 5) (a1:=.string ⟨#[92,47]⟩) (a2:=.string ⟨#[]⟩) (a3:=.int .u64 0) (a4:=.int .i64 0) HT4.out (fun _=>rfl)
      generalize (((((u4.setCell ⟨w1.heap.size,0,none⟩ (.int .i64 5)).setCell ⟨w1.heap.size,1,none⟩ (.string ⟨#[92,47]⟩)).setCell ⟨w1.heap.size,2,none⟩ (.string ⟨#[]⟩)).setCell ⟨w1.heap.size,3,none⟩ (.int .u64 0)).setCell ⟨w1.heap.size,4,none⟩ (.int .i64 0)).setCell ⟨w1.heap.size,5,none⟩ (.slice A6 2 c6)=u5 at *
      have HS5:=Qh hset
      have HBw5:=Qh (Qt HBw.out HU4.out)
      have HT5:=Qh (show TH w1 (cmpT sOr [T,spanT (ea,eb)]) A6 2 c6 u5 from ⟨HBw5.out.grown HS5.out.2 HBw5.out.size (Qg (by omega)),HS5.out.1,
       TAtP.keep _ HA4.out (fun b hb=>by
        have hz:=HS5.out.2.size
        have hz4:=HU4.out.size
        have hbb:w1.heap.size<b∧b<u4.heap.size:=by
         rcases hb with hb | hb
         ·omega
         ·omega
        exact ⟨⟨hbb.1,by omega⟩,HS5.out.2.block b hbb.2 (fun e=>by injection e with e;omega)⟩)⟩)
      have HA5:=Qh (show cmpT sOr [T,spanT (ea,eb)]=accT ((qs.map edsR).take (k+1)) from by
       rw [take_snoc HRe.out,accT_snoc (fun e=>by
        have h1:=congrArg List.length e
        rw [List.length_take,List.length_map,HLq.out.1] at h1
        simp at h1
        omega),←HAc.out];rfl)
      go_roundw
      case rel=>exact ⟨k+1,_,A6,2,c6,by omega,by go_num,HA5,HT5⟩
      case measure=>simp [intOf];omega
   ·have hkk:n1=k:=by omega
    subst hkk
    have hki:¬((n1:Int)<(n1:Int)):=by omega
    obtain ⟨kT,nT,mT,bT,vT,hlT⟩:=tm_letters T
    obtain ⟨y0,y1,y2,y3,y4,y5⟩:=TBox.cellsL HI.out.box hlT
    have HR:=Qh (show TBox wr (B+1) zeroT (.slice none 0 0) from (HI.out.bel.block (B+1) (by have:=HZ1.out;omega)).trans HT1.out)
    obtain ⟨f0,f1,f2,f3,f4,f5⟩:=TBox.frozens HR.out
    obtain ⟨z0,z1,z2,z3,z4,z5⟩:=TBox.cells (nb:=⟨#[]⟩) (mb:=⟨#[]⟩) HR.out rfl rfl
    have HSe:=Qh (TBox.setL (sl':=.slice Ta n2 c2) HR.out hlT)
    have HLT:=Qh hlT
    clear hlT
    go_wp2_with fail
    generalize (((((wr.setCell ⟨B+1,0,none⟩ (.int .i64 kT)).setCell ⟨B+1,1,none⟩ (.string nT)).setCell ⟨B+1,2,none⟩ (.string mT)).setCell ⟨B+1,3,none⟩ (.int .u64 bT)).setCell ⟨B+1,4,none⟩ (.int .i64 vT)).setCell ⟨B+1,5,none⟩ (.slice Ta n2 c2)=w9 at *
    obtain ⟨r0,r1,r2,r3,r4,r5⟩:=TBox.cellsL HSe.out.1 HLT.out
    have HNe:=Qh (show qs.map edsR ≠ [] from fun e=>by
     have h1:=congrArg List.length e
     rw [List.length_map,HLq.out.1] at h1
     exact HN0.out h1)
    have HTT:=Qh (show setT (qs.map edsR)=T from by
     rw [accT_set HNe.out,HAc.out,List.take_of_length_le (by rw [List.length_map,HLq.out.1];exact Nat.le_refl _)])
    have HB9:=Qh (show Below B w w9 from (HB1.out.trans (HI.out.bel.mono (by have:=HZ1.out;omega))).grown HSe.out.2 (by have:=HZ1.out;have:=HI.out.bel.size;omega) (Qg (by omega)))
    have key:TermPostB B w L K M (.returned (.tuple #[.agg (Q5 kT nT mT bT vT (.slice Ta n2 c2)),.int .i64 0])) w9:=
     ⟨qs.map edsR,.slice Ta n2 c2,HNf.out.1,HNf.out.2.2,by rw [List.length_map,HLq.out.1];exact HLq.out.2.1,HNf.out.2.1,by rw [HTT.out];unfold valT;rw [HLT.out],by
      rw [HTT.out]
      have hz:=HSe.out.2.size
      have hz1:=HZ1.out
      exact TAtP.keep _ HI.out.at_ (fun b hb=>⟨⟨by have:=hb.1;omega,by have:=hb.2;omega⟩,HSe.out.2.block b hb.2 (fun e=>by injection e with e;have:=hb.1;omega)⟩),HB9.out⟩
    first
     | (go_ret;exact HFin.out _ _ key)
     | exact bodyPost_ret (v:=.tuple #[.agg (Q5 kT nT mT bT vT (.slice Ta n2 c2)),.int .i64 0]) (by simp [results,Tryz.results8,go_sem,r0,r1,r2,r3,r4,r5]) rfl (HFin.out _ _ key)
theorem bnd_long {ps:List Rg} (h:longP ps=false):Bnd 128 (ps.map edsR):=by
 rw [longP_E] at h
 intro r hr
 have h1:=List.any_eq_false.1 (show (ps.map edsR).any _=false from h) r hr
 simp at h1
 omega
theorem Term_any {w:World} {P:Nat→Prop} {A:Option Addr} {n c:Nat} {ps:List Rg} (h:SetP w P A n c ps) (hP:∀ b,P b→b<w.heap.size) (hs:Szs ps) (hn:n≤1073741824) :
  Calls Tryz.prog 8 #[.slice A n c] w (TermPostA w.heap.size w (ps.map edsR) 1000 128 (longP ps=true) (longP ps=false∧∃ M,NF M∧(∀ z,Hf.mem z M↔Hf.mem z (ps.map edsR))∧1000<M.length) (longP ps=false)):=by
 refine Term_core ?_ (by omega) (by omega)
 obtain ⟨hb,hz,hv,ht,hc⟩:=VT_facts w A n c
 have hk:=h.keep (w':=VT w A n c) (Q:=P) (fun b hb2=>⟨hb2,hb.block b (hP b hb2)⟩)
 generalize VT w A n c=W at *
 have hT:=take_any (w:=W) (P:=P) (ads:=[w.heap.size]) (ss:=[⟨A,n,c,ps⟩]) (ns:=[]) (G:=w.heap.size+1+1) (q:=1) (r:=0) (c:=1) (ci:=0) (AI:=none)
  ⟨rfl,fun j ad s h1 h2=>by
   match j with
   | 0=>cases h1;cases h2;exact hv
   | j+1=>simp at h1,fun s hs2=>by
   rw [List.mem_singleton.1 hs2]
   exact ⟨hk,hs,hn⟩,fun b hb2=>⟨by have:=hP b hb2;omega,by have:=hP b hb2;simp;omega⟩,by simp⟩
  (InIn.nil W) (fun j ad h1=>by
   match j with
   | 0=>cases h1;exact hc
   | j+1=>simp at h1) (by omega) (by simp;omega) rfl rfl (by omega) (by omega)
 have hnl:anyLong [⟨A,n,c,ps⟩] []=longP ps:=by simp [anyLong]
 refine hT.mono fun e w' ⟨hch,hcs⟩=>?_
 rw [hnl] at hcs
 have hs3:=hch.size
 rw [hz] at hs3
 refine ⟨hb.trans (hch.below (by omega) (fun ad had=>by simp at had;omega)),hs3,(hch.block (w.heap.size+1) (by omega) (by simp)).trans ht,?_⟩
 rcases hcs with ⟨he,h1⟩ | ⟨he,h0,s,hs2,M',h1,h2,h3,h4⟩ | ⟨he,h0,hd⟩
 ·exact .inl ⟨he,h1⟩
 ·rw [List.mem_singleton.1 hs2] at h2
  exact .inr (.inl ⟨he,h0,M',h1,h2,h3⟩)
 ·have hD:=hd 0 _ _ rfl rfl
  rw [hz] at hD
  obtain ⟨A',n',c',qs,k1,k2,k3,k4,k5,k6,k7,k8⟩:=hD
  exact .inr (.inr ⟨he,h0,A',n',c',qs,k1,⟨k2,k3,k4,by omega,(bnd_long h0).ends k6⟩,k5⟩)
theorem N_any (nb:ByteArray) (w:World):Calls Tryz.prog 39 #[.string nb] w fun e w'=>e = .returned (.agg (Q5 3 ⟨#[]⟩ nb 0 0 (.slice none 0 0)))∧Below w.heap.size w w':=by
 go_enter Tryz.func39,Tryz.ntmps39
 go_wp2
 refine bodyPost_ret (v:=.agg (Q5 3 ⟨#[]⟩ nb 0 0 (.slice none 0 0))) (by simp [results,Tryz.results39,go_sem]) rfl ⟨rfl,?_⟩
 exact Qb
theorem cmpE_zero {e f:Ed} : cmpE e f=0↔e=f:=by
 cases e <;> cases f <;> simp [cmpE,infZ,cmpZ]
 split
 ·simp;omega
 ·split <;> simp <;> omega
theorem rword_ok {w:World} {P:Nat→Prop} {e:Ed} {b:Bd} (h:Sb w P e b) (hP:∀ x,P x→x<w.heap.size) (hl:lngE e=false) :
  Calls Tryz.prog 40 #[b.v] w (EndTPost w (endT e)):=by
 have HX0:=Qh (TBox.new (w.alloc (.cells b.vals.toArray 81)) (k:=0) (v:=0) (b:=0) (n:=[]) (m:=[]) (ts:=[]) (sl:=.slice none 0 0) (nb:=⟨#[]⟩) (mb:=⟨#[]⟩) rfl rfl)
 rw [World.size_alloc] at HX0
 have HB2:=Qh (show Below w.heap.size w ((w.alloc (.cells b.vals.toArray 81)).alloc (.cells Qz 26)) from (Qb).alloc (by simp) _)
 have HN:=Qh ((NBox.new w b).below (w':=(w.alloc (.cells b.vals.toArray 81)).alloc (.cells Qz 26)) (Qb))
 obtain ⟨ke,ne,me,hle⟩:=end_letters e
 have HLe:=Qh hle
 have key:∀ u u',TBox u (w.heap.size+1) zeroT (.slice none 0 0)→Below w.heap.size w u→u'=(((((u.setCell ⟨w.heap.size+1,0,none⟩ (.int .i64 ke)).setCell ⟨w.heap.size+1,1,none⟩ (.string ne)).setCell ⟨w.heap.size+1,2,none⟩ (.string me)).setCell ⟨w.heap.size+1,3,none⟩ (.int .u64 0)).setCell ⟨w.heap.size+1,4,none⟩ (.int .i64 0)).setCell ⟨w.heap.size+1,5,none⟩ (.slice none 0 0)→EndTPost w (endT e) (.returned (.agg (Q5 ke ne me 0 0 (.slice none 0 0)))) u'∧TBox u' (w.heap.size+1) (endT e) (.slice none 0 0):=fun u u' hx hb hu=>by
  have hs:=TBox.setL (sl':=.slice none 0 0) hx hle
  rw [←hu] at hs
  exact ⟨⟨by unfold valT;rw [hle],hb.grown hs.2 hb.size (Qg (by omega))⟩,hs.1⟩
 have HK:=Qh key
 clear key hle
 obtain ⟨A,c,rfl⟩:=h.is
 have hlim:=h.lim.sl (B:=w.heap.size) hP
 clear h hP
 cases e with
 | lo=>
  simp only [rb,Bd.v,Bd.vals] at *
  obtain ⟨x0,x1,x2⟩:=NBox.cells (b:=⟨-1,false,none,0,0,[]⟩) HN.out
  simp only at x0 x1 x2
  have HA:=Qh (show ∀ u,Calls Tryz.prog 15 #[.string ⟨#[105,110,102]⟩] u fun e w'=>e = .returned (.agg (Q5 ke ne me 0 0 (.slice none 0 0)))∧Below u.heap.size u w' from fun u=>by
   have hh:=A_any ⟨#[105,110,102]⟩ u
   have he:Value.agg (Qn 2 ⟨#[105,110,102]⟩ (.slice none 0 0)) = .agg (Q5 ke ne me 0 0 (.slice none 0 0)):=by
    have h1:=HLe.out (.slice none 0 0)
    have h2:Ht.cells6 (endT .lo) (.slice none 0 0) = [.int .i64 2,.string ⟨#[105,110,102]⟩,.string ⟨#[]⟩,.int .u64 0,.int .i64 0,.slice none 0 0]:=rfl
    rw [h2] at h1
    exact congrArg (fun l=>Value.agg l.toArray) h1
   rw [he] at hh
   exact hh)
  clear hl hlim
  go_enter Tryz.func40,Tryz.ntmps40
  go_wp2_with (go_at_call 15;(with_reducible refine (HA.out _).mono ?_);rintro e u ⟨rfl,hb⟩;have HX:=Qh (TBox.below HX0.out hb);have HBu:=Qh (HB2.out.trans (hb.mono HB2.out.size));clear hb;obtain ⟨z0,z1,z2,z3,z4,z5⟩:=TBox.frozens HX.out;obtain ⟨y0,y1,y2,y3,y4,y5⟩:=TBox.cells (nb:=⟨#[]⟩) (mb:=⟨#[]⟩) HX.out rfl rfl)
  have hk:=HK.out _ _ HX.out HBu.out rfl
  generalize (((((u.setCell ⟨w.heap.size+1,0,none⟩ (.int .i64 ke)).setCell ⟨w.heap.size+1,1,none⟩ (.string ne)).setCell ⟨w.heap.size+1,2,none⟩ (.string me)).setCell ⟨w.heap.size+1,3,none⟩ (.int .u64 0)).setCell ⟨w.heap.size+1,4,none⟩ (.int .i64 0)).setCell ⟨w.heap.size+1,5,none⟩ (.slice none 0 0)=u6 at *
  obtain ⟨r0,r1,r2,r3,r4,r5⟩:=TBox.cellsL hk.2 HLe.out
  exact bodyPost_ret (v:=.agg (Q5 ke ne me 0 0 (.slice none 0 0))) (by simp [results,Tryz.results40,go_sem,r0,r1,r2,r3,r4,r5]) rfl hk.1
 | hi=>
  simp only [rb,Bd.v,Bd.vals] at *
  obtain ⟨x0,x1,x2⟩:=NBox.cells (b:=⟨1,false,none,0,0,[]⟩) HN.out
  simp only at x0 x1 x2
  have HA:=Qh (show ∀ u,Calls Tryz.prog 15 #[.string ⟨#[115,117,112]⟩] u fun e w'=>e = .returned (.agg (Q5 ke ne me 0 0 (.slice none 0 0)))∧Below u.heap.size u w' from fun u=>by
   have hh:=A_any ⟨#[115,117,112]⟩ u
   have he:Value.agg (Qn 2 ⟨#[115,117,112]⟩ (.slice none 0 0)) = .agg (Q5 ke ne me 0 0 (.slice none 0 0)):=by
    have h1:=HLe.out (.slice none 0 0)
    have h2:Ht.cells6 (endT .hi) (.slice none 0 0) = [.int .i64 2,.string ⟨#[115,117,112]⟩,.string ⟨#[]⟩,.int .u64 0,.int .i64 0,.slice none 0 0]:=rfl
    rw [h2] at h1
    exact congrArg (fun l=>Value.agg l.toArray) h1
   rw [he] at hh
   exact hh)
  clear hl hlim
  go_enter Tryz.func40,Tryz.ntmps40
  go_wp2_with (go_at_call 15;(with_reducible refine (HA.out _).mono ?_);rintro e u ⟨rfl,hb⟩;have HX:=Qh (TBox.below HX0.out hb);have HBu:=Qh (HB2.out.trans (hb.mono HB2.out.size));clear hb;obtain ⟨z0,z1,z2,z3,z4,z5⟩:=TBox.frozens HX.out;obtain ⟨y0,y1,y2,y3,y4,y5⟩:=TBox.cells (nb:=⟨#[]⟩) (mb:=⟨#[]⟩) HX.out rfl rfl)
  have hk:=HK.out _ _ HX.out HBu.out rfl
  generalize (((((u.setCell ⟨w.heap.size+1,0,none⟩ (.int .i64 ke)).setCell ⟨w.heap.size+1,1,none⟩ (.string ne)).setCell ⟨w.heap.size+1,2,none⟩ (.string me)).setCell ⟨w.heap.size+1,3,none⟩ (.int .u64 0)).setCell ⟨w.heap.size+1,4,none⟩ (.int .i64 0)).setCell ⟨w.heap.size+1,5,none⟩ (.slice none 0 0)=u6 at *
  obtain ⟨r0,r1,r2,r3,r4,r5⟩:=TBox.cellsL hk.2 HLe.out
  exact bodyPost_ret (v:=.agg (Q5 ke ne me 0 0 (.slice none 0 0))) (by simp [results,Tryz.results40,go_sem,r0,r1,r2,r3,r4,r5]) rfl hk.1
 | num z=>
  have hsh:(digs 2 z.natAbs).length≤4096:=by
   have h1:decide (4096<(digs 2 z.natAbs).length)=false:=hl
   have:=of_decide_eq_false h1
   omega
  simp only [rb,Bd.v,Bd.vals] at *
  obtain ⟨x0,x1,x2⟩:=NBox.cells (b:=⟨0,decide (z<0),A,(digs 2 z.natAbs).length,c,digs 2 z.natAbs⟩) HN.out
  simp only at x0 x1 x2
  have HT:=Qh (show ∀ u,Below w.heap.size w u→Calls Tryz.prog 75 #[.agg #[.bool (decide (z<0)),.slice A (digs 2 z.natAbs).length c],.int .i64 10] u fun e w'=>e = .returned (.string me)∧Below u.heap.size u w' from fun u hu=>by
   have hh:=rText_any (w:=u) (B:=w.heap.size) (hlim.below (C:=w.heap.size) hu (Nat.le_refl _)) hu.size hsh 10 (by decide) (by decide)
   have he:(Value.string (strN (txtZ z 10))) = .string me:=by
    have h1:=HLe.out (.slice none 0 0)
    have h2:Ht.cells6 (endT (.num z)) (.slice none 0 0) = [.int .i64 3,.string ⟨#[]⟩,.string (strN (txtZ z 10)),.int .u64 0,.int .i64 0,.slice none 0 0]:=rfl
    rw [h2] at h1
    exact congrArg (fun l=>l.getD 2 (.bool false)) h1
   rw [he] at hh
   exact hh)
  have HA:=Qh (show ∀ u,Calls Tryz.prog 39 #[.string me] u fun e w'=>e = .returned (.agg (Q5 ke ne me 0 0 (.slice none 0 0)))∧Below u.heap.size u w' from fun u=>by
   have hh:=N_any me u
   have he:Value.agg (Q5 3 ⟨#[]⟩ me 0 0 (.slice none 0 0)) = .agg (Q5 ke ne me 0 0 (.slice none 0 0)):=by
    have h1:=HLe.out (.slice none 0 0)
    have h2:Ht.cells6 (endT (.num z)) (.slice none 0 0) = [.int .i64 3,.string ⟨#[]⟩,.string (strN (txtZ z 10)),.int .u64 0,.int .i64 0,.slice none 0 0]:=rfl
    rw [h2] at h1
    have h3:(Value.string (strN (txtZ z 10))) = .string me:=congrArg (fun l=>l.getD 2 (.bool false)) h1
    rw [h3] at h1
    exact congrArg (fun l=>Value.agg l.toArray) h1
   rw [he] at hh
   exact hh)
  clear hl hlim hsh
  generalize decide (z<0)=zg at *
  generalize (digs 2 z.natAbs).length=zn at *
  go_enter Tryz.func40,Tryz.ntmps40
  go_wp2_with fail
  (with_reducible refine (HT.out _ HB2.out).mono ?_)
  rintro e u1 ⟨rfl,hb⟩
  have HX1:=Qh (TBox.below HX0.out hb)
  have HBu1:=Qh (Qt HB2.out hb)
  clear hb x0 x1 x2
  go_wp2_with (go_at_call 39;(with_reducible refine (HA.out _).mono ?_);rintro e u ⟨rfl,hb⟩;have HX:=Qh (TBox.below HX1.out hb);have HBu:=Qh (HBu1.out.trans (hb.mono HBu1.out.size));clear hb;obtain ⟨z0,z1,z2,z3,z4,z5⟩:=TBox.frozens HX.out;obtain ⟨y0,y1,y2,y3,y4,y5⟩:=TBox.cells (nb:=⟨#[]⟩) (mb:=⟨#[]⟩) HX.out rfl rfl)
  have hk:=HK.out _ _ HX.out HBu.out rfl
  generalize (((((u.setCell ⟨w.heap.size+1,0,none⟩ (.int .i64 ke)).setCell ⟨w.heap.size+1,1,none⟩ (.string ne)).setCell ⟨w.heap.size+1,2,none⟩ (.string me)).setCell ⟨w.heap.size+1,3,none⟩ (.int .u64 0)).setCell ⟨w.heap.size+1,4,none⟩ (.int .i64 0)).setCell ⟨w.heap.size+1,5,none⟩ (.slice none 0 0)=u6 at *
  obtain ⟨r0,r1,r2,r3,r4,r5⟩:=TBox.cellsL hk.2 HLe.out
  exact bodyPost_ret (v:=.agg (Q5 ke ne me 0 0 (.slice none 0 0))) (by simp [results,Tryz.results40,go_sem,r0,r1,r2,r3,r4,r5]) rfl hk.1
end
section
open Go.RowKit Hb Hf Ht
attribute [local go_sem] Oper.semAt_some
theorem nrm_zero:(ib 0).Nrm:=⟨.inr (.inl rfl),fun _=>⟨rfl,rfl⟩,by simp [ib,Bd.z,ival,nv,digs_zero]⟩
def BdTPost (w:World) (r:Ed × Bool) (e:Ending) (w':World):Prop:=∃ d:Bd,e = .returned (.tuple #[d.v,.bool r.2])∧d.At w' (Fr w.heap.size w')∧d.Nrm∧d.ed=r.1∧szE r.1≤128∧Below w.heap.size w w'
theorem canon_code {l:List UInt8} (h:canonB l=true):pCode l 10=0:=by
 unfold canonB at h
 simp only [Bool.and_eq_true,decide_eq_true_eq] at h
 exact h.1
theorem short_back {z:Int} (h:tooLong z=false):szE (.num z)≤128:=by
 rw [tooLong_iff,decide_eq_false_iff_not,Classical.not_not] at h
 refine digs_length_le (by decide) (Ql h (Nat.le_of_eq ?_))
 show 2 ^ 4096=4294967296 ^ 128
 decide +kernel
theorem toL {n:List UInt8} {nby:ByteArray} (h:(⟨n.toArray⟩:ByteArray)=nby):nby.toList=n:=by rw [←h,ByteArray.toList_eq]
theorem bound_ok {w:World} {t:Tm} {sl:Value} (h:TAt w w.heap.size t sl) (hc:t.k=3→canonB t.m=true) :
  Calls Tryz.prog 79 #[valT t sl] w (BdTPost w (bdT t)):=by
 obtain ⟨k,nl,ml,b,v,ts,nby,mb,A,c,rfl,rfl,hnb,hmb,hl1,hl2,hl3,hv,hs1,hs2⟩:=h.letters
 rw [hv]
 have hc:k=3→canonB ml=true:=hc
 obtain ⟨q,hq⟩:∃ q,ts.length=q:=⟨_,rfl⟩
 rw [hq]
 have hX:=TBox.new (ts:=ts) w (k:=k) (b:=b) (v:=v) (sl:=.slice A q c) hnb hmb
 have hE:=EBox.new (w.alloc (.cells (Q5 k nby mb b v (.slice A q c)) 26)) (ib 0)
 rw [World.size_alloc] at hE
 have hb1:Below w.heap.size w (w.alloc (.cells (Q5 k nby mb b v (.slice A q c)) 26)):=Qb
 have hX2:=hX.below (w':=(w.alloc (.cells (Q5 k nby mb b v (.slice A q c)) 26)).alloc (.cells (ib 0).vals.toArray 67)) (Qb)
 have HN:=Qh (fun (i:Int)=>EBox.new (w.alloc (.cells (Q5 k nby mb b v (.slice A q c)) 26)) (ib i))
 have HB:=Qh (fun (o:Obj)=>show Below w.heap.size w ((w.alloc (.cells (Q5 k nby mb b v (.slice A q c)) 26)).alloc o) from hb1.alloc hb1.size o)
 have hnl:=toL hnb
 obtain ⟨x0,x1,x2,x3,x4,x5⟩:=hX2.cells hnb hmb
 obtain ⟨f0,f1,f2⟩:=hE.frozens
 simp only [Bd.vals,ib] at hE x0 x1 x2 x3 x4 x5 HN f0 f1 f2
 rw [World.size_alloc] at HN
 have HE:=Qh hE
 have HBy:=Qh (show mb.data.toList=ml from by rw [←hmb])
 clear h hX hX2 hE hb1 hv hnb hmb hl1 hl2 hl3 hs1 hq
 by_cases h3:k=3
 ·subst h3
  have HC:=Qh (hc rfl)
  have HR:=Qh (show bdT (.mk 3 nl ml b v ts)=(.num (pVal ml 10),true) from rfl)
  rw [HR.out]
  obtain ⟨z,hz⟩:∃ z,pVal ml 10=z:=⟨_,rfl⟩
  have HS:=Qh (show tooLong z=false from by rw [←hz];exact code_ok (canon_code HC.out))
  have HP:=Qh (show Calls Tryz.prog 110 #[.string mb,.int .i64 10] _ (PostC _ z 0) from by
   have hh:=Parse_any mb 10 ((w.alloc (.cells (Q5 3 nby mb b v (.slice A q c)) 26)).alloc (.cells #[.int .i64 0,.bool false,.slice none 0 0] 67)) hs2
   rw [HBy.out,canon_code HC.out,hz] at hh
   exact hh)
  rw [hz]
  clear hz hs2 hc HC HR hnl f0 f1 f2 HN
  go_enter Tryz.func79,Tryz.ntmps79
  go_wp2_with fail
  (with_reducible refine HP.out.mono ?_)
  rintro e u ⟨vv,rfl,hr,_,hbu⟩
  obtain ⟨A3,c3,rfl,hat⟩:=(hr rfl).nb
  have HA:=Qh hat
  have HBu:=Qh hbu
  have HE2:=Qh ((EBox.below (b:=ib 0) HE.out hbu).below ((Below.refl u.heap.size u).alloc (Nat.le_refl _) (.cells #[.bool (decide (z<0)),.slice A3 (digs W z.natAbs).length c3] 56)))
  clear hr hat hbu x0 x1 x2 x3 x4 x5
  obtain ⟨f0,f1,f2⟩:=HE2.out.frozens
  obtain ⟨y0,y1,y2⟩:=HE2.out.cells
  go_wp2
  have HSe:=Qh (HE2.out.set3 (nb z A3 c3))
  have hgt:=HBu.out.size
  have HZ:=Qh (show w.heap.size+2≤u.heap.size from by simp at hgt;omega)
  have HBb:=Qh ((HB.out (.cells #[.int .i64 0,.bool false,.slice none 0 0] 67)).trans (HBu.out.mono (HB.out _).size))
  have HA2:=Qh (show (nb z A3 c3).At (u.alloc (.cells #[.bool (decide (z<0)),.slice A3 (digs W z.natAbs).length c3] 56)) (fun x=>w.heap.size+2≤x∧x<u.heap.size) from HA.out.keep (fun x hx=>⟨⟨by have:=hx.1;simp at this;omega,hx.2⟩,((Below.refl u.heap.size u).alloc (Nat.le_refl _) _).block x hx.2⟩))
  have HBc:=Qh (HBb.out.alloc HBb.out.size (.cells #[.bool (decide (z<0)),.slice A3 (digs W z.natAbs).length c3] 56))
  have HSz:=Qh (show u.heap.size<(u.alloc (.cells #[.bool (decide (z<0)),.slice A3 (digs W z.natAbs).length c3] 56)).heap.size from by simp)
  simp only [nb] at HSe
  generalize (((u.alloc (.cells #[.bool (decide (z<0)),.slice A3 (digs W z.natAbs).length c3] 56)).setCell ⟨w.heap.size+1,0,none⟩ (.int .i64 0)).setCell ⟨w.heap.size+1,1,none⟩ (.bool (decide (z<0)))).setCell ⟨w.heap.size+1,2,none⟩ (.slice A3 (digs W z.natAbs).length c3)=u6 at *
  obtain ⟨r0,r1,r2⟩:=HSe.out.1.cells
  simp only at r0 r1 r2
  exact bodyPost_ret (v:=.tuple #[.agg #[.int .i64 0,.bool (decide (z<0)),.slice A3 (digs W z.natAbs).length c3],.bool true]) (by simp [results,Tryz.results79,go_sem,r0,r1,r2]) rfl
   ⟨nb z A3 c3,rfl,HA2.out.keep (fun x hx=>⟨⟨by have:=hx.1;omega,by have:=hx.2;have:=HSz.out;have:=HSe.out.2.size;omega⟩,HSe.out.2.block x (by have:=hx.2;have:=HSz.out;omega) (fun e=>by injection e with e;have:=hx.1;omega)⟩),nb_nrm _ _ _,nb_ed _ _ _,short_back HS.out,HBc.out.grown HSe.out.2 HBc.out.size (Qg (by omega))⟩
 ·have h30:(k==3)=false:=beq_eq_false_iff_ne.2 h3
  have HP0:True:=trivial
  clear hc hs2 HE HBy
  by_cases h2:k=2
  ·subst h2
   by_cases g1:nl=sInf
   ·have t1:(nby.toList == [105,110,102])=true:=by rw [hnl,g1];rfl
    have HR:=Qh (show bdT (.mk 2 nl ml b v ts)=(.lo,true) from by show (if (2:Int)=3 then (Ed.num (pVal ml 10),true) else if (2:Int)=2∧nl=sInf then (Ed.lo,true) else if (2:Int)=2∧nl=sSup then (Ed.hi,true) else (Ed.num 0,false))=_;rw [if_neg (by decide),if_pos ⟨rfl,g1⟩])
    rw [HR.out]
    have HNi:=Qh (HN.out (-1))
    have HBi:=Qh (HB.out (.cells #[.int .i64 (-1),.bool false,.slice none 0 0] 67))
    clear HR HN HB HP0 hnl g1
    go_enter Tryz.func79,Tryz.ntmps79
    go_wp2
    obtain ⟨r0,r1,r2⟩:=HNi.out.cells
    simp only at r0 r1 r2
    exact bodyPost_ret (v:=.tuple #[.agg #[.int .i64 (-1),.bool false,.slice none 0 0],.bool true]) (by simp [results,Tryz.results79,go_sem,r0,r1,r2]) rfl ⟨ib (-1),rfl,ib_at _ _ (by omega),ib_nrm (by omega),rfl,by simp [szE],HBi.out⟩
   ·have t1:(nby.toList == [105,110,102])=false:=by rw [hnl];exact beq_eq_false_iff_ne.2 g1
    by_cases g2:nl=sSup
    ·have t2:(nby.toList == [115,117,112])=true:=by rw [hnl,g2];rfl
     have HR:=Qh (show bdT (.mk 2 nl ml b v ts)=(.hi,true) from by show (if (2:Int)=3 then (Ed.num (pVal ml 10),true) else if (2:Int)=2∧nl=sInf then (Ed.lo,true) else if (2:Int)=2∧nl=sSup then (Ed.hi,true) else (Ed.num 0,false))=_;rw [if_neg (by decide),if_neg (fun h=>g1 h.2),if_pos ⟨rfl,g2⟩])
     rw [HR.out]
     have HNi:=Qh (HN.out (1))
     have HBi:=Qh (HB.out (.cells #[.int .i64 (1),.bool false,.slice none 0 0] 67))
     clear HR HN HB HP0 hnl g1 g2
     go_enter Tryz.func79,Tryz.ntmps79
     go_wp2
     obtain ⟨r0,r1,r2⟩:=HNi.out.cells
     simp only at r0 r1 r2
     exact bodyPost_ret (v:=.tuple #[.agg #[.int .i64 (1),.bool false,.slice none 0 0],.bool true]) (by simp [results,Tryz.results79,go_sem,r0,r1,r2]) rfl ⟨ib (1),rfl,ib_at _ _ (by omega),ib_nrm (by omega),rfl,by simp [szE],HBi.out⟩
    ·have t2:(nby.toList == [115,117,112])=false:=by rw [hnl];exact beq_eq_false_iff_ne.2 g2
     have HR:=Qh (show bdT (.mk 2 nl ml b v ts)=(.num 0,false) from by show (if (2:Int)=3 then (Ed.num (pVal ml 10),true) else if (2:Int)=2∧nl=sInf then (Ed.lo,true) else if (2:Int)=2∧nl=sSup then (Ed.hi,true) else (Ed.num 0,false))=_;rw [if_neg (by decide),if_neg (fun h=>g1 h.2),if_neg (fun h=>g2 h.2)])
     rw [HR.out]
     have HNi:=Qh (HN.out (0))
     have HBi:=Qh (HB.out (.cells #[.int .i64 (0),.bool false,.slice none 0 0] 67))
     clear HR HN HB HP0 hnl g1 g2
     go_enter Tryz.func79,Tryz.ntmps79
     go_wp2
     obtain ⟨r0,r1,r2⟩:=HNi.out.cells
     simp only at r0 r1 r2
     exact bodyPost_ret (v:=.tuple #[.agg #[.int .i64 (0),.bool false,.slice none 0 0],.bool false]) (by simp [results,Tryz.results79,go_sem,r0,r1,r2]) rfl ⟨ib (0),rfl,ib_at _ _ (by omega),nrm_zero,rfl,by simp [szE] <;> exact Nat.le_trans (Nat.le_of_eq szE_nought) (by omega),HBi.out⟩
  ·have h20:(k==2)=false:=beq_eq_false_iff_ne.2 h2
   have HR:=Qh (show bdT (.mk k nl ml b v ts)=(.num 0,false) from by show (if k=3 then (Ed.num (pVal ml 10),true) else if k=2∧nl=sInf then (Ed.lo,true) else if k=2∧nl=sSup then (Ed.hi,true) else (Ed.num 0,false))=_;rw [if_neg h3,if_neg (fun h=>h2 h.1),if_neg (fun h=>h2 h.1)])
   rw [HR.out]
   have HNi:=Qh (HN.out (0))
   have HBi:=Qh (HB.out (.cells #[.int .i64 (0),.bool false,.slice none 0 0] 67))
   clear HR HN HB HP0 hnl h2 h3
   go_enter Tryz.func79,Tryz.ntmps79
   go_wp2
   obtain ⟨r0,r1,r2⟩:=HNi.out.cells
   simp only at r0 r1 r2
   exact bodyPost_ret (v:=.tuple #[.agg #[.int .i64 (0),.bool false,.slice none 0 0],.bool false]) (by simp [results,Tryz.results79,go_sem,r0,r1,r2]) rfl ⟨ib (0),rfl,ib_at _ _ (by omega),nrm_zero,rfl,by simp [szE] <;> exact Nat.le_trans (Nat.le_of_eq szE_nought) (by omega),HBi.out⟩
def RbPost (w:World) (r:Ed × Bool) (e:Ending) (w':World):Prop:=∃ (d:Bd) (e0:Ed),e = .returned (.tuple #[d.v,.bool r.2])∧Sb w' (Fr w.heap.size w') e0 d∧(r.2=true→e0=r.1)∧EdOk e0∧Below w.heap.size w w'
theorem rbound_ok {w:World} {t:Tm} {sl:Value} (h:TAt w w.heap.size t sl) (hc:t.k=3→canonB t.m=true) :
  Calls Tryz.prog 46 #[valT t sl] w (RbPost w (bdT t)):=by
 obtain ⟨k,nl,ml,b,v,ts,nby,mb,A,c,rfl,rfl,hnb,hmb,hl1,hl2,hl3,hv,hs1,hs2⟩:=h.letters
 rw [hv]
 have hc:k=3→canonB ml=true:=hc
 obtain ⟨q,hq⟩:∃ q,ts.length=q:=⟨_,rfl⟩
 rw [hq]
 have hX:=TBox.new (ts:=ts) w (k:=k) (b:=b) (v:=v) (sl:=.slice A q c) hnb hmb
 have hE:=NBox.new (w.alloc (.cells (Q5 k nby mb b v (.slice A q c)) 26)) (ib 0)
 rw [World.size_alloc] at hE
 have hb1:Below w.heap.size w (w.alloc (.cells (Q5 k nby mb b v (.slice A q c)) 26)):=Qb
 have hX2:=hX.below (w':=(w.alloc (.cells (Q5 k nby mb b v (.slice A q c)) 26)).alloc (.cells (ib 0).vals.toArray 81)) (Qb)
 have HN:=Qh (fun (i:Int)=>NBox.new (w.alloc (.cells (Q5 k nby mb b v (.slice A q c)) 26)) (ib i))
 have HB:=Qh (fun (o:Obj)=>show Below w.heap.size w ((w.alloc (.cells (Q5 k nby mb b v (.slice A q c)) 26)).alloc o) from hb1.alloc hb1.size o)
 have hnl:=toL hnb
 obtain ⟨x0,x1,x2,x3,x4,x5⟩:=hX2.cells hnb hmb
 obtain ⟨f0,f1,f2⟩:=hE.frozens
 simp only [Bd.vals,ib] at hE hX2 x0 x1 x2 x3 x4 x5 HN f0 f1 f2
 rw [World.size_alloc] at HN
 have HE:=Qh hE
 have HXt:=Qh hX2
 have HLx:=Qh (Qa hnb hmb)
 have HBy:=Qh (show mb.data.toList=ml from by rw [←hmb])
 clear h hX hX2 hE hb1 hv hnb hmb hl1 hl2 hl3 hs1 hq
 by_cases h3:k=3
 ·subst h3
  have HC:=Qh (hc rfl)
  have HR:=Qh (show bdT (.mk 3 nl ml b v ts)=(.num (pVal ml 10),true) from rfl)
  rw [HR.out]
  obtain ⟨z,hz⟩:∃ z,pVal ml 10=z:=⟨_,rfl⟩
  have HS:=Qh (show tooLong z=false from by rw [←hz];exact code_ok (canon_code HC.out))
  have HP:=Qh (show Calls Tryz.prog 82 #[.string mb,.int .i64 10] _ (RpPost _ z 0) from by
   have hh:=rParse_anyL mb 10 ((w.alloc (.cells (Q5 3 nby mb b v (.slice A q c)) 26)).alloc (.cells #[.int .i64 0,.bool false,.slice none 0 0] 81)) (Nat.le_trans hs2 (by unfold maxLen;omega))
   rw [HBy.out,canon_code HC.out,hz] at hh
   exact hh)
  rw [hz]
  clear hz hs2 hc HC HR hnl f0 f1 f2 HN
  go_enter Tryz.func46,Tryz.ntmps46
  go_wp2_with fail
  (with_reducible refine HP.out.mono ?_)
  rintro e u ⟨vv,rfl,hr,_,hbu⟩
  have hdl:(digs 2 z.natAbs).length≤4096:=digs_length_le (by decide) (blen_le_iff.1 (short_blen HS.out))
  obtain ⟨A3,c3,rfl,hat⟩:=(hr rfl).sb (by omega)
  have HA:=Qh hat
  have HBu:=Qh hbu
  have HE2:=Qh ((NBox.below (b:=ib 0) HE.out hbu).below ((Below.refl u.heap.size u).alloc (Nat.le_refl _) (.cells #[.bool (decide (z<0)),.slice A3 (digs 2 z.natAbs).length c3] 79)))
  clear hr hat hbu x0 x1 x2 x3 x4 x5
  obtain ⟨f0,f1,f2⟩:=HE2.out.frozens
  obtain ⟨y0,y1,y2⟩:=HE2.out.cells
  go_wp2
  have HSe:=Qh (HE2.out.set3 (rb (.num z) A3 c3))
  have hgt:=HBu.out.size
  have HZ:=Qh (show w.heap.size+2≤u.heap.size from by simp at hgt;omega)
  have HBb:=Qh ((HB.out (.cells #[.int .i64 0,.bool false,.slice none 0 0] 81)).trans (HBu.out.mono (HB.out _).size))
  have HA2:=Qh (show Sb (u.alloc (.cells #[.bool (decide (z<0)),.slice A3 (digs 2 z.natAbs).length c3] 79)) (fun x=>w.heap.size+2≤x∧x<u.heap.size) (.num z) (rb (.num z) A3 c3) from HA.out.keep (fun x hx=>⟨⟨by have:=hx.1;simp at this;omega,hx.2⟩,((Below.refl u.heap.size u).alloc (Nat.le_refl _) _).block x hx.2⟩))
  have HBc:=Qh (HBb.out.alloc HBb.out.size (.cells #[.bool (decide (z<0)),.slice A3 (digs 2 z.natAbs).length c3] 79))
  have HSz:=Qh (show u.heap.size<(u.alloc (.cells #[.bool (decide (z<0)),.slice A3 (digs 2 z.natAbs).length c3] 79)).heap.size from by simp)
  simp only [rb] at HSe
  generalize (((u.alloc (.cells #[.bool (decide (z<0)),.slice A3 (digs 2 z.natAbs).length c3] 79)).setCell ⟨w.heap.size+1,0,none⟩ (.int .i64 0)).setCell ⟨w.heap.size+1,1,none⟩ (.bool (decide (z<0)))).setCell ⟨w.heap.size+1,2,none⟩ (.slice A3 (digs 2 z.natAbs).length c3)=u6 at *
  obtain ⟨r0,r1,r2⟩:=HSe.out.1.cells
  simp only at r0 r1 r2
  exact bodyPost_ret (v:=.tuple #[.agg #[.int .i64 0,.bool (decide (z<0)),.slice A3 (digs 2 z.natAbs).length c3],.bool true]) (by simp [results,Tryz.results46,go_sem,r0,r1,r2]) rfl
   ⟨rb (.num z) A3 c3,.num z,rfl,HA2.out.keep (fun x hx=>⟨⟨by have:=hx.1;omega,by have:=hx.2;have:=HSz.out;have:=HSe.out.2.size;omega⟩,HSe.out.2.block x (by have:=hx.2;have:=HSz.out;omega) (fun e=>by injection e with e;have:=hx.1;omega)⟩),fun _=>rfl,short_back HS.out,HBc.out.grown HSe.out.2 HBc.out.size (Qg (by omega))⟩
 ·have h30:(k==3)=false:=beq_eq_false_iff_ne.2 h3
  have HP0:True:=trivial
  clear hc hs2 HBy
  by_cases h2:k=2
  ·subst h2
   by_cases g1:nl=sInf
   ·have t1:(nby.toList == [105,110,102])=true:=by rw [hnl,g1];rfl
    have HR:=Qh (show bdT (.mk 2 nl ml b v ts)=(.lo,true) from by show (if (2:Int)=3 then (Ed.num (pVal ml 10),true) else if (2:Int)=2∧nl=sInf then (Ed.lo,true) else if (2:Int)=2∧nl=sSup then (Ed.hi,true) else (Ed.num 0,false))=_;rw [if_neg (by decide),if_pos ⟨rfl,g1⟩])
    rw [HR.out]
    have HNi:=Qh (HN.out (-1))
    have HBi:=Qh (HB.out (.cells #[.int .i64 (-1),.bool false,.slice none 0 0] 81))
    clear HR HN HB HP0 hnl g1 HXt HLx
    go_enter Tryz.func46,Tryz.ntmps46
    go_wp2
    obtain ⟨r0,r1,r2⟩:=HNi.out.cells
    simp only at r0 r1 r2
    exact bodyPost_ret (v:=.tuple #[.agg #[.int .i64 (-1),.bool false,.slice none 0 0],.bool true]) (by simp [results,Tryz.results46,go_sem,r0,r1,r2]) rfl ⟨rb .lo none 0,.lo,rfl,sb_lo _ _,fun _=>rfl,Nat.zero_le _,HBi.out⟩
   ·have t1:(nby.toList == [105,110,102])=false:=by rw [hnl];exact beq_eq_false_iff_ne.2 g1
    by_cases g2:nl=sSup
    ·have t2:(nby.toList == [115,117,112])=true:=by rw [hnl,g2];rfl
     have HR:=Qh (show bdT (.mk 2 nl ml b v ts)=(.hi,true) from by show (if (2:Int)=3 then (Ed.num (pVal ml 10),true) else if (2:Int)=2∧nl=sInf then (Ed.lo,true) else if (2:Int)=2∧nl=sSup then (Ed.hi,true) else (Ed.num 0,false))=_;rw [if_neg (by decide),if_neg (fun h=>g1 h.2),if_pos ⟨rfl,g2⟩])
     rw [HR.out]
     have HBz:=Qh (HB.out (.cells #[.int .i64 0,.bool false,.slice none 0 0] 81))
     clear HR HN HB HP0 hnl g1 g2
     go_enter Tryz.func46,Tryz.ntmps46
     go_upto_region 6 with fail
     generalize ((w.alloc (.cells (Q5 2 nby mb b v (.slice A q c)) 26)).alloc (.cells #[.int .i64 0,.bool false,.slice none 0 0] 81))=w2 at *
     have hxl:=HE.out.lt
     refine wp_region_HB (w.heap.size+1) (by kernel_rfl) (fun z0 K0 hs0=>?_)
     have K1:=K0.mono (show w.heap.size+1≤w2.heap.size by omega)
     refine tH0 0 K1 ?_
     refine tH0 1 K1 ?_
     refine tH0 2 K1 ?_ (y:=fun z5 hS=>by obtain ⟨q0,q1,q2,q3,q4,q5⟩:=TBox.cells ((hS.block w.heap.size (by omega)).trans HXt.out) HLx.out.1 HLx.out.2;go_simp;rfl)
     refine tH0 3 K1 ?_
     refine tH0 4 K1 ?_
     refine tH0 5 K1 ?_
     refine tH0 6 K1 ?_ (y:=fun z5 hS=>by obtain ⟨q0,q1,q2,q3,q4,q5⟩:=TBox.cells ((hS.block w.heap.size (by omega)).trans HXt.out) HLx.out.1 HLx.out.2;go_simp;rfl)
     refine tH0 7 K1 ?_
     refine tH0 8 K1 ?_
     have HE0:=Qh (NBox.below (b:=ib 0) HE.out K0)
     obtain ⟨y0,y1,y2⟩:=HE0.out.cells
     obtain ⟨f0,f1,f2⟩:=HE0.out.frozens
     simp only [ib] at y0 y1 y2
     have hset:=HE0.out.set3 (ib 1)
     simp only [ib] at hset
     refine oH0 9 fun K hK=>?_
     go_simp
     have K2:=K1.grown hset.2 (by omega) (Qg (by omega))
     refine hK.out _ _ K2 ?_
     refine oH0 10 fun K hK=>?_
     go_simp
     refine hK.out _ _ K2 ?_
     refine wpAnyH_end (by kernel_rfl) ?_ _
     have HK0:=Qh (Qt HBz.out K0)
     clear y0 y1 y2 f0 f1 f2 K0 hs0 K1 K2
     generalize ((z0.setCell ⟨w.heap.size+1,0,none⟩ (.int .i64 1)).setCell ⟨w.heap.size+1,1,none⟩ (.bool false)).setCell ⟨w.heap.size+1,2,none⟩ (.slice none 0 0)=u6 at *
     have HSe:=Qh hset
     go_wp2_with fail
     obtain ⟨r0,r1,r2⟩:=NBox.cells (b:=⟨1,false,none,0,0,[]⟩) HSe.out.1
     simp only at r0 r1 r2
     exact bodyPost_ret (v:=.tuple #[.agg #[.int .i64 1,.bool false,.slice none 0 0],.bool true]) (by simp [results,Tryz.results46,go_sem,r0,r1,r2]) rfl ⟨rb .hi none 0,.hi,rfl,sb_hi _ _,fun _=>rfl,Nat.zero_le _,HK0.out.grown HSe.out.2 HK0.out.size (Qg (by omega))⟩
    ·have t2:(nby.toList == [115,117,112])=false:=by rw [hnl];exact beq_eq_false_iff_ne.2 g2
     have HR:=Qh (show bdT (.mk 2 nl ml b v ts)=(.num 0,false) from by show (if (2:Int)=3 then (Ed.num (pVal ml 10),true) else if (2:Int)=2∧nl=sInf then (Ed.lo,true) else if (2:Int)=2∧nl=sSup then (Ed.hi,true) else (Ed.num 0,false))=_;rw [if_neg (by decide),if_neg (fun h=>g1 h.2),if_neg (fun h=>g2 h.2)])
     rw [HR.out]
     have HBz:=Qh (HB.out (.cells #[.int .i64 0,.bool false,.slice none 0 0] 81))
     clear HR HN HB HP0 hnl g1 g2
     go_enter Tryz.func46,Tryz.ntmps46
     go_upto_region 6 with fail
     generalize ((w.alloc (.cells (Q5 2 nby mb b v (.slice A q c)) 26)).alloc (.cells #[.int .i64 0,.bool false,.slice none 0 0] 81))=w2 at *
     have hxl:=HE.out.lt
     refine wp_region_HB (w.heap.size+1) (by kernel_rfl) (fun z0 K0 hs0=>?_)
     have K1:=K0.mono (show w.heap.size+1≤w2.heap.size by omega)
     refine tH0 0 K1 ?_
     refine tH0 1 K1 ?_
     refine tH0 2 K1 ?_ (y:=fun z5 hS=>by obtain ⟨q0,q1,q2,q3,q4,q5⟩:=TBox.cells ((hS.block w.heap.size (by omega)).trans HXt.out) HLx.out.1 HLx.out.2;go_simp;rfl)
     refine tH0 3 K1 ?_
     refine tH0 4 K1 ?_
     refine tH0 5 K1 ?_
     refine tH0 6 K1 ?_ (y:=fun z5 hS=>by obtain ⟨q0,q1,q2,q3,q4,q5⟩:=TBox.cells ((hS.block w.heap.size (by omega)).trans HXt.out) HLx.out.1 HLx.out.2;go_simp;rfl)
     refine tH0 7 K1 ?_
     refine tH0 8 K1 ?_
     have HE0:=Qh (NBox.below (b:=ib 0) HE.out K0)
     obtain ⟨y0,y1,y2⟩:=HE0.out.cells
     obtain ⟨f0,f1,f2⟩:=HE0.out.frozens
     simp only [ib] at y0 y1 y2
     have hset:=HE0.out.set3 (ib 1)
     simp only [ib] at hset
     refine oH0 9 fun K hK=>?_
     go_simp
     have K2:=K1.grown hset.2 (by omega) (Qg (by omega))
     refine hK.out _ _ K2 ?_
     refine oH0 10 fun K hK=>?_
     go_simp
     refine hK.out _ _ K2 ?_
     refine wpAnyH_end (by kernel_rfl) ?_ _
     have HK0:=Qh (Qt HBz.out K0)
     clear y0 y1 y2 f0 f1 f2 K0 hs0 K1 K2
     generalize ((z0.setCell ⟨w.heap.size+1,0,none⟩ (.int .i64 1)).setCell ⟨w.heap.size+1,1,none⟩ (.bool false)).setCell ⟨w.heap.size+1,2,none⟩ (.slice none 0 0)=u6 at *
     have HSe:=Qh hset
     go_wp2_with fail
     obtain ⟨r0,r1,r2⟩:=NBox.cells (b:=⟨1,false,none,0,0,[]⟩) HSe.out.1
     simp only at r0 r1 r2
     exact bodyPost_ret (v:=.tuple #[.agg #[.int .i64 1,.bool false,.slice none 0 0],.bool false]) (by simp [results,Tryz.results46,go_sem,r0,r1,r2]) rfl ⟨rb .hi none 0,.hi,rfl,sb_hi _ _,(fun h=>by cases h),Nat.zero_le _,HK0.out.grown HSe.out.2 HK0.out.size (Qg (by omega))⟩
  ·have h20:(k==2)=false:=beq_eq_false_iff_ne.2 h2
   have HR:=Qh (show bdT (.mk k nl ml b v ts)=(.num 0,false) from by show (if (k:Int)=3 then (Ed.num (pVal ml 10),true) else if (k:Int)=2∧nl=sInf then (Ed.lo,true) else if (k:Int)=2∧nl=sSup then (Ed.hi,true) else (Ed.num 0,false))=_;rw [if_neg h3,if_neg (fun h=>h2 h.1),if_neg (fun h=>h2 h.1)])
   rw [HR.out]
   have HBz:=Qh (HB.out (.cells #[.int .i64 0,.bool false,.slice none 0 0] 81))
   clear HR HN HB HP0 hnl h2 h3
   go_enter Tryz.func46,Tryz.ntmps46
   go_upto_region 6 with fail
   generalize ((w.alloc (.cells (Q5 k nby mb b v (.slice A q c)) 26)).alloc (.cells #[.int .i64 0,.bool false,.slice none 0 0] 81))=w2 at *
   have hxl:=HE.out.lt
   refine wp_region_HB (w.heap.size+1) (by kernel_rfl) (fun z0 K0 hs0=>?_)
   have K1:=K0.mono (show w.heap.size+1≤w2.heap.size by omega)
   refine tH0 0 K1 ?_
   refine tH0 1 K1 ?_
   refine tH0 2 K1 ?_ (y:=fun z5 hS=>by obtain ⟨q0,q1,q2,q3,q4,q5⟩:=TBox.cells ((hS.block w.heap.size (by omega)).trans HXt.out) HLx.out.1 HLx.out.2;go_simp;rfl)
   refine tH0 3 K1 ?_
   refine tH0 4 K1 ?_
   refine tI0 5 K1 ?_
   refine tI0 6 K1 ?_
   refine tI0 7 K1 ?_
   refine tH0 8 K1 ?_
   have HE0:=Qh (NBox.below (b:=ib 0) HE.out K0)
   obtain ⟨y0,y1,y2⟩:=HE0.out.cells
   obtain ⟨f0,f1,f2⟩:=HE0.out.frozens
   simp only [ib] at y0 y1 y2
   have hset:=HE0.out.set3 (ib 1)
   simp only [ib] at hset
   refine oH0 9 fun K hK=>?_
   go_simp
   have K2:=K1.grown hset.2 (by omega) (Qg (by omega))
   refine hK.out _ _ K2 ?_
   refine oH0 10 fun K hK=>?_
   go_simp
   refine hK.out _ _ K2 ?_
   refine wpAnyH_end (by kernel_rfl) ?_ _
   have HK0:=Qh (Qt HBz.out K0)
   clear y0 y1 y2 f0 f1 f2 K0 hs0 K1 K2
   generalize ((z0.setCell ⟨w.heap.size+1,0,none⟩ (.int .i64 1)).setCell ⟨w.heap.size+1,1,none⟩ (.bool false)).setCell ⟨w.heap.size+1,2,none⟩ (.slice none 0 0)=u6 at *
   have HSe:=Qh hset
   go_wp2_with fail
   obtain ⟨r0,r1,r2⟩:=NBox.cells (b:=⟨1,false,none,0,0,[]⟩) HSe.out.1
   simp only at r0 r1 r2
   exact bodyPost_ret (v:=.tuple #[.agg #[.int .i64 1,.bool false,.slice none 0 0],.bool false]) (by simp [results,Tryz.results46,go_sem,r0,r1,r2]) rfl ⟨rb .hi none 0,.hi,rfl,sb_hi _ _,(fun h=>by cases h),Nat.zero_le _,HK0.out.grown HSe.out.2 HK0.out.size (Qg (by omega))⟩
end
end Go.Proofs.YtpikjceodmepiaaGreatDoor
