import Derived.Shelf.Small.Bits
import Derived.Test.YtjpnmmjgdiiahaaGreatDoorRows
import Derived.WalkKit
import Derived.Deep.QuietTactic
import Derived.BigQuiet
import Derived.Deep.RegionHeld3
import Derived.Deep.DrawnRows
import Derived.Deep.DeepCutAuto
import Derived.Deep.CutBlock
import Derived.Laws.BytesArg
import Derived.Laws.AppendOwnNone
import Derived.ProofKit
import Derived.OpenShut
import Derived.JoinedCond
import Derived.JoinedOf
import Derived.JoinedAt
import Derived.ChangeSame
import Derived.ChangeSlices
import Derived.RowKit3
import Derived.Carry
import Derived.Lib.SmallJoins
import Derived.Deep.LoopGhost
import Derived.Maps.AppendAt
import Derived.IntWalk
import Derived.StillTailTactics
import Derived.Laws.Cover2
import Derived.Laws.FloatArith
import Derived.Lib.Hide
import Derived.Deep.AppendLies
import Derived.Deep.OwnRows
import Derived.Lib.ValidU
import Derived.Shelf.Unicode.ValidAny
import Derived.Lib.LaidU8T
import Derived.Lib.ValidLaws
import Derived.Lib.TrimUEq
import Derived.Deep.Strs
import Derived.Deep.Slices
import Derived.SizedLaws
import Derived.Deep.DeepHandedRow
import Derived.Deep.DeepWitnessRowRef
import Derived.Lib.LaidTab
import Derived.Lay
import Derived.Test.YtjpnmmjgdiiahaaGreatDoorS1
import Derived.Test.YtjpnmmjgdiiahaaGreatDoorS2
import Derived.Test.YtjpnmmjgdiiahaaGreatDoorS3
import Derived.Test.YtjpnmmjgdiiahaaGreatDoorS4
import Derived.Test.YtjpnmmjgdiiahaaGreatDoorS5
import Derived.Test.YtjpnmmjgdiiahaaGreatDoorS6
import Derived.Test.YtjpnmmjgdiiahaaGreatDoorS9
import Derived.Test.YtjpnmmjgdiiahaaGreatDoorS10
import Derived.Test.YtjpnmmjgdiiahaaGreatDoorS11
set_option linter.unusedVariables false
set_option linter.unusedSimpArgs false
namespace Go.Proofs.YtjpnmmjgdiiahaaGreatDoor
section
open Go.RowKit Hb
end
section
open Go.ChangeShapes Go.WideShapes Go.ChangeAt Go.RowKit Go.Joins Hb
section
end
end
section
open Go.RowKit Hb
section
end
section
end
section
end
section
end
section
end
end
end Go.Proofs.YtjpnmmjgdiiahaaGreatDoor
namespace Hb
open Ieee
end Hb
namespace Hb
end Hb
namespace Go.Proofs.YtjpnmmjgdiiahaaGreatDoor
section
open Hb
end
end Go.Proofs.YtjpnmmjgdiiahaaGreatDoor
namespace Hb
end Hb
namespace Go.Proofs.YtjpnmmjgdiiahaaGreatDoor
section
open Hb
end
section
open Go.RowKit Hb
section
end
end
end Go.Proofs.YtjpnmmjgdiiahaaGreatDoor
namespace Ht
namespace Tm
end Tm
section
end
end Ht
namespace Hb
open Ieee
end Hb
namespace Go.Proofs.YtjpnmmjgdiiahaaGreatDoor
section
open Go.RowKit Hb Ht
attribute [local go_sem] Oper.semAt_some
theorem floN_iff {F:Nat} (hF:F<18446744073709551616):(F / 4503599627370496 % 2048≠2047↔F % 9223372036854775808<9218868437227405312):=by omega
set_option maxRecDepth 100000 in
theorem rfloats_any (F:Nat) (hF:F<18446744073709551616) (w:World) :
  Calls Tryz.prog 188 #[.int .u64 (F:Int)] w fun e w'=>e = .returned (.bool (floN F))∧w=w':=by
 have ha:bits .and .u64 ((F:Int) / 4503599627370496) 2047=((F / 4503599627370496 % 2048:Nat):Int):=by
  have h:=bits_and_u64 (F / 4503599627370496) (2 ^ 11 - 1) (by omega) (by decide)
  rw [and_low] at h
  exact h
 have hiff:=floN_iff hF
 unfold floN
 obtain ⟨r,hr⟩:∃ r,F / 4503599627370496 % 2048=r:=⟨_,rfl⟩
 rw [hr] at ha hiff
 by_cases h1:r=2047
 ·subst h1
  have h2:¬F % 9223372036854775808<9218868437227405312:=fun h=>(hiff.2 h) rfl
  rw [decide_eq_false h2]
  clear h2 hiff hr hF
  go_enter Tryz.func188,Tryz.ntmps188
  go_wp2
  go_ret
  exact ⟨rfl,rfl⟩
 ·have h2:F % 9223372036854775808<9218868437227405312:=hiff.1 h1
  have hrI:((r:Int) != 2047)=true:=by simpa using (show (r:Int)≠2047 by omega)
  have hrI2:¬(r:Int)=2047:=by omega
  rw [decide_eq_true h2]
  by_cases h3:F=9223372036854775808
  ·subst h3
   rw [show decide ((9223372036854775808:Nat)≠9223372036854775808)=false from by decide]
   clear h2 hiff hr hF h1
   go_enter Tryz.func188,Tryz.ntmps188
   go_wp2
   go_ret
   exact ⟨rfl,rfl⟩
  ·have hFI:((F:Int) != 9223372036854775808)=true:=by simpa using (show (F:Int)≠9223372036854775808 by omega)
   rw [decide_eq_true h3]
   clear h2 hiff hr hF h1 h3
   go_enter Tryz.func188,Tryz.ntmps188
   go_wp2
   go_ret
   exact ⟨rfl,rfl⟩
theorem digs_2_le {n k:Nat} (h:blen n≤k):(digs 2 n).length≤k:=digs_length_le (by decide) (blen_le_iff.1 h)
set_option maxRecDepth 100000 in
set_option maxHeartbeats 2000000 in
theorem rcanonical_any (s:ByteArray) (w:World) (hs:s.size≤maxLen) :
  Calls Tryz.prog 187 #[.string s] w fun e w'=>e = .returned (.bool (canonB s.data.toList))∧Below w.heap.size w w':=by
 have HP:=Lib.hid (rParse_anyL s 10 w (by unfold maxLen at hs;omega))
 obtain ⟨co,hco⟩:∃ co,pCode s.data.toList 10=co:=⟨_,rfl⟩
 obtain ⟨z,hz⟩:∃ z,pVal s.data.toList 10=z:=⟨_,rfl⟩
 obtain ⟨st,hst⟩:∃ st,strN (txtZ z 10)=st:=⟨_,rfl⟩
 have hC:canonB s.data.toList=(decide (co=0) && decide (st.data.toList=s.data.toList)):=by unfold canonB;rw [hco,hz,←hst];rfl
 rw [hC]
 obtain ⟨R,hR⟩:∃ R,(decide (co=0) && decide (st.data.toList=s.data.toList))=R:=⟨_,rfl⟩
 rw [hR]
 have HR:=Lib.hid hR
 have HSt:=Lib.hid hst
 rw [hco,hz] at HP
 have HT:=Lib.hid (fun h:co=0=>show tooLong z=false by rw [←hz];exact code_ok (hco.trans h))
 clear hC hco hz hR hst
 go_enter Tryz.func187,Tryz.ntmps187
 go_wp2_with fail
 (with_reducible refine HP.out.mono ?_)
 rintro e w1 ⟨v,rfl,hv0,hv1,hb1⟩
 by_cases h0:co=0
 ·subst h0
  obtain ⟨A,c,rfl,ho⟩:=hv0 rfl
  have ht:=HT.out rfl
  have hbl:=short_blen ht
  have hdl:=digs_2_le hbl
  have hsl:SlI w1 w1.heap.size A (digs 2 z.natAbs).length c (digs 2 z.natAbs):=ho.sl (dig_digs (by decide) _) rfl
  have hb2:Below w1.heap.size w1 (w1.alloc (.cells #[.bool (decide (z<0)),.slice A (digs 2 z.natAbs).length c] 59)):=(Below.refl _ _).alloc (Nat.le_refl _) _
  have hT:=rText_any (x:=z) (w:=w1.alloc (.cells #[.bool (decide (z<0)),.slice A (digs 2 z.natAbs).length c] 59)) ((hsl.below (C:=w1.heap.size) hb2 (Nat.le_refl _)).mono hb2.size) (Nat.le_refl _) hdl 10 (by omega) (by omega)
  rw [show ((10:Nat):Int)=10 from rfl,HSt.out] at hT
  have HX:=Lib.hid hT
  have HB:=Lib.hid (hb1.trans (hb2.mono hb1.size))
  clear hT hv0 hv1 hb1 ho ht hbl hdl hsl hb2
  generalize (digs 2 z.natAbs).length=n at *
  generalize decide (z<0)=sgn at *
  go_wp2_with fail
  (with_reducible refine HX.out.mono ?_)
  rintro e w3 ⟨rfl,hb3⟩
  have HB3:=Lib.hid (HB.out.trans (hb3.mono HB.out.size))
  clear hb3
  by_cases he:st.data.toList=s.data.toList
  ·have s1:(st.toList==s.toList)=true:=by rw [ByteArray.toList_eq,ByteArray.toList_eq,he];simp
   have HE:=Lib.hid (show true=R by rw [←HR.out,decide_eq_true he];rfl)
   clear he
   go_wp2
   go_ret
   exact ⟨by rw [←HE.out];rfl,HB3.out⟩
  ·have s1:(st.toList==s.toList)=false:=by rw [ByteArray.toList_eq,ByteArray.toList_eq];exact beq_eq_false_iff_ne.2 he
   have HE:=Lib.hid (show false=R by rw [←HR.out,decide_eq_false he];simp)
   clear he
   go_wp2
   go_ret
   exact ⟨by rw [←HE.out];rfl,HB3.out⟩
 ·have hv:=hv1 h0
  subst hv
  have h0b:(co != 0)=true:=by simpa using h0
  have HE:=Lib.hid (show false=R by rw [←HR.out,decide_eq_false h0];simp)
  have HB:=Lib.hid hb1
  clear hv0 hv1 h0 hb1
  go_wp2
  go_ret
  exact ⟨by rw [←HE.out];rfl,HB.out.alloc HB.out.size _⟩
theorem one20 {t:Tm} (h:t.k<1∨5<t.k∨stray t=true∨t.v<0∨(t.k=5∧(t.as.length=0∨64<t.as.length))):oneP t=20:=if_pos h
theorem one_go {t:Tm} (h:¬(t.k<1∨5<t.k∨stray t=true∨t.v<0∨(t.k=5∧(t.as.length=0∨64<t.as.length)))):oneP t=if Lib.validD t.n=false∨1000<t.n.length then 21
 else if t.k=3∧canonB t.m=false then 22
 else if t.k=4∧floB t.b=false then 23
 else 0:=if_neg h
theorem stray_n {t:Tm} (h:t.n ≠ []) (h2:t.k≠2) (h5:t.k≠5):stray t=true:=by simp [stray,h,h2,h5]
theorem stray_m {t:Tm} (h:t.m ≠ []) (h3:t.k≠3):stray t=true:=by simp [stray,h,h3]
theorem stray_b {t:Tm} (h:t.b≠0) (h4:t.k≠4):stray t=true:=by simp [stray,h,h4]
theorem stray_v {t:Tm} (h:t.v≠0) (h1:t.k≠1):stray t=true:=by simp [stray,h,h1]
theorem stray_l {t:Tm} (h:t.as.length≠0) (h5:t.k≠5):stray t=true:=by unfold stray;simp only [Bool.or_eq_true];exact .inr (by simp [h,h5])
theorem stray_no {t:Tm} (hn:t.n = []∨t.k=2∨t.k=5) (hm:t.m = []∨t.k=3) (hb:t.b=0∨t.k=4) (hv:t.v=0∨t.k=1) (hl:t.as.length=0∨t.k=5):stray t=false:=by
 unfold stray
 simp only [Bool.or_eq_false_iff]
 refine ⟨⟨⟨⟨?_,?_⟩,?_⟩,?_⟩,?_⟩
 ·rcases hn with h | h | h <;> simp [h]
 ·rcases hm with h | h <;> simp [h]
 ·rcases hb with h | h <;> simp [h]
 ·rcases hv with h | h <;> simp [h]
 ·rcases hl with h | h <;> simp [h]
theorem bytes_ne {n:List UInt8} {nb:ByteArray} (h:(⟨n.toArray⟩:ByteArray)=nb) (hn:n ≠ []):nb.toList.isEmpty=false∧(nb.toList == [])=false∧¬nb.toList = []:=by
 have e:nb.toList=n:=by rw [←h,ByteArray.toList_eq]
 rw [e]
 cases n with
 | nil=>exact absurd rfl hn
 | cons a l=>exact ⟨rfl,rfl,by simp⟩
set_option maxRecDepth 100000 in
set_option maxHeartbeats 16000000 in
theorem rone_any {w:World} {t:Tm} {sl:Value} (h:TAt w w.heap.size t sl) (hf:t.n.length≤4611686018427387904):Calls Tryz.prog 135 #[valT t sl] w fun e w'=>e = .returned (.int .i64 (oneP t))∧Below w.heap.size w w':=by
 obtain ⟨k,nl,ml,b,v,ts,nb,mb,A,c,rfl,rfl,hnb,hmb,hl1,hl2,hl3,hv,hs1,hs2⟩:=h.letters
 have hok:=h.ok
 obtain ⟨L,hL⟩:∃ L,ts.length=L:=⟨_,rfl⟩
 rw [hv]
 rw [hL] at h hl1 hl3 ⊢
 obtain ⟨R,hR⟩:∃ R,oneP (.mk k nl ml b v ts)=R:=⟨_,rfl⟩
 rw [hR]
 have HR:=Lib.hid hR
 have hUv:=fun (w':World)=>UTF_any nb w' (by rw [←hnb];show nl.toArray.size≤_;rw [List.size_toArray];exact hf)
 rw [show nb.data.toList=nl by rw [←hnb]] at hUv
 obtain ⟨U,hUu⟩:∃ U,Lib.validD nl=U:=⟨_,rfl⟩
 obtain ⟨N,hN⟩:∃ N,nl.length=N:=⟨_,rfl⟩
 have hsz:nb.size=N:=by rw [←hN,←hnb];exact List.size_toArray
 have hNI:(N:Int)≤4611686018427387904:=by change nl.length≤_ at hf;omega
 rw [hUu] at hUv
 have HUv:=Lib.hid hUv
 have hIn:=fun (w':World)=>rcanonical_any mb w' hs2
 rw [show mb.data.toList=ml by rw [←hmb]] at hIn
 obtain ⟨C,hC⟩:∃ C,canonB ml=C:=⟨_,rfl⟩
 rw [hC] at hIn
 have HIn:=Lib.hid hIn
 obtain ⟨F,hF⟩:∃ F,floB b=F:=⟨_,rfl⟩
 have hFl:=fun (w':World)=>rfloats_any b.toNat (by have:=hok.2.2.1;simp only [Tm.b] at this;omega) w'
 rw [show floN b.toNat=F from hF,show ((b.toNat:Nat):Int)=b by have:=hok.2.2.1;simp only [Tm.b] at this;omega] at hFl
 have HFl:=Lib.hid hFl
 have HD:=Lib.hid (And.intro hUu (And.intro hN (And.intro hC (And.intro hF hL))))
 have hLI:(L:Int)≤1759218604400:=by unfold maxArgs at hl3;omega
 obtain ⟨W1,hW1⟩:∃ W1,(w.alloc (.cells #[.int .i64 k,.string nb,.string mb,.int .u64 b,.int .i64 v,.slice A L c] 25))=W1:=⟨_,rfl⟩
 have hb1:Below w.heap.size w W1:=by rw [←hW1];exact (Below.refl _ _).alloc (Nat.le_refl _) _
 have hX:TBox W1 w.heap.size (.mk k nl ml b v ts) (.slice A L c):=by rw [←hW1];exact TBox.new w hnb hmb
 obtain ⟨x0,x1,x2,x3,x4,x5⟩:=hX.cells hnb hmb
 have HX:=Lib.hid (And.intro hb1 hX)
 have HM:=Lib.hid (And.intro hnb hmb)
 have HKb:=Lib.hid (show 0≤b∧b<18446744073709551616 from hok.2.2.1)
 have hbu0:=HKb.out.1
 have hbu1:=HKb.out.2
 subst hW1
 clear h hv hok hf hb1 hX hUv hIn hFl hUu hC hF hN hR hnb hmb hL hs1 hs2 hl1 hl3
 by_cases hk1:k<1
 ·have hk1b:(k==1)=false:=beq_eq_false_iff_ne.2 (by omega)
  have hk2b:(k==2)=false:=beq_eq_false_iff_ne.2 (by omega)
  have hk3b:(k==3)=false:=beq_eq_false_iff_ne.2 (by omega)
  have hk4b:(k==4)=false:=beq_eq_false_iff_ne.2 (by omega)
  have hk5b:(k==5)=false:=beq_eq_false_iff_ne.2 (by omega)
  have HE:=Lib.hid (show (20:Int)=R by rw [←HR.out];refine Eq.symm ?_;exact one20 (.inl hk1))
  go_enter Tryz.func135,Tryz.ntmps135
  go_wp2_with (first
   | (go_at_call 186;(with_reducible refine (HUv.out _).mono ?_);rintro e w2 ⟨rfl,rfl⟩)
   | (go_at_call 187;(with_reducible refine (HIn.out _).mono ?_);rintro e w4 ⟨rfl,hb4⟩)
   | (go_at_call 188;(with_reducible refine (HFl.out _).mono ?_);rintro e w5 ⟨rfl,rfl⟩))
  all_goals
   go_ret
   exact ⟨by rw [←HE.out];rfl,HX.out.1⟩
 by_cases hk5:5<k
 ·have hk1b:(k==1)=false:=beq_eq_false_iff_ne.2 (by omega)
  have hk2b:(k==2)=false:=beq_eq_false_iff_ne.2 (by omega)
  have hk3b:(k==3)=false:=beq_eq_false_iff_ne.2 (by omega)
  have hk4b:(k==4)=false:=beq_eq_false_iff_ne.2 (by omega)
  have hk5b:(k==5)=false:=beq_eq_false_iff_ne.2 (by omega)
  have HE:=Lib.hid (show (20:Int)=R by rw [←HR.out];refine Eq.symm ?_;exact one20 (.inr (.inl hk5)))
  go_enter Tryz.func135,Tryz.ntmps135
  go_wp2_with (first
   | (go_at_call 186;(with_reducible refine (HUv.out _).mono ?_);rintro e w2 ⟨rfl,rfl⟩)
   | (go_at_call 187;(with_reducible refine (HIn.out _).mono ?_);rintro e w4 ⟨rfl,hb4⟩)
   | (go_at_call 188;(with_reducible refine (HFl.out _).mono ?_);rintro e w5 ⟨rfl,rfl⟩))
  all_goals
   go_ret
   exact ⟨by rw [←HE.out];rfl,HX.out.1⟩
 have hkk:k=1∨k=2∨k=3∨k=4∨k=5:=by omega
 clear hk1 hk5
 rcases hkk with rfl | rfl | rfl | rfl | rfl
 ·skip
  by_cases hn0:nl = []
  case neg=>
   obtain ⟨e1,e2,e3⟩:=bytes_ne HM.out.1 hn0
   have HE:=Lib.hid (show (20:Int)=R by rw [←HR.out];refine Eq.symm ?_;exact one20 (.inr (.inr (.inl (stray_n hn0 (show (1:Int)≠2 by decide) (show (1:Int)≠5 by decide))))))
   clear hn0
   go_enter Tryz.func135,Tryz.ntmps135
   go_wp2_with (first
    | (go_at_call 186;(with_reducible refine (HUv.out _).mono ?_);rintro e w2 ⟨rfl,rfl⟩)
    | (go_at_call 187;(with_reducible refine (HIn.out _).mono ?_);rintro e w4 ⟨rfl,hb4⟩)
    | (go_at_call 188;(with_reducible refine (HFl.out _).mono ?_);rintro e w5 ⟨rfl,rfl⟩))
   all_goals
    go_ret
    exact ⟨by rw [←HE.out];rfl,HX.out.1⟩
  subst hn0
  obtain rfl:nb=⟨#[]⟩:=HM.out.1.symm
  by_cases hm0:ml = []
  case neg=>
   obtain ⟨f1,f2,f3⟩:=bytes_ne HM.out.2 hm0
   have HE:=Lib.hid (show (20:Int)=R by rw [←HR.out];refine Eq.symm ?_;exact one20 (.inr (.inr (.inl (stray_m hm0 (show (1:Int)≠3 by decide))))))
   clear hm0
   go_enter Tryz.func135,Tryz.ntmps135
   go_wp2_with (first
    | (go_at_call 186;(with_reducible refine (HUv.out _).mono ?_);rintro e w2 ⟨rfl,rfl⟩)
    | (go_at_call 187;(with_reducible refine (HIn.out _).mono ?_);rintro e w4 ⟨rfl,hb4⟩)
    | (go_at_call 188;(with_reducible refine (HFl.out _).mono ?_);rintro e w5 ⟨rfl,rfl⟩))
   all_goals
    go_ret
    exact ⟨by rw [←HE.out];rfl,HX.out.1⟩
  subst hm0
  obtain rfl:mb=⟨#[]⟩:=HM.out.2.symm
  by_cases hb0:b=0
  case neg=>
   have g1:(b != 0)=true:=by simpa using hb0
   have g2:¬b=0:=hb0
   have HE:=Lib.hid (show (20:Int)=R by rw [←HR.out];refine Eq.symm ?_;exact one20 (.inr (.inr (.inl (stray_b hb0 (show (1:Int)≠4 by decide))))))
   clear hb0
   go_enter Tryz.func135,Tryz.ntmps135
   go_wp2_with (first
    | (go_at_call 186;(with_reducible refine (HUv.out _).mono ?_);rintro e w2 ⟨rfl,rfl⟩)
    | (go_at_call 187;(with_reducible refine (HIn.out _).mono ?_);rintro e w4 ⟨rfl,hb4⟩)
    | (go_at_call 188;(with_reducible refine (HFl.out _).mono ?_);rintro e w5 ⟨rfl,rfl⟩))
   all_goals
    go_ret
    exact ⟨by rw [←HE.out];rfl,HX.out.1⟩
  subst hb0
  by_cases hvz:v=0
  ·subst hvz
   by_cases hL0:L=0
   case neg=>
    have g1:(0:Int)<(L:Int):=by omega
    have HE:=Lib.hid (show (20:Int)=R by rw [←HR.out];refine Eq.symm ?_;exact one20 (.inr (.inr (.inl (stray_l (show ts.length≠0 by rw [HD.out.2.2.2.2];exact hL0) (show (1:Int)≠5 by decide))))))
    clear hL0
    go_enter Tryz.func135,Tryz.ntmps135
    go_wp2_with (first
     | (go_at_call 186;(with_reducible refine (HUv.out _).mono ?_);rintro e w2 ⟨rfl,rfl⟩)
     | (go_at_call 187;(with_reducible refine (HIn.out _).mono ?_);rintro e w4 ⟨rfl,hb4⟩)
     | (go_at_call 188;(with_reducible refine (HFl.out _).mono ?_);rintro e w5 ⟨rfl,rfl⟩))
    all_goals
     go_ret
     exact ⟨by rw [←HE.out];rfl,HX.out.1⟩
   subst hL0
   have hgo:=Lib.hid (one_go (t:=.mk 1 [] [] 0 0 ts) (fun h=>by
    have hs:=stray_no (t:=.mk 1 [] [] 0 0 ts) (.inl rfl) (.inl rfl) (.inl rfl) (.inr rfl) (.inl HD.out.2.2.2.2)
    rcases h with h | h | h | h | h
    ·exact absurd h (by show ¬(1:Int)<1;omega)
    ·exact absurd h (by show ¬(5:Int)<1;omega)
    ·rw [hs] at h;cases h
    ·exact absurd h (by show ¬(0:Int)<0;omega)
    ·exact absurd h (fun h=>absurd h.1 (show (1:Int)≠5 by decide))))
   cases U
   ·skip
    have HE:=Lib.hid (show (21:Int)=R by rw [←HR.out];refine Eq.symm ?_;exact hgo.out.trans (if_pos (.inl HD.out.1)))
    go_enter Tryz.func135,Tryz.ntmps135
    go_wp2_with (first
     | (go_at_call 186;(with_reducible refine (HUv.out _).mono ?_);rintro e w2 ⟨rfl,rfl⟩)
     | (go_at_call 187;(with_reducible refine (HIn.out _).mono ?_);rintro e w4 ⟨rfl,hb4⟩)
     | (go_at_call 188;(with_reducible refine (HFl.out _).mono ?_);rintro e w5 ⟨rfl,rfl⟩))
    all_goals
     go_ret
     exact ⟨by rw [←HE.out];rfl,HX.out.1⟩
   by_cases h1000:1000<N
   ·have h1I:(1000:Int)<(N:Int):=by omega
    have HE:=Lib.hid (show (21:Int)=R by rw [←HR.out];refine Eq.symm ?_;exact hgo.out.trans (if_pos (.inr (by show 1000<([]:List UInt8).length;rw [HD.out.2.1];exact h1000))))
    clear h1000
    go_enter Tryz.func135,Tryz.ntmps135
    go_wp2_with (first
     | (go_at_call 186;(with_reducible refine (HUv.out _).mono ?_);rintro e w2 ⟨rfl,rfl⟩)
     | (go_at_call 187;(with_reducible refine (HIn.out _).mono ?_);rintro e w4 ⟨rfl,hb4⟩)
     | (go_at_call 188;(with_reducible refine (HFl.out _).mono ?_);rintro e w5 ⟨rfl,rfl⟩))
    all_goals
     go_ret
     exact ⟨by rw [←HE.out];rfl,HX.out.1⟩
   have h1I:¬(1000:Int)<(N:Int):=by omega
   have h1J:(N:Int)≤1000:=by omega
   have HU2:=Lib.hid (show ¬(Lib.validD []=false∨1000<([]:List UInt8).length) from fun h=>by
    rcases h with h | h
    ·rw [HD.out.1] at h;cases h
    ·rw [HD.out.2.1] at h;exact h1000 h)
   clear h1000
   have HE:=Lib.hid (show (0:Int)=R by rw [←HR.out];refine Eq.symm ?_;exact hgo.out.trans ((if_neg HU2.out).trans ((if_neg (fun h=>absurd h.1 (show (1:Int)≠3 by decide))).trans (if_neg (fun h=>absurd h.1 (show (1:Int)≠4 by decide))))))
   go_enter Tryz.func135,Tryz.ntmps135
   go_wp2_with (first
    | (go_at_call 186;(with_reducible refine (HUv.out _).mono ?_);rintro e w2 ⟨rfl,rfl⟩)
    | (go_at_call 187;(with_reducible refine (HIn.out _).mono ?_);rintro e w4 ⟨rfl,hb4⟩)
    | (go_at_call 188;(with_reducible refine (HFl.out _).mono ?_);rintro e w5 ⟨rfl,rfl⟩))
   all_goals
    go_ret
    exact ⟨by rw [←HE.out];rfl,HX.out.1⟩
  ·have g8:(v != 0)=true:=by simpa using hvz
   have g9:¬v=0:=hvz
   by_cases hL0:L=0
   case neg=>
    have g1:(0:Int)<(L:Int):=by omega
    have HE:=Lib.hid (show (20:Int)=R by rw [←HR.out];refine Eq.symm ?_;exact one20 (.inr (.inr (.inl (stray_l (show ts.length≠0 by rw [HD.out.2.2.2.2];exact hL0) (show (1:Int)≠5 by decide))))))
    clear hL0
    go_enter Tryz.func135,Tryz.ntmps135
    go_wp2_with (first
     | (go_at_call 186;(with_reducible refine (HUv.out _).mono ?_);rintro e w2 ⟨rfl,rfl⟩)
     | (go_at_call 187;(with_reducible refine (HIn.out _).mono ?_);rintro e w4 ⟨rfl,hb4⟩)
     | (go_at_call 188;(with_reducible refine (HFl.out _).mono ?_);rintro e w5 ⟨rfl,rfl⟩))
    all_goals
     go_ret
     exact ⟨by rw [←HE.out];rfl,HX.out.1⟩
   subst hL0
   by_cases hv0:v<0
   ·have g1:(v != 0)=true:=by simp;omega
    have HE:=Lib.hid (show (20:Int)=R by rw [←HR.out];refine Eq.symm ?_;exact one20 (.inr (.inr (.inr (.inl hv0)))))
    go_enter Tryz.func135,Tryz.ntmps135
    go_wp2_with (first
     | (go_at_call 186;(with_reducible refine (HUv.out _).mono ?_);rintro e w2 ⟨rfl,rfl⟩)
     | (go_at_call 187;(with_reducible refine (HIn.out _).mono ?_);rintro e w4 ⟨rfl,hb4⟩)
     | (go_at_call 188;(with_reducible refine (HFl.out _).mono ?_);rintro e w5 ⟨rfl,rfl⟩))
    all_goals
     go_ret
     exact ⟨by rw [←HE.out];rfl,HX.out.1⟩
   have hv1:0<v:=by omega
   have hgo:=Lib.hid (one_go (t:=.mk 1 [] [] 0 v ts) (fun h=>by
    have hs:=stray_no (t:=.mk 1 [] [] 0 v ts) (.inl rfl) (.inl rfl) (.inl rfl) (.inr rfl) (.inl HD.out.2.2.2.2)
    rcases h with h | h | h | h | h
    ·exact absurd h (by show ¬(1:Int)<1;omega)
    ·exact absurd h (by show ¬(5:Int)<1;omega)
    ·rw [hs] at h;cases h
    ·exact absurd h (by show ¬v<0;omega)
    ·exact absurd h (fun h=>absurd h.1 (show (1:Int)≠5 by decide))))
   cases U
   ·skip
    have HE:=Lib.hid (show (21:Int)=R by rw [←HR.out];refine Eq.symm ?_;exact hgo.out.trans (if_pos (.inl HD.out.1)))
    go_enter Tryz.func135,Tryz.ntmps135
    go_wp2_with (first
     | (go_at_call 186;(with_reducible refine (HUv.out _).mono ?_);rintro e w2 ⟨rfl,rfl⟩)
     | (go_at_call 187;(with_reducible refine (HIn.out _).mono ?_);rintro e w4 ⟨rfl,hb4⟩)
     | (go_at_call 188;(with_reducible refine (HFl.out _).mono ?_);rintro e w5 ⟨rfl,rfl⟩))
    all_goals
     go_ret
     exact ⟨by rw [←HE.out];rfl,HX.out.1⟩
   by_cases h1000:1000<N
   ·have h1I:(1000:Int)<(N:Int):=by omega
    have HE:=Lib.hid (show (21:Int)=R by rw [←HR.out];refine Eq.symm ?_;exact hgo.out.trans (if_pos (.inr (by show 1000<([]:List UInt8).length;rw [HD.out.2.1];exact h1000))))
    clear h1000
    go_enter Tryz.func135,Tryz.ntmps135
    go_wp2_with (first
     | (go_at_call 186;(with_reducible refine (HUv.out _).mono ?_);rintro e w2 ⟨rfl,rfl⟩)
     | (go_at_call 187;(with_reducible refine (HIn.out _).mono ?_);rintro e w4 ⟨rfl,hb4⟩)
     | (go_at_call 188;(with_reducible refine (HFl.out _).mono ?_);rintro e w5 ⟨rfl,rfl⟩))
    all_goals
     go_ret
     exact ⟨by rw [←HE.out];rfl,HX.out.1⟩
   have h1I:¬(1000:Int)<(N:Int):=by omega
   have h1J:(N:Int)≤1000:=by omega
   have HU2:=Lib.hid (show ¬(Lib.validD []=false∨1000<([]:List UInt8).length) from fun h=>by
    rcases h with h | h
    ·rw [HD.out.1] at h;cases h
    ·rw [HD.out.2.1] at h;exact h1000 h)
   clear h1000
   have HE:=Lib.hid (show (0:Int)=R by rw [←HR.out];refine Eq.symm ?_;exact hgo.out.trans ((if_neg HU2.out).trans ((if_neg (fun h=>absurd h.1 (show (1:Int)≠3 by decide))).trans (if_neg (fun h=>absurd h.1 (show (1:Int)≠4 by decide))))))
   go_enter Tryz.func135,Tryz.ntmps135
   go_wp2_with (first
    | (go_at_call 186;(with_reducible refine (HUv.out _).mono ?_);rintro e w2 ⟨rfl,rfl⟩)
    | (go_at_call 187;(with_reducible refine (HIn.out _).mono ?_);rintro e w4 ⟨rfl,hb4⟩)
    | (go_at_call 188;(with_reducible refine (HFl.out _).mono ?_);rintro e w5 ⟨rfl,rfl⟩))
   all_goals
    go_ret
    exact ⟨by rw [←HE.out];rfl,HX.out.1⟩
 ·skip
  by_cases hm0:ml = []
  case neg=>
   obtain ⟨f1,f2,f3⟩:=bytes_ne HM.out.2 hm0
   have HE:=Lib.hid (show (20:Int)=R by rw [←HR.out];refine Eq.symm ?_;exact one20 (.inr (.inr (.inl (stray_m hm0 (show (2:Int)≠3 by decide))))))
   clear hm0
   go_enter Tryz.func135,Tryz.ntmps135
   go_wp2_with (first
    | (go_at_call 186;(with_reducible refine (HUv.out _).mono ?_);rintro e w2 ⟨rfl,rfl⟩)
    | (go_at_call 187;(with_reducible refine (HIn.out _).mono ?_);rintro e w4 ⟨rfl,hb4⟩)
    | (go_at_call 188;(with_reducible refine (HFl.out _).mono ?_);rintro e w5 ⟨rfl,rfl⟩))
   all_goals
    go_ret
    exact ⟨by rw [←HE.out];rfl,HX.out.1⟩
  subst hm0
  obtain rfl:mb=⟨#[]⟩:=HM.out.2.symm
  by_cases hb0:b=0
  case neg=>
   have g1:(b != 0)=true:=by simpa using hb0
   have g2:¬b=0:=hb0
   have HE:=Lib.hid (show (20:Int)=R by rw [←HR.out];refine Eq.symm ?_;exact one20 (.inr (.inr (.inl (stray_b hb0 (show (2:Int)≠4 by decide))))))
   clear hb0
   go_enter Tryz.func135,Tryz.ntmps135
   go_wp2_with (first
    | (go_at_call 186;(with_reducible refine (HUv.out _).mono ?_);rintro e w2 ⟨rfl,rfl⟩)
    | (go_at_call 187;(with_reducible refine (HIn.out _).mono ?_);rintro e w4 ⟨rfl,hb4⟩)
    | (go_at_call 188;(with_reducible refine (HFl.out _).mono ?_);rintro e w5 ⟨rfl,rfl⟩))
   all_goals
    go_ret
    exact ⟨by rw [←HE.out];rfl,HX.out.1⟩
  subst hb0
  by_cases hv0:v=0
  case neg=>
   have g1:(v != 0)=true:=by simpa using hv0
   have g2:¬v=0:=hv0
   have HE:=Lib.hid (show (20:Int)=R by rw [←HR.out];refine Eq.symm ?_;exact one20 (.inr (.inr (.inl (stray_v hv0 (show (2:Int)≠1 by decide))))))
   clear hv0
   go_enter Tryz.func135,Tryz.ntmps135
   go_wp2_with (first
    | (go_at_call 186;(with_reducible refine (HUv.out _).mono ?_);rintro e w2 ⟨rfl,rfl⟩)
    | (go_at_call 187;(with_reducible refine (HIn.out _).mono ?_);rintro e w4 ⟨rfl,hb4⟩)
    | (go_at_call 188;(with_reducible refine (HFl.out _).mono ?_);rintro e w5 ⟨rfl,rfl⟩))
   all_goals
    go_ret
    exact ⟨by rw [←HE.out];rfl,HX.out.1⟩
  subst hv0
  by_cases hL0:L=0
  case neg=>
   have g1:(0:Int)<(L:Int):=by omega
   have HE:=Lib.hid (show (20:Int)=R by rw [←HR.out];refine Eq.symm ?_;exact one20 (.inr (.inr (.inl (stray_l (show ts.length≠0 by rw [HD.out.2.2.2.2];exact hL0) (show (2:Int)≠5 by decide))))))
   clear hL0
   go_enter Tryz.func135,Tryz.ntmps135
   go_wp2_with (first
    | (go_at_call 186;(with_reducible refine (HUv.out _).mono ?_);rintro e w2 ⟨rfl,rfl⟩)
    | (go_at_call 187;(with_reducible refine (HIn.out _).mono ?_);rintro e w4 ⟨rfl,hb4⟩)
    | (go_at_call 188;(with_reducible refine (HFl.out _).mono ?_);rintro e w5 ⟨rfl,rfl⟩))
   all_goals
    go_ret
    exact ⟨by rw [←HE.out];rfl,HX.out.1⟩
  subst hL0
  have hgo:=Lib.hid (one_go (t:=.mk 2 nl [] 0 0 ts) (fun h=>by
   have hs:=stray_no (t:=.mk 2 nl [] 0 0 ts) (.inr (.inl rfl)) (.inl rfl) (.inl rfl) (.inl rfl) (.inl HD.out.2.2.2.2)
   rcases h with h | h | h | h | h
   ·exact absurd h (by show ¬(2:Int)<1;omega)
   ·exact absurd h (by show ¬(5:Int)<2;omega)
   ·rw [hs] at h;cases h
   ·exact absurd h (by show ¬(0:Int)<0;omega)
   ·exact absurd h (fun h=>absurd h.1 (show (2:Int)≠5 by decide))))
  cases U
  ·skip
   have HE:=Lib.hid (show (21:Int)=R by rw [←HR.out];refine Eq.symm ?_;exact hgo.out.trans (if_pos (.inl HD.out.1)))
   go_enter Tryz.func135,Tryz.ntmps135
   go_wp2_with (first
    | (go_at_call 186;(with_reducible refine (HUv.out _).mono ?_);rintro e w2 ⟨rfl,rfl⟩)
    | (go_at_call 187;(with_reducible refine (HIn.out _).mono ?_);rintro e w4 ⟨rfl,hb4⟩)
    | (go_at_call 188;(with_reducible refine (HFl.out _).mono ?_);rintro e w5 ⟨rfl,rfl⟩))
   all_goals
    go_ret
    exact ⟨by rw [←HE.out];rfl,HX.out.1⟩
  by_cases h1000:1000<N
  ·have h1I:(1000:Int)<(N:Int):=by omega
   have HE:=Lib.hid (show (21:Int)=R by rw [←HR.out];refine Eq.symm ?_;exact hgo.out.trans (if_pos (.inr (by show 1000<(nl:List UInt8).length;rw [HD.out.2.1];exact h1000))))
   clear h1000
   go_enter Tryz.func135,Tryz.ntmps135
   go_wp2_with (first
    | (go_at_call 186;(with_reducible refine (HUv.out _).mono ?_);rintro e w2 ⟨rfl,rfl⟩)
    | (go_at_call 187;(with_reducible refine (HIn.out _).mono ?_);rintro e w4 ⟨rfl,hb4⟩)
    | (go_at_call 188;(with_reducible refine (HFl.out _).mono ?_);rintro e w5 ⟨rfl,rfl⟩))
   all_goals
    go_ret
    exact ⟨by rw [←HE.out];rfl,HX.out.1⟩
  have h1I:¬(1000:Int)<(N:Int):=by omega
  have h1J:(N:Int)≤1000:=by omega
  have HU2:=Lib.hid (show ¬(Lib.validD nl=false∨1000<(nl:List UInt8).length) from fun h=>by
   rcases h with h | h
   ·rw [HD.out.1] at h;cases h
   ·rw [HD.out.2.1] at h;exact h1000 h)
  clear h1000
  have HE:=Lib.hid (show (0:Int)=R by rw [←HR.out];refine Eq.symm ?_;exact hgo.out.trans ((if_neg HU2.out).trans ((if_neg (fun h=>absurd h.1 (show (2:Int)≠3 by decide))).trans (if_neg (fun h=>absurd h.1 (show (2:Int)≠4 by decide))))))
  go_enter Tryz.func135,Tryz.ntmps135
  go_wp2_with (first
   | (go_at_call 186;(with_reducible refine (HUv.out _).mono ?_);rintro e w2 ⟨rfl,rfl⟩)
   | (go_at_call 187;(with_reducible refine (HIn.out _).mono ?_);rintro e w4 ⟨rfl,hb4⟩)
   | (go_at_call 188;(with_reducible refine (HFl.out _).mono ?_);rintro e w5 ⟨rfl,rfl⟩))
  all_goals
   go_ret
   exact ⟨by rw [←HE.out];rfl,HX.out.1⟩
 ·skip
  by_cases hn0:nl = []
  case neg=>
   obtain ⟨e1,e2,e3⟩:=bytes_ne HM.out.1 hn0
   have HE:=Lib.hid (show (20:Int)=R by rw [←HR.out];refine Eq.symm ?_;exact one20 (.inr (.inr (.inl (stray_n hn0 (show (3:Int)≠2 by decide) (show (3:Int)≠5 by decide))))))
   clear hn0
   go_enter Tryz.func135,Tryz.ntmps135
   go_wp2_with (first
    | (go_at_call 186;(with_reducible refine (HUv.out _).mono ?_);rintro e w2 ⟨rfl,rfl⟩)
    | (go_at_call 187;(with_reducible refine (HIn.out _).mono ?_);rintro e w4 ⟨rfl,hb4⟩)
    | (go_at_call 188;(with_reducible refine (HFl.out _).mono ?_);rintro e w5 ⟨rfl,rfl⟩))
   all_goals
    go_ret
    exact ⟨by rw [←HE.out];rfl,HX.out.1⟩
  subst hn0
  obtain rfl:nb=⟨#[]⟩:=HM.out.1.symm
  by_cases hmz:ml = []
  ·subst hmz
   obtain rfl:mb=⟨#[]⟩:=HM.out.2.symm
   by_cases hb0:b=0
   case neg=>
    have g1:(b != 0)=true:=by simpa using hb0
    have g2:¬b=0:=hb0
    have HE:=Lib.hid (show (20:Int)=R by rw [←HR.out];refine Eq.symm ?_;exact one20 (.inr (.inr (.inl (stray_b hb0 (show (3:Int)≠4 by decide))))))
    clear hb0
    go_enter Tryz.func135,Tryz.ntmps135
    go_wp2_with (first
     | (go_at_call 186;(with_reducible refine (HUv.out _).mono ?_);rintro e w2 ⟨rfl,rfl⟩)
     | (go_at_call 187;(with_reducible refine (HIn.out _).mono ?_);rintro e w4 ⟨rfl,hb4⟩)
     | (go_at_call 188;(with_reducible refine (HFl.out _).mono ?_);rintro e w5 ⟨rfl,rfl⟩))
    all_goals
     go_ret
     exact ⟨by rw [←HE.out];rfl,HX.out.1⟩
   subst hb0
   by_cases hv0:v=0
   case neg=>
    have g1:(v != 0)=true:=by simpa using hv0
    have g2:¬v=0:=hv0
    have HE:=Lib.hid (show (20:Int)=R by rw [←HR.out];refine Eq.symm ?_;exact one20 (.inr (.inr (.inl (stray_v hv0 (show (3:Int)≠1 by decide))))))
    clear hv0
    go_enter Tryz.func135,Tryz.ntmps135
    go_wp2_with (first
     | (go_at_call 186;(with_reducible refine (HUv.out _).mono ?_);rintro e w2 ⟨rfl,rfl⟩)
     | (go_at_call 187;(with_reducible refine (HIn.out _).mono ?_);rintro e w4 ⟨rfl,hb4⟩)
     | (go_at_call 188;(with_reducible refine (HFl.out _).mono ?_);rintro e w5 ⟨rfl,rfl⟩))
    all_goals
     go_ret
     exact ⟨by rw [←HE.out];rfl,HX.out.1⟩
   subst hv0
   by_cases hL0:L=0
   case neg=>
    have g1:(0:Int)<(L:Int):=by omega
    have HE:=Lib.hid (show (20:Int)=R by rw [←HR.out];refine Eq.symm ?_;exact one20 (.inr (.inr (.inl (stray_l (show ts.length≠0 by rw [HD.out.2.2.2.2];exact hL0) (show (3:Int)≠5 by decide))))))
    clear hL0
    go_enter Tryz.func135,Tryz.ntmps135
    go_wp2_with (first
     | (go_at_call 186;(with_reducible refine (HUv.out _).mono ?_);rintro e w2 ⟨rfl,rfl⟩)
     | (go_at_call 187;(with_reducible refine (HIn.out _).mono ?_);rintro e w4 ⟨rfl,hb4⟩)
     | (go_at_call 188;(with_reducible refine (HFl.out _).mono ?_);rintro e w5 ⟨rfl,rfl⟩))
    all_goals
     go_ret
     exact ⟨by rw [←HE.out];rfl,HX.out.1⟩
   subst hL0
   have hgo:=Lib.hid (one_go (t:=.mk 3 [] [] 0 0 ts) (fun h=>by
    have hs:=stray_no (t:=.mk 3 [] [] 0 0 ts) (.inl rfl) (.inr rfl) (.inl rfl) (.inl rfl) (.inl HD.out.2.2.2.2)
    rcases h with h | h | h | h | h
    ·exact absurd h (by show ¬(3:Int)<1;omega)
    ·exact absurd h (by show ¬(5:Int)<3;omega)
    ·rw [hs] at h;cases h
    ·exact absurd h (by show ¬(0:Int)<0;omega)
    ·exact absurd h (fun h=>absurd h.1 (show (3:Int)≠5 by decide))))
   cases U
   ·skip
    have HE:=Lib.hid (show (21:Int)=R by rw [←HR.out];refine Eq.symm ?_;exact hgo.out.trans (if_pos (.inl HD.out.1)))
    go_enter Tryz.func135,Tryz.ntmps135
    go_wp2_with (first
     | (go_at_call 186;(with_reducible refine (HUv.out _).mono ?_);rintro e w2 ⟨rfl,rfl⟩)
     | (go_at_call 187;(with_reducible refine (HIn.out _).mono ?_);rintro e w4 ⟨rfl,hb4⟩)
     | (go_at_call 188;(with_reducible refine (HFl.out _).mono ?_);rintro e w5 ⟨rfl,rfl⟩))
    all_goals
     go_ret
     exact ⟨by rw [←HE.out];rfl,HX.out.1⟩
   by_cases h1000:1000<N
   ·have h1I:(1000:Int)<(N:Int):=by omega
    have HE:=Lib.hid (show (21:Int)=R by rw [←HR.out];refine Eq.symm ?_;exact hgo.out.trans (if_pos (.inr (by show 1000<([]:List UInt8).length;rw [HD.out.2.1];exact h1000))))
    clear h1000
    go_enter Tryz.func135,Tryz.ntmps135
    go_wp2_with (first
     | (go_at_call 186;(with_reducible refine (HUv.out _).mono ?_);rintro e w2 ⟨rfl,rfl⟩)
     | (go_at_call 187;(with_reducible refine (HIn.out _).mono ?_);rintro e w4 ⟨rfl,hb4⟩)
     | (go_at_call 188;(with_reducible refine (HFl.out _).mono ?_);rintro e w5 ⟨rfl,rfl⟩))
    all_goals
     go_ret
     exact ⟨by rw [←HE.out];rfl,HX.out.1⟩
   have h1I:¬(1000:Int)<(N:Int):=by omega
   have h1J:(N:Int)≤1000:=by omega
   have HU2:=Lib.hid (show ¬(Lib.validD []=false∨1000<([]:List UInt8).length) from fun h=>by
    rcases h with h | h
    ·rw [HD.out.1] at h;cases h
    ·rw [HD.out.2.1] at h;exact h1000 h)
   clear h1000
   cases C
   ·skip
    have HE:=Lib.hid (show (22:Int)=R by rw [←HR.out];refine Eq.symm ?_;exact hgo.out.trans ((if_neg HU2.out).trans (if_pos ⟨rfl,HD.out.2.2.1⟩)))
    go_enter Tryz.func135,Tryz.ntmps135
    go_wp2_with (first
     | (go_at_call 186;(with_reducible refine (HUv.out _).mono ?_);rintro e w2 ⟨rfl,rfl⟩)
     | (go_at_call 187;(with_reducible refine (HIn.out _).mono ?_);rintro e w4 ⟨rfl,hb4⟩)
     | (go_at_call 188;(with_reducible refine (HFl.out _).mono ?_);rintro e w5 ⟨rfl,rfl⟩))
    all_goals
     go_ret
     exact ⟨by rw [←HE.out];rfl,HX.out.1.trans (hb4.mono HX.out.1.size)⟩
   ·skip
    have HE:=Lib.hid (show (0:Int)=R by rw [←HR.out];refine Eq.symm ?_;exact hgo.out.trans ((if_neg HU2.out).trans ((if_neg (fun h=>by have h2:=h.2;change canonB []=false at h2;rw [HD.out.2.2.1] at h2;cases h2)).trans (if_neg (fun h=>absurd h.1 (show (3:Int)≠4 by decide))))))
    go_enter Tryz.func135,Tryz.ntmps135
    go_wp2_with (first
     | (go_at_call 186;(with_reducible refine (HUv.out _).mono ?_);rintro e w2 ⟨rfl,rfl⟩)
     | (go_at_call 187;(with_reducible refine (HIn.out _).mono ?_);rintro e w4 ⟨rfl,hb4⟩)
     | (go_at_call 188;(with_reducible refine (HFl.out _).mono ?_);rintro e w5 ⟨rfl,rfl⟩))
    all_goals
     go_ret
     exact ⟨by rw [←HE.out];rfl,HX.out.1.trans (hb4.mono HX.out.1.size)⟩
  ·obtain ⟨f1,f2,f3⟩:=bytes_ne HM.out.2 hmz
   clear hmz
   by_cases hb0:b=0
   case neg=>
    have g1:(b != 0)=true:=by simpa using hb0
    have g2:¬b=0:=hb0
    have HE:=Lib.hid (show (20:Int)=R by rw [←HR.out];refine Eq.symm ?_;exact one20 (.inr (.inr (.inl (stray_b hb0 (show (3:Int)≠4 by decide))))))
    clear hb0
    go_enter Tryz.func135,Tryz.ntmps135
    go_wp2_with (first
     | (go_at_call 186;(with_reducible refine (HUv.out _).mono ?_);rintro e w2 ⟨rfl,rfl⟩)
     | (go_at_call 187;(with_reducible refine (HIn.out _).mono ?_);rintro e w4 ⟨rfl,hb4⟩)
     | (go_at_call 188;(with_reducible refine (HFl.out _).mono ?_);rintro e w5 ⟨rfl,rfl⟩))
    all_goals
     go_ret
     exact ⟨by rw [←HE.out];rfl,HX.out.1⟩
   subst hb0
   by_cases hv0:v=0
   case neg=>
    have g1:(v != 0)=true:=by simpa using hv0
    have g2:¬v=0:=hv0
    have HE:=Lib.hid (show (20:Int)=R by rw [←HR.out];refine Eq.symm ?_;exact one20 (.inr (.inr (.inl (stray_v hv0 (show (3:Int)≠1 by decide))))))
    clear hv0
    go_enter Tryz.func135,Tryz.ntmps135
    go_wp2_with (first
     | (go_at_call 186;(with_reducible refine (HUv.out _).mono ?_);rintro e w2 ⟨rfl,rfl⟩)
     | (go_at_call 187;(with_reducible refine (HIn.out _).mono ?_);rintro e w4 ⟨rfl,hb4⟩)
     | (go_at_call 188;(with_reducible refine (HFl.out _).mono ?_);rintro e w5 ⟨rfl,rfl⟩))
    all_goals
     go_ret
     exact ⟨by rw [←HE.out];rfl,HX.out.1⟩
   subst hv0
   by_cases hL0:L=0
   case neg=>
    have g1:(0:Int)<(L:Int):=by omega
    have HE:=Lib.hid (show (20:Int)=R by rw [←HR.out];refine Eq.symm ?_;exact one20 (.inr (.inr (.inl (stray_l (show ts.length≠0 by rw [HD.out.2.2.2.2];exact hL0) (show (3:Int)≠5 by decide))))))
    clear hL0
    go_enter Tryz.func135,Tryz.ntmps135
    go_wp2_with (first
     | (go_at_call 186;(with_reducible refine (HUv.out _).mono ?_);rintro e w2 ⟨rfl,rfl⟩)
     | (go_at_call 187;(with_reducible refine (HIn.out _).mono ?_);rintro e w4 ⟨rfl,hb4⟩)
     | (go_at_call 188;(with_reducible refine (HFl.out _).mono ?_);rintro e w5 ⟨rfl,rfl⟩))
    all_goals
     go_ret
     exact ⟨by rw [←HE.out];rfl,HX.out.1⟩
   subst hL0
   have hgo:=Lib.hid (one_go (t:=.mk 3 [] ml 0 0 ts) (fun h=>by
    have hs:=stray_no (t:=.mk 3 [] ml 0 0 ts) (.inl rfl) (.inr rfl) (.inl rfl) (.inl rfl) (.inl HD.out.2.2.2.2)
    rcases h with h | h | h | h | h
    ·exact absurd h (by show ¬(3:Int)<1;omega)
    ·exact absurd h (by show ¬(5:Int)<3;omega)
    ·rw [hs] at h;cases h
    ·exact absurd h (by show ¬(0:Int)<0;omega)
    ·exact absurd h (fun h=>absurd h.1 (show (3:Int)≠5 by decide))))
   cases U
   ·skip
    have HE:=Lib.hid (show (21:Int)=R by rw [←HR.out];refine Eq.symm ?_;exact hgo.out.trans (if_pos (.inl HD.out.1)))
    go_enter Tryz.func135,Tryz.ntmps135
    go_wp2_with (first
     | (go_at_call 186;(with_reducible refine (HUv.out _).mono ?_);rintro e w2 ⟨rfl,rfl⟩)
     | (go_at_call 187;(with_reducible refine (HIn.out _).mono ?_);rintro e w4 ⟨rfl,hb4⟩)
     | (go_at_call 188;(with_reducible refine (HFl.out _).mono ?_);rintro e w5 ⟨rfl,rfl⟩))
    all_goals
     go_ret
     exact ⟨by rw [←HE.out];rfl,HX.out.1⟩
   by_cases h1000:1000<N
   ·have h1I:(1000:Int)<(N:Int):=by omega
    have HE:=Lib.hid (show (21:Int)=R by rw [←HR.out];refine Eq.symm ?_;exact hgo.out.trans (if_pos (.inr (by show 1000<([]:List UInt8).length;rw [HD.out.2.1];exact h1000))))
    clear h1000
    go_enter Tryz.func135,Tryz.ntmps135
    go_wp2_with (first
     | (go_at_call 186;(with_reducible refine (HUv.out _).mono ?_);rintro e w2 ⟨rfl,rfl⟩)
     | (go_at_call 187;(with_reducible refine (HIn.out _).mono ?_);rintro e w4 ⟨rfl,hb4⟩)
     | (go_at_call 188;(with_reducible refine (HFl.out _).mono ?_);rintro e w5 ⟨rfl,rfl⟩))
    all_goals
     go_ret
     exact ⟨by rw [←HE.out];rfl,HX.out.1⟩
   have h1I:¬(1000:Int)<(N:Int):=by omega
   have h1J:(N:Int)≤1000:=by omega
   have HU2:=Lib.hid (show ¬(Lib.validD []=false∨1000<([]:List UInt8).length) from fun h=>by
    rcases h with h | h
    ·rw [HD.out.1] at h;cases h
    ·rw [HD.out.2.1] at h;exact h1000 h)
   clear h1000
   cases C
   ·skip
    have HE:=Lib.hid (show (22:Int)=R by rw [←HR.out];refine Eq.symm ?_;exact hgo.out.trans ((if_neg HU2.out).trans (if_pos ⟨rfl,HD.out.2.2.1⟩)))
    go_enter Tryz.func135,Tryz.ntmps135
    go_wp2_with (first
     | (go_at_call 186;(with_reducible refine (HUv.out _).mono ?_);rintro e w2 ⟨rfl,rfl⟩)
     | (go_at_call 187;(with_reducible refine (HIn.out _).mono ?_);rintro e w4 ⟨rfl,hb4⟩)
     | (go_at_call 188;(with_reducible refine (HFl.out _).mono ?_);rintro e w5 ⟨rfl,rfl⟩))
    all_goals
     go_ret
     exact ⟨by rw [←HE.out];rfl,HX.out.1.trans (hb4.mono HX.out.1.size)⟩
   ·skip
    have HE:=Lib.hid (show (0:Int)=R by rw [←HR.out];refine Eq.symm ?_;exact hgo.out.trans ((if_neg HU2.out).trans ((if_neg (fun h=>by have h2:=h.2;change canonB ml=false at h2;rw [HD.out.2.2.1] at h2;cases h2)).trans (if_neg (fun h=>absurd h.1 (show (3:Int)≠4 by decide))))))
    go_enter Tryz.func135,Tryz.ntmps135
    go_wp2_with (first
     | (go_at_call 186;(with_reducible refine (HUv.out _).mono ?_);rintro e w2 ⟨rfl,rfl⟩)
     | (go_at_call 187;(with_reducible refine (HIn.out _).mono ?_);rintro e w4 ⟨rfl,hb4⟩)
     | (go_at_call 188;(with_reducible refine (HFl.out _).mono ?_);rintro e w5 ⟨rfl,rfl⟩))
    all_goals
     go_ret
     exact ⟨by rw [←HE.out];rfl,HX.out.1.trans (hb4.mono HX.out.1.size)⟩
 ·skip
  by_cases hn0:nl = []
  case neg=>
   obtain ⟨e1,e2,e3⟩:=bytes_ne HM.out.1 hn0
   have HE:=Lib.hid (show (20:Int)=R by rw [←HR.out];refine Eq.symm ?_;exact one20 (.inr (.inr (.inl (stray_n hn0 (show (4:Int)≠2 by decide) (show (4:Int)≠5 by decide))))))
   clear hn0
   go_enter Tryz.func135,Tryz.ntmps135
   go_wp2_with (first
    | (go_at_call 186;(with_reducible refine (HUv.out _).mono ?_);rintro e w2 ⟨rfl,rfl⟩)
    | (go_at_call 187;(with_reducible refine (HIn.out _).mono ?_);rintro e w4 ⟨rfl,hb4⟩)
    | (go_at_call 188;(with_reducible refine (HFl.out _).mono ?_);rintro e w5 ⟨rfl,rfl⟩))
   all_goals
    go_ret
    exact ⟨by rw [←HE.out];rfl,HX.out.1⟩
  subst hn0
  obtain rfl:nb=⟨#[]⟩:=HM.out.1.symm
  by_cases hm0:ml = []
  case neg=>
   obtain ⟨f1,f2,f3⟩:=bytes_ne HM.out.2 hm0
   have HE:=Lib.hid (show (20:Int)=R by rw [←HR.out];refine Eq.symm ?_;exact one20 (.inr (.inr (.inl (stray_m hm0 (show (4:Int)≠3 by decide))))))
   clear hm0
   go_enter Tryz.func135,Tryz.ntmps135
   go_wp2_with (first
    | (go_at_call 186;(with_reducible refine (HUv.out _).mono ?_);rintro e w2 ⟨rfl,rfl⟩)
    | (go_at_call 187;(with_reducible refine (HIn.out _).mono ?_);rintro e w4 ⟨rfl,hb4⟩)
    | (go_at_call 188;(with_reducible refine (HFl.out _).mono ?_);rintro e w5 ⟨rfl,rfl⟩))
   all_goals
    go_ret
    exact ⟨by rw [←HE.out];rfl,HX.out.1⟩
  subst hm0
  obtain rfl:mb=⟨#[]⟩:=HM.out.2.symm
  by_cases hbz:b=0
  ·subst hbz
   by_cases hv0:v=0
   case neg=>
    have g1:(v != 0)=true:=by simpa using hv0
    have g2:¬v=0:=hv0
    have HE:=Lib.hid (show (20:Int)=R by rw [←HR.out];refine Eq.symm ?_;exact one20 (.inr (.inr (.inl (stray_v hv0 (show (4:Int)≠1 by decide))))))
    clear hv0
    go_enter Tryz.func135,Tryz.ntmps135
    go_wp2_with (first
     | (go_at_call 186;(with_reducible refine (HUv.out _).mono ?_);rintro e w2 ⟨rfl,rfl⟩)
     | (go_at_call 187;(with_reducible refine (HIn.out _).mono ?_);rintro e w4 ⟨rfl,hb4⟩)
     | (go_at_call 188;(with_reducible refine (HFl.out _).mono ?_);rintro e w5 ⟨rfl,rfl⟩))
    all_goals
     go_ret
     exact ⟨by rw [←HE.out];rfl,HX.out.1⟩
   subst hv0
   by_cases hL0:L=0
   case neg=>
    have g1:(0:Int)<(L:Int):=by omega
    have HE:=Lib.hid (show (20:Int)=R by rw [←HR.out];refine Eq.symm ?_;exact one20 (.inr (.inr (.inl (stray_l (show ts.length≠0 by rw [HD.out.2.2.2.2];exact hL0) (show (4:Int)≠5 by decide))))))
    clear hL0
    go_enter Tryz.func135,Tryz.ntmps135
    go_wp2_with (first
     | (go_at_call 186;(with_reducible refine (HUv.out _).mono ?_);rintro e w2 ⟨rfl,rfl⟩)
     | (go_at_call 187;(with_reducible refine (HIn.out _).mono ?_);rintro e w4 ⟨rfl,hb4⟩)
     | (go_at_call 188;(with_reducible refine (HFl.out _).mono ?_);rintro e w5 ⟨rfl,rfl⟩))
    all_goals
     go_ret
     exact ⟨by rw [←HE.out];rfl,HX.out.1⟩
   subst hL0
   have hgo:=Lib.hid (one_go (t:=.mk 4 [] [] 0 0 ts) (fun h=>by
    have hs:=stray_no (t:=.mk 4 [] [] 0 0 ts) (.inl rfl) (.inl rfl) (.inr rfl) (.inl rfl) (.inl HD.out.2.2.2.2)
    rcases h with h | h | h | h | h
    ·exact absurd h (by show ¬(4:Int)<1;omega)
    ·exact absurd h (by show ¬(5:Int)<4;omega)
    ·rw [hs] at h;cases h
    ·exact absurd h (by show ¬(0:Int)<0;omega)
    ·exact absurd h (fun h=>absurd h.1 (show (4:Int)≠5 by decide))))
   cases U
   ·skip
    have HE:=Lib.hid (show (21:Int)=R by rw [←HR.out];refine Eq.symm ?_;exact hgo.out.trans (if_pos (.inl HD.out.1)))
    go_enter Tryz.func135,Tryz.ntmps135
    go_wp2_with (first
     | (go_at_call 186;(with_reducible refine (HUv.out _).mono ?_);rintro e w2 ⟨rfl,rfl⟩)
     | (go_at_call 187;(with_reducible refine (HIn.out _).mono ?_);rintro e w4 ⟨rfl,hb4⟩)
     | (go_at_call 188;(with_reducible refine (HFl.out _).mono ?_);rintro e w5 ⟨rfl,rfl⟩))
    all_goals
     go_ret
     exact ⟨by rw [←HE.out];rfl,HX.out.1⟩
   by_cases h1000:1000<N
   ·have h1I:(1000:Int)<(N:Int):=by omega
    have HE:=Lib.hid (show (21:Int)=R by rw [←HR.out];refine Eq.symm ?_;exact hgo.out.trans (if_pos (.inr (by show 1000<([]:List UInt8).length;rw [HD.out.2.1];exact h1000))))
    clear h1000
    go_enter Tryz.func135,Tryz.ntmps135
    go_wp2_with (first
     | (go_at_call 186;(with_reducible refine (HUv.out _).mono ?_);rintro e w2 ⟨rfl,rfl⟩)
     | (go_at_call 187;(with_reducible refine (HIn.out _).mono ?_);rintro e w4 ⟨rfl,hb4⟩)
     | (go_at_call 188;(with_reducible refine (HFl.out _).mono ?_);rintro e w5 ⟨rfl,rfl⟩))
    all_goals
     go_ret
     exact ⟨by rw [←HE.out];rfl,HX.out.1⟩
   have h1I:¬(1000:Int)<(N:Int):=by omega
   have h1J:(N:Int)≤1000:=by omega
   have HU2:=Lib.hid (show ¬(Lib.validD []=false∨1000<([]:List UInt8).length) from fun h=>by
    rcases h with h | h
    ·rw [HD.out.1] at h;cases h
    ·rw [HD.out.2.1] at h;exact h1000 h)
   clear h1000
   cases F
   ·skip
    have HE:=Lib.hid (show (23:Int)=R by rw [←HR.out];refine Eq.symm ?_;exact hgo.out.trans ((if_neg HU2.out).trans ((if_neg (fun h=>absurd h.1 (show (4:Int)≠3 by decide))).trans (if_pos ⟨rfl,HD.out.2.2.2.1⟩))))
    go_enter Tryz.func135,Tryz.ntmps135
    go_wp2_with (first
     | (go_at_call 186;(with_reducible refine (HUv.out _).mono ?_);rintro e w2 ⟨rfl,rfl⟩)
     | (go_at_call 187;(with_reducible refine (HIn.out _).mono ?_);rintro e w4 ⟨rfl,hb4⟩)
     | (go_at_call 188;(with_reducible refine (HFl.out _).mono ?_);rintro e w5 ⟨rfl,rfl⟩))
    all_goals
     go_ret
     exact ⟨by rw [←HE.out];rfl,HX.out.1⟩
   ·skip
    have HE:=Lib.hid (show (0:Int)=R by rw [←HR.out];refine Eq.symm ?_;exact hgo.out.trans ((if_neg HU2.out).trans ((if_neg (fun h=>absurd h.1 (show (4:Int)≠3 by decide))).trans (if_neg (fun h=>by have h2:=h.2;change floB 0=false at h2;rw [HD.out.2.2.2.1] at h2;cases h2)))))
    go_enter Tryz.func135,Tryz.ntmps135
    go_wp2_with (first
     | (go_at_call 186;(with_reducible refine (HUv.out _).mono ?_);rintro e w2 ⟨rfl,rfl⟩)
     | (go_at_call 187;(with_reducible refine (HIn.out _).mono ?_);rintro e w4 ⟨rfl,hb4⟩)
     | (go_at_call 188;(with_reducible refine (HFl.out _).mono ?_);rintro e w5 ⟨rfl,rfl⟩))
    all_goals
     go_ret
     exact ⟨by rw [←HE.out];rfl,HX.out.1⟩
  ·have g8:(b != 0)=true:=by simpa using hbz
   have g9:¬b=0:=hbz
   clear hbz
   by_cases hv0:v=0
   case neg=>
    have g1:(v != 0)=true:=by simpa using hv0
    have g2:¬v=0:=hv0
    have HE:=Lib.hid (show (20:Int)=R by rw [←HR.out];refine Eq.symm ?_;exact one20 (.inr (.inr (.inl (stray_v hv0 (show (4:Int)≠1 by decide))))))
    clear hv0
    go_enter Tryz.func135,Tryz.ntmps135
    go_wp2_with (first
     | (go_at_call 186;(with_reducible refine (HUv.out _).mono ?_);rintro e w2 ⟨rfl,rfl⟩)
     | (go_at_call 187;(with_reducible refine (HIn.out _).mono ?_);rintro e w4 ⟨rfl,hb4⟩)
     | (go_at_call 188;(with_reducible refine (HFl.out _).mono ?_);rintro e w5 ⟨rfl,rfl⟩))
    all_goals
     go_ret
     exact ⟨by rw [←HE.out];rfl,HX.out.1⟩
   subst hv0
   by_cases hL0:L=0
   case neg=>
    have g1:(0:Int)<(L:Int):=by omega
    have HE:=Lib.hid (show (20:Int)=R by rw [←HR.out];refine Eq.symm ?_;exact one20 (.inr (.inr (.inl (stray_l (show ts.length≠0 by rw [HD.out.2.2.2.2];exact hL0) (show (4:Int)≠5 by decide))))))
    clear hL0
    go_enter Tryz.func135,Tryz.ntmps135
    go_wp2_with (first
     | (go_at_call 186;(with_reducible refine (HUv.out _).mono ?_);rintro e w2 ⟨rfl,rfl⟩)
     | (go_at_call 187;(with_reducible refine (HIn.out _).mono ?_);rintro e w4 ⟨rfl,hb4⟩)
     | (go_at_call 188;(with_reducible refine (HFl.out _).mono ?_);rintro e w5 ⟨rfl,rfl⟩))
    all_goals
     go_ret
     exact ⟨by rw [←HE.out];rfl,HX.out.1⟩
   subst hL0
   have hgo:=Lib.hid (one_go (t:=.mk 4 [] [] b 0 ts) (fun h=>by
    have hs:=stray_no (t:=.mk 4 [] [] b 0 ts) (.inl rfl) (.inl rfl) (.inr rfl) (.inl rfl) (.inl HD.out.2.2.2.2)
    rcases h with h | h | h | h | h
    ·exact absurd h (by show ¬(4:Int)<1;omega)
    ·exact absurd h (by show ¬(5:Int)<4;omega)
    ·rw [hs] at h;cases h
    ·exact absurd h (by show ¬(0:Int)<0;omega)
    ·exact absurd h (fun h=>absurd h.1 (show (4:Int)≠5 by decide))))
   cases U
   ·skip
    have HE:=Lib.hid (show (21:Int)=R by rw [←HR.out];refine Eq.symm ?_;exact hgo.out.trans (if_pos (.inl HD.out.1)))
    go_enter Tryz.func135,Tryz.ntmps135
    go_wp2_with (first
     | (go_at_call 186;(with_reducible refine (HUv.out _).mono ?_);rintro e w2 ⟨rfl,rfl⟩)
     | (go_at_call 187;(with_reducible refine (HIn.out _).mono ?_);rintro e w4 ⟨rfl,hb4⟩)
     | (go_at_call 188;(with_reducible refine (HFl.out _).mono ?_);rintro e w5 ⟨rfl,rfl⟩))
    all_goals
     go_ret
     exact ⟨by rw [←HE.out];rfl,HX.out.1⟩
   by_cases h1000:1000<N
   ·have h1I:(1000:Int)<(N:Int):=by omega
    have HE:=Lib.hid (show (21:Int)=R by rw [←HR.out];refine Eq.symm ?_;exact hgo.out.trans (if_pos (.inr (by show 1000<([]:List UInt8).length;rw [HD.out.2.1];exact h1000))))
    clear h1000
    go_enter Tryz.func135,Tryz.ntmps135
    go_wp2_with (first
     | (go_at_call 186;(with_reducible refine (HUv.out _).mono ?_);rintro e w2 ⟨rfl,rfl⟩)
     | (go_at_call 187;(with_reducible refine (HIn.out _).mono ?_);rintro e w4 ⟨rfl,hb4⟩)
     | (go_at_call 188;(with_reducible refine (HFl.out _).mono ?_);rintro e w5 ⟨rfl,rfl⟩))
    all_goals
     go_ret
     exact ⟨by rw [←HE.out];rfl,HX.out.1⟩
   have h1I:¬(1000:Int)<(N:Int):=by omega
   have h1J:(N:Int)≤1000:=by omega
   have HU2:=Lib.hid (show ¬(Lib.validD []=false∨1000<([]:List UInt8).length) from fun h=>by
    rcases h with h | h
    ·rw [HD.out.1] at h;cases h
    ·rw [HD.out.2.1] at h;exact h1000 h)
   clear h1000
   cases F
   ·skip
    have HE:=Lib.hid (show (23:Int)=R by rw [←HR.out];refine Eq.symm ?_;exact hgo.out.trans ((if_neg HU2.out).trans ((if_neg (fun h=>absurd h.1 (show (4:Int)≠3 by decide))).trans (if_pos ⟨rfl,HD.out.2.2.2.1⟩))))
    go_enter Tryz.func135,Tryz.ntmps135
    go_wp2_with (first
     | (go_at_call 186;(with_reducible refine (HUv.out _).mono ?_);rintro e w2 ⟨rfl,rfl⟩)
     | (go_at_call 187;(with_reducible refine (HIn.out _).mono ?_);rintro e w4 ⟨rfl,hb4⟩)
     | (go_at_call 188;(with_reducible refine (HFl.out _).mono ?_);rintro e w5 ⟨rfl,rfl⟩))
    all_goals
     go_ret
     exact ⟨by rw [←HE.out];rfl,HX.out.1⟩
   ·skip
    have HE:=Lib.hid (show (0:Int)=R by rw [←HR.out];refine Eq.symm ?_;exact hgo.out.trans ((if_neg HU2.out).trans ((if_neg (fun h=>absurd h.1 (show (4:Int)≠3 by decide))).trans (if_neg (fun h=>by have h2:=h.2;change floB b=false at h2;rw [HD.out.2.2.2.1] at h2;cases h2)))))
    go_enter Tryz.func135,Tryz.ntmps135
    go_wp2_with (first
     | (go_at_call 186;(with_reducible refine (HUv.out _).mono ?_);rintro e w2 ⟨rfl,rfl⟩)
     | (go_at_call 187;(with_reducible refine (HIn.out _).mono ?_);rintro e w4 ⟨rfl,hb4⟩)
     | (go_at_call 188;(with_reducible refine (HFl.out _).mono ?_);rintro e w5 ⟨rfl,rfl⟩))
    all_goals
     go_ret
     exact ⟨by rw [←HE.out];rfl,HX.out.1⟩
 ·skip
  by_cases hm0:ml = []
  case neg=>
   obtain ⟨f1,f2,f3⟩:=bytes_ne HM.out.2 hm0
   have HE:=Lib.hid (show (20:Int)=R by rw [←HR.out];refine Eq.symm ?_;exact one20 (.inr (.inr (.inl (stray_m hm0 (show (5:Int)≠3 by decide))))))
   clear hm0
   go_enter Tryz.func135,Tryz.ntmps135
   go_wp2_with (first
    | (go_at_call 186;(with_reducible refine (HUv.out _).mono ?_);rintro e w2 ⟨rfl,rfl⟩)
    | (go_at_call 187;(with_reducible refine (HIn.out _).mono ?_);rintro e w4 ⟨rfl,hb4⟩)
    | (go_at_call 188;(with_reducible refine (HFl.out _).mono ?_);rintro e w5 ⟨rfl,rfl⟩))
   all_goals
    go_ret
    exact ⟨by rw [←HE.out];rfl,HX.out.1⟩
  subst hm0
  obtain rfl:mb=⟨#[]⟩:=HM.out.2.symm
  by_cases hb0:b=0
  case neg=>
   have g1:(b != 0)=true:=by simpa using hb0
   have g2:¬b=0:=hb0
   have HE:=Lib.hid (show (20:Int)=R by rw [←HR.out];refine Eq.symm ?_;exact one20 (.inr (.inr (.inl (stray_b hb0 (show (5:Int)≠4 by decide))))))
   clear hb0
   go_enter Tryz.func135,Tryz.ntmps135
   go_wp2_with (first
    | (go_at_call 186;(with_reducible refine (HUv.out _).mono ?_);rintro e w2 ⟨rfl,rfl⟩)
    | (go_at_call 187;(with_reducible refine (HIn.out _).mono ?_);rintro e w4 ⟨rfl,hb4⟩)
    | (go_at_call 188;(with_reducible refine (HFl.out _).mono ?_);rintro e w5 ⟨rfl,rfl⟩))
   all_goals
    go_ret
    exact ⟨by rw [←HE.out];rfl,HX.out.1⟩
  subst hb0
  by_cases hv0:v=0
  case neg=>
   have g1:(v != 0)=true:=by simpa using hv0
   have g2:¬v=0:=hv0
   have HE:=Lib.hid (show (20:Int)=R by rw [←HR.out];refine Eq.symm ?_;exact one20 (.inr (.inr (.inl (stray_v hv0 (show (5:Int)≠1 by decide))))))
   clear hv0
   go_enter Tryz.func135,Tryz.ntmps135
   go_wp2_with (first
    | (go_at_call 186;(with_reducible refine (HUv.out _).mono ?_);rintro e w2 ⟨rfl,rfl⟩)
    | (go_at_call 187;(with_reducible refine (HIn.out _).mono ?_);rintro e w4 ⟨rfl,hb4⟩)
    | (go_at_call 188;(with_reducible refine (HFl.out _).mono ?_);rintro e w5 ⟨rfl,rfl⟩))
   all_goals
    go_ret
    exact ⟨by rw [←HE.out];rfl,HX.out.1⟩
  subst hv0
  by_cases hL0:L=0
  ·subst hL0
   have HE:=Lib.hid (show (20:Int)=R by rw [←HR.out];refine Eq.symm ?_;exact one20 (.inr (.inr (.inr (.inr ⟨rfl,.inl HD.out.2.2.2.2⟩)))))
   go_enter Tryz.func135,Tryz.ntmps135
   go_wp2_with (first
    | (go_at_call 186;(with_reducible refine (HUv.out _).mono ?_);rintro e w2 ⟨rfl,rfl⟩)
    | (go_at_call 187;(with_reducible refine (HIn.out _).mono ?_);rintro e w4 ⟨rfl,hb4⟩)
    | (go_at_call 188;(with_reducible refine (HFl.out _).mono ?_);rintro e w5 ⟨rfl,rfl⟩))
   all_goals
    go_ret
    exact ⟨by rw [←HE.out];rfl,HX.out.1⟩
  by_cases hL6:64<L
  ·have g1:(64:Int)<(L:Int):=by omega
   have g2:¬(L:Int)=0:=by omega
   have g3:(0:Int)<(L:Int):=by omega
   have HE:=Lib.hid (show (20:Int)=R by rw [←HR.out];refine Eq.symm ?_;exact one20 (.inr (.inr (.inr (.inr ⟨rfl,.inr (by show 64<ts.length;rw [HD.out.2.2.2.2];exact hL6)⟩)))))
   clear hL0 hL6
   go_enter Tryz.func135,Tryz.ntmps135
   go_wp2_with (first
    | (go_at_call 186;(with_reducible refine (HUv.out _).mono ?_);rintro e w2 ⟨rfl,rfl⟩)
    | (go_at_call 187;(with_reducible refine (HIn.out _).mono ?_);rintro e w4 ⟨rfl,hb4⟩)
    | (go_at_call 188;(with_reducible refine (HFl.out _).mono ?_);rintro e w5 ⟨rfl,rfl⟩))
   all_goals
    go_ret
    exact ⟨by rw [←HE.out];rfl,HX.out.1⟩
  have g1:(L:Int)≤64:=by omega
  have g2:¬(L:Int)=0:=by omega
  have g3:(0:Int)<(L:Int):=by omega
  have g4:¬L=0:=by omega
  have g5:L≤64:=by omega
  have g6:((L:Int)==0)=false:=beq_eq_false_iff_ne.2 g2
  have g7:decide (64<L)=false:=decide_eq_false (by omega)
  have g8:(L==0)=false:=beq_eq_false_iff_ne.2 g4
  have hgo:=Lib.hid (one_go (t:=.mk 5 nl [] 0 0 ts) (fun h=>by
   have hs:=stray_no (t:=.mk 5 nl [] 0 0 ts) (.inr (.inr rfl)) (.inl rfl) (.inl rfl) (.inl rfl) (.inr rfl)
   rcases h with h | h | h | h | h
   ·exact absurd h (by show ¬(5:Int)<1;omega)
   ·exact absurd h (by show ¬(5:Int)<5;omega)
   ·rw [hs] at h;cases h
   ·exact absurd h (by show ¬(0:Int)<0;omega)
   ·exact absurd h (fun h=>by have:=h.2;have e:=HD.out.2.2.2.2;change ts.length=0∨64<ts.length at this;rw [e] at this;omega)))
  clear hL0 hL6
  cases U
  ·skip
   have HE:=Lib.hid (show (21:Int)=R by rw [←HR.out];refine Eq.symm ?_;exact hgo.out.trans (if_pos (.inl HD.out.1)))
   go_enter Tryz.func135,Tryz.ntmps135
   go_wp2_with (first
    | (go_at_call 186;(with_reducible refine (HUv.out _).mono ?_);rintro e w2 ⟨rfl,rfl⟩)
    | (go_at_call 187;(with_reducible refine (HIn.out _).mono ?_);rintro e w4 ⟨rfl,hb4⟩)
    | (go_at_call 188;(with_reducible refine (HFl.out _).mono ?_);rintro e w5 ⟨rfl,rfl⟩))
   all_goals
    go_ret
    exact ⟨by rw [←HE.out];rfl,HX.out.1⟩
  by_cases h1000:1000<N
  ·have h1I:(1000:Int)<(N:Int):=by omega
   have HE:=Lib.hid (show (21:Int)=R by rw [←HR.out];refine Eq.symm ?_;exact hgo.out.trans (if_pos (.inr (by show 1000<(nl:List UInt8).length;rw [HD.out.2.1];exact h1000))))
   clear h1000
   go_enter Tryz.func135,Tryz.ntmps135
   go_wp2_with (first
    | (go_at_call 186;(with_reducible refine (HUv.out _).mono ?_);rintro e w2 ⟨rfl,rfl⟩)
    | (go_at_call 187;(with_reducible refine (HIn.out _).mono ?_);rintro e w4 ⟨rfl,hb4⟩)
    | (go_at_call 188;(with_reducible refine (HFl.out _).mono ?_);rintro e w5 ⟨rfl,rfl⟩))
   all_goals
    go_ret
    exact ⟨by rw [←HE.out];rfl,HX.out.1⟩
  have h1I:¬(1000:Int)<(N:Int):=by omega
  have h1J:(N:Int)≤1000:=by omega
  have HU2:=Lib.hid (show ¬(Lib.validD nl=false∨1000<(nl:List UInt8).length) from fun h=>by
   rcases h with h | h
   ·rw [HD.out.1] at h;cases h
   ·rw [HD.out.2.1] at h;exact h1000 h)
  clear h1000
  have HE:=Lib.hid (show (0:Int)=R by rw [←HR.out];refine Eq.symm ?_;exact hgo.out.trans ((if_neg HU2.out).trans ((if_neg (fun h=>absurd h.1 (show (5:Int)≠3 by decide))).trans (if_neg (fun h=>absurd h.1 (show (5:Int)≠4 by decide))))))
  go_enter Tryz.func135,Tryz.ntmps135
  go_wp2_with (first
   | (go_at_call 186;(with_reducible refine (HUv.out _).mono ?_);rintro e w2 ⟨rfl,rfl⟩)
   | (go_at_call 187;(with_reducible refine (HIn.out _).mono ?_);rintro e w4 ⟨rfl,hb4⟩)
   | (go_at_call 188;(with_reducible refine (HFl.out _).mono ?_);rintro e w5 ⟨rfl,rfl⟩))
  all_goals
   go_ret
   exact ⟨by rw [←HE.out];rfl,HX.out.1⟩
end
end Go.Proofs.YtjpnmmjgdiiahaaGreatDoor
namespace Ht
namespace Tm
end Tm
section
end
end Ht
namespace Ht
end Ht
namespace Go.Proofs.YtjpnmmjgdiiahaaGreatDoor
section
open Go.RowKit Hb Ht
def RCountOk (t:Tm):Prop:=∀ (w:World) (sl:Value) (n:Nat),TAt w w.heap.size t sl→n≤4000→Calls Tryz.prog 30 #[valT t sl,.int .i64 (n:Int)] w fun e w'=>e = .returned (.int .i64 (cnt t n:Nat))∧Below w.heap.size w w'
set_option maxRecDepth 100000 in
set_option maxHeartbeats 4000000 in
theorem rcount_any (t:Tm):RCountOk t:=by
 refine Tm.ind (p:=RCountOk) (fun k nl ml b v ts ih=>?_) t
 intro w sl n h hn
 obtain ⟨A,c,rfl,hl1,hl2,hl3⟩:=h.slice
 obtain ⟨nb,hnb⟩:∃ nb:ByteArray,(⟨nl.toArray⟩:ByteArray)=nb:=⟨_,rfl⟩
 obtain ⟨mb,hmb⟩:∃ mb:ByteArray,(⟨ml.toArray⟩:ByteArray)=mb:=⟨_,rfl⟩
 obtain ⟨L,hL⟩:∃ L,ts.length=L:=⟨_,rfl⟩
 change ts.length≤c at hl1
 change ts.length≤maxArgs at hl3
 change TAt w w.heap.size (.mk k nl ml b v ts) (.slice A ts.length c) at h
 change Calls Tryz.prog 30 #[valT _ (.slice A ts.length c),_] w _
 rw [valT_mk hnb hmb]
 rw [hL] at h hl1 hl3 ⊢
 obtain ⟨R,hR⟩:∃ R,cnt (.mk k nl ml b v ts) n=R:=⟨_,rfl⟩
 rw [hR]
 have hRs:cnts ts (n+1)=R:=by rw [←hR];rfl
 have HIH:=Lib.hid ih
 have HT:=Lib.hid h
 have HL:=Lib.hid (And.intro hL hRs)
 have hLI:(L:Int)≤1759218604400:=by unfold maxArgs at hl3;omega
 have hX:=TBox.new (ts:=ts) w (k:=k) (b:=b) (v:=v) (sl:=.slice A L c) hnb hmb
 have hB:=Lib.hid (show Below w.heap.size w (w.alloc (.cells #[.int .i64 k,.string nb,.string mb,.int .u64 b,.int .i64 v,.slice A L c] 25)) from (Below.refl _ _).alloc (Nat.le_refl _) _)
 obtain ⟨x0,x1,x2,x3,x4,x5⟩:=hX.cells hnb hmb
 have HX:=Lib.hid hX
 have HM:=Lib.hid (And.intro hnb hmb)
 clear ih h hR hRs hL hnb hmb hX
 go_enter Tryz.func30,Tryz.ntmps30
 go_upto_region 3 with fail
 obtain ⟨W1,hW1⟩:∃ W1,w.alloc (.cells #[.int .i64 k,.string nb,.string mb,.int .u64 b,.int .i64 v,.slice A L c] 25)=W1:=⟨_,rfl⟩
 rw [hW1] at hB HX x0 x1 x2 x3 x4 x5 ⊢
 have HT1:=Lib.hid (HT.out.to hB.out hB.out.size)
 clear hW1 x0 x1 x2 x3 x4 x5
 go_loopw [1,5] (fun v1 v5 wr=>∃ x i:Nat,v1 = .int .i64 (x:Int)∧v5 = .int .i64 (i:Int)∧i≤L∧x≤4001∧Hid (cnts (ts.drop i) x=R∧Below W1.heap.size W1 wr)) (fun _ v5 _=>((L:Int) - intOf v5).toNat)
 case atStart=>exact ⟨n+1,0,rfl,rfl,Nat.zero_le _,by omega,Lib.hid ⟨HL.out.2,Below.refl _ _⟩⟩
 case round=>
  obtain ⟨x,i,rfl,rfl,hi,hx,HI⟩:=hrel
  have hXr:=HX.out.below HI.out.2
  obtain ⟨x0,x1,x2,x3,x4,x5⟩:=hXr.cells HM.out.1 HM.out.2
  clear hXr
  by_cases hlt:i<L
  ·have hltI:(i:Int)<(L:Int):=by omega
   have hi0:(0:Int)≤(i:Int):=by omega
   have hil:i<ts.length:=by rw [HL.out.1];exact hlt
   obtain ⟨a,ha⟩:∃ a,ts[i]?=some a:=⟨_,List.getElem?_eq_getElem hil⟩
   have hTr:=(HT1.out.to HI.out.2 HI.out.2.size)
   obtain ⟨g,o,rfl,hgB,helt⟩:=hTr.arg ha
   obtain ⟨A',c',k',n',m',b',v',ts',nb',mb',rfl,hnb',hmb',hta,e0,e1,e2,e3,e4,e5⟩:=EltAt.cells helt
   have hd:ts.drop i = .mk k' n' m' b' v' ts' :: ts.drop (i+1):=by rw [List.drop_eq_getElem_cons hil,←List.getElem?_eq_some_iff.1 ha |>.2]
   have HC:=Lib.hid (HIH.out _ (List.mem_of_getElem? ha))
   have HN:=Lib.hid (And.intro hnb' hmb')
   have HTA:=Lib.hid hta
   have HLT:=Lib.hid hlt
   have HD:=Lib.hid hd
   clear hTr helt hta hnb' hmb' ha hil hlt hd hi
   by_cases hbig:4000<x
   ·have hbI:¬(x:Int)≤4000:=by omega
    have HE:=Lib.hid (show x=R from by
     have h9:=HI.out.1
     rw [HD.out,cnts,if_pos hbig] at h9
     exact h9)
    have HB2:=Lib.hid HI.out.2
    clear hbig
    go_wp2
    go_ret
    exact ⟨by rw [HE.out];rfl,hB.out.trans (HB2.out.mono hB.out.size)⟩
   ·have hbI:(x:Int)≤4000:=by omega
    have HE:=Lib.hid (show cnts (ts.drop (i+1)) (cnt (.mk k' n' m' b' v' ts') x)=R from by
     have h9:=HI.out.1
     rw [HD.out,cnts,if_neg hbig] at h9
     exact h9)
    have HCl:=Lib.hid (HC.out wr (.slice A' ts'.length c') x HTA.out (by omega))
    rw [valT_mk HN.out.1 HN.out.2] at HCl
    have HSm:=Lib.hid (cnt_small (.mk k' n' m' b' v' ts') x (by omega))
    have HB2:=Lib.hid HI.out.2
    generalize cnt (.mk k' n' m' b' v' ts') x=z at *
    clear hbig
    go_wp2_with (go_at_call 30;(with_reducible refine HCl.out.mono ?_);rintro e w' ⟨rfl,hb3⟩;have HB3:=Lib.hid (HB2.out.trans (hb3.mono HB2.out.size));clear hb3)
    go_roundw
    case rel=>exact ⟨z,i+1,rfl,rfl,HLT.out,HSm.out,Lib.hid ⟨HE.out,HB3.out⟩⟩
    case measure=>
     have:=HLT.out
     show ((L:Int) - ((i:Int)+1)).toNat<((L:Int) - (i:Int)).toNat
     omega
  ·have ei:i=L:=by omega
   subst ei
   have HE:=Lib.hid (show x=R∧Below W1.heap.size W1 wr from by
    have h9:=HI.out
    rw [List.drop_of_length_le (by rw [HL.out.1];exact Nat.le_refl _)] at h9
    exact h9)
   clear hlt hi
   go_wp2
   go_ret
   exact ⟨by rw [HE.out.1];rfl,hB.out.trans (HE.out.2.mono hB.out.size)⟩
set_option maxRecDepth 100000 in
set_option maxHeartbeats 4000000 in
theorem rNodes_any {w:World} {t:Tm} {sl:Value} (h:TAt w w.heap.size t sl):Calls Tryz.prog 12 #[valT t sl] w fun e w'=>e = .returned (.int .i64 (nodes t:Nat))∧Below w.heap.size w w':=by
 obtain ⟨k,nl,ml,b,v,ts,nb,mb,A,c,rfl,rfl,hnb,hmb,hl1,hl2,hl3,hv,hs1,hs2⟩:=h.letters
 have hc:=rcount_any (.mk k nl ml b v ts) (w.alloc (.cells #[.int .i64 k,.string nb,.string mb,.int .u64 b,.int .i64 v,.slice A ts.length c] 25)) (.slice A ts.length c) 0 (h.boxed _) (by omega)
 have hR:nodes (.mk k nl ml b v ts)=min (cnt (.mk k nl ml b v ts) 0) 4001:=rfl
 have hsm:=cnt_small (.mk k nl ml b v ts) 0 (by omega)
 rw [hv,show ((0:Nat):Int)=0 from rfl] at hc
 rw [hv,hR]
 generalize cnt (.mk k nl ml b v ts) 0=z at *
 rw [show min z 4001=z by omega]
 have HC:=Lib.hid hc
 have hX:=TBox.new (ts:=ts) w (k:=k) (b:=b) (v:=v) (sl:=.slice A ts.length c) hnb hmb
 have HB:=Lib.hid (show Below w.heap.size w (w.alloc (.cells #[.int .i64 k,.string nb,.string mb,.int .u64 b,.int .i64 v,.slice A ts.length c] 25)) from (Below.refl _ _).alloc (Nat.le_refl _) _)
 obtain ⟨x0,x1,x2,x3,x4,x5⟩:=hX.cells hnb hmb
 have hzI:(z:Int)≤4001:=by omega
 clear hc h hv hR hX
 go_enter Tryz.func12,Tryz.ntmps12
 go_upto_region 2 with (go_at_call 30;(with_reducible refine HC.out.mono ?_);rintro e w' ⟨rfl,hb3⟩;have HB3:=Lib.hid (HB.out.trans (hb3.mono HB.out.size));clear hb3)
 by_cases hz:4000<z
 ·have hz1:z=4001:=by omega
  subst hz1
  go_wp2
  go_ret
  exact ⟨rfl,HB3.out⟩
 ·have hzI:¬(4000:Int)<(z:Int):=by omega
  go_wp2
  go_ret
  exact ⟨rfl,HB3.out⟩
end
end Go.Proofs.YtjpnmmjgdiiahaaGreatDoor
namespace Ht
mutual
def Fits:Tm→Prop
 | .mk _ n _ _ _ ts=>n.length≤4611686018427387904∧Fitss ts
def Fitss:List Tm→Prop
 | []=>True
 | a :: ts=>Fits a∧Fitss ts
end
theorem Fitss.iff:∀ {ts:List Tm},Fitss ts↔∀ a∈ts,Fits a
 | []=>by simp [Fitss]
 | a :: ts=>by rw [Fitss,Fitss.iff (ts:=ts)];simp
theorem Fits.iff {t:Tm} : Fits t↔t.n.length≤4611686018427387904∧∀ a∈t.as,Fits a:=by
 obtain ⟨k,n,m,b,v,ts⟩:=t
 rw [Fits,Fitss.iff]
 rfl
end Ht
namespace Go.Proofs.YtjpnmmjgdiiahaaGreatDoor
section
open Go.ChangeShapes Go.WideShapes Go.ChangeAt Go.RowKit Go.Joins Go.Deep Hb Ht
section
end
end
section
open Go.RowKit Hb Ht
attribute [local go_sem] Oper.semAt_some
def RAllOk (t:Tm):Prop:=∀ (w:World) (sl:Value),TAt w w.heap.size t sl→Fits t→Calls Tryz.prog 49 #[valT t sl] w fun e w'=>e = .returned (.int .i64 (errsP t))∧Below w.heap.size w w'
set_option maxRecDepth 100000 in
set_option maxHeartbeats 8000000 in
theorem rall_any (t:Tm):RAllOk t:=by
 refine Tm.ind (p:=RAllOk) (fun k nl ml b v ts ih=>?_) t
 intro w sl h hFit
 obtain ⟨A,c,rfl,hl1,hl2,hl3⟩:=h.slice
 obtain ⟨nb,hnb⟩:∃ nb:ByteArray,(⟨nl.toArray⟩:ByteArray)=nb:=⟨_,rfl⟩
 obtain ⟨mb,hmb⟩:∃ mb:ByteArray,(⟨ml.toArray⟩:ByteArray)=mb:=⟨_,rfl⟩
 obtain ⟨L,hL⟩:∃ L,ts.length=L:=⟨_,rfl⟩
 change ts.length≤c at hl1
 change ts.length≤maxArgs at hl3
 change TAt w w.heap.size (.mk k nl ml b v ts) (.slice A ts.length c) at h
 change Calls Tryz.prog 49 #[valT _ (.slice A ts.length c)] w _
 have hNd:=fun w1 (hb:Below w.heap.size w w1)=>rone_any (h.to hb hb.size) (Fits.iff.1 hFit).1
 simp only [valT_mk hnb hmb] at hNd
 rw [valT_mk hnb hmb]
 rw [hL] at h hl1 hl3 hNd ⊢
 obtain ⟨R,hR⟩:∃ R,errsP (.mk k nl ml b v ts)=R:=⟨_,rfl⟩
 obtain ⟨R0,hR0⟩:∃ R0,oneP (.mk k nl ml b v ts)=R0:=⟨_,rfl⟩
 rw [hR]
 have HR:=Lib.hid (show (R0≠0→R0=R)∧(R0=0→errss Lib.validD canonB floB ts=R) from by
  have h9:(if oneP (.mk k nl ml b v ts)≠0 then oneP (.mk k nl ml b v ts) else errss Lib.validD canonB floB ts)=R:=hR
  rw [hR0] at h9
  by_cases h0:R0=0
  ·rw [if_neg (by simp [h0])] at h9;exact ⟨fun h=>absurd h0 h,fun _=>h9⟩
  ·rw [if_pos h0] at h9;exact ⟨fun _=>h9,fun h=>absurd h h0⟩)
 have HNd:=Lib.hid hNd
 rw [hR0] at HNd
 have HIH:=Lib.hid (And.intro ih (Fits.iff.1 hFit).2)
 have HT:=Lib.hid h
 have HL:=Lib.hid hL
 have HM:=Lib.hid (And.intro hnb hmb)
 have hLI:(L:Int)≤1759218604400:=by unfold maxArgs at hl3;omega
 obtain ⟨W1,hW1⟩:∃ W1,w.alloc (.cells #[.int .i64 k,.string nb,.string mb,.int .u64 b,.int .i64 v,.slice A L c] 25)=W1:=⟨_,rfl⟩
 have hb1:Below w.heap.size w W1:=by rw [←hW1];exact (Below.refl _ _).alloc (Nat.le_refl _) _
 have hX:=TBox.new (ts:=ts) w (k:=k) (b:=b) (v:=v) (sl:=.slice A L c) hnb hmb
 rw [hW1] at hX
 obtain ⟨x0,x1,x2,x3,x4,x5⟩:=hX.cells hnb hmb
 have HB:=Lib.hid (And.intro hb1 hX)
 subst hW1
 clear ih h hR hR0 hL hnb hmb hX hb1 hNd hFit
 go_enter Tryz.func49,Tryz.ntmps49
 go_wp2_with fail
 (with_reducible refine (HNd.out _ HB.out.1).mono ?_)
 rintro e w2 ⟨rfl,hb2⟩
 have HB2:=Lib.hid (And.intro (HB.out.1.trans (hb2.mono HB.out.1.size)) (HB.out.2.below hb2))
 clear hb2 x0 x1 x2 x3 x4 x5 HNd
 go_upto_region 3 with fail
 go_loopw [3,4] (fun v3 v4 wr=>∃ (i:Nat) (E:Int),v3 = .int .i64 E∧v4 = .int .i64 (i:Int)∧i≤L∧Hid ((E≠0→E=R)∧(E=0→errss Lib.validD canonB floB (ts.drop i)=R)∧Below w.heap.size w wr∧TBox wr w.heap.size (.mk k nl ml b v ts) (.slice A L c))) (fun _ v4 _=>((L:Int) - intOf v4).toNat)
 case atStart=>exact ⟨0,R0,rfl,rfl,Nat.zero_le _,Lib.hid ⟨HR.out.1,HR.out.2,HB2.out.1,HB2.out.2⟩⟩
 case round=>
  obtain ⟨i,E,rfl,rfl,hi,HI⟩:=hrel
  obtain ⟨x0,x1,x2,x3,x4,x5⟩:=HI.out.2.2.2.cells HM.out.1 HM.out.2
  by_cases hlt:i<L
  ·have hltI:(i:Int)<(L:Int):=by omega
   have hi0:(0:Int)≤(i:Int):=by omega
   by_cases h0:E=0
   ·subst h0
    have hil:i<ts.length:=by rw [HL.out];exact hlt
    obtain ⟨a,ha⟩:∃ a,ts[i]?=some a:=⟨_,List.getElem?_eq_getElem hil⟩
    obtain ⟨g,o,rfl,hgB,helt⟩:=(HT.out.to HI.out.2.2.1 HI.out.2.2.1.size).arg ha
    have HD:=Lib.hid (errss_drop ha (HI.out.2.1 rfl))
    obtain ⟨A',c',k',n',m',b',v',ts',nb',mb',rfl,hnb',hmb',hta,e0,e1,e2,e3,e4,e5⟩:=EltAt.cells helt
    obtain ⟨q,hq⟩:∃ q,ts'.length=q:=⟨_,rfl⟩
    have hC:=HIH.out.1 _ (List.mem_of_getElem? ha) wr _ hta (HIH.out.2 _ (List.mem_of_getElem? ha))
    rw [valT_mk hnb' hmb',hq] at hC
    obtain ⟨R1,hR1⟩:∃ R1,errsP (.mk k' n' m' b' v' ts')=R1:=⟨_,rfl⟩
    rw [hR1] at hC HD
    have HC:=Lib.hid hC
    have HLT:=Lib.hid hlt
    rw [hq] at e5
    clear helt hta hnb' hmb' ha hil hlt hi hq hC hR1
    go_wp2_with (go_at_call 49;(with_reducible refine HC.out.mono ?_);rintro e w' ⟨rfl,hb4⟩;have HB4:=Lib.hid (And.intro (HI.out.2.2.1.trans (hb4.mono HI.out.2.2.1.size)) (HI.out.2.2.2.below hb4));clear hb4)
    refine ⟨⟨i+1,R1,rfl,rfl,HLT.out,Lib.hid ⟨HD.out.1,HD.out.2,HB4.out.1,HB4.out.2⟩⟩,?_⟩
    have:=HLT.out
    show ((L:Int) - ((i:Int)+1)).toNat<((L:Int) - (i:Int)).toNat
    omega
   ·have h0b:(E==0)=false:=beq_eq_false_iff_ne.2 h0
    have HE:=Lib.hid (HI.out.1 h0)
    clear h0 hlt hi
    go_wp2
    go_ret
    exact ⟨by rw [←HE.out];rfl,HI.out.2.2.1⟩
  ·have ei:i=L:=by omega
   subst ei
   have HE:=Lib.hid (show E=R from by
    by_cases h0:E=0
    ·have h9:=HI.out.2.1 h0
     rw [List.drop_of_length_le (by rw [HL.out];exact Nat.le_refl _)] at h9
     rw [h0];exact h9
    ·exact HI.out.1 h0)
   clear hlt hi
   go_wp2
   go_ret
   exact ⟨by rw [←HE.out];rfl,HI.out.2.2.1⟩
set_option maxRecDepth 100000 in
set_option maxHeartbeats 2000000 in
theorem rCheck_any {w:World} {t:Tm} {sl:Value} (h:TAt w w.heap.size t sl) (hf:Fits t):Calls Tryz.prog 27 #[valT t sl] w fun e w'=>e = .returned (.int .i64 (checkP t))∧Below w.heap.size w w':=by
 obtain ⟨k,nl,ml,b,v,ts,nb,mb,A,c,rfl,rfl,hnb,hmb,hl1,hl2,hl3,hv,hs1,hs2⟩:=h.letters
 have hb1:Below w.heap.size w (w.alloc (.cells #[.int .i64 k,.string nb,.string mb,.int .u64 b,.int .i64 v,.slice A ts.length c] 25)):=(Below.refl _ _).alloc (Nat.le_refl _) _
 have HC:=Lib.hid (rNodes_any (h.to hb1 hb1.size))
 have HN:=Lib.hid (fun w2 (hb:Below _ (w.alloc (.cells #[.int .i64 k,.string nb,.string mb,.int .u64 b,.int .i64 v,.slice A ts.length c] 25)) w2)=>rall_any (.mk k nl ml b v ts) w2 (.slice A ts.length c) ((h.to hb1 hb1.size).to hb hb.size) hf)
 rw [hv] at HC HN ⊢
 obtain ⟨n,hn⟩:∃ n,nodes (.mk k nl ml b v ts)=n:=⟨_,rfl⟩
 obtain ⟨E,hE⟩:∃ E,errsP (.mk k nl ml b v ts)=E:=⟨_,rfl⟩
 have hR:checkP (.mk k nl ml b v ts)=if 4000<n then 24 else E:=by rw [←hn,←hE];rfl
 have hnl:n≤4001:=by rw [←hn];unfold nodes;omega
 rw [hR]
 rw [hn] at HC
 rw [hE] at HN
 have hX:=TBox.new (ts:=ts) w (k:=k) (b:=b) (v:=v) (sl:=.slice A ts.length c) hnb hmb
 have HB:=Lib.hid (And.intro hb1 hX)
 have HM:=Lib.hid (And.intro hnb hmb)
 obtain ⟨x0,x1,x2,x3,x4,x5⟩:=hX.cells hnb hmb
 have hzI:(n:Int)≤4001:=by omega
 clear h hv hR hX hn hE hb1 hf
 by_cases hz:4000<n
 ·have hzI:(4000:Int)<(n:Int):=by omega
  rw [if_pos hz]
  clear hz
  go_enter Tryz.func27,Tryz.ntmps27
  go_wp2_with (go_at_call 12;(with_reducible refine HC.out.mono ?_);rintro e w' ⟨rfl,hb3⟩;have HB3:=Lib.hid (HB.out.1.trans (hb3.mono HB.out.1.size));clear hb3)
  go_ret
  exact ⟨rfl,HB3.out⟩
 ·have hzI:¬(4000:Int)<(n:Int):=by omega
  rw [if_neg hz]
  clear hz
  go_enter Tryz.func27,Tryz.ntmps27
  go_wp2_with (first
   | (go_at_call 12;(with_reducible refine HC.out.mono ?_);rintro e w' ⟨rfl,hb3⟩;obtain ⟨y0,y1,y2,y3,y4,y5⟩:=(HB.out.2.below hb3).cells HM.out.1 HM.out.2;have HB3:=Lib.hid (And.intro (HB.out.1.trans (hb3.mono HB.out.1.size)) hb3);clear hb3)
   | (go_at_call 49;(with_reducible refine (HN.out _ HB3.out.2).mono ?_);rintro e w' ⟨rfl,hb4⟩;have HB4:=Lib.hid (HB3.out.1.trans (hb4.mono HB3.out.1.size));clear hb4))
  go_ret
  exact ⟨rfl,HB4.out⟩
end
end Go.Proofs.YtjpnmmjgdiiahaaGreatDoor
