import Derived.WalkKit
import Derived.Lib.Hide
import Derived.Test.YtjpnmmjgdiiahaaGreatDoorRows
import Derived.Deep.QuietTactic
import Derived.BigQuiet
import Derived.Deep.RegionHeld3
import Derived.Deep.DrawnRows
import Derived.Deep.DeepCutAuto
import Derived.Deep.CutBlock
import Derived.StillTailTactics
import Derived.Deep.AppendLies
import Derived.Maps.AppendAt
import Derived.Deep.OwnRows
import Derived.Shelf.Small.Bits
import Derived.Laws.BytesArg
import Derived.Laws.AppendOwnNone
import Derived.ProofKit
import Derived.OpenShut
import Derived.JoinedCond
import Derived.JoinedOf
import Derived.JoinedAt
import Derived.ChangeSame
import Derived.ChangeSlices
import Derived.RowKit3
import Derived.Carry
import Derived.Lib.SmallJoins
import Derived.Deep.LoopGhost
import Derived.IntWalk
import Derived.Laws.Cover2
import Derived.Laws.FloatArith
import Derived.Lib.ValidU
import Derived.Shelf.Unicode.ValidAny
import Derived.Lib.LaidU8T
import Derived.Lib.ValidLaws
import Derived.Lib.TrimUEq
import Derived.Test.YtjpnmmjgdiiahaaGreatDoorS1
import Derived.Test.YtjpnmmjgdiiahaaGreatDoorS2
import Derived.Test.YtjpnmmjgdiiahaaGreatDoorS3
import Derived.Test.YtjpnmmjgdiiahaaGreatDoorS4
import Derived.Test.YtjpnmmjgdiiahaaGreatDoorS5
set_option linter.unusedVariables false
set_option linter.unusedSimpArgs false
namespace Ht
namespace Tm
end Tm
section
end
end Ht
namespace Hb
open Go Go.Lib
def accU (l:List UInt8) (v0 k:Nat):Nat:=(List.range k).foldl (fun a j=>a * 64+((l.getD (j+1) 0).toNat - 128)) v0
theorem accU_zero (l:List UInt8) (v0:Nat):accU l v0 0=v0:=rfl
theorem accU_succ (l:List UInt8) (v0 k:Nat):accU l v0 (k+1)=accU l v0 k * 64+((l.getD (k+1) 0).toNat - 128):=by
 unfold accU
 rw [List.range_succ,List.foldl_append]
 rfl
def contU (l:List UInt8) (j:Nat):Prop:=j<l.length∧128≤(l.getD j 0).toNat∧(l.getD j 0).toNat<192
def contsU (l:List UInt8) (k:Nat):Prop:=∀ j,1≤j→j≤k→contU l j
def ClsU (b n least v0:Nat):Prop:=(192≤b∧b<224∧n=1∧least=128∧v0=b - 192)∨(224≤b∧b<240∧n=2∧least=2048∧v0=b - 224)∨(240≤b∧b<248∧n=3∧least=65536∧v0=b - 240)
theorem accU_lt {l:List UInt8} {v0:Nat} (h0:v0<32):∀ k,contsU l k→accU l v0 k<32 * 64 ^ k
 | 0,_=>by rw [accU_zero];omega
 | k+1,h=>by
  have h1:=accU_lt h0 k (fun j hj hk=>h j hj (by omega))
  have h2:=(h (k+1) (by omega) (Nat.le_refl _)).2.2
  have h3:(64:Nat) ^ (k+1)=64 ^ k * 64:=Nat.pow_succ ..
  rw [accU_succ,h3]
  omega
theorem valid_none {l:List UInt8} (hne:l ≠ []) (h:decodeN l.length (l.getD 0 0).toNat (l.getD 1 0).toNat (l.getD 2 0).toNat (l.getD 3 0).toNat=(65533,1)):validD l=false:=by
 rw [validD_step l hne,decodeL_N,h]
 simp
theorem valid_some {l:List UInt8} (hne:l ≠ []) {k:Nat} (hk:2≤k) (h:(decodeN l.length (l.getD 0 0).toNat (l.getD 1 0).toNat (l.getD 2 0).toNat (l.getD 3 0).toNat).2=k):validD l=validD (l.drop k):=by
 rw [validD_step l hne,decodeL_N,h,if_neg (by omega)]
theorem cls_none {l:List UInt8} (hne:l ≠ []) (h:(128≤(l.getD 0 0).toNat∧(l.getD 0 0).toNat<192)∨248≤(l.getD 0 0).toNat):validD l=false:=by
 refine valid_none hne (decodeN_bad _ _ _ _ _ ?_)
 have:=(l.getD 0 0).toNat_lt
 omega
set_option maxRecDepth 100000 in
set_option maxHeartbeats 4000000 in
theorem cls_bad {l:List UInt8} (hne:l ≠ []) {b n least v0 k:Nat} (hb:(l.getD 0 0).toNat=b) (hc:ClsU b n least v0) (hk:1≤k∧k≤n) (hn:¬contU l k):validD l=false:=by
 refine valid_none hne ?_
 rw [hb]
 have h1:=(l.getD 1 0).toNat_lt
 have h2:=(l.getD 2 0).toNat_lt
 have h3:=(l.getD 3 0).toNat_lt
 unfold contU at hn
 have hk3:k=1∨k=2∨k=3:=by unfold ClsU at hc;omega
 generalize l.length=N at *
 rcases hk3 with rfl | rfl | rfl
 all_goals
  generalize (l.getD 1 0).toNat=c1 at *
  generalize (l.getD 2 0).toNat=c2 at *
  generalize (l.getD 3 0).toNat=c3 at *
  unfold ClsU at hc
  unfold decodeN
  rcases hc with ⟨a1,a2,a3,a4,a5⟩ | ⟨a1,a2,a3,a4,a5⟩ | ⟨a1,a2,a3,a4,a5⟩
  all_goals
   repeat' split
   all_goals first | rfl | (exfalso;omega)
set_option maxRecDepth 100000 in
set_option maxHeartbeats 4000000 in
theorem cls_end {l:List UInt8} (hne:l ≠ []) {b n least v0 V:Nat} (hb:(l.getD 0 0).toNat=b) (hc:ClsU b n least v0) (hn:contsU l n) (hV:accU l v0 n=V) :
  ((V<least∨1114111<V∨(55296≤V∧V<57344))→validD l=false)∧(¬(V<least∨1114111<V∨(55296≤V∧V<57344))→validD l=validD (l.drop (n+1))):=by
 rcases hc with ⟨a1,a2,rfl,rfl,rfl⟩ | ⟨a1,a2,rfl,rfl,rfl⟩ | ⟨a1,a2,rfl,rfl,rfl⟩
 ·subst hV
  have g1:=hn 1 (by omega) (by omega)
  unfold contU at g1
  obtain ⟨V,hV⟩:∃ V,accU l (b - 192) 1=V:=⟨_,rfl⟩
  rw [hV]
  simp only [accU_succ,accU_zero,Nat.zero_add,Nat.reduceAdd] at hV
  constructor
  ·intro h
   refine valid_none hne ?_
   rw [hb]
   generalize (l.getD 1 0).toNat=c1 at *
   generalize (l.getD 2 0).toNat=c2 at *
   generalize (l.getD 3 0).toNat=c3 at *
   unfold decodeN
   repeat' split
   all_goals first | rfl | (exfalso;omega)
  ·intro h
   refine valid_some hne (by omega) ?_
   rw [hb]
   generalize (l.getD 1 0).toNat=c1 at *
   generalize (l.getD 2 0).toNat=c2 at *
   generalize (l.getD 3 0).toNat=c3 at *
   unfold decodeN
   repeat' split
   all_goals first | rfl | (exfalso;omega)
 ·subst hV
  have g1:=hn 1 (by omega) (by omega)
  have g2:=hn 2 (by omega) (by omega)
  unfold contU at g1 g2
  obtain ⟨V,hV⟩:∃ V,accU l (b - 224) 2=V:=⟨_,rfl⟩
  rw [hV]
  simp only [accU_succ,accU_zero,Nat.zero_add,Nat.reduceAdd] at hV
  constructor
  ·intro h
   refine valid_none hne ?_
   rw [hb]
   generalize (l.getD 1 0).toNat=c1 at *
   generalize (l.getD 2 0).toNat=c2 at *
   generalize (l.getD 3 0).toNat=c3 at *
   unfold decodeN
   repeat' split
   all_goals first | rfl | (exfalso;omega)
  ·intro h
   refine valid_some hne (by omega) ?_
   rw [hb]
   generalize (l.getD 1 0).toNat=c1 at *
   generalize (l.getD 2 0).toNat=c2 at *
   generalize (l.getD 3 0).toNat=c3 at *
   unfold decodeN
   repeat' split
   all_goals first | rfl | (exfalso;omega)
 ·subst hV
  have g1:=hn 1 (by omega) (by omega)
  have g2:=hn 2 (by omega) (by omega)
  have g3:=hn 3 (by omega) (by omega)
  unfold contU at g1 g2 g3
  obtain ⟨V,hV⟩:∃ V,accU l (b - 240) 3=V:=⟨_,rfl⟩
  rw [hV]
  simp only [accU_succ,accU_zero,Nat.zero_add,Nat.reduceAdd] at hV
  constructor
  ·intro h
   refine valid_none hne ?_
   rw [hb]
   generalize (l.getD 1 0).toNat=c1 at *
   generalize (l.getD 2 0).toNat=c2 at *
   generalize (l.getD 3 0).toNat=c3 at *
   unfold decodeN
   repeat' split
   all_goals first | rfl | (exfalso;omega)
  ·intro h
   refine valid_some hne (by omega) ?_
   rw [hb]
   generalize (l.getD 1 0).toNat=c1 at *
   generalize (l.getD 2 0).toNat=c2 at *
   generalize (l.getD 3 0).toNat=c3 at *
   unfold decodeN
   repeat' split
   all_goals first | rfl | (exfalso;omega)
theorem getD_drop_get (s:ByteArray) (i j:Nat) (h:i+j<s.size):(s.data.toList.drop i).getD j 0=s[i+j]:=by
 rw [getD_dropU,List.getD_eq_getElem?_getD,List.getElem?_eq_getElem (by simpa using h)]
 rfl
theorem drop_ascii (s:ByteArray) (i:Nat) (h:i<s.size) (h2:(s[i]).toNat<128):validD (s.data.toList.drop i)=validD (s.data.toList.drop (i+1)):=by
 rw [List.drop_eq_getElem_cons (by simpa using h)]
 exact validD_cons _ _ h2
end Hb
namespace Go.Proofs.YtjpnmmjgdiiahaaGreatDoor
open Go.RowKit Hb Ht
attribute [local go_sem] Oper.semAt_some
set_option maxRecDepth 100000 in
set_option maxHeartbeats 8000000 in
theorem UTF_any (s:ByteArray) (w:World) (hs:s.size≤4611686018427387904):Calls Tryz.prog 186 #[.string s] w fun e w'=>e = .returned (.bool (Lib.validD s.data.toList))∧w=w':=by
 obtain ⟨ANS,hA⟩:∃ ANS,Lib.validD s.data.toList=ANS:=⟨_,rfl⟩
 rw [hA]
 obtain ⟨N,hN⟩:∃ N,s.size=N:=⟨_,rfl⟩
 rw [hN] at hs
 have HN:=Lib.hid (And.intro hN hA)
 have hNI:(N:Int)≤4611686018427387904:=by omega
 clear hA
 go_enter Tryz.func186,Tryz.ntmps186
 go_upto_region 2 with fail
 go_loopw [3] (fun v3 wr=>w=wr∧∃ i:Nat,v3 = .int .i64 (i:Int)∧i≤N∧Hid (Lib.validD (s.data.toList.drop i)=ANS)) (fun v3 _=>((N:Int) - intOf v3).toNat)
 case atStart=>exact ⟨rfl,0,rfl,Nat.zero_le _,Lib.hid HN.out.2⟩
 case round=>
  obtain ⟨rfl,i,rfl,hi,HI⟩:=hrel
  by_cases hlt:i<N
  ·have hltI:(i:Int)<(N:Int):=by omega
   have hi0:(0:Int)≤(i:Int):=by omega
   go_upto_region 4 with fail
   have his:i<s.size:=by rw [HN.out.1];exact hlt
   have hne:s.data.toList.drop i ≠ []:=by
    intro e
    have h1:=congrArg List.length e
    simp only [List.length_drop,Array.length_toList,List.length_nil] at h1
    change s.size - i=0 at h1
    omega
   have hB0:((s.data.toList.drop i).getD 0 0).toNat=(s[i]'his).toNat:=by rw [getD_drop_get s i 0 his];rfl
   have hasc:=drop_ascii s i his
   generalize hB:(s[i]'his).toNat=B at *
   have HNE:=Lib.hid hne
   have HB:=Lib.hid hB0
   have HLT:=Lib.hid hlt
   have hB256:B<256:=by rw [←hB];exact UInt8.toNat_lt _
   have HAs:=Lib.hid hasc
   clear hne hB0 hB hasc hlt hi
   by_cases b1:B<128
   ·have b1I:(B:Int)<128:=by omega
    have HE:=Lib.hid (HAs.out b1)
    clear b1 hB256 his
    go_wp2
    refine ⟨⟨trivial,i+1,rfl,HLT.out,Lib.hid (by rw [←HI.out,HE.out])⟩,?_⟩
    have:=HLT.out
    show ((N:Int) - ((i:Int)+1)).toNat<((N:Int) - (i:Int)).toNat
    omega
   have b1I:¬(B:Int)<128:=by omega
   by_cases b2:B<192
   ·have b2I:¬(192:Int)≤(B:Int):=by omega
    have b3I:¬(224:Int)≤(B:Int):=by omega
    have b4I:¬(240:Int)≤(B:Int):=by omega
    have HE:=Lib.hid (show false=ANS from by rw [←HI.out];exact (cls_none HNE.out (by rw [HB.out];omega)).symm)
    clear b1 b2 hB256 his
    go_wp2
    go_ret
    exact ⟨by rw [←HE.out];rfl,rfl⟩
   by_cases b5:248≤B
   ·have b2I:¬(B:Int)<224:=by omega
    have b3I:¬(B:Int)<240:=by omega
    have b4I:¬(B:Int)<248:=by omega
    have b5I:(192:Int)≤(B:Int):=by omega
    have b6I:(224:Int)≤(B:Int):=by omega
    have b7I:(240:Int)≤(B:Int):=by omega
    have HE:=Lib.hid (show false=ANS from by rw [←HI.out];exact (cls_none HNE.out (by rw [HB.out];omega)).symm)
    clear b1 b2 b5 hB256 his
    go_wp2
    go_ret
    exact ⟨by rw [←HE.out];rfl,rfl⟩
   by_cases b3:B<224
   ·have b2I:(B:Int)<224:=by omega
    have b5I:(192:Int)≤(B:Int):=by omega
    obtain ⟨v0,hv0⟩:∃ v0:Nat,B - 192=v0:=⟨_,rfl⟩
    have HC:=Lib.hid (show ClsU B 1 128 v0 from .inl ⟨by omega,by omega,rfl,rfl,hv0.symm⟩)
    have hvI:(B:Int) - 192=(v0:Int):=by omega
    have hv32:v0<32:=by omega
    have HV0:=Lib.hid hv32
    have hlo:(192:Int)≤(B:Int):=by omega
    have hhi:(B:Int)<224:=by omega
    clear hv0 hv32
    go_upto_region 23 with fail
    clear hvI hlo hhi
    go_loopw [7,8] (fun v7 v8 wr2=>w=wr2∧∃ (k V:Nat),v8 = .int .i64 (k:Int)∧v7 = .int .i64 (V:Int)∧1≤k∧k≤2∧Hid (accU (s.data.toList.drop i) v0 (k - 1)=V∧contsU (s.data.toList.drop i) (k - 1))) (fun _ v8 _=>(2 - intOf v8).toNat)
    case atStart=>exact ⟨rfl,1,v0,rfl,rfl,Nat.le_refl _,by omega,Lib.hid ⟨rfl,fun j h1 h2=>by omega⟩⟩
    case round=>
     obtain ⟨rfl,k,V,rfl,rfl,hk1,hk2,HI2⟩:=hrel
     by_cases hkn:k≤1
     ·have hknI:(k:Int)≤1:=by omega
      have hk0I:(1:Int)≤(k:Int):=by omega
      have hVb:(V:Int)≤131071:=by
       have h1:=accU_lt HV0.out (k - 1) HI2.out.2
       have h2:(64:Nat) ^ (k - 1)≤64 ^ 2:=Nat.pow_le_pow_right (by decide) (by omega)
       rw [HI2.out.1] at h1
       rw [show (64:Nat) ^ 2=4096 from by decide] at h2
       omega
      have hV0I:(0:Int)≤(V:Int):=by omega
      obtain ⟨j,hj⟩:∃ j,i+k=j:=⟨_,rfl⟩
      have hjI:(i:Int)+(k:Int)=(j:Int):=by omega
      have hkL:∀ h:j<s.size,((s.data.toList.drop i).getD k 0).toNat=s[j].toNat:=by
       subst hj
       intro h
       rw [getD_drop_get s i k h]
      have HKL:=Lib.hid hkL
      have HJ:=Lib.hid hj
      clear hj hkL
      by_cases hin:j<N
      ·have hjN:(j:Int)<(N:Int):=by omega
       have hj0:(0:Int)≤(j:Int):=by omega
       have hjs:j<s.size:=by rw [HN.out.1];exact hin
       have hCl:=HKL.out hjs
       obtain ⟨C,hC⟩:∃ C,(s[j]'hjs).toNat=C:=⟨_,rfl⟩
       rw [hC] at hCl
       have HCC:=Lib.hid (And.intro hC hCl)
       have hC256:C<256:=by rw [←hC];exact UInt8.toNat_lt _
       clear hC hCl
       by_cases c1:C<128
       ·have c1I:(C:Int)<128:=by omega
        have c2I:((s[j]'hjs).toNat:Int)<128:=by rw [HCC.out.1];exact c1I
        have HE:=Lib.hid (show false=ANS from by rw [←HI.out];exact (cls_bad HNE.out HB.out HC.out ⟨hk1,hkn⟩ (fun h=>by have h1:=h.2.1;rw [HCC.out.2] at h1;omega)).symm)
        clear hkn hk1 hk2 hin hC256 c1
        go_wp2
        go_ret
        exact ⟨by rw [←HE.out];rfl,rfl⟩
       ·by_cases c2:192≤C
        ·have c1I:¬((s[j]'hjs).toNat:Int)<128:=by rw [HCC.out.1];omega
         have c2I:(192:Int)≤((s[j]'hjs).toNat:Int):=by rw [HCC.out.1];omega
         have HE:=Lib.hid (show false=ANS from by rw [←HI.out];exact (cls_bad HNE.out HB.out HC.out ⟨hk1,hkn⟩ (fun h=>by have h1:=h.2.2;rw [HCC.out.2] at h1;omega)).symm)
         clear hkn hk1 hk2 hin hC256 c1 c2
         go_wp2
         go_ret
         exact ⟨by rw [←HE.out];rfl,rfl⟩
        ·have c1I:(128:Int)≤((s[j]'hjs).toNat:Int):=by rw [HCC.out.1];omega
         have c2I:((s[j]'hjs).toNat:Int)<192:=by rw [HCC.out.1];omega
         have HE:=Lib.hid (show accU (s.data.toList.drop i) v0 (k+1 - 1)=V * 64+C - 128∧contsU (s.data.toList.drop i) (k+1 - 1) from by
          have e:k+1 - 1=(k - 1)+1:=by omega
          rw [e]
          refine ⟨?_,fun q h1 h2=>?_⟩
          ·rw [accU_succ,HI2.out.1,show k - 1+1=k by omega,HCC.out.2];omega
          ·by_cases hq:q≤k - 1
           ·exact HI2.out.2 q h1 hq
           ·have hqk:q=k:=by omega
            rw [hqk]
            refine ⟨?_,by rw [HCC.out.2];omega,by rw [HCC.out.2];omega⟩
            have hj:=HJ.out
            have hn:=HN.out.1
            simp only [List.length_drop,Array.length_toList]
            show k<s.size - i
            omega)
         have HK:=Lib.hid (And.intro hkn (And.intro (show 128≤C by omega) (show C<192 by omega)))
         clear hkn hk1 hk2 hin hC256 c1 c2
         go_wp2
         refine ⟨⟨trivial,k+1,V * 64+C - 128,rfl,?_,by omega,by have:=HK.out.1;omega,HE⟩,?_⟩
         ·have h1:=HK.out.2
          rw [HCC.out.1]
          congr 1
          omega
         ·have:=HK.out.1
          show (2 - ((k:Int)+1)).toNat<(2 - (k:Int)).toNat
          omega
      ·have hjN:(N:Int)≤(j:Int):=by omega
       have HE:=Lib.hid (show false=ANS from by
        rw [←HI.out]
        refine (cls_bad HNE.out HB.out HC.out ⟨hk1,hkn⟩ (fun h=>?_)).symm
        have h1:=h.1
        have hj:=HJ.out
        have hn:=HN.out.1
        simp only [List.length_drop,Array.length_toList] at h1
        change k<s.size - i at h1
        omega)
       clear hkn hk1 hk2 hin
       go_wp2
       go_ret
       exact ⟨by rw [←HE.out];rfl,rfl⟩
     ·have hk:k=2:=by omega
      subst hk
      have hV:accU (s.data.toList.drop i) v0 1=V:=HI2.out.1
      have hVb:V≤8388607:=by
       have h1:=accU_lt HV0.out 1 HI2.out.2
       rw [hV] at h1
       have h2:32 * (64:Nat) ^ 1≤8388608:=by decide
       omega
      obtain ⟨HGb,HGg⟩:=cls_end HNE.out HB.out HC.out HI2.out.2 hV
      have hV0I:(0:Int)≤(V:Int):=by omega
      have hVI:(V:Int)≤8388607:=by omega
      have HI2c:=Lib.hid (HI2.out.2)
      have HGb:=Lib.hid HGb
      have HGg:=Lib.hid HGg
      clear hkn hk1 hk2 hV hVb HI2
      by_cases d1:V<128
      ·have d1I:(V:Int)<128:=by omega
       have HE:=Lib.hid (show false=ANS from by rw [←HI.out];exact (HGb.out (.inl d1)).symm)
       clear d1
       go_wp2
       go_ret
       exact ⟨by rw [←HE.out];rfl,rfl⟩
      by_cases d2:1114111<V
      ·have d1I:¬(V:Int)<128:=by omega
       have d2I:(1114111:Int)<(V:Int):=by omega
       have HE:=Lib.hid (show false=ANS from by rw [←HI.out];exact (HGb.out (.inr (.inl d2))).symm)
       clear d1 d2
       go_wp2
       go_ret
       exact ⟨by rw [←HE.out];rfl,rfl⟩
      by_cases d3:55296≤V
      ·by_cases d4:V<57344
       ·have d1I:¬(V:Int)<128:=by omega
        have d2I:¬(1114111:Int)<(V:Int):=by omega
        have d3I:(55296:Int)≤(V:Int):=by omega
        have d4I:(V:Int)<57344:=by omega
        have HE:=Lib.hid (show false=ANS from by rw [←HI.out];exact (HGb.out (.inr (.inr ⟨d3,d4⟩))).symm)
        clear d1 d2 d3 d4
        go_wp2
        go_ret
        exact ⟨by rw [←HE.out];rfl,rfl⟩
       ·have d1I:¬(V:Int)<128:=by omega
        have d2I:¬(1114111:Int)<(V:Int):=by omega
        have d3I:(55296:Int)≤(V:Int):=by omega
        have d4I:¬(V:Int)<57344:=by omega
        have HE:=Lib.hid (HGg.out (by omega))
        clear d1 d2 d3 d4
        have HLn:=Lib.hid (show i+2≤N from by
         have h1:=(HI2c.out 1 (by omega) (Nat.le_refl _)).1
         have hn:=HN.out.1
         simp only [List.length_drop,Array.length_toList] at h1
         change 1<s.size - i at h1
         omega)
        have hLn:(i:Int)+1+1≤(N:Int):=by have:=HLn.out;omega
        go_wp2
        refine ⟨⟨trivial,i+2,?_,HLn.out,Lib.hid (by rw [←HI.out,HE.out,List.drop_drop])⟩,?_⟩
        ·congr 1
        ·show ((N:Int) - ((i:Int)+1+1)).toNat<((N:Int) - (i:Int)).toNat
         have:=HLn.out
         omega
      ·have d1I:¬(V:Int)<128:=by omega
       have d2I:¬(1114111:Int)<(V:Int):=by omega
       have d3I:¬(55296:Int)≤(V:Int):=by omega
       have HE:=Lib.hid (HGg.out (by omega))
       clear d1 d2 d3
       have HLn:=Lib.hid (show i+2≤N from by
        have h1:=(HI2c.out 1 (by omega) (Nat.le_refl _)).1
        have hn:=HN.out.1
        simp only [List.length_drop,Array.length_toList] at h1
        change 1<s.size - i at h1
        omega)
       have hLn:(i:Int)+1+1≤(N:Int):=by have:=HLn.out;omega
       go_wp2
       refine ⟨⟨trivial,i+2,?_,HLn.out,Lib.hid (by rw [←HI.out,HE.out,List.drop_drop])⟩,?_⟩
       ·congr 1
       ·show ((N:Int) - ((i:Int)+1+1)).toNat<((N:Int) - (i:Int)).toNat
        have:=HLn.out
        omega
   by_cases b4:B<240
   ·have b2I:¬(B:Int)<224:=by omega
    have b5I:(192:Int)≤(B:Int):=by omega
    have b6I:(224:Int)≤(B:Int):=by omega
    have b7I:(B:Int)<240:=by omega
    obtain ⟨v0,hv0⟩:∃ v0:Nat,B - 224=v0:=⟨_,rfl⟩
    have HC:=Lib.hid (show ClsU B 2 2048 v0 from .inr (.inl ⟨by omega,by omega,rfl,rfl,hv0.symm⟩))
    have hvI:(B:Int) - 224=(v0:Int):=by omega
    have hv32:v0<32:=by omega
    have HV0:=Lib.hid hv32
    have hlo:(224:Int)≤(B:Int):=by omega
    have hhi:(B:Int)<240:=by omega
    clear hv0 hv32
    go_upto_region 23 with fail
    clear hvI hlo hhi
    go_loopw [7,8] (fun v7 v8 wr2=>w=wr2∧∃ (k V:Nat),v8 = .int .i64 (k:Int)∧v7 = .int .i64 (V:Int)∧1≤k∧k≤3∧Hid (accU (s.data.toList.drop i) v0 (k - 1)=V∧contsU (s.data.toList.drop i) (k - 1))) (fun _ v8 _=>(3 - intOf v8).toNat)
    case atStart=>exact ⟨rfl,1,v0,rfl,rfl,Nat.le_refl _,by omega,Lib.hid ⟨rfl,fun j h1 h2=>by omega⟩⟩
    case round=>
     obtain ⟨rfl,k,V,rfl,rfl,hk1,hk2,HI2⟩:=hrel
     by_cases hkn:k≤2
     ·have hknI:(k:Int)≤2:=by omega
      have hk0I:(1:Int)≤(k:Int):=by omega
      have hVb:(V:Int)≤131071:=by
       have h1:=accU_lt HV0.out (k - 1) HI2.out.2
       have h2:(64:Nat) ^ (k - 1)≤64 ^ 2:=Nat.pow_le_pow_right (by decide) (by omega)
       rw [HI2.out.1] at h1
       rw [show (64:Nat) ^ 2=4096 from by decide] at h2
       omega
      have hV0I:(0:Int)≤(V:Int):=by omega
      obtain ⟨j,hj⟩:∃ j,i+k=j:=⟨_,rfl⟩
      have hjI:(i:Int)+(k:Int)=(j:Int):=by omega
      have hkL:∀ h:j<s.size,((s.data.toList.drop i).getD k 0).toNat=s[j].toNat:=by
       subst hj
       intro h
       rw [getD_drop_get s i k h]
      have HKL:=Lib.hid hkL
      have HJ:=Lib.hid hj
      clear hj hkL
      by_cases hin:j<N
      ·have hjN:(j:Int)<(N:Int):=by omega
       have hj0:(0:Int)≤(j:Int):=by omega
       have hjs:j<s.size:=by rw [HN.out.1];exact hin
       have hCl:=HKL.out hjs
       obtain ⟨C,hC⟩:∃ C,(s[j]'hjs).toNat=C:=⟨_,rfl⟩
       rw [hC] at hCl
       have HCC:=Lib.hid (And.intro hC hCl)
       have hC256:C<256:=by rw [←hC];exact UInt8.toNat_lt _
       clear hC hCl
       by_cases c1:C<128
       ·have c1I:(C:Int)<128:=by omega
        have c2I:((s[j]'hjs).toNat:Int)<128:=by rw [HCC.out.1];exact c1I
        have HE:=Lib.hid (show false=ANS from by rw [←HI.out];exact (cls_bad HNE.out HB.out HC.out ⟨hk1,hkn⟩ (fun h=>by have h1:=h.2.1;rw [HCC.out.2] at h1;omega)).symm)
        clear hkn hk1 hk2 hin hC256 c1
        go_wp2
        go_ret
        exact ⟨by rw [←HE.out];rfl,rfl⟩
       ·by_cases c2:192≤C
        ·have c1I:¬((s[j]'hjs).toNat:Int)<128:=by rw [HCC.out.1];omega
         have c2I:(192:Int)≤((s[j]'hjs).toNat:Int):=by rw [HCC.out.1];omega
         have HE:=Lib.hid (show false=ANS from by rw [←HI.out];exact (cls_bad HNE.out HB.out HC.out ⟨hk1,hkn⟩ (fun h=>by have h1:=h.2.2;rw [HCC.out.2] at h1;omega)).symm)
         clear hkn hk1 hk2 hin hC256 c1 c2
         go_wp2
         go_ret
         exact ⟨by rw [←HE.out];rfl,rfl⟩
        ·have c1I:(128:Int)≤((s[j]'hjs).toNat:Int):=by rw [HCC.out.1];omega
         have c2I:((s[j]'hjs).toNat:Int)<192:=by rw [HCC.out.1];omega
         have HE:=Lib.hid (show accU (s.data.toList.drop i) v0 (k+1 - 1)=V * 64+C - 128∧contsU (s.data.toList.drop i) (k+1 - 1) from by
          have e:k+1 - 1=(k - 1)+1:=by omega
          rw [e]
          refine ⟨?_,fun q h1 h2=>?_⟩
          ·rw [accU_succ,HI2.out.1,show k - 1+1=k by omega,HCC.out.2];omega
          ·by_cases hq:q≤k - 1
           ·exact HI2.out.2 q h1 hq
           ·have hqk:q=k:=by omega
            rw [hqk]
            refine ⟨?_,by rw [HCC.out.2];omega,by rw [HCC.out.2];omega⟩
            have hj:=HJ.out
            have hn:=HN.out.1
            simp only [List.length_drop,Array.length_toList]
            show k<s.size - i
            omega)
         have HK:=Lib.hid (And.intro hkn (And.intro (show 128≤C by omega) (show C<192 by omega)))
         clear hkn hk1 hk2 hin hC256 c1 c2
         go_wp2
         refine ⟨⟨trivial,k+1,V * 64+C - 128,rfl,?_,by omega,by have:=HK.out.1;omega,HE⟩,?_⟩
         ·have h1:=HK.out.2
          rw [HCC.out.1]
          congr 1
          omega
         ·have:=HK.out.1
          show (3 - ((k:Int)+1)).toNat<(3 - (k:Int)).toNat
          omega
      ·have hjN:(N:Int)≤(j:Int):=by omega
       have HE:=Lib.hid (show false=ANS from by
        rw [←HI.out]
        refine (cls_bad HNE.out HB.out HC.out ⟨hk1,hkn⟩ (fun h=>?_)).symm
        have h1:=h.1
        have hj:=HJ.out
        have hn:=HN.out.1
        simp only [List.length_drop,Array.length_toList] at h1
        change k<s.size - i at h1
        omega)
       clear hkn hk1 hk2 hin
       go_wp2
       go_ret
       exact ⟨by rw [←HE.out];rfl,rfl⟩
     ·have hk:k=3:=by omega
      subst hk
      have hV:accU (s.data.toList.drop i) v0 2=V:=HI2.out.1
      have hVb:V≤8388607:=by
       have h1:=accU_lt HV0.out 2 HI2.out.2
       rw [hV] at h1
       have h2:32 * (64:Nat) ^ 2≤8388608:=by decide
       omega
      obtain ⟨HGb,HGg⟩:=cls_end HNE.out HB.out HC.out HI2.out.2 hV
      have hV0I:(0:Int)≤(V:Int):=by omega
      have hVI:(V:Int)≤8388607:=by omega
      have HI2c:=Lib.hid (HI2.out.2)
      have HGb:=Lib.hid HGb
      have HGg:=Lib.hid HGg
      clear hkn hk1 hk2 hV hVb HI2
      by_cases d1:V<2048
      ·have d1I:(V:Int)<2048:=by omega
       have HE:=Lib.hid (show false=ANS from by rw [←HI.out];exact (HGb.out (.inl d1)).symm)
       clear d1
       go_wp2
       go_ret
       exact ⟨by rw [←HE.out];rfl,rfl⟩
      by_cases d2:1114111<V
      ·have d1I:¬(V:Int)<2048:=by omega
       have d2I:(1114111:Int)<(V:Int):=by omega
       have HE:=Lib.hid (show false=ANS from by rw [←HI.out];exact (HGb.out (.inr (.inl d2))).symm)
       clear d1 d2
       go_wp2
       go_ret
       exact ⟨by rw [←HE.out];rfl,rfl⟩
      by_cases d3:55296≤V
      ·by_cases d4:V<57344
       ·have d1I:¬(V:Int)<2048:=by omega
        have d2I:¬(1114111:Int)<(V:Int):=by omega
        have d3I:(55296:Int)≤(V:Int):=by omega
        have d4I:(V:Int)<57344:=by omega
        have HE:=Lib.hid (show false=ANS from by rw [←HI.out];exact (HGb.out (.inr (.inr ⟨d3,d4⟩))).symm)
        clear d1 d2 d3 d4
        go_wp2
        go_ret
        exact ⟨by rw [←HE.out];rfl,rfl⟩
       ·have d1I:¬(V:Int)<2048:=by omega
        have d2I:¬(1114111:Int)<(V:Int):=by omega
        have d3I:(55296:Int)≤(V:Int):=by omega
        have d4I:¬(V:Int)<57344:=by omega
        have HE:=Lib.hid (HGg.out (by omega))
        clear d1 d2 d3 d4
        have HLn:=Lib.hid (show i+3≤N from by
         have h1:=(HI2c.out 2 (by omega) (Nat.le_refl _)).1
         have hn:=HN.out.1
         simp only [List.length_drop,Array.length_toList] at h1
         change 2<s.size - i at h1
         omega)
        have hLn:(i:Int)+2+1≤(N:Int):=by have:=HLn.out;omega
        go_wp2
        refine ⟨⟨trivial,i+3,?_,HLn.out,Lib.hid (by rw [←HI.out,HE.out,List.drop_drop])⟩,?_⟩
        ·congr 1
        ·show ((N:Int) - ((i:Int)+2+1)).toNat<((N:Int) - (i:Int)).toNat
         have:=HLn.out
         omega
      ·have d1I:¬(V:Int)<2048:=by omega
       have d2I:¬(1114111:Int)<(V:Int):=by omega
       have d3I:¬(55296:Int)≤(V:Int):=by omega
       have HE:=Lib.hid (HGg.out (by omega))
       clear d1 d2 d3
       have HLn:=Lib.hid (show i+3≤N from by
        have h1:=(HI2c.out 2 (by omega) (Nat.le_refl _)).1
        have hn:=HN.out.1
        simp only [List.length_drop,Array.length_toList] at h1
        change 2<s.size - i at h1
        omega)
       have hLn:(i:Int)+2+1≤(N:Int):=by have:=HLn.out;omega
       go_wp2
       refine ⟨⟨trivial,i+3,?_,HLn.out,Lib.hid (by rw [←HI.out,HE.out,List.drop_drop])⟩,?_⟩
       ·congr 1
       ·show ((N:Int) - ((i:Int)+2+1)).toNat<((N:Int) - (i:Int)).toNat
        have:=HLn.out
        omega
   ·have b2I:¬(B:Int)<224:=by omega
    have b5I:(192:Int)≤(B:Int):=by omega
    have b6I:¬(B:Int)<240:=by omega
    have b7I:(240:Int)≤(B:Int):=by omega
    have b8I:(B:Int)<248:=by omega
    have b9I:(224:Int)≤(B:Int):=by omega
    obtain ⟨v0,hv0⟩:∃ v0:Nat,B - 240=v0:=⟨_,rfl⟩
    have HC:=Lib.hid (show ClsU B 3 65536 v0 from .inr (.inr ⟨by omega,by omega,rfl,rfl,hv0.symm⟩))
    have hvI:(B:Int) - 240=(v0:Int):=by omega
    have hv32:v0<32:=by omega
    have HV0:=Lib.hid hv32
    have hlo:(240:Int)≤(B:Int):=by omega
    have hhi:(B:Int)<248:=by omega
    clear hv0 hv32
    go_upto_region 23 with fail
    clear hvI hlo hhi
    go_loopw [7,8] (fun v7 v8 wr2=>w=wr2∧∃ (k V:Nat),v8 = .int .i64 (k:Int)∧v7 = .int .i64 (V:Int)∧1≤k∧k≤4∧Hid (accU (s.data.toList.drop i) v0 (k - 1)=V∧contsU (s.data.toList.drop i) (k - 1))) (fun _ v8 _=>(4 - intOf v8).toNat)
    case atStart=>exact ⟨rfl,1,v0,rfl,rfl,Nat.le_refl _,by omega,Lib.hid ⟨rfl,fun j h1 h2=>by omega⟩⟩
    case round=>
     obtain ⟨rfl,k,V,rfl,rfl,hk1,hk2,HI2⟩:=hrel
     by_cases hkn:k≤3
     ·have hknI:(k:Int)≤3:=by omega
      have hk0I:(1:Int)≤(k:Int):=by omega
      have hVb:(V:Int)≤131071:=by
       have h1:=accU_lt HV0.out (k - 1) HI2.out.2
       have h2:(64:Nat) ^ (k - 1)≤64 ^ 2:=Nat.pow_le_pow_right (by decide) (by omega)
       rw [HI2.out.1] at h1
       rw [show (64:Nat) ^ 2=4096 from by decide] at h2
       omega
      have hV0I:(0:Int)≤(V:Int):=by omega
      obtain ⟨j,hj⟩:∃ j,i+k=j:=⟨_,rfl⟩
      have hjI:(i:Int)+(k:Int)=(j:Int):=by omega
      have hkL:∀ h:j<s.size,((s.data.toList.drop i).getD k 0).toNat=s[j].toNat:=by
       subst hj
       intro h
       rw [getD_drop_get s i k h]
      have HKL:=Lib.hid hkL
      have HJ:=Lib.hid hj
      clear hj hkL
      by_cases hin:j<N
      ·have hjN:(j:Int)<(N:Int):=by omega
       have hj0:(0:Int)≤(j:Int):=by omega
       have hjs:j<s.size:=by rw [HN.out.1];exact hin
       have hCl:=HKL.out hjs
       obtain ⟨C,hC⟩:∃ C,(s[j]'hjs).toNat=C:=⟨_,rfl⟩
       rw [hC] at hCl
       have HCC:=Lib.hid (And.intro hC hCl)
       have hC256:C<256:=by rw [←hC];exact UInt8.toNat_lt _
       clear hC hCl
       by_cases c1:C<128
       ·have c1I:(C:Int)<128:=by omega
        have c2I:((s[j]'hjs).toNat:Int)<128:=by rw [HCC.out.1];exact c1I
        have HE:=Lib.hid (show false=ANS from by rw [←HI.out];exact (cls_bad HNE.out HB.out HC.out ⟨hk1,hkn⟩ (fun h=>by have h1:=h.2.1;rw [HCC.out.2] at h1;omega)).symm)
        clear hkn hk1 hk2 hin hC256 c1
        go_wp2
        go_ret
        exact ⟨by rw [←HE.out];rfl,rfl⟩
       ·by_cases c2:192≤C
        ·have c1I:¬((s[j]'hjs).toNat:Int)<128:=by rw [HCC.out.1];omega
         have c2I:(192:Int)≤((s[j]'hjs).toNat:Int):=by rw [HCC.out.1];omega
         have HE:=Lib.hid (show false=ANS from by rw [←HI.out];exact (cls_bad HNE.out HB.out HC.out ⟨hk1,hkn⟩ (fun h=>by have h1:=h.2.2;rw [HCC.out.2] at h1;omega)).symm)
         clear hkn hk1 hk2 hin hC256 c1 c2
         go_wp2
         go_ret
         exact ⟨by rw [←HE.out];rfl,rfl⟩
        ·have c1I:(128:Int)≤((s[j]'hjs).toNat:Int):=by rw [HCC.out.1];omega
         have c2I:((s[j]'hjs).toNat:Int)<192:=by rw [HCC.out.1];omega
         have HE:=Lib.hid (show accU (s.data.toList.drop i) v0 (k+1 - 1)=V * 64+C - 128∧contsU (s.data.toList.drop i) (k+1 - 1) from by
          have e:k+1 - 1=(k - 1)+1:=by omega
          rw [e]
          refine ⟨?_,fun q h1 h2=>?_⟩
          ·rw [accU_succ,HI2.out.1,show k - 1+1=k by omega,HCC.out.2];omega
          ·by_cases hq:q≤k - 1
           ·exact HI2.out.2 q h1 hq
           ·have hqk:q=k:=by omega
            rw [hqk]
            refine ⟨?_,by rw [HCC.out.2];omega,by rw [HCC.out.2];omega⟩
            have hj:=HJ.out
            have hn:=HN.out.1
            simp only [List.length_drop,Array.length_toList]
            show k<s.size - i
            omega)
         have HK:=Lib.hid (And.intro hkn (And.intro (show 128≤C by omega) (show C<192 by omega)))
         clear hkn hk1 hk2 hin hC256 c1 c2
         go_wp2
         refine ⟨⟨trivial,k+1,V * 64+C - 128,rfl,?_,by omega,by have:=HK.out.1;omega,HE⟩,?_⟩
         ·have h1:=HK.out.2
          rw [HCC.out.1]
          congr 1
          omega
         ·have:=HK.out.1
          show (4 - ((k:Int)+1)).toNat<(4 - (k:Int)).toNat
          omega
      ·have hjN:(N:Int)≤(j:Int):=by omega
       have HE:=Lib.hid (show false=ANS from by
        rw [←HI.out]
        refine (cls_bad HNE.out HB.out HC.out ⟨hk1,hkn⟩ (fun h=>?_)).symm
        have h1:=h.1
        have hj:=HJ.out
        have hn:=HN.out.1
        simp only [List.length_drop,Array.length_toList] at h1
        change k<s.size - i at h1
        omega)
       clear hkn hk1 hk2 hin
       go_wp2
       go_ret
       exact ⟨by rw [←HE.out];rfl,rfl⟩
     ·have hk:k=4:=by omega
      subst hk
      have hV:accU (s.data.toList.drop i) v0 3=V:=HI2.out.1
      have hVb:V≤8388607:=by
       have h1:=accU_lt HV0.out 3 HI2.out.2
       rw [hV] at h1
       have h2:32 * (64:Nat) ^ 3≤8388608:=by decide
       omega
      obtain ⟨HGb,HGg⟩:=cls_end HNE.out HB.out HC.out HI2.out.2 hV
      have hV0I:(0:Int)≤(V:Int):=by omega
      have hVI:(V:Int)≤8388607:=by omega
      have HI2c:=Lib.hid (HI2.out.2)
      have HGb:=Lib.hid HGb
      have HGg:=Lib.hid HGg
      clear hkn hk1 hk2 hV hVb HI2
      by_cases d1:V<65536
      ·have d1I:(V:Int)<65536:=by omega
       have HE:=Lib.hid (show false=ANS from by rw [←HI.out];exact (HGb.out (.inl d1)).symm)
       clear d1
       go_wp2
       go_ret
       exact ⟨by rw [←HE.out];rfl,rfl⟩
      by_cases d2:1114111<V
      ·have d1I:¬(V:Int)<65536:=by omega
       have d2I:(1114111:Int)<(V:Int):=by omega
       have HE:=Lib.hid (show false=ANS from by rw [←HI.out];exact (HGb.out (.inr (.inl d2))).symm)
       clear d1 d2
       go_wp2
       go_ret
       exact ⟨by rw [←HE.out];rfl,rfl⟩
      by_cases d3:55296≤V
      ·by_cases d4:V<57344
       ·have d1I:¬(V:Int)<65536:=by omega
        have d2I:¬(1114111:Int)<(V:Int):=by omega
        have d3I:(55296:Int)≤(V:Int):=by omega
        have d4I:(V:Int)<57344:=by omega
        have HE:=Lib.hid (show false=ANS from by rw [←HI.out];exact (HGb.out (.inr (.inr ⟨d3,d4⟩))).symm)
        clear d1 d2 d3 d4
        go_wp2
        go_ret
        exact ⟨by rw [←HE.out];rfl,rfl⟩
       ·have d1I:¬(V:Int)<65536:=by omega
        have d2I:¬(1114111:Int)<(V:Int):=by omega
        have d3I:(55296:Int)≤(V:Int):=by omega
        have d4I:¬(V:Int)<57344:=by omega
        have HE:=Lib.hid (HGg.out (by omega))
        clear d1 d2 d3 d4
        have HLn:=Lib.hid (show i+4≤N from by
         have h1:=(HI2c.out 3 (by omega) (Nat.le_refl _)).1
         have hn:=HN.out.1
         simp only [List.length_drop,Array.length_toList] at h1
         change 3<s.size - i at h1
         omega)
        have hLn:(i:Int)+3+1≤(N:Int):=by have:=HLn.out;omega
        go_wp2
        refine ⟨⟨trivial,i+4,?_,HLn.out,Lib.hid (by rw [←HI.out,HE.out,List.drop_drop])⟩,?_⟩
        ·congr 1
        ·show ((N:Int) - ((i:Int)+3+1)).toNat<((N:Int) - (i:Int)).toNat
         have:=HLn.out
         omega
      ·have d1I:¬(V:Int)<65536:=by omega
       have d2I:¬(1114111:Int)<(V:Int):=by omega
       have d3I:¬(55296:Int)≤(V:Int):=by omega
       have HE:=Lib.hid (HGg.out (by omega))
       clear d1 d2 d3
       have HLn:=Lib.hid (show i+4≤N from by
        have h1:=(HI2c.out 3 (by omega) (Nat.le_refl _)).1
        have hn:=HN.out.1
        simp only [List.length_drop,Array.length_toList] at h1
        change 3<s.size - i at h1
        omega)
       have hLn:(i:Int)+3+1≤(N:Int):=by have:=HLn.out;omega
       go_wp2
       refine ⟨⟨trivial,i+4,?_,HLn.out,Lib.hid (by rw [←HI.out,HE.out,List.drop_drop])⟩,?_⟩
       ·congr 1
       ·show ((N:Int) - ((i:Int)+3+1)).toNat<((N:Int) - (i:Int)).toNat
        have:=HLn.out
        omega
  ·have ei:i=N:=by omega
   have HE:=Lib.hid (show true=ANS from by
    rw [←HI.out,List.drop_of_length_le (by rw [Array.length_toList,ei,←HN.out.1];exact Nat.le_refl _)]
    rfl)
   subst ei
   clear hlt hi
   go_wp2
   go_ret
   exact ⟨by rw [←HE.out];rfl,rfl⟩
end Go.Proofs.YtjpnmmjgdiiahaaGreatDoor
