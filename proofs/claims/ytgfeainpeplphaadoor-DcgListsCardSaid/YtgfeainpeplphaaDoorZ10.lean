import Derived.Lib.ValidLaws
import Derived.Lib.TrimUEq
import Derived.Below
import Derived.Test.YtgfeainpeplphaaDoorZ2
import Derived.Test.YtgfeainpeplphaaDoorZ4
import Derived.Test.YtgfeainpeplphaaDoorZ9
set_option linter.unusedVariables false
set_option linter.unusedSimpArgs false
namespace Hb
open Go Go.Lib
def accU (l:List UInt8) (v0 k:Nat):Nat:=(List.range k).foldl (fun a j=>a * 64+((l.getD (j+1) 0).toNat - 128)) v0
theorem accU_zero (l:List UInt8) (v0:Nat):accU l v0 0=v0:=rfl
theorem accU_succ (l:List UInt8) (v0 k:Nat):accU l v0 (k+1)=accU l v0 k * 64+((l.getD (k+1) 0).toNat - 128):=by
 unfold accU
 rw [List.range_succ,List.foldl_append]
 rfl
def contU (l:List UInt8) (j:Nat):Prop:=j<l.length∧128≤(l.getD j 0).toNat∧(l.getD j 0).toNat<192
def contsU (l:List UInt8) (k:Nat):Prop:=∀ j,1≤j→j≤k→contU l j
def ClsU (b n least v0:Nat):Prop:=(192≤b∧b<224∧n=1∧least=128∧v0=b - 192)∨(224≤b∧b<240∧n=2∧least=2048∧v0=b - 224)∨(240≤b∧b<248∧n=3∧least=65536∧v0=b - 240)
theorem accU_lt {l:List UInt8} {v0:Nat} (h0:v0<32):∀ k,contsU l k→accU l v0 k<32 * 64 ^ k
 | 0,_=>by rw [accU_zero];omega
 | k+1,h=>by
  have h1:=accU_lt h0 k (fun j hj hk=>h j hj (by omega))
  have h2:=(h (k+1) (by omega) (Nat.le_refl _)).2.2
  have h3:(64:Nat) ^ (k+1)=64 ^ k * 64:=Nat.pow_succ ..
  rw [accU_succ,h3]
  omega
theorem valid_none {l:List UInt8} (hne:l ≠ []) (h:decodeN l.length (l.getD 0 0).toNat (l.getD 1 0).toNat (l.getD 2 0).toNat (l.getD 3 0).toNat=(65533,1)):validD l=false:=by
 rw [validD_step l hne,decodeL_N,h]
 simp
theorem valid_some {l:List UInt8} (hne:l ≠ []) {k:Nat} (hk:2≤k) (h:(decodeN l.length (l.getD 0 0).toNat (l.getD 1 0).toNat (l.getD 2 0).toNat (l.getD 3 0).toNat).2=k):validD l=validD (l.drop k):=by
 rw [validD_step l hne,decodeL_N,h,if_neg (by omega)]
theorem cls_none {l:List UInt8} (hne:l ≠ []) (h:(128≤(l.getD 0 0).toNat∧(l.getD 0 0).toNat<192)∨248≤(l.getD 0 0).toNat):validD l=false:=by
 refine valid_none hne (decodeN_bad _ _ _ _ _ ?_)
 have:=(l.getD 0 0).toNat_lt
 omega
set_option maxRecDepth 100000 in
set_option maxHeartbeats 4000000 in
theorem cls_bad {l:List UInt8} (hne:l ≠ []) {b n least v0 k:Nat} (hb:(l.getD 0 0).toNat=b) (hc:ClsU b n least v0) (hk:1≤k∧k≤n) (hn:¬contU l k):validD l=false:=by
 refine valid_none hne ?_
 rw [hb]
 have h1:=(l.getD 1 0).toNat_lt
 have h2:=(l.getD 2 0).toNat_lt
 have h3:=(l.getD 3 0).toNat_lt
 unfold contU at hn
 have hk3:k=1∨k=2∨k=3:=by unfold ClsU at hc;omega
 generalize l.length=N at *
 rcases hk3 with rfl | rfl | rfl
 all_goals
  generalize (l.getD 1 0).toNat=c1 at *
  generalize (l.getD 2 0).toNat=c2 at *
  generalize (l.getD 3 0).toNat=c3 at *
  unfold ClsU at hc
  unfold decodeN
  rcases hc with ⟨a1,a2,a3,a4,a5⟩ | ⟨a1,a2,a3,a4,a5⟩ | ⟨a1,a2,a3,a4,a5⟩
  all_goals
   repeat' split
   all_goals first | rfl | (exfalso;omega)
set_option maxRecDepth 100000 in
set_option maxHeartbeats 4000000 in
theorem cls_end {l:List UInt8} (hne:l ≠ []) {b n least v0 V:Nat} (hb:(l.getD 0 0).toNat=b) (hc:ClsU b n least v0) (hn:contsU l n) (hV:accU l v0 n=V) :
  ((V<least∨1114111<V∨(55296≤V∧V<57344))→validD l=false)∧(¬(V<least∨1114111<V∨(55296≤V∧V<57344))→validD l=validD (l.drop (n+1))):=by
 rcases hc with ⟨a1,a2,rfl,rfl,rfl⟩ | ⟨a1,a2,rfl,rfl,rfl⟩ | ⟨a1,a2,rfl,rfl,rfl⟩
 ·subst hV
  have g1:=hn 1 (by omega) (by omega)
  unfold contU at g1
  obtain ⟨V,hV⟩:∃ V,accU l (b - 192) 1=V:=⟨_,rfl⟩
  rw [hV]
  simp only [accU_succ,accU_zero,Nat.zero_add,Nat.reduceAdd] at hV
  constructor
  ·intro h
   refine valid_none hne ?_
   rw [hb]
   generalize (l.getD 1 0).toNat=c1 at *
   generalize (l.getD 2 0).toNat=c2 at *
   generalize (l.getD 3 0).toNat=c3 at *
   unfold decodeN
   repeat' split
   all_goals first | rfl | (exfalso;omega)
  ·intro h
   refine valid_some hne (by omega) ?_
   rw [hb]
   generalize (l.getD 1 0).toNat=c1 at *
   generalize (l.getD 2 0).toNat=c2 at *
   generalize (l.getD 3 0).toNat=c3 at *
   unfold decodeN
   repeat' split
   all_goals first | rfl | (exfalso;omega)
 ·subst hV
  have g1:=hn 1 (by omega) (by omega)
  have g2:=hn 2 (by omega) (by omega)
  unfold contU at g1 g2
  obtain ⟨V,hV⟩:∃ V,accU l (b - 224) 2=V:=⟨_,rfl⟩
  rw [hV]
  simp only [accU_succ,accU_zero,Nat.zero_add,Nat.reduceAdd] at hV
  constructor
  ·intro h
   refine valid_none hne ?_
   rw [hb]
   generalize (l.getD 1 0).toNat=c1 at *
   generalize (l.getD 2 0).toNat=c2 at *
   generalize (l.getD 3 0).toNat=c3 at *
   unfold decodeN
   repeat' split
   all_goals first | rfl | (exfalso;omega)
  ·intro h
   refine valid_some hne (by omega) ?_
   rw [hb]
   generalize (l.getD 1 0).toNat=c1 at *
   generalize (l.getD 2 0).toNat=c2 at *
   generalize (l.getD 3 0).toNat=c3 at *
   unfold decodeN
   repeat' split
   all_goals first | rfl | (exfalso;omega)
 ·subst hV
  have g1:=hn 1 (by omega) (by omega)
  have g2:=hn 2 (by omega) (by omega)
  have g3:=hn 3 (by omega) (by omega)
  unfold contU at g1 g2 g3
  obtain ⟨V,hV⟩:∃ V,accU l (b - 240) 3=V:=⟨_,rfl⟩
  rw [hV]
  simp only [accU_succ,accU_zero,Nat.zero_add,Nat.reduceAdd] at hV
  constructor
  ·intro h
   refine valid_none hne ?_
   rw [hb]
   generalize (l.getD 1 0).toNat=c1 at *
   generalize (l.getD 2 0).toNat=c2 at *
   generalize (l.getD 3 0).toNat=c3 at *
   unfold decodeN
   repeat' split
   all_goals first | rfl | (exfalso;omega)
  ·intro h
   refine valid_some hne (by omega) ?_
   rw [hb]
   generalize (l.getD 1 0).toNat=c1 at *
   generalize (l.getD 2 0).toNat=c2 at *
   generalize (l.getD 3 0).toNat=c3 at *
   unfold decodeN
   repeat' split
   all_goals first | rfl | (exfalso;omega)
theorem getD_drop_get (s:ByteArray) (i j:Nat) (h:i+j<s.size):(s.data.toList.drop i).getD j 0=s[i+j]:=by
 rw [getD_dropU,List.getD_eq_getElem?_getD,List.getElem?_eq_getElem (by simpa using h)]
 rfl
theorem drop_ascii (s:ByteArray) (i:Nat) (h:i<s.size) (h2:(s[i]).toNat<128):validD (s.data.toList.drop i)=validD (s.data.toList.drop (i+1)):=by
 rw [List.drop_eq_getElem_cons (by simpa using h)]
 exact validD_cons _ _ h2
end Hb
namespace Go.Proofs.YtgfeainpeplphaaDoor
open Go.RowKit Hb Ht
set_option linter.unusedVariables false
set_option linter.unusedSimpArgs false
attribute [local go_sem] Oper.semAt_some
set_option maxRecDepth 100000 in
set_option maxHeartbeats 8000000 in
theorem UTF_any (s:ByteArray) (w:World) (hs:s.size≤4611686018427387904):Calls Tryd.prog 74 #[.string s] w fun e w'=>e = .returned (.bool (Lib.validD s.data.toList))∧w=w':=by
 obtain ⟨ANS,hA⟩:∃ ANS,Lib.validD s.data.toList=ANS:=⟨_,rfl⟩
 rw [hA]
 obtain ⟨N,hN⟩:∃ N,s.size=N:=⟨_,rfl⟩
 rw [hN] at hs
 have HN:=Lib.hid (And.intro hN hA)
 have hNI:(N:Int)≤4611686018427387904:=by omega
 clear hA
 go_enter Tryd.func74,Tryd.ntmps74
 go_upto_region 2 with fail
 go_loopw [3] (fun v3 wr=>w=wr∧∃ i:Nat,v3 = .int .i64 (i:Int)∧i≤N∧Hid (Lib.validD (s.data.toList.drop i)=ANS)) (fun v3 _=>((N:Int) - intOf v3).toNat)
 case atStart=>exact ⟨rfl,0,rfl,Nat.zero_le _,Lib.hid HN.out.2⟩
 case round=>
  obtain ⟨rfl,i,rfl,hi,HI⟩:=hrel
  by_cases hlt:i<N
  ·have hltI:(i:Int)<(N:Int):=by omega
   have hi0:(0:Int)≤(i:Int):=by omega
   go_upto_region 4 with fail
   have his:i<s.size:=by rw [HN.out.1];exact hlt
   have hne:s.data.toList.drop i ≠ []:=by
    intro e
    have h1:=congrArg List.length e
    simp only [List.length_drop,Array.length_toList,List.length_nil] at h1
    change s.size - i=0 at h1
    omega
   have hB0:((s.data.toList.drop i).getD 0 0).toNat=(s[i]'his).toNat:=by rw [getD_drop_get s i 0 his];rfl
   have hasc:=drop_ascii s i his
   generalize hB:(s[i]'his).toNat=B at *
   have HNE:=Lib.hid hne
   have HB:=Lib.hid hB0
   have HLT:=Lib.hid hlt
   have hB256:B<256:=by rw [←hB];exact UInt8.toNat_lt _
   have HAs:=Lib.hid hasc
   clear hne hB0 hB hasc hlt hi
   by_cases b1:B<128
   ·have b1I:(B:Int)<128:=by omega
    have HE:=Lib.hid (HAs.out b1)
    clear b1 hB256 his
    go_wp2
    refine ⟨⟨trivial,i+1,rfl,HLT.out,Lib.hid (by rw [←HI.out,HE.out])⟩,?_⟩
    have:=HLT.out
    show ((N:Int) - ((i:Int)+1)).toNat<((N:Int) - (i:Int)).toNat
    omega
   have b1I:¬(B:Int)<128:=by omega
   by_cases b2:B<192
   ·have b2I:¬(192:Int)≤(B:Int):=by omega
    have b3I:¬(224:Int)≤(B:Int):=by omega
    have b4I:¬(240:Int)≤(B:Int):=by omega
    have HE:=Lib.hid (show false=ANS from by rw [←HI.out];exact (cls_none HNE.out (by rw [HB.out];omega)).symm)
    clear b1 b2 hB256 his
    go_wp2
    go_ret
    exact ⟨by rw [←HE.out];rfl,rfl⟩
   by_cases b5:248≤B
   ·have b2I:¬(B:Int)<224:=by omega
    have b3I:¬(B:Int)<240:=by omega
    have b4I:¬(B:Int)<248:=by omega
    have b5I:(192:Int)≤(B:Int):=by omega
    have b6I:(224:Int)≤(B:Int):=by omega
    have b7I:(240:Int)≤(B:Int):=by omega
    have HE:=Lib.hid (show false=ANS from by rw [←HI.out];exact (cls_none HNE.out (by rw [HB.out];omega)).symm)
    clear b1 b2 b5 hB256 his
    go_wp2
    go_ret
    exact ⟨by rw [←HE.out];rfl,rfl⟩
   by_cases b3:B<224
   ·have b2I:(B:Int)<224:=by omega
    have b5I:(192:Int)≤(B:Int):=by omega
    obtain ⟨v0,hv0⟩:∃ v0:Nat,B - 192=v0:=⟨_,rfl⟩
    have HC:=Lib.hid (show ClsU B 1 128 v0 from .inl ⟨by omega,by omega,rfl,rfl,hv0.symm⟩)
    have hvI:(B:Int) - 192=(v0:Int):=by omega
    have hv32:v0<32:=by omega
    have HV0:=Lib.hid hv32
    have hlo:(192:Int)≤(B:Int):=by omega
    have hhi:(B:Int)<224:=by omega
    clear hv0 hv32
    go_upto_region 23 with fail
    clear hvI hlo hhi
    go_loopw [7,8] (fun v7 v8 wr2=>w=wr2∧∃ (k V:Nat),v8 = .int .i64 (k:Int)∧v7 = .int .i64 (V:Int)∧1≤k∧k≤2∧Hid (accU (s.data.toList.drop i) v0 (k - 1)=V∧contsU (s.data.toList.drop i) (k - 1))) (fun _ v8 _=>(2 - intOf v8).toNat)
    case atStart=>exact ⟨rfl,1,v0,rfl,rfl,Nat.le_refl _,by omega,Lib.hid ⟨rfl,fun j h1 h2=>by omega⟩⟩
    case round=>
     obtain ⟨rfl,k,V,rfl,rfl,hk1,hk2,HI2⟩:=hrel
     by_cases hkn:k≤1
     ·have hknI:(k:Int)≤1:=by omega
      have hk0I:(1:Int)≤(k:Int):=by omega
      have hVb:(V:Int)≤131071:=by
       have h1:=accU_lt HV0.out (k - 1) HI2.out.2
       have h2:(64:Nat) ^ (k - 1)≤64 ^ 2:=Nat.pow_le_pow_right (by decide) (by omega)
       rw [HI2.out.1] at h1
       rw [show (64:Nat) ^ 2=4096 from by decide] at h2
       omega
      have hV0I:(0:Int)≤(V:Int):=by omega
      obtain ⟨j,hj⟩:∃ j,i+k=j:=⟨_,rfl⟩
      have hjI:(i:Int)+(k:Int)=(j:Int):=by omega
      have hkL:∀ h:j<s.size,((s.data.toList.drop i).getD k 0).toNat=s[j].toNat:=by
       subst hj
       intro h
       rw [getD_drop_get s i k h]
      have HKL:=Lib.hid hkL
      have HJ:=Lib.hid hj
      clear hj hkL
      by_cases hin:j<N
      ·have hjN:(j:Int)<(N:Int):=by omega
       have hj0:(0:Int)≤(j:Int):=by omega
       have hjs:j<s.size:=by rw [HN.out.1];exact hin
       have hCl:=HKL.out hjs
       obtain ⟨C,hC⟩:∃ C,(s[j]'hjs).toNat=C:=⟨_,rfl⟩
       rw [hC] at hCl
       have HCC:=Lib.hid (And.intro hC hCl)
       have hC256:C<256:=by rw [←hC];exact UInt8.toNat_lt _
       clear hC hCl
       by_cases c1:C<128
       ·have c1I:(C:Int)<128:=by omega
        have c2I:((s[j]'hjs).toNat:Int)<128:=by rw [HCC.out.1];exact c1I
        have HE:=Lib.hid (show false=ANS from by rw [←HI.out];exact (cls_bad HNE.out HB.out HC.out ⟨hk1,hkn⟩ (fun h=>by have h1:=h.2.1;rw [HCC.out.2] at h1;omega)).symm)
        clear hkn hk1 hk2 hin hC256 c1
        go_wp2
        go_ret
        exact ⟨by rw [←HE.out];rfl,rfl⟩
       ·by_cases c2:192≤C
        ·have c1I:¬((s[j]'hjs).toNat:Int)<128:=by rw [HCC.out.1];omega
         have c2I:(192:Int)≤((s[j]'hjs).toNat:Int):=by rw [HCC.out.1];omega
         have HE:=Lib.hid (show false=ANS from by rw [←HI.out];exact (cls_bad HNE.out HB.out HC.out ⟨hk1,hkn⟩ (fun h=>by have h1:=h.2.2;rw [HCC.out.2] at h1;omega)).symm)
         clear hkn hk1 hk2 hin hC256 c1 c2
         go_wp2
         go_ret
         exact ⟨by rw [←HE.out];rfl,rfl⟩
        ·have c1I:(128:Int)≤((s[j]'hjs).toNat:Int):=by rw [HCC.out.1];omega
         have c2I:((s[j]'hjs).toNat:Int)<192:=by rw [HCC.out.1];omega
         have HE:=Lib.hid (show accU (s.data.toList.drop i) v0 (k+1 - 1)=V * 64+C - 128∧contsU (s.data.toList.drop i) (k+1 - 1) from by
          have e:k+1 - 1=(k - 1)+1:=by omega
          rw [e]
          refine ⟨?_,fun q h1 h2=>?_⟩
          ·rw [accU_succ,HI2.out.1,show k - 1+1=k by omega,HCC.out.2];omega
          ·by_cases hq:q≤k - 1
           ·exact HI2.out.2 q h1 hq
           ·have hqk:q=k:=by omega
            rw [hqk]
            refine ⟨?_,by rw [HCC.out.2];omega,by rw [HCC.out.2];omega⟩
            have hj:=HJ.out
            have hn:=HN.out.1
            simp only [List.length_drop,Array.length_toList]
            show k<s.size - i
            omega)
         have HK:=Lib.hid (And.intro hkn (And.intro (show 128≤C by omega) (show C<192 by omega)))
         clear hkn hk1 hk2 hin hC256 c1 c2
         go_wp2
         refine ⟨⟨trivial,k+1,V * 64+C - 128,rfl,?_,by omega,by have:=HK.out.1;omega,HE⟩,?_⟩
         ·have h1:=HK.out.2
          rw [HCC.out.1]
          congr 1
          omega
         ·have:=HK.out.1
          show (2 - ((k:Int)+1)).toNat<(2 - (k:Int)).toNat
          omega
      ·have hjN:(N:Int)≤(j:Int):=by omega
       have HE:=Lib.hid (show false=ANS from by
        rw [←HI.out]
        refine (cls_bad HNE.out HB.out HC.out ⟨hk1,hkn⟩ (fun h=>?_)).symm
        have h1:=h.1
        have hj:=HJ.out
        have hn:=HN.out.1
        simp only [List.length_drop,Array.length_toList] at h1
        change k<s.size - i at h1
        omega)
       clear hkn hk1 hk2 hin
       go_wp2
       go_ret
       exact ⟨by rw [←HE.out];rfl,rfl⟩
     ·have hk:k=2:=by omega
      subst hk
      have hV:accU (s.data.toList.drop i) v0 1=V:=HI2.out.1
      have hVb:V≤8388607:=by
       have h1:=accU_lt HV0.out 1 HI2.out.2
       rw [hV] at h1
       have h2:32 * (64:Nat) ^ 1≤8388608:=by decide
       omega
      obtain ⟨HGb,HGg⟩:=cls_end HNE.out HB.out HC.out HI2.out.2 hV
      have hV0I:(0:Int)≤(V:Int):=by omega
      have hVI:(V:Int)≤8388607:=by omega
      have HI2c:=Lib.hid (HI2.out.2)
      have HGb:=Lib.hid HGb
      have HGg:=Lib.hid HGg
      clear hkn hk1 hk2 hV hVb HI2
      by_cases d1:V<128
      ·have d1I:(V:Int)<128:=by omega
       have HE:=Lib.hid (show false=ANS from by rw [←HI.out];exact (HGb.out (.inl d1)).symm)
       clear d1
       go_wp2
       go_ret
       exact ⟨by rw [←HE.out];rfl,rfl⟩
      by_cases d2:1114111<V
      ·have d1I:¬(V:Int)<128:=by omega
       have d2I:(1114111:Int)<(V:Int):=by omega
       have HE:=Lib.hid (show false=ANS from by rw [←HI.out];exact (HGb.out (.inr (.inl d2))).symm)
       clear d1 d2
       go_wp2
       go_ret
       exact ⟨by rw [←HE.out];rfl,rfl⟩
      by_cases d3:55296≤V
      ·by_cases d4:V<57344
       ·have d1I:¬(V:Int)<128:=by omega
        have d2I:¬(1114111:Int)<(V:Int):=by omega
        have d3I:(55296:Int)≤(V:Int):=by omega
        have d4I:(V:Int)<57344:=by omega
        have HE:=Lib.hid (show false=ANS from by rw [←HI.out];exact (HGb.out (.inr (.inr ⟨d3,d4⟩))).symm)
        clear d1 d2 d3 d4
        go_wp2
        go_ret
        exact ⟨by rw [←HE.out];rfl,rfl⟩
       ·have d1I:¬(V:Int)<128:=by omega
        have d2I:¬(1114111:Int)<(V:Int):=by omega
        have d3I:(55296:Int)≤(V:Int):=by omega
        have d4I:¬(V:Int)<57344:=by omega
        have HE:=Lib.hid (HGg.out (by omega))
        clear d1 d2 d3 d4
        have HLn:=Lib.hid (show i+2≤N from by
         have h1:=(HI2c.out 1 (by omega) (Nat.le_refl _)).1
         have hn:=HN.out.1
         simp only [List.length_drop,Array.length_toList] at h1
         change 1<s.size - i at h1
         omega)
        have hLn:(i:Int)+1+1≤(N:Int):=by have:=HLn.out;omega
        go_wp2
        refine ⟨⟨trivial,i+2,?_,HLn.out,Lib.hid (by rw [←HI.out,HE.out,List.drop_drop])⟩,?_⟩
        ·congr 1
        ·show ((N:Int) - ((i:Int)+1+1)).toNat<((N:Int) - (i:Int)).toNat
         have:=HLn.out
         omega
      ·have d1I:¬(V:Int)<128:=by omega
       have d2I:¬(1114111:Int)<(V:Int):=by omega
       have d3I:¬(55296:Int)≤(V:Int):=by omega
       have HE:=Lib.hid (HGg.out (by omega))
       clear d1 d2 d3
       have HLn:=Lib.hid (show i+2≤N from by
        have h1:=(HI2c.out 1 (by omega) (Nat.le_refl _)).1
        have hn:=HN.out.1
        simp only [List.length_drop,Array.length_toList] at h1
        change 1<s.size - i at h1
        omega)
       have hLn:(i:Int)+1+1≤(N:Int):=by have:=HLn.out;omega
       go_wp2
       refine ⟨⟨trivial,i+2,?_,HLn.out,Lib.hid (by rw [←HI.out,HE.out,List.drop_drop])⟩,?_⟩
       ·congr 1
       ·show ((N:Int) - ((i:Int)+1+1)).toNat<((N:Int) - (i:Int)).toNat
        have:=HLn.out
        omega
   by_cases b4:B<240
   ·have b2I:¬(B:Int)<224:=by omega
    have b5I:(192:Int)≤(B:Int):=by omega
    have b6I:(224:Int)≤(B:Int):=by omega
    have b7I:(B:Int)<240:=by omega
    obtain ⟨v0,hv0⟩:∃ v0:Nat,B - 224=v0:=⟨_,rfl⟩
    have HC:=Lib.hid (show ClsU B 2 2048 v0 from .inr (.inl ⟨by omega,by omega,rfl,rfl,hv0.symm⟩))
    have hvI:(B:Int) - 224=(v0:Int):=by omega
    have hv32:v0<32:=by omega
    have HV0:=Lib.hid hv32
    have hlo:(224:Int)≤(B:Int):=by omega
    have hhi:(B:Int)<240:=by omega
    clear hv0 hv32
    go_upto_region 23 with fail
    clear hvI hlo hhi
    go_loopw [7,8] (fun v7 v8 wr2=>w=wr2∧∃ (k V:Nat),v8 = .int .i64 (k:Int)∧v7 = .int .i64 (V:Int)∧1≤k∧k≤3∧Hid (accU (s.data.toList.drop i) v0 (k - 1)=V∧contsU (s.data.toList.drop i) (k - 1))) (fun _ v8 _=>(3 - intOf v8).toNat)
    case atStart=>exact ⟨rfl,1,v0,rfl,rfl,Nat.le_refl _,by omega,Lib.hid ⟨rfl,fun j h1 h2=>by omega⟩⟩
    case round=>
     obtain ⟨rfl,k,V,rfl,rfl,hk1,hk2,HI2⟩:=hrel
     by_cases hkn:k≤2
     ·have hknI:(k:Int)≤2:=by omega
      have hk0I:(1:Int)≤(k:Int):=by omega
      have hVb:(V:Int)≤131071:=by
       have h1:=accU_lt HV0.out (k - 1) HI2.out.2
       have h2:(64:Nat) ^ (k - 1)≤64 ^ 2:=Nat.pow_le_pow_right (by decide) (by omega)
       rw [HI2.out.1] at h1
       rw [show (64:Nat) ^ 2=4096 from by decide] at h2
       omega
      have hV0I:(0:Int)≤(V:Int):=by omega
      obtain ⟨j,hj⟩:∃ j,i+k=j:=⟨_,rfl⟩
      have hjI:(i:Int)+(k:Int)=(j:Int):=by omega
      have hkL:∀ h:j<s.size,((s.data.toList.drop i).getD k 0).toNat=s[j].toNat:=by
       subst hj
       intro h
       rw [getD_drop_get s i k h]
      have HKL:=Lib.hid hkL
      have HJ:=Lib.hid hj
      clear hj hkL
      by_cases hin:j<N
      ·have hjN:(j:Int)<(N:Int):=by omega
       have hj0:(0:Int)≤(j:Int):=by omega
       have hjs:j<s.size:=by rw [HN.out.1];exact hin
       have hCl:=HKL.out hjs
       obtain ⟨C,hC⟩:∃ C,(s[j]'hjs).toNat=C:=⟨_,rfl⟩
       rw [hC] at hCl
       have HCC:=Lib.hid (And.intro hC hCl)
       have hC256:C<256:=by rw [←hC];exact UInt8.toNat_lt _
       clear hC hCl
       by_cases c1:C<128
       ·have c1I:(C:Int)<128:=by omega
        have c2I:((s[j]'hjs).toNat:Int)<128:=by rw [HCC.out.1];exact c1I
        have HE:=Lib.hid (show false=ANS from by rw [←HI.out];exact (cls_bad HNE.out HB.out HC.out ⟨hk1,hkn⟩ (fun h=>by have h1:=h.2.1;rw [HCC.out.2] at h1;omega)).symm)
        clear hkn hk1 hk2 hin hC256 c1
        go_wp2
        go_ret
        exact ⟨by rw [←HE.out];rfl,rfl⟩
       ·by_cases c2:192≤C
        ·have c1I:¬((s[j]'hjs).toNat:Int)<128:=by rw [HCC.out.1];omega
         have c2I:(192:Int)≤((s[j]'hjs).toNat:Int):=by rw [HCC.out.1];omega
         have HE:=Lib.hid (show false=ANS from by rw [←HI.out];exact (cls_bad HNE.out HB.out HC.out ⟨hk1,hkn⟩ (fun h=>by have h1:=h.2.2;rw [HCC.out.2] at h1;omega)).symm)
         clear hkn hk1 hk2 hin hC256 c1 c2
         go_wp2
         go_ret
         exact ⟨by rw [←HE.out];rfl,rfl⟩
        ·have c1I:(128:Int)≤((s[j]'hjs).toNat:Int):=by rw [HCC.out.1];omega
         have c2I:((s[j]'hjs).toNat:Int)<192:=by rw [HCC.out.1];omega
         have HE:=Lib.hid (show accU (s.data.toList.drop i) v0 (k+1 - 1)=V * 64+C - 128∧contsU (s.data.toList.drop i) (k+1 - 1) from by
          have e:k+1 - 1=(k - 1)+1:=by omega
          rw [e]
          refine ⟨?_,fun q h1 h2=>?_⟩
          ·rw [accU_succ,HI2.out.1,show k - 1+1=k by omega,HCC.out.2];omega
          ·by_cases hq:q≤k - 1
           ·exact HI2.out.2 q h1 hq
           ·have hqk:q=k:=by omega
            rw [hqk]
            refine ⟨?_,by rw [HCC.out.2];omega,by rw [HCC.out.2];omega⟩
            have hj:=HJ.out
            have hn:=HN.out.1
            simp only [List.length_drop,Array.length_toList]
            show k<s.size - i
            omega)
         have HK:=Lib.hid (And.intro hkn (And.intro (show 128≤C by omega) (show C<192 by omega)))
         clear hkn hk1 hk2 hin hC256 c1 c2
         go_wp2
         refine ⟨⟨trivial,k+1,V * 64+C - 128,rfl,?_,by omega,by have:=HK.out.1;omega,HE⟩,?_⟩
         ·have h1:=HK.out.2
          rw [HCC.out.1]
          congr 1
          omega
         ·have:=HK.out.1
          show (3 - ((k:Int)+1)).toNat<(3 - (k:Int)).toNat
          omega
      ·have hjN:(N:Int)≤(j:Int):=by omega
       have HE:=Lib.hid (show false=ANS from by
        rw [←HI.out]
        refine (cls_bad HNE.out HB.out HC.out ⟨hk1,hkn⟩ (fun h=>?_)).symm
        have h1:=h.1
        have hj:=HJ.out
        have hn:=HN.out.1
        simp only [List.length_drop,Array.length_toList] at h1
        change k<s.size - i at h1
        omega)
       clear hkn hk1 hk2 hin
       go_wp2
       go_ret
       exact ⟨by rw [←HE.out];rfl,rfl⟩
     ·have hk:k=3:=by omega
      subst hk
      have hV:accU (s.data.toList.drop i) v0 2=V:=HI2.out.1
      have hVb:V≤8388607:=by
       have h1:=accU_lt HV0.out 2 HI2.out.2
       rw [hV] at h1
       have h2:32 * (64:Nat) ^ 2≤8388608:=by decide
       omega
      obtain ⟨HGb,HGg⟩:=cls_end HNE.out HB.out HC.out HI2.out.2 hV
      have hV0I:(0:Int)≤(V:Int):=by omega
      have hVI:(V:Int)≤8388607:=by omega
      have HI2c:=Lib.hid (HI2.out.2)
      have HGb:=Lib.hid HGb
      have HGg:=Lib.hid HGg
      clear hkn hk1 hk2 hV hVb HI2
      by_cases d1:V<2048
      ·have d1I:(V:Int)<2048:=by omega
       have HE:=Lib.hid (show false=ANS from by rw [←HI.out];exact (HGb.out (.inl d1)).symm)
       clear d1
       go_wp2
       go_ret
       exact ⟨by rw [←HE.out];rfl,rfl⟩
      by_cases d2:1114111<V
      ·have d1I:¬(V:Int)<2048:=by omega
       have d2I:(1114111:Int)<(V:Int):=by omega
       have HE:=Lib.hid (show false=ANS from by rw [←HI.out];exact (HGb.out (.inr (.inl d2))).symm)
       clear d1 d2
       go_wp2
       go_ret
       exact ⟨by rw [←HE.out];rfl,rfl⟩
      by_cases d3:55296≤V
      ·by_cases d4:V<57344
       ·have d1I:¬(V:Int)<2048:=by omega
        have d2I:¬(1114111:Int)<(V:Int):=by omega
        have d3I:(55296:Int)≤(V:Int):=by omega
        have d4I:(V:Int)<57344:=by omega
        have HE:=Lib.hid (show false=ANS from by rw [←HI.out];exact (HGb.out (.inr (.inr ⟨d3,d4⟩))).symm)
        clear d1 d2 d3 d4
        go_wp2
        go_ret
        exact ⟨by rw [←HE.out];rfl,rfl⟩
       ·have d1I:¬(V:Int)<2048:=by omega
        have d2I:¬(1114111:Int)<(V:Int):=by omega
        have d3I:(55296:Int)≤(V:Int):=by omega
        have d4I:¬(V:Int)<57344:=by omega
        have HE:=Lib.hid (HGg.out (by omega))
        clear d1 d2 d3 d4
        have HLn:=Lib.hid (show i+3≤N from by
         have h1:=(HI2c.out 2 (by omega) (Nat.le_refl _)).1
         have hn:=HN.out.1
         simp only [List.length_drop,Array.length_toList] at h1
         change 2<s.size - i at h1
         omega)
        have hLn:(i:Int)+2+1≤(N:Int):=by have:=HLn.out;omega
        go_wp2
        refine ⟨⟨trivial,i+3,?_,HLn.out,Lib.hid (by rw [←HI.out,HE.out,List.drop_drop])⟩,?_⟩
        ·congr 1
        ·show ((N:Int) - ((i:Int)+2+1)).toNat<((N:Int) - (i:Int)).toNat
         have:=HLn.out
         omega
      ·have d1I:¬(V:Int)<2048:=by omega
       have d2I:¬(1114111:Int)<(V:Int):=by omega
       have d3I:¬(55296:Int)≤(V:Int):=by omega
       have HE:=Lib.hid (HGg.out (by omega))
       clear d1 d2 d3
       have HLn:=Lib.hid (show i+3≤N from by
        have h1:=(HI2c.out 2 (by omega) (Nat.le_refl _)).1
        have hn:=HN.out.1
        simp only [List.length_drop,Array.length_toList] at h1
        change 2<s.size - i at h1
        omega)
       have hLn:(i:Int)+2+1≤(N:Int):=by have:=HLn.out;omega
       go_wp2
       refine ⟨⟨trivial,i+3,?_,HLn.out,Lib.hid (by rw [←HI.out,HE.out,List.drop_drop])⟩,?_⟩
       ·congr 1
       ·show ((N:Int) - ((i:Int)+2+1)).toNat<((N:Int) - (i:Int)).toNat
        have:=HLn.out
        omega
   ·have b2I:¬(B:Int)<224:=by omega
    have b5I:(192:Int)≤(B:Int):=by omega
    have b6I:¬(B:Int)<240:=by omega
    have b7I:(240:Int)≤(B:Int):=by omega
    have b8I:(B:Int)<248:=by omega
    have b9I:(224:Int)≤(B:Int):=by omega
    obtain ⟨v0,hv0⟩:∃ v0:Nat,B - 240=v0:=⟨_,rfl⟩
    have HC:=Lib.hid (show ClsU B 3 65536 v0 from .inr (.inr ⟨by omega,by omega,rfl,rfl,hv0.symm⟩))
    have hvI:(B:Int) - 240=(v0:Int):=by omega
    have hv32:v0<32:=by omega
    have HV0:=Lib.hid hv32
    have hlo:(240:Int)≤(B:Int):=by omega
    have hhi:(B:Int)<248:=by omega
    clear hv0 hv32
    go_upto_region 23 with fail
    clear hvI hlo hhi
    go_loopw [7,8] (fun v7 v8 wr2=>w=wr2∧∃ (k V:Nat),v8 = .int .i64 (k:Int)∧v7 = .int .i64 (V:Int)∧1≤k∧k≤4∧Hid (accU (s.data.toList.drop i) v0 (k - 1)=V∧contsU (s.data.toList.drop i) (k - 1))) (fun _ v8 _=>(4 - intOf v8).toNat)
    case atStart=>exact ⟨rfl,1,v0,rfl,rfl,Nat.le_refl _,by omega,Lib.hid ⟨rfl,fun j h1 h2=>by omega⟩⟩
    case round=>
     obtain ⟨rfl,k,V,rfl,rfl,hk1,hk2,HI2⟩:=hrel
     by_cases hkn:k≤3
     ·have hknI:(k:Int)≤3:=by omega
      have hk0I:(1:Int)≤(k:Int):=by omega
      have hVb:(V:Int)≤131071:=by
       have h1:=accU_lt HV0.out (k - 1) HI2.out.2
       have h2:(64:Nat) ^ (k - 1)≤64 ^ 2:=Nat.pow_le_pow_right (by decide) (by omega)
       rw [HI2.out.1] at h1
       rw [show (64:Nat) ^ 2=4096 from by decide] at h2
       omega
      have hV0I:(0:Int)≤(V:Int):=by omega
      obtain ⟨j,hj⟩:∃ j,i+k=j:=⟨_,rfl⟩
      have hjI:(i:Int)+(k:Int)=(j:Int):=by omega
      have hkL:∀ h:j<s.size,((s.data.toList.drop i).getD k 0).toNat=s[j].toNat:=by
       subst hj
       intro h
       rw [getD_drop_get s i k h]
      have HKL:=Lib.hid hkL
      have HJ:=Lib.hid hj
      clear hj hkL
      by_cases hin:j<N
      ·have hjN:(j:Int)<(N:Int):=by omega
       have hj0:(0:Int)≤(j:Int):=by omega
       have hjs:j<s.size:=by rw [HN.out.1];exact hin
       have hCl:=HKL.out hjs
       obtain ⟨C,hC⟩:∃ C,(s[j]'hjs).toNat=C:=⟨_,rfl⟩
       rw [hC] at hCl
       have HCC:=Lib.hid (And.intro hC hCl)
       have hC256:C<256:=by rw [←hC];exact UInt8.toNat_lt _
       clear hC hCl
       by_cases c1:C<128
       ·have c1I:(C:Int)<128:=by omega
        have c2I:((s[j]'hjs).toNat:Int)<128:=by rw [HCC.out.1];exact c1I
        have HE:=Lib.hid (show false=ANS from by rw [←HI.out];exact (cls_bad HNE.out HB.out HC.out ⟨hk1,hkn⟩ (fun h=>by have h1:=h.2.1;rw [HCC.out.2] at h1;omega)).symm)
        clear hkn hk1 hk2 hin hC256 c1
        go_wp2
        go_ret
        exact ⟨by rw [←HE.out];rfl,rfl⟩
       ·by_cases c2:192≤C
        ·have c1I:¬((s[j]'hjs).toNat:Int)<128:=by rw [HCC.out.1];omega
         have c2I:(192:Int)≤((s[j]'hjs).toNat:Int):=by rw [HCC.out.1];omega
         have HE:=Lib.hid (show false=ANS from by rw [←HI.out];exact (cls_bad HNE.out HB.out HC.out ⟨hk1,hkn⟩ (fun h=>by have h1:=h.2.2;rw [HCC.out.2] at h1;omega)).symm)
         clear hkn hk1 hk2 hin hC256 c1 c2
         go_wp2
         go_ret
         exact ⟨by rw [←HE.out];rfl,rfl⟩
        ·have c1I:(128:Int)≤((s[j]'hjs).toNat:Int):=by rw [HCC.out.1];omega
         have c2I:((s[j]'hjs).toNat:Int)<192:=by rw [HCC.out.1];omega
         have HE:=Lib.hid (show accU (s.data.toList.drop i) v0 (k+1 - 1)=V * 64+C - 128∧contsU (s.data.toList.drop i) (k+1 - 1) from by
          have e:k+1 - 1=(k - 1)+1:=by omega
          rw [e]
          refine ⟨?_,fun q h1 h2=>?_⟩
          ·rw [accU_succ,HI2.out.1,show k - 1+1=k by omega,HCC.out.2];omega
          ·by_cases hq:q≤k - 1
           ·exact HI2.out.2 q h1 hq
           ·have hqk:q=k:=by omega
            rw [hqk]
            refine ⟨?_,by rw [HCC.out.2];omega,by rw [HCC.out.2];omega⟩
            have hj:=HJ.out
            have hn:=HN.out.1
            simp only [List.length_drop,Array.length_toList]
            show k<s.size - i
            omega)
         have HK:=Lib.hid (And.intro hkn (And.intro (show 128≤C by omega) (show C<192 by omega)))
         clear hkn hk1 hk2 hin hC256 c1 c2
         go_wp2
         refine ⟨⟨trivial,k+1,V * 64+C - 128,rfl,?_,by omega,by have:=HK.out.1;omega,HE⟩,?_⟩
         ·have h1:=HK.out.2
          rw [HCC.out.1]
          congr 1
          omega
         ·have:=HK.out.1
          show (4 - ((k:Int)+1)).toNat<(4 - (k:Int)).toNat
          omega
      ·have hjN:(N:Int)≤(j:Int):=by omega
       have HE:=Lib.hid (show false=ANS from by
        rw [←HI.out]
        refine (cls_bad HNE.out HB.out HC.out ⟨hk1,hkn⟩ (fun h=>?_)).symm
        have h1:=h.1
        have hj:=HJ.out
        have hn:=HN.out.1
        simp only [List.length_drop,Array.length_toList] at h1
        change k<s.size - i at h1
        omega)
       clear hkn hk1 hk2 hin
       go_wp2
       go_ret
       exact ⟨by rw [←HE.out];rfl,rfl⟩
     ·have hk:k=4:=by omega
      subst hk
      have hV:accU (s.data.toList.drop i) v0 3=V:=HI2.out.1
      have hVb:V≤8388607:=by
       have h1:=accU_lt HV0.out 3 HI2.out.2
       rw [hV] at h1
       have h2:32 * (64:Nat) ^ 3≤8388608:=by decide
       omega
      obtain ⟨HGb,HGg⟩:=cls_end HNE.out HB.out HC.out HI2.out.2 hV
      have hV0I:(0:Int)≤(V:Int):=by omega
      have hVI:(V:Int)≤8388607:=by omega
      have HI2c:=Lib.hid (HI2.out.2)
      have HGb:=Lib.hid HGb
      have HGg:=Lib.hid HGg
      clear hkn hk1 hk2 hV hVb HI2
      by_cases d1:V<65536
      ·have d1I:(V:Int)<65536:=by omega
       have HE:=Lib.hid (show false=ANS from by rw [←HI.out];exact (HGb.out (.inl d1)).symm)
       clear d1
       go_wp2
       go_ret
       exact ⟨by rw [←HE.out];rfl,rfl⟩
      by_cases d2:1114111<V
      ·have d1I:¬(V:Int)<65536:=by omega
       have d2I:(1114111:Int)<(V:Int):=by omega
       have HE:=Lib.hid (show false=ANS from by rw [←HI.out];exact (HGb.out (.inr (.inl d2))).symm)
       clear d1 d2
       go_wp2
       go_ret
       exact ⟨by rw [←HE.out];rfl,rfl⟩
      by_cases d3:55296≤V
      ·by_cases d4:V<57344
       ·have d1I:¬(V:Int)<65536:=by omega
        have d2I:¬(1114111:Int)<(V:Int):=by omega
        have d3I:(55296:Int)≤(V:Int):=by omega
        have d4I:(V:Int)<57344:=by omega
        have HE:=Lib.hid (show false=ANS from by rw [←HI.out];exact (HGb.out (.inr (.inr ⟨d3,d4⟩))).symm)
        clear d1 d2 d3 d4
        go_wp2
        go_ret
        exact ⟨by rw [←HE.out];rfl,rfl⟩
       ·have d1I:¬(V:Int)<65536:=by omega
        have d2I:¬(1114111:Int)<(V:Int):=by omega
        have d3I:(55296:Int)≤(V:Int):=by omega
        have d4I:¬(V:Int)<57344:=by omega
        have HE:=Lib.hid (HGg.out (by omega))
        clear d1 d2 d3 d4
        have HLn:=Lib.hid (show i+4≤N from by
         have h1:=(HI2c.out 3 (by omega) (Nat.le_refl _)).1
         have hn:=HN.out.1
         simp only [List.length_drop,Array.length_toList] at h1
         change 3<s.size - i at h1
         omega)
        have hLn:(i:Int)+3+1≤(N:Int):=by have:=HLn.out;omega
        go_wp2
        refine ⟨⟨trivial,i+4,?_,HLn.out,Lib.hid (by rw [←HI.out,HE.out,List.drop_drop])⟩,?_⟩
        ·congr 1
        ·show ((N:Int) - ((i:Int)+3+1)).toNat<((N:Int) - (i:Int)).toNat
         have:=HLn.out
         omega
      ·have d1I:¬(V:Int)<65536:=by omega
       have d2I:¬(1114111:Int)<(V:Int):=by omega
       have d3I:¬(55296:Int)≤(V:Int):=by omega
       have HE:=Lib.hid (HGg.out (by omega))
       clear d1 d2 d3
       have HLn:=Lib.hid (show i+4≤N from by
        have h1:=(HI2c.out 3 (by omega) (Nat.le_refl _)).1
        have hn:=HN.out.1
        simp only [List.length_drop,Array.length_toList] at h1
        change 3<s.size - i at h1
        omega)
       have hLn:(i:Int)+3+1≤(N:Int):=by have:=HLn.out;omega
       go_wp2
       refine ⟨⟨trivial,i+4,?_,HLn.out,Lib.hid (by rw [←HI.out,HE.out,List.drop_drop])⟩,?_⟩
       ·congr 1
       ·show ((N:Int) - ((i:Int)+3+1)).toNat<((N:Int) - (i:Int)).toNat
        have:=HLn.out
        omega
  ·have ei:i=N:=by omega
   have HE:=Lib.hid (show true=ANS from by
    rw [←HI.out,List.drop_of_length_le (by rw [Array.length_toList,ei,←HN.out.1];exact Nat.le_refl _)]
    rfl)
   subst ei
   clear hlt hi
   go_wp2
   go_ret
   exact ⟨by rw [←HE.out];rfl,rfl⟩
end Go.Proofs.YtgfeainpeplphaaDoor
namespace Go.Proofs.YtgfeainpeplphaaDoor
open Go.RowKit Hb Ht
set_option linter.unusedVariables false
set_option linter.unusedSimpArgs false
attribute [local go_sem] Oper.semAt_some
theorem digs_2_le {n k:Nat} (h:blen n≤k):(digs 2 n).length≤k:=digs_length_le (by decide) (blen_le_iff.1 h)
set_option maxRecDepth 100000 in
set_option maxHeartbeats 2000000 in
theorem rcanonical_any (s:ByteArray) (w:World) (hs:s.size≤maxLen) :
  Calls Tryd.prog 75 #[.string s] w fun e w'=>e = .returned (.bool (canonB s.data.toList))∧Below w.heap.size w w':=by
 have HP:=Lib.hid (rParse_anyL s 10 w (by unfold maxLen at hs;omega))
 obtain ⟨co,hco⟩:∃ co,pCode s.data.toList 10=co:=⟨_,rfl⟩
 obtain ⟨z,hz⟩:∃ z,pVal s.data.toList 10=z:=⟨_,rfl⟩
 obtain ⟨st,hst⟩:∃ st,strN (txtZ z 10)=st:=⟨_,rfl⟩
 have hC:canonB s.data.toList=(decide (co=0) && decide (st.data.toList=s.data.toList)):=by unfold canonB;rw [hco,hz,←hst];rfl
 rw [hC]
 obtain ⟨R,hR⟩:∃ R,(decide (co=0) && decide (st.data.toList=s.data.toList))=R:=⟨_,rfl⟩
 rw [hR]
 have HR:=Lib.hid hR
 have HSt:=Lib.hid hst
 rw [hco,hz] at HP
 have HT:=Lib.hid (fun h:co=0=>show tooLong z=false by rw [←hz];exact code_ok (hco.trans h))
 clear hC hco hz hR hst
 go_enter Tryd.func75,Tryd.ntmps75
 go_wp2_with fail
 (with_reducible refine HP.out.mono ?_)
 rintro e w1 ⟨v,rfl,hv0,hv1,hb1⟩
 by_cases h0:co=0
 ·subst h0
  obtain ⟨A,c,rfl,ho⟩:=hv0 rfl
  have ht:=HT.out rfl
  have hbl:=short_blen ht
  have hdl:=digs_2_le hbl
  have hsl:SlI w1 w1.heap.size A (digs 2 z.natAbs).length c (digs 2 z.natAbs):=ho.sl (dig_digs (by decide) _) rfl
  have hb2:Below w1.heap.size w1 (w1.alloc (.cells #[.bool (decide (z<0)),.slice A (digs 2 z.natAbs).length c] 106)):=(Below.refl _ _).alloc (Nat.le_refl _) _
  have hT:=rText_any (x:=z) (w:=w1.alloc (.cells #[.bool (decide (z<0)),.slice A (digs 2 z.natAbs).length c] 106)) ((hsl.below (C:=w1.heap.size) hb2 (Nat.le_refl _)).mono hb2.size) (Nat.le_refl _) hdl 10 (by omega) (by omega)
  rw [show ((10:Nat):Int)=10 from rfl,HSt.out] at hT
  have HX:=Lib.hid hT
  have HB:=Lib.hid (hb1.trans (hb2.mono hb1.size))
  clear hT hv0 hv1 hb1 ho ht hbl hdl hsl hb2
  generalize (digs 2 z.natAbs).length=n at *
  generalize decide (z<0)=sgn at *
  go_wp2_with fail
  (with_reducible refine HX.out.mono ?_)
  rintro e w3 ⟨rfl,hb3⟩
  have HB3:=Lib.hid (HB.out.trans (hb3.mono HB.out.size))
  clear hb3
  by_cases he:st.data.toList=s.data.toList
  ·have s1:(st.toList==s.toList)=true:=by rw [ByteArray.toList_eq,ByteArray.toList_eq,he];simp
   have HE:=Lib.hid (show true=R by rw [←HR.out,decide_eq_true he];rfl)
   clear he
   go_wp2
   go_ret
   exact ⟨by rw [←HE.out];rfl,HB3.out⟩
  ·have s1:(st.toList==s.toList)=false:=by rw [ByteArray.toList_eq,ByteArray.toList_eq];exact beq_eq_false_iff_ne.2 he
   have HE:=Lib.hid (show false=R by rw [←HR.out,decide_eq_false he];simp)
   clear he
   go_wp2
   go_ret
   exact ⟨by rw [←HE.out];rfl,HB3.out⟩
 ·have hv:=hv1 h0
  subst hv
  have h0b:(co != 0)=true:=by simpa using h0
  have HE:=Lib.hid (show false=R by rw [←HR.out,decide_eq_false h0];simp)
  have HB:=Lib.hid hb1
  clear hv0 hv1 h0 hb1
  go_wp2
  go_ret
  exact ⟨by rw [←HE.out];rfl,HB.out.alloc HB.out.size _⟩
theorem one20 {t:Tm} (h:t.k<1∨5<t.k∨stray t=true∨t.v<0∨(t.k=5∧(t.as.length=0∨64<t.as.length))):oneP t=20:=if_pos h
theorem one_go {t:Tm} (h:¬(t.k<1∨5<t.k∨stray t=true∨t.v<0∨(t.k=5∧(t.as.length=0∨64<t.as.length)))):oneP t=if Lib.validD t.n=false∨1000<t.n.length then 21
 else if t.k=3∧canonB t.m=false then 22
 else if t.k=4∧floB t.b=false then 23
 else 0:=if_neg h
theorem stray_n {t:Tm} (h:t.n ≠ []) (h2:t.k≠2) (h5:t.k≠5):stray t=true:=by simp [stray,h,h2,h5]
theorem stray_m {t:Tm} (h:t.m ≠ []) (h3:t.k≠3):stray t=true:=by simp [stray,h,h3]
theorem stray_b {t:Tm} (h:t.b≠0) (h4:t.k≠4):stray t=true:=by simp [stray,h,h4]
theorem stray_v {t:Tm} (h:t.v≠0) (h1:t.k≠1):stray t=true:=by simp [stray,h,h1]
theorem stray_l {t:Tm} (h:t.as.length≠0) (h5:t.k≠5):stray t=true:=by unfold stray;simp only [Bool.or_eq_true];exact .inr (by simp [h,h5])
theorem stray_no {t:Tm} (hn:t.n = []∨t.k=2∨t.k=5) (hm:t.m = []∨t.k=3) (hb:t.b=0∨t.k=4) (hv:t.v=0∨t.k=1) (hl:t.as.length=0∨t.k=5):stray t=false:=by
 unfold stray
 simp only [Bool.or_eq_false_iff]
 refine ⟨⟨⟨⟨?_,?_⟩,?_⟩,?_⟩,?_⟩
 ·rcases hn with h | h | h <;> simp [h]
 ·rcases hm with h | h <;> simp [h]
 ·rcases hb with h | h <;> simp [h]
 ·rcases hv with h | h <;> simp [h]
 ·rcases hl with h | h <;> simp [h]
theorem bytes_ne {n:List UInt8} {nb:ByteArray} (h:(⟨n.toArray⟩:ByteArray)=nb) (hn:n ≠ []):nb.toList.isEmpty=false∧(nb.toList == [])=false∧¬nb.toList = []:=by
 have e:nb.toList=n:=by rw [←h,ByteArray.toList_eq]
 rw [e]
 cases n with
 | nil=>exact absurd rfl hn
 | cons a l=>exact ⟨rfl,rfl,by simp⟩
set_option maxRecDepth 100000 in
set_option maxHeartbeats 16000000 in
theorem rone_any {w:World} {t:Tm} {sl:Value} (h:TAt w w.heap.size t sl) (hf:t.n.length≤4611686018427387904):Calls Tryd.prog 65 #[valT t sl] w fun e w'=>e = .returned (.int .i64 (oneP t))∧Below w.heap.size w w':=by
 obtain ⟨k,nl,ml,b,v,ts,nb,mb,A,c,rfl,rfl,hnb,hmb,hl1,hl2,hl3,hv,hs1,hs2⟩:=h.letters
 have hok:=h.ok
 obtain ⟨L,hL⟩:∃ L,ts.length=L:=⟨_,rfl⟩
 rw [hv]
 rw [hL] at h hl1 hl3 ⊢
 obtain ⟨R,hR⟩:∃ R,oneP (.mk k nl ml b v ts)=R:=⟨_,rfl⟩
 rw [hR]
 have HR:=Lib.hid hR
 have hUv:=fun (w':World)=>UTF_any nb w' (by rw [←hnb];show nl.toArray.size≤_;rw [List.size_toArray];exact hf)
 rw [show nb.data.toList=nl by rw [←hnb]] at hUv
 obtain ⟨U,hUu⟩:∃ U,Lib.validD nl=U:=⟨_,rfl⟩
 obtain ⟨N,hN⟩:∃ N,nl.length=N:=⟨_,rfl⟩
 have hsz:nb.size=N:=by rw [←hN,←hnb];exact List.size_toArray
 have hNI:(N:Int)≤4611686018427387904:=by change nl.length≤_ at hf;omega
 rw [hUu] at hUv
 have HUv:=Lib.hid hUv
 have hIn:=fun (w':World)=>rcanonical_any mb w' hs2
 rw [show mb.data.toList=ml by rw [←hmb]] at hIn
 obtain ⟨C,hC⟩:∃ C,canonB ml=C:=⟨_,rfl⟩
 rw [hC] at hIn
 have HIn:=Lib.hid hIn
 obtain ⟨F,hF⟩:∃ F,floB b=F:=⟨_,rfl⟩
 have hFl:=fun (w':World)=>rfloats_any b.toNat (by have:=hok.2.2.1;simp only [Tm.b] at this;omega) w'
 rw [show floN b.toNat=F from hF,show ((b.toNat:Nat):Int)=b by have:=hok.2.2.1;simp only [Tm.b] at this;omega] at hFl
 have HFl:=Lib.hid hFl
 have HD:=Lib.hid (And.intro hUu (And.intro hN (And.intro hC (And.intro hF hL))))
 have hLI:(L:Int)≤1759218604400:=by unfold maxArgs at hl3;omega
 obtain ⟨W1,hW1⟩:∃ W1,(w.alloc (.cells #[.int .i64 k,.string nb,.string mb,.int .u64 b,.int .i64 v,.slice A L c] 25))=W1:=⟨_,rfl⟩
 have hb1:Below w.heap.size w W1:=by rw [←hW1];exact (Below.refl _ _).alloc (Nat.le_refl _) _
 have hX:TBox W1 w.heap.size (.mk k nl ml b v ts) (.slice A L c):=by rw [←hW1];exact TBox.new w hnb hmb
 obtain ⟨x0,x1,x2,x3,x4,x5⟩:=hX.cells hnb hmb
 have HX:=Lib.hid (And.intro hb1 hX)
 have HM:=Lib.hid (And.intro hnb hmb)
 have HKb:=Lib.hid (show 0≤b∧b<18446744073709551616 from hok.2.2.1)
 have hbu0:=HKb.out.1
 have hbu1:=HKb.out.2
 subst hW1
 clear h hv hok hf hb1 hX hUv hIn hFl hUu hC hF hN hR hnb hmb hL hs1 hs2 hl1 hl3
 by_cases hk1:k<1
 ·have hk1b:(k==1)=false:=beq_eq_false_iff_ne.2 (by omega)
  have hk2b:(k==2)=false:=beq_eq_false_iff_ne.2 (by omega)
  have hk3b:(k==3)=false:=beq_eq_false_iff_ne.2 (by omega)
  have hk4b:(k==4)=false:=beq_eq_false_iff_ne.2 (by omega)
  have hk5b:(k==5)=false:=beq_eq_false_iff_ne.2 (by omega)
  have HE:=Lib.hid (show (20:Int)=R by rw [←HR.out];refine Eq.symm ?_;exact one20 (.inl hk1))
  go_enter Tryd.func65,Tryd.ntmps65
  go_wp2_with (first
   | (go_at_call 74;(with_reducible refine (HUv.out _).mono ?_);rintro e w2 ⟨rfl,rfl⟩)
   | (go_at_call 75;(with_reducible refine (HIn.out _).mono ?_);rintro e w4 ⟨rfl,hb4⟩;have HX4:=Lib.hid (HX.out.1.trans (hb4.mono HX.out.1.size));clear hb4)
   | (go_at_call 76;(with_reducible refine (HFl.out _).mono ?_);rintro e w5 ⟨rfl,rfl⟩))
  all_goals
   go_ret
   exact ⟨by rw [←HE.out];rfl,HX.out.1⟩
 by_cases hk5:5<k
 ·have hk1b:(k==1)=false:=beq_eq_false_iff_ne.2 (by omega)
  have hk2b:(k==2)=false:=beq_eq_false_iff_ne.2 (by omega)
  have hk3b:(k==3)=false:=beq_eq_false_iff_ne.2 (by omega)
  have hk4b:(k==4)=false:=beq_eq_false_iff_ne.2 (by omega)
  have hk5b:(k==5)=false:=beq_eq_false_iff_ne.2 (by omega)
  have HE:=Lib.hid (show (20:Int)=R by rw [←HR.out];refine Eq.symm ?_;exact one20 (.inr (.inl hk5)))
  go_enter Tryd.func65,Tryd.ntmps65
  go_wp2_with (first
   | (go_at_call 74;(with_reducible refine (HUv.out _).mono ?_);rintro e w2 ⟨rfl,rfl⟩)
   | (go_at_call 75;(with_reducible refine (HIn.out _).mono ?_);rintro e w4 ⟨rfl,hb4⟩;have HX4:=Lib.hid (HX.out.1.trans (hb4.mono HX.out.1.size));clear hb4)
   | (go_at_call 76;(with_reducible refine (HFl.out _).mono ?_);rintro e w5 ⟨rfl,rfl⟩))
  all_goals
   go_ret
   exact ⟨by rw [←HE.out];rfl,HX.out.1⟩
 have hkk:k=1∨k=2∨k=3∨k=4∨k=5:=by omega
 clear hk1 hk5
 rcases hkk with rfl | rfl | rfl | rfl | rfl
 ·skip
  by_cases hn0:nl = []
  case neg=>
   obtain ⟨e1,e2,e3⟩:=bytes_ne HM.out.1 hn0
   have HE:=Lib.hid (show (20:Int)=R by rw [←HR.out];refine Eq.symm ?_;exact one20 (.inr (.inr (.inl (stray_n hn0 (show (1:Int)≠2 by decide) (show (1:Int)≠5 by decide))))))
   clear hn0
   go_enter Tryd.func65,Tryd.ntmps65
   go_wp2_with (first
    | (go_at_call 74;(with_reducible refine (HUv.out _).mono ?_);rintro e w2 ⟨rfl,rfl⟩)
    | (go_at_call 75;(with_reducible refine (HIn.out _).mono ?_);rintro e w4 ⟨rfl,hb4⟩;have HX4:=Lib.hid (HX.out.1.trans (hb4.mono HX.out.1.size));clear hb4)
    | (go_at_call 76;(with_reducible refine (HFl.out _).mono ?_);rintro e w5 ⟨rfl,rfl⟩))
   all_goals
    go_ret
    exact ⟨by rw [←HE.out];rfl,HX.out.1⟩
  subst hn0
  obtain rfl:nb=⟨#[]⟩:=HM.out.1.symm
  by_cases hm0:ml = []
  case neg=>
   obtain ⟨f1,f2,f3⟩:=bytes_ne HM.out.2 hm0
   have HE:=Lib.hid (show (20:Int)=R by rw [←HR.out];refine Eq.symm ?_;exact one20 (.inr (.inr (.inl (stray_m hm0 (show (1:Int)≠3 by decide))))))
   clear hm0
   go_enter Tryd.func65,Tryd.ntmps65
   go_wp2_with (first
    | (go_at_call 74;(with_reducible refine (HUv.out _).mono ?_);rintro e w2 ⟨rfl,rfl⟩)
    | (go_at_call 75;(with_reducible refine (HIn.out _).mono ?_);rintro e w4 ⟨rfl,hb4⟩;have HX4:=Lib.hid (HX.out.1.trans (hb4.mono HX.out.1.size));clear hb4)
    | (go_at_call 76;(with_reducible refine (HFl.out _).mono ?_);rintro e w5 ⟨rfl,rfl⟩))
   all_goals
    go_ret
    exact ⟨by rw [←HE.out];rfl,HX.out.1⟩
  subst hm0
  obtain rfl:mb=⟨#[]⟩:=HM.out.2.symm
  by_cases hb0:b=0
  case neg=>
   have g1:(b != 0)=true:=by simpa using hb0
   have g2:¬b=0:=hb0
   have HE:=Lib.hid (show (20:Int)=R by rw [←HR.out];refine Eq.symm ?_;exact one20 (.inr (.inr (.inl (stray_b hb0 (show (1:Int)≠4 by decide))))))
   clear hb0
   go_enter Tryd.func65,Tryd.ntmps65
   go_wp2_with (first
    | (go_at_call 74;(with_reducible refine (HUv.out _).mono ?_);rintro e w2 ⟨rfl,rfl⟩)
    | (go_at_call 75;(with_reducible refine (HIn.out _).mono ?_);rintro e w4 ⟨rfl,hb4⟩;have HX4:=Lib.hid (HX.out.1.trans (hb4.mono HX.out.1.size));clear hb4)
    | (go_at_call 76;(with_reducible refine (HFl.out _).mono ?_);rintro e w5 ⟨rfl,rfl⟩))
   all_goals
    go_ret
    exact ⟨by rw [←HE.out];rfl,HX.out.1⟩
  subst hb0
  by_cases hvz:v=0
  ·subst hvz
   by_cases hL0:L=0
   case neg=>
    have g1:(0:Int)<(L:Int):=by omega
    have HE:=Lib.hid (show (20:Int)=R by rw [←HR.out];refine Eq.symm ?_;exact one20 (.inr (.inr (.inl (stray_l (show ts.length≠0 by rw [HD.out.2.2.2.2];exact hL0) (show (1:Int)≠5 by decide))))))
    clear hL0
    go_enter Tryd.func65,Tryd.ntmps65
    go_wp2_with (first
     | (go_at_call 74;(with_reducible refine (HUv.out _).mono ?_);rintro e w2 ⟨rfl,rfl⟩)
     | (go_at_call 75;(with_reducible refine (HIn.out _).mono ?_);rintro e w4 ⟨rfl,hb4⟩;have HX4:=Lib.hid (HX.out.1.trans (hb4.mono HX.out.1.size));clear hb4)
     | (go_at_call 76;(with_reducible refine (HFl.out _).mono ?_);rintro e w5 ⟨rfl,rfl⟩))
    all_goals
     go_ret
     exact ⟨by rw [←HE.out];rfl,HX.out.1⟩
   subst hL0
   have hgo:=Lib.hid (one_go (t:=.mk 1 [] [] 0 0 ts) (fun h=>by
    have hs:=stray_no (t:=.mk 1 [] [] 0 0 ts) (.inl rfl) (.inl rfl) (.inl rfl) (.inr rfl) (.inl HD.out.2.2.2.2)
    rcases h with h | h | h | h | h
    ·exact absurd h (by show ¬(1:Int)<1;omega)
    ·exact absurd h (by show ¬(5:Int)<1;omega)
    ·rw [hs] at h;cases h
    ·exact absurd h (by show ¬(0:Int)<0;omega)
    ·exact absurd h (fun h=>absurd h.1 (show (1:Int)≠5 by decide))))
   cases U
   ·skip
    have HE:=Lib.hid (show (21:Int)=R by rw [←HR.out];refine Eq.symm ?_;exact hgo.out.trans (if_pos (.inl HD.out.1)))
    go_enter Tryd.func65,Tryd.ntmps65
    go_wp2_with (first
     | (go_at_call 74;(with_reducible refine (HUv.out _).mono ?_);rintro e w2 ⟨rfl,rfl⟩)
     | (go_at_call 75;(with_reducible refine (HIn.out _).mono ?_);rintro e w4 ⟨rfl,hb4⟩;have HX4:=Lib.hid (HX.out.1.trans (hb4.mono HX.out.1.size));clear hb4)
     | (go_at_call 76;(with_reducible refine (HFl.out _).mono ?_);rintro e w5 ⟨rfl,rfl⟩))
    all_goals
     go_ret
     exact ⟨by rw [←HE.out];rfl,HX.out.1⟩
   by_cases h1000:1000<N
   ·have h1I:(1000:Int)<(N:Int):=by omega
    have HE:=Lib.hid (show (21:Int)=R by rw [←HR.out];refine Eq.symm ?_;exact hgo.out.trans (if_pos (.inr (by show 1000<([]:List UInt8).length;rw [HD.out.2.1];exact h1000))))
    clear h1000
    go_enter Tryd.func65,Tryd.ntmps65
    go_wp2_with (first
     | (go_at_call 74;(with_reducible refine (HUv.out _).mono ?_);rintro e w2 ⟨rfl,rfl⟩)
     | (go_at_call 75;(with_reducible refine (HIn.out _).mono ?_);rintro e w4 ⟨rfl,hb4⟩;have HX4:=Lib.hid (HX.out.1.trans (hb4.mono HX.out.1.size));clear hb4)
     | (go_at_call 76;(with_reducible refine (HFl.out _).mono ?_);rintro e w5 ⟨rfl,rfl⟩))
    all_goals
     go_ret
     exact ⟨by rw [←HE.out];rfl,HX.out.1⟩
   have h1I:¬(1000:Int)<(N:Int):=by omega
   have h1J:(N:Int)≤1000:=by omega
   have HU2:=Lib.hid (show ¬(Lib.validD []=false∨1000<([]:List UInt8).length) from fun h=>by
    rcases h with h | h
    ·rw [HD.out.1] at h;cases h
    ·rw [HD.out.2.1] at h;exact h1000 h)
   clear h1000
   have HE:=Lib.hid (show (0:Int)=R by rw [←HR.out];refine Eq.symm ?_;exact hgo.out.trans ((if_neg HU2.out).trans ((if_neg (fun h=>absurd h.1 (show (1:Int)≠3 by decide))).trans (if_neg (fun h=>absurd h.1 (show (1:Int)≠4 by decide))))))
   go_enter Tryd.func65,Tryd.ntmps65
   go_wp2_with (first
    | (go_at_call 74;(with_reducible refine (HUv.out _).mono ?_);rintro e w2 ⟨rfl,rfl⟩)
    | (go_at_call 75;(with_reducible refine (HIn.out _).mono ?_);rintro e w4 ⟨rfl,hb4⟩;have HX4:=Lib.hid (HX.out.1.trans (hb4.mono HX.out.1.size));clear hb4)
    | (go_at_call 76;(with_reducible refine (HFl.out _).mono ?_);rintro e w5 ⟨rfl,rfl⟩))
   all_goals
    go_ret
    exact ⟨by rw [←HE.out];rfl,HX.out.1⟩
  ·have g8:(v != 0)=true:=by simpa using hvz
   have g9:¬v=0:=hvz
   by_cases hL0:L=0
   case neg=>
    have g1:(0:Int)<(L:Int):=by omega
    have HE:=Lib.hid (show (20:Int)=R by rw [←HR.out];refine Eq.symm ?_;exact one20 (.inr (.inr (.inl (stray_l (show ts.length≠0 by rw [HD.out.2.2.2.2];exact hL0) (show (1:Int)≠5 by decide))))))
    clear hL0
    go_enter Tryd.func65,Tryd.ntmps65
    go_wp2_with (first
     | (go_at_call 74;(with_reducible refine (HUv.out _).mono ?_);rintro e w2 ⟨rfl,rfl⟩)
     | (go_at_call 75;(with_reducible refine (HIn.out _).mono ?_);rintro e w4 ⟨rfl,hb4⟩;have HX4:=Lib.hid (HX.out.1.trans (hb4.mono HX.out.1.size));clear hb4)
     | (go_at_call 76;(with_reducible refine (HFl.out _).mono ?_);rintro e w5 ⟨rfl,rfl⟩))
    all_goals
     go_ret
     exact ⟨by rw [←HE.out];rfl,HX.out.1⟩
   subst hL0
   by_cases hv0:v<0
   ·have g1:(v != 0)=true:=by simp;omega
    have HE:=Lib.hid (show (20:Int)=R by rw [←HR.out];refine Eq.symm ?_;exact one20 (.inr (.inr (.inr (.inl hv0)))))
    go_enter Tryd.func65,Tryd.ntmps65
    go_wp2_with (first
     | (go_at_call 74;(with_reducible refine (HUv.out _).mono ?_);rintro e w2 ⟨rfl,rfl⟩)
     | (go_at_call 75;(with_reducible refine (HIn.out _).mono ?_);rintro e w4 ⟨rfl,hb4⟩;have HX4:=Lib.hid (HX.out.1.trans (hb4.mono HX.out.1.size));clear hb4)
     | (go_at_call 76;(with_reducible refine (HFl.out _).mono ?_);rintro e w5 ⟨rfl,rfl⟩))
    all_goals
     go_ret
     exact ⟨by rw [←HE.out];rfl,HX.out.1⟩
   have hv1:0<v:=by omega
   have hgo:=Lib.hid (one_go (t:=.mk 1 [] [] 0 v ts) (fun h=>by
    have hs:=stray_no (t:=.mk 1 [] [] 0 v ts) (.inl rfl) (.inl rfl) (.inl rfl) (.inr rfl) (.inl HD.out.2.2.2.2)
    rcases h with h | h | h | h | h
    ·exact absurd h (by show ¬(1:Int)<1;omega)
    ·exact absurd h (by show ¬(5:Int)<1;omega)
    ·rw [hs] at h;cases h
    ·exact absurd h (by show ¬v<0;omega)
    ·exact absurd h (fun h=>absurd h.1 (show (1:Int)≠5 by decide))))
   cases U
   ·skip
    have HE:=Lib.hid (show (21:Int)=R by rw [←HR.out];refine Eq.symm ?_;exact hgo.out.trans (if_pos (.inl HD.out.1)))
    go_enter Tryd.func65,Tryd.ntmps65
    go_wp2_with (first
     | (go_at_call 74;(with_reducible refine (HUv.out _).mono ?_);rintro e w2 ⟨rfl,rfl⟩)
     | (go_at_call 75;(with_reducible refine (HIn.out _).mono ?_);rintro e w4 ⟨rfl,hb4⟩;have HX4:=Lib.hid (HX.out.1.trans (hb4.mono HX.out.1.size));clear hb4)
     | (go_at_call 76;(with_reducible refine (HFl.out _).mono ?_);rintro e w5 ⟨rfl,rfl⟩))
    all_goals
     go_ret
     exact ⟨by rw [←HE.out];rfl,HX.out.1⟩
   by_cases h1000:1000<N
   ·have h1I:(1000:Int)<(N:Int):=by omega
    have HE:=Lib.hid (show (21:Int)=R by rw [←HR.out];refine Eq.symm ?_;exact hgo.out.trans (if_pos (.inr (by show 1000<([]:List UInt8).length;rw [HD.out.2.1];exact h1000))))
    clear h1000
    go_enter Tryd.func65,Tryd.ntmps65
    go_wp2_with (first
     | (go_at_call 74;(with_reducible refine (HUv.out _).mono ?_);rintro e w2 ⟨rfl,rfl⟩)
     | (go_at_call 75;(with_reducible refine (HIn.out _).mono ?_);rintro e w4 ⟨rfl,hb4⟩;have HX4:=Lib.hid (HX.out.1.trans (hb4.mono HX.out.1.size));clear hb4)
     | (go_at_call 76;(with_reducible refine (HFl.out _).mono ?_);rintro e w5 ⟨rfl,rfl⟩))
    all_goals
     go_ret
     exact ⟨by rw [←HE.out];rfl,HX.out.1⟩
   have h1I:¬(1000:Int)<(N:Int):=by omega
   have h1J:(N:Int)≤1000:=by omega
   have HU2:=Lib.hid (show ¬(Lib.validD []=false∨1000<([]:List UInt8).length) from fun h=>by
    rcases h with h | h
    ·rw [HD.out.1] at h;cases h
    ·rw [HD.out.2.1] at h;exact h1000 h)
   clear h1000
   have HE:=Lib.hid (show (0:Int)=R by rw [←HR.out];refine Eq.symm ?_;exact hgo.out.trans ((if_neg HU2.out).trans ((if_neg (fun h=>absurd h.1 (show (1:Int)≠3 by decide))).trans (if_neg (fun h=>absurd h.1 (show (1:Int)≠4 by decide))))))
   go_enter Tryd.func65,Tryd.ntmps65
   go_wp2_with (first
    | (go_at_call 74;(with_reducible refine (HUv.out _).mono ?_);rintro e w2 ⟨rfl,rfl⟩)
    | (go_at_call 75;(with_reducible refine (HIn.out _).mono ?_);rintro e w4 ⟨rfl,hb4⟩;have HX4:=Lib.hid (HX.out.1.trans (hb4.mono HX.out.1.size));clear hb4)
    | (go_at_call 76;(with_reducible refine (HFl.out _).mono ?_);rintro e w5 ⟨rfl,rfl⟩))
   all_goals
    go_ret
    exact ⟨by rw [←HE.out];rfl,HX.out.1⟩
 ·skip
  by_cases hm0:ml = []
  case neg=>
   obtain ⟨f1,f2,f3⟩:=bytes_ne HM.out.2 hm0
   have HE:=Lib.hid (show (20:Int)=R by rw [←HR.out];refine Eq.symm ?_;exact one20 (.inr (.inr (.inl (stray_m hm0 (show (2:Int)≠3 by decide))))))
   clear hm0
   go_enter Tryd.func65,Tryd.ntmps65
   go_wp2_with (first
    | (go_at_call 74;(with_reducible refine (HUv.out _).mono ?_);rintro e w2 ⟨rfl,rfl⟩)
    | (go_at_call 75;(with_reducible refine (HIn.out _).mono ?_);rintro e w4 ⟨rfl,hb4⟩;have HX4:=Lib.hid (HX.out.1.trans (hb4.mono HX.out.1.size));clear hb4)
    | (go_at_call 76;(with_reducible refine (HFl.out _).mono ?_);rintro e w5 ⟨rfl,rfl⟩))
   all_goals
    go_ret
    exact ⟨by rw [←HE.out];rfl,HX.out.1⟩
  subst hm0
  obtain rfl:mb=⟨#[]⟩:=HM.out.2.symm
  by_cases hb0:b=0
  case neg=>
   have g1:(b != 0)=true:=by simpa using hb0
   have g2:¬b=0:=hb0
   have HE:=Lib.hid (show (20:Int)=R by rw [←HR.out];refine Eq.symm ?_;exact one20 (.inr (.inr (.inl (stray_b hb0 (show (2:Int)≠4 by decide))))))
   clear hb0
   go_enter Tryd.func65,Tryd.ntmps65
   go_wp2_with (first
    | (go_at_call 74;(with_reducible refine (HUv.out _).mono ?_);rintro e w2 ⟨rfl,rfl⟩)
    | (go_at_call 75;(with_reducible refine (HIn.out _).mono ?_);rintro e w4 ⟨rfl,hb4⟩;have HX4:=Lib.hid (HX.out.1.trans (hb4.mono HX.out.1.size));clear hb4)
    | (go_at_call 76;(with_reducible refine (HFl.out _).mono ?_);rintro e w5 ⟨rfl,rfl⟩))
   all_goals
    go_ret
    exact ⟨by rw [←HE.out];rfl,HX.out.1⟩
  subst hb0
  by_cases hv0:v=0
  case neg=>
   have g1:(v != 0)=true:=by simpa using hv0
   have g2:¬v=0:=hv0
   have HE:=Lib.hid (show (20:Int)=R by rw [←HR.out];refine Eq.symm ?_;exact one20 (.inr (.inr (.inl (stray_v hv0 (show (2:Int)≠1 by decide))))))
   clear hv0
   go_enter Tryd.func65,Tryd.ntmps65
   go_wp2_with (first
    | (go_at_call 74;(with_reducible refine (HUv.out _).mono ?_);rintro e w2 ⟨rfl,rfl⟩)
    | (go_at_call 75;(with_reducible refine (HIn.out _).mono ?_);rintro e w4 ⟨rfl,hb4⟩;have HX4:=Lib.hid (HX.out.1.trans (hb4.mono HX.out.1.size));clear hb4)
    | (go_at_call 76;(with_reducible refine (HFl.out _).mono ?_);rintro e w5 ⟨rfl,rfl⟩))
   all_goals
    go_ret
    exact ⟨by rw [←HE.out];rfl,HX.out.1⟩
  subst hv0
  by_cases hL0:L=0
  case neg=>
   have g1:(0:Int)<(L:Int):=by omega
   have HE:=Lib.hid (show (20:Int)=R by rw [←HR.out];refine Eq.symm ?_;exact one20 (.inr (.inr (.inl (stray_l (show ts.length≠0 by rw [HD.out.2.2.2.2];exact hL0) (show (2:Int)≠5 by decide))))))
   clear hL0
   go_enter Tryd.func65,Tryd.ntmps65
   go_wp2_with (first
    | (go_at_call 74;(with_reducible refine (HUv.out _).mono ?_);rintro e w2 ⟨rfl,rfl⟩)
    | (go_at_call 75;(with_reducible refine (HIn.out _).mono ?_);rintro e w4 ⟨rfl,hb4⟩;have HX4:=Lib.hid (HX.out.1.trans (hb4.mono HX.out.1.size));clear hb4)
    | (go_at_call 76;(with_reducible refine (HFl.out _).mono ?_);rintro e w5 ⟨rfl,rfl⟩))
   all_goals
    go_ret
    exact ⟨by rw [←HE.out];rfl,HX.out.1⟩
  subst hL0
  have hgo:=Lib.hid (one_go (t:=.mk 2 nl [] 0 0 ts) (fun h=>by
   have hs:=stray_no (t:=.mk 2 nl [] 0 0 ts) (.inr (.inl rfl)) (.inl rfl) (.inl rfl) (.inl rfl) (.inl HD.out.2.2.2.2)
   rcases h with h | h | h | h | h
   ·exact absurd h (by show ¬(2:Int)<1;omega)
   ·exact absurd h (by show ¬(5:Int)<2;omega)
   ·rw [hs] at h;cases h
   ·exact absurd h (by show ¬(0:Int)<0;omega)
   ·exact absurd h (fun h=>absurd h.1 (show (2:Int)≠5 by decide))))
  cases U
  ·skip
   have HE:=Lib.hid (show (21:Int)=R by rw [←HR.out];refine Eq.symm ?_;exact hgo.out.trans (if_pos (.inl HD.out.1)))
   go_enter Tryd.func65,Tryd.ntmps65
   go_wp2_with (first
    | (go_at_call 74;(with_reducible refine (HUv.out _).mono ?_);rintro e w2 ⟨rfl,rfl⟩)
    | (go_at_call 75;(with_reducible refine (HIn.out _).mono ?_);rintro e w4 ⟨rfl,hb4⟩;have HX4:=Lib.hid (HX.out.1.trans (hb4.mono HX.out.1.size));clear hb4)
    | (go_at_call 76;(with_reducible refine (HFl.out _).mono ?_);rintro e w5 ⟨rfl,rfl⟩))
   all_goals
    go_ret
    exact ⟨by rw [←HE.out];rfl,HX.out.1⟩
  by_cases h1000:1000<N
  ·have h1I:(1000:Int)<(N:Int):=by omega
   have HE:=Lib.hid (show (21:Int)=R by rw [←HR.out];refine Eq.symm ?_;exact hgo.out.trans (if_pos (.inr (by show 1000<(nl:List UInt8).length;rw [HD.out.2.1];exact h1000))))
   clear h1000
   go_enter Tryd.func65,Tryd.ntmps65
   go_wp2_with (first
    | (go_at_call 74;(with_reducible refine (HUv.out _).mono ?_);rintro e w2 ⟨rfl,rfl⟩)
    | (go_at_call 75;(with_reducible refine (HIn.out _).mono ?_);rintro e w4 ⟨rfl,hb4⟩;have HX4:=Lib.hid (HX.out.1.trans (hb4.mono HX.out.1.size));clear hb4)
    | (go_at_call 76;(with_reducible refine (HFl.out _).mono ?_);rintro e w5 ⟨rfl,rfl⟩))
   all_goals
    go_ret
    exact ⟨by rw [←HE.out];rfl,HX.out.1⟩
  have h1I:¬(1000:Int)<(N:Int):=by omega
  have h1J:(N:Int)≤1000:=by omega
  have HU2:=Lib.hid (show ¬(Lib.validD nl=false∨1000<(nl:List UInt8).length) from fun h=>by
   rcases h with h | h
   ·rw [HD.out.1] at h;cases h
   ·rw [HD.out.2.1] at h;exact h1000 h)
  clear h1000
  have HE:=Lib.hid (show (0:Int)=R by rw [←HR.out];refine Eq.symm ?_;exact hgo.out.trans ((if_neg HU2.out).trans ((if_neg (fun h=>absurd h.1 (show (2:Int)≠3 by decide))).trans (if_neg (fun h=>absurd h.1 (show (2:Int)≠4 by decide))))))
  go_enter Tryd.func65,Tryd.ntmps65
  go_wp2_with (first
   | (go_at_call 74;(with_reducible refine (HUv.out _).mono ?_);rintro e w2 ⟨rfl,rfl⟩)
   | (go_at_call 75;(with_reducible refine (HIn.out _).mono ?_);rintro e w4 ⟨rfl,hb4⟩;have HX4:=Lib.hid (HX.out.1.trans (hb4.mono HX.out.1.size));clear hb4)
   | (go_at_call 76;(with_reducible refine (HFl.out _).mono ?_);rintro e w5 ⟨rfl,rfl⟩))
  all_goals
   go_ret
   exact ⟨by rw [←HE.out];rfl,HX.out.1⟩
 ·skip
  by_cases hn0:nl = []
  case neg=>
   obtain ⟨e1,e2,e3⟩:=bytes_ne HM.out.1 hn0
   have HE:=Lib.hid (show (20:Int)=R by rw [←HR.out];refine Eq.symm ?_;exact one20 (.inr (.inr (.inl (stray_n hn0 (show (3:Int)≠2 by decide) (show (3:Int)≠5 by decide))))))
   clear hn0
   go_enter Tryd.func65,Tryd.ntmps65
   go_wp2_with (first
    | (go_at_call 74;(with_reducible refine (HUv.out _).mono ?_);rintro e w2 ⟨rfl,rfl⟩)
    | (go_at_call 75;(with_reducible refine (HIn.out _).mono ?_);rintro e w4 ⟨rfl,hb4⟩;have HX4:=Lib.hid (HX.out.1.trans (hb4.mono HX.out.1.size));clear hb4)
    | (go_at_call 76;(with_reducible refine (HFl.out _).mono ?_);rintro e w5 ⟨rfl,rfl⟩))
   all_goals
    go_ret
    exact ⟨by rw [←HE.out];rfl,HX.out.1⟩
  subst hn0
  obtain rfl:nb=⟨#[]⟩:=HM.out.1.symm
  by_cases hmz:ml = []
  ·subst hmz
   obtain rfl:mb=⟨#[]⟩:=HM.out.2.symm
   by_cases hb0:b=0
   case neg=>
    have g1:(b != 0)=true:=by simpa using hb0
    have g2:¬b=0:=hb0
    have HE:=Lib.hid (show (20:Int)=R by rw [←HR.out];refine Eq.symm ?_;exact one20 (.inr (.inr (.inl (stray_b hb0 (show (3:Int)≠4 by decide))))))
    clear hb0
    go_enter Tryd.func65,Tryd.ntmps65
    go_wp2_with (first
     | (go_at_call 74;(with_reducible refine (HUv.out _).mono ?_);rintro e w2 ⟨rfl,rfl⟩)
     | (go_at_call 75;(with_reducible refine (HIn.out _).mono ?_);rintro e w4 ⟨rfl,hb4⟩;have HX4:=Lib.hid (HX.out.1.trans (hb4.mono HX.out.1.size));clear hb4)
     | (go_at_call 76;(with_reducible refine (HFl.out _).mono ?_);rintro e w5 ⟨rfl,rfl⟩))
    all_goals
     go_ret
     exact ⟨by rw [←HE.out];rfl,HX.out.1⟩
   subst hb0
   by_cases hv0:v=0
   case neg=>
    have g1:(v != 0)=true:=by simpa using hv0
    have g2:¬v=0:=hv0
    have HE:=Lib.hid (show (20:Int)=R by rw [←HR.out];refine Eq.symm ?_;exact one20 (.inr (.inr (.inl (stray_v hv0 (show (3:Int)≠1 by decide))))))
    clear hv0
    go_enter Tryd.func65,Tryd.ntmps65
    go_wp2_with (first
     | (go_at_call 74;(with_reducible refine (HUv.out _).mono ?_);rintro e w2 ⟨rfl,rfl⟩)
     | (go_at_call 75;(with_reducible refine (HIn.out _).mono ?_);rintro e w4 ⟨rfl,hb4⟩;have HX4:=Lib.hid (HX.out.1.trans (hb4.mono HX.out.1.size));clear hb4)
     | (go_at_call 76;(with_reducible refine (HFl.out _).mono ?_);rintro e w5 ⟨rfl,rfl⟩))
    all_goals
     go_ret
     exact ⟨by rw [←HE.out];rfl,HX.out.1⟩
   subst hv0
   by_cases hL0:L=0
   case neg=>
    have g1:(0:Int)<(L:Int):=by omega
    have HE:=Lib.hid (show (20:Int)=R by rw [←HR.out];refine Eq.symm ?_;exact one20 (.inr (.inr (.inl (stray_l (show ts.length≠0 by rw [HD.out.2.2.2.2];exact hL0) (show (3:Int)≠5 by decide))))))
    clear hL0
    go_enter Tryd.func65,Tryd.ntmps65
    go_wp2_with (first
     | (go_at_call 74;(with_reducible refine (HUv.out _).mono ?_);rintro e w2 ⟨rfl,rfl⟩)
     | (go_at_call 75;(with_reducible refine (HIn.out _).mono ?_);rintro e w4 ⟨rfl,hb4⟩;have HX4:=Lib.hid (HX.out.1.trans (hb4.mono HX.out.1.size));clear hb4)
     | (go_at_call 76;(with_reducible refine (HFl.out _).mono ?_);rintro e w5 ⟨rfl,rfl⟩))
    all_goals
     go_ret
     exact ⟨by rw [←HE.out];rfl,HX.out.1⟩
   subst hL0
   have hgo:=Lib.hid (one_go (t:=.mk 3 [] [] 0 0 ts) (fun h=>by
    have hs:=stray_no (t:=.mk 3 [] [] 0 0 ts) (.inl rfl) (.inr rfl) (.inl rfl) (.inl rfl) (.inl HD.out.2.2.2.2)
    rcases h with h | h | h | h | h
    ·exact absurd h (by show ¬(3:Int)<1;omega)
    ·exact absurd h (by show ¬(5:Int)<3;omega)
    ·rw [hs] at h;cases h
    ·exact absurd h (by show ¬(0:Int)<0;omega)
    ·exact absurd h (fun h=>absurd h.1 (show (3:Int)≠5 by decide))))
   cases U
   ·skip
    have HE:=Lib.hid (show (21:Int)=R by rw [←HR.out];refine Eq.symm ?_;exact hgo.out.trans (if_pos (.inl HD.out.1)))
    go_enter Tryd.func65,Tryd.ntmps65
    go_wp2_with (first
     | (go_at_call 74;(with_reducible refine (HUv.out _).mono ?_);rintro e w2 ⟨rfl,rfl⟩)
     | (go_at_call 75;(with_reducible refine (HIn.out _).mono ?_);rintro e w4 ⟨rfl,hb4⟩;have HX4:=Lib.hid (HX.out.1.trans (hb4.mono HX.out.1.size));clear hb4)
     | (go_at_call 76;(with_reducible refine (HFl.out _).mono ?_);rintro e w5 ⟨rfl,rfl⟩))
    all_goals
     go_ret
     exact ⟨by rw [←HE.out];rfl,HX.out.1⟩
   by_cases h1000:1000<N
   ·have h1I:(1000:Int)<(N:Int):=by omega
    have HE:=Lib.hid (show (21:Int)=R by rw [←HR.out];refine Eq.symm ?_;exact hgo.out.trans (if_pos (.inr (by show 1000<([]:List UInt8).length;rw [HD.out.2.1];exact h1000))))
    clear h1000
    go_enter Tryd.func65,Tryd.ntmps65
    go_wp2_with (first
     | (go_at_call 74;(with_reducible refine (HUv.out _).mono ?_);rintro e w2 ⟨rfl,rfl⟩)
     | (go_at_call 75;(with_reducible refine (HIn.out _).mono ?_);rintro e w4 ⟨rfl,hb4⟩;have HX4:=Lib.hid (HX.out.1.trans (hb4.mono HX.out.1.size));clear hb4)
     | (go_at_call 76;(with_reducible refine (HFl.out _).mono ?_);rintro e w5 ⟨rfl,rfl⟩))
    all_goals
     go_ret
     exact ⟨by rw [←HE.out];rfl,HX.out.1⟩
   have h1I:¬(1000:Int)<(N:Int):=by omega
   have h1J:(N:Int)≤1000:=by omega
   have HU2:=Lib.hid (show ¬(Lib.validD []=false∨1000<([]:List UInt8).length) from fun h=>by
    rcases h with h | h
    ·rw [HD.out.1] at h;cases h
    ·rw [HD.out.2.1] at h;exact h1000 h)
   clear h1000
   cases C
   ·skip
    have HE:=Lib.hid (show (22:Int)=R by rw [←HR.out];refine Eq.symm ?_;exact hgo.out.trans ((if_neg HU2.out).trans (if_pos ⟨rfl,HD.out.2.2.1⟩)))
    go_enter Tryd.func65,Tryd.ntmps65
    go_wp2_with (first
     | (go_at_call 74;(with_reducible refine (HUv.out _).mono ?_);rintro e w2 ⟨rfl,rfl⟩)
     | (go_at_call 75;(with_reducible refine (HIn.out _).mono ?_);rintro e w4 ⟨rfl,hb4⟩;have HX4:=Lib.hid (HX.out.1.trans (hb4.mono HX.out.1.size));clear hb4)
     | (go_at_call 76;(with_reducible refine (HFl.out _).mono ?_);rintro e w5 ⟨rfl,rfl⟩))
    all_goals
     go_ret
     exact ⟨by rw [←HE.out];rfl,HX4.out⟩
   ·skip
    have HE:=Lib.hid (show (0:Int)=R by rw [←HR.out];refine Eq.symm ?_;exact hgo.out.trans ((if_neg HU2.out).trans ((if_neg (fun h=>by have h2:=h.2;change canonB []=false at h2;rw [HD.out.2.2.1] at h2;cases h2)).trans (if_neg (fun h=>absurd h.1 (show (3:Int)≠4 by decide))))))
    go_enter Tryd.func65,Tryd.ntmps65
    go_wp2_with (first
     | (go_at_call 74;(with_reducible refine (HUv.out _).mono ?_);rintro e w2 ⟨rfl,rfl⟩)
     | (go_at_call 75;(with_reducible refine (HIn.out _).mono ?_);rintro e w4 ⟨rfl,hb4⟩;have HX4:=Lib.hid (HX.out.1.trans (hb4.mono HX.out.1.size));clear hb4)
     | (go_at_call 76;(with_reducible refine (HFl.out _).mono ?_);rintro e w5 ⟨rfl,rfl⟩))
    all_goals
     go_ret
     exact ⟨by rw [←HE.out];rfl,HX4.out⟩
  ·obtain ⟨f1,f2,f3⟩:=bytes_ne HM.out.2 hmz
   clear hmz
   by_cases hb0:b=0
   case neg=>
    have g1:(b != 0)=true:=by simpa using hb0
    have g2:¬b=0:=hb0
    have HE:=Lib.hid (show (20:Int)=R by rw [←HR.out];refine Eq.symm ?_;exact one20 (.inr (.inr (.inl (stray_b hb0 (show (3:Int)≠4 by decide))))))
    clear hb0
    go_enter Tryd.func65,Tryd.ntmps65
    go_wp2_with (first
     | (go_at_call 74;(with_reducible refine (HUv.out _).mono ?_);rintro e w2 ⟨rfl,rfl⟩)
     | (go_at_call 75;(with_reducible refine (HIn.out _).mono ?_);rintro e w4 ⟨rfl,hb4⟩;have HX4:=Lib.hid (HX.out.1.trans (hb4.mono HX.out.1.size));clear hb4)
     | (go_at_call 76;(with_reducible refine (HFl.out _).mono ?_);rintro e w5 ⟨rfl,rfl⟩))
    all_goals
     go_ret
     exact ⟨by rw [←HE.out];rfl,HX.out.1⟩
   subst hb0
   by_cases hv0:v=0
   case neg=>
    have g1:(v != 0)=true:=by simpa using hv0
    have g2:¬v=0:=hv0
    have HE:=Lib.hid (show (20:Int)=R by rw [←HR.out];refine Eq.symm ?_;exact one20 (.inr (.inr (.inl (stray_v hv0 (show (3:Int)≠1 by decide))))))
    clear hv0
    go_enter Tryd.func65,Tryd.ntmps65
    go_wp2_with (first
     | (go_at_call 74;(with_reducible refine (HUv.out _).mono ?_);rintro e w2 ⟨rfl,rfl⟩)
     | (go_at_call 75;(with_reducible refine (HIn.out _).mono ?_);rintro e w4 ⟨rfl,hb4⟩;have HX4:=Lib.hid (HX.out.1.trans (hb4.mono HX.out.1.size));clear hb4)
     | (go_at_call 76;(with_reducible refine (HFl.out _).mono ?_);rintro e w5 ⟨rfl,rfl⟩))
    all_goals
     go_ret
     exact ⟨by rw [←HE.out];rfl,HX.out.1⟩
   subst hv0
   by_cases hL0:L=0
   case neg=>
    have g1:(0:Int)<(L:Int):=by omega
    have HE:=Lib.hid (show (20:Int)=R by rw [←HR.out];refine Eq.symm ?_;exact one20 (.inr (.inr (.inl (stray_l (show ts.length≠0 by rw [HD.out.2.2.2.2];exact hL0) (show (3:Int)≠5 by decide))))))
    clear hL0
    go_enter Tryd.func65,Tryd.ntmps65
    go_wp2_with (first
     | (go_at_call 74;(with_reducible refine (HUv.out _).mono ?_);rintro e w2 ⟨rfl,rfl⟩)
     | (go_at_call 75;(with_reducible refine (HIn.out _).mono ?_);rintro e w4 ⟨rfl,hb4⟩;have HX4:=Lib.hid (HX.out.1.trans (hb4.mono HX.out.1.size));clear hb4)
     | (go_at_call 76;(with_reducible refine (HFl.out _).mono ?_);rintro e w5 ⟨rfl,rfl⟩))
    all_goals
     go_ret
     exact ⟨by rw [←HE.out];rfl,HX.out.1⟩
   subst hL0
   have hgo:=Lib.hid (one_go (t:=.mk 3 [] ml 0 0 ts) (fun h=>by
    have hs:=stray_no (t:=.mk 3 [] ml 0 0 ts) (.inl rfl) (.inr rfl) (.inl rfl) (.inl rfl) (.inl HD.out.2.2.2.2)
    rcases h with h | h | h | h | h
    ·exact absurd h (by show ¬(3:Int)<1;omega)
    ·exact absurd h (by show ¬(5:Int)<3;omega)
    ·rw [hs] at h;cases h
    ·exact absurd h (by show ¬(0:Int)<0;omega)
    ·exact absurd h (fun h=>absurd h.1 (show (3:Int)≠5 by decide))))
   cases U
   ·skip
    have HE:=Lib.hid (show (21:Int)=R by rw [←HR.out];refine Eq.symm ?_;exact hgo.out.trans (if_pos (.inl HD.out.1)))
    go_enter Tryd.func65,Tryd.ntmps65
    go_wp2_with (first
     | (go_at_call 74;(with_reducible refine (HUv.out _).mono ?_);rintro e w2 ⟨rfl,rfl⟩)
     | (go_at_call 75;(with_reducible refine (HIn.out _).mono ?_);rintro e w4 ⟨rfl,hb4⟩;have HX4:=Lib.hid (HX.out.1.trans (hb4.mono HX.out.1.size));clear hb4)
     | (go_at_call 76;(with_reducible refine (HFl.out _).mono ?_);rintro e w5 ⟨rfl,rfl⟩))
    all_goals
     go_ret
     exact ⟨by rw [←HE.out];rfl,HX.out.1⟩
   by_cases h1000:1000<N
   ·have h1I:(1000:Int)<(N:Int):=by omega
    have HE:=Lib.hid (show (21:Int)=R by rw [←HR.out];refine Eq.symm ?_;exact hgo.out.trans (if_pos (.inr (by show 1000<([]:List UInt8).length;rw [HD.out.2.1];exact h1000))))
    clear h1000
    go_enter Tryd.func65,Tryd.ntmps65
    go_wp2_with (first
     | (go_at_call 74;(with_reducible refine (HUv.out _).mono ?_);rintro e w2 ⟨rfl,rfl⟩)
     | (go_at_call 75;(with_reducible refine (HIn.out _).mono ?_);rintro e w4 ⟨rfl,hb4⟩;have HX4:=Lib.hid (HX.out.1.trans (hb4.mono HX.out.1.size));clear hb4)
     | (go_at_call 76;(with_reducible refine (HFl.out _).mono ?_);rintro e w5 ⟨rfl,rfl⟩))
    all_goals
     go_ret
     exact ⟨by rw [←HE.out];rfl,HX.out.1⟩
   have h1I:¬(1000:Int)<(N:Int):=by omega
   have h1J:(N:Int)≤1000:=by omega
   have HU2:=Lib.hid (show ¬(Lib.validD []=false∨1000<([]:List UInt8).length) from fun h=>by
    rcases h with h | h
    ·rw [HD.out.1] at h;cases h
    ·rw [HD.out.2.1] at h;exact h1000 h)
   clear h1000
   cases C
   ·skip
    have HE:=Lib.hid (show (22:Int)=R by rw [←HR.out];refine Eq.symm ?_;exact hgo.out.trans ((if_neg HU2.out).trans (if_pos ⟨rfl,HD.out.2.2.1⟩)))
    go_enter Tryd.func65,Tryd.ntmps65
    go_wp2_with (first
     | (go_at_call 74;(with_reducible refine (HUv.out _).mono ?_);rintro e w2 ⟨rfl,rfl⟩)
     | (go_at_call 75;(with_reducible refine (HIn.out _).mono ?_);rintro e w4 ⟨rfl,hb4⟩;have HX4:=Lib.hid (HX.out.1.trans (hb4.mono HX.out.1.size));clear hb4)
     | (go_at_call 76;(with_reducible refine (HFl.out _).mono ?_);rintro e w5 ⟨rfl,rfl⟩))
    all_goals
     go_ret
     exact ⟨by rw [←HE.out];rfl,HX4.out⟩
   ·skip
    have HE:=Lib.hid (show (0:Int)=R by rw [←HR.out];refine Eq.symm ?_;exact hgo.out.trans ((if_neg HU2.out).trans ((if_neg (fun h=>by have h2:=h.2;change canonB ml=false at h2;rw [HD.out.2.2.1] at h2;cases h2)).trans (if_neg (fun h=>absurd h.1 (show (3:Int)≠4 by decide))))))
    go_enter Tryd.func65,Tryd.ntmps65
    go_wp2_with (first
     | (go_at_call 74;(with_reducible refine (HUv.out _).mono ?_);rintro e w2 ⟨rfl,rfl⟩)
     | (go_at_call 75;(with_reducible refine (HIn.out _).mono ?_);rintro e w4 ⟨rfl,hb4⟩;have HX4:=Lib.hid (HX.out.1.trans (hb4.mono HX.out.1.size));clear hb4)
     | (go_at_call 76;(with_reducible refine (HFl.out _).mono ?_);rintro e w5 ⟨rfl,rfl⟩))
    all_goals
     go_ret
     exact ⟨by rw [←HE.out];rfl,HX4.out⟩
 ·skip
  by_cases hn0:nl = []
  case neg=>
   obtain ⟨e1,e2,e3⟩:=bytes_ne HM.out.1 hn0
   have HE:=Lib.hid (show (20:Int)=R by rw [←HR.out];refine Eq.symm ?_;exact one20 (.inr (.inr (.inl (stray_n hn0 (show (4:Int)≠2 by decide) (show (4:Int)≠5 by decide))))))
   clear hn0
   go_enter Tryd.func65,Tryd.ntmps65
   go_wp2_with (first
    | (go_at_call 74;(with_reducible refine (HUv.out _).mono ?_);rintro e w2 ⟨rfl,rfl⟩)
    | (go_at_call 75;(with_reducible refine (HIn.out _).mono ?_);rintro e w4 ⟨rfl,hb4⟩;have HX4:=Lib.hid (HX.out.1.trans (hb4.mono HX.out.1.size));clear hb4)
    | (go_at_call 76;(with_reducible refine (HFl.out _).mono ?_);rintro e w5 ⟨rfl,rfl⟩))
   all_goals
    go_ret
    exact ⟨by rw [←HE.out];rfl,HX.out.1⟩
  subst hn0
  obtain rfl:nb=⟨#[]⟩:=HM.out.1.symm
  by_cases hm0:ml = []
  case neg=>
   obtain ⟨f1,f2,f3⟩:=bytes_ne HM.out.2 hm0
   have HE:=Lib.hid (show (20:Int)=R by rw [←HR.out];refine Eq.symm ?_;exact one20 (.inr (.inr (.inl (stray_m hm0 (show (4:Int)≠3 by decide))))))
   clear hm0
   go_enter Tryd.func65,Tryd.ntmps65
   go_wp2_with (first
    | (go_at_call 74;(with_reducible refine (HUv.out _).mono ?_);rintro e w2 ⟨rfl,rfl⟩)
    | (go_at_call 75;(with_reducible refine (HIn.out _).mono ?_);rintro e w4 ⟨rfl,hb4⟩;have HX4:=Lib.hid (HX.out.1.trans (hb4.mono HX.out.1.size));clear hb4)
    | (go_at_call 76;(with_reducible refine (HFl.out _).mono ?_);rintro e w5 ⟨rfl,rfl⟩))
   all_goals
    go_ret
    exact ⟨by rw [←HE.out];rfl,HX.out.1⟩
  subst hm0
  obtain rfl:mb=⟨#[]⟩:=HM.out.2.symm
  by_cases hbz:b=0
  ·subst hbz
   by_cases hv0:v=0
   case neg=>
    have g1:(v != 0)=true:=by simpa using hv0
    have g2:¬v=0:=hv0
    have HE:=Lib.hid (show (20:Int)=R by rw [←HR.out];refine Eq.symm ?_;exact one20 (.inr (.inr (.inl (stray_v hv0 (show (4:Int)≠1 by decide))))))
    clear hv0
    go_enter Tryd.func65,Tryd.ntmps65
    go_wp2_with (first
     | (go_at_call 74;(with_reducible refine (HUv.out _).mono ?_);rintro e w2 ⟨rfl,rfl⟩)
     | (go_at_call 75;(with_reducible refine (HIn.out _).mono ?_);rintro e w4 ⟨rfl,hb4⟩;have HX4:=Lib.hid (HX.out.1.trans (hb4.mono HX.out.1.size));clear hb4)
     | (go_at_call 76;(with_reducible refine (HFl.out _).mono ?_);rintro e w5 ⟨rfl,rfl⟩))
    all_goals
     go_ret
     exact ⟨by rw [←HE.out];rfl,HX.out.1⟩
   subst hv0
   by_cases hL0:L=0
   case neg=>
    have g1:(0:Int)<(L:Int):=by omega
    have HE:=Lib.hid (show (20:Int)=R by rw [←HR.out];refine Eq.symm ?_;exact one20 (.inr (.inr (.inl (stray_l (show ts.length≠0 by rw [HD.out.2.2.2.2];exact hL0) (show (4:Int)≠5 by decide))))))
    clear hL0
    go_enter Tryd.func65,Tryd.ntmps65
    go_wp2_with (first
     | (go_at_call 74;(with_reducible refine (HUv.out _).mono ?_);rintro e w2 ⟨rfl,rfl⟩)
     | (go_at_call 75;(with_reducible refine (HIn.out _).mono ?_);rintro e w4 ⟨rfl,hb4⟩;have HX4:=Lib.hid (HX.out.1.trans (hb4.mono HX.out.1.size));clear hb4)
     | (go_at_call 76;(with_reducible refine (HFl.out _).mono ?_);rintro e w5 ⟨rfl,rfl⟩))
    all_goals
     go_ret
     exact ⟨by rw [←HE.out];rfl,HX.out.1⟩
   subst hL0
   have hgo:=Lib.hid (one_go (t:=.mk 4 [] [] 0 0 ts) (fun h=>by
    have hs:=stray_no (t:=.mk 4 [] [] 0 0 ts) (.inl rfl) (.inl rfl) (.inr rfl) (.inl rfl) (.inl HD.out.2.2.2.2)
    rcases h with h | h | h | h | h
    ·exact absurd h (by show ¬(4:Int)<1;omega)
    ·exact absurd h (by show ¬(5:Int)<4;omega)
    ·rw [hs] at h;cases h
    ·exact absurd h (by show ¬(0:Int)<0;omega)
    ·exact absurd h (fun h=>absurd h.1 (show (4:Int)≠5 by decide))))
   cases U
   ·skip
    have HE:=Lib.hid (show (21:Int)=R by rw [←HR.out];refine Eq.symm ?_;exact hgo.out.trans (if_pos (.inl HD.out.1)))
    go_enter Tryd.func65,Tryd.ntmps65
    go_wp2_with (first
     | (go_at_call 74;(with_reducible refine (HUv.out _).mono ?_);rintro e w2 ⟨rfl,rfl⟩)
     | (go_at_call 75;(with_reducible refine (HIn.out _).mono ?_);rintro e w4 ⟨rfl,hb4⟩;have HX4:=Lib.hid (HX.out.1.trans (hb4.mono HX.out.1.size));clear hb4)
     | (go_at_call 76;(with_reducible refine (HFl.out _).mono ?_);rintro e w5 ⟨rfl,rfl⟩))
    all_goals
     go_ret
     exact ⟨by rw [←HE.out];rfl,HX.out.1⟩
   by_cases h1000:1000<N
   ·have h1I:(1000:Int)<(N:Int):=by omega
    have HE:=Lib.hid (show (21:Int)=R by rw [←HR.out];refine Eq.symm ?_;exact hgo.out.trans (if_pos (.inr (by show 1000<([]:List UInt8).length;rw [HD.out.2.1];exact h1000))))
    clear h1000
    go_enter Tryd.func65,Tryd.ntmps65
    go_wp2_with (first
     | (go_at_call 74;(with_reducible refine (HUv.out _).mono ?_);rintro e w2 ⟨rfl,rfl⟩)
     | (go_at_call 75;(with_reducible refine (HIn.out _).mono ?_);rintro e w4 ⟨rfl,hb4⟩;have HX4:=Lib.hid (HX.out.1.trans (hb4.mono HX.out.1.size));clear hb4)
     | (go_at_call 76;(with_reducible refine (HFl.out _).mono ?_);rintro e w5 ⟨rfl,rfl⟩))
    all_goals
     go_ret
     exact ⟨by rw [←HE.out];rfl,HX.out.1⟩
   have h1I:¬(1000:Int)<(N:Int):=by omega
   have h1J:(N:Int)≤1000:=by omega
   have HU2:=Lib.hid (show ¬(Lib.validD []=false∨1000<([]:List UInt8).length) from fun h=>by
    rcases h with h | h
    ·rw [HD.out.1] at h;cases h
    ·rw [HD.out.2.1] at h;exact h1000 h)
   clear h1000
   cases F
   ·skip
    have HE:=Lib.hid (show (23:Int)=R by rw [←HR.out];refine Eq.symm ?_;exact hgo.out.trans ((if_neg HU2.out).trans ((if_neg (fun h=>absurd h.1 (show (4:Int)≠3 by decide))).trans (if_pos ⟨rfl,HD.out.2.2.2.1⟩))))
    go_enter Tryd.func65,Tryd.ntmps65
    go_wp2_with (first
     | (go_at_call 74;(with_reducible refine (HUv.out _).mono ?_);rintro e w2 ⟨rfl,rfl⟩)
     | (go_at_call 75;(with_reducible refine (HIn.out _).mono ?_);rintro e w4 ⟨rfl,hb4⟩;have HX4:=Lib.hid (HX.out.1.trans (hb4.mono HX.out.1.size));clear hb4)
     | (go_at_call 76;(with_reducible refine (HFl.out _).mono ?_);rintro e w5 ⟨rfl,rfl⟩))
    all_goals
     go_ret
     exact ⟨by rw [←HE.out];rfl,HX.out.1⟩
   ·skip
    have HE:=Lib.hid (show (0:Int)=R by rw [←HR.out];refine Eq.symm ?_;exact hgo.out.trans ((if_neg HU2.out).trans ((if_neg (fun h=>absurd h.1 (show (4:Int)≠3 by decide))).trans (if_neg (fun h=>by have h2:=h.2;change floB 0=false at h2;rw [HD.out.2.2.2.1] at h2;cases h2)))))
    go_enter Tryd.func65,Tryd.ntmps65
    go_wp2_with (first
     | (go_at_call 74;(with_reducible refine (HUv.out _).mono ?_);rintro e w2 ⟨rfl,rfl⟩)
     | (go_at_call 75;(with_reducible refine (HIn.out _).mono ?_);rintro e w4 ⟨rfl,hb4⟩;have HX4:=Lib.hid (HX.out.1.trans (hb4.mono HX.out.1.size));clear hb4)
     | (go_at_call 76;(with_reducible refine (HFl.out _).mono ?_);rintro e w5 ⟨rfl,rfl⟩))
    all_goals
     go_ret
     exact ⟨by rw [←HE.out];rfl,HX.out.1⟩
  ·have g8:(b != 0)=true:=by simpa using hbz
   have g9:¬b=0:=hbz
   clear hbz
   by_cases hv0:v=0
   case neg=>
    have g1:(v != 0)=true:=by simpa using hv0
    have g2:¬v=0:=hv0
    have HE:=Lib.hid (show (20:Int)=R by rw [←HR.out];refine Eq.symm ?_;exact one20 (.inr (.inr (.inl (stray_v hv0 (show (4:Int)≠1 by decide))))))
    clear hv0
    go_enter Tryd.func65,Tryd.ntmps65
    go_wp2_with (first
     | (go_at_call 74;(with_reducible refine (HUv.out _).mono ?_);rintro e w2 ⟨rfl,rfl⟩)
     | (go_at_call 75;(with_reducible refine (HIn.out _).mono ?_);rintro e w4 ⟨rfl,hb4⟩;have HX4:=Lib.hid (HX.out.1.trans (hb4.mono HX.out.1.size));clear hb4)
     | (go_at_call 76;(with_reducible refine (HFl.out _).mono ?_);rintro e w5 ⟨rfl,rfl⟩))
    all_goals
     go_ret
     exact ⟨by rw [←HE.out];rfl,HX.out.1⟩
   subst hv0
   by_cases hL0:L=0
   case neg=>
    have g1:(0:Int)<(L:Int):=by omega
    have HE:=Lib.hid (show (20:Int)=R by rw [←HR.out];refine Eq.symm ?_;exact one20 (.inr (.inr (.inl (stray_l (show ts.length≠0 by rw [HD.out.2.2.2.2];exact hL0) (show (4:Int)≠5 by decide))))))
    clear hL0
    go_enter Tryd.func65,Tryd.ntmps65
    go_wp2_with (first
     | (go_at_call 74;(with_reducible refine (HUv.out _).mono ?_);rintro e w2 ⟨rfl,rfl⟩)
     | (go_at_call 75;(with_reducible refine (HIn.out _).mono ?_);rintro e w4 ⟨rfl,hb4⟩;have HX4:=Lib.hid (HX.out.1.trans (hb4.mono HX.out.1.size));clear hb4)
     | (go_at_call 76;(with_reducible refine (HFl.out _).mono ?_);rintro e w5 ⟨rfl,rfl⟩))
    all_goals
     go_ret
     exact ⟨by rw [←HE.out];rfl,HX.out.1⟩
   subst hL0
   have hgo:=Lib.hid (one_go (t:=.mk 4 [] [] b 0 ts) (fun h=>by
    have hs:=stray_no (t:=.mk 4 [] [] b 0 ts) (.inl rfl) (.inl rfl) (.inr rfl) (.inl rfl) (.inl HD.out.2.2.2.2)
    rcases h with h | h | h | h | h
    ·exact absurd h (by show ¬(4:Int)<1;omega)
    ·exact absurd h (by show ¬(5:Int)<4;omega)
    ·rw [hs] at h;cases h
    ·exact absurd h (by show ¬(0:Int)<0;omega)
    ·exact absurd h (fun h=>absurd h.1 (show (4:Int)≠5 by decide))))
   cases U
   ·skip
    have HE:=Lib.hid (show (21:Int)=R by rw [←HR.out];refine Eq.symm ?_;exact hgo.out.trans (if_pos (.inl HD.out.1)))
    go_enter Tryd.func65,Tryd.ntmps65
    go_wp2_with (first
     | (go_at_call 74;(with_reducible refine (HUv.out _).mono ?_);rintro e w2 ⟨rfl,rfl⟩)
     | (go_at_call 75;(with_reducible refine (HIn.out _).mono ?_);rintro e w4 ⟨rfl,hb4⟩;have HX4:=Lib.hid (HX.out.1.trans (hb4.mono HX.out.1.size));clear hb4)
     | (go_at_call 76;(with_reducible refine (HFl.out _).mono ?_);rintro e w5 ⟨rfl,rfl⟩))
    all_goals
     go_ret
     exact ⟨by rw [←HE.out];rfl,HX.out.1⟩
   by_cases h1000:1000<N
   ·have h1I:(1000:Int)<(N:Int):=by omega
    have HE:=Lib.hid (show (21:Int)=R by rw [←HR.out];refine Eq.symm ?_;exact hgo.out.trans (if_pos (.inr (by show 1000<([]:List UInt8).length;rw [HD.out.2.1];exact h1000))))
    clear h1000
    go_enter Tryd.func65,Tryd.ntmps65
    go_wp2_with (first
     | (go_at_call 74;(with_reducible refine (HUv.out _).mono ?_);rintro e w2 ⟨rfl,rfl⟩)
     | (go_at_call 75;(with_reducible refine (HIn.out _).mono ?_);rintro e w4 ⟨rfl,hb4⟩;have HX4:=Lib.hid (HX.out.1.trans (hb4.mono HX.out.1.size));clear hb4)
     | (go_at_call 76;(with_reducible refine (HFl.out _).mono ?_);rintro e w5 ⟨rfl,rfl⟩))
    all_goals
     go_ret
     exact ⟨by rw [←HE.out];rfl,HX.out.1⟩
   have h1I:¬(1000:Int)<(N:Int):=by omega
   have h1J:(N:Int)≤1000:=by omega
   have HU2:=Lib.hid (show ¬(Lib.validD []=false∨1000<([]:List UInt8).length) from fun h=>by
    rcases h with h | h
    ·rw [HD.out.1] at h;cases h
    ·rw [HD.out.2.1] at h;exact h1000 h)
   clear h1000
   cases F
   ·skip
    have HE:=Lib.hid (show (23:Int)=R by rw [←HR.out];refine Eq.symm ?_;exact hgo.out.trans ((if_neg HU2.out).trans ((if_neg (fun h=>absurd h.1 (show (4:Int)≠3 by decide))).trans (if_pos ⟨rfl,HD.out.2.2.2.1⟩))))
    go_enter Tryd.func65,Tryd.ntmps65
    go_wp2_with (first
     | (go_at_call 74;(with_reducible refine (HUv.out _).mono ?_);rintro e w2 ⟨rfl,rfl⟩)
     | (go_at_call 75;(with_reducible refine (HIn.out _).mono ?_);rintro e w4 ⟨rfl,hb4⟩;have HX4:=Lib.hid (HX.out.1.trans (hb4.mono HX.out.1.size));clear hb4)
     | (go_at_call 76;(with_reducible refine (HFl.out _).mono ?_);rintro e w5 ⟨rfl,rfl⟩))
    all_goals
     go_ret
     exact ⟨by rw [←HE.out];rfl,HX.out.1⟩
   ·skip
    have HE:=Lib.hid (show (0:Int)=R by rw [←HR.out];refine Eq.symm ?_;exact hgo.out.trans ((if_neg HU2.out).trans ((if_neg (fun h=>absurd h.1 (show (4:Int)≠3 by decide))).trans (if_neg (fun h=>by have h2:=h.2;change floB b=false at h2;rw [HD.out.2.2.2.1] at h2;cases h2)))))
    go_enter Tryd.func65,Tryd.ntmps65
    go_wp2_with (first
     | (go_at_call 74;(with_reducible refine (HUv.out _).mono ?_);rintro e w2 ⟨rfl,rfl⟩)
     | (go_at_call 75;(with_reducible refine (HIn.out _).mono ?_);rintro e w4 ⟨rfl,hb4⟩;have HX4:=Lib.hid (HX.out.1.trans (hb4.mono HX.out.1.size));clear hb4)
     | (go_at_call 76;(with_reducible refine (HFl.out _).mono ?_);rintro e w5 ⟨rfl,rfl⟩))
    all_goals
     go_ret
     exact ⟨by rw [←HE.out];rfl,HX.out.1⟩
 ·skip
  by_cases hm0:ml = []
  case neg=>
   obtain ⟨f1,f2,f3⟩:=bytes_ne HM.out.2 hm0
   have HE:=Lib.hid (show (20:Int)=R by rw [←HR.out];refine Eq.symm ?_;exact one20 (.inr (.inr (.inl (stray_m hm0 (show (5:Int)≠3 by decide))))))
   clear hm0
   go_enter Tryd.func65,Tryd.ntmps65
   go_wp2_with (first
    | (go_at_call 74;(with_reducible refine (HUv.out _).mono ?_);rintro e w2 ⟨rfl,rfl⟩)
    | (go_at_call 75;(with_reducible refine (HIn.out _).mono ?_);rintro e w4 ⟨rfl,hb4⟩;have HX4:=Lib.hid (HX.out.1.trans (hb4.mono HX.out.1.size));clear hb4)
    | (go_at_call 76;(with_reducible refine (HFl.out _).mono ?_);rintro e w5 ⟨rfl,rfl⟩))
   all_goals
    go_ret
    exact ⟨by rw [←HE.out];rfl,HX.out.1⟩
  subst hm0
  obtain rfl:mb=⟨#[]⟩:=HM.out.2.symm
  by_cases hb0:b=0
  case neg=>
   have g1:(b != 0)=true:=by simpa using hb0
   have g2:¬b=0:=hb0
   have HE:=Lib.hid (show (20:Int)=R by rw [←HR.out];refine Eq.symm ?_;exact one20 (.inr (.inr (.inl (stray_b hb0 (show (5:Int)≠4 by decide))))))
   clear hb0
   go_enter Tryd.func65,Tryd.ntmps65
   go_wp2_with (first
    | (go_at_call 74;(with_reducible refine (HUv.out _).mono ?_);rintro e w2 ⟨rfl,rfl⟩)
    | (go_at_call 75;(with_reducible refine (HIn.out _).mono ?_);rintro e w4 ⟨rfl,hb4⟩;have HX4:=Lib.hid (HX.out.1.trans (hb4.mono HX.out.1.size));clear hb4)
    | (go_at_call 76;(with_reducible refine (HFl.out _).mono ?_);rintro e w5 ⟨rfl,rfl⟩))
   all_goals
    go_ret
    exact ⟨by rw [←HE.out];rfl,HX.out.1⟩
  subst hb0
  by_cases hv0:v=0
  case neg=>
   have g1:(v != 0)=true:=by simpa using hv0
   have g2:¬v=0:=hv0
   have HE:=Lib.hid (show (20:Int)=R by rw [←HR.out];refine Eq.symm ?_;exact one20 (.inr (.inr (.inl (stray_v hv0 (show (5:Int)≠1 by decide))))))
   clear hv0
   go_enter Tryd.func65,Tryd.ntmps65
   go_wp2_with (first
    | (go_at_call 74;(with_reducible refine (HUv.out _).mono ?_);rintro e w2 ⟨rfl,rfl⟩)
    | (go_at_call 75;(with_reducible refine (HIn.out _).mono ?_);rintro e w4 ⟨rfl,hb4⟩;have HX4:=Lib.hid (HX.out.1.trans (hb4.mono HX.out.1.size));clear hb4)
    | (go_at_call 76;(with_reducible refine (HFl.out _).mono ?_);rintro e w5 ⟨rfl,rfl⟩))
   all_goals
    go_ret
    exact ⟨by rw [←HE.out];rfl,HX.out.1⟩
  subst hv0
  by_cases hL0:L=0
  ·subst hL0
   have HE:=Lib.hid (show (20:Int)=R by rw [←HR.out];refine Eq.symm ?_;exact one20 (.inr (.inr (.inr (.inr ⟨rfl,.inl HD.out.2.2.2.2⟩)))))
   go_enter Tryd.func65,Tryd.ntmps65
   go_wp2_with (first
    | (go_at_call 74;(with_reducible refine (HUv.out _).mono ?_);rintro e w2 ⟨rfl,rfl⟩)
    | (go_at_call 75;(with_reducible refine (HIn.out _).mono ?_);rintro e w4 ⟨rfl,hb4⟩;have HX4:=Lib.hid (HX.out.1.trans (hb4.mono HX.out.1.size));clear hb4)
    | (go_at_call 76;(with_reducible refine (HFl.out _).mono ?_);rintro e w5 ⟨rfl,rfl⟩))
   all_goals
    go_ret
    exact ⟨by rw [←HE.out];rfl,HX.out.1⟩
  by_cases hL6:64<L
  ·have g1:(64:Int)<(L:Int):=by omega
   have g2:¬(L:Int)=0:=by omega
   have g3:(0:Int)<(L:Int):=by omega
   have HE:=Lib.hid (show (20:Int)=R by rw [←HR.out];refine Eq.symm ?_;exact one20 (.inr (.inr (.inr (.inr ⟨rfl,.inr (by show 64<ts.length;rw [HD.out.2.2.2.2];exact hL6)⟩)))))
   clear hL0 hL6
   go_enter Tryd.func65,Tryd.ntmps65
   go_wp2_with (first
    | (go_at_call 74;(with_reducible refine (HUv.out _).mono ?_);rintro e w2 ⟨rfl,rfl⟩)
    | (go_at_call 75;(with_reducible refine (HIn.out _).mono ?_);rintro e w4 ⟨rfl,hb4⟩;have HX4:=Lib.hid (HX.out.1.trans (hb4.mono HX.out.1.size));clear hb4)
    | (go_at_call 76;(with_reducible refine (HFl.out _).mono ?_);rintro e w5 ⟨rfl,rfl⟩))
   all_goals
    go_ret
    exact ⟨by rw [←HE.out];rfl,HX.out.1⟩
  have g1:(L:Int)≤64:=by omega
  have g2:¬(L:Int)=0:=by omega
  have g3:(0:Int)<(L:Int):=by omega
  have g4:¬L=0:=by omega
  have g5:L≤64:=by omega
  have g6:((L:Int)==0)=false:=beq_eq_false_iff_ne.2 g2
  have g7:decide (64<L)=false:=decide_eq_false (by omega)
  have g8:(L==0)=false:=beq_eq_false_iff_ne.2 g4
  have hgo:=Lib.hid (one_go (t:=.mk 5 nl [] 0 0 ts) (fun h=>by
   have hs:=stray_no (t:=.mk 5 nl [] 0 0 ts) (.inr (.inr rfl)) (.inl rfl) (.inl rfl) (.inl rfl) (.inr rfl)
   rcases h with h | h | h | h | h
   ·exact absurd h (by show ¬(5:Int)<1;omega)
   ·exact absurd h (by show ¬(5:Int)<5;omega)
   ·rw [hs] at h;cases h
   ·exact absurd h (by show ¬(0:Int)<0;omega)
   ·exact absurd h (fun h=>by have:=h.2;have e:=HD.out.2.2.2.2;change ts.length=0∨64<ts.length at this;rw [e] at this;omega)))
  clear hL0 hL6
  cases U
  ·skip
   have HE:=Lib.hid (show (21:Int)=R by rw [←HR.out];refine Eq.symm ?_;exact hgo.out.trans (if_pos (.inl HD.out.1)))
   go_enter Tryd.func65,Tryd.ntmps65
   go_wp2_with (first
    | (go_at_call 74;(with_reducible refine (HUv.out _).mono ?_);rintro e w2 ⟨rfl,rfl⟩)
    | (go_at_call 75;(with_reducible refine (HIn.out _).mono ?_);rintro e w4 ⟨rfl,hb4⟩;have HX4:=Lib.hid (HX.out.1.trans (hb4.mono HX.out.1.size));clear hb4)
    | (go_at_call 76;(with_reducible refine (HFl.out _).mono ?_);rintro e w5 ⟨rfl,rfl⟩))
   all_goals
    go_ret
    exact ⟨by rw [←HE.out];rfl,HX.out.1⟩
  by_cases h1000:1000<N
  ·have h1I:(1000:Int)<(N:Int):=by omega
   have HE:=Lib.hid (show (21:Int)=R by rw [←HR.out];refine Eq.symm ?_;exact hgo.out.trans (if_pos (.inr (by show 1000<(nl:List UInt8).length;rw [HD.out.2.1];exact h1000))))
   clear h1000
   go_enter Tryd.func65,Tryd.ntmps65
   go_wp2_with (first
    | (go_at_call 74;(with_reducible refine (HUv.out _).mono ?_);rintro e w2 ⟨rfl,rfl⟩)
    | (go_at_call 75;(with_reducible refine (HIn.out _).mono ?_);rintro e w4 ⟨rfl,hb4⟩;have HX4:=Lib.hid (HX.out.1.trans (hb4.mono HX.out.1.size));clear hb4)
    | (go_at_call 76;(with_reducible refine (HFl.out _).mono ?_);rintro e w5 ⟨rfl,rfl⟩))
   all_goals
    go_ret
    exact ⟨by rw [←HE.out];rfl,HX.out.1⟩
  have h1I:¬(1000:Int)<(N:Int):=by omega
  have h1J:(N:Int)≤1000:=by omega
  have HU2:=Lib.hid (show ¬(Lib.validD nl=false∨1000<(nl:List UInt8).length) from fun h=>by
   rcases h with h | h
   ·rw [HD.out.1] at h;cases h
   ·rw [HD.out.2.1] at h;exact h1000 h)
  clear h1000
  have HE:=Lib.hid (show (0:Int)=R by rw [←HR.out];refine Eq.symm ?_;exact hgo.out.trans ((if_neg HU2.out).trans ((if_neg (fun h=>absurd h.1 (show (5:Int)≠3 by decide))).trans (if_neg (fun h=>absurd h.1 (show (5:Int)≠4 by decide))))))
  go_enter Tryd.func65,Tryd.ntmps65
  go_wp2_with (first
   | (go_at_call 74;(with_reducible refine (HUv.out _).mono ?_);rintro e w2 ⟨rfl,rfl⟩)
   | (go_at_call 75;(with_reducible refine (HIn.out _).mono ?_);rintro e w4 ⟨rfl,hb4⟩;have HX4:=Lib.hid (HX.out.1.trans (hb4.mono HX.out.1.size));clear hb4)
   | (go_at_call 76;(with_reducible refine (HFl.out _).mono ?_);rintro e w5 ⟨rfl,rfl⟩))
  all_goals
   go_ret
   exact ⟨by rw [←HE.out];rfl,HX.out.1⟩
end Go.Proofs.YtgfeainpeplphaaDoor
namespace Go.Proofs.YtgfeainpeplphaaDoor
open Go.RowKit Hb Ht
set_option linter.unusedVariables false
set_option linter.unusedSimpArgs false
attribute [local go_sem] Oper.semAt_some
def RAllOk (t:Tm):Prop:=∀ (w:World) (sl:Value),TAt w w.heap.size t sl→Fits t→Calls Tryd.prog 41 #[valT t sl] w fun e w'=>e = .returned (.int .i64 (errsP t))∧Below w.heap.size w w'
set_option maxRecDepth 100000 in
set_option maxHeartbeats 8000000 in
theorem rall_any (t:Tm):RAllOk t:=by
 refine Tm.ind (p:=RAllOk) (fun k nl ml b v ts ih=>?_) t
 intro w sl h hFit
 obtain ⟨A,c,rfl,hl1,hl2,hl3⟩:=h.slice
 obtain ⟨nb,hnb⟩:∃ nb:ByteArray,(⟨nl.toArray⟩:ByteArray)=nb:=⟨_,rfl⟩
 obtain ⟨mb,hmb⟩:∃ mb:ByteArray,(⟨ml.toArray⟩:ByteArray)=mb:=⟨_,rfl⟩
 obtain ⟨L,hL⟩:∃ L,ts.length=L:=⟨_,rfl⟩
 change ts.length≤c at hl1
 change ts.length≤maxArgs at hl3
 change TAt w w.heap.size (.mk k nl ml b v ts) (.slice A ts.length c) at h
 change Calls Tryd.prog 41 #[valT _ (.slice A ts.length c)] w _
 have hNd:=fun w1 (hb:Below w.heap.size w w1)=>rone_any (h.to hb hb.size) (Fits.iff.1 hFit).1
 simp only [valT_mk hnb hmb] at hNd
 rw [valT_mk hnb hmb]
 rw [hL] at h hl1 hl3 hNd ⊢
 obtain ⟨R,hR⟩:∃ R,errsP (.mk k nl ml b v ts)=R:=⟨_,rfl⟩
 obtain ⟨R0,hR0⟩:∃ R0,oneP (.mk k nl ml b v ts)=R0:=⟨_,rfl⟩
 rw [hR]
 have HR:=Lib.hid (show (R0≠0→R0=R)∧(R0=0→errss Lib.validD canonB floB ts=R) from by
  have h9:(if oneP (.mk k nl ml b v ts)≠0 then oneP (.mk k nl ml b v ts) else errss Lib.validD canonB floB ts)=R:=hR
  rw [hR0] at h9
  by_cases h0:R0=0
  ·rw [if_neg (by simp [h0])] at h9;exact ⟨fun h=>absurd h0 h,fun _=>h9⟩
  ·rw [if_pos h0] at h9;exact ⟨fun _=>h9,fun h=>absurd h h0⟩)
 have HNd:=Lib.hid hNd
 rw [hR0] at HNd
 have HIH:=Lib.hid (And.intro ih (Fits.iff.1 hFit).2)
 have HT:=Lib.hid h
 have HL:=Lib.hid hL
 have HM:=Lib.hid (And.intro hnb hmb)
 have hLI:(L:Int)≤1759218604400:=by unfold maxArgs at hl3;omega
 obtain ⟨W1,hW1⟩:∃ W1,w.alloc (.cells #[.int .i64 k,.string nb,.string mb,.int .u64 b,.int .i64 v,.slice A L c] 25)=W1:=⟨_,rfl⟩
 have hb1:Below w.heap.size w W1:=by rw [←hW1];exact (Below.refl _ _).alloc (Nat.le_refl _) _
 have hX:=TBox.new (ts:=ts) w (k:=k) (b:=b) (v:=v) (sl:=.slice A L c) hnb hmb
 rw [hW1] at hX
 obtain ⟨x0,x1,x2,x3,x4,x5⟩:=hX.cells hnb hmb
 have HB:=Lib.hid (And.intro hb1 hX)
 subst hW1
 clear ih h hR hR0 hL hnb hmb hX hb1 hNd hFit
 go_enter Tryd.func41,Tryd.ntmps41
 go_wp2_with fail
 (with_reducible refine (HNd.out _ HB.out.1).mono ?_)
 rintro e w2 ⟨rfl,hb2⟩
 have HB2:=Lib.hid (And.intro (HB.out.1.trans (hb2.mono HB.out.1.size)) (HB.out.2.below hb2))
 clear hb2 x0 x1 x2 x3 x4 x5 HNd
 go_upto_region 3 with fail
 go_loopw [3,4] (fun v3 v4 wr=>∃ (i:Nat) (E:Int),v3 = .int .i64 E∧v4 = .int .i64 (i:Int)∧i≤L∧Hid ((E≠0→E=R)∧(E=0→errss Lib.validD canonB floB (ts.drop i)=R)∧Below w.heap.size w wr∧TBox wr w.heap.size (.mk k nl ml b v ts) (.slice A L c))) (fun _ v4 _=>((L:Int) - intOf v4).toNat)
 case atStart=>exact ⟨0,R0,rfl,rfl,Nat.zero_le _,Lib.hid ⟨HR.out.1,HR.out.2,HB2.out.1,HB2.out.2⟩⟩
 case round=>
  obtain ⟨i,E,rfl,rfl,hi,HI⟩:=hrel
  obtain ⟨x0,x1,x2,x3,x4,x5⟩:=HI.out.2.2.2.cells HM.out.1 HM.out.2
  by_cases hlt:i<L
  ·have hltI:(i:Int)<(L:Int):=by omega
   have hi0:(0:Int)≤(i:Int):=by omega
   by_cases h0:E=0
   ·subst h0
    have hil:i<ts.length:=by rw [HL.out];exact hlt
    obtain ⟨a,ha⟩:∃ a,ts[i]?=some a:=⟨_,List.getElem?_eq_getElem hil⟩
    obtain ⟨g,o,rfl,hgB,helt⟩:=(HT.out.to HI.out.2.2.1 HI.out.2.2.1.size).arg ha
    have HD:=Lib.hid (errss_drop ha (HI.out.2.1 rfl))
    obtain ⟨A',c',k',n',m',b',v',ts',nb',mb',rfl,hnb',hmb',hta,e0,e1,e2,e3,e4,e5⟩:=EltAt.cells helt
    obtain ⟨q,hq⟩:∃ q,ts'.length=q:=⟨_,rfl⟩
    have hC:=HIH.out.1 _ (List.mem_of_getElem? ha) wr _ hta (HIH.out.2 _ (List.mem_of_getElem? ha))
    rw [valT_mk hnb' hmb',hq] at hC
    obtain ⟨R1,hR1⟩:∃ R1,errsP (.mk k' n' m' b' v' ts')=R1:=⟨_,rfl⟩
    rw [hR1] at hC HD
    have HC:=Lib.hid hC
    have HLT:=Lib.hid hlt
    rw [hq] at e5
    clear helt hta hnb' hmb' ha hil hlt hi hq hC hR1
    go_wp2_with (go_at_call 41;(with_reducible refine HC.out.mono ?_);rintro e w' ⟨rfl,hb4⟩;have HB4:=Lib.hid (And.intro (HI.out.2.2.1.trans (hb4.mono HI.out.2.2.1.size)) (HI.out.2.2.2.below hb4));clear hb4)
    refine ⟨⟨i+1,R1,rfl,rfl,HLT.out,Lib.hid ⟨HD.out.1,HD.out.2,HB4.out.1,HB4.out.2⟩⟩,?_⟩
    have:=HLT.out
    show ((L:Int) - ((i:Int)+1)).toNat<((L:Int) - (i:Int)).toNat
    omega
   ·have h0b:(E==0)=false:=beq_eq_false_iff_ne.2 h0
    have HE:=Lib.hid (HI.out.1 h0)
    clear h0 hlt hi
    go_wp2
    go_ret
    exact ⟨by rw [←HE.out];rfl,HI.out.2.2.1⟩
  ·have ei:i=L:=by omega
   subst ei
   have HE:=Lib.hid (show E=R from by
    by_cases h0:E=0
    ·have h9:=HI.out.2.1 h0
     rw [List.drop_of_length_le (by rw [HL.out];exact Nat.le_refl _)] at h9
     rw [h0];exact h9
    ·exact HI.out.1 h0)
   clear hlt hi
   go_wp2
   go_ret
   exact ⟨by rw [←HE.out];rfl,HI.out.2.2.1⟩
set_option maxRecDepth 100000 in
set_option maxHeartbeats 2000000 in
theorem rCheck_any {w:World} {t:Tm} {sl:Value} (h:TAt w w.heap.size t sl) (hf:Fits t):Calls Tryd.prog 10 #[valT t sl] w fun e w'=>e = .returned (.int .i64 (checkP t))∧Below w.heap.size w w':=by
 obtain ⟨k,nl,ml,b,v,ts,nb,mb,A,c,rfl,rfl,hnb,hmb,hl1,hl2,hl3,hv,hs1,hs2⟩:=h.letters
 have hb1:Below w.heap.size w (w.alloc (.cells #[.int .i64 k,.string nb,.string mb,.int .u64 b,.int .i64 v,.slice A ts.length c] 25)):=(Below.refl _ _).alloc (Nat.le_refl _) _
 have HC:=Lib.hid (rNodes_any (h.to hb1 hb1.size))
 have HN:=Lib.hid (fun w2 (hb:Below _ (w.alloc (.cells #[.int .i64 k,.string nb,.string mb,.int .u64 b,.int .i64 v,.slice A ts.length c] 25)) w2)=>rall_any (.mk k nl ml b v ts) w2 (.slice A ts.length c) ((h.to hb1 hb1.size).to hb hb.size) hf)
 rw [hv] at HC HN ⊢
 obtain ⟨n,hn⟩:∃ n,nodes (.mk k nl ml b v ts)=n:=⟨_,rfl⟩
 obtain ⟨E,hE⟩:∃ E,errsP (.mk k nl ml b v ts)=E:=⟨_,rfl⟩
 have hR:checkP (.mk k nl ml b v ts)=if 4000<n then 24 else E:=by rw [←hn,←hE];rfl
 have hnl:n≤4001:=by rw [←hn];unfold nodes;omega
 rw [hR]
 rw [hn] at HC
 rw [hE] at HN
 have hX:=TBox.new (ts:=ts) w (k:=k) (b:=b) (v:=v) (sl:=.slice A ts.length c) hnb hmb
 have HB:=Lib.hid (And.intro hb1 hX)
 have HM:=Lib.hid (And.intro hnb hmb)
 obtain ⟨x0,x1,x2,x3,x4,x5⟩:=hX.cells hnb hmb
 have hzI:(n:Int)≤4001:=by omega
 clear h hv hR hX hn hE hb1 hf
 by_cases hz:4000<n
 ·have hzI:(4000:Int)<(n:Int):=by omega
  rw [if_pos hz]
  clear hz
  go_enter Tryd.func10,Tryd.ntmps10
  go_wp2_with (go_at_call 40;(with_reducible refine HC.out.mono ?_);rintro e w' ⟨rfl,hb3⟩;have HB3:=Lib.hid (HB.out.1.trans (hb3.mono HB.out.1.size));clear hb3)
  go_ret
  exact ⟨rfl,HB3.out⟩
 ·have hzI:¬(4000:Int)<(n:Int):=by omega
  rw [if_neg hz]
  clear hz
  go_enter Tryd.func10,Tryd.ntmps10
  go_wp2_with (first
   | (go_at_call 40;(with_reducible refine HC.out.mono ?_);rintro e w' ⟨rfl,hb3⟩;obtain ⟨y0,y1,y2,y3,y4,y5⟩:=(HB.out.2.below hb3).cells HM.out.1 HM.out.2;have HB3:=Lib.hid (And.intro (HB.out.1.trans (hb3.mono HB.out.1.size)) hb3);clear hb3)
   | (go_at_call 41;(with_reducible refine (HN.out _ HB3.out.2).mono ?_);rintro e w' ⟨rfl,hb4⟩;have HB4:=Lib.hid (HB3.out.1.trans (hb4.mono HB3.out.1.size));clear hb4))
  go_ret
  exact ⟨rfl,HB4.out⟩
set_option maxRecDepth 100000 in
set_option maxHeartbeats 4000000 in
theorem rChecks_any {w:World} {P:Nat→Prop} {A:Option Addr} {n c:Nat} {ps:List (Tm × Value)} (h:RowP w P A n ps) (hP:∀ b,P b→b<w.heap.size) (hn:n≤maxArgs) (hc:n≤c) (hf:∀ p∈ps,Fits p.1) :
  Calls Tryd.prog 17 #[.slice A n c] w fun e w'=>e = .returned (.int .i64 (checksP (ps.map (·.1))))∧Below w.heap.size w w':=by
 obtain ⟨R,hR⟩:∃ R,checksP (ps.map (·.1))=R:=⟨_,rfl⟩
 rw [hR]
 obtain ⟨ts,hts⟩:∃ ts,ps.map (·.1)=ts:=⟨_,rfl⟩
 rw [hts] at hR
 have HL:=Lib.hid (show ts.length=n from by rw [←hts,List.length_map,h.1])
 have HH:=Lib.hid (And.intro h (And.intro hP hts))
 have HF:=Lib.hid hf
 have HR:=Lib.hid hR
 have hnI:(n:Int)≤1759218604400:=by unfold maxArgs at hn;omega
 clear h hP hR hts hf
 go_enter Tryd.func17,Tryd.ntmps17
 go_upto_region 2 with fail
 go_loopw [3] (fun vi wr=>∃ i:Nat,vi = .int .i64 (i:Int)∧i≤n∧Hid (checksP (ts.drop i)=R∧Below w.heap.size w wr)) (fun vi _=>((n:Int) - intOf vi).toNat)
 case atStart=>exact ⟨0,rfl,Nat.zero_le _,Lib.hid ⟨HR.out,Below.refl _ _⟩⟩
 case round=>
  obtain ⟨i,rfl,hi,HI⟩:=hrel
  by_cases hlt:i<n
  ·have hltI:(i:Int)<(n:Int):=by omega
   have hi0:(0:Int)≤(i:Int):=by omega
   obtain ⟨p,hp⟩:∃ p,ps[i]?=some p:=⟨_,List.getElem?_eq_getElem (by rw [HH.out.1.1];exact hlt)⟩
   have ha:ts[i]?=some p.1:=by rw [←HH.out.2.2,List.getElem?_map,hp];rfl
   obtain ⟨g,o,rfl,hgB,helt0⟩:=(HH.out.1.below HI.out.2 HH.out.2.1).elt hp
   have helt:=EltP.at_ helt0 (fun b hb=>Nat.lt_of_lt_of_le (HH.out.2.1 b hb) HI.out.2.size)
   have HD:=Lib.hid (checks_drop ha HI.out.1)
   have hfp:=HF.out p (List.mem_of_getElem? hp)
   obtain ⟨pt,psl⟩:=p
   obtain ⟨A',c',k',n',m',b',v',ts',nb',mb',rfl,hnb',hmb',hta,e0,e1,e2,e3,e4,e5⟩:=EltAt.cells helt
   obtain ⟨q,hq⟩:∃ q,ts'.length=q:=⟨_,rfl⟩
   have hCl:=rCheck_any hta hfp
   rw [valT_mk hnb' hmb',hq] at hCl
   obtain ⟨R1,hR1⟩:∃ R1,checkP (.mk k' n' m' b' v' ts')=R1:=⟨_,rfl⟩
   rw [hR1] at hCl HD
   have HCl:=Lib.hid hCl
   have HLT:=Lib.hid hlt
   rw [hq] at e5
   clear helt helt0 hta hnb' hmb' ha hlt hi hq hp hCl hR1 hfp
   by_cases h1:R1=0
   ·subst h1
    have HE:=Lib.hid (HD.out.2 rfl)
    go_wp2_with (go_at_call 10;(with_reducible refine HCl.out.mono ?_);rintro e w' ⟨rfl,hb4⟩;have HB4:=Lib.hid (HI.out.2.trans (hb4.mono HI.out.2.size));clear hb4)
    refine ⟨⟨i+1,rfl,HLT.out,Lib.hid ⟨HE.out,HB4.out⟩⟩,?_⟩
    have:=HLT.out
    show ((n:Int) - ((i:Int)+1)).toNat<((n:Int) - (i:Int)).toNat
    omega
   ·have h1b:(R1 != 0)=true:=by simpa using h1
    have HE:=Lib.hid (HD.out.1 h1)
    clear h1
    go_wp2_with (go_at_call 10;(with_reducible refine HCl.out.mono ?_);rintro e w' ⟨rfl,hb4⟩;have HB4:=Lib.hid (HI.out.2.trans (hb4.mono HI.out.2.size));clear hb4)
    go_ret
    exact ⟨by rw [←HE.out];rfl,HB4.out⟩
  ·have ei:i=n:=by omega
   subst ei
   have HE:=Lib.hid (show (0:Int)=R∧Below w.heap.size w wr from by
    have h9:=HI.out
    rw [List.drop_of_length_le (by rw [HL.out];exact Nat.le_refl _)] at h9
    exact h9)
   clear hlt hi
   go_wp2
   go_ret
   exact ⟨by rw [←HE.out.1];rfl,HE.out.2⟩
end Go.Proofs.YtgfeainpeplphaaDoor
namespace Go.Proofs.YtgfeainpeplphaaDoor
open Go Go.RowKit
section
variable {P:Program} {md:Region.Mode} {ops:Array Oper} {Q:Exit→Act→World→Prop} {S:World→Prop} {st:Nat}
def flAll:List Nat→Array Bool→Array Bool
 | [],l=>l
 | i :: E,l=>(flAll E l).setIfInBounds i true
def flL (D:Nat→Option Nat):List Nat→Array Bool→Array Bool
 | [],l=>l
 | i :: E,l=>if (D i).isSome then (flL D E l).setIfInBounds i true else flL D E l
def flA (ops:Array Oper) (D:Nat→Option Nat):List Nat→Act→Act
 | [],a=>a
 | i :: E,a=>match D i with
  | some H=>(flA ops D E a).put ((ops[i]?).bind (·.dst)) (.pointer (some ⟨H,0,none⟩))
  | none=>flA ops D E a
def pend (md:Region.Mode) (ops:Array Oper) (listed:Array Bool) (E:List Nat):List Nat:=
 (List.range ops.size).filter fun i=>!E.contains i && !listed.getD i true && ((ops[i]?).map fun o=>(o.after.all fun e=>!Region.binds md e || listed.getD e.on false || E.contains e.on) && E.any fun f=>o.after.all fun e=>!Region.binds md e || e.on != f).getD false
def farFrom (ops:Array Oper) (E:List Nat) (o:Oper):Bool:=E.all fun f=>match (ops[f]?).bind (·.dst) with
 | some d=>!(o.looksAt ops).contains d && o.dst != some d
 | none=>true
def floatsB (md:Region.Mode) (ops:Array Oper):List Nat→Bool
 | []=>true
 | i :: E=>!E.contains i && (match ops[i]? with
  | some o=>o.guard.isNone && (o.after.all fun e=>!Region.binds md e) && (match o.dst with
   | some d=>E.all fun j=>(ops[j]?).bind (·.dst) != some d
   | none=>false)
  | none=>false) && floatsB md ops E
def FloatRun (P:Program) (ops:Array Oper) (E:List Nat) (obj:Nat→Obj):Prop:=∀ i∈E,∀ o,ops[i]?=some o→∀ (a:Act) (w:World),(execOp a.eval o).run P w = .ok (.value (.pointer (some ⟨w.heap.size,0,none⟩))) (w.alloc (obj i))
theorem flL_getD (D:Nat→Option Nat) {j:Nat} {d:Bool} {l:Array Bool} : ∀ E:List Nat,((E.contains j && (D j).isSome)=false)→(flL D E l).getD j d=l.getD j d
 | [],_=>rfl
 | i :: E,h=>by
  have h':(E.contains j && (D j).isSome)=false:=by
   rw [List.contains_cons] at h
   cases hc:(D j).isSome
   ·simp
   ·rw [hc] at h;simp at h;simp [h.2]
  unfold flL
  split
  ·rename_i hs
   have hne:i≠j:=fun e=>by subst e;simp [hs] at h
   rw [getD_set_ne d hne];exact flL_getD D E h'
  ·exact flL_getD D E h'
theorem flL_or (D:Nat→Option Nat) {j:Nat} {l:Array Bool} : ∀ E:List Nat,(flL D E l).getD j false=true→l.getD j false=true∨(j∈E∧(D j).isSome=true)
 | [],h=>.inl h
 | i :: E,h=>by
  unfold flL at h
  split at h
  ·rename_i hs
   by_cases hij:i=j
   ·subst hij;exact .inr ⟨List.mem_cons_self,hs⟩
   ·rw [getD_set_ne false hij] at h
    exact (flL_or D E h).imp id fun h=>⟨List.mem_cons_of_mem _ h.1,h.2⟩
  ·exact (flL_or D E h).imp id fun h=>⟨List.mem_cons_of_mem _ h.1,h.2⟩
theorem flL_set (D:Nat→Option Nat) {j:Nat} {l:Array Bool} : ∀ E:List Nat,j∉E→flL D E (l.setIfInBounds j true)=(flL D E l).setIfInBounds j true
 | [],_=>rfl
 | i :: E,h=>by
  have h1:j∉E:=fun h'=>h (List.mem_cons_of_mem _ h')
  have h2:i≠j:=fun e=>h (e ▸ List.mem_cons_self)
  unfold flL
  split
  ·rw [flL_set D E h1,Array.setIfInBounds_comm _ _ (Ne.symm h2)]
  ·exact flL_set D E h1
theorem flL_all (D:Nat→Option Nat) {l:Array Bool} : ∀ E:List Nat,(∀ i∈E,(D i).isSome=true)→flL D E l=flAll E l
 | [],_=>rfl
 | i :: E,h=>by
  unfold flL flAll
  rw [if_pos (h i List.mem_cons_self),flL_all D E fun j hj=>h j (List.mem_cons_of_mem _ hj)]
def upd (D:Nat→Option Nat) (i H:Nat):Nat→Option Nat:=fun j=>if j=i then some H else D j
theorem flL_same {D D':Nat→Option Nat} {l:Array Bool} : ∀ E:List Nat,(∀ j∈E,D j=D' j)→flL D E l=flL D' E l
 | [],_=>rfl
 | i :: E,h=>by
  unfold flL
  rw [h i List.mem_cons_self,flL_same E fun j hj=>h j (List.mem_cons_of_mem _ hj)]
theorem flA_same {D D':Nat→Option Nat} {a:Act} : ∀ E:List Nat,(∀ j∈E,D j=D' j)→flA ops D E a=flA ops D' E a
 | [],_=>rfl
 | i :: E,h=>by
  unfold flA
  rw [h i List.mem_cons_self,flA_same E fun j hj=>h j (List.mem_cons_of_mem _ hj)]
theorem flL_upd {D:Nat→Option Nat} {i H:Nat} {l:Array Bool} : ∀ E:List Nat,floatsB md ops E=true→i∈E→D i=none→flL (upd D i H) E l=(flL D E l).setIfInBounds i true
 | [],_,hi,_=>by cases hi
 | k :: E,hf,hi,hn=>by
  simp only [floatsB,Bool.and_eq_true,Bool.not_eq_true'] at hf
  have hk:k∉E:=by simpa using hf.1.1
  by_cases hki:k=i
  ·subst hki
   unfold flL
   rw [hn]
   simp only [upd,if_pos,Option.isSome_some,Option.isSome_none,Bool.false_eq_true,if_false]
   rw [flL_same (D:=upd D k H) (D':=D) E fun j hj=>if_neg (fun e:j=k=>hk (by rw [←e];exact hj))]
  ·have hi':i∈E:=(List.mem_cons.1 hi).resolve_left (Ne.symm hki)
   unfold flL
   have:upd D i H k=D k:=if_neg hki
   rw [this,flL_upd E hf.2 hi' hn]
   split
   ·rw [Array.setIfInBounds_comm _ _ (Ne.symm hki)]
   ·rfl
theorem floatsB_dst {i:Nat} : ∀ E:List Nat,floatsB md ops E=true→i∈E→∃ o d,ops[i]?=some o∧o.guard=none∧o.dst=some d∧(∀ e∈o.after,Region.binds md e=false)
 | [],_,hi=>by cases hi
 | k :: E,hf,hi=>by
  simp only [floatsB,Bool.and_eq_true] at hf
  rcases List.mem_cons.1 hi with rfl | hi
  ·have h:=hf.1.2
   cases ho:ops[i]? with
   | none=>rw [ho] at h;simp at h
   | some o=>
    rw [ho] at h
    simp only [Bool.and_eq_true] at h
    cases hd:o.dst with
    | none=>rw [hd] at h;simp at h
    | some d=>exact ⟨o,d,rfl,by simpa using h.1.1,hd,fun e he=>by have:=Array.all_eq_true'.1 h.1.2 e he;simpa using this⟩
  ·exact floatsB_dst E hf.2 hi
theorem flA_upd {D:Nat→Option Nat} {i H:Nat} {a:Act} : ∀ E:List Nat,floatsB md ops E=true→i∈E→D i=none→flA ops (upd D i H) E a=(flA ops D E a).put ((ops[i]?).bind (·.dst)) (.pointer (some ⟨H,0,none⟩))
 | [],_,hi,_=>by cases hi
 | k :: E,hf,hi,hn=>by
  simp only [floatsB,Bool.and_eq_true,Bool.not_eq_true'] at hf
  have hk:k∉E:=by simpa using hf.1.1
  by_cases hki:k=i
  ·subst hki
   unfold flA
   rw [hn]
   have:upd D k H k=some H:=if_pos rfl
   rw [this]
   simp only
   rw [flA_same (D:=upd D k H) (D':=D) E fun j hj=>if_neg (fun e:j=k=>hk (by rw [←e];exact hj))]
  ·have hi':i∈E:=(List.mem_cons.1 hi).resolve_left (Ne.symm hki)
   unfold flA
   have:upd D i H k=D k:=if_neg hki
   rw [this,flA_upd E hf.2 hi' hn]
   split
   ·rw [Act.put_comm]
    intro d hd he
    have h:=hf.1.2
    cases ho:ops[k]? with
    | none=>rw [ho] at h;simp at h
    | some o=>
     rw [ho] at h he
     simp only [Bool.and_eq_true] at h
     have he':o.dst=some d:=he
     rw [he'] at h
     have:=List.all_eq_true.1 h.2 i hi'
     rw [hd] at this
     simp at this
   ·rfl
theorem wpOp_under {j:Nat} {oj:Oper} {d:Tmp} {v:Value} (hj:ops[j]?=some oj) (hsj:∀ cs b,oj.op ≠ .select cs b) (hlook:d∉oj.looksAt ops) (hdst:oj.dst≠some d)
  (hQ:∀ c (a:Act) d v w,Q (.panic c) a w→Q (.panic c) (a.put (some d) v) w) {K:Act→World→Prop} {a:Act} {w:World} (h:wpOp P ops Q j (fun a' w'=>K (a'.put (some d) v) w') a w) :
  wpOp P ops Q j K (a.put (some d) v) w:=by
 have h1:∀ d',some d=some d'→d'∉oj.looksAt ops:=fun d' e=>by injection e with e;exact e ▸ hlook
 have h2:∀ d',oj.dst=some d'→some d≠some d':=fun d' e e2=>hdst (e.trans e2.symm)
 unfold wpOp at *
 simp only [hj] at *
 rw [wanted_put oj a (some d) v h1]
 split
 ·rename_i hw
  simp only [hw,if_true] at h
  rcases h with h | ⟨hasks,hlets⟩
  case inr=>exact .inr ⟨by unfold Oper.asks at *;rw [execOp_put oj hsj a (some d) v h1];exact hasks,hlets⟩
  refine .inl ?_
  unfold Oper.wp at *
  rw [execOp_put oj hsj a (some d) v h1]
  generalize (execOp a.eval oj).run P w=r at *
  cases r with
  | ok n w'=>
   cases n <;> simp only [Oper.upon] at h ⊢
   case value u=>rw [←Act.put_comm a u v h2];exact h
   case skip=>rw [←Act.put_comm a undef v h2];exact h
   case defer dd=>
    rw [Act.put_defers,←Act.put_comm _ undef v h2]
    exact h
   case enter f args=>
    refine Calls.mono h fun e w'' he=>?_
    cases e with
    | returned u=>
     show K ((a.put (some d) v).put oj.dst u) w''
     rw [←Act.put_comm a u v h2];exact he
    | panicked c=>exact hQ _ _ _ _ _ he
    | outgrown=>exact he
   case row row args=>exact Rows.mono h fun u w'' he=>by rw [←Act.put_comm a u v h2];exact he
  | halt x w'=>
   cases x <;> simp only [Oper.upon] at h ⊢
   case panic u=>exact hQ _ _ _ _ _ h
 ·rename_i hw
  simp only [hw] at h
  rw [←Act.put_comm a undef v h2];exact h
theorem farFrom_spec {o:Oper} : ∀ E:List Nat,farFrom ops E o=true→∀ f∈E,∀ d,(ops[f]?).bind (·.dst)=some d→d∉o.looksAt ops∧o.dst≠some d:=fun E h f hf d hd=>by
 have h1:=List.all_eq_true.1 h f hf
 rw [hd] at h1
 simpa using h1
theorem wpOp_far {j:Nat} {oj:Oper} (hj:ops[j]?=some oj) (hsj:∀ cs b,oj.op ≠ .select cs b) (hQ:∀ c (a:Act) d v w,Q (.panic c) a w→Q (.panic c) (a.put (some d) v) w) (D:Nat→Option Nat) :
  ∀ (E:List Nat),floatsB md ops E=true→farFrom ops E oj=true→∀ {K:Act→World→Prop} {a:Act} {w:World},wpOp P ops Q j (fun a' w'=>K (flA ops D E a') w') a w→wpOp P ops Q j K (flA ops D E a) w
 | [],_,_,_,_,_,h=>h
 | i :: E,hf,hfar,K,a,w,h=>by
  have hff:=hf
  have hfar':=farFrom_spec _ hfar i List.mem_cons_self
  simp only [floatsB,Bool.and_eq_true] at hf
  simp only [farFrom,List.all_cons,Bool.and_eq_true] at hfar
  obtain ⟨o,d,ho,_,hd,_⟩:=floatsB_dst _ hff List.mem_cons_self
  have hod:(ops[i]?).bind (·.dst)=some d:=by rw [ho];exact hd
  unfold flA at h ⊢
  cases hD:D i with
  | none=>
   simp only [hD] at h ⊢
   exact wpOp_far hj hsj hQ D E hf.2 hfar.2 h
  | some H=>
   simp only [hD,hod] at h ⊢
   exact wpOp_under hj hsj (hfar' d hod).1 (hfar' d hod).2 hQ (wpOp_far hj hsj hQ D E hf.2 hfar.2 (K:=fun a' w'=>K (a'.put (some d) _) w') h)
def FlOk (E:List Nat) (obj:Nat→Obj) (D:Nat→Option Nat) (w:World) (G:Nat→Prop):Prop:=
 (∀ i∈E,∃ H,D i=some H∧w.heap[H]?=some (obj i)∧G H)∧∀ i∈E,∀ j∈E,i≠j→D i≠D j
def gapTo (G:Nat→Prop) (w w':World):Nat→Prop:=fun b=>G b∨(w.heap.size≤b∧b<w'.heap.size)
def wpAnyF (P:Program) (md:Region.Mode) (ops:Array Oper) (Q:Exit→Act→World→Prop) (S:World→Prop) (st:Nat) (E:List Nat) (obj:Nat→Obj):Nat→Array Bool→Act→World→(Nat→Prop)→Prop
 | 0,listed,a,w,G=>∀ w',Below w.heap.size w w'→S w' →
  (∀ D,FlOk E obj D w' (gapTo G w w')→wpAnyW P md ops Q S st 0 (flL D E listed) (flA ops D E a) w')∧pend md ops listed E = []
 | fuel+1,listed,a,w,G=>∀ w',Below w.heap.size w w'→S w' →
  (∀ D,FlOk E obj D w' (gapTo G w w')→wpAnyW P md ops Q S st (fuel+1) (flL D E listed) (flA ops D E a) w') ∧
  ∀ i∈pend md ops listed E,i∉E∧∃ o,ops[i]?=some o∧farFrom ops E o=true∧wpOp P ops Q i (fun a' w''=>Below w'.heap.size w' w''∧S w''∧wpAnyF P md ops Q S st E obj fuel (listed.setIfInBounds i true) a' w'' (gapTo G w w')) a w'
variable {E:List Nat} {obj:Nat→Obj}
theorem FlOk.more {D:Nat→Option Nat} {w:World} {G G':Nat→Prop} (h:FlOk E obj D w G) (hG:∀ b,G b→G' b):FlOk E obj D w G':=
 ⟨fun i hi=>let ⟨H,h1,h2,h3⟩:=h.1 i hi;⟨H,h1,h2,hG _ h3⟩,h.2⟩
theorem FlOk.below {D:Nat→Option Nat} {w w':World} {G:Nat→Prop} (h:FlOk E obj D w G) (hb:Below w.heap.size w w'):FlOk E obj D w' G:=
 ⟨fun i hi=>let ⟨H,h1,h2,h3⟩:=h.1 i hi;⟨H,h1,(hb.block H (Array.getElem?_eq_some_iff.1 h2).1).trans h2,h3⟩,h.2⟩
theorem gapTo_back {G:Nat→Prop} {w w1 w2:World} (h1:w.heap.size≤w1.heap.size) (h2:w1.heap.size≤w2.heap.size) (b:Nat) (h:gapTo (gapTo G w w1) w1 w2 b):gapTo G w w2 b:=by
 unfold gapTo at *
 rcases h with (h | h) | h
 ·exact .inl h
 ·exact .inr ⟨h.1,by omega⟩
 ·exact .inr ⟨by omega,h.2⟩
theorem wpAnyF_gap:∀ {fuel:Nat} {listed:Array Bool} {a:Act} {w:World} {G G':Nat→Prop},(∀ b,G' b→G b)→wpAnyF P md ops Q S st E obj fuel listed a w G→wpAnyF P md ops Q S st E obj fuel listed a w G'
 | 0,_,_,_,_,_,hG,h=>fun w' hb hS=>⟨fun D hD=>(h w' hb hS).1 D (hD.more fun b=>Or.imp (hG b) id),(h w' hb hS).2⟩
 | fuel+1,_,_,_,_,_,hG,h=>fun w' hb hS=>⟨fun D hD=>(h w' hb hS).1 D (hD.more fun b=>Or.imp (hG b) id),fun i hi=>let ⟨h1,o,h2,h3,h4⟩:=(h w' hb hS).2 i hi
   ⟨h1,o,h2,h3,wpOp_mono (fun a' w'' h=>⟨h.1,h.2.1,wpAnyF_gap (fun b=>Or.imp (hG b) id) h.2.2⟩) h4⟩⟩
theorem wpAnyF_later {fuel:Nat} {listed:Array Bool} {a:Act} {w w1:World} {G:Nat→Prop} (hb:Below w.heap.size w w1) (h:wpAnyF P md ops Q S st E obj fuel listed a w G):wpAnyF P md ops Q S st E obj fuel listed a w1 (gapTo G w w1):=by
 cases fuel with
 | zero=>
  intro w' hb' hS
  have h:=h w' (hb.trans (hb'.mono hb.size)) hS
  exact ⟨fun D hD=>h.1 D (hD.more (gapTo_back hb.size hb'.size)),h.2⟩
 | succ fuel=>
  intro w' hb' hS
  have h:=h w' (hb.trans (hb'.mono hb.size)) hS
  refine ⟨fun D hD=>h.1 D (hD.more (gapTo_back hb.size hb'.size)),fun i hi=>?_⟩
  obtain ⟨h1,o,h2,h3,h4⟩:=h.2 i hi
  exact ⟨h1,o,h2,h3,wpOp_mono (fun a' w'' h=>⟨h.1,h.2.1,wpAnyF_gap (gapTo_back hb.size hb'.size) h.2.2⟩) h4⟩
theorem flL_done {D:Nat→Option Nat} {i:Nat} {l:Array Bool} : ∀ E:List Nat,i∈E→(D i).isSome=true→(flL D E l).getD i true=true
 | [],h,_=>by cases h
 | k :: E,h,hs=>by
  have key:∀ (l':Array Bool),(l'.setIfInBounds i true).getD i true=true:=fun l'=>by
   rcases Nat.lt_or_ge i l'.size with h' | h'
   ·simp [h']
   ·simp [Array.getElem?_eq_none (show (l'.setIfInBounds i true).size≤i by simpa using h')]
  unfold flL
  by_cases hk:k=i
  ·subst hk
   rw [if_pos hs];exact key _
  ·have h1:i∈E:=(List.mem_cons.1 h).resolve_left (Ne.symm hk)
   split
   ·rw [getD_set_ne true hk];exact flL_done E h1 hs
   ·exact flL_done E h1 hs
theorem pend_of_ready {D:Nat→Option Nat} {i f:Nat} {l:Array Bool} (hf:f∈E) (hn:D f=none) (hl:l.getD f true=false) (hi:i∉E) (h:i∈Region.ready md ops (flL D E l)):i∈pend md ops l E:=by
 obtain ⟨h0,o,ho,hall⟩:=mem_ready.1 h
 have hlt:i<ops.size:=(Array.getElem?_eq_some_iff.1 ho).1
 have hc:E.contains i=false:=by simpa using hi
 rw [flL_getD D E (by simp [hi])] at h0
 unfold pend
 rw [List.mem_filter,List.mem_range]
 refine ⟨hlt,?_⟩
 rw [ho]
 simp only [Option.map_some,Option.getD_some,Bool.and_eq_true,Bool.not_eq_true']
 refine ⟨⟨hc,h0⟩,Array.all_eq_true'.2 fun e he=>?_,List.any_eq_true.2 ⟨f,hf,Array.all_eq_true'.2 fun e he=>?_⟩⟩
 ·cases hb:Region.binds md e with
  | false=>simp
  | true=>
   rcases flL_or D E (hall e he hb) with h | h
   ·simp [h]
   ·simp [h.1]
 ·cases hb:Region.binds md e with
  | false=>simp
  | true=>
   have h1:=hall e he hb
   by_cases hef:e.on=f
   ·rw [hef,flL_getD D E (by simp [hn])] at h1
    rcases Nat.lt_or_ge f l.size with h' | h'
    ·simp [h'] at hl h1;rw [hl] at h1;cases h1
    ·simp [Array.getElem?_eq_none h'] at h1
   ·simp [hef]
def outs (D:Nat→Option Nat):List Nat→Nat
 | []=>0
 | i :: E=>(if (D i).isSome then 0 else 1)+outs D E
theorem outs_zero {D:Nat→Option Nat} : ∀ E:List Nat,outs D E=0→∀ i∈E,∃ H,D i=some H
 | [],_,_,h=>by cases h
 | k :: E,h0,i,h=>by
  unfold outs at h0
  rcases List.mem_cons.1 h with rfl | h
  ·cases hD:D i with
   | none=>rw [hD] at h0;simp at h0
   | some H=>exact ⟨H,rfl⟩
  ·exact outs_zero E (by omega) i h
theorem outs_pos {D:Nat→Option Nat} : ∀ E:List Nat,outs D E≠0→∃ f∈E,D f=none
 | [],h=>absurd rfl h
 | k :: E,h=>by
  unfold outs at h
  cases hD:D k with
  | none=>exact ⟨k,List.mem_cons_self,hD⟩
  | some H=>
   rw [hD] at h
   obtain ⟨f,hf,hn⟩:=outs_pos E (by simpa using h)
   exact ⟨f,List.mem_cons_of_mem _ hf,hn⟩
theorem outs_same {D D':Nat→Option Nat} : ∀ E:List Nat,(∀ j∈E,D j=D' j)→outs D E=outs D' E
 | [],_=>rfl
 | i :: E,h=>by
  unfold outs
  rw [h i List.mem_cons_self,outs_same E fun j hj=>h j (List.mem_cons_of_mem _ hj)]
theorem outs_upd {D:Nat→Option Nat} {i H:Nat} : ∀ E:List Nat,floatsB md ops E=true→i∈E→D i=none→outs D E=outs (upd D i H) E+1
 | [],_,hi,_=>by cases hi
 | k :: E,hf,hi,hn=>by
  simp only [floatsB,Bool.and_eq_true,Bool.not_eq_true'] at hf
  have hk:k∉E:=by simpa using hf.1.1
  by_cases hki:k=i
  ·subst hki
   unfold outs
   rw [hn,outs_same (D:=upd D k H) (D':=D) E fun j hj=>if_neg (fun e:j=k=>hk (by rw [←e];exact hj))]
   simp [upd];omega
  ·have hi':i∈E:=(List.mem_cons.1 hi).resolve_left (Ne.symm hki)
   unfold outs
   have:upd D i H k=D k:=if_neg hki
   rw [this,outs_upd (H:=H) E hf.2 hi' hn]
   omega
theorem wpAnyF_core (hf:floatsB md ops E=true) (hrun:FloatRun P ops E obj) (hSs:∀ w w',Below w.heap.size w w'→S w→S w') (hsel:Region.noSelect ops=true)
  (hQ:∀ c (a:Act) d v w,Q (.panic c) a w→Q (.panic c) (a.put (some d) v) w) :
  ∀ (n fuel:Nat) (listed:Array Bool) (a:Act) (w:World) (G:Nat→Prop) (D:Nat→Option Nat),n=fuel+outs D E→(∀ i∈E,listed.getD i true=false) →
   (∀ i∈E,∀ H,D i=some H→w.heap[H]?=some (obj i)∧G H)→(∀ i∈E,∀ j∈E,i≠j→∀ H,D i=some H→D j≠some H)→S w →
   wpAnyF P md ops Q S st E obj fuel listed a w G→wpAnyW P md ops Q S st n (flL D E listed) (flA ops D E a) w:=by
 have full:∀ {D:Nat→Option Nat} {w:World} {G:Nat→Prop},outs D E=0→(∀ i∈E,∀ H,D i=some H→w.heap[H]?=some (obj i)∧G H)→(∀ i∈E,∀ j∈E,i≠j→∀ H,D i=some H→D j≠some H)→FlOk E obj D w (gapTo G w w):=fun h0 hD hne=>by
  refine ⟨fun i hi=>?_,fun i hi j hj hij e=>?_⟩
  ·obtain ⟨H,hH⟩:=outs_zero E h0 i hi
   exact ⟨H,hH,(hD i hi H hH).1,.inl (hD i hi H hH).2⟩
  ·obtain ⟨H,hH⟩:=outs_zero E h0 i hi
   exact hne i hi j hj hij H hH (e ▸ hH)
 intro n
 induction n with
 | zero=>
  intro fuel listed a w G D hn hl hD hne hS h
  obtain rfl:fuel=0:=by omega
  have h0:outs D E=0:=by omega
  exact (h w (Below.refl _ _) hS).1 D (full h0 hD hne)
 | succ n ih=>
  intro fuel listed a w G D hn hl hD hne hS h
  by_cases h0:outs D E=0
  ·obtain rfl:fuel=n+1:=by omega
   exact (h w (Below.refl _ _) hS).1 D (full h0 hD hne)
  ·obtain ⟨f,hfE,hfn⟩:=outs_pos E h0
   have hfr:f∈Region.ready md ops (flL D E listed):=by
    obtain ⟨o,d,ho,hg,hd,hafter⟩:=floatsB_dst E hf hfE
    exact mem_ready.2 ⟨by rw [flL_getD D E (by simp [hfn])];exact hl f hfE,o,ho,fun e he hb=>by rw [hafter e he] at hb;cases hb⟩
   refine ⟨fun he=>absurd (he ▸ hfr) (by simp),fun i hi=>?_⟩
   by_cases hiE:i∈E
   ·obtain ⟨o,d,ho,hg,hd,hafter⟩:=floatsB_dst E hf hiE
    have hDi:D i=none:=by
     cases hDi:D i with
     | none=>rfl
     | some H=>
      have h1:=(mem_ready.1 hi).1
      rw [flL_done E hiE (by rw [hDi];rfl)] at h1
      cases h1
    have hb:Below w.heap.size w (w.alloc (obj i)):=(Below.refl _ _).alloc (Nat.le_refl _) _
    refine wpOp_step ho fun K' hK=>?_
    rw [if_pos (show Region.wanted o _=true from by unfold Region.wanted;rw [hg])]
    unfold Oper.wp
    rw [hrun i hiE o ho]
    refine hK _ _ ⟨fun _=>hSs _ _ hb hS,?_⟩
    have hput:(flA ops D E a).put o.dst (.pointer (some ⟨w.heap.size,0,none⟩))=flA ops (upd D i w.heap.size) E a:=by
     rw [flA_upd E hf hiE hDi,ho];rfl
    rw [hput,←flL_upd E hf hiE hDi (H:=w.heap.size)]
    refine ih fuel listed a (w.alloc (obj i)) (gapTo G w (w.alloc (obj i))) (upd D i w.heap.size) (by have:=outs_upd (H:=w.heap.size) E hf hiE hDi;omega) hl (fun j hj H hH=>?_) (fun j hj k hk hjk H hH hH2=>?_) (hSs _ _ hb hS) (wpAnyF_later hb h)
    ·unfold upd at hH
     by_cases hji:j=i
     ·rw [if_pos hji] at hH
      injection hH with hH
      subst hH hji
      exact ⟨heap_alloc_new w _,.inr ⟨Nat.le_refl _,by simp⟩⟩
     ·rw [if_neg hji] at hH
      obtain ⟨h1,h2⟩:=hD j hj H hH
      exact ⟨(hb.block H (Array.getElem?_eq_some_iff.1 h1).1).trans h1,.inl h2⟩
    ·unfold upd at hH hH2
     by_cases hji:j=i
     ·have hki:k≠i:=fun e=>hjk (hji.trans e.symm)
      rw [if_pos hji] at hH
      rw [if_neg hki] at hH2
      injection hH with hH
      have h1:=(Array.getElem?_eq_some_iff.1 (hD k hk H hH2).1).1
      omega
     ·rw [if_neg hji] at hH
      by_cases hki:k=i
      ·rw [if_pos hki] at hH2
       injection hH2 with hH2
       have h1:=(Array.getElem?_eq_some_iff.1 (hD j hj H hH).1).1
       omega
      ·rw [if_neg hki] at hH2
       exact hne j hj k hk hjk H hH hH2
   ·have hpe:=pend_of_ready hfE hfn (hl f hfE) hiE hi
    cases fuel with
    | zero=>
     rw [(h w (Below.refl _ _) hS).2] at hpe
     cases hpe
    | succ fuel=>
     obtain ⟨_,o,ho,hfar,hw⟩:=(h w (Below.refl _ _) hS).2 i hpe
     refine wpOp_far ho (fun cs b=>Region.noSelect_spec hsel i o cs b ho) hQ D E hf hfar (wpOp_mono (fun a' w'' h=>⟨fun _=>h.2.1,?_⟩) hw)
     rw [←flL_set D E hiE]
     refine ih fuel (listed.setIfInBounds i true) a' w'' (gapTo G w w) D (by omega) (fun j hj=>?_) (fun j hj H hH=>?_) hne h.2.1 h.2.2
     ·rw [getD_set_ne true (fun e=>hiE (by rw [e];exact hj))];exact hl j hj
     ·obtain ⟨h1,h2⟩:=hD j hj H hH
      exact ⟨(h.1.block H (Array.getElem?_eq_some_iff.1 h1).1).trans h1,.inl h2⟩
theorem wpAnyW_float (E:List Nat) (obj:Nat→Obj) {n fuel:Nat} {listed:Array Bool} {a:Act} {w:World} (hf:floatsB md ops E=true) (hl:(E.all fun i=>!listed.getD i true)=true) (hrun:FloatRun P ops E obj) (hSs:∀ w w',Below w.heap.size w w'→S w→S w') (hsel:Region.noSelect ops=true)
  (hQ:∀ c (a:Act) d v w,Q (.panic c) a w→Q (.panic c) (a.put (some d) v) w) (hn:n=fuel+E.length) (hS:S w) (h:wpAnyF P md ops Q S st E obj fuel listed a w (fun _=>False)):wpAnyW P md ops Q S st n listed a w:=by
 have h1:∀ E:List Nat,flL (fun _=>none) E listed=listed:=fun E=>by induction E with
  | nil=>rfl
  | cons i E ih=>simpa [flL] using ih
 have h2:∀ E:List Nat,flA ops (fun _=>none) E a=a:=fun E=>by induction E with
  | nil=>rfl
  | cons i E ih=>simpa [flA] using ih
 have h3:∀ E:List Nat,outs (fun _=>none) E=E.length:=fun E=>by induction E with
  | nil=>rfl
  | cons i E ih=>simp [outs,ih];omega
 have:=wpAnyF_core (D:=fun _=>none) hf hrun hSs hsel hQ n fuel listed a w (fun _=>False) (by rw [h3];exact hn) (fun i hi=>by simpa using List.all_eq_true.1 hl i hi) (fun _ _ _ h=>by cases h) (fun _ _ _ _ _ _ h=>by cases h) hS h
 rw [h1,h2] at this
 exact this
theorem wpAnyF_one {i:Nat} {o:Oper} {fuel:Nat} {listed:Array Bool} {a:Act} {w:World} {G:Nat→Prop} (hf:floatsB md ops E=true) (hsel:Region.noSelect ops=true) (hQ:∀ c (a:Act) d v w,Q (.panic c) a w→Q (.panic c) (a.put (some d) v) w)
  (hp:pend md ops listed E = [i]∧Region.ready md ops (flAll E listed) = [i]) (hiE:E.contains i=false) (ho:ops[i]?=some o) (hfar:farFrom ops E o=true)
  (h:∀ w',Below w.heap.size w w'→S w'→∀ K':Act→World→Prop,Shut (∀ a'' w'',Below w'.heap.size w' w''→S w''→wpAnyF P md ops Q S st E obj fuel (listed.setIfInBounds i true) a'' w'' (gapTo G w w')→K' a'' w'')→if Region.wanted o (yielded ops a.tmps)=true then Oper.wp P o a w' K' Q else K' (a.put o.dst undef) w') :
  wpAnyF P md ops Q S st E obj (fuel+1) listed a w G:=by
 have hiE':i∉E:=by simpa using hiE
 intro w' hb hS
 have hop:wpOp P ops Q i (fun a' w''=>Below w'.heap.size w' w''∧S w''∧wpAnyF P md ops Q S st E obj fuel (listed.setIfInBounds i true) a' w'' (gapTo G w w')) a w':=
  wpOp_step ho fun K' hK=>h w' hb hS K' (fun a'' w'' h1 h2 h3=>hK a'' w'' ⟨h1,h2,h3⟩)
 refine ⟨fun D hD=>?_,fun j hj=>?_⟩
 ·have hall:∀ i∈E,(D i).isSome=true:=fun i hi=>let ⟨H,hH,_⟩:=hD.1 i hi;by rw [hH];rfl
  have hr:Region.ready md ops (flL D E listed) = [i]:=by rw [flL_all D E hall];exact hp.2
  refine ⟨fun h0=>absurd (hr ▸ h0) (by simp),fun j hj=>?_⟩
  rw [hr] at hj
  obtain rfl:j=i:=by simpa using hj
  refine wpOp_far ho (fun cs b=>Region.noSelect_spec hsel j o cs b ho) hQ D E hf hfar (wpOp_mono (fun a' w'' h=>⟨fun _=>h.2.1,?_⟩) hop)
  rw [←flL_set D E hiE']
  have hD':FlOk E obj D w'' (gapTo (gapTo G w w') w'' w''):=(hD.below h.1).more fun _ h=>.inl h
  cases fuel with
  | zero=>exact (h.2.2 w'' (Below.refl _ _) h.2.1).1 D hD'
  | succ fuel=>exact (h.2.2 w'' (Below.refl _ _) h.2.1).1 D hD'
 ·rw [hp.1] at hj
  obtain rfl:j=i:=by simpa using hj
  exact ⟨hiE',o,ho,hfar,hop⟩
theorem wpAnyF_land {fuel:Nat} {listed:Array Bool} {a:Act} {w:World} {G:Nat→Prop} (hp:pend md ops listed E = [])
  (h:∀ w' D,Below w.heap.size w w'→S w'→FlOk E obj D w' (gapTo G w w')→wpAnyW P md ops Q S st fuel (flAll E listed) (flA ops D E a) w'):wpAnyF P md ops Q S st E obj fuel listed a w G:=by
 have key:∀ w',Below w.heap.size w w'→S w'→∀ D,FlOk E obj D w' (gapTo G w w')→wpAnyW P md ops Q S st fuel (flL D E listed) (flA ops D E a) w':=fun w' hb hS D hD=>by
  rw [flL_all D E fun i hi=>let ⟨H,hH,_⟩:=hD.1 i hi;by rw [hH];rfl]
  exact h w' D hb hS hD
 cases fuel with
 | zero=>exact fun w' hb hS=>⟨key w' hb hS,hp⟩
 | succ fuel=>exact fun w' hb hS=>⟨key w' hb hS,fun i hi=>by rw [hp] at hi;cases hi⟩
theorem wpAnyF_land1 {i:Nat} {oi:Oper} {fuel:Nat} {listed:Array Bool} {a:Act} {w:World} {G:Nat→Prop} (hp:pend md ops listed [i] = []) (hi:ops[i]?=some oi)
  (h:∀ w' HA,Below w.heap.size w w'→S w'→w'.heap[HA]?=some (obj i)→gapTo G w w' HA→wpAnyW P md ops Q S st fuel (listed.setIfInBounds i true) (a.put oi.dst (.pointer (some ⟨HA,0,none⟩))) w'):wpAnyF P md ops Q S st [i] obj fuel listed a w G:=
 wpAnyF_land hp fun w' D hb hS hD=>by
  obtain ⟨HA,h1,h2,h3⟩:=hD.1 i (by simp)
  have:=h w' HA hb hS h2 h3
  simp only [flAll,flA,h1,hi,Option.bind_some]
  exact this
theorem pend_spec {j:Nat} {l:Array Bool} : j∈pend md ops l E↔j∉E∧l.getD j true=false∧∃ o,ops[j]?=some o∧(∀ e∈o.after,Region.binds md e=true→l.getD e.on false=true∨e.on∈E)∧∃ f∈E,∀ e∈o.after,Region.binds md e=true→e.on≠f:=by
 have bx:∀ {p q:Bool},(!p || q)=true↔(p=true→q=true):=by decide
 unfold pend
 rw [List.mem_filter,List.mem_range]
 cases ho:ops[j]? with
 | none=>simp
 | some o=>
  have hlt:j<ops.size:=(Array.getElem?_eq_some_iff.1 ho).1
  simp only [hlt,true_and,Option.map_some,Option.getD_some,Bool.and_eq_true,Bool.not_eq_true',Array.all_eq_true_iff_forall_mem,Bool.or_assoc,bx,Bool.or_eq_true,List.any_eq_true,bne_iff_ne,ne_eq,List.contains_eq_mem,decide_eq_false_iff_not,decide_eq_true_eq,Option.some.injEq,exists_eq_left',and_assoc]
theorem ready_flL {D:Nat→Option Nat} {i:Nat} {l:Array Bool} : ∀ E:List Nat,i∉E→i∈Region.ready md ops l→i∈Region.ready md ops (flL D E l)
 | [],_,h=>h
 | k :: E,hi,h=>by
  have h1:i∉E:=fun h'=>hi (List.mem_cons_of_mem _ h')
  have h2:i≠k:=fun e=>hi (e ▸ List.mem_cons_self)
  unfold flL
  split
  ·exact ready_mono (ready_flL E h1 h) h2
  ·exact ready_flL E h1 h
theorem flA_eval {o:Oper} (hs:∀ cs b,o.op ≠ .select cs b) (D:Nat→Option Nat) {a:Act} : ∀ E:List Nat,floatsB md ops E=true→farFrom ops E o=true →
  execOp (flA ops D E a).eval o=execOp a.eval o∧Region.wanted o (yielded ops (flA ops D E a).tmps)=Region.wanted o (yielded ops a.tmps)∧∀ v,(flA ops D E a).put o.dst v=flA ops D E (a.put o.dst v)
 | [],_,_=>⟨rfl,rfl,fun _=>rfl⟩
 | k :: E,hf,hfar=>by
  have hff:=hf
  have hfar':=farFrom_spec _ hfar k List.mem_cons_self
  simp only [floatsB,Bool.and_eq_true] at hf
  simp only [farFrom,List.all_cons,Bool.and_eq_true] at hfar
  obtain ⟨ok,d,ho,_,hd,_⟩:=floatsB_dst _ hff List.mem_cons_self
  have hod:(ops[k]?).bind (·.dst)=some d:=by rw [ho];exact hd
  obtain ⟨e1,e2,e3⟩:=flA_eval hs D (a:=a) E hf.2 hfar.2
  unfold flA
  cases hD:D k with
  | none=>exact ⟨e1,e2,e3⟩
  | some H=>
   simp only [hod]
   have h1:∀ d',some d=some d'→d'∉o.looksAt ops:=fun d' e=>by injection e with e;exact e ▸ (hfar' d hod).1
   refine ⟨(execOp_put o hs _ _ _ h1).trans e1,(wanted_put o _ _ _ h1).trans e2,fun v=>?_⟩
   rw [←e3 v,Act.put_comm _ _ v fun d' e=>by injection e with e;exact e ▸ (hfar' d hod).2]
theorem wpAnyF_first {i:Nat} {k:Nat} {oi:Oper} {v:Value} (hi:ops[i]?=some oi) (hsel:∀ (j:Nat) (o:Oper) cs b,ops[j]?=some o→o.op ≠ .select cs b) (hQ:∀ c a w,Q (.panic c) (a.put oi.dst v) w→Q (.panic c) a w)
  (hki:waitsFor md ops k i=true) (hnk:(k==i)=false) (hst:(st==k)=true∨waitsFor md ops st k=true) (hne:(st==i)=false) (hiE:i∉E) (hkE:k∉E) (hsE:st∉E) (hf:floatsB md ops E=true) (hfi:farFrom ops E oi=true) :
  ∀ (fuel:Nat) (listed:Array Bool) (a:Act) (w:World) (G:Nat→Prop),(∀ j oj,ops[j]?=some oj→j≠i→listed.getD j true=false→(∀ e∈oj.after,Region.binds md e=true→e.on≠i)→oi.apart ops oj=true)→i∈Region.ready md ops listed →
   listed.getD k true=false→listed.getD st true=false→YieldsIf P ops S oi v a →
   wpAnyF P md ops Q S st E obj fuel (listed.setIfInBounds i true) (a.put oi.dst v) w G→wpAnyF P md ops Q S st E obj (fuel+1) listed a w G:=by
 intro fuel
 induction fuel with
 | zero=>
  intro listed a w G hfree hr hk hl hy h w' hb hS
  have ee:=fun D=>flA_eval (md:=md) (a:=a) (hsel i oi · · hi) D E hf hfi
  refine ⟨fun D hD=>?_,fun j hj=>?_⟩
  ·refine wpAnyW_first hi hsel hQ hki hnk hst hne 0 (flL D E listed) (flA ops D E a) w' (fun j oj hj hji hun=>hfree j oj hj hji ?_) (ready_flL E hiE hr) (hy.of_same (ee D).1 (ee D).2.1) (by rw [flL_getD D E (by simp [hkE])];exact hk) (by rw [flL_getD D E (by simp [hsE])];exact hl) hS ?_
   ·cases hc:(E.contains j && (D j).isSome) with
    | false=>rw [flL_getD D E hc] at hun;exact hun
    | true=>
     simp only [Bool.and_eq_true] at hc
     rw [flL_done E (by simpa using hc.1) hc.2] at hun
     cases hun
   ·rw [(ee D).2.2,←flL_set D E hiE]
    exact (h w' hb hS).1 D hD
  ·by_cases hji:j=i
   ·subst hji
    exact ⟨hiE,oi,hi,hfi,hy.wpOp hi hS ⟨Below.refl _ _,hS,wpAnyF_later hb h⟩⟩
   ·have:=(h w' hb hS).2
    obtain ⟨p1,p2,o,p3,p4,p5⟩:=pend_spec.1 hj
    have hj':j∈pend md ops (listed.setIfInBounds i true) E:=pend_spec.2 ⟨p1,by rw [getD_set_ne true (Ne.symm hji)];exact p2,o,p3,fun e he hb=>(p4 e he hb).imp (fun h=>getD_set_true h) id,p5⟩
    rw [this] at hj'
    cases hj'
 | succ fuel ih=>
  intro listed a w G hfree hr hk hl hy h w' hb hS
  have ee:=fun D=>flA_eval (md:=md) (a:=a) (hsel i oi · · hi) D E hf hfi
  refine ⟨fun D hD=>?_,fun j hj=>?_⟩
  ·refine wpAnyW_first hi hsel hQ hki hnk hst hne (fuel+1) (flL D E listed) (flA ops D E a) w' (fun j oj hj hji hun=>hfree j oj hj hji ?_) (ready_flL E hiE hr) (hy.of_same (ee D).1 (ee D).2.1) (by rw [flL_getD D E (by simp [hkE])];exact hk) (by rw [flL_getD D E (by simp [hsE])];exact hl) hS ?_
   ·cases hc:(E.contains j && (D j).isSome) with
    | false=>rw [flL_getD D E hc] at hun;exact hun
    | true=>
     simp only [Bool.and_eq_true] at hc
     rw [flL_done E (by simpa using hc.1) hc.2] at hun
     cases hun
   ·rw [(ee D).2.2,←flL_set D E hiE]
    exact (h w' hb hS).1 D hD
  ·by_cases hji:j=i
   ·subst hji
    exact ⟨hiE,oi,hi,hfi,hy.wpOp hi hS ⟨Below.refl _ _,hS,wpAnyF_later hb h⟩⟩
   ·obtain ⟨p1,p2,o,p3,p4,p5⟩:=pend_spec.1 hj
    have hj':j∈pend md ops (listed.setIfInBounds i true) E:=pend_spec.2 ⟨p1,by rw [getD_set_ne true (Ne.symm hji)];exact p2,o,p3,fun e he hb=>(p4 e he hb).imp (fun h=>getD_set_true h) id,p5⟩
    obtain ⟨_,oj,hoj,hfar,hw⟩:=(h w' hb hS).2 j hj'
    obtain rfl:o=oj:=by rw [p3] at hoj;injection hoj
    have hiun:=(mem_ready.1 hr).1
    have hnw:∀ e∈o.after,Region.binds md e=true→e.on≠i:=fun e he hb heq=>by
     rcases p4 e he hb with h0 | h0
     ·rw [heq] at h0
      rcases Nat.lt_or_ge i listed.size with h' | h'
      ·simp [h'] at hiun h0;rw [hiun] at h0;cases h0
      ·simp [Array.getElem?_eq_none h'] at h0
     ·exact hiE (heq ▸ h0)
    have nw:∀ {q r:Nat},waitsFor md ops q r=true→listed.getD r true=false→r∉E→j≠q:=fun {q r} hw hun hrE e=>by
     subst e
     unfold waitsFor at hw
     simp only [p3] at hw
     obtain ⟨e,he,hb⟩:=Array.any_eq_true'.1 hw
     simp only [Bool.and_eq_true,beq_iff_eq] at hb
     rcases p4 e he hb.1 with h0 | h0
     ·rw [hb.2] at h0
      rcases Nat.lt_or_ge r listed.size with h' | h'
      ·simp [h'] at hun h0;rw [hun] at h0;cases h0
      ·simp [Array.getElem?_eq_none h'] at h0
     ·exact hrE (hb.2 ▸ h0)
    have hjk:j≠k:=nw hki hiun hiE
    have hjs:j≠st:=by
     rcases hst with h | h
     ·exact fun e=>hjk (e.trans (by simpa using h))
     ·exact nw h hk hkE
    refine ⟨p1,o,p3,hfar,?_⟩
    have h2:=wpOp_putIf p3 (hfree j o p3 hji p2 hnw) (fun cs b=>hsel i oi cs b hi) (fun cs b=>hsel j o cs b p3) hQ hy hw
    refine wpOp_mono (fun a' w'' h3=>⟨h3.2.1,h3.2.2.1,ih (listed.setIfInBounds j true) a' w'' _ (fun k' ok hk' hki' hun hno=>hfree k' ok hk' hki' ?_ hno) (ready_mono hr (Ne.symm hji)) (by rw [getD_set_ne true hjk];exact hk) (by rw [getD_set_ne true hjs];exact hl) h3.1 ?_⟩) h2
    ·by_cases hjk':j=k'
     ·subst hjk';exact p2
     ·rw [getD_set_ne true hjk'] at hun;exact hun
    ·rw [Array.setIfInBounds_comm _ _ hji]
     exact h3.2.2.2
theorem wpAnyF_take {i:Nat} (k:Nat) {oi:Oper} {v:Value} {fuel:Nat} {listed:Array Bool} {a:Act} {w:World} {G:Nat→Prop} (hi:ops[i]?=some oi) (hs:Region.noSelect ops=true) (hf:floatsB md ops E=true) (hfr:Region.free md ops listed i=true)
  (hc:((Region.ready md ops listed).contains i && waitsFor md ops k i && !(k==i) && (st==k || waitsFor md ops st k) && !(st==i) && !E.contains i && !E.contains k && !E.contains st && farFrom ops E oi && !listed.getD k true && !listed.getD st true)=true)
  (hQ:∀ c a w,Q (.panic c) (a.put oi.dst v) w→Q (.panic c) a w) (hy:YieldsIf P ops S oi v a) (h:wpAnyF P md ops Q S st E obj fuel (listed.setIfInBounds i true) (a.put oi.dst v) w G):wpAnyF P md ops Q S st E obj (fuel+1) listed a w G:=by
 simp only [Bool.and_eq_true,Bool.not_eq_true',Bool.or_eq_true,List.contains_eq_mem,decide_eq_false_iff_not,decide_eq_true_eq,and_assoc] at hc
 obtain ⟨h1,h2,h3,h4,h5,h6,h7,h8,h9,h10,h11⟩:=hc
 exact wpAnyF_first hi (Region.noSelect_spec hs) hQ h2 h3 h4 h5 h6 h7 h8 hf h9 fuel listed a w G (Region.free_spec hi hfr) h1 h10 h11 hy h
def gateB (md:Region.Mode) (ops:Array Oper) (st:Nat) (E:List Nat) (listed:Array Bool) (i:Nat):Bool:=(List.range ops.size).any fun k=>waitsFor md ops k i && !(k==i) && (st==k || waitsFor md ops st k) && !E.contains k && !listed.getD k true
def takeB (md:Region.Mode) (ops:Array Oper) (st:Nat) (E:List Nat) (listed:Array Bool) (i:Nat):Bool:=Region.noSelect ops && Region.free md ops listed i && (Region.ready md ops listed).contains i && gateB md ops st E listed i && !(st==i) && !E.contains i && !E.contains st && (match ops[i]? with | some o=>farFrom ops E o | none=>false) && !listed.getD st true && floatsB md ops E
theorem takeB_spec {i:Nat} {oi:Oper} {listed:Array Bool} (hi:ops[i]?=some oi) (h:takeB md ops st E listed i=true) :
  Region.noSelect ops=true∧floatsB md ops E=true∧Region.free md ops listed i=true∧∃ k,((Region.ready md ops listed).contains i && waitsFor md ops k i && !(k==i) && (st==k || waitsFor md ops st k) && !(st==i) && !E.contains i && !E.contains k && !E.contains st && farFrom ops E oi && !listed.getD k true && !listed.getD st true)=true:=by
 unfold takeB gateB at h
 rw [hi] at h
 simp only [Bool.and_eq_true,List.any_eq_true] at h
 obtain ⟨⟨⟨⟨⟨⟨⟨⟨⟨h1,h2⟩,h3⟩,k,hk0,hk⟩,h5⟩,h6⟩,h7⟩,h8⟩,h9⟩,h10⟩:=h
 obtain ⟨⟨⟨⟨k1,k2⟩,k3⟩,k4⟩,k5⟩:=hk
 refine ⟨h1,h10,h2,k,?_⟩
 simp only [h3,k1,k2,k3,h5,h6,k4,h7,h8,k5,h9,Bool.and_self]
theorem tkF (i:Nat) {oi:Oper} {v:Value} {fuel:Nat} {listed:Array Bool} {a:Act} {w:World} {G:Nat→Prop} (hi:ops[i]?=some oi) (hB:takeB md ops st E listed i=true) (hQ:∀ c a w,Q (.panic c) (a.put oi.dst v) w→Q (.panic c) a w)
  (hg:Region.wanted oi (yielded ops a.tmps)=true) (hy:∀ z,S z→(execOp a.eval oi).run P z = .ok (.value v) z) (h:wpAnyF P md ops Q S st E obj fuel (listed.setIfInBounds i true) (a.put oi.dst v) w G):wpAnyF P md ops Q S st E obj (fuel+1) listed a w G:=by
 obtain ⟨h1,h2,h3,k,h4⟩:=takeB_spec hi hB
 exact wpAnyF_take k hi h1 h2 h3 h4 hQ (.inl ⟨hg,hy⟩) h
theorem tkW (i:Nat) {oi:Oper} {v:Value} {fuel:Nat} {listed:Array Bool} {a:Act} {w:World} (hS:S w) (hi:ops[i]?=some oi) (hB:takeB md ops st [] listed i=true) (hQ:∀ c a w,Q (.panic c) (a.put oi.dst v) w→Q (.panic c) a w)
  (hg:Region.wanted oi (yielded ops a.tmps)=true) (hy:∀ z,S z→(execOp a.eval oi).run P z = .ok (.value v) z) (h:wpAnyW P md ops Q S st fuel (listed.setIfInBounds i true) (a.put oi.dst v) w):wpAnyW P md ops Q S st (fuel+1) listed a w:=by
 obtain ⟨h1,h2,h3,k,h4⟩:=takeB_spec hi hB
 simp only [Bool.and_eq_true] at h4
 obtain ⟨⟨⟨⟨⟨⟨⟨⟨⟨⟨k1,k2⟩,k3⟩,k4⟩,k5⟩,_⟩,_⟩,_⟩,_⟩,k6⟩,k7⟩:=h4
 exact wpAnyW_take k hi h1 h3 k1 (by simp only [k2,k3,k4,k5,k6,k7,Bool.and_self]) hQ (.inl ⟨hg,hy⟩) hS h
theorem wp_region_U {id:Nat} {a:Act} {w:World} (st:Nat) (hm:P.follows .mixedOrders=true)
  (h:∀ z,Below w.heap.size w z→z.heap.size=w.heap.size→wpAnyW P .any ops Q (fun z=>Below w.heap.size w z) st ops.size (Array.replicate ops.size false) a z):(Code.region id ops true).wp P Q a w:=
 wp_region_wait _ st hm (h w.drew (Below.refl _ _).drew rfl)
theorem FloatRun.one {i:Nat} {oi:Oper} {bi:Obj} (hi:ops[i]?=some oi) (ri:∀ (a:Act) (w:World),(execOp a.eval oi).run P w = .ok (.value (.pointer (some ⟨w.heap.size,0,none⟩))) (w.alloc bi)):FloatRun P ops [i] (fun _=>bi):=fun q hq o ho=>by
 obtain rfl:q=i:=by simpa using hq
 rw [hi] at ho
 injection ho with ho
 exact ho ▸ ri
end
end Go.Proofs.YtgfeainpeplphaaDoor
