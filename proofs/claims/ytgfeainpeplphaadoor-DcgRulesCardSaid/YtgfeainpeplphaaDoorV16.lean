/- The law DcgRules of layer 10 answers true for every input, and leaves its arguments as they were; its two listed variables hold what the program's text lays. -/
import Derived.Test.YtgfeainpeplphaaDoorCards
import Derived.Test.YtgfeainpeplphaaDoorTie
import Derived.Lay
import Derived.Test.YtgfeainpeplphaaDoorV2
import Derived.Test.YtgfeainpeplphaaDoorV4
import Derived.Test.YtgfeainpeplphaaDoorV7
import Derived.Test.YtgfeainpeplphaaDoorV10
import Derived.Test.YtgfeainpeplphaaDoorV11
import Derived.Test.YtgfeainpeplphaaDoorV12
import Derived.Test.YtgfeainpeplphaaDoorV14
import Derived.Test.YtgfeainpeplphaaDoorV15
import Derived.Test.YtgfeainpeplphaaDoorV0
set_option maxRecDepth 1000000
set_option maxHeartbeats 64000000
set_option linter.unusedVariables false
set_option linter.unusedSimpArgs false
namespace Go.Proofs.YtgfeainpeplphaaDoor
open Go.RowKit Hb Ht
attribute [local go_sem] Oper.semAt_some
def expR (cc:Int) (h:Bool):Int:=if cc≠0 then cc else if h=true then 1 else 0
def expW (N:Int) (t:Tm):Tm × Bool × Tm:=if N≠0 then (zeroT,false,zeroT) else ruleA t
theorem own_zeroR {w:World} {lo hi:Nat} (h:lo≤hi):TOwn w zeroT (.slice none 0 0) lo hi:=
 TOwn.iff.2 ⟨okF_zero,Nat.zero_le _,h,none,0,rfl,Nat.le_refl _,Nat.zero_le _,fun hne=>absurd rfl hne⟩
def RuleX (w:World) (N:Int) (X:Tm × Bool × Tm) (e:Ending) (w':World):Prop:=
 ∃ sg ev,e = .returned (.tuple #[valT X.1 sg,ev])∧TOwn w' X.1 sg w.heap.size w'.heap.size∧WrongOk w' ev N X.2.1 X.2.2∧Below w.heap.size w w'
theorem Rule_X {w0 w:World} {t:Tm} {st:Value} {cc N:Int} (h1:TAt w w.heap.size t st) (hU:UOk w0 w) (hcc:checkP t=cc) (hN:expR cc (highB t)=N) :
  Calls Tryd.prog 9 #[valT t st] w (RuleX w N (expW N t)):=by
 by_cases h0:cc=0
 ·subst h0
  refine (Rule_main h1 hU hcc).mono ?_
  rintro e w' (⟨hh,rfl,hb⟩ | ⟨hh,hb,h⟩)
  ·have e1:N=1:=by rw [←hN];exact (if_neg (by simp)).trans (if_pos hh)
   subst e1
   rw [show expW 1 t=(zeroT,false,zeroT) from if_pos (by decide)]
   exact ⟨.slice none 0 0,_,rfl,own_zeroR hb.size,.inl ⟨by decide,rfl⟩,hb⟩
  ·have e1:N=0:=by rw [←hN];exact (if_neg (by simp)).trans (if_neg (by rw [hh];simp))
   subst e1
   rw [show expW 0 t=ruleA t from if_neg (by simp)]
   have hr:=rel_rule hcc
   cases hq:ruleT t with
   | error b=>
    rw [hq] at h hr
    obtain ⟨bb,rfl,hball⟩:=h
    rw [show ruleA t=(zeroT,true,b) from hr]
    exact ⟨.slice none 0 0,_,rfl,own_zeroR hb.size,.inr (.inl ⟨rfl,rfl,bb,rfl,hball⟩),hb⟩
   | ok g=>
    rw [hq] at h hr
    obtain ⟨sg,rfl,ho⟩:=h
    obtain ⟨b,hr⟩:=hr
    rw [hr]
    exact ⟨sg,_,rfl,ho,.inr (.inr ⟨rfl,rfl,rfl⟩),hb⟩
 ·have e1:N=cc:=by rw [←hN];exact if_pos h0
  subst e1
  refine (Rule_err h1 hU hcc h0).mono ?_
  rintro e w' ⟨rfl,hb⟩
  rw [show expW N t=(zeroT,false,zeroT) from if_pos h0]
  exact ⟨.slice none 0 0,_,rfl,own_zeroR hb.size,.inl ⟨h0,rfl⟩,hb⟩
theorem RuleX.letters {w w':World} {N:Int} {k v b k2 v2 b2:Int} {i:Bool} {n m n2 m2:List UInt8} {ts ts2:List Tm} {nb mb:ByteArray} {q:Nat} {e:Ending} (hn:(⟨n.toArray⟩:ByteArray)=nb) (hm:(⟨m.toArray⟩:ByteArray)=mb) (hq:ts.length=q)
  (h:RuleX w N (.mk k n m b v ts,i,.mk k2 n2 m2 b2 v2 ts2) e w'):∃ A c ev,e = .returned (.tuple #[.agg (Q5 k nb mb b v (.slice A q c)),ev]) ∧
   TOwn w' (.mk k n m b v ts) (.slice A q c) w.heap.size w'.heap.size∧WrongOk w' ev N i (.mk k2 n2 m2 b2 v2 ts2)∧Below w.heap.size w w':=by
 obtain ⟨sg,ev,he,h1,h2,hb⟩:=h
 obtain ⟨A,c,rfl⟩:=TAtP.sl hq (TOwn.atP _ h1)
 exact ⟨A,c,ev,by rw [he];show Ending.returned (.tuple #[valT (.mk k n m b v ts) _,_])=_;rw [valT_mk hn hm],h1,h2,hb⟩
theorem Rules_walkM {w0 w:World} {t:Tm} {st:Value} (hMk:∀ y,RMakeOk y) (h1:TAt w w.heap.size t st) (hf1:Fits t) (hU:UOk w0 w) :
  Calls Tryd.prog 3 #[valT t st] w fun e w'=>e = .returned (.bool true)∧Below w.heap.size w w':=by
 obtain ⟨k1,n1,m1,b1,v1,ts1,nb1,mb1,A1,c1,rfl,rfl,hn1,hm1,_,_,_,hv1,_,_⟩:=h1.letters
 obtain ⟨L1,hL1⟩:∃ L,ts1.length=L:=⟨_,rfl⟩
 rw [hL1] at h1 hv1 ⊢
 rw [hv1]
 obtain ⟨W1,hW1⟩:∃ W,(w.alloc (.cells (Q5 k1 nb1 mb1 b1 v1 (.slice A1 L1 c1)) 25))=W:=⟨_,rfl⟩
 have d1:Below w.heap.size w W1:=by rw [←hW1];exact Qb
 have X1:TBox W1 w.heap.size (Tm.mk k1 n1 m1 b1 v1 ts1) (.slice A1 L1 c1):=by rw [←hW1];exact TBox.new w hn1 hm1
 have HXt:=Qh (show ∀ z,Below W1.heap.size W1 z→TBox z w.heap.size (Tm.mk k1 n1 m1 b1 v1 ts1) (.slice A1 L1 c1)∧TAt z z.heap.size (Tm.mk k1 n1 m1 b1 v1 ts1) (.slice A1 L1 c1)∧TAt z w.heap.size (Tm.mk k1 n1 m1 b1 v1 ts1) (.slice A1 L1 c1)∧UOk w0 z∧Below w.heap.size w z from fun z hb=>by
  have hz:=Qt d1 hb
  exact ⟨X1.below hb,h1.to hz hz.size,TAt.below _ h1 hz (Nat.le_refl _),hU.below hz,hz⟩)
 have HM1:=Qh (Qa hn1 (Qa hm1 hL1))
 have HFi:=Qh hf1
 have HA:=Qh (awake_any (hU.below d1))
 have HMk:=Qh hMk
 obtain ⟨cc,hcc⟩:∃ cc,checkP (Tm.mk k1 n1 m1 b1 v1 ts1)=cc:=⟨_,rfl⟩
 obtain ⟨hB,hhB⟩:∃ b,highB (Tm.mk k1 n1 m1 b1 v1 ts1)=b:=⟨_,rfl⟩
 obtain ⟨N,hN⟩:∃ N,expR cc (highB (Tm.mk k1 n1 m1 b1 v1 ts1))=N:=⟨_,rfl⟩
 obtain ⟨X,hX⟩:∃ X,expW N (Tm.mk k1 n1 m1 b1 v1 ts1)=X:=⟨_,rfl⟩
 obtain ⟨g4,ia,g9⟩:=X
 obtain ⟨k4,n4,m4,b4,v4,ts4⟩:=g4
 obtain ⟨nb4,hnb4⟩:∃ nb:ByteArray,(⟨n4.toArray⟩:ByteArray)=nb:=⟨_,rfl⟩
 obtain ⟨mb4,hmb4⟩:∃ mb:ByteArray,(⟨m4.toArray⟩:ByteArray)=mb:=⟨_,rfl⟩
 obtain ⟨L4,hL4⟩:∃ L,ts4.length=L:=⟨_,rfl⟩
 have HL4:=Qh (Qa hnb4 (Qa hmb4 hL4))
 clear hnb4 hmb4 hL4
 obtain ⟨k9,n9,m9,b9,v9,ts9⟩:=g9
 obtain ⟨nb9,hnb9⟩:∃ nb:ByteArray,(⟨n9.toArray⟩:ByteArray)=nb:=⟨_,rfl⟩
 obtain ⟨mb9,hmb9⟩:∃ mb:ByteArray,(⟨m9.toArray⟩:ByteArray)=mb:=⟨_,rfl⟩
 obtain ⟨L9,hL9⟩:∃ L,ts9.length=L:=⟨_,rfl⟩
 have HL9:=Qh (Qa hnb9 (Qa hmb9 hL9))
 clear hnb9 hmb9 hL9
 have HBd:=Qh (show ∀ z,Below W1.heap.size W1 z→Calls Tryd.prog 9 #[.agg (Q5 k1 nb1 mb1 b1 v1 (.slice A1 L1 c1))] z (fun e w'=>∃ A c ev,e = .returned (.tuple #[.agg (Q5 k4 nb4 mb4 b4 v4 (.slice A L4 c)),ev])∧TOwn w' (Tm.mk k4 n4 m4 b4 v4 ts4) (.slice A L4 c) z.heap.size w'.heap.size∧WrongOk w' ev N ia (Tm.mk k9 n9 m9 b9 v9 ts9)∧Below z.heap.size z w') from fun z hz=>by
  obtain ⟨_,t1,_,hu,_⟩:=HXt.out z hz
  have h:=Rule_X t1 hu hcc hN
  rw [hX,hv1] at h
  exact h.mono (fun e w' h=>RuleX.letters HL4.out.1 HL4.out.2.1 HL4.out.2.2 h))
 rw [hhB] at hN
 have HC:=Qh (Qa hcc (Qa hN (Qa hX hhB)))
 subst hW1
 clear h1 hU hv1 hf1 hn1 hm1 d1 X1 hL1 hMk hcc hN hX hhB
 go_enter Tryd.func3,Tryd.ntmps3
 go_upto_region 1 with fail
 generalize (w.alloc (.cells (Q5 k1 nb1 mb1 b1 v1 (.slice A1 L1 c1)) 25))=u0 at *
 go_upto_region 2 with (go_at_call 7;(with_reducible refine HA.out.mono ?_);rintro e u1 ⟨rfl,hb⟩;have KM:=Qh hb;clear hb)
 clear HA
 have hO:=ROwn_any (Tm.mk k1 n1 m1 b1 v1 ts1) u1 (.slice A1 L1 c1) (HXt.out _ KM.out).2.1
 rw [valT_mk (sl:=.slice A1 L1 c1) HM1.out.1 HM1.out.2.1] at hO
 have HO:=Qh (fresh_letters HM1.out.1 HM1.out.2.1 HM1.out.2.2 hO)
 clear hO
 obtain ⟨x0,x1,x2,x3,x4,x5⟩:=(HXt.out _ KM.out).1.cells HM1.out.1 HM1.out.2.1
 go_upto_region 3 with (go_at_call 8;(with_reducible refine HO.out.mono ?_);rintro e u1w ⟨A1w,c1w,rfl,hw1,hg1⟩;have HV:=Qh (Qa hw1 hg1);clear hw1 hg1)
 clear x0 x1 x2 x3 x4 x5 HO
 have HWs:=Qh (show ∀ z,u1w.alloc (.cells (Q5 k1 nb1 mb1 b1 v1 (.slice A1w L1 c1w)) 25)=z→∀ G,u1w.heap.size=G→TBox z G (Tm.mk k1 n1 m1 b1 v1 ts1) (.slice A1w L1 c1w)∧TAt z z.heap.size (Tm.mk k1 n1 m1 b1 v1 ts1) (.slice A1w L1 c1w)∧Below u0.heap.size u0 z∧G<z.heap.size from fun z e G eG=>by
  rw [←e,←eG]
  have hb:Below u1w.heap.size u1w (u1w.alloc (.cells (Q5 k1 nb1 mb1 b1 v1 (.slice A1w L1 c1w)) 25)):=Qb
  have h1:=Qt HV.out.2 hb
  exact ⟨TBox.new u1w HM1.out.1 HM1.out.2.1,HV.out.1.at_.to hb hb.size,Qt KM.out h1,by simp⟩)
 generalize u1w.alloc (.cells (Q5 k1 nb1 mb1 b1 v1 (.slice A1w L1 c1w)) 25)=g4w at *
 replace HWs:=Qh (HWs.out _ rfl)
 generalize hG:u1w.heap.size=GW0
 replace HWs:=Qh (HWs.out _ hG)
 clear hG HV
 replace KM:=Qh HWs.out.2.2.1
 obtain ⟨x0,x1,x2,x3,x4,x5⟩:=(HXt.out _ KM.out).1.cells HM1.out.1 HM1.out.2.1
 go_upto_region 4 with (go_at_call 9;(with_reducible refine (HBd.out _ KM.out).mono ?_);rintro e u3 ⟨A5,c5,ev4,rfl,ho,hw,hb⟩;have HV:=Qh (Qa ho (Qa hw hb));clear ho hw hb)
 clear x0 x1 x2 x3 x4 x5 HBd
 have HK:=Qh (show ∀ u,u3.alloc (.cells (Q5 k4 nb4 mb4 b4 v4 (.slice A5 L4 c5)) 25)=u→∀ LA GA,g4w.heap.size=LA→u3.heap.size=GA→∀ z,Below u.heap.size u z→Below u0.heap.size u0 z∧TBox z GA (Tm.mk k4 n4 m4 b4 v4 ts4) (.slice A5 L4 c5)∧TOwn z (Tm.mk k4 n4 m4 b4 v4 ts4) (.slice A5 L4 c5) LA GA∧WrongOk z ev4 N ia (Tm.mk k9 n9 m9 b9 v9 ts9)∧(TBox z GW0 (Tm.mk k1 n1 m1 b1 v1 ts1) (.slice A1w L1 c1w)∧TAt z LA (Tm.mk k1 n1 m1 b1 v1 ts1) (.slice A1w L1 c1w))∧GW0<LA∧u0.heap.size≤LA∧LA≤GA∧GA<z.heap.size from fun u e LA GA e1 e2 z hz=>by
  have hb:Below u3.heap.size u3 u:=by rw [←e];exact Qb
  have hx:TBox u u3.heap.size (Tm.mk k4 n4 m4 b4 v4 ts4) (.slice A5 L4 c5):=by rw [←e];exact TBox.new u3 HL4.out.1 HL4.out.2.1
  have h3:Below u3.heap.size u3 z:=Qt hb hz
  have h2:Below g4w.heap.size g4w z:=Qt HV.out.2.2 h3
  have hsz:u3.heap.size<z.heap.size:=Ql hx.lt hz.size
  subst e1 e2
  exact ⟨Qt KM.out h2,hx.below hz,TOwn.keep _ HV.out.1 (fun b _ h=>h3.block b h),HV.out.2.1.below h3,⟨HWs.out.1.below h2,TAt.below _ HWs.out.2.1 h2 (Nat.le_refl _)⟩,HWs.out.2.2.2,KM.out.size,HV.out.2.2.size,hsz⟩)
 generalize u3.alloc (.cells (Q5 k4 nb4 mb4 b4 v4 (.slice A5 L4 c5)) 25)=u4 at *
 replace HK:=Qh (HK.out _ rfl)
 generalize hGA:u3.heap.size=GA
 generalize hLA:g4w.heap.size=LA at *
 replace HK:=Qh (HK.out _ _ rfl hGA)
 clear hGA HV HWs KM hLA
 have KM:=Qh (HK.out _ (Below.refl _ _)).1
 have hCk:=rCheck_any (HXt.out _ KM.out).2.1 HFi.out
 rw [valT_mk HM1.out.1 HM1.out.2.1,HC.out.1] at hCk
 have HCk:=Qh hCk
 clear hCk
 obtain ⟨x0,x1,x2,x3,x4,x5⟩:=(HXt.out _ KM.out).1.cells HM1.out.1 HM1.out.2.1
 go_wp2_with fail
 (with_reducible refine HCk.out.mono ?_)
 rintro e u5 ⟨rfl,hb⟩
 have K4:=Qh hb
 clear x0 x1 x2 x3 x4 x5 hb HCk
 go_upto_region 7 with fail
 have HZ:=Qh (show ∀ z,((u5.alloc (.cells Qz 25)).alloc (.cells #[.bool false,.int .i64 0,.string ⟨#[]⟩,.string ⟨#[]⟩,.int .u64 0,.int .i64 0,.slice none 0 0] 35))=z→∀ GW GB,u5.heap.size=GW→u5.heap.size+1=GB→TBox z GW zeroT (.slice none 0 0)∧BBox z GB false zeroT (.slice none 0 0)∧Below u4.heap.size u4 z∧u4.heap.size≤GW∧GW<GB from fun z e GW GB e1 e2=>by
  rw [←e,←e1,←e2]
  have hb1:Below u5.heap.size u5 (u5.alloc (.cells Qz 25)):=Qb
  have hs1:(u5.alloc (.cells Qz 25)).heap.size=u5.heap.size+1:=by simp
  have hb2:Below (u5.alloc (.cells Qz 25)).heap.size (u5.alloc (.cells Qz 25)) ((u5.alloc (.cells Qz 25)).alloc (.cells #[.bool false,.int .i64 0,.string ⟨#[]⟩,.string ⟨#[]⟩,.int .u64 0,.int .i64 0,.slice none 0 0] 35)):=Qb
  have hY:BBox ((u5.alloc (.cells Qz 25)).alloc (.cells #[.bool false,.int .i64 0,.string ⟨#[]⟩,.string ⟨#[]⟩,.int .u64 0,.int .i64 0,.slice none 0 0] 35)) (u5.alloc (.cells Qz 25)).heap.size false zeroT (.slice none 0 0):=heap_alloc_new (u5.alloc (.cells Qz 25)) _
  rw [hs1] at hY
  exact ⟨(show TBox (u5.alloc (.cells Qz 25)) u5.heap.size zeroT (.slice none 0 0) from heap_alloc_new u5 _).below hb2,hY,K4.out.trans ((Qt hb1 hb2).mono K4.out.size),K4.out.size,Nat.lt_succ_self _⟩)
 generalize ((u5.alloc (.cells Qz 25)).alloc (.cells #[.bool false,.int .i64 0,.string ⟨#[]⟩,.string ⟨#[]⟩,.int .u64 0,.int .i64 0,.slice none 0 0] 35))=u6 at *
 replace HZ:=Qh (HZ.out _ rfl)
 generalize hGB:u5.heap.size+1=GB
 generalize hGW:u5.heap.size=GW
 replace HZ:=Qh (HZ.out _ _ hGW hGB)
 clear hGB hGW K4
 have KM6:=Qh (HK.out _ HZ.out.2.2.1).1
 have HFn:=Qh (show cc≠0∨(cc=0∧hB=true)∨(cc=0∧hB=false) from by cases hB <;> simp <;> omega)
 obtain h0 | ⟨h0,rfl⟩ | ⟨h0,rfl⟩:=HFn.out
 focus
  have h0b:(cc==0)=false:=by simpa using h0
  obtain rfl:N=cc:=HC.out.2.1.symm.trans (if_pos h0)
  have HE0:=Qh (show ((zeroT,false,zeroT):Tm × Bool × Tm)=((Tm.mk k4 n4 m4 b4 v4 ts4),ia,(Tm.mk k9 n9 m9 b9 v9 ts9)) from ((if_pos h0).symm.trans HC.out.2.2.1))
  obtain rfl:ia=false:=by
   have h9:=HE0.out
   injection h9 with a1 a2
   injection a2 with a2 a3
   exact a2.symm
  go_upto_region 11 with fail
  have KZ:=Qh (Below.refl u6.heap.size u6)
  have HWB:=Qh (show TBox u6 GW (Tm.mk k4 n4 m4 b4 v4 ts4) (.slice none 0 0)∧BBox u6 GB false (Tm.mk k9 n9 m9 b9 v9 ts9) (.slice none 0 0)∧TAt u6 u6.heap.size (Tm.mk k4 n4 m4 b4 v4 ts4) (.slice none 0 0)∧TAt u6 u6.heap.size (Tm.mk k9 n9 m9 b9 v9 ts9) (.slice none 0 0)∧Below u4.heap.size u4 u6 from by
   have h9:=HE0.out
   injection h9 with a1 a2
   injection a2 with a2 a3
   rw [←a1,←a3]
   exact ⟨HZ.out.1.below KZ.out,HZ.out.2.1.below KZ.out,zero_at _ _,zero_at _ _,Qt HZ.out.2.2.1 KZ.out⟩)
  clear HE0 HMk HZ KZ KM6 h0 h0b
  generalize u6=u9 at *
 rotate_left
 focus
  subst h0
  obtain ⟨x0,x1,x2,x3,x4,x5⟩:=(HXt.out _ KM6.out).1.cells HM1.out.1 HM1.out.2.1
  have hH:=high_any (HXt.out _ KM6.out).2.1 (by have:=(check_iff.1 HC.out.1).1;omega)
  rw [valT_mk HM1.out.1 HM1.out.2.1,HC.out.2.2.2] at hH
  have HH:=Qh hH
  clear hH
  obtain rfl:N=1:=HC.out.2.1.symm.trans ((if_neg (by simp)).trans (if_pos rfl))
  have HE0:=Qh (show ((zeroT,false,zeroT):Tm × Bool × Tm)=((Tm.mk k4 n4 m4 b4 v4 ts4),ia,(Tm.mk k9 n9 m9 b9 v9 ts9)) from ((if_pos (by decide)).symm.trans HC.out.2.2.1))
  obtain rfl:ia=false:=by
   have h9:=HE0.out
   injection h9 with a1 a2
   injection a2 with a2 a3
   exact a2.symm
  go_upto_region 11 with (go_at_call 11;(with_reducible refine HH.out.mono ?_);rintro e u9 ⟨rfl,hb⟩;have KZ:=Qh hb;clear hb)
  clear x0 x1 x2 x3 x4 x5 HH
  have HWB:=Qh (show TBox u9 GW (Tm.mk k4 n4 m4 b4 v4 ts4) (.slice none 0 0)∧BBox u9 GB false (Tm.mk k9 n9 m9 b9 v9 ts9) (.slice none 0 0)∧TAt u9 u9.heap.size (Tm.mk k4 n4 m4 b4 v4 ts4) (.slice none 0 0)∧TAt u9 u9.heap.size (Tm.mk k9 n9 m9 b9 v9 ts9) (.slice none 0 0)∧Below u4.heap.size u4 u9 from by
   have h9:=HE0.out
   injection h9 with a1 a2
   injection a2 with a2 a3
   rw [←a1,←a3]
   exact ⟨HZ.out.1.below KZ.out,HZ.out.2.1.below KZ.out,zero_at _ _,zero_at _ _,Qt HZ.out.2.2.1 KZ.out⟩)
  clear HE0 HMk HZ KZ KM6
 rotate_left
 focus
  subst h0
  obtain rfl:N=0:=HC.out.2.1.symm.trans ((if_neg (by simp)).trans (if_neg (by simp)))
  have HRB:=Qh (show ∀ z,Below u0.heap.size u0 z→Calls Tryd.prog 12 #[.agg (Q5 k1 nb1 mb1 b1 v1 (.slice A1 L1 c1))] z (fun e w'=>∃ A c A2 c2,e = .returned (.tuple #[.agg (Q5 k4 nb4 mb4 b4 v4 (.slice A L4 c)),.agg #[.bool ia,.int .i64 k9,.string nb9,.string mb9,.int .u64 b9,.int .i64 v9,.slice A2 L9 c2]])∧TAtP w' (Grow (fun b=>b<w.heap.size) z w') (Tm.mk k4 n4 m4 b4 v4 ts4) (.slice A L4 c)∧TAtP w' (Grow (fun b=>b<w.heap.size) z w') (Tm.mk k9 n9 m9 b9 v9 ts9) (.slice A2 L9 c2)∧Below z.heap.size z w') from fun z hz=>by
   obtain ⟨_,_,t1,_,hb⟩:=HXt.out z hz
   have h:=rRule_any (P:=fun b=>b<w.heap.size) HMk.out t1 (fun b hb2=>Ql hb2 hb.size) HC.out.1 HC.out.2.2.2
   rw [show ruleA (Tm.mk k1 n1 m1 b1 v1 ts1)=((Tm.mk k4 n4 m4 b4 v4 ts4),ia,(Tm.mk k9 n9 m9 b9 v9 ts9)) from (if_neg (by simp)).symm.trans HC.out.2.2.1,valT_mk HM1.out.1 HM1.out.2.1] at h
   exact h.mono (fun e w' h=>WhP.letters HL4.out.1 HL4.out.2.1 HL4.out.2.2 HL9.out.1 HL9.out.2.1 HL9.out.2.2 h))
  obtain ⟨x0,x1,x2,x3,x4,x5⟩:=(HXt.out _ KM6.out).1.cells HM1.out.1 HM1.out.2.1
  have hH:=high_any (HXt.out _ KM6.out).2.1 (by have:=(check_iff.1 HC.out.1).1;omega)
  rw [valT_mk HM1.out.1 HM1.out.2.1,HC.out.2.2.2] at hH
  have HH:=Qh hH
  clear hH
  go_upto_region 10 with (go_at_call 11;(with_reducible refine HH.out.mono ?_);rintro e u6a ⟨rfl,hb⟩;have KZ:=Qh hb;clear hb)
  clear x0 x1 x2 x3 x4 x5 HH
  replace HZ:=Qh (show TBox u6a GW zeroT (.slice none 0 0)∧BBox u6a GB false zeroT (.slice none 0 0)∧Below u4.heap.size u4 u6a∧u4.heap.size≤GW∧GW<GB from ⟨HZ.out.1.below KZ.out,HZ.out.2.1.below KZ.out,Qt HZ.out.2.2.1 KZ.out,HZ.out.2.2.2⟩)
  replace KM6:=Qh (HK.out _ HZ.out.2.2.1).1
  clear KZ HMk
  obtain ⟨x0,x1,x2,x3,x4,x5⟩:=(HXt.out _ KM6.out).1.cells HM1.out.1 HM1.out.2.1
  go_upto_region 11 with (go_at_call 12;(with_reducible refine (HRB.out _ KM6.out).mono ?_);rintro e u7 ⟨A8,c8,A9,c9,rfl,ht1,ht2,hb⟩;have HV2:=Qh (Qa ht1 (Qa ht2 hb));clear ht1 ht2 x0 x1 x2 x3 x4 x5;have HQ1:=Qh (HZ.out.1.below hb);have HQ2:=Qh (HZ.out.2.1.below hb);clear hb;obtain ⟨a0,a1,a2,a3,a4,a5⟩:=HQ1.out.cells rfl rfl;obtain ⟨f0,f1,f2,f3,f4,f5⟩:=HQ1.out.frozens;have HS1:=Qh (HQ1.out.set6 (k:=k4) (b:=b4) (v:=v4) (n:=n4) (m:=m4) ts4 (.slice A8 L4 c8) (nb:=nb4) (mb:=mb4) HL4.out.1 HL4.out.2.1);have HQ3:=Qh (HQ2.out.gro HS1.out.2 (by have:=HZ.out.2.2.2.2;omega));obtain ⟨g0,g1,g2,g3,g4,g5,g6⟩:=HQ3.out.cells rfl rfl;obtain ⟨e0,e1,e2,e3,e4,e5,e6⟩:=HQ3.out.frozens)
  clear a0 a1 a2 a3 a4 a5 f0 f1 f2 f3 f4 f5 g0 g1 g2 g3 g4 g5 g6 e0 e1 e2 e3 e4 e5 e6 HRB
  generalize ((((((u7.setCell ⟨GW,0,none⟩ (.int .i64 k4)).setCell ⟨GW,1,none⟩ (.string nb4)).setCell ⟨GW,2,none⟩ (.string mb4)).setCell ⟨GW,3,none⟩ (.int .u64 b4)).setCell ⟨GW,4,none⟩ (.int .i64 v4)).setCell ⟨GW,5,none⟩ (.slice A8 L4 c8))=z1 at *
  have HS2:=Qh (HQ3.out.set7 ia (k:=k9) (b:=b9) (v:=v9) (n:=n9) (m:=m9) ts9 (.slice A9 L9 c9) (nb:=nb9) (mb:=mb9) HL9.out.1 HL9.out.2.1)
  generalize (((((((z1.setCell ⟨GB,0,none⟩ (.bool ia)).setCell ⟨GB,1,none⟩ (.int .i64 k9)).setCell ⟨GB,2,none⟩ (.string nb9)).setCell ⟨GB,3,none⟩ (.string mb9)).setCell ⟨GB,4,none⟩ (.int .u64 b9)).setCell ⟨GB,5,none⟩ (.int .i64 v9)).setCell ⟨GB,6,none⟩ (.slice A9 L9 c9))=u9 at *
  have HWB:=Qh (show TBox u9 GW (Tm.mk k4 n4 m4 b4 v4 ts4) (.slice A8 L4 c8)∧BBox u9 GB ia (Tm.mk k9 n9 m9 b9 v9 ts9) (.slice A9 L9 c9)∧TAt u9 u9.heap.size (Tm.mk k4 n4 m4 b4 v4 ts4) (.slice A8 L4 c8)∧TAt u9 u9.heap.size (Tm.mk k9 n9 m9 b9 v9 ts9) (.slice A9 L9 c9)∧Below u4.heap.size u4 u9 from by
   have h3:=HV2.out.2.2
   have h4:=HS1.out.2
   have h5:=HS2.out.2
   have e3:=h3.size
   have e4:=h4.size
   have e5:=h5.size
   have hz:=HZ.out.2.2.1
   have e6:=HZ.out.2.2.2
   have e7:=hz.size
   have e8:=HZ.out.2.1.lt
   have e9:=(HXt.out _ (HK.out _ (Below.refl u4.heap.size u4)).1).2.2.2.2.size
   have b7:=hz.trans (h3.mono e7)
   have b8:=b7.grown h4 b7.size (Qg (by omega))
   have kp:∀ (t:Tm) (s:Value),TAtP u7 (Grow (fun b=>b<w.heap.size) u6a u7) t s→TAt u9 u9.heap.size t s:=fun t s h=>TAtP.keep _ h fun b hb=>by
    have hlt:b<u7.heap.size∧b≠GW∧b≠GB:=by rcases hb with h | h <;> omega
    refine ⟨by omega,?_⟩
    rw [h5.block b (by omega) (fun e=>by injection e with e;omega),h4.block b hlt.1 (fun e=>by injection e with e;omega)]
   exact ⟨HS1.out.1.gro h5 (by omega),HS2.out.1,kp _ _ HV2.out.1,kp _ _ HV2.out.2.1,b8.grown h5 b8.size (Qg (by omega))⟩)
  clear HV2 HQ1 HQ2 HQ3 HS1 HS2 HZ KM6
 rotate_left
 all_goals (
  have KM:=Qh (HK.out _ HWB.out.2.2.2.2)
  obtain ⟨x0,x1,x2,x3,x4,x5⟩:=KM.out.2.1.cells HL4.out.1 HL4.out.2.1
  obtain ⟨y0,y1,y2,y3,y4,y5⟩:=HWB.out.1.cells HL4.out.1 HL4.out.2.1
  have hS:=Same_any (Tm.mk k4 n4 m4 b4 v4 ts4) u9 _ _ ((TOwn.atP _ KM.out.2.2.1).wide (fun b hb=>Nat.lt_trans hb.2 KM.out.2.2.2.2.2.2.2.2)) HWB.out.2.2.1
  rw [valT_mk (sl:=.slice A5 L4 c5) HL4.out.1 HL4.out.2.1,valT_mk HL4.out.1 HL4.out.2.1] at hS
  have HS:=Qh hS
  clear hS
  go_wp2_with fail
  (with_reducible refine HS.out.mono ?_)
  rintro e u10 ⟨rfl,hb⟩
  have KB:=Qh hb
  have KM10:=Qh (HK.out _ (Qt HWB.out.2.2.2.2 hb))
  clear hb HS x0 x1 x2 x3 x4 x5 y0 y1 y2 y3 y4 y5 KM
  obtain ⟨q0,q1,q2,q3,q4,q5,q6⟩:=(HWB.out.2.1.below KB.out).cells HL9.out.1 HL9.out.2.1
  go_wp2_with fail
  (with_reducible refine (wrong_any HL9.out.1 HL9.out.2.1 KM10.out.2.2.2.1 (HWB.out.2.2.2.1.to KB.out KB.out.size)).mono ?_)
  rintro e u11 ⟨rfl,hb⟩
  replace KB:=Qh (Qt KB.out hb)
  have KM11:=Qh (HK.out _ (Qt HWB.out.2.2.2.2 KB.out))
  clear hb q0 q1 q2 q3 q4 q5 q6 KM10
  obtain ⟨x0,x1,x2,x3,x4,x5⟩:=KM11.out.2.1.cells HL4.out.1 HL4.out.2.1
  have hS:=spoil_any (Tm.mk k4 n4 m4 b4 v4 ts4) u11 _ LA GA KM11.out.2.2.1 (Nat.le_of_lt KM11.out.2.2.2.2.2.2.2.2)
  rw [valT_mk HL4.out.1 HL4.out.2.1] at hS
  have HS:=Qh hS
  clear hS
  go_wp2_with fail
  (with_reducible refine HS.out.mono ?_)
  rintro e u12 ⟨rfl,hwr⟩
  have hbL:=hwr.below (Nat.le_of_lt (Nat.lt_of_le_of_lt KM11.out.2.2.2.2.2.2.2.1 KM11.out.2.2.2.2.2.2.2.2))
  have hlu:LA≤u12.heap.size:=by have h1:=hbL.size;have h2:=KM11.out.2.2.2.2.2.2.2;omega
  have KM12:=Qh (Qa (KM11.out.1.trans (hbL.mono KM11.out.2.2.2.2.2.2.1)) (Qa (show TBox u12 GW0 (Tm.mk k1 n1 m1 b1 v1 ts1) (.slice A1w L1 c1w) from (hbL.block GW0 KM11.out.2.2.2.2.2.1).trans KM11.out.2.2.2.2.1.1) (KM11.out.2.2.2.2.1.2.to hbL hlu)))
  clear hbL hwr HS x0 x1 x2 x3 x4 x5 KM11 hlu
  obtain ⟨x0,x1,x2,x3,x4,x5⟩:=(HXt.out _ KM12.out.1).1.cells HM1.out.1 HM1.out.2.1
  obtain ⟨y0,y1,y2,y3,y4,y5⟩:=KM12.out.2.1.cells HM1.out.1 HM1.out.2.1
  have hS:=Same_any (Tm.mk k1 n1 m1 b1 v1 ts1) u12 (.slice A1 L1 c1) (.slice A1w L1 c1w) (HXt.out _ KM12.out.1).2.1 KM12.out.2.2
  rw [valT_mk (sl:=.slice A1 L1 c1) HM1.out.1 HM1.out.2.1,valT_mk (sl:=.slice A1w L1 c1w) HM1.out.1 HM1.out.2.1] at hS
  have HS:=Qh hS
  clear hS
  go_wp2_with fail
  (with_reducible refine HS.out.mono ?_)
  rintro e u13 ⟨rfl,hb⟩
  have K13:=Qh (HXt.out _ (Qt KM12.out.1 hb)).2.2.2.2
  clear hb x0 x1 x2 x3 x4 x5 y0 y1 y2 y3 y4 y5 HS
  go_wp2
  go_ret
  exact ⟨rfl,K13.out⟩)
end Go.Proofs.YtgfeainpeplphaaDoor
namespace Go.Proofs.YtgfeainpeplphaaDoor
open Go.RowKit Hb Ht
theorem Rules_walk {w0 w:World} {t:Tm} {st:Value} (h1:TAt w w.heap.size t st) (hf1:Fits t) (hU:UOk w0 w) :
  Calls Tryd.prog 3 #[valT t st] w fun e w'=>e = .returned (.bool true)∧Below w.heap.size w w':=
 Rules_walkM rMake_any h1 hf1 hU
end Go.Proofs.YtgfeainpeplphaaDoor
namespace Go.Proofs.YtgfeainpeplphaaDoor
open Go.ChangeShapes Go.WideShapes Go.ChangeAt Go.RowKit Go.Joins Hb Ht
theorem rules_res:Tryd.f3.resultTypes = #[4]:=by kernel_rfl
theorem rules_contract (H:Type) (enc:TypeId × Value→H) (W:World) (base:Nat) (args:Array Value) (ds gs:List (DataW H)) (before:List MemPlace)
  (hval:∀ (j:Nat) t v,Tryd.f3.params[j]?=some t→args[j]?=some v→Value.okWide Tryd.prog W .any base t v)
  (hW:DataW.Whole enc Tryd.prog Tryd.f3.params.toList Rows.dcgRulesSpec.vars false W args.toList ds gs before) (hwt:(DataW.weightsEach Tryd.prog (Tryd.f3.params.toList ++ []) (ds ++ gs)).all (· ≤ reachBytes)=true) (hL:laidMetH Tryd.prog Rows.dcgFreshRow.laid W) :
  Calls Tryd.prog 3 args W fun e W'=>∃ v,e = .returned v∧Rows.dcgRulesSpec.post enc Tryd.prog Tryd.f3 false true false false W args v W':=by
 have hW':=hW
 obtain ⟨p,q,hA0,hV,rfl,hfz,hnd⟩:=hW
 have hA:DataW.TrodAll enc Tryd.prog W 0 (fun _=>true) true Tryd.f3.params.toList args.toList ds p:=hA0
 rw [Tryd.params3] at hA hval hwt
 obtain ⟨v0,vs0,d0,ds0,p0,q0,hargs,rfl,rfl,h0,r0⟩:=trodAll_cons hA
 obtain ⟨rfl,rfl,rfl⟩:=trodAll_nil r0
 obtain rfl:args = #[v0]:=by cases args;simp_all
 obtain ⟨rfl,rfl⟩:=trodVars_none hV
 obtain ⟨t0,sl0,e0,ha0,hf0⟩:=open_Term (hval 0 25 v0 rfl rfl) h0 (arg_weights (j:=0) hwt rfl rfl)
 subst e0
 have hwalk:=Rules_walk ha0 hf0 (vtabs_laid hL).ok
 refine hwalk.mono fun e W' ⟨he,hb⟩=>?_
 subst he
 refine ⟨_,rfl,law_end (bt:=4) laidK (fun t ht=>?_) rules_res Tryd.underlying4 rfl hW' rfl hb⟩
 rw [Tryd.params3] at ht
 simp at ht
 subst ht
 exact ⟨by kernel_rfl,of_decide_eq_true (by kernel_rfl)⟩
theorem rules_reads (os:Os) {H:Type} (enc:TypeId × Value→H):∃ places,DataW.whole enc Tryd.prog ((dcgWorld os).forCall (fun _ _=>0) ⟨#[],#[.agg Qz],[]⟩).memory Tryd.f3.params.toList Rows.dcgRulesSpec.vars false #[Value.agg Qz].toList 8 =
  some ([.agg [.lit (.int .i64 0),.lit (.string []),.lit (.string []),.lit (.int .u64 0),.lit (.int .i64 0),.nil]],[],places):=
 ⟨[],by kernel_rfl⟩
theorem rules_lifted (os:Os) (started:os.Started) (H:Type) (enc:TypeId × Value→H) (F:Stop.Interp) :
  ReturnsInHanded {} Tryd.checked os 3 .any ((OpenSpec.ofChange Rows.dcgRulesSpec).preRow enc Tryd.prog Tryd.f3 Rows.dcgRulesRow.domain false Rows.dcgRulesRow.laid) (((OpenSpec.ofChange Rows.dcgRulesSpec).at F).post enc Tryd.prog Tryd.f3 false true false false):=by
 obtain ⟨places,hx⟩:=rules_reads os enc
 refine returnsInHanded_of_row (C:=Tryd.checked) (s:=OpenSpec.ofChange Rows.dcgRulesSpec) dcgOwn started (by kernel_rfl) Tryd.func3
  (witness_row_atRef (enc:=enc) (C:=Tryd.checked) false (dcgWorld os) #[.agg Qz] (World.laidAll_os _ _ _) (by kernel_rfl) (by kernel_rfl) (by kernel_rfl)
   (OpenSpec.preRow_of_cond 8 hx (by kernel_rfl) (fun k hk=>by cases hk) (by kernel_rfl) (dcgWorld_met os _))) ?_
 intro W base args ds gs before hval hW _ _ hwt hL _ _
 exact rules_contract H enc W base args ds gs before hval hW hwt hL
theorem rules_said:Rows.DcgRulesSaid:=
 OpenClaim.holds_of_cond 3 Tryd.f3 rfl rfl rfl rfl rfl rfl rfl ⟨rfl,rfl,rfl,rfl,rfl⟩ rfl rfl rfl rfl rfl (by kernel_rfl) Tryd.func3 (by kernel_rfl)
  (of_decide_eq_true (by kernel_rfl)) (by unfold Func.isWrapper;first | (rw [if_pos (by decide +kernel)];kernel_rfl) | (rw [if_neg (by decide +kernel)];exact ⟨rfl,rfl⟩))
  (fun os started H enc _ F=>by rw [OpenClaim.pre_eq_preRow];exact rules_lifted os started H enc F)
theorem rules_plain (f:FuncId) (fn:Func) (hf:Tryd.pinned.checked.prog.funcNamed "hornbeam/hornbeamlaw10.DcgRules" = some f) (hfn:Tryd.pinned.checked.prog.funcs[f]?=some fn) :
  true=Tryd.pinned.checked.prog.looks []∧∀ (j:Nat) t,fn.params[j]?=some t→Tryd.pinned.checked.prog.wantsStandIn t=false:=by
 obtain rfl:f=3:=Option.some.inj ((show Tryd.prog.funcNamed "hornbeam/hornbeamlaw10.DcgRules" = some 3 by kernel_rfl).symm.trans hf) |>.symm
 obtain rfl:fn=Tryd.f3:=(Option.some.inj (Tryd.func3.symm.trans hfn)).symm
 refine ⟨by kernel_rfl,fun j t ht=>?_⟩
 rw [Tryd.params3] at ht
 have hm:t ∈ [25]:=by simpa using Array.mem_of_getElem? ht
 have hall:([25].all fun u=>!Tryd.prog.wantsStandIn u)=true:=by kernel_rfl
 exact (show Tryd.prog.wantsStandIn t=false by simpa using List.all_eq_true.1 hall t hm)
theorem rules_card:Rows.DcgRulesCardSaid:=
 Claim7.holds_tied_plain_at .later [] _ _ _ _ rules_said (fun _ h=>by cases h) (by kernel_rfl) (fun _ h=>by cases h) dcgRules_row_tie rfl ⟨rfl,rfl⟩ (by kernel_rfl) rfl rules_plain (by kernel_rfl)
end Go.Proofs.YtgfeainpeplphaaDoor
