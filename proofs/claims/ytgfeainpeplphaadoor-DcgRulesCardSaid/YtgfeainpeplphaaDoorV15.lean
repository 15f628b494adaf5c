import Derived.Test.YtgfeainpeplphaaDoorV9
import Derived.Test.YtgfeainpeplphaaDoorV13
import Derived.Test.YtgfeainpeplphaaDoorV0
set_option maxRecDepth 1000000
set_option maxHeartbeats 64000000
set_option linter.unusedVariables false
set_option linter.unusedSimpArgs false
namespace Go.Proofs.YtgfeainpeplphaaDoor
open Go.RowKit Hb Ht
attribute [local go_sem] Oper.semAt_some
theorem rMake_any (t:Tm):RMakeOk t:=by
 refine Tm.ind (p:=RMakeOk) (fun k1 n1 m1 b1 v1 ts1 ih=>?_) t
 intro w P f d st sf sd nx h1 h2 h3 hP h0 hbd hck
 obtain ⟨nb1,hn1⟩:∃ nb:ByteArray,(⟨n1.toArray⟩:ByteArray)=nb:=⟨_,rfl⟩
 obtain ⟨mb1,hm1⟩:∃ mb:ByteArray,(⟨m1.toArray⟩:ByteArray)=mb:=⟨_,rfl⟩
 obtain ⟨L1,hL1⟩:∃ L,ts1.length=L:=⟨_,rfl⟩
 obtain ⟨A1,c1,hst,hl1,hc1,hx1,_,_⟩:=TAtP.iff.1 h1
 subst hst
 change ts1.length≤c1 at hl1
 change ts1.length≤maxArgs at hx1
 change TAtP w P (.mk k1 n1 m1 b1 v1 ts1) (.slice A1 ts1.length c1) at h1
 change Calls _ _ #[valT _ (.slice A1 ts1.length c1),_,_,_] _ _
 obtain ⟨k2,n2,m2,b2,v2,ts2,nb2,mb2,A2,c2,rfl,rfl,hn2,hm2,hl2,hc2,hx2,hv2,_,_⟩:=h2.letters
 obtain ⟨k3,n3,m3,b3,v3,ts3,nb3,mb3,A3,c3,rfl,rfl,hn3,hm3,hl3,hc3,hx3,hv3,_,_⟩:=h3.letters
 obtain ⟨L2,hL2⟩:∃ L,ts2.length=L:=⟨_,rfl⟩
 obtain ⟨L3,hL3⟩:∃ L,ts3.length=L:=⟨_,rfl⟩
 rw [hv2,hv3,valT_mk hn1 hm1]
 rw [hL1] at h1 hl1 hx1 ⊢
 rw [hL2] at h2 hl2 hx2 ⊢
 rw [hL3] at h3 hl3 hx3 ⊢
 clear hv2 hv3
 have hk:=check_kind hck
 change 1≤k1∧k1≤5 at hk
 have hL1I:(L1:Int)≤1759218604400:=by unfold maxArgs at hx1;omega
 have hnx:nx≤4611686018427396000:=by have:=sz_pos (.mk k1 n1 m1 b1 v1 ts1);omega
 obtain ⟨W1,hW1⟩:∃ W,w.alloc (.cells (Q5 k1 nb1 mb1 b1 v1 (.slice A1 L1 c1)) 25)=W:=⟨_,rfl⟩
 have d1:Below w.heap.size w W1:=by rw [←hW1];exact Qb
 have s1:W1.heap.size=w.heap.size+1:=by rw [←hW1];simp
 have X1:TBox W1 w.heap.size (.mk k1 n1 m1 b1 v1 ts1) (.slice A1 L1 c1):=by rw [←hW1];exact TBox.new w hn1 hm1
 obtain ⟨W2,hW2⟩:∃ W,W1.alloc (.cells (Q5 k2 nb2 mb2 b2 v2 (.slice A2 L2 c2)) 25)=W:=⟨_,rfl⟩
 have d2:Below W1.heap.size W1 W2:=by rw [←hW2];exact Qb
 have s2:W2.heap.size=W1.heap.size+1:=by rw [←hW2];simp
 have X2:TBox W2 W1.heap.size (.mk k2 n2 m2 b2 v2 ts2) (.slice A2 L2 c2):=by rw [←hW2];exact TBox.new W1 hn2 hm2
 obtain ⟨W3,hW3⟩:∃ W,W2.alloc (.cells (Q5 k3 nb3 mb3 b3 v3 (.slice A3 L3 c3)) 25)=W:=⟨_,rfl⟩
 have d3:Below W2.heap.size W2 W3:=by rw [←hW3];exact Qb
 have s3:W3.heap.size=W2.heap.size+1:=by rw [←hW3];simp
 have X3:TBox W3 W2.heap.size (.mk k3 n3 m3 b3 v3 ts3) (.slice A3 L3 c3):=by rw [←hW3];exact TBox.new W2 hn3 hm3
 obtain ⟨W4,hW4⟩:∃ W,W3.alloc (.cells Qz 25)=W:=⟨_,rfl⟩
 have d4:Below W3.heap.size W3 W4:=by rw [←hW4];exact Qb
 have s4:W4.heap.size=W3.heap.size+1:=by rw [←hW4];simp
 have X4:TBox W4 W3.heap.size zeroT (.slice none 0 0):=by rw [←hW4];exact heap_alloc_new W3 _
 obtain ⟨W5,hW5⟩:∃ W,W4.alloc (.cells #[.bool false,.int .i64 0,.string ⟨#[]⟩,.string ⟨#[]⟩,.int .u64 0,.int .i64 0,.slice none 0 0] 35)=W:=⟨_,rfl⟩
 have d5:Below W4.heap.size W4 W5:=by rw [←hW5];exact Qb
 have s5:W5.heap.size=W4.heap.size+1:=by rw [←hW5];simp
 have X5:BBox W5 W4.heap.size false zeroT (.slice none 0 0):=by rw [←hW5];exact heap_alloc_new W4 _
 replace X1:=X1.below d2
 replace X1:=X1.below d3
 replace X1:=X1.below d4
 replace X1:=X1.below d5
 replace X2:=X2.below d3
 replace X2:=X2.below d4
 replace X2:=X2.below d5
 replace X3:=X3.below d4
 replace X3:=X3.below d5
 replace X4:=X4.below d5
 have hb0:Below w.heap.size w W5:=d1.trans ((d2.trans ((d3.trans ((d4.trans ((d5).mono (by omega))).mono (by omega))).mono (by omega))).mono (by omega))
 have hsz0:W5.heap.size=w.heap.size+1+1+1+1+1:=by omega
 rw [s1] at X2
 rw [s2,s1] at X3
 rw [s3,s2,s1] at X4
 rw [s4,s3,s2,s1] at X5
 have HX:=Qh (Qa X1 (Qa X2 (Qa X3 (Qa X4 (Qa X5 (Qa hb0 hsz0))))))
 subst hW1 hW2 hW3 hW4 hW5
 clear X1 d1 s1 X2 d2 s2 X3 d3 s3 X4 d4 s4 X5 d5 s5 hb0 hsz0
 have HM:=Qh (Qa hn1 (Qa hm1 (Qa hn2 (Qa hm2 (Qa hn3 hm3)))))
 have HLs:=Qh (Qa hL1 (Qa hL2 (Qa hL3 (Qa hl1 hx1))))
 have HT:=Qh (Qa h1 (Qa h2 h3))
 have HPP:=Qh hP
 have HIH:=Qh ih
 have HCk:=Qh (Qa hck (Qa h0 hbd))
 obtain ⟨R,hR⟩:∃ R,ansM (.mk k1 n1 m1 b1 v1 ts1) (.mk k2 n2 m2 b2 v2 ts2) (.mk k3 n3 m3 b3 v3 ts3) nx=R:=⟨_,rfl⟩
 rw [hR]
 have HR0:=Qh hR
 clear hR h1 h2 h3 hP hn1 hm1 hn2 hm2 hn3 hm3 hL1 hL2 hL3 hl1 hl2 hl3 hc1 hc2 hc3 hx1 hx2 hx3 ih hck hbd
 go_enter Tryd.func49,Tryd.ntmps49
 go_upto_region 1 with fail
 generalize (((((w.alloc (.cells (Q5 k1 nb1 mb1 b1 v1 (.slice A1 L1 c1)) 25)).alloc (.cells (Q5 k2 nb2 mb2 b2 v2 (.slice A2 L2 c2)) 25)).alloc (.cells (Q5 k3 nb3 mb3 b3 v3 (.slice A3 L3 c3)) 25)).alloc (.cells Qz 25)).alloc (.cells #[.bool false,.int .i64 0,.string ⟨#[]⟩,.string ⟨#[]⟩,.int .u64 0,.int .i64 0,.slice none 0 0] 35))=u0 at *
 have hwu:=HX.out.2.2.2.2.2.1
 have hF:=F2_any (P:=P) (HT.out.2.1.below hwu HPP.out) (HT.out.2.2.below hwu HPP.out) (fun b hb=>Ql (HPP.out b hb) hwu.size) ⟨#[61]⟩ (by decide)
 rw [valT_mk HM.out.2.2.1 HM.out.2.2.2.1,valT_mk HM.out.2.2.2.2.1 HM.out.2.2.2.2.2,show cmpT (⟨#[61]⟩:ByteArray).data.toList [(.mk k2 n2 m2 b2 v2 ts2),(.mk k3 n3 m3 b3 v3 ts3)]=(eqT (.mk k2 n2 m2 b2 v2 ts2) (.mk k3 n3 m3 b3 v3 ts3)) from rfl] at hF
 have HF:=Qh hF
 obtain ⟨x0,x1,x2,x3,x4,x5⟩:=(HX.out.2.1).cells HM.out.2.2.1 HM.out.2.2.2.1
 obtain ⟨y0,y1,y2,y3,y4,y5⟩:=(HX.out.2.2.1).cells HM.out.2.2.2.2.1 HM.out.2.2.2.2.2
 clear hF hwu
 go_upto_region 2 with (go_at_call 51;(with_reducible refine HF.out.mono ?_);rintro e u1 ⟨A5,c5,rfl,ht,hb⟩;have HV1:=Qh (Qa ht hb);clear ht hb)
 clear x0 x1 x2 x3 x4 x5 y0 y1 y2 y3 y4 y5
 have HU:=Qh (show ∀ z,u1.alloc (.cells (Qn 5 ⟨#[61]⟩ (.slice A5 2 c5)) 25)=z→Below u0.heap.size u0 z∧TBox z u1.heap.size (eqT (.mk k2 n2 m2 b2 v2 ts2) (.mk k3 n3 m3 b3 v3 ts3)) (.slice A5 2 c5)∧TAtP z (fun b=>P b∨(w.heap.size+1+1+1+1<b∧b<z.heap.size)) (eqT (.mk k2 n2 m2 b2 v2 ts2) (.mk k3 n3 m3 b3 v3 ts3)) (.slice A5 2 c5)∧w.heap.size+1+1+1+1<u1.heap.size from fun z e=>by
  rw [←e]
  have hb:Below u1.heap.size u1 (u1.alloc (.cells (Qn 5 ⟨#[61]⟩ (.slice A5 2 c5)) 25)):=Qb
  have h1:=HV1.out.2.size
  have h2:=hb.size
  have h3:=HX.out.2.2.2.2.2.2
  refine ⟨Qt HV1.out.2 hb,TBox.new u1 (n:=sEq) (m:=[]) (ts:=[(.mk k2 n2 m2 b2 v2 ts2),(.mk k3 n3 m3 b3 v3 ts3)]) rfl rfl,TAtP.keep _ HV1.out.1 (fun b h=>?_),by omega⟩
  have hlt:b<u1.heap.size:=by
   rcases h with h | h
   ·have:=HPP.out b h;omega
   ·exact h.2
  refine ⟨?_,hb.block b hlt⟩
  rcases h with h | h
  ·exact .inl h
  ·exact .inr ⟨by omega,by omega⟩)
 generalize u1.alloc (.cells (Qn 5 ⟨#[61]⟩ (.slice A5 2 c5)) 25)=u2 at *
 generalize u1.heap.size=G at *
 replace HU:=Qh (HU.out _ rfl)
 clear HV1 HF
 have HW2:=Qh (Qa ((HX.out.2.2.2.2.2.1).trans (HU.out.1.mono (HX.out.2.2.2.2.2.1).size)) (show w.heap.size+1+1+1+1+1≤u2.heap.size from by have h1:=HX.out.2.2.2.2.2.2;have h2:=HU.out.1.size;omega))
 have HXt:=Qh (show ∀ z,Below u2.heap.size u2 z→TBox z (w.heap.size) (.mk k1 n1 m1 b1 v1 ts1) (.slice A1 L1 c1)∧TBox z (w.heap.size+1) (.mk k2 n2 m2 b2 v2 ts2) (.slice A2 L2 c2)∧TBox z (w.heap.size+1+1) (.mk k3 n3 m3 b3 v3 ts3) (.slice A3 L3 c3)∧TBox z (w.heap.size+1+1+1) zeroT (.slice none 0 0)∧BBox z (w.heap.size+1+1+1+1) false zeroT (.slice none 0 0)∧TBox z G (eqT (.mk k2 n2 m2 b2 v2 ts2) (.mk k3 n3 m3 b3 v3 ts3)) (.slice A5 2 c5) from fun z hb=>by
  have hz:=Qt HU.out.1 hb
  exact ⟨(HX.out.1).below hz,(HX.out.2.1).below hz,(HX.out.2.2.1).below hz,(HX.out.2.2.2.1).below hz,(HX.out.2.2.2.2.1).below hz,HU.out.2.1.below hb⟩)
 have KM:=Qh (Below.refl u2.heap.size u2)
 obtain ⟨x0,x1,x2,x3,x4,x5⟩:=(HXt.out _ KM.out).1.cells HM.out.1 HM.out.2.1
 by_cases hk1:k1=1
 ·subst hk1
  have HE:=Qh (show okA (cmpT sPhrase [(.mk 1 n1 m1 b1 v1 ts1),(.mk k2 n2 m2 b2 v2 ts2),(.mk k3 n3 m3 b3 v3 ts3)]) nx=R from by rw [←HR0.out,ansM_var])
  obtain ⟨p0,p1,p2,p3,p4,p5⟩:=(HXt.out _ KM.out).2.1.cells HM.out.2.2.1 HM.out.2.2.2.1
  obtain ⟨q0,q1,q2,q3,q4,q5⟩:=(HXt.out _ KM.out).2.2.1.cells HM.out.2.2.2.2.1 HM.out.2.2.2.2.2
  go_wp2_with fail
  have hbA:Below u2.heap.size u2 (u2.alloc (.cells #[.int .i64 1,.string nb1,.string mb1,.int .u64 b1,.int .i64 v1,.slice A1 L1 c1,.int .i64 k2,.string nb2,.string mb2,.int .u64 b2,.int .i64 v2,.slice A2 L2 c2,.int .i64 k3,.string nb3,.string mb3,.int .u64 b3,.int .i64 v3,.slice A3 L3 c3] 25)):=Qb
  have hwa:=Qt HW2.out.1 hbA
  have hro:=rowP_at (P:=P) (n:=3) (ps:=[((Tm.mk 1 n1 m1 b1 v1 ts1),Value.slice A1 L1 c1),((Tm.mk k2 n2 m2 b2 v2 ts2),Value.slice A2 L2 c2),((Tm.mk k3 n3 m3 b3 v3 ts3),Value.slice A3 L3 c3)]) (heap_alloc_new u2 (.cells #[.int .i64 1,.string nb1,.string mb1,.int .u64 b1,.int .i64 v1,.slice A1 L1 c1,.int .i64 k2,.string nb2,.string mb2,.int .u64 b2,.int .i64 v2,.slice A2 L2 c2,.int .i64 k3,.string nb3,.string mb3,.int .u64 b3,.int .i64 v3,.slice A3 L3 c3] 25)) (by rw [←HM.out.1,←HM.out.2.1,←HM.out.2.2.1,←HM.out.2.2.2.1,←HM.out.2.2.2.2.1,←HM.out.2.2.2.2.2];rfl) rfl (mem3 (HT.out.1.below hwa HPP.out) (HT.out.2.1.below hwa HPP.out) (HT.out.2.2.below hwa HPP.out))
  (with_reducible refine (F_any (c:=3) hro (fun b hb=>Ql (HPP.out b hb) hwa.size) (by omega) (by unfold maxArgs;omega) ⟨#[112,104,114,97,115,101]⟩).mono ?_)
  rintro e u4 ⟨A6,c6,rfl,hr,hb⟩
  have HKu:=Qh (Qt hbA hb)
  have HTg:=Qh (show TAtP u4 (fun b=>P b∨(w.heap.size+1+1+1+1<b∧b<u4.heap.size)) (Tm.mk 5 sPhrase [] 0 0 [(Tm.mk 1 n1 m1 b1 v1 ts1),(Tm.mk k2 n2 m2 b2 v2 ts2),(Tm.mk k3 n3 m3 b3 v3 ts3)]) (.slice A6 3 c6) from (hr.wide (Q:=fun b=>P b∨(w.heap.size+1+1+1+1<b∧b<u4.heap.size)) (fun b hb=>.inl hb)).termP (t:=(Tm.mk 5 sPhrase [] 0 0 [(Tm.mk 1 n1 m1 b1 v1 ts1),(Tm.mk k2 n2 m2 b2 v2 ts2),(Tm.mk k3 n3 m3 b3 v3 ts3)])) (fun b h1 h2=>.inr ⟨by have:=HW2.out.2;have:=hbA.size;omega,h2⟩) rfl (by unfold maxArgs;omega) (okF_cmp (by decide)))
  clear hbA hwa hro hr hb x0 x1 x2 x3 x4 x5 p0 p1 p2 p3 p4 p5 q0 q1 q2 q3 q4 q5
  have HT3v:=Qh (HXt.out _ HKu.out).2.2.2.1
  have HB4v:=Qh (HXt.out _ HKu.out).2.2.2.2.1
  have HBv:=Qh (Qt HW2.out.1 HKu.out)
  have HLo:=Qh (show w.heap.size+1+1+1+1+1≤u4.heap.size from Nat.le_trans HW2.out.2 HKu.out.size)
  obtain ⟨a0,a1,a2,a3,a4,a5⟩:=HT3v.out.cells rfl rfl
  obtain ⟨f0,f1,f2,f3,f4,f5⟩:=HT3v.out.frozens
  obtain ⟨hbx,hgr⟩:=HT3v.out.set6 (k:=5) (b:=0) (v:=0) (n:=sPhrase) (m:=[]) [(Tm.mk 1 n1 m1 b1 v1 ts1),(Tm.mk k2 n2 m2 b2 v2 ts2),(Tm.mk k3 n3 m3 b3 v3 ts3)] (.slice A6 3 c6) (nb:=⟨#[112,104,114,97,115,101]⟩) (mb:=⟨#[]⟩) rfl rfl
  have hB6:=HB4v.out.gro hgr (by omega)
  obtain ⟨g0,g1,g2,g3,g4,g5,g6⟩:=hB6.cells rfl rfl
  obtain ⟨e0,e1,e2,e3,e4,e5,e6⟩:=hB6.frozens
  have HP0:=Qh (Qa hbx (Qa hB6 hgr))
  clear hbx hB6 hgr
  go_wp2
  clear a0 a1 a2 a3 a4 a5 f0 f1 f2 f3 f4 f5 g0 g1 g2 g3 g4 g5 g6 e0 e1 e2 e3 e4 e5 e6
  generalize ((((((u4.setCell ⟨w.heap.size+1+1+1,0,none⟩ (.int .i64 5)).setCell ⟨w.heap.size+1+1+1,1,none⟩ (.string ⟨#[112,104,114,97,115,101]⟩)).setCell ⟨w.heap.size+1+1+1,2,none⟩ (.string ⟨#[]⟩)).setCell ⟨w.heap.size+1+1+1,3,none⟩ (.int .u64 0)).setCell ⟨w.heap.size+1+1+1,4,none⟩ (.int .i64 0)).setCell ⟨w.heap.size+1+1+1,5,none⟩ (.slice A6 3 c6))=z1 at *
  obtain ⟨hbx,hgr⟩:=HP0.out.2.1.set7 false (k:=0) (b:=0) (v:=0) (n:=[]) (m:=[]) [] (.slice none 0 0) (nb:=⟨#[]⟩) (mb:=⟨#[]⟩) rfl rfl
  have HG4:=Qh (Qa (HP0.out.1.gro hgr (by omega)) (Qa hbx hgr))
  clear hbx hgr
  generalize (((((((z1.setCell ⟨w.heap.size+1+1+1+1,0,none⟩ (.bool false)).setCell ⟨w.heap.size+1+1+1+1,1,none⟩ (.int .i64 0)).setCell ⟨w.heap.size+1+1+1+1,2,none⟩ (.string ⟨#[]⟩)).setCell ⟨w.heap.size+1+1+1+1,3,none⟩ (.string ⟨#[]⟩)).setCell ⟨w.heap.size+1+1+1+1,4,none⟩ (.int .u64 0)).setCell ⟨w.heap.size+1+1+1+1,5,none⟩ (.int .i64 0)).setCell ⟨w.heap.size+1+1+1+1,6,none⟩ (.slice none 0 0))=z2 at *
  obtain ⟨r0,r1,r2,r3,r4,r5⟩:=HG4.out.1.cells (n:=sPhrase) (m:=[]) (nb:=⟨#[112,104,114,97,115,101]⟩) (mb:=⟨#[]⟩) rfl rfl
  obtain ⟨q0,q1,q2,q3,q4,q5,q6⟩:=HG4.out.2.1.cells (nb:=⟨#[]⟩) (mb:=⟨#[]⟩) rfl rfl
  refine bodyPost_ret (v:=.tuple #[.agg (Qn 5 ⟨#[112,104,114,97,115,101]⟩ (.slice A6 3 c6)),.int .i64 nx,.agg #[.bool false,.int .i64 0,.string ⟨#[]⟩,.string ⟨#[]⟩,.int .u64 0,.int .i64 0,.slice none 0 0]]) (by simp [results,Tryd.results49,go_sem,r0,r1,r2,r3,r4,r5,q0,q1,q2,q3,q4,q5,q6]) rfl ?_
  rw [←HE.out]
  exact ans_end HPP.out HBv.out ⟨by omega,Nat.lt_succ_of_lt (Nat.lt_succ_self _)⟩ ⟨by omega,Nat.lt_succ_self _⟩ HP0.out.2.2 HG4.out.2.2 (HTg.out) (zero_at u4 _) (by
   show _=Ending.returned (.tuple #[valT (Tm.mk 5 sPhrase [] 0 0 [(Tm.mk 1 n1 m1 b1 v1 ts1),(Tm.mk k2 n2 m2 b2 v2 ts2),(Tm.mk k3 n3 m3 b3 v3 ts3)]) (.slice A6 3 c6),_,badV false (Tm.mk 0 [] [] 0 0 []) (.slice none 0 0)])
   rw [valT_mk (n:=sPhrase) (m:=[]) (nb:=⟨#[112,104,114,97,115,101]⟩) (mb:=⟨#[]⟩) rfl rfl,badV_mk (nb:=⟨#[]⟩) (mb:=⟨#[]⟩) rfl rfl]
   all_goals rfl)
 by_cases hk1:k1=3
 ·subst hk1
  have HE:=Qh (show badA (typedT sCallable (Tm.mk 3 n1 m1 b1 v1 ts1))=R from by rw [←HR0.out,ansM_num (by first | exact Or.inl rfl | exact Or.inr rfl)])
  go_wp2_with fail
  (with_reducible refine (typed_any (kn:=sCallable) (kb:=⟨#[99,97,108,108,97,98,108,101]⟩) rfl (by decide) HM.out.1 HM.out.2.1 HLs.out.1 (HT.out.1.below HW2.out.1 HPP.out) (fun b hb=>Ql (HPP.out b hb) HW2.out.1.size)).mono ?_)
  rintro e u4 ⟨A6,c6,rfl,ht,hb⟩
  have HKu:=Qh hb
  have HTb:=Qh (show TAtP u4 (fun b=>P b∨(w.heap.size+1+1+1+1<b∧b<u4.heap.size)) (typedT sCallable (Tm.mk 3 n1 m1 b1 v1 ts1)) (.slice A6 2 c6) from ht.wide (fun b h=>by
   rcases h with h | h
   ·exact .inl h
   ·exact .inr ⟨by have:=HW2.out.2;omega,h.2⟩))
  clear ht hb x0 x1 x2 x3 x4 x5
  have HT3v:=Qh (HXt.out _ HKu.out).2.2.2.1
  have HB4v:=Qh (HXt.out _ HKu.out).2.2.2.2.1
  have HBv:=Qh (Qt HW2.out.1 HKu.out)
  have HLo:=Qh (show w.heap.size+1+1+1+1+1≤u4.heap.size from Nat.le_trans HW2.out.2 HKu.out.size)
  obtain ⟨a0,a1,a2,a3,a4,a5⟩:=HT3v.out.cells rfl rfl
  obtain ⟨f0,f1,f2,f3,f4,f5⟩:=HT3v.out.frozens
  obtain ⟨hbx,hgr⟩:=HT3v.out.set6 (k:=0) (b:=0) (v:=0) (n:=[]) (m:=[]) [] (.slice none 0 0) (nb:=⟨#[]⟩) (mb:=⟨#[]⟩) rfl rfl
  have hB6:=HB4v.out.gro hgr (by omega)
  obtain ⟨g0,g1,g2,g3,g4,g5,g6⟩:=hB6.cells rfl rfl
  obtain ⟨e0,e1,e2,e3,e4,e5,e6⟩:=hB6.frozens
  have HP0:=Qh (Qa hbx (Qa hB6 hgr))
  clear hbx hB6 hgr
  go_wp2
  clear a0 a1 a2 a3 a4 a5 f0 f1 f2 f3 f4 f5 g0 g1 g2 g3 g4 g5 g6 e0 e1 e2 e3 e4 e5 e6
  generalize ((((((u4.setCell ⟨w.heap.size+1+1+1,0,none⟩ (.int .i64 0)).setCell ⟨w.heap.size+1+1+1,1,none⟩ (.string ⟨#[]⟩)).setCell ⟨w.heap.size+1+1+1,2,none⟩ (.string ⟨#[]⟩)).setCell ⟨w.heap.size+1+1+1,3,none⟩ (.int .u64 0)).setCell ⟨w.heap.size+1+1+1,4,none⟩ (.int .i64 0)).setCell ⟨w.heap.size+1+1+1,5,none⟩ (.slice none 0 0))=z1 at *
  obtain ⟨hbx,hgr⟩:=HP0.out.2.1.set7 true (k:=5) (b:=0) (v:=0) (n:=sType) (m:=[]) [atomT sCallable,(Tm.mk 3 n1 m1 b1 v1 ts1)] (.slice A6 2 c6) (nb:=⟨#[116,121,112,101,95,101,114,114,111,114]⟩) (mb:=⟨#[]⟩) rfl rfl
  have HG4:=Qh (Qa (HP0.out.1.gro hgr (by omega)) (Qa hbx hgr))
  clear hbx hgr
  generalize (((((((z1.setCell ⟨w.heap.size+1+1+1+1,0,none⟩ (.bool true)).setCell ⟨w.heap.size+1+1+1+1,1,none⟩ (.int .i64 5)).setCell ⟨w.heap.size+1+1+1+1,2,none⟩ (.string ⟨#[116,121,112,101,95,101,114,114,111,114]⟩)).setCell ⟨w.heap.size+1+1+1+1,3,none⟩ (.string ⟨#[]⟩)).setCell ⟨w.heap.size+1+1+1+1,4,none⟩ (.int .u64 0)).setCell ⟨w.heap.size+1+1+1+1,5,none⟩ (.int .i64 0)).setCell ⟨w.heap.size+1+1+1+1,6,none⟩ (.slice A6 2 c6))=z2 at *
  obtain ⟨r0,r1,r2,r3,r4,r5⟩:=HG4.out.1.cells (nb:=⟨#[]⟩) (mb:=⟨#[]⟩) rfl rfl
  obtain ⟨q0,q1,q2,q3,q4,q5,q6⟩:=HG4.out.2.1.cells (n:=sType) (m:=[]) (nb:=⟨#[116,121,112,101,95,101,114,114,111,114]⟩) (mb:=⟨#[]⟩) rfl rfl
  refine bodyPost_ret (v:=.tuple #[.agg Qz,.int .i64 0,.agg #[.bool true,.int .i64 5,.string ⟨#[116,121,112,101,95,101,114,114,111,114]⟩,.string ⟨#[]⟩,.int .u64 0,.int .i64 0,.slice A6 2 c6]]) (by simp [results,Tryd.results49,go_sem,r0,r1,r2,r3,r4,r5,q0,q1,q2,q3,q4,q5,q6]) rfl ?_
  rw [←HE.out]
  exact ans_end HPP.out HBv.out ⟨by omega,Nat.lt_succ_of_lt (Nat.lt_succ_self _)⟩ ⟨by omega,Nat.lt_succ_self _⟩ HP0.out.2.2 HG4.out.2.2 (zero_at u4 _) (HTb.out) (by
   show _=Ending.returned (.tuple #[valT (Tm.mk 0 [] [] 0 0 []) (.slice none 0 0),_,badV true (Tm.mk 5 sType [] 0 0 [atomT sCallable,(Tm.mk 3 n1 m1 b1 v1 ts1)]) (.slice A6 2 c6)])
   rw [valT_mk (nb:=⟨#[]⟩) (mb:=⟨#[]⟩) rfl rfl,badV_mk (n:=sType) (m:=[]) (nb:=⟨#[116,121,112,101,95,101,114,114,111,114]⟩) (mb:=⟨#[]⟩) rfl rfl]
   all_goals rfl)
 by_cases hk1:k1=4
 ·subst hk1
  have HE:=Qh (show badA (typedT sCallable (Tm.mk 4 n1 m1 b1 v1 ts1))=R from by rw [←HR0.out,ansM_num (by first | exact Or.inl rfl | exact Or.inr rfl)])
  go_wp2_with fail
  (with_reducible refine (typed_any (kn:=sCallable) (kb:=⟨#[99,97,108,108,97,98,108,101]⟩) rfl (by decide) HM.out.1 HM.out.2.1 HLs.out.1 (HT.out.1.below HW2.out.1 HPP.out) (fun b hb=>Ql (HPP.out b hb) HW2.out.1.size)).mono ?_)
  rintro e u4 ⟨A6,c6,rfl,ht,hb⟩
  have HKu:=Qh hb
  have HTb:=Qh (show TAtP u4 (fun b=>P b∨(w.heap.size+1+1+1+1<b∧b<u4.heap.size)) (typedT sCallable (Tm.mk 4 n1 m1 b1 v1 ts1)) (.slice A6 2 c6) from ht.wide (fun b h=>by
   rcases h with h | h
   ·exact .inl h
   ·exact .inr ⟨by have:=HW2.out.2;omega,h.2⟩))
  clear ht hb x0 x1 x2 x3 x4 x5
  have HT3v:=Qh (HXt.out _ HKu.out).2.2.2.1
  have HB4v:=Qh (HXt.out _ HKu.out).2.2.2.2.1
  have HBv:=Qh (Qt HW2.out.1 HKu.out)
  have HLo:=Qh (show w.heap.size+1+1+1+1+1≤u4.heap.size from Nat.le_trans HW2.out.2 HKu.out.size)
  obtain ⟨a0,a1,a2,a3,a4,a5⟩:=HT3v.out.cells rfl rfl
  obtain ⟨f0,f1,f2,f3,f4,f5⟩:=HT3v.out.frozens
  obtain ⟨hbx,hgr⟩:=HT3v.out.set6 (k:=0) (b:=0) (v:=0) (n:=[]) (m:=[]) [] (.slice none 0 0) (nb:=⟨#[]⟩) (mb:=⟨#[]⟩) rfl rfl
  have hB6:=HB4v.out.gro hgr (by omega)
  obtain ⟨g0,g1,g2,g3,g4,g5,g6⟩:=hB6.cells rfl rfl
  obtain ⟨e0,e1,e2,e3,e4,e5,e6⟩:=hB6.frozens
  have HP0:=Qh (Qa hbx (Qa hB6 hgr))
  clear hbx hB6 hgr
  go_wp2
  clear a0 a1 a2 a3 a4 a5 f0 f1 f2 f3 f4 f5 g0 g1 g2 g3 g4 g5 g6 e0 e1 e2 e3 e4 e5 e6
  generalize ((((((u4.setCell ⟨w.heap.size+1+1+1,0,none⟩ (.int .i64 0)).setCell ⟨w.heap.size+1+1+1,1,none⟩ (.string ⟨#[]⟩)).setCell ⟨w.heap.size+1+1+1,2,none⟩ (.string ⟨#[]⟩)).setCell ⟨w.heap.size+1+1+1,3,none⟩ (.int .u64 0)).setCell ⟨w.heap.size+1+1+1,4,none⟩ (.int .i64 0)).setCell ⟨w.heap.size+1+1+1,5,none⟩ (.slice none 0 0))=z1 at *
  obtain ⟨hbx,hgr⟩:=HP0.out.2.1.set7 true (k:=5) (b:=0) (v:=0) (n:=sType) (m:=[]) [atomT sCallable,(Tm.mk 4 n1 m1 b1 v1 ts1)] (.slice A6 2 c6) (nb:=⟨#[116,121,112,101,95,101,114,114,111,114]⟩) (mb:=⟨#[]⟩) rfl rfl
  have HG4:=Qh (Qa (HP0.out.1.gro hgr (by omega)) (Qa hbx hgr))
  clear hbx hgr
  generalize (((((((z1.setCell ⟨w.heap.size+1+1+1+1,0,none⟩ (.bool true)).setCell ⟨w.heap.size+1+1+1+1,1,none⟩ (.int .i64 5)).setCell ⟨w.heap.size+1+1+1+1,2,none⟩ (.string ⟨#[116,121,112,101,95,101,114,114,111,114]⟩)).setCell ⟨w.heap.size+1+1+1+1,3,none⟩ (.string ⟨#[]⟩)).setCell ⟨w.heap.size+1+1+1+1,4,none⟩ (.int .u64 0)).setCell ⟨w.heap.size+1+1+1+1,5,none⟩ (.int .i64 0)).setCell ⟨w.heap.size+1+1+1+1,6,none⟩ (.slice A6 2 c6))=z2 at *
  obtain ⟨r0,r1,r2,r3,r4,r5⟩:=HG4.out.1.cells (nb:=⟨#[]⟩) (mb:=⟨#[]⟩) rfl rfl
  obtain ⟨q0,q1,q2,q3,q4,q5,q6⟩:=HG4.out.2.1.cells (n:=sType) (m:=[]) (nb:=⟨#[116,121,112,101,95,101,114,114,111,114]⟩) (mb:=⟨#[]⟩) rfl rfl
  refine bodyPost_ret (v:=.tuple #[.agg Qz,.int .i64 0,.agg #[.bool true,.int .i64 5,.string ⟨#[116,121,112,101,95,101,114,114,111,114]⟩,.string ⟨#[]⟩,.int .u64 0,.int .i64 0,.slice A6 2 c6]]) (by simp [results,Tryd.results49,go_sem,r0,r1,r2,r3,r4,r5,q0,q1,q2,q3,q4,q5,q6]) rfl ?_
  rw [←HE.out]
  exact ans_end HPP.out HBv.out ⟨by omega,Nat.lt_succ_of_lt (Nat.lt_succ_self _)⟩ ⟨by omega,Nat.lt_succ_self _⟩ HP0.out.2.2 HG4.out.2.2 (zero_at u4 _) (HTb.out) (by
   show _=Ending.returned (.tuple #[valT (Tm.mk 0 [] [] 0 0 []) (.slice none 0 0),_,badV true (Tm.mk 5 sType [] 0 0 [atomT sCallable,(Tm.mk 4 n1 m1 b1 v1 ts1)]) (.slice A6 2 c6)])
   rw [valT_mk (nb:=⟨#[]⟩) (mb:=⟨#[]⟩) rfl rfl,badV_mk (n:=sType) (m:=[]) (nb:=⟨#[116,121,112,101,95,101,114,114,111,114]⟩) (mb:=⟨#[]⟩) rfl rfl]
   all_goals rfl)
 obtain ⟨B0,hB0⟩:∃ B,isC (.mk k1 n1 m1 b1 v1 ts1) sComma 2=B:=⟨_,rfl⟩
 have HI0:=Qh (show ∀ u,Calls Tryd.prog 42 #[.agg (Q5 k1 nb1 mb1 b1 v1 (.slice A1 L1 c1)),.string ⟨#[44]⟩,.int .i64 2] u (fun e w'=>e = .returned (.bool B0)∧Below u.heap.size u w') from fun u=>by
  have h:=ris_any (t:=zeroT) (w:=u) (b:=b1) (v:=v1) (k:=k1) (A:=A1) HM.out.1 HM.out.2.1 HLs.out.1 HLs.out.2.2.2.2 HLs.out.2.2.2.1 ⟨#[44]⟩ 2
  rw [show isC (.mk k1 n1 m1 b1 v1 ts1) (⟨#[44]⟩:ByteArray).data.toList 2=B0 from hB0] at h
  exact h)
 have HC0:=Qh hB0
 clear hB0
 obtain ⟨B1,hB1⟩:∃ B,isC (.mk k1 n1 m1 b1 v1 ts1) sArrow 2=B:=⟨_,rfl⟩
 have HI1:=Qh (show ∀ u,Calls Tryd.prog 42 #[.agg (Q5 k1 nb1 mb1 b1 v1 (.slice A1 L1 c1)),.string ⟨#[45,62]⟩,.int .i64 2] u (fun e w'=>e = .returned (.bool B1)∧Below u.heap.size u w') from fun u=>by
  have h:=ris_any (t:=zeroT) (w:=u) (b:=b1) (v:=v1) (k:=k1) (A:=A1) HM.out.1 HM.out.2.1 HLs.out.1 HLs.out.2.2.2.2 HLs.out.2.2.2.1 ⟨#[45,62]⟩ 2
  rw [show isC (.mk k1 n1 m1 b1 v1 ts1) (⟨#[45,62]⟩:ByteArray).data.toList 2=B1 from hB1] at h
  exact h)
 have HC1:=Qh hB1
 clear hB1
 obtain ⟨B2,hB2⟩:∃ B,isC (.mk k1 n1 m1 b1 v1 ts1) sSemi 2=B:=⟨_,rfl⟩
 have HI2:=Qh (show ∀ u,Calls Tryd.prog 42 #[.agg (Q5 k1 nb1 mb1 b1 v1 (.slice A1 L1 c1)),.string ⟨#[59]⟩,.int .i64 2] u (fun e w'=>e = .returned (.bool B2)∧Below u.heap.size u w') from fun u=>by
  have h:=ris_any (t:=zeroT) (w:=u) (b:=b1) (v:=v1) (k:=k1) (A:=A1) HM.out.1 HM.out.2.1 HLs.out.1 HLs.out.2.2.2.2 HLs.out.2.2.2.1 ⟨#[59]⟩ 2
  rw [show isC (.mk k1 n1 m1 b1 v1 ts1) (⟨#[59]⟩:ByteArray).data.toList 2=B2 from hB2] at h
  exact h)
 have HC2:=Qh hB2
 clear hB2
 obtain ⟨B3,hB3⟩:∃ B,isC (.mk k1 n1 m1 b1 v1 ts1) sBar 2=B:=⟨_,rfl⟩
 have HI3:=Qh (show ∀ u,Calls Tryd.prog 42 #[.agg (Q5 k1 nb1 mb1 b1 v1 (.slice A1 L1 c1)),.string ⟨#[124]⟩,.int .i64 2] u (fun e w'=>e = .returned (.bool B3)∧Below u.heap.size u w') from fun u=>by
  have h:=ris_any (t:=zeroT) (w:=u) (b:=b1) (v:=v1) (k:=k1) (A:=A1) HM.out.1 HM.out.2.1 HLs.out.1 HLs.out.2.2.2.2 HLs.out.2.2.2.1 ⟨#[124]⟩ 2
  rw [show isC (.mk k1 n1 m1 b1 v1 ts1) (⟨#[124]⟩:ByteArray).data.toList 2=B3 from hB3] at h
  exact h)
 have HC3:=Qh hB3
 clear hB3
 obtain ⟨B4,hB4⟩:∃ B,isC (.mk k1 n1 m1 b1 v1 ts1) sNot 1=B:=⟨_,rfl⟩
 have HI4:=Qh (show ∀ u,Calls Tryd.prog 42 #[.agg (Q5 k1 nb1 mb1 b1 v1 (.slice A1 L1 c1)),.string ⟨#[92,43]⟩,.int .i64 1] u (fun e w'=>e = .returned (.bool B4)∧Below u.heap.size u w') from fun u=>by
  have h:=ris_any (t:=zeroT) (w:=u) (b:=b1) (v:=v1) (k:=k1) (A:=A1) HM.out.1 HM.out.2.1 HLs.out.1 HLs.out.2.2.2.2 HLs.out.2.2.2.1 ⟨#[92,43]⟩ 1
  rw [show isC (.mk k1 n1 m1 b1 v1 ts1) (⟨#[92,43]⟩:ByteArray).data.toList 1=B4 from hB4] at h
  exact h)
 have HC4:=Qh hB4
 clear hB4
 obtain ⟨B5,hB5⟩:∃ B,isC (.mk k1 n1 m1 b1 v1 ts1) sCurly 1=B:=⟨_,rfl⟩
 have HI5:=Qh (show ∀ u,Calls Tryd.prog 42 #[.agg (Q5 k1 nb1 mb1 b1 v1 (.slice A1 L1 c1)),.string ⟨#[123,125]⟩,.int .i64 1] u (fun e w'=>e = .returned (.bool B5)∧Below u.heap.size u w') from fun u=>by
  have h:=ris_any (t:=zeroT) (w:=u) (b:=b1) (v:=v1) (k:=k1) (A:=A1) HM.out.1 HM.out.2.1 HLs.out.1 HLs.out.2.2.2.2 HLs.out.2.2.2.1 ⟨#[123,125]⟩ 1
  rw [show isC (.mk k1 n1 m1 b1 v1 ts1) (⟨#[123,125]⟩:ByteArray).data.toList 1=B5 from hB5] at h
  exact h)
 have HC5:=Qh hB5
 clear hB5
 obtain ⟨B6,hB6⟩:∃ B,isC (.mk k1 n1 m1 b1 v1 ts1) sDot 2=B:=⟨_,rfl⟩
 have HI6:=Qh (show ∀ u,Calls Tryd.prog 42 #[.agg (Q5 k1 nb1 mb1 b1 v1 (.slice A1 L1 c1)),.string ⟨#[46]⟩,.int .i64 2] u (fun e w'=>e = .returned (.bool B6)∧Below u.heap.size u w') from fun u=>by
  have h:=ris_any (t:=zeroT) (w:=u) (b:=b1) (v:=v1) (k:=k1) (A:=A1) HM.out.1 HM.out.2.1 HLs.out.1 HLs.out.2.2.2.2 HLs.out.2.2.2.1 ⟨#[46]⟩ 2
  rw [show isC (.mk k1 n1 m1 b1 v1 ts1) (⟨#[46]⟩:ByteArray).data.toList 2=B6 from hB6] at h
  exact h)
 have HC6:=Qh hB6
 clear hB6
 by_cases hB:B0=true∨B1=true
 ·have hfc:k1=5∧(n1=sComma∨n1=sArrow)∧ts1.length=2:=by
   rcases hB with h | h
   ·obtain ⟨e1,e2,e3⟩:=isC_iff.1 (HC0.out.trans h)
    exact ⟨e1,.inl e2,e3⟩
   ·obtain ⟨e1,e2,e3⟩:=isC_iff.1 (HC1.out.trans h)
    exact ⟨e1,.inr e2,e3⟩
  obtain ⟨e1,e2,e3⟩:=hfc
  subst e1
  obtain rfl:L1=2:=by rw [←HLs.out.1];exact e3
  obtain ⟨x,y,rfl⟩:∃ x y,ts1 = [x,y]:=by
   match ts1,e3 with
   | [x,y],_=>exact ⟨x,y,rfl⟩
  clear e3
  have HN1:=Qh e2
  clear e2
  obtain rfl | ⟨rfl,rfl⟩:B0=true∨(B0=false∧B1=true):=by
   cases B0 with
   | true=>exact .inl rfl
   | false=>exact .inr ⟨rfl,hB.resolve_left (by simp)⟩
  all_goals (
   go_upto_region 7 with (first
    | (go_at_call 42;(with_reducible refine (HI0.out _).mono ?_);rintro e u4 ⟨rfl,hb⟩;replace KM:=Qh (Qt KM.out hb);clear x0 x1 x2 x3 x4 x5;obtain ⟨x0,x1,x2,x3,x4,x5⟩:=(HXt.out _ KM.out).1.cells HM.out.1 HM.out.2.1;clear hb)
    | (go_at_call 42;(with_reducible refine (HI1.out _).mono ?_);rintro e u4 ⟨rfl,hb⟩;replace KM:=Qh (Qt KM.out hb);clear x0 x1 x2 x3 x4 x5;obtain ⟨x0,x1,x2,x3,x4,x5⟩:=(HXt.out _ KM.out).1.cells HM.out.1 HM.out.2.1;clear hb))
   obtain ⟨p0,p1,p2,p3,p4,p5⟩:=(HXt.out _ KM.out).2.1.cells HM.out.2.2.1 HM.out.2.2.2.1
   obtain ⟨q0,q1,q2,q3,q4,q5⟩:=(HXt.out _ KM.out).2.2.1.cells HM.out.2.2.2.2.1 HM.out.2.2.2.2.2
   have hwz:=Qt HW2.out.1 KM.out
   have hcx:=check_arg HCk.out.1 (by simp [Tm.as]:x∈(Tm.mk 5 n1 m1 b1 v1 [x,y]).as)
   have hcy:=check_arg HCk.out.1 (by simp [Tm.as]:y∈(Tm.mk 5 n1 m1 b1 v1 [x,y]).as)
   have hTw:=rtwo_any (s:=n1) (nx:=nx) HM.out.1 (TAtP.ok HT.out.1).1 HM.out.1 HM.out.2.1 HM.out.2.2.1 HM.out.2.2.2.1 HLs.out.2.1 HM.out.2.2.2.2.1 HM.out.2.2.2.2.2 HLs.out.2.2.1 (HT.out.1.below hwz HPP.out) (HT.out.2.1.below hwz HPP.out) (HT.out.2.2.below hwz HPP.out) (fun b hb=>Ql (HPP.out b hb) hwz.size) (HIH.out x (by simp)) (HIH.out y (by simp)) HCk.out.2.1 (by have:=HCk.out.2.2;simp only [sz,szs] at this;omega) hcx hcy
   obtain ⟨a,ha⟩:∃ a,twoA n1 x y (.mk k2 n2 m2 b2 v2 ts2) (.mk k3 n3 m3 b3 v3 ts3) nx=a:=⟨_,rfl⟩
   have HE:=Qh (show a=R from by rw [←HR0.out,ansM_two (HN1.out),ha])
   have hna:=twoA_n (f:=(.mk k2 n2 m2 b2 v2 ts2)) (d:=(.mk k3 n3 m3 b3 v3 ts3)) (s:=n1) (check_iff.1 hcx).2 (check_iff.1 hcy).2 HCk.out.2.1
   rw [ha] at hTw hna
   obtain ⟨ga,na,ia,ba⟩:=a
   change 0≤na∧na≤_ at hna
   clear ha hwz hcx hcy
   obtain ⟨k6,n6,m6,b6,v6,ts6⟩:=ga
   obtain ⟨nb6,hnb6⟩:∃ nb:ByteArray,(⟨n6.toArray⟩:ByteArray)=nb:=⟨_,rfl⟩
   obtain ⟨mb6,hmb6⟩:∃ mb:ByteArray,(⟨m6.toArray⟩:ByteArray)=mb:=⟨_,rfl⟩
   obtain ⟨L6,hL6⟩:∃ L,ts6.length=L:=⟨_,rfl⟩
   have HL6:=Qh (Qa hnb6 (Qa hmb6 hL6))
   clear hnb6 hmb6 hL6
   obtain ⟨k7,n7,m7,b7,v7,ts7⟩:=ba
   obtain ⟨nb7,hnb7⟩:∃ nb:ByteArray,(⟨n7.toArray⟩:ByteArray)=nb:=⟨_,rfl⟩
   obtain ⟨mb7,hmb7⟩:∃ mb:ByteArray,(⟨m7.toArray⟩:ByteArray)=mb:=⟨_,rfl⟩
   obtain ⟨L7,hL7⟩:∃ L,ts7.length=L:=⟨_,rfl⟩
   have HL7:=Qh (Qa hnb7 (Qa hmb7 hL7))
   clear hnb7 hmb7 hL7
   have HTw:=Qh (hTw.mono (fun e w' h=>AnsP.letters HL6.out.1 HL6.out.2.1 HL6.out.2.2 HL7.out.1 HL7.out.2.1 HL7.out.2.2 h))
   clear hTw
   go_wp2_with fail
   (with_reducible refine HTw.out.mono ?_)
   rintro e u5 ⟨A6,c6,A7,c7,rfl,ht1,ht2,hb⟩
   have HKu:=Qh (Qt KM.out hb)
   have hlo:=KM.out.size
   have HTg:=Qh (show TAtP u5 (fun b=>P b∨(w.heap.size+1+1+1+1<b∧b<u5.heap.size)) (Tm.mk k6 n6 m6 b6 v6 ts6) (.slice A6 L6 c6) from ht1.wide (fun b h=>by
    rcases h with h | h
    ·exact .inl h
    ·exact .inr ⟨by have:=HW2.out.2;omega,h.2⟩))
   have HTb:=Qh (show TAtP u5 (fun b=>P b∨(w.heap.size+1+1+1+1<b∧b<u5.heap.size)) (Tm.mk k7 n7 m7 b7 v7 ts7) (.slice A7 L7 c7) from ht2.wide (fun b h=>by
    rcases h with h | h
    ·exact .inl h
    ·exact .inr ⟨by have:=HW2.out.2;omega,h.2⟩))
   clear ht1 ht2 hb HTw x0 x1 x2 x3 x4 x5 p0 p1 p2 p3 p4 p5 q0 q1 q2 q3 q4 q5 hlo
   have HT3v:=Qh (HXt.out _ HKu.out).2.2.2.1
   have HB4v:=Qh (HXt.out _ HKu.out).2.2.2.2.1
   have HBv:=Qh (Qt HW2.out.1 HKu.out)
   have HLo:=Qh (show w.heap.size+1+1+1+1+1≤u5.heap.size from Nat.le_trans HW2.out.2 HKu.out.size)
   obtain ⟨a0,a1,a2,a3,a4,a5⟩:=HT3v.out.cells rfl rfl
   obtain ⟨f0,f1,f2,f3,f4,f5⟩:=HT3v.out.frozens
   obtain ⟨hbx,hgr⟩:=HT3v.out.set6 (k:=k6) (b:=b6) (v:=v6) (n:=n6) (m:=m6) ts6 (.slice A6 L6 c6) (nb:=nb6) (mb:=mb6) HL6.out.1 HL6.out.2.1
   have hB6:=HB4v.out.gro hgr (by omega)
   obtain ⟨g0,g1,g2,g3,g4,g5,g6⟩:=hB6.cells rfl rfl
   obtain ⟨e0,e1,e2,e3,e4,e5,e6⟩:=hB6.frozens
   have HP0:=Qh (Qa hbx (Qa hB6 hgr))
   clear hbx hB6 hgr
   go_wp2
   clear a0 a1 a2 a3 a4 a5 f0 f1 f2 f3 f4 f5 g0 g1 g2 g3 g4 g5 g6 e0 e1 e2 e3 e4 e5 e6
   generalize ((((((u5.setCell ⟨w.heap.size+1+1+1,0,none⟩ (.int .i64 k6)).setCell ⟨w.heap.size+1+1+1,1,none⟩ (.string nb6)).setCell ⟨w.heap.size+1+1+1,2,none⟩ (.string mb6)).setCell ⟨w.heap.size+1+1+1,3,none⟩ (.int .u64 b6)).setCell ⟨w.heap.size+1+1+1,4,none⟩ (.int .i64 v6)).setCell ⟨w.heap.size+1+1+1,5,none⟩ (.slice A6 L6 c6))=z1 at *
   obtain ⟨hbx,hgr⟩:=HP0.out.2.1.set7 ia (k:=k7) (b:=b7) (v:=v7) (n:=n7) (m:=m7) ts7 (.slice A7 L7 c7) (nb:=nb7) (mb:=mb7) HL7.out.1 HL7.out.2.1
   have HG4:=Qh (Qa (HP0.out.1.gro hgr (by omega)) (Qa hbx hgr))
   clear hbx hgr
   generalize (((((((z1.setCell ⟨w.heap.size+1+1+1+1,0,none⟩ (.bool ia)).setCell ⟨w.heap.size+1+1+1+1,1,none⟩ (.int .i64 k7)).setCell ⟨w.heap.size+1+1+1+1,2,none⟩ (.string nb7)).setCell ⟨w.heap.size+1+1+1+1,3,none⟩ (.string mb7)).setCell ⟨w.heap.size+1+1+1+1,4,none⟩ (.int .u64 b7)).setCell ⟨w.heap.size+1+1+1+1,5,none⟩ (.int .i64 v7)).setCell ⟨w.heap.size+1+1+1+1,6,none⟩ (.slice A7 L7 c7))=z2 at *
   obtain ⟨r0,r1,r2,r3,r4,r5⟩:=HG4.out.1.cells HL6.out.1 HL6.out.2.1
   obtain ⟨q0,q1,q2,q3,q4,q5,q6⟩:=HG4.out.2.1.cells HL7.out.1 HL7.out.2.1
   refine bodyPost_ret (v:=.tuple #[.agg (Q5 k6 nb6 mb6 b6 v6 (.slice A6 L6 c6)),.int .i64 na,.agg #[.bool ia,.int .i64 k7,.string nb7,.string mb7,.int .u64 b7,.int .i64 v7,.slice A7 L7 c7]]) (by simp [results,Tryd.results49,go_sem,r0,r1,r2,r3,r4,r5,q0,q1,q2,q3,q4,q5,q6]) rfl ?_
   rw [←HE.out]
   exact ans_end HPP.out HBv.out ⟨by omega,Nat.lt_succ_of_lt (Nat.lt_succ_self _)⟩ ⟨by omega,Nat.lt_succ_self _⟩ HP0.out.2.2 HG4.out.2.2 (HTg.out) (HTb.out) (by
    show _=Ending.returned (.tuple #[valT (Tm.mk k6 n6 m6 b6 v6 ts6) (.slice A6 L6 c6),_,badV ia (Tm.mk k7 n7 m7 b7 v7 ts7) (.slice A7 L7 c7)])
    rw [valT_mk HL6.out.1 HL6.out.2.1,badV_mk HL7.out.1 HL7.out.2.1]
    all_goals rfl))
 obtain ⟨rfl,rfl⟩:B0=false∧B1=false:=by
  constructor
  ·cases B0 with
   | false=>rfl
   | true=>exact absurd (.inl rfl) hB
  ·cases B1 with
   | false=>rfl
   | true=>exact absurd (.inr rfl) hB
 clear hB
 by_cases hB:B2=true∨B3=true
 ·have hfc:k1=5∧(n1=sSemi∨n1=sBar)∧ts1.length=2:=by
   rcases hB with h | h
   ·obtain ⟨e1,e2,e3⟩:=isC_iff.1 (HC2.out.trans h)
    exact ⟨e1,.inl e2,e3⟩
   ·obtain ⟨e1,e2,e3⟩:=isC_iff.1 (HC3.out.trans h)
    exact ⟨e1,.inr e2,e3⟩
  obtain ⟨e1,e2,e3⟩:=hfc
  subst e1
  obtain rfl:L1=2:=by rw [←HLs.out.1];exact e3
  obtain ⟨x,y,rfl⟩:∃ x y,ts1 = [x,y]:=by
   match ts1,e3 with
   | [x,y],_=>exact ⟨x,y,rfl⟩
  clear e3
  have HN1:=Qh e2
  clear e2
  obtain rfl | ⟨rfl,rfl⟩:B2=true∨(B2=false∧B3=true):=by
   cases B2 with
   | true=>exact .inl rfl
   | false=>exact .inr ⟨rfl,hB.resolve_left (by simp)⟩
  all_goals (
   obtain ⟨A0,c0,hst,hc1,hc2,_,_,hgo⟩:=TAtP.iff.1 HT.out.1
   obtain ⟨g,o,hA,hPg,hel⟩:=hgo (by simp [Tm.as])
   injection hst with e1 e2 e3
   rw [hA] at e1
   subst e1
   have HPg:=Qh (show g<w.heap.size from HPP.out g hPg)
   clear e2 e3 hA hgo hc1 hc2 c0 hPg
   have hex:=hel 0 x rfl
   obtain ⟨A4,c4,k4,n4,m4,b4,v4,ts4,nb4,mb4,rfl,hnb,hmb,htx,e0,e1,e2,e3,e4,e5⟩:=EltP.cells hex
   obtain ⟨L4,hL⟩:∃ L,ts4.length=L:=⟨_,rfl⟩
   rw [hL] at e5 htx
   rw [Nat.zero_mul,Nat.add_zero] at e0 e1 e2 e3 e4 e5
   have HL4:=Qh (Qa hnb (Qa hmb hL))
   have HE4:=Qh (Qa htx (Qa e0 (Qa e1 (Qa e2 (Qa e3 (Qa e4 e5))))))
   clear hnb hmb hL htx e0 e1 e2 e3 e4 e5 hex
   have hex:=hel 1 y rfl
   obtain ⟨A5,c5,k5,n5,m5,b5,v5,ts5,nb5,mb5,rfl,hnb,hmb,htx,e0,e1,e2,e3,e4,e5⟩:=EltP.cells hex
   obtain ⟨L5,hL⟩:∃ L,ts5.length=L:=⟨_,rfl⟩
   rw [hL] at e5 htx
   rw [Nat.one_mul] at e0 e1 e2 e3 e4 e5
   have HL5:=Qh (Qa hnb (Qa hmb hL))
   have HE5:=Qh (Qa htx (Qa e0 (Qa e1 (Qa e2 (Qa e3 (Qa e4 e5))))))
   clear hnb hmb hL htx e0 e1 e2 e3 e4 e5 hex
   clear hel
   have hcx:=check_arg HCk.out.1 (by simp [Tm.as]:(Tm.mk k4 n4 m4 b4 v4 ts4)∈(Tm.mk 5 n1 m1 b1 v1 [(Tm.mk k4 n4 m4 b4 v4 ts4),(Tm.mk k5 n5 m5 b5 v5 ts5)]).as)
   have hcy:=check_arg HCk.out.1 (by simp [Tm.as]:(Tm.mk k5 n5 m5 b5 v5 ts5)∈(Tm.mk 5 n1 m1 b1 v1 [(Tm.mk k4 n4 m4 b4 v4 ts4),(Tm.mk k5 n5 m5 b5 v5 ts5)]).as)
   have HRx:=Qh (Qa (HIH.out (Tm.mk k4 n4 m4 b4 v4 ts4) (by simp)) (Qa (HIH.out (Tm.mk k5 n5 m5 b5 v5 ts5) (by simp)) (Qa hcx hcy)))
   have HSz:=Qh (show nx+sz (Tm.mk k4 n4 m4 b4 v4 ts4)+sz (Tm.mk k5 n5 m5 b5 v5 ts5)≤4611686018427396000 from by have:=HCk.out.2.2;simp only [sz,szs] at this ⊢;omega)
   clear hcx hcy
   go_upto_region 9 with (first
    | (go_at_call 42;(with_reducible refine (HI0.out _).mono ?_);rintro e u4 ⟨rfl,hb⟩;replace KM:=Qh (Qt KM.out hb);clear x0 x1 x2 x3 x4 x5;obtain ⟨x0,x1,x2,x3,x4,x5⟩:=(HXt.out _ KM.out).1.cells HM.out.1 HM.out.2.1;clear hb)
    | (go_at_call 42;(with_reducible refine (HI1.out _).mono ?_);rintro e u4 ⟨rfl,hb⟩;replace KM:=Qh (Qt KM.out hb);clear x0 x1 x2 x3 x4 x5;obtain ⟨x0,x1,x2,x3,x4,x5⟩:=(HXt.out _ KM.out).1.cells HM.out.1 HM.out.2.1;clear hb)
    | (go_at_call 42;(with_reducible refine (HI2.out _).mono ?_);rintro e u4 ⟨rfl,hb⟩;replace KM:=Qh (Qt KM.out hb);clear x0 x1 x2 x3 x4 x5;obtain ⟨x0,x1,x2,x3,x4,x5⟩:=(HXt.out _ KM.out).1.cells HM.out.1 HM.out.2.1;clear hb)
    | (go_at_call 42;(with_reducible refine (HI3.out _).mono ?_);rintro e u4 ⟨rfl,hb⟩;replace KM:=Qh (Qt KM.out hb);clear x0 x1 x2 x3 x4 x5;obtain ⟨x0,x1,x2,x3,x4,x5⟩:=(HXt.out _ KM.out).1.cells HM.out.1 HM.out.2.1;clear hb))
   have hKw:=Qt HW2.out.1 KM.out
   have hgw:=HPg.out
   have HKw:=Qh hKw
   obtain ⟨a,ha⟩:∃ a,ansM (Tm.mk k4 n4 m4 b4 v4 ts4) (.mk k2 n2 m2 b2 v2 ts2) (.mk k3 n3 m3 b3 v3 ts3) nx=a:=⟨_,rfl⟩
   have hna:=ansM_n (f:=(.mk k2 n2 m2 b2 v2 ts2)) (d:=(.mk k3 n3 m3 b3 v3 ts3)) (nx:=nx) (check_iff.1 HRx.out.2.2.1).2 HCk.out.2.1
   rw [ha] at hna
   obtain ⟨ga,na,ia,ba⟩:=a
   change 0≤na∧na≤_ at hna
   have HAa:=Qh (Qa ha hna)
   clear ha hna
   obtain ⟨k6,n6,m6,b6,v6,ts6⟩:=ga
   obtain ⟨nb6,hnb6⟩:∃ nb:ByteArray,(⟨n6.toArray⟩:ByteArray)=nb:=⟨_,rfl⟩
   obtain ⟨mb6,hmb6⟩:∃ mb:ByteArray,(⟨m6.toArray⟩:ByteArray)=mb:=⟨_,rfl⟩
   obtain ⟨L6,hL6⟩:∃ L,ts6.length=L:=⟨_,rfl⟩
   have HL6:=Qh (Qa hnb6 (Qa hmb6 hL6))
   clear hnb6 hmb6 hL6
   obtain ⟨k7,n7,m7,b7,v7,ts7⟩:=ba
   obtain ⟨nb7,hnb7⟩:∃ nb:ByteArray,(⟨n7.toArray⟩:ByteArray)=nb:=⟨_,rfl⟩
   obtain ⟨mb7,hmb7⟩:∃ mb:ByteArray,(⟨m7.toArray⟩:ByteArray)=mb:=⟨_,rfl⟩
   obtain ⟨L7,hL7⟩:∃ L,ts7.length=L:=⟨_,rfl⟩
   have HL7:=Qh (Qa hnb7 (Qa hmb7 hL7))
   clear hnb7 hmb7 hL7
   have HCl:=Qh (show ∀ z,Below u4.heap.size u4 z→Calls Tryd.prog 49 #[.agg (Q5 k4 nb4 mb4 b4 v4 (.slice A4 L4 c4)),.agg (Q5 k2 nb2 mb2 b2 v2 (.slice A2 L2 c2)),.agg (Q5 k3 nb3 mb3 b3 v3 (.slice A3 L3 c3)),.int .i64 nx] z (fun e w'=>∃ A c A2 c2,e = .returned (.tuple #[.agg (Q5 k6 nb6 mb6 b6 v6 (.slice A L6 c)),.int .i64 na,.agg #[.bool ia,.int .i64 k7,.string nb7,.string mb7,.int .u64 b7,.int .i64 v7,.slice A2 L7 c2]])∧TAtP w' (Grow P z w') (Tm.mk k6 n6 m6 b6 v6 ts6) (.slice A L6 c)∧TAtP w' (Grow P z w') (Tm.mk k7 n7 m7 b7 v7 ts7) (.slice A2 L7 c2)∧Below z.heap.size z w') from fun z hz=>by
    have hwz:=(HKw.out).trans (hz.mono (HKw.out).size)
    have h:=HRx.out.1 z P (.mk k2 n2 m2 b2 v2 ts2) (.mk k3 n3 m3 b3 v3 ts3) (.slice A4 L4 c4) (.slice A2 L2 c2) (.slice A3 L3 c3) nx (HE4.out.1.below hwz HPP.out) (HT.out.2.1.below hwz HPP.out) (HT.out.2.2.below hwz HPP.out) (fun b hb=>Ql (HPP.out b hb) hwz.size) HCk.out.2.1 (by have:=HSz.out;have:=sz_pos (Tm.mk k5 n5 m5 b5 v5 ts5);omega) HRx.out.2.2.1
    rw [HAa.out.1,valT_mk HL4.out.1 HL4.out.2.1,valT_mk HM.out.2.2.1 HM.out.2.2.2.1,valT_mk HM.out.2.2.2.2.1 HM.out.2.2.2.2.2] at h
    exact h.mono (fun e w' h=>AnsP.letters HL6.out.1 HL6.out.2.1 HL6.out.2.2 HL7.out.1 HL7.out.2.1 HL7.out.2.2 h))
   clear x0 x1 x2 x3 x4 x5
   refine wp_region_U 16 (by kernel_rfl) (fun z0 K0 hs0=>?_)
   refine tw 0 K0 (v:=?_) (fun w5 hS=>?_) ?_
   case refine_2=>go_simp;rfl
   refine tw 1 K0 (v:=?_) (fun w5 hS=>?_) ?_
   case refine_2=>obtain ⟨x0,x1,x2,x3,x4,x5⟩:=((HXt.out _ (KM.out)).1.below hS).cells HM.out.1 HM.out.2.1;go_simp;rfl
   refine tw 2 K0 (v:=?_) (fun w5 hS=>?_) ?_
   case refine_2=>go_simp;rfl
   refine tw 3 K0 (v:=?_) (fun w5 hS=>?_) ?_
   case refine_2=>have key:=fun q:Nat=>(Qt hKw hS).cell (p:=⟨g,q,none⟩) HPg.out;have e0:=(key _).trans HE4.out.2.1;have e1:=(key _).trans HE4.out.2.2.1;have e2:=(key _).trans HE4.out.2.2.2.1;have e3:=(key _).trans HE4.out.2.2.2.2.1;have e4:=(key _).trans HE4.out.2.2.2.2.2.1;have e5:=(key _).trans HE4.out.2.2.2.2.2.2;clear key;go_simp;rfl
   refine tw 4 K0 (v:=?_) (fun w5 hS=>?_) ?_
   case refine_2=>obtain ⟨p0,p1,p2,p3,p4,p5⟩:=((HXt.out _ (KM.out)).2.1.below hS).cells HM.out.2.2.1 HM.out.2.2.2.1;go_simp;rfl
   refine tw 5 K0 (v:=?_) (fun w5 hS=>?_) ?_
   case refine_2=>obtain ⟨q0,q1,q2,q3,q4,q5⟩:=((HXt.out _ (KM.out)).2.2.1.below hS).cells HM.out.2.2.2.2.1 HM.out.2.2.2.2.2;go_simp;rfl
   refine tw 6 K0 (v:=?_) (fun w5 hS=>?_) ?_
   case refine_2=>go_simp;rfl
   refine wpAnyW_float [12,13] (fun q=>if q=12 then .cells Qz 25 else .cells #[.bool false,.int .i64 0,.string ⟨#[]⟩,.string ⟨#[]⟩,.int .u64 0,.int .i64 0,.slice none 0 0] 35) (by kernel_rfl) (by kernel_rfl) (FloatRun.two rfl rfl (fun a w=>by go_simp) rfl (fun a w=>by go_simp)) (fun _ _ h1 h2=>Qt h2 h1) (by kernel_rfl) (fun _ _ _ _ _ h=>h) rfl K0 ?_
   refine wpAnyF_one (i:=7) (by kernel_rfl) (by kernel_rfl) (fun _ _ _ _ _ h=>h) ⟨by kernel_rfl,by kernel_rfl⟩ (by kernel_rfl) rfl (by kernel_rfl) (fun f1 d1 K1 K hK=>?_)
   go_simp
   (with_reducible refine (HCl.out _ K1).mono ?_)
   rintro e f2 ⟨A6,c6,A7,c7,rfl,hg1,hg2,hb⟩
   refine hK.out _ _ hb (Qt K1 hb) ?_
   refine tf 8 (v:=?_) (fun w5 hS=>?_) ?_
   case refine_2=>go_simp;rfl
   refine tf 9 (v:=?_) (fun w5 hS=>?_) ?_
   case refine_2=>go_simp;rfl
   refine tf 10 (v:=?_) (fun w5 hS=>?_) ?_
   case refine_2=>go_simp;rfl
   refine tf 11 (v:=?_) (fun w5 hS=>?_) ?_
   case refine_2=>go_simp;rfl
   refine wpAnyF_land2 (by kernel_rfl) rfl rfl rfl (fun f3 H14 H16 d3 K3 hA hB gA gB hne=>?_)
   replace hA:TBox f3 H14 zeroT (.slice none 0 0):=hA
   replace hB:BBox f3 H16 false zeroT (.slice none 0 0):=hB
   refine stT (i:=14) (t:=(Tm.mk k6 n6 m6 b6 v6 ts6)) (A:=A6) (L:=L6) (c:=c6) (by kernel_rfl) rfl (by kernel_rfl) rfl rfl (by kernel_rfl) (.trans (by kernel_rfl) (valT_mk HL6.out.1 HL6.out.2.1).symm) hA (fun f4 hT4 g4=>?_)
   have K4:=K3.grown g4 K3.size (fun j e=>by injection e with e;have h1:=K1.size;have h2:=hb.size;rcases gA with (h | h) | h;exact h.elim;all_goals omega)
   refine ⟨fun _=>K4,?_⟩
   refine w1 15 fun K hK=>?_
   go_simp
   refine hK.out _ _ (fun _=>K4) ?_
   refine stB (i:=16) (j:=ia) (t:=(Tm.mk k7 n7 m7 b7 v7 ts7)) (A:=A7) (L:=L7) (c:=c7) (by kernel_rfl) rfl (by kernel_rfl) rfl rfl (by kernel_rfl) (.trans (by kernel_rfl) (badV_mk HL7.out.1 HL7.out.2.1).symm) (hB.gro g4 hne.symm) (fun z3 hB5 g5=>⟨fun h=>absurd h (by simp),?_⟩)
   refine wpAnyW_done (by kernel_rfl) ?_ _
   obtain ⟨hz,hzA,hzB⟩:=box_end hs0 K1 hb d3 (fun b hb=>Ql (HPP.out b hb) HKw.out.size) hg1 hg2 gA gB ⟨hT4,g4⟩ ⟨hB5,g5⟩ hne
   have Hz3:=Qh hz
   have H14L:=Qh hzA
   have H16L:=Qh hzB
   clear hz hzA hzB hT4 g4 hB5 g5 K4 hA hB gA gB hne d3 K3 hg1 hg2 hb d1 K1 K0 hs0
   have KM3:=Qh (Qt KM.out Hz3.out.2.2.2.2)
   have HW3:=Qh (Qt HKw.out Hz3.out.2.2.2.2)
   have HS3:=Qh (show (w.heap.size+1+1+1+1+1)≤u4.heap.size∧(w.heap.size+1+1+1+1+1)≤z3.heap.size from by have h1:=HW2.out.2;have h2:=KM.out.size;have h3:=Hz3.out.2.2.2.2.size;exact ⟨by omega,by omega⟩)
   obtain ⟨y0,y1,y2,y3,y4,y5,y6⟩:=Hz3.out.2.1.cells HL7.out.1 HL7.out.2.1
   cases ia with
   | true=>
    go_upto_region 11 with fail
    clear y0 y1 y2 y3 y4 y5 y6
    have HE:=Qh (show (⟨zeroT,0,true,(Tm.mk k7 n7 m7 b7 v7 ts7)⟩:Ans)=R from by rw [←HR0.out,ansM_alt HN1.out,altA,HAa.out.1];rfl)
    have hlo:=HS3.out.1
    have hH:=H16L.out
    refine wp_region_G (w.heap.size+1+1+1) 4 (by kernel_rfl) (fun v0 KK KG=>?_)
    refine tw 0 KG (v:=?_) (fun w5 hS=>?_) ?_
    case refine_2=>go_simp;rfl
    refine tw 1 KG (v:=?_) (fun w5 hS=>?_) ?_
    case refine_2=>obtain ⟨p0,p1,p2,p3,p4,p5,p6⟩:=(Hz3.out.2.1.gro hS (by omega)).cells HL7.out.1 HL7.out.2.1;go_simp;rfl
    have KW:=Qt KM3.out KK
    have htx:=NW.keep (NW.low Hz3.out.2.2.2.1 HS3.out.1) KK (fun b hb=>Ql (HPP.out b hb) HW3.out.size)
    refine stT (i:=2) (t:=(Tm.mk 0 [] [] 0 0 [])) (by kernel_rfl) rfl (by kernel_rfl) rfl rfl (by kernel_rfl) (.trans (by kernel_rfl) (valT_mk (sl:=.slice none 0 0) (nb:=⟨#[]⟩) (mb:=⟨#[]⟩) rfl rfl).symm) ((HXt.out _ (KW)).2.2.2.1) (fun x1 hT5 g5=>⟨fun _=>grown_trans KG g5,?_⟩)
    refine w1 3 fun K hK=>?_
    go_simp
    refine hK.out _ _ (fun _=>grown_trans KG g5) ?_
    refine stB (i:=4) (j:=true) (t:=(Tm.mk k7 n7 m7 b7 v7 ts7)) (by kernel_rfl) rfl (by kernel_rfl) rfl rfl (by kernel_rfl) (.trans (by kernel_rfl) (badV_mk (i:=true) (sl:=.slice A7 L7 c7) HL7.out.1 HL7.out.2.1).symm) (BBox.gro ((HXt.out _ (KW)).2.2.2.2.1) g5 (by omega)) (fun x2 hB6 g6=>⟨fun h=>absurd h (by simp),?_⟩)
    refine wpAnyW_done (by kernel_rfl) ?_ _
    go_wp2
    have hcc:=(hT5.gro g6 (by omega)).cells (nb:=⟨#[]⟩) (mb:=⟨#[]⟩) rfl rfl
    have a0:=hcc.1
    have a1:=hcc.2.1
    have a2:=hcc.2.2.1
    have a3:=hcc.2.2.2.1
    have a4:=hcc.2.2.2.2.1
    have a5:=hcc.2.2.2.2.2
    clear hcc
    have hcc:=hB6.cells HL7.out.1 HL7.out.2.1
    have s0:=hcc.1
    have s1:=hcc.2.1
    have s2:=hcc.2.2.1
    have s3:=hcc.2.2.2.1
    have s4:=hcc.2.2.2.2.1
    have s5:=hcc.2.2.2.2.2.1
    have s6:=hcc.2.2.2.2.2.2
    clear hcc
    refine bodyPost_ret (v:=.tuple #[.agg Qz,.int .i64 0,.agg #[.bool true,.int .i64 k7,.string nb7,.string mb7,.int .u64 b7,.int .i64 v7,.slice A7 L7 c7]]) (by simp [results,Tryd.results49,go_sem,a0,a1,a2,a3,a4,a5,s0,s1,s2,s3,s4,s5,s6]) rfl ?_
    rw [←HE.out]
    exact ans_end HPP.out (Qt HW2.out.1 KW) ⟨by omega,Nat.lt_succ_of_lt (Nat.lt_succ_self _)⟩ ⟨by omega,Nat.lt_succ_self _⟩ g5 g6 (zero_at v0 _) htx (by
     show _=Ending.returned (.tuple #[valT (Tm.mk 0 [] [] 0 0 []) (.slice none 0 0),_,badV true (Tm.mk k7 n7 m7 b7 v7 ts7) (.slice A7 L7 c7)])
     rw [valT_mk (nb:=⟨#[]⟩) (mb:=⟨#[]⟩) rfl rfl,badV_mk HL7.out.1 HL7.out.2.1]
     all_goals rfl)
   | false=>
    go_upto_region 12 with fail
    clear y0 y1 y2 y3 y4 y5 y6 HCl
    have hna0:=HAa.out.2.1
    obtain ⟨a,ha⟩:∃ a,ansM (Tm.mk k5 n5 m5 b5 v5 ts5) (.mk k2 n2 m2 b2 v2 ts2) (.mk k3 n3 m3 b3 v3 ts3) na=a:=⟨_,rfl⟩
    have hna:=ansM_n (f:=(.mk k2 n2 m2 b2 v2 ts2)) (d:=(.mk k3 n3 m3 b3 v3 ts3)) (nx:=na) (check_iff.1 HRx.out.2.2.2).2 HAa.out.2.1
    rw [ha] at hna
    obtain ⟨gc,nc,ic,bc⟩:=a
    change 0≤nc∧nc≤_ at hna
    have HAc:=Qh (Qa ha hna)
    clear ha hna
    obtain ⟨k8,n8,m8,b8,v8,ts8⟩:=gc
    obtain ⟨nb8,hnb8⟩:∃ nb:ByteArray,(⟨n8.toArray⟩:ByteArray)=nb:=⟨_,rfl⟩
    obtain ⟨mb8,hmb8⟩:∃ mb:ByteArray,(⟨m8.toArray⟩:ByteArray)=mb:=⟨_,rfl⟩
    obtain ⟨L8,hL8⟩:∃ L,ts8.length=L:=⟨_,rfl⟩
    have HL8:=Qh (Qa hnb8 (Qa hmb8 hL8))
    clear hnb8 hmb8 hL8
    obtain ⟨k9,n9,m9,b9,v9,ts9⟩:=bc
    obtain ⟨nb9,hnb9⟩:∃ nb:ByteArray,(⟨n9.toArray⟩:ByteArray)=nb:=⟨_,rfl⟩
    obtain ⟨mb9,hmb9⟩:∃ mb:ByteArray,(⟨m9.toArray⟩:ByteArray)=mb:=⟨_,rfl⟩
    obtain ⟨L9,hL9⟩:∃ L,ts9.length=L:=⟨_,rfl⟩
    have HL9:=Qh (Qa hnb9 (Qa hmb9 hL9))
    clear hnb9 hmb9 hL9
    have HE:=Qh (show (⟨cmpT sSemi [(Tm.mk k6 n6 m6 b6 v6 ts6),(Tm.mk k8 n8 m8 b8 v8 ts8)],nc,ic,(Tm.mk k9 n9 m9 b9 v9 ts9)⟩:Ans)=R from by rw [←HR0.out,ansM_alt HN1.out,altA,HAa.out.1,if_neg (by simp),HAc.out.1];rfl)
    have HCl:=Qh (show ∀ z,Below z3.heap.size z3 z→Calls Tryd.prog 49 #[.agg (Q5 k5 nb5 mb5 b5 v5 (.slice A5 L5 c5)),.agg (Q5 k2 nb2 mb2 b2 v2 (.slice A2 L2 c2)),.agg (Q5 k3 nb3 mb3 b3 v3 (.slice A3 L3 c3)),.int .i64 na] z (fun e w'=>∃ A c A2 c2,e = .returned (.tuple #[.agg (Q5 k8 nb8 mb8 b8 v8 (.slice A L8 c)),.int .i64 nc,.agg #[.bool ic,.int .i64 k9,.string nb9,.string mb9,.int .u64 b9,.int .i64 v9,.slice A2 L9 c2]])∧TAtP w' (Grow P z w') (Tm.mk k8 n8 m8 b8 v8 ts8) (.slice A L8 c)∧TAtP w' (Grow P z w') (Tm.mk k9 n9 m9 b9 v9 ts9) (.slice A2 L9 c2)∧Below z.heap.size z w') from fun z hz=>by
     have hwz:=(HW3.out).trans (hz.mono (HW3.out).size)
     have h:=HRx.out.2.1 z P (.mk k2 n2 m2 b2 v2 ts2) (.mk k3 n3 m3 b3 v3 ts3) (.slice A5 L5 c5) (.slice A2 L2 c2) (.slice A3 L3 c3) na (HE5.out.1.below hwz HPP.out) (HT.out.2.1.below hwz HPP.out) (HT.out.2.2.below hwz HPP.out) (fun b hb=>Ql (HPP.out b hb) hwz.size) HAa.out.2.1 (by have:=HSz.out;have:=HAa.out.2.2;omega) HRx.out.2.2.2
     rw [HAc.out.1,valT_mk HL5.out.1 HL5.out.2.1,valT_mk HM.out.2.2.1 HM.out.2.2.2.1,valT_mk HM.out.2.2.2.2.1 HM.out.2.2.2.2.2] at h
     exact h.mono (fun e w' h=>AnsP.letters HL8.out.1 HL8.out.2.1 HL8.out.2.2 HL9.out.1 HL9.out.2.1 HL9.out.2.2 h))
    refine wp_region_U 16 (by kernel_rfl) (fun z0 K0 hs0=>?_)
    refine tw 0 K0 (v:=?_) (fun w5 hS=>?_) ?_
    case refine_2=>go_simp;rfl
    refine tw 1 K0 (v:=?_) (fun w5 hS=>?_) ?_
    case refine_2=>obtain ⟨x0,x1,x2,x3,x4,x5⟩:=((HXt.out _ (KM3.out)).1.below hS).cells HM.out.1 HM.out.2.1;go_simp;rfl
    refine tw 2 K0 (v:=?_) (fun w5 hS=>?_) ?_
    case refine_2=>go_simp;rfl
    refine tw 3 K0 (v:=?_) (fun w5 hS=>?_) ?_
    case refine_2=>have key:=fun q:Nat=>(Qt HW3.out hS).cell (p:=⟨g,q,none⟩) HPg.out;have e0:=(key _).trans HE5.out.2.1;have e1:=(key _).trans HE5.out.2.2.1;have e2:=(key _).trans HE5.out.2.2.2.1;have e3:=(key _).trans HE5.out.2.2.2.2.1;have e4:=(key _).trans HE5.out.2.2.2.2.2.1;have e5:=(key _).trans HE5.out.2.2.2.2.2.2;clear key;go_simp;rfl
    refine tw 4 K0 (v:=?_) (fun w5 hS=>?_) ?_
    case refine_2=>obtain ⟨p0,p1,p2,p3,p4,p5⟩:=((HXt.out _ (KM3.out)).2.1.below hS).cells HM.out.2.2.1 HM.out.2.2.2.1;go_simp;rfl
    refine tw 5 K0 (v:=?_) (fun w5 hS=>?_) ?_
    case refine_2=>obtain ⟨q0,q1,q2,q3,q4,q5⟩:=((HXt.out _ (KM3.out)).2.2.1.below hS).cells HM.out.2.2.2.2.1 HM.out.2.2.2.2.2;go_simp;rfl
    refine tw 6 K0 (v:=?_) (fun w5 hS=>?_) ?_
    case refine_2=>go_simp;rfl
    refine wpAnyW_float [12,13] (fun q=>if q=12 then .cells Qz 25 else .cells #[.bool false,.int .i64 0,.string ⟨#[]⟩,.string ⟨#[]⟩,.int .u64 0,.int .i64 0,.slice none 0 0] 35) (by kernel_rfl) (by kernel_rfl) (FloatRun.two rfl rfl (fun a w=>by go_simp) rfl (fun a w=>by go_simp)) (fun _ _ h1 h2=>Qt h2 h1) (by kernel_rfl) (fun _ _ _ _ _ h=>h) rfl K0 ?_
    refine wpAnyF_one (i:=7) (by kernel_rfl) (by kernel_rfl) (fun _ _ _ _ _ h=>h) ⟨by kernel_rfl,by kernel_rfl⟩ (by kernel_rfl) rfl (by kernel_rfl) (fun f1 d1 K1 K hK=>?_)
    go_simp
    (with_reducible refine (HCl.out _ K1).mono ?_)
    rintro e f2 ⟨A8,c8,A9,c9,rfl,hg1,hg2,hb⟩
    refine hK.out _ _ hb (Qt K1 hb) ?_
    refine tf 8 (v:=?_) (fun w5 hS=>?_) ?_
    case refine_2=>go_simp;rfl
    refine tf 9 (v:=?_) (fun w5 hS=>?_) ?_
    case refine_2=>go_simp;rfl
    refine tf 10 (v:=?_) (fun w5 hS=>?_) ?_
    case refine_2=>go_simp;rfl
    refine tf 11 (v:=?_) (fun w5 hS=>?_) ?_
    case refine_2=>go_simp;rfl
    refine wpAnyF_land2 (by kernel_rfl) rfl rfl rfl (fun f3 H17 H19 d3 K3 hA hB gA gB hne=>?_)
    replace hA:TBox f3 H17 zeroT (.slice none 0 0):=hA
    replace hB:BBox f3 H19 false zeroT (.slice none 0 0):=hB
    refine stT (i:=14) (t:=(Tm.mk k8 n8 m8 b8 v8 ts8)) (A:=A8) (L:=L8) (c:=c8) (by kernel_rfl) rfl (by kernel_rfl) rfl rfl (by kernel_rfl) (.trans (by kernel_rfl) (valT_mk HL8.out.1 HL8.out.2.1).symm) hA (fun f4 hT4 g4=>?_)
    have K4:=K3.grown g4 K3.size (fun j e=>by injection e with e;have h1:=K1.size;have h2:=hb.size;rcases gA with (h | h) | h;exact h.elim;all_goals omega)
    refine ⟨fun _=>K4,?_⟩
    refine w1 15 fun K hK=>?_
    go_simp
    refine hK.out _ _ (fun _=>K4) ?_
    refine stB (i:=16) (j:=ic) (t:=(Tm.mk k9 n9 m9 b9 v9 ts9)) (A:=A9) (L:=L9) (c:=c9) (by kernel_rfl) rfl (by kernel_rfl) rfl rfl (by kernel_rfl) (.trans (by kernel_rfl) (badV_mk HL9.out.1 HL9.out.2.1).symm) (hB.gro g4 hne.symm) (fun z6 hB5 g5=>⟨fun h=>absurd h (by simp),?_⟩)
    refine wpAnyW_done (by kernel_rfl) ?_ _
    obtain ⟨hz,hzA,hzB⟩:=box_end hs0 K1 hb d3 (fun b hb=>Ql (HPP.out b hb) HW3.out.size) hg1 hg2 gA gB ⟨hT4,g4⟩ ⟨hB5,g5⟩ hne
    have Hz6:=Qh hz
    have H17L:=Qh hzA
    have H19L:=Qh hzB
    clear hz hzA hzB hT4 g4 hB5 g5 K4 hA hB gA gB hne d3 K3 hg1 hg2 hb d1 K1 K0 hs0
    have KM6:=Qh (Qt KM3.out Hz6.out.2.2.2.2)
    have HW6:=Qh (Qt HW3.out Hz6.out.2.2.2.2)
    go_upto_region 13 with fail
    have h1:=H14L.out
    have h2:=H17L.out
    have h3:=H19L.out
    have h4:=HS3.out
    refine wp_region_G (w.heap.size+1+1+1) 7 (by kernel_rfl) (fun v0 KK KG=>?_)
    refine tw 0 KG (v:=?_) (fun w5 hS=>?_) ?_
    case refine_2=>obtain ⟨p0,p1,p2,p3,p4,p5⟩:=((Hz3.out.1.below Hz6.out.2.2.2.2).gro hS (by omega)).cells HL6.out.1 HL6.out.2.1;go_simp;rfl
    refine tw 1 KG (v:=?_) (fun w5 hS=>?_) ?_
    case refine_2=>obtain ⟨p0,p1,p2,p3,p4,p5⟩:=(Hz6.out.1.gro hS (by omega)).cells HL8.out.1 HL8.out.2.1;go_simp;rfl
    refine tw 3 KG (v:=?_) (fun w5 hS=>?_) ?_
    case refine_2=>go_simp;rfl
    refine tw 4 KG (v:=?_) (fun w5 hS=>?_) ?_
    case refine_2=>obtain ⟨p0,p1,p2,p3,p4,p5,p6⟩:=(Hz6.out.2.1.gro hS (by omega)).cells HL9.out.1 HL9.out.2.1;go_simp;rfl
    have hPv:∀ b,P b→b<v0.heap.size:=fun b hb=>Ql ((fun b hb=>Ql (HPP.out b hb) (Nat.le_trans HW2.out.1.size (KM6.out).size)) b hb) (KK).size
    have hfa:TAtP v0 (NW P (w.heap.size+1+1+1+1+1) v0) (Tm.mk k6 n6 m6 b6 v6 ts6) _:=NW.keep (NW.keep (NW.low Hz3.out.2.2.1 HS3.out.1) Hz6.out.2.2.2.2 (fun b hb=>Ql (HPP.out b hb) HW3.out.size)) KK (fun b hb=>Ql (HPP.out b hb) HW6.out.size)
    have hfb:TAtP v0 (NW P (w.heap.size+1+1+1+1+1) v0) (Tm.mk k8 n8 m8 b8 v8 ts8) _:=NW.keep (NW.low Hz6.out.2.2.1 HS3.out.2) KK (fun b hb=>Ql (HPP.out b hb) HW6.out.size)
    have hfx:TAtP v0 (NW P (w.heap.size+1+1+1+1+1) v0) (Tm.mk k9 n9 m9 b9 v9 ts9) (.slice A9 L9 c9):=NW.keep (NW.low Hz6.out.2.2.2.1 HS3.out.2) KK (fun b hb=>Ql (HPP.out b hb) HW6.out.size)
    have hF:=F2_any hfa hfb (NW.lt hPv) ⟨#[59]⟩ (by decide)
    rw [valT_mk HL6.out.1 HL6.out.2.1,valT_mk HL8.out.1 HL8.out.2.1,show cmpT (⟨#[59]⟩:ByteArray).data.toList [(Tm.mk k6 n6 m6 b6 v6 ts6),(Tm.mk k8 n8 m8 b8 v8 ts8)]=(Tm.mk 5 sSemi [] 0 0 [(Tm.mk k6 n6 m6 b6 v6 ts6),(Tm.mk k8 n8 m8 b8 v8 ts8)]) from rfl] at hF
    have HF:=Qh hF
    clear hF
    refine w1 2 fun K hK=>?_
    go_simp
    (with_reducible refine HF.out.mono ?_)
    rintro e vF ⟨A10,c10,rfl,ht,hb⟩
    have KV:=(KK).trans (hb.mono (KK).size)
    have htg:TAtP vF (NW P (w.heap.size+1+1+1+1+1) vF) (Tm.mk 5 sSemi [] 0 0 [(Tm.mk k6 n6 m6 b6 v6 ts6),(Tm.mk k8 n8 m8 b8 v8 ts8)]) (.slice A10 2 c10):=ht.wide (fun b h2=>by
     have e1:=(KK).size
     have e2:=hb.size
     have e3:=(KM6.out).size
     have e4:=HW2.out.2
     rcases h2 with (h | h) | h
     ·exact .inl h
     ·exact .inr ⟨h.1,by omega⟩
     ·exact .inr ⟨by omega,h.2⟩)
    have htx:=NW.keep hfx hb hPv
    have KW:=(KM6.out).trans (KV.mono (KM6.out).size)
    refine hK.out _ _ (fun _=>grown_below KV) ?_
    clear ht hb HF hfa hfb hfx
    refine stT (i:=5) (t:=(Tm.mk 5 sSemi [] 0 0 [(Tm.mk k6 n6 m6 b6 v6 ts6),(Tm.mk k8 n8 m8 b8 v8 ts8)])) (by kernel_rfl) rfl (by kernel_rfl) rfl rfl (by kernel_rfl) (.trans (by kernel_rfl) (valT_mk (sl:=.slice A10 2 c10) (n:=sSemi) (m:=[]) (nb:=⟨#[59]⟩) (mb:=⟨#[]⟩) rfl rfl).symm) ((HXt.out _ (KW)).2.2.2.1) (fun x1 hT5 g5=>⟨fun _=>grown_trans (grown_below KV) g5,?_⟩)
    refine w1 6 fun K hK=>?_
    go_simp
    refine hK.out _ _ (fun _=>grown_trans (grown_below KV) g5) ?_
    refine stB (i:=7) (j:=ic) (t:=(Tm.mk k9 n9 m9 b9 v9 ts9)) (by kernel_rfl) rfl (by kernel_rfl) rfl rfl (by kernel_rfl) (.trans (by kernel_rfl) (badV_mk (i:=ic) (sl:=.slice A9 L9 c9) HL9.out.1 HL9.out.2.1).symm) (BBox.gro ((HXt.out _ (KW)).2.2.2.2.1) g5 (by omega)) (fun x2 hB6 g6=>⟨fun h=>absurd h (by simp),?_⟩)
    refine wpAnyW_done (by kernel_rfl) ?_ _
    go_wp2
    have hcc:=(hT5.gro g6 (by omega)).cells (n:=sSemi) (m:=[]) (nb:=⟨#[59]⟩) (mb:=⟨#[]⟩) rfl rfl
    have a0:=hcc.1
    have a1:=hcc.2.1
    have a2:=hcc.2.2.1
    have a3:=hcc.2.2.2.1
    have a4:=hcc.2.2.2.2.1
    have a5:=hcc.2.2.2.2.2
    clear hcc
    have hcc:=hB6.cells HL9.out.1 HL9.out.2.1
    have s0:=hcc.1
    have s1:=hcc.2.1
    have s2:=hcc.2.2.1
    have s3:=hcc.2.2.2.1
    have s4:=hcc.2.2.2.2.1
    have s5:=hcc.2.2.2.2.2.1
    have s6:=hcc.2.2.2.2.2.2
    clear hcc
    refine bodyPost_ret (v:=.tuple #[.agg (Qn 5 ⟨#[59]⟩ (.slice A10 2 c10)),.int .i64 nc,.agg #[.bool ic,.int .i64 k9,.string nb9,.string mb9,.int .u64 b9,.int .i64 v9,.slice A9 L9 c9]]) (by simp [results,Tryd.results49,go_sem,a0,a1,a2,a3,a4,a5,s0,s1,s2,s3,s4,s5,s6]) rfl ?_
    rw [←HE.out]
    exact ans_end HPP.out (Qt HW2.out.1 KW) ⟨by omega,Nat.lt_succ_of_lt (Nat.lt_succ_self _)⟩ ⟨by omega,Nat.lt_succ_self _⟩ g5 g6 htg htx (by
     show _=Ending.returned (.tuple #[valT (Tm.mk 5 sSemi [] 0 0 [(Tm.mk k6 n6 m6 b6 v6 ts6),(Tm.mk k8 n8 m8 b8 v8 ts8)]) (.slice A10 2 c10),_,badV ic (Tm.mk k9 n9 m9 b9 v9 ts9) (.slice A9 L9 c9)])
     rw [valT_mk (n:=sSemi) (m:=[]) (nb:=⟨#[59]⟩) (mb:=⟨#[]⟩) rfl rfl,badV_mk HL9.out.1 HL9.out.2.1]
     all_goals rfl))
 obtain ⟨rfl,rfl⟩:B2=false∧B3=false:=by
  constructor
  ·cases B2 with
   | false=>rfl
   | true=>exact absurd (.inl rfl) hB
  ·cases B3 with
   | false=>rfl
   | true=>exact absurd (.inr rfl) hB
 clear hB
 cases B4 with
 | true=>
  obtain ⟨e1,e2,e3⟩:=isC_iff.1 HC4.out
  change k1=5 at e1
  change n1=sNot at e2
  change ts1.length=1 at e3
  subst e1
  obtain rfl:L1=1:=by rw [←HLs.out.1];exact e3
  obtain ⟨x,rfl⟩:∃ x,ts1 = [x]:=by
   match ts1,e3 with
   | [x],_=>exact ⟨x,rfl⟩
  clear e3
  have HN1:=Qh e2
  clear e2
  obtain ⟨A0,c0,hst,hc1,hc2,_,_,hgo⟩:=TAtP.iff.1 HT.out.1
  obtain ⟨g,o,hA,hPg,hel⟩:=hgo (by simp [Tm.as])
  injection hst with e1 e2 e3
  rw [hA] at e1
  subst e1
  have HPg:=Qh (show g<w.heap.size from HPP.out g hPg)
  clear e2 e3 hA hgo hc1 hc2 c0 hPg
  have hex:=hel 0 x rfl
  obtain ⟨A4,c4,k4,n4,m4,b4,v4,ts4,nb4,mb4,rfl,hnb,hmb,htx,e0,e1,e2,e3,e4,e5⟩:=EltP.cells hex
  obtain ⟨L4,hL⟩:∃ L,ts4.length=L:=⟨_,rfl⟩
  rw [hL] at e5 htx
  rw [Nat.zero_mul,Nat.add_zero] at e0 e1 e2 e3 e4 e5
  have HL4:=Qh (Qa hnb (Qa hmb hL))
  have HE4:=Qh (Qa htx (Qa e0 (Qa e1 (Qa e2 (Qa e3 (Qa e4 e5))))))
  clear hnb hmb hL htx e0 e1 e2 e3 e4 e5 hex
  clear hel
  have HRx:=Qh (Qa (HIH.out (Tm.mk k4 n4 m4 b4 v4 ts4) (by simp)) (check_arg HCk.out.1 (by simp [Tm.as]:(Tm.mk k4 n4 m4 b4 v4 ts4)∈(Tm.mk 5 n1 m1 b1 v1 [(Tm.mk k4 n4 m4 b4 v4 ts4)]).as)))
  have HSz:=Qh (show nx+1+sz (Tm.mk k4 n4 m4 b4 v4 ts4)≤4611686018427396000 from by have:=HCk.out.2.2;simp only [sz,szs] at this ⊢;omega)
  go_upto_region 15 with (first
   | (go_at_call 42;(with_reducible refine (HI0.out _).mono ?_);rintro e u4 ⟨rfl,hb⟩;replace KM:=Qh (Qt KM.out hb);clear x0 x1 x2 x3 x4 x5;obtain ⟨x0,x1,x2,x3,x4,x5⟩:=(HXt.out _ KM.out).1.cells HM.out.1 HM.out.2.1;clear hb)
   | (go_at_call 42;(with_reducible refine (HI1.out _).mono ?_);rintro e u4 ⟨rfl,hb⟩;replace KM:=Qh (Qt KM.out hb);clear x0 x1 x2 x3 x4 x5;obtain ⟨x0,x1,x2,x3,x4,x5⟩:=(HXt.out _ KM.out).1.cells HM.out.1 HM.out.2.1;clear hb)
   | (go_at_call 42;(with_reducible refine (HI2.out _).mono ?_);rintro e u4 ⟨rfl,hb⟩;replace KM:=Qh (Qt KM.out hb);clear x0 x1 x2 x3 x4 x5;obtain ⟨x0,x1,x2,x3,x4,x5⟩:=(HXt.out _ KM.out).1.cells HM.out.1 HM.out.2.1;clear hb)
   | (go_at_call 42;(with_reducible refine (HI3.out _).mono ?_);rintro e u4 ⟨rfl,hb⟩;replace KM:=Qh (Qt KM.out hb);clear x0 x1 x2 x3 x4 x5;obtain ⟨x0,x1,x2,x3,x4,x5⟩:=(HXt.out _ KM.out).1.cells HM.out.1 HM.out.2.1;clear hb)
   | (go_at_call 42;(with_reducible refine (HI4.out _).mono ?_);rintro e u4 ⟨rfl,hb⟩;replace KM:=Qh (Qt KM.out hb);clear x0 x1 x2 x3 x4 x5;obtain ⟨x0,x1,x2,x3,x4,x5⟩:=(HXt.out _ KM.out).1.cells HM.out.1 HM.out.2.1;clear hb))
  have hKw:=Qt HW2.out.1 KM.out
  have hgw:=HPg.out
  have HKw:=Qh hKw
  have hwr:IntKind.i64.wrap (nx+1)=nx+1:=IntWalk.i64_in _ (by omega)
  obtain ⟨a,ha⟩:∃ a,ansM (Tm.mk k4 n4 m4 b4 v4 ts4) (.mk k2 n2 m2 b2 v2 ts2) (varT nx) (nx+1)=a:=⟨_,rfl⟩
  have hna:=ansM_n (f:=(.mk k2 n2 m2 b2 v2 ts2)) (d:=(varT nx)) (nx:=(nx+1)) (check_iff.1 HRx.out.2).2 (by omega)
  rw [ha] at hna
  obtain ⟨ga,na,ia,ba⟩:=a
  change 0≤na∧na≤_ at hna
  have HAa:=Qh (Qa ha hna)
  clear ha hna
  obtain ⟨k6,n6,m6,b6,v6,ts6⟩:=ga
  obtain ⟨nb6,hnb6⟩:∃ nb:ByteArray,(⟨n6.toArray⟩:ByteArray)=nb:=⟨_,rfl⟩
  obtain ⟨mb6,hmb6⟩:∃ mb:ByteArray,(⟨m6.toArray⟩:ByteArray)=mb:=⟨_,rfl⟩
  obtain ⟨L6,hL6⟩:∃ L,ts6.length=L:=⟨_,rfl⟩
  have HL6:=Qh (Qa hnb6 (Qa hmb6 hL6))
  clear hnb6 hmb6 hL6
  obtain ⟨k7,n7,m7,b7,v7,ts7⟩:=ba
  obtain ⟨nb7,hnb7⟩:∃ nb:ByteArray,(⟨n7.toArray⟩:ByteArray)=nb:=⟨_,rfl⟩
  obtain ⟨mb7,hmb7⟩:∃ mb:ByteArray,(⟨m7.toArray⟩:ByteArray)=mb:=⟨_,rfl⟩
  obtain ⟨L7,hL7⟩:∃ L,ts7.length=L:=⟨_,rfl⟩
  have HL7:=Qh (Qa hnb7 (Qa hmb7 hL7))
  clear hnb7 hmb7 hL7
  have HCl:=Qh (show ∀ z,Below u4.heap.size u4 z→Calls Tryd.prog 49 #[.agg (Q5 k4 nb4 mb4 b4 v4 (.slice A4 L4 c4)),.agg (Q5 k2 nb2 mb2 b2 v2 (.slice A2 L2 c2)),.agg (Qv nx),.int .i64 (nx+1)] z (fun e w'=>∃ A c A2 c2,e = .returned (.tuple #[.agg (Q5 k6 nb6 mb6 b6 v6 (.slice A L6 c)),.int .i64 na,.agg #[.bool ia,.int .i64 k7,.string nb7,.string mb7,.int .u64 b7,.int .i64 v7,.slice A2 L7 c2]])∧TAtP w' (Grow P z w') (Tm.mk k6 n6 m6 b6 v6 ts6) (.slice A L6 c)∧TAtP w' (Grow P z w') (Tm.mk k7 n7 m7 b7 v7 ts7) (.slice A2 L7 c2)∧Below z.heap.size z w') from fun z hz=>by
   have hwz:=(HKw.out).trans (hz.mono (HKw.out).size)
   have h:=HRx.out.1 z P (.mk k2 n2 m2 b2 v2 ts2) (varT nx) (.slice A4 L4 c4) (.slice A2 L2 c2) (.slice none 0 0) (nx+1) (HE4.out.1.below hwz HPP.out) (HT.out.2.1.below hwz HPP.out) (var_at z P ⟨by omega,by omega⟩) (fun b hb=>Ql (HPP.out b hb) hwz.size) (by omega) (by have:=HSz.out;omega) HRx.out.2
   rw [HAa.out.1,valT_mk HL4.out.1 HL4.out.2.1,valT_mk HM.out.2.2.1 HM.out.2.2.2.1,show valT (varT nx) (.slice none 0 0) = .agg (Qv nx) from rfl] at h
   exact h.mono (fun e w' h=>AnsP.letters HL6.out.1 HL6.out.2.1 HL6.out.2.2 HL7.out.1 HL7.out.2.1 HL7.out.2.2 h))
  clear x0 x1 x2 x3 x4 x5
  refine wp_region_U 18 (by kernel_rfl) (fun z0 K0 hs0=>?_)
  refine tw 0 K0 (v:=?_) (fun w5 hS=>?_) ?_
  case refine_2=>go_simp;rfl
  refine tw 1 K0 (v:=?_) (fun w5 hS=>?_) ?_
  case refine_2=>obtain ⟨x0,x1,x2,x3,x4,x5⟩:=((HXt.out _ (KM.out)).1.below hS).cells HM.out.1 HM.out.2.1;go_simp;rfl
  refine tw 2 K0 (v:=?_) (fun w5 hS=>?_) ?_
  case refine_2=>go_simp;rfl
  refine tw 3 K0 (v:=?_) (fun w5 hS=>?_) ?_
  case refine_2=>have key:=fun q:Nat=>(Qt hKw hS).cell (p:=⟨g,q,none⟩) HPg.out;have e0:=(key _).trans HE4.out.2.1;have e1:=(key _).trans HE4.out.2.2.1;have e2:=(key _).trans HE4.out.2.2.2.1;have e3:=(key _).trans HE4.out.2.2.2.2.1;have e4:=(key _).trans HE4.out.2.2.2.2.2.1;have e5:=(key _).trans HE4.out.2.2.2.2.2.2;clear key;go_simp;rfl
  refine tw 4 K0 (v:=?_) (fun w5 hS=>?_) ?_
  case refine_2=>obtain ⟨p0,p1,p2,p3,p4,p5⟩:=((HXt.out _ (KM.out)).2.1.below hS).cells HM.out.2.2.1 HM.out.2.2.2.1;go_simp;rfl
  refine tw 5 K0 (v:=?_) (fun w5 hS=>?_) ?_
  case refine_2=>go_simp;rfl
  refine tw 7 K0 (v:=?_) (fun w5 hS=>?_) ?_
  case refine_2=>go_simp;rfl
  refine tw 8 K0 (v:=?_) (fun w5 hS=>?_) ?_
  case refine_2=>go_simp;rfl
  refine wpAnyW_float [14,15] (fun q=>if q=14 then .cells Qz 25 else .cells #[.bool false,.int .i64 0,.string ⟨#[]⟩,.string ⟨#[]⟩,.int .u64 0,.int .i64 0,.slice none 0 0] 35) (by kernel_rfl) (by kernel_rfl) (FloatRun.two rfl rfl (fun a w=>by go_simp) rfl (fun a w=>by go_simp)) (fun _ _ h1 h2=>Qt h2 h1) (by kernel_rfl) (fun _ _ _ _ _ h=>h) rfl K0 ?_
  refine wpAnyF_one (i:=6) (by kernel_rfl) (by kernel_rfl) (fun _ _ _ _ _ h=>h) ⟨by kernel_rfl,by kernel_rfl⟩ (by kernel_rfl) rfl (by kernel_rfl) (fun y1 dy1 Ky1 K hK=>?_)
  go_simp
  (with_reducible refine (V_any _ _).mono ?_)
  rintro e y2 ⟨rfl,hby⟩
  refine hK.out _ _ hby (Qt Ky1 hby) ?_
  refine wpAnyF_one (i:=9) (by kernel_rfl) (by kernel_rfl) (fun _ _ _ _ _ h=>h) ⟨by kernel_rfl,by kernel_rfl⟩ (by kernel_rfl) rfl (by kernel_rfl) (fun f1 d1 K1 K hK=>?_)
  go_simp
  (with_reducible refine (HCl.out _ K1).mono ?_)
  rintro e f2 ⟨A6,c6,A7,c7,rfl,hg1,hg2,hb⟩
  refine hK.out _ _ hb (Qt K1 hb) ?_
  refine tf 10 (v:=?_) (fun w5 hS=>?_) ?_
  case refine_2=>go_simp;rfl
  refine tf 11 (v:=?_) (fun w5 hS=>?_) ?_
  case refine_2=>go_simp;rfl
  refine tf 12 (v:=?_) (fun w5 hS=>?_) ?_
  case refine_2=>go_simp;rfl
  refine tf 13 (v:=?_) (fun w5 hS=>?_) ?_
  case refine_2=>go_simp;rfl
  refine wpAnyF_land2 (by kernel_rfl) rfl rfl rfl (fun f3 H14 H16 d3 K3 hA hB gA gB hne=>?_)
  replace gA:=gap_merge dy1.size hby.size d1.size gA
  replace gB:=gap_merge dy1.size hby.size d1.size gB
  replace hA:TBox f3 H14 zeroT (.slice none 0 0):=hA
  replace hB:BBox f3 H16 false zeroT (.slice none 0 0):=hB
  refine stT (i:=16) (t:=(Tm.mk k6 n6 m6 b6 v6 ts6)) (A:=A6) (L:=L6) (c:=c6) (by kernel_rfl) rfl (by kernel_rfl) rfl rfl (by kernel_rfl) (.trans (by kernel_rfl) (valT_mk HL6.out.1 HL6.out.2.1).symm) hA (fun f4 hT4 g4=>?_)
  have K4:=K3.grown g4 K3.size (fun j e=>by injection e with e;have h1:=K1.size;have h2:=hb.size;rcases gA with (h | h) | h;exact h.elim;all_goals omega)
  refine ⟨fun _=>K4,?_⟩
  refine w1 17 fun K hK=>?_
  go_simp
  refine hK.out _ _ (fun _=>K4) ?_
  refine stB (i:=18) (j:=ia) (t:=(Tm.mk k7 n7 m7 b7 v7 ts7)) (A:=A7) (L:=L7) (c:=c7) (by kernel_rfl) rfl (by kernel_rfl) rfl rfl (by kernel_rfl) (.trans (by kernel_rfl) (badV_mk HL7.out.1 HL7.out.2.1).symm) (hB.gro g4 hne.symm) (fun z3 hB5 g5=>⟨fun h=>absurd h (by simp),?_⟩)
  refine wpAnyW_done (by kernel_rfl) ?_ _
  obtain ⟨hz,hzA,hzB⟩:=box_end hs0 K1 hb d3 (fun b hb=>Ql (HPP.out b hb) HKw.out.size) hg1 hg2 gA gB ⟨hT4,g4⟩ ⟨hB5,g5⟩ hne
  have Hz3:=Qh hz
  have H14L:=Qh hzA
  have H16L:=Qh hzB
  clear hz hzA hzB hT4 g4 hB5 g5 K4 hA hB gA gB hne d3 K3 hg1 hg2 hb d1 K1 K0 hs0 dy1 Ky1 hby
  have KM3:=Qh (Qt KM.out Hz3.out.2.2.2.2)
  have HW3:=Qh (Qt HKw.out Hz3.out.2.2.2.2)
  have HS3:=Qh (show (w.heap.size+1+1+1+1+1)≤u4.heap.size∧(w.heap.size+1+1+1+1+1)≤z3.heap.size from by have h1:=HW2.out.2;have h2:=KM.out.size;have h3:=Hz3.out.2.2.2.2.size;exact ⟨by omega,by omega⟩)
  have HE:=Qh (show (⟨cmpT sComma [cmpT sNot [(Tm.mk k6 n6 m6 b6 v6 ts6)],(eqT (.mk k2 n2 m2 b2 v2 ts2) (.mk k3 n3 m3 b3 v3 ts3))],na,ia,(Tm.mk k7 n7 m7 b7 v7 ts7)⟩:Ans)=R from by
   have h:=HR0.out
   rw [HN1.out,ansM_neg] at h
   rw [←h,notA,HAa.out.1])
  clear hwr
  go_upto_region 16 with fail
  have h1:=H14L.out
  have h2:=H16L.out
  have h4:=HS3.out
  have hG:=HU.out.2.2.2
  have hPz:∀ b,P b→b<z3.heap.size:=fun b hb=>Ql (HPP.out b hb) HW3.out.size
  have HPz:=Qh hPz
  clear hPz
  refine wp_region_G (w.heap.size+1+1+1) 9 (by kernel_rfl) (fun v0 KK KG=>?_)
  refine tw 0 KG (v:=?_) (fun w5 hS=>?_) ?_
  case refine_2=>obtain ⟨p0,p1,p2,p3,p4,p5⟩:=(Hz3.out.1.gro hS (by omega)).cells HL6.out.1 HL6.out.2.1;go_simp;rfl
  refine tw 3 KG (v:=?_) (fun w5 hS=>?_) ?_
  case refine_2=>obtain ⟨r0,r1,r2,r3,r4,r5⟩:=((HXt.out _ (KM3.out)).2.2.2.2.2.gro hS (by omega)).cells (nb:=⟨#[61]⟩) (mb:=⟨#[]⟩) rfl rfl;go_simp;rfl
  refine tw 5 KG (v:=?_) (fun w5 hS=>?_) ?_
  case refine_2=>go_simp;rfl
  refine tw 6 KG (v:=?_) (fun w5 hS=>?_) ?_
  case refine_2=>obtain ⟨p0,p1,p2,p3,p4,p5,p6⟩:=(Hz3.out.2.1.gro hS (by omega)).cells HL7.out.1 HL7.out.2.1;go_simp;rfl
  refine w1 1 fun K hK=>?_
  go_simp
  have hbA:Below v0.heap.size v0 (v0.alloc (.cells (Q5 k6 nb6 mb6 b6 v6 (.slice A6 L6 c6)) 25)):=Qb
  have K1:=Qt KK hbA
  have hx6:TAtP (v0.alloc (.cells (Q5 k6 nb6 mb6 b6 v6 (.slice A6 L6 c6)) 25)) (NW P (w.heap.size+1+1+1+1+1) (v0.alloc (.cells (Q5 k6 nb6 mb6 b6 v6 (.slice A6 L6 c6)) 25))) (Tm.mk k6 n6 m6 b6 v6 ts6) (.slice A6 L6 c6):=NW.keep (NW.keep (NW.low Hz3.out.2.2.1 HS3.out.1) KK HPz.out) hbA (fun b hb=>Ql (HPz.out b hb) KK.size)
  have hro:=rowP_at (P:=NW P (w.heap.size+1+1+1+1+1) (v0.alloc (.cells (Q5 k6 nb6 mb6 b6 v6 (.slice A6 L6 c6)) 25))) (n:=1) (ps:=[((Tm.mk k6 n6 m6 b6 v6 ts6),Value.slice A6 L6 c6)]) (heap_alloc_new v0 (.cells (Q5 k6 nb6 mb6 b6 v6 (.slice A6 L6 c6)) 25)) (by rw [←HL6.out.1,←HL6.out.2.1];rfl) rfl (mem1 hx6)
  have HF0:=Qh (F_any (c:=1) hro (NW.lt (fun b hb=>Ql (HPz.out b hb) K1.size)) (by omega) (by unfold maxArgs;omega) ⟨#[92,43]⟩)
  refine hK.out _ _ (fun _=>grown_below K1) ?_
  clear hro hx6 hbA
  generalize v0.alloc (.cells (Q5 k6 nb6 mb6 b6 v6 (.slice A6 L6 c6)) 25)=v1x at *
  refine w1 2 fun K hK=>?_
  go_simp
  (with_reducible refine HF0.out.mono ?_)
  rintro e v2x ⟨A11,c11,rfl,hr,hb⟩
  have K2:=Qt K1 hb
  refine hK.out _ _ (fun _=>grown_below K2) ?_
  have hnT:TAtP v2x (NW P (w.heap.size+1+1+1+1+1) v2x) (Tm.mk 5 sNot [] 0 0 [(Tm.mk k6 n6 m6 b6 v6 ts6)]) (.slice A11 1 c11):=(hr.wide (Q:=NW P (w.heap.size+1+1+1+1+1) v2x) (fun b h=>h.imp id (fun h=>⟨h.1,Ql h.2 hb.size⟩))).termP (t:=(Tm.mk 5 sNot [] 0 0 [(Tm.mk k6 n6 m6 b6 v6 ts6)])) (fun b h1 h2=>.inr ⟨by have:=K1.size;omega,h2⟩) rfl (by unfold maxArgs;omega) (okF_cmp (by decide))
  have HnT:=Qh hnT
  clear hr hb hnT HF0
  have hPv:∀ b,P b→b<v2x.heap.size:=fun b hb=>Ql ((fun b hb=>Ql (HPP.out b hb) (Nat.le_trans HW2.out.1.size (KM3.out).size)) b hb) (K2).size
  have hfa:TAtP v2x (NW P (w.heap.size+1+1+1+1+1) v2x) (Tm.mk 5 sNot [] 0 0 [(Tm.mk k6 n6 m6 b6 v6 ts6)]) _:=HnT.out
  have hfb:TAtP v2x (NW P (w.heap.size+1+1+1+1+1) v2x) (eqT (.mk k2 n2 m2 b2 v2 ts2) (.mk k3 n3 m3 b3 v3 ts3)) _:=NW.keep (show TAtP u2 (NW P (w.heap.size+1+1+1+1+1) u2) (eqT (.mk k2 n2 m2 b2 v2 ts2) (.mk k3 n3 m3 b3 v3 ts3)) (.slice A5 2 c5) from HU.out.2.2.1) (Qt KM3.out K2) (fun b hb=>Ql (HPP.out b hb) HW2.out.1.size)
  have hfx:TAtP v2x (NW P (w.heap.size+1+1+1+1+1) v2x) (Tm.mk k7 n7 m7 b7 v7 ts7) (.slice A7 L7 c7):=NW.keep (NW.low Hz3.out.2.2.2.1 HS3.out.1) K2 HPz.out
  have hF:=F2_any hfa hfb (NW.lt hPv) ⟨#[44]⟩ (by decide)
  rw [show valT (Tm.mk 5 sNot [] 0 0 [(Tm.mk k6 n6 m6 b6 v6 ts6)]) (.slice A11 1 c11) = .agg (Qn 5 ⟨#[92,43]⟩ (.slice A11 1 c11)) from rfl,show valT (eqT (.mk k2 n2 m2 b2 v2 ts2) (.mk k3 n3 m3 b3 v3 ts3)) (.slice A5 2 c5) = .agg (Qn 5 ⟨#[61]⟩ (.slice A5 2 c5)) from rfl,show cmpT (⟨#[44]⟩:ByteArray).data.toList [(Tm.mk 5 sNot [] 0 0 [(Tm.mk k6 n6 m6 b6 v6 ts6)]),(eqT (.mk k2 n2 m2 b2 v2 ts2) (.mk k3 n3 m3 b3 v3 ts3))]=(Tm.mk 5 sComma [] 0 0 [(Tm.mk 5 sNot [] 0 0 [(Tm.mk k6 n6 m6 b6 v6 ts6)]),(eqT (.mk k2 n2 m2 b2 v2 ts2) (.mk k3 n3 m3 b3 v3 ts3))]) from rfl] at hF
  have HF:=Qh hF
  clear hF
  refine w1 4 fun K hK=>?_
  go_simp
  (with_reducible refine HF.out.mono ?_)
  rintro e vF ⟨A10,c10,rfl,ht,hb⟩
  have KV:=(K2).trans (hb.mono (K2).size)
  have htg:TAtP vF (NW P (w.heap.size+1+1+1+1+1) vF) (Tm.mk 5 sComma [] 0 0 [(Tm.mk 5 sNot [] 0 0 [(Tm.mk k6 n6 m6 b6 v6 ts6)]),(eqT (.mk k2 n2 m2 b2 v2 ts2) (.mk k3 n3 m3 b3 v3 ts3))]) (.slice A10 2 c10):=ht.wide (fun b h2=>by
   have e1:=(K2).size
   have e2:=hb.size
   have e3:=(KM3.out).size
   have e4:=HW2.out.2
   rcases h2 with (h | h) | h
   ·exact .inl h
   ·exact .inr ⟨h.1,by omega⟩
   ·exact .inr ⟨by omega,h.2⟩)
  have htx:=NW.keep hfx hb hPv
  have KW:=(KM3.out).trans (KV.mono (KM3.out).size)
  refine hK.out _ _ (fun _=>grown_below KV) ?_
  clear ht hb HF hfa hfb hfx
  refine stT (i:=7) (t:=(Tm.mk 5 sComma [] 0 0 [(Tm.mk 5 sNot [] 0 0 [(Tm.mk k6 n6 m6 b6 v6 ts6)]),(eqT (.mk k2 n2 m2 b2 v2 ts2) (.mk k3 n3 m3 b3 v3 ts3))])) (by kernel_rfl) rfl (by kernel_rfl) rfl rfl (by kernel_rfl) (.trans (by kernel_rfl) (valT_mk (sl:=.slice A10 2 c10) (n:=sComma) (m:=[]) (nb:=⟨#[44]⟩) (mb:=⟨#[]⟩) rfl rfl).symm) ((HXt.out _ (KW)).2.2.2.1) (fun x1 hT5 g5=>⟨fun _=>grown_trans (grown_below KV) g5,?_⟩)
  refine w1 8 fun K hK=>?_
  go_simp
  refine hK.out _ _ (fun _=>grown_trans (grown_below KV) g5) ?_
  refine stB (i:=9) (j:=ia) (t:=(Tm.mk k7 n7 m7 b7 v7 ts7)) (by kernel_rfl) rfl (by kernel_rfl) rfl rfl (by kernel_rfl) (.trans (by kernel_rfl) (badV_mk (i:=ia) (sl:=.slice A7 L7 c7) HL7.out.1 HL7.out.2.1).symm) (BBox.gro ((HXt.out _ (KW)).2.2.2.2.1) g5 (by omega)) (fun x2 hB6 g6=>⟨fun h=>absurd h (by simp),?_⟩)
  refine wpAnyW_done (by kernel_rfl) ?_ _
  go_wp2
  have hcc:=(hT5.gro g6 (by omega)).cells (n:=sComma) (m:=[]) (nb:=⟨#[44]⟩) (mb:=⟨#[]⟩) rfl rfl
  have a0:=hcc.1
  have a1:=hcc.2.1
  have a2:=hcc.2.2.1
  have a3:=hcc.2.2.2.1
  have a4:=hcc.2.2.2.2.1
  have a5:=hcc.2.2.2.2.2
  clear hcc
  have hcc:=hB6.cells HL7.out.1 HL7.out.2.1
  have s0:=hcc.1
  have s1:=hcc.2.1
  have s2:=hcc.2.2.1
  have s3:=hcc.2.2.2.1
  have s4:=hcc.2.2.2.2.1
  have s5:=hcc.2.2.2.2.2.1
  have s6:=hcc.2.2.2.2.2.2
  clear hcc
  refine bodyPost_ret (v:=.tuple #[.agg (Qn 5 ⟨#[44]⟩ (.slice A10 2 c10)),.int .i64 na,.agg #[.bool ia,.int .i64 k7,.string nb7,.string mb7,.int .u64 b7,.int .i64 v7,.slice A7 L7 c7]]) (by simp [results,Tryd.results49,go_sem,a0,a1,a2,a3,a4,a5,s0,s1,s2,s3,s4,s5,s6]) rfl ?_
  rw [←HE.out]
  exact ans_end HPP.out (Qt HW2.out.1 KW) ⟨by omega,Nat.lt_succ_of_lt (Nat.lt_succ_self _)⟩ ⟨by omega,Nat.lt_succ_self _⟩ g5 g6 htg htx (by
   show _=Ending.returned (.tuple #[valT (Tm.mk 5 sComma [] 0 0 [(Tm.mk 5 sNot [] 0 0 [(Tm.mk k6 n6 m6 b6 v6 ts6)]),(eqT (.mk k2 n2 m2 b2 v2 ts2) (.mk k3 n3 m3 b3 v3 ts3))]) (.slice A10 2 c10),_,badV ia (Tm.mk k7 n7 m7 b7 v7 ts7) (.slice A7 L7 c7)])
   rw [valT_mk (n:=sComma) (m:=[]) (nb:=⟨#[44]⟩) (mb:=⟨#[]⟩) rfl rfl,badV_mk HL7.out.1 HL7.out.2.1]
   all_goals rfl)
 | false=>
  cases B5 with
  | true=>
   obtain ⟨e1,e2,e3⟩:=isC_iff.1 HC5.out
   change k1=5 at e1
   change n1=sCurly at e2
   change ts1.length=1 at e3
   subst e1
   obtain rfl:L1=1:=by rw [←HLs.out.1];exact e3
   obtain ⟨x,rfl⟩:∃ x,ts1 = [x]:=by
    match ts1,e3 with
    | [x],_=>exact ⟨x,rfl⟩
   clear e3
   have HN1:=Qh e2
   clear e2
   obtain ⟨A0,c0,hst,hc1,hc2,_,_,hgo⟩:=TAtP.iff.1 HT.out.1
   obtain ⟨g,o,hA,hPg,hel⟩:=hgo (by simp [Tm.as])
   injection hst with e1 e2 e3
   rw [hA] at e1
   subst e1
   have HPg:=Qh (show g<w.heap.size from HPP.out g hPg)
   clear e2 e3 hA hgo hc1 hc2 c0 hPg
   have hex:=hel 0 x rfl
   obtain ⟨A4,c4,k4,n4,m4,b4,v4,ts4,nb4,mb4,rfl,hnb,hmb,htx,e0,e1,e2,e3,e4,e5⟩:=EltP.cells hex
   obtain ⟨L4,hL⟩:∃ L,ts4.length=L:=⟨_,rfl⟩
   rw [hL] at e5 htx
   rw [Nat.zero_mul,Nat.add_zero] at e0 e1 e2 e3 e4 e5
   have HL4:=Qh (Qa hnb (Qa hmb hL))
   have HE4:=Qh (Qa htx (Qa e0 (Qa e1 (Qa e2 (Qa e3 (Qa e4 e5))))))
   clear hnb hmb hL htx e0 e1 e2 e3 e4 e5 hex
   clear hel
   have HE:=Qh (show okA (cmpT sComma [(Tm.mk k4 n4 m4 b4 v4 ts4),(eqT (.mk k2 n2 m2 b2 v2 ts2) (.mk k3 n3 m3 b3 v3 ts3))]) nx=R from by
    have h:=HR0.out
    rw [HN1.out,ansM_curly] at h
    exact h)
   go_upto_region 18 with (first
    | (go_at_call 42;(with_reducible refine (HI0.out _).mono ?_);rintro e u4 ⟨rfl,hb⟩;replace KM:=Qh (Qt KM.out hb);clear x0 x1 x2 x3 x4 x5;obtain ⟨x0,x1,x2,x3,x4,x5⟩:=(HXt.out _ KM.out).1.cells HM.out.1 HM.out.2.1;clear hb)
    | (go_at_call 42;(with_reducible refine (HI1.out _).mono ?_);rintro e u4 ⟨rfl,hb⟩;replace KM:=Qh (Qt KM.out hb);clear x0 x1 x2 x3 x4 x5;obtain ⟨x0,x1,x2,x3,x4,x5⟩:=(HXt.out _ KM.out).1.cells HM.out.1 HM.out.2.1;clear hb)
    | (go_at_call 42;(with_reducible refine (HI2.out _).mono ?_);rintro e u4 ⟨rfl,hb⟩;replace KM:=Qh (Qt KM.out hb);clear x0 x1 x2 x3 x4 x5;obtain ⟨x0,x1,x2,x3,x4,x5⟩:=(HXt.out _ KM.out).1.cells HM.out.1 HM.out.2.1;clear hb)
    | (go_at_call 42;(with_reducible refine (HI3.out _).mono ?_);rintro e u4 ⟨rfl,hb⟩;replace KM:=Qh (Qt KM.out hb);clear x0 x1 x2 x3 x4 x5;obtain ⟨x0,x1,x2,x3,x4,x5⟩:=(HXt.out _ KM.out).1.cells HM.out.1 HM.out.2.1;clear hb)
    | (go_at_call 42;(with_reducible refine (HI4.out _).mono ?_);rintro e u4 ⟨rfl,hb⟩;replace KM:=Qh (Qt KM.out hb);clear x0 x1 x2 x3 x4 x5;obtain ⟨x0,x1,x2,x3,x4,x5⟩:=(HXt.out _ KM.out).1.cells HM.out.1 HM.out.2.1;clear hb)
    | (go_at_call 42;(with_reducible refine (HI5.out _).mono ?_);rintro e u4 ⟨rfl,hb⟩;replace KM:=Qh (Qt KM.out hb);clear x0 x1 x2 x3 x4 x5;obtain ⟨x0,x1,x2,x3,x4,x5⟩:=(HXt.out _ KM.out).1.cells HM.out.1 HM.out.2.1;clear hb))
   have hG:=HU.out.2.2.2
   have hgw:=HPg.out
   have hKw:=Qt HW2.out.1 KM.out
   refine wp_region_G (w.heap.size+1+1+1) 10 (by kernel_rfl) (fun v0 KK KG=>?_)
   refine tw 0 KG (v:=?_) (fun w5 hS=>?_) ?_
   case refine_2=>go_simp;rfl
   refine tw 1 KG (v:=?_) (fun w5 hS=>?_) ?_
   case refine_2=>obtain ⟨x0,x1,x2,x3,x4,x5⟩:=((HXt.out _ (KM.out)).1.gro hS (by omega)).cells HM.out.1 HM.out.2.1;go_simp;rfl
   refine tw 2 KG (v:=?_) (fun w5 hS=>?_) ?_
   case refine_2=>go_simp;rfl
   refine tw 3 KG (v:=?_) (fun w5 hS=>?_) ?_
   case refine_2=>have key:=fun q:Nat=>(grown_cell hS (p:=⟨g,q,none⟩) (show g<_ from Ql hgw hKw.size) (show g≠_ from by omega)).trans (hKw.cell (p:=⟨g,q,none⟩) hgw);have e0:=(key _).trans HE4.out.2.1;have e1:=(key _).trans HE4.out.2.2.1;have e2:=(key _).trans HE4.out.2.2.2.1;have e3:=(key _).trans HE4.out.2.2.2.2.1;have e4:=(key _).trans HE4.out.2.2.2.2.2.1;have e5:=(key _).trans HE4.out.2.2.2.2.2.2;clear key;go_simp;rfl
   refine tw 4 KG (v:=?_) (fun w5 hS=>?_) ?_
   case refine_2=>obtain ⟨r0,r1,r2,r3,r4,r5⟩:=((HXt.out _ (KM.out)).2.2.2.2.2.gro hS (by omega)).cells (nb:=⟨#[61]⟩) (mb:=⟨#[]⟩) rfl rfl;go_simp;rfl
   refine tw 6 KG (v:=?_) (fun w5 hS=>?_) ?_
   case refine_2=>go_simp;rfl
   refine tw 7 KG (v:=?_) (fun w5 hS=>?_) ?_
   case refine_2=>go_simp;rfl
   have hPv:∀ b,P b→b<v0.heap.size:=fun b hb=>Ql ((fun b hb=>Ql (HPP.out b hb) (Nat.le_trans HW2.out.1.size (KM.out).size)) b hb) (KK).size
   have hfa:TAtP v0 (NW P (w.heap.size+1+1+1+1+1) v0) (Tm.mk k4 n4 m4 b4 v4 ts4) _:=((HE4.out.1.below (Qt hKw KK) HPP.out).wide (fun b hb=>.inl hb))
   have hfb:TAtP v0 (NW P (w.heap.size+1+1+1+1+1) v0) (eqT (.mk k2 n2 m2 b2 v2 ts2) (.mk k3 n3 m3 b3 v3 ts3)) _:=NW.keep (show TAtP u2 (NW P (w.heap.size+1+1+1+1+1) u2) (eqT (.mk k2 n2 m2 b2 v2 ts2) (.mk k3 n3 m3 b3 v3 ts3)) (.slice A5 2 c5) from HU.out.2.2.1) (Qt KM.out KK) (fun b hb=>Ql (HPP.out b hb) HW2.out.1.size)
   have hfx:TAtP v0 (NW P (w.heap.size+1+1+1+1+1) v0) (Tm.mk 0 [] [] 0 0 []) (.slice none 0 0):=zero_at _ _
   have hF:=F2_any hfa hfb (NW.lt hPv) ⟨#[44]⟩ (by decide)
   rw [valT_mk HL4.out.1 HL4.out.2.1,show valT (eqT (.mk k2 n2 m2 b2 v2 ts2) (.mk k3 n3 m3 b3 v3 ts3)) (.slice A5 2 c5) = .agg (Qn 5 ⟨#[61]⟩ (.slice A5 2 c5)) from rfl,show cmpT (⟨#[44]⟩:ByteArray).data.toList [(Tm.mk k4 n4 m4 b4 v4 ts4),(eqT (.mk k2 n2 m2 b2 v2 ts2) (.mk k3 n3 m3 b3 v3 ts3))]=(Tm.mk 5 sComma [] 0 0 [(Tm.mk k4 n4 m4 b4 v4 ts4),(eqT (.mk k2 n2 m2 b2 v2 ts2) (.mk k3 n3 m3 b3 v3 ts3))]) from rfl] at hF
   have HF:=Qh hF
   clear hF
   refine w1 5 fun K hK=>?_
   go_simp
   (with_reducible refine HF.out.mono ?_)
   rintro e vF ⟨A10,c10,rfl,ht,hb⟩
   have KV:=(KK).trans (hb.mono (KK).size)
   have htg:TAtP vF (NW P (w.heap.size+1+1+1+1+1) vF) (Tm.mk 5 sComma [] 0 0 [(Tm.mk k4 n4 m4 b4 v4 ts4),(eqT (.mk k2 n2 m2 b2 v2 ts2) (.mk k3 n3 m3 b3 v3 ts3))]) (.slice A10 2 c10):=ht.wide (fun b h2=>by
    have e1:=(KK).size
    have e2:=hb.size
    have e3:=(KM.out).size
    have e4:=HW2.out.2
    rcases h2 with (h | h) | h
    ·exact .inl h
    ·exact .inr ⟨h.1,by omega⟩
    ·exact .inr ⟨by omega,h.2⟩)
   have htx:=NW.keep hfx hb hPv
   have KW:=(KM.out).trans (KV.mono (KM.out).size)
   refine hK.out _ _ (fun _=>grown_below KV) ?_
   clear ht hb HF hfa hfb hfx
   refine stT (i:=8) (t:=(Tm.mk 5 sComma [] 0 0 [(Tm.mk k4 n4 m4 b4 v4 ts4),(eqT (.mk k2 n2 m2 b2 v2 ts2) (.mk k3 n3 m3 b3 v3 ts3))])) (by kernel_rfl) rfl (by kernel_rfl) rfl rfl (by kernel_rfl) (.trans (by kernel_rfl) (valT_mk (sl:=.slice A10 2 c10) (n:=sComma) (m:=[]) (nb:=⟨#[44]⟩) (mb:=⟨#[]⟩) rfl rfl).symm) ((HXt.out _ (KW)).2.2.2.1) (fun x1 hT5 g5=>⟨fun _=>grown_trans (grown_below KV) g5,?_⟩)
   refine w1 9 fun K hK=>?_
   go_simp
   refine hK.out _ _ (fun _=>grown_trans (grown_below KV) g5) ?_
   refine stB (i:=10) (j:=false) (t:=(Tm.mk 0 [] [] 0 0 [])) (by kernel_rfl) rfl (by kernel_rfl) rfl rfl (by kernel_rfl) (.trans (by kernel_rfl) (badV_mk (i:=false) (sl:=.slice none 0 0) (nb:=⟨#[]⟩) (mb:=⟨#[]⟩) rfl rfl).symm) (BBox.gro ((HXt.out _ (KW)).2.2.2.2.1) g5 (by omega)) (fun x2 hB6 g6=>⟨fun h=>absurd h (by simp),?_⟩)
   refine wpAnyW_done (by kernel_rfl) ?_ _
   go_wp2
   have hcc:=(hT5.gro g6 (by omega)).cells (n:=sComma) (m:=[]) (nb:=⟨#[44]⟩) (mb:=⟨#[]⟩) rfl rfl
   have a0:=hcc.1
   have a1:=hcc.2.1
   have a2:=hcc.2.2.1
   have a3:=hcc.2.2.2.1
   have a4:=hcc.2.2.2.2.1
   have a5:=hcc.2.2.2.2.2
   clear hcc
   have hcc:=hB6.cells (nb:=⟨#[]⟩) (mb:=⟨#[]⟩) rfl rfl
   have s0:=hcc.1
   have s1:=hcc.2.1
   have s2:=hcc.2.2.1
   have s3:=hcc.2.2.2.1
   have s4:=hcc.2.2.2.2.1
   have s5:=hcc.2.2.2.2.2.1
   have s6:=hcc.2.2.2.2.2.2
   clear hcc
   refine bodyPost_ret (v:=.tuple #[.agg (Qn 5 ⟨#[44]⟩ (.slice A10 2 c10)),.int .i64 nx,.agg #[.bool false,.int .i64 0,.string ⟨#[]⟩,.string ⟨#[]⟩,.int .u64 0,.int .i64 0,.slice none 0 0]]) (by simp [results,Tryd.results49,go_sem,a0,a1,a2,a3,a4,a5,s0,s1,s2,s3,s4,s5,s6]) rfl ?_
   rw [←HE.out]
   exact ans_end HPP.out (Qt HW2.out.1 KW) ⟨by omega,Nat.lt_succ_of_lt (Nat.lt_succ_self _)⟩ ⟨by omega,Nat.lt_succ_self _⟩ g5 g6 htg htx (by
    show _=Ending.returned (.tuple #[valT (Tm.mk 5 sComma [] 0 0 [(Tm.mk k4 n4 m4 b4 v4 ts4),(eqT (.mk k2 n2 m2 b2 v2 ts2) (.mk k3 n3 m3 b3 v3 ts3))]) (.slice A10 2 c10),_,badV false (Tm.mk 0 [] [] 0 0 []) (.slice none 0 0)])
    rw [valT_mk (n:=sComma) (m:=[]) (nb:=⟨#[44]⟩) (mb:=⟨#[]⟩) rfl rfl,badV_mk (nb:=⟨#[]⟩) (mb:=⟨#[]⟩) rfl rfl]
    all_goals rfl)
  | false=>
   cases B6 with
   | true=>
    have HE0:=Qh (show (if isNil (elems (.mk k1 n1 m1 b1 v1 ts1)).2 then okA (eqT (.mk k2 n2 m2 b2 v2 ts2) (endT (elems (.mk k1 n1 m1 b1 v1 ts1)).1 (.mk k3 n3 m3 b3 v3 ts3))) nx else badA (typedT sList (.mk k1 n1 m1 b1 v1 ts1)))=R from by
     obtain ⟨e1,e2,e3⟩:=isC_iff.1 HC6.out
     change k1=5 at e1
     change n1=sDot at e2
     change ts1.length=2 at e3
     rw [←HR0.out]
     obtain ⟨x,y,e4⟩:∃ x y,ts1 = [x,y]:=by
      match ts1,e3 with
      | [x,y],_=>exact ⟨x,y,rfl⟩
     rw [e1,e2,e4,ansM_dot])
    have hk5:k1=5:=(isC_iff.1 HC6.out).1
    have hk2b:(k1==2)=false:=beq_eq_false_iff_ne.2 (by omega)
    have hk1b:(k1==1)=false:=beq_eq_false_iff_ne.2 (by omega)
    have hk3b:(k1==3)=false:=beq_eq_false_iff_ne.2 (by omega)
    have hk4b:(k1==4)=false:=beq_eq_false_iff_ne.2 (by omega)
    clear hk5
    go_upto_region 26 with (first
     | (go_at_call 42;(with_reducible refine (HI0.out _).mono ?_);rintro e u4 ⟨rfl,hb⟩;replace KM:=Qh (Qt KM.out hb);clear x0 x1 x2 x3 x4 x5;obtain ⟨x0,x1,x2,x3,x4,x5⟩:=(HXt.out _ KM.out).1.cells HM.out.1 HM.out.2.1;clear hb)
     | (go_at_call 42;(with_reducible refine (HI1.out _).mono ?_);rintro e u4 ⟨rfl,hb⟩;replace KM:=Qh (Qt KM.out hb);clear x0 x1 x2 x3 x4 x5;obtain ⟨x0,x1,x2,x3,x4,x5⟩:=(HXt.out _ KM.out).1.cells HM.out.1 HM.out.2.1;clear hb)
     | (go_at_call 42;(with_reducible refine (HI2.out _).mono ?_);rintro e u4 ⟨rfl,hb⟩;replace KM:=Qh (Qt KM.out hb);clear x0 x1 x2 x3 x4 x5;obtain ⟨x0,x1,x2,x3,x4,x5⟩:=(HXt.out _ KM.out).1.cells HM.out.1 HM.out.2.1;clear hb)
     | (go_at_call 42;(with_reducible refine (HI3.out _).mono ?_);rintro e u4 ⟨rfl,hb⟩;replace KM:=Qh (Qt KM.out hb);clear x0 x1 x2 x3 x4 x5;obtain ⟨x0,x1,x2,x3,x4,x5⟩:=(HXt.out _ KM.out).1.cells HM.out.1 HM.out.2.1;clear hb)
     | (go_at_call 42;(with_reducible refine (HI4.out _).mono ?_);rintro e u4 ⟨rfl,hb⟩;replace KM:=Qh (Qt KM.out hb);clear x0 x1 x2 x3 x4 x5;obtain ⟨x0,x1,x2,x3,x4,x5⟩:=(HXt.out _ KM.out).1.cells HM.out.1 HM.out.2.1;clear hb)
     | (go_at_call 42;(with_reducible refine (HI5.out _).mono ?_);rintro e u4 ⟨rfl,hb⟩;replace KM:=Qh (Qt KM.out hb);clear x0 x1 x2 x3 x4 x5;obtain ⟨x0,x1,x2,x3,x4,x5⟩:=(HXt.out _ KM.out).1.cells HM.out.1 HM.out.2.1;clear hb)
     | (go_at_call 42;(with_reducible refine (HI6.out _).mono ?_);rintro e u4 ⟨rfl,hb⟩;replace KM:=Qh (Qt KM.out hb);clear x0 x1 x2 x3 x4 x5;obtain ⟨x0,x1,x2,x3,x4,x5⟩:=(HXt.out _ KM.out).1.cells HM.out.1 HM.out.2.1;clear hb))
    have hKw:=Qt HW2.out.1 KM.out
    have hL:=rlist_any (w0:=u4) (w:=u4) ((HT.out.1.below hKw HPP.out).wide (fun b hb=>Ql (HPP.out b hb) hKw.size)) (check_iff.1 HCk.out.1).1
    obtain ⟨BN,hBN⟩:∃ BN,isNil (elems (.mk k1 n1 m1 b1 v1 ts1)).2=BN:=⟨_,rfl⟩
    unfold ListPost at hL
    rw [valT_mk HM.out.1 HM.out.2.1,hBN] at hL
    have HLc:=Qh hL
    have HBN:=Qh hBN
    clear hL hBN
    go_wp2_with fail
    (with_reducible refine HLc.out.mono ?_)
    rintro e u5 ⟨A7,n7,c7,ps,rfl,hr,hps,hn7,hb⟩
    have HKu:=Qh (Qt KM.out hb)
    have HR7:=Qh (Qa hr (Qa hps (Qa hn7 KM.out.size)))
    have HK5:=Qh (Qt hKw hb)
    clear hr hps hn7 hb HLc hKw x0 x1 x2 x3 x4 x5
    cases BN
    case false=>
     have HE:=Qh (show badA (typedT sList (Tm.mk k1 n1 m1 b1 v1 ts1))=R from by rw [←HE0.out,HBN.out];rfl)
     go_upto_region 28 with fail
     obtain ⟨x0,x1,x2,x3,x4,x5⟩:=(HXt.out _ HKu.out).1.cells HM.out.1 HM.out.2.1
     go_wp2_with fail
     (with_reducible refine (typed_any (kn:=sList) (kb:=⟨#[108,105,115,116]⟩) rfl (by decide) HM.out.1 HM.out.2.1 HLs.out.1 (HT.out.1.below HK5.out HPP.out) (fun b hb=>Ql (HPP.out b hb) HK5.out.size)).mono ?_)
     rintro e u6 ⟨A6,c6,rfl,ht,hb⟩
     have HTb:=Qh (show TAtP u6 (fun b=>P b∨(w.heap.size+1+1+1+1<b∧b<u6.heap.size)) (typedT sList (Tm.mk k1 n1 m1 b1 v1 ts1)) (.slice A6 2 c6) from ht.wide (fun b h=>by
      have h1:=HW2.out.2
      have h2:=HKu.out.size
      rcases h with h | h
      ·exact .inl h
      ·exact .inr ⟨by omega,h.2⟩))
     replace HKu:=Qh (Qt HKu.out hb)
     clear ht hb x0 x1 x2 x3 x4 x5
     have HT3v:=Qh (HXt.out _ HKu.out).2.2.2.1
     have HB4v:=Qh (HXt.out _ HKu.out).2.2.2.2.1
     have HBv:=Qh (Qt HW2.out.1 HKu.out)
     have HLo:=Qh (show w.heap.size+1+1+1+1+1≤u6.heap.size from Nat.le_trans HW2.out.2 HKu.out.size)
     have hcc:=HT3v.out.cells rfl rfl
     have a0:=hcc.1
     have a1:=hcc.2.1
     have a2:=hcc.2.2.1
     have a3:=hcc.2.2.2.1
     have a4:=hcc.2.2.2.2.1
     have a5:=hcc.2.2.2.2.2
     clear hcc
     obtain ⟨f0,f1,f2,f3,f4,f5⟩:=HT3v.out.frozens
     obtain ⟨hbx,hgr⟩:=HT3v.out.set6 (k:=0) (b:=0) (v:=0) (n:=[]) (m:=[]) [] (.slice none 0 0) (nb:=⟨#[]⟩) (mb:=⟨#[]⟩) rfl rfl
     have hB6:=HB4v.out.gro hgr (by omega)
     obtain ⟨g0,g1,g2,g3,g4,g5,g6⟩:=hB6.cells rfl rfl
     obtain ⟨e0,e1,e2,e3,e4,e5,e6⟩:=hB6.frozens
     have HP0:=Qh (Qa hbx (Qa hB6 hgr))
     clear hbx hB6 hgr
     go_wp2
     clear a0 a1 a2 a3 a4 a5 f0 f1 f2 f3 f4 f5 g0 g1 g2 g3 g4 g5 g6 e0 e1 e2 e3 e4 e5 e6
     generalize ((((((u6.setCell ⟨w.heap.size+1+1+1,0,none⟩ (.int .i64 0)).setCell ⟨w.heap.size+1+1+1,1,none⟩ (.string ⟨#[]⟩)).setCell ⟨w.heap.size+1+1+1,2,none⟩ (.string ⟨#[]⟩)).setCell ⟨w.heap.size+1+1+1,3,none⟩ (.int .u64 0)).setCell ⟨w.heap.size+1+1+1,4,none⟩ (.int .i64 0)).setCell ⟨w.heap.size+1+1+1,5,none⟩ (.slice none 0 0))=z1 at *
     obtain ⟨hbx,hgr⟩:=HP0.out.2.1.set7 true (k:=5) (b:=0) (v:=0) (n:=sType) (m:=[]) [atomT sList,(Tm.mk k1 n1 m1 b1 v1 ts1)] (.slice A6 2 c6) (nb:=⟨#[116,121,112,101,95,101,114,114,111,114]⟩) (mb:=⟨#[]⟩) rfl rfl
     have HG4:=Qh (Qa (HP0.out.1.gro hgr (by omega)) (Qa hbx hgr))
     clear hbx hgr
     generalize (((((((z1.setCell ⟨w.heap.size+1+1+1+1,0,none⟩ (.bool true)).setCell ⟨w.heap.size+1+1+1+1,1,none⟩ (.int .i64 5)).setCell ⟨w.heap.size+1+1+1+1,2,none⟩ (.string ⟨#[116,121,112,101,95,101,114,114,111,114]⟩)).setCell ⟨w.heap.size+1+1+1+1,3,none⟩ (.string ⟨#[]⟩)).setCell ⟨w.heap.size+1+1+1+1,4,none⟩ (.int .u64 0)).setCell ⟨w.heap.size+1+1+1+1,5,none⟩ (.int .i64 0)).setCell ⟨w.heap.size+1+1+1+1,6,none⟩ (.slice A6 2 c6))=z2 at *
     obtain ⟨r0,r1,r2,r3,r4,r5⟩:=HG4.out.1.cells (nb:=⟨#[]⟩) (mb:=⟨#[]⟩) rfl rfl
     obtain ⟨q0,q1,q2,q3,q4,q5,q6⟩:=HG4.out.2.1.cells (n:=sType) (m:=[]) (nb:=⟨#[116,121,112,101,95,101,114,114,111,114]⟩) (mb:=⟨#[]⟩) rfl rfl
     refine bodyPost_ret (v:=.tuple #[.agg Qz,.int .i64 0,.agg #[.bool true,.int .i64 5,.string ⟨#[116,121,112,101,95,101,114,114,111,114]⟩,.string ⟨#[]⟩,.int .u64 0,.int .i64 0,.slice A6 2 c6]]) (by simp [results,Tryd.results49,go_sem,r0,r1,r2,r3,r4,r5,q0,q1,q2,q3,q4,q5,q6]) rfl ?_
     rw [←HE.out]
     exact ans_end HPP.out HBv.out ⟨by omega,Nat.lt_succ_of_lt (Nat.lt_succ_self _)⟩ ⟨by omega,Nat.lt_succ_self _⟩ HP0.out.2.2 HG4.out.2.2 (zero_at u6 _) (HTb.out) (by
      show _=Ending.returned (.tuple #[valT (Tm.mk 0 [] [] 0 0 []) (.slice none 0 0),_,badV true (Tm.mk 5 sType [] 0 0 [atomT sList,(Tm.mk k1 n1 m1 b1 v1 ts1)]) (.slice A6 2 c6)])
      rw [valT_mk (nb:=⟨#[]⟩) (mb:=⟨#[]⟩) rfl rfl,badV_mk (n:=sType) (m:=[]) (nb:=⟨#[116,121,112,101,95,101,114,114,111,114]⟩) (mb:=⟨#[]⟩) rfl rfl]
      all_goals rfl)
    case true=>
     obtain ⟨E,hE⟩:∃ E,endT (elems (.mk k1 n1 m1 b1 v1 ts1)).1 (.mk k3 n3 m3 b3 v3 ts3)=E:=⟨_,rfl⟩
     have HEe:=Qh hE
     have HE:=Qh (show okA (eqT (.mk k2 n2 m2 b2 v2 ts2) E) nx=R from by rw [←HE0.out,HBN.out,←hE];rfl)
     clear hE
     obtain ⟨k8,n8,m8,b8,v8,ts8⟩:=E
     obtain ⟨nb8,hnb8⟩:∃ nb:ByteArray,(⟨n8.toArray⟩:ByteArray)=nb:=⟨_,rfl⟩
     obtain ⟨mb8,hmb8⟩:∃ mb:ByteArray,(⟨m8.toArray⟩:ByteArray)=mb:=⟨_,rfl⟩
     obtain ⟨L8,hL8⟩:∃ L,ts8.length=L:=⟨_,rfl⟩
     have HL8:=Qh (Qa hnb8 (Qa hmb8 hL8))
     clear hnb8 hmb8 hL8
     go_upto_region 29 with fail
     have hlo:=Nat.le_trans HW2.out.2 HKu.out.size
     refine wp_region_G (w.heap.size+1+1+1) 9 (by kernel_rfl) (fun v0 KK KG=>?_)
     refine tw 0 KG (v:=?_) (fun w5 hS=>?_) ?_
     case refine_2=>obtain ⟨p0,p1,p2,p3,p4,p5⟩:=((HXt.out _ (HKu.out)).2.1.gro hS (by omega)).cells HM.out.2.2.1 HM.out.2.2.2.1;go_simp;rfl
     refine tw 1 KG (v:=?_) (fun w5 hS=>?_) ?_
     case refine_2=>go_simp;rfl
     refine tw 2 KG (v:=?_) (fun w5 hS=>?_) ?_
     case refine_2=>obtain ⟨q0,q1,q2,q3,q4,q5⟩:=((HXt.out _ (HKu.out)).2.2.1.gro hS (by omega)).cells HM.out.2.2.2.2.1 HM.out.2.2.2.2.2;go_simp;rfl
     refine tw 5 KG (v:=?_) (fun w5 hS=>?_) ?_
     case refine_2=>go_simp;rfl
     refine tw 6 KG (v:=?_) (fun w5 hS=>?_) ?_
     case refine_2=>go_simp;rfl
     have hwv:=Qt HK5.out KK
     have hP5:∀ b,P b→b<u5.heap.size:=fun b hb=>Ql (HPP.out b hb) HK5.out.size
     have hrv:=(HR7.out.1.rowP).below KK (fun b hb=>hb.2)
     have hLi:=Listed_any (c:=c7) (P:=NW P (w.heap.size+1+1+1+1+1) v0) ⟨hrv.1,fun p hp=>(hrv.2.1 p hp).wide (fun b hb=>.inr ⟨by have:=HR7.out.2.2.2;have:=HW2.out.2;omega,Ql hb.2 KK.size⟩),hrv.2.2⟩ (NW.lt (fun b hb=>Ql (hP5 b hb) KK.size)) HR7.out.2.2.1 ((HT.out.2.2.below hwv HPP.out).wide (fun b hb=>.inl hb))
     rw [HR7.out.2.1,HEe.out,valT_mk HM.out.2.2.2.2.1 HM.out.2.2.2.2.2] at hLi
     have HLi:=Qh (fresh_letters HL8.out.1 HL8.out.2.1 HL8.out.2.2 hLi)
     clear hLi hrv hwv hP5
     refine w1 3 fun K hK=>?_
     go_simp
     (with_reducible refine HLi.out.mono ?_)
     rintro e v1x ⟨A8,c8,rfl,hf8,hb⟩
     have K1:=Qt KK hb
     refine hK.out _ _ (fun _=>grown_below K1) ?_
     have HF8:=Qh (show TAtP v1x (NW P (w.heap.size+1+1+1+1+1) v1x) (Tm.mk k8 n8 m8 b8 v8 ts8) (.slice A8 L8 c8) from TAtP.wide hf8 (fun b h=>.inr ⟨by have:=KK.size;have:=h.1;omega,h.2⟩))
     have HK1:=Qh (Qt HK5.out K1)
     clear hf8 hb HLi
     have hPv:∀ b,P b→b<v1x.heap.size:=fun b hb=>Ql ((fun b hb=>Ql (HPP.out b hb) (Nat.le_trans HW2.out.1.size (HKu.out).size)) b hb) (K1).size
     have hfa:TAtP v1x (NW P (w.heap.size+1+1+1+1+1) v1x) (.mk k2 n2 m2 b2 v2 ts2) _:=((HT.out.2.1.below HK1.out HPP.out).wide (fun b hb=>.inl hb))
     have hfb:TAtP v1x (NW P (w.heap.size+1+1+1+1+1) v1x) (Tm.mk k8 n8 m8 b8 v8 ts8) _:=HF8.out
     have hfx:TAtP v1x (NW P (w.heap.size+1+1+1+1+1) v1x) (Tm.mk 0 [] [] 0 0 []) (.slice none 0 0):=zero_at _ _
     have hF:=F2_any hfa hfb (NW.lt hPv) ⟨#[61]⟩ (by decide)
     rw [valT_mk HM.out.2.2.1 HM.out.2.2.2.1,valT_mk HL8.out.1 HL8.out.2.1,show cmpT (⟨#[61]⟩:ByteArray).data.toList [(.mk k2 n2 m2 b2 v2 ts2),(Tm.mk k8 n8 m8 b8 v8 ts8)]=(Tm.mk 5 sEq [] 0 0 [(.mk k2 n2 m2 b2 v2 ts2),(Tm.mk k8 n8 m8 b8 v8 ts8)]) from rfl] at hF
     have HF:=Qh hF
     clear hF
     refine w1 4 fun K hK=>?_
     go_simp
     (with_reducible refine HF.out.mono ?_)
     rintro e vF ⟨A10,c10,rfl,ht,hb⟩
     have KV:=(K1).trans (hb.mono (K1).size)
     have htg:TAtP vF (NW P (w.heap.size+1+1+1+1+1) vF) (Tm.mk 5 sEq [] 0 0 [(.mk k2 n2 m2 b2 v2 ts2),(Tm.mk k8 n8 m8 b8 v8 ts8)]) (.slice A10 2 c10):=ht.wide (fun b h2=>by
      have e1:=(K1).size
      have e2:=hb.size
      have e3:=(HKu.out).size
      have e4:=HW2.out.2
      rcases h2 with (h | h) | h
      ·exact .inl h
      ·exact .inr ⟨h.1,by omega⟩
      ·exact .inr ⟨by omega,h.2⟩)
     have htx:=NW.keep hfx hb hPv
     have KW:=(HKu.out).trans (KV.mono (HKu.out).size)
     refine hK.out _ _ (fun _=>grown_below KV) ?_
     clear ht hb HF hfa hfb hfx
     refine stT (i:=7) (t:=(Tm.mk 5 sEq [] 0 0 [(.mk k2 n2 m2 b2 v2 ts2),(Tm.mk k8 n8 m8 b8 v8 ts8)])) (by kernel_rfl) rfl (by kernel_rfl) rfl rfl (by kernel_rfl) (.trans (by kernel_rfl) (valT_mk (sl:=.slice A10 2 c10) (n:=sEq) (m:=[]) (nb:=⟨#[61]⟩) (mb:=⟨#[]⟩) rfl rfl).symm) ((HXt.out _ (KW)).2.2.2.1) (fun x1 hT5 g5=>⟨fun _=>grown_trans (grown_below KV) g5,?_⟩)
     refine w1 8 fun K hK=>?_
     go_simp
     refine hK.out _ _ (fun _=>grown_trans (grown_below KV) g5) ?_
     refine stB (i:=9) (j:=false) (t:=(Tm.mk 0 [] [] 0 0 [])) (by kernel_rfl) rfl (by kernel_rfl) rfl rfl (by kernel_rfl) (.trans (by kernel_rfl) (badV_mk (i:=false) (sl:=.slice none 0 0) (nb:=⟨#[]⟩) (mb:=⟨#[]⟩) rfl rfl).symm) (BBox.gro ((HXt.out _ (KW)).2.2.2.2.1) g5 (by omega)) (fun x2 hB6 g6=>⟨fun h=>absurd h (by simp),?_⟩)
     refine wpAnyW_done (by kernel_rfl) ?_ _
     go_wp2
     have hcc:=(hT5.gro g6 (by omega)).cells (n:=sEq) (m:=[]) (nb:=⟨#[61]⟩) (mb:=⟨#[]⟩) rfl rfl
     have a0:=hcc.1
     have a1:=hcc.2.1
     have a2:=hcc.2.2.1
     have a3:=hcc.2.2.2.1
     have a4:=hcc.2.2.2.2.1
     have a5:=hcc.2.2.2.2.2
     clear hcc
     have hcc:=hB6.cells (nb:=⟨#[]⟩) (mb:=⟨#[]⟩) rfl rfl
     have s0:=hcc.1
     have s1:=hcc.2.1
     have s2:=hcc.2.2.1
     have s3:=hcc.2.2.2.1
     have s4:=hcc.2.2.2.2.1
     have s5:=hcc.2.2.2.2.2.1
     have s6:=hcc.2.2.2.2.2.2
     clear hcc
     refine bodyPost_ret (v:=.tuple #[.agg (Qn 5 ⟨#[61]⟩ (.slice A10 2 c10)),.int .i64 nx,.agg #[.bool false,.int .i64 0,.string ⟨#[]⟩,.string ⟨#[]⟩,.int .u64 0,.int .i64 0,.slice none 0 0]]) (by simp [results,Tryd.results49,go_sem,a0,a1,a2,a3,a4,a5,s0,s1,s2,s3,s4,s5,s6]) rfl ?_
     rw [←HE.out]
     exact ans_end HPP.out (Qt HW2.out.1 KW) ⟨by omega,Nat.lt_succ_of_lt (Nat.lt_succ_self _)⟩ ⟨by omega,Nat.lt_succ_self _⟩ g5 g6 htg htx (by
      show _=Ending.returned (.tuple #[valT (Tm.mk 5 sEq [] 0 0 [(.mk k2 n2 m2 b2 v2 ts2),(Tm.mk k8 n8 m8 b8 v8 ts8)]) (.slice A10 2 c10),_,badV false (Tm.mk 0 [] [] 0 0 []) (.slice none 0 0)])
      rw [valT_mk (n:=sEq) (m:=[]) (nb:=⟨#[61]⟩) (mb:=⟨#[]⟩) rfl rfl,badV_mk (nb:=⟨#[]⟩) (mb:=⟨#[]⟩) rfl rfl]
      all_goals rfl)
   | false=>
    by_cases hS1:k1=2∧n1=sCut
    ·have hS:=hS1
     clear hS1
     obtain ⟨rfl,rfl⟩:=hS
     obtain rfl:nb1=⟨#[33]⟩:=(HM.out.1).symm
     clear hk
     have HE:=Qh (show okA (cmpT sComma [(Tm.mk 2 sCut m1 b1 v1 ts1),(eqT (.mk k2 n2 m2 b2 v2 ts2) (.mk k3 n3 m3 b3 v3 ts3))]) nx=R from by rw [←HR0.out,ansM_cut])
     go_upto_region 22 with (first
      | (go_at_call 42;(with_reducible refine (HI0.out _).mono ?_);rintro e u4 ⟨rfl,hb⟩;replace KM:=Qh (Qt KM.out hb);clear x0 x1 x2 x3 x4 x5;obtain ⟨x0,x1,x2,x3,x4,x5⟩:=(HXt.out _ KM.out).1.cells HM.out.1 HM.out.2.1;clear hb)
      | (go_at_call 42;(with_reducible refine (HI1.out _).mono ?_);rintro e u4 ⟨rfl,hb⟩;replace KM:=Qh (Qt KM.out hb);clear x0 x1 x2 x3 x4 x5;obtain ⟨x0,x1,x2,x3,x4,x5⟩:=(HXt.out _ KM.out).1.cells HM.out.1 HM.out.2.1;clear hb)
      | (go_at_call 42;(with_reducible refine (HI2.out _).mono ?_);rintro e u4 ⟨rfl,hb⟩;replace KM:=Qh (Qt KM.out hb);clear x0 x1 x2 x3 x4 x5;obtain ⟨x0,x1,x2,x3,x4,x5⟩:=(HXt.out _ KM.out).1.cells HM.out.1 HM.out.2.1;clear hb)
      | (go_at_call 42;(with_reducible refine (HI3.out _).mono ?_);rintro e u4 ⟨rfl,hb⟩;replace KM:=Qh (Qt KM.out hb);clear x0 x1 x2 x3 x4 x5;obtain ⟨x0,x1,x2,x3,x4,x5⟩:=(HXt.out _ KM.out).1.cells HM.out.1 HM.out.2.1;clear hb)
      | (go_at_call 42;(with_reducible refine (HI4.out _).mono ?_);rintro e u4 ⟨rfl,hb⟩;replace KM:=Qh (Qt KM.out hb);clear x0 x1 x2 x3 x4 x5;obtain ⟨x0,x1,x2,x3,x4,x5⟩:=(HXt.out _ KM.out).1.cells HM.out.1 HM.out.2.1;clear hb)
      | (go_at_call 42;(with_reducible refine (HI5.out _).mono ?_);rintro e u4 ⟨rfl,hb⟩;replace KM:=Qh (Qt KM.out hb);clear x0 x1 x2 x3 x4 x5;obtain ⟨x0,x1,x2,x3,x4,x5⟩:=(HXt.out _ KM.out).1.cells HM.out.1 HM.out.2.1;clear hb))
     obtain ⟨p0,p1,p2,p3,p4,p5⟩:=(HXt.out _ KM.out).2.2.2.2.2.cells (nb:=⟨#[61]⟩) (mb:=⟨#[]⟩) rfl rfl
     have HTe:=Qh (show TAtP u4 (fun b=>P b∨(w.heap.size+1+1+1+1<b∧b<u4.heap.size)) (eqT (.mk k2 n2 m2 b2 v2 ts2) (.mk k3 n3 m3 b3 v3 ts3)) (.slice A5 2 c5) from TAtP.keep _ HU.out.2.2.1 (fun b h=>by
      have h1:=HW2.out
      have h2:=(KM.out).size
      have h3:=h1.1.size
      have hlt:b<u2.heap.size:=by
       rcases h with h | h
       ·have:=HPP.out b h;omega
       ·exact h.2
      refine ⟨?_,(KM.out).block b hlt⟩
      rcases h with h | h
      ·exact .inl h
      ·exact .inr ⟨by omega,by omega⟩))
     have hF:=F2_any (P:=fun b=>P b∨(w.heap.size+1+1+1+1<b∧b<u4.heap.size)) ((HT.out.1.below (Qt HW2.out.1 KM.out) HPP.out).wide (fun b hb=>.inl hb)) HTe.out (fun b hb=>by
      have h1:=HW2.out.1.size
      have h2:=(KM.out).size
      rcases hb with hb | hb
      ·have:=HPP.out b hb;omega
      ·exact hb.2) ⟨#[44]⟩ (by decide)
     rw [valT_mk HM.out.1 HM.out.2.1,show valT (eqT (.mk k2 n2 m2 b2 v2 ts2) (.mk k3 n3 m3 b3 v3 ts3)) (.slice A5 2 c5) = .agg (Qn 5 ⟨#[61]⟩ (.slice A5 2 c5)) from rfl,show cmpT (⟨#[44]⟩:ByteArray).data.toList [(Tm.mk 2 sCut m1 b1 v1 ts1),(eqT (.mk k2 n2 m2 b2 v2 ts2) (.mk k3 n3 m3 b3 v3 ts3))]=(Tm.mk 5 sComma [] 0 0 [(Tm.mk 2 sCut m1 b1 v1 ts1),(eqT (.mk k2 n2 m2 b2 v2 ts2) (.mk k3 n3 m3 b3 v3 ts3))]) from rfl] at hF
     have HF:=Qh hF
     clear hF
     go_wp2_with fail
     (with_reducible refine HF.out.mono ?_)
     rintro e u5 ⟨A6,c6,rfl,ht,hb⟩
     have HKu:=Qh ((KM.out).trans (hb.mono (KM.out).size))
     have HTg:=Qh (show TAtP u5 (fun b=>P b∨(w.heap.size+1+1+1+1<b∧b<u5.heap.size)) (Tm.mk 5 sComma [] 0 0 [(Tm.mk 2 sCut m1 b1 v1 ts1),(eqT (.mk k2 n2 m2 b2 v2 ts2) (.mk k3 n3 m3 b3 v3 ts3))]) (.slice A6 2 c6) from ht.wide (fun b h=>by
      have h1:=HW2.out.2
      have h2:=(KM.out).size
      have h3:=hb.size
      rcases h with (h | h) | h
      ·exact .inl h
      ·exact .inr ⟨h.1,by omega⟩
      ·exact .inr ⟨by omega,h.2⟩))
     clear ht hb HF
     have HT3v:=Qh (HXt.out _ HKu.out).2.2.2.1
     have HB4v:=Qh (HXt.out _ HKu.out).2.2.2.2.1
     have HBv:=Qh (Qt HW2.out.1 HKu.out)
     have HLo:=Qh (show w.heap.size+1+1+1+1+1≤u5.heap.size from Nat.le_trans HW2.out.2 HKu.out.size)
     obtain ⟨a0,a1,a2,a3,a4,a5⟩:=HT3v.out.cells rfl rfl
     obtain ⟨f0,f1,f2,f3,f4,f5⟩:=HT3v.out.frozens
     obtain ⟨hbx,hgr⟩:=HT3v.out.set6 (k:=5) (b:=0) (v:=0) (n:=sComma) (m:=[]) [(Tm.mk 2 sCut m1 b1 v1 ts1),(eqT (.mk k2 n2 m2 b2 v2 ts2) (.mk k3 n3 m3 b3 v3 ts3))] (.slice A6 2 c6) (nb:=⟨#[44]⟩) (mb:=⟨#[]⟩) rfl rfl
     have hB6:=HB4v.out.gro hgr (by omega)
     obtain ⟨g0,g1,g2,g3,g4,g5,g6⟩:=hB6.cells rfl rfl
     obtain ⟨e0,e1,e2,e3,e4,e5,e6⟩:=hB6.frozens
     have HP0:=Qh (Qa hbx (Qa hB6 hgr))
     clear hbx hB6 hgr
     go_wp2
     clear a0 a1 a2 a3 a4 a5 f0 f1 f2 f3 f4 f5 g0 g1 g2 g3 g4 g5 g6 e0 e1 e2 e3 e4 e5 e6
     generalize ((((((u5.setCell ⟨w.heap.size+1+1+1,0,none⟩ (.int .i64 5)).setCell ⟨w.heap.size+1+1+1,1,none⟩ (.string ⟨#[44]⟩)).setCell ⟨w.heap.size+1+1+1,2,none⟩ (.string ⟨#[]⟩)).setCell ⟨w.heap.size+1+1+1,3,none⟩ (.int .u64 0)).setCell ⟨w.heap.size+1+1+1,4,none⟩ (.int .i64 0)).setCell ⟨w.heap.size+1+1+1,5,none⟩ (.slice A6 2 c6))=z1 at *
     obtain ⟨hbx,hgr⟩:=HP0.out.2.1.set7 false (k:=0) (b:=0) (v:=0) (n:=[]) (m:=[]) [] (.slice none 0 0) (nb:=⟨#[]⟩) (mb:=⟨#[]⟩) rfl rfl
     have HG4:=Qh (Qa (HP0.out.1.gro hgr (by omega)) (Qa hbx hgr))
     clear hbx hgr
     generalize (((((((z1.setCell ⟨w.heap.size+1+1+1+1,0,none⟩ (.bool false)).setCell ⟨w.heap.size+1+1+1+1,1,none⟩ (.int .i64 0)).setCell ⟨w.heap.size+1+1+1+1,2,none⟩ (.string ⟨#[]⟩)).setCell ⟨w.heap.size+1+1+1+1,3,none⟩ (.string ⟨#[]⟩)).setCell ⟨w.heap.size+1+1+1+1,4,none⟩ (.int .u64 0)).setCell ⟨w.heap.size+1+1+1+1,5,none⟩ (.int .i64 0)).setCell ⟨w.heap.size+1+1+1+1,6,none⟩ (.slice none 0 0))=z2 at *
     obtain ⟨r0,r1,r2,r3,r4,r5⟩:=HG4.out.1.cells (n:=sComma) (m:=[]) (nb:=⟨#[44]⟩) (mb:=⟨#[]⟩) rfl rfl
     obtain ⟨q0,q1,q2,q3,q4,q5,q6⟩:=HG4.out.2.1.cells (nb:=⟨#[]⟩) (mb:=⟨#[]⟩) rfl rfl
     refine bodyPost_ret (v:=.tuple #[.agg (Qn 5 ⟨#[44]⟩ (.slice A6 2 c6)),.int .i64 nx,.agg #[.bool false,.int .i64 0,.string ⟨#[]⟩,.string ⟨#[]⟩,.int .u64 0,.int .i64 0,.slice none 0 0]]) (by simp [results,Tryd.results49,go_sem,r0,r1,r2,r3,r4,r5,q0,q1,q2,q3,q4,q5,q6]) rfl ?_
     rw [←HE.out]
     exact ans_end HPP.out HBv.out ⟨by omega,Nat.lt_succ_of_lt (Nat.lt_succ_self _)⟩ ⟨by omega,Nat.lt_succ_self _⟩ HP0.out.2.2 HG4.out.2.2 (HTg.out) (zero_at u5 _) (by
      show _=Ending.returned (.tuple #[valT (Tm.mk 5 sComma [] 0 0 [(Tm.mk 2 sCut m1 b1 v1 ts1),(eqT (.mk k2 n2 m2 b2 v2 ts2) (.mk k3 n3 m3 b3 v3 ts3))]) (.slice A6 2 c6),_,badV false (Tm.mk 0 [] [] 0 0 []) (.slice none 0 0)])
      rw [valT_mk (n:=sComma) (m:=[]) (nb:=⟨#[44]⟩) (mb:=⟨#[]⟩) rfl rfl,badV_mk (nb:=⟨#[]⟩) (mb:=⟨#[]⟩) rfl rfl]
      all_goals rfl)
    by_cases hS2:k1=2∧n1=sNil
    ·have hS:=hS2
     clear hS2 hS1
     obtain ⟨rfl,rfl⟩:=hS
     obtain rfl:nb1=⟨#[91,93]⟩:=(HM.out.1).symm
     clear hk
     have HE:=Qh (show okA (eqT (.mk k2 n2 m2 b2 v2 ts2) (.mk k3 n3 m3 b3 v3 ts3)) nx=R from by rw [←HR0.out,ansM_nil])
     go_upto_region 24 with (first
      | (go_at_call 42;(with_reducible refine (HI0.out _).mono ?_);rintro e u4 ⟨rfl,hb⟩;replace KM:=Qh (Qt KM.out hb);clear x0 x1 x2 x3 x4 x5;obtain ⟨x0,x1,x2,x3,x4,x5⟩:=(HXt.out _ KM.out).1.cells HM.out.1 HM.out.2.1;clear hb)
      | (go_at_call 42;(with_reducible refine (HI1.out _).mono ?_);rintro e u4 ⟨rfl,hb⟩;replace KM:=Qh (Qt KM.out hb);clear x0 x1 x2 x3 x4 x5;obtain ⟨x0,x1,x2,x3,x4,x5⟩:=(HXt.out _ KM.out).1.cells HM.out.1 HM.out.2.1;clear hb)
      | (go_at_call 42;(with_reducible refine (HI2.out _).mono ?_);rintro e u4 ⟨rfl,hb⟩;replace KM:=Qh (Qt KM.out hb);clear x0 x1 x2 x3 x4 x5;obtain ⟨x0,x1,x2,x3,x4,x5⟩:=(HXt.out _ KM.out).1.cells HM.out.1 HM.out.2.1;clear hb)
      | (go_at_call 42;(with_reducible refine (HI3.out _).mono ?_);rintro e u4 ⟨rfl,hb⟩;replace KM:=Qh (Qt KM.out hb);clear x0 x1 x2 x3 x4 x5;obtain ⟨x0,x1,x2,x3,x4,x5⟩:=(HXt.out _ KM.out).1.cells HM.out.1 HM.out.2.1;clear hb)
      | (go_at_call 42;(with_reducible refine (HI4.out _).mono ?_);rintro e u4 ⟨rfl,hb⟩;replace KM:=Qh (Qt KM.out hb);clear x0 x1 x2 x3 x4 x5;obtain ⟨x0,x1,x2,x3,x4,x5⟩:=(HXt.out _ KM.out).1.cells HM.out.1 HM.out.2.1;clear hb)
      | (go_at_call 42;(with_reducible refine (HI5.out _).mono ?_);rintro e u4 ⟨rfl,hb⟩;replace KM:=Qh (Qt KM.out hb);clear x0 x1 x2 x3 x4 x5;obtain ⟨x0,x1,x2,x3,x4,x5⟩:=(HXt.out _ KM.out).1.cells HM.out.1 HM.out.2.1;clear hb))
     obtain ⟨p0,p1,p2,p3,p4,p5⟩:=(HXt.out _ KM.out).2.2.2.2.2.cells (nb:=⟨#[61]⟩) (mb:=⟨#[]⟩) rfl rfl
     have HKu:=Qh KM.out
     have HTg:=Qh (show TAtP u4 (fun b=>P b∨(w.heap.size+1+1+1+1<b∧b<u4.heap.size)) (eqT (.mk k2 n2 m2 b2 v2 ts2) (.mk k3 n3 m3 b3 v3 ts3)) (.slice A5 2 c5) from TAtP.keep _ HU.out.2.2.1 (fun b h=>by
      have h1:=HW2.out
      have h2:=(KM.out).size
      have h3:=h1.1.size
      have hlt:b<u2.heap.size:=by
       rcases h with h | h
       ·have:=HPP.out b h;omega
       ·exact h.2
      refine ⟨?_,(KM.out).block b hlt⟩
      rcases h with h | h
      ·exact .inl h
      ·exact .inr ⟨by omega,by omega⟩))
     clear x0 x1 x2 x3 x4 x5
     have HT3v:=Qh (HXt.out _ HKu.out).2.2.2.1
     have HB4v:=Qh (HXt.out _ HKu.out).2.2.2.2.1
     have HBv:=Qh (Qt HW2.out.1 HKu.out)
     have HLo:=Qh (show w.heap.size+1+1+1+1+1≤u4.heap.size from Nat.le_trans HW2.out.2 HKu.out.size)
     obtain ⟨a0,a1,a2,a3,a4,a5⟩:=HT3v.out.cells rfl rfl
     obtain ⟨f0,f1,f2,f3,f4,f5⟩:=HT3v.out.frozens
     obtain ⟨hbx,hgr⟩:=HT3v.out.set6 (k:=5) (b:=0) (v:=0) (n:=sEq) (m:=[]) [(Tm.mk k2 n2 m2 b2 v2 ts2),(Tm.mk k3 n3 m3 b3 v3 ts3)] (.slice A5 2 c5) (nb:=⟨#[61]⟩) (mb:=⟨#[]⟩) rfl rfl
     have hB6:=HB4v.out.gro hgr (by omega)
     obtain ⟨g0,g1,g2,g3,g4,g5,g6⟩:=hB6.cells rfl rfl
     obtain ⟨e0,e1,e2,e3,e4,e5,e6⟩:=hB6.frozens
     have HP0:=Qh (Qa hbx (Qa hB6 hgr))
     clear hbx hB6 hgr
     go_wp2
     clear a0 a1 a2 a3 a4 a5 f0 f1 f2 f3 f4 f5 g0 g1 g2 g3 g4 g5 g6 e0 e1 e2 e3 e4 e5 e6
     generalize ((((((u4.setCell ⟨w.heap.size+1+1+1,0,none⟩ (.int .i64 5)).setCell ⟨w.heap.size+1+1+1,1,none⟩ (.string ⟨#[61]⟩)).setCell ⟨w.heap.size+1+1+1,2,none⟩ (.string ⟨#[]⟩)).setCell ⟨w.heap.size+1+1+1,3,none⟩ (.int .u64 0)).setCell ⟨w.heap.size+1+1+1,4,none⟩ (.int .i64 0)).setCell ⟨w.heap.size+1+1+1,5,none⟩ (.slice A5 2 c5))=z1 at *
     obtain ⟨hbx,hgr⟩:=HP0.out.2.1.set7 false (k:=0) (b:=0) (v:=0) (n:=[]) (m:=[]) [] (.slice none 0 0) (nb:=⟨#[]⟩) (mb:=⟨#[]⟩) rfl rfl
     have HG4:=Qh (Qa (HP0.out.1.gro hgr (by omega)) (Qa hbx hgr))
     clear hbx hgr
     generalize (((((((z1.setCell ⟨w.heap.size+1+1+1+1,0,none⟩ (.bool false)).setCell ⟨w.heap.size+1+1+1+1,1,none⟩ (.int .i64 0)).setCell ⟨w.heap.size+1+1+1+1,2,none⟩ (.string ⟨#[]⟩)).setCell ⟨w.heap.size+1+1+1+1,3,none⟩ (.string ⟨#[]⟩)).setCell ⟨w.heap.size+1+1+1+1,4,none⟩ (.int .u64 0)).setCell ⟨w.heap.size+1+1+1+1,5,none⟩ (.int .i64 0)).setCell ⟨w.heap.size+1+1+1+1,6,none⟩ (.slice none 0 0))=z2 at *
     obtain ⟨r0,r1,r2,r3,r4,r5⟩:=HG4.out.1.cells (n:=sEq) (m:=[]) (nb:=⟨#[61]⟩) (mb:=⟨#[]⟩) rfl rfl
     obtain ⟨q0,q1,q2,q3,q4,q5,q6⟩:=HG4.out.2.1.cells (nb:=⟨#[]⟩) (mb:=⟨#[]⟩) rfl rfl
     refine bodyPost_ret (v:=.tuple #[.agg (Qn 5 ⟨#[61]⟩ (.slice A5 2 c5)),.int .i64 nx,.agg #[.bool false,.int .i64 0,.string ⟨#[]⟩,.string ⟨#[]⟩,.int .u64 0,.int .i64 0,.slice none 0 0]]) (by simp [results,Tryd.results49,go_sem,r0,r1,r2,r3,r4,r5,q0,q1,q2,q3,q4,q5,q6]) rfl ?_
     rw [←HE.out]
     exact ans_end HPP.out HBv.out ⟨by omega,Nat.lt_succ_of_lt (Nat.lt_succ_self _)⟩ ⟨by omega,Nat.lt_succ_self _⟩ HP0.out.2.2 HG4.out.2.2 (HTg.out) (zero_at u4 _) (by
      show _=Ending.returned (.tuple #[valT (Tm.mk 5 sEq [] 0 0 [(.mk k2 n2 m2 b2 v2 ts2),(.mk k3 n3 m3 b3 v3 ts3)]) (.slice A5 2 c5),_,badV false (Tm.mk 0 [] [] 0 0 []) (.slice none 0 0)])
      rw [valT_mk (n:=sEq) (m:=[]) (nb:=⟨#[61]⟩) (mb:=⟨#[]⟩) rfl rfl,badV_mk (nb:=⟨#[]⟩) (mb:=⟨#[]⟩) rfl rfl]
      all_goals rfl)
    by_cases hS3:k1=2∧n1=sCurly
    ·have hS:=hS3
     clear hS3 hS1 hS2
     obtain ⟨rfl,rfl⟩:=hS
     obtain rfl:nb1=⟨#[123,125]⟩:=(HM.out.1).symm
     clear hk
     have HE:=Qh (show okA (cmpT sComma [atomT sTrue,(eqT (.mk k2 n2 m2 b2 v2 ts2) (.mk k3 n3 m3 b3 v3 ts3))]) nx=R from by rw [←HR0.out,ansM_tru])
     go_upto_region 20 with (first
      | (go_at_call 42;(with_reducible refine (HI0.out _).mono ?_);rintro e u4 ⟨rfl,hb⟩;replace KM:=Qh (Qt KM.out hb);clear x0 x1 x2 x3 x4 x5;obtain ⟨x0,x1,x2,x3,x4,x5⟩:=(HXt.out _ KM.out).1.cells HM.out.1 HM.out.2.1;clear hb)
      | (go_at_call 42;(with_reducible refine (HI1.out _).mono ?_);rintro e u4 ⟨rfl,hb⟩;replace KM:=Qh (Qt KM.out hb);clear x0 x1 x2 x3 x4 x5;obtain ⟨x0,x1,x2,x3,x4,x5⟩:=(HXt.out _ KM.out).1.cells HM.out.1 HM.out.2.1;clear hb)
      | (go_at_call 42;(with_reducible refine (HI2.out _).mono ?_);rintro e u4 ⟨rfl,hb⟩;replace KM:=Qh (Qt KM.out hb);clear x0 x1 x2 x3 x4 x5;obtain ⟨x0,x1,x2,x3,x4,x5⟩:=(HXt.out _ KM.out).1.cells HM.out.1 HM.out.2.1;clear hb)
      | (go_at_call 42;(with_reducible refine (HI3.out _).mono ?_);rintro e u4 ⟨rfl,hb⟩;replace KM:=Qh (Qt KM.out hb);clear x0 x1 x2 x3 x4 x5;obtain ⟨x0,x1,x2,x3,x4,x5⟩:=(HXt.out _ KM.out).1.cells HM.out.1 HM.out.2.1;clear hb)
      | (go_at_call 42;(with_reducible refine (HI4.out _).mono ?_);rintro e u4 ⟨rfl,hb⟩;replace KM:=Qh (Qt KM.out hb);clear x0 x1 x2 x3 x4 x5;obtain ⟨x0,x1,x2,x3,x4,x5⟩:=(HXt.out _ KM.out).1.cells HM.out.1 HM.out.2.1;clear hb)
      | (go_at_call 42;(with_reducible refine (HI5.out _).mono ?_);rintro e u4 ⟨rfl,hb⟩;replace KM:=Qh (Qt KM.out hb);clear x0 x1 x2 x3 x4 x5;obtain ⟨x0,x1,x2,x3,x4,x5⟩:=(HXt.out _ KM.out).1.cells HM.out.1 HM.out.2.1;clear hb))
     have hG:=HU.out.2.2.2
     refine wp_region_G (w.heap.size+1+1+1) 7 (by kernel_rfl) (fun v0 KK KG=>?_)
     refine tw 1 KG (v:=?_) (fun w5 hS=>?_) ?_
     case refine_2=>obtain ⟨r0,r1,r2,r3,r4,r5⟩:=((HXt.out _ (KM.out)).2.2.2.2.2.gro hS (by omega)).cells (nb:=⟨#[61]⟩) (mb:=⟨#[]⟩) rfl rfl;go_simp;rfl
     refine tw 3 KG (v:=?_) (fun w5 hS=>?_) ?_
     case refine_2=>go_simp;rfl
     refine tw 4 KG (v:=?_) (fun w5 hS=>?_) ?_
     case refine_2=>go_simp;rfl
     refine w1 0 fun K hK=>?_
     go_simp
     (with_reducible refine (A_any _ _).mono ?_)
     rintro e v1x ⟨rfl,hb⟩
     have K1:=Qt KK hb
     refine hK.out _ _ (fun _=>grown_below K1) ?_
     clear hb
     have hPv:∀ b,P b→b<v1x.heap.size:=fun b hb=>Ql ((fun b hb=>Ql (HPP.out b hb) (Nat.le_trans HW2.out.1.size (KM.out).size)) b hb) (K1).size
     have hfa:TAtP v1x (NW P (w.heap.size+1+1+1+1+1) v1x) (atomT sTrue) _:=atom_at v1x _ (by decide)
     have hfb:TAtP v1x (NW P (w.heap.size+1+1+1+1+1) v1x) (eqT (.mk k2 n2 m2 b2 v2 ts2) (.mk k3 n3 m3 b3 v3 ts3)) _:=NW.keep (show TAtP u2 (NW P (w.heap.size+1+1+1+1+1) u2) (eqT (.mk k2 n2 m2 b2 v2 ts2) (.mk k3 n3 m3 b3 v3 ts3)) (.slice A5 2 c5) from HU.out.2.2.1) (Qt KM.out K1) (fun b hb=>Ql (HPP.out b hb) HW2.out.1.size)
     have hfx:TAtP v1x (NW P (w.heap.size+1+1+1+1+1) v1x) (Tm.mk 0 [] [] 0 0 []) (.slice none 0 0):=zero_at _ _
     have hF:=F2_any hfa hfb (NW.lt hPv) ⟨#[44]⟩ (by decide)
     rw [show valT (atomT sTrue) (.slice none 0 0) = .agg (Qn 2 ⟨#[116,114,117,101]⟩ (.slice none 0 0)) from rfl,show valT (eqT (.mk k2 n2 m2 b2 v2 ts2) (.mk k3 n3 m3 b3 v3 ts3)) (.slice A5 2 c5) = .agg (Qn 5 ⟨#[61]⟩ (.slice A5 2 c5)) from rfl,show cmpT (⟨#[44]⟩:ByteArray).data.toList [(atomT sTrue),(eqT (.mk k2 n2 m2 b2 v2 ts2) (.mk k3 n3 m3 b3 v3 ts3))]=(Tm.mk 5 sComma [] 0 0 [(atomT sTrue),(eqT (.mk k2 n2 m2 b2 v2 ts2) (.mk k3 n3 m3 b3 v3 ts3))]) from rfl] at hF
     have HF:=Qh hF
     clear hF
     refine w1 2 fun K hK=>?_
     go_simp
     (with_reducible refine HF.out.mono ?_)
     rintro e vF ⟨A10,c10,rfl,ht,hb⟩
     have KV:=(K1).trans (hb.mono (K1).size)
     have htg:TAtP vF (NW P (w.heap.size+1+1+1+1+1) vF) (Tm.mk 5 sComma [] 0 0 [(atomT sTrue),(eqT (.mk k2 n2 m2 b2 v2 ts2) (.mk k3 n3 m3 b3 v3 ts3))]) (.slice A10 2 c10):=ht.wide (fun b h2=>by
      have e1:=(K1).size
      have e2:=hb.size
      have e3:=(KM.out).size
      have e4:=HW2.out.2
      rcases h2 with (h | h) | h
      ·exact .inl h
      ·exact .inr ⟨h.1,by omega⟩
      ·exact .inr ⟨by omega,h.2⟩)
     have htx:=NW.keep hfx hb hPv
     have KW:=(KM.out).trans (KV.mono (KM.out).size)
     refine hK.out _ _ (fun _=>grown_below KV) ?_
     clear ht hb HF hfa hfb hfx
     refine stT (i:=5) (t:=(Tm.mk 5 sComma [] 0 0 [(atomT sTrue),(eqT (.mk k2 n2 m2 b2 v2 ts2) (.mk k3 n3 m3 b3 v3 ts3))])) (by kernel_rfl) rfl (by kernel_rfl) rfl rfl (by kernel_rfl) (.trans (by kernel_rfl) (valT_mk (sl:=.slice A10 2 c10) (n:=sComma) (m:=[]) (nb:=⟨#[44]⟩) (mb:=⟨#[]⟩) rfl rfl).symm) ((HXt.out _ (KW)).2.2.2.1) (fun x1 hT5 g5=>⟨fun _=>grown_trans (grown_below KV) g5,?_⟩)
     refine w1 6 fun K hK=>?_
     go_simp
     refine hK.out _ _ (fun _=>grown_trans (grown_below KV) g5) ?_
     refine stB (i:=7) (j:=false) (t:=(Tm.mk 0 [] [] 0 0 [])) (by kernel_rfl) rfl (by kernel_rfl) rfl rfl (by kernel_rfl) (.trans (by kernel_rfl) (badV_mk (i:=false) (sl:=.slice none 0 0) (nb:=⟨#[]⟩) (mb:=⟨#[]⟩) rfl rfl).symm) (BBox.gro ((HXt.out _ (KW)).2.2.2.2.1) g5 (by omega)) (fun x2 hB6 g6=>⟨fun h=>absurd h (by simp),?_⟩)
     refine wpAnyW_done (by kernel_rfl) ?_ _
     go_wp2
     have hcc:=(hT5.gro g6 (by omega)).cells (n:=sComma) (m:=[]) (nb:=⟨#[44]⟩) (mb:=⟨#[]⟩) rfl rfl
     have a0:=hcc.1
     have a1:=hcc.2.1
     have a2:=hcc.2.2.1
     have a3:=hcc.2.2.2.1
     have a4:=hcc.2.2.2.2.1
     have a5:=hcc.2.2.2.2.2
     clear hcc
     have hcc:=hB6.cells (nb:=⟨#[]⟩) (mb:=⟨#[]⟩) rfl rfl
     have s0:=hcc.1
     have s1:=hcc.2.1
     have s2:=hcc.2.2.1
     have s3:=hcc.2.2.2.1
     have s4:=hcc.2.2.2.2.1
     have s5:=hcc.2.2.2.2.2.1
     have s6:=hcc.2.2.2.2.2.2
     clear hcc
     refine bodyPost_ret (v:=.tuple #[.agg (Qn 5 ⟨#[44]⟩ (.slice A10 2 c10)),.int .i64 nx,.agg #[.bool false,.int .i64 0,.string ⟨#[]⟩,.string ⟨#[]⟩,.int .u64 0,.int .i64 0,.slice none 0 0]]) (by simp [results,Tryd.results49,go_sem,a0,a1,a2,a3,a4,a5,s0,s1,s2,s3,s4,s5,s6]) rfl ?_
     rw [←HE.out]
     exact ans_end HPP.out (Qt HW2.out.1 KW) ⟨by omega,Nat.lt_succ_of_lt (Nat.lt_succ_self _)⟩ ⟨by omega,Nat.lt_succ_self _⟩ g5 g6 htg htx (by
      show _=Ending.returned (.tuple #[valT (Tm.mk 5 sComma [] 0 0 [(atomT sTrue),(eqT (.mk k2 n2 m2 b2 v2 ts2) (.mk k3 n3 m3 b3 v3 ts3))]) (.slice A10 2 c10),_,badV false (Tm.mk 0 [] [] 0 0 []) (.slice none 0 0)])
      rw [valT_mk (n:=sComma) (m:=[]) (nb:=⟨#[44]⟩) (mb:=⟨#[]⟩) rfl rfl,badV_mk (nb:=⟨#[]⟩) (mb:=⟨#[]⟩) rfl rfl]
      all_goals rfl)
    have HFin:(((k1==2)=true∧(nb1.toList == [123,125])=false∧(nb1.toList == [33])=false∧(nb1.toList == [91,93])=false)∨(k1==2)=false)∧putA (.mk k1 n1 m1 b1 v1 ts1) (.mk k2 n2 m2 b2 v2 ts2) (.mk k3 n3 m3 b3 v3 ts3) nx=R:=by
     by_cases hk2:k1=2
     ·have hnl:nb1.toList=n1:=by rw [ByteArray.toList_eq,←HM.out.1]
      have hn3:n1≠sCurly:=fun e=>hS3 ⟨hk2,e⟩
      have hn1:n1≠sCut:=fun e=>hS1 ⟨hk2,e⟩
      have hn2:n1≠sNil:=fun e=>hS2 ⟨hk2,e⟩
      rw [hnl,←HR0.out]
      subst hk2
      exact ⟨.inl ⟨rfl,beq_eq_false_iff_ne.2 hn3,beq_eq_false_iff_ne.2 hn1,beq_eq_false_iff_ne.2 hn2⟩,(ansM_atom hn3 hn1 hn2).symm⟩
     ·refine ⟨.inr (beq_eq_false_iff_ne.2 hk2),?_⟩
      rw [←HR0.out]
      have h0:=HC0.out
      have h1:=HC1.out
      have h2:=HC2.out
      have h3:=HC3.out
      have h4:=HC4.out
      have h5:=HC5.out
      have h6:=HC6.out
      clear HI0 HI1 HI2 HI3 HI4 HI5 HI6
      obtain rfl:k1=5:=by omega
      exact (ansM_cmp h0 h2 h3 h1 h4 h5 h6).symm
    have HPA:=Qh HFin.2
    have HFi:=HFin.1
    clear HFin hS1 hS2 hS3
    have hk1b:(k1==1)=false:=beq_eq_false_iff_ne.2 (by omega)
    have hk3b:(k1==3)=false:=beq_eq_false_iff_ne.2 (by omega)
    have hk4b:(k1==4)=false:=beq_eq_false_iff_ne.2 (by omega)
    obtain ⟨hk2b,t1,t2,t3⟩ | hk2b:=HFi
    all_goals (
     go_upto_region 30 with (first
      | (go_at_call 42;(with_reducible refine (HI0.out _).mono ?_);rintro e u4 ⟨rfl,hb⟩;replace KM:=Qh (Qt KM.out hb);clear x0 x1 x2 x3 x4 x5;obtain ⟨x0,x1,x2,x3,x4,x5⟩:=(HXt.out _ KM.out).1.cells HM.out.1 HM.out.2.1;clear hb)
      | (go_at_call 42;(with_reducible refine (HI1.out _).mono ?_);rintro e u4 ⟨rfl,hb⟩;replace KM:=Qh (Qt KM.out hb);clear x0 x1 x2 x3 x4 x5;obtain ⟨x0,x1,x2,x3,x4,x5⟩:=(HXt.out _ KM.out).1.cells HM.out.1 HM.out.2.1;clear hb)
      | (go_at_call 42;(with_reducible refine (HI2.out _).mono ?_);rintro e u4 ⟨rfl,hb⟩;replace KM:=Qh (Qt KM.out hb);clear x0 x1 x2 x3 x4 x5;obtain ⟨x0,x1,x2,x3,x4,x5⟩:=(HXt.out _ KM.out).1.cells HM.out.1 HM.out.2.1;clear hb)
      | (go_at_call 42;(with_reducible refine (HI3.out _).mono ?_);rintro e u4 ⟨rfl,hb⟩;replace KM:=Qh (Qt KM.out hb);clear x0 x1 x2 x3 x4 x5;obtain ⟨x0,x1,x2,x3,x4,x5⟩:=(HXt.out _ KM.out).1.cells HM.out.1 HM.out.2.1;clear hb)
      | (go_at_call 42;(with_reducible refine (HI4.out _).mono ?_);rintro e u4 ⟨rfl,hb⟩;replace KM:=Qh (Qt KM.out hb);clear x0 x1 x2 x3 x4 x5;obtain ⟨x0,x1,x2,x3,x4,x5⟩:=(HXt.out _ KM.out).1.cells HM.out.1 HM.out.2.1;clear hb)
      | (go_at_call 42;(with_reducible refine (HI5.out _).mono ?_);rintro e u4 ⟨rfl,hb⟩;replace KM:=Qh (Qt KM.out hb);clear x0 x1 x2 x3 x4 x5;obtain ⟨x0,x1,x2,x3,x4,x5⟩:=(HXt.out _ KM.out).1.cells HM.out.1 HM.out.2.1;clear hb)
      | (go_at_call 42;(with_reducible refine (HI6.out _).mono ?_);rintro e u4 ⟨rfl,hb⟩;replace KM:=Qh (Qt KM.out hb);clear x0 x1 x2 x3 x4 x5;obtain ⟨x0,x1,x2,x3,x4,x5⟩:=(HXt.out _ KM.out).1.cells HM.out.1 HM.out.2.1;clear hb))
     obtain ⟨p0,p1,p2,p3,p4,p5⟩:=(HXt.out _ KM.out).2.1.cells HM.out.2.2.1 HM.out.2.2.2.1
     obtain ⟨q0,q1,q2,q3,q4,q5⟩:=(HXt.out _ KM.out).2.2.1.cells HM.out.2.2.2.2.1 HM.out.2.2.2.2.2
     have hwz:=Qt HW2.out.1 KM.out
     by_cases h62:62<L1
     ·have HE:=Qh (show (⟨zeroT,nx,true,arityT⟩:Ans)=R from by rw [←HPA.out];exact (if_pos (show 62<ts1.length from by rw [HLs.out.1];exact h62)).symm)
      go_wp2_with fail
      (with_reducible refine (rput_big HM.out.1 HM.out.2.1 HLs.out.1 HM.out.2.2.1 HM.out.2.2.2.1 HLs.out.2.1 HM.out.2.2.2.2.1 HM.out.2.2.2.2.2 HLs.out.2.2.1 (HT.out.1.below hwz HPP.out) (HT.out.2.1.below hwz HPP.out) (HT.out.2.2.below hwz HPP.out) (fun b hb=>Ql (HPP.out b hb) hwz.size) h62).mono ?_)
      rintro e u5 ⟨sn,rfl,ht,hb⟩
      obtain ⟨A6,c6,rfl⟩:=TAtP.sl (q:=1) rfl (show TAtP u5 _ (Tm.mk 5 sRepr [] 0 0 [atomT sArity]) sn from ht)
      have HKu:=Qh (Qt KM.out hb)
      have HTb:=Qh (show TAtP u5 (NW P (w.heap.size+1+1+1+1+1) u5) (Tm.mk 5 sRepr [] 0 0 [atomT sArity]) (.slice A6 1 c6) from TAtP.wide ht (fun b h=>.inr ⟨by have h1:=HW2.out.2;have h2:=KM.out.size;have h3:=h.1;omega,h.2⟩))
      clear ht hb hwz x0 x1 x2 x3 x4 x5 p0 p1 p2 p3 p4 p5 q0 q1 q2 q3 q4 q5 h62
      go_upto_region 31 with fail
      have HZ:=Qh (show ∀ z,((u5.alloc (.cells Qz 25)).alloc (.cells #[.bool true,.int .i64 5,.string ⟨#[114,101,112,114,101,115,101,110,116,97,116,105,111,110,95,101,114,114,111,114]⟩,.string ⟨#[]⟩,.int .u64 0,.int .i64 0,.slice A6 1 c6] 35))=z→Below u5.heap.size u5 z∧TBox z u5.heap.size (Tm.mk 0 [] [] 0 0 []) (.slice none 0 0)∧BBox z (u5.heap.size+1) true (Tm.mk 5 sRepr [] 0 0 [atomT sArity]) (.slice A6 1 c6) from fun z e=>by
       rw [←e]
       have hb1:Below u5.heap.size u5 (u5.alloc (.cells Qz 25)):=Qb
       have hs1:(u5.alloc (.cells Qz 25)).heap.size=u5.heap.size+1:=by simp
       have hb2:Below (u5.alloc (.cells Qz 25)).heap.size (u5.alloc (.cells Qz 25)) ((u5.alloc (.cells Qz 25)).alloc (.cells #[.bool true,.int .i64 5,.string ⟨#[114,101,112,114,101,115,101,110,116,97,116,105,111,110,95,101,114,114,111,114]⟩,.string ⟨#[]⟩,.int .u64 0,.int .i64 0,.slice A6 1 c6] 35)):=Qb
       have hY:BBox ((u5.alloc (.cells Qz 25)).alloc (.cells #[.bool true,.int .i64 5,.string ⟨#[114,101,112,114,101,115,101,110,116,97,116,105,111,110,95,101,114,114,111,114]⟩,.string ⟨#[]⟩,.int .u64 0,.int .i64 0,.slice A6 1 c6] 35)) (u5.alloc (.cells Qz 25)).heap.size true (Tm.mk 5 sRepr [] 0 0 [atomT sArity]) (.slice A6 1 c6):=BBox.new (u5.alloc (.cells Qz 25)) (n:=sRepr) (m:=[]) (nb:=⟨#[114,101,112,114,101,115,101,110,116,97,116,105,111,110,95,101,114,114,111,114]⟩) (mb:=⟨#[]⟩) rfl rfl
       rw [hs1] at hY
       exact ⟨hb1.trans (hb2.mono (by omega)),(TBox.new u5 (nb:=⟨#[]⟩) (mb:=⟨#[]⟩) rfl rfl).below hb2,hY⟩)
      generalize ((u5.alloc (.cells Qz 25)).alloc (.cells #[.bool true,.int .i64 5,.string ⟨#[114,101,112,114,101,115,101,110,116,97,116,105,111,110,95,101,114,114,111,114]⟩,.string ⟨#[]⟩,.int .u64 0,.int .i64 0,.slice A6 1 c6] 35))=u6 at *
      replace HZ:=Qh (HZ.out _ rfl)
      have hlo:=Nat.le_trans HW2.out.2 HKu.out.size
      have KZ:=Qt HKu.out HZ.out.1
      generalize hH2:u5.heap.size+1=H2
      generalize hH1:u5.heap.size=H1
      have HZ1:=Qh (show TBox u6 H1 (Tm.mk 0 [] [] 0 0 []) (.slice none 0 0)∧BBox u6 H2 true (Tm.mk 5 sRepr [] 0 0 [atomT sArity]) (.slice A6 1 c6) from by rw [←hH1,←hH2];exact HZ.out.2)
      have hl1:(w.heap.size+1+1+1+1+1)≤H1:=by omega
      have hl2:(w.heap.size+1+1+1+1+1)≤H2:=by omega
      clear hH1 hH2 hlo
      refine wp_region_G (w.heap.size+1+1+1) 5 (by kernel_rfl) (fun v0 KK KG=>?_)
      refine tw 0 KG (v:=?_) (fun w5 hS=>?_) ?_
      case refine_2=>obtain ⟨p0,p1,p2,p3,p4,p5⟩:=(HZ1.out.1.gro hS (by omega)).cells (nb:=⟨#[]⟩) (mb:=⟨#[]⟩) rfl rfl;go_simp;rfl
      refine tw 1 KG (v:=?_) (fun w5 hS=>?_) ?_
      case refine_2=>go_simp;rfl
      refine tw 2 KG (v:=?_) (fun w5 hS=>?_) ?_
      case refine_2=>obtain ⟨p0,p1,p2,p3,p4,p5,p6⟩:=(HZ1.out.2.gro hS (by omega)).cells (n:=sRepr) (m:=[]) (nb:=⟨#[114,101,112,114,101,115,101,110,116,97,116,105,111,110,95,101,114,114,111,114]⟩) (mb:=⟨#[]⟩) rfl rfl;go_simp;rfl
      have KW:=Qt KZ KK
      have hP5:∀ b,P b→b<u5.heap.size:=(fun b hb=>Ql (HPP.out b hb) (Nat.le_trans HW2.out.1.size (HKu.out).size))
      have htg:=NW.keep (NW.keep (zero_at u5 (NW P (w.heap.size+1+1+1+1+1) u5)) HZ.out.1 hP5) KK (fun b hb=>Ql (hP5 b hb) HZ.out.1.size)
      have htx:=NW.keep (NW.keep HTb.out HZ.out.1 hP5) KK (fun b hb=>Ql (hP5 b hb) HZ.out.1.size)
      have HTX:=Qh (Qa htg (Qa htx (Qa KW KG)))
      clear htg htx hP5 KW KG KK KZ
      refine stT (i:=3) (t:=(Tm.mk 0 [] [] 0 0 [])) (by kernel_rfl) rfl (by kernel_rfl) rfl rfl (by kernel_rfl) (.trans (by kernel_rfl) (valT_mk (sl:=.slice none 0 0) (nb:=⟨#[]⟩) (mb:=⟨#[]⟩) rfl rfl).symm) ((HXt.out _ (HTX.out.2.2.1)).2.2.2.1) (fun x1 hT5 g5=>⟨fun _=>grown_trans HTX.out.2.2.2 g5,?_⟩)
      refine w1 4 fun K hK=>?_
      go_simp
      refine hK.out _ _ (fun _=>grown_trans HTX.out.2.2.2 g5) ?_
      refine stB (i:=5) (j:=true) (t:=(Tm.mk 5 sRepr [] 0 0 [atomT sArity])) (by kernel_rfl) rfl (by kernel_rfl) rfl rfl (by kernel_rfl) (.trans (by kernel_rfl) (badV_mk (i:=true) (sl:=.slice A6 1 c6) (n:=sRepr) (m:=[]) (nb:=⟨#[114,101,112,114,101,115,101,110,116,97,116,105,111,110,95,101,114,114,111,114]⟩) (mb:=⟨#[]⟩) rfl rfl).symm) (BBox.gro ((HXt.out _ (HTX.out.2.2.1)).2.2.2.2.1) g5 (by omega)) (fun x2 hB6 g6=>⟨fun h=>absurd h (by simp),?_⟩)
      refine wpAnyW_done (by kernel_rfl) ?_ _
      go_wp2
      have hcc:=(hT5.gro g6 (by omega)).cells (nb:=⟨#[]⟩) (mb:=⟨#[]⟩) rfl rfl
      have a0:=hcc.1
      have a1:=hcc.2.1
      have a2:=hcc.2.2.1
      have a3:=hcc.2.2.2.1
      have a4:=hcc.2.2.2.2.1
      have a5:=hcc.2.2.2.2.2
      clear hcc
      have hcc:=hB6.cells (n:=sRepr) (m:=[]) (nb:=⟨#[114,101,112,114,101,115,101,110,116,97,116,105,111,110,95,101,114,114,111,114]⟩) (mb:=⟨#[]⟩) rfl rfl
      have s0:=hcc.1
      have s1:=hcc.2.1
      have s2:=hcc.2.2.1
      have s3:=hcc.2.2.2.1
      have s4:=hcc.2.2.2.2.1
      have s5:=hcc.2.2.2.2.2.1
      have s6:=hcc.2.2.2.2.2.2
      clear hcc
      refine bodyPost_ret (v:=.tuple #[.agg Qz,.int .i64 nx,.agg #[.bool true,.int .i64 5,.string ⟨#[114,101,112,114,101,115,101,110,116,97,116,105,111,110,95,101,114,114,111,114]⟩,.string ⟨#[]⟩,.int .u64 0,.int .i64 0,.slice A6 1 c6]]) (by simp [results,Tryd.results49,go_sem,a0,a1,a2,a3,a4,a5,s0,s1,s2,s3,s4,s5,s6]) rfl ?_
      rw [←HE.out]
      exact ans_end HPP.out (Qt HW2.out.1 HTX.out.2.2.1) ⟨by omega,Nat.lt_succ_of_lt (Nat.lt_succ_self _)⟩ ⟨by omega,Nat.lt_succ_self _⟩ g5 g6 HTX.out.1 HTX.out.2.1 (by
       show _=Ending.returned (.tuple #[valT (Tm.mk 0 [] [] 0 0 []) (.slice none 0 0),_,badV true (Tm.mk 5 sRepr [] 0 0 [atomT sArity]) (.slice A6 1 c6)])
       rw [valT_mk (nb:=⟨#[]⟩) (mb:=⟨#[]⟩) rfl rfl,badV_mk (n:=sRepr) (m:=[]) (nb:=⟨#[114,101,112,114,101,115,101,110,116,97,116,105,111,110,95,101,114,114,111,114]⟩) (mb:=⟨#[]⟩) rfl rfl]
       all_goals rfl)
     ·have HE:=Qh (show okA (cmpT n1 (ts1 ++ [(Tm.mk k2 n2 m2 b2 v2 ts2),(Tm.mk k3 n3 m3 b3 v3 ts3)])) nx=R from by rw [←HPA.out];exact (if_neg (show ¬62<ts1.length from by rw [HLs.out.1];exact h62)).symm)
      go_wp2_with fail
      (with_reducible refine (rput_fit HM.out.1 HM.out.2.1 HLs.out.1 HM.out.2.2.1 HM.out.2.2.2.1 HLs.out.2.1 HM.out.2.2.2.2.1 HM.out.2.2.2.2.2 HLs.out.2.2.1 (HT.out.1.below hwz HPP.out) (HT.out.2.1.below hwz HPP.out) (HT.out.2.2.below hwz HPP.out) (fun b hb=>Ql (HPP.out b hb) hwz.size) (by omega)).mono ?_)
      rintro e u5 ⟨A6,c6,rfl,ht,hb⟩
      have HKu:=Qh (Qt KM.out hb)
      have HTg:=Qh (show TAtP u5 (NW P (w.heap.size+1+1+1+1+1) u5) (Tm.mk 5 n1 [] 0 0 (ts1 ++ [(Tm.mk k2 n2 m2 b2 v2 ts2),(Tm.mk k3 n3 m3 b3 v3 ts3)])) (.slice A6 (L1+2) c6) from TAtP.wide ht (fun b h=>by
       have h1:=HW2.out.2
       have h2:=KM.out.size
       rcases h with h | h
       ·exact .inl h
       ·exact .inr ⟨by omega,h.2⟩))
      clear ht hb hwz x0 x1 x2 x3 x4 x5 p0 p1 p2 p3 p4 p5 q0 q1 q2 q3 q4 q5 h62
      go_upto_region 31 with fail
      have HZ:=Qh (show ∀ z,((u5.alloc (.cells (Qn 5 nb1 (.slice A6 (L1+2) c6)) 25)).alloc (.cells #[.bool false,.int .i64 0,.string ⟨#[]⟩,.string ⟨#[]⟩,.int .u64 0,.int .i64 0,.slice none 0 0] 35))=z→Below u5.heap.size u5 z∧TBox z u5.heap.size (Tm.mk 5 n1 [] 0 0 (ts1 ++ [(Tm.mk k2 n2 m2 b2 v2 ts2),(Tm.mk k3 n3 m3 b3 v3 ts3)])) (.slice A6 (L1+2) c6)∧BBox z (u5.heap.size+1) false (Tm.mk 0 [] [] 0 0 []) (.slice none 0 0) from fun z e=>by
       rw [←e]
       have hb1:Below u5.heap.size u5 (u5.alloc (.cells (Qn 5 nb1 (.slice A6 (L1+2) c6)) 25)):=Qb
       have hs1:(u5.alloc (.cells (Qn 5 nb1 (.slice A6 (L1+2) c6)) 25)).heap.size=u5.heap.size+1:=by simp
       have hb2:Below (u5.alloc (.cells (Qn 5 nb1 (.slice A6 (L1+2) c6)) 25)).heap.size (u5.alloc (.cells (Qn 5 nb1 (.slice A6 (L1+2) c6)) 25)) ((u5.alloc (.cells (Qn 5 nb1 (.slice A6 (L1+2) c6)) 25)).alloc (.cells #[.bool false,.int .i64 0,.string ⟨#[]⟩,.string ⟨#[]⟩,.int .u64 0,.int .i64 0,.slice none 0 0] 35)):=Qb
       have hY:BBox ((u5.alloc (.cells (Qn 5 nb1 (.slice A6 (L1+2) c6)) 25)).alloc (.cells #[.bool false,.int .i64 0,.string ⟨#[]⟩,.string ⟨#[]⟩,.int .u64 0,.int .i64 0,.slice none 0 0] 35)) (u5.alloc (.cells (Qn 5 nb1 (.slice A6 (L1+2) c6)) 25)).heap.size false (Tm.mk 0 [] [] 0 0 []) (.slice none 0 0):=BBox.new (u5.alloc (.cells (Qn 5 nb1 (.slice A6 (L1+2) c6)) 25)) (nb:=⟨#[]⟩) (mb:=⟨#[]⟩) rfl rfl
       rw [hs1] at hY
       exact ⟨hb1.trans (hb2.mono (by omega)),(TBox.new u5 (n:=n1) (m:=[]) (nb:=nb1) (mb:=⟨#[]⟩) HM.out.1 rfl).below hb2,hY⟩)
      generalize ((u5.alloc (.cells (Qn 5 nb1 (.slice A6 (L1+2) c6)) 25)).alloc (.cells #[.bool false,.int .i64 0,.string ⟨#[]⟩,.string ⟨#[]⟩,.int .u64 0,.int .i64 0,.slice none 0 0] 35))=u6 at *
      replace HZ:=Qh (HZ.out _ rfl)
      have hlo:=Nat.le_trans HW2.out.2 HKu.out.size
      have KZ:=Qt HKu.out HZ.out.1
      generalize hH2:u5.heap.size+1=H2
      generalize hH1:u5.heap.size=H1
      have HZ1:=Qh (show TBox u6 H1 (Tm.mk 5 n1 [] 0 0 (ts1 ++ [(Tm.mk k2 n2 m2 b2 v2 ts2),(Tm.mk k3 n3 m3 b3 v3 ts3)])) (.slice A6 (L1+2) c6)∧BBox u6 H2 false (Tm.mk 0 [] [] 0 0 []) (.slice none 0 0) from by rw [←hH1,←hH2];exact HZ.out.2)
      have hl1:(w.heap.size+1+1+1+1+1)≤H1:=by omega
      have hl2:(w.heap.size+1+1+1+1+1)≤H2:=by omega
      clear hH1 hH2 hlo
      refine wp_region_G (w.heap.size+1+1+1) 5 (by kernel_rfl) (fun v0 KK KG=>?_)
      refine tw 0 KG (v:=?_) (fun w5 hS=>?_) ?_
      case refine_2=>obtain ⟨p0,p1,p2,p3,p4,p5⟩:=(HZ1.out.1.gro hS (by omega)).cells (n:=n1) (m:=[]) (nb:=nb1) (mb:=⟨#[]⟩) HM.out.1 rfl;go_simp;rfl
      refine tw 1 KG (v:=?_) (fun w5 hS=>?_) ?_
      case refine_2=>go_simp;rfl
      refine tw 2 KG (v:=?_) (fun w5 hS=>?_) ?_
      case refine_2=>obtain ⟨p0,p1,p2,p3,p4,p5,p6⟩:=(HZ1.out.2.gro hS (by omega)).cells (nb:=⟨#[]⟩) (mb:=⟨#[]⟩) rfl rfl;go_simp;rfl
      have KW:=Qt KZ KK
      have hP5:∀ b,P b→b<u5.heap.size:=(fun b hb=>Ql (HPP.out b hb) (Nat.le_trans HW2.out.1.size (HKu.out).size))
      have htg:=NW.keep (NW.keep HTg.out HZ.out.1 hP5) KK (fun b hb=>Ql (hP5 b hb) HZ.out.1.size)
      have htx:=NW.keep (NW.keep (zero_at u5 (NW P (w.heap.size+1+1+1+1+1) u5)) HZ.out.1 hP5) KK (fun b hb=>Ql (hP5 b hb) HZ.out.1.size)
      have HTX:=Qh (Qa htg (Qa htx (Qa KW KG)))
      clear htg htx hP5 KW KG KK KZ
      refine stT (i:=3) (t:=(Tm.mk 5 n1 [] 0 0 (ts1 ++ [(Tm.mk k2 n2 m2 b2 v2 ts2),(Tm.mk k3 n3 m3 b3 v3 ts3)]))) (by kernel_rfl) rfl (by kernel_rfl) rfl rfl (by kernel_rfl) (.trans (by kernel_rfl) (valT_mk (sl:=.slice A6 (L1+2) c6) (n:=n1) (m:=[]) (nb:=nb1) (mb:=⟨#[]⟩) HM.out.1 rfl).symm) ((HXt.out _ (HTX.out.2.2.1)).2.2.2.1) (fun x1 hT5 g5=>⟨fun _=>grown_trans HTX.out.2.2.2 g5,?_⟩)
      refine w1 4 fun K hK=>?_
      go_simp
      refine hK.out _ _ (fun _=>grown_trans HTX.out.2.2.2 g5) ?_
      refine stB (i:=5) (j:=false) (t:=(Tm.mk 0 [] [] 0 0 [])) (by kernel_rfl) rfl (by kernel_rfl) rfl rfl (by kernel_rfl) (.trans (by kernel_rfl) (badV_mk (i:=false) (sl:=.slice none 0 0) (nb:=⟨#[]⟩) (mb:=⟨#[]⟩) rfl rfl).symm) (BBox.gro ((HXt.out _ (HTX.out.2.2.1)).2.2.2.2.1) g5 (by omega)) (fun x2 hB6 g6=>⟨fun h=>absurd h (by simp),?_⟩)
      refine wpAnyW_done (by kernel_rfl) ?_ _
      go_wp2
      have hcc:=(hT5.gro g6 (by omega)).cells (n:=n1) (m:=[]) (nb:=nb1) (mb:=⟨#[]⟩) HM.out.1 rfl
      have a0:=hcc.1
      have a1:=hcc.2.1
      have a2:=hcc.2.2.1
      have a3:=hcc.2.2.2.1
      have a4:=hcc.2.2.2.2.1
      have a5:=hcc.2.2.2.2.2
      clear hcc
      have hcc:=hB6.cells (nb:=⟨#[]⟩) (mb:=⟨#[]⟩) rfl rfl
      have s0:=hcc.1
      have s1:=hcc.2.1
      have s2:=hcc.2.2.1
      have s3:=hcc.2.2.2.1
      have s4:=hcc.2.2.2.2.1
      have s5:=hcc.2.2.2.2.2.1
      have s6:=hcc.2.2.2.2.2.2
      clear hcc
      refine bodyPost_ret (v:=.tuple #[.agg (Qn 5 nb1 (.slice A6 (L1+2) c6)),.int .i64 nx,.agg #[.bool false,.int .i64 0,.string ⟨#[]⟩,.string ⟨#[]⟩,.int .u64 0,.int .i64 0,.slice none 0 0]]) (by simp [results,Tryd.results49,go_sem,a0,a1,a2,a3,a4,a5,s0,s1,s2,s3,s4,s5,s6]) rfl ?_
      rw [←HE.out]
      exact ans_end HPP.out (Qt HW2.out.1 HTX.out.2.2.1) ⟨by omega,Nat.lt_succ_of_lt (Nat.lt_succ_self _)⟩ ⟨by omega,Nat.lt_succ_self _⟩ g5 g6 HTX.out.1 HTX.out.2.1 (by
       show _=Ending.returned (.tuple #[valT (Tm.mk 5 n1 [] 0 0 (ts1 ++ [(Tm.mk k2 n2 m2 b2 v2 ts2),(Tm.mk k3 n3 m3 b3 v3 ts3)])) (.slice A6 (L1+2) c6),_,badV false (Tm.mk 0 [] [] 0 0 []) (.slice none 0 0)])
       rw [valT_mk (n:=n1) (m:=[]) (nb:=nb1) (mb:=⟨#[]⟩) HM.out.1 rfl,badV_mk (nb:=⟨#[]⟩) (mb:=⟨#[]⟩) rfl rfl]
       all_goals rfl))
end Go.Proofs.YtgfeainpeplphaaDoor
