import Derived.Test.YtgfeainpeplphaaDoorV5
import Derived.Test.YtgfeainpeplphaaDoorV0
set_option maxRecDepth 1000000
set_option maxHeartbeats 64000000
set_option linter.unusedVariables false
set_option linter.unusedSimpArgs false
namespace Go.Proofs.YtgfeainpeplphaaDoor
open Go.RowKit Hb Ht
attribute [local go_sem] Oper.semAt_some
theorem body_any (w0:World) (t:Tm):BodyOk w0 t:=by
 refine Tm.ind (p:=BodyOk w0) (fun k1 n1 m1 b1 v1 ts1 ih=>?_) t
 intro w P f d st sf sd Q N x hP h1 h2 h3 hN h0 hbd hck hU hw0
 obtain ⟨nb1,hnb1⟩:∃ nb:ByteArray,(⟨n1.toArray⟩:ByteArray)=nb:=⟨_,rfl⟩
 obtain ⟨mb1,hmb1⟩:∃ mb:ByteArray,(⟨m1.toArray⟩:ByteArray)=mb:=⟨_,rfl⟩
 obtain ⟨L1,hL1⟩:∃ L,ts1.length=L:=⟨_,rfl⟩
 obtain ⟨A1,c1,hst,hl1,hc1,hx1,_,_⟩:=TAtP.iff.1 h1
 subst hst
 change ts1.length≤c1 at hl1
 change ts1.length≤maxArgs at hx1
 change TAtP w P (.mk k1 n1 m1 b1 v1 ts1) (.slice A1 ts1.length c1) at h1
 change Calls Tryd.prog _ #[valT (.mk k1 n1 m1 b1 v1 ts1) (.slice A1 ts1.length c1),_,_,_] w _
 rw [hL1] at h1 hl1 hx1 ⊢
 obtain ⟨k2,n2,m2,b2,v2,ts2,nb2,mb2,A2,c2,rfl,rfl,hnb2,hmb2,hl2,hc2,hx2,hv2,hs2,hq2⟩:=h2.letters
 obtain ⟨L2,hL2⟩:∃ L,ts2.length=L:=⟨_,rfl⟩
 rw [hL2] at h2 hl2 hx2 ⊢
 obtain ⟨k3,n3,m3,b3,v3,ts3,nb3,mb3,A3,c3,rfl,rfl,hnb3,hmb3,hl3,hc3,hx3,hv3,hs3,hq3⟩:=h3.letters
 obtain ⟨L3,hL3⟩:∃ L,ts3.length=L:=⟨_,rfl⟩
 rw [hL3] at h3 hl3 hx3 ⊢
 rw [valT_mk hnb1 hmb1,valT_mk hnb2 hmb2,valT_mk hnb3 hmb3]
 obtain ⟨RR,hRR⟩:∃ RR,mkB (.mk k1 n1 m1 b1 v1 ts1) (.mk k2 n2 m2 b2 v2 ts2) (.mk k3 n3 m3 b3 v3 ts3) x=RR:=⟨_,rfl⟩
 rw [hRR,show freshV Q = .func (.func 60) #[] #[.pointer (some ⟨Q,0,none⟩)] from rfl]
 obtain ⟨W1,hW1⟩:∃ W,w.alloc (.cells (Q5 k1 nb1 mb1 b1 v1 (.slice A1 L1 c1)) 25)=W:=⟨_,rfl⟩
 obtain ⟨W2,hW2⟩:∃ W,W1.alloc (.cells (Q5 k2 nb2 mb2 b2 v2 (.slice A2 L2 c2)) 25)=W:=⟨_,rfl⟩
 obtain ⟨W3,hW3⟩:∃ W,W2.alloc (.cells (Q5 k3 nb3 mb3 b3 v3 (.slice A3 L3 c3)) 25)=W:=⟨_,rfl⟩
 obtain ⟨W4,hW4⟩:∃ W,W3.alloc (.cells #[.func (.func 60) #[] #[.pointer (some ⟨Q,0,none⟩)]] 70)=W:=⟨_,rfl⟩
 obtain ⟨W5,hW5⟩:∃ W,W4.alloc (.cells Qz 25)=W:=⟨_,rfl⟩
 obtain ⟨W6,hW6⟩:∃ W,W5.alloc (.cells #[.int .i64 k2,.string nb2,.string mb2,.int .u64 b2,.int .i64 v2,.slice A2 L2 c2,.int .i64 k3,.string nb3,.string mb3,.int .u64 b3,.int .i64 v3,.slice A3 L3 c3] 25)=W:=⟨_,rfl⟩
 have d1:Below w.heap.size w W1:=by rw [←hW1];exact Qb
 have s1:W1.heap.size=w.heap.size+1:=by rw [←hW1];simp
 have X1:TBox W1 w.heap.size (.mk k1 n1 m1 b1 v1 ts1) (.slice A1 L1 c1):=by rw [←hW1];exact TBox.new w hnb1 hmb1
 have d2:Below W1.heap.size W1 W2:=by rw [←hW2];exact Qb
 have s2:W2.heap.size=W1.heap.size+1:=by rw [←hW2];simp
 have X2:TBox W2 W1.heap.size (.mk k2 n2 m2 b2 v2 ts2) (.slice A2 L2 c2):=by rw [←hW2];exact TBox.new W1 hnb2 hmb2
 have d3:Below W2.heap.size W2 W3:=by rw [←hW3];exact Qb
 have s3:W3.heap.size=W2.heap.size+1:=by rw [←hW3];simp
 have X3:TBox W3 W2.heap.size (.mk k3 n3 m3 b3 v3 ts3) (.slice A3 L3 c3):=by rw [←hW3];exact TBox.new W2 hnb3 hmb3
 have d4:Below W3.heap.size W3 W4:=by rw [←hW4];exact Qb
 have s4:W4.heap.size=W3.heap.size+1:=by rw [←hW4];simp
 have X4:W4.heap[W3.heap.size]?=some (.cells #[freshV Q] 70 (0,0)):=by rw [←hW4];exact heap_alloc_new W3 _
 have d5:Below W4.heap.size W4 W5:=by rw [←hW5];exact Qb
 have s5:W5.heap.size=W4.heap.size+1:=by rw [←hW5];simp
 have X5:TBox W5 W4.heap.size zeroT (.slice none 0 0):=by rw [←hW5];exact heap_alloc_new W4 _
 have d6:Below W5.heap.size W5 W6:=by rw [←hW6];exact Qb
 have s6:W6.heap.size=W5.heap.size+1:=by rw [←hW6];simp
 replace X1:=X1.below d2
 replace X1:=X1.below d3
 replace X1:=X1.below d4
 replace X1:=X1.below d5
 replace X1:=X1.below d6
 replace X2:=X2.below d3
 replace X2:=X2.below d4
 replace X2:=X2.below d5
 replace X2:=X2.below d6
 replace X3:=X3.below d4
 replace X3:=X3.below d5
 replace X3:=X3.below d6
 replace X4:=(d5.block W3.heap.size (by omega)).trans X4
 replace X4:=(d6.block W3.heap.size (by omega)).trans X4
 replace X5:=X5.below d6
 have hb5:Below w.heap.size w W5:=d1.trans ((d2.trans ((d3.trans ((d4.trans (d5.mono (by omega))).mono (by omega))).mono (by omega))).mono (by omega))
 have hb6:Below w.heap.size w W6:=hb5.trans (d6.mono (by omega))
 have hbu:=built (w:=W5) (P:=P) (s:=sEq) (n:=2) (cs:=#[.int .i64 k2,.string nb2,.string mb2,.int .u64 b2,.int .i64 v2,.slice A2 L2 c2,.int .i64 k3,.string nb3,.string mb3,.int .u64 b3,.int .i64 v3,.slice A3 L3 c3]) (ps:=[((.mk k2 n2 m2 b2 v2 ts2:Tm),Value.slice A2 L2 c2),((.mk k3 n3 m3 b3 v3 ts3:Tm),Value.slice A3 L3 c3)]) (by rw [←hnb2,←hmb2,←hnb3,←hmb3];rfl) rfl (mem2 (h2.below hb5 (fun b hb=>(hP b hb).1)) (h3.below hb5 (fun b hb=>(hP b hb).1))) (fun b hb=>Ql (hP b hb).1 hb5.size) (by unfold maxArgs;omega) (by decide)
 rw [hW6] at hbu
 obtain ⟨G,hG⟩:∃ G,w.heap.size=G:=⟨_,rfl⟩
 obtain ⟨gE,hgE⟩:∃ gE,W5.heap.size=gE:=⟨_,rfl⟩
 rw [s4,s3,s2,s1,hG] at X5
 rw [s3,s2,s1,hG] at X4
 rw [s2,s1,hG] at X3
 rw [s1,hG] at X2
 rw [hG] at X1
 rw [hgE] at hbu
 obtain ⟨x0,x1,x2,x3,x4,x5⟩:=X1.cells hnb1 hmb1
 obtain ⟨y0,y1,y2,y3,y4,y5⟩:=X2.cells hnb2 hmb2
 obtain ⟨z0,z1,z2,z3,z4,z5⟩:=X3.cells hnb3 hmb3
 have HBF:=Qh (show BF P N Q (G+1+1+1) G (G+1) (G+1+1) (.mk k1 n1 m1 b1 v1 ts1) (.mk k2 n2 m2 b2 v2 ts2) (.mk k3 n3 m3 b3 v3 ts3) (.slice A1 L1 c1) (.slice A2 L2 c2) (.slice A3 L3 c3) W6 from
  ⟨X4,X1,X2,X3,h1.below hb6 (fun b hb=>(hP b hb).1),h2.below hb6 (fun b hb=>(hP b hb).1),h3.below hb6 (fun b hb=>(hP b hb).1),fun b hb=>⟨Ql (hP b hb).1 hb6.size,(hP b hb).2⟩,by have:=hN.lt;omega⟩)
 have HW:=Qh (Qa hb6 (Qa X5 (Qa hbu (Qa hN (Qa hG (Qa (show W6.heap.size=gE+1∧gE=G+1+1+1+1+1 by omega) hP))))))
 have HM:=Qh (Qa (Qa hnb1 hmb1) (Qa (Qa hnb2 hmb2) (Qa hnb3 hmb3)))
 have HL:=Qh (Qa hL1 (Qa hx1 hl1))
 have HRR:=Qh hRR
 have HIH:=Qh ih
 have HBd:=Qh (Qa h0 hbd)
 have HCk:=Qh hck
 have HU:=Qh (Qa hU hw0)
 have hmf:∀ (fn:Fn) (first cap:Array Value) (w:World),(Instr.makeFunc fn first cap).run Tryd.prog w = .ok (.func fn first cap) w:=fun _ _ _ _=>rfl
 have hLI:(L1:Int)≤1759218604400:=by unfold maxArgs at hx1;omega
 have HWe:=Qh (Qa hW6 (Qa hG hgE))
 subst hW1 hW2 hW3 hW4 hW5
 rw [←HWe.out.1,←HWe.out.2.1] at x0 x1 x2 x3 x4 x5 y0 y1 y2 y3 y4 y5 z0 z1 z2 z3 z4 z5
 clear ih h1 h2 h3 hN h0 hbd hck hU hw0 hP hRR hb5 hb6 hbu X1 X2 X3 X4 X5 hG hgE hW6 s1 s2 s3 s4 s5 s6 d1 d2 d3 d4 d5 d6 hnb1 hmb1 hnb2 hmb2 hnb3 hmb3 hL1 hL2 hL3 hv2 hv3 hs2 hs3 hq2 hq3 hx1 hl1
 go_enter Tryd.func38,Tryd.ntmps38
 go_upto_region 3 with (go_at_call 32;(with_reducible refine (of_any _ _ _ _ _).mono ?_);rintro e w7 ⟨rfl,hb7⟩;have HB7:=Qh hb7;clear hb7)
 rw [HWe.out.1] at HB7
 rw [HWe.out.2.1]
 obtain ⟨W8,hW8⟩:∃ W8,w7.alloc (.cells (Qn 5 ⟨#[61]⟩ (.slice (some ⟨G+1+1+1+1+1,0,none⟩) 2 2)) 25)=W8:=⟨_,rfl⟩
 obtain ⟨GS,hGS⟩:∃ GS,w7.heap.size=GS:=⟨_,rfl⟩
 have hb8:Below w7.heap.size w7 W8:=by rw [←hW8];exact Qb
 obtain ⟨hb6,X5,hbu,hN,hG,hsz,hP⟩:=HW.out
 have hb68:=Qt HB7.out hb8
 have hss8:=hb68.size
 have h78:=HB7.out.size
 have HS0:=Qh (show BS w P N Q G GS (.mk k1 n1 m1 b1 v1 ts1) (.mk k2 n2 m2 b2 v2 ts2) (.mk k3 n3 m3 b3 v3 ts3) (.slice A1 L1 c1) (.slice A2 L2 c2) (.slice A3 L3 c3) (.slice (some ⟨G+1+1+1+1+1,0,none⟩) 2 2) x W8 from
  ⟨HBF.out.go (grown_below hb68),X5.below hb68,by rw [←hW8,←hGS];exact heap_alloc_new w7 _,
   TAtP.keep _ (by rw [hsz.2] at hbu;exact hbu) (fun b hb=>⟨by rcases hb with hb | hb;exact .inl hb;exact .inr ⟨by omega,by omega⟩,hb68.block b (by rcases hb with hb | hb;exact (HBF.out.hP b hb).1;omega)⟩),
   grown_below (Qt hb6 hb68),(hN.below hb6).below hb68,⟨hG,by have:=hN.lt;omega,by have:=hN.lt;omega,by omega⟩,hP⟩)
 rw [hW8,hGS]
 clear hb6 X5 hbu hN hG hsz hP hb68 hss8 h78 hb8 hW8 hGS HB7 HW HBF HWe x0 x1 x2 x3 x4 x5 y0 y1 y2 y3 y4 y5 z0 z1 z2 z3 z4 z5 hmf
 obtain ⟨x0,x1,x2,x3,x4,x5⟩:=HS0.out.bf.t1.cells HM.out.1.1 HM.out.1.2
 by_cases hk1:k1=1
 ·subst hk1
  obtain ⟨y0,y1,y2,y3,y4,y5⟩:=HS0.out.bf.t2.cells HM.out.2.1.1 HM.out.2.1.2
  obtain ⟨z0,z1,z2,z3,z4,z5⟩:=HS0.out.bf.t3.cells HM.out.2.2.1 HM.out.2.2.2
  go_wp2_with (go_at_call 32;(with_reducible refine (of_any _ _ _ _ _).mono ?_);rintro e u1 ⟨rfl,hb⟩;have HBHS1:=Qh hb;have hbA:Below W8.heap.size W8 (W8.alloc (.cells #[.int .i64 1,.string nb1,.string mb1,.int .u64 b1,.int .i64 v1,.slice A1 L1 c1,.int .i64 k2,.string nb2,.string mb2,.int .u64 b2,.int .i64 v2,.slice A2 L2 c2,.int .i64 k3,.string nb3,.string mb3,.int .u64 b3,.int .i64 v3,.slice A3 L3 c3] 25)):=Qb;have HS1:=Qh (HS0.out.below (Qt hbA hb));obtain ⟨a0,a1,a2,a3,a4,a5⟩:=HS1.out.r.cells rfl rfl;obtain ⟨e0,e1,e2,e3,e4,e5⟩:=HS1.out.r.frozens;clear hb hbA)
  have hbu:=built (w:=W8) (s:=sPhrase) (n:=3) (cs:=#[.int .i64 1,.string nb1,.string mb1,.int .u64 b1,.int .i64 v1,.slice A1 L1 c1,.int .i64 k2,.string nb2,.string mb2,.int .u64 b2,.int .i64 v2,.slice A2 L2 c2,.int .i64 k3,.string nb3,.string mb3,.int .u64 b3,.int .i64 v3,.slice A3 L3 c3]) (ps:=[((.mk 1 n1 m1 b1 v1 ts1:Tm),Value.slice A1 L1 c1),((.mk k2 n2 m2 b2 v2 ts2:Tm),Value.slice A2 L2 c2),((.mk k3 n3 m3 b3 v3 ts3:Tm),Value.slice A3 L3 c3)]) (by rw [←HM.out.1.1,←HM.out.1.2,←HM.out.2.1.1,←HM.out.2.1.2,←HM.out.2.2.1,←HM.out.2.2.2];rfl) rfl (mem3 (HS0.out.bf.x1.wide (fun b hb=>.inl hb)) (HS0.out.bf.x2.wide (fun b hb=>.inl hb)) (HS0.out.bf.x3.wide (fun b hb=>.inl hb))) HS0.out.pb (by unfold maxArgs;omega) (by decide)
  have hta:=HS0.out.made (u1:=W8.alloc (.cells #[.int .i64 1,.string nb1,.string mb1,.int .u64 b1,.int .i64 v1,.slice A1 L1 c1,.int .i64 k2,.string nb2,.string mb2,.int .u64 b2,.int .i64 v2,.slice A2 L2 c2,.int .i64 k3,.string nb3,.string mb3,.int .u64 b3,.int .i64 v3,.slice A3 L3 c3] 25)) (by simp) hbu HBHS1.out
  obtain ⟨hbx,hpost⟩:=body_fin (n:=sPhrase) (m:=[]) (nb:=⟨#[112,104,114,97,115,101]⟩) (mb:=⟨#[]⟩) (ts:=[(.mk 1 n1 m1 b1 v1 ts1),(.mk k2 n2 m2 b2 v2 ts2),(.mk k3 n3 m3 b3 v3 ts3)]) rfl rfl rfl HS1.out.r (by have:=HS1.out.hw;omega) HS1.out.hP (by have:=HS1.out.hw;omega) hta HS1.out.gr HS1.out.num rfl
  generalize ((((((u1.setCell ⟨G+1+1+1+1,0,none⟩ (.int .i64 5)).setCell ⟨G+1+1+1+1,1,none⟩ (.string ⟨#[112,104,114,97,115,101]⟩)).setCell ⟨G+1+1+1+1,2,none⟩ (.string ⟨#[]⟩)).setCell ⟨G+1+1+1+1,3,none⟩ (.int .u64 0)).setCell ⟨G+1+1+1+1,4,none⟩ (.int .i64 0)).setCell ⟨G+1+1+1+1,5,none⟩ (.slice (some ⟨W8.heap.size,0,none⟩) 3 3))=w9 at *
  obtain ⟨r0,r1,r2,r3,r4,r5⟩:=hbx.cells (nb:=⟨#[112,104,114,97,115,101]⟩) (mb:=⟨#[]⟩) rfl rfl
  refine bodyPost_ret (v:=.agg (Qn 5 ⟨#[112,104,114,97,115,101]⟩ (.slice (some ⟨W8.heap.size,0,none⟩) 3 3))) (by simp [results,Tryd.results38,go_sem,r0,r1,r2,r3,r4,r5]) rfl ?_
  rw [←HRR.out,mkB_var]
  exact hpost
 have s0:(k1==1)=false:=beq_eq_false_iff_ne.2 hk1
 clear hk1
 obtain ⟨B1,hB1⟩:∃ B,isC (.mk k1 n1 m1 b1 v1 ts1) sComma 2=B:=⟨_,rfl⟩
 have HI1:=Qh (show ∀ u,Calls Tryd.prog 30 #[.agg (Q5 k1 nb1 mb1 b1 v1 (.slice A1 L1 c1)),.string ⟨#[44]⟩,.int .i64 2] u (fun e w'=>e = .returned (.bool B1)∧Below u.heap.size u w') from fun u=>by
  have h:=is_any (t:=zeroT) (w:=u) (b:=b1) (v:=v1) (k:=k1) (A:=A1) HM.out.1.1 HM.out.1.2 HL.out.1 HL.out.2.1 HL.out.2.2 ⟨#[44]⟩ 2
  rw [show isC (.mk k1 n1 m1 b1 v1 ts1) (⟨#[44]⟩:ByteArray).data.toList 2=B1 from hB1] at h
  exact h)
 have HC1:=Qh hB1
 clear hB1
 obtain ⟨B2,hB2⟩:∃ B,isC (.mk k1 n1 m1 b1 v1 ts1) sSemi 2=B:=⟨_,rfl⟩
 have HI2:=Qh (show ∀ u,Calls Tryd.prog 30 #[.agg (Q5 k1 nb1 mb1 b1 v1 (.slice A1 L1 c1)),.string ⟨#[59]⟩,.int .i64 2] u (fun e w'=>e = .returned (.bool B2)∧Below u.heap.size u w') from fun u=>by
  have h:=is_any (t:=zeroT) (w:=u) (b:=b1) (v:=v1) (k:=k1) (A:=A1) HM.out.1.1 HM.out.1.2 HL.out.1 HL.out.2.1 HL.out.2.2 ⟨#[59]⟩ 2
  rw [show isC (.mk k1 n1 m1 b1 v1 ts1) (⟨#[59]⟩:ByteArray).data.toList 2=B2 from hB2] at h
  exact h)
 have HC2:=Qh hB2
 clear hB2
 obtain ⟨B3,hB3⟩:∃ B,isC (.mk k1 n1 m1 b1 v1 ts1) sBar 2=B:=⟨_,rfl⟩
 have HI3:=Qh (show ∀ u,Calls Tryd.prog 30 #[.agg (Q5 k1 nb1 mb1 b1 v1 (.slice A1 L1 c1)),.string ⟨#[124]⟩,.int .i64 2] u (fun e w'=>e = .returned (.bool B3)∧Below u.heap.size u w') from fun u=>by
  have h:=is_any (t:=zeroT) (w:=u) (b:=b1) (v:=v1) (k:=k1) (A:=A1) HM.out.1.1 HM.out.1.2 HL.out.1 HL.out.2.1 HL.out.2.2 ⟨#[124]⟩ 2
  rw [show isC (.mk k1 n1 m1 b1 v1 ts1) (⟨#[124]⟩:ByteArray).data.toList 2=B3 from hB3] at h
  exact h)
 have HC3:=Qh hB3
 clear hB3
 obtain ⟨B4,hB4⟩:∃ B,isC (.mk k1 n1 m1 b1 v1 ts1) sArrow 2=B:=⟨_,rfl⟩
 have HI4:=Qh (show ∀ u,Calls Tryd.prog 30 #[.agg (Q5 k1 nb1 mb1 b1 v1 (.slice A1 L1 c1)),.string ⟨#[45,62]⟩,.int .i64 2] u (fun e w'=>e = .returned (.bool B4)∧Below u.heap.size u w') from fun u=>by
  have h:=is_any (t:=zeroT) (w:=u) (b:=b1) (v:=v1) (k:=k1) (A:=A1) HM.out.1.1 HM.out.1.2 HL.out.1 HL.out.2.1 HL.out.2.2 ⟨#[45,62]⟩ 2
  rw [show isC (.mk k1 n1 m1 b1 v1 ts1) (⟨#[45,62]⟩:ByteArray).data.toList 2=B4 from hB4] at h
  exact h)
 have HC4:=Qh hB4
 clear hB4
 obtain ⟨B5,hB5⟩:∃ B,isC (.mk k1 n1 m1 b1 v1 ts1) sNot 1=B:=⟨_,rfl⟩
 have HI5:=Qh (show ∀ u,Calls Tryd.prog 30 #[.agg (Q5 k1 nb1 mb1 b1 v1 (.slice A1 L1 c1)),.string ⟨#[92,43]⟩,.int .i64 1] u (fun e w'=>e = .returned (.bool B5)∧Below u.heap.size u w') from fun u=>by
  have h:=is_any (t:=zeroT) (w:=u) (b:=b1) (v:=v1) (k:=k1) (A:=A1) HM.out.1.1 HM.out.1.2 HL.out.1 HL.out.2.1 HL.out.2.2 ⟨#[92,43]⟩ 1
  rw [show isC (.mk k1 n1 m1 b1 v1 ts1) (⟨#[92,43]⟩:ByteArray).data.toList 1=B5 from hB5] at h
  exact h)
 have HC5:=Qh hB5
 clear hB5
 obtain ⟨B6,hB6⟩:∃ B,isC (.mk k1 n1 m1 b1 v1 ts1) sCurly 1=B:=⟨_,rfl⟩
 have HI6:=Qh (show ∀ u,Calls Tryd.prog 30 #[.agg (Q5 k1 nb1 mb1 b1 v1 (.slice A1 L1 c1)),.string ⟨#[123,125]⟩,.int .i64 1] u (fun e w'=>e = .returned (.bool B6)∧Below u.heap.size u w') from fun u=>by
  have h:=is_any (t:=zeroT) (w:=u) (b:=b1) (v:=v1) (k:=k1) (A:=A1) HM.out.1.1 HM.out.1.2 HL.out.1 HL.out.2.1 HL.out.2.2 ⟨#[123,125]⟩ 1
  rw [show isC (.mk k1 n1 m1 b1 v1 ts1) (⟨#[123,125]⟩:ByteArray).data.toList 1=B6 from hB6] at h
  exact h)
 have HC6:=Qh hB6
 clear hB6
 obtain ⟨B7,hB7⟩:∃ B,isC (.mk k1 n1 m1 b1 v1 ts1) sDot 2=B:=⟨_,rfl⟩
 have HI7:=Qh (show ∀ u,Calls Tryd.prog 30 #[.agg (Q5 k1 nb1 mb1 b1 v1 (.slice A1 L1 c1)),.string ⟨#[46]⟩,.int .i64 2] u (fun e w'=>e = .returned (.bool B7)∧Below u.heap.size u w') from fun u=>by
  have h:=is_any (t:=zeroT) (w:=u) (b:=b1) (v:=v1) (k:=k1) (A:=A1) HM.out.1.1 HM.out.1.2 HL.out.1 HL.out.2.1 HL.out.2.2 ⟨#[46]⟩ 2
  rw [show isC (.mk k1 n1 m1 b1 v1 ts1) (⟨#[46]⟩:ByteArray).data.toList 2=B7 from hB7] at h
  exact h)
 have HC7:=Qh hB7
 clear hB7
 cases B1 with
 | true=>
  obtain ⟨e1,e2,e3⟩:=isC_iff.1 HC1.out
  change k1=5 at e1
  change n1=sComma at e2
  change ts1.length=2 at e3
  subst e1 e2
  have hL2:L1=2:=by rw [←HL.out.1];exact e3
  subst hL2
  obtain ⟨x,y,rfl⟩:∃ x y,ts1 = [x,y]:=by
   match ts1,e3 with
   | [x,y],_=>exact ⟨x,y,rfl⟩
  clear e3
  have hr:=HRR.out
  rw [mkB_seq (.inl rfl)] at hr
  have HR:=Qh hr
  clear hr HRR
  cases RR with
  | error bt=>
   go_wp2_with (first
    | (go_at_call 30;(with_reducible refine (HI1.out _).mono ?_);rintro e u1 ⟨rfl,hb⟩;have HS1:=Qh (HS0.out.below hb);clear x0 x1 x2 x3 x4 x5;obtain ⟨x0,x1,x2,x3,x4,x5⟩:=HS1.out.bf.t1.cells HM.out.1.1 HM.out.1.2;clear hb)
    | (go_at_call 63;(with_reducible refine (both_any HS1.out.bf (HIH.out x (by simp)) (HIH.out y (by simp)) HS1.out.num HBd.out.1 (by have:=HBd.out.2;rw [sz_two] at this;omega) (check_arg HCk.out (by simp [Tm.as])) (check_arg HCk.out (by simp [Tm.as])) (HU.out.1.grown HS1.out.gr HU.out.2) HU.out.2 sComma (by decide) ⟨#[44]⟩ rfl).mono ?_);rintro e u9 hp;rw [HR.out] at hp;obtain ⟨hg,bb,rfl,hball⟩:=hp.bad;have HE:=Qh (Qa hg hball);clear hg hball hp))
   exact ⟨rfl,grown_trans HS1.out.gr HE.out.1,bb,rfl,HE.out.2⟩
  | ok p=>
   obtain ⟨a,n'⟩:=p
   obtain ⟨k5,n5,m5,b5,v5,ts5⟩:=a
   obtain ⟨nb5,hnb5⟩:∃ nb:ByteArray,(⟨n5.toArray⟩:ByteArray)=nb:=⟨_,rfl⟩
   obtain ⟨mb5,hmb5⟩:∃ mb:ByteArray,(⟨m5.toArray⟩:ByteArray)=mb:=⟨_,rfl⟩
   obtain ⟨L5,hL5⟩:∃ L,ts5.length=L:=⟨_,rfl⟩
   have HL5:=Qh (Qa hnb5 (Qa hmb5 hL5))
   clear hnb5 hmb5 hL5
   go_wp2_with (first
    | (go_at_call 30;(with_reducible refine (HI1.out _).mono ?_);rintro e u1 ⟨rfl,hb⟩;have HS1:=Qh (HS0.out.below hb);clear x0 x1 x2 x3 x4 x5;obtain ⟨x0,x1,x2,x3,x4,x5⟩:=HS1.out.bf.t1.cells HM.out.1.1 HM.out.1.2;clear hb)
    | (go_at_call 63;(with_reducible refine (both_any HS1.out.bf (HIH.out x (by simp)) (HIH.out y (by simp)) HS1.out.num HBd.out.1 (by have:=HBd.out.2;rw [sz_two] at this;omega) (check_arg HCk.out (by simp [Tm.as])) (check_arg HCk.out (by simp [Tm.as])) (HU.out.1.grown HS1.out.gr HU.out.2) HU.out.2 sComma (by decide) ⟨#[44]⟩ rfl).mono ?_);rintro e u9 hp;rw [HR.out] at hp;obtain ⟨A5,c5,rfl,hta,hnu,hg⟩:=hp.letters HL5.out.1 HL5.out.2.1 HL5.out.2.2;have HS9:=Qh (HS1.out.go hg hnu);obtain ⟨a0,a1,a2,a3,a4,a5⟩:=HS9.out.r.cells rfl rfl;obtain ⟨e0,e1,e2,e3,e4,e5⟩:=HS9.out.r.frozens;have HT9:=Qh hta;clear hta hnu hg hp))
   have hta9:TAtP u9 (fun b=>P b∨(G+1+1+1+1<b∧b<u9.heap.size)) (.mk k5 n5 m5 b5 v5 ts5) (.slice A5 L5 c5):=HT9.out.wide (fun b hb=>by
    rcases hb with hb | hb
    ·exact .inl hb
    ·have:=HS1.out.lt;have:=HS1.out.hw;exact .inr ⟨by omega,hb.2⟩)
   obtain ⟨hbx,hpost⟩:=body_fin HL5.out.1 HL5.out.2.1 HL5.out.2.2 HS9.out.r (by have:=HS9.out.hw;omega) HS9.out.hP (by have:=HS9.out.hw;omega) hta9 HS9.out.gr HS9.out.num rfl
   generalize ((((((u9.setCell ⟨G+1+1+1+1,0,none⟩ (.int .i64 k5)).setCell ⟨G+1+1+1+1,1,none⟩ (.string nb5)).setCell ⟨G+1+1+1+1,2,none⟩ (.string mb5)).setCell ⟨G+1+1+1+1,3,none⟩ (.int .u64 b5)).setCell ⟨G+1+1+1+1,4,none⟩ (.int .i64 v5)).setCell ⟨G+1+1+1+1,5,none⟩ (.slice A5 L5 c5))=w9 at *
   obtain ⟨r0,r1,r2,r3,r4,r5⟩:=hbx.cells HL5.out.1 HL5.out.2.1
   refine bodyPost_ret (v:=.agg (Q5 k5 nb5 mb5 b5 v5 (.slice A5 L5 c5))) (by simp [results,Tryd.results38,go_sem,r0,r1,r2,r3,r4,r5]) rfl ?_
   exact hpost
 | false=>
  go_upto_region 7 with (go_at_call 30;(with_reducible refine (HI1.out _).mono ?_);rintro e u1 ⟨rfl,hb⟩;have HS1:=Qh (HS0.out.below hb);clear x0 x1 x2 x3 x4 x5;obtain ⟨x0,x1,x2,x3,x4,x5⟩:=HS1.out.bf.t1.cells HM.out.1.1 HM.out.1.2;clear hb)
  by_cases hB:B2=true∨B3=true
  ·obtain rfl | ⟨rfl,rfl⟩:B2=true∨(B2=false∧B3=true):=by
    cases B2 with
    | true=>exact .inl rfl
    | false=>exact .inr ⟨rfl,hB.resolve_left (by simp)⟩
   focus
    obtain ⟨e1,e2,e3⟩:=isC_iff.1 HC2.out
    change k1=5 at e1
    change n1=sSemi at e2
    change ts1.length=2 at e3
    subst e1 e2
    have hL2:L1=2:=by rw [←HL.out.1];exact e3
    subst hL2
    obtain ⟨x,y,rfl⟩:∃ x y,ts1 = [x,y]:=by
     match ts1,e3 with
     | [x,y],_=>exact ⟨x,y,rfl⟩
    clear e3
    have hr:=HRR.out
    rw [mkB_alt (.inl rfl)] at hr
    have HR:=Qh hr
    clear hr HRR
    go_upto_region 9 with (go_at_call 30;(with_reducible refine (HI2.out _).mono ?_);rintro e u3 ⟨rfl,hb⟩;have HS3:=Qh (HS1.out.below hb);clear x0 x1 x2 x3 x4 x5;obtain ⟨x0,x1,x2,x3,x4,x5⟩:=HS3.out.bf.t1.cells HM.out.1.1 HM.out.1.2;clear hb)
   rotate_left
   focus
    obtain ⟨e1,e2,e3⟩:=isC_iff.1 HC3.out
    change k1=5 at e1
    change n1=sBar at e2
    change ts1.length=2 at e3
    subst e1 e2
    have hL2:L1=2:=by rw [←HL.out.1];exact e3
    subst hL2
    obtain ⟨x,y,rfl⟩:∃ x y,ts1 = [x,y]:=by
     match ts1,e3 with
     | [x,y],_=>exact ⟨x,y,rfl⟩
    clear e3
    have hr:=HRR.out
    rw [mkB_alt (.inr rfl)] at hr
    have HR:=Qh hr
    clear hr HRR
    go_upto_region 9 with (first
     | (go_at_call 30;(with_reducible refine (HI2.out _).mono ?_);rintro e u2 ⟨rfl,hb⟩;have HS2:=Qh (HS1.out.below hb);clear x0 x1 x2 x3 x4 x5;obtain ⟨x0,x1,x2,x3,x4,x5⟩:=HS2.out.bf.t1.cells HM.out.1.1 HM.out.1.2;clear hb)
     | (go_at_call 30;(with_reducible refine (HI3.out _).mono ?_);rintro e u3 ⟨rfl,hb⟩;have HS3:=Qh (HS2.out.below hb);clear x0 x1 x2 x3 x4 x5;obtain ⟨x0,x1,x2,x3,x4,x5⟩:=HS3.out.bf.t1.cells HM.out.1.1 HM.out.1.2;clear hb))
   rotate_left
   all_goals (
    obtain ⟨Ax,cx,hst,_,_,_,_,hgo⟩:=TAtP.iff.1 HS3.out.bf.x1
    obtain ⟨g,o,hA,hPg,hel⟩:=hgo (by simp [Tm.as])
    injection hst with e1 e2 e3
    rw [hA] at e1
    subst e1
    have HPg:=Qh (HS3.out.bf.hP g hPg)
    have hex:=hel 0 x rfl
    obtain ⟨A5,c5,k5,n5,m5,b5,v5,ts5,nb5,mb5,rfl,hnb,hmb,htx,q0,q1,q2,q3,q4,q5⟩:=EltP.cells hex
    obtain ⟨L5,hL⟩:∃ L,ts5.length=L:=⟨_,rfl⟩
    rw [hL] at q5 htx
    rw [Nat.zero_mul,Nat.add_zero] at q0 q1 q2 q3 q4 q5
    have HL5:=Qh (Qa hnb (Qa hmb hL))
    have HE5:=Qh (Qa htx (Qa q0 (Qa q1 (Qa q2 (Qa q3 (Qa q4 q5))))))
    clear hnb hmb hL htx q0 q1 q2 q3 q4 q5 hex
    have hex:=hel 1 y rfl
    obtain ⟨A6,c6,k6,n6,m6,b6,v6,ts6,nb6,mb6,rfl,hnb,hmb,htx,q0,q1,q2,q3,q4,q5⟩:=EltP.cells hex
    obtain ⟨L6,hL⟩:∃ L,ts6.length=L:=⟨_,rfl⟩
    rw [hL] at q5 htx
    rw [Nat.one_mul] at q0 q1 q2 q3 q4 q5
    have HL6:=Qh (Qa hnb (Qa hmb hL))
    have HE6:=Qh (Qa htx (Qa q0 (Qa q1 (Qa q2 (Qa q3 (Qa q4 q5))))))
    clear hnb hmb hL htx q0 q1 q2 q3 q4 q5 hex
    clear hgo hA hPg hel e2 e3
    obtain ⟨RX,hRX⟩:∃ RX,mkB (.mk k5 n5 m5 b5 v5 ts5) (.mk k2 n2 m2 b2 v2 ts2) (.mk k3 n3 m3 b3 v3 ts3) x=RX:=⟨_,rfl⟩
    have HCx:=Qh (fun v (hb:Below u3.heap.size u3 v)=>HIH.out (.mk k5 n5 m5 b5 v5 ts5) (by simp) v P _ _ _ _ _ Q N x (fun b hb2=>⟨Ql (HS3.out.bf.hP b hb2).1 hb.size,(HS3.out.bf.hP b hb2).2⟩) (HE5.out.1.below hb (fun b hb2=>(HS3.out.bf.hP b hb2).1)) (HS3.out.bf.x2.below hb (fun b hb2=>(HS3.out.bf.hP b hb2).1)) (HS3.out.bf.x3.below hb (fun b hb2=>(HS3.out.bf.hP b hb2).1)) (HS3.out.num.below hb) HBd.out.1 (by have:=HBd.out.2;rw [sz_two] at this;omega) (check_arg HCk.out (by simp [Tm.as])) ((HU.out.1.grown HS3.out.gr HU.out.2).below hb) HU.out.2)
    rw [hRX,valT_mk HL5.out.1 HL5.out.2.1,valT_mk HM.out.2.1.1 HM.out.2.1.2,valT_mk HM.out.2.2.1 HM.out.2.2.2,show freshV Q = .func (.func 60) #[] #[.pointer (some ⟨Q,0,none⟩)] from rfl] at HCx
    have HSS:=Qh (show ∀ z,u3.grownBy z (some N)→(z.cell? ⟨G,5,none⟩=some (.slice (some ⟨g,o,none⟩) 2 c1)∧(Q7 z g o k5 nb5 mb5 b5 v5 (.slice A5 L5 c5))∧(Q6 z (G+1) k2 nb2 mb2 b2 v2 (.slice A2 L2 c2))∧(Q6 z (G+1+1) k3 nb3 mb3 b3 v3 (.slice A3 L3 c3))∧z.cell? ⟨G+1+1+1,0,none⟩=some (.func (.func 60) #[] #[.pointer (some ⟨Q,0,none⟩)])) from fun z hg=>by
     have hb:=HS3.out.bf.go hg
     have hz:z.heap[g]?=u3.heap[g]?:=hg.block g HPg.out.1 (fun e=>HPg.out.2 (by injection e))
     exact ⟨(hb.t1.cells HM.out.1.1 HM.out.1.2).2.2.2.2.2,⟨(Qc (a:=⟨g,o,none⟩) hz).trans HE5.out.2.1,(Qc (a:=⟨g,o+1,none⟩) hz).trans HE5.out.2.2.1,(Qc (a:=⟨g,o+2,none⟩) hz).trans HE5.out.2.2.2.1,(Qc (a:=⟨g,o+3,none⟩) hz).trans HE5.out.2.2.2.2.1,(Qc (a:=⟨g,o+4,none⟩) hz).trans HE5.out.2.2.2.2.2.1,(Qc (a:=⟨g,o+5,none⟩) hz).trans HE5.out.2.2.2.2.2.2⟩,hb.t2.cells HM.out.2.1.1 HM.out.2.1.2,hb.t3.cells HM.out.2.2.1 HM.out.2.2.2,cell_of_one hb.t0⟩)
    refine wp_region_wait (fun z=>(z.cell? ⟨G,5,none⟩=some (.slice (some ⟨g,o,none⟩) 2 c1)∧(Q7 z g o k5 nb5 mb5 b5 v5 (.slice A5 L5 c5))∧(Q6 z (G+1) k2 nb2 mb2 b2 v2 (.slice A2 L2 c2))∧(Q6 z (G+1+1) k3 nb3 mb3 b3 v3 (.slice A3 L3 c3))∧z.cell? ⟨G+1+1+1,0,none⟩=some (.func (.func 60) #[] #[.pointer (some ⟨Q,0,none⟩)]))) 9 (by kernel_rfl) ?_
    change wpAnyW _ _ _ _ _ _ _ _ _ u3.drew
    have KK:=Qh (below_drew' u3)
    generalize u3.drew=v0 at *
    refine w3 9 0 (.pointer (some ⟨G,5,none⟩)) (HSS.out _ (grown_below KK.out)) ?_ ?_
    ·intro w5 hSw
     obtain ⟨s1,⟨p0,p1,p2,p3,p4,p5⟩,⟨q0,q1,q2,q3,q4,q5⟩,⟨r0,r1,r2,r3,r4,r5⟩,s2⟩:=hSw
     go_simp
    refine w3 9 1 (.slice (some ⟨g,o,none⟩) 2 c1) (HSS.out _ (grown_below KK.out)) ?_ ?_
    ·intro w5 hSw
     obtain ⟨s1,⟨p0,p1,p2,p3,p4,p5⟩,⟨q0,q1,q2,q3,q4,q5⟩,⟨r0,r1,r2,r3,r4,r5⟩,s2⟩:=hSw
     go_simp
    refine w3 9 2 (.pointer (some ⟨g,o,none⟩)) (HSS.out _ (grown_below KK.out)) ?_ ?_
    ·intro w5 hSw
     obtain ⟨s1,⟨p0,p1,p2,p3,p4,p5⟩,⟨q0,q1,q2,q3,q4,q5⟩,⟨r0,r1,r2,r3,r4,r5⟩,s2⟩:=hSw
     go_simp
    refine w3 9 3 (.agg (Q5 k5 nb5 mb5 b5 v5 (.slice A5 L5 c5))) (HSS.out _ (grown_below KK.out)) ?_ ?_
    ·intro w5 hSw
     obtain ⟨s1,⟨p0,p1,p2,p3,p4,p5⟩,⟨q0,q1,q2,q3,q4,q5⟩,⟨r0,r1,r2,r3,r4,r5⟩,s2⟩:=hSw
     go_simp
    refine w3 9 4 (.agg (Q5 k2 nb2 mb2 b2 v2 (.slice A2 L2 c2))) (HSS.out _ (grown_below KK.out)) ?_ ?_
    ·intro w5 hSw
     obtain ⟨s1,⟨p0,p1,p2,p3,p4,p5⟩,⟨q0,q1,q2,q3,q4,q5⟩,⟨r0,r1,r2,r3,r4,r5⟩,s2⟩:=hSw
     go_simp
    refine w3 9 5 (.agg (Q5 k3 nb3 mb3 b3 v3 (.slice A3 L3 c3))) (HSS.out _ (grown_below KK.out)) ?_ ?_
    ·intro w5 hSw
     obtain ⟨s1,⟨p0,p1,p2,p3,p4,p5⟩,⟨q0,q1,q2,q3,q4,q5⟩,⟨r0,r1,r2,r3,r4,r5⟩,s2⟩:=hSw
     go_simp
    refine w3 9 6 (.func (.func 60) #[] #[.pointer (some ⟨Q,0,none⟩)]) (HSS.out _ (grown_below KK.out)) ?_ ?_
    ·intro w5 hSw
     obtain ⟨s1,⟨p0,p1,p2,p3,p4,p5⟩,⟨q0,q1,q2,q3,q4,q5⟩,⟨r0,r1,r2,r3,r4,r5⟩,s2⟩:=hSw
     go_simp
    cases RX with
    | error bt=>
     have hRE:=HR.out
     rw [altR_bad hRX] at hRE
     subst hRE
     refine wpAnyW_two (i:=7) (i2:=8) (by kernel_rfl) rfl rfl (fun K hK=>?_) (fun K hK=>?_)
     ·go_simp
      (with_reducible refine (HCx.out _ KK.out).mono ?_)
      rintro e u9 hp
      obtain ⟨hg,bb,rfl,hball⟩:=hp.bad
      exact ⟨rfl,grown_trans HS3.out.gr (grown_trans (grown_below KK.out) hg),bb,rfl,hball⟩
     ·go_simp
      have hb:Below v0.heap.size v0 (v0.alloc (.cells Qz 25)):=Qb
      replace KK:=Qh (Qt KK.out hb)
      clear hb
      refine hK.out _ _ (fun _=>HSS.out _ (grown_below KK.out)) ?_
      generalize v0.alloc (.cells Qz 25)=v9 at *
      generalize v0.heap.size=AB at *
      refine w1 7 fun K hK=>?_
      go_simp
      (with_reducible refine (HCx.out _ KK.out).mono ?_)
      rintro e u9 hp
      obtain ⟨hg,bb,rfl,hball⟩:=hp.bad
      exact ⟨rfl,grown_trans HS3.out.gr (grown_trans (grown_below KK.out) hg),bb,rfl,hball⟩
    | ok p=>
     obtain ⟨a,n1'⟩:=p
     have HNx:=Qh (mkB_next hRX)
     have hr:=HR.out
     rw [altR_ok hRX] at hr
     replace HR:=Qh hr
     clear hr hRX
     obtain ⟨k7,n7,m7,b7,v7,ts7⟩:=a
     obtain ⟨nb7,hnb7⟩:∃ nb:ByteArray,(⟨n7.toArray⟩:ByteArray)=nb:=⟨_,rfl⟩
     obtain ⟨mb7,hmb7⟩:∃ mb:ByteArray,(⟨m7.toArray⟩:ByteArray)=mb:=⟨_,rfl⟩
     obtain ⟨L7,hL7⟩:∃ L,ts7.length=L:=⟨_,rfl⟩
     have HL7:=Qh (Qa hnb7 (Qa hmb7 hL7))
     clear hnb7 hmb7 hL7
     refine wpAnyW_two (i:=7) (i2:=8) (by kernel_rfl) rfl rfl (fun K hK=>?_) (fun K hK=>?_)
     ·go_simp
      (with_reducible refine (HCx.out _ KK.out).mono ?_)
      rintro e uc hp
      obtain ⟨A7,c7,rfl,hta,hnu,hg⟩:=hp.letters HL7.out.1 HL7.out.2.1 HL7.out.2.2
      have GG:=Qh (grown_trans (grown_below (r:=some N) KK.out) hg)
      have KZ:=KK.out.size
      have GZ:=hg.size
      have hsw:=HS3.out.hw
      have hslt:=HS3.out.lt
      have HTA:=Qh (show TAtP uc (fun b=>P b∨(G+1+1+1+1<b∧b<uc.heap.size)) (.mk k7 n7 m7 b7 v7 ts7) (.slice A7 L7 c7) from hta.wide (fun b hb=>by rcases hb with hb | hb;exact .inl hb;exact .inr ⟨by omega,hb.2⟩))
      have HNu:=Qh hnu
      clear hta hnu hg hp
      refine hK.out _ _ (fun _=>HSS.out _ GG.out) ?_
      refine w1 8 fun K hK=>?_
      go_simp
      have hb:Below uc.heap.size uc (uc.alloc (.cells Qz 25)):=Qb
      have HAB:=Qh (show TBox (uc.alloc (.cells Qz 25)) uc.heap.size zeroT (.slice none 0 0)∧uc.heap.size≠N∧u3.heap.size≤uc.heap.size from ⟨heap_alloc_new uc _,by omega,by omega⟩)
      have hb9:=hb
      replace HTA:=Qh (show TAtP (uc.alloc (.cells Qz 25)) (fun b=>P b∨(G+1+1+1+1<b∧b<(uc.alloc (.cells Qz 25)).heap.size∧b≠uc.heap.size)) (.mk k7 n7 m7 b7 v7 ts7) (.slice A7 L7 c7) from TAtP.keep _ HTA.out (fun b hb=>⟨by rcases hb with hb | hb;exact .inl hb;exact .inr ⟨hb.1,Ql hb.2 hb9.size,by omega⟩,hb9.block b (by rcases hb with hb | hb;exact Ql (HS3.out.bf.hP b hb).1 (by omega);exact hb.2)⟩))
      replace HNu:=Qh (HNu.out.below hb)
      replace GG:=Qh (grown_trans GG.out (grown_below hb))
      clear hb9
      clear hb
      refine hK.out _ _ (fun _=>HSS.out _ GG.out) ?_
      generalize uc.alloc (.cells Qz 25)=ua at *
      generalize uc.heap.size=AB at *
      refine w1 9 fun K hK=>?_
      obtain ⟨d0,d1,d2,d3,d4,d5⟩:=HAB.out.1.cells rfl rfl
      obtain ⟨f0,f1,f2,f3,f4,f5⟩:=HAB.out.1.frozens
      go_simp
      refine hK.out _ _ (fun h=>absurd h (by simp)) ?_
      refine wpAnyW_done (by kernel_rfl) ?_ _
      obtain ⟨hbx,hgr⟩:=HAB.out.1.set6 (k:=k7) (b:=b7) (v:=v7) (n:=n7) (m:=m7) ts7 (.slice A7 L7 c7) HL7.out.1 HL7.out.2.1
      generalize ((((((ua.setCell ⟨AB,0,none⟩ (.int .i64 k7)).setCell ⟨AB,1,none⟩ (.string nb7)).setCell ⟨AB,2,none⟩ (.string mb7)).setCell ⟨AB,3,none⟩ (.int .u64 b7)).setCell ⟨AB,4,none⟩ (.int .i64 v7)).setCell ⟨AB,5,none⟩ (.slice A7 L7 c7))=w5 at *
      have hAB:=HAB.out.2
      have hsw:=HS3.out.hw
      have hslt:=HS3.out.lt
      have HG5:=Qh (show u3.grownBy w5 (some N) from gb_new GG.out hgr (by omega))
      have HS5:=Qh (HS3.out.go HG5.out (HNu.out.gro hgr (by omega) (by omega)))
      have HT5:=Qh (show TAtP w5 (fun b=>P b∨(G+1+1+1+1<b∧b<w5.heap.size)) (.mk k7 n7 m7 b7 v7 ts7) (.slice A7 L7 c7) from TAtP.keep _ HTA.out (fun b hb=>⟨by rcases hb with hb | hb;exact .inl hb;exact .inr ⟨hb.1,Ql hb.2.1 hgr.size⟩,hgr.block b (by rcases hb with hb | hb;exact Ql (HS3.out.bf.hP b hb).1 GG.out.size;exact hb.2.1) (fun e=>by injection e with e;rcases hb with hb | hb;have:=(HS3.out.bf.hP b hb).1;omega;omega)⟩))
      obtain ⟨RY,hRY⟩:∃ RY,mkB (.mk k6 n6 m6 b6 v6 ts6) (.mk k2 n2 m2 b2 v2 ts2) (.mk k3 n3 m3 b3 v3 ts3) n1'=RY:=⟨_,rfl⟩
      have hr:=HR.out
      rw [hRY] at hr
      replace HR:=Qh hr
      have HCy:=Qh (fun v (hb:Below w5.heap.size w5 v)=>HIH.out (.mk k6 n6 m6 b6 v6 ts6) (by simp) v P _ _ _ _ _ Q N n1' (fun b hb2=>⟨Ql (HS5.out.bf.hP b hb2).1 hb.size,(HS5.out.bf.hP b hb2).2⟩) ((TAtP.gro HE6.out.1 HS3.out.bf.hP HG5.out).below hb (fun b hb2=>(HS5.out.bf.hP b hb2).1)) (HS5.out.bf.x2.below hb (fun b hb2=>(HS5.out.bf.hP b hb2).1)) (HS5.out.bf.x3.below hb (fun b hb2=>(HS5.out.bf.hP b hb2).1)) (HS5.out.num.below hb) (by have:=HBd.out.1;have:=HNx.out;omega) (by have:=HBd.out.2;rw [sz_two] at this;have:=HNx.out;omega) (check_arg HCk.out (by simp [Tm.as])) ((HU.out.1.grown HS5.out.gr HU.out.2).below hb) HU.out.2)
      rw [hRY,valT_mk HL6.out.1 HL6.out.2.1,valT_mk HM.out.2.1.1 HM.out.2.1.2,valT_mk HM.out.2.2.1 HM.out.2.2.2,show freshV Q = .func (.func 60) #[] #[.pointer (some ⟨Q,0,none⟩)] from rfl] at HCy
      have HSY:=Qh (show ∀ z,w5.grownBy z (some N)→((Q6 z AB k7 nb7 mb7 b7 v7 (.slice A7 L7 c7))∧z.cell? ⟨G,5,none⟩=some (.slice (some ⟨g,o,none⟩) 2 c1)∧(Q7 z g (o+6) k6 nb6 mb6 b6 v6 (.slice A6 L6 c6))∧(Q6 z (G+1) k2 nb2 mb2 b2 v2 (.slice A2 L2 c2))∧(Q6 z (G+1+1) k3 nb3 mb3 b3 v3 (.slice A3 L3 c3))∧z.cell? ⟨G+1+1+1,0,none⟩=some (.func (.func 60) #[] #[.pointer (some ⟨Q,0,none⟩)])) from fun z hg=>by
       have hb:=HS5.out.bf.go hg
       have hz:z.heap[g]?=u3.heap[g]?:=(hg.block g (Ql HPg.out.1 HG5.out.size) (fun e=>HPg.out.2 (by injection e))).trans (HG5.out.block g HPg.out.1 (fun e=>HPg.out.2 (by injection e)))
       exact ⟨(TBox.gro hbx hg (by omega)).cells HL7.out.1 HL7.out.2.1,(hb.t1.cells HM.out.1.1 HM.out.1.2).2.2.2.2.2,⟨(Qc (a:=⟨g,o+6,none⟩) hz).trans HE6.out.2.1,(Qc (a:=⟨g,o+6+1,none⟩) hz).trans HE6.out.2.2.1,(Qc (a:=⟨g,o+6+2,none⟩) hz).trans HE6.out.2.2.2.1,(Qc (a:=⟨g,o+6+3,none⟩) hz).trans HE6.out.2.2.2.2.1,(Qc (a:=⟨g,o+6+4,none⟩) hz).trans HE6.out.2.2.2.2.2.1,(Qc (a:=⟨g,o+6+5,none⟩) hz).trans HE6.out.2.2.2.2.2.2⟩,hb.t2.cells HM.out.2.1.1 HM.out.2.1.2,hb.t3.cells HM.out.2.2.1 HM.out.2.2.2,cell_of_one hb.t0⟩)
      clear hAB hsw hslt hbx hgr KK GG HAB HTA HNu HCx HSS hRY hr
      go_upto_region 10 with fail
      refine wp_region_wait (fun z=>((Q6 z AB k7 nb7 mb7 b7 v7 (.slice A7 L7 c7))∧z.cell? ⟨G,5,none⟩=some (.slice (some ⟨g,o,none⟩) 2 c1)∧(Q7 z g (o+6) k6 nb6 mb6 b6 v6 (.slice A6 L6 c6))∧(Q6 z (G+1) k2 nb2 mb2 b2 v2 (.slice A2 L2 c2))∧(Q6 z (G+1+1) k3 nb3 mb3 b3 v3 (.slice A3 L3 c3))∧z.cell? ⟨G+1+1+1,0,none⟩=some (.func (.func 60) #[] #[.pointer (some ⟨Q,0,none⟩)]))) 11 (by kernel_rfl) ?_
      change wpAnyW _ _ _ _ _ _ _ _ _ w5.drew
      have KY:=Qh (below_drew' w5)
      generalize w5.drew=y0v at *
      refine w3 11 0 (.agg (Q5 k7 nb7 mb7 b7 v7 (.slice A7 L7 c7))) (HSY.out _ (grown_below KY.out)) ?_ ?_
      ·intro w5 hSw
       obtain ⟨⟨d0,d1,d2,d3,d4,d5⟩,s1,⟨p0,p1,p2,p3,p4,p5⟩,⟨q0,q1,q2,q3,q4,q5⟩,⟨r0,r1,r2,r3,r4,r5⟩,s2⟩:=hSw
       go_simp
      refine w3 11 1 (.pointer (some ⟨G,5,none⟩)) (HSY.out _ (grown_below KY.out)) ?_ ?_
      ·intro w5 hSw
       obtain ⟨⟨d0,d1,d2,d3,d4,d5⟩,s1,⟨p0,p1,p2,p3,p4,p5⟩,⟨q0,q1,q2,q3,q4,q5⟩,⟨r0,r1,r2,r3,r4,r5⟩,s2⟩:=hSw
       go_simp
      refine w3 11 2 (.slice (some ⟨g,o,none⟩) 2 c1) (HSY.out _ (grown_below KY.out)) ?_ ?_
      ·intro w5 hSw
       obtain ⟨⟨d0,d1,d2,d3,d4,d5⟩,s1,⟨p0,p1,p2,p3,p4,p5⟩,⟨q0,q1,q2,q3,q4,q5⟩,⟨r0,r1,r2,r3,r4,r5⟩,s2⟩:=hSw
       go_simp
      refine w3 11 3 (.pointer (some ⟨g,o+6,none⟩)) (HSY.out _ (grown_below KY.out)) ?_ ?_
      ·intro w5 hSw
       obtain ⟨⟨d0,d1,d2,d3,d4,d5⟩,s1,⟨p0,p1,p2,p3,p4,p5⟩,⟨q0,q1,q2,q3,q4,q5⟩,⟨r0,r1,r2,r3,r4,r5⟩,s2⟩:=hSw
       go_simp
      refine w3 11 4 (.agg (Q5 k6 nb6 mb6 b6 v6 (.slice A6 L6 c6))) (HSY.out _ (grown_below KY.out)) ?_ ?_
      ·intro w5 hSw
       obtain ⟨⟨d0,d1,d2,d3,d4,d5⟩,s1,⟨p0,p1,p2,p3,p4,p5⟩,⟨q0,q1,q2,q3,q4,q5⟩,⟨r0,r1,r2,r3,r4,r5⟩,s2⟩:=hSw
       go_simp
      refine w3 11 5 (.agg (Q5 k2 nb2 mb2 b2 v2 (.slice A2 L2 c2))) (HSY.out _ (grown_below KY.out)) ?_ ?_
      ·intro w5 hSw
       obtain ⟨⟨d0,d1,d2,d3,d4,d5⟩,s1,⟨p0,p1,p2,p3,p4,p5⟩,⟨q0,q1,q2,q3,q4,q5⟩,⟨r0,r1,r2,r3,r4,r5⟩,s2⟩:=hSw
       go_simp
      refine w3 11 6 (.agg (Q5 k3 nb3 mb3 b3 v3 (.slice A3 L3 c3))) (HSY.out _ (grown_below KY.out)) ?_ ?_
      ·intro w5 hSw
       obtain ⟨⟨d0,d1,d2,d3,d4,d5⟩,s1,⟨p0,p1,p2,p3,p4,p5⟩,⟨q0,q1,q2,q3,q4,q5⟩,⟨r0,r1,r2,r3,r4,r5⟩,s2⟩:=hSw
       go_simp
      refine w3 11 7 (.func (.func 60) #[] #[.pointer (some ⟨Q,0,none⟩)]) (HSY.out _ (grown_below KY.out)) ?_ ?_
      ·intro w5 hSw
       obtain ⟨⟨d0,d1,d2,d3,d4,d5⟩,s1,⟨p0,p1,p2,p3,p4,p5⟩,⟨q0,q1,q2,q3,q4,q5⟩,⟨r0,r1,r2,r3,r4,r5⟩,s2⟩:=hSw
       go_simp
      cases RY with
      | error bt=>
       have hRE:=HR.out
       change Except.error bt=RR at hRE
       subst hRE
       refine w1 8 fun K hK=>?_
       go_simp
       (with_reducible refine (HCy.out _ KY.out).mono ?_)
       rintro e u9 hp
       obtain ⟨hg,bb,rfl,hball⟩:=hp.bad
       exact ⟨rfl,grown_trans HS5.out.gr (grown_trans (grown_below KY.out) hg),bb,rfl,hball⟩
      | ok pp=>
       obtain ⟨cc,n2'⟩:=pp
       obtain ⟨k8,n8,m8,b8,v8,ts8⟩:=cc
       obtain ⟨nb8,hnb8⟩:∃ nb:ByteArray,(⟨n8.toArray⟩:ByteArray)=nb:=⟨_,rfl⟩
       obtain ⟨mb8,hmb8⟩:∃ mb:ByteArray,(⟨m8.toArray⟩:ByteArray)=mb:=⟨_,rfl⟩
       obtain ⟨L8,hL8⟩:∃ L,ts8.length=L:=⟨_,rfl⟩
       have HL8:=Qh (Qa hnb8 (Qa hmb8 hL8))
       clear hnb8 hmb8 hL8
       have HRE:=Qh (show Except.ok (cmpT sSemi [(.mk k7 n7 m7 b7 v7 ts7),(.mk k8 n8 m8 b8 v8 ts8)],n2')=RR from HR.out)
       refine w1 8 fun K hK=>?_
       go_simp
       (with_reducible refine (HCy.out _ KY.out).mono ?_)
       rintro e w6 hp
       obtain ⟨A8,c8,rfl,hta6,hnu6,hg60⟩:=hp.letters HL8.out.1 HL8.out.2.1 HL8.out.2.2
       have hg6:=grown_trans (grown_below (r:=some N) KY.out) hg60
       have HG6:=Qh hg6
       refine hK.out _ _ (fun _=>HSY.out _ HG6.out) ?_
       have HS6:=Qh (HS5.out.go hg6 hnu6)
       have ht5:TAtP w6 (fun b=>P b∨(G+1+1+1+1<b∧b<w6.heap.size)) (.mk k7 n7 m7 b7 v7 ts7) (.slice A7 L7 c7):=TAtP.keep _ HT5.out (fun b hb=>⟨by rcases hb with hb | hb;exact .inl hb;exact .inr ⟨hb.1,Ql hb.2 hg6.size⟩,hg6.block b (HS5.out.pb b hb) (fun e=>by injection e with e;rcases hb with hb | hb;exact (HS5.out.bf.hP b hb).2 e;have:=HS5.out.hw;omega)⟩)
       have ht6:TAtP w6 (fun b=>P b∨(G+1+1+1+1<b∧b<w6.heap.size)) (.mk k8 n8 m8 b8 v8 ts8) (.slice A8 L8 c8):=hta6.wide (fun b hb=>by
        rcases hb with hb | hb
        ·exact .inl hb
        ·have:=HS5.out.hw;have:=HS5.out.lt;have:=KY.out.size;exact .inr ⟨by omega,hb.2⟩)
       have HT6:=Qh (Qa ht5 ht6)
       clear ht5 ht6 hta6 hnu6 hg6 hg60 hp
       have hbA:Below w6.heap.size w6 (w6.alloc (.cells #[.int .i64 k7,.string nb7,.string mb7,.int .u64 b7,.int .i64 v7,.slice A7 L7 c7,.int .i64 k8,.string nb8,.string mb8,.int .u64 b8,.int .i64 v8,.slice A8 L8 c8] 25)):=Qb
       have HBA:=Qh hbA
       clear hbA
       refine w1 9 fun K hK=>?_
       go_simp
       refine hK.out _ _ (fun _=>HSY.out _ (grown_trans HG6.out (grown_below HBA.out))) ?_
       refine w1 10 fun K hK=>?_
       go_simp
       (with_reducible refine (of_any _ _ _ _ _).mono ?_)
       rintro e w8 ⟨rfl,hb8⟩
       have HBHS8:=Qh hb8
       have HS8:=Qh (HS6.out.below (Qt HBA.out hb8))
       refine hK.out _ _ (fun _=>HSY.out _ (grown_trans HG6.out (grown_below (Qt HBA.out hb8)))) ?_
       clear hb8
       refine w1 11 fun K hK=>?_
       obtain ⟨a0,a1,a2,a3,a4,a5⟩:=HS8.out.r.cells rfl rfl
       obtain ⟨e0,e1,e2,e3,e4,e5⟩:=HS8.out.r.frozens
       go_simp
       refine hK.out _ _ (fun h=>absurd h (by simp)) ?_
       refine wpAnyW_done (by kernel_rfl) ?_ _
       clear a0 a1 a2 a3 a4 a5 e0 e1 e2 e3 e4 e5
       go_wp2
       rw [←HRE.out]
       have hbu:=built (w:=w6) (s:=sSemi) (n:=2) (cs:=#[.int .i64 k7,.string nb7,.string mb7,.int .u64 b7,.int .i64 v7,.slice A7 L7 c7,.int .i64 k8,.string nb8,.string mb8,.int .u64 b8,.int .i64 v8,.slice A8 L8 c8]) (ps:=[((.mk k7 n7 m7 b7 v7 ts7:Tm),Value.slice A7 L7 c7),((.mk k8 n8 m8 b8 v8 ts8:Tm),Value.slice A8 L8 c8)]) (by rw [←HL7.out.1,←HL7.out.2.1,←HL8.out.1,←HL8.out.2.1];rfl) rfl (mem2 HT6.out.1 HT6.out.2) HS6.out.pb (by unfold maxArgs;omega) (by decide)
       have hta:=HS6.out.made (u1:=w6.alloc (.cells #[.int .i64 k7,.string nb7,.string mb7,.int .u64 b7,.int .i64 v7,.slice A7 L7 c7,.int .i64 k8,.string nb8,.string mb8,.int .u64 b8,.int .i64 v8,.slice A8 L8 c8] 25)) (by simp) hbu HBHS8.out
       obtain ⟨hbx,hpost⟩:=body_fin (n:=sSemi) (m:=[]) (nb:=⟨#[59]⟩) (mb:=⟨#[]⟩) (ts:=[(.mk k7 n7 m7 b7 v7 ts7),(.mk k8 n8 m8 b8 v8 ts8)]) rfl rfl rfl HS8.out.r (by have:=HS8.out.hw;omega) HS8.out.hP (by have:=HS8.out.hw;omega) hta HS8.out.gr HS8.out.num rfl
       generalize ((((((w8.setCell ⟨G+1+1+1+1,0,none⟩ (.int .i64 5)).setCell ⟨G+1+1+1+1,1,none⟩ (.string ⟨#[59]⟩)).setCell ⟨G+1+1+1+1,2,none⟩ (.string ⟨#[]⟩)).setCell ⟨G+1+1+1+1,3,none⟩ (.int .u64 0)).setCell ⟨G+1+1+1+1,4,none⟩ (.int .i64 0)).setCell ⟨G+1+1+1+1,5,none⟩ (.slice (some ⟨w6.heap.size,0,none⟩) 2 2))=w9 at *
       obtain ⟨r0,r1,r2,r3,r4,r5⟩:=hbx.cells (nb:=⟨#[59]⟩) (mb:=⟨#[]⟩) rfl rfl
       refine bodyPost_ret (v:=.agg (Qn 5 ⟨#[59]⟩ (.slice (some ⟨w6.heap.size,0,none⟩) 2 2))) (by simp [results,Tryd.results38,go_sem,r0,r1,r2,r3,r4,r5]) rfl ?_
       exact hpost
     ·go_simp
      have hb:Below v0.heap.size v0 (v0.alloc (.cells Qz 25)):=Qb
      have HAB:=Qh (show TBox (v0.alloc (.cells Qz 25)) v0.heap.size zeroT (.slice none 0 0)∧v0.heap.size≠N∧u3.heap.size≤v0.heap.size from ⟨heap_alloc_new v0 _,by have:=HS3.out.hw;have:=HS3.out.lt;have:=KK.out.size;omega,by have:=KK.out.size;omega⟩)
      replace KK:=Qh (Qt KK.out hb)
      clear hb
      refine hK.out _ _ (fun _=>HSS.out _ (grown_below KK.out)) ?_
      generalize v0.alloc (.cells Qz 25)=ua at *
      generalize v0.heap.size=AB at *
      refine w1 7 fun K hK=>?_
      go_simp
      (with_reducible refine (HCx.out _ KK.out).mono ?_)
      rintro e uc hp
      obtain ⟨A7,c7,rfl,hta,hnu,hg⟩:=hp.letters HL7.out.1 HL7.out.2.1 HL7.out.2.2
      have GG:=Qh (grown_trans (grown_below (r:=some N) KK.out) hg)
      have KZ:=KK.out.size
      have GZ:=hg.size
      have hsw:=HS3.out.hw
      have hslt:=HS3.out.lt
      have HTA:=Qh (show TAtP uc (fun b=>P b∨(G+1+1+1+1<b∧b<uc.heap.size∧b≠AB)) (.mk k7 n7 m7 b7 v7 ts7) (.slice A7 L7 c7) from hta.wide (fun b hb=>by rcases hb with hb | hb;exact .inl hb;exact .inr ⟨by omega,hb.2,by have:=HAB.out.1.lt;omega⟩))
      have HNu:=Qh hnu
      replace HAB:=Qh (show TBox uc AB zeroT (.slice none 0 0)∧AB≠N∧u3.heap.size≤AB from ⟨HAB.out.1.gro hg HAB.out.2.1,HAB.out.2⟩)
      clear hta hnu hg hp
      refine hK.out _ _ (fun _=>HSS.out _ GG.out) ?_
      refine w1 9 fun K hK=>?_
      obtain ⟨d0,d1,d2,d3,d4,d5⟩:=HAB.out.1.cells rfl rfl
      obtain ⟨f0,f1,f2,f3,f4,f5⟩:=HAB.out.1.frozens
      go_simp
      refine hK.out _ _ (fun h=>absurd h (by simp)) ?_
      refine wpAnyW_done (by kernel_rfl) ?_ _
      obtain ⟨hbx,hgr⟩:=HAB.out.1.set6 (k:=k7) (b:=b7) (v:=v7) (n:=n7) (m:=m7) ts7 (.slice A7 L7 c7) HL7.out.1 HL7.out.2.1
      generalize ((((((uc.setCell ⟨AB,0,none⟩ (.int .i64 k7)).setCell ⟨AB,1,none⟩ (.string nb7)).setCell ⟨AB,2,none⟩ (.string mb7)).setCell ⟨AB,3,none⟩ (.int .u64 b7)).setCell ⟨AB,4,none⟩ (.int .i64 v7)).setCell ⟨AB,5,none⟩ (.slice A7 L7 c7))=w5 at *
      have hAB:=HAB.out.2
      have hsw:=HS3.out.hw
      have hslt:=HS3.out.lt
      have HG5:=Qh (show u3.grownBy w5 (some N) from gb_new GG.out hgr (by omega))
      have HS5:=Qh (HS3.out.go HG5.out (HNu.out.gro hgr (by omega) (by omega)))
      have HT5:=Qh (show TAtP w5 (fun b=>P b∨(G+1+1+1+1<b∧b<w5.heap.size)) (.mk k7 n7 m7 b7 v7 ts7) (.slice A7 L7 c7) from TAtP.keep _ HTA.out (fun b hb=>⟨by rcases hb with hb | hb;exact .inl hb;exact .inr ⟨hb.1,Ql hb.2.1 hgr.size⟩,hgr.block b (by rcases hb with hb | hb;exact Ql (HS3.out.bf.hP b hb).1 GG.out.size;exact hb.2.1) (fun e=>by injection e with e;rcases hb with hb | hb;have:=(HS3.out.bf.hP b hb).1;omega;omega)⟩))
      obtain ⟨RY,hRY⟩:∃ RY,mkB (.mk k6 n6 m6 b6 v6 ts6) (.mk k2 n2 m2 b2 v2 ts2) (.mk k3 n3 m3 b3 v3 ts3) n1'=RY:=⟨_,rfl⟩
      have hr:=HR.out
      rw [hRY] at hr
      replace HR:=Qh hr
      have HCy:=Qh (fun v (hb:Below w5.heap.size w5 v)=>HIH.out (.mk k6 n6 m6 b6 v6 ts6) (by simp) v P _ _ _ _ _ Q N n1' (fun b hb2=>⟨Ql (HS5.out.bf.hP b hb2).1 hb.size,(HS5.out.bf.hP b hb2).2⟩) ((TAtP.gro HE6.out.1 HS3.out.bf.hP HG5.out).below hb (fun b hb2=>(HS5.out.bf.hP b hb2).1)) (HS5.out.bf.x2.below hb (fun b hb2=>(HS5.out.bf.hP b hb2).1)) (HS5.out.bf.x3.below hb (fun b hb2=>(HS5.out.bf.hP b hb2).1)) (HS5.out.num.below hb) (by have:=HBd.out.1;have:=HNx.out;omega) (by have:=HBd.out.2;rw [sz_two] at this;have:=HNx.out;omega) (check_arg HCk.out (by simp [Tm.as])) ((HU.out.1.grown HS5.out.gr HU.out.2).below hb) HU.out.2)
      rw [hRY,valT_mk HL6.out.1 HL6.out.2.1,valT_mk HM.out.2.1.1 HM.out.2.1.2,valT_mk HM.out.2.2.1 HM.out.2.2.2,show freshV Q = .func (.func 60) #[] #[.pointer (some ⟨Q,0,none⟩)] from rfl] at HCy
      have HSY:=Qh (show ∀ z,w5.grownBy z (some N)→((Q6 z AB k7 nb7 mb7 b7 v7 (.slice A7 L7 c7))∧z.cell? ⟨G,5,none⟩=some (.slice (some ⟨g,o,none⟩) 2 c1)∧(Q7 z g (o+6) k6 nb6 mb6 b6 v6 (.slice A6 L6 c6))∧(Q6 z (G+1) k2 nb2 mb2 b2 v2 (.slice A2 L2 c2))∧(Q6 z (G+1+1) k3 nb3 mb3 b3 v3 (.slice A3 L3 c3))∧z.cell? ⟨G+1+1+1,0,none⟩=some (.func (.func 60) #[] #[.pointer (some ⟨Q,0,none⟩)])) from fun z hg=>by
       have hb:=HS5.out.bf.go hg
       have hz:z.heap[g]?=u3.heap[g]?:=(hg.block g (Ql HPg.out.1 HG5.out.size) (fun e=>HPg.out.2 (by injection e))).trans (HG5.out.block g HPg.out.1 (fun e=>HPg.out.2 (by injection e)))
       exact ⟨(TBox.gro hbx hg (by omega)).cells HL7.out.1 HL7.out.2.1,(hb.t1.cells HM.out.1.1 HM.out.1.2).2.2.2.2.2,⟨(Qc (a:=⟨g,o+6,none⟩) hz).trans HE6.out.2.1,(Qc (a:=⟨g,o+6+1,none⟩) hz).trans HE6.out.2.2.1,(Qc (a:=⟨g,o+6+2,none⟩) hz).trans HE6.out.2.2.2.1,(Qc (a:=⟨g,o+6+3,none⟩) hz).trans HE6.out.2.2.2.2.1,(Qc (a:=⟨g,o+6+4,none⟩) hz).trans HE6.out.2.2.2.2.2.1,(Qc (a:=⟨g,o+6+5,none⟩) hz).trans HE6.out.2.2.2.2.2.2⟩,hb.t2.cells HM.out.2.1.1 HM.out.2.1.2,hb.t3.cells HM.out.2.2.1 HM.out.2.2.2,cell_of_one hb.t0⟩)
      clear hAB hsw hslt hbx hgr KK GG HAB HTA HNu HCx HSS hRY hr
      go_upto_region 10 with fail
      refine wp_region_wait (fun z=>((Q6 z AB k7 nb7 mb7 b7 v7 (.slice A7 L7 c7))∧z.cell? ⟨G,5,none⟩=some (.slice (some ⟨g,o,none⟩) 2 c1)∧(Q7 z g (o+6) k6 nb6 mb6 b6 v6 (.slice A6 L6 c6))∧(Q6 z (G+1) k2 nb2 mb2 b2 v2 (.slice A2 L2 c2))∧(Q6 z (G+1+1) k3 nb3 mb3 b3 v3 (.slice A3 L3 c3))∧z.cell? ⟨G+1+1+1,0,none⟩=some (.func (.func 60) #[] #[.pointer (some ⟨Q,0,none⟩)]))) 11 (by kernel_rfl) ?_
      change wpAnyW _ _ _ _ _ _ _ _ _ w5.drew
      have KY:=Qh (below_drew' w5)
      generalize w5.drew=y0v at *
      refine w3 11 0 (.agg (Q5 k7 nb7 mb7 b7 v7 (.slice A7 L7 c7))) (HSY.out _ (grown_below KY.out)) ?_ ?_
      ·intro w5 hSw
       obtain ⟨⟨d0,d1,d2,d3,d4,d5⟩,s1,⟨p0,p1,p2,p3,p4,p5⟩,⟨q0,q1,q2,q3,q4,q5⟩,⟨r0,r1,r2,r3,r4,r5⟩,s2⟩:=hSw
       go_simp
      refine w3 11 1 (.pointer (some ⟨G,5,none⟩)) (HSY.out _ (grown_below KY.out)) ?_ ?_
      ·intro w5 hSw
       obtain ⟨⟨d0,d1,d2,d3,d4,d5⟩,s1,⟨p0,p1,p2,p3,p4,p5⟩,⟨q0,q1,q2,q3,q4,q5⟩,⟨r0,r1,r2,r3,r4,r5⟩,s2⟩:=hSw
       go_simp
      refine w3 11 2 (.slice (some ⟨g,o,none⟩) 2 c1) (HSY.out _ (grown_below KY.out)) ?_ ?_
      ·intro w5 hSw
       obtain ⟨⟨d0,d1,d2,d3,d4,d5⟩,s1,⟨p0,p1,p2,p3,p4,p5⟩,⟨q0,q1,q2,q3,q4,q5⟩,⟨r0,r1,r2,r3,r4,r5⟩,s2⟩:=hSw
       go_simp
      refine w3 11 3 (.pointer (some ⟨g,o+6,none⟩)) (HSY.out _ (grown_below KY.out)) ?_ ?_
      ·intro w5 hSw
       obtain ⟨⟨d0,d1,d2,d3,d4,d5⟩,s1,⟨p0,p1,p2,p3,p4,p5⟩,⟨q0,q1,q2,q3,q4,q5⟩,⟨r0,r1,r2,r3,r4,r5⟩,s2⟩:=hSw
       go_simp
      refine w3 11 4 (.agg (Q5 k6 nb6 mb6 b6 v6 (.slice A6 L6 c6))) (HSY.out _ (grown_below KY.out)) ?_ ?_
      ·intro w5 hSw
       obtain ⟨⟨d0,d1,d2,d3,d4,d5⟩,s1,⟨p0,p1,p2,p3,p4,p5⟩,⟨q0,q1,q2,q3,q4,q5⟩,⟨r0,r1,r2,r3,r4,r5⟩,s2⟩:=hSw
       go_simp
      refine w3 11 5 (.agg (Q5 k2 nb2 mb2 b2 v2 (.slice A2 L2 c2))) (HSY.out _ (grown_below KY.out)) ?_ ?_
      ·intro w5 hSw
       obtain ⟨⟨d0,d1,d2,d3,d4,d5⟩,s1,⟨p0,p1,p2,p3,p4,p5⟩,⟨q0,q1,q2,q3,q4,q5⟩,⟨r0,r1,r2,r3,r4,r5⟩,s2⟩:=hSw
       go_simp
      refine w3 11 6 (.agg (Q5 k3 nb3 mb3 b3 v3 (.slice A3 L3 c3))) (HSY.out _ (grown_below KY.out)) ?_ ?_
      ·intro w5 hSw
       obtain ⟨⟨d0,d1,d2,d3,d4,d5⟩,s1,⟨p0,p1,p2,p3,p4,p5⟩,⟨q0,q1,q2,q3,q4,q5⟩,⟨r0,r1,r2,r3,r4,r5⟩,s2⟩:=hSw
       go_simp
      refine w3 11 7 (.func (.func 60) #[] #[.pointer (some ⟨Q,0,none⟩)]) (HSY.out _ (grown_below KY.out)) ?_ ?_
      ·intro w5 hSw
       obtain ⟨⟨d0,d1,d2,d3,d4,d5⟩,s1,⟨p0,p1,p2,p3,p4,p5⟩,⟨q0,q1,q2,q3,q4,q5⟩,⟨r0,r1,r2,r3,r4,r5⟩,s2⟩:=hSw
       go_simp
      cases RY with
      | error bt=>
       have hRE:=HR.out
       change Except.error bt=RR at hRE
       subst hRE
       refine w1 8 fun K hK=>?_
       go_simp
       (with_reducible refine (HCy.out _ KY.out).mono ?_)
       rintro e u9 hp
       obtain ⟨hg,bb,rfl,hball⟩:=hp.bad
       exact ⟨rfl,grown_trans HS5.out.gr (grown_trans (grown_below KY.out) hg),bb,rfl,hball⟩
      | ok pp=>
       obtain ⟨cc,n2'⟩:=pp
       obtain ⟨k8,n8,m8,b8,v8,ts8⟩:=cc
       obtain ⟨nb8,hnb8⟩:∃ nb:ByteArray,(⟨n8.toArray⟩:ByteArray)=nb:=⟨_,rfl⟩
       obtain ⟨mb8,hmb8⟩:∃ mb:ByteArray,(⟨m8.toArray⟩:ByteArray)=mb:=⟨_,rfl⟩
       obtain ⟨L8,hL8⟩:∃ L,ts8.length=L:=⟨_,rfl⟩
       have HL8:=Qh (Qa hnb8 (Qa hmb8 hL8))
       clear hnb8 hmb8 hL8
       have HRE:=Qh (show Except.ok (cmpT sSemi [(.mk k7 n7 m7 b7 v7 ts7),(.mk k8 n8 m8 b8 v8 ts8)],n2')=RR from HR.out)
       refine w1 8 fun K hK=>?_
       go_simp
       (with_reducible refine (HCy.out _ KY.out).mono ?_)
       rintro e w6 hp
       obtain ⟨A8,c8,rfl,hta6,hnu6,hg60⟩:=hp.letters HL8.out.1 HL8.out.2.1 HL8.out.2.2
       have hg6:=grown_trans (grown_below (r:=some N) KY.out) hg60
       have HG6:=Qh hg6
       refine hK.out _ _ (fun _=>HSY.out _ HG6.out) ?_
       have HS6:=Qh (HS5.out.go hg6 hnu6)
       have ht5:TAtP w6 (fun b=>P b∨(G+1+1+1+1<b∧b<w6.heap.size)) (.mk k7 n7 m7 b7 v7 ts7) (.slice A7 L7 c7):=TAtP.keep _ HT5.out (fun b hb=>⟨by rcases hb with hb | hb;exact .inl hb;exact .inr ⟨hb.1,Ql hb.2 hg6.size⟩,hg6.block b (HS5.out.pb b hb) (fun e=>by injection e with e;rcases hb with hb | hb;exact (HS5.out.bf.hP b hb).2 e;have:=HS5.out.hw;omega)⟩)
       have ht6:TAtP w6 (fun b=>P b∨(G+1+1+1+1<b∧b<w6.heap.size)) (.mk k8 n8 m8 b8 v8 ts8) (.slice A8 L8 c8):=hta6.wide (fun b hb=>by
        rcases hb with hb | hb
        ·exact .inl hb
        ·have:=HS5.out.hw;have:=HS5.out.lt;have:=KY.out.size;exact .inr ⟨by omega,hb.2⟩)
       have HT6:=Qh (Qa ht5 ht6)
       clear ht5 ht6 hta6 hnu6 hg6 hg60 hp
       have hbA:Below w6.heap.size w6 (w6.alloc (.cells #[.int .i64 k7,.string nb7,.string mb7,.int .u64 b7,.int .i64 v7,.slice A7 L7 c7,.int .i64 k8,.string nb8,.string mb8,.int .u64 b8,.int .i64 v8,.slice A8 L8 c8] 25)):=Qb
       have HBA:=Qh hbA
       clear hbA
       refine w1 9 fun K hK=>?_
       go_simp
       refine hK.out _ _ (fun _=>HSY.out _ (grown_trans HG6.out (grown_below HBA.out))) ?_
       refine w1 10 fun K hK=>?_
       go_simp
       (with_reducible refine (of_any _ _ _ _ _).mono ?_)
       rintro e w8 ⟨rfl,hb8⟩
       have HBHS8:=Qh hb8
       have HS8:=Qh (HS6.out.below (Qt HBA.out hb8))
       refine hK.out _ _ (fun _=>HSY.out _ (grown_trans HG6.out (grown_below (Qt HBA.out hb8)))) ?_
       clear hb8
       refine w1 11 fun K hK=>?_
       obtain ⟨a0,a1,a2,a3,a4,a5⟩:=HS8.out.r.cells rfl rfl
       obtain ⟨e0,e1,e2,e3,e4,e5⟩:=HS8.out.r.frozens
       go_simp
       refine hK.out _ _ (fun h=>absurd h (by simp)) ?_
       refine wpAnyW_done (by kernel_rfl) ?_ _
       clear a0 a1 a2 a3 a4 a5 e0 e1 e2 e3 e4 e5
       go_wp2
       rw [←HRE.out]
       have hbu:=built (w:=w6) (s:=sSemi) (n:=2) (cs:=#[.int .i64 k7,.string nb7,.string mb7,.int .u64 b7,.int .i64 v7,.slice A7 L7 c7,.int .i64 k8,.string nb8,.string mb8,.int .u64 b8,.int .i64 v8,.slice A8 L8 c8]) (ps:=[((.mk k7 n7 m7 b7 v7 ts7:Tm),Value.slice A7 L7 c7),((.mk k8 n8 m8 b8 v8 ts8:Tm),Value.slice A8 L8 c8)]) (by rw [←HL7.out.1,←HL7.out.2.1,←HL8.out.1,←HL8.out.2.1];rfl) rfl (mem2 HT6.out.1 HT6.out.2) HS6.out.pb (by unfold maxArgs;omega) (by decide)
       have hta:=HS6.out.made (u1:=w6.alloc (.cells #[.int .i64 k7,.string nb7,.string mb7,.int .u64 b7,.int .i64 v7,.slice A7 L7 c7,.int .i64 k8,.string nb8,.string mb8,.int .u64 b8,.int .i64 v8,.slice A8 L8 c8] 25)) (by simp) hbu HBHS8.out
       obtain ⟨hbx,hpost⟩:=body_fin (n:=sSemi) (m:=[]) (nb:=⟨#[59]⟩) (mb:=⟨#[]⟩) (ts:=[(.mk k7 n7 m7 b7 v7 ts7),(.mk k8 n8 m8 b8 v8 ts8)]) rfl rfl rfl HS8.out.r (by have:=HS8.out.hw;omega) HS8.out.hP (by have:=HS8.out.hw;omega) hta HS8.out.gr HS8.out.num rfl
       generalize ((((((w8.setCell ⟨G+1+1+1+1,0,none⟩ (.int .i64 5)).setCell ⟨G+1+1+1+1,1,none⟩ (.string ⟨#[59]⟩)).setCell ⟨G+1+1+1+1,2,none⟩ (.string ⟨#[]⟩)).setCell ⟨G+1+1+1+1,3,none⟩ (.int .u64 0)).setCell ⟨G+1+1+1+1,4,none⟩ (.int .i64 0)).setCell ⟨G+1+1+1+1,5,none⟩ (.slice (some ⟨w6.heap.size,0,none⟩) 2 2))=w9 at *
       obtain ⟨r0,r1,r2,r3,r4,r5⟩:=hbx.cells (nb:=⟨#[59]⟩) (mb:=⟨#[]⟩) rfl rfl
       refine bodyPost_ret (v:=.agg (Qn 5 ⟨#[59]⟩ (.slice (some ⟨w6.heap.size,0,none⟩) 2 2))) (by simp [results,Tryd.results38,go_sem,r0,r1,r2,r3,r4,r5]) rfl ?_
       exact hpost)
  obtain ⟨rfl,rfl⟩:B2=false∧B3=false:=by
   constructor
   ·cases B2 with
    | false=>rfl
    | true=>exact absurd (.inl rfl) hB
   ·cases B3 with
    | false=>rfl
    | true=>exact absurd (.inr rfl) hB
  clear hB
  go_upto_region 11 with (first
   | (go_at_call 30;(with_reducible refine (HI2.out _).mono ?_);rintro e u2 ⟨rfl,hb⟩;have HS2:=Qh (HS1.out.below hb);clear x0 x1 x2 x3 x4 x5;obtain ⟨x0,x1,x2,x3,x4,x5⟩:=HS2.out.bf.t1.cells HM.out.1.1 HM.out.1.2;clear hb)
   | (go_at_call 30;(with_reducible refine (HI3.out _).mono ?_);rintro e u3 ⟨rfl,hb⟩;have HS3:=Qh (HS2.out.below hb);clear x0 x1 x2 x3 x4 x5;obtain ⟨x0,x1,x2,x3,x4,x5⟩:=HS3.out.bf.t1.cells HM.out.1.1 HM.out.1.2;clear hb))
  cases B4 with
  | true=>
   obtain ⟨e1,e2,e3⟩:=isC_iff.1 HC4.out
   change k1=5 at e1
   change n1=sArrow at e2
   change ts1.length=2 at e3
   subst e1 e2
   have hL2:L1=2:=by rw [←HL.out.1];exact e3
   subst hL2
   obtain ⟨x,y,rfl⟩:∃ x y,ts1 = [x,y]:=by
    match ts1,e3 with
    | [x,y],_=>exact ⟨x,y,rfl⟩
   clear e3
   have hr:=HRR.out
   rw [mkB_seq (.inr rfl)] at hr
   have HR:=Qh hr
   clear hr HRR
   cases RR with
   | error bt=>
    go_wp2_with (first
     | (go_at_call 30;(with_reducible refine (HI4.out _).mono ?_);rintro e u4 ⟨rfl,hb⟩;have HS4:=Qh (HS3.out.below hb);clear x0 x1 x2 x3 x4 x5;obtain ⟨x0,x1,x2,x3,x4,x5⟩:=HS4.out.bf.t1.cells HM.out.1.1 HM.out.1.2;clear hb)
     | (go_at_call 63;(with_reducible refine (both_any HS4.out.bf (HIH.out x (by simp)) (HIH.out y (by simp)) HS4.out.num HBd.out.1 (by have:=HBd.out.2;rw [sz_two] at this;omega) (check_arg HCk.out (by simp [Tm.as])) (check_arg HCk.out (by simp [Tm.as])) (HU.out.1.grown HS4.out.gr HU.out.2) HU.out.2 sArrow (by decide) ⟨#[45,62]⟩ rfl).mono ?_);rintro e u9 hp;rw [HR.out] at hp;obtain ⟨hg,bb,rfl,hball⟩:=hp.bad;have HE:=Qh (Qa hg hball);clear hg hball hp))
    exact ⟨rfl,grown_trans HS4.out.gr HE.out.1,bb,rfl,HE.out.2⟩
   | ok p=>
    obtain ⟨a,n'⟩:=p
    obtain ⟨k5,n5,m5,b5,v5,ts5⟩:=a
    obtain ⟨nb5,hnb5⟩:∃ nb:ByteArray,(⟨n5.toArray⟩:ByteArray)=nb:=⟨_,rfl⟩
    obtain ⟨mb5,hmb5⟩:∃ mb:ByteArray,(⟨m5.toArray⟩:ByteArray)=mb:=⟨_,rfl⟩
    obtain ⟨L5,hL5⟩:∃ L,ts5.length=L:=⟨_,rfl⟩
    have HL5:=Qh (Qa hnb5 (Qa hmb5 hL5))
    clear hnb5 hmb5 hL5
    go_wp2_with (first
     | (go_at_call 30;(with_reducible refine (HI4.out _).mono ?_);rintro e u4 ⟨rfl,hb⟩;have HS4:=Qh (HS3.out.below hb);clear x0 x1 x2 x3 x4 x5;obtain ⟨x0,x1,x2,x3,x4,x5⟩:=HS4.out.bf.t1.cells HM.out.1.1 HM.out.1.2;clear hb)
     | (go_at_call 63;(with_reducible refine (both_any HS4.out.bf (HIH.out x (by simp)) (HIH.out y (by simp)) HS4.out.num HBd.out.1 (by have:=HBd.out.2;rw [sz_two] at this;omega) (check_arg HCk.out (by simp [Tm.as])) (check_arg HCk.out (by simp [Tm.as])) (HU.out.1.grown HS4.out.gr HU.out.2) HU.out.2 sArrow (by decide) ⟨#[45,62]⟩ rfl).mono ?_);rintro e u9 hp;rw [HR.out] at hp;obtain ⟨A5,c5,rfl,hta,hnu,hg⟩:=hp.letters HL5.out.1 HL5.out.2.1 HL5.out.2.2;have HS9:=Qh (HS4.out.go hg hnu);obtain ⟨a0,a1,a2,a3,a4,a5⟩:=HS9.out.r.cells rfl rfl;obtain ⟨e0,e1,e2,e3,e4,e5⟩:=HS9.out.r.frozens;have HT9:=Qh hta;clear hta hnu hg hp))
    have hta9:TAtP u9 (fun b=>P b∨(G+1+1+1+1<b∧b<u9.heap.size)) (.mk k5 n5 m5 b5 v5 ts5) (.slice A5 L5 c5):=HT9.out.wide (fun b hb=>by
     rcases hb with hb | hb
     ·exact .inl hb
     ·have:=HS4.out.lt;have:=HS4.out.hw;exact .inr ⟨by omega,hb.2⟩)
    obtain ⟨hbx,hpost⟩:=body_fin HL5.out.1 HL5.out.2.1 HL5.out.2.2 HS9.out.r (by have:=HS9.out.hw;omega) HS9.out.hP (by have:=HS9.out.hw;omega) hta9 HS9.out.gr HS9.out.num rfl
    generalize ((((((u9.setCell ⟨G+1+1+1+1,0,none⟩ (.int .i64 k5)).setCell ⟨G+1+1+1+1,1,none⟩ (.string nb5)).setCell ⟨G+1+1+1+1,2,none⟩ (.string mb5)).setCell ⟨G+1+1+1+1,3,none⟩ (.int .u64 b5)).setCell ⟨G+1+1+1+1,4,none⟩ (.int .i64 v5)).setCell ⟨G+1+1+1+1,5,none⟩ (.slice A5 L5 c5))=w9 at *
    obtain ⟨r0,r1,r2,r3,r4,r5⟩:=hbx.cells HL5.out.1 HL5.out.2.1
    refine bodyPost_ret (v:=.agg (Q5 k5 nb5 mb5 b5 v5 (.slice A5 L5 c5))) (by simp [results,Tryd.results38,go_sem,r0,r1,r2,r3,r4,r5]) rfl ?_
    exact hpost
  | false=>
   go_upto_region 13 with (go_at_call 30;(with_reducible refine (HI4.out _).mono ?_);rintro e u4 ⟨rfl,hb⟩;have HS4:=Qh (HS3.out.below hb);clear x0 x1 x2 x3 x4 x5;obtain ⟨x0,x1,x2,x3,x4,x5⟩:=HS4.out.bf.t1.cells HM.out.1.1 HM.out.1.2;clear hb)
   cases B5 with
   | true=>
    obtain ⟨e1,e2,e3⟩:=isC_iff.1 HC5.out
    change k1=5 at e1
    change n1=sNot at e2
    change ts1.length=1 at e3
    subst e1 e2
    have hL2:L1=1:=by rw [←HL.out.1];exact e3
    subst hL2
    obtain ⟨x,rfl⟩:∃ x,ts1 = [x]:=by
     match ts1,e3 with
     | [x],_=>exact ⟨x,rfl⟩
    clear e3
    have hr:=HRR.out
    rw [mkB_neg] at hr
    have HR:=Qh hr
    clear hr
    go_upto_region 14 with (go_at_call 30;(with_reducible refine (HI5.out _).mono ?_);rintro e u5 ⟨rfl,hb⟩;have HS5:=Qh (HS4.out.below hb);clear x0 x1 x2 x3 x4 x5;obtain ⟨x0,x1,x2,x3,x4,x5⟩:=HS5.out.bf.t1.cells HM.out.1.1 HM.out.1.2;clear hb)
    obtain ⟨Ax,cx,hst,_,_,_,_,hgo⟩:=TAtP.iff.1 HS5.out.bf.x1
    obtain ⟨g,o,hA,hPg,hel⟩:=hgo (by simp [Tm.as])
    injection hst with e1 e2 e3
    rw [hA] at e1
    subst e1
    have HPg:=Qh (HS5.out.bf.hP g hPg)
    have hex:=hel 0 x rfl
    obtain ⟨A5,c5,k5,n5,m5,b5,v5,ts5,nb5,mb5,rfl,hnb,hmb,htx,q0,q1,q2,q3,q4,q5⟩:=EltP.cells hex
    obtain ⟨L5,hL⟩:∃ L,ts5.length=L:=⟨_,rfl⟩
    rw [hL] at q5 htx
    rw [Nat.zero_mul,Nat.add_zero] at q0 q1 q2 q3 q4 q5
    have HL5:=Qh (Qa hnb (Qa hmb hL))
    have HE5:=Qh (Qa htx (Qa q0 (Qa q1 (Qa q2 (Qa q3 (Qa q4 q5))))))
    clear hnb hmb hL htx q0 q1 q2 q3 q4 q5 hex
    clear hgo hA hPg hel e2 e3
    obtain ⟨RX,hRX⟩:∃ RX,mkB (.mk k5 n5 m5 b5 v5 ts5) (.mk k2 n2 m2 b2 v2 ts2) (varT x) (x+1)=RX:=⟨_,rfl⟩
    have HFr:=Qh (fun v (hb:Below u5.heap.size u5 v)=>fresh_any (HS5.out.num.below hb) ⟨HBd.out.1,by have h9:=sz_pos (.mk k5 n5 m5 b5 v5 ts5);have:=HBd.out.2;rw [sz_one] at this;omega⟩)
    have HCx:=Qh (fun v (hg:u5.grownBy v (some N)) (hn:NumAt v Q N (x+1))=>HIH.out (.mk k5 n5 m5 b5 v5 ts5) (by simp) v P _ _ _ _ _ Q N (x+1) (fun b hb2=>⟨Ql (HS5.out.bf.hP b hb2).1 hg.size,(HS5.out.bf.hP b hb2).2⟩) (TAtP.gro HE5.out.1 HS5.out.bf.hP hg) (TAtP.gro HS5.out.bf.x2 HS5.out.bf.hP hg) (var_at v P (n:=x) (by have:=HBd.out;have h9:=sz_pos (.mk k5 n5 m5 b5 v5 ts5);rw [sz_one] at this;omega)) hn (by have:=HBd.out.1;omega) (by have:=HBd.out.2;rw [sz_one] at this;omega) (check_arg HCk.out (by simp [Tm.as])) ((HU.out.1.grown HS5.out.gr HU.out.2).grown hg HU.out.2) HU.out.2)
    rw [hRX,valT_mk HL5.out.1 HL5.out.2.1,valT_mk HM.out.2.1.1 HM.out.2.1.2,show valT (varT x) (.slice none 0 0) = .agg (Qv x) from rfl,show freshV Q = .func (.func 60) #[] #[.pointer (some ⟨Q,0,none⟩)] from rfl] at HCx
    rw [hRX] at HR
    have HSS:=Qh (show ∀ z,u5.grownBy z (some N)→(z.cell? ⟨G,5,none⟩=some (.slice (some ⟨g,o,none⟩) 1 c1)∧(Q7 z g o k5 nb5 mb5 b5 v5 (.slice A5 L5 c5))∧(Q6 z (G+1) k2 nb2 mb2 b2 v2 (.slice A2 L2 c2))∧z.cell? ⟨G+1+1+1,0,none⟩=some (.func (.func 60) #[] #[.pointer (some ⟨Q,0,none⟩)])∧(Q6 z GS 5 ⟨#[61]⟩ ⟨#[]⟩ 0 0 (.slice (some ⟨G+1+1+1+1+1,0,none⟩) 2 2))) from fun z hg=>by
     have hb:=HS5.out.bf.go hg
     have hz:z.heap[g]?=u5.heap[g]?:=hg.block g HPg.out.1 (fun e=>HPg.out.2 (by injection e))
     exact ⟨(hb.t1.cells HM.out.1.1 HM.out.1.2).2.2.2.2.2,⟨(Qc (a:=⟨g,o,none⟩) hz).trans HE5.out.2.1,(Qc (a:=⟨g,o+1,none⟩) hz).trans HE5.out.2.2.1,(Qc (a:=⟨g,o+2,none⟩) hz).trans HE5.out.2.2.2.1,(Qc (a:=⟨g,o+3,none⟩) hz).trans HE5.out.2.2.2.2.1,(Qc (a:=⟨g,o+4,none⟩) hz).trans HE5.out.2.2.2.2.2.1,(Qc (a:=⟨g,o+5,none⟩) hz).trans HE5.out.2.2.2.2.2.2⟩,hb.t2.cells HM.out.2.1.1 HM.out.2.1.2,cell_of_one hb.t0,(HS5.out.s.gro hg (by have:=HS5.out.hw;omega)).cells rfl rfl⟩)
    refine wp_region_wait (fun z=>(z.cell? ⟨G,5,none⟩=some (.slice (some ⟨g,o,none⟩) 1 c1)∧(Q7 z g o k5 nb5 mb5 b5 v5 (.slice A5 L5 c5))∧(Q6 z (G+1) k2 nb2 mb2 b2 v2 (.slice A2 L2 c2))∧z.cell? ⟨G+1+1+1,0,none⟩=some (.func (.func 60) #[] #[.pointer (some ⟨Q,0,none⟩)])∧(Q6 z GS 5 ⟨#[61]⟩ ⟨#[]⟩ 0 0 (.slice (some ⟨G+1+1+1+1+1,0,none⟩) 2 2)))) 14 (by kernel_rfl) ?_
    change wpAnyW _ _ _ _ _ _ _ _ _ u5.drew
    have KK:=Qh (below_drew' u5)
    generalize u5.drew=v0 at *
    refine w3 14 0 (.pointer (some ⟨G,5,none⟩)) (HSS.out _ (grown_below KK.out)) ?_ ?_
    ·intro w5 hSw
     obtain ⟨s1,⟨p0,p1,p2,p3,p4,p5⟩,⟨q0,q1,q2,q3,q4,q5⟩,s2,⟨r0,r1,r2,r3,r4,r5⟩⟩:=hSw
     go_simp
    refine w3 14 1 (.slice (some ⟨g,o,none⟩) 1 c1) (HSS.out _ (grown_below KK.out)) ?_ ?_
    ·intro w5 hSw
     obtain ⟨s1,⟨p0,p1,p2,p3,p4,p5⟩,⟨q0,q1,q2,q3,q4,q5⟩,s2,⟨r0,r1,r2,r3,r4,r5⟩⟩:=hSw
     go_simp
    refine w3 14 2 (.pointer (some ⟨g,o,none⟩)) (HSS.out _ (grown_below KK.out)) ?_ ?_
    ·intro w5 hSw
     obtain ⟨s1,⟨p0,p1,p2,p3,p4,p5⟩,⟨q0,q1,q2,q3,q4,q5⟩,s2,⟨r0,r1,r2,r3,r4,r5⟩⟩:=hSw
     go_simp
    refine w3 14 3 (.agg (Q5 k5 nb5 mb5 b5 v5 (.slice A5 L5 c5))) (HSS.out _ (grown_below KK.out)) ?_ ?_
    ·intro w5 hSw
     obtain ⟨s1,⟨p0,p1,p2,p3,p4,p5⟩,⟨q0,q1,q2,q3,q4,q5⟩,s2,⟨r0,r1,r2,r3,r4,r5⟩⟩:=hSw
     go_simp
    refine w3 14 4 (.agg (Q5 k2 nb2 mb2 b2 v2 (.slice A2 L2 c2))) (HSS.out _ (grown_below KK.out)) ?_ ?_
    ·intro w5 hSw
     obtain ⟨s1,⟨p0,p1,p2,p3,p4,p5⟩,⟨q0,q1,q2,q3,q4,q5⟩,s2,⟨r0,r1,r2,r3,r4,r5⟩⟩:=hSw
     go_simp
    refine w3 14 5 (.func (.func 60) #[] #[.pointer (some ⟨Q,0,none⟩)]) (HSS.out _ (grown_below KK.out)) ?_ ?_
    ·intro w5 hSw
     obtain ⟨s1,⟨p0,p1,p2,p3,p4,p5⟩,⟨q0,q1,q2,q3,q4,q5⟩,s2,⟨r0,r1,r2,r3,r4,r5⟩⟩:=hSw
     go_simp
    refine w3 14 7 (.func (.func 60) #[] #[.pointer (some ⟨Q,0,none⟩)]) (HSS.out _ (grown_below KK.out)) ?_ ?_
    ·intro w5 hSw
     obtain ⟨s1,⟨p0,p1,p2,p3,p4,p5⟩,⟨q0,q1,q2,q3,q4,q5⟩,s2,⟨r0,r1,r2,r3,r4,r5⟩⟩:=hSw
     go_simp
    refine w3 14 11 (.agg (Qn 5 ⟨#[61]⟩ (.slice (some ⟨G+1+1+1+1+1,0,none⟩) 2 2))) (HSS.out _ (grown_below KK.out)) ?_ ?_
    ·intro w5 hSw
     obtain ⟨s1,⟨p0,p1,p2,p3,p4,p5⟩,⟨q0,q1,q2,q3,q4,q5⟩,s2,⟨r0,r1,r2,r3,r4,r5⟩⟩:=hSw
     go_simp
    refine w1 6 fun K hK=>?_
    go_simp
    (with_reducible refine (HFr.out _ KK.out).mono ?_)
    rintro e f1w ⟨rfl,hn1,hg1⟩
    have HG1:=Qh (grown_trans (grown_below (r:=some N) KK.out) hg1)
    have HN1:=Qh hn1
    clear hn1 hg1
    refine hK.out _ _ (fun _=>HSS.out _ HG1.out) ?_
    cases RX with
    | error bt=>
     have hRE:=HR.out
     change Except.error bt=RR at hRE
     subst hRE
     refine w1 8 fun K hK=>?_
     go_simp
     (with_reducible refine (HCx.out _ HG1.out HN1.out).mono ?_)
     rintro e u9 hp
     obtain ⟨hg,bb,rfl,hball⟩:=hp.bad
     exact ⟨rfl,grown_trans HS5.out.gr (grown_trans HG1.out hg),bb,rfl,hball⟩
    | ok p=>
     obtain ⟨a,n1'⟩:=p
     clear hRX
     obtain ⟨k7,n7,m7,b7,v7,ts7⟩:=a
     obtain ⟨nb7,hnb7⟩:∃ nb:ByteArray,(⟨n7.toArray⟩:ByteArray)=nb:=⟨_,rfl⟩
     obtain ⟨mb7,hmb7⟩:∃ mb:ByteArray,(⟨m7.toArray⟩:ByteArray)=mb:=⟨_,rfl⟩
     obtain ⟨L7,hL7⟩:∃ L,ts7.length=L:=⟨_,rfl⟩
     have HL7:=Qh (Qa hnb7 (Qa hmb7 hL7))
     clear hnb7 hmb7 hL7
     have HRE:=Qh (show Except.ok (cmpT sComma [cmpT sNot [(.mk k7 n7 m7 b7 v7 ts7)],eqT (.mk k2 n2 m2 b2 v2 ts2) (.mk k3 n3 m3 b3 v3 ts3)],n1')=RR from HR.out)
     refine w1 8 fun K hK=>?_
     go_simp
     (with_reducible refine (HCx.out _ HG1.out HN1.out).mono ?_)
     rintro e w6 hp
     obtain ⟨A7,c7,rfl,hta,hnu,hg⟩:=hp.letters HL7.out.1 HL7.out.2.1 HL7.out.2.2
     have HG6:=Qh (grown_trans HG1.out hg)
     have HS6:=Qh (HS5.out.go HG6.out hnu)
     have HT6:=Qh (show TAtP w6 (fun b=>P b∨(G+1+1+1+1<b∧b<w6.heap.size)) (.mk k7 n7 m7 b7 v7 ts7) (.slice A7 L7 c7) from hta.wide (fun b hb=>by
      rcases hb with hb | hb
      ·exact .inl hb
      ·have:=HS5.out.hw;have:=HS5.out.lt;have:=HG1.out.size;exact .inr ⟨by omega,hb.2⟩))
     clear hta hnu hg hp
     refine hK.out _ _ (fun _=>HSS.out _ HG6.out) ?_
     have hbu:=built (w:=w6) (s:=sNot) (n:=1) (cs:=(Q5 k7 nb7 mb7 b7 v7 (.slice A7 L7 c7))) (ps:=[((.mk k7 n7 m7 b7 v7 ts7:Tm),Value.slice A7 L7 c7)]) (by rw [←HL7.out.1,←HL7.out.2.1];rfl) rfl (mem1 HT6.out) HS6.out.pb (by unfold maxArgs;omega) (by decide)
     have hbA:Below w6.heap.size w6 (w6.alloc (.cells (Q5 k7 nb7 mb7 b7 v7 (.slice A7 L7 c7)) 25)):=Qb
     have HBA:=Qh (Qa hbA (Qa hbu (show w6.heap.size+1=(w6.alloc (.cells (Q5 k7 nb7 mb7 b7 v7 (.slice A7 L7 c7)) 25)).heap.size by simp)))
     clear hbA hbu
     refine w1 9 fun K hK=>?_
     go_simp
     refine hK.out _ _ (fun _=>HSS.out _ (grown_trans HG6.out (grown_below HBA.out.1))) ?_
     generalize w6.alloc (.cells (Q5 k7 nb7 mb7 b7 v7 (.slice A7 L7 c7)) 25)=w7 at *
     refine w1 10 fun K hK=>?_
     go_simp
     (with_reducible refine (of_any _ _ _ _ _).mono ?_)
     rintro e w8 ⟨rfl,hb8⟩
     have HT8:=Qh (HS6.out.made HBA.out.2.2 HBA.out.2.1 hb8)
     have hb68:=Qt HBA.out.1 hb8
     have HS8:=Qh (HS6.out.below hb68)
     have HG8:=Qh (grown_trans HG6.out (grown_below hb68))
     clear hb8 hb68
     refine hK.out _ _ (fun _=>HSS.out _ HG8.out) ?_
     have hbA:Below w8.heap.size w8 (w8.alloc (.cells #[.int .i64 5,.string ⟨#[92,43]⟩,.string ⟨#[]⟩,.int .u64 0,.int .i64 0,.slice (some ⟨w6.heap.size,0,none⟩) 1 1,.int .i64 5,.string ⟨#[61]⟩,.string ⟨#[]⟩,.int .u64 0,.int .i64 0,.slice (some ⟨G+1+1+1+1+1,0,none⟩) 2 2] 25)):=Qb
     have HBA8:=Qh hbA
     clear hbA
     refine w1 12 fun K hK=>?_
     go_simp
     refine hK.out _ _ (fun _=>HSS.out _ (grown_trans HG8.out (grown_below HBA8.out))) ?_
     refine w1 13 fun K hK=>?_
     go_simp
     (with_reducible refine (of_any _ _ _ _ _).mono ?_)
     rintro e w10 ⟨rfl,hb10⟩
     have HBHS10:=Qh hb10
     have HS10:=Qh (HS8.out.below (Qt HBA8.out hb10))
     refine hK.out _ _ (fun _=>HSS.out _ (grown_trans HG8.out (grown_below (Qt HBA8.out hb10)))) ?_
     clear hb10
     refine w1 14 fun K hK=>?_
     obtain ⟨a0,a1,a2,a3,a4,a5⟩:=HS10.out.r.cells rfl rfl
     obtain ⟨e0,e1,e2,e3,e4,e5⟩:=HS10.out.r.frozens
     go_simp
     refine hK.out _ _ (fun h=>absurd h (by simp)) ?_
     refine wpAnyW_done (by kernel_rfl) ?_ _
     clear a0 a1 a2 a3 a4 a5 e0 e1 e2 e3 e4 e5
     go_wp2
     rw [←HRE.out]
     have hbu:=built (w:=w8) (s:=sComma) (n:=2) (cs:=#[.int .i64 5,.string ⟨#[92,43]⟩,.string ⟨#[]⟩,.int .u64 0,.int .i64 0,.slice (some ⟨w6.heap.size,0,none⟩) 1 1,.int .i64 5,.string ⟨#[61]⟩,.string ⟨#[]⟩,.int .u64 0,.int .i64 0,.slice (some ⟨G+1+1+1+1+1,0,none⟩) 2 2]) (ps:=[(cmpT sNot [(.mk k7 n7 m7 b7 v7 ts7)],Value.slice (some ⟨w6.heap.size,0,none⟩) 1 1),(eqT (.mk k2 n2 m2 b2 v2 ts2) (.mk k3 n3 m3 b3 v3 ts3),Value.slice (some ⟨G+1+1+1+1+1,0,none⟩) 2 2)]) (by rfl) rfl (mem2 HT8.out HS8.out.xs) HS8.out.pb (by unfold maxArgs;omega) (by decide)
     have hta:=HS8.out.made (u1:=w8.alloc (.cells #[.int .i64 5,.string ⟨#[92,43]⟩,.string ⟨#[]⟩,.int .u64 0,.int .i64 0,.slice (some ⟨w6.heap.size,0,none⟩) 1 1,.int .i64 5,.string ⟨#[61]⟩,.string ⟨#[]⟩,.int .u64 0,.int .i64 0,.slice (some ⟨G+1+1+1+1+1,0,none⟩) 2 2] 25)) (by simp) hbu HBHS10.out
     obtain ⟨hbx,hpost⟩:=body_fin (n:=sComma) (m:=[]) (nb:=⟨#[44]⟩) (mb:=⟨#[]⟩) (ts:=[cmpT sNot [(.mk k7 n7 m7 b7 v7 ts7)],eqT (.mk k2 n2 m2 b2 v2 ts2) (.mk k3 n3 m3 b3 v3 ts3)]) rfl rfl rfl HS10.out.r (by have:=HS10.out.hw;omega) HS10.out.hP (by have:=HS10.out.hw;omega) hta HS10.out.gr HS10.out.num rfl
     generalize ((((((w10.setCell ⟨G+1+1+1+1,0,none⟩ (.int .i64 5)).setCell ⟨G+1+1+1+1,1,none⟩ (.string ⟨#[44]⟩)).setCell ⟨G+1+1+1+1,2,none⟩ (.string ⟨#[]⟩)).setCell ⟨G+1+1+1+1,3,none⟩ (.int .u64 0)).setCell ⟨G+1+1+1+1,4,none⟩ (.int .i64 0)).setCell ⟨G+1+1+1+1,5,none⟩ (.slice (some ⟨w8.heap.size,0,none⟩) 2 2))=w9 at *
     obtain ⟨r0,r1,r2,r3,r4,r5⟩:=hbx.cells (nb:=⟨#[44]⟩) (mb:=⟨#[]⟩) rfl rfl
     refine bodyPost_ret (v:=.agg (Qn 5 ⟨#[44]⟩ (.slice (some ⟨w8.heap.size,0,none⟩) 2 2))) (by simp [results,Tryd.results38,go_sem,r0,r1,r2,r3,r4,r5]) rfl ?_
     exact hpost
   | false=>
    go_upto_region 15 with (go_at_call 30;(with_reducible refine (HI5.out _).mono ?_);rintro e u5 ⟨rfl,hb⟩;have HS5:=Qh (HS4.out.below hb);clear x0 x1 x2 x3 x4 x5;obtain ⟨x0,x1,x2,x3,x4,x5⟩:=HS5.out.bf.t1.cells HM.out.1.1 HM.out.1.2;clear hb)
    cases B6 with
    | true=>
     obtain ⟨e1,e2,e3⟩:=isC_iff.1 HC6.out
     change k1=5 at e1
     change n1=sCurly at e2
     change ts1.length=1 at e3
     subst e1 e2
     have hL2:L1=1:=by rw [←HL.out.1];exact e3
     subst hL2
     obtain ⟨x,rfl⟩:∃ x,ts1 = [x]:=by
      match ts1,e3 with
      | [x],_=>exact ⟨x,rfl⟩
     clear e3
     go_upto_region 16 with (go_at_call 30;(with_reducible refine (HI6.out _).mono ?_);rintro e u6 ⟨rfl,hb⟩;have HS6:=Qh (HS5.out.below hb);clear x0 x1 x2 x3 x4 x5;obtain ⟨x0,x1,x2,x3,x4,x5⟩:=HS6.out.bf.t1.cells HM.out.1.1 HM.out.1.2;clear hb)
     obtain ⟨Ax,cx,hst,_,_,_,_,hgo⟩:=TAtP.iff.1 HS6.out.bf.x1
     obtain ⟨g,o,hA,hPg,hel⟩:=hgo (by simp [Tm.as])
     injection hst with e1 e2 e3
     rw [hA] at e1
     subst e1
     have HPg:=Qh (HS6.out.bf.hP g hPg)
     have hex:=hel 0 x rfl
     obtain ⟨A5,c5,k5,n5,m5,b5,v5,ts5,nb5,mb5,rfl,hnb,hmb,htx,q0,q1,q2,q3,q4,q5⟩:=EltP.cells hex
     obtain ⟨L5,hL⟩:∃ L,ts5.length=L:=⟨_,rfl⟩
     rw [hL] at q5 htx
     rw [Nat.zero_mul,Nat.add_zero] at q0 q1 q2 q3 q4 q5
     have HL5:=Qh (Qa hnb (Qa hmb hL))
     have HE5:=Qh (Qa htx (Qa q0 (Qa q1 (Qa q2 (Qa q3 (Qa q4 q5))))))
     clear hnb hmb hL htx q0 q1 q2 q3 q4 q5 hex
     clear hgo hA hPg hel e2 e3
     obtain ⟨x0,x1,x2,x3,x4,x5⟩:=HS6.out.bf.t1.cells HM.out.1.1 HM.out.1.2
     obtain ⟨_,q0,q1,q2,q3,q4,q5⟩:=HE5.out
     obtain ⟨r0,r1,r2,r3,r4,r5⟩:=HS6.out.s.cells (nb:=⟨#[61]⟩) (mb:=⟨#[]⟩) rfl rfl
     have HSD:=Qh (HS6.out.below (below_drew' u6))
     have HTD:=Qh (show TAtP u6.drew P (.mk k5 n5 m5 b5 v5 ts5) (.slice A5 L5 c5) from HE5.out.1.below (below_drew' u6) (fun b hb=>(HS6.out.bf.hP b hb).1))
     go_still_tail 5,(by kernel_rfl)
     change wpList _ _ _ _ _ u6.drew
     generalize u6.drew=ud at *
     go_wp2_with (go_at_call 32;(with_reducible refine (of_any _ _ _ _ _).mono ?_);rintro e un ⟨rfl,hb⟩;have HBHSN:=Qh hb;have hbA:Below ud.heap.size ud (ud.alloc (.cells #[.int .i64 k5,.string nb5,.string mb5,.int .u64 b5,.int .i64 v5,.slice A5 L5 c5,.int .i64 5,.string ⟨#[61]⟩,.string ⟨#[]⟩,.int .u64 0,.int .i64 0,.slice (some ⟨G+1+1+1+1+1,0,none⟩) 2 2] 25)):=Qb;have HSN:=Qh (HSD.out.below (Qt hbA hb));obtain ⟨a0,a1,a2,a3,a4,a5⟩:=HSN.out.r.cells rfl rfl;obtain ⟨e0,e1,e2,e3,e4,e5⟩:=HSN.out.r.frozens;clear hb hbA)
     have hbu:=built (w:=ud) (s:=sComma) (n:=2) (cs:=#[.int .i64 k5,.string nb5,.string mb5,.int .u64 b5,.int .i64 v5,.slice A5 L5 c5,.int .i64 5,.string ⟨#[61]⟩,.string ⟨#[]⟩,.int .u64 0,.int .i64 0,.slice (some ⟨G+1+1+1+1+1,0,none⟩) 2 2]) (ps:=[((.mk k5 n5 m5 b5 v5 ts5:Tm),Value.slice A5 L5 c5),(eqT (.mk k2 n2 m2 b2 v2 ts2) (.mk k3 n3 m3 b3 v3 ts3),Value.slice (some ⟨G+1+1+1+1+1,0,none⟩) 2 2)]) (by rw [←HL5.out.1,←HL5.out.2.1];rfl) rfl (mem2 (HTD.out.wide (fun b hb=>.inl hb)) HSD.out.xs) HSD.out.pb (by unfold maxArgs;omega) (by decide)
     have hta:=HSD.out.made (u1:=ud.alloc (.cells #[.int .i64 k5,.string nb5,.string mb5,.int .u64 b5,.int .i64 v5,.slice A5 L5 c5,.int .i64 5,.string ⟨#[61]⟩,.string ⟨#[]⟩,.int .u64 0,.int .i64 0,.slice (some ⟨G+1+1+1+1+1,0,none⟩) 2 2] 25)) (by simp) hbu HBHSN.out
     obtain ⟨hbx,hpost⟩:=body_fin (n:=sComma) (m:=[]) (nb:=⟨#[44]⟩) (mb:=⟨#[]⟩) (ts:=[(.mk k5 n5 m5 b5 v5 ts5),eqT (.mk k2 n2 m2 b2 v2 ts2) (.mk k3 n3 m3 b3 v3 ts3)]) rfl rfl rfl HSN.out.r (by have:=HSN.out.hw;omega) HSN.out.hP (by have:=HSN.out.hw;omega) hta HSN.out.gr HSN.out.num rfl
     generalize ((((((un.setCell ⟨G+1+1+1+1,0,none⟩ (.int .i64 5)).setCell ⟨G+1+1+1+1,1,none⟩ (.string ⟨#[44]⟩)).setCell ⟨G+1+1+1+1,2,none⟩ (.string ⟨#[]⟩)).setCell ⟨G+1+1+1+1,3,none⟩ (.int .u64 0)).setCell ⟨G+1+1+1+1,4,none⟩ (.int .i64 0)).setCell ⟨G+1+1+1+1,5,none⟩ (.slice (some ⟨ud.heap.size,0,none⟩) 2 2))=w9 at *
     obtain ⟨r0,r1,r2,r3,r4,r5⟩:=hbx.cells (nb:=⟨#[44]⟩) (mb:=⟨#[]⟩) rfl rfl
     refine bodyPost_ret (v:=.agg (Qn 5 ⟨#[44]⟩ (.slice (some ⟨ud.heap.size,0,none⟩) 2 2))) (by simp [results,Tryd.results38,go_sem,r0,r1,r2,r3,r4,r5]) rfl ?_
     rw [←HRR.out,mkB_curly]
     exact hpost
    | false=>
     go_upto_region 17 with (go_at_call 30;(with_reducible refine (HI6.out _).mono ?_);rintro e u6 ⟨rfl,hb⟩;have HS6:=Qh (HS5.out.below hb);clear x0 x1 x2 x3 x4 x5;obtain ⟨x0,x1,x2,x3,x4,x5⟩:=HS6.out.bf.t1.cells HM.out.1.1 HM.out.1.2;clear hb)
     have hnl:nb1.toList=n1:=by rw [ByteArray.toList_eq,←HM.out.1.1]
     by_cases hk2:k1=2
     ·subst hk2
      by_cases g1:n1=sCurly
      ·subst g1
       have t1:(nb1.toList == [123,125])=true:=by rw [hnl];rfl
       clear hnl
       go_upto_region 18 with fail
       have HSS:=Qh (show ∀ z,u6.grownBy z (some N)→((Q6 z GS 5 ⟨#[61]⟩ ⟨#[]⟩ 0 0 (.slice (some ⟨G+1+1+1+1+1,0,none⟩) 2 2))) from fun z hg=>(HS6.out.s.gro hg (by have:=HS6.out.hw;omega)).cells rfl rfl)
       refine wp_region_wait (fun z=>((Q6 z GS 5 ⟨#[61]⟩ ⟨#[]⟩ 0 0 (.slice (some ⟨G+1+1+1+1+1,0,none⟩) 2 2)))) 4 (by kernel_rfl) ?_
       change wpAnyW _ _ _ _ _ _ _ _ _ u6.drew
       have KK:=Qh (below_drew' u6)
       generalize u6.drew=v0 at *
       refine w3 4 1 (.agg (Qn 5 ⟨#[61]⟩ (.slice (some ⟨G+1+1+1+1+1,0,none⟩) 2 2))) (HSS.out _ (grown_below KK.out)) ?_ ?_
       ·intro w5 hSw
        obtain ⟨p0,p1,p2,p3,p4,p5⟩:=hSw
        go_simp
       refine w1 0 fun K hK=>?_
       go_simp
       (with_reducible refine (atom_any _ _).mono ?_)
       rintro e w8 ⟨rfl,hb1⟩
       replace KK:=Qh (Qt KK.out hb1)
       clear hb1
       have HS8:=Qh (HS6.out.below KK.out)
       refine hK.out _ _ (fun _=>HSS.out _ (grown_below KK.out)) ?_
       have hbA:Below w8.heap.size w8 (w8.alloc (.cells #[.int .i64 2,.string ⟨#[116,114,117,101]⟩,.string ⟨#[]⟩,.int .u64 0,.int .i64 0,.slice none 0 0,.int .i64 5,.string ⟨#[61]⟩,.string ⟨#[]⟩,.int .u64 0,.int .i64 0,.slice (some ⟨G+1+1+1+1+1,0,none⟩) 2 2] 25)):=Qb
       have HBA8:=Qh hbA
       clear hbA
       refine w1 2 fun K hK=>?_
       go_simp
       refine hK.out _ _ (fun _=>HSS.out _ (grown_below (Qt KK.out HBA8.out))) ?_
       refine w1 3 fun K hK=>?_
       go_simp
       (with_reducible refine (of_any _ _ _ _ _).mono ?_)
       rintro e w10 ⟨rfl,hb10⟩
       have HBHS10:=Qh hb10
       have HS10:=Qh (HS8.out.below (Qt HBA8.out hb10))
       refine hK.out _ _ (fun _=>HSS.out _ (grown_below (KK.out.trans ((Qt HBA8.out hb10).mono KK.out.size)))) ?_
       clear hb10
       refine w1 4 fun K hK=>?_
       obtain ⟨a0,a1,a2,a3,a4,a5⟩:=HS10.out.r.cells rfl rfl
       obtain ⟨e0,e1,e2,e3,e4,e5⟩:=HS10.out.r.frozens
       go_simp
       refine hK.out _ _ (fun h=>absurd h (by simp)) ?_
       refine wpAnyW_done (by kernel_rfl) ?_ _
       clear a0 a1 a2 a3 a4 a5 e0 e1 e2 e3 e4 e5
       go_wp2
       have hbu:=built (w:=w8) (s:=sComma) (n:=2) (cs:=#[.int .i64 2,.string ⟨#[116,114,117,101]⟩,.string ⟨#[]⟩,.int .u64 0,.int .i64 0,.slice none 0 0,.int .i64 5,.string ⟨#[61]⟩,.string ⟨#[]⟩,.int .u64 0,.int .i64 0,.slice (some ⟨G+1+1+1+1+1,0,none⟩) 2 2]) (ps:=[(atomT sTrue,Value.slice none 0 0),(eqT (.mk k2 n2 m2 b2 v2 ts2) (.mk k3 n3 m3 b3 v3 ts3),Value.slice (some ⟨G+1+1+1+1+1,0,none⟩) 2 2)]) (by rfl) rfl (mem2 (atom_at _ _ (by decide)) HS8.out.xs) HS8.out.pb (by unfold maxArgs;omega) (by decide)
       have hta:=HS8.out.made (u1:=w8.alloc (.cells #[.int .i64 2,.string ⟨#[116,114,117,101]⟩,.string ⟨#[]⟩,.int .u64 0,.int .i64 0,.slice none 0 0,.int .i64 5,.string ⟨#[61]⟩,.string ⟨#[]⟩,.int .u64 0,.int .i64 0,.slice (some ⟨G+1+1+1+1+1,0,none⟩) 2 2] 25)) (by simp) hbu HBHS10.out
       obtain ⟨hbx,hpost⟩:=body_fin (n:=sComma) (m:=[]) (nb:=⟨#[44]⟩) (mb:=⟨#[]⟩) (ts:=[atomT sTrue,eqT (.mk k2 n2 m2 b2 v2 ts2) (.mk k3 n3 m3 b3 v3 ts3)]) rfl rfl rfl HS10.out.r (by have:=HS10.out.hw;omega) HS10.out.hP (by have:=HS10.out.hw;omega) hta HS10.out.gr HS10.out.num rfl
       generalize ((((((w10.setCell ⟨G+1+1+1+1,0,none⟩ (.int .i64 5)).setCell ⟨G+1+1+1+1,1,none⟩ (.string ⟨#[44]⟩)).setCell ⟨G+1+1+1+1,2,none⟩ (.string ⟨#[]⟩)).setCell ⟨G+1+1+1+1,3,none⟩ (.int .u64 0)).setCell ⟨G+1+1+1+1,4,none⟩ (.int .i64 0)).setCell ⟨G+1+1+1+1,5,none⟩ (.slice (some ⟨w8.heap.size,0,none⟩) 2 2))=w9 at *
       obtain ⟨r0,r1,r2,r3,r4,r5⟩:=hbx.cells (nb:=⟨#[44]⟩) (mb:=⟨#[]⟩) rfl rfl
       refine bodyPost_ret (v:=.agg (Qn 5 ⟨#[44]⟩ (.slice (some ⟨w8.heap.size,0,none⟩) 2 2))) (by simp [results,Tryd.results38,go_sem,r0,r1,r2,r3,r4,r5]) rfl ?_
       rw [←HRR.out,mkB_tru]
       exact hpost
      have t1:(nb1.toList == [123,125])=false:=by rw [hnl];exact beq_eq_false_iff_ne.2 g1
      by_cases g2:n1=sCut
      ·subst g2
       have t2:(nb1.toList == [33])=true:=by rw [hnl];rfl
       clear hnl g1
       obtain ⟨r0,r1,r2,r3,r4,r5⟩:=HS6.out.s.cells (nb:=⟨#[61]⟩) (mb:=⟨#[]⟩) rfl rfl
       go_wp2_with (go_at_call 32;(with_reducible refine (of_any _ _ _ _ _).mono ?_);rintro e un ⟨rfl,hb⟩;have HBHSN:=Qh hb;have hbA:Below u6.heap.size u6 (u6.alloc (.cells #[.int .i64 2,.string nb1,.string mb1,.int .u64 b1,.int .i64 v1,.slice A1 L1 c1,.int .i64 5,.string ⟨#[61]⟩,.string ⟨#[]⟩,.int .u64 0,.int .i64 0,.slice (some ⟨G+1+1+1+1+1,0,none⟩) 2 2] 25)):=Qb;have HSN:=Qh (HS6.out.below (Qt hbA hb));obtain ⟨a0,a1,a2,a3,a4,a5⟩:=HSN.out.r.cells rfl rfl;obtain ⟨e0,e1,e2,e3,e4,e5⟩:=HSN.out.r.frozens;clear hb hbA)
       have hbu:=built (w:=u6) (s:=sComma) (n:=2) (cs:=#[.int .i64 2,.string nb1,.string mb1,.int .u64 b1,.int .i64 v1,.slice A1 L1 c1,.int .i64 5,.string ⟨#[61]⟩,.string ⟨#[]⟩,.int .u64 0,.int .i64 0,.slice (some ⟨G+1+1+1+1+1,0,none⟩) 2 2]) (ps:=[((.mk 2 sCut m1 b1 v1 ts1:Tm),Value.slice A1 L1 c1),(eqT (.mk k2 n2 m2 b2 v2 ts2) (.mk k3 n3 m3 b3 v3 ts3),Value.slice (some ⟨G+1+1+1+1+1,0,none⟩) 2 2)]) (by rw [←HM.out.1.1,←HM.out.1.2];rfl) rfl (mem2 (HS6.out.bf.x1.wide (fun b hb=>.inl hb)) HS6.out.xs) HS6.out.pb (by unfold maxArgs;omega) (by decide)
       have hta:=HS6.out.made (u1:=u6.alloc (.cells #[.int .i64 2,.string nb1,.string mb1,.int .u64 b1,.int .i64 v1,.slice A1 L1 c1,.int .i64 5,.string ⟨#[61]⟩,.string ⟨#[]⟩,.int .u64 0,.int .i64 0,.slice (some ⟨G+1+1+1+1+1,0,none⟩) 2 2] 25)) (by simp) hbu HBHSN.out
       obtain ⟨hbx,hpost⟩:=body_fin (n:=sComma) (m:=[]) (nb:=⟨#[44]⟩) (mb:=⟨#[]⟩) (ts:=[(.mk 2 sCut m1 b1 v1 ts1),eqT (.mk k2 n2 m2 b2 v2 ts2) (.mk k3 n3 m3 b3 v3 ts3)]) rfl rfl rfl HSN.out.r (by have:=HSN.out.hw;omega) HSN.out.hP (by have:=HSN.out.hw;omega) hta HSN.out.gr HSN.out.num rfl
       generalize ((((((un.setCell ⟨G+1+1+1+1,0,none⟩ (.int .i64 5)).setCell ⟨G+1+1+1+1,1,none⟩ (.string ⟨#[44]⟩)).setCell ⟨G+1+1+1+1,2,none⟩ (.string ⟨#[]⟩)).setCell ⟨G+1+1+1+1,3,none⟩ (.int .u64 0)).setCell ⟨G+1+1+1+1,4,none⟩ (.int .i64 0)).setCell ⟨G+1+1+1+1,5,none⟩ (.slice (some ⟨u6.heap.size,0,none⟩) 2 2))=w9 at *
       obtain ⟨r0,r1,r2,r3,r4,r5⟩:=hbx.cells (nb:=⟨#[44]⟩) (mb:=⟨#[]⟩) rfl rfl
       refine bodyPost_ret (v:=.agg (Qn 5 ⟨#[44]⟩ (.slice (some ⟨u6.heap.size,0,none⟩) 2 2))) (by simp [results,Tryd.results38,go_sem,r0,r1,r2,r3,r4,r5]) rfl ?_
       rw [←HRR.out,mkB_cut]
       exact hpost
      have t2:(nb1.toList == [33])=false:=by rw [hnl];exact beq_eq_false_iff_ne.2 g2
      by_cases g3:n1=sNil
      ·subst g3
       have t3:(nb1.toList == [91,93])=true:=by rw [hnl];rfl
       clear hnl g1 g2
       obtain ⟨r0,r1,r2,r3,r4,r5⟩:=HS6.out.s.cells (nb:=⟨#[61]⟩) (mb:=⟨#[]⟩) rfl rfl
       obtain ⟨a0,a1,a2,a3,a4,a5⟩:=HS6.out.r.cells rfl rfl
       obtain ⟨e0,e1,e2,e3,e4,e5⟩:=HS6.out.r.frozens
       go_wp2
       obtain ⟨hbx,hpost⟩:=body_fin (n:=sEq) (m:=[]) (nb:=⟨#[61]⟩) (mb:=⟨#[]⟩) (ts:=[(.mk k2 n2 m2 b2 v2 ts2),(.mk k3 n3 m3 b3 v3 ts3)]) rfl rfl rfl HS6.out.r (by have:=HS6.out.hw;omega) HS6.out.hP (by have:=HS6.out.hw;omega) HS6.out.xs HS6.out.gr HS6.out.num rfl
       generalize ((((((u6.setCell ⟨G+1+1+1+1,0,none⟩ (.int .i64 5)).setCell ⟨G+1+1+1+1,1,none⟩ (.string ⟨#[61]⟩)).setCell ⟨G+1+1+1+1,2,none⟩ (.string ⟨#[]⟩)).setCell ⟨G+1+1+1+1,3,none⟩ (.int .u64 0)).setCell ⟨G+1+1+1+1,4,none⟩ (.int .i64 0)).setCell ⟨G+1+1+1+1,5,none⟩ (.slice (some ⟨G+1+1+1+1+1,0,none⟩) 2 2))=w9 at *
       clear r0 r1 r2 r3 r4 r5
       obtain ⟨r0,r1,r2,r3,r4,r5⟩:=hbx.cells (nb:=⟨#[61]⟩) (mb:=⟨#[]⟩) rfl rfl
       refine bodyPost_ret (v:=.agg (Qn 5 ⟨#[61]⟩ (.slice (some ⟨G+1+1+1+1+1,0,none⟩) 2 2))) (by simp [results,Tryd.results38,go_sem,r0,r1,r2,r3,r4,r5]) rfl ?_
       rw [←HRR.out,mkB_nil]
       exact hpost
      have t3:(nb1.toList == [91,93])=false:=by rw [hnl];exact beq_eq_false_iff_ne.2 g3
      clear hnl
      have hB7:B7=false:=by rw [←HC7.out];rfl
      subst hB7
      have hmk:=mkB_atom (m:=m1) (b:=b1) (v:=v1) (ts:=ts1) (f:=(.mk k2 n2 m2 b2 v2 ts2)) (d:=(.mk k3 n3 m3 b3 v3 ts3)) (nx:=x) g1 g2 g3
      have HMK:=Qh hmk
      clear hmk g1 g2 g3
      go_upto_region 29 with (go_at_call 30;(with_reducible refine (HI7.out _).mono ?_);rintro e u7 ⟨rfl,hb⟩;have HS7:=Qh (HS6.out.below hb);clear x0 x1 x2 x3 x4 x5;obtain ⟨x0,x1,x2,x3,x4,x5⟩:=HS7.out.bf.t1.cells HM.out.1.1 HM.out.1.2;clear hb)
      obtain ⟨y0,y1,y2,y3,y4,y5⟩:=HS7.out.bf.t2.cells HM.out.2.1.1 HM.out.2.1.2
      obtain ⟨z0,z1,z2,z3,z4,z5⟩:=HS7.out.bf.t3.cells HM.out.2.2.1 HM.out.2.2.2
      by_cases h62:ts1.length≤62
      ·have hRE:=HRR.out
       rw [HMK.out,show putT (.mk 2 n1 m1 b1 v1 ts1) (.mk k2 n2 m2 b2 v2 ts2) (.mk k3 n3 m3 b3 v3 ts3) = .ok (cmpT n1 (ts1 ++ [(.mk k2 n2 m2 b2 v2 ts2),(.mk k3 n3 m3 b3 v3 ts3)])) from by unfold putT;rw [if_neg (by show ¬62<ts1.length;omega)];rfl] at hRE
       change Except.ok (cmpT n1 (ts1 ++ [(.mk k2 n2 m2 b2 v2 ts2),(.mk k3 n3 m3 b3 v3 ts3)]),x)=RR at hRE
       subst hRE
       have HPt:=Qh (fun v (hb:Below u7.heap.size u7 v)=>put_fit (TAtP.below HS7.out.bf.x1 hb (fun b hb2=>(HS7.out.bf.hP b hb2).1)) (TAtP.below HS7.out.bf.x2 hb (fun b hb2=>(HS7.out.bf.hP b hb2).1)) (TAtP.below HS7.out.bf.x3 hb (fun b hb2=>(HS7.out.bf.hP b hb2).1)) (fun b hb2=>Ql (HS7.out.bf.hP b hb2).1 hb.size) h62)
       rw [valT_mk HM.out.1.1 HM.out.1.2,valT_mk HM.out.2.1.1 HM.out.2.1.2,valT_mk HM.out.2.2.1 HM.out.2.2.2] at HPt
       clear h62
       obtain ⟨L9,hL9⟩:∃ L,(ts1 ++ [(Tm.mk k2 n2 m2 b2 v2 ts2),(Tm.mk k3 n3 m3 b3 v3 ts3)]).length=L:=⟨_,rfl⟩
       have HL9:=Qh hL9
       clear hL9
       go_wp2_with (go_at_call 36;(with_reducible refine (HPt.out _ (Below.refl _ _)).mono ?_);rintro e u9 ⟨sl9,he9,hta9,hb9⟩;obtain ⟨A9,c9,hsl9,_⟩:=TAtP.iff.1 hta9;subst hsl9;(replace he9:=he9.trans (congrArg Ending.returned (valT_mk (k:=5) (n:=n1) (m:=[]) (b:=0) (v:=0) (ts:=ts1 ++ [(Tm.mk k2 n2 m2 b2 v2 ts2),(Tm.mk k3 n3 m3 b3 v3 ts3)]) (nb:=nb1) (mb:=⟨#[]⟩) HM.out.1.1 rfl)));(change TAtP u9 _ (cmpT n1 (ts1 ++ [(Tm.mk k2 n2 m2 b2 v2 ts2),(Tm.mk k3 n3 m3 b3 v3 ts3)])) (.slice A9 (ts1 ++ [(Tm.mk k2 n2 m2 b2 v2 ts2),(Tm.mk k3 n3 m3 b3 v3 ts3)]).length c9) at hta9);(change e=Ending.returned (.agg (Qn 5 nb1 (.slice A9 (ts1 ++ [(Tm.mk k2 n2 m2 b2 v2 ts2),(Tm.mk k3 n3 m3 b3 v3 ts3)]).length c9))) at he9);(rw [HL9.out] at hta9 he9);(have HT9:=Qh hta9);subst he9;(have HS9:=Qh (HS7.out.below hb9));obtain ⟨a0,a1,a2,a3,a4,a5⟩:=HS9.out.r.cells rfl rfl;obtain ⟨e0,e1,e2,e3,e4,e5⟩:=HS9.out.r.frozens;(have HB9:=Qh hb9);clear hta9 hb9)
       have hta9:TAtP u9 (fun b=>P b∨(G+1+1+1+1<b∧b<u9.heap.size)) (cmpT n1 (ts1 ++ [(Tm.mk k2 n2 m2 b2 v2 ts2),(Tm.mk k3 n3 m3 b3 v3 ts3)])) (.slice A9 L9 c9):=HT9.out.wide (fun b hb=>by
        rcases hb with hb | hb
        ·exact .inl hb
        ·have:=HS7.out.lt;have:=HS7.out.hw;exact .inr ⟨by omega,hb.2⟩)
       obtain ⟨hbx,hpost⟩:=body_fin (n:=n1) (m:=[]) (nb:=nb1) (mb:=⟨#[]⟩) (ts:=ts1 ++ [(Tm.mk k2 n2 m2 b2 v2 ts2),(Tm.mk k3 n3 m3 b3 v3 ts3)]) HM.out.1.1 rfl HL9.out HS9.out.r (by have:=HS9.out.hw;omega) HS9.out.hP (by have:=HS9.out.hw;omega) hta9 HS9.out.gr HS9.out.num rfl
       generalize ((((((u9.setCell ⟨G+1+1+1+1,0,none⟩ (.int .i64 5)).setCell ⟨G+1+1+1+1,1,none⟩ (.string nb1)).setCell ⟨G+1+1+1+1,2,none⟩ (.string ⟨#[]⟩)).setCell ⟨G+1+1+1+1,3,none⟩ (.int .u64 0)).setCell ⟨G+1+1+1+1,4,none⟩ (.int .i64 0)).setCell ⟨G+1+1+1+1,5,none⟩ (.slice A9 L9 c9))=w9 at *
       obtain ⟨r0,r1,r2,r3,r4,r5⟩:=hbx.cells HM.out.1.1 rfl
       refine bodyPost_ret (v:=.agg (Qn 5 nb1 (.slice A9 L9 c9))) (by simp [results,Tryd.results38,go_sem,r0,r1,r2,r3,r4,r5]) rfl hpost
      ·have hRE:=HRR.out
       rw [HMK.out,show putT (.mk 2 n1 m1 b1 v1 ts1) (.mk k2 n2 m2 b2 v2 ts2) (.mk k3 n3 m3 b3 v3 ts3) = .error arityT from by unfold putT;rw [if_pos (by show 62<ts1.length;omega)]] at hRE
       change Except.error arityT=RR at hRE
       subst hRE
       have HPt:=Qh (fun v (hb:Below u7.heap.size u7 v)=>put_big (TAtP.below HS7.out.bf.x1 hb (fun b hb2=>(HS7.out.bf.hP b hb2).1)) (TAtP.below HS7.out.bf.x2 hb (fun b hb2=>(HS7.out.bf.hP b hb2).1)) (TAtP.below HS7.out.bf.x3 hb (fun b hb2=>(HS7.out.bf.hP b hb2).1)) (fun b hb2=>Ql (HS7.out.bf.hP b hb2).1 hb.size) (by show 62<ts1.length;omega))
       rw [valT_mk HM.out.1.1 HM.out.1.2,valT_mk HM.out.2.1.1 HM.out.2.1.2,valT_mk HM.out.2.2.1 HM.out.2.2.2] at HPt
       clear h62
       go_wp2_with (go_at_call 36;(with_reducible refine (HPt.out _ (Below.refl _ _)).mono ?_);rintro e u9 ⟨⟨bb,rfl,hball⟩,hb9⟩;have HE:=Qh (Qa hb9 hball);clear hb9 hball)
       exact ⟨rfl,grown_trans HS7.out.gr (grown_below HE.out.1),bb,rfl,HE.out.2⟩
     have t0:(k1==2)=false:=beq_eq_false_iff_ne.2 hk2
     clear hnl
     cases B7 with
     | true=>
      obtain ⟨e1,e2,e3⟩:=isC_iff.1 HC7.out
      change k1=5 at e1
      change n1=sDot at e2
      change ts1.length=2 at e3
      subst e1 e2
      have hL2:L1=2:=by rw [←HL.out.1];exact e3
      subst hL2
      obtain ⟨x,y,rfl⟩:∃ x y,ts1 = [x,y]:=by
       match ts1,e3 with
       | [x,y],_=>exact ⟨x,y,rfl⟩
      clear e3
      obtain ⟨BN,hBN⟩:∃ B,isNil (elems (.mk 5 sDot m1 b1 v1 [x,y])).2=B:=⟨_,rfl⟩
      have hr:=HRR.out
      rw [mkB_dot,hBN] at hr
      have HR:=Qh hr
      have HLs:=Qh (fun v (hb:Below u6.heap.size u6 v)=>list_any (w:=v) (TAt.any HS6.out.bf.x1 (fun b hb2=>(HS6.out.bf.hP b hb2).1) hb) ((HU.out.1.grown HS6.out.gr HU.out.2).below hb) HCk.out)
      unfold ListPost at HLs
      rw [valT_mk HM.out.1.1 HM.out.1.2,hBN] at HLs
      clear hr hBN
      cases BN with
      | true=>
       go_upto_region 27 with (first
        | (go_at_call 30;(with_reducible refine (HI7.out _).mono ?_);rintro e u7 ⟨rfl,hb⟩;have HS7:=Qh (HS6.out.below hb);have HB67:=Qh hb;clear x0 x1 x2 x3 x4 x5;obtain ⟨x0,x1,x2,x3,x4,x5⟩:=HS7.out.bf.t1.cells HM.out.1.1 HM.out.1.2;clear hb)
        | (go_at_call 34;(have hb67:Below u6.heap.size u6 u7:=HB67.out);(with_reducible refine (HLs.out _ hb67).mono ?_);rintro e u8 ⟨A8,n8,c8,ps,rfl,hr8,hps,hn8,hb8⟩;have HR8:=Qh (Qa hr8 (Qa hps hn8));have HS8:=Qh (HS7.out.below hb8);clear x0 x1 x2 x3 x4 x5;obtain ⟨x0,x1,x2,x3,x4,x5⟩:=HS8.out.bf.t1.cells HM.out.1.1 HM.out.1.2;clear hr8 hps hn8 hb8 hb67))
       obtain ⟨E,hE⟩:∃ E,endT (ps.map (·.1)) (.mk k3 n3 m3 b3 v3 ts3)=E:=⟨_,rfl⟩
       have hr:=HR.out
       rw [←HR8.out.2.1,hE,if_pos trivial] at hr
       have HRE:=Qh hr
       have HSS:=Qh (show ∀ z,u8.grownBy z (some N)→((Q6 z (G+1) k2 nb2 mb2 b2 v2 (.slice A2 L2 c2))∧(Q6 z (G+1+1) k3 nb3 mb3 b3 v3 (.slice A3 L3 c3))) from fun z hg=>⟨(HS8.out.bf.go hg).t2.cells HM.out.2.1.1 HM.out.2.1.2,(HS8.out.bf.go hg).t3.cells HM.out.2.2.1 HM.out.2.2.2⟩)
       have h8n:=HR8.out.2.2
       have h8l:=(Array.getElem?_eq_some_iff.1 HS7.out.s).1
       have HEn:=Qh (fun v (hb:Below u8.heap.size u8 v)=>ending_any (w:=v) (P:=(fun b=>P b∨(G+1+1+1+1<b∧b<v.heap.size))) (RowP.wide' (RowB.below HR8.out.1 hb).rowP (fun b hb2=>by
        have h1:=HS7.out.lt
        have h2:=HS7.out.hw
        exact .inr ⟨by omega,hb2.2⟩)) ((HS8.out.bf.x3.below hb (fun b hb2=>(HS8.out.bf.hP b hb2).1)).wide (fun b hb2=>.inl hb2)) (fun b hb2=>by
        rcases hb2 with hb2 | hb2
        ·exact Ql (HS8.out.bf.hP b hb2).1 hb.size
        ·exact hb2.2) (by unfold maxArgs;omega) HR8.out.1.cap.1)
       rw [hE,valT_mk HM.out.2.2.1 HM.out.2.2.2] at HEn
       clear hr hE h8n h8l
       refine wp_region_wait (fun z=>((Q6 z (G+1) k2 nb2 mb2 b2 v2 (.slice A2 L2 c2))∧(Q6 z (G+1+1) k3 nb3 mb3 b3 v3 (.slice A3 L3 c3)))) 6 (by kernel_rfl) ?_
       change wpAnyW _ _ _ _ _ _ _ _ _ u8.drew
       have KK:=Qh (below_drew' u8)
       generalize u8.drew=v0 at *
       refine w3 6 0 (.agg (Q5 k2 nb2 mb2 b2 v2 (.slice A2 L2 c2))) (HSS.out _ (grown_below KK.out)) ?_ ?_
       ·intro w5 hSw
        obtain ⟨⟨q0,q1,q2,q3,q4,q5⟩,⟨r0,r1,r2,r3,r4,r5⟩⟩:=hSw
        go_simp
       refine w3 6 1 (.slice A8 n8 c8) (HSS.out _ (grown_below KK.out)) ?_ ?_
       ·intro w5 hSw
        obtain ⟨⟨q0,q1,q2,q3,q4,q5⟩,⟨r0,r1,r2,r3,r4,r5⟩⟩:=hSw
        go_simp
       refine w3 6 2 (.agg (Q5 k3 nb3 mb3 b3 v3 (.slice A3 L3 c3))) (HSS.out _ (grown_below KK.out)) ?_ ?_
       ·intro w5 hSw
        obtain ⟨⟨q0,q1,q2,q3,q4,q5⟩,⟨r0,r1,r2,r3,r4,r5⟩⟩:=hSw
        go_simp
       refine w1 3 fun K hK=>?_
       go_simp
       (with_reducible refine (HEn.out _ KK.out).mono ?_)
       rintro e w6 ⟨sl9,he9,hta9,hb9⟩
       obtain ⟨k9,n9,m9,b9,v9,ts9,nb9,mb9,A9,c9,rfl,rfl,hnb9,hmb9,_,_,_,hv9,_,_⟩:=hta9.letters
       rw [hv9] at he9
       obtain ⟨L9,hL9⟩:∃ L,ts9.length=L:=⟨_,rfl⟩
       rw [hL9] at he9 hta9
       subst he9
       have HL9:=Qh (Qa hnb9 (Qa hmb9 hL9))
       have KZ:=KK.out.size
       have KY:=Qh (Qt KK.out hb9)
       have HS6:=Qh (HS8.out.below KY.out)
       have HT6:=Qh (show TAtP w6 (fun b=>P b∨(G+1+1+1+1<b∧b<w6.heap.size)) (.mk k9 n9 m9 b9 v9 ts9) (.slice A9 L9 c9) from hta9.wide (fun b hb=>by
        have h1:=HS8.out.lt
        have h2:=HS8.out.hw
        rcases hb with hb | hb
        ·rcases hb with hb | hb
         ·exact .inl hb
         ·exact .inr ⟨hb.1,by have:=hb9.size;omega⟩
        ·exact .inr ⟨by omega,hb.2⟩))
       clear hnb9 hmb9 hv9 hL9 hta9 hb9 KZ
       refine hK.out _ _ (fun _=>HSS.out _ (grown_below KY.out)) ?_
       have hbA:Below w6.heap.size w6 (w6.alloc (.cells #[.int .i64 k2,.string nb2,.string mb2,.int .u64 b2,.int .i64 v2,.slice A2 L2 c2,.int .i64 k9,.string nb9,.string mb9,.int .u64 b9,.int .i64 v9,.slice A9 L9 c9] 25)):=Qb
       have HBA:=Qh hbA
       clear hbA
       refine w1 4 fun K hK=>?_
       go_simp
       refine hK.out _ _ (fun _=>HSS.out _ (grown_below (Qt KY.out HBA.out))) ?_
       refine w1 5 fun K hK=>?_
       go_simp
       (with_reducible refine (of_any _ _ _ _ _).mono ?_)
       rintro e w10 ⟨rfl,hb10⟩
       have HBHS10:=Qh hb10
       have HS10:=Qh (HS6.out.below (Qt HBA.out hb10))
       refine hK.out _ _ (fun _=>HSS.out _ (grown_below (KY.out.trans ((Qt HBA.out hb10).mono KY.out.size)))) ?_
       clear hb10
       refine w1 6 fun K hK=>?_
       obtain ⟨a0,a1,a2,a3,a4,a5⟩:=HS10.out.r.cells rfl rfl
       obtain ⟨e0,e1,e2,e3,e4,e5⟩:=HS10.out.r.frozens
       go_simp
       refine hK.out _ _ (fun h=>absurd h (by simp)) ?_
       refine wpAnyW_done (by kernel_rfl) ?_ _
       clear a0 a1 a2 a3 a4 a5 e0 e1 e2 e3 e4 e5
       go_wp2
       rw [←HRE.out]
       have hbu:=built (w:=w6) (s:=sEq) (n:=2) (cs:=#[.int .i64 k2,.string nb2,.string mb2,.int .u64 b2,.int .i64 v2,.slice A2 L2 c2,.int .i64 k9,.string nb9,.string mb9,.int .u64 b9,.int .i64 v9,.slice A9 L9 c9]) (ps:=[((.mk k2 n2 m2 b2 v2 ts2:Tm),Value.slice A2 L2 c2),((.mk k9 n9 m9 b9 v9 ts9:Tm),Value.slice A9 L9 c9)]) (by rw [←HM.out.2.1.1,←HM.out.2.1.2,←HL9.out.1,←HL9.out.2.1];rfl) rfl (mem2 (HS6.out.bf.x2.wide (fun b hb=>.inl hb)) HT6.out) HS6.out.pb (by unfold maxArgs;omega) (by decide)
       have hta:=HS6.out.made (u1:=w6.alloc (.cells #[.int .i64 k2,.string nb2,.string mb2,.int .u64 b2,.int .i64 v2,.slice A2 L2 c2,.int .i64 k9,.string nb9,.string mb9,.int .u64 b9,.int .i64 v9,.slice A9 L9 c9] 25)) (by simp) hbu HBHS10.out
       obtain ⟨hbx,hpost⟩:=body_fin (n:=sEq) (m:=[]) (nb:=⟨#[61]⟩) (mb:=⟨#[]⟩) (ts:=[(.mk k2 n2 m2 b2 v2 ts2),(.mk k9 n9 m9 b9 v9 ts9)]) rfl rfl rfl HS10.out.r (by have:=HS10.out.hw;omega) HS10.out.hP (by have:=HS10.out.hw;omega) hta HS10.out.gr HS10.out.num rfl
       generalize ((((((w10.setCell ⟨G+1+1+1+1,0,none⟩ (.int .i64 5)).setCell ⟨G+1+1+1+1,1,none⟩ (.string ⟨#[61]⟩)).setCell ⟨G+1+1+1+1,2,none⟩ (.string ⟨#[]⟩)).setCell ⟨G+1+1+1+1,3,none⟩ (.int .u64 0)).setCell ⟨G+1+1+1+1,4,none⟩ (.int .i64 0)).setCell ⟨G+1+1+1+1,5,none⟩ (.slice (some ⟨w6.heap.size,0,none⟩) 2 2))=w9 at *
       obtain ⟨r0,r1,r2,r3,r4,r5⟩:=hbx.cells (nb:=⟨#[61]⟩) (mb:=⟨#[]⟩) rfl rfl
       refine bodyPost_ret (v:=.agg (Qn 5 ⟨#[61]⟩ (.slice (some ⟨w6.heap.size,0,none⟩) 2 2))) (by simp [results,Tryd.results38,go_sem,r0,r1,r2,r3,r4,r5]) rfl ?_
       exact hpost
      | false=>
       go_upto_region 26 with (first
        | (go_at_call 30;(with_reducible refine (HI7.out _).mono ?_);rintro e u7 ⟨rfl,hb⟩;have HS7:=Qh (HS6.out.below hb);have HB67:=Qh hb;clear x0 x1 x2 x3 x4 x5;obtain ⟨x0,x1,x2,x3,x4,x5⟩:=HS7.out.bf.t1.cells HM.out.1.1 HM.out.1.2;clear hb)
        | (go_at_call 34;(have hb67:Below u6.heap.size u6 u7:=HB67.out);(with_reducible refine (HLs.out _ hb67).mono ?_);rintro e u8 ⟨A8,n8,c8,ps,rfl,hr8,hps,hn8,hb8⟩;have HR8:=Qh (Qa hr8 (Qa hps hn8));have HS8:=Qh (HS7.out.below hb8);clear x0 x1 x2 x3 x4 x5;obtain ⟨x0,x1,x2,x3,x4,x5⟩:=HS8.out.bf.t1.cells HM.out.1.1 HM.out.1.2;clear hr8 hps hn8 hb8 hb67))
       have hr2:=HR.out
       rw [if_neg (by simp)] at hr2
       have HMK:=Qh ((HRR.out).trans hr2.symm)
       have hRE:=HRR.out
       rw [HMK.out] at hRE
       subst hRE
       have HSS:=Qh (show ∀ z,u8.grownBy z (some N)→((Q6 z G 5 nb1 mb1 b1 v1 (.slice A1 2 c1))) from fun z hg=>((HS8.out.bf.go hg).t1.cells HM.out.1.1 HM.out.1.2))
       refine wp_region_wait (fun z=>((Q6 z G 5 nb1 mb1 b1 v1 (.slice A1 2 c1)))) 2 (by kernel_rfl) ?_
       change wpAnyW _ _ _ _ _ _ _ _ _ u8.drew
       have KK:=Qh (below_drew' u8)
       generalize u8.drew=v0 at *
       refine w3 2 1 (.agg (Q5 5 nb1 mb1 b1 v1 (.slice A1 2 c1))) (HSS.out _ (grown_below KK.out)) ?_ ?_
       ·intro w5 hSw
        obtain ⟨p0,p1,p2,p3,p4,p5⟩:=hSw
        go_simp
       refine w1 0 fun K hK=>?_
       go_simp
       (with_reducible refine (atom_any _ _).mono ?_)
       rintro e v1w ⟨rfl,hb1⟩
       replace KK:=Qh (Qt KK.out hb1)
       clear hb1
       refine hK.out _ _ (fun _=>HSS.out _ (grown_below KK.out)) ?_
       have hbA:Below v1w.heap.size v1w (v1w.alloc (.cells #[.int .i64 2,.string ⟨#[108,105,115,116]⟩,.string ⟨#[]⟩,.int .u64 0,.int .i64 0,.slice none 0 0,.int .i64 5,.string nb1,.string mb1,.int .u64 b1,.int .i64 v1,.slice A1 2 c1] 25)):=Qb
       have hbu:=built (w:=v1w) (P:=fun b=>b<v1w.heap.size) (s:=sType) (n:=2) (cs:=#[.int .i64 2,.string ⟨#[108,105,115,116]⟩,.string ⟨#[]⟩,.int .u64 0,.int .i64 0,.slice none 0 0,.int .i64 5,.string nb1,.string mb1,.int .u64 b1,.int .i64 v1,.slice A1 2 c1]) (ps:=[(atomT sList,Value.slice none 0 0),((.mk 5 sDot m1 b1 v1 [x,y]:Tm),Value.slice A1 2 c1)]) (by rw [←HM.out.1.1,←HM.out.1.2];rfl) rfl (mem2 (atom_at _ _ (by decide)) (TAt.any HS8.out.bf.x1 (fun b hb=>(HS8.out.bf.hP b hb).1) KK.out)) (fun b hb=>hb) (by unfold maxArgs;omega) (by decide)
       have HBA:=Qh (Qa hbA (Qa hbu (show (v1w.alloc (.cells #[.int .i64 2,.string ⟨#[108,105,115,116]⟩,.string ⟨#[]⟩,.int .u64 0,.int .i64 0,.slice none 0 0,.int .i64 5,.string nb1,.string mb1,.int .u64 b1,.int .i64 v1,.slice A1 2 c1] 25)).heap.size=v1w.heap.size+1 by simp)))
       clear hbA hbu
       refine w1 2 fun K hK=>?_
       go_simp
       refine hK.out _ _ (fun h=>absurd h (by simp)) ?_
       generalize v1w.alloc (.cells #[.int .i64 2,.string ⟨#[108,105,115,116]⟩,.string ⟨#[]⟩,.int .u64 0,.int .i64 0,.slice none 0 0,.int .i64 5,.string nb1,.string mb1,.int .u64 b1,.int .i64 v1,.slice A1 2 c1] 25)=v2w at *
       refine w1 3 fun K hK=>?_
       go_simp
       (with_reducible refine (of_any _ _ _ _ _).mono ?_)
       rintro e v3w ⟨rfl,hb3⟩
       have HT3:=Qh (TAt.any HBA.out.2.1 (fun b hb=>by have:=HBA.out.2.2;rcases hb with hb | hb <;> omega) hb3)
       replace KK:=Qh ((Qt KK.out HBA.out.1).trans (hb3.mono (Nat.le_trans KK.out.size HBA.out.1.size)))
       clear hb3
       refine hK.out _ _ (fun h=>absurd h (by simp)) ?_
       refine w1 4 fun K hK=>?_
       go_simp
       (with_reducible refine (throw_lit rfl rfl HT3.out).mono ?_)
       rintro e v4w ⟨⟨bb,rfl,hball⟩,hb4⟩
       exact ⟨rfl,grown_trans HS8.out.gr (grown_below (Qt KK.out hb4)),bb,rfl,hball⟩
     | false=>
      by_cases hk5:k1=5
      ·subst hk5
       have HMK:=Qh (mkB_cmp (f:=(.mk k2 n2 m2 b2 v2 ts2)) (d:=(.mk k3 n3 m3 b3 v3 ts3)) (nx:=x) HC1.out HC2.out HC3.out HC4.out HC5.out HC6.out HC7.out)
       go_upto_region 29 with (go_at_call 30;(with_reducible refine (HI7.out _).mono ?_);rintro e u7 ⟨rfl,hb⟩;have HS7:=Qh (HS6.out.below hb);clear x0 x1 x2 x3 x4 x5;obtain ⟨x0,x1,x2,x3,x4,x5⟩:=HS7.out.bf.t1.cells HM.out.1.1 HM.out.1.2;clear hb)
       obtain ⟨y0,y1,y2,y3,y4,y5⟩:=HS7.out.bf.t2.cells HM.out.2.1.1 HM.out.2.1.2
       obtain ⟨z0,z1,z2,z3,z4,z5⟩:=HS7.out.bf.t3.cells HM.out.2.2.1 HM.out.2.2.2
       by_cases h62:ts1.length≤62
       ·have hRE:=HRR.out
        rw [HMK.out,show putT (.mk 5 n1 m1 b1 v1 ts1) (.mk k2 n2 m2 b2 v2 ts2) (.mk k3 n3 m3 b3 v3 ts3) = .ok (cmpT n1 (ts1 ++ [(.mk k2 n2 m2 b2 v2 ts2),(.mk k3 n3 m3 b3 v3 ts3)])) from by unfold putT;rw [if_neg (by show ¬62<ts1.length;omega)];rfl] at hRE
        change Except.ok (cmpT n1 (ts1 ++ [(.mk k2 n2 m2 b2 v2 ts2),(.mk k3 n3 m3 b3 v3 ts3)]),x)=RR at hRE
        subst hRE
        have HPt:=Qh (fun v (hb:Below u7.heap.size u7 v)=>put_fit (TAtP.below HS7.out.bf.x1 hb (fun b hb2=>(HS7.out.bf.hP b hb2).1)) (TAtP.below HS7.out.bf.x2 hb (fun b hb2=>(HS7.out.bf.hP b hb2).1)) (TAtP.below HS7.out.bf.x3 hb (fun b hb2=>(HS7.out.bf.hP b hb2).1)) (fun b hb2=>Ql (HS7.out.bf.hP b hb2).1 hb.size) h62)
        rw [valT_mk HM.out.1.1 HM.out.1.2,valT_mk HM.out.2.1.1 HM.out.2.1.2,valT_mk HM.out.2.2.1 HM.out.2.2.2] at HPt
        clear h62
        obtain ⟨L9,hL9⟩:∃ L,(ts1 ++ [(Tm.mk k2 n2 m2 b2 v2 ts2),(Tm.mk k3 n3 m3 b3 v3 ts3)]).length=L:=⟨_,rfl⟩
        have HL9:=Qh hL9
        clear hL9
        go_wp2_with (go_at_call 36;(with_reducible refine (HPt.out _ (Below.refl _ _)).mono ?_);rintro e u9 ⟨sl9,he9,hta9,hb9⟩;obtain ⟨A9,c9,hsl9,_⟩:=TAtP.iff.1 hta9;subst hsl9;(replace he9:=he9.trans (congrArg Ending.returned (valT_mk (k:=5) (n:=n1) (m:=[]) (b:=0) (v:=0) (ts:=ts1 ++ [(Tm.mk k2 n2 m2 b2 v2 ts2),(Tm.mk k3 n3 m3 b3 v3 ts3)]) (nb:=nb1) (mb:=⟨#[]⟩) HM.out.1.1 rfl)));(change TAtP u9 _ (cmpT n1 (ts1 ++ [(Tm.mk k2 n2 m2 b2 v2 ts2),(Tm.mk k3 n3 m3 b3 v3 ts3)])) (.slice A9 (ts1 ++ [(Tm.mk k2 n2 m2 b2 v2 ts2),(Tm.mk k3 n3 m3 b3 v3 ts3)]).length c9) at hta9);(change e=Ending.returned (.agg (Qn 5 nb1 (.slice A9 (ts1 ++ [(Tm.mk k2 n2 m2 b2 v2 ts2),(Tm.mk k3 n3 m3 b3 v3 ts3)]).length c9))) at he9);(rw [HL9.out] at hta9 he9);(have HT9:=Qh hta9);subst he9;(have HS9:=Qh (HS7.out.below hb9));obtain ⟨a0,a1,a2,a3,a4,a5⟩:=HS9.out.r.cells rfl rfl;obtain ⟨e0,e1,e2,e3,e4,e5⟩:=HS9.out.r.frozens;(have HB9:=Qh hb9);clear hta9 hb9)
        have hta9:TAtP u9 (fun b=>P b∨(G+1+1+1+1<b∧b<u9.heap.size)) (cmpT n1 (ts1 ++ [(Tm.mk k2 n2 m2 b2 v2 ts2),(Tm.mk k3 n3 m3 b3 v3 ts3)])) (.slice A9 L9 c9):=HT9.out.wide (fun b hb=>by
         rcases hb with hb | hb
         ·exact .inl hb
         ·have:=HS7.out.lt;have:=HS7.out.hw;exact .inr ⟨by omega,hb.2⟩)
        obtain ⟨hbx,hpost⟩:=body_fin (n:=n1) (m:=[]) (nb:=nb1) (mb:=⟨#[]⟩) (ts:=ts1 ++ [(Tm.mk k2 n2 m2 b2 v2 ts2),(Tm.mk k3 n3 m3 b3 v3 ts3)]) HM.out.1.1 rfl HL9.out HS9.out.r (by have:=HS9.out.hw;omega) HS9.out.hP (by have:=HS9.out.hw;omega) hta9 HS9.out.gr HS9.out.num rfl
        generalize ((((((u9.setCell ⟨G+1+1+1+1,0,none⟩ (.int .i64 5)).setCell ⟨G+1+1+1+1,1,none⟩ (.string nb1)).setCell ⟨G+1+1+1+1,2,none⟩ (.string ⟨#[]⟩)).setCell ⟨G+1+1+1+1,3,none⟩ (.int .u64 0)).setCell ⟨G+1+1+1+1,4,none⟩ (.int .i64 0)).setCell ⟨G+1+1+1+1,5,none⟩ (.slice A9 L9 c9))=w9 at *
        obtain ⟨r0,r1,r2,r3,r4,r5⟩:=hbx.cells HM.out.1.1 rfl
        refine bodyPost_ret (v:=.agg (Qn 5 nb1 (.slice A9 L9 c9))) (by simp [results,Tryd.results38,go_sem,r0,r1,r2,r3,r4,r5]) rfl hpost
       ·have hRE:=HRR.out
        rw [HMK.out,show putT (.mk 5 n1 m1 b1 v1 ts1) (.mk k2 n2 m2 b2 v2 ts2) (.mk k3 n3 m3 b3 v3 ts3) = .error arityT from by unfold putT;rw [if_pos (by show 62<ts1.length;omega)]] at hRE
        change Except.error arityT=RR at hRE
        subst hRE
        have HPt:=Qh (fun v (hb:Below u7.heap.size u7 v)=>put_big (TAtP.below HS7.out.bf.x1 hb (fun b hb2=>(HS7.out.bf.hP b hb2).1)) (TAtP.below HS7.out.bf.x2 hb (fun b hb2=>(HS7.out.bf.hP b hb2).1)) (TAtP.below HS7.out.bf.x3 hb (fun b hb2=>(HS7.out.bf.hP b hb2).1)) (fun b hb2=>Ql (HS7.out.bf.hP b hb2).1 hb.size) (by show 62<ts1.length;omega))
        rw [valT_mk HM.out.1.1 HM.out.1.2,valT_mk HM.out.2.1.1 HM.out.2.1.2,valT_mk HM.out.2.2.1 HM.out.2.2.2] at HPt
        clear h62
        go_wp2_with (go_at_call 36;(with_reducible refine (HPt.out _ (Below.refl _ _)).mono ?_);rintro e u9 ⟨⟨bb,rfl,hball⟩,hb9⟩;have HE:=Qh (Qa hb9 hball);clear hb9 hball)
        exact ⟨rfl,grown_trans HS7.out.gr (grown_below HE.out.1),bb,rfl,HE.out.2⟩
      ·have t5:(k1==5)=false:=beq_eq_false_iff_ne.2 hk5
       have HMK:=Qh (mkB_bad (n:=n1) (m:=m1) (b:=b1) (v:=v1) (ts:=ts1) (f:=(.mk k2 n2 m2 b2 v2 ts2)) (d:=(.mk k3 n3 m3 b3 v3 ts3)) (nx:=x) (by simpa using s0) hk2 hk5)
       clear hk5 hk2
       go_upto_region 30 with (go_at_call 30;(with_reducible refine (HI7.out _).mono ?_);rintro e u7 ⟨rfl,hb⟩;have HS7:=Qh (HS6.out.below hb);clear x0 x1 x2 x3 x4 x5;obtain ⟨x0,x1,x2,x3,x4,x5⟩:=HS7.out.bf.t1.cells HM.out.1.1 HM.out.1.2;clear hb)
       have hRE:=HRR.out
       rw [HMK.out] at hRE
       subst hRE
       have HSS:=Qh (show ∀ z,u7.grownBy z (some N)→((Q6 z G k1 nb1 mb1 b1 v1 (.slice A1 L1 c1))) from fun z hg=>((HS7.out.bf.go hg).t1.cells HM.out.1.1 HM.out.1.2))
       refine wp_region_wait (fun z=>((Q6 z G k1 nb1 mb1 b1 v1 (.slice A1 L1 c1)))) 2 (by kernel_rfl) ?_
       change wpAnyW _ _ _ _ _ _ _ _ _ u7.drew
       have KK:=Qh (below_drew' u7)
       generalize u7.drew=v0 at *
       refine w3 2 1 (.agg (Q5 k1 nb1 mb1 b1 v1 (.slice A1 L1 c1))) (HSS.out _ (grown_below KK.out)) ?_ ?_
       ·intro w5 hSw
        obtain ⟨p0,p1,p2,p3,p4,p5⟩:=hSw
        go_simp
       refine w1 0 fun K hK=>?_
       go_simp
       (with_reducible refine (atom_any _ _).mono ?_)
       rintro e v1w ⟨rfl,hb1⟩
       replace KK:=Qh (Qt KK.out hb1)
       clear hb1
       refine hK.out _ _ (fun _=>HSS.out _ (grown_below KK.out)) ?_
       have hbA:Below v1w.heap.size v1w (v1w.alloc (.cells #[.int .i64 2,.string ⟨#[99,97,108,108,97,98,108,101]⟩,.string ⟨#[]⟩,.int .u64 0,.int .i64 0,.slice none 0 0,.int .i64 k1,.string nb1,.string mb1,.int .u64 b1,.int .i64 v1,.slice A1 L1 c1] 25)):=Qb
       have hbu:=built (w:=v1w) (P:=fun b=>b<v1w.heap.size) (s:=sType) (n:=2) (cs:=#[.int .i64 2,.string ⟨#[99,97,108,108,97,98,108,101]⟩,.string ⟨#[]⟩,.int .u64 0,.int .i64 0,.slice none 0 0,.int .i64 k1,.string nb1,.string mb1,.int .u64 b1,.int .i64 v1,.slice A1 L1 c1]) (ps:=[(atomT sCallable,Value.slice none 0 0),((.mk k1 n1 m1 b1 v1 ts1:Tm),Value.slice A1 L1 c1)]) (by rw [←HM.out.1.1,←HM.out.1.2];rfl) rfl (mem2 (atom_at _ _ (by decide)) (TAt.any HS7.out.bf.x1 (fun b hb=>(HS7.out.bf.hP b hb).1) KK.out)) (fun b hb=>hb) (by unfold maxArgs;omega) (by decide)
       have HBA:=Qh (Qa hbA (Qa hbu (show (v1w.alloc (.cells #[.int .i64 2,.string ⟨#[99,97,108,108,97,98,108,101]⟩,.string ⟨#[]⟩,.int .u64 0,.int .i64 0,.slice none 0 0,.int .i64 k1,.string nb1,.string mb1,.int .u64 b1,.int .i64 v1,.slice A1 L1 c1] 25)).heap.size=v1w.heap.size+1 by simp)))
       clear hbA hbu
       refine w1 2 fun K hK=>?_
       go_simp
       refine hK.out _ _ (fun h=>absurd h (by simp)) ?_
       generalize v1w.alloc (.cells #[.int .i64 2,.string ⟨#[99,97,108,108,97,98,108,101]⟩,.string ⟨#[]⟩,.int .u64 0,.int .i64 0,.slice none 0 0,.int .i64 k1,.string nb1,.string mb1,.int .u64 b1,.int .i64 v1,.slice A1 L1 c1] 25)=v2w at *
       refine w1 3 fun K hK=>?_
       go_simp
       (with_reducible refine (of_any _ _ _ _ _).mono ?_)
       rintro e v3w ⟨rfl,hb3⟩
       have HT3:=Qh (TAt.any HBA.out.2.1 (fun b hb=>by have:=HBA.out.2.2;rcases hb with hb | hb <;> omega) hb3)
       replace KK:=Qh ((Qt KK.out HBA.out.1).trans (hb3.mono (Nat.le_trans KK.out.size HBA.out.1.size)))
       clear hb3
       refine hK.out _ _ (fun h=>absurd h (by simp)) ?_
       refine w1 4 fun K hK=>?_
       go_simp
       (with_reducible refine (throw_lit rfl rfl HT3.out).mono ?_)
       rintro e v4w ⟨⟨bb,rfl,hball⟩,hb4⟩
       exact ⟨rfl,grown_trans HS7.out.gr (grown_below (Qt KK.out hb4)),bb,rfl,hball⟩
end Go.Proofs.YtgfeainpeplphaaDoor
