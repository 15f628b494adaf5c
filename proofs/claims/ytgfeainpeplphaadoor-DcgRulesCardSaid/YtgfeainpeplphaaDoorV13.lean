import Derived.Test.YtgfeainpeplphaaDoorV9
import Derived.Test.YtgfeainpeplphaaDoorV0
set_option maxRecDepth 1000000
set_option maxHeartbeats 64000000
set_option linter.unusedVariables false
set_option linter.unusedSimpArgs false
namespace Go.Proofs.YtgfeainpeplphaaDoor
open Go.RowKit Hb Ht
attribute [local go_sem] Oper.semAt_some
theorem rtwo_any {w:World} {P:Nat→Prop} {s:List UInt8} {sb:ByteArray} (hs:(⟨s.toArray⟩:ByteArray)=sb) (hsl:s.length≤maxLen) {v1 b1:Int} {n1 m1:List UInt8} {nb1 mb1:ByteArray} {A1:Option Addr} {c1:Nat} {x y:Tm} {k2 v2 b2:Int} {n2 m2:List UInt8} {ts2:List Tm} {nb2 mb2:ByteArray} {A2:Option Addr} {L2 c2:Nat} {k3 v3 b3:Int} {n3 m3:List UInt8} {ts3:List Tm} {nb3 mb3:ByteArray} {A3:Option Addr} {L3 c3:Nat} (hn1:(⟨n1.toArray⟩:ByteArray)=nb1) (hm1:(⟨m1.toArray⟩:ByteArray)=mb1) (hn2:(⟨n2.toArray⟩:ByteArray)=nb2) (hm2:(⟨m2.toArray⟩:ByteArray)=mb2) (hL2:ts2.length=L2) (hn3:(⟨n3.toArray⟩:ByteArray)=nb3) (hm3:(⟨m3.toArray⟩:ByteArray)=mb3) (hL3:ts3.length=L3)
  (h1:TAtP w P (.mk 5 n1 m1 b1 v1 [x,y]) (.slice A1 2 c1)) (h2:TAtP w P (.mk k2 n2 m2 b2 v2 ts2) (.slice A2 L2 c2)) (h3:TAtP w P (.mk k3 n3 m3 b3 v3 ts3) (.slice A3 L3 c3)) (hP:∀ b,P b→b<w.heap.size) (hx:RMakeOk x) (hy:RMakeOk y) {nx:Int} (h0:0≤nx) (hbd:nx+sz x+sz y≤4611686018427395999) (hcx:checkP x=0) (hcy:checkP y=0) :
  Calls Tryd.prog 68 #[.string sb,.agg (Q5 5 nb1 mb1 b1 v1 (.slice A1 2 c1)),.agg (Q5 k2 nb2 mb2 b2 v2 (.slice A2 L2 c2)),.agg (Q5 k3 nb3 mb3 b3 v3 (.slice A3 L3 c3)),.int .i64 nx] w (AnsP w P (twoA s x y (.mk k2 n2 m2 b2 v2 ts2) (.mk k3 n3 m3 b3 v3 ts3) nx)):=by
 obtain ⟨A0,c0,hst,hc1,hc2,_,_,hgo⟩:=TAtP.iff.1 h1
 obtain ⟨g,o,hA,hPg,hel⟩:=hgo (by simp [Tm.as])
 injection hst with e1 e2 e3
 rw [hA] at e1
 subst e1
 clear e2 e3 hA hgo hc1 hc2 c0
 have hex:=hel 0 x rfl
 obtain ⟨A4,c4,k4,n4,m4,b4,v4,ts4,nb4,mb4,rfl,hnb,hmb,htx,q0,q1,q2,q3,q4,q5⟩:=EltP.cells hex
 obtain ⟨L4,hL⟩:∃ L,ts4.length=L:=⟨_,rfl⟩
 rw [hL] at q5 htx
 rw [Nat.zero_mul,Nat.add_zero] at q0 q1 q2 q3 q4 q5
 have HL4:=Qh (Qa hnb (Qa hmb hL))
 have HE4:=Qh (Qa htx (Qa q0 (Qa q1 (Qa q2 (Qa q3 (Qa q4 q5))))))
 clear hnb hmb hL htx q0 q1 q2 q3 q4 q5 hex
 have hex:=hel 1 y rfl
 obtain ⟨A5,c5,k5,n5,m5,b5,v5,ts5,nb5,mb5,rfl,hnb,hmb,htx,q0,q1,q2,q3,q4,q5⟩:=EltP.cells hex
 obtain ⟨L5,hL⟩:∃ L,ts5.length=L:=⟨_,rfl⟩
 rw [hL] at q5 htx
 rw [Nat.one_mul] at q0 q1 q2 q3 q4 q5
 have HL5:=Qh (Qa hnb (Qa hmb hL))
 have HE5:=Qh (Qa htx (Qa q0 (Qa q1 (Qa q2 (Qa q3 (Qa q4 q5))))))
 clear hnb hmb hL htx q0 q1 q2 q3 q4 q5 hex
 obtain ⟨W1,hW1⟩:∃ W,w.alloc (.cells (Q5 5 nb1 mb1 b1 v1 (.slice (some ⟨g,o,none⟩) 2 c1)) 25)=W:=⟨_,rfl⟩
 have d1:Below w.heap.size w W1:=by rw [←hW1];exact Qb
 have s1:W1.heap.size=w.heap.size+1:=by rw [←hW1];simp
 have X1:TBox W1 w.heap.size (Tm.mk 5 n1 m1 b1 v1 [(Tm.mk k4 n4 m4 b4 v4 ts4),(Tm.mk k5 n5 m5 b5 v5 ts5)]) (.slice (some ⟨g,o,none⟩) 2 c1):=by rw [←hW1];exact TBox.new w hn1 hm1
 obtain ⟨W2,hW2⟩:∃ W,W1.alloc (.cells (Q5 k2 nb2 mb2 b2 v2 (.slice A2 L2 c2)) 25)=W:=⟨_,rfl⟩
 have d2:Below W1.heap.size W1 W2:=by rw [←hW2];exact Qb
 have s2:W2.heap.size=W1.heap.size+1:=by rw [←hW2];simp
 have X2:TBox W2 W1.heap.size (.mk k2 n2 m2 b2 v2 ts2) (.slice A2 L2 c2):=by rw [←hW2];exact TBox.new W1 hn2 hm2
 obtain ⟨W3,hW3⟩:∃ W,W2.alloc (.cells (Q5 k3 nb3 mb3 b3 v3 (.slice A3 L3 c3)) 25)=W:=⟨_,rfl⟩
 have d3:Below W2.heap.size W2 W3:=by rw [←hW3];exact Qb
 have s3:W3.heap.size=W2.heap.size+1:=by rw [←hW3];simp
 have X3:TBox W3 W2.heap.size (.mk k3 n3 m3 b3 v3 ts3) (.slice A3 L3 c3):=by rw [←hW3];exact TBox.new W2 hn3 hm3
 obtain ⟨W4,hW4⟩:∃ W,W3.alloc (.cells Qz 25)=W:=⟨_,rfl⟩
 have d4:Below W3.heap.size W3 W4:=by rw [←hW4];exact Qb
 have s4:W4.heap.size=W3.heap.size+1:=by rw [←hW4];simp
 have X4:TBox W4 W3.heap.size zeroT (.slice none 0 0):=by rw [←hW4];exact heap_alloc_new W3 _
 obtain ⟨W5,hW5⟩:∃ W,W4.alloc (.cells #[.bool false,.int .i64 0,.string ⟨#[]⟩,.string ⟨#[]⟩,.int .u64 0,.int .i64 0,.slice none 0 0] 35)=W:=⟨_,rfl⟩
 have d5:Below W4.heap.size W4 W5:=by rw [←hW5];exact Qb
 have s5:W5.heap.size=W4.heap.size+1:=by rw [←hW5];simp
 have X5:BBox W5 W4.heap.size false zeroT (.slice none 0 0):=by rw [←hW5];exact heap_alloc_new W4 _
 replace X1:=X1.below d2
 replace X1:=X1.below d3
 replace X1:=X1.below d4
 replace X1:=X1.below d5
 replace X2:=X2.below d3
 replace X2:=X2.below d4
 replace X2:=X2.below d5
 replace X3:=X3.below d4
 replace X3:=X3.below d5
 replace X4:=X4.below d5
 have hb0:Below w.heap.size w W5:=d1.trans ((d2.trans ((d3.trans ((d4.trans ((d5).mono (by omega))).mono (by omega))).mono (by omega))).mono (by omega))
 have hsz0:W5.heap.size=w.heap.size+1+1+1+1+1:=by omega
 rw [s1] at X2
 rw [s2,s1] at X3
 rw [s3,s2,s1] at X4
 rw [s4,s3,s2,s1] at X5
 have HX:=Qh (Qa X1 (Qa X2 (Qa X3 (Qa X4 (Qa X5 (Qa hb0 hsz0))))))
 subst hW1 hW2 hW3 hW4 hW5
 clear X1 d1 s1 X2 d2 s2 X3 d3 s3 X4 d4 s4 X5 d5 s5 hb0 hsz0
 have HM:=Qh (Qa hn1 (Qa hm1 (Qa hn2 (Qa hm2 (Qa hn3 hm3)))))
 have HLs:=Qh (Qa hL2 (Qa hL3 (Qa hs hsl)))
 have HT:=Qh (Qa h1 (Qa h2 h3))
 have HPP:=Qh hP
 have HPg:=Qh (show g<w.heap.size from hP g hPg)
 have HRx:=Qh (Qa hx (Qa hy (Qa hcx hcy)))
 have hszx:=sz_pos (Tm.mk k4 n4 m4 b4 v4 ts4)
 have hszy:=sz_pos (Tm.mk k5 n5 m5 b5 v5 ts5)
 obtain ⟨R,hR⟩:∃ R,twoA s (Tm.mk k4 n4 m4 b4 v4 ts4) (Tm.mk k5 n5 m5 b5 v5 ts5) (.mk k2 n2 m2 b2 v2 ts2) (.mk k3 n3 m3 b3 v3 ts3) nx=R:=⟨_,rfl⟩
 rw [hR]
 have HR0:=Qh hR
 have HBd:=Qh (Qa h0 hbd)
 have hnx:nx≤4611686018427395999:=by omega
 clear hR h1 h2 h3 hP hPg hx hy hcx hcy hn1 hm1 hn2 hm2 hn3 hm3 hL2 hL3 hs hsl hel hbd hszx hszy
 go_enter Tryd.func68,Tryd.ntmps68
 go_upto_region 1 with fail
 generalize (((((w.alloc (.cells (Q5 5 nb1 mb1 b1 v1 (.slice (some ⟨g,o,none⟩) 2 c1)) 25)).alloc (.cells (Q5 k2 nb2 mb2 b2 v2 (.slice A2 L2 c2)) 25)).alloc (.cells (Q5 k3 nb3 mb3 b3 v3 (.slice A3 L3 c3)) 25)).alloc (.cells Qz 25)).alloc (.cells #[.bool false,.int .i64 0,.string ⟨#[]⟩,.string ⟨#[]⟩,.int .u64 0,.int .i64 0,.slice none 0 0] 35))=u0 at *
 go_upto_region 2 with (go_at_call 47;(with_reducible refine (V_any _ _).mono ?_);rintro e u1 ⟨rfl,hb⟩;have HV1:=Qh hb;clear hb)
 have HU:=Qh (show ∀ z,u1.alloc (.cells (Qv nx) 25)=z→Below u0.heap.size u0 z∧TBox z u1.heap.size (varT nx) (.slice none 0 0)∧u1.heap.size<z.heap.size from fun z e=>by
  rw [←e]
  have hb:Below u1.heap.size u1 (u1.alloc (.cells (Qv nx) 25)):=Qb
  exact ⟨Qt HV1.out hb,heap_alloc_new u1 _,by simp⟩)
 have HG:=Qh HV1.out.size
 generalize u1.alloc (.cells (Qv nx) 25)=u2 at *
 generalize u1.heap.size=G at *
 replace HU:=Qh (HU.out _ rfl)
 have HW2:=Qh (Qa ((HX.out.2.2.2.2.2.1).trans (HU.out.1.mono (HX.out.2.2.2.2.2.1).size)) (show w.heap.size+1+1+1+1+1≤u2.heap.size from by have h1:=HX.out.2.2.2.2.2.2;have h2:=HU.out.1.size;omega))
 clear HV1
 obtain ⟨a,ha⟩:∃ a,ansM (Tm.mk k4 n4 m4 b4 v4 ts4) (.mk k2 n2 m2 b2 v2 ts2) (varT nx) (nx+1)=a:=⟨_,rfl⟩
 have hna:=ansM_n (f:=(.mk k2 n2 m2 b2 v2 ts2)) (d:=varT nx) (nx:=nx+1) (check_iff.1 HRx.out.2.2.1).2 (by omega)
 rw [ha] at hna
 obtain ⟨ga,na,ia,ba⟩:=a
 change 0≤na∧na≤_ at hna
 have HA0:=Qh (Qa ha hna)
 have hna0:=hna.1
 have hwr:IntKind.i64.wrap (nx+1)=nx+1:=IntWalk.i64_in _ (by omega)
 have hna1:na≤4611686018427396000:=by have:=HBd.out.2;have:=sz_pos (Tm.mk k5 n5 m5 b5 v5 ts5);omega
 clear ha hna
 obtain ⟨k6,n6,m6,b6,v6,ts6⟩:=ga
 obtain ⟨nb6,hnb6⟩:∃ nb:ByteArray,(⟨n6.toArray⟩:ByteArray)=nb:=⟨_,rfl⟩
 obtain ⟨mb6,hmb6⟩:∃ mb:ByteArray,(⟨m6.toArray⟩:ByteArray)=mb:=⟨_,rfl⟩
 obtain ⟨L6,hL6⟩:∃ L,ts6.length=L:=⟨_,rfl⟩
 have HL6:=Qh (Qa hnb6 (Qa hmb6 hL6))
 clear hnb6 hmb6 hL6
 obtain ⟨k7,n7,m7,b7,v7,ts7⟩:=ba
 obtain ⟨nb7,hnb7⟩:∃ nb:ByteArray,(⟨n7.toArray⟩:ByteArray)=nb:=⟨_,rfl⟩
 obtain ⟨mb7,hmb7⟩:∃ mb:ByteArray,(⟨m7.toArray⟩:ByteArray)=mb:=⟨_,rfl⟩
 obtain ⟨L7,hL7⟩:∃ L,ts7.length=L:=⟨_,rfl⟩
 have HL7:=Qh (Qa hnb7 (Qa hmb7 hL7))
 clear hnb7 hmb7 hL7
 have HCl:=Qh (show ∀ z,Below u2.heap.size u2 z→Calls Tryd.prog 49 #[.agg (Q5 k4 nb4 mb4 b4 v4 (.slice A4 L4 c4)),.agg (Q5 k2 nb2 mb2 b2 v2 (.slice A2 L2 c2)),.agg (Qv nx),.int .i64 (nx+1)] z (fun e w'=>∃ A c A2 c2,e = .returned (.tuple #[.agg (Q5 k6 nb6 mb6 b6 v6 (.slice A L6 c)),.int .i64 na,.agg #[.bool ia,.int .i64 k7,.string nb7,.string mb7,.int .u64 b7,.int .i64 v7,.slice A2 L7 c2]])∧TAtP w' (Grow P z w') (Tm.mk k6 n6 m6 b6 v6 ts6) (.slice A L6 c)∧TAtP w' (Grow P z w') (Tm.mk k7 n7 m7 b7 v7 ts7) (.slice A2 L7 c2)∧Below z.heap.size z w') from fun z hz=>by
  have hwz:=Qt HW2.out.1 hz
  have h:=HRx.out.1 z P (.mk k2 n2 m2 b2 v2 ts2) (varT nx) (.slice A4 L4 c4) (.slice A2 L2 c2) (.slice none 0 0) (nx+1) (HE4.out.1.below hwz HPP.out) (HT.out.2.1.below hwz HPP.out) (var_at z P ⟨by omega,by omega⟩) (fun b hb=>Ql (HPP.out b hb) hwz.size) (by omega) (by have:=HBd.out.2;have:=sz_pos (Tm.mk k5 n5 m5 b5 v5 ts5);omega) HRx.out.2.2.1
  rw [HA0.out.1,valT_mk HL4.out.1 HL4.out.2.1,valT_mk HM.out.2.2.1 HM.out.2.2.2.1,show valT (varT nx) (.slice none 0 0) = .agg (Qv nx) from rfl] at h
  exact h.mono (fun e w' h=>AnsP.letters HL6.out.1 HL6.out.2.1 HL6.out.2.2 HL7.out.1 HL7.out.2.1 HL7.out.2.2 h))
 have HSS:=Qh (show ∀ z,Below u2.heap.size u2 z→((z.cell? ⟨w.heap.size,5,none⟩=some (.slice (some ⟨g,o,none⟩) 2 c1))∧(Q7 z g o k4 nb4 mb4 b4 v4 (.slice A4 L4 c4))∧(Q6 z (w.heap.size+1) k2 nb2 mb2 b2 v2 (.slice A2 L2 c2))∧(Q6 z G 1 ⟨#[]⟩ ⟨#[]⟩ 0 nx (.slice none 0 0))) from fun z hb=>by
  have hwz:=Qt HW2.out.1 hb
  exact ⟨(((HX.out.1).below (Qt HU.out.1 hb)).cells HM.out.1 HM.out.2.1).2.2.2.2.2,⟨(hwz.cell (p:=⟨g,_,none⟩) HPg.out).trans HE4.out.2.1,(hwz.cell (p:=⟨g,_,none⟩) HPg.out).trans HE4.out.2.2.1,(hwz.cell (p:=⟨g,_,none⟩) HPg.out).trans HE4.out.2.2.2.1,(hwz.cell (p:=⟨g,_,none⟩) HPg.out).trans HE4.out.2.2.2.2.1,(hwz.cell (p:=⟨g,_,none⟩) HPg.out).trans HE4.out.2.2.2.2.2.1,(hwz.cell (p:=⟨g,_,none⟩) HPg.out).trans HE4.out.2.2.2.2.2.2⟩,((HX.out.2.1).below (Qt HU.out.1 hb)).cells HM.out.2.2.1 HM.out.2.2.2.1,(HU.out.2.1.below hb).cells rfl rfl⟩)
 refine wp_region_U 17 (by kernel_rfl) (fun z0 K0 hs0=>?_)
 refine tw 0 K0 (v:=?tv1) (fun w5 hS=>?ty1) ?_
 case ty1=>obtain ⟨s1,⟨p0,p1,p2,p3,p4,p5⟩,⟨q0,q1,q2,q3,q4,q5⟩,⟨r0,r1,r2,r3,r4,r5⟩⟩:=HSS.out _ hS;go_simp;rfl
 refine tw 1 K0 (v:=?tv2) (fun w5 hS=>?ty2) ?_
 case ty2=>obtain ⟨s1,⟨p0,p1,p2,p3,p4,p5⟩,⟨q0,q1,q2,q3,q4,q5⟩,⟨r0,r1,r2,r3,r4,r5⟩⟩:=HSS.out _ hS;go_simp;rfl
 refine tw 2 K0 (v:=?tv3) (fun w5 hS=>?ty3) ?_
 case ty3=>obtain ⟨s1,⟨p0,p1,p2,p3,p4,p5⟩,⟨q0,q1,q2,q3,q4,q5⟩,⟨r0,r1,r2,r3,r4,r5⟩⟩:=HSS.out _ hS;go_simp;rfl
 refine tw 3 K0 (v:=?tv4) (fun w5 hS=>?ty4) ?_
 case ty4=>obtain ⟨s1,⟨p0,p1,p2,p3,p4,p5⟩,⟨q0,q1,q2,q3,q4,q5⟩,⟨r0,r1,r2,r3,r4,r5⟩⟩:=HSS.out _ hS;go_simp;rfl
 refine tw 4 K0 (v:=?tv5) (fun w5 hS=>?ty5) ?_
 case ty5=>obtain ⟨s1,⟨p0,p1,p2,p3,p4,p5⟩,⟨q0,q1,q2,q3,q4,q5⟩,⟨r0,r1,r2,r3,r4,r5⟩⟩:=HSS.out _ hS;go_simp;rfl
 refine tw 5 K0 (v:=?tv6) (fun w5 hS=>?ty6) ?_
 case ty6=>obtain ⟨s1,⟨p0,p1,p2,p3,p4,p5⟩,⟨q0,q1,q2,q3,q4,q5⟩,⟨r0,r1,r2,r3,r4,r5⟩⟩:=HSS.out _ hS;go_simp;rfl
 refine tw 6 K0 (v:=?tv7) (fun w5 hS=>?ty7) ?_
 case ty7=>obtain ⟨s1,⟨p0,p1,p2,p3,p4,p5⟩,⟨q0,q1,q2,q3,q4,q5⟩,⟨r0,r1,r2,r3,r4,r5⟩⟩:=HSS.out _ hS;go_simp;rfl
 refine tw 7 K0 (v:=?tv8) (fun w5 hS=>?ty8) ?_
 case ty8=>obtain ⟨s1,⟨p0,p1,p2,p3,p4,p5⟩,⟨q0,q1,q2,q3,q4,q5⟩,⟨r0,r1,r2,r3,r4,r5⟩⟩:=HSS.out _ hS;go_simp;rfl
 refine wpAnyW_float [13,14] (fun q=>if q=13 then .cells Qz 25 else .cells #[.bool false,.int .i64 0,.string ⟨#[]⟩,.string ⟨#[]⟩,.int .u64 0,.int .i64 0,.slice none 0 0] 35) (by kernel_rfl) (by kernel_rfl) (FloatRun.two rfl rfl (fun a w=>by go_simp) rfl (fun a w=>by go_simp)) (fun _ _ h1 h2=>Qt h2 h1) (by kernel_rfl) (fun _ _ _ _ _ h=>h) rfl K0 ?_
 refine wpAnyF_one (i:=8) (by kernel_rfl) (by kernel_rfl) (fun _ _ _ _ _ h=>h) ⟨by kernel_rfl,by kernel_rfl⟩ (by kernel_rfl) rfl (by kernel_rfl) (fun f1 d1 K1 K hK=>?_)
 go_simp
 (with_reducible refine (HCl.out _ K1).mono ?_)
 rintro e f2 ⟨A6,c6,A7,c7,rfl,hg1,hg2,hb⟩
 refine hK.out _ _ hb (Qt K1 hb) ?_
 refine tf 9 (v:=?tv9) (fun w5 hS=>?ty9) ?_
 case ty9=>go_simp;rfl
 refine tf 10 (v:=?tv10) (fun w5 hS=>?ty10) ?_
 case ty10=>go_simp;rfl
 refine tf 11 (v:=?tv11) (fun w5 hS=>?ty11) ?_
 case ty11=>go_simp;rfl
 refine tf 12 (v:=?tv12) (fun w5 hS=>?ty12) ?_
 case ty12=>go_simp;rfl
 refine wpAnyF_land2 (by kernel_rfl) rfl rfl rfl (fun f3 H14 H16 d3 K3 hA hB gA gB hne=>?_)
 replace hA:TBox f3 H14 zeroT (.slice none 0 0):=hA
 replace hB:BBox f3 H16 false zeroT (.slice none 0 0):=hB
 refine stT (i:=15) (t:=(Tm.mk k6 n6 m6 b6 v6 ts6)) (A:=A6) (L:=L6) (c:=c6) (by kernel_rfl) rfl (by kernel_rfl) rfl rfl (by kernel_rfl) (.trans (by kernel_rfl) (valT_mk HL6.out.1 HL6.out.2.1).symm) hA (fun f4 hT4 g4=>?_)
 have K4:=K3.grown g4 K3.size (fun j e=>by injection e with e;have h1:=K1.size;have h2:=hb.size;rcases gA with (h | h) | h;exact h.elim;all_goals omega)
 refine ⟨fun _=>K4,?_⟩
 refine w1 16 fun K hK=>?_
 go_simp
 refine hK.out _ _ (fun _=>K4) ?_
 refine stB (i:=17) (j:=ia) (t:=(Tm.mk k7 n7 m7 b7 v7 ts7)) (A:=A7) (L:=L7) (c:=c7) (by kernel_rfl) rfl (by kernel_rfl) rfl rfl (by kernel_rfl) (.trans (by kernel_rfl) (badV_mk HL7.out.1 HL7.out.2.1).symm) (hB.gro g4 hne.symm) (fun z3 hB5 g5=>⟨fun h=>absurd h (by simp),?_⟩)
 refine wpAnyW_done (by kernel_rfl) ?_ _
 obtain ⟨hz,hzA,hzB⟩:=box_end hs0 K1 hb d3 (fun b hb=>Ql (HPP.out b hb) HW2.out.1.size) hg1 hg2 gA gB ⟨hT4,g4⟩ ⟨hB5,g5⟩ hne
 have Hz3:=Qh hz
 have H14L:=Qh hzA
 have H16L:=Qh hzB
 clear hz hzA hzB hT4 g4 hB5 g5 K4 hA hB gA gB hne d3 K3 hg1 hg2 hb d1 K1 K0 hs0 HSS
 have HB3:=Qh (Qt HU.out.1 Hz3.out.2.2.2.2)
 have HW3:=Qh (Qt HW2.out.1 Hz3.out.2.2.2.2)
 have HS3:=Qh (show w.heap.size+1+1+1+1+1≤z3.heap.size∧u2.heap.size≤z3.heap.size from ⟨Nat.le_trans HW2.out.2 Hz3.out.2.2.2.2.size,Hz3.out.2.2.2.2.size⟩)
 obtain ⟨y0,y1,y2,y3,y4,y5,y6⟩:=Hz3.out.2.1.cells HL7.out.1 HL7.out.2.1
 cases ia with
 | true=>
  go_upto_region 4 with fail
  clear y0 y1 y2 y3 y4 y5 y6
  have HE:=Qh (show (⟨zeroT,0,true,(Tm.mk k7 n7 m7 b7 v7 ts7)⟩:Ans)=R from by rw [←HR0.out,twoA,HA0.out.1];rfl)
  have hlo:=HW2.out.2
  have hH:=H16L.out
  refine wp_region_G (w.heap.size+1+1+1) 4 (by kernel_rfl) (fun v0 KK KG=>?_)
  refine tw 0 KG (v:=?tv13) (fun w5 hS=>?ty13) ?_
  case ty13=>go_simp;rfl
  refine tw 1 KG (v:=?tv14) (fun w5 hS=>?ty14) ?_
  case ty14=>obtain ⟨p0,p1,p2,p3,p4,p5,p6⟩:=(Hz3.out.2.1.gro hS (by omega)).cells HL7.out.1 HL7.out.2.1;go_simp;rfl
  refine stT (i:=2) (t:=(Tm.mk 0 [] [] 0 0 [])) (by kernel_rfl) rfl (by kernel_rfl) rfl rfl (by kernel_rfl) (.trans (by kernel_rfl) (valT_mk (sl:=.slice none 0 0) (nb:=⟨#[]⟩) (mb:=⟨#[]⟩) rfl rfl).symm) ((HX.out.2.2.2.1).below (Qt HB3.out KK)) (fun x1 hT5 g5=>⟨fun _=>grown_trans KG g5,?_⟩)
  refine w1 3 fun K hK=>?_
  go_simp
  refine hK.out _ _ (fun _=>grown_trans KG g5) ?_
  refine stB (i:=4) (j:=true) (t:=(Tm.mk k7 n7 m7 b7 v7 ts7)) (by kernel_rfl) rfl (by kernel_rfl) rfl rfl (by kernel_rfl) (.trans (by kernel_rfl) (badV_mk (i:=true) (sl:=.slice A7 L7 c7) HL7.out.1 HL7.out.2.1).symm) (BBox.gro ((HX.out.2.2.2.2.1).below (Qt HB3.out KK)) g5 (by omega)) (fun x2 hB6 g6=>⟨fun h=>absurd h (by simp),?_⟩)
  refine wpAnyW_done (by kernel_rfl) ?_ _
  go_wp2
  have hcc:=(hT5.gro g6 (by omega)).cells (nb:=⟨#[]⟩) (mb:=⟨#[]⟩) rfl rfl
  have a0:=hcc.1
  have a1:=hcc.2.1
  have a2:=hcc.2.2.1
  have a3:=hcc.2.2.2.1
  have a4:=hcc.2.2.2.2.1
  have a5:=hcc.2.2.2.2.2
  clear hcc
  have hcc:=hB6.cells HL7.out.1 HL7.out.2.1
  have s0:=hcc.1
  have s1:=hcc.2.1
  have s2:=hcc.2.2.1
  have s3:=hcc.2.2.2.1
  have s4:=hcc.2.2.2.2.1
  have s5:=hcc.2.2.2.2.2.1
  have s6:=hcc.2.2.2.2.2.2
  clear hcc
  refine bodyPost_ret (v:=.tuple #[.agg Qz,.int .i64 0,.agg #[.bool true,.int .i64 k7,.string nb7,.string mb7,.int .u64 b7,.int .i64 v7,.slice A7 L7 c7]]) (by simp [results,Tryd.results68,go_sem,a0,a1,a2,a3,a4,a5,s0,s1,s2,s3,s4,s5,s6]) rfl ?_
  rw [←HE.out]
  exact ans_end HPP.out (Qt HW3.out KK) ⟨by omega,Nat.lt_succ_of_lt (Nat.lt_succ_self _)⟩ ⟨by omega,Nat.lt_succ_self _⟩ g5 g6 (zero_at v0 _) (NW.keep (NW.low Hz3.out.2.2.2.1 HW2.out.2) KK (fun b hb=>Ql (HPP.out b hb) HW3.out.size)) (by
   show _=Ending.returned (.tuple #[valT (Tm.mk 0 [] [] 0 0 []) (.slice none 0 0),_,badV true (Tm.mk k7 n7 m7 b7 v7 ts7) (.slice A7 L7 c7)])
   rw [valT_mk (nb:=⟨#[]⟩) (mb:=⟨#[]⟩) rfl rfl,badV_mk HL7.out.1 HL7.out.2.1]
   all_goals rfl)
 | false=>
  go_upto_region 5 with fail
  clear y0 y1 y2 y3 y4 y5 y6 hwr HCl
  obtain ⟨a,ha⟩:∃ a,ansM (Tm.mk k5 n5 m5 b5 v5 ts5) (varT nx) (.mk k3 n3 m3 b3 v3 ts3) na=a:=⟨_,rfl⟩
  obtain ⟨gc,nc,ic,bc⟩:=a
  have HC0:=Qh ha
  clear ha
  have HE:=Qh (show (⟨cmpT s [(Tm.mk k6 n6 m6 b6 v6 ts6),gc],nc,ic,bc⟩:Ans)=R from by rw [←HR0.out,twoA,HA0.out.1,if_neg (by simp),HC0.out];rfl)
  obtain ⟨k8,n8,m8,b8,v8,ts8⟩:=gc
  obtain ⟨nb8,hnb8⟩:∃ nb:ByteArray,(⟨n8.toArray⟩:ByteArray)=nb:=⟨_,rfl⟩
  obtain ⟨mb8,hmb8⟩:∃ mb:ByteArray,(⟨m8.toArray⟩:ByteArray)=mb:=⟨_,rfl⟩
  obtain ⟨L8,hL8⟩:∃ L,ts8.length=L:=⟨_,rfl⟩
  have HL8:=Qh (Qa hnb8 (Qa hmb8 hL8))
  clear hnb8 hmb8 hL8
  obtain ⟨k9,n9,m9,b9,v9,ts9⟩:=bc
  obtain ⟨nb9,hnb9⟩:∃ nb:ByteArray,(⟨n9.toArray⟩:ByteArray)=nb:=⟨_,rfl⟩
  obtain ⟨mb9,hmb9⟩:∃ mb:ByteArray,(⟨m9.toArray⟩:ByteArray)=mb:=⟨_,rfl⟩
  obtain ⟨L9,hL9⟩:∃ L,ts9.length=L:=⟨_,rfl⟩
  have HL9:=Qh (Qa hnb9 (Qa hmb9 hL9))
  clear hnb9 hmb9 hL9
  have HCl:=Qh (show ∀ z,Below z3.heap.size z3 z→Calls Tryd.prog 49 #[.agg (Q5 k5 nb5 mb5 b5 v5 (.slice A5 L5 c5)),.agg (Qv nx),.agg (Q5 k3 nb3 mb3 b3 v3 (.slice A3 L3 c3)),.int .i64 na] z (fun e w'=>∃ A c A2 c2,e = .returned (.tuple #[.agg (Q5 k8 nb8 mb8 b8 v8 (.slice A L8 c)),.int .i64 nc,.agg #[.bool ic,.int .i64 k9,.string nb9,.string mb9,.int .u64 b9,.int .i64 v9,.slice A2 L9 c2]])∧TAtP w' (Grow P z w') (Tm.mk k8 n8 m8 b8 v8 ts8) (.slice A L8 c)∧TAtP w' (Grow P z w') (Tm.mk k9 n9 m9 b9 v9 ts9) (.slice A2 L9 c2)∧Below z.heap.size z w') from fun z hz=>by
   have hwz:=Qt HW3.out hz
   have h:=HRx.out.2.1 z P (varT nx) (.mk k3 n3 m3 b3 v3 ts3) (.slice A5 L5 c5) (.slice none 0 0) (.slice A3 L3 c3) na (HE5.out.1.below hwz HPP.out) (var_at z P ⟨by omega,by omega⟩) (HT.out.2.2.below hwz HPP.out) (fun b hb=>Ql (HPP.out b hb) hwz.size) (by omega) (by have:=HBd.out.2;have:=HA0.out.2.2;omega) HRx.out.2.2.2
   rw [HC0.out,valT_mk HL5.out.1 HL5.out.2.1,valT_mk HM.out.2.2.2.2.1 HM.out.2.2.2.2.2,show valT (varT nx) (.slice none 0 0) = .agg (Qv nx) from rfl] at h
   exact h.mono (fun e w' h=>AnsP.letters HL8.out.1 HL8.out.2.1 HL8.out.2.2 HL9.out.1 HL9.out.2.1 HL9.out.2.2 h))
  have HSS:=Qh (show ∀ z,Below z3.heap.size z3 z→((z.cell? ⟨w.heap.size,5,none⟩=some (.slice (some ⟨g,o,none⟩) 2 c1))∧(z.cell? ⟨g,o+6,none⟩=some (.int .i64 k5)∧z.cell? ⟨g,o+7,none⟩=some (.string nb5)∧z.cell? ⟨g,o+8,none⟩=some (.string mb5)∧z.cell? ⟨g,o+9,none⟩=some (.int .u64 b5)∧z.cell? ⟨g,o+10,none⟩=some (.int .i64 v5)∧z.cell? ⟨g,o+11,none⟩=some (.slice A5 L5 c5))∧(Q6 z G 1 ⟨#[]⟩ ⟨#[]⟩ 0 nx (.slice none 0 0))∧(Q6 z (w.heap.size+1+1) k3 nb3 mb3 b3 v3 (.slice A3 L3 c3))) from fun z hb=>by
   have hwz:=Qt HW3.out hb
   have hbz:=Qt HB3.out hb
   exact ⟨(((HX.out.1).below hbz).cells HM.out.1 HM.out.2.1).2.2.2.2.2,⟨(hwz.cell (p:=⟨g,_,none⟩) HPg.out).trans HE5.out.2.1,(hwz.cell (p:=⟨g,_,none⟩) HPg.out).trans HE5.out.2.2.1,(hwz.cell (p:=⟨g,_,none⟩) HPg.out).trans HE5.out.2.2.2.1,(hwz.cell (p:=⟨g,_,none⟩) HPg.out).trans HE5.out.2.2.2.2.1,(hwz.cell (p:=⟨g,_,none⟩) HPg.out).trans HE5.out.2.2.2.2.2.1,(hwz.cell (p:=⟨g,_,none⟩) HPg.out).trans HE5.out.2.2.2.2.2.2⟩,(HU.out.2.1.below (Qt Hz3.out.2.2.2.2 hb)).cells rfl rfl,((HX.out.2.2.1).below hbz).cells HM.out.2.2.2.2.1 HM.out.2.2.2.2.2⟩)
  refine wp_region_U 16 (by kernel_rfl) (fun z0 K0 hs0=>?_)
  refine tw 0 K0 (v:=?tv15) (fun w5 hS=>?ty15) ?_
  case ty15=>obtain ⟨s1,⟨p0,p1,p2,p3,p4,p5⟩,⟨q0,q1,q2,q3,q4,q5⟩,⟨r0,r1,r2,r3,r4,r5⟩⟩:=HSS.out _ hS;go_simp;rfl
  refine tw 1 K0 (v:=?tv16) (fun w5 hS=>?ty16) ?_
  case ty16=>obtain ⟨s1,⟨p0,p1,p2,p3,p4,p5⟩,⟨q0,q1,q2,q3,q4,q5⟩,⟨r0,r1,r2,r3,r4,r5⟩⟩:=HSS.out _ hS;go_simp;rfl
  refine tw 2 K0 (v:=?tv17) (fun w5 hS=>?ty17) ?_
  case ty17=>obtain ⟨s1,⟨p0,p1,p2,p3,p4,p5⟩,⟨q0,q1,q2,q3,q4,q5⟩,⟨r0,r1,r2,r3,r4,r5⟩⟩:=HSS.out _ hS;go_simp;rfl
  refine tw 3 K0 (v:=?tv18) (fun w5 hS=>?ty18) ?_
  case ty18=>obtain ⟨s1,⟨p0,p1,p2,p3,p4,p5⟩,⟨q0,q1,q2,q3,q4,q5⟩,⟨r0,r1,r2,r3,r4,r5⟩⟩:=HSS.out _ hS;go_simp;rfl
  refine tw 4 K0 (v:=?tv19) (fun w5 hS=>?ty19) ?_
  case ty19=>obtain ⟨s1,⟨p0,p1,p2,p3,p4,p5⟩,⟨q0,q1,q2,q3,q4,q5⟩,⟨r0,r1,r2,r3,r4,r5⟩⟩:=HSS.out _ hS;go_simp;rfl
  refine tw 5 K0 (v:=?tv20) (fun w5 hS=>?ty20) ?_
  case ty20=>obtain ⟨s1,⟨p0,p1,p2,p3,p4,p5⟩,⟨q0,q1,q2,q3,q4,q5⟩,⟨r0,r1,r2,r3,r4,r5⟩⟩:=HSS.out _ hS;go_simp;rfl
  refine tw 6 K0 (v:=?tv21) (fun w5 hS=>?ty21) ?_
  case ty21=>obtain ⟨s1,⟨p0,p1,p2,p3,p4,p5⟩,⟨q0,q1,q2,q3,q4,q5⟩,⟨r0,r1,r2,r3,r4,r5⟩⟩:=HSS.out _ hS;go_simp;rfl
  refine wpAnyW_float [12,13] (fun q=>if q=12 then .cells Qz 25 else .cells #[.bool false,.int .i64 0,.string ⟨#[]⟩,.string ⟨#[]⟩,.int .u64 0,.int .i64 0,.slice none 0 0] 35) (by kernel_rfl) (by kernel_rfl) (FloatRun.two rfl rfl (fun a w=>by go_simp) rfl (fun a w=>by go_simp)) (fun _ _ h1 h2=>Qt h2 h1) (by kernel_rfl) (fun _ _ _ _ _ h=>h) rfl K0 ?_
  refine wpAnyF_one (i:=7) (by kernel_rfl) (by kernel_rfl) (fun _ _ _ _ _ h=>h) ⟨by kernel_rfl,by kernel_rfl⟩ (by kernel_rfl) rfl (by kernel_rfl) (fun f1 d1 K1 K hK=>?_)
  go_simp
  (with_reducible refine (HCl.out _ K1).mono ?_)
  rintro e f2 ⟨A8,c8,A9,c9,rfl,hg1,hg2,hb⟩
  refine hK.out _ _ hb (Qt K1 hb) ?_
  refine tf 8 (v:=?tv22) (fun w5 hS=>?ty22) ?_
  case ty22=>go_simp;rfl
  refine tf 9 (v:=?tv23) (fun w5 hS=>?ty23) ?_
  case ty23=>go_simp;rfl
  refine tf 10 (v:=?tv24) (fun w5 hS=>?ty24) ?_
  case ty24=>go_simp;rfl
  refine tf 11 (v:=?tv25) (fun w5 hS=>?ty25) ?_
  case ty25=>go_simp;rfl
  refine wpAnyF_land2 (by kernel_rfl) rfl rfl rfl (fun f3 H17 H19 d3 K3 hA hB gA gB hne=>?_)
  replace hA:TBox f3 H17 zeroT (.slice none 0 0):=hA
  replace hB:BBox f3 H19 false zeroT (.slice none 0 0):=hB
  refine stT (i:=14) (t:=(Tm.mk k8 n8 m8 b8 v8 ts8)) (A:=A8) (L:=L8) (c:=c8) (by kernel_rfl) rfl (by kernel_rfl) rfl rfl (by kernel_rfl) (.trans (by kernel_rfl) (valT_mk HL8.out.1 HL8.out.2.1).symm) hA (fun f4 hT4 g4=>?_)
  have K4:=K3.grown g4 K3.size (fun j e=>by injection e with e;have h1:=K1.size;have h2:=hb.size;rcases gA with (h | h) | h;exact h.elim;all_goals omega)
  refine ⟨fun _=>K4,?_⟩
  refine w1 15 fun K hK=>?_
  go_simp
  refine hK.out _ _ (fun _=>K4) ?_
  refine stB (i:=16) (j:=ic) (t:=(Tm.mk k9 n9 m9 b9 v9 ts9)) (A:=A9) (L:=L9) (c:=c9) (by kernel_rfl) rfl (by kernel_rfl) rfl rfl (by kernel_rfl) (.trans (by kernel_rfl) (badV_mk HL9.out.1 HL9.out.2.1).symm) (hB.gro g4 hne.symm) (fun z6 hB5 g5=>⟨fun h=>absurd h (by simp),?_⟩)
  refine wpAnyW_done (by kernel_rfl) ?_ _
  obtain ⟨hz,hzA,hzB⟩:=box_end hs0 K1 hb d3 (fun b hb=>Ql (HPP.out b hb) HW3.out.size) hg1 hg2 gA gB ⟨hT4,g4⟩ ⟨hB5,g5⟩ hne
  have Hz6:=Qh hz
  have H17L:=Qh hzA
  have H19L:=Qh hzB
  clear hz hzA hzB hT4 g4 hB5 g5 K4 hA hB gA gB hne d3 K3 hg1 hg2 hb d1 K1 K0 hs0 HSS
  have HB6:=Qh (Qt HB3.out Hz6.out.2.2.2.2)
  have HW6:=Qh (Qt HW3.out Hz6.out.2.2.2.2)
  go_upto_region 6 with fail
  have h1:=H14L.out
  have h2:=H17L.out
  have h3:=H19L.out
  have h4:=HW2.out.2
  have h5:=HS3.out.1
  refine wp_region_G (w.heap.size+1+1+1) 8 (by kernel_rfl) (fun v0 KK KG=>?_)
  refine tw 0 KG (v:=?tv26) (fun w5 hS=>?ty26) ?_
  case ty26=>go_simp;rfl
  refine tw 1 KG (v:=?tv27) (fun w5 hS=>?ty27) ?_
  case ty27=>obtain ⟨p0,p1,p2,p3,p4,p5⟩:=((Hz3.out.1.below Hz6.out.2.2.2.2).gro hS (by omega)).cells HL6.out.1 HL6.out.2.1;go_simp;rfl
  refine tw 2 KG (v:=?tv28) (fun w5 hS=>?ty28) ?_
  case ty28=>obtain ⟨p0,p1,p2,p3,p4,p5⟩:=(Hz6.out.1.gro hS (by omega)).cells HL8.out.1 HL8.out.2.1;go_simp;rfl
  refine tw 4 KG (v:=?tv29) (fun w5 hS=>?ty29) ?_
  case ty29=>go_simp;rfl
  refine tw 5 KG (v:=?tv30) (fun w5 hS=>?ty30) ?_
  case ty30=>obtain ⟨p0,p1,p2,p3,p4,p5,p6⟩:=(Hz6.out.2.1.gro hS (by omega)).cells HL9.out.1 HL9.out.2.1;go_simp;rfl
  have hP6:∀ b,P b→b<z6.heap.size:=fun b hb=>Ql (HPP.out b hb) HW6.out.size
  have ht3:=NW.keep (NW.keep (NW.low Hz3.out.2.2.1 HW2.out.2) Hz6.out.2.2.2.2 (fun b hb=>Ql (HPP.out b hb) HW3.out.size)) KK hP6
  have ht6:=NW.keep (NW.low Hz6.out.2.2.1 HS3.out.1) KK hP6
  have htb:=NW.keep (NW.low Hz6.out.2.2.2.1 HS3.out.1) KK hP6
  have hPv:∀ b,P b→b<v0.heap.size:=fun b hb=>Ql (hP6 b hb) KK.size
  have hF:=F2_any ht3 ht6 (NW.lt hPv) sb (by rw [←HLs.out.2.2.1];show s.toArray.size≤_;rw [List.size_toArray];exact HLs.out.2.2.2)
  rw [valT_mk HL6.out.1 HL6.out.2.1,valT_mk HL8.out.1 HL8.out.2.1,show sb.data.toList=s from by rw [←HLs.out.2.2.1]] at hF
  have HF:=Qh hF
  clear hF
  refine w1 3 fun K hK=>?_
  go_simp
  (with_reducible refine HF.out.mono ?_)
  rintro e v1_ ⟨A10,c10,rfl,ht,hb⟩
  have KV:=Qt KK hb
  have htg:TAtP v1_ (NW P (w.heap.size+1+1+1+1+1) v1_) (cmpT s [(Tm.mk k6 n6 m6 b6 v6 ts6),(Tm.mk k8 n8 m8 b8 v8 ts8)]) (.slice A10 2 c10):=ht.wide (fun b hb2=>by
   have e1:=KK.size
   have e2:=hb.size
   have e3:=Hz6.out.2.2.2.2.size
   have e4:=HS3.out
   rcases hb2 with (h | h) | h
   ·exact .inl h
   ·exact .inr ⟨h.1,by omega⟩
   ·exact .inr ⟨by omega,h.2⟩)
  have htb1:=NW.keep htb hb hPv
  refine hK.out _ _ (fun _=>grown_below KV) ?_
  clear ht hb HF
  refine stT (i:=6) (t:=(Tm.mk 5 s [] 0 0 [(Tm.mk k6 n6 m6 b6 v6 ts6),(Tm.mk k8 n8 m8 b8 v8 ts8)])) (by kernel_rfl) rfl (by kernel_rfl) rfl rfl (by kernel_rfl) (.trans (by kernel_rfl) (valT_mk (sl:=.slice A10 2 c10) (mb:=⟨#[]⟩) HLs.out.2.2.1 rfl).symm) ((HX.out.2.2.2.1).below (Qt HB6.out KV)) (fun x1 hT5 g5=>⟨fun _=>grown_trans (grown_below KV) g5,?_⟩)
  refine w1 7 fun K hK=>?_
  go_simp
  refine hK.out _ _ (fun _=>grown_trans (grown_below KV) g5) ?_
  refine stB (i:=8) (j:=ic) (t:=(Tm.mk k9 n9 m9 b9 v9 ts9)) (by kernel_rfl) rfl (by kernel_rfl) rfl rfl (by kernel_rfl) (.trans (by kernel_rfl) (badV_mk (i:=ic) (sl:=.slice A9 L9 c9) HL9.out.1 HL9.out.2.1).symm) (BBox.gro ((HX.out.2.2.2.2.1).below (Qt HB6.out KV)) g5 (by omega)) (fun x2 hB6 g6=>⟨fun h=>absurd h (by simp),?_⟩)
  refine wpAnyW_done (by kernel_rfl) ?_ _
  go_wp2
  have hcc:=(hT5.gro g6 (by omega)).cells (mb:=⟨#[]⟩) HLs.out.2.2.1 rfl
  have a0:=hcc.1
  have a1:=hcc.2.1
  have a2:=hcc.2.2.1
  have a3:=hcc.2.2.2.1
  have a4:=hcc.2.2.2.2.1
  have a5:=hcc.2.2.2.2.2
  clear hcc
  have hcc:=hB6.cells HL9.out.1 HL9.out.2.1
  have s0:=hcc.1
  have s1:=hcc.2.1
  have s2:=hcc.2.2.1
  have s3:=hcc.2.2.2.1
  have s4:=hcc.2.2.2.2.1
  have s5:=hcc.2.2.2.2.2.1
  have s6:=hcc.2.2.2.2.2.2
  clear hcc
  refine bodyPost_ret (v:=.tuple #[.agg (Qn 5 sb (.slice A10 2 c10)),.int .i64 nc,.agg #[.bool ic,.int .i64 k9,.string nb9,.string mb9,.int .u64 b9,.int .i64 v9,.slice A9 L9 c9]]) (by simp [results,Tryd.results68,go_sem,a0,a1,a2,a3,a4,a5,s0,s1,s2,s3,s4,s5,s6]) rfl ?_
  rw [←HE.out]
  exact ans_end HPP.out (Qt HW6.out KV) ⟨by omega,Nat.lt_succ_of_lt (Nat.lt_succ_self _)⟩ ⟨by omega,Nat.lt_succ_self _⟩ g5 g6 htg htb1 (by
   show _=Ending.returned (.tuple #[valT (Tm.mk 5 s [] 0 0 [(Tm.mk k6 n6 m6 b6 v6 ts6),(Tm.mk k8 n8 m8 b8 v8 ts8)]) (.slice A10 2 c10),_,badV ic (Tm.mk k9 n9 m9 b9 v9 ts9) (.slice A9 L9 c9)])
   rw [valT_mk (mb:=⟨#[]⟩) HLs.out.2.2.1 rfl,badV_mk HL9.out.1 HL9.out.2.1]
   all_goals rfl)
end Go.Proofs.YtgfeainpeplphaaDoor
