import Derived.Test.YtgfeainpeplphaaDoorV9
import Derived.Test.YtgfeainpeplphaaDoorV0
set_option maxRecDepth 1000000
set_option maxHeartbeats 64000000
set_option linter.unusedVariables false
set_option linter.unusedSimpArgs false
namespace Go.Proofs.YtgfeainpeplphaaDoor
open Go.RowKit Hb Ht
attribute [local go_sem] Oper.semAt_some
def putW (h f d:Tm):Tm × Bool × Tm:=if 62<h.as.length then (zeroT,true,arityT) else (cmpT h.n (h.as ++ [f,d]),false,zeroT)
theorem rput_A {w:World} {P:Nat→Prop} {h f d:Tm} {sh sf sd:Value} (h1:TAtP w P h sh) (h2:TAtP w P f sf) (h3:TAtP w P d sd) (hP:∀ b,P b→b<w.heap.size):Calls Tryd.prog 48 #[valT h sh,valT f sf,valT d sd] w (WhP w P (putW h f d)):=by
 obtain ⟨k1,n1,m1,b1,v1,ts1,nb1,mb1,A1,c1,rfl,rfl,hn1,hm1,hl1,hc1,hx1,hv1,_,_⟩:=h1.letters
 obtain ⟨k2,n2,m2,b2,v2,ts2,nb2,mb2,A2,c2,rfl,rfl,hn2,hm2,hl2,hc2,hx2,hv2,_,_⟩:=h2.letters
 obtain ⟨k3,n3,m3,b3,v3,ts3,nb3,mb3,A3,c3,rfl,rfl,hn3,hm3,hl3,hc3,hx3,hv3,_,_⟩:=h3.letters
 rw [hv1,hv2,hv3]
 by_cases hz:62<ts1.length
 ·refine (rput_big hn1 hm1 rfl hn2 hm2 rfl hn3 hm3 rfl h1 h2 h3 hP hz).mono ?_
  rintro e w' ⟨sn,rfl,ht,hb⟩
  rw [show putW (.mk k1 n1 m1 b1 v1 ts1) (.mk k2 n2 m2 b2 v2 ts2) (.mk k3 n3 m3 b3 v3 ts3)=(zeroT,true,arityT) from if_pos hz]
  exact ⟨.slice none 0 0,sn,rfl,zero_at _ _,TAtP.wide ht fun b h=>.inr h,hb⟩
 ·refine (rput_fit hn1 hm1 rfl hn2 hm2 rfl hn3 hm3 rfl h1 h2 h3 hP (by omega)).mono ?_
  rintro e w' ⟨A6,c6,rfl,ht,hb⟩
  rw [show putW (.mk k1 n1 m1 b1 v1 ts1) (.mk k2 n2 m2 b2 v2 ts2) (.mk k3 n3 m3 b3 v3 ts3)=(cmpT n1 (ts1 ++ [.mk k2 n2 m2 b2 v2 ts2,.mk k3 n3 m3 b3 v3 ts3]),false,zeroT) from if_neg hz]
  refine ⟨.slice A6 (ts1.length+2) c6,.slice none 0 0,?_,ht,zero_at _ _,hb⟩
  show _=Ending.returned (.tuple #[valT (.mk 5 n1 [] 0 0 _) _,badV false zeroT _])
  rw [valT_mk hn1 rfl]
  rfl
theorem wh_end {w u z1 z2:World} {P:Nat→Prop} {ad3 ad4 lo:Nat} {r:Tm × Bool × Tm} {sg sb:Value} {e:Ending} (hP:∀ b,P b→b<w.heap.size) (hw:Below w.heap.size w u) (h3:w.heap.size≤ad3∧ad3<lo) (h4:w.heap.size≤ad4∧ad4<lo) (g1:u.grownBy z1 (some ad3)) (g2:z1.grownBy z2 (some ad4))
  (hg:TAtP u (NW P lo u) r.1 sg) (hb:TAtP u (NW P lo u) r.2.2 sb) (he:e = .returned (.tuple #[valT r.1 sg,badV r.2.1 r.2.2 sb])):WhP w P r e z2:=by
 have s1:=g1.size
 have s2:=g2.size
 have s0:=hw.size
 have key:∀ (t:Tm) (s:Value),TAtP u (NW P lo u) t s→TAtP z2 (Grow P w z2) t s:=fun t s h=>TAtP.keep _ h fun b hb=>by
  have hlt:b<u.heap.size∧b≠ad3∧b≠ad4:=by
   rcases hb with h | h
   ·have:=hP b h;exact ⟨by omega,by omega,by omega⟩
   ·exact ⟨h.2,by omega,by omega⟩
  refine ⟨hb.imp id fun h=>⟨by omega,by omega⟩,?_⟩
  rw [g2.block b (by omega) (fun e=>by injection e with e;omega),g1.block b hlt.1 (fun e=>by injection e with e;omega)]
 exact ⟨sg,sb,he,key _ _ hg,key _ _ hb,(hw.grown g1 s0 (Qg (by omega))).grown g2 (by omega) (Qg (by omega))⟩
theorem NW.grow {P:Nat→Prop} {lo:Nat} {v u:World} {t:Tm} {sl:Value} (h:TAtP u (Grow (NW P lo v) v u) t sl) (hl:lo≤v.heap.size) (hs:v.heap.size≤u.heap.size):TAtP u (NW P lo u) t sl:=h.wide fun b h=>by
 rcases h with (h | h) | h
 ·exact .inl h
 ·exact .inr ⟨h.1,by omega⟩
 ·exact .inr ⟨by omega,h.2⟩
def ListOk (pu:Bool) (p:Tm):Prop:=¬(pu=true∧isNil (elems p).2=false)
theorem ruleAT_put {pu i:Bool} {n:Int} {h p y g b:Tm} (hk:¬h.k=1∧¬(h.k=3∨h.k=4)) (hn:ListOk pu p) (hp:putW h (varT n) (varT (n+1))=(g,i,b)):ruleAT pu n h p y=if i=true then (zeroT,true,b) else
  if pu=true then wholeA (cmpT sNeck [g,cmpT sComma [(ansM y (varT n) (varT (n+2)) (n+3)).g,eqT (varT (n+1)) (endT (elems p).1 (varT (n+2)))]]) (ansM y (varT n) (varT (n+2)) (n+3)).i (ansM y (varT n) (varT (n+2)) (n+3)).b
  else wholeA (cmpT sNeck [g,(ansM y (varT n) (varT (n+1)) (n+2)).g]) (ansM y (varT n) (varT (n+1)) (n+2)).i (ansM y (varT n) (varT (n+1)) (n+2)).b:=by
 unfold ruleAT
 rw [if_neg hk.1,if_neg hk.2,if_neg hn]
 unfold putW at hp
 by_cases h62:62<h.as.length
 ·rw [if_pos h62] at hp ⊢
  injection hp with e1 e2
  injection e2 with e2 e3
  subst e2 e3
  rfl
 ·rw [if_neg h62] at hp ⊢
  injection hp with e1 e2
  injection e2 with e2 e3
  subst e1 e2
  rfl
theorem above_le2 {t:Tm} (h:highB t=false):above t≤4611686018427387905:=by
 have hh:∀ x∈vars t [],x≤4611686018427387904:=fun x hx=>by simpa using List.any_eq_false.1 h x hx
 unfold above
 rcases (foldl_max (vars t []) 0).2.2 with e | ⟨x,hx,e⟩
 ·rw [e];omega
 ·rw [e];have:=hh x hx;omega
theorem rRule_any {w:World} {P:Nat→Prop} {t:Tm} {st:Value} (hMk:∀ y,RMakeOk y) (h1:TAtP w P t st) (hP:∀ b,P b→b<w.heap.size) (hck:checkP t=0) (hh:highB t=false) :
  Calls Tryd.prog 12 #[valT t st] w (WhP w P (ruleA t)):=by
 obtain ⟨k1,n1,m1,b1,v1,ts1,nb1,mb1,A1,c1,rfl,rfl,hn1,hm1,hl1,hc1,hx1,hv1,_,_⟩:=h1.letters
 obtain ⟨L1,hL1⟩:∃ L,ts1.length=L:=⟨_,rfl⟩
 rw [hL1] at h1 hv1 hl1 hx1 ⊢
 rw [hv1]
 obtain ⟨W1,hW1⟩:∃ W,w.alloc (.cells (Q5 k1 nb1 mb1 b1 v1 (.slice A1 L1 c1)) 25)=W:=⟨_,rfl⟩
 have d1:Below w.heap.size w W1:=by rw [←hW1];exact Qb
 have s1:W1.heap.size=w.heap.size+1:=by rw [←hW1];simp
 have X1:TBox W1 w.heap.size (.mk k1 n1 m1 b1 v1 ts1) (.slice A1 L1 c1):=by rw [←hW1];exact TBox.new w hn1 hm1
 obtain ⟨W2,hW2⟩:∃ W,W1.alloc (.cells Qz 25)=W:=⟨_,rfl⟩
 have d2:Below W1.heap.size W1 W2:=by rw [←hW2];exact Qb
 have s2:W2.heap.size=W1.heap.size+1:=by rw [←hW2];simp
 have X2:TBox W2 W1.heap.size zeroT (.slice none 0 0):=by rw [←hW2];exact heap_alloc_new W1 _
 obtain ⟨W3,hW3⟩:∃ W,W2.alloc (.cells #[.bool false,.int .i64 0,.string ⟨#[]⟩,.string ⟨#[]⟩,.int .u64 0,.int .i64 0,.slice none 0 0] 35)=W:=⟨_,rfl⟩
 have d3:Below W2.heap.size W2 W3:=by rw [←hW3];exact Qb
 have s3:W3.heap.size=W2.heap.size+1:=by rw [←hW3];simp
 have X3:BBox W3 W2.heap.size false zeroT (.slice none 0 0):=by rw [←hW3];exact heap_alloc_new W2 _
 replace X1:=X1.below d2
 replace X1:=X1.below d3
 replace X2:=X2.below d3
 have hb0:Below w.heap.size w W3:=d1.trans ((d2.trans ((d3).mono (by omega))).mono (by omega))
 have hsz0:W3.heap.size=w.heap.size+1+1+1:=by omega
 rw [s1] at X2
 rw [s2,s1] at X3
 have HX:=Qh (Qa X1 (Qa X2 (Qa X3 (Qa hb0 hsz0))))
 subst hW1 hW2 hW3
 clear X1 d1 s1 X2 d2 s2 X3 d3 s3 hb0 hsz0
 have HL1:=Qh (Qa hn1 (Qa hm1 hL1))
 have HX1:=Qh (Qa hl1 hx1)
 have HPP:=Qh hP
 have HT:=Qh h1
 have HMk:=Qh hMk
 have HCk:=Qh (Qa hck (Qa hh (Qa (show ∀ x∈vars (Tm.mk k1 n1 m1 b1 v1 ts1) [],0≤x∧x≤4611686018427396000 from fun x hx=>⟨hasV_nn hck (((vars_mem _ [] x).1 hx).resolve_left (by simp)),Int.le_trans (show x≤4611686018427387904 by simpa using List.any_eq_false.1 hh x hx) (by decide)⟩) (Qa (above_nn (Tm.mk k1 n1 m1 b1 v1 ts1)) (above_le2 hh)))))
 obtain ⟨R,hR⟩:∃ R,ruleA (Tm.mk k1 n1 m1 b1 v1 ts1)=R:=⟨_,rfl⟩
 rw [hR]
 have HR0:=Qh hR
 clear hR h1 hP hMk hck hh hn1 hm1 hL1 hl1 hx1 hc1 hv1
 go_enter Tryd.func12,Tryd.ntmps12
 go_upto_region 1 with fail
 generalize (((w.alloc (.cells (Q5 k1 nb1 mb1 b1 v1 (.slice A1 L1 c1)) 25)).alloc (.cells Qz 25)).alloc (.cells #[.bool false,.int .i64 0,.string ⟨#[]⟩,.string ⟨#[]⟩,.int .u64 0,.int .i64 0,.slice none 0 0] 35))=u0 at *
 have HB0:=Qh (Qa (HX.out.2.2.2.1) (show (w.heap.size+1+1+1)=u0.heap.size from (HX.out.2.2.2.2).symm))
 have HXt:=Qh (show ∀ z,Below u0.heap.size u0 z→TBox z (w.heap.size) (Tm.mk k1 n1 m1 b1 v1 ts1) (.slice A1 L1 c1)∧TBox z (w.heap.size+1) zeroT (.slice none 0 0)∧BBox z (w.heap.size+1+1) false zeroT (.slice none 0 0) from fun z hz=>⟨(HX.out.1).below hz,(HX.out.2.1).below hz,(HX.out.2.2.1).below hz⟩)
 have K0:=Qh (Below.refl u0.heap.size u0)
 clear HX
 obtain ⟨B0,hB0⟩:∃ B,isC (Tm.mk k1 n1 m1 b1 v1 ts1) sRule 2=B:=⟨_,rfl⟩
 have HI0:=Qh (show ∀ u,Calls Tryd.prog 42 #[.agg (Q5 k1 nb1 mb1 b1 v1 (.slice A1 L1 c1)),.string ⟨#[45,45,62]⟩,.int .i64 2] u (fun e w'=>e = .returned (.bool B0)∧Below u.heap.size u w') from fun u=>by
  have h:=ris_any (t:=zeroT) (w:=u) (b:=b1) (v:=v1) (k:=k1) (A:=A1) HL1.out.1 HL1.out.2.1 HL1.out.2.2 HX1.out.2 HX1.out.1 ⟨#[45,45,62]⟩ 2
  rw [show isC (Tm.mk k1 n1 m1 b1 v1 ts1) (⟨#[45,45,62]⟩:ByteArray).data.toList 2=B0 from hB0] at h
  exact h)
 have HC0:=Qh hB0
 clear hB0
 obtain ⟨x0,x1,x2,x3,x4,x5⟩:=((HXt.out _ K0.out).1).cells HL1.out.1 HL1.out.2.1
 go_upto_region 2 with (go_at_call 42;(with_reducible refine (HI0.out _).mono ?_);rintro e u1 ⟨rfl,hb⟩;have K1:=Qh hb;clear hb)
 clear HI0 x0 x1 x2 x3 x4 x5
 obtain ⟨x0,x1,x2,x3,x4,x5⟩:=((HXt.out _ K1.out).1).cells HL1.out.1 HL1.out.2.1
 cases B0 with
 | false=>
  go_upto_region 3 with fail
  go_wp2_with fail
  (with_reducible refine (typed_any (kn:=sDcgRule) (kb:=⟨#[100,99,103,95,114,117,108,101]⟩) rfl (by decide) HL1.out.1 HL1.out.2.1 HL1.out.2.2 (HT.out.below (Qt HB0.out.1 K1.out) HPP.out) (fun b hb=>Ql (HPP.out b hb) (Qt HB0.out.1 K1.out).size)).mono ?_)
  rintro e u9 ⟨A6,c6,rfl,ht,hb⟩
  have KE:=Qh (Qt K1.out hb)
  have HTb:=Qh (show TAtP u9 (NW P (w.heap.size+1+1+1) u9) (typedT sDcgRule (Tm.mk k1 n1 m1 b1 v1 ts1)) (.slice A6 2 c6) from NW.of_grow ht (by have h1:=K1.out.size;have h2:=HB0.out.2;omega))
  clear ht hb x0 x1 x2 x3 x4 x5
  have hT3:=(HXt.out _ KE.out).2.1
  have hB4:=(HXt.out _ KE.out).2.2
  obtain ⟨a0,a1,a2,a3,a4,a5⟩:=hT3.cells rfl rfl
  obtain ⟨f0,f1,f2,f3,f4,f5⟩:=hT3.frozens
  have HP0:=Qh (hT3.set6 (k:=0) (b:=0) (v:=0) (n:=[]) (m:=[]) [] (.slice none 0 0) (nb:=⟨#[]⟩) (mb:=⟨#[]⟩) rfl rfl)
  have HB6:=Qh (hB4.gro HP0.out.2 (by omega))
  obtain ⟨g0,g1,g2,g3,g4,g5,g6⟩:=HB6.out.cells rfl rfl
  obtain ⟨e0,e1,e2,e3,e4,e5,e6⟩:=HB6.out.frozens
  clear hT3 hB4
  go_wp2
  clear a0 a1 a2 a3 a4 a5 f0 f1 f2 f3 f4 f5 g0 g1 g2 g3 g4 g5 g6 e0 e1 e2 e3 e4 e5 e6
  generalize ((((((u9.setCell ⟨w.heap.size+1,0,none⟩ (.int .i64 0)).setCell ⟨w.heap.size+1,1,none⟩ (.string ⟨#[]⟩)).setCell ⟨w.heap.size+1,2,none⟩ (.string ⟨#[]⟩)).setCell ⟨w.heap.size+1,3,none⟩ (.int .u64 0)).setCell ⟨w.heap.size+1,4,none⟩ (.int .i64 0)).setCell ⟨w.heap.size+1,5,none⟩ (.slice none 0 0))=z1 at *
  have hG:=HB6.out.set7 true (k:=5) (b:=0) (v:=0) (n:=sType) (m:=[]) [atomT sDcgRule,(Tm.mk k1 n1 m1 b1 v1 ts1)] (.slice A6 2 c6) (nb:=⟨#[116,121,112,101,95,101,114,114,111,114]⟩) (mb:=⟨#[]⟩) rfl rfl
  generalize (((((((z1.setCell ⟨w.heap.size+1+1,0,none⟩ (.bool true)).setCell ⟨w.heap.size+1+1,1,none⟩ (.int .i64 5)).setCell ⟨w.heap.size+1+1,2,none⟩ (.string ⟨#[116,121,112,101,95,101,114,114,111,114]⟩)).setCell ⟨w.heap.size+1+1,3,none⟩ (.string ⟨#[]⟩)).setCell ⟨w.heap.size+1+1,4,none⟩ (.int .u64 0)).setCell ⟨w.heap.size+1+1,5,none⟩ (.int .i64 0)).setCell ⟨w.heap.size+1+1,6,none⟩ (.slice A6 2 c6))=z2 at *
  obtain ⟨r0,r1,r2,r3,r4,r5⟩:=(HP0.out.1.gro hG.2 (by omega)).cells (nb:=⟨#[]⟩) (mb:=⟨#[]⟩) rfl rfl
  obtain ⟨q0,q1,q2,q3,q4,q5,q6⟩:=hG.1.cells (n:=sType) (m:=[]) (nb:=⟨#[116,121,112,101,95,101,114,114,111,114]⟩) (mb:=⟨#[]⟩) rfl rfl
  refine bodyPost_ret (v:=.tuple #[.agg Qz,.agg #[.bool true,.int .i64 5,.string ⟨#[116,121,112,101,95,101,114,114,111,114]⟩,.string ⟨#[]⟩,.int .u64 0,.int .i64 0,.slice A6 2 c6]]) (by simp [results,Tryd.results12,go_sem,r0,r1,r2,r3,r4,r5,q0,q1,q2,q3,q4,q5,q6]) rfl ?_
  rw [show R=(zeroT,true,typedT sDcgRule (Tm.mk k1 n1 m1 b1 v1 ts1)) from by rw [←HR0.out];exact if_pos HC0.out]
  exact wh_end (lo:=(w.heap.size+1+1+1)) (sg:=.slice none 0 0) (sb:=.slice A6 2 c6) HPP.out (Qt HB0.out.1 KE.out) ⟨by omega,by omega⟩ ⟨by omega,by omega⟩ HP0.out.2 hG.2 (zero_at _ _) HTb.out (by
   show _=Ending.returned (.tuple #[valT (Tm.mk 0 [] [] 0 0 []) (.slice none 0 0),badV true (Tm.mk 5 sType [] 0 0 [atomT sDcgRule,(Tm.mk k1 n1 m1 b1 v1 ts1)]) (.slice A6 2 c6)])
   rw [valT_mk (nb:=⟨#[]⟩) (mb:=⟨#[]⟩) rfl rfl,badV_mk (n:=sType) (m:=[]) (nb:=⟨#[116,121,112,101,95,101,114,114,111,114]⟩) (mb:=⟨#[]⟩) rfl rfl]
   all_goals rfl)
 | true=>
  obtain ⟨e1,e2,e3⟩:=isC_iff.1 HC0.out
  change k1=5 at e1
  change n1=sRule at e2
  change ts1.length=2 at e3
  subst e1 e2
  obtain rfl:L1=2:=by rw [←HL1.out.2.2];exact e3
  obtain ⟨x,y,rfl⟩:∃ x y,ts1 = [x,y]:=by
   match ts1,e3 with
   | [x,y],_=>exact ⟨x,y,rfl⟩
  clear e3
  obtain ⟨A0,c0,hst,hc1,hc2,_,_,hgo⟩:=TAtP.iff.1 HT.out
  obtain ⟨g,o,hA,hPg,hel⟩:=hgo (by simp [Tm.as])
  injection hst with e1 e2 e3
  rw [hA] at e1
  subst e1
  have HPg:=Qh (show g<w.heap.size from HPP.out g hPg)
  clear e2 e3 hA hgo hc1 hc2 c0 hPg
  have hex:=hel 0 x rfl
  obtain ⟨A2,c2,k2,n2,m2,b2,v2,ts2,nb2,mb2,rfl,hnb,hmb,htx,e0,e1,e2,e3,e4,e5⟩:=EltP.cells hex
  obtain ⟨L2,hL⟩:∃ L,ts2.length=L:=⟨_,rfl⟩
  obtain ⟨_,_,hs9,hl9,_,hx9,_,_⟩:=TAtP.iff.1 htx
  injection hs9 with a1 a2 a3
  subst a3
  change ts2.length≤c2 at hl9
  change ts2.length≤maxArgs at hx9
  rw [hL] at e5 htx hl9 hx9
  rw [Nat.zero_mul,Nat.add_zero] at e0 e1 e2 e3 e4 e5
  have HL2:=Qh (Qa hnb (Qa hmb hL))
  have HX2:=Qh (Qa hl9 hx9)
  have HE2:=Qh (Qa htx (Qa e0 (Qa e1 (Qa e2 (Qa e3 (Qa e4 e5))))))
  clear hnb hmb hL htx e0 e1 e2 e3 e4 e5 hex a1 a2 hl9 hx9
  have hex:=hel 1 y rfl
  obtain ⟨A3,c3,k3,n3,m3,b3,v3,ts3,nb3,mb3,rfl,hnb,hmb,htx,e0,e1,e2,e3,e4,e5⟩:=EltP.cells hex
  obtain ⟨L3,hL⟩:∃ L,ts3.length=L:=⟨_,rfl⟩
  obtain ⟨_,_,hs9,hl9,_,hx9,_,_⟩:=TAtP.iff.1 htx
  injection hs9 with a1 a2 a3
  subst a3
  change ts3.length≤c3 at hl9
  change ts3.length≤maxArgs at hx9
  rw [hL] at e5 htx hl9 hx9
  rw [Nat.one_mul] at e0 e1 e2 e3 e4 e5
  have HL3:=Qh (Qa hnb (Qa hmb hL))
  have HX3:=Qh (Qa hl9 hx9)
  have HE3:=Qh (Qa htx (Qa e0 (Qa e1 (Qa e2 (Qa e3 (Qa e4 e5))))))
  clear hnb hmb hL htx e0 e1 e2 e3 e4 e5 hex a1 a2 hl9 hx9
  clear hel
  have key:=fun q:Nat=>((Qt HB0.out.1 K1.out)).cell (p:=⟨g,q,none⟩) HPg.out
  have e0:=(key _).trans HE2.out.2.1
  have e1:=(key _).trans HE2.out.2.2.1
  have e2:=(key _).trans HE2.out.2.2.2.1
  have e3:=(key _).trans HE2.out.2.2.2.2.1
  have e4:=(key _).trans HE2.out.2.2.2.2.2.1
  have e5:=(key _).trans HE2.out.2.2.2.2.2.2
  clear key
  go_upto_region 5 with fail
  clear x0 x1 x2 x3 x4 x5 e0 e1 e2 e3 e4 e5
  have HK5:=Qh (show ∀ z,u1.alloc (.cells (Q5 k2 nb2 mb2 b2 v2 (.slice A2 L2 c2)) 25)=z→∀ G5,u1.heap.size=G5→Below u0.heap.size u0 z∧TBox z G5 (Tm.mk k2 n2 m2 b2 v2 ts2) (.slice A2 L2 c2)∧(w.heap.size+1+1+1)≤G5 from fun z e G5 eG=>by
   rw [←e,←eG]
   have hb:Below u1.heap.size u1 (u1.alloc (.cells (Q5 k2 nb2 mb2 b2 v2 (.slice A2 L2 c2)) 25)):=Qb
   exact ⟨Qt K1.out hb,TBox.new u1 HL2.out.1 HL2.out.2.1,by have h1:=K1.out.size;have h2:=HB0.out.2;omega⟩)
  generalize u1.alloc (.cells (Q5 k2 nb2 mb2 b2 v2 (.slice A2 L2 c2)) 25)=u2 at *
  replace HK5:=Qh (HK5.out _ rfl)
  generalize hG5:u1.heap.size=G5
  replace HK5:=Qh (HK5.out _ hG5)
  clear hG5 K1
  obtain ⟨N9,hN9⟩:∃ N9,above (Tm.mk 5 sRule m1 b1 v1 [(Tm.mk k2 n2 m2 b2 v2 ts2),(Tm.mk k3 n3 m3 b3 v3 ts3)])=N9:=⟨_,rfl⟩
  have HN9:=Qh (show 0≤N9∧N9≤4611686018427387905∧above (Tm.mk 5 sRule m1 b1 v1 [(Tm.mk k2 n2 m2 b2 v2 ts2),(Tm.mk k3 n3 m3 b3 v3 ts3)])=N9 from ⟨by rw [←hN9];exact HCk.out.2.2.2.1,by rw [←hN9];exact HCk.out.2.2.2.2,hN9⟩)
  clear hN9
  obtain ⟨B1,hB1⟩:∃ B,isC (Tm.mk k2 n2 m2 b2 v2 ts2) sComma 2=B:=⟨_,rfl⟩
  have HI1:=Qh (show ∀ u,Calls Tryd.prog 42 #[.agg (Q5 k2 nb2 mb2 b2 v2 (.slice A2 L2 c2)),.string ⟨#[44]⟩,.int .i64 2] u (fun e w'=>e = .returned (.bool B1)∧Below u.heap.size u w') from fun u=>by
   have h:=ris_any (t:=zeroT) (w:=u) (b:=b2) (v:=v2) (k:=k2) (A:=A2) HL2.out.1 HL2.out.2.1 HL2.out.2.2 HX2.out.2 HX2.out.1 ⟨#[44]⟩ 2
   rw [show isC (Tm.mk k2 n2 m2 b2 v2 ts2) (⟨#[44]⟩:ByteArray).data.toList 2=B1 from hB1] at h
   exact h)
  have HC1:=Qh hB1
  clear hB1
  obtain ⟨x0,x1,x2,x3,x4,x5⟩:=(HK5.out.2.1).cells HL2.out.1 HL2.out.2.1
  go_upto_region 6 with (go_at_call 42;(with_reducible refine (HI1.out _).mono ?_);rintro e u3 ⟨rfl,hb⟩;have K3:=Qh (Qa (Qt HK5.out.1 hb) (HK5.out.2.1.below hb));clear hb)
  clear HI1 x0 x1 x2 x3 x4 x5
  go_upto_region 7 with fail
  have HK7:=Qh (show ∀ z,u3.alloc (.cells Qz 25)=z→∀ G7,u3.heap.size=G7→Below u0.heap.size u0 z∧TBox z G5 (Tm.mk k2 n2 m2 b2 v2 ts2) (.slice A2 L2 c2)∧TBox z G7 zeroT (.slice none 0 0)∧(w.heap.size+1+1+1)≤G5∧G5<G7∧TAtP z P (Tm.mk k2 n2 m2 b2 v2 ts2) (.slice A2 L2 c2)∧w.heap.size≤z.heap.size from fun z e G7 eG=>by
   rw [←e,←eG]
   have hb:Below u3.heap.size u3 (u3.alloc (.cells Qz 25)):=Qb
   have hw:=HB0.out.1.trans ((Qt K3.out.1 hb).mono HB0.out.1.size)
   exact ⟨Qt K3.out.1 hb,K3.out.2.below hb,heap_alloc_new u3 _,HK5.out.2.2,K3.out.2.lt,HE2.out.1.below hw HPP.out,hw.size⟩)
  generalize u3.alloc (.cells Qz 25)=u4 at *
  replace HK7:=Qh (HK7.out _ rfl)
  generalize hG7:u3.heap.size=G7
  replace HK7:=Qh (HK7.out _ hG7)
  clear hG7 K3 HK5
  have HRA:=Qh (show ruleAT (isC (Tm.mk k2 n2 m2 b2 v2 ts2) sComma 2) N9 (if isC (Tm.mk k2 n2 m2 b2 v2 ts2) sComma 2=true then (Tm.mk k2 n2 m2 b2 v2 ts2).as.getD 0 zeroT else (Tm.mk k2 n2 m2 b2 v2 ts2)) ((Tm.mk k2 n2 m2 b2 v2 ts2).as.getD 1 zeroT) (Tm.mk k3 n3 m3 b3 v3 ts3)=R from by
   rw [←HR0.out,←HN9.out.2.2]
   exact (if_neg (by rw [HC0.out];simp)).symm)
  rw [HC1.out] at HRA
  have HCx:=Qh (show checkP (Tm.mk k2 n2 m2 b2 v2 ts2)=0∧checkP (Tm.mk k3 n3 m3 b3 v3 ts3)=0 from ⟨check_arg HCk.out.1 (by simp [Tm.as]),check_arg HCk.out.1 (by simp [Tm.as])⟩)
  obtain rfl | rfl:B1=false∨B1=true:=by cases B1 <;> simp
  focus
   go_upto_region 10 with fail
   have HS:=Qh (show ∃ h p sh sp,Below u0.heap.size u0 u4∧TBox u4 G5 h sh∧TBox u4 G7 p sp∧TAtP u4 P h sh∧TAtP u4 P p sp∧sz p≤4000∧ruleAT false N9 h p (Tm.mk k3 n3 m3 b3 v3 ts3)=R from
    ⟨(Tm.mk k2 n2 m2 b2 v2 ts2),zeroT,_,_,HK7.out.1,HK7.out.2.1,HK7.out.2.2.1,HK7.out.2.2.2.2.2.1,zero_at _ _,by decide,ruleAT_np.trans HRA.out⟩)
   generalize u4=u5 at *
  rotate_left
  focus
   obtain ⟨e1,e2,e3⟩:=isC_iff.1 HC1.out
   change k2=5 at e1
   change n2=sComma at e2
   change ts2.length=2 at e3
   subst e1 e2
   obtain rfl:L2=2:=by rw [←HL2.out.2.2];exact e3
   obtain ⟨h,p,rfl⟩:∃ h p,ts2 = [h,p]:=by
    match ts2,e3 with
    | [h,p],_=>exact ⟨h,p,rfl⟩
   clear e3
   obtain ⟨A0,c0,hst,hc1,hc2,_,_,hgo⟩:=TAtP.iff.1 HE2.out.1
   obtain ⟨g2,o2,hA,hPg,hel⟩:=hgo (by simp [Tm.as])
   injection hst with e1 e2 e3
   rw [hA] at e1
   subst e1
   have HPg2:=Qh (show g2<w.heap.size from HPP.out g2 hPg)
   clear e2 e3 hA hgo hc1 hc2 c0 hPg
   have hex:=hel 0 h rfl
   obtain ⟨A4,c4,k4,n4,m4,b4,v4,ts4,nb4,mb4,rfl,hnb,hmb,htx,e0,e1,e2,e3,e4,e5⟩:=EltP.cells hex
   obtain ⟨L4,hL⟩:∃ L,ts4.length=L:=⟨_,rfl⟩
   obtain ⟨_,_,hs9,hl9,_,hx9,_,_⟩:=TAtP.iff.1 htx
   injection hs9 with a1 a2 a3
   subst a3
   change ts4.length≤c4 at hl9
   change ts4.length≤maxArgs at hx9
   rw [hL] at e5 htx hl9 hx9
   rw [Nat.zero_mul,Nat.add_zero] at e0 e1 e2 e3 e4 e5
   have HL4:=Qh (Qa hnb (Qa hmb hL))
   have HX4:=Qh (Qa hl9 hx9)
   have HE4:=Qh (Qa htx (Qa e0 (Qa e1 (Qa e2 (Qa e3 (Qa e4 e5))))))
   clear hnb hmb hL htx e0 e1 e2 e3 e4 e5 hex a1 a2 hl9 hx9
   have hex:=hel 1 p rfl
   obtain ⟨A5,c5,k5,n5,m5,b5,v5,ts5,nb5,mb5,rfl,hnb,hmb,htx,e0,e1,e2,e3,e4,e5⟩:=EltP.cells hex
   obtain ⟨L5,hL⟩:∃ L,ts5.length=L:=⟨_,rfl⟩
   obtain ⟨_,_,hs9,hl9,_,hx9,_,_⟩:=TAtP.iff.1 htx
   injection hs9 with a1 a2 a3
   subst a3
   change ts5.length≤c5 at hl9
   change ts5.length≤maxArgs at hx9
   rw [hL] at e5 htx hl9 hx9
   rw [Nat.one_mul] at e0 e1 e2 e3 e4 e5
   have HL5:=Qh (Qa hnb (Qa hmb hL))
   have HX5:=Qh (Qa hl9 hx9)
   have HE5:=Qh (Qa htx (Qa e0 (Qa e1 (Qa e2 (Qa e3 (Qa e4 e5))))))
   clear hnb hmb hL htx e0 e1 e2 e3 e4 e5 hex a1 a2 hl9 hx9
   clear hel
   have hw4:=Qt HB0.out.1 HK7.out.1
   have HW4:=Qh hw4
   have key:=fun q:Nat=>(HW4.out).cell (p:=⟨g2,q,none⟩) HPg2.out
   have e0:=(key _).trans HE5.out.2.1
   have e1:=(key _).trans HE5.out.2.2.1
   have e2:=(key _).trans HE5.out.2.2.2.1
   have e3:=(key _).trans HE5.out.2.2.2.2.1
   have e4:=(key _).trans HE5.out.2.2.2.2.2.1
   have e5:=(key _).trans HE5.out.2.2.2.2.2.2
   clear key
   obtain ⟨x0,x1,x2,x3,x4,x5⟩:=(HK7.out.2.1).cells HL2.out.1 HL2.out.2.1
   obtain ⟨a0,a1,a2,a3,a4,a5⟩:=HK7.out.2.2.1.cells rfl rfl
   obtain ⟨f0,f1,f2,f3,f4,f5⟩:=HK7.out.2.2.1.frozens
   clear hw4
   go_upto_region 9 with fail
   clear x0 x1 x2 x3 x4 x5 a0 a1 a2 a3 a4 a5 f0 f1 f2 f3 f4 f5 e0 e1 e2 e3 e4 e5
   have HS1:=Qh (HK7.out.2.2.1.set6 (k:=k5) (b:=b5) (v:=v5) (n:=n5) (m:=m5) ts5 (.slice A5 L5 c5) (nb:=nb5) (mb:=mb5) HL5.out.1 HL5.out.2.1)
   generalize ((((((u4.setCell ⟨G7,0,none⟩ (.int .i64 k5)).setCell ⟨G7,1,none⟩ (.string nb5)).setCell ⟨G7,2,none⟩ (.string mb5)).setCell ⟨G7,3,none⟩ (.int .u64 b5)).setCell ⟨G7,4,none⟩ (.int .i64 v5)).setCell ⟨G7,5,none⟩ (.slice A5 L5 c5))=z1 at *
   have HB1:=Qh (show TBox z1 G5 (Tm.mk 5 sComma m2 b2 v2 [(Tm.mk k4 n4 m4 b4 v4 ts4),(Tm.mk k5 n5 m5 b5 v5 ts5)]) (.slice (some ⟨g2,o2,none⟩) 2 c2)∧Below u0.heap.size u0 z1 from ⟨HK7.out.2.1.gro HS1.out.2 (by have:=HK7.out.2.2.2.2.1;omega),HK7.out.1.grown HS1.out.2 HK7.out.1.size (fun j e=>by injection e with e;have h1:=HK7.out.2.2.2;have h2:=HB0.out.2;omega)⟩)
   have key:=fun q:Nat=>((Qt HB0.out.1 HB1.out.2)).cell (p:=⟨g2,q,none⟩) HPg2.out
   have e0:=(key _).trans HE4.out.2.1
   have e1:=(key _).trans HE4.out.2.2.1
   have e2:=(key _).trans HE4.out.2.2.2.1
   have e3:=(key _).trans HE4.out.2.2.2.2.1
   have e4:=(key _).trans HE4.out.2.2.2.2.2.1
   have e5:=(key _).trans HE4.out.2.2.2.2.2.2
   clear key
   obtain ⟨a0,a1,a2,a3,a4,a5⟩:=HB1.out.1.cells rfl (show (⟨m2.toArray⟩:ByteArray)=mb2 from HL2.out.2.1)
   obtain ⟨f0,f1,f2,f3,f4,f5⟩:=HB1.out.1.frozens
   go_upto_region 10 with fail
   clear a0 a1 a2 a3 a4 a5 f0 f1 f2 f3 f4 f5 e0 e1 e2 e3 e4 e5
   have HS2:=Qh (HB1.out.1.set6 (k:=k4) (b:=b4) (v:=v4) (n:=n4) (m:=m4) ts4 (.slice A4 L4 c4) (nb:=nb4) (mb:=mb4) HL4.out.1 HL4.out.2.1)
   generalize ((((((z1.setCell ⟨G5,0,none⟩ (.int .i64 k4)).setCell ⟨G5,1,none⟩ (.string nb4)).setCell ⟨G5,2,none⟩ (.string mb4)).setCell ⟨G5,3,none⟩ (.int .u64 b4)).setCell ⟨G5,4,none⟩ (.int .i64 v4)).setCell ⟨G5,5,none⟩ (.slice A4 L4 c4))=u5 at *
   have HS:=Qh (show ∃ h p sh sp,Below u0.heap.size u0 u5∧TBox u5 G5 h sh∧TBox u5 G7 p sp∧TAtP u5 P h sh∧TAtP u5 P p sp∧sz p≤4000∧ruleAT true N9 h p (Tm.mk k3 n3 m3 b3 v3 ts3)=R from by
    have h1:=HK7.out.2.2.2
    have h2:=HB0.out.2
    have b1:=HB1.out.2.grown HS2.out.2 HB1.out.2.size (Qg (by omega))
    have hw:=Qt HB0.out.1 b1
    exact ⟨(Tm.mk k4 n4 m4 b4 v4 ts4),(Tm.mk k5 n5 m5 b5 v5 ts5),_,_,b1,HS2.out.1,HS1.out.1.gro HS2.out.2 (by omega),HE4.out.1.below hw HPP.out,HE5.out.1.below hw HPP.out,(check_iff.1 (check_arg HCx.out.1 (by simp [Tm.as]))).1,HRA.out⟩)
   clear HS1 HS2 HB1 HW4 HE4 HE5 HL4 HL5 HX4 HX5 HPg2
  rotate_left
  all_goals (
   obtain ⟨h,p,sh,sp,hS⟩:=HS.out
   clear HS HK7 HRA HC1
   obtain ⟨k6,n6,m6,b6,v6,ts6,nb6,mb6,A6,c6,rfl,rfl,hn6,hm6,hl6,_,hx6,_,_,_⟩:=hS.2.2.2.1.letters
   obtain ⟨L6,hL6⟩:∃ L,ts6.length=L:=⟨_,rfl⟩
   rw [hL6] at hS hl6 hx6
   have HL6:=Qh (Qa hn6 (Qa hm6 hL6))
   have HX6:=Qh (Qa hl6 hx6)
   clear hn6 hm6 hL6 hl6 hx6
   obtain ⟨k7,n7,m7,b7,v7,ts7,nb7,mb7,A7,c7,rfl,rfl,hn7,hm7,hl7,_,hx7,_,_,_⟩:=hS.2.2.2.2.1.letters
   obtain ⟨L7,hL7⟩:∃ L,ts7.length=L:=⟨_,rfl⟩
   rw [hL7] at hS hl7 hx7
   have HL7:=Qh (Qa hn7 (Qa hm7 hL7))
   have HX7:=Qh (Qa hl7 hx7)
   clear hn7 hm7 hL7 hl7 hx7
   have HBx:=Qh (show ∀ z,Below u5.heap.size u5 z→Below u0.heap.size u0 z∧TBox z G5 (Tm.mk k6 n6 m6 b6 v6 ts6) (.slice A6 L6 c6)∧TBox z G7 (Tm.mk k7 n7 m7 b7 v7 ts7) (.slice A7 L7 c7)∧TAtP z P (Tm.mk k6 n6 m6 b6 v6 ts6) (.slice A6 L6 c6)∧TAtP z P (Tm.mk k7 n7 m7 b7 v7 ts7) (.slice A7 L7 c7)∧TAtP z P (Tm.mk k3 n3 m3 b3 v3 ts3) (.slice A3 L3 c3)∧Below w.heap.size w z from fun z hz=>by
    have hw5:=Qt HB0.out.1 hS.1
    have hw:=Qt hw5 hz
    have hP:∀ b,P b→b<u5.heap.size:=fun b hb=>Ql (HPP.out b hb) hw5.size
    exact ⟨Qt hS.1 hz,hS.2.1.below hz,hS.2.2.1.below hz,hS.2.2.2.1.below hz hP,hS.2.2.2.2.1.below hz hP,HE3.out.1.below hw HPP.out,hw⟩)
   have HSz:=Qh hS.2.2.2.2.2
   have K5:=Qh (Below.refl u5.heap.size u5)
   clear hS
   obtain ⟨x0,x1,x2,x3,x4,x5⟩:=((HBx.out _ K5.out).2.1).cells HL6.out.1 HL6.out.2.1
   by_cases hk1:k6=1
   ·have hk1b:(k6==1)=true:=by simpa using hk1
    have HE:=Qh (show R=(zeroT,true,atomT sInst) from by rw [←HSz.out.2];exact if_pos hk1)
    clear hk1
    go_wp2_with fail
    clear x0 x1 x2 x3 x4 x5
    (with_reducible refine (A_any _ _).mono ?_)
    rintro e u6 ⟨rfl,hb⟩
    have K6:=Qh hb
    clear hb
    go_wp2_with fail
    (with_reducible refine (rthrow_any (k:=2) (b:=0) (v:=0) (ts:=[]) (n:=sInst) (m:=[]) (nb:=⟨#[105,110,115,116,97,110,116,105,97,116,105,111,110,95,101,114,114,111,114]⟩) (mb:=⟨#[]⟩) rfl rfl).mono ?_)
    rintro e u9 ⟨rfl,hb⟩
    have KE:=Qh (HBx.out _ (Qt K6.out hb)).1
    clear hb K6
    have hT3:=(HXt.out _ KE.out).2.1
    have hB4:=(HXt.out _ KE.out).2.2
    obtain ⟨a0,a1,a2,a3,a4,a5⟩:=hT3.cells rfl rfl
    obtain ⟨f0,f1,f2,f3,f4,f5⟩:=hT3.frozens
    have HP0:=Qh (hT3.set6 (k:=0) (b:=0) (v:=0) (n:=[]) (m:=[]) [] (.slice none 0 0) (nb:=⟨#[]⟩) (mb:=⟨#[]⟩) rfl rfl)
    have HB6:=Qh (hB4.gro HP0.out.2 (by omega))
    obtain ⟨g0,g1,g2,g3,g4,g5,g6⟩:=HB6.out.cells rfl rfl
    obtain ⟨e0,e1,e2,e3,e4,e5,e6⟩:=HB6.out.frozens
    clear hT3 hB4
    go_wp2
    clear a0 a1 a2 a3 a4 a5 f0 f1 f2 f3 f4 f5 g0 g1 g2 g3 g4 g5 g6 e0 e1 e2 e3 e4 e5 e6
    generalize ((((((u9.setCell ⟨w.heap.size+1,0,none⟩ (.int .i64 0)).setCell ⟨w.heap.size+1,1,none⟩ (.string ⟨#[]⟩)).setCell ⟨w.heap.size+1,2,none⟩ (.string ⟨#[]⟩)).setCell ⟨w.heap.size+1,3,none⟩ (.int .u64 0)).setCell ⟨w.heap.size+1,4,none⟩ (.int .i64 0)).setCell ⟨w.heap.size+1,5,none⟩ (.slice none 0 0))=z1 at *
    have hG:=HB6.out.set7 true (k:=2) (b:=0) (v:=0) (n:=sInst) (m:=[]) [] (.slice none 0 0) (nb:=⟨#[105,110,115,116,97,110,116,105,97,116,105,111,110,95,101,114,114,111,114]⟩) (mb:=⟨#[]⟩) rfl rfl
    generalize (((((((z1.setCell ⟨w.heap.size+1+1,0,none⟩ (.bool true)).setCell ⟨w.heap.size+1+1,1,none⟩ (.int .i64 2)).setCell ⟨w.heap.size+1+1,2,none⟩ (.string ⟨#[105,110,115,116,97,110,116,105,97,116,105,111,110,95,101,114,114,111,114]⟩)).setCell ⟨w.heap.size+1+1,3,none⟩ (.string ⟨#[]⟩)).setCell ⟨w.heap.size+1+1,4,none⟩ (.int .u64 0)).setCell ⟨w.heap.size+1+1,5,none⟩ (.int .i64 0)).setCell ⟨w.heap.size+1+1,6,none⟩ (.slice none 0 0))=z2 at *
    obtain ⟨r0,r1,r2,r3,r4,r5⟩:=(HP0.out.1.gro hG.2 (by omega)).cells (nb:=⟨#[]⟩) (mb:=⟨#[]⟩) rfl rfl
    obtain ⟨q0,q1,q2,q3,q4,q5,q6⟩:=hG.1.cells (n:=sInst) (m:=[]) (nb:=⟨#[105,110,115,116,97,110,116,105,97,116,105,111,110,95,101,114,114,111,114]⟩) (mb:=⟨#[]⟩) rfl rfl
    refine bodyPost_ret (v:=.tuple #[.agg Qz,.agg #[.bool true,.int .i64 2,.string ⟨#[105,110,115,116,97,110,116,105,97,116,105,111,110,95,101,114,114,111,114]⟩,.string ⟨#[]⟩,.int .u64 0,.int .i64 0,.slice none 0 0]]) (by simp [results,Tryd.results12,go_sem,r0,r1,r2,r3,r4,r5,q0,q1,q2,q3,q4,q5,q6]) rfl ?_
    rw [HE.out]
    exact wh_end (lo:=(w.heap.size+1+1+1)) (sg:=.slice none 0 0) (sb:=.slice none 0 0) HPP.out (Qt HB0.out.1 KE.out) ⟨by omega,by omega⟩ ⟨by omega,by omega⟩ HP0.out.2 hG.2 (zero_at _ _) (atom_at _ _ (by decide)) (by
     show _=Ending.returned (.tuple #[valT (Tm.mk 0 [] [] 0 0 []) (.slice none 0 0),badV true (Tm.mk 2 sInst [] 0 0 []) (.slice none 0 0)])
     rw [valT_mk (nb:=⟨#[]⟩) (mb:=⟨#[]⟩) rfl rfl,badV_mk (n:=sInst) (m:=[]) (nb:=⟨#[105,110,115,116,97,110,116,105,97,116,105,111,110,95,101,114,114,111,114]⟩) (mb:=⟨#[]⟩) rfl rfl]
     all_goals rfl)
   have hk1b:(k6==1)=false:=by simpa using hk1
   by_cases hk34:k6=3∨k6=4
   ·have HE:=Qh (show R=(zeroT,true,typedT sCallable (Tm.mk k6 n6 m6 b6 v6 ts6)) from by rw [←HSz.out.2];exact (if_neg hk1).trans (if_pos hk34))
    obtain hk3b | ⟨hk3b,hk4b⟩:(k6==3)=true∨((k6==3)=false∧(k6==4)=true):=by
     rcases hk34 with h | h
     ·exact .inl (by simpa using h)
     ·exact .inr ⟨by simp;omega,by simpa using h⟩
    all_goals (
     clear hk1 hk34
     go_upto_region 13 with fail
     go_wp2_with fail
     (with_reducible refine (typed_any (kn:=sCallable) (kb:=⟨#[99,97,108,108,97,98,108,101]⟩) rfl (by decide) HL6.out.1 HL6.out.2.1 HL6.out.2.2 (HBx.out _ K5.out).2.2.2.1 (fun b hb=>Ql (HPP.out b hb) (HB0.out.1.trans ((HBx.out _ K5.out).1.mono HB0.out.1.size)).size)).mono ?_)
     rintro e u9 ⟨A6,c6,rfl,ht,hb⟩
     have KE:=Qh ((HBx.out _ K5.out).1.trans (hb.mono (HBx.out _ K5.out).1.size))
     have HTb:=Qh (show TAtP u9 (NW P (w.heap.size+1+1+1) u9) (typedT sCallable (Tm.mk k6 n6 m6 b6 v6 ts6)) (.slice A6 2 c6) from NW.of_grow ht (by have h1:=(HBx.out _ K5.out).1.size;have h2:=HB0.out.2;omega))
     clear ht hb x0 x1 x2 x3 x4 x5
     have hT3:=(HXt.out _ KE.out).2.1
     have hB4:=(HXt.out _ KE.out).2.2
     obtain ⟨a0,a1,a2,a3,a4,a5⟩:=hT3.cells rfl rfl
     obtain ⟨f0,f1,f2,f3,f4,f5⟩:=hT3.frozens
     have HP0:=Qh (hT3.set6 (k:=0) (b:=0) (v:=0) (n:=[]) (m:=[]) [] (.slice none 0 0) (nb:=⟨#[]⟩) (mb:=⟨#[]⟩) rfl rfl)
     have HB6:=Qh (hB4.gro HP0.out.2 (by omega))
     obtain ⟨g0,g1,g2,g3,g4,g5,g6⟩:=HB6.out.cells rfl rfl
     obtain ⟨e0,e1,e2,e3,e4,e5,e6⟩:=HB6.out.frozens
     clear hT3 hB4
     go_wp2
     clear a0 a1 a2 a3 a4 a5 f0 f1 f2 f3 f4 f5 g0 g1 g2 g3 g4 g5 g6 e0 e1 e2 e3 e4 e5 e6
     generalize ((((((u9.setCell ⟨w.heap.size+1,0,none⟩ (.int .i64 0)).setCell ⟨w.heap.size+1,1,none⟩ (.string ⟨#[]⟩)).setCell ⟨w.heap.size+1,2,none⟩ (.string ⟨#[]⟩)).setCell ⟨w.heap.size+1,3,none⟩ (.int .u64 0)).setCell ⟨w.heap.size+1,4,none⟩ (.int .i64 0)).setCell ⟨w.heap.size+1,5,none⟩ (.slice none 0 0))=z1 at *
     have hG:=HB6.out.set7 true (k:=5) (b:=0) (v:=0) (n:=sType) (m:=[]) [atomT sCallable,(Tm.mk k6 n6 m6 b6 v6 ts6)] (.slice A6 2 c6) (nb:=⟨#[116,121,112,101,95,101,114,114,111,114]⟩) (mb:=⟨#[]⟩) rfl rfl
     generalize (((((((z1.setCell ⟨w.heap.size+1+1,0,none⟩ (.bool true)).setCell ⟨w.heap.size+1+1,1,none⟩ (.int .i64 5)).setCell ⟨w.heap.size+1+1,2,none⟩ (.string ⟨#[116,121,112,101,95,101,114,114,111,114]⟩)).setCell ⟨w.heap.size+1+1,3,none⟩ (.string ⟨#[]⟩)).setCell ⟨w.heap.size+1+1,4,none⟩ (.int .u64 0)).setCell ⟨w.heap.size+1+1,5,none⟩ (.int .i64 0)).setCell ⟨w.heap.size+1+1,6,none⟩ (.slice A6 2 c6))=z2 at *
     obtain ⟨r0,r1,r2,r3,r4,r5⟩:=(HP0.out.1.gro hG.2 (by omega)).cells (nb:=⟨#[]⟩) (mb:=⟨#[]⟩) rfl rfl
     obtain ⟨q0,q1,q2,q3,q4,q5,q6⟩:=hG.1.cells (n:=sType) (m:=[]) (nb:=⟨#[116,121,112,101,95,101,114,114,111,114]⟩) (mb:=⟨#[]⟩) rfl rfl
     refine bodyPost_ret (v:=.tuple #[.agg Qz,.agg #[.bool true,.int .i64 5,.string ⟨#[116,121,112,101,95,101,114,114,111,114]⟩,.string ⟨#[]⟩,.int .u64 0,.int .i64 0,.slice A6 2 c6]]) (by simp [results,Tryd.results12,go_sem,r0,r1,r2,r3,r4,r5,q0,q1,q2,q3,q4,q5,q6]) rfl ?_
     rw [HE.out]
     exact wh_end (lo:=(w.heap.size+1+1+1)) (sg:=.slice none 0 0) (sb:=.slice A6 2 c6) HPP.out (Qt HB0.out.1 KE.out) ⟨by omega,by omega⟩ ⟨by omega,by omega⟩ HP0.out.2 hG.2 (zero_at _ _) HTb.out (by
      show _=Ending.returned (.tuple #[valT (Tm.mk 0 [] [] 0 0 []) (.slice none 0 0),badV true (Tm.mk 5 sType [] 0 0 [atomT sCallable,(Tm.mk k6 n6 m6 b6 v6 ts6)]) (.slice A6 2 c6)])
      rw [valT_mk (nb:=⟨#[]⟩) (mb:=⟨#[]⟩) rfl rfl,badV_mk (n:=sType) (m:=[]) (nb:=⟨#[116,121,112,101,95,101,114,114,111,114]⟩) (mb:=⟨#[]⟩) rfl rfl]
      all_goals rfl))
   have hk3b:(k6==3)=false:=by simp;omega
   have hk4b:(k6==4)=false:=by simp;omega
   have HK6:=Qh (Qa hk1 hk34)
   clear hk1 hk34
   go_upto_region 14 with fail
   clear x0 x1 x2 x3 x4 x5
   obtain ⟨x0,x1,x2,x3,x4,x5⟩:=((HBx.out _ K5.out).2.2.1).cells HL7.out.1 HL7.out.2.1
   obtain ⟨BN,hBN⟩:∃ BN,isNil (elems (Tm.mk k7 n7 m7 b7 v7 ts7)).2=BN:=⟨_,rfl⟩
   have hL:=rlist_any (w0:=u5) (w:=u5) ((HBx.out _ K5.out).2.2.2.2.1.wide (fun b hb=>Ql (HPP.out b hb) (HBx.out _ K5.out).2.2.2.2.2.2.size)) HSz.out.1
   unfold ListPost at hL
   rw [valT_mk HL7.out.1 HL7.out.2.1,hBN] at hL
   have HLc:=Qh hL
   have HBN:=Qh hBN
   clear hL hBN
   go_wp2_with fail
   (with_reducible refine HLc.out.mono ?_)
   rintro e u6 ⟨A8,n8,c8,ps,rfl,hr,hps,hn8,hb⟩
   have K6:=Qh hb
   have HR8:=Qh (Qa hr (Qa hps hn8))
   clear hr hps hn8 hb HLc x0 x1 x2 x3 x4 x5)
  focus
   have HBn:=Qh (show ListOk false (Tm.mk k7 n7 m7 b7 v7 ts7) from fun h=>by simp at h)
   go_upto_region 17 with fail
  rotate_left
  focus
   obtain rfl | rfl:BN=false∨BN=true:=by cases BN <;> simp
   ·have HE:=Qh (show R=(zeroT,true,typedT sList (Tm.mk k7 n7 m7 b7 v7 ts7)) from by rw [←HSz.out.2];exact (if_neg HK6.out.1).trans ((if_neg HK6.out.2).trans (if_pos ⟨rfl,HBN.out⟩)))
    go_upto_region 16 with fail
    obtain ⟨x0,x1,x2,x3,x4,x5⟩:=((HBx.out _ K6.out).2.2.1).cells HL7.out.1 HL7.out.2.1
    go_wp2_with fail
    (with_reducible refine (typed_any (kn:=sList) (kb:=⟨#[108,105,115,116]⟩) rfl (by decide) HL7.out.1 HL7.out.2.1 HL7.out.2.2 (HBx.out _ K6.out).2.2.2.2.1 (fun b hb=>Ql (HPP.out b hb) (HB0.out.1.trans ((HBx.out _ K6.out).1.mono HB0.out.1.size)).size)).mono ?_)
    rintro e u9 ⟨A6,c6,rfl,ht,hb⟩
    have KE:=Qh ((HBx.out _ K6.out).1.trans (hb.mono (HBx.out _ K6.out).1.size))
    have HTb:=Qh (show TAtP u9 (NW P (w.heap.size+1+1+1) u9) (typedT sList (Tm.mk k7 n7 m7 b7 v7 ts7)) (.slice A6 2 c6) from NW.of_grow ht (by have h1:=(HBx.out _ K6.out).1.size;have h2:=HB0.out.2;omega))
    clear ht hb x0 x1 x2 x3 x4 x5
    have hT3:=(HXt.out _ KE.out).2.1
    have hB4:=(HXt.out _ KE.out).2.2
    obtain ⟨a0,a1,a2,a3,a4,a5⟩:=hT3.cells rfl rfl
    obtain ⟨f0,f1,f2,f3,f4,f5⟩:=hT3.frozens
    have HP0:=Qh (hT3.set6 (k:=0) (b:=0) (v:=0) (n:=[]) (m:=[]) [] (.slice none 0 0) (nb:=⟨#[]⟩) (mb:=⟨#[]⟩) rfl rfl)
    have HB6:=Qh (hB4.gro HP0.out.2 (by omega))
    obtain ⟨g0,g1,g2,g3,g4,g5,g6⟩:=HB6.out.cells rfl rfl
    obtain ⟨e0,e1,e2,e3,e4,e5,e6⟩:=HB6.out.frozens
    clear hT3 hB4
    go_wp2
    clear a0 a1 a2 a3 a4 a5 f0 f1 f2 f3 f4 f5 g0 g1 g2 g3 g4 g5 g6 e0 e1 e2 e3 e4 e5 e6
    generalize ((((((u9.setCell ⟨w.heap.size+1,0,none⟩ (.int .i64 0)).setCell ⟨w.heap.size+1,1,none⟩ (.string ⟨#[]⟩)).setCell ⟨w.heap.size+1,2,none⟩ (.string ⟨#[]⟩)).setCell ⟨w.heap.size+1,3,none⟩ (.int .u64 0)).setCell ⟨w.heap.size+1,4,none⟩ (.int .i64 0)).setCell ⟨w.heap.size+1,5,none⟩ (.slice none 0 0))=z1 at *
    have hG:=HB6.out.set7 true (k:=5) (b:=0) (v:=0) (n:=sType) (m:=[]) [atomT sList,(Tm.mk k7 n7 m7 b7 v7 ts7)] (.slice A6 2 c6) (nb:=⟨#[116,121,112,101,95,101,114,114,111,114]⟩) (mb:=⟨#[]⟩) rfl rfl
    generalize (((((((z1.setCell ⟨w.heap.size+1+1,0,none⟩ (.bool true)).setCell ⟨w.heap.size+1+1,1,none⟩ (.int .i64 5)).setCell ⟨w.heap.size+1+1,2,none⟩ (.string ⟨#[116,121,112,101,95,101,114,114,111,114]⟩)).setCell ⟨w.heap.size+1+1,3,none⟩ (.string ⟨#[]⟩)).setCell ⟨w.heap.size+1+1,4,none⟩ (.int .u64 0)).setCell ⟨w.heap.size+1+1,5,none⟩ (.int .i64 0)).setCell ⟨w.heap.size+1+1,6,none⟩ (.slice A6 2 c6))=z2 at *
    obtain ⟨r0,r1,r2,r3,r4,r5⟩:=(HP0.out.1.gro hG.2 (by omega)).cells (nb:=⟨#[]⟩) (mb:=⟨#[]⟩) rfl rfl
    obtain ⟨q0,q1,q2,q3,q4,q5,q6⟩:=hG.1.cells (n:=sType) (m:=[]) (nb:=⟨#[116,121,112,101,95,101,114,114,111,114]⟩) (mb:=⟨#[]⟩) rfl rfl
    refine bodyPost_ret (v:=.tuple #[.agg Qz,.agg #[.bool true,.int .i64 5,.string ⟨#[116,121,112,101,95,101,114,114,111,114]⟩,.string ⟨#[]⟩,.int .u64 0,.int .i64 0,.slice A6 2 c6]]) (by simp [results,Tryd.results12,go_sem,r0,r1,r2,r3,r4,r5,q0,q1,q2,q3,q4,q5,q6]) rfl ?_
    rw [HE.out]
    exact wh_end (lo:=(w.heap.size+1+1+1)) (sg:=.slice none 0 0) (sb:=.slice A6 2 c6) HPP.out (Qt HB0.out.1 KE.out) ⟨by omega,by omega⟩ ⟨by omega,by omega⟩ HP0.out.2 hG.2 (zero_at _ _) HTb.out (by
     show _=Ending.returned (.tuple #[valT (Tm.mk 0 [] [] 0 0 []) (.slice none 0 0),badV true (Tm.mk 5 sType [] 0 0 [atomT sList,(Tm.mk k7 n7 m7 b7 v7 ts7)]) (.slice A6 2 c6)])
     rw [valT_mk (nb:=⟨#[]⟩) (mb:=⟨#[]⟩) rfl rfl,badV_mk (n:=sType) (m:=[]) (nb:=⟨#[116,121,112,101,95,101,114,114,111,114]⟩) (mb:=⟨#[]⟩) rfl rfl]
     all_goals rfl)
   have HBn:=Qh (show ListOk true (Tm.mk k7 n7 m7 b7 v7 ts7) from fun h=>by have h2:=h.2;rw [HBN.out] at h2;simp at h2)
   go_upto_region 17 with fail
  rotate_left
  all_goals (
   obtain ⟨x0,x1,x2,x3,x4,x5⟩:=((HXt.out _ (HBx.out _ K6.out).1).1).cells HL1.out.1 HL1.out.2.1
   have hA:=Above_any ((HT.out.below (HBx.out _ K6.out).2.2.2.2.2.2 HPP.out).wide (fun b hb=>Ql (HPP.out b hb) (HBx.out _ K6.out).2.2.2.2.2.2.size)) (by have:=(check_iff.1 HCk.out.1).1;omega) HCk.out.2.2.1
   rw [valT_mk HL1.out.1 HL1.out.2.1,HN9.out.2.2] at hA
   have HAb:=Qh hA
   clear hA
   go_upto_region 18 with (go_at_call 20;(with_reducible refine HAb.out.mono ?_);rintro e u7 ⟨rfl,hb⟩;have K7:=Qh (Qt K6.out hb);have Y7:=Qh hb;clear hb)
   clear x0 x1 x2 x3 x4 x5 HAb
   go_upto_region 19 with (go_at_call 47;(with_reducible refine (V_any _ _).mono ?_);rintro e u8 ⟨rfl,hb⟩;have K8:=Qh (Qt K7.out hb);have Y8:=Qh (Qt Y7.out hb);clear hb)
   have HQ:=Qh (show ∀ z,(u8.alloc (.cells (Qv N9) 25))=z→∀ H,u8.heap.size=H→TBox z H (varT N9) (.slice none 0 0)∧u5.heap.size≤H∧Below u5.heap.size u5 z∧Below u6.heap.size u6 z from fun z e H eG=>by
    rw [←e,←eG]
    have hb:Below u8.heap.size u8 (u8.alloc (.cells (Qv N9) 25)):=Qb
    exact ⟨TBox.new u8 rfl rfl,K8.out.size,Qt K8.out hb,Qt Y8.out hb⟩)
   generalize (u8.alloc (.cells (Qv N9) 25))=u9 at *
   replace HQ:=Qh (HQ.out _ rfl)
   generalize hG:u8.heap.size=G11
   have HG11:=Qh (HQ.out _ hG)
   have K9:=Qh HG11.out.2.2.1
   have Y9:=Qh HG11.out.2.2.2
   clear hG HQ K8 Y8
   have hwr:IntKind.i64.wrap (N9+1)=N9+1:=IntWalk.i64_in _ (by have:=HN9.out;omega)
   go_upto_region 20 with (go_at_call 47;(with_reducible refine (V_any _ _).mono ?_);rintro e u10 ⟨rfl,hb⟩;have K10:=Qh (Qt K9.out hb);have J10:=Qh hb;have Y10:=Qh (Qt Y9.out hb);clear hb)
   clear hwr
   have HQ:=Qh (show ∀ z,(u10.alloc (.cells (Qv (N9+1)) 25))=z→∀ H,u10.heap.size=H→TBox z H (varT (N9+1)) (.slice none 0 0)∧u5.heap.size≤H∧Below u5.heap.size u5 z∧Below u9.heap.size u9 z∧Below u6.heap.size u6 z from fun z e H eG=>by
    rw [←e,←eG]
    have hb:Below u10.heap.size u10 (u10.alloc (.cells (Qv (N9+1)) 25)):=Qb
    exact ⟨TBox.new u10 rfl rfl,K10.out.size,Qt K10.out hb,Qt J10.out hb,Qt Y10.out hb⟩)
   generalize (u10.alloc (.cells (Qv (N9+1)) 25))=u11 at *
   replace HQ:=Qh (HQ.out _ rfl)
   generalize hG:u10.heap.size=G12
   have HG12:=Qh (HQ.out _ hG)
   have K11:=Qh HG12.out.2.2.1
   have J11:=Qh HG12.out.2.2.2.1
   have Y11:=Qh HG12.out.2.2.2.2
   clear hG HQ K10 J10 Y10
   obtain ⟨W,hW⟩:∃ W,putW (Tm.mk k6 n6 m6 b6 v6 ts6) (varT N9) (varT (N9+1))=W:=⟨_,rfl⟩
   obtain ⟨g10,i11,g11⟩:=W
   obtain ⟨k10,n10,m10,b10,v10,ts10⟩:=g10
   obtain ⟨nb10,hnb10⟩:∃ nb:ByteArray,(⟨n10.toArray⟩:ByteArray)=nb:=⟨_,rfl⟩
   obtain ⟨mb10,hmb10⟩:∃ mb:ByteArray,(⟨m10.toArray⟩:ByteArray)=mb:=⟨_,rfl⟩
   obtain ⟨L10,hL10⟩:∃ L,ts10.length=L:=⟨_,rfl⟩
   have HL10:=Qh (Qa hnb10 (Qa hmb10 hL10))
   clear hnb10 hmb10 hL10
   obtain ⟨k11,n11,m11,b11,v11,ts11⟩:=g11
   obtain ⟨nb11,hnb11⟩:∃ nb:ByteArray,(⟨n11.toArray⟩:ByteArray)=nb:=⟨_,rfl⟩
   obtain ⟨mb11,hmb11⟩:∃ mb:ByteArray,(⟨m11.toArray⟩:ByteArray)=mb:=⟨_,rfl⟩
   obtain ⟨L11,hL11⟩:∃ L,ts11.length=L:=⟨_,rfl⟩
   have HL11:=Qh (Qa hnb11 (Qa hmb11 hL11))
   clear hnb11 hmb11 hL11
   have hpu:=rput_A (P:=P) (HBx.out _ K11.out).2.2.2.1 (var_at u11 P (n:=N9) (by have:=HN9.out;omega)) (var_at u11 P (n:=N9+1) (by have:=HN9.out;omega)) (fun b hb=>Ql (HPP.out b hb) (HBx.out _ K11.out).2.2.2.2.2.2.size)
   rw [hW,valT_mk HL6.out.1 HL6.out.2.1,show valT (varT N9) (.slice none 0 0) = .agg (Qv N9) from rfl,show valT (varT (N9+1)) (.slice none 0 0) = .agg (Qv (N9+1)) from rfl] at hpu
   have HPu:=Qh (hpu.mono (fun e w' h=>WhP.letters HL10.out.1 HL10.out.2.1 HL10.out.2.2 HL11.out.1 HL11.out.2.1 HL11.out.2.2 h))
   replace HSz:=Qh (show (if i11=true then (zeroT,true,(Tm.mk k11 n11 m11 b11 v11 ts11)) else _)=R from (ruleAT_put (h:=(Tm.mk k6 n6 m6 b6 v6 ts6)) HK6.out HBn.out hW).symm.trans HSz.out.2)
   clear hpu hW HBn
   obtain ⟨x0,x1,x2,x3,x4,x5⟩:=((HBx.out _ K11.out).2.1).cells HL6.out.1 HL6.out.2.1
   obtain ⟨p0,p1,p2,p3,p4,p5⟩:=(HG11.out.1.below J11.out).cells rfl rfl
   obtain ⟨q0,q1,q2,q3,q4,q5⟩:=(HG12.out.1).cells rfl rfl
   go_upto_region 21 with (go_at_call 48;(with_reducible refine HPu.out.mono ?_);rintro e u12 ⟨A10,c10,A11,c11,rfl,ht1,ht2,hb⟩;have HV:=Qh (Qa ht1 (Qa ht2 hb));clear ht1 ht2 hb)
   clear x0 x1 x2 x3 x4 x5 p0 p1 p2 p3 p4 p5 q0 q1 q2 q3 q4 q5 HPu
   have HZ:=Qh (show ∀ u,((u12.alloc (.cells (Q5 k10 nb10 mb10 b10 v10 (.slice A10 L10 c10)) 25)).alloc (.cells #[.bool i11,.int .i64 k11,.string nb11,.string mb11,.int .u64 b11,.int .i64 v11,.slice A11 L11 c11] 35))=u→∀ G13 G14,u12.heap.size=G13→u12.heap.size+1=G14→∀ z,Below u.heap.size u z→Below u5.heap.size u5 z∧TBox z G11 (varT N9) (.slice none 0 0)∧TBox z G12 (varT (N9+1)) (.slice none 0 0)∧TBox z G13 (Tm.mk k10 n10 m10 b10 v10 ts10) (.slice A10 L10 c10)∧BBox z G14 i11 (Tm.mk k11 n11 m11 b11 v11 ts11) (.slice A11 L11 c11)∧TAtP z (NW P (w.heap.size+1+1+1) z) (Tm.mk k10 n10 m10 b10 v10 ts10) (.slice A10 L10 c10)∧TAtP z (NW P (w.heap.size+1+1+1) z) (Tm.mk k11 n11 m11 b11 v11 ts11) (.slice A11 L11 c11)∧RowP z (NW P (w.heap.size+1+1+1) z) A8 n8 ps∧(w.heap.size+1+1+1)≤G11∧(w.heap.size+1+1+1)≤G12∧(w.heap.size+1+1+1)≤G13∧(w.heap.size+1+1+1)≤G14 from fun u e G13 G14 e1 e2 z hz=>by
    have hb1:Below u12.heap.size u12 (u12.alloc (.cells (Q5 k10 nb10 mb10 b10 v10 (.slice A10 L10 c10)) 25)):=Qb
    have hs1:(u12.alloc (.cells (Q5 k10 nb10 mb10 b10 v10 (.slice A10 L10 c10)) 25)).heap.size=u12.heap.size+1:=by simp
    have hb2:Below (u12.alloc (.cells (Q5 k10 nb10 mb10 b10 v10 (.slice A10 L10 c10)) 25)).heap.size (u12.alloc (.cells (Q5 k10 nb10 mb10 b10 v10 (.slice A10 L10 c10)) 25)) ((u12.alloc (.cells (Q5 k10 nb10 mb10 b10 v10 (.slice A10 L10 c10)) 25)).alloc (.cells #[.bool i11,.int .i64 k11,.string nb11,.string mb11,.int .u64 b11,.int .i64 v11,.slice A11 L11 c11] 35)):=Qb
    have hX:=(TBox.new u12 (ts:=ts10) (k:=k10) (b:=b10) (v:=v10) (sl:=.slice A10 L10 c10) HL10.out.1 HL10.out.2.1).below hb2
    have hY:BBox ((u12.alloc (.cells (Q5 k10 nb10 mb10 b10 v10 (.slice A10 L10 c10)) 25)).alloc (.cells #[.bool i11,.int .i64 k11,.string nb11,.string mb11,.int .u64 b11,.int .i64 v11,.slice A11 L11 c11] 35)) (u12.alloc (.cells (Q5 k10 nb10 mb10 b10 v10 (.slice A10 L10 c10)) 25)).heap.size i11 (Tm.mk k11 n11 m11 b11 v11 ts11) (.slice A11 L11 c11):=BBox.new (u12.alloc (.cells (Q5 k10 nb10 mb10 b10 v10 (.slice A10 L10 c10)) 25)) HL11.out.1 HL11.out.2.1
    have hbu:Below u12.heap.size u12 ((u12.alloc (.cells (Q5 k10 nb10 mb10 b10 v10 (.slice A10 L10 c10)) 25)).alloc (.cells #[.bool i11,.int .i64 k11,.string nb11,.string mb11,.int .u64 b11,.int .i64 v11,.slice A11 L11 c11] 35)):=hb1.trans (hb2.mono (by omega))
    rw [hs1] at hY
    rw [e] at hX hY hbu
    have h12:=Qt hbu hz
    have h11:=Qt HV.out.2.2 h12
    have h5:=Qt K11.out h11
    have h6:=Qt Y11.out h11
    have h9:=Qt J11.out h11
    have z5:(w.heap.size+1+1+1)≤u5.heap.size:=by have h1:=(HBx.out _ (Below.refl _ _)).1.size;have h2:=HB0.out.2;omega
    have z11:=K11.out.size
    have zP:∀ b,NW P (w.heap.size+1+1+1) u12 b→b<u12.heap.size:=NW.lt (fun b hb=>by have h1:=HPP.out b hb;have h2:=(HBx.out _ K11.out).2.2.2.2.2.2.size;have h3:=HV.out.2.2.size;omega)
    have kp:∀ (t:Tm) (s:Value),TAtP u12 (Grow P u11 u12) t s→TAtP z (NW P (w.heap.size+1+1+1) z) t s:=fun t s h=>TAtP.keep _ (NW.of_grow (lo:=(w.heap.size+1+1+1)) h (by omega)) fun b hb=>⟨hb.imp id fun h=>⟨h.1,Ql h.2 h12.size⟩,h12.block b (zP b hb)⟩
    subst e1 e2
    exact ⟨h5,HG11.out.1.below h9,HG12.out.1.below h11,hX.below hz,hY.below hz,kp _ _ HV.out.1,kp _ _ HV.out.2.1,((HR8.out.1.rowP).below h6 (fun b hb=>hb.2)).wide' (fun b hb=>.inr ⟨by have:=hb.1;omega,Ql hb.2 h6.size⟩),Nat.le_trans z5 HG11.out.2.1,Nat.le_trans z5 HG12.out.2.1,by have:=HV.out.2.2.size;omega,by have:=HV.out.2.2.size;omega⟩)
   generalize ((u12.alloc (.cells (Q5 k10 nb10 mb10 b10 v10 (.slice A10 L10 c10)) 25)).alloc (.cells #[.bool i11,.int .i64 k11,.string nb11,.string mb11,.int .u64 b11,.int .i64 v11,.slice A11 L11 c11] 35))=u13 at *
   replace HZ:=Qh (HZ.out _ rfl)
   generalize hG14:u12.heap.size+1=G14
   generalize hG13:u12.heap.size=G13
   replace HZ:=Qh (HZ.out _ _ hG13 hG14)
   clear hG13 hG14 HV HG11 HG12 K11 J11 Y11 K6 K7 Y7
   have K13:=Qh (Below.refl u13.heap.size u13)
   obtain ⟨y0,y1,y2,y3,y4,y5,y6⟩:=(HZ.out _ K13.out).2.2.2.2.1.cells HL11.out.1 HL11.out.2.1
   obtain rfl | rfl:i11=true∨i11=false:=by cases i11 <;> simp
   ·go_upto_region 22 with fail
    clear y0 y1 y2 y3 y4 y5 y6
    have h1:=(HZ.out _ K13.out).2.2.2.2.2.2.2.2
    have HE:=Qh (show R=(zeroT,true,(Tm.mk k11 n11 m11 b11 v11 ts11)) from HSz.out.symm.trans (if_pos rfl))
    refine wp_region_G (w.heap.size+1) 3 (by kernel_rfl) (fun v0 KK KG=>?_)
    refine tw 0 KG (v:=?_) (fun w5 hS=>?_) ?_
    case refine_2=>go_simp;rfl
    refine tw 1 KG (v:=?_) (fun w5 hS=>?_) ?_
    case refine_2=>obtain ⟨p0,p1,p2,p3,p4,p5,p6⟩:=((HZ.out _ K13.out).2.2.2.2.1.gro hS (by omega)).cells HL11.out.1 HL11.out.2.1;go_simp;rfl
    have KE:=(HBx.out _ (HZ.out _ KK).1).1
    refine stT (i:=2) (t:=(Tm.mk 0 [] [] 0 0 [])) (by kernel_rfl) rfl (by kernel_rfl) rfl rfl (by kernel_rfl) (.trans (by kernel_rfl) (valT_mk (sl:=.slice none 0 0) (nb:=⟨#[]⟩) (mb:=⟨#[]⟩) rfl rfl).symm) (HXt.out _ KE).2.1 (fun x1 hT5 g5=>⟨fun _=>grown_trans KG g5,?_⟩)
    refine stB (i:=3) (j:=true) (t:=(Tm.mk k11 n11 m11 b11 v11 ts11)) (by kernel_rfl) rfl (by kernel_rfl) rfl rfl (by kernel_rfl) (.trans (by kernel_rfl) (badV_mk (i:=true) (sl:=.slice A11 L11 c11) HL11.out.1 HL11.out.2.1).symm) (BBox.gro (HXt.out _ KE).2.2 g5 (by omega)) (fun x2 hB6 g6=>⟨fun h=>absurd h (by simp),?_⟩)
    refine wpAnyW_done (by kernel_rfl) ?_ _
    go_wp2
    obtain ⟨r0,r1,r2,r3,r4,r5⟩:=(hT5.gro g6 (by omega)).cells (nb:=⟨#[]⟩) (mb:=⟨#[]⟩) rfl rfl
    obtain ⟨q0,q1,q2,q3,q4,q5,q6⟩:=hB6.cells HL11.out.1 HL11.out.2.1
    refine bodyPost_ret (v:=.tuple #[.agg Qz,.agg #[.bool true,.int .i64 k11,.string nb11,.string mb11,.int .u64 b11,.int .i64 v11,.slice A11 L11 c11]]) (by simp [results,Tryd.results12,go_sem,r0,r1,r2,r3,r4,r5,q0,q1,q2,q3,q4,q5,q6]) rfl ?_
    rw [HE.out]
    exact wh_end (lo:=(w.heap.size+1+1+1)) (sg:=.slice none 0 0) (sb:=.slice A11 L11 c11) HPP.out (Qt HB0.out.1 KE) ⟨by omega,by omega⟩ ⟨by omega,by omega⟩ g5 g6 (zero_at v0 _) (HZ.out _ KK).2.2.2.2.2.2.1 (by
     show _=Ending.returned (.tuple #[valT (Tm.mk 0 [] [] 0 0 []) (.slice none 0 0),badV true (Tm.mk k11 n11 m11 b11 v11 ts11) (.slice A11 L11 c11)])
     rw [valT_mk (nb:=⟨#[]⟩) (mb:=⟨#[]⟩) rfl rfl,badV_mk HL11.out.1 HL11.out.2.1]
     all_goals rfl))
  ·go_upto_region 24 with fail
   have HUz:=Qh (Below.refl u13.heap.size u13)
   have HRf:=Qh (show wholeA (cmpT sNeck [(Tm.mk k10 n10 m10 b10 v10 ts10),(ansM (Tm.mk k3 n3 m3 b3 v3 ts3) (varT N9) (varT (N9+1)) (N9+2)).g]) (ansM (Tm.mk k3 n3 m3 b3 v3 ts3) (varT N9) (varT (N9+1)) (N9+2)).i (ansM (Tm.mk k3 n3 m3 b3 v3 ts3) (varT N9) (varT (N9+1)) (N9+2)).b=R from HSz.out)
   clear HSz HR0 y0 y1 y2 y3 y4 y5 y6
   obtain ⟨a,ha⟩:∃ a,ansM (Tm.mk k3 n3 m3 b3 v3 ts3) (varT N9) (varT (N9+1)) (N9+2)=a:=⟨_,rfl⟩
   rw [ha] at HRf
   obtain ⟨g12,na,ia,g13⟩:=a
   obtain ⟨k12,n12,m12,b12,v12,ts12⟩:=g12
   obtain ⟨nb12,hnb12⟩:∃ nb:ByteArray,(⟨n12.toArray⟩:ByteArray)=nb:=⟨_,rfl⟩
   obtain ⟨mb12,hmb12⟩:∃ mb:ByteArray,(⟨m12.toArray⟩:ByteArray)=mb:=⟨_,rfl⟩
   obtain ⟨L12,hL12⟩:∃ L,ts12.length=L:=⟨_,rfl⟩
   have HL12:=Qh (Qa hnb12 (Qa hmb12 hL12))
   clear hnb12 hmb12 hL12
   obtain ⟨k13,n13,m13,b13,v13,ts13⟩:=g13
   obtain ⟨nb13,hnb13⟩:∃ nb:ByteArray,(⟨n13.toArray⟩:ByteArray)=nb:=⟨_,rfl⟩
   obtain ⟨mb13,hmb13⟩:∃ mb:ByteArray,(⟨m13.toArray⟩:ByteArray)=mb:=⟨_,rfl⟩
   obtain ⟨L13,hL13⟩:∃ L,ts13.length=L:=⟨_,rfl⟩
   have HL13:=Qh (Qa hnb13 (Qa hmb13 hL13))
   clear hnb13 hmb13 hL13
   obtain ⟨gw,iw,bw⟩:=R
   obtain ⟨k15,n15,m15,b15,v15,ts15⟩:=gw
   obtain ⟨nb15,hnb15⟩:∃ nb:ByteArray,(⟨n15.toArray⟩:ByteArray)=nb:=⟨_,rfl⟩
   obtain ⟨mb15,hmb15⟩:∃ mb:ByteArray,(⟨m15.toArray⟩:ByteArray)=mb:=⟨_,rfl⟩
   obtain ⟨L15,hL15⟩:∃ L,ts15.length=L:=⟨_,rfl⟩
   have HL15:=Qh (Qa hnb15 (Qa hmb15 hL15))
   clear hnb15 hmb15 hL15
   obtain ⟨k16,n16,m16,b16,v16,ts16⟩:=bw
   obtain ⟨nb16,hnb16⟩:∃ nb:ByteArray,(⟨n16.toArray⟩:ByteArray)=nb:=⟨_,rfl⟩
   obtain ⟨mb16,hmb16⟩:∃ mb:ByteArray,(⟨m16.toArray⟩:ByteArray)=mb:=⟨_,rfl⟩
   obtain ⟨L16,hL16⟩:∃ L,ts16.length=L:=⟨_,rfl⟩
   have HL16:=Qh (Qa hnb16 (Qa hmb16 hL16))
   clear hnb16 hmb16 hL16
   have HAa:=Qh ha
   clear ha
   replace HRf:=Qh (show wholeA (Tm.mk 5 sNeck [] 0 0 [(Tm.mk k10 n10 m10 b10 v10 ts10),(Tm.mk k12 n12 m12 b12 v12 ts12)]) ia (Tm.mk k13 n13 m13 b13 v13 ts13)=((Tm.mk k15 n15 m15 b15 v15 ts15),iw,(Tm.mk k16 n16 m16 b16 v16 ts16)) from HRf.out)
   have HCl:=Qh (show ∀ z,Below u13.heap.size u13 z→Calls Tryd.prog 49 #[.agg (Q5 k3 nb3 mb3 b3 v3 (.slice A3 L3 c3)),.agg (Qv N9),.agg (Qv (N9+1)),.int .i64 (N9+2)] z (fun e w'=>∃ A c A2 c2,e = .returned (.tuple #[.agg (Q5 k12 nb12 mb12 b12 v12 (.slice A L12 c)),.int .i64 na,.agg #[.bool ia,.int .i64 k13,.string nb13,.string mb13,.int .u64 b13,.int .i64 v13,.slice A2 L13 c2]])∧TAtP w' (Grow P z w') (Tm.mk k12 n12 m12 b12 v12 ts12) (.slice A L12 c)∧TAtP w' (Grow P z w') (Tm.mk k13 n13 m13 b13 v13 ts13) (.slice A2 L13 c2)∧Below z.heap.size z w') from fun z hz=>by
    have hzb:=HBx.out _ (HZ.out _ (Qt HUz.out hz)).1
    have hn:=HN9.out
    have h:=HMk.out (Tm.mk k3 n3 m3 b3 v3 ts3) z P (varT N9) (varT (N9+1)) (.slice A3 L3 c3) (.slice none 0 0) (.slice none 0 0) (N9+2) hzb.2.2.2.2.2.1 (var_at z P ⟨by omega,by omega⟩) (var_at z P ⟨by omega,by omega⟩) (fun b hb=>Ql (HPP.out b hb) hzb.2.2.2.2.2.2.size) (by omega) (by have:=(check_iff.1 HCx.out.2).1;omega) HCx.out.2
    rw [HAa.out,valT_mk HL3.out.1 HL3.out.2.1,show valT (varT N9) (.slice none 0 0) = .agg (Qv N9) from rfl,show valT (varT (N9+1)) (.slice none 0 0) = .agg (Qv (N9+1)) from rfl] at h
    exact h.mono (fun e w' h=>AnsP.letters HL12.out.1 HL12.out.2.1 HL12.out.2.2 HL13.out.1 HL13.out.2.1 HL13.out.2.2 h))
   have hwr:IntKind.i64.wrap (N9+2)=N9+2:=IntWalk.i64_in _ (by have:=HN9.out;omega)
   refine wp_region_U 17 (by kernel_rfl) (fun z0 K0 hs0=>?_)
   refine tw 0 K0 (v:=?_) (fun w5 hS=>?_) ?_
   case refine_2=>go_simp;rfl
   refine tw 1 K0 (v:=?_) (fun w5 hS=>?_) ?_
   case refine_2=>obtain ⟨x0,x1,x2,x3,x4,x5⟩:=(HXt.out _ (HBx.out _ (HZ.out _ (Qt HUz.out hS)).1).1).1.cells HL1.out.1 HL1.out.2.1;go_simp;rfl
   refine tw 2 K0 (v:=?_) (fun w5 hS=>?_) ?_
   case refine_2=>go_simp;rfl
   refine tw 3 K0 (v:=?_) (fun w5 hS=>?_) ?_
   case refine_2=>have key:=fun q:Nat=>((HBx.out _ (HZ.out _ (Qt HUz.out hS)).1).2.2.2.2.2.2).cell (p:=⟨g,q,none⟩) HPg.out;have e0:=(key _).trans HE3.out.2.1;have e1:=(key _).trans HE3.out.2.2.1;have e2:=(key _).trans HE3.out.2.2.2.1;have e3:=(key _).trans HE3.out.2.2.2.2.1;have e4:=(key _).trans HE3.out.2.2.2.2.2.1;have e5:=(key _).trans HE3.out.2.2.2.2.2.2;clear key;go_simp;rfl
   refine tw 4 K0 (v:=?_) (fun w5 hS=>?_) ?_
   case refine_2=>obtain ⟨p0,p1,p2,p3,p4,p5⟩:=(HZ.out _ (Qt HUz.out hS)).2.1.cells rfl rfl;go_simp;rfl
   refine tw 5 K0 (v:=?_) (fun w5 hS=>?_) ?_
   case refine_2=>obtain ⟨p0,p1,p2,p3,p4,p5⟩:=(HZ.out _ (Qt HUz.out hS)).2.2.1.cells rfl rfl;go_simp;rfl
   refine tw 6 K0 (v:=?_) (fun w5 hS=>?_) ?_
   case refine_2=>go_simp;rfl
   refine tw 7 K0 (v:=?_) (fun w5 hS=>?_) ?_
   case refine_2=>go_simp;rfl
   refine wpAnyW_float [13,14] (fun q=>if q=13 then .cells Qz 25 else .cells #[.bool false,.int .i64 0,.string ⟨#[]⟩,.string ⟨#[]⟩,.int .u64 0,.int .i64 0,.slice none 0 0] 35) (by kernel_rfl) (by kernel_rfl) (FloatRun.two rfl rfl (fun a w=>by go_simp) rfl (fun a w=>by go_simp)) (fun _ _ h1 h2=>Qt h2 h1) (by kernel_rfl) (fun _ _ _ _ _ h=>h) rfl K0 ?_
   refine wpAnyF_one (i:=8) (by kernel_rfl) (by kernel_rfl) (fun _ _ _ _ _ h=>h) ⟨by kernel_rfl,by kernel_rfl⟩ (by kernel_rfl) rfl (by kernel_rfl) (fun f1 d1 K1 K hK=>?_)
   go_simp
   (with_reducible refine (HCl.out _ K1).mono ?_)
   rintro e f2 ⟨A12,c12,A13,c13,rfl,hg1,hg2,hb⟩
   refine hK.out _ _ hb (Qt K1 hb) ?_
   refine tf 9 (v:=?_) (fun w5 hS=>?_) ?_
   case refine_2=>go_simp;rfl
   refine tf 10 (v:=?_) (fun w5 hS=>?_) ?_
   case refine_2=>go_simp;rfl
   refine tf 11 (v:=?_) (fun w5 hS=>?_) ?_
   case refine_2=>go_simp;rfl
   refine tf 12 (v:=?_) (fun w5 hS=>?_) ?_
   case refine_2=>go_simp;rfl
   refine wpAnyF_land2 (by kernel_rfl) rfl rfl rfl (fun f3 G15 G17 d3 K3 hA hB gA gB hne=>?_)
   replace hA:TBox f3 G15 zeroT (.slice none 0 0):=hA
   replace hB:BBox f3 G17 false zeroT (.slice none 0 0):=hB
   refine stT (i:=15) (t:=(Tm.mk k12 n12 m12 b12 v12 ts12)) (A:=A12) (L:=L12) (c:=c12) (by kernel_rfl) rfl (by kernel_rfl) rfl rfl (by kernel_rfl) (.trans (by kernel_rfl) (valT_mk HL12.out.1 HL12.out.2.1).symm) hA (fun f4 hT4 g4=>?_)
   have K4:=K3.grown g4 K3.size (fun j e=>by injection e with e;have h1:=K1.size;have h2:=hb.size;rcases gA with (h | h) | h;exact h.elim;all_goals omega)
   refine ⟨fun _=>K4,?_⟩
   refine w1 16 fun K hK=>?_
   go_simp
   refine hK.out _ _ (fun _=>K4) ?_
   refine stB (i:=17) (j:=ia) (t:=(Tm.mk k13 n13 m13 b13 v13 ts13)) (A:=A13) (L:=L13) (c:=c13) (by kernel_rfl) rfl (by kernel_rfl) rfl rfl (by kernel_rfl) (.trans (by kernel_rfl) (badV_mk HL13.out.1 HL13.out.2.1).symm) (hB.gro g4 hne.symm) (fun z3 hB5 g5=>⟨fun h=>absurd h (by simp),?_⟩)
   refine wpAnyW_done (by kernel_rfl) ?_ _
   obtain ⟨hz,hzA,hzB⟩:=box_end hs0 K1 hb d3 (fun b hb=>Ql (HPP.out b hb) (HBx.out _ (HZ.out _ HUz.out).1).2.2.2.2.2.2.size) hg1 hg2 gA gB ⟨hT4,g4⟩ ⟨hB5,g5⟩ hne
   have Hz3:=Qh hz
   have G15L:=Qh hzA
   have G17L:=Qh hzB
   clear hz hzA hzB hT4 g4 hB5 g5 K4 hA hB gA gB hne d3 K3 hg1 hg2 hb d1 K1 K0 hs0 hwr
   have HKz:=Qh (Qt HUz.out Hz3.out.2.2.2.2)
   have HPz:=Qh (show ∀ b,P b→b<z3.heap.size from fun b hb=>Ql (HPP.out b hb) (HBx.out _ (HZ.out _ HKz.out).1).2.2.2.2.2.2.size)
   have HLz:=Qh (show (w.heap.size+1+1+1)≤z3.heap.size∧(w.heap.size+1+1+1)≤u13.heap.size from by have h1:=(HBx.out _ (HZ.out _ HUz.out).1).1.size;have h2:=HB0.out.2;have h3:=Hz3.out.2.2.2.2.size;omega)
   have HZa:=Qh (NW.low Hz3.out.2.2.1 HLz.out.2)
   have HZb:=Qh (NW.low Hz3.out.2.2.2.1 HLz.out.2)
   have HZh:=Qh (HZ.out _ HKz.out).2.2.2.2.2.1
   have hg1:=G15L.out
   have hg2:=G17L.out
   have hg3:=HLz.out.2
   have hg4:=(HZ.out _ HKz.out).2.2.2.2.2.2.2.2
   go_upto_region 25 with fail
   refine wp_region_G (w.heap.size+1) 8 (by kernel_rfl) (fun v0 KK KG=>?_)
   refine tw 0 KG (v:=?_) (fun w5 hS=>?_) ?_
   case refine_2=>obtain ⟨p0,p1,p2,p3,p4,p5⟩:=((HZ.out _ HKz.out).2.2.2.1.gro hS (by omega)).cells HL10.out.1 HL10.out.2.1;go_simp;rfl
   refine tw 1 KG (v:=?_) (fun w5 hS=>?_) ?_
   case refine_2=>obtain ⟨p0,p1,p2,p3,p4,p5⟩:=(Hz3.out.1.gro hS (by omega)).cells HL12.out.1 HL12.out.2.1;go_simp;rfl
   refine tw 3 KG (v:=?_) (fun w5 hS=>?_) ?_
   case refine_2=>obtain ⟨p0,p1,p2,p3,p4,p5,p6⟩:=(Hz3.out.2.1.gro hS (by omega)).cells HL13.out.1 HL13.out.2.1;go_simp;rfl
   have hF:=F2_any (NW.keep HZh.out KK HPz.out) (NW.keep HZa.out KK HPz.out) (NW.lt (fun b hb=>Ql (HPz.out b hb) KK.size)) ⟨#[58,45]⟩ (by decide)
   rw [valT_mk HL10.out.1 HL10.out.2.1,valT_mk HL12.out.1 HL12.out.2.1,show cmpT (⟨#[58,45]⟩:ByteArray).data.toList [(Tm.mk k10 n10 m10 b10 v10 ts10),(Tm.mk k12 n12 m12 b12 v12 ts12)]=(Tm.mk 5 sNeck [] 0 0 [(Tm.mk k10 n10 m10 b10 v10 ts10),(Tm.mk k12 n12 m12 b12 v12 ts12)]) from rfl] at hF
   have HF:=Qh hF
   clear hF
   refine w1 2 fun K hK=>?_
   go_simp
   (with_reducible refine HF.out.mono ?_)
   rintro e v1 ⟨A14,c14,rfl,ht,hb⟩
   have K1v:=Qt KK hb
   have HT1:=Qh (show TAtP v1 (NW P (w.heap.size+1+1+1) v1) (Tm.mk 5 sNeck [] 0 0 [(Tm.mk k10 n10 m10 b10 v10 ts10),(Tm.mk k12 n12 m12 b12 v12 ts12)]) (.slice A14 2 c14) from NW.grow ht (by have h1:=KK.size;have h2:=HLz.out;omega) hb.size)
   refine hK.out _ _ (fun _=>grown_below K1v) ?_
   clear ht hb HF
   have hWh:=(rwhole_A (i:=ia) HT1.out (NW.keep HZb.out K1v HPz.out) (NW.lt (fun b hb=>Ql (HPz.out b hb) K1v.size))).mono (fun e w' h=>WhP.letters HL15.out.1 HL15.out.2.1 HL15.out.2.2 HL16.out.1 HL16.out.2.1 HL16.out.2.2 (by rw [HRf.out] at h;exact h))
   rw [show valT (Tm.mk 5 sNeck [] 0 0 [(Tm.mk k10 n10 m10 b10 v10 ts10),(Tm.mk k12 n12 m12 b12 v12 ts12)]) (.slice A14 2 c14) = .agg (Qn 5 ⟨#[58,45]⟩ (.slice A14 2 c14)) from rfl,badV_mk HL13.out.1 HL13.out.2.1] at hWh
   have HWh:=Qh hWh
   clear hWh
   refine w1 4 fun K hK=>?_
   go_simp
   (with_reducible refine HWh.out.mono ?_)
   rintro e vW ⟨A15,c15,A16,c16,rfl,ht1,ht2,hb⟩
   have KW:=Qt K1v hb
   have hlw:(w.heap.size+1+1+1)≤v1.heap.size:=by have h1:=K1v.size;have h2:=HLz.out;omega
   have htg:=NW.grow ht1 hlw hb.size
   have htb:=NW.grow ht2 hlw hb.size
   have KG2:=grown_below (r:=some (w.heap.size+1)) KW
   refine hK.out _ _ (fun _=>KG2) ?_
   clear ht1 ht2 hb HWh hlw
   refine tw 5 KG2 (v:=?_) (fun w5 hS=>?_) ?_
   case refine_2=>go_simp;rfl
   refine tw 6 KG2 (v:=?_) (fun w5 hS=>?_) ?_
   case refine_2=>go_simp;rfl
   have KE:=(HBx.out _ (HZ.out _ (Qt HKz.out KW)).1).1
   refine stT (i:=7) (t:=(Tm.mk k15 n15 m15 b15 v15 ts15)) (by kernel_rfl) rfl (by kernel_rfl) rfl rfl (by kernel_rfl) (.trans (by kernel_rfl) (valT_mk (sl:=.slice A15 L15 c15) HL15.out.1 HL15.out.2.1).symm) (HXt.out _ KE).2.1 (fun x1 hT5 g5=>⟨fun _=>grown_trans KG2 g5,?_⟩)
   refine stB (i:=8) (j:=iw) (t:=(Tm.mk k16 n16 m16 b16 v16 ts16)) (by kernel_rfl) rfl (by kernel_rfl) rfl rfl (by kernel_rfl) (.trans (by kernel_rfl) (badV_mk (i:=iw) (sl:=.slice A16 L16 c16) HL16.out.1 HL16.out.2.1).symm) (BBox.gro (HXt.out _ KE).2.2 g5 (by omega)) (fun x2 hB6 g6=>⟨fun h=>absurd h (by simp),?_⟩)
   refine wpAnyW_done (by kernel_rfl) ?_ _
   go_wp2
   obtain ⟨r0,r1,r2,r3,r4,r5⟩:=(hT5.gro g6 (by omega)).cells HL15.out.1 HL15.out.2.1
   obtain ⟨q0,q1,q2,q3,q4,q5,q6⟩:=hB6.cells HL16.out.1 HL16.out.2.1
   refine bodyPost_ret (v:=.tuple #[.agg (Q5 k15 nb15 mb15 b15 v15 (.slice A15 L15 c15)),.agg #[.bool iw,.int .i64 k16,.string nb16,.string mb16,.int .u64 b16,.int .i64 v16,.slice A16 L16 c16]]) (by simp [results,Tryd.results12,go_sem,r0,r1,r2,r3,r4,r5,q0,q1,q2,q3,q4,q5,q6]) rfl ?_
   exact wh_end (lo:=(w.heap.size+1+1+1)) (sg:=.slice A15 L15 c15) (sb:=.slice A16 L16 c16) HPP.out (Qt HB0.out.1 KE) ⟨by omega,by omega⟩ ⟨by omega,by omega⟩ g5 g6 htg htb (by
    show _=Ending.returned (.tuple #[valT (Tm.mk k15 n15 m15 b15 v15 ts15) (.slice A15 L15 c15),badV iw (Tm.mk k16 n16 m16 b16 v16 ts16) (.slice A16 L16 c16)])
    rw [valT_mk HL15.out.1 HL15.out.2.1,badV_mk HL16.out.1 HL16.out.2.1]
    all_goals rfl)
  ·have hwr:IntKind.i64.wrap (N9+2)=N9+2:=IntWalk.i64_in _ (by have:=HN9.out;omega)
   clear y1 y2 y3 y4 y5 y6
   go_upto_region 27 with (go_at_call 47;(with_reducible refine (V_any _ _).mono ?_);rintro e u14 ⟨rfl,hb⟩;have K14:=Qh (Qt K13.out hb);clear hb)
   clear hwr y0
   have HQ:=Qh (show ∀ z,(u14.alloc (.cells (Qv (N9+2)) 25))=z→∀ H,u14.heap.size=H→TBox z H (varT (N9+2)) (.slice none 0 0)∧u13.heap.size≤H∧Below u13.heap.size u13 z from fun z e H eG=>by
    rw [←e,←eG]
    have hb:Below u14.heap.size u14 (u14.alloc (.cells (Qv (N9+2)) 25)):=Qb
    exact ⟨TBox.new u14 rfl rfl,K14.out.size,Qt K14.out hb⟩)
   generalize (u14.alloc (.cells (Qv (N9+2)) 25))=u15 at *
   replace HQ:=Qh (HQ.out _ rfl)
   generalize hG:u14.heap.size=G18
   have HG18:=Qh (HQ.out _ hG)
   have HUz:=Qh HG18.out.2.2
   clear hG HQ K14
   obtain ⟨E,hE⟩:∃ E,(endT (elems (Tm.mk k7 n7 m7 b7 v7 ts7)).1 (varT (N9+2)))=E:=⟨_,rfl⟩
   have HRf:=Qh (show wholeA (cmpT sNeck [(Tm.mk k10 n10 m10 b10 v10 ts10),cmpT sComma [(ansM (Tm.mk k3 n3 m3 b3 v3 ts3) (varT N9) (varT (N9+2)) (N9+3)).g,eqT (varT (N9+1)) E]]) (ansM (Tm.mk k3 n3 m3 b3 v3 ts3) (varT N9) (varT (N9+2)) (N9+3)).i (ansM (Tm.mk k3 n3 m3 b3 v3 ts3) (varT N9) (varT (N9+2)) (N9+3)).b=R from by rw [←hE];exact HSz.out)
   have HEe:=Qh hE
   clear HSz HR0 hE
   obtain ⟨k17,n17,m17,b17,v17,ts17⟩:=E
   obtain ⟨nb17,hnb17⟩:∃ nb:ByteArray,(⟨n17.toArray⟩:ByteArray)=nb:=⟨_,rfl⟩
   obtain ⟨mb17,hmb17⟩:∃ mb:ByteArray,(⟨m17.toArray⟩:ByteArray)=mb:=⟨_,rfl⟩
   obtain ⟨L17,hL17⟩:∃ L,ts17.length=L:=⟨_,rfl⟩
   have HL17:=Qh (Qa hnb17 (Qa hmb17 hL17))
   clear hnb17 hmb17 hL17
   obtain ⟨a,ha⟩:∃ a,ansM (Tm.mk k3 n3 m3 b3 v3 ts3) (varT N9) (varT (N9+2)) (N9+3)=a:=⟨_,rfl⟩
   rw [ha] at HRf
   obtain ⟨g12,na,ia,g13⟩:=a
   obtain ⟨k12,n12,m12,b12,v12,ts12⟩:=g12
   obtain ⟨nb12,hnb12⟩:∃ nb:ByteArray,(⟨n12.toArray⟩:ByteArray)=nb:=⟨_,rfl⟩
   obtain ⟨mb12,hmb12⟩:∃ mb:ByteArray,(⟨m12.toArray⟩:ByteArray)=mb:=⟨_,rfl⟩
   obtain ⟨L12,hL12⟩:∃ L,ts12.length=L:=⟨_,rfl⟩
   have HL12:=Qh (Qa hnb12 (Qa hmb12 hL12))
   clear hnb12 hmb12 hL12
   obtain ⟨k13,n13,m13,b13,v13,ts13⟩:=g13
   obtain ⟨nb13,hnb13⟩:∃ nb:ByteArray,(⟨n13.toArray⟩:ByteArray)=nb:=⟨_,rfl⟩
   obtain ⟨mb13,hmb13⟩:∃ mb:ByteArray,(⟨m13.toArray⟩:ByteArray)=mb:=⟨_,rfl⟩
   obtain ⟨L13,hL13⟩:∃ L,ts13.length=L:=⟨_,rfl⟩
   have HL13:=Qh (Qa hnb13 (Qa hmb13 hL13))
   clear hnb13 hmb13 hL13
   obtain ⟨gw,iw,bw⟩:=R
   obtain ⟨k15,n15,m15,b15,v15,ts15⟩:=gw
   obtain ⟨nb15,hnb15⟩:∃ nb:ByteArray,(⟨n15.toArray⟩:ByteArray)=nb:=⟨_,rfl⟩
   obtain ⟨mb15,hmb15⟩:∃ mb:ByteArray,(⟨m15.toArray⟩:ByteArray)=mb:=⟨_,rfl⟩
   obtain ⟨L15,hL15⟩:∃ L,ts15.length=L:=⟨_,rfl⟩
   have HL15:=Qh (Qa hnb15 (Qa hmb15 hL15))
   clear hnb15 hmb15 hL15
   obtain ⟨k16,n16,m16,b16,v16,ts16⟩:=bw
   obtain ⟨nb16,hnb16⟩:∃ nb:ByteArray,(⟨n16.toArray⟩:ByteArray)=nb:=⟨_,rfl⟩
   obtain ⟨mb16,hmb16⟩:∃ mb:ByteArray,(⟨m16.toArray⟩:ByteArray)=mb:=⟨_,rfl⟩
   obtain ⟨L16,hL16⟩:∃ L,ts16.length=L:=⟨_,rfl⟩
   have HL16:=Qh (Qa hnb16 (Qa hmb16 hL16))
   clear hnb16 hmb16 hL16
   have HAa:=Qh ha
   clear ha
   replace HRf:=Qh (show wholeA (Tm.mk 5 sNeck [] 0 0 [(Tm.mk k10 n10 m10 b10 v10 ts10),(Tm.mk 5 sComma [] 0 0 [(Tm.mk k12 n12 m12 b12 v12 ts12),(Tm.mk 5 sEq [] 0 0 [varT (N9+1),(Tm.mk k17 n17 m17 b17 v17 ts17)])])]) ia (Tm.mk k13 n13 m13 b13 v13 ts13)=((Tm.mk k15 n15 m15 b15 v15 ts15),iw,(Tm.mk k16 n16 m16 b16 v16 ts16)) from HRf.out)
   have HCl:=Qh (show ∀ z,Below u15.heap.size u15 z→Calls Tryd.prog 49 #[.agg (Q5 k3 nb3 mb3 b3 v3 (.slice A3 L3 c3)),.agg (Qv N9),.agg (Qv (N9+2)),.int .i64 (N9+3)] z (fun e w'=>∃ A c A2 c2,e = .returned (.tuple #[.agg (Q5 k12 nb12 mb12 b12 v12 (.slice A L12 c)),.int .i64 na,.agg #[.bool ia,.int .i64 k13,.string nb13,.string mb13,.int .u64 b13,.int .i64 v13,.slice A2 L13 c2]])∧TAtP w' (Grow P z w') (Tm.mk k12 n12 m12 b12 v12 ts12) (.slice A L12 c)∧TAtP w' (Grow P z w') (Tm.mk k13 n13 m13 b13 v13 ts13) (.slice A2 L13 c2)∧Below z.heap.size z w') from fun z hz=>by
    have hzb:=HBx.out _ (HZ.out _ (Qt HUz.out hz)).1
    have hn:=HN9.out
    have h:=HMk.out (Tm.mk k3 n3 m3 b3 v3 ts3) z P (varT N9) (varT (N9+2)) (.slice A3 L3 c3) (.slice none 0 0) (.slice none 0 0) (N9+3) hzb.2.2.2.2.2.1 (var_at z P ⟨by omega,by omega⟩) (var_at z P ⟨by omega,by omega⟩) (fun b hb=>Ql (HPP.out b hb) hzb.2.2.2.2.2.2.size) (by omega) (by have:=(check_iff.1 HCx.out.2).1;omega) HCx.out.2
    rw [HAa.out,valT_mk HL3.out.1 HL3.out.2.1,show valT (varT N9) (.slice none 0 0) = .agg (Qv N9) from rfl,show valT (varT (N9+2)) (.slice none 0 0) = .agg (Qv (N9+2)) from rfl] at h
    exact h.mono (fun e w' h=>AnsP.letters HL12.out.1 HL12.out.2.1 HL12.out.2.2 HL13.out.1 HL13.out.2.1 HL13.out.2.2 h))
   have hwr:IntKind.i64.wrap (N9+3)=N9+3:=IntWalk.i64_in _ (by have:=HN9.out;omega)
   refine wp_region_U 17 (by kernel_rfl) (fun z0 K0 hs0=>?_)
   refine tw 0 K0 (v:=?_) (fun w5 hS=>?_) ?_
   case refine_2=>go_simp;rfl
   refine tw 1 K0 (v:=?_) (fun w5 hS=>?_) ?_
   case refine_2=>obtain ⟨x0,x1,x2,x3,x4,x5⟩:=(HXt.out _ (HBx.out _ (HZ.out _ (Qt HUz.out hS)).1).1).1.cells HL1.out.1 HL1.out.2.1;go_simp;rfl
   refine tw 2 K0 (v:=?_) (fun w5 hS=>?_) ?_
   case refine_2=>go_simp;rfl
   refine tw 3 K0 (v:=?_) (fun w5 hS=>?_) ?_
   case refine_2=>have key:=fun q:Nat=>((HBx.out _ (HZ.out _ (Qt HUz.out hS)).1).2.2.2.2.2.2).cell (p:=⟨g,q,none⟩) HPg.out;have e0:=(key _).trans HE3.out.2.1;have e1:=(key _).trans HE3.out.2.2.1;have e2:=(key _).trans HE3.out.2.2.2.1;have e3:=(key _).trans HE3.out.2.2.2.2.1;have e4:=(key _).trans HE3.out.2.2.2.2.2.1;have e5:=(key _).trans HE3.out.2.2.2.2.2.2;clear key;go_simp;rfl
   refine tw 4 K0 (v:=?_) (fun w5 hS=>?_) ?_
   case refine_2=>obtain ⟨p0,p1,p2,p3,p4,p5⟩:=(HZ.out _ (Qt HUz.out hS)).2.1.cells rfl rfl;go_simp;rfl
   refine tw 5 K0 (v:=?_) (fun w5 hS=>?_) ?_
   case refine_2=>obtain ⟨p0,p1,p2,p3,p4,p5⟩:=(HG18.out.1.below hS).cells rfl rfl;go_simp;rfl
   refine tw 6 K0 (v:=?_) (fun w5 hS=>?_) ?_
   case refine_2=>go_simp;rfl
   refine tw 7 K0 (v:=?_) (fun w5 hS=>?_) ?_
   case refine_2=>go_simp;rfl
   refine wpAnyW_float [13,14] (fun q=>if q=13 then .cells Qz 25 else .cells #[.bool false,.int .i64 0,.string ⟨#[]⟩,.string ⟨#[]⟩,.int .u64 0,.int .i64 0,.slice none 0 0] 35) (by kernel_rfl) (by kernel_rfl) (FloatRun.two rfl rfl (fun a w=>by go_simp) rfl (fun a w=>by go_simp)) (fun _ _ h1 h2=>Qt h2 h1) (by kernel_rfl) (fun _ _ _ _ _ h=>h) rfl K0 ?_
   refine wpAnyF_one (i:=8) (by kernel_rfl) (by kernel_rfl) (fun _ _ _ _ _ h=>h) ⟨by kernel_rfl,by kernel_rfl⟩ (by kernel_rfl) rfl (by kernel_rfl) (fun f1 d1 K1 K hK=>?_)
   go_simp
   (with_reducible refine (HCl.out _ K1).mono ?_)
   rintro e f2 ⟨A12,c12,A13,c13,rfl,hg1,hg2,hb⟩
   refine hK.out _ _ hb (Qt K1 hb) ?_
   refine tf 9 (v:=?_) (fun w5 hS=>?_) ?_
   case refine_2=>go_simp;rfl
   refine tf 10 (v:=?_) (fun w5 hS=>?_) ?_
   case refine_2=>go_simp;rfl
   refine tf 11 (v:=?_) (fun w5 hS=>?_) ?_
   case refine_2=>go_simp;rfl
   refine tf 12 (v:=?_) (fun w5 hS=>?_) ?_
   case refine_2=>go_simp;rfl
   refine wpAnyF_land2 (by kernel_rfl) rfl rfl rfl (fun f3 G19 G21 d3 K3 hA hB gA gB hne=>?_)
   replace hA:TBox f3 G19 zeroT (.slice none 0 0):=hA
   replace hB:BBox f3 G21 false zeroT (.slice none 0 0):=hB
   refine stT (i:=15) (t:=(Tm.mk k12 n12 m12 b12 v12 ts12)) (A:=A12) (L:=L12) (c:=c12) (by kernel_rfl) rfl (by kernel_rfl) rfl rfl (by kernel_rfl) (.trans (by kernel_rfl) (valT_mk HL12.out.1 HL12.out.2.1).symm) hA (fun f4 hT4 g4=>?_)
   have K4:=K3.grown g4 K3.size (fun j e=>by injection e with e;have h1:=K1.size;have h2:=hb.size;rcases gA with (h | h) | h;exact h.elim;all_goals omega)
   refine ⟨fun _=>K4,?_⟩
   refine w1 16 fun K hK=>?_
   go_simp
   refine hK.out _ _ (fun _=>K4) ?_
   refine stB (i:=17) (j:=ia) (t:=(Tm.mk k13 n13 m13 b13 v13 ts13)) (A:=A13) (L:=L13) (c:=c13) (by kernel_rfl) rfl (by kernel_rfl) rfl rfl (by kernel_rfl) (.trans (by kernel_rfl) (badV_mk HL13.out.1 HL13.out.2.1).symm) (hB.gro g4 hne.symm) (fun z3 hB5 g5=>⟨fun h=>absurd h (by simp),?_⟩)
   refine wpAnyW_done (by kernel_rfl) ?_ _
   obtain ⟨hz,hzA,hzB⟩:=box_end hs0 K1 hb d3 (fun b hb=>Ql (HPP.out b hb) (HBx.out _ (HZ.out _ HUz.out).1).2.2.2.2.2.2.size) hg1 hg2 gA gB ⟨hT4,g4⟩ ⟨hB5,g5⟩ hne
   have Hz3:=Qh hz
   have G19L:=Qh hzA
   have G21L:=Qh hzB
   clear hz hzA hzB hT4 g4 hB5 g5 K4 hA hB gA gB hne d3 K3 hg1 hg2 hb d1 K1 K0 hs0 hwr
   have HKz:=Qh (Qt HUz.out Hz3.out.2.2.2.2)
   have HPz:=Qh (show ∀ b,P b→b<z3.heap.size from fun b hb=>Ql (HPP.out b hb) (HBx.out _ (HZ.out _ HKz.out).1).2.2.2.2.2.2.size)
   have HLz:=Qh (show (w.heap.size+1+1+1)≤z3.heap.size∧(w.heap.size+1+1+1)≤u15.heap.size from by have h1:=(HBx.out _ (HZ.out _ HUz.out).1).1.size;have h2:=HB0.out.2;have h3:=Hz3.out.2.2.2.2.size;omega)
   have HZa:=Qh (NW.low Hz3.out.2.2.1 HLz.out.2)
   have HZb:=Qh (NW.low Hz3.out.2.2.2.1 HLz.out.2)
   have HZh:=Qh (HZ.out _ HKz.out).2.2.2.2.2.1
   have hg1:=G19L.out
   have hg2:=G21L.out
   have hg3:=HLz.out.2
   have hg4:=(HZ.out _ HKz.out).2.2.2.2.2.2.2.2
   go_upto_region 28 with fail
   have hg5:=HG18.out.2.1
   have hg6:(w.heap.size+1+1+1)≤u13.heap.size:=by have h1:=(HBx.out _ (HZ.out _ K13.out).1).1.size;have h2:=HB0.out.2;omega
   refine wp_region_G (w.heap.size+1) 14 (by kernel_rfl) (fun v0 KK KG=>?_)
   refine tw 0 KG (v:=?_) (fun w5 hS=>?_) ?_
   case refine_2=>obtain ⟨p0,p1,p2,p3,p4,p5⟩:=((HZ.out _ HKz.out).2.2.2.1.gro hS (by omega)).cells HL10.out.1 HL10.out.2.1;go_simp;rfl
   refine tw 1 KG (v:=?_) (fun w5 hS=>?_) ?_
   case refine_2=>obtain ⟨p0,p1,p2,p3,p4,p5⟩:=(Hz3.out.1.gro hS (by omega)).cells HL12.out.1 HL12.out.2.1;go_simp;rfl
   refine tw 2 KG (v:=?_) (fun w5 hS=>?_) ?_
   case refine_2=>obtain ⟨p0,p1,p2,p3,p4,p5⟩:=((HZ.out _ HKz.out).2.2.1.gro hS (by omega)).cells rfl rfl;go_simp;rfl
   refine tw 3 KG (v:=?_) (fun w5 hS=>?_) ?_
   case refine_2=>go_simp;rfl
   refine tw 4 KG (v:=?_) (fun w5 hS=>?_) ?_
   case refine_2=>obtain ⟨p0,p1,p2,p3,p4,p5⟩:=((HG18.out.1.below Hz3.out.2.2.2.2).gro hS (by omega)).cells rfl rfl;go_simp;rfl
   refine tw 9 KG (v:=?_) (fun w5 hS=>?_) ?_
   case refine_2=>obtain ⟨p0,p1,p2,p3,p4,p5,p6⟩:=(Hz3.out.2.1.gro hS (by omega)).cells HL13.out.1 HL13.out.2.1;go_simp;rfl
   have hrv:=(HZ.out _ (Qt HKz.out KK)).2.2.2.2.2.2.2.1
   have hLi:=Listed_any (c:=c8) (P:=NW P (w.heap.size+1+1+1) v0) hrv (NW.lt (fun b hb=>Ql (HPz.out b hb) KK.size)) HR8.out.2.2 (var_at v0 _ (n:=N9+2) (by have:=HN9.out;omega))
   rw [HR8.out.2.1,HEe.out,show valT (varT (N9+2)) (.slice none 0 0) = .agg (Qv (N9+2)) from rfl] at hLi
   have HLi:=Qh (fresh_letters HL17.out.1 HL17.out.2.1 HL17.out.2.2 hLi)
   clear hLi hrv
   refine w1 5 fun K hK=>?_
   go_simp
   (with_reducible refine HLi.out.mono ?_)
   rintro e v1 ⟨A17,c17,rfl,hf8,hb⟩
   have K1v:=Qt KK hb
   refine hK.out _ _ (fun _=>grown_below K1v) ?_
   have HT1:=Qh (show TAtP v1 (NW P (w.heap.size+1+1+1) v1) (Tm.mk k17 n17 m17 b17 v17 ts17) (.slice A17 L17 c17) from TAtP.wide hf8 (fun b h=>.inr ⟨by have:=KK.size;have:=h.1;have:=HLz.out;omega,h.2⟩))
   clear hf8 hb HLi
   have hF:=F2_any (var_at v1 (NW P (w.heap.size+1+1+1) v1) (n:=N9+1) (by have:=HN9.out;omega)) HT1.out (NW.lt (fun b hb=>Ql (HPz.out b hb) K1v.size)) ⟨#[61]⟩ (by decide)
   rw [show valT (varT (N9+1)) (.slice none 0 0) = .agg (Qv (N9+1)) from rfl,valT_mk HL17.out.1 HL17.out.2.1,show cmpT (⟨#[61]⟩:ByteArray).data.toList [varT (N9+1),(Tm.mk k17 n17 m17 b17 v17 ts17)]=(Tm.mk 5 sEq [] 0 0 [varT (N9+1),(Tm.mk k17 n17 m17 b17 v17 ts17)]) from rfl] at hF
   have HF:=Qh hF
   clear hF
   refine w1 6 fun K hK=>?_
   go_simp
   (with_reducible refine HF.out.mono ?_)
   rintro e v2 ⟨A20,c20,rfl,ht,hb⟩
   have K2v:=Qt K1v hb
   have HT2:=Qh (show TAtP v2 (NW P (w.heap.size+1+1+1) v2) (Tm.mk 5 sEq [] 0 0 [varT (N9+1),(Tm.mk k17 n17 m17 b17 v17 ts17)]) (.slice A20 2 c20) from NW.grow ht (by have h1:=K1v.size;have h2:=HLz.out;omega) hb.size)
   refine hK.out _ _ (fun _=>grown_below K2v) ?_
   clear ht hb HF
   have hF:=F2_any (NW.keep HZa.out K2v HPz.out) HT2.out (NW.lt (fun b hb=>Ql (HPz.out b hb) K2v.size)) ⟨#[44]⟩ (by decide)
   rw [valT_mk HL12.out.1 HL12.out.2.1,show valT (Tm.mk 5 sEq [] 0 0 [varT (N9+1),(Tm.mk k17 n17 m17 b17 v17 ts17)]) (.slice A20 2 c20) = .agg (Qn 5 ⟨#[61]⟩ (.slice A20 2 c20)) from rfl,show cmpT (⟨#[44]⟩:ByteArray).data.toList [(Tm.mk k12 n12 m12 b12 v12 ts12),(Tm.mk 5 sEq [] 0 0 [varT (N9+1),(Tm.mk k17 n17 m17 b17 v17 ts17)])]=(Tm.mk 5 sComma [] 0 0 [(Tm.mk k12 n12 m12 b12 v12 ts12),(Tm.mk 5 sEq [] 0 0 [varT (N9+1),(Tm.mk k17 n17 m17 b17 v17 ts17)])]) from rfl] at hF
   have HF:=Qh hF
   clear hF
   refine w1 7 fun K hK=>?_
   go_simp
   (with_reducible refine HF.out.mono ?_)
   rintro e v3 ⟨A21,c21,rfl,ht,hb⟩
   have K3v:=Qt K2v hb
   have HT3:=Qh (show TAtP v3 (NW P (w.heap.size+1+1+1) v3) (Tm.mk 5 sComma [] 0 0 [(Tm.mk k12 n12 m12 b12 v12 ts12),(Tm.mk 5 sEq [] 0 0 [varT (N9+1),(Tm.mk k17 n17 m17 b17 v17 ts17)])]) (.slice A21 2 c21) from NW.grow ht (by have h1:=K2v.size;have h2:=HLz.out;omega) hb.size)
   refine hK.out _ _ (fun _=>grown_below K3v) ?_
   clear ht hb HF
   have hF:=F2_any (NW.keep HZh.out K3v HPz.out) HT3.out (NW.lt (fun b hb=>Ql (HPz.out b hb) K3v.size)) ⟨#[58,45]⟩ (by decide)
   rw [valT_mk HL10.out.1 HL10.out.2.1,show valT (Tm.mk 5 sComma [] 0 0 [(Tm.mk k12 n12 m12 b12 v12 ts12),(Tm.mk 5 sEq [] 0 0 [varT (N9+1),(Tm.mk k17 n17 m17 b17 v17 ts17)])]) (.slice A21 2 c21) = .agg (Qn 5 ⟨#[44]⟩ (.slice A21 2 c21)) from rfl,show cmpT (⟨#[58,45]⟩:ByteArray).data.toList [(Tm.mk k10 n10 m10 b10 v10 ts10),(Tm.mk 5 sComma [] 0 0 [(Tm.mk k12 n12 m12 b12 v12 ts12),(Tm.mk 5 sEq [] 0 0 [varT (N9+1),(Tm.mk k17 n17 m17 b17 v17 ts17)])])]=(Tm.mk 5 sNeck [] 0 0 [(Tm.mk k10 n10 m10 b10 v10 ts10),(Tm.mk 5 sComma [] 0 0 [(Tm.mk k12 n12 m12 b12 v12 ts12),(Tm.mk 5 sEq [] 0 0 [varT (N9+1),(Tm.mk k17 n17 m17 b17 v17 ts17)])])]) from rfl] at hF
   have HF:=Qh hF
   clear hF
   refine w1 8 fun K hK=>?_
   go_simp
   (with_reducible refine HF.out.mono ?_)
   rintro e v4 ⟨A22,c22,rfl,ht,hb⟩
   have K4v:=Qt K3v hb
   have HT4:=Qh (show TAtP v4 (NW P (w.heap.size+1+1+1) v4) (Tm.mk 5 sNeck [] 0 0 [(Tm.mk k10 n10 m10 b10 v10 ts10),(Tm.mk 5 sComma [] 0 0 [(Tm.mk k12 n12 m12 b12 v12 ts12),(Tm.mk 5 sEq [] 0 0 [varT (N9+1),(Tm.mk k17 n17 m17 b17 v17 ts17)])])]) (.slice A22 2 c22) from NW.grow ht (by have h1:=K3v.size;have h2:=HLz.out;omega) hb.size)
   refine hK.out _ _ (fun _=>grown_below K4v) ?_
   clear ht hb HF
   have hWh:=(rwhole_A (i:=ia) HT4.out (NW.keep HZb.out K4v HPz.out) (NW.lt (fun b hb=>Ql (HPz.out b hb) K4v.size))).mono (fun e w' h=>WhP.letters HL15.out.1 HL15.out.2.1 HL15.out.2.2 HL16.out.1 HL16.out.2.1 HL16.out.2.2 (by rw [HRf.out] at h;exact h))
   rw [show valT (Tm.mk 5 sNeck [] 0 0 [(Tm.mk k10 n10 m10 b10 v10 ts10),(Tm.mk 5 sComma [] 0 0 [(Tm.mk k12 n12 m12 b12 v12 ts12),(Tm.mk 5 sEq [] 0 0 [varT (N9+1),(Tm.mk k17 n17 m17 b17 v17 ts17)])])]) (.slice A22 2 c22) = .agg (Qn 5 ⟨#[58,45]⟩ (.slice A22 2 c22)) from rfl,badV_mk HL13.out.1 HL13.out.2.1] at hWh
   have HWh:=Qh hWh
   clear hWh
   refine w1 10 fun K hK=>?_
   go_simp
   (with_reducible refine HWh.out.mono ?_)
   rintro e vW ⟨A15,c15,A16,c16,rfl,ht1,ht2,hb⟩
   have KW:=Qt K4v hb
   have hlw:(w.heap.size+1+1+1)≤v4.heap.size:=by have h1:=K4v.size;have h2:=HLz.out;omega
   have htg:=NW.grow ht1 hlw hb.size
   have htb:=NW.grow ht2 hlw hb.size
   have KG2:=grown_below (r:=some (w.heap.size+1)) KW
   refine hK.out _ _ (fun _=>KG2) ?_
   clear ht1 ht2 hb HWh hlw
   refine tw 11 KG2 (v:=?_) (fun w5 hS=>?_) ?_
   case refine_2=>go_simp;rfl
   refine tw 12 KG2 (v:=?_) (fun w5 hS=>?_) ?_
   case refine_2=>go_simp;rfl
   have KE:=(HBx.out _ (HZ.out _ (Qt HKz.out KW)).1).1
   refine stT (i:=13) (t:=(Tm.mk k15 n15 m15 b15 v15 ts15)) (by kernel_rfl) rfl (by kernel_rfl) rfl rfl (by kernel_rfl) (.trans (by kernel_rfl) (valT_mk (sl:=.slice A15 L15 c15) HL15.out.1 HL15.out.2.1).symm) (HXt.out _ KE).2.1 (fun x1 hT5 g5=>⟨fun _=>grown_trans KG2 g5,?_⟩)
   refine stB (i:=14) (j:=iw) (t:=(Tm.mk k16 n16 m16 b16 v16 ts16)) (by kernel_rfl) rfl (by kernel_rfl) rfl rfl (by kernel_rfl) (.trans (by kernel_rfl) (badV_mk (i:=iw) (sl:=.slice A16 L16 c16) HL16.out.1 HL16.out.2.1).symm) (BBox.gro (HXt.out _ KE).2.2 g5 (by omega)) (fun x2 hB6 g6=>⟨fun h=>absurd h (by simp),?_⟩)
   refine wpAnyW_done (by kernel_rfl) ?_ _
   go_wp2
   obtain ⟨r0,r1,r2,r3,r4,r5⟩:=(hT5.gro g6 (by omega)).cells HL15.out.1 HL15.out.2.1
   obtain ⟨q0,q1,q2,q3,q4,q5,q6⟩:=hB6.cells HL16.out.1 HL16.out.2.1
   refine bodyPost_ret (v:=.tuple #[.agg (Q5 k15 nb15 mb15 b15 v15 (.slice A15 L15 c15)),.agg #[.bool iw,.int .i64 k16,.string nb16,.string mb16,.int .u64 b16,.int .i64 v16,.slice A16 L16 c16]]) (by simp [results,Tryd.results12,go_sem,r0,r1,r2,r3,r4,r5,q0,q1,q2,q3,q4,q5,q6]) rfl ?_
   exact wh_end (lo:=(w.heap.size+1+1+1)) (sg:=.slice A15 L15 c15) (sb:=.slice A16 L16 c16) HPP.out (Qt HB0.out.1 KE) ⟨by omega,by omega⟩ ⟨by omega,by omega⟩ g5 g6 htg htb (by
    show _=Ending.returned (.tuple #[valT (Tm.mk k15 n15 m15 b15 v15 ts15) (.slice A15 L15 c15),badV iw (Tm.mk k16 n16 m16 b16 v16 ts16) (.slice A16 L16 c16)])
    rw [valT_mk HL15.out.1 HL15.out.2.1,badV_mk HL16.out.1 HL16.out.2.1]
    all_goals rfl)
end Go.Proofs.YtgfeainpeplphaaDoor
