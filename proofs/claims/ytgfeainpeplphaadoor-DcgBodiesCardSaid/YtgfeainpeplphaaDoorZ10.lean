import Derived.Test.YtgfeainpeplphaaDoorZ7
set_option linter.unusedVariables false
set_option linter.unusedSimpArgs false
namespace Go.Proofs.YtgfeainpeplphaaDoor
open Go.RowKit Hb Ht
attribute [local go_sem] Oper.semAt_some
set_option maxRecDepth 100000 in
set_option maxHeartbeats 32000000 in
theorem Rule_plain {w0 w:World} {t:Tm} {st:Value} (h1:TAt w w.heap.size t st) (hU:UOk w0 w) (hcs:checkP t=0) (hnp:isC (t.as.getD 0 zeroT) sComma 2=false) (hru:isC t sRule 2=true):Calls Tryd.prog 9 #[valT t st] w fun e w'=>(highB t=true∧e = .returned (.tuple #[zeroTV,.iface 32 (.int .i64 1)])∧Below w.heap.size w w')∨(highB t=false∧RuleR w (ruleT t) e w'):=by
 have HNPa:=Lib.hid hnp
 have HRUa:=Lib.hid hru
 clear hnp hru
 have hcs1:checksP [t]=0:=by
  unfold checksP checks
  rw [show check Lib.validD canonB floB t=0 from hcs,if_neg (by simp)]
  rfl
 obtain ⟨RR,hRR⟩:∃ RR,ruleT t=RR:=⟨_,rfl⟩
 obtain ⟨HB9,hHB⟩:∃ B,highB t=B:=⟨_,rfl⟩
 obtain ⟨N9,hN9⟩:∃ N,above t=N:=⟨_,rfl⟩
 obtain ⟨l,hl⟩:∃ l,vars t []=l:=⟨_,rfl⟩
 have hll:=vars_len t []
 have hsz:=(check_iff.1 hcs).1
 rw [hRR,hHB]
 have HR0:=Lib.hid (And.intro hRR (And.intro (show l.any (fun x=>decide (4611686018427387904<x))=HB9 from by rw [←hHB,←hl];rfl) (And.intro (show l.foldl (fun n x=>max n (x+1)) 0=N9 from by rw [←hN9,←hl];rfl) (And.intro hN9 (And.intro (show l.length≤4000 from by rw [←hl];simp at hll;omega) hl)))))
 clear hRR hHB hN9 hll
 obtain ⟨k1,n1,m1,b1,v1,ts1,nb1,mb1,A1,c1,hT1,rfl,hnb1,hmb1,hl1,hc1,hx1,hv1,hs1,hq1⟩:=h1.letters
 subst hT1
 obtain ⟨L1,hL1⟩:∃ L,ts1.length=L:=⟨_,rfl⟩
 rw [hv1]
 rw [hL1] at h1 hv1 hl1 hx1 ⊢
 obtain ⟨W1,hW1⟩:∃ W,w.alloc (.cells #[.int .i64 k1,.string nb1,.string mb1,.int .u64 b1,.int .i64 v1,.slice A1 L1 c1] 25)=W:=⟨_,rfl⟩
 obtain ⟨W2,hW2⟩:∃ W,W1.alloc (.cells #[.int .i64 0,.string ⟨#[]⟩,.string ⟨#[]⟩,.int .u64 0,.int .i64 0,.slice none 0 0] 25)=W:=⟨_,rfl⟩
 obtain ⟨W3,hW3⟩:∃ W,W2.alloc (.cells #[.nilIface] 29)=W:=⟨_,rfl⟩
 obtain ⟨W4,hW4⟩:∃ W,W3.alloc (.cells #[.int .i64 k1,.string nb1,.string mb1,.int .u64 b1,.int .i64 v1,.slice A1 L1 c1] 25)=W:=⟨_,rfl⟩
 have d1:Below w.heap.size w W1:=by rw [←hW1];exact (Below.refl _ _).alloc (Nat.le_refl _) _
 have s1:W1.heap.size=w.heap.size+1:=by rw [←hW1];simp
 have X1:TBox W1 w.heap.size (Tm.mk k1 n1 m1 b1 v1 ts1) (.slice A1 L1 c1):=by rw [←hW1];exact TBox.new w hnb1 hmb1
 have d2:Below W1.heap.size W1 W2:=by rw [←hW2];exact (Below.refl _ _).alloc (Nat.le_refl _) _
 have s2:W2.heap.size=W1.heap.size+1:=by rw [←hW2];simp
 have X2:TBox W2 W1.heap.size zeroT (.slice none 0 0):=by rw [←hW2];exact heap_alloc_new W1 _
 have d3:Below W2.heap.size W2 W3:=by rw [←hW3];exact (Below.refl _ _).alloc (Nat.le_refl _) _
 have s3:W3.heap.size=W2.heap.size+1:=by rw [←hW3];simp
 have X3:W3.heap[W2.heap.size]?=some (.cells #[.nilIface] 29 (0,0)):=by rw [←hW3];exact heap_alloc_new W2 _
 have d4:Below W3.heap.size W3 W4:=by rw [←hW4];exact (Below.refl _ _).alloc (Nat.le_refl _) _
 have s4:W4.heap.size=W3.heap.size+1:=by rw [←hW4];simp
 have X4:W4.heap[W3.heap.size]?=some (.cells #[.int .i64 k1,.string nb1,.string mb1,.int .u64 b1,.int .i64 v1,.slice A1 L1 c1] 25 (0,0)):=by rw [←hW4];exact heap_alloc_new W3 _
 replace X1:=X1.below d2
 replace X1:=X1.below d3
 replace X1:=X1.below d4
 replace X2:=X2.below d3
 replace X2:=X2.below d4
 replace X3:=(d4.block _ (by omega)).trans X3
 have hb4:Below w.heap.size w W4:=d1.trans ((d2.trans ((d3.trans ((d4).mono (by omega))).mono (by omega))).mono (by omega))
 have hsz4:W4.heap.size=w.heap.size+1+1+1+1:=by omega
 have hrow:RowP W4 (fun b=>b<w.heap.size) (some ⟨W3.heap.size,0,none⟩) 1 [((Tm.mk k1 n1 m1 b1 v1 ts1),Value.slice A1 L1 c1)]:=rowP_at X4 (by rw [←hnb1,←hmb1];rfl) rfl (mem1 (TAtP.below h1 hb4 (fun b hb=>hb)))
 have hck:=dcheck_any (w0:=w0) (c:=1) hrow (fun b hb=>Nat.lt_of_lt_of_le hb hb4.size) (by unfold maxArgs;omega) (Nat.le_refl _) (hU.below hb4)
 rw [s3,s2,s1] at X4
 rw [s2,s1] at X3
 rw [s1] at X2
 rw [s3,s2,s1] at hck
 obtain ⟨x0,x1,x2,x3,x4,x5⟩:=X1.cells hnb1 hmb1
 have HX:=Lib.hid (And.intro X1 (And.intro X2 X3))
 have HM:=Lib.hid (And.intro hnb1 hmb1)
 have HL:=Lib.hid (And.intro hL1 (And.intro hl1 hx1))
 have HT:=Lib.hid h1
 have HB:=Lib.hid (And.intro hb4 hsz4)
 have HC:=Lib.hid hck
 have HU:=Lib.hid hU
 have HWe:=Lib.hid hW4
 have hL1I:(L1:Int)≤1759218604400:=by unfold maxArgs at hx1;omega
 subst hW1 hW2 hW3
 rw [←HWe.out] at x0 x1 x2 x3 x4 x5 HC
 clear h1 hU hck hrow hb4 hsz4 hW4 X1 X2 X3 X4 s1 s2 s3 s4 d1 d2 d3 d4 hnb1 hmb1 hL1 hv1 hs1 hq1 hl1 hx1
 rw [show checksP ([((Tm.mk k1 n1 m1 b1 v1 ts1),Value.slice A1 L1 c1)].map (·.1))=0 from hcs1,errV,if_pos rfl] at HC
 have HCk:=Lib.hid hcs
 clear hcs hcs1 hl
 go_enter_defers Tryd.func9,Tryd.ntmps9
 go_upto_region 4 with (go_at_call 27;(with_reducible refine HC.out.mono ?_);rintro e w8 ⟨rfl,hb8⟩;rw [HWe.out] at hb8;have HX8:=Lib.hid (show TBox w8 (w.heap.size+1) zeroT (.slice none 0 0)∧w8.heap[w.heap.size+1+1]?=some (.cells #[.nilIface] 29 (0,0))∧Below w.heap.size w w8∧TBox w8 w.heap.size (Tm.mk k1 n1 m1 b1 v1 ts1) (.slice A1 L1 c1) from ⟨HX.out.2.1.below hb8,(hb8.block _ (Array.getElem?_eq_some_iff.1 HX.out.2.2).1).trans HX.out.2.2,HB.out.1.trans (hb8.mono HB.out.1.size),HX.out.1.below hb8⟩);have HB8:=Lib.hid hb8;clear hb8)
 obtain ⟨N,hNN⟩:∃ N,w8.heap.size=N:=⟨_,rfl⟩
 obtain ⟨w9,hw9⟩:∃ w9,w8.alloc (.cells #[.int .i64 0] 3)=w9:=⟨_,rfl⟩
 obtain ⟨wa,hwa⟩:∃ wa,w9.alloc (.cells #[.int .i64 k1,.string nb1,.string mb1,.int .u64 b1,.int .i64 v1,.slice A1 L1 c1] 25)=wa:=⟨_,rfl⟩
 have f9:Below w8.heap.size w8 w9:=by rw [←hw9];exact (Below.refl _ _).alloc (Nat.le_refl _) _
 have t9:w9.heap.size=w8.heap.size+1:=by rw [←hw9];simp
 have fa:Below w9.heap.size w9 wa:=by rw [←hwa];exact (Below.refl _ _).alloc (Nat.le_refl _) _
 have ta:wa.heap.size=w9.heap.size+1:=by rw [←hwa];simp
 have Y9:w9.heap[w8.heap.size]?=some (.cells #[.int .i64 0] 3 (0,0)):=by rw [←hw9];exact heap_alloc_new w8 _
 have Ya:wa.heap[w9.heap.size]?=some (.cells #[.int .i64 k1,.string nb1,.string mb1,.int .u64 b1,.int .i64 v1,.slice A1 L1 c1] 25 (0,0)):=by rw [←hwa];exact heap_alloc_new w9 _
 have h8s:=HB8.out.size
 have h4s:=HB.out.2
 have f8a:Below w8.heap.size w8 wa:=f9.trans (fa.mono (by omega))
 have hRSa:RS w N (Tm.mk k1 n1 m1 b1 v1 ts1) (.slice A1 L1 c1) 0 wa:=⟨HX8.out.2.2.2.below f8a,HX8.out.1.below f8a,(f8a.block _ (Array.getElem?_eq_some_iff.1 HX8.out.2.1).1).trans HX8.out.2.1,by rw [←hNN];exact (fa.block _ (by omega)).trans Y9,HX8.out.2.2.1.trans (f8a.mono HX8.out.2.2.1.size),by omega,TAtP.below HT.out (HX8.out.2.2.1.trans (f8a.mono HX8.out.2.2.1.size)) (fun b hb=>hb)⟩
 have hkid:TAtP wa (fun b=>b<wa.heap.size) (Tm.mk k1 n1 m1 b1 v1 ts1) (.slice A1 L1 c1):=hRSa.kid.wide (fun b hb=>Nat.lt_of_lt_of_le hb hRSa.bel.size)
 have hVr:=Variables_any (w0:=w0) (c:=1) (rowP_at Ya (by rw [←HM.out.1,←HM.out.2];rfl) (n:=1) (ps:=[((Tm.mk k1 n1 m1 b1 v1 ts1),Value.slice A1 L1 c1)]) rfl (mem1 hkid)) (Nat.le_refl _) HCk.out (HU.out.below hRSa.bel)
 rw [HR0.out.2.2.2.2.2] at hVr
 rw [show w9.heap.size=w8.heap.size+1 from t9] at hVr
 have HVr:=Lib.hid hVr
 have HRSa:=Lib.hid hRSa
 have hx8:=HX8.out.2.2.2
 obtain ⟨x0,x1,x2,x3,x4,x5⟩:=(hx8.below f9).cells HM.out.1 HM.out.2
 have HWa:=Lib.hid (And.intro hwa hNN)
 subst hw9
 rw [←HWa.out.1] at HVr
 clear h8s h4s hVr hRSa hkid f9 fa t9 ta Y9 Ya f8a hwa hNN hx8
 go_upto_region 7 with (go_at_call 28;(with_reducible refine HVr.out.mono ?_);rintro e wb ⟨A2,n2,c2,rfl,ho2,hbb⟩;rw [HWa.out.1] at hbb ho2;have HV2:=Lib.hid (And.intro ho2 (HRSa.out.below hbb));clear ho2 hbb)
 rw [HWa.out.2]
 have hn2:l.length=n2:=Own.zlen HV2.out.1
 have HN2:=Lib.hid hn2
 have hnI:(n2:Int)≤4000:=by have:=HR0.out.2.2.2.2.1;omega
 clear hn2 x0 x1 x2 x3 x4 x5 HVr
 have HNa:=Lib.hid (show N<wa.heap.size from HRSa.out.nlt)
 go_loopw [37] (fun v37 wr=>∃ (i:Nat) (m:Int),v37 = .int .i64 (i:Int)∧i≤n2∧0≤m∧m≤4611686018427387905∧Hid (RS w N (Tm.mk k1 n1 m1 b1 v1 ts1) (.slice A1 L1 c1) m wr∧Own 3 wr wa.heap.size A2 n2 c2 (zs l)∧(l.drop i).foldl (fun n x=>max n (x+1)) m=N9∧(l.drop i).any (fun x=>decide (4611686018427387904<x))=HB9)) (fun v37 _=>((n2:Int) - intOf v37).toNat)
 case atStart=>exact ⟨0,0,rfl,Nat.zero_le _,by omega,by omega,Lib.hid ⟨HV2.out.2,HV2.out.1,HR0.out.2.2.1,HR0.out.2.1⟩⟩
 case round=>
  obtain ⟨i,m,rfl,hi,hm0,hm1,HI⟩:=hrel
  by_cases hlt:i<n2
  ·have hltI:(i:Int)<(n2:Int):=by omega
   have hi0:(0:Int)≤(i:Int):=by omega
   have hil:i<l.length:=by rw [HN2.out];exact hlt
   obtain ⟨y,hy⟩:∃ y,l[i]?=some y:=⟨_,List.getElem?_eq_getElem hil⟩
   obtain ⟨g,oo,rfl,hg,hc⟩:=(Own.rd HI.out.2.1) (zs_ne hy)
   have e0:=hc i _ (zs_get hy)
   have hd:l.drop i=y :: l.drop (i+1):=by rw [List.drop_eq_getElem_cons hil,←List.getElem?_eq_some_iff.1 hy |>.2]
   have HLT:=Lib.hid hlt
   by_cases hby:4611686018427387904<y
   ·have HE:=Lib.hid (show true=HB9 from by rw [←HI.out.2.2.2,hd,List.any_cons,decide_eq_true hby];rfl)
    obtain ⟨a0,a1,a2,a3,a4,a5⟩:=HI.out.1.r.cells rfl rfl
    obtain ⟨q0,q1,q2,q3,q4,q5⟩:=HI.out.1.r.frozens
    have cE:=cell_of_one HI.out.1.e
    have fE:=free_of_one HI.out.1.e
    clear hlt hi hil hy hc hd
    go_wp2
    obtain ⟨hbx,hgr⟩:=HI.out.1.r.set6 (k:=0) (b:=0) (v:=0) (n:=[]) (m:=[]) (nb:=⟨#[]⟩) (mb:=⟨#[]⟩) [] (.slice none 0 0) rfl rfl
    generalize ((((((wr.setCell ⟨w.heap.size+1,0,none⟩ (.int .i64 0)).setCell ⟨w.heap.size+1,1,none⟩ (.string ⟨#[]⟩)).setCell ⟨w.heap.size+1,2,none⟩ (.string ⟨#[]⟩)).setCell ⟨w.heap.size+1,3,none⟩ (.int .u64 0)).setCell ⟨w.heap.size+1,4,none⟩ (.int .i64 0)).setCell ⟨w.heap.size+1,5,none⟩ (.slice none 0 0))=w9 at *
    have hE9:=blk_ne hgr HI.out.1.e (by omega)
    have hbx10:=hbx.far (p:=⟨w.heap.size+1+1,0,none⟩) (by show w.heap.size+1≠w.heap.size+1+1;omega) (.iface 32 (.int .i64 1))
    have hE10:=one_setCell (u:=.iface 32 (.int .i64 1)) hE9
    have hb10:Below w.heap.size w (w9.setCell ⟨w.heap.size+1+1,0,none⟩ (.iface 32 (.int .i64 1))):=(HI.out.1.bel.grown hgr HI.out.1.bel.size (fun j e=>by injection e with e;omega)).setCell (by show w.heap.size≤w.heap.size+1+1;omega) _
    generalize w9.setCell ⟨w.heap.size+1+1,0,none⟩ (.iface 32 (.int .i64 1))=w10 at *
    obtain ⟨r0,r1,r2,r3,r4,r5⟩:=hbx10.cells (nb:=⟨#[]⟩) (mb:=⟨#[]⟩) rfl rfl
    have cE10:=cell_of_one hE10
    simp only [bodyPostD,Leaves]
    exact ⟨.tuple #[zeroTV,.iface 32 (.int .i64 1)],by simp [results,Tryd.results9,go_sem,r0,r1,r2,r3,r4,r5,cE10,zeroTV],.inl ⟨HE.out.symm,rfl,hb10⟩⟩
   ·have hyr : -9223372036854775808≤y:=by
     have h8:=(vars_mem (Tm.mk k1 n1 m1 b1 v1 ts1) [] y).1 (by rw [HR0.out.2.2.2.2.2];exact List.mem_of_getElem? hy)
     have h7:=hasV_nn HCk.out (h8.resolve_left (by simp))
     omega
    have HE:=Lib.hid (show (l.drop (i+1)).foldl (fun n x=>max n (x+1)) (max m (y+1))=N9∧(l.drop (i+1)).any (fun x=>decide (4611686018427387904<x))=HB9 from ⟨by rw [←HI.out.2.2.1,hd];rfl,by rw [←HI.out.2.2.2,hd,List.any_cons,decide_eq_false hby];rfl⟩)
    have cN:=cell_of_one HI.out.1.n
    have fN:=free_of_one HI.out.1.n
    clear hlt hi hil hy hc hd
    go_wp2
    have hgS:wr.grownBy (wr.setCell ⟨N,0,none⟩ (.int .i64 (max m (y+1)))) (some N):=gb_setCell (gb_refl wr (some N)) 0 _
    refine ⟨⟨i+1,max m (y+1),rfl,HLT.out,by omega,by omega,Lib.hid ⟨HI.out.1.go hgS (one_setCell HI.out.1.n),World.ownsRow.kept HI.out.2.1 hgS (.inr (fun e=>?_)),HE.out.1,HE.out.2⟩⟩,?_⟩
    ·have:=(World.ownsRow.lt HI.out.2.1 N e).1
     have:=HNa.out
     omega
    ·have:=HLT.out
     show ((n2:Int) - ((i:Int)+1)).toNat<((n2:Int) - (i:Int)).toNat
     omega
  ·have ei:i=n2:=by omega
   subst ei
   have HE:=Lib.hid (show m=N9∧false=HB9 from by
    have h8:=HI.out.2.2
    rw [List.drop_of_length_le (by rw [HN2.out];exact Nat.le_refl _)] at h8
    exact h8)
   have hHB:=HE.out.2
   subst hHB
   have hmN:=HE.out.1
   have HRS:=Lib.hid HI.out.1
   rw [hmN] at HRS hm0 hm1
   clear hlt hi hmN HI HE
   obtain ⟨x0,x1,x2,x3,x4,x5⟩:=HRS.out.t1.cells HM.out.1 HM.out.2
   obtain ⟨B0,hB0⟩:∃ B,isC (Tm.mk k1 n1 m1 b1 v1 ts1) sRule 2=B:=⟨_,rfl⟩
   have HI0:=Lib.hid (show ∀ u,Calls Tryd.prog 30 #[.agg #[.int .i64 k1,.string nb1,.string mb1,.int .u64 b1,.int .i64 v1,.slice A1 L1 c1],.string ⟨#[45,45,62]⟩,.int .i64 2] u (fun e w'=>e = .returned (.bool B0)∧Below u.heap.size u w') from fun u=>by
    have h:=is_any (t:=zeroT) (w:=u) (b:=b1) (v:=v1) (k:=k1) (A:=A1) HM.out.1 HM.out.2 HL.out.1 HL.out.2.2 HL.out.2.1 ⟨#[45,45,62]⟩ 2
    rw [show isC (Tm.mk k1 n1 m1 b1 v1 ts1) (⟨#[45,45,62]⟩:ByteArray).data.toList 2=B0 from hB0] at h
    exact h)
   have HC0:=Lib.hid hB0
   clear hB0
   have HS0:=HRS
   clear HRS
   cases B0 with
   | false=>
    exact absurd (HRUa.out.symm.trans HC0.out) (by simp)
   | true=>
    obtain ⟨e1,e2,e3⟩:=isC_iff.1 HC0.out
    change k1=5 at e1
    change n1=sRule at e2
    change ts1.length=2 at e3
    subst e1 e2
    have hL2:L1=2:=by rw [←HL.out.1];exact e3
    subst hL2
    obtain ⟨x,y,rfl⟩:∃ x y,ts1 = [x,y]:=by
     match ts1,e3 with
     | [x,y],_=>exact ⟨x,y,rfl⟩
    clear e3
    go_upto_region 16 with (go_at_call 30;(with_reducible refine (HI0.out _).mono ?_);rintro e u1 ⟨rfl,hb⟩;have HS1:=Lib.hid (HS0.out.below hb);clear hb)
    obtain ⟨Ax,cx,hst,zz1,zz2,zz3,zz4,hgo⟩:=TAtP.iff.1 (HS1.out.kid)
    clear zz1 zz2 zz3 zz4
    obtain ⟨g,o,hA,hPg,hel⟩:=hgo (by simp [Tm.as])
    injection hst with e1 e2 e3
    rw [hA] at e1
    subst e1
    clear e2 e3
    have hex:=hel 0 x rfl
    obtain ⟨A2,c2,k2,n2,m2,b2,v2,ts2,nb2,mb2,rfl,hnb,hmb,htx,q0,q1,q2,q3,q4,q5⟩:=EltP.cells hex
    obtain ⟨z4,z5,hsl,hl1,z6,hl3,z7⟩:=TAtP.iff.1 htx
    injection hsl with z1 z2 e3
    subst e3
    clear z1 z2 z6 z7 z4
    obtain ⟨L2,hL⟩:∃ L,ts2.length=L:=⟨_,rfl⟩
    change ts2.length≤_ at hl1
    change ts2.length≤_ at hl3
    rw [hL] at q5 htx hl1 hl3
    rw [Nat.zero_mul,Nat.add_zero] at q0 q1 q2 q3 q4 q5
    have HL2:=Lib.hid (And.intro hnb (And.intro hmb (And.intro hL (And.intro hl3 hl1))))
    have HE2:=Lib.hid (And.intro htx (And.intro q0 (And.intro q1 (And.intro q2 (And.intro q3 (And.intro q4 q5))))))
    have hL2I:(L2:Int)≤1759218604400:=by unfold maxArgs at hl3;omega
    clear hnb hmb hL htx q0 q1 q2 q3 q4 q5 hex hl1 hl3
    have hex:=hel 1 y rfl
    obtain ⟨A3,c3,k3,n3,m3,b3,v3,ts3,nb3,mb3,rfl,hnb,hmb,htx,q0,q1,q2,q3,q4,q5⟩:=EltP.cells hex
    obtain ⟨z4,z5,hsl,hl1,z6,hl3,z7⟩:=TAtP.iff.1 htx
    injection hsl with z1 z2 e3
    subst e3
    clear z1 z2 z6 z7 z4
    obtain ⟨L3,hL⟩:∃ L,ts3.length=L:=⟨_,rfl⟩
    change ts3.length≤_ at hl1
    change ts3.length≤_ at hl3
    rw [hL] at q5 htx hl1 hl3
    rw [Nat.one_mul] at q0 q1 q2 q3 q4 q5
    have HL3:=Lib.hid (And.intro hnb (And.intro hmb (And.intro hL (And.intro hl3 hl1))))
    have HE3:=Lib.hid (And.intro htx (And.intro q0 (And.intro q1 (And.intro q2 (And.intro q3 (And.intro q4 q5))))))
    have hL3I:(L3:Int)≤1759218604400:=by unfold maxArgs at hl3;omega
    clear hnb hmb hL htx q0 q1 q2 q3 q4 q5 hex hl1 hl3
    clear hgo hA hel
    have HS2:=HS1
    have HSS:=Lib.hid (show ∀ z,Below u1.heap.size u1 z→(z.cell? ⟨w.heap.size,5,none⟩=some (.slice (some ⟨g,o,none⟩) 2 c1)∧(z.cell? ⟨g,o,none⟩=some (.int .i64 k2)∧z.cell? ⟨g,o+1,none⟩=some (.string nb2)∧z.cell? ⟨g,o+2,none⟩=some (.string mb2)∧z.cell? ⟨g,o+3,none⟩=some (.int .u64 b2)∧z.cell? ⟨g,o+4,none⟩=some (.int .i64 v2)∧z.cell? ⟨g,o+5,none⟩=some (.slice A2 L2 c2))∧(z.cell? ⟨g,o+6,none⟩=some (.int .i64 k3)∧z.cell? ⟨g,o+7,none⟩=some (.string nb3)∧z.cell? ⟨g,o+8,none⟩=some (.string mb3)∧z.cell? ⟨g,o+9,none⟩=some (.int .u64 b3)∧z.cell? ⟨g,o+10,none⟩=some (.int .i64 v3)∧z.cell? ⟨g,o+11,none⟩=some (.slice A3 L3 c3))) from fun z hz=>⟨((HS1.out.t1.below hz).cells HM.out.1 HM.out.2).2.2.2.2.2,⟨cellB (hz) HE2.out.2.1,cellB (hz) HE2.out.2.2.1,cellB (hz) HE2.out.2.2.2.1,cellB (hz) HE2.out.2.2.2.2.1,cellB (hz) HE2.out.2.2.2.2.2.1,cellB (hz) HE2.out.2.2.2.2.2.2⟩,⟨cellB (hz) HE3.out.2.1,cellB (hz) HE3.out.2.2.1,cellB (hz) HE3.out.2.2.2.1,cellB (hz) HE3.out.2.2.2.2.1,cellB (hz) HE3.out.2.2.2.2.2.1,cellB (hz) HE3.out.2.2.2.2.2.2⟩⟩)
    have HEK:=Lib.hid (And.intro (cell_blk HE2.out.2.1) (And.intro HE2.out.1 HE3.out.1))
    have HPg:=Lib.hid (show g<w.heap.size from hPg)
    clear hPg
    refine wp_region_wait (fun z=>(z.cell? ⟨w.heap.size,5,none⟩=some (.slice (some ⟨g,o,none⟩) 2 c1)∧(z.cell? ⟨g,o,none⟩=some (.int .i64 k2)∧z.cell? ⟨g,o+1,none⟩=some (.string nb2)∧z.cell? ⟨g,o+2,none⟩=some (.string mb2)∧z.cell? ⟨g,o+3,none⟩=some (.int .u64 b2)∧z.cell? ⟨g,o+4,none⟩=some (.int .i64 v2)∧z.cell? ⟨g,o+5,none⟩=some (.slice A2 L2 c2))∧(z.cell? ⟨g,o+6,none⟩=some (.int .i64 k3)∧z.cell? ⟨g,o+7,none⟩=some (.string nb3)∧z.cell? ⟨g,o+8,none⟩=some (.string mb3)∧z.cell? ⟨g,o+9,none⟩=some (.int .u64 b3)∧z.cell? ⟨g,o+10,none⟩=some (.int .i64 v3)∧z.cell? ⟨g,o+11,none⟩=some (.slice A3 L3 c3)))) 11 (by kernel_rfl) ?_
    change wpAnyW _ _ _ _ _ _ _ _ _ u1.drew
    have KK:=Lib.hid (below_drew' u1)
    generalize u1.drew=v0 at *
    refine wpAnyW_take 11 (i:=0) (v:=.pointer (some ⟨w.heap.size,5,none⟩)) rfl (by kernel_rfl) (by kernel_rfl) (by kernel_rfl) (by kernel_rfl) (fun c a w h=>hqRule (by omega) c a w h) (Or.inl ⟨by rfl,?_⟩) (HSS.out _ KK.out) ?_
    ·intro w5 hSw
     obtain ⟨x5,⟨p0,p1,p2,p3,p4,p5⟩,⟨q0,q1,q2,q3,q4,q5⟩⟩:=hSw
     go_simp
    refine wpAnyW_take 11 (i:=1) (v:=.slice (some ⟨g,o,none⟩) 2 c1) rfl (by kernel_rfl) (by kernel_rfl) (by kernel_rfl) (by kernel_rfl) (fun c a w h=>hqRule (by omega) c a w h) (Or.inl ⟨by rfl,?_⟩) (HSS.out _ KK.out) ?_
    ·intro w5 hSw
     obtain ⟨x5,⟨p0,p1,p2,p3,p4,p5⟩,⟨q0,q1,q2,q3,q4,q5⟩⟩:=hSw
     go_simp
    refine wpAnyW_take 11 (i:=2) (v:=.pointer (some ⟨g,o,none⟩)) rfl (by kernel_rfl) (by kernel_rfl) (by kernel_rfl) (by kernel_rfl) (fun c a w h=>hqRule (by omega) c a w h) (Or.inl ⟨by rfl,?_⟩) (HSS.out _ KK.out) ?_
    ·intro w5 hSw
     obtain ⟨x5,⟨p0,p1,p2,p3,p4,p5⟩,⟨q0,q1,q2,q3,q4,q5⟩⟩:=hSw
     go_simp
    refine wpAnyW_take 11 (i:=3) (v:=.agg #[.int .i64 k2,.string nb2,.string mb2,.int .u64 b2,.int .i64 v2,.slice A2 L2 c2]) rfl (by kernel_rfl) (by kernel_rfl) (by kernel_rfl) (by kernel_rfl) (fun c a w h=>hqRule (by omega) c a w h) (Or.inl ⟨by rfl,?_⟩) (HSS.out _ KK.out) ?_
    ·intro w5 hSw
     obtain ⟨x5,⟨p0,p1,p2,p3,p4,p5⟩,⟨q0,q1,q2,q3,q4,q5⟩⟩:=hSw
     go_simp
    refine wpAnyW_take 11 (i:=4) (v:=.pointer (some ⟨w.heap.size,5,none⟩)) rfl (by kernel_rfl) (by kernel_rfl) (by kernel_rfl) (by kernel_rfl) (fun c a w h=>hqRule (by omega) c a w h) (Or.inl ⟨by rfl,?_⟩) (HSS.out _ KK.out) ?_
    ·intro w5 hSw
     obtain ⟨x5,⟨p0,p1,p2,p3,p4,p5⟩,⟨q0,q1,q2,q3,q4,q5⟩⟩:=hSw
     go_simp
    refine wpAnyW_take 11 (i:=5) (v:=.slice (some ⟨g,o,none⟩) 2 c1) rfl (by kernel_rfl) (by kernel_rfl) (by kernel_rfl) (by kernel_rfl) (fun c a w h=>hqRule (by omega) c a w h) (Or.inl ⟨by rfl,?_⟩) (HSS.out _ KK.out) ?_
    ·intro w5 hSw
     obtain ⟨x5,⟨p0,p1,p2,p3,p4,p5⟩,⟨q0,q1,q2,q3,q4,q5⟩⟩:=hSw
     go_simp
    refine wpAnyW_take 11 (i:=6) (v:=.pointer (some ⟨g,o+6,none⟩)) rfl (by kernel_rfl) (by kernel_rfl) (by kernel_rfl) (by kernel_rfl) (fun c a w h=>hqRule (by omega) c a w h) (Or.inl ⟨by rfl,?_⟩) (HSS.out _ KK.out) ?_
    ·intro w5 hSw
     obtain ⟨x5,⟨p0,p1,p2,p3,p4,p5⟩,⟨q0,q1,q2,q3,q4,q5⟩⟩:=hSw
     go_simp
    refine wpAnyW_take 11 (i:=7) (v:=.agg #[.int .i64 k3,.string nb3,.string mb3,.int .u64 b3,.int .i64 v3,.slice A3 L3 c3]) rfl (by kernel_rfl) (by kernel_rfl) (by kernel_rfl) (by kernel_rfl) (fun c a w h=>hqRule (by omega) c a w h) (Or.inl ⟨by rfl,?_⟩) (HSS.out _ KK.out) ?_
    ·intro w5 hSw
     obtain ⟨x5,⟨p0,p1,p2,p3,p4,p5⟩,⟨q0,q1,q2,q3,q4,q5⟩⟩:=hSw
     go_simp
    apply merge3 (F:=fun u H Bx=>Hid (RT w N (Tm.mk 5 sRule m1 b1 v1 [Tm.mk k2 n2 m2 b2 v2 ts2,Tm.mk k3 n3 m3 b3 v3 ts3]) (.slice (some ⟨g,o,none⟩) 2 c1) N9 H Bx zeroT (.slice none 0 0) zeroT (.slice none 0 0) u∧Below u1.heap.size u1 u∧u1.heap.size≤H))
    ·intro key
     refine wpAnyW_two (i:=8) (i2:=9) (by kernel_rfl) rfl rfl (fun K hK=>?_) (fun K hK=>?_)
     ·go_simp
      have hb:Below v0.heap.size v0 (v0.alloc (.cells #[.int .i64 0,.string ⟨#[]⟩,.string ⟨#[]⟩,.int .u64 0,.int .i64 0,.slice none 0 0] 25)):=(Below.refl _ _).alloc (Nat.le_refl _) _
      have HX:=Lib.hid (show TBox (v0.alloc (.cells #[.int .i64 0,.string ⟨#[]⟩,.string ⟨#[]⟩,.int .u64 0,.int .i64 0,.slice none 0 0] 25)) v0.heap.size zeroT (.slice none 0 0)∧u1.heap.size≤v0.heap.size from ⟨heap_alloc_new v0 _,KK.out.size⟩)
      replace KK:=Lib.hid (KK.out.trans (hb.mono KK.out.size))
      clear hb
      refine hK.out _ _ (fun _=>HSS.out _ KK.out) ?_
      generalize (v0.alloc (.cells #[.int .i64 0,.string ⟨#[]⟩,.string ⟨#[]⟩,.int .u64 0,.int .i64 0,.slice none 0 0] 25))=v9 at *
      generalize v0.heap.size=H at *
      refine w1 9 fun K hK=>?_
      go_simp
      have hb:Below v9.heap.size v9 (v9.alloc (.cells #[.int .i64 0,.string ⟨#[]⟩,.string ⟨#[]⟩,.int .u64 0,.int .i64 0,.slice none 0 0] 25)):=(Below.refl _ _).alloc (Nat.le_refl _) _
      have HY:=Lib.hid (show TBox (v9.alloc (.cells #[.int .i64 0,.string ⟨#[]⟩,.string ⟨#[]⟩,.int .u64 0,.int .i64 0,.slice none 0 0] 25)) v9.heap.size zeroT (.slice none 0 0)∧TBox (v9.alloc (.cells #[.int .i64 0,.string ⟨#[]⟩,.string ⟨#[]⟩,.int .u64 0,.int .i64 0,.slice none 0 0] 25)) H zeroT (.slice none 0 0)∧H<v9.heap.size∧u1.heap.size≤v9.heap.size from ⟨heap_alloc_new v9 _,HX.out.1.below hb,HX.out.1.lt,KK.out.size⟩)
      replace KK:=Lib.hid (KK.out.trans (hb.mono KK.out.size))
      clear hb
      refine hK.out _ _ (fun _=>HSS.out _ KK.out) ?_
      generalize (v9.alloc (.cells #[.int .i64 0,.string ⟨#[]⟩,.string ⟨#[]⟩,.int .u64 0,.int .i64 0,.slice none 0 0] 25))=va at *
      generalize v9.heap.size=Bx at *
      refine key va H Bx (Lib.hid ⟨?_,KK.out,HX.out.2⟩)
      have hN:=HS2.out.nlt
      have e1:=HX.out.2
      have e2:=HY.out.2.2
      have hrs:=HS2.out.below KK.out
      exact ⟨hrs,HY.out.2.1,HY.out.1,by omega,by omega,by omega,zero_at _ _,zero_at _ _⟩
     ·go_simp
      have hb:Below v0.heap.size v0 (v0.alloc (.cells #[.int .i64 0,.string ⟨#[]⟩,.string ⟨#[]⟩,.int .u64 0,.int .i64 0,.slice none 0 0] 25)):=(Below.refl _ _).alloc (Nat.le_refl _) _
      have HX:=Lib.hid (show TBox (v0.alloc (.cells #[.int .i64 0,.string ⟨#[]⟩,.string ⟨#[]⟩,.int .u64 0,.int .i64 0,.slice none 0 0] 25)) v0.heap.size zeroT (.slice none 0 0)∧u1.heap.size≤v0.heap.size from ⟨heap_alloc_new v0 _,KK.out.size⟩)
      replace KK:=Lib.hid (KK.out.trans (hb.mono KK.out.size))
      clear hb
      refine hK.out _ _ (fun _=>HSS.out _ KK.out) ?_
      generalize (v0.alloc (.cells #[.int .i64 0,.string ⟨#[]⟩,.string ⟨#[]⟩,.int .u64 0,.int .i64 0,.slice none 0 0] 25))=v9 at *
      generalize v0.heap.size=Bx at *
      refine w1 8 fun K hK=>?_
      go_simp
      have hb:Below v9.heap.size v9 (v9.alloc (.cells #[.int .i64 0,.string ⟨#[]⟩,.string ⟨#[]⟩,.int .u64 0,.int .i64 0,.slice none 0 0] 25)):=(Below.refl _ _).alloc (Nat.le_refl _) _
      have HY:=Lib.hid (show TBox (v9.alloc (.cells #[.int .i64 0,.string ⟨#[]⟩,.string ⟨#[]⟩,.int .u64 0,.int .i64 0,.slice none 0 0] 25)) v9.heap.size zeroT (.slice none 0 0)∧TBox (v9.alloc (.cells #[.int .i64 0,.string ⟨#[]⟩,.string ⟨#[]⟩,.int .u64 0,.int .i64 0,.slice none 0 0] 25)) Bx zeroT (.slice none 0 0)∧Bx<v9.heap.size∧u1.heap.size≤v9.heap.size from ⟨heap_alloc_new v9 _,HX.out.1.below hb,HX.out.1.lt,KK.out.size⟩)
      replace KK:=Lib.hid (KK.out.trans (hb.mono KK.out.size))
      clear hb
      refine hK.out _ _ (fun _=>HSS.out _ KK.out) ?_
      generalize (v9.alloc (.cells #[.int .i64 0,.string ⟨#[]⟩,.string ⟨#[]⟩,.int .u64 0,.int .i64 0,.slice none 0 0] 25))=va at *
      generalize v9.heap.size=H at *
      refine key va H Bx (Lib.hid ⟨?_,KK.out,HY.out.2.2.2⟩)
      have hN:=HS2.out.nlt
      have e1:=HX.out.2
      have e2:=HY.out.2.2
      have hrs:=HS2.out.below KK.out
      exact ⟨hrs,HY.out.1,HY.out.2.1,by omega,by omega,by omega,zero_at _ _,zero_at _ _⟩
    intro va H Bx HR1
    have HS6:=Lib.hid (show ∀ z,((((((va.setCell ⟨H,0,none⟩ (.int .i64 k2)).setCell ⟨H,1,none⟩ (.string nb2)).setCell ⟨H,2,none⟩ (.string mb2)).setCell ⟨H,3,none⟩ (.int .u64 b2)).setCell ⟨H,4,none⟩ (.int .i64 v2)).setCell ⟨H,5,none⟩ (.slice A2 L2 c2))=z→(z.cell? ⟨w.heap.size,5,none⟩=some (.slice (some ⟨g,o,none⟩) 2 c1)∧(z.cell? ⟨g,o,none⟩=some (.int .i64 k2)∧z.cell? ⟨g,o+1,none⟩=some (.string nb2)∧z.cell? ⟨g,o+2,none⟩=some (.string mb2)∧z.cell? ⟨g,o+3,none⟩=some (.int .u64 b2)∧z.cell? ⟨g,o+4,none⟩=some (.int .i64 v2)∧z.cell? ⟨g,o+5,none⟩=some (.slice A2 L2 c2))∧(z.cell? ⟨g,o+6,none⟩=some (.int .i64 k3)∧z.cell? ⟨g,o+7,none⟩=some (.string nb3)∧z.cell? ⟨g,o+8,none⟩=some (.string mb3)∧z.cell? ⟨g,o+9,none⟩=some (.int .u64 b3)∧z.cell? ⟨g,o+10,none⟩=some (.int .i64 v3)∧z.cell? ⟨g,o+11,none⟩=some (.slice A3 L3 c3))) from fun z e=>HSS.out _ (by
     rw [←e]
     exact HR1.out.2.1.grown (HR1.out.1.bh.set6 (k:=k2) (v:=v2) (b:=b2) ts2 (.slice A2 L2 c2) HL2.out.1 HL2.out.2.1).2 HR1.out.2.1.size (fun j e=>by injection e with e;have:=HR1.out.2.2;omega)))
    refine w1 10 fun K hK=>?_
    obtain ⟨a0,a1,a2,a3,a4,a5⟩:=HR1.out.1.bh.cells rfl rfl
    obtain ⟨e0,e1,e2,e3,e4,e5⟩:=HR1.out.1.bh.frozens
    go_simp
    clear a0 a1 a2 a3 a4 a5 e0 e1 e2 e3 e4 e5
    have hset:=HR1.out.1.setH (k:=k2) (v:=v2) (b:=b2) HL2.out.1 HL2.out.2.1 (TAtP.below HEK.out.2.1 HR1.out.2.1 (fun b hb=>Nat.lt_of_lt_of_le hb HS2.out.bel.size))
    have HR2x:=Lib.hid (show ∀ z,((((((va.setCell ⟨H,0,none⟩ (.int .i64 k2)).setCell ⟨H,1,none⟩ (.string nb2)).setCell ⟨H,2,none⟩ (.string mb2)).setCell ⟨H,3,none⟩ (.int .u64 b2)).setCell ⟨H,4,none⟩ (.int .i64 v2)).setCell ⟨H,5,none⟩ (.slice A2 L2 c2))=z→RT w N (Tm.mk 5 sRule m1 b1 v1 [Tm.mk k2 n2 m2 b2 v2 ts2,Tm.mk k3 n3 m3 b3 v3 ts3]) (.slice (some ⟨g,o,none⟩) 2 c1) N9 H Bx (Tm.mk k2 n2 m2 b2 v2 ts2) (.slice A2 L2 c2) zeroT (.slice none 0 0) z∧∀ b,b<w.heap.size→z.heap[b]?=va.heap[b]? from fun z e=>by rw [←e];exact ⟨hset,fun b hb=>(HR1.out.1.bh.set6 (k:=k2) (v:=v2) (b:=b2) ts2 (.slice A2 L2 c2) HL2.out.1 HL2.out.2.1).2.block b (Nat.lt_of_lt_of_le hb HR1.out.1.rs.bel.size) (fun e=>by injection e with e;have:=HR1.out.1.lh;have:=HR1.out.1.rs.lt;omega)⟩)
    clear hset
    refine hK.out _ _ (fun h=>HS6.out _ rfl) ?_
    generalize ((((((va.setCell ⟨H,0,none⟩ (.int .i64 k2)).setCell ⟨H,1,none⟩ (.string nb2)).setCell ⟨H,2,none⟩ (.string mb2)).setCell ⟨H,3,none⟩ (.int .u64 b2)).setCell ⟨H,4,none⟩ (.int .i64 v2)).setCell ⟨H,5,none⟩ (.slice A2 L2 c2))=vb at *
    have HR2:=Lib.hid (HR2x.out _ rfl).1
    have hgk:=Lib.hid ((HR2x.out _ rfl).2)
    clear HR2x
    replace HR2:=Lib.hid (And.intro HR2.out (show TAtP vb (fun b=>b<w.heap.size) (Tm.mk k3 n3 m3 b3 v3 ts3) (.slice A3 L3 c3) from TAtP.keep _ (TAtP.below HEK.out.2.2 HR1.out.2.1 (fun b hb=>Nat.lt_of_lt_of_le hb HS2.out.bel.size)) (fun b hb=>⟨hb,hgk.out b hb⟩)))
    refine w1 11 fun K hK=>?_
    obtain ⟨a0,a1,a2,a3,a4,a5⟩:=HR2.out.1.bb.cells rfl rfl
    obtain ⟨e0,e1,e2,e3,e4,e5⟩:=HR2.out.1.bb.frozens
    go_simp
    clear a0 a1 a2 a3 a4 a5 e0 e1 e2 e3 e4 e5
    have hset:=HR2.out.1.setB (k:=k3) (v:=v3) (b:=b3) HL3.out.1 HL3.out.2.1 (HR2.out.2)
    have HR3x:=Lib.hid (show ∀ z,((((((vb.setCell ⟨Bx,0,none⟩ (.int .i64 k3)).setCell ⟨Bx,1,none⟩ (.string nb3)).setCell ⟨Bx,2,none⟩ (.string mb3)).setCell ⟨Bx,3,none⟩ (.int .u64 b3)).setCell ⟨Bx,4,none⟩ (.int .i64 v3)).setCell ⟨Bx,5,none⟩ (.slice A3 L3 c3))=z→RT w N (Tm.mk 5 sRule m1 b1 v1 [Tm.mk k2 n2 m2 b2 v2 ts2,Tm.mk k3 n3 m3 b3 v3 ts3]) (.slice (some ⟨g,o,none⟩) 2 c1) N9 H Bx (Tm.mk k2 n2 m2 b2 v2 ts2) (.slice A2 L2 c2) (Tm.mk k3 n3 m3 b3 v3 ts3) (.slice A3 L3 c3) z∧∀ b,b<w.heap.size→z.heap[b]?=vb.heap[b]? from fun z e=>by rw [←e];exact ⟨hset,fun b hb=>(HR2.out.1.bb.set6 (k:=k3) (v:=v3) (b:=b3) ts3 (.slice A3 L3 c3) HL3.out.1 HL3.out.2.1).2.block b (Nat.lt_of_lt_of_le hb HR2.out.1.rs.bel.size) (fun e=>by injection e with e;have:=HR2.out.1.lb;have:=HR2.out.1.rs.lt;omega)⟩)
    clear hset
    refine hK.out _ _ (fun h=>absurd h (by simp)) ?_
    generalize ((((((vb.setCell ⟨Bx,0,none⟩ (.int .i64 k3)).setCell ⟨Bx,1,none⟩ (.string nb3)).setCell ⟨Bx,2,none⟩ (.string mb3)).setCell ⟨Bx,3,none⟩ (.int .u64 b3)).setCell ⟨Bx,4,none⟩ (.int .i64 v3)).setCell ⟨Bx,5,none⟩ (.slice A3 L3 c3))=vc at *
    have HR3:=Lib.hid (HR3x.out _ rfl).1
    have hgk:=Lib.hid ((HR3x.out _ rfl).2)
    clear HR3x
    refine wpAnyW_done (by kernel_rfl) ?_ _
    clear hgk HS6 HSS HEK
    obtain ⟨B1,hB1⟩:∃ B,isC (Tm.mk k2 n2 m2 b2 v2 ts2) sComma 2=B:=⟨_,rfl⟩
    have HI1:=Lib.hid (show ∀ u,Calls Tryd.prog 30 #[.agg #[.int .i64 k2,.string nb2,.string mb2,.int .u64 b2,.int .i64 v2,.slice A2 L2 c2],.string ⟨#[44]⟩,.int .i64 2] u (fun e w'=>e = .returned (.bool B1)∧Below u.heap.size u w') from fun u=>by
     have h:=is_any (t:=zeroT) (w:=u) (b:=b2) (v:=v2) (k:=k2) (A:=A2) HL2.out.1 HL2.out.2.1 HL2.out.2.2.1 HL2.out.2.2.2.1 HL2.out.2.2.2.2 ⟨#[44]⟩ 2
     rw [show isC (Tm.mk k2 n2 m2 b2 v2 ts2) (⟨#[44]⟩:ByteArray).data.toList 2=B1 from hB1] at h
     exact h)
    have HC1:=Lib.hid hB1
    clear hB1
    obtain ⟨x0,x1,x2,x3,x4,x5⟩:=HR3.out.bh.cells HL2.out.1 HL2.out.2.1
    cases B1 with
    | false=>
     have HRT:=Lib.hid ((rule_np HC1.out).symm.trans HR0.out.1)
     rw [HR0.out.2.2.2.1] at HRT
     go_upto_region 21 with (go_at_call 30;(with_reducible refine (HI1.out _).mono ?_);rintro e u2 ⟨rfl,hb⟩;have HR4:=Lib.hid (HR3.out.below hb);obtain ⟨y0,y1,y2,y3,y4,y5⟩:=HR4.out.bh.cells HL2.out.1 HL2.out.2.1;clear hb)
     by_cases hk1:k2=1
     ·subst hk1
      have hRE:=HRT.out
      rw [tail_inst rfl] at hRE
      subst hRE
      go_wp2_with (first
       | (go_at_call 33;(with_reducible refine (atom_any _ _).mono ?_);rintro e v1w ⟨rfl,hb1⟩;have HBA:=Lib.hid hb1;have HT3:=Lib.hid (show TAt v1w v1w.heap.size (atomT sInst) (.slice none 0 0) from atom_at _ _ (by decide));clear hb1)
       | (go_at_call 31;(with_reducible refine (throw_lit rfl rfl HT3.out).mono ?_);rintro e v4w ⟨⟨bb,rfl,hball⟩,hb4⟩;have HSD:=Lib.hid (HR4.out.rs.below (HBA.out.trans (hb4.mono HBA.out.size)));have HBL:=Lib.hid hball;clear hball hb4))
      have hball:=HBL.out
      have hbx:=HSD.out.r.far (p:=⟨w.heap.size+1+1,0,none⟩) (by show w.heap.size+1≠w.heap.size+1+1;omega) (.iface 82 (.pointer (some ⟨bb,0,none⟩)))
      have hE2:=one_setCell (u:=.iface 82 (.pointer (some ⟨bb,0,none⟩))) HSD.out.e
      have hbl:=BallAt.caught hball HSD.out.e (.iface 82 (.pointer (some ⟨bb,0,none⟩)))
      have hbw:Below w.heap.size w (v4w.setCell ⟨w.heap.size+1+1,0,none⟩ (.iface 82 (.pointer (some ⟨bb,0,none⟩)))):=HSD.out.bel.setCell (by show w.heap.size≤w.heap.size+1+1;omega) _
      change Leaves _ _ _ _ _ (.panicking _) _
      refine leaves_cons (f:=29) (args:=#[.pointer (some ⟨w.heap.size+1+1,0,none⟩)]) (by simp) (by simp [go_sem]) ?_
      refine (caught_throws (w.heap.size+1+1) bb [] v4w (cell_of_one HSD.out.e) (free_of_one HSD.out.e)).mono ?_
      rintro e u' w'' ⟨rfl,rfl,rfl⟩
      obtain ⟨r0,r1,r2,r3,r4,r5⟩:=hbx.cells (nb:=⟨#[]⟩) (mb:=⟨#[]⟩) rfl rfl
      have cE2:=cell_of_one hE2
      simp only [settle,Leaves,List.dropWhile]
      first
       | exact ⟨.tuple #[zeroTV,.iface 82 (.pointer (some ⟨bb,0,none⟩))],by simp [results,Tryd.results9,go_sem,r0,r1,r2,r3,r4,r5,cE2,zeroTV],.inr ⟨by first | trivial | rfl,RuleR.mkBad hbw rfl hbl⟩⟩
       | exact ⟨.tuple #[zeroTV,.iface 82 (.pointer (some ⟨bb,0,none⟩))],by simp [results,Tryd.results9,go_sem,r0,r1,r2,r3,r4,r5,cE2,zeroTV],RuleR.mkBad hbw rfl hbl⟩
     ·by_cases hk34:k2=3∨k2=4
      ·rcases hk34 with hk3 | hk4
       ·subst hk3
        clear hk1
        have HMK:=Lib.hid (tail_call (pu:=false) (n:=N9) (h:=(Tm.mk 3 n2 m2 b2 v2 ts2)) (p:=(Tm.mk 3 n2 m2 b2 v2 ts2).as.getD 1 zeroT) (y:=(Tm.mk k3 n3 m3 b3 v3 ts3)) (by show ¬(3:Int)=1;decide) (by first | exact Or.inl rfl | exact Or.inr rfl))
        go_upto_region 26 with fail
        have hRE:=HRT.out
        rw [HMK.out] at hRE
        subst hRE
        have HSS:=Lib.hid (show ∀ z,Below u2.heap.size u2 z→((z.cell? ⟨H,0,none⟩=some (.int .i64 3)∧z.cell? ⟨H,1,none⟩=some (.string nb2)∧z.cell? ⟨H,2,none⟩=some (.string mb2)∧z.cell? ⟨H,3,none⟩=some (.int .u64 b2)∧z.cell? ⟨H,4,none⟩=some (.int .i64 v2)∧z.cell? ⟨H,5,none⟩=some (.slice A2 L2 c2))) from fun z hb=>((HR4.out.bh).below hb).cells HL2.out.1 HL2.out.2.1)
        refine wp_region_wait (fun z=>((z.cell? ⟨H,0,none⟩=some (.int .i64 3)∧z.cell? ⟨H,1,none⟩=some (.string nb2)∧z.cell? ⟨H,2,none⟩=some (.string mb2)∧z.cell? ⟨H,3,none⟩=some (.int .u64 b2)∧z.cell? ⟨H,4,none⟩=some (.int .i64 v2)∧z.cell? ⟨H,5,none⟩=some (.slice A2 L2 c2)))) 2 (by kernel_rfl) ?_
        change wpAnyW _ _ _ _ _ _ _ _ _ u2.drew
        have KK:=Lib.hid (below_drew' u2)
        generalize u2.drew=v0 at *
        refine wpAnyW_take 2 (i:=1) (v:=.agg #[.int .i64 3,.string nb2,.string mb2,.int .u64 b2,.int .i64 v2,.slice A2 L2 c2]) rfl (by kernel_rfl) (by kernel_rfl) (by kernel_rfl) (by kernel_rfl) (fun c a w h=>hqRule (by omega) c a w h) (Or.inl ⟨by rfl,?_⟩) (HSS.out _ KK.out) ?_
        ·intro w5 hSw
         obtain ⟨p0,p1,p2,p3,p4,p5⟩:=hSw
         go_simp
        refine w1 0 fun K hK=>?_
        go_simp
        (with_reducible refine (atom_any _ _).mono ?_)
        rintro e v1w ⟨rfl,hb1⟩
        replace KK:=Lib.hid (KK.out.trans (hb1.mono KK.out.size))
        clear hb1
        refine hK.out _ _ (fun _=>HSS.out _ KK.out) ?_
        have hbA:Below v1w.heap.size v1w (v1w.alloc (.cells #[.int .i64 2,.string ⟨#[99,97,108,108,97,98,108,101]⟩,.string ⟨#[]⟩,.int .u64 0,.int .i64 0,.slice none 0 0,.int .i64 3,.string nb2,.string mb2,.int .u64 b2,.int .i64 v2,.slice A2 L2 c2] 25)):=(Below.refl _ _).alloc (Nat.le_refl _) _
        have hbu:=built (w:=v1w) (P:=fun b=>b<v1w.heap.size) (s:=sType) (n:=2) (cs:=#[.int .i64 2,.string ⟨#[99,97,108,108,97,98,108,101]⟩,.string ⟨#[]⟩,.int .u64 0,.int .i64 0,.slice none 0 0,.int .i64 3,.string nb2,.string mb2,.int .u64 b2,.int .i64 v2,.slice A2 L2 c2]) (ps:=[(atomT sCallable,Value.slice none 0 0),((Tm.mk 3 n2 m2 b2 v2 ts2),Value.slice A2 L2 c2)]) (by rw [←HL2.out.1,←HL2.out.2.1];rfl) rfl (mem2 (atom_at _ _ (by decide)) (TAt.any (HR4.out.kh) (fun b hb=>Nat.lt_of_lt_of_le hb HR4.out.rs.bel.size) KK.out)) (fun b hb=>hb) (by unfold maxArgs;omega) (by decide)
        have HBA:=Lib.hid (And.intro hbA (And.intro hbu (show (v1w.alloc (.cells #[.int .i64 2,.string ⟨#[99,97,108,108,97,98,108,101]⟩,.string ⟨#[]⟩,.int .u64 0,.int .i64 0,.slice none 0 0,.int .i64 3,.string nb2,.string mb2,.int .u64 b2,.int .i64 v2,.slice A2 L2 c2] 25)).heap.size=v1w.heap.size+1 by simp)))
        clear hbA hbu
        refine w1 2 fun K hK=>?_
        go_simp
        refine hK.out _ _ (fun h=>absurd h (by simp)) ?_
        generalize v1w.alloc (.cells #[.int .i64 2,.string ⟨#[99,97,108,108,97,98,108,101]⟩,.string ⟨#[]⟩,.int .u64 0,.int .i64 0,.slice none 0 0,.int .i64 3,.string nb2,.string mb2,.int .u64 b2,.int .i64 v2,.slice A2 L2 c2] 25)=v2w at *
        refine w1 3 fun K hK=>?_
        go_simp
        (with_reducible refine (of_any _ _ _ _ _).mono ?_)
        rintro e v3w ⟨rfl,hb3⟩
        have HT3:=Lib.hid (TAt.any HBA.out.2.1 (fun b hb=>by have:=HBA.out.2.2;rcases hb with hb | hb <;> omega) hb3)
        replace KK:=Lib.hid ((KK.out.trans (HBA.out.1.mono KK.out.size)).trans (hb3.mono (Nat.le_trans KK.out.size HBA.out.1.size)))
        clear hb3
        refine hK.out _ _ (fun h=>absurd h (by simp)) ?_
        refine w1 4 fun K hK=>?_
        go_simp
        (with_reducible refine (throw_lit rfl rfl HT3.out).mono ?_)
        rintro e v4w ⟨⟨bb,rfl,hball⟩,hb4⟩
        have HSD:=HR4.out.rs.below (KK.out.trans (hb4.mono KK.out.size))
        have hbx:=HSD.r.far (p:=⟨w.heap.size+1+1,0,none⟩) (by show w.heap.size+1≠w.heap.size+1+1;omega) (.iface 82 (.pointer (some ⟨bb,0,none⟩)))
        have hE2:=one_setCell (u:=.iface 82 (.pointer (some ⟨bb,0,none⟩))) HSD.e
        have hbl:=BallAt.caught hball HSD.e (.iface 82 (.pointer (some ⟨bb,0,none⟩)))
        have hbw:Below w.heap.size w (v4w.setCell ⟨w.heap.size+1+1,0,none⟩ (.iface 82 (.pointer (some ⟨bb,0,none⟩)))):=HSD.bel.setCell (by show w.heap.size≤w.heap.size+1+1;omega) _
        change Leaves _ _ _ _ _ (.panicking _) _
        refine leaves_cons (f:=29) (args:=#[.pointer (some ⟨w.heap.size+1+1,0,none⟩)]) (by simp) (by simp [go_sem]) ?_
        refine (caught_throws (w.heap.size+1+1) bb [] v4w (cell_of_one HSD.e) (free_of_one HSD.e)).mono ?_
        rintro e u' w'' ⟨rfl,rfl,rfl⟩
        obtain ⟨r0,r1,r2,r3,r4,r5⟩:=hbx.cells (nb:=⟨#[]⟩) (mb:=⟨#[]⟩) rfl rfl
        have cE2:=cell_of_one hE2
        simp only [settle,Leaves,List.dropWhile]
        first
         | exact ⟨.tuple #[zeroTV,.iface 82 (.pointer (some ⟨bb,0,none⟩))],by simp [results,Tryd.results9,go_sem,r0,r1,r2,r3,r4,r5,cE2,zeroTV],.inr ⟨by first | trivial | rfl,RuleR.mkBad hbw rfl hbl⟩⟩
         | exact ⟨.tuple #[zeroTV,.iface 82 (.pointer (some ⟨bb,0,none⟩))],by simp [results,Tryd.results9,go_sem,r0,r1,r2,r3,r4,r5,cE2,zeroTV],RuleR.mkBad hbw rfl hbl⟩
       ·subst hk4
        clear hk1
        have HMK:=Lib.hid (tail_call (pu:=false) (n:=N9) (h:=(Tm.mk 4 n2 m2 b2 v2 ts2)) (p:=(Tm.mk 4 n2 m2 b2 v2 ts2).as.getD 1 zeroT) (y:=(Tm.mk k3 n3 m3 b3 v3 ts3)) (by show ¬(4:Int)=1;decide) (by first | exact Or.inl rfl | exact Or.inr rfl))
        go_upto_region 26 with fail
        have hRE:=HRT.out
        rw [HMK.out] at hRE
        subst hRE
        have HSS:=Lib.hid (show ∀ z,Below u2.heap.size u2 z→((z.cell? ⟨H,0,none⟩=some (.int .i64 4)∧z.cell? ⟨H,1,none⟩=some (.string nb2)∧z.cell? ⟨H,2,none⟩=some (.string mb2)∧z.cell? ⟨H,3,none⟩=some (.int .u64 b2)∧z.cell? ⟨H,4,none⟩=some (.int .i64 v2)∧z.cell? ⟨H,5,none⟩=some (.slice A2 L2 c2))) from fun z hb=>((HR4.out.bh).below hb).cells HL2.out.1 HL2.out.2.1)
        refine wp_region_wait (fun z=>((z.cell? ⟨H,0,none⟩=some (.int .i64 4)∧z.cell? ⟨H,1,none⟩=some (.string nb2)∧z.cell? ⟨H,2,none⟩=some (.string mb2)∧z.cell? ⟨H,3,none⟩=some (.int .u64 b2)∧z.cell? ⟨H,4,none⟩=some (.int .i64 v2)∧z.cell? ⟨H,5,none⟩=some (.slice A2 L2 c2)))) 2 (by kernel_rfl) ?_
        change wpAnyW _ _ _ _ _ _ _ _ _ u2.drew
        have KK:=Lib.hid (below_drew' u2)
        generalize u2.drew=v0 at *
        refine wpAnyW_take 2 (i:=1) (v:=.agg #[.int .i64 4,.string nb2,.string mb2,.int .u64 b2,.int .i64 v2,.slice A2 L2 c2]) rfl (by kernel_rfl) (by kernel_rfl) (by kernel_rfl) (by kernel_rfl) (fun c a w h=>hqRule (by omega) c a w h) (Or.inl ⟨by rfl,?_⟩) (HSS.out _ KK.out) ?_
        ·intro w5 hSw
         obtain ⟨p0,p1,p2,p3,p4,p5⟩:=hSw
         go_simp
        refine w1 0 fun K hK=>?_
        go_simp
        (with_reducible refine (atom_any _ _).mono ?_)
        rintro e v1w ⟨rfl,hb1⟩
        replace KK:=Lib.hid (KK.out.trans (hb1.mono KK.out.size))
        clear hb1
        refine hK.out _ _ (fun _=>HSS.out _ KK.out) ?_
        have hbA:Below v1w.heap.size v1w (v1w.alloc (.cells #[.int .i64 2,.string ⟨#[99,97,108,108,97,98,108,101]⟩,.string ⟨#[]⟩,.int .u64 0,.int .i64 0,.slice none 0 0,.int .i64 4,.string nb2,.string mb2,.int .u64 b2,.int .i64 v2,.slice A2 L2 c2] 25)):=(Below.refl _ _).alloc (Nat.le_refl _) _
        have hbu:=built (w:=v1w) (P:=fun b=>b<v1w.heap.size) (s:=sType) (n:=2) (cs:=#[.int .i64 2,.string ⟨#[99,97,108,108,97,98,108,101]⟩,.string ⟨#[]⟩,.int .u64 0,.int .i64 0,.slice none 0 0,.int .i64 4,.string nb2,.string mb2,.int .u64 b2,.int .i64 v2,.slice A2 L2 c2]) (ps:=[(atomT sCallable,Value.slice none 0 0),((Tm.mk 4 n2 m2 b2 v2 ts2),Value.slice A2 L2 c2)]) (by rw [←HL2.out.1,←HL2.out.2.1];rfl) rfl (mem2 (atom_at _ _ (by decide)) (TAt.any (HR4.out.kh) (fun b hb=>Nat.lt_of_lt_of_le hb HR4.out.rs.bel.size) KK.out)) (fun b hb=>hb) (by unfold maxArgs;omega) (by decide)
        have HBA:=Lib.hid (And.intro hbA (And.intro hbu (show (v1w.alloc (.cells #[.int .i64 2,.string ⟨#[99,97,108,108,97,98,108,101]⟩,.string ⟨#[]⟩,.int .u64 0,.int .i64 0,.slice none 0 0,.int .i64 4,.string nb2,.string mb2,.int .u64 b2,.int .i64 v2,.slice A2 L2 c2] 25)).heap.size=v1w.heap.size+1 by simp)))
        clear hbA hbu
        refine w1 2 fun K hK=>?_
        go_simp
        refine hK.out _ _ (fun h=>absurd h (by simp)) ?_
        generalize v1w.alloc (.cells #[.int .i64 2,.string ⟨#[99,97,108,108,97,98,108,101]⟩,.string ⟨#[]⟩,.int .u64 0,.int .i64 0,.slice none 0 0,.int .i64 4,.string nb2,.string mb2,.int .u64 b2,.int .i64 v2,.slice A2 L2 c2] 25)=v2w at *
        refine w1 3 fun K hK=>?_
        go_simp
        (with_reducible refine (of_any _ _ _ _ _).mono ?_)
        rintro e v3w ⟨rfl,hb3⟩
        have HT3:=Lib.hid (TAt.any HBA.out.2.1 (fun b hb=>by have:=HBA.out.2.2;rcases hb with hb | hb <;> omega) hb3)
        replace KK:=Lib.hid ((KK.out.trans (HBA.out.1.mono KK.out.size)).trans (hb3.mono (Nat.le_trans KK.out.size HBA.out.1.size)))
        clear hb3
        refine hK.out _ _ (fun h=>absurd h (by simp)) ?_
        refine w1 4 fun K hK=>?_
        go_simp
        (with_reducible refine (throw_lit rfl rfl HT3.out).mono ?_)
        rintro e v4w ⟨⟨bb,rfl,hball⟩,hb4⟩
        have HSD:=HR4.out.rs.below (KK.out.trans (hb4.mono KK.out.size))
        have hbx:=HSD.r.far (p:=⟨w.heap.size+1+1,0,none⟩) (by show w.heap.size+1≠w.heap.size+1+1;omega) (.iface 82 (.pointer (some ⟨bb,0,none⟩)))
        have hE2:=one_setCell (u:=.iface 82 (.pointer (some ⟨bb,0,none⟩))) HSD.e
        have hbl:=BallAt.caught hball HSD.e (.iface 82 (.pointer (some ⟨bb,0,none⟩)))
        have hbw:Below w.heap.size w (v4w.setCell ⟨w.heap.size+1+1,0,none⟩ (.iface 82 (.pointer (some ⟨bb,0,none⟩)))):=HSD.bel.setCell (by show w.heap.size≤w.heap.size+1+1;omega) _
        change Leaves _ _ _ _ _ (.panicking _) _
        refine leaves_cons (f:=29) (args:=#[.pointer (some ⟨w.heap.size+1+1,0,none⟩)]) (by simp) (by simp [go_sem]) ?_
        refine (caught_throws (w.heap.size+1+1) bb [] v4w (cell_of_one HSD.e) (free_of_one HSD.e)).mono ?_
        rintro e u' w'' ⟨rfl,rfl,rfl⟩
        obtain ⟨r0,r1,r2,r3,r4,r5⟩:=hbx.cells (nb:=⟨#[]⟩) (mb:=⟨#[]⟩) rfl rfl
        have cE2:=cell_of_one hE2
        simp only [settle,Leaves,List.dropWhile]
        first
         | exact ⟨.tuple #[zeroTV,.iface 82 (.pointer (some ⟨bb,0,none⟩))],by simp [results,Tryd.results9,go_sem,r0,r1,r2,r3,r4,r5,cE2,zeroTV],.inr ⟨by first | trivial | rfl,RuleR.mkBad hbw rfl hbl⟩⟩
         | exact ⟨.tuple #[zeroTV,.iface 82 (.pointer (some ⟨bb,0,none⟩))],by simp [results,Tryd.results9,go_sem,r0,r1,r2,r3,r4,r5,cE2,zeroTV],RuleR.mkBad hbw rfl hbl⟩
      ·have HK:=Lib.hid (And.intro hk1 hk34)
       have hk3:¬k2=3:=fun h=>hk34 (.inl h)
       have hk4:¬k2=4:=fun h=>hk34 (.inr h)
       clear hk34
       have HFm:=Lib.hid (from_any HR4.out.rs.n)
       rw [show freshV u2.heap.size = .func (.func 60) #[] #[.pointer (some ⟨u2.heap.size,0,none⟩)] from rfl] at HFm
       go_upto_region 34 with (first
        | (go_at_call 35;(with_reducible refine HFm.out.mono ?_);rintro e u3 ⟨rfl,hn,hb⟩;have HN3:=Lib.hid hn;have HR5:=Lib.hid (HR4.out.below hb);have HGF:=Lib.hid (grown_below (r:=some N) hb);clear hn hb)
        | (go_at_call 60;(with_reducible refine (fresh_any HN3.out ⟨by omega,by omega⟩).mono ?_);rintro e u4 ⟨rfl,hn,hg⟩;replace HR5:=Lib.hid (HR5.out.go hg hn.n);replace HGF:=Lib.hid (grown_trans HGF.out hg);replace HN3:=Lib.hid hn;clear hn hg))
       have HV5:=Lib.hid (show ∀ z,((u4.alloc (.cells #[.int .i64 1,.string ⟨#[]⟩,.string ⟨#[]⟩,.int .u64 0,.int .i64 N9,.slice none 0 0] 25)).alloc (.cells #[.int .i64 1,.string ⟨#[]⟩,.string ⟨#[]⟩,.int .u64 0,.int .i64 (N9+1),.slice none 0 0] 25))=z→(RT w N (Tm.mk 5 sRule m1 b1 v1 [Tm.mk k2 n2 m2 b2 v2 ts2,Tm.mk k3 n3 m3 b3 v3 ts3]) (.slice (some ⟨g,o,none⟩) 2 c1) (N9+1+1) H Bx (Tm.mk k2 n2 m2 b2 v2 ts2) (.slice A2 L2 c2) (Tm.mk k3 n3 m3 b3 v3 ts3) (.slice A3 L3 c3) z∧NumAt z u2.heap.size N (N9+1+1)∧TBox z u4.heap.size (varT N9) (.slice none 0 0)∧TBox z (u4.heap.size+1) (varT (N9+1)) (.slice none 0 0)∧N<u4.heap.size) from fun z e=>by
        rw [←e]
        have hb1:Below u4.heap.size u4 (u4.alloc (.cells #[.int .i64 1,.string ⟨#[]⟩,.string ⟨#[]⟩,.int .u64 0,.int .i64 N9,.slice none 0 0] 25)):=(Below.refl _ _).alloc (Nat.le_refl _) _
        have hs:(u4.alloc (.cells #[.int .i64 1,.string ⟨#[]⟩,.string ⟨#[]⟩,.int .u64 0,.int .i64 N9,.slice none 0 0] 25)).heap.size=u4.heap.size+1:=by simp
        have hb2:Below (u4.alloc (.cells #[.int .i64 1,.string ⟨#[]⟩,.string ⟨#[]⟩,.int .u64 0,.int .i64 N9,.slice none 0 0] 25)).heap.size (u4.alloc (.cells #[.int .i64 1,.string ⟨#[]⟩,.string ⟨#[]⟩,.int .u64 0,.int .i64 N9,.slice none 0 0] 25)) ((u4.alloc (.cells #[.int .i64 1,.string ⟨#[]⟩,.string ⟨#[]⟩,.int .u64 0,.int .i64 N9,.slice none 0 0] 25)).alloc (.cells #[.int .i64 1,.string ⟨#[]⟩,.string ⟨#[]⟩,.int .u64 0,.int .i64 (N9+1),.slice none 0 0] 25)):=(Below.refl _ _).alloc (Nat.le_refl _) _
        have hb:=hb1.trans (hb2.mono (by omega))
        have hF1:TBox (u4.alloc (.cells #[.int .i64 1,.string ⟨#[]⟩,.string ⟨#[]⟩,.int .u64 0,.int .i64 N9,.slice none 0 0] 25)) u4.heap.size (varT N9) (.slice none 0 0):=heap_alloc_new u4 _
        have hF2:TBox ((u4.alloc (.cells #[.int .i64 1,.string ⟨#[]⟩,.string ⟨#[]⟩,.int .u64 0,.int .i64 N9,.slice none 0 0] 25)).alloc (.cells #[.int .i64 1,.string ⟨#[]⟩,.string ⟨#[]⟩,.int .u64 0,.int .i64 (N9+1),.slice none 0 0] 25)) (u4.alloc (.cells #[.int .i64 1,.string ⟨#[]⟩,.string ⟨#[]⟩,.int .u64 0,.int .i64 N9,.slice none 0 0] 25)).heap.size (varT (N9+1)) (.slice none 0 0):=heap_alloc_new _ _
        rw [hs] at hF2
        exact ⟨HR5.out.below hb,HN3.out.below hb,hF1.below hb2,hF2,HR5.out.rs.nlt⟩)
       have HGG5:=Lib.hid (show ∀ z,((u4.alloc (.cells #[.int .i64 1,.string ⟨#[]⟩,.string ⟨#[]⟩,.int .u64 0,.int .i64 N9,.slice none 0 0] 25)).alloc (.cells #[.int .i64 1,.string ⟨#[]⟩,.string ⟨#[]⟩,.int .u64 0,.int .i64 (N9+1),.slice none 0 0] 25))=z→u2.grownBy z (some N) from fun z e=>by
        rw [←e]
        have hb1:Below u4.heap.size u4 (u4.alloc (.cells #[.int .i64 1,.string ⟨#[]⟩,.string ⟨#[]⟩,.int .u64 0,.int .i64 N9,.slice none 0 0] 25)):=(Below.refl _ _).alloc (Nat.le_refl _) _
        have hb2:Below (u4.alloc (.cells #[.int .i64 1,.string ⟨#[]⟩,.string ⟨#[]⟩,.int .u64 0,.int .i64 N9,.slice none 0 0] 25)).heap.size (u4.alloc (.cells #[.int .i64 1,.string ⟨#[]⟩,.string ⟨#[]⟩,.int .u64 0,.int .i64 N9,.slice none 0 0] 25)) ((u4.alloc (.cells #[.int .i64 1,.string ⟨#[]⟩,.string ⟨#[]⟩,.int .u64 0,.int .i64 N9,.slice none 0 0] 25)).alloc (.cells #[.int .i64 1,.string ⟨#[]⟩,.string ⟨#[]⟩,.int .u64 0,.int .i64 (N9+1),.slice none 0 0] 25)):=(Below.refl _ _).alloc (Nat.le_refl _) _
        exact grown_trans HGF.out (grown_trans (grown_below hb1) (grown_below hb2)))
       clear HR5 HN3 HGF
       generalize ((u4.alloc (.cells #[.int .i64 1,.string ⟨#[]⟩,.string ⟨#[]⟩,.int .u64 0,.int .i64 N9,.slice none 0 0] 25)).alloc (.cells #[.int .i64 1,.string ⟨#[]⟩,.string ⟨#[]⟩,.int .u64 0,.int .i64 (N9+1),.slice none 0 0] 25))=u5 at *
       have HGF:=Lib.hid (HGG5.out _ rfl)
       clear HGG5
       replace HV5:=Lib.hid (HV5.out _ rfl)
       generalize u4.heap.size=F at *
       obtain ⟨Q,hQ⟩:∃ Q,u2.heap.size=Q:=⟨_,rfl⟩
       rw [hQ] at HV5 ⊢
       clear hQ
       have HP5:=Lib.hid (show ∀ b,b<w.heap.size→b<u5.heap.size from fun b hb=>Nat.lt_of_lt_of_le hb HV5.out.1.rs.bel.size)
       obtain ⟨x0,x1,x2,x3,x4,x5⟩:=HV5.out.1.bh.cells HL2.out.1 HL2.out.2.1
       obtain ⟨q0,q1,q2,q3,q4,q5⟩:=HV5.out.2.2.1.cells (nb:=⟨#[]⟩) (mb:=⟨#[]⟩) rfl rfl
       obtain ⟨r0,r1,r2,r3,r4,r5⟩:=HV5.out.2.2.2.1.cells (nb:=⟨#[]⟩) (mb:=⟨#[]⟩) rfl rfl
       have hvr1 : -9223372036854775808≤N9∧N9≤9223372036854775807:=by omega
       have hvr2 : -9223372036854775808≤N9+1∧N9+1≤9223372036854775807:=by omega
       have HVR:=Lib.hid (And.intro hvr1 hvr2)
       clear hvr1 hvr2
       by_cases h62:62<L2
       ·have hRE:=HRT.out
        rw [tail_big (pu:=false) (n:=N9) (h:=(Tm.mk k2 n2 m2 b2 v2 ts2)) (p:=(Tm.mk k2 n2 m2 b2 v2 ts2).as.getD 1 zeroT) (y:=(Tm.mk k3 n3 m3 b3 v3 ts3)) HK.out.1 HK.out.2 (by simp) (by show 62<ts2.length;rw [HL2.out.2.2.1];exact h62)] at hRE
        subst hRE
        have HPu:=Lib.hid (put_big (P:=fun b=>b<w.heap.size) HV5.out.1.kh (var_at u5 _ HVR.out.1) (var_at u5 _ HVR.out.2) HP5.out (by show 62<ts2.length;rw [HL2.out.2.2.1];exact h62))
        rw [valT_mk HL2.out.1 HL2.out.2.1,show valT (varT N9) (.slice none 0 0) = .agg #[.int .i64 1,.string ⟨#[]⟩,.string ⟨#[]⟩,.int .u64 0,.int .i64 N9,.slice none 0 0] from rfl,show valT (varT (N9+1)) (.slice none 0 0) = .agg #[.int .i64 1,.string ⟨#[]⟩,.string ⟨#[]⟩,.int .u64 0,.int .i64 (N9+1),.slice none 0 0] from rfl] at HPu
        go_wp2_with (go_at_call 36;(with_reducible refine HPu.out.mono ?_);rintro e v4w ⟨⟨bb,rfl,hball⟩,hb4⟩;have HSD:=Lib.hid (HV5.out.1.rs.below hb4);have HBL:=Lib.hid hball;clear hball hb4)
        have hball:=HBL.out
        have hbx:=HSD.out.r.far (p:=⟨w.heap.size+1+1,0,none⟩) (by show w.heap.size+1≠w.heap.size+1+1;omega) (.iface 82 (.pointer (some ⟨bb,0,none⟩)))
        have hE2:=one_setCell (u:=.iface 82 (.pointer (some ⟨bb,0,none⟩))) HSD.out.e
        have hbl:=BallAt.caught hball HSD.out.e (.iface 82 (.pointer (some ⟨bb,0,none⟩)))
        have hbw:Below w.heap.size w (v4w.setCell ⟨w.heap.size+1+1,0,none⟩ (.iface 82 (.pointer (some ⟨bb,0,none⟩)))):=HSD.out.bel.setCell (by show w.heap.size≤w.heap.size+1+1;omega) _
        change Leaves _ _ _ _ _ (.panicking _) _
        refine leaves_cons (f:=29) (args:=#[.pointer (some ⟨w.heap.size+1+1,0,none⟩)]) (by simp) (by simp [go_sem]) ?_
        refine (caught_throws (w.heap.size+1+1) bb [] v4w (cell_of_one HSD.out.e) (free_of_one HSD.out.e)).mono ?_
        rintro e u' w'' ⟨rfl,rfl,rfl⟩
        obtain ⟨r0,r1,r2,r3,r4,r5⟩:=hbx.cells (nb:=⟨#[]⟩) (mb:=⟨#[]⟩) rfl rfl
        have cE2:=cell_of_one hE2
        simp only [settle,Leaves,List.dropWhile]
        first
         | exact ⟨.tuple #[zeroTV,.iface 82 (.pointer (some ⟨bb,0,none⟩))],by simp [results,Tryd.results9,go_sem,r0,r1,r2,r3,r4,r5,cE2,zeroTV],.inr ⟨by first | trivial | rfl,RuleR.mkBad hbw rfl hbl⟩⟩
         | exact ⟨.tuple #[zeroTV,.iface 82 (.pointer (some ⟨bb,0,none⟩))],by simp [results,Tryd.results9,go_sem,r0,r1,r2,r3,r4,r5,cE2,zeroTV],RuleR.mkBad hbw rfl hbl⟩
       ·have HPu:=Lib.hid (put_fitL (P:=fun b=>b<w.heap.size) HL2.out.1 HL2.out.2.1 HL2.out.2.2.1 HV5.out.1.kh (var_at u5 _ HVR.out.1) (var_at u5 _ HVR.out.2) HP5.out (by omega))
        rw [show valT (varT N9) (.slice none 0 0) = .agg #[.int .i64 1,.string ⟨#[]⟩,.string ⟨#[]⟩,.int .u64 0,.int .i64 N9,.slice none 0 0] from rfl,show valT (varT (N9+1)) (.slice none 0 0) = .agg #[.int .i64 1,.string ⟨#[]⟩,.string ⟨#[]⟩,.int .u64 0,.int .i64 (N9+1),.slice none 0 0] from rfl] at HPu
        have H62:=Lib.hid h62
        clear h62
        go_upto_region 36 with (go_at_call 36;(with_reducible refine HPu.out.mono ?_);rintro e u6 ⟨A9,c9,rfl,ht,hb⟩;have HZ6:=Lib.hid (And.intro ht hb);clear ht hb)
        have HV7:=Lib.hid (show ∀ z,(u6.alloc (.cells #[.int .i64 5,.string nb2,.string ⟨#[]⟩,.int .u64 0,.int .i64 0,.slice A9 (L2+2) c9] 25))=z→∀ Z,Z=u6.heap.size→(RT w N (Tm.mk 5 sRule m1 b1 v1 [Tm.mk k2 n2 m2 b2 v2 ts2,Tm.mk k3 n3 m3 b3 v3 ts3]) (.slice (some ⟨g,o,none⟩) 2 c1) (N9+1+1) H Bx (Tm.mk k2 n2 m2 b2 v2 ts2) (.slice A2 L2 c2) (Tm.mk k3 n3 m3 b3 v3 ts3) (.slice A3 L3 c3) z∧NumAt z Q N (N9+1+1)∧TBox z F (varT N9) (.slice none 0 0)∧TBox z (F+1) (varT (N9+1)) (.slice none 0 0)∧N<F∧TBox z Z (cmpT n2 (ts2 ++ [varT N9,varT (N9+1)])) (.slice A9 (L2+2) c9)∧N<Z∧TAtP z (fun b=>b<w.heap.size∨(N<b∧b<z.heap.size)) (cmpT n2 (ts2 ++ [varT N9,varT (N9+1)])) (.slice A9 (L2+2) c9)) from fun z e Z eZ=>by
         rw [←e]
         have hb1:Below u6.heap.size u6 (u6.alloc (.cells #[.int .i64 5,.string nb2,.string ⟨#[]⟩,.int .u64 0,.int .i64 0,.slice A9 (L2+2) c9] 25)):=(Below.refl _ _).alloc (Nat.le_refl _) _
         have hz:=HZ6.out.2.size
         have hb:=HZ6.out.2.trans (hb1.mono hz)
         have hsz:(u6.alloc (.cells #[.int .i64 5,.string nb2,.string ⟨#[]⟩,.int .u64 0,.int .i64 0,.slice A9 (L2+2) c9] 25)).heap.size=u6.heap.size+1:=by simp
         have hF1:TBox (u6.alloc (.cells #[.int .i64 5,.string nb2,.string ⟨#[]⟩,.int .u64 0,.int .i64 0,.slice A9 (L2+2) c9] 25)) u6.heap.size (cmpT n2 (ts2 ++ [varT N9,varT (N9+1)])) (.slice A9 (L2+2) c9):=TBox.new u6 (ts:=ts2 ++ [varT N9,varT (N9+1)]) (m:=[]) HL2.out.1 rfl
         have hnl:=HV5.out.1.rs.nlt
         subst eZ
         refine ⟨HV5.out.1.below hb,HV5.out.2.1.below hb,HV5.out.2.2.1.below hb,HV5.out.2.2.2.1.below hb,HV5.out.2.2.2.2,hF1,by omega,?_⟩
         refine TAtP.keep _ HZ6.out.1 (fun b hb=>?_)
         have h9:=Grow.lt HP5.out hz b hb
         refine ⟨?_,hb1.block b h9⟩
         rcases hb with hb | hb
         ·exact .inl hb
         ·exact .inr ⟨by omega,by omega⟩)
        have HGG7:=Lib.hid (show ∀ z,(u6.alloc (.cells #[.int .i64 5,.string nb2,.string ⟨#[]⟩,.int .u64 0,.int .i64 0,.slice A9 (L2+2) c9] 25))=z→u2.grownBy z (some N) from fun z e=>by
         rw [←e]
         have hb1:Below u6.heap.size u6 (u6.alloc (.cells #[.int .i64 5,.string nb2,.string ⟨#[]⟩,.int .u64 0,.int .i64 0,.slice A9 (L2+2) c9] 25)):=(Below.refl _ _).alloc (Nat.le_refl _) _
         exact grown_trans HGF.out (grown_trans (grown_below HZ6.out.2) (grown_below hb1)))
        clear HGF
        generalize (u6.alloc (.cells #[.int .i64 5,.string nb2,.string ⟨#[]⟩,.int .u64 0,.int .i64 0,.slice A9 (L2+2) c9] 25))=u7 at *
        have HGF:=Lib.hid (HGG7.out _ rfl)
        clear HGG7
        obtain ⟨Z,hZ⟩:∃ Z,u6.heap.size=Z:=⟨_,rfl⟩
        replace HV7:=Lib.hid (HV7.out _ rfl Z hZ.symm)
        rw [hZ]
        clear hZ HZ6 HPu HV5 HP5 x0 x1 x2 x3 x4 x5 q0 q1 q2 q3 q4 q5 r0 r1 r2 r3 r4 r5
        rw [show (N9+1+1:Int)=N9+2 by omega] at HV7
        have HSS:=Lib.hid (show ∀ z,u7.grownBy z (some N)→((z.cell? ⟨Z,0,none⟩=some (.int .i64 5)∧z.cell? ⟨Z,1,none⟩=some (.string nb2)∧z.cell? ⟨Z,2,none⟩=some (.string ⟨#[]⟩)∧z.cell? ⟨Z,3,none⟩=some (.int .u64 0)∧z.cell? ⟨Z,4,none⟩=some (.int .i64 0)∧z.cell? ⟨Z,5,none⟩=some (.slice A9 (L2+2) c9))∧(z.cell? ⟨Bx,0,none⟩=some (.int .i64 k3)∧z.cell? ⟨Bx,1,none⟩=some (.string nb3)∧z.cell? ⟨Bx,2,none⟩=some (.string mb3)∧z.cell? ⟨Bx,3,none⟩=some (.int .u64 b3)∧z.cell? ⟨Bx,4,none⟩=some (.int .i64 v3)∧z.cell? ⟨Bx,5,none⟩=some (.slice A3 L3 c3))∧(z.cell? ⟨F,0,none⟩=some (.int .i64 1)∧z.cell? ⟨F,1,none⟩=some (.string ⟨#[]⟩)∧z.cell? ⟨F,2,none⟩=some (.string ⟨#[]⟩)∧z.cell? ⟨F,3,none⟩=some (.int .u64 0)∧z.cell? ⟨F,4,none⟩=some (.int .i64 N9)∧z.cell? ⟨F,5,none⟩=some (.slice none 0 0))∧(z.cell? ⟨(F+1),0,none⟩=some (.int .i64 1)∧z.cell? ⟨(F+1),1,none⟩=some (.string ⟨#[]⟩)∧z.cell? ⟨(F+1),2,none⟩=some (.string ⟨#[]⟩)∧z.cell? ⟨(F+1),3,none⟩=some (.int .u64 0)∧z.cell? ⟨(F+1),4,none⟩=some (.int .i64 (N9+1))∧z.cell? ⟨(F+1),5,none⟩=some (.slice none 0 0))) from fun z hg=>by
         have h1:=HV7.out.1.lb
         have h2:=HV7.out.2.2.2.2.1
         have h3:=HV7.out.2.2.2.2.2.2.1
         exact ⟨(HV7.out.2.2.2.2.2.1.gro hg (by omega)).cells HL2.out.1 rfl,(HV7.out.1.bb.gro hg (by omega)).cells HL3.out.1 HL3.out.2.1,(HV7.out.2.2.1.gro hg (by omega)).cells rfl rfl,(HV7.out.2.2.2.1.gro hg (by omega)).cells rfl rfl⟩)
        have HNL:=Lib.hid (show w.heap.size+1+1<N from HV7.out.1.rs.lt)
        have HBG:=Lib.hid (show w.heap.size+1+1<u7.heap.size from Nat.lt_trans HV7.out.1.rs.lt HV7.out.1.rs.nlt)
        refine wp_region_wait (fun z=>((z.cell? ⟨Z,0,none⟩=some (.int .i64 5)∧z.cell? ⟨Z,1,none⟩=some (.string nb2)∧z.cell? ⟨Z,2,none⟩=some (.string ⟨#[]⟩)∧z.cell? ⟨Z,3,none⟩=some (.int .u64 0)∧z.cell? ⟨Z,4,none⟩=some (.int .i64 0)∧z.cell? ⟨Z,5,none⟩=some (.slice A9 (L2+2) c9))∧(z.cell? ⟨Bx,0,none⟩=some (.int .i64 k3)∧z.cell? ⟨Bx,1,none⟩=some (.string nb3)∧z.cell? ⟨Bx,2,none⟩=some (.string mb3)∧z.cell? ⟨Bx,3,none⟩=some (.int .u64 b3)∧z.cell? ⟨Bx,4,none⟩=some (.int .i64 v3)∧z.cell? ⟨Bx,5,none⟩=some (.slice A3 L3 c3))∧(z.cell? ⟨F,0,none⟩=some (.int .i64 1)∧z.cell? ⟨F,1,none⟩=some (.string ⟨#[]⟩)∧z.cell? ⟨F,2,none⟩=some (.string ⟨#[]⟩)∧z.cell? ⟨F,3,none⟩=some (.int .u64 0)∧z.cell? ⟨F,4,none⟩=some (.int .i64 N9)∧z.cell? ⟨F,5,none⟩=some (.slice none 0 0))∧(z.cell? ⟨(F+1),0,none⟩=some (.int .i64 1)∧z.cell? ⟨(F+1),1,none⟩=some (.string ⟨#[]⟩)∧z.cell? ⟨(F+1),2,none⟩=some (.string ⟨#[]⟩)∧z.cell? ⟨(F+1),3,none⟩=some (.int .u64 0)∧z.cell? ⟨(F+1),4,none⟩=some (.int .i64 (N9+1))∧z.cell? ⟨(F+1),5,none⟩=some (.slice none 0 0)))) 9 (by kernel_rfl) ?_
        change wpAnyW _ _ _ _ _ _ _ _ _ u7.drew
        have KK:=Lib.hid (below_drew' u7)
        generalize u7.drew=v0 at *
        have KG:=Lib.hid (grown_below (r:=some N) KK.out)
        refine wpAnyW_take 9 (i:=0) (v:=.agg #[.int .i64 5,.string nb2,.string ⟨#[]⟩,.int .u64 0,.int .i64 0,.slice A9 (L2+2) c9]) rfl (by kernel_rfl) (by kernel_rfl) (by kernel_rfl) (by kernel_rfl) (fun c a w h=>hqRule (by omega) c a w h) (Or.inl ⟨by rfl,?_⟩) (HSS.out _ KG.out) ?_
        ·intro w5 hSw
         obtain ⟨⟨p0,p1,p2,p3,p4,p5⟩,⟨q0,q1,q2,q3,q4,q5⟩,⟨r0,r1,r2,r3,r4,r5⟩,⟨s0,s1,s2,s3,s4,s5⟩⟩:=hSw
         go_simp
        refine wpAnyW_take 9 (i:=1) (v:=.agg #[.int .i64 k3,.string nb3,.string mb3,.int .u64 b3,.int .i64 v3,.slice A3 L3 c3]) rfl (by kernel_rfl) (by kernel_rfl) (by kernel_rfl) (by kernel_rfl) (fun c a w h=>hqRule (by omega) c a w h) (Or.inl ⟨by rfl,?_⟩) (HSS.out _ KG.out) ?_
        ·intro w5 hSw
         obtain ⟨⟨p0,p1,p2,p3,p4,p5⟩,⟨q0,q1,q2,q3,q4,q5⟩,⟨r0,r1,r2,r3,r4,r5⟩,⟨s0,s1,s2,s3,s4,s5⟩⟩:=hSw
         go_simp
        refine wpAnyW_take 9 (i:=2) (v:=.agg #[.int .i64 1,.string ⟨#[]⟩,.string ⟨#[]⟩,.int .u64 0,.int .i64 N9,.slice none 0 0]) rfl (by kernel_rfl) (by kernel_rfl) (by kernel_rfl) (by kernel_rfl) (fun c a w h=>hqRule (by omega) c a w h) (Or.inl ⟨by rfl,?_⟩) (HSS.out _ KG.out) ?_
        ·intro w5 hSw
         obtain ⟨⟨p0,p1,p2,p3,p4,p5⟩,⟨q0,q1,q2,q3,q4,q5⟩,⟨r0,r1,r2,r3,r4,r5⟩,⟨s0,s1,s2,s3,s4,s5⟩⟩:=hSw
         go_simp
        refine wpAnyW_take 9 (i:=3) (v:=.agg #[.int .i64 1,.string ⟨#[]⟩,.string ⟨#[]⟩,.int .u64 0,.int .i64 (N9+1),.slice none 0 0]) rfl (by kernel_rfl) (by kernel_rfl) (by kernel_rfl) (by kernel_rfl) (fun c a w h=>hqRule (by omega) c a w h) (Or.inl ⟨by rfl,?_⟩) (HSS.out _ KG.out) ?_
        ·intro w5 hSw
         obtain ⟨⟨p0,p1,p2,p3,p4,p5⟩,⟨q0,q1,q2,q3,q4,q5⟩,⟨r0,r1,r2,r3,r4,r5⟩,⟨s0,s1,s2,s3,s4,s5⟩⟩:=hSw
         go_simp
        refine wpAnyW_take 9 (i:=4) (v:=(.func (.func 60) #[] #[.pointer (some ⟨Q,0,none⟩)])) rfl (by kernel_rfl) (by kernel_rfl) (by kernel_rfl) (by kernel_rfl) (fun c a w h=>hqRule (by omega) c a w h) (Or.inl ⟨by rfl,?_⟩) (HSS.out _ KG.out) ?_
        ·intro w5 hSw
         obtain ⟨⟨p0,p1,p2,p3,p4,p5⟩,⟨q0,q1,q2,q3,q4,q5⟩,⟨r0,r1,r2,r3,r4,r5⟩,⟨s0,s1,s2,s3,s4,s5⟩⟩:=hSw
         go_simp
        have HCy:=Lib.hid (show checkP (Tm.mk k3 n3 m3 b3 v3 ts3)=0 from check_arg HCk.out (by show _ ∈ [_,_];simp))
        have HCx:=Lib.hid (show checkP (Tm.mk k2 n2 m2 b2 v2 ts2)=0 from check_arg HCk.out (by show _ ∈ [_,_];simp))
        obtain ⟨RM,hRM⟩:∃ r,mkB (Tm.mk k3 n3 m3 b3 v3 ts3) (varT N9) (varT (N9+1)) (N9+2)=r:=⟨_,rfl⟩
        have HRE:=Lib.hid ((tail_np (n:=N9) (h:=(Tm.mk k2 n2 m2 b2 v2 ts2)) (p:=(Tm.mk k2 n2 m2 b2 v2 ts2).as.getD 1 zeroT) (y:=(Tm.mk k3 n3 m3 b3 v3 ts3)) HK.out.1 HK.out.2 (by show ¬62<ts2.length;rw [HL2.out.2.2.1];exact H62.out)).symm.trans HRT.out)
        have HBo:=Lib.hid (body_any w0 (Tm.mk k3 n3 m3 b3 v3 ts3) v0 (fun b=>b<w.heap.size) (varT N9) (varT (N9+1)) (.slice A3 L3 c3) (.slice none 0 0) (.slice none 0 0) Q N (N9+2) (fun b hb=>⟨Nat.lt_of_lt_of_le (Nat.lt_of_lt_of_le hb HV7.out.1.rs.bel.size) KK.out.size,by have:=HNL.out;omega⟩) (TAtP.below HV7.out.1.kb KK.out (fun b hb=>Nat.lt_of_lt_of_le hb HV7.out.1.rs.bel.size)) (var_at v0 _ HVR.out.1) (var_at v0 _ HVR.out.2) (HV7.out.2.1.below KK.out) (by omega) (by have:=(check_iff.1 HCy.out).1;omega) HCy.out (HU.out.below (HV7.out.1.rs.bel.trans (KK.out.mono HV7.out.1.rs.bel.size))) (by have:=HU.out.bel.size;have:=HNL.out;omega))
        have HRM:=Lib.hid hRM
        rw [hRM] at HRE
        rw [hRM,valT_mk HL3.out.1 HL3.out.2.1,show valT (varT N9) (.slice none 0 0) = .agg #[.int .i64 1,.string ⟨#[]⟩,.string ⟨#[]⟩,.int .u64 0,.int .i64 N9,.slice none 0 0] from rfl,show valT (varT (N9+1)) (.slice none 0 0) = .agg #[.int .i64 1,.string ⟨#[]⟩,.string ⟨#[]⟩,.int .u64 0,.int .i64 (N9+1),.slice none 0 0] from rfl,show freshV Q=(.func (.func 60) #[] #[.pointer (some ⟨Q,0,none⟩)]) from rfl] at HBo
        clear hRM
        refine w1 5 fun K hK=>?_
        go_simp
        cases RM with
        | error bt=>
         (with_reducible refine HBo.out.mono ?_)
         rintro e v4w hp
         obtain ⟨hg,bb,rfl,hball⟩:=hp.bad
         have hRE:=HRE.out
         change Except.error bt=RR at hRE
         subst hRE
         have HSD:=Lib.hid (HV7.out.1.rs.rd.go (grown_trans KG.out hg) HNL.out)
         have hbx:=HSD.out.r.far (p:=⟨w.heap.size+1+1,0,none⟩) (by show w.heap.size+1≠w.heap.size+1+1;omega) (.iface 82 (.pointer (some ⟨bb,0,none⟩)))
         have hE2:=one_setCell (u:=.iface 82 (.pointer (some ⟨bb,0,none⟩))) HSD.out.e
         have hbl:=BallAt.caught hball HSD.out.e (.iface 82 (.pointer (some ⟨bb,0,none⟩)))
         have hbw:Below w.heap.size w (v4w.setCell ⟨w.heap.size+1+1,0,none⟩ (.iface 82 (.pointer (some ⟨bb,0,none⟩)))):=HSD.out.bel.setCell (by show w.heap.size≤w.heap.size+1+1;omega) _
         change Leaves _ _ _ _ _ (.panicking _) _
         refine leaves_cons (f:=29) (args:=#[.pointer (some ⟨w.heap.size+1+1,0,none⟩)]) (by simp) (by simp [go_sem]) ?_
         refine (caught_throws (w.heap.size+1+1) bb [] v4w (cell_of_one HSD.out.e) (free_of_one HSD.out.e)).mono ?_
         rintro e u' w'' ⟨rfl,rfl,rfl⟩
         obtain ⟨r0,r1,r2,r3,r4,r5⟩:=hbx.cells (nb:=⟨#[]⟩) (mb:=⟨#[]⟩) rfl rfl
         have cE2:=cell_of_one hE2
         simp only [settle,Leaves,List.dropWhile]
         first
          | exact ⟨.tuple #[zeroTV,.iface 82 (.pointer (some ⟨bb,0,none⟩))],by simp [results,Tryd.results9,go_sem,r0,r1,r2,r3,r4,r5,cE2,zeroTV],.inr ⟨by first | trivial | rfl,RuleR.mkBad hbw rfl hbl⟩⟩
          | exact ⟨.tuple #[zeroTV,.iface 82 (.pointer (some ⟨bb,0,none⟩))],by simp [results,Tryd.results9,go_sem,r0,r1,r2,r3,r4,r5,cE2,zeroTV],RuleR.mkBad hbw rfl hbl⟩
        | ok p=>
         obtain ⟨a,n'⟩:=p
         obtain ⟨k6,n6,m6,b6,v6,ts6⟩:=a
         obtain ⟨nb6,hnb6⟩:∃ nb:ByteArray,(⟨n6.toArray⟩:ByteArray)=nb:=⟨_,rfl⟩
         obtain ⟨mb6,hmb6⟩:∃ mb:ByteArray,(⟨m6.toArray⟩:ByteArray)=mb:=⟨_,rfl⟩
         obtain ⟨L6,hL6⟩:∃ L,ts6.length=L:=⟨_,rfl⟩
         have HL6:=Lib.hid (And.intro hnb6 (And.intro hmb6 hL6))
         clear hnb6 hmb6 hL6
         have HBr:=Lib.hid (show Bare (cmpT sNeck [(cmpT n2 (ts2 ++ [varT N9,varT (N9+1)])),(Tm.mk k6 n6 m6 b6 v6 ts6)]) from bare_cmp (fun x hx=>by
          simp at hx
          rcases hx with rfl | rfl
          ·exact bare_head HCx.out
          ·exact bare_mkB HRM.out (by omega) HCy.out (errs_var (by decide) (by omega)) (errs_var (by decide) (by omega))))
         replace HRE:=Lib.hid (show whole (cmpT sNeck [(cmpT n2 (ts2 ++ [varT N9,varT (N9+1)])),(Tm.mk k6 n6 m6 b6 v6 ts6)])=RR from HRE.out)
         (with_reducible refine HBo.out.mono ?_)
         rintro e u8 hp
         obtain ⟨A6,c6,rfl,hta,hnu,hg⟩:=hp.letters HL6.out.1 HL6.out.2.1 HL6.out.2.2
         have hgU:=grown_trans KG.out hg
         have hnn:=HV7.out.1.rs.bel.size
         have HT8:=Lib.hid (show TAtP u8 (fun b=>b<u8.heap.size) (cmpT n2 (ts2 ++ [varT N9,varT (N9+1)])) (.slice A9 (L2+2) c9)∧TAtP u8 (fun b=>b<u8.heap.size) (Tm.mk k6 n6 m6 b6 v6 ts6) (.slice A6 L6 c6) from
          ⟨TAtP.keep _ HV7.out.2.2.2.2.2.2.2 (fun b hb=>by
           have h1:=HNL.out
           have h2:=HBG.out
           have h3:=hgU.size
           have hbu:b<u7.heap.size∧b≠N:=by rcases hb with hb | hb <;> omega
           exact ⟨by omega,hgU.block b hbu.1 (fun e=>by injection e with e;omega)⟩),
           hta.wide (fun b hb=>Grow.lt (fun b hb=>Nat.lt_of_lt_of_le (Nat.lt_of_lt_of_le hb HV7.out.1.rs.bel.size) KK.out.size) hg.size b hb)⟩)
         have HD8:=Lib.hid (HV7.out.1.rs.rd.go hgU HNL.out)
         have HG8:=Lib.hid hgU
         clear hta hnu hg hp hgU hnn
         refine hK.out _ _ (fun _=>HSS.out _ HG8.out) ?_
         refine w1 6 fun K hK=>?_
         go_simp
         have hbA:Below u8.heap.size u8 (u8.alloc (.cells #[.int .i64 5,.string nb2,.string ⟨#[]⟩,.int .u64 0,.int .i64 0,.slice A9 (L2+2) c9,.int .i64 k6,.string nb6,.string mb6,.int .u64 b6,.int .i64 v6,.slice A6 L6 c6] 25)):=(Below.refl _ _).alloc (Nat.le_refl _) _
         have hbu:=built (w:=u8) (P:=fun b=>b<u8.heap.size) (s:=sNeck) (n:=2) (cs:=#[.int .i64 5,.string nb2,.string ⟨#[]⟩,.int .u64 0,.int .i64 0,.slice A9 (L2+2) c9,.int .i64 k6,.string nb6,.string mb6,.int .u64 b6,.int .i64 v6,.slice A6 L6 c6]) (ps:=[((cmpT n2 (ts2 ++ [varT N9,varT (N9+1)])),Value.slice A9 (L2+2) c9),((Tm.mk k6 n6 m6 b6 v6 ts6),Value.slice A6 L6 c6)]) (by rw [←HL2.out.1,←HL6.out.1,←HL6.out.2.1];rfl) rfl (mem2 HT8.out.1 HT8.out.2) (fun b hb=>hb) (by unfold maxArgs;omega) (by decide)
         have HBA:=Lib.hid (And.intro hbA (And.intro hbu (show (u8.alloc (.cells #[.int .i64 5,.string nb2,.string ⟨#[]⟩,.int .u64 0,.int .i64 0,.slice A9 (L2+2) c9,.int .i64 k6,.string nb6,.string mb6,.int .u64 b6,.int .i64 v6,.slice A6 L6 c6] 25)).heap.size=u8.heap.size+1 by simp)))
         clear hbA hbu
         refine hK.out _ _ (fun _=>HSS.out _ (grown_trans HG8.out (grown_below HBA.out.1))) ?_
         generalize u8.alloc (.cells #[.int .i64 5,.string nb2,.string ⟨#[]⟩,.int .u64 0,.int .i64 0,.slice A9 (L2+2) c9,.int .i64 k6,.string nb6,.string mb6,.int .u64 b6,.int .i64 v6,.slice A6 L6 c6] 25)=u9 at *
         generalize hq:u8.heap.size=q at *
         refine w1 7 fun K hK=>?_
         go_simp
         (with_reducible refine (of_any _ _ _ _ _).mono ?_)
         rintro e ua ⟨rfl,hb3⟩
         have HGA:=Lib.hid (grown_trans (grown_trans HG8.out (grown_below (by rw [hq];exact HBA.out.1))) (grown_below hb3))
         have FT:=Lib.hid (show TAt ua ua.heap.size (cmpT sNeck [(cmpT n2 (ts2 ++ [varT N9,varT (N9+1)])),(Tm.mk k6 n6 m6 b6 v6 ts6)]) (.slice (some ⟨q,0,none⟩) 2 2)∧RD w ua∧Bare (cmpT sNeck [(cmpT n2 (ts2 ++ [varT N9,varT (N9+1)])),(Tm.mk k6 n6 m6 b6 v6 ts6)]) from ⟨TAt.any HBA.out.2.1 (fun b hb=>by have:=HBA.out.2.2;rcases hb with hb | hb <;> omega) hb3,HD8.out.go (N:=N) (grown_trans (grown_below (by rw [hq];exact HBA.out.1)) (grown_below hb3)) HNL.out,HBr.out⟩)
         clear hb3
         refine hK.out _ _ (fun _=>HSS.out _ HGA.out) ?_
         replace HBG:=Lib.hid (show w.heap.size+1+1<ua.heap.size from Nat.lt_of_lt_of_le HBG.out HGA.out.size)
         refine w1 8 fun K hK=>?_
         go_simp
         by_cases hz:4000<nodes (cmpT sNeck [(cmpT n2 (ts2 ++ [varT N9,varT (N9+1)])),(Tm.mk k6 n6 m6 b6 v6 ts6)])
         ·have hRE:Except.error nodesT=RR:=by rw [←HRE.out];simp [whole,hz]
          subst hRE
          have hwb:=whole_big FT.out.1 hz
          rw [show valT (cmpT sNeck [(cmpT n2 (ts2 ++ [varT N9,varT (N9+1)])),(Tm.mk k6 n6 m6 b6 v6 ts6)]) (.slice (some ⟨q,0,none⟩) 2 2) = .agg #[.int .i64 5,.string ⟨#[58,45]⟩,.string ⟨#[]⟩,.int .u64 0,.int .i64 0,.slice (some ⟨q,0,none⟩) 2 2] from rfl] at hwb
          (with_reducible refine hwb.mono ?_)
          rintro e v4w ⟨⟨bb,rfl,hball⟩,hb4⟩
          have HSD:=Lib.hid (FT.out.2.1.go (N:=N) (grown_below hb4) HNL.out)
          have hbx:=HSD.out.r.far (p:=⟨w.heap.size+1+1,0,none⟩) (by show w.heap.size+1≠w.heap.size+1+1;omega) (.iface 82 (.pointer (some ⟨bb,0,none⟩)))
          have hE2:=one_setCell (u:=.iface 82 (.pointer (some ⟨bb,0,none⟩))) HSD.out.e
          have hbl:=BallAt.caught hball HSD.out.e (.iface 82 (.pointer (some ⟨bb,0,none⟩)))
          have hbw:Below w.heap.size w (v4w.setCell ⟨w.heap.size+1+1,0,none⟩ (.iface 82 (.pointer (some ⟨bb,0,none⟩)))):=HSD.out.bel.setCell (by show w.heap.size≤w.heap.size+1+1;omega) _
          change Leaves _ _ _ _ _ (.panicking _) _
          refine leaves_cons (f:=29) (args:=#[.pointer (some ⟨w.heap.size+1+1,0,none⟩)]) (by simp) (by simp [go_sem]) ?_
          refine (caught_throws (w.heap.size+1+1) bb [] v4w (cell_of_one HSD.out.e) (free_of_one HSD.out.e)).mono ?_
          rintro e u' w'' ⟨rfl,rfl,rfl⟩
          obtain ⟨r0,r1,r2,r3,r4,r5⟩:=hbx.cells (nb:=⟨#[]⟩) (mb:=⟨#[]⟩) rfl rfl
          have cE2:=cell_of_one hE2
          simp only [settle,Leaves,List.dropWhile]
          first
           | exact ⟨.tuple #[zeroTV,.iface 82 (.pointer (some ⟨bb,0,none⟩))],by simp [results,Tryd.results9,go_sem,r0,r1,r2,r3,r4,r5,cE2,zeroTV],.inr ⟨by first | trivial | rfl,RuleR.mkBad hbw rfl hbl⟩⟩
           | exact ⟨.tuple #[zeroTV,.iface 82 (.pointer (some ⟨bb,0,none⟩))],by simp [results,Tryd.results9,go_sem,r0,r1,r2,r3,r4,r5,cE2,zeroTV],RuleR.mkBad hbw rfl hbl⟩
         ·have hRE:Except.ok (cmpT sNeck [(cmpT n2 (ts2 ++ [varT N9,varT (N9+1)])),(Tm.mk k6 n6 m6 b6 v6 ts6)])=RR:=by rw [←HRE.out];simp [whole,hz]
          subst hRE
          have hwf0:=whole_fit FT.out.1 FT.out.2.2 hz
          rw [show valT (cmpT sNeck [(cmpT n2 (ts2 ++ [varT N9,varT (N9+1)])),(Tm.mk k6 n6 m6 b6 v6 ts6)]) (.slice (some ⟨q,0,none⟩) 2 2) = .agg #[.int .i64 5,.string ⟨#[58,45]⟩,.string ⟨#[]⟩,.int .u64 0,.int .i64 0,.slice (some ⟨q,0,none⟩) 2 2] from rfl] at hwf0
          have hwf:=own_letters (q:=2) (k:=5) (b:=0) (v:=0) (n:=sNeck) (m:=[]) (ts:=((cmpT sNeck [(cmpT n2 (ts2 ++ [varT N9,varT (N9+1)])),(Tm.mk k6 n6 m6 b6 v6 ts6)])).as) (nb:=⟨#[58,45]⟩) (mb:=⟨#[]⟩) rfl rfl rfl hwf0
          clear hz hwf0
          (with_reducible refine hwf.mono ?_)
          rintro e w3 ⟨A0,c0,rfl,ho3,hb3⟩
          have HO3:=Lib.hid (And.intro ho3 (And.intro (FT.out.2.1.go (N:=N) (grown_below hb3) HNL.out) (FT.out.2.1.bel.size)))
          have HG3:=Lib.hid (grown_below (r:=some N) hb3)
          clear ho3 hb3 hwf
          refine hK.out _ _ (fun _=>HSS.out _ (grown_trans HGA.out HG3.out)) ?_
          refine w1 9 fun K hK=>?_
          obtain ⟨a0,a1,a2,a3,a4,a5⟩:=HO3.out.2.1.r.cells rfl rfl
          obtain ⟨e0,e1,e2,e3,e4,e5⟩:=HO3.out.2.1.r.frozens
          go_simp
          refine hK.out _ _ (fun h=>absurd h (by simp)) ?_
          clear a0 a1 a2 a3 a4 a5 e0 e1 e2 e3 e4 e5
          obtain ⟨hbx,hgr⟩:=HO3.out.2.1.r.set6 (k:=5) (b:=0) (v:=0) (n:=sNeck) (m:=[]) (nb:=⟨#[58,45]⟩) (mb:=⟨#[]⟩) ((cmpT sNeck [(cmpT n2 (ts2 ++ [varT N9,varT (N9+1)])),(Tm.mk k6 n6 m6 b6 v6 ts6)])).as (.slice A0 2 c0) rfl rfl
          have H6x:=Lib.hid (show ∀ z,((((((w3.setCell ⟨w.heap.size+1,0,none⟩ (.int .i64 5)).setCell ⟨w.heap.size+1,1,none⟩ (.string ⟨#[58,45]⟩)).setCell ⟨w.heap.size+1,2,none⟩ (.string ⟨#[]⟩)).setCell ⟨w.heap.size+1,3,none⟩ (.int .u64 0)).setCell ⟨w.heap.size+1,4,none⟩ (.int .i64 0)).setCell ⟨w.heap.size+1,5,none⟩ (.slice A0 2 c0))=z→TBox z (w.heap.size+1) (cmpT sNeck [(cmpT n2 (ts2 ++ [varT N9,varT (N9+1)])),(Tm.mk k6 n6 m6 b6 v6 ts6)]) (.slice A0 2 c0)∧w3.grownBy z (some (w.heap.size+1)) from fun z e=>by rw [←e];exact ⟨hbx,hgr⟩)
          clear hbx hgr
          generalize ((((((w3.setCell ⟨w.heap.size+1,0,none⟩ (.int .i64 5)).setCell ⟨w.heap.size+1,1,none⟩ (.string ⟨#[58,45]⟩)).setCell ⟨w.heap.size+1,2,none⟩ (.string ⟨#[]⟩)).setCell ⟨w.heap.size+1,3,none⟩ (.int .u64 0)).setCell ⟨w.heap.size+1,4,none⟩ (.int .i64 0)).setCell ⟨w.heap.size+1,5,none⟩ (.slice A0 2 c0))=w4 at *
          have H4:=Lib.hid (H6x.out _ rfl)
          clear H6x
          have H6:=Lib.hid (show TOwn w4 (cmpT sNeck [(cmpT n2 (ts2 ++ [varT N9,varT (N9+1)])),(Tm.mk k6 n6 m6 b6 v6 ts6)]) (.slice A0 2 c0) ua.heap.size w4.heap.size∧Below w.heap.size w w4∧w4.heap[w.heap.size+1+1]?=some (.cells #[.nilIface] 29 (0,0)) from by
           have h1:=HO3.out.2.2
           have h2:=HBG.out
           exact ⟨(TOwn.keep _ HO3.out.1 (fun b h3 h4=>H4.out.2.block b h4 (fun e=>by injection e with e;omega))).widen H4.out.2.size,HO3.out.2.1.bel.grown H4.out.2 HO3.out.2.1.bel.size (fun j e=>by injection e with e;omega),blk_ne H4.out.2 HO3.out.2.1.e (by omega)⟩)
          refine w1 10 fun K hK=>?_
          have cE:=cell_of_one H6.out.2.2
          have fE:=free_of_one H6.out.2.2
          go_simp
          refine hK.out _ _ (fun h=>absurd h (by simp)) ?_
          refine wpAnyW_done (by kernel_rfl) ?_ _
          clear cE fE
          go_wp2
          have hgg:=HBG.out
          have hbx:=H4.out.1.far (p:=⟨w.heap.size+1+1,0,none⟩) (by show w.heap.size+1≠w.heap.size+1+1;omega) .nilIface
          have hE2:=one_setCell (u:=.nilIface) H6.out.2.2
          have how:TOwn (w4.setCell ⟨w.heap.size+1+1,0,none⟩ .nilIface) (cmpT sNeck [(cmpT n2 (ts2 ++ [varT N9,varT (N9+1)])),(Tm.mk k6 n6 m6 b6 v6 ts6)]) (.slice A0 2 c0) w.heap.size (w4.setCell ⟨w.heap.size+1+1,0,none⟩ .nilIface).heap.size:=((TOwn.keep _ H6.out.1 (fun b h3 h4=>Below.heap_setCell _ _ _ b (by show b≠w.heap.size+1+1;omega))).widen (by simp [World.setCell])).lower (by omega)
          have hbw:Below w.heap.size w (w4.setCell ⟨w.heap.size+1+1,0,none⟩ .nilIface):=H6.out.2.1.setCell (by show w.heap.size≤w.heap.size+1+1;omega) _
          generalize w4.setCell ⟨w.heap.size+1+1,0,none⟩ .nilIface=w5 at *
          change Leaves _ _ _ _ _ .returning _
          refine leaves_cons (f:=29) (args:=#[.pointer (some ⟨w.heap.size+1+1,0,none⟩)]) (by simp) (by simp [go_sem]) ?_
          refine (caught_idle (w.heap.size+1+1) w5).mono ?_
          rintro e u' w'' ⟨rfl,rfl,rfl⟩
          obtain ⟨r0,r1,r2,r3,r4,r5⟩:=hbx.cells (nb:=⟨#[58,45]⟩) (mb:=⟨#[]⟩) rfl rfl
          have cE2:=cell_of_one hE2
          simp only [settle,Leaves]
          first
           | exact ⟨.tuple #[.agg #[.int .i64 5,.string ⟨#[58,45]⟩,.string ⟨#[]⟩,.int .u64 0,.int .i64 0,.slice A0 2 c0],.nilIface],by simp [results,Tryd.results9,go_sem,r0,r1,r2,r3,r4,r5,cE2],.inr ⟨by first | trivial | rfl,RuleR.mkOk hbw rfl how⟩⟩
           | exact ⟨.tuple #[.agg #[.int .i64 5,.string ⟨#[58,45]⟩,.string ⟨#[]⟩,.int .u64 0,.int .i64 0,.slice A0 2 c0],.nilIface],by simp [results,Tryd.results9,go_sem,r0,r1,r2,r3,r4,r5,cE2],RuleR.mkOk hbw rfl how⟩
    | true=>
     exact absurd (HNPa.out.symm.trans HC1.out) (by simp)
end Go.Proofs.YtgfeainpeplphaaDoor
