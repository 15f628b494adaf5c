import Derived.Deep.Upon
import Derived.OneCell
import Derived.Laws.EntriesVeiled
import Derived.Test.YtgfeainpeplphaaDoorV4
import Derived.Test.YtgfeainpeplphaaDoorV0
set_option maxRecDepth 1000000
set_option maxHeartbeats 64000000
set_option linter.unusedVariables false
set_option linter.unusedSimpArgs false
namespace Ht
theorem end_drop {l:List Tm} {e a:Tm} {j:Nat} (ha:l[j]?=some a):endT (l.drop j) e=cmpT sDot [a,endT (l.drop (j+1)) e]:=by
 obtain ⟨hil,e1⟩:=List.getElem?_eq_some_iff.1 ha
 rw [List.drop_eq_getElem_cons hil,e1]
 rfl
end Ht
namespace Go.Proofs.YtgfeainpeplphaaDoor
open Go.RowKit Hb Ht
attribute [local go_sem] Oper.semAt_some
structure EndI (w:World) (P:Nat→Prop) (G:Nat) (cur:Tm) (sl:Value) (wr:World):Prop where
 bel:Below w.heap.size w wr
 t1:TBox wr G cur sl
 t2:TBox wr (G+1) zeroT (.slice none 0 0)
 le:G+1+1≤wr.heap.size
 kid:TAtP wr (fun b=>Grow P w wr b∧b≠G∧b≠G+1) cur sl
theorem EltP.cells {w:World} {P:Nat→Prop} {g o:Nat} {a:Tm} (h:EltP w P g o a):∃ A c k n m b v ts nb mb,a = .mk k n m b v ts∧(⟨n.toArray⟩:ByteArray)=nb∧(⟨m.toArray⟩:ByteArray)=mb∧TAtP w P a (.slice A ts.length c) ∧
  Q7 w g o k nb mb b v (.slice A ts.length c):=by
 obtain ⟨sl,hc,ht⟩:=h
 obtain ⟨A,c,rfl,_⟩:=TAtP.iff.1 ht
 obtain ⟨k,n,m,b,v,ts⟩:=a
 exact ⟨A,c,k,n,m,b,v,ts,_,_,rfl,rfl,rfl,ht,hc 0 (by omega),hc 1 (by omega),hc 2 (by omega),hc 3 (by omega),hc 4 (by omega),hc 5 (by omega)⟩
theorem ending_any {w:World} {P:Nat→Prop} {A:Option Addr} {n c:Nat} {ps:List (Tm × Value)} {t:Tm} {sl:Value} (h:RowP w P A n ps) (he:TAtP w P t sl) (hP:∀ b,P b→b<w.heap.size) (hn:n≤maxArgs) (hc:n≤c) :
  Calls Tryd.prog 39 #[.slice A n c,valT t sl] w fun e w'=>∃ sl',e = .returned (valT (endT (ps.map (·.1)) t) sl')∧TAtP w' (Grow P w w') (endT (ps.map (·.1)) t) sl'∧Below w.heap.size w w':=by
 obtain ⟨T,hT⟩:∃ T,t=T:=⟨_,rfl⟩
 obtain ⟨ts,hts⟩:∃ ts,ps.map (·.1)=ts:=⟨_,rfl⟩
 obtain ⟨k,nl,ml,b,v,us,nb,mb,A1,c1,hT2,rfl,hnb,hmb,hl1,hl2,hl3,hv,hs1,hs2⟩:=he.letters
 rw [hT] at hT2 hv he
 rw [hT,hts,hv]
 obtain ⟨L,hL⟩:∃ L,us.length=L:=⟨_,rfl⟩
 rw [hL] at he hv ⊢
 have HTn:=Qh (show ts.length=n from by rw [←hts,List.length_map,h.1])
 have HH:=Qh (Qa h (Qa hP hts))
 have hnI:(n:Int)≤1759218604400:=by unfold maxArgs at hn;omega
 obtain ⟨W1,hW1⟩:∃ W1,w.alloc (.cells (Q5 k nb mb b v (.slice A1 L c1)) 25)=W1:=⟨_,rfl⟩
 obtain ⟨W2,hW2⟩:∃ W2,W1.alloc (.cells Qz 25)=W2:=⟨_,rfl⟩
 have hb1:Below w.heap.size w W1:=by rw [←hW1];exact Qb
 have s1:W1.heap.size=w.heap.size+1:=by rw [←hW1];simp
 have hb2:Below W1.heap.size W1 W2:=by rw [←hW2];exact Qb
 have s2:W2.heap.size=W1.heap.size+1:=by rw [←hW2];simp
 have hX1:TBox W1 w.heap.size (.mk k nl ml b v us) (.slice A1 L c1):=by rw [←hW1];exact TBox.new w hnb hmb
 have hX2:TBox W2 W1.heap.size zeroT (.slice none 0 0):=by rw [←hW2];exact heap_alloc_new W1 _
 have hX1':=hX1.below hb2
 rw [s1] at hX2
 have hb12:=hb1.trans (hb2.mono (by omega))
 rw [hT2] at he
 have HI0:=Qh (show EndI w P w.heap.size (.mk k nl ml b v us) (.slice A1 L c1) W2 from ⟨hb12,hX1',hX2,by omega,TAtP.keep _ he (fun b hb=>⟨⟨.inl hb,by have:=hP b hb;omega,by have:=hP b hb;omega⟩,hb12.block b (hP b hb)⟩)⟩)
 have HT:=Qh (show endT (ts.drop n) T = .mk k nl ml b v us from by rw [List.drop_of_length_le (by rw [HTn.out];exact Nat.le_refl _),hT2];rfl)
 subst hW1
 subst hW2
 clear hv hX1 hX2 hX1' hb1 hb2 hb12 s1 s2 hT hT2 hs1 hs2 h he hP hts hnb hmb
 go_enter Tryd.func39,Tryd.ntmps39
 go_upto_region 2 with fail
 obtain ⟨G,hG⟩:∃ G,w.heap.size=G:=⟨_,rfl⟩
 have HG:=Qh hG
 rw [hG] at HI0 ⊢
 clear hG
 go_loopw [5] (fun vi wr=>∃ j cur sl,vi = .int .i64 ((j:Nat) - 1:Int)∧j≤n∧Hid (EndI w P G cur sl wr∧endT (ts.drop j) T=cur)) (fun vi _=>(intOf vi+1).toNat)
 case atStart=>exact ⟨n,_,_,rfl,Nat.le_refl _,Qh ⟨HI0.out,HT.out⟩⟩
 case round=>
  obtain ⟨j,cur,sl,rfl,hj,HI⟩:=hrel
  obtain ⟨k',n',m',b',v',us',nb',mb',A',c',rfl,rfl,hnb',hmb',hm1,hm2,hm3,hv',hs1',hs2'⟩:=HI.out.1.kid.letters
  obtain ⟨q,hq⟩:∃ q,us'.length=q:=⟨_,rfl⟩
  rw [hq] at HI
  obtain ⟨y0,y1,y2,y3,y4,y5⟩:=HI.out.1.t1.cells hnb' hmb'
  have HN:=Qh (Qa hnb' hmb')
  clear hv' hs1' hs2' hq hnb' hmb' hm1 hm2 hm3
  cases j with
  | succ i=>
   have ei:((i+1:Nat):Int) - 1=(i:Int):=by omega
   rw [ei]
   have hi0:(0:Int)≤(i:Int):=by omega
   have hiI:(i:Int)<(n:Int):=by omega
   obtain ⟨p,hp⟩:∃ p,ps[i]?=some p:=⟨_,List.getElem?_eq_getElem (by rw [HH.out.1.1];omega)⟩
   have ha:ts[i]?=some p.1:=by rw [←HH.out.2.2,List.getElem?_map,hp];rfl
   obtain ⟨g,o,rfl,hgB,helt⟩:=HH.out.1.elt hp
   obtain ⟨pt,psl⟩:=p
   obtain ⟨A3,c3,k3,n3,m3,b3,v3,ts3,nb3,mb3,rfl,hnb3,hmb3,hta,e0,e1,e2,e3,e4,e5⟩:=EltP.cells helt
   obtain ⟨q3,hq3⟩:∃ q,ts3.length=q:=⟨_,rfl⟩
   rw [hq3] at e5 hta
   have hbl:=HI.out.1.bel.block g hgB
   have i0:=(Qc (a:=⟨g,o+i * 6,none⟩) hbl).trans e0
   have i1:=(Qc (a:=⟨g,o+i * 6+1,none⟩) hbl).trans e1
   have i2:=(Qc (a:=⟨g,o+i * 6+2,none⟩) hbl).trans e2
   have i3:=(Qc (a:=⟨g,o+i * 6+3,none⟩) hbl).trans e3
   have i4:=(Qc (a:=⟨g,o+i * 6+4,none⟩) hbl).trans e4
   have i5:=(Qc (a:=⟨g,o+i * 6+5,none⟩) hbl).trans e5
   have HE:=Qh (show endT (ts.drop i) T=cmpT sDot [.mk k3 n3 m3 b3 v3 ts3,.mk k' n' m' b' v' us'] from by rw [end_drop ha,HI.out.2])
   have hdr:=below_drew' wr
   have hta1:TAtP wr.drew (fun b=>Grow P w wr b∧b≠G∧b≠G+1) (.mk k3 n3 m3 b3 v3 ts3) (.slice A3 q3 c3):=TAtP.keep _ hta (fun b hb=>⟨⟨.inl hb,by have:=HH.out.2.1 b hb;have:=HG.out;omega,by have:=HH.out.2.1 b hb;have:=HG.out;omega⟩,HI.out.1.bel.block b (HH.out.2.1 b hb)⟩)
   have hcu1:TAtP wr.drew (fun b=>Grow P w wr b∧b≠G∧b≠G+1) (.mk k' n' m' b' v' us') (.slice A' q c'):=TAtP.keep _ HI.out.1.kid (fun b hb=>⟨hb,rfl⟩)
   have hbu:=built (w:=wr.drew) (s:=sDot) (n:=2) (cs:=#[.int .i64 k3,.string nb3,.string mb3,.int .u64 b3,.int .i64 v3,.slice A3 q3 c3,.int .i64 k',.string nb',.string mb',.int .u64 b',.int .i64 v',.slice A' q c'])
    (ps:=[((.mk k3 n3 m3 b3 v3 ts3:Tm),Value.slice A3 q3 c3),((.mk k' n' m' b' v' us':Tm),Value.slice A' q c')]) (by rw [←hnb3,←hmb3,←HN.out.1,←HN.out.2];rfl) rfl (mem2 hta1 hcu1) (fun b hb=>Grow.lt HH.out.2.1 HI.out.1.bel.size b hb.1) (by unfold maxArgs;omega) (by decide)
   have hb4:Below wr.heap.size wr (wr.drew.alloc (.cells #[.int .i64 k3,.string nb3,.string mb3,.int .u64 b3,.int .i64 v3,.slice A3 q3 c3,.int .i64 k',.string nb',.string mb',.int .u64 b',.int .i64 v',.slice A' q c'] 25)):=hdr.alloc hdr.size _
   have HB4:=Qh (show TAtP ((wr.alloc (.cells #[.int .i64 k3,.string nb3,.string mb3,.int .u64 b3,.int .i64 v3,.slice A3 q3 c3,.int .i64 k',.string nb',.string mb',.int .u64 b',.int .i64 v',.slice A' q c'] 25)).drew) (fun b=>(Grow P w wr b∧b≠G∧b≠G+1)∨b=wr.heap.size) (cmpT sDot [.mk k3 n3 m3 b3 v3 ts3,.mk k' n' m' b' v' us']) (.slice (some ⟨wr.heap.size,0,none⟩) 2 2)∧Below wr.heap.size wr ((wr.alloc (.cells #[.int .i64 k3,.string nb3,.string mb3,.int .u64 b3,.int .i64 v3,.slice A3 q3 c3,.int .i64 k',.string nb',.string mb',.int .u64 b',.int .i64 v',.slice A' q c'] 25)).drew)∧((wr.alloc (.cells #[.int .i64 k3,.string nb3,.string mb3,.int .u64 b3,.int .i64 v3,.slice A3 q3 c3,.int .i64 k',.string nb',.string mb',.int .u64 b',.int .i64 v',.slice A' q c'] 25)).drew).heap.size=wr.heap.size+1 from ⟨hbu,hb4,by simp⟩)
   have HLT:=Qh (show i<n by omega)
   clear helt hta hnb3 hmb3 e0 e1 e2 e3 e4 e5 hbl ha hp hdr hta1 hcu1 hbu hb4 hj ei hq3
   go_upto_region 4 with fail
   go_still_tail 5,(by kernel_rfl)
   change wpList _ _ _ _ _ wr.drew
   go_wp2_with (go_at_call 32;(with_reducible refine (of_any _ _ _ _ _).mono ?_);rintro e w5 ⟨rfl,hb5⟩;have HX5:=Qh (HI.out.1.t1.below (Qt HB4.out.2.1 hb5));obtain ⟨r0,r1,r2,r3,r4,r5⟩:=HX5.out.cells HN.out.1 HN.out.2;obtain ⟨z0,z1,z2,z3,z4,z5⟩:=HX5.out.frozens;have HB5:=Qh hb5;clear hb5)
   go_roundw
   case rel=>
    obtain ⟨hbx,hgr⟩:=HX5.out.set6 (k:=5) (b:=0) (v:=0) (n:=sDot) (m:=[]) (nb:=⟨#[46]⟩) (mb:=⟨#[]⟩) [.mk k3 n3 m3 b3 v3 ts3,.mk k' n' m' b' v' us'] (.slice (some ⟨wr.heap.size,0,none⟩) 2 2) rfl rfl
    have hbw:=Qt HB4.out.2.1 HB5.out
    have hsz:=HB5.out.size
    have hb5s:=hbw.size
    have hbel0:=HI.out.1.bel.size
    have hgz:=hgr.size
    have hs4:=HB4.out.2.2
    have hG:=HG.out
    have hle:=HI.out.1.le
    refine ⟨i,_,_,rfl,by have:=HLT.out;omega,Qh ⟨⟨?_,hbx,?_,?_,?_⟩,HE.out⟩⟩
    ·exact (Qt HI.out.1.bel hbw).grown hgr (by omega) (Qg (by omega))
    ·exact (hgr.block (G+1) (by omega) (fun e=>by injection e with e;omega)).trans (HI.out.1.t2.below hbw)
    ·exact Nat.le_trans (Nat.le_trans hle hbw.size) hgr.size
    ·refine TAtP.keep _ HB4.out.1 (fun b hb=>?_)
     have hbs:b<((wr.alloc (.cells #[.int .i64 k3,.string nb3,.string mb3,.int .u64 b3,.int .i64 v3,.slice A3 q3 c3,.int .i64 k',.string nb',.string mb',.int .u64 b',.int .i64 v',.slice A' q c'] 25)).drew).heap.size:=by
      rcases hb with hb | hb
      ·have:=Grow.lt HH.out.2.1 HI.out.1.bel.size b hb.1;omega
      ·have:wr.drew.heap.size=wr.heap.size:=rfl
       omega
     have hne:b≠G∧b≠G+1:=by
      rcases hb with hb | hb
      ·exact hb.2
      ·have:wr.drew.heap.size=wr.heap.size:=rfl
       omega
     refine ⟨⟨?_,hne⟩,(hgr.block b (by omega) (fun e=>by injection e with e;omega)).trans (HB5.out.block b hbs)⟩
     rcases hb with hb | hb
     ·rcases hb.1 with hb | hb
      ·exact .inl hb
      ·exact .inr ⟨hb.1,by have:=hgr.size;omega⟩
     ·have:wr.drew.heap.size=wr.heap.size:=rfl
      exact .inr ⟨by omega,by have:=hgr.size;omega⟩
   case measure=>
    show ((i:Int) - 1+1).toNat<((i:Int)+1).toNat
    omega
  | zero=>
   have ei:((0:Nat):Int) - 1 = -1:=rfl
   rw [ei]
   have HI2:=Qh (Qa HI.out.1 (show endT ts T = .mk k' n' m' b' v' us' from HI.out.2))
   obtain ⟨u0,u1,u2,u3,u4,u5⟩:=HI.out.1.t2.cells rfl rfl
   obtain ⟨z0,z1,z2,z3,z4,z5⟩:=HI.out.1.t2.frozens
   clear HI ei hj
   go_wp2
   obtain ⟨hbx,hgr⟩:=HI2.out.1.t2.set6 (k:=k') (b:=b') (v:=v') (n:=n') (m:=m') us' (.slice A' q c') HN.out.1 HN.out.2
   generalize (((((wr.setCell ⟨G+1,0,none⟩ (.int .i64 k')).setCell ⟨G+1,1,none⟩ (.string nb')).setCell ⟨G+1,2,none⟩ (.string mb')).setCell ⟨G+1,3,none⟩ (.int .u64 b')).setCell ⟨G+1,4,none⟩ (.int .i64 v')).setCell ⟨G+1,5,none⟩ (.slice A' q c')=w6 at *
   obtain ⟨r0,r1,r2,r3,r4,r5⟩:=hbx.cells HN.out.1 HN.out.2
   have hG:=HG.out
   refine bodyPost_ret (v:=.agg (Q5 k' nb' mb' b' v' (.slice A' q c'))) (by simp [results,Tryd.results39,go_sem,r0,r1,r2,r3,r4,r5]) rfl ⟨.slice A' q c',by rw [HI2.out.2,valT_mk HN.out.1 HN.out.2],?_,?_⟩
   ·rw [HI2.out.2]
    refine TAtP.keep _ HI2.out.1.kid (fun b hb=>⟨?_,hgr.block b (Grow.lt HH.out.2.1 HI2.out.1.bel.size b hb.1) (fun e=>by injection e with e;exact hb.2.2 e)⟩)
    rcases hb.1 with hb | hb
    ·exact .inl hb
    ·exact .inr ⟨hb.1,Ql hb.2 hgr.size⟩
   ·exact HI2.out.1.bel.grown hgr HI2.out.1.bel.size (Qg (by omega))
theorem run_append_T0 (w:World) (ty:TypeId) (B:Option Addr) (n c:Nat) (h:n≤c) (A:Option Addr) (c2:Nat) :
  (Builtin.append_ #[23,23] ty #[.slice B n c,.slice A 0 c2]).run Tryd.prog w = .ok (.slice B n c) w:=by
 obtain ⟨i0,hi,hz0,hz1,hz2⟩:=info_parts infoT
 cases A with
 | none=>exact run_append_nothing w _ _ ty _ i0 Tryd.underlying23 hi B n c h _ (Src.ofNil w Tryd.underlying23 c2)
 | some a=>exact run_append_nothing w _ _ ty _ i0 Tryd.underlying23 hi B n c h _ (Src.ofSlice w Tryd.underlying23 a 0 c2 [] (by simp) (fun j u hj=>by simp at hj) (fun u hu=>by cases hu))
theorem rowP_nil {w:World} {P:Nat→Prop} {A:Option Addr} {ps:List (Tm × Value)} (h:RowP w P A 0 ps):ps = []:=List.length_eq_zero_iff.1 h.1
theorem step_append_R {o:Oper} {a:Act} {w:World} {K:Act→World→Prop} {Q:Exit→Act→World→Prop} (hgd:o.guard=none) (s x:Operand)
  (ho:o.op = .call { callee:=.builtin .append,args:=#[s,x],argTypes:=#[23,23] })
  {B:Nat} {P:Nat→Prop} {A:Option Addr} {n c:Nat} {ps:List (Tm × Value)} (hs:a.eval s = .slice A n c) (h:TRow w B P A n c ps) (hP:∀ b,P b→b<w.heap.size)
  {A2:Option Addr} {m c2:Nat} {qs:List (Tm × Value)} (hx:a.eval x = .slice A2 m c2) (hq:RowP w (fun b=>P b∧(Value.slice A n c).ownBlock≠some b) A2 m qs) (hm:n+m≤maxArgs) (hb:B≤w.heap.size)
  (hh:∀ A' c' w',TRow w' B P A' (n+m) c' (ps ++ qs)→Below B w w'→w.grownBy w' (Value.slice A n c).ownBlock→K (a.put o.dst (.slice A' (n+m) c')) w') :
  Oper.wp Tryd.prog o a w K Q:=by
 by_cases h0:m=0
 ·subst h0
  have hr:=run_append_T0 w o.type A n c h.cap.1 A2 c2
  unfold Oper.wp execOp
  simp only [ho,resolve,invoke,builtin,Sem.run_bind,Sem.run_pure,Result.andThen_ok,List.map_toArray,List.map_cons,List.map_nil,hs,hx,hr]
  have e:=rowP_nil hq
  subst e
  exact hh A c w (by rw [List.append_nil];exact h) (Below.refl _ _) (gb_refl _ _)
 ·obtain ⟨g,o2,rfl,hg,hcl⟩:=hq.2.2 (by omega)
  exact step_append_T hgd s x ho qs hs h hP ⟨g,o2,none⟩ m c2 hx hq.1 hq.2.1 (fun j u hj=>by rw [addr_add];exact hcl j u hj) hm hb hh
theorem wpList_append_R {ops:Array Oper} {rest:List Oper} {o:Oper} {a:Act} {Q:Exit→Act→World→Prop} {w:World} (hgd:o.guard=none) (s x:Operand)
  (ho:o.op = .call { callee:=.builtin .append,args:=#[s,x],argTypes:=#[23,23] })
  {B:Nat} {P:Nat→Prop} {A:Option Addr} {n c:Nat} {ps:List (Tm × Value)} (hs:a.eval s = .slice A n c) (h:TRow w B P A n c ps) (hP:∀ b,P b→b<w.heap.size)
  {A2:Option Addr} {m c2:Nat} {qs:List (Tm × Value)} (hx:a.eval x = .slice A2 m c2) (hq:RowP w (fun b=>P b∧(Value.slice A n c).ownBlock≠some b) A2 m qs) (hm:n+m≤maxArgs) (hb:B≤w.heap.size)
  (hh:∀ A' c' w',TRow w' B P A' (n+m) c' (ps ++ qs)→Below B w w'→w.grownBy w' (Value.slice A n c).ownBlock→wpList Tryd.prog ops Q rest (a.put o.dst (.slice A' (n+m) c')) w') :
  wpList Tryd.prog ops Q (o :: rest) a w:=
 wpList_plain hgd fun K hK=>step_append_R hgd s x ho hs h hP hx hq hm hb (fun A' c' w' h1 h2 h3=>hK _ _ (hh A' c' w' h1 h2 h3))
theorem throw_lit {w:World} {k b v:Int} {n m:List UInt8} {ts:List Tm} {nb mb:ByteArray} {A:Option Addr} {L c:Nat} (hn:(⟨n.toArray⟩:ByteArray)=nb) (hm:(⟨m.toArray⟩:ByteArray)=mb) (h:TAt w w.heap.size (.mk k n m b v ts) (.slice A L c)) :
  Calls Tryd.prog 31 #[.agg (Q5 k nb mb b v (.slice A L c))] w fun e w'=>Threw e w' (.mk k n m b v ts)∧Below w.heap.size w w':=by
 have h9:=throw_any h
 rw [valT_mk hn hm] at h9
 exact h9
theorem TAt.any {w w':World} {P:Nat→Prop} {t:Tm} {sl:Value} (h:TAtP w P t sl) (hP:∀ b,P b→b<w.heap.size) (hb:Below w.heap.size w w'):TAt w' w'.heap.size t sl:=
 TAtP.keep _ h (fun b hp=>⟨Ql (hP b hp) hb.size,hb.block b (hP b hp)⟩)
theorem atom_at (w:World) (P:Nat→Prop) {s:List UInt8} (h:s.length≤maxLen):TAtP w P (atomT s) (.slice none 0 0):=by
 rw [TAtP.iff]
 exact ⟨none,0,rfl,Nat.le_refl _,by simp [maxLen],by show 0≤_;omega,okF_atom h,fun hne=>absurd rfl hne⟩
theorem var_at (w:World) (P:Nat→Prop) {n:Int} (h : -9223372036854775808≤n∧n≤9223372036854775807):TAtP w P (varT n) (.slice none 0 0):=by
 rw [TAtP.iff]
 exact ⟨none,0,rfl,Nat.le_refl _,by simp [maxLen],by show 0≤_;omega,okF_var h,fun hne=>absurd rfl hne⟩
theorem whole_big {w:World} {t:Tm} {sl:Value} (h:TAt w w.heap.size t sl) (hz:4000<nodes t):Calls Tryd.prog 37 #[valT t sl] w fun e w'=>Threw e w' nodesT∧Below w.heap.size w w':=by
 obtain ⟨k,n,m,b,v,ts,nb,mb,A,c,rfl,rfl,hnb,hmb,hl1,hl2,hl3,hv,hs1,hs2⟩:=h.letters
 obtain ⟨L,hL⟩:∃ L,ts.length=L:=⟨_,rfl⟩
 rw [hv]
 rw [hL] at h hv ⊢
 obtain ⟨W1,hW1⟩:∃ W1,w.alloc (.cells (Q5 k nb mb b v (.slice A L c)) 25)=W1:=⟨_,rfl⟩
 obtain ⟨W2,hW2⟩:∃ W2,W1.alloc (.cells Qz 25)=W2:=⟨_,rfl⟩
 have hb1:Below w.heap.size w W1:=by rw [←hW1];exact Qb
 have s1:W1.heap.size=w.heap.size+1:=by rw [←hW1];simp
 have hb2:Below W1.heap.size W1 W2:=by rw [←hW2];exact Qb
 have hX1:TBox W1 w.heap.size (.mk k n m b v ts) (.slice A L c):=by rw [←hW1];exact TBox.new w hnb hmb
 obtain ⟨x0,x1,x2,x3,x4,x5⟩:=(hX1.below hb2).cells hnb hmb
 have hb12:=hb1.trans (hb2.mono (by omega))
 have HC:=Qh (Nodes_any (h.to hb12 hb12.size))
 rw [hv] at HC
 obtain ⟨z,hzz⟩:∃ z,nodes (.mk k n m b v ts)=z:=⟨_,rfl⟩
 rw [hzz] at HC hz
 have hzI:(4000:Int)<(z:Int):=by omega
 have HB:=Qh hb12
 subst hW1
 subst hW2
 clear h hv hb1 hb2 hb12 hX1 s1 hzz hnb hmb hz
 go_enter Tryd.func37,Tryd.ntmps37
 go_wp2_with (first
  | (go_at_call 61;(with_reducible refine HC.out.mono ?_);rintro e w3 ⟨rfl,hb3⟩;have HB3:=Qh (Qt HB.out hb3);clear hb3)
  | (go_at_call 33;(with_reducible refine (atom_any _ _).mono ?_);rintro e w4 ⟨rfl,hb4⟩;have HB4:=Qh (Qt HB3.out hb4);clear hb4)
  | (go_at_call 32;(with_reducible refine (of_any _ _ _ _ _).mono ?_);rintro e w5 ⟨rfl,hb5⟩;have hbu:=built (w:=w4) (P:=fun _=>False) (s:=sRes) (n:=1) (cs:=(Qn 2 ⟨#[110,111,100,101,115]⟩ (.slice none 0 0))) (ps:=[(atomT sNodes,Value.slice none 0 0)]) rfl rfl (mem1 (atom_at _ _ (by decide))) (fun b hb=>hb.elim) (by unfold maxArgs;omega) (by decide);have HT5:=Qh (TAt.any hbu (fun b hb=>by rcases hb with hb | rfl <;> simp at *) hb5);have HB5:=Qh ((HB4.out.alloc HB4.out.size (.cells (Qn 2 ⟨#[110,111,100,101,115]⟩ (.slice none 0 0)) 25)).trans (hb5.mono (HB4.out.alloc HB4.out.size (.cells (Qn 2 ⟨#[110,111,100,101,115]⟩ (.slice none 0 0)) 25)).size));clear hb5 hbu)
  | (go_at_call 31;(with_reducible refine (throw_lit rfl rfl HT5.out).mono ?_);rintro e w6 ⟨⟨bb,rfl,hball⟩,hb6⟩;have HB6:=Qh (Qa hball (Qt HB5.out hb6));clear hball hb6))
 exact ⟨rfl,⟨bb,rfl,HB6.out.1⟩,HB6.out.2⟩
theorem whole_fit {w:World} {t:Tm} {sl:Value} (h:TAt w w.heap.size t sl) (hbare:Bare t) (hz:¬4000<nodes t):Calls Tryd.prog 37 #[valT t sl] w fun e w'=>∃ sl',e = .returned (valT t sl')∧TOwn w' t sl' w.heap.size w'.heap.size∧Below w.heap.size w w':=by
 obtain ⟨k,n,m,b,v,ts,nb,mb,A,c,rfl,rfl,hnb,hmb,hl1,hl2,hl3,hv,hs1,hs2⟩:=h.letters
 obtain ⟨L,hL⟩:∃ L,ts.length=L:=⟨_,rfl⟩
 rw [hv]
 rw [hL] at h hv ⊢
 obtain ⟨W1,hW1⟩:∃ W1,w.alloc (.cells (Q5 k nb mb b v (.slice A L c)) 25)=W1:=⟨_,rfl⟩
 obtain ⟨W2,hW2⟩:∃ W2,W1.alloc (.cells Qz 25)=W2:=⟨_,rfl⟩
 have hb1:Below w.heap.size w W1:=by rw [←hW1];exact Qb
 have s1:W1.heap.size=w.heap.size+1:=by rw [←hW1];simp
 have hb2:Below W1.heap.size W1 W2:=by rw [←hW2];exact Qb
 have hX1:TBox W1 w.heap.size (.mk k n m b v ts) (.slice A L c):=by rw [←hW1];exact TBox.new w hnb hmb
 have hX2:TBox W2 W1.heap.size zeroT (.slice none 0 0):=by rw [←hW2];exact heap_alloc_new W1 _
 rw [s1] at hX2
 have hX1':=hX1.below hb2
 obtain ⟨x0,x1,x2,x3,x4,x5⟩:=hX1'.cells hnb hmb
 have hb12:=hb1.trans (hb2.mono (by omega))
 have HC:=Qh (Nodes_any (h.to hb12 hb12.size))
 have HO:=Qh (fun w' (hb:Below W2.heap.size W2 w')=>own_letters hnb hmb hL (dcgown_any _ w' _ ((h.to hb12 hb12.size).to hb hb.size) hbare))
 rw [hv] at HC
 rw [valT_mk hnb hmb] at HO
 obtain ⟨z,hzz⟩:∃ z,nodes (.mk k n m b v ts)=z:=⟨_,rfl⟩
 rw [hzz] at HC hz
 have hzI:¬(4000:Int)<(z:Int):=by omega
 have HB:=Qh (Qa hb12 (Qa hX1' hX2))
 have HM:=Qh (Qa hnb hmb)
 subst hW1
 subst hW2
 clear h hv hb1 hb2 hb12 hX1 hX1' hX2 s1 hzz hnb hmb hz hbare
 go_enter Tryd.func37,Tryd.ntmps37
 go_wp2_with (first
  | (go_at_call 61;(with_reducible refine HC.out.mono ?_);rintro e w3 ⟨rfl,hb3⟩;have HB3:=Qh hb3;obtain ⟨y0,y1,y2,y3,y4,y5⟩:=(HB.out.2.1.below hb3).cells HM.out.1 HM.out.2;clear hb3)
  | (go_at_call 62;(with_reducible refine (HO.out _ HB3.out).mono ?_);rintro e w4 ⟨A4,c4,rfl,ho4,hb4⟩;have HX4:=Qh (HB.out.2.2.below (Qt HB3.out hb4));obtain ⟨u0,u1,u2,u3,u4,u5⟩:=HX4.out.cells rfl rfl;obtain ⟨z0,z1,z2,z3,z4,z5⟩:=HX4.out.frozens;have HO4:=Qh (Qa ho4 hb4);clear ho4 hb4))
 obtain ⟨hbx,hgr⟩:=HX4.out.set6 (k:=k) (b:=b) (v:=v) (n:=n) (m:=m) ts (.slice A4 L c4) HM.out.1 HM.out.2
 generalize (((((w4.setCell ⟨w.heap.size+1,0,none⟩ (.int .i64 k)).setCell ⟨w.heap.size+1,1,none⟩ (.string nb)).setCell ⟨w.heap.size+1,2,none⟩ (.string mb)).setCell ⟨w.heap.size+1,3,none⟩ (.int .u64 b)).setCell ⟨w.heap.size+1,4,none⟩ (.int .i64 v)).setCell ⟨w.heap.size+1,5,none⟩ (.slice A4 L c4)=w6 at *
 obtain ⟨r0,r1,r2,r3,r4,r5⟩:=hbx.cells HM.out.1 HM.out.2
 have h3:=HB3.out.size
 have h2:=HB.out.2.2.lt
 have h4:=HO4.out.2.size
 refine bodyPost_ret (v:=.agg (Q5 k nb mb b v (.slice A4 L c4))) (by simp [results,Tryd.results37,go_sem,r0,r1,r2,r3,r4,r5]) rfl ⟨.slice A4 L c4,by rw [valT_mk HM.out.1 HM.out.2],?_,?_⟩
 ·exact ((TOwn.keep _ (w':=w6) HO4.out.1 (fun b h1 h2=>hgr.block b h2 (fun e=>by injection e with e;omega))).widen hgr.size).lower (by omega)
 ·exact ((Qt HB.out.1 HB3.out).trans (HO4.out.2.mono (by omega))).grown hgr (by omega) (Qg (by omega))
theorem RowP.apart {u:World} {P:Nat→Prop} {B m n c:Nat} {A A2:Option Addr} {ps qs:List (Tm × Value)} (h:RowP u P A2 m qs) (hr:TRow u B P A n c ps) (hB:∀ b,P b→b<B):RowP u (fun b=>P b∧(Value.slice A n c).ownBlock≠some b) A2 m qs:=
 ⟨h.1,fun p hp=>(h.2.1 p hp).wide (fun b hb=>⟨hb,by
  have:=hB b hb
  rcases hr.block with ⟨h1,_⟩ | ⟨g,h1,h2,h3,h4⟩
  ·subst h1;simp [Value.ownBlock]
  ·rw [h4];intro e;injection e with e;omega⟩),h.2.2⟩
theorem rowP_at {u:World} {P:Nat→Prop} {g n:Nat} {cs:Array Value} {ps:List (Tm × Value)} (hg:u.heap[g]?=some (.cells cs 25 (0,0))) (hcs:cs=(fl6 ps).toArray) (hn:ps.length=n) (hk:∀ p∈ps,TAtP u P p.1 p.2):RowP u P (some ⟨g,0,none⟩) n ps:=by
 subst hcs hn
 exact RowP.block hg hk
theorem put_fit {w:World} {P:Nat→Prop} {t f d:Tm} {st sf sd:Value} (h1:TAtP w P t st) (h2:TAtP w P f sf) (h3:TAtP w P d sd) (hP:∀ b,P b→b<w.heap.size) (h62:t.as.length≤62) :
  Calls Tryd.prog 36 #[valT t st,valT f sf,valT d sd] w fun e w'=>∃ sl',e = .returned (valT (cmpT t.n (t.as ++ [f,d])) sl')∧TAtP w' (Grow P w w') (cmpT t.n (t.as ++ [f,d])) sl'∧Below w.heap.size w w':=by
 obtain ⟨k1,n1,m1,b1,v1,ts1,nb1,mb1,A1,c1,rfl,rfl,hnb1,hmb1,hl1,hc1,hx1,hv1,hs1,hq1⟩:=h1.letters
 obtain ⟨L1,hL1⟩:∃ L,ts1.length=L:=⟨_,rfl⟩
 rw [hv1]
 rw [hL1] at h1 hv1 hl1 hx1 ⊢
 obtain ⟨k2,n2,m2,b2,v2,ts2,nb2,mb2,A2,c2,rfl,rfl,hnb2,hmb2,hl2,hc2,hx2,hv2,hs2,hq2⟩:=h2.letters
 obtain ⟨L2,hL2⟩:∃ L,ts2.length=L:=⟨_,rfl⟩
 rw [hv2]
 rw [hL2] at h2 hv2 hl2 hx2 ⊢
 obtain ⟨k3,n3,m3,b3,v3,ts3,nb3,mb3,A3,c3,rfl,rfl,hnb3,hmb3,hl3,hc3,hx3,hv3,hs3,hq3⟩:=h3.letters
 obtain ⟨L3,hL3⟩:∃ L,ts3.length=L:=⟨_,rfl⟩
 rw [hv3]
 rw [hL3] at h3 hv3 hl3 hx3 ⊢
 change ts1.length≤62 at h62
 rw [hL1] at h62
 obtain ⟨qs,hqs,hqm⟩:=TAtP.rowP h1 hP
 change List.map (fun x=>x.1) qs=ts1 at hqm
 have hok:n1.length≤maxLen:=by have:=TAtP.ok h1;exact this.1
 obtain ⟨W1,hW1⟩:∃ W,w.alloc (.cells (Q5 k1 nb1 mb1 b1 v1 (.slice A1 L1 c1)) 25)=W:=⟨_,rfl⟩
 obtain ⟨W2,hW2⟩:∃ W,W1.alloc (.cells (Q5 k2 nb2 mb2 b2 v2 (.slice A2 L2 c2)) 25)=W:=⟨_,rfl⟩
 obtain ⟨W3,hW3⟩:∃ W,W2.alloc (.cells (Q5 k3 nb3 mb3 b3 v3 (.slice A3 L3 c3)) 25)=W:=⟨_,rfl⟩
 obtain ⟨W4,hW4⟩:∃ W,W3.alloc (.cells Qz 25)=W:=⟨_,rfl⟩
 have d1:Below w.heap.size w W1:=by rw [←hW1];exact Qb
 have s1:W1.heap.size=w.heap.size+1:=by rw [←hW1];simp
 have X1:TBox W1 w.heap.size (.mk k1 n1 m1 b1 v1 ts1) (.slice A1 L1 c1):=by rw [←hW1];exact TBox.new w hnb1 hmb1
 have d2:Below W1.heap.size W1 W2:=by rw [←hW2];exact Qb
 have s2:W2.heap.size=W1.heap.size+1:=by rw [←hW2];simp
 have X2:TBox W2 W1.heap.size (.mk k2 n2 m2 b2 v2 ts2) (.slice A2 L2 c2):=by rw [←hW2];exact TBox.new W1 hnb2 hmb2
 have d3:Below W2.heap.size W2 W3:=by rw [←hW3];exact Qb
 have s3:W3.heap.size=W2.heap.size+1:=by rw [←hW3];simp
 have X3:TBox W3 W2.heap.size (.mk k3 n3 m3 b3 v3 ts3) (.slice A3 L3 c3):=by rw [←hW3];exact TBox.new W2 hnb3 hmb3
 have d4:Below W3.heap.size W3 W4:=by rw [←hW4];exact Qb
 have s4:W4.heap.size=W3.heap.size+1:=by rw [←hW4];simp
 have X4:TBox W4 W3.heap.size zeroT (.slice none 0 0):=by rw [←hW4];exact heap_alloc_new W3 _
 replace X1:=X1.below d2
 replace X1:=X1.below d3
 replace X1:=X1.below d4
 replace X2:=X2.below d3
 replace X2:=X2.below d4
 replace X3:=X3.below d4
 have hbw:Below w.heap.size w W4:=d1.trans ((d2.trans ((d3.trans ((d4).mono (by omega))).mono (by omega))).mono (by omega))
 rw [s3,s2,s1] at X4
 rw [s2,s1] at X3
 rw [s1] at X2
 have hsz:W4.heap.size=w.heap.size+1+1+1+1:=by omega
 obtain ⟨x0,x1,x2,x3,x4,x5⟩:=X1.cells hnb1 hmb1
 obtain ⟨y0,y1,y2,y3,y4,y5⟩:=X2.cells hnb2 hmb2
 obtain ⟨z0,z1,z2,z3,z4,z5⟩:=X3.cells hnb3 hmb3
 have HX:=Qh (Qa X1 (Qa X2 (Qa X3 X4)))
 have HN:=Qh (Qa hnb1 (Qa hmb1 (Qa hnb2 (Qa hmb2 (Qa hnb3 hmb3)))))
 have HB:=Qh (Qa hbw hsz)
 have HP:=Qh hP
 have HQ:=Qh (Qa hqs (Qa hqm hok))
 have HK:=Qh (Qa h2 h3)
 have HL62:=Qh h62
 have hLI:(L1:Int)≤62:=by omega
 have HWS:=Qh hW4
 subst hW1 hW2 hW3
 rw [←HWS.out] at x0 x1 x2 x3 x4 x5 y0 y1 y2 y3 y4 y5 z0 z1 z2 z3 z4 z5
 clear h1 h2 h3 hqs hqm hok hP hW4 hbw hsz X1 X2 X3 X4 s1 s2 s3 s4 d1 d2 d3 d4 hnb1 hmb1 hnb2 hmb2 hnb3 hmb3 hv1 hv2 hv3 hs1 hs2 hs3 hq1 hq2 hq3 h62
 go_enter Tryd.func36,Tryd.ntmps36
 go_upto_region 3 with fail
 rw [HWS.out] at x0 x1 x2 x3 x4 x5 y0 y1 y2 y3 y4 y5 z0 z1 z2 z3 z4 z5 ⊢
 clear HWS
 obtain ⟨G,hG⟩:∃ G,w.heap.size=G:=⟨_,rfl⟩
 have HG:=Qh hG
 rw [hG] at HX x0 x1 x2 x3 x4 x5 y0 y1 y2 y3 y4 y5 z0 z1 z2 z3 z4 z5 ⊢
 clear hG
 have HS:=Qh (show ∀ x,Below W4.heap.size W4 x→(x.cell? ⟨G,5,none⟩=some (.slice A1 L1 c1)∧(Q6 x (G+1) k2 nb2 mb2 b2 v2 (.slice A2 L2 c2))∧(Q6 x (G+1+1) k3 nb3 mb3 b3 v3 (.slice A3 L3 c3))) from fun x hb=>
  ⟨((HX.out.1.below hb).cells HN.out.1 HN.out.2.1).2.2.2.2.2,(HX.out.2.1.below hb).cells HN.out.2.2.1 HN.out.2.2.2.1,(HX.out.2.2.1.below hb).cells HN.out.2.2.2.2.1 HN.out.2.2.2.2.2⟩)
 clear x0 x1 x2 x3 x4 x5 y0 y1 y2 y3 y4 y5 z0 z1 z2 z3 z4 z5
 refine wp_region_wait (fun x=>(x.cell? ⟨G,5,none⟩=some (.slice A1 L1 c1)∧(Q6 x (G+1) k2 nb2 mb2 b2 v2 (.slice A2 L2 c2))∧(Q6 x (G+1+1) k3 nb3 mb3 b3 v3 (.slice A3 L3 c3)))) 8 (by kernel_rfl) ?_
 change wpAnyW _ _ _ _ _ _ _ _ _ W4.drew
 have KK:=Qh (below_drew' W4)
 generalize W4.drew=u0 at *
 refine w3 8 1 (.pointer (some ⟨G,5,none⟩)) (HS.out _ KK.out) ?_ ?_
 ·intro w5 hSw
  obtain ⟨s1,⟨p0,p1,p2,p3,p4,p5⟩,⟨q0,q1,q2,q3,q4,q5⟩⟩:=hSw
  go_simp
 refine w3 8 2 (.slice A1 L1 c1) (HS.out _ KK.out) ?_ ?_
 ·intro w5 hSw
  obtain ⟨s1,⟨p0,p1,p2,p3,p4,p5⟩,⟨q0,q1,q2,q3,q4,q5⟩⟩:=hSw
  go_simp
 refine w3 8 4 (.agg (Q5 k2 nb2 mb2 b2 v2 (.slice A2 L2 c2))) (HS.out _ KK.out) ?_ ?_
 ·intro w5 hSw
  obtain ⟨s1,⟨p0,p1,p2,p3,p4,p5⟩,⟨q0,q1,q2,q3,q4,q5⟩⟩:=hSw
  go_simp
 refine w3 8 5 (.agg (Q5 k3 nb3 mb3 b3 v3 (.slice A3 L3 c3))) (HS.out _ KK.out) ?_ ?_
 ·intro w5 hSw
  obtain ⟨s1,⟨p0,p1,p2,p3,p4,p5⟩,⟨q0,q1,q2,q3,q4,q5⟩⟩:=hSw
  go_simp
 refine wpAnyW_two (i:=0) (i2:=6) (by kernel_rfl) rfl rfl (fun K hK=>?_) (fun K hK=>?_)
 ·go_simp
  have hb:Below u0.heap.size u0 (u0.alloc (.cells #[] 25)):=Qb
  have HR:=Qh (show TRow (u0.alloc (.cells #[] 25)) W4.heap.size P (some ⟨u0.heap.size,0,none⟩) 0 0 []∧u0.heap.size<(u0.alloc (.cells #[] 25)).heap.size from ⟨⟨owns_emptyT u0 _ KK.out.size,fun p hp=>by cases hp⟩,by simp⟩)
  replace KK:=Qh (Qt KK.out hb)
  clear hb
  refine hK.out _ _ (fun _=>HS.out _ KK.out) ?_
  generalize u0.alloc (.cells #[] 25)=u1 at *
  generalize u0.heap.size=g0 at *
  refine wpAnyW_two (i:=3) (i2:=6) (by kernel_rfl) rfl rfl (fun K hK=>?_) (fun K hK=>?_)
  ·refine step_append_R rfl _ _ rfl rfl HR.out.1 (fun b hb=>by have:=HP.out b hb;have:=HB.out.1.size;have:=KK.out.size;omega) rfl ((HQ.out.1.below (Qt HB.out.1 KK.out) HP.out).apart HR.out.1 (fun b hb=>Ql (HP.out b hb) HB.out.1.size)) (by have:=HL62.out;unfold maxArgs;omega) KK.out.size ?_
   intro A5 c5 u2 hr hb hg
   rw [Nat.zero_add] at hr ⊢
   rw [List.nil_append] at hr
   replace HR:=Qh hr
   replace KK:=Qh (KK.out.trans hb)
   clear hr hb hg
   refine hK.out _ _ (fun _=>HS.out _ KK.out) ?_
   refine w1 6 fun K hK=>?_
   go_simp
   have hb:Below u2.heap.size u2 (u2.alloc (.cells #[.int .i64 k2,.string nb2,.string mb2,.int .u64 b2,.int .i64 v2,.slice A2 L2 c2,.int .i64 k3,.string nb3,.string mb3,.int .u64 b3,.int .i64 v3,.slice A3 L3 c3] 25)):=Qb
   have HW:=Qh (show (u2.alloc (.cells #[.int .i64 k2,.string nb2,.string mb2,.int .u64 b2,.int .i64 v2,.slice A2 L2 c2,.int .i64 k3,.string nb3,.string mb3,.int .u64 b3,.int .i64 v3,.slice A3 L3 c3] 25)).heap[u2.heap.size]?=some (.cells #[.int .i64 k2,.string nb2,.string mb2,.int .u64 b2,.int .i64 v2,.slice A2 L2 c2,.int .i64 k3,.string nb3,.string mb3,.int .u64 b3,.int .i64 v3,.slice A3 L3 c3] 25 (0,0)) from heap_alloc_new u2 _)
   replace HR:=Qh (HR.out.keep hb (fun b hb=>Ql (HP.out b hb) (Nat.le_trans HB.out.1.size KK.out.size)))
   replace KK:=Qh (Qt KK.out hb)
   clear hb
   refine hK.out _ _ (fun _=>HS.out _ KK.out) ?_
   generalize u2.alloc (.cells #[.int .i64 k2,.string nb2,.string mb2,.int .u64 b2,.int .i64 v2,.slice A2 L2 c2,.int .i64 k3,.string nb3,.string mb3,.int .u64 b3,.int .i64 v3,.slice A3 L3 c3] 25)=u3 at *
   generalize u2.heap.size=g6 at *
   refine w1 7 fun K hK=>?_
   have hwb:=Qt HB.out.1 KK.out
   refine step_append_R rfl _ _ rfl rfl HR.out (fun b hb=>Ql (HP.out b hb) hwb.size) rfl ((rowP_at (P:=P) (n:=2) (ps:=[((.mk k2 n2 m2 b2 v2 ts2:Tm),Value.slice A2 L2 c2),((.mk k3 n3 m3 b3 v3 ts3:Tm),Value.slice A3 L3 c3)]) HW.out (by rw [←HN.out.2.2.1,←HN.out.2.2.2.1,←HN.out.2.2.2.2.1,←HN.out.2.2.2.2.2];rfl) rfl (mem2 (HK.out.1.below hwb HP.out) (HK.out.2.below hwb HP.out))).apart HR.out (fun b hb=>Ql (HP.out b hb) HB.out.1.size)) (by have:=HL62.out;unfold maxArgs;omega) KK.out.size ?_
   intro A6 c6 u4 hr hb hg
   replace HR:=Qh hr
   replace KK:=Qh (KK.out.trans hb)
   clear hr hb hg HW hwb
   refine hK.out _ _ (fun _=>HS.out _ KK.out) ?_
   refine w1 8 fun K hK=>?_
   go_simp
   refine hK.out _ _ (fun h=>absurd h (by simp)) ?_
   refine wpAnyW_done (by kernel_rfl) ?_ _
   have HU:=Qh (show ∃ q,u4=q from ⟨_,rfl⟩)
   have X4:=Qh (show TBox u4 (G+1+1+1) zeroT (.slice none 0 0) from HX.out.2.2.2.below KK.out)
   obtain ⟨x0,x1,x2,x3,x4,x5⟩:=(HX.out.1.below KK.out).cells HN.out.1 HN.out.2.1
   go_wp2_with (go_at_call 32;(with_reducible refine (of_any _ _ _ _ _).mono ?_);rintro e w7 ⟨rfl,hb7⟩;have HB7:=Qh hb7;have X7:=Qh (X4.out.below hb7);obtain ⟨a0,a1,a2,a3,a4,a5⟩:=X7.out.cells rfl rfl;obtain ⟨e0,e1,e2,e3,e4,e5⟩:=X7.out.frozens;clear hb7)
   obtain ⟨hbx,hgr⟩:=X7.out.set6 (k:=5) (b:=0) (v:=0) (n:=n1) (m:=[]) (nb:=nb1) (mb:=⟨#[]⟩) (ts1 ++ [.mk k2 n2 m2 b2 v2 ts2,.mk k3 n3 m3 b3 v3 ts3]) (.slice A6 (L1+2) c6) HN.out.1 rfl
   generalize (((((w7.setCell ⟨G+1+1+1,0,none⟩ (.int .i64 5)).setCell ⟨G+1+1+1,1,none⟩ (.string nb1)).setCell ⟨G+1+1+1,2,none⟩ (.string ⟨#[]⟩)).setCell ⟨G+1+1+1,3,none⟩ (.int .u64 0)).setCell ⟨G+1+1+1,4,none⟩ (.int .i64 0)).setCell ⟨G+1+1+1,5,none⟩ (.slice A6 (L1+2) c6)=w8 at *
   obtain ⟨r0,r1,r2,r3,r4,r5⟩:=hbx.cells HN.out.1 rfl
   have hG:=HG.out
   have hW4:=HB.out.2
   have hku:=KK.out.size
   have h7s:=HB7.out.size
   have hwb:=HB.out.1.size
   have hr7:=HR.out.keep HB7.out (fun b hb=>by have:=HP.out b hb;omega)
   have hr8:=(hr7.keepP (w':=w8) (fun b h1 h2=>hgr.block b h2 (fun e=>by injection e with e;omega)) (fun b hb=>by
    have:=HP.out b hb
    exact hgr.block b (by omega) (fun e=>by injection e with e;omega))).wide (Q:=Grow P w w8) (fun b hb=>.inl hb)
   refine bodyPost_ret (v:=.agg (Qn 5 nb1 (.slice A6 (L1+2) c6))) (by simp [results,Tryd.results36,go_sem,r0,r1,r2,r3,r4,r5]) rfl ⟨.slice A6 (L1+2) c6,congrArg Ending.returned (valT_mk HN.out.1 rfl).symm,?_,?_⟩
   ·exact hr8.termP (t:=cmpT n1 (ts1 ++ [.mk k2 n2 m2 b2 v2 ts2,.mk k3 n3 m3 b3 v3 ts3])) (fun b h1 h2=>.inr ⟨by omega,h2⟩) (by rw [List.map_append,HQ.out.2.1];rfl) (by have:=HL62.out;unfold maxArgs;omega) (okF_cmp HQ.out.2.2)
   ·exact ((HB.out.1.trans (KK.out.mono hwb)).trans (HB7.out.mono (by omega))).grown hgr (by omega) (Qg (by omega))
  ·go_simp
   have hb:Below u1.heap.size u1 (u1.alloc (.cells #[.int .i64 k2,.string nb2,.string mb2,.int .u64 b2,.int .i64 v2,.slice A2 L2 c2,.int .i64 k3,.string nb3,.string mb3,.int .u64 b3,.int .i64 v3,.slice A3 L3 c3] 25)):=Qb
   have HW:=Qh (show (u1.alloc (.cells #[.int .i64 k2,.string nb2,.string mb2,.int .u64 b2,.int .i64 v2,.slice A2 L2 c2,.int .i64 k3,.string nb3,.string mb3,.int .u64 b3,.int .i64 v3,.slice A3 L3 c3] 25)).heap[u1.heap.size]?=some (.cells #[.int .i64 k2,.string nb2,.string mb2,.int .u64 b2,.int .i64 v2,.slice A2 L2 c2,.int .i64 k3,.string nb3,.string mb3,.int .u64 b3,.int .i64 v3,.slice A3 L3 c3] 25 (0,0)) from heap_alloc_new u1 _)
   have hne:u1.heap.size≠g0:=by have:=HR.out.2;omega
   replace HR:=Qh (Qa (HR.out.1.keep hb (fun b hb=>by have:=HP.out b hb;have:=HB.out.1.size;have:=KK.out.size;omega)) (Ql HR.out.2 hb.size))
   replace KK:=Qh (Qt KK.out hb)
   clear hb
   refine hK.out _ _ (fun _=>HS.out _ KK.out) ?_
   generalize u1.alloc (.cells #[.int .i64 k2,.string nb2,.string mb2,.int .u64 b2,.int .i64 v2,.slice A2 L2 c2,.int .i64 k3,.string nb3,.string mb3,.int .u64 b3,.int .i64 v3,.slice A3 L3 c3] 25)=u5 at *
   generalize u1.heap.size=g6 at *
   refine w1 3 fun K hK=>?_
   refine step_append_R rfl _ _ rfl rfl HR.out.1 (fun b hb=>by have:=HP.out b hb;have:=HB.out.1.size;have:=KK.out.size;omega) rfl ((HQ.out.1.below (Qt HB.out.1 KK.out) HP.out).apart HR.out.1 (fun b hb=>Ql (HP.out b hb) HB.out.1.size)) (by have:=HL62.out;unfold maxArgs;omega) KK.out.size ?_
   intro A5 c5 u6 hr hb hg
   rw [Nat.zero_add] at hr ⊢
   rw [List.nil_append] at hr
   replace HW:=Qh ((hg.block g6 (Array.getElem?_eq_some_iff.1 HW.out).1 (fun e=>by injection e with e;exact hne e)).trans HW.out)
   replace HR:=Qh hr
   replace KK:=Qh (KK.out.trans hb)
   clear hr hb hg
   refine hK.out _ _ (fun _=>HS.out _ KK.out) ?_
   refine w1 7 fun K hK=>?_
   have hwb:=Qt HB.out.1 KK.out
   refine step_append_R rfl _ _ rfl rfl HR.out (fun b hb=>Ql (HP.out b hb) hwb.size) rfl ((rowP_at (P:=P) (n:=2) (ps:=[((.mk k2 n2 m2 b2 v2 ts2:Tm),Value.slice A2 L2 c2),((.mk k3 n3 m3 b3 v3 ts3:Tm),Value.slice A3 L3 c3)]) HW.out (by rw [←HN.out.2.2.1,←HN.out.2.2.2.1,←HN.out.2.2.2.2.1,←HN.out.2.2.2.2.2];rfl) rfl (mem2 (HK.out.1.below hwb HP.out) (HK.out.2.below hwb HP.out))).apart HR.out (fun b hb=>Ql (HP.out b hb) HB.out.1.size)) (by have:=HL62.out;unfold maxArgs;omega) KK.out.size ?_
   intro A6 c6 u7 hr hb hg
   replace HR:=Qh hr
   replace KK:=Qh (KK.out.trans hb)
   clear hr hb hg HW hwb
   refine hK.out _ _ (fun _=>HS.out _ KK.out) ?_
   refine w1 8 fun K hK=>?_
   go_simp
   refine hK.out _ _ (fun h=>absurd h (by simp)) ?_
   refine wpAnyW_done (by kernel_rfl) ?_ _
   have HU:=Qh (show ∃ q,u7=q from ⟨_,rfl⟩)
   have X4:=Qh (show TBox u7 (G+1+1+1) zeroT (.slice none 0 0) from HX.out.2.2.2.below KK.out)
   obtain ⟨x0,x1,x2,x3,x4,x5⟩:=(HX.out.1.below KK.out).cells HN.out.1 HN.out.2.1
   go_wp2_with (go_at_call 32;(with_reducible refine (of_any _ _ _ _ _).mono ?_);rintro e w7 ⟨rfl,hb7⟩;have HB7:=Qh hb7;have X7:=Qh (X4.out.below hb7);obtain ⟨a0,a1,a2,a3,a4,a5⟩:=X7.out.cells rfl rfl;obtain ⟨e0,e1,e2,e3,e4,e5⟩:=X7.out.frozens;clear hb7)
   obtain ⟨hbx,hgr⟩:=X7.out.set6 (k:=5) (b:=0) (v:=0) (n:=n1) (m:=[]) (nb:=nb1) (mb:=⟨#[]⟩) (ts1 ++ [.mk k2 n2 m2 b2 v2 ts2,.mk k3 n3 m3 b3 v3 ts3]) (.slice A6 (L1+2) c6) HN.out.1 rfl
   generalize (((((w7.setCell ⟨G+1+1+1,0,none⟩ (.int .i64 5)).setCell ⟨G+1+1+1,1,none⟩ (.string nb1)).setCell ⟨G+1+1+1,2,none⟩ (.string ⟨#[]⟩)).setCell ⟨G+1+1+1,3,none⟩ (.int .u64 0)).setCell ⟨G+1+1+1,4,none⟩ (.int .i64 0)).setCell ⟨G+1+1+1,5,none⟩ (.slice A6 (L1+2) c6)=w8 at *
   obtain ⟨r0,r1,r2,r3,r4,r5⟩:=hbx.cells HN.out.1 rfl
   have hG:=HG.out
   have hW4:=HB.out.2
   have hku:=KK.out.size
   have h7s:=HB7.out.size
   have hwb:=HB.out.1.size
   have hr7:=HR.out.keep HB7.out (fun b hb=>by have:=HP.out b hb;omega)
   have hr8:=(hr7.keepP (w':=w8) (fun b h1 h2=>hgr.block b h2 (fun e=>by injection e with e;omega)) (fun b hb=>by
    have:=HP.out b hb
    exact hgr.block b (by omega) (fun e=>by injection e with e;omega))).wide (Q:=Grow P w w8) (fun b hb=>.inl hb)
   refine bodyPost_ret (v:=.agg (Qn 5 nb1 (.slice A6 (L1+2) c6))) (by simp [results,Tryd.results36,go_sem,r0,r1,r2,r3,r4,r5]) rfl ⟨.slice A6 (L1+2) c6,congrArg Ending.returned (valT_mk HN.out.1 rfl).symm,?_,?_⟩
   ·exact hr8.termP (t:=cmpT n1 (ts1 ++ [.mk k2 n2 m2 b2 v2 ts2,.mk k3 n3 m3 b3 v3 ts3])) (fun b h1 h2=>.inr ⟨by omega,h2⟩) (by rw [List.map_append,HQ.out.2.1];rfl) (by have:=HL62.out;unfold maxArgs;omega) (okF_cmp HQ.out.2.2)
   ·exact ((HB.out.1.trans (KK.out.mono hwb)).trans (HB7.out.mono (by omega))).grown hgr (by omega) (Qg (by omega))
 ·go_simp
  have hb:Below u0.heap.size u0 (u0.alloc (.cells #[.int .i64 k2,.string nb2,.string mb2,.int .u64 b2,.int .i64 v2,.slice A2 L2 c2,.int .i64 k3,.string nb3,.string mb3,.int .u64 b3,.int .i64 v3,.slice A3 L3 c3] 25)):=Qb
  have HW:=Qh (show (u0.alloc (.cells #[.int .i64 k2,.string nb2,.string mb2,.int .u64 b2,.int .i64 v2,.slice A2 L2 c2,.int .i64 k3,.string nb3,.string mb3,.int .u64 b3,.int .i64 v3,.slice A3 L3 c3] 25)).heap[u0.heap.size]?=some (.cells #[.int .i64 k2,.string nb2,.string mb2,.int .u64 b2,.int .i64 v2,.slice A2 L2 c2,.int .i64 k3,.string nb3,.string mb3,.int .u64 b3,.int .i64 v3,.slice A3 L3 c3] 25 (0,0)) from heap_alloc_new u0 _)
  replace KK:=Qh (Qt KK.out hb)
  clear hb
  refine hK.out _ _ (fun _=>HS.out _ KK.out) ?_
  generalize u0.alloc (.cells #[.int .i64 k2,.string nb2,.string mb2,.int .u64 b2,.int .i64 v2,.slice A2 L2 c2,.int .i64 k3,.string nb3,.string mb3,.int .u64 b3,.int .i64 v3,.slice A3 L3 c3] 25)=u8 at *
  generalize u0.heap.size=g6 at *
  refine w1 0 fun K hK=>?_
  go_simp
  have hb:Below u8.heap.size u8 (u8.alloc (.cells #[] 25)):=Qb
  have HR:=Qh (show TRow (u8.alloc (.cells #[] 25)) W4.heap.size P (some ⟨u8.heap.size,0,none⟩) 0 0 []∧u8.heap.size<(u8.alloc (.cells #[] 25)).heap.size from ⟨⟨owns_emptyT u8 _ KK.out.size,fun p hp=>by cases hp⟩,by simp⟩)
  have hne:g6≠u8.heap.size:=by have:=(Array.getElem?_eq_some_iff.1 HW.out).1;omega
  replace HW:=Qh ((hb.block g6 (Array.getElem?_eq_some_iff.1 HW.out).1).trans HW.out)
  replace KK:=Qh (Qt KK.out hb)
  clear hb
  refine hK.out _ _ (fun _=>HS.out _ KK.out) ?_
  generalize u8.alloc (.cells #[] 25)=u9 at *
  generalize u8.heap.size=g0 at *
  refine w1 3 fun K hK=>?_
  refine step_append_R rfl _ _ rfl rfl HR.out.1 (fun b hb=>by have:=HP.out b hb;have:=HB.out.1.size;have:=KK.out.size;omega) rfl ((HQ.out.1.below (Qt HB.out.1 KK.out) HP.out).apart HR.out.1 (fun b hb=>Ql (HP.out b hb) HB.out.1.size)) (by have:=HL62.out;unfold maxArgs;omega) KK.out.size ?_
  intro A5 c5 u10 hr hb hg
  rw [Nat.zero_add] at hr ⊢
  rw [List.nil_append] at hr
  replace HW:=Qh ((hg.block g6 (Array.getElem?_eq_some_iff.1 HW.out).1 (fun e=>by injection e with e;exact hne e)).trans HW.out)
  replace HR:=Qh hr
  replace KK:=Qh (KK.out.trans hb)
  clear hr hb hg
  refine hK.out _ _ (fun _=>HS.out _ KK.out) ?_
  refine w1 7 fun K hK=>?_
  have hwb:=Qt HB.out.1 KK.out
  refine step_append_R rfl _ _ rfl rfl HR.out (fun b hb=>Ql (HP.out b hb) hwb.size) rfl ((rowP_at (P:=P) (n:=2) (ps:=[((.mk k2 n2 m2 b2 v2 ts2:Tm),Value.slice A2 L2 c2),((.mk k3 n3 m3 b3 v3 ts3:Tm),Value.slice A3 L3 c3)]) HW.out (by rw [←HN.out.2.2.1,←HN.out.2.2.2.1,←HN.out.2.2.2.2.1,←HN.out.2.2.2.2.2];rfl) rfl (mem2 (HK.out.1.below hwb HP.out) (HK.out.2.below hwb HP.out))).apart HR.out (fun b hb=>Ql (HP.out b hb) HB.out.1.size)) (by have:=HL62.out;unfold maxArgs;omega) KK.out.size ?_
  intro A6 c6 u11 hr hb hg
  replace HR:=Qh hr
  replace KK:=Qh (KK.out.trans hb)
  clear hr hb hg HW hwb
  refine hK.out _ _ (fun _=>HS.out _ KK.out) ?_
  refine w1 8 fun K hK=>?_
  go_simp
  refine hK.out _ _ (fun h=>absurd h (by simp)) ?_
  refine wpAnyW_done (by kernel_rfl) ?_ _
  have HU:=Qh (show ∃ q,u11=q from ⟨_,rfl⟩)
  have X4:=Qh (show TBox u11 (G+1+1+1) zeroT (.slice none 0 0) from HX.out.2.2.2.below KK.out)
  obtain ⟨x0,x1,x2,x3,x4,x5⟩:=(HX.out.1.below KK.out).cells HN.out.1 HN.out.2.1
  go_wp2_with (go_at_call 32;(with_reducible refine (of_any _ _ _ _ _).mono ?_);rintro e w7 ⟨rfl,hb7⟩;have HB7:=Qh hb7;have X7:=Qh (X4.out.below hb7);obtain ⟨a0,a1,a2,a3,a4,a5⟩:=X7.out.cells rfl rfl;obtain ⟨e0,e1,e2,e3,e4,e5⟩:=X7.out.frozens;clear hb7)
  obtain ⟨hbx,hgr⟩:=X7.out.set6 (k:=5) (b:=0) (v:=0) (n:=n1) (m:=[]) (nb:=nb1) (mb:=⟨#[]⟩) (ts1 ++ [.mk k2 n2 m2 b2 v2 ts2,.mk k3 n3 m3 b3 v3 ts3]) (.slice A6 (L1+2) c6) HN.out.1 rfl
  generalize (((((w7.setCell ⟨G+1+1+1,0,none⟩ (.int .i64 5)).setCell ⟨G+1+1+1,1,none⟩ (.string nb1)).setCell ⟨G+1+1+1,2,none⟩ (.string ⟨#[]⟩)).setCell ⟨G+1+1+1,3,none⟩ (.int .u64 0)).setCell ⟨G+1+1+1,4,none⟩ (.int .i64 0)).setCell ⟨G+1+1+1,5,none⟩ (.slice A6 (L1+2) c6)=w8 at *
  obtain ⟨r0,r1,r2,r3,r4,r5⟩:=hbx.cells HN.out.1 rfl
  have hG:=HG.out
  have hW4:=HB.out.2
  have hku:=KK.out.size
  have h7s:=HB7.out.size
  have hwb:=HB.out.1.size
  have hr7:=HR.out.keep HB7.out (fun b hb=>by have:=HP.out b hb;omega)
  have hr8:=(hr7.keepP (w':=w8) (fun b h1 h2=>hgr.block b h2 (fun e=>by injection e with e;omega)) (fun b hb=>by
   have:=HP.out b hb
   exact hgr.block b (by omega) (fun e=>by injection e with e;omega))).wide (Q:=Grow P w w8) (fun b hb=>.inl hb)
  refine bodyPost_ret (v:=.agg (Qn 5 nb1 (.slice A6 (L1+2) c6))) (by simp [results,Tryd.results36,go_sem,r0,r1,r2,r3,r4,r5]) rfl ⟨.slice A6 (L1+2) c6,congrArg Ending.returned (valT_mk HN.out.1 rfl).symm,?_,?_⟩
  ·exact hr8.termP (t:=cmpT n1 (ts1 ++ [.mk k2 n2 m2 b2 v2 ts2,.mk k3 n3 m3 b3 v3 ts3])) (fun b h1 h2=>.inr ⟨by omega,h2⟩) (by rw [List.map_append,HQ.out.2.1];rfl) (by have:=HL62.out;unfold maxArgs;omega) (okF_cmp HQ.out.2.2)
  ·exact ((HB.out.1.trans (KK.out.mono hwb)).trans (HB7.out.mono (by omega))).grown hgr (by omega) (Qg (by omega))
theorem put_big {w:World} {P:Nat→Prop} {t f d:Tm} {st sf sd:Value} (h1:TAtP w P t st) (h2:TAtP w P f sf) (h3:TAtP w P d sd) (hP:∀ b,P b→b<w.heap.size) (h62:62<t.as.length) :
  Calls Tryd.prog 36 #[valT t st,valT f sf,valT d sd] w fun e w'=>Threw e w' arityT∧Below w.heap.size w w':=by
 obtain ⟨k1,n1,m1,b1,v1,ts1,nb1,mb1,A1,c1,rfl,rfl,hnb1,hmb1,hl1,hc1,hx1,hv1,hs1,hq1⟩:=h1.letters
 obtain ⟨L1,hL1⟩:∃ L,ts1.length=L:=⟨_,rfl⟩
 rw [hv1]
 rw [hL1] at h1 hv1 hl1 hx1 ⊢
 obtain ⟨k2,n2,m2,b2,v2,ts2,nb2,mb2,A2,c2,rfl,rfl,hnb2,hmb2,hl2,hc2,hx2,hv2,hs2,hq2⟩:=h2.letters
 obtain ⟨L2,hL2⟩:∃ L,ts2.length=L:=⟨_,rfl⟩
 rw [hv2]
 rw [hL2] at h2 hv2 hl2 hx2 ⊢
 obtain ⟨k3,n3,m3,b3,v3,ts3,nb3,mb3,A3,c3,rfl,rfl,hnb3,hmb3,hl3,hc3,hx3,hv3,hs3,hq3⟩:=h3.letters
 obtain ⟨L3,hL3⟩:∃ L,ts3.length=L:=⟨_,rfl⟩
 rw [hv3]
 rw [hL3] at h3 hv3 hl3 hx3 ⊢
 change 62<ts1.length at h62
 rw [hL1] at h62
 obtain ⟨W1,hW1⟩:∃ W,w.alloc (.cells (Q5 k1 nb1 mb1 b1 v1 (.slice A1 L1 c1)) 25)=W:=⟨_,rfl⟩
 obtain ⟨W2,hW2⟩:∃ W,W1.alloc (.cells (Q5 k2 nb2 mb2 b2 v2 (.slice A2 L2 c2)) 25)=W:=⟨_,rfl⟩
 obtain ⟨W3,hW3⟩:∃ W,W2.alloc (.cells (Q5 k3 nb3 mb3 b3 v3 (.slice A3 L3 c3)) 25)=W:=⟨_,rfl⟩
 obtain ⟨W4,hW4⟩:∃ W,W3.alloc (.cells Qz 25)=W:=⟨_,rfl⟩
 have d1:Below w.heap.size w W1:=by rw [←hW1];exact Qb
 have s1:W1.heap.size=w.heap.size+1:=by rw [←hW1];simp
 have X1:TBox W1 w.heap.size (.mk k1 n1 m1 b1 v1 ts1) (.slice A1 L1 c1):=by rw [←hW1];exact TBox.new w hnb1 hmb1
 have d2:Below W1.heap.size W1 W2:=by rw [←hW2];exact Qb
 have s2:W2.heap.size=W1.heap.size+1:=by rw [←hW2];simp
 have X2:TBox W2 W1.heap.size (.mk k2 n2 m2 b2 v2 ts2) (.slice A2 L2 c2):=by rw [←hW2];exact TBox.new W1 hnb2 hmb2
 have d3:Below W2.heap.size W2 W3:=by rw [←hW3];exact Qb
 have s3:W3.heap.size=W2.heap.size+1:=by rw [←hW3];simp
 have X3:TBox W3 W2.heap.size (.mk k3 n3 m3 b3 v3 ts3) (.slice A3 L3 c3):=by rw [←hW3];exact TBox.new W2 hnb3 hmb3
 have d4:Below W3.heap.size W3 W4:=by rw [←hW4];exact Qb
 have s4:W4.heap.size=W3.heap.size+1:=by rw [←hW4];simp
 have X4:TBox W4 W3.heap.size zeroT (.slice none 0 0):=by rw [←hW4];exact heap_alloc_new W3 _
 replace X1:=X1.below d2
 replace X1:=X1.below d3
 replace X1:=X1.below d4
 replace X2:=X2.below d3
 replace X2:=X2.below d4
 replace X3:=X3.below d4
 have hbw:Below w.heap.size w W4:=d1.trans ((d2.trans ((d3.trans ((d4).mono (by omega))).mono (by omega))).mono (by omega))
 rw [s3,s2,s1] at X4
 rw [s2,s1] at X3
 rw [s1] at X2
 have hsz:W4.heap.size=w.heap.size+1+1+1+1:=by omega
 obtain ⟨x0,x1,x2,x3,x4,x5⟩:=X1.cells hnb1 hmb1
 have HB:=Qh hbw
 have hLI:(62:Int)<(L1:Int):=by omega
 have hLI2:(L1:Int)≤1759218604400:=by unfold maxArgs at hx1;omega
 subst hW1 hW2 hW3 hW4
 clear h1 h2 h3 hbw hsz X1 X2 X3 X4 s1 s2 s3 s4 d1 d2 d3 d4 hnb1 hmb1 hnb2 hmb2 hnb3 hmb3 hv1 hv2 hv3 hs1 hs2 hs3 hq1 hq2 hq3 h62 hP
 go_enter Tryd.func36,Tryd.ntmps36
 go_wp2_with (first
  | (go_at_call 33;(with_reducible refine (atom_any _ _).mono ?_);rintro e w4 ⟨rfl,hb4⟩;have HB4:=Qh (Qt HB.out hb4);clear hb4)
  | (go_at_call 32;(with_reducible refine (of_any _ _ _ _ _).mono ?_);rintro e w5 ⟨rfl,hb5⟩;have hbu:=built (w:=w4) (P:=fun _=>False) (s:=sRepr) (n:=1) (cs:=(Qn 2 ⟨#[109,97,120,95,97,114,105,116,121]⟩ (.slice none 0 0))) (ps:=[(atomT sArity,Value.slice none 0 0)]) rfl rfl (mem1 (atom_at _ _ (by decide))) (fun b hb=>hb.elim) (by unfold maxArgs;omega) (by decide);have HT5:=Qh (TAt.any hbu (fun b hb=>by rcases hb with hb | rfl <;> simp at *) hb5);have HB5:=Qh ((HB4.out.alloc HB4.out.size (.cells (Qn 2 ⟨#[109,97,120,95,97,114,105,116,121]⟩ (.slice none 0 0)) 25)).trans (hb5.mono (HB4.out.alloc HB4.out.size (.cells (Qn 2 ⟨#[109,97,120,95,97,114,105,116,121]⟩ (.slice none 0 0)) 25)).size));clear hb5 hbu)
  | (go_at_call 31;(with_reducible refine (throw_lit rfl rfl HT5.out).mono ?_);rintro e w6 ⟨⟨bb,rfl,hball⟩,hb6⟩;have HB6:=Qh (Qa hball (Qt HB5.out hb6));clear hball hb6))
 exact ⟨rfl,⟨bb,rfl,HB6.out.1⟩,HB6.out.2⟩
structure NumAt (w:World) (Q N:Nat) (x:Int):Prop where
 q:w.heap[Q]?=some (.cells #[.pointer (some ⟨N,0,none⟩)] 72 (0,0))
 n:w.heap[N]?=some (.cells #[.int .i64 x] 3 (0,0))
 ne:Q≠N
theorem NumAt.below {w w':World} {Q N:Nat} {x:Int} (h:NumAt w Q N x) (hb:Below w.heap.size w w'):NumAt w' Q N x:=
 ⟨(hb.block Q (Array.getElem?_eq_some_iff.1 h.q).1).trans h.q,(hb.block N (Array.getElem?_eq_some_iff.1 h.n).1).trans h.n,h.ne⟩
theorem NumAt.lt {w:World} {Q N:Nat} {x:Int} (h:NumAt w Q N x):Q<w.heap.size∧N<w.heap.size:=⟨(Array.getElem?_eq_some_iff.1 h.q).1,(Array.getElem?_eq_some_iff.1 h.n).1⟩
def freshV (Q:Nat):Value:=.func (.func 60) #[] #[.pointer (some ⟨Q,0,none⟩)]
theorem fresh_any {w:World} {Q N:Nat} {x:Int} (h:NumAt w Q N x) (hx:0≤x∧x≤4611686018437387904) :
  Calls Tryd.prog 60 #[.pointer (some ⟨Q,0,none⟩)] w fun e w'=>e = .returned (.agg (Qv x))∧NumAt w' Q N (x+1)∧w.grownBy w' (some N):=by
 obtain ⟨W1,hW1⟩:∃ W1,w.alloc (.cells Qz 25)=W1:=⟨_,rfl⟩
 have hb1:Below w.heap.size w W1:=by rw [←hW1];exact Qb
 have hX:TBox W1 w.heap.size zeroT (.slice none 0 0):=by rw [←hW1];exact heap_alloc_new w _
 have hn1:=h.below hb1
 have c1:=cell_of_one hn1.q
 have c2:=cell_of_one hn1.n
 have f2:=free_of_one hn1.n
 have hQ:=Qh (Qa h.lt h.ne)
 have hNN:N≠w.heap.size:=by have:=h.lt;omega
 have c3:(W1.setCell ⟨N,0,none⟩ (.int .i64 (x+1))).cell? ⟨Q,0,none⟩=some (.pointer (some ⟨N,0,none⟩)):=cell_of_one (((Below.heap_setCell W1 ⟨N,0,none⟩ (.int .i64 (x+1)) Q h.ne)).trans hn1.q)
 have hn2:(W1.setCell ⟨N,0,none⟩ (.int .i64 (x+1))).heap[N]?=some (.cells #[.int .i64 (x+1)] 3 (0,0)):=one_setCell hn1.n
 have c4:=cell_of_one hn2
 have hX2:TBox (W1.setCell ⟨N,0,none⟩ (.int .i64 (x+1))) w.heap.size zeroT (.slice none 0 0):=hX.far (by show w.heap.size≠N;omega) _
 obtain ⟨z0,z1,z2,z3,z4,z5⟩:=hX2.frozens
 obtain ⟨u0,u1,u2,u3,u4,u5⟩:=hX2.cells rfl rfl
 have HE:=Qh (show NumAt (W1.setCell ⟨N,0,none⟩ (.int .i64 (x+1))) Q N (x+1)∧w.grownBy (W1.setCell ⟨N,0,none⟩ (.int .i64 (x+1))) (some N)∧TBox (W1.setCell ⟨N,0,none⟩ (.int .i64 (x+1))) w.heap.size zeroT (.slice none 0 0) from
  ⟨⟨((Below.heap_setCell W1 ⟨N,0,none⟩ (.int .i64 (x+1)) Q h.ne)).trans hn1.q,hn2,h.ne⟩,gb_setCell (grown_below hb1) 0 _,hX2⟩)
 subst hW1
 clear h hb1 hX hn1 hn2 hX2 hNN
 go_enter Tryd.func60,Tryd.ntmps60
 go_wp2
 obtain ⟨hbx,hgr⟩:=HE.out.2.2.set6 (k:=1) (b:=0) (v:=x) (n:=[]) (m:=[]) [] (.slice none 0 0) rfl rfl
 generalize hw2:(w.alloc (.cells Qz 25)).setCell ⟨N,0,none⟩ (.int .i64 (x+1))=w2 at *
 generalize (((((w2.setCell ⟨w.heap.size,0,none⟩ (.int .i64 1)).setCell ⟨w.heap.size,1,none⟩ (.string ⟨#[]⟩)).setCell ⟨w.heap.size,2,none⟩ (.string ⟨#[]⟩)).setCell ⟨w.heap.size,3,none⟩ (.int .u64 0)).setCell ⟨w.heap.size,4,none⟩ (.int .i64 x)).setCell ⟨w.heap.size,5,none⟩ (.slice none 0 0)=w6 at *
 obtain ⟨r0,r1,r2,r3,r4,r5⟩:=hbx.cells (nb:=⟨#[]⟩) (mb:=⟨#[]⟩) rfl rfl
 obtain ⟨hn,hg,hX⟩:=HE.out
 have hq:=hQ.out
 refine bodyPost_ret (v:=.agg (Qv x)) (by simp [results,Tryd.results60,go_sem,r0,r1,r2,r3,r4,r5]) rfl ⟨rfl,?_,?_⟩
 ·exact ⟨(hgr.block Q (hn.lt.1) (fun e=>by injection e with e;omega)).trans hn.q,(hgr.block N (hn.lt.2) (fun e=>by injection e with e;omega)).trans hn.n,hn.ne⟩
 ·exact ⟨hgr.os.trans hg.os,hgr.tape.trans hg.tape,hgr.output.trans hg.output,Nat.le_trans hg.size hgr.size,fun j hj hne=>(hgr.block j (Ql hj hg.size) (fun e=>by injection e with e;omega)).trans (hg.block j hj hne)⟩
theorem from_any {w:World} {N:Nat} {x:Int} (h:w.heap[N]?=some (.cells #[.int .i64 x] 3 (0,0))) :
  Calls Tryd.prog 35 #[.pointer (some ⟨N,0,none⟩)] w fun e w'=>e = .returned (freshV w.heap.size)∧NumAt w' w.heap.size N x∧Below w.heap.size w w':=by
 have hlt:=(Array.getElem?_eq_some_iff.1 h).1
 have hb:Below w.heap.size w (w.alloc (.cells #[.pointer (some ⟨N,0,none⟩)] 72)):=Qb
 have HE:=Qh (show NumAt (w.alloc (.cells #[.pointer (some ⟨N,0,none⟩)] 72)) w.heap.size N x∧Below w.heap.size w (w.alloc (.cells #[.pointer (some ⟨N,0,none⟩)] 72)) from
  ⟨⟨heap_alloc_new w _,(hb.block N hlt).trans h,by omega⟩,hb⟩)
 have hmf:∀ (fn:Fn) (first cap:Array Value) (w:World),(Instr.makeFunc fn first cap).run Tryd.prog w = .ok (.func fn first cap) w:=fun _ _ _ _=>rfl
 clear h hlt hb
 go_enter Tryd.func35,Tryd.ntmps35
 go_wp2
 go_ret
 exact ⟨rfl,HE.out.1,HE.out.2⟩
end Go.Proofs.YtgfeainpeplphaaDoor
namespace Ht
def seqR (s:List UInt8) (x y f d:Tm) (nx:Int):Except Tm (Tm × Int):=
 match mkB x f (varT nx) (nx+1) with
 | .error e=>.error e
 | .ok (a,n1)=>match mkB y (varT nx) d n1 with
  | .error e=>.error e
  | .ok (c,n2)=>.ok (cmpT s [a,c],n2)
def seqK (s:List UInt8) (a:Tm):Except Tm (Tm × Int)→Except Tm (Tm × Int)
 | .error e=>.error e
 | .ok (c,n2)=>.ok (cmpT s [a,c],n2)
theorem seqR_bad {s:List UInt8} {x y f d e:Tm} {nx:Int} (h:mkB x f (varT nx) (nx+1) = .error e):seqR s x y f d nx = .error e:=by rw [seqR,h]
theorem seqR_ok {s:List UInt8} {x y f d a:Tm} {nx n1:Int} (h:mkB x f (varT nx) (nx+1) = .ok (a,n1)):seqR s x y f d nx=seqK s a (mkB y (varT nx) d n1):=by
 rw [seqR,h]
 cases hm:mkB y (varT nx) d n1 with
 | error e=>simp [hm,seqK]
 | ok p=>simp [hm,seqK]
theorem mkB_next {t f d g:Tm} {nx n':Int} (h:mkB t f d nx = .ok (g,n')):nx≤n'∧n'+1≤nx+sz t:=(mkB_mk t f d nx g n' h).next
end Ht
namespace Go.Proofs.YtgfeainpeplphaaDoor
open Go.RowKit Hb Ht
attribute [local go_sem] Oper.semAt_some
def BodyPost (w:World) (P:Nat→Prop) (Q N:Nat) (r:Except Tm (Tm × Int)) (e:Ending) (w':World):Prop:=
 w.grownBy w' (some N)∧match r with
  | .ok (g,n')=>(∃ sg,e = .returned (valT g sg)∧TAtP w' (Grow P w w') g sg)∧NumAt w' Q N n'
  | .error b=>Threw e w' b
theorem BodyPost.ok {w w':World} {P:Nat→Prop} {Q N:Nat} {g:Tm} {n':Int} {e:Ending} (h:BodyPost w P Q N (.ok (g,n')) e w'):w.grownBy w' (some N)∧(∃ sg,e = .returned (valT g sg)∧TAtP w' (Grow P w w') g sg)∧NumAt w' Q N n':=h
theorem BodyPost.bad {w w':World} {P:Nat→Prop} {Q N:Nat} {b:Tm} {e:Ending} (h:BodyPost w P Q N (.error b) e w'):w.grownBy w' (some N)∧Threw e w' b:=h
theorem BodyPost.letters {w w':World} {P:Nat→Prop} {Q N:Nat} {k v b:Int} {n m:List UInt8} {ts:List Tm} {nb mb:ByteArray} {q:Nat} {n':Int} {e:Ending} (hn:(⟨n.toArray⟩:ByteArray)=nb) (hm:(⟨m.toArray⟩:ByteArray)=mb) (hq:ts.length=q) (h:BodyPost w P Q N (.ok (.mk k n m b v ts,n')) e w') :
  ∃ A c,e = .returned (.agg (Q5 k nb mb b v (.slice A q c)))∧TAtP w' (Grow P w w') (.mk k n m b v ts) (.slice A q c)∧NumAt w' Q N n'∧w.grownBy w' (some N):=by
 obtain ⟨h1,⟨sg,h2,h3⟩,h4⟩:=h.ok
 obtain ⟨A,c,e1,_⟩:=TAtP.iff.1 h3
 subst e1
 change e = .returned (valT _ (.slice A ts.length c)) at h2
 change TAtP w' _ _ (.slice A ts.length c) at h3
 rw [valT_mk hn hm,hq] at h2
 rw [hq] at h3
 exact ⟨A,c,h2,h3,h4,h1⟩
def BodyOk (w0:World) (t:Tm):Prop:=∀ (w:World) (P:Nat→Prop) (f d:Tm) (st sf sd:Value) (Q N:Nat) (x:Int),(∀ b,P b→b<w.heap.size∧b≠N)→TAtP w P t st→TAtP w P f sf→TAtP w P d sd→NumAt w Q N x→0≤x→x+sz t≤4611686018427396000 →
 checkP t=0→UOk w0 w→w0.heap.size≤N→Calls Tryd.prog 38 #[valT t st,valT f sf,valT d sd,freshV Q] w (BodyPost w P Q N (mkB t f d x))
structure BF (P:Nat→Prop) (N Q Fb G G1 G2:Nat) (t f d:Tm) (st sf sd:Value) (W:World):Prop where
 t0:W.heap[Fb]?=some (.cells #[freshV Q] 70 (0,0))
 t1:TBox W G t st
 t2:TBox W G1 f sf
 t3:TBox W G2 d sd
 x1:TAtP W P t st
 x2:TAtP W P f sf
 x3:TAtP W P d sd
 hP:∀ b,P b→b<W.heap.size∧b≠N
 n0:Fb≠N∧G≠N∧G1≠N∧G2≠N
theorem blk_ne {w w':World} {N g:Nat} {o:Obj} (hg:w.grownBy w' (some N)) (h:w.heap[g]?=some o) (hn:g≠N):w'.heap[g]?=some o:=
 (hg.block g (Array.getElem?_eq_some_iff.1 h).1 (fun e=>hn (by injection e))).trans h
theorem TBox.gro {w w':World} {N g:Nat} {t:Tm} {sl:Value} (h:TBox w g t sl) (hg:w.grownBy w' (some N)) (hn:g≠N):TBox w' g t sl:=blk_ne hg h hn
theorem TAtP.gro {w w':World} {P:Nat→Prop} {N:Nat} {t:Tm} {sl:Value} (h:TAtP w P t sl) (hP:∀ b,P b→b<w.heap.size∧b≠N) (hg:w.grownBy w' (some N)):TAtP w' P t sl:=
 TAtP.keep _ h (fun b hb=>⟨hb,hg.block b (hP b hb).1 (fun e=>(hP b hb).2 (by injection e))⟩)
theorem BF.go {P:Nat→Prop} {N Q Fb G G1 G2:Nat} {t f d:Tm} {st sf sd:Value} {W W':World} (h:BF P N Q Fb G G1 G2 t f d st sf sd W) (hg:W.grownBy W' (some N)):BF P N Q Fb G G1 G2 t f d st sf sd W':=
 ⟨blk_ne hg h.t0 h.n0.1,h.t1.gro hg h.n0.2.1,h.t2.gro hg h.n0.2.2.1,h.t3.gro hg h.n0.2.2.2,TAtP.gro h.x1 h.hP hg,TAtP.gro h.x2 h.hP hg,TAtP.gro h.x3 h.hP hg,fun b hb=>⟨Ql (h.hP b hb).1 hg.size,(h.hP b hb).2⟩,h.n0⟩
theorem NumAt.gro {w w':World} {Q N R:Nat} {x:Int} (h:NumAt w Q N x) (hg:w.grownBy w' (some R)) (h1:Q≠R) (h2:N≠R):NumAt w' Q N x:=⟨blk_ne hg h.q h1,blk_ne hg h.n h2,h.ne⟩
theorem gb_new {w w1 w2:World} {N R:Nat} (h:w.grownBy w1 (some N)) (hg:w1.grownBy w2 (some R)) (hR:w.heap.size≤R):w.grownBy w2 (some N):=
 ⟨hg.os.trans h.os,hg.tape.trans h.tape,hg.output.trans h.output,Nat.le_trans h.size hg.size,fun j hj hne=>(hg.block j (Ql hj h.size) (fun e=>by injection e with e;omega)).trans (h.block j hj hne)⟩
theorem both_any {w0 w:World} {P:Nat→Prop} {N Q Fb G G1 G2:Nat} {n m:List UInt8} {b v:Int} {x y f d:Tm} {st sf sd:Value} {nx:Int} (h:BF P N Q Fb G G1 G2 (.mk 5 n m b v [x,y]) f d st sf sd w) (hx:BodyOk w0 x) (hy:BodyOk w0 y) (hN:NumAt w Q N nx) (h0:0≤nx) (hb:nx+sz x+sz y≤4611686018427395999)
  (hcx:checkP x=0) (hcy:checkP y=0) (hU:UOk w0 w) (hw0:w0.heap.size≤N) (s:List UInt8) (hs:s.length≤maxLen) (sb:ByteArray) (hsb:(⟨s.toArray⟩:ByteArray)=sb) :
  Calls Tryd.prog 63 #[.string sb,.pointer (some ⟨Fb,0,none⟩),.pointer (some ⟨G,0,none⟩),.pointer (some ⟨G1,0,none⟩),.pointer (some ⟨G2,0,none⟩)] w (BodyPost w P Q N (seqR s x y f d nx)):=by
 have hlt:=hN.lt
 obtain ⟨nbt,hnbt⟩:∃ nb:ByteArray,(⟨n.toArray⟩:ByteArray)=nb:=⟨_,rfl⟩
 obtain ⟨mbt,hmbt⟩:∃ mb:ByteArray,(⟨m.toArray⟩:ByteArray)=mb:=⟨_,rfl⟩
 obtain ⟨A,c,hst,hc1,hc2,_,_,hgo⟩:=TAtP.iff.1 h.x1
 obtain ⟨g,o,hA,hPg,hel⟩:=hgo (by simp [Tm.as])
 subst hA
 change st = .slice (some ⟨g,o,none⟩) 2 c at hst
 subst hst
 have hex:=hel 0 x rfl
 have hey:=hel 1 y rfl
 obtain ⟨A1,c1,k1,n1,m1,b1,v1,ts1,nb1,mb1,rfl,hnb1,hmb1,htx,e0,e1,e2,e3,e4,e5⟩:=EltP.cells hex
 obtain ⟨A4,c4,k4,n4,m4,b4,v4,ts4,nb4,mb4,rfl,hnb4,hmb4,hty,q0,q1,q2,q3,q4,q5⟩:=EltP.cells hey
 rw [Nat.zero_mul,Nat.add_zero] at e0 e1 e2 e3 e4 e5
 rw [Nat.one_mul] at q0 q1 q2 q3 q4 q5
 obtain ⟨k2,n2,m2,b2,v2,ts2,nb2,mb2,A2,c2,rfl,rfl,hnb2,hmb2,_,_,_,hv2,_,_⟩:=h.x2.letters
 obtain ⟨k3,n3,m3,b3,v3,ts3,nb3,mb3,A3,c3,rfl,rfl,hnb3,hmb3,_,_,_,hv3,_,_⟩:=h.x3.letters
 obtain ⟨L1,hL1⟩:∃ L,ts1.length=L:=⟨_,rfl⟩
 obtain ⟨L2,hL2⟩:∃ L,ts2.length=L:=⟨_,rfl⟩
 obtain ⟨L3,hL3⟩:∃ L,ts3.length=L:=⟨_,rfl⟩
 obtain ⟨L4,hL4⟩:∃ L,ts4.length=L:=⟨_,rfl⟩
 rw [hL1] at e5 htx
 rw [hL4] at q5 hty
 rw [hL2,hL3] at h
 have HM:=Qh (Qa (Qa hnbt hmbt) (Qa (Qa hnb1 hmb1) (Qa (Qa hnb2 hmb2) (Qa (Qa hnb3 hmb3) (Qa hnb4 hmb4)))))
 have HPb:=Qh (Qa (h.hP g hPg) h.n0)
 have HEx:=Qh (Qa htx (Qa e0 (Qa e1 (Qa e2 (Qa e3 (Qa e4 e5))))))
 have HEy:=Qh (Qa hty (Qa q0 (Qa q1 (Qa q2 (Qa q3 (Qa q4 q5))))))
 have HBF:=Qh h
 have HNum:=Qh hN
 have HU:=Qh (Qa hU hw0)
 have HX:=Qh hx
 have HY:=Qh hy
 have HCk:=Qh (Qa hcx hcy)
 have HBd:=Qh (Qa h0 hb)
 have HSs:=Qh (Qa hs hsb)
 have HLT:=Qh hlt
 obtain ⟨W1,hW1⟩:∃ W1,w.alloc (.cells Qz 25)=W1:=⟨_,rfl⟩
 have hb1:Below w.heap.size w W1:=by rw [←hW1];exact Qb
 have hR:TBox W1 w.heap.size zeroT (.slice none 0 0):=by rw [←hW1];exact heap_alloc_new w _
 have HR:=Qh (Qa hb1 hR)
 have HFr:=Qh (fresh_any (hN.below hb1) ⟨h0,by have:=sz_pos (.mk k1 n1 m1 b1 v1 ts1);omega⟩)
 have cF:W1.cell? ⟨Fb,0,none⟩=some (.func (.func 60) #[] #[.pointer (some ⟨Q,0,none⟩)]):=cell_of_one ((hb1.block Fb (Array.getElem?_eq_some_iff.1 h.t0).1).trans h.t0)
 obtain ⟨R0,hR0⟩:∃ R0,w.heap.size=R0:=⟨_,rfl⟩
 have HR0:=Qh hR0
 obtain ⟨RX,hRX⟩:∃ RX,mkB (.mk k1 n1 m1 b1 v1 ts1) (.mk k2 n2 m2 b2 v2 ts2) (varT nx) (nx+1)=RX:=⟨_,rfl⟩
 obtain ⟨RR,hRR⟩:∃ RR,seqR s (.mk k1 n1 m1 b1 v1 ts1) (.mk k4 n4 m4 b4 v4 ts4) (.mk k2 n2 m2 b2 v2 ts2) (.mk k3 n3 m3 b3 v3 ts3) nx=RR:=⟨_,rfl⟩
 rw [hRR]
 have HRXR:=Qh (Qa hRX hRR)
 clear hRX hRR
 subst hW1
 clear h hx hy hN h0 hb hcx hcy hU hw0 hs hsb hlt hnbt hmbt hc1 hc2 hgo hPg hel hex hey htx hty e0 e1 e2 e3 e4 e5 q0 q1 q2 q3 q4 q5 hnb1 hmb1 hnb2 hmb2 hnb3 hmb3 hnb4 hmb4 hL1 hL2 hL3 hL4 hv2 hv3 hb1 hR hR0
 go_enter Tryd.func63,Tryd.ntmps63
 go_upto_region 2 with (go_at_call 60;(with_reducible refine HFr.out.mono ?_);rintro e w2 ⟨rfl,hn2,hg2⟩;have HF2:=Qh (Qa hn2 hg2);clear hn2 hg2)
 obtain ⟨W3,hW3⟩:∃ W3,w2.alloc (.cells (Qv nx) 25)=W3:=⟨_,rfl⟩
 obtain ⟨M,hM⟩:∃ M,w2.heap.size=M:=⟨_,rfl⟩
 have hb3:Below w2.heap.size w2 W3:=by rw [←hW3];exact Qb
 have HG3:=Qh (show w.grownBy W3 (some N) from grown_trans (grown_below HR.out.1) (grown_trans HF2.out.2 (grown_below hb3)))
 have HM3:=Qh (show TBox W3 M (varT nx) (.slice none 0 0) from by rw [←hW3,←hM];exact heap_alloc_new w2 _)
 have HSz:=Qh (show R0<M∧N<R0∧W3.heap.size=M+1 from ⟨by
   have h1:=(HR.out.2.gro HF2.out.2 (by have:=HLT.out;omega)).lt
   have:=HR0.out
   omega,by have:=HLT.out;have:=HR0.out;omega,by rw [←hW3,←hM];simp⟩)
 have HR3:=Qh (show TBox W3 R0 zeroT (.slice none 0 0) from by
   rw [←HR0.out]
   exact (HR.out.2.gro HF2.out.2 (by have:=HLT.out;omega)).below hb3)
 have HN3:=Qh (HF2.out.1.below hb3)
 have HB3:=Qh (HBF.out.go HG3.out)
 have HU3:=Qh (HU.out.1.grown HG3.out HU.out.2)
 rw [hW3]
 rw [hM]
 have hR0w:=HR0.out
 rw [hR0w]
 clear hR0w hW3 hM hb3 HF2 HFr HR cF
 have hRX:=HRXR.out.1
 have hRR:=HRXR.out.2
 have HCx:=Qh (fun u (hb:Below W3.heap.size W3 u)=>HX.out u P _ _ _ _ _ Q N (nx+1) (fun b hb2=>⟨Ql (HB3.out.hP b hb2).1 hb.size,(HB3.out.hP b hb2).2⟩) ((TAtP.gro HEx.out.1 HBF.out.hP HG3.out).below hb (fun b hb2=>(HB3.out.hP b hb2).1)) (HB3.out.x2.below hb (fun b hb2=>(HB3.out.hP b hb2).1))
  (var_at u P (n:=nx) (by have:=HBd.out;have:=sz_pos (.mk k1 n1 m1 b1 v1 ts1);omega)) (HN3.out.below hb) (by have:=HBd.out;omega) (by have:=HBd.out;have:=sz_pos (.mk k4 n4 m4 b4 v4 ts4);omega) HCk.out.1 (HU3.out.below hb) HU.out.2)
 rw [hRX,valT_mk HM.out.2.1.1 HM.out.2.1.2,valT_mk HM.out.2.2.1.1 HM.out.2.2.1.2,show valT (varT nx) (.slice none 0 0) = .agg (Qv nx) from rfl,show freshV Q = .func (.func 60) #[] #[.pointer (some ⟨Q,0,none⟩)] from rfl] at HCx
 have HS:=Qh (show ∀ z,W3.grownBy z (some N)→(z.cell? ⟨G,5,none⟩=some (.slice (some ⟨g,o,none⟩) 2 c)∧(Q7 z g o k1 nb1 mb1 b1 v1 (.slice A1 L1 c1))∧(Q6 z G1 k2 nb2 mb2 b2 v2 (.slice A2 L2 c2))∧(Q6 z M 1 ⟨#[]⟩ ⟨#[]⟩ 0 nx (.slice none 0 0))∧z.cell? ⟨Fb,0,none⟩=some (.func (.func 60) #[] #[.pointer (some ⟨Q,0,none⟩)])) from fun z hg=>by
  have hb:=HB3.out.go hg
  have hgb:z.heap[g]?=w.heap[g]?:=(hg.block g (Ql HPb.out.1.1 HG3.out.size) (fun e=>HPb.out.1.2 (by injection e))).trans (HG3.out.block g HPb.out.1.1 (fun e=>HPb.out.1.2 (by injection e)))
  obtain ⟨_,e0,e1,e2,e3,e4,e5⟩:=HEx.out
  exact ⟨(hb.t1.cells HM.out.1.1 HM.out.1.2).2.2.2.2.2,⟨(Qc (a:=⟨g,o,none⟩) hgb).trans e0,(Qc (a:=⟨g,o+1,none⟩) hgb).trans e1,(Qc (a:=⟨g,o+2,none⟩) hgb).trans e2,(Qc (a:=⟨g,o+3,none⟩) hgb).trans e3,(Qc (a:=⟨g,o+4,none⟩) hgb).trans e4,(Qc (a:=⟨g,o+5,none⟩) hgb).trans e5⟩,
   hb.t2.cells HM.out.2.2.1.1 HM.out.2.2.1.2,(HM3.out.gro hg (by have:=HSz.out;omega)).cells rfl rfl,cell_of_one hb.t0⟩)
 refine wp_region_wait (fun z=>(z.cell? ⟨G,5,none⟩=some (.slice (some ⟨g,o,none⟩) 2 c)∧(Q7 z g o k1 nb1 mb1 b1 v1 (.slice A1 L1 c1))∧(Q6 z G1 k2 nb2 mb2 b2 v2 (.slice A2 L2 c2))∧(Q6 z M 1 ⟨#[]⟩ ⟨#[]⟩ 0 nx (.slice none 0 0))∧z.cell? ⟨Fb,0,none⟩=some (.func (.func 60) #[] #[.pointer (some ⟨Q,0,none⟩)]))) 9 (by kernel_rfl) ?_
 change wpAnyW _ _ _ _ _ _ _ _ _ W3.drew
 have KK:=Qh (below_drew' W3)
 generalize W3.drew=u0 at *
 refine w3 9 0 (.pointer (some ⟨G,5,none⟩)) (HS.out _ (grown_below KK.out)) ?_ ?_
 ·intro w5 hSw
  obtain ⟨s1,⟨p0,p1,p2,p3,p4,p5⟩,⟨q0,q1,q2,q3,q4,q5⟩,⟨r0,r1,r2,r3,r4,r5⟩,s2⟩:=hSw
  go_simp
 refine w3 9 1 (.slice (some ⟨g,o,none⟩) 2 c) (HS.out _ (grown_below KK.out)) ?_ ?_
 ·intro w5 hSw
  obtain ⟨s1,⟨p0,p1,p2,p3,p4,p5⟩,⟨q0,q1,q2,q3,q4,q5⟩,⟨r0,r1,r2,r3,r4,r5⟩,s2⟩:=hSw
  go_simp
 refine w3 9 2 (.pointer (some ⟨g,o,none⟩)) (HS.out _ (grown_below KK.out)) ?_ ?_
 ·intro w5 hSw
  obtain ⟨s1,⟨p0,p1,p2,p3,p4,p5⟩,⟨q0,q1,q2,q3,q4,q5⟩,⟨r0,r1,r2,r3,r4,r5⟩,s2⟩:=hSw
  go_simp
 refine w3 9 3 (.agg (Q5 k1 nb1 mb1 b1 v1 (.slice A1 L1 c1))) (HS.out _ (grown_below KK.out)) ?_ ?_
 ·intro w5 hSw
  obtain ⟨s1,⟨p0,p1,p2,p3,p4,p5⟩,⟨q0,q1,q2,q3,q4,q5⟩,⟨r0,r1,r2,r3,r4,r5⟩,s2⟩:=hSw
  go_simp
 refine w3 9 4 (.agg (Q5 k2 nb2 mb2 b2 v2 (.slice A2 L2 c2))) (HS.out _ (grown_below KK.out)) ?_ ?_
 ·intro w5 hSw
  obtain ⟨s1,⟨p0,p1,p2,p3,p4,p5⟩,⟨q0,q1,q2,q3,q4,q5⟩,⟨r0,r1,r2,r3,r4,r5⟩,s2⟩:=hSw
  go_simp
 refine w3 9 5 (.agg (Qv nx)) (HS.out _ (grown_below KK.out)) ?_ ?_
 ·intro w5 hSw
  obtain ⟨s1,⟨p0,p1,p2,p3,p4,p5⟩,⟨q0,q1,q2,q3,q4,q5⟩,⟨r0,r1,r2,r3,r4,r5⟩,s2⟩:=hSw
  go_simp
 refine w3 9 6 (.func (.func 60) #[] #[.pointer (some ⟨Q,0,none⟩)]) (HS.out _ (grown_below KK.out)) ?_ ?_
 ·intro w5 hSw
  obtain ⟨s1,⟨p0,p1,p2,p3,p4,p5⟩,⟨q0,q1,q2,q3,q4,q5⟩,⟨r0,r1,r2,r3,r4,r5⟩,s2⟩:=hSw
  go_simp
 cases RX with
 | error bt=>
  have hRE:RR = .error bt:=by rw [←hRR,seqR_bad hRX]
  subst hRE
  clear hRR hRX
  refine wpAnyW_two (i:=7) (i2:=8) (by kernel_rfl) rfl rfl (fun K hK=>?_) (fun K hK=>?_)
  ·go_simp
   (with_reducible refine (HCx.out _ KK.out).mono ?_)
   rintro e u1 hp
   obtain ⟨hg,bb,rfl,hball⟩:=hp.bad
   exact ⟨rfl,grown_trans HG3.out (grown_trans (grown_below KK.out) hg),bb,rfl,hball⟩
  ·go_simp
   have hb:Below u0.heap.size u0 (u0.alloc (.cells Qz 25)):=Qb
   replace KK:=Qh (Qt KK.out hb)
   clear hb
   refine hK.out _ _ (fun _=>HS.out _ (grown_below KK.out)) ?_
   generalize u0.alloc (.cells Qz 25)=u9 at *
   generalize u0.heap.size=AB at *
   refine w1 7 fun K hK=>?_
   go_simp
   (with_reducible refine (HCx.out _ KK.out).mono ?_)
   rintro e u1 hp
   obtain ⟨hg,bb,rfl,hball⟩:=hp.bad
   exact ⟨rfl,grown_trans HG3.out (grown_trans (grown_below KK.out) hg),bb,rfl,hball⟩
 | ok p=>
  obtain ⟨a,n1'⟩:=p
  have hnx:=mkB_next hRX
  obtain ⟨k5,n5,m5,b5,v5,ts5⟩:=a
  obtain ⟨nb5,hnb5⟩:∃ nb:ByteArray,(⟨n5.toArray⟩:ByteArray)=nb:=⟨_,rfl⟩
  obtain ⟨mb5,hmb5⟩:∃ mb:ByteArray,(⟨m5.toArray⟩:ByteArray)=mb:=⟨_,rfl⟩
  obtain ⟨L5,hL5⟩:∃ L,ts5.length=L:=⟨_,rfl⟩
  obtain ⟨RY,hRY⟩:∃ RY,mkB (.mk k4 n4 m4 b4 v4 ts4) (varT nx) (.mk k3 n3 m3 b3 v3 ts3) n1'=RY:=⟨_,rfl⟩
  have HRR:=Qh (show seqK s (.mk k5 n5 m5 b5 v5 ts5) RY=RR from by rw [←hRR,seqR_ok hRX,hRY])
  have HL5:=Qh (Qa hnb5 (Qa hmb5 hL5))
  have HNx:=Qh hnx
  have HRY:=Qh hRY
  clear hRR hRX hRY hnb5 hmb5 hL5 hnx
  refine wpAnyW_two (i:=7) (i2:=8) (by kernel_rfl) rfl rfl (fun K hK=>?_) (fun K hK=>?_)
  ·go_simp
   (with_reducible refine (HCx.out _ KK.out).mono ?_)
   rintro e uc hp
   obtain ⟨A5,c5,rfl,hta,hnu,hg⟩:=hp.letters HL5.out.1 HL5.out.2.1 HL5.out.2.2
   have GG:=Qh (grown_trans (grown_below (r:=some N) KK.out) hg)
   have KZ:=KK.out.size
   have GZ:=hg.size
   have HTA:=Qh (show TAtP uc (fun b=>P b∨(R0<b∧b<uc.heap.size)) (.mk k5 n5 m5 b5 v5 ts5) (.slice A5 L5 c5) from hta.wide (fun b hb=>by rcases hb with hb | hb;exact .inl hb;exact .inr ⟨by have:=HSz.out;omega,hb.2⟩))
   have HNu:=Qh hnu
   clear hta hnu hg hp
   refine hK.out _ _ (fun _=>HS.out _ GG.out) ?_
   refine w1 8 fun K hK=>?_
   go_simp
   have hb:Below uc.heap.size uc (uc.alloc (.cells Qz 25)):=Qb
   have HAB:=Qh (show TBox (uc.alloc (.cells Qz 25)) uc.heap.size zeroT (.slice none 0 0)∧uc.heap.size≠N∧R0<uc.heap.size∧M<uc.heap.size from ⟨heap_alloc_new uc _,by have:=HSz.out;omega,by have:=HSz.out;omega,by have:=HSz.out;omega⟩)
   have hb9:=hb
   replace HTA:=Qh (show TAtP (uc.alloc (.cells Qz 25)) (fun b=>P b∨(R0<b∧b<(uc.alloc (.cells Qz 25)).heap.size∧b≠uc.heap.size)) (.mk k5 n5 m5 b5 v5 ts5) (.slice A5 L5 c5) from TAtP.keep _ HTA.out (fun b hb=>⟨by rcases hb with hb | hb;exact .inl hb;exact .inr ⟨hb.1,Ql hb.2 hb9.size,by omega⟩,hb9.block b (by rcases hb with hb | hb;exact Ql (HB3.out.hP b hb).1 (by omega);exact hb.2)⟩))
   replace HNu:=Qh (HNu.out.below hb)
   replace GG:=Qh (grown_trans GG.out (grown_below hb))
   clear hb9
   clear hb
   refine hK.out _ _ (fun _=>HS.out _ GG.out) ?_
   generalize uc.alloc (.cells Qz 25)=ua at *
   generalize uc.heap.size=AB at *
   refine w1 9 fun K hK=>?_
   obtain ⟨d0,d1,d2,d3,d4,d5⟩:=HAB.out.1.cells rfl rfl
   obtain ⟨f0,f1,f2,f3,f4,f5⟩:=HAB.out.1.frozens
   go_simp
   refine hK.out _ _ (fun h=>absurd h (by simp)) ?_
   refine wpAnyW_done (by kernel_rfl) ?_ _
   obtain ⟨hbx,hgr⟩:=HAB.out.1.set6 (k:=k5) (b:=b5) (v:=v5) (n:=n5) (m:=m5) ts5 (.slice A5 L5 c5) HL5.out.1 HL5.out.2.1
   generalize (((((ua.setCell ⟨AB,0,none⟩ (.int .i64 k5)).setCell ⟨AB,1,none⟩ (.string nb5)).setCell ⟨AB,2,none⟩ (.string mb5)).setCell ⟨AB,3,none⟩ (.int .u64 b5)).setCell ⟨AB,4,none⟩ (.int .i64 v5)).setCell ⟨AB,5,none⟩ (.slice A5 L5 c5)=w5 at *
   have hAB:=HAB.out.2
   have hsz:=HSz.out
   have hR0:=HR0.out
   have hlt:=HLT.out
   have HG5:=Qh (show w.grownBy w5 (some N) from gb_new (grown_trans HG3.out GG.out) hgr (by omega))
   have HB5:=Qh (HBF.out.go HG5.out)
   have HM5:=Qh (show TBox w5 M (varT nx) (.slice none 0 0) from (HM3.out.gro GG.out (by omega)).gro hgr (by omega))
   have HR5:=Qh (show TBox w5 R0 zeroT (.slice none 0 0) from (HR3.out.gro GG.out (by omega)).gro hgr (by omega))
   have HN5:=Qh (HNu.out.gro hgr (by omega) (by omega))
   have HT5:=Qh (show TAtP w5 (fun b=>P b∨(R0<b∧b<w5.heap.size)) (.mk k5 n5 m5 b5 v5 ts5) (.slice A5 L5 c5) from TAtP.keep _ HTA.out (fun b hb=>⟨by rcases hb with hb | hb;exact .inl hb;exact .inr ⟨hb.1,Ql hb.2.1 hgr.size⟩,hgr.block b (by rcases hb with hb | hb;exact Ql (HB3.out.hP b hb).1 GG.out.size;exact hb.2.1) (fun e=>by injection e with e;rcases hb with hb | hb;have:=(HBF.out.hP b hb).1;omega;omega)⟩))
   have HU5:=Qh (HU.out.1.grown HG5.out HU.out.2)
   obtain ⟨a0,a1,a2,a3,a4,a5⟩:=hbx.cells HL5.out.1 HL5.out.2.1
   have t5:=(HB5.out.t1.cells HM.out.1.1 HM.out.1.2).2.2.2.2.2
   have hgb:w5.heap[g]?=w.heap[g]?:=HG5.out.block g HPb.out.1.1 (fun e=>HPb.out.1.2 (by injection e))
   obtain ⟨_,q0,q1,q2,q3,q4,q5⟩:=HEy.out
   replace q0:=(Qc (a:=⟨g,o+6,none⟩) hgb).trans q0
   replace q1:=(Qc (a:=⟨g,o+6+1,none⟩) hgb).trans q1
   replace q2:=(Qc (a:=⟨g,o+6+2,none⟩) hgb).trans q2
   replace q3:=(Qc (a:=⟨g,o+6+3,none⟩) hgb).trans q3
   replace q4:=(Qc (a:=⟨g,o+6+4,none⟩) hgb).trans q4
   replace q5:=(Qc (a:=⟨g,o+6+5,none⟩) hgb).trans q5
   obtain ⟨r0,r1,r2,r3,r4,r5⟩:=HM5.out.cells (nb:=⟨#[]⟩) (mb:=⟨#[]⟩) rfl rfl
   obtain ⟨y0,y1,y2,y3,y4,y5⟩:=HB5.out.t3.cells HM.out.2.2.2.1.1 HM.out.2.2.2.1.2
   have cF:=cell_of_one HB5.out.t0
   have HCy:=Qh (fun u (hb:Below w5.heap.size w5 u)=>HY.out u P _ _ _ _ _ Q N n1' (fun b hb2=>⟨Ql (HB5.out.hP b hb2).1 hb.size,(HB5.out.hP b hb2).2⟩) ((TAtP.gro HEy.out.1 HBF.out.hP HG5.out).below hb (fun b hb2=>(HB5.out.hP b hb2).1))
    (var_at u P (n:=nx) (by have:=HBd.out;have:=sz_pos (.mk k1 n1 m1 b1 v1 ts1);omega)) (HB5.out.x3.below hb (fun b hb2=>(HB5.out.hP b hb2).1)) (HN5.out.below hb) (by have:=HBd.out;have:=HNx.out;omega) (by have:=HBd.out;have:=HNx.out;omega) HCk.out.2 (HU5.out.below hb) HU.out.2)
   rw [HRY.out,valT_mk HM.out.2.2.2.2.1 HM.out.2.2.2.2.2,valT_mk HM.out.2.2.2.1.1 HM.out.2.2.2.1.2,show valT (varT nx) (.slice none 0 0) = .agg (Qv nx) from rfl,show freshV Q = .func (.func 60) #[] #[.pointer (some ⟨Q,0,none⟩)] from rfl] at HCy
   have HS3:=Qh (show ∀ z,w5.grownBy z (some N)→((Q6 z AB k5 nb5 mb5 b5 v5 (.slice A5 L5 c5))∧z.cell? ⟨G,5,none⟩=some (.slice (some ⟨g,o,none⟩) 2 c)∧(Q7 z g (o+6) k4 nb4 mb4 b4 v4 (.slice A4 L4 c4))∧(Q6 z M 1 ⟨#[]⟩ ⟨#[]⟩ 0 nx (.slice none 0 0))∧(Q6 z G2 k3 nb3 mb3 b3 v3 (.slice A3 L3 c3))∧z.cell? ⟨Fb,0,none⟩=some (.func (.func 60) #[] #[.pointer (some ⟨Q,0,none⟩)])) from fun z hg=>by
    have hb:=HB5.out.go hg
    have hz:z.heap[g]?=w5.heap[g]?:=hg.block g (Ql HPb.out.1.1 HG5.out.size) (fun e=>HPb.out.1.2 (by injection e))
    exact ⟨(TBox.gro hbx hg (by omega)).cells HL5.out.1 HL5.out.2.1,(hb.t1.cells HM.out.1.1 HM.out.1.2).2.2.2.2.2,⟨(Qc (a:=⟨g,o+6,none⟩) hz).trans q0,(Qc (a:=⟨g,o+6+1,none⟩) hz).trans q1,(Qc (a:=⟨g,o+6+2,none⟩) hz).trans q2,(Qc (a:=⟨g,o+6+3,none⟩) hz).trans q3,(Qc (a:=⟨g,o+6+4,none⟩) hz).trans q4,(Qc (a:=⟨g,o+6+5,none⟩) hz).trans q5⟩,
     (HM5.out.gro hg (by omega)).cells rfl rfl,hb.t3.cells HM.out.2.2.2.1.1 HM.out.2.2.2.1.2,cell_of_one hb.t0⟩)
   clear hAB hsz hR0 hlt hbx hgr hgb KK GG HAB HTA HNu HCx HS HRY a0 a1 a2 a3 a4 a5 t5 q0 q1 q2 q3 q4 q5 r0 r1 r2 r3 r4 r5 y0 y1 y2 y3 y4 y5 cF
   go_upto_region 3 with fail
   refine wp_region_wait (fun z=>((Q6 z AB k5 nb5 mb5 b5 v5 (.slice A5 L5 c5))∧z.cell? ⟨G,5,none⟩=some (.slice (some ⟨g,o,none⟩) 2 c)∧(Q7 z g (o+6) k4 nb4 mb4 b4 v4 (.slice A4 L4 c4))∧(Q6 z M 1 ⟨#[]⟩ ⟨#[]⟩ 0 nx (.slice none 0 0))∧(Q6 z G2 k3 nb3 mb3 b3 v3 (.slice A3 L3 c3))∧z.cell? ⟨Fb,0,none⟩=some (.func (.func 60) #[] #[.pointer (some ⟨Q,0,none⟩)]))) 12 (by kernel_rfl) ?_
   change wpAnyW _ _ _ _ _ _ _ _ _ w5.drew
   have KY:=Qh (below_drew' w5)
   generalize w5.drew=v0 at *
   refine w3 12 0 (.string sb) (HS3.out _ (grown_below KY.out)) ?_ ?_
   ·intro w5 hSw
    obtain ⟨⟨a0,a1,a2,a3,a4,a5⟩,s1,⟨q0,q1,q2,q3,q4,q5⟩,⟨r0,r1,r2,r3,r4,r5⟩,⟨y0,y1,y2,y3,y4,y5⟩,s2⟩:=hSw
    go_simp
   refine w3 12 1 (.agg (Q5 k5 nb5 mb5 b5 v5 (.slice A5 L5 c5))) (HS3.out _ (grown_below KY.out)) ?_ ?_
   ·intro w5 hSw
    obtain ⟨⟨a0,a1,a2,a3,a4,a5⟩,s1,⟨q0,q1,q2,q3,q4,q5⟩,⟨r0,r1,r2,r3,r4,r5⟩,⟨y0,y1,y2,y3,y4,y5⟩,s2⟩:=hSw
    go_simp
   refine w3 12 2 (.pointer (some ⟨G,5,none⟩)) (HS3.out _ (grown_below KY.out)) ?_ ?_
   ·intro w5 hSw
    obtain ⟨⟨a0,a1,a2,a3,a4,a5⟩,s1,⟨q0,q1,q2,q3,q4,q5⟩,⟨r0,r1,r2,r3,r4,r5⟩,⟨y0,y1,y2,y3,y4,y5⟩,s2⟩:=hSw
    go_simp
   refine w3 12 3 (.slice (some ⟨g,o,none⟩) 2 c) (HS3.out _ (grown_below KY.out)) ?_ ?_
   ·intro w5 hSw
    obtain ⟨⟨a0,a1,a2,a3,a4,a5⟩,s1,⟨q0,q1,q2,q3,q4,q5⟩,⟨r0,r1,r2,r3,r4,r5⟩,⟨y0,y1,y2,y3,y4,y5⟩,s2⟩:=hSw
    go_simp
   refine w3 12 4 (.pointer (some ⟨g,o+6,none⟩)) (HS3.out _ (grown_below KY.out)) ?_ ?_
   ·intro w5 hSw
    obtain ⟨⟨a0,a1,a2,a3,a4,a5⟩,s1,⟨q0,q1,q2,q3,q4,q5⟩,⟨r0,r1,r2,r3,r4,r5⟩,⟨y0,y1,y2,y3,y4,y5⟩,s2⟩:=hSw
    go_simp
   refine w3 12 5 (.agg (Q5 k4 nb4 mb4 b4 v4 (.slice A4 L4 c4))) (HS3.out _ (grown_below KY.out)) ?_ ?_
   ·intro w5 hSw
    obtain ⟨⟨a0,a1,a2,a3,a4,a5⟩,s1,⟨q0,q1,q2,q3,q4,q5⟩,⟨r0,r1,r2,r3,r4,r5⟩,⟨y0,y1,y2,y3,y4,y5⟩,s2⟩:=hSw
    go_simp
   refine w3 12 6 (.agg (Qv nx)) (HS3.out _ (grown_below KY.out)) ?_ ?_
   ·intro w5 hSw
    obtain ⟨⟨a0,a1,a2,a3,a4,a5⟩,s1,⟨q0,q1,q2,q3,q4,q5⟩,⟨r0,r1,r2,r3,r4,r5⟩,⟨y0,y1,y2,y3,y4,y5⟩,s2⟩:=hSw
    go_simp
   refine w3 12 7 (.agg (Q5 k3 nb3 mb3 b3 v3 (.slice A3 L3 c3))) (HS3.out _ (grown_below KY.out)) ?_ ?_
   ·intro w5 hSw
    obtain ⟨⟨a0,a1,a2,a3,a4,a5⟩,s1,⟨q0,q1,q2,q3,q4,q5⟩,⟨r0,r1,r2,r3,r4,r5⟩,⟨y0,y1,y2,y3,y4,y5⟩,s2⟩:=hSw
    go_simp
   refine w3 12 8 (.func (.func 60) #[] #[.pointer (some ⟨Q,0,none⟩)]) (HS3.out _ (grown_below KY.out)) ?_ ?_
   ·intro w5 hSw
    obtain ⟨⟨a0,a1,a2,a3,a4,a5⟩,s1,⟨q0,q1,q2,q3,q4,q5⟩,⟨r0,r1,r2,r3,r4,r5⟩,⟨y0,y1,y2,y3,y4,y5⟩,s2⟩:=hSw
    go_simp
   cases RY with
   | error bt=>
    have hRE:=HRR.out
    change Except.error bt=RR at hRE
    subst hRE
    refine w1 9 fun K hK=>?_
    go_simp
    (with_reducible refine (HCy.out _ KY.out).mono ?_)
    rintro e u1 hp
    obtain ⟨hg,bb,rfl,hball⟩:=hp.bad
    exact ⟨rfl,grown_trans HG5.out (grown_trans (grown_below KY.out) hg),bb,rfl,hball⟩
   | ok pp=>
    obtain ⟨cc,n2'⟩:=pp
    obtain ⟨k6,n6,m6,b6,v6,ts6⟩:=cc
    obtain ⟨nb6,hnb6⟩:∃ nb:ByteArray,(⟨n6.toArray⟩:ByteArray)=nb:=⟨_,rfl⟩
    obtain ⟨mb6,hmb6⟩:∃ mb:ByteArray,(⟨m6.toArray⟩:ByteArray)=mb:=⟨_,rfl⟩
    obtain ⟨L6,hL6⟩:∃ L,ts6.length=L:=⟨_,rfl⟩
    have HL6:=Qh (Qa hnb6 (Qa hmb6 hL6))
    have hRE:=HRR.out
    change Except.ok (cmpT s [.mk k5 n5 m5 b5 v5 ts5,.mk k6 n6 m6 b6 v6 ts6],n2')=RR at hRE
    have HRE:=Qh hRE
    clear hnb6 hmb6 hL6 hRE
    refine w1 9 fun K hK=>?_
    go_simp
    (with_reducible refine (HCy.out _ KY.out).mono ?_)
    rintro e w6 hp
    obtain ⟨A6,c6,rfl,hta6,hnu6,hg60⟩:=hp.letters HL6.out.1 HL6.out.2.1 HL6.out.2.2
    have hg6:=grown_trans (grown_below (r:=some N) KY.out) hg60
    have HG6:=Qh hg6
    refine hK.out _ _ (fun _=>HS3.out _ HG6.out) ?_
    have hv0:=KY.out.size
    have hP6:∀ b,(P b∨(R0<b∧b<w6.heap.size))→b<w6.heap.size:=fun b hb=>by
     rcases hb with hb | hb
     ·exact Ql (HB5.out.hP b hb).1 hg6.size
     ·exact hb.2
    have ht5:TAtP w6 (fun b=>P b∨(R0<b∧b<w6.heap.size)) (.mk k5 n5 m5 b5 v5 ts5) (.slice A5 L5 c5):=TAtP.keep _ HT5.out (fun b hb=>⟨by rcases hb with hb | hb;exact .inl hb;exact .inr ⟨hb.1,Ql hb.2 hg6.size⟩,hg6.block b (by rcases hb with hb | hb;exact (HB5.out.hP b hb).1;exact hb.2) (fun e=>by injection e with e;rcases hb with hb | hb;exact (HBF.out.hP b hb).2 e;have:=HSz.out;omega)⟩)
    have h5s:=HR5.out.lt
    have ht6:TAtP w6 (fun b=>P b∨(R0<b∧b<w6.heap.size)) (.mk k6 n6 m6 b6 v6 ts6) (.slice A6 L6 c6):=hta6.wide (fun b hb=>by
     rcases hb with hb | hb
     ·exact .inl hb
     ·exact .inr ⟨by omega,hb.2⟩)
    have hbu:=built (w:=w6) (s:=s) (n:=2) (cs:=#[.int .i64 k5,.string nb5,.string mb5,.int .u64 b5,.int .i64 v5,.slice A5 L5 c5,.int .i64 k6,.string nb6,.string mb6,.int .u64 b6,.int .i64 v6,.slice A6 L6 c6]) (ps:=[((.mk k5 n5 m5 b5 v5 ts5:Tm),Value.slice A5 L5 c5),((.mk k6 n6 m6 b6 v6 ts6:Tm),Value.slice A6 L6 c6)]) (by rw [←HL5.out.1,←HL5.out.2.1,←HL6.out.1,←HL6.out.2.1];rfl) rfl (mem2 ht5 ht6) hP6 (by unfold maxArgs;omega) HSs.out.1
    have hb7:Below w6.heap.size w6 (w6.alloc (.cells #[.int .i64 k5,.string nb5,.string mb5,.int .u64 b5,.int .i64 v5,.slice A5 L5 c5,.int .i64 k6,.string nb6,.string mb6,.int .u64 b6,.int .i64 v6,.slice A6 L6 c6] 25)):=Qb
    have hs7:(w6.alloc (.cells #[.int .i64 k5,.string nb5,.string mb5,.int .u64 b5,.int .i64 v5,.slice A5 L5 c5,.int .i64 k6,.string nb6,.string mb6,.int .u64 b6,.int .i64 v6,.slice A6 L6 c6] 25)).heap.size=w6.heap.size+1:=by simp
    have HX6:=Qh (Qa hP6 (Qa hbu (Qa hb7 (Qa hs7 hnu6))))
    clear hP6 ht5 ht6 hbu hb7 hs7 hta6 hnu6 hg6 hg60 hp h5s hv0
    refine w1 10 fun K hK=>?_
    go_simp
    refine hK.out _ _ (fun _=>HS3.out _ (grown_trans HG6.out (grown_below HX6.out.2.2.1))) ?_
    generalize w6.alloc (.cells #[.int .i64 k5,.string nb5,.string mb5,.int .u64 b5,.int .i64 v5,.slice A5 L5 c5,.int .i64 k6,.string nb6,.string mb6,.int .u64 b6,.int .i64 v6,.slice A6 L6 c6] 25)=w7 at *
    refine w1 11 fun K hK=>?_
    go_simp
    (with_reducible refine (of_any _ _ _ _ _).mono ?_)
    rintro e w8 ⟨rfl,hb8⟩
    have HE8:=Qh hb8
    refine hK.out _ _ (fun _=>HS3.out _ (grown_trans HG6.out (grown_below (Qt HX6.out.2.2.1 hb8)))) ?_
    have HR8:=Qh ((HR5.out.gro HG6.out (by have:=HSz.out;omega)).below (Qt HX6.out.2.2.1 hb8))
    clear hb8
    refine w1 12 fun K hK=>?_
    obtain ⟨z0,z1,z2,z3,z4,z5⟩:=HR8.out.cells rfl rfl
    obtain ⟨f0,f1,f2,f3,f4,f5⟩:=HR8.out.frozens
    go_simp
    refine hK.out _ _ (fun h=>absurd h (by simp)) ?_
    refine wpAnyW_done (by kernel_rfl) ?_ _
    clear z0 z1 z2 z3 z4 z5 f0 f1 f2 f3 f4 f5
    go_wp2
    obtain ⟨hP6,hbu,hb7,hs7,hnu6⟩:=HX6.out
    have hg6:=HG6.out
    have hb8:=HE8.out
    have h5s:=HR5.out.lt
    obtain ⟨hbx,hgr⟩:=HR8.out.set6 (k:=5) (b:=0) (v:=0) (n:=s) (m:=[]) [.mk k5 n5 m5 b5 v5 ts5,.mk k6 n6 m6 b6 v6 ts6] (.slice (some ⟨w6.heap.size,0,none⟩) 2 2) HSs.out.2 rfl
    generalize (((((w8.setCell ⟨R0,0,none⟩ (.int .i64 5)).setCell ⟨R0,1,none⟩ (.string sb)).setCell ⟨R0,2,none⟩ (.string ⟨#[]⟩)).setCell ⟨R0,3,none⟩ (.int .u64 0)).setCell ⟨R0,4,none⟩ (.int .i64 0)).setCell ⟨R0,5,none⟩ (.slice (some ⟨w6.heap.size,0,none⟩) 2 2)=w9 at *
    obtain ⟨r0,r1,r2,r3,r4,r5⟩:=hbx.cells HSs.out.2 rfl
    have hR0:=HR0.out
    have hsz:=HSz.out
    have hs6:=hg6.size
    have hs8:=hb8.size
    refine bodyPost_ret (v:=.agg (Qn 5 sb (.slice (some ⟨w6.heap.size,0,none⟩) 2 2))) (by simp [results,Tryd.results63,go_sem,r0,r1,r2,r3,r4,r5]) rfl ?_
    rw [←HRE.out]
    refine ⟨?_,⟨_,congrArg Ending.returned (valT_mk HSs.out.2 rfl).symm,?_⟩,?_⟩
    ·exact gb_new (grown_trans HG5.out (grown_trans hg6 (grown_below (hb7.trans (hb8.mono (by omega)))))) hgr (by omega)
    ·refine TAtP.keep _ hbu (fun b hb=>?_)
     have hb1:b<w7.heap.size:=by rcases hb with hb | hb;have:=hP6 b hb;omega;omega
     refine ⟨?_,(hgr.block b (by omega) (fun e=>?_)).trans (hb8.block b hb1)⟩
     ·rcases hb with hb | hb
      ·rcases hb with hb | hb
       ·exact .inl hb
       ·exact .inr ⟨by omega,by have:=hgr.size;omega⟩
      ·exact .inr ⟨by omega,by have:=hgr.size;omega⟩
     ·injection e with e
      rcases hb with hb | hb
      ·rcases hb with hb | hb
       ·have:=(HBF.out.hP b hb).1;omega
       ·omega
      ·omega
    ·exact ((hnu6.below (hb7.trans (hb8.mono (by omega)))).gro hgr (by have:=HLT.out;omega) (by omega))
  ·go_simp
   have hb:Below u0.heap.size u0 (u0.alloc (.cells Qz 25)):=Qb
   have HAB:=Qh (show TBox (u0.alloc (.cells Qz 25)) u0.heap.size zeroT (.slice none 0 0)∧u0.heap.size≠N∧R0<u0.heap.size∧M<u0.heap.size from ⟨heap_alloc_new u0 _,by have:=HSz.out;have:=KK.out.size;omega,by have:=HSz.out;have:=KK.out.size;omega,by have:=HSz.out;have:=KK.out.size;omega⟩)
   replace KK:=Qh (Qt KK.out hb)
   clear hb
   refine hK.out _ _ (fun _=>HS.out _ (grown_below KK.out)) ?_
   generalize u0.alloc (.cells Qz 25)=ua at *
   generalize u0.heap.size=AB at *
   refine w1 7 fun K hK=>?_
   go_simp
   (with_reducible refine (HCx.out _ KK.out).mono ?_)
   rintro e uc hp
   obtain ⟨A5,c5,rfl,hta,hnu,hg⟩:=hp.letters HL5.out.1 HL5.out.2.1 HL5.out.2.2
   have GG:=Qh (grown_trans (grown_below (r:=some N) KK.out) hg)
   have KZ:=KK.out.size
   have GZ:=hg.size
   have HTA:=Qh (show TAtP uc (fun b=>P b∨(R0<b∧b<uc.heap.size∧b≠AB)) (.mk k5 n5 m5 b5 v5 ts5) (.slice A5 L5 c5) from hta.wide (fun b hb=>by rcases hb with hb | hb;exact .inl hb;exact .inr ⟨by have:=HSz.out;omega,hb.2,by have:=HAB.out.1.lt;omega⟩))
   have HNu:=Qh hnu
   replace HAB:=Qh (show TBox uc AB zeroT (.slice none 0 0)∧AB≠N∧R0<AB∧M<AB from ⟨HAB.out.1.gro hg HAB.out.2.1,HAB.out.2⟩)
   clear hta hnu hg hp
   refine hK.out _ _ (fun _=>HS.out _ GG.out) ?_
   refine w1 9 fun K hK=>?_
   obtain ⟨d0,d1,d2,d3,d4,d5⟩:=HAB.out.1.cells rfl rfl
   obtain ⟨f0,f1,f2,f3,f4,f5⟩:=HAB.out.1.frozens
   go_simp
   refine hK.out _ _ (fun h=>absurd h (by simp)) ?_
   refine wpAnyW_done (by kernel_rfl) ?_ _
   obtain ⟨hbx,hgr⟩:=HAB.out.1.set6 (k:=k5) (b:=b5) (v:=v5) (n:=n5) (m:=m5) ts5 (.slice A5 L5 c5) HL5.out.1 HL5.out.2.1
   generalize (((((uc.setCell ⟨AB,0,none⟩ (.int .i64 k5)).setCell ⟨AB,1,none⟩ (.string nb5)).setCell ⟨AB,2,none⟩ (.string mb5)).setCell ⟨AB,3,none⟩ (.int .u64 b5)).setCell ⟨AB,4,none⟩ (.int .i64 v5)).setCell ⟨AB,5,none⟩ (.slice A5 L5 c5)=w5 at *
   have hAB:=HAB.out.2
   have hsz:=HSz.out
   have hR0:=HR0.out
   have hlt:=HLT.out
   have HG5:=Qh (show w.grownBy w5 (some N) from gb_new (grown_trans HG3.out GG.out) hgr (by omega))
   have HB5:=Qh (HBF.out.go HG5.out)
   have HM5:=Qh (show TBox w5 M (varT nx) (.slice none 0 0) from (HM3.out.gro GG.out (by omega)).gro hgr (by omega))
   have HR5:=Qh (show TBox w5 R0 zeroT (.slice none 0 0) from (HR3.out.gro GG.out (by omega)).gro hgr (by omega))
   have HN5:=Qh (HNu.out.gro hgr (by omega) (by omega))
   have HT5:=Qh (show TAtP w5 (fun b=>P b∨(R0<b∧b<w5.heap.size)) (.mk k5 n5 m5 b5 v5 ts5) (.slice A5 L5 c5) from TAtP.keep _ HTA.out (fun b hb=>⟨by rcases hb with hb | hb;exact .inl hb;exact .inr ⟨hb.1,Ql hb.2.1 hgr.size⟩,hgr.block b (by rcases hb with hb | hb;exact Ql (HB3.out.hP b hb).1 GG.out.size;exact hb.2.1) (fun e=>by injection e with e;rcases hb with hb | hb;have:=(HBF.out.hP b hb).1;omega;omega)⟩))
   have HU5:=Qh (HU.out.1.grown HG5.out HU.out.2)
   obtain ⟨a0,a1,a2,a3,a4,a5⟩:=hbx.cells HL5.out.1 HL5.out.2.1
   have t5:=(HB5.out.t1.cells HM.out.1.1 HM.out.1.2).2.2.2.2.2
   have hgb:w5.heap[g]?=w.heap[g]?:=HG5.out.block g HPb.out.1.1 (fun e=>HPb.out.1.2 (by injection e))
   obtain ⟨_,q0,q1,q2,q3,q4,q5⟩:=HEy.out
   replace q0:=(Qc (a:=⟨g,o+6,none⟩) hgb).trans q0
   replace q1:=(Qc (a:=⟨g,o+6+1,none⟩) hgb).trans q1
   replace q2:=(Qc (a:=⟨g,o+6+2,none⟩) hgb).trans q2
   replace q3:=(Qc (a:=⟨g,o+6+3,none⟩) hgb).trans q3
   replace q4:=(Qc (a:=⟨g,o+6+4,none⟩) hgb).trans q4
   replace q5:=(Qc (a:=⟨g,o+6+5,none⟩) hgb).trans q5
   obtain ⟨r0,r1,r2,r3,r4,r5⟩:=HM5.out.cells (nb:=⟨#[]⟩) (mb:=⟨#[]⟩) rfl rfl
   obtain ⟨y0,y1,y2,y3,y4,y5⟩:=HB5.out.t3.cells HM.out.2.2.2.1.1 HM.out.2.2.2.1.2
   have cF:=cell_of_one HB5.out.t0
   have HCy:=Qh (fun u (hb:Below w5.heap.size w5 u)=>HY.out u P _ _ _ _ _ Q N n1' (fun b hb2=>⟨Ql (HB5.out.hP b hb2).1 hb.size,(HB5.out.hP b hb2).2⟩) ((TAtP.gro HEy.out.1 HBF.out.hP HG5.out).below hb (fun b hb2=>(HB5.out.hP b hb2).1))
    (var_at u P (n:=nx) (by have:=HBd.out;have:=sz_pos (.mk k1 n1 m1 b1 v1 ts1);omega)) (HB5.out.x3.below hb (fun b hb2=>(HB5.out.hP b hb2).1)) (HN5.out.below hb) (by have:=HBd.out;have:=HNx.out;omega) (by have:=HBd.out;have:=HNx.out;omega) HCk.out.2 (HU5.out.below hb) HU.out.2)
   rw [HRY.out,valT_mk HM.out.2.2.2.2.1 HM.out.2.2.2.2.2,valT_mk HM.out.2.2.2.1.1 HM.out.2.2.2.1.2,show valT (varT nx) (.slice none 0 0) = .agg (Qv nx) from rfl,show freshV Q = .func (.func 60) #[] #[.pointer (some ⟨Q,0,none⟩)] from rfl] at HCy
   have HS3:=Qh (show ∀ z,w5.grownBy z (some N)→((Q6 z AB k5 nb5 mb5 b5 v5 (.slice A5 L5 c5))∧z.cell? ⟨G,5,none⟩=some (.slice (some ⟨g,o,none⟩) 2 c)∧(Q7 z g (o+6) k4 nb4 mb4 b4 v4 (.slice A4 L4 c4))∧(Q6 z M 1 ⟨#[]⟩ ⟨#[]⟩ 0 nx (.slice none 0 0))∧(Q6 z G2 k3 nb3 mb3 b3 v3 (.slice A3 L3 c3))∧z.cell? ⟨Fb,0,none⟩=some (.func (.func 60) #[] #[.pointer (some ⟨Q,0,none⟩)])) from fun z hg=>by
    have hb:=HB5.out.go hg
    have hz:z.heap[g]?=w5.heap[g]?:=hg.block g (Ql HPb.out.1.1 HG5.out.size) (fun e=>HPb.out.1.2 (by injection e))
    exact ⟨(TBox.gro hbx hg (by omega)).cells HL5.out.1 HL5.out.2.1,(hb.t1.cells HM.out.1.1 HM.out.1.2).2.2.2.2.2,⟨(Qc (a:=⟨g,o+6,none⟩) hz).trans q0,(Qc (a:=⟨g,o+6+1,none⟩) hz).trans q1,(Qc (a:=⟨g,o+6+2,none⟩) hz).trans q2,(Qc (a:=⟨g,o+6+3,none⟩) hz).trans q3,(Qc (a:=⟨g,o+6+4,none⟩) hz).trans q4,(Qc (a:=⟨g,o+6+5,none⟩) hz).trans q5⟩,
     (HM5.out.gro hg (by omega)).cells rfl rfl,hb.t3.cells HM.out.2.2.2.1.1 HM.out.2.2.2.1.2,cell_of_one hb.t0⟩)
   clear hAB hsz hR0 hlt hbx hgr hgb KK GG HAB HTA HNu HCx HS HRY a0 a1 a2 a3 a4 a5 t5 q0 q1 q2 q3 q4 q5 r0 r1 r2 r3 r4 r5 y0 y1 y2 y3 y4 y5 cF
   go_upto_region 3 with fail
   refine wp_region_wait (fun z=>((Q6 z AB k5 nb5 mb5 b5 v5 (.slice A5 L5 c5))∧z.cell? ⟨G,5,none⟩=some (.slice (some ⟨g,o,none⟩) 2 c)∧(Q7 z g (o+6) k4 nb4 mb4 b4 v4 (.slice A4 L4 c4))∧(Q6 z M 1 ⟨#[]⟩ ⟨#[]⟩ 0 nx (.slice none 0 0))∧(Q6 z G2 k3 nb3 mb3 b3 v3 (.slice A3 L3 c3))∧z.cell? ⟨Fb,0,none⟩=some (.func (.func 60) #[] #[.pointer (some ⟨Q,0,none⟩)]))) 12 (by kernel_rfl) ?_
   change wpAnyW _ _ _ _ _ _ _ _ _ w5.drew
   have KY:=Qh (below_drew' w5)
   generalize w5.drew=v0 at *
   refine w3 12 0 (.string sb) (HS3.out _ (grown_below KY.out)) ?_ ?_
   ·intro w5 hSw
    obtain ⟨⟨a0,a1,a2,a3,a4,a5⟩,s1,⟨q0,q1,q2,q3,q4,q5⟩,⟨r0,r1,r2,r3,r4,r5⟩,⟨y0,y1,y2,y3,y4,y5⟩,s2⟩:=hSw
    go_simp
   refine w3 12 1 (.agg (Q5 k5 nb5 mb5 b5 v5 (.slice A5 L5 c5))) (HS3.out _ (grown_below KY.out)) ?_ ?_
   ·intro w5 hSw
    obtain ⟨⟨a0,a1,a2,a3,a4,a5⟩,s1,⟨q0,q1,q2,q3,q4,q5⟩,⟨r0,r1,r2,r3,r4,r5⟩,⟨y0,y1,y2,y3,y4,y5⟩,s2⟩:=hSw
    go_simp
   refine w3 12 2 (.pointer (some ⟨G,5,none⟩)) (HS3.out _ (grown_below KY.out)) ?_ ?_
   ·intro w5 hSw
    obtain ⟨⟨a0,a1,a2,a3,a4,a5⟩,s1,⟨q0,q1,q2,q3,q4,q5⟩,⟨r0,r1,r2,r3,r4,r5⟩,⟨y0,y1,y2,y3,y4,y5⟩,s2⟩:=hSw
    go_simp
   refine w3 12 3 (.slice (some ⟨g,o,none⟩) 2 c) (HS3.out _ (grown_below KY.out)) ?_ ?_
   ·intro w5 hSw
    obtain ⟨⟨a0,a1,a2,a3,a4,a5⟩,s1,⟨q0,q1,q2,q3,q4,q5⟩,⟨r0,r1,r2,r3,r4,r5⟩,⟨y0,y1,y2,y3,y4,y5⟩,s2⟩:=hSw
    go_simp
   refine w3 12 4 (.pointer (some ⟨g,o+6,none⟩)) (HS3.out _ (grown_below KY.out)) ?_ ?_
   ·intro w5 hSw
    obtain ⟨⟨a0,a1,a2,a3,a4,a5⟩,s1,⟨q0,q1,q2,q3,q4,q5⟩,⟨r0,r1,r2,r3,r4,r5⟩,⟨y0,y1,y2,y3,y4,y5⟩,s2⟩:=hSw
    go_simp
   refine w3 12 5 (.agg (Q5 k4 nb4 mb4 b4 v4 (.slice A4 L4 c4))) (HS3.out _ (grown_below KY.out)) ?_ ?_
   ·intro w5 hSw
    obtain ⟨⟨a0,a1,a2,a3,a4,a5⟩,s1,⟨q0,q1,q2,q3,q4,q5⟩,⟨r0,r1,r2,r3,r4,r5⟩,⟨y0,y1,y2,y3,y4,y5⟩,s2⟩:=hSw
    go_simp
   refine w3 12 6 (.agg (Qv nx)) (HS3.out _ (grown_below KY.out)) ?_ ?_
   ·intro w5 hSw
    obtain ⟨⟨a0,a1,a2,a3,a4,a5⟩,s1,⟨q0,q1,q2,q3,q4,q5⟩,⟨r0,r1,r2,r3,r4,r5⟩,⟨y0,y1,y2,y3,y4,y5⟩,s2⟩:=hSw
    go_simp
   refine w3 12 7 (.agg (Q5 k3 nb3 mb3 b3 v3 (.slice A3 L3 c3))) (HS3.out _ (grown_below KY.out)) ?_ ?_
   ·intro w5 hSw
    obtain ⟨⟨a0,a1,a2,a3,a4,a5⟩,s1,⟨q0,q1,q2,q3,q4,q5⟩,⟨r0,r1,r2,r3,r4,r5⟩,⟨y0,y1,y2,y3,y4,y5⟩,s2⟩:=hSw
    go_simp
   refine w3 12 8 (.func (.func 60) #[] #[.pointer (some ⟨Q,0,none⟩)]) (HS3.out _ (grown_below KY.out)) ?_ ?_
   ·intro w5 hSw
    obtain ⟨⟨a0,a1,a2,a3,a4,a5⟩,s1,⟨q0,q1,q2,q3,q4,q5⟩,⟨r0,r1,r2,r3,r4,r5⟩,⟨y0,y1,y2,y3,y4,y5⟩,s2⟩:=hSw
    go_simp
   cases RY with
   | error bt=>
    have hRE:=HRR.out
    change Except.error bt=RR at hRE
    subst hRE
    refine w1 9 fun K hK=>?_
    go_simp
    (with_reducible refine (HCy.out _ KY.out).mono ?_)
    rintro e u1 hp
    obtain ⟨hg,bb,rfl,hball⟩:=hp.bad
    exact ⟨rfl,grown_trans HG5.out (grown_trans (grown_below KY.out) hg),bb,rfl,hball⟩
   | ok pp=>
    obtain ⟨cc,n2'⟩:=pp
    obtain ⟨k6,n6,m6,b6,v6,ts6⟩:=cc
    obtain ⟨nb6,hnb6⟩:∃ nb:ByteArray,(⟨n6.toArray⟩:ByteArray)=nb:=⟨_,rfl⟩
    obtain ⟨mb6,hmb6⟩:∃ mb:ByteArray,(⟨m6.toArray⟩:ByteArray)=mb:=⟨_,rfl⟩
    obtain ⟨L6,hL6⟩:∃ L,ts6.length=L:=⟨_,rfl⟩
    have HL6:=Qh (Qa hnb6 (Qa hmb6 hL6))
    have hRE:=HRR.out
    change Except.ok (cmpT s [.mk k5 n5 m5 b5 v5 ts5,.mk k6 n6 m6 b6 v6 ts6],n2')=RR at hRE
    have HRE:=Qh hRE
    clear hnb6 hmb6 hL6 hRE
    refine w1 9 fun K hK=>?_
    go_simp
    (with_reducible refine (HCy.out _ KY.out).mono ?_)
    rintro e w6 hp
    obtain ⟨A6,c6,rfl,hta6,hnu6,hg60⟩:=hp.letters HL6.out.1 HL6.out.2.1 HL6.out.2.2
    have hg6:=grown_trans (grown_below (r:=some N) KY.out) hg60
    have HG6:=Qh hg6
    refine hK.out _ _ (fun _=>HS3.out _ HG6.out) ?_
    have hv0:=KY.out.size
    have hP6:∀ b,(P b∨(R0<b∧b<w6.heap.size))→b<w6.heap.size:=fun b hb=>by
     rcases hb with hb | hb
     ·exact Ql (HB5.out.hP b hb).1 hg6.size
     ·exact hb.2
    have ht5:TAtP w6 (fun b=>P b∨(R0<b∧b<w6.heap.size)) (.mk k5 n5 m5 b5 v5 ts5) (.slice A5 L5 c5):=TAtP.keep _ HT5.out (fun b hb=>⟨by rcases hb with hb | hb;exact .inl hb;exact .inr ⟨hb.1,Ql hb.2 hg6.size⟩,hg6.block b (by rcases hb with hb | hb;exact (HB5.out.hP b hb).1;exact hb.2) (fun e=>by injection e with e;rcases hb with hb | hb;exact (HBF.out.hP b hb).2 e;have:=HSz.out;omega)⟩)
    have h5s:=HR5.out.lt
    have ht6:TAtP w6 (fun b=>P b∨(R0<b∧b<w6.heap.size)) (.mk k6 n6 m6 b6 v6 ts6) (.slice A6 L6 c6):=hta6.wide (fun b hb=>by
     rcases hb with hb | hb
     ·exact .inl hb
     ·exact .inr ⟨by omega,hb.2⟩)
    have hbu:=built (w:=w6) (s:=s) (n:=2) (cs:=#[.int .i64 k5,.string nb5,.string mb5,.int .u64 b5,.int .i64 v5,.slice A5 L5 c5,.int .i64 k6,.string nb6,.string mb6,.int .u64 b6,.int .i64 v6,.slice A6 L6 c6]) (ps:=[((.mk k5 n5 m5 b5 v5 ts5:Tm),Value.slice A5 L5 c5),((.mk k6 n6 m6 b6 v6 ts6:Tm),Value.slice A6 L6 c6)]) (by rw [←HL5.out.1,←HL5.out.2.1,←HL6.out.1,←HL6.out.2.1];rfl) rfl (mem2 ht5 ht6) hP6 (by unfold maxArgs;omega) HSs.out.1
    have hb7:Below w6.heap.size w6 (w6.alloc (.cells #[.int .i64 k5,.string nb5,.string mb5,.int .u64 b5,.int .i64 v5,.slice A5 L5 c5,.int .i64 k6,.string nb6,.string mb6,.int .u64 b6,.int .i64 v6,.slice A6 L6 c6] 25)):=Qb
    have hs7:(w6.alloc (.cells #[.int .i64 k5,.string nb5,.string mb5,.int .u64 b5,.int .i64 v5,.slice A5 L5 c5,.int .i64 k6,.string nb6,.string mb6,.int .u64 b6,.int .i64 v6,.slice A6 L6 c6] 25)).heap.size=w6.heap.size+1:=by simp
    have HX6:=Qh (Qa hP6 (Qa hbu (Qa hb7 (Qa hs7 hnu6))))
    clear hP6 ht5 ht6 hbu hb7 hs7 hta6 hnu6 hg6 hg60 hp h5s hv0
    refine w1 10 fun K hK=>?_
    go_simp
    refine hK.out _ _ (fun _=>HS3.out _ (grown_trans HG6.out (grown_below HX6.out.2.2.1))) ?_
    generalize w6.alloc (.cells #[.int .i64 k5,.string nb5,.string mb5,.int .u64 b5,.int .i64 v5,.slice A5 L5 c5,.int .i64 k6,.string nb6,.string mb6,.int .u64 b6,.int .i64 v6,.slice A6 L6 c6] 25)=w7 at *
    refine w1 11 fun K hK=>?_
    go_simp
    (with_reducible refine (of_any _ _ _ _ _).mono ?_)
    rintro e w8 ⟨rfl,hb8⟩
    have HE8:=Qh hb8
    refine hK.out _ _ (fun _=>HS3.out _ (grown_trans HG6.out (grown_below (Qt HX6.out.2.2.1 hb8)))) ?_
    have HR8:=Qh ((HR5.out.gro HG6.out (by have:=HSz.out;omega)).below (Qt HX6.out.2.2.1 hb8))
    clear hb8
    refine w1 12 fun K hK=>?_
    obtain ⟨z0,z1,z2,z3,z4,z5⟩:=HR8.out.cells rfl rfl
    obtain ⟨f0,f1,f2,f3,f4,f5⟩:=HR8.out.frozens
    go_simp
    refine hK.out _ _ (fun h=>absurd h (by simp)) ?_
    refine wpAnyW_done (by kernel_rfl) ?_ _
    clear z0 z1 z2 z3 z4 z5 f0 f1 f2 f3 f4 f5
    go_wp2
    obtain ⟨hP6,hbu,hb7,hs7,hnu6⟩:=HX6.out
    have hg6:=HG6.out
    have hb8:=HE8.out
    have h5s:=HR5.out.lt
    obtain ⟨hbx,hgr⟩:=HR8.out.set6 (k:=5) (b:=0) (v:=0) (n:=s) (m:=[]) [.mk k5 n5 m5 b5 v5 ts5,.mk k6 n6 m6 b6 v6 ts6] (.slice (some ⟨w6.heap.size,0,none⟩) 2 2) HSs.out.2 rfl
    generalize (((((w8.setCell ⟨R0,0,none⟩ (.int .i64 5)).setCell ⟨R0,1,none⟩ (.string sb)).setCell ⟨R0,2,none⟩ (.string ⟨#[]⟩)).setCell ⟨R0,3,none⟩ (.int .u64 0)).setCell ⟨R0,4,none⟩ (.int .i64 0)).setCell ⟨R0,5,none⟩ (.slice (some ⟨w6.heap.size,0,none⟩) 2 2)=w9 at *
    obtain ⟨r0,r1,r2,r3,r4,r5⟩:=hbx.cells HSs.out.2 rfl
    have hR0:=HR0.out
    have hsz:=HSz.out
    have hs6:=hg6.size
    have hs8:=hb8.size
    refine bodyPost_ret (v:=.agg (Qn 5 sb (.slice (some ⟨w6.heap.size,0,none⟩) 2 2))) (by simp [results,Tryd.results63,go_sem,r0,r1,r2,r3,r4,r5]) rfl ?_
    rw [←HRE.out]
    refine ⟨?_,⟨_,congrArg Ending.returned (valT_mk HSs.out.2 rfl).symm,?_⟩,?_⟩
    ·exact gb_new (grown_trans HG5.out (grown_trans hg6 (grown_below (hb7.trans (hb8.mono (by omega)))))) hgr (by omega)
    ·refine TAtP.keep _ hbu (fun b hb=>?_)
     have hb1:b<w7.heap.size:=by rcases hb with hb | hb;have:=hP6 b hb;omega;omega
     refine ⟨?_,(hgr.block b (by omega) (fun e=>?_)).trans (hb8.block b hb1)⟩
     ·rcases hb with hb | hb
      ·rcases hb with hb | hb
       ·exact .inl hb
       ·exact .inr ⟨by omega,by have:=hgr.size;omega⟩
      ·exact .inr ⟨by omega,by have:=hgr.size;omega⟩
     ·injection e with e
      rcases hb with hb | hb
      ·rcases hb with hb | hb
       ·have:=(HBF.out.hP b hb).1;omega
       ·omega
      ·omega
    ·exact ((hnu6.below (hb7.trans (hb8.mono (by omega)))).gro hgr (by have:=HLT.out;omega) (by omega))
end Go.Proofs.YtgfeainpeplphaaDoor
namespace Ht
theorem sz_two {k b v:Int} {n m:List UInt8} {x y:Tm} : sz (.mk k n m b v [x,y])=sz x+sz y+1:=by simp [sz,szs]
theorem sz_one {k b v:Int} {n m:List UInt8} {x:Tm} : sz (.mk k n m b v [x])=sz x+1:=by simp [sz,szs]
theorem mkB_var {n m:List UInt8} {b v:Int} {ts:List Tm} {f d:Tm} {nx:Int} : mkB (.mk 1 n m b v ts) f d nx = .ok (cmpT sPhrase [.mk 1 n m b v ts,f,d],nx):=by
 rw [mkB.eq_def];simp
theorem mkB_seq {n m:List UInt8} {b v:Int} {x y f d:Tm} {nx:Int} (h:n=sComma∨n=sArrow):mkB (.mk 5 n m b v [x,y]) f d nx=seqR n x y f d nx:=by
 rw [mkB.eq_def,seqR]
 rcases hm:mkB x f (varT nx) (nx+1) with e | ⟨a,n1⟩
 ·simp [h,hm]
 ·rcases hm2:mkB y (varT nx) d n1 with e | ⟨c,n2⟩
  ·simp [h,hm,hm2]
  ·simp [h,hm,hm2]
def altR (x y f d:Tm) (nx:Int):Except Tm (Tm × Int):=
 match mkB x f d nx with
 | .error e=>.error e
 | .ok (a,n1)=>match mkB y f d n1 with
  | .error e=>.error e
  | .ok (c,n2)=>.ok (cmpT sSemi [a,c],n2)
theorem altR_bad {x y f d e:Tm} {nx:Int} (h:mkB x f d nx = .error e):altR x y f d nx = .error e:=by rw [altR,h]
theorem altR_ok {x y f d a:Tm} {nx n1:Int} (h:mkB x f d nx = .ok (a,n1)):altR x y f d nx=seqK sSemi a (mkB y f d n1):=by
 rw [altR,h]
 cases hm:mkB y f d n1 with
 | error e=>simp [hm,seqK]
 | ok p=>simp [hm,seqK]
theorem mkB_alt {n m:List UInt8} {b v:Int} {x y f d:Tm} {nx:Int} (h:n=sSemi∨n=sBar):mkB (.mk 5 n m b v [x,y]) f d nx=altR x y f d nx:=by
 have h1:¬(n=sComma∨n=sArrow):=by rcases h with rfl | rfl <;> decide
 rw [mkB.eq_def,altR]
 rcases hm:mkB x f d nx with e | ⟨a,n1⟩
 ·simp [h,h1,hm]
 ·rcases hm2:mkB y f d n1 with e | ⟨c,n2⟩
  ·simp [h,h1,hm,hm2]
  ·simp [h,h1,hm,hm2]
def negK (f d:Tm):Except Tm (Tm × Int)→Except Tm (Tm × Int)
 | .error e=>.error e
 | .ok (a,n1)=>.ok (cmpT sComma [cmpT sNot [a],eqT f d],n1)
theorem mkB_neg {m:List UInt8} {b v:Int} {x f d:Tm} {nx:Int} : mkB (.mk 5 sNot m b v [x]) f d nx=negK f d (mkB x f (varT nx) (nx+1)):=by
 rw [mkB.eq_def]
 simp only [if_pos]
 rw [if_neg (by decide)]
 cases hm:mkB x f (varT nx) (nx+1) with
 | error e=>simp [hm,negK]
 | ok p=>simp [hm,negK]
theorem mkB_curly {m:List UInt8} {b v:Int} {x f d:Tm} {nx:Int} : mkB (.mk 5 sCurly m b v [x]) f d nx = .ok (cmpT sComma [x,eqT f d],nx):=by
 have h1:sCurly≠sNot:=by decide
 rw [mkB.eq_def];simp [h1]
theorem mkB_tru {m:List UInt8} {b v:Int} {ts:List Tm} {f d:Tm} {nx:Int} : mkB (.mk 2 sCurly m b v ts) f d nx = .ok (cmpT sComma [atomT sTrue,eqT f d],nx):=by
 rw [mkB.eq_def];simp
theorem mkB_cut {m:List UInt8} {b v:Int} {ts:List Tm} {f d:Tm} {nx:Int} : mkB (.mk 2 sCut m b v ts) f d nx = .ok (cmpT sComma [.mk 2 sCut m b v ts,eqT f d],nx):=by
 have h1:sCut≠sCurly:=by decide
 rw [mkB.eq_def];simp [h1]
theorem mkB_nil {m:List UInt8} {b v:Int} {ts:List Tm} {f d:Tm} {nx:Int} : mkB (.mk 2 sNil m b v ts) f d nx = .ok (eqT f d,nx):=by
 have h1:sNil≠sCurly:=by decide
 have h2:sNil≠sCut:=by decide
 rw [mkB.eq_def];simp [h1,h2]
theorem mkB_dot {m:List UInt8} {b v:Int} {x y f d:Tm} {nx:Int} : mkB (.mk 5 sDot m b v [x,y]) f d nx=if isNil (elems (.mk 5 sDot m b v [x,y])).2 then .ok (eqT f (endT (elems (.mk 5 sDot m b v [x,y])).1 d),nx) else .error (typedT sList (.mk 5 sDot m b v [x,y])):=by
 have h1:¬(sDot=sComma∨sDot=sArrow):=by decide
 have h2:¬(sDot=sSemi∨sDot=sBar):=by decide
 rw [mkB.eq_def];simp [h1,h2]
theorem mkB_atom {n m:List UInt8} {b v:Int} {ts:List Tm} {f d:Tm} {nx:Int} (h1:n≠sCurly) (h2:n≠sCut) (h3:n≠sNil):mkB (.mk 2 n m b v ts) f d nx=(putT (.mk 2 n m b v ts) f d).map fun g=>(g,nx):=by
 rw [mkB.eq_def];simp [h1,h2,h3]
theorem mkB_cmp {n m:List UInt8} {b v:Int} {ts:List Tm} {f d:Tm} {nx:Int} (h1:isC (.mk 5 n m b v ts) sComma 2=false) (h2:isC (.mk 5 n m b v ts) sSemi 2=false) (h3:isC (.mk 5 n m b v ts) sBar 2=false) (h4:isC (.mk 5 n m b v ts) sArrow 2=false) (h5:isC (.mk 5 n m b v ts) sNot 1=false) (h6:isC (.mk 5 n m b v ts) sCurly 1=false) (h7:isC (.mk 5 n m b v ts) sDot 2=false) :
  mkB (.mk 5 n m b v ts) f d nx=(putT (.mk 5 n m b v ts) f d).map fun g=>(g,nx):=by
 simp only [isC,Tm.k,Tm.n,Tm.as,decide_true,Bool.true_and,Bool.and_eq_false_iff,decide_eq_false_iff_not] at h1 h2 h3 h4 h5 h6 h7
 match ts with
 | []=>rw [mkB.eq_def];simp
 | [x]=>
  have a5:n≠sNot:=fun e=>by rw [e] at h5;simp at h5
  have a6:n≠sCurly:=fun e=>by rw [e] at h6;simp at h6
  rw [mkB.eq_def];simp [a5,a6]
 | [x,y]=>
  have a1:n≠sComma:=fun e=>by rw [e] at h1;simp at h1
  have a2:n≠sSemi:=fun e=>by rw [e] at h2;simp at h2
  have a3:n≠sBar:=fun e=>by rw [e] at h3;simp at h3
  have a4:n≠sArrow:=fun e=>by rw [e] at h4;simp at h4
  have a7:n≠sDot:=fun e=>by rw [e] at h7;simp at h7
  rw [mkB.eq_def];simp [a1,a2,a3,a4,a7]
 | x :: y :: z :: r=>rw [mkB.eq_def];simp
theorem mkB_bad {k b v:Int} {n m:List UInt8} {ts:List Tm} {f d:Tm} {nx:Int} (h1:k≠1) (h2:k≠2) (h5:k≠5):mkB (.mk k n m b v ts) f d nx = .error (typedT sCallable (.mk k n m b v ts)):=by
 rw [mkB.eq_def];simp [h1,h2,h5]
end Ht
namespace Go.Proofs.YtgfeainpeplphaaDoor
open Go.RowKit Hb Ht
theorem mem3 {α:Type} {p:α→Prop} {a b c:α} (ha:p a) (hb:p b) (hc:p c):∀ x ∈ [a,b,c],p x:=by
 intro x hx
 simp only [List.mem_cons,List.not_mem_nil,or_false] at hx
 rcases hx with rfl | rfl | rfl
 ·exact ha
 ·exact hb
 ·exact hc
theorem RowP.wide' {w:World} {P Q:Nat→Prop} {A:Option Addr} {n:Nat} {ps:List (Tm × Value)} (h:RowP w P A n ps) (hP:∀ b,P b→Q b):RowP w Q A n ps:=⟨h.1,fun p hp=>(h.2.1 p hp).wide hP,h.2.2⟩
theorem body_fin {w u:World} {P:Nat→Prop} {Q N RB:Nat} {k v b:Int} {n m:List UInt8} {ts:List Tm} {nb mb:ByteArray} {A:Option Addr} {L c:Nat} {n':Int} (hn:(⟨n.toArray⟩:ByteArray)=nb) (hm:(⟨m.toArray⟩:ByteArray)=mb) (hL:ts.length=L)
  (hR:TBox u RB zeroT (.slice none 0 0)) (hRB:w.heap.size≤RB) (hP:∀ b,P b→b<w.heap.size∧b≠N) (hN:Q<w.heap.size∧N<w.heap.size) (ht:TAtP u (fun b=>P b∨(RB<b∧b<u.heap.size)) (.mk k n m b v ts) (.slice A L c)) (hg:w.grownBy u (some N)) (hnu:NumAt u Q N n') {w9:World}
  (h9:(((((u.setCell ⟨RB,0,none⟩ (.int .i64 k)).setCell ⟨RB,1,none⟩ (.string nb)).setCell ⟨RB,2,none⟩ (.string mb)).setCell ⟨RB,3,none⟩ (.int .u64 b)).setCell ⟨RB,4,none⟩ (.int .i64 v)).setCell ⟨RB,5,none⟩ (.slice A L c)=w9) :
  TBox w9 RB (.mk k n m b v ts) (.slice A L c)∧BodyPost w P Q N (.ok (.mk k n m b v ts,n')) (.returned (.agg (Q5 k nb mb b v (.slice A L c)))) w9:=by
 obtain ⟨hbx,hgr⟩:=hR.set6 (k:=k) (b:=b) (v:=v) (n:=n) (m:=m) ts (.slice A L c) hn hm
 rw [h9] at hbx hgr
 refine ⟨hbx,gb_new hg hgr hRB,⟨_,congrArg Ending.returned (valT_mk hn hm).symm,?_⟩,hnu.gro hgr (by omega) (by omega)⟩
 refine TAtP.keep _ ht (fun b hb=>⟨?_,hgr.block b ?_ (fun e=>?_)⟩)
 ·rcases hb with hb | hb
  ·exact .inl hb
  ·exact .inr ⟨by omega,Ql hb.2 hgr.size⟩
 ·rcases hb with hb | hb
  ·exact Ql (hP b hb).1 hg.size
  ·exact hb.2
 ·injection e with e
  rcases hb with hb | hb
  ·have:=(hP b hb).1;omega
  ·omega
structure BS (w:World) (P:Nat→Prop) (N Q G GS:Nat) (t f d:Tm) (st sf sd ss:Value) (x:Int) (u:World):Prop where
 bf:BF P N Q (G+1+1+1) G (G+1) (G+1+1) t f d st sf sd u
 r:TBox u (G+1+1+1+1) zeroT (.slice none 0 0)
 s:TBox u GS (eqT f d) ss
 xs:TAtP u (fun b=>P b∨(G+1+1+1+1<b∧b<u.heap.size)) (eqT f d) ss
 gr:w.grownBy u (some N)
 num:NumAt u Q N x
 hw:w.heap.size=G∧Q<G∧N<G∧G+1+1+1+1<GS
 hP:∀ b,P b→b<w.heap.size∧b≠N
theorem BS.go {w:World} {P:Nat→Prop} {N Q G GS:Nat} {t f d:Tm} {st sf sd ss:Value} {x x':Int} {u u':World} (h:BS w P N Q G GS t f d st sf sd ss x u) (hg:u.grownBy u' (some N)) (hn:NumAt u' Q N x'):BS w P N Q G GS t f d st sf sd ss x' u':=
 ⟨h.bf.go hg,h.r.gro hg (by have:=h.hw;omega),h.s.gro hg (by have:=h.hw;omega),TAtP.keep _ h.xs (fun b hb=>⟨by
   rcases hb with hb | hb
   ·exact .inl hb
   ·exact .inr ⟨hb.1,Ql hb.2 hg.size⟩,hg.block b (by
    rcases hb with hb | hb
    ·exact (h.bf.hP b hb).1
    ·exact hb.2) (fun e=>by
    injection e with e
    rcases hb with hb | hb
    ·exact (h.bf.hP b hb).2 e
    ·have:=h.hw;omega)⟩),grown_trans h.gr hg,hn,h.hw,h.hP⟩
theorem BS.below {w:World} {P:Nat→Prop} {N Q G GS:Nat} {t f d:Tm} {st sf sd ss:Value} {x:Int} {u u':World} (h:BS w P N Q G GS t f d st sf sd ss x u) (hb:Below u.heap.size u u'):BS w P N Q G GS t f d st sf sd ss x u':=h.go (grown_below hb) (h.num.below hb)
theorem BS.pb {w:World} {P:Nat→Prop} {N Q G GS:Nat} {t f d:Tm} {st sf sd ss:Value} {x:Int} {u:World} (h:BS w P N Q G GS t f d st sf sd ss x u):∀ b,(P b∨(G+1+1+1+1<b∧b<u.heap.size))→b<u.heap.size:=fun b hb=>by
 rcases hb with hb | hb
 ·exact (h.bf.hP b hb).1
 ·exact hb.2
theorem BS.lt {w:World} {P:Nat→Prop} {N Q G GS:Nat} {t f d:Tm} {st sf sd ss:Value} {x:Int} {u:World} (h:BS w P N Q G GS t f d st sf sd ss x u):GS<u.heap.size:=h.s.lt
theorem BS.made {w:World} {P:Nat→Prop} {N Q G GS:Nat} {t f d:Tm} {st sf sd ss:Value} {x:Int} {u u1 u2:World} (h:BS w P N Q G GS t f d st sf sd ss x u) {g:Tm} {sg:Value} (hu1:u.heap.size+1=u1.heap.size) (ht:TAtP u1 (fun b=>(P b∨(G+1+1+1+1<b∧b<u.heap.size))∨b=u.heap.size) g sg) (hb:Below u1.heap.size u1 u2):TAtP u2 (fun b=>P b∨(G+1+1+1+1<b∧b<u2.heap.size)) g sg:=
 TAtP.keep _ ht (fun b hb2=>by
  have h1:=h.lt
  have h2:=h.hw
  have hlt:b<u1.heap.size:=by
   rcases hb2 with hb2 | hb2
   ·have:=h.pb b hb2;omega
   ·omega
  refine ⟨?_,hb.block b hlt⟩
  rcases hb2 with hb2 | hb2
  ·rcases hb2 with hb2 | hb2
   ·exact .inl hb2
   ·exact .inr ⟨hb2.1,by have:=hb.size;omega⟩
  ·exact .inr ⟨by omega,by have:=hb.size;omega⟩)
end Go.Proofs.YtgfeainpeplphaaDoor
