import Derived.Test.YtpikjceodmepiaaGreatDoorV6
import Derived.Test.YtpikjceodmepiaaGreatDoorV8
import Derived.Test.YtpikjceodmepiaaGreatDoorV10
import Derived.Test.YtpikjceodmepiaaGreatDoorV15
import Derived.Test.YtpikjceodmepiaaGreatDoorV0
set_option exponentiation.threshold 5000
set_option maxRecDepth 1000000
set_option maxHeartbeats 64000000
set_option linter.unusedVariables false
set_option linter.unusedSimpArgs false
namespace Go.Proofs.YtpikjceodmepiaaGreatDoor
section
open Go.RowKit Hb Hf Ht
attribute [local go_sem] Oper.semAt_some
theorem RRow.one {w:World} {B:Nat} {q:Rg} (hB:B≤w.heap.size) (hq:Rg.At w (Fr B w) q):RRow (w.alloc (.cells (cells6 q).toArray 69)) B (Fr B (w.alloc (.cells (cells6 q).toArray 69))) (some ⟨w.heap.size,0,none⟩) 1 1 [q]:=by
 refine ⟨⟨rfl,.inr ⟨w.heap.size,1,(cells6 q).toArray,rfl,hB,heap_alloc_new w _,Nat.le_refl _,by simp [maxLen],rfl,by simp [fl6,cells6,Bd.vals]⟩⟩,fun p hp=>?_⟩
 rw [List.mem_singleton.1 hp]
 have hb:Below w.heap.size w (w.alloc (.cells (cells6 q).toArray 69)):=Qb
 exact hq.keep (fun x hx=>⟨⟨⟨hx.1,Ql hx.2 hb.size⟩,fun e=>by
  have e2:(Value.slice (some ⟨w.heap.size,0,none⟩) 1 1).ownBlock=some w.heap.size:=rfl
  rw [e2] at e;injection e with e;have:=hx.2;omega⟩,hb.block x hx.2⟩)
theorem wpList_app2R {ops:Array Oper} {rest:List Oper} {o:Oper} {a:Act} {Q:Exit→Act→World→Prop} {w:World} {B B2 n c m c2:Nat} {A A2:Option Addr} {ps qs:List Rg} (hgd:o.guard=none) (s x:Operand)
  (ho:o.op = .call { callee:=.builtin .append,args:=#[s,x],argTypes:=#[22,22] })
  (hs:a.eval s = .slice A n c) (hx:a.eval x = .slice A2 m c2) (h:RRow w B (Fr B w) A n c ps) (h2:RRow w B2 (Fr B2 w) A2 m c2 qs) (hB:B≤B2) (hlt:∀ g,(Value.slice A n c).ownBlock=some g→g<B2) (hm:n+m≤maxRg) (hb:B≤w.heap.size)
  (hh:∀ A' c' w',RRow w' B (Fr B w') A' (n+m) c' (ps ++ qs)→Below B w w'→wpList Tryz.prog ops Q rest (a.put o.dst (.slice A' (n+m) c')) w') :
  wpList Tryz.prog ops Q (o :: rest) a w:=by
 obtain ⟨i0,hi,hz0,hz1,hz2⟩:=info_parts infoR
 rcases h2.own.2 with ⟨e1,e2⟩ | ⟨g2,cap,cur,e1,e2,e3,e4⟩
 ·injection e1 with q1 q2 q3
  subst q1 q2 q3
  have hq0:qs = []:=List.length_eq_zero_iff.1 h2.len
  subst hq0
  refine wpList_append_own_none hgd s x 22 ho B 69 i0 6 Tryz.underlying22 hi (.slice A n c) n (fl6 ps) hs h.own hx ?_
  have:=hh A c w (by rw [List.append_nil];exact h) (Below.refl _ _)
  exact this
 ·injection e1 with q1 q2 q3
  subst q1
  refine wpList_append_R hgd s x ho qs hs h (fun b hb=>hb.2) ⟨g2,0,none⟩ m c2 hx h2.len (fun q hq=>(h2.kid q hq).keep (fun b hb2=>⟨⟨⟨by have:=hb2.1.1;omega,hb2.1.2⟩,fun e=>by have:=hlt b e;have:=hb2.1.1;omega⟩,rfl⟩)) (fun j u hj=>?_) hm hb ?_
  ·have h9:=World.ownsRow.cells h2.own (g:=g2) rfl _ _ hj
   exact h9
  ·intro A' c' w' hr hb2 hg
   exact hh A' c' w' (hr.wide (fun b hb3=>⟨hb3.1,Ql hb3.2 hg.size⟩)) hb2
theorem TAt.two {w:World} {B:Nat} {k b v:Int} {n m:List UInt8} {x y:Tm} {A:Option Addr} {c:Nat} (h:TAt w B (.mk k n m b v [x,y]) (.slice A 2 c)):∃ g o,A=some ⟨g,o,none⟩∧g<B∧EltAt w B g o x∧EltAt w B g (o+6) y:=by
 obtain ⟨g,o,e,hg,h0⟩:=h.arg (i:=0) (a:=x) rfl
 obtain ⟨g',o',e',hg',h1⟩:=h.arg (i:=1) (a:=y) rfl
 rw [e] at e'
 injection e' with e'
 injection e' with e1 e2
 subst e1 e2
 refine ⟨g,o,e,hg,?_,?_⟩
 ·rwa [Nat.zero_mul,Nat.add_zero] at h0
 ·rwa [Nat.one_mul] at h1
theorem len_two {α:Type} {l:List α} (h:l.length=2):∃ x y,l = [x,y]:=by
 match l,h with
 | [x,y],_=>exact ⟨x,y,rfl⟩
def RgPostB (B:Nat) (w:World) (t:Tm) (e:Ending) (w':World):Prop:=∃ A n c qs,e = .returned (.tuple #[.slice A n c,.bool (rdT t).2])∧RRow w' B (Fr B w') A n c qs∧(∀ q∈qs,Gd q)∧qs.map edsR=(rdT t).1∧n≤sz t∧Bnd 128 (rdT t).1∧Below B w w'
def RgPost (w:World) (t:Tm) (e:Ending) (w':World):Prop:=RgPostB w.heap.size w t e w'
def RgOk (t:Tm):Prop:=∀ (w:World) (sl:Value),TAt w w.heap.size t sl→checkP t=0→Calls Tryz.prog 43 #[valT t sl] w (RgPost w t)
theorem Gd.of_bd {a b:Bd} {w:World} {P Q:Nat→Prop} (ha:a.At w P) (hb:b.At w Q) (na:a.Nrm) (nb:b.Nrm) (h1:szE a.ed≤128) (h2:szE b.ed≤128):Gd (a,b):=Gd.of_sz ha hb na nb h1 h2 (by omega)
theorem rd_other {k b v:Int} {n m:List UInt8} {ts:List Tm} (h3:k≠3) (h:k≠5∨ts.length≠2∨(n≠sDots∧n≠sOr)):rdT (.mk k n m b v ts)=([],false):=by
 by_cases hl:∃ x y,ts = [x,y]
 ·obtain ⟨x,y,rfl⟩:=hl
  rw [rdT,if_neg h3,if_neg (fun hh=>?_),if_neg (fun hh=>?_)]
  ·rcases h with h | h | h
   ·exact h hh.1
   ·exact h rfl
   ·exact h.2 hh.2
  ·rcases h with h | h | h
   ·exact h hh.1
   ·exact h rfl
   ·exact h.1 hh.2
 ·rw [rdT,if_neg h3]
  exact fun x y e=>hl ⟨x,y,e⟩
theorem canon_of {t:Tm} (h:checkP t=0):t.k=3→canonB t.m=true:=(one_iff.1 (check_one h)).2.2.2.2.2.2.1
theorem ranges_ok (t:Tm):RgOk t:=by
 refine Tm.ind (p:=RgOk) (fun k0 n0 m0 b0 v0 ts0 ih w sl h hck=>?_) t
 obtain ⟨k,nl,ml,b,v,ts,nby,mby,A,c,et,rfl,hnb,hmb,hl1,hl2,hl3,hv,hs1,hs2⟩:=h.letters
 injection et with t1 t2 t3 t4 t5 t6
 subst t1 t2 t3 t4 t5 t6
 obtain ⟨B,hB⟩:∃ B,w.heap.size=B:=⟨_,rfl⟩
 have HB:=Qh hB
 have HIH:=Qh ih
 have HCk:=Qh hck
 have HH:=Qh h
 rw [hv]
 unfold RgPost
 obtain ⟨q,hq⟩:∃ q,ts0.length=q:=⟨_,rfl⟩
 rw [hq] at h ⊢
 have hX:=TBox.new (ts:=ts0) w (k:=k0) (b:=b0) (v:=v0) (sl:=.slice A q c) hnb hmb
 have hb1:Below w.heap.size w (w.alloc (.cells (Q5 k0 nby mby b0 v0 (.slice A q c)) 26)):=Qb
 have HX:=Qh hX
 have HB1:=Qh hb1
 have HT1:=Qh (show TAt (w.alloc (.cells (Q5 k0 nby mby b0 v0 (.slice A q c)) 26)) (w.alloc (.cells (Q5 k0 nby mby b0 v0 (.slice A q c)) 26)).heap.size (.mk k0 n0 m0 b0 v0 ts0) (.slice A q c) from h.boxed _)
 have hnl:=toL hnb
 obtain ⟨x0,x1,x2,x3,x4,x5⟩:=hX.cells hnb hmb
 have HL:=Qh (Qa hnb (Qa hmb hq))
 have HV:=Qh (show valT (.mk k0 n0 m0 b0 v0 ts0) (.slice A q c) = .agg (Q5 k0 nby mby b0 v0 (.slice A q c)) from by rw [←hq];exact hv)
 have hqc:q≤c:=by omega
 have hqm:(q:Int)≤1759218604400:=by unfold maxArgs at hl3;omega
 clear h hck hX hb1 hv hnb hmb hl1 hl2 hl3 hs1 hs2 ih
 rw [hB] at HB1 HX x0 x1 x2 x3 x4 x5 ⊢
 generalize hW1:w.alloc (.cells (Q5 k0 nby mby b0 v0 (.slice A q c)) 26)=w1 at HX HB1 HT1 x0 x1 x2 x3 x4 x5
 have HW1:=Qh hW1
 have HZ1:=Qh (show w1.heap.size=B+1 from by rw [←hW1,World.size_alloc,hB])
 clear hB
 by_cases h3:k0=3
 ·subst h3
  have HBd:=Qh (show Calls Tryz.prog 79 #[.agg (Q5 3 nby mby b0 v0 (.slice A q c))] w1 (BdTPost w1 (.num (pVal m0 10),true)) from by
   have hh:=bound_ok HT1.out (canon_of HCk.out)
   rw [HV.out] at hh
   exact hh)
  have HR:=Qh (show rdT (.mk 3 n0 m0 b0 v0 ts0)=([(.num (pVal m0 10),.num (pVal m0 10))],true) from by rw [rdT.eq_def];simp)
  obtain ⟨z,hz⟩:∃ z,pVal m0 10=z:=⟨_,rfl⟩
  rw [hz] at HBd HR
  clear hz hnl
  go_enter Tryz.func43,Tryz.ntmps43
  go_upto_region 1 with fail
  try rw [HB.out]
  try rw [hW1]
  clear hW1
  go_wp2_with fail
  (with_reducible refine HBd.out.mono ?_)
  rintro e u ⟨⟨di,dg,dA,dn,dc,dl⟩,rfl,hat,hnr,hed,hsz,hbu⟩
  simp only at hed hsz
  have HA:=Qh hat
  have HD:=Qh (Qa hnr (Qa hed hsz))
  have HBu:=Qh (HB1.out.trans (hbu.mono (by have:=HZ1.out;omega)))
  clear hat hnr hed hsz hbu x0 x1 x2 x3 x4 x5
  have HE:=Qh (EBox.new u ⟨di,dg,dA,dn,dc,dl⟩)
  have HQ:=Qh (RRow.one (w:=u.alloc (.cells #[.int .i64 di,.bool dg,.slice dA dn dc] 67)) (B:=B) (q:=((⟨di,dg,dA,dn,dc,dl⟩,⟨di,dg,dA,dn,dc,dl⟩):Rg)) (by have:=HBu.out.size;have:=HB.out;simp;omega)
   (by
    have hx:=HA.out.keep (w':=u.alloc (.cells #[.int .i64 di,.bool dg,.slice dA dn dc] 67)) (Q:=Fr B (u.alloc (.cells #[.int .i64 di,.bool dg,.slice dA dn dc] 67))) (fun x hx=>⟨⟨by have:=hx.1;have:=HZ1.out;omega,by have:=hx.2;simp;omega⟩,((Below.refl u.heap.size u).alloc (Nat.le_refl _) _).block x hx.2⟩)
    exact ⟨hx,hx⟩))
  have HBf:=Qh (show Below B w ((u.alloc (.cells #[.int .i64 di,.bool dg,.slice dA dn dc] 67)).alloc (.cells #[.int .i64 di,.bool dg,.slice dA dn dc,.int .i64 di,.bool dg,.slice dA dn dc] 69)) from
   (HBu.out.alloc (by have:=HBu.out.size;have:=HB.out;omega) _).alloc (by have:=HBu.out.size;have:=HB.out;simp;omega) _)
  simp only [Bd.v,Bd.vals] at HE ⊢
  simp only [cells6_eq] at HQ
  obtain ⟨y0,y1,y2⟩:=HE.out.cells
  simp only at y0 y1 y2
  go_wp2
  have HG:=Qh (show ∀ q ∈ [((⟨di,dg,dA,dn,dc,dl⟩,⟨di,dg,dA,dn,dc,dl⟩):Rg)],Gd q from fun q hq=>by
   rw [List.mem_singleton.1 hq]
   have hs:szE (Bd.ed ⟨di,dg,dA,dn,dc,dl⟩)≤128:=by rw [HD.out.2.1];exact HD.out.2.2
   exact Gd.of_bd HA.out HA.out HD.out.1 HD.out.1 hs hs)
  have key:RgPostB B w (.mk 3 n0 m0 b0 v0 ts0) (.returned (.tuple #[.slice (some ⟨u.heap.size+1,0,none⟩) 1 1,.bool true])) ((u.alloc (.cells #[.int .i64 di,.bool dg,.slice dA dn dc] 67)).alloc (.cells #[.int .i64 di,.bool dg,.slice dA dn dc,.int .i64 di,.bool dg,.slice dA dn dc] 69)):=by
   have hQ:=HQ.out
   rw [World.size_alloc] at hQ
   exact ⟨_,1,1,_,by rw [HR.out],hQ,HG.out,by rw [HR.out];simp [edsR,HD.out.2.1],sz_pos _,by rw [HR.out];intro r hr;rw [List.mem_singleton.1 hr];exact ⟨HD.out.2.2,HD.out.2.2⟩,HBf.out⟩
  first
   | (go_ret;exact key)
   | exact bodyPost_ret (by simp [results,Tryz.results43,go_sem]) rfl key
 ·have h30:(k0==3)=false:=beq_eq_false_iff_ne.2 h3
  by_cases h5:k0=5∧q=2∧(n0=sDots∨n0=sOr)
  ·obtain ⟨rfl,rfl,hn⟩:=h5
   have hl2:=HL.out.2.2
   obtain ⟨x,y,rfl⟩:=len_two hl2
   clear hl2
   obtain ⟨g,o,rfl,hg,ex,ey⟩:=TAt.two HT1.out
   obtain ⟨Ax,cx,kx,nx,mx,bx,vx,tx,nbx,mbx,ex1,hnx,hmx,htx,p0,p1,p2,p3,p4,p5⟩:=EltAt.cells ex
   obtain ⟨Ay,cy,ky,ny,my,by',vy,ty,nby',mby',ey1,hny,hmy,hty,r0,r1,r2,r3,r4,r5⟩:=EltAt.cells ey
   have HVx:=Qh (show valT x (.slice Ax tx.length cx) = .agg (Q5 kx nbx mbx bx vx (.slice Ax tx.length cx)) from by rw [ex1];exact valT_mk hnx hmx)
   have HVy:=Qh (show valT y (.slice Ay ty.length cy) = .agg (Q5 ky nby' mby' by' vy (.slice Ay ty.length cy)) from by rw [ey1];exact valT_mk hny hmy)
   have HCx:=Qh (show checkP x=0 from check_arg HCk.out (show x ∈ [x,y] from by simp))
   have HCy:=Qh (show checkP y=0 from check_arg HCk.out (show y ∈ [x,y] from by simp))
   have HTx:=Qh (fun (u:World) (hu:Below w1.heap.size w1 u)=>show TAt u u.heap.size x (.slice Ax tx.length cx) from htx.to hu hu.size)
   have HTy:=Qh (fun (u:World) (hu:Below w1.heap.size w1 u)=>show TAt u u.heap.size y (.slice Ay ty.length cy) from hty.to hu hu.size)
   have HPy:=Qh (fun (u:World) (hu:Below w1.heap.size w1 u)=>show Q7 u g (o+6) ky nby' mby' by' vy (.slice Ay ty.length cy) from
    ⟨(hu.cell (p:=⟨g,o+6,none⟩) hg).trans r0,(hu.cell (p:=⟨g,o+6+1,none⟩) hg).trans r1,(hu.cell (p:=⟨g,o+6+2,none⟩) hg).trans r2,(hu.cell (p:=⟨g,o+6+3,none⟩) hg).trans r3,(hu.cell (p:=⟨g,o+6+4,none⟩) hg).trans r4,(hu.cell (p:=⟨g,o+6+5,none⟩) hg).trans r5⟩)
   clear ex ey ex1 ey1 hnx hmx hny hmy htx hty r0 r1 r2 r3 r4 r5
   generalize tx.length=qx at *
   generalize ty.length=qy at *
   have hc2:(2:Int)≤(c:Int):=by omega
   rcases hn with rfl | rfl
   ·have t1:(nby.toList == [46,46])=true:=by rw [hnl];rfl
    have HR:=Qh (show rdT (.mk 5 sDots m0 b0 v0 [x,y])=([((bdT x).1,(bdT y).1)],(bdT x).2 && (bdT y).2) from by rw [rdT,if_neg (by decide),if_pos ⟨rfl,rfl⟩])
    have HBx:=Qh (fun (u:World) (hu:Below w1.heap.size w1 u)=>show Calls Tryz.prog 79 #[.agg (Q5 kx nbx mbx bx vx (.slice Ax qx cx))] u (BdTPost u (bdT x)) from by
     have hh:=bound_ok (HTx.out u hu) (canon_of HCx.out)
     rw [HVx.out] at hh
     exact hh)
    have HBy:=Qh (fun (u:World) (hu:Below w1.heap.size w1 u)=>show Calls Tryz.prog 79 #[.agg (Q5 ky nby' mby' by' vy (.slice Ay qy cy))] u (BdTPost u (bdT y)) from by
     have hh:=bound_ok (HTy.out u hu) (canon_of HCy.out)
     rw [HVy.out] at hh
     exact hh)
    generalize bdT x=rx at HR HBx
    generalize bdT y=ry at HR HBy
    obtain ⟨e1,b1⟩:=rx
    obtain ⟨e2,b2⟩:=ry
    simp only at HR
    clear hnl
    go_enter Tryz.func43,Tryz.ntmps43
    go_upto_region 1 with fail
    try rw [HB.out]
    try rw [hW1]
    clear hW1
    go_upto_region 6 with (go_at_call 79;(with_reducible refine (HBx.out _ (Below.refl _ _)).mono ?_);rintro e u1 ⟨⟨di,dg,dA,dn,dc,dl⟩,rfl,hat,hnr,hed,hsz,hb1⟩;have HA1:=Qh hat;have HD1:=Qh (Qa hnr (Qa hed hsz));have HU1:=Qh hb1;clear hat hnr hed hsz hb1 x0 x1 x2 x3 x4 x5 p0 p1 p2 p3 p4 p5;simp only [Bd.v,Bd.vals])
    try simp only [Bd.v,Bd.vals]
    have HU2:=Qh (HU1.out.alloc HU1.out.size (.cells #[.int .i64 di,.bool dg,.slice dA dn dc] 67))
    have HE1:=Qh (EBox.new u1 ⟨di,dg,dA,dn,dc,dl⟩)
    have HA2:=Qh (show (⟨di,dg,dA,dn,dc,dl⟩:Bd).At (u1.alloc (.cells #[.int .i64 di,.bool dg,.slice dA dn dc] 67)) (Fr B (u1.alloc (.cells #[.int .i64 di,.bool dg,.slice dA dn dc] 67))) from HA1.out.keep (fun x hx=>⟨⟨by have:=hx.1;have:=HZ1.out;omega,by have:=hx.2;simp;omega⟩,((Below.refl u1.heap.size u1).alloc (Nat.le_refl _) _).block x hx.2⟩))
    simp only [Bd.vals] at HE1
    generalize hg1:u1.heap.size=G1 at HE1
    try rw [hg1]
    generalize (u1.alloc (.cells #[.int .i64 di,.bool dg,.slice dA dn dc] 67))=u2 at *
    clear hg1 HA1 HU1
    obtain ⟨x0,x1,x2,x3,x4,x5⟩:=(TBox.below HX.out HU2.out).cells HL.out.1 HL.out.2.1
    obtain ⟨p0,p1,p2,p3,p4,p5⟩:=HPy.out u2 HU2.out
    go_upto_region 7 with (go_at_call 79;(with_reducible refine (HBy.out _ HU2.out).mono ?_);rintro e u3 ⟨⟨fi,fg,fA,fn,fc,fl⟩,rfl,hat,hnr,hed,hsz,hb3⟩;have HA3:=Qh hat;have HD3:=Qh (Qa hnr (Qa hed hsz));have HU3:=Qh hb3;clear hat hnr hed hsz hb3 x0 x1 x2 x3 x4 x5 p0 p1 p2 p3 p4 p5;simp only [Bd.v,Bd.vals])
    try simp only [Bd.v,Bd.vals]
    have hU3:=HU3.out.size
    have HU4:=Qh (HU3.out.alloc HU3.out.size (.cells #[.int .i64 fi,.bool fg,.slice fA fn fc] 67))
    have HE3:=Qh (EBox.new u3 ⟨fi,fg,fA,fn,fc,fl⟩)
    have HE4:=Qh (HE1.out.below (b:=⟨di,dg,dA,dn,dc,dl⟩) HU4.out)
    have HA4:=Qh (show (⟨di,dg,dA,dn,dc,dl⟩:Bd).At (u3.alloc (.cells #[.int .i64 fi,.bool fg,.slice fA fn fc] 67)) (Fr B (u3.alloc (.cells #[.int .i64 fi,.bool fg,.slice fA fn fc] 67))) from HA2.out.below HU4.out)
    have HA5:=Qh (show (⟨fi,fg,fA,fn,fc,fl⟩:Bd).At (u3.alloc (.cells #[.int .i64 fi,.bool fg,.slice fA fn fc] 67)) (Fr B (u3.alloc (.cells #[.int .i64 fi,.bool fg,.slice fA fn fc] 67))) from HA3.out.keep (fun x hx=>⟨⟨by have:=hx.1;have:=HU2.out.size;have:=HZ1.out;omega,by have:=hx.2;simp;omega⟩,((Below.refl u3.heap.size u3).alloc (Nat.le_refl _) _).block x hx.2⟩))
    simp only [Bd.vals] at HE3
    generalize hg3:u3.heap.size=G3 at HE3
    try rw [hg3]
    generalize (u3.alloc (.cells #[.int .i64 fi,.bool fg,.slice fA fn fc] 67))=u4 at *
    clear hg3 HA3 HU3 HA2 HE1
    have HBw:=Qh (show Below B w u4 from (HB1.out.trans (HU2.out.mono (by have:=HZ1.out;omega))).trans (HU4.out.mono (by have:=HZ1.out;have:=HU2.out.size;omega)))
    have hBs:B≤u4.heap.size:=by have:=HBw.out.size;have:=HB.out;omega
    have HQ:=Qh (RRow.one (w:=u4) (B:=B) (q:=((⟨di,dg,dA,dn,dc,dl⟩,⟨fi,fg,fA,fn,fc,fl⟩):Rg)) hBs ⟨HA4.out,HA5.out⟩)
    have HBf:=Qh (show Below B w (u4.alloc (.cells #[.int .i64 di,.bool dg,.slice dA dn dc,.int .i64 fi,.bool fg,.slice fA fn fc] 69)) from HBw.out.alloc hBs _)
    simp only [cells6_eq] at HQ
    obtain ⟨y0,y1,y2⟩:=HE4.out.cells
    obtain ⟨z0,z1,z2⟩:=EBox.cells (b:=⟨fi,fg,fA,fn,fc,fl⟩) HE3.out
    simp only at y0 y1 y2 z0 z1 z2
    have HG:=Qh (show ∀ q ∈ [((⟨di,dg,dA,dn,dc,dl⟩,⟨fi,fg,fA,fn,fc,fl⟩):Rg)],Gd q from fun q hq=>by
     rw [List.mem_singleton.1 hq]
     exact Gd.of_bd HA4.out HA5.out HD1.out.1 HD3.out.1 (by rw [HD1.out.2.1];exact HD1.out.2.2) (by rw [HD3.out.2.1];exact HD3.out.2.2))
    have key:∀ bb,bb=(b1 && b2)→RgPostB B w (.mk 5 sDots m0 b0 v0 [x,y]) (.returned (.tuple #[.slice (some ⟨u4.heap.size,0,none⟩) 1 1,.bool bb])) (u4.alloc (.cells #[.int .i64 di,.bool dg,.slice dA dn dc,.int .i64 fi,.bool fg,.slice fA fn fc] 69)):=fun bb hbb=>
     ⟨_,1,1,_,by rw [HR.out,hbb],HQ.out,HG.out,by rw [HR.out];simp only [List.map_cons,List.map_nil,edsR,HD1.out.2.1,HD3.out.2.1],sz_pos _,by rw [HR.out];intro r hr;rw [List.mem_singleton.1 hr];exact ⟨HD1.out.2.2,HD3.out.2.2⟩,HBf.out⟩
    have HK:=Qh key
    clear key
    cases b1
    all_goals
     go_wp2
     first
      | (go_ret;exact HK.out _ rfl)
      | exact bodyPost_ret (by simp [results,Tryz.results43,go_sem]) rfl (HK.out _ rfl)
   ·have t1:(nby.toList == [46,46])=false:=by rw [hnl];rfl
    have t2:(nby.toList == [92,47])=true:=by rw [hnl];rfl
    have HR:=Qh (show rdT (.mk 5 sOr m0 b0 v0 [x,y])=((rdT x).1 ++ (rdT y).1,(rdT x).2 && (rdT y).2) from by rw [rdT,if_neg (by decide),if_neg (by decide),if_pos ⟨rfl,rfl⟩])
    have HRx:=Qh (fun (u:World) (hu:Below w1.heap.size w1 u)=>show Calls Tryz.prog 43 #[.agg (Q5 kx nbx mbx bx vx (.slice Ax qx cx))] u (RgPostB u.heap.size u x) from by
     have hh:=HIH.out x (by simp) u _ (HTx.out u hu) HCx.out
     rw [HVx.out] at hh
     exact hh)
    have HRy:=Qh (fun (u:World) (hu:Below w1.heap.size w1 u)=>show Calls Tryz.prog 43 #[.agg (Q5 ky nby' mby' by' vy (.slice Ay qy cy))] u (RgPostB u.heap.size u y) from by
     have hh:=HIH.out y (by simp) u _ (HTy.out u hu) HCy.out
     rw [HVy.out] at hh
     exact hh)
    unfold RgPostB at HRx HRy
    have HSz:=Qh (show sz (.mk 5 sOr m0 b0 v0 [x,y])=sz x+sz y+1∧sz x+sz y≤4000 from by
     have h1:sz (.mk 5 sOr m0 b0 v0 [x,y])=sz x+sz y+1:=by simp [sz,szs]
     have h2:=(check_iff.1 HCk.out).1
     omega)
    obtain ⟨b1,hb1⟩:∃ b,(rdT x).2=b:=⟨_,rfl⟩
    obtain ⟨b2,hb2⟩:∃ b,(rdT y).2=b:=⟨_,rfl⟩
    rw [hb1] at HRx HR
    rw [hb2] at HRy HR
    clear hnl hb1 hb2
    go_enter Tryz.func43,Tryz.ntmps43
    go_upto_region 1 with fail
    try rw [HB.out]
    try rw [hW1]
    clear hW1
    go_upto_region 10 with (go_at_call 43;(with_reducible refine (HRx.out _ (Below.refl _ _)).mono ?_);rintro e u1 ⟨A1,n1,c1,qs1,rfl,hr1,hg1,he1,hn1,hs1,hb1⟩;have HW:=Qh (Qa hr1 (Qa hg1 (Qa he1 (Qa hn1 hs1))));have HU1:=Qh hb1;clear hr1 hg1 he1 hn1 hs1 hb1 x0 x1 x2 x3 x4 x5 p0 p1 p2 p3 p4 p5;obtain ⟨x0,x1,x2,x3,x4,x5⟩:=(TBox.below HX.out HU1.out).cells HL.out.1 HL.out.2.1;obtain ⟨p0,p1,p2,p3,p4,p5⟩:=HPy.out u1 HU1.out)
    go_upto_region 11 with (go_at_call 43;(with_reducible refine (HRy.out _ HU1.out).mono ?_);rintro e u2 ⟨A2,n2,c2,qs2,rfl,hr1,hg1,he1,hn1,hs1,hb1⟩;have HY:=Qh (Qa hr1 (Qa hg1 (Qa he1 (Qa hn1 hs1))));have HU2:=Qh hb1;clear hr1 hg1 he1 hn1 hs1 hb1 x0 x1 x2 x3 x4 x5 p0 p1 p2 p3 p4 p5)
    have hU1:=HU1.out.size
    have hU2:=HU2.out.size
    have hZ1:=HZ1.out
    have HBw:=Qh (show Below B w u2 from (HB1.out.trans (HU1.out.mono (by omega))).trans (HU2.out.mono (by omega)))
    have hBs:B≤u2.heap.size:=by omega
    have HRa:=Qh (show RRow u2 B (Fr B u2) A1 n1 c1 qs1 from (((HW.out.1.fr HU2.out).wide (fun b hb=>⟨by have:=hb.1;omega,hb.2⟩)).lower (by omega)))
    have HLt:=Qh (show ∀ gg,(Value.slice A1 n1 c1).ownBlock=some gg→gg<u1.heap.size from fun gg e=>by
     rcases HW.out.1.block with ⟨e1,_⟩ | ⟨g1,e1,_,h2,h3⟩
     ·rw [e1] at e;cases e
     ·rw [h3] at e;injection e with e;omega)
    have HMx:=Qh (show n1+n2≤maxRg from by have:=HW.out.2.2.2.1;have:=HY.out.2.2.2.1;have:=HSz.out.2;unfold maxRg;omega)
    have HG:=Qh (show ∀ q∈qs1 ++ qs2,Gd q from fun q hq=>(List.mem_append.1 hq).elim (HW.out.2.1 q) (HY.out.2.1 q))
    have key:∀ bb A3 c3 u3,bb=(b1 && b2)→RRow u3 B (Fr B u3) A3 (n1+n2) c3 (qs1 ++ qs2)→Below B u2 u3→RgPostB B w (.mk 5 sOr m0 b0 v0 [x,y]) (.returned (.tuple #[.slice A3 (n1+n2) c3,.bool bb])) u3:=fun bb A3 c3 u3 hbb hr3 hb3=>
     ⟨_,_,_,_,by rw [HR.out,hbb],hr3,HG.out,by rw [HR.out,List.map_append,HW.out.2.2.1,HY.out.2.2.1],by have:=HW.out.2.2.2.1;have:=HY.out.2.2.2.1;have:=HSz.out.1;omega,by rw [HR.out];intro r hr;exact (List.mem_append.1 hr).elim (HW.out.2.2.2.2 r) (HY.out.2.2.2.2 r),HBw.out.trans hb3⟩
    have HK:=Qh key
    clear key
    cases b1
    all_goals
     go_wp2_with (at_builtin;refine wpList_app2R rfl _ _ rfl (by rfl) (by rfl) HRa.out HY.out.1 (by omega) HLt.out HMx.out hBs ?_;intro A3 c3 u3 hr3 hb3;have HR3:=Qh (Qa hr3 hb3);clear hr3 hb3)
     first
      | (go_ret;exact HK.out _ _ _ _ rfl HR3.out.1 HR3.out.2)
      | exact bodyPost_ret (v:=.tuple #[.slice A3 (n1+n2) c3,.bool _]) (by simp [results,Tryz.results43,go_sem]) rfl (HK.out _ _ _ _ rfl HR3.out.1 HR3.out.2)
  ·have HR:=Qh (show rdT (.mk k0 n0 m0 b0 v0 ts0)=([],false) from by
    refine rd_other h3 ?_
    by_cases g1:k0=5
    ·by_cases g2:q=2
     ·exact .inr (.inr ⟨fun e=>h5 ⟨g1,g2,.inl e⟩,fun e=>h5 ⟨g1,g2,.inr e⟩⟩)
     ·exact .inr (.inl (by rw [HL.out.2.2];exact g2))
    ·exact .inl g1)
   have key:RgPostB B w (.mk k0 n0 m0 b0 v0 ts0) (.returned (.tuple #[.slice none 0 0,.bool false])) w1:=
    ⟨none,0,0,[],by rw [HR.out],RRow.nil _ _ _,by simp,by rw [HR.out];rfl,Nat.zero_le _,by rw [HR.out];intro r hr;simp at hr,HB1.out⟩
   have HK:=Qh key
   clear key
   by_cases g1:k0=5
   ·subst g1
    by_cases g2:q=2
    ·subst g2
     have t1:(nby.toList == [46,46])=false:=by rw [hnl];exact beq_eq_false_iff_ne.2 (fun e=>h5 ⟨rfl,rfl,.inl e⟩)
     have t2:(nby.toList == [92,47])=false:=by rw [hnl];exact beq_eq_false_iff_ne.2 (fun e=>h5 ⟨rfl,rfl,.inr e⟩)
     clear hnl h5
     go_enter Tryz.func43,Tryz.ntmps43
     go_upto_region 1 with fail
     try rw [HB.out]
     try rw [hW1]
     clear hW1
     go_wp2
     first
      | (go_ret;exact HK.out)
      | exact bodyPost_ret (by simp [results,Tryz.results43,go_sem]) rfl HK.out
    ·have g20:((q:Int)==2)=false:=beq_eq_false_iff_ne.2 (by omega)
     clear hnl h5
     go_enter Tryz.func43,Tryz.ntmps43
     go_upto_region 1 with fail
     try rw [HB.out]
     try rw [hW1]
     clear hW1
     go_wp2
     first
      | (go_ret;exact HK.out)
      | exact bodyPost_ret (by simp [results,Tryz.results43,go_sem]) rfl HK.out
   ·have g10:(k0==5)=false:=beq_eq_false_iff_ne.2 g1
    clear hnl h5
    go_enter Tryz.func43,Tryz.ntmps43
    go_upto_region 1 with fail
    try rw [HB.out]
    try rw [hW1]
    clear hW1
    go_wp2
    first
     | (go_ret;exact HK.out)
     | exact bodyPost_ret (by simp [results,Tryz.results43,go_sem]) rfl HK.out
end
section
open Go.RowKit Hb Hf Ht
attribute [local go_sem ↓] Go.wp_at_zero Go.wp_at_succ
attribute [local go_sem] Oper.semAt_some
theorem SRow.one {w:World} {B:Nat} {q:Rg} (hB:B≤w.heap.size) (hq:Sg w (Fr B w) q):SRow (w.alloc (.cells (cells6 q).toArray 84)) B (Fr B (w.alloc (.cells (cells6 q).toArray 84))) (some ⟨w.heap.size,0,none⟩) 1 1 [q]:=by
 refine ⟨⟨rfl,.inr ⟨w.heap.size,1,(cells6 q).toArray,rfl,hB,heap_alloc_new w _,Nat.le_refl _,by simp [maxLen],rfl,by simp [fl6,cells6,Bd.vals]⟩⟩,fun p hp=>?_⟩
 rw [List.mem_singleton.1 hp]
 have hb:Below w.heap.size w (w.alloc (.cells (cells6 q).toArray 84)):=Qb
 exact hq.keep (fun x hx=>⟨⟨⟨hx.1,Ql hx.2 hb.size⟩,fun e=>by
  have e2:(Value.slice (some ⟨w.heap.size,0,none⟩) 1 1).ownBlock=some w.heap.size:=rfl
  rw [e2] at e;injection e with e;have:=hx.2;omega⟩,hb.block x hx.2⟩)
theorem SRow.none_ {w:World} {B:Nat} (hB:B≤w.heap.size) (P:Nat→Prop):SRow (w.alloc (.cells #[] 84)) B P (some ⟨w.heap.size,0,none⟩) 0 0 []:=
 ⟨⟨rfl,.inr ⟨w.heap.size,0,#[],rfl,hB,heap_alloc_new w _,Nat.le_refl _,Nat.zero_le _,rfl,rfl⟩⟩,fun p hp=>by cases hp⟩
theorem step_app2S {o:Oper} {a:Act} {w:World} {K:Act→World→Prop} {Q:Exit→Act→World→Prop} {B n c m c2:Nat} {A A2:Option Addr} {ps qs:List Rg} (hgd:o.guard=none) (s x:Operand)
  (ho:o.op = .call { callee:=.builtin .append,args:=#[s,x],argTypes:=#[29,29] })
  (hs:a.eval s = .slice A n c) (hx:a.eval x = .slice A2 m c2) (h:SRow w B (fun b=>b<w.heap.size) A n c ps) (h2:SRow w 0 (fun b=>b<w.heap.size) A2 m c2 qs) (hne:∀ q∈qs,Sg w (fun b=>b<w.heap.size∧(Value.slice A n c).ownBlock≠some b) q) (hm:n+m≤maxRg) (hb:B≤w.heap.size)
  (hh:∀ A' c' w',SRow w' B (fun b=>b<w'.heap.size) A' (n+m) c' (ps ++ qs)→Below B w w'→K (a.put o.dst (.slice A' (n+m) c')) w') :
  Oper.wp Tryz.prog o a w K Q:=by
 obtain ⟨i0,hi,hz0,hz1,hz2⟩:=info_parts infoS
 rcases h2.own.2 with ⟨e1,e2⟩ | ⟨g2,cap,cur,e1,e2,e3,e4⟩
 ·injection e1 with q1 q2 q3
  subst q1 q2 q3
  have hq0:qs = []:=List.length_eq_zero_iff.1 h2.len
  subst hq0
  have hrun:=run_append_owned_none (P:=Tryz.prog) (w:=w) B 29 o.type 84 i0 6 Tryz.underlying29 hi (.slice A n c) n (fl6 ps) h.own
  unfold Oper.wp
  simp [execOp,ho,resolve,invoke,builtin,hs,hx,hrun,Result.andThen]
  have:=hh A c w (by rw [List.append_nil];exact h) (Below.refl _ _)
  exact this
 ·injection e1 with q1 q2 q3
  subst q1
  refine step_append_S hgd s x ho qs hs h (fun b hb=>hb) ⟨g2,0,none⟩ m c2 hx h2.len hne (fun j u hj=>World.ownsRow.cells h2.own (g:=g2) rfl _ _ hj) hm hb ?_
  intro A' c' w' hr hb2 hg
  exact hh A' c' w' (hr.wide (fun b hb3=>Ql hb3 hg.size)) hb2
def RdPostB (B:Nat) (w:World) (t:Tm) (e:Ending) (w':World):Prop:=∃ A n c qs,e = .returned (.tuple #[.slice A n c,.bool (rdT t).2])∧SRow w' B (fun b=>b<w'.heap.size) A n c qs∧((rdT t).2=true→qs.map edsS=(rdT t).1)∧n≤sz t∧Below B w w'
def RdPost (w:World) (t:Tm) (e:Ending) (w':World):Prop:=RdPostB w.heap.size w t e w'
def RdOk (t:Tm):Prop:=∀ (w:World) (sl:Value),TAt w w.heap.size t sl→checkP t=0→Calls Tryz.prog 13 #[valT t sl] w (RdPost w t)
theorem rd_two {b v:Int} {n m:List UInt8} {x y:Tm} (h:n≠sDots):(rdT (.mk 5 n m b v [x,y])).2=((rdT x).2 && (rdT y).2 && decide (n=sOr)):=by
 by_cases g:n=sOr
 ·rw [rdT,if_neg (by decide),if_neg (fun hh=>h hh.2),if_pos ⟨rfl,g⟩,decide_eq_true g]
  simp
 ·rw [rdT,if_neg (by decide),if_neg (fun hh=>h hh.2),if_neg (fun hh=>g hh.2),decide_eq_false g]
  simp
theorem rd_two_l {b v:Int} {n m:List UInt8} {x y:Tm} (g:n=sOr):(rdT (.mk 5 n m b v [x,y])).1=(rdT x).1 ++ (rdT y).1:=by
 subst g
 rw [rdT,if_neg (by decide),if_neg (by decide),if_pos ⟨rfl,rfl⟩]
theorem rRead_any (t:Tm):RdOk t:=by
 refine Tm.ind (p:=RdOk) (fun k0 n0 m0 b0 v0 ts0 ih w sl h hck=>?_) t
 obtain ⟨k,nl,ml,b,v,ts,nby,mby,A,c,et,rfl,hnb,hmb,hl1,hl2,hl3,hv,hs1,hs2⟩:=h.letters
 injection et with t1 t2 t3 t4 t5 t6
 subst t1 t2 t3 t4 t5 t6
 obtain ⟨B,hB⟩:∃ B,w.heap.size=B:=⟨_,rfl⟩
 have HB:=Qh hB
 have HIH:=Qh ih
 have HCk:=Qh hck
 rw [hv]
 unfold RdPost
 obtain ⟨q,hq⟩:∃ q,ts0.length=q:=⟨_,rfl⟩
 rw [hq] at h ⊢
 have hX:=TBox.new (ts:=ts0) w (k:=k0) (b:=b0) (v:=v0) (sl:=.slice A q c) hnb hmb
 have hb1:Below w.heap.size w (w.alloc (.cells (Q5 k0 nby mby b0 v0 (.slice A q c)) 26)):=Qb
 have HX:=Qh hX
 have HB1:=Qh hb1
 have HT1:=Qh (show TAt (w.alloc (.cells (Q5 k0 nby mby b0 v0 (.slice A q c)) 26)) (w.alloc (.cells (Q5 k0 nby mby b0 v0 (.slice A q c)) 26)).heap.size (.mk k0 n0 m0 b0 v0 ts0) (.slice A q c) from h.boxed _)
 have hnl:=toL hnb
 obtain ⟨x0,x1,x2,x3,x4,x5⟩:=hX.cells hnb hmb
 have HL:=Qh (Qa hnb (Qa hmb hq))
 have HV:=Qh (show valT (.mk k0 n0 m0 b0 v0 ts0) (.slice A q c) = .agg (Q5 k0 nby mby b0 v0 (.slice A q c)) from by rw [←hq];exact hv)
 have hqc:q≤c:=by omega
 have hqm:(q:Int)≤1759218604400:=by unfold maxArgs at hl3;omega
 clear h hck hX hb1 hv hnb hmb hl1 hl2 hl3 hs1 hs2 ih
 rw [hB] at HB1 HX x0 x1 x2 x3 x4 x5 ⊢
 generalize hW1:w.alloc (.cells (Q5 k0 nby mby b0 v0 (.slice A q c)) 26)=w1 at HX HB1 HT1 x0 x1 x2 x3 x4 x5
 have HW1:=Qh hW1
 have HZ1:=Qh (show w1.heap.size=B+1 from by rw [←hW1,World.size_alloc,hB])
 clear hB
 by_cases h3:k0=3
 ·subst h3
  have HBd:=Qh (show Calls Tryz.prog 46 #[.agg (Q5 3 nby mby b0 v0 (.slice A q c))] w1 (RbPost w1 (.num (pVal m0 10),true)) from by
   have hh:=rbound_ok HT1.out (canon_of HCk.out)
   rw [HV.out] at hh
   exact hh)
  have HR:=Qh (show rdT (.mk 3 n0 m0 b0 v0 ts0)=([(.num (pVal m0 10),.num (pVal m0 10))],true) from by rw [rdT.eq_def];simp)
  obtain ⟨z,hz⟩:∃ z,pVal m0 10=z:=⟨_,rfl⟩
  rw [hz] at HBd HR
  clear hz hnl
  go_enter Tryz.func13,Tryz.ntmps13
  go_upto_region 1 with fail
  try rw [HB.out]
  try rw [hW1]
  clear hW1
  go_wp2_with fail
  (with_reducible refine HBd.out.mono ?_)
  rintro e u ⟨⟨di,dg,dA,dn,dc,dl⟩,e0,rfl,hsb,heq,hok,hbu⟩
  have HA:=Qh (show Sb u (Fr w1.heap.size u) (.num z) ⟨di,dg,dA,dn,dc,dl⟩ from by have he:e0 = .num z:=heq rfl;rw [←he];exact hsb)
  have HBu:=Qh (HB1.out.trans (hbu.mono (by have:=HZ1.out;omega)))
  clear hsb heq hok hbu x0 x1 x2 x3 x4 x5
  have HE:=Qh (NBox.new u ⟨di,dg,dA,dn,dc,dl⟩)
  have HQ:=Qh (SRow.one (w:=u.alloc (.cells #[.int .i64 di,.bool dg,.slice dA dn dc] 81)) (B:=B) (q:=((⟨di,dg,dA,dn,dc,dl⟩,⟨di,dg,dA,dn,dc,dl⟩):Rg)) (by have:=HBu.out.size;have:=HB.out;simp;omega)
   (by
    have hx:=HA.out.keep (w':=u.alloc (.cells #[.int .i64 di,.bool dg,.slice dA dn dc] 81)) (Q:=Fr B (u.alloc (.cells #[.int .i64 di,.bool dg,.slice dA dn dc] 81))) (fun x hx=>⟨⟨by have:=hx.1;have:=HZ1.out;omega,by have:=hx.2;simp;omega⟩,((Below.refl u.heap.size u).alloc (Nat.le_refl _) _).block x hx.2⟩)
    exact ⟨hx.mk_,hx.mk_⟩))
  have HBf:=Qh (show Below B w ((u.alloc (.cells #[.int .i64 di,.bool dg,.slice dA dn dc] 81)).alloc (.cells #[.int .i64 di,.bool dg,.slice dA dn dc,.int .i64 di,.bool dg,.slice dA dn dc] 84)) from
   (HBu.out.alloc (by have:=HBu.out.size;have:=HB.out;omega) _).alloc (by have:=HBu.out.size;have:=HB.out;simp;omega) _)
  simp only [Bd.v,Bd.vals] at HE ⊢
  simp only [cells6_eq] at HQ
  obtain ⟨y0,y1,y2⟩:=NBox.cells (b:=⟨di,dg,dA,dn,dc,dl⟩) HE.out
  simp only at y0 y1 y2
  go_wp2
  have key:RdPostB B w (.mk 3 n0 m0 b0 v0 ts0) (.returned (.tuple #[.slice (some ⟨u.heap.size+1,0,none⟩) 1 1,.bool true])) ((u.alloc (.cells #[.int .i64 di,.bool dg,.slice dA dn dc] 81)).alloc (.cells #[.int .i64 di,.bool dg,.slice dA dn dc,.int .i64 di,.bool dg,.slice dA dn dc] 84)):=by
   have hQ:=HQ.out
   rw [World.size_alloc] at hQ
   exact ⟨_,1,1,_,by rw [HR.out],hQ.wide (fun b hb=>hb.2),fun _=>by rw [HR.out];simp only [List.map_cons,List.map_nil,edsS,HA.out.ed],sz_pos _,HBf.out⟩
  first
   | (go_ret;exact key)
   | exact bodyPost_ret (by simp [results,Tryz.results13,go_sem]) rfl key
 ·have h30:(k0==3)=false:=beq_eq_false_iff_ne.2 h3
  by_cases h5:k0=5∧q=2
  ·obtain ⟨rfl,rfl⟩:=h5
   have hl2:=HL.out.2.2
   obtain ⟨x,y,rfl⟩:=len_two hl2
   clear hl2
   obtain ⟨g,o,rfl,hg,ex,ey⟩:=TAt.two HT1.out
   obtain ⟨Ax,cx,kx,nx,mx,bx,vx,tx,nbx,mbx,ex1,hnx,hmx,htx,p0,p1,p2,p3,p4,p5⟩:=EltAt.cells ex
   obtain ⟨Ay,cy,ky,ny,my,by',vy,ty,nby',mby',ey1,hny,hmy,hty,r0,r1,r2,r3,r4,r5⟩:=EltAt.cells ey
   have HVx:=Qh (show valT x (.slice Ax tx.length cx) = .agg (Q5 kx nbx mbx bx vx (.slice Ax tx.length cx)) from by rw [ex1];exact valT_mk hnx hmx)
   have HVy:=Qh (show valT y (.slice Ay ty.length cy) = .agg (Q5 ky nby' mby' by' vy (.slice Ay ty.length cy)) from by rw [ey1];exact valT_mk hny hmy)
   have HCx:=Qh (show checkP x=0 from check_arg HCk.out (show x ∈ [x,y] from by simp))
   have HCy:=Qh (show checkP y=0 from check_arg HCk.out (show y ∈ [x,y] from by simp))
   have HTx:=Qh (fun (u:World) (hu:Below w1.heap.size w1 u)=>show TAt u u.heap.size x (.slice Ax tx.length cx) from htx.to hu hu.size)
   have HTy:=Qh (fun (u:World) (hu:Below w1.heap.size w1 u)=>show TAt u u.heap.size y (.slice Ay ty.length cy) from hty.to hu hu.size)
   have HPy:=Qh (fun (u:World) (hu:Below w1.heap.size w1 u)=>show Q7 u g (o+6) ky nby' mby' by' vy (.slice Ay ty.length cy) from
    ⟨(hu.cell (p:=⟨g,o+6,none⟩) hg).trans r0,(hu.cell (p:=⟨g,o+6+1,none⟩) hg).trans r1,(hu.cell (p:=⟨g,o+6+2,none⟩) hg).trans r2,(hu.cell (p:=⟨g,o+6+3,none⟩) hg).trans r3,(hu.cell (p:=⟨g,o+6+4,none⟩) hg).trans r4,(hu.cell (p:=⟨g,o+6+5,none⟩) hg).trans r5⟩)
   clear ex ey ex1 ey1 hnx hmx hny hmy htx hty r0 r1 r2 r3 r4 r5
   generalize tx.length=qx at *
   generalize ty.length=qy at *
   have hc2:(2:Int)≤(c:Int):=by omega
   by_cases hn:n0=sDots
   ·subst hn
    have t1:(nby.toList == [46,46])=true:=by rw [hnl];rfl
    have HR:=Qh (show rdT (.mk 5 sDots m0 b0 v0 [x,y])=([((bdT x).1,(bdT y).1)],(bdT x).2 && (bdT y).2) from by rw [rdT,if_neg (by decide),if_pos ⟨rfl,rfl⟩])
    have HBx:=Qh (fun (u:World) (hu:Below w1.heap.size w1 u)=>show Calls Tryz.prog 46 #[.agg (Q5 kx nbx mbx bx vx (.slice Ax qx cx))] u (RbPost u (bdT x)) from by
     have hh:=rbound_ok (HTx.out u hu) (canon_of HCx.out)
     rw [HVx.out] at hh
     exact hh)
    have HBy:=Qh (fun (u:World) (hu:Below w1.heap.size w1 u)=>show Calls Tryz.prog 46 #[.agg (Q5 ky nby' mby' by' vy (.slice Ay qy cy))] u (RbPost u (bdT y)) from by
     have hh:=rbound_ok (HTy.out u hu) (canon_of HCy.out)
     rw [HVy.out] at hh
     exact hh)
    generalize bdT x=rx at HR HBx
    generalize bdT y=ry at HR HBy
    obtain ⟨e1,b1⟩:=rx
    obtain ⟨e2,b2⟩:=ry
    simp only at HR
    clear hnl
    go_enter Tryz.func13,Tryz.ntmps13
    go_upto_region 1 with fail
    try rw [HB.out]
    try rw [hW1]
    clear hW1
    go_upto_region 8 with (go_at_call 46;(with_reducible refine (HBx.out _ (Below.refl _ _)).mono ?_);rintro e u1 ⟨⟨di,dg,dA,dn,dc,dl⟩,e3,rfl,hsb,heq,hok,hb1⟩;have HA1:=Qh (Qa hsb heq);have HU1:=Qh hb1;clear hsb heq hok hb1 x0 x1 x2 x3 x4 x5 p0 p1 p2 p3 p4 p5;simp only [Bd.v,Bd.vals])
    have HU2:=Qh (HU1.out.alloc HU1.out.size (.cells #[.int .i64 di,.bool dg,.slice dA dn dc] 81))
    have HE1:=Qh (NBox.new u1 ⟨di,dg,dA,dn,dc,dl⟩)
    have HA2:=Qh (show Sb (u1.alloc (.cells #[.int .i64 di,.bool dg,.slice dA dn dc] 81)) (Fr B (u1.alloc (.cells #[.int .i64 di,.bool dg,.slice dA dn dc] 81))) e3 ⟨di,dg,dA,dn,dc,dl⟩ from HA1.out.1.keep (fun x hx=>⟨⟨by have:=hx.1;have:=HZ1.out;omega,by have:=hx.2;simp;omega⟩,((Below.refl u1.heap.size u1).alloc (Nat.le_refl _) _).block x hx.2⟩))
    have HQ1:=Qh HA1.out.2
    simp only [Bd.vals] at HE1
    generalize hg1:u1.heap.size=G1 at HE1
    try rw [hg1]
    generalize (u1.alloc (.cells #[.int .i64 di,.bool dg,.slice dA dn dc] 81))=u2 at *
    clear hg1 HA1 HU1
    obtain ⟨x0,x1,x2,x3,x4,x5⟩:=(TBox.below HX.out HU2.out).cells HL.out.1 HL.out.2.1
    obtain ⟨p0,p1,p2,p3,p4,p5⟩:=HPy.out u2 HU2.out
    go_upto_region 9 with (go_at_call 46;(with_reducible refine (HBy.out _ HU2.out).mono ?_);rintro e u3 ⟨⟨fi,fg,fA,fn,fc,fl⟩,e4,rfl,hsb,heq,hok,hb3⟩;have HA3:=Qh (Qa hsb heq);have HU3:=Qh hb3;clear hsb heq hok hb3 x0 x1 x2 x3 x4 x5 p0 p1 p2 p3 p4 p5;simp only [Bd.v,Bd.vals])
    have hU3:=HU3.out.size
    have HU4:=Qh (HU3.out.alloc HU3.out.size (.cells #[.int .i64 fi,.bool fg,.slice fA fn fc] 81))
    have HE3:=Qh (NBox.new u3 ⟨fi,fg,fA,fn,fc,fl⟩)
    have HE4:=Qh (NBox.below (b:=⟨di,dg,dA,dn,dc,dl⟩) HE1.out HU4.out)
    have HA4:=Qh (show Sb (u3.alloc (.cells #[.int .i64 fi,.bool fg,.slice fA fn fc] 81)) (Fr B (u3.alloc (.cells #[.int .i64 fi,.bool fg,.slice fA fn fc] 81))) e3 ⟨di,dg,dA,dn,dc,dl⟩ from HA2.out.keep (fun x hx=>⟨⟨hx.1,Ql hx.2 HU4.out.size⟩,HU4.out.block x hx.2⟩))
    have HA5:=Qh (show Sb (u3.alloc (.cells #[.int .i64 fi,.bool fg,.slice fA fn fc] 81)) (Fr B (u3.alloc (.cells #[.int .i64 fi,.bool fg,.slice fA fn fc] 81))) e4 ⟨fi,fg,fA,fn,fc,fl⟩ from HA3.out.1.keep (fun x hx=>⟨⟨by have:=hx.1;have:=HU2.out.size;have:=HZ1.out;omega,by have:=hx.2;simp;omega⟩,((Below.refl u3.heap.size u3).alloc (Nat.le_refl _) _).block x hx.2⟩))
    have HQ3:=Qh HA3.out.2
    simp only [Bd.vals] at HE3
    generalize hg3:u3.heap.size=G3 at HE3
    try rw [hg3]
    generalize (u3.alloc (.cells #[.int .i64 fi,.bool fg,.slice fA fn fc] 81))=u4 at *
    clear hg3 HA3 HU3 HA2 HE1
    have HBw:=Qh (show Below B w u4 from (HB1.out.trans (HU2.out.mono (by have:=HZ1.out;omega))).trans (HU4.out.mono (by have:=HZ1.out;have:=HU2.out.size;omega)))
    have hBs:B≤u4.heap.size:=by have:=HBw.out.size;have:=HB.out;omega
    have HQ:=Qh (SRow.one (w:=u4) (B:=B) (q:=((⟨di,dg,dA,dn,dc,dl⟩,⟨fi,fg,fA,fn,fc,fl⟩):Rg)) hBs ⟨HA4.out.mk_,HA5.out.mk_⟩)
    have HBf:=Qh (show Below B w (u4.alloc (.cells #[.int .i64 di,.bool dg,.slice dA dn dc,.int .i64 fi,.bool fg,.slice fA fn fc] 84)) from HBw.out.alloc hBs _)
    simp only [cells6_eq] at HQ
    obtain ⟨y0,y1,y2⟩:=NBox.cells (b:=⟨di,dg,dA,dn,dc,dl⟩) HE4.out
    obtain ⟨z0,z1,z2⟩:=NBox.cells (b:=⟨fi,fg,fA,fn,fc,fl⟩) HE3.out
    simp only at y0 y1 y2 z0 z1 z2
    have key:∀ bb,bb=(b1 && b2)→RdPostB B w (.mk 5 sDots m0 b0 v0 [x,y]) (.returned (.tuple #[.slice (some ⟨u4.heap.size,0,none⟩) 1 1,.bool bb])) (u4.alloc (.cells #[.int .i64 di,.bool dg,.slice dA dn dc,.int .i64 fi,.bool fg,.slice fA fn fc] 84)):=fun bb hbb=>
     ⟨_,1,1,_,by rw [HR.out,hbb],HQ.out.wide (fun b hb=>hb.2),fun hok=>by
      rw [HR.out] at hok ⊢
      simp only [Bool.and_eq_true] at hok
      simp only [List.map_cons,List.map_nil,edsS,HA4.out.ed,HA5.out.ed,HQ1.out hok.1,HQ3.out hok.2],sz_pos _,HBf.out⟩
    have HK:=Qh key
    clear key
    cases b1
    all_goals
     go_wp2
     first
      | (go_ret;exact HK.out _ rfl)
      | exact bodyPost_ret (by simp [results,Tryz.results13,go_sem]) rfl (HK.out _ rfl)
   ·have t1:(nby.toList == [46,46])=false:=by rw [hnl];exact beq_eq_false_iff_ne.2 hn
    have HR2:=Qh (show (rdT (.mk 5 n0 m0 b0 v0 [x,y])).2=((rdT x).2 && (rdT y).2 && decide (n0=sOr)) from rd_two hn)
    have HRl:=Qh (fun (g:n0=sOr)=>show (rdT (.mk 5 n0 m0 b0 v0 [x,y])).1=(rdT x).1 ++ (rdT y).1 from rd_two_l g)
    have HRx:=Qh (fun (u:World) (hu:Below w1.heap.size w1 u)=>show Calls Tryz.prog 13 #[.agg (Q5 kx nbx mbx bx vx (.slice Ax qx cx))] u (RdPostB u.heap.size u x) from by
     have hh:=HIH.out x (by simp) u _ (HTx.out u hu) HCx.out
     rw [HVx.out] at hh
     exact hh)
    have HRy:=Qh (fun (u:World) (hu:Below w1.heap.size w1 u)=>show Calls Tryz.prog 13 #[.agg (Q5 ky nby' mby' by' vy (.slice Ay qy cy))] u (RdPostB u.heap.size u y) from by
     have hh:=HIH.out y (by simp) u _ (HTy.out u hu) HCy.out
     rw [HVy.out] at hh
     exact hh)
    unfold RdPostB at HRx HRy
    have HSz:=Qh (show sz (.mk 5 n0 m0 b0 v0 [x,y])=sz x+sz y+1∧sz x+sz y≤4000 from by
     have h1:sz (.mk 5 n0 m0 b0 v0 [x,y])=sz x+sz y+1:=by simp [sz,szs]
     have h2:=(check_iff.1 HCk.out).1
     omega)
    obtain ⟨b1,hb1⟩:∃ b,(rdT x).2=b:=⟨_,rfl⟩
    obtain ⟨b2,hb2⟩:∃ b,(rdT y).2=b:=⟨_,rfl⟩
    rw [hb1] at HRx HR2
    rw [hb2] at HRy HR2
    obtain ⟨b3,hb3⟩:∃ b,decide (n0=sOr)=b:=⟨_,rfl⟩
    rw [hb3] at HR2
    have t2:(nby.toList == [92,47])=b3:=by
     rw [hnl,←hb3]
     by_cases hh:n0=sOr
     ·rw [decide_eq_true hh,hh];rfl
     ·rw [decide_eq_false hh];exact beq_eq_false_iff_ne.2 hh
    have HO3:=Qh (fun (hh:b3=true)=>show n0=sOr from of_decide_eq_true (hb3.trans hh))
    clear hnl hb1 hb2 hb3 hn
    go_enter Tryz.func13,Tryz.ntmps13
    go_upto_region 1 with fail
    try rw [HB.out]
    try rw [hW1]
    clear hW1
    go_upto_region 11 with (go_at_call 13;(with_reducible refine (HRx.out _ (Below.refl _ _)).mono ?_);rintro e u1 ⟨A1,n1,c1,qs1,rfl,hr1,he1,hn1,hb1⟩;have HW:=Qh (Qa hr1 (Qa he1 hn1));have HU1:=Qh hb1;clear hr1 he1 hn1 hb1 x0 x1 x2 x3 x4 x5 p0 p1 p2 p3 p4 p5;obtain ⟨x0,x1,x2,x3,x4,x5⟩:=(TBox.below HX.out HU1.out).cells HL.out.1 HL.out.2.1;obtain ⟨p0,p1,p2,p3,p4,p5⟩:=HPy.out u1 HU1.out)
    go_upto_region 12 with (go_at_call 13;(with_reducible refine (HRy.out _ HU1.out).mono ?_);rintro e u2 ⟨A2,n2,c2,qs2,rfl,hr1,he1,hn1,hb1⟩;have HY:=Qh (Qa hr1 (Qa he1 hn1));have HU2:=Qh hb1;clear hr1 he1 hn1 hb1 x0 x1 x2 x3 x4 x5 p0 p1 p2 p3 p4 p5)
    have hU1:=HU1.out.size
    have hU2:=HU2.out.size
    have hZ1:=HZ1.out
    have HBw:=Qh (show Below B w u2 from (HB1.out.trans (HU1.out.mono (by omega))).trans (HU2.out.mono (by omega)))
    have hBs:B≤u2.heap.size:=by omega
    have HX2:=Qh (TBox.below (TBox.below HX.out HU1.out) HU2.out)
    have HRa:=Qh (show SRow u2 0 (fun b=>b<u2.heap.size) A1 n1 c1 qs1 from ((HW.out.1.keep HU2.out (fun b hb=>hb)).wide (fun b hb=>by omega)).lower (by omega))
    have HRb:=Qh (show SRow u2 0 (fun b=>b<u2.heap.size) A2 n2 c2 qs2 from HY.out.1.lower (by omega))
    have HMx:=Qh (show n1+n2≤4000 from by have:=HW.out.2.2;have:=HY.out.2.2;have:=HSz.out.2;omega)
    have key:∀ bb A3 c3 u3,bb=(b1 && b2 && b3)→SRow u3 B (fun b=>b<u3.heap.size) A3 (n1+n2) c3 (qs1 ++ qs2)→Below u2.heap.size u2 u3→RdPostB B w (.mk 5 n0 m0 b0 v0 [x,y]) (.returned (.tuple #[.slice A3 (n1+n2) c3,.bool bb])) u3:=fun bb A3 c3 u3 hbb hr3 hb3=>
     ⟨_,_,_,_,by rw [HR2.out,hbb],hr3,fun hok=>by
      rw [HR2.out] at hok
      simp only [Bool.and_eq_true] at hok
      rw [HRl.out (HO3.out hok.2),List.map_append,HW.out.2.1 hok.1.1,HY.out.2.1 hok.1.2],by have:=HW.out.2.2;have:=HY.out.2.2;have:=HSz.out.1;omega,HBw.out.trans (hb3.mono hBs)⟩
    have HK:=Qh key
    clear key
    cases b1
    ·refine wp_region_H (by kernel_rfl) (fun z0 K0 hs0=>?_)
     refine tH0 1 K0 ?_
     refine tH0 3 K0 ?_
     refine tH0 5 K0 ?_
     refine oH0 0 fun K hK=>?_
     go_simp
     have hbe:Below z0.heap.size z0 (z0.alloc (.cells #[] 84)):=Qb
     have HS0:=Qh (SRow.none_ (w:=z0) (B:=u2.heap.size) K0.size (fun b=>b<(z0.alloc (.cells #[] 84)).heap.size))
     have K1:=Qt K0 hbe
     have HR1:=Qh ((HRa.out.keep K1 (fun b hb=>hb)).wide (Q:=fun b=>b<(z0.alloc (.cells #[] 84)).heap.size) (fun b hb=>Ql hb K1.size))
     have HN1:=Qh (show ∀ q∈qs1,Sg (z0.alloc (.cells #[] 84)) (fun b=>b<(z0.alloc (.cells #[] 84)).heap.size∧(Value.slice (some ⟨z0.heap.size,0,none⟩) 0 0).ownBlock≠some b) q from fun q hq=>(HRa.out.kid q hq).keep (fun b hb=>⟨⟨Ql hb.1 K1.size,fun e=>by
      have e2:(Value.slice (some ⟨z0.heap.size,0,none⟩) 0 0).ownBlock=some z0.heap.size:=rfl
      rw [e2] at e;injection e with e;have:=hb.1;have:=K0.size;omega⟩,K1.block b hb.1⟩))
     refine hK.out _ _ K1 ?_
     generalize (z0.alloc (.cells #[] 84))=z1 at *
     rw [hs0] at HS0 HN1
     refine oH0 2 fun K hK=>?_
     refine step_app2S (B:=u2.heap.size) rfl _ _ rfl (by rfl) (by rfl) HS0.out HR1.out HN1.out (by have:=HMx.out;unfold maxRg;omega) K1.size ?_
     intro A5 c5 z2 hr5 hb5
     have K2:=K1.trans hb5
     have HR5:=Qh hr5
     clear hr5
     have HR6:=Qh ((HRb.out.keep K2 (fun b hb=>hb)).wide (Q:=fun b=>b<z2.heap.size) (fun b hb=>Ql hb K2.size))
     have HN6:=Qh (show ∀ q∈qs2,Sg z2 (fun b=>b<z2.heap.size∧(Value.slice A5 (0+n1) c5).ownBlock≠some b) q from fun q hq=>(HRb.out.kid q hq).keep (fun b hb=>⟨⟨Ql hb.1 K2.size,fun e=>by
      rcases HR5.out.block with ⟨e1,_⟩ | ⟨g1,e1,h1,h2,h3⟩
      ·rw [e1] at e;cases e
      ·rw [h3] at e;injection e with e;have:=hb.1;omega⟩,K2.block b hb.1⟩))
     refine hK.out _ _ K2 ?_
     refine oH0 4 fun K hK=>?_
     refine step_app2S (B:=u2.heap.size) rfl _ _ rfl (by rfl) (by rfl) HR5.out HR6.out HN6.out (by have:=HMx.out;unfold maxRg;omega) K2.size ?_
     intro A7 c7 z3 hr7 hb7
     have K3:=K2.trans hb7
     have HR7:=Qh (show SRow z3 B (fun b=>b<z3.heap.size) A7 (n1+n2) c7 (qs1 ++ qs2) from by
      have hh:=hr7
      rw [Nat.zero_add,List.nil_append] at hh
      exact hh.lower hBs)
     clear hr7
     rw [Nat.zero_add]
     refine hK.out _ _ K3 ?_
     refine tH0 6 K3 ?_
     refine tI0 7 K3 ?_
     refine tH0 8 K3 ?_
     refine tH0 9 K3 ?_
     refine tI0 10 K3 ?_
     refine tI0 11 K3 ?_
     refine tI0 12 K3 ?_
     refine tH0 13 K3 ?_
     refine tH0 14 K3 ?_
     refine oH0 15 fun K hK=>?_
     go_simp
     refine hK.out _ _ K3 ?_
     refine wpAnyH_end (by kernel_rfl) ?_ _
     have HK3:=Qh K3
     clear K0 K1 K2 K3 hs0 hb5 hb7
     go_wp2_with fail
     first
      | (go_ret;exact HK.out _ _ _ _ (by simp) HR7.out HK3.out)
      | exact bodyPost_ret (v:=.tuple #[.slice A7 (n1+n2) c7,.bool false]) (by simp [results,Tryz.results13,go_sem]) rfl (HK.out _ _ _ _ (by simp) HR7.out HK3.out)
    ·cases b2
     ·refine wp_region_H (by kernel_rfl) (fun z0 K0 hs0=>?_)
      refine tH0 1 K0 ?_
      refine tH0 3 K0 ?_
      refine tH0 5 K0 ?_
      refine oH0 0 fun K hK=>?_
      go_simp
      have hbe:Below z0.heap.size z0 (z0.alloc (.cells #[] 84)):=Qb
      have HS0:=Qh (SRow.none_ (w:=z0) (B:=u2.heap.size) K0.size (fun b=>b<(z0.alloc (.cells #[] 84)).heap.size))
      have K1:=Qt K0 hbe
      have HR1:=Qh ((HRa.out.keep K1 (fun b hb=>hb)).wide (Q:=fun b=>b<(z0.alloc (.cells #[] 84)).heap.size) (fun b hb=>Ql hb K1.size))
      have HN1:=Qh (show ∀ q∈qs1,Sg (z0.alloc (.cells #[] 84)) (fun b=>b<(z0.alloc (.cells #[] 84)).heap.size∧(Value.slice (some ⟨z0.heap.size,0,none⟩) 0 0).ownBlock≠some b) q from fun q hq=>(HRa.out.kid q hq).keep (fun b hb=>⟨⟨Ql hb.1 K1.size,fun e=>by
       have e2:(Value.slice (some ⟨z0.heap.size,0,none⟩) 0 0).ownBlock=some z0.heap.size:=rfl
       rw [e2] at e;injection e with e;have:=hb.1;have:=K0.size;omega⟩,K1.block b hb.1⟩))
      refine hK.out _ _ K1 ?_
      generalize (z0.alloc (.cells #[] 84))=z1 at *
      rw [hs0] at HS0 HN1
      refine oH0 2 fun K hK=>?_
      refine step_app2S (B:=u2.heap.size) rfl _ _ rfl (by rfl) (by rfl) HS0.out HR1.out HN1.out (by have:=HMx.out;unfold maxRg;omega) K1.size ?_
      intro A5 c5 z2 hr5 hb5
      have K2:=K1.trans hb5
      have HR5:=Qh hr5
      clear hr5
      have HR6:=Qh ((HRb.out.keep K2 (fun b hb=>hb)).wide (Q:=fun b=>b<z2.heap.size) (fun b hb=>Ql hb K2.size))
      have HN6:=Qh (show ∀ q∈qs2,Sg z2 (fun b=>b<z2.heap.size∧(Value.slice A5 (0+n1) c5).ownBlock≠some b) q from fun q hq=>(HRb.out.kid q hq).keep (fun b hb=>⟨⟨Ql hb.1 K2.size,fun e=>by
       rcases HR5.out.block with ⟨e1,_⟩ | ⟨g1,e1,h1,h2,h3⟩
       ·rw [e1] at e;cases e
       ·rw [h3] at e;injection e with e;have:=hb.1;omega⟩,K2.block b hb.1⟩))
      refine hK.out _ _ K2 ?_
      refine oH0 4 fun K hK=>?_
      refine step_app2S (B:=u2.heap.size) rfl _ _ rfl (by rfl) (by rfl) HR5.out HR6.out HN6.out (by have:=HMx.out;unfold maxRg;omega) K2.size ?_
      intro A7 c7 z3 hr7 hb7
      have K3:=K2.trans hb7
      have HR7:=Qh (show SRow z3 B (fun b=>b<z3.heap.size) A7 (n1+n2) c7 (qs1 ++ qs2) from by
       have hh:=hr7
       rw [Nat.zero_add,List.nil_append] at hh
       exact hh.lower hBs)
      clear hr7
      rw [Nat.zero_add]
      refine hK.out _ _ K3 ?_
      refine tH0 6 K3 ?_
      refine tH0 7 K3 ?_
      refine tH0 8 K3 ?_
      refine tH0 9 K3 ?_
      refine tI0 10 K3 ?_
      refine tI0 11 K3 ?_
      refine tI0 12 K3 ?_
      refine tH0 13 K3 ?_
      refine tH0 14 K3 ?_
      refine oH0 15 fun K hK=>?_
      go_simp
      refine hK.out _ _ K3 ?_
      refine wpAnyH_end (by kernel_rfl) ?_ _
      have HK3:=Qh K3
      clear K0 K1 K2 K3 hs0 hb5 hb7
      go_wp2_with fail
      first
       | (go_ret;exact HK.out _ _ _ _ (by simp) HR7.out HK3.out)
       | exact bodyPost_ret (v:=.tuple #[.slice A7 (n1+n2) c7,.bool false]) (by simp [results,Tryz.results13,go_sem]) rfl (HK.out _ _ _ _ (by simp) HR7.out HK3.out)
     ·refine wp_region_H (by kernel_rfl) (fun z0 K0 hs0=>?_)
      refine tH0 1 K0 ?_
      refine tH0 3 K0 ?_
      refine tH0 5 K0 ?_
      refine oH0 0 fun K hK=>?_
      go_simp
      have hbe:Below z0.heap.size z0 (z0.alloc (.cells #[] 84)):=Qb
      have HS0:=Qh (SRow.none_ (w:=z0) (B:=u2.heap.size) K0.size (fun b=>b<(z0.alloc (.cells #[] 84)).heap.size))
      have K1:=Qt K0 hbe
      have HR1:=Qh ((HRa.out.keep K1 (fun b hb=>hb)).wide (Q:=fun b=>b<(z0.alloc (.cells #[] 84)).heap.size) (fun b hb=>Ql hb K1.size))
      have HN1:=Qh (show ∀ q∈qs1,Sg (z0.alloc (.cells #[] 84)) (fun b=>b<(z0.alloc (.cells #[] 84)).heap.size∧(Value.slice (some ⟨z0.heap.size,0,none⟩) 0 0).ownBlock≠some b) q from fun q hq=>(HRa.out.kid q hq).keep (fun b hb=>⟨⟨Ql hb.1 K1.size,fun e=>by
       have e2:(Value.slice (some ⟨z0.heap.size,0,none⟩) 0 0).ownBlock=some z0.heap.size:=rfl
       rw [e2] at e;injection e with e;have:=hb.1;have:=K0.size;omega⟩,K1.block b hb.1⟩))
      refine hK.out _ _ K1 ?_
      generalize (z0.alloc (.cells #[] 84))=z1 at *
      rw [hs0] at HS0 HN1
      refine oH0 2 fun K hK=>?_
      refine step_app2S (B:=u2.heap.size) rfl _ _ rfl (by rfl) (by rfl) HS0.out HR1.out HN1.out (by have:=HMx.out;unfold maxRg;omega) K1.size ?_
      intro A5 c5 z2 hr5 hb5
      have K2:=K1.trans hb5
      have HR5:=Qh hr5
      clear hr5
      have HR6:=Qh ((HRb.out.keep K2 (fun b hb=>hb)).wide (Q:=fun b=>b<z2.heap.size) (fun b hb=>Ql hb K2.size))
      have HN6:=Qh (show ∀ q∈qs2,Sg z2 (fun b=>b<z2.heap.size∧(Value.slice A5 (0+n1) c5).ownBlock≠some b) q from fun q hq=>(HRb.out.kid q hq).keep (fun b hb=>⟨⟨Ql hb.1 K2.size,fun e=>by
       rcases HR5.out.block with ⟨e1,_⟩ | ⟨g1,e1,h1,h2,h3⟩
       ·rw [e1] at e;cases e
       ·rw [h3] at e;injection e with e;have:=hb.1;omega⟩,K2.block b hb.1⟩))
      refine hK.out _ _ K2 ?_
      refine oH0 4 fun K hK=>?_
      refine step_app2S (B:=u2.heap.size) rfl _ _ rfl (by rfl) (by rfl) HR5.out HR6.out HN6.out (by have:=HMx.out;unfold maxRg;omega) K2.size ?_
      intro A7 c7 z3 hr7 hb7
      have K3:=K2.trans hb7
      have HR7:=Qh (show SRow z3 B (fun b=>b<z3.heap.size) A7 (n1+n2) c7 (qs1 ++ qs2) from by
       have hh:=hr7
       rw [Nat.zero_add,List.nil_append] at hh
       exact hh.lower hBs)
      clear hr7
      rw [Nat.zero_add]
      refine hK.out _ _ K3 ?_
      refine tH0 6 K3 ?_
      refine tH0 7 K3 ?_
      refine tH0 8 K3 ?_
      refine tH0 9 K3 ?_
      refine tH0 10 K3 ?_
      refine tH0 11 K3 ?_ (y:=fun z5 hS=>by obtain ⟨q0,q1,q2,q3,q4,q5⟩:=(TBox.below HX2.out hS).cells HL.out.1 HL.out.2.1;go_simp;rfl)
      refine tH0 12 K3 ?_
      refine tH0 13 K3 ?_
      refine tH0 14 K3 ?_
      refine oH0 15 fun K hK=>?_
      go_simp
      refine hK.out _ _ K3 ?_
      refine wpAnyH_end (by kernel_rfl) ?_ _
      have HK3:=Qh K3
      clear K0 K1 K2 K3 hs0 hb5 hb7
      go_wp2_with fail
      first
       | (go_ret;exact HK.out _ _ _ _ (by simp) HR7.out HK3.out)
       | exact bodyPost_ret (v:=.tuple #[.slice A7 (n1+n2) c7,.bool b3]) (by simp [results,Tryz.results13,go_sem]) rfl (HK.out _ _ _ _ (by simp) HR7.out HK3.out)
  ·have HR:=Qh (show rdT (.mk k0 n0 m0 b0 v0 ts0)=([],false) from by
    refine rd_other h3 ?_
    by_cases g1:k0=5
    ·exact .inr (.inl (by rw [HL.out.2.2];exact fun e=>h5 ⟨g1,e⟩))
    ·exact .inl g1)
   have key:RdPostB B w (.mk k0 n0 m0 b0 v0 ts0) (.returned (.tuple #[.slice none 0 0,.bool false])) w1:=
    ⟨none,0,0,[],by rw [HR.out],SRow.nil _ _ _,(fun h=>by rw [HR.out] at h;cases h),Nat.zero_le _,HB1.out⟩
   have HK:=Qh key
   clear key
   by_cases g1:k0=5
   ·subst g1
    have g20:((q:Int)==2)=false:=beq_eq_false_iff_ne.2 (fun e=>h5 ⟨rfl,by omega⟩)
    have g21:¬((q:Int)=2):=fun e=>h5 ⟨rfl,by omega⟩
    clear hnl h5
    go_enter Tryz.func13,Tryz.ntmps13
    go_upto_region 1 with fail
    try rw [HB.out]
    try rw [hW1]
    clear hW1
    go_wp2
    first
     | (go_ret;exact HK.out)
     | exact bodyPost_ret (by simp [results,Tryz.results13,go_sem]) rfl HK.out
   ·have g10:(k0==5)=false:=beq_eq_false_iff_ne.2 g1
    clear hnl h5
    go_enter Tryz.func13,Tryz.ntmps13
    go_upto_region 1 with fail
    try rw [HB.out]
    try rw [hW1]
    clear hW1
    go_wp2
    first
     | (go_ret;exact HK.out)
     | exact bodyPost_ret (by simp [results,Tryz.results13,go_sem]) rfl HK.out
end
section
open Go.RowKit Hb Hf Ht
attribute [local go_sem ↓] Go.wp_at_zero Go.wp_at_succ
def tyErr:List UInt8:=[116,121,112,101,95,101,114,114,111,114]
def fdDom:List UInt8:=[102,100,95,100,111,109,97,105,110]
def errT (t:Tm):Tm:=cmpT tyErr [atomT fdDom,t]
def errI (k:Int):Value:=if k=0 then .nilIface else .iface 31 (.int .i64 k)
def BBox (w:World) (g:Nat) (t:Tm) (sl:Value):Prop:=w.heap[g]?=some (.cells (Ht.cells6 t sl).toArray 50 (0,0))
theorem BBox.lt {w:World} {g:Nat} {t:Tm} {sl:Value} (h:BBox w g t sl):g<w.heap.size:=(Array.getElem?_eq_some_iff.1 h).1
theorem BBox.below {w w':World} {g:Nat} {t:Tm} {sl:Value} (h:BBox w g t sl) (hb:Below w.heap.size w w'):BBox w' g t sl:=(hb.block g h.lt).trans h
theorem BBox.newL (w:World) {t:Tm} {sl a0 a1 a2 a3 a4:Value} (hl:∀ sl,Ht.cells6 t sl = [a0,a1,a2,a3,a4,sl]):BBox (w.alloc (.cells #[a0,a1,a2,a3,a4,sl] 50)) w.heap.size t sl:=by
 unfold BBox
 rw [hl]
 exact heap_alloc_new w _
theorem BBox.cellsL {w:World} {g:Nat} {t:Tm} {sl a0 a1 a2 a3 a4:Value} (h:BBox w g t sl) (hl:∀ sl,Ht.cells6 t sl = [a0,a1,a2,a3,a4,sl]):w.cell? ⟨g,0,none⟩=some a0∧w.cell? ⟨g,1,none⟩=some a1∧w.cell? ⟨g,2,none⟩=some a2∧w.cell? ⟨g,3,none⟩=some a3∧w.cell? ⟨g,4,none⟩=some a4∧w.cell? ⟨g,5,none⟩=some sl:=by
 unfold BBox at h
 rw [hl] at h
 refine ⟨?_,?_,?_,?_,?_,?_⟩ <;> (rw [cell_of_row _ _ _ _ _ (0,0) h];rfl)
def ReadGB (B:Nat) (w:World) (t:Tm) (e:Ending) (w':World):Prop:=Below B w w' ∧
 ((checkP t≠0∧e = .returned (.tuple #[.slice none 0 0,.iface 31 (.int .i64 (checkP t))])) ∨
  (checkP t=0∧(rdT t).2=false∧∃ X sl,e = .returned (.tuple #[.slice none 0 0,.iface 45 (.pointer (some ⟨X,0,none⟩))])∧BBox w' X (errT t) sl∧TAtP w' (fun b=>b<w'.heap.size) (errT t) sl) ∨
  (checkP t=0∧(rdT t).2=true∧Bnd 128 (rdT t).1∧∃ u ps A n c k,Below B w u∧ps.map edsR=(rdT t).1∧ps.length≤sz t∧NormTB u.heap.size u ps (.returned (.tuple #[.slice A n c,.int .i64 k])) w'∧e = .returned (.tuple #[.slice A n c,errI k])))
def ReadG (w:World) (t:Tm) (e:Ending) (w':World):Prop:=ReadGB w.heap.size w t e w'
theorem nt_form {w u:World} {B:Nat} {ps:List Rg} {e:Ending} (h:NormTB B w ps e u):∃ (A:Option Addr) (n c:Nat) (k:Int),e = .returned (.tuple #[.slice A n c,.int .i64 k]):=by
 rcases h.2 with ⟨he,_⟩ | ⟨he,_⟩ | ⟨A,n,c,_,he,_⟩
 ·exact ⟨_,_,_,_,he⟩
 ·exact ⟨_,_,_,_,he⟩
 ·exact ⟨_,_,_,_,he⟩
theorem nt_inj {A A':Option Addr} {n n' c c':Nat} {k k':Int} (h:Ending.returned (.tuple #[.slice A n c,.int .i64 k]) = .returned (.tuple #[.slice A' n' c',.int .i64 k'])):A=A'∧n=n'∧c=c'∧k=k':=by
 injection h with h
 injection h with h
 simp at h
 exact ⟨h.1.1,h.1.2.1,h.1.2.2,h.2⟩
theorem Read_gen {w0 w:World} {t:Tm} {sl:Value} (h:TAt w w.heap.size t sl) (hU:UOk w0 w) :
  Calls Tryz.prog 11 #[valT t sl] w (ReadG w t):=by
 obtain ⟨B,hB⟩:∃ B,w.heap.size=B:=⟨_,rfl⟩
 obtain ⟨A,c,rfl,hl1,hl2,hl3⟩:=h.slice
 obtain ⟨k,nb,mb,b,v,hlt⟩:=tm_letters t
 have hv:∀ sl,valT t sl = .agg (Q5 k nb mb b v sl):=fun sl=>by unfold valT;rw [hlt]
 obtain ⟨q,hq⟩:∃ q,t.as.length=q:=⟨_,rfl⟩
 rw [hq] at h ⊢
 have hX:=TBox.newL w (t:=t) (sl:=.slice A q c) hlt
 have hb1:Below w.heap.size w (w.alloc (.cells (Q5 k nb mb b v (.slice A q c)) 26)):=Qb
 have HT:=Qh (fun (u:World) (hu:Below w.heap.size w u)=>show TAt u u.heap.size t (.slice A q c) from h.to hu hu.size)
 have HU:=Qh (fun (u:World) (hu:Below w.heap.size w u)=>hU.below hu)
 have HCk:=Qh (fun (u:World) (hu:Below w.heap.size w u)=>show Calls Tryz.prog 42 #[.agg (Q5 k nb mb b v (.slice A q c))] u (fun e w'=>e = .returned (.int .i64 (checkP t))∧Below u.heap.size u w') from by
  have hh:=Check_any (HT.out u hu) (HU.out u hu)
  rw [hv] at hh
  exact hh)
 have HRg:=Qh (fun (hck:checkP t=0) (u:World) (hu:Below w.heap.size w u)=>show Calls Tryz.prog 43 #[.agg (Q5 k nb mb b v (.slice A q c))] u (RgPostB u.heap.size u t) from by
  have hh:=ranges_ok t u _ (HT.out u hu) hck
  rw [hv] at hh
  exact hh)
 have HOf:=Qh (fun (u:World) (hu:Below w.heap.size w u)=>show Calls Tryz.prog 36 #[.string ⟨#[116,121,112,101,95,101,114,114,111,114]⟩,.agg (Qn 2 ⟨#[102,100,95,100,111,109,97,105,110]⟩ (.slice none 0 0)),.agg (Q5 k nb mb b v (.slice A q c))] u (TmPost u (fun b=>b<u.heap.size) (errT t)) from by
  have hh:=of_ok (w:=u) (P:=fun b=>b<u.heap.size) (ta:=atomT fdDom) (sa:=.slice none 0 0) (tb:=t) (s:=tyErr) (TAtP.leaf u _ rfl (by simp [maxLen]) (okF_atom (by decide))) (HT.out u hu) (fun b hb=>hb) rfl (by decide)
  rw [hv] at hh
  exact hh)
 have HSz:=Qh (fun (hck:checkP t=0)=>show sz t≤100000 from by
  have h2:=(check_iff.1 hck).1
  omega)
 rw [hv]
 rw [hB] at hX
 have HX:=Qh hX
 have HB1:=Qh hb1
 have HLt:=Qh hlt
 unfold RgPostB at HRg
 unfold TmPost at HOf
 unfold ReadG
 rw [hB]
 have HB:=Qh hB
 clear h hU hlt hX hb1 hq hl1 hl2 hl3
 obtain ⟨kc,hkc⟩:∃ kc,checkP t=kc:=⟨_,rfl⟩
 rw [hkc] at HCk
 have HKc:=Qh hkc
 obtain ⟨x0,x1,x2,x3,x4,x5⟩:=TBox.cellsL HX.out HLt.out
 clear hv
 go_enter Tryz.func11,Tryz.ntmps11
 go_upto_region 1 with fail
 try rw [hB]
 clear hB
 generalize w.alloc (.cells (Q5 k nb mb b v (.slice A q c)) 26)=w1 at *
 by_cases hc0:kc=0
 ·subst hc0
  have HRg2:=Qh (HRg.out hkc)
  have HSz2:=Qh (HSz.out hkc)
  clear hkc HRg HSz
  go_upto_region 4 with (go_at_call 42;(with_reducible refine (HCk.out _ HB1.out).mono ?_);rintro e u1 ⟨rfl,hb⟩;have HU1:=Qh (HB1.out.trans (hb.mono HB1.out.size));have HX1:=Qh (TBox.below HX.out hb);clear hb x0 x1 x2 x3 x4 x5;obtain ⟨x0,x1,x2,x3,x4,x5⟩:=TBox.cellsL HX1.out HLt.out)
  obtain ⟨rd2,hrd⟩:∃ q,(rdT t).2=q:=⟨_,rfl⟩
  rw [hrd] at HRg2
  have HRd:=Qh hrd
  clear hrd
  cases rd2
  ·go_upto_region 6 with (go_at_call 43;(with_reducible refine (HRg2.out _ HU1.out).mono ?_);rintro e u2 ⟨A2,n2,c2,qs,rfl,hr2,hg2,he2,_,hs2,hb⟩;have HU2:=Qh (HU1.out.trans (hb.mono HU1.out.size));have HX2:=Qh (TBox.below HX1.out hb);clear hb hr2 hg2 he2 hs2 x0 x1 x2 x3 x4 x5;obtain ⟨x0,x1,x2,x3,x4,x5⟩:=TBox.cellsL HX2.out HLt.out)
   go_wp2_with fail
   (with_reducible refine (HOf.out _ HU2.out).mono ?_)
   rintro e u3 ⟨sl3,rfl,ht3,hb3⟩
   have HU3:=Qh (Qt HU2.out hb3)
   obtain ⟨ke,ne,me,be,ve,hle⟩:=tm_letters (errT t)
   obtain ⟨Ae,ce,rfl,hA1,hA2,hA3⟩:=TAtP.iff.1 ht3
   have hqe:(errT t).as.length=2:=rfl
   have HTe:=Qh (show TAtP u3 (fun b=>b<u3.heap.size) (errT t) (.slice Ae 2 ce) from by
    rw [hqe] at ht3
    exact ht3.wide (fun b hb=>hb.elim (fun h=>Ql h hb3.size) (·.2)))
   have HLe:=Qh hle
   rw [show valT (errT t) (.slice Ae (errT t).as.length ce) = .agg (Q5 ke ne me be ve (.slice Ae 2 ce)) from by unfold valT;rw [hle,hqe]]
   clear ht3 hb3 hle hqe hA1 hA2 hA3 x0 x1 x2 x3 x4 x5 HOf HRg2 HX2 HX1
   have HBo:=Qh (BBox.newL u3 (t:=errT t) (sl:=.slice Ae 2 ce) HLe.out)
   have HBb:=Qh (show Below u3.heap.size u3 (u3.alloc (.cells (Q5 ke ne me be ve (.slice Ae 2 ce)) 50)) from Qb)
   have key:ReadGB B w t (.returned (.tuple #[.slice none 0 0,.iface 45 (.pointer (some ⟨u3.heap.size,0,none⟩))])) (u3.alloc (.cells (Q5 ke ne me be ve (.slice Ae 2 ce)) 50)):=
    ⟨by rw [←HB.out];exact Qt HU3.out HBb.out,.inr (.inl ⟨HKc.out,HRd.out,_,_,rfl,HBo.out,TAtP.keep _ HTe.out (fun b hb=>⟨Ql hb HBb.out.size,HBb.out.block b hb⟩)⟩)⟩
   have HK:=Qh key
   clear key
   go_wp2_with fail
   first
    | (go_ret;exact HK.out)
    | exact bodyPost_ret (by simp [results,Tryz.results11,go_sem]) rfl HK.out
  ·go_upto_region 7 with (go_at_call 43;(with_reducible refine (HRg2.out _ HU1.out).mono ?_);rintro e u2 ⟨A2,n2,c2,qs,rfl,hr2,hg2,he2,hn2,hs2,hb⟩;have HU2:=Qh (HU1.out.trans (hb.mono HU1.out.size));have HR2:=Qh (Qa hr2 (Qa hg2 (Qa he2 (Qa hs2 hn2))));clear hb hr2 hg2 he2 hs2 hn2 x0 x1 x2 x3 x4 x5)
   have HNm:=Qh (Norm_t (w:=u2) (P:=fun x=>x<u2.heap.size) (A:=A2) (n:=n2) (c:=c2) (ps:=qs) ((HR2.out.1.set (fun b h1 h2=>⟨h1,h2⟩)).wide (fun b hb=>hb.2)) (fun x hx=>hx) (fun q hq=>⟨fun _=>by have:=(HR2.out.2.1 q hq).2.1;omega,fun _=>by have:=(HR2.out.2.1 q hq).2.2;omega⟩) (by have:=HR2.out.2.2.2.2;have:=HSz2.out;omega))
   have HLn:=Qh (show qs.length≤sz t from by have:=HR2.out.1.len;have:=HR2.out.2.2.2.2;omega)
   unfold NormT at HNm
   go_upto_region 8 with (go_at_call 24;(with_reducible refine HNm.out.mono ?_);rintro e u3 hN;obtain ⟨A3,n3,c3,k3,he⟩:=nt_form hN;subst he)
   rcases hN with ⟨hbn,⟨he,h1⟩ | ⟨he,h1⟩ | ⟨A4,n4,c4,q3,he,h1⟩⟩
   ·obtain ⟨e1,e2,e3,e4⟩:=nt_inj he
    subst e1
    subst e2
    subst e3
    subst e4
    clear he
    have key:ReadGB B w t (.returned (.tuple #[.slice none 0 0,.iface 31 (.int .i64 10)])) u3:=
     ⟨by rw [←HB.out];exact Qt HU2.out hbn,.inr (.inr ⟨HKc.out,HRd.out,HR2.out.2.2.2.1,u2,qs,none,0,0,10,by rw [←HB.out];exact HU2.out,HR2.out.2.2.1,HLn.out,⟨hbn,.inl ⟨rfl,h1⟩⟩,rfl⟩)⟩
    have HK:=Qh key
    clear key hbn h1
    go_wp2_with fail
    first
     | (go_ret;exact HK.out)
     | exact bodyPost_ret (by simp [results,Tryz.results11,go_sem]) rfl HK.out
   ·obtain ⟨e1,e2,e3,e4⟩:=nt_inj he
    subst e1
    subst e2
    subst e3
    subst e4
    clear he
    have key:ReadGB B w t (.returned (.tuple #[.slice none 0 0,.iface 31 (.int .i64 90)])) u3:=
     ⟨by rw [←HB.out];exact Qt HU2.out hbn,.inr (.inr ⟨HKc.out,HRd.out,HR2.out.2.2.2.1,u2,qs,none,0,0,90,by rw [←HB.out];exact HU2.out,HR2.out.2.2.1,HLn.out,⟨hbn,.inr (.inl ⟨rfl,h1⟩)⟩,rfl⟩)⟩
    have HK:=Qh key
    clear key hbn h1
    go_wp2_with fail
    first
     | (go_ret;exact HK.out)
     | exact bodyPost_ret (by simp [results,Tryz.results11,go_sem]) rfl HK.out
   ·obtain ⟨e1,e2,e3,e4⟩:=nt_inj he
    subst e1
    subst e2
    subst e3
    subst e4
    clear he
    have key:ReadGB B w t (.returned (.tuple #[.slice A3 n3 c3,.nilIface])) u3:=
     ⟨by rw [←HB.out];exact Qt HU2.out hbn,.inr (.inr ⟨HKc.out,HRd.out,HR2.out.2.2.2.1,u2,qs,A3,n3,c3,0,by rw [←HB.out];exact HU2.out,HR2.out.2.2.1,HLn.out,⟨hbn,.inr (.inr ⟨A3,n3,c3,q3,rfl,h1⟩)⟩,rfl⟩)⟩
    have HK:=Qh key
    clear key hbn h1
    go_wp2_with fail
    first
     | (go_ret;exact HK.out)
     | exact bodyPost_ret (by simp [results,Tryz.results11,go_sem]) rfl HK.out
 ·have hc1:(kc==0)=false:=beq_eq_false_iff_ne.2 hc0
  have HKn:=Qh hc0
  clear HRg HSz HOf hkc
  go_upto_region 3 with (go_at_call 42;(with_reducible refine (HCk.out _ HB1.out).mono ?_);rintro e u1 ⟨rfl,hb⟩;have HU1:=Qh (HB1.out.trans (hb.mono HB1.out.size));clear hb x0 x1 x2 x3 x4 x5)
  have key:ReadGB B w t (.returned (.tuple #[.slice none 0 0,.iface 31 (.int .i64 kc)])) u1:=
   ⟨by rw [←HB.out];exact HU1.out,.inl ⟨by rw [HKc.out];exact HKn.out,by rw [HKc.out]⟩⟩
  have HK:=Qh key
  clear key
  go_wp2_with fail
  first
   | (go_ret;exact HK.out)
   | exact bodyPost_ret (by simp [results,Tryz.results11,go_sem]) rfl HK.out
end
section
open Go.RowKit Hb Hf Ht
attribute [local go_sem ↓] Go.wp_at_zero Go.wp_at_succ
attribute [local go_sem] Oper.semAt_some
theorem F2_any2 {w:World} {P:Nat→Prop} {ta tb:Tm} {sa sb:Value} {s:List UInt8} {nb:ByteArray} (ha:TAtP w P ta sa) (hb:TAtP w P tb sb) (hP:∀ b,P b→b<w.heap.size) (hs:(⟨s.toArray⟩:ByteArray)=nb) (hl:s.length≤maxLen) :
  Calls Tryz.prog 14 #[.string nb,valT ta sa,valT tb sb] w fun e w'=>∃ A c,e = .returned (.agg (Qn 5 nb (.slice A 2 c)))∧TAtP w' (Grow P w w') (cmpT s [ta,tb]) (.slice A 2 c)∧Below w.heap.size w w':=by
 have h:=F2_any ha hb hP nb (by rw [←hs];show s.toArray.size≤_;rw [List.size_toArray];exact hl)
 have e:nb.data.toList=s:=by rw [←hs]
 rw [e] at h
 exact h
theorem TAtP.keep' {w w':World} {P:Nat→Prop} {w5:World} {t:Tm} {sl:Value} (h:TAtP w (Grow (fun _=>False) w5 w) t sl) (hb:Below w.heap.size w w'):TAtP w' (fun b=>w5.heap.size≤b∧b<w.heap.size) t sl:=TAtP.keep t h (fun b hb2=>by
 rcases hb2 with hb2 | hb2
 ·exact hb2.elim
 ·exact ⟨hb2,hb.block b hb2.2⟩)
theorem dec_one:decB 1 = [49]:=by decide +kernel
theorem dec_nought:decB 0 = [48]:=by decide +kernel
def RTermPostB (B:Nat) (w:World) (N:List R) (e:Ending) (w':World):Prop:=∃ sl,e = .returned (valT (setT N) sl)∧TAtP w' (Fr B w') (setT N) sl∧Below B w w'
def RTermPost (w:World) (N:List R) (e:Ending) (w':World):Prop:=RTermPostB w.heap.size w N e w'
theorem rTerm_ok {w:World} {P:Nat→Prop} {A:Option Addr} {n c:Nat} {ps:List Rg} {N:List R} (h:RefI w P A n c ps) (hP:∀ b,P b→b<w.heap.size) (hN:NF N) (hm:∀ z,Hf.mem z N↔Hf.mem z (ps.map edsS)) (hB9:Bnd 128 N) (hlN:N.length≤1000) :
  Calls Tryz.prog 10 #[.slice A n c] w (RTermPost w N):=by
 obtain ⟨B,hB⟩:∃ B,w.heap.size=B:=⟨_,rfl⟩
 have HB:=Qh hB
 have hb0:Below w.heap.size w (w.alloc (.cells Qz 26)):=Qb
 have HNo:=Qh (rNormal_any (h.keep (Q:=P) (w':=w.alloc (.cells Qz 26)) (fun b hb=>⟨hb,hb0.block b (hP b hb)⟩)) (fun b hb=>Ql (hP b hb) hb0.size))
 have HR0:=Qh (TBox.new w (k:=0) (v:=0) (b:=0) (n:=[]) (m:=[]) (ts:=[]) (sl:=.slice none 0 0) (nb:=⟨#[]⟩) (mb:=⟨#[]⟩) rfl rfl)
 have HB0:=Qh hb0
 have HN:=Qh (Qa hN (Qa hm (Qa hB9 hlN)))
 have HZ0:=Qh (show (w.alloc (.cells Qz 26)).heap.size=B+1 from by simp [hB])
 unfold RTermPost
 rw [hB]
 rw [hB] at HB0 HR0
 unfold BuiltPost BuiltPostB at HNo
 clear h hP hN hm hB9 hlN hb0
 go_enter Tryz.func10,Tryz.ntmps10
 go_upto_region 1 with fail
 try rw [hB]
 clear hB
 generalize (w.alloc (.cells Qz 26))=w0 at *
 go_wp2_with fail
 (with_reducible refine HNo.out.mono ?_)
 rintro e w1 ⟨A1,n1,c1,qs,he,hrow,hnf,hmm,hb1⟩
 subst he
 have HS1:=Qh (hrow.set (fun b h1 h2=>h2))
 have HE:=Qh (show qs.map edsS=N from NF.uniq hnf HN.out.1 (fun z=>by rw [hmm z,HN.out.2.1 z]))
 have HLq:=Qh (show qs.length=n1∧n1≤1000 from by
  have h1:=hrow.len
  have h2:=congrArg List.length HE.out
  rw [List.length_map] at h2
  have:=HN.out.2.2.2
  omega)
 have HB1:=Qh (HB0.out.trans (hb1.mono (by have:=HZ0.out;omega)))
 have HZ1:=Qh (show B+1≤w1.heap.size from by have:=hb1.size;have:=HZ0.out;omega)
 have HT1:=Qh (TBox.below HR0.out hb1)
 have hn9:n1≤1000:=HLq.out.2
 clear hrow hnf hmm hb1 HNo HR0 HB0
 by_cases hn0:n1=0
 ·subst hn0
  obtain ⟨ka,na,ma,hla⟩:=end_letters (.num 1)
  obtain ⟨kb,nb',mb,hlb⟩:=end_letters (.num 0)
  have HLa:=Qh hla
  have HLb:=Qh hlb
  have HEa:=Qh (fun (u:World)=>show Calls Tryz.prog 39 #[.string ⟨#[49]⟩] u (fun e w'=>e = .returned (.agg (Q5 ka na ma 0 0 (.slice none 0 0)))∧Below u.heap.size u w') from by
   have hh:=N_any ⟨#[49]⟩ u
   have he:Value.agg (Q5 3 ⟨#[]⟩ ⟨#[49]⟩ 0 0 (.slice none 0 0)) = .agg (Q5 ka na ma 0 0 (.slice none 0 0)):=by
    have h1:=HLa.out (.slice none 0 0)
    have h2:Ht.cells6 (endT (.num 1)) (.slice none 0 0) = [.int .i64 3,.string ⟨#[]⟩,.string ⟨(decB 1).toArray⟩,.int .u64 0,.int .i64 0,.slice none 0 0]:=rfl
    rw [dec_one] at h2
    rw [h2] at h1
    exact congrArg (fun l=>Value.agg l.toArray) h1
   rw [he] at hh
   exact hh)
  have HEb:=Qh (fun (u:World)=>show Calls Tryz.prog 39 #[.string ⟨#[48]⟩] u (fun e w'=>e = .returned (.agg (Q5 kb nb' mb 0 0 (.slice none 0 0)))∧Below u.heap.size u w') from by
   have hh:=N_any ⟨#[48]⟩ u
   have he:Value.agg (Q5 3 ⟨#[]⟩ ⟨#[48]⟩ 0 0 (.slice none 0 0)) = .agg (Q5 kb nb' mb 0 0 (.slice none 0 0)):=by
    have h1:=HLb.out (.slice none 0 0)
    have h2:Ht.cells6 (endT (.num 0)) (.slice none 0 0) = [.int .i64 3,.string ⟨#[]⟩,.string ⟨(decB 0).toArray⟩,.int .u64 0,.int .i64 0,.slice none 0 0]:=rfl
    rw [dec_nought] at h2
    rw [h2] at h1
    exact congrArg (fun l=>Value.agg l.toArray) h1
   rw [he] at hh
   exact hh)
  clear hla hlb
  go_wp2_with fail
  (with_reducible refine (HEa.out _).mono ?_)
  rintro e u2 ⟨rfl,hb2⟩
  have HU2:=Qh hb2
  clear hb2
  go_wp2_with fail
  (with_reducible refine (HEb.out u2).mono ?_)
  rintro e u3 ⟨rfl,hb3⟩
  have HU3:=Qh (Qt HU2.out hb3)
  clear hb3
  have HOf:=Qh (F2_any2 (w:=u3) (P:=fun b=>False) (ta:=endT (.num 1)) (tb:=endT (.num 0)) (sa:=.slice none 0 0) (sb:=.slice none 0 0) (s:=sDots) (nb:=⟨#[46,46]⟩) (TAtP.leaf _ _ (end_as _) (by simp [maxLen]) (okF_end (by unfold EdOk;rw [szE_one];omega))) (TAtP.leaf _ _ (end_as _) (by simp [maxLen]) (okF_end (by unfold EdOk;rw [szE_nought];omega))) (fun b hb=>hb.elim) rfl (by decide))
  unfold valT at HOf
  rw [HLa.out,HLb.out] at HOf
  go_wp2_with fail
  (with_reducible refine HOf.out.mono ?_)
  rintro e u4 ⟨A4,c4,rfl,hat4,hb4⟩
  have HU4:=Qh (Qt HU3.out hb4)
  have HAt4:=Qh hat4
  have HU34:=Qh (Qa HU3.out.size hb4.size)
  clear hat4 hb4
  have HR:=Qh (TBox.below HT1.out HU4.out)
  obtain ⟨f0,f1,f2,f3,f4,f5⟩:=TBox.frozens HR.out
  obtain ⟨y0,y1,y2,y3,y4,y5⟩:=TBox.cells (nb:=⟨#[]⟩) (mb:=⟨#[]⟩) HR.out rfl rfl
  have HSe:=Qh (TBox.setL (t':=cmpT sDots [endT (.num 1),endT (.num 0)]) (sl':=.slice A4 2 c4) (a0:=.int .i64 5) (a1:=.string ⟨#[46,46]⟩) (a2:=.string ⟨#[]⟩) (a3:=.int .u64 0) (a4:=.int .i64 0) HR.out (fun _=>rfl))
  go_wp2_with fail
  generalize (((((u4.setCell ⟨B,0,none⟩ (.int .i64 5)).setCell ⟨B,1,none⟩ (.string ⟨#[46,46]⟩)).setCell ⟨B,2,none⟩ (.string ⟨#[]⟩)).setCell ⟨B,3,none⟩ (.int .u64 0)).setCell ⟨B,4,none⟩ (.int .i64 0)).setCell ⟨B,5,none⟩ (.slice A4 2 c4)=w9 at *
  obtain ⟨r0,r1,r2,r3,r4,r5⟩:=TBox.cellsL (a0:=.int .i64 5) (a1:=.string ⟨#[46,46]⟩) (a2:=.string ⟨#[]⟩) (a3:=.int .u64 0) (a4:=.int .i64 0) HSe.out.1 (fun _=>rfl)
  have HB9:=Qh (show Below B w w9 from (HB1.out.trans (HU4.out.mono (by have:=HZ1.out;omega))).grown HSe.out.2 (by have:=HZ1.out;have:=HU4.out.size;omega) (Qg (by omega)))
  have hN0:N = []:=by rw [←HE.out,List.length_eq_zero_iff.1 HLq.out.1];rfl
  have key:RTermPostB B w N (.returned (.agg (Qn 5 ⟨#[46,46]⟩ (.slice A4 2 c4)))) w9:=by
   rw [hN0]
   refine ⟨.slice A4 2 c4,rfl,?_,HB9.out⟩
   have hz:=HSe.out.2.size
   have hz1:=HZ1.out
   have hz3:=HU34.out
   refine TAtP.keep _ HAt4.out (fun b hb=>?_)
   rcases hb with hb | hb
   ·exact hb.elim
   ·exact ⟨⟨by have:=hb.1;omega,by have:=hb.2;omega⟩,HSe.out.2.block b hb.2 (fun e=>by injection e with e;have:=hb.1;omega)⟩
  first
   | (go_ret;exact key)
   | exact bodyPost_ret (by simp [results,Tryz.results10,go_sem,r0,r1,r2,r3,r4,r5]) rfl key
 ·have hn0i:((n1:Int)==0)=false:=beq_eq_false_iff_ne.2 (by omega)
  go_wp2_with fail
  have HSC:=Qh (show TH w1 zeroT none 0 0 (w1.alloc (.cells Qz 26)) from
   ⟨Qb,TBox.new w1 (k:=0) (v:=0) (b:=0) (n:=[]) (m:=[]) (ts:=[]) (sl:=.slice none 0 0) (nb:=⟨#[]⟩) (mb:=⟨#[]⟩) rfl rfl,TAtP.leaf _ _ rfl (by simp [maxLen]) ⟨by simp [zeroT,Tm.n],by simp [zeroT,Tm.m],by simp [zeroT,Tm.b],by simp [zeroT,Tm.v],by simp [zeroT,Tm.k]⟩⟩)
  have HN0:=Qh hn0
  clear hn0 hn0i
  go_loopw [4] (fun vi wr=>∃ k T Ta n2 c2,k≤n1∧vi = .int .i64 (k:Nat)∧Hid (T=accT (N.take k))∧Hid (TH w1 T Ta n2 c2 wr)) (fun vi _=>n1 - (intOf vi).toNat)
  case atStart=>exact ⟨0,zeroT,none,0,0,Nat.zero_le _,rfl,Qh rfl,HSC⟩
  case round=>
   obtain ⟨k,T,Ta,n2,c2,hk,rfl,HAc,HI⟩:=hrel
   clear HSC
   by_cases hkn:k<n1
   ·obtain ⟨p,hp⟩:∃ p,qs[k]?=some p:=⟨qs[k]'(by have:=HLq.out.1;omega),by simp⟩
    obtain ⟨b,o,rfl,hPb,q0,q1,q2,q3,q4,q5⟩:=HS1.out.row.at_ hp
    have hpm:=List.mem_of_getElem? hp
    have HPe:=Qh (show N[k]?=some (edsS p) from by rw [←HE.out,List.getElem?_map,hp];rfl)
    have HKp:=Qh (show ∀ u,Below w1.heap.size w1 u→Sg u (fun x=>x<u.heap.size) p from fun u hu=>(HS1.out.kid p hpm).keep (fun x hx=>⟨by have:=hu.size;omega,hu.block x hx⟩))
    have HC:=Qh (show ∀ u,Below w1.heap.size w1 u→u.cell? ⟨b,o+k * 6,none⟩=some (.int .i64 p.1.i)∧u.cell? ⟨b,o+k * 6+1,none⟩=some (.bool p.1.g)∧u.cell? ⟨b,o+k * 6+2,none⟩=some (.slice p.1.A p.1.n p.1.c)∧u.cell? ⟨b,o+k * 6+3,none⟩=some (.int .i64 p.2.i)∧u.cell? ⟨b,o+k * 6+4,none⟩=some (.bool p.2.g)∧u.cell? ⟨b,o+k * 6+5,none⟩=some (.slice p.2.A p.2.n p.2.c) from fun u hu=>
     ⟨(hu.cell (p:=⟨b,_,none⟩) hPb).trans q0,(hu.cell (p:=⟨b,_,none⟩) hPb).trans q1,(hu.cell (p:=⟨b,_,none⟩) hPb).trans q2,(hu.cell (p:=⟨b,_,none⟩) hPb).trans q3,(hu.cell (p:=⟨b,_,none⟩) hPb).trans q4,(hu.cell (p:=⟨b,_,none⟩) hPb).trans q5⟩)
    have HOk:=Qh (show EdOk p.1.ed2∧EdOk p.2.ed2∧Hf.ok (edsS p) from by
     have h1:=HN.out.2.2.1 (edsS p) (List.mem_of_getElem? HPe.out)
     exact ⟨h1.1,h1.2,(NF.iff.1 HN.out.1).1 _ (List.mem_of_getElem? HPe.out)⟩)
    obtain ⟨⟨p1i,p1g,p1A,p1n,p1c,p1l⟩,⟨p2i,p2g,p2A,p2n,p2c,p2l⟩⟩:=p
    simp only at HC
    unfold edsS at HPe HOk
    simp only at HPe HOk
    have hki:(k:Int)<(n1:Int):=by omega
    have hk0:(0:Int)≤(k:Int):=by omega
    have hw1:=HI.out.bel.size
    have hGl:=HI.out.box.lt
    clear q0 q1 q2 q3 q4 q5 hp hpm
    obtain ⟨ea,hea⟩:∃ x,Bd.ed2 ⟨p1i,p1g,p1A,p1n,p1c,p1l⟩=x:=⟨_,rfl⟩
    obtain ⟨eb,heb⟩:∃ x,Bd.ed2 ⟨p2i,p2g,p2A,p2n,p2c,p2l⟩=x:=⟨_,rfl⟩
    rw [hea,heb] at HPe HOk
    obtain ⟨ka,na,ma,hla⟩:=end_letters ea
    obtain ⟨kb,nb',mb,hlb⟩:=end_letters eb
    have hsh:∀ e,EdOk e→lngE e=false:=fun e he=>by
     cases e with
     | num z=>
      have h1:=short_blen (short_sz he)
      exact decide_eq_false (by
       have h2:(digs 2 z.natAbs).length≤4096:=digs_length_le (by decide) (blen_le_iff.1 h1)
       omega)
     | lo=>rfl
     | hi=>rfl
    have HEa:=Qh (fun (u:World) (hu:Below w1.heap.size w1 u)=>show Calls Tryz.prog 40 #[.agg #[.int .i64 p1i,.bool p1g,.slice p1A p1n p1c]] u (fun e w'=>e = .returned (.agg (Q5 ka na ma 0 0 (.slice none 0 0)))∧Below u.heap.size u w') from by
     have h0:=(HKp.out u hu).a
     simp only at h0
     rw [hea] at h0
     have hh:=rword_ok h0 (fun x hx=>hx) (hsh _ HOk.out.1)
     unfold EndTPost valT at hh
     rw [hla] at hh
     exact hh)
    have HEb:=Qh (fun (u:World) (hu:Below w1.heap.size w1 u)=>show Calls Tryz.prog 40 #[.agg #[.int .i64 p2i,.bool p2g,.slice p2A p2n p2c]] u (fun e w'=>e = .returned (.agg (Q5 kb nb' mb 0 0 (.slice none 0 0)))∧Below u.heap.size u w') from by
     have h0:=(HKp.out u hu).b
     simp only at h0
     rw [heb] at h0
     have hh:=rword_ok h0 (fun x hx=>hx) (hsh _ HOk.out.2.1)
     unfold EndTPost valT at hh
     rw [hlb] at hh
     exact hh)
    have HLa:=Qh hla
    have HLb:=Qh hlb
    obtain ⟨s,hs⟩:∃ s,cmpE ea eb=s:=⟨_,rfl⟩
    have HCm:=Qh (fun (u:World) (hu:Below w1.heap.size w1 u)=>show Calls Tryz.prog 41 #[.agg #[.int .i64 p1i,.bool p1g,.slice p1A p1n p1c],.agg #[.int .i64 p2i,.bool p2g,.slice p2A p2n p2c]] u (fun e w'=>e = .returned (.int .i64 s)∧Below u.heap.size u w') from by
     have h0:=(HKp.out u hu).a
     have h1:=(HKp.out u hu).b
     simp only at h0 h1
     rw [hea] at h0
     rw [heb] at h1
     have hh:=rCmpE h0 h1 (fun x hx=>hx) (fun x hx=>hx)
     unfold KE at hh
     rw [hs] at hh
     exact hh)
    have HCs:=Qh (show s=0↔ea=eb from by rw [←hs];exact cmpE_zero)
    have HIa:=Qh (show p1i=infZ ea from by
     have h0:=(HKp.out w1 (Below.refl _ _)).a.i
     simp only at h0
     rw [hea] at h0
     exact h0)
    have HB5:=Qh HI.out.bel
    clear hea heb hla hlb hs hsh HKp
    go_upto_region 8 with fail
    refine wp_region_U 14 (by kernel_rfl) (fun z0 K0 hs0=>?_)
    refine tZ0 0 K0 ?_
    refine tZ0 1 K0 ?_
    refine tZ0 2 K0 ?_
    refine tZ0 3 K0 ?_
    refine tZ0 4 K0 ?_ (y:=fun z5 hS=>by obtain ⟨q0,q1,q2,q3,q4,q5⟩:=HC.out _ (HB5.out.trans (hS.mono hw1));go_simp;rfl)
    refine tZ0 6 K0 ?_
    refine tZ0 7 K0 ?_
    refine tZ0 8 K0 ?_
    refine tZ0 9 K0 ?_
    refine tZ0 10 K0 ?_ (y:=fun z5 hS=>by obtain ⟨q0,q1,q2,q3,q4,q5⟩:=HC.out _ (HB5.out.trans (hS.mono hw1));go_simp;rfl)
    refine wpAnyW_float [13] (fun _=>(.cells Qz 26)) (by kernel_rfl) (by kernel_rfl) (FloatRun.one rfl (fun a w=>by go_simp)) (fun _ _ h1 h2=>Qt h2 h1) (by kernel_rfl) (fun _ _ _ _ _ h=>h) rfl K0 ?_
    refine wpAnyF_one (i:=5) (by kernel_rfl) (by kernel_rfl) (fun _ _ _ _ _ h=>h) ⟨by kernel_rfl,by kernel_rfl⟩ (by kernel_rfl) rfl (by kernel_rfl) (fun z1 d1 K1 K hK=>?_)
    go_simp
    (with_reducible refine (HEa.out _ (HB5.out.trans (K1.mono hw1))).mono ?_)
    rintro e z2 ⟨rfl,hb2⟩
    have K2:=Qt K1 hb2
    refine hK.out _ _ hb2 K2 ?_
    refine wpAnyF_one (i:=11) (by kernel_rfl) (by kernel_rfl) (fun _ _ _ _ _ h=>h) ⟨by kernel_rfl,by kernel_rfl⟩ (by kernel_rfl) rfl (by kernel_rfl) (fun z3 d3 K3 K hK=>?_)
    go_simp
    (with_reducible refine (HEb.out _ (HB5.out.trans (K3.mono hw1))).mono ?_)
    rintro e z4 ⟨rfl,hb4⟩
    have K4:=Qt K3 hb4
    refine hK.out _ _ hb4 K4 ?_
    refine wpAnyF_one (i:=12) (by kernel_rfl) (by kernel_rfl) (fun _ _ _ _ _ h=>h) ⟨by kernel_rfl,by kernel_rfl⟩ (by kernel_rfl) rfl (by kernel_rfl) (fun z5 d5 K5 K hK=>?_)
    have HOf:=Qh (F2_any2 (w:=z5) (P:=fun b=>False) (ta:=endT ea) (tb:=endT eb) (sa:=.slice none 0 0) (sb:=.slice none 0 0) (s:=sDots) (nb:=⟨#[46,46]⟩) (TAtP.leaf _ _ (end_as _) (by simp [maxLen]) (okF_end HOk.out.1)) (TAtP.leaf _ _ (end_as _) (by simp [maxLen]) (okF_end HOk.out.2.1)) (fun b hb=>hb.elim) rfl (by decide))
    unfold valT at HOf
    rw [HLa.out,HLb.out] at HOf
    go_simp
    (with_reducible refine HOf.out.mono ?_)
    rintro e z6 ⟨A4,c4,rfl,hat6,hb6⟩
    have K6:=Qt K5 hb6
    refine hK.out _ _ hb6 K6 ?_
    refine wpAnyF_land1 (by kernel_rfl) rfl (fun z7 HA d7 K7 hA gA=>?_)
    have gA':(((False∨(z0.heap.size≤HA∧HA<z1.heap.size))∨(z2.heap.size≤HA∧HA<z3.heap.size))∨(z4.heap.size≤HA∧HA<z5.heap.size))∨(z6.heap.size≤HA∧HA<z7.heap.size):=gA
    have HGp:=Qh (show (HA<z5.heap.size∨z6.heap.size≤HA)∧wr.heap.size≤z5.heap.size∧z5.heap.size≤z6.heap.size∧z6.heap.size≤z7.heap.size∧wr.heap.size≤HA from by
     have h0:=K0.size
     have h1:=d1.size
     have h2:=hb2.size
     have h3:=d3.size
     have h4:=hb4.size
     have h5:=d5.size
     have h6:=hb6.size
     have h7:=d7.size
     rcases gA' with (((h | h) | h) | h) | h
     ·exact h.elim
     all_goals omega)
    have hAl:wr.heap.size≤HA:=HGp.out.2.2.2.2
    replace hA:TBox z7 HA zeroT (.slice none 0 0):=hA
    obtain ⟨u0,u1,u2,u3,u4,u5⟩:=TBox.cells (nb:=⟨#[]⟩) (mb:=⟨#[]⟩) hA rfl rfl
    obtain ⟨s0,s1,s2,s3,s4,s5⟩:=TBox.frozens hA
    have hset:=TBox.setL (t':=cmpT sDots [endT ea,endT eb]) (sl':=.slice A4 2 c4) (a0:=.int .i64 5) (a1:=.string ⟨#[46,46]⟩) (a2:=.string ⟨#[]⟩) (a3:=.int .u64 0) (a4:=.int .i64 0) hA (fun _=>rfl)
    have HAt6:=Qh (TAtP.keep' (P:=fun _=>False) hat6 d7)
    have HK7:=Qh K7
    clear gA gA' hb2 hb4 hb6 hat6 K1 K2 K3 K4 K5 K6 K0 d1 d3 d5 d7 hs0 HOf
    refine uW 14 fun K hK=>?_
    go_simp
    clear u0 u1 u2 u3 u4 u5 s0 s1 s2 s3 s4 s5
    generalize (((((z7.setCell ⟨HA,0,none⟩ (.int .i64 5)).setCell ⟨HA,1,none⟩ (.string ⟨#[46,46]⟩)).setCell ⟨HA,2,none⟩ (.string ⟨#[]⟩)).setCell ⟨HA,3,none⟩ (.int .u64 0)).setCell ⟨HA,4,none⟩ (.int .i64 0)).setCell ⟨HA,5,none⟩ (.slice A4 2 c4)=u3 at *
    refine hK.out _ _ (fun h=>absurd h (by simp)) ?_
    refine wpAnyW_done (by kernel_rfl) ?_ _
    have HX3:=Qh hset.1
    have HGr:=Qh hset.2
    have HA3:=Qh (show TAtP u3 (fun b=>w1.heap.size<b∧b<u3.heap.size∧b≠HA) (cmpT sDots [endT ea,endT eb]) (.slice A4 2 c4) from by
     refine TAtP.keep _ HAt6.out (fun b hb=>?_)
     have h1:=HGp.out
     have h2:=HGr.out.size
     exact ⟨⟨by omega,by omega,by omega⟩,HGr.out.block b (by omega) (fun e=>by injection e with e;omega)⟩)
    have HB3:=Qh (show Below wr.heap.size wr u3 from HK7.out.grown HGr.out HK7.out.size (Qg (by omega)))
    clear hset HK7 hA HAt6
    go_upto_region 9 with fail
    by_cases hp0:p1i=0
    ·subst hp0
     refine wp_region_H (by kernel_rfl) (fun z8 K0 hs0=>?_)
     refine tH0 0 K0 ?_
     refine tH0 1 K0 ?_
     refine tH0 2 K0 ?_
     refine tH0 3 K0 ?_
     refine tH0 4 K0 ?_
     refine tH0 5 K0 ?_ (y:=fun z5 hS=>by obtain ⟨q0,q1,q2,q3,q4,q5⟩:=HC.out _ (HB5.out.trans ((Qt HB3.out hS).mono hw1));go_simp;rfl)
     refine tH0 6 K0 ?_
     refine tH0 7 K0 ?_
     refine tH0 8 K0 ?_
     refine tH0 9 K0 ?_
     refine tH0 10 K0 ?_
     refine tH0 11 K0 ?_
     refine tH0 12 K0 ?_ (y:=fun z5 hS=>by obtain ⟨q0,q1,q2,q3,q4,q5⟩:=HC.out _ (HB5.out.trans ((Qt HB3.out hS).mono hw1));go_simp;rfl)
     refine tH0 13 K0 ?_
     refine tH0 14 K0 ?_
     refine tH0 15 K0 ?_
     refine tH0 16 K0 ?_
     refine tH0 17 K0 ?_ (y:=fun z5 hS=>by obtain ⟨q0,q1,q2,q3,q4,q5⟩:=HC.out _ (HB5.out.trans ((Qt HB3.out hS).mono hw1));go_simp;rfl)
     refine oH0 18 fun K hK=>?_
     go_simp
     (with_reducible refine (HCm.out _ (HB5.out.trans ((HB3.out.trans (K0.mono HB3.out.size)).mono hw1))).mono ?_)
     rintro e u4 ⟨rfl,hb4⟩
     have K1:=Qt K0 hb4
     refine hK.out _ _ K1 ?_
     by_cases hs00:s=0
     ·subst hs00
      refine tH0 19 K1 ?_
      refine oH0 20 fun K hK=>?_
      go_simp
      refine hK.out _ _ K1 ?_
      refine wpAnyH_end (by kernel_rfl) ?_ _
      have HB4:=Qh K1
      clear K1 K0 hb4 hs0
      have HSp:=Qh (show spanT (ea,eb)=endT ea from if_pos (HCs.out.1 rfl))
      have HXa:=Qh (TBox.below HX3.out HB4.out)
      obtain ⟨q0,q1,q2,q3,q4,q5⟩:=HC.out _ (HB5.out.trans ((Qt HB3.out HB4.out).mono hw1))
      go_upto_region 11 with (go_at_call 40;(with_reducible refine (HEa.out _ (HB5.out.trans ((HB3.out.trans (HB4.out.mono HB3.out.size)).mono hw1))).mono ?_);rintro e ub ⟨rfl,hbb⟩;have HUb:=Qh hbb;have HXb:=Qh (TBox.below HXa.out hbb);clear hbb q0 q1 q2 q3 q4 q5;obtain ⟨f0,f1,f2,f3,f4,f5⟩:=TBox.frozens HXb.out;obtain ⟨y0,y1,y2,y3,y4,y5⟩:=TBox.cellsL (a0:=.int .i64 5) (a1:=.string ⟨#[46,46]⟩) (a2:=.string ⟨#[]⟩) (a3:=.int .u64 0) (a4:=.int .i64 0) HXb.out (fun _=>rfl))
      have hset:=TBox.setL (sl':=.slice none 0 0) HXb.out HLa.out
      clear f0 f1 f2 f3 f4 f5 y0 y1 y2 y3 y4 y5
      generalize (((((ub.setCell ⟨HA,0,none⟩ (.int .i64 ka)).setCell ⟨HA,1,none⟩ (.string na)).setCell ⟨HA,2,none⟩ (.string ma)).setCell ⟨HA,3,none⟩ (.int .u64 0)).setCell ⟨HA,4,none⟩ (.int .i64 0)).setCell ⟨HA,5,none⟩ (.slice none 0 0)=uc at *
      have HSc:=Qh hset
      have HX9:=Qh (show TBox uc HA (spanT (ea,eb)) (.slice none 0 0) from by rw [HSp.out];exact HSc.out.1)
      have HL9:=Qh (show ∀ sl,Ht.cells6 (spanT (ea,eb)) sl = [.int .i64 ka,.string na,.string ma,.int .u64 0,.int .i64 0,sl] from by rw [HSp.out];exact HLa.out)
      have HA9:=Qh (show TAtP uc (fun b=>w1.heap.size<b∧b<uc.heap.size∧b≠HA) (spanT (ea,eb)) (.slice none 0 0) from by rw [HSp.out];exact TAtP.leaf _ _ (end_as _) (by simp [maxLen]) (okF_end HOk.out.1))
      have HB9:=Qh (show Below wr.heap.size wr uc from (HB3.out.trans ((Qt HB4.out HUb.out).mono HB3.out.size)).grown HSc.out.2 (by have:=HB3.out.size;have:=HB4.out.size;have:=HUb.out.size;omega) (Qg (by omega)))
      clear hset
      have HTb:=Qh (TBox.below HI.out.box HB9.out)
      have hu4:=HB9.out.size
      have HBw:=Qh (HI.out.bel.trans (HB9.out.mono hw1))
      have HTa:=Qh (show TAtP uc (fun b=>w1.heap.size<b∧b<uc.heap.size) T (.slice Ta n2 c2) from TAtP.keep _ HI.out.at_ (fun b hb=>⟨⟨hb.1,by omega⟩,HB9.out.block b hb.2⟩))
      obtain ⟨x0,x1,x2,x3,x4,x5⟩:=TBox.cellsL HX9.out HL9.out
      obtain ⟨kT,nT,mT,bT,vT,hlT⟩:=tm_letters T
      have HLT:=Qh hlT
      clear hlT
      by_cases hk00:k=0
      ·have hki0:¬(0:Int)<(k:Int):=by omega
       obtain ⟨f0,f1,f2,f3,f4,f5⟩:=TBox.frozens HTb.out
       obtain ⟨y0,y1,y2,y3,y4,y5⟩:=TBox.cellsL HTb.out HLT.out
       have hset:=TBox.setL (sl':=.slice none 0 0) HTb.out HL9.out
       go_wp2_with fail
       generalize (((((uc.setCell ⟨w1.heap.size,0,none⟩ (.int .i64 ka)).setCell ⟨w1.heap.size,1,none⟩ (.string na)).setCell ⟨w1.heap.size,2,none⟩ (.string ma)).setCell ⟨w1.heap.size,3,none⟩ (.int .u64 0)).setCell ⟨w1.heap.size,4,none⟩ (.int .i64 0)).setCell ⟨w1.heap.size,5,none⟩ (.slice none 0 0)=u7 at *
       have HS7:=Qh hset
       have HT7:=Qh (show TH w1 (spanT (ea,eb)) none 0 0 u7 from ⟨HBw.out.grown HS7.out.2 HBw.out.size (Qg (by omega)),HS7.out.1,
        TAtP.keep _ HA9.out (fun b hb=>⟨⟨hb.1,Ql hb.2.1 HS7.out.2.size⟩,HS7.out.2.block b hb.2.1 (fun e=>by injection e with e;have:=hb.1;omega)⟩)⟩)
       have HA7:=Qh (show spanT (ea,eb)=accT (N.take (k+1)) from by
        rw [take_snoc HPe.out,hk00];rfl)
       go_roundw
       case rel=>exact ⟨k+1,spanT (ea,eb),_,_,_,by omega,by go_num,HA7,HT7⟩
       case measure=>simp [intOf];omega
      ·have hki0:(0:Int)<(k:Int):=by omega
       obtain ⟨y0,y1,y2,y3,y4,y5⟩:=TBox.cellsL HTb.out HLT.out
       have HOf:=Qh (F2_any2 (w:=uc) (P:=fun b=>w1.heap.size<b∧b<uc.heap.size∧b≠HA) (ta:=T) (tb:=spanT (ea,eb)) (sa:=.slice Ta n2 c2) (sb:=.slice none 0 0) (s:=sOr) (nb:=⟨#[92,47]⟩) (TAtP.keep _ HI.out.at_ (fun b hb=>⟨⟨hb.1,by omega,by omega⟩,HB9.out.block b hb.2⟩)) HA9.out (fun b hb=>hb.2.1) rfl (by decide))
       unfold valT at HOf
       rw [HLT.out,HL9.out] at HOf
       go_upto_region 13 with (go_at_call 14;(with_reducible refine HOf.out.mono ?_);rintro e u5 ⟨A6,c6,rfl,hat5,hb5⟩;have HU5:=Qh hb5;have HA5:=Qh hat5;have HT5:=Qh (TBox.below HTb.out hb5);have HX5:=Qh (TBox.below HX9.out hb5);clear hat5 hb5;obtain ⟨f0,f1,f2,f3,f4,f5⟩:=TBox.frozens HX5.out;obtain ⟨z0,z1,z2,z3,z4,z5⟩:=TBox.cellsL HX5.out HL9.out)
       have hsx:=TBox.setL (t':=orT T (ea,eb)) (sl':=.slice A6 2 c6) (a0:=.int .i64 5) (a1:=.string ⟨#[92,47]⟩) (a2:=.string ⟨#[]⟩) (a3:=.int .u64 0) (a4:=.int .i64 0) HX5.out (fun _=>rfl)
       generalize (((((u5.setCell ⟨HA,0,none⟩ (.int .i64 5)).setCell ⟨HA,1,none⟩ (.string ⟨#[92,47]⟩)).setCell ⟨HA,2,none⟩ (.string ⟨#[]⟩)).setCell ⟨HA,3,none⟩ (.int .u64 0)).setCell ⟨HA,4,none⟩ (.int .i64 0)).setCell ⟨HA,5,none⟩ (.slice A6 2 c6)=u6 at *
       clear f0 f1 f2 f3 f4 f5 z0 z1 z2 z3 z4 z5 x0 x1 x2 x3 x4 x5 y0 y1 y2 y3 y4 y5
       have HS6:=Qh hsx
       have HT6:=Qh (TBox.gro HT5.out HS6.out.2 (by omega))
       obtain ⟨f0,f1,f2,f3,f4,f5⟩:=TBox.frozens HT6.out
       obtain ⟨z0,z1,z2,z3,z4,z5⟩:=TBox.cellsL HT6.out HLT.out
       obtain ⟨x0,x1,x2,x3,x4,x5⟩:=TBox.cellsL (a0:=.int .i64 5) (a1:=.string ⟨#[92,47]⟩) (a2:=.string ⟨#[]⟩) (a3:=.int .u64 0) (a4:=.int .i64 0) HS6.out.1 (fun _=>rfl)
       have hset:=TBox.setL (t':=orT T (ea,eb)) (sl':=.slice A6 2 c6) (a0:=.int .i64 5) (a1:=.string ⟨#[92,47]⟩) (a2:=.string ⟨#[]⟩) (a3:=.int .u64 0) (a4:=.int .i64 0) HT6.out (fun _=>rfl)
       go_wp2_with fail
       generalize (((((u6.setCell ⟨w1.heap.size,0,none⟩ (.int .i64 5)).setCell ⟨w1.heap.size,1,none⟩ (.string ⟨#[92,47]⟩)).setCell ⟨w1.heap.size,2,none⟩ (.string ⟨#[]⟩)).setCell ⟨w1.heap.size,3,none⟩ (.int .u64 0)).setCell ⟨w1.heap.size,4,none⟩ (.int .i64 0)).setCell ⟨w1.heap.size,5,none⟩ (.slice A6 2 c6)=u7 at *
       have HS7:=Qh hset
       have HBw6:=Qh ((Qt HBw.out HU5.out).grown HS6.out.2 (by have:=HU5.out.size;have:=HBw.out.size;omega) (Qg (by omega)))
       have HT7:=Qh (show TH w1 (orT T (ea,eb)) A6 2 c6 u7 from ⟨HBw6.out.grown HS7.out.2 HBw6.out.size (Qg (by omega)),HS7.out.1,
        TAtP.keep _ HA5.out (fun b hb=>by
         have hz7:=HS7.out.2.size
         have hz6:=HS6.out.2.size
         have hz5:=HU5.out.size
         have hha:=HX9.out.lt
         have hbb:w1.heap.size<b∧b<u5.heap.size∧b≠HA:=by
          rcases hb with hb | hb
          ·omega
          ·omega
         exact ⟨⟨hbb.1,by omega⟩,(HS7.out.2.block b (by omega) (fun e=>by injection e with e;omega)).trans (HS6.out.2.block b hbb.2.1 (fun e=>by injection e with e;omega))⟩)⟩)
       have HA7:=Qh (show orT T (ea,eb)=accT (N.take (k+1)) from by
        rw [take_snoc HPe.out,accT_snoc (fun e=>by
         have h1:=congrArg List.length e
         have h2:=congrArg List.length HE.out
         rw [List.length_map,HLq.out.1] at h2
         rw [List.length_take] at h1
         simp only [List.length_nil] at h1
         omega),←HAc.out])
       go_roundw
       case rel=>exact ⟨k+1,_,A6,2,c6,by omega,by go_num,HA7,HT7⟩
       case measure=>simp [intOf];omega
     ·have hs0b:(s==0)=false:=beq_eq_false_iff_ne.2 hs00
      refine tH0 19 K1 ?_
      refine oH0 20 fun K hK=>?_
      go_simp
      refine hK.out _ _ K1 ?_
      refine wpAnyH_end (by kernel_rfl) ?_ _
      have HB4:=Qh K1
      clear K1 K0 hb4 hs0
      have HSp:=Qh (show spanT (ea,eb)=cmpT sDots [endT ea,endT eb] from if_neg (fun e=>hs00 (HCs.out.2 e)))
      have HX9:=Qh (show TBox u4 HA (spanT (ea,eb)) (.slice A4 2 c4) from by rw [HSp.out];exact TBox.below HX3.out HB4.out)
      have HL9:=Qh (show ∀ sl,Ht.cells6 (spanT (ea,eb)) sl = [.int .i64 5,.string ⟨#[46,46]⟩,.string ⟨#[]⟩,.int .u64 0,.int .i64 0,sl] from by rw [HSp.out];exact fun _=>rfl)
      have HA9:=Qh (show TAtP u4 (fun b=>w1.heap.size<b∧b<u4.heap.size∧b≠HA) (spanT (ea,eb)) (.slice A4 2 c4) from by rw [HSp.out];exact TAtP.keep _ HA3.out (fun b hb=>⟨⟨hb.1,Ql hb.2.1 HB4.out.size,hb.2.2⟩,HB4.out.block b hb.2.1⟩))
      have HB9:=Qh (Qt HB3.out HB4.out)
      have HTb:=Qh (TBox.below HI.out.box HB9.out)
      have hu4:=HB9.out.size
      have HBw:=Qh (HI.out.bel.trans (HB9.out.mono hw1))
      have HTa:=Qh (show TAtP u4 (fun b=>w1.heap.size<b∧b<u4.heap.size) T (.slice Ta n2 c2) from TAtP.keep _ HI.out.at_ (fun b hb=>⟨⟨hb.1,by omega⟩,HB9.out.block b hb.2⟩))
      obtain ⟨x0,x1,x2,x3,x4,x5⟩:=TBox.cellsL HX9.out HL9.out
      obtain ⟨kT,nT,mT,bT,vT,hlT⟩:=tm_letters T
      have HLT:=Qh hlT
      clear hlT
      by_cases hk00:k=0
      ·have hki0:¬(0:Int)<(k:Int):=by omega
       obtain ⟨f0,f1,f2,f3,f4,f5⟩:=TBox.frozens HTb.out
       obtain ⟨y0,y1,y2,y3,y4,y5⟩:=TBox.cellsL HTb.out HLT.out
       have hset:=TBox.setL (sl':=.slice A4 2 c4) HTb.out HL9.out
       go_wp2_with fail
       generalize (((((u4.setCell ⟨w1.heap.size,0,none⟩ (.int .i64 5)).setCell ⟨w1.heap.size,1,none⟩ (.string ⟨#[46,46]⟩)).setCell ⟨w1.heap.size,2,none⟩ (.string ⟨#[]⟩)).setCell ⟨w1.heap.size,3,none⟩ (.int .u64 0)).setCell ⟨w1.heap.size,4,none⟩ (.int .i64 0)).setCell ⟨w1.heap.size,5,none⟩ (.slice A4 2 c4)=u7 at *
       have HS7:=Qh hset
       have HT7:=Qh (show TH w1 (spanT (ea,eb)) A4 2 c4 u7 from ⟨HBw.out.grown HS7.out.2 HBw.out.size (Qg (by omega)),HS7.out.1,
        TAtP.keep _ HA9.out (fun b hb=>⟨⟨hb.1,Ql hb.2.1 HS7.out.2.size⟩,HS7.out.2.block b hb.2.1 (fun e=>by injection e with e;have:=hb.1;omega)⟩)⟩)
       have HA7:=Qh (show spanT (ea,eb)=accT (N.take (k+1)) from by
        rw [take_snoc HPe.out,hk00];rfl)
       go_roundw
       case rel=>exact ⟨k+1,spanT (ea,eb),_,_,_,by omega,by go_num,HA7,HT7⟩
       case measure=>simp [intOf];omega
      ·have hki0:(0:Int)<(k:Int):=by omega
       obtain ⟨y0,y1,y2,y3,y4,y5⟩:=TBox.cellsL HTb.out HLT.out
       have HOf:=Qh (F2_any2 (w:=u4) (P:=fun b=>w1.heap.size<b∧b<u4.heap.size∧b≠HA) (ta:=T) (tb:=spanT (ea,eb)) (sa:=.slice Ta n2 c2) (sb:=.slice A4 2 c4) (s:=sOr) (nb:=⟨#[92,47]⟩) (TAtP.keep _ HI.out.at_ (fun b hb=>⟨⟨hb.1,by omega,by omega⟩,HB9.out.block b hb.2⟩)) HA9.out (fun b hb=>hb.2.1) rfl (by decide))
       unfold valT at HOf
       rw [HLT.out,HL9.out] at HOf
       go_upto_region 13 with (go_at_call 14;(with_reducible refine HOf.out.mono ?_);rintro e u5 ⟨A6,c6,rfl,hat5,hb5⟩;have HU5:=Qh hb5;have HA5:=Qh hat5;have HT5:=Qh (TBox.below HTb.out hb5);have HX5:=Qh (TBox.below HX9.out hb5);clear hat5 hb5;obtain ⟨f0,f1,f2,f3,f4,f5⟩:=TBox.frozens HX5.out;obtain ⟨z0,z1,z2,z3,z4,z5⟩:=TBox.cellsL HX5.out HL9.out)
       have hsx:=TBox.setL (t':=orT T (ea,eb)) (sl':=.slice A6 2 c6) (a0:=.int .i64 5) (a1:=.string ⟨#[92,47]⟩) (a2:=.string ⟨#[]⟩) (a3:=.int .u64 0) (a4:=.int .i64 0) HX5.out (fun _=>rfl)
       generalize (((((u5.setCell ⟨HA,0,none⟩ (.int .i64 5)).setCell ⟨HA,1,none⟩ (.string ⟨#[92,47]⟩)).setCell ⟨HA,2,none⟩ (.string ⟨#[]⟩)).setCell ⟨HA,3,none⟩ (.int .u64 0)).setCell ⟨HA,4,none⟩ (.int .i64 0)).setCell ⟨HA,5,none⟩ (.slice A6 2 c6)=u6 at *
       clear f0 f1 f2 f3 f4 f5 z0 z1 z2 z3 z4 z5 x0 x1 x2 x3 x4 x5 y0 y1 y2 y3 y4 y5
       have HS6:=Qh hsx
       have HT6:=Qh (TBox.gro HT5.out HS6.out.2 (by omega))
       obtain ⟨f0,f1,f2,f3,f4,f5⟩:=TBox.frozens HT6.out
       obtain ⟨z0,z1,z2,z3,z4,z5⟩:=TBox.cellsL HT6.out HLT.out
       obtain ⟨x0,x1,x2,x3,x4,x5⟩:=TBox.cellsL (a0:=.int .i64 5) (a1:=.string ⟨#[92,47]⟩) (a2:=.string ⟨#[]⟩) (a3:=.int .u64 0) (a4:=.int .i64 0) HS6.out.1 (fun _=>rfl)
       have hset:=TBox.setL (t':=orT T (ea,eb)) (sl':=.slice A6 2 c6) (a0:=.int .i64 5) (a1:=.string ⟨#[92,47]⟩) (a2:=.string ⟨#[]⟩) (a3:=.int .u64 0) (a4:=.int .i64 0) HT6.out (fun _=>rfl)
       go_wp2_with fail
       generalize (((((u6.setCell ⟨w1.heap.size,0,none⟩ (.int .i64 5)).setCell ⟨w1.heap.size,1,none⟩ (.string ⟨#[92,47]⟩)).setCell ⟨w1.heap.size,2,none⟩ (.string ⟨#[]⟩)).setCell ⟨w1.heap.size,3,none⟩ (.int .u64 0)).setCell ⟨w1.heap.size,4,none⟩ (.int .i64 0)).setCell ⟨w1.heap.size,5,none⟩ (.slice A6 2 c6)=u7 at *
       have HS7:=Qh hset
       have HBw6:=Qh ((Qt HBw.out HU5.out).grown HS6.out.2 (by have:=HU5.out.size;have:=HBw.out.size;omega) (Qg (by omega)))
       have HT7:=Qh (show TH w1 (orT T (ea,eb)) A6 2 c6 u7 from ⟨HBw6.out.grown HS7.out.2 HBw6.out.size (Qg (by omega)),HS7.out.1,
        TAtP.keep _ HA5.out (fun b hb=>by
         have hz7:=HS7.out.2.size
         have hz6:=HS6.out.2.size
         have hz5:=HU5.out.size
         have hha:=HX9.out.lt
         have hbb:w1.heap.size<b∧b<u5.heap.size∧b≠HA:=by
          rcases hb with hb | hb
          ·omega
          ·omega
         exact ⟨⟨hbb.1,by omega⟩,(HS7.out.2.block b (by omega) (fun e=>by injection e with e;omega)).trans (HS6.out.2.block b hbb.2.1 (fun e=>by injection e with e;omega))⟩)⟩)
       have HA7:=Qh (show orT T (ea,eb)=accT (N.take (k+1)) from by
        rw [take_snoc HPe.out,accT_snoc (fun e=>by
         have h1:=congrArg List.length e
         have h2:=congrArg List.length HE.out
         rw [List.length_map,HLq.out.1] at h2
         rw [List.length_take] at h1
         simp only [List.length_nil] at h1
         omega),←HAc.out])
       go_roundw
       case rel=>exact ⟨k+1,_,A6,2,c6,by omega,by go_num,HA7,HT7⟩
       case measure=>simp [intOf];omega
    ·have hp0b:(p1i==0)=false:=beq_eq_false_iff_ne.2 hp0
     refine wp_region_H (by kernel_rfl) (fun u4 K0 hs0=>?_)
     refine tH0 0 K0 ?_
     refine tH0 1 K0 ?_
     refine tH0 2 K0 ?_
     refine tH0 3 K0 ?_
     refine tH0 4 K0 ?_
     refine tH0 5 K0 ?_ (y:=fun z5 hS=>by obtain ⟨q0,q1,q2,q3,q4,q5⟩:=HC.out _ (HB5.out.trans ((Qt HB3.out hS).mono hw1));go_simp;rfl)
     refine tH0 6 K0 ?_
     refine tH0 7 K0 ?_
     refine tI0 8 K0 ?_
     refine tI0 9 K0 ?_
     refine tI0 10 K0 ?_
     refine tI0 11 K0 ?_
     refine tI0 12 K0 ?_
     refine tI0 13 K0 ?_
     refine tI0 14 K0 ?_
     refine tI0 15 K0 ?_
     refine tI0 16 K0 ?_
     refine tI0 17 K0 ?_
     refine tI0 18 K0 ?_
     refine tI0 19 K0 ?_
     refine oH0 20 fun K hK=>?_
     go_simp
     refine hK.out _ _ K0 ?_
     refine wpAnyH_end (by kernel_rfl) ?_ _
     have HB4:=Qh K0
     clear K0 hs0
     have HSp:=Qh (show spanT (ea,eb)=cmpT sDots [endT ea,endT eb] from if_neg (fun e=>by
      obtain ⟨q,hq⟩:=ok_num HOk.out.2.2 e
      simp only at hq
      rw [hq] at HIa
      exact hp0 HIa.out))
     have HX9:=Qh (show TBox u4 HA (spanT (ea,eb)) (.slice A4 2 c4) from by rw [HSp.out];exact TBox.below HX3.out HB4.out)
     have HL9:=Qh (show ∀ sl,Ht.cells6 (spanT (ea,eb)) sl = [.int .i64 5,.string ⟨#[46,46]⟩,.string ⟨#[]⟩,.int .u64 0,.int .i64 0,sl] from by rw [HSp.out];exact fun _=>rfl)
     have HA9:=Qh (show TAtP u4 (fun b=>w1.heap.size<b∧b<u4.heap.size∧b≠HA) (spanT (ea,eb)) (.slice A4 2 c4) from by rw [HSp.out];exact TAtP.keep _ HA3.out (fun b hb=>⟨⟨hb.1,Ql hb.2.1 HB4.out.size,hb.2.2⟩,HB4.out.block b hb.2.1⟩))
     have HB9:=Qh (Qt HB3.out HB4.out)
     have HTb:=Qh (TBox.below HI.out.box HB9.out)
     have hu4:=HB9.out.size
     have HBw:=Qh (HI.out.bel.trans (HB9.out.mono hw1))
     have HTa:=Qh (show TAtP u4 (fun b=>w1.heap.size<b∧b<u4.heap.size) T (.slice Ta n2 c2) from TAtP.keep _ HI.out.at_ (fun b hb=>⟨⟨hb.1,by omega⟩,HB9.out.block b hb.2⟩))
     obtain ⟨x0,x1,x2,x3,x4,x5⟩:=TBox.cellsL HX9.out HL9.out
     obtain ⟨kT,nT,mT,bT,vT,hlT⟩:=tm_letters T
     have HLT:=Qh hlT
     clear hlT
     by_cases hk00:k=0
     ·have hki0:¬(0:Int)<(k:Int):=by omega
      obtain ⟨f0,f1,f2,f3,f4,f5⟩:=TBox.frozens HTb.out
      obtain ⟨y0,y1,y2,y3,y4,y5⟩:=TBox.cellsL HTb.out HLT.out
      have hset:=TBox.setL (sl':=.slice A4 2 c4) HTb.out HL9.out
      go_wp2_with fail
      generalize (((((u4.setCell ⟨w1.heap.size,0,none⟩ (.int .i64 5)).setCell ⟨w1.heap.size,1,none⟩ (.string ⟨#[46,46]⟩)).setCell ⟨w1.heap.size,2,none⟩ (.string ⟨#[]⟩)).setCell ⟨w1.heap.size,3,none⟩ (.int .u64 0)).setCell ⟨w1.heap.size,4,none⟩ (.int .i64 0)).setCell ⟨w1.heap.size,5,none⟩ (.slice A4 2 c4)=u7 at *
      have HS7:=Qh hset
      have HT7:=Qh (show TH w1 (spanT (ea,eb)) A4 2 c4 u7 from ⟨HBw.out.grown HS7.out.2 HBw.out.size (Qg (by omega)),HS7.out.1,
       TAtP.keep _ HA9.out (fun b hb=>⟨⟨hb.1,Ql hb.2.1 HS7.out.2.size⟩,HS7.out.2.block b hb.2.1 (fun e=>by injection e with e;have:=hb.1;omega)⟩)⟩)
      have HA7:=Qh (show spanT (ea,eb)=accT (N.take (k+1)) from by
       rw [take_snoc HPe.out,hk00];rfl)
      go_roundw
      case rel=>exact ⟨k+1,spanT (ea,eb),_,_,_,by omega,by go_num,HA7,HT7⟩
      case measure=>simp [intOf];omega
     ·have hki0:(0:Int)<(k:Int):=by omega
      obtain ⟨y0,y1,y2,y3,y4,y5⟩:=TBox.cellsL HTb.out HLT.out
      have HOf:=Qh (F2_any2 (w:=u4) (P:=fun b=>w1.heap.size<b∧b<u4.heap.size∧b≠HA) (ta:=T) (tb:=spanT (ea,eb)) (sa:=.slice Ta n2 c2) (sb:=.slice A4 2 c4) (s:=sOr) (nb:=⟨#[92,47]⟩) (TAtP.keep _ HI.out.at_ (fun b hb=>⟨⟨hb.1,by omega,by omega⟩,HB9.out.block b hb.2⟩)) HA9.out (fun b hb=>hb.2.1) rfl (by decide))
      unfold valT at HOf
      rw [HLT.out,HL9.out] at HOf
      go_upto_region 13 with (go_at_call 14;(with_reducible refine HOf.out.mono ?_);rintro e u5 ⟨A6,c6,rfl,hat5,hb5⟩;have HU5:=Qh hb5;have HA5:=Qh hat5;have HT5:=Qh (TBox.below HTb.out hb5);have HX5:=Qh (TBox.below HX9.out hb5);clear hat5 hb5;obtain ⟨f0,f1,f2,f3,f4,f5⟩:=TBox.frozens HX5.out;obtain ⟨z0,z1,z2,z3,z4,z5⟩:=TBox.cellsL HX5.out HL9.out)
      have hsx:=TBox.setL (t':=orT T (ea,eb)) (sl':=.slice A6 2 c6) (a0:=.int .i64 5) (a1:=.string ⟨#[92,47]⟩) (a2:=.string ⟨#[]⟩) (a3:=.int .u64 0) (a4:=.int .i64 0) HX5.out (fun _=>rfl)
      generalize (((((u5.setCell ⟨HA,0,none⟩ (.int .i64 5)).setCell ⟨HA,1,none⟩ (.string ⟨#[92,47]⟩)).setCell ⟨HA,2,none⟩ (.string ⟨#[]⟩)).setCell ⟨HA,3,none⟩ (.int .u64 0)).setCell ⟨HA,4,none⟩ (.int .i64 0)).setCell ⟨HA,5,none⟩ (.slice A6 2 c6)=u6 at *
      clear f0 f1 f2 f3 f4 f5 z0 z1 z2 z3 z4 z5 x0 x1 x2 x3 x4 x5 y0 y1 y2 y3 y4 y5
      have HS6:=Qh hsx
      have HT6:=Qh (TBox.gro HT5.out HS6.out.2 (by omega))
      obtain ⟨f0,f1,f2,f3,f4,f5⟩:=TBox.frozens HT6.out
      obtain ⟨z0,z1,z2,z3,z4,z5⟩:=TBox.cellsL HT6.out HLT.out
      obtain ⟨x0,x1,x2,x3,x4,x5⟩:=TBox.cellsL (a0:=.int .i64 5) (a1:=.string ⟨#[92,47]⟩) (a2:=.string ⟨#[]⟩) (a3:=.int .u64 0) (a4:=.int .i64 0) HS6.out.1 (fun _=>rfl)
      have hset:=TBox.setL (t':=orT T (ea,eb)) (sl':=.slice A6 2 c6) (a0:=.int .i64 5) (a1:=.string ⟨#[92,47]⟩) (a2:=.string ⟨#[]⟩) (a3:=.int .u64 0) (a4:=.int .i64 0) HT6.out (fun _=>rfl)
      go_wp2_with fail
      generalize (((((u6.setCell ⟨w1.heap.size,0,none⟩ (.int .i64 5)).setCell ⟨w1.heap.size,1,none⟩ (.string ⟨#[92,47]⟩)).setCell ⟨w1.heap.size,2,none⟩ (.string ⟨#[]⟩)).setCell ⟨w1.heap.size,3,none⟩ (.int .u64 0)).setCell ⟨w1.heap.size,4,none⟩ (.int .i64 0)).setCell ⟨w1.heap.size,5,none⟩ (.slice A6 2 c6)=u7 at *
      have HS7:=Qh hset
      have HBw6:=Qh ((Qt HBw.out HU5.out).grown HS6.out.2 (by have:=HU5.out.size;have:=HBw.out.size;omega) (Qg (by omega)))
      have HT7:=Qh (show TH w1 (orT T (ea,eb)) A6 2 c6 u7 from ⟨HBw6.out.grown HS7.out.2 HBw6.out.size (Qg (by omega)),HS7.out.1,
       TAtP.keep _ HA5.out (fun b hb=>by
        have hz7:=HS7.out.2.size
        have hz6:=HS6.out.2.size
        have hz5:=HU5.out.size
        have hha:=HX9.out.lt
        have hbb:w1.heap.size<b∧b<u5.heap.size∧b≠HA:=by
         rcases hb with hb | hb
         ·omega
         ·omega
        exact ⟨⟨hbb.1,by omega⟩,(HS7.out.2.block b (by omega) (fun e=>by injection e with e;omega)).trans (HS6.out.2.block b hbb.2.1 (fun e=>by injection e with e;omega))⟩)⟩)
      have HA7:=Qh (show orT T (ea,eb)=accT (N.take (k+1)) from by
       rw [take_snoc HPe.out,accT_snoc (fun e=>by
        have h1:=congrArg List.length e
        have h2:=congrArg List.length HE.out
        rw [List.length_map,HLq.out.1] at h2
        rw [List.length_take] at h1
        simp only [List.length_nil] at h1
        omega),←HAc.out])
      go_roundw
      case rel=>exact ⟨k+1,_,A6,2,c6,by omega,by go_num,HA7,HT7⟩
      case measure=>simp [intOf];omega
   ·have hkk:n1=k:=by omega
    subst hkk
    have hki:¬((n1:Int)<(n1:Int)):=by omega
    obtain ⟨kT,nT,mT,bT,vT,hlT⟩:=tm_letters T
    obtain ⟨y0,y1,y2,y3,y4,y5⟩:=TBox.cellsL HI.out.box hlT
    have HR:=Qh (show TBox wr B zeroT (.slice none 0 0) from (HI.out.bel.block B (by have:=HZ1.out;omega)).trans HT1.out)
    obtain ⟨f0,f1,f2,f3,f4,f5⟩:=TBox.frozens HR.out
    obtain ⟨z0,z1,z2,z3,z4,z5⟩:=TBox.cells (nb:=⟨#[]⟩) (mb:=⟨#[]⟩) HR.out rfl rfl
    have HSe:=Qh (TBox.setL (sl':=.slice Ta n2 c2) HR.out hlT)
    have HLT:=Qh hlT
    clear hlT
    go_wp2_with fail
    generalize (((((wr.setCell ⟨B,0,none⟩ (.int .i64 kT)).setCell ⟨B,1,none⟩ (.string nT)).setCell ⟨B,2,none⟩ (.string mT)).setCell ⟨B,3,none⟩ (.int .u64 bT)).setCell ⟨B,4,none⟩ (.int .i64 vT)).setCell ⟨B,5,none⟩ (.slice Ta n2 c2)=w9 at *
    obtain ⟨r0,r1,r2,r3,r4,r5⟩:=TBox.cellsL HSe.out.1 HLT.out
    have HNe:=Qh (show N ≠ [] from fun e=>by
     have h1:=congrArg List.length HE.out
     rw [List.length_map,HLq.out.1,e] at h1
     exact HN0.out h1)
    have HTT:=Qh (show setT N=T from by
     rw [accT_set HNe.out,HAc.out,List.take_of_length_le (by rw [←HE.out,List.length_map,HLq.out.1];exact Nat.le_refl _)])
    have HB9:=Qh (show Below B w w9 from (HB1.out.trans (HI.out.bel.mono (by have:=HZ1.out;omega))).grown HSe.out.2 (by have:=HZ1.out;have:=HI.out.bel.size;omega) (Qg (by omega)))
    have key:RTermPostB B w N (.returned (.agg (Q5 kT nT mT bT vT (.slice Ta n2 c2)))) w9:=
     ⟨.slice Ta n2 c2,by rw [HTT.out];unfold valT;rw [HLT.out],by
      rw [HTT.out]
      have hz:=HSe.out.2.size
      have hz1:=HZ1.out
      exact TAtP.keep _ HI.out.at_ (fun b hb=>⟨⟨by have:=hb.1;omega,by have:=hb.2;omega⟩,HSe.out.2.block b hb.2 (fun e=>by injection e with e;have:=hb.1;omega)⟩),HB9.out⟩
    first
     | (go_ret;exact key)
     | exact bodyPost_ret (by simp [results,Tryz.results10,go_sem,r0,r1,r2,r3,r4,r5]) rfl key
end
section
open Go.RowKit Hb Hf
attribute [local go_sem ↓] Go.wp_at_zero Go.wp_at_succ
theorem aw_a (z:Int):Hf.mem z [(.num 5,.num 7),(.num 3,.num 4),(.num 9,.num 8),(.num 7,.num 10)]↔Hf.mem z [(.num 3,.num 10)]:=by
 simp [Hf.mem,inR,lob,hib];omega
theorem aw_a_nf:NF [(.num 3,.num 10)]:=⟨3,by simp [inR,lob,hib]⟩
theorem aw_b (z:Int):(memB z [(.lo,.num 5)] && memB z [(.num 3,.num 10)])=true↔Hf.mem z [(.num 3,.num 5)]:=by
 rw [Bool.and_eq_true,memB_iff,memB_iff]
 simp [Hf.mem,inR,lob,hib];omega
theorem aw_b_nf:NF [(.num 3,.num 5)]:=⟨3,by simp [inR,lob,hib]⟩
theorem aw_n_nf:NF [(.num 1,.num 3),(.num 5,.num 5)]:=⟨⟨1,by simp [inR,lob,hib]⟩,⟨3,5,rfl,rfl,by omega⟩,⟨5,by simp [inR,lob,hib]⟩⟩
theorem aw_n_fin:Hf.fin [(.num 1,.num 3),(.num 5,.num 5)]:=fun r hr=>by
 simp only [List.mem_cons,List.not_mem_nil,or_false] at hr
 rcases hr with rfl | rfl
 ·exact ⟨1,3,rfl⟩
 ·exact ⟨5,5,rfl⟩
theorem aw_n_size:sizeP [(.num 1,.num 3),(.num 5,.num 5)]=4:=by decide
theorem aw_s_nf:NF [(.num 1,.num 3),(.num 7,.num 7)]:=⟨⟨1,by simp [inR,lob,hib]⟩,⟨3,7,rfl,rfl,by omega⟩,⟨7,by simp [inR,lob,hib]⟩⟩
theorem aw_s (z:Int):Hf.mem z ([(.num 1,.num 3),(.num 7,.num 7)].map (scR (-2)))↔Hf.mem z [(.num (-14),.num (-14)),(.num (-6),.num (-2))]:=by
 simp [Hf.mem,inR,lob,hib,scR,mulE];omega
theorem aw_t_nf:NF [(.num (-14),.num (-14)),(.num (-6),.num (-2))]:=⟨⟨-14,by simp [inR,lob,hib]⟩,⟨-14,-6,rfl,rfl,by omega⟩,⟨-6,by simp [inR,lob,hib]⟩⟩
def Sml (b:Bd):Prop:=b.Nrm∧szE b.ed≤1
theorem sml_nb {z:Int} {A:Option Addr} {c:Nat} (h:z.natAbs<4294967296):Sml (nb z A c):=⟨nb_nrm _ _ _,by rw [nb_ed];exact szE_small h⟩
theorem sml_ib {i:Int} (h:i = -1∨i=1):Sml (ib i):=⟨ib_nrm h,by rcases h with h | h <;> subst h <;> simp [Bd.ed,ib,szE]⟩
theorem SIn.of {w:World} {P:Nat→Prop} {A:Option Addr} {n c K M:Nat} {ps:List Rg} (h:SetP w P A n c ps) (hs:∀ p∈ps,Sml p.1∧Sml p.2) (hn:n≤K) (hM:1≤M):SIn w P A n c ps K M:=by
 refine ⟨h,fun p hp=>?_,hn,fun r hr=>?_⟩
 ·have h1:=hs p hp
  have h2:=h.kid p hp
  have h3:=h1.1.1.szE h2.a.lim.len
  have h4:=h1.2.1.szE h2.b.lim.len
  have h5:=h1.1.2
  have h6:=h1.2.2
  exact ⟨fun _=>by omega,fun _=>by omega⟩
 ·obtain ⟨p,hp,rfl⟩:=List.mem_map.1 hr
  have h1:=hs p hp
  exact ⟨Nat.le_trans h1.1.2 hM,Nat.le_trans h1.2.2 hM⟩
theorem Bd.At.low {w:World} {B B':Nat} {p:Bd} (h:p.At w (Fr B w)) (hB:B'≤B):p.At w (Fr B' w):=
 h.keep fun x hx=>⟨⟨Nat.le_trans hB hx.1,hx.2⟩,rfl⟩
theorem IBox.of_new {w:World} (x:Bool) (y:Value):IBox (w.alloc (.cells #[.bool x,y] 56)) w.heap.size x y:=heap_alloc_new w _
theorem SOut.more {w:World} {B:Nat} {A:Option Addr} {n c K M K' M':Nat} {ps:List Rg} (h:SOut w B A n c ps K M) (hK:K≤K') (hM:M≤M'):SOut w B A n c ps K' M':=
 ⟨h.row,h.gd,h.nf,Nat.le_trans h.len hK,fun r hr=>⟨Nat.le_trans (h.bnd r hr).1 hM,Nat.le_trans (h.bnd r hr).2 hM⟩⟩
theorem SOut.lift {w w':World} {B:Nat} {A:Option Addr} {n c K M:Nat} {qs:List Rg} (h:SOut w B A n c qs K M) (hb:Below w.heap.size w w'):SOut w' B A n c qs K M:=h.below hb
theorem IBox.lift {w w':World} {g:Nat} {x:Bool} {y:Value} (h:IBox w g x y) (hb:Below w.heap.size w w'):IBox w' g x y:=h.below hb
theorem SetP.lift {w w':World} {B:Nat} {A:Option Addr} {n c:Nat} {ps:List Rg} (h:SetP w (Fr B w) A n c ps) (hb:Below w.heap.size w w'):SetP w' (Fr B w') A n c ps:=
 h.keep fun x hx=>⟨⟨hx.1,Ql hx.2 hb.size⟩,hb.block x hx.2⟩
theorem SIn.lift {w w':World} {B:Nat} {A:Option Addr} {n c K M:Nat} {ps:List Rg} (h:SIn w (Fr B w) A n c ps K M) (hb:Below w.heap.size w w'):SIn w' (Fr B w') A n c ps K M:=
 ⟨h.set.lift hb,h.szs,h.len,h.bnd⟩
theorem awake_ok {w:World} : Calls Tryz.prog 5 #[] w fun e w'=>e = .returned (.bool true)∧Below w.heap.size w w':=by
 obtain ⟨B,hB⟩:∃ B,w.heap.size=B:=⟨_,rfl⟩
 have HB0:=Qh (show Below B w w from hB ▸ Below.refl _ _)
 have hS0:B≤w.heap.size:=by omega
 obtain ⟨z5,hz5⟩:∃ z:Int,z=5:=⟨_,rfl⟩
 have Ez5:=Qh hz5
 have Nz5:=Qh (show z5.natAbs<4294967296 from by omega)
 obtain ⟨z7,hz7⟩:∃ z:Int,z=7:=⟨_,rfl⟩
 have Ez7:=Qh hz7
 have Nz7:=Qh (show z7.natAbs<4294967296 from by omega)
 obtain ⟨z3,hz3⟩:∃ z:Int,z=3:=⟨_,rfl⟩
 have Ez3:=Qh hz3
 have Nz3:=Qh (show z3.natAbs<4294967296 from by omega)
 obtain ⟨z4,hz4⟩:∃ z:Int,z=4:=⟨_,rfl⟩
 have Ez4:=Qh hz4
 have Nz4:=Qh (show z4.natAbs<4294967296 from by omega)
 obtain ⟨z9,hz9⟩:∃ z:Int,z=9:=⟨_,rfl⟩
 have Ez9:=Qh hz9
 have Nz9:=Qh (show z9.natAbs<4294967296 from by omega)
 obtain ⟨z8,hz8⟩:∃ z:Int,z=8:=⟨_,rfl⟩
 have Ez8:=Qh hz8
 have Nz8:=Qh (show z8.natAbs<4294967296 from by omega)
 obtain ⟨z10,hz10⟩:∃ z:Int,z=10:=⟨_,rfl⟩
 have Ez10:=Qh hz10
 have Nz10:=Qh (show z10.natAbs<4294967296 from by omega)
 obtain ⟨z1,hz1⟩:∃ z:Int,z=1:=⟨_,rfl⟩
 have Ez1:=Qh hz1
 have Nz1:=Qh (show z1.natAbs<4294967296 from by omega)
 obtain ⟨m14,hm14⟩:∃ z:Int,z=(-14):=⟨_,rfl⟩
 have Em14:=Qh hm14
 have Nm14:=Qh (show m14.natAbs<4294967296 from by omega)
 obtain ⟨m6,hm6⟩:∃ z:Int,z=(-6):=⟨_,rfl⟩
 have Em6:=Qh hm6
 have Nm6:=Qh (show m6.natAbs<4294967296 from by omega)
 obtain ⟨m2,hm2⟩:∃ z:Int,z=(-2):=⟨_,rfl⟩
 have Em2:=Qh hm2
 have Nm2:=Qh (show m2.natAbs<4294967296 from by omega)
 have T_z5_z7:=Qh (fun u=>show Calls Tryz.prog 25 #[.int .i64 5,.int .i64 7] u (RangePost z5 z7 u) from by rw [hz5,hz7];exact to_ok 5 7 (by omega) (by omega) (by omega) (by omega))
 have T_z3_z4:=Qh (fun u=>show Calls Tryz.prog 25 #[.int .i64 3,.int .i64 4] u (RangePost z3 z4 u) from by rw [hz3,hz4];exact to_ok 3 4 (by omega) (by omega) (by omega) (by omega))
 have T_z9_z8:=Qh (fun u=>show Calls Tryz.prog 25 #[.int .i64 9,.int .i64 8] u (RangePost z9 z8 u) from by rw [hz9,hz8];exact to_ok 9 8 (by omega) (by omega) (by omega) (by omega))
 have T_z7_z10:=Qh (fun u=>show Calls Tryz.prog 25 #[.int .i64 7,.int .i64 10] u (RangePost z7 z10 u) from by rw [hz7,hz10];exact to_ok 7 10 (by omega) (by omega) (by omega) (by omega))
 have T_z1_z3:=Qh (fun u=>show Calls Tryz.prog 25 #[.int .i64 1,.int .i64 3] u (RangePost z1 z3 u) from by rw [hz1,hz3];exact to_ok 1 3 (by omega) (by omega) (by omega) (by omega))
 have T_z5_z5:=Qh (fun u=>show Calls Tryz.prog 25 #[.int .i64 5,.int .i64 5] u (RangePost z5 z5 u) from by rw [hz5];exact to_ok 5 5 (by omega) (by omega) (by omega) (by omega))
 have T_z7_z7:=Qh (fun u=>show Calls Tryz.prog 25 #[.int .i64 7,.int .i64 7] u (RangePost z7 z7 u) from by rw [hz7];exact to_ok 7 7 (by omega) (by omega) (by omega) (by omega))
 have T_z3_z10:=Qh (fun u=>show Calls Tryz.prog 25 #[.int .i64 3,.int .i64 10] u (RangePost z3 z10 u) from by rw [hz3,hz10];exact to_ok 3 10 (by omega) (by omega) (by omega) (by omega))
 have T_z3_z5:=Qh (fun u=>show Calls Tryz.prog 25 #[.int .i64 3,.int .i64 5] u (RangePost z3 z5 u) from by rw [hz3,hz5];exact to_ok 3 5 (by omega) (by omega) (by omega) (by omega))
 have T_m14_m14:=Qh (fun u=>show Calls Tryz.prog 25 #[.int .i64 (-14),.int .i64 (-14)] u (RangePost m14 m14 u) from by rw [hm14];exact to_ok (-14) (-14) (by omega) (by omega) (by omega) (by omega))
 have T_m6_m2:=Qh (fun u=>show Calls Tryz.prog 25 #[.int .i64 (-6),.int .i64 (-2)] u (RangePost m6 m2 u) from by rw [hm6,hm2];exact to_ok (-6) (-2) (by omega) (by omega) (by omega) (by omega))
 have F_z5:=Qh (fun u=>show Calls Tryz.prog 27 #[.int .i64 5] u (PostI u z5) from by rw [hz5];exact from_any 5 u (by omega) (by omega))
 have F_m2:=Qh (fun u=>show Calls Tryz.prog 27 #[.int .i64 (-2)] u (PostI u m2) from by rw [hm2];exact from_any (-2) u (by omega) (by omega))
 have F_z4:=Qh (fun u=>show Calls Tryz.prog 27 #[.int .i64 4] u (PostI u z4) from by rw [hz4];exact from_any 4 u (by omega) (by omega))
 rw [hB]
 clear hB hz5 hz7 hz3 hz4 hz9 hz8 hz10 hz1 hm14 hm6 hm2
 go_enter Tryz.func5,Tryz.ntmps5
 go_wp2_with fail
 (with_reducible refine (T_z5_z7.out _).mono ?_)
 rintro e u1 ⟨Ata,Dta,cta,dta,he,hat,hb⟩
 subst he
 simp only [rgV,tR,nb,cells6_eq]
 have ta:=Qh (hat.low hS0)
 clear hat
 have HB1:=Qh (HB0.out.trans (hb.mono hS0))
 have hS1:B≤u1.heap.size:=Nat.le_trans hS0 hb.size
 clear hb
 go_wp2_with fail
 (with_reducible refine (T_z3_z4.out _).mono ?_)
 rintro e u2 ⟨Atb,Dtb,ctb,dtb,he,hat,hb⟩
 subst he
 simp only [rgV,tR,nb,cells6_eq]
 have tb:=Qh (hat.low hS1)
 clear hat
 have HB2:=Qh (HB1.out.trans (hb.mono hS1))
 have hS2:B≤u2.heap.size:=Nat.le_trans hS1 hb.size
 have ta':=Qh (ta.out.lift hb)
 clear ta
 have ta:=ta'
 clear ta'
 clear HB1 hS1
 clear hb
 go_wp2_with fail
 (with_reducible refine (T_z9_z8.out _).mono ?_)
 rintro e u3 ⟨Atc,Dtc,ctc,dtc,he,hat,hb⟩
 subst he
 simp only [rgV,tR,nb,cells6_eq]
 have tc:=Qh (hat.low hS2)
 clear hat
 have HB3:=Qh (HB2.out.trans (hb.mono hS2))
 have hS3:B≤u3.heap.size:=Nat.le_trans hS2 hb.size
 have ta':=Qh (ta.out.lift hb)
 clear ta
 have ta:=ta'
 clear ta'
 have tb':=Qh (tb.out.lift hb)
 clear tb
 have tb:=tb'
 clear tb'
 clear HB2 hS2
 clear hb
 go_wp2_with fail
 (with_reducible refine (T_z7_z10.out _).mono ?_)
 rintro e u4 ⟨Atd,Dtd,ctd,dtd,he,hat,hb⟩
 subst he
 simp only [rgV,tR,nb,cells6_eq]
 have td:=Qh (hat.low hS3)
 clear hat
 have HB4:=Qh (HB3.out.trans (hb.mono hS3))
 have hS4:B≤u4.heap.size:=Nat.le_trans hS3 hb.size
 have ta':=Qh (ta.out.lift hb)
 clear ta
 have ta:=ta'
 clear ta'
 have tb':=Qh (tb.out.lift hb)
 clear tb
 have tb:=tb'
 clear tb'
 have tc':=Qh (tc.out.lift hb)
 clear tc
 have tc:=tc'
 clear tc'
 clear HB3 hS3
 clear hb
 have hbb:Below u4.heap.size u4 (u4.alloc (.cells #[.int .i64 0,.bool (decide (z5<0)),.slice Ata (digs W z5.natAbs).length cta,.int .i64 0,.bool (decide (z7<0)),.slice Dta (digs W z7.natAbs).length dta,.int .i64 0,.bool (decide (z3<0)),.slice Atb (digs W z3.natAbs).length ctb,.int .i64 0,.bool (decide (z4<0)),.slice Dtb (digs W z4.natAbs).length dtb,.int .i64 0,.bool (decide (z9<0)),.slice Atc (digs W z9.natAbs).length ctc,.int .i64 0,.bool (decide (z8<0)),.slice Dtc (digs W z8.natAbs).length dtc,.int .i64 0,.bool (decide (z7<0)),.slice Atd (digs W z7.natAbs).length ctd,.int .i64 0,.bool (decide (z10<0)),.slice Dtd (digs W z10.natAbs).length dtd] 69)):=Qb
 have sa:=Qh (show SIn (u4.alloc (.cells #[.int .i64 0,.bool (decide (z5<0)),.slice Ata (digs W z5.natAbs).length cta,.int .i64 0,.bool (decide (z7<0)),.slice Dta (digs W z7.natAbs).length dta,.int .i64 0,.bool (decide (z3<0)),.slice Atb (digs W z3.natAbs).length ctb,.int .i64 0,.bool (decide (z4<0)),.slice Dtb (digs W z4.natAbs).length dtb,.int .i64 0,.bool (decide (z9<0)),.slice Atc (digs W z9.natAbs).length ctc,.int .i64 0,.bool (decide (z8<0)),.slice Dtc (digs W z8.natAbs).length dtc,.int .i64 0,.bool (decide (z7<0)),.slice Atd (digs W z7.natAbs).length ctd,.int .i64 0,.bool (decide (z10<0)),.slice Dtd (digs W z10.natAbs).length dtd] 69)) (Fr B (u4.alloc (.cells #[.int .i64 0,.bool (decide (z5<0)),.slice Ata (digs W z5.natAbs).length cta,.int .i64 0,.bool (decide (z7<0)),.slice Dta (digs W z7.natAbs).length dta,.int .i64 0,.bool (decide (z3<0)),.slice Atb (digs W z3.natAbs).length ctb,.int .i64 0,.bool (decide (z4<0)),.slice Dtb (digs W z4.natAbs).length dtb,.int .i64 0,.bool (decide (z9<0)),.slice Atc (digs W z9.natAbs).length ctc,.int .i64 0,.bool (decide (z8<0)),.slice Dtc (digs W z8.natAbs).length dtc,.int .i64 0,.bool (decide (z7<0)),.slice Atd (digs W z7.natAbs).length ctd,.int .i64 0,.bool (decide (z10<0)),.slice Dtd (digs W z10.natAbs).length dtd] 69))) (some ⟨u4.heap.size,0,none⟩) 4 4 ([tR z5 z7 Ata Dta cta dta,tR z3 z4 Atb Dtb ctb dtb,tR z9 z8 Atc Dtc ctc dtc,tR z7 z10 Atd Dtd ctd dtd]:List Rg) 4 1 from SIn.of (SetP.built (w:=u4) (B:=B) (ps:=[tR z5 z7 Ata Dta cta dta,tR z3 z4 Atb Dtb ctb dtb,tR z9 z8 Atc Dtc ctc dtc,tR z7 z10 Atd Dtd ctd dtd]) hS4 (List.forall_mem_cons.2 ⟨ta.out,List.forall_mem_cons.2 ⟨tb.out,List.forall_mem_cons.2 ⟨tc.out,List.forall_mem_cons.2 ⟨td.out,fun _ h=>by cases h⟩⟩⟩⟩) (by simp)) (List.forall_mem_cons.2 ⟨⟨sml_nb Nz5.out,sml_nb Nz7.out⟩,List.forall_mem_cons.2 ⟨⟨sml_nb Nz3.out,sml_nb Nz4.out⟩,List.forall_mem_cons.2 ⟨⟨sml_nb Nz9.out,sml_nb Nz8.out⟩,List.forall_mem_cons.2 ⟨⟨sml_nb Nz7.out,sml_nb Nz10.out⟩,fun _ h=>by cases h⟩⟩⟩⟩) (by omega) (by omega))
 clear ta
 clear tb
 clear tc
 clear td
 go_wp2_with fail
 obtain ⟨u5,hu5⟩:∃ u,(u4.alloc (.cells #[.int .i64 0,.bool (decide (z5<0)),.slice Ata (digs W z5.natAbs).length cta,.int .i64 0,.bool (decide (z7<0)),.slice Dta (digs W z7.natAbs).length dta,.int .i64 0,.bool (decide (z3<0)),.slice Atb (digs W z3.natAbs).length ctb,.int .i64 0,.bool (decide (z4<0)),.slice Dtb (digs W z4.natAbs).length dtb,.int .i64 0,.bool (decide (z9<0)),.slice Atc (digs W z9.natAbs).length ctc,.int .i64 0,.bool (decide (z8<0)),.slice Dtc (digs W z8.natAbs).length dtc,.int .i64 0,.bool (decide (z7<0)),.slice Atd (digs W z7.natAbs).length ctd,.int .i64 0,.bool (decide (z10<0)),.slice Dtd (digs W z10.natAbs).length dtd] 69))=u:=⟨_,rfl⟩
 rw [hu5] at hbb sa ⊢
 have HB5:=Qh (HB4.out.trans (hbb.mono hS4))
 have hS5:B≤u5.heap.size:=Nat.le_trans hS4 hbb.size
 clear HB4 hS4
 clear hbb hu5
 (with_reducible refine (Norm_ok sa.out (fun b hb=>hb.2) (by omega) (by omega)).mono ?_)
 rintro e u6 ⟨Ara,nra,cra,qra,he,hso,hmm,hb⟩
 subst he
 have Xra:=Qh (show qra.map edsR = [(.num 3,.num 10)] from hso.nf.uniq aw_a_nf (fun y=>by rw [hmm y,←aw_a y];simp only [List.map_cons,List.map_nil,edsR,tR,nb_ed,Ez5.out,Ez7.out,Ez3.out,Ez4.out,Ez9.out,Ez8.out,Ez10.out]))
 clear sa
 have ra:=Qh ((hso.lower hS5:SOut u6 B Ara nra cra qra 4 1))
 have HB6:=Qh (HB5.out.trans (hb.mono hS5))
 have hS6:B≤u6.heap.size:=Nat.le_trans hS5 hb.size
 clear HB5 hS5
 clear hb hso hmm
 go_wp2_with fail
 (with_reducible refine (F_z5.out _).mono ?_)
 rintro e u7 ⟨v,he,hr,hb⟩
 obtain ⟨Axa,cxa,hv,hat⟩:=hr.nb
 subst hv
 subst he
 have xa:=Qh (hat.low hS6)
 clear hat hr
 have HB7:=Qh (HB6.out.trans (hb.mono hS6))
 have hS7:B≤u7.heap.size:=Nat.le_trans hS6 hb.size
 have ra':=Qh (ra.out.lift hb)
 clear ra
 have ra:=ra'
 clear ra'
 clear HB6 hS6
 clear hb
 have hbb:Below u7.heap.size u7 (u7.alloc (.cells #[.int .i64 (-1),.bool false,.slice none 0 0,.int .i64 0,.bool (decide (z5<0)),.slice Axa (digs W z5.natAbs).length cxa] 69)):=Qb
 have sb:=Qh (show SIn (u7.alloc (.cells #[.int .i64 (-1),.bool false,.slice none 0 0,.int .i64 0,.bool (decide (z5<0)),.slice Axa (digs W z5.natAbs).length cxa] 69)) (Fr B (u7.alloc (.cells #[.int .i64 (-1),.bool false,.slice none 0 0,.int .i64 0,.bool (decide (z5<0)),.slice Axa (digs W z5.natAbs).length cxa] 69))) (some ⟨u7.heap.size,0,none⟩) 1 1 ([(ib (-1),nb z5 Axa cxa)]:List Rg) 4 1 from SIn.of (SetP.built (w:=u7) (B:=B) (ps:=[(ib (-1),nb z5 Axa cxa)]) hS7 (List.forall_mem_cons.2 ⟨⟨ib_at _ _ (by omega),xa.out⟩,fun _ h=>by cases h⟩) (by simp)) (List.forall_mem_cons.2 ⟨⟨sml_ib (by omega),sml_nb Nz5.out⟩,fun _ h=>by cases h⟩) (by omega) (by omega))
 clear xa
 go_wp2_with fail
 obtain ⟨u8,hu8⟩:∃ u,(u7.alloc (.cells #[.int .i64 (-1),.bool false,.slice none 0 0,.int .i64 0,.bool (decide (z5<0)),.slice Axa (digs W z5.natAbs).length cxa] 69))=u:=⟨_,rfl⟩
 rw [hu8] at hbb sb ⊢
 have HB8:=Qh (HB7.out.trans (hbb.mono hS7))
 have hS8:B≤u8.heap.size:=Nat.le_trans hS7 hbb.size
 have ra':=Qh (ra.out.lift hbb)
 clear ra
 have ra:=ra'
 clear ra'
 clear HB7 hS7
 clear hbb hu8
 (with_reducible refine (Inter_ok (sb.out) (ra.out.sin) (fun b hb=>hb.2) (by omega) (by omega)).mono ?_)
 rintro e u9 ⟨Arb,nrb,crb,qrb,he,hso,hmm,hb⟩
 subst he
 have Xrb:=Qh (show qrb.map edsR = [(.num 3,.num 5)] from hso.nf.uniq aw_b_nf (fun y=>by rw [hmm y,Xra.out,←aw_b y];simp only [List.map_cons,List.map_nil,edsR,tR,nb_ed,Ez5.out];rfl))
 clear sb
 have rb:=Qh ((hso.lower hS8:SOut u9 B Arb nrb crb qrb 17 2))
 have HB9:=Qh (HB8.out.trans (hb.mono hS8))
 have hS9:B≤u9.heap.size:=Nat.le_trans hS8 hb.size
 have ra':=Qh (ra.out.lift hb)
 clear ra
 have ra:=ra'
 clear ra'
 clear HB8 hS8
 clear hb hso hmm
 go_wp2_with fail
 (with_reducible refine (T_z1_z3.out _).mono ?_)
 rintro e u10 ⟨Ate,Dte,cte,dte,he,hat,hb⟩
 subst he
 simp only [rgV,tR,nb,cells6_eq]
 have te:=Qh (hat.low hS9)
 clear hat
 have HB10:=Qh (HB9.out.trans (hb.mono hS9))
 have hS10:B≤u10.heap.size:=Nat.le_trans hS9 hb.size
 have ra':=Qh (ra.out.lift hb)
 clear ra
 have ra:=ra'
 clear ra'
 have rb':=Qh (rb.out.lift hb)
 clear rb
 have rb:=rb'
 clear rb'
 clear HB9 hS9
 clear hb
 go_wp2_with fail
 (with_reducible refine (T_z5_z5.out _).mono ?_)
 rintro e u11 ⟨Atf,Dtf,ctf,dtf,he,hat,hb⟩
 subst he
 simp only [rgV,tR,nb,cells6_eq]
 have tf:=Qh (hat.low hS10)
 clear hat
 have HB11:=Qh (HB10.out.trans (hb.mono hS10))
 have hS11:B≤u11.heap.size:=Nat.le_trans hS10 hb.size
 have ra':=Qh (ra.out.lift hb)
 clear ra
 have ra:=ra'
 clear ra'
 have rb':=Qh (rb.out.lift hb)
 clear rb
 have rb:=rb'
 clear rb'
 have te':=Qh (te.out.lift hb)
 clear te
 have te:=te'
 clear te'
 clear HB10 hS10
 clear hb
 have hbb:Below u11.heap.size u11 (u11.alloc (.cells #[.int .i64 0,.bool (decide (z1<0)),.slice Ate (digs W z1.natAbs).length cte,.int .i64 0,.bool (decide (z3<0)),.slice Dte (digs W z3.natAbs).length dte,.int .i64 0,.bool (decide (z5<0)),.slice Atf (digs W z5.natAbs).length ctf,.int .i64 0,.bool (decide (z5<0)),.slice Dtf (digs W z5.natAbs).length dtf] 69)):=Qb
 have sc:=Qh (show SIn (u11.alloc (.cells #[.int .i64 0,.bool (decide (z1<0)),.slice Ate (digs W z1.natAbs).length cte,.int .i64 0,.bool (decide (z3<0)),.slice Dte (digs W z3.natAbs).length dte,.int .i64 0,.bool (decide (z5<0)),.slice Atf (digs W z5.natAbs).length ctf,.int .i64 0,.bool (decide (z5<0)),.slice Dtf (digs W z5.natAbs).length dtf] 69)) (Fr B (u11.alloc (.cells #[.int .i64 0,.bool (decide (z1<0)),.slice Ate (digs W z1.natAbs).length cte,.int .i64 0,.bool (decide (z3<0)),.slice Dte (digs W z3.natAbs).length dte,.int .i64 0,.bool (decide (z5<0)),.slice Atf (digs W z5.natAbs).length ctf,.int .i64 0,.bool (decide (z5<0)),.slice Dtf (digs W z5.natAbs).length dtf] 69))) (some ⟨u11.heap.size,0,none⟩) 2 2 ([tR z1 z3 Ate Dte cte dte,tR z5 z5 Atf Dtf ctf dtf]:List Rg) 4 1 from SIn.of (SetP.built (w:=u11) (B:=B) (ps:=[tR z1 z3 Ate Dte cte dte,tR z5 z5 Atf Dtf ctf dtf]) hS11 (List.forall_mem_cons.2 ⟨te.out,List.forall_mem_cons.2 ⟨tf.out,fun _ h=>by cases h⟩⟩) (by simp)) (List.forall_mem_cons.2 ⟨⟨sml_nb Nz1.out,sml_nb Nz3.out⟩,List.forall_mem_cons.2 ⟨⟨sml_nb Nz5.out,sml_nb Nz5.out⟩,fun _ h=>by cases h⟩⟩) (by omega) (by omega))
 clear te
 clear tf
 go_wp2_with fail
 obtain ⟨u12,hu12⟩:∃ u,(u11.alloc (.cells #[.int .i64 0,.bool (decide (z1<0)),.slice Ate (digs W z1.natAbs).length cte,.int .i64 0,.bool (decide (z3<0)),.slice Dte (digs W z3.natAbs).length dte,.int .i64 0,.bool (decide (z5<0)),.slice Atf (digs W z5.natAbs).length ctf,.int .i64 0,.bool (decide (z5<0)),.slice Dtf (digs W z5.natAbs).length dtf] 69))=u:=⟨_,rfl⟩
 rw [hu12] at hbb sc ⊢
 have HB12:=Qh (HB11.out.trans (hbb.mono hS11))
 have hS12:B≤u12.heap.size:=Nat.le_trans hS11 hbb.size
 have ra':=Qh (ra.out.lift hbb)
 clear ra
 have ra:=ra'
 clear ra'
 have rb':=Qh (rb.out.lift hbb)
 clear rb
 have rb:=rb'
 clear rb'
 clear HB11 hS11
 clear hbb hu12
 (with_reducible refine (Size_ok sc.out (fun b hb=>hb.2) (by omega) (by omega)).mono ?_)
 rintro e u13 ⟨N,hnf,hmm,hb,hh⟩
 have hN:N = [(.num 1,.num 3),(.num 5,.num 5)]:=hnf.uniq aw_n_nf (fun y=>by rw [hmm y];simp only [List.map_cons,List.map_nil,edsR,tR,nb_ed,Ez1.out,Ez3.out,Ez5.out])
 subst hN
 rw [aw_n_size,←Ez4.out] at hh
 obtain ⟨Axb,cxb,he,ho⟩:∃ A c,e = .returned (.tuple #[.agg #[.bool (decide (z4<0)),.slice A (digs W z4.natAbs).length c],.bool true,.int .i64 0])∧OwnU u13 _ A (digs W z4.natAbs).length c (u32s (digs W z4.natAbs)):=by
  rcases hh with ⟨_,h⟩ | ⟨h,_⟩
  ·exact h
  ·exact absurd aw_n_fin h
 subst he
 have xb:=Qh ((nb_at ho).low hS12)
 clear sc hh hnf hmm ho
 have HB13:=Qh (HB12.out.trans (hb.mono hS12))
 have hS13:B≤u13.heap.size:=Nat.le_trans hS12 hb.size
 have ra':=Qh (ra.out.lift hb)
 clear ra
 have ra:=ra'
 clear ra'
 have rb':=Qh (rb.out.lift hb)
 clear rb
 have rb:=rb'
 clear rb'
 clear HB12 hS12
 clear hb
 go_wp2_with fail
 have hbb:Below u13.heap.size u13 (u13.alloc (.cells #[.bool (decide (z4<0)),.slice Axb (digs W z4.natAbs).length cxb] 56)):=Qb
 have bx:=Qh (IBox.of_new (w:=u13) (decide (z4<0)) (.slice Axb (digs W z4.natAbs).length cxb))
 obtain ⟨G,hG⟩:∃ G,u13.heap.size=G:=⟨_,rfl⟩
 obtain ⟨u14,hu14⟩:∃ u,(u13.alloc (.cells #[.bool (decide (z4<0)),.slice Axb (digs W z4.natAbs).length cxb] 56))=u:=⟨_,rfl⟩
 rw [hu14] at hbb bx ⊢
 have HB14:=Qh (HB13.out.trans (hbb.mono hS13))
 have hS14:B≤u14.heap.size:=Nat.le_trans hS13 hbb.size
 have ra':=Qh (ra.out.lift hbb)
 clear ra
 have ra:=ra'
 clear ra'
 have rb':=Qh (rb.out.lift hbb)
 clear rb
 have rb:=rb'
 clear rb'
 have xb':=Qh (xb.out.lift hbb)
 clear xb
 have xb:=xb'
 clear xb'
 clear HB13 hS13
 clear hbb hu14
 rw [hG] at bx ⊢
 clear hG
 go_wp2_with fail
 (with_reducible refine (T_z1_z3.out _).mono ?_)
 rintro e u15 ⟨Atg,Dtg,ctg,dtg,he,hat,hb⟩
 subst he
 simp only [rgV,tR,nb,cells6_eq]
 have tg:=Qh (hat.low hS14)
 clear hat
 have HB15:=Qh (HB14.out.trans (hb.mono hS14))
 have hS15:B≤u15.heap.size:=Nat.le_trans hS14 hb.size
 have ra':=Qh (ra.out.lift hb)
 clear ra
 have ra:=ra'
 clear ra'
 have rb':=Qh (rb.out.lift hb)
 clear rb
 have rb:=rb'
 clear rb'
 have xb':=Qh (xb.out.lift hb)
 clear xb
 have xb:=xb'
 clear xb'
 have bx':=Qh (bx.out.lift hb)
 clear bx
 have bx:=bx'
 clear bx'
 clear HB14 hS14
 clear hb
 go_wp2_with fail
 (with_reducible refine (T_z7_z7.out _).mono ?_)
 rintro e u16 ⟨Ath,Dth,cth,dth,he,hat,hb⟩
 subst he
 simp only [rgV,tR,nb,cells6_eq]
 have th:=Qh (hat.low hS15)
 clear hat
 have HB16:=Qh (HB15.out.trans (hb.mono hS15))
 have hS16:B≤u16.heap.size:=Nat.le_trans hS15 hb.size
 have ra':=Qh (ra.out.lift hb)
 clear ra
 have ra:=ra'
 clear ra'
 have rb':=Qh (rb.out.lift hb)
 clear rb
 have rb:=rb'
 clear rb'
 have xb':=Qh (xb.out.lift hb)
 clear xb
 have xb:=xb'
 clear xb'
 have bx':=Qh (bx.out.lift hb)
 clear bx
 have bx:=bx'
 clear bx'
 have tg':=Qh (tg.out.lift hb)
 clear tg
 have tg:=tg'
 clear tg'
 clear HB15 hS15
 clear hb
 have hbb:Below u16.heap.size u16 (u16.alloc (.cells #[.int .i64 0,.bool (decide (z1<0)),.slice Atg (digs W z1.natAbs).length ctg,.int .i64 0,.bool (decide (z3<0)),.slice Dtg (digs W z3.natAbs).length dtg,.int .i64 0,.bool (decide (z7<0)),.slice Ath (digs W z7.natAbs).length cth,.int .i64 0,.bool (decide (z7<0)),.slice Dth (digs W z7.natAbs).length dth] 69)):=Qb
 have sd:=Qh (show SIn (u16.alloc (.cells #[.int .i64 0,.bool (decide (z1<0)),.slice Atg (digs W z1.natAbs).length ctg,.int .i64 0,.bool (decide (z3<0)),.slice Dtg (digs W z3.natAbs).length dtg,.int .i64 0,.bool (decide (z7<0)),.slice Ath (digs W z7.natAbs).length cth,.int .i64 0,.bool (decide (z7<0)),.slice Dth (digs W z7.natAbs).length dth] 69)) (Fr B (u16.alloc (.cells #[.int .i64 0,.bool (decide (z1<0)),.slice Atg (digs W z1.natAbs).length ctg,.int .i64 0,.bool (decide (z3<0)),.slice Dtg (digs W z3.natAbs).length dtg,.int .i64 0,.bool (decide (z7<0)),.slice Ath (digs W z7.natAbs).length cth,.int .i64 0,.bool (decide (z7<0)),.slice Dth (digs W z7.natAbs).length dth] 69))) (some ⟨u16.heap.size,0,none⟩) 2 2 ([tR z1 z3 Atg Dtg ctg dtg,tR z7 z7 Ath Dth cth dth]:List Rg) 4 1 from SIn.of (SetP.built (w:=u16) (B:=B) (ps:=[tR z1 z3 Atg Dtg ctg dtg,tR z7 z7 Ath Dth cth dth]) hS16 (List.forall_mem_cons.2 ⟨tg.out,List.forall_mem_cons.2 ⟨th.out,fun _ h=>by cases h⟩⟩) (by simp)) (List.forall_mem_cons.2 ⟨⟨sml_nb Nz1.out,sml_nb Nz3.out⟩,List.forall_mem_cons.2 ⟨⟨sml_nb Nz7.out,sml_nb Nz7.out⟩,fun _ h=>by cases h⟩⟩) (by omega) (by omega))
 clear tg
 clear th
 go_wp2_with fail
 obtain ⟨u17,hu17⟩:∃ u,(u16.alloc (.cells #[.int .i64 0,.bool (decide (z1<0)),.slice Atg (digs W z1.natAbs).length ctg,.int .i64 0,.bool (decide (z3<0)),.slice Dtg (digs W z3.natAbs).length dtg,.int .i64 0,.bool (decide (z7<0)),.slice Ath (digs W z7.natAbs).length cth,.int .i64 0,.bool (decide (z7<0)),.slice Dth (digs W z7.natAbs).length dth] 69))=u:=⟨_,rfl⟩
 rw [hu17] at hbb sd ⊢
 have HB17:=Qh (HB16.out.trans (hbb.mono hS16))
 have hS17:B≤u17.heap.size:=Nat.le_trans hS16 hbb.size
 have ra':=Qh (ra.out.lift hbb)
 clear ra
 have ra:=ra'
 clear ra'
 have rb':=Qh (rb.out.lift hbb)
 clear rb
 have rb:=rb'
 clear rb'
 have xb':=Qh (xb.out.lift hbb)
 clear xb
 have xb:=xb'
 clear xb'
 have bx':=Qh (bx.out.lift hbb)
 clear bx
 have bx:=bx'
 clear bx'
 clear HB16 hS16
 clear hbb hu17
 go_wp2_with fail
 (with_reducible refine (F_m2.out _).mono ?_)
 rintro e u18 ⟨v,he,hr,hb⟩
 obtain ⟨Axc,cxc,hv,hat⟩:=hr.nb
 subst hv
 subst he
 have xc:=Qh (hat.low hS17)
 clear hat hr
 have HB18:=Qh (HB17.out.trans (hb.mono hS17))
 have hS18:B≤u18.heap.size:=Nat.le_trans hS17 hb.size
 have ra':=Qh (ra.out.lift hb)
 clear ra
 have ra:=ra'
 clear ra'
 have rb':=Qh (rb.out.lift hb)
 clear rb
 have rb:=rb'
 clear rb'
 have xb':=Qh (xb.out.lift hb)
 clear xb
 have xb:=xb'
 clear xb'
 have bx':=Qh (bx.out.lift hb)
 clear bx
 have bx:=bx'
 clear bx'
 have sd':=Qh (sd.out.lift hb)
 clear sd
 have sd:=sd'
 clear sd'
 clear HB17 hS17
 clear hb
 have hlm:LimP u18 (Fr B u18) Axc (digs W m2.natAbs).length cxc (digs W m2.natAbs):=xc.out.lim
 have hln:1+(digs W m2.natAbs).length≤128:=(by have:=szE_small Nm2.out;simp only [szE] at this;omega)
 go_wp2_with fail
 (with_reducible refine (Scale_ok (M:=1) (K:=4) (A':=Axc) (n':=(digs W m2.natAbs).length) (c':=cxc) (l:=digs W m2.natAbs) sd.out hlm (fun b hb=>hb.2) (by omega) hln (ival_digs m2) (by rw [Em2.out];omega)).mono ?_)
 rintro e u19 ⟨Arc,nrc,crc,qrc,N,hnf,hmn,he,hso,hmm,hb⟩
 subst he
 have hN:N = [(.num 1,.num 3),(.num 7,.num 7)]:=hnf.uniq aw_s_nf (fun y=>by rw [hmn y];simp only [List.map_cons,List.map_nil,edsR,tR,nb_ed,Ez1.out,Ez3.out,Ez7.out])
 subst hN
 have Xrc:=Qh (show qrc.map edsR = [(.num (-14),.num (-14)),(.num (-6),.num (-2))] from hso.nf.uniq aw_t_nf (fun y=>by rw [hmm y,Em2.out];exact aw_s y))
 clear sd hnf hmn hlm hln
 clear xc
 have hso:=hso.more (K':=4) (M':=2) (Nat.le_refl _) (by have:=szE_small Nm2.out;simp only [szE] at this;omega)
 have rc:=Qh ((hso.lower hS18:SOut u19 B Arc nrc crc qrc 4 2))
 have HB19:=Qh (HB18.out.trans (hb.mono hS18))
 have hS19:B≤u19.heap.size:=Nat.le_trans hS18 hb.size
 have ra':=Qh (ra.out.lift hb)
 clear ra
 have ra:=ra'
 clear ra'
 have rb':=Qh (rb.out.lift hb)
 clear rb
 have rb:=rb'
 clear rb'
 have xb':=Qh (xb.out.lift hb)
 clear xb
 have xb:=xb'
 clear xb'
 have bx':=Qh (bx.out.lift hb)
 clear bx
 have bx:=bx'
 clear bx'
 clear HB18 hS18
 clear hb hso hmm
 go_wp2_with fail
 (with_reducible refine (T_z3_z10.out _).mono ?_)
 rintro e u20 ⟨Ati,Dti,cti,dti,he,hat,hb⟩
 subst he
 simp only [rgV,tR,nb,cells6_eq]
 have ti:=Qh (hat.low hS19)
 clear hat
 have HB20:=Qh (HB19.out.trans (hb.mono hS19))
 have hS20:B≤u20.heap.size:=Nat.le_trans hS19 hb.size
 have ra':=Qh (ra.out.lift hb)
 clear ra
 have ra:=ra'
 clear ra'
 have rb':=Qh (rb.out.lift hb)
 clear rb
 have rb:=rb'
 clear rb'
 have xb':=Qh (xb.out.lift hb)
 clear xb
 have xb:=xb'
 clear xb'
 have bx':=Qh (bx.out.lift hb)
 clear bx
 have bx:=bx'
 clear bx'
 have rc':=Qh (rc.out.lift hb)
 clear rc
 have rc:=rc'
 clear rc'
 clear HB19 hS19
 clear hb
 have hbb:Below u20.heap.size u20 (u20.alloc (.cells #[.int .i64 0,.bool (decide (z3<0)),.slice Ati (digs W z3.natAbs).length cti,.int .i64 0,.bool (decide (z10<0)),.slice Dti (digs W z10.natAbs).length dti] 69)):=Qb
 have se:=Qh (show SIn (u20.alloc (.cells #[.int .i64 0,.bool (decide (z3<0)),.slice Ati (digs W z3.natAbs).length cti,.int .i64 0,.bool (decide (z10<0)),.slice Dti (digs W z10.natAbs).length dti] 69)) (Fr B (u20.alloc (.cells #[.int .i64 0,.bool (decide (z3<0)),.slice Ati (digs W z3.natAbs).length cti,.int .i64 0,.bool (decide (z10<0)),.slice Dti (digs W z10.natAbs).length dti] 69))) (some ⟨u20.heap.size,0,none⟩) 1 1 ([tR z3 z10 Ati Dti cti dti]:List Rg) 4 1 from SIn.of (SetP.built (w:=u20) (B:=B) (ps:=[tR z3 z10 Ati Dti cti dti]) hS20 (List.forall_mem_cons.2 ⟨ti.out,fun _ h=>by cases h⟩) (by simp)) (List.forall_mem_cons.2 ⟨⟨sml_nb Nz3.out,sml_nb Nz10.out⟩,fun _ h=>by cases h⟩) (by omega) (by omega))
 clear ti
 go_wp2_with fail
 obtain ⟨u21,hu21⟩:∃ u,(u20.alloc (.cells #[.int .i64 0,.bool (decide (z3<0)),.slice Ati (digs W z3.natAbs).length cti,.int .i64 0,.bool (decide (z10<0)),.slice Dti (digs W z10.natAbs).length dti] 69))=u:=⟨_,rfl⟩
 rw [hu21] at hbb se ⊢
 have HB21:=Qh (HB20.out.trans (hbb.mono hS20))
 have hS21:B≤u21.heap.size:=Nat.le_trans hS20 hbb.size
 have ra':=Qh (ra.out.lift hbb)
 clear ra
 have ra:=ra'
 clear ra'
 have rb':=Qh (rb.out.lift hbb)
 clear rb
 have rb:=rb'
 clear rb'
 have xb':=Qh (xb.out.lift hbb)
 clear xb
 have xb:=xb'
 clear xb'
 have bx':=Qh (bx.out.lift hbb)
 clear bx
 have bx:=bx'
 clear bx'
 have rc':=Qh (rc.out.lift hbb)
 clear rc
 have rc:=rc'
 clear rc'
 clear HB20 hS20
 clear hbb hu21
 have hg1:∀ q∈qra,q.1.Nrm∧q.2.Nrm:=fun q hq=>(ra.out.gd q hq).1
 have hg2:∀ q∈([tR z3 z10 Ati Dti cti dti]:List Rg),q.1.Nrm∧q.2.Nrm:=List.forall_mem_cons.2 ⟨⟨nb_nrm _ _ _,nb_nrm _ _ _⟩,fun _ h=>by cases h⟩
 (with_reducible refine (sameRanges_true (qs:=[tR z3 z10 Ati Dti cti dti]) ra.out.set se.out.set (fun b hb=>hb.2) hg1 hg2 (by rw [Xra.out];simp only [List.map_cons,List.map_nil,edsR,tR,nb_ed,Ez3.out,Ez10.out])).mono ?_)
 rintro e u22 ⟨he,hb⟩
 subst he
 clear se hg1 hg2
 clear ra
 have HB22:=Qh (HB21.out.trans (hb.mono hS21))
 have hS22:B≤u22.heap.size:=Nat.le_trans hS21 hb.size
 have rb':=Qh (rb.out.lift hb)
 clear rb
 have rb:=rb'
 clear rb'
 have xb':=Qh (xb.out.lift hb)
 clear xb
 have xb:=xb'
 clear xb'
 have bx':=Qh (bx.out.lift hb)
 clear bx
 have bx:=bx'
 clear bx'
 have rc':=Qh (rc.out.lift hb)
 clear rc
 have rc:=rc'
 clear rc'
 clear HB21 hS21
 clear hb
 go_wp2_with fail
 (with_reducible refine (T_z3_z5.out _).mono ?_)
 rintro e u23 ⟨Atj,Dtj,ctj,dtj,he,hat,hb⟩
 subst he
 simp only [rgV,tR,nb,cells6_eq]
 have tj:=Qh (hat.low hS22)
 clear hat
 have HB23:=Qh (HB22.out.trans (hb.mono hS22))
 have hS23:B≤u23.heap.size:=Nat.le_trans hS22 hb.size
 have rb':=Qh (rb.out.lift hb)
 clear rb
 have rb:=rb'
 clear rb'
 have xb':=Qh (xb.out.lift hb)
 clear xb
 have xb:=xb'
 clear xb'
 have bx':=Qh (bx.out.lift hb)
 clear bx
 have bx:=bx'
 clear bx'
 have rc':=Qh (rc.out.lift hb)
 clear rc
 have rc:=rc'
 clear rc'
 clear HB22 hS22
 clear hb
 have hbb:Below u23.heap.size u23 (u23.alloc (.cells #[.int .i64 0,.bool (decide (z3<0)),.slice Atj (digs W z3.natAbs).length ctj,.int .i64 0,.bool (decide (z5<0)),.slice Dtj (digs W z5.natAbs).length dtj] 69)):=Qb
 have sf:=Qh (show SIn (u23.alloc (.cells #[.int .i64 0,.bool (decide (z3<0)),.slice Atj (digs W z3.natAbs).length ctj,.int .i64 0,.bool (decide (z5<0)),.slice Dtj (digs W z5.natAbs).length dtj] 69)) (Fr B (u23.alloc (.cells #[.int .i64 0,.bool (decide (z3<0)),.slice Atj (digs W z3.natAbs).length ctj,.int .i64 0,.bool (decide (z5<0)),.slice Dtj (digs W z5.natAbs).length dtj] 69))) (some ⟨u23.heap.size,0,none⟩) 1 1 ([tR z3 z5 Atj Dtj ctj dtj]:List Rg) 4 1 from SIn.of (SetP.built (w:=u23) (B:=B) (ps:=[tR z3 z5 Atj Dtj ctj dtj]) hS23 (List.forall_mem_cons.2 ⟨tj.out,fun _ h=>by cases h⟩) (by simp)) (List.forall_mem_cons.2 ⟨⟨sml_nb Nz3.out,sml_nb Nz5.out⟩,fun _ h=>by cases h⟩) (by omega) (by omega))
 clear tj
 go_wp2_with fail
 obtain ⟨u24,hu24⟩:∃ u,(u23.alloc (.cells #[.int .i64 0,.bool (decide (z3<0)),.slice Atj (digs W z3.natAbs).length ctj,.int .i64 0,.bool (decide (z5<0)),.slice Dtj (digs W z5.natAbs).length dtj] 69))=u:=⟨_,rfl⟩
 rw [hu24] at hbb sf ⊢
 have HB24:=Qh (HB23.out.trans (hbb.mono hS23))
 have hS24:B≤u24.heap.size:=Nat.le_trans hS23 hbb.size
 have rb':=Qh (rb.out.lift hbb)
 clear rb
 have rb:=rb'
 clear rb'
 have xb':=Qh (xb.out.lift hbb)
 clear xb
 have xb:=xb'
 clear xb'
 have bx':=Qh (bx.out.lift hbb)
 clear bx
 have bx:=bx'
 clear bx'
 have rc':=Qh (rc.out.lift hbb)
 clear rc
 have rc:=rc'
 clear rc'
 clear HB23 hS23
 clear hbb hu24
 have hg1:∀ q∈qrb,q.1.Nrm∧q.2.Nrm:=fun q hq=>(rb.out.gd q hq).1
 have hg2:∀ q∈([tR z3 z5 Atj Dtj ctj dtj]:List Rg),q.1.Nrm∧q.2.Nrm:=List.forall_mem_cons.2 ⟨⟨nb_nrm _ _ _,nb_nrm _ _ _⟩,fun _ h=>by cases h⟩
 (with_reducible refine (sameRanges_true (qs:=[tR z3 z5 Atj Dtj ctj dtj]) rb.out.set sf.out.set (fun b hb=>hb.2) hg1 hg2 (by rw [Xrb.out];simp only [List.map_cons,List.map_nil,edsR,tR,nb_ed,Ez3.out,Ez5.out])).mono ?_)
 rintro e u25 ⟨he,hb⟩
 subst he
 clear sf hg1 hg2
 clear rb
 have HB25:=Qh (HB24.out.trans (hb.mono hS24))
 have hS25:B≤u25.heap.size:=Nat.le_trans hS24 hb.size
 have xb':=Qh (xb.out.lift hb)
 clear xb
 have xb:=xb'
 clear xb'
 have bx':=Qh (bx.out.lift hb)
 clear bx
 have bx:=bx'
 clear bx'
 have rc':=Qh (rc.out.lift hb)
 clear rc
 have rc:=rc'
 clear rc'
 clear HB24 hS24
 clear hb
 go_wp2_with fail
 (with_reducible refine (T_m14_m14.out _).mono ?_)
 rintro e u26 ⟨Atk,Dtk,ctk,dtk,he,hat,hb⟩
 subst he
 simp only [rgV,tR,nb,cells6_eq]
 have tk:=Qh (hat.low hS25)
 clear hat
 have HB26:=Qh (HB25.out.trans (hb.mono hS25))
 have hS26:B≤u26.heap.size:=Nat.le_trans hS25 hb.size
 have xb':=Qh (xb.out.lift hb)
 clear xb
 have xb:=xb'
 clear xb'
 have bx':=Qh (bx.out.lift hb)
 clear bx
 have bx:=bx'
 clear bx'
 have rc':=Qh (rc.out.lift hb)
 clear rc
 have rc:=rc'
 clear rc'
 clear HB25 hS25
 clear hb
 go_wp2_with fail
 (with_reducible refine (T_m6_m2.out _).mono ?_)
 rintro e u27 ⟨Atl,Dtl,ctl,dtl,he,hat,hb⟩
 subst he
 simp only [rgV,tR,nb,cells6_eq]
 have tl:=Qh (hat.low hS26)
 clear hat
 have HB27:=Qh (HB26.out.trans (hb.mono hS26))
 have hS27:B≤u27.heap.size:=Nat.le_trans hS26 hb.size
 have xb':=Qh (xb.out.lift hb)
 clear xb
 have xb:=xb'
 clear xb'
 have bx':=Qh (bx.out.lift hb)
 clear bx
 have bx:=bx'
 clear bx'
 have rc':=Qh (rc.out.lift hb)
 clear rc
 have rc:=rc'
 clear rc'
 have tk':=Qh (tk.out.lift hb)
 clear tk
 have tk:=tk'
 clear tk'
 clear HB26 hS26
 clear hb
 have hbb:Below u27.heap.size u27 (u27.alloc (.cells #[.int .i64 0,.bool (decide (m14<0)),.slice Atk (digs W m14.natAbs).length ctk,.int .i64 0,.bool (decide (m14<0)),.slice Dtk (digs W m14.natAbs).length dtk,.int .i64 0,.bool (decide (m6<0)),.slice Atl (digs W m6.natAbs).length ctl,.int .i64 0,.bool (decide (m2<0)),.slice Dtl (digs W m2.natAbs).length dtl] 69)):=Qb
 have sg:=Qh (show SIn (u27.alloc (.cells #[.int .i64 0,.bool (decide (m14<0)),.slice Atk (digs W m14.natAbs).length ctk,.int .i64 0,.bool (decide (m14<0)),.slice Dtk (digs W m14.natAbs).length dtk,.int .i64 0,.bool (decide (m6<0)),.slice Atl (digs W m6.natAbs).length ctl,.int .i64 0,.bool (decide (m2<0)),.slice Dtl (digs W m2.natAbs).length dtl] 69)) (Fr B (u27.alloc (.cells #[.int .i64 0,.bool (decide (m14<0)),.slice Atk (digs W m14.natAbs).length ctk,.int .i64 0,.bool (decide (m14<0)),.slice Dtk (digs W m14.natAbs).length dtk,.int .i64 0,.bool (decide (m6<0)),.slice Atl (digs W m6.natAbs).length ctl,.int .i64 0,.bool (decide (m2<0)),.slice Dtl (digs W m2.natAbs).length dtl] 69))) (some ⟨u27.heap.size,0,none⟩) 2 2 ([tR m14 m14 Atk Dtk ctk dtk,tR m6 m2 Atl Dtl ctl dtl]:List Rg) 4 1 from SIn.of (SetP.built (w:=u27) (B:=B) (ps:=[tR m14 m14 Atk Dtk ctk dtk,tR m6 m2 Atl Dtl ctl dtl]) hS27 (List.forall_mem_cons.2 ⟨tk.out,List.forall_mem_cons.2 ⟨tl.out,fun _ h=>by cases h⟩⟩) (by simp)) (List.forall_mem_cons.2 ⟨⟨sml_nb Nm14.out,sml_nb Nm14.out⟩,List.forall_mem_cons.2 ⟨⟨sml_nb Nm6.out,sml_nb Nm2.out⟩,fun _ h=>by cases h⟩⟩) (by omega) (by omega))
 clear tk
 clear tl
 go_wp2_with fail
 obtain ⟨u28,hu28⟩:∃ u,(u27.alloc (.cells #[.int .i64 0,.bool (decide (m14<0)),.slice Atk (digs W m14.natAbs).length ctk,.int .i64 0,.bool (decide (m14<0)),.slice Dtk (digs W m14.natAbs).length dtk,.int .i64 0,.bool (decide (m6<0)),.slice Atl (digs W m6.natAbs).length ctl,.int .i64 0,.bool (decide (m2<0)),.slice Dtl (digs W m2.natAbs).length dtl] 69))=u:=⟨_,rfl⟩
 rw [hu28] at hbb sg ⊢
 have HB28:=Qh (HB27.out.trans (hbb.mono hS27))
 have hS28:B≤u28.heap.size:=Nat.le_trans hS27 hbb.size
 have xb':=Qh (xb.out.lift hbb)
 clear xb
 have xb:=xb'
 clear xb'
 have bx':=Qh (bx.out.lift hbb)
 clear bx
 have bx:=bx'
 clear bx'
 have rc':=Qh (rc.out.lift hbb)
 clear rc
 have rc:=rc'
 clear rc'
 clear HB27 hS27
 clear hbb hu28
 have hg1:∀ q∈qrc,q.1.Nrm∧q.2.Nrm:=fun q hq=>(rc.out.gd q hq).1
 have hg2:∀ q∈([tR m14 m14 Atk Dtk ctk dtk,tR m6 m2 Atl Dtl ctl dtl]:List Rg),q.1.Nrm∧q.2.Nrm:=List.forall_mem_cons.2 ⟨⟨nb_nrm _ _ _,nb_nrm _ _ _⟩,List.forall_mem_cons.2 ⟨⟨nb_nrm _ _ _,nb_nrm _ _ _⟩,fun _ h=>by cases h⟩⟩
 (with_reducible refine (sameRanges_true (qs:=[tR m14 m14 Atk Dtk ctk dtk,tR m6 m2 Atl Dtl ctl dtl]) rc.out.set sg.out.set (fun b hb=>hb.2) hg1 hg2 (by rw [Xrc.out];simp only [List.map_cons,List.map_nil,edsR,tR,nb_ed,Em14.out,Em6.out,Em2.out])).mono ?_)
 rintro e u29 ⟨he,hb⟩
 subst he
 clear sg hg1 hg2
 clear rc
 have HB29:=Qh (HB28.out.trans (hb.mono hS28))
 have hS29:B≤u29.heap.size:=Nat.le_trans hS28 hb.size
 have xb':=Qh (xb.out.lift hb)
 clear xb
 have xb:=xb'
 clear xb'
 have bx':=Qh (bx.out.lift hb)
 clear bx
 have bx:=bx'
 clear bx'
 clear HB28 hS28
 clear hb
 go_wp2_with fail
 refine wp_region_H (by kernel_rfl) (fun z0 K0 hs0=>?_)
 refine tH0 0 K0 ?_
 refine tH0 1 K0 ?_
 refine tH0 2 K0 ?_
 refine tH0 3 K0 ?_
 refine tH0 4 K0 ?_
 refine tH0 5 K0 ?_
 refine tH0 6 K0 ?_
 refine tH0 7 K0 ?_
 refine tH0 8 K0 ?_
 refine tH0 9 K0 ?_
 refine tH0 10 K0 ?_
 refine tH0 11 K0 ?_
 refine tH0 12 K0 ?_
 refine tH0 13 K0 ?_
 refine tH0 14 K0 ?_
 refine tH0 15 K0 ?_
 refine tH0 16 K0 ?_
 refine tH0 17 K0 ?_
 refine tH0 18 K0 ?_
 refine tH0 19 K0 ?_
 refine tH0 20 K0 ?_
 refine tH0 21 K0 ?_
 refine tH0 22 K0 ?_
 refine tH0 23 K0 ?_
 refine tH0 24 K0 ?_
 refine tH0 25 K0 ?_
 refine tH0 26 K0 ?_
 refine tH0 27 K0 ?_ (y:=fun z5 hS=>by obtain ⟨q0,q1⟩:=(bx.out.below hS).cells;go_simp;rfl)
 refine oH0 28 fun K hK=>?_
 go_simp
 (with_reducible refine (F_z4.out _).mono ?_)
 rintro e z1 ⟨v,he,hr,hb⟩
 obtain ⟨Ay,cy,hv,hat⟩:=hr.nb
 subst hv
 subst he
 have K1:=Qt K0 hb
 refine hK.out _ _ K1 ?_
 have hy:=xb.out.lift K1
 have hy1:SlU z1 z1.heap.size Axb (digs W z4.natAbs).length cxb (digs W z4.natAbs):=hy.lim.sl (fun b hb=>hb.2)
 have hy2:SlU z1 z1.heap.size Ay (digs W z4.natAbs).length cy (digs W z4.natAbs):=hat.lim.sl (fun b hb=>hb.2)
 have hcm:=Cmp_gr (decide (z4<0)) (decide (z4<0)) hy1 hy2 (Nat.le_refl _) (Nat.le_refl _)
 rw [ival_digs,show cmpZ z4 z4=0 by simp [cmpZ]] at hcm
 refine oH0 29 fun K hK=>?_
 go_simp
 (with_reducible refine hcm.mono ?_)
 rintro e z2 ⟨he,hg⟩
 subst he
 have K2:=Qt K1 hg.bel
 refine hK.out _ _ K2 ?_
 refine tH0 30 K2 ?_
 refine tH0 31 K2 ?_
 refine oH0 32 fun K hK=>?_
 go_simp
 refine hK.out _ _ K2 ?_
 refine wpAnyH_end (by kernel_rfl) ?_ _
 have HBz:=HB29.out.trans (K2.mono hS29)
 go_wp2_with fail
 first
  | (go_ret;exact ⟨rfl,HBz⟩)
  | exact bodyPost_ret (v:=.bool true) (by simp [results,Tryz.results5,go_sem]) rfl ⟨rfl,HBz⟩
end
end Go.Proofs.YtpikjceodmepiaaGreatDoor
