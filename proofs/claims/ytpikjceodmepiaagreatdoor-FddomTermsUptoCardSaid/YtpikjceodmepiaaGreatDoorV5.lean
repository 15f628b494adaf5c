import Derived.Deep.DeepCutAuto
import Derived.Deep.CutBlock
import Derived.StillTailTactics
import Derived.WalkMore
import Derived.Deep.LoopGhost
import Derived.Test.YtpikjceodmepiaaGreatDoorV4
import Derived.Test.YtpikjceodmepiaaGreatDoorV0
set_option maxRecDepth 1000000
set_option maxHeartbeats 64000000
set_option linter.unusedVariables false
set_option linter.unusedSimpArgs false
namespace Go.Proofs.YtpikjceodmepiaaGreatDoor
section
open Go.RowKit Hb Hf
attribute [local go_sem ↓] Go.wp_at_zero Go.wp_at_succ
structure N1 (w:World) (B:Nat) (L:List R) (k:Nat) (A:Option Addr) (m c:Nat) (qs:List Rg) (wr:World):Prop where
 bel:Below B w wr
 le:B≤wr.heap.size
 row:RRow wr B (Fr B wr) A m c qs
 nrm:∀ q∈qs,Gd q
 oks:∀ r,r∈qs.map edsR↔r∈L.take k∧ok r
 len:m≤k
theorem N1.skip {w wr w':World} {B k m c:Nat} {L:List R} {A:Option Addr} {qs:List Rg} {r:R} (h:N1 w B L k A m c qs wr) (hr:L[k]?=some r) (hn:¬ok r) (hb:Below wr.heap.size wr w'):N1 w B L (k+1) A m c qs w':=
 ⟨h.bel.trans (hb.mono h.le),Nat.le_trans h.le hb.size,h.row.fr hb,h.nrm,fun s=>by
  rw [h.oks s,List.take_add_one,hr]
  simp only [Option.toList_some,List.mem_append,List.mem_singleton]
  constructor
  ·rintro ⟨h1,h2⟩;exact ⟨.inl h1,h2⟩
  ·rintro ⟨h1 | h1,h2⟩
   ·exact ⟨h1,h2⟩
   ·subst h1;exact absurd h2 hn,Nat.le_succ_of_le h.len⟩
theorem N1.add {w wr w':World} {B k m c c':Nat} {L:List R} {A A':Option Addr} {qs:List Rg} {q:Rg} (h:N1 w B L k A m c qs wr) (hr:L[k]?=some (edsR q)) (hn:ok (edsR q)) (hq:Gd q) (hb:Below B wr w') (hrow:RRow w' B (Fr B w') A' (m+1) c' (qs ++ [q])):N1 w B L (k+1) A' (m+1) c' (qs ++ [q]) w':=
 ⟨h.bel.trans hb,Nat.le_trans h.le hb.size,hrow,fun s hs=>by
  rcases List.mem_append.1 hs with h1 | h1
  ·exact h.nrm s h1
  ·rw [List.mem_singleton.1 h1];exact hq,fun s=>by
  rw [List.map_append,List.mem_append,h.oks s,List.take_add_one,hr]
  simp only [Option.toList_some,List.mem_append,List.mem_singleton,List.map_cons,List.map_nil]
  constructor
  ·rintro (⟨h1,h2⟩ | h1)
   ·exact ⟨.inl h1,h2⟩
   ·subst h1;exact ⟨.inr rfl,hn⟩
  ·rintro ⟨h1 | h1,h2⟩
   ·exact .inl ⟨h1,h2⟩
   ·exact .inr h1,Nat.succ_le_succ h.len⟩
def Szs (ps:List Rg):Prop:=∀ p∈ps,(p.1.i=0→p.1.n≤33554432)∧(p.2.i=0→p.2.n≤33554432)
def NormRes (w:World) (L:List R) (n:Nat) (A':Option Addr) (n' c':Nat) (qs:List Rg) (w':World):Prop:=
 RRow w' w.heap.size (Fr w.heap.size w') A' n' c' qs∧(∀ q∈qs,Gd q)∧NF (qs.map edsR)∧(∀ z,Hf.mem z (qs.map edsR)↔Hf.mem z L)∧(∀ r∈qs.map edsR,(∃ s∈L,s.1=r.1)∧∃ s∈L,s.2=r.2)∧n'≤n∧Below w.heap.size w w'
def NormPost (w:World) (L:List R) (n:Nat) (e:Ending) (w':World):Prop:=∃ A' n' c' qs,e = .returned (.slice A' n' c')∧NormRes w L n A' n' c' qs w'
theorem normal_any {w:World} {P:Nat→Prop} {A:Option Addr} {n c:Nat} {ps:List Rg} (h:SetP w P A n c ps) (hP:∀ b,P b→b<w.heap.size) (hs:Szs ps) (hn:n≤1073741824) :
  Calls Tryz.prog 73 #[.slice A n c] w (NormPost w (ps.map edsR) n):=by
 have HS:=Qh h
 have HP:=Qh hP
 have HSz:=Qh hs
 have HLn:=Qh h.row.len
 have hcap:=h.row.cap
 have hmax:=h.row.max
 unfold maxLen at hmax
 have HN0:=Qh (show N1 w w.heap.size (ps.map edsR) 0 none 0 0 [] w from ⟨Below.refl _ _,Nat.le_refl _,RRow.nil _ _ _,by simp,fun r=>by simp,Nat.le_refl _⟩)
 obtain ⟨B,hB⟩:∃ B,w.heap.size=B:=⟨_,rfl⟩
 have HB:=Qh hB
 rw [hB] at HN0
 clear h hP hs hB
 go_enter Tryz.func73,Tryz.ntmps73
 go_wp2_with fail
 go_step3
 go_wp2_with fail
 go_loopw [3,11] (fun vo vi wr=>∃ k A' m c' qs,k≤n∧vi = .int .i64 (k:Nat)∧vo = .slice A' m c'∧Hid (N1 w B (ps.map edsR) k A' m c' qs wr)) (fun _ vi _=>n - (intOf vi).toNat)
 case atStart=>exact ⟨0,none,0,0,[],Nat.zero_le _,rfl,rfl,HN0⟩
 case round=>
  obtain ⟨k,A2,m,c2,qs,hk,rfl,rfl,HI⟩:=hrel
  clear HN0
  by_cases hkn:k<n
  ·obtain ⟨p,hp⟩:∃ p,ps[k]?=some p:=⟨ps[k]'(by have:=HLn.out;omega),by simp⟩
   obtain ⟨b,o,rfl,hPb,q0,q1,q2,q3,q4,q5⟩:=HS.out.row.at_ hp
   have hbB:b<B:=by have:=HP.out b hPb;have:=HB.out;omega
   have HKid:=Qh (HS.out.kid p (List.mem_of_getElem? hp))
   have HSp:=Qh (HSz.out p (List.mem_of_getElem? hp))
   have HSk:=Qh (show szE p.1.ed≤33554432∧szE p.2.ed≤33554432 from ⟨szE_raw HKid.out.a HSp.out.1,szE_raw HKid.out.b HSp.out.2⟩)
   have HLk:=Qh (show (ps.map edsR)[k]?=some (edsR p) by simp [hp])
   have hblk:=HI.out.bel.block b hbB
   have i0:=(Qc (a:=⟨b,o+k * 6,none⟩) hblk).trans q0
   have i1:=(Qc (a:=⟨b,o+k * 6+1,none⟩) hblk).trans q1
   have i2:=(Qc (a:=⟨b,o+k * 6+2,none⟩) hblk).trans q2
   have i3:=(Qc (a:=⟨b,o+k * 6+3,none⟩) hblk).trans q3
   have i4:=(Qc (a:=⟨b,o+k * 6+4,none⟩) hblk).trans q4
   have i5:=(Qc (a:=⟨b,o+k * 6+5,none⟩) hblk).trans q5
   have HCl:=Qh (fun (z:World) (hz:Below B w z)=>And.intro
    (clean_any (w:=z) (HKid.out.a.keep (Q:=P) (fun x hx=>⟨hx,hz.block x (by have:=HP.out x hx;have:=HB.out;omega)⟩)) (fun x hx=>Ql (HP.out x hx) hz.size) (fun e=>Nat.le_trans (HSp.out.1 e) (by omega)))
    (clean_any (w:=z) (HKid.out.b.keep (Q:=P) (fun x hx=>⟨hx,hz.block x (by have:=HP.out x hx;have:=HB.out;omega)⟩)) (fun x hx=>Ql (HP.out x hx) hz.size) (fun e=>Nat.le_trans (HSp.out.2 e) (by omega))))
   obtain ⟨⟨p1i,p1g,p1A,p1n,p1c,p1l⟩,⟨p2i,p2g,p2A,p2n,p2c,p2l⟩⟩:=p
   have HX:=Qh (RBox.new wr (⟨p1i,p1g,p1A,p1n,p1c,p1l⟩,⟨p2i,p2g,p2A,p2n,p2c,p2l⟩))
   have HBx:=Qh (show Below wr.heap.size wr (wr.alloc (.cells (cells6 (⟨p1i,p1g,p1A,p1n,p1c,p1l⟩,⟨p2i,p2g,p2A,p2n,p2c,p2l⟩)).toArray 69)) from Qb)
   simp only [cells6_eq,Bd.v,Bd.vals] at HX HBx HCl i0 i1 i2 i3 i4 i5
   obtain ⟨eA,heA⟩:∃ e,Bd.ed ⟨p1i,p1g,p1A,p1n,p1c,p1l⟩=e:=⟨_,rfl⟩
   obtain ⟨eB,heB⟩:∃ e,Bd.ed ⟨p2i,p2g,p2A,p2n,p2c,p2l⟩=e:=⟨_,rfl⟩
   have hLk:=HLk.out
   unfold edsR at hLk
   dsimp only at hLk
   rw [heA,heB] at hLk
   rw [heA,heB] at HCl
   dsimp only at HSk
   rw [heA,heB] at HSk
   have HL2:=Qh hLk
   have hki:(k:Int)<(n:Int):=by omega
   have hk0:(0:Int)≤(k:Int):=by omega
   clear hp q0 q1 q2 q3 q4 q5 hblk hLk heA heB HLk HKid HSp
   go_upto_region 5 with fail
   refine wp_region_U 7 (by kernel_rfl) (fun z0 K0 hs0=>?_)
   refine tZ0 0 K0 ?_
   refine tZ0 1 K0 ?_ (y:=fun z5 hS=>by obtain ⟨q0,q1,q2,q3,q4,q5⟩:=(HX.out.below hS).cells;go_simp;rfl)
   refine tZ0 3 K0 ?_
   refine tZ0 4 K0 ?_ (y:=fun z5 hS=>by obtain ⟨q0,q1,q2,q3,q4,q5⟩:=(HX.out.below hS).cells;go_simp;rfl)
   refine uW 2 fun K hK=>?_
   go_simp
   (with_reducible refine (HCl.out _ (HI.out.bel.trans ((HBx.out.trans (K0.mono HBx.out.size)).mono HI.out.le))).1.mono ?_)
   rintro e z1 ⟨⟨ai,ag,aA,an,ac,al⟩,rfl,hat,hNa,hea,hb1⟩
   have K1:=Qt K0 hb1
   refine hK.out _ _ (fun _=>K1) ?_
   refine uW 5 fun K hK=>?_
   go_simp
   (with_reducible refine (HCl.out _ (HI.out.bel.trans ((HBx.out.trans (K1.mono HBx.out.size)).mono HI.out.le))).2.mono ?_)
   rintro e z2 ⟨⟨bi,bg,bA,bn,bc,bl⟩,rfl,hbt,hNb,heb,hb2⟩
   have K2:=Qt K1 hb2
   refine hK.out _ _ (fun _=>K2) ?_
   simp only [Bd.v,Bd.vals]
   refine tZ0 6 K2 ?_
   have HX2:=Qh (HX.out.below K2)
   obtain ⟨y0,y1,y2,y3,y4,y5⟩:=HX2.out.cells
   obtain ⟨f0,f1,f2,f3,f4,f5⟩:=HX2.out.frozens
   refine uW 7 fun K hK=>?_
   go_simp
   refine hK.out _ _ (fun h=>absurd h (by simp)) ?_
   refine wpAnyW_done (by kernel_rfl) ?_ _
   have HT:=Qh (HX2.out.set6 (⟨ai,ag,aA,an,ac,al⟩,⟨bi,bg,bA,bn,bc,bl⟩))
   have hsz0:=K0.size
   have hsz1:=hb1.size
   have hsz2:=hb2.size
   simp only [World.size_alloc] at hsz0
   have HBz:=Qh (show Below wr.heap.size wr z2 from Qt HBx.out K2)
   have HAt:=Qh (show Rg.At z2 (fun x=>wr.heap.size<x∧x<z2.heap.size) (⟨ai,ag,aA,an,ac,al⟩,⟨bi,bg,bA,bn,bc,bl⟩) from ⟨hat.keep (fun x hx=>⟨⟨by have:=hx.1;omega,by have:=hx.2;omega⟩,hb2.block x hx.2⟩),hbt.wide (fun x hx=>⟨by have:=hx.1;omega,hx.2⟩)⟩)
   have HNm:=Qh (Qa hNa hNb)
   have HGd:=Qh (Gd.mk' HAt.out hNa hNb (by rw [hea];exact HSk.out.1) (by rw [heb];exact HSk.out.2))
   have HEd:=Qh (show edsR (⟨ai,ag,aA,an,ac,al⟩,⟨bi,bg,bA,bn,bc,bl⟩)=(eA,eB) by unfold edsR;rw [hea,heb])
   clear K0 K1 K2 hb1 hb2 hat hbt hNa hNb hea heb hs0 HX HX2 HBx HCl hsz0 hsz1 hsz2 y0 y1 y2 y3 y4 y5 f0 f1 f2 f3 f4 f5 i0 i1 i2 i3 i4 i5
   generalize (((((z2.setCell ⟨wr.heap.size,0,none⟩ (.int .i64 ai)).setCell ⟨wr.heap.size,1,none⟩ (.bool ag)).setCell ⟨wr.heap.size,2,none⟩ (.slice aA an ac)).setCell ⟨wr.heap.size,3,none⟩ (.int .i64 bi)).setCell ⟨wr.heap.size,4,none⟩ (.bool bg)).setCell ⟨wr.heap.size,5,none⟩ (.slice bA bn bc)=w6 at *
   have HB6:=Qh (HBz.out.grown HT.out.2 HBz.out.size (Qg (by omega)))
   have HX6:=Qh HT.out.1
   have HA6:=Qh (HAt.out.keep (Q:=fun x=>wr.heap.size<x∧x<w6.heap.size) (fun x hx=>⟨⟨hx.1,Ql hx.2 HT.out.2.size⟩,HT.out.2.block x hx.2 (fun e=>by injection e with e;have:=hx.1;omega)⟩))
   have HCm:=Qh (fcmp_any HA6.out.a HA6.out.b (fun x hx=>hx.2) HNm.out.1.tri HNm.out.2.tri)
   have HOk:=Qh (ok_iff HNm.out.1.tri HNm.out.2.tri)
   have hta : -1≤ai∧ai≤1:=by have:=HNm.out.1.tri;unfold Bd.Tri at this;simp only at this;omega
   have htb : -1≤bi∧bi≤1:=by have:=HNm.out.2.tri;unfold Bd.Tri at this;simp only at this;omega
   obtain ⟨ta1,ta2⟩:=hta
   obtain ⟨tb1,tb2⟩:=htb
   have hHE:=HEd.out
   unfold edsR at hHE
   injection hHE with hHE1 hHE2
   dsimp only at hHE1 hHE2
   rw [hHE1,hHE2] at HOk
   simp only [Bd.v,Bd.vals] at HCm
   dsimp only at HOk
   obtain ⟨d,hd⟩:∃ d,cmpB ⟨ai,ag,aA,an,ac,al⟩ ⟨bi,bg,bA,bn,bc,bl⟩=d:=⟨_,rfl⟩
   rw [hd] at HCm HOk
   obtain ⟨y0,y1,y2,y3,y4,y5⟩:=HX6.out.cells
   clear HT HBz HAt hHE1 hHE2 hd
   have h4:0<ai∨(¬0<ai∧bi<0)∨(¬0<ai∧¬bi<0∧0<d)∨(¬0<ai∧¬bi<0∧¬0<d):=by omega
   rcases h4 with c1 | ⟨c1,c2⟩ | ⟨c1,c2,c3⟩ | ⟨c1,c2,c3⟩
   ·have HNo:=Qh (show ¬ok (eA,eB) from fun h=>(HOk.out.1 h).1 c1)
    have d1:decide (0<ai)=true:=decide_eq_true c1
    clear c1 HCm
    go_wp2_with fail
    go_roundw
    case rel=>exact ⟨k+1,A2,m,c2,qs,by omega,by go_num,rfl,Qh (HI.out.skip HL2.out HNo.out HB6.out)⟩
    case measure=>simp [intOf];omega
   ·have HNo:=Qh (show ¬ok (eA,eB) from fun h=>(HOk.out.1 h).2.1 c2)
    have d1:decide (0<ai)=false:=decide_eq_false c1
    have d2:decide (bi<0)=true:=decide_eq_true c2
    clear c1 c2 HCm
    go_wp2_with fail
    go_roundw
    case rel=>exact ⟨k+1,A2,m,_,qs,by omega,by go_num,rfl,Qh (HI.out.skip HL2.out HNo.out HB6.out)⟩
    case measure=>simp [intOf];omega
   ·have HNo:=Qh (show ¬ok (eA,eB) from fun h=>(HOk.out.1 h).2.2 c3)
    have d1:decide (0<ai)=false:=decide_eq_false c1
    have d2:decide (bi<0)=false:=decide_eq_false c2
    have d3:decide (0<d)=true:=decide_eq_true c3
    clear c1 c2 c3
    go_wp2_with (go_at_call 38;(with_reducible refine HCm.out.mono ?_);rintro e w7 ⟨rfl,hg7⟩)
    go_roundw
    case rel=>exact ⟨k+1,A2,m,_,qs,by omega,by go_num,rfl,Qh (HI.out.skip HL2.out HNo.out (Qt HB6.out hg7.bel))⟩
    case measure=>simp [intOf];omega
   ·have HYe:=Qh (HOk.out.2 ⟨c1,c2,c3⟩)
    have d1:decide (0<ai)=false:=decide_eq_false c1
    have d2:decide (bi<0)=false:=decide_eq_false c2
    have d3:decide (0<d)=false:=decide_eq_false c3
    have HMl:=Qh (show m+1≤maxRg by have:=HI.out.len;unfold maxRg;omega)
    clear c1 c2 c3
    go_wp2_with (first
     | ((go_at_call 38;(with_reducible refine HCm.out.mono ?_);rintro e w7 ⟨rfl,hg7⟩);have HB7:=Qh (HB6.out.trans (hg7.bel.mono HB6.out.size));have HX7:=Qh (HX6.out.below hg7.bel);have HA7:=Qh (HA6.out.keep (Q:=fun x=>wr.heap.size≤x∧x<w7.heap.size) (fun x hx=>⟨⟨Nat.le_of_lt hx.1,Ql hx.2 hg7.bel.size⟩,hg7.bel.block x hx.2⟩));clear y0 y1 y2 y3 y4 y5 hg7;obtain ⟨y0,y1,y2,y3,y4,y5⟩:=HX7.out.cells)
     | (at_builtin;refine wpList_app1R rfl _ _ rfl rfl rfl HI.out.row HI.out.le HB7.out (HI.out.row.apart HI.out.le (Nat.le_refl _) HA7.out) HMl.out ?_;intro A6 c6 w8 hr8 hb8 hs8;have HN8:=Qh (HI.out.add (by rw [HEd.out];exact HL2.out) (by rw [HEd.out];exact HYe.out) HGd.out hb8 hr8);clear hr8 hb8 hs8))
    go_roundw
    case rel=>exact ⟨k+1,A6,m+1,c6,_,by omega,by go_num,rfl,HN8⟩
    case measure=>simp [intOf];omega
  ·have hkn2:k=n:=by omega
   have hki:¬(k:Int)<(n:Int):=by omega
   have HTk:=Qh (show (ps.map edsR).take k=ps.map edsR from List.take_of_length_le (by rw [List.length_map];have:=HLn.out;omega))
   have HSo:=Qh (sort_any HI.out.row (fun b hb=>hb.2) (fun p hp=>(HI.out.nrm p hp).1.1.tri) HI.out.le (by have:=HI.out.len;omega))
   have HMn:=Qh (show m≤n by have:=HI.out.len;omega)
   clear hkn2
   go_wp2_with (go_at_call 102;(with_reducible refine HSo.out.mono ?_);rintro e w4 ⟨rfl,rs,hpm,hpw,hrow4,hb4⟩;have HRow:=Qh (hrow4.wide (Q:=Fr B w4) (fun b hb=>⟨hb.1,Ql hb.2 hb4.size⟩));have HB4:=Qh (HI.out.bel.trans hb4);have HRs:=Qh (Qa hpm hpw);have HZ4:=Qh hb4.size;clear hpm hpw hrow4 hb4)
   have HGs:=Qh (show ∀ q∈rs,Gd q from fun q hq=>HI.out.nrm q (HRs.out.1.mem_iff.1 hq))
   have HOs:=Qh (show ∀ r,r∈rs.map edsR↔r∈ps.map edsR∧ok r from fun r=>by rw [←HTk.out,←HI.out.oks r];exact (HRs.out.1.map edsR).mem_iff)
   have HPw:=Qh (show (rs.map edsR).Pairwise fun a b=>leE a.1 b.1 from List.pairwise_map.2 HRs.out.2)
   have HLe:=Qh (show B≤w4.heap.size from Nat.le_trans HI.out.le HZ4.out)
   have HLr:=Qh HRow.out.len
   have hcm:=HRow.out.cap
   have hcx:=hcm.2
   unfold maxLen at hcx
   have hmc:=hcm.1
   clear HSo HTk HI hki HRs HZ4 hcm
   go_step3
   go_wp2_with fail
   go_loopw [6,49] (fun vk vj wr=>∃ (j kk:Nat) (cs:List Rg),j≤m∧vj = .int .i64 (j:Nat)∧vk = .int .i64 (kk:Nat)∧kk≤j∧Hid (Below B w wr∧B≤wr.heap.size∧RRow wr B (Fr B wr) A2 m c2 cs∧(∀ q∈cs,Gd q)∧M2 rs cs j kk)) (fun _ vj _=>m - (intOf vj).toNat)
   case atStart=>exact ⟨0,0,rs,Nat.zero_le _,rfl,rfl,Nat.le_refl _,Qh ⟨HB4.out,HLe.out,HRow.out,HGs.out,M2.start rs⟩⟩
   case round=>
    obtain ⟨j,kk,cs,hj,rfl,rfl,hkj,HI⟩:=hrel
    clear HB4 HRow HLe HGs
    by_cases hjm:j<m
    ·obtain ⟨g,rfl,hBg,hgw,hob⟩:=HI.out.2.2.1.some_ (by omega)
     obtain ⟨r,hr⟩:∃ r,rs[j]?=some r:=⟨rs[j]'(by have:=HLr.out;omega),by simp⟩
     have hcr:=HI.out.2.2.2.2.at_ hr
     obtain ⟨i0,i1,i2,i3,i4,i5⟩:=HI.out.2.2.1.cells_at hcr
     have HGr:=Qh (HI.out.2.2.2.1 r (List.mem_of_getElem? hcr))
     have HKr:=Qh (HI.out.2.2.1.kid r (List.mem_of_getElem? hcr))
     have HR:=Qh (Qa hr hcr)
     obtain ⟨⟨ai,ag,aA,an,ac,al⟩,⟨bi,bg,bA,bn,bc,bl⟩⟩:=r
     have HX:=Qh (RBox.new wr (⟨ai,ag,aA,an,ac,al⟩,⟨bi,bg,bA,bn,bc,bl⟩))
     have HBx:=Qh (show Below wr.heap.size wr (wr.alloc (.cells (cells6 (⟨ai,ag,aA,an,ac,al⟩,⟨bi,bg,bA,bn,bc,bl⟩)).toArray 69)) from Qb)
     simp only [cells6_eq] at HX HBx
     simp only at i0 i1 i2 i3 i4 i5
     have hji:(j:Int)<(m:Int):=by omega
     have hj0:(0:Int)≤(j:Int):=by omega
     have HGw:=Qh (Qa hBg hgw)
     clear hr hcr hBg hob
     rcases Nat.eq_zero_or_pos kk with h0 | h0
     ·have dk:decide (0<(kk:Int))=false:=decide_eq_false (by omega)
      have dk2:decide (0<kk)=false:=decide_eq_false (by omega)
      have HK0:=Qh h0
      clear h0
      go_upto_region 14 with fail
      refine wp_region_H (by kernel_rfl) (fun z0 K0 hs0=>?_)
      refine tH0 0 K0 ?_
      refine tH0 1 K0 ?_
      refine tH0 2 K0 ?_
      refine tI0 3 K0 ?_
      refine tI0 4 K0 ?_
      refine tI0 5 K0 ?_
      refine tI0 6 K0 ?_
      refine tI0 7 K0 ?_
      refine tI0 8 K0 ?_
      refine tI0 9 K0 ?_
      refine tI0 10 K0 ?_
      refine tI0 11 K0 ?_
      refine tI0 12 K0 ?_
      refine tI0 13 K0 ?_
      refine oH0 14 fun K hK=>?_
      go_simp
      refine hK.out _ _ K0 ?_
      refine wpAnyH_end (by kernel_rfl) ?_ _
      have HBZ:=Qh K0
      have HBW:=Qh (Qt HBx.out K0)
      clear K0 hs0 dk dk2
      have HX7:=Qh (HX.out.below (HBZ.out))
      have HRw:=Qh (HI.out.2.2.1.fr HBW.out)
      have hkk:kk<m:=by omega
      obtain ⟨t,ht⟩:∃ t,cs[kk]?=some t:=⟨cs[kk]'(by have:=HRw.out.len;omega),by simp⟩
      obtain ⟨v0,v1,v2,v3,v4,v5⟩:=HRw.out.cells_at ht
      have u0:=HRw.out.frozen (kk * 6)
      have u1:=HRw.out.frozen (kk * 6+1)
      have u2:=HRw.out.frozen (kk * 6+2)
      have u3:=HRw.out.frozen (kk * 6+3)
      have u4:=HRw.out.frozen (kk * 6+4)
      have u5:=HRw.out.frozen (kk * 6+5)
      have HKz:=Qh (HKr.out.keep (Q:=fun b=>Fr B z0 b∧(Value.slice (some ⟨g,0,none⟩) m c2).ownBlock≠some b) (fun b hb=>⟨⟨⟨hb.1.1,Ql hb.1.2 HBW.out.size⟩,hb.2⟩,HBW.out.block b hb.1.2⟩))
      have HP6:=Qh (HRw.out.put6 (fun b hb=>hb.2) ht HKz.out)
      have HM2:=Qh (HI.out.2.2.2.2.push HR.out.1 (fun p s e=>absurd e (by have:=HK0.out;omega)))
      have HG2:=Qh (show ∀ q∈cs.set kk (⟨ai,ag,aA,an,ac,al⟩,⟨bi,bg,bA,bn,bc,bl⟩),Gd q from fun q hq=>by
       rcases List.mem_or_eq_of_mem_set hq with h1 | h1
       ·exact HI.out.2.2.2.1 q h1
       ·rw [h1];exact HGr.out)
      obtain ⟨y0,y1,y2,y3,y4,y5⟩:=HX7.out.cells
      have hk0:(0:Int)≤(kk:Int):=by omega
      have hkm:(kk:Int)<(m:Int):=by omega
      simp only at y0 y1 y2 y3 y4 y5 HP6
      clear ht
      go_wp2_with fail
      go_roundw
      case rel=>
       have hz:=HBW.out.size
       refine ⟨j+1,kk+1,_,by omega,by go_num,by go_num,by omega,Qh ⟨(HI.out.1.trans (HBW.out.mono HI.out.2.1)).grown HP6.out.2 (Nat.le_trans HI.out.2.1 hz) (fun j e=>by injection e with e;have:=HGw.out.1;omega),Nat.le_trans (Nat.le_trans HI.out.2.1 hz) HP6.out.2.size,HP6.out.1.wide (fun b hb=>⟨hb.1,Ql hb.2 HP6.out.2.size⟩),HG2.out,HM2.out⟩⟩
      case measure=>simp [intOf];omega
     ·have dk:decide (0<(kk:Int))=true:=decide_eq_true (by omega)
      have dk2:decide (0<kk)=true:=decide_eq_true (by omega)
      obtain ⟨p,hp⟩:∃ p,kk=p+1:=⟨kk - 1,by omega⟩
      have hkp:(kk:Int) - 1=(p:Int):=by omega
      obtain ⟨s,hcs⟩:∃ s,cs[p]?=some s:=⟨cs[p]'(by have:=HI.out.2.2.1.len;omega),by simp⟩
      have HCs:=Qh hcs
      have HGs:=Qh (HI.out.2.2.2.1 s (List.mem_of_getElem? hcs))
      have HKs:=Qh (HI.out.2.2.1.kid s (List.mem_of_getElem? hcs))
      have HKP:=Qh hp
      have hp0:(0:Int)≤(p:Int):=by omega
      have hpm:(p:Int)<(m:Int):=by omega
      have hp9:(p:Int)≤1073741824:=by have:=HMn.out;omega
      have hwp:IntKind.i64.wrap (p:Int)=(p:Int):=IntWalk.i64_in _ (by omega)
      obtain ⟨⟨ci,cg,cA,cn,cc,cl⟩,⟨di,dg,dA,dn,dc,dl⟩⟩:=s
      have HSt:=Qh (fun z (hz:Below wr.heap.size wr z)=>step_any (w:=z) 1 (.inl rfl) (HKs.out.b.keep (Q:=Fr B wr) (fun b hb=>⟨hb.1,hz.block b hb.1.2⟩)) (fun x hx=>Ql hx.2 hz.size) HGs.out.1.2.tri (fun _=>HGs.out.1.2) HGs.out.2.2)
      have HCa:=Qh (fun z (hz:Below wr.heap.size wr z) (d:Bd) (hd:d.At z (fun x=>x<z.heap.size)) (td:d.Tri)=>fcmp_any (w:=z) (HKr.out.a.keep (Q:=fun x=>x<z.heap.size) (fun b hb=>⟨Ql hb.1.2 hz.size,hz.block b hb.1.2⟩)) hd (fun x hx=>hx) HGr.out.1.1.tri td)
      have HCb:=Qh (fun z (hz:Below wr.heap.size wr z)=>fcmp_any (w:=z) (HKr.out.b.keep (Q:=fun x=>x<z.heap.size) (fun b hb=>⟨Ql hb.1.2 hz.size,hz.block b hb.1.2⟩)) (HKs.out.b.keep (Q:=fun x=>x<z.heap.size) (fun b hb=>⟨Ql hb.1.2 hz.size,hz.block b hb.1.2⟩)) (fun x hx=>hx) HGr.out.1.2.tri HGs.out.1.2.tri)
      have HL2:=Qh (cmpB_ge HGr.out.1.2.tri HGs.out.1.2.tri)
      obtain ⟨v2,hv2⟩:∃ v,cmpB ⟨bi,bg,bA,bn,bc,bl⟩ ⟨di,dg,dA,dn,dc,dl⟩=v:=⟨_,rfl⟩
      simp only [Bd.v,Bd.vals] at HSt HCa HCb
      rw [hv2] at HCb HL2
      clear hcs hp h0 hv2
      go_upto_region 14 with fail
      refine wp_region_H (by kernel_rfl) (fun z0 K0 hs0=>?_)
      refine tH0 0 K0 ?_
      refine tH0 1 K0 ?_
      refine tH0 2 K0 ?_
      refine tH0 3 K0 ?_
      refine tH0 4 K0 ?_ (y:=fun z5 hS=>by obtain ⟨q0,q1,q2,q3,q4,q5⟩:=(HX.out.below hS).cells;go_simp;rfl)
      refine tH0 5 K0 ?_
      refine tH0 6 K0 ?_
      refine tH0 7 K0 ?_
      refine tH0 8 K0 ?_
      refine tH0 9 K0 ?_
      refine tH0 10 K0 ?_ (y:=fun z5 hS=>by obtain ⟨q0,q1,q2,q3,q4,q5⟩:=(HI.out.2.2.1.fr (Qt HBx.out hS)).cells_at HCs.out;go_simp;rfl)
      refine oH0 11 fun K hK=>?_
      go_simp
      (with_reducible refine (HSt.out _ (HBx.out.trans (K0.mono HBx.out.size))).mono ?_)
      rintro e z1 ⟨⟨ei,eg,eA,en,ec,el⟩,rfl,het,hNe,hee,hb1⟩
      have K1:=Qt K0 hb1
      refine hK.out _ _ K1 ?_
      simp only [Bd.v,Bd.vals]
      refine oH0 12 fun K hK=>?_
      go_simp
      (with_reducible refine (HCa.out _ (HBx.out.trans (K1.mono HBx.out.size)) ⟨ei,eg,eA,en,ec,el⟩ (het.wide (fun x hx=>by
       rcases hx with hx | hx
       ·exact Ql hx.2 (Qt HBx.out K1).size
       ·exact hx.2)) hNe.tri).mono ?_)
      rintro e z2 ⟨rfl,hg2⟩
      have K2:=Qt K1 hg2.bel
      refine hK.out _ _ K2 ?_
      have HL1:=Qh (cmpB_ge HGr.out.1.1.tri hNe.tri)
      rw [hee,←succE_sh] at HL1
      obtain ⟨v1,hv1⟩:∃ v,cmpB ⟨ai,ag,aA,an,ac,al⟩ ⟨ei,eg,eA,en,ec,el⟩=v:=⟨_,rfl⟩
      rw [hv1] at HL1
      rw [hv1]
      clear hv1
      refine tH0 13 K2 ?_
      refine oH0 14 fun K hK=>?_
      go_simp
      refine hK.out _ _ K2 ?_
      refine wpAnyH_end (by kernel_rfl) ?_ _
      have HBZ:=Qh K2
      have HBW:=Qh (Qt HBx.out K2)
      clear K0 K1 K2 hs0 dk dk2 het hNe hee hb1 hg2 HSt HCa i0 i1 i2 i3 i4 i5
      by_cases hle:v1≤0
      ·have dv:decide (v1≤0)=true:=decide_eq_true hle
       have HLE:=Qh (HL1.out.1 hle)
       have HX7:=Qh (HX.out.below HBZ.out)
       have HRw:=Qh (HI.out.2.2.1.fr HBW.out)
       go_upto_region 15 with fail
       refine wp_region_H (by kernel_rfl) (fun z0 K0 hs0=>?_)
       refine tH0 0 K0 ?_
       refine tH0 1 K0 ?_ (y:=fun z5 hS=>by obtain ⟨q0,q1,q2,q3,q4,q5⟩:=(HX7.out.below hS).cells;go_simp;rfl)
       refine tH0 2 K0 ?_
       refine tH0 3 K0 ?_
       refine tH0 4 K0 ?_
       refine tH0 5 K0 ?_
       refine tH0 6 K0 ?_
       refine tH0 7 K0 ?_ (y:=fun z5 hS=>by obtain ⟨q0,q1,q2,q3,q4,q5⟩:=(HRw.out.fr hS).cells_at HCs.out;go_simp;rfl)
       refine oH0 8 fun K hK=>?_
       go_simp
       (with_reducible refine (HCb.out _ (HBW.out.trans (K0.mono HBW.out.size))).mono ?_)
       rintro e z3 ⟨rfl,hg3⟩
       have K3:=Qt K0 hg3.bel
       refine hK.out _ _ K3 ?_
       refine oH0 9 fun K hK=>?_
       go_simp
       refine hK.out _ _ K3 ?_
       refine wpAnyH_end (by kernel_rfl) ?_ _
       have HB3:=Qh (Qt HBW.out K3)
       have HX8:=Qh (HX7.out.below K3)
       have HR3:=Qh (HRw.out.fr K3)
       clear K0 K3 hs0 hg3 HX7 HRw
       by_cases hgt:0<v2
       ·have dw:decide (0<v2)=true:=decide_eq_true hgt
        have HM2:=Qh ((HKP.out ▸ HI.out.2.2.2.2:M2 rs cs j (p+1)).wide HCs.out HR.out.1 HLE.out (fun h=>absurd (HL2.out.2 h) (by omega)))
        have HGn:=Qh (show Gd (⟨ci,cg,cA,cn,cc,cl⟩,⟨bi,bg,bA,bn,bc,bl⟩) from ⟨⟨HGs.out.1.1,HGr.out.1.2⟩,HGs.out.2.1,HGr.out.2.2⟩)
        have HG2:=Qh (show ∀ q∈cs.set p (⟨ci,cg,cA,cn,cc,cl⟩,⟨bi,bg,bA,bn,bc,bl⟩),Gd q from fun q hq=>by
         rcases List.mem_or_eq_of_mem_set hq with h1 | h1
         ·exact HI.out.2.2.2.1 q h1
         ·rw [h1];exact HGn.out)
        have HKz:=Qh (HKr.out.b.keep (Q:=fun b=>Fr B z3 b∧(Value.slice (some ⟨g,0,none⟩) m c2).ownBlock≠some b) (fun b hb=>⟨⟨⟨hb.1.1,Ql hb.1.2 HB3.out.size⟩,hb.2⟩,HB3.out.block b hb.1.2⟩))
        have HP3:=Qh (HR3.out.put3 (fun b hb=>hb.2) HCs.out HKz.out)
        obtain ⟨y0,y1,y2,y3,y4,y5⟩:=HX8.out.cells
        obtain ⟨w0,w1,w2,w3,w4',w5⟩:=HR3.out.cells_at HCs.out
        have u3:=HR3.out.frozen (p * 6+3)
        have u4:=HR3.out.frozen (p * 6+4)
        have u5:=HR3.out.frozen (p * 6+5)
        simp only at y0 y1 y2 y3 y4 y5 HP3
        go_wp2_with fail
        go_roundw
        case rel=>
         have hz:=HB3.out.size
         refine ⟨j+1,kk,_,by omega,by go_num,rfl,by omega,Qh ⟨(HI.out.1.trans (HB3.out.mono HI.out.2.1)).grown HP3.out.2 (Nat.le_trans HI.out.2.1 hz) (fun j e=>by injection e with e;have:=HGw.out.1;omega),Nat.le_trans (Nat.le_trans HI.out.2.1 hz) HP3.out.2.size,HP3.out.1.wide (fun b hb=>⟨hb.1,Ql hb.2 HP3.out.2.size⟩),HG2.out,by rw [HKP.out];exact HM2.out⟩⟩
        case measure=>simp [intOf];omega
       ·have dw:decide (0<v2)=false:=decide_eq_false hgt
        have HM2:=Qh ((HKP.out ▸ HI.out.2.2.2.2:M2 rs cs j (p+1)).keep HCs.out HR.out.1 HLE.out (HL2.out.1 (by omega)))
        go_wp2_with fail
        go_roundw
        case rel=>
         have hz:=HB3.out.size
         refine ⟨j+1,kk,cs,by omega,by go_num,rfl,by omega,Qh ⟨HI.out.1.trans (HB3.out.mono HI.out.2.1),Nat.le_trans HI.out.2.1 hz,HR3.out,HI.out.2.2.2.1,by rw [HKP.out];exact HM2.out⟩⟩
        case measure=>simp [intOf];omega
      ·have dv:decide (v1≤0)=false:=decide_eq_false hle
       have HNle:=Qh (show ¬leE (Bd.ed ⟨ai,ag,aA,an,ac,al⟩) (succE (Bd.ed ⟨di,dg,dA,dn,dc,dl⟩)) from fun h=>hle (HL1.out.2 h))
       have HX7:=Qh (HX.out.below (HBZ.out))
       have HRw:=Qh (HI.out.2.2.1.fr HBW.out)
       have hkk:kk<m:=by omega
       obtain ⟨t,ht⟩:∃ t,cs[kk]?=some t:=⟨cs[kk]'(by have:=HRw.out.len;omega),by simp⟩
       obtain ⟨v0,v1,v2,v3,v4,v5⟩:=HRw.out.cells_at ht
       have u0:=HRw.out.frozen (kk * 6)
       have u1:=HRw.out.frozen (kk * 6+1)
       have u2:=HRw.out.frozen (kk * 6+2)
       have u3:=HRw.out.frozen (kk * 6+3)
       have u4:=HRw.out.frozen (kk * 6+4)
       have u5:=HRw.out.frozen (kk * 6+5)
       have HKz:=Qh (HKr.out.keep (Q:=fun b=>Fr B z2 b∧(Value.slice (some ⟨g,0,none⟩) m c2).ownBlock≠some b) (fun b hb=>⟨⟨⟨hb.1.1,Ql hb.1.2 HBW.out.size⟩,hb.2⟩,HBW.out.block b hb.1.2⟩))
       have HP6:=Qh (HRw.out.put6 (fun b hb=>hb.2) ht HKz.out)
       have HM2:=Qh (HI.out.2.2.2.2.push HR.out.1 (fun p' s' e hs'=>by have e2:p'=p:=(by have:=HKP.out;omega);subst e2;rw [HCs.out] at hs';injection hs' with hs';rw [←hs'];exact HNle.out))
       have HG2:=Qh (show ∀ q∈cs.set kk (⟨ai,ag,aA,an,ac,al⟩,⟨bi,bg,bA,bn,bc,bl⟩),Gd q from fun q hq=>by
        rcases List.mem_or_eq_of_mem_set hq with h1 | h1
        ·exact HI.out.2.2.2.1 q h1
        ·rw [h1];exact HGr.out)
       obtain ⟨y0,y1,y2,y3,y4,y5⟩:=HX7.out.cells
       have hk0:(0:Int)≤(kk:Int):=by omega
       have hkm:(kk:Int)<(m:Int):=by omega
       simp only at y0 y1 y2 y3 y4 y5 HP6
       clear ht
       go_wp2_with fail
       go_roundw
       case rel=>
        have hz:=HBW.out.size
        refine ⟨j+1,kk+1,_,by omega,by go_num,by go_num,by omega,Qh ⟨(HI.out.1.trans (HBW.out.mono HI.out.2.1)).grown HP6.out.2 (Nat.le_trans HI.out.2.1 hz) (fun j e=>by injection e with e;have:=HGw.out.1;omega),Nat.le_trans (Nat.le_trans HI.out.2.1 hz) HP6.out.2.size,HP6.out.1.wide (fun b hb=>⟨hb.1,Ql hb.2 HP6.out.2.size⟩),HG2.out,HM2.out⟩⟩
       case measure=>simp [intOf];omega
    ·have hjm2:j=m:=by omega
     have hji:¬(j:Int)<(m:Int):=by omega
     have HM:=Qh HI.out.2.2.2.2
     have HT:=Qh (HI.out.2.2.1.take (k:=kk) (by omega))
     have HD:=Qh (HM.out.done (by rw [HLr.out];exact hjm2))
     have HN:=Qh (norm_of HOs.out HPw.out)
     have hk0:(0:Int)≤(kk:Int):=by omega
     have hkm:(kk:Int)≤(m:Int):=by omega
     have hkc:(kk:Int)≤(c2:Int):=by omega
     have hkn:kk≤n:=by have:=HMn.out;omega
     have HGt:=Qh (show ∀ q∈cs.take kk,Gd q from fun q hq=>HI.out.2.2.2.1 q (List.mem_of_mem_take hq))
     have HBw:=Qh HI.out.1
     clear hjm2
     go_wp2_with fail
     go_ret
     have hB':=HB.out
     subst hB'
     exact ⟨_,_,_,_,rfl,HT.out,HGt.out,by rw [HD.out];exact HN.out.1,by rw [HD.out];exact HN.out.2.1,by rw [HD.out];exact HN.out.2.2,hkn,HBw.out⟩
def lngB (b:Bd):Bool:=decide (b.i=0) && decide (4096<blen (nv W b.l))
def lngR (p:Rg):Bool:=lngB p.1 || lngB p.2
def longP (ps:List Rg):Bool:=ps.any lngR
def fineC (long ends:Bool) (n:Nat):Int:=if long then 10 else if !ends && decide (1000<n) then 90 else 0
theorem longP_take {ps:List Rg} {k:Nat} {p:Rg} (hk:ps[k]?=some p) (h:longP (ps.take k)=false) (hp:lngR p=false):longP (ps.take (k+1))=false:=by
 rw [List.take_add_one,hk]
 simp [longP] at h ⊢
 exact ⟨h,hp⟩
theorem longP_some {ps:List Rg} {k:Nat} {p:Rg} (hk:ps[k]?=some p) (hp:lngR p=true):longP ps=true:=List.any_eq_true.2 ⟨p,List.mem_of_getElem? hk,hp⟩
theorem fine_any {w:World} {P:Nat→Prop} {A:Option Addr} {n c:Nat} {ps:List Rg} (ends:Bool) (h:SetP w P A n c ps) (hP:∀ b,P b→b<w.heap.size) (hs:Szs ps) (hn:n≤1073741824) :
  Calls Tryz.prog 72 #[.slice A n c,.bool ends] w (fun e w'=>e = .returned (.int .i64 (fineC (longP ps) ends n))∧Below w.heap.size w w'):=by
 have HS:=Qh h
 have HP:=Qh hP
 have HSz:=Qh hs
 have HLn:=Qh h.row.len
 have hcap:=h.row.cap
 have hmax:=h.row.max
 unfold maxLen at hmax
 obtain ⟨B,hB⟩:∃ B,w.heap.size=B:=⟨_,rfl⟩
 have HB:=Qh hB
 rw [hB]
 have HB0:=Qh (Below.refl B w)
 have HE:longP ps=true→fineC (longP ps) ends n=10:=fun h=>by rw [h];rfl
 have HN:longP ps=false→ends=true→fineC (longP ps) ends n=0:=fun h h2=>by rw [h,h2];rfl
 have HN2:longP ps=false→ends=false→1000<n→fineC (longP ps) ends n=90:=fun h h2 h3=>by rw [h,h2];simp [fineC,h3]
 have HN3:longP ps=false→ends=false→¬1000<n→fineC (longP ps) ends n=0:=fun h h2 h3=>by rw [h,h2];simp [fineC,h3]
 generalize fineC (longP ps) ends n=code at *
 have HC:=Qh (Qa HE (Qa HN (Qa HN2 HN3)))
 clear h hP hs hB HE HN HN2 HN3
 go_enter Tryz.func72,Tryz.ntmps72
 go_wp2_with fail
 go_loopw [9] (fun vi wr=>∃ k,k≤n∧vi = .int .i64 (k:Nat)∧Hid (Below B w wr∧longP (ps.take k)=false)) (fun vi _=>n - (intOf vi).toNat)
 case atStart=>exact ⟨0,Nat.zero_le _,rfl,Qh ⟨HB0.out,rfl⟩⟩
 case round=>
  obtain ⟨k,hk,rfl,HI⟩:=hrel
  clear HB0
  by_cases hkn:k<n
  ·obtain ⟨p,hp⟩:∃ p,ps[k]?=some p:=⟨ps[k]'(by have:=HLn.out;omega),by simp⟩
   obtain ⟨b,o,rfl,hPb,q0,q1,q2,q3,q4,q5⟩:=HS.out.row.at_ hp
   have hbB:b<B:=by have:=HP.out b hPb;have:=HB.out;omega
   have HKid:=Qh (HS.out.kid p (List.mem_of_getElem? hp))
   have HSp:=Qh (HSz.out p (List.mem_of_getElem? hp))
   have HPk:=Qh hp
   have hblk:=HI.out.1.block b hbB
   have i0:=(Qc (a:=⟨b,o+k * 6,none⟩) hblk).trans q0
   have i1:=(Qc (a:=⟨b,o+k * 6+1,none⟩) hblk).trans q1
   have i2:=(Qc (a:=⟨b,o+k * 6+2,none⟩) hblk).trans q2
   have i3:=(Qc (a:=⟨b,o+k * 6+3,none⟩) hblk).trans q3
   have i4:=(Qc (a:=⟨b,o+k * 6+4,none⟩) hblk).trans q4
   have i5:=(Qc (a:=⟨b,o+k * 6+5,none⟩) hblk).trans q5
   have HB1:=Qh (fun (h0:p.1.i=0) (z:World) (hz:Below B w z)=>bits_any p.1.g ((HKid.out.a.lim.sl HP.out).below (C:=w.heap.size) (by rw [HB.out];exact hz) (Nat.le_refl _)) (Nat.le_trans (HSp.out.1 h0) (by omega)) (by rw [HB.out];exact Nat.le_trans (Nat.le_of_eq HB.out.symm) hz.size))
   have HB2:=Qh (fun (h0:p.2.i=0) (z:World) (hz:Below B w z)=>bits_any p.2.g ((HKid.out.b.lim.sl HP.out).below (C:=w.heap.size) (by rw [HB.out];exact hz) (Nat.le_refl _)) (Nat.le_trans (HSp.out.2 h0) (by omega)) (by rw [HB.out];exact Nat.le_trans (Nat.le_of_eq HB.out.symm) hz.size))
   have r1:=HKid.out.a.r1
   have r2:=HKid.out.a.r2
   have r3:=HKid.out.b.r1
   have r4:=HKid.out.b.r2
   have HLg:=Qh (show lngR p=((decide (p.1.i=0) && decide (4096<blen (nv W p.1.l))) || (decide (p.2.i=0) && decide (4096<blen (nv W p.2.l)))) from rfl)
   obtain ⟨⟨p1i,p1g,p1A,p1n,p1c,p1l⟩,⟨p2i,p2g,p2A,p2n,p2c,p2l⟩⟩:=p
   have hX:=RBox.new wr (⟨p1i,p1g,p1A,p1n,p1c,p1l⟩,⟨p2i,p2g,p2A,p2n,p2c,p2l⟩)
   have HBx:=Qh (show Below B w (wr.alloc (.cells (cells6 (⟨p1i,p1g,p1A,p1n,p1c,p1l⟩,⟨p2i,p2g,p2A,p2n,p2c,p2l⟩)).toArray 69)) from HI.out.1.alloc (Nat.le_trans (Nat.le_of_eq HB.out.symm) HI.out.1.size) _)
   have HX:=Qh hX
   simp only at HB1 HB2 HLg r1 r2 r3 r4
   simp only [cells6_eq] at HX HBx i0 i1 i2 i3 i4 i5
   generalize blen (nv W p1l)=x at *
   generalize blen (nv W p2l)=y at *
   obtain ⟨y0,y1,y2,y3,y4,y5⟩:=HX.out.cells
   have hki:(k:Int)<(n:Int):=by omega
   have hk0:(0:Int)≤(k:Int):=by omega
   simp only at y0 y1 y2 y3 y4 y5
   clear hp q0 q1 q2 q3 q4 q5 hblk hX HKid HSp
   have hxx:x≤4096∨4096<x:=by omega
   have hyy:y≤4096∨4096<y:=by omega
   have h1:¬p1i=0∨(p1i=0∧x≤4096)∨(p1i=0∧4096<x):=by omega
   have h2:¬p2i=0∨(p2i=0∧y≤4096)∨(p2i=0∧4096<y):=by omega
   clear hxx hyy
   rcases h1 with c1 | ⟨rfl,c1⟩ | ⟨rfl,c1⟩
   ·have d1:(p1i==0)=false:=beq_eq_false_iff_ne.2 c1
    have HZ1:=Qh HBx.out
    have HX6:=Qh HX.out
    rcases h2 with c2 | ⟨rfl,c2⟩ | ⟨rfl,c2⟩
    ·have d3:(p2i==0)=false:=beq_eq_false_iff_ne.2 c2
     go_wp2_with fail
     go_roundw
     case rel=>exact ⟨k+1,by omega,by go_num,Qh ⟨HZ1.out,longP_take HPk.out HI.out.2 (by rw [HLg.out];simp [c1,c2])⟩⟩
     case measure=>simp [intOf];omega
    ·have d4:decide (4096<(y:Int))=false:=decide_eq_false (by omega)
     go_wp2_with (go_at_call 67;(with_reducible refine (HB2.out (by trivial) _ HZ1.out).mono ?_);rintro e w8 ⟨rfl,hb8⟩;have HZ2:=Qh (HZ1.out.trans (hb8.mono (Nat.le_trans (Nat.le_of_eq HB.out.symm) HZ1.out.size)));have HX8:=Qh (HX6.out.below hb8);clear y0 y1 y2 y3 y4 y5;obtain ⟨y0,y1,y2,y3,y4,y5⟩:=HX8.out.cells;clear hb8)
     go_roundw
     case rel=>exact ⟨k+1,by omega,by go_num,Qh ⟨HZ2.out,longP_take HPk.out HI.out.2 (by rw [HLg.out];simp [c1,c2])⟩⟩
     case measure=>simp [intOf];omega
    ·have d4:decide (4096<(y:Int))=true:=decide_eq_true (by omega)
     go_wp2_with (go_at_call 67;(with_reducible refine (HB2.out (by trivial) _ HZ1.out).mono ?_);rintro e w8 ⟨rfl,hb8⟩;have HZ2:=Qh (HZ1.out.trans (hb8.mono (Nat.le_trans (Nat.le_of_eq HB.out.symm) HZ1.out.size)));have HX8:=Qh (HX6.out.below hb8);clear y0 y1 y2 y3 y4 y5;obtain ⟨y0,y1,y2,y3,y4,y5⟩:=HX8.out.cells;clear hb8)
     go_ret
     exact ⟨ret_int (HC.out.1 (longP_some HPk.out (by rw [HLg.out];simp [c2]))).symm,HZ2.out⟩
   ·have d2:decide (4096<(x:Int))=false:=decide_eq_false (by omega)
    have HZ1:=Qh HBx.out
    have HX6:=Qh HX.out
    rcases h2 with c2 | ⟨rfl,c2⟩ | ⟨rfl,c2⟩
    ·have d3:(p2i==0)=false:=beq_eq_false_iff_ne.2 c2
     go_wp2_with (go_at_call 67;(with_reducible refine (HB1.out (by trivial) _ HZ1.out).mono ?_);rintro e w7 ⟨rfl,hb7⟩;have HZ2:=Qh (HZ1.out.trans (hb7.mono (Nat.le_trans (Nat.le_of_eq HB.out.symm) HZ1.out.size)));have HX7:=Qh (HX6.out.below hb7);clear y0 y1 y2 y3 y4 y5;obtain ⟨y0,y1,y2,y3,y4,y5⟩:=HX7.out.cells;clear hb7)
     go_roundw
     case rel=>exact ⟨k+1,by omega,by go_num,Qh ⟨HZ2.out,longP_take HPk.out HI.out.2 (by rw [HLg.out];simp [c1,c2])⟩⟩
     case measure=>simp [intOf];omega
    ·have d4:decide (4096<(y:Int))=false:=decide_eq_false (by omega)
     go_wp2_with (first | (go_at_call 67;(with_reducible refine (HB1.out (by trivial) _ HZ1.out).mono ?_);rintro e w7 ⟨rfl,hb7⟩;have HZ2:=Qh (HZ1.out.trans (hb7.mono (Nat.le_trans (Nat.le_of_eq HB.out.symm) HZ1.out.size)));have HX7:=Qh (HX6.out.below hb7);clear y0 y1 y2 y3 y4 y5;obtain ⟨y0,y1,y2,y3,y4,y5⟩:=HX7.out.cells;clear hb7) | (go_at_call 67;(with_reducible refine (HB2.out (by trivial) _ HZ2.out).mono ?_);rintro e w8 ⟨rfl,hb8⟩;have HZ3:=Qh (HZ2.out.trans (hb8.mono (Nat.le_trans (Nat.le_of_eq HB.out.symm) HZ2.out.size)));have HX8:=Qh (HX7.out.below hb8);clear y0 y1 y2 y3 y4 y5;obtain ⟨y0,y1,y2,y3,y4,y5⟩:=HX8.out.cells;clear hb8))
     go_roundw
     case rel=>exact ⟨k+1,by omega,by go_num,Qh ⟨HZ3.out,longP_take HPk.out HI.out.2 (by rw [HLg.out];simp [c1,c2])⟩⟩
     case measure=>simp [intOf];omega
    ·have d4:decide (4096<(y:Int))=true:=decide_eq_true (by omega)
     go_wp2_with (first | (go_at_call 67;(with_reducible refine (HB1.out (by trivial) _ HZ1.out).mono ?_);rintro e w7 ⟨rfl,hb7⟩;have HZ2:=Qh (HZ1.out.trans (hb7.mono (Nat.le_trans (Nat.le_of_eq HB.out.symm) HZ1.out.size)));have HX7:=Qh (HX6.out.below hb7);clear y0 y1 y2 y3 y4 y5;obtain ⟨y0,y1,y2,y3,y4,y5⟩:=HX7.out.cells;clear hb7) | (go_at_call 67;(with_reducible refine (HB2.out (by trivial) _ HZ2.out).mono ?_);rintro e w8 ⟨rfl,hb8⟩;have HZ3:=Qh (HZ2.out.trans (hb8.mono (Nat.le_trans (Nat.le_of_eq HB.out.symm) HZ2.out.size)));have HX8:=Qh (HX7.out.below hb8);clear y0 y1 y2 y3 y4 y5;obtain ⟨y0,y1,y2,y3,y4,y5⟩:=HX8.out.cells;clear hb8))
     go_ret
     exact ⟨ret_int (HC.out.1 (longP_some HPk.out (by rw [HLg.out];simp [c2]))).symm,HZ3.out⟩
   ·have d2:decide (4096<(x:Int))=true:=decide_eq_true (by omega)
    have HZ1:=Qh HBx.out
    have HX6:=Qh HX.out
    clear h2
    go_wp2_with (go_at_call 67;(with_reducible refine (HB1.out (by trivial) _ HZ1.out).mono ?_);rintro e w7 ⟨rfl,hb7⟩;have HZ2:=Qh (HZ1.out.trans (hb7.mono (Nat.le_trans (Nat.le_of_eq HB.out.symm) HZ1.out.size)));have HX7:=Qh (HX6.out.below hb7);clear y0 y1 y2 y3 y4 y5;obtain ⟨y0,y1,y2,y3,y4,y5⟩:=HX7.out.cells;clear hb7)
    go_ret
    exact ⟨ret_int (HC.out.1 (longP_some HPk.out (by rw [HLg.out];simp [c1]))).symm,HZ2.out⟩
  ·have hkn2:k=n:=by omega
   have hki:¬(k:Int)<(n:Int):=by omega
   have HF:=Qh (show longP ps=false by have:=HI.out.2;rwa [List.take_of_length_le (by have:=HLn.out;omega)] at this)
   clear hkn2
   cases ends
   ·by_cases h9:1000<n
    ·have d1:decide (1000<(n:Int))=true:=decide_eq_true (by omega)
     go_wp2_with fail
     go_ret
     exact ⟨ret_int (HC.out.2.2.1 HF.out (by trivial) h9).symm,HI.out.1⟩
    ·have d1:decide (1000<(n:Int))=false:=decide_eq_false (by omega)
     go_wp2_with fail
     go_ret
     exact ⟨ret_int (HC.out.2.2.2 HF.out (by trivial) h9).symm,HI.out.1⟩
   ·go_wp2_with fail
    go_ret
    exact ⟨ret_int (HC.out.2.1 HF.out (by trivial)).symm,HI.out.1⟩
theorem lngB_sz (b:Bd):lngB b=decide (128<szE b.ed):=by
 unfold lngB
 by_cases h:b.i=0
 ·rw [Bd.ed_zero h]
  have e:4096<blen (nv W b.l)↔128<szE (.num b.z):=by
   show _↔128<(digs W b.z.natAbs).length
   rw [show b.z.natAbs=nv W b.l from ival_natAbs _ _]
   have h1:blen (nv W b.l)≤4096↔nv W b.l<2 ^ 4096:=blen_le_iff
   have h2:(digs W (nv W b.l)).length≤128↔nv W b.l<W ^ 128:=digs_length_le_iff (by decide)
   rw [W128] at h2
   rw [←h1] at h2
   omega
  simp only [h,decide_true,Bool.true_and]
  exact decide_eq_decide.2 e
 ·have e:¬128<szE b.ed:=by
   unfold Bd.ed
   split
   ·exact Nat.not_lt_zero _
   ·split
    ·exact Nat.not_lt_zero _
    ·omega
  simp [h,e]
def longE (L:List R):Bool:=L.any fun r=>decide (128<szE r.1) || decide (128<szE r.2)
theorem longP_E (ps:List Rg):longP ps=longE (ps.map edsR):=by
 unfold longP longE
 rw [List.any_map]
 congr 1
 funext p
 unfold lngR
 rw [lngB_sz,lngB_sz]
 rfl
theorem longE_ends {L M:List R} (hL:longE L=false) (h:∀ r∈M,(∃ s∈L,s.1=r.1)∧∃ s∈L,s.2=r.2):longE M=false:=by
 unfold longE at hL ⊢
 rw [List.any_eq_false] at hL ⊢
 intro r hr
 obtain ⟨⟨s,h1,h2⟩,t,h3,h4⟩:=h r hr
 have a:=hL s h1
 have b:=hL t h3
 simp only [Bool.or_eq_true,not_or,decide_eq_true_eq] at a b ⊢
 exact ⟨by rw [←h2];exact a.1,by rw [←h4];exact b.2⟩
structure SRec where
 A:Option Addr
 n:Nat
 c:Nat
 ps:List Rg
structure IRec where
 g:Bool
 A:Option Addr
 n:Nat
 c:Nat
 l:List Nat
def VBox (w:World) (g:Nat) (A:Option Addr) (n c:Nat):Prop:=w.heap[g]?=some (.cells #[.slice A n c] 22 (0,0))
theorem VBox.lt {w:World} {g n c:Nat} {A:Option Addr} (h:VBox w g A n c):g<w.heap.size:=(Array.getElem?_eq_some_iff.1 h).1
theorem VBox.cell {w:World} {g n c:Nat} {A:Option Addr} (h:VBox w g A n c):w.cell? ⟨g,0,none⟩=some (.slice A n c)∧w.frozen? ⟨g,0,none⟩=false:=by
 refine ⟨by rw [cell_of_row w g _ _ _ (0,0) h];rfl,?_⟩
 unfold VBox at h;simp [World.frozen?,h]
theorem VBox.set {w:World} {g n c:Nat} {A:Option Addr} (h:VBox w g A n c) (A':Option Addr) (n' c':Nat):VBox (w.setCell ⟨g,0,none⟩ (.slice A' n' c')) g A' n' c'∧w.grownBy (w.setCell ⟨g,0,none⟩ (.slice A' n' c')) (some g):=by
 refine ⟨?_,gb_setCell (gb_refl _ _) _ _⟩
 unfold VBox at h ⊢
 simp [World.setCell,Array.getElem?_modify,h]
structure TkIn (w:World) (P:Nat→Prop) (ads:List Nat) (ss:List SRec):Prop where
 len:ss.length=ads.length
 box:∀ (j ad:Nat) (s:SRec),ads[j]?=some ad→ss[j]?=some s→VBox w ad s.A s.n s.c
 set:∀ s∈ss,SetP w P s.A s.n s.c s.ps∧Szs s.ps∧s.n≤1073741824
 far:∀ b,P b→b<w.heap.size∧b∉ads
 dis:ads.Nodup
structure InIn (w:World) (A:Option Addr) (ns:List IRec):Prop where
 at_:∀ (j:Nat) (x:IRec),ns[j]?=some x→∃ g o,A=some ⟨g,o,none⟩∧g<w.heap.size∧w.cell? ⟨g,o+j * 2,none⟩=some (.bool x.g)∧w.cell? ⟨g,o+j * 2+1,none⟩=some (.slice x.A x.n x.c)
 sl:∀ x∈ns,SlU w w.heap.size x.A x.n x.c x.l∧x.n≤67108864
structure Chg (w w':World) (ads:List Nat):Prop where
 os:w'.os=w.os
 tape:w'.tape=w.tape
 output:w'.output=w.output
 size:w.heap.size≤w'.heap.size
 block:∀ k,k<w.heap.size→k∉ads→w'.heap[k]?=w.heap[k]?
theorem Chg.of_below {w w':World} {ads:List Nat} (h:Below w.heap.size w w'):Chg w w' ads:=⟨h.os,h.tape,h.output,h.size,fun k hk _=>h.block k hk⟩
theorem Chg.below {w w':World} {ads:List Nat} {B:Nat} (h:Chg w w' ads) (hB:B≤w.heap.size) (ha:∀ ad∈ads,B≤ad):Below B w w':=⟨h.os,h.tape,h.output,h.size,fun k hk=>h.block k (by omega) (fun hm=>by have:=ha k hm;omega)⟩
def Done (B:Nat) (w:World) (ad:Nat) (s:SRec):Prop:=∃ A' n' c' qs,VBox w ad A' n' c'∧RRow w B (Fr B w) A' n' c' qs∧(∀ q∈qs,Gd q)∧NF (qs.map edsR)∧(∀ z,Hf.mem z (qs.map edsR)↔Hf.mem z (s.ps.map edsR))∧(∀ r∈qs.map edsR,(∃ t∈s.ps.map edsR,t.1=r.1)∧∃ t∈s.ps.map edsR,t.2=r.2)∧n'≤s.n∧n'≤1000
theorem Done.keep {B ad:Nat} {w w':World} {s:SRec} (h:Done B w ad s) (hb:∀ b,(B≤b∧b<w.heap.size)∨b=ad→w'.heap[b]?=w.heap[b]?) (hz:w.heap.size≤w'.heap.size):Done B w' ad s:=by
 obtain ⟨A',n',c',qs,h1,h2,h3⟩:=h
 exact ⟨A',n',c',qs,(hb ad (.inr rfl)).trans h1,(h2.keepP (fun b k1 k2=>hb b (.inl ⟨k1,k2⟩)) (fun b k=>hb b (.inl k))).wide (fun b k=>⟨k.1,Ql k.2 hz⟩),h3⟩
def anyLong (ss:List SRec) (ns:List IRec):Bool:=ss.any (fun s=>longP s.ps) || ns.any fun x=>lng x.l
def TakePost (w:World) (ads:List Nat) (ss:List SRec) (ns:List IRec) (e:Ending) (w':World):Prop:=
 Chg w w' ads∧((e = .returned (.int .i64 10)∧anyLong ss ns=true) ∨
  (e = .returned (.int .i64 90)∧anyLong ss ns=false∧∃ s∈ss,∃ M,NF M∧(∀ z,Hf.mem z M↔Hf.mem z (s.ps.map edsR))∧1000<M.length∧M.length≤s.n) ∨
  (e = .returned (.int .i64 0)∧anyLong ss ns=false∧∀ (j ad:Nat) (s:SRec),ads[j]?=some ad→ss[j]?=some s→Done w.heap.size w' ad s))
structure T3 (w:World) (ads:List Nat) (ss:List SRec) (k:Nat) (wr:World):Prop where
 chg:Chg w wr ads
 done:∀ (j ad:Nat) (s:SRec),j<k→ads[j]?=some ad→ss[j]?=some s→Done w.heap.size wr ad s
 todo:∀ (j ad:Nat) (s:SRec),k≤j→ads[j]?=some ad→ss[j]?=some s→VBox wr ad s.A s.n s.c
theorem T3.at_ {w wr:World} {P:Nat→Prop} {ads:List Nat} {ss:List SRec} {k ad:Nat} {s:SRec} (h:T3 w ads ss k wr) (hi:TkIn w P ads ss) (ha:ads[k]?=some ad) (hs:ss[k]?=some s):VBox wr ad s.A s.n s.c∧ad<w.heap.size∧SetP wr P s.A s.n s.c s.ps∧(∀ b,P b→b<wr.heap.size):=by
 refine ⟨h.todo k ad s (Nat.le_refl _) ha hs,(hi.box k ad s ha hs).lt,(hi.set s (List.mem_of_getElem? hs)).1.keep (fun b hb=>⟨hb,h.chg.block b (hi.far b hb).1 (hi.far b hb).2⟩),fun b hb=>Ql (hi.far b hb).1 h.chg.size⟩
theorem T3.next {w wr z1 z3:World} {P:Nat→Prop} {ads:List Nat} {ss:List SRec} {k ad n' c':Nat} {A':Option Addr} {s:SRec} {qs:List Rg} (h:T3 w ads ss k wr) (hi:TkIn w P ads ss) (ha:ads[k]?=some ad) (hs:ss[k]?=some s)
  (hr:NormRes wr (s.ps.map edsR) s.n A' n' c' qs z1) (h3:Below z1.heap.size (z1.setCell ⟨ad,0,none⟩ (.slice A' n' c')) z3) (hn:n'≤1000):T3 w ads ss (k+1) z3:=by
 obtain ⟨hrow,hg,hnf,hm,he,hle,hb⟩:=hr
 obtain ⟨hv,hadlt,_,_⟩:=h.at_ hi ha hs
 have hv1:VBox z1 ad s.A s.n s.c:=(hb.block ad hv.lt).trans hv
 obtain ⟨hv2,hg2⟩:=hv1.set A' n' c'
 have hs1:=h.chg.size
 have hs2:=hb.size
 have hs3:=h3.size
 rw [World.size_setCell] at hs3
 have hadm:ad∈ads:=List.mem_of_getElem? ha
 have blk:∀ b,b<wr.heap.size→b≠ad→z3.heap[b]?=wr.heap[b]?:=fun b h1 h2=>((h3.block b (by omega)).trans (hg2.block b (by omega) (fun e=>by injection e with e;exact h2 e))).trans (hb.block b h1)
 refine ⟨⟨(h3.os.trans hg2.os).trans (hb.os.trans h.chg.os),(h3.tape.trans hg2.tape).trans (hb.tape.trans h.chg.tape),(h3.output.trans hg2.output).trans (hb.output.trans h.chg.output),by omega,fun b h1 h2=>(blk b (by omega) (fun e=>h2 (e ▸ hadm))).trans (h.chg.block b h1 h2)⟩,fun j ad' s' hj ha' hs'=>?_,fun j ad' s' hj ha' hs'=>?_⟩
 ·by_cases hjk:j=k
  ·subst hjk
   rw [ha] at ha'
   rw [hs] at hs'
   injection ha' with ha'
   injection hs' with hs'
   subst ha'
   subst hs'
   refine ⟨A',n',c',qs,(h3.block ad (by omega)).trans hv2,?_,hg,hnf,hm,he,hle,hn⟩
   have k1:∀ b,wr.heap.size≤b→b<z1.heap.size→z3.heap[b]?=z1.heap[b]?:=fun b h1 h2=>(h3.block b h2).trans (hg2.block b h2 (fun e=>by injection e with e;omega))
   exact ((hrow.keepP k1 (fun b hb=>k1 b hb.1 hb.2)).wide (fun b hb=>⟨by omega,by omega⟩)).lower (by omega)
  ·have hne:ad'≠ad:=fun e=>by
    subst e
    have hj':j<ads.length:=(List.getElem?_eq_some_iff.1 ha').1
    exact hjk ((List.getElem?_inj hj' hi.dis).1 (ha'.trans ha.symm))
   exact (h.done j ad' s' (by omega) ha' hs').keep (fun b hb=>by
    rcases hb with hb | hb
    ·exact blk b hb.2 (by omega)
    ·subst hb
     exact blk _ (by have:=(hi.box j _ s' ha' hs').lt;omega) hne) (by omega)
 ·have hne:ad'≠ad:=fun e=>by
   subst e
   have hj':j<ads.length:=(List.getElem?_eq_some_iff.1 ha').1
   have:=(List.getElem?_inj hj' hi.dis).1 (ha'.trans ha.symm)
   omega
  exact (blk ad' (by have:=(hi.box j _ s' ha' hs').lt;omega) hne).trans (h.todo j ad' s' (by omega) ha' hs')
theorem T3.chg_next {w wr z1 z3:World} {P:Nat→Prop} {ads:List Nat} {ss:List SRec} {k ad n' c':Nat} {A':Option Addr} {s:SRec} {L:List R} {n:Nat} {qs:List Rg} (h:T3 w ads ss k wr) (hi:TkIn w P ads ss) (ha:ads[k]?=some ad) (hs:ss[k]?=some s)
  (hr:NormRes wr L n A' n' c' qs z1) (h3:Below z1.heap.size (z1.setCell ⟨ad,0,none⟩ (.slice A' n' c')) z3):Chg w z3 ads:=by
 obtain ⟨hrow,hg,hnf,hm,he,hle,hb⟩:=hr
 obtain ⟨hv,hadlt,_,_⟩:=h.at_ hi ha hs
 have hv1:VBox z1 ad s.A s.n s.c:=(hb.block ad hv.lt).trans hv
 obtain ⟨hv2,hg2⟩:=hv1.set A' n' c'
 have hs1:=h.chg.size
 have hs2:=hb.size
 have hs3:=h3.size
 rw [World.size_setCell] at hs3
 have hadm:ad∈ads:=List.mem_of_getElem? ha
 have blk:∀ b,b<wr.heap.size→b≠ad→z3.heap[b]?=wr.heap[b]?:=fun b h1 h2=>((h3.block b (by omega)).trans (hg2.block b (by omega) (fun e=>by injection e with e;exact h2 e))).trans (hb.block b h1)
 exact ⟨(h3.os.trans hg2.os).trans (hb.os.trans h.chg.os),(h3.tape.trans hg2.tape).trans (hb.tape.trans h.chg.tape),(h3.output.trans hg2.output).trans (hb.output.trans h.chg.output),by omega,fun b h1 h2=>(blk b (by omega) (fun e=>h2 (e ▸ hadm))).trans (h.chg.block b h1 h2)⟩
theorem fine_res {wr z1:World} {L:List R} {n n' c' ad:Nat} {A':Option Addr} {qs:List Rg} {B':World} (hr:NormRes wr L n A' n' c' qs z1) (hL:longE L=false) (hn:n≤1073741824) (hv:ad<wr.heap.size) (hw:z1.grownBy B' (some ad)) (hz:B'.heap.size=z1.heap.size) :
  Calls Tryz.prog 72 #[.slice A' n' c',.bool false] B' (fun e w'=>e = .returned (.int .i64 (if 1000<n' then 90 else 0))∧Below z1.heap.size B' w'):=by
 obtain ⟨hrow,hg,hnf,hm,he,hle,hb⟩:=hr
 have hset:=hrow.set (fun b h1 h2=>⟨h1,h2⟩)
 have hl:longP qs=false:=by rw [longP_E];exact longE_ends hL he
 have h:=fine_any (w:=B') false (hset.keep (Q:=Fr wr.heap.size z1) (fun b hb=>⟨hb,hw.block b hb.2 (fun e=>by injection e with e;have:=hb.1;omega)⟩)) (fun b hb=>by rw [hz];exact hb.2) (fun q hq=>⟨fun _=>(hg q hq).2.1,fun _=>(hg q hq).2.2⟩) (by omega)
 rw [hl,hz] at h
 have e:fineC false false n'=if 1000<n' then 90 else 0:=by simp [fineC]
 rwa [e] at h
theorem long_upto {ss:List SRec} {k:Nat} {s:SRec} (hk:ss[k]?=some s) (h:(ss.take k).any (fun s=>longP s.ps)=false) (hs:longP s.ps=false):(ss.take (k+1)).any (fun s=>longP s.ps)=false:=by
 rw [List.take_add_one,hk]
 simp at h ⊢
 exact ⟨h,hs⟩
theorem long_upto' {ns:List IRec} {k:Nat} {x:IRec} (hk:ns[k]?=some x) (h:(ns.take k).any (fun x=>lng x.l)=false) (hs:lng x.l=false):(ns.take (k+1)).any (fun x=>lng x.l)=false:=by
 rw [List.take_add_one,hk]
 simp at h ⊢
 exact ⟨h,hs⟩
def IntBox (w:World) (g:Nat) (x:IRec):Prop:=w.heap[g]?=some (.cells #[.bool x.g,.slice x.A x.n x.c] 56 (0,0))
theorem take_any {w:World} {P:Nat→Prop} {ads:List Nat} {ss:List SRec} {ns:List IRec} {G q r c ci:Nat} {AI:Option Addr} (hi:TkIn w P ads ss) (hn:InIn w AI ns) (hG:∀ (j ad:Nat),ads[j]?=some ad→w.cell? ⟨G,j,none⟩=some (.pointer (some ⟨ad,0,none⟩))) (hGl:G<w.heap.size) (hGn:G∉ads)
  (hq:ads.length=q) (hr:ns.length=r) (hq9:q≤1000000) (hr9:r≤1000000) :
  Calls Tryz.prog 35 #[.slice AI r ci,.slice (some ⟨G,0,none⟩) q c] w (TakePost w ads ss ns):=by
 have HI:=Qh hi
 have HN:=Qh hn
 have HG:=Qh (Qa hG (Qa hGl hGn))
 have HL:=Qh (Qa hq hr)
 obtain ⟨B,hB⟩:∃ B,w.heap.size=B:=⟨_,rfl⟩
 have HB:=Qh hB
 have HB0:=Qh (Below.refl B w)
 have HPost:=Qh (fun e w'=>(Iff.rfl:TakePost w ads ss ns e w'↔TakePost w ads ss ns e w'))
 unfold TakePost
 clear hi hn hG hGl hGn hq hr hB
 go_enter Tryz.func35,Tryz.ntmps35
 go_wp2_with fail
 go_loopw [15] (fun vi wr=>∃ k,k≤q∧vi = .int .i64 (k:Nat)∧Hid (Below B w wr∧(ss.take k).any (fun s=>longP s.ps)=false)) (fun vi _=>q - (intOf vi).toNat)
 case atStart=>exact ⟨0,Nat.zero_le _,rfl,Qh ⟨HB0.out,rfl⟩⟩
 case round=>
  obtain ⟨k,hk,rfl,HR⟩:=hrel
  clear HB0
  by_cases hkq:k<q
  ·obtain ⟨ad,had⟩:∃ ad,ads[k]?=some ad:=⟨ads[k]'(by have:=HL.out.1;omega),by simp⟩
   obtain ⟨s,hs⟩:∃ s,ss[k]?=some s:=⟨ss[k]'(by have:=HL.out.1;have:=HI.out.len;omega),by simp⟩
   have hv:=HI.out.box k ad s had hs
   have hv2:VBox wr ad s.A s.n s.c:=(HR.out.1.block ad (by have:=hv.lt;have:=HB.out;omega)).trans hv
   have hst:=HI.out.set s (List.mem_of_getElem? hs)
   have HF:=Qh (fine_any (w:=wr) true (hst.1.keep (Q:=P) (fun b hb=>⟨hb,HR.out.1.block b (by have:=(HI.out.far b hb).1;have:=HB.out;omega)⟩)) (fun b hb=>Ql (HI.out.far b hb).1 HR.out.1.size) hst.2.1 hst.2.2)
   have HS:=Qh hs
   have hp:=(HR.out.1.cell (p:=⟨G,k,none⟩) (show G<B by have:=HG.out.2.1;have:=HB.out;omega)).trans (HG.out.1 k ad had)
   obtain ⟨v0,_⟩:=hv2.cell
   obtain ⟨sA,sn,sc,sps⟩:=s
   simp only at v0 HF
   have hki:(k:Int)<(q:Int):=by omega
   have hk0:(0:Int)≤(k:Int):=by omega
   clear hv hv2 hst hs had
   cases hlo:longP sps
   ·have e:fineC (longP sps) true sn=0:=by rw [hlo];rfl
    rw [e] at HF
    have HO:=Qh hlo
    clear e hlo
    go_wp2_with (go_at_call 72;(with_reducible refine HF.out.mono ?_);rintro e w4 ⟨rfl,hb4⟩)
    go_roundw
    case rel=>exact ⟨k+1,by omega,by go_num,Qh ⟨HR.out.1.trans (hb4.mono (by have:=HR.out.1.size;have:=HB.out;omega)),long_upto HS.out HR.out.2 HO.out⟩⟩
    case measure=>simp [intOf];omega
   ·have e:fineC (longP sps) true sn=10:=by rw [hlo];rfl
    rw [e] at HF
    have HO:=Qh hlo
    clear e hlo
    go_wp2_with (go_at_call 72;(with_reducible refine HF.out.mono ?_);rintro e w4 ⟨rfl,hb4⟩)
    go_ret
    refine ⟨Chg.of_below (by rw [HB.out];exact HR.out.1.trans (hb4.mono (by have:=HR.out.1.size;have:=HB.out;omega))),.inl ⟨rfl,?_⟩⟩
    unfold anyLong
    rw [Bool.or_eq_true]
    exact .inl (List.any_eq_true.2 ⟨_,List.mem_of_getElem? HS.out,HO.out⟩)
  ·have hkq2:k=q:=by omega
   have hki:¬(k:Int)<(q:Int):=by omega
   have HF1:=Qh (show ss.any (fun s=>longP s.ps)=false by have:=HR.out.2;rwa [List.take_of_length_le (by have:=HL.out.1;have:=HI.out.len;omega)] at this)
   have HR1:=Qh HR.out.1
   clear hkq2 HR hk
   go_wp2_with fail
   go_loopw [29] (fun vi wr=>∃ k,k≤r∧vi = .int .i64 (k:Nat)∧Hid (Below B w wr∧(ns.take k).any (fun x=>lng x.l)=false)) (fun vi _=>r - (intOf vi).toNat)
   case atStart=>exact ⟨0,Nat.zero_le _,rfl,Qh ⟨HR1.out,rfl⟩⟩
   case round=>
    obtain ⟨k2,hk,rfl,HR⟩:=hrel
    clear HR1
    by_cases hkr:k2<r
    ·obtain ⟨x,hx⟩:∃ x,ns[k2]?=some x:=⟨ns[k2]'(by have:=HL.out.2;omega),by simp⟩
     obtain ⟨g,o,rfl,hg,q0,q1⟩:=HN.out.at_ k2 x hx
     have hsl:=HN.out.sl x (List.mem_of_getElem? hx)
     have i0:=(HR.out.1.cell (p:=⟨g,o+k2 * 2,none⟩) (show g<B by have:=HB.out;omega)).trans q0
     have i1:=(HR.out.1.cell (p:=⟨g,o+k2 * 2+1,none⟩) (show g<B by have:=HB.out;omega)).trans q1
     have HX:=Qh hx
     obtain ⟨xg,xA,xn,xc,xl⟩:=x
     simp only at i0 i1 hsl
     have HBt:=Qh (fun (z:World) (hz:Below B w z)=>bits_any xg (hsl.1.below (C:=w.heap.size) (by rw [HB.out];exact hz) (Nat.le_refl _)) hsl.2 (by rw [HB.out];exact Nat.le_trans (Nat.le_of_eq HB.out.symm) hz.size))
     have HA:=Qh (show Below B w (wr.alloc (.cells #[.bool xg,.slice xA xn xc] 56)) from HR.out.1.alloc (by have:=HR.out.1.size;have:=HB.out;omega) _)
     have hX:IntBox (wr.alloc (.cells #[.bool xg,.slice xA xn xc] 56)) wr.heap.size ⟨xg,xA,xn,xc,xl⟩:=heap_alloc_new wr _
     have HLn:=Qh (show lng xl=decide (4096<blen (nv W xl)) from rfl)
     generalize blen (nv W xl)=bl at *
     have hki:(k2:Int)<(r:Int):=by omega
     have hk0:(0:Int)≤(k2:Int):=by omega
     clear hx q0 q1 hsl hX
     by_cases hbl:4096<bl
     ·have d1:decide (4096<(bl:Int))=true:=decide_eq_true (by omega)
      go_wp2_with (go_at_call 67;(with_reducible refine (HBt.out _ HA.out).mono ?_);rintro e w4 ⟨rfl,hb4⟩)
      go_ret
      refine ⟨Chg.of_below (by rw [HB.out];exact HA.out.trans (hb4.mono (by have:=HA.out.size;have:=HB.out;omega))),.inl ⟨rfl,?_⟩⟩
      unfold anyLong
      rw [Bool.or_eq_true]
      exact .inr (List.any_eq_true.2 ⟨_,List.mem_of_getElem? HX.out,by rw [HLn.out];exact decide_eq_true hbl⟩)
     ·have d1:decide (4096<(bl:Int))=false:=decide_eq_false (by omega)
      go_wp2_with (go_at_call 67;(with_reducible refine (HBt.out _ HA.out).mono ?_);rintro e w4 ⟨rfl,hb4⟩)
      go_roundw
      case rel=>exact ⟨k2+1,by omega,by go_num,Qh ⟨HA.out.trans (hb4.mono (by have:=HA.out.size;have:=HB.out;omega)),long_upto' HX.out HR.out.2 (by rw [HLn.out];exact decide_eq_false hbl)⟩⟩
      case measure=>simp [intOf];omega
    ·have hkr2:k2=r:=by omega
     have hki:¬(k2:Int)<(r:Int):=by omega
     have HAL:=Qh (show anyLong ss ns=false by
      have h2:=HR.out.2
      rw [List.take_of_length_le (by have:=HL.out.2;omega)] at h2
      unfold anyLong
      rw [HF1.out,h2];rfl)
     have HT0:=Qh (show T3 w ads ss 0 wr from ⟨Chg.of_below (by rw [HB.out];exact HR.out.1),fun j ad s h=>absurd h (Nat.not_lt_zero _),fun j ad s _ h1 h2=>(HR.out.1.block ad (by have:=(HI.out.box j ad s h1 h2).lt;have:=HB.out;omega)).trans (HI.out.box j ad s h1 h2)⟩)
     clear hkr2 HR HF1 hk
     go_wp2_with fail
     go_loopw [39] (fun vi wr=>∃ k,k≤q∧vi = .int .i64 (k:Nat)∧Hid (T3 w ads ss k wr)) (fun vi _=>q - (intOf vi).toNat)
     case atStart=>exact ⟨0,Nat.zero_le _,rfl,HT0⟩
     case round=>
      obtain ⟨k3,hk,rfl,HR⟩:=hrel
      clear HT0
      by_cases hkq:k3<q
      ·obtain ⟨ad,had⟩:∃ ad,ads[k3]?=some ad:=⟨ads[k3]'(by have:=HL.out.1;omega),by simp⟩
       obtain ⟨s,hs⟩:∃ s,ss[k3]?=some s:=⟨ss[k3]'(by have:=HL.out.1;have:=HI.out.len;omega),by simp⟩
       obtain ⟨hv,hadl,hset,hPb⟩:=HR.out.at_ HI.out had hs
       have hst:=HI.out.set s (List.mem_of_getElem? hs)
       have HNo:=Qh (normal_any (w:=wr) hset hPb hst.2.1 hst.2.2)
       have HAS:=Qh (Qa had hs)
       have hp:wr.cell? ⟨G,k3,none⟩=some (.pointer (some ⟨ad,0,none⟩)):=(Qc (a:=⟨G,k3,none⟩) (HR.out.chg.block G HG.out.2.1 HG.out.2.2)).trans (HG.out.1 k3 ad had)
       have HV:=Qh hv
       obtain ⟨v0,f0⟩:=hv.cell
       have HGp:=Qh hp
       have HSn:=Qh hst.2.2
       have HNl:=Qh (show longE (s.ps.map edsR)=false by
        have h2:=HAL.out
        unfold anyLong at h2
        rw [Bool.or_eq_false_iff] at h2
        have:=(List.any_eq_false.1 h2.1) s (List.mem_of_getElem? hs)
        rw [←longP_E]
        simpa using this)
       obtain ⟨sA,sn,sc,sps⟩:=s
       simp only at v0 HNo HNl HV HSn
       have hki:(k3:Int)<(q:Int):=by omega
       have hk0:(0:Int)≤(k3:Int):=by omega
       clear hv hadl hset hPb hst had hs
       go_wp2_with (go_at_call 73;(with_reducible refine HNo.out.mono ?_);rintro e z1 ⟨A1,n1,c1,qs,rfl,hres⟩;have HRes:=Qh hres;have HV1:=Qh (show VBox z1 ad sA sn sc from (hres.2.2.2.2.2.2.block ad HV.out.lt).trans HV.out);clear hres v0 f0;obtain ⟨v0,f0⟩:=HV1.out.cell)
       have HFi:=Qh (fine_res HRes.out HNl.out HSn.out HV.out.lt (HV1.out.set A1 n1 c1).2 (World.size_setCell _ _ _))
       have HVs:=Qh (HV1.out.set A1 n1 c1).1
       have hp1:(z1.setCell ⟨ad,0,none⟩ (.slice A1 n1 c1)).cell? ⟨ad,0,none⟩=some (.slice A1 n1 c1):=HVs.out.cell.1
       by_cases h9:1000<n1
       ·rw [if_pos h9] at HFi
        have HT:=Qh (fun z3 h3=>HR.out.chg_next (z3:=z3) HI.out HAS.out.1 HAS.out.2 HRes.out h3)
        have H9:=Qh h9
        clear h9
        (with_reducible refine HFi.out.mono ?_)
        rintro e z3 ⟨rfl,hb3⟩
        have HB3:=Qh hb3
        clear hb3
        go_wp2_with fail
        go_ret
        refine ⟨HT.out _ HB3.out,.inr (.inl ⟨rfl,HAL.out,_,List.mem_of_getElem? HAS.out.2,qs.map edsR,HRes.out.2.2.1,HRes.out.2.2.2.1,?_⟩)⟩
        rw [List.length_map,HRes.out.1.len]
        exact ⟨H9.out,HRes.out.2.2.2.2.2.1⟩
       ·rw [if_neg h9] at HFi
        have HT:=Qh (fun z3 h3=>HR.out.next (z3:=z3) HI.out HAS.out.1 HAS.out.2 HRes.out h3 (by omega))
        clear h9
        (with_reducible refine HFi.out.mono ?_)
        rintro e z3 ⟨rfl,hb3⟩
        have HT3:=Qh (HT.out _ hb3)
        clear hb3
        go_wp2_with fail
        go_roundw
        case rel=>exact ⟨k3+1,by omega,by go_num,HT3⟩
        case measure=>simp [intOf];omega
      ·have hkq2:k3=q:=by omega
       have hki:¬(k3:Int)<(q:Int):=by omega
       have HD:=Qh (fun j ad s h1 h2=>HR.out.done j ad s (by have:=HL.out.1;have:=(List.getElem?_eq_some_iff.1 h1).1;omega) h1 h2)
       clear hkq2
       go_wp2_with fail
       go_ret
       exact ⟨HR.out.chg,.inr (.inr ⟨rfl,HAL.out,HD.out⟩)⟩
def Th (w:World) (x:Nat):Prop:=∀ j,w.frozen? ⟨x,j,none⟩=false
theorem Th.of {w w':World} {x:Nat} (h:Th w x) (hb:w'.heap[x]?=w.heap[x]?):Th w' x:=fun j=>by
 have:=h j
 unfold World.frozen? at this ⊢
 rw [hb]
 exact this
abbrev Ft (B:Nat) (w:World):Nat→Prop:=fun x=>(B≤x∧x<w.heap.size)∧Th w x
theorem own_th {w:World} {t:TypeId} {B n c g s:Nat} {xs:List Value} (h:w.ownsRow B t s (.slice (some ⟨g,0,none⟩) n c) n xs):Th w g:=fun j=>by
 rcases h.2 with ⟨h1,_⟩ | ⟨g',cap,cur,h1,h2,h3,_⟩
 ·cases h1
 ·injection h1 with a b c
  injection a with a
  injection a with a
  subst a
  simp [World.frozen?,h3]
theorem nb_at_t {w:World} {B:Nat} {z:Int} {A:Option Addr} {c:Nat} (h:OwnU w B A (digs W z.natAbs).length c (u32s (digs W z.natAbs))):(nb z A c).At w (Ft B w):=by
 have h1:=nb_at h
 refine ⟨⟨h1.lim.len,h1.lim.cap,h1.lim.max,h1.lim.dig,fun hl=>?_⟩,h1.r1,h1.r2⟩
 obtain ⟨b,o,e,hp,hc⟩:=h1.lim.rd hl
 have hA:A=some ⟨b,o,none⟩:=e
 subst hA
 have ho:o=0:=by
  rcases h.2 with ⟨h1,_⟩ | ⟨g',cap,cur,h1,_⟩
  ·cases h1
  ·injection h1 with a b c
   injection a with a
   injection a with _ a _
 subst ho
 exact ⟨b,0,rfl,⟨hp,own_th h⟩,hc⟩
theorem resI_nbt {w:World} {B:Nat} {v:Value} {z:Int} (h:ResI w B v z):∃ A c,v = .agg #[.bool (decide (z<0)),.slice A (digs W z.natAbs).length c]∧(nb z A c).At w (Ft B w):=by
 obtain ⟨A,c,hv,ho⟩:=h
 exact ⟨A,c,hv,nb_at_t ho⟩
def CleanT (w:World) (e:Ed) (en:Ending) (w':World):Prop:=∃ b:Bd,en = .returned b.v∧b.At w' (Ft w.heap.size w')∧b.Nrm∧b.ed=e∧Below w.heap.size w w'
theorem clean_t {a:Bd} {P:Nat→Prop} {w:World} (ha:a.At w P) (hP:∀ x,P x→x<w.heap.size) (hs:a.i=0→a.n≤67108864) :
  Calls Tryz.prog 101 #[a.v] w (CleanT w a.ed):=by
 have hG:=((Below.refl w.heap.size w).alloc (Nat.le_refl _) (.cells a.vals.toArray 67)).alloc (by simp) (.cells (ib 0).vals.toArray 67)
 have HC:=Qh (fun (h0:a.i=0) (w1:World) (h1:Below w.heap.size w w1)=>norm_any a.g ((ha.lim.sl hP).below (C:=w.heap.size) h1 (Nat.le_refl _)) (hs h0) h1.size)
 have e1:=EBox.new w a
 have e2:=EBox.new (w.alloc (.cells a.vals.toArray 67)) (ib 0)
 have e3:=(EBox.below e1 (w':=(w.alloc (.cells a.vals.toArray 67)).alloc (.cells (ib 0).vals.toArray 67)) (Qb))
 have HE2:=Qh e2
 obtain ⟨ai,ag,aA,an,ac,al⟩:=a
 obtain ⟨x0,x1,x2⟩:=e3.cells
 have HG:=Qh hG
 have hr1:=ha.r1
 have hr2:=ha.r2
 rw [World.size_alloc] at HE2
 have HD:=Qh (show Bd.ed ⟨ai,ag,aA,an,ac,al⟩=if ai<0 then .lo else if 0<ai then .hi else .num (ival ag al) from rfl)
 simp only [Bd.v,Bd.vals] at *
 clear ha hP e1 e2 e3 hs hG
 obtain ⟨y0,y1,y2⟩:=HE2.out.cells
 obtain ⟨f0,f1,f2⟩:=HE2.out.frozens
 have HF:=Qh (fun (w1:World) (b:Bd) (hb:EBox w1 (w.heap.size+1) b)=>hb.cells)
 by_cases h1:ai<0
 ·rw [if_pos h1] at HD
  go_enter Tryz.func101,Tryz.ntmps101
  go_wp2
  refine bodyPost_ret (v:=(ib (-1)).v) (by simp [results,Tryz.results101,go_sem];rfl) rfl ⟨ib (-1),rfl,ib_at _ _ (.inl rfl),ib_nrm (.inl rfl),by rw [HD.out];rfl,?_⟩
  exact ((Below.refl w.heap.size w).alloc (Nat.le_refl _) _).alloc (by simp) _
 ·rw [if_neg h1] at HD
  by_cases h2:0<ai
  ·rw [if_pos h2] at HD
   go_enter Tryz.func101,Tryz.ntmps101
   go_wp2
   refine bodyPost_ret (v:=(ib 1).v) (by simp [results,Tryz.results101,go_sem];rfl) rfl ⟨ib 1,rfl,ib_at _ _ (.inr (.inr rfl)),ib_nrm (.inr rfl),by rw [HD.out];rfl,?_⟩
   exact ((Below.refl w.heap.size w).alloc (Nat.le_refl _) _).alloc (by simp) _
  ·rw [if_neg h2] at HD
   obtain rfl:ai=0:=by omega
   have HC2:=Qh (HC.out rfl)
   clear HC h1 h2
   go_enter Tryz.func101,Tryz.ntmps101
   go_wp2_with (go_at_call 84;refine (HC2.out _ HG.out).mono ?_;rintro e w1 ⟨v,rfl,hr,hb1⟩;obtain ⟨A1,c1,rfl,hat⟩:=resI_nbt hr;have HB1:=Qh hb1;have HAt:=Qh hat;have HX:=Qh (HE2.out.below hb1);clear hr hb1 hat;obtain ⟨y0,y1,y2⟩:=HX.out.cells;obtain ⟨f0,f1,f2⟩:=HX.out.frozens)
   generalize ival ag al=Z at *
   have HS:=Qh (HX.out.set3 (nb Z A1 c1))
   simp only [nb] at HS
   generalize ((w1.setCell ⟨w.heap.size+1,0,none⟩ (.int .i64 0)).setCell ⟨w.heap.size+1,1,none⟩ (.bool (decide (Z<0)))).setCell ⟨w.heap.size+1,2,none⟩ (.slice A1 (digs W Z.natAbs).length c1)=w6 at *
   obtain ⟨r0,r1,r2⟩:=HS.out.1.cells
   refine bodyPost_ret (v:=(nb Z A1 c1).v) (by simp [results,Tryz.results101,go_sem,r0,r1,r2];rfl) rfl ⟨nb Z A1 c1,rfl,?_,nb_nrm _ _ _,by rw [HD.out];exact nb_ed _ _ _,?_⟩
   ·have hz1:=HB1.out.size
    have hz2:=HS.out.2.size
    simp at hz1
    have hx2:∀ x,Ft (w.heap.size+1+1) w1 x→w6.heap[x]?=w1.heap[x]?:=fun x hx=>HS.out.2.block x hx.1.2 (fun e=>by injection e with e;have:=hx.1.1;omega)
    refine HAt.out.keep fun x hx=>⟨⟨⟨by have:=hx.1.1;simp at this;omega,Ql hx.1.2 hz2⟩,hx.2.of (hx2 x (by simpa using hx))⟩,hx2 x (by simpa using hx)⟩
   ·exact (HG.out.trans (HB1.out.mono (by simp;omega))).grown HS.out.2 (HG.out.trans (HB1.out.mono (by simp;omega))).size (Qg (by omega))
section
open Go.RowKit Hb Hf Go.Shelf Go.Sort
theorem sort_t {w:World} {B:Nat} {P:Nat→Prop} {A:Option Addr} {n c:Nat} {ps:List Rg} (h:RRow w B P A n c ps) (hP:∀ b,P b→b<w.heap.size) (ht:∀ p∈ps,p.1.Tri) (hB:B≤w.heap.size) (hn:n<4611686018427387904) :
  Calls Tryz.prog 102 #[.slice A n c,.func (.func 103) #[] #[]] w fun e w'=>e = .returned (.tuple #[]) ∧
   ∃ qs,qs.Perm ps∧qs.Pairwise (fun p q=>leE p.1.ed q.1.ed)∧RRow w' B P A n c qs∧Below B w w'∧∀ b,b<w.heap.size→(Value.slice A n c).ownBlock≠some b→w'.heap[b]?=w.heap[b]?:=by
 by_cases h0:n=0
 ·subst h0
  have hl:=h.len
  obtain rfl:ps = []:=List.length_eq_zero_iff.1 hl
  exact (AnyF.slices_SortFunc_none Tryz.sortR A c _ w).mono fun e w' ⟨he,hw⟩=>⟨he,[],List.Perm.refl _,List.Pairwise.nil,by rw [hw];exact h,by rw [hw];exact Below.refl _ _,fun b _ _=>by rw [hw]⟩
 ·obtain ⟨g,rfl,hBg,hg,hob⟩:∃ g,A=some ⟨g,0,none⟩∧B≤g∧g<w.heap.size∧(Value.slice A n c).ownBlock=some g:=by
   rcases h.block with ⟨_,h1⟩ | h1
   ·exact absurd h1 h0
   ·exact h1
  obtain ⟨P',hP'⟩:∃ P':Nat→Prop,P'=fun b=>P b∧(Value.slice (some ⟨g,0,none⟩) n c).ownBlock≠some b:=⟨_,rfl⟩
  have hPg:∀ b,P' b→b<w.heap.size∧b≠g:=fun b hb=>by
   subst hP'
   exact ⟨hP b hb.1,fun e=>hb.2 (by rw [hob,e])⟩
  have hk:∀ p∈ps,GoodR w P' p:=fun p hp=>⟨by rw [hP'];exact h.kid p hp,ht p hp⟩
  obtain ⟨xs,hxs⟩:∃ xs:List (GR w P'),xs.map (·.1)=ps:=⟨ps.attach.map fun p=>⟨p.1,hk p.1 p.2⟩,by simp [List.map_attach_eq_pmap]⟩
  have hlen:xs.length=n:=by rw [←h.len,←hxs];simp
  obtain ⟨cur,hcur,hcap,hmax,hsz,htk⟩:∃ cur,w.heap[g]?=some (.cells cur 69 (0,0))∧n≤c∧c≤maxLen∧cur.size=c * 6∧cur.toList.take (n * 6)=fl6 ps:=by
   rcases h.own.2 with ⟨h1,_⟩ | ⟨g',cap,cur,h1,h2,h3,h4,h5,h6,h7⟩
   ·cases h1
   ·injection h1 with a b cc
    injection a with a
    injection a with a
    subst a;subst cc
    exact ⟨cur,h3,h4,h5,h6,h7⟩
  have hH:HoldsK encR 6 w g 0 xs.toArray:=by
   unfold HoldsK
   rw [flatK_encR,hxs]
   intro j hj
   have hj':j<(fl6 ps).length:=by simpa using hj
   refine ⟨?_,by simp [World.frozen?,hcur]⟩
   have h2:=World.ownsRow.cells h.own (g:=g) rfl j _ (List.getElem?_eq_getElem hj')
   rw [add_zero'] at h2
   rw [Nat.zero_add,h2,getElem!_pos _ j (by simpa using hj)]
   simp
  have hcmp:CmpLays Tryz.prog 103 #[] encR 6 (cfR (w:=w) (P:=P')) g 0 xs.toArray.size w:=fun m os dk hd x y=>by
   have hgr:=grown_sortR (enc:=encR) (k:=6) (w:=w) (g:=g) (n:=m) (os:=os) dk
   have hkp:∀ b,P' b→P' b∧(sortWorldK encR 6 w g 0 m dk os).heap[b]?=w.heap[b]?:=fun b hb=>⟨hb,hgr.block b (hPg b hb).1 (fun e=>by injection e with e;exact (hPg b hb).2 e)⟩
   exact (closure_any (x:=x.1) (y:=y.1) (P:=P') (x.2.1.keep hkp) (y.2.1.keep hkp) (fun b hb=>Ql (hPg b hb).1 hgr.size) x.2.2 y.2.2).mono fun e w' ⟨he,hg2⟩=>⟨he,hg2.lies⟩
  have hcon:=AnyQ.slices_SortFunc Tryz.sortR 6 Tryz.isAgg69 Tryz.sizeOf69 encR (fun _=>rfl) (fun x v hv=>fl6_one [x.1] v (by simpa [fl6] using (show v∈cells6 x.1 from hv))) cfR (swoR w P') 103 #[] g 0 c xs.toArray w
   (enters_of Tryz.func103 (by kernel_rfl) rfl) hcmp hH hg (by simpa [hlen] using hn)
  have hsz2:xs.toArray.size=n:=by simpa using hlen
  rw [hsz2] at hcon
  refine hcon.mono fun e w' ⟨he,d',m,os,hp,hs,hw⟩=>⟨he,d'.toList.map (·.1),?_,?_,?_,?_⟩
  ·obtain ⟨h1,_,h3⟩:=hp
   have e1:d'.extract 0 n=d':=by rw [←hsz2,←h1];exact extract_all d'
   have e2:xs.toArray.extract 0 n=xs.toArray:=by rw [←hsz2];exact extract_all _
   rw [e1,e2] at h3
   have:=h3.map (fun x:GR w P'=>x.1)
   rw [←hxs]
   simpa using this
  ·have h1:d'.size=n:=by rw [hp.1,hsz2]
   rw [List.pairwise_map]
   rw [List.pairwise_iff_getElem]
   intro i j hi hj hij
   have hj':j<d'.size:=by simpa using hj
   have hi':i<d'.size:=by simpa using hi
   have h3:=hs i j (Nat.zero_le _) hij (by omega)
   rw [getElem!_pos d' j hj',getElem!_pos d' i hi'] at h3
   have h4:=of_decide_eq_false h3
   have h5:=(cmpB_le (d'[i]).2.2 (d'[j]).2.2).1 h4
   simpa using h5
  ·have hgr:=grown_sortR (enc:=encR) (k:=6) (w:=w) (g:=g) (n:=m) (os:=os) d'
   have hd:d'.size=n:=by rw [hp.1,hsz2]
   refine ⟨⟨by rw [fl6_length,List.length_map,Array.length_toList,hd],.inr ⟨g,c,_,rfl,hBg,by rw [hw];exact heap_sortR d' hcur,hcap,hmax,by simp [putCells,hsz],?_⟩⟩,fun p hp2=>?_⟩
   ·have e:=flatK_encR d'.toList
    rw [Array.toArray_toList] at e
    rw [e]
    have hl:(fl6 (d'.toList.map (·.1))).length=n * 6:=by rw [fl6_length,List.length_map,Array.length_toList,hd]
    rw [←hl]
    exact take_put cur _ (by rw [hl,hsz];omega)
   ·obtain ⟨x,hx,rfl⟩:=List.mem_map.1 hp2
    have:=x.2.1
    rw [hw]
    refine this.keep fun b hb=>⟨by subst hP';exact hb,hgr.block b (hPg b hb).1 (fun e=>by injection e with e;exact (hPg b hb).2 e)⟩
  ·have hgr:=grown_sortR (enc:=encR) (k:=6) (w:=w) (g:=g) (n:=m) (os:=os) d'
   rw [hw]
   exact ⟨⟨hgr.os,hgr.tape,hgr.output,hgr.size,fun j hj=>hgr.block j (by omega) (fun e=>by injection e with e;omega)⟩,fun b hb ho=>hgr.block b hb (fun e=>ho (hob.trans e.symm))⟩
end
theorem RRow.wideK {w:World} {B n c:Nat} {P Q:Nat→Prop} {A:Option Addr} {ps:List Rg} (h:RRow w B P A n c ps) (hP:∀ b,P b→(Value.slice A n c).ownBlock≠some b→Q b):RRow w B Q A n c ps:=
 ⟨h.own,fun p hp=>(h.kid p hp).keep (fun b hb2=>⟨⟨hP b hb2.1 hb2.2,hb2.2⟩,rfl⟩)⟩
theorem RRow.ft {w w':World} {B n c:Nat} {A:Option Addr} {ps:List Rg} (h:RRow w B (Ft B w) A n c ps) (hb:Below w.heap.size w w'):RRow w' B (Ft B w') A n c ps:=
 (h.keep hb (fun b hb=>hb.1.2)).wide (fun b hb2=>⟨⟨hb2.1.1,Ql hb2.1.2 hb.size⟩,hb2.2.of (hb.block b hb2.1.2)⟩)
theorem RRow.gt {w w':World} {B n c g:Nat} {ps:List Rg} (h:RRow w' B (Ft B w) (some ⟨g,0,none⟩) n c ps) (hg:w.grownBy w' (some g)):RRow w' B (Ft B w') (some ⟨g,0,none⟩) n c ps:=
 h.wideK (fun b hb ho=>⟨⟨hb.1.1,Ql hb.1.2 hg.size⟩,hb.2.of (hg.block b hb.1.2 (fun e=>ho (e ▸ by rw [show (Value.slice (some (⟨g,0,none⟩:Addr)) n c).ownBlock=some g from rfl] <;> exact e.symm ▸ rfl)))⟩)
theorem wpList_app1T {ops:Array Oper} {rest:List Oper} {o:Oper} {a:Act} {Q:Exit→Act→World→Prop} {wr w3:World} {B n c:Nat} {A:Option Addr} {ps:List Rg} {q:Rg}
  (hgd:o.guard=none) (s x:Operand) (ho:o.op = .call { callee:=.builtin .append,args:=#[s,x],argTypes:=#[22,22] })
  (hs:a.eval s = .slice A n c) (hx:a.eval x = .slice (some ⟨w3.heap.size,0,none⟩) 1 1)
  (hrow:RRow wr B (Ft B wr) A n c ps) (hB:B≤wr.heap.size) (hw:Below wr.heap.size wr w3) (hf:Rg.At w3 (fun b=>Ft B w3 b∧(Value.slice A n c).ownBlock≠some b) q) (hm:n+1≤maxRg)
  (hh:∀ A' c' w',RRow w' B (Ft B w') A' (n+1) c' (ps ++ [q])→Below B wr w'→wr.heap.size≤w'.heap.size→wpList Tryz.prog ops Q rest (a.put o.dst (.slice A' (n+1) c')) w') :
  wpList Tryz.prog ops Q (o :: rest) a (w3.alloc (.cells (cells6 q).toArray 69)):=by
 have hb6:Below w3.heap.size w3 (w3.alloc (.cells (cells6 q).toArray 69)):=Qb
 have hbw:=Qt hw hb6
 have hrow6:=RRow.ft hrow hbw
 have hnews:=heap_alloc_new w3 (.cells (cells6 q).toArray 69)
 have hnw:∀ j u,(fl6 [q])[j]?=some u→(w3.alloc (.cells (cells6 q).toArray 69)).cell? ((⟨w3.heap.size,0,none⟩:Addr).add j)=some u:=fun j u hj=>by
  rw [add_zero',cell_of_row _ w3.heap.size j _ _ (0,0) hnews,←hj]
  simp [fl6]
 have hkid:Rg.At (w3.alloc (.cells (cells6 q).toArray 69)) (fun b'=>Ft B (w3.alloc (.cells (cells6 q).toArray 69)) b'∧(Value.slice A n c).ownBlock≠some b') q:=hf.keep (fun b' hb=>⟨⟨⟨⟨hb.1.1.1,Ql hb.1.1.2 hb6.size⟩,hb.1.2.of (hb6.block b' hb.1.1.2)⟩,hb.2⟩,hb6.block b' hb.1.1.2⟩)
 generalize w3.alloc (.cells (cells6 q).toArray 69)=w6 at *
 refine wpList_append_R hgd s x ho [q] hs (hrow6.wideK (Q:=fun b=>Ft B w6 b∧(Value.slice A n c).ownBlock≠some b) (fun b h1 h2=>⟨h1,h2⟩)) (fun b hb=>hb.1.1.2) ⟨w3.heap.size,0,none⟩ 1 1 hx rfl (fun y hy=>by rw [List.mem_singleton.1 hy];exact hkid.keep (fun b hb=>⟨⟨hb,hb.2⟩,rfl⟩)) hnw hm (by have:=hbw.size;omega) ?_
 intro A' c' w' hr hb hg
 exact hh A' c' w' (hr.wide (fun b hb2=>⟨⟨hb2.1.1.1,Ql hb2.1.1.2 hg.size⟩,hb2.1.2.of (hg.block b hb2.1.1.2 (fun e=>hb2.2 e.symm))⟩)) ((hbw.mono hB).trans hb) (Nat.le_trans hbw.size hg.size)
theorem RRow.apart_t {w w3:World} {B n c lo:Nat} {A:Option Addr} {ps:List Rg} {P:Nat→Prop} {q:Rg} (h:RRow w B P A n c ps) (hB:B≤w.heap.size) (hl:w.heap.size≤lo) (hq:Rg.At w3 (fun x=>(lo≤x∧x<w3.heap.size)∧Th w3 x) q):Rg.At w3 (fun b=>Ft B w3 b∧(Value.slice A n c).ownBlock≠some b) q:=
 hq.keep fun b hb=>⟨⟨⟨⟨by have:=hb.1.1;omega,hb.1.2⟩,hb.2⟩,by
  rcases h.block with ⟨h1,_⟩ | ⟨g1,h1,h2,h3,h4⟩
  ·subst h1;simp [Value.ownBlock]
  ·rw [h4];intro e;injection e with e;have:=hb.1.1;omega⟩,rfl⟩
structure N1t (w:World) (B:Nat) (L:List R) (k:Nat) (A:Option Addr) (m c:Nat) (qs:List Rg) (wr:World):Prop where
 bel:Below B w wr
 le:B≤wr.heap.size
 row:RRow wr B (Ft B wr) A m c qs
 nrm:∀ q∈qs,Gd q
 oks:∀ r,r∈qs.map edsR↔r∈L.take k∧ok r
 len:m≤k
theorem N1t.skip {w wr w':World} {B k m c:Nat} {L:List R} {A:Option Addr} {qs:List Rg} {r:R} (h:N1t w B L k A m c qs wr) (hr:L[k]?=some r) (hn:¬ok r) (hb:Below wr.heap.size wr w'):N1t w B L (k+1) A m c qs w':=
 ⟨h.bel.trans (hb.mono h.le),Nat.le_trans h.le hb.size,h.row.ft hb,h.nrm,fun s=>by
  rw [h.oks s,List.take_add_one,hr]
  simp only [Option.toList_some,List.mem_append,List.mem_singleton]
  constructor
  ·rintro ⟨h1,h2⟩;exact ⟨.inl h1,h2⟩
  ·rintro ⟨h1 | h1,h2⟩
   ·exact ⟨h1,h2⟩
   ·subst h1;exact absurd h2 hn,Nat.le_succ_of_le h.len⟩
theorem N1t.add {w wr w':World} {B k m c c':Nat} {L:List R} {A A':Option Addr} {qs:List Rg} {q:Rg} (h:N1t w B L k A m c qs wr) (hr:L[k]?=some (edsR q)) (hn:ok (edsR q)) (hq:Gd q) (hb:Below B wr w') (hrow:RRow w' B (Ft B w') A' (m+1) c' (qs ++ [q])):N1t w B L (k+1) A' (m+1) c' (qs ++ [q]) w':=
 ⟨h.bel.trans hb,Nat.le_trans h.le hb.size,hrow,fun s hs=>by
  rcases List.mem_append.1 hs with h1 | h1
  ·exact h.nrm s h1
  ·rw [List.mem_singleton.1 h1];exact hq,fun s=>by
  rw [List.map_append,List.mem_append,h.oks s,List.take_add_one,hr]
  simp only [Option.toList_some,List.mem_append,List.mem_singleton,List.map_cons,List.map_nil]
  constructor
  ·rintro (⟨h1,h2⟩ | h1)
   ·exact ⟨.inl h1,h2⟩
   ·subst h1;exact ⟨.inr rfl,hn⟩
  ·rintro ⟨h1 | h1,h2⟩
   ·exact .inl ⟨h1,h2⟩
   ·exact .inr h1,Nat.succ_le_succ h.len⟩
def NormResT (w:World) (L:List R) (n:Nat) (A':Option Addr) (n' c':Nat) (qs:List Rg) (w':World):Prop:=
 RRow w' w.heap.size (Ft w.heap.size w') A' n' c' qs∧(∀ q∈qs,Gd q)∧NF (qs.map edsR)∧(∀ z,Hf.mem z (qs.map edsR)↔Hf.mem z L)∧(∀ r∈qs.map edsR,(∃ s∈L,s.1=r.1)∧∃ s∈L,s.2=r.2)∧n'≤n∧Below w.heap.size w w'
def NormPostT (w:World) (L:List R) (n:Nat) (e:Ending) (w':World):Prop:=∃ A' n' c' qs,e = .returned (.slice A' n' c')∧NormResT w L n A' n' c' qs w'
theorem normal_t {w:World} {P:Nat→Prop} {A:Option Addr} {n c:Nat} {ps:List Rg} (h:SetP w P A n c ps) (hP:∀ b,P b→b<w.heap.size) (hs:Szs ps) (hn:n≤1073741824) :
  Calls Tryz.prog 73 #[.slice A n c] w (NormPostT w (ps.map edsR) n):=by
 have HS:=Qh h
 have HP:=Qh hP
 have HSz:=Qh hs
 have HLn:=Qh h.row.len
 have hcap:=h.row.cap
 have hmax:=h.row.max
 unfold maxLen at hmax
 have HN0:=Qh (show N1t w w.heap.size (ps.map edsR) 0 none 0 0 [] w from ⟨Below.refl _ _,Nat.le_refl _,RRow.nil _ _ _,by simp,fun r=>by simp,Nat.le_refl _⟩)
 obtain ⟨B,hB⟩:∃ B,w.heap.size=B:=⟨_,rfl⟩
 have HB:=Qh hB
 rw [hB] at HN0
 clear h hP hs hB
 go_enter Tryz.func73,Tryz.ntmps73
 go_wp2_with fail
 go_step3
 go_wp2_with fail
 go_loopw [3,11] (fun vo vi wr=>∃ k A' m c' qs,k≤n∧vi = .int .i64 (k:Nat)∧vo = .slice A' m c'∧Hid (N1t w B (ps.map edsR) k A' m c' qs wr)) (fun _ vi _=>n - (intOf vi).toNat)
 case atStart=>exact ⟨0,none,0,0,[],Nat.zero_le _,rfl,rfl,HN0⟩
 case round=>
  obtain ⟨k,A2,m,c2,qs,hk,rfl,rfl,HI⟩:=hrel
  clear HN0
  by_cases hkn:k<n
  ·obtain ⟨p,hp⟩:∃ p,ps[k]?=some p:=⟨ps[k]'(by have:=HLn.out;omega),by simp⟩
   obtain ⟨b,o,rfl,hPb,q0,q1,q2,q3,q4,q5⟩:=HS.out.row.at_ hp
   have hbB:b<B:=by have:=HP.out b hPb;have:=HB.out;omega
   have HKid:=Qh (HS.out.kid p (List.mem_of_getElem? hp))
   have HSp:=Qh (HSz.out p (List.mem_of_getElem? hp))
   have HSk:=Qh (show szE p.1.ed≤33554432∧szE p.2.ed≤33554432 from ⟨szE_raw HKid.out.a HSp.out.1,szE_raw HKid.out.b HSp.out.2⟩)
   have HLk:=Qh (show (ps.map edsR)[k]?=some (edsR p) by simp [hp])
   have hblk:=HI.out.bel.block b hbB
   have i0:=(Qc (a:=⟨b,o+k * 6,none⟩) hblk).trans q0
   have i1:=(Qc (a:=⟨b,o+k * 6+1,none⟩) hblk).trans q1
   have i2:=(Qc (a:=⟨b,o+k * 6+2,none⟩) hblk).trans q2
   have i3:=(Qc (a:=⟨b,o+k * 6+3,none⟩) hblk).trans q3
   have i4:=(Qc (a:=⟨b,o+k * 6+4,none⟩) hblk).trans q4
   have i5:=(Qc (a:=⟨b,o+k * 6+5,none⟩) hblk).trans q5
   have HCl:=Qh (fun (z:World) (hz:Below B w z)=>And.intro
    (clean_t (w:=z) (HKid.out.a.keep (Q:=P) (fun x hx=>⟨hx,hz.block x (by have:=HP.out x hx;have:=HB.out;omega)⟩)) (fun x hx=>Ql (HP.out x hx) hz.size) (fun e=>Nat.le_trans (HSp.out.1 e) (by omega)))
    (clean_t (w:=z) (HKid.out.b.keep (Q:=P) (fun x hx=>⟨hx,hz.block x (by have:=HP.out x hx;have:=HB.out;omega)⟩)) (fun x hx=>Ql (HP.out x hx) hz.size) (fun e=>Nat.le_trans (HSp.out.2 e) (by omega))))
   obtain ⟨⟨p1i,p1g,p1A,p1n,p1c,p1l⟩,⟨p2i,p2g,p2A,p2n,p2c,p2l⟩⟩:=p
   have HX:=Qh (RBox.new wr (⟨p1i,p1g,p1A,p1n,p1c,p1l⟩,⟨p2i,p2g,p2A,p2n,p2c,p2l⟩))
   have HBx:=Qh (show Below wr.heap.size wr (wr.alloc (.cells (cells6 (⟨p1i,p1g,p1A,p1n,p1c,p1l⟩,⟨p2i,p2g,p2A,p2n,p2c,p2l⟩)).toArray 69)) from Qb)
   simp only [cells6_eq,Bd.v,Bd.vals] at HX HBx HCl i0 i1 i2 i3 i4 i5
   obtain ⟨eA,heA⟩:∃ e,Bd.ed ⟨p1i,p1g,p1A,p1n,p1c,p1l⟩=e:=⟨_,rfl⟩
   obtain ⟨eB,heB⟩:∃ e,Bd.ed ⟨p2i,p2g,p2A,p2n,p2c,p2l⟩=e:=⟨_,rfl⟩
   have hLk:=HLk.out
   unfold edsR at hLk
   dsimp only at hLk
   rw [heA,heB] at hLk
   rw [heA,heB] at HCl
   dsimp only at HSk
   rw [heA,heB] at HSk
   have HL2:=Qh hLk
   have hki:(k:Int)<(n:Int):=by omega
   have hk0:(0:Int)≤(k:Int):=by omega
   clear hp q0 q1 q2 q3 q4 q5 hblk hLk heA heB HLk HKid HSp
   go_upto_region 5 with fail
   refine wp_region_U 7 (by kernel_rfl) (fun z0 K0 hs0=>?_)
   refine tZ0 0 K0 ?_
   refine tZ0 1 K0 ?_ (y:=fun z5 hS=>by obtain ⟨q0,q1,q2,q3,q4,q5⟩:=(HX.out.below hS).cells;go_simp;rfl)
   refine tZ0 3 K0 ?_
   refine tZ0 4 K0 ?_ (y:=fun z5 hS=>by obtain ⟨q0,q1,q2,q3,q4,q5⟩:=(HX.out.below hS).cells;go_simp;rfl)
   refine uW 2 fun K hK=>?_
   go_simp
   (with_reducible refine (HCl.out _ (HI.out.bel.trans ((HBx.out.trans (K0.mono HBx.out.size)).mono HI.out.le))).1.mono ?_)
   rintro e z1 ⟨⟨ai,ag,aA,an,ac,al⟩,rfl,hat,hNa,hea,hb1⟩
   have K1:=Qt K0 hb1
   refine hK.out _ _ (fun _=>K1) ?_
   refine uW 5 fun K hK=>?_
   go_simp
   (with_reducible refine (HCl.out _ (HI.out.bel.trans ((HBx.out.trans (K1.mono HBx.out.size)).mono HI.out.le))).2.mono ?_)
   rintro e z2 ⟨⟨bi,bg,bA,bn,bc,bl⟩,rfl,hbt,hNb,heb,hb2⟩
   have K2:=Qt K1 hb2
   refine hK.out _ _ (fun _=>K2) ?_
   simp only [Bd.v,Bd.vals]
   refine tZ0 6 K2 ?_
   have HX2:=Qh (HX.out.below K2)
   obtain ⟨y0,y1,y2,y3,y4,y5⟩:=HX2.out.cells
   obtain ⟨f0,f1,f2,f3,f4,f5⟩:=HX2.out.frozens
   refine uW 7 fun K hK=>?_
   go_simp
   refine hK.out _ _ (fun h=>absurd h (by simp)) ?_
   refine wpAnyW_done (by kernel_rfl) ?_ _
   have HT:=Qh (HX2.out.set6 (⟨ai,ag,aA,an,ac,al⟩,⟨bi,bg,bA,bn,bc,bl⟩))
   have hsz0:=K0.size
   have hsz1:=hb1.size
   have hsz2:=hb2.size
   simp only [World.size_alloc] at hsz0
   have HBz:=Qh (show Below wr.heap.size wr z2 from Qt HBx.out K2)
   have HAt:=Qh (show Rg.At z2 (fun x=>(wr.heap.size<x∧x<z2.heap.size)∧Th z2 x) (⟨ai,ag,aA,an,ac,al⟩,⟨bi,bg,bA,bn,bc,bl⟩) from ⟨hat.keep (fun x hx=>⟨⟨⟨by have:=hx.1.1;omega,by have:=hx.1.2;omega⟩,hx.2.of (hb2.block x hx.1.2)⟩,hb2.block x hx.1.2⟩),hbt.wide (fun x hx=>⟨⟨by have:=hx.1.1;omega,hx.1.2⟩,hx.2⟩)⟩)
   have HNm:=Qh (Qa hNa hNb)
   have HGd:=Qh (Gd.mk' HAt.out hNa hNb (by rw [hea];exact HSk.out.1) (by rw [heb];exact HSk.out.2))
   have HEd:=Qh (show edsR (⟨ai,ag,aA,an,ac,al⟩,⟨bi,bg,bA,bn,bc,bl⟩)=(eA,eB) by unfold edsR;rw [hea,heb])
   clear K0 K1 K2 hb1 hb2 hat hbt hNa hNb hea heb hs0 HX HX2 HBx HCl hsz0 hsz1 hsz2 y0 y1 y2 y3 y4 y5 f0 f1 f2 f3 f4 f5 i0 i1 i2 i3 i4 i5
   generalize (((((z2.setCell ⟨wr.heap.size,0,none⟩ (.int .i64 ai)).setCell ⟨wr.heap.size,1,none⟩ (.bool ag)).setCell ⟨wr.heap.size,2,none⟩ (.slice aA an ac)).setCell ⟨wr.heap.size,3,none⟩ (.int .i64 bi)).setCell ⟨wr.heap.size,4,none⟩ (.bool bg)).setCell ⟨wr.heap.size,5,none⟩ (.slice bA bn bc)=w6 at *
   have HB6:=Qh (HBz.out.grown HT.out.2 HBz.out.size (Qg (by omega)))
   have HX6:=Qh HT.out.1
   have HA6:=Qh (HAt.out.keep (Q:=fun x=>(wr.heap.size<x∧x<w6.heap.size)∧Th w6 x) (fun x hx=>⟨⟨⟨hx.1.1,Ql hx.1.2 HT.out.2.size⟩,hx.2.of (HT.out.2.block x hx.1.2 (fun e=>by injection e with e;have:=hx.1.1;omega))⟩,HT.out.2.block x hx.1.2 (fun e=>by injection e with e;have:=hx.1.1;omega)⟩))
   have HCm:=Qh (fcmp_any HA6.out.a HA6.out.b (fun x hx=>hx.1.2) HNm.out.1.tri HNm.out.2.tri)
   have HOk:=Qh (ok_iff HNm.out.1.tri HNm.out.2.tri)
   have hta : -1≤ai∧ai≤1:=by have:=HNm.out.1.tri;unfold Bd.Tri at this;simp only at this;omega
   have htb : -1≤bi∧bi≤1:=by have:=HNm.out.2.tri;unfold Bd.Tri at this;simp only at this;omega
   obtain ⟨ta1,ta2⟩:=hta
   obtain ⟨tb1,tb2⟩:=htb
   have hHE:=HEd.out
   unfold edsR at hHE
   injection hHE with hHE1 hHE2
   dsimp only at hHE1 hHE2
   rw [hHE1,hHE2] at HOk
   simp only [Bd.v,Bd.vals] at HCm
   dsimp only at HOk
   obtain ⟨d,hd⟩:∃ d,cmpB ⟨ai,ag,aA,an,ac,al⟩ ⟨bi,bg,bA,bn,bc,bl⟩=d:=⟨_,rfl⟩
   rw [hd] at HCm HOk
   obtain ⟨y0,y1,y2,y3,y4,y5⟩:=HX6.out.cells
   clear HT HBz HAt hHE1 hHE2 hd
   have h4:0<ai∨(¬0<ai∧bi<0)∨(¬0<ai∧¬bi<0∧0<d)∨(¬0<ai∧¬bi<0∧¬0<d):=by omega
   rcases h4 with c1 | ⟨c1,c2⟩ | ⟨c1,c2,c3⟩ | ⟨c1,c2,c3⟩
   ·have HNo:=Qh (show ¬ok (eA,eB) from fun h=>(HOk.out.1 h).1 c1)
    have d1:decide (0<ai)=true:=decide_eq_true c1
    clear c1 HCm
    go_wp2_with fail
    go_roundw
    case rel=>exact ⟨k+1,A2,m,c2,qs,by omega,by go_num,rfl,Qh (HI.out.skip HL2.out HNo.out HB6.out)⟩
    case measure=>simp [intOf];omega
   ·have HNo:=Qh (show ¬ok (eA,eB) from fun h=>(HOk.out.1 h).2.1 c2)
    have d1:decide (0<ai)=false:=decide_eq_false c1
    have d2:decide (bi<0)=true:=decide_eq_true c2
    clear c1 c2 HCm
    go_wp2_with fail
    go_roundw
    case rel=>exact ⟨k+1,A2,m,_,qs,by omega,by go_num,rfl,Qh (HI.out.skip HL2.out HNo.out HB6.out)⟩
    case measure=>simp [intOf];omega
   ·have HNo:=Qh (show ¬ok (eA,eB) from fun h=>(HOk.out.1 h).2.2 c3)
    have d1:decide (0<ai)=false:=decide_eq_false c1
    have d2:decide (bi<0)=false:=decide_eq_false c2
    have d3:decide (0<d)=true:=decide_eq_true c3
    clear c1 c2 c3
    go_wp2_with (go_at_call 38;(with_reducible refine HCm.out.mono ?_);rintro e w7 ⟨rfl,hg7⟩)
    go_roundw
    case rel=>exact ⟨k+1,A2,m,_,qs,by omega,by go_num,rfl,Qh (HI.out.skip HL2.out HNo.out (Qt HB6.out hg7.bel))⟩
    case measure=>simp [intOf];omega
   ·have HYe:=Qh (HOk.out.2 ⟨c1,c2,c3⟩)
    have d1:decide (0<ai)=false:=decide_eq_false c1
    have d2:decide (bi<0)=false:=decide_eq_false c2
    have d3:decide (0<d)=false:=decide_eq_false c3
    have HMl:=Qh (show m+1≤maxRg by have:=HI.out.len;unfold maxRg;omega)
    clear c1 c2 c3
    go_wp2_with (first
     | ((go_at_call 38;(with_reducible refine HCm.out.mono ?_);rintro e w7 ⟨rfl,hg7⟩);have HB7:=Qh (HB6.out.trans (hg7.bel.mono HB6.out.size));have HX7:=Qh (HX6.out.below hg7.bel);have HA7:=Qh (HA6.out.keep (Q:=fun x=>(wr.heap.size≤x∧x<w7.heap.size)∧Th w7 x) (fun x hx=>⟨⟨⟨Nat.le_of_lt hx.1.1,Ql hx.1.2 hg7.bel.size⟩,hx.2.of (hg7.bel.block x hx.1.2)⟩,hg7.bel.block x hx.1.2⟩));clear y0 y1 y2 y3 y4 y5 hg7;obtain ⟨y0,y1,y2,y3,y4,y5⟩:=HX7.out.cells)
     | (at_builtin;refine wpList_app1T rfl _ _ rfl rfl rfl HI.out.row HI.out.le HB7.out (HI.out.row.apart_t HI.out.le (Nat.le_refl _) HA7.out) HMl.out ?_;intro A6 c6 w8 hr8 hb8 hs8;have HN8:=Qh (HI.out.add (by rw [HEd.out];exact HL2.out) (by rw [HEd.out];exact HYe.out) HGd.out hb8 hr8);clear hr8 hb8 hs8))
    go_roundw
    case rel=>exact ⟨k+1,A6,m+1,c6,_,by omega,by go_num,rfl,HN8⟩
    case measure=>simp [intOf];omega
  ·have hkn2:k=n:=by omega
   have hki:¬(k:Int)<(n:Int):=by omega
   have HTk:=Qh (show (ps.map edsR).take k=ps.map edsR from List.take_of_length_le (by rw [List.length_map];have:=HLn.out;omega))
   have HSo:=Qh (sort_t HI.out.row (fun b hb=>hb.1.2) (fun p hp=>(HI.out.nrm p hp).1.1.tri) HI.out.le (by have:=HI.out.len;omega))
   have HMn:=Qh (show m≤n by have:=HI.out.len;omega)
   clear hkn2
   go_wp2_with (go_at_call 102;(with_reducible refine HSo.out.mono ?_);rintro e w4 ⟨rfl,rs,hpm,hpw,hrow4,hb4,hs4⟩;have HRow:=Qh (hrow4.wideK (Q:=Ft B w4) (fun b hb ho=>⟨⟨hb.1.1,Ql hb.1.2 hb4.size⟩,hb.2.of (hs4 b hb.1.2 ho)⟩));have HB4:=Qh (HI.out.bel.trans hb4);have HRs:=Qh (Qa hpm hpw);have HZ4:=Qh hb4.size;clear hpm hpw hrow4 hb4 hs4)
   have HGs:=Qh (show ∀ q∈rs,Gd q from fun q hq=>HI.out.nrm q (HRs.out.1.mem_iff.1 hq))
   have HOs:=Qh (show ∀ r,r∈rs.map edsR↔r∈ps.map edsR∧ok r from fun r=>by rw [←HTk.out,←HI.out.oks r];exact (HRs.out.1.map edsR).mem_iff)
   have HPw:=Qh (show (rs.map edsR).Pairwise fun a b=>leE a.1 b.1 from List.pairwise_map.2 HRs.out.2)
   have HLe:=Qh (show B≤w4.heap.size from Nat.le_trans HI.out.le HZ4.out)
   have HLr:=Qh HRow.out.len
   have hcm:=HRow.out.cap
   have hcx:=hcm.2
   unfold maxLen at hcx
   have hmc:=hcm.1
   clear HSo HTk HI hki HRs HZ4 hcm
   go_step3
   go_wp2_with fail
   go_loopw [6,49] (fun vk vj wr=>∃ (j kk:Nat) (cs:List Rg),j≤m∧vj = .int .i64 (j:Nat)∧vk = .int .i64 (kk:Nat)∧kk≤j∧Hid (Below B w wr∧B≤wr.heap.size∧RRow wr B (Ft B wr) A2 m c2 cs∧(∀ q∈cs,Gd q)∧M2 rs cs j kk)) (fun _ vj _=>m - (intOf vj).toNat)
   case atStart=>exact ⟨0,0,rs,Nat.zero_le _,rfl,rfl,Nat.le_refl _,Qh ⟨HB4.out,HLe.out,HRow.out,HGs.out,M2.start rs⟩⟩
   case round=>
    obtain ⟨j,kk,cs,hj,rfl,rfl,hkj,HI⟩:=hrel
    clear HB4 HRow HLe HGs
    by_cases hjm:j<m
    ·obtain ⟨g,rfl,hBg,hgw,hob⟩:=HI.out.2.2.1.some_ (by omega)
     obtain ⟨r,hr⟩:∃ r,rs[j]?=some r:=⟨rs[j]'(by have:=HLr.out;omega),by simp⟩
     have hcr:=HI.out.2.2.2.2.at_ hr
     obtain ⟨i0,i1,i2,i3,i4,i5⟩:=HI.out.2.2.1.cells_at hcr
     have HGr:=Qh (HI.out.2.2.2.1 r (List.mem_of_getElem? hcr))
     have HKr:=Qh (HI.out.2.2.1.kid r (List.mem_of_getElem? hcr))
     have HR:=Qh (Qa hr hcr)
     obtain ⟨⟨ai,ag,aA,an,ac,al⟩,⟨bi,bg,bA,bn,bc,bl⟩⟩:=r
     have HX:=Qh (RBox.new wr (⟨ai,ag,aA,an,ac,al⟩,⟨bi,bg,bA,bn,bc,bl⟩))
     have HBx:=Qh (show Below wr.heap.size wr (wr.alloc (.cells (cells6 (⟨ai,ag,aA,an,ac,al⟩,⟨bi,bg,bA,bn,bc,bl⟩)).toArray 69)) from Qb)
     simp only [cells6_eq] at HX HBx
     simp only at i0 i1 i2 i3 i4 i5
     have hji:(j:Int)<(m:Int):=by omega
     have hj0:(0:Int)≤(j:Int):=by omega
     have HGw:=Qh (Qa hBg hgw)
     clear hr hcr hBg hob
     rcases Nat.eq_zero_or_pos kk with h0 | h0
     ·have dk:decide (0<(kk:Int))=false:=decide_eq_false (by omega)
      have dk2:decide (0<kk)=false:=decide_eq_false (by omega)
      have HK0:=Qh h0
      clear h0
      go_upto_region 14 with fail
      refine wp_region_H (by kernel_rfl) (fun z0 K0 hs0=>?_)
      refine tH0 0 K0 ?_
      refine tH0 1 K0 ?_
      refine tH0 2 K0 ?_
      refine tI0 3 K0 ?_
      refine tI0 4 K0 ?_
      refine tI0 5 K0 ?_
      refine tI0 6 K0 ?_
      refine tI0 7 K0 ?_
      refine tI0 8 K0 ?_
      refine tI0 9 K0 ?_
      refine tI0 10 K0 ?_
      refine tI0 11 K0 ?_
      refine tI0 12 K0 ?_
      refine tI0 13 K0 ?_
      refine oH0 14 fun K hK=>?_
      go_simp
      refine hK.out _ _ K0 ?_
      refine wpAnyH_end (by kernel_rfl) ?_ _
      have HBZ:=Qh K0
      have HBW:=Qh (Qt HBx.out K0)
      clear K0 hs0 dk dk2
      have HX7:=Qh (HX.out.below (HBZ.out))
      have HRw:=Qh (HI.out.2.2.1.ft HBW.out)
      have hkk:kk<m:=by omega
      obtain ⟨t,ht⟩:∃ t,cs[kk]?=some t:=⟨cs[kk]'(by have:=HRw.out.len;omega),by simp⟩
      obtain ⟨v0,v1,v2,v3,v4,v5⟩:=HRw.out.cells_at ht
      have u0:=HRw.out.frozen (kk * 6)
      have u1:=HRw.out.frozen (kk * 6+1)
      have u2:=HRw.out.frozen (kk * 6+2)
      have u3:=HRw.out.frozen (kk * 6+3)
      have u4:=HRw.out.frozen (kk * 6+4)
      have u5:=HRw.out.frozen (kk * 6+5)
      have HKz:=Qh (HKr.out.keep (Q:=fun b=>Ft B z0 b∧(Value.slice (some ⟨g,0,none⟩) m c2).ownBlock≠some b) (fun b hb=>⟨⟨⟨⟨hb.1.1.1,Ql hb.1.1.2 HBW.out.size⟩,hb.1.2.of (HBW.out.block b hb.1.1.2)⟩,hb.2⟩,HBW.out.block b hb.1.1.2⟩))
      have HP6:=Qh (HRw.out.put6 (fun b hb=>hb.1.2) ht HKz.out)
      have HM2:=Qh (HI.out.2.2.2.2.push HR.out.1 (fun p s e=>absurd e (by have:=HK0.out;omega)))
      have HG2:=Qh (show ∀ q∈cs.set kk (⟨ai,ag,aA,an,ac,al⟩,⟨bi,bg,bA,bn,bc,bl⟩),Gd q from fun q hq=>by
       rcases List.mem_or_eq_of_mem_set hq with h1 | h1
       ·exact HI.out.2.2.2.1 q h1
       ·rw [h1];exact HGr.out)
      obtain ⟨y0,y1,y2,y3,y4,y5⟩:=HX7.out.cells
      have hk0:(0:Int)≤(kk:Int):=by omega
      have hkm:(kk:Int)<(m:Int):=by omega
      simp only at y0 y1 y2 y3 y4 y5 HP6
      clear ht
      go_wp2_with fail
      go_roundw
      case rel=>
       have hz:=HBW.out.size
       refine ⟨j+1,kk+1,_,by omega,by go_num,by go_num,by omega,Qh ⟨(HI.out.1.trans (HBW.out.mono HI.out.2.1)).grown HP6.out.2 (Nat.le_trans HI.out.2.1 hz) (fun j e=>by injection e with e;have:=HGw.out.1;omega),Nat.le_trans (Nat.le_trans HI.out.2.1 hz) HP6.out.2.size,HP6.out.1.gt HP6.out.2,HG2.out,HM2.out⟩⟩
      case measure=>simp [intOf];omega
     ·have dk:decide (0<(kk:Int))=true:=decide_eq_true (by omega)
      have dk2:decide (0<kk)=true:=decide_eq_true (by omega)
      obtain ⟨p,hp⟩:∃ p,kk=p+1:=⟨kk - 1,by omega⟩
      have hkp:(kk:Int) - 1=(p:Int):=by omega
      obtain ⟨s,hcs⟩:∃ s,cs[p]?=some s:=⟨cs[p]'(by have:=HI.out.2.2.1.len;omega),by simp⟩
      have HCs:=Qh hcs
      have HGs:=Qh (HI.out.2.2.2.1 s (List.mem_of_getElem? hcs))
      have HKs:=Qh (HI.out.2.2.1.kid s (List.mem_of_getElem? hcs))
      have HKP:=Qh hp
      have hp0:(0:Int)≤(p:Int):=by omega
      have hpm:(p:Int)<(m:Int):=by omega
      have hp9:(p:Int)≤1073741824:=by have:=HMn.out;omega
      have hwp:IntKind.i64.wrap (p:Int)=(p:Int):=IntWalk.i64_in _ (by omega)
      obtain ⟨⟨ci,cg,cA,cn,cc,cl⟩,⟨di,dg,dA,dn,dc,dl⟩⟩:=s
      have HSt:=Qh (fun z (hz:Below wr.heap.size wr z)=>step_any (w:=z) 1 (.inl rfl) (HKs.out.b.keep (Q:=Fr B wr) (fun b hb=>⟨hb.1.1,hz.block b hb.1.1.2⟩)) (fun x hx=>Ql hx.2 hz.size) HGs.out.1.2.tri (fun _=>HGs.out.1.2) HGs.out.2.2)
      have HCa:=Qh (fun z (hz:Below wr.heap.size wr z) (d:Bd) (hd:d.At z (fun x=>x<z.heap.size)) (td:d.Tri)=>fcmp_any (w:=z) (HKr.out.a.keep (Q:=fun x=>x<z.heap.size) (fun b hb=>⟨Ql hb.1.1.2 hz.size,hz.block b hb.1.1.2⟩)) hd (fun x hx=>hx) HGr.out.1.1.tri td)
      have HCb:=Qh (fun z (hz:Below wr.heap.size wr z)=>fcmp_any (w:=z) (HKr.out.b.keep (Q:=fun x=>x<z.heap.size) (fun b hb=>⟨Ql hb.1.1.2 hz.size,hz.block b hb.1.1.2⟩)) (HKs.out.b.keep (Q:=fun x=>x<z.heap.size) (fun b hb=>⟨Ql hb.1.1.2 hz.size,hz.block b hb.1.1.2⟩)) (fun x hx=>hx) HGr.out.1.2.tri HGs.out.1.2.tri)
      have HL2:=Qh (cmpB_ge HGr.out.1.2.tri HGs.out.1.2.tri)
      obtain ⟨v2,hv2⟩:∃ v,cmpB ⟨bi,bg,bA,bn,bc,bl⟩ ⟨di,dg,dA,dn,dc,dl⟩=v:=⟨_,rfl⟩
      simp only [Bd.v,Bd.vals] at HSt HCa HCb
      rw [hv2] at HCb HL2
      clear hcs hp h0 hv2
      go_upto_region 14 with fail
      refine wp_region_H (by kernel_rfl) (fun z0 K0 hs0=>?_)
      refine tH0 0 K0 ?_
      refine tH0 1 K0 ?_
      refine tH0 2 K0 ?_
      refine tH0 3 K0 ?_
      refine tH0 4 K0 ?_ (y:=fun z5 hS=>by obtain ⟨q0,q1,q2,q3,q4,q5⟩:=(HX.out.below hS).cells;go_simp;rfl)
      refine tH0 5 K0 ?_
      refine tH0 6 K0 ?_
      refine tH0 7 K0 ?_
      refine tH0 8 K0 ?_
      refine tH0 9 K0 ?_
      refine tH0 10 K0 ?_ (y:=fun z5 hS=>by obtain ⟨q0,q1,q2,q3,q4,q5⟩:=(HI.out.2.2.1.ft (Qt HBx.out hS)).cells_at HCs.out;go_simp;rfl)
      refine oH0 11 fun K hK=>?_
      go_simp
      (with_reducible refine (HSt.out _ (HBx.out.trans (K0.mono HBx.out.size))).mono ?_)
      rintro e z1 ⟨⟨ei,eg,eA,en,ec,el⟩,rfl,het,hNe,hee,hb1⟩
      have K1:=Qt K0 hb1
      refine hK.out _ _ K1 ?_
      simp only [Bd.v,Bd.vals]
      refine oH0 12 fun K hK=>?_
      go_simp
      (with_reducible refine (HCa.out _ (HBx.out.trans (K1.mono HBx.out.size)) ⟨ei,eg,eA,en,ec,el⟩ (het.wide (fun x hx=>by
       rcases hx with hx | hx
       ·exact Ql hx.2 (Qt HBx.out K1).size
       ·exact hx.2)) hNe.tri).mono ?_)
      rintro e z2 ⟨rfl,hg2⟩
      have K2:=Qt K1 hg2.bel
      refine hK.out _ _ K2 ?_
      have HL1:=Qh (cmpB_ge HGr.out.1.1.tri hNe.tri)
      rw [hee,←succE_sh] at HL1
      obtain ⟨v1,hv1⟩:∃ v,cmpB ⟨ai,ag,aA,an,ac,al⟩ ⟨ei,eg,eA,en,ec,el⟩=v:=⟨_,rfl⟩
      rw [hv1] at HL1
      rw [hv1]
      clear hv1
      refine tH0 13 K2 ?_
      refine oH0 14 fun K hK=>?_
      go_simp
      refine hK.out _ _ K2 ?_
      refine wpAnyH_end (by kernel_rfl) ?_ _
      have HBZ:=Qh K2
      have HBW:=Qh (Qt HBx.out K2)
      clear K0 K1 K2 hs0 dk dk2 het hNe hee hb1 hg2 HSt HCa i0 i1 i2 i3 i4 i5
      by_cases hle:v1≤0
      ·have dv:decide (v1≤0)=true:=decide_eq_true hle
       have HLE:=Qh (HL1.out.1 hle)
       have HX7:=Qh (HX.out.below HBZ.out)
       have HRw:=Qh (HI.out.2.2.1.ft HBW.out)
       go_upto_region 15 with fail
       refine wp_region_H (by kernel_rfl) (fun z0 K0 hs0=>?_)
       refine tH0 0 K0 ?_
       refine tH0 1 K0 ?_ (y:=fun z5 hS=>by obtain ⟨q0,q1,q2,q3,q4,q5⟩:=(HX7.out.below hS).cells;go_simp;rfl)
       refine tH0 2 K0 ?_
       refine tH0 3 K0 ?_
       refine tH0 4 K0 ?_
       refine tH0 5 K0 ?_
       refine tH0 6 K0 ?_
       refine tH0 7 K0 ?_ (y:=fun z5 hS=>by obtain ⟨q0,q1,q2,q3,q4,q5⟩:=(HRw.out.ft hS).cells_at HCs.out;go_simp;rfl)
       refine oH0 8 fun K hK=>?_
       go_simp
       (with_reducible refine (HCb.out _ (HBW.out.trans (K0.mono HBW.out.size))).mono ?_)
       rintro e z3 ⟨rfl,hg3⟩
       have K3:=Qt K0 hg3.bel
       refine hK.out _ _ K3 ?_
       refine oH0 9 fun K hK=>?_
       go_simp
       refine hK.out _ _ K3 ?_
       refine wpAnyH_end (by kernel_rfl) ?_ _
       have HB3:=Qh (Qt HBW.out K3)
       have HX8:=Qh (HX7.out.below K3)
       have HR3:=Qh (HRw.out.ft K3)
       clear K0 K3 hs0 hg3 HX7 HRw
       by_cases hgt:0<v2
       ·have dw:decide (0<v2)=true:=decide_eq_true hgt
        have HM2:=Qh ((HKP.out ▸ HI.out.2.2.2.2:M2 rs cs j (p+1)).wide HCs.out HR.out.1 HLE.out (fun h=>absurd (HL2.out.2 h) (by omega)))
        have HGn:=Qh (show Gd (⟨ci,cg,cA,cn,cc,cl⟩,⟨bi,bg,bA,bn,bc,bl⟩) from ⟨⟨HGs.out.1.1,HGr.out.1.2⟩,HGs.out.2.1,HGr.out.2.2⟩)
        have HG2:=Qh (show ∀ q∈cs.set p (⟨ci,cg,cA,cn,cc,cl⟩,⟨bi,bg,bA,bn,bc,bl⟩),Gd q from fun q hq=>by
         rcases List.mem_or_eq_of_mem_set hq with h1 | h1
         ·exact HI.out.2.2.2.1 q h1
         ·rw [h1];exact HGn.out)
        have HKz:=Qh (HKr.out.b.keep (Q:=fun b=>Ft B z3 b∧(Value.slice (some ⟨g,0,none⟩) m c2).ownBlock≠some b) (fun b hb=>⟨⟨⟨⟨hb.1.1.1,Ql hb.1.1.2 HB3.out.size⟩,hb.1.2.of (HB3.out.block b hb.1.1.2)⟩,hb.2⟩,HB3.out.block b hb.1.1.2⟩))
        have HP3:=Qh (HR3.out.put3 (fun b hb=>hb.1.2) HCs.out HKz.out)
        obtain ⟨y0,y1,y2,y3,y4,y5⟩:=HX8.out.cells
        obtain ⟨w0,w1,w2,w3,w4',w5⟩:=HR3.out.cells_at HCs.out
        have u3:=HR3.out.frozen (p * 6+3)
        have u4:=HR3.out.frozen (p * 6+4)
        have u5:=HR3.out.frozen (p * 6+5)
        simp only at y0 y1 y2 y3 y4 y5 HP3
        go_wp2_with fail
        go_roundw
        case rel=>
         have hz:=HB3.out.size
         refine ⟨j+1,kk,_,by omega,by go_num,rfl,by omega,Qh ⟨(HI.out.1.trans (HB3.out.mono HI.out.2.1)).grown HP3.out.2 (Nat.le_trans HI.out.2.1 hz) (fun j e=>by injection e with e;have:=HGw.out.1;omega),Nat.le_trans (Nat.le_trans HI.out.2.1 hz) HP3.out.2.size,HP3.out.1.gt HP3.out.2,HG2.out,by rw [HKP.out];exact HM2.out⟩⟩
        case measure=>simp [intOf];omega
       ·have dw:decide (0<v2)=false:=decide_eq_false hgt
        have HM2:=Qh ((HKP.out ▸ HI.out.2.2.2.2:M2 rs cs j (p+1)).keep HCs.out HR.out.1 HLE.out (HL2.out.1 (by omega)))
        go_wp2_with fail
        go_roundw
        case rel=>
         have hz:=HB3.out.size
         refine ⟨j+1,kk,cs,by omega,by go_num,rfl,by omega,Qh ⟨HI.out.1.trans (HB3.out.mono HI.out.2.1),Nat.le_trans HI.out.2.1 hz,HR3.out,HI.out.2.2.2.1,by rw [HKP.out];exact HM2.out⟩⟩
        case measure=>simp [intOf];omega
      ·have dv:decide (v1≤0)=false:=decide_eq_false hle
       have HNle:=Qh (show ¬leE (Bd.ed ⟨ai,ag,aA,an,ac,al⟩) (succE (Bd.ed ⟨di,dg,dA,dn,dc,dl⟩)) from fun h=>hle (HL1.out.2 h))
       have HX7:=Qh (HX.out.below (HBZ.out))
       have HRw:=Qh (HI.out.2.2.1.ft HBW.out)
       have hkk:kk<m:=by omega
       obtain ⟨t,ht⟩:∃ t,cs[kk]?=some t:=⟨cs[kk]'(by have:=HRw.out.len;omega),by simp⟩
       obtain ⟨v0,v1,v2,v3,v4,v5⟩:=HRw.out.cells_at ht
       have u0:=HRw.out.frozen (kk * 6)
       have u1:=HRw.out.frozen (kk * 6+1)
       have u2:=HRw.out.frozen (kk * 6+2)
       have u3:=HRw.out.frozen (kk * 6+3)
       have u4:=HRw.out.frozen (kk * 6+4)
       have u5:=HRw.out.frozen (kk * 6+5)
       have HKz:=Qh (HKr.out.keep (Q:=fun b=>Ft B z2 b∧(Value.slice (some ⟨g,0,none⟩) m c2).ownBlock≠some b) (fun b hb=>⟨⟨⟨⟨hb.1.1.1,Ql hb.1.1.2 HBW.out.size⟩,hb.1.2.of (HBW.out.block b hb.1.1.2)⟩,hb.2⟩,HBW.out.block b hb.1.1.2⟩))
       have HP6:=Qh (HRw.out.put6 (fun b hb=>hb.1.2) ht HKz.out)
       have HM2:=Qh (HI.out.2.2.2.2.push HR.out.1 (fun p' s' e hs'=>by have e2:p'=p:=(by have:=HKP.out;omega);subst e2;rw [HCs.out] at hs';injection hs' with hs';rw [←hs'];exact HNle.out))
       have HG2:=Qh (show ∀ q∈cs.set kk (⟨ai,ag,aA,an,ac,al⟩,⟨bi,bg,bA,bn,bc,bl⟩),Gd q from fun q hq=>by
        rcases List.mem_or_eq_of_mem_set hq with h1 | h1
        ·exact HI.out.2.2.2.1 q h1
        ·rw [h1];exact HGr.out)
       obtain ⟨y0,y1,y2,y3,y4,y5⟩:=HX7.out.cells
       have hk0:(0:Int)≤(kk:Int):=by omega
       have hkm:(kk:Int)<(m:Int):=by omega
       simp only at y0 y1 y2 y3 y4 y5 HP6
       clear ht
       go_wp2_with fail
       go_roundw
       case rel=>
        have hz:=HBW.out.size
        refine ⟨j+1,kk+1,_,by omega,by go_num,by go_num,by omega,Qh ⟨(HI.out.1.trans (HBW.out.mono HI.out.2.1)).grown HP6.out.2 (Nat.le_trans HI.out.2.1 hz) (fun j e=>by injection e with e;have:=HGw.out.1;omega),Nat.le_trans (Nat.le_trans HI.out.2.1 hz) HP6.out.2.size,HP6.out.1.gt HP6.out.2,HG2.out,HM2.out⟩⟩
       case measure=>simp [intOf];omega
    ·have hjm2:j=m:=by omega
     have hji:¬(j:Int)<(m:Int):=by omega
     have HM:=Qh HI.out.2.2.2.2
     have HT:=Qh (HI.out.2.2.1.take (k:=kk) (by omega))
     have HD:=Qh (HM.out.done (by rw [HLr.out];exact hjm2))
     have HN:=Qh (norm_of HOs.out HPw.out)
     have hk0:(0:Int)≤(kk:Int):=by omega
     have hkm:(kk:Int)≤(m:Int):=by omega
     have hkc:(kk:Int)≤(c2:Int):=by omega
     have hkn:kk≤n:=by have:=HMn.out;omega
     have HGt:=Qh (show ∀ q∈cs.take kk,Gd q from fun q hq=>HI.out.2.2.2.1 q (List.mem_of_mem_take hq))
     have HBw:=Qh HI.out.1
     clear hjm2
     go_wp2_with fail
     go_ret
     have hB':=HB.out
     subst hB'
     exact ⟨_,_,_,_,rfl,HT.out,HGt.out,by rw [HD.out];exact HN.out.1,by rw [HD.out];exact HN.out.2.1,by rw [HD.out];exact HN.out.2.2,hkn,HBw.out⟩
end
section
open Go.RowKit Hb Hf
theorem pieceP_cons (r:R) (d:List R) (low:Ed):pieceP (r :: d) low=if leE r.1 low then (if leE low r.2 then (true,r.2) else pieceP d low) else (false,shE (-1) r.1):=by
 obtain ⟨a,b⟩:=r
 rw [pieceP]
 cases a <;> rfl
theorem piece_from:∀ (d:List R) (low:Ed),(pieceP d low).2 = .hi∨∃ r∈d,((pieceP d low).2=shE (-1) r.1∧¬leE r.1 low)∨((pieceP d low).2=r.2∧leE low r.2)
 | [],_=>.inl rfl
 | r :: d,low=>by
  rw [pieceP_cons]
  split
  ·split
   ·rename_i h;exact .inr ⟨r,List.mem_cons_self,.inr ⟨rfl,h⟩⟩
   ·rcases piece_from d low with h | ⟨s,hs,h⟩
    ·exact .inl h
    ·exact .inr ⟨s,List.mem_cons_of_mem _ hs,h⟩
  ·rename_i h;exact .inr ⟨r,List.mem_cons_self,.inl ⟨rfl,h⟩⟩
def mu1 (low:Ed) (r:R):Nat:=(if leE r.1 low then 0 else 1)+(if leE low r.2 then 1 else 0)
def mu (low:Ed) (L:List R):Nat:=(L.map (mu1 low)).sum
theorem mu_le (low:Ed):∀ L:List R,mu low L≤2 * L.length
 | []=>Nat.zero_le _
 | r :: L=>by
  have h1:=mu_le low L
  have h2:mu1 low r≤2:=by unfold mu1;split <;> split <;> omega
  show mu1 low r+mu low L≤_
  rw [List.length_cons]
  omega
theorem mu1_mono {l m:Ed} (h:leE l m) (r:R):mu1 m r≤mu1 l r:=by
 unfold mu1
 have a:leE r.1 l→leE r.1 m:=fun k=>leE_trans k h
 have b:leE m r.2→leE l r.2:=fun k=>leE_trans h k
 by_cases k1:leE r.1 l <;> by_cases k2:leE m r.2 <;> simp [k1,k2,a,b] <;> (try split) <;> omega
theorem mu_mono {l m:Ed} (h:leE l m):∀ L:List R,mu m L≤mu l L
 | []=>Nat.le_refl _
 | r :: L=>Nat.add_le_add (mu1_mono h r) (mu_mono h L)
theorem mu_lt {l m:Ed} (h:leE l m) {r:R} (hs:mu1 m r<mu1 l r):∀ {L:List R},r∈L→mu m L<mu l L
 | s :: L,hr=>by
  show mu1 m s+mu m L<mu1 l s+mu l L
  have h1:=mu1_mono h s
  have h2:=mu_mono h L
  rcases List.mem_cons.1 hr with e | hr
  ·subst e;omega
  ·have:=mu_lt h hs hr;omega
theorem minE_from {a b:List R} {low e:Ed} (he:minE (pieceP a low).2 (pieceP b low).2=e):e = .hi∨∃ r∈a ++ b,(e=shE (-1) r.1∧¬leE r.1 low)∨(e=r.2∧leE low r.2):=by
 have h:e=(pieceP a low).2∨e=(pieceP b low).2:=by rw [←he];exact minE_or _ _
 rcases h with h | h
 ·rcases piece_from a low with k | ⟨r,hr,k⟩
  ·exact .inl (h.trans k)
  ·exact .inr ⟨r,List.mem_append_left _ hr,by rw [h];exact k⟩
 ·rcases piece_from b low with k | ⟨r,hr,k⟩
  ·exact .inl (h.trans k)
  ·exact .inr ⟨r,List.mem_append_right _ hr,by rw [h];exact k⟩
structure MS (wt:Bool→Bool→Bool) (a b:List R) (M:Nat) (out:List R) (low:Ed):Prop where
 mi:MI wt a b out low
 bnd:∀ r∈out,szE r.1≤M+1∧szE r.2≤M+1
 lob:szE low≤M+1
 cnt:out.length+mu low (a ++ b)≤2 * (a.length+b.length)
 nhi:low ≠ .hi
theorem MS.start {wt:Bool→Bool→Bool} {a b:List R} {M:Nat} : MS wt a b M [] .lo:=
 ⟨MI.start,by simp,Nat.zero_le _,by have:=mu_le .lo (a ++ b);rw [List.length_append] at this;simpa using this,by simp⟩
def Bnd (M:Nat) (a:List R):Prop:=∀ r∈a,szE r.1≤M∧szE r.2≤M
structure MEnd (wt:Bool→Bool→Bool) (a b:List R) (M:Nat) (out:List R):Prop where
 mi:MI wt a b out .hi
 bnd:∀ r∈out,szE r.1≤M+1∧szE r.2≤M+1
 len:out.length≤2 * (a.length+b.length)+1
theorem MS.step {wt:Bool→Bool→Bool} {a b out:List R} {low e:Ed} {M:Nat} (h:MS wt a b M out low) (ha:NF a) (hb:NF b) (ba:Bnd M a) (bb:Bnd M b) (he:minE (pieceP a low).2 (pieceP b low).2=e) (k:List R)
  (hk:k=if wt (pieceP a low).1 (pieceP b low).1=true then [(low,e)] else []):szE e≤M+1∧(e = .hi→MEnd wt a b M (out ++ k))∧(e ≠ .hi→MS wt a b M (out ++ k) (succE e)∧mu (succE e) (a ++ b)<mu low (a ++ b)):=by
 obtain ⟨h1,h2⟩:=h.mi.step ha hb h.nhi he
 rw [←hk] at h1
 have hm:∀ r∈a ++ b,szE r.1≤M∧szE r.2≤M:=fun r hr=>(List.mem_append.1 hr).elim (ba r) (bb r)
 have hfrom:=minE_from he
 have hsz:szE e≤M+1:=by
  rcases hfrom with rfl | ⟨r,hr,⟨rfl,_⟩ | ⟨rfl,_⟩⟩
  ·exact Nat.zero_le _
  ·exact szE_step (hm r hr).1 (.inr rfl)
  ·exact Nat.le_succ_of_le (hm r hr).2
 have hkl:k.length≤1:=by rw [hk];split <;> simp
 have hbd:∀ r∈out ++ k,szE r.1≤M+1∧szE r.2≤M+1:=fun r hr=>by
  rcases List.mem_append.1 hr with hr | hr
  ·exact h.bnd r hr
  ·rw [hk] at hr
   split at hr
   ·rw [List.mem_singleton.1 hr];exact ⟨h.lob,hsz⟩
   ·cases hr
 refine ⟨hsz,fun heq=>?_,fun hne=>?_⟩
 ·subst heq
  refine ⟨h1,hbd,?_⟩
  rw [List.length_append]
  have:=h.cnt
  omega
 ·obtain ⟨y,hy,hly⟩:=h2.resolve_left hne
  have hle:leE low (succE e):=by
   rw [hy]
   cases low with
   | lo=>trivial
   | num x=>show x≤y+1;have:x≤y:=hly;omega
   | hi=>exact hly.elim
  have hlt:mu (succE e) (a ++ b)<mu low (a ++ b):=by
   rcases hfrom with k1 | ⟨r,hr,⟨k1,k2⟩ | ⟨k1,k2⟩⟩
   ·exact absurd k1 hne
   ·refine mu_lt hle ?_ hr
    have e1:succE e=r.1:=by
     rw [k1] at hy ⊢
     cases hr1:r.1 with
     | num x=>show Ed.num (x + -1+1)=_;congr 1;omega
     | lo=>rw [hr1] at hy;cases hy
     | hi=>rfl
    rw [e1] at hle ⊢
    unfold mu1
    rw [if_pos (leE_refl _),if_neg k2]
    by_cases k3:leE r.1 r.2
    ·rw [if_pos k3,if_pos (leE_trans hle k3)];omega
    ·rw [if_neg k3];split <;> omega
   ·refine mu_lt hle ?_ hr
    unfold mu1
    rw [if_pos k2]
    have k3:¬leE (succE e) r.2:=by
     rw [←k1,hy]
     show ¬y+1≤y
     omega
    rw [if_neg k3]
    by_cases k4:leE r.1 low
    ·rw [if_pos k4,if_pos (leE_trans k4 hle)];omega
    ·rw [if_neg k4];split <;> omega
  refine ⟨⟨h1,hbd,?_,?_,by rw [hy];simp [succE]⟩,hlt⟩
  ·rcases hfrom with k1 | ⟨r,hr,⟨k1,k2⟩ | ⟨k1,k2⟩⟩
   ·exact absurd k1 hne
   ·have e1:szE (succE e)=szE r.1:=by
     rw [k1]
     cases hr1:r.1 with
     | num x=>show szE (.num (x + -1+1))=_;congr 2;omega
     | lo=>rfl
     | hi=>rfl
    rw [e1]
    exact Nat.le_succ_of_le (hm r hr).1
   ·rw [k1,succE_sh];exact szE_step (hm r hr).2 (.inl rfl)
  ·rw [List.length_append]
   have:=h.cnt
   omega
end
section
open Go.RowKit Hb Hf
attribute [local go_sem ↓] Go.wp_at_zero Go.wp_at_succ
def PiecePost (w:World) (P:Nat→Prop) (L:List R) (low:Ed) (en:Ending) (w':World):Prop:=
 ∃ d:Bd,en = .returned (.tuple #[.bool (pieceP L low).1,d.v])∧d.At w' (Or P w.heap.size w')∧d.Nrm∧d.ed=(pieceP L low).2∧Below w.heap.size w w'
theorem piece_drop {L:List R} {low:Ed} {k:Nat} {r:R} (hk:L[k]?=some r) (h:pieceP (L.drop k) low=pieceP L low):pieceP L low=if leE r.1 low then (if leE low r.2 then (true,r.2) else pieceP (L.drop (k+1)) low) else (false,shE (-1) r.1):=by
 have hl:k<L.length:=(List.getElem?_eq_some_iff.1 hk).1
 have e:L.drop k=r :: L.drop (k+1):=by
  rw [List.drop_eq_getElem_cons hl]
  congr 1
  rw [List.getElem?_eq_getElem hl] at hk
  exact Option.some.inj hk
 rw [←h,e,pieceP_cons]
theorem piece_any {w:World} {P PL:Nat→Prop} {A:Option Addr} {n c:Nat} {ps:List Rg} {low:Bd} (h:SetP w P A n c ps) (hg:∀ p∈ps,Gd p) (hl:low.At w PL) (hn:low.Nrm) (hP:∀ b,P b→b<w.heap.size) (hPL:∀ b,PL b→b<w.heap.size) (hN:n≤1073741824) :
  Calls Tryz.prog 120 #[.slice A n c,low.v] w (PiecePost w P (ps.map edsR) low.ed):=by
 have HS:=Qh h
 have HP:=Qh hP
 have HPL:=Qh hPL
 have HGd:=Qh hg
 have HLo:=Qh (Qa hl hn)
 have HLn:=Qh h.row.len
 have hcap:=h.row.cap
 have hmax:=h.row.max
 unfold maxLen at hmax
 obtain ⟨B,hB⟩:∃ B,w.heap.size=B:=⟨_,rfl⟩
 have HB:=Qh hB
 have HBo:=Qh (show EBox ((w.alloc (.cells low.vals.toArray 67)).alloc (.cells (ib 0).vals.toArray 67)) B low∧EBox ((w.alloc (.cells low.vals.toArray 67)).alloc (.cells (ib 0).vals.toArray 67)) (B+1) (ib 0)∧Below B w ((w.alloc (.cells low.vals.toArray 67)).alloc (.cells (ib 0).vals.toArray 67))∧B+1+1≤((w.alloc (.cells low.vals.toArray 67)).alloc (.cells (ib 0).vals.toArray 67)).heap.size by
  rw [←hB]
  have e2:=EBox.new (w.alloc (.cells low.vals.toArray 67)) (ib 0)
  rw [World.size_alloc] at e2
  exact ⟨(EBox.new w low).below (Qb),e2,(Qb).alloc (by simp) _,by simp⟩)
 obtain ⟨E,hE⟩:∃ E,pieceP (ps.map edsR) low.ed=E:=⟨_,rfl⟩
 have HE:=Qh hE
 obtain ⟨li,lg,lA,ln,lc,ll⟩:=low
 simp only [Bd.v,Bd.vals] at *
 have HE0:=Qh (show pieceP ((ps.map edsR).drop 0) (Bd.ed ⟨li,lg,lA,ln,lc,ll⟩)=pieceP (ps.map edsR) (Bd.ed ⟨li,lg,lA,ln,lc,ll⟩) from rfl)
 unfold PiecePost
 rw [hE,hB]
 clear h hg hl hn hP hPL hB hE
 obtain ⟨x0,x1,x2⟩:=HBo.out.1.cells
 go_enter Tryz.func120,Tryz.ntmps120
 go_wp2_with fail
 rw [HB.out]
 go_loopw [10] (fun vi wr=>∃ k,k≤n∧vi = .int .i64 (k:Nat)∧Hid (EBox wr B ⟨li,lg,lA,ln,lc,ll⟩∧EBox wr (B+1) (ib 0)∧Below B w wr∧B+1+1≤wr.heap.size∧pieceP ((ps.map edsR).drop k) (Bd.ed ⟨li,lg,lA,ln,lc,ll⟩)=pieceP (ps.map edsR) (Bd.ed ⟨li,lg,lA,ln,lc,ll⟩))) (fun vi _=>n - (intOf vi).toNat)
 case atStart=>exact ⟨0,Nat.zero_le _,rfl,Qh ⟨HBo.out.1,HBo.out.2.1,HBo.out.2.2.1,HBo.out.2.2.2,HE0.out⟩⟩
 case round=>
  obtain ⟨k,hk,rfl,HI⟩:=hrel
  clear HBo x0 x1 x2
  obtain ⟨x0,x1,x2⟩:=HI.out.1.cells
  obtain ⟨y0,y1,y2⟩:=HI.out.2.1.cells
  obtain ⟨f0,f1,f2⟩:=HI.out.2.1.frozens
  simp only at x0 x1 x2 y0 y1 y2
  by_cases hkn:k<n
  ·obtain ⟨p,hp⟩:∃ p,ps[k]?=some p:=⟨ps[k]'(by have:=HLn.out;omega),by simp⟩
   obtain ⟨b,o,rfl,hPb,q0,q1,q2,q3,q4,q5⟩:=HS.out.row.at_ hp
   have hbB:b<B:=by have:=HP.out b hPb;have:=HB.out;omega
   have HKid:=Qh (HS.out.kid p (List.mem_of_getElem? hp))
   have HGp:=Qh (HGd.out p (List.mem_of_getElem? hp))
   have HEq:=Qh (piece_drop (by rw [List.getElem?_map,hp];rfl) HI.out.2.2.2.2)
   have hblk:=HI.out.2.2.1.block b hbB
   have i0:=(Qc (a:=⟨b,o+k * 6,none⟩) hblk).trans q0
   have i1:=(Qc (a:=⟨b,o+k * 6+1,none⟩) hblk).trans q1
   have i2:=(Qc (a:=⟨b,o+k * 6+2,none⟩) hblk).trans q2
   have i3:=(Qc (a:=⟨b,o+k * 6+3,none⟩) hblk).trans q3
   have i4:=(Qc (a:=⟨b,o+k * 6+4,none⟩) hblk).trans q4
   have i5:=(Qc (a:=⟨b,o+k * 6+5,none⟩) hblk).trans q5
   have keepP:∀ (z:World),Below B w z→∀ x,P x→P x∧z.heap[x]?=w.heap[x]?:=fun z hz x hx=>⟨hx,hz.block x (by have:=HP.out x hx;have:=HB.out;omega)⟩
   have ltP:∀ (z:World),Below B w z→∀ x,P x→x<z.heap.size:=fun z hz x hx=>Ql (HP.out x hx) hz.size
   have keepL:∀ (z:World),Below B w z→∀ x,PL x→(fun x=>x<z.heap.size) x∧z.heap[x]?=w.heap[x]?:=fun z hz x hx=>⟨Ql (HPL.out x hx) hz.size,hz.block x (by have:=HPL.out x hx;have:=HB.out;omega)⟩
   have keepQ:∀ (z:World),Below B w z→∀ x,P x→(fun x=>x<z.heap.size) x∧z.heap[x]?=w.heap[x]?:=fun z hz x hx=>⟨ltP z hz x hx,(keepP z hz x hx).2⟩
   have HC1:=Qh (fun z (hz:Below B w z)=>fcmp_any (w:=z) (HLo.out.1.keep (keepL z hz)) (HKid.out.a.keep (keepQ z hz)) (fun x hx=>hx) HLo.out.2.tri HGp.out.1.1.tri)
   have HC2:=Qh (fun z (hz:Below B w z)=>fcmp_any (w:=z) (HLo.out.1.keep (keepL z hz)) (HKid.out.b.keep (keepQ z hz)) (fun x hx=>hx) HLo.out.2.tri HGp.out.1.2.tri)
   have HSt:=Qh (fun z (hz:Below B w z)=>step_any (w:=z) (-1) (.inr rfl) (HKid.out.a.keep (keepP z hz)) (ltP z hz) HGp.out.1.1.tri (fun _=>HGp.out.1.1) HGp.out.2.1)
   have HJ1:=Qh (cmpB_le HGp.out.1.1.tri HLo.out.2.tri)
   have HJ2:=Qh (cmpB_ge HLo.out.2.tri HGp.out.1.2.tri)
   have HKp:=Qh (fun z (hz:Below B w z)=>HKid.out.b.keep (keepP z hz))
   obtain ⟨⟨p1i,p1g,p1A,p1n,p1c,p1l⟩,⟨p2i,p2g,p2A,p2n,p2c,p2l⟩⟩:=p
   have hX:=RBox.new wr (⟨p1i,p1g,p1A,p1n,p1c,p1l⟩,⟨p2i,p2g,p2A,p2n,p2c,p2l⟩)
   have hBx:Below wr.heap.size wr (wr.alloc (.cells (cells6 (⟨p1i,p1g,p1A,p1n,p1c,p1l⟩,⟨p2i,p2g,p2A,p2n,p2c,p2l⟩)).toArray 69)):=Qb
   have HX:=Qh hX
   have HBx:=Qh hBx
   unfold edsR at HEq
   simp only [Bd.v,Bd.vals] at HC1 HC2 HSt HJ1 HJ2 HKp HGp HEq
   simp only [cells6_eq] at HX HBx i0 i1 i2 i3 i4 i5
   obtain ⟨z0,z1,z2,z3,z4,z5⟩:=HX.out.cells
   simp only at z0 z1 z2 z3 z4 z5
   obtain ⟨v1,hv1⟩:∃ v,cmpB ⟨li,lg,lA,ln,lc,ll⟩ ⟨p1i,p1g,p1A,p1n,p1c,p1l⟩=v:=⟨_,rfl⟩
   obtain ⟨v2,hv2⟩:∃ v,cmpB ⟨li,lg,lA,ln,lc,ll⟩ ⟨p2i,p2g,p2A,p2n,p2c,p2l⟩=v:=⟨_,rfl⟩
   rw [hv1] at HC1 HJ1
   rw [hv2] at HC2 HJ2
   have hki:(k:Int)<(n:Int):=by omega
   have hk0:(0:Int)≤(k:Int):=by omega
   have HSz:=Qh (show B≤wr.heap.size by have:=HI.out.2.2.2.1;omega)
   have HIB:=Qh (Qa (HI.out.1.below hBx) (HI.out.2.1.below hBx))
   simp only [cells6_eq] at HIB
   clear hp q0 q1 q2 q3 q4 q5 hblk hX hBx HKid keepP keepL keepQ ltP hv1 hv2 x0 x1 x2 y0 y1 y2 f0 f1 f2
   obtain ⟨x0,x1,x2⟩:=HIB.out.1.cells
   obtain ⟨y0,y1,y2⟩:=HIB.out.2.cells
   obtain ⟨f0,f1,f2⟩:=HIB.out.2.frozens
   simp only at x0 x1 x2 y0 y1 y2
   by_cases c1:v1<0
   ·have HEe:=Qh (show pieceP (ps.map edsR) (Bd.ed ⟨li,lg,lA,ln,lc,ll⟩)=(false,shE (-1) (Bd.ed ⟨p1i,p1g,p1A,p1n,p1c,p1l⟩)) from HEq.out.trans (if_neg (fun h=>HJ1.out.2 h c1)))
    have d1:decide (v1<0)=true:=decide_eq_true c1
    go_wp2_with (first
     | (go_at_call 38;(with_reducible refine (HC1.out _ (HI.out.2.2.1.trans (HBx.out.mono HSz.out))).mono ?_);rintro e w4 ⟨rfl,hg4⟩;have HB4:=Qh (HBx.out.trans (hg4.bel.mono HBx.out.size));have HX4:=Qh (HX.out.below hg4.bel);have HY4:=Qh (HIB.out.2.below hg4.bel);clear hg4 z0 z1 z2 z3 z4 z5 x0 x1 x2 y0 y1 y2 f0 f1 f2;obtain ⟨z0,z1,z2,z3,z4,z5⟩:=HX4.out.cells;obtain ⟨y0,y1,y2⟩:=HY4.out.cells;obtain ⟨f0,f1,f2⟩:=HY4.out.frozens)
     | (go_at_call 64;(with_reducible refine (HSt.out _ (HI.out.2.2.1.trans (HB4.out.mono HSz.out))).mono ?_);rintro e w5 ⟨⟨di,dg,dA,dn,dc,dl⟩,rfl,hdt,hdn,hde,hb5⟩;have HD:=Qh (Qa hdt (Qa hdn hde));have HB5:=Qh (HB4.out.trans (hb5.mono HB4.out.size));have HZ5:=Qh (Nat.le_trans HB4.out.size (Nat.le_refl _));have HY5:=Qh (HY4.out.below hb5);clear hdt hdn hde hb5 z0 z1 z2 z3 z4 z5 y0 y1 y2 f0 f1 f2;simp only [Bd.v,Bd.vals];obtain ⟨y0,y1,y2⟩:=HY5.out.cells;obtain ⟨f0,f1,f2⟩:=HY5.out.frozens))
    have HS:=Qh (HY5.out.set3 (⟨di,dg,dA,dn,dc,dl⟩:Bd))
    have HBz:=Qh (HI.out.2.2.1.trans (HB5.out.mono HSz.out))
    simp only at HS
    generalize ((w5.setCell ⟨B+1,0,none⟩ (.int .i64 di)).setCell ⟨B+1,1,none⟩ (.bool dg)).setCell ⟨B+1,2,none⟩ (.slice dA dn dc)=w6 at *
    obtain ⟨r0,r1,r2⟩:=HS.out.1.cells
    simp only at r0 r1 r2
    have hz6:=HS.out.2.size
    refine bodyPost_ret (v:=.tuple #[.bool false,.agg #[.int .i64 di,.bool dg,.slice dA dn dc]]) (by simp [results,Tryz.results120,go_sem,r0,r1,r2]) rfl ⟨⟨di,dg,dA,dn,dc,dl⟩,by first | (rw [←HE.out,HEe.out] <;> rfl) | (rw [HEe.out];rfl),?_,HD.out.2.1,by first | (rw [←HE.out,HEe.out] <;> exact HD.out.2.2) | (rw [HEe.out];exact HD.out.2.2),HBz.out.grown HS.out.2 (by have:=HBz.out.size;have:=HB.out;omega) (Qg (by omega))⟩
    exact HD.out.1.keep fun x hx=>⟨hx.imp id (fun h=>⟨by have:=HB4.out.size;have:=HSz.out;omega,Ql h.2 hz6⟩),HS.out.2.block x (by rcases hx with h | h;exact Ql (HP.out x h) HBz.out.size;exact h.2) (fun e=>by injection e with e;rcases hx with h | h;have:=HP.out x h;have:=HB.out;omega;have:=HB4.out.size;have:=HI.out.2.2.2.1;omega)⟩
   ·have d1:decide (v1<0)=false:=decide_eq_false c1
    have HE1:=Qh (HEq.out.trans (if_pos (HJ1.out.1 c1)))
    by_cases c2:v2≤0
    ·have d2:decide (v2≤0)=true:=decide_eq_true c2
     have HEe:=Qh (show pieceP (ps.map edsR) (Bd.ed ⟨li,lg,lA,ln,lc,ll⟩)=(true,Bd.ed ⟨p2i,p2g,p2A,p2n,p2c,p2l⟩) from HE1.out.trans (if_pos (HJ2.out.1 c2)))
     go_upto_region 7 with (first
      | (go_at_call 38;(with_reducible refine (HC1.out _ (HI.out.2.2.1.trans (HBx.out.mono HSz.out))).mono ?_);rintro e w4 ⟨rfl,hg4⟩;have HB4:=Qh (HBx.out.trans (hg4.bel.mono HBx.out.size));have HX4:=Qh (HX.out.below hg4.bel);have HY4:=Qh (HIB.out.2.below hg4.bel);have HW4:=Qh (HIB.out.1.below hg4.bel);clear hg4 z0 z1 z2 z3 z4 z5 x0 x1 x2 y0 y1 y2 f0 f1 f2;obtain ⟨z0,z1,z2,z3,z4,z5⟩:=HX4.out.cells;obtain ⟨x0,x1,x2⟩:=HW4.out.cells)
      | (go_at_call 38;(with_reducible refine (HC2.out _ (HI.out.2.2.1.trans (HB4.out.mono HSz.out))).mono ?_);rintro e w5 ⟨rfl,hg5⟩;have HB5:=Qh (HB4.out.trans (hg5.bel.mono HB4.out.size));have HX5:=Qh (HX4.out.below hg5.bel);have HY5:=Qh (HY4.out.below hg5.bel);clear hg5 z0 z1 z2 z3 z4 z5 x0 x1 x2;obtain ⟨z0,z1,z2,z3,z4,z5⟩:=HX5.out.cells))
     refine wp_region_U 3 (by kernel_rfl) (fun z9 K0 hs0=>?_)
     refine tZ0 0 K0 ?_
     refine tZ0 1 K0 ?_ (y:=fun z5 hS=>by obtain ⟨q0,q1,q2,q3,q4,q5⟩:=(HX5.out.below hS).cells;go_simp;rfl)
     refine uW 2 fun K hK=>?_
     go_simp
     refine hK.out _ _ (fun _=>K0) ?_
     have HY9:=Qh (HY5.out.below K0)
     obtain ⟨y0,y1,y2⟩:=HY9.out.cells
     obtain ⟨f0,f1,f2⟩:=HY9.out.frozens
     refine uW 3 fun K hK=>?_
     go_simp
     refine hK.out _ _ (fun h=>absurd h (by simp)) ?_
     refine wpAnyW_done (by kernel_rfl) ?_ _
     have HB9:=Qh (HI.out.2.2.1.trans ((Qt HB5.out K0).mono HSz.out))
     clear K0 hs0 y0 y1 y2 f0 f1 f2 z0 z1 z2 z3 z4 z5
     go_wp2_with fail
     have HS:=Qh (HY9.out.set3 (⟨p2i,p2g,p2A,p2n,p2c,p2l⟩:Bd))
     have HBz:=Qh (HB9.out)
     simp only at HS
     generalize ((z9.setCell ⟨B+1,0,none⟩ (.int .i64 p2i)).setCell ⟨B+1,1,none⟩ (.bool p2g)).setCell ⟨B+1,2,none⟩ (.slice p2A p2n p2c)=w6 at *
     obtain ⟨r0,r1,r2⟩:=HS.out.1.cells
     simp only at r0 r1 r2
     have hz6:=HS.out.2.size
     refine bodyPost_ret (v:=.tuple #[.bool true,.agg #[.int .i64 p2i,.bool p2g,.slice p2A p2n p2c]]) (by simp [results,Tryz.results120,go_sem,r0,r1,r2]) rfl ⟨⟨p2i,p2g,p2A,p2n,p2c,p2l⟩,by first | (rw [←HE.out,HEe.out] <;> rfl) | (rw [HEe.out];rfl),?_,HGp.out.1.2,by first | (rw [←HE.out,HEe.out] <;> exact rfl) | (rw [HEe.out];exact rfl),HBz.out.grown HS.out.2 (by have:=HBz.out.size;have:=HB.out;omega) (Qg (by omega))⟩
     exact (HKp.out _ HB9.out).keep fun x hx=>⟨.inl hx,HS.out.2.block x (Ql (HP.out x hx) HBz.out.size) (fun e=>by injection e with e;have:=HP.out x hx;have:=HB.out;omega)⟩
    ·have d2:decide (v2≤0)=false:=decide_eq_false c2
     have HEe:=Qh ((HE1.out.trans (if_neg (fun h=>c2 (HJ2.out.2 h)))).symm)
     go_wp2_with (first
      | (go_at_call 38;(with_reducible refine (HC1.out _ (HI.out.2.2.1.trans (HBx.out.mono HSz.out))).mono ?_);rintro e w4 ⟨rfl,hg4⟩;have HB4:=Qh (HBx.out.trans (hg4.bel.mono HBx.out.size));have HX4:=Qh (HX.out.below hg4.bel);have HY4:=Qh (HIB.out.2.below hg4.bel);have HW4:=Qh (HIB.out.1.below hg4.bel);clear hg4 z0 z1 z2 z3 z4 z5 x0 x1 x2 y0 y1 y2 f0 f1 f2;obtain ⟨z0,z1,z2,z3,z4,z5⟩:=HX4.out.cells;obtain ⟨x0,x1,x2⟩:=HW4.out.cells)
      | (go_at_call 38;(with_reducible refine (HC2.out _ (HI.out.2.2.1.trans (HB4.out.mono HSz.out))).mono ?_);rintro e w5 ⟨rfl,hg5⟩;have HB5:=Qh (HB4.out.trans (hg5.bel.mono HB4.out.size));have HY5:=Qh (HY4.out.below hg5.bel);have HW5:=Qh (HW4.out.below hg5.bel);clear hg5))
     go_roundw
     case rel=>exact ⟨k+1,by omega,by go_num,Qh ⟨HW5.out,HY5.out,HI.out.2.2.1.trans (HB5.out.mono HSz.out),Nat.le_trans HI.out.2.2.2.1 HB5.out.size,HEe.out⟩⟩
     case measure=>simp [intOf];omega
  ·have hkn2:k=n:=by omega
   have hki:¬(k:Int)<(n:Int):=by omega
   have HEe:=Qh (show pieceP (ps.map edsR) (Bd.ed ⟨li,lg,lA,ln,lc,ll⟩)=(false,.hi) by
    rw [←HI.out.2.2.2.2,List.drop_eq_nil_of_le (by rw [List.length_map];have:=HLn.out;omega)]
    rfl)
   clear hkn2
   go_wp2_with fail
   have HS:=Qh (HI.out.2.1.set3 (⟨1,false,none,0,0,[]⟩:Bd))
   have HBz:=Qh (HI.out.2.2.1)
   simp only at HS
   generalize ((wr.setCell ⟨B+1,0,none⟩ (.int .i64 1)).setCell ⟨B+1,1,none⟩ (.bool false)).setCell ⟨B+1,2,none⟩ (.slice none 0 0)=w6 at *
   obtain ⟨r0,r1,r2⟩:=HS.out.1.cells
   simp only at r0 r1 r2
   have hz6:=HS.out.2.size
   refine bodyPost_ret (v:=.tuple #[.bool false,.agg #[.int .i64 1,.bool false,.slice none 0 0]]) (by simp [results,Tryz.results120,go_sem,r0,r1,r2]) rfl ⟨⟨1,false,none,0,0,[]⟩,by first | (rw [←HE.out,HEe.out] <;> rfl) | (rw [HEe.out];rfl),?_,ib_nrm (.inr rfl),by first | (rw [←HE.out,HEe.out] <;> exact rfl) | (rw [HEe.out];exact rfl),HBz.out.grown HS.out.2 (by have:=HBz.out.size;have:=HB.out;omega) (Qg (by omega))⟩
   exact ib_at _ _ (.inr (.inr rfl))
end
end Go.Proofs.YtpikjceodmepiaaGreatDoor
