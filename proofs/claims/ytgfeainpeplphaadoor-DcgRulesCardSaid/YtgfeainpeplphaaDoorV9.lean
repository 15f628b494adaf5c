import Derived.Test.YtgfeainpeplphaaDoorV2
import Derived.Test.YtgfeainpeplphaaDoorV7
import Derived.Test.YtgfeainpeplphaaDoorV8
import Derived.Test.YtgfeainpeplphaaDoorV0
set_option maxRecDepth 1000000
set_option maxHeartbeats 64000000
set_option linter.unusedVariables false
set_option linter.unusedSimpArgs false
namespace Go.Proofs.YtgfeainpeplphaaDoor
open Go.RowKit Hb Ht
attribute [local go_sem] Oper.semAt_some
def BBox (w:World) (g:Nat) (i:Bool) (t:Tm) (sl:Value):Prop:=w.heap[g]?=some (.cells (Value.bool i :: cells6 t sl).toArray 35 (0,0))
theorem BBox.lt {w:World} {g:Nat} {i:Bool} {t:Tm} {sl:Value} (h:BBox w g i t sl):g<w.heap.size:=(Array.getElem?_eq_some_iff.1 h).1
theorem BBox.below {w w':World} {g:Nat} {i:Bool} {t:Tm} {sl:Value} (h:BBox w g i t sl) (hb:Below w.heap.size w w'):BBox w' g i t sl:=(hb.block g h.lt).trans h
theorem BBox.cells {w:World} {g:Nat} {i:Bool} {k v b:Int} {n m:List UInt8} {ts:List Tm} {sl:Value} {nb mb:ByteArray} (h:BBox w g i (.mk k n m b v ts) sl) (hn:(⟨n.toArray⟩:ByteArray)=nb) (hm:(⟨m.toArray⟩:ByteArray)=mb) :
  w.cell? ⟨g,0,none⟩=some (.bool i)∧w.cell? ⟨g,1,none⟩=some (.int .i64 k)∧w.cell? ⟨g,2,none⟩=some (.string nb)∧w.cell? ⟨g,3,none⟩=some (.string mb)∧w.cell? ⟨g,4,none⟩=some (.int .u64 b)∧w.cell? ⟨g,5,none⟩=some (.int .i64 v)∧w.cell? ⟨g,6,none⟩=some sl:=by
 subst hn hm
 refine ⟨?_,?_,?_,?_,?_,?_,?_⟩ <;> (rw [cell_of_row w g _ _ _ (0,0) h];rfl)
theorem BBox.new (w:World) {i:Bool} {k v b:Int} {n m:List UInt8} {ts:List Tm} {sl:Value} {nb mb:ByteArray} (hn:(⟨n.toArray⟩:ByteArray)=nb) (hm:(⟨m.toArray⟩:ByteArray)=mb) :
  BBox (w.alloc (.cells #[.bool i,.int .i64 k,.string nb,.string mb,.int .u64 b,.int .i64 v,sl] 35)) w.heap.size i (.mk k n m b v ts) sl:=by
 subst hn hm
 exact heap_alloc_new w _
theorem BBox.frozen {w:World} {g:Nat} {i:Bool} {t:Tm} {sl:Value} (h:BBox w g i t sl) (j:Nat):w.frozen? ⟨g,j,none⟩=false:=by
 unfold BBox at h
 simp [World.frozen?,h]
theorem BBox.frozens {w:World} {g:Nat} {i:Bool} {t:Tm} {sl:Value} (h:BBox w g i t sl):w.frozen? ⟨g,0,none⟩=false∧w.frozen? ⟨g,1,none⟩=false∧w.frozen? ⟨g,2,none⟩=false∧w.frozen? ⟨g,3,none⟩=false∧w.frozen? ⟨g,4,none⟩=false∧w.frozen? ⟨g,5,none⟩=false∧w.frozen? ⟨g,6,none⟩=false:=
 ⟨h.frozen 0,h.frozen 1,h.frozen 2,h.frozen 3,h.frozen 4,h.frozen 5,h.frozen 6⟩
theorem BBox.gro {w w':World} {N g:Nat} {i:Bool} {t:Tm} {sl:Value} (h:BBox w g i t sl) (hg:w.grownBy w' (some N)) (hn:g≠N):BBox w' g i t sl:=blk_ne hg h hn
theorem BBox.set7 {w:World} {g:Nat} {i0:Bool} {t0:Tm} {sl0:Value} (h:BBox w g i0 t0 sl0) (i:Bool) {k v b:Int} {n m:List UInt8} (ts:List Tm) (sl:Value) {nb mb:ByteArray} (hn:(⟨n.toArray⟩:ByteArray)=nb) (hm:(⟨m.toArray⟩:ByteArray)=mb) :
  BBox (((((((w.setCell ⟨g,0,none⟩ (.bool i)).setCell ⟨g,1,none⟩ (.int .i64 k)).setCell ⟨g,2,none⟩ (.string nb)).setCell ⟨g,3,none⟩ (.string mb)).setCell ⟨g,4,none⟩ (.int .u64 b)).setCell ⟨g,5,none⟩ (.int .i64 v)).setCell ⟨g,6,none⟩ (sl)) g i (.mk k n m b v ts) sl ∧
   w.grownBy (((((((w.setCell ⟨g,0,none⟩ (.bool i)).setCell ⟨g,1,none⟩ (.int .i64 k)).setCell ⟨g,2,none⟩ (.string nb)).setCell ⟨g,3,none⟩ (.string mb)).setCell ⟨g,4,none⟩ (.int .u64 b)).setCell ⟨g,5,none⟩ (.int .i64 v)).setCell ⟨g,6,none⟩ (sl)) (some g):=by
 subst hn hm
 constructor
 ·unfold BBox at h ⊢
  simp [World.setCell,Array.getElem?_modify,h,cells6,Tm.k,Tm.n,Tm.m,Tm.b,Tm.v]
 ·exact gb_setCell (gb_setCell (gb_setCell (gb_setCell (gb_setCell (gb_setCell (gb_setCell (gb_refl w (some g)) 0 _) 1 _) 2 _) 3 _) 4 _) 5 _) 6 _
def badV (i:Bool) (t:Tm) (sl:Value):Value:=.agg (Value.bool i :: cells6 t sl).toArray
theorem badV_mk {i:Bool} {k v b:Int} {n m:List UInt8} {ts:List Tm} {sl:Value} {nb mb:ByteArray} (hn:(⟨n.toArray⟩:ByteArray)=nb) (hm:(⟨m.toArray⟩:ByteArray)=mb):badV i (.mk k n m b v ts) sl = .agg #[.bool i,.int .i64 k,.string nb,.string mb,.int .u64 b,.int .i64 v,sl]:=by
 subst hn hm;rfl
theorem rthrow_any {w:World} {k v b:Int} {n m:List UInt8} {ts:List Tm} {nb mb:ByteArray} {A:Option Addr} {L c:Nat} (hn:(⟨n.toArray⟩:ByteArray)=nb) (hm:(⟨m.toArray⟩:ByteArray)=mb) :
  Calls Tryd.prog 44 #[.agg (Q5 k nb mb b v (.slice A L c))] w fun e w'=>e = .returned (.agg #[.bool true,.int .i64 k,.string nb,.string mb,.int .u64 b,.int .i64 v,.slice A L c])∧Below w.heap.size w w':=by
 have hb1:Below w.heap.size w (w.alloc (.cells (Q5 k nb mb b v (.slice A L c)) 25)):=Qb
 have hs1:(w.alloc (.cells (Q5 k nb mb b v (.slice A L c)) 25)).heap.size=w.heap.size+1:=by simp
 have hX:TBox (w.alloc (.cells (Q5 k nb mb b v (.slice A L c)) 25)) w.heap.size (.mk k n m b v ts) (.slice A L c):=TBox.new w hn hm
 have hY:BBox ((w.alloc (.cells (Q5 k nb mb b v (.slice A L c)) 25)).alloc (.cells #[.bool true,.int .i64 k,.string nb,.string mb,.int .u64 b,.int .i64 v,.slice A L c] 35)) (w.alloc (.cells (Q5 k nb mb b v (.slice A L c)) 25)).heap.size true (.mk k n m b v ts) (.slice A L c):=BBox.new (w.alloc (.cells (Q5 k nb mb b v (.slice A L c)) 25)) hn hm
 have HB:=Qh (hb1.alloc hb1.size (.cells #[.bool true,.int .i64 k,.string nb,.string mb,.int .u64 b,.int .i64 v,.slice A L c] 35))
 rw [hs1] at hY
 obtain ⟨x0,x1,x2,x3,x4,x5⟩:=hX.cells hn hm
 have HY:=Qh hY
 have HM:=Qh (Qa hn hm)
 clear hb1 hs1 hX hY hn hm
 go_enter Tryd.func44,Tryd.ntmps44
 go_wp2
 obtain ⟨r0,r1,r2,r3,r4,r5,r6⟩:=HY.out.cells HM.out.1 HM.out.2
 exact bodyPost_ret (v:=.agg #[.bool true,.int .i64 k,.string nb,.string mb,.int .u64 b,.int .i64 v,.slice A L c]) (by simp [results,Tryd.results44,go_sem,r0,r1,r2,r3,r4,r5,r6]) rfl ⟨rfl,HB.out⟩
theorem typed_any {w:World} {P:Nat→Prop} {k v b:Int} {n m:List UInt8} {ts:List Tm} {nb mb:ByteArray} {A:Option Addr} {L c:Nat} {kn:List UInt8} {kb:ByteArray} (hkb:(⟨kn.toArray⟩:ByteArray)=kb) (hkl:kn.length≤maxLen) (hn:(⟨n.toArray⟩:ByteArray)=nb) (hm:(⟨m.toArray⟩:ByteArray)=mb) (hL:ts.length=L) (hx:TAtP w P (.mk k n m b v ts) (.slice A L c)) (hP:∀ b,P b→b<w.heap.size) :
  Calls Tryd.prog 43 #[.string kb,.agg (Q5 k nb mb b v (.slice A L c))] w fun e w'=>∃ A' c',e = .returned (.agg #[.bool true,.int .i64 5,.string ⟨#[116,121,112,101,95,101,114,114,111,114]⟩,.string ⟨#[]⟩,.int .u64 0,.int .i64 0,.slice A' 2 c'])∧TAtP w' (Grow P w w') (typedT kn (.mk k n m b v ts)) (.slice A' 2 c')∧Below w.heap.size w w':=by
 have hb1:Below w.heap.size w (w.alloc (.cells (Q5 k nb mb b v (.slice A L c)) 25)):=Qb
 have hs1:(w.alloc (.cells (Q5 k nb mb b v (.slice A L c)) 25)).heap.size=w.heap.size+1:=by simp
 have hb2:Below (w.alloc (.cells (Q5 k nb mb b v (.slice A L c)) 25)).heap.size (w.alloc (.cells (Q5 k nb mb b v (.slice A L c)) 25)) (((w.alloc (.cells (Q5 k nb mb b v (.slice A L c)) 25))).alloc (.cells #[.bool false,.int .i64 0,.string ⟨#[]⟩,.string ⟨#[]⟩,.int .u64 0,.int .i64 0,.slice none 0 0] 35)):=Qb
 have hX:TBox (((w.alloc (.cells (Q5 k nb mb b v (.slice A L c)) 25))).alloc (.cells #[.bool false,.int .i64 0,.string ⟨#[]⟩,.string ⟨#[]⟩,.int .u64 0,.int .i64 0,.slice none 0 0] 35)) w.heap.size (.mk k n m b v ts) (.slice A L c):=(TBox.new w hn hm).below hb2
 have hY:BBox (((w.alloc (.cells (Q5 k nb mb b v (.slice A L c)) 25))).alloc (.cells #[.bool false,.int .i64 0,.string ⟨#[]⟩,.string ⟨#[]⟩,.int .u64 0,.int .i64 0,.slice none 0 0] 35)) (w.alloc (.cells (Q5 k nb mb b v (.slice A L c)) 25)).heap.size false zeroT (.slice none 0 0):=heap_alloc_new (w.alloc (.cells (Q5 k nb mb b v (.slice A L c)) 25)) _
 have hs2:(((w.alloc (.cells (Q5 k nb mb b v (.slice A L c)) 25))).alloc (.cells #[.bool false,.int .i64 0,.string ⟨#[]⟩,.string ⟨#[]⟩,.int .u64 0,.int .i64 0,.slice none 0 0] 35)).heap.size=w.heap.size+1+1:=by rw [←hs1];simp
 rw [hs1] at hY
 have HX:=Qh (Qa hX (Qa hY (Qa (hb1.trans (hb2.mono (by omega))) hs2)))
 have HM:=Qh (Qa hn (Qa hm (Qa hkb (Qa hkl hL))))
 have HT:=Qh (Qa hx hP)
 clear hb1 hs1 hb2 hX hY hn hm hkb hkl hL hx hP hs2
 go_enter Tryd.func43,Tryd.ntmps43
 go_upto_region 1 with fail
 generalize (((w.alloc (.cells (Q5 k nb mb b v (.slice A L c)) 25))).alloc (.cells #[.bool false,.int .i64 0,.string ⟨#[]⟩,.string ⟨#[]⟩,.int .u64 0,.int .i64 0,.slice none 0 0] 35))=u0 at *
 have HSS:=Qh (show ∀ z,Below u0.heap.size u0 z→(Q6 z (w.heap.size) k nb mb b v (.slice A L c)) from fun z hb=>(HX.out.1.below hb).cells HM.out.1 HM.out.2.1)
 refine wp_region_wait (fun z=>(Q6 z (w.heap.size) k nb mb b v (.slice A L c))) 5 (by kernel_rfl) ?_
 change wpAnyW _ _ _ _ _ _ _ _ _ u0.drew
 have KK:=Qh (below_drew' u0)
 generalize u0.drew=v0 at *
 refine w3 5 0 (.string kb) (HSS.out _ KK.out) ?_ ?_
 ·intro w5 hSw
  obtain ⟨p0,p1,p2,p3,p4,p5⟩:=hSw
  go_simp
 refine w3 5 2 (.agg (Q5 k nb mb b v (.slice A L c))) (HSS.out _ KK.out) ?_ ?_
 ·intro w5 hSw
  obtain ⟨p0,p1,p2,p3,p4,p5⟩:=hSw
  go_simp
 refine w1 1 fun K hK=>?_
 go_simp
 (with_reducible refine (A_any _ _).mono ?_)
 rintro e u1 ⟨rfl,hb⟩
 replace KK:=Qh (Qt KK.out hb)
 clear hb
 refine hK.out _ _ (fun _=>HSS.out _ KK.out) ?_
 have hwu:Below w.heap.size w u1:=Qt HX.out.2.2.1 KK.out
 have hF:=F2_any (P:=P) (ta:=atomT kn) (sa:=.slice none 0 0) (atom_at u1 P HM.out.2.2.2.1) (HT.out.1.below hwu HT.out.2) (fun b hb=>Ql (HT.out.2 b hb) hwu.size) ⟨#[116,121,112,101,95,101,114,114,111,114]⟩ (by decide)
 rw [valT_mk HM.out.1 HM.out.2.1,show valT (atomT kn) (.slice none 0 0) = .agg (Qn 2 kb (.slice none 0 0)) from by rw [←HM.out.2.2.1];rfl] at hF
 have HF:=Qh hF
 have HWU:=Qh hwu
 clear hF hwu
 refine w1 3 fun K hK=>?_
 go_simp
 (with_reducible refine HF.out.mono ?_)
 rintro e u2 ⟨A',c',rfl,ht,hb⟩
 have HT2:=Qh ht
 have HU2:=Qh (Qa (Qt HWU.out hb) (Qa (show w.heap.size+1+1≤u1.heap.size from by have h1:=KK.out.size;have h2:=HX.out.2.2.2;omega) hb.size))
 replace KK:=Qh (Qt KK.out hb)
 clear ht hb HF
 refine hK.out _ _ (fun _=>HSS.out _ KK.out) ?_
 refine w1 4 fun K hK=>?_
 go_simp
 (with_reducible refine (rthrow_any (k:=5) (b:=0) (v:=0) (ts:=[]) (n:=sType) (m:=[]) (nb:=⟨#[116,121,112,101,95,101,114,114,111,114]⟩) (mb:=⟨#[]⟩) rfl rfl).mono ?_)
 rintro e u3 ⟨rfl,hb⟩
 have HT3:=Qh (Qa (show TAtP u3 (fun b=>P b∨(w.heap.size+1+1≤b∧b<u3.heap.size)) (typedT kn (.mk k n m b v ts)) (.slice A' 2 c') from TAtP.keep _ HT2.out (fun b h=>by
  have h5:=HU2.out.2.1
  have h6:=hb.size
  have h7:=HU2.out.2.2
  have hlt:b<u2.heap.size:=by
   rcases h with h | h
   ·have:=HT.out.2 b h;omega
   ·exact h.2
  refine ⟨?_,hb.block b hlt⟩
  rcases h with h | h
  ·exact .inl h
  ·exact .inr ⟨by omega,by omega⟩)) (Qt HU2.out.1 hb))
 replace KK:=Qh (Qt KK.out hb)
 clear hb
 refine hK.out _ _ (fun _=>HSS.out _ KK.out) ?_
 have HY:=Qh (HX.out.2.1.below KK.out)
 refine w1 5 fun K hK=>?_
 obtain ⟨a0,a1,a2,a3,a4,a5,a6⟩:=HY.out.cells rfl rfl
 obtain ⟨f0,f1,f2,f3,f4,f5,f6⟩:=HY.out.frozens
 go_simp
 refine hK.out _ _ (fun h=>absurd h (by simp)) ?_
 refine wpAnyW_done (by kernel_rfl) ?_ _
 go_wp2
 obtain ⟨hbx,hgr⟩:=HY.out.set7 true (k:=5) (b:=0) (v:=0) (n:=sType) (m:=[]) [] (.slice A' 2 c') (nb:=⟨#[116,121,112,101,95,101,114,114,111,114]⟩) (mb:=⟨#[]⟩) rfl rfl
 have hbw:=HT3.out.2.grown hgr HT3.out.2.size (Qg (by omega))
 have htw:TAtP (((((((u3.setCell ⟨w.heap.size+1,0,none⟩ (.bool true)).setCell ⟨w.heap.size+1,1,none⟩ (.int .i64 5)).setCell ⟨w.heap.size+1,2,none⟩ (.string ⟨#[116,121,112,101,95,101,114,114,111,114]⟩)).setCell ⟨w.heap.size+1,3,none⟩ (.string ⟨#[]⟩)).setCell ⟨w.heap.size+1,4,none⟩ (.int .u64 0)).setCell ⟨w.heap.size+1,5,none⟩ (.int .i64 0)).setCell ⟨w.heap.size+1,6,none⟩ (.slice A' 2 c')) (Grow P w (((((((u3.setCell ⟨w.heap.size+1,0,none⟩ (.bool true)).setCell ⟨w.heap.size+1,1,none⟩ (.int .i64 5)).setCell ⟨w.heap.size+1,2,none⟩ (.string ⟨#[116,121,112,101,95,101,114,114,111,114]⟩)).setCell ⟨w.heap.size+1,3,none⟩ (.string ⟨#[]⟩)).setCell ⟨w.heap.size+1,4,none⟩ (.int .u64 0)).setCell ⟨w.heap.size+1,5,none⟩ (.int .i64 0)).setCell ⟨w.heap.size+1,6,none⟩ (.slice A' 2 c'))) (typedT kn (.mk k n m b v ts)) (.slice A' 2 c'):=TAtP.keep _ HT3.out.1 (fun b hb=>by
  have h3:=HT3.out.2.size
  have h4:=hgr.size
  rcases hb with hb | hb
  ·have:=HT.out.2 b hb
   exact ⟨.inl hb,hgr.block b (by omega) (fun e=>by injection e with e;omega)⟩
  ·exact ⟨.inr ⟨by omega,by omega⟩,hgr.block b hb.2 (fun e=>by injection e with e;omega)⟩)
 generalize (((((((u3.setCell ⟨w.heap.size+1,0,none⟩ (.bool true)).setCell ⟨w.heap.size+1,1,none⟩ (.int .i64 5)).setCell ⟨w.heap.size+1,2,none⟩ (.string ⟨#[116,121,112,101,95,101,114,114,111,114]⟩)).setCell ⟨w.heap.size+1,3,none⟩ (.string ⟨#[]⟩)).setCell ⟨w.heap.size+1,4,none⟩ (.int .u64 0)).setCell ⟨w.heap.size+1,5,none⟩ (.int .i64 0)).setCell ⟨w.heap.size+1,6,none⟩ (.slice A' 2 c'))=w9 at *
 obtain ⟨r0,r1,r2,r3,r4,r5,r6⟩:=hbx.cells (nb:=⟨#[116,121,112,101,95,101,114,114,111,114]⟩) (mb:=⟨#[]⟩) rfl rfl
 exact bodyPost_ret (v:=.agg #[.bool true,.int .i64 5,.string ⟨#[116,121,112,101,95,101,114,114,111,114]⟩,.string ⟨#[]⟩,.int .u64 0,.int .i64 0,.slice A' 2 c']) (by simp [results,Tryd.results43,go_sem,r0,r1,r2,r3,r4,r5,r6]) rfl ⟨A',c',rfl,htw,hbw⟩
theorem Fatom_any {w:World} {s a:List UInt8} {sb ab:ByteArray} (hs:(⟨s.toArray⟩:ByteArray)=sb) (ha:(⟨a.toArray⟩:ByteArray)=ab) (hsl:s.length≤maxLen) (hal:a.length≤maxLen) :
  Calls Tryd.prog 67 #[.string sb,.slice (some ⟨w.heap.size,0,none⟩) 1 1] (w.alloc (.cells (Qn 2 ab (.slice none 0 0)) 25)) fun e w'=>∃ A' c',e = .returned (.agg (Qn 5 sb (.slice A' 1 c')))∧TAtP w' (fun b=>w.heap.size≤b∧b<w'.heap.size) (cmpT s [atomT a]) (.slice A' 1 c')∧Below w.heap.size w w':=by
 have hb:Below w.heap.size w (w.alloc (.cells (Qn 2 ab (.slice none 0 0)) 25)):=Qb
 have hsz:(w.alloc (.cells (Qn 2 ab (.slice none 0 0)) 25)).heap.size=w.heap.size+1:=by simp
 have hr:RowP (w.alloc (.cells (Qn 2 ab (.slice none 0 0)) 25)) (fun _=>False) (some ⟨w.heap.size,0,none⟩) 1 [(atomT a,Value.slice none 0 0)]:=rowP_at (heap_alloc_new w _) (by rw [←ha];rfl) rfl (mem1 (atom_at _ _ hal))
 refine (F_any hr (fun b hb=>hb.elim) (by omega) (by unfold maxArgs;omega) (c:=1) sb).mono ?_
 rintro e w' ⟨A',c',rfl,ho,hb2⟩
 have h2:=hb2.size
 exact ⟨A',c',rfl,(ho.wide (Q:=fun b=>w.heap.size≤b∧b<w'.heap.size) (fun b hb=>hb.elim)).termP (t:=cmpT s [atomT a]) (fun b h1 h2=>⟨by omega,h2⟩) rfl (by unfold maxArgs;omega) (okF_cmp hsl),hb.trans (hb2.mono (by omega))⟩
theorem rwhole_bad {w:World} {k v b:Int} {n m:List UInt8} {ts:List Tm} {nb mb:ByteArray} {A:Option Addr} {L c:Nat} {k2 v2 b2:Int} {n2 m2:List UInt8} {ts2:List Tm} {nb2 mb2:ByteArray} {A2:Option Addr} {L2 c2:Nat} (hn:(⟨n.toArray⟩:ByteArray)=nb) (hm:(⟨m.toArray⟩:ByteArray)=mb) (hn2:(⟨n2.toArray⟩:ByteArray)=nb2) (hm2:(⟨m2.toArray⟩:ByteArray)=mb2) :
  Calls Tryd.prog 50 #[.agg (Q5 k nb mb b v (.slice A L c)),.agg #[.bool true,.int .i64 k2,.string nb2,.string mb2,.int .u64 b2,.int .i64 v2,.slice A2 L2 c2]] w fun e w'=>e = .returned (.tuple #[.agg Qz,.agg #[.bool true,.int .i64 k2,.string nb2,.string mb2,.int .u64 b2,.int .i64 v2,.slice A2 L2 c2]])∧Below w.heap.size w w':=by
 obtain ⟨W1,hW1⟩:∃ W,w.alloc (.cells (Q5 k nb mb b v (.slice A L c)) 25)=W:=⟨_,rfl⟩
 have d1:Below w.heap.size w W1:=by rw [←hW1];exact Qb
 have s1:W1.heap.size=w.heap.size+1:=by rw [←hW1];simp
 have X1:TBox W1 w.heap.size (.mk k n m b v ts) (.slice A L c):=by rw [←hW1];exact TBox.new w hn hm
 obtain ⟨W2,hW2⟩:∃ W,W1.alloc (.cells #[.bool true,.int .i64 k2,.string nb2,.string mb2,.int .u64 b2,.int .i64 v2,.slice A2 L2 c2] 35)=W:=⟨_,rfl⟩
 have d2:Below W1.heap.size W1 W2:=by rw [←hW2];exact Qb
 have s2:W2.heap.size=W1.heap.size+1:=by rw [←hW2];simp
 have X2:BBox W2 W1.heap.size true (.mk k2 n2 m2 b2 v2 ts2) (.slice A2 L2 c2):=by rw [←hW2];exact BBox.new W1 hn2 hm2
 obtain ⟨W3,hW3⟩:∃ W,W2.alloc (.cells Qz 25)=W:=⟨_,rfl⟩
 have d3:Below W2.heap.size W2 W3:=by rw [←hW3];exact Qb
 have s3:W3.heap.size=W2.heap.size+1:=by rw [←hW3];simp
 have X3:TBox W3 W2.heap.size zeroT (.slice none 0 0):=by rw [←hW3];exact heap_alloc_new W2 _
 obtain ⟨W4,hW4⟩:∃ W,W3.alloc (.cells #[.bool false,.int .i64 0,.string ⟨#[]⟩,.string ⟨#[]⟩,.int .u64 0,.int .i64 0,.slice none 0 0] 35)=W:=⟨_,rfl⟩
 have d4:Below W3.heap.size W3 W4:=by rw [←hW4];exact Qb
 have s4:W4.heap.size=W3.heap.size+1:=by rw [←hW4];simp
 have X4:BBox W4 W3.heap.size false zeroT (.slice none 0 0):=by rw [←hW4];exact heap_alloc_new W3 _
 replace X1:=X1.below d2
 replace X1:=X1.below d3
 replace X1:=X1.below d4
 replace X2:=X2.below d3
 replace X2:=X2.below d4
 replace X3:=X3.below d4
 have hb0:Below w.heap.size w W4:=d1.trans ((d2.trans ((d3.trans ((d4).mono (by omega))).mono (by omega))).mono (by omega))
 have hsz0:W4.heap.size=w.heap.size+1+1+1+1:=by omega
 rw [s1] at X2
 rw [s2,s1] at X3
 rw [s3,s2,s1] at X4
 have HX:=Qh (Qa X1 (Qa X2 (Qa X3 (Qa X4 (Qa hb0 hsz0)))))
 subst hW1 hW2 hW3 hW4
 clear X1 d1 s1 X2 d2 s2 X3 d3 s3 X4 d4 s4 hb0 hsz0
 have HM:=Qh (Qa hn (Qa hm (Qa hn2 hm2)))
 obtain ⟨y0,y1,y2,y3,y4,y5,y6⟩:=(HX.out.2.1).cells hn2 hm2
 obtain ⟨x0,x1,x2,x3,x4,x5⟩:=(HX.out.1).cells hn hm
 clear hn hm hn2 hm2
 go_enter Tryd.func50,Tryd.ntmps50
 go_upto_region 4 with fail
 generalize ((((w.alloc (.cells (Q5 k nb mb b v (.slice A L c)) 25)).alloc (.cells #[.bool true,.int .i64 k2,.string nb2,.string mb2,.int .u64 b2,.int .i64 v2,.slice A2 L2 c2] 35)).alloc (.cells Qz 25)).alloc (.cells #[.bool false,.int .i64 0,.string ⟨#[]⟩,.string ⟨#[]⟩,.int .u64 0,.int .i64 0,.slice none 0 0] 35))=u0 at *
 clear x0 x1 x2 x3 x4 x5 y0 y1 y2 y3 y4 y5 y6
 have HSS:=Qh (show ∀ z,u0.grownBy z (some (w.heap.size+1+1))→((Q6 z (w.heap.size) k nb mb b v (.slice A L c))∧(z.cell? ⟨w.heap.size+1,0,none⟩=some (.bool true)∧z.cell? ⟨w.heap.size+1,1,none⟩=some (.int .i64 k2)∧z.cell? ⟨w.heap.size+1,2,none⟩=some (.string nb2)∧z.cell? ⟨w.heap.size+1,3,none⟩=some (.string mb2)∧z.cell? ⟨w.heap.size+1,4,none⟩=some (.int .u64 b2)∧z.cell? ⟨w.heap.size+1,5,none⟩=some (.int .i64 v2)∧z.cell? ⟨w.heap.size+1,6,none⟩=some (.slice A2 L2 c2))) from fun z hb=>⟨(HX.out.1.gro hb (by omega)).cells HM.out.1 HM.out.2.1,(HX.out.2.1.gro hb (by omega)).cells HM.out.2.2.1 HM.out.2.2.2⟩)
 have HB3:=Qh (HX.out.2.2.1)
 have HB4:=Qh (HX.out.2.2.2.1)
 have HBl:=Qh (HX.out.2.2.2.2.1)
 refine wp_region_wait (fun z=>((Q6 z (w.heap.size) k nb mb b v (.slice A L c))∧(z.cell? ⟨w.heap.size+1,0,none⟩=some (.bool true)∧z.cell? ⟨w.heap.size+1,1,none⟩=some (.int .i64 k2)∧z.cell? ⟨w.heap.size+1,2,none⟩=some (.string nb2)∧z.cell? ⟨w.heap.size+1,3,none⟩=some (.string mb2)∧z.cell? ⟨w.heap.size+1,4,none⟩=some (.int .u64 b2)∧z.cell? ⟨w.heap.size+1,5,none⟩=some (.int .i64 v2)∧z.cell? ⟨w.heap.size+1,6,none⟩=some (.slice A2 L2 c2)))) 3 (by kernel_rfl) ?_
 change wpAnyW _ _ _ _ _ _ _ _ _ u0.drew
 have KK:=Qh (below_drew' u0)
 generalize u0.drew=v0 at *
 have KG:=Qh (grown_below (r:=some (w.heap.size+1+1)) KK.out)
 refine w3 3 0 (.agg Qz) (HSS.out _ KG.out) ?_ ?_
 ·intro w5 hSw
  obtain ⟨⟨p0,p1,p2,p3,p4,p5⟩,⟨q0,q1,q2,q3,q4,q5,q6⟩⟩:=hSw
  go_simp
 refine w3 3 1 (.agg #[.bool true,.int .i64 k2,.string nb2,.string mb2,.int .u64 b2,.int .i64 v2,.slice A2 L2 c2]) (HSS.out _ KG.out) ?_ ?_
 ·intro w5 hSw
  obtain ⟨⟨p0,p1,p2,p3,p4,p5⟩,⟨q0,q1,q2,q3,q4,q5,q6⟩⟩:=hSw
  go_simp
 refine w1 2 fun K hK=>?_
 obtain ⟨a0,a1,a2,a3,a4,a5⟩:=(HB3.out.below KK.out).cells rfl rfl
 obtain ⟨f0,f1,f2,f3,f4,f5⟩:=(HB3.out.below KK.out).frozens
 go_simp
 clear a0 a1 a2 a3 a4 a5 f0 f1 f2 f3 f4 f5
 obtain ⟨hbx,hgr⟩:=(HB3.out.below KK.out).set6 (k:=0) (b:=0) (v:=0) (n:=[]) (m:=[]) [] (.slice none 0 0) (nb:=⟨#[]⟩) (mb:=⟨#[]⟩) rfl rfl
 have HG3:=Qh (Qa hbx (Qa ((HB4.out.below KK.out).gro hgr (by omega)) ((Qt HBl.out KK.out).grown hgr (Qt HBl.out KK.out).size (Qg (by omega)))))
 have HG3b:=Qh hgr
 clear hbx hgr
 refine hK.out _ _ (fun _=>HSS.out _ (grown_trans KG.out HG3b.out)) ?_
 generalize ((((((v0.setCell ⟨w.heap.size+1+1,0,none⟩ (.int .i64 0)).setCell ⟨w.heap.size+1+1,1,none⟩ (.string ⟨#[]⟩)).setCell ⟨w.heap.size+1+1,2,none⟩ (.string ⟨#[]⟩)).setCell ⟨w.heap.size+1+1,3,none⟩ (.int .u64 0)).setCell ⟨w.heap.size+1+1,4,none⟩ (.int .i64 0)).setCell ⟨w.heap.size+1+1,5,none⟩ (.slice none 0 0))=z1 at *
 refine w1 3 fun K hK=>?_
 obtain ⟨a0,a1,a2,a3,a4,a5,a6⟩:=HG3.out.2.1.cells rfl rfl
 obtain ⟨f0,f1,f2,f3,f4,f5,f6⟩:=HG3.out.2.1.frozens
 go_simp
 clear a0 a1 a2 a3 a4 a5 a6 f0 f1 f2 f3 f4 f5 f6
 refine hK.out _ _ (fun h=>absurd h (by simp)) ?_
 refine wpAnyW_done (by kernel_rfl) ?_ _
 go_wp2
 obtain ⟨hbx,hgr⟩:=HG3.out.2.1.set7 true (k:=k2) (b:=b2) (v:=v2) (n:=n2) (m:=m2) ts2 (.slice A2 L2 c2) HM.out.2.2.1 HM.out.2.2.2
 have HG4:=Qh (Qa (HG3.out.1.gro hgr (by omega)) (HG3.out.2.2.grown hgr HG3.out.2.2.size (Qg (by omega))))
 generalize (((((((z1.setCell ⟨w.heap.size+1+1+1,0,none⟩ (.bool true)).setCell ⟨w.heap.size+1+1+1,1,none⟩ (.int .i64 k2)).setCell ⟨w.heap.size+1+1+1,2,none⟩ (.string nb2)).setCell ⟨w.heap.size+1+1+1,3,none⟩ (.string mb2)).setCell ⟨w.heap.size+1+1+1,4,none⟩ (.int .u64 b2)).setCell ⟨w.heap.size+1+1+1,5,none⟩ (.int .i64 v2)).setCell ⟨w.heap.size+1+1+1,6,none⟩ (.slice A2 L2 c2))=z2 at *
 obtain ⟨r0,r1,r2,r3,r4,r5⟩:=HG4.out.1.cells rfl rfl
 obtain ⟨q0,q1,q2,q3,q4,q5,q6⟩:=hbx.cells HM.out.2.2.1 HM.out.2.2.2
 exact bodyPost_ret (v:=.tuple #[.agg Qz,.agg #[.bool true,.int .i64 k2,.string nb2,.string mb2,.int .u64 b2,.int .i64 v2,.slice A2 L2 c2]]) (by simp [results,Tryd.results50,go_sem,r0,r1,r2,r3,r4,r5,q0,q1,q2,q3,q4,q5,q6]) rfl ⟨rfl,HG4.out.2⟩
theorem rwhole_big {w:World} {k v b:Int} {n m:List UInt8} {ts:List Tm} {nb mb:ByteArray} {A:Option Addr} {L c:Nat} {k2 v2 b2:Int} {n2 m2:List UInt8} {ts2:List Tm} {nb2 mb2:ByteArray} {A2:Option Addr} {L2 c2:Nat} (hn:(⟨n.toArray⟩:ByteArray)=nb) (hm:(⟨m.toArray⟩:ByteArray)=mb) (hn2:(⟨n2.toArray⟩:ByteArray)=nb2) (hm2:(⟨m2.toArray⟩:ByteArray)=mb2) (h1:TAt w w.heap.size (.mk k n m b v ts) (.slice A L c)) (hzz:4000<nodes (.mk k n m b v ts)) :
  Calls Tryd.prog 50 #[.agg (Q5 k nb mb b v (.slice A L c)),.agg #[.bool false,.int .i64 k2,.string nb2,.string mb2,.int .u64 b2,.int .i64 v2,.slice A2 L2 c2]] w fun e w'=>∃ sn,e = .returned (.tuple #[.agg Qz,.agg #[.bool true,.int .i64 5,.string ⟨#[114,101,115,111,117,114,99,101,95,101,114,114,111,114]⟩,.string ⟨#[]⟩,.int .u64 0,.int .i64 0,sn]])∧TAtP w' (fun b=>w.heap.size≤b∧b<w'.heap.size) nodesT sn∧Below w.heap.size w w':=by
 obtain ⟨W1,hW1⟩:∃ W,w.alloc (.cells (Q5 k nb mb b v (.slice A L c)) 25)=W:=⟨_,rfl⟩
 have d1:Below w.heap.size w W1:=by rw [←hW1];exact Qb
 have s1:W1.heap.size=w.heap.size+1:=by rw [←hW1];simp
 have X1:TBox W1 w.heap.size (.mk k n m b v ts) (.slice A L c):=by rw [←hW1];exact TBox.new w hn hm
 obtain ⟨W2,hW2⟩:∃ W,W1.alloc (.cells #[.bool false,.int .i64 k2,.string nb2,.string mb2,.int .u64 b2,.int .i64 v2,.slice A2 L2 c2] 35)=W:=⟨_,rfl⟩
 have d2:Below W1.heap.size W1 W2:=by rw [←hW2];exact Qb
 have s2:W2.heap.size=W1.heap.size+1:=by rw [←hW2];simp
 have X2:BBox W2 W1.heap.size false (.mk k2 n2 m2 b2 v2 ts2) (.slice A2 L2 c2):=by rw [←hW2];exact BBox.new W1 hn2 hm2
 obtain ⟨W3,hW3⟩:∃ W,W2.alloc (.cells Qz 25)=W:=⟨_,rfl⟩
 have d3:Below W2.heap.size W2 W3:=by rw [←hW3];exact Qb
 have s3:W3.heap.size=W2.heap.size+1:=by rw [←hW3];simp
 have X3:TBox W3 W2.heap.size zeroT (.slice none 0 0):=by rw [←hW3];exact heap_alloc_new W2 _
 obtain ⟨W4,hW4⟩:∃ W,W3.alloc (.cells #[.bool false,.int .i64 0,.string ⟨#[]⟩,.string ⟨#[]⟩,.int .u64 0,.int .i64 0,.slice none 0 0] 35)=W:=⟨_,rfl⟩
 have d4:Below W3.heap.size W3 W4:=by rw [←hW4];exact Qb
 have s4:W4.heap.size=W3.heap.size+1:=by rw [←hW4];simp
 have X4:BBox W4 W3.heap.size false zeroT (.slice none 0 0):=by rw [←hW4];exact heap_alloc_new W3 _
 replace X1:=X1.below d2
 replace X1:=X1.below d3
 replace X1:=X1.below d4
 replace X2:=X2.below d3
 replace X2:=X2.below d4
 replace X3:=X3.below d4
 have hb0:Below w.heap.size w W4:=d1.trans ((d2.trans ((d3.trans ((d4).mono (by omega))).mono (by omega))).mono (by omega))
 have hsz0:W4.heap.size=w.heap.size+1+1+1+1:=by omega
 rw [s1] at X2
 rw [s2,s1] at X3
 rw [s3,s2,s1] at X4
 have HX:=Qh (Qa X1 (Qa X2 (Qa X3 (Qa X4 (Qa hb0 hsz0)))))
 subst hW1 hW2 hW3 hW4
 clear X1 d1 s1 X2 d2 s2 X3 d3 s3 X4 d4 s4 hb0 hsz0
 have HM:=Qh (Qa hn (Qa hm (Qa hn2 hm2)))
 have hNo:=rNodes_any (h1.to (HX.out.2.2.2.2.1) (HX.out.2.2.2.2.1).size)
 obtain ⟨z,hz⟩:∃ z,nodes (.mk k n m b v ts)=z:=⟨_,rfl⟩
 rw [valT_mk hn hm,hz] at hNo
 rw [hz] at hzz
 have hzI:(4000:Int)<(z:Int):=by omega
 have HNo:=Qh hNo
 clear hNo hz h1 hzz
 obtain ⟨y0,y1,y2,y3,y4,y5,y6⟩:=(HX.out.2.1).cells hn2 hm2
 obtain ⟨x0,x1,x2,x3,x4,x5⟩:=(HX.out.1).cells hn hm
 clear hn hm hn2 hm2
 go_enter Tryd.func50,Tryd.ntmps50
 go_upto_region 2 with (go_at_call 40;(with_reducible refine HNo.out.mono ?_);rintro e u1 ⟨rfl,hb⟩;obtain ⟨e0,e1,e2,e3,e4,e5,e6⟩:=((HX.out.2.1).below hb).cells HM.out.2.2.1 HM.out.2.2.2;have HB1:=Qh hb;clear hb)
 clear e0 e1 e2 e3 e4 e5 e6 x0 x1 x2 x3 x4 x5 y0 y1 y2 y3 y4 y5 y6
 have HX1:=Qh (Qa ((HX.out.1).below HB1.out) (Qa ((HX.out.2.1).below HB1.out) (Qa ((HX.out.2.2.1).below HB1.out) (Qa ((HX.out.2.2.2.1).below HB1.out) ((HX.out.2.2.2.2.1).trans (HB1.out.mono (HX.out.2.2.2.2.1).size))))))
 clear hzI HNo
 obtain ⟨y0,y1,y2,y3,y4,y5,y6⟩:=HX1.out.2.1.cells HM.out.2.2.1 HM.out.2.2.2
 go_wp2_with fail
 (with_reducible refine (A_any _ _).mono ?_)
 rintro e u3 ⟨rfl,hb⟩
 have HB3:=Qh hb
 clear hb
 go_wp2_with fail
 (with_reducible refine (Fatom_any (w:=u3) (s:=sRes) (a:=sNodes) (sb:=⟨#[114,101,115,111,117,114,99,101,95,101,114,114,111,114]⟩) (ab:=⟨#[110,111,100,101,115]⟩) rfl rfl (by decide) (by decide)).mono ?_)
 rintro e u4 ⟨A',c',rfl,ht,hb⟩
 have HT4:=Qh (Qa ht (Qa (Qt HB3.out hb) HB3.out.size))
 clear ht hb
 go_wp2_with fail
 (with_reducible refine (rthrow_any (k:=5) (b:=0) (v:=0) (ts:=[]) (n:=sRes) (m:=[]) (nb:=⟨#[114,101,115,111,117,114,99,101,95,101,114,114,111,114]⟩) (mb:=⟨#[]⟩) rfl rfl).mono ?_)
 rintro e u5 ⟨rfl,hb⟩
 have hs:=HT4.out.2.1.size
 have hB5:=HT4.out.2.1.trans (hb.mono hs)
 have HT5:=Qh (Qa (show TAtP u5 (fun b=>u1.heap.size≤b∧b<u5.heap.size) nodesT (.slice A' 1 c') from TAtP.keep _ HT4.out.1 (fun b h=>⟨⟨Nat.le_trans HT4.out.2.2 h.1,Ql h.2 hb.size⟩,hb.block b h.2⟩)) (Qa hB5 (HX1.out.2.1.below hB5)))
 clear y0 y1 y2 y3 y4 y5 y6 hs hB5 hb
 obtain ⟨a0,a1,a2,a3,a4,a5,a6⟩:=HT5.out.2.2.cells HM.out.2.2.1 HM.out.2.2.2
 obtain ⟨f0,f1,f2,f3,f4,f5,f6⟩:=HT5.out.2.2.frozens
 go_upto_region 4 with fail
 clear a0 a1 a2 a3 a4 a5 a6 f0 f1 f2 f3 f4 f5 f6
 obtain ⟨hbx,hgr⟩:=HT5.out.2.2.set7 true (k:=5) (b:=0) (v:=0) (n:=sRes) (m:=[]) [] (.slice A' 1 c') (nb:=⟨#[114,101,115,111,117,114,99,101,95,101,114,114,111,114]⟩) (mb:=⟨#[]⟩) rfl rfl
 have hlt:=HX1.out.2.2.2.1.lt
 have HX6:=Qh (show ∀ z,(((((((u5.setCell ⟨w.heap.size+1,0,none⟩ (.bool true)).setCell ⟨w.heap.size+1,1,none⟩ (.int .i64 5)).setCell ⟨w.heap.size+1,2,none⟩ (.string ⟨#[114,101,115,111,117,114,99,101,95,101,114,114,111,114]⟩)).setCell ⟨w.heap.size+1,3,none⟩ (.string ⟨#[]⟩)).setCell ⟨w.heap.size+1,4,none⟩ (.int .u64 0)).setCell ⟨w.heap.size+1,5,none⟩ (.int .i64 0)).setCell ⟨w.heap.size+1,6,none⟩ (.slice A' 1 c'))=z→TBox z (w.heap.size) (.mk k n m b v ts) (.slice A L c)∧BBox z (w.heap.size+1) true (cmpT sRes []) (.slice A' 1 c')∧TBox z (w.heap.size+1+1) zeroT (.slice none 0 0)∧BBox z (w.heap.size+1+1+1) false zeroT (.slice none 0 0)∧Below w.heap.size w z∧TAtP z (fun b=>w.heap.size+1+1+1<b∧b<z.heap.size) nodesT (.slice A' 1 c') from fun z e=>by
  rw [←e]
  have hB5:=HT5.out.2.1
  exact ⟨(HX1.out.1.below hB5).gro hgr (by omega),hbx,(HX1.out.2.2.1.below hB5).gro hgr (by omega),(HX1.out.2.2.2.1.below hB5).gro hgr (by omega),(Qt HX1.out.2.2.2.2 hB5).grown hgr (Qt HX1.out.2.2.2.2 hB5).size (Qg (by omega)),TAtP.keep _ HT5.out.1 (fun b h=>⟨⟨by omega,Ql h.2 hgr.size⟩,hgr.block b h.2 (fun e=>by injection e with e;omega)⟩)⟩)
 clear hbx hgr hlt
 generalize (((((((u5.setCell ⟨w.heap.size+1,0,none⟩ (.bool true)).setCell ⟨w.heap.size+1,1,none⟩ (.int .i64 5)).setCell ⟨w.heap.size+1,2,none⟩ (.string ⟨#[114,101,115,111,117,114,99,101,95,101,114,114,111,114]⟩)).setCell ⟨w.heap.size+1,3,none⟩ (.string ⟨#[]⟩)).setCell ⟨w.heap.size+1,4,none⟩ (.int .u64 0)).setCell ⟨w.heap.size+1,5,none⟩ (.int .i64 0)).setCell ⟨w.heap.size+1,6,none⟩ (.slice A' 1 c'))=u6 at *
 replace HX6:=Qh (HX6.out _ rfl)
 have HSS:=Qh (show ∀ z,u6.grownBy z (some (w.heap.size+1+1))→((Q6 z (w.heap.size) k nb mb b v (.slice A L c))∧(z.cell? ⟨w.heap.size+1,0,none⟩=some (.bool true)∧z.cell? ⟨w.heap.size+1,1,none⟩=some (.int .i64 5)∧z.cell? ⟨w.heap.size+1,2,none⟩=some (.string ⟨#[114,101,115,111,117,114,99,101,95,101,114,114,111,114]⟩)∧z.cell? ⟨w.heap.size+1,3,none⟩=some (.string ⟨#[]⟩)∧z.cell? ⟨w.heap.size+1,4,none⟩=some (.int .u64 0)∧z.cell? ⟨w.heap.size+1,5,none⟩=some (.int .i64 0)∧z.cell? ⟨w.heap.size+1,6,none⟩=some (.slice A' 1 c'))) from fun z hb=>⟨(HX6.out.1.gro hb (by omega)).cells HM.out.1 HM.out.2.1,(HX6.out.2.1.gro hb (by omega)).cells (n:=sRes) (m:=[]) (nb:=⟨#[114,101,115,111,117,114,99,101,95,101,114,114,111,114]⟩) (mb:=⟨#[]⟩) rfl rfl⟩)
 have HB3:=Qh (HX6.out.2.2.1)
 have HB4:=Qh (HX6.out.2.2.2.1)
 have HBl:=Qh (HX6.out.2.2.2.2.1)
 refine wp_region_wait (fun z=>((Q6 z (w.heap.size) k nb mb b v (.slice A L c))∧(z.cell? ⟨w.heap.size+1,0,none⟩=some (.bool true)∧z.cell? ⟨w.heap.size+1,1,none⟩=some (.int .i64 5)∧z.cell? ⟨w.heap.size+1,2,none⟩=some (.string ⟨#[114,101,115,111,117,114,99,101,95,101,114,114,111,114]⟩)∧z.cell? ⟨w.heap.size+1,3,none⟩=some (.string ⟨#[]⟩)∧z.cell? ⟨w.heap.size+1,4,none⟩=some (.int .u64 0)∧z.cell? ⟨w.heap.size+1,5,none⟩=some (.int .i64 0)∧z.cell? ⟨w.heap.size+1,6,none⟩=some (.slice A' 1 c')))) 3 (by kernel_rfl) ?_
 change wpAnyW _ _ _ _ _ _ _ _ _ u6.drew
 have KK:=Qh (below_drew' u6)
 generalize u6.drew=v0 at *
 have KG:=Qh (grown_below (r:=some (w.heap.size+1+1)) KK.out)
 refine w3 3 0 (.agg Qz) (HSS.out _ KG.out) ?_ ?_
 ·intro w5 hSw
  obtain ⟨⟨p0,p1,p2,p3,p4,p5⟩,⟨q0,q1,q2,q3,q4,q5,q6⟩⟩:=hSw
  go_simp
 refine w3 3 1 (.agg #[.bool true,.int .i64 5,.string ⟨#[114,101,115,111,117,114,99,101,95,101,114,114,111,114]⟩,.string ⟨#[]⟩,.int .u64 0,.int .i64 0,.slice A' 1 c']) (HSS.out _ KG.out) ?_ ?_
 ·intro w5 hSw
  obtain ⟨⟨p0,p1,p2,p3,p4,p5⟩,⟨q0,q1,q2,q3,q4,q5,q6⟩⟩:=hSw
  go_simp
 refine w1 2 fun K hK=>?_
 obtain ⟨a0,a1,a2,a3,a4,a5⟩:=(HB3.out.below KK.out).cells rfl rfl
 obtain ⟨f0,f1,f2,f3,f4,f5⟩:=(HB3.out.below KK.out).frozens
 go_simp
 clear a0 a1 a2 a3 a4 a5 f0 f1 f2 f3 f4 f5
 obtain ⟨hbx,hgr⟩:=(HB3.out.below KK.out).set6 (k:=0) (b:=0) (v:=0) (n:=[]) (m:=[]) [] (.slice none 0 0) (nb:=⟨#[]⟩) (mb:=⟨#[]⟩) rfl rfl
 have HG3:=Qh (Qa hbx (Qa ((HB4.out.below KK.out).gro hgr (by omega)) ((Qt HBl.out KK.out).grown hgr (Qt HBl.out KK.out).size (Qg (by omega)))))
 have HG3b:=Qh hgr
 clear hbx hgr
 refine hK.out _ _ (fun _=>HSS.out _ (grown_trans KG.out HG3b.out)) ?_
 generalize ((((((v0.setCell ⟨w.heap.size+1+1,0,none⟩ (.int .i64 0)).setCell ⟨w.heap.size+1+1,1,none⟩ (.string ⟨#[]⟩)).setCell ⟨w.heap.size+1+1,2,none⟩ (.string ⟨#[]⟩)).setCell ⟨w.heap.size+1+1,3,none⟩ (.int .u64 0)).setCell ⟨w.heap.size+1+1,4,none⟩ (.int .i64 0)).setCell ⟨w.heap.size+1+1,5,none⟩ (.slice none 0 0))=z1 at *
 refine w1 3 fun K hK=>?_
 obtain ⟨a0,a1,a2,a3,a4,a5,a6⟩:=HG3.out.2.1.cells rfl rfl
 obtain ⟨f0,f1,f2,f3,f4,f5,f6⟩:=HG3.out.2.1.frozens
 go_simp
 clear a0 a1 a2 a3 a4 a5 a6 f0 f1 f2 f3 f4 f5 f6
 refine hK.out _ _ (fun h=>absurd h (by simp)) ?_
 refine wpAnyW_done (by kernel_rfl) ?_ _
 go_wp2
 obtain ⟨hbx,hgr⟩:=HG3.out.2.1.set7 true (k:=5) (b:=0) (v:=0) (n:=sRes) (m:=[]) [] (.slice A' 1 c') (nb:=⟨#[114,101,115,111,117,114,99,101,95,101,114,114,111,114]⟩) (mb:=⟨#[]⟩) rfl rfl
 have HG4:=Qh (Qa (HG3.out.1.gro hgr (by omega)) (HG3.out.2.2.grown hgr HG3.out.2.2.size (Qg (by omega))))
 have HT9:=Qh (show TAtP (((((((z1.setCell ⟨w.heap.size+1+1+1,0,none⟩ (.bool true)).setCell ⟨w.heap.size+1+1+1,1,none⟩ (.int .i64 5)).setCell ⟨w.heap.size+1+1+1,2,none⟩ (.string ⟨#[114,101,115,111,117,114,99,101,95,101,114,114,111,114]⟩)).setCell ⟨w.heap.size+1+1+1,3,none⟩ (.string ⟨#[]⟩)).setCell ⟨w.heap.size+1+1+1,4,none⟩ (.int .u64 0)).setCell ⟨w.heap.size+1+1+1,5,none⟩ (.int .i64 0)).setCell ⟨w.heap.size+1+1+1,6,none⟩ (.slice A' 1 c')) (fun b=>w.heap.size≤b∧b<(((((((z1.setCell ⟨w.heap.size+1+1+1,0,none⟩ (.bool true)).setCell ⟨w.heap.size+1+1+1,1,none⟩ (.int .i64 5)).setCell ⟨w.heap.size+1+1+1,2,none⟩ (.string ⟨#[114,101,115,111,117,114,99,101,95,101,114,114,111,114]⟩)).setCell ⟨w.heap.size+1+1+1,3,none⟩ (.string ⟨#[]⟩)).setCell ⟨w.heap.size+1+1+1,4,none⟩ (.int .u64 0)).setCell ⟨w.heap.size+1+1+1,5,none⟩ (.int .i64 0)).setCell ⟨w.heap.size+1+1+1,6,none⟩ (.slice A' 1 c')).heap.size) nodesT (.slice A' 1 c') from TAtP.keep _ HX6.out.2.2.2.2.2 (fun b h=>by
  have h1:=KK.out.size
  have h2:=HG3b.out.size
  have h3:=hgr.size
  exact ⟨⟨by omega,by omega⟩,(hgr.block b (by omega) (fun e=>by injection e with e;omega)).trans ((HG3b.out.block b (by omega) (fun e=>by injection e with e;omega)).trans (KK.out.block b h.2))⟩))
 generalize (((((((z1.setCell ⟨w.heap.size+1+1+1,0,none⟩ (.bool true)).setCell ⟨w.heap.size+1+1+1,1,none⟩ (.int .i64 5)).setCell ⟨w.heap.size+1+1+1,2,none⟩ (.string ⟨#[114,101,115,111,117,114,99,101,95,101,114,114,111,114]⟩)).setCell ⟨w.heap.size+1+1+1,3,none⟩ (.string ⟨#[]⟩)).setCell ⟨w.heap.size+1+1+1,4,none⟩ (.int .u64 0)).setCell ⟨w.heap.size+1+1+1,5,none⟩ (.int .i64 0)).setCell ⟨w.heap.size+1+1+1,6,none⟩ (.slice A' 1 c'))=z2 at *
 obtain ⟨r0,r1,r2,r3,r4,r5⟩:=HG4.out.1.cells rfl rfl
 obtain ⟨q0,q1,q2,q3,q4,q5,q6⟩:=hbx.cells (n:=sRes) (m:=[]) (nb:=⟨#[114,101,115,111,117,114,99,101,95,101,114,114,111,114]⟩) (mb:=⟨#[]⟩) rfl rfl
 exact bodyPost_ret (v:=.tuple #[.agg Qz,.agg #[.bool true,.int .i64 5,.string ⟨#[114,101,115,111,117,114,99,101,95,101,114,114,111,114]⟩,.string ⟨#[]⟩,.int .u64 0,.int .i64 0,.slice A' 1 c']]) (by simp [results,Tryd.results50,go_sem,r0,r1,r2,r3,r4,r5,q0,q1,q2,q3,q4,q5,q6]) rfl ⟨_,rfl,HT9.out,HG4.out.2⟩
theorem rwhole_ok {w:World} {k v b:Int} {n m:List UInt8} {ts:List Tm} {nb mb:ByteArray} {A:Option Addr} {L c:Nat} {k2 v2 b2:Int} {n2 m2:List UInt8} {ts2:List Tm} {nb2 mb2:ByteArray} {A2:Option Addr} {L2 c2:Nat} (hn:(⟨n.toArray⟩:ByteArray)=nb) (hm:(⟨m.toArray⟩:ByteArray)=mb) (hn2:(⟨n2.toArray⟩:ByteArray)=nb2) (hm2:(⟨m2.toArray⟩:ByteArray)=mb2) (h1:TAt w w.heap.size (.mk k n m b v ts) (.slice A L c)) (hzz:¬4000<nodes (.mk k n m b v ts)) :
  Calls Tryd.prog 50 #[.agg (Q5 k nb mb b v (.slice A L c)),.agg #[.bool false,.int .i64 k2,.string nb2,.string mb2,.int .u64 b2,.int .i64 v2,.slice A2 L2 c2]] w fun e w'=>e = .returned (.tuple #[.agg (Q5 k nb mb b v (.slice A L c)),.agg #[.bool false,.int .i64 k2,.string nb2,.string mb2,.int .u64 b2,.int .i64 v2,.slice A2 L2 c2]])∧Below w.heap.size w w':=by
 obtain ⟨W1,hW1⟩:∃ W,w.alloc (.cells (Q5 k nb mb b v (.slice A L c)) 25)=W:=⟨_,rfl⟩
 have d1:Below w.heap.size w W1:=by rw [←hW1];exact Qb
 have s1:W1.heap.size=w.heap.size+1:=by rw [←hW1];simp
 have X1:TBox W1 w.heap.size (.mk k n m b v ts) (.slice A L c):=by rw [←hW1];exact TBox.new w hn hm
 obtain ⟨W2,hW2⟩:∃ W,W1.alloc (.cells #[.bool false,.int .i64 k2,.string nb2,.string mb2,.int .u64 b2,.int .i64 v2,.slice A2 L2 c2] 35)=W:=⟨_,rfl⟩
 have d2:Below W1.heap.size W1 W2:=by rw [←hW2];exact Qb
 have s2:W2.heap.size=W1.heap.size+1:=by rw [←hW2];simp
 have X2:BBox W2 W1.heap.size false (.mk k2 n2 m2 b2 v2 ts2) (.slice A2 L2 c2):=by rw [←hW2];exact BBox.new W1 hn2 hm2
 obtain ⟨W3,hW3⟩:∃ W,W2.alloc (.cells Qz 25)=W:=⟨_,rfl⟩
 have d3:Below W2.heap.size W2 W3:=by rw [←hW3];exact Qb
 have s3:W3.heap.size=W2.heap.size+1:=by rw [←hW3];simp
 have X3:TBox W3 W2.heap.size zeroT (.slice none 0 0):=by rw [←hW3];exact heap_alloc_new W2 _
 obtain ⟨W4,hW4⟩:∃ W,W3.alloc (.cells #[.bool false,.int .i64 0,.string ⟨#[]⟩,.string ⟨#[]⟩,.int .u64 0,.int .i64 0,.slice none 0 0] 35)=W:=⟨_,rfl⟩
 have d4:Below W3.heap.size W3 W4:=by rw [←hW4];exact Qb
 have s4:W4.heap.size=W3.heap.size+1:=by rw [←hW4];simp
 have X4:BBox W4 W3.heap.size false zeroT (.slice none 0 0):=by rw [←hW4];exact heap_alloc_new W3 _
 replace X1:=X1.below d2
 replace X1:=X1.below d3
 replace X1:=X1.below d4
 replace X2:=X2.below d3
 replace X2:=X2.below d4
 replace X3:=X3.below d4
 have hb0:Below w.heap.size w W4:=d1.trans ((d2.trans ((d3.trans ((d4).mono (by omega))).mono (by omega))).mono (by omega))
 have hsz0:W4.heap.size=w.heap.size+1+1+1+1:=by omega
 rw [s1] at X2
 rw [s2,s1] at X3
 rw [s3,s2,s1] at X4
 have HX:=Qh (Qa X1 (Qa X2 (Qa X3 (Qa X4 (Qa hb0 hsz0)))))
 subst hW1 hW2 hW3 hW4
 clear X1 d1 s1 X2 d2 s2 X3 d3 s3 X4 d4 s4 hb0 hsz0
 have HM:=Qh (Qa hn (Qa hm (Qa hn2 hm2)))
 have hNo:=rNodes_any (h1.to (HX.out.2.2.2.2.1) (HX.out.2.2.2.2.1).size)
 obtain ⟨z,hz⟩:∃ z,nodes (.mk k n m b v ts)=z:=⟨_,rfl⟩
 rw [valT_mk hn hm,hz] at hNo
 rw [hz] at hzz
 have hzI:¬(4000:Int)<(z:Int):=by omega
 have HNo:=Qh hNo
 clear hNo hz h1 hzz
 obtain ⟨y0,y1,y2,y3,y4,y5,y6⟩:=(HX.out.2.1).cells hn2 hm2
 obtain ⟨x0,x1,x2,x3,x4,x5⟩:=(HX.out.1).cells hn hm
 clear hn hm hn2 hm2
 go_enter Tryd.func50,Tryd.ntmps50
 go_upto_region 5 with (go_at_call 40;(with_reducible refine HNo.out.mono ?_);rintro e u1 ⟨rfl,hb⟩;obtain ⟨e0,e1,e2,e3,e4,e5,e6⟩:=((HX.out.2.1).below hb).cells HM.out.2.2.1 HM.out.2.2.2;have HB1:=Qh hb;clear hb)
 clear e0 e1 e2 e3 e4 e5 e6 x0 x1 x2 x3 x4 x5 y0 y1 y2 y3 y4 y5 y6
 have HX1:=Qh (Qa ((HX.out.1).below HB1.out) (Qa ((HX.out.2.1).below HB1.out) (Qa ((HX.out.2.2.1).below HB1.out) (Qa ((HX.out.2.2.2.1).below HB1.out) ((HX.out.2.2.2.2.1).trans (HB1.out.mono (HX.out.2.2.2.2.1).size))))))
 clear hzI HNo
 have HSS:=Qh (show ∀ z,u1.grownBy z (some (w.heap.size+1+1))→((Q6 z (w.heap.size) k nb mb b v (.slice A L c))∧(z.cell? ⟨w.heap.size+1,0,none⟩=some (.bool false)∧z.cell? ⟨w.heap.size+1,1,none⟩=some (.int .i64 k2)∧z.cell? ⟨w.heap.size+1,2,none⟩=some (.string nb2)∧z.cell? ⟨w.heap.size+1,3,none⟩=some (.string mb2)∧z.cell? ⟨w.heap.size+1,4,none⟩=some (.int .u64 b2)∧z.cell? ⟨w.heap.size+1,5,none⟩=some (.int .i64 v2)∧z.cell? ⟨w.heap.size+1,6,none⟩=some (.slice A2 L2 c2))) from fun z hb=>⟨(HX1.out.1.gro hb (by omega)).cells HM.out.1 HM.out.2.1,(HX1.out.2.1.gro hb (by omega)).cells HM.out.2.2.1 HM.out.2.2.2⟩)
 have HB3:=Qh (HX1.out.2.2.1)
 have HB4:=Qh (HX1.out.2.2.2.1)
 have HBl:=Qh (HX1.out.2.2.2.2)
 refine wp_region_wait (fun z=>((Q6 z (w.heap.size) k nb mb b v (.slice A L c))∧(z.cell? ⟨w.heap.size+1,0,none⟩=some (.bool false)∧z.cell? ⟨w.heap.size+1,1,none⟩=some (.int .i64 k2)∧z.cell? ⟨w.heap.size+1,2,none⟩=some (.string nb2)∧z.cell? ⟨w.heap.size+1,3,none⟩=some (.string mb2)∧z.cell? ⟨w.heap.size+1,4,none⟩=some (.int .u64 b2)∧z.cell? ⟨w.heap.size+1,5,none⟩=some (.int .i64 v2)∧z.cell? ⟨w.heap.size+1,6,none⟩=some (.slice A2 L2 c2)))) 3 (by kernel_rfl) ?_
 change wpAnyW _ _ _ _ _ _ _ _ _ u1.drew
 have KK:=Qh (below_drew' u1)
 generalize u1.drew=v0 at *
 have KG:=Qh (grown_below (r:=some (w.heap.size+1+1)) KK.out)
 refine w3 3 0 (.agg (Q5 k nb mb b v (.slice A L c))) (HSS.out _ KG.out) ?_ ?_
 ·intro w5 hSw
  obtain ⟨⟨p0,p1,p2,p3,p4,p5⟩,⟨q0,q1,q2,q3,q4,q5,q6⟩⟩:=hSw
  go_simp
 refine w3 3 1 (.agg #[.bool false,.int .i64 k2,.string nb2,.string mb2,.int .u64 b2,.int .i64 v2,.slice A2 L2 c2]) (HSS.out _ KG.out) ?_ ?_
 ·intro w5 hSw
  obtain ⟨⟨p0,p1,p2,p3,p4,p5⟩,⟨q0,q1,q2,q3,q4,q5,q6⟩⟩:=hSw
  go_simp
 refine w1 2 fun K hK=>?_
 obtain ⟨a0,a1,a2,a3,a4,a5⟩:=(HB3.out.below KK.out).cells rfl rfl
 obtain ⟨f0,f1,f2,f3,f4,f5⟩:=(HB3.out.below KK.out).frozens
 go_simp
 clear a0 a1 a2 a3 a4 a5 f0 f1 f2 f3 f4 f5
 obtain ⟨hbx,hgr⟩:=(HB3.out.below KK.out).set6 (k:=k) (b:=b) (v:=v) (n:=n) (m:=m) ts (.slice A L c) HM.out.1 HM.out.2.1
 have HG3:=Qh (Qa hbx (Qa ((HB4.out.below KK.out).gro hgr (by omega)) ((Qt HBl.out KK.out).grown hgr (Qt HBl.out KK.out).size (Qg (by omega)))))
 have HG3b:=Qh hgr
 clear hbx hgr
 refine hK.out _ _ (fun _=>HSS.out _ (grown_trans KG.out HG3b.out)) ?_
 generalize ((((((v0.setCell ⟨w.heap.size+1+1,0,none⟩ (.int .i64 k)).setCell ⟨w.heap.size+1+1,1,none⟩ (.string nb)).setCell ⟨w.heap.size+1+1,2,none⟩ (.string mb)).setCell ⟨w.heap.size+1+1,3,none⟩ (.int .u64 b)).setCell ⟨w.heap.size+1+1,4,none⟩ (.int .i64 v)).setCell ⟨w.heap.size+1+1,5,none⟩ (.slice A L c))=z1 at *
 refine w1 3 fun K hK=>?_
 obtain ⟨a0,a1,a2,a3,a4,a5,a6⟩:=HG3.out.2.1.cells rfl rfl
 obtain ⟨f0,f1,f2,f3,f4,f5,f6⟩:=HG3.out.2.1.frozens
 go_simp
 clear a0 a1 a2 a3 a4 a5 a6 f0 f1 f2 f3 f4 f5 f6
 refine hK.out _ _ (fun h=>absurd h (by simp)) ?_
 refine wpAnyW_done (by kernel_rfl) ?_ _
 go_wp2
 obtain ⟨hbx,hgr⟩:=HG3.out.2.1.set7 false (k:=k2) (b:=b2) (v:=v2) (n:=n2) (m:=m2) ts2 (.slice A2 L2 c2) HM.out.2.2.1 HM.out.2.2.2
 have HG4:=Qh (Qa (HG3.out.1.gro hgr (by omega)) (HG3.out.2.2.grown hgr HG3.out.2.2.size (Qg (by omega))))
 generalize (((((((z1.setCell ⟨w.heap.size+1+1+1,0,none⟩ (.bool false)).setCell ⟨w.heap.size+1+1+1,1,none⟩ (.int .i64 k2)).setCell ⟨w.heap.size+1+1+1,2,none⟩ (.string nb2)).setCell ⟨w.heap.size+1+1+1,3,none⟩ (.string mb2)).setCell ⟨w.heap.size+1+1+1,4,none⟩ (.int .u64 b2)).setCell ⟨w.heap.size+1+1+1,5,none⟩ (.int .i64 v2)).setCell ⟨w.heap.size+1+1+1,6,none⟩ (.slice A2 L2 c2))=z2 at *
 obtain ⟨r0,r1,r2,r3,r4,r5⟩:=HG4.out.1.cells HM.out.1 HM.out.2.1
 obtain ⟨q0,q1,q2,q3,q4,q5,q6⟩:=hbx.cells HM.out.2.2.1 HM.out.2.2.2
 exact bodyPost_ret (v:=.tuple #[.agg (Q5 k nb mb b v (.slice A L c)),.agg #[.bool false,.int .i64 k2,.string nb2,.string mb2,.int .u64 b2,.int .i64 v2,.slice A2 L2 c2]]) (by simp [results,Tryd.results50,go_sem,r0,r1,r2,r3,r4,r5,q0,q1,q2,q3,q4,q5,q6]) rfl ⟨rfl,HG4.out.2⟩
theorem TRow.rowP {w:World} {B n c:Nat} {P:Nat→Prop} {A:Option Addr} {ps:List (Tm × Value)} (h:TRow w B P A n c ps):RowP w P A n ps:=by
 refine ⟨h.len,fun p hp=>(h.kid p hp).wide (fun b hb=>hb.1),fun hn=>?_⟩
 rcases h.block with ⟨_,h0⟩ | ⟨g,rfl,hB,hg,_⟩
 ·omega
 ·refine ⟨g,0,rfl,hg,fun j u hj=>?_⟩
  have h9:=World.ownsRow.cells h.own (g:=g) rfl _ _ hj
  rw [add_zero'] at h9
  rw [Nat.zero_add]
  exact h9
theorem rput_big {w:World} {P:Nat→Prop} {k1 v1 b1:Int} {n1 m1:List UInt8} {ts1:List Tm} {nb1 mb1:ByteArray} {A1:Option Addr} {L1 c1:Nat} {k2 v2 b2:Int} {n2 m2:List UInt8} {ts2:List Tm} {nb2 mb2:ByteArray} {A2:Option Addr} {L2 c2:Nat} {k3 v3 b3:Int} {n3 m3:List UInt8} {ts3:List Tm} {nb3 mb3:ByteArray} {A3:Option Addr} {L3 c3:Nat} (hn1:(⟨n1.toArray⟩:ByteArray)=nb1) (hm1:(⟨m1.toArray⟩:ByteArray)=mb1) (hL1:ts1.length=L1) (hn2:(⟨n2.toArray⟩:ByteArray)=nb2) (hm2:(⟨m2.toArray⟩:ByteArray)=mb2) (hL2:ts2.length=L2) (hn3:(⟨n3.toArray⟩:ByteArray)=nb3) (hm3:(⟨m3.toArray⟩:ByteArray)=mb3) (hL3:ts3.length=L3) (h1:TAtP w P (.mk k1 n1 m1 b1 v1 ts1) (.slice A1 L1 c1)) (h2:TAtP w P (.mk k2 n2 m2 b2 v2 ts2) (.slice A2 L2 c2)) (h3:TAtP w P (.mk k3 n3 m3 b3 v3 ts3) (.slice A3 L3 c3)) (hP:∀ b,P b→b<w.heap.size) (h62:62<L1) :
  Calls Tryd.prog 48 #[.agg (Q5 k1 nb1 mb1 b1 v1 (.slice A1 L1 c1)),.agg (Q5 k2 nb2 mb2 b2 v2 (.slice A2 L2 c2)),.agg (Q5 k3 nb3 mb3 b3 v3 (.slice A3 L3 c3))] w fun e w'=>∃ sn,e = .returned (.tuple #[.agg Qz,.agg #[.bool true,.int .i64 5,.string ⟨#[114,101,112,114,101,115,101,110,116,97,116,105,111,110,95,101,114,114,111,114]⟩,.string ⟨#[]⟩,.int .u64 0,.int .i64 0,sn]])∧TAtP w' (fun b=>w.heap.size≤b∧b<w'.heap.size) arityT sn∧Below w.heap.size w w':=by
 have hx1:L1≤maxArgs:=by obtain ⟨_,_,_,_,_,h,_⟩:=TAtP.iff.1 h1;rw [←hL1];exact h
 have hLI:(62:Int)<(L1:Int):=by omega
 have hLI2:(L1:Int)≤1759218604400:=by unfold maxArgs at hx1;omega
 obtain ⟨W1,hW1⟩:∃ W,w.alloc (.cells (Q5 k1 nb1 mb1 b1 v1 (.slice A1 L1 c1)) 25)=W:=⟨_,rfl⟩
 have d1:Below w.heap.size w W1:=by rw [←hW1];exact Qb
 have s1:W1.heap.size=w.heap.size+1:=by rw [←hW1];simp
 have X1:TBox W1 w.heap.size (.mk k1 n1 m1 b1 v1 ts1) (.slice A1 L1 c1):=by rw [←hW1];exact TBox.new w hn1 hm1
 obtain ⟨W2,hW2⟩:∃ W,W1.alloc (.cells (Q5 k2 nb2 mb2 b2 v2 (.slice A2 L2 c2)) 25)=W:=⟨_,rfl⟩
 have d2:Below W1.heap.size W1 W2:=by rw [←hW2];exact Qb
 have s2:W2.heap.size=W1.heap.size+1:=by rw [←hW2];simp
 have X2:TBox W2 W1.heap.size (.mk k2 n2 m2 b2 v2 ts2) (.slice A2 L2 c2):=by rw [←hW2];exact TBox.new W1 hn2 hm2
 obtain ⟨W3,hW3⟩:∃ W,W2.alloc (.cells (Q5 k3 nb3 mb3 b3 v3 (.slice A3 L3 c3)) 25)=W:=⟨_,rfl⟩
 have d3:Below W2.heap.size W2 W3:=by rw [←hW3];exact Qb
 have s3:W3.heap.size=W2.heap.size+1:=by rw [←hW3];simp
 have X3:TBox W3 W2.heap.size (.mk k3 n3 m3 b3 v3 ts3) (.slice A3 L3 c3):=by rw [←hW3];exact TBox.new W2 hn3 hm3
 obtain ⟨W4,hW4⟩:∃ W,W3.alloc (.cells Qz 25)=W:=⟨_,rfl⟩
 have d4:Below W3.heap.size W3 W4:=by rw [←hW4];exact Qb
 have s4:W4.heap.size=W3.heap.size+1:=by rw [←hW4];simp
 have X4:TBox W4 W3.heap.size zeroT (.slice none 0 0):=by rw [←hW4];exact heap_alloc_new W3 _
 obtain ⟨W5,hW5⟩:∃ W,W4.alloc (.cells #[.bool false,.int .i64 0,.string ⟨#[]⟩,.string ⟨#[]⟩,.int .u64 0,.int .i64 0,.slice none 0 0] 35)=W:=⟨_,rfl⟩
 have d5:Below W4.heap.size W4 W5:=by rw [←hW5];exact Qb
 have s5:W5.heap.size=W4.heap.size+1:=by rw [←hW5];simp
 have X5:BBox W5 W4.heap.size false zeroT (.slice none 0 0):=by rw [←hW5];exact heap_alloc_new W4 _
 replace X1:=X1.below d2
 replace X1:=X1.below d3
 replace X1:=X1.below d4
 replace X1:=X1.below d5
 replace X2:=X2.below d3
 replace X2:=X2.below d4
 replace X2:=X2.below d5
 replace X3:=X3.below d4
 replace X3:=X3.below d5
 replace X4:=X4.below d5
 have hb0:Below w.heap.size w W5:=d1.trans ((d2.trans ((d3.trans ((d4.trans ((d5).mono (by omega))).mono (by omega))).mono (by omega))).mono (by omega))
 have hsz0:W5.heap.size=w.heap.size+1+1+1+1+1:=by omega
 rw [s1] at X2
 rw [s2,s1] at X3
 rw [s3,s2,s1] at X4
 rw [s4,s3,s2,s1] at X5
 have HX:=Qh (Qa X1 (Qa X2 (Qa X3 (Qa X4 (Qa X5 (Qa hb0 hsz0))))))
 subst hW1 hW2 hW3 hW4 hW5
 clear X1 d1 s1 X2 d2 s2 X3 d3 s3 X4 d4 s4 X5 d5 s5 hb0 hsz0
 have HM:=Qh (Qa hn1 (Qa hm1 (Qa hn2 (Qa hm2 (Qa hn3 hm3)))))
 have HLs:=Qh (Qa hL1 (Qa hL2 hL3))
 have HT:=Qh (Qa h1 (Qa h2 (Qa h3 hP)))
 obtain ⟨x0,x1,x2,x3,x4,x5⟩:=(HX.out.1).cells hn1 hm1
 clear hn1 hm1 hn2 hm2 hn3 hm3 hL1 hL2 hL3 h1 h2 h3 hP
 clear hx1 h62
 go_enter Tryd.func48,Tryd.ntmps48
 go_upto_region 2 with fail
 generalize (((((w.alloc (.cells (Q5 k1 nb1 mb1 b1 v1 (.slice A1 L1 c1)) 25)).alloc (.cells (Q5 k2 nb2 mb2 b2 v2 (.slice A2 L2 c2)) 25)).alloc (.cells (Q5 k3 nb3 mb3 b3 v3 (.slice A3 L3 c3)) 25)).alloc (.cells Qz 25)).alloc (.cells #[.bool false,.int .i64 0,.string ⟨#[]⟩,.string ⟨#[]⟩,.int .u64 0,.int .i64 0,.slice none 0 0] 35))=u0 at *
 clear x0 x1 x2 x3 x4 x5
 go_wp2_with fail
 (with_reducible refine (A_any _ _).mono ?_)
 rintro e u3 ⟨rfl,hb⟩
 have HB3:=Qh hb
 clear hb
 go_wp2_with fail
 (with_reducible refine (Fatom_any (w:=u3) (s:=sRepr) (a:=sArity) (sb:=⟨#[114,101,112,114,101,115,101,110,116,97,116,105,111,110,95,101,114,114,111,114]⟩) (ab:=⟨#[109,97,120,95,97,114,105,116,121]⟩) rfl rfl (by decide) (by decide)).mono ?_)
 rintro e u4 ⟨A',c',rfl,ht,hb⟩
 have HT4:=Qh (Qa ht (Qa (Qt HB3.out hb) HB3.out.size))
 clear ht hb
 go_wp2_with fail
 (with_reducible refine (rthrow_any (k:=5) (b:=0) (v:=0) (ts:=[]) (n:=sRepr) (m:=[]) (nb:=⟨#[114,101,112,114,101,115,101,110,116,97,116,105,111,110,95,101,114,114,111,114]⟩) (mb:=⟨#[]⟩) rfl rfl).mono ?_)
 rintro e u5 ⟨rfl,hb⟩
 have hs:=HT4.out.2.1.size
 have hB5:=HT4.out.2.1.trans (hb.mono hs)
 have HT5:=Qh (Qa (show TAtP u5 (fun b=>u0.heap.size≤b∧b<u5.heap.size) arityT (.slice A' 1 c') from TAtP.keep _ HT4.out.1 (fun b h=>⟨⟨Nat.le_trans HT4.out.2.2 h.1,Ql h.2 hb.size⟩,hb.block b h.2⟩)) (Qa hB5 (Qa ((HX.out.2.2.2.1).below hB5) ((HX.out.2.2.2.2.1).below hB5))))
 clear hs hB5 hb
 obtain ⟨a0,a1,a2,a3,a4,a5⟩:=HT5.out.2.2.1.cells rfl rfl
 obtain ⟨f0,f1,f2,f3,f4,f5⟩:=HT5.out.2.2.1.frozens
 obtain ⟨hbx,hgr⟩:=HT5.out.2.2.1.set6 (k:=0) (b:=0) (v:=0) (n:=[]) (m:=[]) [] (.slice none 0 0) (nb:=⟨#[]⟩) (mb:=⟨#[]⟩) rfl rfl
 have hB6:=HT5.out.2.2.2.gro hgr (by omega)
 obtain ⟨g0,g1,g2,g3,g4,g5,g6⟩:=hB6.cells rfl rfl
 obtain ⟨e0,e1,e2,e3,e4,e5,e6⟩:=hB6.frozens
 obtain ⟨hbx2,hgr2⟩:=hB6.set7 true (k:=5) (b:=0) (v:=0) (n:=sRepr) (m:=[]) [] (.slice A' 1 c') (nb:=⟨#[114,101,112,114,101,115,101,110,116,97,116,105,111,110,95,101,114,114,111,114]⟩) (mb:=⟨#[]⟩) rfl rfl
 have hbx1:=hbx.gro hgr2 (by omega)
 have hlt:=(HX.out.2.2.2.2.1).lt
 have hw6:=((HX.out.2.2.2.2.2.1).trans (HT5.out.2.1.mono (HX.out.2.2.2.2.2.1).size)).grown hgr ((HX.out.2.2.2.2.2.1).trans (HT5.out.2.1.mono (HX.out.2.2.2.2.2.1).size)).size (Qg (by omega))
 have hw7:=hw6.grown hgr2 hw6.size (Qg (by omega))
 have h60:=hgr.size
 have h70:=hgr2.size
 have ht7:=TAtP.keep arityT (P:=fun b=>u0.heap.size≤b∧b<u5.heap.size) (Q:=fun b=>w.heap.size≤b∧b<((((((((((((((u5.setCell ⟨w.heap.size+1+1+1,0,none⟩ (.int .i64 0)).setCell ⟨w.heap.size+1+1+1,1,none⟩ (.string ⟨#[]⟩)).setCell ⟨w.heap.size+1+1+1,2,none⟩ (.string ⟨#[]⟩)).setCell ⟨w.heap.size+1+1+1,3,none⟩ (.int .u64 0)).setCell ⟨w.heap.size+1+1+1,4,none⟩ (.int .i64 0)).setCell ⟨w.heap.size+1+1+1,5,none⟩ (.slice none 0 0)).setCell ⟨w.heap.size+1+1+1+1,0,none⟩ (.bool true)).setCell ⟨w.heap.size+1+1+1+1,1,none⟩ (.int .i64 5)).setCell ⟨w.heap.size+1+1+1+1,2,none⟩ (.string ⟨#[114,101,112,114,101,115,101,110,116,97,116,105,111,110,95,101,114,114,111,114]⟩)).setCell ⟨w.heap.size+1+1+1+1,3,none⟩ (.string ⟨#[]⟩)).setCell ⟨w.heap.size+1+1+1+1,4,none⟩ (.int .u64 0)).setCell ⟨w.heap.size+1+1+1+1,5,none⟩ (.int .i64 0)).setCell ⟨w.heap.size+1+1+1+1,6,none⟩ (.slice A' 1 c'))).heap.size) HT5.out.1 (fun b h=>⟨⟨by have:=(HX.out.2.2.2.2.2.1).size;omega,by omega⟩,(hgr2.block b (by omega) (fun e=>by injection e with e;omega)).trans (hgr.block b h.2 (fun e=>by injection e with e;omega))⟩)
 have HE:=Qh (Qa hbx1 (Qa hbx2 (Qa hw7 ht7)))
 clear hbx hgr hB6 hbx2 hgr2 hbx1 hw6 hw7 ht7 h60 h70 hlt
 go_wp2
 generalize (((((((((((((u5.setCell ⟨w.heap.size+1+1+1,0,none⟩ (.int .i64 0)).setCell ⟨w.heap.size+1+1+1,1,none⟩ (.string ⟨#[]⟩)).setCell ⟨w.heap.size+1+1+1,2,none⟩ (.string ⟨#[]⟩)).setCell ⟨w.heap.size+1+1+1,3,none⟩ (.int .u64 0)).setCell ⟨w.heap.size+1+1+1,4,none⟩ (.int .i64 0)).setCell ⟨w.heap.size+1+1+1,5,none⟩ (.slice none 0 0)).setCell ⟨w.heap.size+1+1+1+1,0,none⟩ (.bool true)).setCell ⟨w.heap.size+1+1+1+1,1,none⟩ (.int .i64 5)).setCell ⟨w.heap.size+1+1+1+1,2,none⟩ (.string ⟨#[114,101,112,114,101,115,101,110,116,97,116,105,111,110,95,101,114,114,111,114]⟩)).setCell ⟨w.heap.size+1+1+1+1,3,none⟩ (.string ⟨#[]⟩)).setCell ⟨w.heap.size+1+1+1+1,4,none⟩ (.int .u64 0)).setCell ⟨w.heap.size+1+1+1+1,5,none⟩ (.int .i64 0)).setCell ⟨w.heap.size+1+1+1+1,6,none⟩ (.slice A' 1 c'))=z9 at *
 obtain ⟨r0,r1,r2,r3,r4,r5⟩:=HE.out.1.cells (nb:=⟨#[]⟩) (mb:=⟨#[]⟩) rfl rfl
 obtain ⟨q0,q1,q2,q3,q4,q5,q6⟩:=HE.out.2.1.cells (nb:=⟨#[114,101,112,114,101,115,101,110,116,97,116,105,111,110,95,101,114,114,111,114]⟩) (mb:=⟨#[]⟩) rfl rfl
 exact bodyPost_ret (v:=.tuple #[.agg Qz,.agg #[.bool true,.int .i64 5,.string ⟨#[114,101,112,114,101,115,101,110,116,97,116,105,111,110,95,101,114,114,111,114]⟩,.string ⟨#[]⟩,.int .u64 0,.int .i64 0,.slice A' 1 c']]) (by simp [results,Tryd.results48,go_sem,r0,r1,r2,r3,r4,r5,q0,q1,q2,q3,q4,q5,q6]) rfl ⟨_,rfl,HE.out.2.2.2,HE.out.2.2.1⟩
theorem rput_fit {w:World} {P:Nat→Prop} {k1 v1 b1:Int} {n1 m1:List UInt8} {ts1:List Tm} {nb1 mb1:ByteArray} {A1:Option Addr} {L1 c1:Nat} {k2 v2 b2:Int} {n2 m2:List UInt8} {ts2:List Tm} {nb2 mb2:ByteArray} {A2:Option Addr} {L2 c2:Nat} {k3 v3 b3:Int} {n3 m3:List UInt8} {ts3:List Tm} {nb3 mb3:ByteArray} {A3:Option Addr} {L3 c3:Nat} (hn1:(⟨n1.toArray⟩:ByteArray)=nb1) (hm1:(⟨m1.toArray⟩:ByteArray)=mb1) (hL1:ts1.length=L1) (hn2:(⟨n2.toArray⟩:ByteArray)=nb2) (hm2:(⟨m2.toArray⟩:ByteArray)=mb2) (hL2:ts2.length=L2) (hn3:(⟨n3.toArray⟩:ByteArray)=nb3) (hm3:(⟨m3.toArray⟩:ByteArray)=mb3) (hL3:ts3.length=L3) (h1:TAtP w P (.mk k1 n1 m1 b1 v1 ts1) (.slice A1 L1 c1)) (h2:TAtP w P (.mk k2 n2 m2 b2 v2 ts2) (.slice A2 L2 c2)) (h3:TAtP w P (.mk k3 n3 m3 b3 v3 ts3) (.slice A3 L3 c3)) (hP:∀ b,P b→b<w.heap.size) (h62:L1≤62) :
  Calls Tryd.prog 48 #[.agg (Q5 k1 nb1 mb1 b1 v1 (.slice A1 L1 c1)),.agg (Q5 k2 nb2 mb2 b2 v2 (.slice A2 L2 c2)),.agg (Q5 k3 nb3 mb3 b3 v3 (.slice A3 L3 c3))] w fun e w'=>∃ A' c',e = .returned (.tuple #[.agg (Qn 5 nb1 (.slice A' (L1+2) c')),.agg #[.bool false,.int .i64 0,.string ⟨#[]⟩,.string ⟨#[]⟩,.int .u64 0,.int .i64 0,.slice none 0 0]])∧TAtP w' (Grow P w w') (cmpT n1 (ts1 ++ [(Tm.mk k2 n2 m2 b2 v2 ts2),(Tm.mk k3 n3 m3 b3 v3 ts3)])) (.slice A' (L1+2) c')∧Below w.heap.size w w':=by
 have hLI:(L1:Int)≤62:=by omega
 obtain ⟨qs,hqs,hqm⟩:=TAtP.rowP h1 hP
 change List.map (fun x=>x.1) qs=ts1 at hqm
 have HQ:=Qh (Qa hqs (Qa hqm (show n1.length≤maxLen from (TAtP.ok h1).1)))
 have HL62:=Qh h62
 clear h62 hqs hqm
 obtain ⟨W1,hW1⟩:∃ W,w.alloc (.cells (Q5 k1 nb1 mb1 b1 v1 (.slice A1 L1 c1)) 25)=W:=⟨_,rfl⟩
 have d1:Below w.heap.size w W1:=by rw [←hW1];exact Qb
 have s1:W1.heap.size=w.heap.size+1:=by rw [←hW1];simp
 have X1:TBox W1 w.heap.size (.mk k1 n1 m1 b1 v1 ts1) (.slice A1 L1 c1):=by rw [←hW1];exact TBox.new w hn1 hm1
 obtain ⟨W2,hW2⟩:∃ W,W1.alloc (.cells (Q5 k2 nb2 mb2 b2 v2 (.slice A2 L2 c2)) 25)=W:=⟨_,rfl⟩
 have d2:Below W1.heap.size W1 W2:=by rw [←hW2];exact Qb
 have s2:W2.heap.size=W1.heap.size+1:=by rw [←hW2];simp
 have X2:TBox W2 W1.heap.size (.mk k2 n2 m2 b2 v2 ts2) (.slice A2 L2 c2):=by rw [←hW2];exact TBox.new W1 hn2 hm2
 obtain ⟨W3,hW3⟩:∃ W,W2.alloc (.cells (Q5 k3 nb3 mb3 b3 v3 (.slice A3 L3 c3)) 25)=W:=⟨_,rfl⟩
 have d3:Below W2.heap.size W2 W3:=by rw [←hW3];exact Qb
 have s3:W3.heap.size=W2.heap.size+1:=by rw [←hW3];simp
 have X3:TBox W3 W2.heap.size (.mk k3 n3 m3 b3 v3 ts3) (.slice A3 L3 c3):=by rw [←hW3];exact TBox.new W2 hn3 hm3
 obtain ⟨W4,hW4⟩:∃ W,W3.alloc (.cells Qz 25)=W:=⟨_,rfl⟩
 have d4:Below W3.heap.size W3 W4:=by rw [←hW4];exact Qb
 have s4:W4.heap.size=W3.heap.size+1:=by rw [←hW4];simp
 have X4:TBox W4 W3.heap.size zeroT (.slice none 0 0):=by rw [←hW4];exact heap_alloc_new W3 _
 obtain ⟨W5,hW5⟩:∃ W,W4.alloc (.cells #[.bool false,.int .i64 0,.string ⟨#[]⟩,.string ⟨#[]⟩,.int .u64 0,.int .i64 0,.slice none 0 0] 35)=W:=⟨_,rfl⟩
 have d5:Below W4.heap.size W4 W5:=by rw [←hW5];exact Qb
 have s5:W5.heap.size=W4.heap.size+1:=by rw [←hW5];simp
 have X5:BBox W5 W4.heap.size false zeroT (.slice none 0 0):=by rw [←hW5];exact heap_alloc_new W4 _
 replace X1:=X1.below d2
 replace X1:=X1.below d3
 replace X1:=X1.below d4
 replace X1:=X1.below d5
 replace X2:=X2.below d3
 replace X2:=X2.below d4
 replace X2:=X2.below d5
 replace X3:=X3.below d4
 replace X3:=X3.below d5
 replace X4:=X4.below d5
 have hb0:Below w.heap.size w W5:=d1.trans ((d2.trans ((d3.trans ((d4.trans ((d5).mono (by omega))).mono (by omega))).mono (by omega))).mono (by omega))
 have hsz0:W5.heap.size=w.heap.size+1+1+1+1+1:=by omega
 rw [s1] at X2
 rw [s2,s1] at X3
 rw [s3,s2,s1] at X4
 rw [s4,s3,s2,s1] at X5
 have HX:=Qh (Qa X1 (Qa X2 (Qa X3 (Qa X4 (Qa X5 (Qa hb0 hsz0))))))
 subst hW1 hW2 hW3 hW4 hW5
 clear X1 d1 s1 X2 d2 s2 X3 d3 s3 X4 d4 s4 X5 d5 s5 hb0 hsz0
 have HM:=Qh (Qa hn1 (Qa hm1 (Qa hn2 (Qa hm2 (Qa hn3 hm3)))))
 have HLs:=Qh (Qa hL1 (Qa hL2 hL3))
 have HT:=Qh (Qa h1 (Qa h2 (Qa h3 hP)))
 obtain ⟨x0,x1,x2,x3,x4,x5⟩:=(HX.out.1).cells hn1 hm1
 clear hn1 hm1 hn2 hm2 hn3 hm3 hL1 hL2 hL3 h1 h2 h3 hP
 go_enter Tryd.func48,Tryd.ntmps48
 go_upto_region 3 with fail
 generalize (((((w.alloc (.cells (Q5 k1 nb1 mb1 b1 v1 (.slice A1 L1 c1)) 25)).alloc (.cells (Q5 k2 nb2 mb2 b2 v2 (.slice A2 L2 c2)) 25)).alloc (.cells (Q5 k3 nb3 mb3 b3 v3 (.slice A3 L3 c3)) 25)).alloc (.cells Qz 25)).alloc (.cells #[.bool false,.int .i64 0,.string ⟨#[]⟩,.string ⟨#[]⟩,.int .u64 0,.int .i64 0,.slice none 0 0] 35))=u0 at *
 clear x0 x1 x2 x3 x4 x5
 have hbE:Below u0.heap.size u0 (u0.alloc (.cells #[] 25)):=Qb
 have hw0:=HX.out.2.2.2.2.2.1
 have HR0:=Qh (Qa (show TRow (u0.alloc (.cells #[] 25)) u0.heap.size P (some ⟨u0.heap.size,0,none⟩) 0 0 [] from ⟨owns_emptyT u0 _ (Nat.le_refl _),fun p hp=>by cases hp⟩) (Qa hbE (show RowP (u0.alloc (.cells #[] 25)) P A1 L1 qs from HQ.out.1.below (Qt hw0 hbE) HT.out.2.2.2)))
 obtain ⟨x0,x1,x2,x3,x4,x5⟩:=((HX.out.1).below hbE).cells HM.out.1 HM.out.2.1
 clear hbE hw0
 go_upto_region 4 with (at_builtin;refine wpList_append_R rfl _ _ rfl rfl HR0.out.1 (fun b hb=>by have h1:=HT.out.2.2.2 b hb;have h2:=(HX.out.2.2.2.2.2.1).size;have h3:=HR0.out.2.1.size;omega) rfl (HR0.out.2.2.apart HR0.out.1 (fun b hb=>by have h1:=HT.out.2.2.2 b hb;have h2:=(HX.out.2.2.2.2.2.1).size;omega)) (by have:=HL62.out;unfold maxArgs;omega) HR0.out.2.1.size ?_;intro A5 c5 u2 hr hb hg;rw [Nat.zero_add] at hr ⊢;rw [List.nil_append] at hr;have HR2:=Qh (Qa hr (HR0.out.2.1.trans hb));clear hr hb hg)
 clear x0 x1 x2 x3 x4 x5
 have HUS:=Qh ((HX.out.2.2.2.2.2.1).size)
 have HUV:=Qh (HR2.out.2.size)
 have HUV2:=Qh (show w.heap.size+1+1+1+1+1≤u0.heap.size from by have h2:=HX.out.2.2.2.2.2.2;omega)
 have HSS:=Qh (show ∀ z,u0.grownBy z (some (w.heap.size+1+1+1))→((z.cell? ⟨w.heap.size,1,none⟩=some (.string nb1))∧(Q6 z (w.heap.size+1) k2 nb2 mb2 b2 v2 (.slice A2 L2 c2))∧(Q6 z (w.heap.size+1+1) k3 nb3 mb3 b3 v3 (.slice A3 L3 c3))) from fun z hb=>⟨(((HX.out.1).gro hb (by omega)).cells HM.out.1 HM.out.2.1).2.1,((HX.out.2.1).gro hb (by omega)).cells HM.out.2.2.1 HM.out.2.2.2.1,((HX.out.2.2.1).gro hb (by omega)).cells HM.out.2.2.2.2.1 HM.out.2.2.2.2.2⟩)
 refine wp_region_wait (fun z=>((z.cell? ⟨w.heap.size,1,none⟩=some (.string nb1))∧(Q6 z (w.heap.size+1) k2 nb2 mb2 b2 v2 (.slice A2 L2 c2))∧(Q6 z (w.heap.size+1+1) k3 nb3 mb3 b3 v3 (.slice A3 L3 c3)))) 10 (by kernel_rfl) ?_
 change wpAnyW _ _ _ _ _ _ _ _ _ u2.drew
 have KK:=Qh (below_drew' u2)
 generalize u2.drew=v0 at *
 have KD:=Qh KK.out
 replace KK:=Qh (Qt HR2.out.2 KK.out)
 have KG:=Qh (grown_below (r:=some (w.heap.size+1+1+1)) KK.out)
 refine w3 9 0 (.pointer (some ⟨w.heap.size,1,none⟩)) (HSS.out _ KG.out) ?_ ?_
 ·intro w5 hSw
  obtain ⟨s1,⟨p0,p1,p2,p3,p4,p5⟩,⟨q0,q1,q2,q3,q4,q5⟩⟩:=hSw
  go_simp
 refine w3 9 1 (.string nb1) (HSS.out _ KG.out) ?_ ?_
 ·intro w5 hSw
  obtain ⟨s1,⟨p0,p1,p2,p3,p4,p5⟩,⟨q0,q1,q2,q3,q4,q5⟩⟩:=hSw
  go_simp
 refine w3 9 2 (.slice A5 L1 c5) (HSS.out _ KG.out) ?_ ?_
 ·intro w5 hSw
  obtain ⟨s1,⟨p0,p1,p2,p3,p4,p5⟩,⟨q0,q1,q2,q3,q4,q5⟩⟩:=hSw
  go_simp
 refine w3 9 3 (.agg (Q5 k2 nb2 mb2 b2 v2 (.slice A2 L2 c2))) (HSS.out _ KG.out) ?_ ?_
 ·intro w5 hSw
  obtain ⟨s1,⟨p0,p1,p2,p3,p4,p5⟩,⟨q0,q1,q2,q3,q4,q5⟩⟩:=hSw
  go_simp
 refine w3 9 4 (.agg (Q5 k3 nb3 mb3 b3 v3 (.slice A3 L3 c3))) (HSS.out _ KG.out) ?_ ?_
 ·intro w5 hSw
  obtain ⟨s1,⟨p0,p1,p2,p3,p4,p5⟩,⟨q0,q1,q2,q3,q4,q5⟩⟩:=hSw
  go_simp
 refine w3 10 8 (.agg #[.bool false,.int .i64 0,.string ⟨#[]⟩,.string ⟨#[]⟩,.int .u64 0,.int .i64 0,.slice none 0 0]) (HSS.out _ KG.out) ?_ ?_
 ·intro w5 hSw
  obtain ⟨s1,⟨p0,p1,p2,p3,p4,p5⟩,⟨q0,q1,q2,q3,q4,q5⟩⟩:=hSw
  go_simp
 clear KG
 have HRv:=Qh (HR2.out.1.keep KD.out (fun b hb=>by have h1:=HT.out.2.2.2 b hb;have h2:=HUS.out;have h3:=HUV.out;omega))
 refine w1 5 fun K hK=>?_
 go_simp
 have hb:Below v0.heap.size v0 (v0.alloc (.cells #[.int .i64 k2,.string nb2,.string mb2,.int .u64 b2,.int .i64 v2,.slice A2 L2 c2,.int .i64 k3,.string nb3,.string mb3,.int .u64 b3,.int .i64 v3,.slice A3 L3 c3] 25)):=Qb
 have HW:=Qh (Qa (show (v0.alloc (.cells #[.int .i64 k2,.string nb2,.string mb2,.int .u64 b2,.int .i64 v2,.slice A2 L2 c2,.int .i64 k3,.string nb3,.string mb3,.int .u64 b3,.int .i64 v3,.slice A3 L3 c3] 25)).heap[v0.heap.size]?=some (.cells #[.int .i64 k2,.string nb2,.string mb2,.int .u64 b2,.int .i64 v2,.slice A2 L2 c2,.int .i64 k3,.string nb3,.string mb3,.int .u64 b3,.int .i64 v3,.slice A3 L3 c3] 25 (0,0)) from heap_alloc_new v0 _) (HRv.out.keep hb (fun b hb=>by have h1:=HT.out.2.2.2 b hb;have h2:=HUS.out;have h3:=KK.out.size;omega)))
 replace KK:=Qh (Qt KK.out hb)
 clear hb HRv
 refine hK.out _ _ (fun _=>HSS.out _ (grown_below KK.out)) ?_
 generalize v0.alloc (.cells #[.int .i64 k2,.string nb2,.string mb2,.int .u64 b2,.int .i64 v2,.slice A2 L2 c2,.int .i64 k3,.string nb3,.string mb3,.int .u64 b3,.int .i64 v3,.slice A3 L3 c3] 25)=v1 at *
 generalize v0.heap.size=g6 at *
 have HWB:=Qh ((HX.out.2.2.2.2.2.1).trans (KK.out.mono (HX.out.2.2.2.2.2.1).size))
 refine w1 6 fun K hK=>?_
 refine step_append_R rfl _ _ rfl rfl HW.out.2 (fun b hb=>Ql (HT.out.2.2.2 b hb) HWB.out.size) rfl ((rowP_at (P:=P) (n:=2) (ps:=[(((Tm.mk k2 n2 m2 b2 v2 ts2)),Value.slice A2 L2 c2),(((Tm.mk k3 n3 m3 b3 v3 ts3)),Value.slice A3 L3 c3)]) HW.out.1 (by rw [←HM.out.2.2.1,←HM.out.2.2.2.1,←HM.out.2.2.2.2.1,←HM.out.2.2.2.2.2];rfl) rfl (mem2 (HT.out.2.1.below HWB.out HT.out.2.2.2) (HT.out.2.2.1.below HWB.out HT.out.2.2.2))).apart HW.out.2 (fun b hb=>Ql (HT.out.2.2.2 b hb) HUS.out)) (by have:=HL62.out;unfold maxArgs;omega) KK.out.size ?_
 intro A6 c6 v2_ hr hb hg
 replace KK:=Qh (KK.out.trans hb)
 have HR6:=Qh hr
 have HK2:=Qh (show w.heap.size+1+1+1+1+1≤v2_.heap.size from by have h1:=HUV2.out;have h2:=KK.out.size;omega)
 clear hr hb hg HW
 refine hK.out _ _ (fun _=>HSS.out _ (grown_below KK.out)) ?_
 have hwb:=(HX.out.2.2.2.2.2.1).trans (KK.out.mono (HX.out.2.2.2.2.2.1).size)
 have HF:=Qh (F_any (c:=c6) HR6.out.rowP (fun b hb=>Ql (HT.out.2.2.2 b hb) hwb.size) (by omega) (by have:=HL62.out;unfold maxArgs;omega) nb1)
 replace HWB:=Qh hwb
 clear hwb
 refine w1 7 fun K hK=>?_
 go_simp
 (with_reducible refine HF.out.mono ?_)
 rintro e v3_ ⟨A7,c7,rfl,hr,hb⟩
 have HR7:=Qh (Qa hr (Qa hb HWB.out))
 replace KK:=Qh (Qt KK.out hb)
 clear hr hb HF
 refine hK.out _ _ (fun _=>HSS.out _ (grown_below KK.out)) ?_
 have HT6:=Qh ((HX.out.2.2.2.1).below KK.out)
 have HB6:=Qh ((HX.out.2.2.2.2.1).below KK.out)
 refine w1 9 fun K hK=>?_
 obtain ⟨a0,a1,a2,a3,a4,a5⟩:=HT6.out.cells rfl rfl
 obtain ⟨f0,f1,f2,f3,f4,f5⟩:=HT6.out.frozens
 go_simp
 clear a0 a1 a2 a3 a4 a5 f0 f1 f2 f3 f4 f5
 obtain ⟨hbx,hgr⟩:=HT6.out.set6 (k:=5) (b:=0) (v:=0) (n:=n1) (m:=[]) (ts1 ++ [(Tm.mk k2 n2 m2 b2 v2 ts2),(Tm.mk k3 n3 m3 b3 v3 ts3)]) (.slice A7 (L1+2) c7) (nb:=nb1) (mb:=⟨#[]⟩) HM.out.1 rfl
 have HG6:=Qh (Qa hbx (Qa (HB6.out.gro hgr (by omega)) hgr))
 clear hbx hgr
 refine hK.out _ _ (fun _=>HSS.out _ (grown_trans (grown_below KK.out) HG6.out.2.2)) ?_
 generalize ((((((v3_.setCell ⟨w.heap.size+1+1+1,0,none⟩ (.int .i64 5)).setCell ⟨w.heap.size+1+1+1,1,none⟩ (.string nb1)).setCell ⟨w.heap.size+1+1+1,2,none⟩ (.string ⟨#[]⟩)).setCell ⟨w.heap.size+1+1+1,3,none⟩ (.int .u64 0)).setCell ⟨w.heap.size+1+1+1,4,none⟩ (.int .i64 0)).setCell ⟨w.heap.size+1+1+1,5,none⟩ (.slice A7 (L1+2) c7))=z1 at *
 refine w1 10 fun K hK=>?_
 obtain ⟨a0,a1,a2,a3,a4,a5,a6⟩:=HG6.out.2.1.cells rfl rfl
 obtain ⟨f0,f1,f2,f3,f4,f5,f6⟩:=HG6.out.2.1.frozens
 go_simp
 clear a0 a1 a2 a3 a4 a5 a6 f0 f1 f2 f3 f4 f5 f6
 refine hK.out _ _ (fun h=>absurd h (by simp)) ?_
 refine wpAnyW_done (by kernel_rfl) ?_ _
 go_wp2
 obtain ⟨hbx,hgr⟩:=HG6.out.2.1.set7 false (k:=0) (b:=0) (v:=0) (n:=[]) (m:=[]) [] (.slice none 0 0) (nb:=⟨#[]⟩) (mb:=⟨#[]⟩) rfl rfl
 have hbt:=HG6.out.1.gro hgr (by omega)
 have HGs:=Qh (Qa hgr (Qa hbt hbx))
 clear hbx hgr hbt
 generalize (((((((z1.setCell ⟨w.heap.size+1+1+1+1,0,none⟩ (.bool false)).setCell ⟨w.heap.size+1+1+1+1,1,none⟩ (.int .i64 0)).setCell ⟨w.heap.size+1+1+1+1,2,none⟩ (.string ⟨#[]⟩)).setCell ⟨w.heap.size+1+1+1+1,3,none⟩ (.string ⟨#[]⟩)).setCell ⟨w.heap.size+1+1+1+1,4,none⟩ (.int .u64 0)).setCell ⟨w.heap.size+1+1+1+1,5,none⟩ (.int .i64 0)).setCell ⟨w.heap.size+1+1+1+1,6,none⟩ (.slice none 0 0))=z2 at *
 have hwB:=Qt HR7.out.2.2 HR7.out.2.1
 have hlt:=HB6.out.lt
 have h1s:=HG6.out.2.2.size
 have h2s:=HGs.out.1.size
 have hb2s:=HR7.out.2.1.size
 have hus:=HUS.out
 have huv:=HUV2.out
 have hk2:=HK2.out
 have hw6:=hwB.grown HG6.out.2.2 hwB.size (Qg (by omega))
 have hw7:=hw6.grown HGs.out.1 hw6.size (Qg (by omega))
 have hblk:∀ b,b<v3_.heap.size→(b<w.heap.size∨v2_.heap.size≤b)→z2.heap[b]?=v3_.heap[b]?:=fun b h h2=>(HGs.out.1.block b (by omega) (fun e=>by injection e with e;have:=HK2.out;omega)).trans (HG6.out.2.2.block b h (fun e=>by injection e with e;have:=HUV2.out;omega))
 obtain ⟨r0,r1,r2,r3,r4,r5⟩:=HGs.out.2.1.cells HM.out.1 rfl
 obtain ⟨q0,q1,q2,q3,q4,q5,q6⟩:=HGs.out.2.2.cells rfl rfl
 refine bodyPost_ret (v:=.tuple #[.agg (Qn 5 nb1 (.slice A7 (L1+2) c7)),.agg #[.bool false,.int .i64 0,.string ⟨#[]⟩,.string ⟨#[]⟩,.int .u64 0,.int .i64 0,.slice none 0 0]]) (by simp [results,Tryd.results48,go_sem,r0,r1,r2,r3,r4,r5,q0,q1,q2,q3,q4,q5,q6]) rfl ⟨A7,c7,rfl,?_,hw7⟩
 have hr8:=(HR7.out.1.keepP (w':=z2) (fun b h1 h2=>hblk b h2 (.inr (by omega))) (fun b hb=>hblk b (by have:=HT.out.2.2.2 b hb;have:=HR7.out.2.2.size;omega) (.inl (HT.out.2.2.2 b hb)))).wide (Q:=Grow P w z2) (fun b hb=>.inl hb)
 exact hr8.termP (t:=cmpT n1 (ts1 ++ [(Tm.mk k2 n2 m2 b2 v2 ts2),(Tm.mk k3 n3 m3 b3 v3 ts3)])) (fun b h1 h2=>.inr ⟨by have:=HR7.out.2.2.size;omega,h2⟩) (by rw [List.map_append,HQ.out.2.1];rfl) (by have:=HL62.out;unfold maxArgs;omega) (okF_cmp HQ.out.2.2)
end Go.Proofs.YtgfeainpeplphaaDoor
namespace Ht
structure Ans where
 g:Tm
 n:Int
 i:Bool
 b:Tm
def okA (g:Tm) (n:Int):Ans:=⟨g,n,false,zeroT⟩
def badA (b:Tm):Ans:=⟨zeroT,0,true,b⟩
def putA (t f d:Tm) (nx:Int):Ans:=if 62<t.as.length then ⟨zeroT,nx,true,arityT⟩ else okA (cmpT t.n (t.as ++ [f,d])) nx
def joinA (s:List UInt8) (a c:Ans):Ans:=⟨cmpT s [a.g,c.g],c.n,c.i,c.b⟩
def notA (f d:Tm) (a:Ans):Ans:=⟨cmpT sComma [cmpT sNot [a.g],eqT f d],a.n,a.i,a.b⟩
def ansM:Tm→Tm→Tm→Int→Ans
 | .mk k n m b v ts,f,d,nx=>
  if k=1 then okA (cmpT sPhrase [.mk k n m b v ts,f,d]) nx
  else if k=3∨k=4 then badA (typedT sCallable (.mk k n m b v ts))
  else if k=5 then
   match ts with
   | [x,y]=>
    if n=sComma∨n=sArrow then
     if (ansM x f (varT nx) (nx+1)).i=true then badA (ansM x f (varT nx) (nx+1)).b
     else joinA n (ansM x f (varT nx) (nx+1)) (ansM y (varT nx) d (ansM x f (varT nx) (nx+1)).n)
    else if n=sSemi∨n=sBar then
     if (ansM x f d nx).i=true then badA (ansM x f d nx).b
     else joinA sSemi (ansM x f d nx) (ansM y f d (ansM x f d nx).n)
    else if n=sDot then
     if isNil (elems (.mk k n m b v [x,y])).2 then okA (eqT f (endT (elems (.mk k n m b v [x,y])).1 d)) nx else badA (typedT sList (.mk k n m b v [x,y]))
    else putA (.mk k n m b v [x,y]) f d nx
   | [x]=>
    if n=sNot then notA f d (ansM x f (varT nx) (nx+1))
    else if n=sCurly then okA (cmpT sComma [x,eqT f d]) nx
    else putA (.mk k n m b v [x]) f d nx
   | ts=>putA (.mk k n m b v ts) f d nx
  else if k=2 then
   if n=sCurly then okA (cmpT sComma [atomT sTrue,eqT f d]) nx
   else if n=sCut then okA (cmpT sComma [.mk k n m b v ts,eqT f d]) nx
   else if n=sNil then okA (eqT f d) nx
   else putA (.mk k n m b v ts) f d nx
  else putA (.mk k n m b v ts) f d nx
def twoA (s:List UInt8) (x y f d:Tm) (nx:Int):Ans:=
 if (ansM x f (varT nx) (nx+1)).i=true then badA (ansM x f (varT nx) (nx+1)).b
 else joinA s (ansM x f (varT nx) (nx+1)) (ansM y (varT nx) d (ansM x f (varT nx) (nx+1)).n)
def altA (x y f d:Tm) (nx:Int):Ans:=
 if (ansM x f d nx).i=true then badA (ansM x f d nx).b
 else joinA sSemi (ansM x f d nx) (ansM y f d (ansM x f d nx).n)
theorem ansM_var {n m:List UInt8} {b v:Int} {ts:List Tm} {f d:Tm} {nx:Int} : ansM (.mk 1 n m b v ts) f d nx=okA (cmpT sPhrase [.mk 1 n m b v ts,f,d]) nx:=by rw [ansM.eq_def];simp
theorem ansM_num {k:Int} {n m:List UInt8} {b v:Int} {ts:List Tm} {f d:Tm} {nx:Int} (h:k=3∨k=4):ansM (.mk k n m b v ts) f d nx=badA (typedT sCallable (.mk k n m b v ts)):=by
 rw [ansM.eq_def]
 rcases h with rfl | rfl <;> simp
theorem ansM_two {n m:List UInt8} {b v:Int} {x y f d:Tm} {nx:Int} (h:n=sComma∨n=sArrow):ansM (.mk 5 n m b v [x,y]) f d nx=twoA n x y f d nx:=by
 rw [ansM.eq_def,twoA];simp [h]
theorem ansM_alt {n m:List UInt8} {b v:Int} {x y f d:Tm} {nx:Int} (h:n=sSemi∨n=sBar):ansM (.mk 5 n m b v [x,y]) f d nx=altA x y f d nx:=by
 have h1:¬(n=sComma∨n=sArrow):=by rcases h with rfl | rfl <;> decide
 rw [ansM.eq_def,altA];simp [h,h1]
theorem ansM_neg {m:List UInt8} {b v:Int} {x f d:Tm} {nx:Int} : ansM (.mk 5 sNot m b v [x]) f d nx=notA f d (ansM x f (varT nx) (nx+1)):=by
 rw [ansM.eq_def];simp
theorem ansM_curly {m:List UInt8} {b v:Int} {x f d:Tm} {nx:Int} : ansM (.mk 5 sCurly m b v [x]) f d nx=okA (cmpT sComma [x,eqT f d]) nx:=by
 have h1:sCurly≠sNot:=by decide
 rw [ansM.eq_def];simp [h1]
theorem ansM_tru {m:List UInt8} {b v:Int} {ts:List Tm} {f d:Tm} {nx:Int} : ansM (.mk 2 sCurly m b v ts) f d nx=okA (cmpT sComma [atomT sTrue,eqT f d]) nx:=by rw [ansM.eq_def];simp
theorem ansM_cut {m:List UInt8} {b v:Int} {ts:List Tm} {f d:Tm} {nx:Int} : ansM (.mk 2 sCut m b v ts) f d nx=okA (cmpT sComma [.mk 2 sCut m b v ts,eqT f d]) nx:=by
 have h1:sCut≠sCurly:=by decide
 rw [ansM.eq_def];simp [h1]
theorem ansM_nil {m:List UInt8} {b v:Int} {ts:List Tm} {f d:Tm} {nx:Int} : ansM (.mk 2 sNil m b v ts) f d nx=okA (eqT f d) nx:=by
 have h1:sNil≠sCurly:=by decide
 have h2:sNil≠sCut:=by decide
 rw [ansM.eq_def];simp [h1,h2]
theorem ansM_dot {m:List UInt8} {b v:Int} {x y f d:Tm} {nx:Int} : ansM (.mk 5 sDot m b v [x,y]) f d nx=if isNil (elems (.mk 5 sDot m b v [x,y])).2 then okA (eqT f (endT (elems (.mk 5 sDot m b v [x,y])).1 d)) nx else badA (typedT sList (.mk 5 sDot m b v [x,y])):=by
 have h1:¬(sDot=sComma∨sDot=sArrow):=by decide
 have h2:¬(sDot=sSemi∨sDot=sBar):=by decide
 rw [ansM.eq_def];simp [h1,h2]
theorem ansM_atom {n m:List UInt8} {b v:Int} {ts:List Tm} {f d:Tm} {nx:Int} (h1:n≠sCurly) (h2:n≠sCut) (h3:n≠sNil):ansM (.mk 2 n m b v ts) f d nx=putA (.mk 2 n m b v ts) f d nx:=by
 rw [ansM.eq_def];simp [h1,h2,h3]
theorem ansM_cmp {n m:List UInt8} {b v:Int} {ts:List Tm} {f d:Tm} {nx:Int} (h1:isC (.mk 5 n m b v ts) sComma 2=false) (h2:isC (.mk 5 n m b v ts) sSemi 2=false) (h3:isC (.mk 5 n m b v ts) sBar 2=false) (h4:isC (.mk 5 n m b v ts) sArrow 2=false) (h5:isC (.mk 5 n m b v ts) sNot 1=false) (h6:isC (.mk 5 n m b v ts) sCurly 1=false) (h7:isC (.mk 5 n m b v ts) sDot 2=false) :
  ansM (.mk 5 n m b v ts) f d nx=putA (.mk 5 n m b v ts) f d nx:=by
 simp only [isC,Tm.k,Tm.n,Tm.as,decide_true,Bool.true_and,Bool.and_eq_false_iff,decide_eq_false_iff_not] at h1 h2 h3 h4 h5 h6 h7
 match ts with
 | []=>rw [ansM.eq_def];simp
 | [x]=>
  have a5:n≠sNot:=fun e=>by rw [e] at h5;simp at h5
  have a6:n≠sCurly:=fun e=>by rw [e] at h6;simp at h6
  rw [ansM.eq_def];simp [a5,a6]
 | [x,y]=>
  have a1:n≠sComma:=fun e=>by rw [e] at h1;simp at h1
  have a2:n≠sSemi:=fun e=>by rw [e] at h2;simp at h2
  have a3:n≠sBar:=fun e=>by rw [e] at h3;simp at h3
  have a4:n≠sArrow:=fun e=>by rw [e] at h4;simp at h4
  have a7:n≠sDot:=fun e=>by rw [e] at h7;simp at h7
  rw [ansM.eq_def];simp [a1,a2,a3,a4,a7]
 | x :: y :: z :: r=>rw [ansM.eq_def];simp
def RelA (B:Int) (r:Except Tm (Tm × Int)) (a:Ans):Prop:=match r with | .ok (g,n')=>a=okA g n' | .error e=>a.i=true∧a.b=e∧0≤a.n∧a.n≤B
theorem rel_put {t f d:Tm} {nx B:Int} (h0:0≤nx) (hB:nx≤B):RelA B ((putT t f d).map fun g=>(g,nx)) (putA t f d nx):=by
 unfold putT putA
 by_cases h:62<t.as.length
 ·rw [if_pos h,if_pos h];exact ⟨rfl,rfl,h0,hB⟩
 ·rw [if_neg h,if_neg h];rfl
theorem rel_any {utf canon:List UInt8→Bool} {flo:Int→Bool} (t:Tm):∀ {f d:Tm} {nx:Int},errs utf canon flo t=0→0≤nx→RelA (nx+sz t) (mkB t f d nx) (ansM t f d nx):=by
 refine Tm.ind (p:=fun t=>∀ {f d:Tm} {nx:Int},errs utf canon flo t=0→0≤nx→RelA (nx+sz t) (mkB t f d nx) (ansM t f d nx)) (fun k n m b v ts ih f d nx h h0=>?_) t
 have hsp:=sz_pos (.mk k n m b v ts)
 have hB0:nx≤nx+sz (.mk k n m b v ts):=by omega
 have hB1:(0:Int)≤nx+sz (.mk k n m b v ts):=by omega
 obtain ⟨h1,h2⟩:=errs_iff.1 h
 have hk:=(one_iff.1 h1).1
 change 1≤k∧k≤5 at hk
 change ∀ a∈ts,_ at h2
 by_cases k1:k=1
 ·subst k1;rw [mkB_var,ansM_var];rfl
 by_cases k34:k=3∨k=4
 ·rw [mkB_bad (by omega) (by omega) (by omega),ansM_num k34];exact ⟨rfl,rfl,Int.le_refl _,hB1⟩
 by_cases k2:k=2
 ·subst k2
  by_cases n1:n=sCurly
  ·subst n1;rw [mkB_tru,ansM_tru];rfl
  by_cases n2:n=sCut
  ·subst n2;rw [mkB_cut,ansM_cut];rfl
  by_cases n3:n=sNil
  ·subst n3;rw [mkB_nil,ansM_nil];rfl
  rw [mkB_atom n1 n2 n3,ansM_atom n1 n2 n3];exact rel_put h0 hB0
 obtain rfl:k=5:=by omega
 have seq:∀ {s:List UInt8} {x y f1 f2 d1 d2:Tm} {nx1 B:Int},x∈ts→y∈ts→0≤nx1→nx1+sz x+sz y≤B→∀ {R:Except Tm (Tm × Int)} {A:Ans},
   (∀ e,mkB x f1 d1 nx1 = .error e→R = .error e)→(∀ a n1,mkB x f1 d1 nx1 = .ok (a,n1)→R=seqK s a (mkB y f2 d2 n1)) →
   A=(if (ansM x f1 d1 nx1).i=true then badA (ansM x f1 d1 nx1).b else joinA s (ansM x f1 d1 nx1) (ansM y f2 d2 (ansM x f1 d1 nx1).n))→RelA B R A:=by
  intro s x y f1 f2 d1 d2 nx1 B hx hy hn0 hnB R A hR1 hR2 hA
  have r1:=ih x hx (f:=f1) (d:=d1) (nx:=nx1) (h2 x hx) hn0
  cases hm:mkB x f1 d1 nx1 with
  | error e=>
   rw [hm] at r1
   rw [hR1 e hm,hA,if_pos r1.1]
   exact ⟨rfl,r1.2.1,Int.le_refl _,show (0:Int)≤B by omega⟩
  | ok p=>
   obtain ⟨a,n1⟩:=p
   rw [hm] at r1
   have r1':ansM x f1 d1 nx1=okA a n1:=r1
   rw [hR2 a n1 hm,hA,r1',if_neg (by simp [okA])]
   have r2:=ih y hy (f:=f2) (d:=d2) (nx:=n1) (h2 y hy) (by have:=mkB_next hm;omega)
   have hnn:=mkB_next hm
   show RelA _ _ (joinA s (okA a n1) (ansM y f2 d2 n1))
   cases hm2:mkB y f2 d2 n1 with
   | error e=>rw [hm2] at r2;exact ⟨r2.1,r2.2.1,r2.2.2.1,show (ansM y f2 d2 n1).n≤B by have:=r2.2.2.2;omega⟩
   | ok q=>
    obtain ⟨c,n2⟩:=q
    rw [hm2] at r2
    have r2':ansM y f2 d2 n1=okA c n2:=r2
    rw [r2'];rfl
 by_cases c2:ts.length=2
 ·obtain ⟨x,y,rfl⟩:∃ x y,ts = [x,y]:=by
   match ts,c2 with
   | [x,y],_=>exact ⟨x,y,rfl⟩
  by_cases n1:n=sComma∨n=sArrow
  ·rw [mkB_seq n1,ansM_two n1]
   exact seq (by simp) (by simp) (by omega) (by simp only [sz,szs];omega) (fun e he=>seqR_bad he) (fun a n1 ha=>seqR_ok ha) rfl
  by_cases n2:n=sSemi∨n=sBar
  ·rw [mkB_alt n2,ansM_alt n2]
   exact seq (by simp) (by simp) h0 (by simp only [sz,szs];omega) (fun e he=>altR_bad he) (fun a n1 ha=>altR_ok ha) rfl
  by_cases n3:n=sDot
  ·subst n3
   rw [mkB_dot,ansM_dot]
   by_cases hn:isNil (elems (.mk 5 sDot m b v [x,y])).2=true
   ·rw [if_pos hn,if_pos hn];rfl
   ·rw [if_neg hn,if_neg hn];exact ⟨rfl,rfl,Int.le_refl _,hB1⟩
  have f1:∀ s,n≠s→isC (.mk 5 n m b v [x,y]) s 2=false:=fun s hs=>by simp [isC,Tm.n,hs]
  have f2:∀ s,isC (.mk 5 n m b v [x,y]) s 1=false:=fun s=>by simp [isC,Tm.as]
  rw [mkB_cmp (f1 _ (fun e=>n1 (.inl e))) (f1 _ (fun e=>n2 (.inl e))) (f1 _ (fun e=>n2 (.inr e))) (f1 _ (fun e=>n1 (.inr e))) (f2 _) (f2 _) (f1 _ n3),ansM_cmp (f1 _ (fun e=>n1 (.inl e))) (f1 _ (fun e=>n2 (.inl e))) (f1 _ (fun e=>n2 (.inr e))) (f1 _ (fun e=>n1 (.inr e))) (f2 _) (f2 _) (f1 _ n3)]
  exact rel_put h0 hB0
 by_cases c1:ts.length=1
 ·obtain ⟨x,rfl⟩:∃ x,ts = [x]:=by
   match ts,c1 with
   | [x],_=>exact ⟨x,rfl⟩
  by_cases n1:n=sNot
  ·subst n1
   rw [mkB_neg,ansM_neg]
   have r1:=ih x (by simp) (f:=f) (d:=varT nx) (nx:=nx+1) (h2 x (by simp)) (by omega)
   cases hm:mkB x f (varT nx) (nx+1) with
   | error e=>rw [hm] at r1;exact ⟨r1.1,r1.2.1,r1.2.2.1,show (ansM x f (varT nx) (nx+1)).n≤_ by have:=r1.2.2.2;simp only [sz,szs];omega⟩
   | ok p=>
    obtain ⟨a,n1⟩:=p
    rw [hm] at r1
    have r1':ansM x f (varT nx) (nx+1)=okA a n1:=r1
    rw [r1'];rfl
  by_cases n2:n=sCurly
  ·subst n2;rw [mkB_curly,ansM_curly];rfl
  have f1:∀ s,n≠s→isC (.mk 5 n m b v [x]) s 1=false:=fun s hs=>by simp [isC,Tm.n,hs]
  have f2:∀ s,isC (.mk 5 n m b v [x]) s 2=false:=fun s=>by simp [isC,Tm.as]
  rw [mkB_cmp (f2 _) (f2 _) (f2 _) (f2 _) (f1 _ n1) (f1 _ n2) (f2 _),ansM_cmp (f2 _) (f2 _) (f2 _) (f2 _) (f1 _ n1) (f1 _ n2) (f2 _)]
  exact rel_put h0 hB0
 ·have f1:∀ s,isC (.mk 5 n m b v ts) s 1=false:=fun s=>by simp [isC,Tm.as,c1]
  have f2:∀ s,isC (.mk 5 n m b v ts) s 2=false:=fun s=>by simp [isC,Tm.as,c2]
  rw [mkB_cmp (f2 _) (f2 _) (f2 _) (f2 _) (f1 _) (f1 _) (f2 _),ansM_cmp (f2 _) (f2 _) (f2 _) (f2 _) (f1 _) (f1 _) (f2 _)]
  exact rel_put h0 hB0
theorem ansM_n {utf canon:List UInt8→Bool} {flo:Int→Bool} {t f d:Tm} {nx:Int} (h:errs utf canon flo t=0) (h0:0≤nx):0≤(ansM t f d nx).n∧(ansM t f d nx).n≤nx+sz t:=by
 have r:=rel_any t (f:=f) (d:=d) h h0
 cases hm:mkB t f d nx with
 | error e=>rw [hm] at r;exact r.2.2
 | ok p=>
  obtain ⟨g,n'⟩:=p
  rw [hm] at r
  have r':ansM t f d nx=okA g n':=r
  have:=mkB_next hm
  rw [r']
  show 0≤n'∧n'≤_
  omega
theorem twoA_n {utf canon:List UInt8→Bool} {flo:Int→Bool} {s:List UInt8} {x y f d:Tm} {nx:Int} (hx:errs utf canon flo x=0) (hy:errs utf canon flo y=0) (h0:0≤nx):0≤(twoA s x y f d nx).n∧(twoA s x y f d nx).n≤nx+1+sz x+sz y:=by
 have h1:=ansM_n (f:=f) (d:=varT nx) (nx:=nx+1) hx (by omega)
 unfold twoA
 by_cases h:(ansM x f (varT nx) (nx+1)).i=true
 ·rw [if_pos h]
  show (0:Int)≤0∧(0:Int)≤_
  omega
 ·rw [if_neg h]
  have h2:=ansM_n (f:=varT nx) (d:=d) (nx:=(ansM x f (varT nx) (nx+1)).n) hy h1.1
  show 0≤(ansM y (varT nx) d (ansM x f (varT nx) (nx+1)).n).n∧_
  refine ⟨h2.1,?_⟩
  show (ansM y (varT nx) d (ansM x f (varT nx) (nx+1)).n).n≤_
  omega
end Ht
namespace Go.Proofs.YtgfeainpeplphaaDoor
open Go.RowKit Hb Ht
abbrev NW (P:Nat→Prop) (lo:Nat) (z:World):Nat→Prop:=fun b=>P b∨(lo≤b∧b<z.heap.size)
theorem NW.lt {P:Nat→Prop} {lo:Nat} {z:World} (hP:∀ b,P b→b<z.heap.size):∀ b,NW P lo z b→b<z.heap.size:=fun b h=>h.elim (hP b) And.right
theorem NW.keep {P:Nat→Prop} {lo:Nat} {z u:World} {t:Tm} {sl:Value} (h:TAtP z (NW P lo z) t sl) (hb:Below z.heap.size z u) (hP:∀ b,P b→b<z.heap.size):TAtP u (NW P lo u) t sl:=
 TAtP.keep _ h fun b h=>⟨h.imp id fun h=>⟨h.1,Ql h.2 hb.size⟩,hb.block b (NW.lt hP b h)⟩
theorem NW.low {P:Nat→Prop} {lo lo':Nat} {z:World} {t:Tm} {sl:Value} (h:TAtP z (NW P lo z) t sl) (hl:lo'≤lo):TAtP z (NW P lo' z) t sl:=h.wide fun b h=>h.imp id fun h=>⟨Nat.le_trans hl h.1,h.2⟩
theorem NW.of_grow {P:Nat→Prop} {lo:Nat} {z u:World} {t:Tm} {sl:Value} (h:TAtP u (Grow P z u) t sl) (hl:lo≤z.heap.size):TAtP u (NW P lo u) t sl:=h.wide fun b h=>h.imp id fun h=>⟨Nat.le_trans hl h.1,h.2⟩
theorem box_end {P:Nat→Prop} {U z0 z1 z2 z3 z4 z5:World} {HA HB:Nat} {g b:Tm} {sg sb:Value} {i:Bool} (h0:z0.heap.size=U.heap.size) (K1:Below U.heap.size U z1) (hb:Below z1.heap.size z1 z2) (d3:Below z2.heap.size z2 z3) (hP:∀ b,P b→b<U.heap.size)
  (hg:TAtP z2 (Grow P z1 z2) g sg) (hx:TAtP z2 (Grow P z1 z2) b sb) (gA:gapTo (gapTo (fun _=>False) z0 z1) z2 z3 HA) (gB:gapTo (gapTo (fun _=>False) z0 z1) z2 z3 HB)
  (h4:TBox z4 HA g sg∧z3.grownBy z4 (some HA)) (h5:BBox z5 HB i b sb∧z4.grownBy z5 (some HB)) (hne:HA≠HB) :
  (TBox z5 HA g sg∧BBox z5 HB i b sb∧TAtP z5 (NW P U.heap.size z5) g sg∧TAtP z5 (NW P U.heap.size z5) b sb∧Below U.heap.size U z5)∧U.heap.size≤HA∧U.heap.size≤HB:=by
 have e1:=K1.size
 have e2:=hb.size
 have e3:=d3.size
 have e4:=h4.2.size
 have e5:=h5.2.size
 have far:∀ H,gapTo (gapTo (fun _=>False) z0 z1) z2 z3 H→U.heap.size≤H∧(H<z1.heap.size∨z2.heap.size≤H):=fun H h=>by
  rcases h with (h | h) | h
  ·exact h.elim
  ·exact ⟨by omega,.inl h.2⟩
  ·exact ⟨by omega,.inr h.1⟩
 obtain ⟨a1,a2⟩:=far _ gA
 obtain ⟨b1,b2⟩:=far _ gB
 have key:∀ (t:Tm) (s:Value),TAtP z2 (Grow P z1 z2) t s→TAtP z5 (NW P U.heap.size z5) t s:=fun t s h=>TAtP.keep _ h fun b hb2=>by
  have hlt:b<z2.heap.size∧b≠HA∧b≠HB:=by
   rcases hb2 with h | h
   ·have:=hP b h;exact ⟨by omega,by omega,by omega⟩
   ·exact ⟨h.2,by omega,by omega⟩
  refine ⟨hb2.imp id fun h=>⟨by omega,by omega⟩,?_⟩
  rw [h5.2.block b (by omega) (fun e=>by injection e with e;omega),h4.2.block b (by omega) (fun e=>by injection e with e;omega),d3.block b hlt.1]
 exact ⟨⟨h4.1.gro h5.2 hne,h5.1,key _ _ hg,key _ _ hx,(((K1.trans (hb.mono e1)).trans (d3.mono (by omega))).grown h4.2 (by omega) (Qg (by omega))).grown h5.2 (by omega) (Qg (by omega))⟩,a1,b1⟩
def AnsP (w:World) (P:Nat→Prop) (a:Ans) (e:Ending) (w':World):Prop:=
 ∃ sg sb,e = .returned (.tuple #[valT a.g sg,.int .i64 a.n,badV a.i a.b sb])∧TAtP w' (Grow P w w') a.g sg∧TAtP w' (Grow P w w') a.b sb∧Below w.heap.size w w'
theorem ans_end {w u z1 z2:World} {P:Nat→Prop} {ad3 ad4 lo:Nat} {a:Ans} {sg sb:Value} {e:Ending} (hP:∀ b,P b→b<w.heap.size) (hw:Below w.heap.size w u) (h3:w.heap.size≤ad3∧ad3<lo) (h4:w.heap.size≤ad4∧ad4<lo) (g1:u.grownBy z1 (some ad3)) (g2:z1.grownBy z2 (some ad4))
  (hg:TAtP u (NW P lo u) a.g sg) (hb:TAtP u (NW P lo u) a.b sb) (he:e = .returned (.tuple #[valT a.g sg,.int .i64 a.n,badV a.i a.b sb])):AnsP w P a e z2:=by
 have s1:=g1.size
 have s2:=g2.size
 have s0:=hw.size
 have key:∀ (t:Tm) (s:Value),TAtP u (NW P lo u) t s→TAtP z2 (Grow P w z2) t s:=fun t s h=>TAtP.keep _ h fun b hb=>by
  have hlt:b<u.heap.size∧b≠ad3∧b≠ad4:=by
   rcases hb with h | h
   ·have:=hP b h;exact ⟨by omega,by omega,by omega⟩
   ·exact ⟨h.2,by omega,by omega⟩
  refine ⟨hb.imp id fun h=>⟨by omega,by omega⟩,?_⟩
  rw [g2.block b (by omega) (fun e=>by injection e with e;omega),g1.block b hlt.1 (fun e=>by injection e with e;omega)]
 exact ⟨sg,sb,he,key _ _ hg,key _ _ hb,(hw.grown g1 s0 (Qg (by omega))).grown g2 (by omega) (Qg (by omega))⟩
section
variable {prog:Program} {ops:Array Oper} {Q:Exit→Act→World→Prop}
theorem wp_region_G {id:Nat} {a:Act} {w:World} (r st:Nat) (hm:prog.follows .mixedOrders=true)
  (h:∀ z,Below w.heap.size w z→w.grownBy z (some r)→wpAnyW prog .any ops Q (fun z=>w.grownBy z (some r)) st ops.size (Array.replicate ops.size false) a z):(Code.region id ops true).wp prog Q a w:=
 wp_region_wait _ st hm (h w.drew (Below.refl _ _).drew (grown_below (Below.refl _ _).drew))
end
theorem gap_merge {G:Nat→Prop} {z0 y1 y2 z1 z2 z3:World} (h1:z0.heap.size≤y1.heap.size) (h2:y1.heap.size≤y2.heap.size) (h3:y2.heap.size≤z1.heap.size) {b:Nat} (h:gapTo (gapTo (gapTo G z0 y1) y2 z1) z2 z3 b):gapTo (gapTo G z0 z1) z2 z3 b:=by
 rcases h with ((h | h) | h) | h
 ·exact .inl (.inl h)
 ·exact .inl (.inr ⟨h.1,by omega⟩)
 ·exact .inl (.inr ⟨by omega,h.2⟩)
 ·exact .inr h
theorem TAtP.sl {w:World} {P:Nat→Prop} {k v b:Int} {n m:List UInt8} {ts:List Tm} {sl:Value} {q:Nat} (hq:ts.length=q) (h:TAtP w P (.mk k n m b v ts) sl):∃ A c,sl = .slice A q c:=by
 obtain ⟨A,c,e,_⟩:=TAtP.iff.1 h
 exact ⟨A,c,by rw [e,←hq];rfl⟩
theorem AnsP.letters {w w':World} {P:Nat→Prop} {k v b k2 v2 b2 n':Int} {i:Bool} {n m n2 m2:List UInt8} {ts ts2:List Tm} {nb mb nb2 mb2:ByteArray} {q q2:Nat} {e:Ending} (hn:(⟨n.toArray⟩:ByteArray)=nb) (hm:(⟨m.toArray⟩:ByteArray)=mb) (hq:ts.length=q) (hn2:(⟨n2.toArray⟩:ByteArray)=nb2) (hm2:(⟨m2.toArray⟩:ByteArray)=mb2) (hq2:ts2.length=q2)
  (h:AnsP w P ⟨.mk k n m b v ts,n',i,.mk k2 n2 m2 b2 v2 ts2⟩ e w'):∃ A c A2 c2,e = .returned (.tuple #[.agg (Q5 k nb mb b v (.slice A q c)),.int .i64 n',.agg #[.bool i,.int .i64 k2,.string nb2,.string mb2,.int .u64 b2,.int .i64 v2,.slice A2 q2 c2]]) ∧
   TAtP w' (Grow P w w') (.mk k n m b v ts) (.slice A q c)∧TAtP w' (Grow P w w') (.mk k2 n2 m2 b2 v2 ts2) (.slice A2 q2 c2)∧Below w.heap.size w w':=by
 obtain ⟨sg,sb,he,h1,h2,hb⟩:=h
 obtain ⟨A,c,rfl⟩:=TAtP.sl hq h1
 obtain ⟨A2,c2,rfl⟩:=TAtP.sl hq2 h2
 refine ⟨A,c,A2,c2,?_,h1,h2,hb⟩
 rw [he]
 show Ending.returned (.tuple #[valT (.mk k n m b v ts) _,_,badV i (.mk k2 n2 m2 b2 v2 ts2) _])=_
 rw [valT_mk hn hm,badV_mk hn2 hm2]
def RMakeOk (t:Tm):Prop:=∀ (w:World) (P:Nat→Prop) (f d:Tm) (st sf sd:Value) (x:Int),TAtP w P t st→TAtP w P f sf→TAtP w P d sd→(∀ b,P b→b<w.heap.size)→0≤x→x+sz t≤4611686018427396000→checkP t=0 →
 Calls Tryd.prog 49 #[valT t st,valT f sf,valT d sd,.int .i64 x] w (AnsP w P (ansM t f d x))
end Go.Proofs.YtgfeainpeplphaaDoor
namespace Go.Proofs.YtgfeainpeplphaaDoor
open Go.RowKit Hb Ht
attribute [local go_sem] Oper.semAt_some
section
variable {P:Program} {md:Region.Mode} {ops:Array Oper} {Q:Exit→Act→World→Prop} {S:World→Prop} {st:Nat}
theorem wpAnyW_op {i:Nat} {o:Oper} {fuel:Nat} {listed:Array Bool} {a:Act} {w:World} (hr:Region.ready md ops listed = [i]) (ho:ops[i]?=some o) (hw:Region.wanted o (yielded ops a.tmps)=true)
  (h:∀ K':Act→World→Prop,Shut (∀ a w,((listed.setIfInBounds i true).getD st true=false→S w)→wpAnyW P md ops Q S st fuel (listed.setIfInBounds i true) a w→K' a w)→Oper.wp P o a w K' Q) :
  wpAnyW P md ops Q S st (fuel+1) listed a w:=
 wpAnyW_one hr ho fun K' hK=>by rw [if_pos hw];exact h K' hK
end
theorem st_T {a:Act} {w:World} {K:Act→World→Prop} {Q:Exit→Act→World→Prop} {o:Oper} {x y:Operand} {H:Nat} {t0 t:Tm} {s0:Value} {A:Option Addr} {L c:Nat}
  (ho:o.op = .store 25 x y) (hd:o.dst=none) (hx:a.eval x = .pointer (some ⟨H,0,none⟩)) (hy:a.eval y=valT t (.slice A L c)) (hb:TBox w H t0 s0) (h:∀ z,TBox z H t (.slice A L c)→w.grownBy z (some H)→K a z):Oper.wp Tryd.prog o a w K Q:=by
 obtain ⟨dst,op,ty,pos,after,gd⟩:=o
 change op=_ at ho
 change dst=_ at hd
 subst ho hd
 obtain ⟨k0,n0,m0,b0,v0,ts0⟩:=t0
 obtain ⟨k,n,m,b,v,ts⟩:=t
 obtain ⟨nb,hn⟩:∃ nb:ByteArray,(⟨n.toArray⟩:ByteArray)=nb:=⟨_,rfl⟩
 obtain ⟨mb,hm⟩:∃ mb:ByteArray,(⟨m.toArray⟩:ByteArray)=mb:=⟨_,rfl⟩
 rw [valT_mk hn hm] at hy
 obtain ⟨a0,a1,a2,a3,a4,a5⟩:=hb.cells rfl rfl
 obtain ⟨z0,z1,z2,z3,z4,z5⟩:=hb.frozens
 have h5:=hb.set6 (k:=k) (b:=b) (v:=v) (n:=n) (m:=m) ts (.slice A L c) hn hm
 have h6:=h _ h5.1 h5.2
 clear h h5 hb hn hm
 unfold Oper.wp execOp
 simp only [hx,hy]
 go_simp
 exact h6
theorem st_B {a:Act} {w:World} {K:Act→World→Prop} {Q:Exit→Act→World→Prop} {o:Oper} {x y:Operand} {H:Nat} {t0 t:Tm} {i0 i:Bool} {s0:Value} {A:Option Addr} {L c:Nat}
  (ho:o.op = .store 35 x y) (hd:o.dst=none) (hx:a.eval x = .pointer (some ⟨H,0,none⟩)) (hy:a.eval y=badV i t (.slice A L c)) (hb:BBox w H i0 t0 s0) (h:∀ z,BBox z H i t (.slice A L c)→w.grownBy z (some H)→K a z):Oper.wp Tryd.prog o a w K Q:=by
 obtain ⟨dst,op,ty,pos,after,gd⟩:=o
 change op=_ at ho
 change dst=_ at hd
 subst ho hd
 obtain ⟨k0,n0,m0,b0,v0,ts0⟩:=t0
 obtain ⟨k,n,m,b,v,ts⟩:=t
 obtain ⟨nb,hn⟩:∃ nb:ByteArray,(⟨n.toArray⟩:ByteArray)=nb:=⟨_,rfl⟩
 obtain ⟨mb,hm⟩:∃ mb:ByteArray,(⟨m.toArray⟩:ByteArray)=mb:=⟨_,rfl⟩
 rw [badV_mk hn hm] at hy
 obtain ⟨a0,a1,a2,a3,a4,a5,a6⟩:=hb.cells rfl rfl
 obtain ⟨z0,z1,z2,z3,z4,z5,z6⟩:=hb.frozens
 have h5:=hb.set7 i (k:=k) (b:=b) (v:=v) (n:=n) (m:=m) ts (.slice A L c) hn hm
 have h6:=h _ h5.1 h5.2
 clear h h5 hb hn hm
 unfold Oper.wp execOp
 simp only [hx,hy]
 go_simp
 exact h6
section
variable {md:Region.Mode} {ops:Array Oper} {Q:Exit→Act→World→Prop} {S:World→Prop} {st:Nat}
theorem stT {o:Oper} {i fuel:Nat} {listed:Array Bool} {a:Act} {w:World} {x y:Operand} {H:Nat} {t0 t:Tm} {s0:Value} {A:Option Addr} {L c:Nat} (hr:Region.ready md ops listed = [i]) (ho:ops[i]?=some o) (hw:Region.wanted o (yielded ops a.tmps)=true)
  (hop:o.op = .store 25 x y) (hd:o.dst=none) (hx:a.eval x = .pointer (some ⟨H,0,none⟩)) (hy:a.eval y=valT t (.slice A L c)) (hb:TBox w H t0 s0)
  (h:∀ z,TBox z H t (.slice A L c)→w.grownBy z (some H)→((listed.setIfInBounds i true).getD st true=false→S z)∧wpAnyW Tryd.prog md ops Q S st fuel (listed.setIfInBounds i true) a z):wpAnyW Tryd.prog md ops Q S st (fuel+1) listed a w:=
 wpAnyW_op hr ho hw fun K' hK=>st_T hop hd hx hy hb fun z h1 h2=>hK.out _ _ (h z h1 h2).1 (h z h1 h2).2
theorem stB {o:Oper} {i fuel:Nat} {listed:Array Bool} {a:Act} {w:World} {x y:Operand} {H:Nat} {t0 t:Tm} {i0 j:Bool} {s0:Value} {A:Option Addr} {L c:Nat} (hr:Region.ready md ops listed = [i]) (ho:ops[i]?=some o) (hw:Region.wanted o (yielded ops a.tmps)=true)
  (hop:o.op = .store 35 x y) (hd:o.dst=none) (hx:a.eval x = .pointer (some ⟨H,0,none⟩)) (hy:a.eval y=badV j t (.slice A L c)) (hb:BBox w H i0 t0 s0)
  (h:∀ z,BBox z H j t (.slice A L c)→w.grownBy z (some H)→((listed.setIfInBounds i true).getD st true=false→S z)∧wpAnyW Tryd.prog md ops Q S st fuel (listed.setIfInBounds i true) a z):wpAnyW Tryd.prog md ops Q S st (fuel+1) listed a w:=
 wpAnyW_op hr ho hw fun K' hK=>st_B hop hd hx hy hb fun z h1 h2=>hK.out _ _ (h z h1 h2).1 (h z h1 h2).2
end
def wholeA (g:Tm) (i:Bool) (b:Tm):Tm × Bool × Tm:=if i=true then (zeroT,true,b) else if 4000<nodes g then (zeroT,true,nodesT) else (g,false,b)
def WhP (w:World) (P:Nat→Prop) (r:Tm × Bool × Tm) (e:Ending) (w':World):Prop:=
 ∃ sg sb,e = .returned (.tuple #[valT r.1 sg,badV r.2.1 r.2.2 sb])∧TAtP w' (Grow P w w') r.1 sg∧TAtP w' (Grow P w w') r.2.2 sb∧Below w.heap.size w w'
theorem WhP.letters {w w':World} {P:Nat→Prop} {k v b k2 v2 b2:Int} {i:Bool} {n m n2 m2:List UInt8} {ts ts2:List Tm} {nb mb nb2 mb2:ByteArray} {q q2:Nat} {e:Ending} (hn:(⟨n.toArray⟩:ByteArray)=nb) (hm:(⟨m.toArray⟩:ByteArray)=mb) (hq:ts.length=q) (hn2:(⟨n2.toArray⟩:ByteArray)=nb2) (hm2:(⟨m2.toArray⟩:ByteArray)=mb2) (hq2:ts2.length=q2)
  (h:WhP w P (.mk k n m b v ts,i,.mk k2 n2 m2 b2 v2 ts2) e w'):∃ A c A2 c2,e = .returned (.tuple #[.agg (Q5 k nb mb b v (.slice A q c)),.agg #[.bool i,.int .i64 k2,.string nb2,.string mb2,.int .u64 b2,.int .i64 v2,.slice A2 q2 c2]]) ∧
   TAtP w' (Grow P w w') (.mk k n m b v ts) (.slice A q c)∧TAtP w' (Grow P w w') (.mk k2 n2 m2 b2 v2 ts2) (.slice A2 q2 c2)∧Below w.heap.size w w':=by
 obtain ⟨sg,sb,he,h1,h2,hb⟩:=h
 obtain ⟨A,c,rfl⟩:=TAtP.sl hq h1
 obtain ⟨A2,c2,rfl⟩:=TAtP.sl hq2 h2
 refine ⟨A,c,A2,c2,?_,h1,h2,hb⟩
 rw [he]
 show Ending.returned (.tuple #[valT (.mk k n m b v ts) _,badV i (.mk k2 n2 m2 b2 v2 ts2) _])=_
 rw [valT_mk hn hm,badV_mk hn2 hm2]
theorem rwhole_A {w:World} {P:Nat→Prop} {g b:Tm} {sg sb:Value} {i:Bool} (hg:TAtP w P g sg) (hb:TAtP w P b sb) (hP:∀ b,P b→b<w.heap.size):Calls Tryd.prog 50 #[valT g sg,badV i b sb] w (WhP w P (wholeA g i b)):=by
 have kp:∀ {t:Tm} {sl:Value} {w':World},TAtP w P t sl→Below w.heap.size w w'→TAtP w' (Grow P w w') t sl:=fun h hb=>(h.below hb hP).wide fun b h=>.inl h
 obtain ⟨k1,n1,m1,b1,v1,ts1,nb1,mb1,A1,c1,rfl,rfl,hn1,hm1,hl1,hc1,hx1,hv1,_,_⟩:=hg.letters
 obtain ⟨k2,n2,m2,b2,v2,ts2,nb2,mb2,A2,c2,rfl,rfl,hn2,hm2,hl2,hc2,hx2,hv2,_,_⟩:=hb.letters
 rw [hv1,badV_mk hn2 hm2]
 cases i with
 | true=>
  refine (rwhole_bad (ts:=ts1) (ts2:=ts2) hn1 hm1 hn2 hm2).mono ?_
  rintro e w' ⟨rfl,hb'⟩
  refine ⟨.slice none 0 0,.slice A2 ts2.length c2,?_,zero_at _ _,kp hb hb',hb'⟩
  show _=Ending.returned (.tuple #[valT zeroT _,badV true (.mk k2 n2 m2 b2 v2 ts2) _])
  rw [badV_mk hn2 hm2]
  rfl
 | false=>
  by_cases hz:4000<nodes (.mk k1 n1 m1 b1 v1 ts1)
  ·refine (rwhole_big (ts2:=ts2) hn1 hm1 hn2 hm2 (hg.wide hP) hz).mono ?_
   rintro e w' ⟨sn,rfl,ht,hb'⟩
   rw [show wholeA (.mk k1 n1 m1 b1 v1 ts1) false (.mk k2 n2 m2 b2 v2 ts2)=(zeroT,true,nodesT) from (if_neg (by simp)).trans (if_pos hz)]
   exact ⟨.slice none 0 0,sn,rfl,zero_at _ _,ht.wide fun b h=>.inr h,hb'⟩
  ·refine (rwhole_ok (ts2:=ts2) hn1 hm1 hn2 hm2 (hg.wide hP) hz).mono ?_
   rintro e w' ⟨rfl,hb'⟩
   rw [show wholeA (.mk k1 n1 m1 b1 v1 ts1) false (.mk k2 n2 m2 b2 v2 ts2)=(.mk k1 n1 m1 b1 v1 ts1,false,.mk k2 n2 m2 b2 v2 ts2) from (if_neg (by simp)).trans (if_neg hz)]
   refine ⟨_,_,?_,kp hg hb',kp hb hb',hb'⟩
   show _=Ending.returned (.tuple #[valT (.mk k1 n1 m1 b1 v1 ts1) _,badV false (.mk k2 n2 m2 b2 v2 ts2) _])
   rw [hv1,badV_mk hn2 hm2]
end Go.Proofs.YtgfeainpeplphaaDoor
namespace Go.Proofs.YtgfeainpeplphaaDoor
open Go.RowKit Hb Ht
def ruleAT (pu:Bool) (n:Int) (h p y:Tm):Tm × Bool × Tm:=
 if h.k=1 then (zeroT,true,atomT sInst)
 else if h.k=3∨h.k=4 then (zeroT,true,typedT sCallable h)
 else if pu=true∧isNil (elems p).2=false then (zeroT,true,typedT sList p)
 else if 62<h.as.length then (zeroT,true,arityT)
 else if pu=true then wholeA (cmpT sNeck [cmpT h.n (h.as ++ [varT n,varT (n+1)]),cmpT sComma [(ansM y (varT n) (varT (n+2)) (n+3)).g,eqT (varT (n+1)) (endT (elems p).1 (varT (n+2)))]]) (ansM y (varT n) (varT (n+2)) (n+3)).i (ansM y (varT n) (varT (n+2)) (n+3)).b
 else wholeA (cmpT sNeck [cmpT h.n (h.as ++ [varT n,varT (n+1)]),(ansM y (varT n) (varT (n+1)) (n+2)).g]) (ansM y (varT n) (varT (n+1)) (n+2)).i (ansM y (varT n) (varT (n+1)) (n+2)).b
def ruleA (t:Tm):Tm × Bool × Tm:=
 if isC t sRule 2=false then (zeroT,true,typedT sDcgRule t)
 else ruleAT (isC (t.as.getD 0 zeroT) sComma 2) (above t) (if isC (t.as.getD 0 zeroT) sComma 2=true then (t.as.getD 0 zeroT).as.getD 0 zeroT else t.as.getD 0 zeroT) ((t.as.getD 0 zeroT).as.getD 1 zeroT) (t.as.getD 1 zeroT)
theorem ruleAT_np {n:Int} {h p p' y:Tm} : ruleAT false n h p y=ruleAT false n h p' y:=by unfold ruleAT;simp
def RelW (r:Except Tm Tm) (a:Tm × Bool × Tm):Prop:=match r with | .ok g=>∃ b,a=(g,false,b) | .error e=>a=(zeroT,true,e)
def bodyW (f:Tm→Tm) (r:Except Tm (Tm × Int)):Except Tm Tm:=match r with
 | .error e=>.error e
 | .ok (g,_)=>whole (f g)
theorem relW_whole {r:Except Tm (Tm × Int)} {f:Tm→Tm} {a:Ans} {B:Int} : RelA B r a→RelW (bodyW f r) (wholeA (f a.g) a.i a.b):=by
 intro h
 cases r with
 | error e=>
  obtain ⟨h1,h2,_⟩:=h
  show wholeA _ _ _=(zeroT,true,e)
  unfold wholeA
  rw [if_pos h1,h2]
 | ok p=>
  obtain ⟨g,n⟩:=p
  have h':a=okA g n:=h
  rw [h']
  show RelW (whole (f g)) (wholeA (f g) false zeroT)
  unfold whole wholeA
  rw [if_neg (show ¬(false=true) by simp)]
  by_cases hz:4000<nodes (f g)
  ·rw [if_pos hz,if_pos hz];rfl
  ·rw [if_neg hz,if_neg hz];exact ⟨_,rfl⟩
theorem rel_tail {pu:Bool} {n:Int} {h p y:Tm} (hy:errsP y=0) (hn:0≤n):RelW (ruleTail pu n h p y) (ruleAT pu n h p y):=by
 unfold ruleTail ruleAT
 by_cases h1:h.k=1
 ·rw [if_pos h1,if_pos h1];rfl
 rw [if_neg h1,if_neg h1]
 by_cases h2:h.k=3∨h.k=4
 ·rw [if_pos h2,if_pos h2];rfl
 rw [if_neg h2,if_neg h2]
 by_cases h3:pu=true∧isNil (elems p).2=false
 ·rw [if_pos h3,if_pos h3];rfl
 rw [if_neg h3,if_neg h3]
 unfold putT
 by_cases h4:62<h.as.length
 ·rw [if_pos h4,if_pos h4];rfl
 rw [if_neg h4,if_neg h4]
 cases pu with
 | true=>exact relW_whole (f:=fun g=>cmpT sNeck [cmpT h.n (h.as ++ [varT n,varT (n+1)]),cmpT sComma [g,eqT (varT (n+1)) (endT (elems p).1 (varT (n+2)))]]) (rel_any y hy (by omega))
 | false=>exact relW_whole (f:=fun g=>cmpT sNeck [cmpT h.n (h.as ++ [varT n,varT (n+1)]),g]) (rel_any y hy (by omega))
theorem rel_rule {t:Tm} (h:checkP t=0):RelW (ruleT t) (ruleA t):=by
 unfold ruleA
 by_cases h0:isC t sRule 2=false
 ·rw [if_pos h0,ruleT_no h0];rfl
 rw [if_neg h0]
 obtain ⟨k,n,m,b,v,ts⟩:=t
 obtain ⟨e1,e2,e3⟩:=isC_iff.1 (by simpa using h0)
 change k=5 at e1
 change n=sRule at e2
 change ts.length=2 at e3
 subst e1 e2
 obtain ⟨x,y,rfl⟩:∃ x y,ts = [x,y]:=by
  match ts,e3 with
  | [x,y],_=>exact ⟨x,y,rfl⟩
 have hy:errsP y=0:=(check_iff.1 (check_arg h (by simp [Tm.as]:y∈(Tm.mk 5 sRule m b v [x,y]).as))).2
 have hn:=above_nn (.mk 5 sRule m b v [x,y])
 show RelW _ (ruleAT (isC x sComma 2) _ (if isC x sComma 2=true then x.as.getD 0 zeroT else x) (x.as.getD 1 zeroT) y)
 by_cases hc:isC x sComma 2=true
 ·obtain ⟨k2,n2,m2,b2,v2,ts2⟩:=x
  obtain ⟨a1,a2,a3⟩:=isC_iff.1 hc
  change k2=5 at a1
  change n2=sComma at a2
  change ts2.length=2 at a3
  subst a1 a2
  obtain ⟨x,p,rfl⟩:∃ x p,ts2 = [x,p]:=by
   match ts2,a3 with
   | [x,p],_=>exact ⟨x,p,rfl⟩
  rw [hc,if_pos rfl,rule_p]
  exact rel_tail hy hn
 ·have hc':isC x sComma 2=false:=by simpa using hc
  rw [hc',if_neg (by simp),rule_np hc']
  exact rel_tail hy hn
end Go.Proofs.YtgfeainpeplphaaDoor
namespace Go.Proofs.YtgfeainpeplphaaDoor
open Go.RowKit Hb Ht
attribute [local go_sem] Oper.semAt_some
theorem RowP.get {w:World} {P:Nat→Prop} {A:Option Addr} {n:Nat} {ps:List (Tm × Value)} (h:RowP w P A n ps) {i:Nat} {p:Tm × Value} (hp:ps[i]?=some p) :
  ∃ g o k nl ml b v ts nb mb A' c',A=some ⟨g,o,none⟩∧p=(.mk k nl ml b v ts,.slice A' ts.length c')∧(⟨nl.toArray⟩:ByteArray)=nb∧(⟨ml.toArray⟩:ByteArray)=mb∧TAtP w P (.mk k nl ml b v ts) (.slice A' ts.length c')∧g<w.heap.size ∧
   Q7 w g (o+i * 6) k nb mb b v (.slice A' ts.length c'):=by
 have hi:=(List.getElem?_eq_some_iff.1 hp).1
 obtain ⟨g,o,h1,h2,h3⟩:=h.2.2 (by rw [←h.1];omega)
 have hk:=h.2.1 p (List.mem_of_getElem? hp)
 obtain ⟨t,sl⟩:=p
 obtain ⟨k,nl,ml,b,v,ts⟩:=t
 replace hk:TAtP w P (.mk k nl ml b v ts) sl:=hk
 obtain ⟨A',c',hsl,_⟩:=TAtP.iff.1 hk
 replace hsl:sl = .slice A' ts.length c':=hsl
 subst hsl
 have key:∀ j u,j<6→(cells6 (.mk k nl ml b v ts) (.slice A' ts.length c'))[j]?=some u→w.cell? ⟨g,o+(i * 6+j),none⟩=some u:=fun j u hj hu=>h3 (i * 6+j) u (by rw [fl6_get hp hj];exact hu)
 exact ⟨g,o,k,nl,ml,b,v,ts,_,_,A',c',h1,rfl,rfl,rfl,hk,h2,key 0 _ (by omega) rfl,key 1 _ (by omega) rfl,key 2 _ (by omega) rfl,key 3 _ (by omega) rfl,key 4 _ (by omega) rfl,key 5 _ (by omega) rfl⟩
theorem TAtP.str {w:World} {P:Nat→Prop} {t:Tm} {sl:Value} (h:TAtP w P t sl):∃ A c,sl = .slice A t.as.length c:=by
 obtain ⟨A,c,e,_⟩:=TAtP.iff.1 h
 exact ⟨A,c,e⟩
theorem Listed_any {w:World} {P:Nat→Prop} {A:Option Addr} {n c:Nat} {ps:List (Tm × Value)} {d:Tm} {sd:Value} (h:RowP w P A n ps) (hP:∀ b,P b→b<w.heap.size) (hn:n≤4000) (hd:TAtP w P d sd) :
  Calls Tryd.prog 52 #[.slice A n c,valT d sd] w fun e w'=>∃ sl,e = .returned (valT (endT (ps.map (·.1)) d) sl)∧FreshT w w' (endT (ps.map (·.1)) d) sl∧Below w.heap.size w w':=by
 obtain ⟨k2,n2,m2,b2,v2,ts2,nb2,mb2,A2,c2,rfl,rfl,hn2,hm2,_,_,_,hv2,_,_⟩:=hd.letters
 obtain ⟨L2,hL2⟩:∃ L,ts2.length=L:=⟨_,rfl⟩
 rw [valT_mk hn2 hm2]
 rw [hL2] at hd ⊢
 have hnI:(n:Int)≤4000:=by omega
 have hnI0:(0:Int)≤(n:Int):=by omega
 obtain ⟨W1,hW1⟩:∃ W,w.alloc (.cells (Q5 k2 nb2 mb2 b2 v2 (.slice A2 L2 c2)) 25)=W:=⟨_,rfl⟩
 obtain ⟨W2,hW2⟩:∃ W,W1.alloc (.cells Qz 25)=W:=⟨_,rfl⟩
 have d1:Below w.heap.size w W1:=by rw [←hW1];exact Qb
 have s1:W1.heap.size=w.heap.size+1:=by rw [←hW1];simp
 have X1:TBox W1 w.heap.size (.mk k2 n2 m2 b2 v2 ts2) (.slice A2 L2 c2):=by rw [←hW1];exact TBox.new w hn2 hm2
 have d2:Below W1.heap.size W1 W2:=by rw [←hW2];exact Qb
 have s2:W2.heap.size=W1.heap.size+1:=by rw [←hW2];simp
 have X2:TBox W2 W1.heap.size zeroT (.slice none 0 0):=by rw [←hW2];exact heap_alloc_new W1 _
 rw [s1] at X2
 have HB:=Qh (Qa (d1.trans (d2.mono (by omega))) (show w.heap.size+1+1≤W2.heap.size by omega))
 have HX:=Qh X2
 obtain ⟨x0,x1,x2,x3,x4,x5⟩:=(X1.below d2).cells hn2 hm2
 have HM:=Qh (Qa hn2 (Qa hm2 hL2))
 have HR:=Qh h
 have HPP:=Qh hP
 have HD:=Qh hd
 have HO:=Qh (fresh_letters hn2 hm2 hL2 (ROwn_any (.mk k2 n2 m2 b2 v2 ts2) W2 (.slice A2 L2 c2) (((hd.below HB.out.1 hP).wide (fun b hb=>Ql (hP b hb) HB.out.1.size)))))
 rw [valT_mk hn2 hm2] at HO
 subst hW1 hW2
 clear X1 X2 d1 d2 s1 s2 h hP hd hn2 hm2 hL2 hv2
 go_enter Tryd.func52,Tryd.ntmps52
 go_upto_region 3 with (go_at_call 8;(with_reducible refine HO.out.mono ?_);rintro e u1 ⟨A3,c3,rfl,hf,hb⟩;have HV:=Qh (Qa hf hb);clear hf hb)
 have HU:=Qh (show ∀ z,u1.alloc (.cells (Q5 k2 nb2 mb2 b2 v2 (.slice A3 L2 c3)) 25)=z→Below w.heap.size w z∧TBox z u1.heap.size (.mk k2 n2 m2 b2 v2 ts2) (.slice A3 L2 c3)∧TAtP z (fun b=>w.heap.size+1+1≤b∧b<z.heap.size∧b≠u1.heap.size) (.mk k2 n2 m2 b2 v2 ts2) (.slice A3 L2 c3)∧TBox z (w.heap.size+1) zeroT (.slice none 0 0)∧w.heap.size+1+1≤u1.heap.size from fun z e=>by
  rw [←e]
  have hb:Below u1.heap.size u1 (u1.alloc (.cells (Q5 k2 nb2 mb2 b2 v2 (.slice A3 L2 c3)) 25)):=Qb
  have h2:=HB.out.2
  have h3:=HV.out.2.size
  have h4:=hb.size
  have hbw:=Qt HB.out.1 HV.out.2
  refine ⟨Qt hbw hb,TBox.new u1 HM.out.1 HM.out.2.1,TAtP.keep _ HV.out.1 (fun b hb2=>⟨⟨by omega,by omega,by omega⟩,hb.block b hb2.2⟩),(HX.out.below HV.out.2).below hb,by omega⟩)
 generalize u1.alloc (.cells (Q5 k2 nb2 mb2 b2 v2 (.slice A3 L2 c3)) 25)=u2 at *
 replace HU:=Qh (HU.out _ rfl)
 generalize u1.heap.size=G at *
 clear x0 x1 x2 x3 x4 x5 HO HV HX HB
 go_loopw [6] (fun v6 wr=>∃ j:Nat,v6 = .int .i64 ((j:Int) - 1)∧j≤n∧Hid (∃ sl,Below w.heap.size w wr∧TBox wr G (endT ((ps.drop j).map (·.1)) (.mk k2 n2 m2 b2 v2 ts2)) sl∧TAtP wr (fun b=>w.heap.size+1+1≤b∧b<wr.heap.size∧b≠G) (endT ((ps.drop j).map (·.1)) (.mk k2 n2 m2 b2 v2 ts2)) sl∧TBox wr (w.heap.size+1) zeroT (.slice none 0 0)∧w.heap.size+1+1≤G)) (fun v6 _=>(intOf v6+1).toNat)
 case atStart=>
  refine ⟨n,rfl,Nat.le_refl _,Qh ⟨.slice A3 L2 c3,HU.out.1,?_⟩⟩
  rw [List.drop_of_length_le (by rw [HR.out.1];exact Nat.le_refl _)]
  exact ⟨HU.out.2.1,HU.out.2.2.1,HU.out.2.2.2⟩
 case round=>
  obtain ⟨j,rfl,hj,HI⟩:=hrel
  obtain ⟨sO,hI⟩:=HI.out
  obtain ⟨T,hT⟩:∃ T,endT ((ps.drop j).map (·.1)) (.mk k2 n2 m2 b2 v2 ts2)=T:=⟨_,rfl⟩
  rw [hT] at hI
  obtain ⟨k4,n4,m4,b4,v4,ts4⟩:=T
  obtain ⟨A4,c4,hsO⟩:=TAtP.str hI.2.2.1
  replace hsO:sO = .slice A4 ts4.length c4:=hsO
  subst hsO
  obtain ⟨nb4,hn4⟩:∃ nb:ByteArray,(⟨n4.toArray⟩:ByteArray)=nb:=⟨_,rfl⟩
  obtain ⟨mb4,hm4⟩:∃ mb:ByteArray,(⟨m4.toArray⟩:ByteArray)=mb:=⟨_,rfl⟩
  obtain ⟨L4,hL4⟩:∃ L,ts4.length=L:=⟨_,rfl⟩
  rw [hL4] at hI
  have HI2:=Qh hI
  have HM4:=Qh (Qa hn4 (Qa hm4 hL4))
  have HT:=Qh hT
  clear hI HI hn4 hm4 hL4 hT
  by_cases h0:j=0
  ·subst h0
   obtain ⟨x0,x1,x2,x3,x4,x5⟩:=HI2.out.2.1.cells HM4.out.1 HM4.out.2.1
   obtain ⟨u0,u1,u2,u3,u4,u5⟩:=HI2.out.2.2.2.1.cells (nb:=⟨#[]⟩) (mb:=⟨#[]⟩) rfl rfl
   obtain ⟨z0,z1,z2,z3,z4,z5⟩:=HI2.out.2.2.2.1.frozens
   have hneg:¬(0:Int)≤((0:Nat):Int) - 1:=by omega
   go_wp2
   obtain ⟨hbx,hgr⟩:=HI2.out.2.2.2.1.set6 (k:=k4) (b:=b4) (v:=v4) ts4 (.slice A4 L4 c4) HM4.out.1 HM4.out.2.1
   obtain ⟨r0,r1,r2,r3,r4,r5⟩:=hbx.cells HM4.out.1 HM4.out.2.1
   refine bodyPost_ret (v:=.agg (Q5 k4 nb4 mb4 b4 v4 (.slice A4 L4 c4))) (by simp [results,Tryd.results52,go_sem,r0,r1,r2,r3,r4,r5]) rfl ⟨.slice A4 L4 c4,?_,?_,?_⟩
   ·rw [show endT (ps.map (·.1)) (.mk k2 n2 m2 b2 v2 ts2) = .mk k4 n4 m4 b4 v4 ts4 from HT.out,valT_mk HM4.out.1 HM4.out.2.1]
   ·rw [show endT (ps.map (·.1)) (.mk k2 n2 m2 b2 v2 ts2) = .mk k4 n4 m4 b4 v4 ts4 from HT.out]
    exact TAtP.keep _ HI2.out.2.2.1 (fun b hb=>⟨⟨by omega,Ql hb.2.1 hgr.size⟩,hgr.block b hb.2.1 (fun e=>by injection e with e;omega)⟩)
   ·exact HI2.out.1.grown hgr HI2.out.1.size (Qg (by omega))
  ·obtain ⟨i,rfl⟩:∃ i,j=i+1:=⟨j - 1,by omega⟩
   have hiI:(((i+1:Nat):Int) - 1)=(i:Int):=by omega
   have hi0:(0:Int)≤(i:Int):=by omega
   have hin:i<n:=by omega
   have hinI:(i:Int)<(n:Int):=by omega
   obtain ⟨p,hp⟩:∃ p,ps[i]?=some p:=⟨_,List.getElem?_eq_getElem (by rw [HR.out.1];exact hin)⟩
   obtain ⟨g,o,k',nl',ml',b',v',ts',nb',mb',A',c',rfl,hpe,hnb',hmb',hta,hg,q0,q1,q2,q3,q4,q5⟩:=HR.out.get hp
   subst hpe
   obtain ⟨L',hL'⟩:∃ L,ts'.length=L:=⟨_,rfl⟩
   rw [hL'] at q5 hta
   have hdr:ps.drop i=(.mk k' nl' ml' b' v' ts',.slice A' ts'.length c') :: ps.drop (i+1):=by rw [List.drop_eq_getElem_cons (by rw [HR.out.1];exact hin),(List.getElem?_eq_some_iff.1 hp).2]
   have HDr:=Qh (show endT ((ps.drop i).map (·.1)) (.mk k2 n2 m2 b2 v2 ts2)=cmpT sDot [.mk k' nl' ml' b' v' ts',.mk k4 n4 m4 b4 v4 ts4] from by rw [hdr,←HT.out];rfl)
   have HQ:=Qh (Qa q0 (Qa q1 (Qa q2 (Qa q3 (Qa q4 q5)))))
   have HM':=Qh (Qa hnb' (Qa hmb' hL'))
   have HTa:=Qh hta
   have HG:=Qh (Qa hg hj)
   rw [hiI]
   clear hta hp hdr q0 q1 q2 q3 q4 q5 hnb' hmb' hL' hg h0 hj hiI
   go_upto_region 5 with fail
   refine wp_region_U 7 (by kernel_rfl) (fun z0 K0 hs0=>?_)
   refine tw 0 K0 (v:=?tv1) (fun w5 hS=>?ty1) ?_
   case ty1=>go_simp;rfl
   refine tw 1 K0 (v:=?tv2) (fun w5 hS=>?ty2) ?_
   case ty2=>go_simp;rfl
   refine tw 2 K0 (v:=?tv3) (fun w5 hS=>?ty3) ?_
   case ty3=>go_simp;rfl
   refine tw 3 K0 (v:=?tv4) (fun w5 hS=>?ty4) ?_
   case ty4=>have key:=fun q:Nat=>(Qt HI2.out.1 hS).cell (p:=⟨g,q,none⟩) HG.out.1;have q0:=(key _).trans HQ.out.1;have q1:=(key _).trans HQ.out.2.1;have q2:=(key _).trans HQ.out.2.2.1;have q3:=(key _).trans HQ.out.2.2.2.1;have q4:=(key _).trans HQ.out.2.2.2.2.1;have q5:=(key _).trans HQ.out.2.2.2.2.2;clear key;go_simp;rfl
   refine tw 5 K0 (v:=?tv5) (fun w5 hS=>?ty5) ?_
   case ty5=>obtain ⟨x0,x1,x2,x3,x4,x5⟩:=(HI2.out.2.1.below hS).cells HM4.out.1 HM4.out.2.1;go_simp;rfl
   have hw0:=Qt HI2.out.1 K0
   have hO:=fresh_letters HM'.out.1 HM'.out.2.1 HM'.out.2.2 (ROwn_any (.mk k' nl' ml' b' v' ts') z0 (.slice A' L' c') ((HTa.out.below hw0 HPP.out).wide (fun b hb=>Ql (HPP.out b hb) hw0.size)))
   rw [valT_mk HM'.out.1 HM'.out.2.1] at hO
   have HO:=Qh hO
   clear hO
   refine w1 4 fun K hK=>?_
   go_simp
   (with_reducible refine HO.out.mono ?_)
   rintro e z1 ⟨A5,c5,rfl,hf,hb⟩
   have K1:=Qt K0 hb
   refine hK.out _ _ (fun _=>K1) ?_
   have hz1:=hb.size
   have hsz0:=HI2.out.1.size
   have hgl:=HI2.out.2.2.2.2
   have hGl:=HI2.out.2.1.lt
   have ha:TAtP z1 (fun b=>w.heap.size+1+1≤b∧b<z1.heap.size∧b≠G) (.mk k' nl' ml' b' v' ts') (.slice A5 L' c5):=hf.wide (fun b h=>⟨by omega,h.2,by omega⟩)
   have hb4:TAtP z1 (fun b=>w.heap.size+1+1≤b∧b<z1.heap.size∧b≠G) (.mk k4 n4 m4 b4 v4 ts4) (.slice A4 L4 c4):=TAtP.keep _ HI2.out.2.2.1 (fun b h=>⟨⟨h.1,by omega,h.2.2⟩,K1.block b h.2.1⟩)
   have hF:=F2_any ha hb4 (fun b h=>h.2.1) ⟨#[46]⟩ (by decide)
   rw [valT_mk HM'.out.1 HM'.out.2.1,valT_mk HM4.out.1 HM4.out.2.1] at hF
   have HF:=Qh hF
   clear hF ha hb4 hf
   refine w1 6 fun K hK=>?_
   go_simp
   (with_reducible refine HF.out.mono ?_)
   rintro e z2 ⟨A6,c6,rfl,ht,hb2⟩
   have K2:=Qt K1 hb2
   refine hK.out _ _ (fun _=>K2) ?_
   have hbG:=HI2.out.2.1.below K2
   obtain ⟨x0,x1,x2,x3,x4,x5⟩:=hbG.cells HM4.out.1 HM4.out.2.1
   obtain ⟨s0,s1,s2,s3,s4,s5⟩:=hbG.frozens
   refine w1 7 fun K hK=>?_
   go_simp
   clear x0 x1 x2 x3 x4 x5 s0 s1 s2 s3 s4 s5
   have h5:=hbG.set6 (k:=5) (b:=0) (v:=0) (n:=sDot) (m:=[]) [.mk k' nl' ml' b' v' ts',.mk k4 n4 m4 b4 v4 ts4] (.slice A6 2 c6) (nb:=⟨#[46]⟩) (mb:=⟨#[]⟩) rfl rfl
   generalize (((((z2.setCell ⟨G,0,none⟩ (.int .i64 5)).setCell ⟨G,1,none⟩ (.string ⟨#[46]⟩)).setCell ⟨G,2,none⟩ (.string ⟨#[]⟩)).setCell ⟨G,3,none⟩ (.int .u64 0)).setCell ⟨G,4,none⟩ (.int .i64 0)).setCell ⟨G,5,none⟩ (.slice A6 2 c6)=z3 at *
   refine hK.out _ _ (fun h=>absurd h (by simp)) ?_
   refine wpAnyW_done (by kernel_rfl) ?_ _
   have hsz3:=h5.2.size
   have hsz2:=hb2.size
   have HE:=Qh (show ∃ sl,Below w.heap.size w z3∧TBox z3 G (endT ((ps.drop i).map (·.1)) (.mk k2 n2 m2 b2 v2 ts2)) sl∧TAtP z3 (fun b=>w.heap.size+1+1≤b∧b<z3.heap.size∧b≠G) (endT ((ps.drop i).map (·.1)) (.mk k2 n2 m2 b2 v2 ts2)) sl∧TBox z3 (w.heap.size+1) zeroT (.slice none 0 0)∧w.heap.size+1+1≤G from by
    rw [HDr.out]
    refine ⟨.slice A6 2 c6,(HI2.out.1.trans (K2.mono hsz0)).grown h5.2 (by have:=K2.size;omega) (Qg (by omega)),h5.1,TAtP.keep _ ht (fun b h=>?_),(HI2.out.2.2.2.1.below K2).gro h5.2 (by omega),hgl⟩
    have hb3:w.heap.size+1+1≤b∧b<z2.heap.size∧b≠G:=by
     rcases h with h | h
     ·exact ⟨h.1,by omega,h.2.2⟩
     ·exact ⟨by omega,h.2,by omega⟩
    exact ⟨⟨hb3.1,by omega,hb3.2.2⟩,h5.2.block b hb3.2.1 (fun e=>by injection e with e;exact hb3.2.2 e)⟩)
   clear ht hb hb2 K0 K1 K2 hs0 hbG h5 hw0 HF HO hz1 hsz0 hgl hGl hsz3 hsz2
   go_wp2
   go_roundw
   case rel=>exact ⟨i,rfl,by have:=HG.out.2;omega,HE⟩
   case measure=>
    show ((i:Int) - 1+1).toNat<((i:Int)+1).toNat
    omega
end Go.Proofs.YtgfeainpeplphaaDoor
