import Derived.Recover
import Derived.Carry
import Derived.Maps.OwnSet
import Derived.Below
import Derived.Test.YtgfeainpeplphaaDoorV2
import Derived.Test.YtgfeainpeplphaaDoorV5
import Derived.Test.YtgfeainpeplphaaDoorV6
import Derived.Test.YtgfeainpeplphaaDoorV0
set_option maxRecDepth 1000000
set_option maxHeartbeats 64000000
set_option linter.unusedVariables false
set_option linter.unusedSimpArgs false
namespace Go.Proofs.YtgfeainpeplphaaDoor
open Go.RowKit Hb Ht
theorem caught_idle (E:Nat) (w:World) :
  CallsD Tryd.prog 29 #[.pointer (some ⟨E,0,none⟩)] .returning w fun e u' w'=>e = .returned (.tuple #[])∧u' = .returning∧w'=w:=by
 refine callsD_of_wpS Tryd.func29 rfl fun c₀ cs hu=>?_
 apply wpS_seq
 apply wpS_region
 simp [wpOpsS,go_sem,recoverD,hu,Tryd.ntmps29,Exit.thenS]
 refine wpS_of_wp ?_
 rw [show (#[Value.pointer (some ⟨E,0,none⟩)] ++ (Array.replicate 14 undef).setIfInBounds 4 Value.nilIface) = #[Value.pointer (some ⟨E,0,none⟩),undef,undef,undef,undef,.nilIface,undef,undef,undef,undef,undef,undef,undef,undef,undef] from rfl]
 go_wp2
 cases c₀
 simp_all [bodyPostS,results,Tryd.results29]
theorem caught_throws (E:Nat) (bb:Nat) (older:List PanicEntry) (w:World) {x:Value} (hc:w.cell? ⟨E,0,none⟩=some x) (hz:w.frozen? ⟨E,0,none⟩=false) :
  CallsD Tryd.prog 29 #[.pointer (some ⟨E,0,none⟩)] (.panicking ({ v:=.iface 82 (.pointer (some ⟨bb,0,none⟩)),recovered:=false } :: older)) w fun e u' w'=>
   e = .returned (.tuple #[])∧u' = .panicking ({ v:=.iface 82 (.pointer (some ⟨bb,0,none⟩)),recovered:=true } :: older)∧w'=w.setCell ⟨E,0,none⟩ (.iface 82 (.pointer (some ⟨bb,0,none⟩))):=by
 refine callsD_of_wpS Tryd.func29 rfl fun c₀ cs hu=>?_
 apply wpS_seq
 apply wpS_region
 simp [wpOpsS,go_sem,recoverD,hu,Tryd.ntmps29,Exit.thenS]
 refine wpS_of_wp ?_
 rw [show (#[Value.pointer (some ⟨E,0,none⟩)] ++ (Array.replicate 14 undef).setIfInBounds 4 (Value.iface 82 (.pointer (some ⟨bb,0,none⟩)))) = #[Value.pointer (some ⟨E,0,none⟩),undef,undef,undef,undef,.iface 82 (.pointer (some ⟨bb,0,none⟩)),undef,undef,undef,undef,undef,undef,undef,undef,undef] from rfl]
 have ha:∀ (W:World) (v:Value),(Instr.typeAssert (.iface 82 v) 20 82 true).run Tryd.prog W = .ok (.tuple #[v,.bool true]) W:=fun W v=>by kernel_rfl
 go_wp2
 cases c₀
 simp_all [bodyPostS,results,Tryd.results29]
end Go.Proofs.YtgfeainpeplphaaDoor
namespace Go.Proofs.YtgfeainpeplphaaDoor
open Go.RowKit Hb Ht
attribute [local go_sem] Oper.semAt_some
def zeroTV:Value:=.agg Qz
def BodyR (w:World) (r:Except Tm (Tm × Int)) (e:Ending) (w':World):Prop:=
 Below w.heap.size w w'∧match r with
  | .ok (g,n)=>∃ sg,e = .returned (.tuple #[valT g sg,.int .i64 n,.nilIface])∧TOwn w' g sg w.heap.size w'.heap.size
  | .error b=>∃ bb,e = .returned (.tuple #[zeroTV,.int .i64 0,.iface 82 (.pointer (some ⟨bb,0,none⟩))])∧BallAt w' bb b
theorem BodyR.mkOk {w w':World} {g:Tm} {n:Int} {e:Ending} {sg:Value} (hb:Below w.heap.size w w') (he:e = .returned (.tuple #[valT g sg,.int .i64 n,.nilIface])) (ht:TOwn w' g sg w.heap.size w'.heap.size):BodyR w (.ok (g,n)) e w':=⟨hb,sg,he,ht⟩
theorem BodyR.mkBad {w w':World} {b:Tm} {e:Ending} {bb:Nat} (hb:Below w.heap.size w w') (he:e = .returned (.tuple #[zeroTV,.int .i64 0,.iface 82 (.pointer (some ⟨bb,0,none⟩))])) (ht:BallAt w' bb b):BodyR w (.error b) e w':=⟨hb,bb,he,ht⟩
theorem TAtP.avoid {w:World} {E:Nat} {x:Value} {ty:TypeId} {q:Nat × Nat} (hE:w.heap[E]?=some (.cells #[x] ty q)) (t:Tm):∀ {P:Nat→Prop} {sl:Value},TAtP w P t sl→TAtP w (fun b=>P b∧b≠E) t sl:=by
 refine Tm.ind (p:=fun t=>∀ {P:Nat→Prop} {sl:Value},TAtP w P t sl→TAtP w (fun b=>P b∧b≠E) t sl) (fun k n m b v l ih P sl h=>?_) t
 rw [TAtP.iff] at h ⊢
 obtain ⟨A,c,h1,h2,h3,h4,h5,h6⟩:=h
 refine ⟨A,c,h1,h2,h3,h4,h5,fun hne=>?_⟩
 obtain ⟨g,o,e,hg,hs⟩:=h6 hne
 refine ⟨g,o,e,⟨hg,fun e2=>?_⟩,fun i a ha=>?_⟩
 ·subst e2
  obtain ⟨a,ha⟩:=List.exists_mem_of_ne_nil _ hne
  obtain ⟨i,hi,hia⟩:=List.getElem_of_mem ha
  obtain ⟨sl',hc,_⟩:=hs i a (by rw [←hia];exact List.getElem?_eq_getElem hi)
  have h9:=hc 1 (by omega)
  rw [cell_of_row w g (o+i * 6+1) _ _ q hE] at h9
  rw [Array.getElem?_eq_none (by simp)] at h9
  simp [cells6] at h9
 ·obtain ⟨sl',hc,ht⟩:=hs i a ha
  exact ⟨sl',hc,ih a (List.mem_of_getElem? ha) ht⟩
theorem bodyT_bad {t f d e:Tm} {nx:Int} (h:mkB t f d nx = .error e):bodyT t f d nx = .error e:=by unfold bodyT;rw [h]
theorem bodyT_big {t f d g:Tm} {nx n:Int} (h:mkB t f d nx = .ok (g,n)) (hz:4000<nodes g):bodyT t f d nx = .error nodesT:=by unfold bodyT;rw [h];simp [whole,hz]
theorem bodyT_fit {t f d g:Tm} {nx n:Int} (h:mkB t f d nx = .ok (g,n)) (hz:¬4000<nodes g):bodyT t f d nx = .ok (g,n):=by unfold bodyT;rw [h];simp [whole,hz]
theorem leaves_congr {P:Program} {fn:Func} {t1 t2:Array Value} {R:Ending→World→Prop} (h:∀ w,(results fn t1).run P w=(results fn t2).run P w):∀ (ds:List Deferred) (u:FrameMode) (w:World),Leaves P fn t1 R ds u w→Leaves P fn t2 R ds u w:=by
 intro ds
 induction ds with
 | nil=>
  intro u w hl
  cases u with
  | run=>exact hl
  | panicking c=>exact hl
  | returning=>
   obtain ⟨v,hr,hR⟩:=hl
   exact ⟨v,by rw [←h w];exact hr,hR⟩
 | cons d ds ih=>
  rintro u w ⟨hu,fv,cap,f,args,ht,hi,hc⟩
  refine ⟨hu,fv,cap,f,args,ht,hi,hc.mono (fun e u' w' hx=>?_)⟩
  cases e with
  | returned v=>exact ih _ _ hx
  | panicked c=>exact ih _ _ hx
  | outgrown=>exact hx
theorem hqBody {R:Ending→World→Prop} {i:Nat} (hi:10<i) {v:Value} (c:List PanicEntry) (a:Act) (w:World) (h:bodyPostD Tryd.prog Tryd.f16 R (.panic c) (a.put (some i) v) w):bodyPostD Tryd.prog Tryd.f16 R (.panic c) a w:=by
 refine leaves_congr (t1:=(a.put (some i) v).tmps) (fun w2=>?_) _ _ _ h
 have h8:i≠8:=by omega
 have h9:i≠9:=by omega
 have h10:i≠10:=by omega
 simp [results,Tryd.results16,Act.put,Array.getElem?_setIfInBounds,Array.getD_eq_getD_getElem?,h8,h9,h10]
theorem BallAt.caught {w:World} {bb E:Nat} {t:Tm} {x:Value} {ty:TypeId} (h:BallAt w bb t) (hE:w.heap[E]?=some (.cells #[x] ty (0,0))) (u:Value):BallAt (w.setCell ⟨E,0,none⟩ u) bb t:=by
 obtain ⟨sl,h1,h2⟩:=h
 have hne:bb≠E:=by
  rintro rfl
  rw [hE] at h1
  injection h1 with h1
  injection h1 with h1
  have:=congrArg Array.size h1
  simp [cells6] at this
 refine ⟨sl,(Below.heap_setCell _ _ _ bb hne).trans h1,TAtP.keep _ (TAtP.avoid hE t h2) (fun b hb=>⟨?_,Below.heap_setCell _ _ _ b hb.2⟩)⟩
 have:=hb.1
 simp [World.setCell]
 exact this
theorem Body_err {w0 w:World} {t f d:Tm} {st sf sd:Value} {nx:Int} (h1:TAt w w.heap.size t st) (h2:TAt w w.heap.size f sf) (h3:TAt w w.heap.size d sd) (hU:UOk w0 w) {c:Int} (hcs:checksP [t,f,d]=c) (hc:c≠0):Calls Tryd.prog 16 #[valT t st,valT f sf,valT d sd,.int .i64 nx] w fun e w'=>e = .returned (.tuple #[zeroTV,.int .i64 0,.iface 32 (.int .i64 c)])∧Below w.heap.size w w':=by
 obtain ⟨k1,n1,m1,b1,v1,ts1,nb1,mb1,A1,c1,hT1,rfl,hnb1,hmb1,hl1,hc1,hx1,hv1,hs1,hq1⟩:=h1.letters
 subst hT1
 obtain ⟨L1,hL1⟩:∃ L,ts1.length=L:=⟨_,rfl⟩
 rw [hv1]
 rw [hL1] at h1 hv1 ⊢
 obtain ⟨k2,n2,m2,b2,v2,ts2,nb2,mb2,A2,c2,hT2,rfl,hnb2,hmb2,hl2,hc2,hx2,hv2,hs2,hq2⟩:=h2.letters
 subst hT2
 obtain ⟨L2,hL2⟩:∃ L,ts2.length=L:=⟨_,rfl⟩
 rw [hv2]
 rw [hL2] at h2 hv2 ⊢
 obtain ⟨k3,n3,m3,b3,v3,ts3,nb3,mb3,A3,c3,hT3,rfl,hnb3,hmb3,hl3,hc3,hx3,hv3,hs3,hq3⟩:=h3.letters
 subst hT3
 obtain ⟨L3,hL3⟩:∃ L,ts3.length=L:=⟨_,rfl⟩
 rw [hv3]
 rw [hL3] at h3 hv3 ⊢
 obtain ⟨W1,hW1⟩:∃ W,w.alloc (.cells (Q5 k1 nb1 mb1 b1 v1 (.slice A1 L1 c1)) 25)=W:=⟨_,rfl⟩
 obtain ⟨W2,hW2⟩:∃ W,W1.alloc (.cells (Q5 k2 nb2 mb2 b2 v2 (.slice A2 L2 c2)) 25)=W:=⟨_,rfl⟩
 obtain ⟨W3,hW3⟩:∃ W,W2.alloc (.cells (Q5 k3 nb3 mb3 b3 v3 (.slice A3 L3 c3)) 25)=W:=⟨_,rfl⟩
 obtain ⟨W4,hW4⟩:∃ W,W3.alloc (.cells #[.int .i64 nx] 3)=W:=⟨_,rfl⟩
 obtain ⟨W5,hW5⟩:∃ W,W4.alloc (.cells Qz 25)=W:=⟨_,rfl⟩
 obtain ⟨W6,hW6⟩:∃ W,W5.alloc (.cells #[.nilIface] 29)=W:=⟨_,rfl⟩
 obtain ⟨W7,hW7⟩:∃ W,W6.alloc (.cells #[.int .i64 k1,.string nb1,.string mb1,.int .u64 b1,.int .i64 v1,.slice A1 L1 c1,.int .i64 k2,.string nb2,.string mb2,.int .u64 b2,.int .i64 v2,.slice A2 L2 c2,.int .i64 k3,.string nb3,.string mb3,.int .u64 b3,.int .i64 v3,.slice A3 L3 c3] 25)=W:=⟨_,rfl⟩
 have d1:Below w.heap.size w W1:=by rw [←hW1];exact Qb
 have s1:W1.heap.size=w.heap.size+1:=by rw [←hW1];simp
 have X1:TBox W1 w.heap.size (.mk k1 n1 m1 b1 v1 ts1) (.slice A1 L1 c1):=by rw [←hW1];exact TBox.new w hnb1 hmb1
 have d2:Below W1.heap.size W1 W2:=by rw [←hW2];exact Qb
 have s2:W2.heap.size=W1.heap.size+1:=by rw [←hW2];simp
 have X2:TBox W2 W1.heap.size (.mk k2 n2 m2 b2 v2 ts2) (.slice A2 L2 c2):=by rw [←hW2];exact TBox.new W1 hnb2 hmb2
 have d3:Below W2.heap.size W2 W3:=by rw [←hW3];exact Qb
 have s3:W3.heap.size=W2.heap.size+1:=by rw [←hW3];simp
 have X3:TBox W3 W2.heap.size (.mk k3 n3 m3 b3 v3 ts3) (.slice A3 L3 c3):=by rw [←hW3];exact TBox.new W2 hnb3 hmb3
 have d4:Below W3.heap.size W3 W4:=by rw [←hW4];exact Qb
 have s4:W4.heap.size=W3.heap.size+1:=by rw [←hW4];simp
 have X4:W4.heap[W3.heap.size]?=some (.cells #[.int .i64 nx] 3 (0,0)):=by rw [←hW4];exact heap_alloc_new W3 _
 have d5:Below W4.heap.size W4 W5:=by rw [←hW5];exact Qb
 have s5:W5.heap.size=W4.heap.size+1:=by rw [←hW5];simp
 have X5:TBox W5 W4.heap.size zeroT (.slice none 0 0):=by rw [←hW5];exact heap_alloc_new W4 _
 have d6:Below W5.heap.size W5 W6:=by rw [←hW6];exact Qb
 have s6:W6.heap.size=W5.heap.size+1:=by rw [←hW6];simp
 have X6:W6.heap[W5.heap.size]?=some (.cells #[.nilIface] 29 (0,0)):=by rw [←hW6];exact heap_alloc_new W5 _
 have d7:Below W6.heap.size W6 W7:=by rw [←hW7];exact Qb
 have s7:W7.heap.size=W6.heap.size+1:=by rw [←hW7];simp
 have X7:W7.heap[W6.heap.size]?=some (.cells #[.int .i64 k1,.string nb1,.string mb1,.int .u64 b1,.int .i64 v1,.slice A1 L1 c1,.int .i64 k2,.string nb2,.string mb2,.int .u64 b2,.int .i64 v2,.slice A2 L2 c2,.int .i64 k3,.string nb3,.string mb3,.int .u64 b3,.int .i64 v3,.slice A3 L3 c3] 25 (0,0)):=by rw [←hW7];exact heap_alloc_new W6 _
 replace X1:=X1.below d2
 replace X1:=X1.below d3
 replace X1:=X1.below d4
 replace X1:=X1.below d5
 replace X1:=X1.below d6
 replace X1:=X1.below d7
 replace X2:=X2.below d3
 replace X2:=X2.below d4
 replace X2:=X2.below d5
 replace X2:=X2.below d6
 replace X2:=X2.below d7
 replace X3:=X3.below d4
 replace X3:=X3.below d5
 replace X3:=X3.below d6
 replace X3:=X3.below d7
 replace X4:=(d5.block _ (by omega)).trans X4
 replace X4:=(d6.block _ (by omega)).trans X4
 replace X4:=(d7.block _ (by omega)).trans X4
 replace X5:=X5.below d6
 replace X5:=X5.below d7
 replace X6:=(d7.block _ (by omega)).trans X6
 have hb7:Below w.heap.size w W7:=d1.trans ((d2.trans ((d3.trans ((d4.trans ((d5.trans ((d6.trans ((d7).mono (by omega))).mono (by omega))).mono (by omega))).mono (by omega))).mono (by omega))).mono (by omega))
 have hsz7:W7.heap.size=w.heap.size+1+1+1+1+1+1+1:=by omega
 have hrow:RowP W7 (fun b=>b<w.heap.size) (some ⟨W6.heap.size,0,none⟩) 3 [((.mk k1 n1 m1 b1 v1 ts1:Tm),Value.slice A1 L1 c1),((.mk k2 n2 m2 b2 v2 ts2:Tm),Value.slice A2 L2 c2),((.mk k3 n3 m3 b3 v3 ts3:Tm),Value.slice A3 L3 c3)]:=rowP_at X7 (by rw [←hnb1,←hmb1,←hnb2,←hmb2,←hnb3,←hmb3];rfl) rfl (mem3 (TAtP.below h1 hb7 (fun b hb=>hb)) (TAtP.below h2 hb7 (fun b hb=>hb)) (TAtP.below h3 hb7 (fun b hb=>hb)))
 have hck:=dcheck_any (w0:=w0) (c:=3) hrow (fun b hb=>Ql hb hb7.size) (by unfold maxArgs;omega) (Nat.le_refl _) (hU.below hb7)
 rw [s6,s5,s4,s3,s2,s1] at X7
 rw [s5,s4,s3,s2,s1] at X6
 rw [s4,s3,s2,s1] at X5
 rw [s3,s2,s1] at X4
 rw [s2,s1] at X3
 rw [s1] at X2
 rw [s6,s5,s4,s3,s2,s1] at hck
 obtain ⟨x0,x1,x2,x3,x4,x5⟩:=X1.cells hnb1 hmb1
 obtain ⟨y0,y1,y2,y3,y4,y5⟩:=X2.cells hnb2 hmb2
 obtain ⟨z0,z1,z2,z3,z4,z5⟩:=X3.cells hnb3 hmb3
 have HX:=Qh (Qa X1 (Qa X2 (Qa X3 (Qa X4 (Qa X5 X6)))))
 have HM:=Qh (Qa (Qa hnb1 hmb1) (Qa (Qa hnb2 hmb2) (Qa hnb3 hmb3)))
 have HT:=Qh (Qa h1 (Qa h2 h3))
 have HB:=Qh (Qa hb7 hsz7)
 have HC:=Qh hck
 have HU:=Qh hU
 have HWe:=Qh hW7
 subst hW1 hW2 hW3 hW4 hW5 hW6
 rw [←HWe.out] at x0 x1 x2 x3 x4 x5 y0 y1 y2 y3 y4 y5 z0 z1 z2 z3 z4 z5 HC
 clear h1 h2 h3 hU hck hrow hb7 hsz7 hW7 X1 X2 X3 X4 X5 X6 X7 s1 s2 s3 s4 s5 s6 s7 d1 d2 d3 d4 d5 d6 d7 hnb1 hmb1 hnb2 hmb2 hnb3 hmb3 hL1 hL2 hL3 hv1 hv2 hv3 hs1 hs2 hs3 hq1 hq2 hq3
 rw [show checksP ([((.mk k1 n1 m1 b1 v1 ts1:Tm),Value.slice A1 L1 c1),((.mk k2 n2 m2 b2 v2 ts2:Tm),Value.slice A2 L2 c2),((.mk k3 n3 m3 b3 v3 ts3:Tm),Value.slice A3 L3 c3)].map (·.1))=c from hcs,errV,if_neg hc] at HC
 clear hcs
 go_enter_defers Tryd.func16,Tryd.ntmps16
 go_wp2_with (go_at_call 27;(with_reducible refine HC.out.mono ?_);rintro e w8 ⟨rfl,hb8⟩;rw [HWe.out] at hb8;have HX8:=Qh (show TBox w8 (w.heap.size+1+1+1+1) zeroT (.slice none 0 0)∧w8.heap[w.heap.size+1+1+1+1+1]?=some (.cells #[.nilIface] 29 (0,0))∧Below w.heap.size w w8 from ⟨HX.out.2.2.2.2.1.below hb8,(hb8.block _ (Array.getElem?_eq_some_iff.1 HX.out.2.2.2.2.2).1).trans HX.out.2.2.2.2.2,Qt HB.out.1 hb8⟩);obtain ⟨a0,a1,a2,a3,a4,a5⟩:=HX8.out.1.cells rfl rfl;obtain ⟨e0,e1,e2,e3,e4,e5⟩:=HX8.out.1.frozens;have cE:=cell_of_one HX8.out.2.1;have fE:=free_of_one HX8.out.2.1;clear hb8)
 obtain ⟨hbx,hgr⟩:=HX8.out.1.set6 (k:=0) (b:=0) (v:=0) (n:=[]) (m:=[]) (nb:=⟨#[]⟩) (mb:=⟨#[]⟩) [] (.slice none 0 0) rfl rfl
 generalize ((((((w8.setCell ⟨w.heap.size+1+1+1+1,0,none⟩ (.int .i64 0)).setCell ⟨w.heap.size+1+1+1+1,1,none⟩ (.string ⟨#[]⟩)).setCell ⟨w.heap.size+1+1+1+1,2,none⟩ (.string ⟨#[]⟩)).setCell ⟨w.heap.size+1+1+1+1,3,none⟩ (.int .u64 0)).setCell ⟨w.heap.size+1+1+1+1,4,none⟩ (.int .i64 0)).setCell ⟨w.heap.size+1+1+1+1,5,none⟩ (.slice none 0 0))=w9 at *
 have hE9:=blk_ne hgr HX8.out.2.1 (by omega)
 have hbx10:=hbx.far (p:=⟨w.heap.size+1+1+1+1+1,0,none⟩) (by show w.heap.size+1+1+1+1≠w.heap.size+1+1+1+1+1;omega) (.iface 32 (.int .i64 c))
 have hE10:=one_setCell (u:=.iface 32 (.int .i64 c)) hE9
 have hb10:Below w.heap.size w (w9.setCell ⟨w.heap.size+1+1+1+1+1,0,none⟩ (.iface 32 (.int .i64 c))):=(HX8.out.2.2.grown hgr HX8.out.2.2.size (Qg (by omega))).setCell (by show w.heap.size≤w.heap.size+1+1+1+1+1;omega) _
 generalize w9.setCell ⟨w.heap.size+1+1+1+1+1,0,none⟩ (.iface 32 (.int .i64 c))=w10 at *
 obtain ⟨r0,r1,r2,r3,r4,r5⟩:=hbx10.cells (nb:=⟨#[]⟩) (mb:=⟨#[]⟩) rfl rfl
 have cE10:=cell_of_one hE10
 simp only [bodyPostD,Leaves]
 exact ⟨.tuple #[zeroTV,.int .i64 0,.iface 32 (.int .i64 c)],by simp [results,Tryd.results16,go_sem,r0,r1,r2,r3,r4,r5,cE10,zeroTV],rfl,hb10⟩
theorem Body_arg {w0 w:World} {t f d:Tm} {st sf sd:Value} {nx:Int} (h1:TAt w w.heap.size t st) (h2:TAt w w.heap.size f sf) (h3:TAt w w.heap.size d sd) (hU:UOk w0 w) (hcs:checksP [t,f,d]=0) (hc:nx<0∨4611686018427387904<nx):Calls Tryd.prog 16 #[valT t st,valT f sf,valT d sd,.int .i64 nx] w fun e w'=>e = .returned (.tuple #[zeroTV,.int .i64 0,.iface 32 (.int .i64 1)])∧Below w.heap.size w w':=by
 obtain ⟨k1,n1,m1,b1,v1,ts1,nb1,mb1,A1,c1,hT1,rfl,hnb1,hmb1,hl1,hc1,hx1,hv1,hs1,hq1⟩:=h1.letters
 subst hT1
 obtain ⟨L1,hL1⟩:∃ L,ts1.length=L:=⟨_,rfl⟩
 rw [hv1]
 rw [hL1] at h1 hv1 ⊢
 obtain ⟨k2,n2,m2,b2,v2,ts2,nb2,mb2,A2,c2,hT2,rfl,hnb2,hmb2,hl2,hc2,hx2,hv2,hs2,hq2⟩:=h2.letters
 subst hT2
 obtain ⟨L2,hL2⟩:∃ L,ts2.length=L:=⟨_,rfl⟩
 rw [hv2]
 rw [hL2] at h2 hv2 ⊢
 obtain ⟨k3,n3,m3,b3,v3,ts3,nb3,mb3,A3,c3,hT3,rfl,hnb3,hmb3,hl3,hc3,hx3,hv3,hs3,hq3⟩:=h3.letters
 subst hT3
 obtain ⟨L3,hL3⟩:∃ L,ts3.length=L:=⟨_,rfl⟩
 rw [hv3]
 rw [hL3] at h3 hv3 ⊢
 obtain ⟨W1,hW1⟩:∃ W,w.alloc (.cells (Q5 k1 nb1 mb1 b1 v1 (.slice A1 L1 c1)) 25)=W:=⟨_,rfl⟩
 obtain ⟨W2,hW2⟩:∃ W,W1.alloc (.cells (Q5 k2 nb2 mb2 b2 v2 (.slice A2 L2 c2)) 25)=W:=⟨_,rfl⟩
 obtain ⟨W3,hW3⟩:∃ W,W2.alloc (.cells (Q5 k3 nb3 mb3 b3 v3 (.slice A3 L3 c3)) 25)=W:=⟨_,rfl⟩
 obtain ⟨W4,hW4⟩:∃ W,W3.alloc (.cells #[.int .i64 nx] 3)=W:=⟨_,rfl⟩
 obtain ⟨W5,hW5⟩:∃ W,W4.alloc (.cells Qz 25)=W:=⟨_,rfl⟩
 obtain ⟨W6,hW6⟩:∃ W,W5.alloc (.cells #[.nilIface] 29)=W:=⟨_,rfl⟩
 obtain ⟨W7,hW7⟩:∃ W,W6.alloc (.cells #[.int .i64 k1,.string nb1,.string mb1,.int .u64 b1,.int .i64 v1,.slice A1 L1 c1,.int .i64 k2,.string nb2,.string mb2,.int .u64 b2,.int .i64 v2,.slice A2 L2 c2,.int .i64 k3,.string nb3,.string mb3,.int .u64 b3,.int .i64 v3,.slice A3 L3 c3] 25)=W:=⟨_,rfl⟩
 have d1:Below w.heap.size w W1:=by rw [←hW1];exact Qb
 have s1:W1.heap.size=w.heap.size+1:=by rw [←hW1];simp
 have X1:TBox W1 w.heap.size (.mk k1 n1 m1 b1 v1 ts1) (.slice A1 L1 c1):=by rw [←hW1];exact TBox.new w hnb1 hmb1
 have d2:Below W1.heap.size W1 W2:=by rw [←hW2];exact Qb
 have s2:W2.heap.size=W1.heap.size+1:=by rw [←hW2];simp
 have X2:TBox W2 W1.heap.size (.mk k2 n2 m2 b2 v2 ts2) (.slice A2 L2 c2):=by rw [←hW2];exact TBox.new W1 hnb2 hmb2
 have d3:Below W2.heap.size W2 W3:=by rw [←hW3];exact Qb
 have s3:W3.heap.size=W2.heap.size+1:=by rw [←hW3];simp
 have X3:TBox W3 W2.heap.size (.mk k3 n3 m3 b3 v3 ts3) (.slice A3 L3 c3):=by rw [←hW3];exact TBox.new W2 hnb3 hmb3
 have d4:Below W3.heap.size W3 W4:=by rw [←hW4];exact Qb
 have s4:W4.heap.size=W3.heap.size+1:=by rw [←hW4];simp
 have X4:W4.heap[W3.heap.size]?=some (.cells #[.int .i64 nx] 3 (0,0)):=by rw [←hW4];exact heap_alloc_new W3 _
 have d5:Below W4.heap.size W4 W5:=by rw [←hW5];exact Qb
 have s5:W5.heap.size=W4.heap.size+1:=by rw [←hW5];simp
 have X5:TBox W5 W4.heap.size zeroT (.slice none 0 0):=by rw [←hW5];exact heap_alloc_new W4 _
 have d6:Below W5.heap.size W5 W6:=by rw [←hW6];exact Qb
 have s6:W6.heap.size=W5.heap.size+1:=by rw [←hW6];simp
 have X6:W6.heap[W5.heap.size]?=some (.cells #[.nilIface] 29 (0,0)):=by rw [←hW6];exact heap_alloc_new W5 _
 have d7:Below W6.heap.size W6 W7:=by rw [←hW7];exact Qb
 have s7:W7.heap.size=W6.heap.size+1:=by rw [←hW7];simp
 have X7:W7.heap[W6.heap.size]?=some (.cells #[.int .i64 k1,.string nb1,.string mb1,.int .u64 b1,.int .i64 v1,.slice A1 L1 c1,.int .i64 k2,.string nb2,.string mb2,.int .u64 b2,.int .i64 v2,.slice A2 L2 c2,.int .i64 k3,.string nb3,.string mb3,.int .u64 b3,.int .i64 v3,.slice A3 L3 c3] 25 (0,0)):=by rw [←hW7];exact heap_alloc_new W6 _
 replace X1:=X1.below d2
 replace X1:=X1.below d3
 replace X1:=X1.below d4
 replace X1:=X1.below d5
 replace X1:=X1.below d6
 replace X1:=X1.below d7
 replace X2:=X2.below d3
 replace X2:=X2.below d4
 replace X2:=X2.below d5
 replace X2:=X2.below d6
 replace X2:=X2.below d7
 replace X3:=X3.below d4
 replace X3:=X3.below d5
 replace X3:=X3.below d6
 replace X3:=X3.below d7
 replace X4:=(d5.block _ (by omega)).trans X4
 replace X4:=(d6.block _ (by omega)).trans X4
 replace X4:=(d7.block _ (by omega)).trans X4
 replace X5:=X5.below d6
 replace X5:=X5.below d7
 replace X6:=(d7.block _ (by omega)).trans X6
 have hb7:Below w.heap.size w W7:=d1.trans ((d2.trans ((d3.trans ((d4.trans ((d5.trans ((d6.trans ((d7).mono (by omega))).mono (by omega))).mono (by omega))).mono (by omega))).mono (by omega))).mono (by omega))
 have hsz7:W7.heap.size=w.heap.size+1+1+1+1+1+1+1:=by omega
 have hrow:RowP W7 (fun b=>b<w.heap.size) (some ⟨W6.heap.size,0,none⟩) 3 [((.mk k1 n1 m1 b1 v1 ts1:Tm),Value.slice A1 L1 c1),((.mk k2 n2 m2 b2 v2 ts2:Tm),Value.slice A2 L2 c2),((.mk k3 n3 m3 b3 v3 ts3:Tm),Value.slice A3 L3 c3)]:=rowP_at X7 (by rw [←hnb1,←hmb1,←hnb2,←hmb2,←hnb3,←hmb3];rfl) rfl (mem3 (TAtP.below h1 hb7 (fun b hb=>hb)) (TAtP.below h2 hb7 (fun b hb=>hb)) (TAtP.below h3 hb7 (fun b hb=>hb)))
 have hck:=dcheck_any (w0:=w0) (c:=3) hrow (fun b hb=>Ql hb hb7.size) (by unfold maxArgs;omega) (Nat.le_refl _) (hU.below hb7)
 rw [s6,s5,s4,s3,s2,s1] at X7
 rw [s5,s4,s3,s2,s1] at X6
 rw [s4,s3,s2,s1] at X5
 rw [s3,s2,s1] at X4
 rw [s2,s1] at X3
 rw [s1] at X2
 rw [s6,s5,s4,s3,s2,s1] at hck
 obtain ⟨x0,x1,x2,x3,x4,x5⟩:=X1.cells hnb1 hmb1
 obtain ⟨y0,y1,y2,y3,y4,y5⟩:=X2.cells hnb2 hmb2
 obtain ⟨z0,z1,z2,z3,z4,z5⟩:=X3.cells hnb3 hmb3
 have HX:=Qh (Qa X1 (Qa X2 (Qa X3 (Qa X4 (Qa X5 X6)))))
 have HM:=Qh (Qa (Qa hnb1 hmb1) (Qa (Qa hnb2 hmb2) (Qa hnb3 hmb3)))
 have HT:=Qh (Qa h1 (Qa h2 h3))
 have HB:=Qh (Qa hb7 hsz7)
 have HC:=Qh hck
 have HU:=Qh hU
 have HWe:=Qh hW7
 subst hW1 hW2 hW3 hW4 hW5 hW6
 rw [←HWe.out] at x0 x1 x2 x3 x4 x5 y0 y1 y2 y3 y4 y5 z0 z1 z2 z3 z4 z5 HC
 clear h1 h2 h3 hU hck hrow hb7 hsz7 hW7 X1 X2 X3 X4 X5 X6 X7 s1 s2 s3 s4 s5 s6 s7 d1 d2 d3 d4 d5 d6 d7 hnb1 hmb1 hnb2 hmb2 hnb3 hmb3 hL1 hL2 hL3 hv1 hv2 hv3 hs1 hs2 hs3 hq1 hq2 hq3
 rw [show checksP ([((.mk k1 n1 m1 b1 v1 ts1:Tm),Value.slice A1 L1 c1),((.mk k2 n2 m2 b2 v2 ts2:Tm),Value.slice A2 L2 c2),((.mk k3 n3 m3 b3 v3 ts3:Tm),Value.slice A3 L3 c3)].map (·.1))=0 from hcs,errV,if_pos rfl] at HC
 clear hcs
 have hc2:(nx<0)∨(¬nx<0∧4611686018427387904<nx):=by omega
 clear hc
 go_enter_defers Tryd.func16,Tryd.ntmps16
 go_upto_region 4 with (go_at_call 27;(with_reducible refine HC.out.mono ?_);rintro e w8 ⟨rfl,hb8⟩;rw [HWe.out] at hb8;have HX8:=Qh (show TBox w8 (w.heap.size+1+1+1+1) zeroT (.slice none 0 0)∧w8.heap[w.heap.size+1+1+1+1+1]?=some (.cells #[.nilIface] 29 (0,0))∧Below w.heap.size w w8 from ⟨HX.out.2.2.2.2.1.below hb8,(hb8.block _ (Array.getElem?_eq_some_iff.1 HX.out.2.2.2.2.2).1).trans HX.out.2.2.2.2.2,Qt HB.out.1 hb8⟩);have HB8:=Qh hb8;have cN:=cell_of_one (show w8.heap[w.heap.size+1+1+1]?=some (.cells #[.int .i64 nx] 3 (0,0)) from (hb8.block _ (Array.getElem?_eq_some_iff.1 HX.out.2.2.2.1).1).trans HX.out.2.2.2.1);clear hb8)
 obtain ⟨a0,a1,a2,a3,a4,a5⟩:=HX8.out.1.cells rfl rfl
 obtain ⟨e0,e1,e2,e3,e4,e5⟩:=HX8.out.1.frozens
 have cE:=cell_of_one HX8.out.2.1
 have fE:=free_of_one HX8.out.2.1
 rcases hc2 with hn | ⟨hn,hn2⟩
 ·go_wp2
  obtain ⟨hbx,hgr⟩:=HX8.out.1.set6 (k:=0) (b:=0) (v:=0) (n:=[]) (m:=[]) (nb:=⟨#[]⟩) (mb:=⟨#[]⟩) [] (.slice none 0 0) rfl rfl
  generalize ((((((w8.setCell ⟨w.heap.size+1+1+1+1,0,none⟩ (.int .i64 0)).setCell ⟨w.heap.size+1+1+1+1,1,none⟩ (.string ⟨#[]⟩)).setCell ⟨w.heap.size+1+1+1+1,2,none⟩ (.string ⟨#[]⟩)).setCell ⟨w.heap.size+1+1+1+1,3,none⟩ (.int .u64 0)).setCell ⟨w.heap.size+1+1+1+1,4,none⟩ (.int .i64 0)).setCell ⟨w.heap.size+1+1+1+1,5,none⟩ (.slice none 0 0))=w9 at *
  have hE9:=blk_ne hgr HX8.out.2.1 (by omega)
  have hbx10:=hbx.far (p:=⟨w.heap.size+1+1+1+1+1,0,none⟩) (by show w.heap.size+1+1+1+1≠w.heap.size+1+1+1+1+1;omega) (.iface 32 (.int .i64 1))
  have hE10:=one_setCell (u:=.iface 32 (.int .i64 1)) hE9
  have hb10:Below w.heap.size w (w9.setCell ⟨w.heap.size+1+1+1+1+1,0,none⟩ (.iface 32 (.int .i64 1))):=(HX8.out.2.2.grown hgr HX8.out.2.2.size (Qg (by omega))).setCell (by show w.heap.size≤w.heap.size+1+1+1+1+1;omega) _
  generalize w9.setCell ⟨w.heap.size+1+1+1+1+1,0,none⟩ (.iface 32 (.int .i64 1))=w10 at *
  obtain ⟨r0,r1,r2,r3,r4,r5⟩:=hbx10.cells (nb:=⟨#[]⟩) (mb:=⟨#[]⟩) rfl rfl
  have cE10:=cell_of_one hE10
  simp only [bodyPostD,Leaves]
  exact ⟨.tuple #[zeroTV,.int .i64 0,.iface 32 (.int .i64 1)],by simp [results,Tryd.results16,go_sem,r0,r1,r2,r3,r4,r5,cE10,zeroTV],rfl,hb10⟩
 ·go_wp2
  obtain ⟨hbx,hgr⟩:=HX8.out.1.set6 (k:=0) (b:=0) (v:=0) (n:=[]) (m:=[]) (nb:=⟨#[]⟩) (mb:=⟨#[]⟩) [] (.slice none 0 0) rfl rfl
  generalize ((((((w8.setCell ⟨w.heap.size+1+1+1+1,0,none⟩ (.int .i64 0)).setCell ⟨w.heap.size+1+1+1+1,1,none⟩ (.string ⟨#[]⟩)).setCell ⟨w.heap.size+1+1+1+1,2,none⟩ (.string ⟨#[]⟩)).setCell ⟨w.heap.size+1+1+1+1,3,none⟩ (.int .u64 0)).setCell ⟨w.heap.size+1+1+1+1,4,none⟩ (.int .i64 0)).setCell ⟨w.heap.size+1+1+1+1,5,none⟩ (.slice none 0 0))=w9 at *
  have hE9:=blk_ne hgr HX8.out.2.1 (by omega)
  have hbx10:=hbx.far (p:=⟨w.heap.size+1+1+1+1+1,0,none⟩) (by show w.heap.size+1+1+1+1≠w.heap.size+1+1+1+1+1;omega) (.iface 32 (.int .i64 1))
  have hE10:=one_setCell (u:=.iface 32 (.int .i64 1)) hE9
  have hb10:Below w.heap.size w (w9.setCell ⟨w.heap.size+1+1+1+1+1,0,none⟩ (.iface 32 (.int .i64 1))):=(HX8.out.2.2.grown hgr HX8.out.2.2.size (Qg (by omega))).setCell (by show w.heap.size≤w.heap.size+1+1+1+1+1;omega) _
  generalize w9.setCell ⟨w.heap.size+1+1+1+1+1,0,none⟩ (.iface 32 (.int .i64 1))=w10 at *
  obtain ⟨r0,r1,r2,r3,r4,r5⟩:=hbx10.cells (nb:=⟨#[]⟩) (mb:=⟨#[]⟩) rfl rfl
  have cE10:=cell_of_one hE10
  simp only [bodyPostD,Leaves]
  exact ⟨.tuple #[zeroTV,.int .i64 0,.iface 32 (.int .i64 1)],by simp [results,Tryd.results16,go_sem,r0,r1,r2,r3,r4,r5,cE10,zeroTV],rfl,hb10⟩
theorem Body_main {w0 w:World} {t f d:Tm} {st sf sd:Value} {nx:Int} (h1:TAt w w.heap.size t st) (h2:TAt w w.heap.size f sf) (h3:TAt w w.heap.size d sd) (hU:UOk w0 w) (hcs:checksP [t,f,d]=0) (hc:0≤nx∧nx≤4611686018427387904):Calls Tryd.prog 16 #[valT t st,valT f sf,valT d sd,.int .i64 nx] w (BodyR w (bodyT t f d nx)):=by
 have hct:checkP t=0∧checkP f=0∧checkP d=0:=by
  have h9:=hcs
  unfold checksP checks at h9
  by_cases e1:check Lib.validD canonB floB t=0
  ·rw [if_neg (by simp [e1])] at h9
   unfold checks at h9
   by_cases e2:check Lib.validD canonB floB f=0
   ·rw [if_neg (by simp [e2])] at h9
    unfold checks at h9
    by_cases e3:check Lib.validD canonB floB d=0
    ·exact ⟨e1,e2,e3⟩
    ·rw [if_pos e3] at h9;exact absurd h9 e3
   ·rw [if_pos e2] at h9;exact absurd h9 e2
  ·rw [if_pos e1] at h9;exact absurd h9 e1
 obtain ⟨k1,n1,m1,b1,v1,ts1,nb1,mb1,A1,c1,hT1,rfl,hnb1,hmb1,hl1,hc1,hx1,hv1,hs1,hq1⟩:=h1.letters
 subst hT1
 obtain ⟨L1,hL1⟩:∃ L,ts1.length=L:=⟨_,rfl⟩
 rw [hv1]
 rw [hL1] at h1 hv1 ⊢
 obtain ⟨k2,n2,m2,b2,v2,ts2,nb2,mb2,A2,c2,hT2,rfl,hnb2,hmb2,hl2,hc2,hx2,hv2,hs2,hq2⟩:=h2.letters
 subst hT2
 obtain ⟨L2,hL2⟩:∃ L,ts2.length=L:=⟨_,rfl⟩
 rw [hv2]
 rw [hL2] at h2 hv2 ⊢
 obtain ⟨k3,n3,m3,b3,v3,ts3,nb3,mb3,A3,c3,hT3,rfl,hnb3,hmb3,hl3,hc3,hx3,hv3,hs3,hq3⟩:=h3.letters
 subst hT3
 obtain ⟨L3,hL3⟩:∃ L,ts3.length=L:=⟨_,rfl⟩
 rw [hv3]
 rw [hL3] at h3 hv3 ⊢
 obtain ⟨W1,hW1⟩:∃ W,w.alloc (.cells (Q5 k1 nb1 mb1 b1 v1 (.slice A1 L1 c1)) 25)=W:=⟨_,rfl⟩
 obtain ⟨W2,hW2⟩:∃ W,W1.alloc (.cells (Q5 k2 nb2 mb2 b2 v2 (.slice A2 L2 c2)) 25)=W:=⟨_,rfl⟩
 obtain ⟨W3,hW3⟩:∃ W,W2.alloc (.cells (Q5 k3 nb3 mb3 b3 v3 (.slice A3 L3 c3)) 25)=W:=⟨_,rfl⟩
 obtain ⟨W4,hW4⟩:∃ W,W3.alloc (.cells #[.int .i64 nx] 3)=W:=⟨_,rfl⟩
 obtain ⟨W5,hW5⟩:∃ W,W4.alloc (.cells Qz 25)=W:=⟨_,rfl⟩
 obtain ⟨W6,hW6⟩:∃ W,W5.alloc (.cells #[.nilIface] 29)=W:=⟨_,rfl⟩
 obtain ⟨W7,hW7⟩:∃ W,W6.alloc (.cells #[.int .i64 k1,.string nb1,.string mb1,.int .u64 b1,.int .i64 v1,.slice A1 L1 c1,.int .i64 k2,.string nb2,.string mb2,.int .u64 b2,.int .i64 v2,.slice A2 L2 c2,.int .i64 k3,.string nb3,.string mb3,.int .u64 b3,.int .i64 v3,.slice A3 L3 c3] 25)=W:=⟨_,rfl⟩
 have d1:Below w.heap.size w W1:=by rw [←hW1];exact Qb
 have s1:W1.heap.size=w.heap.size+1:=by rw [←hW1];simp
 have X1:TBox W1 w.heap.size (.mk k1 n1 m1 b1 v1 ts1) (.slice A1 L1 c1):=by rw [←hW1];exact TBox.new w hnb1 hmb1
 have d2:Below W1.heap.size W1 W2:=by rw [←hW2];exact Qb
 have s2:W2.heap.size=W1.heap.size+1:=by rw [←hW2];simp
 have X2:TBox W2 W1.heap.size (.mk k2 n2 m2 b2 v2 ts2) (.slice A2 L2 c2):=by rw [←hW2];exact TBox.new W1 hnb2 hmb2
 have d3:Below W2.heap.size W2 W3:=by rw [←hW3];exact Qb
 have s3:W3.heap.size=W2.heap.size+1:=by rw [←hW3];simp
 have X3:TBox W3 W2.heap.size (.mk k3 n3 m3 b3 v3 ts3) (.slice A3 L3 c3):=by rw [←hW3];exact TBox.new W2 hnb3 hmb3
 have d4:Below W3.heap.size W3 W4:=by rw [←hW4];exact Qb
 have s4:W4.heap.size=W3.heap.size+1:=by rw [←hW4];simp
 have X4:W4.heap[W3.heap.size]?=some (.cells #[.int .i64 nx] 3 (0,0)):=by rw [←hW4];exact heap_alloc_new W3 _
 have d5:Below W4.heap.size W4 W5:=by rw [←hW5];exact Qb
 have s5:W5.heap.size=W4.heap.size+1:=by rw [←hW5];simp
 have X5:TBox W5 W4.heap.size zeroT (.slice none 0 0):=by rw [←hW5];exact heap_alloc_new W4 _
 have d6:Below W5.heap.size W5 W6:=by rw [←hW6];exact Qb
 have s6:W6.heap.size=W5.heap.size+1:=by rw [←hW6];simp
 have X6:W6.heap[W5.heap.size]?=some (.cells #[.nilIface] 29 (0,0)):=by rw [←hW6];exact heap_alloc_new W5 _
 have d7:Below W6.heap.size W6 W7:=by rw [←hW7];exact Qb
 have s7:W7.heap.size=W6.heap.size+1:=by rw [←hW7];simp
 have X7:W7.heap[W6.heap.size]?=some (.cells #[.int .i64 k1,.string nb1,.string mb1,.int .u64 b1,.int .i64 v1,.slice A1 L1 c1,.int .i64 k2,.string nb2,.string mb2,.int .u64 b2,.int .i64 v2,.slice A2 L2 c2,.int .i64 k3,.string nb3,.string mb3,.int .u64 b3,.int .i64 v3,.slice A3 L3 c3] 25 (0,0)):=by rw [←hW7];exact heap_alloc_new W6 _
 replace X1:=X1.below d2
 replace X1:=X1.below d3
 replace X1:=X1.below d4
 replace X1:=X1.below d5
 replace X1:=X1.below d6
 replace X1:=X1.below d7
 replace X2:=X2.below d3
 replace X2:=X2.below d4
 replace X2:=X2.below d5
 replace X2:=X2.below d6
 replace X2:=X2.below d7
 replace X3:=X3.below d4
 replace X3:=X3.below d5
 replace X3:=X3.below d6
 replace X3:=X3.below d7
 replace X4:=(d5.block _ (by omega)).trans X4
 replace X4:=(d6.block _ (by omega)).trans X4
 replace X4:=(d7.block _ (by omega)).trans X4
 replace X5:=X5.below d6
 replace X5:=X5.below d7
 replace X6:=(d7.block _ (by omega)).trans X6
 have hb7:Below w.heap.size w W7:=d1.trans ((d2.trans ((d3.trans ((d4.trans ((d5.trans ((d6.trans ((d7).mono (by omega))).mono (by omega))).mono (by omega))).mono (by omega))).mono (by omega))).mono (by omega))
 have hsz7:W7.heap.size=w.heap.size+1+1+1+1+1+1+1:=by omega
 have hrow:RowP W7 (fun b=>b<w.heap.size) (some ⟨W6.heap.size,0,none⟩) 3 [((.mk k1 n1 m1 b1 v1 ts1:Tm),Value.slice A1 L1 c1),((.mk k2 n2 m2 b2 v2 ts2:Tm),Value.slice A2 L2 c2),((.mk k3 n3 m3 b3 v3 ts3:Tm),Value.slice A3 L3 c3)]:=rowP_at X7 (by rw [←hnb1,←hmb1,←hnb2,←hmb2,←hnb3,←hmb3];rfl) rfl (mem3 (TAtP.below h1 hb7 (fun b hb=>hb)) (TAtP.below h2 hb7 (fun b hb=>hb)) (TAtP.below h3 hb7 (fun b hb=>hb)))
 have hck:=dcheck_any (w0:=w0) (c:=3) hrow (fun b hb=>Ql hb hb7.size) (by unfold maxArgs;omega) (Nat.le_refl _) (hU.below hb7)
 rw [s6,s5,s4,s3,s2,s1] at X7
 rw [s5,s4,s3,s2,s1] at X6
 rw [s4,s3,s2,s1] at X5
 rw [s3,s2,s1] at X4
 rw [s2,s1] at X3
 rw [s1] at X2
 rw [s6,s5,s4,s3,s2,s1] at hck
 obtain ⟨x0,x1,x2,x3,x4,x5⟩:=X1.cells hnb1 hmb1
 obtain ⟨y0,y1,y2,y3,y4,y5⟩:=X2.cells hnb2 hmb2
 obtain ⟨z0,z1,z2,z3,z4,z5⟩:=X3.cells hnb3 hmb3
 have HX:=Qh (Qa X1 (Qa X2 (Qa X3 (Qa X4 (Qa X5 X6)))))
 have HM:=Qh (Qa (Qa hnb1 hmb1) (Qa (Qa hnb2 hmb2) (Qa hnb3 hmb3)))
 have HT:=Qh (Qa h1 (Qa h2 h3))
 have HB:=Qh (Qa hb7 hsz7)
 have HC:=Qh hck
 have HU:=Qh hU
 have HWe:=Qh hW7
 subst hW1 hW2 hW3 hW4 hW5 hW6
 rw [←HWe.out] at x0 x1 x2 x3 x4 x5 y0 y1 y2 y3 y4 y5 z0 z1 z2 z3 z4 z5 HC
 clear h1 h2 h3 hU hck hrow hb7 hsz7 hW7 X1 X2 X3 X4 X5 X6 X7 s1 s2 s3 s4 s5 s6 s7 d1 d2 d3 d4 d5 d6 d7 hnb1 hmb1 hnb2 hmb2 hnb3 hmb3 hL1 hL2 hL3 hv1 hv2 hv3 hs1 hs2 hs3 hq1 hq2 hq3
 rw [show checksP ([((.mk k1 n1 m1 b1 v1 ts1:Tm),Value.slice A1 L1 c1),((.mk k2 n2 m2 b2 v2 ts2:Tm),Value.slice A2 L2 c2),((.mk k3 n3 m3 b3 v3 ts3:Tm),Value.slice A3 L3 c3)].map (·.1))=0 from hcs,errV,if_pos rfl] at HC
 have HCk:=Qh (Qa hct hc)
 clear hcs hct
 obtain ⟨hc1,hc2⟩:=hc
 have hc3:¬nx<0:=by omega
 have hc4:¬4611686018427387904<nx:=by omega
 obtain ⟨RR,hRR⟩:∃ RR,bodyT (.mk k1 n1 m1 b1 v1 ts1) (.mk k2 n2 m2 b2 v2 ts2) (.mk k3 n3 m3 b3 v3 ts3) nx=RR:=⟨_,rfl⟩
 obtain ⟨RM,hRM⟩:∃ RM,mkB (.mk k1 n1 m1 b1 v1 ts1) (.mk k2 n2 m2 b2 v2 ts2) (.mk k3 n3 m3 b3 v3 ts3) nx=RM:=⟨_,rfl⟩
 rw [hRR]
 have HRR:=Qh (Qa hRR hRM)
 clear hRR hRM
 go_enter_defers Tryd.func16,Tryd.ntmps16
 go_upto_region 7 with (go_at_call 27;(with_reducible refine HC.out.mono ?_);rintro e w8 ⟨rfl,hb8⟩;rw [HWe.out] at hb8;have HX8:=Qh (show TBox w8 (w.heap.size+1+1+1+1) zeroT (.slice none 0 0)∧w8.heap[w.heap.size+1+1+1+1+1]?=some (.cells #[.nilIface] 29 (0,0))∧Below w.heap.size w w8 from ⟨HX.out.2.2.2.2.1.below hb8,(hb8.block _ (Array.getElem?_eq_some_iff.1 HX.out.2.2.2.2.2).1).trans HX.out.2.2.2.2.2,Qt HB.out.1 hb8⟩);have HB8:=Qh hb8;have cN:=cell_of_one (show w8.heap[w.heap.size+1+1+1]?=some (.cells #[.int .i64 nx] 3 (0,0)) from (hb8.block _ (Array.getElem?_eq_some_iff.1 HX.out.2.2.2.1).1).trans HX.out.2.2.2.1);clear hb8)
 clear x0 x1 x2 x3 x4 x5 y0 y1 y2 y3 y4 y5 z0 z1 z2 z3 z4 z5 cN
 have HSS:=Qh (show ∀ z,w8.grownBy z (some (w.heap.size+1+1+1))→((Q6 z (w.heap.size) k1 nb1 mb1 b1 v1 (.slice A1 L1 c1))∧(Q6 z (w.heap.size+1) k2 nb2 mb2 b2 v2 (.slice A2 L2 c2))∧(Q6 z (w.heap.size+1+1) k3 nb3 mb3 b3 v3 (.slice A3 L3 c3))) from fun z hb=>⟨((HX.out.1.below HB8.out).gro hb (by omega)).cells HM.out.1.1 HM.out.1.2,((HX.out.2.1.below HB8.out).gro hb (by omega)).cells HM.out.2.1.1 HM.out.2.1.2,((HX.out.2.2.1.below HB8.out).gro hb (by omega)).cells HM.out.2.2.1 HM.out.2.2.2⟩)
 have h8z:=HB8.out.size
 have h7z:=HB.out.2
 obtain ⟨G,hG⟩:∃ G,w.heap.size=G:=⟨_,rfl⟩
 have HG:=Qh hG
 have HN8:=Qh (show w8.heap[w.heap.size+1+1+1]?=some (.cells #[.int .i64 nx] 3 (0,0)) from (HB8.out.block _ (Array.getElem?_eq_some_iff.1 HX.out.2.2.2.1).1).trans HX.out.2.2.2.1)
 have HZ:=Qh (show G+1+1+1+1+1+1+1≤w8.heap.size by omega)
 clear h8z h7z hG
 refine wp_region_wait (fun z=>((Q6 z (w.heap.size) k1 nb1 mb1 b1 v1 (.slice A1 L1 c1))∧(Q6 z (w.heap.size+1) k2 nb2 mb2 b2 v2 (.slice A2 L2 c2))∧(Q6 z (w.heap.size+1+1) k3 nb3 mb3 b3 v3 (.slice A3 L3 c3)))) 6 (by kernel_rfl) ?_
 change wpAnyW _ _ _ _ _ _ _ _ _ w8.drew
 have KK:=Qh (below_drew' w8)
 generalize w8.drew=u0 at *
 refine wpAnyW_take 6 (i:=0) (v:=.agg (Q5 k1 nb1 mb1 b1 v1 (.slice A1 L1 c1))) rfl (by kernel_rfl) (by kernel_rfl) (by kernel_rfl) (by kernel_rfl) (fun c a w h=>hqBody (by omega) c a w h) (Or.inl ⟨by rfl,?_⟩) (HSS.out _ (grown_below KK.out)) ?_
 ·intro w5 hSw
  obtain ⟨⟨p0,p1,p2,p3,p4,p5⟩,⟨q0,q1,q2,q3,q4,q5⟩,⟨r0,r1,r2,r3,r4,r5⟩⟩:=hSw
  go_simp
 refine wpAnyW_take 6 (i:=1) (v:=.agg (Q5 k2 nb2 mb2 b2 v2 (.slice A2 L2 c2))) rfl (by kernel_rfl) (by kernel_rfl) (by kernel_rfl) (by kernel_rfl) (fun c a w h=>hqBody (by omega) c a w h) (Or.inl ⟨by rfl,?_⟩) (HSS.out _ (grown_below KK.out)) ?_
 ·intro w5 hSw
  obtain ⟨⟨p0,p1,p2,p3,p4,p5⟩,⟨q0,q1,q2,q3,q4,q5⟩,⟨r0,r1,r2,r3,r4,r5⟩⟩:=hSw
  go_simp
 refine wpAnyW_take 6 (i:=2) (v:=.agg (Q5 k3 nb3 mb3 b3 v3 (.slice A3 L3 c3))) rfl (by kernel_rfl) (by kernel_rfl) (by kernel_rfl) (by kernel_rfl) (fun c a w h=>hqBody (by omega) c a w h) (Or.inl ⟨by rfl,?_⟩) (HSS.out _ (grown_below KK.out)) ?_
 ·intro w5 hSw
  obtain ⟨⟨p0,p1,p2,p3,p4,p5⟩,⟨q0,q1,q2,q3,q4,q5⟩,⟨r0,r1,r2,r3,r4,r5⟩⟩:=hSw
  go_simp
 have HFm:=Qh (from_any (w:=u0) (N:=w.heap.size+1+1+1) (x:=nx) ((KK.out.block _ (Array.getElem?_eq_some_iff.1 HN8.out).1).trans HN8.out))
 rw [show freshV u0.heap.size = .func (.func 60) #[] #[.pointer (some ⟨u0.heap.size,0,none⟩)] from rfl] at HFm
 refine w1 3 fun K hK=>?_
 go_simp
 (with_reducible refine HFm.out.mono ?_)
 rintro e u1 ⟨rfl,hn1,hb1⟩
 have HN1:=Qh hn1
 have hq0:=KK.out.size
 have HQ0:=Qh hq0
 replace KK:=Qh (Qt KK.out hb1)
 clear hn1 hb1 hq0 HFm
 refine hK.out _ _ (fun _=>HSS.out _ (grown_below KK.out)) ?_
 generalize u0.heap.size=Q at *
 have hw1:=Qt HX8.out.2.2 KK.out
 have HBo:=Qh (body_any w0 (.mk k1 n1 m1 b1 v1 ts1) u1 (fun b=>b<w.heap.size) (.mk k2 n2 m2 b2 v2 ts2) (.mk k3 n3 m3 b3 v3 ts3) (.slice A1 L1 c1) (.slice A2 L2 c2) (.slice A3 L3 c3) Q (w.heap.size+1+1+1) nx (fun b hb=>⟨Ql hb hw1.size,by omega⟩) (TAtP.below HT.out.1 hw1 (fun b hb=>hb)) (TAtP.below HT.out.2.1 hw1 (fun b hb=>hb)) (TAtP.below HT.out.2.2 hw1 (fun b hb=>hb)) HN1.out HCk.out.2.1 (by have:=(check_iff.1 HCk.out.1.1).1;have:=HCk.out.2.2;omega) HCk.out.1.1 (HU.out.below hw1) (by have:=HU.out.bel.size;omega))
 rw [HRR.out.2,valT_mk HM.out.1.1 HM.out.1.2,valT_mk HM.out.2.1.1 HM.out.2.1.2,valT_mk HM.out.2.2.1 HM.out.2.2.2,show freshV Q = .func (.func 60) #[] #[.pointer (some ⟨Q,0,none⟩)] from rfl] at HBo
 have HW1:=Qh hw1
 clear hw1
 refine w1 4 fun K hK=>?_
 go_simp
 cases RM with
 | error bt=>
  (with_reducible refine HBo.out.mono ?_)
  rintro e u2 hp
  obtain ⟨hg,bb,rfl,hball⟩:=hp.bad
  have hRE:=HRR.out.1
  rw [bodyT_bad HRR.out.2] at hRE
  subst hRE
  have hgU:=grown_trans (grown_below (r:=some (w.heap.size+1+1+1)) KK.out) hg
  have hsU:=hgU.size
  have hE:=blk_ne hgU HX8.out.2.1 (by omega)
  have hRb:=HX8.out.1.gro hgU (by omega)
  have hbx:=hRb.far (p:=⟨w.heap.size+1+1+1+1+1,0,none⟩) (by show w.heap.size+1+1+1+1≠w.heap.size+1+1+1+1+1;omega) (.iface 82 (.pointer (some ⟨bb,0,none⟩)))
  have hE2:=one_setCell (u:=.iface 82 (.pointer (some ⟨bb,0,none⟩))) hE
  have hbl:=BallAt.caught hball hE (.iface 82 (.pointer (some ⟨bb,0,none⟩)))
  have hbw:Below w.heap.size w (u2.setCell ⟨w.heap.size+1+1+1+1+1,0,none⟩ (.iface 82 (.pointer (some ⟨bb,0,none⟩)))):=(HW1.out.grown hg HW1.out.size (Qg (by omega))).setCell (by show w.heap.size≤w.heap.size+1+1+1+1+1;omega) _
  change Leaves _ _ _ _ _ (.panicking _) _
  refine leaves_cons (f:=29) (args:=#[.pointer (some ⟨w.heap.size+1+1+1+1+1,0,none⟩)]) (by simp) (by simp [go_sem]) ?_
  refine (caught_throws (w.heap.size+1+1+1+1+1) bb [] u2 (cell_of_one hE) (free_of_one hE)).mono ?_
  rintro e u' w'' ⟨rfl,rfl,rfl⟩
  obtain ⟨r0,r1,r2,r3,r4,r5⟩:=hbx.cells (nb:=⟨#[]⟩) (mb:=⟨#[]⟩) rfl rfl
  have cE2:=cell_of_one hE2
  simp only [settle,Leaves,List.dropWhile]
  exact ⟨.tuple #[zeroTV,.int .i64 0,.iface 82 (.pointer (some ⟨bb,0,none⟩))],by simp [results,Tryd.results16,go_sem,r0,r1,r2,r3,r4,r5,cE2,zeroTV],BodyR.mkBad hbw rfl hbl⟩
 | ok p=>
  obtain ⟨a,n'⟩:=p
  obtain ⟨k5,n5,m5,b5,v5,ts5⟩:=a
  obtain ⟨nb5,hnb5⟩:∃ nb:ByteArray,(⟨n5.toArray⟩:ByteArray)=nb:=⟨_,rfl⟩
  obtain ⟨mb5,hmb5⟩:∃ mb:ByteArray,(⟨m5.toArray⟩:ByteArray)=mb:=⟨_,rfl⟩
  obtain ⟨L5,hL5⟩:∃ L,ts5.length=L:=⟨_,rfl⟩
  have HL5:=Qh (Qa hnb5 (Qa hmb5 hL5))
  clear hnb5 hmb5 hL5
  have HEr:=Qh (show errsP (.mk k5 n5 m5 b5 v5 ts5)=0 from (mkB_mk _ _ _ _ _ _ HRR.out.2).errs names_ok HCk.out.2.1 (check_iff.1 HCk.out.1.1).2 (check_iff.1 HCk.out.1.2.1).2 (check_iff.1 HCk.out.1.2.2).2)
  (with_reducible refine HBo.out.mono ?_)
  rintro e u2 hp
  obtain ⟨A5,c5,rfl,hta,hnu,hg⟩:=hp.letters HL5.out.1 HL5.out.2.1 HL5.out.2.2
  have HGU:=Qh (grown_trans (grown_below (r:=some (w.heap.size+1+1+1)) KK.out) hg)
  have HBU:=Qh (show Below w.heap.size w u2 from HW1.out.grown hg HW1.out.size (Qg (by omega)))
  have HT5:=Qh (show TAt u2 u2.heap.size (.mk k5 n5 m5 b5 v5 ts5) (.slice A5 L5 c5) from hta.wide (fun b hb=>Grow.lt (fun b hb=>Ql hb HW1.out.size) hg.size b hb))
  have HN2:=Qh hnu
  clear hta hnu hg hp
  refine hK.out _ _ (fun _=>HSS.out _ HGU.out) ?_
  refine w1 5 fun K hK=>?_
  go_simp
  by_cases hz:4000<nodes (.mk k5 n5 m5 b5 v5 ts5)
  ·have hRE:=HRR.out.1
   rw [bodyT_big HRR.out.2 hz] at hRE
   subst hRE
   have hwb:=whole_big HT5.out hz
   rw [valT_mk HL5.out.1 HL5.out.2.1] at hwb
   (with_reducible refine hwb.mono ?_)
   rintro e u3 ⟨⟨bb,rfl,hball⟩,hb3⟩
   have hgU:=grown_trans HGU.out (grown_below hb3)
   have hsU:=hgU.size
   have hE:=blk_ne hgU HX8.out.2.1 (by omega)
   have hRb:=HX8.out.1.gro hgU (by omega)
   have hbx:=hRb.far (p:=⟨w.heap.size+1+1+1+1+1,0,none⟩) (by show w.heap.size+1+1+1+1≠w.heap.size+1+1+1+1+1;omega) (.iface 82 (.pointer (some ⟨bb,0,none⟩)))
   have hE2:=one_setCell (u:=.iface 82 (.pointer (some ⟨bb,0,none⟩))) hE
   have hbl:=BallAt.caught hball hE (.iface 82 (.pointer (some ⟨bb,0,none⟩)))
   have hbw:Below w.heap.size w (u3.setCell ⟨w.heap.size+1+1+1+1+1,0,none⟩ (.iface 82 (.pointer (some ⟨bb,0,none⟩)))):=(Qt HBU.out hb3).setCell (by show w.heap.size≤w.heap.size+1+1+1+1+1;omega) _
   change Leaves _ _ _ _ _ (.panicking _) _
   refine leaves_cons (f:=29) (args:=#[.pointer (some ⟨w.heap.size+1+1+1+1+1,0,none⟩)]) (by simp) (by simp [go_sem]) ?_
   refine (caught_throws (w.heap.size+1+1+1+1+1) bb [] u3 (cell_of_one hE) (free_of_one hE)).mono ?_
   rintro e u' w'' ⟨rfl,rfl,rfl⟩
   obtain ⟨r0,r1,r2,r3,r4,r5⟩:=hbx.cells (nb:=⟨#[]⟩) (mb:=⟨#[]⟩) rfl rfl
   have cE2:=cell_of_one hE2
   simp only [settle,Leaves,List.dropWhile]
   exact ⟨.tuple #[zeroTV,.int .i64 0,.iface 82 (.pointer (some ⟨bb,0,none⟩))],by simp [results,Tryd.results16,go_sem,r0,r1,r2,r3,r4,r5,cE2,zeroTV],BodyR.mkBad hbw rfl hbl⟩
  ·have hRE:=HRR.out.1
   rw [bodyT_fit HRR.out.2 hz] at hRE
   subst hRE
   have hwf:=own_letters HL5.out.1 HL5.out.2.1 HL5.out.2.2 (whole_fit HT5.out (bare_errs _ HEr.out) hz)
   rw [valT_mk HL5.out.1 HL5.out.2.1] at hwf
   clear hz
   (with_reducible refine hwf.mono ?_)
   rintro e u3 ⟨A6,c6,rfl,ho3,hb3⟩
   have HG3:=Qh (grown_trans HGU.out (grown_below hb3))
   have HO3:=Qh (Qa ho3 (Qa (Qt HBU.out hb3) (HN2.out.below hb3)))
   have HR3:=Qh (show TBox u3 (w.heap.size+1+1+1+1) zeroT (.slice none 0 0)∧u3.heap[w.heap.size+1+1+1+1+1]?=some (.cells #[.nilIface] 29 (0,0)) from ⟨HX8.out.1.gro HG3.out (by omega),blk_ne HG3.out HX8.out.2.1 (by omega)⟩)
   have HZ3:=Qh (show w8.heap.size≤u2.heap.size∧u2.heap.size≤u3.heap.size from ⟨HGU.out.size,hb3.size⟩)
   clear ho3 hb3 hwf
   refine hK.out _ _ (fun _=>HSS.out _ HG3.out) ?_
   refine w1 6 fun K hK=>?_
   obtain ⟨a0,a1,a2,a3,a4,a5⟩:=HR3.out.1.cells rfl rfl
   obtain ⟨e0,e1,e2,e3,e4,e5⟩:=HR3.out.1.frozens
   go_simp
   refine hK.out _ _ (fun h=>absurd h (by simp)) ?_
   refine wpAnyW_done (by kernel_rfl) ?_ _
   clear a0 a1 a2 a3 a4 a5 e0 e1 e2 e3 e4 e5
   obtain ⟨hbx,hgr⟩:=HR3.out.1.set6 (k:=k5) (b:=b5) (v:=v5) (n:=n5) (m:=m5) ts5 (.slice A6 L5 c6) HL5.out.1 HL5.out.2.1
   generalize ((((((u3.setCell ⟨w.heap.size+1+1+1+1,0,none⟩ (.int .i64 k5)).setCell ⟨w.heap.size+1+1+1+1,1,none⟩ (.string nb5)).setCell ⟨w.heap.size+1+1+1+1,2,none⟩ (.string mb5)).setCell ⟨w.heap.size+1+1+1+1,3,none⟩ (.int .u64 b5)).setCell ⟨w.heap.size+1+1+1+1,4,none⟩ (.int .i64 v5)).setCell ⟨w.heap.size+1+1+1+1,5,none⟩ (.slice A6 L5 c6))=u4 at *
   have h38:=HZ3.out
   have hz8:=HZ.out
   have hgg:=HG.out
   have HO4:=Qh (show TOwn u4 (.mk k5 n5 m5 b5 v5 ts5) (.slice A6 L5 c6) w8.heap.size u4.heap.size∧Below w.heap.size w u4∧u4.heap[w.heap.size+1+1+1]?=some (.cells #[.int .i64 n'] 3 (0,0))∧u4.heap[w.heap.size+1+1+1+1+1]?=some (.cells #[.nilIface] 29 (0,0)) from
    ⟨((TOwn.keep _ HO3.out.1 (fun b h1 h2=>hgr.block b h2 (fun e=>by injection e with e;omega))).widen hgr.size).lower (by omega),HO3.out.2.1.grown hgr HO3.out.2.1.size (Qg (by omega)),blk_ne hgr HO3.out.2.2.n (by omega),blk_ne hgr HR3.out.2 (by omega)⟩)
   have HX4:=Qh hbx
   clear hgr h38 hz8 hgg hbx
   go_upto_region 8 with fail
   have HS8:=Qh (show ∀ z,TBox z (w.heap.size+1+1+1+1) (.mk k5 n5 m5 b5 v5 ts5) (.slice A6 L5 c6)→z.heap[w.heap.size+1+1+1]?=some (.cells #[.int .i64 n'] 3 (0,0))→((Q6 z (w.heap.size+1+1+1+1) k5 nb5 mb5 b5 v5 (.slice A6 L5 c6))∧z.cell? ⟨w.heap.size+1+1+1,0,none⟩=some (.int .i64 n')) from fun z h1 h2=>⟨h1.cells HL5.out.1 HL5.out.2.1,cell_of_one h2⟩)
   refine wp_region_wait (fun z=>((Q6 z (w.heap.size+1+1+1+1) k5 nb5 mb5 b5 v5 (.slice A6 L5 c6))∧z.cell? ⟨w.heap.size+1+1+1,0,none⟩=some (.int .i64 n'))) 3 (by kernel_rfl) ?_
   change wpAnyW _ _ _ _ _ _ _ _ _ u4.drew
   have HX5:=Qh (show TBox u4.drew (w.heap.size+1+1+1+1) (.mk k5 n5 m5 b5 v5 ts5) (.slice A6 L5 c6) from HX4.out)
   have HO5:=Qh (show TOwn u4.drew (.mk k5 n5 m5 b5 v5 ts5) (.slice A6 L5 c6) w8.heap.size u4.drew.heap.size∧Below w.heap.size w u4.drew∧u4.drew.heap[w.heap.size+1+1+1]?=some (.cells #[.int .i64 n'] 3 (0,0))∧u4.drew.heap[w.heap.size+1+1+1+1+1]?=some (.cells #[.nilIface] 29 (0,0)) from ⟨TOwn.keep _ HO4.out.1 (fun b _ _=>rfl),HO4.out.2.1.drew,HO4.out.2.2.1,HO4.out.2.2.2⟩)
   generalize u4.drew=v4 at *
   refine wpAnyW_take 2 (i:=0) (v:=.agg (Q5 k5 nb5 mb5 b5 v5 (.slice A6 L5 c6))) rfl (by kernel_rfl) (by kernel_rfl) (by kernel_rfl) (by kernel_rfl) (fun c a w h=>hqBody (by omega) c a w h) (Or.inl ⟨by rfl,?_⟩) (HS8.out _ HX5.out HO5.out.2.2.1) ?_
   ·intro w5 hSw
    obtain ⟨⟨p0,p1,p2,p3,p4,p5⟩,s2⟩:=hSw
    go_simp
   refine wpAnyW_take 3 (i:=1) (v:=.int .i64 n') rfl (by kernel_rfl) (by kernel_rfl) (by kernel_rfl) (by kernel_rfl) (fun c a w h=>hqBody (by omega) c a w h) (Or.inl ⟨by rfl,?_⟩) (HS8.out _ HX5.out HO5.out.2.2.1) ?_
   ·intro w5 hSw
    obtain ⟨⟨p0,p1,p2,p3,p4,p5⟩,s2⟩:=hSw
    go_simp
   refine w1 2 fun K hK=>?_
   obtain ⟨a0,a1,a2,a3,a4,a5⟩:=HX5.out.cells HL5.out.1 HL5.out.2.1
   obtain ⟨e0,e1,e2,e3,e4,e5⟩:=HX5.out.frozens
   go_simp
   clear a0 a1 a2 a3 a4 a5 e0 e1 e2 e3 e4 e5
   obtain ⟨hbx,hgr⟩:=HX5.out.set6 (k:=k5) (b:=b5) (v:=v5) (n:=n5) (m:=m5) ts5 (.slice A6 L5 c6) HL5.out.1 HL5.out.2.1
   have h9s:∀ z,((((((v4.setCell ⟨w.heap.size+1+1+1+1,0,none⟩ (.int .i64 k5)).setCell ⟨w.heap.size+1+1+1+1,1,none⟩ (.string nb5)).setCell ⟨w.heap.size+1+1+1+1,2,none⟩ (.string mb5)).setCell ⟨w.heap.size+1+1+1+1,3,none⟩ (.int .u64 b5)).setCell ⟨w.heap.size+1+1+1+1,4,none⟩ (.int .i64 v5)).setCell ⟨w.heap.size+1+1+1+1,5,none⟩ (.slice A6 L5 c6))=z→TBox z (w.heap.size+1+1+1+1) (.mk k5 n5 m5 b5 v5 ts5) (.slice A6 L5 c6)∧v4.grownBy z (some (w.heap.size+1+1+1+1)):=fun z e=>by rw [←e];exact ⟨hbx,hgr⟩
   clear hbx hgr
   have HO6:=Qh (show ∀ z,((((((v4.setCell ⟨w.heap.size+1+1+1+1,0,none⟩ (.int .i64 k5)).setCell ⟨w.heap.size+1+1+1+1,1,none⟩ (.string nb5)).setCell ⟨w.heap.size+1+1+1+1,2,none⟩ (.string mb5)).setCell ⟨w.heap.size+1+1+1+1,3,none⟩ (.int .u64 b5)).setCell ⟨w.heap.size+1+1+1+1,4,none⟩ (.int .i64 v5)).setCell ⟨w.heap.size+1+1+1+1,5,none⟩ (.slice A6 L5 c6))=z→TBox z (w.heap.size+1+1+1+1) (.mk k5 n5 m5 b5 v5 ts5) (.slice A6 L5 c6)∧TOwn z (.mk k5 n5 m5 b5 v5 ts5) (.slice A6 L5 c6) w8.heap.size z.heap.size∧Below w.heap.size w z∧z.heap[w.heap.size+1+1+1]?=some (.cells #[.int .i64 n'] 3 (0,0))∧z.heap[w.heap.size+1+1+1+1+1]?=some (.cells #[.nilIface] 29 (0,0)) from fun z e=>by
    obtain ⟨h1,h2⟩:=h9s z e
    have hz8:=HZ.out
    have hgg:=HG.out
    exact ⟨h1,(TOwn.keep _ HO5.out.1 (fun b h3 h4=>h2.block b h4 (fun e=>by injection e with e;omega))).widen h2.size,HO5.out.2.1.grown h2 HO5.out.2.1.size (Qg (by omega)),blk_ne h2 HO5.out.2.2.1 (by omega),blk_ne h2 HO5.out.2.2.2 (by omega)⟩)
   clear h9s
   refine hK.out _ _ (fun _=>HS8.out _ (HO6.out _ rfl).1 (HO6.out _ rfl).2.2.2.1) ?_
   have H6:=Qh (HO6.out _ rfl)
   clear HO6
   generalize ((((((v4.setCell ⟨w.heap.size+1+1+1+1,0,none⟩ (.int .i64 k5)).setCell ⟨w.heap.size+1+1+1+1,1,none⟩ (.string nb5)).setCell ⟨w.heap.size+1+1+1+1,2,none⟩ (.string mb5)).setCell ⟨w.heap.size+1+1+1+1,3,none⟩ (.int .u64 b5)).setCell ⟨w.heap.size+1+1+1+1,4,none⟩ (.int .i64 v5)).setCell ⟨w.heap.size+1+1+1+1,5,none⟩ (.slice A6 L5 c6))=v5w at *
   refine w1 3 fun K hK=>?_
   go_simp
   refine hK.out _ _ (fun h=>absurd h (by simp)) ?_
   refine w1 4 fun K hK=>?_
   have cE:=cell_of_one H6.out.2.2.2.2
   have fE:=free_of_one H6.out.2.2.2.2
   go_simp
   refine hK.out _ _ (fun h=>absurd h (by simp)) ?_
   refine wpAnyW_done (by kernel_rfl) ?_ _
   clear cE fE
   go_wp2
   have hz8:=HZ.out
   have hgg:=HG.out
   have hbx:=H6.out.1.far (p:=⟨w.heap.size+1+1+1+1+1,0,none⟩) (by show w.heap.size+1+1+1+1≠w.heap.size+1+1+1+1+1;omega) .nilIface
   have hE2:=one_setCell (u:=.nilIface) H6.out.2.2.2.2
   have how:TOwn (v5w.setCell ⟨w.heap.size+1+1+1+1+1,0,none⟩ .nilIface) (.mk k5 n5 m5 b5 v5 ts5) (.slice A6 L5 c6) w.heap.size (v5w.setCell ⟨w.heap.size+1+1+1+1+1,0,none⟩ .nilIface).heap.size:=((TOwn.keep _ H6.out.2.1 (fun b h3 h4=>Below.heap_setCell _ _ _ b (by show b≠w.heap.size+1+1+1+1+1;omega))).widen (by simp [World.setCell])).lower (by omega)
   have hbw:Below w.heap.size w (v5w.setCell ⟨w.heap.size+1+1+1+1+1,0,none⟩ .nilIface):=H6.out.2.2.1.setCell (by show w.heap.size≤w.heap.size+1+1+1+1+1;omega) _
   generalize v5w.setCell ⟨w.heap.size+1+1+1+1+1,0,none⟩ .nilIface=v6w at *
   change Leaves _ _ _ _ _ .returning _
   refine leaves_cons (f:=29) (args:=#[.pointer (some ⟨w.heap.size+1+1+1+1+1,0,none⟩)]) (by simp) (by simp [go_sem]) ?_
   refine (caught_idle (w.heap.size+1+1+1+1+1) v6w).mono ?_
   rintro e u' w'' ⟨rfl,rfl,rfl⟩
   obtain ⟨r0,r1,r2,r3,r4,r5⟩:=hbx.cells HL5.out.1 HL5.out.2.1
   have cE2:=cell_of_one hE2
   simp only [settle,Leaves]
   exact ⟨.tuple #[.agg (Q5 k5 nb5 mb5 b5 v5 (.slice A6 L5 c6)),.int .i64 n',.nilIface],by simp [results,Tryd.results16,go_sem,r0,r1,r2,r3,r4,r5,cE2],BodyR.mkOk hbw (by rw [valT_mk HL5.out.1 HL5.out.2.1]) how⟩
def zs (l:List Int):List Value:=l.map fun x:Int=>Value.int .i64 x
theorem zs_length (l:List Int):(zs l).length=l.length:=by simp [zs]
theorem zs_get {l:List Int} {i:Nat} {y:Int} (h:l[i]?=some y):(zs l)[i]?=some (.int .i64 y):=by simp [zs,h]
theorem zs_ne {l:List Int} {i:Nat} {y:Int} (h:l[i]?=some y):zs l ≠ []:=by
 intro e
 have:=zs_get h
 rw [e] at this
 simp at this
theorem Own.zlen {w:World} {B n c:Nat} {A:Option Addr} {l:List Int} (h:Own 3 w B A n c (zs l)):l.length=n:=by rw [←zs_length];exact Own.length h
def BigN:Nat:=1000000000000
theorem In_any {w:World} {A:Option Addr} {n c:Nat} {l:List Int} (hl:l.length=n) (hn:n≤BigN) (hr:Rd w w.heap.size A (zs l)) (x:Int) :
  Calls Tryd.prog 24 #[.slice A n c,.int .i64 x] w fun e w'=>e = .returned (.bool (decide (x∈l)))∧w=w':=by
 obtain ⟨R,hR⟩:∃ R,decide (x∈l)=R:=⟨_,rfl⟩
 rw [hR]
 have HR:=Qh (Qa hl (Qa hr hR))
 have hnI:(n:Int)≤1000000000000:=by unfold BigN at hn;omega
 clear hl hr hR
 go_enter Tryd.func24,Tryd.ntmps24
 go_upto_region 2 with fail
 go_loopw [5] (fun v5 wr=>w=wr∧∃ i:Nat,v5 = .int .i64 (i:Int)∧i≤n∧Hid (decide (x∈l.drop i)=R)) (fun v5 _=>((n:Int) - intOf v5).toNat)
 case atStart=>exact ⟨rfl,0,rfl,Nat.zero_le _,Qh HR.out.2.2⟩
 case round=>
  obtain ⟨rfl,i,rfl,hi,HI⟩:=hrel
  by_cases hlt:i<n
  ·have hltI:(i:Int)<(n:Int):=by omega
   have hi0:(0:Int)≤(i:Int):=by omega
   obtain ⟨y,hy⟩:∃ y,l[i]?=some y:=⟨_,List.getElem?_eq_getElem (by rw [HR.out.1];exact hlt)⟩
   obtain ⟨g,o,rfl,hg,hc⟩:=HR.out.2.1 (zs_ne hy)
   have e0:=hc i _ (zs_get hy)
   have hil:i<l.length:=by rw [HR.out.1];exact hlt
   have hd:l.drop i=y :: l.drop (i+1):=by rw [List.drop_eq_getElem_cons hil,←List.getElem?_eq_some_iff.1 hy |>.2]
   by_cases hxy:y=x
   ·subst hxy
    have HE:=Qh (show true=R from by rw [←HI.out,hd];simp)
    clear hlt hi hy hc hd hil
    go_wp2
    go_ret
    exact ⟨by rw [←HE.out];rfl,rfl⟩
   ·have hb:(y==x)=false:=beq_eq_false_iff_ne.2 hxy
    have HE:=Qh (show decide (x∈l.drop (i+1))=R from by
     rw [←HI.out,hd]
     have:x≠y:=fun e=>hxy e.symm
     simp [this])
    have HLT:=Qh hlt
    clear hlt hi hy hc hd hil hxy
    go_wp2
    go_roundw
    case rel=>exact ⟨trivial,i+1,rfl,HLT.out,HE⟩
    case measure=>
     have:=HLT.out
     show ((n:Int) - ((i:Int)+1)).toNat<((n:Int) - (i:Int)).toNat
     omega
  ·have ei:i=n:=by omega
   subst ei
   have HE:=Qh (show false=R from by rw [←HI.out,List.drop_of_length_le (by rw [HR.out.1];exact Nat.le_refl _)];simp)
   clear hlt hi
   go_wp2
   go_ret
   exact ⟨by rw [←HE.out];rfl,rfl⟩
theorem wpList_append_z {ops:Array Oper} {rest:List Oper} {o:Oper} {a:Act} {Q:Exit→Act→World→Prop} {w:World} (hgd:o.guard=none) (s x:Operand)
  (ho:o.op = .call { callee:=.builtin .append,args:=#[s,x],argTypes:=#[57,57] })
  (A:Option Addr) (n cp:Nat) (l:List Int) (hs:a.eval s = .slice A n cp) (hown:Own 3 w 0 A n cp (zs l))
  (g:Nat) (y:Int) (hx:a.eval x = .slice (some ⟨g,0,none⟩) 1 1) (hc:w.cell? ⟨g,0,none⟩=some (.int .i64 y)) (hn:n≤BigN)
  (h:∀ A' c' w',Own 3 w' 0 A' (n+1) c' (zs (l ++ [y]))→w.grownBy w' (Value.slice A n cp).ownBlock→((Value.slice A' (n+1) c').ownBlock=(Value.slice A n cp).ownBlock∨∃ q,(Value.slice A' (n+1) c').ownBlock=some q∧w.heap.size≤q)→wpList Tryd.prog ops Q rest (a.put o.dst (.slice A' (n+1) c')) w'):wpList Tryd.prog ops Q (o :: rest) a w:=by
 obtain ⟨i0,hi,hz0,hz1,hz2⟩:=info_parts infoI
 unfold BigN at hn
 refine wpList_append_own_at _ hgd s x 57 ho 0 3 i0 (.int .i64 0) 1 8 Tryd.underlying57 hi hz0 hz1 hz2 rfl (by decide) _ n (zs l) hs hown ⟨g,0,none⟩ 1 1 [.int .i64 y] hx rfl ?_ ?_ (by simp [maxLen];omega) (by omega) (Nat.zero_le _) ?_
 ·intro j u hj
  cases j with
  | zero=>simp at hj;subst hj;exact hc
  | succ j=>simp at hj
 ·intro u hu;simp at hu;subst hu;rfl
 ·intro v' w' hown' hg _ hv
  have hf:∃ A' c',v' = .slice A' (n+1) c':=by
   rcases hown'.2 with ⟨h1,h2⟩ | ⟨g',cap,cur,h1,_⟩
   ·exact absurd h2 (by simp)
   ·exact ⟨_,_,h1⟩
  obtain ⟨A',c',rfl⟩:=hf
  refine h A' c' w' (by have h3:=hown';rw [show zs l ++ [Value.int .i64 y]=zs (l ++ [y]) by simp [zs]] at h3;exact h3) hg ?_
  rcases hv with hv | hv
  ·exact .inl hv
  ·exact .inr ⟨_,hv,Nat.le_refl _⟩
theorem own_kept {w w':World} {A:Option Addr} {n c:Nat} {xs:List Value} (h:Own 3 w 0 A n c xs) (hb:Below w.heap.size w w'):Own 3 w' 0 A n c xs:=Own.below h hb (Nat.le_refl _)
theorem own_lt {w:World} {A:Option Addr} {n c:Nat} {xs:List Value} (h:Own 3 w 0 A n c xs):∀ g,(Value.slice A n c).ownBlock=some g→g<w.heap.size:=by
 intro g hg
 rcases Own.form h with ⟨rfl,_⟩ | ⟨g',rfl,_,h2⟩
 ·simp [Value.ownBlock] at hg
 ·have e:(Value.slice (some ⟨g',0,none⟩) n c).ownBlock=some g':=rfl
  rw [e] at hg
  injection hg with hg
  omega
def Mov (w:World) (r r':Option Nat):Prop:=r'=r∨∃ g,r'=some g∧w.heap.size≤g
theorem Mov.trans {w w1:World} {r r1 r2:Option Nat} (h:Mov w r r1) (h2:Mov w1 r1 r2) (hs:w.heap.size≤w1.heap.size):Mov w r r2:=by
 rcases h2 with h2 | ⟨g,h2,h3⟩
 ·rw [h2];exact h
 ·exact .inr ⟨g,h2,Nat.le_trans hs h3⟩
theorem gb_mov {w w1 w2:World} {r r1:Option Nat} (h:w.grownBy w1 r) (hm:Mov w r r1) (h2:w1.grownBy w2 r1):w.grownBy w2 r:=
 ⟨h2.os.trans h.os,h2.tape.trans h.tape,h2.output.trans h.output,Nat.le_trans h.size h2.size,fun j hj hne=>(h2.block j (Ql hj h.size) (fun e=>by
  rcases hm with hm | ⟨g,hm,hg⟩
  ·rw [hm] at e;exact hne e
  ·rw [hm] at e;injection e with e;omega)).trans (h.block j hj hne)⟩
def VarsOk (t:Tm):Prop:=∀ (w:World) (sl:Value) (A:Option Addr) (n c:Nat) (out:List Int),TAtP w (fun b=>b<w.heap.size∧(Value.slice A n c).ownBlock≠some b) t sl→Own 3 w 0 A n c (zs out)→out.length+sz t≤BigN →
 Calls Tryd.prog 23 #[valT t sl,.slice A n c] w fun e w'=>∃ A' n' c',e = .returned (.slice A' n' c')∧Own 3 w' 0 A' n' c' (zs (vars t out))∧w.grownBy w' (Value.slice A n c).ownBlock∧Mov w (Value.slice A n c).ownBlock (Value.slice A' n' c').ownBlock
theorem szs_drop {ts:List Tm} {i:Nat} {a:Tm} (h:ts[i]?=some a):szs (ts.drop i)=sz a+szs (ts.drop (i+1)):=by
 obtain ⟨hil,e⟩:=List.getElem?_eq_some_iff.1 h
 rw [List.drop_eq_getElem_cons hil,e,szs]
theorem Vars_any (t:Tm):VarsOk t:=by
 refine Tm.ind (p:=VarsOk) (fun k nl ml b v ts ih=>?_) t
 intro w sl A0 n0 c0 out h hown hsz
 obtain ⟨nb,hnb⟩:∃ nb:ByteArray,(⟨nl.toArray⟩:ByteArray)=nb:=⟨_,rfl⟩
 obtain ⟨mb,hmb⟩:∃ mb:ByteArray,(⟨ml.toArray⟩:ByteArray)=mb:=⟨_,rfl⟩
 obtain ⟨A,c,rfl,hl1,hl2,hl3,_,_⟩:=TAtP.iff.1 h
 obtain ⟨L,hL⟩:∃ L,ts.length=L:=⟨_,rfl⟩
 change ts.length≤c at hl1
 change ts.length≤maxArgs at hl3
 change TAtP w _ (.mk k nl ml b v ts) (.slice A ts.length c) at h
 change Calls Tryd.prog _ #[valT _ (.slice A ts.length c),_] w _
 rw [valT_mk hnb hmb]
 rw [hL] at h hl1 hl3 ⊢
 obtain ⟨R,hR⟩:∃ R,vars (.mk k nl ml b v ts) out=R:=⟨_,rfl⟩
 rw [hR]
 obtain ⟨r0,hr0⟩:∃ r0,(Value.slice A0 n0 c0).ownBlock=r0:=⟨_,rfl⟩
 rw [hr0] at h ⊢
 have hRs:varss ts (if k=1∧v∉out then out ++ [v] else out)=R:=by rw [←hR];rfl
 have hol:=Own.zlen hown
 have hszs:out.length+szs ts+1≤BigN:=by simp only [sz] at hsz;omega
 have hLI:(L:Int)≤1759218604400:=by unfold maxArgs at hl3;omega
 obtain ⟨W1,hW1⟩:∃ W1,w.alloc (.cells (Q5 k nb mb b v (.slice A L c)) 25)=W1:=⟨_,rfl⟩
 have hb1:Below w.heap.size w W1:=by rw [←hW1];exact Qb
 have hX:TBox W1 w.heap.size (.mk k nl ml b v ts) (.slice A L c):=by rw [←hW1];exact TBox.new w hnb hmb
 obtain ⟨x0,x1,x2,x3,x4,x5⟩:=hX.cells hnb hmb
 have hrlt:∀ g,r0=some g→g<w.heap.size:=fun g e=>own_lt hown g (hr0.trans e)
 have HIH:=Qh ih
 have HL:=Qh hL
 have HM:=Qh (Qa hnb hmb)
 have HT:=Qh h
 have HB1:=Qh (Qa hb1 (Qa hX hrlt))
 have HO:=Qh (Qa (own_kept hown hb1) (Qa hol hr0))
 have HR:=Qh (Qa hRs hszs)
 have hnI:(n0:Int)≤1000000000000:=by unfold BigN at hszs;omega
 have HWe:=Qh hW1
 clear ih h hown hsz hR hRs hszs hol hnb hmb hL hb1 hX hrlt hr0 hW1
 rw [←HWe.out] at x0 x1 x2 x3 x4 x5
 go_enter Tryd.func23,Tryd.ntmps23
 obtain ⟨G,hG⟩:∃ G,w.heap.size=G:=⟨_,rfl⟩
 have HG:=Qh hG
 have mid:∃ out1,(if k=1∧v∉out then out ++ [v] else out)=out1∧out1.length≤out.length+1:=⟨_,rfl,by split <;> simp⟩
 obtain ⟨out1,hout1,hlen1⟩:=mid
 have HR1:=Qh (show varss ts out1=R∧out1.length+szs ts≤BigN from ⟨by rw [←hout1];exact HR.out.1,by have:=HR.out.2;omega⟩)
 have HOu:=Qh hout1
 clear hout1 hlen1 hG
 have HIn:=Qh (show Calls Tryd.prog 24 #[.slice A0 n0 c0,.int .i64 v] W1 (fun e w'=>e = .returned (.bool (decide (v∈out)))∧W1=w') from In_any (w:=W1) (c:=c0) HO.out.2.1 (by have:=HO.out.2.1;unfold BigN;omega) (Own.rd HO.out.1) v)
 rw [←HWe.out] at HIn
 have h3:(k==1)=false∨((k==1)=true∧decide (v∈out)=true)∨((k==1)=true∧decide (v∈out)=false):=by
  cases h1:(k==1)
  ·exact .inl rfl
  ·cases h2:decide (v∈out)
   ·exact .inr (.inr ⟨rfl,rfl⟩)
   ·exact .inr (.inl ⟨rfl,rfl⟩)
 rcases h3 with s0 | ⟨s0,h2⟩ | ⟨s0,h2⟩
 focus
  have HE:=Qh (show out1=out from by
   rw [←HOu.out,if_neg (fun h=>by rw [h.1] at s0;simp at s0)])
  go_upto_region 6 with fail
  rw [HWe.out]
  have HV:=Qh (show Own 3 W1 0 A0 n0 c0 (zs out1)∧W1.grownBy W1 r0∧Mov W1 r0 (Value.slice A0 n0 c0).ownBlock from ⟨by rw [HE.out];exact HO.out.1,gb_refl _ _,.inl HO.out.2.2⟩)
 rotate_left
 focus
  rw [h2] at HIn
  have HE:=Qh (show out1=out from by
   rw [←HOu.out,if_neg (fun h=>h.2 (of_decide_eq_true h2))])
  clear h2
  go_upto_region 6 with (go_at_call 24;(with_reducible refine HIn.out.mono ?_);rintro e w' ⟨rfl,rfl⟩)
  rw [HWe.out]
  have HV:=Qh (show Own 3 W1 0 A0 n0 c0 (zs out1)∧W1.grownBy W1 r0∧Mov W1 r0 (Value.slice A0 n0 c0).ownBlock from ⟨by rw [HE.out];exact HO.out.1,gb_refl _ _,.inl HO.out.2.2⟩)
 rotate_left
 focus
  rw [h2] at HIn
  have HE:=Qh (show out1=out ++ [v] from by
   rw [←HOu.out,if_pos ⟨by simpa using s0,of_decide_eq_false h2⟩])
  clear h2
  have hb2:Below W1.heap.size W1 (W1.alloc (.cells #[.int .i64 v] 3)):=Qb
  have HB2:=Qh (show Own 3 (W1.alloc (.cells #[.int .i64 v] 3)) 0 A0 n0 c0 (zs out)∧(W1.alloc (.cells #[.int .i64 v] 3)).cell? ⟨W1.heap.size,0,none⟩=some (.int .i64 v)∧W1.grownBy (W1.alloc (.cells #[.int .i64 v] 3)) r0 from
   ⟨own_kept HO.out.1 hb2,cell_of_one (heap_alloc_new W1 _),grown_below hb2⟩)
  have hs1:W1.heap.size=w.heap.size+1:=by rw [←HWe.out];simp
  have HS1:=Qh hs1
  rw [←HWe.out] at HB2
  clear hb2 hs1
  go_upto_region 6 with (first
   | (go_at_call 24;(with_reducible refine HIn.out.mono ?_);rintro e w' ⟨rfl,rfl⟩)
   | (at_builtin;refine wpList_append_z rfl _ _ rfl A0 n0 c0 out rfl HB2.out.1 (w.heap.size+1) v rfl (by have h9:=HB2.out.2.1;rw [HWe.out] at h9 ⊢;rw [HS1.out] at h9;exact h9) (by have:=HO.out.2.1;have:=HR.out.2;unfold BigN at *;omega) ?_;intro A5 c5 w5 ho5 hg5 hm5;have HV:=Qh (show Own 3 w5 0 A5 (n0+1) c5 (zs out1)∧W1.grownBy w5 r0∧Mov W1 r0 (Value.slice A5 (n0+1) c5).ownBlock from ⟨by rw [HE.out];exact ho5,by rw [HO.out.2.2] at hg5;rw [←HWe.out];exact grown_trans HB2.out.2.2 hg5,by rw [HO.out.2.2] at hm5;rcases hm5 with hm5 | ⟨q,hm5,hq⟩;exact .inl hm5;exact .inr ⟨q,hm5,by rw [←HWe.out];exact Nat.le_trans HB2.out.2.2.size hq⟩⟩);obtain ⟨y0,y1,y2,y3,y4,y5⟩:=(show TBox w5 w.heap.size (.mk k nl ml b v ts) (.slice A L c) from (HV.out.2.1.block _ HB1.out.2.1.lt (fun e=>by have:=HB1.out.2.2 _ e.symm;omega)).trans HB1.out.2.1).cells HM.out.1 HM.out.2;clear ho5 hg5 hm5))
 rotate_left
 all_goals
  clear x0 x1 x2 x3 x4 x5 HIn
  go_loopw [1,6] (fun v1 v6 wr=>∃ A2 n2 c2 i out2,v1 = .slice A2 n2 c2∧v6 = .int .i64 ((i:Nat):Int)∧i≤L∧Hid (Own 3 wr 0 A2 n2 c2 (zs out2)∧W1.grownBy wr r0∧Mov W1 r0 (Value.slice A2 n2 c2).ownBlock∧varss (ts.drop i) out2=R∧out2.length+szs (ts.drop i)≤BigN)) (fun _ v6 _=>((L:Int) - intOf v6).toNat)
  case atStart=>exact ⟨_,_,_,0,out1,rfl,rfl,Nat.zero_le _,Qh ⟨HV.out.1,HV.out.2.1,HV.out.2.2,HR1.out.1,HR1.out.2⟩⟩
  case round=>
   obtain ⟨A2,n2,c2,i,out2,rfl,rfl,hi,HI⟩:=hrel
   have hXr:TBox wr w.heap.size (.mk k nl ml b v ts) (.slice A L c):=(HI.out.2.1.block _ HB1.out.2.1.lt (fun e=>by have:=HB1.out.2.2 _ e.symm;omega)).trans HB1.out.2.1
   obtain ⟨x0,x1,x2,x3,x4,x5⟩:=hXr.cells HM.out.1 HM.out.2
   clear hXr
   by_cases hlt:i<L
   ·have hltI:(i:Int)<(L:Int):=by omega
    have hi0:(0:Int)≤(i:Int):=by omega
    have hil:i<ts.length:=by rw [HL.out];exact hlt
    obtain ⟨a,ha⟩:∃ a,ts[i]?=some a:=⟨_,List.getElem?_eq_getElem hil⟩
    have hTr:TAtP wr (fun b=>b<w.heap.size∧r0≠some b) (.mk k nl ml b v ts) (.slice A L c):=TAtP.keep _ HT.out (fun b hb=>⟨hb,(HI.out.2.1.block b (Ql hb.1 HB1.out.1.size) (fun e=>hb.2 e.symm)).trans (HB1.out.1.block b hb.1)⟩)
    obtain ⟨A',c',h1,_,_,_,_,hgo⟩:=TAtP.iff.1 hTr
    obtain ⟨g,o,hA,hPg,hel⟩:=hgo (fun e=>by change ts = [] at e;rw [e] at ha;simp at ha)
    injection h1 with e1 e2 e3
    rw [hA] at e1
    subst e1
    clear e2 e3
    obtain ⟨A4,c4,k4,n4,m4,b4,v4,ts4,nb4,mb4,rfl,hnb4,hmb4,hta,q0,q1,q2,q3,q4,q5⟩:=EltP.cells (hel i a ha)
    obtain ⟨L4,hL4⟩:∃ q,ts4.length=q:=⟨_,rfl⟩
    rw [hL4] at q5 hta
    have HD:=Qh (show ts.drop i = .mk k4 n4 m4 b4 v4 ts4 :: ts.drop (i+1)∧szs (ts.drop i)=sz (.mk k4 n4 m4 b4 v4 ts4)+szs (ts.drop (i+1)) from ⟨by rw [List.drop_eq_getElem_cons hil,←List.getElem?_eq_some_iff.1 ha |>.2],szs_drop ha⟩)
    have HCl:=Qh (HIH.out _ (List.mem_of_getElem? ha) wr _ A2 n2 c2 out2 (hta.wide (fun b hb=>⟨Ql hb.1 (Nat.le_trans HB1.out.1.size HI.out.2.1.size),fun e=>by
     rcases HI.out.2.2.1 with hm | ⟨q,hm,hq⟩
     ·rw [hm] at e;exact hb.2 e
     ·rw [hm] at e;injection e with e;have:=HB1.out.1.size;have:=hb.1;omega⟩)) HI.out.1 (by have h8:=HI.out.2.2.2.2;rw [HD.out.2] at h8;omega))
    rw [valT_mk hnb4 hmb4] at HCl
    have HLT:=Qh hlt
    have hn2:=Own.zlen HI.out.1
    clear hlt hi hil ha hTr hgo hPg hel hta hnb4 hmb4 hL4 hn2
    go_wp2_with (go_at_call 23;(with_reducible refine HCl.out.mono ?_);rintro e w6 ⟨A6,n6,c6,rfl,ho6,hg6,hm6⟩;have H6:=Qh (Qa ho6 (Qa hg6 hm6));clear ho6 hg6 hm6)
    go_roundw
    case rel=>
     refine ⟨A6,n6,c6,i+1,_,rfl,rfl,HLT.out,Qh ⟨H6.out.1,gb_mov HI.out.2.1 HI.out.2.2.1 H6.out.2.1,HI.out.2.2.1.trans H6.out.2.2 HI.out.2.1.size,?_,?_⟩⟩
     ·have h8:=HI.out.2.2.2.1
      rw [HD.out.1,varss] at h8
      exact h8
     ·have h8:=HI.out.2.2.2.2
      rw [HD.out.2] at h8
      have:=vars_len (.mk k4 n4 m4 b4 v4 ts4) out2
      omega
    case measure=>
     have:=HLT.out
     show ((L:Int) - ((i:Int)+1)).toNat<((L:Int) - (i:Int)).toNat
     omega
   ·have ei:i=L:=by omega
    subst ei
    have HE9:=Qh (show out2=R from by
     have h8:=HI.out.2.2.2.1
     rw [List.drop_of_length_le (by rw [HL.out];exact Nat.le_refl _),varss] at h8
     exact h8)
    clear hlt hi
    go_wp2
    go_ret
    refine ⟨A2,n2,c2,rfl,by rw [←HE9.out];exact HI.out.1,grown_trans (grown_below HB1.out.1) HI.out.2.1,?_⟩
    rcases HI.out.2.2.1 with hm | ⟨q,hm,hq⟩
    ·exact .inl hm
    ·exact .inr ⟨q,hm,Nat.le_trans HB1.out.1.size hq⟩
theorem Above_any {w:World} {t:Tm} {sl:Value} (h:TAt w w.heap.size t sl) (hsz:sz t≤100000) (hv:∀ x∈vars t [],0≤x∧x≤4611686018427396000):Calls Tryd.prog 20 #[valT t sl] w fun e w'=>e = .returned (.int .i64 (above t))∧Below w.heap.size w w':=by
 obtain ⟨k,nl,ml,b,v,ts,nb,mb,A,c,hT,rfl,hnb,hmb,hl1,hl2,hl3,hvv,hs1,hs2⟩:=h.letters
 rw [hvv]
 obtain ⟨L,hL⟩:∃ L,ts.length=L:=⟨_,rfl⟩
 rw [hL] at h hvv ⊢
 obtain ⟨R,hR⟩:∃ R,above t=R:=⟨_,rfl⟩
 rw [hR]
 unfold above at hR
 obtain ⟨W1,hW1⟩:∃ W1,w.alloc (.cells (Q5 k nb mb b v (.slice A L c)) 25)=W1:=⟨_,rfl⟩
 have hb1:Below w.heap.size w W1:=by rw [←hW1];exact Qb
 have hX:TBox W1 w.heap.size (.mk k nl ml b v ts) (.slice A L c):=by rw [←hW1];exact TBox.new w hnb hmb
 obtain ⟨x0,x1,x2,x3,x4,x5⟩:=hX.cells hnb hmb
 have hVs:=Vars_any t W1 (.slice A L c) none 0 0 [] ((h.to hb1 hb1.size).wide (fun b hb=>⟨hb,by simp [Value.ownBlock]⟩)) ⟨rfl,.inl ⟨rfl,rfl⟩⟩ (by unfold BigN;simp;omega)
 rw [hvv] at hVs
 have HV:=Qh hVs
 have hll:=vars_len t []
 obtain ⟨l,hl⟩:∃ l,vars t []=l:=⟨_,rfl⟩
 rw [hl] at HV hR hv hll
 have HR:=Qh (Qa hR (Qa hv (show l.length≤100000 by simp at hll;omega)))
 have HB:=Qh hb1
 subst hW1
 clear h hvv hb1 hX hVs hl hR hv hT hnb hmb hll hL
 go_enter Tryd.func20,Tryd.ntmps20
 go_upto_region 4 with (go_at_call 23;(with_reducible refine HV.out.mono ?_);rintro e w2 ⟨A2,n2,c2,rfl,ho2,hg2,hm2⟩;have H2:=Qh (Qa ho2 (HB.out.trans (show Below w.heap.size _ w2 from ⟨hg2.os,hg2.tape,hg2.output,hg2.size,fun j hj=>hg2.block j (Ql hj HB.out.size) (by simp [Value.ownBlock])⟩)));clear ho2 hg2 hm2)
 have hn2:l.length=n2:=Own.zlen H2.out.1
 have HN2:=Qh hn2
 have hnI:(n2:Int)≤100000:=by have:=HR.out.2.2;omega
 clear x0 x1 x2 x3 x4 x5 hn2
 go_loopw [3,5] (fun v3 v5 wr=>w2=wr∧∃ (i:Nat) (m:Int),v3 = .int .i64 m∧v5 = .int .i64 (i:Int)∧i≤n2∧0≤m∧m≤4611686018427396001∧Hid ((l.drop i).foldl (fun n x=>max n (x+1)) m=R)) (fun _ v5 _=>((n2:Int) - intOf v5).toNat)
 case atStart=>exact ⟨rfl,0,0,rfl,rfl,Nat.zero_le _,by omega,by omega,Qh HR.out.1⟩
 case round=>
  obtain ⟨rfl,i,m,rfl,rfl,hi,hm0,hm1,HI⟩:=hrel
  by_cases hlt:i<n2
  ·have hltI:(i:Int)<(n2:Int):=by omega
   have hi0:(0:Int)≤(i:Int):=by omega
   have hil:i<l.length:=by rw [HN2.out];exact hlt
   obtain ⟨y,hy⟩:∃ y,l[i]?=some y:=⟨_,List.getElem?_eq_getElem hil⟩
   obtain ⟨g,o,rfl,hg,hc⟩:=(Own.rd H2.out.1) (zs_ne hy)
   have e0:=hc i _ (zs_get hy)
   obtain ⟨hy0,hy1⟩:=HR.out.2.1 y (List.mem_of_getElem? hy)
   have hd:l.drop i=y :: l.drop (i+1):=by rw [List.drop_eq_getElem_cons hil,←List.getElem?_eq_some_iff.1 hy |>.2]
   have HE:=Qh (show (l.drop (i+1)).foldl (fun n x=>max n (x+1)) (max m (y+1))=R from by rw [←HI.out,hd];rfl)
   have HLT:=Qh hlt
   clear hlt hi hil hy hc hd HI
   go_wp2
   refine ⟨⟨trivial,i+1,max m (y+1),rfl,rfl,HLT.out,by omega,by omega,HE⟩,?_⟩
   have:=HLT.out
   show ((n2:Int) - ((i:Int)+1)).toNat<((n2:Int) - (i:Int)).toNat
   omega
  ·have ei:i=n2:=by omega
   subst ei
   have HE:=Qh (show m=R from by
    have h8:=HI.out
    rw [List.drop_of_length_le (by rw [HN2.out];exact Nat.le_refl _)] at h8
    exact h8)
   clear hlt hi
   go_wp2
   go_ret
   exact ⟨by rw [←HE.out];rfl,H2.out.2⟩
def highB (t:Tm):Bool:=(vars t []).any (fun x=>decide (4611686018427387904<x))
theorem high_any {w:World} {t:Tm} {sl:Value} (h:TAt w w.heap.size t sl) (hsz:sz t≤100000):Calls Tryd.prog 11 #[valT t sl] w fun e w'=>e = .returned (.bool (highB t))∧Below w.heap.size w w':=by
 obtain ⟨k,nl,ml,b,v,ts,nb,mb,A,c,hT,rfl,hnb,hmb,hl1,hl2,hl3,hvv,hs1,hs2⟩:=h.letters
 rw [hvv]
 obtain ⟨L,hL⟩:∃ L,ts.length=L:=⟨_,rfl⟩
 rw [hL] at h hvv ⊢
 obtain ⟨R,hR⟩:∃ R,highB t=R:=⟨_,rfl⟩
 rw [hR]
 unfold highB at hR
 obtain ⟨W1,hW1⟩:∃ W1,w.alloc (.cells (Q5 k nb mb b v (.slice A L c)) 25)=W1:=⟨_,rfl⟩
 have hb1:Below w.heap.size w W1:=by rw [←hW1];exact Qb
 have hX:TBox W1 w.heap.size (.mk k nl ml b v ts) (.slice A L c):=by rw [←hW1];exact TBox.new w hnb hmb
 obtain ⟨x0,x1,x2,x3,x4,x5⟩:=hX.cells hnb hmb
 have hVs:=Vars_any t W1 (.slice A L c) none 0 0 [] ((h.to hb1 hb1.size).wide (fun b hb=>⟨hb,by simp [Value.ownBlock]⟩)) ⟨rfl,.inl ⟨rfl,rfl⟩⟩ (by unfold BigN;simp;omega)
 rw [hvv] at hVs
 have HV:=Qh hVs
 have hll:=vars_len t []
 obtain ⟨l,hl⟩:∃ l,vars t []=l:=⟨_,rfl⟩
 rw [hl] at HV hR hll
 have HR:=Qh (Qa hR (Qa trivial (show l.length≤100000 by simp at hll;omega)))
 have HB:=Qh hb1
 subst hW1
 clear h hvv hb1 hX hVs hl hR hT hnb hmb hll hL
 go_enter Tryd.func11,Tryd.ntmps11
 go_upto_region 3 with (go_at_call 23;(with_reducible refine HV.out.mono ?_);rintro e w2 ⟨A2,n2,c2,rfl,ho2,hg2,hm2⟩;have H2:=Qh (Qa ho2 (HB.out.trans (show Below w.heap.size _ w2 from ⟨hg2.os,hg2.tape,hg2.output,hg2.size,fun j hj=>hg2.block j (Ql hj HB.out.size) (by simp [Value.ownBlock])⟩)));clear ho2 hg2 hm2)
 have hn2:l.length=n2:=Own.zlen H2.out.1
 have HN2:=Qh hn2
 have hnI:(n2:Int)≤100000:=by have:=HR.out.2.2;omega
 clear x0 x1 x2 x3 x4 x5 hn2
 go_loopw [4] (fun v4 wr=>w2=wr∧∃ (i:Nat),v4 = .int .i64 (i:Int)∧i≤n2∧Hid ((l.drop i).any (fun x=>decide (4611686018427387904<x))=R)) (fun v4 _=>((n2:Int) - intOf v4).toNat)
 case atStart=>exact ⟨rfl,0,rfl,Nat.zero_le _,Qh HR.out.1⟩
 case round=>
  obtain ⟨rfl,i,rfl,hi,HI⟩:=hrel
  by_cases hlt:i<n2
  ·have hltI:(i:Int)<(n2:Int):=by omega
   have hi0:(0:Int)≤(i:Int):=by omega
   have hil:i<l.length:=by rw [HN2.out];exact hlt
   obtain ⟨y,hy⟩:∃ y,l[i]?=some y:=⟨_,List.getElem?_eq_getElem hil⟩
   obtain ⟨g,o,rfl,hg,hc⟩:=(Own.rd H2.out.1) (zs_ne hy)
   have e0:=hc i _ (zs_get hy)
   have hd:l.drop i=y :: l.drop (i+1):=by rw [List.drop_eq_getElem_cons hil,←List.getElem?_eq_some_iff.1 hy |>.2]
   have HLT:=Qh hlt
   by_cases hby:4611686018427387904<y
   ·have HE:=Qh (show true=R from by rw [←HI.out,hd,List.any_cons,decide_eq_true hby];rfl)
    clear hlt hi hil hy hc hd HI
    go_wp2
    go_ret
    exact ⟨by rw [←HE.out];rfl,H2.out.2⟩
   ·have HE:=Qh (show (l.drop (i+1)).any (fun x=>decide (4611686018427387904<x))=R from by rw [←HI.out,hd,List.any_cons,decide_eq_false hby];rfl)
    clear hlt hi hil hy hc hd HI
    go_wp2
    refine ⟨⟨trivial,i+1,rfl,HLT.out,HE⟩,?_⟩
    have:=HLT.out
    show ((n2:Int) - ((i:Int)+1)).toNat<((n2:Int) - (i:Int)).toNat
    omega
  ·have ei:i=n2:=by omega
   subst ei
   have HE:=Qh (show false=R from by
    have h8:=HI.out
    rw [List.drop_of_length_le (by rw [HN2.out];exact Nat.le_refl _)] at h8
    exact h8)
   clear hlt hi
   go_wp2
   go_ret
   exact ⟨by rw [←HE.out];rfl,H2.out.2⟩
end Go.Proofs.YtgfeainpeplphaaDoor
namespace Go.Proofs.YtgfeainpeplphaaDoor
open Go.RowKit Go.Maps Hb Ht
attribute [local go_sem] Oper.semAt_some
def inR (x:Int):Prop:=-9223372036854775808≤x∧x≤9223372036854775807
def SetOf (w:World) (b:Nat) (l:List Int):Prop:=∃ (D:DataW Unit) (N:Nat),w.ownsMap Tryd.prog 3 (plainElem Tryd.prog 3) b N D∧N≤l.length∧∀ x,inR x→Maps.has D (.int .i64 x)=decide (x∈l)
theorem SetOf.made (w:World):SetOf (w.alloc (.map #[] 0)) w.heap.size []:=⟨_,0,World.ownsMap_made w _ _ _,Nat.le_refl _,fun x _=>rfl⟩
theorem SetOf.lt {w:World} {b:Nat} {l:List Int} (h:SetOf w b l):b<w.heap.size:=let ⟨_,_,h1,_⟩:=h;h1.lt
theorem SetOf.kept {w w':World} {b:Nat} {l:List Int} (h:SetOf w b l) (hb:w'.heap[b]?=w.heap[b]?):SetOf w' b l:=by
 obtain ⟨D,N,⟨es,clock,h1,h3⟩,h2⟩:=h
 exact ⟨D,N,⟨es,clock,hb.trans h1,h3⟩,h2⟩
theorem SetOf.look {w:World} {b:Nat} {l:List Int} (h:SetOf w b l) {x:Int} (hx:inR x):∃ c,(Instr.lookup 99 (.map (some b)) (.int .i64 x) true).run Tryd.prog w = .ok (.tuple #[.int .i64 c,.bool (decide (x∈l))]) w:=by
 obtain ⟨D,N,h1,h2,h3⟩:=h
 obtain ⟨v,ps,hrun,hv⟩:=h1.look_ok (int_keyed Tryd.underlying3) Tryd.underlying99 (z:=.int .i64 0) (by simp [Tryd.zeroValue3]) (plainElem_int Tryd.underlying3 (by decide)) (keyOf_int_mk Tryd.underlying3 (WalkArith.wf_i64 hx))
 obtain ⟨a,rfl,_⟩:=plainElem_int_inv Tryd.underlying3 hv
 exact ⟨a,by rw [hrun,h3 x hx]⟩
theorem wpList_store_z {w:World} {ops:Array Oper} {rest:List Oper} {o:Oper} {a:Act} {Q:Exit→Act→World→Prop}
  (hg:o.guard=none) (m x v:Operand) (hop:o.op=Op.mapUpdate 99 m x v)
  {b:Nat} {l:List Int} {y c:Int} (hm:a.eval m = .map (some b)) (hx:a.eval x = .int .i64 y) (hv:a.eval v = .int .i64 c) (hown:SetOf w b l) (hl:l.length≤BigN) (hy:inR y) (hc:inR c)
  (hK:∀ w',SetOf w' b (l ++ [y])→w.grownBy w' (some b)→wpList Tryd.prog ops Q rest (a.put o.dst undef) w') :
  wpList Tryd.prog ops Q (o :: rest) a w:=by
 obtain ⟨D,N,h1,h2,h3⟩:=hown
 have hkey:=keyOf_int_mk Tryd.underlying3 (WalkArith.wf_i64 hy)
 refine wpList_mapUpdate_own w hg m x v 99 hop 3 3 (int_keyed Tryd.underlying3) Tryd.underlying99 (plainElem Tryd.prog 3) b N D hm h1 (by unfold BigN at hl;unfold maxLen;omega) _ _ _ hx hv hkey _ [] (plainElem_int Tryd.underlying3 (WalkArith.wf_i64 hc)) ?_
 intro w' r1 r2
 refine hK w' ⟨_,_,r1,by simp;omega,fun z hz=>?_⟩ r2
 have hIs:=h1.isMap
 have hkl:=(int_keyed (P:=Tryd.prog) Tryd.underlying3).key hkey
 by_cases e:z=y
 ·subst e
  rw [has_put_same hIs hkl]
  simp
 ·rw [has_put_other (fun e2=>e (by injection e2)),h3 z hz]
  simp [e]
structure Fr (Ob mb:Nat) (r:Option Nat) (w w':World):Prop where
 os:w'.os=w.os
 tape:w'.tape=w.tape
 output:w'.output=w.output
 size:w.heap.size≤w'.heap.size
 block:∀ b,b<w.heap.size→b≠Ob→b≠mb→some b≠r→w'.heap[b]?=w.heap[b]?
theorem Fr.refl (Ob mb:Nat) (r:Option Nat) (w:World):Fr Ob mb r w w:=⟨rfl,rfl,rfl,Nat.le_refl _,fun _ _ _ _ _=>rfl⟩
theorem Fr.below {Ob mb:Nat} {r:Option Nat} {w w':World} (h:Below w.heap.size w w'):Fr Ob mb r w w':=⟨h.os,h.tape,h.output,h.size,fun b hb _ _ _=>h.block b hb⟩
theorem Fr.trans {Ob mb:Nat} {r r1:Option Nat} {w w1 w2:World} (h:Fr Ob mb r w w1) (hm:Mov w r r1) (h2:Fr Ob mb r1 w1 w2):Fr Ob mb r w w2:=
 ⟨h2.os.trans h.os,h2.tape.trans h.tape,h2.output.trans h.output,Nat.le_trans h.size h2.size,fun b hb h3 h4 h5=>(h2.block b (Ql hb h.size) h3 h4 (fun e=>by
  rcases hm with hm | ⟨g,hm,hg⟩
  ·rw [hm] at e;exact h5 e
  ·rw [hm] at e;injection e with e;omega)).trans (h.block b hb h3 h4 h5)⟩
structure VS (w:World) (Sb Ob mb:Nat) (A:Option Addr) (n c:Nat) (out:List Int):Prop where
 s:w.heap[Sb]?=some (.cells #[.map (some mb)] 99 (0,0))
 o:w.heap[Ob]?=some (.cells #[.slice A n c] 57 (0,0))
 own:Own 3 w 0 A n c (zs out)
 m:SetOf w mb out
 ne:Sb≠Ob∧Sb≠mb∧Ob≠mb
 nr:(Value.slice A n c).ownBlock≠some Sb∧(Value.slice A n c).ownBlock≠some Ob∧(Value.slice A n c).ownBlock≠some mb
theorem VS.below {w w':World} {Sb Ob mb n c:Nat} {A:Option Addr} {out:List Int} (h:VS w Sb Ob mb A n c out) (hb:Below w.heap.size w w'):VS w' Sb Ob mb A n c out:=
 ⟨(hb.block Sb (Array.getElem?_eq_some_iff.1 h.s).1).trans h.s,(hb.block Ob (Array.getElem?_eq_some_iff.1 h.o).1).trans h.o,own_kept h.own hb,h.m.kept (hb.block mb h.m.lt),h.ne,h.nr⟩
def one1 (x:Int) (out:List Int):List Int:=if x∉out then out ++ [x] else out
def EachPost (w:World) (Sb Ob mb:Nat) (r:Option Nat) (out:List Int) (e:Ending) (w':World):Prop:=
 e = .returned (.tuple #[])∧∃ A n c,VS w' Sb Ob mb A n c out∧Fr Ob mb r w w'∧Mov w r (Value.slice A n c).ownBlock
theorem each_any {w:World} {Sb Ob mb n c:Nat} {A:Option Addr} {out:List Int} (h:VS w Sb Ob mb A n c out) {x:Int} (hx:inR x) (hl:out.length<BigN) :
  Calls Tryd.prog 71 #[.int .i64 x,.pointer (some ⟨Sb,0,none⟩),.pointer (some ⟨Ob,0,none⟩)] w (EachPost w Sb Ob mb (Value.slice A n c).ownBlock (one1 x out)):=by
 have hn:=Own.zlen h.own
 have hnI:(n:Int)<1000000000000:=by unfold BigN at hl;omega
 obtain ⟨cc,hlk⟩:=h.m.look hx
 have cS:=cell_of_one h.s
 have cO:=cell_of_one h.o
 have fO:=free_of_one h.o
 by_cases hv:x∈out
 ·rw [decide_eq_true hv] at hlk
  have HE:=Qh (show VS w Sb Ob mb A n c (one1 x out) from by rw [one1,if_neg (by simp [hv])];exact h)
  clear h hv hn hl
  go_enter Tryd.func71,Tryd.ntmps71
  go_wp2
  first
   | exact bodyPost_ret (results_none rfl _ _ _) rfl ⟨rfl,A,n,c,HE.out,Fr.refl _ _ _ _,.inl rfl⟩
   | exact bodyPost_end (results_none rfl _ _ _) rfl ⟨rfl,A,n,c,HE.out,Fr.refl _ _ _ _,.inl rfl⟩
 ·rw [decide_eq_false hv] at hlk
  have HV:=Qh (Qa h (Qa hl (show one1 x out=out ++ [x] from by rw [one1,if_pos hv])))
  have HX:=Qh hx
  clear h hv hn hl hx
  go_enter Tryd.func71,Tryd.ntmps71
  go_wp2_with (first
   | (at_mapUpdate;refine wpList_store_z rfl _ _ _ rfl rfl rfl rfl HV.out.1.m (Nat.le_of_lt HV.out.2.1) HX.out ⟨by omega,by omega⟩ ?_;intro w2 hm2 hg2;(have hO2:=blk_ne hg2 HV.out.1.o HV.out.1.ne.2.2);(have cO2:=cell_of_one hO2);(have hb3:Below w2.heap.size w2 (w2.alloc (.cells #[.int .i64 x] 3)):=Qb);(have H2:=Qh (show (w2.alloc (.cells #[.int .i64 x] 3)).heap[Sb]?=some (.cells #[.map (some mb)] 99 (0,0))∧(w2.alloc (.cells #[.int .i64 x] 3)).heap[Ob]?=some (.cells #[.slice A n c] 57 (0,0))∧Own 3 (w2.alloc (.cells #[.int .i64 x] 3)) 0 A n c (zs out)∧SetOf (w2.alloc (.cells #[.int .i64 x] 3)) mb (out ++ [x])∧(w2.alloc (.cells #[.int .i64 x] 3)).cell? ⟨w2.heap.size,0,none⟩=some (.int .i64 x)∧Fr Ob mb (Value.slice A n c).ownBlock w (w2.alloc (.cells #[.int .i64 x] 3)) from
     ⟨(hb3.block Sb (Array.getElem?_eq_some_iff.1 (blk_ne hg2 HV.out.1.s HV.out.1.ne.2.1)).1).trans (blk_ne hg2 HV.out.1.s HV.out.1.ne.2.1),(hb3.block Ob (Array.getElem?_eq_some_iff.1 hO2).1).trans hO2,own_kept (World.ownsRow.kept HV.out.1.own hg2 (.inr HV.out.1.nr.2.2)) hb3,hm2.kept (hb3.block mb hm2.lt),cell_of_one (heap_alloc_new w2 _),⟨hb3.os.trans hg2.os,hb3.tape.trans hg2.tape,hb3.output.trans hg2.output,Nat.le_trans hg2.size hb3.size,fun b hb _ h4 _=>(hb3.block b (Ql hb hg2.size)).trans (hg2.block b hb (fun e=>h4 (by injection e)))⟩⟩));clear hm2 hg2 hb3 hO2)
   | (at_builtin;refine wpList_append_z rfl _ _ rfl A n c out rfl H2.out.2.2.1 _ x rfl H2.out.2.2.2.2.1 (by have:=HV.out.2.1;have:=Own.zlen HV.out.1.own;unfold BigN at *;omega) ?_;intro A5 c5 w5 ho5 hg5 hm5;(have hO5:w5.heap[Ob]?=some (.cells #[.slice A n c] 57 (0,0)):=(hg5.block Ob (Array.getElem?_eq_some_iff.1 H2.out.2.1).1 (fun e=>HV.out.1.nr.2.1 e.symm)).trans H2.out.2.1);(have cO5:=cell_of_one hO5);(have fO5:=free_of_one hO5);(have H5:=Qh (Qa ho5 (Qa hg5 (Qa hm5 hO5))));clear ho5 hg5 hm5 hO5))
  obtain ⟨ho5,hg5,hm5,hO5⟩:=H5.out
  obtain ⟨h2s,h2o,h2w,h2m,h2c,h2f⟩:=H2.out
  obtain ⟨hvs,hvl,hve⟩:=HV.out
  have hltS:=(Array.getElem?_eq_some_iff.1 h2s).1
  have hltO:=(Array.getElem?_eq_some_iff.1 h2o).1
  have hltm:=h2m.lt
  have hnr:∀ q,q<(w2.alloc (.cells #[.int .i64 x] 3)).heap.size→(Value.slice A n c).ownBlock≠some q→(Value.slice A5 (n+1) c5).ownBlock≠some q:=fun q hq hne=>by
   rcases hm5 with hm | ⟨g,hm,hg⟩
   ·rw [hm];exact hne
   ·rw [hm];intro e;injection e with e;omega
  have HP:=Qh (show VS (w5.setCell ⟨Ob,0,none⟩ (.slice A5 (n+1) c5)) Sb Ob mb A5 (n+1) c5 (one1 x out) from by
   rw [hve]
   refine ⟨?_,one_setCell hO5,?_,?_,hvs.ne,⟨hnr Sb hltS hvs.nr.1,hnr Ob hltO hvs.nr.2.1,hnr mb hltm hvs.nr.2.2⟩⟩
   ·exact (Below.heap_setCell _ _ _ Sb hvs.ne.1).trans ((hg5.block Sb hltS (fun e=>hvs.nr.1 e.symm)).trans h2s)
   ·exact Own.far ho5 (fun g hg e=>hnr Ob hltO hvs.nr.2.1 (by rw [hg,e];rfl)) _
   ·exact h2m.kept ((Below.heap_setCell _ _ _ mb (fun e=>hvs.ne.2.2 e.symm)).trans (hg5.block mb hltm (fun e=>hvs.nr.2.2 e.symm))))
  have HF:=Qh (show Fr Ob mb (Value.slice A n c).ownBlock w (w5.setCell ⟨Ob,0,none⟩ (.slice A5 (n+1) c5)) from
   ⟨hg5.os.trans h2f.os,hg5.tape.trans h2f.tape,hg5.output.trans h2f.output,by have:=h2f.size;have:=hg5.size;simp [World.setCell];omega,fun b hb h3 h4 h5=>(Below.heap_setCell _ _ _ b h3).trans ((hg5.block b (Ql hb h2f.size) h5).trans (h2f.block b hb h3 h4 h5))⟩)
  have HMv:=Qh (show Mov w (Value.slice A n c).ownBlock (Value.slice A5 (n+1) c5).ownBlock from by
   rcases hm5 with hm | ⟨g,hm,hg⟩
   ·exact .inl hm
   ·exact .inr ⟨g,hm,Nat.le_trans h2f.size hg⟩)
  first
   | exact bodyPost_ret (results_none rfl _ _ _) rfl ⟨rfl,A5,n+1,c5,HP.out,HF.out,HMv.out⟩
   | exact bodyPost_end (results_none rfl _ _ _) rfl ⟨rfl,A5,n+1,c5,HP.out,HF.out,HMv.out⟩
theorem VS.lt {w:World} {Sb Ob mb n c:Nat} {A:Option Addr} {out:List Int} (h:VS w Sb Ob mb A n c out):Sb<w.heap.size∧Ob<w.heap.size∧mb<w.heap.size∧(∀ g,(Value.slice A n c).ownBlock=some g→g<w.heap.size):=
 ⟨(Array.getElem?_eq_some_iff.1 h.s).1,(Array.getElem?_eq_some_iff.1 h.o).1,h.m.lt,own_lt h.own⟩
def eachV (Sb Ob:Nat):Value:=.func (.func 71) #[] #[.pointer (some ⟨Sb,0,none⟩),.pointer (some ⟨Ob,0,none⟩)]
def Kp (w:World) (Ob mb:Nat) (r:Option Nat) (b:Nat):Prop:=b<w.heap.size∧b≠Ob∧b≠mb∧r≠some b
theorem Kp.keep {w w1:World} {Ob mb:Nat} {r r1:Option Nat} {t:Tm} {sl:Value} (h:TAtP w (Kp w Ob mb r) t sl) (hf:Fr Ob mb r w w1) (hm:Mov w r r1):TAtP w1 (Kp w1 Ob mb r1) t sl:=
 TAtP.keep _ h (fun b hb=>⟨⟨Ql hb.1 hf.size,hb.2.1,hb.2.2.1,fun e=>by
  rcases hm with hm | ⟨g,hm,hg⟩
  ·rw [hm] at e;exact hb.2.2.2 e
  ·rw [hm] at e;injection e with e;have:=hb.1;omega⟩,hf.block b hb.1 hb.2.1 hb.2.2.1 (fun e=>hb.2.2.2 e.symm)⟩)
def WalkOk (t:Tm):Prop:=∀ (w:World) (sl:Value) (Sb Ob mb:Nat) (A:Option Addr) (n c:Nat) (out:List Int),VS w Sb Ob mb A n c out→TAtP w (Kp w Ob mb (Value.slice A n c).ownBlock) t sl→out.length+sz t≤BigN →
 Calls Tryd.prog 70 #[valT t sl,eachV Sb Ob] w (EachPost w Sb Ob mb (Value.slice A n c).ownBlock (vars t out))
theorem walk_any (t:Tm):WalkOk t:=by
 refine Tm.ind (p:=WalkOk) (fun k nl ml b v ts ih=>?_) t
 intro w sl Sb Ob mb' A0 n0 c0 out hvs h hsz
 have hok:=TAtP.ok h
 obtain ⟨nb,hnb⟩:∃ nb:ByteArray,(⟨nl.toArray⟩:ByteArray)=nb:=⟨_,rfl⟩
 obtain ⟨mb,hmb⟩:∃ mb:ByteArray,(⟨ml.toArray⟩:ByteArray)=mb:=⟨_,rfl⟩
 obtain ⟨A,c,rfl,hl1,hl2,hl3,_,_⟩:=TAtP.iff.1 h
 obtain ⟨L,hL⟩:∃ L,ts.length=L:=⟨_,rfl⟩
 change ts.length≤c at hl1
 change ts.length≤maxArgs at hl3
 change TAtP w _ (.mk k nl ml b v ts) (.slice A ts.length c) at h
 change Calls Tryd.prog _ #[valT _ (.slice A ts.length c),_] w _
 rw [valT_mk hnb hmb]
 rw [hL] at h hl1 hl3 ⊢
 obtain ⟨R,hR⟩:∃ R,vars (.mk k nl ml b v ts) out=R:=⟨_,rfl⟩
 rw [hR]
 obtain ⟨r0,hr0⟩:∃ r0,(Value.slice A0 n0 c0).ownBlock=r0:=⟨_,rfl⟩
 rw [hr0] at h ⊢
 obtain ⟨out1,hout1⟩:∃ o,(if k=1∧v∉out then out ++ [v] else out)=o:=⟨_,rfl⟩
 have hRs:varss ts out1=R:=by rw [←hR,←hout1];rfl
 have hlen:out1.length≤out.length+1:=by rw [←hout1];split <;> simp
 have hszs:out1.length+szs ts≤BigN∧out.length<BigN:=by simp only [sz] at hsz;omega
 have hLI:(L:Int)≤1759218604400:=by unfold maxArgs at hl3;omega
 obtain ⟨W1,hW1⟩:∃ W1,w.alloc (.cells (Q5 k nb mb b v (.slice A L c)) 25)=W1:=⟨_,rfl⟩
 have hb1:Below w.heap.size w W1:=by rw [←hW1];exact Qb
 have hX:TBox W1 w.heap.size (.mk k nl ml b v ts) (.slice A L c):=by rw [←hW1];exact TBox.new w hnb hmb
 have hs1:W1.heap.size=w.heap.size+1:=by rw [←hW1];simp
 obtain ⟨x0,x1,x2,x3,x4,x5⟩:=hX.cells hnb hmb
 have hlts:=hvs.lt
 rw [hr0] at hlts
 have HIH:=Qh ih
 have HL:=Qh hL
 have HM:=Qh (Qa hnb hmb)
 have HT:=Qh (show TAtP W1 (Kp W1 Ob mb' r0) (.mk k nl ml b v ts) (.slice A L c) from TAtP.keep _ h (fun b hb=>⟨⟨Ql hb.1 hb1.size,hb.2⟩,hb1.block b hb.1⟩))
 have HB1:=Qh (Qa hb1 (Qa hX hlts))
 have HV0:=Qh (Qa (hvs.below hb1) hr0)
 have HR:=Qh (Qa hRs hszs)
 have HOu:=Qh hout1
 have HEa:=Qh (fun u (hb:u=W1)=>show Calls Tryd.prog 71 #[.int .i64 v,.pointer (some ⟨Sb,0,none⟩),.pointer (some ⟨Ob,0,none⟩)] u (EachPost W1 Sb Ob mb' r0 (one1 v out)) from by
  have h9:=each_any (hvs.below hb1) (x:=v) hok.2.2.2.1 hszs.2
  rw [hr0] at h9
  rw [hb]
  exact h9)
 have HWe:=Qh hW1
 rw [←HWe.out] at x0 x1 x2 x3 x4 x5
 clear ih h hvs hsz hR hRs hszs hlen hnb hmb hL hb1 hX hr0 hW1 hs1 hlts hok hout1
 rw [show eachV Sb Ob = .func (.func 71) #[] #[.pointer (some ⟨Sb,0,none⟩),.pointer (some ⟨Ob,0,none⟩)] from rfl]
 go_enter Tryd.func70,Tryd.ntmps70
 have h2:(k==1)=false∨(k==1)=true:=by cases (k==1) <;> simp
 rcases h2 with s0 | s0
 focus
  have HV:=Qh (show VS W1 Sb Ob mb' A0 n0 c0 out1∧Fr Ob mb' r0 W1 W1∧Mov W1 r0 (Value.slice A0 n0 c0).ownBlock from ⟨by
   have e:out1=out:=by rw [←HOu.out,if_neg (fun h=>by rw [h.1] at s0;simp at s0)]
   rw [e];exact HV0.out.1,Fr.refl _ _ _ _,.inl HV0.out.2⟩)
  go_upto_region 4 with fail
  rw [HWe.out]
 rotate_left
 focus
  go_upto_region 4 with (go_at_call 71;(with_reducible refine (HEa.out _ HWe.out).mono ?_);rintro e w2 ⟨rfl,A5,n5,c5,hv5,hf5,hm5⟩;have HV:=Qh (show VS w2 Sb Ob mb' A5 n5 c5 out1∧Fr Ob mb' r0 W1 w2∧Mov W1 r0 (Value.slice A5 n5 c5).ownBlock from ⟨by
   have e:out1=one1 v out:=by rw [←HOu.out,one1];simp at s0;simp [s0]
   rw [e];exact hv5,hf5,hm5⟩);obtain ⟨y0,y1,y2,y3,y4,y5⟩:=(show TBox w2 w.heap.size (.mk k nl ml b v ts) (.slice A L c) from (hf5.block _ HB1.out.2.1.lt (by have:=HB1.out.2.2.2.1;omega) (by have:=HB1.out.2.2.2.2.1;omega) (fun e=>by have:=HB1.out.2.2.2.2.2 _ e.symm;omega)).trans HB1.out.2.1).cells HM.out.1 HM.out.2;clear hv5 hf5 hm5)
 rotate_left
 all_goals
  try clear x0 x1 x2 x3 x4 x5
  try clear y0 y1 y2 y3 y4 y5
  go_loopw [16] (fun v16 wr=>∃ A2 n2 c2 i out2,v16 = .int .i64 ((i:Nat):Int)∧i≤L∧Hid (VS wr Sb Ob mb' A2 n2 c2 out2∧Fr Ob mb' r0 W1 wr∧Mov W1 r0 (Value.slice A2 n2 c2).ownBlock∧varss (ts.drop i) out2=R∧out2.length+szs (ts.drop i)≤BigN)) (fun v16 _=>((L:Int) - intOf v16).toNat)
  case atStart=>exact ⟨_,_,_,0,out1,rfl,Nat.zero_le _,Qh ⟨HV.out.1,HV.out.2.1,HV.out.2.2,HR.out.1,HR.out.2.1⟩⟩
  case round=>
   obtain ⟨A2,n2,c2,i,out2,rfl,hi,HI⟩:=hrel
   by_cases hlt:i<L
   ·have hltI:(i:Int)<(L:Int):=by omega
    have hi0:(0:Int)≤(i:Int):=by omega
    have hil:i<ts.length:=by rw [HL.out];exact hlt
    obtain ⟨a,ha⟩:∃ a,ts[i]?=some a:=⟨_,List.getElem?_eq_getElem hil⟩
    have hTr:=Kp.keep HT.out HI.out.2.1 HI.out.2.2.1
    obtain ⟨A',c',h1,_,_,_,_,hgo⟩:=TAtP.iff.1 hTr
    obtain ⟨g,o,hA,hPg,hel⟩:=hgo (fun e=>by change ts = [] at e;rw [e] at ha;simp at ha)
    injection h1 with e1 e2 e3
    rw [hA] at e1
    subst e1
    clear e2 e3
    obtain ⟨A4,c4,k4,n4,m4,b4,v4,ts4,nb4,mb4,rfl,hnb4,hmb4,hta,q0,q1,q2,q3,q4,q5⟩:=EltP.cells (hel i a ha)
    obtain ⟨L4,hL4⟩:∃ q,ts4.length=q:=⟨_,rfl⟩
    rw [hL4] at q5 hta
    have HD:=Qh (show ts.drop i = .mk k4 n4 m4 b4 v4 ts4 :: ts.drop (i+1)∧szs (ts.drop i)=sz (.mk k4 n4 m4 b4 v4 ts4)+szs (ts.drop (i+1)) from ⟨by rw [List.drop_eq_getElem_cons hil,←List.getElem?_eq_some_iff.1 ha |>.2],szs_drop ha⟩)
    obtain ⟨W4,hW4⟩:∃ W4,wr.alloc (.cells (Q5 k4 nb4 mb4 b4 v4 (.slice A4 L4 c4)) 25)=W4:=⟨_,rfl⟩
    have hb4:Below wr.heap.size wr W4:=by rw [←hW4];exact Qb
    have hX4:TBox W4 wr.heap.size (.mk k4 n4 m4 b4 v4 ts4) (.slice A4 L4 c4):=by rw [←hW4];exact TBox.new wr hnb4 hmb4
    obtain ⟨y0,y1,y2,y3,y4,y5⟩:=hX4.cells hnb4 hmb4
    have HCl:=Qh (HIH.out _ (List.mem_of_getElem? ha) W4 _ Sb Ob mb' A2 n2 c2 out2 (HI.out.1.below hb4) (TAtP.keep _ hta (fun b hb=>⟨⟨Ql hb.1 hb4.size,hb.2⟩,hb4.block b hb.1⟩)) (by have h8:=HI.out.2.2.2.2;rw [HD.out.2] at h8;omega))
    rw [valT_mk hnb4 hmb4,show eachV Sb Ob = .func (.func 71) #[] #[.pointer (some ⟨Sb,0,none⟩),.pointer (some ⟨Ob,0,none⟩)] from rfl] at HCl
    have HLT:=Qh hlt
    have HB4:=Qh hb4
    subst hW4
    clear hlt hi hil ha hTr hgo hPg hel hta hnb4 hmb4 hL4 hb4 hX4
    go_wp2_with (go_at_call 70;(with_reducible refine HCl.out.mono ?_);rintro e w6 ⟨rfl,A6,n6,c6,hv6,hf6,hm6⟩;have H6:=Qh (Qa hv6 (Qa hf6 hm6));clear hv6 hf6 hm6)
    go_roundw
    case rel=>
     obtain ⟨hv6,hf6,hm6⟩:=H6.out
     have hf46:Fr Ob mb' (Value.slice A2 n2 c2).ownBlock wr w6:=(Fr.below HB4.out).trans (.inl rfl) hf6
     refine ⟨A6,n6,c6,i+1,_,rfl,HLT.out,Qh ⟨hv6,HI.out.2.1.trans HI.out.2.2.1 hf46,HI.out.2.2.1.trans (by
      rcases hm6 with hm | ⟨g,hm,hg⟩
      ·exact .inl hm
      ·exact .inr ⟨g,hm,Nat.le_trans HB4.out.size hg⟩) HI.out.2.1.size,?_,?_⟩⟩
     ·have h8:=HI.out.2.2.2.1
      rw [HD.out.1,varss] at h8
      exact h8
     ·have h8:=HI.out.2.2.2.2
      rw [HD.out.2] at h8
      have:=vars_len (.mk k4 n4 m4 b4 v4 ts4) out2
      omega
    case measure=>
     have:=HLT.out
     show ((L:Int) - ((i:Int)+1)).toNat<((L:Int) - (i:Int)).toNat
     omega
   ·have ei:i=L:=by omega
    subst ei
    have HE9:=Qh (show out2=R from by
     have h8:=HI.out.2.2.2.1
     rw [List.drop_of_length_le (by rw [HL.out];exact Nat.le_refl _),varss] at h8
     exact h8)
    clear hlt hi
    go_wp2
    have HP:=Qh (show EachPost w Sb Ob mb' r0 R (.returned (.tuple #[])) wr from ⟨rfl,A2,n2,c2,by rw [←HE9.out];exact HI.out.1,(Fr.below HB1.out.1).trans (.inl rfl) HI.out.2.1,by
     rcases HI.out.2.2.1 with hm | ⟨q,hm,hq⟩
     ·exact .inl hm
     ·exact .inr ⟨q,hm,Nat.le_trans HB1.out.1.size hq⟩⟩)
    first
     | exact bodyPost_ret (results_none rfl _ _ _) rfl HP.out
     | exact bodyPost_end (results_none rfl _ _ _) rfl HP.out
theorem own_raise {w:World} {B n c:Nat} {A:Option Addr} {xs:List Value} (h:Own 3 w 0 A n c xs) (hb:∀ g,(Value.slice A n c).ownBlock=some g→B≤g):Own 3 w B A n c xs:=by
 refine ⟨h.1,?_⟩
 rcases h.2 with h1 | ⟨g,cap,cur,e,h2,h3⟩
 ·exact .inl h1
 ·exact .inr ⟨g,cap,cur,e,hb g (by rw [e];rfl),h3⟩
theorem variables_any {w:World} {A:Option Addr} {c:Nat} {t:Tm} {sl:Value} (h:RowP w (fun b=>b<w.heap.size) A 1 [(t,sl)]) (hsz:sz t≤100000) :
  Calls Tryd.prog 58 #[.slice A 1 c] w fun e w'=>∃ A' n' c',e = .returned (.slice A' n' c')∧Own 3 w' w.heap.size A' n' c' (zs (vars t []))∧Below w.heap.size w w':=by
 have hmf:∀ (fn:Fn) (first cap:Array Value) (w:World),(Instr.makeFunc fn first cap).run Tryd.prog w = .ok (.func fn first cap) w:=fun _ _ _ _=>rfl
 have hmm:=@run_makeMap Tryd.prog
 obtain ⟨g,o,rfl,hg,hel⟩:=h.elt (i:=0) (p:=(t,sl)) rfl
 obtain ⟨A4,c4,k4,n4,m4,b4,v4,ts4,nb4,mb4,rfl,hnb4,hmb4,hta,q0,q1,q2,q3,q4,q5⟩:=EltP.cells hel
 obtain ⟨L4,hL4⟩:∃ q,ts4.length=q:=⟨_,rfl⟩
 rw [hL4] at q5 hta
 rw [Nat.zero_mul,Nat.add_zero] at q0 q1 q2 q3 q4 q5
 obtain ⟨W1,hW1⟩:∃ W1,w.alloc (.cells #[.slice none 0 0] 57)=W1:=⟨_,rfl⟩
 obtain ⟨W2,hW2⟩:∃ W2,W1.alloc (.map #[] 0)=W2:=⟨_,rfl⟩
 obtain ⟨W3,hW3⟩:∃ W3,W2.alloc (.cells #[.map (some W1.heap.size)] 99)=W3:=⟨_,rfl⟩
 have d1:Below w.heap.size w W1:=by rw [←hW1];exact Qb
 have s1:W1.heap.size=w.heap.size+1:=by rw [←hW1];simp
 have d2:Below W1.heap.size W1 W2:=by rw [←hW2];exact Qb
 have s2:W2.heap.size=W1.heap.size+1:=by rw [←hW2];simp
 have d3:Below W2.heap.size W2 W3:=by rw [←hW3];exact Qb
 have s3:W3.heap.size=W2.heap.size+1:=by rw [←hW3];simp
 have X1:W1.heap[w.heap.size]?=some (.cells #[.slice none 0 0] 57 (0,0)):=by rw [←hW1];exact heap_alloc_new w _
 have X2:SetOf W2 W1.heap.size []:=by rw [←hW2];exact SetOf.made W1
 have X3:W3.heap[W2.heap.size]?=some (.cells #[.map (some W1.heap.size)] 99 (0,0)):=by rw [←hW3];exact heap_alloc_new W2 _
 have hbw:Below w.heap.size w W3:=d1.trans ((d2.trans (d3.mono (by omega))).mono (by omega))
 obtain ⟨G,hG⟩:∃ G,w.heap.size=G:=⟨_,rfl⟩
 have hVS:VS W3 W2.heap.size w.heap.size W1.heap.size none 0 0 []:=⟨X3,(d3.block _ (by omega)).trans ((d2.block _ (by omega)).trans X1),⟨rfl,.inl ⟨rfl,rfl⟩⟩,X2.kept (d3.block _ (by omega)),⟨by omega,by omega,by omega⟩,by simp [Value.ownBlock]⟩
 rw [s2,s1,hG] at hVS
 have HN:=Qh (Qa hnb4 (Qa hmb4 hL4))
 have HT:=Qh (show ∀ x,Below w.heap.size w x→TAtP x (fun b=>b<w.heap.size) (.mk k4 n4 m4 b4 v4 ts4) (.slice A4 L4 c4)∧x.heap[g]?=w.heap[g]? from fun x hb=>⟨hta.below hb (fun b hb=>hb),hb.block g hg⟩)
 have HQ:=Qh (Qa q0 (Qa q1 (Qa q2 (Qa q3 (Qa q4 q5)))))
 have HV:=Qh (Qa hVS (Qa hbw (Qa hG hsz)))
 have HWe:=Qh (show ((w.alloc (.cells #[.slice none 0 0] 57)).alloc (.map #[] 0)).alloc (.cells #[.map (some (w.heap.size+1))] 99)=W3 from by rw [hW1,hW2,←s1,hW3])
 clear h hel hta q0 q1 q2 q3 q4 q5 hnb4 hmb4 hL4 d1 d2 d3 s1 s2 s3 X1 X2 X3 hbw hVS hW1 hW2 hW3 hsz hG
 go_enter Tryd.func58,Tryd.ntmps58
 go_upto_region 4 with fail
 rw [HWe.out,HV.out.2.2.1]
 go_loopw [10] (fun v10 wr=>∃ A n c i out2,v10 = .int .i64 ((i:Nat):Int)∧i≤1∧Hid (VS wr (G+1+1) G (G+1) A n c out2∧Fr G (G+1) none W3 wr∧Mov W3 none (Value.slice A n c).ownBlock∧(i=0→out2 = [])∧(i=1→out2=vars (.mk k4 n4 m4 b4 v4 ts4) []))) (fun v10 _=>(1 - intOf v10).toNat)
 case atStart=>exact ⟨none,0,0,0,[],rfl,Nat.zero_le _,Qh ⟨HV.out.1,Fr.refl _ _ _ _,.inl rfl,fun _=>rfl,fun h=>by omega⟩⟩
 case round=>
  obtain ⟨A2,n2,c2,i,out2,rfl,hi,HI⟩:=hrel
  have hbr:Below w.heap.size w wr:=by
   have h1:=HV.out.2.1
   have h2:=HI.out.2.1
   have h3:=HV.out.2.2.1
   exact ⟨h2.os.trans h1.os,h2.tape.trans h1.tape,h2.output.trans h1.output,Nat.le_trans h1.size h2.size,fun j hj=>(h2.block j (Ql hj h1.size) (by omega) (by omega) (by simp)).trans (h1.block j hj)⟩
  have HBr:=Qh hbr
  clear hbr
  by_cases hi0:i=0
  ·subst hi0
   have hout:=HI.out.2.2.2.1 rfl
   subst hout
   obtain ⟨htr,hgb⟩:=HT.out wr HBr.out
   obtain ⟨q0,q1,q2,q3,q4,q5⟩:=HQ.out
   have p0:=(Qc (a:=⟨g,o,none⟩) hgb).trans q0
   have p1:=(Qc (a:=⟨g,o+1,none⟩) hgb).trans q1
   have p2:=(Qc (a:=⟨g,o+2,none⟩) hgb).trans q2
   have p3:=(Qc (a:=⟨g,o+3,none⟩) hgb).trans q3
   have p4:=(Qc (a:=⟨g,o+4,none⟩) hgb).trans q4
   have p5:=(Qc (a:=⟨g,o+5,none⟩) hgb).trans q5
   obtain ⟨W4,hW4⟩:∃ W4,wr.alloc (.cells (Q5 k4 nb4 mb4 b4 v4 (.slice A4 L4 c4)) 25)=W4:=⟨_,rfl⟩
   have hb4:Below wr.heap.size wr W4:=by rw [←hW4];exact Qb
   have hX4:TBox W4 wr.heap.size (.mk k4 n4 m4 b4 v4 ts4) (.slice A4 L4 c4):=by rw [←hW4];exact TBox.new wr HN.out.1 HN.out.2.1
   obtain ⟨y0,y1,y2,y3,y4,y5⟩:=hX4.cells HN.out.1 HN.out.2.1
   have hown:∀ q,(Value.slice A2 n2 c2).ownBlock=some q→W3.heap.size≤q:=fun q hq=>by
    rcases HI.out.2.2.1 with hm | ⟨g2,hm,hg2⟩
    ·rw [hm] at hq;cases hq
    ·rw [hm] at hq;injection hq with hq;omega
   have HCl:=Qh (walk_any _ W4 _ (G+1+1) G (G+1) A2 n2 c2 [] (HI.out.1.below hb4) (TAtP.keep _ htr (fun b hb=>⟨⟨by have:=HBr.out.size;have:=hb4.size;omega,by have:=HV.out.2.2.1;omega,by have:=HV.out.2.2.1;omega,fun e=>by have:=hown b e;have:=HV.out.2.1.size;omega⟩,hb4.block b (Ql hb HBr.out.size)⟩)) (by have:=HV.out.2.2.2;unfold BigN;simp;omega))
   rw [valT_mk HN.out.1 HN.out.2.1,show eachV (G+1+1) G = .func (.func 71) #[] #[.pointer (some ⟨G+1+1,0,none⟩),.pointer (some ⟨G,0,none⟩)] from rfl] at HCl
   have HB4:=Qh hb4
   subst hW4
   clear htr hgb q0 q1 q2 q3 q4 q5 hb4 hX4 hown
   go_wp2_with (go_at_call 70;(with_reducible refine HCl.out.mono ?_);rintro e w6 ⟨rfl,A6,n6,c6,hv6,hf6,hm6⟩;have H6:=Qh (Qa hv6 (Qa hf6 hm6));clear hv6 hf6 hm6)
   go_roundw
   case rel=>
    obtain ⟨hv6,hf6,hm6⟩:=H6.out
    have hf46:Fr G (G+1) (Value.slice A2 n2 c2).ownBlock wr w6:=(Fr.below HB4.out).trans (.inl rfl) hf6
    refine ⟨A6,n6,c6,1,_,rfl,Nat.le_refl _,Qh ⟨hv6,HI.out.2.1.trans HI.out.2.2.1 hf46,HI.out.2.2.1.trans (by
     rcases hm6 with hm | ⟨g,hm,hg⟩
     ·exact .inl hm
     ·exact .inr ⟨g,hm,Nat.le_trans HB4.out.size hg⟩) HI.out.2.1.size,fun h=>by omega,fun _=>rfl⟩⟩
   case measure=>
    show (1 - (0+1):Int).toNat<(1 - 0:Int).toNat
    omega
  ·have ei:i=1:=by omega
   subst ei
   have hout:=HI.out.2.2.2.2 rfl
   subst hout
   have cO:=cell_of_one HI.out.1.o
   clear hi0
   go_wp2
   go_ret
   refine ⟨A2,n2,c2,rfl,own_raise HI.out.1.own (fun q hq=>?_),HBr.out⟩
   rcases HI.out.2.2.1 with hm | ⟨g2,hm,hg2⟩
   ·rw [hm] at hq;cases hq
   ·rw [hm] at hq;injection hq with hq;have:=HV.out.2.1.size;omega
theorem Variables_any {w0 w:World} {A:Option Addr} {c:Nat} {t:Tm} {sl:Value} (h:RowP w (fun b=>b<w.heap.size) A 1 [(t,sl)]) (hc:1≤c) (hck:checkP t=0) (hU:UOk w0 w) :
  Calls Tryd.prog 28 #[.slice A 1 c] w fun e w'=>∃ A' n' c',e = .returned (.tuple #[.slice A' n' c',.int .i64 0])∧Own 3 w' w.heap.size A' n' c' (zs (vars t []))∧Below w.heap.size w w':=by
 have hC:=checks_any (w0:=w0) (c:=c) h (fun b hb=>hb) (by unfold maxArgs;omega) hc hU
 have e0:checksP ([(t,sl)].map (·.1))=0:=by
  show checksP [t]=0
  unfold checksP checks
  rw [if_neg (by simpa using hck)]
  rfl
 rw [e0] at hC
 have hV:=fun u (hb:Below w.heap.size w u)=>variables_any (w:=u) (c:=c) ((h.below hb (fun b hb=>hb)).wide' (fun b hb2=>Ql hb2 hb.size)) (by have:=(check_iff.1 hck).1;omega)
 have HC:=Qh hC
 have HV:=Qh hV
 clear h hC hV hck hU e0
 go_enter Tryd.func28,Tryd.ntmps28
 go_wp2_with (first
  | (go_at_call 57;(with_reducible refine HC.out.mono ?_);rintro e w2 ⟨rfl,hb2⟩;have HB2:=Qh hb2;clear hb2)
  | (go_at_call 58;(with_reducible refine (HV.out _ HB2.out).mono ?_);rintro e w3 ⟨A3,n3,c3,rfl,ho3,hb3⟩;have H3:=Qh (Qa (Own.mono ho3 HB2.out.size) (Qt HB2.out hb3));clear ho3 hb3))
 go_ret2
 exact ⟨A3,n3,c3,rfl,H3.out.1,H3.out.2⟩
end Go.Proofs.YtgfeainpeplphaaDoor
namespace Go.Proofs.YtgfeainpeplphaaDoor
open Go Go.RowKit
section
variable {P:Program} {md:Region.Mode} {ops:Array Oper} {Q:Exit→Act→World→Prop} {S:World→Prop} {st:Nat}
def flAll:List Nat→Array Bool→Array Bool
 | [],l=>l
 | i :: E,l=>(flAll E l).setIfInBounds i true
def flL (D:Nat→Option Nat):List Nat→Array Bool→Array Bool
 | [],l=>l
 | i :: E,l=>if (D i).isSome then (flL D E l).setIfInBounds i true else flL D E l
def flA (ops:Array Oper) (D:Nat→Option Nat):List Nat→Act→Act
 | [],a=>a
 | i :: E,a=>match D i with
  | some H=>(flA ops D E a).put ((ops[i]?).bind (·.dst)) (.pointer (some ⟨H,0,none⟩))
  | none=>flA ops D E a
def pend (md:Region.Mode) (ops:Array Oper) (listed:Array Bool) (E:List Nat):List Nat:=
 (List.range ops.size).filter fun i=>!E.contains i && !listed.getD i true && ((ops[i]?).map fun o=>(o.after.all fun e=>!Region.binds md e || listed.getD e.on false || E.contains e.on) && E.any fun f=>o.after.all fun e=>!Region.binds md e || e.on != f).getD false
def farFrom (ops:Array Oper) (E:List Nat) (o:Oper):Bool:=E.all fun f=>match (ops[f]?).bind (·.dst) with
 | some d=>!(o.looksAt ops).contains d && o.dst != some d
 | none=>true
def floatsB (md:Region.Mode) (ops:Array Oper):List Nat→Bool
 | []=>true
 | i :: E=>!E.contains i && (match ops[i]? with
  | some o=>o.guard.isNone && (o.after.all fun e=>!Region.binds md e) && (match o.dst with
   | some d=>E.all fun j=>(ops[j]?).bind (·.dst) != some d
   | none=>false)
  | none=>false) && floatsB md ops E
def FloatRun (P:Program) (ops:Array Oper) (E:List Nat) (obj:Nat→Obj):Prop:=∀ i∈E,∀ o,ops[i]?=some o→∀ (a:Act) (w:World),(execOp a.eval o).run P w = .ok (.value (.pointer (some ⟨w.heap.size,0,none⟩))) (w.alloc (obj i))
theorem flL_getD (D:Nat→Option Nat) {j:Nat} {d:Bool} {l:Array Bool} : ∀ E:List Nat,((E.contains j && (D j).isSome)=false)→(flL D E l).getD j d=l.getD j d
 | [],_=>rfl
 | i :: E,h=>by
  have h':(E.contains j && (D j).isSome)=false:=by
   rw [List.contains_cons] at h
   cases hc:(D j).isSome
   ·simp
   ·rw [hc] at h;simp at h;simp [h.2]
  unfold flL
  split
  ·rename_i hs
   have hne:i≠j:=fun e=>by subst e;simp [hs] at h
   rw [getD_set_ne d hne];exact flL_getD D E h'
  ·exact flL_getD D E h'
theorem flL_or (D:Nat→Option Nat) {j:Nat} {l:Array Bool} : ∀ E:List Nat,(flL D E l).getD j false=true→l.getD j false=true∨(j∈E∧(D j).isSome=true)
 | [],h=>.inl h
 | i :: E,h=>by
  unfold flL at h
  split at h
  ·rename_i hs
   by_cases hij:i=j
   ·subst hij;exact .inr ⟨List.mem_cons_self,hs⟩
   ·rw [getD_set_ne false hij] at h
    exact (flL_or D E h).imp id fun h=>⟨List.mem_cons_of_mem _ h.1,h.2⟩
  ·exact (flL_or D E h).imp id fun h=>⟨List.mem_cons_of_mem _ h.1,h.2⟩
theorem flL_set (D:Nat→Option Nat) {j:Nat} {l:Array Bool} : ∀ E:List Nat,j∉E→flL D E (l.setIfInBounds j true)=(flL D E l).setIfInBounds j true
 | [],_=>rfl
 | i :: E,h=>by
  have h1:j∉E:=fun h'=>h (List.mem_cons_of_mem _ h')
  have h2:i≠j:=fun e=>h (e ▸ List.mem_cons_self)
  unfold flL
  split
  ·rw [flL_set D E h1,Array.setIfInBounds_comm _ _ (Ne.symm h2)]
  ·exact flL_set D E h1
theorem flL_all (D:Nat→Option Nat) {l:Array Bool} : ∀ E:List Nat,(∀ i∈E,(D i).isSome=true)→flL D E l=flAll E l
 | [],_=>rfl
 | i :: E,h=>by
  unfold flL flAll
  rw [if_pos (h i List.mem_cons_self),flL_all D E fun j hj=>h j (List.mem_cons_of_mem _ hj)]
def upd (D:Nat→Option Nat) (i H:Nat):Nat→Option Nat:=fun j=>if j=i then some H else D j
theorem flL_same {D D':Nat→Option Nat} {l:Array Bool} : ∀ E:List Nat,(∀ j∈E,D j=D' j)→flL D E l=flL D' E l
 | [],_=>rfl
 | i :: E,h=>by
  unfold flL
  rw [h i List.mem_cons_self,flL_same E fun j hj=>h j (List.mem_cons_of_mem _ hj)]
theorem flA_same {D D':Nat→Option Nat} {a:Act} : ∀ E:List Nat,(∀ j∈E,D j=D' j)→flA ops D E a=flA ops D' E a
 | [],_=>rfl
 | i :: E,h=>by
  unfold flA
  rw [h i List.mem_cons_self,flA_same E fun j hj=>h j (List.mem_cons_of_mem _ hj)]
theorem flL_upd {D:Nat→Option Nat} {i H:Nat} {l:Array Bool} : ∀ E:List Nat,floatsB md ops E=true→i∈E→D i=none→flL (upd D i H) E l=(flL D E l).setIfInBounds i true
 | [],_,hi,_=>by cases hi
 | k :: E,hf,hi,hn=>by
  simp only [floatsB,Bool.and_eq_true,Bool.not_eq_true'] at hf
  have hk:k∉E:=by simpa using hf.1.1
  by_cases hki:k=i
  ·subst hki
   unfold flL
   rw [hn]
   simp only [upd,if_pos,Option.isSome_some,Option.isSome_none,Bool.false_eq_true,if_false]
   rw [flL_same (D:=upd D k H) (D':=D) E fun j hj=>if_neg (fun e:j=k=>hk (by rw [←e];exact hj))]
  ·have hi':i∈E:=(List.mem_cons.1 hi).resolve_left (Ne.symm hki)
   unfold flL
   have:upd D i H k=D k:=if_neg hki
   rw [this,flL_upd E hf.2 hi' hn]
   split
   ·rw [Array.setIfInBounds_comm _ _ (Ne.symm hki)]
   ·rfl
theorem floatsB_dst {i:Nat} : ∀ E:List Nat,floatsB md ops E=true→i∈E→∃ o d,ops[i]?=some o∧o.guard=none∧o.dst=some d∧(∀ e∈o.after,Region.binds md e=false)
 | [],_,hi=>by cases hi
 | k :: E,hf,hi=>by
  simp only [floatsB,Bool.and_eq_true] at hf
  rcases List.mem_cons.1 hi with rfl | hi
  ·have h:=hf.1.2
   cases ho:ops[i]? with
   | none=>rw [ho] at h;simp at h
   | some o=>
    rw [ho] at h
    simp only [Bool.and_eq_true] at h
    cases hd:o.dst with
    | none=>rw [hd] at h;simp at h
    | some d=>exact ⟨o,d,rfl,by simpa using h.1.1,hd,fun e he=>by have:=Array.all_eq_true'.1 h.1.2 e he;simpa using this⟩
  ·exact floatsB_dst E hf.2 hi
theorem flA_upd {D:Nat→Option Nat} {i H:Nat} {a:Act} : ∀ E:List Nat,floatsB md ops E=true→i∈E→D i=none→flA ops (upd D i H) E a=(flA ops D E a).put ((ops[i]?).bind (·.dst)) (.pointer (some ⟨H,0,none⟩))
 | [],_,hi,_=>by cases hi
 | k :: E,hf,hi,hn=>by
  simp only [floatsB,Bool.and_eq_true,Bool.not_eq_true'] at hf
  have hk:k∉E:=by simpa using hf.1.1
  by_cases hki:k=i
  ·subst hki
   unfold flA
   rw [hn]
   have:upd D k H k=some H:=if_pos rfl
   rw [this]
   simp only
   rw [flA_same (D:=upd D k H) (D':=D) E fun j hj=>if_neg (fun e:j=k=>hk (by rw [←e];exact hj))]
  ·have hi':i∈E:=(List.mem_cons.1 hi).resolve_left (Ne.symm hki)
   unfold flA
   have:upd D i H k=D k:=if_neg hki
   rw [this,flA_upd E hf.2 hi' hn]
   split
   ·rw [Act.put_comm]
    intro d hd he
    have h:=hf.1.2
    cases ho:ops[k]? with
    | none=>rw [ho] at h;simp at h
    | some o=>
     rw [ho] at h he
     simp only [Bool.and_eq_true] at h
     have he':o.dst=some d:=he
     rw [he'] at h
     have:=List.all_eq_true.1 h.2 i hi'
     rw [hd] at this
     simp at this
   ·rfl
theorem wpOp_under {j:Nat} {oj:Oper} {d:Tmp} {v:Value} (hj:ops[j]?=some oj) (hsj:∀ cs b,oj.op ≠ .select cs b) (hlook:d∉oj.looksAt ops) (hdst:oj.dst≠some d)
  (hQ:∀ c (a:Act) d v w,Q (.panic c) a w→Q (.panic c) (a.put (some d) v) w) {K:Act→World→Prop} {a:Act} {w:World} (h:wpOp P ops Q j (fun a' w'=>K (a'.put (some d) v) w') a w) :
  wpOp P ops Q j K (a.put (some d) v) w:=by
 have h1:∀ d',some d=some d'→d'∉oj.looksAt ops:=fun d' e=>by injection e with e;exact e ▸ hlook
 have h2:∀ d',oj.dst=some d'→some d≠some d':=fun d' e e2=>hdst (e.trans e2.symm)
 unfold wpOp at *
 simp only [hj] at *
 rw [wanted_put oj a (some d) v h1]
 split
 ·rename_i hw
  simp only [hw,if_true] at h
  rcases h with h | ⟨hasks,hlets⟩
  case inr=>exact .inr ⟨by unfold Oper.asks at *;rw [execOp_put oj hsj a (some d) v h1];exact hasks,hlets⟩
  refine .inl ?_
  unfold Oper.wp at *
  rw [execOp_put oj hsj a (some d) v h1]
  generalize (execOp a.eval oj).run P w=r at *
  cases r with
  | ok n w'=>
   cases n <;> simp only [Oper.upon] at h ⊢
   case value u=>rw [←Act.put_comm a u v h2];exact h
   case skip=>rw [←Act.put_comm a undef v h2];exact h
   case defer dd=>
    rw [Act.put_defers,←Act.put_comm _ undef v h2]
    exact h
   case enter f args=>
    refine Calls.mono h fun e w'' he=>?_
    cases e with
    | returned u=>
     show K ((a.put (some d) v).put oj.dst u) w''
     rw [←Act.put_comm a u v h2];exact he
    | panicked c=>exact hQ _ _ _ _ _ he
    | outgrown=>exact he
   case row row args=>exact Rows.mono h fun u w'' he=>by rw [←Act.put_comm a u v h2];exact he
  | halt x w'=>
   cases x <;> simp only [Oper.upon] at h ⊢
   case panic u=>exact hQ _ _ _ _ _ h
 ·rename_i hw
  simp only [hw] at h
  rw [←Act.put_comm a undef v h2];exact h
theorem farFrom_spec {o:Oper} : ∀ E:List Nat,farFrom ops E o=true→∀ f∈E,∀ d,(ops[f]?).bind (·.dst)=some d→d∉o.looksAt ops∧o.dst≠some d:=fun E h f hf d hd=>by
 have h1:=List.all_eq_true.1 h f hf
 rw [hd] at h1
 simpa using h1
theorem wpOp_far {j:Nat} {oj:Oper} (hj:ops[j]?=some oj) (hsj:∀ cs b,oj.op ≠ .select cs b) (hQ:∀ c (a:Act) d v w,Q (.panic c) a w→Q (.panic c) (a.put (some d) v) w) (D:Nat→Option Nat) :
  ∀ (E:List Nat),floatsB md ops E=true→farFrom ops E oj=true→∀ {K:Act→World→Prop} {a:Act} {w:World},wpOp P ops Q j (fun a' w'=>K (flA ops D E a') w') a w→wpOp P ops Q j K (flA ops D E a) w
 | [],_,_,_,_,_,h=>h
 | i :: E,hf,hfar,K,a,w,h=>by
  have hff:=hf
  have hfar':=farFrom_spec _ hfar i List.mem_cons_self
  simp only [floatsB,Bool.and_eq_true] at hf
  simp only [farFrom,List.all_cons,Bool.and_eq_true] at hfar
  obtain ⟨o,d,ho,_,hd,_⟩:=floatsB_dst _ hff List.mem_cons_self
  have hod:(ops[i]?).bind (·.dst)=some d:=by rw [ho];exact hd
  unfold flA at h ⊢
  cases hD:D i with
  | none=>
   simp only [hD] at h ⊢
   exact wpOp_far hj hsj hQ D E hf.2 hfar.2 h
  | some H=>
   simp only [hD,hod] at h ⊢
   exact wpOp_under hj hsj (hfar' d hod).1 (hfar' d hod).2 hQ (wpOp_far hj hsj hQ D E hf.2 hfar.2 (K:=fun a' w'=>K (a'.put (some d) _) w') h)
def FlOk (E:List Nat) (obj:Nat→Obj) (D:Nat→Option Nat) (w:World) (G:Nat→Prop):Prop:=
 (∀ i∈E,∃ H,D i=some H∧w.heap[H]?=some (obj i)∧G H)∧∀ i∈E,∀ j∈E,i≠j→D i≠D j
def gapTo (G:Nat→Prop) (w w':World):Nat→Prop:=fun b=>G b∨(w.heap.size≤b∧b<w'.heap.size)
def wpAnyF (P:Program) (md:Region.Mode) (ops:Array Oper) (Q:Exit→Act→World→Prop) (S:World→Prop) (st:Nat) (E:List Nat) (obj:Nat→Obj):Nat→Array Bool→Act→World→(Nat→Prop)→Prop
 | 0,listed,a,w,G=>∀ w',Below w.heap.size w w'→S w' →
  (∀ D,FlOk E obj D w' (gapTo G w w')→wpAnyW P md ops Q S st 0 (flL D E listed) (flA ops D E a) w')∧pend md ops listed E = []
 | fuel+1,listed,a,w,G=>∀ w',Below w.heap.size w w'→S w' →
  (∀ D,FlOk E obj D w' (gapTo G w w')→wpAnyW P md ops Q S st (fuel+1) (flL D E listed) (flA ops D E a) w') ∧
  ∀ i∈pend md ops listed E,i∉E∧∃ o,ops[i]?=some o∧farFrom ops E o=true∧wpOp P ops Q i (fun a' w''=>Below w'.heap.size w' w''∧S w''∧wpAnyF P md ops Q S st E obj fuel (listed.setIfInBounds i true) a' w'' (gapTo G w w')) a w'
variable {E:List Nat} {obj:Nat→Obj}
theorem FlOk.more {D:Nat→Option Nat} {w:World} {G G':Nat→Prop} (h:FlOk E obj D w G) (hG:∀ b,G b→G' b):FlOk E obj D w G':=
 ⟨fun i hi=>let ⟨H,h1,h2,h3⟩:=h.1 i hi;⟨H,h1,h2,hG _ h3⟩,h.2⟩
theorem FlOk.below {D:Nat→Option Nat} {w w':World} {G:Nat→Prop} (h:FlOk E obj D w G) (hb:Below w.heap.size w w'):FlOk E obj D w' G:=
 ⟨fun i hi=>let ⟨H,h1,h2,h3⟩:=h.1 i hi;⟨H,h1,(hb.block H (Array.getElem?_eq_some_iff.1 h2).1).trans h2,h3⟩,h.2⟩
theorem gapTo_back {G:Nat→Prop} {w w1 w2:World} (h1:w.heap.size≤w1.heap.size) (h2:w1.heap.size≤w2.heap.size) (b:Nat) (h:gapTo (gapTo G w w1) w1 w2 b):gapTo G w w2 b:=by
 unfold gapTo at *
 rcases h with (h | h) | h
 ·exact .inl h
 ·exact .inr ⟨h.1,by omega⟩
 ·exact .inr ⟨by omega,h.2⟩
theorem wpAnyF_gap:∀ {fuel:Nat} {listed:Array Bool} {a:Act} {w:World} {G G':Nat→Prop},(∀ b,G' b→G b)→wpAnyF P md ops Q S st E obj fuel listed a w G→wpAnyF P md ops Q S st E obj fuel listed a w G'
 | 0,_,_,_,_,_,hG,h=>fun w' hb hS=>⟨fun D hD=>(h w' hb hS).1 D (hD.more fun b=>Or.imp (hG b) id),(h w' hb hS).2⟩
 | fuel+1,_,_,_,_,_,hG,h=>fun w' hb hS=>⟨fun D hD=>(h w' hb hS).1 D (hD.more fun b=>Or.imp (hG b) id),fun i hi=>let ⟨h1,o,h2,h3,h4⟩:=(h w' hb hS).2 i hi
   ⟨h1,o,h2,h3,wpOp_mono (fun a' w'' h=>⟨h.1,h.2.1,wpAnyF_gap (fun b=>Or.imp (hG b) id) h.2.2⟩) h4⟩⟩
theorem wpAnyF_later {fuel:Nat} {listed:Array Bool} {a:Act} {w w1:World} {G:Nat→Prop} (hb:Below w.heap.size w w1) (h:wpAnyF P md ops Q S st E obj fuel listed a w G):wpAnyF P md ops Q S st E obj fuel listed a w1 (gapTo G w w1):=by
 cases fuel with
 | zero=>
  intro w' hb' hS
  have h:=h w' (Qt hb hb') hS
  exact ⟨fun D hD=>h.1 D (hD.more (gapTo_back hb.size hb'.size)),h.2⟩
 | succ fuel=>
  intro w' hb' hS
  have h:=h w' (Qt hb hb') hS
  refine ⟨fun D hD=>h.1 D (hD.more (gapTo_back hb.size hb'.size)),fun i hi=>?_⟩
  obtain ⟨h1,o,h2,h3,h4⟩:=h.2 i hi
  exact ⟨h1,o,h2,h3,wpOp_mono (fun a' w'' h=>⟨h.1,h.2.1,wpAnyF_gap (gapTo_back hb.size hb'.size) h.2.2⟩) h4⟩
theorem flL_done {D:Nat→Option Nat} {i:Nat} {l:Array Bool} : ∀ E:List Nat,i∈E→(D i).isSome=true→(flL D E l).getD i true=true
 | [],h,_=>by cases h
 | k :: E,h,hs=>by
  have key:∀ (l':Array Bool),(l'.setIfInBounds i true).getD i true=true:=fun l'=>by
   rcases Nat.lt_or_ge i l'.size with h' | h'
   ·simp [h']
   ·simp [Array.getElem?_eq_none (show (l'.setIfInBounds i true).size≤i by simpa using h')]
  unfold flL
  by_cases hk:k=i
  ·subst hk
   rw [if_pos hs];exact key _
  ·have h1:i∈E:=(List.mem_cons.1 h).resolve_left (Ne.symm hk)
   split
   ·rw [getD_set_ne true hk];exact flL_done E h1 hs
   ·exact flL_done E h1 hs
theorem pend_of_ready {D:Nat→Option Nat} {i f:Nat} {l:Array Bool} (hf:f∈E) (hn:D f=none) (hl:l.getD f true=false) (hi:i∉E) (h:i∈Region.ready md ops (flL D E l)):i∈pend md ops l E:=by
 obtain ⟨h0,o,ho,hall⟩:=mem_ready.1 h
 have hlt:i<ops.size:=(Array.getElem?_eq_some_iff.1 ho).1
 have hc:E.contains i=false:=by simpa using hi
 rw [flL_getD D E (by simp [hi])] at h0
 unfold pend
 rw [List.mem_filter,List.mem_range]
 refine ⟨hlt,?_⟩
 rw [ho]
 simp only [Option.map_some,Option.getD_some,Bool.and_eq_true,Bool.not_eq_true']
 refine ⟨⟨hc,h0⟩,Array.all_eq_true'.2 fun e he=>?_,List.any_eq_true.2 ⟨f,hf,Array.all_eq_true'.2 fun e he=>?_⟩⟩
 ·cases hb:Region.binds md e with
  | false=>simp
  | true=>
   rcases flL_or D E (hall e he hb) with h | h
   ·simp [h]
   ·simp [h.1]
 ·cases hb:Region.binds md e with
  | false=>simp
  | true=>
   have h1:=hall e he hb
   by_cases hef:e.on=f
   ·rw [hef,flL_getD D E (by simp [hn])] at h1
    rcases Nat.lt_or_ge f l.size with h' | h'
    ·simp [h'] at hl h1;rw [hl] at h1;cases h1
    ·simp [Array.getElem?_eq_none h'] at h1
   ·simp [hef]
def outs (D:Nat→Option Nat):List Nat→Nat
 | []=>0
 | i :: E=>(if (D i).isSome then 0 else 1)+outs D E
theorem outs_zero {D:Nat→Option Nat} : ∀ E:List Nat,outs D E=0→∀ i∈E,∃ H,D i=some H
 | [],_,_,h=>by cases h
 | k :: E,h0,i,h=>by
  unfold outs at h0
  rcases List.mem_cons.1 h with rfl | h
  ·cases hD:D i with
   | none=>rw [hD] at h0;simp at h0
   | some H=>exact ⟨H,rfl⟩
  ·exact outs_zero E (by omega) i h
theorem outs_pos {D:Nat→Option Nat} : ∀ E:List Nat,outs D E≠0→∃ f∈E,D f=none
 | [],h=>absurd rfl h
 | k :: E,h=>by
  unfold outs at h
  cases hD:D k with
  | none=>exact ⟨k,List.mem_cons_self,hD⟩
  | some H=>
   rw [hD] at h
   obtain ⟨f,hf,hn⟩:=outs_pos E (by simpa using h)
   exact ⟨f,List.mem_cons_of_mem _ hf,hn⟩
theorem outs_same {D D':Nat→Option Nat} : ∀ E:List Nat,(∀ j∈E,D j=D' j)→outs D E=outs D' E
 | [],_=>rfl
 | i :: E,h=>by
  unfold outs
  rw [h i List.mem_cons_self,outs_same E fun j hj=>h j (List.mem_cons_of_mem _ hj)]
theorem outs_upd {D:Nat→Option Nat} {i H:Nat} : ∀ E:List Nat,floatsB md ops E=true→i∈E→D i=none→outs D E=outs (upd D i H) E+1
 | [],_,hi,_=>by cases hi
 | k :: E,hf,hi,hn=>by
  simp only [floatsB,Bool.and_eq_true,Bool.not_eq_true'] at hf
  have hk:k∉E:=by simpa using hf.1.1
  by_cases hki:k=i
  ·subst hki
   unfold outs
   rw [hn,outs_same (D:=upd D k H) (D':=D) E fun j hj=>if_neg (fun e:j=k=>hk (by rw [←e];exact hj))]
   simp [upd];omega
  ·have hi':i∈E:=(List.mem_cons.1 hi).resolve_left (Ne.symm hki)
   unfold outs
   have:upd D i H k=D k:=if_neg hki
   rw [this,outs_upd (H:=H) E hf.2 hi' hn]
   omega
theorem wpAnyF_core (hf:floatsB md ops E=true) (hrun:FloatRun P ops E obj) (hSs:∀ w w',Below w.heap.size w w'→S w→S w') (hsel:Region.noSelect ops=true)
  (hQ:∀ c (a:Act) d v w,Q (.panic c) a w→Q (.panic c) (a.put (some d) v) w) :
  ∀ (n fuel:Nat) (listed:Array Bool) (a:Act) (w:World) (G:Nat→Prop) (D:Nat→Option Nat),n=fuel+outs D E→(∀ i∈E,listed.getD i true=false) →
   (∀ i∈E,∀ H,D i=some H→w.heap[H]?=some (obj i)∧G H)→(∀ i∈E,∀ j∈E,i≠j→∀ H,D i=some H→D j≠some H)→S w →
   wpAnyF P md ops Q S st E obj fuel listed a w G→wpAnyW P md ops Q S st n (flL D E listed) (flA ops D E a) w:=by
 have full:∀ {D:Nat→Option Nat} {w:World} {G:Nat→Prop},outs D E=0→(∀ i∈E,∀ H,D i=some H→w.heap[H]?=some (obj i)∧G H)→(∀ i∈E,∀ j∈E,i≠j→∀ H,D i=some H→D j≠some H)→FlOk E obj D w (gapTo G w w):=fun h0 hD hne=>by
  refine ⟨fun i hi=>?_,fun i hi j hj hij e=>?_⟩
  ·obtain ⟨H,hH⟩:=outs_zero E h0 i hi
   exact ⟨H,hH,(hD i hi H hH).1,.inl (hD i hi H hH).2⟩
  ·obtain ⟨H,hH⟩:=outs_zero E h0 i hi
   exact hne i hi j hj hij H hH (e ▸ hH)
 intro n
 induction n with
 | zero=>
  intro fuel listed a w G D hn hl hD hne hS h
  obtain rfl:fuel=0:=by omega
  have h0:outs D E=0:=by omega
  exact (h w (Below.refl _ _) hS).1 D (full h0 hD hne)
 | succ n ih=>
  intro fuel listed a w G D hn hl hD hne hS h
  by_cases h0:outs D E=0
  ·obtain rfl:fuel=n+1:=by omega
   exact (h w (Below.refl _ _) hS).1 D (full h0 hD hne)
  ·obtain ⟨f,hfE,hfn⟩:=outs_pos E h0
   have hfr:f∈Region.ready md ops (flL D E listed):=by
    obtain ⟨o,d,ho,hg,hd,hafter⟩:=floatsB_dst E hf hfE
    exact mem_ready.2 ⟨by rw [flL_getD D E (by simp [hfn])];exact hl f hfE,o,ho,fun e he hb=>by rw [hafter e he] at hb;cases hb⟩
   refine ⟨fun he=>absurd (he ▸ hfr) (by simp),fun i hi=>?_⟩
   by_cases hiE:i∈E
   ·obtain ⟨o,d,ho,hg,hd,hafter⟩:=floatsB_dst E hf hiE
    have hDi:D i=none:=by
     cases hDi:D i with
     | none=>rfl
     | some H=>
      have h1:=(mem_ready.1 hi).1
      rw [flL_done E hiE (by rw [hDi];rfl)] at h1
      cases h1
    have hb:Below w.heap.size w (w.alloc (obj i)):=Qb
    refine wpOp_step ho fun K' hK=>?_
    rw [if_pos (show Region.wanted o _=true from by unfold Region.wanted;rw [hg])]
    unfold Oper.wp
    rw [hrun i hiE o ho]
    refine hK _ _ ⟨fun _=>hSs _ _ hb hS,?_⟩
    have hput:(flA ops D E a).put o.dst (.pointer (some ⟨w.heap.size,0,none⟩))=flA ops (upd D i w.heap.size) E a:=by
     rw [flA_upd E hf hiE hDi,ho];rfl
    rw [hput,←flL_upd E hf hiE hDi (H:=w.heap.size)]
    refine ih fuel listed a (w.alloc (obj i)) (gapTo G w (w.alloc (obj i))) (upd D i w.heap.size) (by have:=outs_upd (H:=w.heap.size) E hf hiE hDi;omega) hl (fun j hj H hH=>?_) (fun j hj k hk hjk H hH hH2=>?_) (hSs _ _ hb hS) (wpAnyF_later hb h)
    ·unfold upd at hH
     by_cases hji:j=i
     ·rw [if_pos hji] at hH
      injection hH with hH
      subst hH hji
      exact ⟨heap_alloc_new w _,.inr ⟨Nat.le_refl _,by simp⟩⟩
     ·rw [if_neg hji] at hH
      obtain ⟨h1,h2⟩:=hD j hj H hH
      exact ⟨(hb.block H (Array.getElem?_eq_some_iff.1 h1).1).trans h1,.inl h2⟩
    ·unfold upd at hH hH2
     by_cases hji:j=i
     ·have hki:k≠i:=fun e=>hjk (hji.trans e.symm)
      rw [if_pos hji] at hH
      rw [if_neg hki] at hH2
      injection hH with hH
      have h1:=(Array.getElem?_eq_some_iff.1 (hD k hk H hH2).1).1
      omega
     ·rw [if_neg hji] at hH
      by_cases hki:k=i
      ·rw [if_pos hki] at hH2
       injection hH2 with hH2
       have h1:=(Array.getElem?_eq_some_iff.1 (hD j hj H hH).1).1
       omega
      ·rw [if_neg hki] at hH2
       exact hne j hj k hk hjk H hH hH2
   ·have hpe:=pend_of_ready hfE hfn (hl f hfE) hiE hi
    cases fuel with
    | zero=>
     rw [(h w (Below.refl _ _) hS).2] at hpe
     cases hpe
    | succ fuel=>
     obtain ⟨_,o,ho,hfar,hw⟩:=(h w (Below.refl _ _) hS).2 i hpe
     refine wpOp_far ho (fun cs b=>Region.noSelect_spec hsel i o cs b ho) hQ D E hf hfar (wpOp_mono (fun a' w'' h=>⟨fun _=>h.2.1,?_⟩) hw)
     rw [←flL_set D E hiE]
     refine ih fuel (listed.setIfInBounds i true) a' w'' (gapTo G w w) D (by omega) (fun j hj=>?_) (fun j hj H hH=>?_) hne h.2.1 h.2.2
     ·rw [getD_set_ne true (fun e=>hiE (by rw [e];exact hj))];exact hl j hj
     ·obtain ⟨h1,h2⟩:=hD j hj H hH
      exact ⟨(h.1.block H (Array.getElem?_eq_some_iff.1 h1).1).trans h1,.inl h2⟩
theorem wpAnyW_float (E:List Nat) (obj:Nat→Obj) {n fuel:Nat} {listed:Array Bool} {a:Act} {w:World} (hf:floatsB md ops E=true) (hl:(E.all fun i=>!listed.getD i true)=true) (hrun:FloatRun P ops E obj) (hSs:∀ w w',Below w.heap.size w w'→S w→S w') (hsel:Region.noSelect ops=true)
  (hQ:∀ c (a:Act) d v w,Q (.panic c) a w→Q (.panic c) (a.put (some d) v) w) (hn:n=fuel+E.length) (hS:S w) (h:wpAnyF P md ops Q S st E obj fuel listed a w (fun _=>False)):wpAnyW P md ops Q S st n listed a w:=by
 have h1:∀ E:List Nat,flL (fun _=>none) E listed=listed:=fun E=>by induction E with
  | nil=>rfl
  | cons i E ih=>simpa [flL] using ih
 have h2:∀ E:List Nat,flA ops (fun _=>none) E a=a:=fun E=>by induction E with
  | nil=>rfl
  | cons i E ih=>simpa [flA] using ih
 have h3:∀ E:List Nat,outs (fun _=>none) E=E.length:=fun E=>by induction E with
  | nil=>rfl
  | cons i E ih=>simp [outs,ih];omega
 have:=wpAnyF_core (D:=fun _=>none) hf hrun hSs hsel hQ n fuel listed a w (fun _=>False) (by rw [h3];exact hn) (fun i hi=>by simpa using List.all_eq_true.1 hl i hi) (fun _ _ _ h=>by cases h) (fun _ _ _ _ _ _ h=>by cases h) hS h
 rw [h1,h2] at this
 exact this
theorem wpAnyF_one {i:Nat} {o:Oper} {fuel:Nat} {listed:Array Bool} {a:Act} {w:World} {G:Nat→Prop} (hf:floatsB md ops E=true) (hsel:Region.noSelect ops=true) (hQ:∀ c (a:Act) d v w,Q (.panic c) a w→Q (.panic c) (a.put (some d) v) w)
  (hp:pend md ops listed E = [i]∧Region.ready md ops (flAll E listed) = [i]) (hiE:E.contains i=false) (ho:ops[i]?=some o) (hfar:farFrom ops E o=true)
  (h:∀ w',Below w.heap.size w w'→S w'→∀ K':Act→World→Prop,Shut (∀ a'' w'',Below w'.heap.size w' w''→S w''→wpAnyF P md ops Q S st E obj fuel (listed.setIfInBounds i true) a'' w'' (gapTo G w w')→K' a'' w'')→if Region.wanted o (yielded ops a.tmps)=true then Oper.wp P o a w' K' Q else K' (a.put o.dst undef) w') :
  wpAnyF P md ops Q S st E obj (fuel+1) listed a w G:=by
 have hiE':i∉E:=by simpa using hiE
 intro w' hb hS
 have hop:wpOp P ops Q i (fun a' w''=>Below w'.heap.size w' w''∧S w''∧wpAnyF P md ops Q S st E obj fuel (listed.setIfInBounds i true) a' w'' (gapTo G w w')) a w':=
  wpOp_step ho fun K' hK=>h w' hb hS K' (fun a'' w'' h1 h2 h3=>hK a'' w'' ⟨h1,h2,h3⟩)
 refine ⟨fun D hD=>?_,fun j hj=>?_⟩
 ·have hall:∀ i∈E,(D i).isSome=true:=fun i hi=>let ⟨H,hH,_⟩:=hD.1 i hi;by rw [hH];rfl
  have hr:Region.ready md ops (flL D E listed) = [i]:=by rw [flL_all D E hall];exact hp.2
  refine ⟨fun h0=>absurd (hr ▸ h0) (by simp),fun j hj=>?_⟩
  rw [hr] at hj
  obtain rfl:j=i:=by simpa using hj
  refine wpOp_far ho (fun cs b=>Region.noSelect_spec hsel j o cs b ho) hQ D E hf hfar (wpOp_mono (fun a' w'' h=>⟨fun _=>h.2.1,?_⟩) hop)
  rw [←flL_set D E hiE']
  have hD':FlOk E obj D w'' (gapTo (gapTo G w w') w'' w''):=(hD.below h.1).more fun _ h=>.inl h
  cases fuel with
  | zero=>exact (h.2.2 w'' (Below.refl _ _) h.2.1).1 D hD'
  | succ fuel=>exact (h.2.2 w'' (Below.refl _ _) h.2.1).1 D hD'
 ·rw [hp.1] at hj
  obtain rfl:j=i:=by simpa using hj
  exact ⟨hiE',o,ho,hfar,hop⟩
theorem wpAnyF_land {fuel:Nat} {listed:Array Bool} {a:Act} {w:World} {G:Nat→Prop} (hp:pend md ops listed E = [])
  (h:∀ w' D,Below w.heap.size w w'→S w'→FlOk E obj D w' (gapTo G w w')→wpAnyW P md ops Q S st fuel (flAll E listed) (flA ops D E a) w'):wpAnyF P md ops Q S st E obj fuel listed a w G:=by
 have key:∀ w',Below w.heap.size w w'→S w'→∀ D,FlOk E obj D w' (gapTo G w w')→wpAnyW P md ops Q S st fuel (flL D E listed) (flA ops D E a) w':=fun w' hb hS D hD=>by
  rw [flL_all D E fun i hi=>let ⟨H,hH,_⟩:=hD.1 i hi;by rw [hH];rfl]
  exact h w' D hb hS hD
 cases fuel with
 | zero=>exact fun w' hb hS=>⟨key w' hb hS,hp⟩
 | succ fuel=>exact fun w' hb hS=>⟨key w' hb hS,fun i hi=>by rw [hp] at hi;cases hi⟩
theorem wpAnyF_land2 {i j:Nat} {oi oj:Oper} {fuel:Nat} {listed:Array Bool} {a:Act} {w:World} {G:Nat→Prop} (hp:pend md ops listed [i,j] = []) (hij:(i==j)=false) (hi:ops[i]?=some oi) (hj:ops[j]?=some oj)
  (h:∀ w' HA HB,Below w.heap.size w w'→S w'→w'.heap[HA]?=some (obj i)→w'.heap[HB]?=some (obj j)→gapTo G w w' HA→gapTo G w w' HB→HA≠HB →
   wpAnyW P md ops Q S st fuel ((listed.setIfInBounds j true).setIfInBounds i true) ((a.put oj.dst (.pointer (some ⟨HB,0,none⟩))).put oi.dst (.pointer (some ⟨HA,0,none⟩))) w'):wpAnyF P md ops Q S st [i,j] obj fuel listed a w G:=
 wpAnyF_land hp fun w' D hb hS hD=>by
  obtain ⟨HA,h1,h2,h3⟩:=hD.1 i (by simp)
  obtain ⟨HB,k1,k2,k3⟩:=hD.1 j (by simp)
  have:=h w' HA HB hb hS h2 k2 h3 k3 (fun e=>hD.2 i (by simp) j (by simp) (by simpa using hij) (by rw [h1,k1,e]))
  simp only [flAll,flA,h1,k1,hi,hj,Option.bind_some]
  exact this
theorem pend_spec {j:Nat} {l:Array Bool} : j∈pend md ops l E↔j∉E∧l.getD j true=false∧∃ o,ops[j]?=some o∧(∀ e∈o.after,Region.binds md e=true→l.getD e.on false=true∨e.on∈E)∧∃ f∈E,∀ e∈o.after,Region.binds md e=true→e.on≠f:=by
 have bx:∀ {p q:Bool},(!p || q)=true↔(p=true→q=true):=by decide
 unfold pend
 rw [List.mem_filter,List.mem_range]
 cases ho:ops[j]? with
 | none=>simp
 | some o=>
  have hlt:j<ops.size:=(Array.getElem?_eq_some_iff.1 ho).1
  simp only [hlt,true_and,Option.map_some,Option.getD_some,Bool.and_eq_true,Bool.not_eq_true',Array.all_eq_true_iff_forall_mem,Bool.or_assoc,bx,Bool.or_eq_true,List.any_eq_true,bne_iff_ne,ne_eq,List.contains_eq_mem,decide_eq_false_iff_not,decide_eq_true_eq,Option.some.injEq,exists_eq_left',and_assoc]
theorem ready_flL {D:Nat→Option Nat} {i:Nat} {l:Array Bool} : ∀ E:List Nat,i∉E→i∈Region.ready md ops l→i∈Region.ready md ops (flL D E l)
 | [],_,h=>h
 | k :: E,hi,h=>by
  have h1:i∉E:=fun h'=>hi (List.mem_cons_of_mem _ h')
  have h2:i≠k:=fun e=>hi (e ▸ List.mem_cons_self)
  unfold flL
  split
  ·exact ready_mono (ready_flL E h1 h) h2
  ·exact ready_flL E h1 h
theorem flA_eval {o:Oper} (hs:∀ cs b,o.op ≠ .select cs b) (D:Nat→Option Nat) {a:Act} : ∀ E:List Nat,floatsB md ops E=true→farFrom ops E o=true →
  execOp (flA ops D E a).eval o=execOp a.eval o∧Region.wanted o (yielded ops (flA ops D E a).tmps)=Region.wanted o (yielded ops a.tmps)∧∀ v,(flA ops D E a).put o.dst v=flA ops D E (a.put o.dst v)
 | [],_,_=>⟨rfl,rfl,fun _=>rfl⟩
 | k :: E,hf,hfar=>by
  have hff:=hf
  have hfar':=farFrom_spec _ hfar k List.mem_cons_self
  simp only [floatsB,Bool.and_eq_true] at hf
  simp only [farFrom,List.all_cons,Bool.and_eq_true] at hfar
  obtain ⟨ok,d,ho,_,hd,_⟩:=floatsB_dst _ hff List.mem_cons_self
  have hod:(ops[k]?).bind (·.dst)=some d:=by rw [ho];exact hd
  obtain ⟨e1,e2,e3⟩:=flA_eval hs D (a:=a) E hf.2 hfar.2
  unfold flA
  cases hD:D k with
  | none=>exact ⟨e1,e2,e3⟩
  | some H=>
   simp only [hod]
   have h1:∀ d',some d=some d'→d'∉o.looksAt ops:=fun d' e=>by injection e with e;exact e ▸ (hfar' d hod).1
   refine ⟨(execOp_put o hs _ _ _ h1).trans e1,(wanted_put o _ _ _ h1).trans e2,fun v=>?_⟩
   rw [←e3 v,Act.put_comm _ _ v fun d' e=>by injection e with e;exact e ▸ (hfar' d hod).2]
theorem wpAnyF_first {i:Nat} {k:Nat} {oi:Oper} {v:Value} (hi:ops[i]?=some oi) (hsel:∀ (j:Nat) (o:Oper) cs b,ops[j]?=some o→o.op ≠ .select cs b) (hQ:∀ c a w,Q (.panic c) (a.put oi.dst v) w→Q (.panic c) a w)
  (hki:waitsFor md ops k i=true) (hnk:(k==i)=false) (hst:(st==k)=true∨waitsFor md ops st k=true) (hne:(st==i)=false) (hiE:i∉E) (hkE:k∉E) (hsE:st∉E) (hf:floatsB md ops E=true) (hfi:farFrom ops E oi=true) :
  ∀ (fuel:Nat) (listed:Array Bool) (a:Act) (w:World) (G:Nat→Prop),(∀ j oj,ops[j]?=some oj→j≠i→listed.getD j true=false→(∀ e∈oj.after,Region.binds md e=true→e.on≠i)→oi.apart ops oj=true)→i∈Region.ready md ops listed →
   listed.getD k true=false→listed.getD st true=false→YieldsIf P ops S oi v a →
   wpAnyF P md ops Q S st E obj fuel (listed.setIfInBounds i true) (a.put oi.dst v) w G→wpAnyF P md ops Q S st E obj (fuel+1) listed a w G:=by
 intro fuel
 induction fuel with
 | zero=>
  intro listed a w G hfree hr hk hl hy h w' hb hS
  have ee:=fun D=>flA_eval (md:=md) (a:=a) (hsel i oi · · hi) D E hf hfi
  refine ⟨fun D hD=>?_,fun j hj=>?_⟩
  ·refine wpAnyW_first hi hsel hQ hki hnk hst hne 0 (flL D E listed) (flA ops D E a) w' (fun j oj hj hji hun=>hfree j oj hj hji ?_) (ready_flL E hiE hr) (hy.of_same (ee D).1 (ee D).2.1) (by rw [flL_getD D E (by simp [hkE])];exact hk) (by rw [flL_getD D E (by simp [hsE])];exact hl) hS ?_
   ·cases hc:(E.contains j && (D j).isSome) with
    | false=>rw [flL_getD D E hc] at hun;exact hun
    | true=>
     simp only [Bool.and_eq_true] at hc
     rw [flL_done E (by simpa using hc.1) hc.2] at hun
     cases hun
   ·rw [(ee D).2.2,←flL_set D E hiE]
    exact (h w' hb hS).1 D hD
  ·by_cases hji:j=i
   ·subst hji
    exact ⟨hiE,oi,hi,hfi,hy.wpOp hi hS ⟨Below.refl _ _,hS,wpAnyF_later hb h⟩⟩
   ·have:=(h w' hb hS).2
    obtain ⟨p1,p2,o,p3,p4,p5⟩:=pend_spec.1 hj
    have hj':j∈pend md ops (listed.setIfInBounds i true) E:=pend_spec.2 ⟨p1,by rw [getD_set_ne true (Ne.symm hji)];exact p2,o,p3,fun e he hb=>(p4 e he hb).imp (fun h=>getD_set_true h) id,p5⟩
    rw [this] at hj'
    cases hj'
 | succ fuel ih=>
  intro listed a w G hfree hr hk hl hy h w' hb hS
  have ee:=fun D=>flA_eval (md:=md) (a:=a) (hsel i oi · · hi) D E hf hfi
  refine ⟨fun D hD=>?_,fun j hj=>?_⟩
  ·refine wpAnyW_first hi hsel hQ hki hnk hst hne (fuel+1) (flL D E listed) (flA ops D E a) w' (fun j oj hj hji hun=>hfree j oj hj hji ?_) (ready_flL E hiE hr) (hy.of_same (ee D).1 (ee D).2.1) (by rw [flL_getD D E (by simp [hkE])];exact hk) (by rw [flL_getD D E (by simp [hsE])];exact hl) hS ?_
   ·cases hc:(E.contains j && (D j).isSome) with
    | false=>rw [flL_getD D E hc] at hun;exact hun
    | true=>
     simp only [Bool.and_eq_true] at hc
     rw [flL_done E (by simpa using hc.1) hc.2] at hun
     cases hun
   ·rw [(ee D).2.2,←flL_set D E hiE]
    exact (h w' hb hS).1 D hD
  ·by_cases hji:j=i
   ·subst hji
    exact ⟨hiE,oi,hi,hfi,hy.wpOp hi hS ⟨Below.refl _ _,hS,wpAnyF_later hb h⟩⟩
   ·obtain ⟨p1,p2,o,p3,p4,p5⟩:=pend_spec.1 hj
    have hj':j∈pend md ops (listed.setIfInBounds i true) E:=pend_spec.2 ⟨p1,by rw [getD_set_ne true (Ne.symm hji)];exact p2,o,p3,fun e he hb=>(p4 e he hb).imp (fun h=>getD_set_true h) id,p5⟩
    obtain ⟨_,oj,hoj,hfar,hw⟩:=(h w' hb hS).2 j hj'
    obtain rfl:o=oj:=by rw [p3] at hoj;injection hoj
    have hiun:=(mem_ready.1 hr).1
    have hnw:∀ e∈o.after,Region.binds md e=true→e.on≠i:=fun e he hb heq=>by
     rcases p4 e he hb with h0 | h0
     ·rw [heq] at h0
      rcases Nat.lt_or_ge i listed.size with h' | h'
      ·simp [h'] at hiun h0;rw [hiun] at h0;cases h0
      ·simp [Array.getElem?_eq_none h'] at h0
     ·exact hiE (heq ▸ h0)
    have nw:∀ {q r:Nat},waitsFor md ops q r=true→listed.getD r true=false→r∉E→j≠q:=fun {q r} hw hun hrE e=>by
     subst e
     unfold waitsFor at hw
     simp only [p3] at hw
     obtain ⟨e,he,hb⟩:=Array.any_eq_true'.1 hw
     simp only [Bool.and_eq_true,beq_iff_eq] at hb
     rcases p4 e he hb.1 with h0 | h0
     ·rw [hb.2] at h0
      rcases Nat.lt_or_ge r listed.size with h' | h'
      ·simp [h'] at hun h0;rw [hun] at h0;cases h0
      ·simp [Array.getElem?_eq_none h'] at h0
     ·exact hrE (hb.2 ▸ h0)
    have hjk:j≠k:=nw hki hiun hiE
    have hjs:j≠st:=by
     rcases hst with h | h
     ·exact fun e=>hjk (e.trans (by simpa using h))
     ·exact nw h hk hkE
    refine ⟨p1,o,p3,hfar,?_⟩
    have h2:=wpOp_putIf p3 (hfree j o p3 hji p2 hnw) (fun cs b=>hsel i oi cs b hi) (fun cs b=>hsel j o cs b p3) hQ hy hw
    refine wpOp_mono (fun a' w'' h3=>⟨h3.2.1,h3.2.2.1,ih (listed.setIfInBounds j true) a' w'' _ (fun k' ok hk' hki' hun hno=>hfree k' ok hk' hki' ?_ hno) (ready_mono hr (Ne.symm hji)) (by rw [getD_set_ne true hjk];exact hk) (by rw [getD_set_ne true hjs];exact hl) h3.1 ?_⟩) h2
    ·by_cases hjk':j=k'
     ·subst hjk';exact p2
     ·rw [getD_set_ne true hjk'] at hun;exact hun
    ·rw [Array.setIfInBounds_comm _ _ hji]
     exact h3.2.2.2
theorem wpAnyF_take {i:Nat} (k:Nat) {oi:Oper} {v:Value} {fuel:Nat} {listed:Array Bool} {a:Act} {w:World} {G:Nat→Prop} (hi:ops[i]?=some oi) (hs:Region.noSelect ops=true) (hf:floatsB md ops E=true) (hfr:Region.free md ops listed i=true)
  (hc:((Region.ready md ops listed).contains i && waitsFor md ops k i && !(k==i) && (st==k || waitsFor md ops st k) && !(st==i) && !E.contains i && !E.contains k && !E.contains st && farFrom ops E oi && !listed.getD k true && !listed.getD st true)=true)
  (hQ:∀ c a w,Q (.panic c) (a.put oi.dst v) w→Q (.panic c) a w) (hy:YieldsIf P ops S oi v a) (h:wpAnyF P md ops Q S st E obj fuel (listed.setIfInBounds i true) (a.put oi.dst v) w G):wpAnyF P md ops Q S st E obj (fuel+1) listed a w G:=by
 simp only [Bool.and_eq_true,Bool.not_eq_true',Bool.or_eq_true,List.contains_eq_mem,decide_eq_false_iff_not,decide_eq_true_eq,and_assoc] at hc
 obtain ⟨h1,h2,h3,h4,h5,h6,h7,h8,h9,h10,h11⟩:=hc
 exact wpAnyF_first hi (Region.noSelect_spec hs) hQ h2 h3 h4 h5 h6 h7 h8 hf h9 fuel listed a w G (Region.free_spec hi hfr) h1 h10 h11 hy h
def gateB (md:Region.Mode) (ops:Array Oper) (st:Nat) (E:List Nat) (listed:Array Bool) (i:Nat):Bool:=(List.range ops.size).any fun k=>waitsFor md ops k i && !(k==i) && (st==k || waitsFor md ops st k) && !E.contains k && !listed.getD k true
def takeB (md:Region.Mode) (ops:Array Oper) (st:Nat) (E:List Nat) (listed:Array Bool) (i:Nat):Bool:=Region.noSelect ops && Region.free md ops listed i && (Region.ready md ops listed).contains i && gateB md ops st E listed i && !(st==i) && !E.contains i && !E.contains st && (match ops[i]? with | some o=>farFrom ops E o | none=>false) && !listed.getD st true && floatsB md ops E
theorem takeB_spec {i:Nat} {oi:Oper} {listed:Array Bool} (hi:ops[i]?=some oi) (h:takeB md ops st E listed i=true) :
  Region.noSelect ops=true∧floatsB md ops E=true∧Region.free md ops listed i=true∧∃ k,((Region.ready md ops listed).contains i && waitsFor md ops k i && !(k==i) && (st==k || waitsFor md ops st k) && !(st==i) && !E.contains i && !E.contains k && !E.contains st && farFrom ops E oi && !listed.getD k true && !listed.getD st true)=true:=by
 unfold takeB gateB at h
 rw [hi] at h
 simp only [Bool.and_eq_true,List.any_eq_true] at h
 obtain ⟨⟨⟨⟨⟨⟨⟨⟨⟨h1,h2⟩,h3⟩,k,hk0,hk⟩,h5⟩,h6⟩,h7⟩,h8⟩,h9⟩,h10⟩:=h
 obtain ⟨⟨⟨⟨k1,k2⟩,k3⟩,k4⟩,k5⟩:=hk
 refine ⟨h1,h10,h2,k,?_⟩
 simp only [h3,k1,k2,k3,h5,h6,k4,h7,h8,k5,h9,Bool.and_self]
theorem tkF (i:Nat) {oi:Oper} {v:Value} {fuel:Nat} {listed:Array Bool} {a:Act} {w:World} {G:Nat→Prop} (hi:ops[i]?=some oi) (hB:takeB md ops st E listed i=true) (hQ:∀ c a w,Q (.panic c) (a.put oi.dst v) w→Q (.panic c) a w)
  (hg:Region.wanted oi (yielded ops a.tmps)=true) (hy:∀ z,S z→(execOp a.eval oi).run P z = .ok (.value v) z) (h:wpAnyF P md ops Q S st E obj fuel (listed.setIfInBounds i true) (a.put oi.dst v) w G):wpAnyF P md ops Q S st E obj (fuel+1) listed a w G:=by
 obtain ⟨h1,h2,h3,k,h4⟩:=takeB_spec hi hB
 exact wpAnyF_take k hi h1 h2 h3 h4 hQ (.inl ⟨hg,hy⟩) h
theorem tkW (i:Nat) {oi:Oper} {v:Value} {fuel:Nat} {listed:Array Bool} {a:Act} {w:World} (hS:S w) (hi:ops[i]?=some oi) (hB:takeB md ops st [] listed i=true) (hQ:∀ c a w,Q (.panic c) (a.put oi.dst v) w→Q (.panic c) a w)
  (hg:Region.wanted oi (yielded ops a.tmps)=true) (hy:∀ z,S z→(execOp a.eval oi).run P z = .ok (.value v) z) (h:wpAnyW P md ops Q S st fuel (listed.setIfInBounds i true) (a.put oi.dst v) w):wpAnyW P md ops Q S st (fuel+1) listed a w:=by
 obtain ⟨h1,h2,h3,k,h4⟩:=takeB_spec hi hB
 simp only [Bool.and_eq_true] at h4
 obtain ⟨⟨⟨⟨⟨⟨⟨⟨⟨⟨k1,k2⟩,k3⟩,k4⟩,k5⟩,_⟩,_⟩,_⟩,_⟩,k6⟩,k7⟩:=h4
 exact wpAnyW_take k hi h1 h3 k1 (by simp only [k2,k3,k4,k5,k6,k7,Bool.and_self]) hQ (.inl ⟨hg,hy⟩) hS h
theorem tw (i : Nat) {oi : Oper} {v : Value} {fuel : Nat} {listed : Array Bool} {a : Act} {w : World} (hS : S w) (hy : ∀ z, S z → (execOp a.eval oi).run P z = .ok (.value v) z)
 (h : wpAnyW P md ops Q S st fuel (listed.setIfInBounds i true) (a.put oi.dst v) w) (hi : ops[i]? = some oi := by rfl) (hB : takeB md ops st [] listed i = true := by kernel_rfl) (hQ : ∀ c a w, Q (.panic c) (a.put oi.dst v) w → Q (.panic c) a w := by exact fun _ _ _ h => h) (hg : Region.wanted oi (yielded ops a.tmps) = true := by rfl) : wpAnyW P md ops Q S st (fuel + 1) listed a w := tkW i hS hi hB hQ hg hy h
theorem tf (i : Nat) {oi : Oper} {v : Value} {fuel : Nat} {listed : Array Bool} {a : Act} {w : World} {G : Nat → Prop} (hy : ∀ z, S z → (execOp a.eval oi).run P z = .ok (.value v) z)
 (h : wpAnyF P md ops Q S st E obj fuel (listed.setIfInBounds i true) (a.put oi.dst v) w G) (hi : ops[i]? = some oi := by rfl) (hB : takeB md ops st E listed i = true := by kernel_rfl) (hQ : ∀ c a w, Q (.panic c) (a.put oi.dst v) w → Q (.panic c) a w := by exact fun _ _ _ h => h) (hg : Region.wanted oi (yielded ops a.tmps) = true := by rfl) : wpAnyF P md ops Q S st E obj (fuel + 1) listed a w G := tkF i hi hB hQ hg hy h
theorem wp_region_U {id:Nat} {a:Act} {w:World} (st:Nat) (hm:P.follows .mixedOrders=true)
  (h:∀ z,Below w.heap.size w z→z.heap.size=w.heap.size→wpAnyW P .any ops Q (fun z=>Below w.heap.size w z) st ops.size (Array.replicate ops.size false) a z):(Code.region id ops true).wp P Q a w:=
 wp_region_wait _ st hm (h w.drew (Below.refl _ _).drew rfl)
theorem FloatRun.two {i j:Nat} {oi oj:Oper} {bi bj:Obj} (hij:(j==i)=false) (hi:ops[i]?=some oi) (ri:∀ (a:Act) (w:World),(execOp a.eval oi).run P w = .ok (.value (.pointer (some ⟨w.heap.size,0,none⟩))) (w.alloc bi))
  (hj:ops[j]?=some oj) (rj:∀ (a:Act) (w:World),(execOp a.eval oj).run P w = .ok (.value (.pointer (some ⟨w.heap.size,0,none⟩))) (w.alloc bj)):FloatRun P ops [i,j] (fun q=>if q=i then bi else bj):=fun q hq o ho=>by
 rcases List.mem_cons.1 hq with rfl | hq
 ·rw [hi] at ho
  injection ho with ho
  simp only [if_pos]
  exact ho ▸ ri
 ·obtain rfl:q=j:=by simpa using hq
  rw [hj] at ho
  injection ho with ho
  simp only [if_neg (show ¬q=i by simpa using hij)]
  exact ho ▸ rj
end
end Go.Proofs.YtgfeainpeplphaaDoor
