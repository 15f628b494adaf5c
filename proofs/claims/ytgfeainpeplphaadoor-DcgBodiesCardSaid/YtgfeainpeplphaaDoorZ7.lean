import Derived.Recover
import Derived.Carry
import Derived.Maps.OwnSet
import Derived.Test.YtgfeainpeplphaaDoorZ2
import Derived.Test.YtgfeainpeplphaaDoorZ5
import Derived.Test.YtgfeainpeplphaaDoorZ6
set_option linter.unusedVariables false
set_option linter.unusedSimpArgs false
namespace Go.Proofs.YtgfeainpeplphaaDoor
open Go.RowKit Hb Ht
set_option maxRecDepth 100000 in
set_option maxHeartbeats 4000000 in
theorem caught_idle (E:Nat) (w:World) :
  CallsD Tryd.prog 29 #[.pointer (some ⟨E,0,none⟩)] .returning w fun e u' w'=>e = .returned (.tuple #[])∧u' = .returning∧w'=w:=by
 refine callsD_of_wpS Tryd.func29 rfl fun c₀ cs hu=>?_
 apply wpS_seq
 apply wpS_region
 simp [wpOpsS,go_sem,recoverD,hu,Tryd.ntmps29,Exit.thenS]
 refine wpS_of_wp ?_
 rw [show (#[Value.pointer (some ⟨E,0,none⟩)] ++ (Array.replicate 14 undef).setIfInBounds 4 Value.nilIface) = #[Value.pointer (some ⟨E,0,none⟩),undef,undef,undef,undef,.nilIface,undef,undef,undef,undef,undef,undef,undef,undef,undef] from rfl]
 go_wp2
 cases c₀
 simp_all [bodyPostS,results,Tryd.results29]
set_option maxRecDepth 100000 in
set_option maxHeartbeats 4000000 in
theorem caught_throws (E:Nat) (bb:Nat) (older:List PanicEntry) (w:World) {x:Value} (hc:w.cell? ⟨E,0,none⟩=some x) (hz:w.frozen? ⟨E,0,none⟩=false) :
  CallsD Tryd.prog 29 #[.pointer (some ⟨E,0,none⟩)] (.panicking ({ v:=.iface 82 (.pointer (some ⟨bb,0,none⟩)),recovered:=false } :: older)) w fun e u' w'=>
   e = .returned (.tuple #[])∧u' = .panicking ({ v:=.iface 82 (.pointer (some ⟨bb,0,none⟩)),recovered:=true } :: older)∧w'=w.setCell ⟨E,0,none⟩ (.iface 82 (.pointer (some ⟨bb,0,none⟩))):=by
 refine callsD_of_wpS Tryd.func29 rfl fun c₀ cs hu=>?_
 apply wpS_seq
 apply wpS_region
 simp [wpOpsS,go_sem,recoverD,hu,Tryd.ntmps29,Exit.thenS]
 refine wpS_of_wp ?_
 rw [show (#[Value.pointer (some ⟨E,0,none⟩)] ++ (Array.replicate 14 undef).setIfInBounds 4 (Value.iface 82 (.pointer (some ⟨bb,0,none⟩)))) = #[Value.pointer (some ⟨E,0,none⟩),undef,undef,undef,undef,.iface 82 (.pointer (some ⟨bb,0,none⟩)),undef,undef,undef,undef,undef,undef,undef,undef,undef] from rfl]
 have ha:∀ (W:World) (v:Value),(Instr.typeAssert (.iface 82 v) 20 82 true).run Tryd.prog W = .ok (.tuple #[v,.bool true]) W:=fun W v=>by kernel_rfl
 go_wp2
 cases c₀
 simp_all [bodyPostS,results,Tryd.results29]
end Go.Proofs.YtgfeainpeplphaaDoor
namespace Go.Proofs.YtgfeainpeplphaaDoor
open Go.RowKit Hb Ht
attribute [local go_sem] Oper.semAt_some
def zeroTV:Value:=.agg #[.int .i64 0,.string ⟨#[]⟩,.string ⟨#[]⟩,.int .u64 0,.int .i64 0,.slice none 0 0]
def BodyR (w:World) (r:Except Tm (Tm × Int)) (e:Ending) (w':World):Prop:=
 Below w.heap.size w w'∧match r with
  | .ok (g,n)=>∃ sg,e = .returned (.tuple #[valT g sg,.int .i64 n,.nilIface])∧TOwn w' g sg w.heap.size w'.heap.size
  | .error b=>∃ bb,e = .returned (.tuple #[zeroTV,.int .i64 0,.iface 82 (.pointer (some ⟨bb,0,none⟩))])∧BallAt w' bb b
theorem BodyR.mkOk {w w':World} {g:Tm} {n:Int} {e:Ending} {sg:Value} (hb:Below w.heap.size w w') (he:e = .returned (.tuple #[valT g sg,.int .i64 n,.nilIface])) (ht:TOwn w' g sg w.heap.size w'.heap.size):BodyR w (.ok (g,n)) e w':=⟨hb,sg,he,ht⟩
theorem BodyR.mkBad {w w':World} {b:Tm} {e:Ending} {bb:Nat} (hb:Below w.heap.size w w') (he:e = .returned (.tuple #[zeroTV,.int .i64 0,.iface 82 (.pointer (some ⟨bb,0,none⟩))])) (ht:BallAt w' bb b):BodyR w (.error b) e w':=⟨hb,bb,he,ht⟩
theorem TAtP.avoid {w:World} {E:Nat} {x:Value} {ty:TypeId} {q:Nat × Nat} (hE:w.heap[E]?=some (.cells #[x] ty q)) (t:Tm):∀ {P:Nat→Prop} {sl:Value},TAtP w P t sl→TAtP w (fun b=>P b∧b≠E) t sl:=by
 refine Tm.ind (p:=fun t=>∀ {P:Nat→Prop} {sl:Value},TAtP w P t sl→TAtP w (fun b=>P b∧b≠E) t sl) (fun k n m b v l ih P sl h=>?_) t
 rw [TAtP.iff] at h ⊢
 obtain ⟨A,c,h1,h2,h3,h4,h5,h6⟩:=h
 refine ⟨A,c,h1,h2,h3,h4,h5,fun hne=>?_⟩
 obtain ⟨g,o,e,hg,hs⟩:=h6 hne
 refine ⟨g,o,e,⟨hg,fun e2=>?_⟩,fun i a ha=>?_⟩
 ·subst e2
  obtain ⟨a,ha⟩:=List.exists_mem_of_ne_nil _ hne
  obtain ⟨i,hi,hia⟩:=List.getElem_of_mem ha
  obtain ⟨sl',hc,_⟩:=hs i a (by rw [←hia];exact List.getElem?_eq_getElem hi)
  have h9:=hc 1 (by omega)
  rw [cell_of_row w g (o+i * 6+1) _ _ q hE] at h9
  rw [Array.getElem?_eq_none (by simp)] at h9
  simp [cells6] at h9
 ·obtain ⟨sl',hc,ht⟩:=hs i a ha
  exact ⟨sl',hc,ih a (List.mem_of_getElem? ha) ht⟩
theorem bodyT_bad {t f d e:Tm} {nx:Int} (h:mkB t f d nx = .error e):bodyT t f d nx = .error e:=by unfold bodyT;rw [h]
theorem bodyT_big {t f d g:Tm} {nx n:Int} (h:mkB t f d nx = .ok (g,n)) (hz:4000<nodes g):bodyT t f d nx = .error nodesT:=by unfold bodyT;rw [h];simp [whole,hz]
theorem bodyT_fit {t f d g:Tm} {nx n:Int} (h:mkB t f d nx = .ok (g,n)) (hz:¬4000<nodes g):bodyT t f d nx = .ok (g,n):=by unfold bodyT;rw [h];simp [whole,hz]
theorem leaves_congr {P:Program} {fn:Func} {t1 t2:Array Value} {R:Ending→World→Prop} (h:∀ w,(results fn t1).run P w=(results fn t2).run P w):∀ (ds:List Deferred) (u:FrameMode) (w:World),Leaves P fn t1 R ds u w→Leaves P fn t2 R ds u w:=by
 intro ds
 induction ds with
 | nil=>
  intro u w hl
  cases u with
  | run=>exact hl
  | panicking c=>exact hl
  | returning=>
   obtain ⟨v,hr,hR⟩:=hl
   exact ⟨v,by rw [←h w];exact hr,hR⟩
 | cons d ds ih=>
  rintro u w ⟨hu,fv,cap,f,args,ht,hi,hc⟩
  refine ⟨hu,fv,cap,f,args,ht,hi,hc.mono (fun e u' w' hx=>?_)⟩
  cases e with
  | returned v=>exact ih _ _ hx
  | panicked c=>exact ih _ _ hx
  | outgrown=>exact hx
theorem hqBody {R:Ending→World→Prop} {i:Nat} (hi:10<i) {v:Value} (c:List PanicEntry) (a:Act) (w:World) (h:bodyPostD Tryd.prog Tryd.f16 R (.panic c) (a.put (some i) v) w):bodyPostD Tryd.prog Tryd.f16 R (.panic c) a w:=by
 refine leaves_congr (t1:=(a.put (some i) v).tmps) (fun w2=>?_) _ _ _ h
 have h8:i≠8:=by omega
 have h9:i≠9:=by omega
 have h10:i≠10:=by omega
 simp [results,Tryd.results16,Act.put,Array.getElem?_setIfInBounds,Array.getD_eq_getD_getElem?,h8,h9,h10]
theorem BallAt.caught {w:World} {bb E:Nat} {t:Tm} {x:Value} {ty:TypeId} (h:BallAt w bb t) (hE:w.heap[E]?=some (.cells #[x] ty (0,0))) (u:Value):BallAt (w.setCell ⟨E,0,none⟩ u) bb t:=by
 obtain ⟨sl,h1,h2⟩:=h
 have hne:bb≠E:=by
  rintro rfl
  rw [hE] at h1
  injection h1 with h1
  injection h1 with h1
  have:=congrArg Array.size h1
  simp [cells6] at this
 refine ⟨sl,(Below.heap_setCell _ _ _ bb hne).trans h1,TAtP.keep _ (TAtP.avoid hE t h2) (fun b hb=>⟨?_,Below.heap_setCell _ _ _ b hb.2⟩)⟩
 have:=hb.1
 simp [World.setCell]
 exact this
set_option maxRecDepth 100000 in
set_option maxHeartbeats 16000000 in
theorem Body_err {w0 w:World} {t f d:Tm} {st sf sd:Value} {nx:Int} (h1:TAt w w.heap.size t st) (h2:TAt w w.heap.size f sf) (h3:TAt w w.heap.size d sd) (hU:UOk w0 w) {c:Int} (hcs:checksP [t,f,d]=c) (hc:c≠0):Calls Tryd.prog 16 #[valT t st,valT f sf,valT d sd,.int .i64 nx] w fun e w'=>e = .returned (.tuple #[zeroTV,.int .i64 0,.iface 32 (.int .i64 c)])∧Below w.heap.size w w':=by
 obtain ⟨k1,n1,m1,b1,v1,ts1,nb1,mb1,A1,c1,hT1,rfl,hnb1,hmb1,hl1,hc1,hx1,hv1,hs1,hq1⟩:=h1.letters
 subst hT1
 obtain ⟨L1,hL1⟩:∃ L,ts1.length=L:=⟨_,rfl⟩
 rw [hv1]
 rw [hL1] at h1 hv1 ⊢
 obtain ⟨k2,n2,m2,b2,v2,ts2,nb2,mb2,A2,c2,hT2,rfl,hnb2,hmb2,hl2,hc2,hx2,hv2,hs2,hq2⟩:=h2.letters
 subst hT2
 obtain ⟨L2,hL2⟩:∃ L,ts2.length=L:=⟨_,rfl⟩
 rw [hv2]
 rw [hL2] at h2 hv2 ⊢
 obtain ⟨k3,n3,m3,b3,v3,ts3,nb3,mb3,A3,c3,hT3,rfl,hnb3,hmb3,hl3,hc3,hx3,hv3,hs3,hq3⟩:=h3.letters
 subst hT3
 obtain ⟨L3,hL3⟩:∃ L,ts3.length=L:=⟨_,rfl⟩
 rw [hv3]
 rw [hL3] at h3 hv3 ⊢
 obtain ⟨W1,hW1⟩:∃ W,w.alloc (.cells #[.int .i64 k1,.string nb1,.string mb1,.int .u64 b1,.int .i64 v1,.slice A1 L1 c1] 25)=W:=⟨_,rfl⟩
 obtain ⟨W2,hW2⟩:∃ W,W1.alloc (.cells #[.int .i64 k2,.string nb2,.string mb2,.int .u64 b2,.int .i64 v2,.slice A2 L2 c2] 25)=W:=⟨_,rfl⟩
 obtain ⟨W3,hW3⟩:∃ W,W2.alloc (.cells #[.int .i64 k3,.string nb3,.string mb3,.int .u64 b3,.int .i64 v3,.slice A3 L3 c3] 25)=W:=⟨_,rfl⟩
 obtain ⟨W4,hW4⟩:∃ W,W3.alloc (.cells #[.int .i64 nx] 3)=W:=⟨_,rfl⟩
 obtain ⟨W5,hW5⟩:∃ W,W4.alloc (.cells #[.int .i64 0,.string ⟨#[]⟩,.string ⟨#[]⟩,.int .u64 0,.int .i64 0,.slice none 0 0] 25)=W:=⟨_,rfl⟩
 obtain ⟨W6,hW6⟩:∃ W,W5.alloc (.cells #[.nilIface] 29)=W:=⟨_,rfl⟩
 obtain ⟨W7,hW7⟩:∃ W,W6.alloc (.cells #[.int .i64 k1,.string nb1,.string mb1,.int .u64 b1,.int .i64 v1,.slice A1 L1 c1,.int .i64 k2,.string nb2,.string mb2,.int .u64 b2,.int .i64 v2,.slice A2 L2 c2,.int .i64 k3,.string nb3,.string mb3,.int .u64 b3,.int .i64 v3,.slice A3 L3 c3] 25)=W:=⟨_,rfl⟩
 have d1:Below w.heap.size w W1:=by rw [←hW1];exact (Below.refl _ _).alloc (Nat.le_refl _) _
 have s1:W1.heap.size=w.heap.size+1:=by rw [←hW1];simp
 have X1:TBox W1 w.heap.size (.mk k1 n1 m1 b1 v1 ts1) (.slice A1 L1 c1):=by rw [←hW1];exact TBox.new w hnb1 hmb1
 have d2:Below W1.heap.size W1 W2:=by rw [←hW2];exact (Below.refl _ _).alloc (Nat.le_refl _) _
 have s2:W2.heap.size=W1.heap.size+1:=by rw [←hW2];simp
 have X2:TBox W2 W1.heap.size (.mk k2 n2 m2 b2 v2 ts2) (.slice A2 L2 c2):=by rw [←hW2];exact TBox.new W1 hnb2 hmb2
 have d3:Below W2.heap.size W2 W3:=by rw [←hW3];exact (Below.refl _ _).alloc (Nat.le_refl _) _
 have s3:W3.heap.size=W2.heap.size+1:=by rw [←hW3];simp
 have X3:TBox W3 W2.heap.size (.mk k3 n3 m3 b3 v3 ts3) (.slice A3 L3 c3):=by rw [←hW3];exact TBox.new W2 hnb3 hmb3
 have d4:Below W3.heap.size W3 W4:=by rw [←hW4];exact (Below.refl _ _).alloc (Nat.le_refl _) _
 have s4:W4.heap.size=W3.heap.size+1:=by rw [←hW4];simp
 have X4:W4.heap[W3.heap.size]?=some (.cells #[.int .i64 nx] 3 (0,0)):=by rw [←hW4];exact heap_alloc_new W3 _
 have d5:Below W4.heap.size W4 W5:=by rw [←hW5];exact (Below.refl _ _).alloc (Nat.le_refl _) _
 have s5:W5.heap.size=W4.heap.size+1:=by rw [←hW5];simp
 have X5:TBox W5 W4.heap.size zeroT (.slice none 0 0):=by rw [←hW5];exact heap_alloc_new W4 _
 have d6:Below W5.heap.size W5 W6:=by rw [←hW6];exact (Below.refl _ _).alloc (Nat.le_refl _) _
 have s6:W6.heap.size=W5.heap.size+1:=by rw [←hW6];simp
 have X6:W6.heap[W5.heap.size]?=some (.cells #[.nilIface] 29 (0,0)):=by rw [←hW6];exact heap_alloc_new W5 _
 have d7:Below W6.heap.size W6 W7:=by rw [←hW7];exact (Below.refl _ _).alloc (Nat.le_refl _) _
 have s7:W7.heap.size=W6.heap.size+1:=by rw [←hW7];simp
 have X7:W7.heap[W6.heap.size]?=some (.cells #[.int .i64 k1,.string nb1,.string mb1,.int .u64 b1,.int .i64 v1,.slice A1 L1 c1,.int .i64 k2,.string nb2,.string mb2,.int .u64 b2,.int .i64 v2,.slice A2 L2 c2,.int .i64 k3,.string nb3,.string mb3,.int .u64 b3,.int .i64 v3,.slice A3 L3 c3] 25 (0,0)):=by rw [←hW7];exact heap_alloc_new W6 _
 replace X1:=X1.below d2
 replace X1:=X1.below d3
 replace X1:=X1.below d4
 replace X1:=X1.below d5
 replace X1:=X1.below d6
 replace X1:=X1.below d7
 replace X2:=X2.below d3
 replace X2:=X2.below d4
 replace X2:=X2.below d5
 replace X2:=X2.below d6
 replace X2:=X2.below d7
 replace X3:=X3.below d4
 replace X3:=X3.below d5
 replace X3:=X3.below d6
 replace X3:=X3.below d7
 replace X4:=(d5.block _ (by omega)).trans X4
 replace X4:=(d6.block _ (by omega)).trans X4
 replace X4:=(d7.block _ (by omega)).trans X4
 replace X5:=X5.below d6
 replace X5:=X5.below d7
 replace X6:=(d7.block _ (by omega)).trans X6
 have hb7:Below w.heap.size w W7:=d1.trans ((d2.trans ((d3.trans ((d4.trans ((d5.trans ((d6.trans ((d7).mono (by omega))).mono (by omega))).mono (by omega))).mono (by omega))).mono (by omega))).mono (by omega))
 have hsz7:W7.heap.size=w.heap.size+1+1+1+1+1+1+1:=by omega
 have hrow:RowP W7 (fun b=>b<w.heap.size) (some ⟨W6.heap.size,0,none⟩) 3 [((.mk k1 n1 m1 b1 v1 ts1:Tm),Value.slice A1 L1 c1),((.mk k2 n2 m2 b2 v2 ts2:Tm),Value.slice A2 L2 c2),((.mk k3 n3 m3 b3 v3 ts3:Tm),Value.slice A3 L3 c3)]:=rowP_at X7 (by rw [←hnb1,←hmb1,←hnb2,←hmb2,←hnb3,←hmb3];rfl) rfl (mem3 (TAtP.below h1 hb7 (fun b hb=>hb)) (TAtP.below h2 hb7 (fun b hb=>hb)) (TAtP.below h3 hb7 (fun b hb=>hb)))
 have hck:=dcheck_any (w0:=w0) (c:=3) hrow (fun b hb=>Nat.lt_of_lt_of_le hb hb7.size) (by unfold maxArgs;omega) (Nat.le_refl _) (hU.below hb7)
 rw [s6,s5,s4,s3,s2,s1] at X7
 rw [s5,s4,s3,s2,s1] at X6
 rw [s4,s3,s2,s1] at X5
 rw [s3,s2,s1] at X4
 rw [s2,s1] at X3
 rw [s1] at X2
 rw [s6,s5,s4,s3,s2,s1] at hck
 obtain ⟨x0,x1,x2,x3,x4,x5⟩:=X1.cells hnb1 hmb1
 obtain ⟨y0,y1,y2,y3,y4,y5⟩:=X2.cells hnb2 hmb2
 obtain ⟨z0,z1,z2,z3,z4,z5⟩:=X3.cells hnb3 hmb3
 have HX:=Lib.hid (And.intro X1 (And.intro X2 (And.intro X3 (And.intro X4 (And.intro X5 X6)))))
 have HM:=Lib.hid (And.intro (And.intro hnb1 hmb1) (And.intro (And.intro hnb2 hmb2) (And.intro hnb3 hmb3)))
 have HT:=Lib.hid (And.intro h1 (And.intro h2 h3))
 have HB:=Lib.hid (And.intro hb7 hsz7)
 have HC:=Lib.hid hck
 have HU:=Lib.hid hU
 have HWe:=Lib.hid hW7
 subst hW1 hW2 hW3 hW4 hW5 hW6
 rw [←HWe.out] at x0 x1 x2 x3 x4 x5 y0 y1 y2 y3 y4 y5 z0 z1 z2 z3 z4 z5 HC
 clear h1 h2 h3 hU hck hrow hb7 hsz7 hW7 X1 X2 X3 X4 X5 X6 X7 s1 s2 s3 s4 s5 s6 s7 d1 d2 d3 d4 d5 d6 d7 hnb1 hmb1 hnb2 hmb2 hnb3 hmb3 hL1 hL2 hL3 hv1 hv2 hv3 hs1 hs2 hs3 hq1 hq2 hq3
 rw [show checksP ([((.mk k1 n1 m1 b1 v1 ts1:Tm),Value.slice A1 L1 c1),((.mk k2 n2 m2 b2 v2 ts2:Tm),Value.slice A2 L2 c2),((.mk k3 n3 m3 b3 v3 ts3:Tm),Value.slice A3 L3 c3)].map (·.1))=c from hcs,errV,if_neg hc] at HC
 clear hcs
 go_enter_defers Tryd.func16,Tryd.ntmps16
 go_wp2_with (go_at_call 27;(with_reducible refine HC.out.mono ?_);rintro e w8 ⟨rfl,hb8⟩;rw [HWe.out] at hb8;have HX8:=Lib.hid (show TBox w8 (w.heap.size+1+1+1+1) zeroT (.slice none 0 0)∧w8.heap[w.heap.size+1+1+1+1+1]?=some (.cells #[.nilIface] 29 (0,0))∧Below w.heap.size w w8 from ⟨HX.out.2.2.2.2.1.below hb8,(hb8.block _ (Array.getElem?_eq_some_iff.1 HX.out.2.2.2.2.2).1).trans HX.out.2.2.2.2.2,HB.out.1.trans (hb8.mono HB.out.1.size)⟩);obtain ⟨a0,a1,a2,a3,a4,a5⟩:=HX8.out.1.cells rfl rfl;obtain ⟨e0,e1,e2,e3,e4,e5⟩:=HX8.out.1.frozens;have cE:=cell_of_one HX8.out.2.1;have fE:=free_of_one HX8.out.2.1;clear hb8)
 obtain ⟨hbx,hgr⟩:=HX8.out.1.set6 (k:=0) (b:=0) (v:=0) (n:=[]) (m:=[]) (nb:=⟨#[]⟩) (mb:=⟨#[]⟩) [] (.slice none 0 0) rfl rfl
 generalize ((((((w8.setCell ⟨w.heap.size+1+1+1+1,0,none⟩ (.int .i64 0)).setCell ⟨w.heap.size+1+1+1+1,1,none⟩ (.string ⟨#[]⟩)).setCell ⟨w.heap.size+1+1+1+1,2,none⟩ (.string ⟨#[]⟩)).setCell ⟨w.heap.size+1+1+1+1,3,none⟩ (.int .u64 0)).setCell ⟨w.heap.size+1+1+1+1,4,none⟩ (.int .i64 0)).setCell ⟨w.heap.size+1+1+1+1,5,none⟩ (.slice none 0 0))=w9 at *
 have hE9:=blk_ne hgr HX8.out.2.1 (by omega)
 have hbx10:=hbx.far (p:=⟨w.heap.size+1+1+1+1+1,0,none⟩) (by show w.heap.size+1+1+1+1≠w.heap.size+1+1+1+1+1;omega) (.iface 32 (.int .i64 c))
 have hE10:=one_setCell (u:=.iface 32 (.int .i64 c)) hE9
 have hb10:Below w.heap.size w (w9.setCell ⟨w.heap.size+1+1+1+1+1,0,none⟩ (.iface 32 (.int .i64 c))):=(HX8.out.2.2.grown hgr HX8.out.2.2.size (fun j e=>by injection e with e;omega)).setCell (by show w.heap.size≤w.heap.size+1+1+1+1+1;omega) _
 generalize w9.setCell ⟨w.heap.size+1+1+1+1+1,0,none⟩ (.iface 32 (.int .i64 c))=w10 at *
 obtain ⟨r0,r1,r2,r3,r4,r5⟩:=hbx10.cells (nb:=⟨#[]⟩) (mb:=⟨#[]⟩) rfl rfl
 have cE10:=cell_of_one hE10
 simp only [bodyPostD,Leaves]
 exact ⟨.tuple #[zeroTV,.int .i64 0,.iface 32 (.int .i64 c)],by simp [results,Tryd.results16,go_sem,r0,r1,r2,r3,r4,r5,cE10,zeroTV],rfl,hb10⟩
set_option maxRecDepth 100000 in
set_option maxHeartbeats 16000000 in
theorem Body_arg {w0 w:World} {t f d:Tm} {st sf sd:Value} {nx:Int} (h1:TAt w w.heap.size t st) (h2:TAt w w.heap.size f sf) (h3:TAt w w.heap.size d sd) (hU:UOk w0 w) (hcs:checksP [t,f,d]=0) (hc:nx<0∨4611686018427387904<nx):Calls Tryd.prog 16 #[valT t st,valT f sf,valT d sd,.int .i64 nx] w fun e w'=>e = .returned (.tuple #[zeroTV,.int .i64 0,.iface 32 (.int .i64 1)])∧Below w.heap.size w w':=by
 obtain ⟨k1,n1,m1,b1,v1,ts1,nb1,mb1,A1,c1,hT1,rfl,hnb1,hmb1,hl1,hc1,hx1,hv1,hs1,hq1⟩:=h1.letters
 subst hT1
 obtain ⟨L1,hL1⟩:∃ L,ts1.length=L:=⟨_,rfl⟩
 rw [hv1]
 rw [hL1] at h1 hv1 ⊢
 obtain ⟨k2,n2,m2,b2,v2,ts2,nb2,mb2,A2,c2,hT2,rfl,hnb2,hmb2,hl2,hc2,hx2,hv2,hs2,hq2⟩:=h2.letters
 subst hT2
 obtain ⟨L2,hL2⟩:∃ L,ts2.length=L:=⟨_,rfl⟩
 rw [hv2]
 rw [hL2] at h2 hv2 ⊢
 obtain ⟨k3,n3,m3,b3,v3,ts3,nb3,mb3,A3,c3,hT3,rfl,hnb3,hmb3,hl3,hc3,hx3,hv3,hs3,hq3⟩:=h3.letters
 subst hT3
 obtain ⟨L3,hL3⟩:∃ L,ts3.length=L:=⟨_,rfl⟩
 rw [hv3]
 rw [hL3] at h3 hv3 ⊢
 obtain ⟨W1,hW1⟩:∃ W,w.alloc (.cells #[.int .i64 k1,.string nb1,.string mb1,.int .u64 b1,.int .i64 v1,.slice A1 L1 c1] 25)=W:=⟨_,rfl⟩
 obtain ⟨W2,hW2⟩:∃ W,W1.alloc (.cells #[.int .i64 k2,.string nb2,.string mb2,.int .u64 b2,.int .i64 v2,.slice A2 L2 c2] 25)=W:=⟨_,rfl⟩
 obtain ⟨W3,hW3⟩:∃ W,W2.alloc (.cells #[.int .i64 k3,.string nb3,.string mb3,.int .u64 b3,.int .i64 v3,.slice A3 L3 c3] 25)=W:=⟨_,rfl⟩
 obtain ⟨W4,hW4⟩:∃ W,W3.alloc (.cells #[.int .i64 nx] 3)=W:=⟨_,rfl⟩
 obtain ⟨W5,hW5⟩:∃ W,W4.alloc (.cells #[.int .i64 0,.string ⟨#[]⟩,.string ⟨#[]⟩,.int .u64 0,.int .i64 0,.slice none 0 0] 25)=W:=⟨_,rfl⟩
 obtain ⟨W6,hW6⟩:∃ W,W5.alloc (.cells #[.nilIface] 29)=W:=⟨_,rfl⟩
 obtain ⟨W7,hW7⟩:∃ W,W6.alloc (.cells #[.int .i64 k1,.string nb1,.string mb1,.int .u64 b1,.int .i64 v1,.slice A1 L1 c1,.int .i64 k2,.string nb2,.string mb2,.int .u64 b2,.int .i64 v2,.slice A2 L2 c2,.int .i64 k3,.string nb3,.string mb3,.int .u64 b3,.int .i64 v3,.slice A3 L3 c3] 25)=W:=⟨_,rfl⟩
 have d1:Below w.heap.size w W1:=by rw [←hW1];exact (Below.refl _ _).alloc (Nat.le_refl _) _
 have s1:W1.heap.size=w.heap.size+1:=by rw [←hW1];simp
 have X1:TBox W1 w.heap.size (.mk k1 n1 m1 b1 v1 ts1) (.slice A1 L1 c1):=by rw [←hW1];exact TBox.new w hnb1 hmb1
 have d2:Below W1.heap.size W1 W2:=by rw [←hW2];exact (Below.refl _ _).alloc (Nat.le_refl _) _
 have s2:W2.heap.size=W1.heap.size+1:=by rw [←hW2];simp
 have X2:TBox W2 W1.heap.size (.mk k2 n2 m2 b2 v2 ts2) (.slice A2 L2 c2):=by rw [←hW2];exact TBox.new W1 hnb2 hmb2
 have d3:Below W2.heap.size W2 W3:=by rw [←hW3];exact (Below.refl _ _).alloc (Nat.le_refl _) _
 have s3:W3.heap.size=W2.heap.size+1:=by rw [←hW3];simp
 have X3:TBox W3 W2.heap.size (.mk k3 n3 m3 b3 v3 ts3) (.slice A3 L3 c3):=by rw [←hW3];exact TBox.new W2 hnb3 hmb3
 have d4:Below W3.heap.size W3 W4:=by rw [←hW4];exact (Below.refl _ _).alloc (Nat.le_refl _) _
 have s4:W4.heap.size=W3.heap.size+1:=by rw [←hW4];simp
 have X4:W4.heap[W3.heap.size]?=some (.cells #[.int .i64 nx] 3 (0,0)):=by rw [←hW4];exact heap_alloc_new W3 _
 have d5:Below W4.heap.size W4 W5:=by rw [←hW5];exact (Below.refl _ _).alloc (Nat.le_refl _) _
 have s5:W5.heap.size=W4.heap.size+1:=by rw [←hW5];simp
 have X5:TBox W5 W4.heap.size zeroT (.slice none 0 0):=by rw [←hW5];exact heap_alloc_new W4 _
 have d6:Below W5.heap.size W5 W6:=by rw [←hW6];exact (Below.refl _ _).alloc (Nat.le_refl _) _
 have s6:W6.heap.size=W5.heap.size+1:=by rw [←hW6];simp
 have X6:W6.heap[W5.heap.size]?=some (.cells #[.nilIface] 29 (0,0)):=by rw [←hW6];exact heap_alloc_new W5 _
 have d7:Below W6.heap.size W6 W7:=by rw [←hW7];exact (Below.refl _ _).alloc (Nat.le_refl _) _
 have s7:W7.heap.size=W6.heap.size+1:=by rw [←hW7];simp
 have X7:W7.heap[W6.heap.size]?=some (.cells #[.int .i64 k1,.string nb1,.string mb1,.int .u64 b1,.int .i64 v1,.slice A1 L1 c1,.int .i64 k2,.string nb2,.string mb2,.int .u64 b2,.int .i64 v2,.slice A2 L2 c2,.int .i64 k3,.string nb3,.string mb3,.int .u64 b3,.int .i64 v3,.slice A3 L3 c3] 25 (0,0)):=by rw [←hW7];exact heap_alloc_new W6 _
 replace X1:=X1.below d2
 replace X1:=X1.below d3
 replace X1:=X1.below d4
 replace X1:=X1.below d5
 replace X1:=X1.below d6
 replace X1:=X1.below d7
 replace X2:=X2.below d3
 replace X2:=X2.below d4
 replace X2:=X2.below d5
 replace X2:=X2.below d6
 replace X2:=X2.below d7
 replace X3:=X3.below d4
 replace X3:=X3.below d5
 replace X3:=X3.below d6
 replace X3:=X3.below d7
 replace X4:=(d5.block _ (by omega)).trans X4
 replace X4:=(d6.block _ (by omega)).trans X4
 replace X4:=(d7.block _ (by omega)).trans X4
 replace X5:=X5.below d6
 replace X5:=X5.below d7
 replace X6:=(d7.block _ (by omega)).trans X6
 have hb7:Below w.heap.size w W7:=d1.trans ((d2.trans ((d3.trans ((d4.trans ((d5.trans ((d6.trans ((d7).mono (by omega))).mono (by omega))).mono (by omega))).mono (by omega))).mono (by omega))).mono (by omega))
 have hsz7:W7.heap.size=w.heap.size+1+1+1+1+1+1+1:=by omega
 have hrow:RowP W7 (fun b=>b<w.heap.size) (some ⟨W6.heap.size,0,none⟩) 3 [((.mk k1 n1 m1 b1 v1 ts1:Tm),Value.slice A1 L1 c1),((.mk k2 n2 m2 b2 v2 ts2:Tm),Value.slice A2 L2 c2),((.mk k3 n3 m3 b3 v3 ts3:Tm),Value.slice A3 L3 c3)]:=rowP_at X7 (by rw [←hnb1,←hmb1,←hnb2,←hmb2,←hnb3,←hmb3];rfl) rfl (mem3 (TAtP.below h1 hb7 (fun b hb=>hb)) (TAtP.below h2 hb7 (fun b hb=>hb)) (TAtP.below h3 hb7 (fun b hb=>hb)))
 have hck:=dcheck_any (w0:=w0) (c:=3) hrow (fun b hb=>Nat.lt_of_lt_of_le hb hb7.size) (by unfold maxArgs;omega) (Nat.le_refl _) (hU.below hb7)
 rw [s6,s5,s4,s3,s2,s1] at X7
 rw [s5,s4,s3,s2,s1] at X6
 rw [s4,s3,s2,s1] at X5
 rw [s3,s2,s1] at X4
 rw [s2,s1] at X3
 rw [s1] at X2
 rw [s6,s5,s4,s3,s2,s1] at hck
 obtain ⟨x0,x1,x2,x3,x4,x5⟩:=X1.cells hnb1 hmb1
 obtain ⟨y0,y1,y2,y3,y4,y5⟩:=X2.cells hnb2 hmb2
 obtain ⟨z0,z1,z2,z3,z4,z5⟩:=X3.cells hnb3 hmb3
 have HX:=Lib.hid (And.intro X1 (And.intro X2 (And.intro X3 (And.intro X4 (And.intro X5 X6)))))
 have HM:=Lib.hid (And.intro (And.intro hnb1 hmb1) (And.intro (And.intro hnb2 hmb2) (And.intro hnb3 hmb3)))
 have HT:=Lib.hid (And.intro h1 (And.intro h2 h3))
 have HB:=Lib.hid (And.intro hb7 hsz7)
 have HC:=Lib.hid hck
 have HU:=Lib.hid hU
 have HWe:=Lib.hid hW7
 subst hW1 hW2 hW3 hW4 hW5 hW6
 rw [←HWe.out] at x0 x1 x2 x3 x4 x5 y0 y1 y2 y3 y4 y5 z0 z1 z2 z3 z4 z5 HC
 clear h1 h2 h3 hU hck hrow hb7 hsz7 hW7 X1 X2 X3 X4 X5 X6 X7 s1 s2 s3 s4 s5 s6 s7 d1 d2 d3 d4 d5 d6 d7 hnb1 hmb1 hnb2 hmb2 hnb3 hmb3 hL1 hL2 hL3 hv1 hv2 hv3 hs1 hs2 hs3 hq1 hq2 hq3
 rw [show checksP ([((.mk k1 n1 m1 b1 v1 ts1:Tm),Value.slice A1 L1 c1),((.mk k2 n2 m2 b2 v2 ts2:Tm),Value.slice A2 L2 c2),((.mk k3 n3 m3 b3 v3 ts3:Tm),Value.slice A3 L3 c3)].map (·.1))=0 from hcs,errV,if_pos rfl] at HC
 clear hcs
 have hc2:(nx<0)∨(¬nx<0∧4611686018427387904<nx):=by omega
 clear hc
 go_enter_defers Tryd.func16,Tryd.ntmps16
 go_upto_region 4 with (go_at_call 27;(with_reducible refine HC.out.mono ?_);rintro e w8 ⟨rfl,hb8⟩;rw [HWe.out] at hb8;have HX8:=Lib.hid (show TBox w8 (w.heap.size+1+1+1+1) zeroT (.slice none 0 0)∧w8.heap[w.heap.size+1+1+1+1+1]?=some (.cells #[.nilIface] 29 (0,0))∧Below w.heap.size w w8 from ⟨HX.out.2.2.2.2.1.below hb8,(hb8.block _ (Array.getElem?_eq_some_iff.1 HX.out.2.2.2.2.2).1).trans HX.out.2.2.2.2.2,HB.out.1.trans (hb8.mono HB.out.1.size)⟩);have HB8:=Lib.hid hb8;have cN:=cell_of_one (show w8.heap[w.heap.size+1+1+1]?=some (.cells #[.int .i64 nx] 3 (0,0)) from (hb8.block _ (Array.getElem?_eq_some_iff.1 HX.out.2.2.2.1).1).trans HX.out.2.2.2.1);clear hb8)
 obtain ⟨a0,a1,a2,a3,a4,a5⟩:=HX8.out.1.cells rfl rfl
 obtain ⟨e0,e1,e2,e3,e4,e5⟩:=HX8.out.1.frozens
 have cE:=cell_of_one HX8.out.2.1
 have fE:=free_of_one HX8.out.2.1
 rcases hc2 with hn | ⟨hn,hn2⟩
 ·go_wp2
  obtain ⟨hbx,hgr⟩:=HX8.out.1.set6 (k:=0) (b:=0) (v:=0) (n:=[]) (m:=[]) (nb:=⟨#[]⟩) (mb:=⟨#[]⟩) [] (.slice none 0 0) rfl rfl
  generalize ((((((w8.setCell ⟨w.heap.size+1+1+1+1,0,none⟩ (.int .i64 0)).setCell ⟨w.heap.size+1+1+1+1,1,none⟩ (.string ⟨#[]⟩)).setCell ⟨w.heap.size+1+1+1+1,2,none⟩ (.string ⟨#[]⟩)).setCell ⟨w.heap.size+1+1+1+1,3,none⟩ (.int .u64 0)).setCell ⟨w.heap.size+1+1+1+1,4,none⟩ (.int .i64 0)).setCell ⟨w.heap.size+1+1+1+1,5,none⟩ (.slice none 0 0))=w9 at *
  have hE9:=blk_ne hgr HX8.out.2.1 (by omega)
  have hbx10:=hbx.far (p:=⟨w.heap.size+1+1+1+1+1,0,none⟩) (by show w.heap.size+1+1+1+1≠w.heap.size+1+1+1+1+1;omega) (.iface 32 (.int .i64 1))
  have hE10:=one_setCell (u:=.iface 32 (.int .i64 1)) hE9
  have hb10:Below w.heap.size w (w9.setCell ⟨w.heap.size+1+1+1+1+1,0,none⟩ (.iface 32 (.int .i64 1))):=(HX8.out.2.2.grown hgr HX8.out.2.2.size (fun j e=>by injection e with e;omega)).setCell (by show w.heap.size≤w.heap.size+1+1+1+1+1;omega) _
  generalize w9.setCell ⟨w.heap.size+1+1+1+1+1,0,none⟩ (.iface 32 (.int .i64 1))=w10 at *
  obtain ⟨r0,r1,r2,r3,r4,r5⟩:=hbx10.cells (nb:=⟨#[]⟩) (mb:=⟨#[]⟩) rfl rfl
  have cE10:=cell_of_one hE10
  simp only [bodyPostD,Leaves]
  exact ⟨.tuple #[zeroTV,.int .i64 0,.iface 32 (.int .i64 1)],by simp [results,Tryd.results16,go_sem,r0,r1,r2,r3,r4,r5,cE10,zeroTV],rfl,hb10⟩
 ·go_wp2
  obtain ⟨hbx,hgr⟩:=HX8.out.1.set6 (k:=0) (b:=0) (v:=0) (n:=[]) (m:=[]) (nb:=⟨#[]⟩) (mb:=⟨#[]⟩) [] (.slice none 0 0) rfl rfl
  generalize ((((((w8.setCell ⟨w.heap.size+1+1+1+1,0,none⟩ (.int .i64 0)).setCell ⟨w.heap.size+1+1+1+1,1,none⟩ (.string ⟨#[]⟩)).setCell ⟨w.heap.size+1+1+1+1,2,none⟩ (.string ⟨#[]⟩)).setCell ⟨w.heap.size+1+1+1+1,3,none⟩ (.int .u64 0)).setCell ⟨w.heap.size+1+1+1+1,4,none⟩ (.int .i64 0)).setCell ⟨w.heap.size+1+1+1+1,5,none⟩ (.slice none 0 0))=w9 at *
  have hE9:=blk_ne hgr HX8.out.2.1 (by omega)
  have hbx10:=hbx.far (p:=⟨w.heap.size+1+1+1+1+1,0,none⟩) (by show w.heap.size+1+1+1+1≠w.heap.size+1+1+1+1+1;omega) (.iface 32 (.int .i64 1))
  have hE10:=one_setCell (u:=.iface 32 (.int .i64 1)) hE9
  have hb10:Below w.heap.size w (w9.setCell ⟨w.heap.size+1+1+1+1+1,0,none⟩ (.iface 32 (.int .i64 1))):=(HX8.out.2.2.grown hgr HX8.out.2.2.size (fun j e=>by injection e with e;omega)).setCell (by show w.heap.size≤w.heap.size+1+1+1+1+1;omega) _
  generalize w9.setCell ⟨w.heap.size+1+1+1+1+1,0,none⟩ (.iface 32 (.int .i64 1))=w10 at *
  obtain ⟨r0,r1,r2,r3,r4,r5⟩:=hbx10.cells (nb:=⟨#[]⟩) (mb:=⟨#[]⟩) rfl rfl
  have cE10:=cell_of_one hE10
  simp only [bodyPostD,Leaves]
  exact ⟨.tuple #[zeroTV,.int .i64 0,.iface 32 (.int .i64 1)],by simp [results,Tryd.results16,go_sem,r0,r1,r2,r3,r4,r5,cE10,zeroTV],rfl,hb10⟩
set_option maxRecDepth 100000 in
set_option maxHeartbeats 16000000 in
theorem Body_main {w0 w:World} {t f d:Tm} {st sf sd:Value} {nx:Int} (h1:TAt w w.heap.size t st) (h2:TAt w w.heap.size f sf) (h3:TAt w w.heap.size d sd) (hU:UOk w0 w) (hcs:checksP [t,f,d]=0) (hc:0≤nx∧nx≤4611686018427387904):Calls Tryd.prog 16 #[valT t st,valT f sf,valT d sd,.int .i64 nx] w (BodyR w (bodyT t f d nx)):=by
 have hct:checkP t=0∧checkP f=0∧checkP d=0:=by
  have h9:=hcs
  unfold checksP checks at h9
  by_cases e1:check Lib.validD canonB floB t=0
  ·rw [if_neg (by simp [e1])] at h9
   unfold checks at h9
   by_cases e2:check Lib.validD canonB floB f=0
   ·rw [if_neg (by simp [e2])] at h9
    unfold checks at h9
    by_cases e3:check Lib.validD canonB floB d=0
    ·exact ⟨e1,e2,e3⟩
    ·rw [if_pos e3] at h9;exact absurd h9 e3
   ·rw [if_pos e2] at h9;exact absurd h9 e2
  ·rw [if_pos e1] at h9;exact absurd h9 e1
 obtain ⟨k1,n1,m1,b1,v1,ts1,nb1,mb1,A1,c1,hT1,rfl,hnb1,hmb1,hl1,hc1,hx1,hv1,hs1,hq1⟩:=h1.letters
 subst hT1
 obtain ⟨L1,hL1⟩:∃ L,ts1.length=L:=⟨_,rfl⟩
 rw [hv1]
 rw [hL1] at h1 hv1 ⊢
 obtain ⟨k2,n2,m2,b2,v2,ts2,nb2,mb2,A2,c2,hT2,rfl,hnb2,hmb2,hl2,hc2,hx2,hv2,hs2,hq2⟩:=h2.letters
 subst hT2
 obtain ⟨L2,hL2⟩:∃ L,ts2.length=L:=⟨_,rfl⟩
 rw [hv2]
 rw [hL2] at h2 hv2 ⊢
 obtain ⟨k3,n3,m3,b3,v3,ts3,nb3,mb3,A3,c3,hT3,rfl,hnb3,hmb3,hl3,hc3,hx3,hv3,hs3,hq3⟩:=h3.letters
 subst hT3
 obtain ⟨L3,hL3⟩:∃ L,ts3.length=L:=⟨_,rfl⟩
 rw [hv3]
 rw [hL3] at h3 hv3 ⊢
 obtain ⟨W1,hW1⟩:∃ W,w.alloc (.cells #[.int .i64 k1,.string nb1,.string mb1,.int .u64 b1,.int .i64 v1,.slice A1 L1 c1] 25)=W:=⟨_,rfl⟩
 obtain ⟨W2,hW2⟩:∃ W,W1.alloc (.cells #[.int .i64 k2,.string nb2,.string mb2,.int .u64 b2,.int .i64 v2,.slice A2 L2 c2] 25)=W:=⟨_,rfl⟩
 obtain ⟨W3,hW3⟩:∃ W,W2.alloc (.cells #[.int .i64 k3,.string nb3,.string mb3,.int .u64 b3,.int .i64 v3,.slice A3 L3 c3] 25)=W:=⟨_,rfl⟩
 obtain ⟨W4,hW4⟩:∃ W,W3.alloc (.cells #[.int .i64 nx] 3)=W:=⟨_,rfl⟩
 obtain ⟨W5,hW5⟩:∃ W,W4.alloc (.cells #[.int .i64 0,.string ⟨#[]⟩,.string ⟨#[]⟩,.int .u64 0,.int .i64 0,.slice none 0 0] 25)=W:=⟨_,rfl⟩
 obtain ⟨W6,hW6⟩:∃ W,W5.alloc (.cells #[.nilIface] 29)=W:=⟨_,rfl⟩
 obtain ⟨W7,hW7⟩:∃ W,W6.alloc (.cells #[.int .i64 k1,.string nb1,.string mb1,.int .u64 b1,.int .i64 v1,.slice A1 L1 c1,.int .i64 k2,.string nb2,.string mb2,.int .u64 b2,.int .i64 v2,.slice A2 L2 c2,.int .i64 k3,.string nb3,.string mb3,.int .u64 b3,.int .i64 v3,.slice A3 L3 c3] 25)=W:=⟨_,rfl⟩
 have d1:Below w.heap.size w W1:=by rw [←hW1];exact (Below.refl _ _).alloc (Nat.le_refl _) _
 have s1:W1.heap.size=w.heap.size+1:=by rw [←hW1];simp
 have X1:TBox W1 w.heap.size (.mk k1 n1 m1 b1 v1 ts1) (.slice A1 L1 c1):=by rw [←hW1];exact TBox.new w hnb1 hmb1
 have d2:Below W1.heap.size W1 W2:=by rw [←hW2];exact (Below.refl _ _).alloc (Nat.le_refl _) _
 have s2:W2.heap.size=W1.heap.size+1:=by rw [←hW2];simp
 have X2:TBox W2 W1.heap.size (.mk k2 n2 m2 b2 v2 ts2) (.slice A2 L2 c2):=by rw [←hW2];exact TBox.new W1 hnb2 hmb2
 have d3:Below W2.heap.size W2 W3:=by rw [←hW3];exact (Below.refl _ _).alloc (Nat.le_refl _) _
 have s3:W3.heap.size=W2.heap.size+1:=by rw [←hW3];simp
 have X3:TBox W3 W2.heap.size (.mk k3 n3 m3 b3 v3 ts3) (.slice A3 L3 c3):=by rw [←hW3];exact TBox.new W2 hnb3 hmb3
 have d4:Below W3.heap.size W3 W4:=by rw [←hW4];exact (Below.refl _ _).alloc (Nat.le_refl _) _
 have s4:W4.heap.size=W3.heap.size+1:=by rw [←hW4];simp
 have X4:W4.heap[W3.heap.size]?=some (.cells #[.int .i64 nx] 3 (0,0)):=by rw [←hW4];exact heap_alloc_new W3 _
 have d5:Below W4.heap.size W4 W5:=by rw [←hW5];exact (Below.refl _ _).alloc (Nat.le_refl _) _
 have s5:W5.heap.size=W4.heap.size+1:=by rw [←hW5];simp
 have X5:TBox W5 W4.heap.size zeroT (.slice none 0 0):=by rw [←hW5];exact heap_alloc_new W4 _
 have d6:Below W5.heap.size W5 W6:=by rw [←hW6];exact (Below.refl _ _).alloc (Nat.le_refl _) _
 have s6:W6.heap.size=W5.heap.size+1:=by rw [←hW6];simp
 have X6:W6.heap[W5.heap.size]?=some (.cells #[.nilIface] 29 (0,0)):=by rw [←hW6];exact heap_alloc_new W5 _
 have d7:Below W6.heap.size W6 W7:=by rw [←hW7];exact (Below.refl _ _).alloc (Nat.le_refl _) _
 have s7:W7.heap.size=W6.heap.size+1:=by rw [←hW7];simp
 have X7:W7.heap[W6.heap.size]?=some (.cells #[.int .i64 k1,.string nb1,.string mb1,.int .u64 b1,.int .i64 v1,.slice A1 L1 c1,.int .i64 k2,.string nb2,.string mb2,.int .u64 b2,.int .i64 v2,.slice A2 L2 c2,.int .i64 k3,.string nb3,.string mb3,.int .u64 b3,.int .i64 v3,.slice A3 L3 c3] 25 (0,0)):=by rw [←hW7];exact heap_alloc_new W6 _
 replace X1:=X1.below d2
 replace X1:=X1.below d3
 replace X1:=X1.below d4
 replace X1:=X1.below d5
 replace X1:=X1.below d6
 replace X1:=X1.below d7
 replace X2:=X2.below d3
 replace X2:=X2.below d4
 replace X2:=X2.below d5
 replace X2:=X2.below d6
 replace X2:=X2.below d7
 replace X3:=X3.below d4
 replace X3:=X3.below d5
 replace X3:=X3.below d6
 replace X3:=X3.below d7
 replace X4:=(d5.block _ (by omega)).trans X4
 replace X4:=(d6.block _ (by omega)).trans X4
 replace X4:=(d7.block _ (by omega)).trans X4
 replace X5:=X5.below d6
 replace X5:=X5.below d7
 replace X6:=(d7.block _ (by omega)).trans X6
 have hb7:Below w.heap.size w W7:=d1.trans ((d2.trans ((d3.trans ((d4.trans ((d5.trans ((d6.trans ((d7).mono (by omega))).mono (by omega))).mono (by omega))).mono (by omega))).mono (by omega))).mono (by omega))
 have hsz7:W7.heap.size=w.heap.size+1+1+1+1+1+1+1:=by omega
 have hrow:RowP W7 (fun b=>b<w.heap.size) (some ⟨W6.heap.size,0,none⟩) 3 [((.mk k1 n1 m1 b1 v1 ts1:Tm),Value.slice A1 L1 c1),((.mk k2 n2 m2 b2 v2 ts2:Tm),Value.slice A2 L2 c2),((.mk k3 n3 m3 b3 v3 ts3:Tm),Value.slice A3 L3 c3)]:=rowP_at X7 (by rw [←hnb1,←hmb1,←hnb2,←hmb2,←hnb3,←hmb3];rfl) rfl (mem3 (TAtP.below h1 hb7 (fun b hb=>hb)) (TAtP.below h2 hb7 (fun b hb=>hb)) (TAtP.below h3 hb7 (fun b hb=>hb)))
 have hck:=dcheck_any (w0:=w0) (c:=3) hrow (fun b hb=>Nat.lt_of_lt_of_le hb hb7.size) (by unfold maxArgs;omega) (Nat.le_refl _) (hU.below hb7)
 rw [s6,s5,s4,s3,s2,s1] at X7
 rw [s5,s4,s3,s2,s1] at X6
 rw [s4,s3,s2,s1] at X5
 rw [s3,s2,s1] at X4
 rw [s2,s1] at X3
 rw [s1] at X2
 rw [s6,s5,s4,s3,s2,s1] at hck
 obtain ⟨x0,x1,x2,x3,x4,x5⟩:=X1.cells hnb1 hmb1
 obtain ⟨y0,y1,y2,y3,y4,y5⟩:=X2.cells hnb2 hmb2
 obtain ⟨z0,z1,z2,z3,z4,z5⟩:=X3.cells hnb3 hmb3
 have HX:=Lib.hid (And.intro X1 (And.intro X2 (And.intro X3 (And.intro X4 (And.intro X5 X6)))))
 have HM:=Lib.hid (And.intro (And.intro hnb1 hmb1) (And.intro (And.intro hnb2 hmb2) (And.intro hnb3 hmb3)))
 have HT:=Lib.hid (And.intro h1 (And.intro h2 h3))
 have HB:=Lib.hid (And.intro hb7 hsz7)
 have HC:=Lib.hid hck
 have HU:=Lib.hid hU
 have HWe:=Lib.hid hW7
 subst hW1 hW2 hW3 hW4 hW5 hW6
 rw [←HWe.out] at x0 x1 x2 x3 x4 x5 y0 y1 y2 y3 y4 y5 z0 z1 z2 z3 z4 z5 HC
 clear h1 h2 h3 hU hck hrow hb7 hsz7 hW7 X1 X2 X3 X4 X5 X6 X7 s1 s2 s3 s4 s5 s6 s7 d1 d2 d3 d4 d5 d6 d7 hnb1 hmb1 hnb2 hmb2 hnb3 hmb3 hL1 hL2 hL3 hv1 hv2 hv3 hs1 hs2 hs3 hq1 hq2 hq3
 rw [show checksP ([((.mk k1 n1 m1 b1 v1 ts1:Tm),Value.slice A1 L1 c1),((.mk k2 n2 m2 b2 v2 ts2:Tm),Value.slice A2 L2 c2),((.mk k3 n3 m3 b3 v3 ts3:Tm),Value.slice A3 L3 c3)].map (·.1))=0 from hcs,errV,if_pos rfl] at HC
 have HCk:=Lib.hid (And.intro hct hc)
 clear hcs hct
 obtain ⟨hc1,hc2⟩:=hc
 have hc3:¬nx<0:=by omega
 have hc4:¬4611686018427387904<nx:=by omega
 obtain ⟨RR,hRR⟩:∃ RR,bodyT (.mk k1 n1 m1 b1 v1 ts1) (.mk k2 n2 m2 b2 v2 ts2) (.mk k3 n3 m3 b3 v3 ts3) nx=RR:=⟨_,rfl⟩
 obtain ⟨RM,hRM⟩:∃ RM,mkB (.mk k1 n1 m1 b1 v1 ts1) (.mk k2 n2 m2 b2 v2 ts2) (.mk k3 n3 m3 b3 v3 ts3) nx=RM:=⟨_,rfl⟩
 rw [hRR]
 have HRR:=Lib.hid (And.intro hRR hRM)
 clear hRR hRM
 go_enter_defers Tryd.func16,Tryd.ntmps16
 go_upto_region 7 with (go_at_call 27;(with_reducible refine HC.out.mono ?_);rintro e w8 ⟨rfl,hb8⟩;rw [HWe.out] at hb8;have HX8:=Lib.hid (show TBox w8 (w.heap.size+1+1+1+1) zeroT (.slice none 0 0)∧w8.heap[w.heap.size+1+1+1+1+1]?=some (.cells #[.nilIface] 29 (0,0))∧Below w.heap.size w w8 from ⟨HX.out.2.2.2.2.1.below hb8,(hb8.block _ (Array.getElem?_eq_some_iff.1 HX.out.2.2.2.2.2).1).trans HX.out.2.2.2.2.2,HB.out.1.trans (hb8.mono HB.out.1.size)⟩);have HB8:=Lib.hid hb8;have cN:=cell_of_one (show w8.heap[w.heap.size+1+1+1]?=some (.cells #[.int .i64 nx] 3 (0,0)) from (hb8.block _ (Array.getElem?_eq_some_iff.1 HX.out.2.2.2.1).1).trans HX.out.2.2.2.1);clear hb8)
 clear x0 x1 x2 x3 x4 x5 y0 y1 y2 y3 y4 y5 z0 z1 z2 z3 z4 z5 cN
 have HSS:=Lib.hid (show ∀ z,w8.grownBy z (some (w.heap.size+1+1+1))→((z.cell? ⟨w.heap.size,0,none⟩=some (.int .i64 k1)∧z.cell? ⟨w.heap.size,1,none⟩=some (.string nb1)∧z.cell? ⟨w.heap.size,2,none⟩=some (.string mb1)∧z.cell? ⟨w.heap.size,3,none⟩=some (.int .u64 b1)∧z.cell? ⟨w.heap.size,4,none⟩=some (.int .i64 v1)∧z.cell? ⟨w.heap.size,5,none⟩=some (.slice A1 L1 c1))∧(z.cell? ⟨w.heap.size+1,0,none⟩=some (.int .i64 k2)∧z.cell? ⟨w.heap.size+1,1,none⟩=some (.string nb2)∧z.cell? ⟨w.heap.size+1,2,none⟩=some (.string mb2)∧z.cell? ⟨w.heap.size+1,3,none⟩=some (.int .u64 b2)∧z.cell? ⟨w.heap.size+1,4,none⟩=some (.int .i64 v2)∧z.cell? ⟨w.heap.size+1,5,none⟩=some (.slice A2 L2 c2))∧(z.cell? ⟨w.heap.size+1+1,0,none⟩=some (.int .i64 k3)∧z.cell? ⟨w.heap.size+1+1,1,none⟩=some (.string nb3)∧z.cell? ⟨w.heap.size+1+1,2,none⟩=some (.string mb3)∧z.cell? ⟨w.heap.size+1+1,3,none⟩=some (.int .u64 b3)∧z.cell? ⟨w.heap.size+1+1,4,none⟩=some (.int .i64 v3)∧z.cell? ⟨w.heap.size+1+1,5,none⟩=some (.slice A3 L3 c3))) from fun z hb=>⟨((HX.out.1.below HB8.out).gro hb (by omega)).cells HM.out.1.1 HM.out.1.2,((HX.out.2.1.below HB8.out).gro hb (by omega)).cells HM.out.2.1.1 HM.out.2.1.2,((HX.out.2.2.1.below HB8.out).gro hb (by omega)).cells HM.out.2.2.1 HM.out.2.2.2⟩)
 have h8z:=HB8.out.size
 have h7z:=HB.out.2
 obtain ⟨G,hG⟩:∃ G,w.heap.size=G:=⟨_,rfl⟩
 have HG:=Lib.hid hG
 have HN8:=Lib.hid (show w8.heap[w.heap.size+1+1+1]?=some (.cells #[.int .i64 nx] 3 (0,0)) from (HB8.out.block _ (Array.getElem?_eq_some_iff.1 HX.out.2.2.2.1).1).trans HX.out.2.2.2.1)
 have HZ:=Lib.hid (show G+1+1+1+1+1+1+1≤w8.heap.size by omega)
 clear h8z h7z hG
 refine wp_region_wait (fun z=>((z.cell? ⟨w.heap.size,0,none⟩=some (.int .i64 k1)∧z.cell? ⟨w.heap.size,1,none⟩=some (.string nb1)∧z.cell? ⟨w.heap.size,2,none⟩=some (.string mb1)∧z.cell? ⟨w.heap.size,3,none⟩=some (.int .u64 b1)∧z.cell? ⟨w.heap.size,4,none⟩=some (.int .i64 v1)∧z.cell? ⟨w.heap.size,5,none⟩=some (.slice A1 L1 c1))∧(z.cell? ⟨w.heap.size+1,0,none⟩=some (.int .i64 k2)∧z.cell? ⟨w.heap.size+1,1,none⟩=some (.string nb2)∧z.cell? ⟨w.heap.size+1,2,none⟩=some (.string mb2)∧z.cell? ⟨w.heap.size+1,3,none⟩=some (.int .u64 b2)∧z.cell? ⟨w.heap.size+1,4,none⟩=some (.int .i64 v2)∧z.cell? ⟨w.heap.size+1,5,none⟩=some (.slice A2 L2 c2))∧(z.cell? ⟨w.heap.size+1+1,0,none⟩=some (.int .i64 k3)∧z.cell? ⟨w.heap.size+1+1,1,none⟩=some (.string nb3)∧z.cell? ⟨w.heap.size+1+1,2,none⟩=some (.string mb3)∧z.cell? ⟨w.heap.size+1+1,3,none⟩=some (.int .u64 b3)∧z.cell? ⟨w.heap.size+1+1,4,none⟩=some (.int .i64 v3)∧z.cell? ⟨w.heap.size+1+1,5,none⟩=some (.slice A3 L3 c3)))) 6 (by kernel_rfl) ?_
 change wpAnyW _ _ _ _ _ _ _ _ _ w8.drew
 have KK:=Lib.hid (below_drew' w8)
 generalize w8.drew=u0 at *
 refine wpAnyW_take 6 (i:=0) (v:=.agg #[.int .i64 k1,.string nb1,.string mb1,.int .u64 b1,.int .i64 v1,.slice A1 L1 c1]) rfl (by kernel_rfl) (by kernel_rfl) (by kernel_rfl) (by kernel_rfl) (fun c a w h=>hqBody (by omega) c a w h) (Or.inl ⟨by rfl,?_⟩) (HSS.out _ (grown_below KK.out)) ?_
 ·intro w5 hSw
  obtain ⟨⟨p0,p1,p2,p3,p4,p5⟩,⟨q0,q1,q2,q3,q4,q5⟩,⟨r0,r1,r2,r3,r4,r5⟩⟩:=hSw
  go_simp
 refine wpAnyW_take 6 (i:=1) (v:=.agg #[.int .i64 k2,.string nb2,.string mb2,.int .u64 b2,.int .i64 v2,.slice A2 L2 c2]) rfl (by kernel_rfl) (by kernel_rfl) (by kernel_rfl) (by kernel_rfl) (fun c a w h=>hqBody (by omega) c a w h) (Or.inl ⟨by rfl,?_⟩) (HSS.out _ (grown_below KK.out)) ?_
 ·intro w5 hSw
  obtain ⟨⟨p0,p1,p2,p3,p4,p5⟩,⟨q0,q1,q2,q3,q4,q5⟩,⟨r0,r1,r2,r3,r4,r5⟩⟩:=hSw
  go_simp
 refine wpAnyW_take 6 (i:=2) (v:=.agg #[.int .i64 k3,.string nb3,.string mb3,.int .u64 b3,.int .i64 v3,.slice A3 L3 c3]) rfl (by kernel_rfl) (by kernel_rfl) (by kernel_rfl) (by kernel_rfl) (fun c a w h=>hqBody (by omega) c a w h) (Or.inl ⟨by rfl,?_⟩) (HSS.out _ (grown_below KK.out)) ?_
 ·intro w5 hSw
  obtain ⟨⟨p0,p1,p2,p3,p4,p5⟩,⟨q0,q1,q2,q3,q4,q5⟩,⟨r0,r1,r2,r3,r4,r5⟩⟩:=hSw
  go_simp
 have HFm:=Lib.hid (from_any (w:=u0) (N:=w.heap.size+1+1+1) (x:=nx) ((KK.out.block _ (Array.getElem?_eq_some_iff.1 HN8.out).1).trans HN8.out))
 rw [show freshV u0.heap.size = .func (.func 60) #[] #[.pointer (some ⟨u0.heap.size,0,none⟩)] from rfl] at HFm
 refine w1 3 fun K hK=>?_
 go_simp
 (with_reducible refine HFm.out.mono ?_)
 rintro e u1 ⟨rfl,hn1,hb1⟩
 have HN1:=Lib.hid hn1
 have hq0:=KK.out.size
 have HQ0:=Lib.hid hq0
 replace KK:=Lib.hid (KK.out.trans (hb1.mono KK.out.size))
 clear hn1 hb1 hq0 HFm
 refine hK.out _ _ (fun _=>HSS.out _ (grown_below KK.out)) ?_
 generalize u0.heap.size=Q at *
 have hw1:=HX8.out.2.2.trans (KK.out.mono HX8.out.2.2.size)
 have HBo:=Lib.hid (body_any w0 (.mk k1 n1 m1 b1 v1 ts1) u1 (fun b=>b<w.heap.size) (.mk k2 n2 m2 b2 v2 ts2) (.mk k3 n3 m3 b3 v3 ts3) (.slice A1 L1 c1) (.slice A2 L2 c2) (.slice A3 L3 c3) Q (w.heap.size+1+1+1) nx (fun b hb=>⟨Nat.lt_of_lt_of_le hb hw1.size,by omega⟩) (TAtP.below HT.out.1 hw1 (fun b hb=>hb)) (TAtP.below HT.out.2.1 hw1 (fun b hb=>hb)) (TAtP.below HT.out.2.2 hw1 (fun b hb=>hb)) HN1.out HCk.out.2.1 (by have:=(check_iff.1 HCk.out.1.1).1;have:=HCk.out.2.2;omega) HCk.out.1.1 (HU.out.below hw1) (by have:=HU.out.bel.size;omega))
 rw [HRR.out.2,valT_mk HM.out.1.1 HM.out.1.2,valT_mk HM.out.2.1.1 HM.out.2.1.2,valT_mk HM.out.2.2.1 HM.out.2.2.2,show freshV Q = .func (.func 60) #[] #[.pointer (some ⟨Q,0,none⟩)] from rfl] at HBo
 have HW1:=Lib.hid hw1
 clear hw1
 refine w1 4 fun K hK=>?_
 go_simp
 cases RM with
 | error bt=>
  (with_reducible refine HBo.out.mono ?_)
  rintro e u2 hp
  obtain ⟨hg,bb,rfl,hball⟩:=hp.bad
  have hRE:=HRR.out.1
  rw [bodyT_bad HRR.out.2] at hRE
  subst hRE
  have hgU:=grown_trans (grown_below (r:=some (w.heap.size+1+1+1)) KK.out) hg
  have hsU:=hgU.size
  have hE:=blk_ne hgU HX8.out.2.1 (by omega)
  have hRb:=HX8.out.1.gro hgU (by omega)
  have hbx:=hRb.far (p:=⟨w.heap.size+1+1+1+1+1,0,none⟩) (by show w.heap.size+1+1+1+1≠w.heap.size+1+1+1+1+1;omega) (.iface 82 (.pointer (some ⟨bb,0,none⟩)))
  have hE2:=one_setCell (u:=.iface 82 (.pointer (some ⟨bb,0,none⟩))) hE
  have hbl:=BallAt.caught hball hE (.iface 82 (.pointer (some ⟨bb,0,none⟩)))
  have hbw:Below w.heap.size w (u2.setCell ⟨w.heap.size+1+1+1+1+1,0,none⟩ (.iface 82 (.pointer (some ⟨bb,0,none⟩)))):=(HW1.out.grown hg HW1.out.size (fun j e=>by injection e with e;omega)).setCell (by show w.heap.size≤w.heap.size+1+1+1+1+1;omega) _
  change Leaves _ _ _ _ _ (.panicking _) _
  refine leaves_cons (f:=29) (args:=#[.pointer (some ⟨w.heap.size+1+1+1+1+1,0,none⟩)]) (by simp) (by simp [go_sem]) ?_
  refine (caught_throws (w.heap.size+1+1+1+1+1) bb [] u2 (cell_of_one hE) (free_of_one hE)).mono ?_
  rintro e u' w'' ⟨rfl,rfl,rfl⟩
  obtain ⟨r0,r1,r2,r3,r4,r5⟩:=hbx.cells (nb:=⟨#[]⟩) (mb:=⟨#[]⟩) rfl rfl
  have cE2:=cell_of_one hE2
  simp only [settle,Leaves,List.dropWhile]
  exact ⟨.tuple #[zeroTV,.int .i64 0,.iface 82 (.pointer (some ⟨bb,0,none⟩))],by simp [results,Tryd.results16,go_sem,r0,r1,r2,r3,r4,r5,cE2,zeroTV],BodyR.mkBad hbw rfl hbl⟩
 | ok p=>
  obtain ⟨a,n'⟩:=p
  obtain ⟨k5,n5,m5,b5,v5,ts5⟩:=a
  obtain ⟨nb5,hnb5⟩:∃ nb:ByteArray,(⟨n5.toArray⟩:ByteArray)=nb:=⟨_,rfl⟩
  obtain ⟨mb5,hmb5⟩:∃ mb:ByteArray,(⟨m5.toArray⟩:ByteArray)=mb:=⟨_,rfl⟩
  obtain ⟨L5,hL5⟩:∃ L,ts5.length=L:=⟨_,rfl⟩
  have HL5:=Lib.hid (And.intro hnb5 (And.intro hmb5 hL5))
  clear hnb5 hmb5 hL5
  have HEr:=Lib.hid (show errsP (.mk k5 n5 m5 b5 v5 ts5)=0 from (mkB_mk _ _ _ _ _ _ HRR.out.2).errs names_ok HCk.out.2.1 (check_iff.1 HCk.out.1.1).2 (check_iff.1 HCk.out.1.2.1).2 (check_iff.1 HCk.out.1.2.2).2)
  (with_reducible refine HBo.out.mono ?_)
  rintro e u2 hp
  obtain ⟨A5,c5,rfl,hta,hnu,hg⟩:=hp.letters HL5.out.1 HL5.out.2.1 HL5.out.2.2
  have HGU:=Lib.hid (grown_trans (grown_below (r:=some (w.heap.size+1+1+1)) KK.out) hg)
  have HBU:=Lib.hid (show Below w.heap.size w u2 from HW1.out.grown hg HW1.out.size (fun j e=>by injection e with e;omega))
  have HT5:=Lib.hid (show TAt u2 u2.heap.size (.mk k5 n5 m5 b5 v5 ts5) (.slice A5 L5 c5) from hta.wide (fun b hb=>Grow.lt (fun b hb=>Nat.lt_of_lt_of_le hb HW1.out.size) hg.size b hb))
  have HN2:=Lib.hid hnu
  clear hta hnu hg hp
  refine hK.out _ _ (fun _=>HSS.out _ HGU.out) ?_
  refine w1 5 fun K hK=>?_
  go_simp
  by_cases hz:4000<nodes (.mk k5 n5 m5 b5 v5 ts5)
  ·have hRE:=HRR.out.1
   rw [bodyT_big HRR.out.2 hz] at hRE
   subst hRE
   have hwb:=whole_big HT5.out hz
   rw [valT_mk HL5.out.1 HL5.out.2.1] at hwb
   (with_reducible refine hwb.mono ?_)
   rintro e u3 ⟨⟨bb,rfl,hball⟩,hb3⟩
   have hgU:=grown_trans HGU.out (grown_below hb3)
   have hsU:=hgU.size
   have hE:=blk_ne hgU HX8.out.2.1 (by omega)
   have hRb:=HX8.out.1.gro hgU (by omega)
   have hbx:=hRb.far (p:=⟨w.heap.size+1+1+1+1+1,0,none⟩) (by show w.heap.size+1+1+1+1≠w.heap.size+1+1+1+1+1;omega) (.iface 82 (.pointer (some ⟨bb,0,none⟩)))
   have hE2:=one_setCell (u:=.iface 82 (.pointer (some ⟨bb,0,none⟩))) hE
   have hbl:=BallAt.caught hball hE (.iface 82 (.pointer (some ⟨bb,0,none⟩)))
   have hbw:Below w.heap.size w (u3.setCell ⟨w.heap.size+1+1+1+1+1,0,none⟩ (.iface 82 (.pointer (some ⟨bb,0,none⟩)))):=(HBU.out.trans (hb3.mono HBU.out.size)).setCell (by show w.heap.size≤w.heap.size+1+1+1+1+1;omega) _
   change Leaves _ _ _ _ _ (.panicking _) _
   refine leaves_cons (f:=29) (args:=#[.pointer (some ⟨w.heap.size+1+1+1+1+1,0,none⟩)]) (by simp) (by simp [go_sem]) ?_
   refine (caught_throws (w.heap.size+1+1+1+1+1) bb [] u3 (cell_of_one hE) (free_of_one hE)).mono ?_
   rintro e u' w'' ⟨rfl,rfl,rfl⟩
   obtain ⟨r0,r1,r2,r3,r4,r5⟩:=hbx.cells (nb:=⟨#[]⟩) (mb:=⟨#[]⟩) rfl rfl
   have cE2:=cell_of_one hE2
   simp only [settle,Leaves,List.dropWhile]
   exact ⟨.tuple #[zeroTV,.int .i64 0,.iface 82 (.pointer (some ⟨bb,0,none⟩))],by simp [results,Tryd.results16,go_sem,r0,r1,r2,r3,r4,r5,cE2,zeroTV],BodyR.mkBad hbw rfl hbl⟩
  ·have hRE:=HRR.out.1
   rw [bodyT_fit HRR.out.2 hz] at hRE
   subst hRE
   have hwf:=own_letters HL5.out.1 HL5.out.2.1 HL5.out.2.2 (whole_fit HT5.out (bare_errs _ HEr.out) hz)
   rw [valT_mk HL5.out.1 HL5.out.2.1] at hwf
   clear hz
   (with_reducible refine hwf.mono ?_)
   rintro e u3 ⟨A6,c6,rfl,ho3,hb3⟩
   have HG3:=Lib.hid (grown_trans HGU.out (grown_below hb3))
   have HO3:=Lib.hid (And.intro ho3 (And.intro (HBU.out.trans (hb3.mono HBU.out.size)) (HN2.out.below hb3)))
   have HR3:=Lib.hid (show TBox u3 (w.heap.size+1+1+1+1) zeroT (.slice none 0 0)∧u3.heap[w.heap.size+1+1+1+1+1]?=some (.cells #[.nilIface] 29 (0,0)) from ⟨HX8.out.1.gro HG3.out (by omega),blk_ne HG3.out HX8.out.2.1 (by omega)⟩)
   have HZ3:=Lib.hid (show w8.heap.size≤u2.heap.size∧u2.heap.size≤u3.heap.size from ⟨HGU.out.size,hb3.size⟩)
   clear ho3 hb3 hwf
   refine hK.out _ _ (fun _=>HSS.out _ HG3.out) ?_
   refine w1 6 fun K hK=>?_
   obtain ⟨a0,a1,a2,a3,a4,a5⟩:=HR3.out.1.cells rfl rfl
   obtain ⟨e0,e1,e2,e3,e4,e5⟩:=HR3.out.1.frozens
   go_simp
   refine hK.out _ _ (fun h=>absurd h (by simp)) ?_
   refine wpAnyW_done (by kernel_rfl) ?_ _
   clear a0 a1 a2 a3 a4 a5 e0 e1 e2 e3 e4 e5
   obtain ⟨hbx,hgr⟩:=HR3.out.1.set6 (k:=k5) (b:=b5) (v:=v5) (n:=n5) (m:=m5) ts5 (.slice A6 L5 c6) HL5.out.1 HL5.out.2.1
   generalize ((((((u3.setCell ⟨w.heap.size+1+1+1+1,0,none⟩ (.int .i64 k5)).setCell ⟨w.heap.size+1+1+1+1,1,none⟩ (.string nb5)).setCell ⟨w.heap.size+1+1+1+1,2,none⟩ (.string mb5)).setCell ⟨w.heap.size+1+1+1+1,3,none⟩ (.int .u64 b5)).setCell ⟨w.heap.size+1+1+1+1,4,none⟩ (.int .i64 v5)).setCell ⟨w.heap.size+1+1+1+1,5,none⟩ (.slice A6 L5 c6))=u4 at *
   have h38:=HZ3.out
   have hz8:=HZ.out
   have hgg:=HG.out
   have HO4:=Lib.hid (show TOwn u4 (.mk k5 n5 m5 b5 v5 ts5) (.slice A6 L5 c6) w8.heap.size u4.heap.size∧Below w.heap.size w u4∧u4.heap[w.heap.size+1+1+1]?=some (.cells #[.int .i64 n'] 3 (0,0))∧u4.heap[w.heap.size+1+1+1+1+1]?=some (.cells #[.nilIface] 29 (0,0)) from
    ⟨((TOwn.keep _ HO3.out.1 (fun b h1 h2=>hgr.block b h2 (fun e=>by injection e with e;omega))).widen hgr.size).lower (by omega),HO3.out.2.1.grown hgr HO3.out.2.1.size (fun j e=>by injection e with e;omega),blk_ne hgr HO3.out.2.2.n (by omega),blk_ne hgr HR3.out.2 (by omega)⟩)
   have HX4:=Lib.hid hbx
   clear hgr h38 hz8 hgg hbx
   go_upto_region 8 with fail
   have HS8:=Lib.hid (show ∀ z,TBox z (w.heap.size+1+1+1+1) (.mk k5 n5 m5 b5 v5 ts5) (.slice A6 L5 c6)→z.heap[w.heap.size+1+1+1]?=some (.cells #[.int .i64 n'] 3 (0,0))→((z.cell? ⟨w.heap.size+1+1+1+1,0,none⟩=some (.int .i64 k5)∧z.cell? ⟨w.heap.size+1+1+1+1,1,none⟩=some (.string nb5)∧z.cell? ⟨w.heap.size+1+1+1+1,2,none⟩=some (.string mb5)∧z.cell? ⟨w.heap.size+1+1+1+1,3,none⟩=some (.int .u64 b5)∧z.cell? ⟨w.heap.size+1+1+1+1,4,none⟩=some (.int .i64 v5)∧z.cell? ⟨w.heap.size+1+1+1+1,5,none⟩=some (.slice A6 L5 c6))∧z.cell? ⟨w.heap.size+1+1+1,0,none⟩=some (.int .i64 n')) from fun z h1 h2=>⟨h1.cells HL5.out.1 HL5.out.2.1,cell_of_one h2⟩)
   refine wp_region_wait (fun z=>((z.cell? ⟨w.heap.size+1+1+1+1,0,none⟩=some (.int .i64 k5)∧z.cell? ⟨w.heap.size+1+1+1+1,1,none⟩=some (.string nb5)∧z.cell? ⟨w.heap.size+1+1+1+1,2,none⟩=some (.string mb5)∧z.cell? ⟨w.heap.size+1+1+1+1,3,none⟩=some (.int .u64 b5)∧z.cell? ⟨w.heap.size+1+1+1+1,4,none⟩=some (.int .i64 v5)∧z.cell? ⟨w.heap.size+1+1+1+1,5,none⟩=some (.slice A6 L5 c6))∧z.cell? ⟨w.heap.size+1+1+1,0,none⟩=some (.int .i64 n'))) 3 (by kernel_rfl) ?_
   change wpAnyW _ _ _ _ _ _ _ _ _ u4.drew
   have HX5:=Lib.hid (show TBox u4.drew (w.heap.size+1+1+1+1) (.mk k5 n5 m5 b5 v5 ts5) (.slice A6 L5 c6) from HX4.out)
   have HO5:=Lib.hid (show TOwn u4.drew (.mk k5 n5 m5 b5 v5 ts5) (.slice A6 L5 c6) w8.heap.size u4.drew.heap.size∧Below w.heap.size w u4.drew∧u4.drew.heap[w.heap.size+1+1+1]?=some (.cells #[.int .i64 n'] 3 (0,0))∧u4.drew.heap[w.heap.size+1+1+1+1+1]?=some (.cells #[.nilIface] 29 (0,0)) from ⟨TOwn.keep _ HO4.out.1 (fun b _ _=>rfl),HO4.out.2.1.drew,HO4.out.2.2.1,HO4.out.2.2.2⟩)
   generalize u4.drew=v4 at *
   refine wpAnyW_take 2 (i:=0) (v:=.agg #[.int .i64 k5,.string nb5,.string mb5,.int .u64 b5,.int .i64 v5,.slice A6 L5 c6]) rfl (by kernel_rfl) (by kernel_rfl) (by kernel_rfl) (by kernel_rfl) (fun c a w h=>hqBody (by omega) c a w h) (Or.inl ⟨by rfl,?_⟩) (HS8.out _ HX5.out HO5.out.2.2.1) ?_
   ·intro w5 hSw
    obtain ⟨⟨p0,p1,p2,p3,p4,p5⟩,s2⟩:=hSw
    go_simp
   refine wpAnyW_take 3 (i:=1) (v:=.int .i64 n') rfl (by kernel_rfl) (by kernel_rfl) (by kernel_rfl) (by kernel_rfl) (fun c a w h=>hqBody (by omega) c a w h) (Or.inl ⟨by rfl,?_⟩) (HS8.out _ HX5.out HO5.out.2.2.1) ?_
   ·intro w5 hSw
    obtain ⟨⟨p0,p1,p2,p3,p4,p5⟩,s2⟩:=hSw
    go_simp
   refine w1 2 fun K hK=>?_
   obtain ⟨a0,a1,a2,a3,a4,a5⟩:=HX5.out.cells HL5.out.1 HL5.out.2.1
   obtain ⟨e0,e1,e2,e3,e4,e5⟩:=HX5.out.frozens
   go_simp
   clear a0 a1 a2 a3 a4 a5 e0 e1 e2 e3 e4 e5
   obtain ⟨hbx,hgr⟩:=HX5.out.set6 (k:=k5) (b:=b5) (v:=v5) (n:=n5) (m:=m5) ts5 (.slice A6 L5 c6) HL5.out.1 HL5.out.2.1
   have h9s:∀ z,((((((v4.setCell ⟨w.heap.size+1+1+1+1,0,none⟩ (.int .i64 k5)).setCell ⟨w.heap.size+1+1+1+1,1,none⟩ (.string nb5)).setCell ⟨w.heap.size+1+1+1+1,2,none⟩ (.string mb5)).setCell ⟨w.heap.size+1+1+1+1,3,none⟩ (.int .u64 b5)).setCell ⟨w.heap.size+1+1+1+1,4,none⟩ (.int .i64 v5)).setCell ⟨w.heap.size+1+1+1+1,5,none⟩ (.slice A6 L5 c6))=z→TBox z (w.heap.size+1+1+1+1) (.mk k5 n5 m5 b5 v5 ts5) (.slice A6 L5 c6)∧v4.grownBy z (some (w.heap.size+1+1+1+1)):=fun z e=>by rw [←e];exact ⟨hbx,hgr⟩
   clear hbx hgr
   have HO6:=Lib.hid (show ∀ z,((((((v4.setCell ⟨w.heap.size+1+1+1+1,0,none⟩ (.int .i64 k5)).setCell ⟨w.heap.size+1+1+1+1,1,none⟩ (.string nb5)).setCell ⟨w.heap.size+1+1+1+1,2,none⟩ (.string mb5)).setCell ⟨w.heap.size+1+1+1+1,3,none⟩ (.int .u64 b5)).setCell ⟨w.heap.size+1+1+1+1,4,none⟩ (.int .i64 v5)).setCell ⟨w.heap.size+1+1+1+1,5,none⟩ (.slice A6 L5 c6))=z→TBox z (w.heap.size+1+1+1+1) (.mk k5 n5 m5 b5 v5 ts5) (.slice A6 L5 c6)∧TOwn z (.mk k5 n5 m5 b5 v5 ts5) (.slice A6 L5 c6) w8.heap.size z.heap.size∧Below w.heap.size w z∧z.heap[w.heap.size+1+1+1]?=some (.cells #[.int .i64 n'] 3 (0,0))∧z.heap[w.heap.size+1+1+1+1+1]?=some (.cells #[.nilIface] 29 (0,0)) from fun z e=>by
    obtain ⟨h1,h2⟩:=h9s z e
    have hz8:=HZ.out
    have hgg:=HG.out
    exact ⟨h1,(TOwn.keep _ HO5.out.1 (fun b h3 h4=>h2.block b h4 (fun e=>by injection e with e;omega))).widen h2.size,HO5.out.2.1.grown h2 HO5.out.2.1.size (fun j e=>by injection e with e;omega),blk_ne h2 HO5.out.2.2.1 (by omega),blk_ne h2 HO5.out.2.2.2 (by omega)⟩)
   clear h9s
   refine hK.out _ _ (fun _=>HS8.out _ (HO6.out _ rfl).1 (HO6.out _ rfl).2.2.2.1) ?_
   have H6:=Lib.hid (HO6.out _ rfl)
   clear HO6
   generalize ((((((v4.setCell ⟨w.heap.size+1+1+1+1,0,none⟩ (.int .i64 k5)).setCell ⟨w.heap.size+1+1+1+1,1,none⟩ (.string nb5)).setCell ⟨w.heap.size+1+1+1+1,2,none⟩ (.string mb5)).setCell ⟨w.heap.size+1+1+1+1,3,none⟩ (.int .u64 b5)).setCell ⟨w.heap.size+1+1+1+1,4,none⟩ (.int .i64 v5)).setCell ⟨w.heap.size+1+1+1+1,5,none⟩ (.slice A6 L5 c6))=v5w at *
   refine w1 3 fun K hK=>?_
   go_simp
   refine hK.out _ _ (fun h=>absurd h (by simp)) ?_
   refine w1 4 fun K hK=>?_
   have cE:=cell_of_one H6.out.2.2.2.2
   have fE:=free_of_one H6.out.2.2.2.2
   go_simp
   refine hK.out _ _ (fun h=>absurd h (by simp)) ?_
   refine wpAnyW_done (by kernel_rfl) ?_ _
   clear cE fE
   go_wp2
   have hz8:=HZ.out
   have hgg:=HG.out
   have hbx:=H6.out.1.far (p:=⟨w.heap.size+1+1+1+1+1,0,none⟩) (by show w.heap.size+1+1+1+1≠w.heap.size+1+1+1+1+1;omega) .nilIface
   have hE2:=one_setCell (u:=.nilIface) H6.out.2.2.2.2
   have how:TOwn (v5w.setCell ⟨w.heap.size+1+1+1+1+1,0,none⟩ .nilIface) (.mk k5 n5 m5 b5 v5 ts5) (.slice A6 L5 c6) w.heap.size (v5w.setCell ⟨w.heap.size+1+1+1+1+1,0,none⟩ .nilIface).heap.size:=((TOwn.keep _ H6.out.2.1 (fun b h3 h4=>Below.heap_setCell _ _ _ b (by show b≠w.heap.size+1+1+1+1+1;omega))).widen (by simp [World.setCell])).lower (by omega)
   have hbw:Below w.heap.size w (v5w.setCell ⟨w.heap.size+1+1+1+1+1,0,none⟩ .nilIface):=H6.out.2.2.1.setCell (by show w.heap.size≤w.heap.size+1+1+1+1+1;omega) _
   generalize v5w.setCell ⟨w.heap.size+1+1+1+1+1,0,none⟩ .nilIface=v6w at *
   change Leaves _ _ _ _ _ .returning _
   refine leaves_cons (f:=29) (args:=#[.pointer (some ⟨w.heap.size+1+1+1+1+1,0,none⟩)]) (by simp) (by simp [go_sem]) ?_
   refine (caught_idle (w.heap.size+1+1+1+1+1) v6w).mono ?_
   rintro e u' w'' ⟨rfl,rfl,rfl⟩
   obtain ⟨r0,r1,r2,r3,r4,r5⟩:=hbx.cells HL5.out.1 HL5.out.2.1
   have cE2:=cell_of_one hE2
   simp only [settle,Leaves]
   exact ⟨.tuple #[.agg #[.int .i64 k5,.string nb5,.string mb5,.int .u64 b5,.int .i64 v5,.slice A6 L5 c6],.int .i64 n',.nilIface],by simp [results,Tryd.results16,go_sem,r0,r1,r2,r3,r4,r5,cE2],BodyR.mkOk hbw (by rw [valT_mk HL5.out.1 HL5.out.2.1]) how⟩
def zs (l:List Int):List Value:=l.map fun x:Int=>Value.int .i64 x
theorem zs_length (l:List Int):(zs l).length=l.length:=by simp [zs]
theorem zs_get {l:List Int} {i:Nat} {y:Int} (h:l[i]?=some y):(zs l)[i]?=some (.int .i64 y):=by simp [zs,h]
theorem zs_ne {l:List Int} {i:Nat} {y:Int} (h:l[i]?=some y):zs l ≠ []:=by
 intro e
 have:=zs_get h
 rw [e] at this
 simp at this
theorem Own.zlen {w:World} {B n c:Nat} {A:Option Addr} {l:List Int} (h:Own 3 w B A n c (zs l)):l.length=n:=by rw [←zs_length];exact Own.length h
def BigN:Nat:=1000000000000
theorem wpList_append_z {ops:Array Oper} {rest:List Oper} {o:Oper} {a:Act} {Q:Exit→Act→World→Prop} {w:World} (hgd:o.guard=none) (s x:Operand)
  (ho:o.op = .call { callee:=.builtin .append,args:=#[s,x],argTypes:=#[57,57] })
  (A:Option Addr) (n cp:Nat) (l:List Int) (hs:a.eval s = .slice A n cp) (hown:Own 3 w 0 A n cp (zs l))
  (g:Nat) (y:Int) (hx:a.eval x = .slice (some ⟨g,0,none⟩) 1 1) (hc:w.cell? ⟨g,0,none⟩=some (.int .i64 y)) (hn:n≤BigN)
  (h:∀ A' c' w',Own 3 w' 0 A' (n+1) c' (zs (l ++ [y]))→w.grownBy w' (Value.slice A n cp).ownBlock→((Value.slice A' (n+1) c').ownBlock=(Value.slice A n cp).ownBlock∨∃ q,(Value.slice A' (n+1) c').ownBlock=some q∧w.heap.size≤q)→wpList Tryd.prog ops Q rest (a.put o.dst (.slice A' (n+1) c')) w'):wpList Tryd.prog ops Q (o :: rest) a w:=by
 obtain ⟨i0,hi,hz0,hz1,hz2⟩:=info_parts infoI
 unfold BigN at hn
 refine wpList_append_own_at _ hgd s x 57 ho 0 3 i0 (.int .i64 0) 1 8 Tryd.underlying57 hi hz0 hz1 hz2 rfl (by decide) _ n (zs l) hs hown ⟨g,0,none⟩ 1 1 [.int .i64 y] hx rfl ?_ ?_ (by simp [maxLen];omega) (by omega) (Nat.zero_le _) ?_
 ·intro j u hj
  cases j with
  | zero=>simp at hj;subst hj;exact hc
  | succ j=>simp at hj
 ·intro u hu;simp at hu;subst hu;rfl
 ·intro v' w' hown' hg _ hv
  have hf:∃ A' c',v' = .slice A' (n+1) c':=by
   rcases hown'.2 with ⟨h1,h2⟩ | ⟨g',cap,cur,h1,_⟩
   ·exact absurd h2 (by simp)
   ·exact ⟨_,_,h1⟩
  obtain ⟨A',c',rfl⟩:=hf
  refine h A' c' w' (by have h3:=hown';rw [show zs l ++ [Value.int .i64 y]=zs (l ++ [y]) by simp [zs]] at h3;exact h3) hg ?_
  rcases hv with hv | hv
  ·exact .inl hv
  ·exact .inr ⟨_,hv,Nat.le_refl _⟩
theorem own_kept {w w':World} {A:Option Addr} {n c:Nat} {xs:List Value} (h:Own 3 w 0 A n c xs) (hb:Below w.heap.size w w'):Own 3 w' 0 A n c xs:=Own.below h hb (Nat.le_refl _)
theorem own_lt {w:World} {A:Option Addr} {n c:Nat} {xs:List Value} (h:Own 3 w 0 A n c xs):∀ g,(Value.slice A n c).ownBlock=some g→g<w.heap.size:=by
 intro g hg
 rcases Own.form h with ⟨rfl,_⟩ | ⟨g',rfl,_,h2⟩
 ·simp [Value.ownBlock] at hg
 ·have e:(Value.slice (some ⟨g',0,none⟩) n c).ownBlock=some g':=rfl
  rw [e] at hg
  injection hg with hg
  omega
def Mov (w:World) (r r':Option Nat):Prop:=r'=r∨∃ g,r'=some g∧w.heap.size≤g
theorem Mov.trans {w w1:World} {r r1 r2:Option Nat} (h:Mov w r r1) (h2:Mov w1 r1 r2) (hs:w.heap.size≤w1.heap.size):Mov w r r2:=by
 rcases h2 with h2 | ⟨g,h2,h3⟩
 ·rw [h2];exact h
 ·exact .inr ⟨g,h2,Nat.le_trans hs h3⟩
theorem szs_drop {ts:List Tm} {i:Nat} {a:Tm} (h:ts[i]?=some a):szs (ts.drop i)=sz a+szs (ts.drop (i+1)):=by
 obtain ⟨hil,e⟩:=List.getElem?_eq_some_iff.1 h
 rw [List.drop_eq_getElem_cons hil,e,szs]
def highB (t:Tm):Bool:=(vars t []).any (fun x=>decide (4611686018427387904<x))
end Go.Proofs.YtgfeainpeplphaaDoor
namespace Go.Proofs.YtgfeainpeplphaaDoor
open Go.RowKit Go.Maps Hb Ht
attribute [local go_sem] Oper.semAt_some
def inR (x:Int):Prop:=-9223372036854775808≤x∧x≤9223372036854775807
def SetOf (w:World) (b:Nat) (l:List Int):Prop:=∃ (D:DataW Unit) (N:Nat),w.ownsMap Tryd.prog 3 (plainElem Tryd.prog 3) b N D∧N≤l.length∧∀ x,inR x→Maps.has D (.int .i64 x)=decide (x∈l)
theorem SetOf.made (w:World):SetOf (w.alloc (.map #[] 0)) w.heap.size []:=⟨_,0,World.ownsMap_made w _ _ _,Nat.le_refl _,fun x _=>rfl⟩
theorem SetOf.lt {w:World} {b:Nat} {l:List Int} (h:SetOf w b l):b<w.heap.size:=let ⟨_,_,h1,_⟩:=h;h1.lt
theorem SetOf.kept {w w':World} {b:Nat} {l:List Int} (h:SetOf w b l) (hb:w'.heap[b]?=w.heap[b]?):SetOf w' b l:=by
 obtain ⟨D,N,⟨es,clock,h1,h3⟩,h2⟩:=h
 exact ⟨D,N,⟨es,clock,hb.trans h1,h3⟩,h2⟩
theorem SetOf.look {w:World} {b:Nat} {l:List Int} (h:SetOf w b l) {x:Int} (hx:inR x):∃ c,(Instr.lookup 99 (.map (some b)) (.int .i64 x) true).run Tryd.prog w = .ok (.tuple #[.int .i64 c,.bool (decide (x∈l))]) w:=by
 obtain ⟨D,N,h1,h2,h3⟩:=h
 obtain ⟨v,ps,hrun,hv⟩:=h1.look_ok (int_keyed Tryd.underlying3) Tryd.underlying99 (z:=.int .i64 0) (by simp [Tryd.zeroValue3]) (plainElem_int Tryd.underlying3 (by decide)) (keyOf_int_mk Tryd.underlying3 (WalkArith.wf_i64 hx))
 obtain ⟨a,rfl,_⟩:=plainElem_int_inv Tryd.underlying3 hv
 exact ⟨a,by rw [hrun,h3 x hx]⟩
theorem wpList_store_z {w:World} {ops:Array Oper} {rest:List Oper} {o:Oper} {a:Act} {Q:Exit→Act→World→Prop}
  (hg:o.guard=none) (m x v:Operand) (hop:o.op=Op.mapUpdate 99 m x v)
  {b:Nat} {l:List Int} {y c:Int} (hm:a.eval m = .map (some b)) (hx:a.eval x = .int .i64 y) (hv:a.eval v = .int .i64 c) (hown:SetOf w b l) (hl:l.length≤BigN) (hy:inR y) (hc:inR c)
  (hK:∀ w',SetOf w' b (l ++ [y])→w.grownBy w' (some b)→wpList Tryd.prog ops Q rest (a.put o.dst undef) w') :
  wpList Tryd.prog ops Q (o :: rest) a w:=by
 obtain ⟨D,N,h1,h2,h3⟩:=hown
 have hkey:=keyOf_int_mk Tryd.underlying3 (WalkArith.wf_i64 hy)
 refine wpList_mapUpdate_own w hg m x v 99 hop 3 3 (int_keyed Tryd.underlying3) Tryd.underlying99 (plainElem Tryd.prog 3) b N D hm h1 (by unfold BigN at hl;unfold maxLen;omega) _ _ _ hx hv hkey _ [] (plainElem_int Tryd.underlying3 (WalkArith.wf_i64 hc)) ?_
 intro w' r1 r2
 refine hK w' ⟨_,_,r1,by simp;omega,fun z hz=>?_⟩ r2
 have hIs:=h1.isMap
 have hkl:=(int_keyed (P:=Tryd.prog) Tryd.underlying3).key hkey
 by_cases e:z=y
 ·subst e
  rw [has_put_same hIs hkl]
  simp
 ·rw [has_put_other (fun e2=>e (by injection e2)),h3 z hz]
  simp [e]
structure Fr (Ob mb:Nat) (r:Option Nat) (w w':World):Prop where
 os:w'.os=w.os
 tape:w'.tape=w.tape
 output:w'.output=w.output
 size:w.heap.size≤w'.heap.size
 block:∀ b,b<w.heap.size→b≠Ob→b≠mb→some b≠r→w'.heap[b]?=w.heap[b]?
theorem Fr.refl (Ob mb:Nat) (r:Option Nat) (w:World):Fr Ob mb r w w:=⟨rfl,rfl,rfl,Nat.le_refl _,fun _ _ _ _ _=>rfl⟩
theorem Fr.below {Ob mb:Nat} {r:Option Nat} {w w':World} (h:Below w.heap.size w w'):Fr Ob mb r w w':=⟨h.os,h.tape,h.output,h.size,fun b hb _ _ _=>h.block b hb⟩
theorem Fr.trans {Ob mb:Nat} {r r1:Option Nat} {w w1 w2:World} (h:Fr Ob mb r w w1) (hm:Mov w r r1) (h2:Fr Ob mb r1 w1 w2):Fr Ob mb r w w2:=
 ⟨h2.os.trans h.os,h2.tape.trans h.tape,h2.output.trans h.output,Nat.le_trans h.size h2.size,fun b hb h3 h4 h5=>(h2.block b (Nat.lt_of_lt_of_le hb h.size) h3 h4 (fun e=>by
  rcases hm with hm | ⟨g,hm,hg⟩
  ·rw [hm] at e;exact h5 e
  ·rw [hm] at e;injection e with e;omega)).trans (h.block b hb h3 h4 h5)⟩
structure VS (w:World) (Sb Ob mb:Nat) (A:Option Addr) (n c:Nat) (out:List Int):Prop where
 s:w.heap[Sb]?=some (.cells #[.map (some mb)] 99 (0,0))
 o:w.heap[Ob]?=some (.cells #[.slice A n c] 57 (0,0))
 own:Own 3 w 0 A n c (zs out)
 m:SetOf w mb out
 ne:Sb≠Ob∧Sb≠mb∧Ob≠mb
 nr:(Value.slice A n c).ownBlock≠some Sb∧(Value.slice A n c).ownBlock≠some Ob∧(Value.slice A n c).ownBlock≠some mb
theorem VS.below {w w':World} {Sb Ob mb n c:Nat} {A:Option Addr} {out:List Int} (h:VS w Sb Ob mb A n c out) (hb:Below w.heap.size w w'):VS w' Sb Ob mb A n c out:=
 ⟨(hb.block Sb (Array.getElem?_eq_some_iff.1 h.s).1).trans h.s,(hb.block Ob (Array.getElem?_eq_some_iff.1 h.o).1).trans h.o,own_kept h.own hb,h.m.kept (hb.block mb h.m.lt),h.ne,h.nr⟩
def one1 (x:Int) (out:List Int):List Int:=if x∉out then out ++ [x] else out
def EachPost (w:World) (Sb Ob mb:Nat) (r:Option Nat) (out:List Int) (e:Ending) (w':World):Prop:=
 e = .returned (.tuple #[])∧∃ A n c,VS w' Sb Ob mb A n c out∧Fr Ob mb r w w'∧Mov w r (Value.slice A n c).ownBlock
set_option maxRecDepth 100000 in
set_option maxHeartbeats 4000000 in
theorem each_any {w:World} {Sb Ob mb n c:Nat} {A:Option Addr} {out:List Int} (h:VS w Sb Ob mb A n c out) {x:Int} (hx:inR x) (hl:out.length<BigN) :
  Calls Tryd.prog 71 #[.int .i64 x,.pointer (some ⟨Sb,0,none⟩),.pointer (some ⟨Ob,0,none⟩)] w (EachPost w Sb Ob mb (Value.slice A n c).ownBlock (one1 x out)):=by
 have hn:=Own.zlen h.own
 have hnI:(n:Int)<1000000000000:=by unfold BigN at hl;omega
 obtain ⟨cc,hlk⟩:=h.m.look hx
 have cS:=cell_of_one h.s
 have cO:=cell_of_one h.o
 have fO:=free_of_one h.o
 by_cases hv:x∈out
 ·rw [decide_eq_true hv] at hlk
  have HE:=Lib.hid (show VS w Sb Ob mb A n c (one1 x out) from by rw [one1,if_neg (by simp [hv])];exact h)
  clear h hv hn hl
  go_enter Tryd.func71,Tryd.ntmps71
  go_wp2
  first
   | exact bodyPost_ret (results_none rfl _ _ _) rfl ⟨rfl,A,n,c,HE.out,Fr.refl _ _ _ _,.inl rfl⟩
   | exact bodyPost_end (results_none rfl _ _ _) rfl ⟨rfl,A,n,c,HE.out,Fr.refl _ _ _ _,.inl rfl⟩
 ·rw [decide_eq_false hv] at hlk
  have HV:=Lib.hid (And.intro h (And.intro hl (show one1 x out=out ++ [x] from by rw [one1,if_pos hv])))
  have HX:=Lib.hid hx
  clear h hv hn hl hx
  go_enter Tryd.func71,Tryd.ntmps71
  go_wp2_with (first
   | (at_mapUpdate;refine wpList_store_z rfl _ _ _ rfl rfl rfl rfl HV.out.1.m (Nat.le_of_lt HV.out.2.1) HX.out ⟨by omega,by omega⟩ ?_;intro w2 hm2 hg2;(have hO2:=blk_ne hg2 HV.out.1.o HV.out.1.ne.2.2);(have cO2:=cell_of_one hO2);(have hb3:Below w2.heap.size w2 (w2.alloc (.cells #[.int .i64 x] 3)):=(Below.refl _ _).alloc (Nat.le_refl _) _);(have H2:=Lib.hid (show (w2.alloc (.cells #[.int .i64 x] 3)).heap[Sb]?=some (.cells #[.map (some mb)] 99 (0,0))∧(w2.alloc (.cells #[.int .i64 x] 3)).heap[Ob]?=some (.cells #[.slice A n c] 57 (0,0))∧Own 3 (w2.alloc (.cells #[.int .i64 x] 3)) 0 A n c (zs out)∧SetOf (w2.alloc (.cells #[.int .i64 x] 3)) mb (out ++ [x])∧(w2.alloc (.cells #[.int .i64 x] 3)).cell? ⟨w2.heap.size,0,none⟩=some (.int .i64 x)∧Fr Ob mb (Value.slice A n c).ownBlock w (w2.alloc (.cells #[.int .i64 x] 3)) from
     ⟨(hb3.block Sb (Array.getElem?_eq_some_iff.1 (blk_ne hg2 HV.out.1.s HV.out.1.ne.2.1)).1).trans (blk_ne hg2 HV.out.1.s HV.out.1.ne.2.1),(hb3.block Ob (Array.getElem?_eq_some_iff.1 hO2).1).trans hO2,own_kept (World.ownsRow.kept HV.out.1.own hg2 (.inr HV.out.1.nr.2.2)) hb3,hm2.kept (hb3.block mb hm2.lt),cell_of_one (heap_alloc_new w2 _),⟨hb3.os.trans hg2.os,hb3.tape.trans hg2.tape,hb3.output.trans hg2.output,Nat.le_trans hg2.size hb3.size,fun b hb _ h4 _=>(hb3.block b (Nat.lt_of_lt_of_le hb hg2.size)).trans (hg2.block b hb (fun e=>h4 (by injection e)))⟩⟩));clear hm2 hg2 hb3 hO2)
   | (at_builtin;refine wpList_append_z rfl _ _ rfl A n c out rfl H2.out.2.2.1 _ x rfl H2.out.2.2.2.2.1 (by have:=HV.out.2.1;have:=Own.zlen HV.out.1.own;unfold BigN at *;omega) ?_;intro A5 c5 w5 ho5 hg5 hm5;(have hO5:w5.heap[Ob]?=some (.cells #[.slice A n c] 57 (0,0)):=(hg5.block Ob (Array.getElem?_eq_some_iff.1 H2.out.2.1).1 (fun e=>HV.out.1.nr.2.1 e.symm)).trans H2.out.2.1);(have cO5:=cell_of_one hO5);(have fO5:=free_of_one hO5);(have H5:=Lib.hid (And.intro ho5 (And.intro hg5 (And.intro hm5 hO5))));clear ho5 hg5 hm5 hO5))
  obtain ⟨ho5,hg5,hm5,hO5⟩:=H5.out
  obtain ⟨h2s,h2o,h2w,h2m,h2c,h2f⟩:=H2.out
  obtain ⟨hvs,hvl,hve⟩:=HV.out
  have hltS:=(Array.getElem?_eq_some_iff.1 h2s).1
  have hltO:=(Array.getElem?_eq_some_iff.1 h2o).1
  have hltm:=h2m.lt
  have hnr:∀ q,q<(w2.alloc (.cells #[.int .i64 x] 3)).heap.size→(Value.slice A n c).ownBlock≠some q→(Value.slice A5 (n+1) c5).ownBlock≠some q:=fun q hq hne=>by
   rcases hm5 with hm | ⟨g,hm,hg⟩
   ·rw [hm];exact hne
   ·rw [hm];intro e;injection e with e;omega
  have HP:=Lib.hid (show VS (w5.setCell ⟨Ob,0,none⟩ (.slice A5 (n+1) c5)) Sb Ob mb A5 (n+1) c5 (one1 x out) from by
   rw [hve]
   refine ⟨?_,one_setCell hO5,?_,?_,hvs.ne,⟨hnr Sb hltS hvs.nr.1,hnr Ob hltO hvs.nr.2.1,hnr mb hltm hvs.nr.2.2⟩⟩
   ·exact (Below.heap_setCell _ _ _ Sb hvs.ne.1).trans ((hg5.block Sb hltS (fun e=>hvs.nr.1 e.symm)).trans h2s)
   ·exact Own.far ho5 (fun g hg e=>hnr Ob hltO hvs.nr.2.1 (by rw [hg,e];rfl)) _
   ·exact h2m.kept ((Below.heap_setCell _ _ _ mb (fun e=>hvs.ne.2.2 e.symm)).trans (hg5.block mb hltm (fun e=>hvs.nr.2.2 e.symm))))
  have HF:=Lib.hid (show Fr Ob mb (Value.slice A n c).ownBlock w (w5.setCell ⟨Ob,0,none⟩ (.slice A5 (n+1) c5)) from
   ⟨hg5.os.trans h2f.os,hg5.tape.trans h2f.tape,hg5.output.trans h2f.output,by have:=h2f.size;have:=hg5.size;simp [World.setCell];omega,fun b hb h3 h4 h5=>(Below.heap_setCell _ _ _ b h3).trans ((hg5.block b (Nat.lt_of_lt_of_le hb h2f.size) h5).trans (h2f.block b hb h3 h4 h5))⟩)
  have HMv:=Lib.hid (show Mov w (Value.slice A n c).ownBlock (Value.slice A5 (n+1) c5).ownBlock from by
   rcases hm5 with hm | ⟨g,hm,hg⟩
   ·exact .inl hm
   ·exact .inr ⟨g,hm,Nat.le_trans h2f.size hg⟩)
  first
   | exact bodyPost_ret (results_none rfl _ _ _) rfl ⟨rfl,A5,n+1,c5,HP.out,HF.out,HMv.out⟩
   | exact bodyPost_end (results_none rfl _ _ _) rfl ⟨rfl,A5,n+1,c5,HP.out,HF.out,HMv.out⟩
theorem VS.lt {w:World} {Sb Ob mb n c:Nat} {A:Option Addr} {out:List Int} (h:VS w Sb Ob mb A n c out):Sb<w.heap.size∧Ob<w.heap.size∧mb<w.heap.size∧(∀ g,(Value.slice A n c).ownBlock=some g→g<w.heap.size):=
 ⟨(Array.getElem?_eq_some_iff.1 h.s).1,(Array.getElem?_eq_some_iff.1 h.o).1,h.m.lt,own_lt h.own⟩
def eachV (Sb Ob:Nat):Value:=.func (.func 71) #[] #[.pointer (some ⟨Sb,0,none⟩),.pointer (some ⟨Ob,0,none⟩)]
def Kp (w:World) (Ob mb:Nat) (r:Option Nat) (b:Nat):Prop:=b<w.heap.size∧b≠Ob∧b≠mb∧r≠some b
theorem Kp.keep {w w1:World} {Ob mb:Nat} {r r1:Option Nat} {t:Tm} {sl:Value} (h:TAtP w (Kp w Ob mb r) t sl) (hf:Fr Ob mb r w w1) (hm:Mov w r r1):TAtP w1 (Kp w1 Ob mb r1) t sl:=
 TAtP.keep _ h (fun b hb=>⟨⟨Nat.lt_of_lt_of_le hb.1 hf.size,hb.2.1,hb.2.2.1,fun e=>by
  rcases hm with hm | ⟨g,hm,hg⟩
  ·rw [hm] at e;exact hb.2.2.2 e
  ·rw [hm] at e;injection e with e;have:=hb.1;omega⟩,hf.block b hb.1 hb.2.1 hb.2.2.1 (fun e=>hb.2.2.2 e.symm)⟩)
def WalkOk (t:Tm):Prop:=∀ (w:World) (sl:Value) (Sb Ob mb:Nat) (A:Option Addr) (n c:Nat) (out:List Int),VS w Sb Ob mb A n c out→TAtP w (Kp w Ob mb (Value.slice A n c).ownBlock) t sl→out.length+sz t≤BigN →
 Calls Tryd.prog 70 #[valT t sl,eachV Sb Ob] w (EachPost w Sb Ob mb (Value.slice A n c).ownBlock (vars t out))
set_option maxRecDepth 100000 in
set_option maxHeartbeats 8000000 in
theorem walk_any (t:Tm):WalkOk t:=by
 refine Tm.ind (p:=WalkOk) (fun k nl ml b v ts ih=>?_) t
 intro w sl Sb Ob mb' A0 n0 c0 out hvs h hsz
 have hok:=TAtP.ok h
 obtain ⟨nb,hnb⟩:∃ nb:ByteArray,(⟨nl.toArray⟩:ByteArray)=nb:=⟨_,rfl⟩
 obtain ⟨mb,hmb⟩:∃ mb:ByteArray,(⟨ml.toArray⟩:ByteArray)=mb:=⟨_,rfl⟩
 obtain ⟨A,c,rfl,hl1,hl2,hl3,_,_⟩:=TAtP.iff.1 h
 obtain ⟨L,hL⟩:∃ L,ts.length=L:=⟨_,rfl⟩
 change ts.length≤c at hl1
 change ts.length≤maxArgs at hl3
 change TAtP w _ (.mk k nl ml b v ts) (.slice A ts.length c) at h
 change Calls Tryd.prog _ #[valT _ (.slice A ts.length c),_] w _
 rw [valT_mk hnb hmb]
 rw [hL] at h hl1 hl3 ⊢
 obtain ⟨R,hR⟩:∃ R,vars (.mk k nl ml b v ts) out=R:=⟨_,rfl⟩
 rw [hR]
 obtain ⟨r0,hr0⟩:∃ r0,(Value.slice A0 n0 c0).ownBlock=r0:=⟨_,rfl⟩
 rw [hr0] at h ⊢
 obtain ⟨out1,hout1⟩:∃ o,(if k=1∧v∉out then out ++ [v] else out)=o:=⟨_,rfl⟩
 have hRs:varss ts out1=R:=by rw [←hR,←hout1];rfl
 have hlen:out1.length≤out.length+1:=by rw [←hout1];split <;> simp
 have hszs:out1.length+szs ts≤BigN∧out.length<BigN:=by simp only [sz] at hsz;omega
 have hLI:(L:Int)≤1759218604400:=by unfold maxArgs at hl3;omega
 obtain ⟨W1,hW1⟩:∃ W1,w.alloc (.cells #[.int .i64 k,.string nb,.string mb,.int .u64 b,.int .i64 v,.slice A L c] 25)=W1:=⟨_,rfl⟩
 have hb1:Below w.heap.size w W1:=by rw [←hW1];exact (Below.refl _ _).alloc (Nat.le_refl _) _
 have hX:TBox W1 w.heap.size (.mk k nl ml b v ts) (.slice A L c):=by rw [←hW1];exact TBox.new w hnb hmb
 have hs1:W1.heap.size=w.heap.size+1:=by rw [←hW1];simp
 obtain ⟨x0,x1,x2,x3,x4,x5⟩:=hX.cells hnb hmb
 have hlts:=hvs.lt
 rw [hr0] at hlts
 have HIH:=Lib.hid ih
 have HL:=Lib.hid hL
 have HM:=Lib.hid (And.intro hnb hmb)
 have HT:=Lib.hid (show TAtP W1 (Kp W1 Ob mb' r0) (.mk k nl ml b v ts) (.slice A L c) from TAtP.keep _ h (fun b hb=>⟨⟨Nat.lt_of_lt_of_le hb.1 hb1.size,hb.2⟩,hb1.block b hb.1⟩))
 have HB1:=Lib.hid (And.intro hb1 (And.intro hX hlts))
 have HV0:=Lib.hid (And.intro (hvs.below hb1) hr0)
 have HR:=Lib.hid (And.intro hRs hszs)
 have HOu:=Lib.hid hout1
 have HEa:=Lib.hid (fun u (hb:u=W1)=>show Calls Tryd.prog 71 #[.int .i64 v,.pointer (some ⟨Sb,0,none⟩),.pointer (some ⟨Ob,0,none⟩)] u (EachPost W1 Sb Ob mb' r0 (one1 v out)) from by
  have h9:=each_any (hvs.below hb1) (x:=v) hok.2.2.2.1 hszs.2
  rw [hr0] at h9
  rw [hb]
  exact h9)
 have HWe:=Lib.hid hW1
 rw [←HWe.out] at x0 x1 x2 x3 x4 x5
 clear ih h hvs hsz hR hRs hszs hlen hnb hmb hL hb1 hX hr0 hW1 hs1 hlts hok hout1
 rw [show eachV Sb Ob = .func (.func 71) #[] #[.pointer (some ⟨Sb,0,none⟩),.pointer (some ⟨Ob,0,none⟩)] from rfl]
 go_enter Tryd.func70,Tryd.ntmps70
 have h2:(k==1)=false∨(k==1)=true:=by cases (k==1) <;> simp
 rcases h2 with s0 | s0
 focus
  have HV:=Lib.hid (show VS W1 Sb Ob mb' A0 n0 c0 out1∧Fr Ob mb' r0 W1 W1∧Mov W1 r0 (Value.slice A0 n0 c0).ownBlock from ⟨by
   have e:out1=out:=by rw [←HOu.out,if_neg (fun h=>by rw [h.1] at s0;simp at s0)]
   rw [e];exact HV0.out.1,Fr.refl _ _ _ _,.inl HV0.out.2⟩)
  go_upto_region 4 with fail
  rw [HWe.out]
 rotate_left
 focus
  go_upto_region 4 with (go_at_call 71;(with_reducible refine (HEa.out _ HWe.out).mono ?_);rintro e w2 ⟨rfl,A5,n5,c5,hv5,hf5,hm5⟩;have HV:=Lib.hid (show VS w2 Sb Ob mb' A5 n5 c5 out1∧Fr Ob mb' r0 W1 w2∧Mov W1 r0 (Value.slice A5 n5 c5).ownBlock from ⟨by
   have e:out1=one1 v out:=by rw [←HOu.out,one1];simp at s0;simp [s0]
   rw [e];exact hv5,hf5,hm5⟩);obtain ⟨y0,y1,y2,y3,y4,y5⟩:=(show TBox w2 w.heap.size (.mk k nl ml b v ts) (.slice A L c) from (hf5.block _ HB1.out.2.1.lt (by have:=HB1.out.2.2.2.1;omega) (by have:=HB1.out.2.2.2.2.1;omega) (fun e=>by have:=HB1.out.2.2.2.2.2 _ e.symm;omega)).trans HB1.out.2.1).cells HM.out.1 HM.out.2;clear hv5 hf5 hm5)
 rotate_left
 all_goals
  try clear x0 x1 x2 x3 x4 x5
  try clear y0 y1 y2 y3 y4 y5
  go_loopw [16] (fun v16 wr=>∃ A2 n2 c2 i out2,v16 = .int .i64 ((i:Nat):Int)∧i≤L∧Hid (VS wr Sb Ob mb' A2 n2 c2 out2∧Fr Ob mb' r0 W1 wr∧Mov W1 r0 (Value.slice A2 n2 c2).ownBlock∧varss (ts.drop i) out2=R∧out2.length+szs (ts.drop i)≤BigN)) (fun v16 _=>((L:Int) - intOf v16).toNat)
  case atStart=>exact ⟨_,_,_,0,out1,rfl,Nat.zero_le _,Lib.hid ⟨HV.out.1,HV.out.2.1,HV.out.2.2,HR.out.1,HR.out.2.1⟩⟩
  case round=>
   obtain ⟨A2,n2,c2,i,out2,rfl,hi,HI⟩:=hrel
   by_cases hlt:i<L
   ·have hltI:(i:Int)<(L:Int):=by omega
    have hi0:(0:Int)≤(i:Int):=by omega
    have hil:i<ts.length:=by rw [HL.out];exact hlt
    obtain ⟨a,ha⟩:∃ a,ts[i]?=some a:=⟨_,List.getElem?_eq_getElem hil⟩
    have hTr:=Kp.keep HT.out HI.out.2.1 HI.out.2.2.1
    obtain ⟨A',c',h1,_,_,_,_,hgo⟩:=TAtP.iff.1 hTr
    obtain ⟨g,o,hA,hPg,hel⟩:=hgo (fun e=>by change ts = [] at e;rw [e] at ha;simp at ha)
    injection h1 with e1 e2 e3
    rw [hA] at e1
    subst e1
    clear e2 e3
    obtain ⟨A4,c4,k4,n4,m4,b4,v4,ts4,nb4,mb4,rfl,hnb4,hmb4,hta,q0,q1,q2,q3,q4,q5⟩:=EltP.cells (hel i a ha)
    obtain ⟨L4,hL4⟩:∃ q,ts4.length=q:=⟨_,rfl⟩
    rw [hL4] at q5 hta
    have HD:=Lib.hid (show ts.drop i = .mk k4 n4 m4 b4 v4 ts4 :: ts.drop (i+1)∧szs (ts.drop i)=sz (.mk k4 n4 m4 b4 v4 ts4)+szs (ts.drop (i+1)) from ⟨by rw [List.drop_eq_getElem_cons hil,←List.getElem?_eq_some_iff.1 ha |>.2],szs_drop ha⟩)
    obtain ⟨W4,hW4⟩:∃ W4,wr.alloc (.cells #[.int .i64 k4,.string nb4,.string mb4,.int .u64 b4,.int .i64 v4,.slice A4 L4 c4] 25)=W4:=⟨_,rfl⟩
    have hb4:Below wr.heap.size wr W4:=by rw [←hW4];exact (Below.refl _ _).alloc (Nat.le_refl _) _
    have hX4:TBox W4 wr.heap.size (.mk k4 n4 m4 b4 v4 ts4) (.slice A4 L4 c4):=by rw [←hW4];exact TBox.new wr hnb4 hmb4
    obtain ⟨y0,y1,y2,y3,y4,y5⟩:=hX4.cells hnb4 hmb4
    have HCl:=Lib.hid (HIH.out _ (List.mem_of_getElem? ha) W4 _ Sb Ob mb' A2 n2 c2 out2 (HI.out.1.below hb4) (TAtP.keep _ hta (fun b hb=>⟨⟨Nat.lt_of_lt_of_le hb.1 hb4.size,hb.2⟩,hb4.block b hb.1⟩)) (by have h8:=HI.out.2.2.2.2;rw [HD.out.2] at h8;omega))
    rw [valT_mk hnb4 hmb4,show eachV Sb Ob = .func (.func 71) #[] #[.pointer (some ⟨Sb,0,none⟩),.pointer (some ⟨Ob,0,none⟩)] from rfl] at HCl
    have HLT:=Lib.hid hlt
    have HB4:=Lib.hid hb4
    subst hW4
    clear hlt hi hil ha hTr hgo hPg hel hta hnb4 hmb4 hL4 hb4 hX4
    go_wp2_with (go_at_call 70;(with_reducible refine HCl.out.mono ?_);rintro e w6 ⟨rfl,A6,n6,c6,hv6,hf6,hm6⟩;have H6:=Lib.hid (And.intro hv6 (And.intro hf6 hm6));clear hv6 hf6 hm6)
    go_roundw
    case rel=>
     obtain ⟨hv6,hf6,hm6⟩:=H6.out
     have hf46:Fr Ob mb' (Value.slice A2 n2 c2).ownBlock wr w6:=(Fr.below HB4.out).trans (.inl rfl) hf6
     refine ⟨A6,n6,c6,i+1,_,rfl,HLT.out,Lib.hid ⟨hv6,HI.out.2.1.trans HI.out.2.2.1 hf46,HI.out.2.2.1.trans (by
      rcases hm6 with hm | ⟨g,hm,hg⟩
      ·exact .inl hm
      ·exact .inr ⟨g,hm,Nat.le_trans HB4.out.size hg⟩) HI.out.2.1.size,?_,?_⟩⟩
     ·have h8:=HI.out.2.2.2.1
      rw [HD.out.1,varss] at h8
      exact h8
     ·have h8:=HI.out.2.2.2.2
      rw [HD.out.2] at h8
      have:=vars_len (.mk k4 n4 m4 b4 v4 ts4) out2
      omega
    case measure=>
     have:=HLT.out
     show ((L:Int) - ((i:Int)+1)).toNat<((L:Int) - (i:Int)).toNat
     omega
   ·have ei:i=L:=by omega
    subst ei
    have HE9:=Lib.hid (show out2=R from by
     have h8:=HI.out.2.2.2.1
     rw [List.drop_of_length_le (by rw [HL.out];exact Nat.le_refl _),varss] at h8
     exact h8)
    clear hlt hi
    go_wp2
    have HP:=Lib.hid (show EachPost w Sb Ob mb' r0 R (.returned (.tuple #[])) wr from ⟨rfl,A2,n2,c2,by rw [←HE9.out];exact HI.out.1,(Fr.below HB1.out.1).trans (.inl rfl) HI.out.2.1,by
     rcases HI.out.2.2.1 with hm | ⟨q,hm,hq⟩
     ·exact .inl hm
     ·exact .inr ⟨q,hm,Nat.le_trans HB1.out.1.size hq⟩⟩)
    first
     | exact bodyPost_ret (results_none rfl _ _ _) rfl HP.out
     | exact bodyPost_end (results_none rfl _ _ _) rfl HP.out
theorem own_raise {w:World} {B n c:Nat} {A:Option Addr} {xs:List Value} (h:Own 3 w 0 A n c xs) (hb:∀ g,(Value.slice A n c).ownBlock=some g→B≤g):Own 3 w B A n c xs:=by
 refine ⟨h.1,?_⟩
 rcases h.2 with h1 | ⟨g,cap,cur,e,h2,h3⟩
 ·exact .inl h1
 ·exact .inr ⟨g,cap,cur,e,hb g (by rw [e];rfl),h3⟩
set_option maxRecDepth 100000 in
set_option maxHeartbeats 8000000 in
theorem variables_any {w:World} {A:Option Addr} {c:Nat} {t:Tm} {sl:Value} (h:RowP w (fun b=>b<w.heap.size) A 1 [(t,sl)]) (hsz:sz t≤100000) :
  Calls Tryd.prog 58 #[.slice A 1 c] w fun e w'=>∃ A' n' c',e = .returned (.slice A' n' c')∧Own 3 w' w.heap.size A' n' c' (zs (vars t []))∧Below w.heap.size w w':=by
 have hmf:∀ (fn:Fn) (first cap:Array Value) (w:World),(Instr.makeFunc fn first cap).run Tryd.prog w = .ok (.func fn first cap) w:=fun _ _ _ _=>rfl
 have hmm:=@run_makeMap Tryd.prog
 obtain ⟨g,o,rfl,hg,hel⟩:=h.elt (i:=0) (p:=(t,sl)) rfl
 obtain ⟨A4,c4,k4,n4,m4,b4,v4,ts4,nb4,mb4,rfl,hnb4,hmb4,hta,q0,q1,q2,q3,q4,q5⟩:=EltP.cells hel
 obtain ⟨L4,hL4⟩:∃ q,ts4.length=q:=⟨_,rfl⟩
 rw [hL4] at q5 hta
 rw [Nat.zero_mul,Nat.add_zero] at q0 q1 q2 q3 q4 q5
 obtain ⟨W1,hW1⟩:∃ W1,w.alloc (.cells #[.slice none 0 0] 57)=W1:=⟨_,rfl⟩
 obtain ⟨W2,hW2⟩:∃ W2,W1.alloc (.map #[] 0)=W2:=⟨_,rfl⟩
 obtain ⟨W3,hW3⟩:∃ W3,W2.alloc (.cells #[.map (some W1.heap.size)] 99)=W3:=⟨_,rfl⟩
 have d1:Below w.heap.size w W1:=by rw [←hW1];exact (Below.refl _ _).alloc (Nat.le_refl _) _
 have s1:W1.heap.size=w.heap.size+1:=by rw [←hW1];simp
 have d2:Below W1.heap.size W1 W2:=by rw [←hW2];exact (Below.refl _ _).alloc (Nat.le_refl _) _
 have s2:W2.heap.size=W1.heap.size+1:=by rw [←hW2];simp
 have d3:Below W2.heap.size W2 W3:=by rw [←hW3];exact (Below.refl _ _).alloc (Nat.le_refl _) _
 have s3:W3.heap.size=W2.heap.size+1:=by rw [←hW3];simp
 have X1:W1.heap[w.heap.size]?=some (.cells #[.slice none 0 0] 57 (0,0)):=by rw [←hW1];exact heap_alloc_new w _
 have X2:SetOf W2 W1.heap.size []:=by rw [←hW2];exact SetOf.made W1
 have X3:W3.heap[W2.heap.size]?=some (.cells #[.map (some W1.heap.size)] 99 (0,0)):=by rw [←hW3];exact heap_alloc_new W2 _
 have hbw:Below w.heap.size w W3:=d1.trans ((d2.trans (d3.mono (by omega))).mono (by omega))
 obtain ⟨G,hG⟩:∃ G,w.heap.size=G:=⟨_,rfl⟩
 have hVS:VS W3 W2.heap.size w.heap.size W1.heap.size none 0 0 []:=⟨X3,(d3.block _ (by omega)).trans ((d2.block _ (by omega)).trans X1),⟨rfl,.inl ⟨rfl,rfl⟩⟩,X2.kept (d3.block _ (by omega)),⟨by omega,by omega,by omega⟩,by simp [Value.ownBlock]⟩
 rw [s2,s1,hG] at hVS
 have HN:=Lib.hid (And.intro hnb4 (And.intro hmb4 hL4))
 have HT:=Lib.hid (show ∀ x,Below w.heap.size w x→TAtP x (fun b=>b<w.heap.size) (.mk k4 n4 m4 b4 v4 ts4) (.slice A4 L4 c4)∧x.heap[g]?=w.heap[g]? from fun x hb=>⟨hta.below hb (fun b hb=>hb),hb.block g hg⟩)
 have HQ:=Lib.hid (And.intro q0 (And.intro q1 (And.intro q2 (And.intro q3 (And.intro q4 q5)))))
 have HV:=Lib.hid (And.intro hVS (And.intro hbw (And.intro hG hsz)))
 have HWe:=Lib.hid (show ((w.alloc (.cells #[.slice none 0 0] 57)).alloc (.map #[] 0)).alloc (.cells #[.map (some (w.heap.size+1))] 99)=W3 from by rw [hW1,hW2,←s1,hW3])
 clear h hel hta q0 q1 q2 q3 q4 q5 hnb4 hmb4 hL4 d1 d2 d3 s1 s2 s3 X1 X2 X3 hbw hVS hW1 hW2 hW3 hsz hG
 go_enter Tryd.func58,Tryd.ntmps58
 go_upto_region 4 with fail
 rw [HWe.out,HV.out.2.2.1]
 go_loopw [10] (fun v10 wr=>∃ A n c i out2,v10 = .int .i64 ((i:Nat):Int)∧i≤1∧Hid (VS wr (G+1+1) G (G+1) A n c out2∧Fr G (G+1) none W3 wr∧Mov W3 none (Value.slice A n c).ownBlock∧(i=0→out2 = [])∧(i=1→out2=vars (.mk k4 n4 m4 b4 v4 ts4) []))) (fun v10 _=>(1 - intOf v10).toNat)
 case atStart=>exact ⟨none,0,0,0,[],rfl,Nat.zero_le _,Lib.hid ⟨HV.out.1,Fr.refl _ _ _ _,.inl rfl,fun _=>rfl,fun h=>by omega⟩⟩
 case round=>
  obtain ⟨A2,n2,c2,i,out2,rfl,hi,HI⟩:=hrel
  have hbr:Below w.heap.size w wr:=by
   have h1:=HV.out.2.1
   have h2:=HI.out.2.1
   have h3:=HV.out.2.2.1
   exact ⟨h2.os.trans h1.os,h2.tape.trans h1.tape,h2.output.trans h1.output,Nat.le_trans h1.size h2.size,fun j hj=>(h2.block j (Nat.lt_of_lt_of_le hj h1.size) (by omega) (by omega) (by simp)).trans (h1.block j hj)⟩
  have HBr:=Lib.hid hbr
  clear hbr
  by_cases hi0:i=0
  ·subst hi0
   have hout:=HI.out.2.2.2.1 rfl
   subst hout
   obtain ⟨htr,hgb⟩:=HT.out wr HBr.out
   obtain ⟨q0,q1,q2,q3,q4,q5⟩:=HQ.out
   have p0:=(World.cell?_of_block (a:=⟨g,o,none⟩) hgb).trans q0
   have p1:=(World.cell?_of_block (a:=⟨g,o+1,none⟩) hgb).trans q1
   have p2:=(World.cell?_of_block (a:=⟨g,o+2,none⟩) hgb).trans q2
   have p3:=(World.cell?_of_block (a:=⟨g,o+3,none⟩) hgb).trans q3
   have p4:=(World.cell?_of_block (a:=⟨g,o+4,none⟩) hgb).trans q4
   have p5:=(World.cell?_of_block (a:=⟨g,o+5,none⟩) hgb).trans q5
   obtain ⟨W4,hW4⟩:∃ W4,wr.alloc (.cells #[.int .i64 k4,.string nb4,.string mb4,.int .u64 b4,.int .i64 v4,.slice A4 L4 c4] 25)=W4:=⟨_,rfl⟩
   have hb4:Below wr.heap.size wr W4:=by rw [←hW4];exact (Below.refl _ _).alloc (Nat.le_refl _) _
   have hX4:TBox W4 wr.heap.size (.mk k4 n4 m4 b4 v4 ts4) (.slice A4 L4 c4):=by rw [←hW4];exact TBox.new wr HN.out.1 HN.out.2.1
   obtain ⟨y0,y1,y2,y3,y4,y5⟩:=hX4.cells HN.out.1 HN.out.2.1
   have hown:∀ q,(Value.slice A2 n2 c2).ownBlock=some q→W3.heap.size≤q:=fun q hq=>by
    rcases HI.out.2.2.1 with hm | ⟨g2,hm,hg2⟩
    ·rw [hm] at hq;cases hq
    ·rw [hm] at hq;injection hq with hq;omega
   have HCl:=Lib.hid (walk_any _ W4 _ (G+1+1) G (G+1) A2 n2 c2 [] (HI.out.1.below hb4) (TAtP.keep _ htr (fun b hb=>⟨⟨by have:=HBr.out.size;have:=hb4.size;omega,by have:=HV.out.2.2.1;omega,by have:=HV.out.2.2.1;omega,fun e=>by have:=hown b e;have:=HV.out.2.1.size;omega⟩,hb4.block b (Nat.lt_of_lt_of_le hb HBr.out.size)⟩)) (by have:=HV.out.2.2.2;unfold BigN;simp;omega))
   rw [valT_mk HN.out.1 HN.out.2.1,show eachV (G+1+1) G = .func (.func 71) #[] #[.pointer (some ⟨G+1+1,0,none⟩),.pointer (some ⟨G,0,none⟩)] from rfl] at HCl
   have HB4:=Lib.hid hb4
   subst hW4
   clear htr hgb q0 q1 q2 q3 q4 q5 hb4 hX4 hown
   go_wp2_with (go_at_call 70;(with_reducible refine HCl.out.mono ?_);rintro e w6 ⟨rfl,A6,n6,c6,hv6,hf6,hm6⟩;have H6:=Lib.hid (And.intro hv6 (And.intro hf6 hm6));clear hv6 hf6 hm6)
   go_roundw
   case rel=>
    obtain ⟨hv6,hf6,hm6⟩:=H6.out
    have hf46:Fr G (G+1) (Value.slice A2 n2 c2).ownBlock wr w6:=(Fr.below HB4.out).trans (.inl rfl) hf6
    refine ⟨A6,n6,c6,1,_,rfl,Nat.le_refl _,Lib.hid ⟨hv6,HI.out.2.1.trans HI.out.2.2.1 hf46,HI.out.2.2.1.trans (by
     rcases hm6 with hm | ⟨g,hm,hg⟩
     ·exact .inl hm
     ·exact .inr ⟨g,hm,Nat.le_trans HB4.out.size hg⟩) HI.out.2.1.size,fun h=>by omega,fun _=>rfl⟩⟩
   case measure=>
    show (1 - (0+1):Int).toNat<(1 - 0:Int).toNat
    omega
  ·have ei:i=1:=by omega
   subst ei
   have hout:=HI.out.2.2.2.2 rfl
   subst hout
   have cO:=cell_of_one HI.out.1.o
   clear hi0
   go_wp2
   go_ret
   refine ⟨A2,n2,c2,rfl,own_raise HI.out.1.own (fun q hq=>?_),HBr.out⟩
   rcases HI.out.2.2.1 with hm | ⟨g2,hm,hg2⟩
   ·rw [hm] at hq;cases hq
   ·rw [hm] at hq;injection hq with hq;have:=HV.out.2.1.size;omega
set_option maxRecDepth 100000 in
set_option maxHeartbeats 4000000 in
theorem Variables_any {w0 w:World} {A:Option Addr} {c:Nat} {t:Tm} {sl:Value} (h:RowP w (fun b=>b<w.heap.size) A 1 [(t,sl)]) (hc:1≤c) (hck:checkP t=0) (hU:UOk w0 w) :
  Calls Tryd.prog 28 #[.slice A 1 c] w fun e w'=>∃ A' n' c',e = .returned (.tuple #[.slice A' n' c',.int .i64 0])∧Own 3 w' w.heap.size A' n' c' (zs (vars t []))∧Below w.heap.size w w':=by
 have hC:=checks_any (w0:=w0) (c:=c) h (fun b hb=>hb) (by unfold maxArgs;omega) hc hU
 have e0:checksP ([(t,sl)].map (·.1))=0:=by
  show checksP [t]=0
  unfold checksP checks
  rw [if_neg (by simpa using hck)]
  rfl
 rw [e0] at hC
 have hV:=fun u (hb:Below w.heap.size w u)=>variables_any (w:=u) (c:=c) ((h.below hb (fun b hb=>hb)).wide' (fun b hb2=>Nat.lt_of_lt_of_le hb2 hb.size)) (by have:=(check_iff.1 hck).1;omega)
 have HC:=Lib.hid hC
 have HV:=Lib.hid hV
 clear h hC hV hck hU e0
 go_enter Tryd.func28,Tryd.ntmps28
 go_wp2_with (first
  | (go_at_call 57;(with_reducible refine HC.out.mono ?_);rintro e w2 ⟨rfl,hb2⟩;have HB2:=Lib.hid hb2;clear hb2)
  | (go_at_call 58;(with_reducible refine (HV.out _ HB2.out).mono ?_);rintro e w3 ⟨A3,n3,c3,rfl,ho3,hb3⟩;have H3:=Lib.hid (And.intro (Own.mono ho3 HB2.out.size) (HB2.out.trans (hb3.mono HB2.out.size)));clear ho3 hb3))
 go_ret2
 exact ⟨A3,n3,c3,rfl,H3.out.1,H3.out.2⟩
end Go.Proofs.YtgfeainpeplphaaDoor
namespace Go.Proofs.YtgfeainpeplphaaDoor
open Go.RowKit Hb Ht
attribute [local go_sem] Oper.semAt_some
def RuleR (w:World) (r:Except Tm Tm) (e:Ending) (w':World):Prop:=
 Below w.heap.size w w'∧match r with
  | .ok g=>∃ sg,e = .returned (.tuple #[valT g sg,.nilIface])∧TOwn w' g sg w.heap.size w'.heap.size
  | .error b=>∃ bb,e = .returned (.tuple #[zeroTV,.iface 82 (.pointer (some ⟨bb,0,none⟩))])∧BallAt w' bb b
theorem RuleR.mkOk {w w':World} {g:Tm} {e:Ending} {sg:Value} (hb:Below w.heap.size w w') (he:e = .returned (.tuple #[valT g sg,.nilIface])) (ht:TOwn w' g sg w.heap.size w'.heap.size):RuleR w (.ok g) e w':=⟨hb,sg,he,ht⟩
theorem RuleR.mkBad {w w':World} {b:Tm} {e:Ending} {bb:Nat} (hb:Below w.heap.size w w') (he:e = .returned (.tuple #[zeroTV,.iface 82 (.pointer (some ⟨bb,0,none⟩))])) (ht:BallAt w' bb b):RuleR w (.error b) e w':=⟨hb,bb,he,ht⟩
theorem hqRule {R:Ending→World→Prop} {i:Nat} (hi:3<i) {v:Value} (c:List PanicEntry) (a:Act) (w:World) (h:bodyPostD Tryd.prog Tryd.f9 R (.panic c) (a.put (some i) v) w):bodyPostD Tryd.prog Tryd.f9 R (.panic c) a w:=by
 refine leaves_congr (t1:=(a.put (some i) v).tmps) (fun w2=>?_) _ _ _ h
 have h2:i≠2:=by omega
 have h3:i≠3:=by omega
 simp [results,Tryd.results9,Act.put,Array.getElem?_setIfInBounds,Array.getD_eq_getD_getElem?,h2,h3]
theorem hasV_nn {t:Tm} (h:checkP t=0) {x:Int} (hx:HasV x t):0≤x:=by
 have h0:=(check_iff.1 h).2
 revert hx
 revert h0
 refine Tm.ind (p:=fun t=>errsP t=0→HasV x t→0≤x) (fun k n m b v l ih h0 hx=>?_) t
 obtain ⟨h1,h2⟩:=errs_iff.1 h0
 rw [HasV] at hx
 rcases hx with ⟨_,hv⟩ | hx
 ·have:=(one_iff.1 h1).2.2.1
  subst hv
  exact this
 ·obtain ⟨a,ha,hxa⟩:=hasVs_iff.1 hx
  exact ih a ha (h2 a ha) hxa
structure RS (w:World) (N:Nat) (t:Tm) (st:Value) (nx:Int) (u:World):Prop where
 t1:TBox u w.heap.size t st
 r:TBox u (w.heap.size+1) zeroT (.slice none 0 0)
 e:u.heap[w.heap.size+1+1]?=some (.cells #[.nilIface] 29 (0,0))
 n:u.heap[N]?=some (.cells #[.int .i64 nx] 3 (0,0))
 bel:Below w.heap.size w u
 lt:w.heap.size+1+1<N
 kid:TAtP u (fun b=>b<w.heap.size) t st
theorem RS.keep {w u u':World} {N R:Nat} {t:Tm} {st:Value} {nx:Int} (h:RS w N t st nx u) (hg:u.grownBy u' (some R)) (hR:w.heap.size+1+1<R) (hRN:N≠R):RS w N t st nx u':=
 ⟨h.t1.gro hg (by omega),h.r.gro hg (by omega),blk_ne hg h.e (by omega),blk_ne hg h.n hRN,h.bel.grown hg h.bel.size (fun j e=>by injection e with e;omega),h.lt,TAtP.gro (N:=R) h.kid (fun b hb=>⟨Nat.lt_of_lt_of_le hb h.bel.size,by omega⟩) hg⟩
theorem RS.go {w u u':World} {N:Nat} {t:Tm} {st:Value} {nx nx':Int} (h:RS w N t st nx u) (hg:u.grownBy u' (some N)) (hn:u'.heap[N]?=some (.cells #[.int .i64 nx'] 3 (0,0))):RS w N t st nx' u':=
 ⟨h.t1.gro hg (by have:=h.lt;omega),h.r.gro hg (by have:=h.lt;omega),blk_ne hg h.e (by have:=h.lt;omega),hn,h.bel.grown hg h.bel.size (fun j e=>by injection e with e;have:=h.lt;omega),h.lt,TAtP.gro (N:=N) h.kid (fun b hb=>⟨Nat.lt_of_lt_of_le hb h.bel.size,by have:=h.lt;omega⟩) hg⟩
theorem RS.below {w u u':World} {N:Nat} {t:Tm} {st:Value} {nx:Int} (h:RS w N t st nx u) (hb:Below u.heap.size u u'):RS w N t st nx u':=
 h.go (grown_below hb) ((hb.block N (Array.getElem?_eq_some_iff.1 h.n).1).trans h.n)
theorem RS.nlt {w u:World} {N:Nat} {t:Tm} {st:Value} {nx:Int} (h:RS w N t st nx u):N<u.heap.size:=(Array.getElem?_eq_some_iff.1 h.n).1
theorem cell_blk {w:World} {g f:Nat} {v:Value} (h:w.cell? ⟨g,f,none⟩=some v):g<w.heap.size:=by
 rcases Nat.lt_or_ge g w.heap.size with h1 | h1
 ·exact h1
 ·unfold World.cell? at h
  simp [Array.getElem?_eq_none h1] at h
theorem cellB {w w':World} {g f:Nat} {v:Value} (hb:Below w.heap.size w w') (h:w.cell? ⟨g,f,none⟩=some v):w'.cell? ⟨g,f,none⟩=some v:=
 (World.cell?_of_block (a:=⟨g,f,none⟩) (hb.block g (cell_blk h)).symm).symm.trans h
theorem okF_zero:okF zeroT:=⟨by simp [zeroT,Tm.n],by simp [zeroT,Tm.m],by simp [zeroT,Tm.b],by simp [zeroT,Tm.v],by simp [zeroT,Tm.k]⟩
theorem zero_at (w:World) (P:Nat→Prop):TAtP w P zeroT (.slice none 0 0):=by
 rw [TAtP.iff]
 exact ⟨none,0,rfl,Nat.le_refl _,by simp [maxLen],by show 0≤_;omega,okF_zero,fun hne=>absurd rfl hne⟩
structure RT (w:World) (N:Nat) (t:Tm) (st:Value) (nx:Int) (H Bx:Nat) (h:Tm) (sh:Value) (b:Tm) (sb:Value) (u:World):Prop where
 rs:RS w N t st nx u
 bh:TBox u H h sh
 bb:TBox u Bx b sb
 lh:N<H
 lb:N<Bx
 ne:H≠Bx
 kh:TAtP u (fun b=>b<w.heap.size) h sh
 kb:TAtP u (fun b=>b<w.heap.size) b sb
theorem RT.go {w u u':World} {N H Bx:Nat} {t h b:Tm} {st sh sb:Value} {nx nx':Int} (k:RT w N t st nx H Bx h sh b sb u) (hg:u.grownBy u' (some N)) (hn:u'.heap[N]?=some (.cells #[.int .i64 nx'] 3 (0,0))):RT w N t st nx' H Bx h sh b sb u':=
 ⟨k.rs.go hg hn,k.bh.gro hg (by have:=k.lh;omega),k.bb.gro hg (by have:=k.lb;omega),k.lh,k.lb,k.ne,TAtP.gro (N:=N) k.kh (fun b hb=>⟨Nat.lt_of_lt_of_le hb k.rs.bel.size,by have:=k.rs.lt;omega⟩) hg,TAtP.gro (N:=N) k.kb (fun b hb=>⟨Nat.lt_of_lt_of_le hb k.rs.bel.size,by have:=k.rs.lt;omega⟩) hg⟩
theorem RT.below {w u u':World} {N H Bx:Nat} {t h b:Tm} {st sh sb:Value} {nx:Int} (k:RT w N t st nx H Bx h sh b sb u) (hb:Below u.heap.size u u'):RT w N t st nx H Bx h sh b sb u':=
 k.go (grown_below hb) ((hb.block N (Array.getElem?_eq_some_iff.1 k.rs.n).1).trans k.rs.n)
theorem RT.setH {w u:World} {N H Bx:Nat} {t h y:Tm} {st sh sb:Value} {nx:Int} (r:RT w N t st nx H Bx h sh y sb u) {k v b:Int} {n m:List UInt8} {ts:List Tm} {sl:Value} {nb mb:ByteArray} (hn:(⟨n.toArray⟩:ByteArray)=nb) (hm:(⟨m.toArray⟩:ByteArray)=mb) (hk:TAtP u (fun b=>b<w.heap.size) (.mk k n m b v ts) sl) :
  RT w N t st nx H Bx (.mk k n m b v ts) sl y sb ((((((u.setCell ⟨H,0,none⟩ (.int .i64 k)).setCell ⟨H,1,none⟩ (.string nb)).setCell ⟨H,2,none⟩ (.string mb)).setCell ⟨H,3,none⟩ (.int .u64 b)).setCell ⟨H,4,none⟩ (.int .i64 v)).setCell ⟨H,5,none⟩ sl):=by
 obtain ⟨h1,h2⟩:=r.bh.set6 ts sl hn hm
 have e1:=r.lh
 have e2:=r.rs.lt
 exact ⟨r.rs.keep h2 (by omega) (by omega),h1,r.bb.gro h2 r.ne.symm,r.lh,r.lb,r.ne,TAtP.gro hk (fun b hb=>⟨Nat.lt_of_lt_of_le hb r.rs.bel.size,by omega⟩) h2,TAtP.gro r.kb (fun b hb=>⟨Nat.lt_of_lt_of_le hb r.rs.bel.size,by omega⟩) h2⟩
theorem RT.setB {w u:World} {N H Bx:Nat} {t h y:Tm} {st sh sb:Value} {nx:Int} (r:RT w N t st nx H Bx h sh y sb u) {k v b:Int} {n m:List UInt8} {ts:List Tm} {sl:Value} {nb mb:ByteArray} (hn:(⟨n.toArray⟩:ByteArray)=nb) (hm:(⟨m.toArray⟩:ByteArray)=mb) (hk:TAtP u (fun b=>b<w.heap.size) (.mk k n m b v ts) sl) :
  RT w N t st nx H Bx h sh (.mk k n m b v ts) sl ((((((u.setCell ⟨Bx,0,none⟩ (.int .i64 k)).setCell ⟨Bx,1,none⟩ (.string nb)).setCell ⟨Bx,2,none⟩ (.string mb)).setCell ⟨Bx,3,none⟩ (.int .u64 b)).setCell ⟨Bx,4,none⟩ (.int .i64 v)).setCell ⟨Bx,5,none⟩ sl):=by
 obtain ⟨h1,h2⟩:=r.bb.set6 ts sl hn hm
 have e1:=r.lb
 have e2:=r.rs.lt
 exact ⟨r.rs.keep h2 (by omega) (by omega),r.bh.gro h2 r.ne,h1,r.lh,r.lb,r.ne,TAtP.gro r.kh (fun b hb=>⟨Nat.lt_of_lt_of_le hb r.rs.bel.size,by omega⟩) h2,TAtP.gro hk (fun b hb=>⟨Nat.lt_of_lt_of_le hb r.rs.bel.size,by omega⟩) h2⟩
def ruleTail (pushed:Bool) (n:Int) (h p y:Tm):Except Tm Tm:=
 if h.k=1 then .error (atomT sInst)
 else if h.k=3∨h.k=4 then .error (typedT sCallable h)
 else if pushed=true∧isNil (elems p).2=false then .error (typedT sList p)
 else
  match putT h (varT n) (varT (n+1)) with
  | .error e=>.error e
  | .ok hd=>
   if pushed then
    match mkB y (varT n) (varT (n+2)) (n+3) with
    | .error e=>.error e
    | .ok (g,_)=>whole (cmpT sNeck [hd,cmpT sComma [g,eqT (varT (n+1)) (endT (elems p).1 (varT (n+2)))]])
   else
    match mkB y (varT n) (varT (n+1)) (n+2) with
    | .error e=>.error e
    | .ok (g,_)=>whole (cmpT sNeck [hd,g])
theorem rule_np {m:List UInt8} {b v:Int} {x y:Tm} (hc:isC x sComma 2=false):ruleT (.mk 5 sRule m b v [x,y])=ruleTail false (above (.mk 5 sRule m b v [x,y])) x (x.as.getD 1 zeroT) y:=by
 have h1:isC (.mk 5 sRule m b v [x,y]) sRule 2=true:=isC_iff.2 ⟨rfl,rfl,rfl⟩
 unfold ruleT ruleTail
 rw [h1,if_neg (by simp)]
 simp only [Tm.as,List.getD_cons_zero,List.getD_cons_succ,hc]
 rfl
theorem tail_inst {pu:Bool} {n:Int} {h p y:Tm} (hk:h.k=1):ruleTail pu n h p y = .error (atomT sInst):=by unfold ruleTail;rw [if_pos hk]
theorem tail_call {pu:Bool} {n:Int} {h p y:Tm} (hk1:¬h.k=1) (hk:h.k=3∨h.k=4):ruleTail pu n h p y = .error (typedT sCallable h):=by unfold ruleTail;rw [if_neg hk1,if_pos hk]
theorem tail_big {pu:Bool} {n:Int} {h p y:Tm} (hk1:¬h.k=1) (hk:¬(h.k=3∨h.k=4)) (hn:¬(pu=true∧isNil (elems p).2=false)) (h62:62<h.as.length):ruleTail pu n h p y = .error arityT:=by
 unfold ruleTail;rw [if_neg hk1,if_neg hk,if_neg hn];simp [putT,h62]
theorem tail_np {n:Int} {h p y:Tm} (hk1:¬h.k=1) (hk:¬(h.k=3∨h.k=4)) (h62:¬62<h.as.length):ruleTail false n h p y=match mkB y (varT n) (varT (n+1)) (n+2) with
    | .error e=>.error e
    | .ok (g,_)=>whole (cmpT sNeck [cmpT h.n (h.as ++ [varT n,varT (n+1)]),g]):=by
 unfold ruleTail;rw [if_neg hk1,if_neg hk,if_neg (by simp)];simp [putT,h62]
theorem put_fitL {w:World} {P:Nat→Prop} {k b v:Int} {n m:List UInt8} {ts:List Tm} {nb mb:ByteArray} {A0:Option Addr} {c0 L:Nat} {f d:Tm} {sf sd:Value} (hn:(⟨n.toArray⟩:ByteArray)=nb) (hm:(⟨m.toArray⟩:ByteArray)=mb) (hL:ts.length=L) (h1:TAtP w P (.mk k n m b v ts) (.slice A0 L c0)) (h2:TAtP w P f sf) (h3:TAtP w P d sd) (hP:∀ b,P b→b<w.heap.size) (h62:L≤62) :
  Calls Tryd.prog 36 #[.agg #[.int .i64 k,.string nb,.string mb,.int .u64 b,.int .i64 v,.slice A0 L c0],valT f sf,valT d sd] w fun e w'=>∃ A c,e = .returned (.agg #[.int .i64 5,.string nb,.string ⟨#[]⟩,.int .u64 0,.int .i64 0,.slice A (L+2) c])∧TAtP w' (Grow P w w') (cmpT n (ts ++ [f,d])) (.slice A (L+2) c)∧Below w.heap.size w w':=by
 have h:=put_fit h1 h2 h3 hP (by show ts.length≤62;omega)
 rw [valT_mk hn hm] at h
 refine h.mono ?_
 rintro e w' ⟨sl',rfl,ht,hb⟩
 have hl:(cmpT n (ts ++ [f,d])).as.length=L+2:=by show (ts ++ [f,d]).length=_;simp [hL]
 obtain ⟨A,c,e1,_⟩:=TAtP.iff.1 ht
 have e2:sl' = .slice A (L+2) c:=e1.trans (by rw [show (Tm.mk k n m b v ts).n=n from rfl,show (Tm.mk k n m b v ts).as=ts from rfl,hl])
 subst e2
 refine ⟨A,c,?_,ht,hb⟩
 subst hn
 rfl
structure RD (w:World) (u:World):Prop where
 r:TBox u (w.heap.size+1) zeroT (.slice none 0 0)
 e:u.heap[w.heap.size+1+1]?=some (.cells #[.nilIface] 29 (0,0))
 bel:Below w.heap.size w u
theorem RS.rd {w u:World} {N:Nat} {t:Tm} {st:Value} {nx:Int} (h:RS w N t st nx u):RD w u:=⟨h.r,h.e,h.bel⟩
theorem RD.go {w u u':World} {N:Nat} (h:RD w u) (hg:u.grownBy u' (some N)) (hN:w.heap.size+1+1<N):RD w u':=
 ⟨h.r.gro hg (by omega),blk_ne hg h.e (by omega),h.bel.grown hg h.bel.size (fun j e=>by injection e with e;omega)⟩
theorem bare_var (x:Int):Bare (varT x):=⟨fun _=>rfl,Bares.of (fun a ha=>absurd ha (by simp))⟩
theorem bare_mkB {t f d g:Tm} {nx n':Int} (h:mkB t f d nx = .ok (g,n')) (h0:0≤nx) (ht:checkP t=0) (hf:errsP f=0) (hd:errsP d=0):Bare g:=bare_errs _ ((mkB_mk _ _ _ _ _ _ h).errs names_ok h0 (check_iff.1 ht).2 hf hd)
theorem bare_head {n:List UInt8} {t:Tm} {x y:Int} (h:checkP t=0):Bare (cmpT n (t.as ++ [varT x,varT y])):=bare_cmp (fun a ha=>by
 rcases List.mem_append.1 ha with h1 | h1
 ·exact bare_check (check_arg h h1)
 ·simp at h1
  rcases h1 with rfl | rfl
  ·exact bare_var _
  ·exact bare_var _)
theorem merge3 {G:Prop} {F gp:World→Nat→Nat→Prop} (main:(∀ u H Bx,F u H Bx→gp u H Bx)→G) (key:∀ u H Bx,F u H Bx→gp u H Bx):G:=main key
def BBox (w:World) (g:Nat) (i:Bool) (t:Tm) (sl:Value):Prop:=w.heap[g]?=some (.cells (Value.bool i :: cells6 t sl).toArray 35 (0,0))
theorem BBox.lt {w:World} {g:Nat} {i:Bool} {t:Tm} {sl:Value} (h:BBox w g i t sl):g<w.heap.size:=(Array.getElem?_eq_some_iff.1 h).1
theorem BBox.below {w w':World} {g:Nat} {i:Bool} {t:Tm} {sl:Value} (h:BBox w g i t sl) (hb:Below w.heap.size w w'):BBox w' g i t sl:=(hb.block g h.lt).trans h
theorem BBox.cells {w:World} {g:Nat} {i:Bool} {k v b:Int} {n m:List UInt8} {ts:List Tm} {sl:Value} {nb mb:ByteArray} (h:BBox w g i (.mk k n m b v ts) sl) (hn:(⟨n.toArray⟩:ByteArray)=nb) (hm:(⟨m.toArray⟩:ByteArray)=mb) :
  w.cell? ⟨g,0,none⟩=some (.bool i)∧w.cell? ⟨g,1,none⟩=some (.int .i64 k)∧w.cell? ⟨g,2,none⟩=some (.string nb)∧w.cell? ⟨g,3,none⟩=some (.string mb)∧w.cell? ⟨g,4,none⟩=some (.int .u64 b)∧w.cell? ⟨g,5,none⟩=some (.int .i64 v)∧w.cell? ⟨g,6,none⟩=some sl:=by
 subst hn hm
 refine ⟨?_,?_,?_,?_,?_,?_,?_⟩ <;> (rw [cell_of_row w g _ _ _ (0,0) h];rfl)
theorem BBox.new (w:World) {i:Bool} {k v b:Int} {n m:List UInt8} {ts:List Tm} {sl:Value} {nb mb:ByteArray} (hn:(⟨n.toArray⟩:ByteArray)=nb) (hm:(⟨m.toArray⟩:ByteArray)=mb) :
  BBox (w.alloc (.cells #[.bool i,.int .i64 k,.string nb,.string mb,.int .u64 b,.int .i64 v,sl] 35)) w.heap.size i (.mk k n m b v ts) sl:=by
 subst hn hm
 exact heap_alloc_new w _
theorem BBox.frozen {w:World} {g:Nat} {i:Bool} {t:Tm} {sl:Value} (h:BBox w g i t sl) (j:Nat):w.frozen? ⟨g,j,none⟩=false:=by
 unfold BBox at h
 simp [World.frozen?,h]
theorem BBox.frozens {w:World} {g:Nat} {i:Bool} {t:Tm} {sl:Value} (h:BBox w g i t sl):w.frozen? ⟨g,0,none⟩=false∧w.frozen? ⟨g,1,none⟩=false∧w.frozen? ⟨g,2,none⟩=false∧w.frozen? ⟨g,3,none⟩=false∧w.frozen? ⟨g,4,none⟩=false∧w.frozen? ⟨g,5,none⟩=false∧w.frozen? ⟨g,6,none⟩=false:=
 ⟨h.frozen 0,h.frozen 1,h.frozen 2,h.frozen 3,h.frozen 4,h.frozen 5,h.frozen 6⟩
theorem BBox.gro {w w':World} {N g:Nat} {i:Bool} {t:Tm} {sl:Value} (h:BBox w g i t sl) (hg:w.grownBy w' (some N)) (hn:g≠N):BBox w' g i t sl:=blk_ne hg h hn
theorem BBox.set7 {w:World} {g:Nat} {i0:Bool} {t0:Tm} {sl0:Value} (h:BBox w g i0 t0 sl0) (i:Bool) {k v b:Int} {n m:List UInt8} (ts:List Tm) (sl:Value) {nb mb:ByteArray} (hn:(⟨n.toArray⟩:ByteArray)=nb) (hm:(⟨m.toArray⟩:ByteArray)=mb) :
  BBox (((((((w.setCell ⟨g,0,none⟩ (.bool i)).setCell ⟨g,1,none⟩ (.int .i64 k)).setCell ⟨g,2,none⟩ (.string nb)).setCell ⟨g,3,none⟩ (.string mb)).setCell ⟨g,4,none⟩ (.int .u64 b)).setCell ⟨g,5,none⟩ (.int .i64 v)).setCell ⟨g,6,none⟩ (sl)) g i (.mk k n m b v ts) sl ∧
   w.grownBy (((((((w.setCell ⟨g,0,none⟩ (.bool i)).setCell ⟨g,1,none⟩ (.int .i64 k)).setCell ⟨g,2,none⟩ (.string nb)).setCell ⟨g,3,none⟩ (.string mb)).setCell ⟨g,4,none⟩ (.int .u64 b)).setCell ⟨g,5,none⟩ (.int .i64 v)).setCell ⟨g,6,none⟩ (sl)) (some g):=by
 subst hn hm
 constructor
 ·unfold BBox at h ⊢
  simp [World.setCell,Array.getElem?_modify,h,cells6,Tm.k,Tm.n,Tm.m,Tm.b,Tm.v]
 ·exact gb_setCell (gb_setCell (gb_setCell (gb_setCell (gb_setCell (gb_setCell (gb_setCell (gb_refl w (some g)) 0 _) 1 _) 2 _) 3 _) 4 _) 5 _) 6 _
def badV (i:Bool) (t:Tm) (sl:Value):Value:=.agg (Value.bool i :: cells6 t sl).toArray
theorem badV_mk {i:Bool} {k v b:Int} {n m:List UInt8} {ts:List Tm} {sl:Value} {nb mb:ByteArray} (hn:(⟨n.toArray⟩:ByteArray)=nb) (hm:(⟨m.toArray⟩:ByteArray)=mb):badV i (.mk k n m b v ts) sl = .agg #[.bool i,.int .i64 k,.string nb,.string mb,.int .u64 b,.int .i64 v,sl]:=by
 subst hn hm;rfl
set_option maxRecDepth 100000 in
set_option maxHeartbeats 4000000 in
theorem rthrow_any {w:World} {k v b:Int} {n m:List UInt8} {ts:List Tm} {nb mb:ByteArray} {A:Option Addr} {L c:Nat} (hn:(⟨n.toArray⟩:ByteArray)=nb) (hm:(⟨m.toArray⟩:ByteArray)=mb) :
  Calls Tryd.prog 44 #[.agg #[.int .i64 k,.string nb,.string mb,.int .u64 b,.int .i64 v,.slice A L c]] w fun e w'=>e = .returned (.agg #[.bool true,.int .i64 k,.string nb,.string mb,.int .u64 b,.int .i64 v,.slice A L c])∧Below w.heap.size w w':=by
 have hb1:Below w.heap.size w (w.alloc (.cells #[.int .i64 k,.string nb,.string mb,.int .u64 b,.int .i64 v,.slice A L c] 25)):=(Below.refl _ _).alloc (Nat.le_refl _) _
 have hs1:(w.alloc (.cells #[.int .i64 k,.string nb,.string mb,.int .u64 b,.int .i64 v,.slice A L c] 25)).heap.size=w.heap.size+1:=by simp
 have hX:TBox (w.alloc (.cells #[.int .i64 k,.string nb,.string mb,.int .u64 b,.int .i64 v,.slice A L c] 25)) w.heap.size (.mk k n m b v ts) (.slice A L c):=TBox.new w hn hm
 have hY:BBox ((w.alloc (.cells #[.int .i64 k,.string nb,.string mb,.int .u64 b,.int .i64 v,.slice A L c] 25)).alloc (.cells #[.bool true,.int .i64 k,.string nb,.string mb,.int .u64 b,.int .i64 v,.slice A L c] 35)) (w.alloc (.cells #[.int .i64 k,.string nb,.string mb,.int .u64 b,.int .i64 v,.slice A L c] 25)).heap.size true (.mk k n m b v ts) (.slice A L c):=BBox.new (w.alloc (.cells #[.int .i64 k,.string nb,.string mb,.int .u64 b,.int .i64 v,.slice A L c] 25)) hn hm
 have HB:=Lib.hid (hb1.alloc hb1.size (.cells #[.bool true,.int .i64 k,.string nb,.string mb,.int .u64 b,.int .i64 v,.slice A L c] 35))
 rw [hs1] at hY
 obtain ⟨x0,x1,x2,x3,x4,x5⟩:=hX.cells hn hm
 have HY:=Lib.hid hY
 have HM:=Lib.hid (And.intro hn hm)
 clear hb1 hs1 hX hY hn hm
 go_enter Tryd.func44,Tryd.ntmps44
 go_wp2
 obtain ⟨r0,r1,r2,r3,r4,r5,r6⟩:=HY.out.cells HM.out.1 HM.out.2
 exact bodyPost_ret (v:=.agg #[.bool true,.int .i64 k,.string nb,.string mb,.int .u64 b,.int .i64 v,.slice A L c]) (by simp [results,Tryd.results44,go_sem,r0,r1,r2,r3,r4,r5,r6]) rfl ⟨rfl,HB.out⟩
set_option maxRecDepth 100000 in
set_option maxHeartbeats 4000000 in
theorem typed_any {w:World} {P:Nat→Prop} {k v b:Int} {n m:List UInt8} {ts:List Tm} {nb mb:ByteArray} {A:Option Addr} {L c:Nat} {kn:List UInt8} {kb:ByteArray} (hkb:(⟨kn.toArray⟩:ByteArray)=kb) (hkl:kn.length≤maxLen) (hn:(⟨n.toArray⟩:ByteArray)=nb) (hm:(⟨m.toArray⟩:ByteArray)=mb) (hL:ts.length=L) (hx:TAtP w P (.mk k n m b v ts) (.slice A L c)) (hP:∀ b,P b→b<w.heap.size) :
  Calls Tryd.prog 43 #[.string kb,.agg #[.int .i64 k,.string nb,.string mb,.int .u64 b,.int .i64 v,.slice A L c]] w fun e w'=>∃ A' c',e = .returned (.agg #[.bool true,.int .i64 5,.string ⟨#[116,121,112,101,95,101,114,114,111,114]⟩,.string ⟨#[]⟩,.int .u64 0,.int .i64 0,.slice A' 2 c'])∧TAtP w' (Grow P w w') (typedT kn (.mk k n m b v ts)) (.slice A' 2 c')∧Below w.heap.size w w':=by
 have hb1:Below w.heap.size w (w.alloc (.cells #[.int .i64 k,.string nb,.string mb,.int .u64 b,.int .i64 v,.slice A L c] 25)):=(Below.refl _ _).alloc (Nat.le_refl _) _
 have hs1:(w.alloc (.cells #[.int .i64 k,.string nb,.string mb,.int .u64 b,.int .i64 v,.slice A L c] 25)).heap.size=w.heap.size+1:=by simp
 have hb2:Below (w.alloc (.cells #[.int .i64 k,.string nb,.string mb,.int .u64 b,.int .i64 v,.slice A L c] 25)).heap.size (w.alloc (.cells #[.int .i64 k,.string nb,.string mb,.int .u64 b,.int .i64 v,.slice A L c] 25)) (((w.alloc (.cells #[.int .i64 k,.string nb,.string mb,.int .u64 b,.int .i64 v,.slice A L c] 25))).alloc (.cells #[.bool false,.int .i64 0,.string ⟨#[]⟩,.string ⟨#[]⟩,.int .u64 0,.int .i64 0,.slice none 0 0] 35)):=(Below.refl _ _).alloc (Nat.le_refl _) _
 have hX:TBox (((w.alloc (.cells #[.int .i64 k,.string nb,.string mb,.int .u64 b,.int .i64 v,.slice A L c] 25))).alloc (.cells #[.bool false,.int .i64 0,.string ⟨#[]⟩,.string ⟨#[]⟩,.int .u64 0,.int .i64 0,.slice none 0 0] 35)) w.heap.size (.mk k n m b v ts) (.slice A L c):=(TBox.new w hn hm).below hb2
 have hY:BBox (((w.alloc (.cells #[.int .i64 k,.string nb,.string mb,.int .u64 b,.int .i64 v,.slice A L c] 25))).alloc (.cells #[.bool false,.int .i64 0,.string ⟨#[]⟩,.string ⟨#[]⟩,.int .u64 0,.int .i64 0,.slice none 0 0] 35)) (w.alloc (.cells #[.int .i64 k,.string nb,.string mb,.int .u64 b,.int .i64 v,.slice A L c] 25)).heap.size false zeroT (.slice none 0 0):=heap_alloc_new (w.alloc (.cells #[.int .i64 k,.string nb,.string mb,.int .u64 b,.int .i64 v,.slice A L c] 25)) _
 have hs2:(((w.alloc (.cells #[.int .i64 k,.string nb,.string mb,.int .u64 b,.int .i64 v,.slice A L c] 25))).alloc (.cells #[.bool false,.int .i64 0,.string ⟨#[]⟩,.string ⟨#[]⟩,.int .u64 0,.int .i64 0,.slice none 0 0] 35)).heap.size=w.heap.size+1+1:=by rw [←hs1];simp
 rw [hs1] at hY
 have HX:=Lib.hid (And.intro hX (And.intro hY (And.intro (hb1.trans (hb2.mono (by omega))) hs2)))
 have HM:=Lib.hid (And.intro hn (And.intro hm (And.intro hkb (And.intro hkl hL))))
 have HT:=Lib.hid (And.intro hx hP)
 clear hb1 hs1 hb2 hX hY hn hm hkb hkl hL hx hP hs2
 go_enter Tryd.func43,Tryd.ntmps43
 go_upto_region 1 with fail
 generalize (((w.alloc (.cells #[.int .i64 k,.string nb,.string mb,.int .u64 b,.int .i64 v,.slice A L c] 25))).alloc (.cells #[.bool false,.int .i64 0,.string ⟨#[]⟩,.string ⟨#[]⟩,.int .u64 0,.int .i64 0,.slice none 0 0] 35))=u0 at *
 have HSS:=Lib.hid (show ∀ z,Below u0.heap.size u0 z→(z.cell? ⟨w.heap.size,0,none⟩=some (.int .i64 k)∧z.cell? ⟨w.heap.size,1,none⟩=some (.string nb)∧z.cell? ⟨w.heap.size,2,none⟩=some (.string mb)∧z.cell? ⟨w.heap.size,3,none⟩=some (.int .u64 b)∧z.cell? ⟨w.heap.size,4,none⟩=some (.int .i64 v)∧z.cell? ⟨w.heap.size,5,none⟩=some (.slice A L c)) from fun z hb=>(HX.out.1.below hb).cells HM.out.1 HM.out.2.1)
 refine wp_region_wait (fun z=>(z.cell? ⟨w.heap.size,0,none⟩=some (.int .i64 k)∧z.cell? ⟨w.heap.size,1,none⟩=some (.string nb)∧z.cell? ⟨w.heap.size,2,none⟩=some (.string mb)∧z.cell? ⟨w.heap.size,3,none⟩=some (.int .u64 b)∧z.cell? ⟨w.heap.size,4,none⟩=some (.int .i64 v)∧z.cell? ⟨w.heap.size,5,none⟩=some (.slice A L c))) 5 (by kernel_rfl) ?_
 change wpAnyW _ _ _ _ _ _ _ _ _ u0.drew
 have KK:=Lib.hid (below_drew' u0)
 generalize u0.drew=v0 at *
 refine w3 5 0 (.string kb) (HSS.out _ KK.out) ?_ ?_
 ·intro w5 hSw
  obtain ⟨p0,p1,p2,p3,p4,p5⟩:=hSw
  go_simp
 refine w3 5 2 (.agg #[.int .i64 k,.string nb,.string mb,.int .u64 b,.int .i64 v,.slice A L c]) (HSS.out _ KK.out) ?_ ?_
 ·intro w5 hSw
  obtain ⟨p0,p1,p2,p3,p4,p5⟩:=hSw
  go_simp
 refine w1 1 fun K hK=>?_
 go_simp
 (with_reducible refine (A_any _ _).mono ?_)
 rintro e u1 ⟨rfl,hb⟩
 replace KK:=Lib.hid (KK.out.trans (hb.mono KK.out.size))
 clear hb
 refine hK.out _ _ (fun _=>HSS.out _ KK.out) ?_
 have hwu:Below w.heap.size w u1:=HX.out.2.2.1.trans (KK.out.mono HX.out.2.2.1.size)
 have hF:=F2_any (P:=P) (ta:=atomT kn) (sa:=.slice none 0 0) (atom_at u1 P HM.out.2.2.2.1) (HT.out.1.below hwu HT.out.2) (fun b hb=>Nat.lt_of_lt_of_le (HT.out.2 b hb) hwu.size) ⟨#[116,121,112,101,95,101,114,114,111,114]⟩ (by decide)
 rw [valT_mk HM.out.1 HM.out.2.1,show valT (atomT kn) (.slice none 0 0) = .agg #[.int .i64 2,.string kb,.string ⟨#[]⟩,.int .u64 0,.int .i64 0,.slice none 0 0] from by rw [←HM.out.2.2.1];rfl] at hF
 have HF:=Lib.hid hF
 have HWU:=Lib.hid hwu
 clear hF hwu
 refine w1 3 fun K hK=>?_
 go_simp
 (with_reducible refine HF.out.mono ?_)
 rintro e u2 ⟨A',c',rfl,ht,hb⟩
 have HT2:=Lib.hid ht
 have HU2:=Lib.hid (And.intro (HWU.out.trans (hb.mono HWU.out.size)) (And.intro (show w.heap.size+1+1≤u1.heap.size from by have h1:=KK.out.size;have h2:=HX.out.2.2.2;omega) hb.size))
 replace KK:=Lib.hid (KK.out.trans (hb.mono KK.out.size))
 clear ht hb HF
 refine hK.out _ _ (fun _=>HSS.out _ KK.out) ?_
 refine w1 4 fun K hK=>?_
 go_simp
 (with_reducible refine (rthrow_any (k:=5) (b:=0) (v:=0) (ts:=[]) (n:=sType) (m:=[]) (nb:=⟨#[116,121,112,101,95,101,114,114,111,114]⟩) (mb:=⟨#[]⟩) rfl rfl).mono ?_)
 rintro e u3 ⟨rfl,hb⟩
 have HT3:=Lib.hid (And.intro (show TAtP u3 (fun b=>P b∨(w.heap.size+1+1≤b∧b<u3.heap.size)) (typedT kn (.mk k n m b v ts)) (.slice A' 2 c') from TAtP.keep _ HT2.out (fun b h=>by
  have h5:=HU2.out.2.1
  have h6:=hb.size
  have h7:=HU2.out.2.2
  have hlt:b<u2.heap.size:=by
   rcases h with h | h
   ·have:=HT.out.2 b h;omega
   ·exact h.2
  refine ⟨?_,hb.block b hlt⟩
  rcases h with h | h
  ·exact .inl h
  ·exact .inr ⟨by omega,by omega⟩)) (HU2.out.1.trans (hb.mono HU2.out.1.size)))
 replace KK:=Lib.hid (KK.out.trans (hb.mono KK.out.size))
 clear hb
 refine hK.out _ _ (fun _=>HSS.out _ KK.out) ?_
 have HY:=Lib.hid (HX.out.2.1.below KK.out)
 refine w1 5 fun K hK=>?_
 obtain ⟨a0,a1,a2,a3,a4,a5,a6⟩:=HY.out.cells rfl rfl
 obtain ⟨f0,f1,f2,f3,f4,f5,f6⟩:=HY.out.frozens
 go_simp
 refine hK.out _ _ (fun h=>absurd h (by simp)) ?_
 refine wpAnyW_done (by kernel_rfl) ?_ _
 go_wp2
 obtain ⟨hbx,hgr⟩:=HY.out.set7 true (k:=5) (b:=0) (v:=0) (n:=sType) (m:=[]) [] (.slice A' 2 c') (nb:=⟨#[116,121,112,101,95,101,114,114,111,114]⟩) (mb:=⟨#[]⟩) rfl rfl
 have hbw:=HT3.out.2.grown hgr HT3.out.2.size (fun j e=>by injection e with e;omega)
 have htw:TAtP (((((((u3.setCell ⟨w.heap.size+1,0,none⟩ (.bool true)).setCell ⟨w.heap.size+1,1,none⟩ (.int .i64 5)).setCell ⟨w.heap.size+1,2,none⟩ (.string ⟨#[116,121,112,101,95,101,114,114,111,114]⟩)).setCell ⟨w.heap.size+1,3,none⟩ (.string ⟨#[]⟩)).setCell ⟨w.heap.size+1,4,none⟩ (.int .u64 0)).setCell ⟨w.heap.size+1,5,none⟩ (.int .i64 0)).setCell ⟨w.heap.size+1,6,none⟩ (.slice A' 2 c')) (Grow P w (((((((u3.setCell ⟨w.heap.size+1,0,none⟩ (.bool true)).setCell ⟨w.heap.size+1,1,none⟩ (.int .i64 5)).setCell ⟨w.heap.size+1,2,none⟩ (.string ⟨#[116,121,112,101,95,101,114,114,111,114]⟩)).setCell ⟨w.heap.size+1,3,none⟩ (.string ⟨#[]⟩)).setCell ⟨w.heap.size+1,4,none⟩ (.int .u64 0)).setCell ⟨w.heap.size+1,5,none⟩ (.int .i64 0)).setCell ⟨w.heap.size+1,6,none⟩ (.slice A' 2 c'))) (typedT kn (.mk k n m b v ts)) (.slice A' 2 c'):=TAtP.keep _ HT3.out.1 (fun b hb=>by
  have h3:=HT3.out.2.size
  have h4:=hgr.size
  rcases hb with hb | hb
  ·have:=HT.out.2 b hb
   exact ⟨.inl hb,hgr.block b (by omega) (fun e=>by injection e with e;omega)⟩
  ·exact ⟨.inr ⟨by omega,by omega⟩,hgr.block b hb.2 (fun e=>by injection e with e;omega)⟩)
 generalize (((((((u3.setCell ⟨w.heap.size+1,0,none⟩ (.bool true)).setCell ⟨w.heap.size+1,1,none⟩ (.int .i64 5)).setCell ⟨w.heap.size+1,2,none⟩ (.string ⟨#[116,121,112,101,95,101,114,114,111,114]⟩)).setCell ⟨w.heap.size+1,3,none⟩ (.string ⟨#[]⟩)).setCell ⟨w.heap.size+1,4,none⟩ (.int .u64 0)).setCell ⟨w.heap.size+1,5,none⟩ (.int .i64 0)).setCell ⟨w.heap.size+1,6,none⟩ (.slice A' 2 c'))=w9 at *
 obtain ⟨r0,r1,r2,r3,r4,r5,r6⟩:=hbx.cells (nb:=⟨#[116,121,112,101,95,101,114,114,111,114]⟩) (mb:=⟨#[]⟩) rfl rfl
 exact bodyPost_ret (v:=.agg #[.bool true,.int .i64 5,.string ⟨#[116,121,112,101,95,101,114,114,111,114]⟩,.string ⟨#[]⟩,.int .u64 0,.int .i64 0,.slice A' 2 c']) (by simp [results,Tryd.results43,go_sem,r0,r1,r2,r3,r4,r5,r6]) rfl ⟨A',c',rfl,htw,hbw⟩
set_option maxRecDepth 100000 in
set_option maxHeartbeats 4000000 in
theorem Fatom_any {w:World} {s a:List UInt8} {sb ab:ByteArray} (hs:(⟨s.toArray⟩:ByteArray)=sb) (ha:(⟨a.toArray⟩:ByteArray)=ab) (hsl:s.length≤maxLen) (hal:a.length≤maxLen) :
  Calls Tryd.prog 67 #[.string sb,.slice (some ⟨w.heap.size,0,none⟩) 1 1] (w.alloc (.cells #[.int .i64 2,.string ab,.string ⟨#[]⟩,.int .u64 0,.int .i64 0,.slice none 0 0] 25)) fun e w'=>∃ A' c',e = .returned (.agg #[.int .i64 5,.string sb,.string ⟨#[]⟩,.int .u64 0,.int .i64 0,.slice A' 1 c'])∧TAtP w' (fun b=>w.heap.size≤b∧b<w'.heap.size) (cmpT s [atomT a]) (.slice A' 1 c')∧Below w.heap.size w w':=by
 have hb:Below w.heap.size w (w.alloc (.cells #[.int .i64 2,.string ab,.string ⟨#[]⟩,.int .u64 0,.int .i64 0,.slice none 0 0] 25)):=(Below.refl _ _).alloc (Nat.le_refl _) _
 have hsz:(w.alloc (.cells #[.int .i64 2,.string ab,.string ⟨#[]⟩,.int .u64 0,.int .i64 0,.slice none 0 0] 25)).heap.size=w.heap.size+1:=by simp
 have hr:RowP (w.alloc (.cells #[.int .i64 2,.string ab,.string ⟨#[]⟩,.int .u64 0,.int .i64 0,.slice none 0 0] 25)) (fun _=>False) (some ⟨w.heap.size,0,none⟩) 1 [(atomT a,Value.slice none 0 0)]:=rowP_at (heap_alloc_new w _) (by rw [←ha];rfl) rfl (mem1 (atom_at _ _ hal))
 refine (F_any hr (fun b hb=>hb.elim) (by omega) (by unfold maxArgs;omega) (c:=1) sb).mono ?_
 rintro e w' ⟨A',c',rfl,ho,hb2⟩
 have h2:=hb2.size
 exact ⟨A',c',rfl,(ho.wide (Q:=fun b=>w.heap.size≤b∧b<w'.heap.size) (fun b hb=>hb.elim)).termP (t:=cmpT s [atomT a]) (fun b h1 h2=>⟨by omega,h2⟩) rfl (by unfold maxArgs;omega) (okF_cmp hsl),hb.trans (hb2.mono (by omega))⟩
set_option maxRecDepth 100000 in
set_option maxHeartbeats 4000000 in
theorem rwhole_bad {w:World} {k v b:Int} {n m:List UInt8} {ts:List Tm} {nb mb:ByteArray} {A:Option Addr} {L c:Nat} {k2 v2 b2:Int} {n2 m2:List UInt8} {ts2:List Tm} {nb2 mb2:ByteArray} {A2:Option Addr} {L2 c2:Nat} (hn:(⟨n.toArray⟩:ByteArray)=nb) (hm:(⟨m.toArray⟩:ByteArray)=mb) (hn2:(⟨n2.toArray⟩:ByteArray)=nb2) (hm2:(⟨m2.toArray⟩:ByteArray)=mb2) :
  Calls Tryd.prog 50 #[.agg #[.int .i64 k,.string nb,.string mb,.int .u64 b,.int .i64 v,.slice A L c],.agg #[.bool true,.int .i64 k2,.string nb2,.string mb2,.int .u64 b2,.int .i64 v2,.slice A2 L2 c2]] w fun e w'=>e = .returned (.tuple #[.agg #[.int .i64 0,.string ⟨#[]⟩,.string ⟨#[]⟩,.int .u64 0,.int .i64 0,.slice none 0 0],.agg #[.bool true,.int .i64 k2,.string nb2,.string mb2,.int .u64 b2,.int .i64 v2,.slice A2 L2 c2]])∧Below w.heap.size w w':=by
 obtain ⟨W1,hW1⟩:∃ W,w.alloc (.cells #[.int .i64 k,.string nb,.string mb,.int .u64 b,.int .i64 v,.slice A L c] 25)=W:=⟨_,rfl⟩
 have d1:Below w.heap.size w W1:=by rw [←hW1];exact (Below.refl _ _).alloc (Nat.le_refl _) _
 have s1:W1.heap.size=w.heap.size+1:=by rw [←hW1];simp
 have X1:TBox W1 w.heap.size (.mk k n m b v ts) (.slice A L c):=by rw [←hW1];exact TBox.new w hn hm
 obtain ⟨W2,hW2⟩:∃ W,W1.alloc (.cells #[.bool true,.int .i64 k2,.string nb2,.string mb2,.int .u64 b2,.int .i64 v2,.slice A2 L2 c2] 35)=W:=⟨_,rfl⟩
 have d2:Below W1.heap.size W1 W2:=by rw [←hW2];exact (Below.refl _ _).alloc (Nat.le_refl _) _
 have s2:W2.heap.size=W1.heap.size+1:=by rw [←hW2];simp
 have X2:BBox W2 W1.heap.size true (.mk k2 n2 m2 b2 v2 ts2) (.slice A2 L2 c2):=by rw [←hW2];exact BBox.new W1 hn2 hm2
 obtain ⟨W3,hW3⟩:∃ W,W2.alloc (.cells #[.int .i64 0,.string ⟨#[]⟩,.string ⟨#[]⟩,.int .u64 0,.int .i64 0,.slice none 0 0] 25)=W:=⟨_,rfl⟩
 have d3:Below W2.heap.size W2 W3:=by rw [←hW3];exact (Below.refl _ _).alloc (Nat.le_refl _) _
 have s3:W3.heap.size=W2.heap.size+1:=by rw [←hW3];simp
 have X3:TBox W3 W2.heap.size zeroT (.slice none 0 0):=by rw [←hW3];exact heap_alloc_new W2 _
 obtain ⟨W4,hW4⟩:∃ W,W3.alloc (.cells #[.bool false,.int .i64 0,.string ⟨#[]⟩,.string ⟨#[]⟩,.int .u64 0,.int .i64 0,.slice none 0 0] 35)=W:=⟨_,rfl⟩
 have d4:Below W3.heap.size W3 W4:=by rw [←hW4];exact (Below.refl _ _).alloc (Nat.le_refl _) _
 have s4:W4.heap.size=W3.heap.size+1:=by rw [←hW4];simp
 have X4:BBox W4 W3.heap.size false zeroT (.slice none 0 0):=by rw [←hW4];exact heap_alloc_new W3 _
 replace X1:=X1.below d2
 replace X1:=X1.below d3
 replace X1:=X1.below d4
 replace X2:=X2.below d3
 replace X2:=X2.below d4
 replace X3:=X3.below d4
 have hb0:Below w.heap.size w W4:=d1.trans ((d2.trans ((d3.trans ((d4).mono (by omega))).mono (by omega))).mono (by omega))
 have hsz0:W4.heap.size=w.heap.size+1+1+1+1:=by omega
 rw [s1] at X2
 rw [s2,s1] at X3
 rw [s3,s2,s1] at X4
 have HX:=Lib.hid (And.intro X1 (And.intro X2 (And.intro X3 (And.intro X4 (And.intro hb0 hsz0)))))
 subst hW1 hW2 hW3 hW4
 clear X1 d1 s1 X2 d2 s2 X3 d3 s3 X4 d4 s4 hb0 hsz0
 have HM:=Lib.hid (And.intro hn (And.intro hm (And.intro hn2 hm2)))
 obtain ⟨y0,y1,y2,y3,y4,y5,y6⟩:=(HX.out.2.1).cells hn2 hm2
 obtain ⟨x0,x1,x2,x3,x4,x5⟩:=(HX.out.1).cells hn hm
 clear hn hm hn2 hm2
 go_enter Tryd.func50,Tryd.ntmps50
 go_upto_region 4 with fail
 generalize ((((w.alloc (.cells #[.int .i64 k,.string nb,.string mb,.int .u64 b,.int .i64 v,.slice A L c] 25)).alloc (.cells #[.bool true,.int .i64 k2,.string nb2,.string mb2,.int .u64 b2,.int .i64 v2,.slice A2 L2 c2] 35)).alloc (.cells #[.int .i64 0,.string ⟨#[]⟩,.string ⟨#[]⟩,.int .u64 0,.int .i64 0,.slice none 0 0] 25)).alloc (.cells #[.bool false,.int .i64 0,.string ⟨#[]⟩,.string ⟨#[]⟩,.int .u64 0,.int .i64 0,.slice none 0 0] 35))=u0 at *
 clear x0 x1 x2 x3 x4 x5 y0 y1 y2 y3 y4 y5 y6
 have HSS:=Lib.hid (show ∀ z,u0.grownBy z (some (w.heap.size+1+1))→((z.cell? ⟨w.heap.size,0,none⟩=some (.int .i64 k)∧z.cell? ⟨w.heap.size,1,none⟩=some (.string nb)∧z.cell? ⟨w.heap.size,2,none⟩=some (.string mb)∧z.cell? ⟨w.heap.size,3,none⟩=some (.int .u64 b)∧z.cell? ⟨w.heap.size,4,none⟩=some (.int .i64 v)∧z.cell? ⟨w.heap.size,5,none⟩=some (.slice A L c))∧(z.cell? ⟨w.heap.size+1,0,none⟩=some (.bool true)∧z.cell? ⟨w.heap.size+1,1,none⟩=some (.int .i64 k2)∧z.cell? ⟨w.heap.size+1,2,none⟩=some (.string nb2)∧z.cell? ⟨w.heap.size+1,3,none⟩=some (.string mb2)∧z.cell? ⟨w.heap.size+1,4,none⟩=some (.int .u64 b2)∧z.cell? ⟨w.heap.size+1,5,none⟩=some (.int .i64 v2)∧z.cell? ⟨w.heap.size+1,6,none⟩=some (.slice A2 L2 c2))) from fun z hb=>⟨(HX.out.1.gro hb (by omega)).cells HM.out.1 HM.out.2.1,(HX.out.2.1.gro hb (by omega)).cells HM.out.2.2.1 HM.out.2.2.2⟩)
 have HB3:=Lib.hid (HX.out.2.2.1)
 have HB4:=Lib.hid (HX.out.2.2.2.1)
 have HBl:=Lib.hid (HX.out.2.2.2.2.1)
 refine wp_region_wait (fun z=>((z.cell? ⟨w.heap.size,0,none⟩=some (.int .i64 k)∧z.cell? ⟨w.heap.size,1,none⟩=some (.string nb)∧z.cell? ⟨w.heap.size,2,none⟩=some (.string mb)∧z.cell? ⟨w.heap.size,3,none⟩=some (.int .u64 b)∧z.cell? ⟨w.heap.size,4,none⟩=some (.int .i64 v)∧z.cell? ⟨w.heap.size,5,none⟩=some (.slice A L c))∧(z.cell? ⟨w.heap.size+1,0,none⟩=some (.bool true)∧z.cell? ⟨w.heap.size+1,1,none⟩=some (.int .i64 k2)∧z.cell? ⟨w.heap.size+1,2,none⟩=some (.string nb2)∧z.cell? ⟨w.heap.size+1,3,none⟩=some (.string mb2)∧z.cell? ⟨w.heap.size+1,4,none⟩=some (.int .u64 b2)∧z.cell? ⟨w.heap.size+1,5,none⟩=some (.int .i64 v2)∧z.cell? ⟨w.heap.size+1,6,none⟩=some (.slice A2 L2 c2)))) 3 (by kernel_rfl) ?_
 change wpAnyW _ _ _ _ _ _ _ _ _ u0.drew
 have KK:=Lib.hid (below_drew' u0)
 generalize u0.drew=v0 at *
 have KG:=Lib.hid (grown_below (r:=some (w.heap.size+1+1)) KK.out)
 refine w3 3 0 (.agg #[.int .i64 0,.string ⟨#[]⟩,.string ⟨#[]⟩,.int .u64 0,.int .i64 0,.slice none 0 0]) (HSS.out _ KG.out) ?_ ?_
 ·intro w5 hSw
  obtain ⟨⟨p0,p1,p2,p3,p4,p5⟩,⟨q0,q1,q2,q3,q4,q5,q6⟩⟩:=hSw
  go_simp
 refine w3 3 1 (.agg #[.bool true,.int .i64 k2,.string nb2,.string mb2,.int .u64 b2,.int .i64 v2,.slice A2 L2 c2]) (HSS.out _ KG.out) ?_ ?_
 ·intro w5 hSw
  obtain ⟨⟨p0,p1,p2,p3,p4,p5⟩,⟨q0,q1,q2,q3,q4,q5,q6⟩⟩:=hSw
  go_simp
 refine w1 2 fun K hK=>?_
 obtain ⟨a0,a1,a2,a3,a4,a5⟩:=(HB3.out.below KK.out).cells rfl rfl
 obtain ⟨f0,f1,f2,f3,f4,f5⟩:=(HB3.out.below KK.out).frozens
 go_simp
 clear a0 a1 a2 a3 a4 a5 f0 f1 f2 f3 f4 f5
 obtain ⟨hbx,hgr⟩:=(HB3.out.below KK.out).set6 (k:=0) (b:=0) (v:=0) (n:=[]) (m:=[]) [] (.slice none 0 0) (nb:=⟨#[]⟩) (mb:=⟨#[]⟩) rfl rfl
 have HG3:=Lib.hid (And.intro hbx (And.intro ((HB4.out.below KK.out).gro hgr (by omega)) ((HBl.out.trans (KK.out.mono HBl.out.size)).grown hgr (HBl.out.trans (KK.out.mono HBl.out.size)).size (fun j e=>by injection e with e;omega))))
 have HG3b:=Lib.hid hgr
 clear hbx hgr
 refine hK.out _ _ (fun _=>HSS.out _ (grown_trans KG.out HG3b.out)) ?_
 generalize ((((((v0.setCell ⟨w.heap.size+1+1,0,none⟩ (.int .i64 0)).setCell ⟨w.heap.size+1+1,1,none⟩ (.string ⟨#[]⟩)).setCell ⟨w.heap.size+1+1,2,none⟩ (.string ⟨#[]⟩)).setCell ⟨w.heap.size+1+1,3,none⟩ (.int .u64 0)).setCell ⟨w.heap.size+1+1,4,none⟩ (.int .i64 0)).setCell ⟨w.heap.size+1+1,5,none⟩ (.slice none 0 0))=z1 at *
 refine w1 3 fun K hK=>?_
 obtain ⟨a0,a1,a2,a3,a4,a5,a6⟩:=HG3.out.2.1.cells rfl rfl
 obtain ⟨f0,f1,f2,f3,f4,f5,f6⟩:=HG3.out.2.1.frozens
 go_simp
 clear a0 a1 a2 a3 a4 a5 a6 f0 f1 f2 f3 f4 f5 f6
 refine hK.out _ _ (fun h=>absurd h (by simp)) ?_
 refine wpAnyW_done (by kernel_rfl) ?_ _
 go_wp2
 obtain ⟨hbx,hgr⟩:=HG3.out.2.1.set7 true (k:=k2) (b:=b2) (v:=v2) (n:=n2) (m:=m2) ts2 (.slice A2 L2 c2) HM.out.2.2.1 HM.out.2.2.2
 have HG4:=Lib.hid (And.intro (HG3.out.1.gro hgr (by omega)) (HG3.out.2.2.grown hgr HG3.out.2.2.size (fun j e=>by injection e with e;omega)))
 generalize (((((((z1.setCell ⟨w.heap.size+1+1+1,0,none⟩ (.bool true)).setCell ⟨w.heap.size+1+1+1,1,none⟩ (.int .i64 k2)).setCell ⟨w.heap.size+1+1+1,2,none⟩ (.string nb2)).setCell ⟨w.heap.size+1+1+1,3,none⟩ (.string mb2)).setCell ⟨w.heap.size+1+1+1,4,none⟩ (.int .u64 b2)).setCell ⟨w.heap.size+1+1+1,5,none⟩ (.int .i64 v2)).setCell ⟨w.heap.size+1+1+1,6,none⟩ (.slice A2 L2 c2))=z2 at *
 obtain ⟨r0,r1,r2,r3,r4,r5⟩:=HG4.out.1.cells rfl rfl
 obtain ⟨q0,q1,q2,q3,q4,q5,q6⟩:=hbx.cells HM.out.2.2.1 HM.out.2.2.2
 exact bodyPost_ret (v:=.tuple #[.agg #[.int .i64 0,.string ⟨#[]⟩,.string ⟨#[]⟩,.int .u64 0,.int .i64 0,.slice none 0 0],.agg #[.bool true,.int .i64 k2,.string nb2,.string mb2,.int .u64 b2,.int .i64 v2,.slice A2 L2 c2]]) (by simp [results,Tryd.results50,go_sem,r0,r1,r2,r3,r4,r5,q0,q1,q2,q3,q4,q5,q6]) rfl ⟨rfl,HG4.out.2⟩
set_option maxRecDepth 100000 in
set_option maxHeartbeats 4000000 in
theorem rwhole_big {w:World} {k v b:Int} {n m:List UInt8} {ts:List Tm} {nb mb:ByteArray} {A:Option Addr} {L c:Nat} {k2 v2 b2:Int} {n2 m2:List UInt8} {ts2:List Tm} {nb2 mb2:ByteArray} {A2:Option Addr} {L2 c2:Nat} (hn:(⟨n.toArray⟩:ByteArray)=nb) (hm:(⟨m.toArray⟩:ByteArray)=mb) (hn2:(⟨n2.toArray⟩:ByteArray)=nb2) (hm2:(⟨m2.toArray⟩:ByteArray)=mb2) (h1:TAt w w.heap.size (.mk k n m b v ts) (.slice A L c)) (hzz:4000<nodes (.mk k n m b v ts)) :
  Calls Tryd.prog 50 #[.agg #[.int .i64 k,.string nb,.string mb,.int .u64 b,.int .i64 v,.slice A L c],.agg #[.bool false,.int .i64 k2,.string nb2,.string mb2,.int .u64 b2,.int .i64 v2,.slice A2 L2 c2]] w fun e w'=>∃ sn,e = .returned (.tuple #[.agg #[.int .i64 0,.string ⟨#[]⟩,.string ⟨#[]⟩,.int .u64 0,.int .i64 0,.slice none 0 0],.agg #[.bool true,.int .i64 5,.string ⟨#[114,101,115,111,117,114,99,101,95,101,114,114,111,114]⟩,.string ⟨#[]⟩,.int .u64 0,.int .i64 0,sn]])∧TAtP w' (fun b=>w.heap.size≤b∧b<w'.heap.size) nodesT sn∧Below w.heap.size w w':=by
 obtain ⟨W1,hW1⟩:∃ W,w.alloc (.cells #[.int .i64 k,.string nb,.string mb,.int .u64 b,.int .i64 v,.slice A L c] 25)=W:=⟨_,rfl⟩
 have d1:Below w.heap.size w W1:=by rw [←hW1];exact (Below.refl _ _).alloc (Nat.le_refl _) _
 have s1:W1.heap.size=w.heap.size+1:=by rw [←hW1];simp
 have X1:TBox W1 w.heap.size (.mk k n m b v ts) (.slice A L c):=by rw [←hW1];exact TBox.new w hn hm
 obtain ⟨W2,hW2⟩:∃ W,W1.alloc (.cells #[.bool false,.int .i64 k2,.string nb2,.string mb2,.int .u64 b2,.int .i64 v2,.slice A2 L2 c2] 35)=W:=⟨_,rfl⟩
 have d2:Below W1.heap.size W1 W2:=by rw [←hW2];exact (Below.refl _ _).alloc (Nat.le_refl _) _
 have s2:W2.heap.size=W1.heap.size+1:=by rw [←hW2];simp
 have X2:BBox W2 W1.heap.size false (.mk k2 n2 m2 b2 v2 ts2) (.slice A2 L2 c2):=by rw [←hW2];exact BBox.new W1 hn2 hm2
 obtain ⟨W3,hW3⟩:∃ W,W2.alloc (.cells #[.int .i64 0,.string ⟨#[]⟩,.string ⟨#[]⟩,.int .u64 0,.int .i64 0,.slice none 0 0] 25)=W:=⟨_,rfl⟩
 have d3:Below W2.heap.size W2 W3:=by rw [←hW3];exact (Below.refl _ _).alloc (Nat.le_refl _) _
 have s3:W3.heap.size=W2.heap.size+1:=by rw [←hW3];simp
 have X3:TBox W3 W2.heap.size zeroT (.slice none 0 0):=by rw [←hW3];exact heap_alloc_new W2 _
 obtain ⟨W4,hW4⟩:∃ W,W3.alloc (.cells #[.bool false,.int .i64 0,.string ⟨#[]⟩,.string ⟨#[]⟩,.int .u64 0,.int .i64 0,.slice none 0 0] 35)=W:=⟨_,rfl⟩
 have d4:Below W3.heap.size W3 W4:=by rw [←hW4];exact (Below.refl _ _).alloc (Nat.le_refl _) _
 have s4:W4.heap.size=W3.heap.size+1:=by rw [←hW4];simp
 have X4:BBox W4 W3.heap.size false zeroT (.slice none 0 0):=by rw [←hW4];exact heap_alloc_new W3 _
 replace X1:=X1.below d2
 replace X1:=X1.below d3
 replace X1:=X1.below d4
 replace X2:=X2.below d3
 replace X2:=X2.below d4
 replace X3:=X3.below d4
 have hb0:Below w.heap.size w W4:=d1.trans ((d2.trans ((d3.trans ((d4).mono (by omega))).mono (by omega))).mono (by omega))
 have hsz0:W4.heap.size=w.heap.size+1+1+1+1:=by omega
 rw [s1] at X2
 rw [s2,s1] at X3
 rw [s3,s2,s1] at X4
 have HX:=Lib.hid (And.intro X1 (And.intro X2 (And.intro X3 (And.intro X4 (And.intro hb0 hsz0)))))
 subst hW1 hW2 hW3 hW4
 clear X1 d1 s1 X2 d2 s2 X3 d3 s3 X4 d4 s4 hb0 hsz0
 have HM:=Lib.hid (And.intro hn (And.intro hm (And.intro hn2 hm2)))
 have hNo:=rNodes_any (h1.to (HX.out.2.2.2.2.1) (HX.out.2.2.2.2.1).size)
 obtain ⟨z,hz⟩:∃ z,nodes (.mk k n m b v ts)=z:=⟨_,rfl⟩
 rw [valT_mk hn hm,hz] at hNo
 rw [hz] at hzz
 have hzI:(4000:Int)<(z:Int):=by omega
 have HNo:=Lib.hid hNo
 clear hNo hz h1 hzz
 obtain ⟨y0,y1,y2,y3,y4,y5,y6⟩:=(HX.out.2.1).cells hn2 hm2
 obtain ⟨x0,x1,x2,x3,x4,x5⟩:=(HX.out.1).cells hn hm
 clear hn hm hn2 hm2
 go_enter Tryd.func50,Tryd.ntmps50
 go_upto_region 2 with (go_at_call 40;(with_reducible refine HNo.out.mono ?_);rintro e u1 ⟨rfl,hb⟩;obtain ⟨e0,e1,e2,e3,e4,e5,e6⟩:=((HX.out.2.1).below hb).cells HM.out.2.2.1 HM.out.2.2.2;have HB1:=Lib.hid hb;clear hb)
 clear e0 e1 e2 e3 e4 e5 e6 x0 x1 x2 x3 x4 x5 y0 y1 y2 y3 y4 y5 y6
 have HX1:=Lib.hid (And.intro ((HX.out.1).below HB1.out) (And.intro ((HX.out.2.1).below HB1.out) (And.intro ((HX.out.2.2.1).below HB1.out) (And.intro ((HX.out.2.2.2.1).below HB1.out) ((HX.out.2.2.2.2.1).trans (HB1.out.mono (HX.out.2.2.2.2.1).size))))))
 clear hzI HNo
 obtain ⟨y0,y1,y2,y3,y4,y5,y6⟩:=HX1.out.2.1.cells HM.out.2.2.1 HM.out.2.2.2
 go_wp2_with fail
 (with_reducible refine (A_any _ _).mono ?_)
 rintro e u3 ⟨rfl,hb⟩
 have HB3:=Lib.hid hb
 clear hb
 go_wp2_with fail
 (with_reducible refine (Fatom_any (w:=u3) (s:=sRes) (a:=sNodes) (sb:=⟨#[114,101,115,111,117,114,99,101,95,101,114,114,111,114]⟩) (ab:=⟨#[110,111,100,101,115]⟩) rfl rfl (by decide) (by decide)).mono ?_)
 rintro e u4 ⟨A',c',rfl,ht,hb⟩
 have HT4:=Lib.hid (And.intro ht (And.intro (HB3.out.trans (hb.mono HB3.out.size)) HB3.out.size))
 clear ht hb
 go_wp2_with fail
 (with_reducible refine (rthrow_any (k:=5) (b:=0) (v:=0) (ts:=[]) (n:=sRes) (m:=[]) (nb:=⟨#[114,101,115,111,117,114,99,101,95,101,114,114,111,114]⟩) (mb:=⟨#[]⟩) rfl rfl).mono ?_)
 rintro e u5 ⟨rfl,hb⟩
 have hs:=HT4.out.2.1.size
 have hB5:=HT4.out.2.1.trans (hb.mono hs)
 have HT5:=Lib.hid (And.intro (show TAtP u5 (fun b=>u1.heap.size≤b∧b<u5.heap.size) nodesT (.slice A' 1 c') from TAtP.keep _ HT4.out.1 (fun b h=>⟨⟨Nat.le_trans HT4.out.2.2 h.1,Nat.lt_of_lt_of_le h.2 hb.size⟩,hb.block b h.2⟩)) (And.intro hB5 (HX1.out.2.1.below hB5)))
 clear y0 y1 y2 y3 y4 y5 y6 hs hB5 hb
 obtain ⟨a0,a1,a2,a3,a4,a5,a6⟩:=HT5.out.2.2.cells HM.out.2.2.1 HM.out.2.2.2
 obtain ⟨f0,f1,f2,f3,f4,f5,f6⟩:=HT5.out.2.2.frozens
 go_upto_region 4 with fail
 clear a0 a1 a2 a3 a4 a5 a6 f0 f1 f2 f3 f4 f5 f6
 obtain ⟨hbx,hgr⟩:=HT5.out.2.2.set7 true (k:=5) (b:=0) (v:=0) (n:=sRes) (m:=[]) [] (.slice A' 1 c') (nb:=⟨#[114,101,115,111,117,114,99,101,95,101,114,114,111,114]⟩) (mb:=⟨#[]⟩) rfl rfl
 have hlt:=HX1.out.2.2.2.1.lt
 have HX6:=Lib.hid (show ∀ z,(((((((u5.setCell ⟨w.heap.size+1,0,none⟩ (.bool true)).setCell ⟨w.heap.size+1,1,none⟩ (.int .i64 5)).setCell ⟨w.heap.size+1,2,none⟩ (.string ⟨#[114,101,115,111,117,114,99,101,95,101,114,114,111,114]⟩)).setCell ⟨w.heap.size+1,3,none⟩ (.string ⟨#[]⟩)).setCell ⟨w.heap.size+1,4,none⟩ (.int .u64 0)).setCell ⟨w.heap.size+1,5,none⟩ (.int .i64 0)).setCell ⟨w.heap.size+1,6,none⟩ (.slice A' 1 c'))=z→TBox z (w.heap.size) (.mk k n m b v ts) (.slice A L c)∧BBox z (w.heap.size+1) true (cmpT sRes []) (.slice A' 1 c')∧TBox z (w.heap.size+1+1) zeroT (.slice none 0 0)∧BBox z (w.heap.size+1+1+1) false zeroT (.slice none 0 0)∧Below w.heap.size w z∧TAtP z (fun b=>w.heap.size+1+1+1<b∧b<z.heap.size) nodesT (.slice A' 1 c') from fun z e=>by
  rw [←e]
  have hB5:=HT5.out.2.1
  exact ⟨(HX1.out.1.below hB5).gro hgr (by omega),hbx,(HX1.out.2.2.1.below hB5).gro hgr (by omega),(HX1.out.2.2.2.1.below hB5).gro hgr (by omega),(HX1.out.2.2.2.2.trans (hB5.mono HX1.out.2.2.2.2.size)).grown hgr (HX1.out.2.2.2.2.trans (hB5.mono HX1.out.2.2.2.2.size)).size (fun j e=>by injection e with e;omega),TAtP.keep _ HT5.out.1 (fun b h=>⟨⟨by omega,Nat.lt_of_lt_of_le h.2 hgr.size⟩,hgr.block b h.2 (fun e=>by injection e with e;omega)⟩)⟩)
 clear hbx hgr hlt
 generalize (((((((u5.setCell ⟨w.heap.size+1,0,none⟩ (.bool true)).setCell ⟨w.heap.size+1,1,none⟩ (.int .i64 5)).setCell ⟨w.heap.size+1,2,none⟩ (.string ⟨#[114,101,115,111,117,114,99,101,95,101,114,114,111,114]⟩)).setCell ⟨w.heap.size+1,3,none⟩ (.string ⟨#[]⟩)).setCell ⟨w.heap.size+1,4,none⟩ (.int .u64 0)).setCell ⟨w.heap.size+1,5,none⟩ (.int .i64 0)).setCell ⟨w.heap.size+1,6,none⟩ (.slice A' 1 c'))=u6 at *
 replace HX6:=Lib.hid (HX6.out _ rfl)
 have HSS:=Lib.hid (show ∀ z,u6.grownBy z (some (w.heap.size+1+1))→((z.cell? ⟨w.heap.size,0,none⟩=some (.int .i64 k)∧z.cell? ⟨w.heap.size,1,none⟩=some (.string nb)∧z.cell? ⟨w.heap.size,2,none⟩=some (.string mb)∧z.cell? ⟨w.heap.size,3,none⟩=some (.int .u64 b)∧z.cell? ⟨w.heap.size,4,none⟩=some (.int .i64 v)∧z.cell? ⟨w.heap.size,5,none⟩=some (.slice A L c))∧(z.cell? ⟨w.heap.size+1,0,none⟩=some (.bool true)∧z.cell? ⟨w.heap.size+1,1,none⟩=some (.int .i64 5)∧z.cell? ⟨w.heap.size+1,2,none⟩=some (.string ⟨#[114,101,115,111,117,114,99,101,95,101,114,114,111,114]⟩)∧z.cell? ⟨w.heap.size+1,3,none⟩=some (.string ⟨#[]⟩)∧z.cell? ⟨w.heap.size+1,4,none⟩=some (.int .u64 0)∧z.cell? ⟨w.heap.size+1,5,none⟩=some (.int .i64 0)∧z.cell? ⟨w.heap.size+1,6,none⟩=some (.slice A' 1 c'))) from fun z hb=>⟨(HX6.out.1.gro hb (by omega)).cells HM.out.1 HM.out.2.1,(HX6.out.2.1.gro hb (by omega)).cells (n:=sRes) (m:=[]) (nb:=⟨#[114,101,115,111,117,114,99,101,95,101,114,114,111,114]⟩) (mb:=⟨#[]⟩) rfl rfl⟩)
 have HB3:=Lib.hid (HX6.out.2.2.1)
 have HB4:=Lib.hid (HX6.out.2.2.2.1)
 have HBl:=Lib.hid (HX6.out.2.2.2.2.1)
 refine wp_region_wait (fun z=>((z.cell? ⟨w.heap.size,0,none⟩=some (.int .i64 k)∧z.cell? ⟨w.heap.size,1,none⟩=some (.string nb)∧z.cell? ⟨w.heap.size,2,none⟩=some (.string mb)∧z.cell? ⟨w.heap.size,3,none⟩=some (.int .u64 b)∧z.cell? ⟨w.heap.size,4,none⟩=some (.int .i64 v)∧z.cell? ⟨w.heap.size,5,none⟩=some (.slice A L c))∧(z.cell? ⟨w.heap.size+1,0,none⟩=some (.bool true)∧z.cell? ⟨w.heap.size+1,1,none⟩=some (.int .i64 5)∧z.cell? ⟨w.heap.size+1,2,none⟩=some (.string ⟨#[114,101,115,111,117,114,99,101,95,101,114,114,111,114]⟩)∧z.cell? ⟨w.heap.size+1,3,none⟩=some (.string ⟨#[]⟩)∧z.cell? ⟨w.heap.size+1,4,none⟩=some (.int .u64 0)∧z.cell? ⟨w.heap.size+1,5,none⟩=some (.int .i64 0)∧z.cell? ⟨w.heap.size+1,6,none⟩=some (.slice A' 1 c')))) 3 (by kernel_rfl) ?_
 change wpAnyW _ _ _ _ _ _ _ _ _ u6.drew
 have KK:=Lib.hid (below_drew' u6)
 generalize u6.drew=v0 at *
 have KG:=Lib.hid (grown_below (r:=some (w.heap.size+1+1)) KK.out)
 refine w3 3 0 (.agg #[.int .i64 0,.string ⟨#[]⟩,.string ⟨#[]⟩,.int .u64 0,.int .i64 0,.slice none 0 0]) (HSS.out _ KG.out) ?_ ?_
 ·intro w5 hSw
  obtain ⟨⟨p0,p1,p2,p3,p4,p5⟩,⟨q0,q1,q2,q3,q4,q5,q6⟩⟩:=hSw
  go_simp
 refine w3 3 1 (.agg #[.bool true,.int .i64 5,.string ⟨#[114,101,115,111,117,114,99,101,95,101,114,114,111,114]⟩,.string ⟨#[]⟩,.int .u64 0,.int .i64 0,.slice A' 1 c']) (HSS.out _ KG.out) ?_ ?_
 ·intro w5 hSw
  obtain ⟨⟨p0,p1,p2,p3,p4,p5⟩,⟨q0,q1,q2,q3,q4,q5,q6⟩⟩:=hSw
  go_simp
 refine w1 2 fun K hK=>?_
 obtain ⟨a0,a1,a2,a3,a4,a5⟩:=(HB3.out.below KK.out).cells rfl rfl
 obtain ⟨f0,f1,f2,f3,f4,f5⟩:=(HB3.out.below KK.out).frozens
 go_simp
 clear a0 a1 a2 a3 a4 a5 f0 f1 f2 f3 f4 f5
 obtain ⟨hbx,hgr⟩:=(HB3.out.below KK.out).set6 (k:=0) (b:=0) (v:=0) (n:=[]) (m:=[]) [] (.slice none 0 0) (nb:=⟨#[]⟩) (mb:=⟨#[]⟩) rfl rfl
 have HG3:=Lib.hid (And.intro hbx (And.intro ((HB4.out.below KK.out).gro hgr (by omega)) ((HBl.out.trans (KK.out.mono HBl.out.size)).grown hgr (HBl.out.trans (KK.out.mono HBl.out.size)).size (fun j e=>by injection e with e;omega))))
 have HG3b:=Lib.hid hgr
 clear hbx hgr
 refine hK.out _ _ (fun _=>HSS.out _ (grown_trans KG.out HG3b.out)) ?_
 generalize ((((((v0.setCell ⟨w.heap.size+1+1,0,none⟩ (.int .i64 0)).setCell ⟨w.heap.size+1+1,1,none⟩ (.string ⟨#[]⟩)).setCell ⟨w.heap.size+1+1,2,none⟩ (.string ⟨#[]⟩)).setCell ⟨w.heap.size+1+1,3,none⟩ (.int .u64 0)).setCell ⟨w.heap.size+1+1,4,none⟩ (.int .i64 0)).setCell ⟨w.heap.size+1+1,5,none⟩ (.slice none 0 0))=z1 at *
 refine w1 3 fun K hK=>?_
 obtain ⟨a0,a1,a2,a3,a4,a5,a6⟩:=HG3.out.2.1.cells rfl rfl
 obtain ⟨f0,f1,f2,f3,f4,f5,f6⟩:=HG3.out.2.1.frozens
 go_simp
 clear a0 a1 a2 a3 a4 a5 a6 f0 f1 f2 f3 f4 f5 f6
 refine hK.out _ _ (fun h=>absurd h (by simp)) ?_
 refine wpAnyW_done (by kernel_rfl) ?_ _
 go_wp2
 obtain ⟨hbx,hgr⟩:=HG3.out.2.1.set7 true (k:=5) (b:=0) (v:=0) (n:=sRes) (m:=[]) [] (.slice A' 1 c') (nb:=⟨#[114,101,115,111,117,114,99,101,95,101,114,114,111,114]⟩) (mb:=⟨#[]⟩) rfl rfl
 have HG4:=Lib.hid (And.intro (HG3.out.1.gro hgr (by omega)) (HG3.out.2.2.grown hgr HG3.out.2.2.size (fun j e=>by injection e with e;omega)))
 have HT9:=Lib.hid (show TAtP (((((((z1.setCell ⟨w.heap.size+1+1+1,0,none⟩ (.bool true)).setCell ⟨w.heap.size+1+1+1,1,none⟩ (.int .i64 5)).setCell ⟨w.heap.size+1+1+1,2,none⟩ (.string ⟨#[114,101,115,111,117,114,99,101,95,101,114,114,111,114]⟩)).setCell ⟨w.heap.size+1+1+1,3,none⟩ (.string ⟨#[]⟩)).setCell ⟨w.heap.size+1+1+1,4,none⟩ (.int .u64 0)).setCell ⟨w.heap.size+1+1+1,5,none⟩ (.int .i64 0)).setCell ⟨w.heap.size+1+1+1,6,none⟩ (.slice A' 1 c')) (fun b=>w.heap.size≤b∧b<(((((((z1.setCell ⟨w.heap.size+1+1+1,0,none⟩ (.bool true)).setCell ⟨w.heap.size+1+1+1,1,none⟩ (.int .i64 5)).setCell ⟨w.heap.size+1+1+1,2,none⟩ (.string ⟨#[114,101,115,111,117,114,99,101,95,101,114,114,111,114]⟩)).setCell ⟨w.heap.size+1+1+1,3,none⟩ (.string ⟨#[]⟩)).setCell ⟨w.heap.size+1+1+1,4,none⟩ (.int .u64 0)).setCell ⟨w.heap.size+1+1+1,5,none⟩ (.int .i64 0)).setCell ⟨w.heap.size+1+1+1,6,none⟩ (.slice A' 1 c')).heap.size) nodesT (.slice A' 1 c') from TAtP.keep _ HX6.out.2.2.2.2.2 (fun b h=>by
  have h1:=KK.out.size
  have h2:=HG3b.out.size
  have h3:=hgr.size
  exact ⟨⟨by omega,by omega⟩,(hgr.block b (by omega) (fun e=>by injection e with e;omega)).trans ((HG3b.out.block b (by omega) (fun e=>by injection e with e;omega)).trans (KK.out.block b h.2))⟩))
 generalize (((((((z1.setCell ⟨w.heap.size+1+1+1,0,none⟩ (.bool true)).setCell ⟨w.heap.size+1+1+1,1,none⟩ (.int .i64 5)).setCell ⟨w.heap.size+1+1+1,2,none⟩ (.string ⟨#[114,101,115,111,117,114,99,101,95,101,114,114,111,114]⟩)).setCell ⟨w.heap.size+1+1+1,3,none⟩ (.string ⟨#[]⟩)).setCell ⟨w.heap.size+1+1+1,4,none⟩ (.int .u64 0)).setCell ⟨w.heap.size+1+1+1,5,none⟩ (.int .i64 0)).setCell ⟨w.heap.size+1+1+1,6,none⟩ (.slice A' 1 c'))=z2 at *
 obtain ⟨r0,r1,r2,r3,r4,r5⟩:=HG4.out.1.cells rfl rfl
 obtain ⟨q0,q1,q2,q3,q4,q5,q6⟩:=hbx.cells (n:=sRes) (m:=[]) (nb:=⟨#[114,101,115,111,117,114,99,101,95,101,114,114,111,114]⟩) (mb:=⟨#[]⟩) rfl rfl
 exact bodyPost_ret (v:=.tuple #[.agg #[.int .i64 0,.string ⟨#[]⟩,.string ⟨#[]⟩,.int .u64 0,.int .i64 0,.slice none 0 0],.agg #[.bool true,.int .i64 5,.string ⟨#[114,101,115,111,117,114,99,101,95,101,114,114,111,114]⟩,.string ⟨#[]⟩,.int .u64 0,.int .i64 0,.slice A' 1 c']]) (by simp [results,Tryd.results50,go_sem,r0,r1,r2,r3,r4,r5,q0,q1,q2,q3,q4,q5,q6]) rfl ⟨_,rfl,HT9.out,HG4.out.2⟩
set_option maxRecDepth 100000 in
set_option maxHeartbeats 4000000 in
theorem rwhole_ok {w:World} {k v b:Int} {n m:List UInt8} {ts:List Tm} {nb mb:ByteArray} {A:Option Addr} {L c:Nat} {k2 v2 b2:Int} {n2 m2:List UInt8} {ts2:List Tm} {nb2 mb2:ByteArray} {A2:Option Addr} {L2 c2:Nat} (hn:(⟨n.toArray⟩:ByteArray)=nb) (hm:(⟨m.toArray⟩:ByteArray)=mb) (hn2:(⟨n2.toArray⟩:ByteArray)=nb2) (hm2:(⟨m2.toArray⟩:ByteArray)=mb2) (h1:TAt w w.heap.size (.mk k n m b v ts) (.slice A L c)) (hzz:¬4000<nodes (.mk k n m b v ts)) :
  Calls Tryd.prog 50 #[.agg #[.int .i64 k,.string nb,.string mb,.int .u64 b,.int .i64 v,.slice A L c],.agg #[.bool false,.int .i64 k2,.string nb2,.string mb2,.int .u64 b2,.int .i64 v2,.slice A2 L2 c2]] w fun e w'=>e = .returned (.tuple #[.agg #[.int .i64 k,.string nb,.string mb,.int .u64 b,.int .i64 v,.slice A L c],.agg #[.bool false,.int .i64 k2,.string nb2,.string mb2,.int .u64 b2,.int .i64 v2,.slice A2 L2 c2]])∧Below w.heap.size w w':=by
 obtain ⟨W1,hW1⟩:∃ W,w.alloc (.cells #[.int .i64 k,.string nb,.string mb,.int .u64 b,.int .i64 v,.slice A L c] 25)=W:=⟨_,rfl⟩
 have d1:Below w.heap.size w W1:=by rw [←hW1];exact (Below.refl _ _).alloc (Nat.le_refl _) _
 have s1:W1.heap.size=w.heap.size+1:=by rw [←hW1];simp
 have X1:TBox W1 w.heap.size (.mk k n m b v ts) (.slice A L c):=by rw [←hW1];exact TBox.new w hn hm
 obtain ⟨W2,hW2⟩:∃ W,W1.alloc (.cells #[.bool false,.int .i64 k2,.string nb2,.string mb2,.int .u64 b2,.int .i64 v2,.slice A2 L2 c2] 35)=W:=⟨_,rfl⟩
 have d2:Below W1.heap.size W1 W2:=by rw [←hW2];exact (Below.refl _ _).alloc (Nat.le_refl _) _
 have s2:W2.heap.size=W1.heap.size+1:=by rw [←hW2];simp
 have X2:BBox W2 W1.heap.size false (.mk k2 n2 m2 b2 v2 ts2) (.slice A2 L2 c2):=by rw [←hW2];exact BBox.new W1 hn2 hm2
 obtain ⟨W3,hW3⟩:∃ W,W2.alloc (.cells #[.int .i64 0,.string ⟨#[]⟩,.string ⟨#[]⟩,.int .u64 0,.int .i64 0,.slice none 0 0] 25)=W:=⟨_,rfl⟩
 have d3:Below W2.heap.size W2 W3:=by rw [←hW3];exact (Below.refl _ _).alloc (Nat.le_refl _) _
 have s3:W3.heap.size=W2.heap.size+1:=by rw [←hW3];simp
 have X3:TBox W3 W2.heap.size zeroT (.slice none 0 0):=by rw [←hW3];exact heap_alloc_new W2 _
 obtain ⟨W4,hW4⟩:∃ W,W3.alloc (.cells #[.bool false,.int .i64 0,.string ⟨#[]⟩,.string ⟨#[]⟩,.int .u64 0,.int .i64 0,.slice none 0 0] 35)=W:=⟨_,rfl⟩
 have d4:Below W3.heap.size W3 W4:=by rw [←hW4];exact (Below.refl _ _).alloc (Nat.le_refl _) _
 have s4:W4.heap.size=W3.heap.size+1:=by rw [←hW4];simp
 have X4:BBox W4 W3.heap.size false zeroT (.slice none 0 0):=by rw [←hW4];exact heap_alloc_new W3 _
 replace X1:=X1.below d2
 replace X1:=X1.below d3
 replace X1:=X1.below d4
 replace X2:=X2.below d3
 replace X2:=X2.below d4
 replace X3:=X3.below d4
 have hb0:Below w.heap.size w W4:=d1.trans ((d2.trans ((d3.trans ((d4).mono (by omega))).mono (by omega))).mono (by omega))
 have hsz0:W4.heap.size=w.heap.size+1+1+1+1:=by omega
 rw [s1] at X2
 rw [s2,s1] at X3
 rw [s3,s2,s1] at X4
 have HX:=Lib.hid (And.intro X1 (And.intro X2 (And.intro X3 (And.intro X4 (And.intro hb0 hsz0)))))
 subst hW1 hW2 hW3 hW4
 clear X1 d1 s1 X2 d2 s2 X3 d3 s3 X4 d4 s4 hb0 hsz0
 have HM:=Lib.hid (And.intro hn (And.intro hm (And.intro hn2 hm2)))
 have hNo:=rNodes_any (h1.to (HX.out.2.2.2.2.1) (HX.out.2.2.2.2.1).size)
 obtain ⟨z,hz⟩:∃ z,nodes (.mk k n m b v ts)=z:=⟨_,rfl⟩
 rw [valT_mk hn hm,hz] at hNo
 rw [hz] at hzz
 have hzI:¬(4000:Int)<(z:Int):=by omega
 have HNo:=Lib.hid hNo
 clear hNo hz h1 hzz
 obtain ⟨y0,y1,y2,y3,y4,y5,y6⟩:=(HX.out.2.1).cells hn2 hm2
 obtain ⟨x0,x1,x2,x3,x4,x5⟩:=(HX.out.1).cells hn hm
 clear hn hm hn2 hm2
 go_enter Tryd.func50,Tryd.ntmps50
 go_upto_region 5 with (go_at_call 40;(with_reducible refine HNo.out.mono ?_);rintro e u1 ⟨rfl,hb⟩;obtain ⟨e0,e1,e2,e3,e4,e5,e6⟩:=((HX.out.2.1).below hb).cells HM.out.2.2.1 HM.out.2.2.2;have HB1:=Lib.hid hb;clear hb)
 clear e0 e1 e2 e3 e4 e5 e6 x0 x1 x2 x3 x4 x5 y0 y1 y2 y3 y4 y5 y6
 have HX1:=Lib.hid (And.intro ((HX.out.1).below HB1.out) (And.intro ((HX.out.2.1).below HB1.out) (And.intro ((HX.out.2.2.1).below HB1.out) (And.intro ((HX.out.2.2.2.1).below HB1.out) ((HX.out.2.2.2.2.1).trans (HB1.out.mono (HX.out.2.2.2.2.1).size))))))
 clear hzI HNo
 have HSS:=Lib.hid (show ∀ z,u1.grownBy z (some (w.heap.size+1+1))→((z.cell? ⟨w.heap.size,0,none⟩=some (.int .i64 k)∧z.cell? ⟨w.heap.size,1,none⟩=some (.string nb)∧z.cell? ⟨w.heap.size,2,none⟩=some (.string mb)∧z.cell? ⟨w.heap.size,3,none⟩=some (.int .u64 b)∧z.cell? ⟨w.heap.size,4,none⟩=some (.int .i64 v)∧z.cell? ⟨w.heap.size,5,none⟩=some (.slice A L c))∧(z.cell? ⟨w.heap.size+1,0,none⟩=some (.bool false)∧z.cell? ⟨w.heap.size+1,1,none⟩=some (.int .i64 k2)∧z.cell? ⟨w.heap.size+1,2,none⟩=some (.string nb2)∧z.cell? ⟨w.heap.size+1,3,none⟩=some (.string mb2)∧z.cell? ⟨w.heap.size+1,4,none⟩=some (.int .u64 b2)∧z.cell? ⟨w.heap.size+1,5,none⟩=some (.int .i64 v2)∧z.cell? ⟨w.heap.size+1,6,none⟩=some (.slice A2 L2 c2))) from fun z hb=>⟨(HX1.out.1.gro hb (by omega)).cells HM.out.1 HM.out.2.1,(HX1.out.2.1.gro hb (by omega)).cells HM.out.2.2.1 HM.out.2.2.2⟩)
 have HB3:=Lib.hid (HX1.out.2.2.1)
 have HB4:=Lib.hid (HX1.out.2.2.2.1)
 have HBl:=Lib.hid (HX1.out.2.2.2.2)
 refine wp_region_wait (fun z=>((z.cell? ⟨w.heap.size,0,none⟩=some (.int .i64 k)∧z.cell? ⟨w.heap.size,1,none⟩=some (.string nb)∧z.cell? ⟨w.heap.size,2,none⟩=some (.string mb)∧z.cell? ⟨w.heap.size,3,none⟩=some (.int .u64 b)∧z.cell? ⟨w.heap.size,4,none⟩=some (.int .i64 v)∧z.cell? ⟨w.heap.size,5,none⟩=some (.slice A L c))∧(z.cell? ⟨w.heap.size+1,0,none⟩=some (.bool false)∧z.cell? ⟨w.heap.size+1,1,none⟩=some (.int .i64 k2)∧z.cell? ⟨w.heap.size+1,2,none⟩=some (.string nb2)∧z.cell? ⟨w.heap.size+1,3,none⟩=some (.string mb2)∧z.cell? ⟨w.heap.size+1,4,none⟩=some (.int .u64 b2)∧z.cell? ⟨w.heap.size+1,5,none⟩=some (.int .i64 v2)∧z.cell? ⟨w.heap.size+1,6,none⟩=some (.slice A2 L2 c2)))) 3 (by kernel_rfl) ?_
 change wpAnyW _ _ _ _ _ _ _ _ _ u1.drew
 have KK:=Lib.hid (below_drew' u1)
 generalize u1.drew=v0 at *
 have KG:=Lib.hid (grown_below (r:=some (w.heap.size+1+1)) KK.out)
 refine w3 3 0 (.agg #[.int .i64 k,.string nb,.string mb,.int .u64 b,.int .i64 v,.slice A L c]) (HSS.out _ KG.out) ?_ ?_
 ·intro w5 hSw
  obtain ⟨⟨p0,p1,p2,p3,p4,p5⟩,⟨q0,q1,q2,q3,q4,q5,q6⟩⟩:=hSw
  go_simp
 refine w3 3 1 (.agg #[.bool false,.int .i64 k2,.string nb2,.string mb2,.int .u64 b2,.int .i64 v2,.slice A2 L2 c2]) (HSS.out _ KG.out) ?_ ?_
 ·intro w5 hSw
  obtain ⟨⟨p0,p1,p2,p3,p4,p5⟩,⟨q0,q1,q2,q3,q4,q5,q6⟩⟩:=hSw
  go_simp
 refine w1 2 fun K hK=>?_
 obtain ⟨a0,a1,a2,a3,a4,a5⟩:=(HB3.out.below KK.out).cells rfl rfl
 obtain ⟨f0,f1,f2,f3,f4,f5⟩:=(HB3.out.below KK.out).frozens
 go_simp
 clear a0 a1 a2 a3 a4 a5 f0 f1 f2 f3 f4 f5
 obtain ⟨hbx,hgr⟩:=(HB3.out.below KK.out).set6 (k:=k) (b:=b) (v:=v) (n:=n) (m:=m) ts (.slice A L c) HM.out.1 HM.out.2.1
 have HG3:=Lib.hid (And.intro hbx (And.intro ((HB4.out.below KK.out).gro hgr (by omega)) ((HBl.out.trans (KK.out.mono HBl.out.size)).grown hgr (HBl.out.trans (KK.out.mono HBl.out.size)).size (fun j e=>by injection e with e;omega))))
 have HG3b:=Lib.hid hgr
 clear hbx hgr
 refine hK.out _ _ (fun _=>HSS.out _ (grown_trans KG.out HG3b.out)) ?_
 generalize ((((((v0.setCell ⟨w.heap.size+1+1,0,none⟩ (.int .i64 k)).setCell ⟨w.heap.size+1+1,1,none⟩ (.string nb)).setCell ⟨w.heap.size+1+1,2,none⟩ (.string mb)).setCell ⟨w.heap.size+1+1,3,none⟩ (.int .u64 b)).setCell ⟨w.heap.size+1+1,4,none⟩ (.int .i64 v)).setCell ⟨w.heap.size+1+1,5,none⟩ (.slice A L c))=z1 at *
 refine w1 3 fun K hK=>?_
 obtain ⟨a0,a1,a2,a3,a4,a5,a6⟩:=HG3.out.2.1.cells rfl rfl
 obtain ⟨f0,f1,f2,f3,f4,f5,f6⟩:=HG3.out.2.1.frozens
 go_simp
 clear a0 a1 a2 a3 a4 a5 a6 f0 f1 f2 f3 f4 f5 f6
 refine hK.out _ _ (fun h=>absurd h (by simp)) ?_
 refine wpAnyW_done (by kernel_rfl) ?_ _
 go_wp2
 obtain ⟨hbx,hgr⟩:=HG3.out.2.1.set7 false (k:=k2) (b:=b2) (v:=v2) (n:=n2) (m:=m2) ts2 (.slice A2 L2 c2) HM.out.2.2.1 HM.out.2.2.2
 have HG4:=Lib.hid (And.intro (HG3.out.1.gro hgr (by omega)) (HG3.out.2.2.grown hgr HG3.out.2.2.size (fun j e=>by injection e with e;omega)))
 generalize (((((((z1.setCell ⟨w.heap.size+1+1+1,0,none⟩ (.bool false)).setCell ⟨w.heap.size+1+1+1,1,none⟩ (.int .i64 k2)).setCell ⟨w.heap.size+1+1+1,2,none⟩ (.string nb2)).setCell ⟨w.heap.size+1+1+1,3,none⟩ (.string mb2)).setCell ⟨w.heap.size+1+1+1,4,none⟩ (.int .u64 b2)).setCell ⟨w.heap.size+1+1+1,5,none⟩ (.int .i64 v2)).setCell ⟨w.heap.size+1+1+1,6,none⟩ (.slice A2 L2 c2))=z2 at *
 obtain ⟨r0,r1,r2,r3,r4,r5⟩:=HG4.out.1.cells HM.out.1 HM.out.2.1
 obtain ⟨q0,q1,q2,q3,q4,q5,q6⟩:=hbx.cells HM.out.2.2.1 HM.out.2.2.2
 exact bodyPost_ret (v:=.tuple #[.agg #[.int .i64 k,.string nb,.string mb,.int .u64 b,.int .i64 v,.slice A L c],.agg #[.bool false,.int .i64 k2,.string nb2,.string mb2,.int .u64 b2,.int .i64 v2,.slice A2 L2 c2]]) (by simp [results,Tryd.results50,go_sem,r0,r1,r2,r3,r4,r5,q0,q1,q2,q3,q4,q5,q6]) rfl ⟨rfl,HG4.out.2⟩
end Go.Proofs.YtgfeainpeplphaaDoor
