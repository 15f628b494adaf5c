import Derived.Below
import Derived.Shelf.Small.Bits
import Derived.Shelf.Unicode.ValidAny
import Derived.Lib.LaidU8T
import Derived.Deep.Strs
import Derived.Deep.Slices
import Derived.SizedLaws
import Derived.Deep.DeepHandedRow
import Derived.Deep.DeepWitnessRowRef
import Derived.Lib.LaidTab
import Derived.Lay
import Derived.Test.YtgfeainpeplphaaDoorTie
import Derived.Test.YtgfeainpeplphaaDoorCards
import Derived.ProofKit
import Derived.OpenShut
import Derived.JoinedCond
import Derived.JoinedOf
import Derived.JoinedAt
import Derived.ChangeSame
import Derived.ChangeSlices
import Derived.RowKit3
import Derived.Carry
import Derived.Lib.SmallJoins
import Derived.Test.YtgfeainpeplphaaDoorZ2
import Derived.Test.YtgfeainpeplphaaDoorZ4
import Derived.Test.YtgfeainpeplphaaDoorZ7
set_option linter.unusedVariables false
set_option linter.unusedSimpArgs false
namespace Go.Proofs.YtgfeainpeplphaaDoor
open Go.RowKit Hb Ht
attribute [local go_sem] Oper.semAt_some
theorem TRow.rowP {w:World} {B n c:Nat} {P:Nat→Prop} {A:Option Addr} {ps:List (Tm × Value)} (h:TRow w B P A n c ps):RowP w P A n ps:=by
 refine ⟨h.len,fun p hp=>(h.kid p hp).wide (fun b hb=>hb.1),fun hn=>?_⟩
 rcases h.block with ⟨_,h0⟩ | ⟨g,rfl,hB,hg,_⟩
 ·omega
 ·refine ⟨g,0,rfl,hg,fun j u hj=>?_⟩
  have h9:=World.ownsRow.cells h.own (g:=g) rfl _ _ hj
  rw [add_zero'] at h9
  rw [Nat.zero_add]
  exact h9
set_option maxRecDepth 100000 in
set_option maxHeartbeats 8000000 in
theorem rput_big {w:World} {P:Nat→Prop} {k1 v1 b1:Int} {n1 m1:List UInt8} {ts1:List Tm} {nb1 mb1:ByteArray} {A1:Option Addr} {L1 c1:Nat} {k2 v2 b2:Int} {n2 m2:List UInt8} {ts2:List Tm} {nb2 mb2:ByteArray} {A2:Option Addr} {L2 c2:Nat} {k3 v3 b3:Int} {n3 m3:List UInt8} {ts3:List Tm} {nb3 mb3:ByteArray} {A3:Option Addr} {L3 c3:Nat} (hn1:(⟨n1.toArray⟩:ByteArray)=nb1) (hm1:(⟨m1.toArray⟩:ByteArray)=mb1) (hL1:ts1.length=L1) (hn2:(⟨n2.toArray⟩:ByteArray)=nb2) (hm2:(⟨m2.toArray⟩:ByteArray)=mb2) (hL2:ts2.length=L2) (hn3:(⟨n3.toArray⟩:ByteArray)=nb3) (hm3:(⟨m3.toArray⟩:ByteArray)=mb3) (hL3:ts3.length=L3) (h1:TAtP w P (.mk k1 n1 m1 b1 v1 ts1) (.slice A1 L1 c1)) (h2:TAtP w P (.mk k2 n2 m2 b2 v2 ts2) (.slice A2 L2 c2)) (h3:TAtP w P (.mk k3 n3 m3 b3 v3 ts3) (.slice A3 L3 c3)) (hP:∀ b,P b→b<w.heap.size) (h62:62<L1) :
  Calls Tryd.prog 48 #[.agg #[.int .i64 k1,.string nb1,.string mb1,.int .u64 b1,.int .i64 v1,.slice A1 L1 c1],.agg #[.int .i64 k2,.string nb2,.string mb2,.int .u64 b2,.int .i64 v2,.slice A2 L2 c2],.agg #[.int .i64 k3,.string nb3,.string mb3,.int .u64 b3,.int .i64 v3,.slice A3 L3 c3]] w fun e w'=>∃ sn,e = .returned (.tuple #[.agg #[.int .i64 0,.string ⟨#[]⟩,.string ⟨#[]⟩,.int .u64 0,.int .i64 0,.slice none 0 0],.agg #[.bool true,.int .i64 5,.string ⟨#[114,101,112,114,101,115,101,110,116,97,116,105,111,110,95,101,114,114,111,114]⟩,.string ⟨#[]⟩,.int .u64 0,.int .i64 0,sn]])∧TAtP w' (fun b=>w.heap.size≤b∧b<w'.heap.size) arityT sn∧Below w.heap.size w w':=by
 have hx1:L1≤maxArgs:=by obtain ⟨_,_,_,_,_,h,_⟩:=TAtP.iff.1 h1;rw [←hL1];exact h
 have hLI:(62:Int)<(L1:Int):=by omega
 have hLI2:(L1:Int)≤1759218604400:=by unfold maxArgs at hx1;omega
 obtain ⟨W1,hW1⟩:∃ W,w.alloc (.cells #[.int .i64 k1,.string nb1,.string mb1,.int .u64 b1,.int .i64 v1,.slice A1 L1 c1] 25)=W:=⟨_,rfl⟩
 have d1:Below w.heap.size w W1:=by rw [←hW1];exact (Below.refl _ _).alloc (Nat.le_refl _) _
 have s1:W1.heap.size=w.heap.size+1:=by rw [←hW1];simp
 have X1:TBox W1 w.heap.size (.mk k1 n1 m1 b1 v1 ts1) (.slice A1 L1 c1):=by rw [←hW1];exact TBox.new w hn1 hm1
 obtain ⟨W2,hW2⟩:∃ W,W1.alloc (.cells #[.int .i64 k2,.string nb2,.string mb2,.int .u64 b2,.int .i64 v2,.slice A2 L2 c2] 25)=W:=⟨_,rfl⟩
 have d2:Below W1.heap.size W1 W2:=by rw [←hW2];exact (Below.refl _ _).alloc (Nat.le_refl _) _
 have s2:W2.heap.size=W1.heap.size+1:=by rw [←hW2];simp
 have X2:TBox W2 W1.heap.size (.mk k2 n2 m2 b2 v2 ts2) (.slice A2 L2 c2):=by rw [←hW2];exact TBox.new W1 hn2 hm2
 obtain ⟨W3,hW3⟩:∃ W,W2.alloc (.cells #[.int .i64 k3,.string nb3,.string mb3,.int .u64 b3,.int .i64 v3,.slice A3 L3 c3] 25)=W:=⟨_,rfl⟩
 have d3:Below W2.heap.size W2 W3:=by rw [←hW3];exact (Below.refl _ _).alloc (Nat.le_refl _) _
 have s3:W3.heap.size=W2.heap.size+1:=by rw [←hW3];simp
 have X3:TBox W3 W2.heap.size (.mk k3 n3 m3 b3 v3 ts3) (.slice A3 L3 c3):=by rw [←hW3];exact TBox.new W2 hn3 hm3
 obtain ⟨W4,hW4⟩:∃ W,W3.alloc (.cells #[.int .i64 0,.string ⟨#[]⟩,.string ⟨#[]⟩,.int .u64 0,.int .i64 0,.slice none 0 0] 25)=W:=⟨_,rfl⟩
 have d4:Below W3.heap.size W3 W4:=by rw [←hW4];exact (Below.refl _ _).alloc (Nat.le_refl _) _
 have s4:W4.heap.size=W3.heap.size+1:=by rw [←hW4];simp
 have X4:TBox W4 W3.heap.size zeroT (.slice none 0 0):=by rw [←hW4];exact heap_alloc_new W3 _
 obtain ⟨W5,hW5⟩:∃ W,W4.alloc (.cells #[.bool false,.int .i64 0,.string ⟨#[]⟩,.string ⟨#[]⟩,.int .u64 0,.int .i64 0,.slice none 0 0] 35)=W:=⟨_,rfl⟩
 have d5:Below W4.heap.size W4 W5:=by rw [←hW5];exact (Below.refl _ _).alloc (Nat.le_refl _) _
 have s5:W5.heap.size=W4.heap.size+1:=by rw [←hW5];simp
 have X5:BBox W5 W4.heap.size false zeroT (.slice none 0 0):=by rw [←hW5];exact heap_alloc_new W4 _
 replace X1:=X1.below d2
 replace X1:=X1.below d3
 replace X1:=X1.below d4
 replace X1:=X1.below d5
 replace X2:=X2.below d3
 replace X2:=X2.below d4
 replace X2:=X2.below d5
 replace X3:=X3.below d4
 replace X3:=X3.below d5
 replace X4:=X4.below d5
 have hb0:Below w.heap.size w W5:=d1.trans ((d2.trans ((d3.trans ((d4.trans ((d5).mono (by omega))).mono (by omega))).mono (by omega))).mono (by omega))
 have hsz0:W5.heap.size=w.heap.size+1+1+1+1+1:=by omega
 rw [s1] at X2
 rw [s2,s1] at X3
 rw [s3,s2,s1] at X4
 rw [s4,s3,s2,s1] at X5
 have HX:=Lib.hid (And.intro X1 (And.intro X2 (And.intro X3 (And.intro X4 (And.intro X5 (And.intro hb0 hsz0))))))
 subst hW1 hW2 hW3 hW4 hW5
 clear X1 d1 s1 X2 d2 s2 X3 d3 s3 X4 d4 s4 X5 d5 s5 hb0 hsz0
 have HM:=Lib.hid (And.intro hn1 (And.intro hm1 (And.intro hn2 (And.intro hm2 (And.intro hn3 hm3)))))
 have HLs:=Lib.hid (And.intro hL1 (And.intro hL2 hL3))
 have HT:=Lib.hid (And.intro h1 (And.intro h2 (And.intro h3 hP)))
 obtain ⟨x0,x1,x2,x3,x4,x5⟩:=(HX.out.1).cells hn1 hm1
 clear hn1 hm1 hn2 hm2 hn3 hm3 hL1 hL2 hL3 h1 h2 h3 hP
 clear hx1 h62
 go_enter Tryd.func48,Tryd.ntmps48
 go_upto_region 2 with fail
 generalize (((((w.alloc (.cells #[.int .i64 k1,.string nb1,.string mb1,.int .u64 b1,.int .i64 v1,.slice A1 L1 c1] 25)).alloc (.cells #[.int .i64 k2,.string nb2,.string mb2,.int .u64 b2,.int .i64 v2,.slice A2 L2 c2] 25)).alloc (.cells #[.int .i64 k3,.string nb3,.string mb3,.int .u64 b3,.int .i64 v3,.slice A3 L3 c3] 25)).alloc (.cells #[.int .i64 0,.string ⟨#[]⟩,.string ⟨#[]⟩,.int .u64 0,.int .i64 0,.slice none 0 0] 25)).alloc (.cells #[.bool false,.int .i64 0,.string ⟨#[]⟩,.string ⟨#[]⟩,.int .u64 0,.int .i64 0,.slice none 0 0] 35))=u0 at *
 clear x0 x1 x2 x3 x4 x5
 go_wp2_with fail
 (with_reducible refine (A_any _ _).mono ?_)
 rintro e u3 ⟨rfl,hb⟩
 have HB3:=Lib.hid hb
 clear hb
 go_wp2_with fail
 (with_reducible refine (Fatom_any (w:=u3) (s:=sRepr) (a:=sArity) (sb:=⟨#[114,101,112,114,101,115,101,110,116,97,116,105,111,110,95,101,114,114,111,114]⟩) (ab:=⟨#[109,97,120,95,97,114,105,116,121]⟩) rfl rfl (by decide) (by decide)).mono ?_)
 rintro e u4 ⟨A',c',rfl,ht,hb⟩
 have HT4:=Lib.hid (And.intro ht (And.intro (HB3.out.trans (hb.mono HB3.out.size)) HB3.out.size))
 clear ht hb
 go_wp2_with fail
 (with_reducible refine (rthrow_any (k:=5) (b:=0) (v:=0) (ts:=[]) (n:=sRepr) (m:=[]) (nb:=⟨#[114,101,112,114,101,115,101,110,116,97,116,105,111,110,95,101,114,114,111,114]⟩) (mb:=⟨#[]⟩) rfl rfl).mono ?_)
 rintro e u5 ⟨rfl,hb⟩
 have hs:=HT4.out.2.1.size
 have hB5:=HT4.out.2.1.trans (hb.mono hs)
 have HT5:=Lib.hid (And.intro (show TAtP u5 (fun b=>u0.heap.size≤b∧b<u5.heap.size) arityT (.slice A' 1 c') from TAtP.keep _ HT4.out.1 (fun b h=>⟨⟨Nat.le_trans HT4.out.2.2 h.1,Nat.lt_of_lt_of_le h.2 hb.size⟩,hb.block b h.2⟩)) (And.intro hB5 (And.intro ((HX.out.2.2.2.1).below hB5) ((HX.out.2.2.2.2.1).below hB5))))
 clear hs hB5 hb
 obtain ⟨a0,a1,a2,a3,a4,a5⟩:=HT5.out.2.2.1.cells rfl rfl
 obtain ⟨f0,f1,f2,f3,f4,f5⟩:=HT5.out.2.2.1.frozens
 obtain ⟨hbx,hgr⟩:=HT5.out.2.2.1.set6 (k:=0) (b:=0) (v:=0) (n:=[]) (m:=[]) [] (.slice none 0 0) (nb:=⟨#[]⟩) (mb:=⟨#[]⟩) rfl rfl
 have hB6:=HT5.out.2.2.2.gro hgr (by omega)
 obtain ⟨g0,g1,g2,g3,g4,g5,g6⟩:=hB6.cells rfl rfl
 obtain ⟨e0,e1,e2,e3,e4,e5,e6⟩:=hB6.frozens
 obtain ⟨hbx2,hgr2⟩:=hB6.set7 true (k:=5) (b:=0) (v:=0) (n:=sRepr) (m:=[]) [] (.slice A' 1 c') (nb:=⟨#[114,101,112,114,101,115,101,110,116,97,116,105,111,110,95,101,114,114,111,114]⟩) (mb:=⟨#[]⟩) rfl rfl
 have hbx1:=hbx.gro hgr2 (by omega)
 have hlt:=(HX.out.2.2.2.2.1).lt
 have hw6:=((HX.out.2.2.2.2.2.1).trans (HT5.out.2.1.mono (HX.out.2.2.2.2.2.1).size)).grown hgr ((HX.out.2.2.2.2.2.1).trans (HT5.out.2.1.mono (HX.out.2.2.2.2.2.1).size)).size (fun j e=>by injection e with e;omega)
 have hw7:=hw6.grown hgr2 hw6.size (fun j e=>by injection e with e;omega)
 have h60:=hgr.size
 have h70:=hgr2.size
 have ht7:=TAtP.keep arityT (P:=fun b=>u0.heap.size≤b∧b<u5.heap.size) (Q:=fun b=>w.heap.size≤b∧b<((((((((((((((u5.setCell ⟨w.heap.size+1+1+1,0,none⟩ (.int .i64 0)).setCell ⟨w.heap.size+1+1+1,1,none⟩ (.string ⟨#[]⟩)).setCell ⟨w.heap.size+1+1+1,2,none⟩ (.string ⟨#[]⟩)).setCell ⟨w.heap.size+1+1+1,3,none⟩ (.int .u64 0)).setCell ⟨w.heap.size+1+1+1,4,none⟩ (.int .i64 0)).setCell ⟨w.heap.size+1+1+1,5,none⟩ (.slice none 0 0)).setCell ⟨w.heap.size+1+1+1+1,0,none⟩ (.bool true)).setCell ⟨w.heap.size+1+1+1+1,1,none⟩ (.int .i64 5)).setCell ⟨w.heap.size+1+1+1+1,2,none⟩ (.string ⟨#[114,101,112,114,101,115,101,110,116,97,116,105,111,110,95,101,114,114,111,114]⟩)).setCell ⟨w.heap.size+1+1+1+1,3,none⟩ (.string ⟨#[]⟩)).setCell ⟨w.heap.size+1+1+1+1,4,none⟩ (.int .u64 0)).setCell ⟨w.heap.size+1+1+1+1,5,none⟩ (.int .i64 0)).setCell ⟨w.heap.size+1+1+1+1,6,none⟩ (.slice A' 1 c'))).heap.size) HT5.out.1 (fun b h=>⟨⟨by have:=(HX.out.2.2.2.2.2.1).size;omega,by omega⟩,(hgr2.block b (by omega) (fun e=>by injection e with e;omega)).trans (hgr.block b h.2 (fun e=>by injection e with e;omega))⟩)
 have HE:=Lib.hid (And.intro hbx1 (And.intro hbx2 (And.intro hw7 ht7)))
 clear hbx hgr hB6 hbx2 hgr2 hbx1 hw6 hw7 ht7 h60 h70 hlt
 go_wp2
 generalize (((((((((((((u5.setCell ⟨w.heap.size+1+1+1,0,none⟩ (.int .i64 0)).setCell ⟨w.heap.size+1+1+1,1,none⟩ (.string ⟨#[]⟩)).setCell ⟨w.heap.size+1+1+1,2,none⟩ (.string ⟨#[]⟩)).setCell ⟨w.heap.size+1+1+1,3,none⟩ (.int .u64 0)).setCell ⟨w.heap.size+1+1+1,4,none⟩ (.int .i64 0)).setCell ⟨w.heap.size+1+1+1,5,none⟩ (.slice none 0 0)).setCell ⟨w.heap.size+1+1+1+1,0,none⟩ (.bool true)).setCell ⟨w.heap.size+1+1+1+1,1,none⟩ (.int .i64 5)).setCell ⟨w.heap.size+1+1+1+1,2,none⟩ (.string ⟨#[114,101,112,114,101,115,101,110,116,97,116,105,111,110,95,101,114,114,111,114]⟩)).setCell ⟨w.heap.size+1+1+1+1,3,none⟩ (.string ⟨#[]⟩)).setCell ⟨w.heap.size+1+1+1+1,4,none⟩ (.int .u64 0)).setCell ⟨w.heap.size+1+1+1+1,5,none⟩ (.int .i64 0)).setCell ⟨w.heap.size+1+1+1+1,6,none⟩ (.slice A' 1 c'))=z9 at *
 obtain ⟨r0,r1,r2,r3,r4,r5⟩:=HE.out.1.cells (nb:=⟨#[]⟩) (mb:=⟨#[]⟩) rfl rfl
 obtain ⟨q0,q1,q2,q3,q4,q5,q6⟩:=HE.out.2.1.cells (nb:=⟨#[114,101,112,114,101,115,101,110,116,97,116,105,111,110,95,101,114,114,111,114]⟩) (mb:=⟨#[]⟩) rfl rfl
 exact bodyPost_ret (v:=.tuple #[.agg #[.int .i64 0,.string ⟨#[]⟩,.string ⟨#[]⟩,.int .u64 0,.int .i64 0,.slice none 0 0],.agg #[.bool true,.int .i64 5,.string ⟨#[114,101,112,114,101,115,101,110,116,97,116,105,111,110,95,101,114,114,111,114]⟩,.string ⟨#[]⟩,.int .u64 0,.int .i64 0,.slice A' 1 c']]) (by simp [results,Tryd.results48,go_sem,r0,r1,r2,r3,r4,r5,q0,q1,q2,q3,q4,q5,q6]) rfl ⟨_,rfl,HE.out.2.2.2,HE.out.2.2.1⟩
set_option maxRecDepth 100000 in
set_option maxHeartbeats 8000000 in
theorem rput_fit {w:World} {P:Nat→Prop} {k1 v1 b1:Int} {n1 m1:List UInt8} {ts1:List Tm} {nb1 mb1:ByteArray} {A1:Option Addr} {L1 c1:Nat} {k2 v2 b2:Int} {n2 m2:List UInt8} {ts2:List Tm} {nb2 mb2:ByteArray} {A2:Option Addr} {L2 c2:Nat} {k3 v3 b3:Int} {n3 m3:List UInt8} {ts3:List Tm} {nb3 mb3:ByteArray} {A3:Option Addr} {L3 c3:Nat} (hn1:(⟨n1.toArray⟩:ByteArray)=nb1) (hm1:(⟨m1.toArray⟩:ByteArray)=mb1) (hL1:ts1.length=L1) (hn2:(⟨n2.toArray⟩:ByteArray)=nb2) (hm2:(⟨m2.toArray⟩:ByteArray)=mb2) (hL2:ts2.length=L2) (hn3:(⟨n3.toArray⟩:ByteArray)=nb3) (hm3:(⟨m3.toArray⟩:ByteArray)=mb3) (hL3:ts3.length=L3) (h1:TAtP w P (.mk k1 n1 m1 b1 v1 ts1) (.slice A1 L1 c1)) (h2:TAtP w P (.mk k2 n2 m2 b2 v2 ts2) (.slice A2 L2 c2)) (h3:TAtP w P (.mk k3 n3 m3 b3 v3 ts3) (.slice A3 L3 c3)) (hP:∀ b,P b→b<w.heap.size) (h62:L1≤62) :
  Calls Tryd.prog 48 #[.agg #[.int .i64 k1,.string nb1,.string mb1,.int .u64 b1,.int .i64 v1,.slice A1 L1 c1],.agg #[.int .i64 k2,.string nb2,.string mb2,.int .u64 b2,.int .i64 v2,.slice A2 L2 c2],.agg #[.int .i64 k3,.string nb3,.string mb3,.int .u64 b3,.int .i64 v3,.slice A3 L3 c3]] w fun e w'=>∃ A' c',e = .returned (.tuple #[.agg #[.int .i64 5,.string nb1,.string ⟨#[]⟩,.int .u64 0,.int .i64 0,.slice A' (L1+2) c'],.agg #[.bool false,.int .i64 0,.string ⟨#[]⟩,.string ⟨#[]⟩,.int .u64 0,.int .i64 0,.slice none 0 0]])∧TAtP w' (Grow P w w') (cmpT n1 (ts1 ++ [(Tm.mk k2 n2 m2 b2 v2 ts2),(Tm.mk k3 n3 m3 b3 v3 ts3)])) (.slice A' (L1+2) c')∧Below w.heap.size w w':=by
 have hLI:(L1:Int)≤62:=by omega
 obtain ⟨qs,hqs,hqm⟩:=TAtP.rowP h1 hP
 change List.map (fun x=>x.1) qs=ts1 at hqm
 have HQ:=Lib.hid (And.intro hqs (And.intro hqm (show n1.length≤maxLen from (TAtP.ok h1).1)))
 have HL62:=Lib.hid h62
 clear h62 hqs hqm
 obtain ⟨W1,hW1⟩:∃ W,w.alloc (.cells #[.int .i64 k1,.string nb1,.string mb1,.int .u64 b1,.int .i64 v1,.slice A1 L1 c1] 25)=W:=⟨_,rfl⟩
 have d1:Below w.heap.size w W1:=by rw [←hW1];exact (Below.refl _ _).alloc (Nat.le_refl _) _
 have s1:W1.heap.size=w.heap.size+1:=by rw [←hW1];simp
 have X1:TBox W1 w.heap.size (.mk k1 n1 m1 b1 v1 ts1) (.slice A1 L1 c1):=by rw [←hW1];exact TBox.new w hn1 hm1
 obtain ⟨W2,hW2⟩:∃ W,W1.alloc (.cells #[.int .i64 k2,.string nb2,.string mb2,.int .u64 b2,.int .i64 v2,.slice A2 L2 c2] 25)=W:=⟨_,rfl⟩
 have d2:Below W1.heap.size W1 W2:=by rw [←hW2];exact (Below.refl _ _).alloc (Nat.le_refl _) _
 have s2:W2.heap.size=W1.heap.size+1:=by rw [←hW2];simp
 have X2:TBox W2 W1.heap.size (.mk k2 n2 m2 b2 v2 ts2) (.slice A2 L2 c2):=by rw [←hW2];exact TBox.new W1 hn2 hm2
 obtain ⟨W3,hW3⟩:∃ W,W2.alloc (.cells #[.int .i64 k3,.string nb3,.string mb3,.int .u64 b3,.int .i64 v3,.slice A3 L3 c3] 25)=W:=⟨_,rfl⟩
 have d3:Below W2.heap.size W2 W3:=by rw [←hW3];exact (Below.refl _ _).alloc (Nat.le_refl _) _
 have s3:W3.heap.size=W2.heap.size+1:=by rw [←hW3];simp
 have X3:TBox W3 W2.heap.size (.mk k3 n3 m3 b3 v3 ts3) (.slice A3 L3 c3):=by rw [←hW3];exact TBox.new W2 hn3 hm3
 obtain ⟨W4,hW4⟩:∃ W,W3.alloc (.cells #[.int .i64 0,.string ⟨#[]⟩,.string ⟨#[]⟩,.int .u64 0,.int .i64 0,.slice none 0 0] 25)=W:=⟨_,rfl⟩
 have d4:Below W3.heap.size W3 W4:=by rw [←hW4];exact (Below.refl _ _).alloc (Nat.le_refl _) _
 have s4:W4.heap.size=W3.heap.size+1:=by rw [←hW4];simp
 have X4:TBox W4 W3.heap.size zeroT (.slice none 0 0):=by rw [←hW4];exact heap_alloc_new W3 _
 obtain ⟨W5,hW5⟩:∃ W,W4.alloc (.cells #[.bool false,.int .i64 0,.string ⟨#[]⟩,.string ⟨#[]⟩,.int .u64 0,.int .i64 0,.slice none 0 0] 35)=W:=⟨_,rfl⟩
 have d5:Below W4.heap.size W4 W5:=by rw [←hW5];exact (Below.refl _ _).alloc (Nat.le_refl _) _
 have s5:W5.heap.size=W4.heap.size+1:=by rw [←hW5];simp
 have X5:BBox W5 W4.heap.size false zeroT (.slice none 0 0):=by rw [←hW5];exact heap_alloc_new W4 _
 replace X1:=X1.below d2
 replace X1:=X1.below d3
 replace X1:=X1.below d4
 replace X1:=X1.below d5
 replace X2:=X2.below d3
 replace X2:=X2.below d4
 replace X2:=X2.below d5
 replace X3:=X3.below d4
 replace X3:=X3.below d5
 replace X4:=X4.below d5
 have hb0:Below w.heap.size w W5:=d1.trans ((d2.trans ((d3.trans ((d4.trans ((d5).mono (by omega))).mono (by omega))).mono (by omega))).mono (by omega))
 have hsz0:W5.heap.size=w.heap.size+1+1+1+1+1:=by omega
 rw [s1] at X2
 rw [s2,s1] at X3
 rw [s3,s2,s1] at X4
 rw [s4,s3,s2,s1] at X5
 have HX:=Lib.hid (And.intro X1 (And.intro X2 (And.intro X3 (And.intro X4 (And.intro X5 (And.intro hb0 hsz0))))))
 subst hW1 hW2 hW3 hW4 hW5
 clear X1 d1 s1 X2 d2 s2 X3 d3 s3 X4 d4 s4 X5 d5 s5 hb0 hsz0
 have HM:=Lib.hid (And.intro hn1 (And.intro hm1 (And.intro hn2 (And.intro hm2 (And.intro hn3 hm3)))))
 have HLs:=Lib.hid (And.intro hL1 (And.intro hL2 hL3))
 have HT:=Lib.hid (And.intro h1 (And.intro h2 (And.intro h3 hP)))
 obtain ⟨x0,x1,x2,x3,x4,x5⟩:=(HX.out.1).cells hn1 hm1
 clear hn1 hm1 hn2 hm2 hn3 hm3 hL1 hL2 hL3 h1 h2 h3 hP
 go_enter Tryd.func48,Tryd.ntmps48
 go_upto_region 3 with fail
 generalize (((((w.alloc (.cells #[.int .i64 k1,.string nb1,.string mb1,.int .u64 b1,.int .i64 v1,.slice A1 L1 c1] 25)).alloc (.cells #[.int .i64 k2,.string nb2,.string mb2,.int .u64 b2,.int .i64 v2,.slice A2 L2 c2] 25)).alloc (.cells #[.int .i64 k3,.string nb3,.string mb3,.int .u64 b3,.int .i64 v3,.slice A3 L3 c3] 25)).alloc (.cells #[.int .i64 0,.string ⟨#[]⟩,.string ⟨#[]⟩,.int .u64 0,.int .i64 0,.slice none 0 0] 25)).alloc (.cells #[.bool false,.int .i64 0,.string ⟨#[]⟩,.string ⟨#[]⟩,.int .u64 0,.int .i64 0,.slice none 0 0] 35))=u0 at *
 clear x0 x1 x2 x3 x4 x5
 have hbE:Below u0.heap.size u0 (u0.alloc (.cells #[] 25)):=(Below.refl _ _).alloc (Nat.le_refl _) _
 have hw0:=HX.out.2.2.2.2.2.1
 have HR0:=Lib.hid (And.intro (show TRow (u0.alloc (.cells #[] 25)) u0.heap.size P (some ⟨u0.heap.size,0,none⟩) 0 0 [] from ⟨owns_emptyT u0 _ (Nat.le_refl _),fun p hp=>by cases hp⟩) (And.intro hbE (show RowP (u0.alloc (.cells #[] 25)) P A1 L1 qs from HQ.out.1.below (hw0.trans (hbE.mono hw0.size)) HT.out.2.2.2)))
 obtain ⟨x0,x1,x2,x3,x4,x5⟩:=((HX.out.1).below hbE).cells HM.out.1 HM.out.2.1
 clear hbE hw0
 go_upto_region 4 with (at_builtin;refine wpList_append_R rfl _ _ rfl rfl HR0.out.1 (fun b hb=>by have h1:=HT.out.2.2.2 b hb;have h2:=(HX.out.2.2.2.2.2.1).size;have h3:=HR0.out.2.1.size;omega) rfl (HR0.out.2.2.apart HR0.out.1 (fun b hb=>by have h1:=HT.out.2.2.2 b hb;have h2:=(HX.out.2.2.2.2.2.1).size;omega)) (by have:=HL62.out;unfold maxArgs;omega) HR0.out.2.1.size ?_;intro A5 c5 u2 hr hb hg;rw [Nat.zero_add] at hr ⊢;rw [List.nil_append] at hr;have HR2:=Lib.hid (And.intro hr (HR0.out.2.1.trans hb));clear hr hb hg)
 clear x0 x1 x2 x3 x4 x5
 have HUS:=Lib.hid ((HX.out.2.2.2.2.2.1).size)
 have HUV:=Lib.hid (HR2.out.2.size)
 have HUV2:=Lib.hid (show w.heap.size+1+1+1+1+1≤u0.heap.size from by have h2:=HX.out.2.2.2.2.2.2;omega)
 have HSS:=Lib.hid (show ∀ z,u0.grownBy z (some (w.heap.size+1+1+1))→((z.cell? ⟨w.heap.size,1,none⟩=some (.string nb1))∧(z.cell? ⟨w.heap.size+1,0,none⟩=some (.int .i64 k2)∧z.cell? ⟨w.heap.size+1,1,none⟩=some (.string nb2)∧z.cell? ⟨w.heap.size+1,2,none⟩=some (.string mb2)∧z.cell? ⟨w.heap.size+1,3,none⟩=some (.int .u64 b2)∧z.cell? ⟨w.heap.size+1,4,none⟩=some (.int .i64 v2)∧z.cell? ⟨w.heap.size+1,5,none⟩=some (.slice A2 L2 c2))∧(z.cell? ⟨w.heap.size+1+1,0,none⟩=some (.int .i64 k3)∧z.cell? ⟨w.heap.size+1+1,1,none⟩=some (.string nb3)∧z.cell? ⟨w.heap.size+1+1,2,none⟩=some (.string mb3)∧z.cell? ⟨w.heap.size+1+1,3,none⟩=some (.int .u64 b3)∧z.cell? ⟨w.heap.size+1+1,4,none⟩=some (.int .i64 v3)∧z.cell? ⟨w.heap.size+1+1,5,none⟩=some (.slice A3 L3 c3))) from fun z hb=>⟨(((HX.out.1).gro hb (by omega)).cells HM.out.1 HM.out.2.1).2.1,((HX.out.2.1).gro hb (by omega)).cells HM.out.2.2.1 HM.out.2.2.2.1,((HX.out.2.2.1).gro hb (by omega)).cells HM.out.2.2.2.2.1 HM.out.2.2.2.2.2⟩)
 refine wp_region_wait (fun z=>((z.cell? ⟨w.heap.size,1,none⟩=some (.string nb1))∧(z.cell? ⟨w.heap.size+1,0,none⟩=some (.int .i64 k2)∧z.cell? ⟨w.heap.size+1,1,none⟩=some (.string nb2)∧z.cell? ⟨w.heap.size+1,2,none⟩=some (.string mb2)∧z.cell? ⟨w.heap.size+1,3,none⟩=some (.int .u64 b2)∧z.cell? ⟨w.heap.size+1,4,none⟩=some (.int .i64 v2)∧z.cell? ⟨w.heap.size+1,5,none⟩=some (.slice A2 L2 c2))∧(z.cell? ⟨w.heap.size+1+1,0,none⟩=some (.int .i64 k3)∧z.cell? ⟨w.heap.size+1+1,1,none⟩=some (.string nb3)∧z.cell? ⟨w.heap.size+1+1,2,none⟩=some (.string mb3)∧z.cell? ⟨w.heap.size+1+1,3,none⟩=some (.int .u64 b3)∧z.cell? ⟨w.heap.size+1+1,4,none⟩=some (.int .i64 v3)∧z.cell? ⟨w.heap.size+1+1,5,none⟩=some (.slice A3 L3 c3)))) 10 (by kernel_rfl) ?_
 change wpAnyW _ _ _ _ _ _ _ _ _ u2.drew
 have KK:=Lib.hid (below_drew' u2)
 generalize u2.drew=v0 at *
 have KD:=Lib.hid KK.out
 replace KK:=Lib.hid (HR2.out.2.trans (KK.out.mono HR2.out.2.size))
 have KG:=Lib.hid (grown_below (r:=some (w.heap.size+1+1+1)) KK.out)
 refine w3 9 0 (.pointer (some ⟨w.heap.size,1,none⟩)) (HSS.out _ KG.out) ?_ ?_
 ·intro w5 hSw
  obtain ⟨s1,⟨p0,p1,p2,p3,p4,p5⟩,⟨q0,q1,q2,q3,q4,q5⟩⟩:=hSw
  go_simp
 refine w3 9 1 (.string nb1) (HSS.out _ KG.out) ?_ ?_
 ·intro w5 hSw
  obtain ⟨s1,⟨p0,p1,p2,p3,p4,p5⟩,⟨q0,q1,q2,q3,q4,q5⟩⟩:=hSw
  go_simp
 refine w3 9 2 (.slice A5 L1 c5) (HSS.out _ KG.out) ?_ ?_
 ·intro w5 hSw
  obtain ⟨s1,⟨p0,p1,p2,p3,p4,p5⟩,⟨q0,q1,q2,q3,q4,q5⟩⟩:=hSw
  go_simp
 refine w3 9 3 (.agg #[.int .i64 k2,.string nb2,.string mb2,.int .u64 b2,.int .i64 v2,.slice A2 L2 c2]) (HSS.out _ KG.out) ?_ ?_
 ·intro w5 hSw
  obtain ⟨s1,⟨p0,p1,p2,p3,p4,p5⟩,⟨q0,q1,q2,q3,q4,q5⟩⟩:=hSw
  go_simp
 refine w3 9 4 (.agg #[.int .i64 k3,.string nb3,.string mb3,.int .u64 b3,.int .i64 v3,.slice A3 L3 c3]) (HSS.out _ KG.out) ?_ ?_
 ·intro w5 hSw
  obtain ⟨s1,⟨p0,p1,p2,p3,p4,p5⟩,⟨q0,q1,q2,q3,q4,q5⟩⟩:=hSw
  go_simp
 refine w3 10 8 (.agg #[.bool false,.int .i64 0,.string ⟨#[]⟩,.string ⟨#[]⟩,.int .u64 0,.int .i64 0,.slice none 0 0]) (HSS.out _ KG.out) ?_ ?_
 ·intro w5 hSw
  obtain ⟨s1,⟨p0,p1,p2,p3,p4,p5⟩,⟨q0,q1,q2,q3,q4,q5⟩⟩:=hSw
  go_simp
 clear KG
 have HRv:=Lib.hid (HR2.out.1.keep KD.out (fun b hb=>by have h1:=HT.out.2.2.2 b hb;have h2:=HUS.out;have h3:=HUV.out;omega))
 refine w1 5 fun K hK=>?_
 go_simp
 have hb:Below v0.heap.size v0 (v0.alloc (.cells #[.int .i64 k2,.string nb2,.string mb2,.int .u64 b2,.int .i64 v2,.slice A2 L2 c2,.int .i64 k3,.string nb3,.string mb3,.int .u64 b3,.int .i64 v3,.slice A3 L3 c3] 25)):=(Below.refl _ _).alloc (Nat.le_refl _) _
 have HW:=Lib.hid (And.intro (show (v0.alloc (.cells #[.int .i64 k2,.string nb2,.string mb2,.int .u64 b2,.int .i64 v2,.slice A2 L2 c2,.int .i64 k3,.string nb3,.string mb3,.int .u64 b3,.int .i64 v3,.slice A3 L3 c3] 25)).heap[v0.heap.size]?=some (.cells #[.int .i64 k2,.string nb2,.string mb2,.int .u64 b2,.int .i64 v2,.slice A2 L2 c2,.int .i64 k3,.string nb3,.string mb3,.int .u64 b3,.int .i64 v3,.slice A3 L3 c3] 25 (0,0)) from heap_alloc_new v0 _) (HRv.out.keep hb (fun b hb=>by have h1:=HT.out.2.2.2 b hb;have h2:=HUS.out;have h3:=KK.out.size;omega)))
 replace KK:=Lib.hid (KK.out.trans (hb.mono KK.out.size))
 clear hb HRv
 refine hK.out _ _ (fun _=>HSS.out _ (grown_below KK.out)) ?_
 generalize v0.alloc (.cells #[.int .i64 k2,.string nb2,.string mb2,.int .u64 b2,.int .i64 v2,.slice A2 L2 c2,.int .i64 k3,.string nb3,.string mb3,.int .u64 b3,.int .i64 v3,.slice A3 L3 c3] 25)=v1 at *
 generalize v0.heap.size=g6 at *
 have HWB:=Lib.hid ((HX.out.2.2.2.2.2.1).trans (KK.out.mono (HX.out.2.2.2.2.2.1).size))
 refine w1 6 fun K hK=>?_
 refine step_append_R rfl _ _ rfl rfl HW.out.2 (fun b hb=>Nat.lt_of_lt_of_le (HT.out.2.2.2 b hb) HWB.out.size) rfl ((rowP_at (P:=P) (n:=2) (ps:=[(((Tm.mk k2 n2 m2 b2 v2 ts2)),Value.slice A2 L2 c2),(((Tm.mk k3 n3 m3 b3 v3 ts3)),Value.slice A3 L3 c3)]) HW.out.1 (by rw [←HM.out.2.2.1,←HM.out.2.2.2.1,←HM.out.2.2.2.2.1,←HM.out.2.2.2.2.2];rfl) rfl (mem2 (HT.out.2.1.below HWB.out HT.out.2.2.2) (HT.out.2.2.1.below HWB.out HT.out.2.2.2))).apart HW.out.2 (fun b hb=>Nat.lt_of_lt_of_le (HT.out.2.2.2 b hb) HUS.out)) (by have:=HL62.out;unfold maxArgs;omega) KK.out.size ?_
 intro A6 c6 v2_ hr hb hg
 replace KK:=Lib.hid (KK.out.trans hb)
 have HR6:=Lib.hid hr
 have HK2:=Lib.hid (show w.heap.size+1+1+1+1+1≤v2_.heap.size from by have h1:=HUV2.out;have h2:=KK.out.size;omega)
 clear hr hb hg HW
 refine hK.out _ _ (fun _=>HSS.out _ (grown_below KK.out)) ?_
 have hwb:=(HX.out.2.2.2.2.2.1).trans (KK.out.mono (HX.out.2.2.2.2.2.1).size)
 have HF:=Lib.hid (F_any (c:=c6) HR6.out.rowP (fun b hb=>Nat.lt_of_lt_of_le (HT.out.2.2.2 b hb) hwb.size) (by omega) (by have:=HL62.out;unfold maxArgs;omega) nb1)
 replace HWB:=Lib.hid hwb
 clear hwb
 refine w1 7 fun K hK=>?_
 go_simp
 (with_reducible refine HF.out.mono ?_)
 rintro e v3_ ⟨A7,c7,rfl,hr,hb⟩
 have HR7:=Lib.hid (And.intro hr (And.intro hb HWB.out))
 replace KK:=Lib.hid (KK.out.trans (hb.mono KK.out.size))
 clear hr hb HF
 refine hK.out _ _ (fun _=>HSS.out _ (grown_below KK.out)) ?_
 have HT6:=Lib.hid ((HX.out.2.2.2.1).below KK.out)
 have HB6:=Lib.hid ((HX.out.2.2.2.2.1).below KK.out)
 refine w1 9 fun K hK=>?_
 obtain ⟨a0,a1,a2,a3,a4,a5⟩:=HT6.out.cells rfl rfl
 obtain ⟨f0,f1,f2,f3,f4,f5⟩:=HT6.out.frozens
 go_simp
 clear a0 a1 a2 a3 a4 a5 f0 f1 f2 f3 f4 f5
 obtain ⟨hbx,hgr⟩:=HT6.out.set6 (k:=5) (b:=0) (v:=0) (n:=n1) (m:=[]) (ts1 ++ [(Tm.mk k2 n2 m2 b2 v2 ts2),(Tm.mk k3 n3 m3 b3 v3 ts3)]) (.slice A7 (L1+2) c7) (nb:=nb1) (mb:=⟨#[]⟩) HM.out.1 rfl
 have HG6:=Lib.hid (And.intro hbx (And.intro (HB6.out.gro hgr (by omega)) hgr))
 clear hbx hgr
 refine hK.out _ _ (fun _=>HSS.out _ (grown_trans (grown_below KK.out) HG6.out.2.2)) ?_
 generalize ((((((v3_.setCell ⟨w.heap.size+1+1+1,0,none⟩ (.int .i64 5)).setCell ⟨w.heap.size+1+1+1,1,none⟩ (.string nb1)).setCell ⟨w.heap.size+1+1+1,2,none⟩ (.string ⟨#[]⟩)).setCell ⟨w.heap.size+1+1+1,3,none⟩ (.int .u64 0)).setCell ⟨w.heap.size+1+1+1,4,none⟩ (.int .i64 0)).setCell ⟨w.heap.size+1+1+1,5,none⟩ (.slice A7 (L1+2) c7))=z1 at *
 refine w1 10 fun K hK=>?_
 obtain ⟨a0,a1,a2,a3,a4,a5,a6⟩:=HG6.out.2.1.cells rfl rfl
 obtain ⟨f0,f1,f2,f3,f4,f5,f6⟩:=HG6.out.2.1.frozens
 go_simp
 clear a0 a1 a2 a3 a4 a5 a6 f0 f1 f2 f3 f4 f5 f6
 refine hK.out _ _ (fun h=>absurd h (by simp)) ?_
 refine wpAnyW_done (by kernel_rfl) ?_ _
 go_wp2
 obtain ⟨hbx,hgr⟩:=HG6.out.2.1.set7 false (k:=0) (b:=0) (v:=0) (n:=[]) (m:=[]) [] (.slice none 0 0) (nb:=⟨#[]⟩) (mb:=⟨#[]⟩) rfl rfl
 have hbt:=HG6.out.1.gro hgr (by omega)
 have HGs:=Lib.hid (And.intro hgr (And.intro hbt hbx))
 clear hbx hgr hbt
 generalize (((((((z1.setCell ⟨w.heap.size+1+1+1+1,0,none⟩ (.bool false)).setCell ⟨w.heap.size+1+1+1+1,1,none⟩ (.int .i64 0)).setCell ⟨w.heap.size+1+1+1+1,2,none⟩ (.string ⟨#[]⟩)).setCell ⟨w.heap.size+1+1+1+1,3,none⟩ (.string ⟨#[]⟩)).setCell ⟨w.heap.size+1+1+1+1,4,none⟩ (.int .u64 0)).setCell ⟨w.heap.size+1+1+1+1,5,none⟩ (.int .i64 0)).setCell ⟨w.heap.size+1+1+1+1,6,none⟩ (.slice none 0 0))=z2 at *
 have hwB:=HR7.out.2.2.trans (HR7.out.2.1.mono HR7.out.2.2.size)
 have hlt:=HB6.out.lt
 have h1s:=HG6.out.2.2.size
 have h2s:=HGs.out.1.size
 have hb2s:=HR7.out.2.1.size
 have hus:=HUS.out
 have huv:=HUV2.out
 have hk2:=HK2.out
 have hw6:=hwB.grown HG6.out.2.2 hwB.size (fun j e=>by injection e with e;omega)
 have hw7:=hw6.grown HGs.out.1 hw6.size (fun j e=>by injection e with e;omega)
 have hblk:∀ b,b<v3_.heap.size→(b<w.heap.size∨v2_.heap.size≤b)→z2.heap[b]?=v3_.heap[b]?:=fun b h h2=>(HGs.out.1.block b (by omega) (fun e=>by injection e with e;have:=HK2.out;omega)).trans (HG6.out.2.2.block b h (fun e=>by injection e with e;have:=HUV2.out;omega))
 obtain ⟨r0,r1,r2,r3,r4,r5⟩:=HGs.out.2.1.cells HM.out.1 rfl
 obtain ⟨q0,q1,q2,q3,q4,q5,q6⟩:=HGs.out.2.2.cells rfl rfl
 refine bodyPost_ret (v:=.tuple #[.agg #[.int .i64 5,.string nb1,.string ⟨#[]⟩,.int .u64 0,.int .i64 0,.slice A7 (L1+2) c7],.agg #[.bool false,.int .i64 0,.string ⟨#[]⟩,.string ⟨#[]⟩,.int .u64 0,.int .i64 0,.slice none 0 0]]) (by simp [results,Tryd.results48,go_sem,r0,r1,r2,r3,r4,r5,q0,q1,q2,q3,q4,q5,q6]) rfl ⟨A7,c7,rfl,?_,hw7⟩
 have hr8:=(HR7.out.1.keepP (w':=z2) (fun b h1 h2=>hblk b h2 (.inr (by omega))) (fun b hb=>hblk b (by have:=HT.out.2.2.2 b hb;have:=HR7.out.2.2.size;omega) (.inl (HT.out.2.2.2 b hb)))).wide (Q:=Grow P w z2) (fun b hb=>.inl hb)
 exact hr8.termP (t:=cmpT n1 (ts1 ++ [(Tm.mk k2 n2 m2 b2 v2 ts2),(Tm.mk k3 n3 m3 b3 v3 ts3)])) (fun b h1 h2=>.inr ⟨by have:=HR7.out.2.2.size;omega,h2⟩) (by rw [List.map_append,HQ.out.2.1];rfl) (by have:=HL62.out;unfold maxArgs;omega) (okF_cmp HQ.out.2.2)
end Go.Proofs.YtgfeainpeplphaaDoor
namespace Ht
structure Ans where
 g:Tm
 n:Int
 i:Bool
 b:Tm
def okA (g:Tm) (n:Int):Ans:=⟨g,n,false,zeroT⟩
def badA (b:Tm):Ans:=⟨zeroT,0,true,b⟩
def putA (t f d:Tm) (nx:Int):Ans:=if 62<t.as.length then ⟨zeroT,nx,true,arityT⟩ else okA (cmpT t.n (t.as ++ [f,d])) nx
def joinA (s:List UInt8) (a c:Ans):Ans:=⟨cmpT s [a.g,c.g],c.n,c.i,c.b⟩
def notA (f d:Tm) (a:Ans):Ans:=⟨cmpT sComma [cmpT sNot [a.g],eqT f d],a.n,a.i,a.b⟩
def ansM:Tm→Tm→Tm→Int→Ans
 | .mk k n m b v ts,f,d,nx=>
  if k=1 then okA (cmpT sPhrase [.mk k n m b v ts,f,d]) nx
  else if k=3∨k=4 then badA (typedT sCallable (.mk k n m b v ts))
  else if k=5 then
   match ts with
   | [x,y]=>
    if n=sComma∨n=sArrow then
     if (ansM x f (varT nx) (nx+1)).i=true then badA (ansM x f (varT nx) (nx+1)).b
     else joinA n (ansM x f (varT nx) (nx+1)) (ansM y (varT nx) d (ansM x f (varT nx) (nx+1)).n)
    else if n=sSemi∨n=sBar then
     if (ansM x f d nx).i=true then badA (ansM x f d nx).b
     else joinA sSemi (ansM x f d nx) (ansM y f d (ansM x f d nx).n)
    else if n=sDot then
     if isNil (elems (.mk k n m b v [x,y])).2 then okA (eqT f (endT (elems (.mk k n m b v [x,y])).1 d)) nx else badA (typedT sList (.mk k n m b v [x,y]))
    else putA (.mk k n m b v [x,y]) f d nx
   | [x]=>
    if n=sNot then notA f d (ansM x f (varT nx) (nx+1))
    else if n=sCurly then okA (cmpT sComma [x,eqT f d]) nx
    else putA (.mk k n m b v [x]) f d nx
   | ts=>putA (.mk k n m b v ts) f d nx
  else if k=2 then
   if n=sCurly then okA (cmpT sComma [atomT sTrue,eqT f d]) nx
   else if n=sCut then okA (cmpT sComma [.mk k n m b v ts,eqT f d]) nx
   else if n=sNil then okA (eqT f d) nx
   else putA (.mk k n m b v ts) f d nx
  else putA (.mk k n m b v ts) f d nx
def twoA (s:List UInt8) (x y f d:Tm) (nx:Int):Ans:=
 if (ansM x f (varT nx) (nx+1)).i=true then badA (ansM x f (varT nx) (nx+1)).b
 else joinA s (ansM x f (varT nx) (nx+1)) (ansM y (varT nx) d (ansM x f (varT nx) (nx+1)).n)
def altA (x y f d:Tm) (nx:Int):Ans:=
 if (ansM x f d nx).i=true then badA (ansM x f d nx).b
 else joinA sSemi (ansM x f d nx) (ansM y f d (ansM x f d nx).n)
theorem ansM_var {n m:List UInt8} {b v:Int} {ts:List Tm} {f d:Tm} {nx:Int} : ansM (.mk 1 n m b v ts) f d nx=okA (cmpT sPhrase [.mk 1 n m b v ts,f,d]) nx:=by rw [ansM.eq_def];simp
theorem ansM_num {k:Int} {n m:List UInt8} {b v:Int} {ts:List Tm} {f d:Tm} {nx:Int} (h:k=3∨k=4):ansM (.mk k n m b v ts) f d nx=badA (typedT sCallable (.mk k n m b v ts)):=by
 rw [ansM.eq_def]
 rcases h with rfl | rfl <;> simp
theorem ansM_two {n m:List UInt8} {b v:Int} {x y f d:Tm} {nx:Int} (h:n=sComma∨n=sArrow):ansM (.mk 5 n m b v [x,y]) f d nx=twoA n x y f d nx:=by
 rw [ansM.eq_def,twoA];simp [h]
theorem ansM_alt {n m:List UInt8} {b v:Int} {x y f d:Tm} {nx:Int} (h:n=sSemi∨n=sBar):ansM (.mk 5 n m b v [x,y]) f d nx=altA x y f d nx:=by
 have h1:¬(n=sComma∨n=sArrow):=by rcases h with rfl | rfl <;> decide
 rw [ansM.eq_def,altA];simp [h,h1]
theorem ansM_neg {m:List UInt8} {b v:Int} {x f d:Tm} {nx:Int} : ansM (.mk 5 sNot m b v [x]) f d nx=notA f d (ansM x f (varT nx) (nx+1)):=by
 rw [ansM.eq_def];simp
theorem ansM_curly {m:List UInt8} {b v:Int} {x f d:Tm} {nx:Int} : ansM (.mk 5 sCurly m b v [x]) f d nx=okA (cmpT sComma [x,eqT f d]) nx:=by
 have h1:sCurly≠sNot:=by decide
 rw [ansM.eq_def];simp [h1]
theorem ansM_tru {m:List UInt8} {b v:Int} {ts:List Tm} {f d:Tm} {nx:Int} : ansM (.mk 2 sCurly m b v ts) f d nx=okA (cmpT sComma [atomT sTrue,eqT f d]) nx:=by rw [ansM.eq_def];simp
theorem ansM_cut {m:List UInt8} {b v:Int} {ts:List Tm} {f d:Tm} {nx:Int} : ansM (.mk 2 sCut m b v ts) f d nx=okA (cmpT sComma [.mk 2 sCut m b v ts,eqT f d]) nx:=by
 have h1:sCut≠sCurly:=by decide
 rw [ansM.eq_def];simp [h1]
theorem ansM_nil {m:List UInt8} {b v:Int} {ts:List Tm} {f d:Tm} {nx:Int} : ansM (.mk 2 sNil m b v ts) f d nx=okA (eqT f d) nx:=by
 have h1:sNil≠sCurly:=by decide
 have h2:sNil≠sCut:=by decide
 rw [ansM.eq_def];simp [h1,h2]
theorem ansM_dot {m:List UInt8} {b v:Int} {x y f d:Tm} {nx:Int} : ansM (.mk 5 sDot m b v [x,y]) f d nx=if isNil (elems (.mk 5 sDot m b v [x,y])).2 then okA (eqT f (endT (elems (.mk 5 sDot m b v [x,y])).1 d)) nx else badA (typedT sList (.mk 5 sDot m b v [x,y])):=by
 have h1:¬(sDot=sComma∨sDot=sArrow):=by decide
 have h2:¬(sDot=sSemi∨sDot=sBar):=by decide
 rw [ansM.eq_def];simp [h1,h2]
theorem ansM_atom {n m:List UInt8} {b v:Int} {ts:List Tm} {f d:Tm} {nx:Int} (h1:n≠sCurly) (h2:n≠sCut) (h3:n≠sNil):ansM (.mk 2 n m b v ts) f d nx=putA (.mk 2 n m b v ts) f d nx:=by
 rw [ansM.eq_def];simp [h1,h2,h3]
theorem ansM_cmp {n m:List UInt8} {b v:Int} {ts:List Tm} {f d:Tm} {nx:Int} (h1:isC (.mk 5 n m b v ts) sComma 2=false) (h2:isC (.mk 5 n m b v ts) sSemi 2=false) (h3:isC (.mk 5 n m b v ts) sBar 2=false) (h4:isC (.mk 5 n m b v ts) sArrow 2=false) (h5:isC (.mk 5 n m b v ts) sNot 1=false) (h6:isC (.mk 5 n m b v ts) sCurly 1=false) (h7:isC (.mk 5 n m b v ts) sDot 2=false) :
  ansM (.mk 5 n m b v ts) f d nx=putA (.mk 5 n m b v ts) f d nx:=by
 simp only [isC,Tm.k,Tm.n,Tm.as,decide_true,Bool.true_and,Bool.and_eq_false_iff,decide_eq_false_iff_not] at h1 h2 h3 h4 h5 h6 h7
 match ts with
 | []=>rw [ansM.eq_def];simp
 | [x]=>
  have a5:n≠sNot:=fun e=>by rw [e] at h5;simp at h5
  have a6:n≠sCurly:=fun e=>by rw [e] at h6;simp at h6
  rw [ansM.eq_def];simp [a5,a6]
 | [x,y]=>
  have a1:n≠sComma:=fun e=>by rw [e] at h1;simp at h1
  have a2:n≠sSemi:=fun e=>by rw [e] at h2;simp at h2
  have a3:n≠sBar:=fun e=>by rw [e] at h3;simp at h3
  have a4:n≠sArrow:=fun e=>by rw [e] at h4;simp at h4
  have a7:n≠sDot:=fun e=>by rw [e] at h7;simp at h7
  rw [ansM.eq_def];simp [a1,a2,a3,a4,a7]
 | x :: y :: z :: r=>rw [ansM.eq_def];simp
def RelA (B:Int) (r:Except Tm (Tm × Int)) (a:Ans):Prop:=match r with | .ok (g,n')=>a=okA g n' | .error e=>a.i=true∧a.b=e∧0≤a.n∧a.n≤B
theorem rel_put {t f d:Tm} {nx B:Int} (h0:0≤nx) (hB:nx≤B):RelA B ((putT t f d).map fun g=>(g,nx)) (putA t f d nx):=by
 unfold putT putA
 by_cases h:62<t.as.length
 ·rw [if_pos h,if_pos h];exact ⟨rfl,rfl,h0,hB⟩
 ·rw [if_neg h,if_neg h];rfl
theorem rel_any {utf canon:List UInt8→Bool} {flo:Int→Bool} (t:Tm):∀ {f d:Tm} {nx:Int},errs utf canon flo t=0→0≤nx→RelA (nx+sz t) (mkB t f d nx) (ansM t f d nx):=by
 refine Tm.ind (p:=fun t=>∀ {f d:Tm} {nx:Int},errs utf canon flo t=0→0≤nx→RelA (nx+sz t) (mkB t f d nx) (ansM t f d nx)) (fun k n m b v ts ih f d nx h h0=>?_) t
 have hsp:=sz_pos (.mk k n m b v ts)
 have hB0:nx≤nx+sz (.mk k n m b v ts):=by omega
 have hB1:(0:Int)≤nx+sz (.mk k n m b v ts):=by omega
 obtain ⟨h1,h2⟩:=errs_iff.1 h
 have hk:=(one_iff.1 h1).1
 change 1≤k∧k≤5 at hk
 change ∀ a∈ts,_ at h2
 by_cases k1:k=1
 ·subst k1;rw [mkB_var,ansM_var];rfl
 by_cases k34:k=3∨k=4
 ·rw [mkB_bad (by omega) (by omega) (by omega),ansM_num k34];exact ⟨rfl,rfl,Int.le_refl _,hB1⟩
 by_cases k2:k=2
 ·subst k2
  by_cases n1:n=sCurly
  ·subst n1;rw [mkB_tru,ansM_tru];rfl
  by_cases n2:n=sCut
  ·subst n2;rw [mkB_cut,ansM_cut];rfl
  by_cases n3:n=sNil
  ·subst n3;rw [mkB_nil,ansM_nil];rfl
  rw [mkB_atom n1 n2 n3,ansM_atom n1 n2 n3];exact rel_put h0 hB0
 obtain rfl:k=5:=by omega
 have seq:∀ {s:List UInt8} {x y f1 f2 d1 d2:Tm} {nx1 B:Int},x∈ts→y∈ts→0≤nx1→nx1+sz x+sz y≤B→∀ {R:Except Tm (Tm × Int)} {A:Ans},
   (∀ e,mkB x f1 d1 nx1 = .error e→R = .error e)→(∀ a n1,mkB x f1 d1 nx1 = .ok (a,n1)→R=seqK s a (mkB y f2 d2 n1)) →
   A=(if (ansM x f1 d1 nx1).i=true then badA (ansM x f1 d1 nx1).b else joinA s (ansM x f1 d1 nx1) (ansM y f2 d2 (ansM x f1 d1 nx1).n))→RelA B R A:=by
  intro s x y f1 f2 d1 d2 nx1 B hx hy hn0 hnB R A hR1 hR2 hA
  have r1:=ih x hx (f:=f1) (d:=d1) (nx:=nx1) (h2 x hx) hn0
  cases hm:mkB x f1 d1 nx1 with
  | error e=>
   rw [hm] at r1
   rw [hR1 e hm,hA,if_pos r1.1]
   exact ⟨rfl,r1.2.1,Int.le_refl _,show (0:Int)≤B by omega⟩
  | ok p=>
   obtain ⟨a,n1⟩:=p
   rw [hm] at r1
   have r1':ansM x f1 d1 nx1=okA a n1:=r1
   rw [hR2 a n1 hm,hA,r1',if_neg (by simp [okA])]
   have r2:=ih y hy (f:=f2) (d:=d2) (nx:=n1) (h2 y hy) (by have:=mkB_next hm;omega)
   have hnn:=mkB_next hm
   show RelA _ _ (joinA s (okA a n1) (ansM y f2 d2 n1))
   cases hm2:mkB y f2 d2 n1 with
   | error e=>rw [hm2] at r2;exact ⟨r2.1,r2.2.1,r2.2.2.1,show (ansM y f2 d2 n1).n≤B by have:=r2.2.2.2;omega⟩
   | ok q=>
    obtain ⟨c,n2⟩:=q
    rw [hm2] at r2
    have r2':ansM y f2 d2 n1=okA c n2:=r2
    rw [r2'];rfl
 by_cases c2:ts.length=2
 ·obtain ⟨x,y,rfl⟩:∃ x y,ts = [x,y]:=by
   match ts,c2 with
   | [x,y],_=>exact ⟨x,y,rfl⟩
  by_cases n1:n=sComma∨n=sArrow
  ·rw [mkB_seq n1,ansM_two n1]
   exact seq (by simp) (by simp) (by omega) (by simp only [sz,szs];omega) (fun e he=>seqR_bad he) (fun a n1 ha=>seqR_ok ha) rfl
  by_cases n2:n=sSemi∨n=sBar
  ·rw [mkB_alt n2,ansM_alt n2]
   exact seq (by simp) (by simp) h0 (by simp only [sz,szs];omega) (fun e he=>altR_bad he) (fun a n1 ha=>altR_ok ha) rfl
  by_cases n3:n=sDot
  ·subst n3
   rw [mkB_dot,ansM_dot]
   by_cases hn:isNil (elems (.mk 5 sDot m b v [x,y])).2=true
   ·rw [if_pos hn,if_pos hn];rfl
   ·rw [if_neg hn,if_neg hn];exact ⟨rfl,rfl,Int.le_refl _,hB1⟩
  have f1:∀ s,n≠s→isC (.mk 5 n m b v [x,y]) s 2=false:=fun s hs=>by simp [isC,Tm.n,hs]
  have f2:∀ s,isC (.mk 5 n m b v [x,y]) s 1=false:=fun s=>by simp [isC,Tm.as]
  rw [mkB_cmp (f1 _ (fun e=>n1 (.inl e))) (f1 _ (fun e=>n2 (.inl e))) (f1 _ (fun e=>n2 (.inr e))) (f1 _ (fun e=>n1 (.inr e))) (f2 _) (f2 _) (f1 _ n3),ansM_cmp (f1 _ (fun e=>n1 (.inl e))) (f1 _ (fun e=>n2 (.inl e))) (f1 _ (fun e=>n2 (.inr e))) (f1 _ (fun e=>n1 (.inr e))) (f2 _) (f2 _) (f1 _ n3)]
  exact rel_put h0 hB0
 by_cases c1:ts.length=1
 ·obtain ⟨x,rfl⟩:∃ x,ts = [x]:=by
   match ts,c1 with
   | [x],_=>exact ⟨x,rfl⟩
  by_cases n1:n=sNot
  ·subst n1
   rw [mkB_neg,ansM_neg]
   have r1:=ih x (by simp) (f:=f) (d:=varT nx) (nx:=nx+1) (h2 x (by simp)) (by omega)
   cases hm:mkB x f (varT nx) (nx+1) with
   | error e=>rw [hm] at r1;exact ⟨r1.1,r1.2.1,r1.2.2.1,show (ansM x f (varT nx) (nx+1)).n≤_ by have:=r1.2.2.2;simp only [sz,szs];omega⟩
   | ok p=>
    obtain ⟨a,n1⟩:=p
    rw [hm] at r1
    have r1':ansM x f (varT nx) (nx+1)=okA a n1:=r1
    rw [r1'];rfl
  by_cases n2:n=sCurly
  ·subst n2;rw [mkB_curly,ansM_curly];rfl
  have f1:∀ s,n≠s→isC (.mk 5 n m b v [x]) s 1=false:=fun s hs=>by simp [isC,Tm.n,hs]
  have f2:∀ s,isC (.mk 5 n m b v [x]) s 2=false:=fun s=>by simp [isC,Tm.as]
  rw [mkB_cmp (f2 _) (f2 _) (f2 _) (f2 _) (f1 _ n1) (f1 _ n2) (f2 _),ansM_cmp (f2 _) (f2 _) (f2 _) (f2 _) (f1 _ n1) (f1 _ n2) (f2 _)]
  exact rel_put h0 hB0
 ·have f1:∀ s,isC (.mk 5 n m b v ts) s 1=false:=fun s=>by simp [isC,Tm.as,c1]
  have f2:∀ s,isC (.mk 5 n m b v ts) s 2=false:=fun s=>by simp [isC,Tm.as,c2]
  rw [mkB_cmp (f2 _) (f2 _) (f2 _) (f2 _) (f1 _) (f1 _) (f2 _),ansM_cmp (f2 _) (f2 _) (f2 _) (f2 _) (f1 _) (f1 _) (f2 _)]
  exact rel_put h0 hB0
theorem ansM_n {utf canon:List UInt8→Bool} {flo:Int→Bool} {t f d:Tm} {nx:Int} (h:errs utf canon flo t=0) (h0:0≤nx):0≤(ansM t f d nx).n∧(ansM t f d nx).n≤nx+sz t:=by
 have r:=rel_any t (f:=f) (d:=d) h h0
 cases hm:mkB t f d nx with
 | error e=>rw [hm] at r;exact r.2.2
 | ok p=>
  obtain ⟨g,n'⟩:=p
  rw [hm] at r
  have r':ansM t f d nx=okA g n':=r
  have:=mkB_next hm
  rw [r']
  show 0≤n'∧n'≤_
  omega
theorem twoA_n {utf canon:List UInt8→Bool} {flo:Int→Bool} {s:List UInt8} {x y f d:Tm} {nx:Int} (hx:errs utf canon flo x=0) (hy:errs utf canon flo y=0) (h0:0≤nx):0≤(twoA s x y f d nx).n∧(twoA s x y f d nx).n≤nx+1+sz x+sz y:=by
 have h1:=ansM_n (f:=f) (d:=varT nx) (nx:=nx+1) hx (by omega)
 unfold twoA
 by_cases h:(ansM x f (varT nx) (nx+1)).i=true
 ·rw [if_pos h]
  show (0:Int)≤0∧(0:Int)≤_
  omega
 ·rw [if_neg h]
  have h2:=ansM_n (f:=varT nx) (d:=d) (nx:=(ansM x f (varT nx) (nx+1)).n) hy h1.1
  show 0≤(ansM y (varT nx) d (ansM x f (varT nx) (nx+1)).n).n∧_
  refine ⟨h2.1,?_⟩
  show (ansM y (varT nx) d (ansM x f (varT nx) (nx+1)).n).n≤_
  omega
end Ht
namespace Go.Proofs.YtgfeainpeplphaaDoor
open Go Go.RowKit
section
variable {P:Program} {md:Region.Mode} {ops:Array Oper} {Q:Exit→Act→World→Prop} {S:World→Prop} {st:Nat}
def flAll:List Nat→Array Bool→Array Bool
 | [],l=>l
 | i :: E,l=>(flAll E l).setIfInBounds i true
def flL (D:Nat→Option Nat):List Nat→Array Bool→Array Bool
 | [],l=>l
 | i :: E,l=>if (D i).isSome then (flL D E l).setIfInBounds i true else flL D E l
def flA (ops:Array Oper) (D:Nat→Option Nat):List Nat→Act→Act
 | [],a=>a
 | i :: E,a=>match D i with
  | some H=>(flA ops D E a).put ((ops[i]?).bind (·.dst)) (.pointer (some ⟨H,0,none⟩))
  | none=>flA ops D E a
def pend (md:Region.Mode) (ops:Array Oper) (listed:Array Bool) (E:List Nat):List Nat:=
 (List.range ops.size).filter fun i=>!E.contains i && !listed.getD i true && ((ops[i]?).map fun o=>(o.after.all fun e=>!Region.binds md e || listed.getD e.on false || E.contains e.on) && E.any fun f=>o.after.all fun e=>!Region.binds md e || e.on != f).getD false
def farFrom (ops:Array Oper) (E:List Nat) (o:Oper):Bool:=E.all fun f=>match (ops[f]?).bind (·.dst) with
 | some d=>!(o.looksAt ops).contains d && o.dst != some d
 | none=>true
def floatsB (md:Region.Mode) (ops:Array Oper):List Nat→Bool
 | []=>true
 | i :: E=>!E.contains i && (match ops[i]? with
  | some o=>o.guard.isNone && (o.after.all fun e=>!Region.binds md e) && (match o.dst with
   | some d=>E.all fun j=>(ops[j]?).bind (·.dst) != some d
   | none=>false)
  | none=>false) && floatsB md ops E
def FloatRun (P:Program) (ops:Array Oper) (E:List Nat) (obj:Nat→Obj):Prop:=∀ i∈E,∀ o,ops[i]?=some o→∀ (a:Act) (w:World),(execOp a.eval o).run P w = .ok (.value (.pointer (some ⟨w.heap.size,0,none⟩))) (w.alloc (obj i))
theorem flL_getD (D:Nat→Option Nat) {j:Nat} {d:Bool} {l:Array Bool} : ∀ E:List Nat,((E.contains j && (D j).isSome)=false)→(flL D E l).getD j d=l.getD j d
 | [],_=>rfl
 | i :: E,h=>by
  have h':(E.contains j && (D j).isSome)=false:=by
   rw [List.contains_cons] at h
   cases hc:(D j).isSome
   ·simp
   ·rw [hc] at h;simp at h;simp [h.2]
  unfold flL
  split
  ·rename_i hs
   have hne:i≠j:=fun e=>by subst e;simp [hs] at h
   rw [getD_set_ne d hne];exact flL_getD D E h'
  ·exact flL_getD D E h'
theorem flL_or (D:Nat→Option Nat) {j:Nat} {l:Array Bool} : ∀ E:List Nat,(flL D E l).getD j false=true→l.getD j false=true∨(j∈E∧(D j).isSome=true)
 | [],h=>.inl h
 | i :: E,h=>by
  unfold flL at h
  split at h
  ·rename_i hs
   by_cases hij:i=j
   ·subst hij;exact .inr ⟨List.mem_cons_self,hs⟩
   ·rw [getD_set_ne false hij] at h
    exact (flL_or D E h).imp id fun h=>⟨List.mem_cons_of_mem _ h.1,h.2⟩
  ·exact (flL_or D E h).imp id fun h=>⟨List.mem_cons_of_mem _ h.1,h.2⟩
theorem flL_set (D:Nat→Option Nat) {j:Nat} {l:Array Bool} : ∀ E:List Nat,j∉E→flL D E (l.setIfInBounds j true)=(flL D E l).setIfInBounds j true
 | [],_=>rfl
 | i :: E,h=>by
  have h1:j∉E:=fun h'=>h (List.mem_cons_of_mem _ h')
  have h2:i≠j:=fun e=>h (e ▸ List.mem_cons_self)
  unfold flL
  split
  ·rw [flL_set D E h1,Array.setIfInBounds_comm _ _ (Ne.symm h2)]
  ·exact flL_set D E h1
theorem flL_all (D:Nat→Option Nat) {l:Array Bool} : ∀ E:List Nat,(∀ i∈E,(D i).isSome=true)→flL D E l=flAll E l
 | [],_=>rfl
 | i :: E,h=>by
  unfold flL flAll
  rw [if_pos (h i List.mem_cons_self),flL_all D E fun j hj=>h j (List.mem_cons_of_mem _ hj)]
def upd (D:Nat→Option Nat) (i H:Nat):Nat→Option Nat:=fun j=>if j=i then some H else D j
theorem flL_same {D D':Nat→Option Nat} {l:Array Bool} : ∀ E:List Nat,(∀ j∈E,D j=D' j)→flL D E l=flL D' E l
 | [],_=>rfl
 | i :: E,h=>by
  unfold flL
  rw [h i List.mem_cons_self,flL_same E fun j hj=>h j (List.mem_cons_of_mem _ hj)]
theorem flA_same {D D':Nat→Option Nat} {a:Act} : ∀ E:List Nat,(∀ j∈E,D j=D' j)→flA ops D E a=flA ops D' E a
 | [],_=>rfl
 | i :: E,h=>by
  unfold flA
  rw [h i List.mem_cons_self,flA_same E fun j hj=>h j (List.mem_cons_of_mem _ hj)]
theorem flL_upd {D:Nat→Option Nat} {i H:Nat} {l:Array Bool} : ∀ E:List Nat,floatsB md ops E=true→i∈E→D i=none→flL (upd D i H) E l=(flL D E l).setIfInBounds i true
 | [],_,hi,_=>by cases hi
 | k :: E,hf,hi,hn=>by
  simp only [floatsB,Bool.and_eq_true,Bool.not_eq_true'] at hf
  have hk:k∉E:=by simpa using hf.1.1
  by_cases hki:k=i
  ·subst hki
   unfold flL
   rw [hn]
   simp only [upd,if_pos,Option.isSome_some,Option.isSome_none,Bool.false_eq_true,if_false]
   rw [flL_same (D:=upd D k H) (D':=D) E fun j hj=>if_neg (fun e:j=k=>hk (by rw [←e];exact hj))]
  ·have hi':i∈E:=(List.mem_cons.1 hi).resolve_left (Ne.symm hki)
   unfold flL
   have:upd D i H k=D k:=if_neg hki
   rw [this,flL_upd E hf.2 hi' hn]
   split
   ·rw [Array.setIfInBounds_comm _ _ (Ne.symm hki)]
   ·rfl
theorem floatsB_dst {i:Nat} : ∀ E:List Nat,floatsB md ops E=true→i∈E→∃ o d,ops[i]?=some o∧o.guard=none∧o.dst=some d∧(∀ e∈o.after,Region.binds md e=false)
 | [],_,hi=>by cases hi
 | k :: E,hf,hi=>by
  simp only [floatsB,Bool.and_eq_true] at hf
  rcases List.mem_cons.1 hi with rfl | hi
  ·have h:=hf.1.2
   cases ho:ops[i]? with
   | none=>rw [ho] at h;simp at h
   | some o=>
    rw [ho] at h
    simp only [Bool.and_eq_true] at h
    cases hd:o.dst with
    | none=>rw [hd] at h;simp at h
    | some d=>exact ⟨o,d,rfl,by simpa using h.1.1,hd,fun e he=>by have:=Array.all_eq_true'.1 h.1.2 e he;simpa using this⟩
  ·exact floatsB_dst E hf.2 hi
theorem flA_upd {D:Nat→Option Nat} {i H:Nat} {a:Act} : ∀ E:List Nat,floatsB md ops E=true→i∈E→D i=none→flA ops (upd D i H) E a=(flA ops D E a).put ((ops[i]?).bind (·.dst)) (.pointer (some ⟨H,0,none⟩))
 | [],_,hi,_=>by cases hi
 | k :: E,hf,hi,hn=>by
  simp only [floatsB,Bool.and_eq_true,Bool.not_eq_true'] at hf
  have hk:k∉E:=by simpa using hf.1.1
  by_cases hki:k=i
  ·subst hki
   unfold flA
   rw [hn]
   have:upd D k H k=some H:=if_pos rfl
   rw [this]
   simp only
   rw [flA_same (D:=upd D k H) (D':=D) E fun j hj=>if_neg (fun e:j=k=>hk (by rw [←e];exact hj))]
  ·have hi':i∈E:=(List.mem_cons.1 hi).resolve_left (Ne.symm hki)
   unfold flA
   have:upd D i H k=D k:=if_neg hki
   rw [this,flA_upd E hf.2 hi' hn]
   split
   ·rw [Act.put_comm]
    intro d hd he
    have h:=hf.1.2
    cases ho:ops[k]? with
    | none=>rw [ho] at h;simp at h
    | some o=>
     rw [ho] at h he
     simp only [Bool.and_eq_true] at h
     have he':o.dst=some d:=he
     rw [he'] at h
     have:=List.all_eq_true.1 h.2 i hi'
     rw [hd] at this
     simp at this
   ·rfl
theorem wpOp_under {j:Nat} {oj:Oper} {d:Tmp} {v:Value} (hj:ops[j]?=some oj) (hsj:∀ cs b,oj.op ≠ .select cs b) (hlook:d∉oj.looksAt ops) (hdst:oj.dst≠some d)
  (hQ:∀ c (a:Act) d v w,Q (.panic c) a w→Q (.panic c) (a.put (some d) v) w) {K:Act→World→Prop} {a:Act} {w:World} (h:wpOp P ops Q j (fun a' w'=>K (a'.put (some d) v) w') a w) :
  wpOp P ops Q j K (a.put (some d) v) w:=by
 have h1:∀ d',some d=some d'→d'∉oj.looksAt ops:=fun d' e=>by injection e with e;exact e ▸ hlook
 have h2:∀ d',oj.dst=some d'→some d≠some d':=fun d' e e2=>hdst (e.trans e2.symm)
 unfold wpOp at *
 simp only [hj] at *
 rw [wanted_put oj a (some d) v h1]
 split
 ·rename_i hw
  simp only [hw,if_true] at h
  rcases h with h | ⟨hasks,hlets⟩
  case inr=>exact .inr ⟨by unfold Oper.asks at *;rw [execOp_put oj hsj a (some d) v h1];exact hasks,hlets⟩
  refine .inl ?_
  unfold Oper.wp at *
  rw [execOp_put oj hsj a (some d) v h1]
  generalize (execOp a.eval oj).run P w=r at *
  cases r with
  | ok n w'=>
   cases n <;> simp only [Oper.upon] at h ⊢
   case value u=>rw [←Act.put_comm a u v h2];exact h
   case skip=>rw [←Act.put_comm a undef v h2];exact h
   case defer dd=>
    rw [Act.put_defers,←Act.put_comm _ undef v h2]
    exact h
   case enter f args=>
    refine Calls.mono h fun e w'' he=>?_
    cases e with
    | returned u=>
     show K ((a.put (some d) v).put oj.dst u) w''
     rw [←Act.put_comm a u v h2];exact he
    | panicked c=>exact hQ _ _ _ _ _ he
    | outgrown=>exact he
   case row row args=>exact Rows.mono h fun u w'' he=>by rw [←Act.put_comm a u v h2];exact he
  | halt x w'=>
   cases x <;> simp only [Oper.upon] at h ⊢
   case panic u=>exact hQ _ _ _ _ _ h
 ·rename_i hw
  simp only [hw] at h
  rw [←Act.put_comm a undef v h2];exact h
theorem farFrom_spec {o:Oper} : ∀ E:List Nat,farFrom ops E o=true→∀ f∈E,∀ d,(ops[f]?).bind (·.dst)=some d→d∉o.looksAt ops∧o.dst≠some d:=fun E h f hf d hd=>by
 have h1:=List.all_eq_true.1 h f hf
 rw [hd] at h1
 simpa using h1
theorem wpOp_far {j:Nat} {oj:Oper} (hj:ops[j]?=some oj) (hsj:∀ cs b,oj.op ≠ .select cs b) (hQ:∀ c (a:Act) d v w,Q (.panic c) a w→Q (.panic c) (a.put (some d) v) w) (D:Nat→Option Nat) :
  ∀ (E:List Nat),floatsB md ops E=true→farFrom ops E oj=true→∀ {K:Act→World→Prop} {a:Act} {w:World},wpOp P ops Q j (fun a' w'=>K (flA ops D E a') w') a w→wpOp P ops Q j K (flA ops D E a) w
 | [],_,_,_,_,_,h=>h
 | i :: E,hf,hfar,K,a,w,h=>by
  have hff:=hf
  have hfar':=farFrom_spec _ hfar i List.mem_cons_self
  simp only [floatsB,Bool.and_eq_true] at hf
  simp only [farFrom,List.all_cons,Bool.and_eq_true] at hfar
  obtain ⟨o,d,ho,_,hd,_⟩:=floatsB_dst _ hff List.mem_cons_self
  have hod:(ops[i]?).bind (·.dst)=some d:=by rw [ho];exact hd
  unfold flA at h ⊢
  cases hD:D i with
  | none=>
   simp only [hD] at h ⊢
   exact wpOp_far hj hsj hQ D E hf.2 hfar.2 h
  | some H=>
   simp only [hD,hod] at h ⊢
   exact wpOp_under hj hsj (hfar' d hod).1 (hfar' d hod).2 hQ (wpOp_far hj hsj hQ D E hf.2 hfar.2 (K:=fun a' w'=>K (a'.put (some d) _) w') h)
def FlOk (E:List Nat) (obj:Nat→Obj) (D:Nat→Option Nat) (w:World) (G:Nat→Prop):Prop:=
 (∀ i∈E,∃ H,D i=some H∧w.heap[H]?=some (obj i)∧G H)∧∀ i∈E,∀ j∈E,i≠j→D i≠D j
def gapTo (G:Nat→Prop) (w w':World):Nat→Prop:=fun b=>G b∨(w.heap.size≤b∧b<w'.heap.size)
def wpAnyF (P:Program) (md:Region.Mode) (ops:Array Oper) (Q:Exit→Act→World→Prop) (S:World→Prop) (st:Nat) (E:List Nat) (obj:Nat→Obj):Nat→Array Bool→Act→World→(Nat→Prop)→Prop
 | 0,listed,a,w,G=>∀ w',Below w.heap.size w w'→S w' →
  (∀ D,FlOk E obj D w' (gapTo G w w')→wpAnyW P md ops Q S st 0 (flL D E listed) (flA ops D E a) w')∧pend md ops listed E = []
 | fuel+1,listed,a,w,G=>∀ w',Below w.heap.size w w'→S w' →
  (∀ D,FlOk E obj D w' (gapTo G w w')→wpAnyW P md ops Q S st (fuel+1) (flL D E listed) (flA ops D E a) w') ∧
  ∀ i∈pend md ops listed E,i∉E∧∃ o,ops[i]?=some o∧farFrom ops E o=true∧wpOp P ops Q i (fun a' w''=>Below w'.heap.size w' w''∧S w''∧wpAnyF P md ops Q S st E obj fuel (listed.setIfInBounds i true) a' w'' (gapTo G w w')) a w'
variable {E:List Nat} {obj:Nat→Obj}
theorem FlOk.more {D:Nat→Option Nat} {w:World} {G G':Nat→Prop} (h:FlOk E obj D w G) (hG:∀ b,G b→G' b):FlOk E obj D w G':=
 ⟨fun i hi=>let ⟨H,h1,h2,h3⟩:=h.1 i hi;⟨H,h1,h2,hG _ h3⟩,h.2⟩
theorem FlOk.below {D:Nat→Option Nat} {w w':World} {G:Nat→Prop} (h:FlOk E obj D w G) (hb:Below w.heap.size w w'):FlOk E obj D w' G:=
 ⟨fun i hi=>let ⟨H,h1,h2,h3⟩:=h.1 i hi;⟨H,h1,(hb.block H (Array.getElem?_eq_some_iff.1 h2).1).trans h2,h3⟩,h.2⟩
theorem gapTo_back {G:Nat→Prop} {w w1 w2:World} (h1:w.heap.size≤w1.heap.size) (h2:w1.heap.size≤w2.heap.size) (b:Nat) (h:gapTo (gapTo G w w1) w1 w2 b):gapTo G w w2 b:=by
 unfold gapTo at *
 rcases h with (h | h) | h
 ·exact .inl h
 ·exact .inr ⟨h.1,by omega⟩
 ·exact .inr ⟨by omega,h.2⟩
theorem wpAnyF_gap:∀ {fuel:Nat} {listed:Array Bool} {a:Act} {w:World} {G G':Nat→Prop},(∀ b,G' b→G b)→wpAnyF P md ops Q S st E obj fuel listed a w G→wpAnyF P md ops Q S st E obj fuel listed a w G'
 | 0,_,_,_,_,_,hG,h=>fun w' hb hS=>⟨fun D hD=>(h w' hb hS).1 D (hD.more fun b=>Or.imp (hG b) id),(h w' hb hS).2⟩
 | fuel+1,_,_,_,_,_,hG,h=>fun w' hb hS=>⟨fun D hD=>(h w' hb hS).1 D (hD.more fun b=>Or.imp (hG b) id),fun i hi=>let ⟨h1,o,h2,h3,h4⟩:=(h w' hb hS).2 i hi
   ⟨h1,o,h2,h3,wpOp_mono (fun a' w'' h=>⟨h.1,h.2.1,wpAnyF_gap (fun b=>Or.imp (hG b) id) h.2.2⟩) h4⟩⟩
theorem wpAnyF_later {fuel:Nat} {listed:Array Bool} {a:Act} {w w1:World} {G:Nat→Prop} (hb:Below w.heap.size w w1) (h:wpAnyF P md ops Q S st E obj fuel listed a w G):wpAnyF P md ops Q S st E obj fuel listed a w1 (gapTo G w w1):=by
 cases fuel with
 | zero=>
  intro w' hb' hS
  have h:=h w' (hb.trans (hb'.mono hb.size)) hS
  exact ⟨fun D hD=>h.1 D (hD.more (gapTo_back hb.size hb'.size)),h.2⟩
 | succ fuel=>
  intro w' hb' hS
  have h:=h w' (hb.trans (hb'.mono hb.size)) hS
  refine ⟨fun D hD=>h.1 D (hD.more (gapTo_back hb.size hb'.size)),fun i hi=>?_⟩
  obtain ⟨h1,o,h2,h3,h4⟩:=h.2 i hi
  exact ⟨h1,o,h2,h3,wpOp_mono (fun a' w'' h=>⟨h.1,h.2.1,wpAnyF_gap (gapTo_back hb.size hb'.size) h.2.2⟩) h4⟩
theorem flL_done {D:Nat→Option Nat} {i:Nat} {l:Array Bool} : ∀ E:List Nat,i∈E→(D i).isSome=true→(flL D E l).getD i true=true
 | [],h,_=>by cases h
 | k :: E,h,hs=>by
  have key:∀ (l':Array Bool),(l'.setIfInBounds i true).getD i true=true:=fun l'=>by
   rcases Nat.lt_or_ge i l'.size with h' | h'
   ·simp [h']
   ·simp [Array.getElem?_eq_none (show (l'.setIfInBounds i true).size≤i by simpa using h')]
  unfold flL
  by_cases hk:k=i
  ·subst hk
   rw [if_pos hs];exact key _
  ·have h1:i∈E:=(List.mem_cons.1 h).resolve_left (Ne.symm hk)
   split
   ·rw [getD_set_ne true hk];exact flL_done E h1 hs
   ·exact flL_done E h1 hs
theorem pend_of_ready {D:Nat→Option Nat} {i f:Nat} {l:Array Bool} (hf:f∈E) (hn:D f=none) (hl:l.getD f true=false) (hi:i∉E) (h:i∈Region.ready md ops (flL D E l)):i∈pend md ops l E:=by
 obtain ⟨h0,o,ho,hall⟩:=mem_ready.1 h
 have hlt:i<ops.size:=(Array.getElem?_eq_some_iff.1 ho).1
 have hc:E.contains i=false:=by simpa using hi
 rw [flL_getD D E (by simp [hi])] at h0
 unfold pend
 rw [List.mem_filter,List.mem_range]
 refine ⟨hlt,?_⟩
 rw [ho]
 simp only [Option.map_some,Option.getD_some,Bool.and_eq_true,Bool.not_eq_true']
 refine ⟨⟨hc,h0⟩,Array.all_eq_true'.2 fun e he=>?_,List.any_eq_true.2 ⟨f,hf,Array.all_eq_true'.2 fun e he=>?_⟩⟩
 ·cases hb:Region.binds md e with
  | false=>simp
  | true=>
   rcases flL_or D E (hall e he hb) with h | h
   ·simp [h]
   ·simp [h.1]
 ·cases hb:Region.binds md e with
  | false=>simp
  | true=>
   have h1:=hall e he hb
   by_cases hef:e.on=f
   ·rw [hef,flL_getD D E (by simp [hn])] at h1
    rcases Nat.lt_or_ge f l.size with h' | h'
    ·simp [h'] at hl h1;rw [hl] at h1;cases h1
    ·simp [Array.getElem?_eq_none h'] at h1
   ·simp [hef]
def outs (D:Nat→Option Nat):List Nat→Nat
 | []=>0
 | i :: E=>(if (D i).isSome then 0 else 1)+outs D E
theorem outs_zero {D:Nat→Option Nat} : ∀ E:List Nat,outs D E=0→∀ i∈E,∃ H,D i=some H
 | [],_,_,h=>by cases h
 | k :: E,h0,i,h=>by
  unfold outs at h0
  rcases List.mem_cons.1 h with rfl | h
  ·cases hD:D i with
   | none=>rw [hD] at h0;simp at h0
   | some H=>exact ⟨H,rfl⟩
  ·exact outs_zero E (by omega) i h
theorem outs_pos {D:Nat→Option Nat} : ∀ E:List Nat,outs D E≠0→∃ f∈E,D f=none
 | [],h=>absurd rfl h
 | k :: E,h=>by
  unfold outs at h
  cases hD:D k with
  | none=>exact ⟨k,List.mem_cons_self,hD⟩
  | some H=>
   rw [hD] at h
   obtain ⟨f,hf,hn⟩:=outs_pos E (by simpa using h)
   exact ⟨f,List.mem_cons_of_mem _ hf,hn⟩
theorem outs_same {D D':Nat→Option Nat} : ∀ E:List Nat,(∀ j∈E,D j=D' j)→outs D E=outs D' E
 | [],_=>rfl
 | i :: E,h=>by
  unfold outs
  rw [h i List.mem_cons_self,outs_same E fun j hj=>h j (List.mem_cons_of_mem _ hj)]
theorem outs_upd {D:Nat→Option Nat} {i H:Nat} : ∀ E:List Nat,floatsB md ops E=true→i∈E→D i=none→outs D E=outs (upd D i H) E+1
 | [],_,hi,_=>by cases hi
 | k :: E,hf,hi,hn=>by
  simp only [floatsB,Bool.and_eq_true,Bool.not_eq_true'] at hf
  have hk:k∉E:=by simpa using hf.1.1
  by_cases hki:k=i
  ·subst hki
   unfold outs
   rw [hn,outs_same (D:=upd D k H) (D':=D) E fun j hj=>if_neg (fun e:j=k=>hk (by rw [←e];exact hj))]
   simp [upd];omega
  ·have hi':i∈E:=(List.mem_cons.1 hi).resolve_left (Ne.symm hki)
   unfold outs
   have:upd D i H k=D k:=if_neg hki
   rw [this,outs_upd (H:=H) E hf.2 hi' hn]
   omega
theorem wpAnyF_core (hf:floatsB md ops E=true) (hrun:FloatRun P ops E obj) (hSs:∀ w w',Below w.heap.size w w'→S w→S w') (hsel:Region.noSelect ops=true)
  (hQ:∀ c (a:Act) d v w,Q (.panic c) a w→Q (.panic c) (a.put (some d) v) w) :
  ∀ (n fuel:Nat) (listed:Array Bool) (a:Act) (w:World) (G:Nat→Prop) (D:Nat→Option Nat),n=fuel+outs D E→(∀ i∈E,listed.getD i true=false) →
   (∀ i∈E,∀ H,D i=some H→w.heap[H]?=some (obj i)∧G H)→(∀ i∈E,∀ j∈E,i≠j→∀ H,D i=some H→D j≠some H)→S w →
   wpAnyF P md ops Q S st E obj fuel listed a w G→wpAnyW P md ops Q S st n (flL D E listed) (flA ops D E a) w:=by
 have full:∀ {D:Nat→Option Nat} {w:World} {G:Nat→Prop},outs D E=0→(∀ i∈E,∀ H,D i=some H→w.heap[H]?=some (obj i)∧G H)→(∀ i∈E,∀ j∈E,i≠j→∀ H,D i=some H→D j≠some H)→FlOk E obj D w (gapTo G w w):=fun h0 hD hne=>by
  refine ⟨fun i hi=>?_,fun i hi j hj hij e=>?_⟩
  ·obtain ⟨H,hH⟩:=outs_zero E h0 i hi
   exact ⟨H,hH,(hD i hi H hH).1,.inl (hD i hi H hH).2⟩
  ·obtain ⟨H,hH⟩:=outs_zero E h0 i hi
   exact hne i hi j hj hij H hH (e ▸ hH)
 intro n
 induction n with
 | zero=>
  intro fuel listed a w G D hn hl hD hne hS h
  obtain rfl:fuel=0:=by omega
  have h0:outs D E=0:=by omega
  exact (h w (Below.refl _ _) hS).1 D (full h0 hD hne)
 | succ n ih=>
  intro fuel listed a w G D hn hl hD hne hS h
  by_cases h0:outs D E=0
  ·obtain rfl:fuel=n+1:=by omega
   exact (h w (Below.refl _ _) hS).1 D (full h0 hD hne)
  ·obtain ⟨f,hfE,hfn⟩:=outs_pos E h0
   have hfr:f∈Region.ready md ops (flL D E listed):=by
    obtain ⟨o,d,ho,hg,hd,hafter⟩:=floatsB_dst E hf hfE
    exact mem_ready.2 ⟨by rw [flL_getD D E (by simp [hfn])];exact hl f hfE,o,ho,fun e he hb=>by rw [hafter e he] at hb;cases hb⟩
   refine ⟨fun he=>absurd (he ▸ hfr) (by simp),fun i hi=>?_⟩
   by_cases hiE:i∈E
   ·obtain ⟨o,d,ho,hg,hd,hafter⟩:=floatsB_dst E hf hiE
    have hDi:D i=none:=by
     cases hDi:D i with
     | none=>rfl
     | some H=>
      have h1:=(mem_ready.1 hi).1
      rw [flL_done E hiE (by rw [hDi];rfl)] at h1
      cases h1
    have hb:Below w.heap.size w (w.alloc (obj i)):=(Below.refl _ _).alloc (Nat.le_refl _) _
    refine wpOp_step ho fun K' hK=>?_
    rw [if_pos (show Region.wanted o _=true from by unfold Region.wanted;rw [hg])]
    unfold Oper.wp
    rw [hrun i hiE o ho]
    refine hK _ _ ⟨fun _=>hSs _ _ hb hS,?_⟩
    have hput:(flA ops D E a).put o.dst (.pointer (some ⟨w.heap.size,0,none⟩))=flA ops (upd D i w.heap.size) E a:=by
     rw [flA_upd E hf hiE hDi,ho];rfl
    rw [hput,←flL_upd E hf hiE hDi (H:=w.heap.size)]
    refine ih fuel listed a (w.alloc (obj i)) (gapTo G w (w.alloc (obj i))) (upd D i w.heap.size) (by have:=outs_upd (H:=w.heap.size) E hf hiE hDi;omega) hl (fun j hj H hH=>?_) (fun j hj k hk hjk H hH hH2=>?_) (hSs _ _ hb hS) (wpAnyF_later hb h)
    ·unfold upd at hH
     by_cases hji:j=i
     ·rw [if_pos hji] at hH
      injection hH with hH
      subst hH hji
      exact ⟨heap_alloc_new w _,.inr ⟨Nat.le_refl _,by simp⟩⟩
     ·rw [if_neg hji] at hH
      obtain ⟨h1,h2⟩:=hD j hj H hH
      exact ⟨(hb.block H (Array.getElem?_eq_some_iff.1 h1).1).trans h1,.inl h2⟩
    ·unfold upd at hH hH2
     by_cases hji:j=i
     ·have hki:k≠i:=fun e=>hjk (hji.trans e.symm)
      rw [if_pos hji] at hH
      rw [if_neg hki] at hH2
      injection hH with hH
      have h1:=(Array.getElem?_eq_some_iff.1 (hD k hk H hH2).1).1
      omega
     ·rw [if_neg hji] at hH
      by_cases hki:k=i
      ·rw [if_pos hki] at hH2
       injection hH2 with hH2
       have h1:=(Array.getElem?_eq_some_iff.1 (hD j hj H hH).1).1
       omega
      ·rw [if_neg hki] at hH2
       exact hne j hj k hk hjk H hH hH2
   ·have hpe:=pend_of_ready hfE hfn (hl f hfE) hiE hi
    cases fuel with
    | zero=>
     rw [(h w (Below.refl _ _) hS).2] at hpe
     cases hpe
    | succ fuel=>
     obtain ⟨_,o,ho,hfar,hw⟩:=(h w (Below.refl _ _) hS).2 i hpe
     refine wpOp_far ho (fun cs b=>Region.noSelect_spec hsel i o cs b ho) hQ D E hf hfar (wpOp_mono (fun a' w'' h=>⟨fun _=>h.2.1,?_⟩) hw)
     rw [←flL_set D E hiE]
     refine ih fuel (listed.setIfInBounds i true) a' w'' (gapTo G w w) D (by omega) (fun j hj=>?_) (fun j hj H hH=>?_) hne h.2.1 h.2.2
     ·rw [getD_set_ne true (fun e=>hiE (by rw [e];exact hj))];exact hl j hj
     ·obtain ⟨h1,h2⟩:=hD j hj H hH
      exact ⟨(h.1.block H (Array.getElem?_eq_some_iff.1 h1).1).trans h1,.inl h2⟩
theorem wpAnyW_float (E:List Nat) (obj:Nat→Obj) {n fuel:Nat} {listed:Array Bool} {a:Act} {w:World} (hf:floatsB md ops E=true) (hl:(E.all fun i=>!listed.getD i true)=true) (hrun:FloatRun P ops E obj) (hSs:∀ w w',Below w.heap.size w w'→S w→S w') (hsel:Region.noSelect ops=true)
  (hQ:∀ c (a:Act) d v w,Q (.panic c) a w→Q (.panic c) (a.put (some d) v) w) (hn:n=fuel+E.length) (hS:S w) (h:wpAnyF P md ops Q S st E obj fuel listed a w (fun _=>False)):wpAnyW P md ops Q S st n listed a w:=by
 have h1:∀ E:List Nat,flL (fun _=>none) E listed=listed:=fun E=>by induction E with
  | nil=>rfl
  | cons i E ih=>simpa [flL] using ih
 have h2:∀ E:List Nat,flA ops (fun _=>none) E a=a:=fun E=>by induction E with
  | nil=>rfl
  | cons i E ih=>simpa [flA] using ih
 have h3:∀ E:List Nat,outs (fun _=>none) E=E.length:=fun E=>by induction E with
  | nil=>rfl
  | cons i E ih=>simp [outs,ih];omega
 have:=wpAnyF_core (D:=fun _=>none) hf hrun hSs hsel hQ n fuel listed a w (fun _=>False) (by rw [h3];exact hn) (fun i hi=>by simpa using List.all_eq_true.1 hl i hi) (fun _ _ _ h=>by cases h) (fun _ _ _ _ _ _ h=>by cases h) hS h
 rw [h1,h2] at this
 exact this
theorem wpAnyF_one {i:Nat} {o:Oper} {fuel:Nat} {listed:Array Bool} {a:Act} {w:World} {G:Nat→Prop} (hf:floatsB md ops E=true) (hsel:Region.noSelect ops=true) (hQ:∀ c (a:Act) d v w,Q (.panic c) a w→Q (.panic c) (a.put (some d) v) w)
  (hp:pend md ops listed E = [i]∧Region.ready md ops (flAll E listed) = [i]) (hiE:E.contains i=false) (ho:ops[i]?=some o) (hfar:farFrom ops E o=true)
  (h:∀ w',Below w.heap.size w w'→S w'→∀ K':Act→World→Prop,Shut (∀ a'' w'',Below w'.heap.size w' w''→S w''→wpAnyF P md ops Q S st E obj fuel (listed.setIfInBounds i true) a'' w'' (gapTo G w w')→K' a'' w'')→if Region.wanted o (yielded ops a.tmps)=true then Oper.wp P o a w' K' Q else K' (a.put o.dst undef) w') :
  wpAnyF P md ops Q S st E obj (fuel+1) listed a w G:=by
 have hiE':i∉E:=by simpa using hiE
 intro w' hb hS
 have hop:wpOp P ops Q i (fun a' w''=>Below w'.heap.size w' w''∧S w''∧wpAnyF P md ops Q S st E obj fuel (listed.setIfInBounds i true) a' w'' (gapTo G w w')) a w':=
  wpOp_step ho fun K' hK=>h w' hb hS K' (fun a'' w'' h1 h2 h3=>hK a'' w'' ⟨h1,h2,h3⟩)
 refine ⟨fun D hD=>?_,fun j hj=>?_⟩
 ·have hall:∀ i∈E,(D i).isSome=true:=fun i hi=>let ⟨H,hH,_⟩:=hD.1 i hi;by rw [hH];rfl
  have hr:Region.ready md ops (flL D E listed) = [i]:=by rw [flL_all D E hall];exact hp.2
  refine ⟨fun h0=>absurd (hr ▸ h0) (by simp),fun j hj=>?_⟩
  rw [hr] at hj
  obtain rfl:j=i:=by simpa using hj
  refine wpOp_far ho (fun cs b=>Region.noSelect_spec hsel j o cs b ho) hQ D E hf hfar (wpOp_mono (fun a' w'' h=>⟨fun _=>h.2.1,?_⟩) hop)
  rw [←flL_set D E hiE']
  have hD':FlOk E obj D w'' (gapTo (gapTo G w w') w'' w''):=(hD.below h.1).more fun _ h=>.inl h
  cases fuel with
  | zero=>exact (h.2.2 w'' (Below.refl _ _) h.2.1).1 D hD'
  | succ fuel=>exact (h.2.2 w'' (Below.refl _ _) h.2.1).1 D hD'
 ·rw [hp.1] at hj
  obtain rfl:j=i:=by simpa using hj
  exact ⟨hiE',o,ho,hfar,hop⟩
theorem wpAnyF_land {fuel:Nat} {listed:Array Bool} {a:Act} {w:World} {G:Nat→Prop} (hp:pend md ops listed E = [])
  (h:∀ w' D,Below w.heap.size w w'→S w'→FlOk E obj D w' (gapTo G w w')→wpAnyW P md ops Q S st fuel (flAll E listed) (flA ops D E a) w'):wpAnyF P md ops Q S st E obj fuel listed a w G:=by
 have key:∀ w',Below w.heap.size w w'→S w'→∀ D,FlOk E obj D w' (gapTo G w w')→wpAnyW P md ops Q S st fuel (flL D E listed) (flA ops D E a) w':=fun w' hb hS D hD=>by
  rw [flL_all D E fun i hi=>let ⟨H,hH,_⟩:=hD.1 i hi;by rw [hH];rfl]
  exact h w' D hb hS hD
 cases fuel with
 | zero=>exact fun w' hb hS=>⟨key w' hb hS,hp⟩
 | succ fuel=>exact fun w' hb hS=>⟨key w' hb hS,fun i hi=>by rw [hp] at hi;cases hi⟩
theorem wpAnyF_land2 {i j:Nat} {oi oj:Oper} {fuel:Nat} {listed:Array Bool} {a:Act} {w:World} {G:Nat→Prop} (hp:pend md ops listed [i,j] = []) (hij:(i==j)=false) (hi:ops[i]?=some oi) (hj:ops[j]?=some oj)
  (h:∀ w' HA HB,Below w.heap.size w w'→S w'→w'.heap[HA]?=some (obj i)→w'.heap[HB]?=some (obj j)→gapTo G w w' HA→gapTo G w w' HB→HA≠HB →
   wpAnyW P md ops Q S st fuel ((listed.setIfInBounds j true).setIfInBounds i true) ((a.put oj.dst (.pointer (some ⟨HB,0,none⟩))).put oi.dst (.pointer (some ⟨HA,0,none⟩))) w'):wpAnyF P md ops Q S st [i,j] obj fuel listed a w G:=
 wpAnyF_land hp fun w' D hb hS hD=>by
  obtain ⟨HA,h1,h2,h3⟩:=hD.1 i (by simp)
  obtain ⟨HB,k1,k2,k3⟩:=hD.1 j (by simp)
  have:=h w' HA HB hb hS h2 k2 h3 k3 (fun e=>hD.2 i (by simp) j (by simp) (by simpa using hij) (by rw [h1,k1,e]))
  simp only [flAll,flA,h1,k1,hi,hj,Option.bind_some]
  exact this
theorem pend_spec {j:Nat} {l:Array Bool} : j∈pend md ops l E↔j∉E∧l.getD j true=false∧∃ o,ops[j]?=some o∧(∀ e∈o.after,Region.binds md e=true→l.getD e.on false=true∨e.on∈E)∧∃ f∈E,∀ e∈o.after,Region.binds md e=true→e.on≠f:=by
 have bx:∀ {p q:Bool},(!p || q)=true↔(p=true→q=true):=by decide
 unfold pend
 rw [List.mem_filter,List.mem_range]
 cases ho:ops[j]? with
 | none=>simp
 | some o=>
  have hlt:j<ops.size:=(Array.getElem?_eq_some_iff.1 ho).1
  simp only [hlt,true_and,Option.map_some,Option.getD_some,Bool.and_eq_true,Bool.not_eq_true',Array.all_eq_true_iff_forall_mem,Bool.or_assoc,bx,Bool.or_eq_true,List.any_eq_true,bne_iff_ne,ne_eq,List.contains_eq_mem,decide_eq_false_iff_not,decide_eq_true_eq,Option.some.injEq,exists_eq_left',and_assoc]
theorem ready_flL {D:Nat→Option Nat} {i:Nat} {l:Array Bool} : ∀ E:List Nat,i∉E→i∈Region.ready md ops l→i∈Region.ready md ops (flL D E l)
 | [],_,h=>h
 | k :: E,hi,h=>by
  have h1:i∉E:=fun h'=>hi (List.mem_cons_of_mem _ h')
  have h2:i≠k:=fun e=>hi (e ▸ List.mem_cons_self)
  unfold flL
  split
  ·exact ready_mono (ready_flL E h1 h) h2
  ·exact ready_flL E h1 h
theorem flA_eval {o:Oper} (hs:∀ cs b,o.op ≠ .select cs b) (D:Nat→Option Nat) {a:Act} : ∀ E:List Nat,floatsB md ops E=true→farFrom ops E o=true →
  execOp (flA ops D E a).eval o=execOp a.eval o∧Region.wanted o (yielded ops (flA ops D E a).tmps)=Region.wanted o (yielded ops a.tmps)∧∀ v,(flA ops D E a).put o.dst v=flA ops D E (a.put o.dst v)
 | [],_,_=>⟨rfl,rfl,fun _=>rfl⟩
 | k :: E,hf,hfar=>by
  have hff:=hf
  have hfar':=farFrom_spec _ hfar k List.mem_cons_self
  simp only [floatsB,Bool.and_eq_true] at hf
  simp only [farFrom,List.all_cons,Bool.and_eq_true] at hfar
  obtain ⟨ok,d,ho,_,hd,_⟩:=floatsB_dst _ hff List.mem_cons_self
  have hod:(ops[k]?).bind (·.dst)=some d:=by rw [ho];exact hd
  obtain ⟨e1,e2,e3⟩:=flA_eval hs D (a:=a) E hf.2 hfar.2
  unfold flA
  cases hD:D k with
  | none=>exact ⟨e1,e2,e3⟩
  | some H=>
   simp only [hod]
   have h1:∀ d',some d=some d'→d'∉o.looksAt ops:=fun d' e=>by injection e with e;exact e ▸ (hfar' d hod).1
   refine ⟨(execOp_put o hs _ _ _ h1).trans e1,(wanted_put o _ _ _ h1).trans e2,fun v=>?_⟩
   rw [←e3 v,Act.put_comm _ _ v fun d' e=>by injection e with e;exact e ▸ (hfar' d hod).2]
theorem wpAnyF_first {i:Nat} {k:Nat} {oi:Oper} {v:Value} (hi:ops[i]?=some oi) (hsel:∀ (j:Nat) (o:Oper) cs b,ops[j]?=some o→o.op ≠ .select cs b) (hQ:∀ c a w,Q (.panic c) (a.put oi.dst v) w→Q (.panic c) a w)
  (hki:waitsFor md ops k i=true) (hnk:(k==i)=false) (hst:(st==k)=true∨waitsFor md ops st k=true) (hne:(st==i)=false) (hiE:i∉E) (hkE:k∉E) (hsE:st∉E) (hf:floatsB md ops E=true) (hfi:farFrom ops E oi=true) :
  ∀ (fuel:Nat) (listed:Array Bool) (a:Act) (w:World) (G:Nat→Prop),(∀ j oj,ops[j]?=some oj→j≠i→listed.getD j true=false→(∀ e∈oj.after,Region.binds md e=true→e.on≠i)→oi.apart ops oj=true)→i∈Region.ready md ops listed →
   listed.getD k true=false→listed.getD st true=false→YieldsIf P ops S oi v a →
   wpAnyF P md ops Q S st E obj fuel (listed.setIfInBounds i true) (a.put oi.dst v) w G→wpAnyF P md ops Q S st E obj (fuel+1) listed a w G:=by
 intro fuel
 induction fuel with
 | zero=>
  intro listed a w G hfree hr hk hl hy h w' hb hS
  have ee:=fun D=>flA_eval (md:=md) (a:=a) (hsel i oi · · hi) D E hf hfi
  refine ⟨fun D hD=>?_,fun j hj=>?_⟩
  ·refine wpAnyW_first hi hsel hQ hki hnk hst hne 0 (flL D E listed) (flA ops D E a) w' (fun j oj hj hji hun=>hfree j oj hj hji ?_) (ready_flL E hiE hr) (hy.of_same (ee D).1 (ee D).2.1) (by rw [flL_getD D E (by simp [hkE])];exact hk) (by rw [flL_getD D E (by simp [hsE])];exact hl) hS ?_
   ·cases hc:(E.contains j && (D j).isSome) with
    | false=>rw [flL_getD D E hc] at hun;exact hun
    | true=>
     simp only [Bool.and_eq_true] at hc
     rw [flL_done E (by simpa using hc.1) hc.2] at hun
     cases hun
   ·rw [(ee D).2.2,←flL_set D E hiE]
    exact (h w' hb hS).1 D hD
  ·by_cases hji:j=i
   ·subst hji
    exact ⟨hiE,oi,hi,hfi,hy.wpOp hi hS ⟨Below.refl _ _,hS,wpAnyF_later hb h⟩⟩
   ·have:=(h w' hb hS).2
    obtain ⟨p1,p2,o,p3,p4,p5⟩:=pend_spec.1 hj
    have hj':j∈pend md ops (listed.setIfInBounds i true) E:=pend_spec.2 ⟨p1,by rw [getD_set_ne true (Ne.symm hji)];exact p2,o,p3,fun e he hb=>(p4 e he hb).imp (fun h=>getD_set_true h) id,p5⟩
    rw [this] at hj'
    cases hj'
 | succ fuel ih=>
  intro listed a w G hfree hr hk hl hy h w' hb hS
  have ee:=fun D=>flA_eval (md:=md) (a:=a) (hsel i oi · · hi) D E hf hfi
  refine ⟨fun D hD=>?_,fun j hj=>?_⟩
  ·refine wpAnyW_first hi hsel hQ hki hnk hst hne (fuel+1) (flL D E listed) (flA ops D E a) w' (fun j oj hj hji hun=>hfree j oj hj hji ?_) (ready_flL E hiE hr) (hy.of_same (ee D).1 (ee D).2.1) (by rw [flL_getD D E (by simp [hkE])];exact hk) (by rw [flL_getD D E (by simp [hsE])];exact hl) hS ?_
   ·cases hc:(E.contains j && (D j).isSome) with
    | false=>rw [flL_getD D E hc] at hun;exact hun
    | true=>
     simp only [Bool.and_eq_true] at hc
     rw [flL_done E (by simpa using hc.1) hc.2] at hun
     cases hun
   ·rw [(ee D).2.2,←flL_set D E hiE]
    exact (h w' hb hS).1 D hD
  ·by_cases hji:j=i
   ·subst hji
    exact ⟨hiE,oi,hi,hfi,hy.wpOp hi hS ⟨Below.refl _ _,hS,wpAnyF_later hb h⟩⟩
   ·obtain ⟨p1,p2,o,p3,p4,p5⟩:=pend_spec.1 hj
    have hj':j∈pend md ops (listed.setIfInBounds i true) E:=pend_spec.2 ⟨p1,by rw [getD_set_ne true (Ne.symm hji)];exact p2,o,p3,fun e he hb=>(p4 e he hb).imp (fun h=>getD_set_true h) id,p5⟩
    obtain ⟨_,oj,hoj,hfar,hw⟩:=(h w' hb hS).2 j hj'
    obtain rfl:o=oj:=by rw [p3] at hoj;injection hoj
    have hiun:=(mem_ready.1 hr).1
    have hnw:∀ e∈o.after,Region.binds md e=true→e.on≠i:=fun e he hb heq=>by
     rcases p4 e he hb with h0 | h0
     ·rw [heq] at h0
      rcases Nat.lt_or_ge i listed.size with h' | h'
      ·simp [h'] at hiun h0;rw [hiun] at h0;cases h0
      ·simp [Array.getElem?_eq_none h'] at h0
     ·exact hiE (heq ▸ h0)
    have nw:∀ {q r:Nat},waitsFor md ops q r=true→listed.getD r true=false→r∉E→j≠q:=fun {q r} hw hun hrE e=>by
     subst e
     unfold waitsFor at hw
     simp only [p3] at hw
     obtain ⟨e,he,hb⟩:=Array.any_eq_true'.1 hw
     simp only [Bool.and_eq_true,beq_iff_eq] at hb
     rcases p4 e he hb.1 with h0 | h0
     ·rw [hb.2] at h0
      rcases Nat.lt_or_ge r listed.size with h' | h'
      ·simp [h'] at hun h0;rw [hun] at h0;cases h0
      ·simp [Array.getElem?_eq_none h'] at h0
     ·exact hrE (hb.2 ▸ h0)
    have hjk:j≠k:=nw hki hiun hiE
    have hjs:j≠st:=by
     rcases hst with h | h
     ·exact fun e=>hjk (e.trans (by simpa using h))
     ·exact nw h hk hkE
    refine ⟨p1,o,p3,hfar,?_⟩
    have h2:=wpOp_putIf p3 (hfree j o p3 hji p2 hnw) (fun cs b=>hsel i oi cs b hi) (fun cs b=>hsel j o cs b p3) hQ hy hw
    refine wpOp_mono (fun a' w'' h3=>⟨h3.2.1,h3.2.2.1,ih (listed.setIfInBounds j true) a' w'' _ (fun k' ok hk' hki' hun hno=>hfree k' ok hk' hki' ?_ hno) (ready_mono hr (Ne.symm hji)) (by rw [getD_set_ne true hjk];exact hk) (by rw [getD_set_ne true hjs];exact hl) h3.1 ?_⟩) h2
    ·by_cases hjk':j=k'
     ·subst hjk';exact p2
     ·rw [getD_set_ne true hjk'] at hun;exact hun
    ·rw [Array.setIfInBounds_comm _ _ hji]
     exact h3.2.2.2
theorem wpAnyF_take {i:Nat} (k:Nat) {oi:Oper} {v:Value} {fuel:Nat} {listed:Array Bool} {a:Act} {w:World} {G:Nat→Prop} (hi:ops[i]?=some oi) (hs:Region.noSelect ops=true) (hf:floatsB md ops E=true) (hfr:Region.free md ops listed i=true)
  (hc:((Region.ready md ops listed).contains i && waitsFor md ops k i && !(k==i) && (st==k || waitsFor md ops st k) && !(st==i) && !E.contains i && !E.contains k && !E.contains st && farFrom ops E oi && !listed.getD k true && !listed.getD st true)=true)
  (hQ:∀ c a w,Q (.panic c) (a.put oi.dst v) w→Q (.panic c) a w) (hy:YieldsIf P ops S oi v a) (h:wpAnyF P md ops Q S st E obj fuel (listed.setIfInBounds i true) (a.put oi.dst v) w G):wpAnyF P md ops Q S st E obj (fuel+1) listed a w G:=by
 simp only [Bool.and_eq_true,Bool.not_eq_true',Bool.or_eq_true,List.contains_eq_mem,decide_eq_false_iff_not,decide_eq_true_eq,and_assoc] at hc
 obtain ⟨h1,h2,h3,h4,h5,h6,h7,h8,h9,h10,h11⟩:=hc
 exact wpAnyF_first hi (Region.noSelect_spec hs) hQ h2 h3 h4 h5 h6 h7 h8 hf h9 fuel listed a w G (Region.free_spec hi hfr) h1 h10 h11 hy h
def gateB (md:Region.Mode) (ops:Array Oper) (st:Nat) (E:List Nat) (listed:Array Bool) (i:Nat):Bool:=(List.range ops.size).any fun k=>waitsFor md ops k i && !(k==i) && (st==k || waitsFor md ops st k) && !E.contains k && !listed.getD k true
def takeB (md:Region.Mode) (ops:Array Oper) (st:Nat) (E:List Nat) (listed:Array Bool) (i:Nat):Bool:=Region.noSelect ops && Region.free md ops listed i && (Region.ready md ops listed).contains i && gateB md ops st E listed i && !(st==i) && !E.contains i && !E.contains st && (match ops[i]? with | some o=>farFrom ops E o | none=>false) && !listed.getD st true && floatsB md ops E
theorem takeB_spec {i:Nat} {oi:Oper} {listed:Array Bool} (hi:ops[i]?=some oi) (h:takeB md ops st E listed i=true) :
  Region.noSelect ops=true∧floatsB md ops E=true∧Region.free md ops listed i=true∧∃ k,((Region.ready md ops listed).contains i && waitsFor md ops k i && !(k==i) && (st==k || waitsFor md ops st k) && !(st==i) && !E.contains i && !E.contains k && !E.contains st && farFrom ops E oi && !listed.getD k true && !listed.getD st true)=true:=by
 unfold takeB gateB at h
 rw [hi] at h
 simp only [Bool.and_eq_true,List.any_eq_true] at h
 obtain ⟨⟨⟨⟨⟨⟨⟨⟨⟨h1,h2⟩,h3⟩,k,hk0,hk⟩,h5⟩,h6⟩,h7⟩,h8⟩,h9⟩,h10⟩:=h
 obtain ⟨⟨⟨⟨k1,k2⟩,k3⟩,k4⟩,k5⟩:=hk
 refine ⟨h1,h10,h2,k,?_⟩
 simp only [h3,k1,k2,k3,h5,h6,k4,h7,h8,k5,h9,Bool.and_self]
theorem tkF (i:Nat) {oi:Oper} {v:Value} {fuel:Nat} {listed:Array Bool} {a:Act} {w:World} {G:Nat→Prop} (hi:ops[i]?=some oi) (hB:takeB md ops st E listed i=true) (hQ:∀ c a w,Q (.panic c) (a.put oi.dst v) w→Q (.panic c) a w)
  (hg:Region.wanted oi (yielded ops a.tmps)=true) (hy:∀ z,S z→(execOp a.eval oi).run P z = .ok (.value v) z) (h:wpAnyF P md ops Q S st E obj fuel (listed.setIfInBounds i true) (a.put oi.dst v) w G):wpAnyF P md ops Q S st E obj (fuel+1) listed a w G:=by
 obtain ⟨h1,h2,h3,k,h4⟩:=takeB_spec hi hB
 exact wpAnyF_take k hi h1 h2 h3 h4 hQ (.inl ⟨hg,hy⟩) h
theorem tkW (i:Nat) {oi:Oper} {v:Value} {fuel:Nat} {listed:Array Bool} {a:Act} {w:World} (hS:S w) (hi:ops[i]?=some oi) (hB:takeB md ops st [] listed i=true) (hQ:∀ c a w,Q (.panic c) (a.put oi.dst v) w→Q (.panic c) a w)
  (hg:Region.wanted oi (yielded ops a.tmps)=true) (hy:∀ z,S z→(execOp a.eval oi).run P z = .ok (.value v) z) (h:wpAnyW P md ops Q S st fuel (listed.setIfInBounds i true) (a.put oi.dst v) w):wpAnyW P md ops Q S st (fuel+1) listed a w:=by
 obtain ⟨h1,h2,h3,k,h4⟩:=takeB_spec hi hB
 simp only [Bool.and_eq_true] at h4
 obtain ⟨⟨⟨⟨⟨⟨⟨⟨⟨⟨k1,k2⟩,k3⟩,k4⟩,k5⟩,_⟩,_⟩,_⟩,_⟩,k6⟩,k7⟩:=h4
 exact wpAnyW_take k hi h1 h3 k1 (by simp only [k2,k3,k4,k5,k6,k7,Bool.and_self]) hQ (.inl ⟨hg,hy⟩) hS h
theorem tw (i : Nat) {oi : Oper} {v : Value} {fuel : Nat} {listed : Array Bool} {a : Act} {w : World} (hS : S w) (hy : ∀ z, S z → (execOp a.eval oi).run P z = .ok (.value v) z)
 (h : wpAnyW P md ops Q S st fuel (listed.setIfInBounds i true) (a.put oi.dst v) w) (hi : ops[i]? = some oi := by rfl) (hB : takeB md ops st [] listed i = true := by kernel_rfl) (hQ : ∀ c a w, Q (.panic c) (a.put oi.dst v) w → Q (.panic c) a w := by exact fun _ _ _ h => h) (hg : Region.wanted oi (yielded ops a.tmps) = true := by rfl) : wpAnyW P md ops Q S st (fuel + 1) listed a w := tkW i hS hi hB hQ hg hy h
theorem tf (i : Nat) {oi : Oper} {v : Value} {fuel : Nat} {listed : Array Bool} {a : Act} {w : World} {G : Nat → Prop} (hy : ∀ z, S z → (execOp a.eval oi).run P z = .ok (.value v) z)
 (h : wpAnyF P md ops Q S st E obj fuel (listed.setIfInBounds i true) (a.put oi.dst v) w G) (hi : ops[i]? = some oi := by rfl) (hB : takeB md ops st E listed i = true := by kernel_rfl) (hQ : ∀ c a w, Q (.panic c) (a.put oi.dst v) w → Q (.panic c) a w := by exact fun _ _ _ h => h) (hg : Region.wanted oi (yielded ops a.tmps) = true := by rfl) : wpAnyF P md ops Q S st E obj (fuel + 1) listed a w G := tkF i hi hB hQ hg hy h
theorem wp_region_U {id:Nat} {a:Act} {w:World} (st:Nat) (hm:P.follows .mixedOrders=true)
  (h:∀ z,Below w.heap.size w z→z.heap.size=w.heap.size→wpAnyW P .any ops Q (fun z=>Below w.heap.size w z) st ops.size (Array.replicate ops.size false) a z):(Code.region id ops true).wp P Q a w:=
 wp_region_wait _ st hm (h w.drew (Below.refl _ _).drew rfl)
theorem FloatRun.two {i j:Nat} {oi oj:Oper} {bi bj:Obj} (hij:(j==i)=false) (hi:ops[i]?=some oi) (ri:∀ (a:Act) (w:World),(execOp a.eval oi).run P w = .ok (.value (.pointer (some ⟨w.heap.size,0,none⟩))) (w.alloc bi))
  (hj:ops[j]?=some oj) (rj:∀ (a:Act) (w:World),(execOp a.eval oj).run P w = .ok (.value (.pointer (some ⟨w.heap.size,0,none⟩))) (w.alloc bj)):FloatRun P ops [i,j] (fun q=>if q=i then bi else bj):=fun q hq o ho=>by
 rcases List.mem_cons.1 hq with rfl | hq
 ·rw [hi] at ho
  injection ho with ho
  simp only [if_pos]
  exact ho ▸ ri
 ·obtain rfl:q=j:=by simpa using hq
  rw [hj] at ho
  injection ho with ho
  simp only [if_neg (show ¬q=i by simpa using hij)]
  exact ho ▸ rj
end
end Go.Proofs.YtgfeainpeplphaaDoor
namespace Go.Proofs.YtgfeainpeplphaaDoor
open Go.RowKit Hb Ht
abbrev NW (P:Nat→Prop) (lo:Nat) (z:World):Nat→Prop:=fun b=>P b∨(lo≤b∧b<z.heap.size)
theorem NW.lt {P:Nat→Prop} {lo:Nat} {z:World} (hP:∀ b,P b→b<z.heap.size):∀ b,NW P lo z b→b<z.heap.size:=fun b h=>h.elim (hP b) And.right
theorem NW.keep {P:Nat→Prop} {lo:Nat} {z u:World} {t:Tm} {sl:Value} (h:TAtP z (NW P lo z) t sl) (hb:Below z.heap.size z u) (hP:∀ b,P b→b<z.heap.size):TAtP u (NW P lo u) t sl:=
 TAtP.keep _ h fun b h=>⟨h.imp id fun h=>⟨h.1,Nat.lt_of_lt_of_le h.2 hb.size⟩,hb.block b (NW.lt hP b h)⟩
theorem NW.low {P:Nat→Prop} {lo lo':Nat} {z:World} {t:Tm} {sl:Value} (h:TAtP z (NW P lo z) t sl) (hl:lo'≤lo):TAtP z (NW P lo' z) t sl:=h.wide fun b h=>h.imp id fun h=>⟨Nat.le_trans hl h.1,h.2⟩
theorem NW.of_grow {P:Nat→Prop} {lo:Nat} {z u:World} {t:Tm} {sl:Value} (h:TAtP u (Grow P z u) t sl) (hl:lo≤z.heap.size):TAtP u (NW P lo u) t sl:=h.wide fun b h=>h.imp id fun h=>⟨Nat.le_trans hl h.1,h.2⟩
theorem box_end {P:Nat→Prop} {U z0 z1 z2 z3 z4 z5:World} {HA HB:Nat} {g b:Tm} {sg sb:Value} {i:Bool} (h0:z0.heap.size=U.heap.size) (K1:Below U.heap.size U z1) (hb:Below z1.heap.size z1 z2) (d3:Below z2.heap.size z2 z3) (hP:∀ b,P b→b<U.heap.size)
  (hg:TAtP z2 (Grow P z1 z2) g sg) (hx:TAtP z2 (Grow P z1 z2) b sb) (gA:gapTo (gapTo (fun _=>False) z0 z1) z2 z3 HA) (gB:gapTo (gapTo (fun _=>False) z0 z1) z2 z3 HB)
  (h4:TBox z4 HA g sg∧z3.grownBy z4 (some HA)) (h5:BBox z5 HB i b sb∧z4.grownBy z5 (some HB)) (hne:HA≠HB) :
  (TBox z5 HA g sg∧BBox z5 HB i b sb∧TAtP z5 (NW P U.heap.size z5) g sg∧TAtP z5 (NW P U.heap.size z5) b sb∧Below U.heap.size U z5)∧U.heap.size≤HA∧U.heap.size≤HB:=by
 have e1:=K1.size
 have e2:=hb.size
 have e3:=d3.size
 have e4:=h4.2.size
 have e5:=h5.2.size
 have far:∀ H,gapTo (gapTo (fun _=>False) z0 z1) z2 z3 H→U.heap.size≤H∧(H<z1.heap.size∨z2.heap.size≤H):=fun H h=>by
  rcases h with (h | h) | h
  ·exact h.elim
  ·exact ⟨by omega,.inl h.2⟩
  ·exact ⟨by omega,.inr h.1⟩
 obtain ⟨a1,a2⟩:=far _ gA
 obtain ⟨b1,b2⟩:=far _ gB
 have key:∀ (t:Tm) (s:Value),TAtP z2 (Grow P z1 z2) t s→TAtP z5 (NW P U.heap.size z5) t s:=fun t s h=>TAtP.keep _ h fun b hb2=>by
  have hlt:b<z2.heap.size∧b≠HA∧b≠HB:=by
   rcases hb2 with h | h
   ·have:=hP b h;exact ⟨by omega,by omega,by omega⟩
   ·exact ⟨h.2,by omega,by omega⟩
  refine ⟨hb2.imp id fun h=>⟨by omega,by omega⟩,?_⟩
  rw [h5.2.block b (by omega) (fun e=>by injection e with e;omega),h4.2.block b (by omega) (fun e=>by injection e with e;omega),d3.block b hlt.1]
 exact ⟨⟨h4.1.gro h5.2 hne,h5.1,key _ _ hg,key _ _ hx,(((K1.trans (hb.mono e1)).trans (d3.mono (by omega))).grown h4.2 (by omega) (fun j e=>by injection e with e;omega)).grown h5.2 (by omega) (fun j e=>by injection e with e;omega)⟩,a1,b1⟩
def AnsP (w:World) (P:Nat→Prop) (a:Ans) (e:Ending) (w':World):Prop:=
 ∃ sg sb,e = .returned (.tuple #[valT a.g sg,.int .i64 a.n,badV a.i a.b sb])∧TAtP w' (Grow P w w') a.g sg∧TAtP w' (Grow P w w') a.b sb∧Below w.heap.size w w'
theorem ans_end {w u z1 z2:World} {P:Nat→Prop} {ad3 ad4 lo:Nat} {a:Ans} {sg sb:Value} {e:Ending} (hP:∀ b,P b→b<w.heap.size) (hw:Below w.heap.size w u) (h3:w.heap.size≤ad3∧ad3<lo) (h4:w.heap.size≤ad4∧ad4<lo) (g1:u.grownBy z1 (some ad3)) (g2:z1.grownBy z2 (some ad4))
  (hg:TAtP u (NW P lo u) a.g sg) (hb:TAtP u (NW P lo u) a.b sb) (he:e = .returned (.tuple #[valT a.g sg,.int .i64 a.n,badV a.i a.b sb])):AnsP w P a e z2:=by
 have s1:=g1.size
 have s2:=g2.size
 have s0:=hw.size
 have key:∀ (t:Tm) (s:Value),TAtP u (NW P lo u) t s→TAtP z2 (Grow P w z2) t s:=fun t s h=>TAtP.keep _ h fun b hb=>by
  have hlt:b<u.heap.size∧b≠ad3∧b≠ad4:=by
   rcases hb with h | h
   ·have:=hP b h;exact ⟨by omega,by omega,by omega⟩
   ·exact ⟨h.2,by omega,by omega⟩
  refine ⟨hb.imp id fun h=>⟨by omega,by omega⟩,?_⟩
  rw [g2.block b (by omega) (fun e=>by injection e with e;omega),g1.block b hlt.1 (fun e=>by injection e with e;omega)]
 exact ⟨sg,sb,he,key _ _ hg,key _ _ hb,(hw.grown g1 s0 (fun j e=>by injection e with e;omega)).grown g2 (by omega) (fun j e=>by injection e with e;omega)⟩
section
variable {prog:Program} {ops:Array Oper} {Q:Exit→Act→World→Prop}
theorem wp_region_G {id:Nat} {a:Act} {w:World} (r st:Nat) (hm:prog.follows .mixedOrders=true)
  (h:∀ z,Below w.heap.size w z→w.grownBy z (some r)→wpAnyW prog .any ops Q (fun z=>w.grownBy z (some r)) st ops.size (Array.replicate ops.size false) a z):(Code.region id ops true).wp prog Q a w:=
 wp_region_wait _ st hm (h w.drew (Below.refl _ _).drew (grown_below (Below.refl _ _).drew))
end
theorem gap_merge {G:Nat→Prop} {z0 y1 y2 z1 z2 z3:World} (h1:z0.heap.size≤y1.heap.size) (h2:y1.heap.size≤y2.heap.size) (h3:y2.heap.size≤z1.heap.size) {b:Nat} (h:gapTo (gapTo (gapTo G z0 y1) y2 z1) z2 z3 b):gapTo (gapTo G z0 z1) z2 z3 b:=by
 rcases h with ((h | h) | h) | h
 ·exact .inl (.inl h)
 ·exact .inl (.inr ⟨h.1,by omega⟩)
 ·exact .inl (.inr ⟨by omega,h.2⟩)
 ·exact .inr h
theorem TAtP.sl {w:World} {P:Nat→Prop} {k v b:Int} {n m:List UInt8} {ts:List Tm} {sl:Value} {q:Nat} (hq:ts.length=q) (h:TAtP w P (.mk k n m b v ts) sl):∃ A c,sl = .slice A q c:=by
 obtain ⟨A,c,e,_⟩:=TAtP.iff.1 h
 exact ⟨A,c,by rw [e,←hq];rfl⟩
theorem AnsP.letters {w w':World} {P:Nat→Prop} {k v b k2 v2 b2 n':Int} {i:Bool} {n m n2 m2:List UInt8} {ts ts2:List Tm} {nb mb nb2 mb2:ByteArray} {q q2:Nat} {e:Ending} (hn:(⟨n.toArray⟩:ByteArray)=nb) (hm:(⟨m.toArray⟩:ByteArray)=mb) (hq:ts.length=q) (hn2:(⟨n2.toArray⟩:ByteArray)=nb2) (hm2:(⟨m2.toArray⟩:ByteArray)=mb2) (hq2:ts2.length=q2)
  (h:AnsP w P ⟨.mk k n m b v ts,n',i,.mk k2 n2 m2 b2 v2 ts2⟩ e w'):∃ A c A2 c2,e = .returned (.tuple #[.agg #[.int .i64 k,.string nb,.string mb,.int .u64 b,.int .i64 v,.slice A q c],.int .i64 n',.agg #[.bool i,.int .i64 k2,.string nb2,.string mb2,.int .u64 b2,.int .i64 v2,.slice A2 q2 c2]]) ∧
   TAtP w' (Grow P w w') (.mk k n m b v ts) (.slice A q c)∧TAtP w' (Grow P w w') (.mk k2 n2 m2 b2 v2 ts2) (.slice A2 q2 c2)∧Below w.heap.size w w':=by
 obtain ⟨sg,sb,he,h1,h2,hb⟩:=h
 obtain ⟨A,c,rfl⟩:=TAtP.sl hq h1
 obtain ⟨A2,c2,rfl⟩:=TAtP.sl hq2 h2
 refine ⟨A,c,A2,c2,?_,h1,h2,hb⟩
 rw [he]
 show Ending.returned (.tuple #[valT (.mk k n m b v ts) _,_,badV i (.mk k2 n2 m2 b2 v2 ts2) _])=_
 rw [valT_mk hn hm,badV_mk hn2 hm2]
def RMakeOk (t:Tm):Prop:=∀ (w:World) (P:Nat→Prop) (f d:Tm) (st sf sd:Value) (x:Int),TAtP w P t st→TAtP w P f sf→TAtP w P d sd→(∀ b,P b→b<w.heap.size)→0≤x→x+sz t≤4611686018427396000→checkP t=0 →
 Calls Tryd.prog 49 #[valT t st,valT f sf,valT d sd,.int .i64 x] w (AnsP w P (ansM t f d x))
end Go.Proofs.YtgfeainpeplphaaDoor
namespace Go.Proofs.YtgfeainpeplphaaDoor
open Go.RowKit Hb Ht
attribute [local go_sem] Oper.semAt_some
section
variable {P:Program} {md:Region.Mode} {ops:Array Oper} {Q:Exit→Act→World→Prop} {S:World→Prop} {st:Nat}
theorem wpAnyW_op {i:Nat} {o:Oper} {fuel:Nat} {listed:Array Bool} {a:Act} {w:World} (hr:Region.ready md ops listed = [i]) (ho:ops[i]?=some o) (hw:Region.wanted o (yielded ops a.tmps)=true)
  (h:∀ K':Act→World→Prop,Shut (∀ a w,((listed.setIfInBounds i true).getD st true=false→S w)→wpAnyW P md ops Q S st fuel (listed.setIfInBounds i true) a w→K' a w)→Oper.wp P o a w K' Q) :
  wpAnyW P md ops Q S st (fuel+1) listed a w:=
 wpAnyW_one hr ho fun K' hK=>by rw [if_pos hw];exact h K' hK
end
set_option maxRecDepth 100000 in
theorem st_T {a:Act} {w:World} {K:Act→World→Prop} {Q:Exit→Act→World→Prop} {o:Oper} {x y:Operand} {H:Nat} {t0 t:Tm} {s0:Value} {A:Option Addr} {L c:Nat}
  (ho:o.op = .store 25 x y) (hd:o.dst=none) (hx:a.eval x = .pointer (some ⟨H,0,none⟩)) (hy:a.eval y=valT t (.slice A L c)) (hb:TBox w H t0 s0) (h:∀ z,TBox z H t (.slice A L c)→w.grownBy z (some H)→K a z):Oper.wp Tryd.prog o a w K Q:=by
 obtain ⟨dst,op,ty,pos,after,gd⟩:=o
 change op=_ at ho
 change dst=_ at hd
 subst ho hd
 obtain ⟨k0,n0,m0,b0,v0,ts0⟩:=t0
 obtain ⟨k,n,m,b,v,ts⟩:=t
 obtain ⟨nb,hn⟩:∃ nb:ByteArray,(⟨n.toArray⟩:ByteArray)=nb:=⟨_,rfl⟩
 obtain ⟨mb,hm⟩:∃ mb:ByteArray,(⟨m.toArray⟩:ByteArray)=mb:=⟨_,rfl⟩
 rw [valT_mk hn hm] at hy
 obtain ⟨a0,a1,a2,a3,a4,a5⟩:=hb.cells rfl rfl
 obtain ⟨z0,z1,z2,z3,z4,z5⟩:=hb.frozens
 have h5:=hb.set6 (k:=k) (b:=b) (v:=v) (n:=n) (m:=m) ts (.slice A L c) hn hm
 have h6:=h _ h5.1 h5.2
 clear h h5 hb hn hm
 unfold Oper.wp execOp
 simp only [hx,hy]
 go_simp
 exact h6
set_option maxRecDepth 100000 in
theorem st_B {a:Act} {w:World} {K:Act→World→Prop} {Q:Exit→Act→World→Prop} {o:Oper} {x y:Operand} {H:Nat} {t0 t:Tm} {i0 i:Bool} {s0:Value} {A:Option Addr} {L c:Nat}
  (ho:o.op = .store 35 x y) (hd:o.dst=none) (hx:a.eval x = .pointer (some ⟨H,0,none⟩)) (hy:a.eval y=badV i t (.slice A L c)) (hb:BBox w H i0 t0 s0) (h:∀ z,BBox z H i t (.slice A L c)→w.grownBy z (some H)→K a z):Oper.wp Tryd.prog o a w K Q:=by
 obtain ⟨dst,op,ty,pos,after,gd⟩:=o
 change op=_ at ho
 change dst=_ at hd
 subst ho hd
 obtain ⟨k0,n0,m0,b0,v0,ts0⟩:=t0
 obtain ⟨k,n,m,b,v,ts⟩:=t
 obtain ⟨nb,hn⟩:∃ nb:ByteArray,(⟨n.toArray⟩:ByteArray)=nb:=⟨_,rfl⟩
 obtain ⟨mb,hm⟩:∃ mb:ByteArray,(⟨m.toArray⟩:ByteArray)=mb:=⟨_,rfl⟩
 rw [badV_mk hn hm] at hy
 obtain ⟨a0,a1,a2,a3,a4,a5,a6⟩:=hb.cells rfl rfl
 obtain ⟨z0,z1,z2,z3,z4,z5,z6⟩:=hb.frozens
 have h5:=hb.set7 i (k:=k) (b:=b) (v:=v) (n:=n) (m:=m) ts (.slice A L c) hn hm
 have h6:=h _ h5.1 h5.2
 clear h h5 hb hn hm
 unfold Oper.wp execOp
 simp only [hx,hy]
 go_simp
 exact h6
section
variable {md:Region.Mode} {ops:Array Oper} {Q:Exit→Act→World→Prop} {S:World→Prop} {st:Nat}
theorem stT {o:Oper} {i fuel:Nat} {listed:Array Bool} {a:Act} {w:World} {x y:Operand} {H:Nat} {t0 t:Tm} {s0:Value} {A:Option Addr} {L c:Nat} (hr:Region.ready md ops listed = [i]) (ho:ops[i]?=some o) (hw:Region.wanted o (yielded ops a.tmps)=true)
  (hop:o.op = .store 25 x y) (hd:o.dst=none) (hx:a.eval x = .pointer (some ⟨H,0,none⟩)) (hy:a.eval y=valT t (.slice A L c)) (hb:TBox w H t0 s0)
  (h:∀ z,TBox z H t (.slice A L c)→w.grownBy z (some H)→((listed.setIfInBounds i true).getD st true=false→S z)∧wpAnyW Tryd.prog md ops Q S st fuel (listed.setIfInBounds i true) a z):wpAnyW Tryd.prog md ops Q S st (fuel+1) listed a w:=
 wpAnyW_op hr ho hw fun K' hK=>st_T hop hd hx hy hb fun z h1 h2=>hK.out _ _ (h z h1 h2).1 (h z h1 h2).2
theorem stB {o:Oper} {i fuel:Nat} {listed:Array Bool} {a:Act} {w:World} {x y:Operand} {H:Nat} {t0 t:Tm} {i0 j:Bool} {s0:Value} {A:Option Addr} {L c:Nat} (hr:Region.ready md ops listed = [i]) (ho:ops[i]?=some o) (hw:Region.wanted o (yielded ops a.tmps)=true)
  (hop:o.op = .store 35 x y) (hd:o.dst=none) (hx:a.eval x = .pointer (some ⟨H,0,none⟩)) (hy:a.eval y=badV j t (.slice A L c)) (hb:BBox w H i0 t0 s0)
  (h:∀ z,BBox z H j t (.slice A L c)→w.grownBy z (some H)→((listed.setIfInBounds i true).getD st true=false→S z)∧wpAnyW Tryd.prog md ops Q S st fuel (listed.setIfInBounds i true) a z):wpAnyW Tryd.prog md ops Q S st (fuel+1) listed a w:=
 wpAnyW_op hr ho hw fun K' hK=>st_B hop hd hx hy hb fun z h1 h2=>hK.out _ _ (h z h1 h2).1 (h z h1 h2).2
end
end Go.Proofs.YtgfeainpeplphaaDoor
namespace Go.Proofs.YtgfeainpeplphaaDoor
open Go.RowKit Hb Ht
attribute [local go_sem] Oper.semAt_some
def wholeA (g:Tm) (i:Bool) (b:Tm):Tm × Bool × Tm:=if i=true then (zeroT,true,b) else if 4000<nodes g then (zeroT,true,nodesT) else (g,false,b)
def WhP (w:World) (P:Nat→Prop) (r:Tm × Bool × Tm) (e:Ending) (w':World):Prop:=
 ∃ sg sb,e = .returned (.tuple #[valT r.1 sg,badV r.2.1 r.2.2 sb])∧TAtP w' (Grow P w w') r.1 sg∧TAtP w' (Grow P w w') r.2.2 sb∧Below w.heap.size w w'
theorem WhP.letters {w w':World} {P:Nat→Prop} {k v b k2 v2 b2:Int} {i:Bool} {n m n2 m2:List UInt8} {ts ts2:List Tm} {nb mb nb2 mb2:ByteArray} {q q2:Nat} {e:Ending} (hn:(⟨n.toArray⟩:ByteArray)=nb) (hm:(⟨m.toArray⟩:ByteArray)=mb) (hq:ts.length=q) (hn2:(⟨n2.toArray⟩:ByteArray)=nb2) (hm2:(⟨m2.toArray⟩:ByteArray)=mb2) (hq2:ts2.length=q2)
  (h:WhP w P (.mk k n m b v ts,i,.mk k2 n2 m2 b2 v2 ts2) e w'):∃ A c A2 c2,e = .returned (.tuple #[.agg #[.int .i64 k,.string nb,.string mb,.int .u64 b,.int .i64 v,.slice A q c],.agg #[.bool i,.int .i64 k2,.string nb2,.string mb2,.int .u64 b2,.int .i64 v2,.slice A2 q2 c2]]) ∧
   TAtP w' (Grow P w w') (.mk k n m b v ts) (.slice A q c)∧TAtP w' (Grow P w w') (.mk k2 n2 m2 b2 v2 ts2) (.slice A2 q2 c2)∧Below w.heap.size w w':=by
 obtain ⟨sg,sb,he,h1,h2,hb⟩:=h
 obtain ⟨A,c,rfl⟩:=TAtP.sl hq h1
 obtain ⟨A2,c2,rfl⟩:=TAtP.sl hq2 h2
 refine ⟨A,c,A2,c2,?_,h1,h2,hb⟩
 rw [he]
 show Ending.returned (.tuple #[valT (.mk k n m b v ts) _,badV i (.mk k2 n2 m2 b2 v2 ts2) _])=_
 rw [valT_mk hn hm,badV_mk hn2 hm2]
theorem rwhole_A {w:World} {P:Nat→Prop} {g b:Tm} {sg sb:Value} {i:Bool} (hg:TAtP w P g sg) (hb:TAtP w P b sb) (hP:∀ b,P b→b<w.heap.size):Calls Tryd.prog 50 #[valT g sg,badV i b sb] w (WhP w P (wholeA g i b)):=by
 have kp:∀ {t:Tm} {sl:Value} {w':World},TAtP w P t sl→Below w.heap.size w w'→TAtP w' (Grow P w w') t sl:=fun h hb=>(h.below hb hP).wide fun b h=>.inl h
 obtain ⟨k1,n1,m1,b1,v1,ts1,nb1,mb1,A1,c1,rfl,rfl,hn1,hm1,hl1,hc1,hx1,hv1,_,_⟩:=hg.letters
 obtain ⟨k2,n2,m2,b2,v2,ts2,nb2,mb2,A2,c2,rfl,rfl,hn2,hm2,hl2,hc2,hx2,hv2,_,_⟩:=hb.letters
 rw [hv1,badV_mk hn2 hm2]
 cases i with
 | true=>
  refine (rwhole_bad (ts:=ts1) (ts2:=ts2) hn1 hm1 hn2 hm2).mono ?_
  rintro e w' ⟨rfl,hb'⟩
  refine ⟨.slice none 0 0,.slice A2 ts2.length c2,?_,zero_at _ _,kp hb hb',hb'⟩
  show _=Ending.returned (.tuple #[valT zeroT _,badV true (.mk k2 n2 m2 b2 v2 ts2) _])
  rw [badV_mk hn2 hm2]
  rfl
 | false=>
  by_cases hz:4000<nodes (.mk k1 n1 m1 b1 v1 ts1)
  ·refine (rwhole_big (ts2:=ts2) hn1 hm1 hn2 hm2 (hg.wide hP) hz).mono ?_
   rintro e w' ⟨sn,rfl,ht,hb'⟩
   rw [show wholeA (.mk k1 n1 m1 b1 v1 ts1) false (.mk k2 n2 m2 b2 v2 ts2)=(zeroT,true,nodesT) from (if_neg (by simp)).trans (if_pos hz)]
   exact ⟨.slice none 0 0,sn,rfl,zero_at _ _,ht.wide fun b h=>.inr h,hb'⟩
  ·refine (rwhole_ok (ts2:=ts2) hn1 hm1 hn2 hm2 (hg.wide hP) hz).mono ?_
   rintro e w' ⟨rfl,hb'⟩
   rw [show wholeA (.mk k1 n1 m1 b1 v1 ts1) false (.mk k2 n2 m2 b2 v2 ts2)=(.mk k1 n1 m1 b1 v1 ts1,false,.mk k2 n2 m2 b2 v2 ts2) from (if_neg (by simp)).trans (if_neg hz)]
   refine ⟨_,_,?_,kp hg hb',kp hb hb',hb'⟩
   show _=Ending.returned (.tuple #[valT (.mk k1 n1 m1 b1 v1 ts1) _,badV false (.mk k2 n2 m2 b2 v2 ts2) _])
   rw [hv1,badV_mk hn2 hm2]
def bodyA2 (a:Ans):Ans:=if (wholeA a.g a.i a.b).2.1=true then badA (wholeA a.g a.i a.b).2.2 else ⟨(wholeA a.g a.i a.b).1,a.n,false,(wholeA a.g a.i a.b).2.2⟩
theorem bodyA2_T {g b gw bw:Tm} {n:Int} {i:Bool} (h:wholeA g i b=(gw,true,bw)):bodyA2 ⟨g,n,i,b⟩=badA bw:=by
 unfold bodyA2
 rw [h,if_pos rfl]
theorem bodyA2_F {g b gw bw:Tm} {n:Int} {i:Bool} (h:wholeA g i b=(gw,false,bw)):bodyA2 ⟨g,n,i,b⟩=⟨gw,n,false,bw⟩:=by
 unfold bodyA2
 rw [h,if_neg (by simp)]
set_option maxRecDepth 100000 in
set_option maxHeartbeats 16000000 in
theorem rBody_any {w:World} {P:Nat→Prop} {t f d:Tm} {st sf sd:Value} {nx:Int} (hMk:RMakeOk t) (h1:TAtP w P t st) (h2:TAtP w P f sf) (h3:TAtP w P d sd) (hP:∀ b,P b→b<w.heap.size) (h0:0≤nx) (hbd:nx+sz t≤4611686018427396000) (hck:checkP t=0) :
  Calls Tryd.prog 18 #[valT t st,valT f sf,valT d sd,.int .i64 nx] w (AnsP w P (bodyA2 (ansM t f d nx))):=by
 obtain ⟨k1,n1,m1,b1,v1,ts1,nb1,mb1,A1,c1,rfl,rfl,hn1,hm1,hl1,hc1,hx1,hv1,_,_⟩:=h1.letters
 obtain ⟨k2,n2,m2,b2,v2,ts2,nb2,mb2,A2,c2,rfl,rfl,hn2,hm2,hl2,hc2,hx2,hv2,_,_⟩:=h2.letters
 obtain ⟨k3,n3,m3,b3,v3,ts3,nb3,mb3,A3,c3,rfl,rfl,hn3,hm3,hl3,hc3,hx3,hv3,_,_⟩:=h3.letters
 have HMk:=Lib.hid (show ∀ z,Below w.heap.size w z→Calls Tryd.prog 49 #[valT (.mk k1 n1 m1 b1 v1 ts1) (.slice A1 ts1.length c1),valT (.mk k2 n2 m2 b2 v2 ts2) (.slice A2 ts2.length c2),valT (.mk k3 n3 m3 b3 v3 ts3) (.slice A3 ts3.length c3),.int .i64 nx] z (AnsP z P (ansM (.mk k1 n1 m1 b1 v1 ts1) (.mk k2 n2 m2 b2 v2 ts2) (.mk k3 n3 m3 b3 v3 ts3) nx)) from fun z hz=>
  hMk z P _ _ _ _ _ nx (h1.below hz hP) (h2.below hz hP) (h3.below hz hP) (fun b hb=>Nat.lt_of_lt_of_le (hP b hb) hz.size) h0 hbd hck)
 rw [hv1,hv2,hv3] at HMk ⊢
 obtain ⟨L1,hL1⟩:∃ L,ts1.length=L:=⟨_,rfl⟩
 obtain ⟨L2,hL2⟩:∃ L,ts2.length=L:=⟨_,rfl⟩
 obtain ⟨L3,hL3⟩:∃ L,ts3.length=L:=⟨_,rfl⟩
 rw [hL1,hL2,hL3] at HMk ⊢
 clear hv1 hv2 hv3 hL1 hL2 hL3 h1 h2 h3 hMk hl1 hc1 hx1 hl2 hc2 hx2 hl3 hc3 hx3 h0 hbd hck
 obtain ⟨W1,hW1⟩:∃ W,w.alloc (.cells #[.int .i64 k1,.string nb1,.string mb1,.int .u64 b1,.int .i64 v1,.slice A1 L1 c1] 25)=W:=⟨_,rfl⟩
 have d1:Below w.heap.size w W1:=by rw [←hW1];exact (Below.refl _ _).alloc (Nat.le_refl _) _
 have s1:W1.heap.size=w.heap.size+1:=by rw [←hW1];simp
 have X1:TBox W1 w.heap.size (.mk k1 n1 m1 b1 v1 ts1) (.slice A1 L1 c1):=by rw [←hW1];exact TBox.new w hn1 hm1
 obtain ⟨W2,hW2⟩:∃ W,W1.alloc (.cells #[.int .i64 k2,.string nb2,.string mb2,.int .u64 b2,.int .i64 v2,.slice A2 L2 c2] 25)=W:=⟨_,rfl⟩
 have d2:Below W1.heap.size W1 W2:=by rw [←hW2];exact (Below.refl _ _).alloc (Nat.le_refl _) _
 have s2:W2.heap.size=W1.heap.size+1:=by rw [←hW2];simp
 have X2:TBox W2 W1.heap.size (.mk k2 n2 m2 b2 v2 ts2) (.slice A2 L2 c2):=by rw [←hW2];exact TBox.new W1 hn2 hm2
 obtain ⟨W3,hW3⟩:∃ W,W2.alloc (.cells #[.int .i64 k3,.string nb3,.string mb3,.int .u64 b3,.int .i64 v3,.slice A3 L3 c3] 25)=W:=⟨_,rfl⟩
 have d3:Below W2.heap.size W2 W3:=by rw [←hW3];exact (Below.refl _ _).alloc (Nat.le_refl _) _
 have s3:W3.heap.size=W2.heap.size+1:=by rw [←hW3];simp
 have X3:TBox W3 W2.heap.size (.mk k3 n3 m3 b3 v3 ts3) (.slice A3 L3 c3):=by rw [←hW3];exact TBox.new W2 hn3 hm3
 obtain ⟨W4,hW4⟩:∃ W,W3.alloc (.cells #[.int .i64 0,.string ⟨#[]⟩,.string ⟨#[]⟩,.int .u64 0,.int .i64 0,.slice none 0 0] 25)=W:=⟨_,rfl⟩
 have d4:Below W3.heap.size W3 W4:=by rw [←hW4];exact (Below.refl _ _).alloc (Nat.le_refl _) _
 have s4:W4.heap.size=W3.heap.size+1:=by rw [←hW4];simp
 have X4:TBox W4 W3.heap.size zeroT (.slice none 0 0):=by rw [←hW4];exact heap_alloc_new W3 _
 obtain ⟨W5,hW5⟩:∃ W,W4.alloc (.cells #[.bool false,.int .i64 0,.string ⟨#[]⟩,.string ⟨#[]⟩,.int .u64 0,.int .i64 0,.slice none 0 0] 35)=W:=⟨_,rfl⟩
 have d5:Below W4.heap.size W4 W5:=by rw [←hW5];exact (Below.refl _ _).alloc (Nat.le_refl _) _
 have s5:W5.heap.size=W4.heap.size+1:=by rw [←hW5];simp
 have X5:BBox W5 W4.heap.size false zeroT (.slice none 0 0):=by rw [←hW5];exact heap_alloc_new W4 _
 replace X1:=X1.below d2
 replace X1:=X1.below d3
 replace X1:=X1.below d4
 replace X1:=X1.below d5
 replace X2:=X2.below d3
 replace X2:=X2.below d4
 replace X2:=X2.below d5
 replace X3:=X3.below d4
 replace X3:=X3.below d5
 replace X4:=X4.below d5
 have hb0:Below w.heap.size w W5:=d1.trans ((d2.trans ((d3.trans ((d4.trans ((d5).mono (by omega))).mono (by omega))).mono (by omega))).mono (by omega))
 have hsz0:W5.heap.size=w.heap.size+1+1+1+1+1:=by omega
 rw [s1] at X2
 rw [s2,s1] at X3
 rw [s3,s2,s1] at X4
 rw [s4,s3,s2,s1] at X5
 have HX:=Lib.hid (And.intro X1 (And.intro X2 (And.intro X3 (And.intro X4 (And.intro X5 (And.intro hb0 hsz0))))))
 subst hW1 hW2 hW3 hW4 hW5
 clear X1 d1 s1 X2 d2 s2 X3 d3 s3 X4 d4 s4 X5 d5 s5 hb0 hsz0
 have HM:=Lib.hid (And.intro hn1 (And.intro hm1 (And.intro hn2 (And.intro hm2 (And.intro hn3 hm3)))))
 have HPP:=Lib.hid hP
 clear hn1 hm1 hn2 hm2 hn3 hm3 hP
 obtain ⟨a,ha⟩:∃ a,ansM (.mk k1 n1 m1 b1 v1 ts1) (.mk k2 n2 m2 b2 v2 ts2) (.mk k3 n3 m3 b3 v3 ts3) nx=a:=⟨_,rfl⟩
 rw [ha] at HMk ⊢
 clear ha
 obtain ⟨ga,na,ia,ba⟩:=a
 obtain ⟨k6,n6,m6,b6,v6,ts6⟩:=ga
 obtain ⟨nb6,hnb6⟩:∃ nb:ByteArray,(⟨n6.toArray⟩:ByteArray)=nb:=⟨_,rfl⟩
 obtain ⟨mb6,hmb6⟩:∃ mb:ByteArray,(⟨m6.toArray⟩:ByteArray)=mb:=⟨_,rfl⟩
 obtain ⟨L6,hL6⟩:∃ L,ts6.length=L:=⟨_,rfl⟩
 have HL6:=Lib.hid (And.intro hnb6 (And.intro hmb6 hL6))
 clear hnb6 hmb6 hL6
 obtain ⟨k7,n7,m7,b7,v7,ts7⟩:=ba
 obtain ⟨nb7,hnb7⟩:∃ nb:ByteArray,(⟨n7.toArray⟩:ByteArray)=nb:=⟨_,rfl⟩
 obtain ⟨mb7,hmb7⟩:∃ mb:ByteArray,(⟨m7.toArray⟩:ByteArray)=mb:=⟨_,rfl⟩
 obtain ⟨L7,hL7⟩:∃ L,ts7.length=L:=⟨_,rfl⟩
 have HL7:=Lib.hid (And.intro hnb7 (And.intro hmb7 hL7))
 clear hnb7 hmb7 hL7
 obtain ⟨W,hW⟩:∃ W,wholeA (Tm.mk k6 n6 m6 b6 v6 ts6) ia (Tm.mk k7 n7 m7 b7 v7 ts7)=W:=⟨_,rfl⟩
 obtain ⟨gw,iw,bw⟩:=W
 obtain ⟨k8,n8,m8,b8,v8,ts8⟩:=gw
 obtain ⟨nb8,hnb8⟩:∃ nb:ByteArray,(⟨n8.toArray⟩:ByteArray)=nb:=⟨_,rfl⟩
 obtain ⟨mb8,hmb8⟩:∃ mb:ByteArray,(⟨m8.toArray⟩:ByteArray)=mb:=⟨_,rfl⟩
 obtain ⟨L8,hL8⟩:∃ L,ts8.length=L:=⟨_,rfl⟩
 have HL8:=Lib.hid (And.intro hnb8 (And.intro hmb8 hL8))
 clear hnb8 hmb8 hL8
 obtain ⟨k9,n9,m9,b9,v9,ts9⟩:=bw
 obtain ⟨nb9,hnb9⟩:∃ nb:ByteArray,(⟨n9.toArray⟩:ByteArray)=nb:=⟨_,rfl⟩
 obtain ⟨mb9,hmb9⟩:∃ mb:ByteArray,(⟨m9.toArray⟩:ByteArray)=mb:=⟨_,rfl⟩
 obtain ⟨L9,hL9⟩:∃ L,ts9.length=L:=⟨_,rfl⟩
 have HL9:=Lib.hid (And.intro hnb9 (And.intro hmb9 hL9))
 clear hnb9 hmb9 hL9
 have HW:=Lib.hid hW
 clear hW
 obtain ⟨R,hR⟩:∃ R,bodyA2 ⟨(Tm.mk k6 n6 m6 b6 v6 ts6),na,ia,(Tm.mk k7 n7 m7 b7 v7 ts7)⟩=R:=⟨_,rfl⟩
 rw [hR]
 have HR0:=Lib.hid hR
 clear hR
 go_enter Tryd.func18,Tryd.ntmps18
 go_upto_region 1 with fail
 generalize (((((w.alloc (.cells #[.int .i64 k1,.string nb1,.string mb1,.int .u64 b1,.int .i64 v1,.slice A1 L1 c1] 25)).alloc (.cells #[.int .i64 k2,.string nb2,.string mb2,.int .u64 b2,.int .i64 v2,.slice A2 L2 c2] 25)).alloc (.cells #[.int .i64 k3,.string nb3,.string mb3,.int .u64 b3,.int .i64 v3,.slice A3 L3 c3] 25)).alloc (.cells #[.int .i64 0,.string ⟨#[]⟩,.string ⟨#[]⟩,.int .u64 0,.int .i64 0,.slice none 0 0] 25)).alloc (.cells #[.bool false,.int .i64 0,.string ⟨#[]⟩,.string ⟨#[]⟩,.int .u64 0,.int .i64 0,.slice none 0 0] 35))=u0 at *
 have HB0:=Lib.hid (And.intro (HX.out.2.2.2.2.2.1) (show (w.heap.size+1+1+1+1+1)=u0.heap.size from (HX.out.2.2.2.2.2.2).symm))
 have HCl:=Lib.hid ((HMk.out u0 HB0.out.1).mono (fun e w' h=>AnsP.letters HL6.out.1 HL6.out.2.1 HL6.out.2.2 HL7.out.1 HL7.out.2.1 HL7.out.2.2 h))
 clear HMk
 obtain ⟨x0,x1,x2,x3,x4,x5⟩:=(HX.out.1).cells HM.out.1 HM.out.2.1
 obtain ⟨p0,p1,p2,p3,p4,p5⟩:=(HX.out.2.1).cells HM.out.2.2.1 HM.out.2.2.2.1
 obtain ⟨q0,q1,q2,q3,q4,q5⟩:=(HX.out.2.2.1).cells HM.out.2.2.2.2.1 HM.out.2.2.2.2.2
 have HZz:=Lib.hid (show ∀ z,Below u0.heap.size u0 z→TBox z (w.heap.size+1+1+1) zeroT (.slice none 0 0)∧BBox z (w.heap.size+1+1+1+1) false zeroT (.slice none 0 0) from fun z hz=>⟨(HX.out.2.2.2.1).below hz,(HX.out.2.2.2.2.1).below hz⟩)
 go_upto_region 2 with (go_at_call 49;(with_reducible refine HCl.out.mono ?_);rintro e u5 ⟨A6,c6,A7,c7,rfl,ht1,ht2,hb⟩;have HV:=Lib.hid (And.intro ht1 (And.intro ht2 hb));clear ht1 ht2 hb)
 clear x0 x1 x2 x3 x4 x5 p0 p1 p2 p3 p4 p5 q0 q1 q2 q3 q4 q5 HCl HX
 have HZ:=Lib.hid (show ∀ z,((u5.alloc (.cells #[.int .i64 k6,.string nb6,.string mb6,.int .u64 b6,.int .i64 v6,.slice A6 L6 c6] 25)).alloc (.cells #[.bool ia,.int .i64 k7,.string nb7,.string mb7,.int .u64 b7,.int .i64 v7,.slice A7 L7 c7] 35))=z→∀ H1 H2,u5.heap.size=H1→u5.heap.size+1=H2→Below u5.heap.size u5 z∧TBox z H1 (Tm.mk k6 n6 m6 b6 v6 ts6) (.slice A6 L6 c6)∧BBox z H2 ia (Tm.mk k7 n7 m7 b7 v7 ts7) (.slice A7 L7 c7)∧z.heap.size=u5.heap.size+1+1∧H1=u5.heap.size∧H2=u5.heap.size+1 from fun z e H1 H2 e1 e2=>by
  rw [←e,←e1,←e2]
  have hb1:Below u5.heap.size u5 (u5.alloc (.cells #[.int .i64 k6,.string nb6,.string mb6,.int .u64 b6,.int .i64 v6,.slice A6 L6 c6] 25)):=(Below.refl _ _).alloc (Nat.le_refl _) _
  have hs1:(u5.alloc (.cells #[.int .i64 k6,.string nb6,.string mb6,.int .u64 b6,.int .i64 v6,.slice A6 L6 c6] 25)).heap.size=u5.heap.size+1:=by simp
  have hb2:Below (u5.alloc (.cells #[.int .i64 k6,.string nb6,.string mb6,.int .u64 b6,.int .i64 v6,.slice A6 L6 c6] 25)).heap.size (u5.alloc (.cells #[.int .i64 k6,.string nb6,.string mb6,.int .u64 b6,.int .i64 v6,.slice A6 L6 c6] 25)) ((u5.alloc (.cells #[.int .i64 k6,.string nb6,.string mb6,.int .u64 b6,.int .i64 v6,.slice A6 L6 c6] 25)).alloc (.cells #[.bool ia,.int .i64 k7,.string nb7,.string mb7,.int .u64 b7,.int .i64 v7,.slice A7 L7 c7] 35)):=(Below.refl _ _).alloc (Nat.le_refl _) _
  have hY:BBox ((u5.alloc (.cells #[.int .i64 k6,.string nb6,.string mb6,.int .u64 b6,.int .i64 v6,.slice A6 L6 c6] 25)).alloc (.cells #[.bool ia,.int .i64 k7,.string nb7,.string mb7,.int .u64 b7,.int .i64 v7,.slice A7 L7 c7] 35)) (u5.alloc (.cells #[.int .i64 k6,.string nb6,.string mb6,.int .u64 b6,.int .i64 v6,.slice A6 L6 c6] 25)).heap.size ia (Tm.mk k7 n7 m7 b7 v7 ts7) (.slice A7 L7 c7):=BBox.new (u5.alloc (.cells #[.int .i64 k6,.string nb6,.string mb6,.int .u64 b6,.int .i64 v6,.slice A6 L6 c6] 25)) HL7.out.1 HL7.out.2.1
  rw [hs1] at hY
  exact ⟨hb1.trans (hb2.mono (by omega)),(TBox.new u5 HL6.out.1 HL6.out.2.1).below hb2,hY,by simp,rfl,rfl⟩)
 generalize ((u5.alloc (.cells #[.int .i64 k6,.string nb6,.string mb6,.int .u64 b6,.int .i64 v6,.slice A6 L6 c6] 25)).alloc (.cells #[.bool ia,.int .i64 k7,.string nb7,.string mb7,.int .u64 b7,.int .i64 v7,.slice A7 L7 c7] 35))=u6 at *
 replace HZ:=Lib.hid (HZ.out _ rfl)
 generalize hH2:u5.heap.size+1=H2
 generalize hH1:u5.heap.size=H1
 replace HZ:=Lib.hid (HZ.out _ _ hH1 hH2)
 clear hH1 hH2
 have HP5:=Lib.hid (show ∀ b,NW P (w.heap.size+1+1+1+1+1) u5 b→b<u6.heap.size from fun b hb=>by
  have h1:=HZ.out.2.2.2.1
  have h2:=HB0.out.1.size
  have h3:=HV.out.2.2.size
  rcases hb with h | h
  ·have:=HPP.out b h;omega
  ·omega)
 have HWh:=Lib.hid ((rwhole_A (P:=NW P (w.heap.size+1+1+1+1+1) u5) (i:=ia) ((NW.of_grow HV.out.1 (Nat.le_of_eq HB0.out.2)).below HZ.out.1 (NW.lt (fun b hb=>Nat.lt_of_lt_of_le (HPP.out b hb) (Nat.le_trans HB0.out.1.size HV.out.2.2.size)))) ((NW.of_grow HV.out.2.1 (Nat.le_of_eq HB0.out.2)).below HZ.out.1 (NW.lt (fun b hb=>Nat.lt_of_lt_of_le (HPP.out b hb) (Nat.le_trans HB0.out.1.size HV.out.2.2.size)))) HP5.out).mono (fun e w' h=>WhP.letters HL8.out.1 HL8.out.2.1 HL8.out.2.2 HL9.out.1 HL9.out.2.1 HL9.out.2.2 (by rw [HW.out] at h;exact h)))
 rw [valT_mk HL6.out.1 HL6.out.2.1,badV_mk HL7.out.1 HL7.out.2.1] at HWh
 obtain ⟨x0,x1,x2,x3,x4,x5⟩:=HZ.out.2.1.cells HL6.out.1 HL6.out.2.1
 obtain ⟨y0,y1,y2,y3,y4,y5,y6⟩:=HZ.out.2.2.1.cells HL7.out.1 HL7.out.2.1
 go_upto_region 3 with (go_at_call 50;(with_reducible refine HWh.out.mono ?_);rintro e u7 ⟨A8,c8,A9,c9,rfl,ht1,ht2,hb⟩;have HV2:=Lib.hid (And.intro ht1 (And.intro ht2 hb));clear ht1 ht2 x0 x1 x2 x3 x4 x5 y0 y1 y2 y3 y4 y5 y6;have HQ1:=Lib.hid (HZ.out.2.1.below hb);have HQ2:=Lib.hid (HZ.out.2.2.1.below hb);clear hb;obtain ⟨a0,a1,a2,a3,a4,a5⟩:=HQ1.out.cells HL6.out.1 HL6.out.2.1;obtain ⟨f0,f1,f2,f3,f4,f5⟩:=HQ1.out.frozens;have HS1:=Lib.hid (HQ1.out.set6 (k:=k8) (b:=b8) (v:=v8) (n:=n8) (m:=m8) ts8 (.slice A8 L8 c8) (nb:=nb8) (mb:=mb8) HL8.out.1 HL8.out.2.1);have HQ3:=Lib.hid (HQ2.out.gro HS1.out.2 (by have:=HZ.out.2.2.2.2;omega));obtain ⟨g0,g1,g2,g3,g4,g5,g6⟩:=HQ3.out.cells HL7.out.1 HL7.out.2.1;obtain ⟨e0,e1,e2,e3,e4,e5,e6⟩:=HQ3.out.frozens)
 clear a0 a1 a2 a3 a4 a5 f0 f1 f2 f3 f4 f5 g0 g1 g2 g3 g4 g5 g6 e0 e1 e2 e3 e4 e5 e6 HWh
 generalize ((((((u7.setCell ⟨H1,0,none⟩ (.int .i64 k8)).setCell ⟨H1,1,none⟩ (.string nb8)).setCell ⟨H1,2,none⟩ (.string mb8)).setCell ⟨H1,3,none⟩ (.int .u64 b8)).setCell ⟨H1,4,none⟩ (.int .i64 v8)).setCell ⟨H1,5,none⟩ (.slice A8 L8 c8))=z1 at *
 have HS2:=Lib.hid (HQ3.out.set7 iw (k:=k9) (b:=b9) (v:=v9) (n:=n9) (m:=m9) ts9 (.slice A9 L9 c9) (nb:=nb9) (mb:=mb9) HL9.out.1 HL9.out.2.1)
 generalize (((((((z1.setCell ⟨H2,0,none⟩ (.bool iw)).setCell ⟨H2,1,none⟩ (.int .i64 k9)).setCell ⟨H2,2,none⟩ (.string nb9)).setCell ⟨H2,3,none⟩ (.string mb9)).setCell ⟨H2,4,none⟩ (.int .u64 b9)).setCell ⟨H2,5,none⟩ (.int .i64 v9)).setCell ⟨H2,6,none⟩ (.slice A9 L9 c9))=u8 at *
 have HF8:=Lib.hid (show Below u0.heap.size u0 u8∧TBox u8 H1 (Tm.mk k8 n8 m8 b8 v8 ts8) (.slice A8 L8 c8)∧BBox u8 H2 iw (Tm.mk k9 n9 m9 b9 v9 ts9) (.slice A9 L9 c9)∧TAtP u8 (NW P (w.heap.size+1+1+1+1+1) u8) (Tm.mk k8 n8 m8 b8 v8 ts8) (.slice A8 L8 c8)∧TAtP u8 (NW P (w.heap.size+1+1+1+1+1) u8) (Tm.mk k9 n9 m9 b9 v9 ts9) (.slice A9 L9 c9)∧(w.heap.size+1+1+1+1+1)≤H1∧(w.heap.size+1+1+1+1+1)≤H2 from by
  have h1:=HV.out.2.2
  have h2:=HZ.out.1
  have h3:=HV2.out.2.2
  have h4:=HS1.out.2
  have h5:=HS2.out.2
  have e1:=h1.size
  have e2:=h2.size
  have e3:=h3.size
  have e4:=h4.size
  have e5:=h5.size
  have e6:=HZ.out.2.2.2
  have e0:=HB0.out.2
  have e7:=HB0.out.1.size
  have hbel:Below u0.heap.size u0 u7:=h1.trans ((h2.trans (h3.mono e2)).mono e1)
  have hbel2:=hbel.grown h4 hbel.size (fun j e=>by injection e with e;omega)
  have kp:∀ (t:Tm) (s:Value),TAtP u7 (Grow (NW P (w.heap.size+1+1+1+1+1) u5) u6 u7) t s→TAtP u8 (NW P (w.heap.size+1+1+1+1+1) u8) t s:=fun t s h=>TAtP.keep _ h fun b hb=>by
   have hlt:b<u7.heap.size∧b≠H1∧b≠H2:=by
    rcases hb with (h | h) | h
    ·have:=HPP.out b h;omega
    ·omega
    ·omega
   refine ⟨?_,?_⟩
   ·rcases hb with (h | h) | h
    ·exact .inl h
    ·exact .inr ⟨h.1,by omega⟩
    ·exact .inr ⟨by omega,by omega⟩
   ·rw [h5.block b (by omega) (fun e=>by injection e with e;omega),h4.block b hlt.1 (fun e=>by injection e with e;omega)]
  exact ⟨hbel2.grown h5 hbel2.size (fun j e=>by injection e with e;omega),HS1.out.1.gro h5 (by omega),HS2.out.1,kp _ _ HV2.out.1,kp _ _ HV2.out.2.1,by omega,by omega⟩)
 clear HS1 HS2 HQ1 HQ2 HQ3 HV HV2 HP5 HZ
 have HW8:=Lib.hid (HB0.out.1.trans (HF8.out.1.mono HB0.out.1.size))
 obtain ⟨y0,y1,y2,y3,y4,y5,y6⟩:=HF8.out.2.2.1.cells HL9.out.1 HL9.out.2.1
 cases iw with
 | true=>
  go_upto_region 4 with fail
  clear y0 y1 y2 y3 y4 y5 y6
  have HE:=Lib.hid (show badA (Tm.mk k9 n9 m9 b9 v9 ts9)=R from by rw [←HR0.out];exact (bodyA2_T HW.out).symm)
  have h1:=HF8.out.2.2.2.2.2
  refine wp_region_G (w.heap.size+1+1+1) 4 (by kernel_rfl) (fun v0 KK KG=>?_)
  refine tw 0 KG (v:=?tv1) (fun w5 hS=>?ty1) ?_
  case ty1=>go_simp;rfl
  refine tw 1 KG (v:=?tv2) (fun w5 hS=>?ty2) ?_
  case ty2=>obtain ⟨p0,p1,p2,p3,p4,p5,p6⟩:=(HF8.out.2.2.1.gro hS (by omega)).cells HL9.out.1 HL9.out.2.1;go_simp;rfl
  refine stT (i:=2) (t:=(Tm.mk 0 [] [] 0 0 [])) (by kernel_rfl) rfl (by kernel_rfl) rfl rfl (by kernel_rfl) (.trans (by kernel_rfl) (valT_mk (sl:=.slice none 0 0) (nb:=⟨#[]⟩) (mb:=⟨#[]⟩) rfl rfl).symm) (HZz.out _ (HF8.out.1.trans (KK.mono HF8.out.1.size))).1 (fun x1 hT5 g5=>⟨fun _=>grown_trans KG g5,?_⟩)
  refine w1 3 fun K hK=>?_
  go_simp
  refine hK.out _ _ (fun _=>grown_trans KG g5) ?_
  refine stB (i:=4) (j:=true) (t:=(Tm.mk k9 n9 m9 b9 v9 ts9)) (by kernel_rfl) rfl (by kernel_rfl) rfl rfl (by kernel_rfl) (.trans (by kernel_rfl) (badV_mk (i:=true) (sl:=.slice A9 L9 c9) HL9.out.1 HL9.out.2.1).symm) (BBox.gro (HZz.out _ (HF8.out.1.trans (KK.mono HF8.out.1.size))).2 g5 (by omega)) (fun x2 hB6 g6=>⟨fun h=>absurd h (by simp),?_⟩)
  refine wpAnyW_done (by kernel_rfl) ?_ _
  go_wp2
  have hcc:=(hT5.gro g6 (by omega)).cells (nb:=⟨#[]⟩) (mb:=⟨#[]⟩) rfl rfl
  have a0:=hcc.1
  have a1:=hcc.2.1
  have a2:=hcc.2.2.1
  have a3:=hcc.2.2.2.1
  have a4:=hcc.2.2.2.2.1
  have a5:=hcc.2.2.2.2.2
  clear hcc
  have hcc:=hB6.cells HL9.out.1 HL9.out.2.1
  have s0:=hcc.1
  have s1:=hcc.2.1
  have s2:=hcc.2.2.1
  have s3:=hcc.2.2.2.1
  have s4:=hcc.2.2.2.2.1
  have s5:=hcc.2.2.2.2.2.1
  have s6:=hcc.2.2.2.2.2.2
  clear hcc
  refine bodyPost_ret (v:=.tuple #[.agg #[.int .i64 0,.string ⟨#[]⟩,.string ⟨#[]⟩,.int .u64 0,.int .i64 0,.slice none 0 0],.int .i64 0,.agg #[.bool true,.int .i64 k9,.string nb9,.string mb9,.int .u64 b9,.int .i64 v9,.slice A9 L9 c9]]) (by simp [results,Tryd.results18,go_sem,a0,a1,a2,a3,a4,a5,s0,s1,s2,s3,s4,s5,s6]) rfl ?_
  rw [←HE.out]
  exact ans_end HPP.out (HW8.out.trans (KK.mono HW8.out.size)) ⟨by omega,Nat.lt_succ_of_lt (Nat.lt_succ_self _)⟩ ⟨by omega,Nat.lt_succ_self _⟩ g5 g6 (zero_at v0 _) (NW.keep HF8.out.2.2.2.2.1 KK (fun b hb=>Nat.lt_of_lt_of_le (HPP.out b hb) HW8.out.size)) (by
   show _=Ending.returned (.tuple #[valT (Tm.mk 0 [] [] 0 0 []) (.slice none 0 0),_,badV true (Tm.mk k9 n9 m9 b9 v9 ts9) (.slice A9 L9 c9)])
   rw [valT_mk (nb:=⟨#[]⟩) (mb:=⟨#[]⟩) rfl rfl,badV_mk HL9.out.1 HL9.out.2.1]
   all_goals rfl)
 | false=>
  go_upto_region 5 with fail
  clear y0 y1 y2 y3 y4 y5 y6
  have HE:=Lib.hid (show (⟨(Tm.mk k8 n8 m8 b8 v8 ts8),na,false,(Tm.mk k9 n9 m9 b9 v9 ts9)⟩:Ans)=R from by rw [←HR0.out];exact (bodyA2_F HW.out).symm)
  have h1:=HF8.out.2.2.2.2.2
  refine wp_region_G (w.heap.size+1+1+1) 5 (by kernel_rfl) (fun v0 KK KG=>?_)
  refine tw 0 KG (v:=?tv3) (fun w5 hS=>?ty3) ?_
  case ty3=>obtain ⟨p0,p1,p2,p3,p4,p5⟩:=(HF8.out.2.1.gro hS (by omega)).cells HL8.out.1 HL8.out.2.1;go_simp;rfl
  refine tw 1 KG (v:=?tv4) (fun w5 hS=>?ty4) ?_
  case ty4=>go_simp;rfl
  refine tw 2 KG (v:=?tv5) (fun w5 hS=>?ty5) ?_
  case ty5=>obtain ⟨p0,p1,p2,p3,p4,p5,p6⟩:=(HF8.out.2.2.1.gro hS (by omega)).cells HL9.out.1 HL9.out.2.1;go_simp;rfl
  refine stT (i:=3) (t:=(Tm.mk k8 n8 m8 b8 v8 ts8)) (by kernel_rfl) rfl (by kernel_rfl) rfl rfl (by kernel_rfl) (.trans (by kernel_rfl) (valT_mk (sl:=.slice A8 L8 c8) HL8.out.1 HL8.out.2.1).symm) (HZz.out _ (HF8.out.1.trans (KK.mono HF8.out.1.size))).1 (fun x1 hT5 g5=>⟨fun _=>grown_trans KG g5,?_⟩)
  refine w1 4 fun K hK=>?_
  go_simp
  refine hK.out _ _ (fun _=>grown_trans KG g5) ?_
  refine stB (i:=5) (j:=false) (t:=(Tm.mk k9 n9 m9 b9 v9 ts9)) (by kernel_rfl) rfl (by kernel_rfl) rfl rfl (by kernel_rfl) (.trans (by kernel_rfl) (badV_mk (i:=false) (sl:=.slice A9 L9 c9) HL9.out.1 HL9.out.2.1).symm) (BBox.gro (HZz.out _ (HF8.out.1.trans (KK.mono HF8.out.1.size))).2 g5 (by omega)) (fun x2 hB6 g6=>⟨fun h=>absurd h (by simp),?_⟩)
  refine wpAnyW_done (by kernel_rfl) ?_ _
  go_wp2
  have hcc:=(hT5.gro g6 (by omega)).cells HL8.out.1 HL8.out.2.1
  have a0:=hcc.1
  have a1:=hcc.2.1
  have a2:=hcc.2.2.1
  have a3:=hcc.2.2.2.1
  have a4:=hcc.2.2.2.2.1
  have a5:=hcc.2.2.2.2.2
  clear hcc
  have hcc:=hB6.cells HL9.out.1 HL9.out.2.1
  have s0:=hcc.1
  have s1:=hcc.2.1
  have s2:=hcc.2.2.1
  have s3:=hcc.2.2.2.1
  have s4:=hcc.2.2.2.2.1
  have s5:=hcc.2.2.2.2.2.1
  have s6:=hcc.2.2.2.2.2.2
  clear hcc
  refine bodyPost_ret (v:=.tuple #[.agg #[.int .i64 k8,.string nb8,.string mb8,.int .u64 b8,.int .i64 v8,.slice A8 L8 c8],.int .i64 na,.agg #[.bool false,.int .i64 k9,.string nb9,.string mb9,.int .u64 b9,.int .i64 v9,.slice A9 L9 c9]]) (by simp [results,Tryd.results18,go_sem,a0,a1,a2,a3,a4,a5,s0,s1,s2,s3,s4,s5,s6]) rfl ?_
  rw [←HE.out]
  exact ans_end HPP.out (HW8.out.trans (KK.mono HW8.out.size)) ⟨by omega,Nat.lt_succ_of_lt (Nat.lt_succ_self _)⟩ ⟨by omega,Nat.lt_succ_self _⟩ g5 g6 (NW.keep HF8.out.2.2.2.1 KK (fun b hb=>Nat.lt_of_lt_of_le (HPP.out b hb) HW8.out.size)) (NW.keep HF8.out.2.2.2.2.1 KK (fun b hb=>Nat.lt_of_lt_of_le (HPP.out b hb) HW8.out.size)) (by
   show _=Ending.returned (.tuple #[valT (Tm.mk k8 n8 m8 b8 v8 ts8) (.slice A8 L8 c8),_,badV false (Tm.mk k9 n9 m9 b9 v9 ts9) (.slice A9 L9 c9)])
   rw [valT_mk HL8.out.1 HL8.out.2.1,badV_mk HL9.out.1 HL9.out.2.1]
   all_goals rfl)
set_option maxRecDepth 100000 in
set_option maxHeartbeats 16000000 in
theorem sameList_any {w:World} {P Q:Nat→Prop} {A A2:Option Addr} {n c c2:Nat} {ps qs:List (Tm × Value)} (h:RowP w P A n ps) (hP:∀ b,P b→b<w.heap.size) (h2:RowP w Q A2 n qs) (hQ:∀ b,Q b→b<w.heap.size) (hn:n≤maxArgs) (hc:n≤c) (hc2:n≤c2) (he:ps.map (·.1)=qs.map (·.1)) :
  Calls Tryd.prog 19 #[.slice A n c,.slice A2 n c2] w fun e w'=>e = .returned (.bool true)∧Below w.heap.size w w':=by
 have HH:=Lib.hid (And.intro h (And.intro hP (And.intro h2 (And.intro hQ he))))
 have hnI:(n:Int)≤1759218604400:=by unfold maxArgs at hn;omega
 clear h hP h2 hQ hn he
 go_enter Tryd.func19,Tryd.ntmps19
 go_upto_region 4 with fail
 go_loopw [5] (fun vi wr=>∃ i:Nat,vi = .int .i64 (i:Int)∧i≤n∧Hid (Below w.heap.size w wr)) (fun vi _=>((n:Int) - intOf vi).toNat)
 case atStart=>exact ⟨0,rfl,Nat.zero_le _,Lib.hid (Below.refl _ _)⟩
 case round=>
  obtain ⟨i,rfl,hi,HI⟩:=hrel
  by_cases hlt:i<n
  ·have hltI:(i:Int)<(n:Int):=by omega
   have hi0:(0:Int)≤(i:Int):=by omega
   obtain ⟨p,hp⟩:∃ p,ps[i]?=some p:=⟨_,List.getElem?_eq_getElem (by rw [HH.out.1.1];exact hlt)⟩
   obtain ⟨q,hq⟩:∃ q,qs[i]?=some q:=⟨_,List.getElem?_eq_getElem (by rw [HH.out.2.2.1.1];exact hlt)⟩
   have hpq:p.1=q.1:=by
    have h9:=congrArg (fun l=>l[i]?) HH.out.2.2.2.2
    simp only [List.getElem?_map,hp,hq,Option.map_some] at h9
    injection h9
   obtain ⟨g,o,rfl,hgB,helt0⟩:=(HH.out.1.below HI.out HH.out.2.1).elt hp
   obtain ⟨g2,o2,rfl,hgB2,helt2⟩:=(HH.out.2.2.1.below HI.out HH.out.2.2.2.1).elt hq
   have helt:=EltP.at_ helt0 (fun b hb=>Nat.lt_of_lt_of_le (HH.out.2.1 b hb) HI.out.size)
   have heltb:=EltP.at_ helt2 (fun b hb=>Nat.lt_of_lt_of_le (HH.out.2.2.2.1 b hb) HI.out.size)
   have HGg:=Lib.hid hgB
   have HGg2:=Lib.hid hgB2
   obtain ⟨pt,psl⟩:=p
   obtain ⟨qt,qsl⟩:=q
   change pt=qt at hpq
   obtain ⟨A3,c3,k3,n3,m3,b3,v3,ts3,nb3,mb3,rfl,hnb3,hmb3,hta,e0,e1,e2,e3,e4,e5⟩:=EltAt.cells helt
   have HE:=Lib.hid (And.intro e0 (And.intro e1 (And.intro e2 (And.intro e3 (And.intro e4 e5)))))
   clear e0 e1 e2 e3 e4 e5
   obtain ⟨A4,c4,k4,n4,m4,b4,v4,ts4,nb4,mb4,rfl,hnb4,hmb4,htb,e0,e1,e2,e3,e4,e5⟩:=EltAt.cells heltb
   have HE2:=Lib.hid (And.intro e0 (And.intro e1 (And.intro e2 (And.intro e3 (And.intro e4 e5)))))
   clear e0 e1 e2 e3 e4 e5
   have HCl:=Lib.hid (show ∀ z,Below wr.heap.size wr z→Calls Tryd.prog 13 #[.agg #[.int .i64 k3,.string nb3,.string mb3,.int .u64 b3,.int .i64 v3,.slice A3 ts3.length c3],.agg #[.int .i64 k4,.string nb4,.string mb4,.int .u64 b4,.int .i64 v4,.slice A4 ts4.length c4]] z (fun e w'=>e = .returned (.bool true)∧Below z.heap.size z w') from fun z hz=>by
    have h9:=Same_any (.mk k4 n4 m4 b4 v4 ts4) z (.slice A3 ts3.length c3) (.slice A4 ts4.length c4) (by rw [←hpq];exact hta.to hz hz.size) (htb.to hz hz.size)
    rw [valT_mk (sl:=.slice A4 ts4.length c4) hnb4 hmb4,←hpq,valT_mk hnb3 hmb3] at h9
    exact h9)
   have HLT:=Lib.hid hlt
   clear helt heltb helt0 helt2 hta htb hnb3 hmb3 hnb4 hmb4 hlt hi hq hp hpq hgB hgB2
   go_upto_region 6 with fail
   refine wp_region_U 9 (by kernel_rfl) (fun z0 K0 hs0=>?_)
   refine tw 0 K0 (v:=?tv1) (fun w5 hS=>?ty1) ?_
   case ty1=>go_simp;rfl
   refine tw 1 K0 (v:=?tv2) (fun w5 hS=>?ty2) ?_
   case ty2=>go_simp;rfl
   refine tw 2 K0 (v:=?tv3) (fun w5 hS=>?ty3) ?_
   case ty3=>go_simp;rfl
   refine tw 3 K0 (v:=?tv4) (fun w5 hS=>?ty4) ?_
   case ty4=>have key:=fun q:Nat=>hS.cell (p:=⟨g,q,none⟩) HGg.out;have e0:=(key _).trans HE.out.1;have e1:=(key _).trans HE.out.2.1;have e2:=(key _).trans HE.out.2.2.1;have e3:=(key _).trans HE.out.2.2.2.1;have e4:=(key _).trans HE.out.2.2.2.2.1;have e5:=(key _).trans HE.out.2.2.2.2.2;clear key;go_simp;rfl
   refine tw 4 K0 (v:=?tv5) (fun w5 hS=>?ty5) ?_
   case ty5=>go_simp;rfl
   refine tw 5 K0 (v:=?tv6) (fun w5 hS=>?ty6) ?_
   case ty6=>go_simp;rfl
   refine tw 6 K0 (v:=?tv7) (fun w5 hS=>?ty7) ?_
   case ty7=>go_simp;rfl
   refine tw 7 K0 (v:=?tv8) (fun w5 hS=>?ty8) ?_
   case ty8=>have key:=fun q:Nat=>hS.cell (p:=⟨g2,q,none⟩) HGg2.out;have e0:=(key _).trans HE2.out.1;have e1:=(key _).trans HE2.out.2.1;have e2:=(key _).trans HE2.out.2.2.1;have e3:=(key _).trans HE2.out.2.2.2.1;have e4:=(key _).trans HE2.out.2.2.2.2.1;have e5:=(key _).trans HE2.out.2.2.2.2.2;clear key;go_simp;rfl
   refine w1 8 fun K hK=>?_
   go_simp
   (with_reducible refine (HCl.out _ K0).mono ?_)
   rintro e z1 ⟨rfl,hb⟩
   have K1:=K0.trans (hb.mono K0.size)
   refine hK.out _ _ (fun _=>K1) ?_
   refine w1 9 fun K hK=>?_
   go_simp
   refine hK.out _ _ (fun h=>absurd h (by simp)) ?_
   refine wpAnyW_done (by kernel_rfl) ?_ _
   have HB4:=Lib.hid (HI.out.trans (K1.mono HI.out.size))
   clear K0 K1 hb hs0 HCl HE HE2
   go_wp2
   refine ⟨⟨i+1,rfl,HLT.out,HB4⟩,?_⟩
   have:=HLT.out
   show ((n:Int) - ((i:Int)+1)).toNat<((n:Int) - (i:Int)).toNat
   omega
  ·have ei:i=n:=by omega
   subst ei
   clear hlt hi
   go_wp2
   go_ret
   exact ⟨rfl,HI.out⟩
def WrongOk (w:World) (ev:Value) (N:Int) (i:Bool) (b:Tm):Prop:=
 (N≠0∧ev = .iface 32 (.int .i64 N))∨(N=0∧i=true∧∃ bb,ev = .iface 82 (.pointer (some ⟨bb,0,none⟩))∧BallAt w bb b)∨(N=0∧i=false∧ev = .nilIface)
theorem BallAt.below {w w':World} {bb:Nat} {t:Tm} (h:BallAt w bb t) (hb:Below w.heap.size w w'):BallAt w' bb t:=by
 obtain ⟨sl,h1,h2⟩:=h
 exact ⟨sl,(hb.block bb (Array.getElem?_eq_some_iff.1 h1).1).trans h1,h2.to hb hb.size⟩
theorem WrongOk.below {w w':World} {ev:Value} {N:Int} {i:Bool} {b:Tm} (h:WrongOk w ev N i b) (hb:Below w.heap.size w w'):WrongOk w' ev N i b:=by
 rcases h with h | ⟨h1,h2,bb,h3,h4⟩ | h
 ·exact .inl h
 ·exact .inr (.inl ⟨h1,h2,bb,h3,h4.below hb⟩)
 ·exact .inr (.inr h)
theorem BallAt.cells {w:World} {bb:Nat} {k v b:Int} {n m:List UInt8} {ts:List Tm} {nb mb:ByteArray} {L:Nat} (h:BallAt w bb (.mk k n m b v ts)) (hn:(⟨n.toArray⟩:ByteArray)=nb) (hm:(⟨m.toArray⟩:ByteArray)=mb) (hL:ts.length=L):∃ A c,TAt w w.heap.size (.mk k n m b v ts) (.slice A L c)∧bb<w.heap.size ∧
  w.cell? ⟨bb,0,none⟩=some (.int .i64 k)∧w.cell? ⟨bb,1,none⟩=some (.string nb)∧w.cell? ⟨bb,2,none⟩=some (.string mb)∧w.cell? ⟨bb,3,none⟩=some (.int .u64 b)∧w.cell? ⟨bb,4,none⟩=some (.int .i64 v)∧w.cell? ⟨bb,5,none⟩=some (.slice A L c):=by
 obtain ⟨sl,h,ht⟩:=h
 obtain ⟨A,c,rfl⟩:=TAtP.sl hL ht
 subst hn hm
 refine ⟨A,c,ht,(Array.getElem?_eq_some_iff.1 h).1,?_,?_,?_,?_,?_,?_⟩ <;> (rw [cell_of_row w bb _ _ _ (0,0) h];rfl)
set_option maxRecDepth 100000 in
set_option maxHeartbeats 16000000 in
theorem wrong_any {w:World} {ev:Value} {N:Int} {i:Bool} {k v b:Int} {n m:List UInt8} {ts:List Tm} {nb mb:ByteArray} {A:Option Addr} {L c:Nat} (hn:(⟨n.toArray⟩:ByteArray)=nb) (hm:(⟨m.toArray⟩:ByteArray)=mb) (hW:WrongOk w ev N i (.mk k n m b v ts)) (ht:TAt w w.heap.size (.mk k n m b v ts) (.slice A L c)) :
  Calls Tryd.prog 14 #[ev,.int .i64 N,.agg #[.bool i,.int .i64 k,.string nb,.string mb,.int .u64 b,.int .i64 v,.slice A L c]] w fun e w'=>e = .returned (.bool true)∧Below w.heap.size w w':=by
 have hL:ts.length=L:=by
  obtain ⟨A',c',e,_⟩:=TAtP.iff.1 ht
  injection e with e1 e2 e3
  exact e2.symm
 obtain ⟨W1,hW1⟩:∃ W,w.alloc (.cells #[.bool i,.int .i64 k,.string nb,.string mb,.int .u64 b,.int .i64 v,.slice A L c] 35)=W:=⟨_,rfl⟩
 have d1:Below w.heap.size w W1:=by rw [←hW1];exact (Below.refl _ _).alloc (Nat.le_refl _) _
 have s1:W1.heap.size=w.heap.size+1:=by rw [←hW1];simp
 have X1:BBox W1 w.heap.size i (.mk k n m b v ts) (.slice A L c):=by rw [←hW1];exact BBox.new w hn hm
 have hb0:Below w.heap.size w W1:=d1
 have hsz0:W1.heap.size=w.heap.size+1:=by omega
 have HX:=Lib.hid (And.intro X1 (And.intro hb0 hsz0))
 subst hW1
 clear X1 d1 s1 hb0 hsz0
 have HM:=Lib.hid (And.intro hn (And.intro hm hL))
 have HT:=Lib.hid ht
 clear hn hm hL ht
 rcases hW with ⟨hN,rfl⟩ | ⟨rfl,rfl,bb,rfl,hball⟩ | ⟨rfl,rfl,rfl⟩
 ·have ha:∀ (W:World) (v:Value),(Instr.typeAssert (.iface 32 v) 29 32 true).run Tryd.prog W = .ok (.tuple #[v,.bool true]) W:=fun W v=>by kernel_rfl
  have hNb:(N != 0)=true:=by simpa using hN
  clear hN
  go_enter Tryd.func14,Tryd.ntmps14
  go_wp2
  go_ret
  exact ⟨rfl,HX.out.2.1⟩
 ·have ha:∀ (W:World) (v:Value),(Instr.typeAssert (.iface 82 v) 29 82 true).run Tryd.prog W = .ok (.tuple #[v,.bool true]) W:=fun W v=>by kernel_rfl
  have hbx:=HX.out.1
  obtain ⟨p0,p1,p2,p3,p4,p5,p6⟩:=hbx.cells HM.out.1 HM.out.2.1
  clear hbx
  have HBa:=Lib.hid hball
  clear hball
  go_enter Tryd.func14,Tryd.ntmps14
  go_upto_region 6 with fail
  clear p0 p1 p2 p3 p4 p5 p6 ha
  generalize (w.alloc (.cells #[.bool true,.int .i64 k,.string nb,.string mb,.int .u64 b,.int .i64 v,.slice A L c] 35))=u0 at *
  have HKb:=Lib.hid (HBa.out.below HX.out.2.1)
  obtain ⟨A9,c9,ht9,hlt9,e0,e1,e2,e3,e4,e5⟩:=HKb.out.cells HM.out.1 HM.out.2.1 HM.out.2.2
  have HT9:=Lib.hid ht9
  have HL9:=Lib.hid hlt9
  have HE:=Lib.hid (And.intro e0 (And.intro e1 (And.intro e2 (And.intro e3 (And.intro e4 e5)))))
  clear e0 e1 e2 e3 e4 e5 ht9 hlt9 HKb HBa
  refine wp_region_U 14 (by kernel_rfl) (fun z0 K0 hs0=>?_)
  refine tkW 0 (v:=?tv9) K0 rfl (by kernel_rfl) ?tq9 (by kernel_rfl) (fun w5 hS=>?ty9) ?_
  case ty9=>go_simp;rfl
  case tq9=>exact fun _ _ _ h=>h
  refine tkW 1 (v:=?tv10) K0 rfl (by kernel_rfl) ?tq10 (by kernel_rfl) (fun w5 hS=>?ty10) ?_
  case ty10=>go_simp;rfl
  case tq10=>exact fun _ _ _ h=>h
  refine tkW 2 (v:=?tv11) K0 rfl (by kernel_rfl) ?tq11 (by kernel_rfl) (fun w5 hS=>?ty11) ?_
  case ty11=>go_simp;rfl
  case tq11=>exact fun _ _ _ h=>h
  refine tkW 3 (v:=?tv12) K0 rfl (by kernel_rfl) ?tq12 (by kernel_rfl) (fun w5 hS=>?ty12) ?_
  case ty12=>go_simp;rfl
  case tq12=>exact fun _ _ _ h=>h
  refine tkW 4 (v:=?tv13) K0 rfl (by kernel_rfl) ?tq13 (by kernel_rfl) (fun w5 hS=>?ty13) ?_
  case ty13=>go_simp;rfl
  case tq13=>exact fun _ _ _ h=>h
  refine tkW 5 (v:=?tv14) K0 rfl (by kernel_rfl) ?tq14 (by kernel_rfl) (fun w5 hS=>?ty14) ?_
  case ty14=>go_simp;rfl
  case tq14=>exact fun _ _ _ h=>h
  refine tkW 6 (v:=?tv15) K0 rfl (by kernel_rfl) ?tq15 (by kernel_rfl) (fun w5 hS=>?ty15) ?_
  case ty15=>go_simp;rfl
  case tq15=>exact fun _ _ _ h=>h
  refine tkW 7 (v:=?tv16) K0 rfl (by kernel_rfl) ?tq16 (by kernel_rfl) (fun w5 hS=>?ty16) ?_
  case ty16=>go_simp;rfl
  case tq16=>exact fun _ _ _ h=>h
  refine tkW 8 (v:=?tv17) K0 rfl (by kernel_rfl) ?tq17 (by kernel_rfl) (fun w5 hS=>?ty17) ?_
  case ty17=>go_simp;rfl
  case tq17=>exact fun _ _ _ h=>h
  refine tkW 9 (v:=?tv18) K0 rfl (by kernel_rfl) ?tq18 (by kernel_rfl) (fun w5 hS=>?ty18) ?_
  case ty18=>have key:=fun q:Nat=>hS.cell (p:=⟨bb,q,none⟩) HL9.out;have e0:=(key _).trans HE.out.1;have e1:=(key _).trans HE.out.2.1;have e2:=(key _).trans HE.out.2.2.1;have e3:=(key _).trans HE.out.2.2.2.1;have e4:=(key _).trans HE.out.2.2.2.2.1;have e5:=(key _).trans HE.out.2.2.2.2.2;clear key;go_simp;rfl
  case tq18=>exact fun _ _ _ h=>h
  refine tkW 10 (v:=?tv19) K0 rfl (by kernel_rfl) ?tq19 (by kernel_rfl) (fun w5 hS=>?ty19) ?_
  case ty19=>go_simp;rfl
  case tq19=>exact fun _ _ _ h=>h
  refine tkW 11 (v:=?tv20) K0 rfl (by kernel_rfl) ?tq20 (by kernel_rfl) (fun w5 hS=>?ty20) ?_
  case ty20=>obtain ⟨p0,p1,p2,p3,p4,p5,p6⟩:=(HX.out.1.below hS).cells HM.out.1 HM.out.2.1;go_simp;rfl
  case tq20=>exact fun _ _ _ h=>h
  refine w1 12 fun K hK=>?_
  have hS:=Same_any (.mk k n m b v ts) z0 (.slice A9 L c9) (.slice A L c) (HT9.out.to K0 K0.size) (HT.out.to (HX.out.2.1.trans (K0.mono HX.out.2.1.size)) (HX.out.2.1.trans (K0.mono HX.out.2.1.size)).size)
  rw [valT_mk (sl:=.slice A9 L c9) HM.out.1 HM.out.2.1,valT_mk (sl:=.slice A L c) HM.out.1 HM.out.2.1] at hS
  have HS:=Lib.hid hS
  clear hS
  go_simp
  (with_reducible refine HS.out.mono ?_)
  rintro e z1 ⟨rfl,hb⟩
  have K1:=K0.trans (hb.mono K0.size)
  refine hK.out _ _ (fun _=>K1) ?_
  refine w1 13 fun K hK=>?_
  go_simp
  refine hK.out _ _ (fun _=>K1) ?_
  refine w1 14 fun K hK=>?_
  go_simp
  refine hK.out _ _ (fun h=>absurd h (by simp)) ?_
  refine wpAnyW_done (by kernel_rfl) ?_ _
  have HB4:=Lib.hid (HX.out.2.1.trans (K1.mono HX.out.2.1.size))
  clear K0 K1 hb hs0 HS HE
  go_wp2
  go_ret
  exact ⟨rfl,HB4.out⟩
 ·have hbx:=HX.out.1
  obtain ⟨p0,p1,p2,p3,p4,p5,p6⟩:=hbx.cells HM.out.1 HM.out.2.1
  clear hbx
  go_enter Tryd.func14,Tryd.ntmps14
  go_wp2
  go_ret
  exact ⟨rfl,HX.out.2.1⟩
theorem Body_okL {w0 w:World} {t f d:Tm} {st sf sd:Value} {nx n' k v b:Int} {n m:List UInt8} {ts:List Tm} {nb mb:ByteArray} {q:Nat} (h1:TAt w w.heap.size t st) (h2:TAt w w.heap.size f sf) (h3:TAt w w.heap.size d sd) (hU:UOk w0 w) (hcs:checksP [t,f,d]=0) (hc:0≤nx∧nx≤4611686018427387904) (hn:(⟨n.toArray⟩:ByteArray)=nb) (hm:(⟨m.toArray⟩:ByteArray)=mb) (hq:ts.length=q) (hr:bodyT t f d nx = .ok (.mk k n m b v ts,n')) :
  Calls Tryd.prog 16 #[valT t st,valT f sf,valT d sd,.int .i64 nx] w fun e w'=>∃ A c,e = .returned (.tuple #[.agg #[.int .i64 k,.string nb,.string mb,.int .u64 b,.int .i64 v,.slice A q c],.int .i64 n',.nilIface])∧TOwn w' (.mk k n m b v ts) (.slice A q c) w.heap.size w'.heap.size∧Below w.heap.size w w':=by
 refine (Body_main h1 h2 h3 hU hcs hc).mono ?_
 rintro e w' ⟨hb,h⟩
 rw [hr] at h
 obtain ⟨sg,rfl,ho⟩:=h
 obtain ⟨_,_,_,A,c,hs,_⟩:=TOwn.iff.1 ho
 change sg = .slice A ts.length c at hs
 rw [hq] at hs
 subst hs
 exact ⟨A,c,by rw [valT_mk hn hm],ho,hb⟩
theorem TOwn.new {w:World} {t:Tm} {sl:Value} {lo:Nat} (h:TOwn w t sl lo w.heap.size):TAt w w.heap.size t sl:=(TOwn.atP t h).wide (fun b hb=>hb.2)
theorem aw1:ruleT (cmpT [45,45,62] [(atomT [97]),(cmpT [44] [(atomT [98]),(atomT [99])])]) = .ok (cmpT [58,45] [(cmpT [97] [(varT 0),(varT 1)]),(cmpT [44] [(cmpT [98] [(varT 0),(varT 2)]),(cmpT [99] [(varT 2),(varT 1)])])]):=by rfl
theorem aw2:ruleT (cmpT [45,45,62] [(varT 0),(atomT [98])]) = .error (atomT sInst):=by rfl
theorem aw3:bodyT (cmpT [46] [(atomT [120]),(atomT [91,93])]) (varT 4) (varT 5) 6 = .ok ((cmpT [61] [(varT 4),(cmpT [46] [(atomT [120]),(varT 5)])]),6):=by rfl
theorem awc1:checkP (cmpT [45,45,62] [(atomT [97]),(cmpT [44] [(atomT [98]),(atomT [99])])])=0:=by decide +kernel
theorem awc2:checkP (cmpT [45,45,62] [(varT 0),(atomT [98])])=0:=by decide +kernel
theorem awc3:checksP [(cmpT [46] [(atomT [120]),(atomT [91,93])]),varT 4,varT 5]=0:=by decide +kernel
theorem awh1:highB (cmpT [45,45,62] [(atomT [97]),(cmpT [44] [(atomT [98]),(atomT [99])])])=false:=by decide +kernel
theorem awh2:highB (cmpT [45,45,62] [(varT 0),(atomT [98])])=false:=by decide +kernel
end Go.Proofs.YtgfeainpeplphaaDoor
namespace Go.Proofs.YtgfeainpeplphaaDoor
open Go.Shelf Go.RowKit Hb Ht
def Tryd.laysValid_ren:Go.Shelf.Ren:=⟨fun | 196=>81 | 259=>90 | n=>n,fun | 9=>9 | 4=>4 | 3=>3 | 5=>5 | 12=>12 | 119=>121 | 0=>0 | 46=>110 | 139=>124 | 138=>123 | 53=>22 | n=>n,fun | 3=>0 | 4=>1 | n=>n⟩
theorem Tryd.laysValid:Go.Proofs.Lays.n196 Tryd.prog Tryd.laysValid_ren:={
 mixed:=by kernel_rfl
 f196:=Tryd.func81.trans (congrArg some (by kernel_rfl))
 f259:=Tryd.func90.trans (congrArg some (by kernel_rfl))
 t0:=Tryd.underlying0
 a0:=Tryd.isAgg0
 z0:=Tryd.sizeOf0
 v0:=Tryd.zeroValue0
 t3:=Tryd.underlying3
 a3:=Tryd.isAgg3
 z3:=Tryd.sizeOf3
 v3:=Tryd.zeroValue3
 t4:=Tryd.underlying4
 a4:=Tryd.isAgg4
 z4:=Tryd.sizeOf4
 v4:=Tryd.zeroValue4
 t5:=Tryd.underlying5
 a5:=Tryd.isAgg5
 z5:=Tryd.sizeOf5
 v5:=Tryd.zeroValue5
 t9:=Tryd.underlying9
 a9:=Tryd.isAgg9
 z9:=Tryd.sizeOf9
 v9:=Tryd.zeroValue9
 t12:=Tryd.underlying12
 a12:=Tryd.isAgg12
 z12:=Tryd.sizeOf12
 v12:=Tryd.zeroValue12
 t46:=Tryd.underlying110
 a46:=Tryd.isAgg110
 z46:=Tryd.sizeOf110
 v46:=Tryd.zeroValue110
 t53:=Tryd.underlying22
 a53:=Tryd.isAgg22
 z53:=Tryd.sizeOf22
 v53:=Tryd.zeroValue22
 t119:=Tryd.underlying121
 a119:=Tryd.isAgg121
 z119:=Tryd.sizeOf121
 t138:=Tryd.underlying123
 a138:=Tryd.isAgg123
 z138:=Tryd.sizeOf123
 v138:=Tryd.zeroValue123
 t139:=Tryd.underlying124
 a139:=Tryd.isAgg124
 z139:=Tryd.sizeOf124
 v139:=Tryd.zeroValue124
 g3:=by kernel_rfl
 g4:=by kernel_rfl }
def VTabs (w:World):Prop:=Lib.Utf8Tabs (Tryd.laysValid_ren.g 3) (Tryd.laysValid_ren.g 4) w
theorem valid_any (s:ByteArray) (w:World) (hs:s.size≤maxLen) (hT:VTabs w) :
  Calls Tryd.prog 81 #[.string s] w fun e w'=>e = .returned (.bool (Lib.validD s.data.toList))∧Below w.heap.size w w':=Any.utf8_ValidString Tryd.laysValid s w hs hT
theorem VTabs.below {w0 w:World} (h:VTabs w0) (hb:Below w0.heap.size w0 w):VTabs w:=by
 have key:∀ p u,w0.cell? p=some u→w.cell? p=some u:=fun p u hp=>(hb.cell (World.block_lt_of_cell? _ _ hp)).trans hp
 exact ⟨fun c hc=>key _ _ (h.1 c hc),fun i hi=>⟨key _ _ (h.2 i hi).1,key _ _ (h.2 i hi).2⟩⟩
theorem VTabs.u0 {w0:World} (h:VTabs w0):U0 w0:=fun w' hb s hs=>valid_any s w' hs (h.below hb)
theorem VTabs.ok {w0:World} (h:VTabs w0):UOk w0 w0:=⟨Below.refl _ _,h.u0⟩
end Go.Proofs.YtgfeainpeplphaaDoor
namespace Ht
mutual
def Fits:Tm→Prop
 | .mk _ n _ _ _ ts=>n.length≤4611686018427387904∧Fitss ts
def Fitss:List Tm→Prop
 | []=>True
 | a :: ts=>Fits a∧Fitss ts
end
theorem Fitss.iff:∀ {ts:List Tm},Fitss ts↔∀ a∈ts,Fits a
 | []=>by simp [Fitss]
 | a :: ts=>by rw [Fitss,Fitss.iff (ts:=ts)];simp
theorem Fits.iff {t:Tm} : Fits t↔t.n.length≤4611686018427387904∧∀ a∈t.as,Fits a:=by
 obtain ⟨k,n,m,b,v,ts⟩:=t
 rw [Fits,Fitss.iff]
 rfl
end Ht
namespace Go.Proofs.YtgfeainpeplphaaDoor
open Go.ChangeShapes Go.WideShapes Go.ChangeAt Go.RowKit Go.Joins Go.Deep Hb Ht
theorem laidK:laidOutB Tryd.prog=true:=by kernel_rfl
section
variable {H:Type} {enc:TypeId × Value→H} {P:Program}
theorem args_stay (hl:laidOutB P=true) {W W':World} (hb:Below W.heap.size W W'):∀ (ts:List TypeId) (vs:List Value) (ds:List (DataW H)) (ps:List MemPlace),
  (∀ t∈ts,P.readableRec t=true∧t<P.types.size)→DataW.TrodAll enc P W 0 (fun _=>true) true ts vs ds ps→(∀ x∈ps,x.block<W.heap.size) →
  ∀ sp:Nat→Bool,(∀ x∈ps,sp x.block=true)→DataW.TrodAll enc P W' 0 sp true ts vs ds ps
 | [],vs,ds,ps,_,h,_,_,_=>by
  cases vs <;> cases ds <;> simp [DataW.TrodAll] at h ⊢
  exact h
 | t :: ts,vs,ds,ps,hr,h,hlt,sp,hs=>by
  obtain ⟨v,vs',d,ds',p,q,rfl,rfl,rfl,h1,h2⟩:=trodAll_cons h
  have hp:∀ x∈p,x.block<W.heap.size:=fun x hx=>hlt x (List.mem_append_left _ hx)
  have hq:∀ x∈q,x.block<W.heap.size:=fun x hx=>hlt x (List.mem_append_right _ hx)
  exact trodAll_cons_mk (WideElems.Trod_stays hl (hr t (by simp)).1 (hr t (by simp)).2 h1 (fun x hx=>hb.same (hp x hx)) (fun x hx=>hs x (List.mem_append_left _ hx)))
   (args_stay hl hb ts vs' ds' q (fun t ht=>hr t (List.mem_cons_of_mem _ ht)) h2 hq sp (fun x hx=>hs x (List.mem_append_right _ hx)))
theorem law_end {f:Func} {s:ChangeSpec} {fresh handsOn again:Bool} {W W':World} {args:Array Value} {ds gs:List (DataW H)} {before:List MemPlace} {bt:TypeId}
  (hl:laidOutB P=true) (hr:∀ t∈f.params.toList,P.readableRec t=true∧t<P.types.size) (hres:f.resultTypes = #[bt]) (hbt:P.underlying bt=some .bool)
  (hv:s.vars = []) (hW:DataW.Whole enc P f.params.toList s.vars false W args.toList ds gs before) (hfn:s.fn H (ds ++ gs) = { results:=[.lit (.bool true)],args:=ds }) (hb:Below W.heap.size W W') :
  s.post enc P f false fresh handsOn again W args (.bool true) W':=by
 have hlt:∀ p∈before,p.block<W.heap.size:=fun p hp=>hW.lt p hp
 have hW2:=hW
 obtain ⟨p,q,hA,hV,rfl,hz,_⟩:=hW2
 rw [hv] at hV
 obtain ⟨rfl,rfl⟩:=trodVars_none hV
 rw [List.append_nil] at *
 have hst:=args_stay hl hb _ _ _ _ hr hA hlt
 have hR:∀ (b:Nat) (sp:Nat→Bool) (hd:Bool),DataW.TrodAll enc P W' b sp hd f.resultTypes.toList ((Value.bool true).resultList f.resultTypes.size) (s.fn H ds).results []:=by
  intro b sp hd
  rw [hfn,hres]
  exact ⟨[],[],shut_bool hbt true,rfl,rfl⟩
 refine ⟨ds,[],p,[],p,[],by simpa using hW,by simpa using hR _ _ _,?_,?_,World.keptBut_mono (fun x hx=>⟨hx,.inr (.inl hx)⟩) (hb.frame (· ∈ p)),fun _=>⟨?_,[.lit (.bool true)] ++ ds,[],p,⟨p,[],?_,?_,by simp,?_,fun h=>by cases h⟩,fun x hx _=>hx⟩⟩
 ·rw [List.append_nil,hfn];exact hst _ (fun x hx=>by simpa using hlt x hx)
 ·rw [List.append_nil,hfn,hv];rfl
 ·intro j t r ht hj
  rw [hres] at ht hj
  cases j with
  | zero=>
   simp at ht hj
   subst ht
   obtain rfl:r = .bool true:=by simpa [Value.resultList] using hj.symm
   exact okWide_bool_mk hbt true
  | succ j=>simp at ht
 ·have h1:=hR 0 (fun _=>true) true
  rw [hfn] at h1
  have:=trodAll_append (hst (fun _=>true) (fun _ _=>rfl)) h1
  simpa using this
 ·rw [hv];rfl
 ·intro b off hp
  rw [hb.frozen (hlt _ hp)]
  exact hz b off hp
end
theorem i64_of_wf {x:Int} (h:(Lit.int .i64 x).wf=true) : -9223372036854775808≤x∧x≤9223372036854775807:=by
 simp [Lit.wf,IntKind.has,IntKind.min,IntKind.max,IntKind.bits,IntKind.signed] at h
 omega
theorem u64_of_wf {x:Int} (h:(Lit.int .u64 x).wf=true):0≤x∧x<18446744073709551616:=by
 simp [Lit.wf,IntKind.has,IntKind.min,IntKind.max,IntKind.bits,IntKind.signed] at h
 omega
theorem spot_none {w:World} {a:Addr} {v:Value} (h:w.cell? (a.add 0)=some v):∃ b o,a=⟨b,o,none⟩∧b<w.heap.size:=by
 obtain ⟨b,off,spot⟩:=a
 have hspot:spot=none:=by simpa [Addr.add] using World.cell?_spot h
 subst hspot
 refine ⟨b,off,rfl,?_⟩
 have:=World.block_lt_of_cell? _ _ h
 simpa [Addr.add] using this
theorem add_add (a:Addr) (m k:Nat):(a.add m).add k=a.add (m+k):=by
 unfold Addr.add
 by_cases h1:m=0
 ·subst h1;simp
 ·by_cases h2:k=0
  ·subst h2;simp [h1]
  ·simp [h1,h2,Nat.add_assoc]
theorem list6 {α:Type} {l:List α} (h:l.length=6):∃ a b c d e f,l = [a,b,c,d,e,f]:=by
 match l,h with
 | [a,b,c,d,e,f],_=>exact ⟨a,b,c,d,e,f,rfl⟩
theorem cellsTerm:Tryd.prog.cellsOf 25=6:=by kernel_rfl
theorem bytesTerm:Tryd.prog.bytesOf 25=80:=by kernel_rfl
theorem trod_six {H:Type} {enc:TypeId × Value→H} {P:Program} {w:World} {base:Nat} {spare:Nat→Bool} {held:Bool} {t:TypeId} {f0 f1 f2 f3 f4 f5:Field} {fuel:Nat} {cs:List Value} {x:DataW H × List MemPlace} (ht:P.underlying t=some (.struct #[f0,f1,f2,f3,f4,f5])) (h:DataW.trod enc P w base spare held fuel t cs=some x) :
  ∃ y0 y1 y2 y3 y4 y5 n,fuel=n+1∧x.1 = .agg [y0.1,y1.1,y2.1,y3.1,y4.1,y5.1]∧cs.length=P.cellsOf t∧DataW.trod enc P w base spare held n f0.type ((cs.drop f0.offset).take (P.cellsOf f0.type))=some y0 ∧
   DataW.trod enc P w base spare held n f1.type ((cs.drop f1.offset).take (P.cellsOf f1.type))=some y1∧DataW.trod enc P w base spare held n f2.type ((cs.drop f2.offset).take (P.cellsOf f2.type))=some y2 ∧
   DataW.trod enc P w base spare held n f3.type ((cs.drop f3.offset).take (P.cellsOf f3.type))=some y3∧DataW.trod enc P w base spare held n f4.type ((cs.drop f4.offset).take (P.cellsOf f4.type))=some y4 ∧
   DataW.trod enc P w base spare held n f5.type ((cs.drop f5.offset).take (P.cellsOf f5.type))=some y5:=by
 obtain ⟨xs,n,hn,rfl,hl,hlen,hf⟩:=DataW.trod_struct ht h
 match xs,hlen with
 | [y0,y1,y2,y3,y4,y5],_=>exact ⟨y0,y1,y2,y3,y4,y5,n,hn,rfl,hl,by simpa using hf 0 f0 rfl,by simpa using hf 1 f1 rfl,by simpa using hf 2 f2 rfl,by simpa using hf 3 f3 rfl,by simpa using hf 4 f4 rfl,by simpa using hf 5 f5 rfl⟩
theorem weights_all_mem {H:Type} {P:Program} {e:TypeId} {m:Nat} : ∀ {l:List (DataW H)} {d:DataW H},d∈l→m∈d.weights P e→m∈DataW.weightsAll P e l
 | d0 :: r,d,hd,hm=>by
  rw [DataW.weightsAll,List.mem_append]
  rcases List.mem_cons.1 hd with rfl | hd
  ·exact .inl hm
  ·exact .inr (weights_all_mem hd hm)
set_option maxRecDepth 1000000 in
theorem trod_term {H:Type} {enc:TypeId × Value→H} {W:World} {sp:Nat→Bool} (fuel:Nat):∀ (cs:List Value) (x:DataW H × List MemPlace),DataW.trod enc Tryd.prog W 0 sp true fuel 25 cs=some x→(∀ m∈x.1.weights Tryd.prog 25,m≤reachBytes) →
  ∃ t sl,cs=cells6 t sl∧TAtP W (fun b=>b<W.heap.size) t sl∧Fits t:=by
 induction fuel using Nat.strongRecOn with
 | _ fuel ih=>
  intro cs x h hw
  obtain ⟨y0,y1,y2,y3,y4,y5,n,rfl,hx,hl,g0,g1,g2,g3,g4,g5⟩:=trod_six Tryd.underlying25 h
  rw [cellsTerm] at hl
  obtain ⟨c0,c1,c2,c3,c4,c5,rfl⟩:=list6 hl
  have e9:Tryd.prog.cellsOf 9=1:=by kernel_rfl
  have e3:Tryd.prog.cellsOf 3=1:=by kernel_rfl
  have e6:Tryd.prog.cellsOf 22=1:=by kernel_rfl
  have e7:Tryd.prog.cellsOf 23=1:=by kernel_rfl
  obtain ⟨u0,k0,_,w0⟩:=DataW.trod_int Tryd.underlying3 g0
  obtain ⟨s1,k1,hy1,hs1⟩:=DataW.trod_string Tryd.underlying9 g1
  obtain ⟨s2,k2,_,hs2⟩:=DataW.trod_string Tryd.underlying9 g2
  obtain ⟨u3,k3,_,w3⟩:=DataW.trod_int Tryd.underlying22 g3
  obtain ⟨u4,k4,_,w4⟩:=DataW.trod_int Tryd.underlying3 g4
  simp [e9] at k1 k2
  simp [e3] at k0 k4
  simp [e6] at k3
  subst k0 k1 k2 k3 k4
  simp [e7] at g5
  have hw5:∀ m∈y5.1.weights Tryd.prog 23,m≤reachBytes:=by
   intro m hm
   refine hw m ?_
   rw [hx,DataW.weights,Tryd.underlying25]
   exact DataW.weights_mem_each (j:=5) rfl rfl m hm
  have hw1:s1.data.toList.length≤4611686018427387904:=by
   have h1:=hw s1.data.toList.length (by
    rw [hx,DataW.weights,Tryd.underlying25]
    exact DataW.weights_mem_each (j:=1) rfl rfl _ (by rw [hy1];simp [DataW.weights]))
   unfold reachBytes at h1
   omega
  have hok:∀ ts,okF (.mk u0 s1.data.toList s2.data.toList u3 u4 ts):=fun ts=>⟨by simpa [Tm.n] using hs1,by simpa [Tm.m] using hs2,u64_of_wf w3,i64_of_wf w4,i64_of_wf w0⟩
  rcases DataW.trod_slice Tryd.underlying23 g5 with ⟨e1,_⟩ | ⟨a,len,cap,elems,rest,m,rfl,e1,hx5,_,hlc,hcm,hlen2,hel,_⟩
  ·simp at e1
   subst e1
   refine ⟨.mk u0 s1.data.toList s2.data.toList u3 u4 [],.slice none 0 0,rfl,?_,Fits.iff.2 ⟨hw1,fun a ha=>by cases ha⟩⟩
   rw [TAtP.iff]
   exact ⟨none,0,rfl,Nat.le_refl _,by simp [maxLen],Nat.zero_le _,hok [],fun hne=>absurd rfl hne⟩
  ·simp at e1
   subst e1
   rw [hx5] at hw5
   have hsz:len≤maxArgs:=by
    have:=hw5 ((elems.length+rest.length) * 80) (by rw [DataW.weights,Tryd.underlying23,←bytesTerm];simp)
    unfold reachBytes at this
    unfold maxArgs
    omega
   obtain ⟨V,hV⟩:=choose_lt (α:=Tm) (n:=len) (p:=fun i y=>∃ sl,(∀ k,k<6→W.cell? (a.add (i * 6+k))=(cells6 y sl)[k]?)∧TAtP W (fun b=>b<W.heap.size) y sl∧Fits y) (fun i hi=>by
    have h1:=hel i hi
    rw [List.getElem?_eq_getElem (by omega),Option.bind_eq_some_iff] at h1
    obtain ⟨cs',h2,h3⟩:=h1
    obtain ⟨t,sl,rfl,ht,hft⟩:=ih m (by omega) cs' _ h3 (fun q hq=>hw5 q (by
     rw [DataW.weights,Tryd.underlying23]
     refine List.mem_cons_of_mem _ (List.mem_append_left _ (weights_all_mem (List.mem_map.2 ⟨_,List.getElem_mem _,rfl⟩) hq))))
    refine ⟨t,sl,fun k hk=>?_,ht,hft⟩
    rw [cellsTerm] at h2
    have h4:=(World.cells?_some h2).2.2 k hk
    rw [←add_add,h4])
   refine ⟨.mk u0 s1.data.toList s2.data.toList u3 u4 ((List.range len).map V),.slice (some a) len cap,rfl,?_,Fits.iff.2 ⟨hw1,fun y hy=>by
    obtain ⟨i,hi,rfl⟩:=List.mem_map.1 hy
    obtain ⟨_,_,_,hf⟩:=hV i (by simpa using hi)
    exact hf⟩⟩
   rw [TAtP.iff]
   refine ⟨some a,cap,by simp [Tm.as],by simpa [Tm.as] using hlc,hcm,by simpa [Tm.as] using hsz,hok _,fun hne=>?_⟩
   have hn0:0<len:=Nat.pos_of_ne_zero (fun e=>hne (by subst e;rfl))
   obtain ⟨sl0,hc0,_⟩:=hV 0 hn0
   obtain ⟨b,o,rfl,hb⟩:=spot_none (hc0 0 (by omega))
   refine ⟨b,o,rfl,hb,fun i x hx=>?_⟩
   obtain ⟨hi,e⟩:=List.getElem?_eq_some_iff.1 hx
   have hin:i<len:=by simpa [Tm.as] using hi
   simp only [Tm.as,List.getElem_map,List.getElem_range] at e
   obtain ⟨sl,hc,ht,_⟩:=hV i hin
   rw [←e]
   exact ⟨sl,fun j hj=>by rw [←hc j hj,addr_add,Nat.add_assoc],ht⟩
set_option maxRecDepth 1000000 in
theorem open_Term {H:Type} {enc:TypeId × Value→H} {W:World} {base:Nat} {v:Value} {d:DataW H} {p:List MemPlace} (hval:Value.okWide Tryd.prog W .any base 25 v)
  (h:DataW.Trod enc Tryd.prog W 0 (fun _=>true) true 25 v d p) (hw:∀ m∈d.weights Tryd.prog 25,m≤reachBytes):∃ t sl,v=valT t sl∧TAt W W.heap.size t sl∧Fits t:=by
 obtain ⟨cs,rfl,hsz⟩:=okWide_struct Tryd.underlying25 hval
 obtain ⟨fuel,hf⟩:=h
 obtain ⟨t,sl,e,ht,hft⟩:=trod_term fuel _ _ hf hw
 refine ⟨t,sl,?_,ht,hft⟩
 have e2:cs.toList=cells6 t sl:=by simpa [Value.cells] using e
 show Value.agg cs = .agg (cells6 t sl).toArray
 rw [←e2]
theorem arg_weights {H:Type} {d:DataW H} {l:List (DataW H)} {ts:List TypeId} {j:Nat} {t:TypeId} (hw:(DataW.weightsEach Tryd.prog ts l).all (· ≤ reachBytes)=true) (ht:ts[j]?=some t) (hd:l[j]?=some d):∀ m∈d.weights Tryd.prog t,m≤reachBytes:=fun m hm=>by
 have:=List.all_eq_true.1 hw m (DataW.weights_mem_each ht hd m hm)
 simpa using this
theorem dcgOwn:ownKnob Tryd.prog.godebug=none:=by kernel_rfl
noncomputable def dcgWorld (os:Os):World:=World.laidAll Tryd.prog os Rows.dcgFreshRow.laid
set_option maxRecDepth 100000 in
theorem dcgWorld_met (os:Os) (args:Array Value):laidMetH Tryd.prog Rows.dcgFreshRow.laid ((dcgWorld os).forCall (fun _ _=>0) ⟨#[],args,[]⟩).memory:=by
 rw [MakeChecks.laidMetH_plain _ _ _ (by kernel_rfl)]
 exact laidMet_laidAll _ (by kernel_rfl) (by kernel_rfl)
set_option maxRecDepth 100000 in
theorem vtabs_laid {W:World} (h:laidMetH Tryd.prog Rows.dcgFreshRow.laid W):VTabs W:=
 utf8Tabs_of_readsT (U8Types.of196 Tryd.laysValid) ⟨by kernel_rfl,by kernel_rfl,by kernel_rfl,by kernel_rfl,by kernel_rfl,by kernel_rfl,by kernel_rfl⟩ (Lib.laidMet.reads h (.tail _ (.head _))) (Lib.laidMet.reads h (.head _))
end Go.Proofs.YtgfeainpeplphaaDoor
