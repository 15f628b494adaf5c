import Derived.WalkKit
import Derived.Lib.Hide
import Derived.Test.YtjpnmmjgdiiahaaGreatDoorRows
import Derived.Deep.QuietTactic
import Derived.BigQuiet
import Derived.Deep.RegionHeld3
import Derived.Deep.DrawnRows
import Derived.Deep.DeepCutAuto
import Derived.Deep.CutBlock
import Derived.StillTailTactics
import Derived.Deep.AppendLies
import Derived.Maps.AppendAt
import Derived.Deep.OwnRows
import Derived.Shelf.Small.Bits
import Derived.Laws.BytesArg
import Derived.Laws.AppendOwnNone
import Derived.ProofKit
import Derived.OpenShut
import Derived.JoinedCond
import Derived.JoinedOf
import Derived.JoinedAt
import Derived.ChangeSame
import Derived.ChangeSlices
import Derived.RowKit3
import Derived.Carry
import Derived.Lib.SmallJoins
import Derived.Deep.LoopGhost
import Derived.IntWalk
import Derived.Laws.Cover2
import Derived.Laws.FloatArith
import Derived.Lib.ValidU
import Derived.Shelf.Unicode.ValidAny
import Derived.Lib.LaidU8T
import Derived.Lib.ValidLaws
import Derived.Lib.TrimUEq
import Derived.Deep.Strs
import Derived.Deep.Slices
import Derived.SizedLaws
import Derived.Deep.DeepHandedRow
import Derived.Deep.DeepWitnessRowRef
import Derived.Lib.LaidTab
import Derived.Lay
import Derived.Maps.OwnSet
import Derived.Below
import Derived.StringKeys
import Derived.Test.YtjpnmmjgdiiahaaGreatDoorK1
import Derived.Test.YtjpnmmjgdiiahaaGreatDoorK2
import Derived.Test.YtjpnmmjgdiiahaaGreatDoorK3
import Derived.Test.YtjpnmmjgdiiahaaGreatDoorK4
import Derived.Test.YtjpnmmjgdiiahaaGreatDoorK5
import Derived.Test.YtjpnmmjgdiiahaaGreatDoorK6
import Derived.Test.YtjpnmmjgdiiahaaGreatDoorK7
import Derived.Test.YtjpnmmjgdiiahaaGreatDoorK9
set_option linter.unusedVariables false
set_option linter.unusedSimpArgs false
set_option exponentiation.threshold 5000
namespace Go.Proofs.YtjpnmmjgdiiahaaGreatDoor
section
open Go.RowKit Hb Ht
attribute [local go_sem ↓] Go.wp_at_zero Go.wp_at_succ
attribute [local go_sem] run_store_float
theorem bval_digsR (z:Int):bval (decide (z<0)) (digs 2 z.natAbs)=z:=by
 unfold bval
 rw [nv_digs (by decide)]
 by_cases h:z<0
 ·rw [if_pos (by simpa using h)];omega
 ·rw [if_neg (by simpa using h)];omega
def QS (x:Nm):Prop:=(qA x).natAbs<2 ^ 4096∧qB x<2 ^ 4096
theorem digs_small {z:Int} (h:z.natAbs<2 ^ 4096):(digs 2 z.natAbs).length≤4096:=digs_length_le (by decide) h
theorem prod_small {a b:Int} (ha:a.natAbs<2 ^ 4096) (hb:b.natAbs<2 ^ 4096):(digs 2 (a * b).natAbs).length≤8192:=by
 obtain ⟨J,hJ⟩:∃ J,J=4096:=⟨_,rfl⟩
 have h:(a * b).natAbs<2 ^ (J+J):=by
  rw [Int.natAbs_mul,Nat.pow_add,hJ]
  exact Nat.mul_lt_mul'' ha hb
 exact Nat.le_trans (digs_length_le (by decide) h) (by omega)
set_option maxRecDepth 100000 in
set_option maxHeartbeats 4000000 in
theorem rQCmp_ok {x y:Nm} {vx vy:Value} {w:World} {B B':Nat} (hx:QAt w B x vx) (hy:QAt w B' y vy) (sx:QS x) (sy:QS y) (fx:∀ f,x = .flo f→f<18446744073709551616) (fy:∀ f,y = .flo f→f<18446744073709551616) :
  Calls Tryz.prog 36 #[vx,vy] w fun e w'=>e = .returned (.int .i64 (cmpM x y))∧Below w.heap.size w w':=by
 obtain ⟨A1,c1,A2,c2,rfl,o1,o2⟩:=hx
 obtain ⟨A3,c3,A4,c4,rfl,o3,o4⟩:=hy
 have HC:=Lib.hid (q_cmp fx fy)
 have hl1:=sx.1
 have hl2:(qB x:Int).natAbs<2 ^ 4096:=by rw [Int.natAbs_natCast];exact sx.2
 have hl3:=sy.1
 have hl4:(qB y:Int).natAbs<2 ^ 4096:=by rw [Int.natAbs_natCast];exact sy.2
 generalize cmpM x y=R at *
 generalize qA x=a at *
 generalize (qB x:Int)=b at *
 generalize qA y=c at *
 generalize (qB y:Int)=d at *
 generalize isFl x=f1 at *
 generalize isFl y=f2 at *
 have HT1:=Lib.hid (fun (u:World) (hu:Below w.heap.size w u)=>Times_any (w:=u) (((o1.sl (dig_digs (by decide) _) rfl).below (C:=w.heap.size) hu (Nat.le_refl _)).mono hu.size) (((o4.sl (dig_digs (by decide) _) rfl).below (C:=w.heap.size) hu (Nat.le_refl _)).mono hu.size) (Nat.le_trans (digs_small hl1) (by decide)) (Nat.le_trans (digs_small hl4) (by decide)) (Nat.le_refl _) (Nat.le_refl _) (bval_digsR a) (bval_digsR d) rfl)
 have HT2:=Lib.hid (fun (u:World) (hu:Below w.heap.size w u)=>Times_any (w:=u) (((o3.sl (dig_digs (by decide) _) rfl).below (C:=w.heap.size) hu (Nat.le_refl _)).mono hu.size) (((o2.sl (dig_digs (by decide) _) rfl).below (C:=w.heap.size) hu (Nat.le_refl _)).mono hu.size) (Nat.le_trans (digs_small hl3) (by decide)) (Nat.le_trans (digs_small hl2) (by decide)) (Nat.le_refl _) (Nat.le_refl _) (bval_digsR c) (bval_digsR b) rfl)
 have hp1:=prod_small hl1 hl4
 have hp2:=prod_small hl3 hl2
 generalize a * d=p at *
 generalize c * b=q at *
 have HQ:=Lib.hid (fun (u:World) (Bp Bq:Nat) (Ap Aq:Option Addr) (cp cq:Nat) (h1:OwnI u Bp Ap (digs 2 p.natAbs).length cp (i64s (digs 2 p.natAbs))) (h2:OwnI u Bq Aq (digs 2 q.natAbs).length cq (i64s (digs 2 q.natAbs)))=>rcmp_any (h1.sl (dig_digs (by decide) _) rfl) (h2.sl (dig_digs (by decide) _) rfl) (Nat.le_refl _) (Nat.le_refl _) (Nat.le_trans hp1 (by decide)) (Nat.le_trans hp2 (by decide)) HC.out)
 have hX1:=QBox.new w (.bool f1) (.bool (decide (a<0))) (.slice A1 (digs 2 a.natAbs).length c1) (.bool (decide (b<0))) (.slice A2 (digs 2 b.natAbs).length c2)
 have hX2:=QBox.new (w.alloc (.cells #[.bool f1,.bool (decide (a<0)),.slice A1 (digs 2 a.natAbs).length c1,.bool (decide (b<0)),.slice A2 (digs 2 b.natAbs).length c2] 61)) (.bool f2) (.bool (decide (c<0))) (.slice A3 (digs 2 c.natAbs).length c3) (.bool (decide (d<0))) (.slice A4 (digs 2 d.natAbs).length c4)
 rw [World.size_alloc] at hX2
 have hX1:=hX1.below ((Below.refl _ _).alloc (Nat.le_refl _) (.cells #[.bool f2,.bool (decide (c<0)),.slice A3 (digs 2 c.natAbs).length c3,.bool (decide (d<0)),.slice A4 (digs 2 d.natAbs).length c4] 61)) hX1.lt
 have HB:=Lib.hid (show Below w.heap.size w ((w.alloc (.cells #[.bool f1,.bool (decide (a<0)),.slice A1 (digs 2 a.natAbs).length c1,.bool (decide (b<0)),.slice A2 (digs 2 b.natAbs).length c2] 61)).alloc (.cells #[.bool f2,.bool (decide (c<0)),.slice A3 (digs 2 c.natAbs).length c3,.bool (decide (d<0)),.slice A4 (digs 2 d.natAbs).length c4] 61)) from ((Below.refl _ _).alloc (Nat.le_refl _) _).alloc (by simp) _)
 have HX1:=Lib.hid hX1
 have HX2:=Lib.hid hX2
 unfold qV
 clear hX1 hX2 HC hl1 hl2 hl3 hl4 hp1 hp2 o1 o2 o3 o4 sx sy fx fy
 generalize decide (a<0)=s1 at *
 generalize decide (b<0)=s2 at *
 generalize decide (c<0)=s3 at *
 generalize decide (d<0)=s4 at *
 generalize (digs 2 a.natAbs).length=n1 at *
 generalize (digs 2 b.natAbs).length=n2 at *
 generalize (digs 2 c.natAbs).length=n3 at *
 generalize (digs 2 d.natAbs).length=n4 at *
 go_enter Tryz.func36,Tryz.ntmps36
 go_upto_region 1 with fail
 generalize (w.alloc (.cells #[.bool f1,.bool s1,.slice A1 n1 c1,.bool s2,.slice A2 n2 c2] 61)).alloc (.cells #[.bool f2,.bool s3,.slice A3 n3 c3,.bool s4,.slice A4 n4 c4] 61)=w0 at *
 refine wp_region_H (by kernel_rfl) (fun z0 K0 hs0=>?_)
 refine qh 0 K0 ?_
 refine qh 1 K0 ?_ (y:=fun z5 hS=>by obtain ⟨r0,r1,r2,r3,r4⟩:=(HX1.out.below hS HX1.out.lt).cells;go_simp;rfl)
 refine qh 2 K0 ?_
 refine qh 3 K0 ?_ (y:=fun z5 hS=>by obtain ⟨r0,r1,r2,r3,r4⟩:=(HX2.out.below hS HX2.out.lt).cells;go_simp;rfl)
 refine qh 5 K0 ?_
 refine qh 6 K0 ?_ (y:=fun z5 hS=>by obtain ⟨r0,r1,r2,r3,r4⟩:=(HX2.out.below hS HX2.out.lt).cells;go_simp;rfl)
 refine qh 7 K0 ?_
 refine qh 8 K0 ?_ (y:=fun z5 hS=>by obtain ⟨r0,r1,r2,r3,r4⟩:=(HX1.out.below hS HX1.out.lt).cells;go_simp;rfl)
 refine oq 4 (fun K hK=>?_)
 go_simp
 (with_reducible refine (HT1.out z0 (HB.out.trans (K0.mono HB.out.size))).mono ?_)
 rintro e z1 ⟨v1,rfl,⟨Ap,cp,rfl,hop⟩,hb1⟩
 have K1:=K0.trans (hb1.mono K0.size)
 refine hK.out _ _ K1 ?_
 refine oq 9 (fun K hK=>?_)
 go_simp
 (with_reducible refine (HT2.out z1 (HB.out.trans (K1.mono HB.out.size))).mono ?_)
 rintro e z2 ⟨v2,rfl,⟨Aq,cq,rfl,hoq⟩,hb2⟩
 have K2:=K1.trans (hb2.mono K1.size)
 refine hK.out _ _ K2 ?_
 refine oq 10 (fun K hK=>?_)
 go_simp
 (with_reducible refine (HQ.out z2 _ _ _ _ _ _ (hop.below hb2 (Nat.le_refl _)) hoq).mono ?_)
 rintro e z3 ⟨rfl,hb3⟩
 have K3:=K2.trans (hb3.mono K2.size)
 refine hK.out _ _ K3 ?_
 refine qh 11 K3 ?_
 refine wpAnyH_end (by kernel_rfl) ?_ _
 go_simp
 have HE:=Lib.hid (HB.out.trans (K3.mono HB.out.size))
 clear K0 K1 K2 K3 hb1 hb2 hb3 hop hoq hs0
 go_wp2
 go_ret
 exact ⟨rfl,HE.out⟩
end
end Go.Proofs.YtjpnmmjgdiiahaaGreatDoor
namespace Ht
namespace Tm
end Tm
section
end
end Ht
namespace Go.Proofs.YtjpnmmjgdiiahaaGreatDoor
section
open Go.RowKit Hb Ht
theorem below_drew' (w:World):Below w.heap.size w w.drew:=⟨rfl,rfl,rfl,Nat.le_refl _,fun _ _=>rfl⟩
def SameOk (t:Tm):Prop:=∀ (w:World) (sa sb:Value),TAt w w.heap.size t sa→TAt w w.heap.size t sb→Calls Tryz.prog 25 #[valT t sa,valT t sb] w fun e w'=>e = .returned (.bool true)∧Below w.heap.size w w'
set_option maxRecDepth 100000 in
set_option maxHeartbeats 4000000 in
theorem Same_any (t:Tm):SameOk t:=by
 refine Tm.ind (p:=SameOk) (fun k nl ml b v ts ih=>?_) t
 intro w sa sb ha hb
 obtain ⟨A,c,rfl,hl1,hl2,hl3⟩:=ha.slice
 obtain ⟨A2,c2,rfl,hm1,hm2,hm3⟩:=hb.slice
 obtain ⟨nb,hnb⟩:∃ nb:ByteArray,(⟨nl.toArray⟩:ByteArray)=nb:=⟨_,rfl⟩
 obtain ⟨mb,hmb⟩:∃ mb:ByteArray,(⟨ml.toArray⟩:ByteArray)=mb:=⟨_,rfl⟩
 obtain ⟨L,hL⟩:∃ L,ts.length=L:=⟨_,rfl⟩
 change ts.length≤c at hl1
 change ts.length≤c2 at hm1
 change ts.length≤maxArgs at hl3
 change TAt w w.heap.size (.mk k nl ml b v ts) (.slice A ts.length c) at ha
 change TAt w w.heap.size (.mk k nl ml b v ts) (.slice A2 ts.length c2) at hb
 change Calls Tryz.prog 25 #[valT _ (.slice A ts.length c),valT _ (.slice A2 ts.length c2)] w _
 rw [valT_mk hnb hmb,valT_mk hnb hmb]
 rw [hL] at ha hb hl1 hm1 hl3 ⊢
 have HIH:=Lib.hid ih
 have HL:=Lib.hid hL
 have HM:=Lib.hid (And.intro hnb hmb)
 have hLI:(L:Int)≤1759218604400:=by unfold maxArgs at hl3;omega
 obtain ⟨W0,hW0⟩:∃ W0,w.alloc (.cells #[.int .i64 k,.string nb,.string mb,.int .u64 b,.int .i64 v,.slice A L c] 25)=W0:=⟨_,rfl⟩
 have hX:=TBox.new (ts:=ts) w (k:=k) (b:=b) (v:=v) (sl:=.slice A L c) hnb hmb
 have hY:=TBox.new (ts:=ts) W0 (k:=k) (b:=b) (v:=v) (sl:=.slice A2 L c2) hnb hmb
 have hB0:Below w.heap.size w W0:=by rw [←hW0];exact (Below.refl _ _).alloc (Nat.le_refl _) _
 have hs0:W0.heap.size=w.heap.size+1:=by rw [←hW0];simp
 rw [hW0] at hX
 have hX1:=hX.below (w':=W0.alloc (.cells #[.int .i64 k,.string nb,.string mb,.int .u64 b,.int .i64 v,.slice A2 L c2] 25)) ((Below.refl _ _).alloc (Nat.le_refl _) _)
 have hB1:Below w.heap.size w (W0.alloc (.cells #[.int .i64 k,.string nb,.string mb,.int .u64 b,.int .i64 v,.slice A2 L c2] 25)):=hB0.alloc hB0.size _
 rw [hs0] at hY
 have HA:=Lib.hid (ha.to hB1 hB1.size)
 have HBb:=Lib.hid (hb.to hB1 hB1.size)
 have HB1:=Lib.hid hB1
 have HX:=Lib.hid (And.intro hX1 hY)
 subst hW0
 clear ih ha hb hnb hmb hX hX1 hY hB0 hB1 hs0 hL
 obtain ⟨x0,x1,x2,x3,x4,x5⟩:=HX.out.1.cells HM.out.1 HM.out.2
 obtain ⟨y0,y1,y2,y3,y4,y5⟩:=HX.out.2.cells HM.out.1 HM.out.2
 go_enter Tryz.func25,Tryz.ntmps25
 go_upto_region 4 with fail
 obtain ⟨W1,hW1⟩:∃ W1,(w.alloc (.cells #[.int .i64 k,.string nb,.string mb,.int .u64 b,.int .i64 v,.slice A L c] 25)).alloc (.cells #[.int .i64 k,.string nb,.string mb,.int .u64 b,.int .i64 v,.slice A2 L c2] 25)=W1:=⟨_,rfl⟩
 rw [hW1] at HA HBb HB1 HX ⊢
 clear hW1 x0 x1 x2 x3 x4 x5 y0 y1 y2 y3 y4 y5
 go_loopw [5] (fun v5 wr=>∃ i:Nat,v5 = .int .i64 (i:Int)∧i≤L∧Hid (Below W1.heap.size W1 wr)) (fun v5 _=>((L:Int) - intOf v5).toNat)
 case atStart=>exact ⟨0,rfl,Nat.zero_le _,Lib.hid (Below.refl _ _)⟩
 case round=>
  obtain ⟨i,rfl,hi,HI⟩:=hrel
  obtain ⟨x0,x1,x2,x3,x4,x5⟩:=(HX.out.1.below HI.out).cells HM.out.1 HM.out.2
  obtain ⟨y0,y1,y2,y3,y4,y5⟩:=(HX.out.2.below HI.out).cells HM.out.1 HM.out.2
  by_cases hlt:i<L
  ·have hltI:(i:Int)<(L:Int):=by omega
   have hi0:(0:Int)≤(i:Int):=by omega
   have hil:i<ts.length:=by rw [HL.out];exact hlt
   obtain ⟨a,ha⟩:∃ a,ts[i]?=some a:=⟨_,List.getElem?_eq_getElem hil⟩
   obtain ⟨g,o,rfl,hgB,helt⟩:=(HA.out.to HI.out HI.out.size).arg ha
   obtain ⟨A',c',k',n',m',b',v',ts',nb',mb',rfl,hnb',hmb',hta,e0,e1,e2,e3,e4,e5⟩:=EltAt.cells helt
   obtain ⟨g2,o2,rfl,hgB2,helt2⟩:=(HBb.out.to HI.out HI.out.size).arg ha
   obtain ⟨A3,c3,k3,n3,m3,b3,v3,ts3,nb3,mb3,heq,hnb3,hmb3,htb,f0,f1,f2,f3,f4,f5⟩:=EltAt.cells helt2
   cases heq
   rw [hnb'] at hnb3
   rw [hmb'] at hmb3
   subst hnb3 hmb3
   have HCl:=Lib.hid (HIH.out _ (List.mem_of_getElem? ha) wr.drew _ _ (hta.to (below_drew' wr) (Nat.le_refl _)) (htb.to (below_drew' wr) (Nat.le_refl _)))
   rw [valT_mk hnb' hmb',valT_mk hnb' hmb'] at HCl
   have HLT:=Lib.hid hlt
   clear helt helt2 hta htb hnb' hmb' ha hil hlt hi
   go_upto_region 6 with fail
   go_still_tail 10,(by kernel_rfl)
   change wpList _ _ _ _ _ wr.drew
   go_wp2_with (go_at_call 25;(with_reducible refine HCl.out.mono ?_);rintro e w' ⟨rfl,hb3⟩;have HB3:=Lib.hid ((HI.out.trans ((below_drew' wr).mono HI.out.size)).trans (hb3.mono HI.out.size));clear hb3)
   go_roundw
   case rel=>exact ⟨i+1,rfl,HLT.out,HB3⟩
   case measure=>
    have:=HLT.out
    show ((L:Int) - ((i:Int)+1)).toNat<((L:Int) - (i:Int)).toNat
    omega
  ·have ei:i=L:=by omega
   subst ei
   have HE:=Lib.hid HI.out
   clear hlt hi
   go_wp2
   go_ret
   exact ⟨rfl,HB1.out.trans (HE.out.mono HB1.out.size)⟩
end
end Go.Proofs.YtjpnmmjgdiiahaaGreatDoor
namespace Ht
open Go Go.RowKit Hb
end Ht
namespace Go.Proofs.YtjpnmmjgdiiahaaGreatDoor
section
open Go.RowKit Hb Ht
section
end
end
section
open Go.RowKit Hb Ht
attribute [local go_sem] Oper.semAt_some
end
end Go.Proofs.YtjpnmmjgdiiahaaGreatDoor
namespace Ht
namespace Tm
end Tm
section
end
end Ht
namespace Hb
open Go Go.Lib
def accU (l:List UInt8) (v0 k:Nat):Nat:=(List.range k).foldl (fun a j=>a * 64+((l.getD (j+1) 0).toNat - 128)) v0
theorem accU_zero (l:List UInt8) (v0:Nat):accU l v0 0=v0:=rfl
theorem accU_succ (l:List UInt8) (v0 k:Nat):accU l v0 (k+1)=accU l v0 k * 64+((l.getD (k+1) 0).toNat - 128):=by
 unfold accU
 rw [List.range_succ,List.foldl_append]
 rfl
def contU (l:List UInt8) (j:Nat):Prop:=j<l.length∧128≤(l.getD j 0).toNat∧(l.getD j 0).toNat<192
def contsU (l:List UInt8) (k:Nat):Prop:=∀ j,1≤j→j≤k→contU l j
def ClsU (b n least v0:Nat):Prop:=(192≤b∧b<224∧n=1∧least=128∧v0=b - 192)∨(224≤b∧b<240∧n=2∧least=2048∧v0=b - 224)∨(240≤b∧b<248∧n=3∧least=65536∧v0=b - 240)
theorem accU_lt {l:List UInt8} {v0:Nat} (h0:v0<32):∀ k,contsU l k→accU l v0 k<32 * 64 ^ k
 | 0,_=>by rw [accU_zero];omega
 | k+1,h=>by
  have h1:=accU_lt h0 k (fun j hj hk=>h j hj (by omega))
  have h2:=(h (k+1) (by omega) (Nat.le_refl _)).2.2
  have h3:(64:Nat) ^ (k+1)=64 ^ k * 64:=Nat.pow_succ ..
  rw [accU_succ,h3]
  omega
theorem valid_none {l:List UInt8} (hne:l ≠ []) (h:decodeN l.length (l.getD 0 0).toNat (l.getD 1 0).toNat (l.getD 2 0).toNat (l.getD 3 0).toNat=(65533,1)):validD l=false:=by
 rw [validD_step l hne,decodeL_N,h]
 simp
theorem valid_some {l:List UInt8} (hne:l ≠ []) {k:Nat} (hk:2≤k) (h:(decodeN l.length (l.getD 0 0).toNat (l.getD 1 0).toNat (l.getD 2 0).toNat (l.getD 3 0).toNat).2=k):validD l=validD (l.drop k):=by
 rw [validD_step l hne,decodeL_N,h,if_neg (by omega)]
theorem cls_none {l:List UInt8} (hne:l ≠ []) (h:(128≤(l.getD 0 0).toNat∧(l.getD 0 0).toNat<192)∨248≤(l.getD 0 0).toNat):validD l=false:=by
 refine valid_none hne (decodeN_bad _ _ _ _ _ ?_)
 have:=(l.getD 0 0).toNat_lt
 omega
set_option maxRecDepth 100000 in
set_option maxHeartbeats 4000000 in
theorem cls_bad {l:List UInt8} (hne:l ≠ []) {b n least v0 k:Nat} (hb:(l.getD 0 0).toNat=b) (hc:ClsU b n least v0) (hk:1≤k∧k≤n) (hn:¬contU l k):validD l=false:=by
 refine valid_none hne ?_
 rw [hb]
 have h1:=(l.getD 1 0).toNat_lt
 have h2:=(l.getD 2 0).toNat_lt
 have h3:=(l.getD 3 0).toNat_lt
 unfold contU at hn
 have hk3:k=1∨k=2∨k=3:=by unfold ClsU at hc;omega
 generalize l.length=N at *
 rcases hk3 with rfl | rfl | rfl
 all_goals
  generalize (l.getD 1 0).toNat=c1 at *
  generalize (l.getD 2 0).toNat=c2 at *
  generalize (l.getD 3 0).toNat=c3 at *
  unfold ClsU at hc
  unfold decodeN
  rcases hc with ⟨a1,a2,a3,a4,a5⟩ | ⟨a1,a2,a3,a4,a5⟩ | ⟨a1,a2,a3,a4,a5⟩
  all_goals
   repeat' split
   all_goals first | rfl | (exfalso;omega)
set_option maxRecDepth 100000 in
set_option maxHeartbeats 4000000 in
theorem cls_end {l:List UInt8} (hne:l ≠ []) {b n least v0 V:Nat} (hb:(l.getD 0 0).toNat=b) (hc:ClsU b n least v0) (hn:contsU l n) (hV:accU l v0 n=V) :
  ((V<least∨1114111<V∨(55296≤V∧V<57344))→validD l=false)∧(¬(V<least∨1114111<V∨(55296≤V∧V<57344))→validD l=validD (l.drop (n+1))):=by
 rcases hc with ⟨a1,a2,rfl,rfl,rfl⟩ | ⟨a1,a2,rfl,rfl,rfl⟩ | ⟨a1,a2,rfl,rfl,rfl⟩
 ·subst hV
  have g1:=hn 1 (by omega) (by omega)
  unfold contU at g1
  obtain ⟨V,hV⟩:∃ V,accU l (b - 192) 1=V:=⟨_,rfl⟩
  rw [hV]
  simp only [accU_succ,accU_zero,Nat.zero_add,Nat.reduceAdd] at hV
  constructor
  ·intro h
   refine valid_none hne ?_
   rw [hb]
   generalize (l.getD 1 0).toNat=c1 at *
   generalize (l.getD 2 0).toNat=c2 at *
   generalize (l.getD 3 0).toNat=c3 at *
   unfold decodeN
   repeat' split
   all_goals first | rfl | (exfalso;omega)
  ·intro h
   refine valid_some hne (by omega) ?_
   rw [hb]
   generalize (l.getD 1 0).toNat=c1 at *
   generalize (l.getD 2 0).toNat=c2 at *
   generalize (l.getD 3 0).toNat=c3 at *
   unfold decodeN
   repeat' split
   all_goals first | rfl | (exfalso;omega)
 ·subst hV
  have g1:=hn 1 (by omega) (by omega)
  have g2:=hn 2 (by omega) (by omega)
  unfold contU at g1 g2
  obtain ⟨V,hV⟩:∃ V,accU l (b - 224) 2=V:=⟨_,rfl⟩
  rw [hV]
  simp only [accU_succ,accU_zero,Nat.zero_add,Nat.reduceAdd] at hV
  constructor
  ·intro h
   refine valid_none hne ?_
   rw [hb]
   generalize (l.getD 1 0).toNat=c1 at *
   generalize (l.getD 2 0).toNat=c2 at *
   generalize (l.getD 3 0).toNat=c3 at *
   unfold decodeN
   repeat' split
   all_goals first | rfl | (exfalso;omega)
  ·intro h
   refine valid_some hne (by omega) ?_
   rw [hb]
   generalize (l.getD 1 0).toNat=c1 at *
   generalize (l.getD 2 0).toNat=c2 at *
   generalize (l.getD 3 0).toNat=c3 at *
   unfold decodeN
   repeat' split
   all_goals first | rfl | (exfalso;omega)
 ·subst hV
  have g1:=hn 1 (by omega) (by omega)
  have g2:=hn 2 (by omega) (by omega)
  have g3:=hn 3 (by omega) (by omega)
  unfold contU at g1 g2 g3
  obtain ⟨V,hV⟩:∃ V,accU l (b - 240) 3=V:=⟨_,rfl⟩
  rw [hV]
  simp only [accU_succ,accU_zero,Nat.zero_add,Nat.reduceAdd] at hV
  constructor
  ·intro h
   refine valid_none hne ?_
   rw [hb]
   generalize (l.getD 1 0).toNat=c1 at *
   generalize (l.getD 2 0).toNat=c2 at *
   generalize (l.getD 3 0).toNat=c3 at *
   unfold decodeN
   repeat' split
   all_goals first | rfl | (exfalso;omega)
  ·intro h
   refine valid_some hne (by omega) ?_
   rw [hb]
   generalize (l.getD 1 0).toNat=c1 at *
   generalize (l.getD 2 0).toNat=c2 at *
   generalize (l.getD 3 0).toNat=c3 at *
   unfold decodeN
   repeat' split
   all_goals first | rfl | (exfalso;omega)
theorem getD_drop_get (s:ByteArray) (i j:Nat) (h:i+j<s.size):(s.data.toList.drop i).getD j 0=s[i+j]:=by
 rw [getD_dropU,List.getD_eq_getElem?_getD,List.getElem?_eq_getElem (by simpa using h)]
 rfl
theorem drop_ascii (s:ByteArray) (i:Nat) (h:i<s.size) (h2:(s[i]).toNat<128):validD (s.data.toList.drop i)=validD (s.data.toList.drop (i+1)):=by
 rw [List.drop_eq_getElem_cons (by simpa using h)]
 exact validD_cons _ _ h2
end Hb
namespace Go.Proofs.YtjpnmmjgdiiahaaGreatDoor
section
open Go.RowKit Hb Ht
attribute [local go_sem] Oper.semAt_some
set_option maxRecDepth 100000 in
set_option maxHeartbeats 8000000 in
theorem UTF_any (s:ByteArray) (w:World) (hs:s.size≤4611686018427387904):Calls Tryz.prog 186 #[.string s] w fun e w'=>e = .returned (.bool (Lib.validD s.data.toList))∧w=w':=by
 obtain ⟨ANS,hA⟩:∃ ANS,Lib.validD s.data.toList=ANS:=⟨_,rfl⟩
 rw [hA]
 obtain ⟨N,hN⟩:∃ N,s.size=N:=⟨_,rfl⟩
 rw [hN] at hs
 have HN:=Lib.hid (And.intro hN hA)
 have hNI:(N:Int)≤4611686018427387904:=by omega
 clear hA
 go_enter Tryz.func186,Tryz.ntmps186
 go_upto_region 2 with fail
 go_loopw [3] (fun v3 wr=>w=wr∧∃ i:Nat,v3 = .int .i64 (i:Int)∧i≤N∧Hid (Lib.validD (s.data.toList.drop i)=ANS)) (fun v3 _=>((N:Int) - intOf v3).toNat)
 case atStart=>exact ⟨rfl,0,rfl,Nat.zero_le _,Lib.hid HN.out.2⟩
 case round=>
  obtain ⟨rfl,i,rfl,hi,HI⟩:=hrel
  by_cases hlt:i<N
  ·have hltI:(i:Int)<(N:Int):=by omega
   have hi0:(0:Int)≤(i:Int):=by omega
   go_upto_region 4 with fail
   have his:i<s.size:=by rw [HN.out.1];exact hlt
   have hne:s.data.toList.drop i ≠ []:=by
    intro e
    have h1:=congrArg List.length e
    simp only [List.length_drop,Array.length_toList,List.length_nil] at h1
    change s.size - i=0 at h1
    omega
   have hB0:((s.data.toList.drop i).getD 0 0).toNat=(s[i]'his).toNat:=by rw [getD_drop_get s i 0 his];rfl
   have hasc:=drop_ascii s i his
   generalize hB:(s[i]'his).toNat=B at *
   have HNE:=Lib.hid hne
   have HB:=Lib.hid hB0
   have HLT:=Lib.hid hlt
   have hB256:B<256:=by rw [←hB];exact UInt8.toNat_lt _
   have HAs:=Lib.hid hasc
   clear hne hB0 hB hasc hlt hi
   by_cases b1:B<128
   ·have b1I:(B:Int)<128:=by omega
    have HE:=Lib.hid (HAs.out b1)
    clear b1 hB256 his
    go_wp2
    refine ⟨⟨trivial,i+1,rfl,HLT.out,Lib.hid (by rw [←HI.out,HE.out])⟩,?_⟩
    have:=HLT.out
    show ((N:Int) - ((i:Int)+1)).toNat<((N:Int) - (i:Int)).toNat
    omega
   have b1I:¬(B:Int)<128:=by omega
   by_cases b2:B<192
   ·have b2I:¬(192:Int)≤(B:Int):=by omega
    have b3I:¬(224:Int)≤(B:Int):=by omega
    have b4I:¬(240:Int)≤(B:Int):=by omega
    have HE:=Lib.hid (show false=ANS from by rw [←HI.out];exact (cls_none HNE.out (by rw [HB.out];omega)).symm)
    clear b1 b2 hB256 his
    go_wp2
    go_ret
    exact ⟨by rw [←HE.out];rfl,rfl⟩
   by_cases b5:248≤B
   ·have b2I:¬(B:Int)<224:=by omega
    have b3I:¬(B:Int)<240:=by omega
    have b4I:¬(B:Int)<248:=by omega
    have b5I:(192:Int)≤(B:Int):=by omega
    have b6I:(224:Int)≤(B:Int):=by omega
    have b7I:(240:Int)≤(B:Int):=by omega
    have HE:=Lib.hid (show false=ANS from by rw [←HI.out];exact (cls_none HNE.out (by rw [HB.out];omega)).symm)
    clear b1 b2 b5 hB256 his
    go_wp2
    go_ret
    exact ⟨by rw [←HE.out];rfl,rfl⟩
   by_cases b3:B<224
   ·have b2I:(B:Int)<224:=by omega
    have b5I:(192:Int)≤(B:Int):=by omega
    obtain ⟨v0,hv0⟩:∃ v0:Nat,B - 192=v0:=⟨_,rfl⟩
    have HC:=Lib.hid (show ClsU B 1 128 v0 from .inl ⟨by omega,by omega,rfl,rfl,hv0.symm⟩)
    have hvI:(B:Int) - 192=(v0:Int):=by omega
    have hv32:v0<32:=by omega
    have HV0:=Lib.hid hv32
    have hlo:(192:Int)≤(B:Int):=by omega
    have hhi:(B:Int)<224:=by omega
    clear hv0 hv32
    go_upto_region 23 with fail
    clear hvI hlo hhi
    go_loopw [7,8] (fun v7 v8 wr2=>w=wr2∧∃ (k V:Nat),v8 = .int .i64 (k:Int)∧v7 = .int .i64 (V:Int)∧1≤k∧k≤2∧Hid (accU (s.data.toList.drop i) v0 (k - 1)=V∧contsU (s.data.toList.drop i) (k - 1))) (fun _ v8 _=>(2 - intOf v8).toNat)
    case atStart=>exact ⟨rfl,1,v0,rfl,rfl,Nat.le_refl _,by omega,Lib.hid ⟨rfl,fun j h1 h2=>by omega⟩⟩
    case round=>
     obtain ⟨rfl,k,V,rfl,rfl,hk1,hk2,HI2⟩:=hrel
     by_cases hkn:k≤1
     ·have hknI:(k:Int)≤1:=by omega
      have hk0I:(1:Int)≤(k:Int):=by omega
      have hVb:(V:Int)≤131071:=by
       have h1:=accU_lt HV0.out (k - 1) HI2.out.2
       have h2:(64:Nat) ^ (k - 1)≤64 ^ 2:=Nat.pow_le_pow_right (by decide) (by omega)
       rw [HI2.out.1] at h1
       rw [show (64:Nat) ^ 2=4096 from by decide] at h2
       omega
      have hV0I:(0:Int)≤(V:Int):=by omega
      obtain ⟨j,hj⟩:∃ j,i+k=j:=⟨_,rfl⟩
      have hjI:(i:Int)+(k:Int)=(j:Int):=by omega
      have hkL:∀ h:j<s.size,((s.data.toList.drop i).getD k 0).toNat=s[j].toNat:=by
       subst hj
       intro h
       rw [getD_drop_get s i k h]
      have HKL:=Lib.hid hkL
      have HJ:=Lib.hid hj
      clear hj hkL
      by_cases hin:j<N
      ·have hjN:(j:Int)<(N:Int):=by omega
       have hj0:(0:Int)≤(j:Int):=by omega
       have hjs:j<s.size:=by rw [HN.out.1];exact hin
       have hCl:=HKL.out hjs
       obtain ⟨C,hC⟩:∃ C,(s[j]'hjs).toNat=C:=⟨_,rfl⟩
       rw [hC] at hCl
       have HCC:=Lib.hid (And.intro hC hCl)
       have hC256:C<256:=by rw [←hC];exact UInt8.toNat_lt _
       clear hC hCl
       by_cases c1:C<128
       ·have c1I:(C:Int)<128:=by omega
        have c2I:((s[j]'hjs).toNat:Int)<128:=by rw [HCC.out.1];exact c1I
        have HE:=Lib.hid (show false=ANS from by rw [←HI.out];exact (cls_bad HNE.out HB.out HC.out ⟨hk1,hkn⟩ (fun h=>by have h1:=h.2.1;rw [HCC.out.2] at h1;omega)).symm)
        clear hkn hk1 hk2 hin hC256 c1
        go_wp2
        go_ret
        exact ⟨by rw [←HE.out];rfl,rfl⟩
       ·by_cases c2:192≤C
        ·have c1I:¬((s[j]'hjs).toNat:Int)<128:=by rw [HCC.out.1];omega
         have c2I:(192:Int)≤((s[j]'hjs).toNat:Int):=by rw [HCC.out.1];omega
         have HE:=Lib.hid (show false=ANS from by rw [←HI.out];exact (cls_bad HNE.out HB.out HC.out ⟨hk1,hkn⟩ (fun h=>by have h1:=h.2.2;rw [HCC.out.2] at h1;omega)).symm)
         clear hkn hk1 hk2 hin hC256 c1 c2
         go_wp2
         go_ret
         exact ⟨by rw [←HE.out];rfl,rfl⟩
        ·have c1I:(128:Int)≤((s[j]'hjs).toNat:Int):=by rw [HCC.out.1];omega
         have c2I:((s[j]'hjs).toNat:Int)<192:=by rw [HCC.out.1];omega
         have HE:=Lib.hid (show accU (s.data.toList.drop i) v0 (k+1 - 1)=V * 64+C - 128∧contsU (s.data.toList.drop i) (k+1 - 1) from by
          have e:k+1 - 1=(k - 1)+1:=by omega
          rw [e]
          refine ⟨?_,fun q h1 h2=>?_⟩
          ·rw [accU_succ,HI2.out.1,show k - 1+1=k by omega,HCC.out.2];omega
          ·by_cases hq:q≤k - 1
           ·exact HI2.out.2 q h1 hq
           ·have hqk:q=k:=by omega
            rw [hqk]
            refine ⟨?_,by rw [HCC.out.2];omega,by rw [HCC.out.2];omega⟩
            have hj:=HJ.out
            have hn:=HN.out.1
            simp only [List.length_drop,Array.length_toList]
            show k<s.size - i
            omega)
         have HK:=Lib.hid (And.intro hkn (And.intro (show 128≤C by omega) (show C<192 by omega)))
         clear hkn hk1 hk2 hin hC256 c1 c2
         go_wp2
         refine ⟨⟨trivial,k+1,V * 64+C - 128,rfl,?_,by omega,by have:=HK.out.1;omega,HE⟩,?_⟩
         ·have h1:=HK.out.2
          rw [HCC.out.1]
          congr 1
          omega
         ·have:=HK.out.1
          show (2 - ((k:Int)+1)).toNat<(2 - (k:Int)).toNat
          omega
      ·have hjN:(N:Int)≤(j:Int):=by omega
       have HE:=Lib.hid (show false=ANS from by
        rw [←HI.out]
        refine (cls_bad HNE.out HB.out HC.out ⟨hk1,hkn⟩ (fun h=>?_)).symm
        have h1:=h.1
        have hj:=HJ.out
        have hn:=HN.out.1
        simp only [List.length_drop,Array.length_toList] at h1
        change k<s.size - i at h1
        omega)
       clear hkn hk1 hk2 hin
       go_wp2
       go_ret
       exact ⟨by rw [←HE.out];rfl,rfl⟩
     ·have hk:k=2:=by omega
      subst hk
      have hV:accU (s.data.toList.drop i) v0 1=V:=HI2.out.1
      have hVb:V≤8388607:=by
       have h1:=accU_lt HV0.out 1 HI2.out.2
       rw [hV] at h1
       have h2:32 * (64:Nat) ^ 1≤8388608:=by decide
       omega
      obtain ⟨HGb,HGg⟩:=cls_end HNE.out HB.out HC.out HI2.out.2 hV
      have hV0I:(0:Int)≤(V:Int):=by omega
      have hVI:(V:Int)≤8388607:=by omega
      have HI2c:=Lib.hid (HI2.out.2)
      have HGb:=Lib.hid HGb
      have HGg:=Lib.hid HGg
      clear hkn hk1 hk2 hV hVb HI2
      by_cases d1:V<128
      ·have d1I:(V:Int)<128:=by omega
       have HE:=Lib.hid (show false=ANS from by rw [←HI.out];exact (HGb.out (.inl d1)).symm)
       clear d1
       go_wp2
       go_ret
       exact ⟨by rw [←HE.out];rfl,rfl⟩
      by_cases d2:1114111<V
      ·have d1I:¬(V:Int)<128:=by omega
       have d2I:(1114111:Int)<(V:Int):=by omega
       have HE:=Lib.hid (show false=ANS from by rw [←HI.out];exact (HGb.out (.inr (.inl d2))).symm)
       clear d1 d2
       go_wp2
       go_ret
       exact ⟨by rw [←HE.out];rfl,rfl⟩
      by_cases d3:55296≤V
      ·by_cases d4:V<57344
       ·have d1I:¬(V:Int)<128:=by omega
        have d2I:¬(1114111:Int)<(V:Int):=by omega
        have d3I:(55296:Int)≤(V:Int):=by omega
        have d4I:(V:Int)<57344:=by omega
        have HE:=Lib.hid (show false=ANS from by rw [←HI.out];exact (HGb.out (.inr (.inr ⟨d3,d4⟩))).symm)
        clear d1 d2 d3 d4
        go_wp2
        go_ret
        exact ⟨by rw [←HE.out];rfl,rfl⟩
       ·have d1I:¬(V:Int)<128:=by omega
        have d2I:¬(1114111:Int)<(V:Int):=by omega
        have d3I:(55296:Int)≤(V:Int):=by omega
        have d4I:¬(V:Int)<57344:=by omega
        have HE:=Lib.hid (HGg.out (by omega))
        clear d1 d2 d3 d4
        have HLn:=Lib.hid (show i+2≤N from by
         have h1:=(HI2c.out 1 (by omega) (Nat.le_refl _)).1
         have hn:=HN.out.1
         simp only [List.length_drop,Array.length_toList] at h1
         change 1<s.size - i at h1
         omega)
        have hLn:(i:Int)+1+1≤(N:Int):=by have:=HLn.out;omega
        go_wp2
        refine ⟨⟨trivial,i+2,?_,HLn.out,Lib.hid (by rw [←HI.out,HE.out,List.drop_drop])⟩,?_⟩
        ·congr 1
        ·show ((N:Int) - ((i:Int)+1+1)).toNat<((N:Int) - (i:Int)).toNat
         have:=HLn.out
         omega
      ·have d1I:¬(V:Int)<128:=by omega
       have d2I:¬(1114111:Int)<(V:Int):=by omega
       have d3I:¬(55296:Int)≤(V:Int):=by omega
       have HE:=Lib.hid (HGg.out (by omega))
       clear d1 d2 d3
       have HLn:=Lib.hid (show i+2≤N from by
        have h1:=(HI2c.out 1 (by omega) (Nat.le_refl _)).1
        have hn:=HN.out.1
        simp only [List.length_drop,Array.length_toList] at h1
        change 1<s.size - i at h1
        omega)
       have hLn:(i:Int)+1+1≤(N:Int):=by have:=HLn.out;omega
       go_wp2
       refine ⟨⟨trivial,i+2,?_,HLn.out,Lib.hid (by rw [←HI.out,HE.out,List.drop_drop])⟩,?_⟩
       ·congr 1
       ·show ((N:Int) - ((i:Int)+1+1)).toNat<((N:Int) - (i:Int)).toNat
        have:=HLn.out
        omega
   by_cases b4:B<240
   ·have b2I:¬(B:Int)<224:=by omega
    have b5I:(192:Int)≤(B:Int):=by omega
    have b6I:(224:Int)≤(B:Int):=by omega
    have b7I:(B:Int)<240:=by omega
    obtain ⟨v0,hv0⟩:∃ v0:Nat,B - 224=v0:=⟨_,rfl⟩
    have HC:=Lib.hid (show ClsU B 2 2048 v0 from .inr (.inl ⟨by omega,by omega,rfl,rfl,hv0.symm⟩))
    have hvI:(B:Int) - 224=(v0:Int):=by omega
    have hv32:v0<32:=by omega
    have HV0:=Lib.hid hv32
    have hlo:(224:Int)≤(B:Int):=by omega
    have hhi:(B:Int)<240:=by omega
    clear hv0 hv32
    go_upto_region 23 with fail
    clear hvI hlo hhi
    go_loopw [7,8] (fun v7 v8 wr2=>w=wr2∧∃ (k V:Nat),v8 = .int .i64 (k:Int)∧v7 = .int .i64 (V:Int)∧1≤k∧k≤3∧Hid (accU (s.data.toList.drop i) v0 (k - 1)=V∧contsU (s.data.toList.drop i) (k - 1))) (fun _ v8 _=>(3 - intOf v8).toNat)
    case atStart=>exact ⟨rfl,1,v0,rfl,rfl,Nat.le_refl _,by omega,Lib.hid ⟨rfl,fun j h1 h2=>by omega⟩⟩
    case round=>
     obtain ⟨rfl,k,V,rfl,rfl,hk1,hk2,HI2⟩:=hrel
     by_cases hkn:k≤2
     ·have hknI:(k:Int)≤2:=by omega
      have hk0I:(1:Int)≤(k:Int):=by omega
      have hVb:(V:Int)≤131071:=by
       have h1:=accU_lt HV0.out (k - 1) HI2.out.2
       have h2:(64:Nat) ^ (k - 1)≤64 ^ 2:=Nat.pow_le_pow_right (by decide) (by omega)
       rw [HI2.out.1] at h1
       rw [show (64:Nat) ^ 2=4096 from by decide] at h2
       omega
      have hV0I:(0:Int)≤(V:Int):=by omega
      obtain ⟨j,hj⟩:∃ j,i+k=j:=⟨_,rfl⟩
      have hjI:(i:Int)+(k:Int)=(j:Int):=by omega
      have hkL:∀ h:j<s.size,((s.data.toList.drop i).getD k 0).toNat=s[j].toNat:=by
       subst hj
       intro h
       rw [getD_drop_get s i k h]
      have HKL:=Lib.hid hkL
      have HJ:=Lib.hid hj
      clear hj hkL
      by_cases hin:j<N
      ·have hjN:(j:Int)<(N:Int):=by omega
       have hj0:(0:Int)≤(j:Int):=by omega
       have hjs:j<s.size:=by rw [HN.out.1];exact hin
       have hCl:=HKL.out hjs
       obtain ⟨C,hC⟩:∃ C,(s[j]'hjs).toNat=C:=⟨_,rfl⟩
       rw [hC] at hCl
       have HCC:=Lib.hid (And.intro hC hCl)
       have hC256:C<256:=by rw [←hC];exact UInt8.toNat_lt _
       clear hC hCl
       by_cases c1:C<128
       ·have c1I:(C:Int)<128:=by omega
        have c2I:((s[j]'hjs).toNat:Int)<128:=by rw [HCC.out.1];exact c1I
        have HE:=Lib.hid (show false=ANS from by rw [←HI.out];exact (cls_bad HNE.out HB.out HC.out ⟨hk1,hkn⟩ (fun h=>by have h1:=h.2.1;rw [HCC.out.2] at h1;omega)).symm)
        clear hkn hk1 hk2 hin hC256 c1
        go_wp2
        go_ret
        exact ⟨by rw [←HE.out];rfl,rfl⟩
       ·by_cases c2:192≤C
        ·have c1I:¬((s[j]'hjs).toNat:Int)<128:=by rw [HCC.out.1];omega
         have c2I:(192:Int)≤((s[j]'hjs).toNat:Int):=by rw [HCC.out.1];omega
         have HE:=Lib.hid (show false=ANS from by rw [←HI.out];exact (cls_bad HNE.out HB.out HC.out ⟨hk1,hkn⟩ (fun h=>by have h1:=h.2.2;rw [HCC.out.2] at h1;omega)).symm)
         clear hkn hk1 hk2 hin hC256 c1 c2
         go_wp2
         go_ret
         exact ⟨by rw [←HE.out];rfl,rfl⟩
        ·have c1I:(128:Int)≤((s[j]'hjs).toNat:Int):=by rw [HCC.out.1];omega
         have c2I:((s[j]'hjs).toNat:Int)<192:=by rw [HCC.out.1];omega
         have HE:=Lib.hid (show accU (s.data.toList.drop i) v0 (k+1 - 1)=V * 64+C - 128∧contsU (s.data.toList.drop i) (k+1 - 1) from by
          have e:k+1 - 1=(k - 1)+1:=by omega
          rw [e]
          refine ⟨?_,fun q h1 h2=>?_⟩
          ·rw [accU_succ,HI2.out.1,show k - 1+1=k by omega,HCC.out.2];omega
          ·by_cases hq:q≤k - 1
           ·exact HI2.out.2 q h1 hq
           ·have hqk:q=k:=by omega
            rw [hqk]
            refine ⟨?_,by rw [HCC.out.2];omega,by rw [HCC.out.2];omega⟩
            have hj:=HJ.out
            have hn:=HN.out.1
            simp only [List.length_drop,Array.length_toList]
            show k<s.size - i
            omega)
         have HK:=Lib.hid (And.intro hkn (And.intro (show 128≤C by omega) (show C<192 by omega)))
         clear hkn hk1 hk2 hin hC256 c1 c2
         go_wp2
         refine ⟨⟨trivial,k+1,V * 64+C - 128,rfl,?_,by omega,by have:=HK.out.1;omega,HE⟩,?_⟩
         ·have h1:=HK.out.2
          rw [HCC.out.1]
          congr 1
          omega
         ·have:=HK.out.1
          show (3 - ((k:Int)+1)).toNat<(3 - (k:Int)).toNat
          omega
      ·have hjN:(N:Int)≤(j:Int):=by omega
       have HE:=Lib.hid (show false=ANS from by
        rw [←HI.out]
        refine (cls_bad HNE.out HB.out HC.out ⟨hk1,hkn⟩ (fun h=>?_)).symm
        have h1:=h.1
        have hj:=HJ.out
        have hn:=HN.out.1
        simp only [List.length_drop,Array.length_toList] at h1
        change k<s.size - i at h1
        omega)
       clear hkn hk1 hk2 hin
       go_wp2
       go_ret
       exact ⟨by rw [←HE.out];rfl,rfl⟩
     ·have hk:k=3:=by omega
      subst hk
      have hV:accU (s.data.toList.drop i) v0 2=V:=HI2.out.1
      have hVb:V≤8388607:=by
       have h1:=accU_lt HV0.out 2 HI2.out.2
       rw [hV] at h1
       have h2:32 * (64:Nat) ^ 2≤8388608:=by decide
       omega
      obtain ⟨HGb,HGg⟩:=cls_end HNE.out HB.out HC.out HI2.out.2 hV
      have hV0I:(0:Int)≤(V:Int):=by omega
      have hVI:(V:Int)≤8388607:=by omega
      have HI2c:=Lib.hid (HI2.out.2)
      have HGb:=Lib.hid HGb
      have HGg:=Lib.hid HGg
      clear hkn hk1 hk2 hV hVb HI2
      by_cases d1:V<2048
      ·have d1I:(V:Int)<2048:=by omega
       have HE:=Lib.hid (show false=ANS from by rw [←HI.out];exact (HGb.out (.inl d1)).symm)
       clear d1
       go_wp2
       go_ret
       exact ⟨by rw [←HE.out];rfl,rfl⟩
      by_cases d2:1114111<V
      ·have d1I:¬(V:Int)<2048:=by omega
       have d2I:(1114111:Int)<(V:Int):=by omega
       have HE:=Lib.hid (show false=ANS from by rw [←HI.out];exact (HGb.out (.inr (.inl d2))).symm)
       clear d1 d2
       go_wp2
       go_ret
       exact ⟨by rw [←HE.out];rfl,rfl⟩
      by_cases d3:55296≤V
      ·by_cases d4:V<57344
       ·have d1I:¬(V:Int)<2048:=by omega
        have d2I:¬(1114111:Int)<(V:Int):=by omega
        have d3I:(55296:Int)≤(V:Int):=by omega
        have d4I:(V:Int)<57344:=by omega
        have HE:=Lib.hid (show false=ANS from by rw [←HI.out];exact (HGb.out (.inr (.inr ⟨d3,d4⟩))).symm)
        clear d1 d2 d3 d4
        go_wp2
        go_ret
        exact ⟨by rw [←HE.out];rfl,rfl⟩
       ·have d1I:¬(V:Int)<2048:=by omega
        have d2I:¬(1114111:Int)<(V:Int):=by omega
        have d3I:(55296:Int)≤(V:Int):=by omega
        have d4I:¬(V:Int)<57344:=by omega
        have HE:=Lib.hid (HGg.out (by omega))
        clear d1 d2 d3 d4
        have HLn:=Lib.hid (show i+3≤N from by
         have h1:=(HI2c.out 2 (by omega) (Nat.le_refl _)).1
         have hn:=HN.out.1
         simp only [List.length_drop,Array.length_toList] at h1
         change 2<s.size - i at h1
         omega)
        have hLn:(i:Int)+2+1≤(N:Int):=by have:=HLn.out;omega
        go_wp2
        refine ⟨⟨trivial,i+3,?_,HLn.out,Lib.hid (by rw [←HI.out,HE.out,List.drop_drop])⟩,?_⟩
        ·congr 1
        ·show ((N:Int) - ((i:Int)+2+1)).toNat<((N:Int) - (i:Int)).toNat
         have:=HLn.out
         omega
      ·have d1I:¬(V:Int)<2048:=by omega
       have d2I:¬(1114111:Int)<(V:Int):=by omega
       have d3I:¬(55296:Int)≤(V:Int):=by omega
       have HE:=Lib.hid (HGg.out (by omega))
       clear d1 d2 d3
       have HLn:=Lib.hid (show i+3≤N from by
        have h1:=(HI2c.out 2 (by omega) (Nat.le_refl _)).1
        have hn:=HN.out.1
        simp only [List.length_drop,Array.length_toList] at h1
        change 2<s.size - i at h1
        omega)
       have hLn:(i:Int)+2+1≤(N:Int):=by have:=HLn.out;omega
       go_wp2
       refine ⟨⟨trivial,i+3,?_,HLn.out,Lib.hid (by rw [←HI.out,HE.out,List.drop_drop])⟩,?_⟩
       ·congr 1
       ·show ((N:Int) - ((i:Int)+2+1)).toNat<((N:Int) - (i:Int)).toNat
        have:=HLn.out
        omega
   ·have b2I:¬(B:Int)<224:=by omega
    have b5I:(192:Int)≤(B:Int):=by omega
    have b6I:¬(B:Int)<240:=by omega
    have b7I:(240:Int)≤(B:Int):=by omega
    have b8I:(B:Int)<248:=by omega
    have b9I:(224:Int)≤(B:Int):=by omega
    obtain ⟨v0,hv0⟩:∃ v0:Nat,B - 240=v0:=⟨_,rfl⟩
    have HC:=Lib.hid (show ClsU B 3 65536 v0 from .inr (.inr ⟨by omega,by omega,rfl,rfl,hv0.symm⟩))
    have hvI:(B:Int) - 240=(v0:Int):=by omega
    have hv32:v0<32:=by omega
    have HV0:=Lib.hid hv32
    have hlo:(240:Int)≤(B:Int):=by omega
    have hhi:(B:Int)<248:=by omega
    clear hv0 hv32
    go_upto_region 23 with fail
    clear hvI hlo hhi
    go_loopw [7,8] (fun v7 v8 wr2=>w=wr2∧∃ (k V:Nat),v8 = .int .i64 (k:Int)∧v7 = .int .i64 (V:Int)∧1≤k∧k≤4∧Hid (accU (s.data.toList.drop i) v0 (k - 1)=V∧contsU (s.data.toList.drop i) (k - 1))) (fun _ v8 _=>(4 - intOf v8).toNat)
    case atStart=>exact ⟨rfl,1,v0,rfl,rfl,Nat.le_refl _,by omega,Lib.hid ⟨rfl,fun j h1 h2=>by omega⟩⟩
    case round=>
     obtain ⟨rfl,k,V,rfl,rfl,hk1,hk2,HI2⟩:=hrel
     by_cases hkn:k≤3
     ·have hknI:(k:Int)≤3:=by omega
      have hk0I:(1:Int)≤(k:Int):=by omega
      have hVb:(V:Int)≤131071:=by
       have h1:=accU_lt HV0.out (k - 1) HI2.out.2
       have h2:(64:Nat) ^ (k - 1)≤64 ^ 2:=Nat.pow_le_pow_right (by decide) (by omega)
       rw [HI2.out.1] at h1
       rw [show (64:Nat) ^ 2=4096 from by decide] at h2
       omega
      have hV0I:(0:Int)≤(V:Int):=by omega
      obtain ⟨j,hj⟩:∃ j,i+k=j:=⟨_,rfl⟩
      have hjI:(i:Int)+(k:Int)=(j:Int):=by omega
      have hkL:∀ h:j<s.size,((s.data.toList.drop i).getD k 0).toNat=s[j].toNat:=by
       subst hj
       intro h
       rw [getD_drop_get s i k h]
      have HKL:=Lib.hid hkL
      have HJ:=Lib.hid hj
      clear hj hkL
      by_cases hin:j<N
      ·have hjN:(j:Int)<(N:Int):=by omega
       have hj0:(0:Int)≤(j:Int):=by omega
       have hjs:j<s.size:=by rw [HN.out.1];exact hin
       have hCl:=HKL.out hjs
       obtain ⟨C,hC⟩:∃ C,(s[j]'hjs).toNat=C:=⟨_,rfl⟩
       rw [hC] at hCl
       have HCC:=Lib.hid (And.intro hC hCl)
       have hC256:C<256:=by rw [←hC];exact UInt8.toNat_lt _
       clear hC hCl
       by_cases c1:C<128
       ·have c1I:(C:Int)<128:=by omega
        have c2I:((s[j]'hjs).toNat:Int)<128:=by rw [HCC.out.1];exact c1I
        have HE:=Lib.hid (show false=ANS from by rw [←HI.out];exact (cls_bad HNE.out HB.out HC.out ⟨hk1,hkn⟩ (fun h=>by have h1:=h.2.1;rw [HCC.out.2] at h1;omega)).symm)
        clear hkn hk1 hk2 hin hC256 c1
        go_wp2
        go_ret
        exact ⟨by rw [←HE.out];rfl,rfl⟩
       ·by_cases c2:192≤C
        ·have c1I:¬((s[j]'hjs).toNat:Int)<128:=by rw [HCC.out.1];omega
         have c2I:(192:Int)≤((s[j]'hjs).toNat:Int):=by rw [HCC.out.1];omega
         have HE:=Lib.hid (show false=ANS from by rw [←HI.out];exact (cls_bad HNE.out HB.out HC.out ⟨hk1,hkn⟩ (fun h=>by have h1:=h.2.2;rw [HCC.out.2] at h1;omega)).symm)
         clear hkn hk1 hk2 hin hC256 c1 c2
         go_wp2
         go_ret
         exact ⟨by rw [←HE.out];rfl,rfl⟩
        ·have c1I:(128:Int)≤((s[j]'hjs).toNat:Int):=by rw [HCC.out.1];omega
         have c2I:((s[j]'hjs).toNat:Int)<192:=by rw [HCC.out.1];omega
         have HE:=Lib.hid (show accU (s.data.toList.drop i) v0 (k+1 - 1)=V * 64+C - 128∧contsU (s.data.toList.drop i) (k+1 - 1) from by
          have e:k+1 - 1=(k - 1)+1:=by omega
          rw [e]
          refine ⟨?_,fun q h1 h2=>?_⟩
          ·rw [accU_succ,HI2.out.1,show k - 1+1=k by omega,HCC.out.2];omega
          ·by_cases hq:q≤k - 1
           ·exact HI2.out.2 q h1 hq
           ·have hqk:q=k:=by omega
            rw [hqk]
            refine ⟨?_,by rw [HCC.out.2];omega,by rw [HCC.out.2];omega⟩
            have hj:=HJ.out
            have hn:=HN.out.1
            simp only [List.length_drop,Array.length_toList]
            show k<s.size - i
            omega)
         have HK:=Lib.hid (And.intro hkn (And.intro (show 128≤C by omega) (show C<192 by omega)))
         clear hkn hk1 hk2 hin hC256 c1 c2
         go_wp2
         refine ⟨⟨trivial,k+1,V * 64+C - 128,rfl,?_,by omega,by have:=HK.out.1;omega,HE⟩,?_⟩
         ·have h1:=HK.out.2
          rw [HCC.out.1]
          congr 1
          omega
         ·have:=HK.out.1
          show (4 - ((k:Int)+1)).toNat<(4 - (k:Int)).toNat
          omega
      ·have hjN:(N:Int)≤(j:Int):=by omega
       have HE:=Lib.hid (show false=ANS from by
        rw [←HI.out]
        refine (cls_bad HNE.out HB.out HC.out ⟨hk1,hkn⟩ (fun h=>?_)).symm
        have h1:=h.1
        have hj:=HJ.out
        have hn:=HN.out.1
        simp only [List.length_drop,Array.length_toList] at h1
        change k<s.size - i at h1
        omega)
       clear hkn hk1 hk2 hin
       go_wp2
       go_ret
       exact ⟨by rw [←HE.out];rfl,rfl⟩
     ·have hk:k=4:=by omega
      subst hk
      have hV:accU (s.data.toList.drop i) v0 3=V:=HI2.out.1
      have hVb:V≤8388607:=by
       have h1:=accU_lt HV0.out 3 HI2.out.2
       rw [hV] at h1
       have h2:32 * (64:Nat) ^ 3≤8388608:=by decide
       omega
      obtain ⟨HGb,HGg⟩:=cls_end HNE.out HB.out HC.out HI2.out.2 hV
      have hV0I:(0:Int)≤(V:Int):=by omega
      have hVI:(V:Int)≤8388607:=by omega
      have HI2c:=Lib.hid (HI2.out.2)
      have HGb:=Lib.hid HGb
      have HGg:=Lib.hid HGg
      clear hkn hk1 hk2 hV hVb HI2
      by_cases d1:V<65536
      ·have d1I:(V:Int)<65536:=by omega
       have HE:=Lib.hid (show false=ANS from by rw [←HI.out];exact (HGb.out (.inl d1)).symm)
       clear d1
       go_wp2
       go_ret
       exact ⟨by rw [←HE.out];rfl,rfl⟩
      by_cases d2:1114111<V
      ·have d1I:¬(V:Int)<65536:=by omega
       have d2I:(1114111:Int)<(V:Int):=by omega
       have HE:=Lib.hid (show false=ANS from by rw [←HI.out];exact (HGb.out (.inr (.inl d2))).symm)
       clear d1 d2
       go_wp2
       go_ret
       exact ⟨by rw [←HE.out];rfl,rfl⟩
      by_cases d3:55296≤V
      ·by_cases d4:V<57344
       ·have d1I:¬(V:Int)<65536:=by omega
        have d2I:¬(1114111:Int)<(V:Int):=by omega
        have d3I:(55296:Int)≤(V:Int):=by omega
        have d4I:(V:Int)<57344:=by omega
        have HE:=Lib.hid (show false=ANS from by rw [←HI.out];exact (HGb.out (.inr (.inr ⟨d3,d4⟩))).symm)
        clear d1 d2 d3 d4
        go_wp2
        go_ret
        exact ⟨by rw [←HE.out];rfl,rfl⟩
       ·have d1I:¬(V:Int)<65536:=by omega
        have d2I:¬(1114111:Int)<(V:Int):=by omega
        have d3I:(55296:Int)≤(V:Int):=by omega
        have d4I:¬(V:Int)<57344:=by omega
        have HE:=Lib.hid (HGg.out (by omega))
        clear d1 d2 d3 d4
        have HLn:=Lib.hid (show i+4≤N from by
         have h1:=(HI2c.out 3 (by omega) (Nat.le_refl _)).1
         have hn:=HN.out.1
         simp only [List.length_drop,Array.length_toList] at h1
         change 3<s.size - i at h1
         omega)
        have hLn:(i:Int)+3+1≤(N:Int):=by have:=HLn.out;omega
        go_wp2
        refine ⟨⟨trivial,i+4,?_,HLn.out,Lib.hid (by rw [←HI.out,HE.out,List.drop_drop])⟩,?_⟩
        ·congr 1
        ·show ((N:Int) - ((i:Int)+3+1)).toNat<((N:Int) - (i:Int)).toNat
         have:=HLn.out
         omega
      ·have d1I:¬(V:Int)<65536:=by omega
       have d2I:¬(1114111:Int)<(V:Int):=by omega
       have d3I:¬(55296:Int)≤(V:Int):=by omega
       have HE:=Lib.hid (HGg.out (by omega))
       clear d1 d2 d3
       have HLn:=Lib.hid (show i+4≤N from by
        have h1:=(HI2c.out 3 (by omega) (Nat.le_refl _)).1
        have hn:=HN.out.1
        simp only [List.length_drop,Array.length_toList] at h1
        change 3<s.size - i at h1
        omega)
       have hLn:(i:Int)+3+1≤(N:Int):=by have:=HLn.out;omega
       go_wp2
       refine ⟨⟨trivial,i+4,?_,HLn.out,Lib.hid (by rw [←HI.out,HE.out,List.drop_drop])⟩,?_⟩
       ·congr 1
       ·show ((N:Int) - ((i:Int)+3+1)).toNat<((N:Int) - (i:Int)).toNat
        have:=HLn.out
        omega
  ·have ei:i=N:=by omega
   have HE:=Lib.hid (show true=ANS from by
    rw [←HI.out,List.drop_of_length_le (by rw [Array.length_toList,ei,←HN.out.1];exact Nat.le_refl _)]
    rfl)
   subst ei
   clear hlt hi
   go_wp2
   go_ret
   exact ⟨by rw [←HE.out];rfl,rfl⟩
end
section
open Go.RowKit Hb
end
section
open Go.ChangeShapes Go.WideShapes Go.ChangeAt Go.RowKit Go.Joins Hb
section
end
end
section
open Go.RowKit Hb
section
end
section
end
section
end
section
end
section
end
end
end Go.Proofs.YtjpnmmjgdiiahaaGreatDoor
namespace Hb
open Ieee
end Hb
namespace Hb
end Hb
namespace Go.Proofs.YtjpnmmjgdiiahaaGreatDoor
section
open Hb
end
end Go.Proofs.YtjpnmmjgdiiahaaGreatDoor
namespace Hb
end Hb
namespace Go.Proofs.YtjpnmmjgdiiahaaGreatDoor
section
open Hb
end
section
open Go.RowKit Hb
section
end
end
end Go.Proofs.YtjpnmmjgdiiahaaGreatDoor
namespace Ht
namespace Tm
end Tm
section
end
end Ht
namespace Hb
open Ieee
end Hb
namespace Go.Proofs.YtjpnmmjgdiiahaaGreatDoor
section
open Go.RowKit Hb Ht
attribute [local go_sem] Oper.semAt_some
theorem floN_iff {F:Nat} (hF:F<18446744073709551616):(F / 4503599627370496 % 2048≠2047↔F % 9223372036854775808<9218868437227405312):=by omega
set_option maxRecDepth 100000 in
theorem rfloats_any (F:Nat) (hF:F<18446744073709551616) (w:World) :
  Calls Tryz.prog 188 #[.int .u64 (F:Int)] w fun e w'=>e = .returned (.bool (floN F))∧w=w':=by
 have ha:bits .and .u64 ((F:Int) / 4503599627370496) 2047=((F / 4503599627370496 % 2048:Nat):Int):=by
  have h:=bits_and_u64 (F / 4503599627370496) (2 ^ 11 - 1) (by omega) (by decide)
  rw [and_low] at h
  exact h
 have hiff:=floN_iff hF
 unfold floN
 obtain ⟨r,hr⟩:∃ r,F / 4503599627370496 % 2048=r:=⟨_,rfl⟩
 rw [hr] at ha hiff
 by_cases h1:r=2047
 ·subst h1
  have h2:¬F % 9223372036854775808<9218868437227405312:=fun h=>(hiff.2 h) rfl
  rw [decide_eq_false h2]
  clear h2 hiff hr hF
  go_enter Tryz.func188,Tryz.ntmps188
  go_wp2
  go_ret
  exact ⟨rfl,rfl⟩
 ·have h2:F % 9223372036854775808<9218868437227405312:=hiff.1 h1
  have hrI:((r:Int) != 2047)=true:=by simpa using (show (r:Int)≠2047 by omega)
  have hrI2:¬(r:Int)=2047:=by omega
  rw [decide_eq_true h2]
  by_cases h3:F=9223372036854775808
  ·subst h3
   rw [show decide ((9223372036854775808:Nat)≠9223372036854775808)=false from by decide]
   clear h2 hiff hr hF h1
   go_enter Tryz.func188,Tryz.ntmps188
   go_wp2
   go_ret
   exact ⟨rfl,rfl⟩
  ·have hFI:((F:Int) != 9223372036854775808)=true:=by simpa using (show (F:Int)≠9223372036854775808 by omega)
   rw [decide_eq_true h3]
   clear h2 hiff hr hF h1 h3
   go_enter Tryz.func188,Tryz.ntmps188
   go_wp2
   go_ret
   exact ⟨rfl,rfl⟩
theorem digs_2_le {n k:Nat} (h:blen n≤k):(digs 2 n).length≤k:=digs_length_le (by decide) (blen_le_iff.1 h)
set_option maxRecDepth 100000 in
set_option maxHeartbeats 2000000 in
theorem rcanonical_any (s:ByteArray) (w:World) (hs:s.size≤maxLen) :
  Calls Tryz.prog 187 #[.string s] w fun e w'=>e = .returned (.bool (canonB s.data.toList))∧Below w.heap.size w w':=by
 have HP:=Lib.hid (rParse_anyL s 10 w (by unfold maxLen at hs;omega))
 obtain ⟨co,hco⟩:∃ co,pCode s.data.toList 10=co:=⟨_,rfl⟩
 obtain ⟨z,hz⟩:∃ z,pVal s.data.toList 10=z:=⟨_,rfl⟩
 obtain ⟨st,hst⟩:∃ st,strN (txtZ z 10)=st:=⟨_,rfl⟩
 have hC:canonB s.data.toList=(decide (co=0) && decide (st.data.toList=s.data.toList)):=by unfold canonB;rw [hco,hz,←hst];rfl
 rw [hC]
 obtain ⟨R,hR⟩:∃ R,(decide (co=0) && decide (st.data.toList=s.data.toList))=R:=⟨_,rfl⟩
 rw [hR]
 have HR:=Lib.hid hR
 have HSt:=Lib.hid hst
 rw [hco,hz] at HP
 have HT:=Lib.hid (fun h:co=0=>show tooLong z=false by rw [←hz];exact code_ok (hco.trans h))
 clear hC hco hz hR hst
 go_enter Tryz.func187,Tryz.ntmps187
 go_wp2_with fail
 (with_reducible refine HP.out.mono ?_)
 rintro e w1 ⟨v,rfl,hv0,hv1,hb1⟩
 by_cases h0:co=0
 ·subst h0
  obtain ⟨A,c,rfl,ho⟩:=hv0 rfl
  have ht:=HT.out rfl
  have hbl:=short_blen ht
  have hdl:=digs_2_le hbl
  have hsl:SlI w1 w1.heap.size A (digs 2 z.natAbs).length c (digs 2 z.natAbs):=ho.sl (dig_digs (by decide) _) rfl
  have hb2:Below w1.heap.size w1 (w1.alloc (.cells #[.bool (decide (z<0)),.slice A (digs 2 z.natAbs).length c] 59)):=(Below.refl _ _).alloc (Nat.le_refl _) _
  have hT:=rText_any (x:=z) (w:=w1.alloc (.cells #[.bool (decide (z<0)),.slice A (digs 2 z.natAbs).length c] 59)) ((hsl.below (C:=w1.heap.size) hb2 (Nat.le_refl _)).mono hb2.size) (Nat.le_refl _) hdl 10 (by omega) (by omega)
  rw [show ((10:Nat):Int)=10 from rfl,HSt.out] at hT
  have HX:=Lib.hid hT
  have HB:=Lib.hid (hb1.trans (hb2.mono hb1.size))
  clear hT hv0 hv1 hb1 ho ht hbl hdl hsl hb2
  generalize (digs 2 z.natAbs).length=n at *
  generalize decide (z<0)=sgn at *
  go_wp2_with fail
  (with_reducible refine HX.out.mono ?_)
  rintro e w3 ⟨rfl,hb3⟩
  have HB3:=Lib.hid (HB.out.trans (hb3.mono HB.out.size))
  clear hb3
  by_cases he:st.data.toList=s.data.toList
  ·have s1:(st.toList==s.toList)=true:=by rw [ByteArray.toList_eq,ByteArray.toList_eq,he];simp
   have HE:=Lib.hid (show true=R by rw [←HR.out,decide_eq_true he];rfl)
   clear he
   go_wp2
   go_ret
   exact ⟨by rw [←HE.out];rfl,HB3.out⟩
  ·have s1:(st.toList==s.toList)=false:=by rw [ByteArray.toList_eq,ByteArray.toList_eq];exact beq_eq_false_iff_ne.2 he
   have HE:=Lib.hid (show false=R by rw [←HR.out,decide_eq_false he];simp)
   clear he
   go_wp2
   go_ret
   exact ⟨by rw [←HE.out];rfl,HB3.out⟩
 ·have hv:=hv1 h0
  subst hv
  have h0b:(co != 0)=true:=by simpa using h0
  have HE:=Lib.hid (show false=R by rw [←HR.out,decide_eq_false h0];simp)
  have HB:=Lib.hid hb1
  clear hv0 hv1 h0 hb1
  go_wp2
  go_ret
  exact ⟨by rw [←HE.out];rfl,HB.out.alloc HB.out.size _⟩
theorem one20 {t:Tm} (h:t.k<1∨5<t.k∨stray t=true∨t.v<0∨(t.k=5∧(t.as.length=0∨64<t.as.length))):oneP t=20:=if_pos h
theorem one_go {t:Tm} (h:¬(t.k<1∨5<t.k∨stray t=true∨t.v<0∨(t.k=5∧(t.as.length=0∨64<t.as.length)))):oneP t=if Lib.validD t.n=false∨1000<t.n.length then 21
 else if t.k=3∧canonB t.m=false then 22
 else if t.k=4∧floB t.b=false then 23
 else 0:=if_neg h
theorem stray_n {t:Tm} (h:t.n ≠ []) (h2:t.k≠2) (h5:t.k≠5):stray t=true:=by simp [stray,h,h2,h5]
theorem stray_m {t:Tm} (h:t.m ≠ []) (h3:t.k≠3):stray t=true:=by simp [stray,h,h3]
theorem stray_b {t:Tm} (h:t.b≠0) (h4:t.k≠4):stray t=true:=by simp [stray,h,h4]
theorem stray_v {t:Tm} (h:t.v≠0) (h1:t.k≠1):stray t=true:=by simp [stray,h,h1]
theorem stray_l {t:Tm} (h:t.as.length≠0) (h5:t.k≠5):stray t=true:=by unfold stray;simp only [Bool.or_eq_true];exact .inr (by simp [h,h5])
theorem stray_no {t:Tm} (hn:t.n = []∨t.k=2∨t.k=5) (hm:t.m = []∨t.k=3) (hb:t.b=0∨t.k=4) (hv:t.v=0∨t.k=1) (hl:t.as.length=0∨t.k=5):stray t=false:=by
 unfold stray
 simp only [Bool.or_eq_false_iff]
 refine ⟨⟨⟨⟨?_,?_⟩,?_⟩,?_⟩,?_⟩
 ·rcases hn with h | h | h <;> simp [h]
 ·rcases hm with h | h <;> simp [h]
 ·rcases hb with h | h <;> simp [h]
 ·rcases hv with h | h <;> simp [h]
 ·rcases hl with h | h <;> simp [h]
theorem bytes_ne {n:List UInt8} {nb:ByteArray} (h:(⟨n.toArray⟩:ByteArray)=nb) (hn:n ≠ []):nb.toList.isEmpty=false∧(nb.toList == [])=false∧¬nb.toList = []:=by
 have e:nb.toList=n:=by rw [←h,ByteArray.toList_eq]
 rw [e]
 cases n with
 | nil=>exact absurd rfl hn
 | cons a l=>exact ⟨rfl,rfl,by simp⟩
set_option maxRecDepth 100000 in
set_option maxHeartbeats 16000000 in
theorem rone_any {w:World} {t:Tm} {sl:Value} (h:TAt w w.heap.size t sl) (hf:t.n.length≤4611686018427387904):Calls Tryz.prog 135 #[valT t sl] w fun e w'=>e = .returned (.int .i64 (oneP t))∧Below w.heap.size w w':=by
 obtain ⟨k,nl,ml,b,v,ts,nb,mb,A,c,rfl,rfl,hnb,hmb,hl1,hl2,hl3,hv,hs1,hs2⟩:=h.letters
 have hok:=h.ok
 obtain ⟨L,hL⟩:∃ L,ts.length=L:=⟨_,rfl⟩
 rw [hv]
 rw [hL] at h hl1 hl3 ⊢
 obtain ⟨R,hR⟩:∃ R,oneP (.mk k nl ml b v ts)=R:=⟨_,rfl⟩
 rw [hR]
 have HR:=Lib.hid hR
 have hUv:=fun (w':World)=>UTF_any nb w' (by rw [←hnb];show nl.toArray.size≤_;rw [List.size_toArray];exact hf)
 rw [show nb.data.toList=nl by rw [←hnb]] at hUv
 obtain ⟨U,hUu⟩:∃ U,Lib.validD nl=U:=⟨_,rfl⟩
 obtain ⟨N,hN⟩:∃ N,nl.length=N:=⟨_,rfl⟩
 have hsz:nb.size=N:=by rw [←hN,←hnb];exact List.size_toArray
 have hNI:(N:Int)≤4611686018427387904:=by change nl.length≤_ at hf;omega
 rw [hUu] at hUv
 have HUv:=Lib.hid hUv
 have hIn:=fun (w':World)=>rcanonical_any mb w' hs2
 rw [show mb.data.toList=ml by rw [←hmb]] at hIn
 obtain ⟨C,hC⟩:∃ C,canonB ml=C:=⟨_,rfl⟩
 rw [hC] at hIn
 have HIn:=Lib.hid hIn
 obtain ⟨F,hF⟩:∃ F,floB b=F:=⟨_,rfl⟩
 have hFl:=fun (w':World)=>rfloats_any b.toNat (by have:=hok.2.2.1;simp only [Tm.b] at this;omega) w'
 rw [show floN b.toNat=F from hF,show ((b.toNat:Nat):Int)=b by have:=hok.2.2.1;simp only [Tm.b] at this;omega] at hFl
 have HFl:=Lib.hid hFl
 have HD:=Lib.hid (And.intro hUu (And.intro hN (And.intro hC (And.intro hF hL))))
 have hLI:(L:Int)≤1759218604400:=by unfold maxArgs at hl3;omega
 obtain ⟨W1,hW1⟩:∃ W1,(w.alloc (.cells #[.int .i64 k,.string nb,.string mb,.int .u64 b,.int .i64 v,.slice A L c] 25))=W1:=⟨_,rfl⟩
 have hb1:Below w.heap.size w W1:=by rw [←hW1];exact (Below.refl _ _).alloc (Nat.le_refl _) _
 have hX:TBox W1 w.heap.size (.mk k nl ml b v ts) (.slice A L c):=by rw [←hW1];exact TBox.new w hnb hmb
 obtain ⟨x0,x1,x2,x3,x4,x5⟩:=hX.cells hnb hmb
 have HX:=Lib.hid (And.intro hb1 hX)
 have HM:=Lib.hid (And.intro hnb hmb)
 have HKb:=Lib.hid (show 0≤b∧b<18446744073709551616 from hok.2.2.1)
 have hbu0:=HKb.out.1
 have hbu1:=HKb.out.2
 subst hW1
 clear h hv hok hf hb1 hX hUv hIn hFl hUu hC hF hN hR hnb hmb hL hs1 hs2 hl1 hl3
 by_cases hk1:k<1
 ·have hk1b:(k==1)=false:=beq_eq_false_iff_ne.2 (by omega)
  have hk2b:(k==2)=false:=beq_eq_false_iff_ne.2 (by omega)
  have hk3b:(k==3)=false:=beq_eq_false_iff_ne.2 (by omega)
  have hk4b:(k==4)=false:=beq_eq_false_iff_ne.2 (by omega)
  have hk5b:(k==5)=false:=beq_eq_false_iff_ne.2 (by omega)
  have HE:=Lib.hid (show (20:Int)=R by rw [←HR.out];refine Eq.symm ?_;exact one20 (.inl hk1))
  go_enter Tryz.func135,Tryz.ntmps135
  go_wp2_with (first
   | (go_at_call 186;(with_reducible refine (HUv.out _).mono ?_);rintro e w2 ⟨rfl,rfl⟩)
   | (go_at_call 187;(with_reducible refine (HIn.out _).mono ?_);rintro e w4 ⟨rfl,hb4⟩)
   | (go_at_call 188;(with_reducible refine (HFl.out _).mono ?_);rintro e w5 ⟨rfl,rfl⟩))
  all_goals
   go_ret
   exact ⟨by rw [←HE.out];rfl,HX.out.1⟩
 by_cases hk5:5<k
 ·have hk1b:(k==1)=false:=beq_eq_false_iff_ne.2 (by omega)
  have hk2b:(k==2)=false:=beq_eq_false_iff_ne.2 (by omega)
  have hk3b:(k==3)=false:=beq_eq_false_iff_ne.2 (by omega)
  have hk4b:(k==4)=false:=beq_eq_false_iff_ne.2 (by omega)
  have hk5b:(k==5)=false:=beq_eq_false_iff_ne.2 (by omega)
  have HE:=Lib.hid (show (20:Int)=R by rw [←HR.out];refine Eq.symm ?_;exact one20 (.inr (.inl hk5)))
  go_enter Tryz.func135,Tryz.ntmps135
  go_wp2_with (first
   | (go_at_call 186;(with_reducible refine (HUv.out _).mono ?_);rintro e w2 ⟨rfl,rfl⟩)
   | (go_at_call 187;(with_reducible refine (HIn.out _).mono ?_);rintro e w4 ⟨rfl,hb4⟩)
   | (go_at_call 188;(with_reducible refine (HFl.out _).mono ?_);rintro e w5 ⟨rfl,rfl⟩))
  all_goals
   go_ret
   exact ⟨by rw [←HE.out];rfl,HX.out.1⟩
 have hkk:k=1∨k=2∨k=3∨k=4∨k=5:=by omega
 clear hk1 hk5
 rcases hkk with rfl | rfl | rfl | rfl | rfl
 ·skip
  by_cases hn0:nl = []
  case neg=>
   obtain ⟨e1,e2,e3⟩:=bytes_ne HM.out.1 hn0
   have HE:=Lib.hid (show (20:Int)=R by rw [←HR.out];refine Eq.symm ?_;exact one20 (.inr (.inr (.inl (stray_n hn0 (show (1:Int)≠2 by decide) (show (1:Int)≠5 by decide))))))
   clear hn0
   go_enter Tryz.func135,Tryz.ntmps135
   go_wp2_with (first
    | (go_at_call 186;(with_reducible refine (HUv.out _).mono ?_);rintro e w2 ⟨rfl,rfl⟩)
    | (go_at_call 187;(with_reducible refine (HIn.out _).mono ?_);rintro e w4 ⟨rfl,hb4⟩)
    | (go_at_call 188;(with_reducible refine (HFl.out _).mono ?_);rintro e w5 ⟨rfl,rfl⟩))
   all_goals
    go_ret
    exact ⟨by rw [←HE.out];rfl,HX.out.1⟩
  subst hn0
  obtain rfl:nb=⟨#[]⟩:=HM.out.1.symm
  by_cases hm0:ml = []
  case neg=>
   obtain ⟨f1,f2,f3⟩:=bytes_ne HM.out.2 hm0
   have HE:=Lib.hid (show (20:Int)=R by rw [←HR.out];refine Eq.symm ?_;exact one20 (.inr (.inr (.inl (stray_m hm0 (show (1:Int)≠3 by decide))))))
   clear hm0
   go_enter Tryz.func135,Tryz.ntmps135
   go_wp2_with (first
    | (go_at_call 186;(with_reducible refine (HUv.out _).mono ?_);rintro e w2 ⟨rfl,rfl⟩)
    | (go_at_call 187;(with_reducible refine (HIn.out _).mono ?_);rintro e w4 ⟨rfl,hb4⟩)
    | (go_at_call 188;(with_reducible refine (HFl.out _).mono ?_);rintro e w5 ⟨rfl,rfl⟩))
   all_goals
    go_ret
    exact ⟨by rw [←HE.out];rfl,HX.out.1⟩
  subst hm0
  obtain rfl:mb=⟨#[]⟩:=HM.out.2.symm
  by_cases hb0:b=0
  case neg=>
   have g1:(b != 0)=true:=by simpa using hb0
   have g2:¬b=0:=hb0
   have HE:=Lib.hid (show (20:Int)=R by rw [←HR.out];refine Eq.symm ?_;exact one20 (.inr (.inr (.inl (stray_b hb0 (show (1:Int)≠4 by decide))))))
   clear hb0
   go_enter Tryz.func135,Tryz.ntmps135
   go_wp2_with (first
    | (go_at_call 186;(with_reducible refine (HUv.out _).mono ?_);rintro e w2 ⟨rfl,rfl⟩)
    | (go_at_call 187;(with_reducible refine (HIn.out _).mono ?_);rintro e w4 ⟨rfl,hb4⟩)
    | (go_at_call 188;(with_reducible refine (HFl.out _).mono ?_);rintro e w5 ⟨rfl,rfl⟩))
   all_goals
    go_ret
    exact ⟨by rw [←HE.out];rfl,HX.out.1⟩
  subst hb0
  by_cases hvz:v=0
  ·subst hvz
   by_cases hL0:L=0
   case neg=>
    have g1:(0:Int)<(L:Int):=by omega
    have HE:=Lib.hid (show (20:Int)=R by rw [←HR.out];refine Eq.symm ?_;exact one20 (.inr (.inr (.inl (stray_l (show ts.length≠0 by rw [HD.out.2.2.2.2];exact hL0) (show (1:Int)≠5 by decide))))))
    clear hL0
    go_enter Tryz.func135,Tryz.ntmps135
    go_wp2_with (first
     | (go_at_call 186;(with_reducible refine (HUv.out _).mono ?_);rintro e w2 ⟨rfl,rfl⟩)
     | (go_at_call 187;(with_reducible refine (HIn.out _).mono ?_);rintro e w4 ⟨rfl,hb4⟩)
     | (go_at_call 188;(with_reducible refine (HFl.out _).mono ?_);rintro e w5 ⟨rfl,rfl⟩))
    all_goals
     go_ret
     exact ⟨by rw [←HE.out];rfl,HX.out.1⟩
   subst hL0
   have hgo:=Lib.hid (one_go (t:=.mk 1 [] [] 0 0 ts) (fun h=>by
    have hs:=stray_no (t:=.mk 1 [] [] 0 0 ts) (.inl rfl) (.inl rfl) (.inl rfl) (.inr rfl) (.inl HD.out.2.2.2.2)
    rcases h with h | h | h | h | h
    ·exact absurd h (by show ¬(1:Int)<1;omega)
    ·exact absurd h (by show ¬(5:Int)<1;omega)
    ·rw [hs] at h;cases h
    ·exact absurd h (by show ¬(0:Int)<0;omega)
    ·exact absurd h (fun h=>absurd h.1 (show (1:Int)≠5 by decide))))
   cases U
   ·skip
    have HE:=Lib.hid (show (21:Int)=R by rw [←HR.out];refine Eq.symm ?_;exact hgo.out.trans (if_pos (.inl HD.out.1)))
    go_enter Tryz.func135,Tryz.ntmps135
    go_wp2_with (first
     | (go_at_call 186;(with_reducible refine (HUv.out _).mono ?_);rintro e w2 ⟨rfl,rfl⟩)
     | (go_at_call 187;(with_reducible refine (HIn.out _).mono ?_);rintro e w4 ⟨rfl,hb4⟩)
     | (go_at_call 188;(with_reducible refine (HFl.out _).mono ?_);rintro e w5 ⟨rfl,rfl⟩))
    all_goals
     go_ret
     exact ⟨by rw [←HE.out];rfl,HX.out.1⟩
   by_cases h1000:1000<N
   ·have h1I:(1000:Int)<(N:Int):=by omega
    have HE:=Lib.hid (show (21:Int)=R by rw [←HR.out];refine Eq.symm ?_;exact hgo.out.trans (if_pos (.inr (by show 1000<([]:List UInt8).length;rw [HD.out.2.1];exact h1000))))
    clear h1000
    go_enter Tryz.func135,Tryz.ntmps135
    go_wp2_with (first
     | (go_at_call 186;(with_reducible refine (HUv.out _).mono ?_);rintro e w2 ⟨rfl,rfl⟩)
     | (go_at_call 187;(with_reducible refine (HIn.out _).mono ?_);rintro e w4 ⟨rfl,hb4⟩)
     | (go_at_call 188;(with_reducible refine (HFl.out _).mono ?_);rintro e w5 ⟨rfl,rfl⟩))
    all_goals
     go_ret
     exact ⟨by rw [←HE.out];rfl,HX.out.1⟩
   have h1I:¬(1000:Int)<(N:Int):=by omega
   have h1J:(N:Int)≤1000:=by omega
   have HU2:=Lib.hid (show ¬(Lib.validD []=false∨1000<([]:List UInt8).length) from fun h=>by
    rcases h with h | h
    ·rw [HD.out.1] at h;cases h
    ·rw [HD.out.2.1] at h;exact h1000 h)
   clear h1000
   have HE:=Lib.hid (show (0:Int)=R by rw [←HR.out];refine Eq.symm ?_;exact hgo.out.trans ((if_neg HU2.out).trans ((if_neg (fun h=>absurd h.1 (show (1:Int)≠3 by decide))).trans (if_neg (fun h=>absurd h.1 (show (1:Int)≠4 by decide))))))
   go_enter Tryz.func135,Tryz.ntmps135
   go_wp2_with (first
    | (go_at_call 186;(with_reducible refine (HUv.out _).mono ?_);rintro e w2 ⟨rfl,rfl⟩)
    | (go_at_call 187;(with_reducible refine (HIn.out _).mono ?_);rintro e w4 ⟨rfl,hb4⟩)
    | (go_at_call 188;(with_reducible refine (HFl.out _).mono ?_);rintro e w5 ⟨rfl,rfl⟩))
   all_goals
    go_ret
    exact ⟨by rw [←HE.out];rfl,HX.out.1⟩
  ·have g8:(v != 0)=true:=by simpa using hvz
   have g9:¬v=0:=hvz
   by_cases hL0:L=0
   case neg=>
    have g1:(0:Int)<(L:Int):=by omega
    have HE:=Lib.hid (show (20:Int)=R by rw [←HR.out];refine Eq.symm ?_;exact one20 (.inr (.inr (.inl (stray_l (show ts.length≠0 by rw [HD.out.2.2.2.2];exact hL0) (show (1:Int)≠5 by decide))))))
    clear hL0
    go_enter Tryz.func135,Tryz.ntmps135
    go_wp2_with (first
     | (go_at_call 186;(with_reducible refine (HUv.out _).mono ?_);rintro e w2 ⟨rfl,rfl⟩)
     | (go_at_call 187;(with_reducible refine (HIn.out _).mono ?_);rintro e w4 ⟨rfl,hb4⟩)
     | (go_at_call 188;(with_reducible refine (HFl.out _).mono ?_);rintro e w5 ⟨rfl,rfl⟩))
    all_goals
     go_ret
     exact ⟨by rw [←HE.out];rfl,HX.out.1⟩
   subst hL0
   by_cases hv0:v<0
   ·have g1:(v != 0)=true:=by simp;omega
    have HE:=Lib.hid (show (20:Int)=R by rw [←HR.out];refine Eq.symm ?_;exact one20 (.inr (.inr (.inr (.inl hv0)))))
    go_enter Tryz.func135,Tryz.ntmps135
    go_wp2_with (first
     | (go_at_call 186;(with_reducible refine (HUv.out _).mono ?_);rintro e w2 ⟨rfl,rfl⟩)
     | (go_at_call 187;(with_reducible refine (HIn.out _).mono ?_);rintro e w4 ⟨rfl,hb4⟩)
     | (go_at_call 188;(with_reducible refine (HFl.out _).mono ?_);rintro e w5 ⟨rfl,rfl⟩))
    all_goals
     go_ret
     exact ⟨by rw [←HE.out];rfl,HX.out.1⟩
   have hv1:0<v:=by omega
   have hgo:=Lib.hid (one_go (t:=.mk 1 [] [] 0 v ts) (fun h=>by
    have hs:=stray_no (t:=.mk 1 [] [] 0 v ts) (.inl rfl) (.inl rfl) (.inl rfl) (.inr rfl) (.inl HD.out.2.2.2.2)
    rcases h with h | h | h | h | h
    ·exact absurd h (by show ¬(1:Int)<1;omega)
    ·exact absurd h (by show ¬(5:Int)<1;omega)
    ·rw [hs] at h;cases h
    ·exact absurd h (by show ¬v<0;omega)
    ·exact absurd h (fun h=>absurd h.1 (show (1:Int)≠5 by decide))))
   cases U
   ·skip
    have HE:=Lib.hid (show (21:Int)=R by rw [←HR.out];refine Eq.symm ?_;exact hgo.out.trans (if_pos (.inl HD.out.1)))
    go_enter Tryz.func135,Tryz.ntmps135
    go_wp2_with (first
     | (go_at_call 186;(with_reducible refine (HUv.out _).mono ?_);rintro e w2 ⟨rfl,rfl⟩)
     | (go_at_call 187;(with_reducible refine (HIn.out _).mono ?_);rintro e w4 ⟨rfl,hb4⟩)
     | (go_at_call 188;(with_reducible refine (HFl.out _).mono ?_);rintro e w5 ⟨rfl,rfl⟩))
    all_goals
     go_ret
     exact ⟨by rw [←HE.out];rfl,HX.out.1⟩
   by_cases h1000:1000<N
   ·have h1I:(1000:Int)<(N:Int):=by omega
    have HE:=Lib.hid (show (21:Int)=R by rw [←HR.out];refine Eq.symm ?_;exact hgo.out.trans (if_pos (.inr (by show 1000<([]:List UInt8).length;rw [HD.out.2.1];exact h1000))))
    clear h1000
    go_enter Tryz.func135,Tryz.ntmps135
    go_wp2_with (first
     | (go_at_call 186;(with_reducible refine (HUv.out _).mono ?_);rintro e w2 ⟨rfl,rfl⟩)
     | (go_at_call 187;(with_reducible refine (HIn.out _).mono ?_);rintro e w4 ⟨rfl,hb4⟩)
     | (go_at_call 188;(with_reducible refine (HFl.out _).mono ?_);rintro e w5 ⟨rfl,rfl⟩))
    all_goals
     go_ret
     exact ⟨by rw [←HE.out];rfl,HX.out.1⟩
   have h1I:¬(1000:Int)<(N:Int):=by omega
   have h1J:(N:Int)≤1000:=by omega
   have HU2:=Lib.hid (show ¬(Lib.validD []=false∨1000<([]:List UInt8).length) from fun h=>by
    rcases h with h | h
    ·rw [HD.out.1] at h;cases h
    ·rw [HD.out.2.1] at h;exact h1000 h)
   clear h1000
   have HE:=Lib.hid (show (0:Int)=R by rw [←HR.out];refine Eq.symm ?_;exact hgo.out.trans ((if_neg HU2.out).trans ((if_neg (fun h=>absurd h.1 (show (1:Int)≠3 by decide))).trans (if_neg (fun h=>absurd h.1 (show (1:Int)≠4 by decide))))))
   go_enter Tryz.func135,Tryz.ntmps135
   go_wp2_with (first
    | (go_at_call 186;(with_reducible refine (HUv.out _).mono ?_);rintro e w2 ⟨rfl,rfl⟩)
    | (go_at_call 187;(with_reducible refine (HIn.out _).mono ?_);rintro e w4 ⟨rfl,hb4⟩)
    | (go_at_call 188;(with_reducible refine (HFl.out _).mono ?_);rintro e w5 ⟨rfl,rfl⟩))
   all_goals
    go_ret
    exact ⟨by rw [←HE.out];rfl,HX.out.1⟩
 ·skip
  by_cases hm0:ml = []
  case neg=>
   obtain ⟨f1,f2,f3⟩:=bytes_ne HM.out.2 hm0
   have HE:=Lib.hid (show (20:Int)=R by rw [←HR.out];refine Eq.symm ?_;exact one20 (.inr (.inr (.inl (stray_m hm0 (show (2:Int)≠3 by decide))))))
   clear hm0
   go_enter Tryz.func135,Tryz.ntmps135
   go_wp2_with (first
    | (go_at_call 186;(with_reducible refine (HUv.out _).mono ?_);rintro e w2 ⟨rfl,rfl⟩)
    | (go_at_call 187;(with_reducible refine (HIn.out _).mono ?_);rintro e w4 ⟨rfl,hb4⟩)
    | (go_at_call 188;(with_reducible refine (HFl.out _).mono ?_);rintro e w5 ⟨rfl,rfl⟩))
   all_goals
    go_ret
    exact ⟨by rw [←HE.out];rfl,HX.out.1⟩
  subst hm0
  obtain rfl:mb=⟨#[]⟩:=HM.out.2.symm
  by_cases hb0:b=0
  case neg=>
   have g1:(b != 0)=true:=by simpa using hb0
   have g2:¬b=0:=hb0
   have HE:=Lib.hid (show (20:Int)=R by rw [←HR.out];refine Eq.symm ?_;exact one20 (.inr (.inr (.inl (stray_b hb0 (show (2:Int)≠4 by decide))))))
   clear hb0
   go_enter Tryz.func135,Tryz.ntmps135
   go_wp2_with (first
    | (go_at_call 186;(with_reducible refine (HUv.out _).mono ?_);rintro e w2 ⟨rfl,rfl⟩)
    | (go_at_call 187;(with_reducible refine (HIn.out _).mono ?_);rintro e w4 ⟨rfl,hb4⟩)
    | (go_at_call 188;(with_reducible refine (HFl.out _).mono ?_);rintro e w5 ⟨rfl,rfl⟩))
   all_goals
    go_ret
    exact ⟨by rw [←HE.out];rfl,HX.out.1⟩
  subst hb0
  by_cases hv0:v=0
  case neg=>
   have g1:(v != 0)=true:=by simpa using hv0
   have g2:¬v=0:=hv0
   have HE:=Lib.hid (show (20:Int)=R by rw [←HR.out];refine Eq.symm ?_;exact one20 (.inr (.inr (.inl (stray_v hv0 (show (2:Int)≠1 by decide))))))
   clear hv0
   go_enter Tryz.func135,Tryz.ntmps135
   go_wp2_with (first
    | (go_at_call 186;(with_reducible refine (HUv.out _).mono ?_);rintro e w2 ⟨rfl,rfl⟩)
    | (go_at_call 187;(with_reducible refine (HIn.out _).mono ?_);rintro e w4 ⟨rfl,hb4⟩)
    | (go_at_call 188;(with_reducible refine (HFl.out _).mono ?_);rintro e w5 ⟨rfl,rfl⟩))
   all_goals
    go_ret
    exact ⟨by rw [←HE.out];rfl,HX.out.1⟩
  subst hv0
  by_cases hL0:L=0
  case neg=>
   have g1:(0:Int)<(L:Int):=by omega
   have HE:=Lib.hid (show (20:Int)=R by rw [←HR.out];refine Eq.symm ?_;exact one20 (.inr (.inr (.inl (stray_l (show ts.length≠0 by rw [HD.out.2.2.2.2];exact hL0) (show (2:Int)≠5 by decide))))))
   clear hL0
   go_enter Tryz.func135,Tryz.ntmps135
   go_wp2_with (first
    | (go_at_call 186;(with_reducible refine (HUv.out _).mono ?_);rintro e w2 ⟨rfl,rfl⟩)
    | (go_at_call 187;(with_reducible refine (HIn.out _).mono ?_);rintro e w4 ⟨rfl,hb4⟩)
    | (go_at_call 188;(with_reducible refine (HFl.out _).mono ?_);rintro e w5 ⟨rfl,rfl⟩))
   all_goals
    go_ret
    exact ⟨by rw [←HE.out];rfl,HX.out.1⟩
  subst hL0
  have hgo:=Lib.hid (one_go (t:=.mk 2 nl [] 0 0 ts) (fun h=>by
   have hs:=stray_no (t:=.mk 2 nl [] 0 0 ts) (.inr (.inl rfl)) (.inl rfl) (.inl rfl) (.inl rfl) (.inl HD.out.2.2.2.2)
   rcases h with h | h | h | h | h
   ·exact absurd h (by show ¬(2:Int)<1;omega)
   ·exact absurd h (by show ¬(5:Int)<2;omega)
   ·rw [hs] at h;cases h
   ·exact absurd h (by show ¬(0:Int)<0;omega)
   ·exact absurd h (fun h=>absurd h.1 (show (2:Int)≠5 by decide))))
  cases U
  ·skip
   have HE:=Lib.hid (show (21:Int)=R by rw [←HR.out];refine Eq.symm ?_;exact hgo.out.trans (if_pos (.inl HD.out.1)))
   go_enter Tryz.func135,Tryz.ntmps135
   go_wp2_with (first
    | (go_at_call 186;(with_reducible refine (HUv.out _).mono ?_);rintro e w2 ⟨rfl,rfl⟩)
    | (go_at_call 187;(with_reducible refine (HIn.out _).mono ?_);rintro e w4 ⟨rfl,hb4⟩)
    | (go_at_call 188;(with_reducible refine (HFl.out _).mono ?_);rintro e w5 ⟨rfl,rfl⟩))
   all_goals
    go_ret
    exact ⟨by rw [←HE.out];rfl,HX.out.1⟩
  by_cases h1000:1000<N
  ·have h1I:(1000:Int)<(N:Int):=by omega
   have HE:=Lib.hid (show (21:Int)=R by rw [←HR.out];refine Eq.symm ?_;exact hgo.out.trans (if_pos (.inr (by show 1000<(nl:List UInt8).length;rw [HD.out.2.1];exact h1000))))
   clear h1000
   go_enter Tryz.func135,Tryz.ntmps135
   go_wp2_with (first
    | (go_at_call 186;(with_reducible refine (HUv.out _).mono ?_);rintro e w2 ⟨rfl,rfl⟩)
    | (go_at_call 187;(with_reducible refine (HIn.out _).mono ?_);rintro e w4 ⟨rfl,hb4⟩)
    | (go_at_call 188;(with_reducible refine (HFl.out _).mono ?_);rintro e w5 ⟨rfl,rfl⟩))
   all_goals
    go_ret
    exact ⟨by rw [←HE.out];rfl,HX.out.1⟩
  have h1I:¬(1000:Int)<(N:Int):=by omega
  have h1J:(N:Int)≤1000:=by omega
  have HU2:=Lib.hid (show ¬(Lib.validD nl=false∨1000<(nl:List UInt8).length) from fun h=>by
   rcases h with h | h
   ·rw [HD.out.1] at h;cases h
   ·rw [HD.out.2.1] at h;exact h1000 h)
  clear h1000
  have HE:=Lib.hid (show (0:Int)=R by rw [←HR.out];refine Eq.symm ?_;exact hgo.out.trans ((if_neg HU2.out).trans ((if_neg (fun h=>absurd h.1 (show (2:Int)≠3 by decide))).trans (if_neg (fun h=>absurd h.1 (show (2:Int)≠4 by decide))))))
  go_enter Tryz.func135,Tryz.ntmps135
  go_wp2_with (first
   | (go_at_call 186;(with_reducible refine (HUv.out _).mono ?_);rintro e w2 ⟨rfl,rfl⟩)
   | (go_at_call 187;(with_reducible refine (HIn.out _).mono ?_);rintro e w4 ⟨rfl,hb4⟩)
   | (go_at_call 188;(with_reducible refine (HFl.out _).mono ?_);rintro e w5 ⟨rfl,rfl⟩))
  all_goals
   go_ret
   exact ⟨by rw [←HE.out];rfl,HX.out.1⟩
 ·skip
  by_cases hn0:nl = []
  case neg=>
   obtain ⟨e1,e2,e3⟩:=bytes_ne HM.out.1 hn0
   have HE:=Lib.hid (show (20:Int)=R by rw [←HR.out];refine Eq.symm ?_;exact one20 (.inr (.inr (.inl (stray_n hn0 (show (3:Int)≠2 by decide) (show (3:Int)≠5 by decide))))))
   clear hn0
   go_enter Tryz.func135,Tryz.ntmps135
   go_wp2_with (first
    | (go_at_call 186;(with_reducible refine (HUv.out _).mono ?_);rintro e w2 ⟨rfl,rfl⟩)
    | (go_at_call 187;(with_reducible refine (HIn.out _).mono ?_);rintro e w4 ⟨rfl,hb4⟩)
    | (go_at_call 188;(with_reducible refine (HFl.out _).mono ?_);rintro e w5 ⟨rfl,rfl⟩))
   all_goals
    go_ret
    exact ⟨by rw [←HE.out];rfl,HX.out.1⟩
  subst hn0
  obtain rfl:nb=⟨#[]⟩:=HM.out.1.symm
  by_cases hmz:ml = []
  ·subst hmz
   obtain rfl:mb=⟨#[]⟩:=HM.out.2.symm
   by_cases hb0:b=0
   case neg=>
    have g1:(b != 0)=true:=by simpa using hb0
    have g2:¬b=0:=hb0
    have HE:=Lib.hid (show (20:Int)=R by rw [←HR.out];refine Eq.symm ?_;exact one20 (.inr (.inr (.inl (stray_b hb0 (show (3:Int)≠4 by decide))))))
    clear hb0
    go_enter Tryz.func135,Tryz.ntmps135
    go_wp2_with (first
     | (go_at_call 186;(with_reducible refine (HUv.out _).mono ?_);rintro e w2 ⟨rfl,rfl⟩)
     | (go_at_call 187;(with_reducible refine (HIn.out _).mono ?_);rintro e w4 ⟨rfl,hb4⟩)
     | (go_at_call 188;(with_reducible refine (HFl.out _).mono ?_);rintro e w5 ⟨rfl,rfl⟩))
    all_goals
     go_ret
     exact ⟨by rw [←HE.out];rfl,HX.out.1⟩
   subst hb0
   by_cases hv0:v=0
   case neg=>
    have g1:(v != 0)=true:=by simpa using hv0
    have g2:¬v=0:=hv0
    have HE:=Lib.hid (show (20:Int)=R by rw [←HR.out];refine Eq.symm ?_;exact one20 (.inr (.inr (.inl (stray_v hv0 (show (3:Int)≠1 by decide))))))
    clear hv0
    go_enter Tryz.func135,Tryz.ntmps135
    go_wp2_with (first
     | (go_at_call 186;(with_reducible refine (HUv.out _).mono ?_);rintro e w2 ⟨rfl,rfl⟩)
     | (go_at_call 187;(with_reducible refine (HIn.out _).mono ?_);rintro e w4 ⟨rfl,hb4⟩)
     | (go_at_call 188;(with_reducible refine (HFl.out _).mono ?_);rintro e w5 ⟨rfl,rfl⟩))
    all_goals
     go_ret
     exact ⟨by rw [←HE.out];rfl,HX.out.1⟩
   subst hv0
   by_cases hL0:L=0
   case neg=>
    have g1:(0:Int)<(L:Int):=by omega
    have HE:=Lib.hid (show (20:Int)=R by rw [←HR.out];refine Eq.symm ?_;exact one20 (.inr (.inr (.inl (stray_l (show ts.length≠0 by rw [HD.out.2.2.2.2];exact hL0) (show (3:Int)≠5 by decide))))))
    clear hL0
    go_enter Tryz.func135,Tryz.ntmps135
    go_wp2_with (first
     | (go_at_call 186;(with_reducible refine (HUv.out _).mono ?_);rintro e w2 ⟨rfl,rfl⟩)
     | (go_at_call 187;(with_reducible refine (HIn.out _).mono ?_);rintro e w4 ⟨rfl,hb4⟩)
     | (go_at_call 188;(with_reducible refine (HFl.out _).mono ?_);rintro e w5 ⟨rfl,rfl⟩))
    all_goals
     go_ret
     exact ⟨by rw [←HE.out];rfl,HX.out.1⟩
   subst hL0
   have hgo:=Lib.hid (one_go (t:=.mk 3 [] [] 0 0 ts) (fun h=>by
    have hs:=stray_no (t:=.mk 3 [] [] 0 0 ts) (.inl rfl) (.inr rfl) (.inl rfl) (.inl rfl) (.inl HD.out.2.2.2.2)
    rcases h with h | h | h | h | h
    ·exact absurd h (by show ¬(3:Int)<1;omega)
    ·exact absurd h (by show ¬(5:Int)<3;omega)
    ·rw [hs] at h;cases h
    ·exact absurd h (by show ¬(0:Int)<0;omega)
    ·exact absurd h (fun h=>absurd h.1 (show (3:Int)≠5 by decide))))
   cases U
   ·skip
    have HE:=Lib.hid (show (21:Int)=R by rw [←HR.out];refine Eq.symm ?_;exact hgo.out.trans (if_pos (.inl HD.out.1)))
    go_enter Tryz.func135,Tryz.ntmps135
    go_wp2_with (first
     | (go_at_call 186;(with_reducible refine (HUv.out _).mono ?_);rintro e w2 ⟨rfl,rfl⟩)
     | (go_at_call 187;(with_reducible refine (HIn.out _).mono ?_);rintro e w4 ⟨rfl,hb4⟩)
     | (go_at_call 188;(with_reducible refine (HFl.out _).mono ?_);rintro e w5 ⟨rfl,rfl⟩))
    all_goals
     go_ret
     exact ⟨by rw [←HE.out];rfl,HX.out.1⟩
   by_cases h1000:1000<N
   ·have h1I:(1000:Int)<(N:Int):=by omega
    have HE:=Lib.hid (show (21:Int)=R by rw [←HR.out];refine Eq.symm ?_;exact hgo.out.trans (if_pos (.inr (by show 1000<([]:List UInt8).length;rw [HD.out.2.1];exact h1000))))
    clear h1000
    go_enter Tryz.func135,Tryz.ntmps135
    go_wp2_with (first
     | (go_at_call 186;(with_reducible refine (HUv.out _).mono ?_);rintro e w2 ⟨rfl,rfl⟩)
     | (go_at_call 187;(with_reducible refine (HIn.out _).mono ?_);rintro e w4 ⟨rfl,hb4⟩)
     | (go_at_call 188;(with_reducible refine (HFl.out _).mono ?_);rintro e w5 ⟨rfl,rfl⟩))
    all_goals
     go_ret
     exact ⟨by rw [←HE.out];rfl,HX.out.1⟩
   have h1I:¬(1000:Int)<(N:Int):=by omega
   have h1J:(N:Int)≤1000:=by omega
   have HU2:=Lib.hid (show ¬(Lib.validD []=false∨1000<([]:List UInt8).length) from fun h=>by
    rcases h with h | h
    ·rw [HD.out.1] at h;cases h
    ·rw [HD.out.2.1] at h;exact h1000 h)
   clear h1000
   cases C
   ·skip
    have HE:=Lib.hid (show (22:Int)=R by rw [←HR.out];refine Eq.symm ?_;exact hgo.out.trans ((if_neg HU2.out).trans (if_pos ⟨rfl,HD.out.2.2.1⟩)))
    go_enter Tryz.func135,Tryz.ntmps135
    go_wp2_with (first
     | (go_at_call 186;(with_reducible refine (HUv.out _).mono ?_);rintro e w2 ⟨rfl,rfl⟩)
     | (go_at_call 187;(with_reducible refine (HIn.out _).mono ?_);rintro e w4 ⟨rfl,hb4⟩)
     | (go_at_call 188;(with_reducible refine (HFl.out _).mono ?_);rintro e w5 ⟨rfl,rfl⟩))
    all_goals
     go_ret
     exact ⟨by rw [←HE.out];rfl,HX.out.1.trans (hb4.mono HX.out.1.size)⟩
   ·skip
    have HE:=Lib.hid (show (0:Int)=R by rw [←HR.out];refine Eq.symm ?_;exact hgo.out.trans ((if_neg HU2.out).trans ((if_neg (fun h=>by have h2:=h.2;change canonB []=false at h2;rw [HD.out.2.2.1] at h2;cases h2)).trans (if_neg (fun h=>absurd h.1 (show (3:Int)≠4 by decide))))))
    go_enter Tryz.func135,Tryz.ntmps135
    go_wp2_with (first
     | (go_at_call 186;(with_reducible refine (HUv.out _).mono ?_);rintro e w2 ⟨rfl,rfl⟩)
     | (go_at_call 187;(with_reducible refine (HIn.out _).mono ?_);rintro e w4 ⟨rfl,hb4⟩)
     | (go_at_call 188;(with_reducible refine (HFl.out _).mono ?_);rintro e w5 ⟨rfl,rfl⟩))
    all_goals
     go_ret
     exact ⟨by rw [←HE.out];rfl,HX.out.1.trans (hb4.mono HX.out.1.size)⟩
  ·obtain ⟨f1,f2,f3⟩:=bytes_ne HM.out.2 hmz
   clear hmz
   by_cases hb0:b=0
   case neg=>
    have g1:(b != 0)=true:=by simpa using hb0
    have g2:¬b=0:=hb0
    have HE:=Lib.hid (show (20:Int)=R by rw [←HR.out];refine Eq.symm ?_;exact one20 (.inr (.inr (.inl (stray_b hb0 (show (3:Int)≠4 by decide))))))
    clear hb0
    go_enter Tryz.func135,Tryz.ntmps135
    go_wp2_with (first
     | (go_at_call 186;(with_reducible refine (HUv.out _).mono ?_);rintro e w2 ⟨rfl,rfl⟩)
     | (go_at_call 187;(with_reducible refine (HIn.out _).mono ?_);rintro e w4 ⟨rfl,hb4⟩)
     | (go_at_call 188;(with_reducible refine (HFl.out _).mono ?_);rintro e w5 ⟨rfl,rfl⟩))
    all_goals
     go_ret
     exact ⟨by rw [←HE.out];rfl,HX.out.1⟩
   subst hb0
   by_cases hv0:v=0
   case neg=>
    have g1:(v != 0)=true:=by simpa using hv0
    have g2:¬v=0:=hv0
    have HE:=Lib.hid (show (20:Int)=R by rw [←HR.out];refine Eq.symm ?_;exact one20 (.inr (.inr (.inl (stray_v hv0 (show (3:Int)≠1 by decide))))))
    clear hv0
    go_enter Tryz.func135,Tryz.ntmps135
    go_wp2_with (first
     | (go_at_call 186;(with_reducible refine (HUv.out _).mono ?_);rintro e w2 ⟨rfl,rfl⟩)
     | (go_at_call 187;(with_reducible refine (HIn.out _).mono ?_);rintro e w4 ⟨rfl,hb4⟩)
     | (go_at_call 188;(with_reducible refine (HFl.out _).mono ?_);rintro e w5 ⟨rfl,rfl⟩))
    all_goals
     go_ret
     exact ⟨by rw [←HE.out];rfl,HX.out.1⟩
   subst hv0
   by_cases hL0:L=0
   case neg=>
    have g1:(0:Int)<(L:Int):=by omega
    have HE:=Lib.hid (show (20:Int)=R by rw [←HR.out];refine Eq.symm ?_;exact one20 (.inr (.inr (.inl (stray_l (show ts.length≠0 by rw [HD.out.2.2.2.2];exact hL0) (show (3:Int)≠5 by decide))))))
    clear hL0
    go_enter Tryz.func135,Tryz.ntmps135
    go_wp2_with (first
     | (go_at_call 186;(with_reducible refine (HUv.out _).mono ?_);rintro e w2 ⟨rfl,rfl⟩)
     | (go_at_call 187;(with_reducible refine (HIn.out _).mono ?_);rintro e w4 ⟨rfl,hb4⟩)
     | (go_at_call 188;(with_reducible refine (HFl.out _).mono ?_);rintro e w5 ⟨rfl,rfl⟩))
    all_goals
     go_ret
     exact ⟨by rw [←HE.out];rfl,HX.out.1⟩
   subst hL0
   have hgo:=Lib.hid (one_go (t:=.mk 3 [] ml 0 0 ts) (fun h=>by
    have hs:=stray_no (t:=.mk 3 [] ml 0 0 ts) (.inl rfl) (.inr rfl) (.inl rfl) (.inl rfl) (.inl HD.out.2.2.2.2)
    rcases h with h | h | h | h | h
    ·exact absurd h (by show ¬(3:Int)<1;omega)
    ·exact absurd h (by show ¬(5:Int)<3;omega)
    ·rw [hs] at h;cases h
    ·exact absurd h (by show ¬(0:Int)<0;omega)
    ·exact absurd h (fun h=>absurd h.1 (show (3:Int)≠5 by decide))))
   cases U
   ·skip
    have HE:=Lib.hid (show (21:Int)=R by rw [←HR.out];refine Eq.symm ?_;exact hgo.out.trans (if_pos (.inl HD.out.1)))
    go_enter Tryz.func135,Tryz.ntmps135
    go_wp2_with (first
     | (go_at_call 186;(with_reducible refine (HUv.out _).mono ?_);rintro e w2 ⟨rfl,rfl⟩)
     | (go_at_call 187;(with_reducible refine (HIn.out _).mono ?_);rintro e w4 ⟨rfl,hb4⟩)
     | (go_at_call 188;(with_reducible refine (HFl.out _).mono ?_);rintro e w5 ⟨rfl,rfl⟩))
    all_goals
     go_ret
     exact ⟨by rw [←HE.out];rfl,HX.out.1⟩
   by_cases h1000:1000<N
   ·have h1I:(1000:Int)<(N:Int):=by omega
    have HE:=Lib.hid (show (21:Int)=R by rw [←HR.out];refine Eq.symm ?_;exact hgo.out.trans (if_pos (.inr (by show 1000<([]:List UInt8).length;rw [HD.out.2.1];exact h1000))))
    clear h1000
    go_enter Tryz.func135,Tryz.ntmps135
    go_wp2_with (first
     | (go_at_call 186;(with_reducible refine (HUv.out _).mono ?_);rintro e w2 ⟨rfl,rfl⟩)
     | (go_at_call 187;(with_reducible refine (HIn.out _).mono ?_);rintro e w4 ⟨rfl,hb4⟩)
     | (go_at_call 188;(with_reducible refine (HFl.out _).mono ?_);rintro e w5 ⟨rfl,rfl⟩))
    all_goals
     go_ret
     exact ⟨by rw [←HE.out];rfl,HX.out.1⟩
   have h1I:¬(1000:Int)<(N:Int):=by omega
   have h1J:(N:Int)≤1000:=by omega
   have HU2:=Lib.hid (show ¬(Lib.validD []=false∨1000<([]:List UInt8).length) from fun h=>by
    rcases h with h | h
    ·rw [HD.out.1] at h;cases h
    ·rw [HD.out.2.1] at h;exact h1000 h)
   clear h1000
   cases C
   ·skip
    have HE:=Lib.hid (show (22:Int)=R by rw [←HR.out];refine Eq.symm ?_;exact hgo.out.trans ((if_neg HU2.out).trans (if_pos ⟨rfl,HD.out.2.2.1⟩)))
    go_enter Tryz.func135,Tryz.ntmps135
    go_wp2_with (first
     | (go_at_call 186;(with_reducible refine (HUv.out _).mono ?_);rintro e w2 ⟨rfl,rfl⟩)
     | (go_at_call 187;(with_reducible refine (HIn.out _).mono ?_);rintro e w4 ⟨rfl,hb4⟩)
     | (go_at_call 188;(with_reducible refine (HFl.out _).mono ?_);rintro e w5 ⟨rfl,rfl⟩))
    all_goals
     go_ret
     exact ⟨by rw [←HE.out];rfl,HX.out.1.trans (hb4.mono HX.out.1.size)⟩
   ·skip
    have HE:=Lib.hid (show (0:Int)=R by rw [←HR.out];refine Eq.symm ?_;exact hgo.out.trans ((if_neg HU2.out).trans ((if_neg (fun h=>by have h2:=h.2;change canonB ml=false at h2;rw [HD.out.2.2.1] at h2;cases h2)).trans (if_neg (fun h=>absurd h.1 (show (3:Int)≠4 by decide))))))
    go_enter Tryz.func135,Tryz.ntmps135
    go_wp2_with (first
     | (go_at_call 186;(with_reducible refine (HUv.out _).mono ?_);rintro e w2 ⟨rfl,rfl⟩)
     | (go_at_call 187;(with_reducible refine (HIn.out _).mono ?_);rintro e w4 ⟨rfl,hb4⟩)
     | (go_at_call 188;(with_reducible refine (HFl.out _).mono ?_);rintro e w5 ⟨rfl,rfl⟩))
    all_goals
     go_ret
     exact ⟨by rw [←HE.out];rfl,HX.out.1.trans (hb4.mono HX.out.1.size)⟩
 ·skip
  by_cases hn0:nl = []
  case neg=>
   obtain ⟨e1,e2,e3⟩:=bytes_ne HM.out.1 hn0
   have HE:=Lib.hid (show (20:Int)=R by rw [←HR.out];refine Eq.symm ?_;exact one20 (.inr (.inr (.inl (stray_n hn0 (show (4:Int)≠2 by decide) (show (4:Int)≠5 by decide))))))
   clear hn0
   go_enter Tryz.func135,Tryz.ntmps135
   go_wp2_with (first
    | (go_at_call 186;(with_reducible refine (HUv.out _).mono ?_);rintro e w2 ⟨rfl,rfl⟩)
    | (go_at_call 187;(with_reducible refine (HIn.out _).mono ?_);rintro e w4 ⟨rfl,hb4⟩)
    | (go_at_call 188;(with_reducible refine (HFl.out _).mono ?_);rintro e w5 ⟨rfl,rfl⟩))
   all_goals
    go_ret
    exact ⟨by rw [←HE.out];rfl,HX.out.1⟩
  subst hn0
  obtain rfl:nb=⟨#[]⟩:=HM.out.1.symm
  by_cases hm0:ml = []
  case neg=>
   obtain ⟨f1,f2,f3⟩:=bytes_ne HM.out.2 hm0
   have HE:=Lib.hid (show (20:Int)=R by rw [←HR.out];refine Eq.symm ?_;exact one20 (.inr (.inr (.inl (stray_m hm0 (show (4:Int)≠3 by decide))))))
   clear hm0
   go_enter Tryz.func135,Tryz.ntmps135
   go_wp2_with (first
    | (go_at_call 186;(with_reducible refine (HUv.out _).mono ?_);rintro e w2 ⟨rfl,rfl⟩)
    | (go_at_call 187;(with_reducible refine (HIn.out _).mono ?_);rintro e w4 ⟨rfl,hb4⟩)
    | (go_at_call 188;(with_reducible refine (HFl.out _).mono ?_);rintro e w5 ⟨rfl,rfl⟩))
   all_goals
    go_ret
    exact ⟨by rw [←HE.out];rfl,HX.out.1⟩
  subst hm0
  obtain rfl:mb=⟨#[]⟩:=HM.out.2.symm
  by_cases hbz:b=0
  ·subst hbz
   by_cases hv0:v=0
   case neg=>
    have g1:(v != 0)=true:=by simpa using hv0
    have g2:¬v=0:=hv0
    have HE:=Lib.hid (show (20:Int)=R by rw [←HR.out];refine Eq.symm ?_;exact one20 (.inr (.inr (.inl (stray_v hv0 (show (4:Int)≠1 by decide))))))
    clear hv0
    go_enter Tryz.func135,Tryz.ntmps135
    go_wp2_with (first
     | (go_at_call 186;(with_reducible refine (HUv.out _).mono ?_);rintro e w2 ⟨rfl,rfl⟩)
     | (go_at_call 187;(with_reducible refine (HIn.out _).mono ?_);rintro e w4 ⟨rfl,hb4⟩)
     | (go_at_call 188;(with_reducible refine (HFl.out _).mono ?_);rintro e w5 ⟨rfl,rfl⟩))
    all_goals
     go_ret
     exact ⟨by rw [←HE.out];rfl,HX.out.1⟩
   subst hv0
   by_cases hL0:L=0
   case neg=>
    have g1:(0:Int)<(L:Int):=by omega
    have HE:=Lib.hid (show (20:Int)=R by rw [←HR.out];refine Eq.symm ?_;exact one20 (.inr (.inr (.inl (stray_l (show ts.length≠0 by rw [HD.out.2.2.2.2];exact hL0) (show (4:Int)≠5 by decide))))))
    clear hL0
    go_enter Tryz.func135,Tryz.ntmps135
    go_wp2_with (first
     | (go_at_call 186;(with_reducible refine (HUv.out _).mono ?_);rintro e w2 ⟨rfl,rfl⟩)
     | (go_at_call 187;(with_reducible refine (HIn.out _).mono ?_);rintro e w4 ⟨rfl,hb4⟩)
     | (go_at_call 188;(with_reducible refine (HFl.out _).mono ?_);rintro e w5 ⟨rfl,rfl⟩))
    all_goals
     go_ret
     exact ⟨by rw [←HE.out];rfl,HX.out.1⟩
   subst hL0
   have hgo:=Lib.hid (one_go (t:=.mk 4 [] [] 0 0 ts) (fun h=>by
    have hs:=stray_no (t:=.mk 4 [] [] 0 0 ts) (.inl rfl) (.inl rfl) (.inr rfl) (.inl rfl) (.inl HD.out.2.2.2.2)
    rcases h with h | h | h | h | h
    ·exact absurd h (by show ¬(4:Int)<1;omega)
    ·exact absurd h (by show ¬(5:Int)<4;omega)
    ·rw [hs] at h;cases h
    ·exact absurd h (by show ¬(0:Int)<0;omega)
    ·exact absurd h (fun h=>absurd h.1 (show (4:Int)≠5 by decide))))
   cases U
   ·skip
    have HE:=Lib.hid (show (21:Int)=R by rw [←HR.out];refine Eq.symm ?_;exact hgo.out.trans (if_pos (.inl HD.out.1)))
    go_enter Tryz.func135,Tryz.ntmps135
    go_wp2_with (first
     | (go_at_call 186;(with_reducible refine (HUv.out _).mono ?_);rintro e w2 ⟨rfl,rfl⟩)
     | (go_at_call 187;(with_reducible refine (HIn.out _).mono ?_);rintro e w4 ⟨rfl,hb4⟩)
     | (go_at_call 188;(with_reducible refine (HFl.out _).mono ?_);rintro e w5 ⟨rfl,rfl⟩))
    all_goals
     go_ret
     exact ⟨by rw [←HE.out];rfl,HX.out.1⟩
   by_cases h1000:1000<N
   ·have h1I:(1000:Int)<(N:Int):=by omega
    have HE:=Lib.hid (show (21:Int)=R by rw [←HR.out];refine Eq.symm ?_;exact hgo.out.trans (if_pos (.inr (by show 1000<([]:List UInt8).length;rw [HD.out.2.1];exact h1000))))
    clear h1000
    go_enter Tryz.func135,Tryz.ntmps135
    go_wp2_with (first
     | (go_at_call 186;(with_reducible refine (HUv.out _).mono ?_);rintro e w2 ⟨rfl,rfl⟩)
     | (go_at_call 187;(with_reducible refine (HIn.out _).mono ?_);rintro e w4 ⟨rfl,hb4⟩)
     | (go_at_call 188;(with_reducible refine (HFl.out _).mono ?_);rintro e w5 ⟨rfl,rfl⟩))
    all_goals
     go_ret
     exact ⟨by rw [←HE.out];rfl,HX.out.1⟩
   have h1I:¬(1000:Int)<(N:Int):=by omega
   have h1J:(N:Int)≤1000:=by omega
   have HU2:=Lib.hid (show ¬(Lib.validD []=false∨1000<([]:List UInt8).length) from fun h=>by
    rcases h with h | h
    ·rw [HD.out.1] at h;cases h
    ·rw [HD.out.2.1] at h;exact h1000 h)
   clear h1000
   cases F
   ·skip
    have HE:=Lib.hid (show (23:Int)=R by rw [←HR.out];refine Eq.symm ?_;exact hgo.out.trans ((if_neg HU2.out).trans ((if_neg (fun h=>absurd h.1 (show (4:Int)≠3 by decide))).trans (if_pos ⟨rfl,HD.out.2.2.2.1⟩))))
    go_enter Tryz.func135,Tryz.ntmps135
    go_wp2_with (first
     | (go_at_call 186;(with_reducible refine (HUv.out _).mono ?_);rintro e w2 ⟨rfl,rfl⟩)
     | (go_at_call 187;(with_reducible refine (HIn.out _).mono ?_);rintro e w4 ⟨rfl,hb4⟩)
     | (go_at_call 188;(with_reducible refine (HFl.out _).mono ?_);rintro e w5 ⟨rfl,rfl⟩))
    all_goals
     go_ret
     exact ⟨by rw [←HE.out];rfl,HX.out.1⟩
   ·skip
    have HE:=Lib.hid (show (0:Int)=R by rw [←HR.out];refine Eq.symm ?_;exact hgo.out.trans ((if_neg HU2.out).trans ((if_neg (fun h=>absurd h.1 (show (4:Int)≠3 by decide))).trans (if_neg (fun h=>by have h2:=h.2;change floB 0=false at h2;rw [HD.out.2.2.2.1] at h2;cases h2)))))
    go_enter Tryz.func135,Tryz.ntmps135
    go_wp2_with (first
     | (go_at_call 186;(with_reducible refine (HUv.out _).mono ?_);rintro e w2 ⟨rfl,rfl⟩)
     | (go_at_call 187;(with_reducible refine (HIn.out _).mono ?_);rintro e w4 ⟨rfl,hb4⟩)
     | (go_at_call 188;(with_reducible refine (HFl.out _).mono ?_);rintro e w5 ⟨rfl,rfl⟩))
    all_goals
     go_ret
     exact ⟨by rw [←HE.out];rfl,HX.out.1⟩
  ·have g8:(b != 0)=true:=by simpa using hbz
   have g9:¬b=0:=hbz
   clear hbz
   by_cases hv0:v=0
   case neg=>
    have g1:(v != 0)=true:=by simpa using hv0
    have g2:¬v=0:=hv0
    have HE:=Lib.hid (show (20:Int)=R by rw [←HR.out];refine Eq.symm ?_;exact one20 (.inr (.inr (.inl (stray_v hv0 (show (4:Int)≠1 by decide))))))
    clear hv0
    go_enter Tryz.func135,Tryz.ntmps135
    go_wp2_with (first
     | (go_at_call 186;(with_reducible refine (HUv.out _).mono ?_);rintro e w2 ⟨rfl,rfl⟩)
     | (go_at_call 187;(with_reducible refine (HIn.out _).mono ?_);rintro e w4 ⟨rfl,hb4⟩)
     | (go_at_call 188;(with_reducible refine (HFl.out _).mono ?_);rintro e w5 ⟨rfl,rfl⟩))
    all_goals
     go_ret
     exact ⟨by rw [←HE.out];rfl,HX.out.1⟩
   subst hv0
   by_cases hL0:L=0
   case neg=>
    have g1:(0:Int)<(L:Int):=by omega
    have HE:=Lib.hid (show (20:Int)=R by rw [←HR.out];refine Eq.symm ?_;exact one20 (.inr (.inr (.inl (stray_l (show ts.length≠0 by rw [HD.out.2.2.2.2];exact hL0) (show (4:Int)≠5 by decide))))))
    clear hL0
    go_enter Tryz.func135,Tryz.ntmps135
    go_wp2_with (first
     | (go_at_call 186;(with_reducible refine (HUv.out _).mono ?_);rintro e w2 ⟨rfl,rfl⟩)
     | (go_at_call 187;(with_reducible refine (HIn.out _).mono ?_);rintro e w4 ⟨rfl,hb4⟩)
     | (go_at_call 188;(with_reducible refine (HFl.out _).mono ?_);rintro e w5 ⟨rfl,rfl⟩))
    all_goals
     go_ret
     exact ⟨by rw [←HE.out];rfl,HX.out.1⟩
   subst hL0
   have hgo:=Lib.hid (one_go (t:=.mk 4 [] [] b 0 ts) (fun h=>by
    have hs:=stray_no (t:=.mk 4 [] [] b 0 ts) (.inl rfl) (.inl rfl) (.inr rfl) (.inl rfl) (.inl HD.out.2.2.2.2)
    rcases h with h | h | h | h | h
    ·exact absurd h (by show ¬(4:Int)<1;omega)
    ·exact absurd h (by show ¬(5:Int)<4;omega)
    ·rw [hs] at h;cases h
    ·exact absurd h (by show ¬(0:Int)<0;omega)
    ·exact absurd h (fun h=>absurd h.1 (show (4:Int)≠5 by decide))))
   cases U
   ·skip
    have HE:=Lib.hid (show (21:Int)=R by rw [←HR.out];refine Eq.symm ?_;exact hgo.out.trans (if_pos (.inl HD.out.1)))
    go_enter Tryz.func135,Tryz.ntmps135
    go_wp2_with (first
     | (go_at_call 186;(with_reducible refine (HUv.out _).mono ?_);rintro e w2 ⟨rfl,rfl⟩)
     | (go_at_call 187;(with_reducible refine (HIn.out _).mono ?_);rintro e w4 ⟨rfl,hb4⟩)
     | (go_at_call 188;(with_reducible refine (HFl.out _).mono ?_);rintro e w5 ⟨rfl,rfl⟩))
    all_goals
     go_ret
     exact ⟨by rw [←HE.out];rfl,HX.out.1⟩
   by_cases h1000:1000<N
   ·have h1I:(1000:Int)<(N:Int):=by omega
    have HE:=Lib.hid (show (21:Int)=R by rw [←HR.out];refine Eq.symm ?_;exact hgo.out.trans (if_pos (.inr (by show 1000<([]:List UInt8).length;rw [HD.out.2.1];exact h1000))))
    clear h1000
    go_enter Tryz.func135,Tryz.ntmps135
    go_wp2_with (first
     | (go_at_call 186;(with_reducible refine (HUv.out _).mono ?_);rintro e w2 ⟨rfl,rfl⟩)
     | (go_at_call 187;(with_reducible refine (HIn.out _).mono ?_);rintro e w4 ⟨rfl,hb4⟩)
     | (go_at_call 188;(with_reducible refine (HFl.out _).mono ?_);rintro e w5 ⟨rfl,rfl⟩))
    all_goals
     go_ret
     exact ⟨by rw [←HE.out];rfl,HX.out.1⟩
   have h1I:¬(1000:Int)<(N:Int):=by omega
   have h1J:(N:Int)≤1000:=by omega
   have HU2:=Lib.hid (show ¬(Lib.validD []=false∨1000<([]:List UInt8).length) from fun h=>by
    rcases h with h | h
    ·rw [HD.out.1] at h;cases h
    ·rw [HD.out.2.1] at h;exact h1000 h)
   clear h1000
   cases F
   ·skip
    have HE:=Lib.hid (show (23:Int)=R by rw [←HR.out];refine Eq.symm ?_;exact hgo.out.trans ((if_neg HU2.out).trans ((if_neg (fun h=>absurd h.1 (show (4:Int)≠3 by decide))).trans (if_pos ⟨rfl,HD.out.2.2.2.1⟩))))
    go_enter Tryz.func135,Tryz.ntmps135
    go_wp2_with (first
     | (go_at_call 186;(with_reducible refine (HUv.out _).mono ?_);rintro e w2 ⟨rfl,rfl⟩)
     | (go_at_call 187;(with_reducible refine (HIn.out _).mono ?_);rintro e w4 ⟨rfl,hb4⟩)
     | (go_at_call 188;(with_reducible refine (HFl.out _).mono ?_);rintro e w5 ⟨rfl,rfl⟩))
    all_goals
     go_ret
     exact ⟨by rw [←HE.out];rfl,HX.out.1⟩
   ·skip
    have HE:=Lib.hid (show (0:Int)=R by rw [←HR.out];refine Eq.symm ?_;exact hgo.out.trans ((if_neg HU2.out).trans ((if_neg (fun h=>absurd h.1 (show (4:Int)≠3 by decide))).trans (if_neg (fun h=>by have h2:=h.2;change floB b=false at h2;rw [HD.out.2.2.2.1] at h2;cases h2)))))
    go_enter Tryz.func135,Tryz.ntmps135
    go_wp2_with (first
     | (go_at_call 186;(with_reducible refine (HUv.out _).mono ?_);rintro e w2 ⟨rfl,rfl⟩)
     | (go_at_call 187;(with_reducible refine (HIn.out _).mono ?_);rintro e w4 ⟨rfl,hb4⟩)
     | (go_at_call 188;(with_reducible refine (HFl.out _).mono ?_);rintro e w5 ⟨rfl,rfl⟩))
    all_goals
     go_ret
     exact ⟨by rw [←HE.out];rfl,HX.out.1⟩
 ·skip
  by_cases hm0:ml = []
  case neg=>
   obtain ⟨f1,f2,f3⟩:=bytes_ne HM.out.2 hm0
   have HE:=Lib.hid (show (20:Int)=R by rw [←HR.out];refine Eq.symm ?_;exact one20 (.inr (.inr (.inl (stray_m hm0 (show (5:Int)≠3 by decide))))))
   clear hm0
   go_enter Tryz.func135,Tryz.ntmps135
   go_wp2_with (first
    | (go_at_call 186;(with_reducible refine (HUv.out _).mono ?_);rintro e w2 ⟨rfl,rfl⟩)
    | (go_at_call 187;(with_reducible refine (HIn.out _).mono ?_);rintro e w4 ⟨rfl,hb4⟩)
    | (go_at_call 188;(with_reducible refine (HFl.out _).mono ?_);rintro e w5 ⟨rfl,rfl⟩))
   all_goals
    go_ret
    exact ⟨by rw [←HE.out];rfl,HX.out.1⟩
  subst hm0
  obtain rfl:mb=⟨#[]⟩:=HM.out.2.symm
  by_cases hb0:b=0
  case neg=>
   have g1:(b != 0)=true:=by simpa using hb0
   have g2:¬b=0:=hb0
   have HE:=Lib.hid (show (20:Int)=R by rw [←HR.out];refine Eq.symm ?_;exact one20 (.inr (.inr (.inl (stray_b hb0 (show (5:Int)≠4 by decide))))))
   clear hb0
   go_enter Tryz.func135,Tryz.ntmps135
   go_wp2_with (first
    | (go_at_call 186;(with_reducible refine (HUv.out _).mono ?_);rintro e w2 ⟨rfl,rfl⟩)
    | (go_at_call 187;(with_reducible refine (HIn.out _).mono ?_);rintro e w4 ⟨rfl,hb4⟩)
    | (go_at_call 188;(with_reducible refine (HFl.out _).mono ?_);rintro e w5 ⟨rfl,rfl⟩))
   all_goals
    go_ret
    exact ⟨by rw [←HE.out];rfl,HX.out.1⟩
  subst hb0
  by_cases hv0:v=0
  case neg=>
   have g1:(v != 0)=true:=by simpa using hv0
   have g2:¬v=0:=hv0
   have HE:=Lib.hid (show (20:Int)=R by rw [←HR.out];refine Eq.symm ?_;exact one20 (.inr (.inr (.inl (stray_v hv0 (show (5:Int)≠1 by decide))))))
   clear hv0
   go_enter Tryz.func135,Tryz.ntmps135
   go_wp2_with (first
    | (go_at_call 186;(with_reducible refine (HUv.out _).mono ?_);rintro e w2 ⟨rfl,rfl⟩)
    | (go_at_call 187;(with_reducible refine (HIn.out _).mono ?_);rintro e w4 ⟨rfl,hb4⟩)
    | (go_at_call 188;(with_reducible refine (HFl.out _).mono ?_);rintro e w5 ⟨rfl,rfl⟩))
   all_goals
    go_ret
    exact ⟨by rw [←HE.out];rfl,HX.out.1⟩
  subst hv0
  by_cases hL0:L=0
  ·subst hL0
   have HE:=Lib.hid (show (20:Int)=R by rw [←HR.out];refine Eq.symm ?_;exact one20 (.inr (.inr (.inr (.inr ⟨rfl,.inl HD.out.2.2.2.2⟩)))))
   go_enter Tryz.func135,Tryz.ntmps135
   go_wp2_with (first
    | (go_at_call 186;(with_reducible refine (HUv.out _).mono ?_);rintro e w2 ⟨rfl,rfl⟩)
    | (go_at_call 187;(with_reducible refine (HIn.out _).mono ?_);rintro e w4 ⟨rfl,hb4⟩)
    | (go_at_call 188;(with_reducible refine (HFl.out _).mono ?_);rintro e w5 ⟨rfl,rfl⟩))
   all_goals
    go_ret
    exact ⟨by rw [←HE.out];rfl,HX.out.1⟩
  by_cases hL6:64<L
  ·have g1:(64:Int)<(L:Int):=by omega
   have g2:¬(L:Int)=0:=by omega
   have g3:(0:Int)<(L:Int):=by omega
   have HE:=Lib.hid (show (20:Int)=R by rw [←HR.out];refine Eq.symm ?_;exact one20 (.inr (.inr (.inr (.inr ⟨rfl,.inr (by show 64<ts.length;rw [HD.out.2.2.2.2];exact hL6)⟩)))))
   clear hL0 hL6
   go_enter Tryz.func135,Tryz.ntmps135
   go_wp2_with (first
    | (go_at_call 186;(with_reducible refine (HUv.out _).mono ?_);rintro e w2 ⟨rfl,rfl⟩)
    | (go_at_call 187;(with_reducible refine (HIn.out _).mono ?_);rintro e w4 ⟨rfl,hb4⟩)
    | (go_at_call 188;(with_reducible refine (HFl.out _).mono ?_);rintro e w5 ⟨rfl,rfl⟩))
   all_goals
    go_ret
    exact ⟨by rw [←HE.out];rfl,HX.out.1⟩
  have g1:(L:Int)≤64:=by omega
  have g2:¬(L:Int)=0:=by omega
  have g3:(0:Int)<(L:Int):=by omega
  have g4:¬L=0:=by omega
  have g5:L≤64:=by omega
  have g6:((L:Int)==0)=false:=beq_eq_false_iff_ne.2 g2
  have g7:decide (64<L)=false:=decide_eq_false (by omega)
  have g8:(L==0)=false:=beq_eq_false_iff_ne.2 g4
  have hgo:=Lib.hid (one_go (t:=.mk 5 nl [] 0 0 ts) (fun h=>by
   have hs:=stray_no (t:=.mk 5 nl [] 0 0 ts) (.inr (.inr rfl)) (.inl rfl) (.inl rfl) (.inl rfl) (.inr rfl)
   rcases h with h | h | h | h | h
   ·exact absurd h (by show ¬(5:Int)<1;omega)
   ·exact absurd h (by show ¬(5:Int)<5;omega)
   ·rw [hs] at h;cases h
   ·exact absurd h (by show ¬(0:Int)<0;omega)
   ·exact absurd h (fun h=>by have:=h.2;have e:=HD.out.2.2.2.2;change ts.length=0∨64<ts.length at this;rw [e] at this;omega)))
  clear hL0 hL6
  cases U
  ·skip
   have HE:=Lib.hid (show (21:Int)=R by rw [←HR.out];refine Eq.symm ?_;exact hgo.out.trans (if_pos (.inl HD.out.1)))
   go_enter Tryz.func135,Tryz.ntmps135
   go_wp2_with (first
    | (go_at_call 186;(with_reducible refine (HUv.out _).mono ?_);rintro e w2 ⟨rfl,rfl⟩)
    | (go_at_call 187;(with_reducible refine (HIn.out _).mono ?_);rintro e w4 ⟨rfl,hb4⟩)
    | (go_at_call 188;(with_reducible refine (HFl.out _).mono ?_);rintro e w5 ⟨rfl,rfl⟩))
   all_goals
    go_ret
    exact ⟨by rw [←HE.out];rfl,HX.out.1⟩
  by_cases h1000:1000<N
  ·have h1I:(1000:Int)<(N:Int):=by omega
   have HE:=Lib.hid (show (21:Int)=R by rw [←HR.out];refine Eq.symm ?_;exact hgo.out.trans (if_pos (.inr (by show 1000<(nl:List UInt8).length;rw [HD.out.2.1];exact h1000))))
   clear h1000
   go_enter Tryz.func135,Tryz.ntmps135
   go_wp2_with (first
    | (go_at_call 186;(with_reducible refine (HUv.out _).mono ?_);rintro e w2 ⟨rfl,rfl⟩)
    | (go_at_call 187;(with_reducible refine (HIn.out _).mono ?_);rintro e w4 ⟨rfl,hb4⟩)
    | (go_at_call 188;(with_reducible refine (HFl.out _).mono ?_);rintro e w5 ⟨rfl,rfl⟩))
   all_goals
    go_ret
    exact ⟨by rw [←HE.out];rfl,HX.out.1⟩
  have h1I:¬(1000:Int)<(N:Int):=by omega
  have h1J:(N:Int)≤1000:=by omega
  have HU2:=Lib.hid (show ¬(Lib.validD nl=false∨1000<(nl:List UInt8).length) from fun h=>by
   rcases h with h | h
   ·rw [HD.out.1] at h;cases h
   ·rw [HD.out.2.1] at h;exact h1000 h)
  clear h1000
  have HE:=Lib.hid (show (0:Int)=R by rw [←HR.out];refine Eq.symm ?_;exact hgo.out.trans ((if_neg HU2.out).trans ((if_neg (fun h=>absurd h.1 (show (5:Int)≠3 by decide))).trans (if_neg (fun h=>absurd h.1 (show (5:Int)≠4 by decide))))))
  go_enter Tryz.func135,Tryz.ntmps135
  go_wp2_with (first
   | (go_at_call 186;(with_reducible refine (HUv.out _).mono ?_);rintro e w2 ⟨rfl,rfl⟩)
   | (go_at_call 187;(with_reducible refine (HIn.out _).mono ?_);rintro e w4 ⟨rfl,hb4⟩)
   | (go_at_call 188;(with_reducible refine (HFl.out _).mono ?_);rintro e w5 ⟨rfl,rfl⟩))
  all_goals
   go_ret
   exact ⟨by rw [←HE.out];rfl,HX.out.1⟩
end
end Go.Proofs.YtjpnmmjgdiiahaaGreatDoor
namespace Ht
namespace Tm
end Tm
section
end
end Ht
namespace Ht
end Ht
namespace Go.Proofs.YtjpnmmjgdiiahaaGreatDoor
section
open Go.RowKit Hb Ht
def RCountOk (t:Tm):Prop:=∀ (w:World) (sl:Value) (n:Nat),TAt w w.heap.size t sl→n≤4000→Calls Tryz.prog 30 #[valT t sl,.int .i64 (n:Int)] w fun e w'=>e = .returned (.int .i64 (cnt t n:Nat))∧Below w.heap.size w w'
set_option maxRecDepth 100000 in
set_option maxHeartbeats 4000000 in
theorem rcount_any (t:Tm):RCountOk t:=by
 refine Tm.ind (p:=RCountOk) (fun k nl ml b v ts ih=>?_) t
 intro w sl n h hn
 obtain ⟨A,c,rfl,hl1,hl2,hl3⟩:=h.slice
 obtain ⟨nb,hnb⟩:∃ nb:ByteArray,(⟨nl.toArray⟩:ByteArray)=nb:=⟨_,rfl⟩
 obtain ⟨mb,hmb⟩:∃ mb:ByteArray,(⟨ml.toArray⟩:ByteArray)=mb:=⟨_,rfl⟩
 obtain ⟨L,hL⟩:∃ L,ts.length=L:=⟨_,rfl⟩
 change ts.length≤c at hl1
 change ts.length≤maxArgs at hl3
 change TAt w w.heap.size (.mk k nl ml b v ts) (.slice A ts.length c) at h
 change Calls Tryz.prog 30 #[valT _ (.slice A ts.length c),_] w _
 rw [valT_mk hnb hmb]
 rw [hL] at h hl1 hl3 ⊢
 obtain ⟨R,hR⟩:∃ R,cnt (.mk k nl ml b v ts) n=R:=⟨_,rfl⟩
 rw [hR]
 have hRs:cnts ts (n+1)=R:=by rw [←hR];rfl
 have HIH:=Lib.hid ih
 have HT:=Lib.hid h
 have HL:=Lib.hid (And.intro hL hRs)
 have hLI:(L:Int)≤1759218604400:=by unfold maxArgs at hl3;omega
 have hX:=TBox.new (ts:=ts) w (k:=k) (b:=b) (v:=v) (sl:=.slice A L c) hnb hmb
 have hB:=Lib.hid (show Below w.heap.size w (w.alloc (.cells #[.int .i64 k,.string nb,.string mb,.int .u64 b,.int .i64 v,.slice A L c] 25)) from (Below.refl _ _).alloc (Nat.le_refl _) _)
 obtain ⟨x0,x1,x2,x3,x4,x5⟩:=hX.cells hnb hmb
 have HX:=Lib.hid hX
 have HM:=Lib.hid (And.intro hnb hmb)
 clear ih h hR hRs hL hnb hmb hX
 go_enter Tryz.func30,Tryz.ntmps30
 go_upto_region 3 with fail
 obtain ⟨W1,hW1⟩:∃ W1,w.alloc (.cells #[.int .i64 k,.string nb,.string mb,.int .u64 b,.int .i64 v,.slice A L c] 25)=W1:=⟨_,rfl⟩
 rw [hW1] at hB HX x0 x1 x2 x3 x4 x5 ⊢
 have HT1:=Lib.hid (HT.out.to hB.out hB.out.size)
 clear hW1 x0 x1 x2 x3 x4 x5
 go_loopw [1,5] (fun v1 v5 wr=>∃ x i:Nat,v1 = .int .i64 (x:Int)∧v5 = .int .i64 (i:Int)∧i≤L∧x≤4001∧Hid (cnts (ts.drop i) x=R∧Below W1.heap.size W1 wr)) (fun _ v5 _=>((L:Int) - intOf v5).toNat)
 case atStart=>exact ⟨n+1,0,rfl,rfl,Nat.zero_le _,by omega,Lib.hid ⟨HL.out.2,Below.refl _ _⟩⟩
 case round=>
  obtain ⟨x,i,rfl,rfl,hi,hx,HI⟩:=hrel
  have hXr:=HX.out.below HI.out.2
  obtain ⟨x0,x1,x2,x3,x4,x5⟩:=hXr.cells HM.out.1 HM.out.2
  clear hXr
  by_cases hlt:i<L
  ·have hltI:(i:Int)<(L:Int):=by omega
   have hi0:(0:Int)≤(i:Int):=by omega
   have hil:i<ts.length:=by rw [HL.out.1];exact hlt
   obtain ⟨a,ha⟩:∃ a,ts[i]?=some a:=⟨_,List.getElem?_eq_getElem hil⟩
   have hTr:=(HT1.out.to HI.out.2 HI.out.2.size)
   obtain ⟨g,o,rfl,hgB,helt⟩:=hTr.arg ha
   obtain ⟨A',c',k',n',m',b',v',ts',nb',mb',rfl,hnb',hmb',hta,e0,e1,e2,e3,e4,e5⟩:=EltAt.cells helt
   have hd:ts.drop i = .mk k' n' m' b' v' ts' :: ts.drop (i+1):=by rw [List.drop_eq_getElem_cons hil,←List.getElem?_eq_some_iff.1 ha |>.2]
   have HC:=Lib.hid (HIH.out _ (List.mem_of_getElem? ha))
   have HN:=Lib.hid (And.intro hnb' hmb')
   have HTA:=Lib.hid hta
   have HLT:=Lib.hid hlt
   have HD:=Lib.hid hd
   clear hTr helt hta hnb' hmb' ha hil hlt hd hi
   by_cases hbig:4000<x
   ·have hbI:¬(x:Int)≤4000:=by omega
    have HE:=Lib.hid (show x=R from by
     have h9:=HI.out.1
     rw [HD.out,cnts,if_pos hbig] at h9
     exact h9)
    have HB2:=Lib.hid HI.out.2
    clear hbig
    go_wp2
    go_ret
    exact ⟨by rw [HE.out];rfl,hB.out.trans (HB2.out.mono hB.out.size)⟩
   ·have hbI:(x:Int)≤4000:=by omega
    have HE:=Lib.hid (show cnts (ts.drop (i+1)) (cnt (.mk k' n' m' b' v' ts') x)=R from by
     have h9:=HI.out.1
     rw [HD.out,cnts,if_neg hbig] at h9
     exact h9)
    have HCl:=Lib.hid (HC.out wr (.slice A' ts'.length c') x HTA.out (by omega))
    rw [valT_mk HN.out.1 HN.out.2] at HCl
    have HSm:=Lib.hid (cnt_small (.mk k' n' m' b' v' ts') x (by omega))
    have HB2:=Lib.hid HI.out.2
    generalize cnt (.mk k' n' m' b' v' ts') x=z at *
    clear hbig
    go_wp2_with (go_at_call 30;(with_reducible refine HCl.out.mono ?_);rintro e w' ⟨rfl,hb3⟩;have HB3:=Lib.hid (HB2.out.trans (hb3.mono HB2.out.size));clear hb3)
    go_roundw
    case rel=>exact ⟨z,i+1,rfl,rfl,HLT.out,HSm.out,Lib.hid ⟨HE.out,HB3.out⟩⟩
    case measure=>
     have:=HLT.out
     show ((L:Int) - ((i:Int)+1)).toNat<((L:Int) - (i:Int)).toNat
     omega
  ·have ei:i=L:=by omega
   subst ei
   have HE:=Lib.hid (show x=R∧Below W1.heap.size W1 wr from by
    have h9:=HI.out
    rw [List.drop_of_length_le (by rw [HL.out.1];exact Nat.le_refl _)] at h9
    exact h9)
   clear hlt hi
   go_wp2
   go_ret
   exact ⟨by rw [HE.out.1];rfl,hB.out.trans (HE.out.2.mono hB.out.size)⟩
set_option maxRecDepth 100000 in
set_option maxHeartbeats 4000000 in
theorem rNodes_any {w:World} {t:Tm} {sl:Value} (h:TAt w w.heap.size t sl):Calls Tryz.prog 12 #[valT t sl] w fun e w'=>e = .returned (.int .i64 (nodes t:Nat))∧Below w.heap.size w w':=by
 obtain ⟨k,nl,ml,b,v,ts,nb,mb,A,c,rfl,rfl,hnb,hmb,hl1,hl2,hl3,hv,hs1,hs2⟩:=h.letters
 have hc:=rcount_any (.mk k nl ml b v ts) (w.alloc (.cells #[.int .i64 k,.string nb,.string mb,.int .u64 b,.int .i64 v,.slice A ts.length c] 25)) (.slice A ts.length c) 0 (h.boxed _) (by omega)
 have hR:nodes (.mk k nl ml b v ts)=min (cnt (.mk k nl ml b v ts) 0) 4001:=rfl
 have hsm:=cnt_small (.mk k nl ml b v ts) 0 (by omega)
 rw [hv,show ((0:Nat):Int)=0 from rfl] at hc
 rw [hv,hR]
 generalize cnt (.mk k nl ml b v ts) 0=z at *
 rw [show min z 4001=z by omega]
 have HC:=Lib.hid hc
 have hX:=TBox.new (ts:=ts) w (k:=k) (b:=b) (v:=v) (sl:=.slice A ts.length c) hnb hmb
 have HB:=Lib.hid (show Below w.heap.size w (w.alloc (.cells #[.int .i64 k,.string nb,.string mb,.int .u64 b,.int .i64 v,.slice A ts.length c] 25)) from (Below.refl _ _).alloc (Nat.le_refl _) _)
 obtain ⟨x0,x1,x2,x3,x4,x5⟩:=hX.cells hnb hmb
 have hzI:(z:Int)≤4001:=by omega
 clear hc h hv hR hX
 go_enter Tryz.func12,Tryz.ntmps12
 go_upto_region 2 with (go_at_call 30;(with_reducible refine HC.out.mono ?_);rintro e w' ⟨rfl,hb3⟩;have HB3:=Lib.hid (HB.out.trans (hb3.mono HB.out.size));clear hb3)
 by_cases hz:4000<z
 ·have hz1:z=4001:=by omega
  subst hz1
  go_wp2
  go_ret
  exact ⟨rfl,HB3.out⟩
 ·have hzI:¬(4000:Int)<(z:Int):=by omega
  go_wp2
  go_ret
  exact ⟨rfl,HB3.out⟩
end
end Go.Proofs.YtjpnmmjgdiiahaaGreatDoor
namespace Ht
mutual
def Fits:Tm→Prop
 | .mk _ n _ _ _ ts=>n.length≤4611686018427387904∧Fitss ts
def Fitss:List Tm→Prop
 | []=>True
 | a :: ts=>Fits a∧Fitss ts
end
theorem Fitss.iff:∀ {ts:List Tm},Fitss ts↔∀ a∈ts,Fits a
 | []=>by simp [Fitss]
 | a :: ts=>by rw [Fitss,Fitss.iff (ts:=ts)];simp
theorem Fits.iff {t:Tm} : Fits t↔t.n.length≤4611686018427387904∧∀ a∈t.as,Fits a:=by
 obtain ⟨k,n,m,b,v,ts⟩:=t
 rw [Fits,Fitss.iff]
 rfl
end Ht
namespace Go.Proofs.YtjpnmmjgdiiahaaGreatDoor
section
open Go.ChangeShapes Go.WideShapes Go.ChangeAt Go.RowKit Go.Joins Go.Deep Hb Ht
section
end
end
section
open Go.RowKit Hb Ht
attribute [local go_sem] Oper.semAt_some
def RAllOk (t:Tm):Prop:=∀ (w:World) (sl:Value),TAt w w.heap.size t sl→Fits t→Calls Tryz.prog 49 #[valT t sl] w fun e w'=>e = .returned (.int .i64 (errsP t))∧Below w.heap.size w w'
set_option maxRecDepth 100000 in
set_option maxHeartbeats 8000000 in
theorem rall_any (t:Tm):RAllOk t:=by
 refine Tm.ind (p:=RAllOk) (fun k nl ml b v ts ih=>?_) t
 intro w sl h hFit
 obtain ⟨A,c,rfl,hl1,hl2,hl3⟩:=h.slice
 obtain ⟨nb,hnb⟩:∃ nb:ByteArray,(⟨nl.toArray⟩:ByteArray)=nb:=⟨_,rfl⟩
 obtain ⟨mb,hmb⟩:∃ mb:ByteArray,(⟨ml.toArray⟩:ByteArray)=mb:=⟨_,rfl⟩
 obtain ⟨L,hL⟩:∃ L,ts.length=L:=⟨_,rfl⟩
 change ts.length≤c at hl1
 change ts.length≤maxArgs at hl3
 change TAt w w.heap.size (.mk k nl ml b v ts) (.slice A ts.length c) at h
 change Calls Tryz.prog 49 #[valT _ (.slice A ts.length c)] w _
 have hNd:=fun w1 (hb:Below w.heap.size w w1)=>rone_any (h.to hb hb.size) (Fits.iff.1 hFit).1
 simp only [valT_mk hnb hmb] at hNd
 rw [valT_mk hnb hmb]
 rw [hL] at h hl1 hl3 hNd ⊢
 obtain ⟨R,hR⟩:∃ R,errsP (.mk k nl ml b v ts)=R:=⟨_,rfl⟩
 obtain ⟨R0,hR0⟩:∃ R0,oneP (.mk k nl ml b v ts)=R0:=⟨_,rfl⟩
 rw [hR]
 have HR:=Lib.hid (show (R0≠0→R0=R)∧(R0=0→errss Lib.validD canonB floB ts=R) from by
  have h9:(if oneP (.mk k nl ml b v ts)≠0 then oneP (.mk k nl ml b v ts) else errss Lib.validD canonB floB ts)=R:=hR
  rw [hR0] at h9
  by_cases h0:R0=0
  ·rw [if_neg (by simp [h0])] at h9;exact ⟨fun h=>absurd h0 h,fun _=>h9⟩
  ·rw [if_pos h0] at h9;exact ⟨fun _=>h9,fun h=>absurd h h0⟩)
 have HNd:=Lib.hid hNd
 rw [hR0] at HNd
 have HIH:=Lib.hid (And.intro ih (Fits.iff.1 hFit).2)
 have HT:=Lib.hid h
 have HL:=Lib.hid hL
 have HM:=Lib.hid (And.intro hnb hmb)
 have hLI:(L:Int)≤1759218604400:=by unfold maxArgs at hl3;omega
 obtain ⟨W1,hW1⟩:∃ W1,w.alloc (.cells #[.int .i64 k,.string nb,.string mb,.int .u64 b,.int .i64 v,.slice A L c] 25)=W1:=⟨_,rfl⟩
 have hb1:Below w.heap.size w W1:=by rw [←hW1];exact (Below.refl _ _).alloc (Nat.le_refl _) _
 have hX:=TBox.new (ts:=ts) w (k:=k) (b:=b) (v:=v) (sl:=.slice A L c) hnb hmb
 rw [hW1] at hX
 obtain ⟨x0,x1,x2,x3,x4,x5⟩:=hX.cells hnb hmb
 have HB:=Lib.hid (And.intro hb1 hX)
 subst hW1
 clear ih h hR hR0 hL hnb hmb hX hb1 hNd hFit
 go_enter Tryz.func49,Tryz.ntmps49
 go_wp2_with fail
 (with_reducible refine (HNd.out _ HB.out.1).mono ?_)
 rintro e w2 ⟨rfl,hb2⟩
 have HB2:=Lib.hid (And.intro (HB.out.1.trans (hb2.mono HB.out.1.size)) (HB.out.2.below hb2))
 clear hb2 x0 x1 x2 x3 x4 x5 HNd
 go_upto_region 3 with fail
 go_loopw [3,4] (fun v3 v4 wr=>∃ (i:Nat) (E:Int),v3 = .int .i64 E∧v4 = .int .i64 (i:Int)∧i≤L∧Hid ((E≠0→E=R)∧(E=0→errss Lib.validD canonB floB (ts.drop i)=R)∧Below w.heap.size w wr∧TBox wr w.heap.size (.mk k nl ml b v ts) (.slice A L c))) (fun _ v4 _=>((L:Int) - intOf v4).toNat)
 case atStart=>exact ⟨0,R0,rfl,rfl,Nat.zero_le _,Lib.hid ⟨HR.out.1,HR.out.2,HB2.out.1,HB2.out.2⟩⟩
 case round=>
  obtain ⟨i,E,rfl,rfl,hi,HI⟩:=hrel
  obtain ⟨x0,x1,x2,x3,x4,x5⟩:=HI.out.2.2.2.cells HM.out.1 HM.out.2
  by_cases hlt:i<L
  ·have hltI:(i:Int)<(L:Int):=by omega
   have hi0:(0:Int)≤(i:Int):=by omega
   by_cases h0:E=0
   ·subst h0
    have hil:i<ts.length:=by rw [HL.out];exact hlt
    obtain ⟨a,ha⟩:∃ a,ts[i]?=some a:=⟨_,List.getElem?_eq_getElem hil⟩
    obtain ⟨g,o,rfl,hgB,helt⟩:=(HT.out.to HI.out.2.2.1 HI.out.2.2.1.size).arg ha
    have HD:=Lib.hid (errss_drop ha (HI.out.2.1 rfl))
    obtain ⟨A',c',k',n',m',b',v',ts',nb',mb',rfl,hnb',hmb',hta,e0,e1,e2,e3,e4,e5⟩:=EltAt.cells helt
    obtain ⟨q,hq⟩:∃ q,ts'.length=q:=⟨_,rfl⟩
    have hC:=HIH.out.1 _ (List.mem_of_getElem? ha) wr _ hta (HIH.out.2 _ (List.mem_of_getElem? ha))
    rw [valT_mk hnb' hmb',hq] at hC
    obtain ⟨R1,hR1⟩:∃ R1,errsP (.mk k' n' m' b' v' ts')=R1:=⟨_,rfl⟩
    rw [hR1] at hC HD
    have HC:=Lib.hid hC
    have HLT:=Lib.hid hlt
    rw [hq] at e5
    clear helt hta hnb' hmb' ha hil hlt hi hq hC hR1
    go_wp2_with (go_at_call 49;(with_reducible refine HC.out.mono ?_);rintro e w' ⟨rfl,hb4⟩;have HB4:=Lib.hid (And.intro (HI.out.2.2.1.trans (hb4.mono HI.out.2.2.1.size)) (HI.out.2.2.2.below hb4));clear hb4)
    refine ⟨⟨i+1,R1,rfl,rfl,HLT.out,Lib.hid ⟨HD.out.1,HD.out.2,HB4.out.1,HB4.out.2⟩⟩,?_⟩
    have:=HLT.out
    show ((L:Int) - ((i:Int)+1)).toNat<((L:Int) - (i:Int)).toNat
    omega
   ·have h0b:(E==0)=false:=beq_eq_false_iff_ne.2 h0
    have HE:=Lib.hid (HI.out.1 h0)
    clear h0 hlt hi
    go_wp2
    go_ret
    exact ⟨by rw [←HE.out];rfl,HI.out.2.2.1⟩
  ·have ei:i=L:=by omega
   subst ei
   have HE:=Lib.hid (show E=R from by
    by_cases h0:E=0
    ·have h9:=HI.out.2.1 h0
     rw [List.drop_of_length_le (by rw [HL.out];exact Nat.le_refl _)] at h9
     rw [h0];exact h9
    ·exact HI.out.1 h0)
   clear hlt hi
   go_wp2
   go_ret
   exact ⟨by rw [←HE.out];rfl,HI.out.2.2.1⟩
set_option maxRecDepth 100000 in
set_option maxHeartbeats 2000000 in
theorem rCheck_any {w:World} {t:Tm} {sl:Value} (h:TAt w w.heap.size t sl) (hf:Fits t):Calls Tryz.prog 27 #[valT t sl] w fun e w'=>e = .returned (.int .i64 (checkP t))∧Below w.heap.size w w':=by
 obtain ⟨k,nl,ml,b,v,ts,nb,mb,A,c,rfl,rfl,hnb,hmb,hl1,hl2,hl3,hv,hs1,hs2⟩:=h.letters
 have hb1:Below w.heap.size w (w.alloc (.cells #[.int .i64 k,.string nb,.string mb,.int .u64 b,.int .i64 v,.slice A ts.length c] 25)):=(Below.refl _ _).alloc (Nat.le_refl _) _
 have HC:=Lib.hid (rNodes_any (h.to hb1 hb1.size))
 have HN:=Lib.hid (fun w2 (hb:Below _ (w.alloc (.cells #[.int .i64 k,.string nb,.string mb,.int .u64 b,.int .i64 v,.slice A ts.length c] 25)) w2)=>rall_any (.mk k nl ml b v ts) w2 (.slice A ts.length c) ((h.to hb1 hb1.size).to hb hb.size) hf)
 rw [hv] at HC HN ⊢
 obtain ⟨n,hn⟩:∃ n,nodes (.mk k nl ml b v ts)=n:=⟨_,rfl⟩
 obtain ⟨E,hE⟩:∃ E,errsP (.mk k nl ml b v ts)=E:=⟨_,rfl⟩
 have hR:checkP (.mk k nl ml b v ts)=if 4000<n then 24 else E:=by rw [←hn,←hE];rfl
 have hnl:n≤4001:=by rw [←hn];unfold nodes;omega
 rw [hR]
 rw [hn] at HC
 rw [hE] at HN
 have hX:=TBox.new (ts:=ts) w (k:=k) (b:=b) (v:=v) (sl:=.slice A ts.length c) hnb hmb
 have HB:=Lib.hid (And.intro hb1 hX)
 have HM:=Lib.hid (And.intro hnb hmb)
 obtain ⟨x0,x1,x2,x3,x4,x5⟩:=hX.cells hnb hmb
 have hzI:(n:Int)≤4001:=by omega
 clear h hv hR hX hn hE hb1 hf
 by_cases hz:4000<n
 ·have hzI:(4000:Int)<(n:Int):=by omega
  rw [if_pos hz]
  clear hz
  go_enter Tryz.func27,Tryz.ntmps27
  go_wp2_with (go_at_call 12;(with_reducible refine HC.out.mono ?_);rintro e w' ⟨rfl,hb3⟩;have HB3:=Lib.hid (HB.out.1.trans (hb3.mono HB.out.1.size));clear hb3)
  go_ret
  exact ⟨rfl,HB3.out⟩
 ·have hzI:¬(4000:Int)<(n:Int):=by omega
  rw [if_neg hz]
  clear hz
  go_enter Tryz.func27,Tryz.ntmps27
  go_wp2_with (first
   | (go_at_call 12;(with_reducible refine HC.out.mono ?_);rintro e w' ⟨rfl,hb3⟩;obtain ⟨y0,y1,y2,y3,y4,y5⟩:=(HB.out.2.below hb3).cells HM.out.1 HM.out.2;have HB3:=Lib.hid (And.intro (HB.out.1.trans (hb3.mono HB.out.1.size)) hb3);clear hb3)
   | (go_at_call 49;(with_reducible refine (HN.out _ HB3.out.2).mono ?_);rintro e w' ⟨rfl,hb4⟩;have HB4:=Lib.hid (HB3.out.1.trans (hb4.mono HB3.out.1.size));clear hb4))
  go_ret
  exact ⟨rfl,HB4.out⟩
end
end Go.Proofs.YtjpnmmjgdiiahaaGreatDoor
namespace Ht
namespace Tm
end Tm
instance:Inhabited Tm:=⟨.mk 0 [] [] 0 0 []⟩
section
variable (utf canon:List UInt8→Bool) (flo:Int→Bool)
def checks:List Tm→Int
 | []=>0
 | a :: r=>if check utf canon flo a≠0 then check utf canon flo a else checks r
end
end Ht
namespace Ht
open Go Go.RowKit Hb
theorem TAtP.at_ {w:World} {P:Nat→Prop} {t:Tm} {sl:Value} (h:TAtP w P t sl) (hP:∀ b,P b→b<w.heap.size):TAt w w.heap.size t sl:=h.wide hP
end Ht
namespace Go.Proofs.YtjpnmmjgdiiahaaGreatDoor
section
open Go.RowKit Hb Ht
attribute [local go_sem] Oper.semAt_some
theorem RowP.elt {w:World} {P:Nat→Prop} {A:Option Addr} {n:Nat} {ps:List (Tm × Value)} (h:RowP w P A n ps) {i:Nat} {p:Tm × Value} (hp:ps[i]?=some p):∃ g o,A=some ⟨g,o,none⟩∧g<w.heap.size∧EltP w P g (o+i * 6) p.1:=by
 have hi:i<n:=by rw [←h.1];exact (List.getElem?_eq_some_iff.1 hp).1
 obtain ⟨g,o,e,hg,hc⟩:=h.2.2 (by omega)
 refine ⟨g,o,e,hg,p.2,fun j hj=>?_,h.2.1 p (List.mem_of_getElem? hp)⟩
 have hc2:=fl6_get hp hj
 have hlt:j<(cells6 p.1 p.2).length:=hj
 rw [List.getElem?_eq_getElem hlt] at hc2 ⊢
 rw [Nat.add_assoc]
 exact hc _ _ hc2
theorem EltP.at_ {w:World} {P:Nat→Prop} {g o:Nat} {a:Tm} (h:EltP w P g o a) (hP:∀ b,P b→b<w.heap.size):EltAt w w.heap.size g o a:=by
 obtain ⟨sl,h1,h2⟩:=h
 exact ⟨sl,h1,h2.at_ hP⟩
abbrev checksP (l:List Tm):Int:=checks Lib.validD canonB floB l
theorem checks_drop {ts:List Tm} {i:Nat} {a:Tm} (ha:ts[i]?=some a) {R:Int} (h:checksP (ts.drop i)=R):(checkP a≠0→checkP a=R)∧(checkP a=0→checksP (ts.drop (i+1))=R):=by
 obtain ⟨hil,e⟩:=List.getElem?_eq_some_iff.1 ha
 rw [List.drop_eq_getElem_cons hil,e,checksP,checks] at h
 by_cases h0:check Lib.validD canonB floB a=0
 ·rw [if_neg (by simp [h0])] at h
  exact ⟨fun h1=>absurd h0 h1,fun _=>h⟩
 ·rw [if_pos h0] at h
  exact ⟨fun _=>h,fun h1=>absurd h1 h0⟩
end
section
open Go.RowKit Hb Ht
attribute [local go_sem] Oper.semAt_some
set_option maxRecDepth 100000 in
set_option maxHeartbeats 4000000 in
theorem rChecks_any {w:World} {P:Nat→Prop} {A:Option Addr} {n c:Nat} {ps:List (Tm × Value)} (h:RowP w P A n ps) (hP:∀ b,P b→b<w.heap.size) (hn:n≤maxArgs) (hc:n≤c) (hf:∀ p∈ps,Fits p.1) :
  Calls Tryz.prog 34 #[.slice A n c] w fun e w'=>e = .returned (.int .i64 (checksP (ps.map (·.1))))∧Below w.heap.size w w':=by
 obtain ⟨R,hR⟩:∃ R,checksP (ps.map (·.1))=R:=⟨_,rfl⟩
 rw [hR]
 obtain ⟨ts,hts⟩:∃ ts,ps.map (·.1)=ts:=⟨_,rfl⟩
 rw [hts] at hR
 have HL:=Lib.hid (show ts.length=n from by rw [←hts,List.length_map,h.1])
 have HH:=Lib.hid (And.intro h (And.intro hP hts))
 have HF:=Lib.hid hf
 have HR:=Lib.hid hR
 have hnI:(n:Int)≤1759218604400:=by unfold maxArgs at hn;omega
 clear h hP hR hts hf
 go_enter Tryz.func34,Tryz.ntmps34
 go_upto_region 2 with fail
 go_loopw [3] (fun vi wr=>∃ i:Nat,vi = .int .i64 (i:Int)∧i≤n∧Hid (checksP (ts.drop i)=R∧Below w.heap.size w wr)) (fun vi _=>((n:Int) - intOf vi).toNat)
 case atStart=>exact ⟨0,rfl,Nat.zero_le _,Lib.hid ⟨HR.out,Below.refl _ _⟩⟩
 case round=>
  obtain ⟨i,rfl,hi,HI⟩:=hrel
  by_cases hlt:i<n
  ·have hltI:(i:Int)<(n:Int):=by omega
   have hi0:(0:Int)≤(i:Int):=by omega
   obtain ⟨p,hp⟩:∃ p,ps[i]?=some p:=⟨_,List.getElem?_eq_getElem (by rw [HH.out.1.1];exact hlt)⟩
   have ha:ts[i]?=some p.1:=by rw [←HH.out.2.2,List.getElem?_map,hp];rfl
   obtain ⟨g,o,rfl,hgB,helt0⟩:=(HH.out.1.below HI.out.2 HH.out.2.1).elt hp
   have helt:=EltP.at_ helt0 (fun b hb=>Nat.lt_of_lt_of_le (HH.out.2.1 b hb) HI.out.2.size)
   have HD:=Lib.hid (checks_drop ha HI.out.1)
   have hfp:=HF.out p (List.mem_of_getElem? hp)
   obtain ⟨pt,psl⟩:=p
   obtain ⟨A',c',k',n',m',b',v',ts',nb',mb',rfl,hnb',hmb',hta,e0,e1,e2,e3,e4,e5⟩:=EltAt.cells helt
   obtain ⟨q,hq⟩:∃ q,ts'.length=q:=⟨_,rfl⟩
   have hCl:=rCheck_any hta hfp
   rw [valT_mk hnb' hmb',hq] at hCl
   obtain ⟨R1,hR1⟩:∃ R1,checkP (.mk k' n' m' b' v' ts')=R1:=⟨_,rfl⟩
   rw [hR1] at hCl HD
   have HCl:=Lib.hid hCl
   have HLT:=Lib.hid hlt
   rw [hq] at e5
   clear helt helt0 hta hnb' hmb' ha hlt hi hq hp hCl hR1 hfp
   by_cases h1:R1=0
   ·subst h1
    have HE:=Lib.hid (HD.out.2 rfl)
    go_wp2_with (go_at_call 27;(with_reducible refine HCl.out.mono ?_);rintro e w' ⟨rfl,hb4⟩;have HB4:=Lib.hid (HI.out.2.trans (hb4.mono HI.out.2.size));clear hb4)
    refine ⟨⟨i+1,rfl,HLT.out,Lib.hid ⟨HE.out,HB4.out⟩⟩,?_⟩
    have:=HLT.out
    show ((n:Int) - ((i:Int)+1)).toNat<((n:Int) - (i:Int)).toNat
    omega
   ·have h1b:(R1 != 0)=true:=by simpa using h1
    have HE:=Lib.hid (HD.out.1 h1)
    clear h1
    go_wp2_with (go_at_call 27;(with_reducible refine HCl.out.mono ?_);rintro e w' ⟨rfl,hb4⟩;have HB4:=Lib.hid (HI.out.2.trans (hb4.mono HI.out.2.size));clear hb4)
    go_ret
    exact ⟨by rw [←HE.out];rfl,HB4.out⟩
  ·have ei:i=n:=by omega
   subst ei
   have HE:=Lib.hid (show (0:Int)=R∧Below w.heap.size w wr from by
    have h9:=HI.out
    rw [List.drop_of_length_le (by rw [HL.out];exact Nat.le_refl _)] at h9
    exact h9)
   clear hlt hi
   go_wp2
   go_ret
   exact ⟨by rw [←HE.out.1];rfl,HE.out.2⟩
end
section
open Go.RowKit Hb Ht
attribute [local go_sem ↓] Go.wp_at_zero Go.wp_at_succ
attribute [local go_sem] run_store_float
def cmpR (a b:Tm):Int × Int:=if checkP a≠0 then (0,checkP a) else if checkP b≠0 then (0,checkP b) else match nmOf a,nmOf b with
 | some x,some y=>(cmpM x y,0)
 | _,_=>(0,70)
def CompPost (w:World) (a b:Tm) (e:Ending) (w':World):Prop:=e = .returned (.tuple #[.int .i64 (cmpR a b).1,.int .i64 (cmpR a b).2])∧Below w.heap.size w w'
theorem rdOk {t:Tm} (h:checkP t=0):RdOk t:=by
 have h1:=one_iff.1 (check_one (utf:=Lib.validD) (canon:=canonB) (flo:=floB) h)
 refine ⟨fun h3=>?_,h1.2.2.2.2.2.2.2⟩
 have h4:=h1.2.2.2.2.2.2.1 h3
 unfold canonB at h4
 simp only [Bool.and_eq_true,decide_eq_true_eq] at h4
 exact h4.1
set_option maxRecDepth 100000 in
set_option maxHeartbeats 4000000 in
theorem Compare_ok {w0':World} {ta tb:Tm} {sa sb:Value} {w:World} (ha:TAt w w.heap.size ta sa) (hb:TAt w w.heap.size tb sb) (hU:UOk w0' w):Calls Tryz.prog 15 #[valT ta sa,valT tb sb] w (CompPost w ta tb):=by
 obtain ⟨k1,nl1,ml1,b1,v1,ts1,nb1,mb1,A1,c1,rfl,rfl,hnb1,hmb1,hl1,hl2,hl3,hv1,_,_⟩:=ha.letters
 obtain ⟨k2,nl2,ml2,b2,v2,ts2,nb2,mb2,A2,c2,rfl,rfl,hnb2,hmb2,hm1,hm2,hm3,hv2,_,_⟩:=hb.letters
 rw [hv1,hv2]
 obtain ⟨q1,hq1⟩:∃ q,ts1.length=q:=⟨_,rfl⟩
 obtain ⟨q2,hq2⟩:∃ q,ts2.length=q:=⟨_,rfl⟩
 rw [hq1] at ha hv1 ⊢
 rw [hq2] at hb hv2 ⊢
 have HCa:=Lib.hid (fun (y:World) (hy:Below w.heap.size w y)=>Check_any (w0:=w0') (ha.to hy hy.size) (hU.below hy))
 have HCb:=Lib.hid (fun (y:World) (hy:Below w.heap.size w y)=>Check_any (w0:=w0') (hb.to hy hy.size) (hU.below hy))
 have HRa:=Lib.hid (fun (h0:checkP (.mk k1 nl1 ml1 b1 v1 ts1)=0) (y:World) (hy:Below w.heap.size w y)=>read_ok (ha.to hy hy.size) (rdOk h0))
 have HRb:=Lib.hid (fun (h0:checkP (.mk k2 nl2 ml2 b2 v2 ts2)=0) (y:World) (hy:Below w.heap.size w y)=>read_ok (hb.to hy hy.size) (rdOk h0))
 rw [hv1] at HCa HRa
 rw [hv2] at HCb HRb
 generalize hTa:(Tm.mk k1 nl1 ml1 b1 v1 ts1)=Ta at *
 generalize hTb:(Tm.mk k2 nl2 ml2 b2 v2 ts2)=Tb at *
 have hXa:(w.alloc (.cells #[.int .i64 k1,.string nb1,.string mb1,.int .u64 b1,.int .i64 v1,.slice A1 q1 c1] 25)).heap[w.heap.size]?=some (.cells #[.int .i64 k1,.string nb1,.string mb1,.int .u64 b1,.int .i64 v1,.slice A1 q1 c1] 25 (0,0)):=heap_alloc_new w _
 have hXb:((w.alloc (.cells #[.int .i64 k1,.string nb1,.string mb1,.int .u64 b1,.int .i64 v1,.slice A1 q1 c1] 25)).alloc (.cells #[.int .i64 k2,.string nb2,.string mb2,.int .u64 b2,.int .i64 v2,.slice A2 q2 c2] 25)).heap[w.heap.size+1]?=some (.cells #[.int .i64 k2,.string nb2,.string mb2,.int .u64 b2,.int .i64 v2,.slice A2 q2 c2] 25 (0,0)):=by
  have:=heap_alloc_new (w.alloc (.cells #[.int .i64 k1,.string nb1,.string mb1,.int .u64 b1,.int .i64 v1,.slice A1 q1 c1] 25)) (.cells #[.int .i64 k2,.string nb2,.string mb2,.int .u64 b2,.int .i64 v2,.slice A2 q2 c2] 25)
  rwa [World.size_alloc] at this
 have hXr:(((w.alloc (.cells #[.int .i64 k1,.string nb1,.string mb1,.int .u64 b1,.int .i64 v1,.slice A1 q1 c1] 25)).alloc (.cells #[.int .i64 k2,.string nb2,.string mb2,.int .u64 b2,.int .i64 v2,.slice A2 q2 c2] 25)).alloc (.cells #[.int .i64 k1,.string nb1,.string mb1,.int .u64 b1,.int .i64 v1,.slice A1 q1 c1,.int .i64 k2,.string nb2,.string mb2,.int .u64 b2,.int .i64 v2,.slice A2 q2 c2] 25)).heap[w.heap.size+1+1]?=some (.cells #[.int .i64 k1,.string nb1,.string mb1,.int .u64 b1,.int .i64 v1,.slice A1 q1 c1,.int .i64 k2,.string nb2,.string mb2,.int .u64 b2,.int .i64 v2,.slice A2 q2 c2] 25 (0,0)):=by
  have:=heap_alloc_new ((w.alloc (.cells #[.int .i64 k1,.string nb1,.string mb1,.int .u64 b1,.int .i64 v1,.slice A1 q1 c1] 25)).alloc (.cells #[.int .i64 k2,.string nb2,.string mb2,.int .u64 b2,.int .i64 v2,.slice A2 q2 c2] 25)) (.cells #[.int .i64 k1,.string nb1,.string mb1,.int .u64 b1,.int .i64 v1,.slice A1 q1 c1,.int .i64 k2,.string nb2,.string mb2,.int .u64 b2,.int .i64 v2,.slice A2 q2 c2] 25)
  rwa [World.size_alloc,World.size_alloc] at this
 have hb1:Below (w.heap.size+1) (w.alloc (.cells #[.int .i64 k1,.string nb1,.string mb1,.int .u64 b1,.int .i64 v1,.slice A1 q1 c1] 25)) ((w.alloc (.cells #[.int .i64 k1,.string nb1,.string mb1,.int .u64 b1,.int .i64 v1,.slice A1 q1 c1] 25)).alloc (.cells #[.int .i64 k2,.string nb2,.string mb2,.int .u64 b2,.int .i64 v2,.slice A2 q2 c2] 25)):=(Below.refl _ _).alloc (by simp) _
 have hb2:Below (w.heap.size+1+1) ((w.alloc (.cells #[.int .i64 k1,.string nb1,.string mb1,.int .u64 b1,.int .i64 v1,.slice A1 q1 c1] 25)).alloc (.cells #[.int .i64 k2,.string nb2,.string mb2,.int .u64 b2,.int .i64 v2,.slice A2 q2 c2] 25)) (((w.alloc (.cells #[.int .i64 k1,.string nb1,.string mb1,.int .u64 b1,.int .i64 v1,.slice A1 q1 c1] 25)).alloc (.cells #[.int .i64 k2,.string nb2,.string mb2,.int .u64 b2,.int .i64 v2,.slice A2 q2 c2] 25)).alloc (.cells #[.int .i64 k1,.string nb1,.string mb1,.int .u64 b1,.int .i64 v1,.slice A1 q1 c1,.int .i64 k2,.string nb2,.string mb2,.int .u64 b2,.int .i64 v2,.slice A2 q2 c2] 25)):=(Below.refl _ _).alloc (by simp) _
 have hB:Below w.heap.size w (((w.alloc (.cells #[.int .i64 k1,.string nb1,.string mb1,.int .u64 b1,.int .i64 v1,.slice A1 q1 c1] 25)).alloc (.cells #[.int .i64 k2,.string nb2,.string mb2,.int .u64 b2,.int .i64 v2,.slice A2 q2 c2] 25)).alloc (.cells #[.int .i64 k1,.string nb1,.string mb1,.int .u64 b1,.int .i64 v1,.slice A1 q1 c1,.int .i64 k2,.string nb2,.string mb2,.int .u64 b2,.int .i64 v2,.slice A2 q2 c2] 25)):=(((Below.refl _ _).alloc (Nat.le_refl _) _).alloc (by simp) _).alloc (by simp;omega) _
 have HXa:=Lib.hid (((hb1.trans (hb2.mono (by omega))).block w.heap.size (by omega)).trans hXa)
 have HXb:=Lib.hid ((hb2.block (w.heap.size+1) (by omega)).trans hXb)
 have HXr:=Lib.hid hXr
 have HB:=Lib.hid hB
 have HZ:=Lib.hid (show (((w.alloc (.cells #[.int .i64 k1,.string nb1,.string mb1,.int .u64 b1,.int .i64 v1,.slice A1 q1 c1] 25)).alloc (.cells #[.int .i64 k2,.string nb2,.string mb2,.int .u64 b2,.int .i64 v2,.slice A2 q2 c2] 25)).alloc (.cells #[.int .i64 k1,.string nb1,.string mb1,.int .u64 b1,.int .i64 v1,.slice A1 q1 c1,.int .i64 k2,.string nb2,.string mb2,.int .u64 b2,.int .i64 v2,.slice A2 q2 c2] 25)).heap.size=w.heap.size+1+1+1 by simp)
 have HUnf:=Lib.hid (show ∀ (y:World) (p:Int × Int),Below w.heap.size w y→cmpR Ta Tb=p→CompPost w Ta Tb (.returned (.tuple #[.int .i64 p.1,.int .i64 p.2])) y from fun y p hy hp=>⟨by rw [hp],hy⟩)
 clear hXa hXb hXr hb1 hb2 hB ha hb hU hv1 hv2 hl1 hl2 hl3 hm1 hm2 hm3 hnb1 hmb1 hnb2 hmb2 hq1 hq2 hTa hTb
 go_enter Tryz.func15,Tryz.ntmps15
 go_upto_region 2 with fail
 generalize (((w.alloc (.cells #[.int .i64 k1,.string nb1,.string mb1,.int .u64 b1,.int .i64 v1,.slice A1 q1 c1] 25)).alloc (.cells #[.int .i64 k2,.string nb2,.string mb2,.int .u64 b2,.int .i64 v2,.slice A2 q2 c2] 25)).alloc (.cells #[.int .i64 k1,.string nb1,.string mb1,.int .u64 b1,.int .i64 v1,.slice A1 q1 c1,.int .i64 k2,.string nb2,.string mb2,.int .u64 b2,.int .i64 v2,.slice A2 q2 c2] 25))=W0 at *
 go_loopw [17] (fun v17 wr=>∃ i:Nat,v17 = .int .i64 (i:Int)∧i≤2∧Hid ((1≤i→checkP Ta=0)∧(2≤i→checkP Tb=0)∧Below W0.heap.size W0 wr)) (fun v17 _=>((2:Int) - intOf v17).toNat)
 case atStart=>exact ⟨0,rfl,by omega,Lib.hid ⟨fun h=>by omega,fun h=>by omega,Below.refl _ _⟩⟩
 case round=>
  obtain ⟨i,rfl,hi,HI⟩:=hrel
  have hrow:=(HI.out.2.2.block (w.heap.size+1+1) (by have:=HZ.out;omega)).trans HXr.out
  rcases (by omega:i=0∨i=1∨i=2) with rfl | rfl | rfl
  ·
   obtain ⟨x0,x1,x2,x3,x4,x5⟩:wr.cell? ⟨w.heap.size+1+1,0,none⟩=some (.int .i64 k1)∧wr.cell? ⟨w.heap.size+1+1,1,none⟩=some (.string nb1)∧wr.cell? ⟨w.heap.size+1+1,2,none⟩=some (.string mb1)∧wr.cell? ⟨w.heap.size+1+1,3,none⟩=some (.int .u64 b1)∧wr.cell? ⟨w.heap.size+1+1,4,none⟩=some (.int .i64 v1)∧wr.cell? ⟨w.heap.size+1+1,5,none⟩=some (.slice A1 q1 c1):=by
    refine ⟨?_,?_,?_,?_,?_,?_⟩ <;> (rw [cell_of_row _ _ _ _ _ (0,0) hrow];rfl)
   have HBw:=Lib.hid (show Below w.heap.size w (wr.alloc (.cells #[.int .i64 k1,.string nb1,.string mb1,.int .u64 b1,.int .i64 v1,.slice A1 q1 c1] 25)) from (HB.out.trans (HI.out.2.2.mono HB.out.size)).alloc (Nat.le_trans HB.out.size HI.out.2.2.size) _)
   have HB0w:=Lib.hid (show Below W0.heap.size W0 (wr.alloc (.cells #[.int .i64 k1,.string nb1,.string mb1,.int .u64 b1,.int .i64 v1,.slice A1 q1 c1] 25)) from HI.out.2.2.alloc HI.out.2.2.size _)
   obtain ⟨x,hx⟩:∃ x,checkP Ta=x:=⟨_,rfl⟩
   have HCx:=Lib.hid (HCa.out _ HBw.out)
   rw [hx] at HCx
   have HXx:=Lib.hid hx
   clear hrow hx
   by_cases h0:x=0
   ·subst h0
    go_upto_region 4 with fail
    go_wp2_with (go_at_call 31;(with_reducible refine HCx.out.mono ?_);rintro e w6 ⟨rfl,hb6⟩;have HB6:=Lib.hid (HB0w.out.trans (hb6.mono HB0w.out.size));clear hb6)
    go_roundw
    case rel=>exact ⟨1,rfl,by omega,Lib.hid ⟨fun _=>HXx.out,fun h=>by omega,HB6.out⟩⟩
    case measure=>simp [intOf]
   ·have d0:(x==0)=false:=beq_eq_false_iff_ne.2 h0
    have HRz:=Lib.hid (show cmpR Ta Tb=(0,x) from by
     unfold cmpR
     rw [HXx.out,if_pos h0])
    clear h0
    go_upto_region 4 with fail
    go_wp2_with (go_at_call 31;(with_reducible refine HCx.out.mono ?_);rintro e w6 ⟨rfl,hb6⟩;have HB6:=Lib.hid (HBw.out.trans (hb6.mono HBw.out.size));clear hb6)
    exact bodyPost_ret (v:=.tuple #[.int .i64 0,.int .i64 x]) (by simp [results,Tryz.results15,go_sem]) rfl (HUnf.out _ _ HB6.out HRz.out)
  ·
   obtain ⟨x0,x1,x2,x3,x4,x5⟩:wr.cell? ⟨w.heap.size+1+1,6,none⟩=some (.int .i64 k2)∧wr.cell? ⟨w.heap.size+1+1,7,none⟩=some (.string nb2)∧wr.cell? ⟨w.heap.size+1+1,8,none⟩=some (.string mb2)∧wr.cell? ⟨w.heap.size+1+1,9,none⟩=some (.int .u64 b2)∧wr.cell? ⟨w.heap.size+1+1,10,none⟩=some (.int .i64 v2)∧wr.cell? ⟨w.heap.size+1+1,11,none⟩=some (.slice A2 q2 c2):=by
    refine ⟨?_,?_,?_,?_,?_,?_⟩ <;> (rw [cell_of_row _ _ _ _ _ (0,0) hrow];rfl)
   have HBw:=Lib.hid (show Below w.heap.size w (wr.alloc (.cells #[.int .i64 k2,.string nb2,.string mb2,.int .u64 b2,.int .i64 v2,.slice A2 q2 c2] 25)) from (HB.out.trans (HI.out.2.2.mono HB.out.size)).alloc (Nat.le_trans HB.out.size HI.out.2.2.size) _)
   have HB0w:=Lib.hid (show Below W0.heap.size W0 (wr.alloc (.cells #[.int .i64 k2,.string nb2,.string mb2,.int .u64 b2,.int .i64 v2,.slice A2 q2 c2] 25)) from HI.out.2.2.alloc HI.out.2.2.size _)
   obtain ⟨x,hx⟩:∃ x,checkP Tb=x:=⟨_,rfl⟩
   have HCx:=Lib.hid (HCb.out _ HBw.out)
   rw [hx] at HCx
   have HXx:=Lib.hid hx
   clear hrow hx
   by_cases h0:x=0
   ·subst h0
    go_upto_region 4 with fail
    go_wp2_with (go_at_call 31;(with_reducible refine HCx.out.mono ?_);rintro e w6 ⟨rfl,hb6⟩;have HB6:=Lib.hid (HB0w.out.trans (hb6.mono HB0w.out.size));clear hb6)
    go_roundw
    case rel=>exact ⟨2,rfl,by omega,Lib.hid ⟨fun _=>HI.out.1 (by omega),fun _=>HXx.out,HB6.out⟩⟩
    case measure=>simp [intOf]
   ·have d0:(x==0)=false:=beq_eq_false_iff_ne.2 h0
    have HRz:=Lib.hid (show cmpR Ta Tb=(0,x) from by
     unfold cmpR
     rw [HI.out.1 (by omega),HXx.out,if_neg (by simp),if_pos h0])
    clear h0
    go_upto_region 4 with fail
    go_wp2_with (go_at_call 31;(with_reducible refine HCx.out.mono ?_);rintro e w6 ⟨rfl,hb6⟩;have HB6:=Lib.hid (HBw.out.trans (hb6.mono HBw.out.size));clear hb6)
    exact bodyPost_ret (v:=.tuple #[.int .i64 0,.int .i64 x]) (by simp [results,Tryz.results15,go_sem]) rfl (HUnf.out _ _ HB6.out HRz.out)
  ·have HBr:=Lib.hid (HB.out.trans (HI.out.2.2.mono HB.out.size))
   have HXa2:=Lib.hid ((HI.out.2.2.block w.heap.size (by have:=HZ.out;omega)).trans HXa.out)
   have HXb2:=Lib.hid ((HI.out.2.2.block (w.heap.size+1) (by have:=HZ.out;omega)).trans HXb.out)
   have h0a:=HI.out.1 (by omega)
   have h0b:=HI.out.2.1 (by omega)
   have HRd:=Lib.hid (HRa.out h0a _ HBr.out)
   have HH:=Lib.hid (And.intro h0a h0b)
   obtain ⟨x0,x1,x2,x3,x4,x5⟩:wr.cell? ⟨w.heap.size,0,none⟩=some (.int .i64 k1)∧wr.cell? ⟨w.heap.size,1,none⟩=some (.string nb1)∧wr.cell? ⟨w.heap.size,2,none⟩=some (.string mb1)∧wr.cell? ⟨w.heap.size,3,none⟩=some (.int .u64 b1)∧wr.cell? ⟨w.heap.size,4,none⟩=some (.int .i64 v1)∧wr.cell? ⟨w.heap.size,5,none⟩=some (.slice A1 q1 c1):=by
    refine ⟨?_,?_,?_,?_,?_,?_⟩ <;> (rw [cell_of_row _ _ _ _ _ (0,0) HXa2.out];rfl)
   clear hrow h0a h0b HRa HCa HCb HXa HXb HXr HI
   go_wp2_with fail
   (with_reducible refine HRd.out.mono ?_)
   rintro e w6 ⟨hb6,qa,oka,rfl,hqa,hra⟩
   replace hqa:=hqa.wide (Q:=fun b=>b<w6.heap.size) (fun b hb=>hb.2)
   obtain ⟨ga,Aa,na,ca,la,fa,ba⟩:=qa
   simp only [Nv.v,Nv.vals]
   have HNa:=Lib.hid (NBox.new w6 ⟨ga,Aa,na,ca,la,fa,ba⟩)
   have HB6:=Lib.hid (show Below w.heap.size w (w6.alloc (.cells (Nv.vals ⟨ga,Aa,na,ca,la,fa,ba⟩).toArray 70)) from (HBr.out.trans (hb6.mono HBr.out.size)).alloc (Nat.le_trans HBr.out.size hb6.size) _)
   have HQa:=Lib.hid (hqa.up ((Below.refl _ _).alloc (Nat.le_refl _) (.cells (Nv.vals ⟨ga,Aa,na,ca,la,fa,ba⟩).toArray 70)))
   have HXb6:=Lib.hid (show (w6.alloc (.cells (Nv.vals ⟨ga,Aa,na,ca,la,fa,ba⟩).toArray 70)).heap[w.heap.size+1]?=some (.cells #[.int .i64 k2,.string nb2,.string mb2,.int .u64 b2,.int .i64 v2,.slice A2 q2 c2] 25 (0,0)) from by
    have hl:=(Array.getElem?_eq_some_iff.1 HXb2.out).1
    have hs:=hb6.size
    exact (((Below.refl w6.heap.size w6).alloc (Nat.le_refl _) _).block (w.heap.size+1) (by omega)).trans ((hb6.block _ hl).trans HXb2.out))
   simp only [Nv.vals] at HNa HB6 HQa HXb6
   have HRA:=Lib.hid hra
   clear hb6 hqa hra x0 x1 x2 x3 x4 x5 HXa2 HXb2 HRd HBr
   go_upto_region 9 with fail
   generalize w6.alloc (.cells #[.bool ga,.slice Aa na ca,.float .f64 fa,.bool ba] 70)=w7 at *
   have HRd:=Lib.hid (HRb.out HH.out.2 _ HB6.out)
   obtain ⟨x0,x1,x2,x3,x4,x5⟩:w7.cell? ⟨w.heap.size+1,0,none⟩=some (.int .i64 k2)∧w7.cell? ⟨w.heap.size+1,1,none⟩=some (.string nb2)∧w7.cell? ⟨w.heap.size+1,2,none⟩=some (.string mb2)∧w7.cell? ⟨w.heap.size+1,3,none⟩=some (.int .u64 b2)∧w7.cell? ⟨w.heap.size+1,4,none⟩=some (.int .i64 v2)∧w7.cell? ⟨w.heap.size+1,5,none⟩=some (.slice A2 q2 c2):=by
    refine ⟨?_,?_,?_,?_,?_,?_⟩ <;> (rw [cell_of_row _ _ _ _ _ (0,0) HXb6.out];rfl)
   clear HRb
   go_wp2_with fail
   (with_reducible refine HRd.out.mono ?_)
   rintro e w8 ⟨hb8,qb,okb,rfl,hqb,hrb⟩
   replace hqb:=hqb.wide (Q:=fun b=>b<w8.heap.size) (fun b hb=>hb.2)
   obtain ⟨gb,Ab,nb,cb,lb,fb,bb⟩:=qb
   simp only [Nv.v,Nv.vals]
   have HNb:=Lib.hid (NBox.new w8 ⟨gb,Ab,nb,cb,lb,fb,bb⟩)
   have HBx:=Lib.hid ((Below.refl w8.heap.size w8).alloc (Nat.le_refl _) (.cells (Nv.vals ⟨gb,Ab,nb,cb,lb,fb,bb⟩).toArray 70))
   have HB8:=Lib.hid ((HB6.out.trans (hb8.mono HB6.out.size)).trans (HBx.out.mono (Nat.le_trans HB6.out.size hb8.size)))
   have HQb:=Lib.hid (hqb.up HBx.out)
   have HQ8:=Lib.hid ((HQa.out.up hb8).up HBx.out)
   have HNa8:=Lib.hid ((HNa.out.below hb8 HNa.out.lt).below HBx.out (Nat.lt_of_lt_of_le HNa.out.lt hb8.size))
   simp only [Nv.vals] at HNb HB8 HQb HQ8 HNa8 HBx
   have HRB:=Lib.hid hrb
   clear hb8 hqb hrb x0 x1 x2 x3 x4 x5 HRd
   go_upto_region 10 with fail
   generalize w8.alloc (.cells #[.bool gb,.slice Ab nb cb,.float .f64 fb,.bool bb] 70)=w9 at *
   obtain ⟨a0,a1,a2,a3⟩:=HNa8.out.cells
   obtain ⟨d0,d1,d2,d3⟩:=HNb.out.cells
   simp only at a0 a1 a2 a3 d0 d1 d2 d3
   have hcr:cmpR Ta Tb=match nmOf Ta,nmOf Tb with | some x,some y=>(cmpM x y,0) | _,_=>(0,70):=by
    unfold cmpR
    rw [HH.out.1,HH.out.2,if_neg (by simp),if_neg (by simp)]
   rcases HRA.out with ⟨rfl,ea⟩ | ⟨rfl,ea⟩
   ·rcases HRB.out with ⟨rfl,eb⟩ | ⟨rfl,eb⟩
    ·rw [ea,eb] at hcr
     have HCp:=Lib.hid (compare_ok HQ8.out HQb.out)
     simp only [Nv.v,Nv.vals] at HCp
     have HF:=Lib.hid (fun y (hy:Below w9.heap.size w9 y)=>HUnf.out y _ (HB8.out.trans (hy.mono HB8.out.size)) hcr)
     simp only at HF
     have hunf:∀ (x y:Nm) (w0:World) e w1,CmPost w0 x y e w1→e = .returned (.int .i64 (cmpM x y))∧Below w0.heap.size w0 w1:=fun _ _ _ _ _ h=>h
     have HU:=Lib.hid hunf
     clear hunf hcr ea eb
     generalize Nv.nm ⟨ga,Aa,na,ca,la,fa,ba⟩=X at *
     generalize Nv.nm ⟨gb,Ab,nb,cb,lb,fb,bb⟩=Y at *
     generalize hz:cmpM X Y=z at *
     have HzI:=Lib.hid hz
     clear hz
     go_wp2_with fail
     (with_reducible refine HCp.out.mono ?_)
     intro e w10 hcp
     obtain ⟨he,hb10⟩:=HU.out _ _ _ _ _ hcp
     rw [HzI.out] at he
     subst he
     clear hcp
     go_wp2_with fail
     exact bodyPost_ret (v:=.tuple #[.int .i64 z,.int .i64 0]) (by simp [results,Tryz.results15,go_sem]) rfl (HF.out _ hb10)
    ·rw [ea,eb] at hcr
     have HF:=Lib.hid (HUnf.out w9 _ HB8.out hcr)
     clear hcr ea eb
     go_wp2_with fail
     exact bodyPost_ret (v:=.tuple #[.int .i64 0,.int .i64 70]) (by simp [results,Tryz.results15,go_sem]) rfl HF.out
   ·have HF:=Lib.hid (HUnf.out w9 (0,70) HB8.out (by rw [hcr,ea]))
    clear hcr ea
    go_wp2_with fail
    exact bodyPost_ret (v:=.tuple #[.int .i64 0,.int .i64 70]) (by simp [results,Tryz.results15,go_sem]) rfl HF.out
def fl4 (qs:List Nv):List Value:=qs.flatMap Nv.vals
theorem fl4_length (qs:List Nv):(fl4 qs).length=qs.length * 4:=by
 induction qs with
 | nil=>rfl
 | cons q qs ih=>
  have e:fl4 (q :: qs)=q.vals ++ fl4 qs:=by simp [fl4]
  rw [e,List.length_append,ih,List.length_cons]
  show 4+_=_
  omega
theorem fl4_append (ps qs:List Nv):fl4 (ps ++ qs)=fl4 ps ++ fl4 qs:=by simp [fl4]
theorem fl4_one (qs:List Nv):∀ u∈fl4 qs,u.oneCell'=true:=by
 intro u hu
 obtain ⟨q,hq,hy⟩:=List.mem_flatMap.1 hu
 simp [Nv.vals] at hy
 rcases hy with rfl | rfl | rfl | rfl <;> rfl
structure NRd (lo:Nat) (w:World) (A:Option Addr) (n:Nat) (qs:List Nv):Prop where
 len:qs.length=n
 rd:qs ≠ []→∃ b o,A=some ⟨b,o,none⟩∧b<w.heap.size∧∀ i u,(fl4 qs)[i]?=some u→w.cell? ⟨b,o+i,none⟩=some u
 kid:∀ q∈qs,q.At w (fun b=>lo≤b∧b<w.heap.size)
theorem NRd.two {lo:Nat} {w:World} {A:Option Addr} {q1 q2:Nv} (h:NRd lo w A 2 [q1,q2]):∃ b o,A=some ⟨b,o,none⟩∧b<w.heap.size ∧
  (w.cell? ⟨b,o,none⟩=some (.bool q1.g)∧w.cell? ⟨b,o+1,none⟩=some (.slice q1.A q1.n q1.c)∧w.cell? ⟨b,o+2,none⟩=some (.float .f64 q1.f)∧w.cell? ⟨b,o+3,none⟩=some (.bool q1.b)) ∧
  (w.cell? ⟨b,o+4,none⟩=some (.bool q2.g)∧w.cell? ⟨b,o+5,none⟩=some (.slice q2.A q2.n q2.c)∧w.cell? ⟨b,o+6,none⟩=some (.float .f64 q2.f)∧w.cell? ⟨b,o+7,none⟩=some (.bool q2.b)):=by
 obtain ⟨b,o,e,hlt,hc⟩:=h.rd (by simp)
 exact ⟨b,o,e,hlt,⟨hc 0 _ rfl,hc 1 _ rfl,hc 2 _ rfl,hc 3 _ rfl⟩,⟨hc 4 _ rfl,hc 5 _ rfl,hc 6 _ rfl,hc 7 _ rfl⟩⟩
def UBox (w:World) (g:Nat) (t:TypeId) (u:Value):Prop:=w.heap[g]?=some (.cells #[u] t (0,0))
theorem UBox.lt {w:World} {g:Nat} {t:TypeId} {u:Value} (h:UBox w g t u):g<w.heap.size:=(Array.getElem?_eq_some_iff.1 h).1
theorem UBox.below {w w':World} {g B:Nat} {t:TypeId} {u:Value} (h:UBox w g t u) (hb:Below B w w') (hB:g<B):UBox w' g t u:=(hb.block g hB).trans h
theorem UBox.cell {w:World} {g:Nat} {t:TypeId} {u:Value} (h:UBox w g t u):w.cell? ⟨g,0,none⟩=some u:=by
 unfold UBox at h
 simp [World.cell?,h]
set_option maxRecDepth 100000 in
set_option maxHeartbeats 4000000 in
theorem any_ok {lo:Nat} {q1 q2:Nv} {ui uf:Value} {w:World} {A:Option Addr} {c D F:Nat} (h:NRd lo w A 2 [q1,q2]) (hD:UBox w D 134 ui) (hE:UBox w F 137 uf) (I:Int→Int→Int × Int) (Fo:Nat→Nat→Nat)
  (hI:∀ a b,q1.nm = .int a→q2.nm = .int b→∃ fi,ui = .func (.func fi) #[] #[]∧FnB fi∧∀ y,Below w.heap.size w y→Calls Tryz.prog fi #[.agg #[.bool q1.g,.slice q1.A q1.n q1.c],.agg #[.bool q2.g,.slice q2.A q2.n q2.c]] y (IPost y (I a b).1 (I a b).2))
  (hF:(∃ f,q1.nm = .flo f)∨(∃ f,q2.nm = .flo f)→∃ ff,uf = .func (.func ff) #[] #[]∧FnB ff∧∀ a b,floR q1.nm=some a→floR q2.nm=some b→Num64 (Fo a b)∧∀ y,Calls Tryz.prog ff #[.float .f64 a,.float .f64 b] y (fun e w'=>e = .returned (.float .f64 (Fo a b))∧y=w')) :
  Calls Tryz.prog 106 #[.slice A 2 c,.pointer (some ⟨D,0,none⟩),.pointer (some ⟨F,0,none⟩)] w (NPost w (bothR I Fo q1.nm q2.nm)):=by
 have HC:=Lib.hid (fun (y:World) (hy:Below w.heap.size w y)=>both_ok (w:=y) (((h.kid q1 (by simp)).upL hy).wide (fun b hb=>hb.2)) (((h.kid q2 (by simp)).upL hy).wide (fun b hb=>hb.2)) I Fo (fun a b e1 e2=>by
   obtain ⟨fi,r1,r2,r3⟩:=hI a b e1 e2
   exact ⟨fi,r1,r2,fun y2 hy2=>r3 y2 (hy.trans (hy2.mono hy.size))⟩) (fun hh=>hF hh))
 obtain ⟨Rb,Ro,rfl,hlt,⟨a0,a1,a2,a3⟩,⟨b0,b1,b2,b3⟩⟩:=h.two
 have HB:=Lib.hid (show Below w.heap.size w (w.alloc (.cells nought.vals.toArray 70)) from (Below.refl _ _).alloc (Nat.le_refl _) _)
 have HZ:=Lib.hid (World.size_alloc w (.cells nought.vals.toArray 70))
 have HX:=Lib.hid (NBox.new w nought)
 have HD:=Lib.hid (hD.below HB.out hD.lt)
 have HE:=Lib.hid (hE.below HB.out hE.lt)
 have HLt:=Lib.hid (And.intro hD.lt hE.lt)
 have HA:=Lib.hid (show ∀ y,Below w.heap.size w y→(y.cell? ⟨Rb,Ro,none⟩=some (.bool q1.g)∧y.cell? ⟨Rb,Ro+1,none⟩=some (.slice q1.A q1.n q1.c)∧y.cell? ⟨Rb,Ro+2,none⟩=some (.float .f64 q1.f)∧y.cell? ⟨Rb,Ro+3,none⟩=some (.bool q1.b))∧(y.cell? ⟨Rb,Ro+4,none⟩=some (.bool q2.g)∧y.cell? ⟨Rb,Ro+5,none⟩=some (.slice q2.A q2.n q2.c)∧y.cell? ⟨Rb,Ro+6,none⟩=some (.float .f64 q2.f)∧y.cell? ⟨Rb,Ro+7,none⟩=some (.bool q2.b)) from
  fun y hy=>⟨⟨(hy.cell (p:=⟨Rb,Ro,none⟩) hlt).trans a0,(hy.cell (p:=⟨Rb,Ro+1,none⟩) hlt).trans a1,(hy.cell (p:=⟨Rb,Ro+2,none⟩) hlt).trans a2,(hy.cell (p:=⟨Rb,Ro+3,none⟩) hlt).trans a3⟩,
   ⟨(hy.cell (p:=⟨Rb,Ro+4,none⟩) hlt).trans b0,(hy.cell (p:=⟨Rb,Ro+5,none⟩) hlt).trans b1,(hy.cell (p:=⟨Rb,Ro+6,none⟩) hlt).trans b2,(hy.cell (p:=⟨Rb,Ro+7,none⟩) hlt).trans b3⟩⟩)
 have HHz:=Lib.hid (World.size_alloc w (.cells nought.vals.toArray 70))
 clear h hD hE hI hF a0 a1 a2 a3 b0 b1 b2 b3 hlt
 obtain ⟨g,A,n,c,l,f,b⟩:=q1
 obtain ⟨g',A',n',c',l',f',b'⟩:=q2
 simp only [nought,Nv.vals] at HB HZ HX HD HE
 simp only [Nv.v,Nv.vals] at HC
 simp only at HA
 generalize Nv.nm ⟨g,A,n,c,l,f,b⟩=x1 at *
 generalize Nv.nm ⟨g',A',n',c',l',f',b'⟩=x2 at *
 generalize bothR I Fo x1 x2=R at *
 go_enter Tryz.func106,Tryz.ntmps106
 go_upto_region 1 with fail
 generalize w.alloc (.cells #[.bool false,.slice none 0 0,.float .f64 0,.bool false] 70)=w0 at *
 refine wp_region_U 11 (by kernel_rfl) (fun z0 K0 hs0=>?_)
 refine qz 0 K0 ?_
 refine qz 1 K0 ?_
 refine qz 2 K0 ?_ (y:=fun z5 hS=>by obtain ⟨⟨a0,a1,a2,a3⟩,⟨b0,b1,b2,b3⟩⟩:=HA.out _ (HB.out.trans (hS.mono HB.out.size));go_simp;rfl)
 refine qz 3 K0 ?_
 refine qz 4 K0 ?_
 refine qz 5 K0 ?_ (y:=fun z5 hS=>by obtain ⟨⟨a0,a1,a2,a3⟩,⟨b0,b1,b2,b3⟩⟩:=HA.out _ (HB.out.trans (hS.mono HB.out.size));go_simp;rfl)
 refine qz 6 K0 ?_ (y:=fun z5 hS=>by have q0:=(HD.out.below hS HD.out.lt).cell;go_simp;rfl)
 refine qz 7 K0 ?_ (y:=fun z5 hS=>by have q0:=(HE.out.below hS HE.out.lt).cell;go_simp;rfl)
 refine uW 8 fun K hK=>?_
 go_simp
 (with_reducible refine (HC.out z0 (HB.out.trans (K0.mono HB.out.size))).mono ?_)
 rintro e w2 ⟨hb2,q,ev,rfl,ho2⟩
 have K2:=K0.trans (hb2.mono K0.size)
 have hs0:=K0.size
 have hX2:=HX.out.below K2 HX.out.lt
 obtain ⟨c0,c1',c2,c3⟩:=hX2.cells
 obtain ⟨z0',z1,z2,z3⟩:=hX2.frozens
 have hS:=Lib.hid (hX2.set4 q)
 have HB2:=Lib.hid (HB.out.trans (K2.mono HB.out.size))
 have HO2:=Lib.hid (ho2.lower (lo':=w.heap.size) (by have:=HB.out.size;omega) hs0)
 have HX2:=Lib.hid hX2
 obtain ⟨gq,Aq,nq,cq,lq,fq,bq⟩:=q
 simp only [nought] at c0 c1' c2 c3 hS
 simp only [Nv.v,Nv.vals]
 refine hK.out _ _ (fun _=>K2) ?_
 refine qz 9 K2 ?_
 refine qz 10 K2 ?_
 refine uW 11 fun K hK=>?_
 go_simp
 refine hK.out _ _ (fun h=>absurd h (by simp)) ?_
 refine uW 12 fun K hK=>?_
 go_simp
 refine hK.out _ _ (fun h=>absurd h (by simp)) ?_
 refine wpAnyW_done (by kernel_rfl) ?_ _
 clear hX2 K2 K0 hs0 hb2 ho2
 go_wp2_with fail
 obtain ⟨r0,r1,r2,r3⟩:=hS.out.1.cells
 simp only at r0 r1 r2 r3
 refine bodyPost_ret (v:=.tuple #[.agg #[.bool gq,.slice Aq nq cq,.float .f64 fq,.bool bq],ev]) (by simp [results,Tryz.results106,go_sem,r0,r1,r2,r3]) rfl ?_
 have hz:=HZ.out
 exact NPost.fin (q:=⟨gq,Aq,nq,cq,lq,fq,bq⟩) HB2.out (by omega) HX2.out (HO2.out.lower (Nat.le_refl _) (by omega)) hS.out.2
end
end Go.Proofs.YtjpnmmjgdiiahaaGreatDoor
namespace Hq
open Go Go.Maps Go.WideMaps Go.RowKit
def heldR (v:Value):Option (DataW Value × List MemPlace):=some (.held v,[])
def FMap (P:Program) (K:TypeId) (w:World) (b N:Nat) (T:List (List UInt8 × Value)):Prop:=
 ∃ D:DataW Value,w.ownsMap P K heldR b N D∧∀ nm:List UInt8,Maps.has D (.string nm)=(T.lookup nm).isSome∧∀ x,T.lookup nm=some x→∀ z,D.atKey (.string nm) z = .held x
section
variable {P:Program} {K E t:TypeId} {w:World} {b N:Nat} {T:List (List UInt8 × Value)}
theorem FMap.lt (h:FMap P K w b N T):b<w.heap.size:=let ⟨_,h1,_⟩:=h;h1.lt
theorem FMap.below {w':World} {C:Nat} (h:FMap P K w b N T) (hb:Below C w w') (hC:b<C):FMap P K w' b N T:=by
 obtain ⟨D,⟨es,clock,h1,h3⟩,h2⟩:=h
 exact ⟨D,⟨es,clock,(hb.block b hC).trans h1,h3⟩,h2⟩
theorem FMap.made (w:World):FMap P K (w.alloc (.map #[] 0)) w.heap.size 0 []:=
 ⟨_,World.ownsMap_made w P K heldR,fun nm=>⟨rfl,fun x h=>by cases h⟩⟩
theorem FMap.look (h:FMap P K w b N T) (law:Keyed P K) (hk:P.underlying K=some .string) (ht:P.underlying t=some (.map K E)) {z:Value} (hz:(zeroValue E).run P w = .ok z w) {s:ByteArray} (hs:s.size≤maxLen) :
  (Instr.lookup t (.map (some b)) (.string s) false).run P w = .ok ((T.lookup s.data.toList).getD z) w:=by
 obtain ⟨D,h1,h2⟩:=h
 obtain ⟨e1,e2⟩:=h2 s.data.toList
 obtain ⟨v,ps,hrun,hv⟩:=h1.lookup law ht hz (zd:=.held z) (zp:=[]) rfl (keyOf_string_mk hk hs)
 rw [hrun]
 congr 1
 unfold heldR at hv
 cases hf:T.lookup s.data.toList with
 | none=>
  rw [hf] at e1
  rw [atKey_of_not_has (by simpa using e1)] at hv
  injection hv with hv
  injection hv with hv _
  injection hv
 | some x=>
  rw [e2 x hf] at hv
  injection hv with hv
  injection hv with hv _
  injection hv
theorem FMap.store (h:FMap P K w b N T) (law:Keyed P K) (hk:P.underlying K=some .string) (ht:P.underlying t=some (.map K E)) (hN:N<maxLen) {s:ByteArray} (hs:s.size≤maxLen) (x:Value) :
  ∃ w',(Instr.mapUpdate t (.map (some b)) (.string s) x).run P w = .ok () w'∧FMap P K w' b (N+1) ((s.data.toList,x) :: T)∧w.grownBy w' (some b):=by
 obtain ⟨D,h1,h2⟩:=h
 obtain ⟨w',hrun,hown,hg⟩:=h1.update law ht hN (keyOf_string_mk hk hs) (show heldR x=some (.held x,[]) from rfl)
 refine ⟨w',hrun,⟨_,hown,fun nm=>?_⟩,hg⟩
 have hm:=h1.isMap
 have hkey:WideAt.IsKeyLit (.string s.data.toList):=law.key (keyOf_string_mk hk hs)
 rw [List.lookup_cons]
 by_cases hn:nm=s.data.toList
 ·subst hn
  rw [has_put_same hm hkey,beq_self_eq_true]
  exact ⟨rfl,fun y hy z=>by rw [atKey_put_same hm hkey];injection hy with hy;rw [hy]⟩
 ·have hne:(Lit.string nm) ≠ .string s.data.toList:=fun e=>hn (by injection e)
  rw [has_put_other hne,show (nm==s.data.toList)=false from beq_eq_false_iff_ne.2 hn]
  exact ⟨(h2 nm).1,fun y hy z=>by rw [atKey_put_other hne];exact (h2 nm).2 y hy z⟩
end
end Hq
