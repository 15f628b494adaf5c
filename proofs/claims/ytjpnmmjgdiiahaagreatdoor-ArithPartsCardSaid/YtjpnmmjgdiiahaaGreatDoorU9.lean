/- The law ArithParts of layer 7 answers true for every input, and leaves its arguments as they were; its five listed variables hold what the program's text lays. -/
import Derived.WalkKit
import Derived.Lib.Hide
import Derived.Test.YtjpnmmjgdiiahaaGreatDoorRows
import Derived.Deep.QuietTactic
import Derived.BigQuiet
import Derived.Deep.RegionHeld3
import Derived.Deep.DrawnRows
import Derived.Deep.DeepCutAuto
import Derived.Deep.CutBlock
import Derived.StillTailTactics
import Derived.Deep.AppendLies
import Derived.Maps.AppendAt
import Derived.Deep.OwnRows
import Derived.Shelf.Small.Bits
import Derived.Laws.BytesArg
import Derived.Laws.AppendOwnNone
import Derived.ProofKit
import Derived.OpenShut
import Derived.JoinedCond
import Derived.JoinedOf
import Derived.JoinedAt
import Derived.ChangeSame
import Derived.ChangeSlices
import Derived.RowKit3
import Derived.Carry
import Derived.Lib.SmallJoins
import Derived.Deep.LoopGhost
import Derived.IntWalk
import Derived.Laws.Cover2
import Derived.Laws.FloatArith
import Derived.Lib.ValidU
import Derived.Shelf.Unicode.ValidAny
import Derived.Lib.LaidU8T
import Derived.Lib.ValidLaws
import Derived.Lib.TrimUEq
import Derived.Deep.Strs
import Derived.Deep.Slices
import Derived.SizedLaws
import Derived.Deep.DeepHandedRow
import Derived.Deep.DeepWitnessRowRef
import Derived.Lib.LaidTab
import Derived.Lay
import Derived.Test.YtjpnmmjgdiiahaaGreatDoorCards
import Derived.Test.YtjpnmmjgdiiahaaGreatDoorTie
import Derived.Test.YtjpnmmjgdiiahaaGreatDoorU1
import Derived.Test.YtjpnmmjgdiiahaaGreatDoorU2
import Derived.Test.YtjpnmmjgdiiahaaGreatDoorU3
import Derived.Test.YtjpnmmjgdiiahaaGreatDoorU4
import Derived.Test.YtjpnmmjgdiiahaaGreatDoorU5
import Derived.Test.YtjpnmmjgdiiahaaGreatDoorU6
import Derived.Test.YtjpnmmjgdiiahaaGreatDoorU60
import Derived.Test.YtjpnmmjgdiiahaaGreatDoorU8
set_option linter.unusedVariables false
set_option linter.unusedSimpArgs false
namespace Go.Proofs.YtjpnmmjgdiiahaaGreatDoor
section
open Go.RowKit Hb Ht Hq
attribute [local go_sem ↓] Go.wp_at_zero Go.wp_at_succ
def LimI (w w':World) (g:Bool) (A:Option Addr) (n c:Nat) (l:List Nat) (z:Int):Prop:=LimP w' (fun b=>w.heap.size≤b∧b<w'.heap.size) A n c l∧n≤10000∧ival g l=z∧tooLong z=false
def DPost (w:World) (z1 z2 co:Int) (e:Ending) (w':World):Prop:=Below w.heap.size w w'∧∃ g1 A1 n1 c1 l1 g2 A2 n2 c2 l2,e = .returned (.tuple #[.agg #[.bool g1,.slice A1 n1 c1],.agg #[.bool g2,.slice A2 n2 c2],.int .i64 co])∧(co=0→LimI w w' g1 A1 n1 c1 l1 z1∧LimI w w' g2 A2 n2 c2 l2 z2)
theorem QRPost.two {w w':World} {z1 z2 co:Int} {e:Ending} (h:QRPost w z1 z2 co e w') (hz:co=0→tooLong z1=false∧tooLong z2=false):DPost w z1 z2 co e w':=by
 obtain ⟨v1,v2,rfl,h0,h1,hb⟩:=h
 by_cases hc:co=0
 ·obtain ⟨r1,r2,_⟩:=h0 hc
  obtain ⟨g1,A1,n1,c1,l1,rfl,d1,d2,d3⟩:=r1.num (hz hc).1
  obtain ⟨g2,A2,n2,c2,l2,rfl,e1,e2,e3⟩:=r2.num (hz hc).2
  exact ⟨hb,g1,A1,n1,c1,l1,g2,A2,n2,c2,l2,rfl,fun _=>⟨⟨d1,d2,d3,(hz hc).1⟩,⟨e1,e2,e3,(hz hc).2⟩⟩⟩
 ·obtain ⟨rfl,rfl⟩:=h1 hc
  exact ⟨hb,false,none,0,0,[],false,none,0,0,[],rfl,fun h=>absurd h hc⟩
theorem KBox.set2 {w:World} {B:Nat} {g:Bool} {A:Option Addr} {n c:Nat} (h:KBox w B g A n c) (g':Bool) (A':Option Addr) (n' c':Nat):KBox ((w.setCell ⟨B,0,none⟩ (.bool g')).setCell ⟨B,1,none⟩ (.slice A' n' c')) B g' A' n' c'∧w.grownBy ((w.setCell ⟨B,0,none⟩ (.bool g')).setCell ⟨B,1,none⟩ (.slice A' n' c')) (some B):=by
 constructor
 ·unfold KBox at h ⊢
  simp [World.setCell,Array.getElem?_modify,h]
 ·exact gb_setCell (gb_setCell (gb_refl w (some B)) 0 _) 1 _
theorem KBox.three (y:World) (g:Bool) (A:Option Addr) (n c:Nat) (g':Bool) (A':Option Addr) (n' c':Nat) :
  KBox (((y.alloc (.cells #[.bool g,.slice A n c] 39)).alloc (.cells #[.bool g',.slice A' n' c'] 39)).alloc (.cells #[.bool false,.slice none 0 0] 39)) y.heap.size g A n c ∧
  KBox (((y.alloc (.cells #[.bool g,.slice A n c] 39)).alloc (.cells #[.bool g',.slice A' n' c'] 39)).alloc (.cells #[.bool false,.slice none 0 0] 39)) (y.heap.size+1) g' A' n' c' ∧
  KBox (((y.alloc (.cells #[.bool g,.slice A n c] 39)).alloc (.cells #[.bool g',.slice A' n' c'] 39)).alloc (.cells #[.bool false,.slice none 0 0] 39)) (y.heap.size+1+1) false none 0 0:=by
 obtain ⟨Y1,e1⟩:∃ Y,y.alloc (.cells #[.bool g,.slice A n c] 39)=Y:=⟨_,rfl⟩
 have k1:KBox Y1 y.heap.size g A n c:=e1 ▸ KBox.new y g A n c
 have s1:Y1.heap.size=y.heap.size+1:=by rw [←e1,World.size_alloc]
 rw [e1]
 obtain ⟨Y2,e2⟩:∃ Y,Y1.alloc (.cells #[.bool g',.slice A' n' c'] 39)=Y:=⟨_,rfl⟩
 have k2:KBox Y2 Y1.heap.size g' A' n' c':=e2 ▸ KBox.new Y1 g' A' n' c'
 have s2:Y2.heap.size=Y1.heap.size+1:=by rw [←e2,World.size_alloc]
 have b2:Below Y1.heap.size Y1 Y2:=e2 ▸ (Below.refl _ _).alloc (Nat.le_refl _) _
 rw [e2]
 obtain ⟨Y3,e3⟩:∃ Y,Y2.alloc (.cells #[.bool false,.slice none 0 0] 39)=Y:=⟨_,rfl⟩
 have k3:KBox Y3 Y2.heap.size false none 0 0:=e3 ▸ KBox.new Y2 false none 0 0
 have b3:Below Y2.heap.size Y2 Y3:=e3 ▸ (Below.refl _ _).alloc (Nat.le_refl _) _
 rw [e3]
 rw [s1] at k2 s2
 rw [s2] at k3
 exact ⟨(k1.below b2 (by omega)).below b3 (by omega),k2.below b3 (by omega),k3⟩
theorem KBox.pair (y:World) (g:Bool) (A:Option Addr) (n c:Nat) (g':Bool) (A':Option Addr) (n' c':Nat) :
  KBox ((y.alloc (.cells #[.bool g,.slice A n c] 39)).alloc (.cells #[.bool g',.slice A' n' c'] 39)) y.heap.size g A n c ∧
  KBox ((y.alloc (.cells #[.bool g,.slice A n c] 39)).alloc (.cells #[.bool g',.slice A' n' c'] 39)) (y.heap.size+1) g' A' n' c':=by
 obtain ⟨Y1,e1⟩:∃ Y,y.alloc (.cells #[.bool g,.slice A n c] 39)=Y:=⟨_,rfl⟩
 have k1:KBox Y1 y.heap.size g A n c:=e1 ▸ KBox.new y g A n c
 have s1:Y1.heap.size=y.heap.size+1:=by rw [←e1,World.size_alloc]
 rw [e1]
 obtain ⟨Y2,e2⟩:∃ Y,Y1.alloc (.cells #[.bool g',.slice A' n' c'] 39)=Y:=⟨_,rfl⟩
 have k2:KBox Y2 Y1.heap.size g' A' n' c':=e2 ▸ KBox.new Y1 g' A' n' c'
 have b2:Below Y1.heap.size Y1 Y2:=e2 ▸ (Below.refl _ _).alloc (Nat.le_refl _) _
 rw [e2]
 rw [s1] at k2
 exact ⟨k1.below b2 (by omega),k2⟩
theorem IPost.fin {w W W':World} {z co:Int} {g:Bool} {A:Option Addr} {n c:Nat} {l:List Nat} {B:Nat} {w0:World} (hb:Below w.heap.size w W) (hB:w.heap.size≤B) (hB0:B<w0.heap.size) (hw0:w.heap.size≤w0.heap.size) (hl:co=0→LimI w0 W g A n c l z) (hg:W.grownBy W' (some B)):IPost w z co (.returned (.tuple #[.agg #[.bool g,.slice A n c],.int .i64 co])) W':=
 ⟨hb.grown hg hb.size (fun j e=>by injection e with e;omega),g,A,n,c,l,rfl,fun hc=>by
  obtain ⟨h1,h2,h3,h4⟩:=hl hc
  have hsz:W.heap.size≤W'.heap.size:=hg.size
  exact ⟨h1.keep fun b hb=>⟨⟨by have:=hb.1;omega,by have:=hb.2;omega⟩,hg.block b hb.2 (fun e=>by injection e with e;have:=hb.1;omega)⟩,h2,h3,h4⟩⟩
def quoI (a b:Int):Int × Int:=(a.tdiv b,if b=0 then 11 else 0)
def remI (a b:Int):Int × Int:=(a.tmod b,if b=0 then 11 else 0)
def dvE (a b:Int):Int:=if b=0 then 11 else if tooLong (dvD a b) then 10 else 0
def idivI (a b:Int):Int × Int:=(dvD a b,dvE a b)
def imodI (a b:Int):Int × Int:=(dvM a b,dvE a b)
theorem dvM_abs {a b:Int} (hb:b≠0):(dvM a b).natAbs≤b.natAbs:=by
 have h1:(a.tmod b).natAbs<b.natAbs:=by
  rw [Int.natAbs_tmod]
  exact Nat.mod_lt _ (by omega)
 unfold dvM
 cases hc:dvC a b with
 | false=>simp only [Bool.false_eq_true,if_false];omega
 | true=>
  simp only [if_true]
  unfold dvC at hc
  simp only [Bool.and_eq_true,decide_eq_true_eq] at hc
  obtain ⟨h2,h3⟩:=hc
  by_cases k1:a.tmod b<0 <;> by_cases k2:b<0
  ·simp [k1,k2] at h3
  ·omega
  ·omega
  ·simp [k1,k2] at h3
theorem QuoRem_num {q1 q2:Nv} {y:World} (h1:q1.At y (fun b=>b<y.heap.size)) (h2:q2.At y (fun b=>b<y.heap.size)) :
  Calls Tryz.prog 116 #[.agg #[.bool q1.g,.slice q1.A q1.n q1.c],.agg #[.bool q2.g,.slice q2.A q2.n q2.c]] y (DPost y ((ival q1.g q1.l).tdiv (ival q2.g q2.l)) ((ival q1.g q1.l).tmod (ival q2.g q2.l)) (if ival q2.g q2.l=0 then 11 else 0)):=by
 have h:=QuoRem_any q1.g q2.g (w:=y) (h1.lim.sl (fun b hb=>hb)) (h2.lim.sl (fun b hb=>hb)) (Nat.le_trans h1.sm (by decide)) (Nat.le_trans h2.sm (by decide)) (Nat.le_refl _) (Nat.le_refl _)
 rw [lng_ival rfl,lng_ival rfl,h1.sh,h2.sh,Bool.false_or,if_neg (by simp)] at h
 exact h.mono fun e w' hh=>hh.two fun _=>⟨long_mono (tdiv_abs9 _ _) h1.sh,long_mono (tmod_abs9 _ _) h1.sh⟩
theorem DivMod_num {q1 q2:Nv} {y:World} (h1:q1.At y (fun b=>b<y.heap.size)) (h2:q2.At y (fun b=>b<y.heap.size)) :
  Calls Tryz.prog 119 #[.agg #[.bool q1.g,.slice q1.A q1.n q1.c],.agg #[.bool q2.g,.slice q2.A q2.n q2.c]] y (DPost y (dvD (ival q1.g q1.l) (ival q2.g q2.l)) (dvM (ival q1.g q1.l) (ival q2.g q2.l)) (dvE (ival q1.g q1.l) (ival q2.g q2.l))):=by
 have h:=DivMod_any q1.g q2.g (w:=y) (h1.lim.sl (fun b hb=>hb)) (h2.lim.sl (fun b hb=>hb)) (Nat.le_trans h1.sm (by decide)) (Nat.le_trans h2.sm (by decide)) (Nat.le_refl _) (Nat.le_refl _)
 rw [lng_ival rfl,lng_ival rfl,h1.sh,h2.sh,Bool.false_or,show dvCode false (ival q1.g q1.l) (ival q2.g q2.l)=dvE (ival q1.g q1.l) (ival q2.g q2.l) from by unfold dvCode;rw [if_neg (by simp)];rfl] at h
 refine h.mono fun e w' hh=>hh.two fun hc=>?_
 unfold dvE at hc
 by_cases h0:ival q2.g q2.l=0
 ·rw [if_pos h0] at hc;omega
 ·rw [if_neg h0] at hc
  cases ht:tooLong (dvD (ival q1.g q1.l) (ival q2.g q2.l)) with
  | true=>rw [ht] at hc;simp at hc
  | false=>exact ⟨rfl,long_mono (dvM_abs h0) h2.sh⟩
set_option maxRecDepth 100000 in
set_option maxHeartbeats 2000000 in
theorem quo_fn:IFn 115 quoI:=⟨fun _ _=>by kernel_rfl,fun q1 q2 y h1 h2=>by
 have HC:=Lib.hid (fun (u:World) (hb:Below y.heap.size y u)=>QuoRem_num (h1.up hb) (h2.up hb))
 obtain ⟨g,A,n,c,l,f,b⟩:=q1
 obtain ⟨g',A',n',c',l',f',b'⟩:=q2
 simp only at HC
 have HB:=Lib.hid (show Below y.heap.size y (((y.alloc (.cells #[.bool g,.slice A n c] 39)).alloc (.cells #[.bool g',.slice A' n' c'] 39)).alloc (.cells #[.bool false,.slice none 0 0] 39)) from (((Below.refl _ _).alloc (Nat.le_refl _) _).alloc (by simp) _).alloc (by simp;omega) _)
 have HZ:=Lib.hid (show (((y.alloc (.cells #[.bool g,.slice A n c] 39)).alloc (.cells #[.bool g',.slice A' n' c'] 39)).alloc (.cells #[.bool false,.slice none 0 0] 39)).heap.size=y.heap.size+1+1+1 from by simp)
 have HKx:=Lib.hid (show KBox (((y.alloc (.cells #[.bool g,.slice A n c] 39)).alloc (.cells #[.bool g',.slice A' n' c'] 39)).alloc (.cells #[.bool false,.slice none 0 0] 39)) y.heap.size g A n c from (KBox.three y g A n c g' A' n' c').1)
 have HKy:=Lib.hid (show KBox (((y.alloc (.cells #[.bool g,.slice A n c] 39)).alloc (.cells #[.bool g',.slice A' n' c'] 39)).alloc (.cells #[.bool false,.slice none 0 0] 39)) (y.heap.size+1) g' A' n' c' from (KBox.three y g A n c g' A' n' c').2.1)
 have HKr:=Lib.hid (show KBox (((y.alloc (.cells #[.bool g,.slice A n c] 39)).alloc (.cells #[.bool g',.slice A' n' c'] 39)).alloc (.cells #[.bool false,.slice none 0 0] 39)) (y.heap.size+1+1) false none 0 0 from (KBox.three y g A n c g' A' n' c').2.2)
 clear h1 h2
 go_enter Tryz.func115,Tryz.ntmps115
 go_upto_region 1 with fail
 generalize ((y.alloc (.cells #[.bool g,.slice A n c] 39)).alloc (.cells #[.bool g',.slice A' n' c'] 39)).alloc (.cells #[.bool false,.slice none 0 0] 39)=u0 at *
 obtain ⟨a0,a1⟩:=HKx.out.cells
 obtain ⟨b0,b1⟩:=HKy.out.cells
 have HC0:=Lib.hid (HC.out u0 HB.out)
 clear HC
 obtain ⟨z1,hz1⟩:∃ z,(ival g l).tdiv (ival g' l')=z:=⟨_,rfl⟩
 obtain ⟨z2,hz2⟩:∃ z,(ival g l).tmod (ival g' l')=z:=⟨_,rfl⟩
 obtain ⟨co,hco⟩:∃ z,(if ival g' l'=0 then (11:Int) else 0)=z:=⟨_,rfl⟩
 rw [hz1,hz2,hco] at HC0
 have HV:=Lib.hid (show (quoI (ival g l) (ival g' l')).1=z1∧(quoI (ival g l) (ival g' l')).2=co from ⟨hz1,hco⟩)
 clear hz1 hz2 hco
 go_wp2_with fail
 (with_reducible refine HC0.out.mono ?_)
 rintro e u1 ⟨hb1,g1,A1,n1,c1,l1,g2,A2,n2,c2,l2,rfl,hL⟩
 have HL:=Lib.hid hL
 have hB1:=HB.out.trans (hb1.mono HB.out.size)
 have HBy:=Lib.hid (show Below u1.heap.size u1 ((u1.alloc (.cells #[.bool g1,.slice A1 n1 c1] 39)).alloc (.cells #[.bool g2,.slice A2 n2 c2] 39)) from ((Below.refl _ _).alloc (Nat.le_refl _) _).alloc (by simp) _)
 have HK1:=Lib.hid (show KBox ((u1.alloc (.cells #[.bool g1,.slice A1 n1 c1] 39)).alloc (.cells #[.bool g2,.slice A2 n2 c2] 39)) u1.heap.size g1 A1 n1 c1 from (KBox.pair u1 g1 A1 n1 c1 g2 A2 n2 c2).1)
 have HK2:=Lib.hid (show KBox ((u1.alloc (.cells #[.bool g1,.slice A1 n1 c1] 39)).alloc (.cells #[.bool g2,.slice A2 n2 c2] 39)) (u1.heap.size+1) g2 A2 n2 c2 from (KBox.pair u1 g1 A1 n1 c1 g2 A2 n2 c2).2)
 have HB2:=Lib.hid (hB1.trans (HBy.out.mono hB1.size))
 have HKs:=Lib.hid ((HKr.out.below hb1 HKr.out.lt).below HBy.out (Nat.lt_of_lt_of_le HKr.out.lt hb1.size))
 have HLk:=Lib.hid (show co=0→LimI u0 ((u1.alloc (.cells #[.bool g1,.slice A1 n1 c1] 39)).alloc (.cells #[.bool g2,.slice A2 n2 c2] 39)) g1 A1 n1 c1 l1 z1 from fun hc=>by
  obtain ⟨d1,d2,d3,d4⟩:=(HL.out hc).1
  exact ⟨d1.keep fun b hb=>⟨⟨hb.1,Nat.lt_of_lt_of_le hb.2 HBy.out.size⟩,HBy.out.block b hb.2⟩,d2,d3,d4⟩)
 clear hb1 hL hB1 HL a0 a1 b0 b1 HKx HKy HKr HC0
 go_upto_region 2 with fail
 generalize (u1.alloc (.cells #[.bool g1,.slice A1 n1 c1] 39)).alloc (.cells #[.bool g2,.slice A2 n2 c2] 39)=u2 at *
 obtain ⟨k0,k1⟩:=HK1.out.cells
 obtain ⟨c0',c1'⟩:=HKs.out.cells
 obtain ⟨f0,f1⟩:=HKs.out.frozens
 have HS:=Lib.hid (HKs.out.set2 g1 A1 n1 c1)
 go_wp2_with fail
 obtain ⟨r0,r1⟩:=HS.out.1.cells
 refine bodyPost_ret (v:=.tuple #[.agg #[.bool g1,.slice A1 n1 c1],.int .i64 co]) (by simp [results,Tryz.results115,go_sem,r0,r1]) rfl ?_
 have hz:=HZ.out
 show IPost y (quoI (ival g l) (ival g' l')).1 (quoI (ival g l) (ival g' l')).2 _ _
 rw [HV.out.1,HV.out.2]
 exact IPost.fin (w0:=u0) HB2.out (by omega) (by omega) HB.out.size HLk.out HS.out.2⟩
set_option maxRecDepth 100000 in
set_option maxHeartbeats 2000000 in
theorem rem_fn:IFn 117 remI:=⟨fun _ _=>by kernel_rfl,fun q1 q2 y h1 h2=>by
 have HC:=Lib.hid (fun (u:World) (hb:Below y.heap.size y u)=>QuoRem_num (h1.up hb) (h2.up hb))
 obtain ⟨g,A,n,c,l,f,b⟩:=q1
 obtain ⟨g',A',n',c',l',f',b'⟩:=q2
 simp only at HC
 have HB:=Lib.hid (show Below y.heap.size y (((y.alloc (.cells #[.bool g,.slice A n c] 39)).alloc (.cells #[.bool g',.slice A' n' c'] 39)).alloc (.cells #[.bool false,.slice none 0 0] 39)) from (((Below.refl _ _).alloc (Nat.le_refl _) _).alloc (by simp) _).alloc (by simp;omega) _)
 have HZ:=Lib.hid (show (((y.alloc (.cells #[.bool g,.slice A n c] 39)).alloc (.cells #[.bool g',.slice A' n' c'] 39)).alloc (.cells #[.bool false,.slice none 0 0] 39)).heap.size=y.heap.size+1+1+1 from by simp)
 have HKx:=Lib.hid (show KBox (((y.alloc (.cells #[.bool g,.slice A n c] 39)).alloc (.cells #[.bool g',.slice A' n' c'] 39)).alloc (.cells #[.bool false,.slice none 0 0] 39)) y.heap.size g A n c from (KBox.three y g A n c g' A' n' c').1)
 have HKy:=Lib.hid (show KBox (((y.alloc (.cells #[.bool g,.slice A n c] 39)).alloc (.cells #[.bool g',.slice A' n' c'] 39)).alloc (.cells #[.bool false,.slice none 0 0] 39)) (y.heap.size+1) g' A' n' c' from (KBox.three y g A n c g' A' n' c').2.1)
 have HKr:=Lib.hid (show KBox (((y.alloc (.cells #[.bool g,.slice A n c] 39)).alloc (.cells #[.bool g',.slice A' n' c'] 39)).alloc (.cells #[.bool false,.slice none 0 0] 39)) (y.heap.size+1+1) false none 0 0 from (KBox.three y g A n c g' A' n' c').2.2)
 clear h1 h2
 go_enter Tryz.func117,Tryz.ntmps117
 go_upto_region 1 with fail
 generalize ((y.alloc (.cells #[.bool g,.slice A n c] 39)).alloc (.cells #[.bool g',.slice A' n' c'] 39)).alloc (.cells #[.bool false,.slice none 0 0] 39)=u0 at *
 obtain ⟨a0,a1⟩:=HKx.out.cells
 obtain ⟨b0,b1⟩:=HKy.out.cells
 have HC0:=Lib.hid (HC.out u0 HB.out)
 clear HC
 obtain ⟨z1,hz1⟩:∃ z,(ival g l).tdiv (ival g' l')=z:=⟨_,rfl⟩
 obtain ⟨z2,hz2⟩:∃ z,(ival g l).tmod (ival g' l')=z:=⟨_,rfl⟩
 obtain ⟨co,hco⟩:∃ z,(if ival g' l'=0 then (11:Int) else 0)=z:=⟨_,rfl⟩
 rw [hz1,hz2,hco] at HC0
 have HV:=Lib.hid (show (remI (ival g l) (ival g' l')).1=z2∧(remI (ival g l) (ival g' l')).2=co from ⟨hz2,hco⟩)
 clear hz1 hz2 hco
 go_wp2_with fail
 (with_reducible refine HC0.out.mono ?_)
 rintro e u1 ⟨hb1,g1,A1,n1,c1,l1,g2,A2,n2,c2,l2,rfl,hL⟩
 have HL:=Lib.hid hL
 have hB1:=HB.out.trans (hb1.mono HB.out.size)
 have HBy:=Lib.hid (show Below u1.heap.size u1 ((u1.alloc (.cells #[.bool g1,.slice A1 n1 c1] 39)).alloc (.cells #[.bool g2,.slice A2 n2 c2] 39)) from ((Below.refl _ _).alloc (Nat.le_refl _) _).alloc (by simp) _)
 have HK1:=Lib.hid (show KBox ((u1.alloc (.cells #[.bool g1,.slice A1 n1 c1] 39)).alloc (.cells #[.bool g2,.slice A2 n2 c2] 39)) u1.heap.size g1 A1 n1 c1 from (KBox.pair u1 g1 A1 n1 c1 g2 A2 n2 c2).1)
 have HK2:=Lib.hid (show KBox ((u1.alloc (.cells #[.bool g1,.slice A1 n1 c1] 39)).alloc (.cells #[.bool g2,.slice A2 n2 c2] 39)) (u1.heap.size+1) g2 A2 n2 c2 from (KBox.pair u1 g1 A1 n1 c1 g2 A2 n2 c2).2)
 have HB2:=Lib.hid (hB1.trans (HBy.out.mono hB1.size))
 have HKs:=Lib.hid ((HKr.out.below hb1 HKr.out.lt).below HBy.out (Nat.lt_of_lt_of_le HKr.out.lt hb1.size))
 have HLk:=Lib.hid (show co=0→LimI u0 ((u1.alloc (.cells #[.bool g1,.slice A1 n1 c1] 39)).alloc (.cells #[.bool g2,.slice A2 n2 c2] 39)) g2 A2 n2 c2 l2 z2 from fun hc=>by
  obtain ⟨d1,d2,d3,d4⟩:=(HL.out hc).2
  exact ⟨d1.keep fun b hb=>⟨⟨hb.1,Nat.lt_of_lt_of_le hb.2 HBy.out.size⟩,HBy.out.block b hb.2⟩,d2,d3,d4⟩)
 clear hb1 hL hB1 HL a0 a1 b0 b1 HKx HKy HKr HC0
 go_upto_region 2 with fail
 generalize (u1.alloc (.cells #[.bool g1,.slice A1 n1 c1] 39)).alloc (.cells #[.bool g2,.slice A2 n2 c2] 39)=u2 at *
 obtain ⟨k0,k1⟩:=HK2.out.cells
 obtain ⟨c0',c1'⟩:=HKs.out.cells
 obtain ⟨f0,f1⟩:=HKs.out.frozens
 have HS:=Lib.hid (HKs.out.set2 g2 A2 n2 c2)
 go_wp2_with fail
 obtain ⟨r0,r1⟩:=HS.out.1.cells
 refine bodyPost_ret (v:=.tuple #[.agg #[.bool g2,.slice A2 n2 c2],.int .i64 co]) (by simp [results,Tryz.results117,go_sem,r0,r1]) rfl ?_
 have hz:=HZ.out
 show IPost y (remI (ival g l) (ival g' l')).1 (remI (ival g l) (ival g' l')).2 _ _
 rw [HV.out.1,HV.out.2]
 exact IPost.fin (w0:=u0) HB2.out (by omega) (by omega) HB.out.size HLk.out HS.out.2⟩
set_option maxRecDepth 100000 in
set_option maxHeartbeats 2000000 in
theorem idiv_fn:IFn 118 idivI:=⟨fun _ _=>by kernel_rfl,fun q1 q2 y h1 h2=>by
 have HC:=Lib.hid (fun (u:World) (hb:Below y.heap.size y u)=>DivMod_num (h1.up hb) (h2.up hb))
 obtain ⟨g,A,n,c,l,f,b⟩:=q1
 obtain ⟨g',A',n',c',l',f',b'⟩:=q2
 simp only at HC
 have HB:=Lib.hid (show Below y.heap.size y (((y.alloc (.cells #[.bool g,.slice A n c] 39)).alloc (.cells #[.bool g',.slice A' n' c'] 39)).alloc (.cells #[.bool false,.slice none 0 0] 39)) from (((Below.refl _ _).alloc (Nat.le_refl _) _).alloc (by simp) _).alloc (by simp;omega) _)
 have HZ:=Lib.hid (show (((y.alloc (.cells #[.bool g,.slice A n c] 39)).alloc (.cells #[.bool g',.slice A' n' c'] 39)).alloc (.cells #[.bool false,.slice none 0 0] 39)).heap.size=y.heap.size+1+1+1 from by simp)
 have HKx:=Lib.hid (show KBox (((y.alloc (.cells #[.bool g,.slice A n c] 39)).alloc (.cells #[.bool g',.slice A' n' c'] 39)).alloc (.cells #[.bool false,.slice none 0 0] 39)) y.heap.size g A n c from (KBox.three y g A n c g' A' n' c').1)
 have HKy:=Lib.hid (show KBox (((y.alloc (.cells #[.bool g,.slice A n c] 39)).alloc (.cells #[.bool g',.slice A' n' c'] 39)).alloc (.cells #[.bool false,.slice none 0 0] 39)) (y.heap.size+1) g' A' n' c' from (KBox.three y g A n c g' A' n' c').2.1)
 have HKr:=Lib.hid (show KBox (((y.alloc (.cells #[.bool g,.slice A n c] 39)).alloc (.cells #[.bool g',.slice A' n' c'] 39)).alloc (.cells #[.bool false,.slice none 0 0] 39)) (y.heap.size+1+1) false none 0 0 from (KBox.three y g A n c g' A' n' c').2.2)
 clear h1 h2
 go_enter Tryz.func118,Tryz.ntmps118
 go_upto_region 1 with fail
 generalize ((y.alloc (.cells #[.bool g,.slice A n c] 39)).alloc (.cells #[.bool g',.slice A' n' c'] 39)).alloc (.cells #[.bool false,.slice none 0 0] 39)=u0 at *
 obtain ⟨a0,a1⟩:=HKx.out.cells
 obtain ⟨b0,b1⟩:=HKy.out.cells
 have HC0:=Lib.hid (HC.out u0 HB.out)
 clear HC
 obtain ⟨z1,hz1⟩:∃ z,dvD (ival g l) (ival g' l')=z:=⟨_,rfl⟩
 obtain ⟨z2,hz2⟩:∃ z,dvM (ival g l) (ival g' l')=z:=⟨_,rfl⟩
 obtain ⟨co,hco⟩:∃ z,dvE (ival g l) (ival g' l')=z:=⟨_,rfl⟩
 rw [hz1,hz2,hco] at HC0
 have HV:=Lib.hid (show (idivI (ival g l) (ival g' l')).1=z1∧(idivI (ival g l) (ival g' l')).2=co from ⟨hz1,hco⟩)
 clear hz1 hz2 hco
 go_wp2_with fail
 (with_reducible refine HC0.out.mono ?_)
 rintro e u1 ⟨hb1,g1,A1,n1,c1,l1,g2,A2,n2,c2,l2,rfl,hL⟩
 have HL:=Lib.hid hL
 have hB1:=HB.out.trans (hb1.mono HB.out.size)
 have HBy:=Lib.hid (show Below u1.heap.size u1 ((u1.alloc (.cells #[.bool g1,.slice A1 n1 c1] 39)).alloc (.cells #[.bool g2,.slice A2 n2 c2] 39)) from ((Below.refl _ _).alloc (Nat.le_refl _) _).alloc (by simp) _)
 have HK1:=Lib.hid (show KBox ((u1.alloc (.cells #[.bool g1,.slice A1 n1 c1] 39)).alloc (.cells #[.bool g2,.slice A2 n2 c2] 39)) u1.heap.size g1 A1 n1 c1 from (KBox.pair u1 g1 A1 n1 c1 g2 A2 n2 c2).1)
 have HK2:=Lib.hid (show KBox ((u1.alloc (.cells #[.bool g1,.slice A1 n1 c1] 39)).alloc (.cells #[.bool g2,.slice A2 n2 c2] 39)) (u1.heap.size+1) g2 A2 n2 c2 from (KBox.pair u1 g1 A1 n1 c1 g2 A2 n2 c2).2)
 have HB2:=Lib.hid (hB1.trans (HBy.out.mono hB1.size))
 have HKs:=Lib.hid ((HKr.out.below hb1 HKr.out.lt).below HBy.out (Nat.lt_of_lt_of_le HKr.out.lt hb1.size))
 have HLk:=Lib.hid (show co=0→LimI u0 ((u1.alloc (.cells #[.bool g1,.slice A1 n1 c1] 39)).alloc (.cells #[.bool g2,.slice A2 n2 c2] 39)) g1 A1 n1 c1 l1 z1 from fun hc=>by
  obtain ⟨d1,d2,d3,d4⟩:=(HL.out hc).1
  exact ⟨d1.keep fun b hb=>⟨⟨hb.1,Nat.lt_of_lt_of_le hb.2 HBy.out.size⟩,HBy.out.block b hb.2⟩,d2,d3,d4⟩)
 clear hb1 hL hB1 HL a0 a1 b0 b1 HKx HKy HKr HC0
 go_upto_region 2 with fail
 generalize (u1.alloc (.cells #[.bool g1,.slice A1 n1 c1] 39)).alloc (.cells #[.bool g2,.slice A2 n2 c2] 39)=u2 at *
 obtain ⟨k0,k1⟩:=HK1.out.cells
 obtain ⟨c0',c1'⟩:=HKs.out.cells
 obtain ⟨f0,f1⟩:=HKs.out.frozens
 have HS:=Lib.hid (HKs.out.set2 g1 A1 n1 c1)
 go_wp2_with fail
 obtain ⟨r0,r1⟩:=HS.out.1.cells
 refine bodyPost_ret (v:=.tuple #[.agg #[.bool g1,.slice A1 n1 c1],.int .i64 co]) (by simp [results,Tryz.results118,go_sem,r0,r1]) rfl ?_
 have hz:=HZ.out
 show IPost y (idivI (ival g l) (ival g' l')).1 (idivI (ival g l) (ival g' l')).2 _ _
 rw [HV.out.1,HV.out.2]
 exact IPost.fin (w0:=u0) HB2.out (by omega) (by omega) HB.out.size HLk.out HS.out.2⟩
set_option maxRecDepth 100000 in
set_option maxHeartbeats 2000000 in
theorem imod_fn:IFn 120 imodI:=⟨fun _ _=>by kernel_rfl,fun q1 q2 y h1 h2=>by
 have HC:=Lib.hid (fun (u:World) (hb:Below y.heap.size y u)=>DivMod_num (h1.up hb) (h2.up hb))
 obtain ⟨g,A,n,c,l,f,b⟩:=q1
 obtain ⟨g',A',n',c',l',f',b'⟩:=q2
 simp only at HC
 have HB:=Lib.hid (show Below y.heap.size y (((y.alloc (.cells #[.bool g,.slice A n c] 39)).alloc (.cells #[.bool g',.slice A' n' c'] 39)).alloc (.cells #[.bool false,.slice none 0 0] 39)) from (((Below.refl _ _).alloc (Nat.le_refl _) _).alloc (by simp) _).alloc (by simp;omega) _)
 have HZ:=Lib.hid (show (((y.alloc (.cells #[.bool g,.slice A n c] 39)).alloc (.cells #[.bool g',.slice A' n' c'] 39)).alloc (.cells #[.bool false,.slice none 0 0] 39)).heap.size=y.heap.size+1+1+1 from by simp)
 have HKx:=Lib.hid (show KBox (((y.alloc (.cells #[.bool g,.slice A n c] 39)).alloc (.cells #[.bool g',.slice A' n' c'] 39)).alloc (.cells #[.bool false,.slice none 0 0] 39)) y.heap.size g A n c from (KBox.three y g A n c g' A' n' c').1)
 have HKy:=Lib.hid (show KBox (((y.alloc (.cells #[.bool g,.slice A n c] 39)).alloc (.cells #[.bool g',.slice A' n' c'] 39)).alloc (.cells #[.bool false,.slice none 0 0] 39)) (y.heap.size+1) g' A' n' c' from (KBox.three y g A n c g' A' n' c').2.1)
 have HKr:=Lib.hid (show KBox (((y.alloc (.cells #[.bool g,.slice A n c] 39)).alloc (.cells #[.bool g',.slice A' n' c'] 39)).alloc (.cells #[.bool false,.slice none 0 0] 39)) (y.heap.size+1+1) false none 0 0 from (KBox.three y g A n c g' A' n' c').2.2)
 clear h1 h2
 go_enter Tryz.func120,Tryz.ntmps120
 go_upto_region 1 with fail
 generalize ((y.alloc (.cells #[.bool g,.slice A n c] 39)).alloc (.cells #[.bool g',.slice A' n' c'] 39)).alloc (.cells #[.bool false,.slice none 0 0] 39)=u0 at *
 obtain ⟨a0,a1⟩:=HKx.out.cells
 obtain ⟨b0,b1⟩:=HKy.out.cells
 have HC0:=Lib.hid (HC.out u0 HB.out)
 clear HC
 obtain ⟨z1,hz1⟩:∃ z,dvD (ival g l) (ival g' l')=z:=⟨_,rfl⟩
 obtain ⟨z2,hz2⟩:∃ z,dvM (ival g l) (ival g' l')=z:=⟨_,rfl⟩
 obtain ⟨co,hco⟩:∃ z,dvE (ival g l) (ival g' l')=z:=⟨_,rfl⟩
 rw [hz1,hz2,hco] at HC0
 have HV:=Lib.hid (show (imodI (ival g l) (ival g' l')).1=z2∧(imodI (ival g l) (ival g' l')).2=co from ⟨hz2,hco⟩)
 clear hz1 hz2 hco
 go_wp2_with fail
 (with_reducible refine HC0.out.mono ?_)
 rintro e u1 ⟨hb1,g1,A1,n1,c1,l1,g2,A2,n2,c2,l2,rfl,hL⟩
 have HL:=Lib.hid hL
 have hB1:=HB.out.trans (hb1.mono HB.out.size)
 have HBy:=Lib.hid (show Below u1.heap.size u1 ((u1.alloc (.cells #[.bool g1,.slice A1 n1 c1] 39)).alloc (.cells #[.bool g2,.slice A2 n2 c2] 39)) from ((Below.refl _ _).alloc (Nat.le_refl _) _).alloc (by simp) _)
 have HK1:=Lib.hid (show KBox ((u1.alloc (.cells #[.bool g1,.slice A1 n1 c1] 39)).alloc (.cells #[.bool g2,.slice A2 n2 c2] 39)) u1.heap.size g1 A1 n1 c1 from (KBox.pair u1 g1 A1 n1 c1 g2 A2 n2 c2).1)
 have HK2:=Lib.hid (show KBox ((u1.alloc (.cells #[.bool g1,.slice A1 n1 c1] 39)).alloc (.cells #[.bool g2,.slice A2 n2 c2] 39)) (u1.heap.size+1) g2 A2 n2 c2 from (KBox.pair u1 g1 A1 n1 c1 g2 A2 n2 c2).2)
 have HB2:=Lib.hid (hB1.trans (HBy.out.mono hB1.size))
 have HKs:=Lib.hid ((HKr.out.below hb1 HKr.out.lt).below HBy.out (Nat.lt_of_lt_of_le HKr.out.lt hb1.size))
 have HLk:=Lib.hid (show co=0→LimI u0 ((u1.alloc (.cells #[.bool g1,.slice A1 n1 c1] 39)).alloc (.cells #[.bool g2,.slice A2 n2 c2] 39)) g2 A2 n2 c2 l2 z2 from fun hc=>by
  obtain ⟨d1,d2,d3,d4⟩:=(HL.out hc).2
  exact ⟨d1.keep fun b hb=>⟨⟨hb.1,Nat.lt_of_lt_of_le hb.2 HBy.out.size⟩,HBy.out.block b hb.2⟩,d2,d3,d4⟩)
 clear hb1 hL hB1 HL a0 a1 b0 b1 HKx HKy HKr HC0
 go_upto_region 2 with fail
 generalize (u1.alloc (.cells #[.bool g1,.slice A1 n1 c1] 39)).alloc (.cells #[.bool g2,.slice A2 n2 c2] 39)=u2 at *
 obtain ⟨k0,k1⟩:=HK2.out.cells
 obtain ⟨c0',c1'⟩:=HKs.out.cells
 obtain ⟨f0,f1⟩:=HKs.out.frozens
 have HS:=Lib.hid (HKs.out.set2 g2 A2 n2 c2)
 go_wp2_with fail
 obtain ⟨r0,r1⟩:=HS.out.1.cells
 refine bodyPost_ret (v:=.tuple #[.agg #[.bool g2,.slice A2 n2 c2],.int .i64 co]) (by simp [results,Tryz.results120,go_sem,r0,r1]) rfl ?_
 have hz:=HZ.out
 show IPost y (imodI (ival g l) (ival g' l')).1 (imodI (ival g l) (ival g' l')).2 _ _
 rw [HV.out.1,HV.out.2]
 exact IPost.fin (w0:=u0) HB2.out (by omega) (by omega) HB.out.size HLk.out HS.out.2⟩
end
section
open Go.RowKit Hb Ht Hq
attribute [local go_sem ↓] Go.wp_at_zero Go.wp_at_succ
attribute [local go_sem] run_store_float
set_option maxRecDepth 100000 in
set_option maxHeartbeats 2000000 in
theorem wone_ok {lo:Nat} {q1 q2:Nv} {w:World} {A:Option Addr} {c D:Nat} {fi:FuncId} {I:Int→Int→Int × Int} (h:NRd lo w A 2 [q1,q2]) (hI:IFn fi I) (hD:UBox w D 134 (.func (.func fi) #[] #[])) :
  Calls Tryz.prog 104 #[.slice A 2 c,.pointer (some ⟨D,0,none⟩)] w (NPost w (intsR I q1.nm q2.nm)):=by
 have HC:=Lib.hid (fun (y:World) (hy:Below w.heap.size w y)=>ints_ok (cc:=c) (h.up hy) hI)
 have HB:=Lib.hid (show Below w.heap.size w (w.alloc (.cells nought.vals.toArray 70)) from (Below.refl _ _).alloc (Nat.le_refl _) _)
 have HZ:=Lib.hid (World.size_alloc w (.cells nought.vals.toArray 70))
 have HX:=Lib.hid (NBox.new w nought)
 have HD:=Lib.hid (hD.below HB.out hD.lt)
 clear h hD
 generalize intsR I q1.nm q2.nm=R at *
 simp only [nought,Nv.vals] at HB HZ HX HD
 go_enter Tryz.func104,Tryz.ntmps104
 go_upto_region 1 with fail
 generalize w.alloc (.cells #[.bool false,.slice none 0 0,.float .f64 0,.bool false] 70)=w0 at *
 have q0:=HD.out.cell
 have HC0:=Lib.hid (HC.out w0 HB.out)
 clear HC
 go_wp2_with fail
 (with_reducible refine HC0.out.mono ?_)
 rintro e w2 ⟨hb2,q,ev,rfl,ho2⟩
 have hX2:=HX.out.below hb2 HX.out.lt
 obtain ⟨c0,c1',c2,c3⟩:=hX2.cells
 obtain ⟨z0',z1,z2,z3⟩:=hX2.frozens
 have hS:=Lib.hid (hX2.set4 q)
 have HB2:=Lib.hid (HB.out.trans (hb2.mono HB.out.size))
 have HO2:=Lib.hid (ho2.lower (lo':=w.heap.size) HB.out.size (Nat.le_refl _))
 have HX2:=Lib.hid hX2
 obtain ⟨gq,Aq,nq,cq,lq,fq,bq⟩:=q
 simp only [nought] at c0 c1' c2 c3 hS
 simp only [Nv.v,Nv.vals]
 clear hX2 hb2 ho2 HC0 q0
 go_wp2_with fail
 obtain ⟨r0,r1,r2,r3⟩:=hS.out.1.cells
 simp only at r0 r1 r2 r3
 refine bodyPost_ret (v:=.tuple #[.agg #[.bool gq,.slice Aq nq cq,.float .f64 fq,.bool bq],ev]) (by simp [results,Tryz.results104,go_sem,r0,r1,r2,r3]) rfl ?_
 have hz:=HZ.out
 exact NPost.fin (q:=⟨gq,Aq,nq,cq,lq,fq,bq⟩) HB2.out (by omega) HX2.out (HO2.out.lower (Nat.le_refl _) (by omega)) hS.out.2
theorem ints_do {fi:FuncId} {I:Int→Int→Int × Int} (hI:IFn fi I) {w0:World} {D:Nat} (hD:UBox w0 D 134 (.func (.func fi) #[] #[])) :
  DoP 104 #[.pointer (some ⟨D,0,none⟩)] (intsR I) w0:=
 ⟨fun _ _=>by kernel_rfl,fun lo y A c q1 q2 hy hlo hr=>(wone_ok hr hI (hD.below hy hD.lt)).mono fun e w' h=>NPostL.low h hlo⟩
def binK8 (nm:List UInt8):Option (Nm→Nm→Rs):=if nm = [43] then some (bothR sumI sumF) else if nm = [45] then some (bothR difI difF) else if nm = [42] then some (bothR mulI mulF) else if nm = [47] then some divR
 else if nm = [47,47] then some (intsR quoI) else if nm = [114,101,109] then some (intsR remI) else if nm = [100,105,118] then some (intsR idivI) else if nm = [109,111,100] then some (intsR imodI) else none
theorem kok8:KOk binK8:=by
 intro w0 w b D0 E0 D1 E1 D2 E2 D4 D5 D6 D7 D14 D15 D16 D17 h
 refine ⟨_,_,h.fm,fun nm f hf=>?_⟩
 unfold binK8 at hf
 split at hf
 ·rename_i e;subst e;injection hf with hf;subst hf
  exact ⟨_,_,rfl,any_do Add_fn add_fn (h.box (D0,_,_) (by simp [twoX])).1 (h.box (E0,_,_) (by simp [twoX])).1⟩
 split at hf
 ·rename_i e;subst e;injection hf with hf;subst hf
  exact ⟨_,_,rfl,any_do Sub_fn sub_fn (h.box (D1,_,_) (by simp [twoX])).1 (h.box (E1,_,_) (by simp [twoX])).1⟩
 split at hf
 ·rename_i e;subst e;injection hf with hf;subst hf
  exact ⟨_,_,rfl,any_do Mul_fn mul_fn (h.box (D2,_,_) (by simp [twoX])).1 (h.box (E2,_,_) (by simp [twoX])).1⟩
 split at hf
 ·rename_i e;subst e;injection hf with hf;subst hf
  exact ⟨_,_,rfl,div_do w⟩
 split at hf
 ·rename_i e;subst e;injection hf with hf;subst hf
  exact ⟨_,_,rfl,ints_do quo_fn (h.box (D4,_,_) (by simp [twoX])).1⟩
 split at hf
 ·rename_i e;subst e;injection hf with hf;subst hf
  exact ⟨_,_,rfl,ints_do rem_fn (h.box (D5,_,_) (by simp [twoX])).1⟩
 split at hf
 ·rename_i e;subst e;injection hf with hf;subst hf
  exact ⟨_,_,rfl,ints_do idiv_fn (h.box (D6,_,_) (by simp [twoX])).1⟩
 split at hf
 ·rename_i e;subst e;injection hf with hf;subst hf
  exact ⟨_,_,rfl,ints_do imod_fn (h.box (D7,_,_) (by simp [twoX])).1⟩
 ·cases hf
end
end Go.Proofs.YtjpnmmjgdiiahaaGreatDoor
set_option exponentiation.threshold 5000
namespace Go.Proofs.YtjpnmmjgdiiahaaGreatDoor
section
open Go.RowKit Hb Ht Hq
theorem short_of {z:Int} (h:z.natAbs<2 ^ 4096):tooLong z=false:=by
 rw [tooLong_iff]
 exact decide_eq_false (fun h2=>h2 h)
theorem decB_back (z:Int):pVal (decB z) 10=z:=(txtZ_back z (r:=10) (by decide) (by decide)).1
theorem decB_code {z:Int} (h:tooLong z=false):pCode (decB z) 10=0:=by
 have h2:=(txtZ_back z (r:=10) (by decide) (by decide)).2
 unfold pCode
 rw [if_neg (by decide),show pBad (decB z) 10=false from h2]
 simp only [Bool.false_eq_true,if_false]
 rw [decB_back,h]
 rfl
theorem decB_canon {z:Int} (h:tooLong z=false):canonB (decB z)=true:=by
 unfold canonB
 rw [decB_code h,decB_back]
 simp [decB]
theorem dv_parts (a b:Int):dvD a b * b+dvM a b=a:=by
 have h:=Int.mul_tdiv_add_tmod a b
 unfold dvD dvM
 cases dvC a b with
 | false=>simp only [Bool.false_eq_true,if_false];rw [Int.mul_comm];exact h
 | true=>
  simp only [if_true]
  rw [Int.add_mul,Int.mul_comm (a.tdiv b) b]
  have:(-1:Int) * b = -b:=by omega
  omega
theorem tdm_parts (a b:Int):a.tdiv b * b+a.tmod b=a:=by
 have h:=Int.mul_tdiv_add_tmod a b
 rw [Int.mul_comm] at h
 exact h
theorem ev_dec {K:List UInt8→Option (Nm→Nm→Rs)} {z:Int} (h:tooLong z=false):Ev K (numT (.int z)) (.ok (.int z)):=by
 have:Ev K (numT (.int z)) (.ok (.int (pVal (decB z) 10))):=.num rfl ⟨fun _=>decB_code h,fun e=>absurd e (by show ¬(3:Int)=4;decide)⟩
 rwa [decB_back] at this
def partsT (q r:List UInt8) (x y:Tm):Tm:=cmpT [43] [cmpT [42] [cmpT q [x,y],y],cmpT r [x,y]]
def backT (x y:Tm):Tm:=cmpT [45] [cmpT [43] [x,y],y]
theorem whole_short {z:Int} (h:tooLong z=false):wholeR z (err (tooLong z)) = .ok (.int z):=by
 unfold wholeR
 rw [h]
 rfl
theorem parts_ev {q r:List UInt8} {Iq Ir:Int→Int→Int × Int} {a b Q R:Int} (hq:binK8 q=some (intsR Iq)) (hr:binK8 r=some (intsR Ir)) (ha:tooLong a=false) (hb:tooLong b=false) (hQ:Iq a b=(Q,0)) (hR:Ir a b=(R,0)) (hl:tooLong (Q * b)=false) (hs:Q * b+R=a) :
  Ev binK8 (partsT q r (numT (.int a)) (numT (.int b))) (.ok (.int a)):=by
 have h:Ev binK8 (partsT q r (numT (.int a)) (numT (.int b))) (seqR (seqR (seqR (.ok (.int a)) (.ok (.int b)) (intsR Iq)) (.ok (.int b)) (bothR mulI mulF)) (seqR (.ok (.int a)) (.ok (.int b)) (intsR Ir)) (bothR sumI sumF)):=
  .two rfl (.two rfl (.two hq (ev_dec ha) (ev_dec hb)) (ev_dec hb)) (.two hr (ev_dec ha) (ev_dec hb))
 have e1:seqR (.ok (.int a)) (.ok (.int b)) (intsR Iq) = .ok (.int Q):=by
  show wholeR (Iq a b).1 (Iq a b).2=_
  rw [hQ];rfl
 have e2:seqR (.ok (.int a)) (.ok (.int b)) (intsR Ir) = .ok (.int R):=by
  show wholeR (Ir a b).1 (Ir a b).2=_
  rw [hR];rfl
 have e3:seqR (.ok (.int Q)) (.ok (.int b)) (bothR mulI mulF) = .ok (.int (Q * b)):=whole_short hl
 have e4:seqR (.ok (.int (Q * b))) (.ok (.int R)) (bothR sumI sumF) = .ok (.int a):=by
  show wholeR (Q * b+R) (err (tooLong (Q * b+R)))=_
  rw [hs];exact whole_short ha
 rw [e1,e2,e3,e4] at h
 exact h
theorem back_ev {a b:Int} (ha:tooLong a=false) (hb:tooLong b=false) (hl:tooLong (a+b)=false):Ev binK8 (backT (numT (.int a)) (numT (.int b))) (.ok (.int a)):=by
 have h:Ev binK8 (backT (numT (.int a)) (numT (.int b))) (seqR (seqR (.ok (.int a)) (.ok (.int b)) (bothR sumI sumF)) (.ok (.int b)) (bothR difI difF)):=
  .two rfl (.two rfl (ev_dec ha) (ev_dec hb)) (ev_dec hb)
 have e1:seqR (.ok (.int a)) (.ok (.int b)) (bothR sumI sumF) = .ok (.int (a+b)):=whole_short hl
 have e2:seqR (.ok (.int (a+b))) (.ok (.int b)) (bothR difI difF) = .ok (.int a):=by
  show wholeR (a+b - b) (err (tooLong (a+b - b)))=_
  rw [show a+b - b=a by omega];exact whole_short ha
 rw [e1,e2] at h
 exact h
theorem quo_ev {a b:Int} (hb0:b≠0) (ha:a.natAbs<2 ^ 2000) (hb:b.natAbs<2 ^ 2000):Ev binK8 (partsT [47,47] [114,101,109] (numT (.int a)) (numT (.int b))) (.ok (.int a)):=by
 have h2:(2:Nat) ^ 2000<2 ^ 4096:=Nat.pow_lt_pow_right (by decide) (by decide)
 refine parts_ev (Iq:=quoI) (Ir:=remI) (Q:=a.tdiv b) (R:=a.tmod b) rfl rfl (short_of (by omega)) (short_of (by omega)) (by unfold quoI;rw [if_neg hb0]) (by unfold remI;rw [if_neg hb0]) (long_mono (b:=a) ?_ (short_of (by omega))) (tdm_parts a b)
 rw [Int.natAbs_mul,Int.natAbs_tdiv]
 exact Nat.div_mul_le_self _ _
theorem div_ev {a b:Int} (hb0:b≠0) (ha:a.natAbs<2 ^ 2000) (hb:b.natAbs<2 ^ 2000):Ev binK8 (partsT [100,105,118] [109,111,100] (numT (.int a)) (numT (.int b))) (.ok (.int a)):=by
 have h2:(2:Nat) ^ 2002<2 ^ 4096:=Nat.pow_lt_pow_right (by decide) (by decide)
 have h3:(2:Nat) ^ 2002=2 ^ 2000 * 4:=by rw [show 2002=2000+2 from rfl,Nat.pow_add]
 have hd:(dvD a b).natAbs≤a.natAbs+1:=by
  have:=tdiv_abs9 a b
  unfold dvD
  split <;> omega
 have hm:=dvM_abs (a:=a) hb0
 have hp:=dv_parts a b
 have he:dvE a b=0:=by
  unfold dvE
  rw [if_neg hb0,short_of (z:=dvD a b) (by omega)]
  rfl
 refine parts_ev (Iq:=idivI) (Ir:=imodI) (Q:=dvD a b) (R:=dvM a b) rfl rfl (short_of (by omega)) (short_of (by omega)) (by unfold idivI;rw [he]) (by unfold imodI;rw [he]) (short_of ?_) hp
 omega
theorem sub_ev {a b:Int} (ha:a.natAbs<2 ^ 2000) (hb:b.natAbs<2 ^ 2000):Ev binK8 (backT (numT (.int a)) (numT (.int b))) (.ok (.int a)):=by
 have h2:(2:Nat) ^ 2002<2 ^ 4096:=Nat.pow_lt_pow_right (by decide) (by decide)
 have h3:(2:Nat) ^ 2002=2 ^ 2000 * 4:=by rw [show 2002=2000+2 from rfl,Nat.pow_add]
 exact back_ev (short_of (by omega)) (short_of (by omega)) (short_of (by omega))
theorem errs_dec {z:Int} (h:tooLong z=false) (hl:(decB z).length≤5000):errsP (numT (.int z))=0:=by
 refine errs_iff.2 ⟨one_iff.2 ⟨by simp [numT,Tm.k],by simp [numT,stray,Tm.k,Tm.n,Tm.m,Tm.b,Tm.v,Tm.as],by simp [numT,Tm.v],fun h=>absurd h (by simp [numT,Tm.k]),(show Lib.validD []=true from by decide +kernel),by simp [numT,Tm.n],fun _=>decB_canon h,fun h=>absurd h (by simp [numT,Tm.k])⟩,fun a ha=>?_⟩
 have ha:a∈([]:List Tm):=ha
 cases ha
theorem sz_dec (z:Int):sz (numT (.int z))=1:=by simp [numT,sz,szs]
theorem chk_parts {q r:List UInt8} {a b:Int} (hq:Lib.validD q=true) (hr:Lib.validD r=true) (hql:q.length≤1000) (hrl:r.length≤1000) (ha:tooLong a=false) (hb:tooLong b=false) (la:(decB a).length≤5000) (lb:(decB b).length≤5000):checkP (partsT q r (numT (.int a)) (numT (.int b)))=0:=by
 refine check_iff.2 ⟨?_,errs_two (by decide +kernel) (by decide) (errs_two (by decide +kernel) (by decide) (errs_two hq hql (errs_dec ha la) (errs_dec hb lb)) (errs_dec hb lb)) (errs_two hr hrl (errs_dec ha la) (errs_dec hb lb))⟩
 simp [partsT,cmpT,sz,szs,sz_dec]
theorem chk_back {a b:Int} (ha:tooLong a=false) (hb:tooLong b=false) (la:(decB a).length≤5000) (lb:(decB b).length≤5000):checkP (backT (numT (.int a)) (numT (.int b)))=0:=by
 refine check_iff.2 ⟨?_,errs_two (by decide +kernel) (by decide) (errs_two (by decide +kernel) (by decide) (errs_dec ha la) (errs_dec hb lb)) (errs_dec hb lb)⟩
 simp [backT,cmpT,sz,szs,sz_dec]
def ValEv (w:World) (t:Tm) (x:Nm):Prop:=∀ (y:World) (sl:Value),Below w.heap.size w y→TAt y y.heap.size t sl→Calls Tryz.prog 24 #[valT t sl] y fun e w'=>e = .returned (.tuple #[valT (numT x) (.slice none 0 0),.nilIface])∧Below y.heap.size y w'
theorem valEv {w0' w:World} {t:Tm} {x:Nm} (hev:Ev binK8 t (.ok x)) (hc:checkP t=0) (hU:UOk w0' w):ValEv w t x:=fun u sl hu ht=>
 (Eval_ok kok8 hev hc ht (hU.below hu)).mono fun e w' ⟨hb,h⟩=>by
  rcases h with ⟨y,h1,h2,_⟩ | ⟨t,v,h1,_⟩
  ·injection h1 with h1;subst h1;exact ⟨h2,hb⟩
  ·cases h1
theorem parts_vals {a b:Int} (hb0:b≠0) (ha:a.natAbs<2 ^ 2000) (hb:b.natAbs<2 ^ 2000) {w0' w:World} (hU:UOk w0' w) :
  ValEv w (partsT [47,47] [114,101,109] (numT (.int a)) (numT (.int b))) (.int a)∧ValEv w (partsT [100,105,118] [109,111,100] (numT (.int a)) (numT (.int b))) (.int a)∧ValEv w (backT (numT (.int a)) (numT (.int b))) (.int a):=by
 have h2:(2:Nat) ^ 2000<2 ^ 4096:=Nat.pow_lt_pow_right (by decide) (by decide)
 have sa:tooLong a=false:=short_of (by omega)
 have sb:tooLong b=false:=short_of (by omega)
 have la:(decB a).length≤5000:=Nat.le_trans (dec_len sa) (by decide)
 have lb:(decB b).length≤5000:=Nat.le_trans (dec_len sb) (by decide)
 exact ⟨valEv (quo_ev hb0 ha hb) (chk_parts (by decide +kernel) (by decide +kernel) (by decide) (by decide) sa sb la lb) hU,valEv (div_ev hb0 ha hb) (chk_parts (by decide +kernel) (by decide +kernel) (by decide) (by decide) sa sb la lb) hU,valEv (sub_ev ha hb) (chk_back sa sb la lb) hU⟩
end
end Go.Proofs.YtjpnmmjgdiiahaaGreatDoor
set_option exponentiation.threshold 5000
namespace Go.Proofs.YtjpnmmjgdiiahaaGreatDoor
section
open Go.RowKit Hb Ht Hq
attribute [local go_sem ↓] Go.wp_at_zero Go.wp_at_succ
attribute [local go_sem] run_store_float
theorem blen_small {neg:Bool} {l:List Nat} (h:(blen (nv W l):Int)≤2000):(ival neg l).natAbs<2 ^ 2000:=by
 have e:(ival neg l).natAbs=nv W l:=by cases neg <;> simp [ival]
 rw [e]
 exact blen_le_iff.1 (show blen (nv W l)≤2000 by omega)
set_option maxRecDepth 100000 in
set_option maxHeartbeats 16000000 in
theorem Parts_walk (na nb:Bool) {Aa Ab:Option Addr} {la lb:List Nat} {n_a ca n_b cb:Nat} {w0' w:World} (hsa:SlU w w.heap.size Aa n_a ca la) (hsb:SlU w w.heap.size Ab n_b cb lb) (hna:n_a≤35184372088832) (hnb:n_b≤35184372088832) (hU:UOk w0' w) :
  Calls Tryz.prog 7 #[.agg #[.bool na,.slice Aa n_a ca],.agg #[.bool nb,.slice Ab n_b cb]] w fun e w'=>e = .returned (.bool true)∧Below w.heap.size w w':=by
 have HAw:=Lib.hid (fun (y:World) (hy:Below w.heap.size w y)=>awake_ok (hU.below hy))
 have HBa:=Lib.hid (fun (y:World) (hy:Below w.heap.size w y)=>bits_any na (w:=y) (hsa.below (C:=w.heap.size) hy (Nat.le_refl _)) hna hy.size)
 have HBb:=Lib.hid (fun (y:World) (hy:Below w.heap.size w y)=>bits_any nb (w:=y) (hsb.below (C:=w.heap.size) hy (Nat.le_refl _)) hnb hy.size)
 have HSg:=Lib.hid (fun (y:World) (hy:Below w.heap.size w y)=>sign_any nb (w:=y) (hsb.below (C:=w.heap.size) hy (Nat.le_refl _)) hy.size)
 have HTa:=Lib.hid (fun (y:World) (hy:Below w.heap.size w y) (hs:tooLong (ival na la)=false)=>Text_z2 (w:=y) (neg:=na) (s:=strN (txtZ (ival na la) 10)) (SlU.to hsa hy (Nat.le_refl _)) hna rfl hs rfl)
 have HTb:=Lib.hid (fun (y:World) (hy:Below w.heap.size w y) (hs:tooLong (ival nb lb)=false)=>Text_z2 (w:=y) (neg:=nb) (s:=strN (txtZ (ival nb lb) 10)) (SlU.to hsb hy (Nat.le_refl _)) hnb rfl hs rfl)
 have HP:=Lib.hid (fun (h0:ival nb lb≠0) (h1:(ival na la).natAbs<2 ^ 2000) (h2:(ival nb lb).natAbs<2 ^ 2000)=>parts_vals (w:=w) h0 h1 h2 hU)
 have HB:=Lib.hid (show Below w.heap.size w ((w.alloc (.cells #[.bool na,.slice Aa n_a ca] 39)).alloc (.cells #[.bool nb,.slice Ab n_b cb] 39)) from ((Below.refl _ _).alloc (Nat.le_refl _) _).alloc (by simp) _)
 have HZ:=Lib.hid (show ((w.alloc (.cells #[.bool na,.slice Aa n_a ca] 39)).alloc (.cells #[.bool nb,.slice Ab n_b cb] 39)).heap.size=w.heap.size+1+1 from by simp)
 have HKa:=Lib.hid (KBox.pair w na Aa n_a ca nb Ab n_b cb).1
 have HKb:=Lib.hid (KBox.pair w na Aa n_a ca nb Ab n_b cb).2
 clear hsa hsb hU hna hnb
 go_enter Tryz.func7,Tryz.ntmps7
 go_upto_region 1 with fail
 generalize (w.alloc (.cells #[.bool na,.slice Aa n_a ca] 39)).alloc (.cells #[.bool nb,.slice Ab n_b cb] 39)=w0 at *
 go_upto_region 2 with (go_at_call 10;(with_reducible refine (HAw.out _ HB.out).mono ?_);rintro e w1 ⟨rfl,hb⟩;have HW:=Lib.hid hb;clear hb)
 have HB1:=Lib.hid (HB.out.trans (HW.out.mono HB.out.size))
 have HKa1:=Lib.hid (HKa.out.below HW.out HKa.out.lt)
 have HKb1:=Lib.hid (HKb.out.below HW.out HKb.out.lt)
 have HZ1:=Lib.hid HW.out.size
 obtain ⟨a0,a1⟩:=HKa1.out.cells
 obtain ⟨b0,b1⟩:=HKb1.out.cells
 by_cases hca:(2000:Int)<(blen (nv W la):Int)
 ·go_wp2_with fail
  (with_reducible refine (HBa.out _ HB1.out).mono ?_)
  rintro e w2 ⟨rfl,hb⟩
  have HB2:=Lib.hid (HB1.out.trans (hb.mono HB1.out.size))
  clear hb
  go_wp2_with fail
  go_ret
  exact ⟨rfl,HB2.out⟩
 go_wp2_with fail
 (with_reducible refine (HBa.out _ HB1.out).mono ?_)
 rintro e w2 ⟨rfl,hb⟩
 have HB2:=Lib.hid (HB1.out.trans (hb.mono HB1.out.size))
 have HKa2:=Lib.hid (HKa1.out.below hb HKa1.out.lt)
 have HKb2:=Lib.hid (HKb1.out.below hb HKb1.out.lt)
 have HZ2:=Lib.hid (Nat.le_trans HZ1.out hb.size)
 clear hb a0 a1 b0 b1 HKa1 HKb1
 obtain ⟨a0,a1⟩:=HKa2.out.cells
 obtain ⟨b0,b1⟩:=HKb2.out.cells
 by_cases hcb:(2000:Int)<(blen (nv W lb):Int)
 ·go_wp2_with fail
  (with_reducible refine (HBb.out _ HB2.out).mono ?_)
  rintro e w3 ⟨rfl,hb⟩
  have HB3:=Lib.hid (HB2.out.trans (hb.mono HB2.out.size))
  clear hb
  go_wp2_with fail
  go_ret
  exact ⟨rfl,HB3.out⟩
 go_wp2_with fail
 (with_reducible refine (HBb.out _ HB2.out).mono ?_)
 rintro e w3 ⟨rfl,hb⟩
 have HB3:=Lib.hid (HB2.out.trans (hb.mono HB2.out.size))
 have HKa3:=Lib.hid (HKa2.out.below hb HKa2.out.lt)
 have HKb3:=Lib.hid (HKb2.out.below hb HKb2.out.lt)
 have HZ3:=Lib.hid (Nat.le_trans HZ2.out hb.size)
 clear hb a0 a1 b0 b1 HKa2 HKb2
 obtain ⟨a0,a1⟩:=HKa3.out.cells
 obtain ⟨b0,b1⟩:=HKb3.out.cells
 by_cases hz0:ival nb lb=0
 ·have hs0:(((ival nb lb).sign==0):Bool)=true:=by rw [hz0];rfl
  go_wp2_with fail
  (with_reducible refine (HSg.out _ HB3.out).mono ?_)
  rintro e w4 ⟨rfl,hb⟩
  have HB4:=Lib.hid (HB3.out.trans (hb.mono HB3.out.size))
  clear hb
  go_wp2_with fail
  go_ret
  exact ⟨rfl,HB4.out⟩
 have hs0:(((ival nb lb).sign==0):Bool)=false:=by
  rw [beq_eq_false_iff_ne]
  exact fun e=>hz0 (Int.sign_eq_zero_iff_zero.1 e)
 obtain ⟨hPq,hPd,hPs⟩:=HP.out hz0 (blen_small (neg:=na) hca) (blen_small (neg:=nb) hcb)
 have h24:(2:Nat) ^ 2000<2 ^ 4096:=Nat.pow_lt_pow_right (by decide) (by decide)
 have HSa:=Lib.hid (short_of (z:=ival na la) (Nat.lt_trans (blen_small (neg:=na) hca) h24))
 have HSb:=Lib.hid (short_of (z:=ival nb lb) (Nat.lt_trans (blen_small (neg:=nb) hcb) h24))
 have HPq:=Lib.hid hPq
 have HPd:=Lib.hid hPd
 have HPs:=Lib.hid hPs
 clear hPq hPd hPs h24 HP HAw HBa HBb
 go_wp2_with fail
 (with_reducible refine (HSg.out _ HB3.out).mono ?_)
 rintro e w4 ⟨rfl,hb⟩
 have HB4:=Lib.hid (HB3.out.trans (hb.mono HB3.out.size))
 have HKa4:=Lib.hid (HKa3.out.below hb HKa3.out.lt)
 have HKb4:=Lib.hid (HKb3.out.below hb HKb3.out.lt)
 have HZ4:=Lib.hid (Nat.le_trans HZ3.out hb.size)
 clear hb a0 a1 b0 b1 HKa3 HKb3
 obtain ⟨a0,a1⟩:=HKa4.out.cells
 obtain ⟨b0,b1⟩:=HKb4.out.cells
 go_upto_region 4 with fail
 clear hca hcb hs0 hz0 HSg
 generalize hza:ival na la=za at *
 generalize hzb:ival nb lb=zb at *
 have hTa:=HTa.out _ HB4.out HSa.out
 have HTa1:=Lib.hid hTa
 clear hTa
 go_wp2_with fail
 (with_reducible refine HTa1.out.mono ?_)
 rintro e w5 ⟨rfl,hb⟩
 have HB5:=Lib.hid (HB4.out.trans (hb.mono HB4.out.size))
 have HKb5:=Lib.hid (HKb4.out.below hb HKb4.out.lt)
 have HZ5:=Lib.hid (Nat.le_trans HZ4.out hb.size)
 clear hb a0 a1 b0 b1 HKa4 HKb4
 obtain ⟨b0,b1⟩:=HKb5.out.cells
 have HTb1:=Lib.hid (HTb.out _ HB5.out HSb.out)
 go_wp2_with fail
 (with_reducible refine HTb1.out.mono ?_)
 rintro e w6 ⟨rfl,hb⟩
 have HB6:=Lib.hid (HB5.out.trans (hb.mono HB5.out.size))
 have HZ6:=Lib.hid (Nat.le_trans HZ5.out hb.size)
 clear hb b0 b1 HKb5 HTa1 HTb1 HTa HTb
 obtain ⟨sa,hsa⟩:∃ s,strN (txtZ za 10)=s:=⟨_,rfl⟩
 obtain ⟨sb,hsb⟩:∃ s,strN (txtZ zb 10)=s:=⟨_,rfl⟩
 rw [hsa,hsb]
 have HNa:=Lib.hid (show (⟨(decB za).toArray⟩:ByteArray)=sa from by rw [←hsa];rfl)
 have HNb:=Lib.hid (show (⟨(decB zb).toArray⟩:ByteArray)=sb from by rw [←hsb];rfl)
 clear hsa hsb
 go_wp2_with fail
 refine (n_ok _ _).mono ?_
 rintro e w7 ⟨rfl,hb⟩
 have HB7:=Lib.hid (HB6.out.trans (hb.mono HB6.out.size))
 have HXa:=Lib.hid (show TBox (w7.alloc (.cells #[.int .i64 3,.string ⟨#[]⟩,.string sa,.int .u64 0,.int .i64 0,.slice none 0 0] 25)) w7.heap.size (numT (.int za)) (.slice none 0 0) from TBox.new (n:=[]) (m:=decB za) (ts:=[]) w7 rfl HNa.out)
 have HBy:=Lib.hid (show Below w7.heap.size w7 (w7.alloc (.cells #[.int .i64 3,.string ⟨#[]⟩,.string sa,.int .u64 0,.int .i64 0,.slice none 0 0] 25)) from (Below.refl _ _).alloc (Nat.le_refl _) _)
 have HB8:=Lib.hid (HB7.out.trans (HBy.out.mono HB7.out.size))
 clear hb HBy
 go_upto_region 7 with fail
 generalize w7.alloc (.cells #[.int .i64 3,.string ⟨#[]⟩,.string sa,.int .u64 0,.int .i64 0,.slice none 0 0] 25)=w8 at *
 go_wp2_with fail
 refine (n_ok _ _).mono ?_
 rintro e w9 ⟨rfl,hb⟩
 have HB9:=Lib.hid (HB8.out.trans (hb.mono HB8.out.size))
 have HXa9:=Lib.hid (HXa.out.below hb)
 have HXb:=Lib.hid (show TBox (w9.alloc (.cells #[.int .i64 3,.string ⟨#[]⟩,.string sb,.int .u64 0,.int .i64 0,.slice none 0 0] 25)) w9.heap.size (numT (.int zb)) (.slice none 0 0) from TBox.new (n:=[]) (m:=decB zb) (ts:=[]) w9 rfl HNb.out)
 have HBy:=Lib.hid (show Below w9.heap.size w9 (w9.alloc (.cells #[.int .i64 3,.string ⟨#[]⟩,.string sb,.int .u64 0,.int .i64 0,.slice none 0 0] 25)) from (Below.refl _ _).alloc (Nat.le_refl _) _)
 have HB10:=Lib.hid (HB9.out.trans (HBy.out.mono HB9.out.size))
 have HXa10:=Lib.hid (HXa9.out.below HBy.out)
 clear hb HBy HXa HXa9
 go_upto_region 8 with fail
 generalize w9.alloc (.cells #[.int .i64 3,.string ⟨#[]⟩,.string sb,.int .u64 0,.int .i64 0,.slice none 0 0] 25)=w10 at *
 have HVa:=Lib.hid (show valT (numT (.int za)) (.slice none 0 0) = .agg #[.int .i64 3,.string ⟨#[]⟩,.string sa,.int .u64 0,.int .i64 0,.slice none 0 0] from valT_mk (n:=[]) (m:=decB za) rfl HNa.out)
 have HVb:=Lib.hid (show valT (numT (.int zb)) (.slice none 0 0) = .agg #[.int .i64 3,.string ⟨#[]⟩,.string sb,.int .u64 0,.int .i64 0,.slice none 0 0] from valT_mk (n:=[]) (m:=decB zb) rfl HNb.out)
 refine wp_region_U 15 (by kernel_rfl) (fun z0 K0 hs0=>?_)
 refine qz 0 K0 ?_ (y:=fun z5 hS=>by obtain ⟨r0,r1,r2,r3,r4,r5⟩:=TBox.cells (nb:=⟨#[]⟩) (mb:=sa) (HXa10.out.below hS) rfl HNa.out;go_simp;rfl)
 refine qz 1 K0 ?_ (y:=fun z5 hS=>by obtain ⟨r0,r1,r2,r3,r4,r5⟩:=TBox.cells (nb:=⟨#[]⟩) (mb:=sb) (HXb.out.below hS) rfl HNb.out;go_simp;rfl)
 refine qz 3 K0 ?_ (y:=fun z5 hS=>by obtain ⟨r0,r1,r2,r3,r4,r5⟩:=TBox.cells (nb:=⟨#[]⟩) (mb:=sb) (HXb.out.below hS) rfl HNb.out;go_simp;rfl)
 refine qz 5 K0 ?_ (y:=fun z5 hS=>by obtain ⟨r0,r1,r2,r3,r4,r5⟩:=TBox.cells (nb:=⟨#[]⟩) (mb:=sa) (HXa10.out.below hS) rfl HNa.out;go_simp;rfl)
 refine qz 6 K0 ?_ (y:=fun z5 hS=>by obtain ⟨r0,r1,r2,r3,r4,r5⟩:=TBox.cells (nb:=⟨#[]⟩) (mb:=sb) (HXb.out.below hS) rfl HNb.out;go_simp;rfl)
 refine wpAnyW_float [13] (fun _=>(.cells #[.int .i64 0,.string ⟨#[]⟩,.string ⟨#[]⟩,.int .u64 0,.int .i64 0,.slice none 0 0] 25)) (by kernel_rfl) (by kernel_rfl) (FloatRun.one rfl (fun a w=>by go_simp)) (fun _ _ h1 h2=>h2.trans (h1.mono h2.size)) (by kernel_rfl) (fun _ _ _ _ _ h=>h) rfl K0 ?_
 refine wpAnyF_one (i:=2) (by kernel_rfl) (by kernel_rfl) (fun _ _ _ _ _ h=>h) ⟨by kernel_rfl,by kernel_rfl⟩ (by kernel_rfl) rfl (by kernel_rfl) (fun z1 d1 K1 K hK=>?_)
 go_simp
 have HF:=Lib.hid (f2_ok (w:=z1) (P:=fun b=>b<z1.heap.size) (ta:=numT (.int za)) (tb:=numT (.int zb)) (sa:=(.slice none 0 0)) (sb:=(.slice none 0 0)) (s:=[47,47]) (nb:=⟨#[47,47]⟩) (num_leaf z1 _ HSa.out) (num_leaf z1 _ HSb.out) (fun b h=>h) rfl (by decide))
 rw [HVa.out,HVb.out] at HF
 (with_reducible refine HF.out.mono ?_)
 rintro e z2 ⟨sl2,rfl,hat,hb2⟩
 obtain ⟨A2,c2,rfl,_⟩:=TAtP.iff.1 hat
 have K2:=K1.trans (hb2.mono K1.size)
 have HAt2:=Lib.hid (show TAt z2 z2.heap.size (cmpT [47,47] [numT (.int za),numT (.int zb)]) (.slice A2 2 c2) from hat.wide (fun b hb=>hb.elim (fun h=>Nat.lt_of_lt_of_le h hb2.size) (·.2)))
 rw [show valT (cmpT [47,47] [numT (.int za),numT (.int zb)]) (.slice A2 (Ht.Tm.as (cmpT [47,47] [numT (.int za),numT (.int zb)])).length c2) = .agg #[.int .i64 5,.string ⟨#[47,47]⟩,.string ⟨#[]⟩,.int .u64 0,.int .i64 0,.slice A2 2 c2] from rfl]
 refine hK.out _ _ hb2 K2 ?_
 clear hat HF
 refine wpAnyF_one (i:=4) (by kernel_rfl) (by kernel_rfl) (fun _ _ _ _ _ h=>h) ⟨by kernel_rfl,by kernel_rfl⟩ (by kernel_rfl) rfl (by kernel_rfl) (fun z3 d3 K3 K hK=>?_)
 go_simp
 have HAt2:=Lib.hid (HAt2.out.to d3 d3.size)
 have HF:=Lib.hid (f2_ok (w:=z3) (P:=fun b=>b<z3.heap.size) (ta:=(cmpT [47,47] [numT (.int za),numT (.int zb)])) (tb:=numT (.int zb)) (sa:=(.slice A2 2 c2)) (sb:=(.slice none 0 0)) (s:=[42]) (nb:=⟨#[42]⟩) HAt2.out (num_leaf z3 _ HSb.out) (fun b h=>h) rfl (by decide))
 rw [show valT (cmpT [47,47] [numT (.int za),numT (.int zb)]) (.slice A2 2 c2) = .agg #[.int .i64 5,.string ⟨#[47,47]⟩,.string ⟨#[]⟩,.int .u64 0,.int .i64 0,.slice A2 2 c2] from rfl,HVb.out] at HF
 (with_reducible refine HF.out.mono ?_)
 rintro e z4 ⟨sl2,rfl,hat,hb4⟩
 obtain ⟨A4,c4,rfl,_⟩:=TAtP.iff.1 hat
 have K4:=K3.trans (hb4.mono K3.size)
 have HAt4:=Lib.hid (show TAt z4 z4.heap.size (cmpT [42] [(cmpT [47,47] [numT (.int za),numT (.int zb)]),numT (.int zb)]) (.slice A4 2 c4) from hat.wide (fun b hb=>hb.elim (fun h=>Nat.lt_of_lt_of_le h hb4.size) (·.2)))
 rw [show valT (cmpT [42] [(cmpT [47,47] [numT (.int za),numT (.int zb)]),numT (.int zb)]) (.slice A4 (Ht.Tm.as (cmpT [42] [(cmpT [47,47] [numT (.int za),numT (.int zb)]),numT (.int zb)])).length c4) = .agg #[.int .i64 5,.string ⟨#[42]⟩,.string ⟨#[]⟩,.int .u64 0,.int .i64 0,.slice A4 2 c4] from rfl]
 refine hK.out _ _ hb4 K4 ?_
 clear hat HF
 refine wpAnyF_one (i:=7) (by kernel_rfl) (by kernel_rfl) (fun _ _ _ _ _ h=>h) ⟨by kernel_rfl,by kernel_rfl⟩ (by kernel_rfl) rfl (by kernel_rfl) (fun z5 d5 K5 K hK=>?_)
 go_simp
 have HAt4:=Lib.hid (HAt4.out.to d5 d5.size)
 have HF:=Lib.hid (f2_ok (w:=z5) (P:=fun b=>b<z5.heap.size) (ta:=numT (.int za)) (tb:=numT (.int zb)) (sa:=(.slice none 0 0)) (sb:=(.slice none 0 0)) (s:=[114,101,109]) (nb:=⟨#[114,101,109]⟩) (num_leaf z5 _ HSa.out) (num_leaf z5 _ HSb.out) (fun b h=>h) rfl (by decide))
 rw [HVa.out,HVb.out] at HF
 (with_reducible refine HF.out.mono ?_)
 rintro e z6 ⟨sl2,rfl,hat,hb6⟩
 obtain ⟨A7,c7,rfl,_⟩:=TAtP.iff.1 hat
 have K6:=K5.trans (hb6.mono K5.size)
 have HAt7:=Lib.hid (show TAt z6 z6.heap.size (cmpT [114,101,109] [numT (.int za),numT (.int zb)]) (.slice A7 2 c7) from hat.wide (fun b hb=>hb.elim (fun h=>Nat.lt_of_lt_of_le h hb6.size) (·.2)))
 rw [show valT (cmpT [114,101,109] [numT (.int za),numT (.int zb)]) (.slice A7 (Ht.Tm.as (cmpT [114,101,109] [numT (.int za),numT (.int zb)])).length c7) = .agg #[.int .i64 5,.string ⟨#[114,101,109]⟩,.string ⟨#[]⟩,.int .u64 0,.int .i64 0,.slice A7 2 c7] from rfl]
 have HAt4:=Lib.hid (HAt4.out.to hb6 hb6.size)
 refine hK.out _ _ hb6 K6 ?_
 clear hat HF
 refine wpAnyF_one (i:=8) (by kernel_rfl) (by kernel_rfl) (fun _ _ _ _ _ h=>h) ⟨by kernel_rfl,by kernel_rfl⟩ (by kernel_rfl) rfl (by kernel_rfl) (fun z7 d7 K7 K hK=>?_)
 go_simp
 have HAt4:=Lib.hid (HAt4.out.to d7 d7.size)
 have HAt7:=Lib.hid (HAt7.out.to d7 d7.size)
 have HF:=Lib.hid (f2_ok (w:=z7) (P:=fun b=>b<z7.heap.size) (ta:=(cmpT [42] [(cmpT [47,47] [numT (.int za),numT (.int zb)]),numT (.int zb)])) (tb:=(cmpT [114,101,109] [numT (.int za),numT (.int zb)])) (sa:=(.slice A4 2 c4)) (sb:=(.slice A7 2 c7)) (s:=[43]) (nb:=⟨#[43]⟩) HAt4.out HAt7.out (fun b h=>h) rfl (by decide))
 rw [show valT (cmpT [42] [(cmpT [47,47] [numT (.int za),numT (.int zb)]),numT (.int zb)]) (.slice A4 2 c4) = .agg #[.int .i64 5,.string ⟨#[42]⟩,.string ⟨#[]⟩,.int .u64 0,.int .i64 0,.slice A4 2 c4] from rfl,show valT (cmpT [114,101,109] [numT (.int za),numT (.int zb)]) (.slice A7 2 c7) = .agg #[.int .i64 5,.string ⟨#[114,101,109]⟩,.string ⟨#[]⟩,.int .u64 0,.int .i64 0,.slice A7 2 c7] from rfl] at HF
 (with_reducible refine HF.out.mono ?_)
 rintro e z8 ⟨sl2,rfl,hat,hb8⟩
 obtain ⟨A8,c8,rfl,_⟩:=TAtP.iff.1 hat
 have K8:=K7.trans (hb8.mono K7.size)
 have HAt8:=Lib.hid (show TAt z8 z8.heap.size (cmpT [43] [(cmpT [42] [(cmpT [47,47] [numT (.int za),numT (.int zb)]),numT (.int zb)]),(cmpT [114,101,109] [numT (.int za),numT (.int zb)])]) (.slice A8 2 c8) from hat.wide (fun b hb=>hb.elim (fun h=>Nat.lt_of_lt_of_le h hb8.size) (·.2)))
 rw [show valT (cmpT [43] [(cmpT [42] [(cmpT [47,47] [numT (.int za),numT (.int zb)]),numT (.int zb)]),(cmpT [114,101,109] [numT (.int za),numT (.int zb)])]) (.slice A8 (Ht.Tm.as (cmpT [43] [(cmpT [42] [(cmpT [47,47] [numT (.int za),numT (.int zb)]),numT (.int zb)]),(cmpT [114,101,109] [numT (.int za),numT (.int zb)])])).length c8) = .agg #[.int .i64 5,.string ⟨#[43]⟩,.string ⟨#[]⟩,.int .u64 0,.int .i64 0,.slice A8 2 c8] from rfl]
 refine hK.out _ _ hb8 K8 ?_
 clear hat HF
 refine wpAnyF_one (i:=9) (by kernel_rfl) (by kernel_rfl) (fun _ _ _ _ _ h=>h) ⟨by kernel_rfl,by kernel_rfl⟩ (by kernel_rfl) rfl (by kernel_rfl) (fun z9 d9 K9 K hK=>?_)
 go_simp
 have HE:=Lib.hid (HPq.out z9 (.slice A8 2 c8) (HB10.out.trans (K9.mono HB10.out.size)) (HAt8.out.to d9 d9.size))
 rw [show valT (partsT [47,47] [114,101,109] (numT (.int za)) (numT (.int zb))) (.slice A8 2 c8) = .agg #[.int .i64 5,.string ⟨#[43]⟩,.string ⟨#[]⟩,.int .u64 0,.int .i64 0,.slice A8 2 c8] from rfl] at HE
 (with_reducible refine HE.out.mono ?_)
 rintro e z10 ⟨rfl,hb10⟩
 rw [HVa.out]
 have K10:=K9.trans (hb10.mono K9.size)
 refine hK.out _ _ hb10 K10 ?_
 clear HE
 refine qF 10 ?_
 refine qF 11 ?_
 refine qF 12 ?_
 refine wpAnyF_land1 (by kernel_rfl) rfl (fun z11 HP d11 K11 hA gA=>?_)
 have gA':(((((False∨(z0.heap.size≤HP∧HP<z1.heap.size))∨(z2.heap.size≤HP∧HP<z3.heap.size))∨(z4.heap.size≤HP∧HP<z5.heap.size))∨(z6.heap.size≤HP∧HP<z7.heap.size))∨(z8.heap.size≤HP∧HP<z9.heap.size))∨(z10.heap.size≤HP∧HP<z11.heap.size):=gA
 have HGp:=Lib.hid (show w10.heap.size≤HP from by
  have h0:=K0.size
  have h1:=d1.size
  have h2:=hb2.size
  have h3:=d3.size
  have h4:=hb4.size
  have h5:=d5.size
  have h6:=hb6.size
  have h7:=d7.size
  have h8:=hb8.size
  have h9:=d9.size
  have h10:=hb10.size
  have h11:=d11.size
  rcases gA' with (((((h | h) | h) | h) | h) | h) | h
  ·exact h.elim
  all_goals omega)
 replace hA:TBox z11 HP zeroT (.slice none 0 0):=hA
 obtain ⟨r0,r1,r2,r3,r4,r5⟩:=TBox.cells (nb:=⟨#[]⟩) (mb:=⟨#[]⟩) hA rfl rfl
 obtain ⟨s0,s1,s2,s3,s4,s5⟩:=TBox.frozens hA
 have hset:=hA.set6 (k:=3) (b:=0) (v:=0) (n:=[]) (m:=decB za) (nb:=⟨#[]⟩) (mb:=sa) [] (.slice none 0 0) rfl HNa.out
 have HSet:=Lib.hid hset
 have HK5:=Lib.hid K11
 clear gA gA' hset hA hs0 K0 K1 K2 K3 K4 K5 K6 K7 K8 K9 K10 K11 d1 hb2 d3 hb4 d5 hb6 d7 hb8 d9 hb10 d11 HAt8
 refine uW 14 fun K hK=>?_
 go_simp
 clear r0 r1 r2 r3 r4 r5 s0 s1 s2 s3 s4 s5
 generalize (((((z11.setCell ⟨HP,0,none⟩ (.int .i64 3)).setCell ⟨HP,1,none⟩ (.string ⟨#[]⟩)).setCell ⟨HP,2,none⟩ (.string sa)).setCell ⟨HP,3,none⟩ (.int .u64 0)).setCell ⟨HP,4,none⟩ (.int .i64 0)).setCell ⟨HP,5,none⟩ (.slice none 0 0)=u1 at *
 have HUHP:=Lib.hid (show Below w10.heap.size w10 u1 from HK5.out.grown HSet.out.2 HK5.out.size (fun j e=>by injection e with e;have:=HGp.out;omega))
 have HXHP:=Lib.hid (show TBox u1 HP (numT (.int za)) (.slice none 0 0) from HSet.out.1)
 refine hK.out _ _ (fun _=>HUHP.out) ?_
 clear HSet HK5 HGp
 refine uW 15 fun K hK=>?_
 go_simp
 refine hK.out _ _ (fun h=>absurd h (by simp)) ?_
 refine wpAnyW_done (by kernel_rfl) ?_ _
 have HB11:=Lib.hid (HB10.out.trans (HUHP.out.mono HB10.out.size))
 have HXa11:=Lib.hid (HXa10.out.below HUHP.out)
 have HXb11:=Lib.hid (HXb.out.below HUHP.out)
 clear HUHP HXa10 HXb HPq HB10
 go_upto_region 9 with fail
 refine wp_region_U 15 (by kernel_rfl) (fun z0 K0 hs0=>?_)
 refine qz 0 K0 ?_ (y:=fun z5 hS=>by obtain ⟨r0,r1,r2,r3,r4,r5⟩:=TBox.cells (nb:=⟨#[]⟩) (mb:=sa) (HXa11.out.below hS) rfl HNa.out;go_simp;rfl)
 refine qz 1 K0 ?_ (y:=fun z5 hS=>by obtain ⟨r0,r1,r2,r3,r4,r5⟩:=TBox.cells (nb:=⟨#[]⟩) (mb:=sb) (HXb11.out.below hS) rfl HNb.out;go_simp;rfl)
 refine qz 3 K0 ?_ (y:=fun z5 hS=>by obtain ⟨r0,r1,r2,r3,r4,r5⟩:=TBox.cells (nb:=⟨#[]⟩) (mb:=sb) (HXb11.out.below hS) rfl HNb.out;go_simp;rfl)
 refine qz 5 K0 ?_ (y:=fun z5 hS=>by obtain ⟨r0,r1,r2,r3,r4,r5⟩:=TBox.cells (nb:=⟨#[]⟩) (mb:=sa) (HXa11.out.below hS) rfl HNa.out;go_simp;rfl)
 refine qz 6 K0 ?_ (y:=fun z5 hS=>by obtain ⟨r0,r1,r2,r3,r4,r5⟩:=TBox.cells (nb:=⟨#[]⟩) (mb:=sb) (HXb11.out.below hS) rfl HNb.out;go_simp;rfl)
 refine wpAnyW_float [13] (fun _=>(.cells #[.int .i64 0,.string ⟨#[]⟩,.string ⟨#[]⟩,.int .u64 0,.int .i64 0,.slice none 0 0] 25)) (by kernel_rfl) (by kernel_rfl) (FloatRun.one rfl (fun a w=>by go_simp)) (fun _ _ h1 h2=>h2.trans (h1.mono h2.size)) (by kernel_rfl) (fun _ _ _ _ _ h=>h) rfl K0 ?_
 refine wpAnyF_one (i:=2) (by kernel_rfl) (by kernel_rfl) (fun _ _ _ _ _ h=>h) ⟨by kernel_rfl,by kernel_rfl⟩ (by kernel_rfl) rfl (by kernel_rfl) (fun z1 d1 K1 K hK=>?_)
 go_simp
 have HF:=Lib.hid (f2_ok (w:=z1) (P:=fun b=>b<z1.heap.size) (ta:=numT (.int za)) (tb:=numT (.int zb)) (sa:=(.slice none 0 0)) (sb:=(.slice none 0 0)) (s:=[100,105,118]) (nb:=⟨#[100,105,118]⟩) (num_leaf z1 _ HSa.out) (num_leaf z1 _ HSb.out) (fun b h=>h) rfl (by decide))
 rw [HVa.out,HVb.out] at HF
 (with_reducible refine HF.out.mono ?_)
 rintro e z2 ⟨sl2,rfl,hat,hb2⟩
 obtain ⟨A2,c2,rfl,_⟩:=TAtP.iff.1 hat
 have K2:=K1.trans (hb2.mono K1.size)
 have HAt2:=Lib.hid (show TAt z2 z2.heap.size (cmpT [100,105,118] [numT (.int za),numT (.int zb)]) (.slice A2 2 c2) from hat.wide (fun b hb=>hb.elim (fun h=>Nat.lt_of_lt_of_le h hb2.size) (·.2)))
 rw [show valT (cmpT [100,105,118] [numT (.int za),numT (.int zb)]) (.slice A2 (Ht.Tm.as (cmpT [100,105,118] [numT (.int za),numT (.int zb)])).length c2) = .agg #[.int .i64 5,.string ⟨#[100,105,118]⟩,.string ⟨#[]⟩,.int .u64 0,.int .i64 0,.slice A2 2 c2] from rfl]
 refine hK.out _ _ hb2 K2 ?_
 clear hat HF
 refine wpAnyF_one (i:=4) (by kernel_rfl) (by kernel_rfl) (fun _ _ _ _ _ h=>h) ⟨by kernel_rfl,by kernel_rfl⟩ (by kernel_rfl) rfl (by kernel_rfl) (fun z3 d3 K3 K hK=>?_)
 go_simp
 have HAt2:=Lib.hid (HAt2.out.to d3 d3.size)
 have HF:=Lib.hid (f2_ok (w:=z3) (P:=fun b=>b<z3.heap.size) (ta:=(cmpT [100,105,118] [numT (.int za),numT (.int zb)])) (tb:=numT (.int zb)) (sa:=(.slice A2 2 c2)) (sb:=(.slice none 0 0)) (s:=[42]) (nb:=⟨#[42]⟩) HAt2.out (num_leaf z3 _ HSb.out) (fun b h=>h) rfl (by decide))
 rw [show valT (cmpT [100,105,118] [numT (.int za),numT (.int zb)]) (.slice A2 2 c2) = .agg #[.int .i64 5,.string ⟨#[100,105,118]⟩,.string ⟨#[]⟩,.int .u64 0,.int .i64 0,.slice A2 2 c2] from rfl,HVb.out] at HF
 (with_reducible refine HF.out.mono ?_)
 rintro e z4 ⟨sl2,rfl,hat,hb4⟩
 obtain ⟨A4,c4,rfl,_⟩:=TAtP.iff.1 hat
 have K4:=K3.trans (hb4.mono K3.size)
 have HAt4:=Lib.hid (show TAt z4 z4.heap.size (cmpT [42] [(cmpT [100,105,118] [numT (.int za),numT (.int zb)]),numT (.int zb)]) (.slice A4 2 c4) from hat.wide (fun b hb=>hb.elim (fun h=>Nat.lt_of_lt_of_le h hb4.size) (·.2)))
 rw [show valT (cmpT [42] [(cmpT [100,105,118] [numT (.int za),numT (.int zb)]),numT (.int zb)]) (.slice A4 (Ht.Tm.as (cmpT [42] [(cmpT [100,105,118] [numT (.int za),numT (.int zb)]),numT (.int zb)])).length c4) = .agg #[.int .i64 5,.string ⟨#[42]⟩,.string ⟨#[]⟩,.int .u64 0,.int .i64 0,.slice A4 2 c4] from rfl]
 refine hK.out _ _ hb4 K4 ?_
 clear hat HF
 refine wpAnyF_one (i:=7) (by kernel_rfl) (by kernel_rfl) (fun _ _ _ _ _ h=>h) ⟨by kernel_rfl,by kernel_rfl⟩ (by kernel_rfl) rfl (by kernel_rfl) (fun z5 d5 K5 K hK=>?_)
 go_simp
 have HAt4:=Lib.hid (HAt4.out.to d5 d5.size)
 have HF:=Lib.hid (f2_ok (w:=z5) (P:=fun b=>b<z5.heap.size) (ta:=numT (.int za)) (tb:=numT (.int zb)) (sa:=(.slice none 0 0)) (sb:=(.slice none 0 0)) (s:=[109,111,100]) (nb:=⟨#[109,111,100]⟩) (num_leaf z5 _ HSa.out) (num_leaf z5 _ HSb.out) (fun b h=>h) rfl (by decide))
 rw [HVa.out,HVb.out] at HF
 (with_reducible refine HF.out.mono ?_)
 rintro e z6 ⟨sl2,rfl,hat,hb6⟩
 obtain ⟨A7,c7,rfl,_⟩:=TAtP.iff.1 hat
 have K6:=K5.trans (hb6.mono K5.size)
 have HAt7:=Lib.hid (show TAt z6 z6.heap.size (cmpT [109,111,100] [numT (.int za),numT (.int zb)]) (.slice A7 2 c7) from hat.wide (fun b hb=>hb.elim (fun h=>Nat.lt_of_lt_of_le h hb6.size) (·.2)))
 rw [show valT (cmpT [109,111,100] [numT (.int za),numT (.int zb)]) (.slice A7 (Ht.Tm.as (cmpT [109,111,100] [numT (.int za),numT (.int zb)])).length c7) = .agg #[.int .i64 5,.string ⟨#[109,111,100]⟩,.string ⟨#[]⟩,.int .u64 0,.int .i64 0,.slice A7 2 c7] from rfl]
 have HAt4:=Lib.hid (HAt4.out.to hb6 hb6.size)
 refine hK.out _ _ hb6 K6 ?_
 clear hat HF
 refine wpAnyF_one (i:=8) (by kernel_rfl) (by kernel_rfl) (fun _ _ _ _ _ h=>h) ⟨by kernel_rfl,by kernel_rfl⟩ (by kernel_rfl) rfl (by kernel_rfl) (fun z7 d7 K7 K hK=>?_)
 go_simp
 have HAt4:=Lib.hid (HAt4.out.to d7 d7.size)
 have HAt7:=Lib.hid (HAt7.out.to d7 d7.size)
 have HF:=Lib.hid (f2_ok (w:=z7) (P:=fun b=>b<z7.heap.size) (ta:=(cmpT [42] [(cmpT [100,105,118] [numT (.int za),numT (.int zb)]),numT (.int zb)])) (tb:=(cmpT [109,111,100] [numT (.int za),numT (.int zb)])) (sa:=(.slice A4 2 c4)) (sb:=(.slice A7 2 c7)) (s:=[43]) (nb:=⟨#[43]⟩) HAt4.out HAt7.out (fun b h=>h) rfl (by decide))
 rw [show valT (cmpT [42] [(cmpT [100,105,118] [numT (.int za),numT (.int zb)]),numT (.int zb)]) (.slice A4 2 c4) = .agg #[.int .i64 5,.string ⟨#[42]⟩,.string ⟨#[]⟩,.int .u64 0,.int .i64 0,.slice A4 2 c4] from rfl,show valT (cmpT [109,111,100] [numT (.int za),numT (.int zb)]) (.slice A7 2 c7) = .agg #[.int .i64 5,.string ⟨#[109,111,100]⟩,.string ⟨#[]⟩,.int .u64 0,.int .i64 0,.slice A7 2 c7] from rfl] at HF
 (with_reducible refine HF.out.mono ?_)
 rintro e z8 ⟨sl2,rfl,hat,hb8⟩
 obtain ⟨A8,c8,rfl,_⟩:=TAtP.iff.1 hat
 have K8:=K7.trans (hb8.mono K7.size)
 have HAt8:=Lib.hid (show TAt z8 z8.heap.size (cmpT [43] [(cmpT [42] [(cmpT [100,105,118] [numT (.int za),numT (.int zb)]),numT (.int zb)]),(cmpT [109,111,100] [numT (.int za),numT (.int zb)])]) (.slice A8 2 c8) from hat.wide (fun b hb=>hb.elim (fun h=>Nat.lt_of_lt_of_le h hb8.size) (·.2)))
 rw [show valT (cmpT [43] [(cmpT [42] [(cmpT [100,105,118] [numT (.int za),numT (.int zb)]),numT (.int zb)]),(cmpT [109,111,100] [numT (.int za),numT (.int zb)])]) (.slice A8 (Ht.Tm.as (cmpT [43] [(cmpT [42] [(cmpT [100,105,118] [numT (.int za),numT (.int zb)]),numT (.int zb)]),(cmpT [109,111,100] [numT (.int za),numT (.int zb)])])).length c8) = .agg #[.int .i64 5,.string ⟨#[43]⟩,.string ⟨#[]⟩,.int .u64 0,.int .i64 0,.slice A8 2 c8] from rfl]
 refine hK.out _ _ hb8 K8 ?_
 clear hat HF
 refine wpAnyF_one (i:=9) (by kernel_rfl) (by kernel_rfl) (fun _ _ _ _ _ h=>h) ⟨by kernel_rfl,by kernel_rfl⟩ (by kernel_rfl) rfl (by kernel_rfl) (fun z9 d9 K9 K hK=>?_)
 go_simp
 have HE:=Lib.hid (HPd.out z9 (.slice A8 2 c8) (HB11.out.trans (K9.mono HB11.out.size)) (HAt8.out.to d9 d9.size))
 rw [show valT (partsT [100,105,118] [109,111,100] (numT (.int za)) (numT (.int zb))) (.slice A8 2 c8) = .agg #[.int .i64 5,.string ⟨#[43]⟩,.string ⟨#[]⟩,.int .u64 0,.int .i64 0,.slice A8 2 c8] from rfl] at HE
 (with_reducible refine HE.out.mono ?_)
 rintro e z10 ⟨rfl,hb10⟩
 rw [HVa.out]
 have K10:=K9.trans (hb10.mono K9.size)
 refine hK.out _ _ hb10 K10 ?_
 clear HE
 refine qF 10 ?_
 refine qF 11 ?_
 refine qF 12 ?_
 refine wpAnyF_land1 (by kernel_rfl) rfl (fun z11 HQ d11 K11 hA gA=>?_)
 have gA':(((((False∨(z0.heap.size≤HQ∧HQ<z1.heap.size))∨(z2.heap.size≤HQ∧HQ<z3.heap.size))∨(z4.heap.size≤HQ∧HQ<z5.heap.size))∨(z6.heap.size≤HQ∧HQ<z7.heap.size))∨(z8.heap.size≤HQ∧HQ<z9.heap.size))∨(z10.heap.size≤HQ∧HQ<z11.heap.size):=gA
 have HGp:=Lib.hid (show u1.heap.size≤HQ from by
  have h0:=K0.size
  have h1:=d1.size
  have h2:=hb2.size
  have h3:=d3.size
  have h4:=hb4.size
  have h5:=d5.size
  have h6:=hb6.size
  have h7:=d7.size
  have h8:=hb8.size
  have h9:=d9.size
  have h10:=hb10.size
  have h11:=d11.size
  rcases gA' with (((((h | h) | h) | h) | h) | h) | h
  ·exact h.elim
  all_goals omega)
 replace hA:TBox z11 HQ zeroT (.slice none 0 0):=hA
 obtain ⟨r0,r1,r2,r3,r4,r5⟩:=TBox.cells (nb:=⟨#[]⟩) (mb:=⟨#[]⟩) hA rfl rfl
 obtain ⟨s0,s1,s2,s3,s4,s5⟩:=TBox.frozens hA
 have hset:=hA.set6 (k:=3) (b:=0) (v:=0) (n:=[]) (m:=decB za) (nb:=⟨#[]⟩) (mb:=sa) [] (.slice none 0 0) rfl HNa.out
 have HSet:=Lib.hid hset
 have HK5:=Lib.hid K11
 clear gA gA' hset hA hs0 K0 K1 K2 K3 K4 K5 K6 K7 K8 K9 K10 K11 d1 hb2 d3 hb4 d5 hb6 d7 hb8 d9 hb10 d11 HAt8
 refine uW 14 fun K hK=>?_
 go_simp
 clear r0 r1 r2 r3 r4 r5 s0 s1 s2 s3 s4 s5
 generalize (((((z11.setCell ⟨HQ,0,none⟩ (.int .i64 3)).setCell ⟨HQ,1,none⟩ (.string ⟨#[]⟩)).setCell ⟨HQ,2,none⟩ (.string sa)).setCell ⟨HQ,3,none⟩ (.int .u64 0)).setCell ⟨HQ,4,none⟩ (.int .i64 0)).setCell ⟨HQ,5,none⟩ (.slice none 0 0)=u2 at *
 have HUHQ:=Lib.hid (show Below u1.heap.size u1 u2 from HK5.out.grown HSet.out.2 HK5.out.size (fun j e=>by injection e with e;have:=HGp.out;omega))
 have HXHQ:=Lib.hid (show TBox u2 HQ (numT (.int za)) (.slice none 0 0) from HSet.out.1)
 refine hK.out _ _ (fun _=>HUHQ.out) ?_
 clear HSet HK5 HGp
 refine uW 15 fun K hK=>?_
 go_simp
 refine hK.out _ _ (fun h=>absurd h (by simp)) ?_
 refine wpAnyW_done (by kernel_rfl) ?_ _
 have HB12:=Lib.hid (HB11.out.trans (HUHQ.out.mono HB11.out.size))
 have HXa12:=Lib.hid (HXa11.out.below HUHQ.out)
 have HXb12:=Lib.hid (HXb11.out.below HUHQ.out)
 have HXHP2:=Lib.hid (HXHP.out.below HUHQ.out)
 clear HUHQ HXa11 HXb11 HPd HB11 HXHP
 go_upto_region 10 with fail
 refine wp_region_U 11 (by kernel_rfl) (fun z0 K0 hs0=>?_)
 refine qz 0 K0 ?_ (y:=fun z5 hS=>by obtain ⟨r0,r1,r2,r3,r4,r5⟩:=TBox.cells (nb:=⟨#[]⟩) (mb:=sa) (HXa12.out.below hS) rfl HNa.out;go_simp;rfl)
 refine qz 1 K0 ?_ (y:=fun z5 hS=>by obtain ⟨r0,r1,r2,r3,r4,r5⟩:=TBox.cells (nb:=⟨#[]⟩) (mb:=sb) (HXb12.out.below hS) rfl HNb.out;go_simp;rfl)
 refine qz 3 K0 ?_ (y:=fun z5 hS=>by obtain ⟨r0,r1,r2,r3,r4,r5⟩:=TBox.cells (nb:=⟨#[]⟩) (mb:=sb) (HXb12.out.below hS) rfl HNb.out;go_simp;rfl)
 refine wpAnyW_float [9] (fun _=>(.cells #[.int .i64 0,.string ⟨#[]⟩,.string ⟨#[]⟩,.int .u64 0,.int .i64 0,.slice none 0 0] 25)) (by kernel_rfl) (by kernel_rfl) (FloatRun.one rfl (fun a w=>by go_simp)) (fun _ _ h1 h2=>h2.trans (h1.mono h2.size)) (by kernel_rfl) (fun _ _ _ _ _ h=>h) rfl K0 ?_
 refine wpAnyF_one (i:=2) (by kernel_rfl) (by kernel_rfl) (fun _ _ _ _ _ h=>h) ⟨by kernel_rfl,by kernel_rfl⟩ (by kernel_rfl) rfl (by kernel_rfl) (fun z1 d1 K1 K hK=>?_)
 go_simp
 have HF:=Lib.hid (f2_ok (w:=z1) (P:=fun b=>b<z1.heap.size) (ta:=numT (.int za)) (tb:=numT (.int zb)) (sa:=(.slice none 0 0)) (sb:=(.slice none 0 0)) (s:=[43]) (nb:=⟨#[43]⟩) (num_leaf z1 _ HSa.out) (num_leaf z1 _ HSb.out) (fun b h=>h) rfl (by decide))
 rw [HVa.out,HVb.out] at HF
 (with_reducible refine HF.out.mono ?_)
 rintro e z2 ⟨sl2,rfl,hat,hb2⟩
 obtain ⟨A2,c2,rfl,_⟩:=TAtP.iff.1 hat
 have K2:=K1.trans (hb2.mono K1.size)
 have HAt2:=Lib.hid (show TAt z2 z2.heap.size (cmpT [43] [numT (.int za),numT (.int zb)]) (.slice A2 2 c2) from hat.wide (fun b hb=>hb.elim (fun h=>Nat.lt_of_lt_of_le h hb2.size) (·.2)))
 rw [show valT (cmpT [43] [numT (.int za),numT (.int zb)]) (.slice A2 (Ht.Tm.as (cmpT [43] [numT (.int za),numT (.int zb)])).length c2) = .agg #[.int .i64 5,.string ⟨#[43]⟩,.string ⟨#[]⟩,.int .u64 0,.int .i64 0,.slice A2 2 c2] from rfl]
 refine hK.out _ _ hb2 K2 ?_
 clear hat HF
 refine wpAnyF_one (i:=4) (by kernel_rfl) (by kernel_rfl) (fun _ _ _ _ _ h=>h) ⟨by kernel_rfl,by kernel_rfl⟩ (by kernel_rfl) rfl (by kernel_rfl) (fun z3 d3 K3 K hK=>?_)
 go_simp
 have HAt2:=Lib.hid (HAt2.out.to d3 d3.size)
 have HF:=Lib.hid (f2_ok (w:=z3) (P:=fun b=>b<z3.heap.size) (ta:=(cmpT [43] [numT (.int za),numT (.int zb)])) (tb:=numT (.int zb)) (sa:=(.slice A2 2 c2)) (sb:=(.slice none 0 0)) (s:=[45]) (nb:=⟨#[45]⟩) HAt2.out (num_leaf z3 _ HSb.out) (fun b h=>h) rfl (by decide))
 rw [show valT (cmpT [43] [numT (.int za),numT (.int zb)]) (.slice A2 2 c2) = .agg #[.int .i64 5,.string ⟨#[43]⟩,.string ⟨#[]⟩,.int .u64 0,.int .i64 0,.slice A2 2 c2] from rfl,HVb.out] at HF
 (with_reducible refine HF.out.mono ?_)
 rintro e z4 ⟨sl2,rfl,hat,hb4⟩
 obtain ⟨A4,c4,rfl,_⟩:=TAtP.iff.1 hat
 have K4:=K3.trans (hb4.mono K3.size)
 have HAt4:=Lib.hid (show TAt z4 z4.heap.size (cmpT [45] [(cmpT [43] [numT (.int za),numT (.int zb)]),numT (.int zb)]) (.slice A4 2 c4) from hat.wide (fun b hb=>hb.elim (fun h=>Nat.lt_of_lt_of_le h hb4.size) (·.2)))
 rw [show valT (cmpT [45] [(cmpT [43] [numT (.int za),numT (.int zb)]),numT (.int zb)]) (.slice A4 (Ht.Tm.as (cmpT [45] [(cmpT [43] [numT (.int za),numT (.int zb)]),numT (.int zb)])).length c4) = .agg #[.int .i64 5,.string ⟨#[45]⟩,.string ⟨#[]⟩,.int .u64 0,.int .i64 0,.slice A4 2 c4] from rfl]
 refine hK.out _ _ hb4 K4 ?_
 clear hat HF
 refine wpAnyF_one (i:=5) (by kernel_rfl) (by kernel_rfl) (fun _ _ _ _ _ h=>h) ⟨by kernel_rfl,by kernel_rfl⟩ (by kernel_rfl) rfl (by kernel_rfl) (fun z5 d5 K5 K hK=>?_)
 go_simp
 have HE:=Lib.hid (HPs.out z5 (.slice A4 2 c4) (HB12.out.trans (K5.mono HB12.out.size)) (HAt4.out.to d5 d5.size))
 rw [show valT (backT (numT (.int za)) (numT (.int zb))) (.slice A4 2 c4) = .agg #[.int .i64 5,.string ⟨#[45]⟩,.string ⟨#[]⟩,.int .u64 0,.int .i64 0,.slice A4 2 c4] from rfl] at HE
 (with_reducible refine HE.out.mono ?_)
 rintro e z6 ⟨rfl,hb6⟩
 rw [HVa.out]
 have K6:=K5.trans (hb6.mono K5.size)
 refine hK.out _ _ hb6 K6 ?_
 clear HE
 refine qF 6 ?_
 refine qF 7 ?_
 refine qF 8 ?_
 refine wpAnyF_land1 (by kernel_rfl) rfl (fun z7 HR d7 K7 hA gA=>?_)
 have gA':(((False∨(z0.heap.size≤HR∧HR<z1.heap.size))∨(z2.heap.size≤HR∧HR<z3.heap.size))∨(z4.heap.size≤HR∧HR<z5.heap.size))∨(z6.heap.size≤HR∧HR<z7.heap.size):=gA
 have HGp:=Lib.hid (show u2.heap.size≤HR from by
  have h0:=K0.size
  have h1:=d1.size
  have h2:=hb2.size
  have h3:=d3.size
  have h4:=hb4.size
  have h5:=d5.size
  have h6:=hb6.size
  have h7:=d7.size
  rcases gA' with (((h | h) | h) | h) | h
  ·exact h.elim
  all_goals omega)
 replace hA:TBox z7 HR zeroT (.slice none 0 0):=hA
 obtain ⟨r0,r1,r2,r3,r4,r5⟩:=TBox.cells (nb:=⟨#[]⟩) (mb:=⟨#[]⟩) hA rfl rfl
 obtain ⟨s0,s1,s2,s3,s4,s5⟩:=TBox.frozens hA
 have hset:=hA.set6 (k:=3) (b:=0) (v:=0) (n:=[]) (m:=decB za) (nb:=⟨#[]⟩) (mb:=sa) [] (.slice none 0 0) rfl HNa.out
 have HSet:=Lib.hid hset
 have HK5:=Lib.hid K7
 clear gA gA' hset hA hs0 K0 K1 K2 K3 K4 K5 K6 K7 d1 hb2 d3 hb4 d5 hb6 d7 HAt4
 refine uW 10 fun K hK=>?_
 go_simp
 clear r0 r1 r2 r3 r4 r5 s0 s1 s2 s3 s4 s5
 generalize (((((z7.setCell ⟨HR,0,none⟩ (.int .i64 3)).setCell ⟨HR,1,none⟩ (.string ⟨#[]⟩)).setCell ⟨HR,2,none⟩ (.string sa)).setCell ⟨HR,3,none⟩ (.int .u64 0)).setCell ⟨HR,4,none⟩ (.int .i64 0)).setCell ⟨HR,5,none⟩ (.slice none 0 0)=u3 at *
 have HUHR:=Lib.hid (show Below u2.heap.size u2 u3 from HK5.out.grown HSet.out.2 HK5.out.size (fun j e=>by injection e with e;have:=HGp.out;omega))
 have HXHR:=Lib.hid (show TBox u3 HR (numT (.int za)) (.slice none 0 0) from HSet.out.1)
 refine hK.out _ _ (fun _=>HUHR.out) ?_
 clear HSet HK5 HGp
 refine uW 11 fun K hK=>?_
 go_simp
 refine hK.out _ _ (fun h=>absurd h (by simp)) ?_
 refine wpAnyW_done (by kernel_rfl) ?_ _
 have HB13:=Lib.hid (HB12.out.trans (HUHR.out.mono HB12.out.size))
 have HXa13:=Lib.hid (HXa12.out.below HUHR.out)
 have HXP13:=Lib.hid (HXHP2.out.below HUHR.out)
 have HXQ13:=Lib.hid (HXHQ.out.below HUHR.out)
 clear HUHR HXa12 HXb12 HPs HB12 HXHP2 HXHQ HVb HNb HSb HZ6
 have HXR13:=Lib.hid HXHR.out
 clear HXHR
 obtain ⟨r0,r1,r2,r3,r4,r5⟩:=TBox.cells (nb:=⟨#[]⟩) (mb:=sa) HXP13.out rfl HNa.out
 obtain ⟨s0,s1,s2,s3,s4,s5⟩:=TBox.cells (nb:=⟨#[]⟩) (mb:=sa) HXa13.out rfl HNa.out
 have HSm:=Lib.hid (Same_any (numT (.int za)) u3 (.slice none 0 0) (.slice none 0 0) (num_leaf u3 _ HSa.out) (num_leaf u3 _ HSa.out))
 rw [HVa.out] at HSm
 go_wp2_with fail
 (with_reducible refine HSm.out.mono ?_)
 rintro e u4 ⟨rfl,hb⟩
 have HB14:=Lib.hid (HB13.out.trans (hb.mono HB13.out.size))
 have HXa14:=Lib.hid (HXa13.out.below hb)
 have HXQ14:=Lib.hid (HXQ13.out.below hb)
 have HXR14:=Lib.hid (HXR13.out.below hb)
 clear hb HSm r0 r1 r2 r3 r4 r5 s0 s1 s2 s3 s4 s5 HB13 HXa13
 obtain ⟨r0,r1,r2,r3,r4,r5⟩:=TBox.cells (nb:=⟨#[]⟩) (mb:=sa) HXQ14.out rfl HNa.out
 obtain ⟨s0,s1,s2,s3,s4,s5⟩:=TBox.cells (nb:=⟨#[]⟩) (mb:=sa) HXa14.out rfl HNa.out
 have HSm:=Lib.hid (Same_any (numT (.int za)) u4 (.slice none 0 0) (.slice none 0 0) (num_leaf u4 _ HSa.out) (num_leaf u4 _ HSa.out))
 rw [HVa.out] at HSm
 go_wp2_with fail
 (with_reducible refine HSm.out.mono ?_)
 rintro e u5 ⟨rfl,hb⟩
 have HB15:=Lib.hid (HB14.out.trans (hb.mono HB14.out.size))
 have HXa15:=Lib.hid (HXa14.out.below hb)
 have HXR15:=Lib.hid (HXR14.out.below hb)
 clear hb HSm r0 r1 r2 r3 r4 r5 s0 s1 s2 s3 s4 s5 HB14 HXa14
 obtain ⟨r0,r1,r2,r3,r4,r5⟩:=TBox.cells (nb:=⟨#[]⟩) (mb:=sa) HXR15.out rfl HNa.out
 obtain ⟨s0,s1,s2,s3,s4,s5⟩:=TBox.cells (nb:=⟨#[]⟩) (mb:=sa) HXa15.out rfl HNa.out
 have HSm:=Lib.hid (Same_any (numT (.int za)) u5 (.slice none 0 0) (.slice none 0 0) (num_leaf u5 _ HSa.out) (num_leaf u5 _ HSa.out))
 rw [HVa.out] at HSm
 go_wp2_with fail
 (with_reducible refine HSm.out.mono ?_)
 rintro e u6 ⟨rfl,hb⟩
 have HB16:=Lib.hid (HB15.out.trans (hb.mono HB15.out.size))
 have HXa16:=Lib.hid (HXa15.out.below hb)
 clear hb HSm r0 r1 r2 r3 r4 r5 s0 s1 s2 s3 s4 s5 HB15 HXa15
 go_wp2_with fail
 go_ret
 exact ⟨rfl,HB16.out⟩
end
section
open Go.ChangeShapes Go.WideShapes Go.ChangeAt Go.RowKit Go.Joins Go.Deep Hb
end
end Go.Proofs.YtjpnmmjgdiiahaaGreatDoor
namespace Ht
namespace Tm
end Tm
section
end
end Ht
namespace Ht
end Ht
namespace Go.Proofs.YtjpnmmjgdiiahaaGreatDoor
section
open Go.ChangeShapes Go.WideShapes Go.ChangeAt Go.RowKit Go.Joins Go.Deep Hb Ht
section
end
theorem arg_weights {H:Type} {d:DataW H} {l:List (DataW H)} {ts:List TypeId} {j:Nat} {t:TypeId} (hw:(DataW.weightsEach Tryz.prog ts l).all (· ≤ reachBytes)=true) (ht:ts[j]?=some t) (hd:l[j]?=some d):∀ m∈d.weights Tryz.prog t,m≤reachBytes:=fun m hm=>by
 have:=List.all_eq_true.1 hw m (DataW.weights_mem_each ht hd m hm)
 simpa using this
end
section
open Go.ChangeShapes Go.WideShapes Go.ChangeAt Go.RowKit Go.Joins Hb Ht
theorem laidK:laidOutB Tryz.prog=true:=by kernel_rfl
section
variable {H:Type} {enc:TypeId × Value→H} {P:Program}
theorem args_stay (hl:laidOutB P=true) {W W':World} (hb:Below W.heap.size W W'):∀ (ts:List TypeId) (vs:List Value) (ds:List (DataW H)) (ps:List MemPlace),
  (∀ t∈ts,P.readableRec t=true∧t<P.types.size)→DataW.TrodAll enc P W 0 (fun _=>true) true ts vs ds ps→(∀ x∈ps,x.block<W.heap.size) →
  ∀ sp:Nat→Bool,(∀ x∈ps,sp x.block=true)→DataW.TrodAll enc P W' 0 sp true ts vs ds ps
 | [],vs,ds,ps,_,h,_,_,_=>by
  cases vs <;> cases ds <;> simp [DataW.TrodAll] at h ⊢
  exact h
 | t :: ts,vs,ds,ps,hr,h,hlt,sp,hs=>by
  obtain ⟨v,vs',d,ds',p,q,rfl,rfl,rfl,h1,h2⟩:=trodAll_cons h
  have hp:∀ x∈p,x.block<W.heap.size:=fun x hx=>hlt x (List.mem_append_left _ hx)
  have hq:∀ x∈q,x.block<W.heap.size:=fun x hx=>hlt x (List.mem_append_right _ hx)
  exact trodAll_cons_mk (WideElems.Trod_stays hl (hr t (by simp)).1 (hr t (by simp)).2 h1 (fun x hx=>hb.same (hp x hx)) (fun x hx=>hs x (List.mem_append_left _ hx)))
   (args_stay hl hb ts vs' ds' q (fun t ht=>hr t (List.mem_cons_of_mem _ ht)) h2 hq sp (fun x hx=>hs x (List.mem_append_right _ hx)))
theorem law_end {f:Func} {s:ChangeSpec} {fresh handsOn again:Bool} {W W':World} {args:Array Value} {ds gs:List (DataW H)} {before:List MemPlace} {bt:TypeId}
  (hl:laidOutB P=true) (hr:∀ t∈f.params.toList,P.readableRec t=true∧t<P.types.size) (hres:f.resultTypes = #[bt]) (hbt:P.underlying bt=some .bool)
  (hv:s.vars = []) (hW:DataW.Whole enc P f.params.toList s.vars false W args.toList ds gs before) (hfn:s.fn H (ds ++ gs) = { results:=[.lit (.bool true)],args:=ds }) (hb:Below W.heap.size W W') :
  s.post enc P f false fresh handsOn again W args (.bool true) W':=by
 have hlt:∀ p∈before,p.block<W.heap.size:=fun p hp=>hW.lt p hp
 have hW2:=hW
 obtain ⟨p,q,hA,hV,rfl,hz,_⟩:=hW2
 rw [hv] at hV
 obtain ⟨rfl,rfl⟩:=trodVars_none hV
 rw [List.append_nil] at *
 have hst:=args_stay hl hb _ _ _ _ hr hA hlt
 have hR:∀ (b:Nat) (sp:Nat→Bool) (hd:Bool),DataW.TrodAll enc P W' b sp hd f.resultTypes.toList ((Value.bool true).resultList f.resultTypes.size) (s.fn H ds).results []:=by
  intro b sp hd
  rw [hfn,hres]
  exact ⟨[],[],shut_bool hbt true,rfl,rfl⟩
 refine ⟨ds,[],p,[],p,[],by simpa using hW,by simpa using hR _ _ _,?_,?_,World.keptBut_mono (fun x hx=>⟨hx,.inr (.inl hx)⟩) (hb.frame (· ∈ p)),fun _=>⟨?_,[.lit (.bool true)] ++ ds,[],p,⟨p,[],?_,?_,by simp,?_,fun h=>by cases h⟩,fun x hx _=>hx⟩⟩
 ·rw [List.append_nil,hfn];exact hst _ (fun x hx=>by simpa using hlt x hx)
 ·rw [List.append_nil,hfn,hv];rfl
 ·intro j t r ht hj
  rw [hres] at ht hj
  cases j with
  | zero=>
   simp at ht hj
   subst ht
   obtain rfl:r = .bool true:=by simpa [Value.resultList] using hj.symm
   exact okWide_bool_mk hbt true
  | succ j=>simp at ht
 ·have h1:=hR 0 (fun _=>true) true
  rw [hfn] at h1
  have:=trodAll_append (hst (fun _=>true) (fun _ _=>rfl)) h1
  simpa using this
 ·rw [hv];rfl
 ·intro b off hp
  rw [hb.frozen (hlt _ hp)]
  exact hz b off hp
end
theorem cellsU:Tryz.prog.cellsOf 79=1:=by kernel_rfl
theorem cellsInt:Tryz.prog.cellsOf 39=2:=by kernel_rfl
theorem bytesU:Tryz.prog.bytesOf 79=4:=by kernel_rfl
set_option maxRecDepth 100000 in
theorem open_IntW {H:Type} {enc:TypeId × Value→H} {W:World} {base:Nat} {v:Value} {d:DataW H} {p:List MemPlace} (hval:Value.okWide Tryz.prog W .any base 39 v)
  (h:DataW.Trod enc Tryz.prog W 0 (fun _=>true) true 39 v d p) (hw:∀ m∈d.weights Tryz.prog 39,m≤reachBytes):∃ (neg:Bool) (A:Option Addr) (n c:Nat) (l:List Nat),v = .agg #[.bool neg,.slice A n c]∧SlU W W.heap.size A n c l∧n≤35184372088832:=by
 obtain ⟨v0,v1,y0,y1,m,rfl,hd,_,h0,h1⟩:=open_agg2 Tryz.underlying39 (by kernel_rfl) cellsInt hval h
 obtain ⟨neg,e0,_⟩:=DataW.trod_bool Tryz.underlying4 h0
 simp at e0
 subst e0
 rcases open_ints Tryz.underlying37 Tryz.underlying79 cellsU h1 with ⟨e1,_⟩ | ⟨a,n,c,zs,e1,_,hnc,hcm,hz,hy1,hcell,hwf⟩
 ·simp at e1
  subst e1
  exact ⟨neg,none,0,0,[],rfl,SlU.nil _ _ _ _ (by simp [maxLen]),by omega⟩
 ·simp at e1
  subst e1
  simp only [if_true] at hz
  have hn8:n≤35184372088832:=by
   have h9:=hw (((lits (H:=H) .u32 (zs.take n)).length+(lits (H:=H) .u32 (zs.drop n)).length) * 4) (by
    rw [hd,DataW.weights,Tryz.underlying39]
    refine DataW.weights_mem_each (j:=1) rfl rfl _ ?_
    rw [hy1,DataW.weights,Tryz.underlying37,←bytesU]
    simp)
   simp only [lits,List.length_map,List.length_take,List.length_drop] at h9
   unfold reachBytes at h9
   omega
  have hw:∀ i,i<c→0≤zs.getD i 0∧zs.getD i 0<4294967296:=by
   intro i hi
   have hm:zs.getD i 0∈zs:=by
    rw [List.getD_eq_getElem?_getD,List.getElem?_eq_getElem (by omega)]
    exact List.getElem_mem _
   have:=hwf _ hm
   clear hm
   generalize zs.getD i 0=zz at *
   simp [Lit.wf,IntKind.min,IntKind.max,IntKind.signed,IntKind.bits] at this
   omega
  refine ⟨neg,some a,n,c,(zs.take n).map Int.toNat,rfl,⟨by simp;omega,hnc,hcm,?_,?_⟩,hn8⟩
  ·intro x hx
   obtain ⟨z,hz1,rfl⟩:=List.mem_map.1 hx
   obtain ⟨i,hi,rfl⟩:=List.getElem_of_mem hz1
   rw [List.length_take] at hi
   have h5:=hw i (by omega)
   have e:zs.getD i 0=zs[i]'(by omega):=by rw [List.getD_eq_getElem?_getD,List.getElem?_eq_getElem (by omega)];rfl
   rw [List.getElem_take,←e]
   show (zs.getD i 0).toNat<4294967296
   omega
  ·intro hne
   have hn:0<n:=by
    rcases Nat.eq_zero_or_pos n with h | h
    ·exfalso;apply hne;subst h;simp [u32s]
    ·exact h
   have g0:=hcell 0 (by omega)
   obtain ⟨b,off,spot⟩:=a
   have hspot:spot=none:=by simpa [Addr.add] using World.cell?_spot g0
   subst hspot
   refine ⟨b,off,rfl,?_,fun i u hu=>?_⟩
   ·have:=World.block_lt_of_cell? _ _ g0
    simpa [Addr.add] using this
   ·have hi:i<n:=by
     have:=(List.getElem?_eq_some_iff.1 hu).1
     rw [u32s_length,List.length_map,List.length_take] at this
     omega
    have h2:=hcell i (by omega)
    rw [addr_add] at h2
    rw [h2,←hu,u32s_get (by simp;omega)]
    congr 2
    have h3:=hw i (by omega)
    have e:zs.getD i 0=zs[i]'(by omega):=by rw [List.getD_eq_getElem?_getD,List.getElem?_eq_getElem (by omega)];rfl
    have e2:((zs.take n).map Int.toNat).getD i 0=(zs[i]'(by omega)).toNat:=by
     rw [List.getD_eq_getElem?_getD,List.getElem?_map,List.getElem?_take_of_lt hi,List.getElem?_eq_getElem (by omega)];rfl
    rw [e2,e]
    rw [e] at h3
    omega
theorem dcgOwn:ownKnob Tryz.prog.godebug=none:=by kernel_rfl
noncomputable def dcgWorld (os:Os):World:=World.laidAll Tryz.prog os Rows.arithPartsRow.laid
set_option maxRecDepth 100000 in
theorem dcgWorld_met (os:Os) (args:Array Value):laidMetH Tryz.prog Rows.arithPartsRow.laid ((dcgWorld os).forCall (fun _ _=>0) ⟨#[],args,[]⟩).memory:=by
 rw [MakeChecks.laidMetH_plain _ _ _ (by kernel_rfl)]
 exact laidMet_laidAll _ (by kernel_rfl) (by kernel_rfl)
set_option maxRecDepth 100000 in
theorem vtabs_laid {W:World} (h:laidMetH Tryz.prog Rows.arithPartsRow.laid W):VTabs W:=
 utf8Tabs_of_readsT (U8Types.of196 Tryz.laysValid) ⟨by kernel_rfl,by kernel_rfl,by kernel_rfl,by kernel_rfl,by kernel_rfl,by kernel_rfl,by kernel_rfl⟩ (Lib.laidMet.reads h (.tail _ (.tail _ (.tail _ (.tail _ (.head _)))))) (Lib.laidMet.reads h (.tail _ (.tail _ (.tail _ (.head _)))))
theorem parts_res:Tryz.f7.resultTypes = #[4]:=by kernel_rfl
set_option maxRecDepth 1000000 in
theorem parts_contract (H:Type) (enc:TypeId × Value→H) (W:World) (base:Nat) (args:Array Value) (ds gs:List (DataW H)) (before:List MemPlace)
  (hval:∀ (j:Nat) t v,Tryz.f7.params[j]?=some t→args[j]?=some v→Value.okWide Tryz.prog W .any base t v)
  (hW:DataW.Whole enc Tryz.prog Tryz.f7.params.toList Rows.arithPartsSpec.vars false W args.toList ds gs before) (hwt:(DataW.weightsEach Tryz.prog (Tryz.f7.params.toList ++ []) (ds ++ gs)).all (· ≤ reachBytes)=true) (hL:laidMetH Tryz.prog Rows.arithPartsRow.laid W) :
  Calls Tryz.prog 7 args W fun e W'=>∃ v,e = .returned v∧Rows.arithPartsSpec.post enc Tryz.prog Tryz.f7 false true false false W args v W':=by
 have hW':=hW
 obtain ⟨p,q,hA0,hV,rfl,hfz,hnd⟩:=hW
 have hA:DataW.TrodAll enc Tryz.prog W 0 (fun _=>true) true Tryz.f7.params.toList args.toList ds p:=hA0
 rw [Tryz.params7] at hA hval hwt
 obtain ⟨v0,vs0,d0,ds0,p0,q0,hargs,rfl,rfl,h0,r0⟩:=trodAll_cons hA
 obtain ⟨v1,vs1,d1,ds1,p1,q1,rfl,rfl,rfl,h1,r1⟩:=trodAll_cons r0
 obtain ⟨rfl,rfl,rfl⟩:=trodAll_nil r1
 obtain rfl:args = #[v0,v1]:=by cases args;simp_all
 obtain ⟨rfl,rfl⟩:=trodVars_none hV
 obtain ⟨neg0,A0,n0,c0,l0,rfl,hs0,hn0⟩:=open_IntW (hval 0 39 v0 rfl rfl) h0 (arg_weights (j:=0) hwt rfl rfl)
 obtain ⟨neg1,A1,n1,c1,l1,rfl,hs1,hn1⟩:=open_IntW (hval 1 39 v1 rfl rfl) h1 (arg_weights (j:=1) hwt rfl rfl)
 have hwalk:=Parts_walk neg0 neg1 hs0 hs1 hn0 hn1 (vtabs_laid hL).ok
 refine hwalk.mono fun e W' ⟨he,hb⟩=>?_
 subst he
 refine ⟨_,rfl,law_end (bt:=4) laidK (fun t ht=>?_) parts_res Tryz.underlying4 rfl hW' rfl hb⟩
 rw [Tryz.params7] at ht
 simp at ht
 subst ht
 exact ⟨by kernel_rfl,of_decide_eq_true (by kernel_rfl)⟩
theorem parts_reads (os:Os) {H:Type} (enc:TypeId × Value→H):∃ places,DataW.whole enc Tryz.prog ((dcgWorld os).forCall (fun _ _=>0) ⟨#[],#[.agg #[.bool false,.slice none 0 0],.agg #[.bool false,.slice none 0 0]],[]⟩).memory Tryz.f7.params.toList Rows.arithPartsSpec.vars false #[Value.agg #[.bool false,.slice none 0 0],Value.agg #[.bool false,.slice none 0 0]].toList 8 =
  some ([.agg [.lit (.bool false),.nil],.agg [.lit (.bool false),.nil]],[],places):=
 ⟨[],by kernel_rfl⟩
set_option maxRecDepth 100000 in
theorem parts_lifted (os:Os) (started:os.Started) (H:Type) (enc:TypeId × Value→H) (F:Stop.Interp) :
  ReturnsInHanded {} Tryz.checked os 7 .any ((OpenSpec.ofChange Rows.arithPartsSpec).preRow enc Tryz.prog Tryz.f7 Rows.arithPartsRow.domain false Rows.arithPartsRow.laid) (((OpenSpec.ofChange Rows.arithPartsSpec).at F).post enc Tryz.prog Tryz.f7 false true false false):=by
 obtain ⟨places,hx⟩:=parts_reads os enc
 refine returnsInHanded_of_row (C:=Tryz.checked) (s:=OpenSpec.ofChange Rows.arithPartsSpec) dcgOwn started (by kernel_rfl) Tryz.func7
  (witness_row_atRef (enc:=enc) (C:=Tryz.checked) false (dcgWorld os) #[.agg #[.bool false,.slice none 0 0],.agg #[.bool false,.slice none 0 0]] (World.laidAll_os _ _ _) (by kernel_rfl) (by kernel_rfl) (by kernel_rfl)
   (OpenSpec.preRow_of_cond 7 hx (by kernel_rfl) (fun k hk=>by cases hk) (by kernel_rfl) (dcgWorld_met os _))) ?_
 intro W base args ds gs before hval hW _ _ hwt hL _ _
 exact parts_contract H enc W base args ds gs before hval hW hwt hL
theorem parts_said:Rows.ArithPartsSaid:=
 OpenClaim.holds_of_cond 7 Tryz.f7 rfl rfl rfl rfl rfl rfl rfl ⟨rfl,rfl,rfl,rfl,rfl⟩ rfl rfl rfl rfl rfl (by kernel_rfl) Tryz.func7 (by kernel_rfl)
  (of_decide_eq_true (by kernel_rfl)) (by unfold Func.isWrapper;first | (rw [if_pos (by decide +kernel)];kernel_rfl) | (rw [if_neg (by decide +kernel)];exact ⟨rfl,rfl⟩))
  (fun os started H enc _ F=>by rw [OpenClaim.pre_eq_preRow];exact parts_lifted os started H enc F)
theorem parts_plain (f:FuncId) (fn:Func) (hf:Tryz.pinned.checked.prog.funcNamed "hornbeam/hornbeamlaw07.ArithParts" = some f) (hfn:Tryz.pinned.checked.prog.funcs[f]?=some fn) :
  true=Tryz.pinned.checked.prog.looks []∧∀ (j:Nat) t,fn.params[j]?=some t→Tryz.pinned.checked.prog.wantsStandIn t=false:=by
 obtain rfl:f=7:=Option.some.inj ((show Tryz.prog.funcNamed "hornbeam/hornbeamlaw07.ArithParts" = some 7 by kernel_rfl).symm.trans hf) |>.symm
 obtain rfl:fn=Tryz.f7:=(Option.some.inj (Tryz.func7.symm.trans hfn)).symm
 refine ⟨by kernel_rfl,fun j t ht=>?_⟩
 rw [Tryz.params7] at ht
 have hm:t ∈ [39,39]:=by simpa using Array.mem_of_getElem? ht
 have hall:([39,39].all fun u=>!Tryz.prog.wantsStandIn u)=true:=by kernel_rfl
 exact (show Tryz.prog.wantsStandIn t=false by simpa using List.all_eq_true.1 hall t hm)
theorem parts_card:Rows.ArithPartsCardSaid:=
 Claim7.holds_tied_plain_at .later [] _ _ _ _ parts_said (fun _ h=>by cases h) (by kernel_rfl) (fun _ h=>by cases h) arithParts_row_tie rfl ⟨rfl,rfl⟩ (by kernel_rfl) rfl parts_plain (by kernel_rfl)
end
end Go.Proofs.YtjpnmmjgdiiahaaGreatDoor
