import Derived.WalkKit
import Derived.Lib.Hide
import Derived.Test.YtjpnmmjgdiiahaaGreatDoorRows
import Derived.Deep.QuietTactic
import Derived.BigQuiet
import Derived.Deep.RegionHeld3
import Derived.Deep.DrawnRows
import Derived.Deep.DeepCutAuto
import Derived.Deep.CutBlock
import Derived.StillTailTactics
import Derived.Deep.AppendLies
import Derived.Maps.AppendAt
import Derived.Deep.OwnRows
import Derived.Test.YtjpnmmjgdiiahaaGreatDoorS1
import Derived.Test.YtjpnmmjgdiiahaaGreatDoorS2
import Derived.Test.YtjpnmmjgdiiahaaGreatDoorS3
import Derived.Test.YtjpnmmjgdiiahaaGreatDoorS4
import Derived.Test.YtjpnmmjgdiiahaaGreatDoorS5
set_option linter.unusedVariables false
set_option linter.unusedSimpArgs false
namespace Ht
namespace Tm
end Tm
section
end
end Ht
namespace Go.Proofs.YtjpnmmjgdiiahaaGreatDoor
section
open Go.RowKit Hb Ht
theorem below_drew' (w:World):Below w.heap.size w w.drew:=⟨rfl,rfl,rfl,Nat.le_refl _,fun _ _=>rfl⟩
def SameOk (t:Tm):Prop:=∀ (w:World) (sa sb:Value),TAt w w.heap.size t sa→TAt w w.heap.size t sb→Calls Tryz.prog 25 #[valT t sa,valT t sb] w fun e w'=>e = .returned (.bool true)∧Below w.heap.size w w'
set_option maxRecDepth 100000 in
set_option maxHeartbeats 4000000 in
theorem Same_any (t:Tm):SameOk t:=by
 refine Tm.ind (p:=SameOk) (fun k nl ml b v ts ih=>?_) t
 intro w sa sb ha hb
 obtain ⟨A,c,rfl,hl1,hl2,hl3⟩:=ha.slice
 obtain ⟨A2,c2,rfl,hm1,hm2,hm3⟩:=hb.slice
 obtain ⟨nb,hnb⟩:∃ nb:ByteArray,(⟨nl.toArray⟩:ByteArray)=nb:=⟨_,rfl⟩
 obtain ⟨mb,hmb⟩:∃ mb:ByteArray,(⟨ml.toArray⟩:ByteArray)=mb:=⟨_,rfl⟩
 obtain ⟨L,hL⟩:∃ L,ts.length=L:=⟨_,rfl⟩
 change ts.length≤c at hl1
 change ts.length≤c2 at hm1
 change ts.length≤maxArgs at hl3
 change TAt w w.heap.size (.mk k nl ml b v ts) (.slice A ts.length c) at ha
 change TAt w w.heap.size (.mk k nl ml b v ts) (.slice A2 ts.length c2) at hb
 change Calls Tryz.prog 25 #[valT _ (.slice A ts.length c),valT _ (.slice A2 ts.length c2)] w _
 rw [valT_mk hnb hmb,valT_mk hnb hmb]
 rw [hL] at ha hb hl1 hm1 hl3 ⊢
 have HIH:=Lib.hid ih
 have HL:=Lib.hid hL
 have HM:=Lib.hid (And.intro hnb hmb)
 have hLI:(L:Int)≤1759218604400:=by unfold maxArgs at hl3;omega
 obtain ⟨W0,hW0⟩:∃ W0,w.alloc (.cells #[.int .i64 k,.string nb,.string mb,.int .u64 b,.int .i64 v,.slice A L c] 25)=W0:=⟨_,rfl⟩
 have hX:=TBox.new (ts:=ts) w (k:=k) (b:=b) (v:=v) (sl:=.slice A L c) hnb hmb
 have hY:=TBox.new (ts:=ts) W0 (k:=k) (b:=b) (v:=v) (sl:=.slice A2 L c2) hnb hmb
 have hB0:Below w.heap.size w W0:=by rw [←hW0];exact (Below.refl _ _).alloc (Nat.le_refl _) _
 have hs0:W0.heap.size=w.heap.size+1:=by rw [←hW0];simp
 rw [hW0] at hX
 have hX1:=hX.below (w':=W0.alloc (.cells #[.int .i64 k,.string nb,.string mb,.int .u64 b,.int .i64 v,.slice A2 L c2] 25)) ((Below.refl _ _).alloc (Nat.le_refl _) _)
 have hB1:Below w.heap.size w (W0.alloc (.cells #[.int .i64 k,.string nb,.string mb,.int .u64 b,.int .i64 v,.slice A2 L c2] 25)):=hB0.alloc hB0.size _
 rw [hs0] at hY
 have HA:=Lib.hid (ha.to hB1 hB1.size)
 have HBb:=Lib.hid (hb.to hB1 hB1.size)
 have HB1:=Lib.hid hB1
 have HX:=Lib.hid (And.intro hX1 hY)
 subst hW0
 clear ih ha hb hnb hmb hX hX1 hY hB0 hB1 hs0 hL
 obtain ⟨x0,x1,x2,x3,x4,x5⟩:=HX.out.1.cells HM.out.1 HM.out.2
 obtain ⟨y0,y1,y2,y3,y4,y5⟩:=HX.out.2.cells HM.out.1 HM.out.2
 go_enter Tryz.func25,Tryz.ntmps25
 go_upto_region 4 with fail
 obtain ⟨W1,hW1⟩:∃ W1,(w.alloc (.cells #[.int .i64 k,.string nb,.string mb,.int .u64 b,.int .i64 v,.slice A L c] 25)).alloc (.cells #[.int .i64 k,.string nb,.string mb,.int .u64 b,.int .i64 v,.slice A2 L c2] 25)=W1:=⟨_,rfl⟩
 rw [hW1] at HA HBb HB1 HX ⊢
 clear hW1 x0 x1 x2 x3 x4 x5 y0 y1 y2 y3 y4 y5
 go_loopw [5] (fun v5 wr=>∃ i:Nat,v5 = .int .i64 (i:Int)∧i≤L∧Hid (Below W1.heap.size W1 wr)) (fun v5 _=>((L:Int) - intOf v5).toNat)
 case atStart=>exact ⟨0,rfl,Nat.zero_le _,Lib.hid (Below.refl _ _)⟩
 case round=>
  obtain ⟨i,rfl,hi,HI⟩:=hrel
  obtain ⟨x0,x1,x2,x3,x4,x5⟩:=(HX.out.1.below HI.out).cells HM.out.1 HM.out.2
  obtain ⟨y0,y1,y2,y3,y4,y5⟩:=(HX.out.2.below HI.out).cells HM.out.1 HM.out.2
  by_cases hlt:i<L
  ·have hltI:(i:Int)<(L:Int):=by omega
   have hi0:(0:Int)≤(i:Int):=by omega
   have hil:i<ts.length:=by rw [HL.out];exact hlt
   obtain ⟨a,ha⟩:∃ a,ts[i]?=some a:=⟨_,List.getElem?_eq_getElem hil⟩
   obtain ⟨g,o,rfl,hgB,helt⟩:=(HA.out.to HI.out HI.out.size).arg ha
   obtain ⟨A',c',k',n',m',b',v',ts',nb',mb',rfl,hnb',hmb',hta,e0,e1,e2,e3,e4,e5⟩:=EltAt.cells helt
   obtain ⟨g2,o2,rfl,hgB2,helt2⟩:=(HBb.out.to HI.out HI.out.size).arg ha
   obtain ⟨A3,c3,k3,n3,m3,b3,v3,ts3,nb3,mb3,heq,hnb3,hmb3,htb,f0,f1,f2,f3,f4,f5⟩:=EltAt.cells helt2
   cases heq
   rw [hnb'] at hnb3
   rw [hmb'] at hmb3
   subst hnb3 hmb3
   have HCl:=Lib.hid (HIH.out _ (List.mem_of_getElem? ha) wr.drew _ _ (hta.to (below_drew' wr) (Nat.le_refl _)) (htb.to (below_drew' wr) (Nat.le_refl _)))
   rw [valT_mk hnb' hmb',valT_mk hnb' hmb'] at HCl
   have HLT:=Lib.hid hlt
   clear helt helt2 hta htb hnb' hmb' ha hil hlt hi
   go_upto_region 6 with fail
   go_still_tail 10,(by kernel_rfl)
   change wpList _ _ _ _ _ wr.drew
   go_wp2_with (go_at_call 25;(with_reducible refine HCl.out.mono ?_);rintro e w' ⟨rfl,hb3⟩;have HB3:=Lib.hid ((HI.out.trans ((below_drew' wr).mono HI.out.size)).trans (hb3.mono HI.out.size));clear hb3)
   go_roundw
   case rel=>exact ⟨i+1,rfl,HLT.out,HB3⟩
   case measure=>
    have:=HLT.out
    show ((L:Int) - ((i:Int)+1)).toNat<((L:Int) - (i:Int)).toNat
    omega
  ·have ei:i=L:=by omega
   subst ei
   have HE:=Lib.hid HI.out
   clear hlt hi
   go_wp2
   go_ret
   exact ⟨rfl,HB1.out.trans (HE.out.mono HB1.out.size)⟩
end
end Go.Proofs.YtjpnmmjgdiiahaaGreatDoor
namespace Ht
open Go Go.RowKit Hb
end Ht
namespace Go.Proofs.YtjpnmmjgdiiahaaGreatDoor
section
open Go.RowKit Hb Ht
section
end
end
section
open Go.RowKit Hb Ht
attribute [local go_sem] Oper.semAt_some
end
end Go.Proofs.YtjpnmmjgdiiahaaGreatDoor
