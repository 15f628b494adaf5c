import Derived.WalkKit
import Derived.Lib.Hide
import Derived.Test.YtpikjceodmepiaaGreatDoorRows
import Derived.Deep.QuietTactic
import Derived.BigQuiet
import Derived.Deep.RegionHeld3
import Derived.Deep.DrawnRows
import Derived.Deep.DeepCutAuto
import Derived.Deep.CutBlock
import Derived.StillTailTactics
import Derived.Deep.AppendLies
import Derived.Maps.AppendAt
import Derived.Deep.OwnRows
import Derived.Shelf.Small.Bits
import Derived.Laws.BytesArg
import Derived.Laws.AppendOwnNone
import Derived.ProofKit
import Derived.OpenShut
import Derived.JoinedCond
import Derived.JoinedOf
import Derived.JoinedAt
import Derived.ChangeSame
import Derived.ChangeSlices
import Derived.RowKit3
import Derived.Carry
import Derived.Lib.SmallJoins
import Derived.Deep.LoopGhost
import Derived.IntWalk
import Derived.Laws.Cover2
import Derived.Laws.FloatArith
import Derived.Lib.ValidU
import Derived.Shelf.Unicode.ValidAny
import Derived.Lib.LaidU8T
import Derived.Lib.ValidLaws
import Derived.Lib.TrimUEq
import Derived.Test.YtpikjceodmepiaaGreatDoorV1
import Derived.Test.YtpikjceodmepiaaGreatDoorV2
import Derived.Test.YtpikjceodmepiaaGreatDoorV3
import Derived.Test.YtpikjceodmepiaaGreatDoorV4
import Derived.Test.YtpikjceodmepiaaGreatDoorV5
import Derived.Test.YtpikjceodmepiaaGreatDoorV6
import Derived.Test.YtpikjceodmepiaaGreatDoorV7
import Derived.Test.YtpikjceodmepiaaGreatDoorV8
import Derived.Test.YtpikjceodmepiaaGreatDoorV11
import Derived.Test.YtpikjceodmepiaaGreatDoorV12
import Derived.Test.YtpikjceodmepiaaGreatDoorV0
set_option maxRecDepth 1000000
set_option maxHeartbeats 64000000
set_option linter.unusedVariables false
set_option linter.unusedSimpArgs false
namespace Go.Proofs.YtpikjceodmepiaaGreatDoor
section
open Go.RowKit Hb Hf Ht
def sInf:List UInt8:=[105,110,102]
def sSup:List UInt8:=[115,117,112]
def sDots:List UInt8:=[46,46]
def sOr:List UInt8:=[92,47]
def decB (z:Int):List UInt8:=(txtZ z 10).map UInt8.ofNat
def intT (m:List UInt8):Tm:=.mk 3 [] m 0 0 []
def endT:Ed→Tm
 | .lo=>atomT sInf
 | .hi=>atomT sSup
 | .num z=>intT (decB z)
def spanT (r:R):Tm:=if r.1=r.2 then endT r.1 else cmpT sDots [endT r.1,endT r.2]
def orT (t:Tm) (r:R):Tm:=cmpT sOr [t,spanT r]
def setT:List R→Tm
 | []=>cmpT sDots [endT (.num 1),endT (.num 0)]
 | r :: rs=>rs.foldl orT (spanT r)
def bdT (t:Tm):Ed × Bool:=
 if t.k=3 then (.num (pVal t.m 10),true) else if t.k=2∧t.n=sInf then (.lo,true) else if t.k=2∧t.n=sSup then (.hi,true) else (.num 0,false)
def rdT:Tm→List R × Bool
 | .mk k n m b v ts=>
  if k=3 then ([(.num (pVal m 10),.num (pVal m 10))],true)
  else match ts with
   | [x,y]=>
    if k=5∧n=sDots then ([((bdT x).1,(bdT y).1)],(bdT x).2 && (bdT y).2)
    else if k=5∧n=sOr then ((rdT x).1 ++ (rdT y).1,(rdT x).2 && (rdT y).2)
    else ([],false)
   | _=>([],false)
termination_by t=>sz t
decreasing_by all_goals (simp [sz,szs];omega)
theorem ok_num {r:R} (h:Hf.ok r) (e:r.1=r.2):∃ z,r.1 = .num z:=by
 obtain ⟨z,h1,h2⟩:=h
 rw [←e] at h2
 cases e1:r.1 with
 | lo=>rw [e1] at h2;exact h2.elim
 | hi=>rw [e1] at h1;exact h1.elim
 | num x=>exact ⟨x,rfl⟩
theorem szE_one:szE (.num 1)=1:=by
 show (digs W 1).length=1
 decide +kernel
theorem szE_nought:szE (.num 0)=0:=by
 show (digs W 0).length=0
 decide +kernel
theorem short_sz {z:Int} (h:szE (.num z)≤128):tooLong z=false:=by
 have h0:(digs W z.natAbs).length≤128:=h
 have h1:=lt_of_digs_length (b:=W) (by decide) h0
 rw [tooLong_iff,decide_eq_false_iff_not,Classical.not_not]
 refine Ql h1 (Nat.le_of_eq ?_)
 show 4294967296 ^ 128=2 ^ 4096
 decide +kernel
theorem dec_len {z:Int} (h:tooLong z=false):(decB z).length≤4098:=by
 have:=strN_size (z:=z) (r:=10) (by decide) h
 have e:(strN (txtZ z 10)).size=(decB z).length:=by simp [strN,ByteArray.size,decB]
 rwa [e] at this
def EdOk (e:Ed):Prop:=szE e≤128
theorem okF_end {e:Ed} (h:EdOk e):okF (endT e):=by
 cases e with
 | lo=>exact okF_atom (by decide)
 | hi=>exact okF_atom (by decide)
 | num z=>
  refine ⟨by simp [endT,intT,Tm.n],?_,by simp [endT,intT,Tm.b],by simp [endT,intT,Tm.v],by simp [endT,intT,Tm.k]⟩
  show (decB z).length≤maxLen
  have:=dec_len (short_sz h)
  unfold maxLen
  omega
theorem end_as (e:Ed):(endT e).as = []:=by cases e <;> rfl
end
end Go.Proofs.YtpikjceodmepiaaGreatDoor
namespace Ht
open Go Go.RowKit Hb
theorem TAtP.wide {w:World} {P Q:Nat→Prop} {t:Tm} {sl:Value} (h:TAtP w P t sl) (hP:∀ b,P b→Q b):TAtP w Q t sl:=TAtP.keep t h (fun b hp=>⟨hP b hp,rfl⟩)
end Ht
namespace Go.Proofs.YtpikjceodmepiaaGreatDoor
section
open Go.RowKit Hb Hf Ht
attribute [local go_sem] Oper.semAt_some
def zeroT:Tm:=.mk 0 [] [] 0 0 []
def Grow (P:Nat→Prop) (w w':World) (b:Nat):Prop:=P b∨(w.heap.size≤b∧b<w'.heap.size)
theorem TBox.frozen {w:World} {g:Nat} {t:Tm} {sl:Value} (h:TBox w g t sl) (j:Nat):w.frozen? ⟨g,j,none⟩=false:=by
 unfold TBox at h
 simp [World.frozen?,h]
theorem TBox.set6 {w:World} {g:Nat} {t0:Tm} {sl0:Value} (h:TBox w g t0 sl0) {k v b:Int} {n m:List UInt8} (ts:List Tm) (sl:Value) {nb mb:ByteArray} (hn:(⟨n.toArray⟩:ByteArray)=nb) (hm:(⟨m.toArray⟩:ByteArray)=mb) :
  TBox ((((((w.setCell ⟨g,0,none⟩ (.int .i64 k)).setCell ⟨g,1,none⟩ (.string nb)).setCell ⟨g,2,none⟩ (.string mb)).setCell ⟨g,3,none⟩ (.int .u64 b)).setCell ⟨g,4,none⟩ (.int .i64 v)).setCell ⟨g,5,none⟩ sl) g (.mk k n m b v ts) sl ∧
   w.grownBy ((((((w.setCell ⟨g,0,none⟩ (.int .i64 k)).setCell ⟨g,1,none⟩ (.string nb)).setCell ⟨g,2,none⟩ (.string mb)).setCell ⟨g,3,none⟩ (.int .u64 b)).setCell ⟨g,4,none⟩ (.int .i64 v)).setCell ⟨g,5,none⟩ sl) (some g):=by
 subst hn hm
 constructor
 ·unfold TBox at h ⊢
  simp [World.setCell,Array.getElem?_modify,h,Ht.cells6,Tm.k,Tm.n,Tm.m,Tm.b,Tm.v]
 ·exact gb_setCell (gb_setCell (gb_setCell (gb_setCell (gb_setCell (gb_setCell (gb_refl w (some g)) 0 _) 1 _) 2 _) 3 _) 4 _) 5 _
theorem TBox.frozens {w:World} {g:Nat} {t:Tm} {sl:Value} (h:TBox w g t sl):w.frozen? ⟨g,0,none⟩=false∧w.frozen? ⟨g,1,none⟩=false∧w.frozen? ⟨g,2,none⟩=false∧w.frozen? ⟨g,3,none⟩=false∧w.frozen? ⟨g,4,none⟩=false∧w.frozen? ⟨g,5,none⟩=false:=
 ⟨h.frozen 0,h.frozen 1,h.frozen 2,h.frozen 3,h.frozen 4,h.frozen 5⟩
def TmPost (w:World) (P:Nat→Prop) (t:Tm) (e:Ending) (w':World):Prop:=∃ sl,e = .returned (valT t sl)∧TAtP w' (Grow P w w') t sl∧Below w.heap.size w w'
theorem TAtP.leaf (w:World) (P:Nat→Prop) {t:Tm} {A:Option Addr} {c:Nat} (h:t.as = []) (hc:c≤maxLen) (ho:okF t):TAtP w P t (.slice A 0 c):=by
 rw [TAtP.iff]
 refine ⟨A,c,by rw [h];rfl,by rw [h];exact Nat.zero_le _,hc,by rw [h];exact Nat.zero_le _,ho,fun hne=>absurd h hne⟩
theorem of_ok {w:World} {P:Nat→Prop} {ta tb:Tm} {sa sb:Value} {s:List UInt8} {nb:ByteArray} (ha:TAtP w P ta sa) (hb:TAtP w P tb sb) (hP:∀ b,P b→b<w.heap.size) (hs:(⟨s.toArray⟩:ByteArray)=nb) (hl:s.length≤maxLen) :
  Calls Tryz.prog 36 #[.string nb,valT ta sa,valT tb sb] w (TmPost w P (cmpT s [ta,tb])):=by
 obtain ⟨k1,nl1,ml1,b1,v1,ts1,nb1,mb1,A1,c1,rfl,rfl,hnb1,hmb1,hl1,hl2,hl3,hv1,_,_⟩:=ha.letters
 obtain ⟨k2,nl2,ml2,b2,v2,ts2,nb2,mb2,A2,c2,rfl,rfl,hnb2,hmb2,hm1,hm2,hm3,hv2,_,_⟩:=hb.letters
 rw [hv1,hv2]
 obtain ⟨q1,hq1⟩:∃ q,ts1.length=q:=⟨_,rfl⟩
 obtain ⟨q2,hq2⟩:∃ q,ts2.length=q:=⟨_,rfl⟩
 rw [hq1] at ha ⊢
 rw [hq2] at hb ⊢
 obtain ⟨W1,hW1⟩:∃ W1,w.alloc (.cells (Q5 k1 nb1 mb1 b1 v1 (.slice A1 q1 c1)) 26)=W1:=⟨_,rfl⟩
 obtain ⟨W2,hW2⟩:∃ W2,W1.alloc (.cells (Q5 k2 nb2 mb2 b2 v2 (.slice A2 q2 c2)) 26)=W2:=⟨_,rfl⟩
 obtain ⟨W3,hW3⟩:∃ W3,W2.alloc (.cells (Qn 5 nb (.slice (some ⟨w.heap.size+1+1+1,0,none⟩) 2 2)) 26)=W3:=⟨_,rfl⟩
 obtain ⟨W4,hW4⟩:∃ W4,W3.alloc (.cells #[.int .i64 k1,.string nb1,.string mb1,.int .u64 b1,.int .i64 v1,.slice A1 q1 c1,.int .i64 k2,.string nb2,.string mb2,.int .u64 b2,.int .i64 v2,.slice A2 q2 c2] 26)=W4:=⟨_,rfl⟩
 have h1:Below w.heap.size w W1:=by rw [←hW1];exact Qb
 have s1:W1.heap.size=w.heap.size+1:=by rw [←hW1];simp
 have h2:Below W1.heap.size W1 W2:=by rw [←hW2];exact Qb
 have s2:W2.heap.size=W1.heap.size+1:=by rw [←hW2];simp
 have h3:Below W2.heap.size W2 W3:=by rw [←hW3];exact Qb
 have s3:W3.heap.size=W2.heap.size+1:=by rw [←hW3];simp
 have h4:Below W3.heap.size W3 W4:=by rw [←hW4];exact Qb
 have s4:W4.heap.size=W3.heap.size+1:=by rw [←hW4];simp
 have s31:W3.heap.size=w.heap.size+1+1+1:=by omega
 have hX1:TBox W1 w.heap.size (.mk k1 nl1 ml1 b1 v1 ts1) (.slice A1 q1 c1):=by rw [←hW1];exact TBox.new w hnb1 hmb1
 have hX2:TBox W2 W1.heap.size (.mk k2 nl2 ml2 b2 v2 ts2) (.slice A2 q2 c2):=by rw [←hW2];exact TBox.new W1 hnb2 hmb2
 have hX3:TBox W3 W2.heap.size (cmpT s [.mk k1 nl1 ml1 b1 v1 ts1,.mk k2 nl2 ml2 b2 v2 ts2]) (.slice (some ⟨w.heap.size+1+1+1,0,none⟩) 2 2):=by rw [←hW3];exact TBox.new W2 hs rfl
 have hX0:TBox (W2.alloc (.cells Qz 26)) W2.heap.size zeroT (.slice none 0 0):=TBox.new W2 rfl rfl
 have h3':Below W2.heap.size W2 (W2.alloc (.cells Qz 26)):=Qb
 have hX1':=(hX1.below h2).below h3'
 have hX2':=hX2.below h3'
 have hb12:=h1.trans ((h2.trans ((h3.trans (h4.mono (by omega))).mono (by omega))).mono (by omega))
 have hrow:RowP W4 P (some ⟨W3.heap.size,0,none⟩) 2 [((.mk k1 nl1 ml1 b1 v1 ts1:Tm),Value.slice A1 q1 c1),((.mk k2 nl2 ml2 b2 v2 ts2:Tm),Value.slice A2 q2 c2)]:=by
  refine RowP.block (ps:=[((.mk k1 nl1 ml1 b1 v1 ts1:Tm),Value.slice A1 q1 c1),((.mk k2 nl2 ml2 b2 v2 ts2:Tm),Value.slice A2 q2 c2)]) ?_ (fun p hp=>?_)
  ·rw [←hW4,←hnb1,←hmb1,←hnb2,←hmb2]
   exact heap_alloc_new W3 _
  ·simp only [List.mem_cons,List.not_mem_nil,or_false] at hp
   rcases hp with rfl | rfl
   ·exact ha.below hb12 hP
   ·exact hb.below hb12 hP
 have ht:TAtP W4 (Grow P w W4) (cmpT s [.mk k1 nl1 ml1 b1 v1 ts1,.mk k2 nl2 ml2 b2 v2 ts2]) (.slice (some ⟨W3.heap.size,0,none⟩) 2 2):=
  RowP.term (ps:=[((.mk k1 nl1 ml1 b1 v1 ts1:Tm),Value.slice A1 q1 c1),((.mk k2 nl2 ml2 b2 v2 ts2:Tm),Value.slice A2 q2 c2)]) ⟨hrow.1,fun p hp=>(hrow.2.1 p hp).wide (fun b hb=>.inl hb),hrow.2.2⟩ (fun g o _ e=>by injection e with e;injection e with e;exact .inr ⟨by omega,by omega⟩) rfl (by omega) (by unfold maxLen;omega) (by unfold maxArgs;omega) (okF_cmp hl)
 rw [s31] at ht
 have HK:=Qh (show TmPost w P (cmpT s [.mk k1 nl1 ml1 b1 v1 ts1,.mk k2 nl2 ml2 b2 v2 ts2]) (.returned (.agg (Qn 5 nb (.slice (some ⟨w.heap.size+1+1+1,0,none⟩) 2 2)))) W4 from
  ⟨.slice (some ⟨w.heap.size+1+1+1,0,none⟩) 2 2,by rw [←hs];rfl,ht,hb12⟩)
 have hX4:=hX3.below h4
 rw [s2,s1] at hX4
 have HX4:=Qh hX4
 rw [s2,s1] at hX0
 rw [s1] at hX2'
 obtain ⟨x0,x1,x2,x3,x4,x5⟩:=hX1'.cells hnb1 hmb1
 obtain ⟨y0,y1,y2,y3,y4,y5⟩:=hX2'.cells hnb2 hmb2
 obtain ⟨z0,z1,z2,z3,z4,z5⟩:=hX0.frozens
 subst hW4 hW3 hW2 hW1
 clear ha hb h1 h2 h3 h4 h3' s1 s2 s3 s4 s31 hX1 hX2 hX3 hX0 hX1' hX2' hX4 hb12 hrow hnb1 hmb1 hnb2 hmb2 hq1 hq2 hv1 hv2 ht
 go_enter Tryz.func36,Tryz.ntmps36
 go_wp2
 obtain ⟨r0,r1,r2,r3,r4,r5⟩:=HX4.out.cells (nb:=nb) (mb:=⟨#[]⟩) hs rfl
 exact bodyPost_ret (by simp [results,Tryz.results36,go_sem,r0,r1,r2,r3,r4,r5]) rfl HK.out
def EndTPost (w:World) (t:Tm) (e:Ending) (w':World):Prop:=e = .returned (valT t (.slice none 0 0))∧Below w.heap.size w w'
theorem end_ok {b:Bd} {P:Nat→Prop} {w:World} (hb:b.At w P) (hP:∀ x,P x→x<w.heap.size) (ht:b.Tri) (hn:b.n≤128) :
  Calls Tryz.prog 37 #[b.v] w (EndTPost w (endT b.ed)):=by
 unfold Bd.Tri at ht
 rcases ht with h | h | h
 ·rw [Bd.ed_lo (by omega)]
  obtain ⟨bi,bg,bA,bn,bc,bl⟩:=b
  simp only at h
  subst h
  have e1:=(EBox.new w ⟨-1,bg,bA,bn,bc,bl⟩).below (w':=(w.alloc (.cells #[.int .i64 (-1),.bool bg,.slice bA bn bc] 67)).alloc (.cells Qz 26)) (Qb)
  obtain ⟨x0,x1,x2⟩:=e1.cells
  have hz:=TBox.new (w.alloc (.cells #[.int .i64 (-1),.bool bg,.slice bA bn bc] 67)) (k:=0) (v:=0) (b:=0) (n:=[]) (m:=[]) (ts:=[]) (sl:=.slice none 0 0) (nb:=⟨#[]⟩) (mb:=⟨#[]⟩) rfl rfl
  have hx:=TBox.new (w.alloc (.cells #[.int .i64 (-1),.bool bg,.slice bA bn bc] 67)) (k:=2) (v:=0) (b:=0) (n:=sInf) (m:=[]) (ts:=[]) (sl:=.slice none 0 0) (nb:=⟨#[105,110,102]⟩) (mb:=⟨#[]⟩) rfl rfl
  rw [World.size_alloc] at hz hx
  obtain ⟨z0,z1,z2,z3,z4,z5⟩:=hz.frozens
  have HX:=Qh hx
  have HB:=Qh (show Below w.heap.size w ((w.alloc (.cells #[.int .i64 (-1),.bool bg,.slice bA bn bc] 67)).alloc (.cells (Qn 2 ⟨#[105,110,102]⟩ (.slice none 0 0)) 26)) from (Qb).alloc (by simp) _)
  simp only [Bd.v,Bd.vals] at x0 x1 x2 ⊢
  clear hb hn e1 hz hx
  go_enter Tryz.func37,Tryz.ntmps37
  go_wp2
  obtain ⟨r0,r1,r2,r3,r4,r5⟩:=HX.out.cells (nb:=⟨#[105,110,102]⟩) (mb:=⟨#[]⟩) rfl rfl
  exact bodyPost_ret (v:=.agg (Qn 2 ⟨#[105,110,102]⟩ (.slice none 0 0))) (by simp [results,Tryz.results37,go_sem,r0,r1,r2,r3,r4,r5]) rfl ⟨rfl,HB.out⟩
 ·rw [Bd.ed_zero h]
  obtain ⟨bi,bg,bA,bn,bc,bl⟩:=b
  simp only at h hn
  subst h
  obtain ⟨z,hz⟩:∃ z,ival bg bl=z:=⟨_,rfl⟩
  have HTl:=Qh (show tooLong z=false from short_sz (Nat.le_trans (show (digs W z.natAbs).length≤bn from by
   refine digs_length_le (by decide) ?_
   have h1:=nv_lt hb.lim.dig
   have h2:=hb.lim.len
   simp only at h1 h2
   rw [h2] at h1
   rw [←hz]
   unfold ival
   split
   ·rw [Int.natAbs_neg,Int.natAbs_natCast];exact h1
   ·rw [Int.natAbs_natCast];exact h1) hn))
  have hzz:Bd.z ⟨0,bg,bA,bn,bc,bl⟩=z:=hz
  rw [hzz]
  have hB2:Below w.heap.size w ((w.alloc (.cells #[.int .i64 0,.bool bg,.slice bA bn bc] 67)).alloc (.cells Qz 26)):=(Qb).alloc (by simp) _
  obtain ⟨st,hst⟩:∃ st:ByteArray,(⟨(decB z).toArray⟩:ByteArray)=st:=⟨_,rfl⟩
  have HT:=Qh (show Calls Tryz.prog 74 #[.agg #[.bool bg,.slice bA bn bc],.int .i64 10] _ (TextQ _ st) from Text_z (w:=((w.alloc (.cells #[.int .i64 0,.bool bg,.slice bA bn bc] 67)).alloc (.cells Qz 26))) (r:=10) rfl (by decide) (by decide) (((hb.lim.sl (B:=w.heap.size) hP).below hB2 (Nat.le_refl _)).mono hB2.size) (by omega) hz HTl.out hst)
  have e1:=(EBox.new w ⟨0,bg,bA,bn,bc,bl⟩).below (w':=(w.alloc (.cells #[.int .i64 0,.bool bg,.slice bA bn bc] 67)).alloc (.cells Qz 26)) (Qb)
  obtain ⟨x0,x1,x2⟩:=e1.cells
  have hx0:=TBox.new (w.alloc (.cells #[.int .i64 0,.bool bg,.slice bA bn bc] 67)) (k:=0) (v:=0) (b:=0) (n:=[]) (m:=[]) (ts:=[]) (sl:=.slice none 0 0) (nb:=⟨#[]⟩) (mb:=⟨#[]⟩) rfl rfl
  rw [World.size_alloc] at hx0
  have HX:=Qh hx0
  have HB2:=Qh hB2
  have HSt:=Qh hst
  simp only [Bd.v,Bd.vals] at x0 x1 x2 ⊢
  clear hb hn e1 hx0 hz hzz hB2 hst
  go_enter Tryz.func37,Tryz.ntmps37
  go_wp2_with (go_at_call 74;(with_reducible refine HT.out.mono ?_);rintro e u ⟨rfl,hb1⟩;have HX1:=Qh (HX.out.below hb1);have HB1:=Qh (HB2.out.trans (hb1.mono HB2.out.size));clear hb1;obtain ⟨z0,z1,z2,z3,z4,z5⟩:=HX1.out.frozens;obtain ⟨y0,y1,y2,y3,y4,y5⟩:=HX1.out.cells (nb:=⟨#[]⟩) (mb:=⟨#[]⟩) rfl rfl)
  obtain ⟨hbx,hgr⟩:=HX1.out.set6 (k:=3) (b:=0) (v:=0) (n:=[]) (m:=decB z) (nb:=⟨#[]⟩) (mb:=st) [] (.slice none 0 0) rfl HSt.out
  generalize (((((u.setCell ⟨w.heap.size+1,0,none⟩ (.int .i64 3)).setCell ⟨w.heap.size+1,1,none⟩ (.string ⟨#[]⟩)).setCell ⟨w.heap.size+1,2,none⟩ (.string st)).setCell ⟨w.heap.size+1,3,none⟩ (.int .u64 0)).setCell ⟨w.heap.size+1,4,none⟩ (.int .i64 0)).setCell ⟨w.heap.size+1,5,none⟩ (.slice none 0 0)=u6 at *
  obtain ⟨r0,r1,r2,r3,r4,r5⟩:=hbx.cells (nb:=⟨#[]⟩) (mb:=st) rfl HSt.out
  exact bodyPost_ret (v:=.agg (Q5 3 ⟨#[]⟩ st 0 0 (.slice none 0 0))) (by simp [results,Tryz.results37,go_sem,r0,r1,r2,r3,r4,r5]) rfl ⟨by rw [←HSt.out];rfl,HB1.out.grown hgr HB1.out.size (Qg (by omega))⟩
 ·rw [Bd.ed_hi (by omega)]
  obtain ⟨bi,bg,bA,bn,bc,bl⟩:=b
  simp only at h
  subst h
  have e1:=(EBox.new w ⟨1,bg,bA,bn,bc,bl⟩).below (w':=(w.alloc (.cells #[.int .i64 (1),.bool bg,.slice bA bn bc] 67)).alloc (.cells Qz 26)) (Qb)
  obtain ⟨x0,x1,x2⟩:=e1.cells
  have hz:=TBox.new (w.alloc (.cells #[.int .i64 (1),.bool bg,.slice bA bn bc] 67)) (k:=0) (v:=0) (b:=0) (n:=[]) (m:=[]) (ts:=[]) (sl:=.slice none 0 0) (nb:=⟨#[]⟩) (mb:=⟨#[]⟩) rfl rfl
  have hx:=TBox.new (w.alloc (.cells #[.int .i64 (1),.bool bg,.slice bA bn bc] 67)) (k:=2) (v:=0) (b:=0) (n:=sSup) (m:=[]) (ts:=[]) (sl:=.slice none 0 0) (nb:=⟨#[115,117,112]⟩) (mb:=⟨#[]⟩) rfl rfl
  rw [World.size_alloc] at hz hx
  obtain ⟨z0,z1,z2,z3,z4,z5⟩:=hz.frozens
  have HX:=Qh hx
  have HB:=Qh (show Below w.heap.size w ((w.alloc (.cells #[.int .i64 (1),.bool bg,.slice bA bn bc] 67)).alloc (.cells (Qn 2 ⟨#[115,117,112]⟩ (.slice none 0 0)) 26)) from (Qb).alloc (by simp) _)
  simp only [Bd.v,Bd.vals] at x0 x1 x2 ⊢
  clear hb hn e1 hz hx
  go_enter Tryz.func37,Tryz.ntmps37
  go_wp2
  obtain ⟨r0,r1,r2,r3,r4,r5⟩:=HX.out.cells (nb:=⟨#[115,117,112]⟩) (mb:=⟨#[]⟩) rfl rfl
  exact bodyPost_ret (v:=.agg (Qn 2 ⟨#[115,117,112]⟩ (.slice none 0 0))) (by simp [results,Tryz.results37,go_sem,r0,r1,r2,r3,r4,r5]) rfl ⟨rfl,HB.out⟩
end
end Go.Proofs.YtpikjceodmepiaaGreatDoor
namespace Ht
namespace Tm
end Tm
section
end
end Ht
namespace Go.Proofs.YtpikjceodmepiaaGreatDoor
section
open Go.RowKit Hb Ht
theorem below_drew' (w:World):Below w.heap.size w w.drew:=⟨rfl,rfl,rfl,Nat.le_refl _,fun _ _=>rfl⟩
def SameOk (t:Tm):Prop:=∀ (w:World) (sa sb:Value),TAt w w.heap.size t sa→TAt w w.heap.size t sb→Calls Tryz.prog 9 #[valT t sa,valT t sb] w fun e w'=>e = .returned (.bool true)∧Below w.heap.size w w'
theorem Same_any (t:Tm):SameOk t:=by
 refine Tm.ind (p:=SameOk) (fun k nl ml b v ts ih=>?_) t
 intro w sa sb ha hb
 obtain ⟨A,c,rfl,hl1,hl2,hl3⟩:=ha.slice
 obtain ⟨A2,c2,rfl,hm1,hm2,hm3⟩:=hb.slice
 obtain ⟨nb,hnb⟩:∃ nb:ByteArray,(⟨nl.toArray⟩:ByteArray)=nb:=⟨_,rfl⟩
 obtain ⟨mb,hmb⟩:∃ mb:ByteArray,(⟨ml.toArray⟩:ByteArray)=mb:=⟨_,rfl⟩
 obtain ⟨L,hL⟩:∃ L,ts.length=L:=⟨_,rfl⟩
 change ts.length≤c at hl1
 change ts.length≤c2 at hm1
 change ts.length≤maxArgs at hl3
 change TAt w w.heap.size (.mk k nl ml b v ts) (.slice A ts.length c) at ha
 change TAt w w.heap.size (.mk k nl ml b v ts) (.slice A2 ts.length c2) at hb
 change Calls Tryz.prog 9 #[valT _ (.slice A ts.length c),valT _ (.slice A2 ts.length c2)] w _
 rw [valT_mk hnb hmb,valT_mk hnb hmb]
 rw [hL] at ha hb hl1 hm1 hl3 ⊢
 have HIH:=Qh ih
 have HL:=Qh hL
 have HM:=Qh (Qa hnb hmb)
 have hLI:(L:Int)≤1759218604400:=by unfold maxArgs at hl3;omega
 obtain ⟨W0,hW0⟩:∃ W0,w.alloc (.cells (Q5 k nb mb b v (.slice A L c)) 26)=W0:=⟨_,rfl⟩
 have hX:=TBox.new (ts:=ts) w (k:=k) (b:=b) (v:=v) (sl:=.slice A L c) hnb hmb
 have hY:=TBox.new (ts:=ts) W0 (k:=k) (b:=b) (v:=v) (sl:=.slice A2 L c2) hnb hmb
 have hB0:Below w.heap.size w W0:=by rw [←hW0];exact Qb
 have hs0:W0.heap.size=w.heap.size+1:=by rw [←hW0];simp
 rw [hW0] at hX
 have hX1:=hX.below (w':=W0.alloc (.cells (Q5 k nb mb b v (.slice A2 L c2)) 26)) (Qb)
 have hB1:Below w.heap.size w (W0.alloc (.cells (Q5 k nb mb b v (.slice A2 L c2)) 26)):=hB0.alloc hB0.size _
 rw [hs0] at hY
 have HA:=Qh (ha.to hB1 hB1.size)
 have HBb:=Qh (hb.to hB1 hB1.size)
 have HB1:=Qh hB1
 have HX:=Qh (Qa hX1 hY)
 subst hW0
 clear ih ha hb hnb hmb hX hX1 hY hB0 hB1 hs0 hL
 obtain ⟨x0,x1,x2,x3,x4,x5⟩:=HX.out.1.cells HM.out.1 HM.out.2
 obtain ⟨y0,y1,y2,y3,y4,y5⟩:=HX.out.2.cells HM.out.1 HM.out.2
 go_enter Tryz.func9,Tryz.ntmps9
 go_upto_region 4 with fail
 obtain ⟨W1,hW1⟩:∃ W1,(w.alloc (.cells (Q5 k nb mb b v (.slice A L c)) 26)).alloc (.cells (Q5 k nb mb b v (.slice A2 L c2)) 26)=W1:=⟨_,rfl⟩
 rw [hW1] at HA HBb HB1 HX ⊢
 clear hW1 x0 x1 x2 x3 x4 x5 y0 y1 y2 y3 y4 y5
 go_loopw [5] (fun v5 wr=>∃ i:Nat,v5 = .int .i64 (i:Int)∧i≤L∧Hid (Below W1.heap.size W1 wr)) (fun v5 _=>((L:Int) - intOf v5).toNat)
 case atStart=>exact ⟨0,rfl,Nat.zero_le _,Qh (Below.refl _ _)⟩
 case round=>
  obtain ⟨i,rfl,hi,HI⟩:=hrel
  obtain ⟨x0,x1,x2,x3,x4,x5⟩:=(HX.out.1.below HI.out).cells HM.out.1 HM.out.2
  obtain ⟨y0,y1,y2,y3,y4,y5⟩:=(HX.out.2.below HI.out).cells HM.out.1 HM.out.2
  by_cases hlt:i<L
  ·have hltI:(i:Int)<(L:Int):=by omega
   have hi0:(0:Int)≤(i:Int):=by omega
   have hil:i<ts.length:=by rw [HL.out];exact hlt
   obtain ⟨a,ha⟩:∃ a,ts[i]?=some a:=⟨_,List.getElem?_eq_getElem hil⟩
   obtain ⟨g,o,rfl,hgB,helt⟩:=(HA.out.to HI.out HI.out.size).arg ha
   obtain ⟨A',c',k',n',m',b',v',ts',nb',mb',rfl,hnb',hmb',hta,e0,e1,e2,e3,e4,e5⟩:=EltAt.cells helt
   obtain ⟨g2,o2,rfl,hgB2,helt2⟩:=(HBb.out.to HI.out HI.out.size).arg ha
   obtain ⟨A3,c3,k3,n3,m3,b3,v3,ts3,nb3,mb3,heq,hnb3,hmb3,htb,f0,f1,f2,f3,f4,f5⟩:=EltAt.cells helt2
   cases heq
   rw [hnb'] at hnb3
   rw [hmb'] at hmb3
   subst hnb3 hmb3
   have HCl:=Qh (HIH.out _ (List.mem_of_getElem? ha) wr.drew _ _ (hta.to (below_drew' wr) (Nat.le_refl _)) (htb.to (below_drew' wr) (Nat.le_refl _)))
   rw [valT_mk hnb' hmb',valT_mk hnb' hmb'] at HCl
   have HLT:=Qh hlt
   clear helt helt2 hta htb hnb' hmb' ha hil hlt hi
   go_upto_region 6 with fail
   go_still_tail 10,(by kernel_rfl)
   change wpList _ _ _ _ _ wr.drew
   go_wp2_with (go_at_call 9;(with_reducible refine HCl.out.mono ?_);rintro e w' ⟨rfl,hb3⟩;have HB3:=Qh ((HI.out.trans ((below_drew' wr).mono HI.out.size)).trans (hb3.mono HI.out.size));clear hb3)
   go_roundw
   case rel=>exact ⟨i+1,rfl,HLT.out,HB3⟩
   case measure=>
    have:=HLT.out
    show ((L:Int) - ((i:Int)+1)).toNat<((L:Int) - (i:Int)).toNat
    omega
  ·have ei:i=L:=by omega
   subst ei
   have HE:=Qh HI.out
   clear hlt hi
   go_wp2
   go_ret
   exact ⟨rfl,Qt HB1.out HE.out⟩
end
end Go.Proofs.YtpikjceodmepiaaGreatDoor
namespace Ht
open Go Go.RowKit Hb
theorem fl6_length (ps:List (Tm × Value)):(fl6 ps).length=ps.length * 6:=by
 induction ps with
 | nil=>rfl
 | cons p ps ih=>
  have e:fl6 (p :: ps)=cells6 p.1 p.2 ++ fl6 ps:=by simp [fl6]
  rw [e,List.length_append,ih,List.length_cons]
  show 6+_=_
  omega
theorem fl6_append (ps qs:List (Tm × Value)):fl6 (ps ++ qs)=fl6 ps ++ fl6 qs:=by simp [fl6]
theorem fl6_one (ps:List (Tm × Value)) (h:∀ p∈ps,p.2.oneCell'=true):∀ u∈fl6 ps,u.oneCell'=true:=by
 intro u hu
 obtain ⟨p,hp,hy⟩:=List.mem_flatMap.1 hu
 unfold cells6 at hy
 simp at hy
 rcases hy with rfl | rfl | rfl | rfl | rfl | rfl
 all_goals first | rfl | exact h p hp
end Ht
namespace Go.Proofs.YtpikjceodmepiaaGreatDoor
section
open Go.RowKit Hb Ht
theorem infoT:(Tryz.prog.info? 26).map (fun i=>(i.zero,i.size,i.bytes))=some (some (.agg Qz),6,80):=by kernel_rfl
structure TRow (w:World) (B:Nat) (P:Nat→Prop) (A:Option Addr) (n c:Nat) (ps:List (Tm × Value)):Prop where
 own:w.ownsRow B 26 6 (.slice A n c) n (Ht.fl6 ps)
 kid:∀ p∈ps,TAtP w (fun b=>P b∧(Value.slice A n c).ownBlock≠some b) p.1 p.2
section
variable {w w':World} {B:Nat} {P:Nat→Prop} {A:Option Addr} {n c:Nat} {ps:List (Tm × Value)}
theorem TRow.len (h:TRow w B P A n c ps):ps.length=n:=by have:=h.own.1;rw [Ht.fl6_length] at this;omega
theorem TRow.cap (h:TRow w B P A n c ps):n≤c∧c≤maxLen:=by
 rcases h.own.2 with ⟨h1,_⟩ | ⟨g,cap,cur,h1,h2,h3,h4,h5,_⟩
 ·injection h1 with a b c;subst b;subst c;exact ⟨Nat.le_refl _,by simp [maxLen]⟩
 ·injection h1 with a b c;subst c;exact ⟨h4,h5⟩
theorem TRow.block (h:TRow w B P A n c ps):(A=none∧n=0)∨∃ g,A=some ⟨g,0,none⟩∧B≤g∧g<w.heap.size∧(Value.slice A n c).ownBlock=some g:=by
 rcases h.own.2 with ⟨h1,_⟩ | ⟨g,cap,cur,h1,h2,h3,_⟩
 ·injection h1 with a b c;exact .inl ⟨a,b⟩
 ·injection h1 with a b c
  subst a
  exact .inr ⟨g,rfl,h2,(Array.getElem?_eq_some_iff.1 h3).1,rfl⟩
theorem TRow.wide {Q:Nat→Prop} (h:TRow w B P A n c ps) (hP:∀ b,P b→Q b):TRow w B Q A n c ps:=
 ⟨h.own,fun p hp=>TAtP.keep _ (h.kid p hp) (fun b hb2=>⟨⟨hP b hb2.1,hb2.2⟩,rfl⟩)⟩
theorem TRow.keepP (h:TRow w B P A n c ps) (hb:∀ b,B≤b→b<w.heap.size→w'.heap[b]?=w.heap[b]?) (hP:∀ b,P b→w'.heap[b]?=w.heap[b]?):TRow w' B P A n c ps:=by
 refine ⟨⟨h.own.1,?_⟩,fun p hp=>TAtP.keep _ (h.kid p hp) (fun b hb2=>⟨hb2,hP b hb2.1⟩)⟩
 rcases h.own.2 with h1 | ⟨g,cap,cur,h1,h2,h3,h4⟩
 ·exact .inl h1
 ·exact .inr ⟨g,cap,cur,h1,h2,(hb g h2 (Array.getElem?_eq_some_iff.1 h3).1).trans h3,h4⟩
theorem TRow.termP (h:TRow w B P A n c ps) (hP:∀ b,B≤b→b<w.heap.size→P b) {t:Tm} (ht:t.as=ps.map (·.1)) (hn:n≤maxArgs) (ho:okF t):TAtP w P t (.slice A n c):=by
 have hl:=h.len
 have hl2:t.as.length=n:=by rw [ht,List.length_map,hl]
 rw [TAtP.iff,hl2]
 refine ⟨A,c,rfl,h.cap.1,h.cap.2,hn,ho,fun hne=>?_⟩
 have hn0:0<n:=by rw [←hl2];exact List.length_pos_iff.2 hne
 rcases h.block with ⟨_,h0⟩ | ⟨g,rfl,hB,hg,_⟩
 ·omega
 ·refine ⟨g,0,rfl,hP g hB hg,fun i a ha=>?_⟩
  rw [ht,List.getElem?_map] at ha
  cases hp:ps[i]? with
  | none=>rw [hp] at ha;cases ha
  | some p=>
   rw [hp] at ha
   cases ha
   refine ⟨p.2,fun j hj=>?_,TAtP.keep _ (h.kid p (List.mem_of_getElem? hp)) (fun b hb=>⟨hb.1,rfl⟩)⟩
   have hc:=Ht.fl6_get hp hj
   have hlt:j<(Ht.cells6 p.1 p.2).length:=hj
   rw [List.getElem?_eq_getElem hlt] at hc ⊢
   have h9:=World.ownsRow.cells h.own (g:=g) rfl _ _ hc
   rw [add_zero'] at h9
   rw [Nat.zero_add]
   exact h9
end
theorem run_append_T {w:World} {B:Nat} {P:Nat→Prop} {A:Option Addr} {n c:Nat} {ps qs:List (Tm × Value)} (h:TRow w B P A n c ps) (hP:∀ b,P b→b<w.heap.size) {ad:Addr} {m:Nat} (hq:qs.length=m)
  (hk:∀ q∈qs,TAtP w (fun b=>P b∧(Value.slice A n c).ownBlock≠some b) q.1 q.2) (hnews:∀ j u,(Ht.fl6 qs)[j]?=some u→w.cell? (ad.add j)=some u) (hm:n+m≤maxArgs) (hb:B≤w.heap.size)
  {v':Value} {w':World} (ho:w'.ownsRow B 26 6 v' (n+m) (Ht.fl6 ps ++ Ht.fl6 qs)) (hg:w.grownBy w' (Value.slice A n c).ownBlock) (hv:v'.ownBlock=(Value.slice A n c).ownBlock∨v'.ownBlock=some w.heap.size) :
  ∃ A' c',v' = .slice A' (n+m) c'∧TRow w' B P A' (n+m) c' (ps ++ qs)∧Below B w w':=by
 have hf:∃ A' c',v' = .slice A' (n+m) c':=by
  rcases ho.2 with ⟨h1,h2⟩ | ⟨g',cap,cur,h1,_⟩
  ·exact ⟨none,0,by rw [h1,h2]⟩
  ·exact ⟨_,cap,h1⟩
 obtain ⟨A',c',rfl⟩:=hf
 refine ⟨A',c',rfl,⟨by rw [Ht.fl6_append];exact ho,fun p hp=>?_⟩,⟨hg.os,hg.tape,hg.output,hg.size,fun j hj=>hg.block j (Ql hj hb) (fun e2=>?_)⟩⟩
 ·have hkid:TAtP w (fun b=>P b∧(Value.slice A n c).ownBlock≠some b) p.1 p.2:=by
   rcases List.mem_append.1 hp with hp | hp
   ·exact h.kid p hp
   ·exact hk p hp
  refine TAtP.keep _ hkid (fun b hb2=>⟨⟨hb2.1,?_⟩,hg.block b (hP b hb2.1) (fun e=>hb2.2 e.symm)⟩)
  rcases hv with hv | hv
  ·rw [hv];exact hb2.2
  ·rw [hv];intro e;have:=hP b hb2.1;injection e with e;omega
 ·rcases h.block with ⟨h1,_⟩ | ⟨g,h1,h2,h3,h4⟩
  ·subst h1;simp [Value.ownBlock] at e2
  ·rw [h4] at e2;injection e2 with e2;omega
theorem wpList_append_T {ops:Array Oper} {rest:List Oper} {o:Oper} {a:Act} {Q:Exit→Act→World→Prop} {w:World} (hgd:o.guard=none) (s x:Operand)
  (ho:o.op = .call { callee:=.builtin .append,args:=#[s,x],argTypes:=#[24,24] })
  {B:Nat} {P:Nat→Prop} {A:Option Addr} {n c:Nat} {ps:List (Tm × Value)} (qs:List (Tm × Value)) (hs:a.eval s = .slice A n c) (h:TRow w B P A n c ps) (hP:∀ b,P b→b<w.heap.size)
  (ad:Addr) (m c2:Nat) (hx:a.eval x = .slice (some ad) m c2) (hq:qs.length=m) (hk:∀ q∈qs,TAtP w (fun b=>P b∧(Value.slice A n c).ownBlock≠some b) q.1 q.2) (hnews:∀ j u,(Ht.fl6 qs)[j]?=some u→w.cell? (ad.add j)=some u)
  (hm:n+m≤maxArgs) (hb:B≤w.heap.size)
  (hh:∀ A' c' w',TRow w' B P A' (n+m) c' (ps ++ qs)→Below B w w'→w.grownBy w' (Value.slice A n c).ownBlock→wpList Tryz.prog ops Q rest (a.put o.dst (.slice A' (n+m) c')) w') :
  wpList Tryz.prog ops Q (o :: rest) a w:=by
 obtain ⟨i0,hi,hz0,hz1,hz2⟩:=info_parts infoT
 have hml:n+m≤maxLen:=by unfold maxLen;unfold maxArgs at hm;omega
 have hmb:(n+m) * 80≤140737488355328:=by unfold maxArgs at hm;omega
 refine wpList_append_own_at _ hgd s x 24 ho B 26 i0 (.agg Qz) 6 80 Tryz.underlying24 hi hz0 hz1 hz2 rfl (by decide) _ n (Ht.fl6 ps) hs h.own ad m c2 (Ht.fl6 qs) hx (by rw [Ht.fl6_length,hq]) hnews (Ht.fl6_one qs (fun q hq2=>TAtP.one (hk q hq2))) hml hmb hb ?_
 intro v' w' ho' hg _ hv
 obtain ⟨A',c',rfl,hr,hbw⟩:=run_append_T h hP hq hk hnews hm hb ho' hg hv
 exact hh A' c' w' hr hbw hg
end
section
open Go.RowKit Hb Ht
attribute [local go_sem] Oper.semAt_some
theorem A_any (nb:ByteArray) (w:World):Calls Tryz.prog 15 #[.string nb] w fun e w'=>e = .returned (.agg (Qn 2 nb (.slice none 0 0)))∧Below w.heap.size w w':=by
 go_enter Tryz.func15,Tryz.ntmps15
 go_wp2
 refine bodyPost_ret (v:=.agg (Qn 2 nb (.slice none 0 0))) (by simp [results,Tryz.results15,go_sem]) rfl ⟨rfl,?_⟩
 exact Qb
theorem owns_emptyT (w:World) (B:Nat) (hB:B≤w.heap.size):(w.alloc (.cells #[] 26)).ownsRow B 26 6 (.slice (some ⟨w.heap.size,0,none⟩) 0 0) 0 (Ht.fl6 []):=
 ⟨rfl,.inr ⟨w.heap.size,0,#[],rfl,hB,heap_alloc_new w _,Nat.le_refl _,Nat.zero_le _,rfl,rfl⟩⟩
theorem F_any {w:World} {P:Nat→Prop} {A:Option Addr} {n c:Nat} {ps:List (Tm × Value)} (h:RowP w P A n ps) (hP:∀ b,P b→b<w.heap.size) (hn0:0<n) (hn:n≤maxArgs) (nb:ByteArray) :
  Calls Tryz.prog 47 #[.string nb,.slice A n c] w fun e w'=>∃ A' c',e = .returned (.agg (Qn 5 nb (.slice A' n c')))∧TRow w' (w.heap.size+1) P A' n c' ps∧Below w.heap.size w w':=by
 obtain ⟨g,o,rfl,hg,hc⟩:=h.2.2 hn0
 obtain ⟨W1,hW1⟩:∃ W1,w.alloc (.cells Qz 26)=W1:=⟨_,rfl⟩
 have hb1:Below w.heap.size w W1:=by rw [←hW1];exact Qb
 have s1:W1.heap.size=w.heap.size+1:=by rw [←hW1];simp
 have hX:TBox W1 w.heap.size zeroT (.slice none 0 0):=by rw [←hW1];exact heap_alloc_new w _
 have hb2:Below W1.heap.size W1 (W1.alloc (.cells #[] 26)):=Qb
 have hb12:=Qt hb1 hb2
 have hrow:TRow (W1.alloc (.cells #[] 26)) W1.heap.size P (some ⟨W1.heap.size,0,none⟩) 0 0 []:=⟨owns_emptyT W1 _ (Nat.le_refl _),fun p hp=>by cases hp⟩
 have hk:∀ q∈ps,TAtP (W1.alloc (.cells #[] 26)) (fun b=>P b∧(Value.slice (some ⟨W1.heap.size,0,none⟩) 0 0).ownBlock≠some b) q.1 q.2:=fun q hq=>TAtP.keep _ (h.2.1 q hq) (fun b hb=>⟨⟨hb,fun e=>by
  have:=hP b hb
  have e2:(Value.slice (some ⟨W1.heap.size,0,none⟩) 0 0).ownBlock=some W1.heap.size:=rfl
  rw [e2] at e;injection e with e;omega⟩,hb12.block b (hP b hb)⟩)
 rw [s1] at hrow hk
 have HR:=Qh (Qa hrow (Qa hk hb12))
 have HNw:=Qh (show ∀ j u,(Ht.fl6 ps)[j]?=some u→(W1.alloc (.cells #[] 26)).cell? ((⟨g,o,none⟩:Addr).add j)=some u from fun j u hj=>by
  rw [addr_add]
  exact (hb12.cell (p:=⟨g,o+j,none⟩) hg).trans (hc j u hj))
 have HX:=Qh (hX.below hb2)
 have HL:=Qh h.1
 have HS:=Qh s1
 have hnI:(n:Int)≤1759218604400:=by unfold maxArgs at hn;omega
 have HMx:=Qh hn
 subst hW1
 clear h hc hb1 hb2 hb12 hrow hk hX s1 hn
 go_enter Tryz.func47,Tryz.ntmps47
 go_wp2_with (at_builtin;refine wpList_append_T rfl _ _ rfl ps rfl HR.out.1 (fun b hb=>Ql (hP b hb) HR.out.2.2.size) ⟨g,o,none⟩ n c rfl HL.out HR.out.2.1 HNw.out (by have:=HMx.out;omega) (by simp) ?_;rw [Nat.zero_add,List.nil_append];intro A3 c3 w3 ho3 hb3 hg3;have HX3:=Qh (show TBox w3 w.heap.size zeroT (.slice none 0 0) from (hb3.block _ (by omega)).trans HX.out);obtain ⟨u0,u1,u2,u3,u4,u5⟩:=HX3.out.cells rfl rfl;obtain ⟨v0,v1,v2,v3,v4,v5⟩:=HX3.out.frozens;have HO3:=Qh (Qa ho3 hb3);clear ho3 hb3 hg3)
 obtain ⟨hbx,hgr⟩:=HX3.out.set6 (k:=5) (b:=0) (v:=0) (n:=nb.data.toList) (m:=[]) (nb:=nb) (mb:=⟨#[]⟩) (ps.map (·.1)) (.slice A3 n c3) (by simp) rfl
 generalize (((((w3.setCell ⟨w.heap.size,0,none⟩ (.int .i64 5)).setCell ⟨w.heap.size,1,none⟩ (.string nb)).setCell ⟨w.heap.size,2,none⟩ (.string ⟨#[]⟩)).setCell ⟨w.heap.size,3,none⟩ (.int .u64 0)).setCell ⟨w.heap.size,4,none⟩ (.int .i64 0)).setCell ⟨w.heap.size,5,none⟩ (.slice A3 n c3)=w6 at *
 obtain ⟨r0,r1,r2,r3,r4,r5⟩:=hbx.cells (nb:=nb) (mb:=⟨#[]⟩) (by simp) rfl
 have hb12:=HR.out.2.2
 have hb3:=HO3.out.2
 have hwz:w.heap.size<w3.heap.size:=HX3.out.lt
 refine bodyPost_ret (v:=.agg (Qn 5 nb (.slice A3 n c3))) (by simp [results,Tryz.results47,go_sem,r0,r1,r2,r3,r4,r5]) rfl ⟨A3,c3,rfl,?_,?_⟩
 ·exact HO3.out.1.keepP (w':=w6) (fun b h1 h2=>hgr.block b h2 (fun e=>by injection e with e;omega)) (fun b hb=>by
   have:=hP b hb
   exact hgr.block b (by omega) (fun e=>by injection e with e;omega))
 ·exact ((hb12.trans (hb3.mono (by omega)))).grown hgr (Nat.le_of_lt hwz) (Qg (by omega))
theorem F2_any {w:World} {P:Nat→Prop} {ta tb:Tm} {sa sb:Value} (ha:TAtP w P ta sa) (hb:TAtP w P tb sb) (hP:∀ b,P b→b<w.heap.size) (nb:ByteArray) (hnb:nb.size≤maxLen) :
  Calls Tryz.prog 14 #[.string nb,valT ta sa,valT tb sb] w fun e w'=>∃ A c,e = .returned (.agg (Qn 5 nb (.slice A 2 c)))∧TAtP w' (Grow P w w') (cmpT nb.data.toList [ta,tb]) (.slice A 2 c)∧Below w.heap.size w w':=by
 obtain ⟨k1,nl1,ml1,b1,v1,ts1,nb1,mb1,A1,c1,rfl,rfl,hnb1,hmb1,hl1,hl2,hl3,hv1,_,_⟩:=ha.letters
 obtain ⟨k2,nl2,ml2,b2,v2,ts2,nb2,mb2,A2,c2,rfl,rfl,hnb2,hmb2,hm1,hm2,hm3,hv2,_,_⟩:=hb.letters
 rw [hv1,hv2]
 obtain ⟨q1,hq1⟩:∃ q,ts1.length=q:=⟨_,rfl⟩
 obtain ⟨q2,hq2⟩:∃ q,ts2.length=q:=⟨_,rfl⟩
 rw [hq1] at ha ⊢
 rw [hq2] at hb ⊢
 obtain ⟨W1,hW1⟩:∃ W1,w.alloc (.cells (Q5 k1 nb1 mb1 b1 v1 (.slice A1 q1 c1)) 26)=W1:=⟨_,rfl⟩
 obtain ⟨W2,hW2⟩:∃ W2,W1.alloc (.cells (Q5 k2 nb2 mb2 b2 v2 (.slice A2 q2 c2)) 26)=W2:=⟨_,rfl⟩
 obtain ⟨W3,hW3⟩:∃ W3,W2.alloc (.cells Qz 26)=W3:=⟨_,rfl⟩
 obtain ⟨W4,hW4⟩:∃ W4,W3.alloc (.cells #[.int .i64 k1,.string nb1,.string mb1,.int .u64 b1,.int .i64 v1,.slice A1 q1 c1,.int .i64 k2,.string nb2,.string mb2,.int .u64 b2,.int .i64 v2,.slice A2 q2 c2] 26)=W4:=⟨_,rfl⟩
 have h1:Below w.heap.size w W1:=by rw [←hW1];exact Qb
 have s1:W1.heap.size=w.heap.size+1:=by rw [←hW1];simp
 have h2:Below W1.heap.size W1 W2:=by rw [←hW2];exact Qb
 have s2:W2.heap.size=W1.heap.size+1:=by rw [←hW2];simp
 have h3:Below W2.heap.size W2 W3:=by rw [←hW3];exact Qb
 have s3:W3.heap.size=W2.heap.size+1:=by rw [←hW3];simp
 have h4:Below W3.heap.size W3 W4:=by rw [←hW4];exact Qb
 have hX1:TBox W1 w.heap.size (.mk k1 nl1 ml1 b1 v1 ts1) (.slice A1 q1 c1):=by rw [←hW1];exact TBox.new w hnb1 hmb1
 have hX2:TBox W2 W1.heap.size (.mk k2 nl2 ml2 b2 v2 ts2) (.slice A2 q2 c2):=by rw [←hW2];exact TBox.new W1 hnb2 hmb2
 have hX3:TBox W3 W2.heap.size zeroT (.slice none 0 0):=by rw [←hW3];exact heap_alloc_new W2 _
 have hX1':=(hX1.below h2).below h3
 have hX2':=hX2.below h3
 have hb12:=h1.trans ((h2.trans ((h3.trans (h4.mono (by omega))).mono (by omega))).mono (by omega))
 have hrow:RowP W4 P (some ⟨W3.heap.size,0,none⟩) 2 [((.mk k1 nl1 ml1 b1 v1 ts1:Tm),Value.slice A1 q1 c1),((.mk k2 nl2 ml2 b2 v2 ts2:Tm),Value.slice A2 q2 c2)]:=by
  refine RowP.block (ps:=[((.mk k1 nl1 ml1 b1 v1 ts1:Tm),Value.slice A1 q1 c1),((.mk k2 nl2 ml2 b2 v2 ts2:Tm),Value.slice A2 q2 c2)]) ?_ (fun p hp=>?_)
  ·rw [←hW4,←hnb1,←hmb1,←hnb2,←hmb2]
   exact heap_alloc_new W3 _
  ·simp only [List.mem_cons,List.not_mem_nil,or_false] at hp
   rcases hp with rfl | rfl
   ·exact ha.below hb12 hP
   ·exact hb.below hb12 hP
 have HF:=Qh (F_any hrow (fun b hb=>Ql (hP b hb) hb12.size) (by omega) (by unfold maxArgs;omega) (c:=2) nb)
 have HX3:=Qh (Qa (hX3.below h4) hb12)
 rw [s3,s2,s1] at HF
 rw [s2,s1] at HX3
 rw [s1] at hX2'
 obtain ⟨x0,x1,x2,x3,x4,x5⟩:=hX1'.cells hnb1 hmb1
 obtain ⟨y0,y1,y2,y3,y4,y5⟩:=hX2'.cells hnb2 hmb2
 have HS:=Qh (show w.heap.size+1+1<W4.heap.size by have:=h4.size;omega)
 subst hW1 hW2 hW3 hW4
 clear ha hb h1 h2 h3 h4 s1 s2 s3 hX1 hX2 hX3 hX1' hX2' hb12 hrow hnb1 hmb1 hnb2 hmb2 hq1 hq2 hv1 hv2
 go_enter Tryz.func14,Tryz.ntmps14
 go_wp2_with (go_at_call 47;(with_reducible refine HF.out.mono ?_);rintro e w5 ⟨A5,c5,rfl,hr5,hb5⟩;have HX5:=Qh (HX3.out.1.below hb5);obtain ⟨u0,u1,u2,u3,u4,u5⟩:=HX5.out.cells rfl rfl;obtain ⟨z0,z1,z2,z3,z4,z5⟩:=HX5.out.frozens;have HR5:=Qh (Qa hr5 (HX3.out.2.trans (hb5.mono HX3.out.2.size)));have HW45:=Qh hb5.size;clear hr5 hb5)
 obtain ⟨hbx,hgr⟩:=HX5.out.set6 (k:=5) (b:=0) (v:=0) (n:=nb.data.toList) (m:=[]) (nb:=nb) (mb:=⟨#[]⟩) [] (.slice A5 2 c5) (by simp) rfl
 generalize (((((w5.setCell ⟨w.heap.size+1+1,0,none⟩ (.int .i64 5)).setCell ⟨w.heap.size+1+1,1,none⟩ (.string nb)).setCell ⟨w.heap.size+1+1,2,none⟩ (.string ⟨#[]⟩)).setCell ⟨w.heap.size+1+1,3,none⟩ (.int .u64 0)).setCell ⟨w.heap.size+1+1,4,none⟩ (.int .i64 0)).setCell ⟨w.heap.size+1+1,5,none⟩ (.slice A5 2 c5)=w6 at *
 obtain ⟨r0,r1,r2,r3,r4,r5⟩:=hbx.cells (nb:=nb) (mb:=⟨#[]⟩) (by simp) rfl
 have hS:=HS.out
 have hR:=HR5.out
 refine bodyPost_ret (v:=.agg (Qn 5 nb (.slice A5 2 c5))) (by simp [results,Tryz.results14,go_sem,r0,r1,r2,r3,r4,r5]) rfl ⟨A5,c5,rfl,?_,hR.2.grown hgr hR.2.size (Qg (by omega))⟩
 have hw45:=HW45.out
 have h9:=(hR.1.keepP (w':=w6) (fun b h1 h2=>hgr.block b h2 (fun e=>by injection e with e;omega)) (fun b hb=>by
  have:=hP b hb
  exact hgr.block b (by omega) (fun e=>by injection e with e;omega))).wide (Q:=Grow P w w6) (fun b hb=>.inl hb)
 exact h9.termP (t:=cmpT nb.data.toList [.mk k1 nl1 ml1 b1 v1 ts1,.mk k2 nl2 ml2 b2 v2 ts2]) (fun b h1 h2=>.inr ⟨by omega,h2⟩) rfl (by unfold maxArgs;omega) (okF_cmp (by simpa using hnb))
end
end Go.Proofs.YtpikjceodmepiaaGreatDoor
namespace Ht
namespace Tm
end Tm
section
end
end Ht
namespace Hb
open Go Go.Lib
def accU (l:List UInt8) (v0 k:Nat):Nat:=(List.range k).foldl (fun a j=>a * 64+((l.getD (j+1) 0).toNat - 128)) v0
theorem accU_zero (l:List UInt8) (v0:Nat):accU l v0 0=v0:=rfl
theorem accU_succ (l:List UInt8) (v0 k:Nat):accU l v0 (k+1)=accU l v0 k * 64+((l.getD (k+1) 0).toNat - 128):=by
 unfold accU
 rw [List.range_succ,List.foldl_append]
 rfl
def contU (l:List UInt8) (j:Nat):Prop:=j<l.length∧128≤(l.getD j 0).toNat∧(l.getD j 0).toNat<192
def contsU (l:List UInt8) (k:Nat):Prop:=∀ j,1≤j→j≤k→contU l j
def ClsU (b n least v0:Nat):Prop:=(192≤b∧b<224∧n=1∧least=128∧v0=b - 192)∨(224≤b∧b<240∧n=2∧least=2048∧v0=b - 224)∨(240≤b∧b<248∧n=3∧least=65536∧v0=b - 240)
theorem accU_lt {l:List UInt8} {v0:Nat} (h0:v0<32):∀ k,contsU l k→accU l v0 k<32 * 64 ^ k
 | 0,_=>by rw [accU_zero];omega
 | k+1,h=>by
  have h1:=accU_lt h0 k (fun j hj hk=>h j hj (by omega))
  have h2:=(h (k+1) (by omega) (Nat.le_refl _)).2.2
  have h3:(64:Nat) ^ (k+1)=64 ^ k * 64:=Nat.pow_succ ..
  rw [accU_succ,h3]
  omega
theorem valid_none {l:List UInt8} (hne:l ≠ []) (h:decodeN l.length (l.getD 0 0).toNat (l.getD 1 0).toNat (l.getD 2 0).toNat (l.getD 3 0).toNat=(65533,1)):validD l=false:=by
 rw [validD_step l hne,decodeL_N,h]
 simp
theorem valid_some {l:List UInt8} (hne:l ≠ []) {k:Nat} (hk:2≤k) (h:(decodeN l.length (l.getD 0 0).toNat (l.getD 1 0).toNat (l.getD 2 0).toNat (l.getD 3 0).toNat).2=k):validD l=validD (l.drop k):=by
 rw [validD_step l hne,decodeL_N,h,if_neg (by omega)]
theorem cls_none {l:List UInt8} (hne:l ≠ []) (h:(128≤(l.getD 0 0).toNat∧(l.getD 0 0).toNat<192)∨248≤(l.getD 0 0).toNat):validD l=false:=by
 refine valid_none hne (decodeN_bad _ _ _ _ _ ?_)
 have:=(l.getD 0 0).toNat_lt
 omega
theorem cls_bad {l:List UInt8} (hne:l ≠ []) {b n least v0 k:Nat} (hb:(l.getD 0 0).toNat=b) (hc:ClsU b n least v0) (hk:1≤k∧k≤n) (hn:¬contU l k):validD l=false:=by
 refine valid_none hne ?_
 rw [hb]
 have h1:=(l.getD 1 0).toNat_lt
 have h2:=(l.getD 2 0).toNat_lt
 have h3:=(l.getD 3 0).toNat_lt
 unfold contU at hn
 have hk3:k=1∨k=2∨k=3:=by unfold ClsU at hc;omega
 generalize l.length=N at *
 rcases hk3 with rfl | rfl | rfl
 all_goals
  generalize (l.getD 1 0).toNat=c1 at *
  generalize (l.getD 2 0).toNat=c2 at *
  generalize (l.getD 3 0).toNat=c3 at *
  unfold ClsU at hc
  unfold decodeN
  rcases hc with ⟨a1,a2,a3,a4,a5⟩ | ⟨a1,a2,a3,a4,a5⟩ | ⟨a1,a2,a3,a4,a5⟩
  all_goals
   repeat' split
   all_goals first | rfl | (exfalso;omega)
theorem cls_end {l:List UInt8} (hne:l ≠ []) {b n least v0 V:Nat} (hb:(l.getD 0 0).toNat=b) (hc:ClsU b n least v0) (hn:contsU l n) (hV:accU l v0 n=V) :
  ((V<least∨1114111<V∨(55296≤V∧V<57344))→validD l=false)∧(¬(V<least∨1114111<V∨(55296≤V∧V<57344))→validD l=validD (l.drop (n+1))):=by
 rcases hc with ⟨a1,a2,rfl,rfl,rfl⟩ | ⟨a1,a2,rfl,rfl,rfl⟩ | ⟨a1,a2,rfl,rfl,rfl⟩
 ·subst hV
  have g1:=hn 1 (by omega) (by omega)
  unfold contU at g1
  obtain ⟨V,hV⟩:∃ V,accU l (b - 192) 1=V:=⟨_,rfl⟩
  rw [hV]
  simp only [accU_succ,accU_zero,Nat.zero_add,Nat.reduceAdd] at hV
  constructor
  ·intro h
   refine valid_none hne ?_
   rw [hb]
   generalize (l.getD 1 0).toNat=c1 at *
   generalize (l.getD 2 0).toNat=c2 at *
   generalize (l.getD 3 0).toNat=c3 at *
   unfold decodeN
   repeat' split
   all_goals first | rfl | (exfalso;omega)
  ·intro h
   refine valid_some hne (by omega) ?_
   rw [hb]
   generalize (l.getD 1 0).toNat=c1 at *
   generalize (l.getD 2 0).toNat=c2 at *
   generalize (l.getD 3 0).toNat=c3 at *
   unfold decodeN
   repeat' split
   all_goals first | rfl | (exfalso;omega)
 ·subst hV
  have g1:=hn 1 (by omega) (by omega)
  have g2:=hn 2 (by omega) (by omega)
  unfold contU at g1 g2
  obtain ⟨V,hV⟩:∃ V,accU l (b - 224) 2=V:=⟨_,rfl⟩
  rw [hV]
  simp only [accU_succ,accU_zero,Nat.zero_add,Nat.reduceAdd] at hV
  constructor
  ·intro h
   refine valid_none hne ?_
   rw [hb]
   generalize (l.getD 1 0).toNat=c1 at *
   generalize (l.getD 2 0).toNat=c2 at *
   generalize (l.getD 3 0).toNat=c3 at *
   unfold decodeN
   repeat' split
   all_goals first | rfl | (exfalso;omega)
  ·intro h
   refine valid_some hne (by omega) ?_
   rw [hb]
   generalize (l.getD 1 0).toNat=c1 at *
   generalize (l.getD 2 0).toNat=c2 at *
   generalize (l.getD 3 0).toNat=c3 at *
   unfold decodeN
   repeat' split
   all_goals first | rfl | (exfalso;omega)
 ·subst hV
  have g1:=hn 1 (by omega) (by omega)
  have g2:=hn 2 (by omega) (by omega)
  have g3:=hn 3 (by omega) (by omega)
  unfold contU at g1 g2 g3
  obtain ⟨V,hV⟩:∃ V,accU l (b - 240) 3=V:=⟨_,rfl⟩
  rw [hV]
  simp only [accU_succ,accU_zero,Nat.zero_add,Nat.reduceAdd] at hV
  constructor
  ·intro h
   refine valid_none hne ?_
   rw [hb]
   generalize (l.getD 1 0).toNat=c1 at *
   generalize (l.getD 2 0).toNat=c2 at *
   generalize (l.getD 3 0).toNat=c3 at *
   unfold decodeN
   repeat' split
   all_goals first | rfl | (exfalso;omega)
  ·intro h
   refine valid_some hne (by omega) ?_
   rw [hb]
   generalize (l.getD 1 0).toNat=c1 at *
   generalize (l.getD 2 0).toNat=c2 at *
   generalize (l.getD 3 0).toNat=c3 at *
   unfold decodeN
   repeat' split
   all_goals first | rfl | (exfalso;omega)
theorem getD_drop_get (s:ByteArray) (i j:Nat) (h:i+j<s.size):(s.data.toList.drop i).getD j 0=s[i+j]:=by
 rw [getD_dropU,List.getD_eq_getElem?_getD,List.getElem?_eq_getElem (by simpa using h)]
 rfl
theorem drop_ascii (s:ByteArray) (i:Nat) (h:i<s.size) (h2:(s[i]).toNat<128):validD (s.data.toList.drop i)=validD (s.data.toList.drop (i+1)):=by
 rw [List.drop_eq_getElem_cons (by simpa using h)]
 exact validD_cons _ _ h2
end Hb
namespace Go.Proofs.YtpikjceodmepiaaGreatDoor
section
open Go.RowKit Hb Ht
attribute [local go_sem] Oper.semAt_some
theorem UTF_any (s:ByteArray) (w:World) (hs:s.size≤4611686018427387904):Calls Tryz.prog 111 #[.string s] w fun e w'=>e = .returned (.bool (Lib.validD s.data.toList))∧w=w':=by
 obtain ⟨ANS,hA⟩:∃ ANS,Lib.validD s.data.toList=ANS:=⟨_,rfl⟩
 rw [hA]
 obtain ⟨N,hN⟩:∃ N,s.size=N:=⟨_,rfl⟩
 rw [hN] at hs
 have HN:=Qh (Qa hN hA)
 have hNI:(N:Int)≤4611686018427387904:=by omega
 clear hA
 go_enter Tryz.func111,Tryz.ntmps111
 go_upto_region 2 with fail
 go_loopw [3] (fun v3 wr=>w=wr∧∃ i:Nat,v3 = .int .i64 (i:Int)∧i≤N∧Hid (Lib.validD (s.data.toList.drop i)=ANS)) (fun v3 _=>((N:Int) - intOf v3).toNat)
 case atStart=>exact ⟨rfl,0,rfl,Nat.zero_le _,Qh HN.out.2⟩
 case round=>
  obtain ⟨rfl,i,rfl,hi,HI⟩:=hrel
  by_cases hlt:i<N
  ·have hltI:(i:Int)<(N:Int):=by omega
   have hi0:(0:Int)≤(i:Int):=by omega
   go_upto_region 4 with fail
   have his:i<s.size:=by rw [HN.out.1];exact hlt
   have hne:s.data.toList.drop i ≠ []:=by
    intro e
    have h1:=congrArg List.length e
    simp only [List.length_drop,Array.length_toList,List.length_nil] at h1
    change s.size - i=0 at h1
    omega
   have hB0:((s.data.toList.drop i).getD 0 0).toNat=(s[i]'his).toNat:=by rw [getD_drop_get s i 0 his];rfl
   have hasc:=drop_ascii s i his
   generalize hB:(s[i]'his).toNat=B at *
   have HNE:=Qh hne
   have HB:=Qh hB0
   have HLT:=Qh hlt
   have hB256:B<256:=by rw [←hB];exact UInt8.toNat_lt _
   have HAs:=Qh hasc
   clear hne hB0 hB hasc hlt hi
   by_cases b1:B<128
   ·have b1I:(B:Int)<128:=by omega
    have HE:=Qh (HAs.out b1)
    clear b1 hB256 his
    go_wp2
    refine ⟨⟨trivial,i+1,rfl,HLT.out,Qh (by rw [←HI.out,HE.out])⟩,?_⟩
    have:=HLT.out
    show ((N:Int) - ((i:Int)+1)).toNat<((N:Int) - (i:Int)).toNat
    omega
   have b1I:¬(B:Int)<128:=by omega
   by_cases b2:B<192
   ·have b2I:¬(192:Int)≤(B:Int):=by omega
    have b3I:¬(224:Int)≤(B:Int):=by omega
    have b4I:¬(240:Int)≤(B:Int):=by omega
    have HE:=Qh (show false=ANS from by rw [←HI.out];exact (cls_none HNE.out (by rw [HB.out];omega)).symm)
    clear b1 b2 hB256 his
    go_wp2
    go_ret
    exact ⟨by rw [←HE.out];rfl,rfl⟩
   by_cases b5:248≤B
   ·have b2I:¬(B:Int)<224:=by omega
    have b3I:¬(B:Int)<240:=by omega
    have b4I:¬(B:Int)<248:=by omega
    have b5I:(192:Int)≤(B:Int):=by omega
    have b6I:(224:Int)≤(B:Int):=by omega
    have b7I:(240:Int)≤(B:Int):=by omega
    have HE:=Qh (show false=ANS from by rw [←HI.out];exact (cls_none HNE.out (by rw [HB.out];omega)).symm)
    clear b1 b2 b5 hB256 his
    go_wp2
    go_ret
    exact ⟨by rw [←HE.out];rfl,rfl⟩
   by_cases b3:B<224
   ·have b2I:(B:Int)<224:=by omega
    have b5I:(192:Int)≤(B:Int):=by omega
    obtain ⟨v0,hv0⟩:∃ v0:Nat,B - 192=v0:=⟨_,rfl⟩
    have HC:=Qh (show ClsU B 1 128 v0 from .inl ⟨by omega,by omega,rfl,rfl,hv0.symm⟩)
    have hvI:(B:Int) - 192=(v0:Int):=by omega
    have hv32:v0<32:=by omega
    have HV0:=Qh hv32
    have hlo:(192:Int)≤(B:Int):=by omega
    have hhi:(B:Int)<224:=by omega
    clear hv0 hv32
    go_upto_region 23 with fail
    clear hvI hlo hhi
    go_loopw [7,8] (fun v7 v8 wr2=>w=wr2∧∃ (k V:Nat),v8 = .int .i64 (k:Int)∧v7 = .int .i64 (V:Int)∧1≤k∧k≤2∧Hid (accU (s.data.toList.drop i) v0 (k - 1)=V∧contsU (s.data.toList.drop i) (k - 1))) (fun _ v8 _=>(2 - intOf v8).toNat)
    case atStart=>exact ⟨rfl,1,v0,rfl,rfl,Nat.le_refl _,by omega,Qh ⟨rfl,fun j h1 h2=>by omega⟩⟩
    case round=>
     obtain ⟨rfl,k,V,rfl,rfl,hk1,hk2,HI2⟩:=hrel
     by_cases hkn:k≤1
     ·have hknI:(k:Int)≤1:=by omega
      have hk0I:(1:Int)≤(k:Int):=by omega
      have hVb:(V:Int)≤131071:=by
       have h1:=accU_lt HV0.out (k - 1) HI2.out.2
       have h2:(64:Nat) ^ (k - 1)≤64 ^ 2:=Nat.pow_le_pow_right (by decide) (by omega)
       rw [HI2.out.1] at h1
       rw [show (64:Nat) ^ 2=4096 from by decide] at h2
       omega
      have hV0I:(0:Int)≤(V:Int):=by omega
      obtain ⟨j,hj⟩:∃ j,i+k=j:=⟨_,rfl⟩
      have hjI:(i:Int)+(k:Int)=(j:Int):=by omega
      have hkL:∀ h:j<s.size,((s.data.toList.drop i).getD k 0).toNat=s[j].toNat:=by
       subst hj
       intro h
       rw [getD_drop_get s i k h]
      have HKL:=Qh hkL
      have HJ:=Qh hj
      clear hj hkL
      by_cases hin:j<N
      ·have hjN:(j:Int)<(N:Int):=by omega
       have hj0:(0:Int)≤(j:Int):=by omega
       have hjs:j<s.size:=by rw [HN.out.1];exact hin
       have hCl:=HKL.out hjs
       obtain ⟨C,hC⟩:∃ C,(s[j]'hjs).toNat=C:=⟨_,rfl⟩
       rw [hC] at hCl
       have HCC:=Qh (Qa hC hCl)
       have hC256:C<256:=by rw [←hC];exact UInt8.toNat_lt _
       clear hC hCl
       by_cases c1:C<128
       ·have c1I:(C:Int)<128:=by omega
        have c2I:((s[j]'hjs).toNat:Int)<128:=by rw [HCC.out.1];exact c1I
        have HE:=Qh (show false=ANS from by rw [←HI.out];exact (cls_bad HNE.out HB.out HC.out ⟨hk1,hkn⟩ (fun h=>by have h1:=h.2.1;rw [HCC.out.2] at h1;omega)).symm)
        clear hkn hk1 hk2 hin hC256 c1
        go_wp2
        go_ret
        exact ⟨by rw [←HE.out];rfl,rfl⟩
       ·by_cases c2:192≤C
        ·have c1I:¬((s[j]'hjs).toNat:Int)<128:=by rw [HCC.out.1];omega
         have c2I:(192:Int)≤((s[j]'hjs).toNat:Int):=by rw [HCC.out.1];omega
         have HE:=Qh (show false=ANS from by rw [←HI.out];exact (cls_bad HNE.out HB.out HC.out ⟨hk1,hkn⟩ (fun h=>by have h1:=h.2.2;rw [HCC.out.2] at h1;omega)).symm)
         clear hkn hk1 hk2 hin hC256 c1 c2
         go_wp2
         go_ret
         exact ⟨by rw [←HE.out];rfl,rfl⟩
        ·have c1I:(128:Int)≤((s[j]'hjs).toNat:Int):=by rw [HCC.out.1];omega
         have c2I:((s[j]'hjs).toNat:Int)<192:=by rw [HCC.out.1];omega
         have HE:=Qh (show accU (s.data.toList.drop i) v0 (k+1 - 1)=V * 64+C - 128∧contsU (s.data.toList.drop i) (k+1 - 1) from by
          have e:k+1 - 1=(k - 1)+1:=by omega
          rw [e]
          refine ⟨?_,fun q h1 h2=>?_⟩
          ·rw [accU_succ,HI2.out.1,show k - 1+1=k by omega,HCC.out.2];omega
          ·by_cases hq:q≤k - 1
           ·exact HI2.out.2 q h1 hq
           ·have hqk:q=k:=by omega
            rw [hqk]
            refine ⟨?_,by rw [HCC.out.2];omega,by rw [HCC.out.2];omega⟩
            have hj:=HJ.out
            have hn:=HN.out.1
            simp only [List.length_drop,Array.length_toList]
            show k<s.size - i
            omega)
         have HK:=Qh (Qa hkn (Qa (show 128≤C by omega) (show C<192 by omega)))
         clear hkn hk1 hk2 hin hC256 c1 c2
         go_wp2
         refine ⟨⟨trivial,k+1,V * 64+C - 128,rfl,?_,by omega,by have:=HK.out.1;omega,HE⟩,?_⟩
         ·have h1:=HK.out.2
          rw [HCC.out.1]
          congr 1
          omega
         ·have:=HK.out.1
          show (2 - ((k:Int)+1)).toNat<(2 - (k:Int)).toNat
          omega
      ·have hjN:(N:Int)≤(j:Int):=by omega
       have HE:=Qh (show false=ANS from by
        rw [←HI.out]
        refine (cls_bad HNE.out HB.out HC.out ⟨hk1,hkn⟩ (fun h=>?_)).symm
        have h1:=h.1
        have hj:=HJ.out
        have hn:=HN.out.1
        simp only [List.length_drop,Array.length_toList] at h1
        change k<s.size - i at h1
        omega)
       clear hkn hk1 hk2 hin
       go_wp2
       go_ret
       exact ⟨by rw [←HE.out];rfl,rfl⟩
     ·have hk:k=2:=by omega
      subst hk
      have hV:accU (s.data.toList.drop i) v0 1=V:=HI2.out.1
      have hVb:V≤8388607:=by
       have h1:=accU_lt HV0.out 1 HI2.out.2
       rw [hV] at h1
       have h2:32 * (64:Nat) ^ 1≤8388608:=by decide
       omega
      obtain ⟨HGb,HGg⟩:=cls_end HNE.out HB.out HC.out HI2.out.2 hV
      have hV0I:(0:Int)≤(V:Int):=by omega
      have hVI:(V:Int)≤8388607:=by omega
      have HI2c:=Qh (HI2.out.2)
      have HGb:=Qh HGb
      have HGg:=Qh HGg
      clear hkn hk1 hk2 hV hVb HI2
      by_cases d1:V<128
      ·have d1I:(V:Int)<128:=by omega
       have HE:=Qh (show false=ANS from by rw [←HI.out];exact (HGb.out (.inl d1)).symm)
       clear d1
       go_wp2
       go_ret
       exact ⟨by rw [←HE.out];rfl,rfl⟩
      by_cases d2:1114111<V
      ·have d1I:¬(V:Int)<128:=by omega
       have d2I:(1114111:Int)<(V:Int):=by omega
       have HE:=Qh (show false=ANS from by rw [←HI.out];exact (HGb.out (.inr (.inl d2))).symm)
       clear d1 d2
       go_wp2
       go_ret
       exact ⟨by rw [←HE.out];rfl,rfl⟩
      by_cases d3:55296≤V
      ·by_cases d4:V<57344
       ·have d1I:¬(V:Int)<128:=by omega
        have d2I:¬(1114111:Int)<(V:Int):=by omega
        have d3I:(55296:Int)≤(V:Int):=by omega
        have d4I:(V:Int)<57344:=by omega
        have HE:=Qh (show false=ANS from by rw [←HI.out];exact (HGb.out (.inr (.inr ⟨d3,d4⟩))).symm)
        clear d1 d2 d3 d4
        go_wp2
        go_ret
        exact ⟨by rw [←HE.out];rfl,rfl⟩
       ·have d1I:¬(V:Int)<128:=by omega
        have d2I:¬(1114111:Int)<(V:Int):=by omega
        have d3I:(55296:Int)≤(V:Int):=by omega
        have d4I:¬(V:Int)<57344:=by omega
        have HE:=Qh (HGg.out (by omega))
        clear d1 d2 d3 d4
        have HLn:=Qh (show i+2≤N from by
         have h1:=(HI2c.out 1 (by omega) (Nat.le_refl _)).1
         have hn:=HN.out.1
         simp only [List.length_drop,Array.length_toList] at h1
         change 1<s.size - i at h1
         omega)
        have hLn:(i:Int)+1+1≤(N:Int):=by have:=HLn.out;omega
        go_wp2
        refine ⟨⟨trivial,i+2,?_,HLn.out,Qh (by rw [←HI.out,HE.out,List.drop_drop])⟩,?_⟩
        ·congr 1
        ·show ((N:Int) - ((i:Int)+1+1)).toNat<((N:Int) - (i:Int)).toNat
         have:=HLn.out
         omega
      ·have d1I:¬(V:Int)<128:=by omega
       have d2I:¬(1114111:Int)<(V:Int):=by omega
       have d3I:¬(55296:Int)≤(V:Int):=by omega
       have HE:=Qh (HGg.out (by omega))
       clear d1 d2 d3
       have HLn:=Qh (show i+2≤N from by
        have h1:=(HI2c.out 1 (by omega) (Nat.le_refl _)).1
        have hn:=HN.out.1
        simp only [List.length_drop,Array.length_toList] at h1
        change 1<s.size - i at h1
        omega)
       have hLn:(i:Int)+1+1≤(N:Int):=by have:=HLn.out;omega
       go_wp2
       refine ⟨⟨trivial,i+2,?_,HLn.out,Qh (by rw [←HI.out,HE.out,List.drop_drop])⟩,?_⟩
       ·congr 1
       ·show ((N:Int) - ((i:Int)+1+1)).toNat<((N:Int) - (i:Int)).toNat
        have:=HLn.out
        omega
   by_cases b4:B<240
   ·have b2I:¬(B:Int)<224:=by omega
    have b5I:(192:Int)≤(B:Int):=by omega
    have b6I:(224:Int)≤(B:Int):=by omega
    have b7I:(B:Int)<240:=by omega
    obtain ⟨v0,hv0⟩:∃ v0:Nat,B - 224=v0:=⟨_,rfl⟩
    have HC:=Qh (show ClsU B 2 2048 v0 from .inr (.inl ⟨by omega,by omega,rfl,rfl,hv0.symm⟩))
    have hvI:(B:Int) - 224=(v0:Int):=by omega
    have hv32:v0<32:=by omega
    have HV0:=Qh hv32
    have hlo:(224:Int)≤(B:Int):=by omega
    have hhi:(B:Int)<240:=by omega
    clear hv0 hv32
    go_upto_region 23 with fail
    clear hvI hlo hhi
    go_loopw [7,8] (fun v7 v8 wr2=>w=wr2∧∃ (k V:Nat),v8 = .int .i64 (k:Int)∧v7 = .int .i64 (V:Int)∧1≤k∧k≤3∧Hid (accU (s.data.toList.drop i) v0 (k - 1)=V∧contsU (s.data.toList.drop i) (k - 1))) (fun _ v8 _=>(3 - intOf v8).toNat)
    case atStart=>exact ⟨rfl,1,v0,rfl,rfl,Nat.le_refl _,by omega,Qh ⟨rfl,fun j h1 h2=>by omega⟩⟩
    case round=>
     obtain ⟨rfl,k,V,rfl,rfl,hk1,hk2,HI2⟩:=hrel
     by_cases hkn:k≤2
     ·have hknI:(k:Int)≤2:=by omega
      have hk0I:(1:Int)≤(k:Int):=by omega
      have hVb:(V:Int)≤131071:=by
       have h1:=accU_lt HV0.out (k - 1) HI2.out.2
       have h2:(64:Nat) ^ (k - 1)≤64 ^ 2:=Nat.pow_le_pow_right (by decide) (by omega)
       rw [HI2.out.1] at h1
       rw [show (64:Nat) ^ 2=4096 from by decide] at h2
       omega
      have hV0I:(0:Int)≤(V:Int):=by omega
      obtain ⟨j,hj⟩:∃ j,i+k=j:=⟨_,rfl⟩
      have hjI:(i:Int)+(k:Int)=(j:Int):=by omega
      have hkL:∀ h:j<s.size,((s.data.toList.drop i).getD k 0).toNat=s[j].toNat:=by
       subst hj
       intro h
       rw [getD_drop_get s i k h]
      have HKL:=Qh hkL
      have HJ:=Qh hj
      clear hj hkL
      by_cases hin:j<N
      ·have hjN:(j:Int)<(N:Int):=by omega
       have hj0:(0:Int)≤(j:Int):=by omega
       have hjs:j<s.size:=by rw [HN.out.1];exact hin
       have hCl:=HKL.out hjs
       obtain ⟨C,hC⟩:∃ C,(s[j]'hjs).toNat=C:=⟨_,rfl⟩
       rw [hC] at hCl
       have HCC:=Qh (Qa hC hCl)
       have hC256:C<256:=by rw [←hC];exact UInt8.toNat_lt _
       clear hC hCl
       by_cases c1:C<128
       ·have c1I:(C:Int)<128:=by omega
        have c2I:((s[j]'hjs).toNat:Int)<128:=by rw [HCC.out.1];exact c1I
        have HE:=Qh (show false=ANS from by rw [←HI.out];exact (cls_bad HNE.out HB.out HC.out ⟨hk1,hkn⟩ (fun h=>by have h1:=h.2.1;rw [HCC.out.2] at h1;omega)).symm)
        clear hkn hk1 hk2 hin hC256 c1
        go_wp2
        go_ret
        exact ⟨by rw [←HE.out];rfl,rfl⟩
       ·by_cases c2:192≤C
        ·have c1I:¬((s[j]'hjs).toNat:Int)<128:=by rw [HCC.out.1];omega
         have c2I:(192:Int)≤((s[j]'hjs).toNat:Int):=by rw [HCC.out.1];omega
         have HE:=Qh (show false=ANS from by rw [←HI.out];exact (cls_bad HNE.out HB.out HC.out ⟨hk1,hkn⟩ (fun h=>by have h1:=h.2.2;rw [HCC.out.2] at h1;omega)).symm)
         clear hkn hk1 hk2 hin hC256 c1 c2
         go_wp2
         go_ret
         exact ⟨by rw [←HE.out];rfl,rfl⟩
        ·have c1I:(128:Int)≤((s[j]'hjs).toNat:Int):=by rw [HCC.out.1];omega
         have c2I:((s[j]'hjs).toNat:Int)<192:=by rw [HCC.out.1];omega
         have HE:=Qh (show accU (s.data.toList.drop i) v0 (k+1 - 1)=V * 64+C - 128∧contsU (s.data.toList.drop i) (k+1 - 1) from by
          have e:k+1 - 1=(k - 1)+1:=by omega
          rw [e]
          refine ⟨?_,fun q h1 h2=>?_⟩
          ·rw [accU_succ,HI2.out.1,show k - 1+1=k by omega,HCC.out.2];omega
          ·by_cases hq:q≤k - 1
           ·exact HI2.out.2 q h1 hq
           ·have hqk:q=k:=by omega
            rw [hqk]
            refine ⟨?_,by rw [HCC.out.2];omega,by rw [HCC.out.2];omega⟩
            have hj:=HJ.out
            have hn:=HN.out.1
            simp only [List.length_drop,Array.length_toList]
            show k<s.size - i
            omega)
         have HK:=Qh (Qa hkn (Qa (show 128≤C by omega) (show C<192 by omega)))
         clear hkn hk1 hk2 hin hC256 c1 c2
         go_wp2
         refine ⟨⟨trivial,k+1,V * 64+C - 128,rfl,?_,by omega,by have:=HK.out.1;omega,HE⟩,?_⟩
         ·have h1:=HK.out.2
          rw [HCC.out.1]
          congr 1
          omega
         ·have:=HK.out.1
          show (3 - ((k:Int)+1)).toNat<(3 - (k:Int)).toNat
          omega
      ·have hjN:(N:Int)≤(j:Int):=by omega
       have HE:=Qh (show false=ANS from by
        rw [←HI.out]
        refine (cls_bad HNE.out HB.out HC.out ⟨hk1,hkn⟩ (fun h=>?_)).symm
        have h1:=h.1
        have hj:=HJ.out
        have hn:=HN.out.1
        simp only [List.length_drop,Array.length_toList] at h1
        change k<s.size - i at h1
        omega)
       clear hkn hk1 hk2 hin
       go_wp2
       go_ret
       exact ⟨by rw [←HE.out];rfl,rfl⟩
     ·have hk:k=3:=by omega
      subst hk
      have hV:accU (s.data.toList.drop i) v0 2=V:=HI2.out.1
      have hVb:V≤8388607:=by
       have h1:=accU_lt HV0.out 2 HI2.out.2
       rw [hV] at h1
       have h2:32 * (64:Nat) ^ 2≤8388608:=by decide
       omega
      obtain ⟨HGb,HGg⟩:=cls_end HNE.out HB.out HC.out HI2.out.2 hV
      have hV0I:(0:Int)≤(V:Int):=by omega
      have hVI:(V:Int)≤8388607:=by omega
      have HI2c:=Qh (HI2.out.2)
      have HGb:=Qh HGb
      have HGg:=Qh HGg
      clear hkn hk1 hk2 hV hVb HI2
      by_cases d1:V<2048
      ·have d1I:(V:Int)<2048:=by omega
       have HE:=Qh (show false=ANS from by rw [←HI.out];exact (HGb.out (.inl d1)).symm)
       clear d1
       go_wp2
       go_ret
       exact ⟨by rw [←HE.out];rfl,rfl⟩
      by_cases d2:1114111<V
      ·have d1I:¬(V:Int)<2048:=by omega
       have d2I:(1114111:Int)<(V:Int):=by omega
       have HE:=Qh (show false=ANS from by rw [←HI.out];exact (HGb.out (.inr (.inl d2))).symm)
       clear d1 d2
       go_wp2
       go_ret
       exact ⟨by rw [←HE.out];rfl,rfl⟩
      by_cases d3:55296≤V
      ·by_cases d4:V<57344
       ·have d1I:¬(V:Int)<2048:=by omega
        have d2I:¬(1114111:Int)<(V:Int):=by omega
        have d3I:(55296:Int)≤(V:Int):=by omega
        have d4I:(V:Int)<57344:=by omega
        have HE:=Qh (show false=ANS from by rw [←HI.out];exact (HGb.out (.inr (.inr ⟨d3,d4⟩))).symm)
        clear d1 d2 d3 d4
        go_wp2
        go_ret
        exact ⟨by rw [←HE.out];rfl,rfl⟩
       ·have d1I:¬(V:Int)<2048:=by omega
        have d2I:¬(1114111:Int)<(V:Int):=by omega
        have d3I:(55296:Int)≤(V:Int):=by omega
        have d4I:¬(V:Int)<57344:=by omega
        have HE:=Qh (HGg.out (by omega))
        clear d1 d2 d3 d4
        have HLn:=Qh (show i+3≤N from by
         have h1:=(HI2c.out 2 (by omega) (Nat.le_refl _)).1
         have hn:=HN.out.1
         simp only [List.length_drop,Array.length_toList] at h1
         change 2<s.size - i at h1
         omega)
        have hLn:(i:Int)+2+1≤(N:Int):=by have:=HLn.out;omega
        go_wp2
        refine ⟨⟨trivial,i+3,?_,HLn.out,Qh (by rw [←HI.out,HE.out,List.drop_drop])⟩,?_⟩
        ·congr 1
        ·show ((N:Int) - ((i:Int)+2+1)).toNat<((N:Int) - (i:Int)).toNat
         have:=HLn.out
         omega
      ·have d1I:¬(V:Int)<2048:=by omega
       have d2I:¬(1114111:Int)<(V:Int):=by omega
       have d3I:¬(55296:Int)≤(V:Int):=by omega
       have HE:=Qh (HGg.out (by omega))
       clear d1 d2 d3
       have HLn:=Qh (show i+3≤N from by
        have h1:=(HI2c.out 2 (by omega) (Nat.le_refl _)).1
        have hn:=HN.out.1
        simp only [List.length_drop,Array.length_toList] at h1
        change 2<s.size - i at h1
        omega)
       have hLn:(i:Int)+2+1≤(N:Int):=by have:=HLn.out;omega
       go_wp2
       refine ⟨⟨trivial,i+3,?_,HLn.out,Qh (by rw [←HI.out,HE.out,List.drop_drop])⟩,?_⟩
       ·congr 1
       ·show ((N:Int) - ((i:Int)+2+1)).toNat<((N:Int) - (i:Int)).toNat
        have:=HLn.out
        omega
   ·have b2I:¬(B:Int)<224:=by omega
    have b5I:(192:Int)≤(B:Int):=by omega
    have b6I:¬(B:Int)<240:=by omega
    have b7I:(240:Int)≤(B:Int):=by omega
    have b8I:(B:Int)<248:=by omega
    have b9I:(224:Int)≤(B:Int):=by omega
    obtain ⟨v0,hv0⟩:∃ v0:Nat,B - 240=v0:=⟨_,rfl⟩
    have HC:=Qh (show ClsU B 3 65536 v0 from .inr (.inr ⟨by omega,by omega,rfl,rfl,hv0.symm⟩))
    have hvI:(B:Int) - 240=(v0:Int):=by omega
    have hv32:v0<32:=by omega
    have HV0:=Qh hv32
    have hlo:(240:Int)≤(B:Int):=by omega
    have hhi:(B:Int)<248:=by omega
    clear hv0 hv32
    go_upto_region 23 with fail
    clear hvI hlo hhi
    go_loopw [7,8] (fun v7 v8 wr2=>w=wr2∧∃ (k V:Nat),v8 = .int .i64 (k:Int)∧v7 = .int .i64 (V:Int)∧1≤k∧k≤4∧Hid (accU (s.data.toList.drop i) v0 (k - 1)=V∧contsU (s.data.toList.drop i) (k - 1))) (fun _ v8 _=>(4 - intOf v8).toNat)
    case atStart=>exact ⟨rfl,1,v0,rfl,rfl,Nat.le_refl _,by omega,Qh ⟨rfl,fun j h1 h2=>by omega⟩⟩
    case round=>
     obtain ⟨rfl,k,V,rfl,rfl,hk1,hk2,HI2⟩:=hrel
     by_cases hkn:k≤3
     ·have hknI:(k:Int)≤3:=by omega
      have hk0I:(1:Int)≤(k:Int):=by omega
      have hVb:(V:Int)≤131071:=by
       have h1:=accU_lt HV0.out (k - 1) HI2.out.2
       have h2:(64:Nat) ^ (k - 1)≤64 ^ 2:=Nat.pow_le_pow_right (by decide) (by omega)
       rw [HI2.out.1] at h1
       rw [show (64:Nat) ^ 2=4096 from by decide] at h2
       omega
      have hV0I:(0:Int)≤(V:Int):=by omega
      obtain ⟨j,hj⟩:∃ j,i+k=j:=⟨_,rfl⟩
      have hjI:(i:Int)+(k:Int)=(j:Int):=by omega
      have hkL:∀ h:j<s.size,((s.data.toList.drop i).getD k 0).toNat=s[j].toNat:=by
       subst hj
       intro h
       rw [getD_drop_get s i k h]
      have HKL:=Qh hkL
      have HJ:=Qh hj
      clear hj hkL
      by_cases hin:j<N
      ·have hjN:(j:Int)<(N:Int):=by omega
       have hj0:(0:Int)≤(j:Int):=by omega
       have hjs:j<s.size:=by rw [HN.out.1];exact hin
       have hCl:=HKL.out hjs
       obtain ⟨C,hC⟩:∃ C,(s[j]'hjs).toNat=C:=⟨_,rfl⟩
       rw [hC] at hCl
       have HCC:=Qh (Qa hC hCl)
       have hC256:C<256:=by rw [←hC];exact UInt8.toNat_lt _
       clear hC hCl
       by_cases c1:C<128
       ·have c1I:(C:Int)<128:=by omega
        have c2I:((s[j]'hjs).toNat:Int)<128:=by rw [HCC.out.1];exact c1I
        have HE:=Qh (show false=ANS from by rw [←HI.out];exact (cls_bad HNE.out HB.out HC.out ⟨hk1,hkn⟩ (fun h=>by have h1:=h.2.1;rw [HCC.out.2] at h1;omega)).symm)
        clear hkn hk1 hk2 hin hC256 c1
        go_wp2
        go_ret
        exact ⟨by rw [←HE.out];rfl,rfl⟩
       ·by_cases c2:192≤C
        ·have c1I:¬((s[j]'hjs).toNat:Int)<128:=by rw [HCC.out.1];omega
         have c2I:(192:Int)≤((s[j]'hjs).toNat:Int):=by rw [HCC.out.1];omega
         have HE:=Qh (show false=ANS from by rw [←HI.out];exact (cls_bad HNE.out HB.out HC.out ⟨hk1,hkn⟩ (fun h=>by have h1:=h.2.2;rw [HCC.out.2] at h1;omega)).symm)
         clear hkn hk1 hk2 hin hC256 c1 c2
         go_wp2
         go_ret
         exact ⟨by rw [←HE.out];rfl,rfl⟩
        ·have c1I:(128:Int)≤((s[j]'hjs).toNat:Int):=by rw [HCC.out.1];omega
         have c2I:((s[j]'hjs).toNat:Int)<192:=by rw [HCC.out.1];omega
         have HE:=Qh (show accU (s.data.toList.drop i) v0 (k+1 - 1)=V * 64+C - 128∧contsU (s.data.toList.drop i) (k+1 - 1) from by
          have e:k+1 - 1=(k - 1)+1:=by omega
          rw [e]
          refine ⟨?_,fun q h1 h2=>?_⟩
          ·rw [accU_succ,HI2.out.1,show k - 1+1=k by omega,HCC.out.2];omega
          ·by_cases hq:q≤k - 1
           ·exact HI2.out.2 q h1 hq
           ·have hqk:q=k:=by omega
            rw [hqk]
            refine ⟨?_,by rw [HCC.out.2];omega,by rw [HCC.out.2];omega⟩
            have hj:=HJ.out
            have hn:=HN.out.1
            simp only [List.length_drop,Array.length_toList]
            show k<s.size - i
            omega)
         have HK:=Qh (Qa hkn (Qa (show 128≤C by omega) (show C<192 by omega)))
         clear hkn hk1 hk2 hin hC256 c1 c2
         go_wp2
         refine ⟨⟨trivial,k+1,V * 64+C - 128,rfl,?_,by omega,by have:=HK.out.1;omega,HE⟩,?_⟩
         ·have h1:=HK.out.2
          rw [HCC.out.1]
          congr 1
          omega
         ·have:=HK.out.1
          show (4 - ((k:Int)+1)).toNat<(4 - (k:Int)).toNat
          omega
      ·have hjN:(N:Int)≤(j:Int):=by omega
       have HE:=Qh (show false=ANS from by
        rw [←HI.out]
        refine (cls_bad HNE.out HB.out HC.out ⟨hk1,hkn⟩ (fun h=>?_)).symm
        have h1:=h.1
        have hj:=HJ.out
        have hn:=HN.out.1
        simp only [List.length_drop,Array.length_toList] at h1
        change k<s.size - i at h1
        omega)
       clear hkn hk1 hk2 hin
       go_wp2
       go_ret
       exact ⟨by rw [←HE.out];rfl,rfl⟩
     ·have hk:k=4:=by omega
      subst hk
      have hV:accU (s.data.toList.drop i) v0 3=V:=HI2.out.1
      have hVb:V≤8388607:=by
       have h1:=accU_lt HV0.out 3 HI2.out.2
       rw [hV] at h1
       have h2:32 * (64:Nat) ^ 3≤8388608:=by decide
       omega
      obtain ⟨HGb,HGg⟩:=cls_end HNE.out HB.out HC.out HI2.out.2 hV
      have hV0I:(0:Int)≤(V:Int):=by omega
      have hVI:(V:Int)≤8388607:=by omega
      have HI2c:=Qh (HI2.out.2)
      have HGb:=Qh HGb
      have HGg:=Qh HGg
      clear hkn hk1 hk2 hV hVb HI2
      by_cases d1:V<65536
      ·have d1I:(V:Int)<65536:=by omega
       have HE:=Qh (show false=ANS from by rw [←HI.out];exact (HGb.out (.inl d1)).symm)
       clear d1
       go_wp2
       go_ret
       exact ⟨by rw [←HE.out];rfl,rfl⟩
      by_cases d2:1114111<V
      ·have d1I:¬(V:Int)<65536:=by omega
       have d2I:(1114111:Int)<(V:Int):=by omega
       have HE:=Qh (show false=ANS from by rw [←HI.out];exact (HGb.out (.inr (.inl d2))).symm)
       clear d1 d2
       go_wp2
       go_ret
       exact ⟨by rw [←HE.out];rfl,rfl⟩
      by_cases d3:55296≤V
      ·by_cases d4:V<57344
       ·have d1I:¬(V:Int)<65536:=by omega
        have d2I:¬(1114111:Int)<(V:Int):=by omega
        have d3I:(55296:Int)≤(V:Int):=by omega
        have d4I:(V:Int)<57344:=by omega
        have HE:=Qh (show false=ANS from by rw [←HI.out];exact (HGb.out (.inr (.inr ⟨d3,d4⟩))).symm)
        clear d1 d2 d3 d4
        go_wp2
        go_ret
        exact ⟨by rw [←HE.out];rfl,rfl⟩
       ·have d1I:¬(V:Int)<65536:=by omega
        have d2I:¬(1114111:Int)<(V:Int):=by omega
        have d3I:(55296:Int)≤(V:Int):=by omega
        have d4I:¬(V:Int)<57344:=by omega
        have HE:=Qh (HGg.out (by omega))
        clear d1 d2 d3 d4
        have HLn:=Qh (show i+4≤N from by
         have h1:=(HI2c.out 3 (by omega) (Nat.le_refl _)).1
         have hn:=HN.out.1
         simp only [List.length_drop,Array.length_toList] at h1
         change 3<s.size - i at h1
         omega)
        have hLn:(i:Int)+3+1≤(N:Int):=by have:=HLn.out;omega
        go_wp2
        refine ⟨⟨trivial,i+4,?_,HLn.out,Qh (by rw [←HI.out,HE.out,List.drop_drop])⟩,?_⟩
        ·congr 1
        ·show ((N:Int) - ((i:Int)+3+1)).toNat<((N:Int) - (i:Int)).toNat
         have:=HLn.out
         omega
      ·have d1I:¬(V:Int)<65536:=by omega
       have d2I:¬(1114111:Int)<(V:Int):=by omega
       have d3I:¬(55296:Int)≤(V:Int):=by omega
       have HE:=Qh (HGg.out (by omega))
       clear d1 d2 d3
       have HLn:=Qh (show i+4≤N from by
        have h1:=(HI2c.out 3 (by omega) (Nat.le_refl _)).1
        have hn:=HN.out.1
        simp only [List.length_drop,Array.length_toList] at h1
        change 3<s.size - i at h1
        omega)
       have hLn:(i:Int)+3+1≤(N:Int):=by have:=HLn.out;omega
       go_wp2
       refine ⟨⟨trivial,i+4,?_,HLn.out,Qh (by rw [←HI.out,HE.out,List.drop_drop])⟩,?_⟩
       ·congr 1
       ·show ((N:Int) - ((i:Int)+3+1)).toNat<((N:Int) - (i:Int)).toNat
        have:=HLn.out
        omega
  ·have ei:i=N:=by omega
   have HE:=Qh (show true=ANS from by
    rw [←HI.out,List.drop_of_length_le (by rw [Array.length_toList,ei,←HN.out.1];exact Nat.le_refl _)]
    rfl)
   subst ei
   clear hlt hi
   go_wp2
   go_ret
   exact ⟨by rw [←HE.out];rfl,rfl⟩
end
end Go.Proofs.YtpikjceodmepiaaGreatDoor
