import Derived.WalkKit
import Derived.Lib.Hide
import Derived.Test.YtjpnmmjgdiiahaaGreatDoorRows
import Derived.Deep.QuietTactic
import Derived.BigQuiet
import Derived.Deep.RegionHeld3
import Derived.Deep.DrawnRows
import Derived.Deep.DeepCutAuto
import Derived.Deep.CutBlock
import Derived.StillTailTactics
import Derived.Deep.AppendLies
import Derived.Maps.AppendAt
import Derived.Deep.OwnRows
import Derived.Shelf.Small.Bits
import Derived.Laws.BytesArg
import Derived.Laws.AppendOwnNone
import Derived.ProofKit
import Derived.OpenShut
import Derived.JoinedCond
import Derived.JoinedOf
import Derived.JoinedAt
import Derived.ChangeSame
import Derived.ChangeSlices
import Derived.RowKit3
import Derived.Carry
import Derived.Lib.SmallJoins
import Derived.Deep.LoopGhost
import Derived.IntWalk
import Derived.Laws.Cover2
import Derived.Laws.FloatArith
import Derived.Lib.ValidU
import Derived.Shelf.Unicode.ValidAny
import Derived.Lib.LaidU8T
import Derived.Test.YtjpnmmjgdiiahaaGreatDoorK1
import Derived.Test.YtjpnmmjgdiiahaaGreatDoorK2
import Derived.Test.YtjpnmmjgdiiahaaGreatDoorK3
set_option linter.unusedVariables false
set_option linter.unusedSimpArgs false
namespace Ht
open Go Go.RowKit Hb
def cells6 (t:Tm) (sl:Value):List Value:=[.int .i64 t.k,.string ⟨t.n.toArray⟩,.string ⟨t.m.toArray⟩,.int .u64 t.b,.int .i64 t.v,sl]
def valT (t:Tm) (sl:Value):Value:=.agg (cells6 t sl).toArray
def maxArgs:Nat:=1759218604400
def okF (t:Tm):Prop:=t.n.length≤maxLen∧t.m.length≤maxLen∧(0≤t.b∧t.b<18446744073709551616)∧(-9223372036854775808≤t.v∧t.v≤9223372036854775807)∧(-9223372036854775808≤t.k∧t.k≤9223372036854775807)
mutual
/-- slice sl holds the arguments of a term,in blocks that are P -/
def TAtP (w:World) (P:Nat→Prop):Tm→Value→Prop
 | .mk k n m b v zs,sl=>∃ A c,sl = .slice A zs.length c∧zs.length≤c∧c≤maxLen∧zs.length≤maxArgs∧okF (.mk k n m b v zs)∧(zs ≠ []→∃ g o,A=some ⟨g,o,none⟩∧P g∧TsAtP w P g zs o)
def TsAtP (w:World) (P:Nat→Prop) (g:Nat):List Tm→Nat→Prop
 | [],_=>True
 | a :: zs,o=>(∃ sl,(∀ j,j<6→w.cell? ⟨g,o+j,none⟩=(cells6 a sl)[j]?)∧TAtP w P a sl)∧TsAtP w P g zs (o+6)
end
def EltP (w:World) (P:Nat→Prop) (g o:Nat) (a:Tm):Prop:=∃ sl,(∀ j,j<6→w.cell? ⟨g,o+j,none⟩=(cells6 a sl)[j]?)∧TAtP w P a sl
theorem TsAtP.iff {w:World} {P:Nat→Prop} {g:Nat} : ∀ {zs:List Tm} {o:Nat},TsAtP w P g zs o↔∀ i a,zs[i]?=some a→EltP w P g (o+i * 6) a
 | [],o=>by simp [TsAtP]
 | a :: zs,o=>by
  rw [TsAtP,TsAtP.iff (zs:=zs)]
  constructor
  ·rintro ⟨h,hs⟩ i x hx
   cases i with
   | zero=>cases hx;rw [Nat.zero_mul,Nat.add_zero];exact h
   | succ i=>
    have:=hs i x (by simpa using hx)
    rwa [show o+6+i * 6=o+(i+1) * 6 by omega] at this
  ·intro h
   refine ⟨?_,fun i x hx=>?_⟩
   ·have:=h 0 a rfl
    rwa [Nat.zero_mul,Nat.add_zero] at this
   ·have:=h (i+1) x (by simpa using hx)
    rwa [show o+(i+1) * 6=o+6+i * 6 by omega] at this
theorem TAtP.iff {w:World} {P:Nat→Prop} {t:Tm} {sl:Value} : TAtP w P t sl↔∃ A c,sl = .slice A t.as.length c∧t.as.length≤c∧c≤maxLen∧t.as.length≤maxArgs∧okF t∧(t.as ≠ []→∃ g o,A=some ⟨g,o,none⟩∧P g∧∀ i a,t.as[i]?=some a→EltP w P g (o+i * 6) a):=by
 obtain ⟨k,n,m,b,v,zs⟩:=t
 rw [TAtP]
 simp only [TsAtP.iff]
 rfl
theorem TAtP.keep (t:Tm):∀ {w w':World} {P Q:Nat→Prop} {sl:Value},TAtP w P t sl→(∀ b,P b→Q b∧w'.heap[b]?=w.heap[b]?)→TAtP w' Q t sl:=by
 refine Tm.ind (p:=fun t=>∀ {w w':World} {P Q:Nat→Prop} {sl:Value},TAtP w P t sl→(∀ b,P b→Q b∧w'.heap[b]?=w.heap[b]?)→TAtP w' Q t sl) (fun k n m b v zs ih w w' P Q sl h hb=>?_) t
 rw [TAtP.iff] at h ⊢
 obtain ⟨A,c,h1,h2,h3,h4,h5,h6⟩:=h
 refine ⟨A,c,h1,h2,h3,h4,h5,fun hne=>?_⟩
 obtain ⟨g,o,e,hg,hs⟩:=h6 hne
 refine ⟨g,o,e,(hb g hg).1,fun i a ha=>?_⟩
 obtain ⟨sl',hc,ht⟩:=hs i a ha
 exact ⟨sl',fun j hj=>(World.cell?_of_block (a:=⟨g,o+i * 6+j,none⟩) (hb g hg).2).trans (hc j hj),ih a (List.mem_of_getElem? ha) ht hb⟩
def TAt (w:World) (B:Nat) (t:Tm) (sl:Value):Prop:=TAtP w (fun b=>b<B) t sl
def EltAt (w:World) (B g o:Nat) (a:Tm):Prop:=∃ sl,(∀ j,j<6→w.cell? ⟨g,o+j,none⟩=(cells6 a sl)[j]?)∧TAt w B a sl
theorem TAt.iff {w:World} {B:Nat} {t:Tm} {sl:Value} : TAt w B t sl↔∃ A c,sl = .slice A t.as.length c∧t.as.length≤c∧c≤maxLen∧t.as.length≤maxArgs∧okF t∧(t.as ≠ []→∃ g o,A=some ⟨g,o,none⟩∧g<B∧∀ i a,t.as[i]?=some a→EltAt w B g (o+i * 6) a):=TAtP.iff
theorem TAt.below (t:Tm) {w w':World} {B C:Nat} {sl:Value} (h:TAt w B t sl) (hb:Below C w w') (hB:B≤C):TAt w' B t sl:=TAtP.keep t h (fun b hbB=>⟨hbB,hb.block b (Nat.lt_of_lt_of_le hbB hB)⟩)
theorem TAt.mono (t:Tm) {w:World} {B C:Nat} {sl:Value} (h:TAt w B t sl) (hB:B≤C):TAt w C t sl:=TAtP.keep t h (fun b hbB=>⟨Nat.lt_of_lt_of_le hbB hB,rfl⟩)
theorem TAt.to {w w':World} {B:Nat} {t:Tm} {sl:Value} (h:TAt w B t sl) (hb:Below B w w') (hB:B≤w'.heap.size):TAt w' w'.heap.size t sl:=(TAt.below t h hb (Nat.le_refl _)).mono t hB
theorem TAt.slice {w:World} {B:Nat} {t:Tm} {sl:Value} (h:TAt w B t sl):∃ A c,sl = .slice A t.as.length c∧t.as.length≤c∧c≤maxLen∧t.as.length≤maxArgs:=by
 obtain ⟨A,c,h1,h2,h3,h4,_⟩:=TAt.iff.1 h
 exact ⟨A,c,h1,h2,h3,h4⟩
theorem TAt.ok {w:World} {B:Nat} {t:Tm} {sl:Value} (h:TAt w B t sl):okF t:=by
 obtain ⟨A,c,h1,h2,h3,h4,h5,_⟩:=TAt.iff.1 h
 exact h5
theorem TAt.arg {w:World} {B:Nat} {t:Tm} {A:Option Addr} {n c:Nat} (h:TAt w B t (.slice A n c)) {i:Nat} {a:Tm} (ha:t.as[i]?=some a):∃ g o,A=some ⟨g,o,none⟩∧g<B∧EltAt w B g (o+i * 6) a:=by
 obtain ⟨A',c',h1,h2,h3,h4,h5,h6⟩:=TAt.iff.1 h
 injection h1 with e1 e2 e3
 subst e1
 obtain ⟨g,o,e,hg,hs⟩:=h6 (fun e=>by rw [e] at ha;simp at ha)
 exact ⟨g,o,e,hg,hs i a ha⟩
theorem TAtP.letters {w:World} {P:Nat→Prop} {t:Tm} {sl:Value} (h:TAtP w P t sl):∃ k n m b v ts nb mb A c,t = .mk k n m b v ts∧sl = .slice A ts.length c∧(⟨n.toArray⟩:ByteArray)=nb∧(⟨m.toArray⟩:ByteArray)=mb∧ts.length≤c∧c≤maxLen∧ts.length≤maxArgs∧valT t sl = .agg #[.int .i64 k,.string nb,.string mb,.int .u64 b,.int .i64 v,.slice A ts.length c]∧nb.size≤maxLen∧mb.size≤maxLen:=by
 obtain ⟨A,c,rfl,hl1,hl2,hl3,ho,_⟩:=TAtP.iff.1 h
 obtain ⟨k,n,m,b,v,ts⟩:=t
 exact ⟨k,n,m,b,v,ts,_,_,A,c,rfl,rfl,rfl,rfl,hl1,hl2,hl3,rfl,by show n.toArray.size≤_;rw [List.size_toArray];exact ho.1,by show m.toArray.size≤_;rw [List.size_toArray];exact ho.2.1⟩
theorem TAt.letters {w:World} {B:Nat} {t:Tm} {sl:Value} (h:TAt w B t sl):∃ k n m b v ts nb mb A c,t = .mk k n m b v ts∧sl = .slice A ts.length c∧(⟨n.toArray⟩:ByteArray)=nb∧(⟨m.toArray⟩:ByteArray)=mb∧ts.length≤c∧c≤maxLen∧ts.length≤maxArgs∧valT t sl = .agg #[.int .i64 k,.string nb,.string mb,.int .u64 b,.int .i64 v,.slice A ts.length c]∧nb.size≤maxLen∧mb.size≤maxLen:=TAtP.letters h
theorem TAtP.below {w w':World} {P:Nat→Prop} {t:Tm} {sl:Value} (h:TAtP w P t sl) (hb:Below w.heap.size w w') (hP:∀ b,P b→b<w.heap.size):TAtP w' P t sl:=TAtP.keep t h (fun b hp=>⟨hp,hb.block b (hP b hp)⟩)
theorem TAt.boxed {w:World} {t:Tm} {sl:Value} (h:TAt w w.heap.size t sl) (o:Obj):TAt (w.alloc o) (w.alloc o).heap.size t sl:=h.to ((Below.refl _ _).alloc (Nat.le_refl _) _) (by simp)
end Ht
namespace Ht
theorem cnt_small (t:Tm):∀ n,n≤4000→cnt t n≤4001:=by
 refine Tm.ind (p:=fun t=>∀ n,n≤4000→cnt t n≤4001) (fun k nm m b v ts ih n hn=>?_) t
 have key:∀ ts:List Tm,(∀ a∈ts,∀ n,n≤4000→cnt a n≤4001)→∀ n,n≤4001→cnts ts n≤4001:=by
  intro ts
  induction ts with
  | nil=>intro _ n hn;simpa [cnts] using hn
  | cons a ts ih=>
   intro h n hn
   simp only [cnts]
   split
   ·exact hn
   ·exact ih (fun x hx=>h x (by simp [hx])) _ (h a (by simp) n (by omega))
 simp only [cnt]
 exact key ts ih _ (by omega)
end Ht
namespace Go.Proofs.YtjpnmmjgdiiahaaGreatDoor
section
open Go.RowKit Hb Ht
def TBox (w:World) (g:Nat) (t:Tm) (sl:Value):Prop:=w.heap[g]?=some (.cells (cells6 t sl).toArray 25 (0,0))
theorem TBox.lt {w:World} {g:Nat} {t:Tm} {sl:Value} (h:TBox w g t sl):g<w.heap.size:=(Array.getElem?_eq_some_iff.1 h).1
theorem TBox.below {w w':World} {g:Nat} {t:Tm} {sl:Value} (h:TBox w g t sl) (hb:Below w.heap.size w w'):TBox w' g t sl:=(hb.block g h.lt).trans h
theorem TBox.cells {w:World} {g:Nat} {k v b:Int} {n m:List UInt8} {ts:List Tm} {sl:Value} {nb mb:ByteArray} (h:TBox w g (.mk k n m b v ts) sl) (hn:(⟨n.toArray⟩:ByteArray)=nb) (hm:(⟨m.toArray⟩:ByteArray)=mb) :
  w.cell? ⟨g,0,none⟩=some (.int .i64 k)∧w.cell? ⟨g,1,none⟩=some (.string nb)∧w.cell? ⟨g,2,none⟩=some (.string mb)∧w.cell? ⟨g,3,none⟩=some (.int .u64 b)∧w.cell? ⟨g,4,none⟩=some (.int .i64 v)∧w.cell? ⟨g,5,none⟩=some sl:=by
 subst hn hm
 refine ⟨?_,?_,?_,?_,?_,?_⟩ <;> (rw [cell_of_row w g _ _ _ (0,0) h];rfl)
theorem TBox.new (w:World) {k v b:Int} {n m:List UInt8} {ts:List Tm} {sl:Value} {nb mb:ByteArray} (hn:(⟨n.toArray⟩:ByteArray)=nb) (hm:(⟨m.toArray⟩:ByteArray)=mb) :
  TBox (w.alloc (.cells #[.int .i64 k,.string nb,.string mb,.int .u64 b,.int .i64 v,sl] 25)) w.heap.size (.mk k n m b v ts) sl:=by
 subst hn hm
 exact heap_alloc_new w _
theorem EltAt.cells {w:World} {B g o:Nat} {a:Tm} (h:EltAt w B g o a):∃ A c k n m b v ts nb mb,a = .mk k n m b v ts∧(⟨n.toArray⟩:ByteArray)=nb∧(⟨m.toArray⟩:ByteArray)=mb∧TAt w B a (.slice A ts.length c) ∧
  w.cell? ⟨g,o,none⟩=some (.int .i64 k)∧w.cell? ⟨g,o+1,none⟩=some (.string nb)∧w.cell? ⟨g,o+2,none⟩=some (.string mb)∧w.cell? ⟨g,o+3,none⟩=some (.int .u64 b)∧w.cell? ⟨g,o+4,none⟩=some (.int .i64 v)∧w.cell? ⟨g,o+5,none⟩=some (.slice A ts.length c):=by
 obtain ⟨sl,hc,ht⟩:=h
 obtain ⟨A,c,rfl,_⟩:=ht.slice
 obtain ⟨k,n,m,b,v,ts⟩:=a
 exact ⟨A,c,k,n,m,b,v,ts,_,_,rfl,rfl,rfl,ht,hc 0 (by omega),hc 1 (by omega),hc 2 (by omega),hc 3 (by omega),hc 4 (by omega),hc 5 (by omega)⟩
theorem valT_mk {k v b:Int} {n m:List UInt8} {ts:List Tm} {sl:Value} {nb mb:ByteArray} (hn:(⟨n.toArray⟩:ByteArray)=nb) (hm:(⟨m.toArray⟩:ByteArray)=mb):valT (.mk k n m b v ts) sl = .agg #[.int .i64 k,.string nb,.string mb,.int .u64 b,.int .i64 v,sl]:=by
 subst hn hm;rfl
def CountOk (t:Tm):Prop:=∀ (w:World) (sl:Value) (n:Nat),TAt w w.heap.size t sl→n≤4000→Calls Tryz.prog 156 #[valT t sl,.int .i64 (n:Int)] w fun e w'=>e = .returned (.int .i64 (cnt t n:Nat))∧Below w.heap.size w w'
set_option maxRecDepth 100000 in
set_option maxHeartbeats 4000000 in
theorem count_any (t:Tm):CountOk t:=by
 refine Tm.ind (p:=CountOk) (fun k nl ml b v ts ih=>?_) t
 intro w sl n h hn
 obtain ⟨A,c,rfl,hl1,hl2,hl3⟩:=h.slice
 obtain ⟨nb,hnb⟩:∃ nb:ByteArray,(⟨nl.toArray⟩:ByteArray)=nb:=⟨_,rfl⟩
 obtain ⟨mb,hmb⟩:∃ mb:ByteArray,(⟨ml.toArray⟩:ByteArray)=mb:=⟨_,rfl⟩
 obtain ⟨L,hL⟩:∃ L,ts.length=L:=⟨_,rfl⟩
 change ts.length≤c at hl1
 change ts.length≤maxArgs at hl3
 change TAt w w.heap.size (.mk k nl ml b v ts) (.slice A ts.length c) at h
 change Calls Tryz.prog 156 #[valT _ (.slice A ts.length c),_] w _
 rw [valT_mk hnb hmb]
 rw [hL] at h hl1 hl3 ⊢
 obtain ⟨R,hR⟩:∃ R,cnt (.mk k nl ml b v ts) n=R:=⟨_,rfl⟩
 rw [hR]
 have hRs:cnts ts (n+1)=R:=by rw [←hR];rfl
 have HIH:=Lib.hid ih
 have HT:=Lib.hid h
 have HL:=Lib.hid (And.intro hL hRs)
 have hLI:(L:Int)≤1759218604400:=by unfold maxArgs at hl3;omega
 have hX:=TBox.new (ts:=ts) w (k:=k) (b:=b) (v:=v) (sl:=.slice A L c) hnb hmb
 have hB:=Lib.hid (show Below w.heap.size w (w.alloc (.cells #[.int .i64 k,.string nb,.string mb,.int .u64 b,.int .i64 v,.slice A L c] 25)) from (Below.refl _ _).alloc (Nat.le_refl _) _)
 obtain ⟨x0,x1,x2,x3,x4,x5⟩:=hX.cells hnb hmb
 clear ih h hR hRs hL hnb hmb hX
 go_enter Tryz.func156,Tryz.ntmps156
 go_upto_region 3 with fail
 obtain ⟨W1,hW1⟩:∃ W1,w.alloc (.cells #[.int .i64 k,.string nb,.string mb,.int .u64 b,.int .i64 v,.slice A L c] 25)=W1:=⟨_,rfl⟩
 rw [hW1] at hB x0 x1 x2 x3 x4 x5 ⊢
 clear hW1 x0 x1 x2 x3 x4 x5
 go_loopw [1,12] (fun v1 v12 wr=>∃ x i:Nat,v1 = .int .i64 (x:Int)∧v12 = .int .i64 (i:Int)∧i≤L∧x≤4001∧Hid (cnts (ts.drop i) x=R∧Below w.heap.size w wr)) (fun _ v12 _=>((L:Int) - intOf v12).toNat)
 case atStart=>exact ⟨n+1,0,rfl,rfl,Nat.zero_le _,by omega,Lib.hid ⟨HL.out.2,hB.out⟩⟩
 case round=>
  obtain ⟨x,i,rfl,rfl,hi,hx,HI⟩:=hrel
  by_cases hlt:i<L
  ·have hltI:(i:Int)<(L:Int):=by omega
   have hi0:(0:Int)≤(i:Int):=by omega
   have hil:i<ts.length:=by rw [HL.out.1];exact hlt
   obtain ⟨a,ha⟩:∃ a,ts[i]?=some a:=⟨_,List.getElem?_eq_getElem hil⟩
   have hTr:=(HT.out.to HI.out.2 HI.out.2.size)
   obtain ⟨g,o,rfl,hgB,helt⟩:=hTr.arg ha
   obtain ⟨A',c',k',n',m',b',v',ts',nb',mb',rfl,hnb',hmb',hta,e0,e1,e2,e3,e4,e5⟩:=EltAt.cells helt
   have hd:ts.drop i = .mk k' n' m' b' v' ts' :: ts.drop (i+1):=by rw [List.drop_eq_getElem_cons hil,←List.getElem?_eq_some_iff.1 ha |>.2]
   have HC:=Lib.hid (HIH.out _ (List.mem_of_getElem? ha))
   have HN:=Lib.hid (And.intro hnb' hmb')
   have HTA:=Lib.hid hta
   have HLT:=Lib.hid hlt
   have HD:=Lib.hid hd
   have hg0:(0:Int)≤0:=by omega
   clear hTr helt hta hnb' hmb' ha hil hlt hd hi
   obtain ⟨q,hq⟩:∃ q,ts'.length=q:=⟨_,rfl⟩
   have HQ:=Lib.hid hq
   rw [hq] at e5
   clear hq
   go_upto_region 5 with fail
   have HX2:=Lib.hid (TBox.new (ts:=ts') wr (k:=k') (b:=b') (v:=v') (sl:=.slice A' q c') HN.out.1 HN.out.2)
   have HB2:=Lib.hid (show Below w.heap.size w (wr.alloc (.cells #[.int .i64 k',.string nb',.string mb',.int .u64 b',.int .i64 v',.slice A' q c'] 25)) from HI.out.2.alloc HI.out.2.size _)
   have HT2:=Lib.hid (show TAt (wr.alloc (.cells #[.int .i64 k',.string nb',.string mb',.int .u64 b',.int .i64 v',.slice A' q c'] 25)) (wr.alloc (.cells #[.int .i64 k',.string nb',.string mb',.int .u64 b',.int .i64 v',.slice A' q c'] 25)).heap.size (.mk k' n' m' b' v' ts') (.slice A' q c') from by
    have h9:=HTA.out
    rw [HQ.out] at h9
    exact h9.to ((Below.refl _ _).alloc (Nat.le_refl _) _) (by simp))
   generalize wr.alloc (.cells #[.int .i64 k',.string nb',.string mb',.int .u64 b',.int .i64 v',.slice A' q c'] 25)=W2 at *
   generalize wr.heap.size=gB at *
   obtain ⟨y0,y1,y2,y3,y4,y5⟩:=HX2.out.cells HN.out.1 HN.out.2
   clear e0 e1 e2 e3 e4 e5
   by_cases hbig:4000<x
   ·have hbI:(4000:Int)<(x:Int):=by omega
    have HE:=Lib.hid (show x=R from by
     have h9:=HI.out.1
     rw [HD.out,cnts,if_pos hbig] at h9
     exact h9)
    clear hbig y0 y1 y2 y3 y4 y5
    go_wp2
    go_ret
    exact ⟨by rw [HE.out];rfl,HB2.out⟩
   ·have hbI:¬(4000:Int)<(x:Int):=by omega
    have HE:=Lib.hid (show cnts (ts.drop (i+1)) (cnt (.mk k' n' m' b' v' ts') x)=R from by
     have h9:=HI.out.1
     rw [HD.out,cnts,if_neg hbig] at h9
     exact h9)
    have HCl:=Lib.hid (HC.out W2 (.slice A' q c') x HT2.out (by omega))
    rw [valT_mk HN.out.1 HN.out.2] at HCl
    have HSm:=Lib.hid (cnt_small (.mk k' n' m' b' v' ts') x (by omega))
    generalize cnt (.mk k' n' m' b' v' ts') x=z at *
    clear hbig
    go_wp2_with (go_at_call 156;(with_reducible refine HCl.out.mono ?_);rintro e w' ⟨rfl,hb3⟩;have HB3:=Lib.hid (HB2.out.trans (hb3.mono HB2.out.size));clear hb3)
    go_roundw
    case rel=>exact ⟨z,i+1,rfl,rfl,HLT.out,HSm.out,Lib.hid ⟨HE.out,HB3.out⟩⟩
    case measure=>
     have:=HLT.out
     show ((L:Int) - ((i:Int)+1)).toNat<((L:Int) - (i:Int)).toNat
     omega
  ·have ei:i=L:=by omega
   subst ei
   have HE:=Lib.hid (show x=R∧Below w.heap.size w wr from by
    have h9:=HI.out
    rw [List.drop_of_length_le (by rw [HL.out.1];exact Nat.le_refl _)] at h9
    exact h9)
   clear hlt hi
   go_wp2
   go_ret
   exact ⟨by rw [HE.out.1];rfl,HE.out.2⟩
set_option maxRecDepth 100000 in
set_option maxHeartbeats 4000000 in
theorem Nodes_any {w:World} {t:Tm} {sl:Value} (h:TAt w w.heap.size t sl):Calls Tryz.prog 61 #[valT t sl] w fun e w'=>e = .returned (.int .i64 (nodes t:Nat))∧Below w.heap.size w w':=by
 obtain ⟨k,nl,ml,b,v,ts,nb,mb,A,c,rfl,rfl,hnb,hmb,hl1,hl2,hl3,hv,hs1,hs2⟩:=h.letters
 have hc:=count_any (.mk k nl ml b v ts) (w.alloc (.cells #[.int .i64 k,.string nb,.string mb,.int .u64 b,.int .i64 v,.slice A ts.length c] 25)) (.slice A ts.length c) 0 (h.boxed _) (by omega)
 have hR:nodes (.mk k nl ml b v ts)=min (cnt (.mk k nl ml b v ts) 0) 4001:=rfl
 have hsm:=cnt_small (.mk k nl ml b v ts) 0 (by omega)
 rw [hv,show ((0:Nat):Int)=0 from rfl] at hc
 rw [hv,hR]
 generalize cnt (.mk k nl ml b v ts) 0=z at *
 rw [show min z 4001=z by omega]
 have HC:=Lib.hid hc
 have hX:=TBox.new (ts:=ts) w (k:=k) (b:=b) (v:=v) (sl:=.slice A ts.length c) hnb hmb
 have HB:=Lib.hid (show Below w.heap.size w (w.alloc (.cells #[.int .i64 k,.string nb,.string mb,.int .u64 b,.int .i64 v,.slice A ts.length c] 25)) from (Below.refl _ _).alloc (Nat.le_refl _) _)
 obtain ⟨x0,x1,x2,x3,x4,x5⟩:=hX.cells hnb hmb
 have hzI:(z:Int)≤4001:=by omega
 have hmz:min (z:Int) 4001=(z:Int):=by omega
 clear hc h hv hR hX
 go_enter Tryz.func61,Tryz.ntmps61
 go_wp2_with (go_at_call 156;(with_reducible refine HC.out.mono ?_);rintro e w' ⟨rfl,hb3⟩;have HB3:=Lib.hid (HB.out.trans (hb3.mono HB.out.size));clear hb3)
 go_ret
 exact ⟨rfl,HB3.out⟩
end
end Go.Proofs.YtjpnmmjgdiiahaaGreatDoor
namespace Ht
open Go Go.RowKit Hb
def fl6 (ps:List (Tm × Value)):List Value:=ps.flatMap (fun p=>cells6 p.1 p.2)
theorem fl6_get {ps:List (Tm × Value)} {i j:Nat} {p:Tm × Value} (hi:ps[i]?=some p) (hj:j<6):(fl6 ps)[i * 6+j]?=(cells6 p.1 p.2)[j]?:=by
 induction ps generalizing i with
 | nil=>simp at hi
 | cons q ps ih=>
  have e:fl6 (q :: ps)=cells6 q.1 q.2 ++ fl6 ps:=by simp [fl6]
  have hl:(cells6 q.1 q.2).length=6:=rfl
  rw [e]
  cases i with
  | zero=>cases hi;rw [List.getElem?_append_left (by omega)];simp
  | succ i=>
   rw [List.getElem?_append_right (by omega),show (i+1) * 6+j - (cells6 q.1 q.2).length=i * 6+j by omega]
   exact ih (by simpa using hi)
end Ht
namespace Go.Proofs.YtjpnmmjgdiiahaaGreatDoor
section
open Go.RowKit Hb Ht
section
end
end
section
open Go.RowKit Hb Ht
attribute [local go_sem] Oper.semAt_some
def RowP (w:World) (P:Nat→Prop) (A:Option Addr) (n:Nat) (ps:List (Tm × Value)):Prop:=ps.length=n∧(∀ p∈ps,TAtP w P p.1 p.2)∧(0<n→∃ g o,A=some ⟨g,o,none⟩∧g<w.heap.size∧∀ j u,(fl6 ps)[j]?=some u→w.cell? ⟨g,o+j,none⟩=some u)
end
section
open Go.RowKit Hb Ht
attribute [local go_sem] Oper.semAt_some
theorem okF_cmp {s:List UInt8} {ts:List Tm} (h:s.length≤maxLen):okF (cmpT s ts):=⟨h,by simp [cmpT,Tm.m],by simp [cmpT,Tm.b],by simp [cmpT,Tm.v],by simp [cmpT,Tm.k]⟩
theorem okF_atom {s:List UInt8} (h:s.length≤maxLen):okF (atomT s):=⟨h,by simp [atomT,Tm.m],by simp [atomT,Tm.b],by simp [atomT,Tm.v],by simp [atomT,Tm.k]⟩
theorem RowP.block {w:World} {P:Nat→Prop} {g:Nat} {ps:List (Tm × Value)} (hg:w.heap[g]?=some (.cells (fl6 ps).toArray 25 (0,0))) (hk:∀ p∈ps,TAtP w P p.1 p.2):RowP w P (some ⟨g,0,none⟩) ps.length ps:=
 ⟨rfl,hk,fun _=>⟨g,0,rfl,(Array.getElem?_eq_some_iff.1 hg).1,fun j u hj=>by rw [Nat.zero_add,cell_of_row w g j _ _ (0,0) hg];simpa using hj⟩⟩
theorem RowP.term {w:World} {P:Nat→Prop} {A:Option Addr} {n c:Nat} {ps:List (Tm × Value)} (h:RowP w P A n ps) (hA:∀ g o,0<n→A=some ⟨g,o,none⟩→P g) {t:Tm} (ht:t.as=ps.map (·.1)) (hc:n≤c) (hc2:c≤maxLen) (hn:n≤maxArgs) (ho:okF t):TAtP w P t (.slice A n c):=by
 have hl2:t.as.length=n:=by rw [ht,List.length_map,h.1]
 rw [TAtP.iff,hl2]
 refine ⟨A,c,rfl,hc,hc2,hn,ho,fun hne=>?_⟩
 have hn0:0<n:=by rw [←hl2];exact List.length_pos_iff.2 hne
 obtain ⟨g,o,e,hg,hcl⟩:=h.2.2 hn0
 refine ⟨g,o,e,hA g o hn0 e,fun i a ha=>?_⟩
 rw [ht,List.getElem?_map] at ha
 cases hp:ps[i]? with
 | none=>rw [hp] at ha;cases ha
 | some p=>
  rw [hp] at ha
  cases ha
  refine ⟨p.2,fun j hj=>?_,h.2.1 p (List.mem_of_getElem? hp)⟩
  have hc:=fl6_get hp hj
  have hlt:j<(cells6 p.1 p.2).length:=hj
  rw [List.getElem?_eq_getElem hlt] at hc ⊢
  rw [Nat.add_assoc]
  exact hcl _ _ hc
end
section
open Go.RowKit Hb
end
section
open Go.RowKit Hb
end
section
open Go.ChangeShapes Go.WideShapes Go.ChangeAt Go.RowKit Go.Joins Hb
section
end
end
section
open Go.RowKit Hb
section
end
section
end
end
section
open Go.RowKit Hb
section
end
end
section
open Go.RowKit Hb
section
end
end
section
open Go.RowKit Hb
end
section
open Go.RowKit Hb
end
section
open Go.RowKit Hb
section
end
end
end Go.Proofs.YtjpnmmjgdiiahaaGreatDoor
namespace Hb
open Ieee
def rv (r:Nat):Nat:=if r<2 ^ 52 then r else (2 ^ 52+r % 2 ^ 52) * 2 ^ (r / 2 ^ 52 - 1)
theorem rv_lt {r s:Nat} (h:r<s):rv r<rv s:=by
 unfold rv
 by_cases hr:r<2 ^ 52
 ·rw [if_pos hr]
  by_cases hs:s<2 ^ 52
  ·rw [if_pos hs];exact h
  ·rw [if_neg hs]
   have h1:1≤2 ^ (s / 2 ^ 52 - 1):=Nat.one_le_two_pow
   have h2:(2 ^ 52+s % 2 ^ 52) * 1≤(2 ^ 52+s % 2 ^ 52) * 2 ^ (s / 2 ^ 52 - 1):=Nat.mul_le_mul_left _ h1
   omega
 ·have hs:¬s<2 ^ 52:=by omega
  rw [if_neg hr,if_neg hs]
  have hq:r / 2 ^ 52≤s / 2 ^ 52:=Nat.div_le_div_right (Nat.le_of_lt h)
  rcases Nat.eq_or_lt_of_le hq with e | hlt
  ·rw [e]
   refine Nat.mul_lt_mul_of_pos_right ?_ (Nat.two_pow_pos _)
   have h1:=Nat.div_add_mod r (2 ^ 52)
   have h2:=Nat.div_add_mod s (2 ^ 52)
   rw [e] at h1
   omega
  ·have h1:r % 2 ^ 52<2 ^ 52:=Nat.mod_lt _ (by decide)
   have hr1:1≤r / 2 ^ 52:=(Nat.le_div_iff_mul_le (by decide)).2 (by omega)
   generalize r / 2 ^ 52=a at *
   generalize s / 2 ^ 52=b at *
   have h2:2 * 2 ^ (a - 1)≤2 ^ (b - 1):=by
    rw [Nat.mul_comm,←Nat.pow_succ]
    exact Nat.pow_le_pow_right (by decide) (by omega)
   have h3:(2 ^ 52+r % 2 ^ 52) * 2 ^ (a - 1)<(2 ^ 52 * 2) * 2 ^ (a - 1):=Nat.mul_lt_mul_of_pos_right (by omega) (Nat.two_pow_pos _)
   have h4:2 ^ 52 * (2 * 2 ^ (a - 1))≤2 ^ 52 * 2 ^ (b - 1):=Nat.mul_le_mul_left _ h2
   have h5:2 ^ 52 * 2 ^ (b - 1)≤(2 ^ 52+s % 2 ^ 52) * 2 ^ (b - 1):=Nat.mul_le_mul_right _ (by omega)
   rw [Nat.mul_assoc] at h3
   omega
theorem rv_inj {r s:Nat} : (rv r<rv s↔r<s):=by
 constructor
 ·intro h
  rcases Nat.lt_trichotomy r s with h1 | h1 | h1
  ·exact h1
  ·subst h1;omega
  ·have:=rv_lt h1;omega
 ·exact rv_lt
theorem read_pos {r:Nat} (h:r<9218868437227405312):∃ m p,double.read r = .number false m p∧(-1074:Int)≤p∧m * 2 ^ (p+1074).toNat=rv r:=by
 have h1:double.signWeight=9223372036854775808:=rfl
 have h2:double.binade=4503599627370496:=rfl
 have h3:double.infRung=9218868437227405312:=rfl
 have h4:double.leastPlace = -1074:=rfl
 have e1:r / 9223372036854775808 % 2=0:=by omega
 have e2:r % 9223372036854775808=r:=by omega
 unfold Format.read
 simp only [h1,h2,h3,h4,e1,e2]
 unfold rv
 by_cases hr:r<4503599627370496
 ·rw [if_pos hr,if_pos (show r<2 ^ 52 from hr)]
  exact ⟨r,-1074,rfl,Int.le_refl _,by simp⟩
 ·rw [if_neg hr,if_pos h,if_neg (show ¬r<2 ^ 52 from hr)]
  refine ⟨_,_,rfl,by omega,?_⟩
  have e3:(-1074+((r / 4503599627370496 - 1:Nat):Int)+1074).toNat=r / 4503599627370496 - 1:=by omega
  rw [e3]
theorem signed_pos (m u:Nat):signed false m u=((m * 2 ^ u:Nat):Int):=by
 rw [signed,if_neg (by simp),Nat.shiftLeft_eq]
theorem order_pos {x y:Nat} (hx:x<9218868437227405312) (hy:y<9218868437227405312):double.order x y=some (compare x y):=by
 obtain ⟨m,p,e1,hp,hm⟩:=read_pos hx
 obtain ⟨n,q,e2,hq,hn⟩:=read_pos hy
 unfold Format.order
 rw [e1,e2]
 show some (compare (signed false m (p - min p q).toNat) (signed false n (q - min p q).toNat))=_
 congr 1
 rw [signed_pos,signed_pos]
 obtain ⟨b,hb⟩:∃ b:Nat,(min p q+1074)=(b:Int):=⟨(min p q+1074).toNat,by omega⟩
 have k1:m * 2 ^ (p - min p q).toNat * 2 ^ b=rv x:=by
  rw [←hm,Nat.mul_assoc,←Nat.pow_add]
  congr 2
  omega
 have k2:n * 2 ^ (q - min p q).toNat * 2 ^ b=rv y:=by
  rw [←hn,Nat.mul_assoc,←Nat.pow_add]
  congr 2
  omega
 generalize m * 2 ^ (p - min p q).toNat=M at *
 generalize n * 2 ^ (q - min p q).toNat=N at *
 have hpos:=Nat.two_pow_pos b
 have hlt:(M<N↔x<y):=by
  rw [←rv_inj (r:=x) (s:=y),←k1,←k2]
  constructor
  ·intro h;exact Nat.mul_lt_mul_of_pos_right h hpos
  ·intro h;exact Nat.lt_of_mul_lt_mul_right h
 have hgt:(N<M↔y<x):=by
  rw [←rv_inj (r:=y) (s:=x),←k1,←k2]
  constructor
  ·intro h;exact Nat.mul_lt_mul_of_pos_right h hpos
  ·intro h;exact Nat.lt_of_mul_lt_mul_right h
 rcases Nat.lt_trichotomy x y with h | h | h
 ·rw [Nat.compare_eq_lt.2 h]
  have:=hlt.2 h
  exact Int.compare_eq_lt.2 (by omega)
 ·have h1:M=N:=by
   rcases Nat.lt_trichotomy M N with h2 | h2 | h2
   ·have:=hlt.1 h2;omega
   ·exact h2
   ·have:=hgt.1 h2;omega
  rw [Nat.compare_eq_eq.2 h]
  exact Int.compare_eq_eq.2 (by omega)
 ·rw [Nat.compare_eq_gt.2 h]
  have:=hgt.2 h
  exact Int.compare_eq_gt.2 (by omega)
theorem order_lt {x y:Nat} (hy:y<9218868437227405312) (h:x<y):double.order x y=some .lt:=by
 rw [order_pos (by omega) hy,Nat.compare_eq_lt.2 h]
theorem order_self {x:Nat} (hx:x<9218868437227405312):double.order x x=some .eq:=by
 rw [order_pos hx hx,Nat.compare_eq_eq.2 rfl]
end Hb
namespace Hb
end Hb
namespace Go.Proofs.YtjpnmmjgdiiahaaGreatDoor
section
open Hb
end
end Go.Proofs.YtjpnmmjgdiiahaaGreatDoor
namespace Hb
end Hb
namespace Go.Proofs.YtjpnmmjgdiiahaaGreatDoor
section
open Hb
end
section
open Go.RowKit Hb
theorem ofInt64 {a:Nat} (ha:a<18446744073709551616):(BitVec.ofInt 64 (a:Int)).toNat=a:=by
 rw [BitVec.toNat_ofInt]
 omega
theorem u64_wrap {p:Nat} (h:p<18446744073709551616):IntKind.u64.wrap (p:Int)=(p:Int):=IntWalk.u64_in _ (by omega)
theorem bits_andNot_u64 (a b:Nat) (ha:a<18446744073709551616) (hb:b<18446744073709551616):bits .andNot .u64 (a:Int) (b:Int)=((a &&& (18446744073709551615 - b):Nat):Int):=by
 unfold bits
 show IntKind.u64.wrap ((BitVec.ofInt 64 (a:Int) &&& ~~~ BitVec.ofInt 64 (b:Int)).toNat:Int)=_
 rw [BitVec.toNat_and,BitVec.toNat_not,ofInt64 ha,ofInt64 hb,u64_wrap (Nat.lt_of_le_of_lt Nat.and_le_left ha)]
theorem run_bits (F:Nat) (w:World):(callFunc 66 #[.float .f64 F]).run Tryz.prog w = .ok (.value (.int .u64 (F:Int))) w:=by kernel_rfl
theorem run_frombits (F:Nat) (w:World):(callFunc 63 #[.int .u64 (F:Int)]).run Tryz.prog w = .ok (.value (.float .f64 F)) w:=by kernel_rfl
theorem order_inf (F:Nat) (hF:F≤9218868437227405312):(FloatKind.f64.format.order F 9218868437227405311==some .gt)=decide (F=9218868437227405312):=by
 by_cases h:F=9218868437227405312
 ·subst h;decide +kernel
 ·rw [decide_eq_false h]
  have h1:F<9218868437227405312:=by omega
  rcases Nat.lt_or_ge F 9218868437227405311 with h2 | h2
  ·rw [show FloatKind.f64.format.order F 9218868437227405311=some .lt from order_lt (by decide) h2];rfl
  ·obtain rfl:F=9218868437227405311:=by omega
   rw [show FloatKind.f64.format.order 9218868437227405311 9218868437227405311=some .eq from order_self h1];rfl
end
section
open Go.RowKit Hb
end
section
open Go.RowKit Hb
end
section
open Go.RowKit Hb
section
end
end
section
open Go.RowKit Hb Ht
attribute [local go_sem] Oper.semAt_some
def canonB (l:List UInt8):Bool:=decide (pCode l 10=0) && decide ((txtZ (pVal l 10) 10).map UInt8.ofNat=l)
theorem digs_W_le {n:Nat} {k:Nat} (h:blen n≤k):(digs W n).length≤k:=
 digs_length_le (by decide) (Nat.lt_of_lt_of_le (blen_le_iff.1 h) (Nat.pow_le_pow_left (by decide) k))
theorem code_ok {l:List UInt8} (h:pCode l 10=0):tooLong (pVal l 10)=false:=by
 unfold pCode at h
 rw [if_neg (by decide)] at h
 split at h
 ·cases h
 ·unfold err at h
  cases hb:tooLong (pVal l 10) with
  | false=>rfl
  | true=>rw [hb] at h;cases h
theorem short_blen {z:Int} (h:tooLong z=false):blen z.natAbs≤4096:=by
 unfold tooLong at h
 have:=of_decide_eq_false h
 omega
theorem ival_own (z:Int):ival (decide (z<0)) (digs W z.natAbs)=z:=by
 unfold ival
 rw [nv_digs (by decide)]
 by_cases h:z<0
 ·rw [decide_eq_true h,if_pos rfl];omega
 ·rw [decide_eq_false h,if_neg (by simp)];omega
theorem Text_z2 {w:World} {A:Option Addr} {n c:Nat} {l:List Nat} {neg:Bool} {z:Int} {s:ByteArray} (hs:SlU w w.heap.size A n c l) (hn:n≤35184372088832) (hx:ival neg l=z) (t1:tooLong z=false) (hq:strN (txtZ z 10)=s) :
  Calls Tryz.prog 22 #[.agg #[.bool neg,.slice A n c],.int .i64 10] w (TextQ w s):=by
 have h:=Text_any neg hs hn (Nat.le_refl _) 10
 rw [lng_ival hx,t1,tList,tCode,if_neg (by simp),if_neg (by omega),if_neg (by simp),if_neg (by omega),show (10:Int).toNat=10 from rfl,txtZ_eq hx] at h
 rw [←hq]
 exact h
set_option maxRecDepth 100000 in
set_option maxHeartbeats 2000000 in
theorem integer_any (s:ByteArray) (w:World) (hs:s.size≤maxLen) :
  Calls Tryz.prog 203 #[.string s] w fun e w'=>e = .returned (.bool (canonB s.data.toList))∧Below w.heap.size w w':=by
 have HP:=Lib.hid (Parse_any s 10 w hs)
 obtain ⟨co,hco⟩:∃ co,pCode s.data.toList 10=co:=⟨_,rfl⟩
 obtain ⟨z,hz⟩:∃ z,pVal s.data.toList 10=z:=⟨_,rfl⟩
 obtain ⟨st,hst⟩:∃ st,strN (txtZ z 10)=st:=⟨_,rfl⟩
 have hC:canonB s.data.toList=(decide (co=0) && decide (st.data.toList=s.data.toList)):=by unfold canonB;rw [hco,hz,←hst];rfl
 rw [hC]
 obtain ⟨R,hR⟩:∃ R,(decide (co=0) && decide (st.data.toList=s.data.toList))=R:=⟨_,rfl⟩
 rw [hR]
 have HR:=Lib.hid hR
 have HSt:=Lib.hid hst
 rw [hco,hz] at HP
 have HT:=Lib.hid (fun h:co=0=>show tooLong z=false by rw [←hz];exact code_ok (hco.trans h))
 clear hC hco hz hR hst
 go_enter Tryz.func203,Tryz.ntmps203
 go_wp2_with fail
 (with_reducible refine HP.out.mono ?_)
 rintro e w1 ⟨v,rfl,hv0,hv1,hb1⟩
 by_cases h0:co=0
 ·subst h0
  obtain ⟨A,c,rfl,ho⟩:=hv0 rfl
  have ht:=HT.out rfl
  have hbl:=short_blen ht
  have hdl:=digs_W_le hbl
  obtain ⟨n,hn⟩:∃ n,(digs W z.natAbs).length=n:=⟨_,rfl⟩
  rw [hn] at ho hdl
  have hsl:SlU w1 w1.heap.size A n c (digs W z.natAbs):=ho.sl (dig_digs (by decide) _) hn
  have HX:=Lib.hid (Text_z2 (w:=w1.alloc (.cells #[.bool (decide (z<0)),.slice A n c] 39)) ((hsl.below (C:=w1.heap.size) ((Below.refl _ _).alloc (Nat.le_refl _) _) (Nat.le_refl _)).mono (by simp)) (by omega) (ival_own z) ht HSt.out)
  have HB:=Lib.hid (show Below w.heap.size w (w1.alloc (.cells #[.bool (decide (z<0)),.slice A n c] 39)) from hb1.alloc hb1.size _)
  rw [hn]
  clear hv0 hv1 hb1 ho ht hbl hdl hsl hn
  go_wp2_with fail
  (with_reducible refine HX.out.mono ?_)
  rintro e w3 ⟨rfl,hb3⟩
  have HB3:=Lib.hid (HB.out.trans (hb3.mono HB.out.size))
  clear hb3
  by_cases he:st.data.toList=s.data.toList
  ·have s1:(st.toList==s.toList)=true:=by rw [ByteArray.toList_eq,ByteArray.toList_eq,he];simp
   have HE:=Lib.hid (show true=R by rw [←HR.out,decide_eq_true he];rfl)
   clear he
   go_wp2
   go_ret
   exact ⟨by rw [←HE.out];rfl,HB3.out⟩
  ·have s1:(st.toList==s.toList)=false:=by rw [ByteArray.toList_eq,ByteArray.toList_eq];exact beq_eq_false_iff_ne.2 he
   have HE:=Lib.hid (show false=R by rw [←HR.out,decide_eq_false he];simp)
   clear he
   go_wp2
   go_ret
   exact ⟨by rw [←HE.out];rfl,HB3.out⟩
 ·have hv:=hv1 h0
  subst hv
  have h0b:(co != 0)=true:=by simpa using h0
  have HE:=Lib.hid (show false=R by rw [←HR.out,decide_eq_false h0];simp)
  have HB:=Lib.hid hb1
  clear hv0 hv1 h0 hb1
  go_wp2
  go_ret
  exact ⟨by rw [←HE.out];rfl,HB.out.alloc HB.out.size _⟩
end
end Go.Proofs.YtjpnmmjgdiiahaaGreatDoor
namespace Hb
open Ieee
theorem order_refl (F:Nat):double.order F F=if F % 9223372036854775808≤9218868437227405312 then some .eq else none:=by
 have h0:double.signWeight=9223372036854775808:=rfl
 have h1:double.binade=4503599627370496:=rfl
 have h2:double.infRung=9218868437227405312:=rfl
 unfold Format.order Format.read
 simp only [h0,h1,h2]
 by_cases a:F % 9223372036854775808<4503599627370496
 ·rw [if_pos a,if_pos (by omega)]
  unfold Datum.order
  simp only
  rw [Int.compare_eq_eq.2 rfl]
 ·rw [if_neg a]
  by_cases b:F % 9223372036854775808<9218868437227405312
  ·rw [if_pos b,if_pos (by omega)]
   unfold Datum.order
   simp only
   rw [Int.compare_eq_eq.2 rfl]
  ·rw [if_neg b]
   by_cases c:F % 9223372036854775808=9218868437227405312
   ·rw [if_pos c,if_pos (by omega)]
    unfold Datum.order
    simp only
    rw [Nat.compare_eq_eq.2 rfl]
   ·rw [if_neg c,if_neg (by omega)]
    rfl
theorem clear_any (F:Nat):F &&& (18446744073709551615 - 9223372036854775808)=F % 9223372036854775808:=Nat.and_two_pow_sub_one_eq_mod F 63
end Hb
namespace Go.Proofs.YtjpnmmjgdiiahaaGreatDoor
section
open Go.RowKit Hb Ht
attribute [local go_sem] Oper.semAt_some
def floN (F:Nat):Bool:=decide (F % 9223372036854775808<9218868437227405312) && decide (F≠9223372036854775808)
def floB (b:Int):Bool:=floN b.toNat
theorem clear_bits {F G:Nat} (hF:F<18446744073709551616) (hG:F % 9223372036854775808=G):bits .andNot .u64 (F:Int) 9223372036854775808=(G:Int):=by
 have h1:=bits_andNot_u64 F 9223372036854775808 hF (by decide)
 rw [show ((9223372036854775808:Nat):Int)=9223372036854775808 from rfl] at h1
 rw [h1,clear_any F,hG]
set_option maxRecDepth 100000 in
theorem AbsF_any (F G:Nat) (hF:F<18446744073709551616) (hG:F % 9223372036854775808=G) (w:World) :
  Calls Tryz.prog 86 #[.float .f64 F] w fun e w'=>e = .returned (.float .f64 G)∧w=w':=by
 have hb:=run_bits F
 have hb2:=run_frombits G
 have hb3:=clear_bits hF hG
 clear hG hF
 go_enter Tryz.func86,Tryz.ntmps86
 go_wp2
 go_ret
 exact ⟨rfl,rfl⟩
set_option maxRecDepth 100000 in
theorem Inf0_any (F G:Nat) (hF:F<18446744073709551616) (hG:F % 9223372036854775808=G) (hG2:G≤9218868437227405312) (w:World) :
  Calls Tryz.prog 165 #[.float .f64 F,.int .i64 0] w fun e w'=>e = .returned (.bool (decide (G=9218868437227405312)))∧w=w':=by
 obtain ⟨b,hb⟩:∃ b,decide (G=9218868437227405312)=b:=⟨_,rfl⟩
 have ho:=order_inf G hG2
 rw [hb] at ho ⊢
 have HA:=Lib.hid (AbsF_any F G hF hG)
 clear hb hG
 go_enter Tryz.func165,Tryz.ntmps165
 go_wp2_with fail
 refine (HA.out _).mono ?_
 rintro ex w5 ⟨rfl,rfl⟩
 go_wp2
 go_ret
 exact ⟨rfl,rfl⟩
set_option maxRecDepth 100000 in
theorem NaN_any (F:Nat) (w:World) :
  Calls Tryz.prog 166 #[.float .f64 F] w fun e w'=>e = .returned (.bool (decide (9218868437227405312<F % 9223372036854775808)))∧w=w':=by
 by_cases h:9218868437227405312<F % 9223372036854775808
 ·rw [decide_eq_true h]
  have ho:FloatKind.f64.format.order F F=none:=by rw [show FloatKind.f64.format.order F F=_ from order_refl F,if_neg (by omega)]
  clear h
  go_enter Tryz.func166,Tryz.ntmps166
  go_wp2
  go_ret
  exact ⟨rfl,rfl⟩
 ·rw [decide_eq_false h]
  have ho:FloatKind.f64.format.order F F=some .eq:=by rw [show FloatKind.f64.format.order F F=_ from order_refl F,if_pos (by omega)]
  clear h
  go_enter Tryz.func166,Tryz.ntmps166
  go_wp2
  go_ret
  exact ⟨rfl,rfl⟩
end
section
open Go.RowKit Hb Ht
attribute [local go_sem] Oper.semAt_some
set_option maxRecDepth 100000 in
set_option maxHeartbeats 4000000 in
theorem blank_any {k b v:Int} {n m:List UInt8} {ts:List Tm} {nb mb:ByteArray} {A:Option Addr} {L c:Nat} (hk:1≤k∧k≤5) (hnb:(⟨n.toArray⟩:ByteArray)=nb) (hmb:(⟨m.toArray⟩:ByteArray)=mb) (hL:ts.length=L) (w:World) :
  Calls Tryz.prog 201 #[.agg #[.int .i64 k,.string nb,.string mb,.int .u64 b,.int .i64 v,.slice A L c]] w fun e w'=>e = .returned (.bool (!stray (.mk k n m b v ts)))∧Below w.heap.size w w':=by
 have h5:k=1∨k=2∨k=3∨k=4∨k=5:=by omega
 obtain ⟨R,hR⟩:∃ R,(!stray (.mk k n m b v ts))=R:=⟨_,rfl⟩
 rw [hR]
 have hn:nb.toList=n:=by rw [ByteArray.toList_eq,←hnb]
 have hm:mb.toList=m:=by rw [ByteArray.toList_eq,←hmb]
 unfold stray at hR
 simp only [Tm.k,Tm.n,Tm.m,Tm.b,Tm.v,Tm.as,hL,←hn,←hm] at hR
 have HR:=Lib.hid hR
 clear hR hn hm hnb hmb hL hk
 rcases h5 with rfl | rfl | rfl | rfl | rfl
 ·go_enter Tryz.func201,Tryz.ntmps201
  go_wp2
  all_goals
   go_ret
   have hR:=HR.out
   refine ⟨?_,(Below.refl _ _).alloc (Nat.le_refl _) _⟩
   simp_all
   try (subst hR;by_cases h0:L=0 <;> simp [h0])
 ·go_enter Tryz.func201,Tryz.ntmps201
  go_wp2
  all_goals
   go_ret
   have hR:=HR.out
   refine ⟨?_,(Below.refl _ _).alloc (Nat.le_refl _) _⟩
   simp_all
   try (subst hR;by_cases h0:L=0 <;> simp [h0])
 ·go_enter Tryz.func201,Tryz.ntmps201
  go_wp2
  all_goals
   go_ret
   have hR:=HR.out
   refine ⟨?_,(Below.refl _ _).alloc (Nat.le_refl _) _⟩
   simp_all
   try (subst hR;by_cases h0:L=0 <;> simp [h0])
 ·go_enter Tryz.func201,Tryz.ntmps201
  go_wp2
  all_goals
   go_ret
   have hR:=HR.out
   refine ⟨?_,(Below.refl _ _).alloc (Nat.le_refl _) _⟩
   simp_all
   try (subst hR;by_cases h0:L=0 <;> simp [h0])
 ·go_enter Tryz.func201,Tryz.ntmps201
  go_wp2
  all_goals
   go_ret
   have hR:=HR.out
   refine ⟨?_,(Below.refl _ _).alloc (Nat.le_refl _) _⟩
   simp_all
   try (subst hR;by_cases h0:L=0 <;> simp [h0])
end
section
open Go.RowKit Hb Ht
attribute [local go_sem] Oper.semAt_some
def U0 (w0:World):Prop:=∀ w',Below w0.heap.size w0 w'→∀ s:ByteArray,s.size≤maxLen→Calls Tryz.prog 202 #[.string s] w' fun e w''=>e = .returned (.bool (Lib.validD s.data.toList))∧Below w'.heap.size w' w''
structure UOk (w0 w:World):Prop where
 bel:Below w0.heap.size w0 w
 u0:U0 w0
theorem UOk.below {w0 w w':World} (h:UOk w0 w) (hb:Below w.heap.size w w'):UOk w0 w':=⟨h.bel.trans (hb.mono h.bel.size),h.u0⟩
theorem UOk.go {w0 w:World} (h:UOk w0 w) {s:ByteArray} (hs:s.size≤maxLen):Calls Tryz.prog 202 #[.string s] w fun e w''=>e = .returned (.bool (Lib.validD s.data.toList))∧Below w.heap.size w w'':=h.u0 w h.bel s hs
abbrev oneP (t:Tm):Int:=one Lib.validD canonB floB t
abbrev errsP (t:Tm):Int:=errs Lib.validD canonB floB t
abbrev checkP (t:Tm):Int:=check Lib.validD canonB floB t
set_option maxRecDepth 100000 in
set_option maxHeartbeats 8000000 in
theorem node_any {w0 w:World} {t:Tm} {sl:Value} (h:TAt w w.heap.size t sl) (hU:UOk w0 w):Calls Tryz.prog 157 #[valT t sl] w fun e w'=>e = .returned (.int .i64 (oneP t))∧Below w.heap.size w w':=by
 obtain ⟨k,nl,ml,b,v,ts,nb,mb,A,c,rfl,rfl,hnb,hmb,hl1,hl2,hl3,hv,hs1,hs2⟩:=h.letters
 have hok:=h.ok
 obtain ⟨L,hL⟩:∃ L,ts.length=L:=⟨_,rfl⟩
 rw [hv]
 rw [hL] at h hl1 hl3 ⊢
 obtain ⟨W1,hW1⟩:∃ W1,w.alloc (.cells #[.int .i64 k,.string nb,.string mb,.int .u64 b,.int .i64 v,.slice A L c] 25)=W1:=⟨_,rfl⟩
 have hb1:Below w.heap.size w W1:=by rw [←hW1];exact (Below.refl _ _).alloc (Nat.le_refl _) _
 have hX:TBox W1 w.heap.size (.mk k nl ml b v ts) (.slice A L c):=by rw [←hW1];exact TBox.new w hnb hmb
 obtain ⟨x0,x1,x2,x3,x4,x5⟩:=hX.cells hnb hmb
 obtain ⟨S,hS⟩:∃ S,stray (.mk k nl ml b v ts)=S:=⟨_,rfl⟩
 obtain ⟨U,hUu⟩:∃ U,Lib.validD nl=U:=⟨_,rfl⟩
 obtain ⟨C,hC⟩:∃ C,canonB ml=C:=⟨_,rfl⟩
 obtain ⟨F,hF⟩:∃ F,floB b=F:=⟨_,rfl⟩
 obtain ⟨N,hN⟩:∃ N,nl.length=N:=⟨_,rfl⟩
 obtain ⟨R,hR⟩:∃ R,oneP (.mk k nl ml b v ts)=R:=⟨_,rfl⟩
 rw [hR]
 have hsz:nb.size=N:=by rw [←hN,←hnb];exact List.size_toArray
 have HR:=Lib.hid (show (if k<1∨5<k∨S=true∨v<0∨(k=5∧(L=0∨64<L)) then (20:Int) else if U=false∨1000<N then 21 else if k=3∧C=false then 22 else if k=4∧F=false then 23 else 0)=R from by
  rw [←hR,←hS,←hUu,←hC,←hF,←hN,←hL]
  rfl)
 have HBk:=Lib.hid (fun hk:1≤k∧k≤5=>show Calls Tryz.prog 201 #[.agg #[.int .i64 k,.string nb,.string mb,.int .u64 b,.int .i64 v,.slice A L c]] W1 (fun e w'=>e = .returned (.bool (!S))∧Below W1.heap.size W1 w') from by
  rw [←hS];exact blank_any hk hnb hmb hL W1)
 have HUv:=Lib.hid (fun (w':World) (hb:Below W1.heap.size W1 w')=>show Calls Tryz.prog 202 #[.string nb] w' (fun e w''=>e = .returned (.bool U)∧Below w'.heap.size w' w'') from by
  have h9:=((hU.below hb1).below hb).go hs1
  rw [←hUu]
  have e:nb.data.toList=nl:=by rw [←hnb]
  rw [e] at h9
  exact h9)
 have HIn:=Lib.hid (fun (w':World)=>show Calls Tryz.prog 203 #[.string mb] w' (fun e w''=>e = .returned (.bool C)∧Below w'.heap.size w' w'') from by
  have h9:=integer_any mb w' hs2
  rw [←hC]
  have e:mb.data.toList=ml:=by rw [←hmb]
  rw [e] at h9
  exact h9)
 have HX:=Lib.hid (And.intro hb1 hX)
 have HM:=Lib.hid (And.intro hnb hmb)
 have HOk:=Lib.hid hok
 have HFf:=Lib.hid hF
 have hNI:(N:Int)≤9223372036854775807:=by rw [←hsz];unfold maxLen at hs1;omega
 have hLI:(L:Int)≤1759218604400:=by unfold maxArgs at hl3;omega
 subst hW1
 clear h hU hv hok hb1 hX hS hUu hC hF hN hR hnb hmb hL
 by_cases hk1:k<1
 ·have HE:=Lib.hid (show (20:Int)=R by rw [←HR.out,if_pos (.inl hk1)])
  go_enter Tryz.func157,Tryz.ntmps157
  go_wp2
  go_ret
  exact ⟨by rw [←HE.out];rfl,HX.out.1⟩
 by_cases hk5:5<k
 ·have HE:=Lib.hid (show (20:Int)=R by rw [←HR.out,if_pos (.inr (.inl hk5))])
  go_enter Tryz.func157,Tryz.ntmps157
  go_wp2
  go_ret
  exact ⟨by rw [←HE.out];rfl,HX.out.1⟩
 have HK:=Lib.hid (show 1≤k∧k≤5 from ⟨by omega,by omega⟩)
 cases S
 ·by_cases hv0:v<0
  ·have HE:=Lib.hid (show (20:Int)=R by rw [←HR.out];rw [if_pos (.inr (.inr (.inr (.inl hv0))))])
   go_enter Tryz.func157,Tryz.ntmps157
   go_wp2_with (go_at_call 201;(with_reducible refine (HBk.out HK.out).mono ?_);rintro e w2 ⟨rfl,hb2⟩;obtain ⟨y0,y1,y2,y3,y4,y5⟩:=(HX.out.2.below hb2).cells HM.out.1 HM.out.2;have HX2:=Lib.hid (And.intro (HX.out.1.trans (hb2.mono HX.out.1.size)) (And.intro hb2 (HX.out.2.below hb2)));clear hb2)
   go_ret
   exact ⟨by rw [←HE.out];rfl,HX2.out.1⟩
  by_cases h5:k=5
  ·subst h5
   by_cases hL0:L=0
   ·subst hL0
    have HE:=Lib.hid (show (20:Int)=R by rw [←HR.out];rw [if_pos (.inr (.inr (.inr (.inr ⟨rfl,.inl rfl⟩))))])
    go_enter Tryz.func157,Tryz.ntmps157
    go_wp2_with (go_at_call 201;(with_reducible refine (HBk.out HK.out).mono ?_);rintro e w2 ⟨rfl,hb2⟩;obtain ⟨y0,y1,y2,y3,y4,y5⟩:=(HX.out.2.below hb2).cells HM.out.1 HM.out.2;have HX2:=Lib.hid (And.intro (HX.out.1.trans (hb2.mono HX.out.1.size)) (And.intro hb2 (HX.out.2.below hb2)));clear hb2)
    go_ret
    exact ⟨by rw [←HE.out];rfl,HX2.out.1⟩
   have hL0I:((L:Int)==0)=false:=beq_eq_false_iff_ne.2 (by omega)
   by_cases h64:64<L
   ·have h64I:(64:Int)<(L:Int):=by omega
    have HE:=Lib.hid (show (20:Int)=R by rw [←HR.out];rw [if_pos (.inr (.inr (.inr (.inr ⟨rfl,.inr h64⟩))))])
    go_enter Tryz.func157,Tryz.ntmps157
    go_wp2_with (go_at_call 201;(with_reducible refine (HBk.out HK.out).mono ?_);rintro e w2 ⟨rfl,hb2⟩;obtain ⟨y0,y1,y2,y3,y4,y5⟩:=(HX.out.2.below hb2).cells HM.out.1 HM.out.2;have HX2:=Lib.hid (And.intro (HX.out.1.trans (hb2.mono HX.out.1.size)) (And.intro hb2 (HX.out.2.below hb2)));clear hb2)
    go_ret
    exact ⟨by rw [←HE.out];rfl,HX2.out.1⟩
   have h64I:¬(64:Int)<(L:Int):=by omega
   have hcnd:¬((5:Int)<1∨(5:Int)<5∨false=true∨v<0∨((5:Int)=5∧(L=0∨64<L))):=by simp;omega
   cases U
   ·have HE:=Lib.hid (show (21:Int)=R by rw [←HR.out];rw [if_neg hcnd,if_pos (.inl rfl)])
    go_enter Tryz.func157,Tryz.ntmps157
    go_wp2_with (first
     | (go_at_call 201;(with_reducible refine (HBk.out HK.out).mono ?_);rintro e w2 ⟨rfl,hb2⟩;obtain ⟨y0,y1,y2,y3,y4,y5⟩:=(HX.out.2.below hb2).cells HM.out.1 HM.out.2;have HX2:=Lib.hid (And.intro (HX.out.1.trans (hb2.mono HX.out.1.size)) (And.intro hb2 (HX.out.2.below hb2)));clear hb2)
     | (go_at_call 202;(with_reducible refine (HUv.out _ HX2.out.2.1).mono ?_);rintro e w3 ⟨rfl,hb3⟩;obtain ⟨z0,z1,z2,z3,z4,z5⟩:=(HX2.out.2.2.below hb3).cells HM.out.1 HM.out.2;have HX3:=Lib.hid (And.intro (HX2.out.1.trans (hb3.mono HX2.out.1.size)) (HX2.out.2.2.below hb3));clear hb3))
    go_ret
    exact ⟨by rw [←HE.out];rfl,HX3.out.1⟩
   ·by_cases h1000:1000<N
    ·have h1I:(1000:Int)<(N:Int):=by omega
     have HE:=Lib.hid (show (21:Int)=R by rw [←HR.out];rw [if_neg hcnd,if_pos (.inr h1000)])
     clear h1000
     go_enter Tryz.func157,Tryz.ntmps157
     go_wp2_with (first
      | (go_at_call 201;(with_reducible refine (HBk.out HK.out).mono ?_);rintro e w2 ⟨rfl,hb2⟩;obtain ⟨y0,y1,y2,y3,y4,y5⟩:=(HX.out.2.below hb2).cells HM.out.1 HM.out.2;have HX2:=Lib.hid (And.intro (HX.out.1.trans (hb2.mono HX.out.1.size)) (And.intro hb2 (HX.out.2.below hb2)));clear hb2)
      | (go_at_call 202;(with_reducible refine (HUv.out _ HX2.out.2.1).mono ?_);rintro e w3 ⟨rfl,hb3⟩;obtain ⟨z0,z1,z2,z3,z4,z5⟩:=(HX2.out.2.2.below hb3).cells HM.out.1 HM.out.2;have HX3:=Lib.hid (And.intro (HX2.out.1.trans (hb3.mono HX2.out.1.size)) (HX2.out.2.2.below hb3));clear hb3))
     go_ret
     exact ⟨by rw [←HE.out];rfl,HX3.out.1⟩
    ·have h1I:¬(1000:Int)<(N:Int):=by omega
     have hU2:¬(true=false∨1000<N):=fun h=>h.elim (fun h=>by cases h) h1000
     have HE:=Lib.hid (show (0:Int)=R by rw [←HR.out];rw [if_neg hcnd,if_neg hU2,if_neg (fun h=>absurd h.1 (by decide)),if_neg (fun h=>absurd h.1 (by decide))])
     clear h1000 hU2
     go_enter Tryz.func157,Tryz.ntmps157
     go_wp2_with (first
      | (go_at_call 201;(with_reducible refine (HBk.out HK.out).mono ?_);rintro e w2 ⟨rfl,hb2⟩;obtain ⟨y0,y1,y2,y3,y4,y5⟩:=(HX.out.2.below hb2).cells HM.out.1 HM.out.2;have HX2:=Lib.hid (And.intro (HX.out.1.trans (hb2.mono HX.out.1.size)) (And.intro hb2 (HX.out.2.below hb2)));clear hb2)
      | (go_at_call 202;(with_reducible refine (HUv.out _ HX2.out.2.1).mono ?_);rintro e w3 ⟨rfl,hb3⟩;obtain ⟨z0,z1,z2,z3,z4,z5⟩:=(HX2.out.2.2.below hb3).cells HM.out.1 HM.out.2;have HX3:=Lib.hid (And.intro (HX2.out.1.trans (hb3.mono HX2.out.1.size)) (HX2.out.2.2.below hb3));clear hb3))
     go_ret
     exact ⟨by rw [←HE.out];rfl,HX3.out.1⟩
  have hk5b:(k==5)=false:=beq_eq_false_iff_ne.2 h5
  have hcnd:¬(k<1∨5<k∨false=true∨v<0∨(k=5∧(L=0∨64<L))):=by simp;omega
  cases U
  ·have HE:=Lib.hid (show (21:Int)=R by rw [←HR.out];rw [if_neg hcnd,if_pos (.inl rfl)])
   go_enter Tryz.func157,Tryz.ntmps157
   go_wp2_with (first
    | (go_at_call 201;(with_reducible refine (HBk.out HK.out).mono ?_);rintro e w2 ⟨rfl,hb2⟩;obtain ⟨y0,y1,y2,y3,y4,y5⟩:=(HX.out.2.below hb2).cells HM.out.1 HM.out.2;have HX2:=Lib.hid (And.intro (HX.out.1.trans (hb2.mono HX.out.1.size)) (And.intro hb2 (HX.out.2.below hb2)));clear hb2)
    | (go_at_call 202;(with_reducible refine (HUv.out _ HX2.out.2.1).mono ?_);rintro e w3 ⟨rfl,hb3⟩;obtain ⟨z0,z1,z2,z3,z4,z5⟩:=(HX2.out.2.2.below hb3).cells HM.out.1 HM.out.2;have HX3:=Lib.hid (And.intro (HX2.out.1.trans (hb3.mono HX2.out.1.size)) (HX2.out.2.2.below hb3));clear hb3))
   go_ret
   exact ⟨by rw [←HE.out];rfl,HX3.out.1⟩
  ·by_cases h1000:1000<N
   ·have h1I:(1000:Int)<(N:Int):=by omega
    have HE:=Lib.hid (show (21:Int)=R by rw [←HR.out];rw [if_neg hcnd,if_pos (.inr h1000)])
    clear h1000
    go_enter Tryz.func157,Tryz.ntmps157
    go_wp2_with (first
     | (go_at_call 201;(with_reducible refine (HBk.out HK.out).mono ?_);rintro e w2 ⟨rfl,hb2⟩;obtain ⟨y0,y1,y2,y3,y4,y5⟩:=(HX.out.2.below hb2).cells HM.out.1 HM.out.2;have HX2:=Lib.hid (And.intro (HX.out.1.trans (hb2.mono HX.out.1.size)) (And.intro hb2 (HX.out.2.below hb2)));clear hb2)
     | (go_at_call 202;(with_reducible refine (HUv.out _ HX2.out.2.1).mono ?_);rintro e w3 ⟨rfl,hb3⟩;obtain ⟨z0,z1,z2,z3,z4,z5⟩:=(HX2.out.2.2.below hb3).cells HM.out.1 HM.out.2;have HX3:=Lib.hid (And.intro (HX2.out.1.trans (hb3.mono HX2.out.1.size)) (HX2.out.2.2.below hb3));clear hb3))
    go_ret
    exact ⟨by rw [←HE.out];rfl,HX3.out.1⟩
   ·have h1I:¬(1000:Int)<(N:Int):=by omega
    have hU2:¬(true=false∨1000<N):=fun h=>h.elim (fun h=>by cases h) h1000
    by_cases h3:k=3
    ·subst h3
     cases C
     ·have HE:=Lib.hid (show (22:Int)=R by rw [←HR.out];rw [if_neg hcnd,if_neg hU2,if_pos ⟨rfl,rfl⟩])
      clear h1000 hU2
      go_enter Tryz.func157,Tryz.ntmps157
      go_wp2_with (first
       | (go_at_call 201;(with_reducible refine (HBk.out HK.out).mono ?_);rintro e w2 ⟨rfl,hb2⟩;obtain ⟨y0,y1,y2,y3,y4,y5⟩:=(HX.out.2.below hb2).cells HM.out.1 HM.out.2;have HX2:=Lib.hid (And.intro (HX.out.1.trans (hb2.mono HX.out.1.size)) (And.intro hb2 (HX.out.2.below hb2)));clear hb2)
       | (go_at_call 202;(with_reducible refine (HUv.out _ HX2.out.2.1).mono ?_);rintro e w3 ⟨rfl,hb3⟩;obtain ⟨z0,z1,z2,z3,z4,z5⟩:=(HX2.out.2.2.below hb3).cells HM.out.1 HM.out.2;have HX3:=Lib.hid (And.intro (HX2.out.1.trans (hb3.mono HX2.out.1.size)) (HX2.out.2.2.below hb3));clear hb3)
       | (go_at_call 203;(with_reducible refine (HIn.out _).mono ?_);rintro e w4 ⟨rfl,hb4⟩;obtain ⟨q0,q1,q2,q3,q4,q5⟩:=(HX3.out.2.below hb4).cells HM.out.1 HM.out.2;have HX4:=Lib.hid (HX3.out.1.trans (hb4.mono HX3.out.1.size));clear hb4))
      go_ret
      exact ⟨by rw [←HE.out];rfl,HX4.out⟩
     ·have HE:=Lib.hid (show (0:Int)=R by rw [←HR.out];rw [if_neg hcnd,if_neg hU2,if_neg (fun h=>by cases h.2),if_neg (fun h=>absurd h.1 (by decide))])
      clear h1000 hU2
      go_enter Tryz.func157,Tryz.ntmps157
      go_wp2_with (first
       | (go_at_call 201;(with_reducible refine (HBk.out HK.out).mono ?_);rintro e w2 ⟨rfl,hb2⟩;obtain ⟨y0,y1,y2,y3,y4,y5⟩:=(HX.out.2.below hb2).cells HM.out.1 HM.out.2;have HX2:=Lib.hid (And.intro (HX.out.1.trans (hb2.mono HX.out.1.size)) (And.intro hb2 (HX.out.2.below hb2)));clear hb2)
       | (go_at_call 202;(with_reducible refine (HUv.out _ HX2.out.2.1).mono ?_);rintro e w3 ⟨rfl,hb3⟩;obtain ⟨z0,z1,z2,z3,z4,z5⟩:=(HX2.out.2.2.below hb3).cells HM.out.1 HM.out.2;have HX3:=Lib.hid (And.intro (HX2.out.1.trans (hb3.mono HX2.out.1.size)) (HX2.out.2.2.below hb3));clear hb3)
       | (go_at_call 203;(with_reducible refine (HIn.out _).mono ?_);rintro e w4 ⟨rfl,hb4⟩;obtain ⟨q0,q1,q2,q3,q4,q5⟩:=(HX3.out.2.below hb4).cells HM.out.1 HM.out.2;have HX4:=Lib.hid (HX3.out.1.trans (hb4.mono HX3.out.1.size));clear hb4))
      go_ret
      exact ⟨by rw [←HE.out];rfl,HX4.out⟩
    by_cases h4:k=4
    ·subst h4
     obtain ⟨B,rfl⟩:=Int.eq_ofNat_of_zero_le HOk.out.2.2.1.1
     have hB:B<18446744073709551616:=by have:=HOk.out.2.2.1.2;simp only [Tm.b] at this;omega
     have hfb:=run_frombits B
     obtain ⟨G,hG⟩:∃ G,B % 9223372036854775808=G:=⟨_,rfl⟩
     have hN0:=NaN_any B
     rw [hG] at hN0
     have hFl:F=(decide (G<9218868437227405312) && decide (B≠9223372036854775808)):=by rw [←HFf.out,←hG];rfl
     by_cases hn:9218868437227405312<G
     ·rw [decide_eq_true hn] at hN0
      have HNa:=Lib.hid hN0
      have hF0:F=false:=by rw [hFl,decide_eq_false (by omega)];rfl
      have HE:=Lib.hid (show (23:Int)=R by rw [←HR.out];rw [if_neg hcnd,if_neg hU2,if_neg (fun h=>absurd h.1 (by decide)),if_pos ⟨rfl,hF0⟩])
      clear h1000 hU2 hN0 hFl hn hG hF0 hB
      go_enter Tryz.func157,Tryz.ntmps157
      go_wp2_with (first
       | (go_at_call 201;(with_reducible refine (HBk.out HK.out).mono ?_);rintro e w2 ⟨rfl,hb2⟩;obtain ⟨y0,y1,y2,y3,y4,y5⟩:=(HX.out.2.below hb2).cells HM.out.1 HM.out.2;have HX2:=Lib.hid (And.intro (HX.out.1.trans (hb2.mono HX.out.1.size)) (And.intro hb2 (HX.out.2.below hb2)));clear hb2)
       | (go_at_call 202;(with_reducible refine (HUv.out _ HX2.out.2.1).mono ?_);rintro e w3 ⟨rfl,hb3⟩;obtain ⟨z0,z1,z2,z3,z4,z5⟩:=(HX2.out.2.2.below hb3).cells HM.out.1 HM.out.2;have HX3:=Lib.hid (And.intro (HX2.out.1.trans (hb3.mono HX2.out.1.size)) (HX2.out.2.2.below hb3));clear hb3)
       | (go_at_call 166;(with_reducible refine (HNa.out _).mono ?_);rintro e w5 ⟨rfl,rfl⟩))
      go_ret
      exact ⟨by rw [←HE.out];rfl,HX3.out.1⟩
     ·rw [decide_eq_false hn] at hN0
      have HNa:=Lib.hid hN0
      have hI0:=Inf0_any B G hB hG (by omega)
      by_cases hi:G=9218868437227405312
      ·rw [decide_eq_true hi] at hI0
       have HIf:=Lib.hid hI0
       have hF0:F=false:=by rw [hFl,decide_eq_false (by omega)];rfl
       have HE:=Lib.hid (show (23:Int)=R by rw [←HR.out];rw [if_neg hcnd,if_neg hU2,if_neg (fun h=>absurd h.1 (by decide)),if_pos ⟨rfl,hF0⟩])
       clear h1000 hU2 hN0 hFl hn hG hF0 hI0 hi hB
       go_enter Tryz.func157,Tryz.ntmps157
       go_wp2_with (first
        | (go_at_call 201;(with_reducible refine (HBk.out HK.out).mono ?_);rintro e w2 ⟨rfl,hb2⟩;obtain ⟨y0,y1,y2,y3,y4,y5⟩:=(HX.out.2.below hb2).cells HM.out.1 HM.out.2;have HX2:=Lib.hid (And.intro (HX.out.1.trans (hb2.mono HX.out.1.size)) (And.intro hb2 (HX.out.2.below hb2)));clear hb2)
        | (go_at_call 202;(with_reducible refine (HUv.out _ HX2.out.2.1).mono ?_);rintro e w3 ⟨rfl,hb3⟩;obtain ⟨z0,z1,z2,z3,z4,z5⟩:=(HX2.out.2.2.below hb3).cells HM.out.1 HM.out.2;have HX3:=Lib.hid (And.intro (HX2.out.1.trans (hb3.mono HX2.out.1.size)) (HX2.out.2.2.below hb3));clear hb3)
        | (go_at_call 166;(with_reducible refine (HNa.out _).mono ?_);rintro e w5 ⟨rfl,rfl⟩)
        | (go_at_call 165;(with_reducible refine (HIf.out _).mono ?_);rintro e w6 ⟨rfl,rfl⟩))
       go_ret
       exact ⟨by rw [←HE.out];rfl,HX3.out.1⟩
      ·rw [decide_eq_false hi] at hI0
       have HIf:=Lib.hid hI0
       by_cases hb63:B=9223372036854775808
       ·have hF0:F=false:=by rw [hFl,hb63];simp
        have hbI:((B:Int)==9223372036854775808)=true:=by rw [hb63];rfl
        have HE:=Lib.hid (show (23:Int)=R by rw [←HR.out];rw [if_neg hcnd,if_neg hU2,if_neg (fun h=>absurd h.1 (by decide)),if_pos ⟨rfl,hF0⟩])
        clear h1000 hU2 hN0 hFl hn hG hF0 hI0 hi hB hb63
        go_enter Tryz.func157,Tryz.ntmps157
        go_wp2_with (first
         | (go_at_call 201;(with_reducible refine (HBk.out HK.out).mono ?_);rintro e w2 ⟨rfl,hb2⟩;obtain ⟨y0,y1,y2,y3,y4,y5⟩:=(HX.out.2.below hb2).cells HM.out.1 HM.out.2;have HX2:=Lib.hid (And.intro (HX.out.1.trans (hb2.mono HX.out.1.size)) (And.intro hb2 (HX.out.2.below hb2)));clear hb2)
         | (go_at_call 202;(with_reducible refine (HUv.out _ HX2.out.2.1).mono ?_);rintro e w3 ⟨rfl,hb3⟩;obtain ⟨z0,z1,z2,z3,z4,z5⟩:=(HX2.out.2.2.below hb3).cells HM.out.1 HM.out.2;have HX3:=Lib.hid (And.intro (HX2.out.1.trans (hb3.mono HX2.out.1.size)) (HX2.out.2.2.below hb3));clear hb3)
         | (go_at_call 166;(with_reducible refine (HNa.out _).mono ?_);rintro e w5 ⟨rfl,rfl⟩)
         | (go_at_call 165;(with_reducible refine (HIf.out _).mono ?_);rintro e w6 ⟨rfl,rfl⟩))
        go_ret
        exact ⟨by rw [←HE.out];rfl,HX3.out.1⟩
       ·have hF0:F=true:=by rw [hFl,decide_eq_true (by omega),decide_eq_true hb63];rfl
        have hbI:((B:Int)==9223372036854775808)=false:=beq_eq_false_iff_ne.2 (by omega)
        have HE:=Lib.hid (show (0:Int)=R by rw [←HR.out];rw [if_neg hcnd,if_neg hU2,if_neg (fun h=>absurd h.1 (by decide)),if_neg (fun h=>by rw [hF0] at h;cases h.2)])
        clear h1000 hU2 hN0 hFl hn hG hF0 hI0 hi hB hb63
        go_enter Tryz.func157,Tryz.ntmps157
        go_wp2_with (first
         | (go_at_call 201;(with_reducible refine (HBk.out HK.out).mono ?_);rintro e w2 ⟨rfl,hb2⟩;obtain ⟨y0,y1,y2,y3,y4,y5⟩:=(HX.out.2.below hb2).cells HM.out.1 HM.out.2;have HX2:=Lib.hid (And.intro (HX.out.1.trans (hb2.mono HX.out.1.size)) (And.intro hb2 (HX.out.2.below hb2)));clear hb2)
         | (go_at_call 202;(with_reducible refine (HUv.out _ HX2.out.2.1).mono ?_);rintro e w3 ⟨rfl,hb3⟩;obtain ⟨z0,z1,z2,z3,z4,z5⟩:=(HX2.out.2.2.below hb3).cells HM.out.1 HM.out.2;have HX3:=Lib.hid (And.intro (HX2.out.1.trans (hb3.mono HX2.out.1.size)) (HX2.out.2.2.below hb3));clear hb3)
         | (go_at_call 166;(with_reducible refine (HNa.out _).mono ?_);rintro e w5 ⟨rfl,rfl⟩)
         | (go_at_call 165;(with_reducible refine (HIf.out _).mono ?_);rintro e w6 ⟨rfl,rfl⟩))
        go_ret
        exact ⟨by rw [←HE.out];rfl,HX3.out.1⟩
    have hk3:(k==3)=false:=beq_eq_false_iff_ne.2 h3
    have hk4:(k==4)=false:=beq_eq_false_iff_ne.2 h4
    have HE:=Lib.hid (show (0:Int)=R by rw [←HR.out];rw [if_neg hcnd,if_neg hU2,if_neg (fun h=>h3 h.1),if_neg (fun h=>h4 h.1)])
    clear h1000 hU2 h3 h4
    go_enter Tryz.func157,Tryz.ntmps157
    go_wp2_with (first
     | (go_at_call 201;(with_reducible refine (HBk.out HK.out).mono ?_);rintro e w2 ⟨rfl,hb2⟩;obtain ⟨y0,y1,y2,y3,y4,y5⟩:=(HX.out.2.below hb2).cells HM.out.1 HM.out.2;have HX2:=Lib.hid (And.intro (HX.out.1.trans (hb2.mono HX.out.1.size)) (And.intro hb2 (HX.out.2.below hb2)));clear hb2)
     | (go_at_call 202;(with_reducible refine (HUv.out _ HX2.out.2.1).mono ?_);rintro e w3 ⟨rfl,hb3⟩;obtain ⟨z0,z1,z2,z3,z4,z5⟩:=(HX2.out.2.2.below hb3).cells HM.out.1 HM.out.2;have HX3:=Lib.hid (And.intro (HX2.out.1.trans (hb3.mono HX2.out.1.size)) (HX2.out.2.2.below hb3));clear hb3))
    go_ret
    exact ⟨by rw [←HE.out];rfl,HX3.out.1⟩
 ·have HE:=Lib.hid (show (20:Int)=R by rw [←HR.out,if_pos (.inr (.inr (.inl rfl)))])
  go_enter Tryz.func157,Tryz.ntmps157
  go_wp2_with (go_at_call 201;(with_reducible refine (HBk.out HK.out).mono ?_);rintro e w' ⟨rfl,hb3⟩;have HB3:=Lib.hid (HX.out.1.trans (hb3.mono HX.out.1.size));clear hb3)
  go_ret
  exact ⟨by rw [←HE.out];rfl,HB3.out⟩
end
section
open Go.RowKit Hb Ht
attribute [local go_sem] Oper.semAt_some
theorem errss_drop {ts:List Tm} {i:Nat} {a:Tm} (ha:ts[i]?=some a) {R:Int} (h:errss Lib.validD canonB floB (ts.drop i)=R):(errsP a≠0→errsP a=R)∧(errsP a=0→errss Lib.validD canonB floB (ts.drop (i+1))=R):=by
 obtain ⟨hil,e⟩:=List.getElem?_eq_some_iff.1 ha
 rw [List.drop_eq_getElem_cons hil,e,errss] at h
 by_cases h0:errs Lib.validD canonB floB a=0
 ·rw [if_neg (by simp [h0])] at h
  exact ⟨fun h1=>absurd h0 h1,fun _=>h⟩
 ·rw [if_pos h0] at h
  exact ⟨fun _=>h,fun h1=>absurd h1 h0⟩
def NodesOk (w0:World) (t:Tm):Prop:=∀ (w:World) (sl:Value),TAt w w.heap.size t sl→UOk w0 w→Calls Tryz.prog 62 #[valT t sl] w fun e w'=>e = .returned (.int .i64 (errsP t))∧Below w.heap.size w w'
set_option maxRecDepth 100000 in
set_option maxHeartbeats 4000000 in
theorem nodes_any (w0:World) (t:Tm):NodesOk w0 t:=by
 refine Tm.ind (p:=NodesOk w0) (fun k nl ml b v ts ih=>?_) t
 intro w sl h hU
 obtain ⟨A,c,rfl,hl1,hl2,hl3⟩:=h.slice
 obtain ⟨nb,hnb⟩:∃ nb:ByteArray,(⟨nl.toArray⟩:ByteArray)=nb:=⟨_,rfl⟩
 obtain ⟨mb,hmb⟩:∃ mb:ByteArray,(⟨ml.toArray⟩:ByteArray)=mb:=⟨_,rfl⟩
 obtain ⟨L,hL⟩:∃ L,ts.length=L:=⟨_,rfl⟩
 change ts.length≤c at hl1
 change ts.length≤maxArgs at hl3
 change TAt w w.heap.size (.mk k nl ml b v ts) (.slice A ts.length c) at h
 change Calls Tryz.prog 62 #[valT _ (.slice A ts.length c)] w _
 have hNd:=fun w1 (hb:Below w.heap.size w w1)=>node_any (w0:=w0) (h.to hb hb.size) (hU.below hb)
 simp only [valT_mk hnb hmb] at hNd
 rw [valT_mk hnb hmb]
 rw [hL] at h hl1 hl3 hNd ⊢
 obtain ⟨R,hR⟩:∃ R,errsP (.mk k nl ml b v ts)=R:=⟨_,rfl⟩
 obtain ⟨R0,hR0⟩:∃ R0,oneP (.mk k nl ml b v ts)=R0:=⟨_,rfl⟩
 rw [hR]
 have HR:=Lib.hid (show (R0≠0→R0=R)∧(R0=0→errss Lib.validD canonB floB ts=R) from by
  have h9:(if oneP (.mk k nl ml b v ts)≠0 then oneP (.mk k nl ml b v ts) else errss Lib.validD canonB floB ts)=R:=hR
  rw [hR0] at h9
  by_cases h0:R0=0
  ·rw [if_neg (by simp [h0])] at h9;exact ⟨fun h=>absurd h0 h,fun _=>h9⟩
  ·rw [if_pos h0] at h9;exact ⟨fun _=>h9,fun h=>absurd h h0⟩)
 have HNd:=Lib.hid hNd
 rw [hR0] at HNd
 have HIH:=Lib.hid ih
 have HT:=Lib.hid h
 have HU:=Lib.hid hU
 have HL:=Lib.hid hL
 have HM:=Lib.hid (And.intro hnb hmb)
 have hLI:(L:Int)≤1759218604400:=by unfold maxArgs at hl3;omega
 obtain ⟨W1,hW1⟩:∃ W1,w.alloc (.cells #[.int .i64 k,.string nb,.string mb,.int .u64 b,.int .i64 v,.slice A L c] 25)=W1:=⟨_,rfl⟩
 have hb1:Below w.heap.size w W1:=by rw [←hW1];exact (Below.refl _ _).alloc (Nat.le_refl _) _
 have hX:=TBox.new (ts:=ts) w (k:=k) (b:=b) (v:=v) (sl:=.slice A L c) hnb hmb
 rw [hW1] at hX
 obtain ⟨x0,x1,x2,x3,x4,x5⟩:=hX.cells hnb hmb
 have HB:=Lib.hid (And.intro hb1 hX)
 subst hW1
 clear ih h hU hR hR0 hL hnb hmb hX hb1 hNd
 go_enter Tryz.func62,Tryz.ntmps62
 go_wp2_with fail
 (with_reducible refine (HNd.out _ HB.out.1).mono ?_)
 rintro e w2 ⟨rfl,hb2⟩
 have HB2:=Lib.hid (HB.out.1.trans (hb2.mono HB.out.1.size))
 obtain ⟨y0,y1,y2,y3,y4,y5⟩:=(HB.out.2.below hb2).cells HM.out.1 HM.out.2
 clear hb2 x0 x1 x2 x3 x4 x5
 by_cases h0:R0=0
 ·subst h0
  have HRs:=Lib.hid (HR.out.2 rfl)
  go_upto_region 5 with fail
  clear y0 y1 y2 y3 y4 y5
  go_loopw [15] (fun v15 wr=>∃ i:Nat,v15 = .int .i64 (i:Int)∧i≤L∧Hid (errss Lib.validD canonB floB (ts.drop i)=R∧Below w.heap.size w wr)) (fun v15 _=>((L:Int) - intOf v15).toNat)
  case atStart=>exact ⟨0,rfl,Nat.zero_le _,Lib.hid ⟨HRs.out,HB2.out⟩⟩
  case round=>
   obtain ⟨i,rfl,hi,HI⟩:=hrel
   by_cases hlt:i<L
   ·have hltI:(i:Int)<(L:Int):=by omega
    have hi0:(0:Int)≤(i:Int):=by omega
    have hil:i<ts.length:=by rw [HL.out];exact hlt
    obtain ⟨a,ha⟩:∃ a,ts[i]?=some a:=⟨_,List.getElem?_eq_getElem hil⟩
    obtain ⟨g,o,rfl,hgB,helt⟩:=(HT.out.to HI.out.2 HI.out.2.size).arg ha
    have HD:=Lib.hid (errss_drop ha HI.out.1)
    obtain ⟨A',c',k',n',m',b',v',ts',nb',mb',rfl,hnb',hmb',hta,e0,e1,e2,e3,e4,e5⟩:=EltAt.cells helt
    obtain ⟨q,hq⟩:∃ q,ts'.length=q:=⟨_,rfl⟩
    have HC:=Lib.hid (HIH.out _ (List.mem_of_getElem? ha))
    have HN:=Lib.hid (And.intro hnb' hmb')
    have HTA:=Lib.hid hta
    have HLT:=Lib.hid hlt
    have HQ:=Lib.hid hq
    rw [hq] at e5
    clear helt hta hnb' hmb' ha hil hlt hi hq
    go_upto_region 7 with fail
    have HX2:=Lib.hid (TBox.new (ts:=ts') wr (k:=k') (b:=b') (v:=v') (sl:=.slice A' q c') HN.out.1 HN.out.2)
    have hb3:Below wr.heap.size wr (wr.alloc (.cells #[.int .i64 k',.string nb',.string mb',.int .u64 b',.int .i64 v',.slice A' q c'] 25)):=(Below.refl _ _).alloc (Nat.le_refl _) _
    have HB3:=Lib.hid (HI.out.2.trans (hb3.mono HI.out.2.size))
    have HCl:=Lib.hid (HC.out _ _ (HTA.out.to hb3 hb3.size) (HU.out.below HB3.out))
    rw [valT_mk HN.out.1 HN.out.2,HQ.out] at HCl
    obtain ⟨R1,hR1⟩:∃ R1,errsP (.mk k' n' m' b' v' ts')=R1:=⟨_,rfl⟩
    rw [hR1] at HCl HD
    clear hR1 hb3
    generalize wr.alloc (.cells #[.int .i64 k',.string nb',.string mb',.int .u64 b',.int .i64 v',.slice A' q c'] 25)=W2 at *
    generalize wr.heap.size=gB at *
    obtain ⟨y0,y1,y2,y3,y4,y5⟩:=HX2.out.cells HN.out.1 HN.out.2
    clear e0 e1 e2 e3 e4 e5
    by_cases h1:R1=0
    ·subst h1
     have HE:=Lib.hid (HD.out.2 rfl)
     go_wp2_with (go_at_call 62;(with_reducible refine HCl.out.mono ?_);rintro e w' ⟨rfl,hb4⟩;have HB4:=Lib.hid (HB3.out.trans (hb4.mono HB3.out.size));clear hb4)
     go_roundw
     case rel=>exact ⟨i+1,rfl,HLT.out,Lib.hid ⟨HE.out,HB4.out⟩⟩
     case measure=>
      have:=HLT.out
      show ((L:Int) - ((i:Int)+1)).toNat<((L:Int) - (i:Int)).toNat
      omega
    ·have h1b:(R1 != 0)=true:=by simpa using h1
     have HE:=Lib.hid (HD.out.1 h1)
     clear h1
     go_wp2_with (go_at_call 62;(with_reducible refine HCl.out.mono ?_);rintro e w' ⟨rfl,hb4⟩;have HB4:=Lib.hid (HB3.out.trans (hb4.mono HB3.out.size));clear hb4)
     go_ret
     exact ⟨by rw [←HE.out];rfl,HB4.out⟩
   ·have ei:i=L:=by omega
    subst ei
    have HE:=Lib.hid (show (0:Int)=R∧Below w.heap.size w wr from by
     have h9:=HI.out
     rw [List.drop_of_length_le (by rw [HL.out];exact Nat.le_refl _)] at h9
     exact h9)
    clear hlt hi
    go_wp2
    go_ret
    exact ⟨by rw [←HE.out.1];rfl,HE.out.2⟩
 ·have h0b:(R0 != 0)=true:=by simpa using h0
  have HE:=Lib.hid (HR.out.1 h0)
  clear h0
  go_wp2
  go_ret
  exact ⟨by rw [←HE.out];rfl,HB2.out⟩
set_option maxRecDepth 100000 in
set_option maxHeartbeats 2000000 in
theorem Check_any {w0 w:World} {t:Tm} {sl:Value} (h:TAt w w.heap.size t sl) (hU:UOk w0 w):Calls Tryz.prog 31 #[valT t sl] w fun e w'=>e = .returned (.int .i64 (checkP t))∧Below w.heap.size w w':=by
 obtain ⟨k,nl,ml,b,v,ts,nb,mb,A,c,rfl,rfl,hnb,hmb,hl1,hl2,hl3,hv,hs1,hs2⟩:=h.letters
 have hb1:Below w.heap.size w (w.alloc (.cells #[.int .i64 k,.string nb,.string mb,.int .u64 b,.int .i64 v,.slice A ts.length c] 25)):=(Below.refl _ _).alloc (Nat.le_refl _) _
 have HC:=Lib.hid (Nodes_any (h.to hb1 hb1.size))
 have HN:=Lib.hid (fun w2 (hb:Below _ (w.alloc (.cells #[.int .i64 k,.string nb,.string mb,.int .u64 b,.int .i64 v,.slice A ts.length c] 25)) w2)=>nodes_any w0 (.mk k nl ml b v ts) w2 (.slice A ts.length c) ((h.to hb1 hb1.size).to hb hb.size) ((hU.below hb1).below hb))
 rw [hv] at HC HN ⊢
 obtain ⟨n,hn⟩:∃ n,nodes (.mk k nl ml b v ts)=n:=⟨_,rfl⟩
 obtain ⟨E,hE⟩:∃ E,errsP (.mk k nl ml b v ts)=E:=⟨_,rfl⟩
 have hR:checkP (.mk k nl ml b v ts)=if 4000<n then 24 else E:=by rw [←hn,←hE];rfl
 have hnl:n≤4001:=by rw [←hn];unfold nodes;omega
 rw [hR]
 rw [hn] at HC
 rw [hE] at HN
 have hX:=TBox.new (ts:=ts) w (k:=k) (b:=b) (v:=v) (sl:=.slice A ts.length c) hnb hmb
 have HB:=Lib.hid (And.intro hb1 hX)
 have HM:=Lib.hid (And.intro hnb hmb)
 obtain ⟨x0,x1,x2,x3,x4,x5⟩:=hX.cells hnb hmb
 have hzI:(n:Int)≤4001:=by omega
 clear h hv hR hX hn hE hU hb1
 by_cases hz:4000<n
 ·have hzI:(4000:Int)<(n:Int):=by omega
  rw [if_pos hz]
  clear hz
  go_enter Tryz.func31,Tryz.ntmps31
  go_wp2_with (go_at_call 61;(with_reducible refine HC.out.mono ?_);rintro e w' ⟨rfl,hb3⟩;have HB3:=Lib.hid (HB.out.1.trans (hb3.mono HB.out.1.size));clear hb3)
  go_ret
  exact ⟨rfl,HB3.out⟩
 ·have hzI:¬(4000:Int)<(n:Int):=by omega
  rw [if_neg hz]
  clear hz
  go_enter Tryz.func31,Tryz.ntmps31
  go_wp2_with (first
   | (go_at_call 61;(with_reducible refine HC.out.mono ?_);rintro e w' ⟨rfl,hb3⟩;obtain ⟨y0,y1,y2,y3,y4,y5⟩:=(HB.out.2.below hb3).cells HM.out.1 HM.out.2;have HB3:=Lib.hid (And.intro (HB.out.1.trans (hb3.mono HB.out.1.size)) hb3);clear hb3)
   | (go_at_call 62;(with_reducible refine (HN.out _ HB3.out.2).mono ?_);rintro e w' ⟨rfl,hb4⟩;have HB4:=Lib.hid (HB3.out.1.trans (hb4.mono HB3.out.1.size));clear hb4))
  go_ret
  exact ⟨rfl,HB4.out⟩
end
section
open Go.RowKit Hb Ht
attribute [local go_sem] Oper.semAt_some
theorem RowP.below {w w':World} {P:Nat→Prop} {A:Option Addr} {n:Nat} {ps:List (Tm × Value)} (h:RowP w P A n ps) (hb:Below w.heap.size w w') (hP:∀ b,P b→b<w.heap.size):RowP w' P A n ps:=
 ⟨h.1,fun p hp=>(h.2.1 p hp).below hb hP,fun hn=>by
  obtain ⟨g,o,e,hg,hc⟩:=h.2.2 hn
  exact ⟨g,o,e,Nat.lt_of_lt_of_le hg hb.size,fun j u hj=>(hb.cell (p:=⟨g,o+j,none⟩) hg).trans (hc j u hj)⟩⟩
end
section
open Go.Shelf Go.RowKit Hb Ht
def Tryz.laysValid_ren:Go.Shelf.Ren:=⟨fun | 196=>202 | 259=>215 | n=>n,fun | 9=>9 | 4=>4 | 3=>3 | 5=>5 | 12=>12 | 119=>199 | 0=>0 | 46=>80 | 139=>202 | 138=>201 | 53=>22 | n=>n,fun | 3=>2 | 4=>3 | n=>n⟩
theorem Tryz.laysValid:Go.Proofs.Lays.n196 Tryz.prog Tryz.laysValid_ren:={
 mixed:=by kernel_rfl
 f196:=Tryz.func202.trans (congrArg some (by kernel_rfl))
 f259:=Tryz.func215.trans (congrArg some (by kernel_rfl))
 t0:=Tryz.underlying0
 a0:=Tryz.isAgg0
 z0:=Tryz.sizeOf0
 v0:=Tryz.zeroValue0
 t3:=Tryz.underlying3
 a3:=Tryz.isAgg3
 z3:=Tryz.sizeOf3
 v3:=Tryz.zeroValue3
 t4:=Tryz.underlying4
 a4:=Tryz.isAgg4
 z4:=Tryz.sizeOf4
 v4:=Tryz.zeroValue4
 t5:=Tryz.underlying5
 a5:=Tryz.isAgg5
 z5:=Tryz.sizeOf5
 v5:=Tryz.zeroValue5
 t9:=Tryz.underlying9
 a9:=Tryz.isAgg9
 z9:=Tryz.sizeOf9
 v9:=Tryz.zeroValue9
 t12:=Tryz.underlying12
 a12:=Tryz.isAgg12
 z12:=Tryz.sizeOf12
 v12:=Tryz.zeroValue12
 t46:=Tryz.underlying80
 a46:=Tryz.isAgg80
 z46:=Tryz.sizeOf80
 v46:=Tryz.zeroValue80
 t53:=Tryz.underlying22
 a53:=Tryz.isAgg22
 z53:=Tryz.sizeOf22
 v53:=Tryz.zeroValue22
 t119:=Tryz.underlying199
 a119:=Tryz.isAgg199
 z119:=Tryz.sizeOf199
 t138:=Tryz.underlying201
 a138:=Tryz.isAgg201
 z138:=Tryz.sizeOf201
 v138:=Tryz.zeroValue201
 t139:=Tryz.underlying202
 a139:=Tryz.isAgg202
 z139:=Tryz.sizeOf202
 v139:=Tryz.zeroValue202
 g3:=by kernel_rfl
 g4:=by kernel_rfl }
def VTabs (w:World):Prop:=Lib.Utf8Tabs (Tryz.laysValid_ren.g 3) (Tryz.laysValid_ren.g 4) w
theorem valid_any (s:ByteArray) (w:World) (hs:s.size≤maxLen) (hT:VTabs w) :
  Calls Tryz.prog 202 #[.string s] w fun e w'=>e = .returned (.bool (Lib.validD s.data.toList))∧Below w.heap.size w w':=Any.utf8_ValidString Tryz.laysValid s w hs hT
theorem VTabs.below {w0 w:World} (h:VTabs w0) (hb:Below w0.heap.size w0 w):VTabs w:=by
 have key:∀ p u,w0.cell? p=some u→w.cell? p=some u:=fun p u hp=>(hb.cell (World.block_lt_of_cell? _ _ hp)).trans hp
 exact ⟨fun c hc=>key _ _ (h.1 c hc),fun i hi=>⟨key _ _ (h.2 i hi).1,key _ _ (h.2 i hi).2⟩⟩
theorem VTabs.u0 {w0:World} (h:VTabs w0):U0 w0:=fun w' hb s hs=>valid_any s w' hs (h.below hb)
theorem VTabs.ok {w0:World} (h:VTabs w0):UOk w0 w0:=⟨Below.refl _ _,h.u0⟩
end
end Go.Proofs.YtjpnmmjgdiiahaaGreatDoor
