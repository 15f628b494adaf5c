import Derived.WalkKit
import Derived.Lib.Hide
import Derived.Deep.OwnRows
import Derived.Deep.Draws
import Derived.Deep.QuietTactic
import Derived.Laws.CopyOwn
import Derived.Test.YtgfeainpeplphaaDoorRows
import Derived.BigQuiet
import Derived.Deep.RegionHeld3
import Derived.Deep.DrawnRows
import Derived.Deep.DeepCutAuto
import Derived.Deep.CutBlock
import Derived.StillTailTactics
import Derived.OrdersHeld
import Derived.Deep.AppendLies
import Derived.Maps.AppendAt
import Derived.Test.YtgfeainpeplphaaDoorV1
import Derived.Test.YtgfeainpeplphaaDoorV0
set_option maxRecDepth 1000000
set_option maxHeartbeats 64000000
set_option linter.unusedVariables false
set_option linter.unusedSimpArgs false
namespace Hb
open Go Go.RowKit
def Dr (a w:World):Prop:=∃ k,w=a.drewN k
theorem Dr.refl (a:World):Dr a a:=⟨0,rfl⟩
theorem Dr.more {a w:World} (h:Dr a w) (n:Nat):Dr a (w.drewN n):=by
 obtain ⟨k,rfl⟩:=h
 exact ⟨k+n,by rw [World.drewN_drewN]⟩
theorem Dr.cell {a w:World} (h:Dr a w) (p:Addr):w.cell? p=a.cell? p:=by
 obtain ⟨k,rfl⟩:=h
 rfl
theorem Dr.frozen {a w:World} (h:Dr a w) (p:Addr):w.frozen? p=a.frozen? p:=by
 obtain ⟨k,rfl⟩:=h
 rfl
theorem belowN {B:Nat} {a w:World} (h:Below B a w) (n:Nat):Below B a (w.drewN n):=⟨h.os,h.tape,h.output,h.size,h.block⟩
def u32s (l:List Nat):List Value:=l.map fun x:Nat=>Value.int .u32 (x:Int)
def i64s (l:List Nat):List Value:=l.map fun x:Nat=>Value.int .i64 (x:Int)
theorem u32s_length (l:List Nat):(u32s l).length=l.length:=by simp [u32s]
theorem i64s_length (l:List Nat):(i64s l).length=l.length:=by simp [i64s]
theorem u32s_get {l:List Nat} {i:Nat} (h:i<l.length):(u32s l)[i]?=some (.int .u32 (l.getD i 0:Nat)):=by
 simp [u32s,h]
theorem i64s_get {l:List Nat} {i:Nat} (h:i<l.length):(i64s l)[i]?=some (.int .i64 (l.getD i 0:Nat)):=by
 simp [i64s,h]
theorem u32s_take (l:List Nat) (k:Nat):(u32s l).take k=u32s (l.take k):=by simp [u32s,List.map_take]
theorem i64s_take (l:List Nat) (k:Nat):(i64s l).take k=i64s (l.take k):=by simp [i64s,List.map_take]
theorem u32s_set (l:List Nat) (k x:Nat):(u32s l).set k (.int .u32 (x:Int))=u32s (l.set k x):=by simp [u32s,List.map_set]
theorem i64s_set (l:List Nat) (k x:Nat):(i64s l).set k (.int .i64 (x:Int))=i64s (l.set k x):=by simp [i64s,List.map_set]
theorem u32s_one (l:List Nat):∀ u∈u32s l,u.oneCell'=true:=by
 intro u hu;obtain ⟨x,_,rfl⟩:=List.mem_map.1 hu;rfl
theorem u32s_ne {l:List Nat} (h:0<l.length):u32s l ≠ []:=by
 intro e;have:=congrArg List.length e;simp [u32s_length] at this;subst this;simp at h
theorem i64s_ne {l:List Nat} (h:0<l.length):i64s l ≠ []:=by
 intro e;have:=congrArg List.length e;simp [i64s_length] at this;subst this;simp at h
theorem i64s_zeros (n:Nat):(madeCells #[Value.int .i64 0] n).toList=i64s (List.replicate n 0):=by
 rw [toList_madeCells_one];simp [i64s]
def Rd (w:World) (B:Nat) (A:Option Addr) (xs:List Value):Prop:=
 xs ≠ []→∃ b o,A=some ⟨b,o,none⟩∧b<B∧∀ i v,xs[i]?=some v→w.cell? ⟨b,o+i,none⟩=some v
section
variable {w w':World} {B:Nat} {A:Option Addr} {xs:List Value}
theorem Rd.below (h:Rd w B A xs) {C:Nat} (hb:Below C w w') (hC:B≤C):Rd w' B A xs:=fun hx=>by
 obtain ⟨b,o,hA,hlt,hc⟩:=h hx
 exact ⟨b,o,hA,hlt,fun i v hi=>(hb.cell (p:=⟨b,o+i,none⟩) (Ql hlt hC)).trans (hc i v hi)⟩
theorem Rd.mono (h:Rd w B A xs) {B':Nat} (hB:B≤B'):Rd w B' A xs:=fun hx=>by
 obtain ⟨b,o,hA,hlt,hc⟩:=h hx
 exact ⟨b,o,hA,Ql hlt hB,hc⟩
theorem Rd.take (h:Rd w B A xs) (k:Nat):Rd w B A (xs.take k):=fun hx=>by
 obtain ⟨b,o,hA,hlt,hc⟩:=h (by rintro rfl;simp at hx)
 refine ⟨b,o,hA,hlt,fun i v hi=>hc i v ?_⟩
 rw [List.getElem?_take] at hi
 split at hi
 ·exact hi
 ·cases hi
end
structure Sl (E:List Nat→List Value) (base:Nat) (w:World) (B:Nat) (A:Option Addr) (n c:Nat) (l:List Nat):Prop where
 len:l.length=n
 cap:n≤c
 max:c≤maxLen
 dig:Dig base l
 rd:Rd w B A (E l)
abbrev SlU:=Sl u32s 4294967296
abbrev SlI:=Sl i64s 2
section
variable {E:List Nat→List Value} {base:Nat} {w w':World} {B:Nat} {A:Option Addr} {n c:Nat} {l:List Nat}
theorem Sl.below (h:Sl E base w B A n c l) {C:Nat} (hb:Below C w w') (hC:B≤C):Sl E base w' B A n c l:=⟨h.len,h.cap,h.max,h.dig,h.rd.below hb hC⟩
theorem Sl.mono (h:Sl E base w B A n c l) {B':Nat} (hB:B≤B'):Sl E base w B' A n c l:=⟨h.len,h.cap,h.max,h.dig,h.rd.mono hB⟩
theorem SlU.take (h:SlU w B A n c l) {k:Nat} (hk:k≤n):SlU w B A k c (l.take k):=
 ⟨by rw [List.length_take,h.len];omega,Nat.le_trans hk h.cap,h.max,h.dig.take _,by rw [←u32s_take];exact h.rd.take k⟩
theorem SlU.tr (h:SlU w B A n c l):SlU w B A (tlen l) c (tr l):=h.take (by rw [←h.len];exact tlen_le l)
theorem SlU.at_ (h:SlU w B A n c l) (hn:0<n):∃ b o,A=some ⟨b,o,none⟩∧b<B∧∀ i,i<n→w.cell? ⟨b,o+i,none⟩=some (.int .u32 (l.getD i 0:Nat)):=by
 obtain ⟨b,o,hA,hb,hc⟩:=h.rd (u32s_ne (by rw [h.len];exact hn))
 exact ⟨b,o,hA,hb,fun i hi=>hc i _ (u32s_get (by rw [h.len];exact hi))⟩
theorem SlI.at_ (h:SlI w B A n c l) (hn:0<n):∃ b o,A=some ⟨b,o,none⟩∧b<B∧∀ i,i<n→w.cell? ⟨b,o+i,none⟩=some (.int .i64 (l.getD i 0:Nat)):=by
 obtain ⟨b,o,hA,hb,hc⟩:=h.rd (i64s_ne (by rw [h.len];exact hn))
 exact ⟨b,o,hA,hb,fun i hi=>hc i _ (i64s_get (by rw [h.len];exact hi))⟩
end
theorem addr_add (b o i:Nat):(⟨b,o,none⟩:Addr).add i=⟨b,o+i,none⟩:=by unfold Addr.add;split <;> simp_all
theorem add_zero' (g i:Nat):(⟨g,0,none⟩:Addr).add i=⟨g,i,none⟩:=by unfold Addr.add;split <;> simp_all
def Own (t:TypeId) (w:World) (B:Nat) (A:Option Addr) (n c:Nat) (xs:List Value):Prop:=w.ownsRow B t 1 (.slice A n c) n xs
section
variable {t:TypeId} {w w':World} {B g:Nat} {A:Option Addr} {n c:Nat} {xs:List Value} {l:List Nat}
theorem Own.length (h:Own t w B A n c xs):xs.length=n:=by have:=h.1;omega
theorem Own.form (h:Own t w B A n c xs):(A=none∧n=0∧c=0)∨∃ g,A=some ⟨g,0,none⟩∧B≤g∧g<w.heap.size:=by
 rcases h.2 with ⟨h1,_⟩ | ⟨g,cap,cur,h1,h2,h3,_⟩
 ·left;injection h1 with a b c;exact ⟨a,b,c⟩
 ·right;injection h1 with a b c;exact ⟨g,a,h2,(Array.getElem?_eq_some_iff.1 h3).1⟩
theorem Own.at_ (h:Own t w B A n c xs) (hn:0<n):∃ g,A=some ⟨g,0,none⟩∧B≤g∧g<w.heap.size:=by
 rcases h.form with ⟨_,h1,_⟩ | h1
 ·omega
 ·exact h1
theorem Own.cap (h:Own t w B A n c xs):n≤c∧c≤maxLen:=by
 rcases h.2 with ⟨h1,_⟩ | ⟨g,cap,cur,h1,h2,h3,h4,h5,_⟩
 ·injection h1 with a b c;subst b;subst c;exact ⟨Nat.le_refl _,by simp [maxLen]⟩
 ·injection h1 with a b c;subst c;exact ⟨h4,h5⟩
theorem Own.below (h:Own t w B A n c xs) {C:Nat} (hb:Below C w w') (hC:w.heap.size≤C):Own t w' B A n c xs:=by
 refine ⟨h.1,?_⟩
 rcases h.2 with h1 | ⟨g,cap,cur,h1,h2,h3,h4⟩
 ·exact .inl h1
 ·exact .inr ⟨g,cap,cur,h1,h2,(hb.block g (Ql (Array.getElem?_eq_some_iff.1 h3).1 hC)).trans h3,h4⟩
theorem Own.mono (h:Own t w B A n c xs) {B':Nat} (hB:B'≤B):Own t w B' A n c xs:=by
 refine ⟨h.1,?_⟩
 rcases h.2 with h1 | ⟨g,cap,cur,h1,h2,h3,h4⟩
 ·exact .inl h1
 ·exact .inr ⟨g,cap,cur,h1,Nat.le_trans hB h2,h3,h4⟩
theorem Own.take (h:Own t w B A n c xs) {k:Nat} (hk:k≤n):Own t w B A k c (xs.take k):=by
 have hl:=h.length
 have hc:=h.cap
 rcases h.2 with ⟨h1,h2⟩ | ⟨g,cap,cur,h1,h2,h3,h4,h5,h6,h7⟩
 ·injection h1 with a b c
  subst a;subst b;subst c
  have:k=0:=by omega
  subst this
  exact ⟨by simp,.inl ⟨rfl,by simp⟩⟩
 ·injection h1 with a b c
  subst a;subst c
  refine ⟨by rw [List.length_take];omega,.inr ⟨g,_,cur,rfl,h2,h3,by omega,h5,h6,?_⟩⟩
  rw [←h7,List.take_take]
  congr 1
  omega
theorem Own.rd (h:Own t w B A n c xs):Rd w w.heap.size A xs:=fun hx=>by
 have hn:0<n:=by rw [←h.length];exact List.length_pos_iff.2 hx
 obtain ⟨g,rfl,h1,h2⟩:=h.at_ hn
 refine ⟨g,0,rfl,h2,fun i v hi=>?_⟩
 have:=World.ownsRow.cells h (g:=g) rfl i v hi
 rw [add_zero' g i] at this
 rw [Nat.zero_add];exact this
theorem Own.sl {E:List Nat→List Value} {base:Nat} (h:Own t w B A n c (E l)) (hd:Dig base l) (hl:l.length=n):Sl E base w w.heap.size A n c l:=
 ⟨hl,h.cap.1,h.cap.2,hd,h.rd⟩
theorem Own.of_block (hg:w.heap[g]?=some (.cells xs.toArray t (0,0))) (hB:B≤g) (hm:xs.length≤maxLen):Own t w B (some ⟨g,0,none⟩) xs.length xs.length xs:=
 ⟨by simp,.inr ⟨g,_,_,rfl,hB,hg,Nat.le_refl _,hm,by simp,by simp⟩⟩
theorem Own.made (w:World) (z:Value) (n:Nat) (t:TypeId) (hB:B≤w.heap.size) (hm:n≤maxLen) :
  Own t (w.alloc (.cells (madeCells #[z] n) t)) B (some ⟨w.heap.size,0,none⟩) n n (madeCells #[z] n).toList:=by
 have h:=Own.of_block (w:=w.alloc (.cells (madeCells #[z] n) t)) (g:=w.heap.size) (t:=t) (B:=B) (xs:=(madeCells #[z] n).toList) (by rw [Array.toArray_toList];exact heap_alloc_new w _) hB (by simpa [size_madeCells] using hm)
 have e:(madeCells #[z] n).toList.length=n:=by simp [size_madeCells]
 rw [e] at h
 exact h
theorem Own.alloc (h:Own t w B A n c xs) (o:Obj):Own t (w.alloc o) B A n c xs:=World.ownsRow.alloc h o
theorem Own.cell (h:Own t w B (some ⟨g,0,none⟩) n c xs) {j:Nat} (hj:j<n):w.cell? ⟨g,j,none⟩=xs[j]?:=by
 have hc:=h.cap
 have:=World.ownsRow.cells h (g:=g) rfl
 have e:xs[j]?=some (xs[j]'(by rw [h.length];exact hj)):=List.getElem?_eq_getElem _
 rw [e]
 have h2:=this j _ e
 rw [add_zero' g j] at h2
 exact h2
theorem Own.frozen (h:Own t w B (some ⟨g,0,none⟩) n c xs) (j:Nat):w.frozen? ⟨g,j,none⟩=false:=by
 rcases h.2 with ⟨h1,_⟩ | ⟨g',cap,cur,h1,h2,h3,_⟩
 ·cases h1
 ·injection h1 with a b c
  injection a with a
  injection a with a
  subst a
  simp [World.frozen?,h3]
theorem Own.set_ (h:Own t w B (some ⟨g,0,none⟩) n c xs) (j:Nat) (u:Value):Own t (w.setCell ⟨g,j,none⟩ u) B (some ⟨g,0,none⟩) n c (xs.set j u):=by
 rcases h.2 with ⟨h1,_⟩ | ⟨g',cap,cur,h1,h2,h3,h4,h5,h6,h7⟩
 ·cases h1
 ·injection h1 with a b cc
  injection a with a
  injection a with a
  subst a;subst cc
  refine ⟨by simpa using h.1,.inr ⟨g,c,cur.setIfInBounds j u,rfl,h2,?_,h4,h5,by simpa using h6,?_⟩⟩
  ·simp [World.setCell,Array.getElem?_modify,h3]
  ·rw [←h7,Array.toList_setIfInBounds,List.take_set]
theorem Own.far (h:Own t w B A n c xs) {p:Addr} (hp:∀ g,A=some ⟨g,0,none⟩→g≠p.block) (u:Value):Own t (w.setCell p u) B A n c xs:=by
 refine ⟨h.1,?_⟩
 rcases h.2 with h1 | ⟨g,cap,cur,h1,h2,h3,h4⟩
 ·exact .inl h1
 ·injection h1 with a b c
  exact .inr ⟨g,cap,cur,by rw [a,c],h2,(Below.heap_setCell w p u g (hp g a)).trans h3,h4⟩
end
section
variable {t:TypeId} {w w':World} {g:Nat} {L:List Nat}
theorem gb_refl (w:World) (row:Option Nat):w.grownBy w row:=World.grownBy.refl w row
theorem gb_setCell {a:World} (h:a.grownBy w (some g)) (i:Nat) (u:Value):a.grownBy (w.setCell ⟨g,i,none⟩ u) (some g):=
 ⟨h.os,h.tape,h.output,by simpa [World.setCell] using h.size,fun j hj hne=>(Below.heap_setCell w ⟨g,i,none⟩ u j (by rintro rfl;exact hne rfl)).trans (h.block j hj hne)⟩
end
end Hb
namespace Ht
open Go Go.RowKit Hb
def cells6 (t:Tm) (sl:Value):List Value:=[.int .i64 t.k,.string ⟨t.n.toArray⟩,.string ⟨t.m.toArray⟩,.int .u64 t.b,.int .i64 t.v,sl]
def valT (t:Tm) (sl:Value):Value:=.agg (cells6 t sl).toArray
def maxArgs:Nat:=1759218604400
def okF (t:Tm):Prop:=t.n.length≤maxLen∧t.m.length≤maxLen∧(0≤t.b∧t.b<18446744073709551616)∧(-9223372036854775808≤t.v∧t.v≤9223372036854775807)∧(-9223372036854775808≤t.k∧t.k≤9223372036854775807)
mutual
/-- slice sl holds the arguments of a term,in blocks that are P -/
def TAtP (w:World) (P:Nat→Prop):Tm→Value→Prop
 | .mk k n m b v as_,sl=>∃ A c,sl = .slice A as_.length c∧as_.length≤c∧c≤maxLen∧as_.length≤maxArgs∧okF (.mk k n m b v as_)∧(as_ ≠ []→∃ g o,A=some ⟨g,o,none⟩∧P g∧TsAtP w P g as_ o)
def TsAtP (w:World) (P:Nat→Prop) (g:Nat):List Tm→Nat→Prop
 | [],_=>True
 | a :: as_,o=>(∃ sl,(∀ j,j<6→w.cell? ⟨g,o+j,none⟩=(cells6 a sl)[j]?)∧TAtP w P a sl)∧TsAtP w P g as_ (o+6)
end
def EltP (w:World) (P:Nat→Prop) (g o:Nat) (a:Tm):Prop:=∃ sl,(∀ j,j<6→w.cell? ⟨g,o+j,none⟩=(cells6 a sl)[j]?)∧TAtP w P a sl
theorem TsAtP.iff {w:World} {P:Nat→Prop} {g:Nat} : ∀ {as_:List Tm} {o:Nat},TsAtP w P g as_ o↔∀ i a,as_[i]?=some a→EltP w P g (o+i * 6) a
 | [],o=>by simp [TsAtP]
 | a :: as_,o=>by
  rw [TsAtP,TsAtP.iff (as_:=as_)]
  constructor
  ·rintro ⟨h,hs⟩ i x hx
   cases i with
   | zero=>cases hx;rw [Nat.zero_mul,Nat.add_zero];exact h
   | succ i=>
    have:=hs i x (by simpa using hx)
    rwa [show o+6+i * 6=o+(i+1) * 6 by omega] at this
  ·intro h
   refine ⟨?_,fun i x hx=>?_⟩
   ·have:=h 0 a rfl
    rwa [Nat.zero_mul,Nat.add_zero] at this
   ·have:=h (i+1) x (by simpa using hx)
    rwa [show o+(i+1) * 6=o+6+i * 6 by omega] at this
theorem TAtP.iff {w:World} {P:Nat→Prop} {t:Tm} {sl:Value} : TAtP w P t sl↔∃ A c,sl = .slice A t.as.length c∧t.as.length≤c∧c≤maxLen∧t.as.length≤maxArgs∧okF t∧(t.as ≠ []→∃ g o,A=some ⟨g,o,none⟩∧P g∧∀ i a,t.as[i]?=some a→EltP w P g (o+i * 6) a):=by
 obtain ⟨k,n,m,b,v,as_⟩:=t
 rw [TAtP]
 simp only [TsAtP.iff]
 rfl
theorem TAtP.keep (t:Tm):∀ {w w':World} {P Q:Nat→Prop} {sl:Value},TAtP w P t sl→(∀ b,P b→Q b∧w'.heap[b]?=w.heap[b]?)→TAtP w' Q t sl:=by
 refine Tm.ind (p:=fun t=>∀ {w w':World} {P Q:Nat→Prop} {sl:Value},TAtP w P t sl→(∀ b,P b→Q b∧w'.heap[b]?=w.heap[b]?)→TAtP w' Q t sl) (fun k n m b v as_ ih w w' P Q sl h hb=>?_) t
 rw [TAtP.iff] at h ⊢
 obtain ⟨A,c,h1,h2,h3,h4,h5,h6⟩:=h
 refine ⟨A,c,h1,h2,h3,h4,h5,fun hne=>?_⟩
 obtain ⟨g,o,e,hg,hs⟩:=h6 hne
 refine ⟨g,o,e,(hb g hg).1,fun i a ha=>?_⟩
 obtain ⟨sl',hc,ht⟩:=hs i a ha
 exact ⟨sl',fun j hj=>(Qc (a:=⟨g,o+i * 6+j,none⟩) (hb g hg).2).trans (hc j hj),ih a (List.mem_of_getElem? ha) ht hb⟩
def TAt (w:World) (B:Nat) (t:Tm) (sl:Value):Prop:=TAtP w (fun b=>b<B) t sl
def EltAt (w:World) (B g o:Nat) (a:Tm):Prop:=∃ sl,(∀ j,j<6→w.cell? ⟨g,o+j,none⟩=(cells6 a sl)[j]?)∧TAt w B a sl
theorem TAt.iff {w:World} {B:Nat} {t:Tm} {sl:Value} : TAt w B t sl↔∃ A c,sl = .slice A t.as.length c∧t.as.length≤c∧c≤maxLen∧t.as.length≤maxArgs∧okF t∧(t.as ≠ []→∃ g o,A=some ⟨g,o,none⟩∧g<B∧∀ i a,t.as[i]?=some a→EltAt w B g (o+i * 6) a):=TAtP.iff
theorem TAt.below (t:Tm) {w w':World} {B C:Nat} {sl:Value} (h:TAt w B t sl) (hb:Below C w w') (hB:B≤C):TAt w' B t sl:=TAtP.keep t h (fun b hbB=>⟨hbB,hb.block b (Ql hbB hB)⟩)
theorem TAt.mono (t:Tm) {w:World} {B C:Nat} {sl:Value} (h:TAt w B t sl) (hB:B≤C):TAt w C t sl:=TAtP.keep t h (fun b hbB=>⟨Ql hbB hB,rfl⟩)
theorem TAt.to {w w':World} {B:Nat} {t:Tm} {sl:Value} (h:TAt w B t sl) (hb:Below B w w') (hB:B≤w'.heap.size):TAt w' w'.heap.size t sl:=(TAt.below t h hb (Nat.le_refl _)).mono t hB
theorem TAt.slice {w:World} {B:Nat} {t:Tm} {sl:Value} (h:TAt w B t sl):∃ A c,sl = .slice A t.as.length c∧t.as.length≤c∧c≤maxLen∧t.as.length≤maxArgs:=by
 obtain ⟨A,c,h1,h2,h3,h4,_⟩:=TAt.iff.1 h
 exact ⟨A,c,h1,h2,h3,h4⟩
theorem TAt.ok {w:World} {B:Nat} {t:Tm} {sl:Value} (h:TAt w B t sl):okF t:=by
 obtain ⟨A,c,h1,h2,h3,h4,h5,_⟩:=TAt.iff.1 h
 exact h5
theorem TAt.arg {w:World} {B:Nat} {t:Tm} {A:Option Addr} {n c:Nat} (h:TAt w B t (.slice A n c)) {i:Nat} {a:Tm} (ha:t.as[i]?=some a):∃ g o,A=some ⟨g,o,none⟩∧g<B∧EltAt w B g (o+i * 6) a:=by
 obtain ⟨A',c',h1,h2,h3,h4,h5,h6⟩:=TAt.iff.1 h
 injection h1 with e1 e2 e3
 subst e1
 obtain ⟨g,o,e,hg,hs⟩:=h6 (fun e=>by rw [e] at ha;simp at ha)
 exact ⟨g,o,e,hg,hs i a ha⟩
theorem TAtP.letters {w:World} {P:Nat→Prop} {t:Tm} {sl:Value} (h:TAtP w P t sl):∃ k n m b v ts nb mb A c,t = .mk k n m b v ts∧sl = .slice A ts.length c∧(⟨n.toArray⟩:ByteArray)=nb∧(⟨m.toArray⟩:ByteArray)=mb∧ts.length≤c∧c≤maxLen∧ts.length≤maxArgs∧valT t sl = .agg (Q5 k nb mb b v (.slice A ts.length c))∧nb.size≤maxLen∧mb.size≤maxLen:=by
 obtain ⟨A,c,rfl,hl1,hl2,hl3,ho,_⟩:=TAtP.iff.1 h
 obtain ⟨k,n,m,b,v,ts⟩:=t
 exact ⟨k,n,m,b,v,ts,_,_,A,c,rfl,rfl,rfl,rfl,hl1,hl2,hl3,rfl,by show n.toArray.size≤_;rw [List.size_toArray];exact ho.1,by show m.toArray.size≤_;rw [List.size_toArray];exact ho.2.1⟩
theorem TAt.letters {w:World} {B:Nat} {t:Tm} {sl:Value} (h:TAt w B t sl):∃ k n m b v ts nb mb A c,t = .mk k n m b v ts∧sl = .slice A ts.length c∧(⟨n.toArray⟩:ByteArray)=nb∧(⟨m.toArray⟩:ByteArray)=mb∧ts.length≤c∧c≤maxLen∧ts.length≤maxArgs∧valT t sl = .agg (Q5 k nb mb b v (.slice A ts.length c))∧nb.size≤maxLen∧mb.size≤maxLen:=TAtP.letters h
theorem TAtP.below {w w':World} {P:Nat→Prop} {t:Tm} {sl:Value} (h:TAtP w P t sl) (hb:Below w.heap.size w w') (hP:∀ b,P b→b<w.heap.size):TAtP w' P t sl:=TAtP.keep t h (fun b hp=>⟨hp,hb.block b (hP b hp)⟩)
theorem TAtP.wide {w:World} {P Q:Nat→Prop} {t:Tm} {sl:Value} (h:TAtP w P t sl) (hP:∀ b,P b→Q b):TAtP w Q t sl:=TAtP.keep t h (fun b hp=>⟨hP b hp,rfl⟩)
theorem TAtP.at_ {w:World} {P:Nat→Prop} {t:Tm} {sl:Value} (h:TAtP w P t sl) (hP:∀ b,P b→b<w.heap.size):TAt w w.heap.size t sl:=h.wide hP
theorem TAtP.ok {w:World} {P:Nat→Prop} {t:Tm} {sl:Value} (h:TAtP w P t sl):okF t:=by
 obtain ⟨A,c,h1,h2,h3,h4,h5,_⟩:=TAtP.iff.1 h
 exact h5
theorem TAt.boxed {w:World} {t:Tm} {sl:Value} (h:TAt w w.heap.size t sl) (o:Obj):TAt (w.alloc o) (w.alloc o).heap.size t sl:=h.to (Qb) (by simp)
end Ht
namespace Ht
theorem cnt_small (t:Tm):∀ n,n≤4000→cnt t n≤4001:=by
 refine Tm.ind (p:=fun t=>∀ n,n≤4000→cnt t n≤4001) (fun k nm m b v ts ih n hn=>?_) t
 have key:∀ ts:List Tm,(∀ a∈ts,∀ n,n≤4000→cnt a n≤4001)→∀ n,n≤4001→cnts ts n≤4001:=by
  intro ts
  induction ts with
  | nil=>intro _ n hn;simpa [cnts] using hn
  | cons a ts ih=>
   intro h n hn
   simp only [cnts]
   split
   ·exact hn
   ·exact ih (fun x hx=>h x (by simp [hx])) _ (h a (by simp) n (by omega))
 simp only [cnt]
 exact key ts ih _ (by omega)
end Ht
namespace Go.Proofs.YtgfeainpeplphaaDoor
open Go.RowKit Hb Ht
def TBox (w:World) (g:Nat) (t:Tm) (sl:Value):Prop:=w.heap[g]?=some (.cells (cells6 t sl).toArray 25 (0,0))
theorem TBox.lt {w:World} {g:Nat} {t:Tm} {sl:Value} (h:TBox w g t sl):g<w.heap.size:=(Array.getElem?_eq_some_iff.1 h).1
theorem TBox.below {w w':World} {g:Nat} {t:Tm} {sl:Value} (h:TBox w g t sl) (hb:Below w.heap.size w w'):TBox w' g t sl:=(hb.block g h.lt).trans h
theorem TBox.cells {w:World} {g:Nat} {k v b:Int} {n m:List UInt8} {ts:List Tm} {sl:Value} {nb mb:ByteArray} (h:TBox w g (.mk k n m b v ts) sl) (hn:(⟨n.toArray⟩:ByteArray)=nb) (hm:(⟨m.toArray⟩:ByteArray)=mb) :
  Q6 w g k nb mb b v sl:=by
 subst hn hm
 refine ⟨?_,?_,?_,?_,?_,?_⟩ <;> (rw [cell_of_row w g _ _ _ (0,0) h];rfl)
theorem TBox.new (w:World) {k v b:Int} {n m:List UInt8} {ts:List Tm} {sl:Value} {nb mb:ByteArray} (hn:(⟨n.toArray⟩:ByteArray)=nb) (hm:(⟨m.toArray⟩:ByteArray)=mb) :
  TBox (w.alloc (.cells (Q5 k nb mb b v sl) 25)) w.heap.size (.mk k n m b v ts) sl:=by
 subst hn hm
 exact heap_alloc_new w _
theorem TBox.frozen {w:World} {g:Nat} {t:Tm} {sl:Value} (h:TBox w g t sl) (j:Nat):w.frozen? ⟨g,j,none⟩=false:=by
 unfold TBox at h
 simp [World.frozen?,h]
theorem TBox.far {w:World} {g:Nat} {t:Tm} {sl:Value} (h:TBox w g t sl) {p:Addr} (hp:g≠p.block) (u:Value):TBox (w.setCell p u) g t sl:=(Below.heap_setCell w p u g hp).trans h
theorem TBox.args {w:World} {g:Nat} {t:Tm} {sl:Value} (h:TBox w g t sl) (u:Value):TBox (w.setCell ⟨g,5,none⟩ u) g t u:=by
 unfold TBox at h ⊢
 simp [World.setCell,Array.getElem?_modify,h,cells6]
theorem TBox.set6 {w:World} {g:Nat} {t0:Tm} {sl0:Value} (h:TBox w g t0 sl0) {k v b:Int} {n m:List UInt8} (ts:List Tm) (sl:Value) {nb mb:ByteArray} (hn:(⟨n.toArray⟩:ByteArray)=nb) (hm:(⟨m.toArray⟩:ByteArray)=mb) :
  TBox ((((((w.setCell ⟨g,0,none⟩ (.int .i64 k)).setCell ⟨g,1,none⟩ (.string nb)).setCell ⟨g,2,none⟩ (.string mb)).setCell ⟨g,3,none⟩ (.int .u64 b)).setCell ⟨g,4,none⟩ (.int .i64 v)).setCell ⟨g,5,none⟩ sl) g (.mk k n m b v ts) sl ∧
   w.grownBy ((((((w.setCell ⟨g,0,none⟩ (.int .i64 k)).setCell ⟨g,1,none⟩ (.string nb)).setCell ⟨g,2,none⟩ (.string mb)).setCell ⟨g,3,none⟩ (.int .u64 b)).setCell ⟨g,4,none⟩ (.int .i64 v)).setCell ⟨g,5,none⟩ sl) (some g):=by
 subst hn hm
 constructor
 ·unfold TBox at h ⊢
  simp [World.setCell,Array.getElem?_modify,h,cells6,Tm.k,Tm.n,Tm.m,Tm.b,Tm.v]
 ·exact gb_setCell (gb_setCell (gb_setCell (gb_setCell (gb_setCell (gb_setCell (gb_refl w (some g)) 0 _) 1 _) 2 _) 3 _) 4 _) 5 _
theorem TBox.frozens {w:World} {g:Nat} {t:Tm} {sl:Value} (h:TBox w g t sl):w.frozen? ⟨g,0,none⟩=false∧w.frozen? ⟨g,1,none⟩=false∧w.frozen? ⟨g,2,none⟩=false∧w.frozen? ⟨g,3,none⟩=false∧w.frozen? ⟨g,4,none⟩=false∧w.frozen? ⟨g,5,none⟩=false:=
 ⟨h.frozen 0,h.frozen 1,h.frozen 2,h.frozen 3,h.frozen 4,h.frozen 5⟩
theorem EltAt.cells {w:World} {B g o:Nat} {a:Tm} (h:EltAt w B g o a):∃ A c k n m b v ts nb mb,a = .mk k n m b v ts∧(⟨n.toArray⟩:ByteArray)=nb∧(⟨m.toArray⟩:ByteArray)=mb∧TAt w B a (.slice A ts.length c) ∧
  Q7 w g o k nb mb b v (.slice A ts.length c):=by
 obtain ⟨sl,hc,ht⟩:=h
 obtain ⟨A,c,rfl,_⟩:=ht.slice
 obtain ⟨k,n,m,b,v,ts⟩:=a
 exact ⟨A,c,k,n,m,b,v,ts,_,_,rfl,rfl,rfl,ht,hc 0 (by omega),hc 1 (by omega),hc 2 (by omega),hc 3 (by omega),hc 4 (by omega),hc 5 (by omega)⟩
theorem valT_mk {k v b:Int} {n m:List UInt8} {ts:List Tm} {sl:Value} {nb mb:ByteArray} (hn:(⟨n.toArray⟩:ByteArray)=nb) (hm:(⟨m.toArray⟩:ByteArray)=mb):valT (.mk k n m b v ts) sl = .agg (Q5 k nb mb b v sl):=by
 subst hn hm;rfl
def CountOk (t:Tm):Prop:=∀ (w:World) (sl:Value) (n:Nat),TAt w w.heap.size t sl→n≤4000→Calls Tryd.prog 73 #[valT t sl,.int .i64 (n:Int)] w fun e w'=>e = .returned (.int .i64 (cnt t n:Nat))∧Below w.heap.size w w'
theorem count_any (t:Tm):CountOk t:=by
 refine Tm.ind (p:=CountOk) (fun k nl ml b v ts ih=>?_) t
 intro w sl n h hn
 obtain ⟨A,c,rfl,hl1,hl2,hl3⟩:=h.slice
 obtain ⟨nb,hnb⟩:∃ nb:ByteArray,(⟨nl.toArray⟩:ByteArray)=nb:=⟨_,rfl⟩
 obtain ⟨mb,hmb⟩:∃ mb:ByteArray,(⟨ml.toArray⟩:ByteArray)=mb:=⟨_,rfl⟩
 obtain ⟨L,hL⟩:∃ L,ts.length=L:=⟨_,rfl⟩
 change ts.length≤c at hl1
 change ts.length≤maxArgs at hl3
 change TAt w w.heap.size (.mk k nl ml b v ts) (.slice A ts.length c) at h
 change Calls Tryd.prog 73 #[valT _ (.slice A ts.length c),_] w _
 rw [valT_mk hnb hmb]
 rw [hL] at h hl1 hl3 ⊢
 obtain ⟨R,hR⟩:∃ R,cnt (.mk k nl ml b v ts) n=R:=⟨_,rfl⟩
 rw [hR]
 have hRs:cnts ts (n+1)=R:=by rw [←hR];rfl
 have HIH:=Qh ih
 have HT:=Qh h
 have HL:=Qh (Qa hL hRs)
 have hLI:(L:Int)≤1759218604400:=by unfold maxArgs at hl3;omega
 have hX:=TBox.new (ts:=ts) w (k:=k) (b:=b) (v:=v) (sl:=.slice A L c) hnb hmb
 have hB:=Qh (show Below w.heap.size w (w.alloc (.cells (Q5 k nb mb b v (.slice A L c)) 25)) from Qb)
 obtain ⟨x0,x1,x2,x3,x4,x5⟩:=hX.cells hnb hmb
 clear ih h hR hRs hL hnb hmb hX
 go_enter Tryd.func73,Tryd.ntmps73
 go_upto_region 3 with fail
 obtain ⟨W1,hW1⟩:∃ W1,w.alloc (.cells (Q5 k nb mb b v (.slice A L c)) 25)=W1:=⟨_,rfl⟩
 rw [hW1] at hB x0 x1 x2 x3 x4 x5 ⊢
 clear hW1 x0 x1 x2 x3 x4 x5
 go_loopw [1,12] (fun v1 v12 wr=>∃ x i:Nat,v1 = .int .i64 (x:Int)∧v12 = .int .i64 (i:Int)∧i≤L∧x≤4001∧Hid (cnts (ts.drop i) x=R∧Below w.heap.size w wr)) (fun _ v12 _=>((L:Int) - intOf v12).toNat)
 case atStart=>exact ⟨n+1,0,rfl,rfl,Nat.zero_le _,by omega,Qh ⟨HL.out.2,hB.out⟩⟩
 case round=>
  obtain ⟨x,i,rfl,rfl,hi,hx,HI⟩:=hrel
  by_cases hlt:i<L
  ·have hltI:(i:Int)<(L:Int):=by omega
   have hi0:(0:Int)≤(i:Int):=by omega
   have hil:i<ts.length:=by rw [HL.out.1];exact hlt
   obtain ⟨a,ha⟩:∃ a,ts[i]?=some a:=⟨_,List.getElem?_eq_getElem hil⟩
   have hTr:=(HT.out.to HI.out.2 HI.out.2.size)
   obtain ⟨g,o,rfl,hgB,helt⟩:=hTr.arg ha
   obtain ⟨A',c',k',n',m',b',v',ts',nb',mb',rfl,hnb',hmb',hta,e0,e1,e2,e3,e4,e5⟩:=EltAt.cells helt
   have hd:ts.drop i = .mk k' n' m' b' v' ts' :: ts.drop (i+1):=by rw [List.drop_eq_getElem_cons hil,←List.getElem?_eq_some_iff.1 ha |>.2]
   have HC:=Qh (HIH.out _ (List.mem_of_getElem? ha))
   have HN:=Qh (Qa hnb' hmb')
   have HTA:=Qh hta
   have HLT:=Qh hlt
   have HD:=Qh hd
   have hg0:(0:Int)≤0:=by omega
   clear hTr helt hta hnb' hmb' ha hil hlt hd hi
   obtain ⟨q,hq⟩:∃ q,ts'.length=q:=⟨_,rfl⟩
   have HQ:=Qh hq
   rw [hq] at e5
   clear hq
   go_upto_region 5 with fail
   have HX2:=Qh (TBox.new (ts:=ts') wr (k:=k') (b:=b') (v:=v') (sl:=.slice A' q c') HN.out.1 HN.out.2)
   have HB2:=Qh (show Below w.heap.size w (wr.alloc (.cells (Q5 k' nb' mb' b' v' (.slice A' q c')) 25)) from HI.out.2.alloc HI.out.2.size _)
   have HT2:=Qh (show TAt (wr.alloc (.cells (Q5 k' nb' mb' b' v' (.slice A' q c')) 25)) (wr.alloc (.cells (Q5 k' nb' mb' b' v' (.slice A' q c')) 25)).heap.size (.mk k' n' m' b' v' ts') (.slice A' q c') from by
    have h9:=HTA.out
    rw [HQ.out] at h9
    exact h9.to (Qb) (by simp))
   generalize wr.alloc (.cells (Q5 k' nb' mb' b' v' (.slice A' q c')) 25)=W2 at *
   generalize wr.heap.size=gB at *
   obtain ⟨y0,y1,y2,y3,y4,y5⟩:=HX2.out.cells HN.out.1 HN.out.2
   clear e0 e1 e2 e3 e4 e5
   by_cases hbig:4000<x
   ·have hbI:(4000:Int)<(x:Int):=by omega
    have HE:=Qh (show x=R from by
     have h9:=HI.out.1
     rw [HD.out,cnts,if_pos hbig] at h9
     exact h9)
    clear hbig y0 y1 y2 y3 y4 y5
    go_wp2
    go_ret
    exact ⟨by rw [HE.out];rfl,HB2.out⟩
   ·have hbI:¬(4000:Int)<(x:Int):=by omega
    have HE:=Qh (show cnts (ts.drop (i+1)) (cnt (.mk k' n' m' b' v' ts') x)=R from by
     have h9:=HI.out.1
     rw [HD.out,cnts,if_neg hbig] at h9
     exact h9)
    have HCl:=Qh (HC.out W2 (.slice A' q c') x HT2.out (by omega))
    rw [valT_mk HN.out.1 HN.out.2] at HCl
    have HSm:=Qh (cnt_small (.mk k' n' m' b' v' ts') x (by omega))
    generalize cnt (.mk k' n' m' b' v' ts') x=z at *
    clear hbig
    go_wp2_with (go_at_call 73;(with_reducible refine HCl.out.mono ?_);rintro e w' ⟨rfl,hb3⟩;have HB3:=Qh (Qt HB2.out hb3);clear hb3)
    go_roundw
    case rel=>exact ⟨z,i+1,rfl,rfl,HLT.out,HSm.out,Qh ⟨HE.out,HB3.out⟩⟩
    case measure=>
     have:=HLT.out
     show ((L:Int) - ((i:Int)+1)).toNat<((L:Int) - (i:Int)).toNat
     omega
  ·have ei:i=L:=by omega
   subst ei
   have HE:=Qh (show x=R∧Below w.heap.size w wr from by
    have h9:=HI.out
    rw [List.drop_of_length_le (by rw [HL.out.1];exact Nat.le_refl _)] at h9
    exact h9)
   clear hlt hi
   go_wp2
   go_ret
   exact ⟨by rw [HE.out.1];rfl,HE.out.2⟩
theorem Nodes_any {w:World} {t:Tm} {sl:Value} (h:TAt w w.heap.size t sl):Calls Tryd.prog 61 #[valT t sl] w fun e w'=>e = .returned (.int .i64 (nodes t:Nat))∧Below w.heap.size w w':=by
 obtain ⟨k,nl,ml,b,v,ts,nb,mb,A,c,rfl,rfl,hnb,hmb,hl1,hl2,hl3,hv,hs1,hs2⟩:=h.letters
 have hc:=count_any (.mk k nl ml b v ts) (w.alloc (.cells (Q5 k nb mb b v (.slice A ts.length c)) 25)) (.slice A ts.length c) 0 (h.boxed _) (by omega)
 have hR:nodes (.mk k nl ml b v ts)=min (cnt (.mk k nl ml b v ts) 0) 4001:=rfl
 have hsm:=cnt_small (.mk k nl ml b v ts) 0 (by omega)
 rw [hv,show ((0:Nat):Int)=0 from rfl] at hc
 rw [hv,hR]
 generalize cnt (.mk k nl ml b v ts) 0=z at *
 rw [show min z 4001=z by omega]
 have HC:=Qh hc
 have hX:=TBox.new (ts:=ts) w (k:=k) (b:=b) (v:=v) (sl:=.slice A ts.length c) hnb hmb
 have HB:=Qh (show Below w.heap.size w (w.alloc (.cells (Q5 k nb mb b v (.slice A ts.length c)) 25)) from Qb)
 obtain ⟨x0,x1,x2,x3,x4,x5⟩:=hX.cells hnb hmb
 have hzI:(z:Int)≤4001:=by omega
 clear hc h hv hR hX
 go_enter Tryd.func61,Tryd.ntmps61
 go_wp2_with (go_at_call 73;(with_reducible refine HC.out.mono ?_);rintro e w' ⟨rfl,hb3⟩;have HB3:=Qh (Qt HB.out hb3);clear hb3)
 go_ret
 exact ⟨rfl,HB3.out⟩
def RCountOk (t:Tm):Prop:=∀ (w:World) (sl:Value) (n:Nat),TAt w w.heap.size t sl→n≤4000→Calls Tryd.prog 64 #[valT t sl,.int .i64 (n:Int)] w fun e w'=>e = .returned (.int .i64 (cnt t n:Nat))∧Below w.heap.size w w'
theorem rcount_any (t:Tm):RCountOk t:=by
 refine Tm.ind (p:=RCountOk) (fun k nl ml b v ts ih=>?_) t
 intro w sl n h hn
 obtain ⟨A,c,rfl,hl1,hl2,hl3⟩:=h.slice
 obtain ⟨nb,hnb⟩:∃ nb:ByteArray,(⟨nl.toArray⟩:ByteArray)=nb:=⟨_,rfl⟩
 obtain ⟨mb,hmb⟩:∃ mb:ByteArray,(⟨ml.toArray⟩:ByteArray)=mb:=⟨_,rfl⟩
 obtain ⟨L,hL⟩:∃ L,ts.length=L:=⟨_,rfl⟩
 change ts.length≤c at hl1
 change ts.length≤maxArgs at hl3
 change TAt w w.heap.size (.mk k nl ml b v ts) (.slice A ts.length c) at h
 change Calls Tryd.prog 64 #[valT _ (.slice A ts.length c),_] w _
 rw [valT_mk hnb hmb]
 rw [hL] at h hl1 hl3 ⊢
 obtain ⟨R,hR⟩:∃ R,cnt (.mk k nl ml b v ts) n=R:=⟨_,rfl⟩
 rw [hR]
 have hRs:cnts ts (n+1)=R:=by rw [←hR];rfl
 have HIH:=Qh ih
 have HT:=Qh h
 have HL:=Qh (Qa hL hRs)
 have hLI:(L:Int)≤1759218604400:=by unfold maxArgs at hl3;omega
 have hX:=TBox.new (ts:=ts) w (k:=k) (b:=b) (v:=v) (sl:=.slice A L c) hnb hmb
 have hB:=Qh (show Below w.heap.size w (w.alloc (.cells (Q5 k nb mb b v (.slice A L c)) 25)) from Qb)
 obtain ⟨x0,x1,x2,x3,x4,x5⟩:=hX.cells hnb hmb
 have HX:=Qh hX
 have HM:=Qh (Qa hnb hmb)
 clear ih h hR hRs hL hnb hmb hX
 go_enter Tryd.func64,Tryd.ntmps64
 go_upto_region 3 with fail
 obtain ⟨W1,hW1⟩:∃ W1,w.alloc (.cells (Q5 k nb mb b v (.slice A L c)) 25)=W1:=⟨_,rfl⟩
 rw [hW1] at hB HX x0 x1 x2 x3 x4 x5 ⊢
 have HT1:=Qh (HT.out.to hB.out hB.out.size)
 clear hW1 x0 x1 x2 x3 x4 x5
 go_loopw [1,5] (fun v1 v5 wr=>∃ x i:Nat,v1 = .int .i64 (x:Int)∧v5 = .int .i64 (i:Int)∧i≤L∧x≤4001∧Hid (cnts (ts.drop i) x=R∧Below W1.heap.size W1 wr)) (fun _ v5 _=>((L:Int) - intOf v5).toNat)
 case atStart=>exact ⟨n+1,0,rfl,rfl,Nat.zero_le _,by omega,Qh ⟨HL.out.2,Below.refl _ _⟩⟩
 case round=>
  obtain ⟨x,i,rfl,rfl,hi,hx,HI⟩:=hrel
  have hXr:=HX.out.below HI.out.2
  obtain ⟨x0,x1,x2,x3,x4,x5⟩:=hXr.cells HM.out.1 HM.out.2
  clear hXr
  by_cases hlt:i<L
  ·have hltI:(i:Int)<(L:Int):=by omega
   have hi0:(0:Int)≤(i:Int):=by omega
   have hil:i<ts.length:=by rw [HL.out.1];exact hlt
   obtain ⟨a,ha⟩:∃ a,ts[i]?=some a:=⟨_,List.getElem?_eq_getElem hil⟩
   have hTr:=(HT1.out.to HI.out.2 HI.out.2.size)
   obtain ⟨g,o,rfl,hgB,helt⟩:=hTr.arg ha
   obtain ⟨A',c',k',n',m',b',v',ts',nb',mb',rfl,hnb',hmb',hta,e0,e1,e2,e3,e4,e5⟩:=EltAt.cells helt
   have hd:ts.drop i = .mk k' n' m' b' v' ts' :: ts.drop (i+1):=by rw [List.drop_eq_getElem_cons hil,←List.getElem?_eq_some_iff.1 ha |>.2]
   have HC:=Qh (HIH.out _ (List.mem_of_getElem? ha))
   have HN:=Qh (Qa hnb' hmb')
   have HTA:=Qh hta
   have HLT:=Qh hlt
   have HD:=Qh hd
   clear hTr helt hta hnb' hmb' ha hil hlt hd hi
   by_cases hbig:4000<x
   ·have hbI:¬(x:Int)≤4000:=by omega
    have HE:=Qh (show x=R from by
     have h9:=HI.out.1
     rw [HD.out,cnts,if_pos hbig] at h9
     exact h9)
    have HB2:=Qh HI.out.2
    clear hbig
    go_wp2
    go_ret
    exact ⟨by rw [HE.out];rfl,Qt hB.out HB2.out⟩
   ·have hbI:(x:Int)≤4000:=by omega
    have HE:=Qh (show cnts (ts.drop (i+1)) (cnt (.mk k' n' m' b' v' ts') x)=R from by
     have h9:=HI.out.1
     rw [HD.out,cnts,if_neg hbig] at h9
     exact h9)
    have HCl:=Qh (HC.out wr (.slice A' ts'.length c') x HTA.out (by omega))
    rw [valT_mk HN.out.1 HN.out.2] at HCl
    have HSm:=Qh (cnt_small (.mk k' n' m' b' v' ts') x (by omega))
    have HB2:=Qh HI.out.2
    generalize cnt (.mk k' n' m' b' v' ts') x=z at *
    clear hbig
    go_wp2_with (go_at_call 64;(with_reducible refine HCl.out.mono ?_);rintro e w' ⟨rfl,hb3⟩;have HB3:=Qh (Qt HB2.out hb3);clear hb3)
    go_roundw
    case rel=>exact ⟨z,i+1,rfl,rfl,HLT.out,HSm.out,Qh ⟨HE.out,HB3.out⟩⟩
    case measure=>
     have:=HLT.out
     show ((L:Int) - ((i:Int)+1)).toNat<((L:Int) - (i:Int)).toNat
     omega
  ·have ei:i=L:=by omega
   subst ei
   have HE:=Qh (show x=R∧Below W1.heap.size W1 wr from by
    have h9:=HI.out
    rw [List.drop_of_length_le (by rw [HL.out.1];exact Nat.le_refl _)] at h9
    exact h9)
   clear hlt hi
   go_wp2
   go_ret
   exact ⟨by rw [HE.out.1];rfl,Qt hB.out HE.out.2⟩
theorem rNodes_any {w:World} {t:Tm} {sl:Value} (h:TAt w w.heap.size t sl):Calls Tryd.prog 40 #[valT t sl] w fun e w'=>e = .returned (.int .i64 (nodes t:Nat))∧Below w.heap.size w w':=by
 obtain ⟨k,nl,ml,b,v,ts,nb,mb,A,c,rfl,rfl,hnb,hmb,hl1,hl2,hl3,hv,hs1,hs2⟩:=h.letters
 have hc:=rcount_any (.mk k nl ml b v ts) (w.alloc (.cells (Q5 k nb mb b v (.slice A ts.length c)) 25)) (.slice A ts.length c) 0 (h.boxed _) (by omega)
 have hR:nodes (.mk k nl ml b v ts)=min (cnt (.mk k nl ml b v ts) 0) 4001:=rfl
 have hsm:=cnt_small (.mk k nl ml b v ts) 0 (by omega)
 rw [hv,show ((0:Nat):Int)=0 from rfl] at hc
 rw [hv,hR]
 generalize cnt (.mk k nl ml b v ts) 0=z at *
 rw [show min z 4001=z by omega]
 have HC:=Qh hc
 have hX:=TBox.new (ts:=ts) w (k:=k) (b:=b) (v:=v) (sl:=.slice A ts.length c) hnb hmb
 have HB:=Qh (show Below w.heap.size w (w.alloc (.cells (Q5 k nb mb b v (.slice A ts.length c)) 25)) from Qb)
 obtain ⟨x0,x1,x2,x3,x4,x5⟩:=hX.cells hnb hmb
 have hzI:(z:Int)≤4001:=by omega
 clear hc h hv hR hX
 go_enter Tryd.func40,Tryd.ntmps40
 go_upto_region 2 with (go_at_call 64;(with_reducible refine HC.out.mono ?_);rintro e w' ⟨rfl,hb3⟩;have HB3:=Qh (Qt HB.out hb3);clear hb3)
 by_cases hz:4000<z
 ·have hz1:z=4001:=by omega
  subst hz1
  go_wp2
  go_ret
  exact ⟨rfl,HB3.out⟩
 ·have hzI:¬(4000:Int)<(z:Int):=by omega
  go_wp2
  go_ret
  exact ⟨rfl,HB3.out⟩
end Go.Proofs.YtgfeainpeplphaaDoor
namespace Go.Proofs.YtgfeainpeplphaaDoor
open Go.RowKit Hb Ht
theorem below_drew' (w:World):Below w.heap.size w w.drew:=⟨rfl,rfl,rfl,Nat.le_refl _,fun _ _=>rfl⟩
def SameOk (t:Tm):Prop:=∀ (w:World) (sa sb:Value),TAt w w.heap.size t sa→TAt w w.heap.size t sb→Calls Tryd.prog 13 #[valT t sa,valT t sb] w fun e w'=>e = .returned (.bool true)∧Below w.heap.size w w'
theorem Same_any (t:Tm):SameOk t:=by
 refine Tm.ind (p:=SameOk) (fun k nl ml b v ts ih=>?_) t
 intro w sa sb ha hb
 obtain ⟨A,c,rfl,hl1,hl2,hl3⟩:=ha.slice
 obtain ⟨A2,c2,rfl,hm1,hm2,hm3⟩:=hb.slice
 obtain ⟨nb,hnb⟩:∃ nb:ByteArray,(⟨nl.toArray⟩:ByteArray)=nb:=⟨_,rfl⟩
 obtain ⟨mb,hmb⟩:∃ mb:ByteArray,(⟨ml.toArray⟩:ByteArray)=mb:=⟨_,rfl⟩
 obtain ⟨L,hL⟩:∃ L,ts.length=L:=⟨_,rfl⟩
 change ts.length≤c at hl1
 change ts.length≤c2 at hm1
 change ts.length≤maxArgs at hl3
 change TAt w w.heap.size (.mk k nl ml b v ts) (.slice A ts.length c) at ha
 change TAt w w.heap.size (.mk k nl ml b v ts) (.slice A2 ts.length c2) at hb
 change Calls Tryd.prog 13 #[valT _ (.slice A ts.length c),valT _ (.slice A2 ts.length c2)] w _
 rw [valT_mk hnb hmb,valT_mk hnb hmb]
 rw [hL] at ha hb hl1 hm1 hl3 ⊢
 have HIH:=Qh ih
 have HL:=Qh hL
 have HM:=Qh (Qa hnb hmb)
 have hLI:(L:Int)≤1759218604400:=by unfold maxArgs at hl3;omega
 obtain ⟨W0,hW0⟩:∃ W0,w.alloc (.cells (Q5 k nb mb b v (.slice A L c)) 25)=W0:=⟨_,rfl⟩
 have hX:=TBox.new (ts:=ts) w (k:=k) (b:=b) (v:=v) (sl:=.slice A L c) hnb hmb
 have hY:=TBox.new (ts:=ts) W0 (k:=k) (b:=b) (v:=v) (sl:=.slice A2 L c2) hnb hmb
 have hB0:Below w.heap.size w W0:=by rw [←hW0];exact Qb
 have hs0:W0.heap.size=w.heap.size+1:=by rw [←hW0];simp
 rw [hW0] at hX
 have hX1:=hX.below (w':=W0.alloc (.cells (Q5 k nb mb b v (.slice A2 L c2)) 25)) (Qb)
 have hB1:Below w.heap.size w (W0.alloc (.cells (Q5 k nb mb b v (.slice A2 L c2)) 25)):=hB0.alloc hB0.size _
 rw [hs0] at hY
 have HA:=Qh (ha.to hB1 hB1.size)
 have HBb:=Qh (hb.to hB1 hB1.size)
 have HB1:=Qh hB1
 have HX:=Qh (Qa hX1 hY)
 subst hW0
 clear ih ha hb hnb hmb hX hX1 hY hB0 hB1 hs0 hL
 obtain ⟨x0,x1,x2,x3,x4,x5⟩:=HX.out.1.cells HM.out.1 HM.out.2
 obtain ⟨y0,y1,y2,y3,y4,y5⟩:=HX.out.2.cells HM.out.1 HM.out.2
 go_enter Tryd.func13,Tryd.ntmps13
 go_upto_region 4 with fail
 obtain ⟨W1,hW1⟩:∃ W1,(w.alloc (.cells (Q5 k nb mb b v (.slice A L c)) 25)).alloc (.cells (Q5 k nb mb b v (.slice A2 L c2)) 25)=W1:=⟨_,rfl⟩
 rw [hW1] at HA HBb HB1 HX ⊢
 clear hW1 x0 x1 x2 x3 x4 x5 y0 y1 y2 y3 y4 y5
 go_loopw [5] (fun v5 wr=>∃ i:Nat,v5 = .int .i64 (i:Int)∧i≤L∧Hid (Below W1.heap.size W1 wr)) (fun v5 _=>((L:Int) - intOf v5).toNat)
 case atStart=>exact ⟨0,rfl,Nat.zero_le _,Qh (Below.refl _ _)⟩
 case round=>
  obtain ⟨i,rfl,hi,HI⟩:=hrel
  obtain ⟨x0,x1,x2,x3,x4,x5⟩:=(HX.out.1.below HI.out).cells HM.out.1 HM.out.2
  obtain ⟨y0,y1,y2,y3,y4,y5⟩:=(HX.out.2.below HI.out).cells HM.out.1 HM.out.2
  by_cases hlt:i<L
  ·have hltI:(i:Int)<(L:Int):=by omega
   have hi0:(0:Int)≤(i:Int):=by omega
   have hil:i<ts.length:=by rw [HL.out];exact hlt
   obtain ⟨a,ha⟩:∃ a,ts[i]?=some a:=⟨_,List.getElem?_eq_getElem hil⟩
   obtain ⟨g,o,rfl,hgB,helt⟩:=(HA.out.to HI.out HI.out.size).arg ha
   obtain ⟨A',c',k',n',m',b',v',ts',nb',mb',rfl,hnb',hmb',hta,e0,e1,e2,e3,e4,e5⟩:=EltAt.cells helt
   obtain ⟨g2,o2,rfl,hgB2,helt2⟩:=(HBb.out.to HI.out HI.out.size).arg ha
   obtain ⟨A3,c3,k3,n3,m3,b3,v3,ts3,nb3,mb3,heq,hnb3,hmb3,htb,f0,f1,f2,f3,f4,f5⟩:=EltAt.cells helt2
   cases heq
   rw [hnb'] at hnb3
   rw [hmb'] at hmb3
   subst hnb3 hmb3
   have HCl:=Qh (HIH.out _ (List.mem_of_getElem? ha) wr.drew _ _ (hta.to (below_drew' wr) (Nat.le_refl _)) (htb.to (below_drew' wr) (Nat.le_refl _)))
   rw [valT_mk hnb' hmb',valT_mk hnb' hmb'] at HCl
   have HLT:=Qh hlt
   clear helt helt2 hta htb hnb' hmb' ha hil hlt hi
   go_upto_region 6 with fail
   go_still_tail 10,(by kernel_rfl)
   change wpList _ _ _ _ _ wr.drew
   go_wp2_with (go_at_call 13;(with_reducible refine HCl.out.mono ?_);rintro e w' ⟨rfl,hb3⟩;have HB3:=Qh ((HI.out.trans ((below_drew' wr).mono HI.out.size)).trans (hb3.mono HI.out.size));clear hb3)
   go_roundw
   case rel=>exact ⟨i+1,rfl,HLT.out,HB3⟩
   case measure=>
    have:=HLT.out
    show ((L:Int) - ((i:Int)+1)).toNat<((L:Int) - (i:Int)).toNat
    omega
  ·have ei:i=L:=by omega
   subst ei
   have HE:=Qh HI.out
   clear hlt hi
   go_wp2
   go_ret
   exact ⟨rfl,Qt HB1.out HE.out⟩
end Go.Proofs.YtgfeainpeplphaaDoor
namespace Go.Proofs.YtgfeainpeplphaaDoor
open Go
section
variable {P:Program} {ops:Array Oper} {Q:Exit→Act→World→Prop} {md:Region.Mode} {S:World→Prop} {st:Nat}
def wpAnyW (P:Program) (md:Region.Mode) (ops:Array Oper) (Q:Exit→Act→World→Prop) (S:World→Prop) (st:Nat):Nat→Array Bool→Act→World→Prop
 | 0,listed,a,w=>Region.ready md ops listed = []∧Q .normal a w
 | fuel+1,listed,a,w=>
  (Region.ready md ops listed = []→Q .normal a w) ∧
  ∀ i∈Region.ready md ops listed,wpOp P ops Q i (fun a' w'=>((listed.setIfInBounds i true).getD st true=false→S w')∧wpAnyW P md ops Q S st fuel (listed.setIfInBounds i true) a' w') a w
theorem wpAny_of_wait:∀ (fuel:Nat) (listed:Array Bool) (a:Act) (w:World),wpAnyW P md ops Q S st fuel listed a w→wpAny P md ops Q fuel listed a w
 | 0,_,_,_,h=>h
 | fuel+1,_,_,_,h=>⟨h.1,fun i hi=>wpOp_mono (fun a' w' h'=>wpAny_of_wait fuel _ a' w' h'.2) (h.2 i hi)⟩
def waitsFor (md:Region.Mode) (ops:Array Oper) (st i:Nat):Bool:=
 match ops[st]? with
 | none=>false
 | some o=>o.after.any fun e=>Region.binds md e && e.on==i
theorem not_ready_of_waits {i:Nat} {listed:Array Bool} (hw:waitsFor md ops st i=true) (hi:i∈Region.ready md ops listed):st∉Region.ready md ops listed:=by
 intro h
 obtain ⟨_,o,ho,hall⟩:=mem_ready.1 h
 simp only [waitsFor,ho] at hw
 obtain ⟨e,he,hb⟩:=Array.any_eq_true'.1 hw
 simp only [Bool.and_eq_true,beq_iff_eq] at hb
 have h1:=hall e he hb.1
 have h0:=(mem_ready.1 hi).1
 rw [hb.2] at h1
 rcases Nat.lt_or_ge i listed.size with h' | h'
 ·simp [h'] at h0 h1;rw [h0] at h1;cases h1
 ·simp [Array.getElem?_eq_none h'] at h1
theorem not_ready_of_unlisted {k:Nat} {listed:Array Bool} (hw:waitsFor md ops st k=true) (hk:listed.getD k true=false):st∉Region.ready md ops listed:=by
 intro h
 obtain ⟨_,o,ho,hall⟩:=mem_ready.1 h
 simp only [waitsFor,ho] at hw
 obtain ⟨e,he,hb⟩:=Array.any_eq_true'.1 hw
 simp only [Bool.and_eq_true,beq_iff_eq] at hb
 have h1:=hall e he hb.1
 have h0:=hk
 rw [hb.2] at h1
 rcases Nat.lt_or_ge k listed.size with h' | h'
 ·simp [h'] at h0 h1;rw [h0] at h1;cases h1
 ·simp [Array.getElem?_eq_none h'] at h1
theorem wpAnyW_first {i k:Nat} {oi:Oper} {v:Value} (hi:ops[i]?=some oi) (hsel:∀ (j:Nat) (o:Oper) cs b,ops[j]?=some o→o.op ≠ .select cs b)
  (hQ:∀ c a w,Q (.panic c) (a.put oi.dst v) w→Q (.panic c) a w) (hki:waitsFor md ops k i=true) (hnk:(k==i)=false) (hst:(st==k)=true∨waitsFor md ops st k=true) (hne:(st==i)=false) :
  ∀ (fuel:Nat) (listed:Array Bool) (a:Act) (w:World),
   (∀ j oj,ops[j]?=some oj→j≠i→listed.getD j true=false→(∀ e∈oj.after,Region.binds md e=true→e.on≠i)→oi.apart ops oj=true) →
   i∈Region.ready md ops listed→YieldsIf P ops S oi v a→listed.getD k true=false→listed.getD st true=false→S w →
   wpAnyW P md ops Q S st fuel (listed.setIfInBounds i true) (a.put oi.dst v) w→wpAnyW P md ops Q S st (fuel+1) listed a w:=by
 have hne':i≠st:=fun e=>by subst e;simp at hne
 have hnk':i≠k:=fun e=>by subst e;simp at hnk
 intro fuel
 induction fuel with
 | zero=>
  intro listed a w _ hr hy hk hl hS H
  refine ⟨fun h=>(by rw [h] at hr;cases hr),fun j hj=>?_⟩
  by_cases hji:j=i
  ·subst hji;exact hy.wpOp hi hS ⟨fun _=>hS,H⟩
  ·have:=ready_mono hj hji
   rw [H.1] at this
   cases this
 | succ fuel ih=>
  intro listed a w hfree hr hy hk hl hS H
  refine ⟨fun h=>(by rw [h] at hr;cases hr),fun j hj=>?_⟩
  by_cases hji:j=i
  ·subst hji;exact hy.wpOp hi hS ⟨fun _=>hS,H⟩
  ·have hjk:j≠k:=fun e=>not_ready_of_waits hki hr (e ▸ hj)
   have hjs:j≠st:=fun e=>by
    rcases hst with h | h
    ·exact hjk (e.trans (by simpa using h))
    ·exact not_ready_of_unlisted h hk (e ▸ hj)
   have h1:=H.2 j (ready_mono hj hji)
   obtain ⟨hjun,oj,hoj,hall⟩:=mem_ready.1 hj
   have hnot:∀ e∈oj.after,Region.binds md e=true→e.on≠i:=fun e he hb heq=>by
    have h1:=hall e he hb
    have h0:=(mem_ready.1 hr).1
    rw [heq] at h1
    rcases Nat.lt_or_ge i listed.size with h' | h'
    ·simp [h'] at h0 h1;rw [h0] at h1;cases h1
    ·simp [Array.getElem?_eq_none h'] at h1
   have h2:=wpOp_putIf hoj (hfree j oj hoj hji hjun hnot) (fun cs b=>hsel i oi cs b hi) (fun cs b=>hsel j oj cs b hoj) hQ hy h1
   have hfree':∀ k ok,ops[k]?=some ok→k≠i→(listed.setIfInBounds j true).getD k true=false →
     (∀ e∈ok.after,Region.binds md e=true→e.on≠i)→oi.apart ops ok=true:=fun k ok hk hki hun hno=>by
    refine hfree k ok hk hki ?_ hno
    by_cases hjk:j=k
    ·subst hjk;exact hjun
    ·rw [getD_set_ne true hjk] at hun;exact hun
   have hl':(listed.setIfInBounds j true).getD st true=false:=by rw [getD_set_ne true hjs];exact hl
   have hk':(listed.setIfInBounds j true).getD k true=false:=by rw [getD_set_ne true hjk];exact hk
   have hl2:((listed.setIfInBounds i true).setIfInBounds j true).getD st true=false:=by rw [getD_set_ne true hjs,getD_set_ne true hne'];exact hl
   refine wpOp_mono (fun a' w' h3=>⟨fun _=>h3.2.1 hl2,ih (listed.setIfInBounds j true) a' w' hfree' (ready_mono hr (Ne.symm hji)) h3.1 hk' hl' (h3.2.1 hl2) ?_⟩) h2
   rw [Array.setIfInBounds_comm _ _ hji]
   exact h3.2.2
theorem wpAnyW_take {i:Nat} (k:Nat) {oi:Oper} {v:Value} {fuel:Nat} {listed:Array Bool} {a:Act} {w:World} (hi:ops[i]?=some oi)
  (hs:Region.noSelect ops=true) (hf:Region.free md ops listed i=true) (hr:(Region.ready md ops listed).contains i=true)
  (hst:(waitsFor md ops k i && !(k==i) && (st==k || waitsFor md ops st k) && !(st==i) && !listed.getD k true && !listed.getD st true)=true)
  (hQ:∀ c a w,Q (.panic c) (a.put oi.dst v) w→Q (.panic c) a w) (hy:YieldsIf P ops S oi v a) (hS:S w)
  (h:wpAnyW P md ops Q S st fuel (listed.setIfInBounds i true) (a.put oi.dst v) w):wpAnyW P md ops Q S st (fuel+1) listed a w:=by
 simp only [Bool.and_eq_true,Bool.not_eq_true',Bool.or_eq_true] at hst
 exact wpAnyW_first hi (Region.noSelect_spec hs) hQ hst.1.1.1.1.1 hst.1.1.1.1.2 hst.1.1.1.2 hst.1.1.2 fuel listed a w (Region.free_spec hi hf) (by simpa using hr) hy hst.1.2 hst.2 hS h
theorem wpAnyW_one {i:Nat} {o:Oper} {fuel:Nat} {listed:Array Bool} {a:Act} {w:World} (hr:Region.ready md ops listed = [i]) (ho:ops[i]?=some o)
  (h:∀ K':Act→World→Prop,Shut (∀ a w,((listed.setIfInBounds i true).getD st true=false→S w)→wpAnyW P md ops Q S st fuel (listed.setIfInBounds i true) a w→K' a w)→if Region.wanted o (yielded ops a.tmps)=true then Oper.wp P o a w K' Q else K' (a.put o.dst undef) w) :
  wpAnyW P md ops Q S st (fuel+1) listed a w:=
 ⟨fun h0=>absurd (hr ▸ h0) (by simp),fun j hj=>by
  rw [hr] at hj
  obtain rfl:j=i:=by simpa using hj
  exact wpOp_step ho (fun K' hK=>h K' (fun a w hS hW=>hK a w ⟨hS,hW⟩))⟩
theorem wpAnyW_two {i i2:Nat} {o o2:Oper} {fuel:Nat} {listed:Array Bool} {a:Act} {w:World} (hr:Region.ready md ops listed = [i,i2]) (ho:ops[i]?=some o) (ho2:ops[i2]?=some o2)
  (h:∀ K':Act→World→Prop,Shut (∀ a w,((listed.setIfInBounds i true).getD st true=false→S w)→wpAnyW P md ops Q S st fuel (listed.setIfInBounds i true) a w→K' a w)→if Region.wanted o (yielded ops a.tmps)=true then Oper.wp P o a w K' Q else K' (a.put o.dst undef) w)
  (h2:∀ K':Act→World→Prop,Shut (∀ a w,((listed.setIfInBounds i2 true).getD st true=false→S w)→wpAnyW P md ops Q S st fuel (listed.setIfInBounds i2 true) a w→K' a w)→if Region.wanted o2 (yielded ops a.tmps)=true then Oper.wp P o2 a w K' Q else K' (a.put o2.dst undef) w) :
  wpAnyW P md ops Q S st (fuel+1) listed a w:=
 ⟨fun h0=>absurd (hr ▸ h0) (by simp),fun j hj=>by
  rw [hr] at hj
  rcases List.mem_cons.1 hj with rfl | hj
  ·exact wpOp_step ho (fun K' hK=>h K' (fun a w hS hW=>hK a w ⟨hS,hW⟩))
  ·obtain rfl:j=i2:=by simpa using hj
   exact wpOp_step ho2 (fun K' hK=>h2 K' (fun a w hS hW=>hK a w ⟨hS,hW⟩))⟩
theorem wpAnyW_done {listed:Array Bool} {a:Act} {w:World} (hr:Region.ready md ops listed = []) (h:Q .normal a w) :
  ∀ fuel,wpAnyW P md ops Q S st fuel listed a w
 | 0=>⟨hr,h⟩
 | _+1=>⟨fun _=>h,by rw [hr];simp⟩
theorem wp_region_wait {id:Nat} {a:Act} {w:World} (S:World→Prop) (st:Nat) (hm:P.follows .mixedOrders=true)
  (h:wpAnyW P .any ops Q S st ops.size (Array.replicate ops.size false) a { w with drawn:=w.drawn+1 }):(Code.region id ops true).wp P Q a w:=
 wp_region_any hm (wpAny_of_wait _ _ _ _ h)
theorem w1 (i : Nat) {o : Oper} {fuel : Nat} {listed : Array Bool} {a : Act} {w : World}
 (h : ∀ K' : Act → World → Prop, Shut (∀ a w, ((listed.setIfInBounds i true).getD st true = false → S w) → wpAnyW P md ops Q S st fuel (listed.setIfInBounds i true) a w → K' a w) → if Region.wanted o (yielded ops a.tmps) = true then Oper.wp P o a w K' Q else K' (a.put o.dst undef) w)
 (hr : Region.ready md ops listed = [i] := by kernel_rfl) (ho : ops[i]? = some o := by rfl) : wpAnyW P md ops Q S st (fuel + 1) listed a w := wpAnyW_one hr ho h
theorem w3 (k i : Nat) (v : Value) {oi : Oper} {fuel : Nat} {listed : Array Bool} {a : Act} {w : World} (hS : S w) (hy : ∀ w2, S w2 → (execOp a.eval oi).run P w2 = .ok (.value v) w2)
 (h : wpAnyW P md ops Q S st fuel (listed.setIfInBounds i true) (a.put oi.dst v) w) (hi : ops[i]? = some oi := by rfl)
 (hs : Region.noSelect ops = true := by kernel_rfl) (hf : Region.free md ops listed i = true := by kernel_rfl) (hr : (Region.ready md ops listed).contains i = true := by kernel_rfl)
 (hst : (waitsFor md ops k i && !(k == i) && (st == k || waitsFor md ops st k) && !(st == i) && !listed.getD k true && !listed.getD st true) = true := by kernel_rfl)
 (hQ : ∀ c a w, Q (.panic c) (a.put oi.dst v) w → Q (.panic c) a w := by exact fun _ _ _ h => h) (hg : Region.wanted oi (yielded ops a.tmps) = true := by rfl) : wpAnyW P md ops Q S st (fuel + 1) listed a w :=
 wpAnyW_take k hi hs hf hr hst hQ (.inl ⟨hg, hy⟩) hS h
end
end Go.Proofs.YtgfeainpeplphaaDoor
namespace Ht
open Go Go.RowKit Hb
def fl6 (ps:List (Tm × Value)):List Value:=ps.flatMap (fun p=>cells6 p.1 p.2)
theorem fl6_length (ps:List (Tm × Value)):(fl6 ps).length=ps.length * 6:=by
 induction ps with
 | nil=>rfl
 | cons p ps ih=>
  have e:fl6 (p :: ps)=cells6 p.1 p.2 ++ fl6 ps:=by simp [fl6]
  rw [e,List.length_append,ih,List.length_cons]
  show 6+_=_
  omega
theorem fl6_append (ps qs:List (Tm × Value)):fl6 (ps ++ qs)=fl6 ps ++ fl6 qs:=by simp [fl6]
theorem fl6_get {ps:List (Tm × Value)} {i j:Nat} {p:Tm × Value} (hi:ps[i]?=some p) (hj:j<6):(fl6 ps)[i * 6+j]?=(cells6 p.1 p.2)[j]?:=by
 induction ps generalizing i with
 | nil=>simp at hi
 | cons q ps ih=>
  have e:fl6 (q :: ps)=cells6 q.1 q.2 ++ fl6 ps:=by simp [fl6]
  have hl:(cells6 q.1 q.2).length=6:=rfl
  rw [e]
  cases i with
  | zero=>cases hi;rw [List.getElem?_append_left (by omega)];simp
  | succ i=>
   rw [List.getElem?_append_right (by omega),show (i+1) * 6+j - (cells6 q.1 q.2).length=i * 6+j by omega]
   exact ih (by simpa using hi)
theorem fl6_one (ps:List (Tm × Value)) (h:∀ p∈ps,p.2.oneCell'=true):∀ u∈fl6 ps,u.oneCell'=true:=by
 intro u hu
 obtain ⟨p,hp,hy⟩:=List.mem_flatMap.1 hu
 unfold cells6 at hy
 simp at hy
 rcases hy with rfl | rfl | rfl | rfl | rfl | rfl
 all_goals first | rfl | exact h p hp
theorem TAtP.one {w:World} {P:Nat→Prop} {t:Tm} {sl:Value} (h:TAtP w P t sl):sl.oneCell'=true:=by
 obtain ⟨A,c,rfl,_⟩:=TAtP.iff.1 h
 rfl
end Ht
namespace Go.Proofs.YtgfeainpeplphaaDoor
open Go.RowKit Hb Ht
theorem infoT:(Tryd.prog.info? 25).map (fun i=>(i.zero,i.size,i.bytes))=some (some (.agg Qz),6,80):=by kernel_rfl
structure TRow (w:World) (B:Nat) (P:Nat→Prop) (A:Option Addr) (n c:Nat) (ps:List (Tm × Value)):Prop where
 own:w.ownsRow B 25 6 (.slice A n c) n (fl6 ps)
 kid:∀ p∈ps,TAtP w (fun b=>P b∧(Value.slice A n c).ownBlock≠some b) p.1 p.2
section
variable {w w':World} {B:Nat} {P:Nat→Prop} {A:Option Addr} {n c:Nat} {ps:List (Tm × Value)}
theorem TRow.len (h:TRow w B P A n c ps):ps.length=n:=by have:=h.own.1;rw [fl6_length] at this;omega
theorem TRow.cap (h:TRow w B P A n c ps):n≤c∧c≤maxLen:=by
 rcases h.own.2 with ⟨h1,_⟩ | ⟨g,cap,cur,h1,h2,h3,h4,h5,_⟩
 ·injection h1 with a b c;subst b;subst c;exact ⟨Nat.le_refl _,by simp [maxLen]⟩
 ·injection h1 with a b c;subst c;exact ⟨h4,h5⟩
theorem TRow.nil (w:World) (B:Nat) (P:Nat→Prop):TRow w B P none 0 0 []:=⟨⟨rfl,.inl ⟨rfl,rfl⟩⟩,fun p hp=>by cases hp⟩
theorem TRow.block (h:TRow w B P A n c ps):(A=none∧n=0)∨∃ g,A=some ⟨g,0,none⟩∧B≤g∧g<w.heap.size∧(Value.slice A n c).ownBlock=some g:=by
 rcases h.own.2 with ⟨h1,_⟩ | ⟨g,cap,cur,h1,h2,h3,_⟩
 ·injection h1 with a b c;exact .inl ⟨a,b⟩
 ·injection h1 with a b c
  subst a
  exact .inr ⟨g,rfl,h2,(Array.getElem?_eq_some_iff.1 h3).1,rfl⟩
theorem TRow.keep (h:TRow w B P A n c ps) (hb:Below w.heap.size w w') (hP:∀ b,P b→b<w.heap.size):TRow w' B P A n c ps:=by
 refine ⟨⟨h.own.1,?_⟩,fun p hp=>TAtP.keep _ (h.kid p hp) (fun b hb2=>⟨hb2,hb.block b (hP b hb2.1)⟩)⟩
 rcases h.own.2 with h1 | ⟨g,cap,cur,h1,h2,h3,h4⟩
 ·exact .inl h1
 ·exact .inr ⟨g,cap,cur,h1,h2,(hb.block g (Array.getElem?_eq_some_iff.1 h3).1).trans h3,h4⟩
theorem TRow.wide {Q:Nat→Prop} (h:TRow w B P A n c ps) (hP:∀ b,P b→Q b):TRow w B Q A n c ps:=
 ⟨h.own,fun p hp=>TAtP.keep _ (h.kid p hp) (fun b hb2=>⟨⟨hP b hb2.1,hb2.2⟩,rfl⟩)⟩
theorem TRow.lower {B':Nat} (h:TRow w B P A n c ps) (hB:B'≤B):TRow w B' P A n c ps:=by
 refine ⟨⟨h.own.1,?_⟩,h.kid⟩
 rcases h.own.2 with h1 | ⟨g,cap,cur,h1,h2,h3⟩
 ·exact .inl h1
 ·exact .inr ⟨g,cap,cur,h1,Nat.le_trans hB h2,h3⟩
theorem TRow.keepP (h:TRow w B P A n c ps) (hb:∀ b,B≤b→b<w.heap.size→w'.heap[b]?=w.heap[b]?) (hP:∀ b,P b→w'.heap[b]?=w.heap[b]?):TRow w' B P A n c ps:=by
 refine ⟨⟨h.own.1,?_⟩,fun p hp=>TAtP.keep _ (h.kid p hp) (fun b hb2=>⟨hb2,hP b hb2.1⟩)⟩
 rcases h.own.2 with h1 | ⟨g,cap,cur,h1,h2,h3,h4⟩
 ·exact .inl h1
 ·exact .inr ⟨g,cap,cur,h1,h2,(hb g h2 (Array.getElem?_eq_some_iff.1 h3).1).trans h3,h4⟩
theorem TRow.termP (h:TRow w B P A n c ps) (hP:∀ b,B≤b→b<w.heap.size→P b) {t:Tm} (ht:t.as=ps.map (·.1)) (hn:n≤maxArgs) (ho:okF t):TAtP w P t (.slice A n c):=by
 have hl:=h.len
 have hl2:t.as.length=n:=by rw [ht,List.length_map,hl]
 rw [TAtP.iff,hl2]
 refine ⟨A,c,rfl,h.cap.1,h.cap.2,hn,ho,fun hne=>?_⟩
 have hn0:0<n:=by rw [←hl2];exact List.length_pos_iff.2 hne
 rcases h.block with ⟨_,h0⟩ | ⟨g,rfl,hB,hg,_⟩
 ·omega
 ·refine ⟨g,0,rfl,hP g hB hg,fun i a ha=>?_⟩
  rw [ht,List.getElem?_map] at ha
  cases hp:ps[i]? with
  | none=>rw [hp] at ha;cases ha
  | some p=>
   rw [hp] at ha
   cases ha
   refine ⟨p.2,fun j hj=>?_,TAtP.keep _ (h.kid p (List.mem_of_getElem? hp)) (fun b hb=>⟨hb.1,rfl⟩)⟩
   have hc:=fl6_get hp hj
   have hlt:j<(cells6 p.1 p.2).length:=hj
   rw [List.getElem?_eq_getElem hlt] at hc ⊢
   have h9:=World.ownsRow.cells h.own (g:=g) rfl _ _ hc
   rw [add_zero'] at h9
   rw [Nat.zero_add]
   exact h9
end
theorem run_append_T {w:World} {B:Nat} {P:Nat→Prop} {A:Option Addr} {n c:Nat} {ps qs:List (Tm × Value)} (h:TRow w B P A n c ps) (hP:∀ b,P b→b<w.heap.size) {ad:Addr} {m:Nat} (hq:qs.length=m)
  (hk:∀ q∈qs,TAtP w (fun b=>P b∧(Value.slice A n c).ownBlock≠some b) q.1 q.2) (hnews:∀ j u,(fl6 qs)[j]?=some u→w.cell? (ad.add j)=some u) (hm:n+m≤maxArgs) (hb:B≤w.heap.size)
  {v':Value} {w':World} (ho:w'.ownsRow B 25 6 v' (n+m) (fl6 ps ++ fl6 qs)) (hg:w.grownBy w' (Value.slice A n c).ownBlock) (hv:v'.ownBlock=(Value.slice A n c).ownBlock∨v'.ownBlock=some w.heap.size) :
  ∃ A' c',v' = .slice A' (n+m) c'∧TRow w' B P A' (n+m) c' (ps ++ qs)∧Below B w w':=by
 have hf:∃ A' c',v' = .slice A' (n+m) c':=by
  rcases ho.2 with ⟨h1,h2⟩ | ⟨g',cap,cur,h1,_⟩
  ·exact ⟨none,0,by rw [h1,h2]⟩
  ·exact ⟨_,cap,h1⟩
 obtain ⟨A',c',rfl⟩:=hf
 refine ⟨A',c',rfl,⟨by rw [fl6_append];exact ho,fun p hp=>?_⟩,⟨hg.os,hg.tape,hg.output,hg.size,fun j hj=>hg.block j (Ql hj hb) (fun e2=>?_)⟩⟩
 ·have hkid:TAtP w (fun b=>P b∧(Value.slice A n c).ownBlock≠some b) p.1 p.2:=by
   rcases List.mem_append.1 hp with hp | hp
   ·exact h.kid p hp
   ·exact hk p hp
  refine TAtP.keep _ hkid (fun b hb2=>⟨⟨hb2.1,?_⟩,hg.block b (hP b hb2.1) (fun e=>hb2.2 e.symm)⟩)
  rcases hv with hv | hv
  ·rw [hv];exact hb2.2
  ·rw [hv];intro e;have:=hP b hb2.1;injection e with e;omega
 ·rcases h.block with ⟨h1,_⟩ | ⟨g,h1,h2,h3,h4⟩
  ·subst h1;simp [Value.ownBlock] at e2
  ·rw [h4] at e2;injection e2 with e2;omega
theorem wpList_append_T {ops:Array Oper} {rest:List Oper} {o:Oper} {a:Act} {Q:Exit→Act→World→Prop} {w:World} (hgd:o.guard=none) (s x:Operand)
  (ho:o.op = .call { callee:=.builtin .append,args:=#[s,x],argTypes:=#[23,23] })
  {B:Nat} {P:Nat→Prop} {A:Option Addr} {n c:Nat} {ps:List (Tm × Value)} (qs:List (Tm × Value)) (hs:a.eval s = .slice A n c) (h:TRow w B P A n c ps) (hP:∀ b,P b→b<w.heap.size)
  (ad:Addr) (m c2:Nat) (hx:a.eval x = .slice (some ad) m c2) (hq:qs.length=m) (hk:∀ q∈qs,TAtP w (fun b=>P b∧(Value.slice A n c).ownBlock≠some b) q.1 q.2) (hnews:∀ j u,(fl6 qs)[j]?=some u→w.cell? (ad.add j)=some u)
  (hm:n+m≤maxArgs) (hb:B≤w.heap.size)
  (hh:∀ A' c' w',TRow w' B P A' (n+m) c' (ps ++ qs)→Below B w w'→w.grownBy w' (Value.slice A n c).ownBlock→wpList Tryd.prog ops Q rest (a.put o.dst (.slice A' (n+m) c')) w') :
  wpList Tryd.prog ops Q (o :: rest) a w:=by
 obtain ⟨i0,hi,hz0,hz1,hz2⟩:=info_parts infoT
 have hml:n+m≤maxLen:=by unfold maxLen;unfold maxArgs at hm;omega
 have hmb:(n+m) * 80≤140737488355328:=by unfold maxArgs at hm;omega
 refine wpList_append_own_at _ hgd s x 23 ho B 25 i0 (.agg Qz) 6 80 Tryd.underlying23 hi hz0 hz1 hz2 rfl (by decide) _ n (fl6 ps) hs h.own ad m c2 (fl6 qs) hx (by rw [fl6_length,hq]) hnews (fl6_one qs (fun q hq2=>TAtP.one (hk q hq2))) hml hmb hb ?_
 intro v' w' ho' hg _ hv
 obtain ⟨A',c',rfl,hr,hbw⟩:=run_append_T h hP hq hk hnews hm hb ho' hg hv
 exact hh A' c' w' hr hbw hg
theorem step_append_T {o:Oper} {a:Act} {w:World} {K:Act→World→Prop} {Q:Exit→Act→World→Prop} (hgd:o.guard=none) (s x:Operand)
  (ho:o.op = .call { callee:=.builtin .append,args:=#[s,x],argTypes:=#[23,23] })
  {B:Nat} {P:Nat→Prop} {A:Option Addr} {n c:Nat} {ps:List (Tm × Value)} (qs:List (Tm × Value)) (hs:a.eval s = .slice A n c) (h:TRow w B P A n c ps) (hP:∀ b,P b→b<w.heap.size)
  (ad:Addr) (m c2:Nat) (hx:a.eval x = .slice (some ad) m c2) (hq:qs.length=m) (hk:∀ q∈qs,TAtP w (fun b=>P b∧(Value.slice A n c).ownBlock≠some b) q.1 q.2) (hnews:∀ j u,(fl6 qs)[j]?=some u→w.cell? (ad.add j)=some u)
  (hm:n+m≤maxArgs) (hb:B≤w.heap.size)
  (hh:∀ A' c' w',TRow w' B P A' (n+m) c' (ps ++ qs)→Below B w w'→w.grownBy w' (Value.slice A n c).ownBlock→K (a.put o.dst (.slice A' (n+m) c')) w') :
  Oper.wp Tryd.prog o a w K Q:=by
 obtain ⟨i0,hi,hz0,hz1,hz2⟩:=info_parts infoT
 have hml:n+m≤maxLen:=by unfold maxLen;unfold maxArgs at hm;omega
 have hmb:(n+m) * 80≤140737488355328:=by unfold maxArgs at hm;omega
 obtain ⟨v',w',hr,h2,h3,h4,h5⟩:=run_append_own_at (P:=Tryd.prog) w B 23 o.type 25 i0 (.agg Qz) 6 80 Tryd.underlying23 hi hz0 hz1 hz2 rfl (by decide) (.slice A n c) n (fl6 ps) h.own ad m c2 (fl6 qs) (by rw [fl6_length,hq]) hnews (fl6_one qs (fun q hq2=>TAtP.one (hk q hq2))) hml hmb hb
 obtain ⟨A',c',rfl,hr2,hbw⟩:=run_append_T h hP hq hk hnews hm hb h2 h3 h5
 unfold Oper.wp execOp
 simp only [ho,resolve,invoke,builtin,Sem.run_bind,Sem.run_pure,Result.andThen_ok,List.map_toArray,List.map_cons,List.map_nil,hs,hx,hr]
 exact hh _ _ _ hr2 hbw h3
end Go.Proofs.YtgfeainpeplphaaDoor
namespace Go.Proofs.YtgfeainpeplphaaDoor
open Go.RowKit Hb Ht
attribute [local go_sem] Oper.semAt_some
def FreshT (w w':World) (t:Tm) (sl:Value):Prop:=TAtP w' (fun b=>w.heap.size≤b∧b<w'.heap.size) t sl
theorem FreshT.at_ {w w':World} {t:Tm} {sl:Value} (h:FreshT w w' t sl):TAt w' w'.heap.size t sl:=TAtP.keep _ h (fun b hb=>⟨hb.2,rfl⟩)
def ROwnOk (t:Tm):Prop:=∀ (w:World) (sl:Value),TAt w w.heap.size t sl→Calls Tryd.prog 8 #[valT t sl] w fun e w'=>∃ sl',e = .returned (valT t sl')∧FreshT w w' t sl'∧Below w.heap.size w w'
theorem fresh_letters {f:Nat} {args:Array Value} {w:World} {k b v:Int} {n m:List UInt8} {ts:List Tm} {nb mb:ByteArray} {q:Nat} (hn:(⟨n.toArray⟩:ByteArray)=nb) (hm:(⟨m.toArray⟩:ByteArray)=mb) (hq:ts.length=q)
  (h:Calls Tryd.prog f args w fun e w'=>∃ sl',e = .returned (valT (.mk k n m b v ts) sl')∧FreshT w w' (.mk k n m b v ts) sl'∧Below w.heap.size w w') :
  Calls Tryd.prog f args w fun e w'=>∃ A c,e = .returned (.agg (Q5 k nb mb b v (.slice A q c)))∧FreshT w w' (.mk k n m b v ts) (.slice A q c)∧Below w.heap.size w w':=
 h.mono fun e w' ⟨sl',he,hf,hb⟩=>by
  obtain ⟨A,c,rfl,_⟩:=hf.at_.slice
  change e = .returned (valT _ (.slice A ts.length c)) at he
  change FreshT w w' _ (.slice A ts.length c) at hf
  rw [valT_mk hn hm,hq] at he
  rw [hq] at hf
  exact ⟨A,c,he,hf,hb⟩
def ROwnS (G G5 g o:Nat) (vO vI:Value) (k:Int) (nb mb:ByteArray) (b v:Int) (sl:Value) (w':World):Prop:=
 w'.cell? ⟨G5,5,none⟩=some vO∧w'.cell? ⟨G,5,none⟩=some vI∧Q7 w' g o k nb mb b v sl
theorem ROwnS.keep {G G5 g o:Nat} {vO vI:Value} {k:Int} {nb mb:ByteArray} {b v:Int} {sl:Value} {w w':World} (h:ROwnS G G5 g o vO vI k nb mb b v sl w) (h5:w'.heap[G5]?=w.heap[G5]?) (h1:w'.heap[G]?=w.heap[G]?) (hg:w'.heap[g]?=w.heap[g]?):ROwnS G G5 g o vO vI k nb mb b v sl w':=by
 obtain ⟨s1,s2,s3,s4,s5,s6,s7,s8⟩:=h
 exact ⟨(Qc (a:=⟨G5,5,none⟩) h5).trans s1,(Qc (a:=⟨G,5,none⟩) h1).trans s2,(Qc (a:=⟨g,o,none⟩) hg).trans s3,(Qc (a:=⟨g,o+1,none⟩) hg).trans s4,(Qc (a:=⟨g,o+2,none⟩) hg).trans s5,(Qc (a:=⟨g,o+3,none⟩) hg).trans s6,(Qc (a:=⟨g,o+4,none⟩) hg).trans s7,(Qc (a:=⟨g,o+5,none⟩) hg).trans s8⟩
structure ROwnI (w:World) (G A2n A2c:Nat) (A2:Option Addr) (t:Tm) (sl:Value) (ps:List (Tm × Value)) (wr:World):Prop where
 bel:Below w.heap.size w wr
 le:G+1+1+1≤wr.heap.size
 t1:TBox wr G t sl
 t2:TBox wr (G+1) zeroT (.slice none 0 0)
 t3:TBox wr (G+1+1) t (.slice A2 A2n A2c)
 row:TRow wr (G+1+1+1) (fun b=>G+1+1+1≤b∧b<wr.heap.size) A2 A2n A2c ps
theorem ROwn_any (t:Tm):ROwnOk t:=by
 refine Tm.ind (p:=ROwnOk) (fun k nl ml b v ts ih=>?_) t
 intro w sl h
 obtain ⟨A,c,rfl,hl1,hl2,hl3⟩:=h.slice
 have hok:=h.ok
 obtain ⟨nb,hnb⟩:∃ nb:ByteArray,(⟨nl.toArray⟩:ByteArray)=nb:=⟨_,rfl⟩
 obtain ⟨mb,hmb⟩:∃ mb:ByteArray,(⟨ml.toArray⟩:ByteArray)=mb:=⟨_,rfl⟩
 obtain ⟨L,hL⟩:∃ L,ts.length=L:=⟨_,rfl⟩
 change ts.length≤c at hl1
 change ts.length≤maxArgs at hl3
 change TAt w w.heap.size (.mk k nl ml b v ts) (.slice A ts.length c) at h
 change Calls Tryd.prog 8 #[valT _ (.slice A ts.length c)] w _
 rw [valT_mk hnb hmb]
 rw [hL] at h hl1 hl3 ⊢
 have HIH:=Qh ih
 have HL:=Qh hL
 have HM:=Qh (Qa hnb hmb)
 have HOk:=Qh hok
 have HMx:=Qh hl3
 have hLI:(L:Int)≤1759218604400:=by unfold maxArgs at hl3;omega
 obtain ⟨W1,hW1⟩:∃ W1,w.alloc (.cells (Q5 k nb mb b v (.slice A L c)) 25)=W1:=⟨_,rfl⟩
 obtain ⟨W2,hW2⟩:∃ W2,W1.alloc (.cells Qz 25)=W2:=⟨_,rfl⟩
 obtain ⟨W3,hW3⟩:∃ W3,W2.alloc (.cells (Q5 k nb mb b v (.slice none 0 0)) 25)=W3:=⟨_,rfl⟩
 have hb1:Below w.heap.size w W1:=by rw [←hW1];exact Qb
 have s1:W1.heap.size=w.heap.size+1:=by rw [←hW1];simp
 have hb2:Below W1.heap.size W1 W2:=by rw [←hW2];exact Qb
 have s2:W2.heap.size=W1.heap.size+1:=by rw [←hW2];simp
 have hb3:Below W2.heap.size W2 W3:=by rw [←hW3];exact Qb
 have s3:W3.heap.size=W2.heap.size+1:=by rw [←hW3];simp
 have hX1:TBox W1 w.heap.size (.mk k nl ml b v ts) (.slice A L c):=by rw [←hW1];exact TBox.new w hnb hmb
 have hX2:TBox W2 W1.heap.size zeroT (.slice none 0 0):=by rw [←hW2];exact heap_alloc_new W1 _
 have hX3:TBox W3 W2.heap.size (.mk k nl ml b v ts) (.slice none 0 0):=by rw [←hW3];exact TBox.new W2 hnb hmb
 have hX1':=(hX1.below hb2).below hb3
 have hX2':=hX2.below hb3
 rw [s2,s1] at hX3
 rw [s1] at hX2'
 have hF:=(hX1.cells hnb hmb)
 obtain ⟨x0,x1,x2,x3,x4,x5⟩:=(hX1.below hb2).cells hnb hmb
 have HB:=Qh (hb1.trans ((hb2.trans (hb3.mono (by omega))).mono (by omega)))
 have HX:=Qh (Qa hX1' (Qa hX2' hX3))
 have HT:=Qh h
 have HS:=Qh (show w.heap.size+1+1+1≤W3.heap.size by omega)
 have HW:=Qh hW3
 have HI0:=Qh (show ROwnI w w.heap.size 0 0 none (.mk k nl ml b v ts) (.slice A L c) [] W3 from ⟨HB.out,HS.out,hX1',hX2',hX3,TRow.nil _ _ _⟩)
 subst hW1 hW2
 clear ih h hL hnb hmb hok hl3 hX1 hX2 hX3 hX1' hX2' hb1 hb2 hb3 s1 s2 s3 hF hW3
 go_enter Tryd.func8,Tryd.ntmps8
 go_upto_region 4 with fail
 rw [HW.out]
 clear x0 x1 x2 x3 x4 x5 HW
 obtain ⟨G,hG⟩:∃ G,w.heap.size=G:=⟨_,rfl⟩
 have HG:=Qh hG
 rw [hG] at HI0 ⊢
 clear hG HB HX HS
 go_loopw [4] (fun v4 wr=>∃ i A2 c2 ps,v4 = .int .i64 (i:Nat)∧i≤L∧Hid (ROwnI w G i c2 A2 (.mk k nl ml b v ts) (.slice A L c) ps wr∧ps.map (·.1)=ts.take i)) (fun v4 _=>((L:Int) - intOf v4).toNat)
 case atStart=>exact ⟨0,none,0,[],rfl,Nat.zero_le _,Qh ⟨HI0.out,by simp⟩⟩
 case round=>
  obtain ⟨i,A2,c2,ps,rfl,hi,HI⟩:=hrel
  obtain ⟨x0,x1,x2,x3,x4,x5⟩:=HI.out.1.t1.cells HM.out.1 HM.out.2
  obtain ⟨y0,y1,y2,y3,y4,y5⟩:=HI.out.1.t3.cells HM.out.1 HM.out.2
  by_cases hlt:i<L
  ·have hltI:(i:Int)<(L:Int):=by omega
   have hi0:(0:Int)≤(i:Int):=by omega
   have hil:i<ts.length:=by rw [HL.out];exact hlt
   obtain ⟨a,ha⟩:∃ a,ts[i]?=some a:=⟨_,List.getElem?_eq_getElem hil⟩
   obtain ⟨g,o,rfl,hgB,helt⟩:=(HT.out.to HI.out.1.bel HI.out.1.bel.size).arg ha
   obtain ⟨A',c',k',n',m',b',v',ts',nb',mb',rfl,hnb',hmb',hta,e0,e1,e2,e3,e4,e5⟩:=EltAt.cells helt
   obtain ⟨q,hq⟩:∃ q,ts'.length=q:=⟨_,rfl⟩
   have HCl:=Qh (fresh_letters hnb' hmb' hq (HIH.out _ (List.mem_of_getElem? ha) wr.drew _ (hta.to (below_drew' wr) (Nat.le_refl _))))
   rw [valT_mk hnb' hmb'] at HCl
   have HN:=Qh (Qa hnb' hmb')
   have HLT:=Qh hlt
   have hgw:g<w.heap.size:=by
    obtain ⟨g1,o1,e9,hg1,_⟩:=HT.out.arg ha
    cases e9;exact hg1
   have HGW:=Qh hgw
   have HTk:=Qh (show ts.take (i+1)=ts.take i ++ [.mk k' n' m' b' v' ts'] by rw [List.take_succ_eq_append_getElem hil,(List.getElem?_eq_some_iff.1 ha).2])
   rw [hq] at e5 HCl
   have hcap:=HI.out.1.row.cap
   clear helt hta hnb' hmb' ha hil hlt hi hq hgw
   have KS:ROwnS G (G+1+1) g (o+i * 6) (.slice A2 i c2) (.slice (some ⟨g,o,none⟩) L c) k' nb' mb' b' v' (.slice A' q c') wr:=⟨y5,x5,e0,e1,e2,e3,e4,e5⟩
   clear x0 x1 x2 x3 x4 y0 y1 y2 y3 y4
   go_upto_region 6 with fail
   refine wp_region_wait (ROwnS G (G+1+1) g (o+i * 6) (.slice A2 i c2) (.slice (some ⟨g,o,none⟩) L c) k' nb' mb' b' v' (.slice A' q c')) 11 (by kernel_rfl) ?_
   refine w3 11 0 (.pointer (some ⟨G+1+1,5,none⟩)) (by exact KS) ?_ ?_
   ·intro w5 hSw
    obtain ⟨s1,s2,s3,s4,s5,s6,s7,s8⟩:=hSw
    go_simp
   refine w3 11 1 (.slice A2 i c2) (by exact KS) ?_ ?_
   ·intro w5 hSw
    obtain ⟨s1,s2,s3,s4,s5,s6,s7,s8⟩:=hSw
    go_simp
   refine w3 11 2 (.pointer (some ⟨G,5,none⟩)) (by exact KS) ?_ ?_
   ·intro w5 hSw
    obtain ⟨s1,s2,s3,s4,s5,s6,s7,s8⟩:=hSw
    go_simp
   refine w3 11 3 (.slice (some ⟨g,o,none⟩) L c) (by exact KS) ?_ ?_
   ·intro w5 hSw
    obtain ⟨s1,s2,s3,s4,s5,s6,s7,s8⟩:=hSw
    go_simp
   refine w3 11 4 (.int .i64 (i:Int)) (by exact KS) ?_ ?_
   ·intro w5 hSw
    obtain ⟨s1,s2,s3,s4,s5,s6,s7,s8⟩:=hSw
    go_simp
   refine w3 11 5 (.pointer (some ⟨g,o+i * 6,none⟩)) (by exact KS) ?_ ?_
   ·intro w5 hSw
    obtain ⟨s1,s2,s3,s4,s5,s6,s7,s8⟩:=hSw
    go_simp
   refine w3 11 6 ((.agg (Q5 k' nb' mb' b' v' (.slice A' q c')))) (by exact KS) ?_ ?_
   ·intro w5 hSw
    obtain ⟨s1,s2,s3,s4,s5,s6,s7,s8⟩:=hSw
    go_simp
   refine w1 7 fun K hK=>?_
   go_simp
   (with_reducible refine HCl.out.mono ?_)
   rintro ex w2 ⟨A4,c4,rfl,hf2,hb2⟩
   have hbw:Below wr.heap.size wr w2:=(below_drew' wr).trans hb2
   have KS2:=KS.keep (hbw.block _ HI.out.1.t3.lt) (hbw.block _ HI.out.1.t1.lt) (hbw.block _ hgB)
   have HBw:=Qh hbw
   have HF2:=Qh hf2
   clear hf2 hb2 hbw
   refine hK.out _ _ (fun _=>KS2) ?_
   refine w1 8 fun K hK=>?_
   go_simp
   have hb3:Below w2.heap.size w2 (w2.alloc (.cells (Q5 k' nb' mb' b' v' (.slice A4 q c4)) 25)):=Qb
   have hbw3:=Qt HBw.out hb3
   have KS3:=KS.keep (hbw3.block _ HI.out.1.t3.lt) (hbw3.block _ HI.out.1.t1.lt) (hbw3.block _ hgB)
   have hrow:=(HI.out.1.row.keep hbw3 (fun b hb=>hb.2)).wide (Q:=fun b=>G+1+1+1≤b∧b<(w2.alloc (.cells (Q5 k' nb' mb' b' v' (.slice A4 q c4)) 25)).heap.size) (fun b hb=>⟨hb.1,Ql hb.2 hbw3.size⟩)
   have hown:=HI.out.1.row.block
   have hkid:TAtP (w2.alloc (.cells (Q5 k' nb' mb' b' v' (.slice A4 q c4)) 25)) (fun b=>(G+1+1+1≤b∧b<(w2.alloc (.cells (Q5 k' nb' mb' b' v' (.slice A4 q c4)) 25)).heap.size)∧(Value.slice A2 i c2).ownBlock≠some b) (.mk k' n' m' b' v' ts') (.slice A4 q c4):=TAtP.keep _ HF2.out (fun b hb=>by
    have hle:=HI.out.1.le
    have hwb:wr.heap.size≤b:=hb.1
    refine ⟨⟨⟨by omega,Ql hb.2 hb3.size⟩,?_⟩,hb3.block b hb.2⟩
    rcases hown with ⟨h1,_⟩ | ⟨g1,h1,h2,h3,h4⟩
    ·subst h1;simp [Value.ownBlock]
    ·rw [h4];intro e;injection e with e;omega)
   have HR3:=Qh (Qa hrow (Qa hkid hbw3))
   have hnews:=heap_alloc_new w2 (.cells (Q5 k' nb' mb' b' v' (.slice A4 q c4)) 25)
   have HNw:=Qh (show ∀ j u,(fl6 [((.mk k' n' m' b' v' ts':Tm),Value.slice A4 q c4)])[j]?=some u→(w2.alloc (.cells (Q5 k' nb' mb' b' v' (.slice A4 q c4)) 25)).cell? ((⟨w2.heap.size,0,none⟩:Addr).add j)=some u from fun j u hj=>by
    rw [add_zero',cell_of_row _ w2.heap.size j _ _ (0,0) hnews,←hj,←HN.out.1,←HN.out.2]
    simp [fl6,cells6,Tm.k,Tm.n,Tm.m,Tm.b,Tm.v])
   clear hb3 hbw3 hrow hkid hnews hown
   generalize w2.alloc (.cells (Q5 k' nb' mb' b' v' (.slice A4 q c4)) 25)=w3 at *
   refine hK.out _ _ (fun _=>KS3) ?_
   refine w1 9 fun K hK=>?_
   refine step_append_T rfl _ _ rfl [((.mk k' n' m' b' v' ts':Tm),Value.slice A4 q c4)] rfl HR3.out.1 (fun b hb=>hb.2) ⟨w2.heap.size,0,none⟩ 1 1 rfl rfl (fun x hx=>by rw [List.mem_singleton.1 hx];exact HR3.out.2.1) HNw.out (by have:=HMx.out;have:=HLT.out;omega) (by have:=HI.out.1.le;have:=HR3.out.2.2.size;omega) ?_
   intro A5 c5 w4 hr4 hb4 hg4
   have hgG:g<G:=by rw [←HG.out];exact HGW.out
   have hle:=HI.out.1.le
   have e5:w4.heap[G+1+1]?=wr.heap[G+1+1]?:=(hb4.block _ (by omega)).trans (HR3.out.2.2.block _ (by omega))
   have e1:w4.heap[G]?=wr.heap[G]?:=(hb4.block _ (by omega)).trans (HR3.out.2.2.block _ (by omega))
   have e2:w4.heap[G+1]?=wr.heap[G+1]?:=(hb4.block _ (by omega)).trans (HR3.out.2.2.block _ (by omega))
   have KS4:=KS.keep e5 e1 ((hb4.block _ (by omega)).trans (HR3.out.2.2.block _ (by omega)))
   have ht1:TBox w4 G (.mk k nl ml b v ts) (.slice (some ⟨g,o,none⟩) L c):=e1.trans HI.out.1.t1
   have ht2:TBox w4 (G+1) zeroT (.slice none 0 0):=e2.trans HI.out.1.t2
   have ht3:TBox w4 (G+1+1) (.mk k nl ml b v ts) (.slice A2 i c2):=e5.trans HI.out.1.t3
   have z5:=ht3.frozen 5
   obtain ⟨_,_,_,_,_,y5⟩:=ht3.cells HM.out.1 HM.out.2
   have hsz:wr.heap.size≤w4.heap.size:=Nat.le_trans HR3.out.2.2.size hg4.size
   have hbel:Below G w w4:=by
    have h1:=HI.out.1.bel
    rw [HG.out] at h1
    exact h1.trans ((HR3.out.2.2.mono (by omega)).trans (hb4.mono (by omega)))
   have HE:=Qh (show ROwnI w G (i+1) c5 A5 (.mk k nl ml b v ts) (.slice (some ⟨g,o,none⟩) L c) (ps ++ [((.mk k' n' m' b' v' ts':Tm),Value.slice A4 q c4)]) (w4.setCell ⟨G+1+1,5,none⟩ (.slice A5 (i+1) c5)) from
    ⟨by rw [HG.out];exact hbel.setCell (by show G≤G+1+1;omega) _,by show _≤(w4.setCell _ _).heap.size;simp [World.setCell];omega,ht1.far (by show G≠G+1+1;omega) _,ht2.far (by show G+1≠G+1+1;omega) _,ht3.args _,
     (hr4.keepP (fun b hb _=>Below.heap_setCell _ _ _ b (by show b≠G+1+1;omega)) (fun b hb=>Below.heap_setCell _ _ _ b (by show b≠G+1+1;omega))).wide (fun b hb=>⟨hb.1,by
      have h1:=hb.2;have h2:=hg4.size
      simp [World.setCell];omega⟩)⟩)
   have HE2:=Qh (show (ps ++ [((.mk k' n' m' b' v' ts':Tm),Value.slice A4 q c4)]).map (·.1)=ts.take (i+1) from by rw [List.map_append,HI.out.2,HTk.out];rfl)
   clear hr4 hb4 hg4 hle e5 e1 e2 ht1 ht2 ht3 hsz hbel hgG
   refine hK.out _ _ (fun _=>KS4) ?_
   refine w1 10 fun K hK=>?_
   go_simp
   refine hK.out _ _ (fun _=>KS4) ?_
   refine w1 11 fun K hK=>?_
   go_simp
   refine hK.out _ _ (fun h=>absurd h (by simp)) ?_
   refine wpAnyW_done (by kernel_rfl) ?_ _
   clear KS KS2 KS3 KS4 z5
   go_wp2
   go_roundw
   case rel=>exact ⟨i+1,A5,c5,_,rfl,HLT.out,Qh ⟨HE.out,HE2.out⟩⟩
   case measure=>
    have:=HLT.out
    show ((L:Int) - ((i:Int)+1)).toNat<((L:Int) - (i:Int)).toNat
    omega
  ·have ei:i=L:=by omega
   subst ei
   obtain ⟨u0,u1,u2,u3,u4,u5⟩:=HI.out.1.t2.cells rfl rfl
   have v0:=HI.out.1.t2.frozen 0
   have v1:=HI.out.1.t2.frozen 1
   have v2:=HI.out.1.t2.frozen 2
   have v3:=HI.out.1.t2.frozen 3
   have v4:=HI.out.1.t2.frozen 4
   have v5:=HI.out.1.t2.frozen 5
   clear hlt hi
   have HE:=Qh HI.out
   go_wp2
   obtain ⟨hbx,hgr⟩:=HE.out.1.t2.set6 (k:=k) (b:=b) (v:=v) ts (.slice A2 i c2) HM.out.1 HM.out.2
   generalize (((((wr.setCell ⟨G+1,0,none⟩ (.int .i64 k)).setCell ⟨G+1,1,none⟩ (.string nb)).setCell ⟨G+1,2,none⟩ (.string mb)).setCell ⟨G+1,3,none⟩ (.int .u64 b)).setCell ⟨G+1,4,none⟩ (.int .i64 v)).setCell ⟨G+1,5,none⟩ (.slice A2 i c2)=w6 at *
   obtain ⟨r0,r1,r2,r3,r4,r5⟩:=hbx.cells HM.out.1 HM.out.2
   have hle:=HE.out.1.le
   have hGw:=HG.out
   have hbel:=HE.out.1.bel
   have hkeep:∀ b,G+1+1+1≤b→b<wr.heap.size→w6.heap[b]?=wr.heap[b]?:=fun b h1 h2=>hgr.block b h2 (fun e=>by injection e with e;omega)
   refine bodyPost_ret (v:=.agg (Q5 k nb mb b v (.slice A2 i c2))) (by simp [results,Tryd.results8,go_sem,r0,r1,r2,r3,r4,r5]) rfl ⟨.slice A2 i c2,by rw [valT_mk HM.out.1 HM.out.2],?_,?_⟩
   ·have h9:=HE.out.1.row.termP (t:=.mk k nl ml b v ts) (fun b h1 h2=>⟨h1,h2⟩) (by show ts=_;rw [HE.out.2,List.take_of_length_le (by rw [HL.out];exact Nat.le_refl _)]) HMx.out HOk.out
    refine TAtP.keep _ h9 (fun b hb=>⟨⟨by have:=hb.1;omega,Ql hb.2 hgr.size⟩,hkeep b hb.1 hb.2⟩)
   ·exact hbel.grown hgr hbel.size (Qg (by omega))
theorem A_any (nb:ByteArray) (w:World):Calls Tryd.prog 45 #[.string nb] w fun e w'=>e = .returned (.agg (Qn 2 nb (.slice none 0 0)))∧Below w.heap.size w w':=by
 go_enter Tryd.func45,Tryd.ntmps45
 go_wp2
 refine bodyPost_ret (v:=.agg (Qn 2 nb (.slice none 0 0))) (by simp [results,Tryd.results45,go_sem]) rfl ⟨rfl,?_⟩
 exact Qb
theorem atom_any (nb:ByteArray) (w:World):Calls Tryd.prog 33 #[.string nb] w fun e w'=>e = .returned (.agg (Qn 2 nb (.slice none 0 0)))∧Below w.heap.size w w':=by
 go_enter Tryd.func33,Tryd.ntmps33
 go_wp2
 refine bodyPost_ret (v:=.agg (Qn 2 nb (.slice none 0 0))) (by simp [results,Tryd.results33,go_sem]) rfl ⟨rfl,?_⟩
 exact Qb
theorem latom_any (nb:ByteArray) (w:World):Calls Tryd.prog 26 #[.string nb] w fun e w'=>e = .returned (.agg (Qn 2 nb (.slice none 0 0)))∧Below w.heap.size w w':=by
 go_enter Tryd.func26,Tryd.ntmps26
 go_wp2
 refine bodyPost_ret (v:=.agg (Qn 2 nb (.slice none 0 0))) (by simp [results,Tryd.results26,go_sem]) rfl ⟨rfl,?_⟩
 exact Qb
theorem V_any (n:Int) (w:World):Calls Tryd.prog 47 #[.int .i64 n] w fun e w'=>e = .returned (.agg (Qv n))∧Below w.heap.size w w':=by
 go_enter Tryd.func47,Tryd.ntmps47
 go_wp2
 refine bodyPost_ret (v:=.agg (Qv n)) (by simp [results,Tryd.results47,go_sem]) rfl ⟨rfl,?_⟩
 exact Qb
theorem lv_any (n:Int) (w:World):Calls Tryd.prog 21 #[.int .i64 n] w fun e w'=>e = .returned (.agg (Qv n))∧Below w.heap.size w w':=by
 go_enter Tryd.func21,Tryd.ntmps21
 go_wp2
 refine bodyPost_ret (v:=.agg (Qv n)) (by simp [results,Tryd.results21,go_sem]) rfl ⟨rfl,?_⟩
 exact Qb
theorem of_any (nb:ByteArray) (A:Option Addr) (n c:Nat) (w:World):Calls Tryd.prog 32 #[.string nb,.slice A n c] w fun e w'=>e = .returned (.agg (Qn 5 nb (.slice A n c)))∧Below w.heap.size w w':=by
 go_enter Tryd.func32,Tryd.ntmps32
 go_wp2
 refine bodyPost_ret (v:=.agg (Qn 5 nb (.slice A n c))) (by simp [results,Tryd.results32,go_sem]) rfl ⟨rfl,?_⟩
 exact Qb
theorem lf_any (nb:ByteArray) (A:Option Addr) (n c:Nat) (w:World):Calls Tryd.prog 25 #[.string nb,.slice A n c] w fun e w'=>e = .returned (.agg (Qn 5 nb (.slice A n c)))∧Below w.heap.size w w':=by
 go_enter Tryd.func25,Tryd.ntmps25
 go_wp2
 refine bodyPost_ret (v:=.agg (Qn 5 nb (.slice A n c))) (by simp [results,Tryd.results25,go_sem]) rfl ⟨rfl,?_⟩
 exact Qb
theorem isC_eq {k v b:Int} {n m s:List UInt8} {ts:List Tm} {L:Nat} : isC (.mk k n m b v ts) s L=(decide (k=5) && decide (n=s) && decide (ts.length=L)):=rfl
theorem is_any {w:World} {t:Tm} {A:Option Addr} {L c:Nat} {k v b:Int} {n m:List UInt8} {ts:List Tm} {nb mb:ByteArray} (hnb:(⟨n.toArray⟩:ByteArray)=nb) (hmb:(⟨m.toArray⟩:ByteArray)=mb) (hL:ts.length=L) (hl:L≤maxArgs) (hc:L≤c) (s:ByteArray) (q:Nat) :
  Calls Tryd.prog 30 #[.agg (Q5 k nb mb b v (.slice A L c)),.string s,.int .i64 (q:Int)] w fun e w'=>e = .returned (.bool (isC (.mk k n m b v ts) s.data.toList q))∧Below w.heap.size w w':=by
 rw [isC_eq,hL]
 have hX:=TBox.new (ts:=ts) w (k:=k) (b:=b) (v:=v) (sl:=.slice A L c) hnb hmb
 have HB:=Qh (show Below w.heap.size w (w.alloc (.cells (Q5 k nb mb b v (.slice A L c)) 25)) from Qb)
 have hLI:(L:Int)≤1759218604400:=by unfold maxArgs at hl;omega
 obtain ⟨x0,x1,x2,x3,x4,x5⟩:=hX.cells hnb hmb
 have hnd:nb.data.toList=n:=by rw [←hnb]
 clear hX hnb hmb hl
 by_cases h1:k=5
 ·subst h1
  by_cases h2:n=s.data.toList
  ·have s1:(nb.toList==s.toList)=true:=by rw [ByteArray.toList_eq,ByteArray.toList_eq,hnd,h2];simp
   by_cases h3:L=q
   ·subst h3
    rw [decide_eq_true h2]
    clear h2 hnd hL
    go_enter Tryd.func30,Tryd.ntmps30
    go_wp2
    go_ret
    exact ⟨rfl,HB.out⟩
   ·have s3:((L:Int)==(q:Int))=false:=beq_eq_false_iff_ne.2 (by omega)
    rw [decide_eq_true h2,decide_eq_false h3]
    clear h2 hnd h3 hL
    go_enter Tryd.func30,Tryd.ntmps30
    go_wp2
    go_ret
    exact ⟨rfl,HB.out⟩
  ·have s1:(nb.toList==s.toList)=false:=by rw [ByteArray.toList_eq,ByteArray.toList_eq,hnd];exact beq_eq_false_iff_ne.2 h2
   rw [decide_eq_false h2]
   clear h2 hnd hL
   go_enter Tryd.func30,Tryd.ntmps30
   go_wp2
   go_ret
   exact ⟨rfl,HB.out⟩
 ·have s0:(k==5)=false:=beq_eq_false_iff_ne.2 h1
  rw [decide_eq_false h1]
  clear h1 hnd hL
  go_enter Tryd.func30,Tryd.ntmps30
  go_wp2
  go_ret
  exact ⟨rfl,HB.out⟩
theorem ris_any {w:World} {t:Tm} {A:Option Addr} {L c:Nat} {k v b:Int} {n m:List UInt8} {ts:List Tm} {nb mb:ByteArray} (hnb:(⟨n.toArray⟩:ByteArray)=nb) (hmb:(⟨m.toArray⟩:ByteArray)=mb) (hL:ts.length=L) (hl:L≤maxArgs) (hc:L≤c) (s:ByteArray) (q:Nat) :
  Calls Tryd.prog 42 #[.agg (Q5 k nb mb b v (.slice A L c)),.string s,.int .i64 (q:Int)] w fun e w'=>e = .returned (.bool (isC (.mk k n m b v ts) s.data.toList q))∧Below w.heap.size w w':=by
 rw [isC_eq,hL]
 have hX:=TBox.new (ts:=ts) w (k:=k) (b:=b) (v:=v) (sl:=.slice A L c) hnb hmb
 have HB:=Qh (show Below w.heap.size w (w.alloc (.cells (Q5 k nb mb b v (.slice A L c)) 25)) from Qb)
 have hLI:(L:Int)≤1759218604400:=by unfold maxArgs at hl;omega
 obtain ⟨x0,x1,x2,x3,x4,x5⟩:=hX.cells hnb hmb
 have hnd:nb.data.toList=n:=by rw [←hnb]
 clear hX hnb hmb hl
 by_cases h1:k=5
 ·subst h1
  by_cases h2:n=s.data.toList
  ·have s1:(nb.toList==s.toList)=true:=by rw [ByteArray.toList_eq,ByteArray.toList_eq,hnd,h2];simp
   by_cases h3:L=q
   ·subst h3
    rw [decide_eq_true h2]
    clear h2 hnd hL
    go_enter Tryd.func42,Tryd.ntmps42
    go_wp2
    go_ret
    exact ⟨rfl,HB.out⟩
   ·have s3:((L:Int)==(q:Int))=false:=beq_eq_false_iff_ne.2 (by omega)
    rw [decide_eq_true h2,decide_eq_false h3]
    clear h2 hnd h3 hL
    go_enter Tryd.func42,Tryd.ntmps42
    go_wp2
    go_ret
    exact ⟨rfl,HB.out⟩
  ·have s1:(nb.toList==s.toList)=false:=by rw [ByteArray.toList_eq,ByteArray.toList_eq,hnd];exact beq_eq_false_iff_ne.2 h2
   rw [decide_eq_false h2]
   clear h2 hnd hL
   go_enter Tryd.func42,Tryd.ntmps42
   go_wp2
   go_ret
   exact ⟨rfl,HB.out⟩
 ·have s0:(k==5)=false:=beq_eq_false_iff_ne.2 h1
  rw [decide_eq_false h1]
  clear h1 hnd hL
  go_enter Tryd.func42,Tryd.ntmps42
  go_wp2
  go_ret
  exact ⟨rfl,HB.out⟩
theorem owns_emptyT (w:World) (B:Nat) (hB:B≤w.heap.size):(w.alloc (.cells #[] 25)).ownsRow B 25 6 (.slice (some ⟨w.heap.size,0,none⟩) 0 0) 0 (fl6 []):=
 ⟨rfl,.inr ⟨w.heap.size,0,#[],rfl,hB,heap_alloc_new w _,Nat.le_refl _,Nat.zero_le _,rfl,rfl⟩⟩
def RowP (w:World) (P:Nat→Prop) (A:Option Addr) (n:Nat) (ps:List (Tm × Value)):Prop:=ps.length=n∧(∀ p∈ps,TAtP w P p.1 p.2)∧(0<n→∃ g o,A=some ⟨g,o,none⟩∧g<w.heap.size∧∀ j u,(fl6 ps)[j]?=some u→w.cell? ⟨g,o+j,none⟩=some u)
def Grow (P:Nat→Prop) (w w':World) (b:Nat):Prop:=P b∨(w.heap.size≤b∧b<w'.heap.size)
theorem Grow.lt {P:Nat→Prop} {w w':World} (hP:∀ b,P b→b<w.heap.size) (hs:w.heap.size≤w'.heap.size):∀ b,Grow P w w' b→b<w'.heap.size:=fun b hb=>by
 rcases hb with hb | hb
 ·exact Ql (hP b hb) hs
 ·exact hb.2
theorem F_any {w:World} {P:Nat→Prop} {A:Option Addr} {n c:Nat} {ps:List (Tm × Value)} (h:RowP w P A n ps) (hP:∀ b,P b→b<w.heap.size) (hn0:0<n) (hn:n≤maxArgs) (nb:ByteArray) :
  Calls Tryd.prog 67 #[.string nb,.slice A n c] w fun e w'=>∃ A' c',e = .returned (.agg (Qn 5 nb (.slice A' n c')))∧TRow w' (w.heap.size+1) P A' n c' ps∧Below w.heap.size w w':=by
 obtain ⟨g,o,rfl,hg,hc⟩:=h.2.2 hn0
 obtain ⟨W1,hW1⟩:∃ W1,w.alloc (.cells Qz 25)=W1:=⟨_,rfl⟩
 have hb1:Below w.heap.size w W1:=by rw [←hW1];exact Qb
 have s1:W1.heap.size=w.heap.size+1:=by rw [←hW1];simp
 have hX:TBox W1 w.heap.size zeroT (.slice none 0 0):=by rw [←hW1];exact heap_alloc_new w _
 have hb2:Below W1.heap.size W1 (W1.alloc (.cells #[] 25)):=Qb
 have hb12:=Qt hb1 hb2
 have hrow:TRow (W1.alloc (.cells #[] 25)) W1.heap.size P (some ⟨W1.heap.size,0,none⟩) 0 0 []:=⟨owns_emptyT W1 _ (Nat.le_refl _),fun p hp=>by cases hp⟩
 have hk:∀ q∈ps,TAtP (W1.alloc (.cells #[] 25)) (fun b=>P b∧(Value.slice (some ⟨W1.heap.size,0,none⟩) 0 0).ownBlock≠some b) q.1 q.2:=fun q hq=>TAtP.keep _ (h.2.1 q hq) (fun b hb=>⟨⟨hb,fun e=>by
  have:=hP b hb
  have e2:(Value.slice (some ⟨W1.heap.size,0,none⟩) 0 0).ownBlock=some W1.heap.size:=rfl
  rw [e2] at e;injection e with e;omega⟩,hb12.block b (hP b hb)⟩)
 rw [s1] at hrow hk
 have HR:=Qh (Qa hrow (Qa hk hb12))
 have HNw:=Qh (show ∀ j u,(fl6 ps)[j]?=some u→(W1.alloc (.cells #[] 25)).cell? ((⟨g,o,none⟩:Addr).add j)=some u from fun j u hj=>by
  rw [addr_add]
  exact (hb12.cell (p:=⟨g,o+j,none⟩) hg).trans (hc j u hj))
 have HX:=Qh (hX.below hb2)
 have HL:=Qh h.1
 have HS:=Qh s1
 have hnI:(n:Int)≤1759218604400:=by unfold maxArgs at hn;omega
 have HMx:=Qh hn
 subst hW1
 clear h hc hb1 hb2 hb12 hrow hk hX s1 hn
 go_enter Tryd.func67,Tryd.ntmps67
 go_wp2_with (at_builtin;refine wpList_append_T rfl _ _ rfl ps rfl HR.out.1 (fun b hb=>Ql (hP b hb) HR.out.2.2.size) ⟨g,o,none⟩ n c rfl HL.out HR.out.2.1 HNw.out (by have:=HMx.out;omega) (by simp) ?_;rw [Nat.zero_add,List.nil_append];intro A3 c3 w3 ho3 hb3 hg3;have HX3:=Qh (show TBox w3 w.heap.size zeroT (.slice none 0 0) from (hb3.block _ (by omega)).trans HX.out);obtain ⟨u0,u1,u2,u3,u4,u5⟩:=HX3.out.cells rfl rfl;obtain ⟨v0,v1,v2,v3,v4,v5⟩:=HX3.out.frozens;have HO3:=Qh (Qa ho3 hb3);clear ho3 hb3 hg3)
 obtain ⟨hbx,hgr⟩:=HX3.out.set6 (k:=5) (b:=0) (v:=0) (n:=nb.data.toList) (m:=[]) (nb:=nb) (mb:=⟨#[]⟩) (ps.map (·.1)) (.slice A3 n c3) (by simp) rfl
 generalize (((((w3.setCell ⟨w.heap.size,0,none⟩ (.int .i64 5)).setCell ⟨w.heap.size,1,none⟩ (.string nb)).setCell ⟨w.heap.size,2,none⟩ (.string ⟨#[]⟩)).setCell ⟨w.heap.size,3,none⟩ (.int .u64 0)).setCell ⟨w.heap.size,4,none⟩ (.int .i64 0)).setCell ⟨w.heap.size,5,none⟩ (.slice A3 n c3)=w6 at *
 obtain ⟨r0,r1,r2,r3,r4,r5⟩:=hbx.cells (nb:=nb) (mb:=⟨#[]⟩) (by simp) rfl
 have hb12:=HR.out.2.2
 have hb3:=HO3.out.2
 have hwz:w.heap.size<w3.heap.size:=HX3.out.lt
 refine bodyPost_ret (v:=.agg (Qn 5 nb (.slice A3 n c3))) (by simp [results,Tryd.results67,go_sem,r0,r1,r2,r3,r4,r5]) rfl ⟨A3,c3,rfl,?_,?_⟩
 ·exact HO3.out.1.keepP (w':=w6) (fun b h1 h2=>hgr.block b h2 (fun e=>by injection e with e;omega)) (fun b hb=>by
   have:=hP b hb
   exact hgr.block b (by omega) (fun e=>by injection e with e;omega))
 ·exact ((hb12.trans (hb3.mono (by omega)))).grown hgr (Nat.le_of_lt hwz) (Qg (by omega))
theorem okF_cmp {s:List UInt8} {ts:List Tm} (h:s.length≤maxLen):okF (cmpT s ts):=⟨h,by simp [cmpT,Tm.m],by simp [cmpT,Tm.b],by simp [cmpT,Tm.v],by simp [cmpT,Tm.k]⟩
theorem okF_var {n:Int} (h : -9223372036854775808≤n∧n≤9223372036854775807):okF (varT n):=⟨by simp [varT,Tm.n],by simp [varT,Tm.m],by simp [varT,Tm.b],h,by simp [varT,Tm.k]⟩
theorem okF_atom {s:List UInt8} (h:s.length≤maxLen):okF (atomT s):=⟨h,by simp [atomT,Tm.m],by simp [atomT,Tm.b],by simp [atomT,Tm.v],by simp [atomT,Tm.k]⟩
theorem RowP.block {w:World} {P:Nat→Prop} {g:Nat} {ps:List (Tm × Value)} (hg:w.heap[g]?=some (.cells (fl6 ps).toArray 25 (0,0))) (hk:∀ p∈ps,TAtP w P p.1 p.2):RowP w P (some ⟨g,0,none⟩) ps.length ps:=
 ⟨rfl,hk,fun _=>⟨g,0,rfl,(Array.getElem?_eq_some_iff.1 hg).1,fun j u hj=>by rw [Nat.zero_add,cell_of_row w g j _ _ (0,0) hg];simpa using hj⟩⟩
theorem RowP.term {w:World} {P:Nat→Prop} {A:Option Addr} {n c:Nat} {ps:List (Tm × Value)} (h:RowP w P A n ps) (hA:∀ g o,0<n→A=some ⟨g,o,none⟩→P g) {t:Tm} (ht:t.as=ps.map (·.1)) (hc:n≤c) (hc2:c≤maxLen) (hn:n≤maxArgs) (ho:okF t):TAtP w P t (.slice A n c):=by
 have hl2:t.as.length=n:=by rw [ht,List.length_map,h.1]
 rw [TAtP.iff,hl2]
 refine ⟨A,c,rfl,hc,hc2,hn,ho,fun hne=>?_⟩
 have hn0:0<n:=by rw [←hl2];exact List.length_pos_iff.2 hne
 obtain ⟨g,o,e,hg,hcl⟩:=h.2.2 hn0
 refine ⟨g,o,e,hA g o hn0 e,fun i a ha=>?_⟩
 rw [ht,List.getElem?_map] at ha
 cases hp:ps[i]? with
 | none=>rw [hp] at ha;cases ha
 | some p=>
  rw [hp] at ha
  cases ha
  refine ⟨p.2,fun j hj=>?_,h.2.1 p (List.mem_of_getElem? hp)⟩
  have hc:=fl6_get hp hj
  have hlt:j<(cells6 p.1 p.2).length:=hj
  rw [List.getElem?_eq_getElem hlt] at hc ⊢
  rw [Nat.add_assoc]
  exact hcl _ _ hc
theorem TAtP.rowP {w:World} {P:Nat→Prop} {t:Tm} {A:Option Addr} {n c:Nat} (h:TAtP w P t (.slice A n c)) (hP:∀ b,P b→b<w.heap.size):∃ ps,RowP w P A n ps∧ps.map (·.1)=t.as:=by
 obtain ⟨A',c',e,h1,h2,h3,h4,h5⟩:=TAtP.iff.1 h
 injection e with e1 e2 e3
 subst e1 e2 e3
 by_cases hne:t.as = []
 ·exact ⟨[],⟨by rw [hne];rfl,by simp,fun hn=>by rw [hne] at hn;simp at hn⟩,by rw [hne];rfl⟩
 ·obtain ⟨g,o,rfl,hg,hs⟩:=h5 hne
  have key:∀ (l:List Tm) (o:Nat),(∀ i a,l[i]?=some a→EltP w P g (o+i * 6) a)→∃ ps:List (Tm × Value),ps.map (·.1)=l∧(∀ p∈ps,TAtP w P p.1 p.2)∧∀ j u,(fl6 ps)[j]?=some u→w.cell? ⟨g,o+j,none⟩=some u:=by
   intro l
   induction l with
   | nil=>intro o _;exact ⟨[],rfl,by simp,fun j u hj=>by simp [fl6] at hj⟩
   | cons a l ih=>
    intro o h
    obtain ⟨sl,hc,ht⟩:=h 0 a rfl
    obtain ⟨ps,hp1,hp2,hp3⟩:=ih (o+6) (fun i a ha=>by
     have:=h (i+1) a (by simpa using ha)
     rwa [show o+(i+1) * 6=o+6+i * 6 by omega] at this)
    refine ⟨(a,sl) :: ps,by simp [hp1],fun p hp=>?_,fun j u hj=>?_⟩
    ·rcases List.mem_cons.1 hp with rfl | hp
     ·exact ht
     ·exact hp2 p hp
    ·have e:fl6 ((a,sl) :: ps)=cells6 a sl ++ fl6 ps:=by simp [fl6]
     rw [e] at hj
     by_cases hj6:j<6
     ·rw [List.getElem?_append_left (by exact hj6)] at hj
      have:=hc j hj6
      rw [Nat.zero_mul,Nat.add_zero] at this
      rw [this,hj]
     ·rw [List.getElem?_append_right (by show 6≤j;omega)] at hj
      have:=hp3 (j - 6) u hj
      rwa [show o+6+(j - 6)=o+j by omega] at this
  obtain ⟨ps,hp1,hp2,hp3⟩:=key t.as o hs
  exact ⟨ps,⟨by rw [←hp1,List.length_map],hp2,fun _=>⟨g,o,rfl,hP g hg,hp3⟩⟩,hp1⟩
theorem F2_any {w:World} {P:Nat→Prop} {ta tb:Tm} {sa sb:Value} (ha:TAtP w P ta sa) (hb:TAtP w P tb sb) (hP:∀ b,P b→b<w.heap.size) (nb:ByteArray) (hnb:nb.size≤maxLen) :
  Calls Tryd.prog 51 #[.string nb,valT ta sa,valT tb sb] w fun e w'=>∃ A c,e = .returned (.agg (Qn 5 nb (.slice A 2 c)))∧TAtP w' (Grow P w w') (cmpT nb.data.toList [ta,tb]) (.slice A 2 c)∧Below w.heap.size w w':=by
 obtain ⟨k1,nl1,ml1,b1,v1,ts1,nb1,mb1,A1,c1,rfl,rfl,hnb1,hmb1,hl1,hl2,hl3,hv1,_,_⟩:=ha.letters
 obtain ⟨k2,nl2,ml2,b2,v2,ts2,nb2,mb2,A2,c2,rfl,rfl,hnb2,hmb2,hm1,hm2,hm3,hv2,_,_⟩:=hb.letters
 rw [hv1,hv2]
 obtain ⟨q1,hq1⟩:∃ q,ts1.length=q:=⟨_,rfl⟩
 obtain ⟨q2,hq2⟩:∃ q,ts2.length=q:=⟨_,rfl⟩
 rw [hq1] at ha ⊢
 rw [hq2] at hb ⊢
 obtain ⟨W1,hW1⟩:∃ W1,w.alloc (.cells (Q5 k1 nb1 mb1 b1 v1 (.slice A1 q1 c1)) 25)=W1:=⟨_,rfl⟩
 obtain ⟨W2,hW2⟩:∃ W2,W1.alloc (.cells (Q5 k2 nb2 mb2 b2 v2 (.slice A2 q2 c2)) 25)=W2:=⟨_,rfl⟩
 obtain ⟨W3,hW3⟩:∃ W3,W2.alloc (.cells Qz 25)=W3:=⟨_,rfl⟩
 obtain ⟨W4,hW4⟩:∃ W4,W3.alloc (.cells #[.int .i64 k1,.string nb1,.string mb1,.int .u64 b1,.int .i64 v1,.slice A1 q1 c1,.int .i64 k2,.string nb2,.string mb2,.int .u64 b2,.int .i64 v2,.slice A2 q2 c2] 25)=W4:=⟨_,rfl⟩
 have h1:Below w.heap.size w W1:=by rw [←hW1];exact Qb
 have s1:W1.heap.size=w.heap.size+1:=by rw [←hW1];simp
 have h2:Below W1.heap.size W1 W2:=by rw [←hW2];exact Qb
 have s2:W2.heap.size=W1.heap.size+1:=by rw [←hW2];simp
 have h3:Below W2.heap.size W2 W3:=by rw [←hW3];exact Qb
 have s3:W3.heap.size=W2.heap.size+1:=by rw [←hW3];simp
 have h4:Below W3.heap.size W3 W4:=by rw [←hW4];exact Qb
 have hX1:TBox W1 w.heap.size (.mk k1 nl1 ml1 b1 v1 ts1) (.slice A1 q1 c1):=by rw [←hW1];exact TBox.new w hnb1 hmb1
 have hX2:TBox W2 W1.heap.size (.mk k2 nl2 ml2 b2 v2 ts2) (.slice A2 q2 c2):=by rw [←hW2];exact TBox.new W1 hnb2 hmb2
 have hX3:TBox W3 W2.heap.size zeroT (.slice none 0 0):=by rw [←hW3];exact heap_alloc_new W2 _
 have hX1':=(hX1.below h2).below h3
 have hX2':=hX2.below h3
 have hb12:=h1.trans ((h2.trans ((h3.trans (h4.mono (by omega))).mono (by omega))).mono (by omega))
 have hrow:RowP W4 P (some ⟨W3.heap.size,0,none⟩) 2 [((.mk k1 nl1 ml1 b1 v1 ts1:Tm),Value.slice A1 q1 c1),((.mk k2 nl2 ml2 b2 v2 ts2:Tm),Value.slice A2 q2 c2)]:=by
  refine RowP.block (ps:=[((.mk k1 nl1 ml1 b1 v1 ts1:Tm),Value.slice A1 q1 c1),((.mk k2 nl2 ml2 b2 v2 ts2:Tm),Value.slice A2 q2 c2)]) ?_ (fun p hp=>?_)
  ·rw [←hW4,←hnb1,←hmb1,←hnb2,←hmb2]
   exact heap_alloc_new W3 _
  ·simp only [List.mem_cons,List.not_mem_nil,or_false] at hp
   rcases hp with rfl | rfl
   ·exact ha.below hb12 hP
   ·exact hb.below hb12 hP
 have HF:=Qh (F_any hrow (fun b hb=>Ql (hP b hb) hb12.size) (by omega) (by unfold maxArgs;omega) (c:=2) nb)
 have HX3:=Qh (Qa (hX3.below h4) hb12)
 rw [s3,s2,s1] at HF
 rw [s2,s1] at HX3
 rw [s1] at hX2'
 obtain ⟨x0,x1,x2,x3,x4,x5⟩:=hX1'.cells hnb1 hmb1
 obtain ⟨y0,y1,y2,y3,y4,y5⟩:=hX2'.cells hnb2 hmb2
 have HS:=Qh (show w.heap.size+1+1<W4.heap.size by have:=h4.size;omega)
 subst hW1 hW2 hW3 hW4
 clear ha hb h1 h2 h3 h4 s1 s2 s3 hX1 hX2 hX3 hX1' hX2' hb12 hrow hnb1 hmb1 hnb2 hmb2 hq1 hq2 hv1 hv2
 go_enter Tryd.func51,Tryd.ntmps51
 go_wp2_with (go_at_call 67;(with_reducible refine HF.out.mono ?_);rintro e w5 ⟨A5,c5,rfl,hr5,hb5⟩;have HX5:=Qh (HX3.out.1.below hb5);obtain ⟨u0,u1,u2,u3,u4,u5⟩:=HX5.out.cells rfl rfl;obtain ⟨z0,z1,z2,z3,z4,z5⟩:=HX5.out.frozens;have HR5:=Qh (Qa hr5 (Qt HX3.out.2 hb5));have HW45:=Qh hb5.size;clear hr5 hb5)
 obtain ⟨hbx,hgr⟩:=HX5.out.set6 (k:=5) (b:=0) (v:=0) (n:=nb.data.toList) (m:=[]) (nb:=nb) (mb:=⟨#[]⟩) [] (.slice A5 2 c5) (by simp) rfl
 generalize (((((w5.setCell ⟨w.heap.size+1+1,0,none⟩ (.int .i64 5)).setCell ⟨w.heap.size+1+1,1,none⟩ (.string nb)).setCell ⟨w.heap.size+1+1,2,none⟩ (.string ⟨#[]⟩)).setCell ⟨w.heap.size+1+1,3,none⟩ (.int .u64 0)).setCell ⟨w.heap.size+1+1,4,none⟩ (.int .i64 0)).setCell ⟨w.heap.size+1+1,5,none⟩ (.slice A5 2 c5)=w6 at *
 obtain ⟨r0,r1,r2,r3,r4,r5⟩:=hbx.cells (nb:=nb) (mb:=⟨#[]⟩) (by simp) rfl
 have hS:=HS.out
 have hR:=HR5.out
 refine bodyPost_ret (v:=.agg (Qn 5 nb (.slice A5 2 c5))) (by simp [results,Tryd.results51,go_sem,r0,r1,r2,r3,r4,r5]) rfl ⟨A5,c5,rfl,?_,hR.2.grown hgr hR.2.size (Qg (by omega))⟩
 have hw45:=HW45.out
 have h9:=(hR.1.keepP (w':=w6) (fun b h1 h2=>hgr.block b h2 (fun e=>by injection e with e;omega)) (fun b hb=>by
  have:=hP b hb
  exact hgr.block b (by omega) (fun e=>by injection e with e;omega))).wide (Q:=Grow P w w6) (fun b hb=>.inl hb)
 exact h9.termP (t:=cmpT nb.data.toList [.mk k1 nl1 ml1 b1 v1 ts1,.mk k2 nl2 ml2 b2 v2 ts2]) (fun b h1 h2=>.inr ⟨by omega,h2⟩) rfl (by unfold maxArgs;omega) (okF_cmp (by simpa using hnb))
mutual
def TOwn (w:World):Tm→Value→Nat→Nat→Prop
 | .mk k n m b v ts,sl,lo,hi=>okF (.mk k n m b v ts)∧ts.length≤maxArgs∧lo≤hi∧∃ A c,sl = .slice A ts.length c∧ts.length≤c∧c≤maxLen∧(ts ≠ []→∃ g,A=some ⟨g,0,none⟩∧lo≤g∧g<hi∧(∃ cs,w.heap[g]?=some (.cells cs 25 (0,0)))∧TsOwn w g ts 0 (g+1) hi)
def TsOwn (w:World) (g:Nat):List Tm→Nat→Nat→Nat→Prop
 | [],_,lo,hi=>lo≤hi
 | a :: ts,i,lo,hi=>∃ sl mid,lo≤mid∧mid≤hi∧(∀ j,j<6→w.cell? ⟨g,i * 6+j,none⟩=(cells6 a sl)[j]?)∧TOwn w a sl lo mid∧TsOwn w g ts (i+1) mid hi
end
theorem TOwn.iff {w:World} {t:Tm} {sl:Value} {lo hi:Nat} : TOwn w t sl lo hi↔okF t∧t.as.length≤maxArgs∧lo≤hi∧∃ A c,sl = .slice A t.as.length c∧t.as.length≤c∧c≤maxLen∧(t.as ≠ []→∃ g,A=some ⟨g,0,none⟩∧lo≤g∧g<hi∧(∃ cs,w.heap[g]?=some (.cells cs 25 (0,0)))∧TsOwn w g t.as 0 (g+1) hi):=by
 obtain ⟨k,n,m,b,v,ts⟩:=t
 rw [TOwn]
 rfl
theorem TsOwn.le {w:World} {g:Nat} : ∀ {ts:List Tm} {i lo hi:Nat},TsOwn w g ts i lo hi→lo≤hi
 | [],_,_,_,h=>h
 | a :: ts,i,lo,hi,h=>by
  obtain ⟨_,mid,h1,h2,_⟩:=h
  omega
theorem TsOwn.keep_ {w w':World} {g:Nat} : ∀ (ts:List Tm),(∀ a∈ts,∀ sl lo hi,TOwn w a sl lo hi→(∀ b,lo≤b→b<hi→w'.heap[b]?=w.heap[b]?)→TOwn w' a sl lo hi)→∀ {i lo hi:Nat},TsOwn w g ts i lo hi →
  (∀ b,lo≤b→b<hi→w'.heap[b]?=w.heap[b]?)→(∀ j,i * 6≤j→j<(i+ts.length) * 6→w'.cell? ⟨g,j,none⟩=w.cell? ⟨g,j,none⟩)→TsOwn w' g ts i lo hi
 | [],_,_,_,_,h,_,_=>h
 | a :: ts,ih,i,lo,hi,h,hb,hc=>by
  obtain ⟨sl,mid,h1,h2,h3,h4,h5⟩:=h
  exact ⟨sl,mid,h1,h2,fun j hj=>(hc _ (by omega) (by rw [List.length_cons];omega)).trans (h3 j hj),ih a (by simp) sl lo mid h4 (fun b hb1 hb2=>hb b hb1 (by omega)),
   TsOwn.keep_ ts (fun x hx=>ih x (by simp [hx])) h5 (fun b hb1 hb2=>hb b (by omega) hb2) (fun j hj hj2=>hc j (by omega) (by rw [List.length_cons];omega))⟩
theorem TOwn.keep (t:Tm):∀ {w w':World} {sl:Value} {lo hi:Nat},TOwn w t sl lo hi→(∀ b,lo≤b→b<hi→w'.heap[b]?=w.heap[b]?)→TOwn w' t sl lo hi:=by
 refine Tm.ind (p:=fun t=>∀ {w w':World} {sl:Value} {lo hi:Nat},TOwn w t sl lo hi→(∀ b,lo≤b→b<hi→w'.heap[b]?=w.heap[b]?)→TOwn w' t sl lo hi) (fun k n m b v ts ih w w' sl lo hi h hb=>?_) t
 rw [TOwn.iff] at h ⊢
 obtain ⟨h1,h2,h3,A,c,h4,h5,h6,h7⟩:=h
 refine ⟨h1,h2,h3,A,c,h4,h5,h6,fun hne=>?_⟩
 obtain ⟨g,e,hg1,hg2,⟨cs,hcs⟩,hs⟩:=h7 hne
 refine ⟨g,e,hg1,hg2,⟨cs,(hb g hg1 hg2).trans hcs⟩,TsOwn.keep_ ts (fun a ha sl lo hi h hb=>ih a ha h hb) hs (fun b hb1 hb2=>hb b (by omega) hb2) (fun j _ _=>Qc (a:=⟨g,j,none⟩) (hb g hg1 hg2))⟩
theorem TsOwn.keep {w w':World} {g:Nat} {ts:List Tm} {i lo hi:Nat} (h:TsOwn w g ts i lo hi) (hb:∀ b,lo≤b→b<hi→w'.heap[b]?=w.heap[b]?) (hc:∀ j,i * 6≤j→j<(i+ts.length) * 6→w'.cell? ⟨g,j,none⟩=w.cell? ⟨g,j,none⟩):TsOwn w' g ts i lo hi:=
 TsOwn.keep_ ts (fun a _ sl lo hi h hb=>TOwn.keep a h hb) h hb hc
theorem TsOwn.widen {w:World} {g hi hi':Nat} (hh:hi≤hi'):∀ (ts:List Tm) (i lo:Nat),TsOwn w g ts i lo hi→TsOwn w g ts i lo hi'
 | [],_,_,h=>Nat.le_trans h hh
 | a :: ts,i,lo,h=>by
  obtain ⟨sl,mid,a1,a2,a3,a4,a5⟩:=h
  exact ⟨sl,mid,a1,by omega,a3,a4,TsOwn.widen hh ts _ _ a5⟩
theorem TOwn.widen {w:World} {t:Tm} {sl:Value} {lo hi hi':Nat} (h:TOwn w t sl lo hi) (hh:hi≤hi'):TOwn w t sl lo hi':=by
 rw [TOwn.iff] at h ⊢
 obtain ⟨h1,h2,h3,A,c,h4,h5,h6,h7⟩:=h
 refine ⟨h1,h2,by omega,A,c,h4,h5,h6,fun hne=>?_⟩
 obtain ⟨g,e,hg1,hg2,hcs,hs⟩:=h7 hne
 exact ⟨g,e,hg1,by omega,hcs,TsOwn.widen hh _ _ _ hs⟩
theorem TOwn.lower {w:World} {t:Tm} {sl:Value} {lo lo' hi:Nat} (h:TOwn w t sl lo hi) (hh:lo'≤lo):TOwn w t sl lo' hi:=by
 rw [TOwn.iff] at h ⊢
 obtain ⟨h1,h2,h3,A,c,h4,h5,h6,h7⟩:=h
 refine ⟨h1,h2,by omega,A,c,h4,h5,h6,fun hne=>?_⟩
 obtain ⟨g,e,hg1,hg2,hcs,hs⟩:=h7 hne
 exact ⟨g,e,by omega,hg2,hcs,hs⟩
theorem TsOwn.snoc {w:World} {g:Nat} {a:Tm} {sl:Value} : ∀ {ts:List Tm} {i lo mid hi:Nat},TsOwn w g ts i lo mid→mid≤hi→(∀ j,j<6→w.cell? ⟨g,(i+ts.length) * 6+j,none⟩=(cells6 a sl)[j]?)→TOwn w a sl mid hi→TsOwn w g (ts ++ [a]) i lo hi
 | [],i,lo,mid,hi,h,hm,hc,ha=>by
  refine ⟨sl,hi,?_,Nat.le_refl _,fun j hj=>?_,ha.lower h,Nat.le_refl _⟩
  ·have h':lo≤mid:=h
   omega
  ·have:=hc j hj
   simpa using this
 | b :: ts,i,lo,mid,hi,h,hm,hc,ha=>by
  obtain ⟨sb,m1,h1,h2,h3,h4,h5⟩:=h
  refine ⟨sb,m1,h1,by omega,h3,h4,TsOwn.snoc h5 hm (fun j hj=>?_) ha⟩
  rw [←hc j hj,List.length_cons,show i+1+ts.length=i+(ts.length+1) by omega]
theorem TOwn.atP (t:Tm):∀ {w:World} {sl:Value} {lo hi:Nat},TOwn w t sl lo hi→TAtP w (fun b=>lo≤b∧b<hi) t sl:=by
 refine Tm.ind (p:=fun t=>∀ {w:World} {sl:Value} {lo hi:Nat},TOwn w t sl lo hi→TAtP w (fun b=>lo≤b∧b<hi) t sl) (fun k n m b v ts ih w sl lo hi h=>?_) t
 rw [TOwn.iff] at h
 rw [TAtP.iff]
 obtain ⟨h1,h2,h3,A,c,h4,h5,h6,h7⟩:=h
 refine ⟨A,c,h4,h5,h6,h2,h1,fun hne=>?_⟩
 obtain ⟨g,e,hg1,hg2,_,hs⟩:=h7 hne
 refine ⟨g,0,e,⟨hg1,hg2⟩,?_⟩
 have key:∀ (l:List Tm),(∀ a∈l,∀ {sl:Value} {lo hi:Nat},TOwn w a sl lo hi→TAtP w (fun b=>lo≤b∧b<hi) a sl)→∀ (i lo2:Nat),lo≤lo2→TsOwn w g l i lo2 hi→∀ q a,l[q]?=some a→EltP w (fun b=>lo≤b∧b<hi) g ((i+q) * 6) a:=by
  intro l
  induction l with
  | nil=>intro _ i lo2 _ _ q a hq;simp at hq
  | cons x l ihl=>
   intro hh i lo2 hlo h q a hq
   obtain ⟨sx,mid,m1,m2,m3,m4,m5⟩:=h
   cases q with
   | zero=>
    cases hq
    refine ⟨sx,fun j hj=>m3 j hj,(hh x (by simp) m4).wide (fun b hb=>⟨by omega,by omega⟩)⟩
   | succ q=>
    have:=ihl (fun y hy=>hh y (by simp [hy])) (i+1) mid (by omega) m5 q a (by simpa using hq)
    rwa [show i+1+q=i+(q+1) by omega] at this
 intro i a ha
 have:=key ts (fun a ha=>ih a ha) 0 (g+1) (by omega) hs i a ha
 rwa [Nat.zero_add,←Nat.zero_add (i * 6)] at this
structure Wrote (lo hi:Nat) (w w':World):Prop where
 os:w'.os=w.os
 tape:w'.tape=w.tape
 output:w'.output=w.output
 size:w.heap.size≤w'.heap.size
 block:∀ b,b<w.heap.size→(b<lo∨hi≤b)→w'.heap[b]?=w.heap[b]?
theorem Wrote.trans {lo hi:Nat} {a b c:World} (h:Wrote lo hi a b) (k:Wrote lo hi b c):Wrote lo hi a c:=
 ⟨k.os.trans h.os,k.tape.trans h.tape,k.output.trans h.output,Nat.le_trans h.size k.size,fun i hi2 ho=>(k.block i (Ql hi2 h.size) ho).trans (h.block i hi2 ho)⟩
theorem Wrote.wide {lo hi lo' hi':Nat} {a b:World} (h:Wrote lo hi a b) (h1:lo'≤lo) (h2:hi≤hi'):Wrote lo' hi' a b:=⟨h.os,h.tape,h.output,h.size,fun i hi ho=>h.block i hi (by omega)⟩
theorem Wrote.new {lo hi:Nat} {a b:World} (h:Below a.heap.size a b):Wrote lo hi a b:=⟨h.os,h.tape,h.output,h.size,fun i hi _=>h.block i hi⟩
theorem Wrote.cell {lo hi:Nat} (w:World) {p:Addr} (h1:lo≤p.block) (h2:p.block<hi) (u:Value):Wrote lo hi w (w.setCell p u):=⟨rfl,rfl,rfl,by simp [World.setCell],fun b _ ho=>Below.heap_setCell _ _ _ b (by omega)⟩
theorem Wrote.below {lo hi:Nat} {a b:World} (h:Wrote lo hi a b) (hlo:lo≤a.heap.size):Below lo a b:=⟨h.os,h.tape,h.output,h.size,fun k hk=>h.block k (by omega) (.inl hk)⟩
theorem cell_setCell_ne (w:World) {g i j:Nat} (u:Value) (h:i≠j):(w.setCell ⟨g,i,none⟩ u).cell? ⟨g,j,none⟩=w.cell? ⟨g,j,none⟩:=World.cell?_setCell_other _ _ _ _ (by simp [Ne.symm h])
theorem set_rowT {W:World} {b:Nat} {cs:Array Value} {t:TypeId} {q:Nat × Nat} (h:W.heap[b]?=some (.cells cs t q)) (i:Nat) (v:Value):(W.setCell ⟨b,i,none⟩ v).heap[b]?=some (.cells (cs.setIfInBounds i v) t q):=by
 simp [World.setCell,Array.getElem?_modify,h]
def SpoilOk (t:Tm):Prop:=∀ (w:World) (sl:Value) (lo hi:Nat),TOwn w t sl lo hi→hi≤w.heap.size→Calls Tryd.prog 15 #[valT t sl] w fun e w'=>e = .returned (.tuple #[])∧Wrote lo hi w w'
theorem spoil_any (t:Tm):SpoilOk t:=by
 refine Tm.ind (p:=SpoilOk) (fun k nl ml b v ts ih=>?_) t
 intro w sl lo hi h hhi
 obtain ⟨hok,hl3,hlh,A,c,rfl,hl1,hl2,hs⟩:=TOwn.iff.1 h
 obtain ⟨nb,hnb⟩:∃ nb:ByteArray,(⟨nl.toArray⟩:ByteArray)=nb:=⟨_,rfl⟩
 obtain ⟨mb,hmb⟩:∃ mb:ByteArray,(⟨ml.toArray⟩:ByteArray)=mb:=⟨_,rfl⟩
 obtain ⟨L,hL⟩:∃ L,ts.length=L:=⟨_,rfl⟩
 change ts.length≤c at hl1
 change ts.length≤maxArgs at hl3
 change ts ≠ []→∃ g,A=some ⟨g,0,none⟩∧lo≤g∧g<hi∧(∃ cs,w.heap[g]?=some (.cells cs 25 (0,0)))∧TsOwn w g ts 0 (g+1) hi at hs
 change Calls Tryd.prog 15 #[valT _ (.slice A ts.length c)] w _
 rw [valT_mk hnb hmb]
 rw [hL] at hl1 hl3 ⊢
 have HIH:=Qh ih
 have HL:=Qh hL
 have HM:=Qh (Qa hnb hmb)
 have hLI:(L:Int)≤1759218604400:=by unfold maxArgs at hl3;omega
 obtain ⟨W1,hW1⟩:∃ W1,w.alloc (.cells (Q5 k nb mb b v (.slice A L c)) 25)=W1:=⟨_,rfl⟩
 have hb1:Below w.heap.size w W1:=by rw [←hW1];exact Qb
 have hX:TBox W1 w.heap.size (.mk k nl ml b v ts) (.slice A L c):=by rw [←hW1];exact TBox.new w hnb hmb
 have HI0:=Qh (show Wrote lo hi w W1∧TBox W1 w.heap.size (.mk k nl ml b v ts) (.slice A L c)∧(0<L→∃ g lo2,A=some ⟨g,0,none⟩∧lo≤g∧g<lo2∧g<hi∧(∃ cs,W1.heap[g]?=some (.cells cs 25 (0,0)))∧TsOwn W1 g (ts.drop 0) 0 lo2 hi) from
  ⟨Wrote.new hb1,hX,fun hn=>by
   obtain ⟨g,e,h1,h2,⟨cs,hcs⟩,h3⟩:=hs (by rintro rfl;simp at hL;omega)
   exact ⟨g,g+1,e,h1,by omega,h2,⟨cs,(hb1.block g (by omega)).trans hcs⟩,h3.keep (fun b _ hb2=>hb1.block b (by omega)) (fun j _ _=>hb1.cell (p:=⟨g,j,none⟩) (by show g<_;omega))⟩⟩)
 have HH:=Qh hhi
 have HW:=Qh hW1
 clear ih h hs hL hnb hmb hok hl3 hb1 hX hhi hW1
 go_enter Tryd.func15,Tryd.ntmps15
 go_upto_region 2 with fail
 rw [HW.out]
 clear HW
 obtain ⟨G,hG⟩:∃ G,w.heap.size=G:=⟨_,rfl⟩
 have HG:=Qh hG
 rw [hG] at HI0 ⊢
 clear hG
 go_loopw [2] (fun v2 wr=>∃ i:Nat,v2 = .int .i64 (i:Nat)∧i≤L∧Hid (Wrote lo hi w wr∧TBox wr G (.mk k nl ml b v ts) (.slice A L c)∧(i<L→∃ g lo2,A=some ⟨g,0,none⟩∧lo≤g∧g<lo2∧g<hi∧(∃ cs,wr.heap[g]?=some (.cells cs 25 (0,0)))∧TsOwn wr g (ts.drop i) i lo2 hi))) (fun v2 _=>((L:Int) - intOf v2).toNat)
 case atStart=>exact ⟨0,rfl,Nat.zero_le _,HI0⟩
 case round=>
  obtain ⟨i,rfl,hi',HI⟩:=hrel
  obtain ⟨x0,x1,x2,x3,x4,x5⟩:=HI.out.2.1.cells HM.out.1 HM.out.2
  by_cases hlt:i<L
  ·have hltI:(i:Int)<(L:Int):=by omega
   have hi0:(0:Int)≤(i:Int):=by omega
   have hil:i<ts.length:=by rw [HL.out];exact hlt
   obtain ⟨g,lo2,rfl,hg1,hg2,hg3,⟨cs,hcs⟩,hts⟩:=HI.out.2.2 hlt
   obtain ⟨a,ha⟩:∃ a,ts[i]?=some a:=⟨_,List.getElem?_eq_getElem hil⟩
   have hd:ts.drop i=a :: ts.drop (i+1):=by rw [List.drop_eq_getElem_cons hil,←List.getElem?_eq_some_iff.1 ha |>.2]
   rw [hd] at hts
   obtain ⟨sa,mid,m1,m2,m3,m4,m5⟩:=hts
   have hle5:=m5.le
   have HC0:=HIH.out a (List.mem_of_getElem? ha) wr sa lo2 mid m4 (by have:=HI.out.1.size;have:=HH.out;omega)
   obtain ⟨k',n',m',b',v',ts',nb',mb',A',c',rfl,rfl,hnb',hmb',_,_,_,hva,_,_⟩:=(TOwn.atP _ m4).letters
   rw [hva] at HC0
   have e0:=m3 0 (by omega)
   have e1:=m3 1 (by omega)
   have e2:=m3 2 (by omega)
   have e3:=m3 3 (by omega)
   have e4:=m3 4 (by omega)
   have e5:=m3 5 (by omega)
   simp only [cells6,Tm.k,Tm.n,Tm.m,Tm.b,Tm.v,List.getElem?_cons_zero,List.getElem?_cons_succ,hnb',hmb',Nat.add_zero] at e0 e1 e2 e3 e4 e5
   have HCl:=Qh HC0
   have HF:=Qh (Qa hg1 (Qa hg2 (Qa hg3 (Qa m1 (Qa m2 (Qa m5 hle5))))))
   have HCs:=Qh hcs
   have HLT:=Qh hlt
   clear hg1 hg2 hg3 m1 m2 m3 m4 m5 hle5 hd ha hil hlt hi' hcs hnb' hmb' hva HC0
   go_upto_region 5 with (go_at_call 15;(with_reducible refine HCl.out.mono ?_);rintro e w2 ⟨rfl,hw2⟩;have HW2:=Qh hw2;clear hw2)
   obtain ⟨f1,f2,f3,f4,f5,f6,f7⟩:=HF.out
   have hGs:w.heap.size=G:=HG.out
   have hGl:G<wr.heap.size:=HI.out.2.1.lt
   have hhg:=HH.out
   have hX2:TBox w2 G (.mk k nl ml b v ts) (.slice (some ⟨g,0,none⟩) L c):=(HW2.out.block G hGl (.inr (by omega))).trans HI.out.2.1
   have hcs2:w2.heap[g]?=some (.cells cs 25 (0,0)):=(HW2.out.block g (by omega) (.inl f2)).trans HCs.out
   have hgg:w2.heap[g]?=wr.heap[g]?:=HW2.out.block g (by omega) (.inl f2)
   obtain ⟨_,_,_,_,_,y5⟩:=hX2.cells HM.out.1 HM.out.2
   have q0:=(Qc (a:=⟨g,i * 6,none⟩) hgg).trans e0
   have q1:=(Qc (a:=⟨g,i * 6+1,none⟩) hgg).trans e1
   have q2:=(Qc (a:=⟨g,i * 6+2,none⟩) hgg).trans e2
   have q3:=(Qc (a:=⟨g,i * 6+3,none⟩) hgg).trans e3
   have q4:=(Qc (a:=⟨g,i * 6+4,none⟩) hgg).trans e4
   have q5:=(Qc (a:=⟨g,i * 6+5,none⟩) hgg).trans e5
   have z0:w2.frozen? ⟨g,i * 6,none⟩=false:=by simp [World.frozen?,hcs2]
   have z1:w2.frozen? ⟨g,i * 6+1,none⟩=false:=by simp [World.frozen?,hcs2]
   have z2:w2.frozen? ⟨g,i * 6+2,none⟩=false:=by simp [World.frozen?,hcs2]
   have z3:w2.frozen? ⟨g,i * 6+3,none⟩=false:=by simp [World.frozen?,hcs2]
   have z4:w2.frozen? ⟨g,i * 6+4,none⟩=false:=by simp [World.frozen?,hcs2]
   have z5:w2.frozen? ⟨g,i * 6+5,none⟩=false:=by simp [World.frozen?,hcs2]
   have HE:=Qh (show ∀ w3,((((((w2.setCell ⟨g,i * 6,none⟩ (.int .i64 9)).setCell ⟨g,i * 6+1,none⟩ (.string ⟨#[]⟩)).setCell ⟨g,i * 6+2,none⟩ (.string ⟨#[]⟩)).setCell ⟨g,i * 6+3,none⟩ (.int .u64 0)).setCell ⟨g,i * 6+4,none⟩ (.int .i64 0)).setCell ⟨g,i * 6+5,none⟩ (.slice none 0 0))=w3→Wrote lo hi w w3∧TBox w3 G (.mk k nl ml b v ts) (.slice (some ⟨g,0,none⟩) L c)∧(i+1<L→∃ g' lo3,(some ⟨g,0,none⟩:Option Addr)=some ⟨g',0,none⟩∧lo≤g'∧g'<lo3∧g'<hi∧(∃ cs,w3.heap[g']?=some (.cells cs 25 (0,0)))∧TsOwn w3 g' (ts.drop (i+1)) (i+1) lo3 hi) from by
    intro w3 hw3
    have hwr:Wrote lo hi w2 w3:=by
     rw [←hw3]
     exact (((((Wrote.cell _ f1 f3 _).trans (Wrote.cell _ f1 f3 _)).trans (Wrote.cell _ f1 f3 _)).trans (Wrote.cell _ f1 f3 _)).trans (Wrote.cell _ f1 f3 _)).trans (Wrote.cell _ f1 f3 _)
    have hfar:∀ b,b≠g→w3.heap[b]?=w2.heap[b]?:=by
     intro b hb
     rw [←hw3]
     rw [Below.heap_setCell _ _ _ b hb,Below.heap_setCell _ _ _ b hb,Below.heap_setCell _ _ _ b hb,Below.heap_setCell _ _ _ b hb,Below.heap_setCell _ _ _ b hb,Below.heap_setCell _ _ _ b hb]
    have hcell:∀ j,(i+1) * 6≤j→w3.cell? ⟨g,j,none⟩=w2.cell? ⟨g,j,none⟩:=by
     intro j hj
     rw [←hw3]
     rw [cell_setCell_ne _ _ (by omega),cell_setCell_ne _ _ (by omega),cell_setCell_ne _ _ (by omega),cell_setCell_ne _ _ (by omega),cell_setCell_ne _ _ (by omega),cell_setCell_ne _ _ (by omega)]
    refine ⟨(HI.out.1.trans (HW2.out.wide (by omega) (by omega))).trans hwr,(hfar G (by omega)).trans hX2,fun _=>⟨g,mid,rfl,f1,by omega,f3,?_,?_⟩⟩
    ·rw [←hw3]
     exact ⟨_,set_rowT (set_rowT (set_rowT (set_rowT (set_rowT (set_rowT hcs2 _ _) _ _) _ _) _ _) _ _) _ _⟩
    ·exact f6.keep (fun b h1 h2=>(hfar b (by omega)).trans (HW2.out.block b (by have:=HI.out.1.size;omega) (.inr h1))) (fun j hj _=>(hcell j hj).trans (Qc (a:=⟨g,j,none⟩) hgg)))
   clear f1 f2 f3 f4 f5 f6 f7 hGs hGl hhg hX2 hcs2 hgg e0 e1 e2 e3 e4 e5 x0 x1 x2 x3 x4 x5
   go_wp2
   go_roundw
   case rel=>exact ⟨i+1,rfl,HLT.out,Qh (HE.out _ rfl)⟩
   case measure=>
    have:=HLT.out
    show ((L:Int) - ((i:Int)+1)).toNat<((L:Int) - (i:Int)).toNat
    omega
  ·have ei:i=L:=by omega
   subst ei
   have HE:=Qh HI.out.1
   clear hlt hi'
   go_wp2
   first
    | (go_ret;exact ⟨rfl,HE.out⟩)
    | exact bodyPost_ret (results_none rfl _ _ _) rfl ⟨rfl,HE.out⟩
    | exact bodyPost_end (results_none rfl _ _ _) rfl ⟨rfl,HE.out⟩
mutual
/-- only compounds have arguments -/
def Bare:Tm→Prop
 | .mk k _ _ _ _ ts=>(k≠5→ts = [])∧Bares ts
def Bares:List Tm→Prop
 | []=>True
 | a :: ts=>Bare a∧Bares ts
end
theorem Bares.mem {ts:List Tm} (h:Bares ts):∀ a∈ts,Bare a:=by
 induction ts with
 | nil=>intro a ha;cases ha
 | cons b ts ih=>
  intro a ha
  rcases List.mem_cons.1 ha with rfl | ha
  ·exact h.1
  ·exact ih h.2 a ha
theorem Bares.of {ts:List Tm} (h:∀ a∈ts,Bare a):Bares ts:=by
 induction ts with
 | nil=>trivial
 | cons b ts ih=>exact ⟨h b (by simp),ih (fun a ha=>h a (by simp [ha]))⟩
structure DOwnI (w:World) (G L:Nat) (t:Tm) (sl:Value) (pre:List Tm) (wr:World):Prop where
 bel:Below w.heap.size w wr
 t1:TBox wr G t sl
 t2:TBox wr (G+1) zeroT (.slice none 0 0)
 blk:∃ cs,wr.heap[G+1+1]?=some (.cells cs 25 (0,0))∧cs.size=L * 6
 own:TsOwn wr (G+1+1) pre 0 (G+1+1+1) wr.heap.size
theorem own_letters {f:Nat} {args:Array Value} {w:World} {k b v:Int} {n m:List UInt8} {ts:List Tm} {nb mb:ByteArray} {q:Nat} (hn:(⟨n.toArray⟩:ByteArray)=nb) (hm:(⟨m.toArray⟩:ByteArray)=mb) (hq:ts.length=q)
  (h:Calls Tryd.prog f args w fun e w'=>∃ sl',e = .returned (valT (.mk k n m b v ts) sl')∧TOwn w' (.mk k n m b v ts) sl' w.heap.size w'.heap.size∧Below w.heap.size w w') :
  Calls Tryd.prog f args w fun e w'=>∃ A c,e = .returned (.agg (Q5 k nb mb b v (.slice A q c)))∧TOwn w' (.mk k n m b v ts) (.slice A q c) w.heap.size w'.heap.size∧Below w.heap.size w w':=
 h.mono fun e w' ⟨sl',he,hf,hb⟩=>by
  obtain ⟨_,_,_,A,c,rfl,_⟩:=TOwn.iff.1 hf
  change e = .returned (valT _ (.slice A ts.length c)) at he
  change TOwn w' _ (.slice A ts.length c) _ _ at hf
  rw [valT_mk hn hm,hq] at he
  rw [hq] at hf
  exact ⟨A,c,he,hf,hb⟩
theorem cell_some {w:World} {g:Nat} {cs:Array Value} {t:TypeId} {k:Nat × Nat} (h:w.heap[g]?=some (.cells cs t k)) {j:Nat} (hj:j<cs.size):∃ u,w.cell? ⟨g,j,none⟩=some u:=by
 rw [cell_of_row w g j _ t k h]
 exact ⟨_,Array.getElem?_eq_getElem hj⟩
theorem slots6 {w:World} {g:Nat} {cs:Array Value} {t:TypeId} {k:Nat × Nat} (h:w.heap[g]?=some (.cells cs t k)) {j:Nat} (hj:j+6≤cs.size) :
  (∃ u0 u1 u2 u3 u4 u5,w.cell? ⟨g,j,none⟩=some u0∧w.cell? ⟨g,j+1,none⟩=some u1∧w.cell? ⟨g,j+2,none⟩=some u2∧w.cell? ⟨g,j+3,none⟩=some u3∧w.cell? ⟨g,j+4,none⟩=some u4∧w.cell? ⟨g,j+5,none⟩=some u5):=by
 obtain ⟨u0,h0⟩:=cell_some h (j:=j) (by omega)
 obtain ⟨u1,h1⟩:=cell_some h (j:=j+1) (by omega)
 obtain ⟨u2,h2⟩:=cell_some h (j:=j+2) (by omega)
 obtain ⟨u3,h3⟩:=cell_some h (j:=j+3) (by omega)
 obtain ⟨u4,h4⟩:=cell_some h (j:=j+4) (by omega)
 obtain ⟨u5,h5⟩:=cell_some h (j:=j+5) (by omega)
 exact ⟨u0,u1,u2,u3,u4,u5,h0,h1,h2,h3,h4,h5⟩
theorem thaw6 {w:World} {g:Nat} {cs:Array Value} {t:TypeId} (h:w.heap[g]?=some (.cells cs t (0,0))) (j:Nat) :
  w.frozen? ⟨g,j,none⟩=false∧w.frozen? ⟨g,j+1,none⟩=false∧w.frozen? ⟨g,j+2,none⟩=false∧w.frozen? ⟨g,j+3,none⟩=false∧w.frozen? ⟨g,j+4,none⟩=false∧w.frozen? ⟨g,j+5,none⟩=false:=by
 refine ⟨?_,?_,?_,?_,?_,?_⟩ <;> simp [World.frozen?,h]
def set6 (w:World) (g j:Nat) (a0 a1 a2 a3 a4 a5:Value):World:=(((((w.setCell ⟨g,j,none⟩ a0).setCell ⟨g,j+1,none⟩ a1).setCell ⟨g,j+2,none⟩ a2).setCell ⟨g,j+3,none⟩ a3).setCell ⟨g,j+4,none⟩ a4).setCell ⟨g,j+5,none⟩ a5
theorem set6_block {w:World} {g j:Nat} {a0 a1 a2 a3 a4 a5:Value} {cs:Array Value} {t:TypeId} {k:Nat × Nat} (h:w.heap[g]?=some (.cells cs t k)):∃ cs',(set6 w g j a0 a1 a2 a3 a4 a5).heap[g]?=some (.cells cs' t k)∧cs'.size=cs.size:=by
 refine ⟨_,set_rowT (set_rowT (set_rowT (set_rowT (set_rowT (set_rowT h _ _) _ _) _ _) _ _) _ _) _ _,by simp⟩
theorem set6_grown (w:World) (g j:Nat) (a0 a1 a2 a3 a4 a5:Value):w.grownBy (set6 w g j a0 a1 a2 a3 a4 a5) (some g):=
 gb_setCell (gb_setCell (gb_setCell (gb_setCell (gb_setCell (gb_setCell (gb_refl w (some g)) j _) (j+1) _) (j+2) _) (j+3) _) (j+4) _) (j+5) _
theorem set6_size (w:World) (g j:Nat) (a0 a1 a2 a3 a4 a5:Value):(set6 w g j a0 a1 a2 a3 a4 a5).heap.size=w.heap.size:=by simp [set6,World.setCell]
theorem set6_other (w:World) (g j:Nat) (a0 a1 a2 a3 a4 a5:Value) {q:Nat} (hq:q<j∨j+6≤q):(set6 w g j a0 a1 a2 a3 a4 a5).cell? ⟨g,q,none⟩=w.cell? ⟨g,q,none⟩:=by
 unfold set6
 rw [cell_setCell_ne _ _ (by omega),cell_setCell_ne _ _ (by omega),cell_setCell_ne _ _ (by omega),cell_setCell_ne _ _ (by omega),cell_setCell_ne _ _ (by omega),cell_setCell_ne _ _ (by omega)]
theorem set6_cell {w:World} {g j:Nat} {cs:Array Value} {ty:TypeId} {kk:Nat × Nat} (h:w.heap[g]?=some (.cells cs ty kk)) (hj:j+6≤cs.size) {k v b:Int} {n m:List UInt8} (ts:List Tm) (sl:Value) {nb mb:ByteArray} (hn:(⟨n.toArray⟩:ByteArray)=nb) (hm:(⟨m.toArray⟩:ByteArray)=mb) :
  ∀ q,q<6→(set6 w g j (.int .i64 k) (.string nb) (.string mb) (.int .u64 b) (.int .i64 v) sl).cell? ⟨g,j+q,none⟩=(cells6 (.mk k n m b v ts) sl)[q]?:=by
 subst hn hm
 intro q hq
 have h2:=set_rowT (set_rowT (set_rowT (set_rowT (set_rowT (set_rowT h j (.int .i64 k)) (j+1) (.string ⟨n.toArray⟩)) (j+2) (.string ⟨m.toArray⟩)) (j+3) (.int .u64 b)) (j+4) (.int .i64 v)) (j+5) sl
 have h3:(set6 w g j (.int .i64 k) (.string ⟨n.toArray⟩) (.string ⟨m.toArray⟩) (.int .u64 b) (.int .i64 v) sl).heap[g]?=_:=h2
 rw [cell_of_row _ g (j+q) _ _ _ h3]
 have h6:q=0∨q=1∨q=2∨q=3∨q=4∨q=5:=by omega
 rcases h6 with rfl | rfl | rfl | rfl | rfl | rfl
 all_goals
  simp [Array.getElem?_setIfInBounds,cells6,Tm.k,Tm.n,Tm.m,Tm.b,Tm.v]
  try omega
def DOwnOk (t:Tm):Prop:=∀ (w:World) (sl:Value),TAt w w.heap.size t sl→Bare t→Calls Tryd.prog 62 #[valT t sl] w fun e w'=>∃ sl',e = .returned (valT t sl')∧TOwn w' t sl' w.heap.size w'.heap.size∧Below w.heap.size w w'
theorem dcgown_any (t:Tm):DOwnOk t:=by
 refine Tm.ind (p:=DOwnOk) (fun k nl ml b v ts ih=>?_) t
 intro w sl h hbare
 obtain ⟨A,c,rfl,hl1,hl2,hl3⟩:=h.slice
 have hok:=h.ok
 obtain ⟨nb,hnb⟩:∃ nb:ByteArray,(⟨nl.toArray⟩:ByteArray)=nb:=⟨_,rfl⟩
 obtain ⟨mb,hmb⟩:∃ mb:ByteArray,(⟨ml.toArray⟩:ByteArray)=mb:=⟨_,rfl⟩
 obtain ⟨L,hL⟩:∃ L,ts.length=L:=⟨_,rfl⟩
 change ts.length≤c at hl1
 change ts.length≤maxArgs at hl3
 change TAt w w.heap.size (.mk k nl ml b v ts) (.slice A ts.length c) at h
 change Calls Tryd.prog 62 #[valT _ (.slice A ts.length c)] w _
 rw [valT_mk hnb hmb]
 rw [hL] at h hl1 hl3 ⊢
 obtain ⟨hk5,hbs⟩:=hbare
 have HBs:=Qh (Bares.mem hbs)
 have HIH:=Qh ih
 have HL:=Qh hL
 have HM:=Qh (Qa hnb hmb)
 have HOk:=Qh hok
 have HMx:=Qh hl3
 have hLI:(L:Int)≤1759218604400:=by unfold maxArgs at hl3;omega
 obtain ⟨W1,hW1⟩:∃ W1,w.alloc (.cells (Q5 k nb mb b v (.slice A L c)) 25)=W1:=⟨_,rfl⟩
 obtain ⟨W2,hW2⟩:∃ W2,W1.alloc (.cells Qz 25)=W2:=⟨_,rfl⟩
 have hb1:Below w.heap.size w W1:=by rw [←hW1];exact Qb
 have s1:W1.heap.size=w.heap.size+1:=by rw [←hW1];simp
 have hb2:Below W1.heap.size W1 W2:=by rw [←hW2];exact Qb
 have s2:W2.heap.size=W1.heap.size+1:=by rw [←hW2];simp
 have hX1:TBox W1 w.heap.size (.mk k nl ml b v ts) (.slice A L c):=by rw [←hW1];exact TBox.new w hnb hmb
 have hX2:TBox W2 W1.heap.size zeroT (.slice none 0 0):=by rw [←hW2];exact heap_alloc_new W1 _
 have hX1':=hX1.below hb2
 rw [s1] at hX2
 obtain ⟨x0,x1,x2,x3,x4,x5⟩:=hX1'.cells hnb hmb
 have HX:=Qh (Qa hX1' hX2)
 have HB:=Qh (hb1.trans (hb2.mono (by omega)))
 have HT:=Qh h
 have HS:=Qh (show W2.heap.size=w.heap.size+1+1 by omega)
 have HW:=Qh hW2
 subst hW1
 clear ih h hL hnb hmb hok hl3 hX1 hX2 hX1' hb1 hb2 s1 s2 hbs hW2
 by_cases hk:k=5
 ·subst hk
  clear hk5
  rw [←HW.out] at x0 x1 x2 x3 x4 x5
  obtain ⟨MC,hMC⟩:∃ MC,madeCells (Value.agg Qz).cells (L * 6)=MC:=⟨_,rfl⟩
  have HMC:=Qh (show MC.size=L * 6 by rw [←hMC,size_madeCells])
  have hmk:∀ W:World,(Instr.makeSlice 23 (.int .i64 (L:Int)) (.int .i64 (L:Int))).run Tryd.prog W = .ok (.slice (some ⟨W.heap.size,0,none⟩) L L) (W.alloc (.cells MC 25)):=fun W=>by
   obtain ⟨i0,hi,hz0,hz1,hz2⟩:=info_parts infoT
   have h9:=run_make (P:=Tryd.prog) W 23 25 i0 _ Tryd.underlying23 hi hz0 .i64 .i64 (L:Int) (L:Int) (by omega) (Int.le_refl _) (by rw [hz2];omega) (by omega)
   rw [hz1,Int.toNat_natCast,hMC] at h9
   exact h9
  clear hMC
  go_enter Tryd.func62,Tryd.ntmps62
  go_upto_region 4 with fail
  obtain ⟨W3,hW3⟩:∃ W3,((w.alloc (.cells (Q5 5 nb mb b v (.slice A L c)) 25)).alloc (.cells Qz 25)).alloc (.cells MC 25)=W3:=⟨_,rfl⟩
  have hI0:DOwnI w w.heap.size L (.mk 5 nl ml b v ts) (.slice A L c) (ts.take 0) W3:=by
   have hx:=HX.out
   have hb:=HB.out
   have hs:=HS.out
   have hW3':=hW3
   rw [HW.out] at hW3'
   have hb3:Below W2.heap.size W2 W3:=by rw [←hW3'];exact (Below.refl _ _).alloc (Nat.le_refl _) (.cells MC 25)
   have hsz:W3.heap.size=w.heap.size+1+1+1:=by rw [←hW3',World.size_alloc,hs]
   have hn3:=heap_alloc_new W2 (.cells MC 25)
   rw [hs,hW3'] at hn3
   exact ⟨hb.trans (hb3.mono (by omega)),hx.1.below hb3,hx.2.below hb3,⟨MC,hn3,HMC.out⟩,by show _≤_;omega⟩
  have HI0:=Qh hI0
  rw [hW3]
  clear hI0 hW3 x0 x1 x2 x3 x4 x5 hmk HB HX HS HW
  obtain ⟨G,hG⟩:∃ G,w.heap.size=G:=⟨_,rfl⟩
  have HG:=Qh hG
  rw [hG] at HI0 ⊢
  clear hG
  go_loopw [16] (fun v16 wr=>∃ i:Nat,v16 = .int .i64 (i:Nat)∧i≤L∧Hid (DOwnI w G L (.mk 5 nl ml b v ts) (.slice A L c) (ts.take i) wr)) (fun v16 _=>((L:Int) - intOf v16).toNat)
  case atStart=>exact ⟨0,rfl,Nat.zero_le _,HI0⟩
  case round=>
   obtain ⟨i,rfl,hi,HI⟩:=hrel
   by_cases hlt:i<L
   ·have hltI:(i:Int)<(L:Int):=by omega
    have hi0:(0:Int)≤(i:Int):=by omega
    have hil:i<ts.length:=by rw [HL.out];exact hlt
    obtain ⟨a,ha⟩:∃ a,ts[i]?=some a:=⟨_,List.getElem?_eq_getElem hil⟩
    obtain ⟨g,o,rfl,hgB,helt⟩:=(HT.out.to HI.out.bel HI.out.bel.size).arg ha
    have hba:=HBs.out a (List.mem_of_getElem? ha)
    obtain ⟨A',c',k',n',m',b',v',ts',nb',mb',rfl,hnb',hmb',hta,e0,e1,e2,e3,e4,e5⟩:=EltAt.cells helt
    obtain ⟨q,hq⟩:∃ q,ts'.length=q:=⟨_,rfl⟩
    obtain ⟨W4,hW4⟩:∃ W4,wr.alloc (.cells (Q5 k' nb' mb' b' v' (.slice A' q c')) 25)=W4:=⟨_,rfl⟩
    have hb4:Below wr.heap.size wr W4:=by rw [←hW4];exact Qb
    have hX4:TBox W4 wr.heap.size (.mk k' n' m' b' v' ts') (.slice A' q c'):=by rw [←hW4];exact TBox.new wr hnb' hmb'
    have HCl:=Qh (own_letters hnb' hmb' hq (HIH.out _ (List.mem_of_getElem? ha) W4 _ (hta.to hb4 hb4.size) hba))
    rw [valT_mk hnb' hmb',hq] at HCl
    obtain ⟨y0,y1,y2,y3,y4,y5⟩:=hX4.cells hnb' hmb'
    have HN:=Qh (Qa hnb' hmb')
    have HLT:=Qh hlt
    have HTk:=Qh (show ts.take (i+1)=ts.take i ++ [.mk k' n' m' b' v' ts']∧(ts.take i).length=i by exact ⟨by rw [List.take_succ_eq_append_getElem hil,(List.getElem?_eq_some_iff.1 ha).2],by rw [List.length_take];omega⟩)
    have HB4:=Qh hb4
    rw [hq] at e5
    subst hW4
    clear helt hta hnb' hmb' ha hil hlt hi hq hba hb4 hX4
    obtain ⟨cs,hcs,hsz⟩:=HI.out.blk
    have HCs:=Qh (Qa hcs hsz)
    clear hcs hsz
    go_wp2_with (go_at_call 62;(with_reducible refine HCl.out.mono ?_);rintro e w3 ⟨A4,c4,rfl,ho3,hb3⟩;have HO3:=Qh (Qa ho3 (Qt HB4.out hb3));have hcs3:=(HO3.out.2.block _ (Array.getElem?_eq_some_iff.1 HCs.out.1).1).trans HCs.out.1;obtain ⟨u0,u1,u2,u3,u4,u5,p0,p1,p2,p3,p4,p5⟩:=slots6 hcs3 (j:=i * 6) (by have:=HCs.out.2;have:=HLT.out;omega);obtain ⟨z0,z1,z2,z3,z4,z5⟩:=thaw6 hcs3 (i * 6);have HC3:=Qh hcs3;clear ho3 hb3 hcs3)
    go_roundw
    case rel=>
     refine ⟨i+1,rfl,HLT.out,Qh ?_⟩
     rw [HTk.out.1]
     obtain ⟨ho3,hb3⟩:=HO3.out
     have hsz:=HCs.out.2
     have hlt:=HLT.out
     show DOwnI w G L _ _ _ (set6 w3 (G+1+1) (i * 6) (.int .i64 k') (.string nb') (.string mb') (.int .u64 b') (.int .i64 v') (.slice A4 q c4))
     have hgr:=set6_grown w3 (G+1+1) (i * 6) (.int .i64 k') (.string nb') (.string mb') (.int .u64 b') (.int .i64 v') (.slice A4 q c4)
     have hss:=set6_size w3 (G+1+1) (i * 6) (.int .i64 k') (.string nb') (.string mb') (.int .u64 b') (.int .i64 v') (.slice A4 q c4)
     have hot:=fun q'=>set6_other w3 (G+1+1) (i * 6) (.int .i64 k') (.string nb') (.string mb') (.int .u64 b') (.int .i64 v') (.slice A4 q c4) (q:=q')
     have hce:=set6_cell HC3.out (j:=i * 6) (by omega) (k:=k') (b:=b') (v:=v') ts' (.slice A4 q c4) HN.out.1 HN.out.2
     obtain ⟨cs',hcs',hsz'⟩:=set6_block (j:=i * 6) (a0:=.int .i64 k') (a1:=.string nb') (a2:=.string mb') (a3:=.int .u64 b') (a4:=.int .i64 v') (a5:=.slice A4 q c4) HC3.out
     generalize set6 w3 (G+1+1) (i * 6) (.int .i64 k') (.string nb') (.string mb') (.int .u64 b') (.int .i64 v') (.slice A4 q c4)=w6 at *
     have hGw:=HG.out
     have hlG:G<wr.heap.size:=HI.out.t1.lt
     have hlG2:G+1<wr.heap.size:=HI.out.t2.lt
     have hlG3:G+1+1<wr.heap.size:=(Array.getElem?_eq_some_iff.1 HCs.out.1).1
     have hws:=hb3.size
     refine ⟨((Qt HI.out.bel hb3)).grown hgr (by omega) (Qg (by omega)),((hgr.block G (by omega) (fun e=>by injection e with e;omega)).trans (hb3.block G hlG)).trans HI.out.t1,((hgr.block (G+1) (by omega) (fun e=>by injection e with e;omega)).trans (hb3.block (G+1) hlG2)).trans HI.out.t2,⟨cs',hcs',hsz'.trans hsz⟩,?_⟩
     have hpre:TsOwn w6 (G+1+1) (ts.take i) 0 (G+1+1+1) wr.heap.size:=HI.out.own.keep (fun b h1 h2=>(hgr.block b (by omega) (fun e=>by injection e with e;omega)).trans (hb3.block b h2)) (fun j _ hj2=>by
      rw [HTk.out.2,Nat.zero_add] at hj2
      rw [hot j (.inl (by omega))]
      exact hb3.cell (p:=⟨G+1+1,j,none⟩) hlG3)
     rw [hss]
     refine hpre.snoc (mid:=wr.heap.size) hws (sl:=.slice A4 q c4) (fun j hj=>?_) ?_
     ·rw [HTk.out.2,Nat.zero_add]
      exact hce j hj
     ·have h9:=ho3.lower (lo':=wr.heap.size) (by simp)
      exact TOwn.keep _ h9 (fun b h1 h2=>hgr.block b h2 (fun e=>by injection e with e;omega))
    case measure=>
     have:=HLT.out
     show ((L:Int) - ((i:Int)+1)).toNat<((L:Int) - (i:Int)).toNat
     omega
   ·have ei:i=L:=by omega
    subst ei
    obtain ⟨x0,x1,x2,x3,x4,x5⟩:=HI.out.t1.cells HM.out.1 HM.out.2
    have f5:=HI.out.t1.frozen 5
    have hlG:G<wr.heap.size:=HI.out.t1.lt
    obtain ⟨y0,y1,y2,y3,y4,y5⟩:=((HI.out.t2.far (p:=⟨G,5,none⟩) (by show G+1≠G;omega) (.slice (some ⟨G+1+1,0,none⟩) i i))).cells rfl rfl
    obtain ⟨v0,v1,v2,v3,v4,v5⟩:=((HI.out.t2.far (p:=⟨G,5,none⟩) (by show G+1≠G;omega) (.slice (some ⟨G+1+1,0,none⟩) i i))).frozens
    obtain ⟨r0,r1,r2,r3,r4,r5⟩:=(HI.out.t1.args (.slice (some ⟨G+1+1,0,none⟩) i i)).cells HM.out.1 HM.out.2
    have HE:=Qh HI.out
    clear hlt hi
    go_wp2
    have hb1:=HE.out.t2.far (p:=⟨G,5,none⟩) (by show G+1≠G;omega) (.slice (some ⟨G+1+1,0,none⟩) i i)
    obtain ⟨hbx,hgr⟩:=hb1.set6 (k:=5) (b:=b) (v:=v) ts (.slice (some ⟨G+1+1,0,none⟩) i i) HM.out.1 HM.out.2
    have hg0:=gb_setCell (gb_refl wr (some G)) 5 (.slice (some ⟨G+1+1,0,none⟩) i i)
    generalize wr.setCell ⟨G,5,none⟩ (.slice (some ⟨G+1+1,0,none⟩) i i)=w5 at *
    generalize (((((w5.setCell ⟨G+1,0,none⟩ (.int .i64 5)).setCell ⟨G+1,1,none⟩ (.string nb)).setCell ⟨G+1,2,none⟩ (.string mb)).setCell ⟨G+1,3,none⟩ (.int .u64 b)).setCell ⟨G+1,4,none⟩ (.int .i64 v)).setCell ⟨G+1,5,none⟩ (.slice (some ⟨G+1+1,0,none⟩) i i)=w6 at *
    obtain ⟨q0,q1,q2,q3,q4,q5⟩:=hbx.cells HM.out.1 HM.out.2
    have hGw:=HG.out
    obtain ⟨cs,hcs,hsz⟩:=HE.out.blk
    have hlG3:G+1+1<wr.heap.size:=(Array.getElem?_eq_some_iff.1 hcs).1
    have hs1:=hg0.size
    have hs2:=hgr.size
    have hkeep:∀ b,G+1+1≤b→b<wr.heap.size→w6.heap[b]?=wr.heap[b]?:=fun b h1 h2=>(hgr.block b (by omega) (fun e=>by injection e with e;omega)).trans (hg0.block b h2 (fun e=>by injection e with e;omega))
    refine bodyPost_ret (v:=.agg (Q5 5 nb mb b v (.slice (some ⟨G+1+1,0,none⟩) i i))) (by simp [results,Tryd.results62,go_sem,q0,q1,q2,q3,q4,q5]) rfl ⟨.slice (some ⟨G+1+1,0,none⟩) i i,by rw [valT_mk HM.out.1 HM.out.2],?_,?_⟩
    ·rw [TOwn.iff]
     refine ⟨HOk.out,by show ts.length≤_;rw [HL.out];exact HMx.out,by omega,_,i,by show _=Value.slice _ ts.length _;rw [HL.out],by show ts.length≤_;rw [HL.out];exact Nat.le_refl _,by have:=HMx.out;unfold maxArgs at this;unfold maxLen;omega,fun hne=>⟨G+1+1,rfl,by omega,by omega,⟨cs,(hkeep _ (Nat.le_refl _) hlG3).trans hcs⟩,?_⟩⟩
     have h9:=HE.out.own
     rw [List.take_of_length_le (by rw [HL.out];exact Nat.le_refl _)] at h9
     exact TsOwn.widen (by omega) _ _ _ (h9.keep (fun b h1 h2=>hkeep b (by omega) h2) (fun j _ _=>Qc (a:=⟨G+1+1,j,none⟩) (hkeep _ (Nat.le_refl _) hlG3)))
    ·exact (HE.out.bel.grown hg0 HE.out.bel.size (Qg (by omega))).grown hgr (by have:=HE.out.bel.size;omega) (Qg (by omega))
 ·have s0:(k==5)=false:=beq_eq_false_iff_ne.2 hk
  have hts:=hk5 hk
  subst hts
  have hL0:L=0:=by rw [←HL.out];rfl
  subst hL0
  clear hk hk5
  rw [←HW.out] at x0 x1 x2 x3 x4 x5
  have hX:=HX.out
  rw [←HW.out] at hX
  obtain ⟨y0,y1,y2,y3,y4,y5⟩:=hX.2.cells rfl rfl
  obtain ⟨v0,v1,v2,v3,v4,v5⟩:=hX.2.frozens
  clear hX
  go_enter Tryd.func62,Tryd.ntmps62
  go_wp2
  refine bodyPost_ret (v:=.agg (Q5 k nb mb b v (.slice A 0 c))) (by simp [results,Tryd.results62,go_sem]) rfl ⟨.slice A 0 c,by rw [valT_mk HM.out.1 HM.out.2],?_,?_⟩
  ·rw [TOwn.iff]
   exact ⟨HOk.out,Nat.zero_le _,by simp;omega,A,c,rfl,Nat.zero_le _,hl2,fun hne=>absurd rfl hne⟩
  ·exact (Qb).alloc (by simp) _
def TmOwnOk (t:Tm):Prop:=∀ (w:World) (sl:Value),TAt w w.heap.size t sl→Calls Tryd.prog 72 #[valT t sl] w fun e w'=>∃ sl',e = .returned (valT t sl')∧TOwn w' t sl' w.heap.size w'.heap.size∧Below w.heap.size w w'
theorem termown_any (t:Tm):TmOwnOk t:=by
 refine Tm.ind (p:=TmOwnOk) (fun k nl ml b v ts ih=>?_) t
 intro w sl h
 obtain ⟨A,c,rfl,hl1,hl2,hl3⟩:=h.slice
 have hok:=h.ok
 obtain ⟨nb,hnb⟩:∃ nb:ByteArray,(⟨nl.toArray⟩:ByteArray)=nb:=⟨_,rfl⟩
 obtain ⟨mb,hmb⟩:∃ mb:ByteArray,(⟨ml.toArray⟩:ByteArray)=mb:=⟨_,rfl⟩
 obtain ⟨L,hL⟩:∃ L,ts.length=L:=⟨_,rfl⟩
 change ts.length≤c at hl1
 change ts.length≤maxArgs at hl3
 change TAt w w.heap.size (.mk k nl ml b v ts) (.slice A ts.length c) at h
 change Calls Tryd.prog 72 #[valT _ (.slice A ts.length c)] w _
 rw [valT_mk hnb hmb]
 rw [hL] at h hl1 hl3 ⊢
 have HIH:=Qh ih
 have HL:=Qh hL
 have HM:=Qh (Qa hnb hmb)
 have HOk:=Qh hok
 have HMx:=Qh hl3
 have hLI:(L:Int)≤1759218604400:=by unfold maxArgs at hl3;omega
 obtain ⟨W1,hW1⟩:∃ W1,w.alloc (.cells (Q5 k nb mb b v (.slice A L c)) 25)=W1:=⟨_,rfl⟩
 obtain ⟨W2,hW2⟩:∃ W2,W1.alloc (.cells Qz 25)=W2:=⟨_,rfl⟩
 have hb1:Below w.heap.size w W1:=by rw [←hW1];exact Qb
 have s1:W1.heap.size=w.heap.size+1:=by rw [←hW1];simp
 have hb2:Below W1.heap.size W1 W2:=by rw [←hW2];exact Qb
 have s2:W2.heap.size=W1.heap.size+1:=by rw [←hW2];simp
 have hX1:TBox W1 w.heap.size (.mk k nl ml b v ts) (.slice A L c):=by rw [←hW1];exact TBox.new w hnb hmb
 have hX2:TBox W2 W1.heap.size zeroT (.slice none 0 0):=by rw [←hW2];exact heap_alloc_new W1 _
 have hX1':=hX1.below hb2
 rw [s1] at hX2
 obtain ⟨x0,x1,x2,x3,x4,x5⟩:=hX1'.cells hnb hmb
 have HX:=Qh (Qa hX1' hX2)
 have HB:=Qh (hb1.trans (hb2.mono (by omega)))
 have HT:=Qh h
 have HS:=Qh (show W2.heap.size=w.heap.size+1+1 by omega)
 have HW:=Qh hW2
 subst hW1
 clear ih h hL hnb hmb hok hl3 hX1 hX2 hX1' hb1 hb2 s1 s2 hW2
 by_cases hk:L≠0
 ·have s0:((L:Int)==0)=false:=beq_eq_false_iff_ne.2 (by omega)
  clear hk
  rw [←HW.out] at x0 x1 x2 x3 x4 x5
  obtain ⟨MC,hMC⟩:∃ MC,madeCells (Value.agg Qz).cells (L * 6)=MC:=⟨_,rfl⟩
  have HMC:=Qh (show MC.size=L * 6 by rw [←hMC,size_madeCells])
  have hmk:∀ W:World,(Instr.makeSlice 23 (.int .i64 (L:Int)) (.int .i64 (L:Int))).run Tryd.prog W = .ok (.slice (some ⟨W.heap.size,0,none⟩) L L) (W.alloc (.cells MC 25)):=fun W=>by
   obtain ⟨i0,hi,hz0,hz1,hz2⟩:=info_parts infoT
   have h9:=run_make (P:=Tryd.prog) W 23 25 i0 _ Tryd.underlying23 hi hz0 .i64 .i64 (L:Int) (L:Int) (by omega) (Int.le_refl _) (by rw [hz2];omega) (by omega)
   rw [hz1,Int.toNat_natCast,hMC] at h9
   exact h9
  clear hMC
  go_enter Tryd.func72,Tryd.ntmps72
  go_upto_region 6 with fail
  obtain ⟨W3,hW3⟩:∃ W3,((w.alloc (.cells (Q5 k nb mb b v (.slice A L c)) 25)).alloc (.cells Qz 25)).alloc (.cells MC 25)=W3:=⟨_,rfl⟩
  have hI0:DOwnI w w.heap.size L (.mk k nl ml b v ts) (.slice A L c) (ts.take 0) W3:=by
   have hx:=HX.out
   have hb:=HB.out
   have hs:=HS.out
   have hW3':=hW3
   rw [HW.out] at hW3'
   have hb3:Below W2.heap.size W2 W3:=by rw [←hW3'];exact (Below.refl _ _).alloc (Nat.le_refl _) (.cells MC 25)
   have hsz:W3.heap.size=w.heap.size+1+1+1:=by rw [←hW3',World.size_alloc,hs]
   have hn3:=heap_alloc_new W2 (.cells MC 25)
   rw [hs,hW3'] at hn3
   exact ⟨hb.trans (hb3.mono (by omega)),hx.1.below hb3,hx.2.below hb3,⟨MC,hn3,HMC.out⟩,by show _≤_;omega⟩
  have HI0:=Qh hI0
  rw [hW3]
  clear hI0 hW3 x0 x1 x2 x3 x4 x5 hmk HB HX HS HW
  obtain ⟨G,hG⟩:∃ G,w.heap.size=G:=⟨_,rfl⟩
  have HG:=Qh hG
  rw [hG] at HI0 ⊢
  clear hG
  go_loopw [19] (fun v16 wr=>∃ i:Nat,v16 = .int .i64 (i:Nat)∧i≤L∧Hid (DOwnI w G L (.mk k nl ml b v ts) (.slice A L c) (ts.take i) wr)) (fun v16 _=>((L:Int) - intOf v16).toNat)
  case atStart=>exact ⟨0,rfl,Nat.zero_le _,HI0⟩
  case round=>
   obtain ⟨i,rfl,hi,HI⟩:=hrel
   by_cases hlt:i<L
   ·have hltI:(i:Int)<(L:Int):=by omega
    have hi0:(0:Int)≤(i:Int):=by omega
    have hil:i<ts.length:=by rw [HL.out];exact hlt
    obtain ⟨a,ha⟩:∃ a,ts[i]?=some a:=⟨_,List.getElem?_eq_getElem hil⟩
    obtain ⟨g,o,rfl,hgB,helt⟩:=(HT.out.to HI.out.bel HI.out.bel.size).arg ha
    obtain ⟨A',c',k',n',m',b',v',ts',nb',mb',rfl,hnb',hmb',hta,e0,e1,e2,e3,e4,e5⟩:=EltAt.cells helt
    obtain ⟨q,hq⟩:∃ q,ts'.length=q:=⟨_,rfl⟩
    obtain ⟨W4,hW4⟩:∃ W4,wr.alloc (.cells (Q5 k' nb' mb' b' v' (.slice A' q c')) 25)=W4:=⟨_,rfl⟩
    have hb4:Below wr.heap.size wr W4:=by rw [←hW4];exact Qb
    have hX4:TBox W4 wr.heap.size (.mk k' n' m' b' v' ts') (.slice A' q c'):=by rw [←hW4];exact TBox.new wr hnb' hmb'
    have HCl:=Qh (own_letters hnb' hmb' hq (HIH.out _ (List.mem_of_getElem? ha) W4 _ (hta.to hb4 hb4.size)))
    rw [valT_mk hnb' hmb',hq] at HCl
    obtain ⟨y0,y1,y2,y3,y4,y5⟩:=hX4.cells hnb' hmb'
    have HN:=Qh (Qa hnb' hmb')
    have HLT:=Qh hlt
    have HTk:=Qh (show ts.take (i+1)=ts.take i ++ [.mk k' n' m' b' v' ts']∧(ts.take i).length=i by exact ⟨by rw [List.take_succ_eq_append_getElem hil,(List.getElem?_eq_some_iff.1 ha).2],by rw [List.length_take];omega⟩)
    have HB4:=Qh hb4
    rw [hq] at e5
    subst hW4
    clear helt hta hnb' hmb' ha hil hlt hi hq hb4 hX4
    obtain ⟨cs,hcs,hsz⟩:=HI.out.blk
    have HCs:=Qh (Qa hcs hsz)
    clear hcs hsz
    go_wp2_with (go_at_call 72;(with_reducible refine HCl.out.mono ?_);rintro e w3 ⟨A4,c4,rfl,ho3,hb3⟩;have HO3:=Qh (Qa ho3 (Qt HB4.out hb3));have hcs3:=(HO3.out.2.block _ (Array.getElem?_eq_some_iff.1 HCs.out.1).1).trans HCs.out.1;obtain ⟨u0,u1,u2,u3,u4,u5,p0,p1,p2,p3,p4,p5⟩:=slots6 hcs3 (j:=i * 6) (by have:=HCs.out.2;have:=HLT.out;omega);obtain ⟨z0,z1,z2,z3,z4,z5⟩:=thaw6 hcs3 (i * 6);have HC3:=Qh hcs3;clear ho3 hb3 hcs3)
    go_roundw
    case rel=>
     refine ⟨i+1,rfl,HLT.out,Qh ?_⟩
     rw [HTk.out.1]
     obtain ⟨ho3,hb3⟩:=HO3.out
     have hsz:=HCs.out.2
     have hlt:=HLT.out
     show DOwnI w G L _ _ _ (set6 w3 (G+1+1) (i * 6) (.int .i64 k') (.string nb') (.string mb') (.int .u64 b') (.int .i64 v') (.slice A4 q c4))
     have hgr:=set6_grown w3 (G+1+1) (i * 6) (.int .i64 k') (.string nb') (.string mb') (.int .u64 b') (.int .i64 v') (.slice A4 q c4)
     have hss:=set6_size w3 (G+1+1) (i * 6) (.int .i64 k') (.string nb') (.string mb') (.int .u64 b') (.int .i64 v') (.slice A4 q c4)
     have hot:=fun q'=>set6_other w3 (G+1+1) (i * 6) (.int .i64 k') (.string nb') (.string mb') (.int .u64 b') (.int .i64 v') (.slice A4 q c4) (q:=q')
     have hce:=set6_cell HC3.out (j:=i * 6) (by omega) (k:=k') (b:=b') (v:=v') ts' (.slice A4 q c4) HN.out.1 HN.out.2
     obtain ⟨cs',hcs',hsz'⟩:=set6_block (j:=i * 6) (a0:=.int .i64 k') (a1:=.string nb') (a2:=.string mb') (a3:=.int .u64 b') (a4:=.int .i64 v') (a5:=.slice A4 q c4) HC3.out
     generalize set6 w3 (G+1+1) (i * 6) (.int .i64 k') (.string nb') (.string mb') (.int .u64 b') (.int .i64 v') (.slice A4 q c4)=w6 at *
     have hGw:=HG.out
     have hlG:G<wr.heap.size:=HI.out.t1.lt
     have hlG2:G+1<wr.heap.size:=HI.out.t2.lt
     have hlG3:G+1+1<wr.heap.size:=(Array.getElem?_eq_some_iff.1 HCs.out.1).1
     have hws:=hb3.size
     refine ⟨((Qt HI.out.bel hb3)).grown hgr (by omega) (Qg (by omega)),((hgr.block G (by omega) (fun e=>by injection e with e;omega)).trans (hb3.block G hlG)).trans HI.out.t1,((hgr.block (G+1) (by omega) (fun e=>by injection e with e;omega)).trans (hb3.block (G+1) hlG2)).trans HI.out.t2,⟨cs',hcs',hsz'.trans hsz⟩,?_⟩
     have hpre:TsOwn w6 (G+1+1) (ts.take i) 0 (G+1+1+1) wr.heap.size:=HI.out.own.keep (fun b h1 h2=>(hgr.block b (by omega) (fun e=>by injection e with e;omega)).trans (hb3.block b h2)) (fun j _ hj2=>by
      rw [HTk.out.2,Nat.zero_add] at hj2
      rw [hot j (.inl (by omega))]
      exact hb3.cell (p:=⟨G+1+1,j,none⟩) hlG3)
     rw [hss]
     refine hpre.snoc (mid:=wr.heap.size) hws (sl:=.slice A4 q c4) (fun j hj=>?_) ?_
     ·rw [HTk.out.2,Nat.zero_add]
      exact hce j hj
     ·have h9:=ho3.lower (lo':=wr.heap.size) (by simp)
      exact TOwn.keep _ h9 (fun b h1 h2=>hgr.block b h2 (fun e=>by injection e with e;omega))
    case measure=>
     have:=HLT.out
     show ((L:Int) - ((i:Int)+1)).toNat<((L:Int) - (i:Int)).toNat
     omega
   ·have ei:i=L:=by omega
    subst ei
    obtain ⟨x0,x1,x2,x3,x4,x5⟩:=HI.out.t1.cells HM.out.1 HM.out.2
    have f5:=HI.out.t1.frozen 5
    have hlG:G<wr.heap.size:=HI.out.t1.lt
    obtain ⟨y0,y1,y2,y3,y4,y5⟩:=((HI.out.t2.far (p:=⟨G,5,none⟩) (by show G+1≠G;omega) (.slice (some ⟨G+1+1,0,none⟩) i i))).cells rfl rfl
    obtain ⟨v0,v1,v2,v3,v4,v5⟩:=((HI.out.t2.far (p:=⟨G,5,none⟩) (by show G+1≠G;omega) (.slice (some ⟨G+1+1,0,none⟩) i i))).frozens
    obtain ⟨r0,r1,r2,r3,r4,r5⟩:=(HI.out.t1.args (.slice (some ⟨G+1+1,0,none⟩) i i)).cells HM.out.1 HM.out.2
    have HE:=Qh HI.out
    clear hlt hi
    go_wp2
    have hb1:=HE.out.t2.far (p:=⟨G,5,none⟩) (by show G+1≠G;omega) (.slice (some ⟨G+1+1,0,none⟩) i i)
    obtain ⟨hbx,hgr⟩:=hb1.set6 (k:=k) (b:=b) (v:=v) ts (.slice (some ⟨G+1+1,0,none⟩) i i) HM.out.1 HM.out.2
    have hg0:=gb_setCell (gb_refl wr (some G)) 5 (.slice (some ⟨G+1+1,0,none⟩) i i)
    generalize wr.setCell ⟨G,5,none⟩ (.slice (some ⟨G+1+1,0,none⟩) i i)=w5 at *
    generalize (((((w5.setCell ⟨G+1,0,none⟩ (.int .i64 k)).setCell ⟨G+1,1,none⟩ (.string nb)).setCell ⟨G+1,2,none⟩ (.string mb)).setCell ⟨G+1,3,none⟩ (.int .u64 b)).setCell ⟨G+1,4,none⟩ (.int .i64 v)).setCell ⟨G+1,5,none⟩ (.slice (some ⟨G+1+1,0,none⟩) i i)=w6 at *
    obtain ⟨q0,q1,q2,q3,q4,q5⟩:=hbx.cells HM.out.1 HM.out.2
    have hGw:=HG.out
    obtain ⟨cs,hcs,hsz⟩:=HE.out.blk
    have hlG3:G+1+1<wr.heap.size:=(Array.getElem?_eq_some_iff.1 hcs).1
    have hs1:=hg0.size
    have hs2:=hgr.size
    have hkeep:∀ b,G+1+1≤b→b<wr.heap.size→w6.heap[b]?=wr.heap[b]?:=fun b h1 h2=>(hgr.block b (by omega) (fun e=>by injection e with e;omega)).trans (hg0.block b h2 (fun e=>by injection e with e;omega))
    refine bodyPost_ret (v:=.agg (Q5 k nb mb b v (.slice (some ⟨G+1+1,0,none⟩) i i))) (by simp [results,Tryd.results72,go_sem,q0,q1,q2,q3,q4,q5]) rfl ⟨.slice (some ⟨G+1+1,0,none⟩) i i,by rw [valT_mk HM.out.1 HM.out.2],?_,?_⟩
    ·rw [TOwn.iff]
     refine ⟨HOk.out,by show ts.length≤_;rw [HL.out];exact HMx.out,by omega,_,i,by show _=Value.slice _ ts.length _;rw [HL.out],by show ts.length≤_;rw [HL.out];exact Nat.le_refl _,by have:=HMx.out;unfold maxArgs at this;unfold maxLen;omega,fun hne=>⟨G+1+1,rfl,by omega,by omega,⟨cs,(hkeep _ (Nat.le_refl _) hlG3).trans hcs⟩,?_⟩⟩
     have h9:=HE.out.own
     rw [List.take_of_length_le (by rw [HL.out];exact Nat.le_refl _)] at h9
     exact TsOwn.widen (by omega) _ _ _ (h9.keep (fun b h1 h2=>hkeep b (by omega) h2) (fun j _ _=>Qc (a:=⟨G+1+1,j,none⟩) (hkeep _ (Nat.le_refl _) hlG3)))
    ·exact (HE.out.bel.grown hg0 HE.out.bel.size (Qg (by omega))).grown hgr (by have:=HE.out.bel.size;omega) (Qg (by omega))
 ·have hL0:L=0:=by omega
  subst hL0
  have hts:ts = []:=List.length_eq_zero_iff.1 HL.out
  subst hts
  clear hk
  rw [←HW.out] at x0 x1 x2 x3 x4 x5
  have hX:=HX.out
  rw [←HW.out] at hX
  obtain ⟨y0,y1,y2,y3,y4,y5⟩:=hX.2.cells rfl rfl
  obtain ⟨v0,v1,v2,v3,v4,v5⟩:=hX.2.frozens
  obtain ⟨z0,z1,z2,z3,z4,z5⟩:=hX.1.frozens
  clear hX
  go_enter Tryd.func72,Tryd.ntmps72
  go_wp2
  refine bodyPost_ret (v:=.agg (Q5 k nb mb b v (.slice none 0 0))) (by simp [results,Tryd.results72,go_sem]) rfl ⟨.slice none 0 0,by rw [valT_mk HM.out.1 HM.out.2],?_,?_⟩
  ·rw [TOwn.iff]
   exact ⟨HOk.out,Nat.zero_le _,by simp;omega,none,0,rfl,Nat.zero_le _,by simp [maxLen],fun hne=>absurd rfl hne⟩
  ·exact (Qb).alloc (by simp) _
end Go.Proofs.YtgfeainpeplphaaDoor
