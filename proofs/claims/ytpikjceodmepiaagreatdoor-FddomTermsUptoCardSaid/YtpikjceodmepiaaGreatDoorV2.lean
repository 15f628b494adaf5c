import Derived.Shelf.SlGeneric
import Derived.Shelf.SlSortCmp.WholeK
import Derived.Test.YtpikjceodmepiaaGreatDoorProg
import Derived.WalkKit
import Derived.Lib.Hide
import Derived.Deep.OwnRows
import Derived.Deep.Draws
import Derived.Deep.QuietTactic
import Derived.Laws.CopyOwn
import Derived.Test.YtpikjceodmepiaaGreatDoorV1
import Derived.Test.YtpikjceodmepiaaGreatDoorV0
set_option maxRecDepth 1000000
set_option maxHeartbeats 64000000
set_option linter.unusedVariables false
set_option linter.unusedSimpArgs false
namespace Go.Proofs
open Go.Shelf
def Tryz.sortR_ren:Go.Shelf.Ren:=⟨fun | 6=>102 | 15=>126 | 14=>125 | 28=>121 | 29=>147 | 20=>139 | 21=>140 | 22=>141 | 23=>142 | 24=>143 | 25=>144 | 26=>145 | 27=>146 | 46=>150 | 47=>151 | 48=>152 | 49=>153 | 50=>154 | 57=>156 | n=>n,fun | 22=>22 | 24=>69 | 25=>150 | 3=>3 | 39=>119 | 0=>0 | 53=>101 | 55=>23 | 4=>4 | 46=>181 | 45=>180 | 50=>185 | 5=>5 | 9=>9 | 66=>194 | 70=>198 | 76=>201 | 77=>202 | n=>n,fun | n=>n⟩
theorem Tryz.sortR:Go.Proofs.SlLaysF0.n6 Tryz.prog Tryz.sortR_ren:={
 mixed:=by kernel_rfl
 f6:=⟨Tryz.f102.name,by decide,Tryz.func102.trans (congrArg some (by kernel_rfl))⟩
 f14:=⟨Tryz.f125.name,by decide,Tryz.func125.trans (congrArg some (by kernel_rfl))⟩
 f15:=Tryz.func126.trans (congrArg some (by kernel_rfl))
 f20:=⟨Tryz.f139.name,by decide,Tryz.func139.trans (congrArg some (by kernel_rfl))⟩
 f21:=⟨Tryz.f140.name,by decide,Tryz.func140.trans (congrArg some (by kernel_rfl))⟩
 f22:=⟨Tryz.f141.name,by decide,Tryz.func141.trans (congrArg some (by kernel_rfl))⟩
 f23:=⟨Tryz.f142.name,by decide,Tryz.func142.trans (congrArg some (by kernel_rfl))⟩
 f24:=⟨Tryz.f143.name,by decide,Tryz.func143.trans (congrArg some (by kernel_rfl))⟩
 f25:=⟨Tryz.f144.name,by decide,Tryz.func144.trans (congrArg some (by kernel_rfl))⟩
 f26:=⟨Tryz.f145.name,by decide,Tryz.func145.trans (congrArg some (by kernel_rfl))⟩
 f27:=⟨Tryz.f146.name,by decide,Tryz.func146.trans (congrArg some (by kernel_rfl))⟩
 f28:=Tryz.func121.trans (congrArg some (by kernel_rfl))
 f29:=Tryz.func147.trans (congrArg some (by kernel_rfl))
 f46:=⟨Tryz.f150.name,by decide,Tryz.func150.trans (congrArg some (by kernel_rfl))⟩
 f47:=Tryz.func151.trans (congrArg some (by kernel_rfl))
 f48:=Tryz.func152.trans (congrArg some (by kernel_rfl))
 f49:=⟨Tryz.f153.name,by decide,Tryz.func153.trans (congrArg some (by kernel_rfl))⟩
 f50:=⟨Tryz.f154.name,by decide,Tryz.func154.trans (congrArg some (by kernel_rfl))⟩
 f57:=⟨Tryz.f156.name,by decide,Tryz.func156.trans (congrArg some (by kernel_rfl))⟩
 t0:=Tryz.underlying0
 a0:=Tryz.isAgg0
 z0:=Tryz.sizeOf0
 v0:=Tryz.zeroValue0
 t3:=Tryz.underlying3
 a3:=Tryz.isAgg3
 z3:=Tryz.sizeOf3
 v3:=Tryz.zeroValue3
 t4:=Tryz.underlying4
 a4:=Tryz.isAgg4
 z4:=Tryz.sizeOf4
 v4:=Tryz.zeroValue4
 t5:=Tryz.underlying5
 a5:=Tryz.isAgg5
 z5:=Tryz.sizeOf5
 v5:=Tryz.zeroValue5
 t9:=Tryz.underlying9
 a9:=Tryz.isAgg9
 z9:=Tryz.sizeOf9
 v9:=Tryz.zeroValue9
 t22:=Tryz.underlying22
 a22:=Tryz.isAgg22
 z22:=Tryz.sizeOf22
 v22:=Tryz.zeroValue22
 t25:=Tryz.underlying150
 a25:=Tryz.isAgg150
 z25:=Tryz.sizeOf150
 v25:=Tryz.zeroValue150
 t39:=Tryz.underlying119
 a39:=Tryz.isAgg119
 z39:=Tryz.sizeOf119
 v39:=Tryz.zeroValue119
 t45:=Tryz.underlying180
 a45:=Tryz.isAgg180
 z45:=Tryz.sizeOf180
 v45:=Tryz.zeroValue180
 t46:=Tryz.underlying181
 a46:=Tryz.isAgg181
 z46:=Tryz.sizeOf181
 v46:=Tryz.zeroValue181
 t50:=Tryz.underlying185
 a50:=Tryz.isAgg185
 z50:=Tryz.sizeOf185
 v50:=Tryz.zeroValue185
 t53:=Tryz.underlying101
 a53:=Tryz.isAgg101
 z53:=Tryz.sizeOf101
 v53:=Tryz.zeroValue101
 t55:=Tryz.underlying23
 a55:=Tryz.isAgg23
 z55:=Tryz.sizeOf23
 v55:=Tryz.zeroValue23
 t66:=Tryz.underlying194
 a66:=Tryz.isAgg194
 z66:=Tryz.sizeOf194
 v66:=Tryz.zeroValue194
 t70:=Tryz.underlying198
 a70:=Tryz.isAgg198
 z70:=Tryz.sizeOf198
 v70:=Tryz.zeroValue198
 t76:=Tryz.underlying201
 a76:=Tryz.isAgg201
 z76:=Tryz.sizeOf201
 v76:=Tryz.zeroValue201
 t77:=Tryz.underlying202
 a77:=Tryz.isAgg202
 z77:=Tryz.sizeOf202
 v77:=Tryz.zeroValue202 }
end Go.Proofs
namespace Hb
open Go Go.RowKit
def Dr (a w:World):Prop:=∃ k,w=a.drewN k
theorem Dr.refl (a:World):Dr a a:=⟨0,rfl⟩
theorem Dr.more {a w:World} (h:Dr a w) (n:Nat):Dr a (w.drewN n):=by
 obtain ⟨k,rfl⟩:=h
 exact ⟨k+n,by rw [World.drewN_drewN]⟩
theorem Dr.cell {a w:World} (h:Dr a w) (p:Addr):w.cell? p=a.cell? p:=by
 obtain ⟨k,rfl⟩:=h
 rfl
theorem Dr.heap {a w:World} (h:Dr a w):w.heap=a.heap:=by
 obtain ⟨k,rfl⟩:=h
 rfl
theorem Dr.frozen {a w:World} (h:Dr a w) (p:Addr):w.frozen? p=a.frozen? p:=by
 obtain ⟨k,rfl⟩:=h
 rfl
theorem Dr.below {a w:World} (h:Dr a w) (B:Nat):Below B a w:=by
 obtain ⟨k,rfl⟩:=h
 exact ⟨rfl,rfl,rfl,Nat.le_refl _,fun _ _=>rfl⟩
theorem belowN {B:Nat} {a w:World} (h:Below B a w) (n:Nat):Below B a (w.drewN n):=⟨h.os,h.tape,h.output,h.size,h.block⟩
theorem quiet_left {P:Program} {f:FuncId} {args:Array Value} {w:World} {n:Nat} {v:Value}
  (h:Calls P f args (w.drewN n) fun e w'=>e = .returned v∧w.drewN n=w'):Calls P f args (w.drewN n) fun e w''=>e = .returned v∧∃ m,w''=w.drewN m:=
 h.mono fun _ _ ⟨he,hm⟩=>⟨he,n,hm.symm⟩
def u32s (l:List Nat):List Value:=l.map fun x:Nat=>Value.int .u32 (x:Int)
def i64s (l:List Nat):List Value:=l.map fun x:Nat=>Value.int .i64 (x:Int)
theorem u32s_length (l:List Nat):(u32s l).length=l.length:=by simp [u32s]
theorem i64s_length (l:List Nat):(i64s l).length=l.length:=by simp [i64s]
theorem u32s_get {l:List Nat} {i:Nat} (h:i<l.length):(u32s l)[i]?=some (.int .u32 (l.getD i 0:Nat)):=by
 simp [u32s,h]
theorem i64s_get {l:List Nat} {i:Nat} (h:i<l.length):(i64s l)[i]?=some (.int .i64 (l.getD i 0:Nat)):=by
 simp [i64s,h]
theorem u32s_take (l:List Nat) (k:Nat):(u32s l).take k=u32s (l.take k):=by simp [u32s,List.map_take]
theorem i64s_take (l:List Nat) (k:Nat):(i64s l).take k=i64s (l.take k):=by simp [i64s,List.map_take]
theorem u32s_set (l:List Nat) (k x:Nat):(u32s l).set k (.int .u32 (x:Int))=u32s (l.set k x):=by simp [u32s,List.map_set]
theorem i64s_set (l:List Nat) (k x:Nat):(i64s l).set k (.int .i64 (x:Int))=i64s (l.set k x):=by simp [i64s,List.map_set]
theorem u32s_one (l:List Nat):∀ u∈u32s l,u.oneCell'=true:=by
 intro u hu;obtain ⟨x,_,rfl⟩:=List.mem_map.1 hu;rfl
theorem u32s_ne {l:List Nat} (h:0<l.length):u32s l ≠ []:=by
 intro e;have:=congrArg List.length e;simp [u32s_length] at this;subst this;simp at h
theorem i64s_ne {l:List Nat} (h:0<l.length):i64s l ≠ []:=by
 intro e;have:=congrArg List.length e;simp [i64s_length] at this;subst this;simp at h
theorem u32s_zeros (n:Nat):(madeCells #[Value.int .u32 0] n).toList=u32s (List.replicate n 0):=by
 rw [toList_madeCells_one];simp [u32s]
theorem i64s_zeros (n:Nat):(madeCells #[Value.int .i64 0] n).toList=i64s (List.replicate n 0):=by
 rw [toList_madeCells_one];simp [i64s]
def Rd (w:World) (B:Nat) (A:Option Addr) (xs:List Value):Prop:=
 xs ≠ []→∃ b o,A=some ⟨b,o,none⟩∧b<B∧∀ i v,xs[i]?=some v→w.cell? ⟨b,o+i,none⟩=some v
section
variable {w w':World} {B:Nat} {A:Option Addr} {xs:List Value}
theorem Rd.nil (w:World) (B:Nat) (A:Option Addr):Rd w B A []:=fun h=>absurd rfl h
theorem Rd.below (h:Rd w B A xs) {C:Nat} (hb:Below C w w') (hC:B≤C):Rd w' B A xs:=fun hx=>by
 obtain ⟨b,o,hA,hlt,hc⟩:=h hx
 exact ⟨b,o,hA,hlt,fun i v hi=>(hb.cell (p:=⟨b,o+i,none⟩) (Ql hlt hC)).trans (hc i v hi)⟩
theorem Rd.mono (h:Rd w B A xs) {B':Nat} (hB:B≤B'):Rd w B' A xs:=fun hx=>by
 obtain ⟨b,o,hA,hlt,hc⟩:=h hx
 exact ⟨b,o,hA,Ql hlt hB,hc⟩
theorem Rd.take (h:Rd w B A xs) (k:Nat):Rd w B A (xs.take k):=fun hx=>by
 obtain ⟨b,o,hA,hlt,hc⟩:=h (by rintro rfl;simp at hx)
 refine ⟨b,o,hA,hlt,fun i v hi=>hc i v ?_⟩
 rw [List.getElem?_take] at hi
 split at hi
 ·exact hi
 ·cases hi
end
structure Sl (E:List Nat→List Value) (base:Nat) (w:World) (B:Nat) (A:Option Addr) (n c:Nat) (l:List Nat):Prop where
 len:l.length=n
 cap:n≤c
 max:c≤maxLen
 dig:Dig base l
 rd:Rd w B A (E l)
abbrev SlU:=Sl u32s 4294967296
abbrev SlI:=Sl i64s 2
section
variable {E:List Nat→List Value} {base:Nat} {w w':World} {B:Nat} {A:Option Addr} {n c:Nat} {l:List Nat}
theorem Sl.below (h:Sl E base w B A n c l) {C:Nat} (hb:Below C w w') (hC:B≤C):Sl E base w' B A n c l:=⟨h.len,h.cap,h.max,h.dig,h.rd.below hb hC⟩
theorem Sl.mono (h:Sl E base w B A n c l) {B':Nat} (hB:B≤B'):Sl E base w B' A n c l:=⟨h.len,h.cap,h.max,h.dig,h.rd.mono hB⟩
theorem SlU.take (h:SlU w B A n c l) {k:Nat} (hk:k≤n):SlU w B A k c (l.take k):=
 ⟨by rw [List.length_take,h.len];omega,Nat.le_trans hk h.cap,h.max,h.dig.take _,by rw [←u32s_take];exact h.rd.take k⟩
theorem SlU.tr (h:SlU w B A n c l):SlU w B A (tlen l) c (tr l):=h.take (by rw [←h.len];exact tlen_le l)
theorem SlU.nil (w:World) (B:Nat) (A:Option Addr) (c:Nat) (hc:c≤maxLen):SlU w B A 0 c []:=⟨rfl,Nat.zero_le _,hc,Dig.nil _,Rd.nil _ _ _⟩
theorem SlU.at_ (h:SlU w B A n c l) (hn:0<n):∃ b o,A=some ⟨b,o,none⟩∧b<B∧∀ i,i<n→w.cell? ⟨b,o+i,none⟩=some (.int .u32 (l.getD i 0:Nat)):=by
 obtain ⟨b,o,hA,hb,hc⟩:=h.rd (u32s_ne (by rw [h.len];exact hn))
 exact ⟨b,o,hA,hb,fun i hi=>hc i _ (u32s_get (by rw [h.len];exact hi))⟩
theorem SlI.at_ (h:SlI w B A n c l) (hn:0<n):∃ b o,A=some ⟨b,o,none⟩∧b<B∧∀ i,i<n→w.cell? ⟨b,o+i,none⟩=some (.int .i64 (l.getD i 0:Nat)):=by
 obtain ⟨b,o,hA,hb,hc⟩:=h.rd (i64s_ne (by rw [h.len];exact hn))
 exact ⟨b,o,hA,hb,fun i hi=>hc i _ (i64s_get (by rw [h.len];exact hi))⟩
end
theorem addr_add (b o i:Nat):(⟨b,o,none⟩:Addr).add i=⟨b,o+i,none⟩:=by unfold Addr.add;split <;> simp_all
theorem add_zero' (g i:Nat):(⟨g,0,none⟩:Addr).add i=⟨g,i,none⟩:=by unfold Addr.add;split <;> simp_all
def Own (t:TypeId) (w:World) (B:Nat) (A:Option Addr) (n c:Nat) (xs:List Value):Prop:=w.ownsRow B t 1 (.slice A n c) n xs
section
variable {t:TypeId} {w w':World} {B g:Nat} {A:Option Addr} {n c:Nat} {xs:List Value} {l:List Nat}
theorem Own.length (h:Own t w B A n c xs):xs.length=n:=by have:=h.1;omega
theorem Own.form (h:Own t w B A n c xs):(A=none∧n=0∧c=0)∨∃ g,A=some ⟨g,0,none⟩∧B≤g∧g<w.heap.size:=by
 rcases h.2 with ⟨h1,_⟩ | ⟨g,cap,cur,h1,h2,h3,_⟩
 ·left;injection h1 with a b c;exact ⟨a,b,c⟩
 ·right;injection h1 with a b c;exact ⟨g,a,h2,(Array.getElem?_eq_some_iff.1 h3).1⟩
theorem Own.at_ (h:Own t w B A n c xs) (hn:0<n):∃ g,A=some ⟨g,0,none⟩∧B≤g∧g<w.heap.size:=by
 rcases h.form with ⟨_,h1,_⟩ | h1
 ·omega
 ·exact h1
theorem Own.cap (h:Own t w B A n c xs):n≤c∧c≤maxLen:=by
 rcases h.2 with ⟨h1,_⟩ | ⟨g,cap,cur,h1,h2,h3,h4,h5,_⟩
 ·injection h1 with a b c;subst b;subst c;exact ⟨Nat.le_refl _,by simp [maxLen]⟩
 ·injection h1 with a b c;subst c;exact ⟨h4,h5⟩
theorem Own.below (h:Own t w B A n c xs) {C:Nat} (hb:Below C w w') (hC:w.heap.size≤C):Own t w' B A n c xs:=by
 refine ⟨h.1,?_⟩
 rcases h.2 with h1 | ⟨g,cap,cur,h1,h2,h3,h4⟩
 ·exact .inl h1
 ·exact .inr ⟨g,cap,cur,h1,h2,(hb.block g (Ql (Array.getElem?_eq_some_iff.1 h3).1 hC)).trans h3,h4⟩
theorem Own.mono (h:Own t w B A n c xs) {B':Nat} (hB:B'≤B):Own t w B' A n c xs:=by
 refine ⟨h.1,?_⟩
 rcases h.2 with h1 | ⟨g,cap,cur,h1,h2,h3,h4⟩
 ·exact .inl h1
 ·exact .inr ⟨g,cap,cur,h1,Nat.le_trans hB h2,h3,h4⟩
theorem Own.take (h:Own t w B A n c xs) {k:Nat} (hk:k≤n):Own t w B A k c (xs.take k):=by
 have hl:=h.length
 have hc:=h.cap
 rcases h.2 with ⟨h1,h2⟩ | ⟨g,cap,cur,h1,h2,h3,h4,h5,h6,h7⟩
 ·injection h1 with a b c
  subst a;subst b;subst c
  have:k=0:=by omega
  subst this
  exact ⟨by simp,.inl ⟨rfl,by simp⟩⟩
 ·injection h1 with a b c
  subst a;subst c
  refine ⟨by rw [List.length_take];omega,.inr ⟨g,_,cur,rfl,h2,h3,by omega,h5,h6,?_⟩⟩
  rw [←h7,List.take_take]
  congr 1
  omega
theorem Own.rd (h:Own t w B A n c xs):Rd w w.heap.size A xs:=fun hx=>by
 have hn:0<n:=by rw [←h.length];exact List.length_pos_iff.2 hx
 obtain ⟨g,rfl,h1,h2⟩:=h.at_ hn
 refine ⟨g,0,rfl,h2,fun i v hi=>?_⟩
 have:=World.ownsRow.cells h (g:=g) rfl i v hi
 rw [add_zero' g i] at this
 rw [Nat.zero_add];exact this
theorem Own.sl {E:List Nat→List Value} {base:Nat} (h:Own t w B A n c (E l)) (hd:Dig base l) (hl:l.length=n):Sl E base w w.heap.size A n c l:=
 ⟨hl,h.cap.1,h.cap.2,hd,h.rd⟩
theorem Own.of_block (hg:w.heap[g]?=some (.cells xs.toArray t (0,0))) (hB:B≤g) (hm:xs.length≤maxLen):Own t w B (some ⟨g,0,none⟩) xs.length xs.length xs:=
 ⟨by simp,.inr ⟨g,_,_,rfl,hB,hg,Nat.le_refl _,hm,by simp,by simp⟩⟩
theorem Own.made (w:World) (z:Value) (n:Nat) (t:TypeId) (hB:B≤w.heap.size) (hm:n≤maxLen) :
  Own t (w.alloc (.cells (madeCells #[z] n) t)) B (some ⟨w.heap.size,0,none⟩) n n (madeCells #[z] n).toList:=by
 have h:=Own.of_block (w:=w.alloc (.cells (madeCells #[z] n) t)) (g:=w.heap.size) (t:=t) (B:=B) (xs:=(madeCells #[z] n).toList) (by rw [Array.toArray_toList];exact heap_alloc_new w _) hB (by simpa [size_madeCells] using hm)
 have e:(madeCells #[z] n).toList.length=n:=by simp [size_madeCells]
 rw [e] at h
 exact h
theorem Own.alloc (h:Own t w B A n c xs) (o:Obj):Own t (w.alloc o) B A n c xs:=World.ownsRow.alloc h o
theorem Own.cell (h:Own t w B (some ⟨g,0,none⟩) n c xs) {j:Nat} (hj:j<n):w.cell? ⟨g,j,none⟩=xs[j]?:=by
 have hc:=h.cap
 have:=World.ownsRow.cells h (g:=g) rfl
 have e:xs[j]?=some (xs[j]'(by rw [h.length];exact hj)):=List.getElem?_eq_getElem _
 rw [e]
 have h2:=this j _ e
 rw [add_zero' g j] at h2
 exact h2
theorem Own.frozen (h:Own t w B (some ⟨g,0,none⟩) n c xs) (j:Nat):w.frozen? ⟨g,j,none⟩=false:=by
 rcases h.2 with ⟨h1,_⟩ | ⟨g',cap,cur,h1,h2,h3,_⟩
 ·cases h1
 ·injection h1 with a b c
  injection a with a
  injection a with a
  subst a
  simp [World.frozen?,h3]
theorem Own.set_ (h:Own t w B (some ⟨g,0,none⟩) n c xs) (j:Nat) (u:Value):Own t (w.setCell ⟨g,j,none⟩ u) B (some ⟨g,0,none⟩) n c (xs.set j u):=by
 rcases h.2 with ⟨h1,_⟩ | ⟨g',cap,cur,h1,h2,h3,h4,h5,h6,h7⟩
 ·cases h1
 ·injection h1 with a b cc
  injection a with a
  injection a with a
  subst a;subst cc
  refine ⟨by simpa using h.1,.inr ⟨g,c,cur.setIfInBounds j u,rfl,h2,?_,h4,h5,by simpa using h6,?_⟩⟩
  ·simp [World.setCell,Array.getElem?_modify,h3]
  ·rw [←h7,Array.toList_setIfInBounds,List.take_set]
theorem Own.far (h:Own t w B A n c xs) {p:Addr} (hp:∀ g,A=some ⟨g,0,none⟩→g≠p.block) (u:Value):Own t (w.setCell p u) B A n c xs:=by
 refine ⟨h.1,?_⟩
 rcases h.2 with h1 | ⟨g,cap,cur,h1,h2,h3,h4⟩
 ·exact .inl h1
 ·injection h1 with a b c
  exact .inr ⟨g,cap,cur,by rw [a,c],h2,(Below.heap_setCell w p u g (hp g a)).trans h3,h4⟩
end
section
variable {t:TypeId} {w w':World} {g:Nat} {L:List Nat}
theorem gb_refl (w:World) (row:Option Nat):w.grownBy w row:=World.grownBy.refl w row
theorem gb_setCell {a:World} (h:a.grownBy w (some g)) (i:Nat) (u:Value):a.grownBy (w.setCell ⟨g,i,none⟩ u) (some g):=
 ⟨h.os,h.tape,h.output,by simpa [World.setCell] using h.size,fun j hj hne=>(Below.heap_setCell w ⟨g,i,none⟩ u j (by rintro rfl;exact hne rfl)).trans (h.block j hj hne)⟩
end
end Hb
