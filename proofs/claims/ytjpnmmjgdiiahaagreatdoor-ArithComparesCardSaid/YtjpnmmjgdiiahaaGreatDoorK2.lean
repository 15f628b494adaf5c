import Derived.WalkKit
import Derived.Lib.Hide
import Derived.Deep.OwnRows
import Derived.Deep.Draws
import Derived.Deep.QuietTactic
import Derived.Laws.CopyOwn
import Derived.OrdersHeld
import Derived.Deep.RegionHeld3
import Derived.Test.YtjpnmmjgdiiahaaGreatDoorK1
set_option linter.unusedVariables false
set_option linter.unusedSimpArgs false
namespace Hb
open Go Go.RowKit
def Dr (a w:World):Prop:=∃ k,w=a.drewN k
theorem Dr.refl (a:World):Dr a a:=⟨0,rfl⟩
theorem Dr.more {a w:World} (h:Dr a w) (n:Nat):Dr a (w.drewN n):=by
 obtain ⟨k,rfl⟩:=h
 exact ⟨k+n,by rw [World.drewN_drewN]⟩
theorem Dr.drew {a w:World} (h:Dr a w):Dr a w.drew:=h.more 1
theorem Dr.trans {a b c:World} (h:Dr a b) (k:Dr b c):Dr a c:=by
 obtain ⟨n,rfl⟩:=k
 exact h.more n
theorem Dr.cell {a w:World} (h:Dr a w) (p:Addr):w.cell? p=a.cell? p:=by
 obtain ⟨k,rfl⟩:=h
 rfl
theorem Dr.heap {a w:World} (h:Dr a w):w.heap=a.heap:=by
 obtain ⟨k,rfl⟩:=h
 rfl
theorem Dr.frozen {a w:World} (h:Dr a w) (p:Addr):w.frozen? p=a.frozen? p:=by
 obtain ⟨k,rfl⟩:=h
 rfl
theorem Dr.setCell {a w:World} (h:Dr a w) (p:Addr) (u:Value):Dr (a.setCell p u) (w.setCell p u):=by
 obtain ⟨k,rfl⟩:=h
 exact ⟨k,rfl⟩
theorem Dr.below {a w:World} (h:Dr a w) (B:Nat):Below B a w:=by
 obtain ⟨k,rfl⟩:=h
 exact ⟨rfl,rfl,rfl,Nat.le_refl _,fun _ _=>rfl⟩
theorem belowN {B:Nat} {a w:World} (h:Below B a w) (n:Nat):Below B a (w.drewN n):=⟨h.os,h.tape,h.output,h.size,h.block⟩
theorem quiet_left {P:Program} {f:FuncId} {args:Array Value} {w:World} {n:Nat} {v:Value}
  (h:Calls P f args (w.drewN n) fun e w'=>e = .returned v∧w.drewN n=w'):Calls P f args (w.drewN n) fun e w''=>e = .returned v∧∃ m,w''=w.drewN m:=
 h.mono fun _ _ ⟨he,hm⟩=>⟨he,n,hm.symm⟩
def u32s (l:List Nat):List Value:=l.map fun x:Nat=>Value.int .u32 (x:Int)
def i64s (l:List Nat):List Value:=l.map fun x:Nat=>Value.int .i64 (x:Int)
theorem u32s_length (l:List Nat):(u32s l).length=l.length:=by simp [u32s]
theorem i64s_length (l:List Nat):(i64s l).length=l.length:=by simp [i64s]
theorem u32s_get {l:List Nat} {i:Nat} (h:i<l.length):(u32s l)[i]?=some (.int .u32 (l.getD i 0:Nat)):=by
 simp [u32s,h]
theorem i64s_get {l:List Nat} {i:Nat} (h:i<l.length):(i64s l)[i]?=some (.int .i64 (l.getD i 0:Nat)):=by
 simp [i64s,h]
theorem u32s_take (l:List Nat) (k:Nat):(u32s l).take k=u32s (l.take k):=by simp [u32s,List.map_take]
theorem i64s_take (l:List Nat) (k:Nat):(i64s l).take k=i64s (l.take k):=by simp [i64s,List.map_take]
theorem u32s_append (l m:List Nat):u32s l ++ u32s m=u32s (l ++ m):=by simp [u32s]
theorem i64s_append (l m:List Nat):i64s l ++ i64s m=i64s (l ++ m):=by simp [i64s]
theorem u32s_set (l:List Nat) (k x:Nat):(u32s l).set k (.int .u32 (x:Int))=u32s (l.set k x):=by simp [u32s,List.map_set]
theorem i64s_set (l:List Nat) (k x:Nat):(i64s l).set k (.int .i64 (x:Int))=i64s (l.set k x):=by simp [i64s,List.map_set]
theorem u32s_one (l:List Nat):∀ u∈u32s l,u.oneCell'=true:=by
 intro u hu;obtain ⟨x,_,rfl⟩:=List.mem_map.1 hu;rfl
theorem i64s_one (l:List Nat):∀ u∈i64s l,u.oneCell'=true:=by
 intro u hu;obtain ⟨x,_,rfl⟩:=List.mem_map.1 hu;rfl
theorem u32s_ne {l:List Nat} (h:0<l.length):u32s l ≠ []:=by
 intro e;have:=congrArg List.length e;simp [u32s_length] at this;subst this;simp at h
theorem i64s_ne {l:List Nat} (h:0<l.length):i64s l ≠ []:=by
 intro e;have:=congrArg List.length e;simp [i64s_length] at this;subst this;simp at h
theorem u32s_zeros (n:Nat):(madeCells #[Value.int .u32 0] n).toList=u32s (List.replicate n 0):=by
 rw [toList_madeCells_one];simp [u32s]
theorem i64s_zeros (n:Nat):(madeCells #[Value.int .i64 0] n).toList=i64s (List.replicate n 0):=by
 rw [toList_madeCells_one];simp [i64s]
def Rd (w:World) (B:Nat) (A:Option Addr) (xs:List Value):Prop:=
 xs ≠ []→∃ b o,A=some ⟨b,o,none⟩∧b<B∧∀ i v,xs[i]?=some v→w.cell? ⟨b,o+i,none⟩=some v
section
variable {w w':World} {B:Nat} {A:Option Addr} {xs:List Value}
theorem Rd.below (h:Rd w B A xs) {C:Nat} (hb:Below C w w') (hC:B≤C):Rd w' B A xs:=fun hx=>by
 obtain ⟨b,o,hA,hlt,hc⟩:=h hx
 exact ⟨b,o,hA,hlt,fun i v hi=>(hb.cell (p:=⟨b,o+i,none⟩) (Nat.lt_of_lt_of_le hlt hC)).trans (hc i v hi)⟩
theorem Rd.mono (h:Rd w B A xs) {B':Nat} (hB:B≤B'):Rd w B' A xs:=fun hx=>by
 obtain ⟨b,o,hA,hlt,hc⟩:=h hx
 exact ⟨b,o,hA,Nat.lt_of_lt_of_le hlt hB,hc⟩
theorem Rd.take (h:Rd w B A xs) (k:Nat):Rd w B A (xs.take k):=fun hx=>by
 obtain ⟨b,o,hA,hlt,hc⟩:=h (by rintro rfl;simp at hx)
 refine ⟨b,o,hA,hlt,fun i v hi=>hc i v ?_⟩
 rw [List.getElem?_take] at hi
 split at hi
 ·exact hi
 ·cases hi
end
structure Sl (E:List Nat→List Value) (base:Nat) (w:World) (B:Nat) (A:Option Addr) (n c:Nat) (l:List Nat):Prop where
 len:l.length=n
 cap:n≤c
 max:c≤maxLen
 dig:Dig base l
 rd:Rd w B A (E l)
abbrev SlU:=Sl u32s 4294967296
abbrev SlI:=Sl i64s 2
section
variable {E:List Nat→List Value} {base:Nat} {w w':World} {B:Nat} {A:Option Addr} {n c:Nat} {l:List Nat}
theorem Sl.below (h:Sl E base w B A n c l) {C:Nat} (hb:Below C w w') (hC:B≤C):Sl E base w' B A n c l:=⟨h.len,h.cap,h.max,h.dig,h.rd.below hb hC⟩
theorem Sl.mono (h:Sl E base w B A n c l) {B':Nat} (hB:B≤B'):Sl E base w B' A n c l:=⟨h.len,h.cap,h.max,h.dig,h.rd.mono hB⟩
theorem SlU.take (h:SlU w B A n c l) {k:Nat} (hk:k≤n):SlU w B A k c (l.take k):=
 ⟨by rw [List.length_take,h.len];omega,Nat.le_trans hk h.cap,h.max,h.dig.take _,by rw [←u32s_take];exact h.rd.take k⟩
theorem SlU.tr (h:SlU w B A n c l):SlU w B A (tlen l) c (tr l):=h.take (by rw [←h.len];exact tlen_le l)
theorem SlU.at_ (h:SlU w B A n c l) (hn:0<n):∃ b o,A=some ⟨b,o,none⟩∧b<B∧∀ i,i<n→w.cell? ⟨b,o+i,none⟩=some (.int .u32 (l.getD i 0:Nat)):=by
 obtain ⟨b,o,hA,hb,hc⟩:=h.rd (u32s_ne (by rw [h.len];exact hn))
 exact ⟨b,o,hA,hb,fun i hi=>hc i _ (u32s_get (by rw [h.len];exact hi))⟩
theorem SlI.at_ (h:SlI w B A n c l) (hn:0<n):∃ b o,A=some ⟨b,o,none⟩∧b<B∧∀ i,i<n→w.cell? ⟨b,o+i,none⟩=some (.int .i64 (l.getD i 0:Nat)):=by
 obtain ⟨b,o,hA,hb,hc⟩:=h.rd (i64s_ne (by rw [h.len];exact hn))
 exact ⟨b,o,hA,hb,fun i hi=>hc i _ (i64s_get (by rw [h.len];exact hi))⟩
end
theorem addr_add (b o i:Nat):(⟨b,o,none⟩:Addr).add i=⟨b,o+i,none⟩:=by unfold Addr.add;split <;> simp_all
theorem add_zero' (g i:Nat):(⟨g,0,none⟩:Addr).add i=⟨g,i,none⟩:=by unfold Addr.add;split <;> simp_all
def Own (t:TypeId) (w:World) (B:Nat) (A:Option Addr) (n c:Nat) (xs:List Value):Prop:=w.ownsRow B t 1 (.slice A n c) n xs
section
variable {t:TypeId} {w w':World} {B g:Nat} {A:Option Addr} {n c:Nat} {xs:List Value} {l:List Nat}
theorem Own.length (h:Own t w B A n c xs):xs.length=n:=by have:=h.1;omega
theorem Own.form (h:Own t w B A n c xs):(A=none∧n=0∧c=0)∨∃ g,A=some ⟨g,0,none⟩∧B≤g∧g<w.heap.size:=by
 rcases h.2 with ⟨h1,_⟩ | ⟨g,cap,cur,h1,h2,h3,_⟩
 ·left;injection h1 with a b c;exact ⟨a,b,c⟩
 ·right;injection h1 with a b c;exact ⟨g,a,h2,(Array.getElem?_eq_some_iff.1 h3).1⟩
theorem Own.at_ (h:Own t w B A n c xs) (hn:0<n):∃ g,A=some ⟨g,0,none⟩∧B≤g∧g<w.heap.size:=by
 rcases h.form with ⟨_,h1,_⟩ | h1
 ·omega
 ·exact h1
theorem Own.cap (h:Own t w B A n c xs):n≤c∧c≤maxLen:=by
 rcases h.2 with ⟨h1,_⟩ | ⟨g,cap,cur,h1,h2,h3,h4,h5,_⟩
 ·injection h1 with a b c;subst b;subst c;exact ⟨Nat.le_refl _,by simp [maxLen]⟩
 ·injection h1 with a b c;subst c;exact ⟨h4,h5⟩
theorem Own.below (h:Own t w B A n c xs) {C:Nat} (hb:Below C w w') (hC:w.heap.size≤C):Own t w' B A n c xs:=by
 refine ⟨h.1,?_⟩
 rcases h.2 with h1 | ⟨g,cap,cur,h1,h2,h3,h4⟩
 ·exact .inl h1
 ·exact .inr ⟨g,cap,cur,h1,h2,(hb.block g (Nat.lt_of_lt_of_le (Array.getElem?_eq_some_iff.1 h3).1 hC)).trans h3,h4⟩
theorem Own.mono (h:Own t w B A n c xs) {B':Nat} (hB:B'≤B):Own t w B' A n c xs:=by
 refine ⟨h.1,?_⟩
 rcases h.2 with h1 | ⟨g,cap,cur,h1,h2,h3,h4⟩
 ·exact .inl h1
 ·exact .inr ⟨g,cap,cur,h1,Nat.le_trans hB h2,h3,h4⟩
theorem Own.take (h:Own t w B A n c xs) {k:Nat} (hk:k≤n):Own t w B A k c (xs.take k):=by
 have hl:=h.length
 have hc:=h.cap
 rcases h.2 with ⟨h1,h2⟩ | ⟨g,cap,cur,h1,h2,h3,h4,h5,h6,h7⟩
 ·injection h1 with a b c
  subst a;subst b;subst c
  have:k=0:=by omega
  subst this
  exact ⟨by simp,.inl ⟨rfl,by simp⟩⟩
 ·injection h1 with a b c
  subst a;subst c
  refine ⟨by rw [List.length_take];omega,.inr ⟨g,_,cur,rfl,h2,h3,by omega,h5,h6,?_⟩⟩
  rw [←h7,List.take_take]
  congr 1
  omega
theorem Own.rd (h:Own t w B A n c xs):Rd w w.heap.size A xs:=fun hx=>by
 have hn:0<n:=by rw [←h.length];exact List.length_pos_iff.2 hx
 obtain ⟨g,rfl,h1,h2⟩:=h.at_ hn
 refine ⟨g,0,rfl,h2,fun i v hi=>?_⟩
 have:=World.ownsRow.cells h (g:=g) rfl i v hi
 rw [add_zero' g i] at this
 rw [Nat.zero_add];exact this
theorem Own.sl {E:List Nat→List Value} {base:Nat} (h:Own t w B A n c (E l)) (hd:Dig base l) (hl:l.length=n):Sl E base w w.heap.size A n c l:=
 ⟨hl,h.cap.1,h.cap.2,hd,h.rd⟩
theorem Own.of_block (hg:w.heap[g]?=some (.cells xs.toArray t (0,0))) (hB:B≤g) (hm:xs.length≤maxLen):Own t w B (some ⟨g,0,none⟩) xs.length xs.length xs:=
 ⟨by simp,.inr ⟨g,_,_,rfl,hB,hg,Nat.le_refl _,hm,by simp,by simp⟩⟩
theorem Own.made (w:World) (z:Value) (n:Nat) (t:TypeId) (hB:B≤w.heap.size) (hm:n≤maxLen) :
  Own t (w.alloc (.cells (madeCells #[z] n) t)) B (some ⟨w.heap.size,0,none⟩) n n (madeCells #[z] n).toList:=by
 have h:=Own.of_block (w:=w.alloc (.cells (madeCells #[z] n) t)) (g:=w.heap.size) (t:=t) (B:=B) (xs:=(madeCells #[z] n).toList) (by rw [Array.toArray_toList];exact heap_alloc_new w _) hB (by simpa [size_madeCells] using hm)
 have e:(madeCells #[z] n).toList.length=n:=by simp [size_madeCells]
 rw [e] at h
 exact h
theorem Own.alloc (h:Own t w B A n c xs) (o:Obj):Own t (w.alloc o) B A n c xs:=World.ownsRow.alloc h o
theorem Own.drew (h:Own t w B A n c xs):Own t w.drew B A n c xs:=h
theorem Own.cell (h:Own t w B (some ⟨g,0,none⟩) n c xs) {j:Nat} (hj:j<n):w.cell? ⟨g,j,none⟩=xs[j]?:=by
 have hc:=h.cap
 have:=World.ownsRow.cells h (g:=g) rfl
 have e:xs[j]?=some (xs[j]'(by rw [h.length];exact hj)):=List.getElem?_eq_getElem _
 rw [e]
 have h2:=this j _ e
 rw [add_zero' g j] at h2
 exact h2
theorem Own.frozen (h:Own t w B (some ⟨g,0,none⟩) n c xs) (j:Nat):w.frozen? ⟨g,j,none⟩=false:=by
 rcases h.2 with ⟨h1,_⟩ | ⟨g',cap,cur,h1,h2,h3,_⟩
 ·cases h1
 ·injection h1 with a b c
  injection a with a
  injection a with a
  subst a
  simp [World.frozen?,h3]
theorem Own.set_ (h:Own t w B (some ⟨g,0,none⟩) n c xs) (j:Nat) (u:Value):Own t (w.setCell ⟨g,j,none⟩ u) B (some ⟨g,0,none⟩) n c (xs.set j u):=by
 rcases h.2 with ⟨h1,_⟩ | ⟨g',cap,cur,h1,h2,h3,h4,h5,h6,h7⟩
 ·cases h1
 ·injection h1 with a b cc
  injection a with a
  injection a with a
  subst a;subst cc
  refine ⟨by simpa using h.1,.inr ⟨g,c,cur.setIfInBounds j u,rfl,h2,?_,h4,h5,by simpa using h6,?_⟩⟩
  ·simp [World.setCell,Array.getElem?_modify,h3]
  ·rw [←h7,Array.toList_setIfInBounds,List.take_set]
theorem Own.far (h:Own t w B A n c xs) {p:Addr} (hp:∀ g,A=some ⟨g,0,none⟩→g≠p.block) (u:Value):Own t (w.setCell p u) B A n c xs:=by
 refine ⟨h.1,?_⟩
 rcases h.2 with h1 | ⟨g,cap,cur,h1,h2,h3,h4⟩
 ·exact .inl h1
 ·injection h1 with a b c
  exact .inr ⟨g,cap,cur,by rw [a,c],h2,(Below.heap_setCell w p u g (hp g a)).trans h3,h4⟩
end
def UB (t:TypeId) (w:World) (g:Nat) (L:List Nat):Prop:=w.heap[g]?=some (.cells (u32s L).toArray t (0,0))
section
variable {t:TypeId} {w w':World} {g:Nat} {L:List Nat}
theorem UB.cell (h:UB t w g L) {i:Nat} (hi:i<L.length):w.cell? ⟨g,i,none⟩=some (.int .u32 (L.getD i 0:Nat)):=by
 rw [cell_of_row w g i _ t (0,0) h]
 simpa using u32s_get hi
theorem UB.frozen (h:UB t w g L) (i:Nat):w.frozen? ⟨g,i,none⟩=false:=by unfold UB at h;simp [World.frozen?,h]
theorem UB.lt (h:UB t w g L):g<w.heap.size:=(Array.getElem?_eq_some_iff.1 h).1
theorem UB.set_ (h:UB t w g L) (i x:Nat):UB t (w.setCell ⟨g,i,none⟩ (.int .u32 (x:Int))) g (L.set i x):=by
 unfold UB at h ⊢
 rw [←u32s_set]
 simp [World.setCell,Array.getElem?_modify,h]
theorem UB.drewN (h:UB t w g L) (k:Nat):UB t (w.drewN k) g L:=h
theorem UB.own (h:UB t w g L) {B:Nat} (hB:B≤g) (hm:L.length≤maxLen):Own t w B (some ⟨g,0,none⟩) L.length L.length (u32s L):=by
 have:=Own.of_block (xs:=u32s L) h hB (by rw [u32s_length];exact hm)
 rwa [u32s_length] at this
theorem Own.ub {B n:Nat} (h:Own t w B (some ⟨g,0,none⟩) n n (u32s L)):UB t w g L:=by
 rcases h.2 with ⟨h1,_⟩ | ⟨g',cap,cur,h1,h2,h3,h4,h5,h6,h7⟩
 ·cases h1
 ·injection h1 with a b c
  injection a with a
  injection a with a
  subst a;subst c
  rw [List.take_of_length_le (by rw [Array.length_toList];omega)] at h7
  unfold UB
  rw [h3,←h7,Array.toArray_toList]
theorem gb_refl (w:World) (row:Option Nat):w.grownBy w row:=World.grownBy.refl w row
theorem gb_drewN {a:World} {row:Option Nat} (h:a.grownBy w row) (n:Nat):a.grownBy (w.drewN n) row:=⟨h.os,h.tape,h.output,h.size,h.block⟩
theorem gb_setCell {a:World} (h:a.grownBy w (some g)) (i:Nat) (u:Value):a.grownBy (w.setCell ⟨g,i,none⟩ u) (some g):=
 ⟨h.os,h.tape,h.output,by simpa [World.setCell] using h.size,fun j hj hne=>(Below.heap_setCell w ⟨g,i,none⟩ u j (by rintro rfl;exact hne rfl)).trans (h.block j hj hne)⟩
theorem gb_below {a:World} (h:a.grownBy w (some g)) {B:Nat} (hB:B≤g) (ha:B≤a.heap.size):Below B a w:=
 ⟨h.os,h.tape,h.output,h.size,fun j hj=>h.block j (by omega) (by simp;omega)⟩
end
end Hb
namespace Go.Proofs.YtjpnmmjgdiiahaaGreatDoor
open Go
section
variable {P:Program} {ops:Array Oper} {Q:Exit→Act→World→Prop} {md:Region.Mode} {S:World→Prop} {st:Nat}
def wpAnyW (P:Program) (md:Region.Mode) (ops:Array Oper) (Q:Exit→Act→World→Prop) (S:World→Prop) (st:Nat):Nat→Array Bool→Act→World→Prop
 | 0,listed,a,w=>Region.ready md ops listed = []∧Q .normal a w
 | fuel+1,listed,a,w=>
  (Region.ready md ops listed = []→Q .normal a w) ∧
  ∀ i∈Region.ready md ops listed,wpOp P ops Q i (fun a' w'=>((listed.setIfInBounds i true).getD st true=false→S w')∧wpAnyW P md ops Q S st fuel (listed.setIfInBounds i true) a' w') a w
theorem wpAny_of_wait:∀ (fuel:Nat) (listed:Array Bool) (a:Act) (w:World),wpAnyW P md ops Q S st fuel listed a w→wpAny P md ops Q fuel listed a w
 | 0,_,_,_,h=>h
 | fuel+1,_,_,_,h=>⟨h.1,fun i hi=>wpOp_mono (fun a' w' h'=>wpAny_of_wait fuel _ a' w' h'.2) (h.2 i hi)⟩
def waitsFor (md:Region.Mode) (ops:Array Oper) (st i:Nat):Bool:=
 match ops[st]? with
 | none=>false
 | some o=>o.after.any fun e=>Region.binds md e && e.on==i
theorem not_ready_of_waits {i:Nat} {listed:Array Bool} (hw:waitsFor md ops st i=true) (hi:i∈Region.ready md ops listed):st∉Region.ready md ops listed:=by
 intro h
 obtain ⟨_,o,ho,hall⟩:=mem_ready.1 h
 simp only [waitsFor,ho] at hw
 obtain ⟨e,he,hb⟩:=Array.any_eq_true'.1 hw
 simp only [Bool.and_eq_true,beq_iff_eq] at hb
 have h1:=hall e he hb.1
 have h0:=(mem_ready.1 hi).1
 rw [hb.2] at h1
 rcases Nat.lt_or_ge i listed.size with h' | h'
 ·simp [h'] at h0 h1;rw [h0] at h1;cases h1
 ·simp [Array.getElem?_eq_none h'] at h1
theorem not_ready_of_unlisted {k:Nat} {listed:Array Bool} (hw:waitsFor md ops st k=true) (hk:listed.getD k true=false):st∉Region.ready md ops listed:=by
 intro h
 obtain ⟨_,o,ho,hall⟩:=mem_ready.1 h
 simp only [waitsFor,ho] at hw
 obtain ⟨e,he,hb⟩:=Array.any_eq_true'.1 hw
 simp only [Bool.and_eq_true,beq_iff_eq] at hb
 have h1:=hall e he hb.1
 have h0:=hk
 rw [hb.2] at h1
 rcases Nat.lt_or_ge k listed.size with h' | h'
 ·simp [h'] at h0 h1;rw [h0] at h1;cases h1
 ·simp [Array.getElem?_eq_none h'] at h1
theorem wpAnyW_first {i k:Nat} {oi:Oper} {v:Value} (hi:ops[i]?=some oi) (hsel:∀ (j:Nat) (o:Oper) cs b,ops[j]?=some o→o.op ≠ .select cs b)
  (hQ:∀ c a w,Q (.panic c) (a.put oi.dst v) w→Q (.panic c) a w) (hki:waitsFor md ops k i=true) (hnk:(k==i)=false) (hst:(st==k)=true∨waitsFor md ops st k=true) (hne:(st==i)=false) :
  ∀ (fuel:Nat) (listed:Array Bool) (a:Act) (w:World),
   (∀ j oj,ops[j]?=some oj→j≠i→listed.getD j true=false→(∀ e∈oj.after,Region.binds md e=true→e.on≠i)→oi.apart ops oj=true) →
   i∈Region.ready md ops listed→YieldsIf P ops S oi v a→listed.getD k true=false→listed.getD st true=false→S w →
   wpAnyW P md ops Q S st fuel (listed.setIfInBounds i true) (a.put oi.dst v) w→wpAnyW P md ops Q S st (fuel+1) listed a w:=by
 have hne':i≠st:=fun e=>by subst e;simp at hne
 have hnk':i≠k:=fun e=>by subst e;simp at hnk
 intro fuel
 induction fuel with
 | zero=>
  intro listed a w _ hr hy hk hl hS H
  refine ⟨fun h=>(by rw [h] at hr;cases hr),fun j hj=>?_⟩
  by_cases hji:j=i
  ·subst hji;exact hy.wpOp hi hS ⟨fun _=>hS,H⟩
  ·have:=ready_mono hj hji
   rw [H.1] at this
   cases this
 | succ fuel ih=>
  intro listed a w hfree hr hy hk hl hS H
  refine ⟨fun h=>(by rw [h] at hr;cases hr),fun j hj=>?_⟩
  by_cases hji:j=i
  ·subst hji;exact hy.wpOp hi hS ⟨fun _=>hS,H⟩
  ·have hjk:j≠k:=fun e=>not_ready_of_waits hki hr (e ▸ hj)
   have hjs:j≠st:=fun e=>by
    rcases hst with h | h
    ·exact hjk (e.trans (by simpa using h))
    ·exact not_ready_of_unlisted h hk (e ▸ hj)
   have h1:=H.2 j (ready_mono hj hji)
   obtain ⟨hjun,oj,hoj,hall⟩:=mem_ready.1 hj
   have hnot:∀ e∈oj.after,Region.binds md e=true→e.on≠i:=fun e he hb heq=>by
    have h1:=hall e he hb
    have h0:=(mem_ready.1 hr).1
    rw [heq] at h1
    rcases Nat.lt_or_ge i listed.size with h' | h'
    ·simp [h'] at h0 h1;rw [h0] at h1;cases h1
    ·simp [Array.getElem?_eq_none h'] at h1
   have h2:=wpOp_putIf hoj (hfree j oj hoj hji hjun hnot) (fun cs b=>hsel i oi cs b hi) (fun cs b=>hsel j oj cs b hoj) hQ hy h1
   have hfree':∀ k ok,ops[k]?=some ok→k≠i→(listed.setIfInBounds j true).getD k true=false →
     (∀ e∈ok.after,Region.binds md e=true→e.on≠i)→oi.apart ops ok=true:=fun k ok hk hki hun hno=>by
    refine hfree k ok hk hki ?_ hno
    by_cases hjk:j=k
    ·subst hjk;exact hjun
    ·rw [getD_set_ne true hjk] at hun;exact hun
   have hl':(listed.setIfInBounds j true).getD st true=false:=by rw [getD_set_ne true hjs];exact hl
   have hk':(listed.setIfInBounds j true).getD k true=false:=by rw [getD_set_ne true hjk];exact hk
   have hl2:((listed.setIfInBounds i true).setIfInBounds j true).getD st true=false:=by rw [getD_set_ne true hjs,getD_set_ne true hne'];exact hl
   refine wpOp_mono (fun a' w' h3=>⟨fun _=>h3.2.1 hl2,ih (listed.setIfInBounds j true) a' w' hfree' (ready_mono hr (Ne.symm hji)) h3.1 hk' hl' (h3.2.1 hl2) ?_⟩) h2
   rw [Array.setIfInBounds_comm _ _ hji]
   exact h3.2.2
theorem wpAnyW_take {i:Nat} (k:Nat) {oi:Oper} {v:Value} {fuel:Nat} {listed:Array Bool} {a:Act} {w:World} (hi:ops[i]?=some oi)
  (hs:Region.noSelect ops=true) (hf:Region.free md ops listed i=true) (hr:(Region.ready md ops listed).contains i=true)
  (hst:(waitsFor md ops k i && !(k==i) && (st==k || waitsFor md ops st k) && !(st==i) && !listed.getD k true && !listed.getD st true)=true)
  (hQ:∀ c a w,Q (.panic c) (a.put oi.dst v) w→Q (.panic c) a w) (hy:YieldsIf P ops S oi v a) (hS:S w)
  (h:wpAnyW P md ops Q S st fuel (listed.setIfInBounds i true) (a.put oi.dst v) w):wpAnyW P md ops Q S st (fuel+1) listed a w:=by
 simp only [Bool.and_eq_true,Bool.not_eq_true',Bool.or_eq_true] at hst
 exact wpAnyW_first hi (Region.noSelect_spec hs) hQ hst.1.1.1.1.1 hst.1.1.1.1.2 hst.1.1.1.2 hst.1.1.2 fuel listed a w (Region.free_spec hi hf) (by simpa using hr) hy hst.1.2 hst.2 hS h
theorem wpAnyW_one {i:Nat} {o:Oper} {fuel:Nat} {listed:Array Bool} {a:Act} {w:World} (hr:Region.ready md ops listed = [i]) (ho:ops[i]?=some o)
  (h:∀ K':Act→World→Prop,Shut (∀ a w,((listed.setIfInBounds i true).getD st true=false→S w)→wpAnyW P md ops Q S st fuel (listed.setIfInBounds i true) a w→K' a w)→if Region.wanted o (yielded ops a.tmps)=true then Oper.wp P o a w K' Q else K' (a.put o.dst undef) w) :
  wpAnyW P md ops Q S st (fuel+1) listed a w:=
 ⟨fun h0=>absurd (hr ▸ h0) (by simp),fun j hj=>by
  rw [hr] at hj
  obtain rfl:j=i:=by simpa using hj
  exact wpOp_step ho (fun K' hK=>h K' (fun a w hS hW=>hK a w ⟨hS,hW⟩))⟩
theorem wpAnyW_two {i i2:Nat} {o o2:Oper} {fuel:Nat} {listed:Array Bool} {a:Act} {w:World} (hr:Region.ready md ops listed = [i,i2]) (ho:ops[i]?=some o) (ho2:ops[i2]?=some o2)
  (h:∀ K':Act→World→Prop,Shut (∀ a w,((listed.setIfInBounds i true).getD st true=false→S w)→wpAnyW P md ops Q S st fuel (listed.setIfInBounds i true) a w→K' a w)→if Region.wanted o (yielded ops a.tmps)=true then Oper.wp P o a w K' Q else K' (a.put o.dst undef) w)
  (h2:∀ K':Act→World→Prop,Shut (∀ a w,((listed.setIfInBounds i2 true).getD st true=false→S w)→wpAnyW P md ops Q S st fuel (listed.setIfInBounds i2 true) a w→K' a w)→if Region.wanted o2 (yielded ops a.tmps)=true then Oper.wp P o2 a w K' Q else K' (a.put o2.dst undef) w) :
  wpAnyW P md ops Q S st (fuel+1) listed a w:=
 ⟨fun h0=>absurd (hr ▸ h0) (by simp),fun j hj=>by
  rw [hr] at hj
  rcases List.mem_cons.1 hj with rfl | hj
  ·exact wpOp_step ho (fun K' hK=>h K' (fun a w hS hW=>hK a w ⟨hS,hW⟩))
  ·obtain rfl:j=i2:=by simpa using hj
   exact wpOp_step ho2 (fun K' hK=>h2 K' (fun a w hS hW=>hK a w ⟨hS,hW⟩))⟩
theorem wpAnyW_done {listed:Array Bool} {a:Act} {w:World} (hr:Region.ready md ops listed = []) (h:Q .normal a w) :
  ∀ fuel,wpAnyW P md ops Q S st fuel listed a w
 | 0=>⟨hr,h⟩
 | _+1=>⟨fun _=>h,by rw [hr];simp⟩
theorem wp_region_wait {id:Nat} {a:Act} {w:World} (S:World→Prop) (st:Nat) (hm:P.follows .mixedOrders=true)
  (h:wpAnyW P .any ops Q S st ops.size (Array.replicate ops.size false) a { w with drawn:=w.drawn+1 }):(Code.region id ops true).wp P Q a w:=
 wp_region_any hm (wpAny_of_wait _ _ _ _ h)
theorem uW (i : Nat) {o : Oper} {fuel : Nat} {listed : Array Bool} {a : Act} {w : World}
 (h : ∀ K' : Act → World → Prop, Shut (∀ a w, ((listed.setIfInBounds i true).getD st true = false → S w) → wpAnyW P md ops Q S st fuel (listed.setIfInBounds i true) a w → K' a w) → if Region.wanted o (yielded ops a.tmps) = true then Oper.wp P o a w K' Q else K' (a.put o.dst undef) w)
 (hr : Region.ready md ops listed = [i] := by kernel_rfl) (ho : ops[i]? = some o := by rfl) : wpAnyW P md ops Q S st (fuel + 1) listed a w := wpAnyW_one hr ho h
theorem tW3 (k i : Nat) (v : Value) {oi : Oper} {fuel : Nat} {listed : Array Bool} {a : Act} {w : World} (hS : S w) (hy : ∀ w2, S w2 → (execOp a.eval oi).run P w2 = .ok (.value v) w2)
 (h : wpAnyW P md ops Q S st fuel (listed.setIfInBounds i true) (a.put oi.dst v) w) (hi : ops[i]? = some oi := by rfl)
 (hs : Region.noSelect ops = true := by kernel_rfl) (hf : Region.free md ops listed i = true := by kernel_rfl) (hr : (Region.ready md ops listed).contains i = true := by kernel_rfl)
 (hst : (waitsFor md ops k i && !(k == i) && (st == k || waitsFor md ops st k) && !(st == i) && !listed.getD k true && !listed.getD st true) = true := by kernel_rfl)
 (hQ : ∀ c a w, Q (.panic c) (a.put oi.dst v) w → Q (.panic c) a w := by exact fun _ _ _ h => h) (hg : Region.wanted oi (yielded ops a.tmps) = true := by rfl) : wpAnyW P md ops Q S st (fuel + 1) listed a w :=
 wpAnyW_take k hi hs hf hr hst hQ (.inl ⟨hg, hy⟩) hS h
end
end Go.Proofs.YtjpnmmjgdiiahaaGreatDoor
