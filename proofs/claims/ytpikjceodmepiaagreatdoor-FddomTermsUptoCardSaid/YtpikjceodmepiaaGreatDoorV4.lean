import Derived.Deep.AppendLies
import Derived.Maps.AppendAt
import Derived.Deep.OwnRows
import Derived.Sort.Grow
import Derived.OrdersHeld
import Derived.Deep.RegionHeld3
import Derived.Below
import Derived.Deep.DeepCutAuto
import Derived.Deep.CutBlock
import Derived.StillTailTactics
import Derived.Shelf.GgSortFunc.InsertionK
import Derived.Shelf.SlSortCmp.NoneTotal
import Derived.Sort.OwnSorted
import Derived.Test.YtpikjceodmepiaaGreatDoorV1
import Derived.Test.YtpikjceodmepiaaGreatDoorV2
import Derived.Test.YtpikjceodmepiaaGreatDoorV3
import Derived.Test.YtpikjceodmepiaaGreatDoorV0
set_option maxRecDepth 1000000
set_option maxHeartbeats 64000000
set_option linter.unusedVariables false
set_option linter.unusedSimpArgs false
namespace Go.Proofs.YtpikjceodmepiaaGreatDoor
section
open Go.RowKit Hb Hf
structure LimP (w:World) (P:Nat→Prop) (A:Option Addr) (n c:Nat) (l:List Nat):Prop where
 len:l.length=n
 cap:n≤c
 max:c≤maxLen
 dig:Dig 4294967296 l
 rd:l ≠ []→∃ b o,A=some ⟨b,o,none⟩∧P b∧∀ i v,(u32s l)[i]?=some v→w.cell? ⟨b,o+i,none⟩=some v
section
variable {w w':World} {P Q:Nat→Prop} {A:Option Addr} {n c B:Nat} {l:List Nat}
theorem LimP.keep (h:LimP w P A n c l) (hb:∀ b,P b→Q b∧w'.heap[b]?=w.heap[b]?):LimP w' Q A n c l:=
 ⟨h.len,h.cap,h.max,h.dig,fun hl=>by
  obtain ⟨b,o,e,hp,hc⟩:=h.rd hl
  exact ⟨b,o,e,(hb b hp).1,fun i v hv=>(Qc (a:=⟨b,o+i,none⟩) (hb b hp).2).trans (hc i v hv)⟩⟩
theorem LimP.wide (h:LimP w P A n c l) (hb:∀ b,P b→Q b):LimP w Q A n c l:=h.keep fun b hp=>⟨hb b hp,rfl⟩
theorem u32s_nil_iff {l:List Nat} : u32s l ≠ []↔l ≠ []:=by cases l <;> simp [u32s]
theorem LimP.sl (h:LimP w P A n c l) (hb:∀ b,P b→b<B):SlU w B A n c l:=
 ⟨h.len,h.cap,h.max,h.dig,fun hx=>by
  obtain ⟨b,o,e,hp,hc⟩:=h.rd (u32s_nil_iff.1 hx)
  exact ⟨b,o,e,hb b hp,hc⟩⟩
theorem LimP.of_sl (h:SlU w B A n c l):LimP w (fun b=>b<B) A n c l:=
 ⟨h.len,h.cap,h.max,h.dig,fun hx=>h.rd (u32s_nil_iff.2 hx)⟩
theorem LimP.of_own (h:OwnU w B A n c (u32s l)) (hd:Dig 4294967296 l):LimP w (fun b=>B≤b∧b<w.heap.size) A n c l:=by
 have hl:l.length=n:=by rw [←u32s_length];exact h.length
 refine ⟨hl,h.cap.1,h.cap.2,hd,fun hx=>?_⟩
 have hn:0<n:=by rw [←hl];exact List.length_pos_iff.2 hx
 obtain ⟨g,rfl,h1,h2⟩:=h.at_ hn
 refine ⟨g,0,rfl,⟨h1,h2⟩,fun i v hi=>?_⟩
 have:=World.ownsRow.cells h (g:=g) rfl i v hi
 rw [add_zero' g i] at this
 rw [Nat.zero_add];exact this
theorem LimP.nil (w:World) (P:Nat→Prop) (A:Option Addr) {c:Nat} (hc:c≤maxLen):LimP w P A 0 c []:=⟨rfl,Nat.zero_le _,hc,Dig.nil _,fun h=>absurd rfl h⟩
end
structure Bd where
 i:Int
 g:Bool
 A:Option Addr
 n:Nat
 c:Nat
 l:List Nat
abbrev Rg:=Bd × Bd
def Bd.vals (b:Bd):List Value:=[.int .i64 b.i,.bool b.g,.slice b.A b.n b.c]
def Bd.v (b:Bd):Value:=.agg b.vals.toArray
def Bd.z (b:Bd):Int:=ival b.g b.l
def Bd.ed (b:Bd):Ed:=if b.i<0 then .lo else if 0<b.i then .hi else .num b.z
structure Bd.At (w:World) (P:Nat→Prop) (b:Bd):Prop where
 lim:LimP w P b.A b.n b.c b.l
 r1 : -9223372036854775808≤b.i
 r2:b.i≤9223372036854775807
def Bd.Tri (b:Bd):Prop:=b.i = -1∨b.i=0∨b.i=1
structure Bd.Nrm (b:Bd):Prop where
 tri:b.Tri
 out:b.i≠0→b.l = []∧b.g=false
 dig:b.l=digs W b.z.natAbs∧b.g=decide (b.z<0)
section
variable {w w':World} {P Q:Nat→Prop} {b:Bd}
theorem Bd.At.keep (h:b.At w P) (hb:∀ x,P x→Q x∧w'.heap[x]?=w.heap[x]?):b.At w' Q:=⟨h.lim.keep hb,h.r1,h.r2⟩
theorem Bd.At.wide (h:b.At w P) (hb:∀ x,P x→Q x):b.At w Q:=h.keep fun x hp=>⟨hb x hp,rfl⟩
theorem Bd.ed_zero (h:b.i=0):b.ed = .num b.z:=by simp [Bd.ed,h]
theorem Bd.ed_lo (h:b.i<0):b.ed = .lo:=by simp [Bd.ed,h]
theorem Bd.ed_hi (h:0<b.i):b.ed = .hi:=by simp [Bd.ed,h,show ¬b.i<0 by omega]
end
structure Rg.At (w:World) (P:Nat→Prop) (p:Rg):Prop where
 a:p.1.At w P
 b:p.2.At w P
theorem Rg.At.keep {w w':World} {P Q:Nat→Prop} {p:Rg} (h:Rg.At w P p) (hb:∀ x,P x→Q x∧w'.heap[x]?=w.heap[x]?):Rg.At w' Q p:=⟨h.a.keep hb,h.b.keep hb⟩
def edsR (p:Rg):R:=(p.1.ed,p.2.ed)
def cells6 (p:Rg):List Value:=p.1.vals ++ p.2.vals
def rgV (p:Rg):Value:=.agg (cells6 p).toArray
theorem cells6_eq (i:Int) (g:Bool) (A:Option Addr) (n c:Nat) (l:List Nat) (i':Int) (g':Bool) (A':Option Addr) (n' c':Nat) (l':List Nat) :
  cells6 (⟨i,g,A,n,c,l⟩,⟨i',g',A',n',c',l'⟩) = [.int .i64 i,.bool g,.slice A n c,.int .i64 i',.bool g',.slice A' n' c']:=rfl
def fl6 (ps:List Rg):List Value:=ps.flatMap cells6
theorem fl6_length (ps:List Rg):(fl6 ps).length=ps.length * 6:=by
 induction ps with
 | nil=>rfl
 | cons p ps ih=>
  have e:fl6 (p :: ps)=cells6 p ++ fl6 ps:=by simp [fl6]
  rw [e,List.length_append,ih,List.length_cons]
  show 6+_=_
  omega
theorem fl6_append (ps qs:List Rg):fl6 (ps ++ qs)=fl6 ps ++ fl6 qs:=by simp [fl6]
theorem fl6_get {ps:List Rg} {i j:Nat} {p:Rg} (hi:ps[i]?=some p) (hj:j<6):(fl6 ps)[i * 6+j]?=(cells6 p)[j]?:=by
 induction ps generalizing i with
 | nil=>simp at hi
 | cons q ps ih=>
  have e:fl6 (q :: ps)=cells6 q ++ fl6 ps:=by simp [fl6]
  have hl:(cells6 q).length=6:=rfl
  rw [e]
  cases i with
  | zero=>cases hi;rw [List.getElem?_append_left (by omega)];simp
  | succ i=>
   rw [List.getElem?_append_right (by omega),show (i+1) * 6+j - (cells6 q).length=i * 6+j by omega]
   exact ih (by simpa using hi)
theorem fl6_one (ps:List Rg):∀ u∈fl6 ps,u.oneCell'=true:=by
 intro u hu
 obtain ⟨p,hp,hy⟩:=List.mem_flatMap.1 hu
 simp [cells6,Bd.vals] at hy
 rcases hy with rfl | rfl | rfl | rfl | rfl | rfl <;> rfl
structure RdR (w:World) (P:Nat→Prop) (A:Option Addr) (n c:Nat) (ps:List Rg):Prop where
 len:ps.length=n
 cap:n≤c
 max:c≤maxLen
 rd:ps ≠ []→∃ b o,A=some ⟨b,o,none⟩∧P b∧∀ i v,(fl6 ps)[i]?=some v→w.cell? ⟨b,o+i,none⟩=some v
theorem RdR.keep {w w':World} {P Q:Nat→Prop} {A:Option Addr} {n c:Nat} {ps:List Rg} (h:RdR w P A n c ps) (hb:∀ b,P b→Q b∧w'.heap[b]?=w.heap[b]?):RdR w' Q A n c ps:=
 ⟨h.len,h.cap,h.max,fun hl=>by
  obtain ⟨b,o,e,hp,hc⟩:=h.rd hl
  exact ⟨b,o,e,(hb b hp).1,fun i v hv=>(Qc (a:=⟨b,o+i,none⟩) (hb b hp).2).trans (hc i v hv)⟩⟩
structure SetP (w:World) (P:Nat→Prop) (A:Option Addr) (n c:Nat) (ps:List Rg):Prop where
 row:RdR w P A n c ps
 kid:∀ p∈ps,Rg.At w P p
theorem SetP.keep {w w':World} {P Q:Nat→Prop} {A:Option Addr} {n c:Nat} {ps:List Rg} (h:SetP w P A n c ps) (hb:∀ b,P b→Q b∧w'.heap[b]?=w.heap[b]?):SetP w' Q A n c ps:=
 ⟨h.row.keep hb,fun p hp=>(h.kid p hp).keep hb⟩
theorem SetP.below {w w':World} {P:Nat→Prop} {A:Option Addr} {n c B:Nat} {ps:List Rg} (h:SetP w P A n c ps) (hb:Below B w w') (hP:∀ b,P b→b<B):SetP w' P A n c ps:=h.keep fun b hp=>⟨hp,hb.block b (hP b hp)⟩
theorem SetP.wide {w:World} {P Q:Nat→Prop} {A:Option Addr} {n c:Nat} {ps:List Rg} (h:SetP w P A n c ps) (hb:∀ b,P b→Q b):SetP w Q A n c ps:=h.keep fun b hp=>⟨hb b hp,rfl⟩
theorem RdR.at_ {w:World} {P:Nat→Prop} {A:Option Addr} {n c:Nat} {ps:List Rg} (h:RdR w P A n c ps) {k:Nat} {p:Rg} (hk:ps[k]?=some p):∃ b o,A=some ⟨b,o,none⟩∧P b ∧
  w.cell? ⟨b,o+k * 6,none⟩=some (.int .i64 p.1.i)∧w.cell? ⟨b,o+k * 6+1,none⟩=some (.bool p.1.g)∧w.cell? ⟨b,o+k * 6+2,none⟩=some (.slice p.1.A p.1.n p.1.c) ∧
  w.cell? ⟨b,o+k * 6+3,none⟩=some (.int .i64 p.2.i)∧w.cell? ⟨b,o+k * 6+4,none⟩=some (.bool p.2.g)∧w.cell? ⟨b,o+k * 6+5,none⟩=some (.slice p.2.A p.2.n p.2.c):=by
 obtain ⟨b,o,e,hp,hc⟩:=h.rd (fun e=>by rw [e] at hk;simp at hk)
 have key:∀ j u,j<6→(cells6 p)[j]?=some u→w.cell? ⟨b,o+k * 6+j,none⟩=some u:=fun j u hj hu=>by
  have:=hc (k * 6+j) u ((fl6_get hk hj).trans hu)
  rwa [←Nat.add_assoc] at this
 exact ⟨b,o,e,hp,key 0 _ (by omega) rfl,key 1 _ (by omega) rfl,key 2 _ (by omega) rfl,key 3 _ (by omega) rfl,key 4 _ (by omega) rfl,key 5 _ (by omega) rfl⟩
theorem infoR:(Tryz.prog.info? 69).map (fun i=>(i.zero,i.size,i.bytes))=some (some (.agg #[.int .i64 0,.bool false,.slice none 0 0,.int .i64 0,.bool false,.slice none 0 0]),6,80):=by kernel_rfl
def maxRg:Nat:=1759218604400
structure RRow (w:World) (B:Nat) (P:Nat→Prop) (A:Option Addr) (n c:Nat) (ps:List Rg):Prop where
 own:w.ownsRow B 69 6 (.slice A n c) n (fl6 ps)
 kid:∀ p∈ps,Rg.At w (fun b=>P b∧(Value.slice A n c).ownBlock≠some b) p
section
variable {w w':World} {B:Nat} {P:Nat→Prop} {A:Option Addr} {n c:Nat} {ps:List Rg}
theorem RRow.len (h:RRow w B P A n c ps):ps.length=n:=by have:=h.own.1;rw [fl6_length] at this;omega
theorem RRow.cap (h:RRow w B P A n c ps):n≤c∧c≤maxLen:=by
 rcases h.own.2 with ⟨h1,_⟩ | ⟨g,cap,cur,h1,h2,h3,h4,h5,_⟩
 ·injection h1 with a b c;subst b;subst c;exact ⟨Nat.le_refl _,by simp [maxLen]⟩
 ·injection h1 with a b c;subst c;exact ⟨h4,h5⟩
theorem RRow.nil (w:World) (B:Nat) (P:Nat→Prop):RRow w B P none 0 0 []:=⟨⟨rfl,.inl ⟨rfl,rfl⟩⟩,fun p hp=>by cases hp⟩
theorem RRow.block (h:RRow w B P A n c ps):(A=none∧n=0)∨∃ g,A=some ⟨g,0,none⟩∧B≤g∧g<w.heap.size∧(Value.slice A n c).ownBlock=some g:=by
 rcases h.own.2 with ⟨h1,_⟩ | ⟨g,cap,cur,h1,h2,h3,_⟩
 ·injection h1 with a b c;exact .inl ⟨a,b⟩
 ·injection h1 with a b c
  subst a
  exact .inr ⟨g,rfl,h2,(Array.getElem?_eq_some_iff.1 h3).1,rfl⟩
theorem RRow.wide {Q:Nat→Prop} (h:RRow w B P A n c ps) (hP:∀ b,P b→Q b):RRow w B Q A n c ps:=
 ⟨h.own,fun p hp=>(h.kid p hp).keep (fun b hb2=>⟨⟨hP b hb2.1,hb2.2⟩,rfl⟩)⟩
theorem RRow.lower {B':Nat} (h:RRow w B P A n c ps) (hB:B'≤B):RRow w B' P A n c ps:=by
 refine ⟨⟨h.own.1,?_⟩,h.kid⟩
 rcases h.own.2 with h1 | ⟨g,cap,cur,h1,h2,h3⟩
 ·exact .inl h1
 ·exact .inr ⟨g,cap,cur,h1,Nat.le_trans hB h2,h3⟩
theorem RRow.keepP (h:RRow w B P A n c ps) (hb:∀ b,B≤b→b<w.heap.size→w'.heap[b]?=w.heap[b]?) (hP:∀ b,P b→w'.heap[b]?=w.heap[b]?):RRow w' B P A n c ps:=by
 refine ⟨⟨h.own.1,?_⟩,fun p hp=>(h.kid p hp).keep (fun b hb2=>⟨hb2,hP b hb2.1⟩)⟩
 rcases h.own.2 with h1 | ⟨g,cap,cur,h1,h2,h3,h4⟩
 ·exact .inl h1
 ·exact .inr ⟨g,cap,cur,h1,h2,(hb g h2 (Array.getElem?_eq_some_iff.1 h3).1).trans h3,h4⟩
theorem RRow.keep (h:RRow w B P A n c ps) (hb:Below w.heap.size w w') (hP:∀ b,P b→b<w.heap.size):RRow w' B P A n c ps:=
 h.keepP (fun b _ hb2=>hb.block b hb2) (fun b hp=>hb.block b (hP b hp))
theorem RRow.set (h:RRow w B P A n c ps) (hP:∀ b,B≤b→b<w.heap.size→P b):SetP w P A n c ps:=by
 refine ⟨⟨h.len,h.cap.1,h.cap.2,fun hl=>?_⟩,fun p hp=>(h.kid p hp).keep fun b hb=>⟨hb.1,rfl⟩⟩
 have hn0:0<n:=by rw [←h.len];exact List.length_pos_iff.2 hl
 rcases h.block with ⟨_,h0⟩ | ⟨g,rfl,hB,hg,_⟩
 ·omega
 ·refine ⟨g,0,rfl,hP g hB hg,fun i v hv=>?_⟩
  have h9:=World.ownsRow.cells h.own (g:=g) rfl _ _ hv
  rw [add_zero'] at h9
  rw [Nat.zero_add]
  exact h9
end
theorem run_append_R {w:World} {B:Nat} {P:Nat→Prop} {A:Option Addr} {n c:Nat} {ps qs:List Rg} (h:RRow w B P A n c ps) (hP:∀ b,P b→b<w.heap.size) {ad:Addr} {m:Nat} (hq:qs.length=m)
  (hk:∀ q∈qs,Rg.At w (fun b=>P b∧(Value.slice A n c).ownBlock≠some b) q) (hnews:∀ j u,(fl6 qs)[j]?=some u→w.cell? (ad.add j)=some u) (hm:n+m≤maxRg) (hb:B≤w.heap.size)
  {v':Value} {w':World} (ho:w'.ownsRow B 69 6 v' (n+m) (fl6 ps ++ fl6 qs)) (hg:w.grownBy w' (Value.slice A n c).ownBlock) (hv:v'.ownBlock=(Value.slice A n c).ownBlock∨v'.ownBlock=some w.heap.size) :
  ∃ A' c',v' = .slice A' (n+m) c'∧RRow w' B P A' (n+m) c' (ps ++ qs)∧Below B w w':=by
 have hf:∃ A' c',v' = .slice A' (n+m) c':=by
  rcases ho.2 with ⟨h1,h2⟩ | ⟨g',cap,cur,h1,_⟩
  ·exact ⟨none,0,by rw [h1,h2]⟩
  ·exact ⟨_,cap,h1⟩
 obtain ⟨A',c',rfl⟩:=hf
 refine ⟨A',c',rfl,⟨by rw [fl6_append];exact ho,fun p hp=>?_⟩,⟨hg.os,hg.tape,hg.output,hg.size,fun j hj=>hg.block j (Ql hj hb) (fun e2=>?_)⟩⟩
 ·have hkid:Rg.At w (fun b=>P b∧(Value.slice A n c).ownBlock≠some b) p:=by
   rcases List.mem_append.1 hp with hp | hp
   ·exact h.kid p hp
   ·exact hk p hp
  refine hkid.keep (fun b hb2=>⟨⟨hb2.1,?_⟩,hg.block b (hP b hb2.1) (fun e=>hb2.2 e.symm)⟩)
  rcases hv with hv | hv
  ·rw [hv];exact hb2.2
  ·rw [hv];intro e;have:=hP b hb2.1;injection e with e;omega
 ·rcases h.block with ⟨h1,_⟩ | ⟨g,h1,h2,h3,h4⟩
  ·subst h1;simp [Value.ownBlock] at e2
  ·rw [h4] at e2;injection e2 with e2;omega
theorem wpList_append_R {ops:Array Oper} {rest:List Oper} {o:Oper} {a:Act} {Q:Exit→Act→World→Prop} {w:World} (hgd:o.guard=none) (s x:Operand)
  (ho:o.op = .call { callee:=.builtin .append,args:=#[s,x],argTypes:=#[22,22] })
  {B:Nat} {P:Nat→Prop} {A:Option Addr} {n c:Nat} {ps:List Rg} (qs:List Rg) (hs:a.eval s = .slice A n c) (h:RRow w B P A n c ps) (hP:∀ b,P b→b<w.heap.size)
  (ad:Addr) (m c2:Nat) (hx:a.eval x = .slice (some ad) m c2) (hq:qs.length=m) (hk:∀ q∈qs,Rg.At w (fun b=>P b∧(Value.slice A n c).ownBlock≠some b) q) (hnews:∀ j u,(fl6 qs)[j]?=some u→w.cell? (ad.add j)=some u)
  (hm:n+m≤maxRg) (hb:B≤w.heap.size)
  (hh:∀ A' c' w',RRow w' B P A' (n+m) c' (ps ++ qs)→Below B w w'→w.grownBy w' (Value.slice A n c).ownBlock→wpList Tryz.prog ops Q rest (a.put o.dst (.slice A' (n+m) c')) w') :
  wpList Tryz.prog ops Q (o :: rest) a w:=by
 obtain ⟨i0,hi,hz0,hz1,hz2⟩:=info_parts infoR
 have hml:n+m≤maxLen:=by unfold maxLen;unfold maxRg at hm;omega
 have hmb:(n+m) * 80≤140737488355328:=by unfold maxRg at hm;omega
 refine wpList_append_own_at _ hgd s x 22 ho B 69 i0 (.agg #[.int .i64 0,.bool false,.slice none 0 0,.int .i64 0,.bool false,.slice none 0 0]) 6 80 Tryz.underlying22 hi hz0 hz1 hz2 rfl (by decide) _ n (fl6 ps) hs h.own ad m c2 (fl6 qs) hx (by rw [fl6_length,hq]) hnews (fl6_one qs) hml hmb hb ?_
 intro v' w' ho' hg _ hv
 obtain ⟨A',c',rfl,hr,hbw⟩:=run_append_R h hP hq hk hnews hm hb ho' hg hv
 exact hh A' c' w' hr hbw hg
theorem step_append_R {o:Oper} {a:Act} {w:World} {K:Act→World→Prop} {Q:Exit→Act→World→Prop} (hgd:o.guard=none) (s x:Operand)
  (ho:o.op = .call { callee:=.builtin .append,args:=#[s,x],argTypes:=#[22,22] })
  {B:Nat} {P:Nat→Prop} {A:Option Addr} {n c:Nat} {ps:List Rg} (qs:List Rg) (hs:a.eval s = .slice A n c) (h:RRow w B P A n c ps) (hP:∀ b,P b→b<w.heap.size)
  (ad:Addr) (m c2:Nat) (hx:a.eval x = .slice (some ad) m c2) (hq:qs.length=m) (hk:∀ q∈qs,Rg.At w (fun b=>P b∧(Value.slice A n c).ownBlock≠some b) q) (hnews:∀ j u,(fl6 qs)[j]?=some u→w.cell? (ad.add j)=some u)
  (hm:n+m≤maxRg) (hb:B≤w.heap.size)
  (hh:∀ A' c' w',RRow w' B P A' (n+m) c' (ps ++ qs)→Below B w w'→w.grownBy w' (Value.slice A n c).ownBlock→K (a.put o.dst (.slice A' (n+m) c')) w') :
  Oper.wp Tryz.prog o a w K Q:=by
 obtain ⟨i0,hi,hz0,hz1,hz2⟩:=info_parts infoR
 have hml:n+m≤maxLen:=by unfold maxLen;unfold maxRg at hm;omega
 have hmb:(n+m) * 80≤140737488355328:=by unfold maxRg at hm;omega
 obtain ⟨v',w',hr,h2,h3,h4,h5⟩:=run_append_own_at (P:=Tryz.prog) w B 22 o.type 69 i0 (.agg #[.int .i64 0,.bool false,.slice none 0 0,.int .i64 0,.bool false,.slice none 0 0]) 6 80 Tryz.underlying22 hi hz0 hz1 hz2 rfl (by decide) (.slice A n c) n (fl6 ps) h.own ad m c2 (fl6 qs) (by rw [fl6_length,hq]) hnews (fl6_one qs) hml hmb hb
 obtain ⟨A',c',rfl,hr2,hbw⟩:=run_append_R h hP hq hk hnews hm hb h2 h3 h5
 unfold Oper.wp execOp
 simp only [ho,resolve,invoke,builtin,Sem.run_bind,Sem.run_pure,Result.andThen_ok,List.map_toArray,List.map_cons,List.map_nil,hs,hx,hr]
 exact hh _ _ _ hr2 hbw h3
def RBox (w:World) (g:Nat) (p:Rg):Prop:=w.heap[g]?=some (.cells (cells6 p).toArray 69 (0,0))
def EBox (w:World) (g:Nat) (b:Bd):Prop:=w.heap[g]?=some (.cells b.vals.toArray 67 (0,0))
section
variable {w w':World} {g:Nat} {p q:Rg} {b d:Bd}
theorem RBox.lt (h:RBox w g p):g<w.heap.size:=(Array.getElem?_eq_some_iff.1 h).1
theorem EBox.lt (h:EBox w g b):g<w.heap.size:=(Array.getElem?_eq_some_iff.1 h).1
theorem RBox.below (h:RBox w g p) (hb:Below w.heap.size w w'):RBox w' g p:=(hb.block g h.lt).trans h
theorem EBox.below (h:EBox w g b) (hb:Below w.heap.size w w'):EBox w' g b:=(hb.block g h.lt).trans h
theorem EBox.gro {N:Nat} (h:EBox w g b) (hg:w.grownBy w' (some N)) (hn:g≠N):EBox w' g b:=(hg.block g h.lt (fun e=>by injection e with e;exact hn e)).trans h
theorem RBox.new (w:World) (p:Rg):RBox (w.alloc (.cells (cells6 p).toArray 69)) w.heap.size p:=heap_alloc_new w _
theorem EBox.new (w:World) (b:Bd):EBox (w.alloc (.cells b.vals.toArray 67)) w.heap.size b:=heap_alloc_new w _
theorem RBox.cells (h:RBox w g p):w.cell? ⟨g,0,none⟩=some (.int .i64 p.1.i)∧w.cell? ⟨g,1,none⟩=some (.bool p.1.g)∧w.cell? ⟨g,2,none⟩=some (.slice p.1.A p.1.n p.1.c) ∧
  w.cell? ⟨g,3,none⟩=some (.int .i64 p.2.i)∧w.cell? ⟨g,4,none⟩=some (.bool p.2.g)∧w.cell? ⟨g,5,none⟩=some (.slice p.2.A p.2.n p.2.c):=by
 refine ⟨?_,?_,?_,?_,?_,?_⟩ <;> (rw [cell_of_row w g _ _ _ (0,0) h];rfl)
theorem EBox.cells (h:EBox w g b):w.cell? ⟨g,0,none⟩=some (.int .i64 b.i)∧w.cell? ⟨g,1,none⟩=some (.bool b.g)∧w.cell? ⟨g,2,none⟩=some (.slice b.A b.n b.c):=by
 refine ⟨?_,?_,?_⟩ <;> (rw [cell_of_row w g _ _ _ (0,0) h];rfl)
theorem RBox.frozen (h:RBox w g p) (j:Nat):w.frozen? ⟨g,j,none⟩=false:=by unfold RBox at h;simp [World.frozen?,h]
theorem EBox.frozen (h:EBox w g b) (j:Nat):w.frozen? ⟨g,j,none⟩=false:=by unfold EBox at h;simp [World.frozen?,h]
theorem RBox.frozens (h:RBox w g p):w.frozen? ⟨g,0,none⟩=false∧w.frozen? ⟨g,1,none⟩=false∧w.frozen? ⟨g,2,none⟩=false∧w.frozen? ⟨g,3,none⟩=false∧w.frozen? ⟨g,4,none⟩=false∧w.frozen? ⟨g,5,none⟩=false:=
 ⟨h.frozen 0,h.frozen 1,h.frozen 2,h.frozen 3,h.frozen 4,h.frozen 5⟩
theorem EBox.frozens (h:EBox w g b):w.frozen? ⟨g,0,none⟩=false∧w.frozen? ⟨g,1,none⟩=false∧w.frozen? ⟨g,2,none⟩=false:=⟨h.frozen 0,h.frozen 1,h.frozen 2⟩
theorem EBox.set3 (h:EBox w g b) (d:Bd) :
  EBox (((w.setCell ⟨g,0,none⟩ (.int .i64 d.i)).setCell ⟨g,1,none⟩ (.bool d.g)).setCell ⟨g,2,none⟩ (.slice d.A d.n d.c)) g d ∧
  w.grownBy (((w.setCell ⟨g,0,none⟩ (.int .i64 d.i)).setCell ⟨g,1,none⟩ (.bool d.g)).setCell ⟨g,2,none⟩ (.slice d.A d.n d.c)) (some g):=by
 refine ⟨?_,gb_setCell (gb_setCell (gb_setCell (gb_refl _ _) _ _) _ _) _ _⟩
 unfold EBox at h ⊢
 simp [World.setCell,Array.getElem?_modify,h,Bd.vals]
theorem RBox.set6 (h:RBox w g p) (q:Rg) :
  RBox ((((((w.setCell ⟨g,0,none⟩ (.int .i64 q.1.i)).setCell ⟨g,1,none⟩ (.bool q.1.g)).setCell ⟨g,2,none⟩ (.slice q.1.A q.1.n q.1.c)).setCell ⟨g,3,none⟩ (.int .i64 q.2.i)).setCell ⟨g,4,none⟩ (.bool q.2.g)).setCell ⟨g,5,none⟩ (.slice q.2.A q.2.n q.2.c)) g q ∧
  w.grownBy ((((((w.setCell ⟨g,0,none⟩ (.int .i64 q.1.i)).setCell ⟨g,1,none⟩ (.bool q.1.g)).setCell ⟨g,2,none⟩ (.slice q.1.A q.1.n q.1.c)).setCell ⟨g,3,none⟩ (.int .i64 q.2.i)).setCell ⟨g,4,none⟩ (.bool q.2.g)).setCell ⟨g,5,none⟩ (.slice q.2.A q.2.n q.2.c)) (some g):=by
 refine ⟨?_,gb_setCell (gb_setCell (gb_setCell (gb_setCell (gb_setCell (gb_setCell (gb_refl _ _) _ _) _ _) _ _) _ _) _ _) _ _⟩
 unfold RBox at h ⊢
 simp [World.setCell,Array.getElem?_modify,h,Bd.vals,cells6]
end
structure Gr (w w':World):Prop where
 bel:Below w.heap.size w w'
 drw:w.drawn≤w'.drawn
theorem Gr.refl (w:World):Gr w w:=⟨Below.refl _ _,Nat.le_refl _⟩
theorem Gr.trans {a b c:World} (h:Gr a b) (k:Gr b c):Gr a c:=⟨Qt h.bel k.bel,Nat.le_trans h.drw k.drw⟩
theorem Gr.alloc {a b:World} (h:Gr a b) (o:Obj):Gr a (b.alloc o):=⟨h.bel.alloc h.bel.size o,h.drw⟩
theorem Gr.drew {a b:World} (h:Gr a b):Gr a b.drew:=⟨h.bel.drew,Nat.le_trans h.drw (Nat.le_succ _)⟩
theorem Gr.of_dr {a b:World} (h:Dr a b):Gr a b:=by
 obtain ⟨k,rfl⟩:=h
 exact ⟨Dr.below ⟨k,rfl⟩ _,Nat.le_add_right _ _⟩
theorem Gr.lies {w w':World} (h:Gr w w'):∃ q os,w'=Sort.grow (w.drewN q) os:=by
 refine ⟨w'.drawn - w.drawn,w'.heap.extract w.heap.size w'.heap.size,?_⟩
 have e1:=h.bel.os
 have e2:=h.bel.tape
 have e3:=h.bel.output
 have e4:w.drawn+(w'.drawn - w.drawn)=w'.drawn:=by have:=h.drw;omega
 have hz:=h.bel.size
 have e5:w.heap ++ w'.heap.extract w.heap.size w'.heap.size=w'.heap:=by
  apply Array.ext
  ·simp;omega
  ·intro i h1 h2
   by_cases hi:i<w.heap.size
   ·rw [Array.getElem_append_left hi]
    have:=h.bel.block i hi
    rw [Array.getElem?_eq_getElem hi,Array.getElem?_eq_getElem h2] at this
    exact (Option.some.inj this).symm
   ·rw [Array.getElem_append_right (by omega),Array.getElem_extract]
    congr 1
    omega
 obtain ⟨heap,tape,drawn,os,output⟩:=w'
 simp only at e1 e2 e3 e4 e5
 unfold Sort.grow World.drewN
 simp only [e1,e2,e3,e4,e5]
theorem sign_gr (neg:Bool) {B:Nat} {A:Option Addr} {l:List Nat} {n c:Nat} {w:World} (hs:SlU w B A n c l) (hB:B≤w.heap.size) :
  Calls Tryz.prog 21 #[.agg #[.bool neg,.slice A n c]] w fun e w'=>e = .returned (.int .i64 (ival neg l).sign)∧Gr w w':=by
 have HI:=Qh (fun w1 (hb:Below w.heap.size w w1)=>trim_any (hs.below (C:=w.heap.size) hb hB))
 have HB:=Qh (Gr.refl w)
 clear hs hB
 by_cases h0:tlen l=0
 ·have HS:=Qh (show (ival neg l).sign=0 by rw [ival_zero h0];rfl)
  rw [h0] at HI
  clear h0
  go_enter Tryz.func21,Tryz.ntmps21
  go_wp2_with (go_at_call 55;refine (HI.out _ (HB.out.alloc _).bel).mono ?_;rintro e w' ⟨rfl,rfl⟩)
  go_ret
  exact ⟨ret_int HS.out.symm,HB.out.alloc _⟩
 ·have h1:0<tlen l:=by omega
  have HS:=Qh (sign_neg h1)
  have HT:=Qh (sign_pos h1)
  generalize tlen l=k at HI h1 h0
  have hk:((k:Int)==0)=false:=beq_eq_false_iff_ne.2 (by omega)
  cases neg
  all_goals
   go_enter Tryz.func21,Tryz.ntmps21
   go_wp2_with (go_at_call 55;refine (HI.out _ (HB.out.alloc _).bel).mono ?_;rintro e w' ⟨rfl,rfl⟩)
   go_ret
   exact ⟨ret_int (by first | exact HS.out.symm | exact HT.out.symm),HB.out.alloc _⟩
attribute [local go_sem ↓] Go.wp_at_zero Go.wp_at_succ
theorem Cmp_gr (na nb:Bool) {B B':Nat} {A A':Option Addr} {l m:List Nat} {n c n' c':Nat} {w:World} (hs:SlU w B A n c l) (ht:SlU w B' A' n' c' m) (hB:B≤w.heap.size) (hB':B'≤w.heap.size) :
  Calls Tryz.prog 30 #[.agg #[.bool na,.slice A n c],.agg #[.bool nb,.slice A' n' c']] w (fun e w'=>e = .returned (.int .i64 (cmpZ (ival na l) (ival nb m)))∧Gr w w'):=by
 have H1:=Qh (fun w1 (hb:Gr w w1)=>sign_gr na (hs.below (C:=w.heap.size) hb.bel hB) (Nat.le_trans hB hb.bel.size))
 have H2:=Qh (fun w1 (hb:Gr w w1)=>sign_gr nb (ht.below (C:=w.heap.size) hb.bel hB') (Nat.le_trans hB' hb.bel.size))
 have H3:=Qh (fun w1 (hb:Gr w w1)=>cmp_any (hs.below (C:=w.heap.size) hb.bel hB) (ht.below (C:=w.heap.size) hb.bel hB'))
 have H4:=Qh (fun w1 (hb:Gr w w1)=>cmp_any (ht.below (C:=w.heap.size) hb.bel hB') (hs.below (C:=w.heap.size) hb.bel hB))
 have hW:Gr w ((w.alloc (.cells #[.bool na,.slice A n c] 56)).alloc (.cells #[.bool nb,.slice A' n' c'] 56)):=((Gr.refl _).alloc _).alloc _
 have HS:=Qh (fun C w2 (hb:Below C ((w.alloc (.cells #[.bool na,.slice A n c] 56)).alloc (.cells #[.bool nb,.slice A' n' c'] 56)).drew w2) (hC:w.heap.size+2≤C)=>two_boxes hb (by rfl) hC)
 have HL:=Qh (fun h=>cmpZ_lt (cmpZ_sign (a:=ival na l) (b:=ival nb m) h))
 have HG:=Qh (fun h=>cmpZ_gt (cmpZ_sign (a:=ival nb m) (b:=ival na l) h))
 have HN:=Qh (show (ival na l).sign<0→(ival nb m).sign<0→cmpN (nv W m) (nv W l)=cmpZ (ival na l) (ival nb m) from fun h1 h2=>by rw [ival_of_sign_neg h1,ival_of_sign_neg h2,cmpN_Zneg])
 have HP:=Qh (show ¬(ival na l).sign<0→¬(ival nb m).sign<0→cmpN (nv W l) (nv W m)=cmpZ (ival na l) (ival nb m) from fun h1 h2=>by rw [ival_of_sign_nonneg h1,ival_of_sign_nonneg h2,cmpN_Z])
 clear hs ht hB hB'
 generalize cmpZ (ival na l) (ival nb m)=Z at *
 generalize (ival na l).sign=s at *
 generalize (ival nb m).sign=t at *
 have key:∃ b1 b2 b3:Bool,decide (s<t)=b1∧decide (t<s)=b2∧decide (s<0)=b3:=⟨_,_,_,rfl,rfl,rfl⟩
 obtain ⟨b1,b2,b3,k1,k2,k3⟩:=key
 have HW:=Qh hW
 clear hW
 go_enter Tryz.func30,Tryz.ntmps30
 go_wp2_with fail
 go_region_held3 (fun w'=>(w'.cell? ⟨w.heap.size,0,none⟩=some (.bool na)∧w'.cell? ⟨w.heap.size,1,none⟩=some (.slice A n c))∧(w'.cell? ⟨w.heap.size+1,0,none⟩=some (.bool nb)∧w'.cell? ⟨w.heap.size+1,1,none⟩=some (.slice A' n' c')))
  (first | go_keep | exact HS.out _ _ (Qt hb1.bel hb2.bel) (by simp) | exact HS.out _ _ hb1.bel (by simp))
  (first
   | (go_at_call 21;(with_reducible refine (H1.out _ ?_).mono ?_);exact HW.out.drew;rintro e w1 ⟨rfl,hb1⟩)
   | (go_at_call 21;(with_reducible refine (H2.out _ ?_).mono ?_);exact HW.out.drew.trans hb1;rintro e w2 ⟨rfl,hb2⟩))
 have hb3:=HW.out.drew.trans (hb1.trans hb2)
 clear hb1 hb2
 go_wp2_with fail
 ·have h:b1=true:=by assumption
  go_ret
  exact ⟨ret_int (HL.out (of_decide_eq_true (k1.trans h))).symm,hb3⟩
 ·have h:b2=true:=by assumption
  go_ret
  exact ⟨ret_int (HG.out (of_decide_eq_true (k2.trans h))).symm,hb3⟩
 ·have g1:b1=false:=by assumption
  have g2:b2=false:=by assumption
  have g3:b3=true:=by assumption
  have HV:=Qh (HN.out (of_decide_eq_true (k3.trans g3)) (by have:=of_decide_eq_false (k1.trans g1);have:=of_decide_eq_false (k2.trans g2);have:=of_decide_eq_true (k3.trans g3);omega))
  refine (H4.out _ hb3).mono ?_;rintro e w3 ⟨rfl,hdr⟩
  go_wp2
  go_ret
  exact ⟨ret_int HV.out,hb3.trans (Gr.of_dr hdr)⟩
 ·have g1:b1=false:=by assumption
  have g2:b2=false:=by assumption
  have g3:b3=false:=by assumption
  have HV:=Qh (HP.out (by have:=of_decide_eq_false (k3.trans g3);omega) (by have:=of_decide_eq_false (k1.trans g1);have:=of_decide_eq_false (k2.trans g2);have:=of_decide_eq_false (k3.trans g3);omega))
  refine (H3.out _ hb3).mono ?_;rintro e w3 ⟨rfl,hdr⟩
  go_wp2
  go_ret
  exact ⟨ret_int HV.out,hb3.trans (Gr.of_dr hdr)⟩
def cmpB (a b:Bd):Int:=if a.i=0∧b.i=0 then cmpZ a.z b.z else a.i - b.i
theorem fcmp_any {a b:Bd} {P:Nat→Prop} {w:World} (ha:a.At w P) (hb:b.At w P) (hP:∀ x,P x→x<w.heap.size) (ta:a.Tri) (tb:b.Tri) :
  Calls Tryz.prog 38 #[a.v,b.v] w fun e w'=>e = .returned (.int .i64 (cmpB a b))∧Gr w w':=by
 have HG:=Qh (((Gr.refl w).alloc (.cells a.vals.toArray 67)).alloc (.cells b.vals.toArray 67))
 have HC:=Qh (fun w1 (h1:Gr w w1)=>Cmp_gr a.g b.g ((ha.lim.sl hP).below (C:=w.heap.size) h1.bel (Nat.le_refl _)) ((hb.lim.sl hP).below (C:=w.heap.size) h1.bel (Nat.le_refl _)) h1.bel.size h1.bel.size)
 have e1:=EBox.new w a
 have e2:=EBox.new (w.alloc (.cells a.vals.toArray 67)) b
 have e3:=(EBox.below e1 (w':=(w.alloc (.cells a.vals.toArray 67)).alloc (.cells b.vals.toArray 67)) (Qb))
 obtain ⟨ai,ag,aA,an,ac,al⟩:=a
 obtain ⟨bi,bg,bA,bn,bc,bl⟩:=b
 obtain ⟨x0,x1,x2⟩:=e3.cells
 obtain ⟨y0,y1,y2⟩:=e2.cells
 rw [World.size_alloc] at y0 y1 y2
 have HV:=Qh (show cmpB ⟨ai,ag,aA,an,ac,al⟩ ⟨bi,bg,bA,bn,bc,bl⟩=if ai=0∧bi=0 then cmpZ (ival ag al) (ival bg bl) else ai - bi from rfl)
 have q1 : -1≤ai∧ai≤1:=by unfold Bd.Tri at ta;simp only at ta;omega
 have q2 : -1≤bi∧bi≤1:=by unfold Bd.Tri at tb;simp only at tb;omega
 obtain ⟨q11,q12⟩:=q1
 obtain ⟨q21,q22⟩:=q2
 simp only [Bd.v,Bd.vals] at *
 clear ha hb hP e1 e2 e3 ta tb
 by_cases h1:ai=0
 ·subst h1
  by_cases h2:bi=0
  ·subst h2
   rw [if_pos ⟨rfl,rfl⟩] at HV
   go_enter Tryz.func38,Tryz.ntmps38
   go_wp2_with (go_at_call 30;refine (HC.out _ HG.out).mono ?_;rintro e w1 ⟨rfl,hg1⟩)
   go_ret
   exact ⟨ret_int HV.out.symm,HG.out.trans hg1⟩
  ·rw [if_neg (fun h=>h2 h.2)] at HV
   have hz:(bi==0)=false:=beq_eq_false_iff_ne.2 h2
   clear h2
   go_enter Tryz.func38,Tryz.ntmps38
   go_wp2
   go_ret
   exact ⟨ret_int (by have:=HV.out;omega),HG.out⟩
 ·rw [if_neg (fun h=>h1 h.1)] at HV
  have hz:(ai==0)=false:=beq_eq_false_iff_ne.2 h1
  clear h1
  go_enter Tryz.func38,Tryz.ntmps38
  go_wp2
  go_ret
  exact ⟨ret_int (by have:=HV.out;omega),HG.out⟩
end
section
open Go.RowKit Hb Hf
theorem ival_digs (z:Int):ival (decide (z<0)) (digs W z.natAbs)=z:=by
 unfold ival
 rw [nv_digs (by decide)]
 by_cases h:z<0
 ·rw [if_pos (by simpa using h)];omega
 ·rw [if_neg (by simpa using h)];omega
def nb (z:Int) (A:Option Addr) (c:Nat):Bd:=⟨0,decide (z<0),A,(digs W z.natAbs).length,c,digs W z.natAbs⟩
def ib (i:Int):Bd:=⟨i,false,none,0,0,[]⟩
theorem nb_z (z:Int) (A:Option Addr) (c:Nat):(nb z A c).z=z:=ival_digs z
theorem nb_ed (z:Int) (A:Option Addr) (c:Nat):(nb z A c).ed = .num z:=by rw [Bd.ed_zero rfl,nb_z]
theorem nb_nrm (z:Int) (A:Option Addr) (c:Nat):(nb z A c).Nrm:=⟨.inr (.inl rfl),fun h=>absurd rfl h,by rw [nb_z];exact ⟨rfl,rfl⟩⟩
theorem ib_nrm {i:Int} (h:i = -1∨i=1):(ib i).Nrm:=⟨by rcases h with h | h <;> simp [Bd.Tri,ib,h],fun _=>⟨rfl,rfl⟩,by simp [ib,Bd.z,ival,nv,digs_zero]⟩
theorem ib_at (w:World) (P:Nat→Prop) {i:Int} (h:i = -1∨i=0∨i=1):(ib i).At w P:=⟨LimP.nil w P none (c:=0) (by simp [maxLen]),by show (-9223372036854775808:Int)≤i;omega,by show i≤9223372036854775807;omega⟩
abbrev Fr (B:Nat) (w:World):Nat→Prop:=fun x=>B≤x∧x<w.heap.size
theorem nb_at {w:World} {B:Nat} {z:Int} {A:Option Addr} {c:Nat} (h:OwnU w B A (digs W z.natAbs).length c (u32s (digs W z.natAbs))):(nb z A c).At w (Fr B w):=
 ⟨LimP.of_own h (dig_digs (by decide) _),by show (-9223372036854775808:Int)≤0;omega,by show (0:Int)≤9223372036854775807;omega⟩
theorem ResI.nb {w:World} {B:Nat} {v:Value} {z:Int} (h:ResI w B v z):∃ A c,v = .agg #[.bool (decide (z<0)),.slice A (digs W z.natAbs).length c]∧(nb z A c).At w (Fr B w):=by
 obtain ⟨A,c,hv,ho⟩:=h
 exact ⟨A,c,hv,nb_at ho⟩
theorem Bd.At.below {w w':World} {B:Nat} {b:Bd} (h:b.At w (Fr B w)) (hb:Below w.heap.size w w'):b.At w' (Fr B w'):=h.keep fun x hx=>⟨⟨hx.1,Ql hx.2 hb.size⟩,hb.block x hx.2⟩
attribute [local go_sem ↓] Go.wp_at_zero Go.wp_at_succ
def CleanPost (w:World) (e:Ed) (en:Ending) (w':World):Prop:=∃ b:Bd,en = .returned b.v∧b.At w' (Fr w.heap.size w')∧b.Nrm∧b.ed=e∧Below w.heap.size w w'
theorem clean_any {a:Bd} {P:Nat→Prop} {w:World} (ha:a.At w P) (hP:∀ x,P x→x<w.heap.size) (hs:a.i=0→a.n≤67108864) :
  Calls Tryz.prog 101 #[a.v] w (CleanPost w a.ed):=by
 have hG:=((Below.refl w.heap.size w).alloc (Nat.le_refl _) (.cells a.vals.toArray 67)).alloc (by simp) (.cells (ib 0).vals.toArray 67)
 have HC:=Qh (fun (h0:a.i=0) (w1:World) (h1:Below w.heap.size w w1)=>norm_any a.g ((ha.lim.sl hP).below (C:=w.heap.size) h1 (Nat.le_refl _)) (hs h0) h1.size)
 have e1:=EBox.new w a
 have e2:=EBox.new (w.alloc (.cells a.vals.toArray 67)) (ib 0)
 have e3:=(EBox.below e1 (w':=(w.alloc (.cells a.vals.toArray 67)).alloc (.cells (ib 0).vals.toArray 67)) (Qb))
 have HE2:=Qh e2
 obtain ⟨ai,ag,aA,an,ac,al⟩:=a
 obtain ⟨x0,x1,x2⟩:=e3.cells
 have HG:=Qh hG
 have hr1:=ha.r1
 have hr2:=ha.r2
 rw [World.size_alloc] at HE2
 have HD:=Qh (show Bd.ed ⟨ai,ag,aA,an,ac,al⟩=if ai<0 then .lo else if 0<ai then .hi else .num (ival ag al) from rfl)
 simp only [Bd.v,Bd.vals] at *
 clear ha hP e1 e2 e3 hs hG
 obtain ⟨y0,y1,y2⟩:=HE2.out.cells
 obtain ⟨f0,f1,f2⟩:=HE2.out.frozens
 have HF:=Qh (fun (w1:World) (b:Bd) (hb:EBox w1 (w.heap.size+1) b)=>hb.cells)
 by_cases h1:ai<0
 ·rw [if_pos h1] at HD
  go_enter Tryz.func101,Tryz.ntmps101
  go_wp2
  refine bodyPost_ret (v:=(ib (-1)).v) (by simp [results,Tryz.results101,go_sem];rfl) rfl ⟨ib (-1),rfl,ib_at _ _ (.inl rfl),ib_nrm (.inl rfl),by rw [HD.out];rfl,?_⟩
  exact ((Below.refl w.heap.size w).alloc (Nat.le_refl _) _).alloc (by simp) _
 ·rw [if_neg h1] at HD
  by_cases h2:0<ai
  ·rw [if_pos h2] at HD
   go_enter Tryz.func101,Tryz.ntmps101
   go_wp2
   refine bodyPost_ret (v:=(ib 1).v) (by simp [results,Tryz.results101,go_sem];rfl) rfl ⟨ib 1,rfl,ib_at _ _ (.inr (.inr rfl)),ib_nrm (.inr rfl),by rw [HD.out];rfl,?_⟩
   exact ((Below.refl w.heap.size w).alloc (Nat.le_refl _) _).alloc (by simp) _
  ·rw [if_neg h2] at HD
   obtain rfl:ai=0:=by omega
   have HC2:=Qh (HC.out rfl)
   clear HC h1 h2
   go_enter Tryz.func101,Tryz.ntmps101
   go_wp2_with (go_at_call 84;refine (HC2.out _ HG.out).mono ?_;rintro e w1 ⟨v,rfl,hr,hb1⟩;obtain ⟨A1,c1,rfl,hat⟩:=hr.nb;have HB1:=Qh hb1;have HAt:=Qh hat;have HX:=Qh (HE2.out.below hb1);clear hr hb1 hat;obtain ⟨y0,y1,y2⟩:=HX.out.cells;obtain ⟨f0,f1,f2⟩:=HX.out.frozens)
   generalize ival ag al=Z at *
   have HS:=Qh (HX.out.set3 (nb Z A1 c1))
   simp only [nb] at HS
   generalize ((w1.setCell ⟨w.heap.size+1,0,none⟩ (.int .i64 0)).setCell ⟨w.heap.size+1,1,none⟩ (.bool (decide (Z<0)))).setCell ⟨w.heap.size+1,2,none⟩ (.slice A1 (digs W Z.natAbs).length c1)=w6 at *
   obtain ⟨r0,r1,r2⟩:=HS.out.1.cells
   refine bodyPost_ret (v:=(nb Z A1 c1).v) (by simp [results,Tryz.results101,go_sem,r0,r1,r2];rfl) rfl ⟨nb Z A1 c1,rfl,?_,nb_nrm _ _ _,by rw [HD.out];exact nb_ed _ _ _,?_⟩
   ·have hz1:=HB1.out.size
    have hz2:=HS.out.2.size
    simp at hz1
    refine HAt.out.keep fun x hx=>⟨⟨by have:=hx.1;simp at this;omega,Ql hx.2 hz2⟩,HS.out.2.block x hx.2 (fun e=>?_)⟩
    injection e with e
    have:=hx.1
    simp at this
    omega
   ·exact (HG.out.trans (HB1.out.mono (by simp;omega))).grown HS.out.2 (HG.out.trans (HB1.out.mono (by simp;omega))).size (Qg (by omega))
end
section
open Go
section
variable {P:Program} {ops:Array Oper} {Q:Exit→Act→World→Prop} {md:Region.Mode} {S:World→Prop} {st:Nat}
def wpAnyW (P:Program) (md:Region.Mode) (ops:Array Oper) (Q:Exit→Act→World→Prop) (S:World→Prop) (st:Nat):Nat→Array Bool→Act→World→Prop
 | 0,listed,a,w=>Region.ready md ops listed = []∧Q .normal a w
 | fuel+1,listed,a,w=>
  (Region.ready md ops listed = []→Q .normal a w) ∧
  ∀ i∈Region.ready md ops listed,wpOp P ops Q i (fun a' w'=>((listed.setIfInBounds i true).getD st true=false→S w')∧wpAnyW P md ops Q S st fuel (listed.setIfInBounds i true) a' w') a w
theorem wpAny_of_wait:∀ (fuel:Nat) (listed:Array Bool) (a:Act) (w:World),wpAnyW P md ops Q S st fuel listed a w→wpAny P md ops Q fuel listed a w
 | 0,_,_,_,h=>h
 | fuel+1,_,_,_,h=>⟨h.1,fun i hi=>wpOp_mono (fun a' w' h'=>wpAny_of_wait fuel _ a' w' h'.2) (h.2 i hi)⟩
def waitsFor (md:Region.Mode) (ops:Array Oper) (st i:Nat):Bool:=
 match ops[st]? with
 | none=>false
 | some o=>o.after.any fun e=>Region.binds md e && e.on==i
theorem not_ready_of_waits {i:Nat} {listed:Array Bool} (hw:waitsFor md ops st i=true) (hi:i∈Region.ready md ops listed):st∉Region.ready md ops listed:=by
 intro h
 obtain ⟨_,o,ho,hall⟩:=mem_ready.1 h
 simp only [waitsFor,ho] at hw
 obtain ⟨e,he,hb⟩:=Array.any_eq_true'.1 hw
 simp only [Bool.and_eq_true,beq_iff_eq] at hb
 have h1:=hall e he hb.1
 have h0:=(mem_ready.1 hi).1
 rw [hb.2] at h1
 rcases Nat.lt_or_ge i listed.size with h' | h'
 ·simp [h'] at h0 h1;rw [h0] at h1;cases h1
 ·simp [Array.getElem?_eq_none h'] at h1
theorem not_ready_of_unlisted {k:Nat} {listed:Array Bool} (hw:waitsFor md ops st k=true) (hk:listed.getD k true=false):st∉Region.ready md ops listed:=by
 intro h
 obtain ⟨_,o,ho,hall⟩:=mem_ready.1 h
 simp only [waitsFor,ho] at hw
 obtain ⟨e,he,hb⟩:=Array.any_eq_true'.1 hw
 simp only [Bool.and_eq_true,beq_iff_eq] at hb
 have h1:=hall e he hb.1
 have h0:=hk
 rw [hb.2] at h1
 rcases Nat.lt_or_ge k listed.size with h' | h'
 ·simp [h'] at h0 h1;rw [h0] at h1;cases h1
 ·simp [Array.getElem?_eq_none h'] at h1
theorem wpAnyW_first {i k:Nat} {oi:Oper} {v:Value} (hi:ops[i]?=some oi) (hsel:∀ (j:Nat) (o:Oper) cs b,ops[j]?=some o→o.op ≠ .select cs b)
  (hQ:∀ c a w,Q (.panic c) (a.put oi.dst v) w→Q (.panic c) a w) (hki:waitsFor md ops k i=true) (hnk:(k==i)=false) (hst:(st==k)=true∨waitsFor md ops st k=true) (hne:(st==i)=false) :
  ∀ (fuel:Nat) (listed:Array Bool) (a:Act) (w:World),
   (∀ j oj,ops[j]?=some oj→j≠i→listed.getD j true=false→(∀ e∈oj.after,Region.binds md e=true→e.on≠i)→oi.apart ops oj=true) →
   i∈Region.ready md ops listed→YieldsIf P ops S oi v a→listed.getD k true=false→listed.getD st true=false→S w →
   wpAnyW P md ops Q S st fuel (listed.setIfInBounds i true) (a.put oi.dst v) w→wpAnyW P md ops Q S st (fuel+1) listed a w:=by
 have hne':i≠st:=fun e=>by subst e;simp at hne
 have hnk':i≠k:=fun e=>by subst e;simp at hnk
 intro fuel
 induction fuel with
 | zero=>
  intro listed a w _ hr hy hk hl hS H
  refine ⟨fun h=>(by rw [h] at hr;cases hr),fun j hj=>?_⟩
  by_cases hji:j=i
  ·subst hji;exact hy.wpOp hi hS ⟨fun _=>hS,H⟩
  ·have:=ready_mono hj hji
   rw [H.1] at this
   cases this
 | succ fuel ih=>
  intro listed a w hfree hr hy hk hl hS H
  refine ⟨fun h=>(by rw [h] at hr;cases hr),fun j hj=>?_⟩
  by_cases hji:j=i
  ·subst hji;exact hy.wpOp hi hS ⟨fun _=>hS,H⟩
  ·have hjk:j≠k:=fun e=>not_ready_of_waits hki hr (e ▸ hj)
   have hjs:j≠st:=fun e=>by
    rcases hst with h | h
    ·exact hjk (e.trans (by simpa using h))
    ·exact not_ready_of_unlisted h hk (e ▸ hj)
   have h1:=H.2 j (ready_mono hj hji)
   obtain ⟨hjun,oj,hoj,hall⟩:=mem_ready.1 hj
   have hnot:∀ e∈oj.after,Region.binds md e=true→e.on≠i:=fun e he hb heq=>by
    have h1:=hall e he hb
    have h0:=(mem_ready.1 hr).1
    rw [heq] at h1
    rcases Nat.lt_or_ge i listed.size with h' | h'
    ·simp [h'] at h0 h1;rw [h0] at h1;cases h1
    ·simp [Array.getElem?_eq_none h'] at h1
   have h2:=wpOp_putIf hoj (hfree j oj hoj hji hjun hnot) (fun cs b=>hsel i oi cs b hi) (fun cs b=>hsel j oj cs b hoj) hQ hy h1
   have hfree':∀ k ok,ops[k]?=some ok→k≠i→(listed.setIfInBounds j true).getD k true=false →
     (∀ e∈ok.after,Region.binds md e=true→e.on≠i)→oi.apart ops ok=true:=fun k ok hk hki hun hno=>by
    refine hfree k ok hk hki ?_ hno
    by_cases hjk:j=k
    ·subst hjk;exact hjun
    ·rw [getD_set_ne true hjk] at hun;exact hun
   have hl':(listed.setIfInBounds j true).getD st true=false:=by rw [getD_set_ne true hjs];exact hl
   have hk':(listed.setIfInBounds j true).getD k true=false:=by rw [getD_set_ne true hjk];exact hk
   have hl2:((listed.setIfInBounds i true).setIfInBounds j true).getD st true=false:=by rw [getD_set_ne true hjs,getD_set_ne true hne'];exact hl
   refine wpOp_mono (fun a' w' h3=>⟨fun _=>h3.2.1 hl2,ih (listed.setIfInBounds j true) a' w' hfree' (ready_mono hr (Ne.symm hji)) h3.1 hk' hl' (h3.2.1 hl2) ?_⟩) h2
   rw [Array.setIfInBounds_comm _ _ hji]
   exact h3.2.2
theorem wpAnyW_take {i:Nat} (k:Nat) {oi:Oper} {v:Value} {fuel:Nat} {listed:Array Bool} {a:Act} {w:World} (hi:ops[i]?=some oi)
  (hs:Region.noSelect ops=true) (hf:Region.free md ops listed i=true) (hr:(Region.ready md ops listed).contains i=true)
  (hst:(waitsFor md ops k i && !(k==i) && (st==k || waitsFor md ops st k) && !(st==i) && !listed.getD k true && !listed.getD st true)=true)
  (hQ:∀ c a w,Q (.panic c) (a.put oi.dst v) w→Q (.panic c) a w) (hy:YieldsIf P ops S oi v a) (hS:S w)
  (h:wpAnyW P md ops Q S st fuel (listed.setIfInBounds i true) (a.put oi.dst v) w):wpAnyW P md ops Q S st (fuel+1) listed a w:=by
 simp only [Bool.and_eq_true,Bool.not_eq_true',Bool.or_eq_true] at hst
 exact wpAnyW_first hi (Region.noSelect_spec hs) hQ hst.1.1.1.1.1 hst.1.1.1.1.2 hst.1.1.1.2 hst.1.1.2 fuel listed a w (Region.free_spec hi hf) (by simpa using hr) hy hst.1.2 hst.2 hS h
theorem wpAnyW_one {i:Nat} {o:Oper} {fuel:Nat} {listed:Array Bool} {a:Act} {w:World} (hr:Region.ready md ops listed = [i]) (ho:ops[i]?=some o)
  (h:∀ K':Act→World→Prop,Shut (∀ a w,((listed.setIfInBounds i true).getD st true=false→S w)→wpAnyW P md ops Q S st fuel (listed.setIfInBounds i true) a w→K' a w)→if Region.wanted o (yielded ops a.tmps)=true then Oper.wp P o a w K' Q else K' (a.put o.dst undef) w) :
  wpAnyW P md ops Q S st (fuel+1) listed a w:=
 ⟨fun h0=>absurd (hr ▸ h0) (by simp),fun j hj=>by
  rw [hr] at hj
  obtain rfl:j=i:=by simpa using hj
  exact wpOp_step ho (fun K' hK=>h K' (fun a w hS hW=>hK a w ⟨hS,hW⟩))⟩
theorem wpAnyW_two {i i2:Nat} {o o2:Oper} {fuel:Nat} {listed:Array Bool} {a:Act} {w:World} (hr:Region.ready md ops listed = [i,i2]) (ho:ops[i]?=some o) (ho2:ops[i2]?=some o2)
  (h:∀ K':Act→World→Prop,Shut (∀ a w,((listed.setIfInBounds i true).getD st true=false→S w)→wpAnyW P md ops Q S st fuel (listed.setIfInBounds i true) a w→K' a w)→if Region.wanted o (yielded ops a.tmps)=true then Oper.wp P o a w K' Q else K' (a.put o.dst undef) w)
  (h2:∀ K':Act→World→Prop,Shut (∀ a w,((listed.setIfInBounds i2 true).getD st true=false→S w)→wpAnyW P md ops Q S st fuel (listed.setIfInBounds i2 true) a w→K' a w)→if Region.wanted o2 (yielded ops a.tmps)=true then Oper.wp P o2 a w K' Q else K' (a.put o2.dst undef) w) :
  wpAnyW P md ops Q S st (fuel+1) listed a w:=
 ⟨fun h0=>absurd (hr ▸ h0) (by simp),fun j hj=>by
  rw [hr] at hj
  rcases List.mem_cons.1 hj with rfl | hj
  ·exact wpOp_step ho (fun K' hK=>h K' (fun a w hS hW=>hK a w ⟨hS,hW⟩))
  ·obtain rfl:j=i2:=by simpa using hj
   exact wpOp_step ho2 (fun K' hK=>h2 K' (fun a w hS hW=>hK a w ⟨hS,hW⟩))⟩
theorem wpAnyW_done {listed:Array Bool} {a:Act} {w:World} (hr:Region.ready md ops listed = []) (h:Q .normal a w) :
  ∀ fuel,wpAnyW P md ops Q S st fuel listed a w
 | 0=>⟨hr,h⟩
 | _+1=>⟨fun _=>h,by rw [hr];simp⟩
theorem wp_region_wait {id:Nat} {a:Act} {w:World} (S:World→Prop) (st:Nat) (hm:P.follows .mixedOrders=true)
  (h:wpAnyW P .any ops Q S st ops.size (Array.replicate ops.size false) a { w with drawn:=w.drawn+1 }):(Code.region id ops true).wp P Q a w:=
 wp_region_any hm (wpAny_of_wait _ _ _ _ h)
theorem uW (i : Nat) {o : Oper} {fuel : Nat} {listed : Array Bool} {a : Act} {w : World}
 (h : ∀ K' : Act → World → Prop, Shut (∀ a w, ((listed.setIfInBounds i true).getD st true = false → S w) → wpAnyW P md ops Q S st fuel (listed.setIfInBounds i true) a w → K' a w) → if Region.wanted o (yielded ops a.tmps) = true then Oper.wp P o a w K' Q else K' (a.put o.dst undef) w)
 (hr : Region.ready md ops listed = [i] := by kernel_rfl) (ho : ops[i]? = some o := by rfl) : wpAnyW P md ops Q S st (fuel + 1) listed a w := wpAnyW_one hr ho h
theorem tW3 (k i : Nat) (v : Value) {oi : Oper} {fuel : Nat} {listed : Array Bool} {a : Act} {w : World} (hS : S w) (hy : ∀ w2, S w2 → (execOp a.eval oi).run P w2 = .ok (.value v) w2)
 (h : wpAnyW P md ops Q S st fuel (listed.setIfInBounds i true) (a.put oi.dst v) w) (hi : ops[i]? = some oi := by rfl)
 (hs : Region.noSelect ops = true := by kernel_rfl) (hf : Region.free md ops listed i = true := by kernel_rfl) (hr : (Region.ready md ops listed).contains i = true := by kernel_rfl)
 (hst : (waitsFor md ops k i && !(k == i) && (st == k || waitsFor md ops st k) && !(st == i) && !listed.getD k true && !listed.getD st true) = true := by kernel_rfl)
 (hQ : ∀ c a w, Q (.panic c) (a.put oi.dst v) w → Q (.panic c) a w := by exact fun _ _ _ h => h) (hg : Region.wanted oi (yielded ops a.tmps) = true := by rfl) : wpAnyW P md ops Q S st (fuel + 1) listed a w :=
 wpAnyW_take k hi hs hf hr hst hQ (.inl ⟨hg, hy⟩) hS h
end
end
section
open Go Go.RowKit
section
variable {P:Program} {md:Region.Mode} {ops:Array Oper} {Q:Exit→Act→World→Prop} {S:World→Prop} {st:Nat}
def flAll:List Nat→Array Bool→Array Bool
 | [],l=>l
 | i :: E,l=>(flAll E l).setIfInBounds i true
def flL (D:Nat→Option Nat):List Nat→Array Bool→Array Bool
 | [],l=>l
 | i :: E,l=>if (D i).isSome then (flL D E l).setIfInBounds i true else flL D E l
def flA (ops:Array Oper) (D:Nat→Option Nat):List Nat→Act→Act
 | [],a=>a
 | i :: E,a=>match D i with
  | some H=>(flA ops D E a).put ((ops[i]?).bind (·.dst)) (.pointer (some ⟨H,0,none⟩))
  | none=>flA ops D E a
def pend (md:Region.Mode) (ops:Array Oper) (listed:Array Bool) (E:List Nat):List Nat:=
 (List.range ops.size).filter fun i=>!E.contains i && !listed.getD i true && ((ops[i]?).map fun o=>(o.after.all fun e=>!Region.binds md e || listed.getD e.on false || E.contains e.on) && E.any fun f=>o.after.all fun e=>!Region.binds md e || e.on != f).getD false
def farFrom (ops:Array Oper) (E:List Nat) (o:Oper):Bool:=E.all fun f=>match (ops[f]?).bind (·.dst) with
 | some d=>!(o.looksAt ops).contains d && o.dst != some d
 | none=>true
def floatsB (md:Region.Mode) (ops:Array Oper):List Nat→Bool
 | []=>true
 | i :: E=>!E.contains i && (match ops[i]? with
  | some o=>o.guard.isNone && (o.after.all fun e=>!Region.binds md e) && (match o.dst with
   | some d=>E.all fun j=>(ops[j]?).bind (·.dst) != some d
   | none=>false)
  | none=>false) && floatsB md ops E
def FloatRun (P:Program) (ops:Array Oper) (E:List Nat) (obj:Nat→Obj):Prop:=∀ i∈E,∀ o,ops[i]?=some o→∀ (a:Act) (w:World),(execOp a.eval o).run P w = .ok (.value (.pointer (some ⟨w.heap.size,0,none⟩))) (w.alloc (obj i))
theorem flL_getD (D:Nat→Option Nat) {j:Nat} {d:Bool} {l:Array Bool} : ∀ E:List Nat,((E.contains j && (D j).isSome)=false)→(flL D E l).getD j d=l.getD j d
 | [],_=>rfl
 | i :: E,h=>by
  have h':(E.contains j && (D j).isSome)=false:=by
   rw [List.contains_cons] at h
   cases hc:(D j).isSome
   ·simp
   ·rw [hc] at h;simp at h;simp [h.2]
  unfold flL
  split
  ·rename_i hs
   have hne:i≠j:=fun e=>by subst e;simp [hs] at h
   rw [getD_set_ne d hne];exact flL_getD D E h'
  ·exact flL_getD D E h'
theorem flL_or (D:Nat→Option Nat) {j:Nat} {l:Array Bool} : ∀ E:List Nat,(flL D E l).getD j false=true→l.getD j false=true∨(j∈E∧(D j).isSome=true)
 | [],h=>.inl h
 | i :: E,h=>by
  unfold flL at h
  split at h
  ·rename_i hs
   by_cases hij:i=j
   ·subst hij;exact .inr ⟨List.mem_cons_self,hs⟩
   ·rw [getD_set_ne false hij] at h
    exact (flL_or D E h).imp id fun h=>⟨List.mem_cons_of_mem _ h.1,h.2⟩
  ·exact (flL_or D E h).imp id fun h=>⟨List.mem_cons_of_mem _ h.1,h.2⟩
theorem flL_set (D:Nat→Option Nat) {j:Nat} {l:Array Bool} : ∀ E:List Nat,j∉E→flL D E (l.setIfInBounds j true)=(flL D E l).setIfInBounds j true
 | [],_=>rfl
 | i :: E,h=>by
  have h1:j∉E:=fun h'=>h (List.mem_cons_of_mem _ h')
  have h2:i≠j:=fun e=>h (e ▸ List.mem_cons_self)
  unfold flL
  split
  ·rw [flL_set D E h1,Array.setIfInBounds_comm _ _ (Ne.symm h2)]
  ·exact flL_set D E h1
theorem flL_all (D:Nat→Option Nat) {l:Array Bool} : ∀ E:List Nat,(∀ i∈E,(D i).isSome=true)→flL D E l=flAll E l
 | [],_=>rfl
 | i :: E,h=>by
  unfold flL flAll
  rw [if_pos (h i List.mem_cons_self),flL_all D E fun j hj=>h j (List.mem_cons_of_mem _ hj)]
def upd (D:Nat→Option Nat) (i H:Nat):Nat→Option Nat:=fun j=>if j=i then some H else D j
theorem flL_same {D D':Nat→Option Nat} {l:Array Bool} : ∀ E:List Nat,(∀ j∈E,D j=D' j)→flL D E l=flL D' E l
 | [],_=>rfl
 | i :: E,h=>by
  unfold flL
  rw [h i List.mem_cons_self,flL_same E fun j hj=>h j (List.mem_cons_of_mem _ hj)]
theorem flA_same {D D':Nat→Option Nat} {a:Act} : ∀ E:List Nat,(∀ j∈E,D j=D' j)→flA ops D E a=flA ops D' E a
 | [],_=>rfl
 | i :: E,h=>by
  unfold flA
  rw [h i List.mem_cons_self,flA_same E fun j hj=>h j (List.mem_cons_of_mem _ hj)]
theorem flL_upd {D:Nat→Option Nat} {i H:Nat} {l:Array Bool} : ∀ E:List Nat,floatsB md ops E=true→i∈E→D i=none→flL (upd D i H) E l=(flL D E l).setIfInBounds i true
 | [],_,hi,_=>by cases hi
 | k :: E,hf,hi,hn=>by
  simp only [floatsB,Bool.and_eq_true,Bool.not_eq_true'] at hf
  have hk:k∉E:=by simpa using hf.1.1
  by_cases hki:k=i
  ·subst hki
   unfold flL
   rw [hn]
   simp only [upd,if_pos,Option.isSome_some,Option.isSome_none,Bool.false_eq_true,if_false]
   rw [flL_same (D:=upd D k H) (D':=D) E fun j hj=>if_neg (fun e:j=k=>hk (by rw [←e];exact hj))]
  ·have hi':i∈E:=(List.mem_cons.1 hi).resolve_left (Ne.symm hki)
   unfold flL
   have:upd D i H k=D k:=if_neg hki
   rw [this,flL_upd E hf.2 hi' hn]
   split
   ·rw [Array.setIfInBounds_comm _ _ (Ne.symm hki)]
   ·rfl
theorem floatsB_dst {i:Nat} : ∀ E:List Nat,floatsB md ops E=true→i∈E→∃ o d,ops[i]?=some o∧o.guard=none∧o.dst=some d∧(∀ e∈o.after,Region.binds md e=false)
 | [],_,hi=>by cases hi
 | k :: E,hf,hi=>by
  simp only [floatsB,Bool.and_eq_true] at hf
  rcases List.mem_cons.1 hi with rfl | hi
  ·have h:=hf.1.2
   cases ho:ops[i]? with
   | none=>rw [ho] at h;simp at h
   | some o=>
    rw [ho] at h
    simp only [Bool.and_eq_true] at h
    cases hd:o.dst with
    | none=>rw [hd] at h;simp at h
    | some d=>exact ⟨o,d,rfl,by simpa using h.1.1,hd,fun e he=>by have:=Array.all_eq_true'.1 h.1.2 e he;simpa using this⟩
  ·exact floatsB_dst E hf.2 hi
theorem flA_upd {D:Nat→Option Nat} {i H:Nat} {a:Act} : ∀ E:List Nat,floatsB md ops E=true→i∈E→D i=none→flA ops (upd D i H) E a=(flA ops D E a).put ((ops[i]?).bind (·.dst)) (.pointer (some ⟨H,0,none⟩))
 | [],_,hi,_=>by cases hi
 | k :: E,hf,hi,hn=>by
  simp only [floatsB,Bool.and_eq_true,Bool.not_eq_true'] at hf
  have hk:k∉E:=by simpa using hf.1.1
  by_cases hki:k=i
  ·subst hki
   unfold flA
   rw [hn]
   have:upd D k H k=some H:=if_pos rfl
   rw [this]
   simp only
   rw [flA_same (D:=upd D k H) (D':=D) E fun j hj=>if_neg (fun e:j=k=>hk (by rw [←e];exact hj))]
  ·have hi':i∈E:=(List.mem_cons.1 hi).resolve_left (Ne.symm hki)
   unfold flA
   have:upd D i H k=D k:=if_neg hki
   rw [this,flA_upd E hf.2 hi' hn]
   split
   ·rw [Act.put_comm]
    intro d hd he
    have h:=hf.1.2
    cases ho:ops[k]? with
    | none=>rw [ho] at h;simp at h
    | some o=>
     rw [ho] at h he
     simp only [Bool.and_eq_true] at h
     have he':o.dst=some d:=he
     rw [he'] at h
     have:=List.all_eq_true.1 h.2 i hi'
     rw [hd] at this
     simp at this
   ·rfl
theorem wpOp_under {j:Nat} {oj:Oper} {d:Tmp} {v:Value} (hj:ops[j]?=some oj) (hsj:∀ cs b,oj.op ≠ .select cs b) (hlook:d∉oj.looksAt ops) (hdst:oj.dst≠some d)
  (hQ:∀ c (a:Act) d v w,Q (.panic c) a w→Q (.panic c) (a.put (some d) v) w) {K:Act→World→Prop} {a:Act} {w:World} (h:wpOp P ops Q j (fun a' w'=>K (a'.put (some d) v) w') a w) :
  wpOp P ops Q j K (a.put (some d) v) w:=by
 have h1:∀ d',some d=some d'→d'∉oj.looksAt ops:=fun d' e=>by injection e with e;exact e ▸ hlook
 have h2:∀ d',oj.dst=some d'→some d≠some d':=fun d' e e2=>hdst (e.trans e2.symm)
 unfold wpOp at *
 simp only [hj] at *
 rw [wanted_put oj a (some d) v h1]
 split
 ·rename_i hw
  simp only [hw,if_true] at h
  rcases h with h | ⟨hasks,hlets⟩
  case inr=>exact .inr ⟨by unfold Oper.asks at *;rw [execOp_put oj hsj a (some d) v h1];exact hasks,hlets⟩
  refine .inl ?_
  unfold Oper.wp at *
  rw [execOp_put oj hsj a (some d) v h1]
  generalize (execOp a.eval oj).run P w=r at *
  cases r with
  | ok n w'=>
   cases n <;> simp only [Oper.upon] at h ⊢
   case value u=>rw [←Act.put_comm a u v h2];exact h
   case skip=>rw [←Act.put_comm a undef v h2];exact h
   case defer dd=>
    rw [Act.put_defers,←Act.put_comm _ undef v h2]
    exact h
   case enter f args=>
    refine Calls.mono h fun e w'' he=>?_
    cases e with
    | returned u=>
     show K ((a.put (some d) v).put oj.dst u) w''
     rw [←Act.put_comm a u v h2];exact he
    | panicked c=>exact hQ _ _ _ _ _ he
    | outgrown=>exact he
   case row row args=>exact Rows.mono h fun u w'' he=>by rw [←Act.put_comm a u v h2];exact he
  | halt x w'=>
   cases x <;> simp only [Oper.upon] at h ⊢
   case panic u=>exact hQ _ _ _ _ _ h
 ·rename_i hw
  simp only [hw] at h
  rw [←Act.put_comm a undef v h2];exact h
theorem farFrom_spec {o:Oper} : ∀ E:List Nat,farFrom ops E o=true→∀ f∈E,∀ d,(ops[f]?).bind (·.dst)=some d→d∉o.looksAt ops∧o.dst≠some d:=fun E h f hf d hd=>by
 have h1:=List.all_eq_true.1 h f hf
 rw [hd] at h1
 simpa using h1
theorem wpOp_far {j:Nat} {oj:Oper} (hj:ops[j]?=some oj) (hsj:∀ cs b,oj.op ≠ .select cs b) (hQ:∀ c (a:Act) d v w,Q (.panic c) a w→Q (.panic c) (a.put (some d) v) w) (D:Nat→Option Nat) :
  ∀ (E:List Nat),floatsB md ops E=true→farFrom ops E oj=true→∀ {K:Act→World→Prop} {a:Act} {w:World},wpOp P ops Q j (fun a' w'=>K (flA ops D E a') w') a w→wpOp P ops Q j K (flA ops D E a) w
 | [],_,_,_,_,_,h=>h
 | i :: E,hf,hfar,K,a,w,h=>by
  have hff:=hf
  have hfar':=farFrom_spec _ hfar i List.mem_cons_self
  simp only [floatsB,Bool.and_eq_true] at hf
  simp only [farFrom,List.all_cons,Bool.and_eq_true] at hfar
  obtain ⟨o,d,ho,_,hd,_⟩:=floatsB_dst _ hff List.mem_cons_self
  have hod:(ops[i]?).bind (·.dst)=some d:=by rw [ho];exact hd
  unfold flA at h ⊢
  cases hD:D i with
  | none=>
   simp only [hD] at h ⊢
   exact wpOp_far hj hsj hQ D E hf.2 hfar.2 h
  | some H=>
   simp only [hD,hod] at h ⊢
   exact wpOp_under hj hsj (hfar' d hod).1 (hfar' d hod).2 hQ (wpOp_far hj hsj hQ D E hf.2 hfar.2 (K:=fun a' w'=>K (a'.put (some d) _) w') h)
def FlOk (E:List Nat) (obj:Nat→Obj) (D:Nat→Option Nat) (w:World) (G:Nat→Prop):Prop:=
 (∀ i∈E,∃ H,D i=some H∧w.heap[H]?=some (obj i)∧G H)∧∀ i∈E,∀ j∈E,i≠j→D i≠D j
def gapTo (G:Nat→Prop) (w w':World):Nat→Prop:=fun b=>G b∨(w.heap.size≤b∧b<w'.heap.size)
def wpAnyF (P:Program) (md:Region.Mode) (ops:Array Oper) (Q:Exit→Act→World→Prop) (S:World→Prop) (st:Nat) (E:List Nat) (obj:Nat→Obj):Nat→Array Bool→Act→World→(Nat→Prop)→Prop
 | 0,listed,a,w,G=>∀ w',Below w.heap.size w w'→S w' →
  (∀ D,FlOk E obj D w' (gapTo G w w')→wpAnyW P md ops Q S st 0 (flL D E listed) (flA ops D E a) w')∧pend md ops listed E = []
 | fuel+1,listed,a,w,G=>∀ w',Below w.heap.size w w'→S w' →
  (∀ D,FlOk E obj D w' (gapTo G w w')→wpAnyW P md ops Q S st (fuel+1) (flL D E listed) (flA ops D E a) w') ∧
  ∀ i∈pend md ops listed E,i∉E∧∃ o,ops[i]?=some o∧farFrom ops E o=true∧wpOp P ops Q i (fun a' w''=>Below w'.heap.size w' w''∧S w''∧wpAnyF P md ops Q S st E obj fuel (listed.setIfInBounds i true) a' w'' (gapTo G w w')) a w'
variable {E:List Nat} {obj:Nat→Obj}
theorem FlOk.more {D:Nat→Option Nat} {w:World} {G G':Nat→Prop} (h:FlOk E obj D w G) (hG:∀ b,G b→G' b):FlOk E obj D w G':=
 ⟨fun i hi=>let ⟨H,h1,h2,h3⟩:=h.1 i hi;⟨H,h1,h2,hG _ h3⟩,h.2⟩
theorem FlOk.below {D:Nat→Option Nat} {w w':World} {G:Nat→Prop} (h:FlOk E obj D w G) (hb:Below w.heap.size w w'):FlOk E obj D w' G:=
 ⟨fun i hi=>let ⟨H,h1,h2,h3⟩:=h.1 i hi;⟨H,h1,(hb.block H (Array.getElem?_eq_some_iff.1 h2).1).trans h2,h3⟩,h.2⟩
theorem gapTo_back {G:Nat→Prop} {w w1 w2:World} (h1:w.heap.size≤w1.heap.size) (h2:w1.heap.size≤w2.heap.size) (b:Nat) (h:gapTo (gapTo G w w1) w1 w2 b):gapTo G w w2 b:=by
 unfold gapTo at *
 rcases h with (h | h) | h
 ·exact .inl h
 ·exact .inr ⟨h.1,by omega⟩
 ·exact .inr ⟨by omega,h.2⟩
theorem wpAnyF_gap:∀ {fuel:Nat} {listed:Array Bool} {a:Act} {w:World} {G G':Nat→Prop},(∀ b,G' b→G b)→wpAnyF P md ops Q S st E obj fuel listed a w G→wpAnyF P md ops Q S st E obj fuel listed a w G'
 | 0,_,_,_,_,_,hG,h=>fun w' hb hS=>⟨fun D hD=>(h w' hb hS).1 D (hD.more fun b=>Or.imp (hG b) id),(h w' hb hS).2⟩
 | fuel+1,_,_,_,_,_,hG,h=>fun w' hb hS=>⟨fun D hD=>(h w' hb hS).1 D (hD.more fun b=>Or.imp (hG b) id),fun i hi=>let ⟨h1,o,h2,h3,h4⟩:=(h w' hb hS).2 i hi
   ⟨h1,o,h2,h3,wpOp_mono (fun a' w'' h=>⟨h.1,h.2.1,wpAnyF_gap (fun b=>Or.imp (hG b) id) h.2.2⟩) h4⟩⟩
theorem wpAnyF_later {fuel:Nat} {listed:Array Bool} {a:Act} {w w1:World} {G:Nat→Prop} (hb:Below w.heap.size w w1) (h:wpAnyF P md ops Q S st E obj fuel listed a w G):wpAnyF P md ops Q S st E obj fuel listed a w1 (gapTo G w w1):=by
 cases fuel with
 | zero=>
  intro w' hb' hS
  have h:=h w' (Qt hb hb') hS
  exact ⟨fun D hD=>h.1 D (hD.more (gapTo_back hb.size hb'.size)),h.2⟩
 | succ fuel=>
  intro w' hb' hS
  have h:=h w' (Qt hb hb') hS
  refine ⟨fun D hD=>h.1 D (hD.more (gapTo_back hb.size hb'.size)),fun i hi=>?_⟩
  obtain ⟨h1,o,h2,h3,h4⟩:=h.2 i hi
  exact ⟨h1,o,h2,h3,wpOp_mono (fun a' w'' h=>⟨h.1,h.2.1,wpAnyF_gap (gapTo_back hb.size hb'.size) h.2.2⟩) h4⟩
theorem flL_done {D:Nat→Option Nat} {i:Nat} {l:Array Bool} : ∀ E:List Nat,i∈E→(D i).isSome=true→(flL D E l).getD i true=true
 | [],h,_=>by cases h
 | k :: E,h,hs=>by
  have key:∀ (l':Array Bool),(l'.setIfInBounds i true).getD i true=true:=fun l'=>by
   rcases Nat.lt_or_ge i l'.size with h' | h'
   ·simp [h']
   ·simp [Array.getElem?_eq_none (show (l'.setIfInBounds i true).size≤i by simpa using h')]
  unfold flL
  by_cases hk:k=i
  ·subst hk
   rw [if_pos hs];exact key _
  ·have h1:i∈E:=(List.mem_cons.1 h).resolve_left (Ne.symm hk)
   split
   ·rw [getD_set_ne true hk];exact flL_done E h1 hs
   ·exact flL_done E h1 hs
theorem pend_of_ready {D:Nat→Option Nat} {i f:Nat} {l:Array Bool} (hf:f∈E) (hn:D f=none) (hl:l.getD f true=false) (hi:i∉E) (h:i∈Region.ready md ops (flL D E l)):i∈pend md ops l E:=by
 obtain ⟨h0,o,ho,hall⟩:=mem_ready.1 h
 have hlt:i<ops.size:=(Array.getElem?_eq_some_iff.1 ho).1
 have hc:E.contains i=false:=by simpa using hi
 rw [flL_getD D E (by simp [hi])] at h0
 unfold pend
 rw [List.mem_filter,List.mem_range]
 refine ⟨hlt,?_⟩
 rw [ho]
 simp only [Option.map_some,Option.getD_some,Bool.and_eq_true,Bool.not_eq_true']
 refine ⟨⟨hc,h0⟩,Array.all_eq_true'.2 fun e he=>?_,List.any_eq_true.2 ⟨f,hf,Array.all_eq_true'.2 fun e he=>?_⟩⟩
 ·cases hb:Region.binds md e with
  | false=>simp
  | true=>
   rcases flL_or D E (hall e he hb) with h | h
   ·simp [h]
   ·simp [h.1]
 ·cases hb:Region.binds md e with
  | false=>simp
  | true=>
   have h1:=hall e he hb
   by_cases hef:e.on=f
   ·rw [hef,flL_getD D E (by simp [hn])] at h1
    rcases Nat.lt_or_ge f l.size with h' | h'
    ·simp [h'] at hl h1;rw [hl] at h1;cases h1
    ·simp [Array.getElem?_eq_none h'] at h1
   ·simp [hef]
def outs (D:Nat→Option Nat):List Nat→Nat
 | []=>0
 | i :: E=>(if (D i).isSome then 0 else 1)+outs D E
theorem outs_zero {D:Nat→Option Nat} : ∀ E:List Nat,outs D E=0→∀ i∈E,∃ H,D i=some H
 | [],_,_,h=>by cases h
 | k :: E,h0,i,h=>by
  unfold outs at h0
  rcases List.mem_cons.1 h with rfl | h
  ·cases hD:D i with
   | none=>rw [hD] at h0;simp at h0
   | some H=>exact ⟨H,rfl⟩
  ·exact outs_zero E (by omega) i h
theorem outs_pos {D:Nat→Option Nat} : ∀ E:List Nat,outs D E≠0→∃ f∈E,D f=none
 | [],h=>absurd rfl h
 | k :: E,h=>by
  unfold outs at h
  cases hD:D k with
  | none=>exact ⟨k,List.mem_cons_self,hD⟩
  | some H=>
   rw [hD] at h
   obtain ⟨f,hf,hn⟩:=outs_pos E (by simpa using h)
   exact ⟨f,List.mem_cons_of_mem _ hf,hn⟩
theorem outs_same {D D':Nat→Option Nat} : ∀ E:List Nat,(∀ j∈E,D j=D' j)→outs D E=outs D' E
 | [],_=>rfl
 | i :: E,h=>by
  unfold outs
  rw [h i List.mem_cons_self,outs_same E fun j hj=>h j (List.mem_cons_of_mem _ hj)]
theorem outs_upd {D:Nat→Option Nat} {i H:Nat} : ∀ E:List Nat,floatsB md ops E=true→i∈E→D i=none→outs D E=outs (upd D i H) E+1
 | [],_,hi,_=>by cases hi
 | k :: E,hf,hi,hn=>by
  simp only [floatsB,Bool.and_eq_true,Bool.not_eq_true'] at hf
  have hk:k∉E:=by simpa using hf.1.1
  by_cases hki:k=i
  ·subst hki
   unfold outs
   rw [hn,outs_same (D:=upd D k H) (D':=D) E fun j hj=>if_neg (fun e:j=k=>hk (by rw [←e];exact hj))]
   simp [upd];omega
  ·have hi':i∈E:=(List.mem_cons.1 hi).resolve_left (Ne.symm hki)
   unfold outs
   have:upd D i H k=D k:=if_neg hki
   rw [this,outs_upd (H:=H) E hf.2 hi' hn]
   omega
theorem wpAnyF_core (hf:floatsB md ops E=true) (hrun:FloatRun P ops E obj) (hSs:∀ w w',Below w.heap.size w w'→S w→S w') (hsel:Region.noSelect ops=true)
  (hQ:∀ c (a:Act) d v w,Q (.panic c) a w→Q (.panic c) (a.put (some d) v) w) :
  ∀ (n fuel:Nat) (listed:Array Bool) (a:Act) (w:World) (G:Nat→Prop) (D:Nat→Option Nat),n=fuel+outs D E→(∀ i∈E,listed.getD i true=false) →
   (∀ i∈E,∀ H,D i=some H→w.heap[H]?=some (obj i)∧G H)→(∀ i∈E,∀ j∈E,i≠j→∀ H,D i=some H→D j≠some H)→S w →
   wpAnyF P md ops Q S st E obj fuel listed a w G→wpAnyW P md ops Q S st n (flL D E listed) (flA ops D E a) w:=by
 have full:∀ {D:Nat→Option Nat} {w:World} {G:Nat→Prop},outs D E=0→(∀ i∈E,∀ H,D i=some H→w.heap[H]?=some (obj i)∧G H)→(∀ i∈E,∀ j∈E,i≠j→∀ H,D i=some H→D j≠some H)→FlOk E obj D w (gapTo G w w):=fun h0 hD hne=>by
  refine ⟨fun i hi=>?_,fun i hi j hj hij e=>?_⟩
  ·obtain ⟨H,hH⟩:=outs_zero E h0 i hi
   exact ⟨H,hH,(hD i hi H hH).1,.inl (hD i hi H hH).2⟩
  ·obtain ⟨H,hH⟩:=outs_zero E h0 i hi
   exact hne i hi j hj hij H hH (e ▸ hH)
 intro n
 induction n with
 | zero=>
  intro fuel listed a w G D hn hl hD hne hS h
  obtain rfl:fuel=0:=by omega
  have h0:outs D E=0:=by omega
  exact (h w (Below.refl _ _) hS).1 D (full h0 hD hne)
 | succ n ih=>
  intro fuel listed a w G D hn hl hD hne hS h
  by_cases h0:outs D E=0
  ·obtain rfl:fuel=n+1:=by omega
   exact (h w (Below.refl _ _) hS).1 D (full h0 hD hne)
  ·obtain ⟨f,hfE,hfn⟩:=outs_pos E h0
   have hfr:f∈Region.ready md ops (flL D E listed):=by
    obtain ⟨o,d,ho,hg,hd,hafter⟩:=floatsB_dst E hf hfE
    exact mem_ready.2 ⟨by rw [flL_getD D E (by simp [hfn])];exact hl f hfE,o,ho,fun e he hb=>by rw [hafter e he] at hb;cases hb⟩
   refine ⟨fun he=>absurd (he ▸ hfr) (by simp),fun i hi=>?_⟩
   by_cases hiE:i∈E
   ·obtain ⟨o,d,ho,hg,hd,hafter⟩:=floatsB_dst E hf hiE
    have hDi:D i=none:=by
     cases hDi:D i with
     | none=>rfl
     | some H=>
      have h1:=(mem_ready.1 hi).1
      rw [flL_done E hiE (by rw [hDi];rfl)] at h1
      cases h1
    have hb:Below w.heap.size w (w.alloc (obj i)):=Qb
    refine wpOp_step ho fun K' hK=>?_
    rw [if_pos (show Region.wanted o _=true from by unfold Region.wanted;rw [hg])]
    unfold Oper.wp
    rw [hrun i hiE o ho]
    refine hK _ _ ⟨fun _=>hSs _ _ hb hS,?_⟩
    have hput:(flA ops D E a).put o.dst (.pointer (some ⟨w.heap.size,0,none⟩))=flA ops (upd D i w.heap.size) E a:=by
     rw [flA_upd E hf hiE hDi,ho];rfl
    rw [hput,←flL_upd E hf hiE hDi (H:=w.heap.size)]
    refine ih fuel listed a (w.alloc (obj i)) (gapTo G w (w.alloc (obj i))) (upd D i w.heap.size) (by have:=outs_upd (H:=w.heap.size) E hf hiE hDi;omega) hl (fun j hj H hH=>?_) (fun j hj k hk hjk H hH hH2=>?_) (hSs _ _ hb hS) (wpAnyF_later hb h)
    ·unfold upd at hH
     by_cases hji:j=i
     ·rw [if_pos hji] at hH
      injection hH with hH
      subst hH hji
      exact ⟨heap_alloc_new w _,.inr ⟨Nat.le_refl _,by simp⟩⟩
     ·rw [if_neg hji] at hH
      obtain ⟨h1,h2⟩:=hD j hj H hH
      exact ⟨(hb.block H (Array.getElem?_eq_some_iff.1 h1).1).trans h1,.inl h2⟩
    ·unfold upd at hH hH2
     by_cases hji:j=i
     ·have hki:k≠i:=fun e=>hjk (hji.trans e.symm)
      rw [if_pos hji] at hH
      rw [if_neg hki] at hH2
      injection hH with hH
      have h1:=(Array.getElem?_eq_some_iff.1 (hD k hk H hH2).1).1
      omega
     ·rw [if_neg hji] at hH
      by_cases hki:k=i
      ·rw [if_pos hki] at hH2
       injection hH2 with hH2
       have h1:=(Array.getElem?_eq_some_iff.1 (hD j hj H hH).1).1
       omega
      ·rw [if_neg hki] at hH2
       exact hne j hj k hk hjk H hH hH2
   ·have hpe:=pend_of_ready hfE hfn (hl f hfE) hiE hi
    cases fuel with
    | zero=>
     rw [(h w (Below.refl _ _) hS).2] at hpe
     cases hpe
    | succ fuel=>
     obtain ⟨_,o,ho,hfar,hw⟩:=(h w (Below.refl _ _) hS).2 i hpe
     refine wpOp_far ho (fun cs b=>Region.noSelect_spec hsel i o cs b ho) hQ D E hf hfar (wpOp_mono (fun a' w'' h=>⟨fun _=>h.2.1,?_⟩) hw)
     rw [←flL_set D E hiE]
     refine ih fuel (listed.setIfInBounds i true) a' w'' (gapTo G w w) D (by omega) (fun j hj=>?_) (fun j hj H hH=>?_) hne h.2.1 h.2.2
     ·rw [getD_set_ne true (fun e=>hiE (by rw [e];exact hj))];exact hl j hj
     ·obtain ⟨h1,h2⟩:=hD j hj H hH
      exact ⟨(h.1.block H (Array.getElem?_eq_some_iff.1 h1).1).trans h1,.inl h2⟩
theorem wpAnyW_float (E:List Nat) (obj:Nat→Obj) {n fuel:Nat} {listed:Array Bool} {a:Act} {w:World} (hf:floatsB md ops E=true) (hl:(E.all fun i=>!listed.getD i true)=true) (hrun:FloatRun P ops E obj) (hSs:∀ w w',Below w.heap.size w w'→S w→S w') (hsel:Region.noSelect ops=true)
  (hQ:∀ c (a:Act) d v w,Q (.panic c) a w→Q (.panic c) (a.put (some d) v) w) (hn:n=fuel+E.length) (hS:S w) (h:wpAnyF P md ops Q S st E obj fuel listed a w (fun _=>False)):wpAnyW P md ops Q S st n listed a w:=by
 have h1:∀ E:List Nat,flL (fun _=>none) E listed=listed:=fun E=>by induction E with
  | nil=>rfl
  | cons i E ih=>simpa [flL] using ih
 have h2:∀ E:List Nat,flA ops (fun _=>none) E a=a:=fun E=>by induction E with
  | nil=>rfl
  | cons i E ih=>simpa [flA] using ih
 have h3:∀ E:List Nat,outs (fun _=>none) E=E.length:=fun E=>by induction E with
  | nil=>rfl
  | cons i E ih=>simp [outs,ih];omega
 have:=wpAnyF_core (D:=fun _=>none) hf hrun hSs hsel hQ n fuel listed a w (fun _=>False) (by rw [h3];exact hn) (fun i hi=>by simpa using List.all_eq_true.1 hl i hi) (fun _ _ _ h=>by cases h) (fun _ _ _ _ _ _ h=>by cases h) hS h
 rw [h1,h2] at this
 exact this
theorem wpAnyF_one {i:Nat} {o:Oper} {fuel:Nat} {listed:Array Bool} {a:Act} {w:World} {G:Nat→Prop} (hf:floatsB md ops E=true) (hsel:Region.noSelect ops=true) (hQ:∀ c (a:Act) d v w,Q (.panic c) a w→Q (.panic c) (a.put (some d) v) w)
  (hp:pend md ops listed E = [i]∧Region.ready md ops (flAll E listed) = [i]) (hiE:E.contains i=false) (ho:ops[i]?=some o) (hfar:farFrom ops E o=true)
  (h:∀ w',Below w.heap.size w w'→S w'→∀ K':Act→World→Prop,Shut (∀ a'' w'',Below w'.heap.size w' w''→S w''→wpAnyF P md ops Q S st E obj fuel (listed.setIfInBounds i true) a'' w'' (gapTo G w w')→K' a'' w'')→if Region.wanted o (yielded ops a.tmps)=true then Oper.wp P o a w' K' Q else K' (a.put o.dst undef) w') :
  wpAnyF P md ops Q S st E obj (fuel+1) listed a w G:=by
 have hiE':i∉E:=by simpa using hiE
 intro w' hb hS
 have hop:wpOp P ops Q i (fun a' w''=>Below w'.heap.size w' w''∧S w''∧wpAnyF P md ops Q S st E obj fuel (listed.setIfInBounds i true) a' w'' (gapTo G w w')) a w':=
  wpOp_step ho fun K' hK=>h w' hb hS K' (fun a'' w'' h1 h2 h3=>hK a'' w'' ⟨h1,h2,h3⟩)
 refine ⟨fun D hD=>?_,fun j hj=>?_⟩
 ·have hall:∀ i∈E,(D i).isSome=true:=fun i hi=>let ⟨H,hH,_⟩:=hD.1 i hi;by rw [hH];rfl
  have hr:Region.ready md ops (flL D E listed) = [i]:=by rw [flL_all D E hall];exact hp.2
  refine ⟨fun h0=>absurd (hr ▸ h0) (by simp),fun j hj=>?_⟩
  rw [hr] at hj
  obtain rfl:j=i:=by simpa using hj
  refine wpOp_far ho (fun cs b=>Region.noSelect_spec hsel j o cs b ho) hQ D E hf hfar (wpOp_mono (fun a' w'' h=>⟨fun _=>h.2.1,?_⟩) hop)
  rw [←flL_set D E hiE']
  have hD':FlOk E obj D w'' (gapTo (gapTo G w w') w'' w''):=(hD.below h.1).more fun _ h=>.inl h
  cases fuel with
  | zero=>exact (h.2.2 w'' (Below.refl _ _) h.2.1).1 D hD'
  | succ fuel=>exact (h.2.2 w'' (Below.refl _ _) h.2.1).1 D hD'
 ·rw [hp.1] at hj
  obtain rfl:j=i:=by simpa using hj
  exact ⟨hiE',o,ho,hfar,hop⟩
theorem wpAnyF_land {fuel:Nat} {listed:Array Bool} {a:Act} {w:World} {G:Nat→Prop} (hp:pend md ops listed E = [])
  (h:∀ w' D,Below w.heap.size w w'→S w'→FlOk E obj D w' (gapTo G w w')→wpAnyW P md ops Q S st fuel (flAll E listed) (flA ops D E a) w'):wpAnyF P md ops Q S st E obj fuel listed a w G:=by
 have key:∀ w',Below w.heap.size w w'→S w'→∀ D,FlOk E obj D w' (gapTo G w w')→wpAnyW P md ops Q S st fuel (flL D E listed) (flA ops D E a) w':=fun w' hb hS D hD=>by
  rw [flL_all D E fun i hi=>let ⟨H,hH,_⟩:=hD.1 i hi;by rw [hH];rfl]
  exact h w' D hb hS hD
 cases fuel with
 | zero=>exact fun w' hb hS=>⟨key w' hb hS,hp⟩
 | succ fuel=>exact fun w' hb hS=>⟨key w' hb hS,fun i hi=>by rw [hp] at hi;cases hi⟩
theorem wpAnyF_land1 {i:Nat} {oi:Oper} {fuel:Nat} {listed:Array Bool} {a:Act} {w:World} {G:Nat→Prop} (hp:pend md ops listed [i] = []) (hi:ops[i]?=some oi)
  (h:∀ w' HA,Below w.heap.size w w'→S w'→w'.heap[HA]?=some (obj i)→gapTo G w w' HA→wpAnyW P md ops Q S st fuel (listed.setIfInBounds i true) (a.put oi.dst (.pointer (some ⟨HA,0,none⟩))) w'):wpAnyF P md ops Q S st [i] obj fuel listed a w G:=
 wpAnyF_land hp fun w' D hb hS hD=>by
  obtain ⟨HA,h1,h2,h3⟩:=hD.1 i (by simp)
  have:=h w' HA hb hS h2 h3
  simp only [flAll,flA,h1,hi,Option.bind_some]
  exact this
theorem pend_spec {j:Nat} {l:Array Bool} : j∈pend md ops l E↔j∉E∧l.getD j true=false∧∃ o,ops[j]?=some o∧(∀ e∈o.after,Region.binds md e=true→l.getD e.on false=true∨e.on∈E)∧∃ f∈E,∀ e∈o.after,Region.binds md e=true→e.on≠f:=by
 have bx:∀ {p q:Bool},(!p || q)=true↔(p=true→q=true):=by decide
 unfold pend
 rw [List.mem_filter,List.mem_range]
 cases ho:ops[j]? with
 | none=>simp
 | some o=>
  have hlt:j<ops.size:=(Array.getElem?_eq_some_iff.1 ho).1
  simp only [hlt,true_and,Option.map_some,Option.getD_some,Bool.and_eq_true,Bool.not_eq_true',Array.all_eq_true_iff_forall_mem,Bool.or_assoc,bx,Bool.or_eq_true,List.any_eq_true,bne_iff_ne,ne_eq,List.contains_eq_mem,decide_eq_false_iff_not,decide_eq_true_eq,Option.some.injEq,exists_eq_left',and_assoc]
def gateB (md:Region.Mode) (ops:Array Oper) (st:Nat) (E:List Nat) (listed:Array Bool) (i:Nat):Bool:=(List.range ops.size).any fun k=>waitsFor md ops k i && !(k==i) && (st==k || waitsFor md ops st k) && !E.contains k && !listed.getD k true
def takeB (md:Region.Mode) (ops:Array Oper) (st:Nat) (E:List Nat) (listed:Array Bool) (i:Nat):Bool:=Region.noSelect ops && Region.free md ops listed i && (Region.ready md ops listed).contains i && gateB md ops st E listed i && !(st==i) && !E.contains i && !E.contains st && (match ops[i]? with | some o=>farFrom ops E o | none=>false) && !listed.getD st true && floatsB md ops E
theorem takeB_spec {i:Nat} {oi:Oper} {listed:Array Bool} (hi:ops[i]?=some oi) (h:takeB md ops st E listed i=true) :
  Region.noSelect ops=true∧floatsB md ops E=true∧Region.free md ops listed i=true∧∃ k,((Region.ready md ops listed).contains i && waitsFor md ops k i && !(k==i) && (st==k || waitsFor md ops st k) && !(st==i) && !E.contains i && !E.contains k && !E.contains st && farFrom ops E oi && !listed.getD k true && !listed.getD st true)=true:=by
 unfold takeB gateB at h
 rw [hi] at h
 simp only [Bool.and_eq_true,List.any_eq_true] at h
 obtain ⟨⟨⟨⟨⟨⟨⟨⟨⟨h1,h2⟩,h3⟩,k,hk0,hk⟩,h5⟩,h6⟩,h7⟩,h8⟩,h9⟩,h10⟩:=h
 obtain ⟨⟨⟨⟨k1,k2⟩,k3⟩,k4⟩,k5⟩:=hk
 refine ⟨h1,h10,h2,k,?_⟩
 simp only [h3,k1,k2,k3,h5,h6,k4,h7,h8,k5,h9,Bool.and_self]
theorem tkW (i:Nat) {oi:Oper} {v:Value} {fuel:Nat} {listed:Array Bool} {a:Act} {w:World} (hS:S w) (hi:ops[i]?=some oi) (hB:takeB md ops st [] listed i=true) (hQ:∀ c a w,Q (.panic c) (a.put oi.dst v) w→Q (.panic c) a w)
  (hg:Region.wanted oi (yielded ops a.tmps)=true) (hy:∀ z,S z→(execOp a.eval oi).run P z = .ok (.value v) z) (h:wpAnyW P md ops Q S st fuel (listed.setIfInBounds i true) (a.put oi.dst v) w):wpAnyW P md ops Q S st (fuel+1) listed a w:=by
 obtain ⟨h1,h2,h3,k,h4⟩:=takeB_spec hi hB
 simp only [Bool.and_eq_true] at h4
 obtain ⟨⟨⟨⟨⟨⟨⟨⟨⟨⟨k1,k2⟩,k3⟩,k4⟩,k5⟩,_⟩,_⟩,_⟩,_⟩,k6⟩,k7⟩:=h4
 exact wpAnyW_take k hi h1 h3 k1 (by simp only [k2,k3,k4,k5,k6,k7,Bool.and_self]) hQ (.inl ⟨hg,hy⟩) hS h
theorem tZ0 (i : Nat) {oi : Oper} {v : Value} {fuel : Nat} {listed : Array Bool} {a : Act} {w : World} (hS : S w) (h : wpAnyW P md ops Q S st fuel (listed.setIfInBounds i true) (a.put oi.dst v) w) (hi : ops[i]? = some oi := by rfl) (hB : takeB md ops st [] listed i = true := by kernel_rfl) (hQ : ∀ c a w, Q (.panic c) (a.put oi.dst v) w → Q (.panic c) a w := by exact fun _ _ _ h => h) (hg : Region.wanted oi (yielded ops a.tmps) = true := by kernel_rfl)
 (y : ∀ z, S z → (execOp a.eval oi).run P z = .ok (.value v) z := by (intro _ _; go_simp; rfl)) : wpAnyW P md ops Q S st (fuel + 1) listed a w := tkW i hS hi hB hQ hg y h
theorem wp_region_U {id:Nat} {a:Act} {w:World} (st:Nat) (hm:P.follows .mixedOrders=true)
  (h:∀ z,Below w.heap.size w z→z.heap.size=w.heap.size→wpAnyW P .any ops Q (fun z=>Below w.heap.size w z) st ops.size (Array.replicate ops.size false) a z):(Code.region id ops true).wp P Q a w:=
 wp_region_wait _ st hm (h w.drew (Below.refl _ _).drew rfl)
theorem FloatRun.one {i:Nat} {oi:Oper} {bi:Obj} (hi:ops[i]?=some oi) (ri:∀ (a:Act) (w:World),(execOp a.eval oi).run P w = .ok (.value (.pointer (some ⟨w.heap.size,0,none⟩))) (w.alloc bi)):FloatRun P ops [i] (fun _=>bi):=fun q hq o ho=>by
 obtain rfl:q=i:=by simpa using hq
 rw [hi] at ho
 injection ho with ho
 exact ho ▸ ri
end
end
section
open Go.RowKit Hb Hf
attribute [local go_sem ↓] Go.wp_at_zero Go.wp_at_succ
theorem getD_out' {l:List Nat} {k:Nat} (h:l.length≤k):l.getD k 0=0:=by
 rw [List.getD_eq_getElem?_getD,List.getElem?_eq_none h];rfl
theorem limb_any {B:Nat} {A:Option Addr} {l:List Nat} {n c:Nat} {w:World} (hs:SlU w B A n c l) (k:Nat) (hk:k<4611686018427387904) :
  Calls Tryz.prog 85 #[.slice A n c,.int .i64 (k:Int)] w fun e w'=>e = .returned (.int .u64 ((l.getD k 0:Nat):Int))∧w=w':=by
 have hb:=hs.dig.getD (by decide) k
 have hlen:=hs.len
 have hm:=Nat.le_trans hs.cap hs.max
 unfold maxLen at hm
 by_cases h:k<n
 ·obtain ⟨b,o,rfl,_,hcell⟩:=hs.at_ (by omega)
  have hx:=hcell k h
  generalize l.getD k 0=x at *
  have h1:(k:Int)<(n:Int):=by omega
  have h0:(0:Int)≤(k:Int):=by omega
  have HV:=Qh (show IntKind.u64.wrap (x:Int)=(x:Int) from IntWalk.u64_in _ (by omega))
  clear hs hcell hlen
  go_enter Tryz.func85,Tryz.ntmps85
  go_wp2
  go_ret
  first | exact ⟨rfl,rfl⟩ | exact ⟨by rw [HV.out];rfl,rfl⟩
 ·have hz:=getD_out' (l:=l) (k:=k) (by omega)
  rw [hz]
  have h1:¬(k:Int)<(n:Int):=by omega
  clear hs hlen hz hb
  go_enter Tryz.func85,Tryz.ntmps85
  go_wp2
  go_ret
  exact ⟨rfl,rfl⟩
structure PBlk (w:World) (G N k:Nat) (o:List Nat) (wr:World):Prop where
 len:o.length=k
 dig:Dig W o
 own:OwnU wr G (some ⟨G,0,none⟩) N N (u32s (o ++ List.replicate (N - k) 0))
 bel:Below G w wr
theorem PBlk.facts {w wr:World} {G N k:Nat} {o:List Nat} (h:PBlk w G N k o wr) (hk:k<N):(∃ u,wr.cell? ⟨G,k,none⟩=some u)∧wr.frozen? ⟨G,k,none⟩=false:=by
 have h1:=h.own.cell (j:=k) (by omega)
 have h2:=h.own.length
 rw [List.getElem?_eq_getElem (by omega)] at h1
 exact ⟨⟨_,h1⟩,h.own.frozen k⟩
theorem PBlk.drewN {w wr:World} {G N k:Nat} {o:List Nat} (h:PBlk w G N k o wr) (m:Nat):PBlk w G N k o (wr.drewN m):=⟨h.len,h.dig,h.own,belowN h.bel m⟩
theorem PBlk.step {w wr:World} {G N k:Nat} {o:List Nat} (h:PBlk w G N k o wr) (hk:k<N) {t:Nat} (ht:t<4294967296):PBlk w G N (k+1) (o ++ [t]) (wr.setCell ⟨G,k,none⟩ (.int .u32 (t:Int))):=by
 refine ⟨by simp [h.len],h.dig.append (Dig.cons ht (Dig.nil _)),?_,h.bel.setCell (Nat.le_refl _) _⟩
 have:=h.own.set_ k (.int .u32 (t:Int))
 rw [u32s_set,set_zeros' h.len (by omega)] at this
 exact this
theorem PBlk.start {w w1:World} {N:Nat} (hN:N≤maxLen) (hb:Below w1.heap.size w w1):PBlk w w1.heap.size N 0 [] (w1.alloc (.cells (madeCells #[.int .u32 0] N) 101)):=by
 refine ⟨rfl,Dig.nil _,?_,hb.alloc (Nat.le_refl _) _⟩
 have:=Own.made w1 (.int .u32 0) N 101 (B:=w1.heap.size) (Nat.le_refl _) hN
 rw [u32s_zeros] at this
 simpa using this
theorem PBlk.full {w wr:World} {G N:Nat} {o:List Nat} (h:PBlk w G N N o wr):OwnU wr G (some ⟨G,0,none⟩) N N (u32s o):=by
 have:=h.own
 rwa [Nat.sub_self,List.replicate_zero,List.append_nil] at this
theorem PBlk.rebase {w wr w5:World} {G N k:Nat} {o:List Nat} (h:PBlk w G N k o wr) (hb:w5.heap[G]?=wr.heap[G]?):PBlk w5 G N k o w5:=by
 refine ⟨h.len,h.dig,⟨h.own.1,?_⟩,Below.refl _ _⟩
 rcases h.own.2 with h1 | ⟨g,cap,cur,h1,h2,h3,h4⟩
 ·exact .inl h1
 ·obtain rfl:g=G:=by injection h1 with a;injection a with a;injection a with a;exact a.symm
  exact .inr ⟨g,cap,cur,h1,h2,hb.trans h3,h4⟩
def PAdd (w:World) (G:Nat) (l m:List Nat) (N k:Nat) (cv:Value) (wr:World):Prop:=
 ∃ (o:List Nat) (c:Nat),cv = .int .u64 (c:Int)∧c≤1∧nv W o+W ^ k * c=nvp W l k+nvp W m k∧PBlk w G N k o wr
def PSub (w:World) (G:Nat) (l m:List Nat) (N k:Nat) (cv:Value) (wr:World):Prop:=
 ∃ (o:List Nat) (c:Nat),cv = .int .u64 (c:Int)∧c≤1∧nv W o+nvp W m k=nvp W l k+W ^ k * c∧PBlk w G N k o wr
theorem PAdd.step {w wr:World} {G:Nat} {l m:List Nat} {N k c x y:Nat} {o:List Nat} (hc:c≤1) (hv:nv W o+W ^ k * c=nvp W l k+nvp W m k) (hb:PBlk w G N k o wr) (hk:k<N) (hx:l.getD k 0=x) (hy:m.getD k 0=y) (h1:x<4294967296) (h2:y<4294967296) :
  PAdd w G l m N (k+1) (.int .u64 (((x+y+c) / 4294967296:Nat):Int)) (wr.setCell ⟨G,k,none⟩ (.int .u32 (((x+y+c) % 4294967296:Nat):Int))):=by
 subst hx;subst hy
 refine ⟨_,_,rfl,by omega,?_,hb.step hk (Nat.mod_lt _ (by decide))⟩
 rw [nv_snoc,nvp_succ,nvp_succ,hb.len]
 exact add_step hv
def bw (x y c:Nat):Nat:=if x<y+c then 1 else 0
theorem bw_spec (x y c:Nat):(x<y+c∧bw x y c=1)∨(y+c≤x∧bw x y c=0):=by
 unfold bw
 by_cases h:x<y+c
 ·exact .inl ⟨h,if_pos h⟩
 ·exact .inr ⟨by omega,if_neg h⟩
theorem PSub.step {w wr:World} {G:Nat} {l m:List Nat} {N k c x y:Nat} {o:List Nat} (hc:c≤1) (hv:nv W o+nvp W m k=nvp W l k+W ^ k * c) (hb:PBlk w G N k o wr) (hk:k<N) (hx:l.getD k 0=x) (hy:m.getD k 0=y) (h1:x<4294967296) (h2:y<4294967296) :
  PSub w G l m N (k+1) (.int .u64 ((bw x y c:Nat):Int)) (wr.setCell ⟨G,k,none⟩ (.int .u32 (((x+4294967296 - y - c) % 4294967296:Nat):Int))):=by
 subst hx;subst hy
 have hs:=bw_spec (l.getD k 0) (m.getD k 0) c
 refine ⟨_,_,rfl,by omega,?_,hb.step hk (Nat.mod_lt _ (by decide))⟩
 rw [nv_snoc,nvp_succ,nvp_succ,hb.len]
 refine sub_step hv ?_
 show (l.getD k 0+4294967296 - m.getD k 0 - c) % 4294967296+m.getD k 0+c=l.getD k 0+4294967296 * bw (l.getD k 0) (m.getD k 0) c
 omega
theorem no_carry {X Y a b d c:Nat} (hY:X * 2≤Y) (h1:a<X) (h2:b<X) (hv:d+Y * c=a+b) (hc:c≤1):d=a+b:=by
 rcases Nat.eq_zero_or_pos c with h | h
 ·subst h;omega
 ·obtain rfl:c=1:=by omega
  rw [Nat.mul_one] at hv
  omega
theorem PAdd.end_ {w wr:World} {G:Nat} {l m:List Nat} {N:Nat} {cv:Value} (h:PAdd w G l m N N cv wr) (hl:l.length<N) (hm:m.length<N) (dl:Dig W l) (dm:Dig W m):∃ o,PBlk w G N N o wr∧nv W o=nv W l+nv W m:=by
 obtain ⟨o,c,_,hc,hv,hb⟩:=h
 rw [nvp_all (Nat.le_of_lt hl),nvp_all (Nat.le_of_lt hm)] at hv
 have h1:nv W l<W ^ (N - 1):=Ql (nv_lt dl) (Nat.pow_le_pow_right (by decide) (by omega))
 have h2:nv W m<W ^ (N - 1):=Ql (nv_lt dm) (Nat.pow_le_pow_right (by decide) (by omega))
 refine ⟨o,hb,no_carry ?_ h1 h2 hv hc⟩
 have e:W ^ N=W ^ (N - 1) * W:=by rw [←Nat.pow_succ];congr 1;omega
 rw [e]
 exact Nat.mul_le_mul_left _ (by decide)
theorem PSub.end_ {w wr:World} {G:Nat} {l m:List Nat} {N:Nat} {cv:Value} (h:PSub w G l m N N cv wr) (hl:l.length<N) (hm:m.length<N) (hle:nv W m≤nv W l):∃ o,PBlk w G N N o wr∧nv W o=nv W l - nv W m:=by
 obtain ⟨o,c,_,hc,hv,hb⟩:=h
 rw [nvp_all (Nat.le_of_lt hl),nvp_all (Nat.le_of_lt hm)] at hv
 have hlt:=nv_lt hb.dig
 rw [hb.len] at hlt
 refine ⟨o,hb,?_⟩
 rcases Nat.eq_zero_or_pos c with h | h
 ·subst h;omega
 ·obtain rfl:c=1:=by omega
  rw [Nat.mul_one] at hv
  omega
def IBox (w:World) (g:Nat) (x:Bool) (y:Value):Prop:=w.heap[g]?=some (.cells #[.bool x,y] 56 (0,0))
section
variable {w w':World} {g:Nat} {x:Bool} {y:Value}
theorem IBox.lt (h:IBox w g x y):g<w.heap.size:=(Array.getElem?_eq_some_iff.1 h).1
theorem IBox.below (h:IBox w g x y) (hb:Below w.heap.size w w'):IBox w' g x y:=(hb.block g h.lt).trans h
theorem IBox.cells (h:IBox w g x y):w.cell? ⟨g,0,none⟩=some (.bool x)∧w.cell? ⟨g,1,none⟩=some y:=by
 refine ⟨?_,?_⟩ <;> (rw [cell_of_row w g _ _ _ (0,0) h];rfl)
theorem IBox.frozens (h:IBox w g x y):w.frozen? ⟨g,0,none⟩=false∧w.frozen? ⟨g,1,none⟩=false:=by
 unfold IBox at h;simp [World.frozen?,h]
theorem IBox.gro {N:Nat} (h:IBox w g x y) (hg:w.grownBy w' (some N)) (hn:g≠N):IBox w' g x y:=(hg.block g h.lt (fun e=>by injection e with e;exact hn e)).trans h
theorem IBox.set2 (h:IBox w g x y) (x':Bool) (y':Value):IBox ((w.setCell ⟨g,0,none⟩ (.bool x')).setCell ⟨g,1,none⟩ y') g x' y'∧w.grownBy ((w.setCell ⟨g,0,none⟩ (.bool x')).setCell ⟨g,1,none⟩ y') (some g):=by
 refine ⟨?_,gb_setCell (gb_setCell (gb_refl _ _) _ _) _ _⟩
 unfold IBox at h ⊢
 simp [World.setCell,Array.getElem?_modify,h]
end
theorem IBox.keepB {w w':World} {g B:Nat} {x:Bool} {y:Value} (h:IBox w g x y) (hb:Below B w w') (hg:g<B):IBox w' g x y:=(hb.block g hg).trans h
theorem plus_any (na nb:Bool) {B B':Nat} {A A':Option Addr} {l m:List Nat} {n c n' c':Nat} {w:World} (hs:SlU w B A n c l) (ht:SlU w B' A' n' c' m) (hn:n≤33554432) (hn':n'≤33554432) (hB:B≤w.heap.size) (hB':B'≤w.heap.size) :
  Calls Tryz.prog 51 #[.agg #[.bool na,.slice A n c],.agg #[.bool nb,.slice A' n' c']] w (PostI w (ival na l+ival nb m)):=by
 have HN1:=Qh (fun w1 (hb:Below w.heap.size w w1)=>norm_any na (hs.below (C:=w.heap.size) hb hB) (by omega) (Nat.le_trans hB hb.size))
 have HN2:=Qh (fun w1 (hb:Below w.heap.size w w1)=>norm_any nb (ht.below (C:=w.heap.size) hb hB') (by omega) (Nat.le_trans hB' hb.size))
 have hl1:(digs W (ival na l).natAbs).length≤n:=by
  rw [ival_natAbs];refine digs_length_le (by decide) ?_;rw [←hs.len];exact nv_lt hs.dig
 have hl2:(digs W (ival nb m).natAbs).length≤n':=by
  rw [ival_natAbs];refine digs_length_le (by decide) ?_;rw [←ht.len];exact nv_lt ht.dig
 have i1:IBox (w.alloc (.cells #[.bool na,.slice A n c] 56)) w.heap.size na (.slice A n c):=heap_alloc_new w _
 have i2:IBox ((w.alloc (.cells #[.bool na,.slice A n c] 56)).alloc (.cells #[.bool nb,.slice A' n' c'] 56)) (w.alloc (.cells #[.bool na,.slice A n c] 56)).heap.size nb (.slice A' n' c'):=heap_alloc_new _ _
 have i3:IBox (((w.alloc (.cells #[.bool na,.slice A n c] 56)).alloc (.cells #[.bool nb,.slice A' n' c'] 56)).alloc (.cells #[.bool false,.slice none 0 0] 56)) ((w.alloc (.cells #[.bool na,.slice A n c] 56)).alloc (.cells #[.bool nb,.slice A' n' c'] 56)).heap.size false (.slice none 0 0):=heap_alloc_new _ _
 have j1:=(i1.below ((Below.refl _ _).alloc (Nat.le_refl _) (.cells #[.bool nb,.slice A' n' c'] 56))).below ((Below.refl _ _).alloc (Nat.le_refl _) (.cells #[.bool false,.slice none 0 0] 56))
 have j2:=i2.below ((Below.refl _ _).alloc (Nat.le_refl _) (.cells #[.bool false,.slice none 0 0] 56))
 simp only [World.size_alloc] at j2 i3
 have HX:=Qh (Qa j1 (Qa j2 i3))
 have HB0:=Qh ((((Below.refl w.heap.size w).alloc (Nat.le_refl _) (.cells #[.bool na,.slice A n c] 56)).alloc (by simp) (.cells #[.bool nb,.slice A' n' c'] 56)).alloc (by simp;omega) (.cells #[.bool false,.slice none 0 0] 56))
 clear hs ht hB hB' i1 i2 i3 j1 j2
 generalize ival na l=X at *
 generalize ival nb m=Y at *
 have HL:=Qh (show (digs W X.natAbs).length≤33554432∧(digs W Y.natAbs).length≤33554432 by omega)
 clear hl1 hl2 hn hn'
 go_enter Tryz.func51,Tryz.ntmps51
 go_upto_region 1 with fail
 refine wp_region_U 4 (by kernel_rfl) (fun z0 K0 hs0=>?_)
 refine tZ0 0 K0 ?_ (y:=fun z5 hS=>by obtain ⟨q0,q1⟩:=(HX.out.1.below hS).cells;go_simp;rfl)
 refine tZ0 2 K0 ?_ (y:=fun z5 hS=>by obtain ⟨q0,q1⟩:=(HX.out.2.1.below hS).cells;go_simp;rfl)
 refine uW 1 fun K hK=>?_
 go_simp
 (with_reducible refine (HN1.out _ (HB0.out.trans (K0.mono HB0.out.size))).mono ?_)
 rintro e z1 ⟨v,rfl,⟨A1,c1,rfl,ho1⟩,hb1⟩
 have K1:=Qt K0 hb1
 refine hK.out _ _ (fun _=>K1) ?_
 refine uW 3 fun K hK=>?_
 go_simp
 (with_reducible refine (HN2.out _ (HB0.out.trans (K1.mono HB0.out.size))).mono ?_)
 rintro e z2 ⟨v,rfl,⟨A2,c2,rfl,ho2⟩,hb2⟩
 have K2:=Qt K1 hb2
 refine hK.out _ _ (fun _=>K2) ?_
 have hz1:=K0.size
 have hz2:=hb1.size
 have hz3:=hb2.size
 simp only [World.size_alloc] at hz1
 have b1:=HX.out.1.below K2
 have b2:=HX.out.2.1.below K2
 have b3:=HX.out.2.2.below K2
 have HS1:=Qh (b1.set2 (decide (X<0)) (.slice A1 (digs W X.natAbs).length c1))
 have HS2:=Qh ((b2.gro HS1.out.2 (by omega)).set2 (decide (Y<0)) (.slice A2 (digs W Y.natAbs).length c2))
 have HS3:=Qh (HS1.out.1.gro HS2.out.2 (by omega))
 have HS4:=Qh ((b3.gro HS1.out.2 (by omega)).gro HS2.out.2 (by omega))
 have HO1:=Qh ((LimP.of_own (Own.below ho1 hb2 (Nat.le_refl _)) (dig_digs (by decide) _)).keep (Q:=fun x=>z0.heap.size≤x∧x<z2.heap.size) (w':=((((z2.setCell ⟨w.heap.size,0,none⟩ (.bool (decide (X<0)))).setCell ⟨w.heap.size,1,none⟩ (.slice A1 (digs W X.natAbs).length c1)).setCell ⟨w.heap.size+1,0,none⟩ (.bool (decide (Y<0)))).setCell ⟨w.heap.size+1,1,none⟩ (.slice A2 (digs W Y.natAbs).length c2))) (fun x hx=>⟨hx,(HS2.out.2.block x (Ql hx.2 HS1.out.2.size) (fun e=>by injection e with e;have:=hx.1;omega)).trans (HS1.out.2.block x hx.2 (fun e=>by injection e with e;have:=hx.1;omega))⟩))
 have HO2:=Qh ((LimP.of_own ho2 (dig_digs (by decide) _)).keep (Q:=fun x=>z0.heap.size≤x∧x<z2.heap.size) (w':=((((z2.setCell ⟨w.heap.size,0,none⟩ (.bool (decide (X<0)))).setCell ⟨w.heap.size,1,none⟩ (.slice A1 (digs W X.natAbs).length c1)).setCell ⟨w.heap.size+1,0,none⟩ (.bool (decide (Y<0)))).setCell ⟨w.heap.size+1,1,none⟩ (.slice A2 (digs W Y.natAbs).length c2))) (fun x hx=>⟨⟨by have:=hx.1;omega,hx.2⟩,(HS2.out.2.block x (Ql hx.2 HS1.out.2.size) (fun e=>by injection e with e;have:=hx.1;omega)).trans (HS1.out.2.block x hx.2 (fun e=>by injection e with e;have:=hx.1;omega))⟩))
 have HBw:=Qh ((((Qt HB0.out K2).grown HS1.out.2 (by first | omega | (simp;omega)) (Qg (by omega))).grown HS2.out.2 (by first | omega | (simp;omega)) (Qg (by omega))))
 have HZ:=Qh (show w.heap.size+1+1+1≤z0.heap.size∧z0.heap.size≤z2.heap.size∧z2.heap.size=(((((z2.setCell ⟨w.heap.size,0,none⟩ (.bool (decide (X<0)))).setCell ⟨w.heap.size,1,none⟩ (.slice A1 (digs W X.natAbs).length c1)).setCell ⟨w.heap.size+1,0,none⟩ (.bool (decide (Y<0)))).setCell ⟨w.heap.size+1,1,none⟩ (.slice A2 (digs W Y.natAbs).length c2))).heap.size from ⟨by omega,by omega,by simp⟩)
 obtain ⟨y0,y1⟩:=b1.cells
 obtain ⟨y2,y3⟩:=b2.cells
 obtain ⟨f0,f1⟩:=b1.frozens
 obtain ⟨f2,f3⟩:=b2.frozens
 refine uW 4 fun K hK=>?_
 go_simp
 refine hK.out _ _ (fun h=>absurd h (by simp)) ?_
 refine uW 5 fun K hK=>?_
 go_simp
 refine hK.out _ _ (fun h=>absurd h (by simp)) ?_
 refine wpAnyW_done (by kernel_rfl) ?_ _
 generalize ((((z2.setCell ⟨w.heap.size,0,none⟩ (.bool (decide (X<0)))).setCell ⟨w.heap.size,1,none⟩ (.slice A1 (digs W X.natAbs).length c1)).setCell ⟨w.heap.size+1,0,none⟩ (.bool (decide (Y<0)))).setCell ⟨w.heap.size+1,1,none⟩ (.slice A2 (digs W Y.natAbs).length c2))=w2 at *
 clear ho1 ho2 hb1 hb2 K0 K1 K2 b1 b2 b3 HX HN1 HN2 HS1 HB0 hz1 hz2 hz3 hs0 y0 y1 y2 y3 f0 f1 f2 f3
 obtain ⟨LX,hLX⟩:∃ LX,digs W X.natAbs=LX:=⟨_,rfl⟩
 obtain ⟨LY,hLY⟩:∃ LY,digs W Y.natAbs=LY:=⟨_,rfl⟩
 rw [hLX] at HO1 HS3 HL
 rw [hLY] at HO2 HS2 HL
 rw [hLX,hLY]
 have HVX:=Qh (show nv W LX=X.natAbs by rw [←hLX,nv_digs (by decide)])
 have HVY:=Qh (show nv W LY=Y.natAbs by rw [←hLY,nv_digs (by decide)])
 obtain ⟨p,hp⟩:∃ p,LX.length=p:=⟨_,rfl⟩
 obtain ⟨q,hq⟩:∃ q,LY.length=q:=⟨_,rfl⟩
 rw [hp] at HO1 HS3 HL
 rw [hq] at HO2 HS2 HL
 rw [hp,hq]
 have HP:=Qh (Qa hp hq)
 have HB2:=Qh HS2.out.1
 obtain ⟨x0,x1⟩:=HS3.out.cells
 obtain ⟨x2,x3⟩:=HB2.out.cells
 have hp9:=HL.out.1
 have hq9:=HL.out.2
 clear hLX hLY hp hq HS2
 generalize hsx:decide (X<0)=sx at *
 generalize hsy:decide (Y<0)=sy at *
 have HSX:=Qh (Qa hsx hsy)
 clear hsx hsy
 obtain ⟨N,hN⟩:∃ N:Nat,max p q+1=N:=⟨_,rfl⟩
 have hNI:max (p:Int) (q:Int)+1=(N:Int):=by omega
 have hmk:=fun w=>makeU N (by omega) w
 rw [←hNI] at hmk
 have hpN:p<N:=by omega
 have hqN:q<N:=by omega
 have hN9:N≤33554433:=by omega
 have HNI:=Qh hNI
 clear hN hNI
 have g0:w.heap.size<w2.heap.size:=by have:=HZ.out;omega
 have g1:w.heap.size+1<w2.heap.size:=by have:=HZ.out;omega
 have g2:w.heap.size+1+1<w2.heap.size:=by have:=HZ.out;omega
 have HSt:=Qh (PBlk.start (w:=w2) (w1:=w2) (N:=N) (by unfold maxLen;omega) (Below.refl _ _))
 by_cases hxy:sx=sy
 ·subst hxy
  go_wp2_with fail
  go_loopw [7,34] (fun cv i wr=>∃ k:Nat,k≤N∧i = .int .i64 k∧PAdd w2 w2.heap.size LX LY N k cv wr) (fun _ i _=>N - (intOf i).toNat)
  case atStart=>exact ⟨0,Nat.zero_le _,rfl,[],0,rfl,by omega,by simp [nv,nvp_zero],HSt.out⟩
  case round=>
   obtain ⟨k,hk,rfl,o,cc,rfl,hcc,hv,hblk⟩:=hrel
   have HR:=Qh (Qa hv hblk)
   have z1:=(hblk.bel.cell (p:=⟨w.heap.size,1,none⟩) g0).trans x1
   have z3:=(hblk.bel.cell (p:=⟨w.heap.size+1,1,none⟩) g1).trans x3
   have z0:=(hblk.bel.cell (p:=⟨w.heap.size,0,none⟩) g0).trans x0
   by_cases hkN:k<N
   ·obtain ⟨⟨u,hcu⟩,hfz⟩:=hblk.facts hkN
    obtain ⟨x,hx⟩:∃ x,LX.getD k 0=x:=⟨_,rfl⟩
    obtain ⟨y,hy⟩:∃ y,LY.getD k 0=y:=⟨_,rfl⟩
    have hxb:x<4294967296:=by rw [←hx];exact HO1.out.dig.getD (by decide) k
    have hyb:y<4294967296:=by rw [←hy];exact HO2.out.dig.getD (by decide) k
    have HL1:=Qh (fun m=>limb_any (((HO1.out.sl (B:=w2.heap.size) (fun b hb=>by have:=hb.2;have:=HZ.out;omega)).below hblk.bel (Nat.le_refl _)).below (belowN (Below.refl w2.heap.size wr) m) (Nat.le_refl _)) k (by omega))
    have HL2:=Qh (fun m=>limb_any (((HO2.out.sl (B:=w2.heap.size) (fun b hb=>by have:=hb.2;have:=HZ.out;omega)).below hblk.bel (Nat.le_refl _)).below (belowN (Below.refl w2.heap.size wr) m) (Nat.le_refl _)) k (by omega))
    rw [hx] at HL1
    rw [hy] at HL2
    have HS:=Qh (fun m=>PAdd.step hcc hv (hblk.drewN m) hkN hx hy hxb hyb)
    have hki:(k:Int)<(N:Int):=by omega
    have hk0:(0:Int)≤(k:Int):=by omega
    clear hv hblk hx hy HR hmk
    go_wp2_with fail
    go_quiet (first | (go_at_call 85;first | (with_reducible exact quiet_left (HL1.out _)) | (with_reducible exact quiet_left (HL2.out _))))
    go_wp2_with fail
    go_roundw
    case rel=>exact ⟨k+1,by omega,by go_num,HS.out _⟩
    case measure=>simp [intOf];omega
   ·obtain rfl:k=N:=by omega
    obtain ⟨o2,hb2,hv2⟩:=PAdd.end_ ⟨o,cc,rfl,hcc,hv,hblk⟩ (by have:=HP.out.1;omega) (by have:=HP.out.2;omega) HO1.out.dig HO2.out.dig
    have HVal:=Qh (show ival sx o2=X+Y by
     have e1:=HSX.out.1
     have e2:=HSX.out.2
     rw [HVX.out,HVY.out] at hv2
     unfold ival
     rw [hv2]
     cases sx
     ·have:=of_decide_eq_false e1
      have:=of_decide_eq_false e2
      simp
      omega
     ·have:=of_decide_eq_true e1
      have:=of_decide_eq_true e2
      simp
      omega)
    have HRb:=Qh (IBox.keepB HS4.out hblk.bel g2)
    have HN3:=Qh (norm_any sx (hb2.full.sl hb2.dig hb2.len) (by omega) (Nat.le_refl _))
    rw [HVal.out] at HN3
    have hki:¬(k:Int)<(k:Int):=by omega
    have hr3:=HRb.out
    have HBe:=Qh hblk.bel
    clear hv hblk HR hmk hv2 hb2 HVal
    generalize X+Y=Z at *
    go_wp2_with (go_at_call 84;(with_reducible refine HN3.out.mono ?_);rintro e w4 ⟨v,rfl,⟨A3,c3,rfl,ho3⟩,hb4⟩;have HO3:=Qh ho3;have HB4:=Qh hb4;have HR4:=Qh (HRb.out.below hb4);clear ho3 hb4 hr3;obtain ⟨r0,r1⟩:=HR4.out.cells;obtain ⟨f0,f1⟩:=HR4.out.frozens)
    have hz4:=HB4.out.size
    have hz5:=HBe.out.size
    have hw4:Below w.heap.size w w4:=(HBw.out.trans (HBe.out.mono (by omega))).trans (HB4.out.mono (by omega))
    have hr:=ResI.stored (w:=w) (g:=w.heap.size+1+1) (u:=.bool (decide (Z<0))) (u':=.slice A3 (digs W Z.natAbs).length c3) ⟨A3,c3,rfl,HO3.out⟩ hw4 (by omega) (by omega)
    have hS:=HR4.out.set2 (decide (Z<0)) (.slice A3 (digs W Z.natAbs).length c3)
    generalize ((w4.setCell ⟨w.heap.size+1+1,0,none⟩ (.bool (decide (Z<0)))).setCell ⟨w.heap.size+1+1,1,none⟩ (.slice A3 (digs W Z.natAbs).length c3))=w6 at *
    obtain ⟨s0,s1⟩:=hS.1.cells
    exact bodyPost_ret (v:=.agg #[.bool (decide (Z<0)),.slice A3 (digs W Z.natAbs).length c3]) (by simp [results,Tryz.results51,go_sem,s0,s1]) rfl ⟨_,rfl,hr.1,hr.2⟩
 ·have hb:(sx==sy)=false:=beq_eq_false_iff_ne.2 hxy
  have HC:=Qh (fun w1 (h1:Below w2.heap.size w2 w1)=>Cmp_any false false ((HO1.out.sl (B:=w2.heap.size) (fun b hb=>by have:=hb.2;have:=HZ.out;omega)).below h1 (Nat.le_refl _)) ((HO2.out.sl (B:=w2.heap.size) (fun b hb=>by have:=hb.2;have:=HZ.out;omega)).below h1 (Nat.le_refl _)) h1.size h1.size)
  have e1:ival false LX=(X.natAbs:Int):=by rw [←HVX.out];rfl
  have e2:ival false LY=(Y.natAbs:Int):=by rw [←HVY.out];rfl
  rw [e1,e2] at HC
  clear e1 e2
  have hlt:X.natAbs<Y.natAbs∨Y.natAbs≤X.natAbs:=by omega
  rcases hlt with hlt | hlt
  focus
   rw [cmpZ_lt (by omega)] at HC
   go_wp2_with (go_at_call 30;(with_reducible refine (HC.out _ HSt.out.bel).mono ?_);rintro e w4 ⟨rfl,hb4⟩;have h4:Below w2.heap.size w2 w4:=HSt.out.bel.trans (hb4.mono (by simp));have H4:=Qh h4;have HBK4:=Qh (hb4.block w2.heap.size (by simp));have HZ4:=Qh hb4.size;clear hb4 h4;obtain ⟨y0,y1⟩:=(IBox.keepB HS3.out H4.out g0).cells;obtain ⟨y2,y3⟩:=(IBox.keepB HB2.out H4.out g1).cells;obtain ⟨f0,f1⟩:=(IBox.keepB HS3.out H4.out g0).frozens;obtain ⟨f2,f3⟩:=(IBox.keepB HB2.out H4.out g1).frozens)
   have S1:=(IBox.keepB HS3.out H4.out g0).set2 sy (.slice A2 q c2)
   have S2:=((IBox.keepB HB2.out H4.out g1).gro S1.2 (by omega)).set2 sx (.slice A1 p c1)
   have HBa:=Qh (S1.1.gro S2.2 (by omega))
   have HBb:=Qh S2.1
   have HBr:=Qh (((IBox.keepB HS4.out H4.out g2).gro S1.2 (by omega)).gro S2.2 (by omega))
   have HPk:=Qh (HSt.out.rebase (((S2.2.block w2.heap.size (by have:=HZ4.out;simp at this;simp;omega) (fun e=>by injection e with e;omega)).trans (S1.2.block w2.heap.size (by have:=HZ4.out;simp at this;omega) (fun e=>by injection e with e;omega))).trans HBK4.out))
   have HZ5:=Qh (show ∀ b,(fun x=>z0.heap.size≤x∧x<z2.heap.size) b→b<w2.heap.size from fun b hb=>by have:=hb.2;have:=HZ.out;omega)
   have key:∀ b,(fun x=>z0.heap.size≤x∧x<z2.heap.size) b→((((w4.setCell ⟨w.heap.size,0,none⟩ (.bool sy)).setCell ⟨w.heap.size,1,none⟩ (.slice A2 q c2)).setCell ⟨w.heap.size+1,0,none⟩ (.bool sx)).setCell ⟨w.heap.size+1,1,none⟩ (.slice A1 p c1)).heap[b]?=w2.heap[b]?:=fun b hb=>by
    have e1:=hb.1
    have e2:=HZ5.out b hb
    have e3:=HZ.out
    have e4:=HZ4.out
    simp at e4
    exact ((S2.2.block b (by simp;omega) (fun e=>by injection e with e;omega)).trans (S1.2.block b (by omega) (fun e=>by injection e with e;omega))).trans (H4.out.block b e2)
   have HOU:=Qh (HO2.out.keep (fun b hb=>⟨hb,key b hb⟩))
   have HOV:=Qh (HO1.out.keep (fun b hb=>⟨hb,key b hb⟩))
   have HBw5:=Qh (show Below w.heap.size w _∧_ from ⟨((HBw.out.trans (H4.out.mono (by omega))).grown S1.2 (by have:=HZ4.out;simp at this;omega) (Qg (by omega))).grown S2.2 (by have:=HZ4.out;simp at this;simp;omega) (Qg (by omega)),show w2.heap.size+1≤((((w4.setCell ⟨w.heap.size,0,none⟩ (.bool sy)).setCell ⟨w.heap.size,1,none⟩ (.slice A2 q c2)).setCell ⟨w.heap.size+1,0,none⟩ (.bool sx)).setCell ⟨w.heap.size+1,1,none⟩ (.slice A1 p c1)).heap.size from by have:=HZ4.out;simp at this;simp;omega⟩)
   have HLe:=Qh (show nv W LX≤nv W LY∧LY.length<N∧LX.length<N by rw [HVX.out,HVY.out,HP.out.1,HP.out.2];omega)
   have HVal:=Qh (show ∀ o,nv W o=nv W LY - nv W LX→ival sy o=X+Y from fun o ho=>by
    have e1:=HSX.out.1
    have e2:=HSX.out.2
    rw [HVX.out,HVY.out] at ho
    unfold ival
    rw [ho]
    cases sx <;> cases sy <;> simp at hxy e1 e2 ⊢ <;> omega)
   clear S1 S2 key y0 y1 y2 y3 f0 f1 f2 f3 HC
   generalize ((((w4.setCell ⟨w.heap.size,0,none⟩ (.bool sy)).setCell ⟨w.heap.size,1,none⟩ (.slice A2 q c2)).setCell ⟨w.heap.size+1,0,none⟩ (.bool sx)).setCell ⟨w.heap.size+1,1,none⟩ (.slice A1 p c1))=W5 at *
   clear HS3 HB2 HS4 HBw HO1 HO2 H4 HBK4 HZ4 HSt HSX HVX HVY HP x0 x1 x2 x3
   obtain ⟨LU,rfl⟩:∃ s,s=LY:=⟨_,rfl⟩
   obtain ⟨LV,rfl⟩:∃ s,s=LX:=⟨_,rfl⟩
   obtain ⟨SU,rfl⟩:∃ s,s=sy:=⟨_,rfl⟩
  rotate_left
  focus
   obtain ⟨d,hd⟩:∃ d,cmpZ (X.natAbs:Int) (Y.natAbs:Int)=d:=⟨_,rfl⟩
   have hd0:0≤d:=by rw [←hd];unfold cmpZ;split <;> (try split) <;> omega
   have hd1:d≤1:=by rw [←hd];unfold cmpZ;split <;> (try split) <;> omega
   rw [hd] at HC
   have hdn:decide (d<0)=false:=decide_eq_false (by omega)
   clear hd
   go_wp2_with (go_at_call 30;(with_reducible refine (HC.out _ HSt.out.bel).mono ?_);rintro e w4 ⟨rfl,hb4⟩;have h4:Below w2.heap.size w2 w4:=HSt.out.bel.trans (hb4.mono (by simp));have H4:=Qh h4;have HBK4:=Qh (hb4.block w2.heap.size (by simp));have HZ4:=Qh hb4.size;clear hb4 h4)
   have HBa:=Qh (IBox.keepB HS3.out H4.out g0)
   have HBb:=Qh (IBox.keepB HB2.out H4.out g1)
   have HBr:=Qh (IBox.keepB HS4.out H4.out g2)
   have HPk:=Qh (HSt.out.rebase HBK4.out)
   have HZ5:=Qh (show ∀ b,(fun x=>z0.heap.size≤x∧x<z2.heap.size) b→b<w2.heap.size from fun b hb=>by have:=hb.2;have:=HZ.out;omega)
   have HOU:=Qh (HO1.out.keep (fun b hb=>⟨hb,H4.out.block b (HZ5.out b hb)⟩))
   have HOV:=Qh (HO2.out.keep (fun b hb=>⟨hb,H4.out.block b (HZ5.out b hb)⟩))
   have HBw5:=Qh (show Below w.heap.size w w4∧w2.heap.size+1≤w4.heap.size from ⟨HBw.out.trans (H4.out.mono (by omega)),by have:=HZ4.out;simp at this;omega⟩)
   have HLe:=Qh (show nv W LY≤nv W LX∧LX.length<N∧LY.length<N by rw [HVX.out,HVY.out,HP.out.1,HP.out.2];omega)
   have HVal:=Qh (show ∀ o,nv W o=nv W LX - nv W LY→ival sx o=X+Y from fun o ho=>by
    have e1:=HSX.out.1
    have e2:=HSX.out.2
    rw [HVX.out,HVY.out] at ho
    unfold ival
    rw [ho]
    cases sx <;> cases sy <;> simp at hxy e1 e2 ⊢ <;> omega)
   clear HC
   obtain ⟨W5,rfl⟩:∃ W5,W5=w4:=⟨_,rfl⟩
   clear HS3 HB2 HS4 HBw HO1 HO2 H4 HBK4 HZ4 HSt HSX HVX HVY HP x0 x1 x2 x3
   obtain ⟨LU,rfl⟩:∃ s,s=LX:=⟨_,rfl⟩
   obtain ⟨LV,rfl⟩:∃ s,s=LY:=⟨_,rfl⟩
   obtain ⟨SU,rfl⟩:∃ s,s=sx:=⟨_,rfl⟩
  rotate_left
  all_goals
   have LUb:=HOU.out.dig
   have LVb:=HOV.out.dig
   obtain ⟨x0,x1⟩:=HBa.out.cells
   obtain ⟨x2,x3⟩:=HBb.out.cells
   go_wp2_with fail
   go_loopw [10,73] (fun cv i wr=>∃ k:Nat,k≤N∧i = .int .i64 k∧PSub W5 w2.heap.size LU LV N k cv wr) (fun _ i _=>N - (intOf i).toNat)
   case atStart=>exact ⟨0,Nat.zero_le _,rfl,[],0,rfl,by omega,by simp [nv,nvp_zero],HPk.out⟩
   case round=>
    obtain ⟨k,hk,rfl,o,cc,rfl,hcc,hv,hblk⟩:=hrel
    have HR:=Qh (Qa hv hblk)
    have z1:=(hblk.bel.cell (p:=⟨w.heap.size,1,none⟩) g0).trans x1
    have z3:=(hblk.bel.cell (p:=⟨w.heap.size+1,1,none⟩) g1).trans x3
    have z0:=(hblk.bel.cell (p:=⟨w.heap.size,0,none⟩) g0).trans x0
    by_cases hkN:k<N
    ·obtain ⟨⟨u,hcu⟩,hfz⟩:=hblk.facts hkN
     obtain ⟨x,hx⟩:∃ x,LU.getD k 0=x:=⟨_,rfl⟩
     obtain ⟨y,hy⟩:∃ y,LV.getD k 0=y:=⟨_,rfl⟩
     have hxb:x<4294967296:=by rw [←hx];exact LUb.getD (by decide) k
     have hyb:y<4294967296:=by rw [←hy];exact LVb.getD (by decide) k
     have HL1:=Qh (fun m=>limb_any (((HOU.out.sl (B:=w2.heap.size) HZ5.out).below hblk.bel (Nat.le_refl _)).below (belowN (Below.refl w2.heap.size wr) m) (Nat.le_refl _)) k (by omega))
     have HL2:=Qh (fun m=>limb_any (((HOV.out.sl (B:=w2.heap.size) HZ5.out).below hblk.bel (Nat.le_refl _)).below (belowN (Below.refl w2.heap.size wr) m) (Nat.le_refl _)) k (by omega))
     rw [hx] at HL1
     rw [hy] at HL2
     have HS:=Qh (fun m=>PSub.step hcc hv (hblk.drewN m) hkN hx hy hxb hyb)
     have hki:(k:Int)<(N:Int):=by omega
     have hk0:(0:Int)≤(k:Int):=by omega
     obtain ⟨S,hS0,hS1⟩:∃ S:Nat,S=(x+18446744073709551616 - y) % 18446744073709551616∧S<18446744073709551616:=⟨_,rfl,Nat.mod_lt _ (by decide)⟩
     obtain ⟨T,hT0,hT1⟩:∃ T:Nat,T=(S+18446744073709551616 - cc) % 18446744073709551616∧T<18446744073709551616:=⟨_,rfl,Nat.mod_lt _ (by decide)⟩
     have HT1:=Qh (show (T:Int) % 4294967296=(((x+4294967296 - y - cc) % 4294967296:Nat):Int) by omega)
     have HT2:=Qh (show (T:Int) / 9223372036854775808=((bw x y cc:Nat):Int) by have:=bw_spec x y cc;omega)
     have hTa:IntKind.u64.wrap ((x:Int) - (y:Int))=(S:Int):=by simp [IntKind.wrap,IntKind.bits,IntKind.signed];omega
     have hTb:IntKind.u64.wrap ((S:Int) - (cc:Int))=(T:Int):=by simp [IntKind.wrap,IntKind.bits,IntKind.signed];omega
     clear hS0 hT0
     clear hv hblk hx hy HR hmk
     go_wp2_with fail
     go_quiet (first | (go_at_call 85;first | (with_reducible exact quiet_left (HL1.out _)) | (with_reducible exact quiet_left (HL2.out _))))
     go_wp2_with fail
     go_roundw
     case rel=>exact ⟨k+1,by omega,by go_num,by rw [HT1.out,HT2.out];exact HS.out _⟩
     case measure=>simp [intOf];omega
    ·obtain rfl:k=N:=by omega
     obtain ⟨o2,hb2,hv2⟩:=PSub.end_ ⟨o,cc,rfl,hcc,hv,hblk⟩ HLe.out.2.1 HLe.out.2.2 HLe.out.1
     have HVal2:=Qh (HVal.out o2 hv2)
     have HRb:=Qh (IBox.keepB HBr.out hblk.bel g2)
     have HN3:=Qh (norm_any SU (hb2.full.sl hb2.dig hb2.len) (by omega) (Nat.le_refl _))
     rw [HVal2.out] at HN3
     have hki:¬(k:Int)<(k:Int):=by omega
     have hr3:=HRb.out
     have HBe:=Qh hblk.bel
     clear hv hblk HR hmk hv2 hb2 HVal HVal2
     generalize X+Y=Z at *
     go_wp2_with (go_at_call 84;(with_reducible refine HN3.out.mono ?_);rintro e w4 ⟨v,rfl,⟨A3,c3,rfl,ho3⟩,hb4⟩;have HO3:=Qh ho3;have HB4:=Qh hb4;have HR4:=Qh (HRb.out.below hb4);clear ho3 hb4 hr3;obtain ⟨r0,r1⟩:=HR4.out.cells;obtain ⟨f0,f1⟩:=HR4.out.frozens)
     have hz4:=HB4.out.size
     have hz5:=HBe.out.size
     have hz6:=HBw5.out.2
     have hw4:Below w.heap.size w w4:=(HBw5.out.1.trans (HBe.out.mono (by omega))).trans (HB4.out.mono (by omega))
     have hr:=ResI.stored (w:=w) (g:=w.heap.size+1+1) (u:=.bool (decide (Z<0))) (u':=.slice A3 (digs W Z.natAbs).length c3) ⟨A3,c3,rfl,HO3.out⟩ hw4 (by omega) (by omega)
     have hS:=HR4.out.set2 (decide (Z<0)) (.slice A3 (digs W Z.natAbs).length c3)
     generalize ((w4.setCell ⟨w.heap.size+1+1,0,none⟩ (.bool (decide (Z<0)))).setCell ⟨w.heap.size+1+1,1,none⟩ (.slice A3 (digs W Z.natAbs).length c3))=w6 at *
     obtain ⟨s0,s1⟩:=hS.1.cells
     exact bodyPost_ret (v:=.agg #[.bool (decide (Z<0)),.slice A3 (digs W Z.natAbs).length c3]) (by simp [results,Tryz.results51,go_sem,s0,s1]) rfl ⟨_,rfl,hr.1,hr.2⟩
def szE:Ed→Nat
 | .num z=>(digs W z.natAbs).length
 | _=>0
theorem Bd.Nrm.szE {b:Bd} (h:b.Nrm) (hl:b.l.length=b.n):b.n=szE b.ed:=by
 obtain ⟨t,ho,hd⟩:=h
 rcases t with t | t | t
 ·rw [Bd.ed_lo (by omega),←hl,(ho (by omega)).1];rfl
 ·rw [Bd.ed_zero t,←hl,hd.1];rfl
 ·rw [Bd.ed_hi (by omega),←hl,(ho (by omega)).1];rfl
theorem digs_step {z k:Int} {m:Nat} (h:(digs W z.natAbs).length≤m) (hk:k=1∨k = -1):(digs W (z+k).natAbs).length≤m+1:=by
 have h1:=lt_of_digs_length (b:=W) (by decide) h
 refine digs_length_le (by decide) ?_
 have h2:(z+k).natAbs≤z.natAbs+1:=by omega
 have h3:W ^ m * 1<W ^ m * W:=Nat.mul_lt_mul_of_pos_left (by decide) (Nat.pow_pos (by decide))
 rw [Nat.pow_succ]
 omega
theorem szE_step {e:Ed} {k:Int} {m:Nat} (h:szE e≤m) (hk:k=1∨k = -1):szE (shE k e)≤m+1:=by
 cases e with
 | num z=>exact digs_step h hk
 | lo=>exact Nat.zero_le _
 | hi=>exact Nat.zero_le _
abbrev Or (P:Nat→Prop) (B:Nat) (w:World):Nat→Prop:=fun x=>P x∨(B≤x∧x<w.heap.size)
def StepFr (w:World) (b:Bd) (k:Int) (en:Ending) (w':World):Prop:=
 ∃ d:Bd,en = .returned d.v∧d.At w' (Fr w.heap.size w')∧d.Nrm∧d.ed=shE k b.ed∧Below w.heap.size w w'
theorem Bd.At.empty {w w':World} {P Q:Nat→Prop} {b:Bd} (h:b.At w P) (hl:b.l = []):b.At w' Q:=⟨⟨h.lim.len,h.lim.cap,h.lim.max,h.lim.dig,fun e=>absurd hl e⟩,h.r1,h.r2⟩
def StepPost (w:World) (P:Nat→Prop) (b:Bd) (k:Int) (en:Ending) (w':World):Prop:=
 ∃ d:Bd,en = .returned d.v∧d.At w' (Or P w.heap.size w')∧d.Nrm∧d.ed=shE k b.ed∧Below w.heap.size w w'
theorem step_fr {b:Bd} {P:Nat→Prop} {w:World} (k:Int) (hk:k=1∨k = -1) (hb:b.At w P) (hP:∀ x,P x→x<w.heap.size) (ht:b.Tri) (hn:b.i≠0→b.Nrm) (hs:b.n≤33554432) :
  Calls Tryz.prog 64 #[b.v,.int .i64 k] w (StepFr w b k):=by
 have hG:=((Below.refl w.heap.size w).alloc (Nat.le_refl _) (.cells b.vals.toArray 67)).alloc (by simp) (.cells (ib 0).vals.toArray 67)
 have e1:=EBox.new w b
 have e2:=EBox.new (w.alloc (.cells b.vals.toArray 67)) (ib 0)
 have e3:=(EBox.below e1 (w':=(w.alloc (.cells b.vals.toArray 67)).alloc (.cells (ib 0).vals.toArray 67)) (Qb))
 rw [World.size_alloc] at e2
 have HE:=Qh (Qa e3 e2)
 have HG:=Qh hG
 have HAt:=Qh hb
 have HP:=Qh hP
 have HN:=Qh hn
 obtain ⟨x0,x1,x2⟩:=e3.cells
 obtain ⟨y0,y1,y2⟩:=e2.cells
 obtain ⟨f0,f1,f2⟩:=e2.frozens
 have ht':=ht
 unfold Bd.Tri at ht'
 by_cases h0:b.i=0
 ·have HSl:=Qh (hb.lim.sl hP)
  have HD:=Qh (show shE k b.ed = .num (ival b.g b.l+k) by rw [Bd.ed_zero h0];rfl)
  obtain ⟨bi,bg,bA,bn,bc,bl⟩:=b
  simp only at h0
  subst h0
  simp only [Bd.v,Bd.vals] at *
  have HF:=Qh (fun w1=>from_any k w1 (by omega) (by omega))
  have hkl:(digs W k.natAbs).length≤33554432:=Nat.le_trans (digs_length_le (k:=1) (by decide) (by rw [Nat.pow_one];show k.natAbs<4294967296;omega)) (by omega)
  have HPl:=Qh (fun w1 (h1:Below w.heap.size w w1) B2 A2 c2 (ho:OwnU w1 B2 A2 (digs W k.natAbs).length c2 (u32s (digs W k.natAbs)))=>plus_any bg (decide (k<0)) (HSl.out.below h1 (Nat.le_refl _)) (ho.sl (dig_digs (by decide) _) rfl) hs hkl h1.size (Nat.le_refl _))
  clear hb hP ht ht' hn hs hG e1 e2 e3 x0 x1 x2 y0 y1 y2 f0 f1 f2
  rw [ival_digs] at HPl
  generalize ival bg bl=Z at *
  go_enter Tryz.func64,Tryz.ntmps64
  go_upto_region 3 with fail
  refine wp_region_U 6 (by kernel_rfl) (fun z0 K0 hs0=>?_)
  refine tZ0 0 K0 ?_
  refine tZ0 1 K0 ?_ (y:=fun z5 hS=>by obtain ⟨q0,q1,q2⟩:=(HE.out.1.below hS).cells;go_simp;rfl)
  refine tZ0 2 K0 ?_
  refine uW 3 fun K hK=>?_
  go_simp
  (with_reducible refine (HF.out _).mono ?_)
  rintro e z1 ⟨v,rfl,⟨A1,c1,rfl,ho1⟩,hb1⟩
  have K1:=Qt K0 hb1
  refine hK.out _ _ (fun _=>K1) ?_
  refine uW 4 fun K hK=>?_
  go_simp
  (with_reducible refine (HPl.out _ (HG.out.trans (K1.mono HG.out.size)) _ _ _ ho1).mono ?_)
  rintro e z2 ⟨v,rfl,hr,hb2⟩
  obtain ⟨A2,c2,rfl,hat⟩:=hr.nb
  have K2:=Qt K1 hb2
  refine hK.out _ _ (fun _=>K2) ?_
  have HX:=Qh (HE.out.2.below K2)
  obtain ⟨y0,y1,y2⟩:=HX.out.cells
  obtain ⟨f0,f1,f2⟩:=HX.out.frozens
  refine tZ0 5 K2 ?_
  refine uW 6 fun K hK=>?_
  go_simp
  refine hK.out _ _ (fun h=>absurd h (by simp)) ?_
  refine wpAnyW_done (by kernel_rfl) ?_ _
  have HS:=Qh (HX.out.set3 (nb (Z+k) A2 c2))
  have HZ:=Qh (show w.heap.size+1+1≤z1.heap.size∧z1.heap.size≤z2.heap.size from ⟨by have:=K1.size;simp at this;omega,hb2.size⟩)
  have HBw:=Qh (Qt HG.out K2)
  have HA:=Qh hat
  simp only [nb] at HS
  clear K0 K1 K2 hb1 hb2 ho1 hr hat HE HX HPl HF hs0 hkl
  generalize ((z2.setCell ⟨w.heap.size+1,0,none⟩ (.int .i64 0)).setCell ⟨w.heap.size+1,1,none⟩ (.bool (decide (Z+k<0)))).setCell ⟨w.heap.size+1,2,none⟩ (.slice A2 (digs W (Z+k).natAbs).length c2)=w6 at *
  obtain ⟨r0,r1,r2⟩:=HS.out.1.cells
  go_wp2
  have hz:=HS.out.2.size
  refine bodyPost_ret (v:=(nb (Z+k) A2 c2).v) (by simp [results,Tryz.results64,go_sem,r0,r1,r2];rfl) rfl ⟨nb (Z+k) A2 c2,rfl,?_,nb_nrm _ _ _,by rw [HD.out,nb_ed],HBw.out.grown HS.out.2 HBw.out.size (Qg (by omega))⟩
  exact HA.out.keep fun x hx=>⟨⟨by have:=hx.1;have:=HZ.out;omega,Ql hx.2 hz⟩,HS.out.2.block x hx.2 (fun e=>by injection e with e;have:=hx.1;have:=HZ.out;omega)⟩
 ·have HD:=Qh (show shE k b.ed=b.ed by
   rcases ht' with h | h | h
   ·rw [Bd.ed_lo (by omega)];rfl
   ·exact absurd h h0
   ·rw [Bd.ed_hi (by omega)];rfl)
  have HNr:=Qh (hn h0)
  have HI0:=Qh h0
  obtain ⟨bi,bg,bA,bn,bc,bl⟩:=b
  have hz:(bi==0)=false:=beq_eq_false_iff_ne.2 h0
  have q11 : -1≤bi:=by simp only at ht';omega
  have q12:bi≤1:=by simp only at ht';omega
  have HV:=Qh (Eq.refl (Bd.v ⟨bi,bg,bA,bn,bc,bl⟩))
  simp only [Bd.v,Bd.vals] at *
  clear hb hP ht ht' hn hs hG e1 e2 e3 h0
  go_enter Tryz.func64,Tryz.ntmps64
  go_wp2
  refine bodyPost_ret (v:=Bd.v ⟨bi,bg,bA,bn,bc,bl⟩) (by simp [results,Tryz.results64,go_sem];rfl) rfl ⟨⟨bi,bg,bA,bn,bc,bl⟩,rfl,?_,HNr.out,HD.out.symm,((Below.refl w.heap.size w).alloc (Nat.le_refl _) _).alloc (by simp) _⟩
  exact HAt.out.empty (HNr.out.out HI0.out).1
theorem step_any {b:Bd} {P:Nat→Prop} {w:World} (k:Int) (hk:k=1∨k = -1) (hb:b.At w P) (hP:∀ x,P x→x<w.heap.size) (ht:b.Tri) (hn:b.i≠0→b.Nrm) (hs:b.n≤33554432) :
  Calls Tryz.prog 64 #[b.v,.int .i64 k] w (StepPost w P b k):=
 (step_fr k hk hb hP ht hn hs).mono fun _ _ ⟨d,h1,h2,h3⟩=>⟨d,h1,h2.wide fun x hx=>.inr hx,h3⟩
end
section
open Go.RowKit Hb Hf Go.Shelf Go.Sort
attribute [local go_sem ↓] Go.wp_at_zero Go.wp_at_succ
theorem cmpZ_neg {a b:Int} : cmpZ a b<0↔a<b:=by unfold cmpZ;split <;> (try split) <;> omega
theorem cmpB_neg {a b:Bd} : cmpB a b<0↔(a.i=0∧b.i=0∧a.z<b.z)∨(¬(a.i=0∧b.i=0)∧a.i<b.i):=by
 unfold cmpB
 split
 ·rename_i h;rw [cmpZ_neg];constructor
  ·intro k;exact .inl ⟨h.1,h.2,k⟩
  ·rintro (k | k)
   ·exact k.2.2
   ·exact absurd h k.1
 ·rename_i h;constructor
  ·intro k;exact .inr ⟨h,by omega⟩
  ·rintro (k | k)
   ·exact absurd ⟨k.1,k.2.1⟩ h
   ·omega
theorem cmpB_le {a b:Bd} (ha:a.Tri) (hb:b.Tri):¬cmpB b a<0↔leE a.ed b.ed:=by
 rw [cmpB_neg]
 rcases ha with h | h | h <;> rcases hb with k | k | k
 all_goals
  first | rw [Bd.ed_lo (b:=a) (by omega)] | rw [Bd.ed_zero (b:=a) h] | rw [Bd.ed_hi (b:=a) (by omega)]
  first | rw [Bd.ed_lo (b:=b) (by omega)] | rw [Bd.ed_zero (b:=b) k] | rw [Bd.ed_hi (b:=b) (by omega)]
  simp [leE,h,k]
theorem closure_any {x y:Rg} {P:Nat→Prop} {w:World} (hx:Rg.At w P x) (hy:Rg.At w P y) (hP:∀ b,P b→b<w.heap.size) (tx:x.1.Tri) (ty:y.1.Tri) :
  Calls Tryz.prog 103 #[rgV x,rgV y] w fun e w'=>e = .returned (.int .i64 (cmpB x.1 y.1))∧Gr w w':=by
 have HG:=Qh (((Gr.refl w).alloc (.cells (cells6 x).toArray 69)).alloc (.cells (cells6 y).toArray 69))
 have HC:=Qh (fun w1 (h1:Gr w w1)=>fcmp_any (hx.a.keep (Q:=P) (fun b hb=>⟨hb,h1.bel.block b (hP b hb)⟩)) (hy.a.keep (Q:=P) (fun b hb=>⟨hb,h1.bel.block b (hP b hb)⟩)) (fun b hb=>Ql (hP b hb) h1.bel.size) tx ty)
 have e1:=RBox.new w x
 have e2:=RBox.new (w.alloc (.cells (cells6 x).toArray 69)) y
 have e3:=(RBox.below e1 (w':=(w.alloc (.cells (cells6 x).toArray 69)).alloc (.cells (cells6 y).toArray 69)) (Qb))
 rw [World.size_alloc] at e2
 obtain ⟨⟨xi,xg,xA,xn,xc,xl⟩,⟨xi',xg',xA',xn',xc',xl'⟩⟩:=x
 obtain ⟨⟨yi,yg,yA,yn,yc,yl⟩,⟨yi',yg',yA',yn',yc',yl'⟩⟩:=y
 obtain ⟨x0,x1,x2,_,_,_⟩:=e3.cells
 obtain ⟨y0,y1,y2,_,_,_⟩:=e2.cells
 generalize hZ:cmpB ⟨xi,xg,xA,xn,xc,xl⟩ ⟨yi,yg,yA,yn,yc,yl⟩=Z at *
 simp only [rgV,cells6_eq,Bd.v,Bd.vals,List.append,List.cons_append,List.nil_append,cells6] at *
 clear hx hy hP e1 e2 e3 tx ty
 go_enter Tryz.func103,Tryz.ntmps103
 go_wp2_with (go_at_call 38;(with_reducible refine (HC.out _ HG.out).mono ?_);rintro e w1 ⟨rfl,hg1⟩)
 go_ret
 exact ⟨rfl,HG.out.trans hg1⟩
def GoodR (w:World) (P:Nat→Prop) (p:Rg):Prop:=Rg.At w P p∧p.1.Tri
theorem good0 (w:World) (P:Nat→Prop):GoodR w P (ib 0,ib 0):=⟨⟨ib_at w P (.inr (.inl rfl)),ib_at w P (.inr (.inl rfl))⟩,.inr (.inl rfl)⟩
abbrev GR (w:World) (P:Nat→Prop):={p:Rg // GoodR w P p}
instance instGR (w:World) (P:Nat→Prop):Inhabited (GR w P):=⟨⟨(ib 0,ib 0),good0 w P⟩⟩
def encR {w:World} {P:Nat→Prop} (x:GR w P):List Value:=cells6 x.1
def cfR {w:World} {P:Nat→Prop} (x y:GR w P):Int:=cmpB x.1.1 y.1.1
theorem swoR (w:World) (P:Nat→Prop):SWO (ltOf (cfR (w:=w) (P:=P))):=by
 refine ⟨fun x=>?_,fun x y z=>?_,fun x y z=>?_⟩
 all_goals
  simp only [ltOf,cfR,decide_eq_true_eq,decide_eq_false_iff_not,cmpB_neg]
  omega
theorem flatK_encR {w:World} {P:Nat→Prop} (xs:List (GR w P)):flatK encR 6 xs.toArray=(fl6 (xs.map (·.1))).toArray:=by
 apply Array.ext
 ·simp [fl6_length]
 ·intro t h1 h2
  have ht:t<xs.length * 6:=by simpa using h1
  have hq:t / 6<xs.length:=by omega
  have hg:=get_flatK encR 6 xs.toArray t (by simpa using ht)
  rw [getElem!_pos _ t h1] at hg
  rw [hg]
  have hm:t % 6<6:=Nat.mod_lt _ (by omega)
  have h3:=fl6_get (ps:=xs.map (·.1)) (i:=t / 6) (j:=t % 6) (p:=(xs[t / 6]).1) (by simp [hq]) hm
  have e:t / 6 * 6+t % 6=t:=by omega
  rw [e] at h3
  have hl:(encR (xs.toArray[t / 6]!)).length=6:=rfl
  rw [getElem!_pos _ (t % 6) (by omega)]
  simp only [List.getElem_toArray]
  rw [List.getElem?_eq_getElem (by rw [fl6_length];simpa using ht),List.getElem?_eq_getElem hm] at h3
  have h4:=Option.some.inj h3
  rw [h4]
  congr 1
  have:xs.toArray[t / 6]! = xs[t / 6]:=by simp [hq]
  rw [this]
  rfl
theorem heap_sortR {α:Type} [Inhabited α] {enc:α→List Value} {k:Nat} {w:World} {g n:Nat} {os:Array Obj} {cur:Array Value} {e:TypeId} {fr:Nat × Nat} (d:Array α) (hb:w.heap[g]?=some (.cells cur e fr)) :
  (sortWorldK enc k w g 0 n d os).heap[g]?=some (.cells (putCells id 0 (flatK enc k d) cur) e fr):=by
 have hg:g<w.heap.size:=(Array.getElem?_eq_some_iff.1 hb).1
 unfold sortWorldK putRowK
 rw [heap_grow_old _ _ (by simpa using hg)]
 simp [putRow,mapBlock,Sort.ahead,Array.getElem?_modify,hb,onCells]
theorem grown_sortR {α:Type} [Inhabited α] {enc:α→List Value} {k:Nat} {w:World} {g n:Nat} {os:Array Obj} (d:Array α):w.grownBy (sortWorldK enc k w g 0 n d os) (some g):=by
 refine ⟨rfl,rfl,rfl,by simp [sortWorldK,putRowK],fun j hj hne=>?_⟩
 unfold sortWorldK putRowK
 rw [heap_grow_old _ _ (by simpa using hj)]
 have:g≠j:=fun e=>hne (by rw [e])
 simp [putRow,mapBlock,Sort.ahead,Array.getElem?_modify,this]
theorem take_put (cur:Array Value) (vs:List Value) (h:vs.length≤cur.size):(putCells id 0 vs.toArray cur).toList.take vs.length=vs:=by
 apply List.ext_getElem?
 intro j
 by_cases hj:j<vs.length
 ·rw [List.getElem?_take_of_lt hj,Array.getElem?_toList]
  simp [putCells,hj,show j<cur.size by omega]
 ·rw [List.getElem?_take_eq_none (by omega),List.getElem?_eq_none (by omega)]
theorem extract_all {α:Type} (d:Array α):d.extract 0 d.size=d:=by simp
theorem sort_any {w:World} {B:Nat} {P:Nat→Prop} {A:Option Addr} {n c:Nat} {ps:List Rg} (h:RRow w B P A n c ps) (hP:∀ b,P b→b<w.heap.size) (ht:∀ p∈ps,p.1.Tri) (hB:B≤w.heap.size) (hn:n<4611686018427387904) :
  Calls Tryz.prog 102 #[.slice A n c,.func (.func 103) #[] #[]] w fun e w'=>e = .returned (.tuple #[]) ∧
   ∃ qs,qs.Perm ps∧qs.Pairwise (fun p q=>leE p.1.ed q.1.ed)∧RRow w' B P A n c qs∧Below B w w':=by
 by_cases h0:n=0
 ·subst h0
  have hl:=h.len
  obtain rfl:ps = []:=List.length_eq_zero_iff.1 hl
  exact (AnyF.slices_SortFunc_none Tryz.sortR A c _ w).mono fun e w' ⟨he,hw⟩=>⟨he,[],List.Perm.refl _,List.Pairwise.nil,by rw [hw];exact h,by rw [hw];exact Below.refl _ _⟩
 ·obtain ⟨g,rfl,hBg,hg,hob⟩:∃ g,A=some ⟨g,0,none⟩∧B≤g∧g<w.heap.size∧(Value.slice A n c).ownBlock=some g:=by
   rcases h.block with ⟨_,h1⟩ | h1
   ·exact absurd h1 h0
   ·exact h1
  obtain ⟨P',hP'⟩:∃ P':Nat→Prop,P'=fun b=>P b∧(Value.slice (some ⟨g,0,none⟩) n c).ownBlock≠some b:=⟨_,rfl⟩
  have hPg:∀ b,P' b→b<w.heap.size∧b≠g:=fun b hb=>by
   subst hP'
   exact ⟨hP b hb.1,fun e=>hb.2 (by rw [hob,e])⟩
  have hk:∀ p∈ps,GoodR w P' p:=fun p hp=>⟨by rw [hP'];exact h.kid p hp,ht p hp⟩
  obtain ⟨xs,hxs⟩:∃ xs:List (GR w P'),xs.map (·.1)=ps:=⟨ps.attach.map fun p=>⟨p.1,hk p.1 p.2⟩,by simp [List.map_attach_eq_pmap]⟩
  have hlen:xs.length=n:=by rw [←h.len,←hxs];simp
  obtain ⟨cur,hcur,hcap,hmax,hsz,htk⟩:∃ cur,w.heap[g]?=some (.cells cur 69 (0,0))∧n≤c∧c≤maxLen∧cur.size=c * 6∧cur.toList.take (n * 6)=fl6 ps:=by
   rcases h.own.2 with ⟨h1,_⟩ | ⟨g',cap,cur,h1,h2,h3,h4,h5,h6,h7⟩
   ·cases h1
   ·injection h1 with a b cc
    injection a with a
    injection a with a
    subst a;subst cc
    exact ⟨cur,h3,h4,h5,h6,h7⟩
  have hH:HoldsK encR 6 w g 0 xs.toArray:=by
   unfold HoldsK
   rw [flatK_encR,hxs]
   intro j hj
   have hj':j<(fl6 ps).length:=by simpa using hj
   refine ⟨?_,by simp [World.frozen?,hcur]⟩
   have h2:=World.ownsRow.cells h.own (g:=g) rfl j _ (List.getElem?_eq_getElem hj')
   rw [add_zero'] at h2
   rw [Nat.zero_add,h2,getElem!_pos _ j (by simpa using hj)]
   simp
  have hcmp:CmpLays Tryz.prog 103 #[] encR 6 (cfR (w:=w) (P:=P')) g 0 xs.toArray.size w:=fun m os dk hd x y=>by
   have hgr:=grown_sortR (enc:=encR) (k:=6) (w:=w) (g:=g) (n:=m) (os:=os) dk
   have hkp:∀ b,P' b→P' b∧(sortWorldK encR 6 w g 0 m dk os).heap[b]?=w.heap[b]?:=fun b hb=>⟨hb,hgr.block b (hPg b hb).1 (fun e=>by injection e with e;exact (hPg b hb).2 e)⟩
   exact (closure_any (x:=x.1) (y:=y.1) (P:=P') (x.2.1.keep hkp) (y.2.1.keep hkp) (fun b hb=>Ql (hPg b hb).1 hgr.size) x.2.2 y.2.2).mono fun e w' ⟨he,hg2⟩=>⟨he,hg2.lies⟩
  have hcon:=AnyQ.slices_SortFunc Tryz.sortR 6 Tryz.isAgg69 Tryz.sizeOf69 encR (fun _=>rfl) (fun x v hv=>fl6_one [x.1] v (by simpa [fl6] using (show v∈cells6 x.1 from hv))) cfR (swoR w P') 103 #[] g 0 c xs.toArray w
   (enters_of Tryz.func103 (by kernel_rfl) rfl) hcmp hH hg (by simpa [hlen] using hn)
  have hsz2:xs.toArray.size=n:=by simpa using hlen
  rw [hsz2] at hcon
  refine hcon.mono fun e w' ⟨he,d',m,os,hp,hs,hw⟩=>⟨he,d'.toList.map (·.1),?_,?_,?_,?_⟩
  ·obtain ⟨h1,_,h3⟩:=hp
   have e1:d'.extract 0 n=d':=by rw [←hsz2,←h1];exact extract_all d'
   have e2:xs.toArray.extract 0 n=xs.toArray:=by rw [←hsz2];exact extract_all _
   rw [e1,e2] at h3
   have:=h3.map (fun x:GR w P'=>x.1)
   rw [←hxs]
   simpa using this
  ·have h1:d'.size=n:=by rw [hp.1,hsz2]
   rw [List.pairwise_map]
   rw [List.pairwise_iff_getElem]
   intro i j hi hj hij
   have hj':j<d'.size:=by simpa using hj
   have hi':i<d'.size:=by simpa using hi
   have h3:=hs i j (Nat.zero_le _) hij (by omega)
   rw [getElem!_pos d' j hj',getElem!_pos d' i hi'] at h3
   have h4:=of_decide_eq_false h3
   have h5:=(cmpB_le (d'[i]).2.2 (d'[j]).2.2).1 h4
   simpa using h5
  ·have hgr:=grown_sortR (enc:=encR) (k:=6) (w:=w) (g:=g) (n:=m) (os:=os) d'
   have hd:d'.size=n:=by rw [hp.1,hsz2]
   refine ⟨⟨by rw [fl6_length,List.length_map,Array.length_toList,hd],.inr ⟨g,c,_,rfl,hBg,by rw [hw];exact heap_sortR d' hcur,hcap,hmax,by simp [putCells,hsz],?_⟩⟩,fun p hp2=>?_⟩
   ·have e:=flatK_encR d'.toList
    rw [Array.toArray_toList] at e
    rw [e]
    have hl:(fl6 (d'.toList.map (·.1))).length=n * 6:=by rw [fl6_length,List.length_map,Array.length_toList,hd]
    rw [←hl]
    exact take_put cur _ (by rw [hl,hsz];omega)
   ·obtain ⟨x,hx,rfl⟩:=List.mem_map.1 hp2
    have:=x.2.1
    rw [hw]
    refine this.keep fun b hb=>⟨by subst hP';exact hb,hgr.block b (hPg b hb).1 (fun e=>by injection e with e;exact (hPg b hb).2 e)⟩
  ·have hgr:=grown_sortR (enc:=encR) (k:=6) (w:=w) (g:=g) (n:=m) (os:=os) d'
   rw [hw]
   exact ⟨hgr.os,hgr.tape,hgr.output,hgr.size,fun j hj=>hgr.block j (by omega) (fun e=>by injection e with e;omega)⟩
end
section
open Go.RowKit Hb Hf
section
end
section
variable {P:Program} {md:Region.Mode} {ops:Array Oper} {Q:Exit→Act→World→Prop} {S:World→Prop}
def takeH (md:Region.Mode) (ops:Array Oper) (listed:Array Bool) (i:Nat):Bool:=Region.noSelect ops && Region.free md ops listed i && (Region.ready md ops listed).contains i
theorem tkH (i:Nat) {oi:Oper} {v:Value} {fuel:Nat} {listed:Array Bool} {a:Act} {w:World} (hS:S w) (hi:ops[i]?=some oi) (hB:takeH md ops listed i=true) (hQ:∀ c a w,Q (.panic c) (a.put oi.dst v) w→Q (.panic c) a w)
  (hg:Region.wanted oi (yielded ops a.tmps)=true) (hy:∀ z,S z→(execOp a.eval oi).run P z = .ok (.value v) z) (h:wpAnyH P md ops Q S fuel (listed.setIfInBounds i true) (a.put oi.dst v) w):wpAnyH P md ops Q S (fuel+1) listed a w:=by
 unfold takeH at hB
 simp only [Bool.and_eq_true] at hB
 exact wpAnyH_take hi hB.1.1 hB.1.2 hB.2 hQ (.inl ⟨hg,hy⟩) hS h
theorem tkI (i:Nat) {oi:Oper} {fuel:Nat} {listed:Array Bool} {a:Act} {w:World} (hS:S w) (hi:ops[i]?=some oi) (hB:takeH md ops listed i=true) (hQ:∀ c a w,Q (.panic c) (a.put oi.dst undef) w→Q (.panic c) a w)
  (hg:Region.wanted oi (yielded ops a.tmps)=false) (h:wpAnyH P md ops Q S fuel (listed.setIfInBounds i true) (a.put oi.dst undef) w):wpAnyH P md ops Q S (fuel+1) listed a w:=by
 unfold takeH at hB
 simp only [Bool.and_eq_true] at hB
 exact wpAnyH_take hi hB.1.1 hB.1.2 hB.2 hQ (.inr ⟨hg,rfl⟩) hS h
theorem wpAnyH_one {i:Nat} {o:Oper} {fuel:Nat} {listed:Array Bool} {a:Act} {w:World} (hr:Region.ready md ops listed = [i]) (ho:ops[i]?=some o) (hw:Region.wanted o (yielded ops a.tmps)=true)
  (h:∀ K':Act→World→Prop,Shut (∀ a w,S w→wpAnyH P md ops Q S fuel (listed.setIfInBounds i true) a w→K' a w)→Oper.wp P o a w K' Q) :
  wpAnyH P md ops Q S (fuel+1) listed a w:=
 ⟨fun h0=>absurd (hr ▸ h0) (by simp),fun j hj=>by
  rw [hr] at hj
  obtain rfl:j=i:=by simpa using hj
  exact wpOp_step ho (fun K' hK=>by rw [if_pos hw];exact h K' (fun a w hS hW=>hK a w ⟨hS,hW⟩))⟩
theorem wpAnyH_end {listed:Array Bool} {a:Act} {w:World} (hr:Region.ready md ops listed = []) (h:Q .normal a w):∀ fuel,wpAnyH P md ops Q S fuel listed a w
 | 0=>⟨hr,h⟩
 | _+1=>⟨fun _=>h,by rw [hr];simp⟩
theorem tH0 (i : Nat) {oi : Oper} {v : Value} {fuel : Nat} {listed : Array Bool} {a : Act} {w : World} (hS : S w) (h : wpAnyH P md ops Q S fuel (listed.setIfInBounds i true) (a.put oi.dst v) w) (hi : ops[i]? = some oi := by rfl) (hB : takeH md ops listed i = true := by kernel_rfl) (hQ : ∀ c a w, Q (.panic c) (a.put oi.dst v) w → Q (.panic c) a w := by exact fun _ _ _ h => h) (hg : Region.wanted oi (yielded ops a.tmps) = true := by kernel_rfl)
 (y : ∀ z, S z → (execOp a.eval oi).run P z = .ok (.value v) z := by (intro _ _; go_simp; rfl)) : wpAnyH P md ops Q S (fuel + 1) listed a w := tkH i hS hi hB hQ hg y h
theorem tI0 (i : Nat) {oi : Oper} {fuel : Nat} {listed : Array Bool} {a : Act} {w : World} (hS : S w) (h : wpAnyH P md ops Q S fuel (listed.setIfInBounds i true) (a.put oi.dst undef) w) (hi : ops[i]? = some oi := by rfl) (hB : takeH md ops listed i = true := by kernel_rfl) (hQ : ∀ c a w, Q (.panic c) (a.put oi.dst undef) w → Q (.panic c) a w := by exact fun _ _ _ h => h)
 (hg : Region.wanted oi (yielded ops a.tmps) = false := by kernel_rfl) : wpAnyH P md ops Q S (fuel + 1) listed a w := tkI i hS hi hB hQ hg h
theorem oH0 (i : Nat) {o : Oper} {fuel : Nat} {listed : Array Bool} {a : Act} {w : World}
 (h : ∀ K' : Act → World → Prop, Shut (∀ a w, S w → wpAnyH P md ops Q S fuel (listed.setIfInBounds i true) a w → K' a w) → Oper.wp P o a w K' Q) (hr : Region.ready md ops listed = [i] := by kernel_rfl) (ho : ops[i]? = some o := by rfl) (hw : Region.wanted o (yielded ops a.tmps) = true := by kernel_rfl) : wpAnyH P md ops Q S (fuel + 1) listed a w := wpAnyH_one hr ho hw h
theorem wp_region_H {id:Nat} {a:Act} {w:World} (hm:P.follows .mixedOrders=true)
  (h:∀ z,Below w.heap.size w z→z.heap.size=w.heap.size→wpAnyH P .any ops Q (fun z=>Below w.heap.size w z) ops.size (Array.replicate ops.size false) a z):(Code.region id ops true).wp P Q a w:=
 wp_region_any hm (wpAny_of_held _ _ _ _ (h w.drew (Below.refl _ _).drew rfl))
end
theorem ok_iff {a b:Bd} (ha:a.Tri) (hb:b.Tri):ok (a.ed,b.ed)↔¬0<a.i∧¬b.i<0∧¬0<cmpB a b:=by
 have e:0<cmpB a b↔(a.i=0∧b.i=0∧b.z<a.z)∨(¬(a.i=0∧b.i=0)∧b.i<a.i):=by
  unfold cmpB
  split
  ·rename_i h
   have:0<cmpZ a.z b.z↔b.z<a.z:=by unfold cmpZ;split <;> (try split) <;> omega
   rw [this]
   constructor
   ·intro k;exact .inl ⟨h.1,h.2,k⟩
   ·rintro (k | k)
    ·exact k.2.2
    ·exact absurd h k.1
  ·rename_i h
   constructor
   ·intro k;exact .inr ⟨h,by omega⟩
   ·rintro (k | k)
    ·exact absurd ⟨k.1,k.2.1⟩ h
    ·omega
 rw [e]
 unfold ok inR
 rcases ha with h | h | h <;> rcases hb with k | k | k
 all_goals
  first | rw [Bd.ed_lo (b:=a) (by omega)] | rw [Bd.ed_zero (b:=a) h] | rw [Bd.ed_hi (b:=a) (by omega)]
  first | rw [Bd.ed_lo (b:=b) (by omega)] | rw [Bd.ed_zero (b:=b) k] | rw [Bd.ed_hi (b:=b) (by omega)]
  simp [lob,hib,h,k]
 ·exact ⟨b.z,Int.le_refl _⟩
 ·constructor
  ·rintro ⟨z,h1,h2⟩;omega
  ·intro h1;exact ⟨a.z,Int.le_refl _,h1⟩
 ·exact ⟨a.z,Int.le_refl _⟩
theorem own_set {w:World} {t:TypeId} {B g n c s:Nat} {xs:List Value} (h:w.ownsRow B t s (.slice (some ⟨g,0,none⟩) n c) n xs) (j:Nat) (u:Value):(w.setCell ⟨g,j,none⟩ u).ownsRow B t s (.slice (some ⟨g,0,none⟩) n c) n (xs.set j u):=by
 rcases h.2 with ⟨h1,_⟩ | ⟨g',cap,cur,h1,h2,h3,h4,h5,h6,h7⟩
 ·cases h1
 ·injection h1 with a b cc
  injection a with a
  injection a with a
  subst a;subst cc
  refine ⟨by simpa using h.1,.inr ⟨g,c,cur.setIfInBounds j u,rfl,h2,?_,h4,h5,by simpa using h6,?_⟩⟩
  ·simp [World.setCell,Array.getElem?_modify,h3]
  ·rw [←h7,Array.toList_setIfInBounds,List.take_set]
theorem fl6_set {ps:List Rg} {i:Nat} {p:Rg} (q:Rg) (hi:ps[i]?=some p) :
  fl6 (ps.set i q)=((((((fl6 ps).set (i * 6) (.int .i64 q.1.i)).set (i * 6+1) (.bool q.1.g)).set (i * 6+2) (.slice q.1.A q.1.n q.1.c)).set (i * 6+3) (.int .i64 q.2.i)).set (i * 6+4) (.bool q.2.g)).set (i * 6+5) (.slice q.2.A q.2.n q.2.c):=by
 apply List.ext_getElem?
 intro t
 have hlen:=fl6_length ps
 have hil:i<ps.length:=(List.getElem?_eq_some_iff.1 hi).1
 by_cases ht:t<ps.length * 6
 ·have hq:t / 6<ps.length:=by omega
  have hm:t % 6<6:=Nat.mod_lt _ (by omega)
  have e:t / 6 * 6+t % 6=t:=by omega
  by_cases h:t / 6=i
  ·have h1:=fl6_get (ps:=ps.set i q) (i:=i) (j:=t % 6) (p:=q) (by simp [hil]) hm
   rw [←h,e] at h1
   rw [h] at h1
   rw [h1]
   have h6:t=i * 6∨t=i * 6+1∨t=i * 6+2∨t=i * 6+3∨t=i * 6+4∨t=i * 6+5:=by omega
   rcases h6 with rfl | rfl | rfl | rfl | rfl | rfl
   all_goals
    simp only [List.getElem?_set,List.length_set,hlen]
    simp [cells6,Bd.vals,Nat.mul_add_mod,hil]
    try omega
  ·have h1:=fl6_get (ps:=ps.set i q) (i:=t / 6) (j:=t % 6) (p:=ps[t / 6]) (by rw [List.getElem?_set_ne (Ne.symm h)];simp [hq]) hm
   have h2:=fl6_get (ps:=ps) (i:=t / 6) (j:=t % 6) (p:=ps[t / 6]) (by simp [hq]) hm
   rw [e] at h1 h2
   rw [h1,←h2]
   have n0:i * 6≠t:=by omega
   have n1:i * 6+1≠t:=by omega
   have n2:i * 6+2≠t:=by omega
   have n3:i * 6+3≠t:=by omega
   have n4:i * 6+4≠t:=by omega
   have n5:i * 6+5≠t:=by omega
   rw [List.getElem?_set_ne n5,List.getElem?_set_ne n4,List.getElem?_set_ne n3,List.getElem?_set_ne n2,List.getElem?_set_ne n1,List.getElem?_set_ne n0]
 ·rw [List.getElem?_eq_none (by rw [fl6_length,List.length_set];omega),List.getElem?_eq_none (by simp only [List.length_set];omega)]
section
variable {w w':World} {B g:Nat} {P:Nat→Prop} {n c:Nat} {ps:List Rg}
theorem RRow.frozen (h:RRow w B P (some ⟨g,0,none⟩) n c ps) (j:Nat):w.frozen? ⟨g,j,none⟩=false:=by
 rcases h.own.2 with ⟨h1,_⟩ | ⟨g',cap,cur,h1,h2,h3,_⟩
 ·cases h1
 ·injection h1 with a b c
  injection a with a
  injection a with a
  subst a
  simp [World.frozen?,h3]
theorem RRow.ne (h:RRow w B P (some ⟨g,0,none⟩) n c ps) {p:Rg} (hp:Rg.At w (fun b=>P b∧(Value.slice (some ⟨g,0,none⟩) n c).ownBlock≠some b) p) (hg:w.grownBy w' (some g)) (hP:∀ b,P b→b<w.heap.size):Rg.At w' (fun b=>P b∧(Value.slice (some ⟨g,0,none⟩) n c).ownBlock≠some b) p:=
 hp.keep fun b hb=>⟨hb,hg.block b (hP b hb.1) (fun e=>hb.2 e.symm)⟩
theorem RRow.put6 (h:RRow w B P (some ⟨g,0,none⟩) n c ps) (hP:∀ b,P b→b<w.heap.size) {i:Nat} {p:Rg} (hi:ps[i]?=some p) {q:Rg} (hq:Rg.At w (fun b=>P b∧(Value.slice (some ⟨g,0,none⟩) n c).ownBlock≠some b) q) :
  RRow ((((((w.setCell ⟨g,i * 6,none⟩ (.int .i64 q.1.i)).setCell ⟨g,i * 6+1,none⟩ (.bool q.1.g)).setCell ⟨g,i * 6+2,none⟩ (.slice q.1.A q.1.n q.1.c)).setCell ⟨g,i * 6+3,none⟩ (.int .i64 q.2.i)).setCell ⟨g,i * 6+4,none⟩ (.bool q.2.g)).setCell ⟨g,i * 6+5,none⟩ (.slice q.2.A q.2.n q.2.c)) B P (some ⟨g,0,none⟩) n c (ps.set i q) ∧
  w.grownBy ((((((w.setCell ⟨g,i * 6,none⟩ (.int .i64 q.1.i)).setCell ⟨g,i * 6+1,none⟩ (.bool q.1.g)).setCell ⟨g,i * 6+2,none⟩ (.slice q.1.A q.1.n q.1.c)).setCell ⟨g,i * 6+3,none⟩ (.int .i64 q.2.i)).setCell ⟨g,i * 6+4,none⟩ (.bool q.2.g)).setCell ⟨g,i * 6+5,none⟩ (.slice q.2.A q.2.n q.2.c)) (some g):=by
 have hgr:=gb_setCell (gb_setCell (gb_setCell (gb_setCell (gb_setCell (gb_setCell (g:=g) (gb_refl w _) (i * 6) (.int .i64 q.1.i)) (i * 6+1) (.bool q.1.g)) (i * 6+2) (.slice q.1.A q.1.n q.1.c)) (i * 6+3) (.int .i64 q.2.i)) (i * 6+4) (.bool q.2.g)) (i * 6+5) (.slice q.2.A q.2.n q.2.c)
 refine ⟨⟨?_,fun p' hp'=>?_⟩,hgr⟩
 ·rw [fl6_set q hi]
  exact own_set (own_set (own_set (own_set (own_set (own_set h.own _ _) _ _) _ _) _ _) _ _) _ _
 ·refine RRow.ne h ?_ hgr hP
  rcases List.mem_or_eq_of_mem_set hp' with h1 | h1
  ·exact h.kid p' h1
  ·rw [h1];exact hq
theorem RRow.put3 (h:RRow w B P (some ⟨g,0,none⟩) n c ps) (hP:∀ b,P b→b<w.heap.size) {i:Nat} {p:Rg} (hi:ps[i]?=some p) {q:Bd} (hq:q.At w (fun b=>P b∧(Value.slice (some ⟨g,0,none⟩) n c).ownBlock≠some b)) :
  RRow (((w.setCell ⟨g,i * 6+3,none⟩ (.int .i64 q.i)).setCell ⟨g,i * 6+4,none⟩ (.bool q.g)).setCell ⟨g,i * 6+5,none⟩ (.slice q.A q.n q.c)) B P (some ⟨g,0,none⟩) n c (ps.set i (p.1,q)) ∧
  w.grownBy (((w.setCell ⟨g,i * 6+3,none⟩ (.int .i64 q.i)).setCell ⟨g,i * 6+4,none⟩ (.bool q.g)).setCell ⟨g,i * 6+5,none⟩ (.slice q.A q.n q.c)) (some g):=by
 have hgr:=gb_setCell (gb_setCell (gb_setCell (g:=g) (gb_refl w _) (i * 6+3) (.int .i64 q.i)) (i * 6+4) (.bool q.g)) (i * 6+5) (.slice q.A q.n q.c)
 have hp:=h.kid p (List.mem_of_getElem? hi)
 refine ⟨⟨?_,fun p' hp'=>?_⟩,hgr⟩
 ·have e:=fl6_set (p.1,q) hi
  have g0:=fl6_get hi (j:=0) (by omega)
  have g1:=fl6_get hi (j:=1) (by omega)
  have g2:=fl6_get hi (j:=2) (by omega)
  rw [e]
  have key:∀ (l:List Value) (k:Nat) (v:Value),l[k]?=some v→l.set k v=l:=fun l k v hk=>by
   apply List.ext_getElem?
   intro t
   by_cases ht:k=t
   ·subst ht;rw [List.getElem?_set_self (List.getElem?_eq_some_iff.1 hk).1,hk]
   ·rw [List.getElem?_set_ne ht]
  rw [key _ (i * 6) (.int .i64 p.1.i) g0,key _ (i * 6+1) (.bool p.1.g) g1,key _ (i * 6+2) (.slice p.1.A p.1.n p.1.c) g2]
  exact own_set (own_set (own_set h.own _ _) _ _) _ _
 ·refine RRow.ne h ?_ hgr hP
  rcases List.mem_or_eq_of_mem_set hp' with h1 | h1
  ·exact h.kid p' h1
  ·rw [h1];exact ⟨hp.a,hq⟩
end
theorem RRow.fr {w w':World} {B n c:Nat} {A:Option Addr} {ps:List Rg} (h:RRow w B (Fr B w) A n c ps) (hb:Below w.heap.size w w'):RRow w' B (Fr B w') A n c ps:=
 (h.keep hb (fun b hb=>hb.2)).wide (fun b hb2=>⟨hb2.1,Ql hb2.2 hb.size⟩)
theorem wpList_app1R {ops:Array Oper} {rest:List Oper} {o:Oper} {a:Act} {Q:Exit→Act→World→Prop} {wr w3:World} {B n c:Nat} {A:Option Addr} {ps:List Rg} {q:Rg}
  (hgd:o.guard=none) (s x:Operand) (ho:o.op = .call { callee:=.builtin .append,args:=#[s,x],argTypes:=#[22,22] })
  (hs:a.eval s = .slice A n c) (hx:a.eval x = .slice (some ⟨w3.heap.size,0,none⟩) 1 1)
  (hrow:RRow wr B (Fr B wr) A n c ps) (hB:B≤wr.heap.size) (hw:Below wr.heap.size wr w3) (hf:Rg.At w3 (fun b=>(B≤b∧b<w3.heap.size)∧(Value.slice A n c).ownBlock≠some b) q) (hm:n+1≤maxRg)
  (hh:∀ A' c' w',RRow w' B (Fr B w') A' (n+1) c' (ps ++ [q])→Below B wr w'→wr.heap.size≤w'.heap.size→wpList Tryz.prog ops Q rest (a.put o.dst (.slice A' (n+1) c')) w') :
  wpList Tryz.prog ops Q (o :: rest) a (w3.alloc (.cells (cells6 q).toArray 69)):=by
 have hb6:Below w3.heap.size w3 (w3.alloc (.cells (cells6 q).toArray 69)):=Qb
 have hbw:=Qt hw hb6
 have hrow6:=RRow.fr hrow hbw
 have hnews:=heap_alloc_new w3 (.cells (cells6 q).toArray 69)
 have hnw:∀ j u,(fl6 [q])[j]?=some u→(w3.alloc (.cells (cells6 q).toArray 69)).cell? ((⟨w3.heap.size,0,none⟩:Addr).add j)=some u:=fun j u hj=>by
  rw [add_zero',cell_of_row _ w3.heap.size j _ _ (0,0) hnews,←hj]
  simp [fl6]
 have hkid:Rg.At (w3.alloc (.cells (cells6 q).toArray 69)) (fun b'=>(B≤b'∧b'<(w3.alloc (.cells (cells6 q).toArray 69)).heap.size)∧(Value.slice A n c).ownBlock≠some b') q:=hf.keep (fun b' hb=>⟨⟨⟨hb.1.1,Ql hb.1.2 hb6.size⟩,hb.2⟩,hb6.block b' hb.1.2⟩)
 generalize w3.alloc (.cells (cells6 q).toArray 69)=w6 at *
 refine wpList_append_R hgd s x ho [q] hs hrow6 (fun b hb=>hb.2) ⟨w3.heap.size,0,none⟩ 1 1 hx rfl (fun y hy=>by rw [List.mem_singleton.1 hy];exact hkid) hnw hm (by have:=hbw.size;omega) ?_
 intro A' c' w' hr hb hg
 exact hh A' c' w' (hr.wide (fun b hb2=>⟨hb2.1,Ql hb2.2 hg.size⟩)) ((hbw.mono hB).trans hb) (Nat.le_trans hbw.size hg.size)
theorem RRow.apart {w w3:World} {B n c lo:Nat} {A:Option Addr} {ps:List Rg} {P:Nat→Prop} {q:Rg} (h:RRow w B P A n c ps) (hB:B≤w.heap.size) (hl:w.heap.size≤lo) (hq:Rg.At w3 (fun x=>lo≤x∧x<w3.heap.size) q):Rg.At w3 (fun b=>(B≤b∧b<w3.heap.size)∧(Value.slice A n c).ownBlock≠some b) q:=
 hq.keep fun b hb=>⟨⟨⟨by omega,hb.2⟩,by
  rcases h.block with ⟨h1,_⟩ | ⟨g1,h1,h2,h3,h4⟩
  ·subst h1;simp [Value.ownBlock]
  ·rw [h4];intro e;injection e with e;omega⟩,rfl⟩
theorem digs_le_n {neg:Bool} {l:List Nat} (hd:Dig W l):(digs W (ival neg l).natAbs).length≤l.length:=by
 rw [ival_natAbs];exact digs_length_le (by decide) (nv_lt hd)
theorem szE_raw {a:Bd} {w:World} {P:Nat→Prop} {K:Nat} (h:a.At w P) (hK:a.i=0→a.n≤K):szE a.ed≤K:=by
 unfold Bd.ed
 split
 ·exact Nat.zero_le _
 ·split
  ·exact Nat.zero_le _
  ·have h1:=digs_le_n (neg:=a.g) h.lim.dig
   rw [h.lim.len] at h1
   exact Nat.le_trans h1 (hK (by omega))
def Gd (q:Rg):Prop:=(q.1.Nrm∧q.2.Nrm)∧q.1.n≤33554432∧q.2.n≤33554432
theorem Gd.mk' {a b:Bd} {w:World} {P:Nat→Prop} (hat:Rg.At w P (a,b)) (ha:a.Nrm) (hb:b.Nrm) (h1:szE a.ed≤33554432) (h2:szE b.ed≤33554432):Gd (a,b):=
 ⟨⟨ha,hb⟩,by rw [ha.szE hat.a.lim.len];exact h1,by rw [hb.szE hat.b.lim.len];exact h2⟩
theorem RRow.cells_at {w:World} {B g n c:Nat} {P:Nat→Prop} {ps:List Rg} (h:RRow w B P (some ⟨g,0,none⟩) n c ps) {k:Nat} {p:Rg} (hk:ps[k]?=some p) :
  w.cell? ⟨g,k * 6,none⟩=some (.int .i64 p.1.i)∧w.cell? ⟨g,k * 6+1,none⟩=some (.bool p.1.g)∧w.cell? ⟨g,k * 6+2,none⟩=some (.slice p.1.A p.1.n p.1.c) ∧
  w.cell? ⟨g,k * 6+3,none⟩=some (.int .i64 p.2.i)∧w.cell? ⟨g,k * 6+4,none⟩=some (.bool p.2.g)∧w.cell? ⟨g,k * 6+5,none⟩=some (.slice p.2.A p.2.n p.2.c):=by
 have key:∀ j u,j<6→(cells6 p)[j]?=some u→w.cell? ⟨g,k * 6+j,none⟩=some u:=fun j u hj hu=>by
  have:=World.ownsRow.cells h.own (g:=g) rfl (k * 6+j) u ((fl6_get hk hj).trans hu)
  rwa [add_zero'] at this
 exact ⟨key 0 _ (by omega) rfl,key 1 _ (by omega) rfl,key 2 _ (by omega) rfl,key 3 _ (by omega) rfl,key 4 _ (by omega) rfl,key 5 _ (by omega) rfl⟩
theorem RRow.some_ {w:World} {B n c:Nat} {P:Nat→Prop} {A:Option Addr} {ps:List Rg} (h:RRow w B P A n c ps) (hn:0<n):∃ g,A=some ⟨g,0,none⟩∧B≤g∧g<w.heap.size∧(Value.slice A n c).ownBlock=some g:=by
 rcases h.block with ⟨_,h1⟩ | h1
 ·omega
 ·exact h1
theorem fl6_take (ps:List Rg):∀ k,(fl6 ps).take (k * 6)=fl6 (ps.take k):=by
 induction ps with
 | nil=>intro k;simp [fl6]
 | cons p ps ih=>
  intro k
  cases k with
  | zero=>simp [fl6]
  | succ k=>
   have e:fl6 (p :: ps)=cells6 p ++ fl6 ps:=by simp [fl6]
   have e2:fl6 ((p :: ps).take (k+1))=cells6 p ++ fl6 (ps.take k):=by simp [fl6]
   rw [e,e2,←ih k,List.take_append]
   have hl:(cells6 p).length=6:=rfl
   rw [hl,List.take_of_length_le (by rw [hl];omega),show (k+1) * 6 - 6=k * 6 by omega]
theorem RRow.take {w:World} {B n c:Nat} {P:Nat→Prop} {A:Option Addr} {ps:List Rg} (h:RRow w B P A n c ps) {k:Nat} (hk:k≤n):RRow w B P A k c (ps.take k):=by
 have hl:=h.len
 refine ⟨⟨by rw [fl6_length,List.length_take];congr 1;omega,?_⟩,fun p hp=>by
  have h1:=h.kid p (List.mem_of_mem_take hp)
  cases A <;> exact h1⟩
 rcases h.own.2 with ⟨h1,h2⟩ | ⟨g,cap,cur,h1,h2,h3,h4,h5,h6,h7⟩
 ·injection h1 with a b c
  subst a;subst b;subst c
  exact .inl ⟨by rw [show k=0 by omega],by omega⟩
 ·injection h1 with a b c
  subst a;subst c
  refine .inr ⟨g,_,cur,rfl,h2,h3,by omega,h5,h6,?_⟩
  rw [←fl6_take,←h7,List.take_take]
  congr 1
  omega
theorem cmpB_ge {a b:Bd} (ha:a.Tri) (hb:b.Tri):cmpB a b≤0↔leE a.ed b.ed:=by
 have e:0<cmpB a b↔cmpB b a<0:=by
  unfold cmpB
  by_cases h:a.i=0∧b.i=0
  ·rw [if_pos h,if_pos ⟨h.2,h.1⟩]
   unfold cmpZ
   split <;> split <;> (try split) <;> (try split) <;> omega
  ·rw [if_neg h,if_neg (fun k=>h ⟨k.2,k.1⟩)];omega
 rw [←cmpB_le ha hb,←e]
 omega
theorem succE_sh (e:Ed):succE e=shE 1 e:=by cases e <;> rfl
structure M2 (rs cs:List Rg) (j kk:Nat):Prop where
 kj:kk≤j
 len:cs.length=rs.length
 acc:(cs.take kk).map edsR=(((rs.take j).map edsR).foldl pushR []).reverse
 rest:cs.drop j=rs.drop j
theorem M2.start (rs:List Rg):M2 rs rs 0 0:=⟨Nat.le_refl _,rfl,by simp,rfl⟩
section
variable {rs cs:List Rg} {j kk p:Nat} {r s:Rg}
theorem M2.at_ (h:M2 rs cs j kk) (hr:rs[j]?=some r):cs[j]?=some r:=by
 have h1:(cs.drop j)[0]?=(rs.drop j)[0]?:=by rw [h.rest]
 rwa [List.getElem?_drop,List.getElem?_drop,Nat.add_zero,hr] at h1
theorem M2.fold (hr:rs[j]?=some r):((rs.take (j+1)).map edsR).foldl pushR []=pushR (((rs.take j).map edsR).foldl pushR []) (edsR r):=by
 rw [List.take_add_one,hr]
 simp
theorem M2.drop_ (h:M2 rs cs j kk):cs.drop (j+1)=rs.drop (j+1):=by
 have:=congrArg (List.drop 1) h.rest
 simpa [List.drop_drop,Nat.add_comm] using this
theorem M2.last (h:M2 rs cs j (p+1)) (hs:cs[p]?=some s):∃ t,((rs.take j).map edsR).foldl pushR []=edsR s :: t∧(cs.take p).map edsR=t.reverse:=by
 have h1:=h.acc
 rw [List.take_add_one,hs] at h1
 simp only [Option.toList_some,List.map_append,List.map_cons,List.map_nil] at h1
 have h2:=congrArg List.reverse h1
 rw [List.reverse_reverse,List.reverse_append] at h2
 exact ⟨((cs.take p).map edsR).reverse,by rw [←h2];rfl,by rw [List.reverse_reverse]⟩
theorem M2.keep (h:M2 rs cs j (p+1)) (hs:cs[p]?=some s) (hr:rs[j]?=some r) (h1:leE r.1.ed (succE s.2.ed)) (h2:leE r.2.ed s.2.ed):M2 rs cs (j+1) (p+1):=by
 obtain ⟨t,e1,e2⟩:=h.last hs
 refine ⟨Nat.le_succ_of_le h.kj,h.len,?_,h.drop_⟩
 rw [M2.fold hr,h.acc,e1]
 show _=(pushR (edsR s :: t) (edsR r)).reverse
 rw [pushR,if_pos (show leE (edsR r).1 (succE (edsR s).2) from h1),if_pos (show leE (edsR r).2 (edsR s).2 from h2)]
theorem M2.wide (h:M2 rs cs j (p+1)) (hs:cs[p]?=some s) (hr:rs[j]?=some r) (h1:leE r.1.ed (succE s.2.ed)) (h2:¬leE r.2.ed s.2.ed):M2 rs (cs.set p (s.1,r.2)) (j+1) (p+1):=by
 obtain ⟨t,e1,e2⟩:=h.last hs
 have hp:p<cs.length:=(List.getElem?_eq_some_iff.1 hs).1
 refine ⟨Nat.le_succ_of_le h.kj,by rw [List.length_set];exact h.len,?_,?_⟩
 ·rw [M2.fold hr,e1,pushR,if_pos (show leE (edsR r).1 (succE (edsR s).2) from h1),if_neg (show ¬leE (edsR r).2 (edsR s).2 from h2)]
  rw [List.take_add_one,List.take_set_of_le (Nat.le_refl _),List.getElem?_set_self hp]
  simp only [Option.toList_some,List.map_append,List.map_cons,List.map_nil,e2,List.reverse_cons]
  rfl
 ·rw [List.drop_set_of_lt (by have:=h.kj;omega)];exact h.drop_
theorem M2.push (h:M2 rs cs j kk) (hr:rs[j]?=some r) (h0:∀ p s,kk=p+1→cs[p]?=some s→¬leE r.1.ed (succE s.2.ed)):M2 rs (cs.set kk r) (j+1) (kk+1):=by
 have hj:j<rs.length:=(List.getElem?_eq_some_iff.1 hr).1
 have hk:kk<cs.length:=by have:=h.kj;have:=h.len;omega
 refine ⟨Nat.succ_le_succ h.kj,by rw [List.length_set];exact h.len,?_,?_⟩
 ·rw [M2.fold hr,List.take_add_one,List.take_set_of_le (Nat.le_refl _),List.getElem?_set_self hk]
  simp only [Option.toList_some,List.map_append,List.map_cons,List.map_nil]
  cases kk with
  | zero=>
   have h1:=h.acc
   simp only [List.take_zero,List.map_nil] at h1
   have h2:=congrArg List.reverse h1
   rw [List.reverse_reverse] at h2
   rw [←h2]
   rfl
  | succ p=>
   obtain ⟨s,hs⟩:∃ s,cs[p]?=some s:=⟨cs[p]'(by omega),by simp⟩
   obtain ⟨t,e1,e2⟩:=h.last hs
   rw [e1,pushR,if_neg (show ¬leE (edsR r).1 (succE (edsR s).2) from h0 p s rfl hs),h.acc,e1]
   simp
 ·rw [List.drop_set_of_lt (by have:=h.kj;omega)];exact h.drop_
theorem M2.done (h:M2 rs cs j kk) (hj:j=rs.length):(cs.take kk).map edsR=normalP (rs.map edsR):=by
 rw [h.acc,hj,List.take_length];rfl
end
theorem push_ends {L:List R} : ∀ {l acc:List R},(∀ r∈acc,(∃ s∈L,s.1=r.1)∧∃ s∈L,s.2=r.2)→(∀ r∈l,r∈L)→∀ r∈l.foldl pushR acc,(∃ s∈L,s.1=r.1)∧∃ s∈L,s.2=r.2
 | [],acc,h,_=>h
 | x :: l,acc,h,hl=>by
  rw [List.foldl_cons]
  refine push_ends (fun r hr=>?_) (fun r hr=>hl r (List.mem_cons_of_mem _ hr))
  have hx:=hl x List.mem_cons_self
  cases acc with
  | nil=>rw [pushR,List.mem_singleton] at hr;subst hr;exact ⟨⟨_,hx,rfl⟩,_,hx,rfl⟩
  | cons s acc=>
   rw [pushR] at hr
   split at hr
   ·split at hr
    ·exact h r hr
    ·rcases List.mem_cons.1 hr with h1 | h1
     ·subst h1;exact ⟨(h s List.mem_cons_self).1,_,hx,rfl⟩
     ·exact h r (List.mem_cons_of_mem _ h1)
   ·rcases List.mem_cons.1 hr with h1 | h1
    ·subst h1;exact ⟨⟨_,hx,rfl⟩,_,hx,rfl⟩
    ·exact h r h1
theorem norm_of {L rs:List R} (h:∀ r,r∈rs↔r∈L∧ok r) (hp:rs.Pairwise fun a b=>leE a.1 b.1):NF (normalP rs)∧(∀ z,Hf.mem z (normalP rs)↔Hf.mem z L)∧∀ r∈normalP rs,(∃ s∈L,s.1=r.1)∧∃ s∈L,s.2=r.2:=by
 obtain ⟨h1,h2⟩:=normalP_NF (l:=rs) (fun r hr=>((h r).1 hr).2) hp
 refine ⟨h1,fun z=>?_,fun r hr=>?_⟩
 ·rw [h2 z]
  constructor
  ·rintro ⟨r,hr,hz⟩;exact ⟨r,((h r).1 hr).1,hz⟩
  ·rintro ⟨r,hr,hz⟩;exact ⟨r,(h r).2 ⟨hr,z,hz⟩,hz⟩
 ·exact push_ends (acc:=[]) (fun r hr=>by cases hr) (fun r hr=>((h r).1 hr).1) r (List.mem_reverse.1 hr)
end
end Go.Proofs.YtpikjceodmepiaaGreatDoor
