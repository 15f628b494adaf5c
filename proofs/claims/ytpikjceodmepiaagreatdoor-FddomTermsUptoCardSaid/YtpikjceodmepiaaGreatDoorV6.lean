import Derived.Shelf.Small.Bits
import Derived.Test.YtpikjceodmepiaaGreatDoorRows
import Derived.WalkKit
import Derived.Deep.QuietTactic
import Derived.BigQuiet
import Derived.Deep.RegionHeld3
import Derived.Deep.DrawnRows
import Derived.Deep.DeepCutAuto
import Derived.Deep.CutBlock
import Derived.Laws.BytesArg
import Derived.Laws.AppendOwnNone
import Derived.ProofKit
import Derived.OpenShut
import Derived.JoinedCond
import Derived.JoinedOf
import Derived.JoinedAt
import Derived.ChangeSame
import Derived.ChangeSlices
import Derived.RowKit3
import Derived.Carry
import Derived.Lib.SmallJoins
import Derived.Deep.LoopGhost
import Derived.Maps.AppendAt
import Derived.IntWalk
import Derived.Test.YtpikjceodmepiaaGreatDoorV1
import Derived.Test.YtpikjceodmepiaaGreatDoorV2
import Derived.Test.YtpikjceodmepiaaGreatDoorV3
import Derived.Test.YtpikjceodmepiaaGreatDoorV4
import Derived.Test.YtpikjceodmepiaaGreatDoorV5
import Derived.Test.YtpikjceodmepiaaGreatDoorV0
set_option maxRecDepth 1000000
set_option maxHeartbeats 64000000
set_option linter.unusedVariables false
set_option linter.unusedSimpArgs false
namespace Go.Proofs.YtpikjceodmepiaaGreatDoor
section
open Go.RowKit Hb Hf
attribute [local go_sem ↓] Go.wp_at_zero Go.wp_at_succ
theorem minE_cmp {a b:Bd} (ha:a.Tri) (hb:b.Tri):(cmpB b a<0→minE a.ed b.ed=b.ed)∧(¬cmpB b a<0→minE a.ed b.ed=a.ed):=by
 have h:=cmpB_le ha hb
 unfold minE
 constructor
 ·intro k
  have k2:¬leE a.ed b.ed:=fun e=>(h.2 e) k
  rw [if_pos ⟨leE_total k2,k2⟩]
 ·intro k
  rw [if_neg (fun e=>e.2 (h.1 k))]
def KeepOk (F:FuncId) (wt:Bool→Bool→Bool):Prop:=∀ (x y:Bool) (w:World),Calls Tryz.prog F #[.bool x,.bool y] w fun e w'=>e = .returned (.bool (wt x y))∧w=w'
structure MR (w:World) (P:Nat→Prop) (B:Nat) (wt:Bool→Bool→Bool) (La Lb:List R) (M:Nat) (A:Option Addr) (m c:Nat) (qs:List Rg) (low:Bd) (wr:World):Prop where
 box:EBox wr B low
 bel:Below B w wr
 le:B+1≤wr.heap.size
 lo:low.At wr (fun x=>(B+1≤x∧x<wr.heap.size)∧(Value.slice A m c).ownBlock≠some x)
 nrm:low.Nrm
 row:RRow wr (B+1) (Or P (B+1) wr) A m c qs
 gd:∀ q∈qs,Gd q
 ms:MS wt La Lb M (qs.map edsR) low.ed
def MergePost (w:World) (P:Nat→Prop) (wt:Bool→Bool→Bool) (La Lb:List R) (M:Nat) (e:Ending) (w':World):Prop:=
 ∃ A m c qs,e = .returned (.slice A m c)∧SetP w' (Or P w.heap.size w') A m c qs∧(∀ q∈qs,Gd q)∧MEnd wt La Lb M (qs.map edsR)∧Below w.heap.size w w'
theorem Gd.of_sz {a b:Bd} {w:World} {P Q:Nat→Prop} {M:Nat} (ha:a.At w P) (hb:b.At w Q) (na:a.Nrm) (nb:b.Nrm) (h1:szE a.ed≤M) (h2:szE b.ed≤M) (hM:M≤33554432):Gd (a,b):=
 ⟨⟨na,nb⟩,by rw [na.szE ha.lim.len];omega,by rw [nb.szE hb.lim.len];omega⟩
theorem wpList_app1P {ops:Array Oper} {rest:List Oper} {o:Oper} {a:Act} {Q:Exit→Act→World→Prop} {w3:World} {P:Nat→Prop} {B n c:Nat} {A:Option Addr} {ps:List Rg} {q:Rg}
  (hgd:o.guard=none) (s x:Operand) (ho:o.op = .call { callee:=.builtin .append,args:=#[s,x],argTypes:=#[22,22] })
  (hs:a.eval s = .slice A n c) (hx:a.eval x = .slice (some ⟨w3.heap.size,0,none⟩) 1 1)
  (hrow:RRow w3 B (Or P B w3) A n c ps) (hB:B≤w3.heap.size) (hP:∀ b,P b→b<B) (hf:Rg.At w3 (fun b=>Or P B w3 b∧(Value.slice A n c).ownBlock≠some b) q) (hm:n+1≤maxRg)
  (hh:∀ A' c' w',RRow w' B (Or P B w') A' (n+1) c' (ps ++ [q])→Below B w3 w'→w3.heap.size≤w'.heap.size→(∀ b,b<w3.heap.size→(Value.slice A n c).ownBlock≠some b→w'.heap[b]?=w3.heap[b]?)→wpList Tryz.prog ops Q rest (a.put o.dst (.slice A' (n+1) c')) w') :
  wpList Tryz.prog ops Q (o :: rest) a (w3.alloc (.cells (cells6 q).toArray 69)):=by
 have hb6:Below w3.heap.size w3 (w3.alloc (.cells (cells6 q).toArray 69)):=Qb
 have hlt:∀ b,Or P B w3 b→b<w3.heap.size:=fun b hb=>hb.elim (fun k=>by have:=hP b k;omega) (·.2)
 have hrow6:=(hrow.keep hb6 hlt).wide (Q:=Or P B (w3.alloc (.cells (cells6 q).toArray 69))) (fun b hb=>hb.imp id (fun k=>⟨k.1,Ql k.2 hb6.size⟩))
 have hnews:=heap_alloc_new w3 (.cells (cells6 q).toArray 69)
 have hnw:∀ j u,(fl6 [q])[j]?=some u→(w3.alloc (.cells (cells6 q).toArray 69)).cell? ((⟨w3.heap.size,0,none⟩:Addr).add j)=some u:=fun j u hj=>by
  rw [add_zero',cell_of_row _ w3.heap.size j _ _ (0,0) hnews,←hj]
  simp [fl6]
 have hkid:Rg.At (w3.alloc (.cells (cells6 q).toArray 69)) (fun b'=>Or P B (w3.alloc (.cells (cells6 q).toArray 69)) b'∧(Value.slice A n c).ownBlock≠some b') q:=hf.keep (fun b' hb=>⟨⟨hb.1.imp id (fun k=>⟨k.1,Ql k.2 hb6.size⟩),hb.2⟩,hb6.block b' (hlt b' hb.1)⟩)
 have hlt6:∀ b,Or P B (w3.alloc (.cells (cells6 q).toArray 69)) b→b<(w3.alloc (.cells (cells6 q).toArray 69)).heap.size:=fun b hb=>hb.elim (fun k=>by have:=hP b k;have:=hb6.size;omega) (·.2)
 have hz6:=hb6.size
 generalize w3.alloc (.cells (cells6 q).toArray 69)=w6 at *
 refine wpList_append_R hgd s x ho [q] hs hrow6 hlt6 ⟨w3.heap.size,0,none⟩ 1 1 hx rfl (fun y hy=>by rw [List.mem_singleton.1 hy];exact hkid) hnw hm (by omega) ?_
 intro A' c' w' hr hb hg
 exact hh A' c' w' (hr.wide (fun b hb2=>hb2.imp id (fun k=>⟨k.1,Ql k.2 hg.size⟩))) ((hb6.mono hB).trans hb) (Nat.le_trans hz6 hg.size) (fun b k1 k2=>(hg.block b (by omega) (fun e=>k2 e.symm)).trans (hb6.block b k1))
theorem merge_any {w:World} {P:Nat→Prop} {A A':Option Addr} {n c n' c' M:Nat} {ps ps':List Rg} {F:FuncId} {wt:Bool→Bool→Bool} (h:SetP w P A n c ps) (h':SetP w P A' n' c' ps') (hg:∀ p∈ps,Gd p) (hg':∀ p∈ps',Gd p) (hP:∀ b,P b→b<w.heap.size)
  (hN:n≤1000000) (hN':n'≤1000000) (na:NF (ps.map edsR)) (nb:NF (ps'.map edsR)) (ba:Bnd M (ps.map edsR)) (bb:Bnd M (ps'.map edsR)) (hM:M+1≤33554432) (hF:KeepOk F wt) (hen0:∀ args w,(callFunc F args).run Tryz.prog w = .ok (.enter F args) w) :
  Calls Tryz.prog 91 #[.slice A n c,.slice A' n' c',.func (.func F) #[] #[]] w (MergePost w P wt (ps.map edsR) (ps'.map edsR) M):=by
 obtain ⟨B,hB⟩:∃ B,w.heap.size=B:=⟨_,rfl⟩
 have HB:=Qh hB
 have hen:=hen0
 have HF:=Qh hF
 have HP:=Qh (show ∀ b,P b→b<B by rw [←hB];exact hP)
 have HS:=Qh (fun z (hz:Below B w z)=>Qa (h.below (B:=B) hz (by rw [←hB];exact hP)) (h'.below (B:=B) hz (by rw [←hB];exact hP)))
 have HG:=Qh (Qa hg hg')
 have HNN:=Qh (show n≤1073741824∧n'≤1073741824 by omega)
 have HNf:=Qh (Qa (Qa na nb) (Qa ba bb))
 have HLe:=Qh (show (ps.map edsR).length=n∧(ps'.map edsR).length=n' by rw [List.length_map,List.length_map,h.row.len,h'.row.len];exact ⟨rfl,rfl⟩)
 have HM:=Qh hM
 have HM0:=Qh (show MR w P B wt (ps.map edsR) (ps'.map edsR) M none 0 0 [] (ib (-1)) (w.alloc (.cells (ib (-1)).vals.toArray 67)) from
  ⟨by rw [←hB];exact EBox.new w _,by rw [←hB];exact Qb,by rw [←hB];simp,ib_at _ _ (.inl rfl),ib_nrm (.inl rfl),RRow.nil _ _ _,by simp,MS.start⟩)
 unfold MergePost
 obtain ⟨La,hLa⟩:∃ L,ps.map edsR=L:=⟨_,rfl⟩
 obtain ⟨Lb,hLb⟩:∃ L,ps'.map edsR=L:=⟨_,rfl⟩
 rw [hLa,hLb] at HNf HLe HM0 ⊢
 have HLL:=Qh (Qa hLa hLb)
 clear hLa hLb
 have HN9:=Qh (Qa hN hN')
 rw [hB]
 clear h h' hg hg' hP hN hN' na nb ba bb hM hF hen0 hB
 simp only [Bd.vals,ib] at HM0
 go_enter Tryz.func91,Tryz.ntmps91
 go_wp2_with fail
 rw [HB.out]
 go_loopg [7] (mu (ib (-1)).ed (La ++ Lb)) (fun gn vo wr=>∃ A2 m c2 qs low,vo = .slice A2 m c2∧Hid (MR w P B wt La Lb M A2 m c2 qs low wr∧mu low.ed (La ++ Lb)=gn))
 case atStart=>exact ⟨none,0,0,[],ib (-1),rfl,Qh ⟨HM0.out,rfl⟩⟩
 case round=>
  obtain ⟨A2,m,c2,qs,low,rfl,HI⟩:=hrel
  clear HM0
  have HPw:=Qh (show ∀ x,Or P (B+1) wr x→x<wr.heap.size from fun x hx=>hx.elim (fun k=>by have:=HP.out x k;have:=HI.out.1.le;omega) (·.2))
  have HBle:=Qh (show B≤wr.heap.size by have:=HI.out.1.le;omega)
  have HPi:=Qh (fun z (hz:Below wr.heap.size wr z)=>And.intro
   (piece_any (w:=z) ((HS.out z (HI.out.1.bel.trans (hz.mono HBle.out))).1) HG.out.1 (HI.out.1.lo.keep (Q:=fun x=>x<wr.heap.size) (fun x hx=>⟨hx.1.2,hz.block x hx.1.2⟩)) HI.out.1.nrm (fun b hb=>by have:=HP.out b hb;have:=HBle.out;have:=hz.size;omega) (fun b hb=>Ql hb hz.size) HNN.out.1)
   (piece_any (w:=z) ((HS.out z (HI.out.1.bel.trans (hz.mono HBle.out))).2) HG.out.2 (HI.out.1.lo.keep (Q:=fun x=>x<wr.heap.size) (fun x hx=>⟨hx.1.2,hz.block x hx.1.2⟩)) HI.out.1.nrm (fun b hb=>by have:=HP.out b hb;have:=HBle.out;have:=hz.size;omega) (fun b hb=>Ql hb hz.size) HNN.out.2))
  have HLB:=Qh HI.out.1.box
  obtain ⟨li,lg,lA,ln,lc,ll⟩:=low
  obtain ⟨x0,x1,x2⟩:=HLB.out.cells
  simp only [Bd.v,Bd.vals] at HPi x0 x1 x2
  obtain ⟨E,hE⟩:∃ E,Bd.ed ⟨li,lg,lA,ln,lc,ll⟩=E:=⟨_,rfl⟩
  obtain ⟨b1,hb1⟩:∃ b,(pieceP La E).1=b:=⟨_,rfl⟩
  obtain ⟨b2,hb2⟩:∃ b,(pieceP Lb E).1=b:=⟨_,rfl⟩
  have HEd:=Qh hE
  unfold PiecePost at HPi
  simp only [HLL.out.1,HLL.out.2,hE,hb1,hb2] at HPi
  have HB12:=Qh (Qa hb1 hb2)
  clear hE hb1 hb2
  go_upto_region 6 with (first
   | (go_at_call 120;(with_reducible refine (HPi.out _ (Below.refl _ _)).1.mono ?_);rintro e z1 ⟨⟨di,dg,dA,dn,dc,dl⟩,rfl,hdt,hdn,hde,hb1⟩;have HD1:=Qh (Qa hdt (Qa hdn hde));have HZ1:=Qh hb1;have HLB1:=Qh (HLB.out.below hb1);clear hdt hdn hde hb1;have g1:B<z1.heap.size:=(by have:=HLB1.out.lt;omega);simp only [Bd.v,Bd.vals];obtain ⟨x0,x1,x2⟩:=HLB1.out.cells)
   | (go_at_call 120;(with_reducible refine (HPi.out _ (HZ1.out.alloc HZ1.out.size _)).2.mono ?_);rintro e z2 ⟨⟨ei,eg,eA,en,ec,el⟩,rfl,het,hen',hee,hb2⟩;have HD2:=Qh (Qa het (Qa hen' hee));have HZ2:=Qh hb2;have g2:z1.heap.size<z2.heap.size:=(by have:=hb2.size;simp at this;omega);have hbx:z2.heap[z1.heap.size]?=_:=(hb2.block z1.heap.size (by simp)).trans (heap_alloc_new z1 _);have HLB2:=Qh ((HLB1.out.below (Qb)).below hb2);have HB10:=Qh (show EBox z2 z1.heap.size ⟨di,dg,dA,dn,dc,dl⟩ from hbx);clear het hen' hee hb2 hbx;simp only [Bd.v,Bd.vals];obtain ⟨y0,y1,y2⟩:=HB10.out.cells))
  have hz1:=HZ1.out.size
  have hz2:=HZ2.out.size
  simp only [World.size_alloc] at hz2
  have HB12':=Qh (EBox.new z2 ⟨ei,eg,eA,en,ec,el⟩)
  have hb3:Below z2.heap.size z2 ((z2.alloc (.cells #[.int .i64 ei,.bool eg,.slice eA en ec] 67)).alloc (.cells #[.int .i64 di,.bool dg,.slice dA dn dc] 67)):=(Qb).alloc (by simp) _
  have b12:EBox ((z2.alloc (.cells #[.int .i64 ei,.bool eg,.slice eA en ec] 67)).alloc (.cells #[.int .i64 di,.bool dg,.slice dA dn dc] 67)) z2.heap.size ⟨ei,eg,eA,en,ec,el⟩:=EBox.below (EBox.new z2 ⟨ei,eg,eA,en,ec,el⟩) (Qb)
  have b13:EBox ((z2.alloc (.cells #[.int .i64 ei,.bool eg,.slice eA en ec] 67)).alloc (.cells #[.int .i64 di,.bool dg,.slice dA dn dc] 67)) (z2.heap.size+1) ⟨di,dg,dA,dn,dc,dl⟩:=by
   have:=EBox.new (z2.alloc (.cells #[.int .i64 ei,.bool eg,.slice eA en ec] 67)) ⟨di,dg,dA,dn,dc,dl⟩
   rwa [World.size_alloc] at this
  have HBX:=Qh (Qa b12 (Qa b13 (Qa (HB10.out.below hb3) (HLB2.out.below hb3))))
  have HZ3:=Qh (show Below wr.heap.size wr _ from ((HZ1.out.alloc HZ1.out.size _).trans (HZ2.out.mono (by simp;omega))).trans (hb3.mono (by omega)))
  have t1:=HD1.out.1.keep (Q:=fun x=>P x∨(wr.heap.size≤x∧x<z2.heap.size)) (w':=z2) (fun x hx=>⟨hx.imp id (fun k=>⟨k.1,by have:=k.2;omega⟩),(HZ2.out.block x (hx.elim (fun k=>by have:=HP.out x k;have:=HBle.out;simp;omega) (fun k=>by have:=k.2;simp;omega))).trans ((Qb).block x (hx.elim (fun k=>by have:=HP.out x k;have:=HBle.out;omega) (·.2)))⟩)
  have t2:=HD2.out.1.wide (Q:=fun x=>P x∨(wr.heap.size≤x∧x<z2.heap.size)) (fun x hx=>hx.imp id (fun k=>⟨by have:=k.1;simp at this;omega,k.2⟩))
  have HT:=Qh (Qa (t1.keep (Q:=fun x=>P x∨(wr.heap.size≤x∧x<z2.heap.size)) (fun x hx=>⟨hx,hb3.block x (hx.elim (fun k=>by have:=HP.out x k;have:=HBle.out;omega) (·.2))⟩)) (t2.keep (Q:=fun x=>P x∨(wr.heap.size≤x∧x<z2.heap.size)) (fun x hx=>⟨hx,hb3.block x (hx.elim (fun k=>by have:=HP.out x k;have:=HBle.out;omega) (·.2))⟩)))
  have HGw:=Qh (show wr.heap.size≤z2.heap.size by omega)
  have HG3:=Qh (show wr.heap.size<z2.heap.size∧z2.heap.size+1+1≤((z2.alloc (.cells #[.int .i64 ei,.bool eg,.slice eA en ec] 67)).alloc (.cells #[.int .i64 di,.bool dg,.slice dA dn dc] 67)).heap.size from ⟨by omega,by simp⟩)
  have HNd:=Qh (show Bd.Nrm ⟨di,dg,dA,dn,dc,dl⟩∧Bd.Nrm ⟨ei,eg,eA,en,ec,el⟩ from ⟨HD1.out.2.1,HD2.out.2.1⟩)
  have HEe:=Qh (show Bd.ed ⟨di,dg,dA,dn,dc,dl⟩=(pieceP La E).2∧Bd.ed ⟨ei,eg,eA,en,ec,el⟩=(pieceP Lb E).2 from ⟨HD1.out.2.2,HD2.out.2.2⟩)
  obtain ⟨G12,hG12⟩:∃ G,z2.heap.size=G:=⟨_,rfl⟩
  obtain ⟨G10,hG10⟩:∃ G,z1.heap.size=G:=⟨_,rfl⟩
  have HPz:=Qh (show ∀ x,(fun x=>P x∨(wr.heap.size≤x∧x<z2.heap.size)) x→x<G12 from fun x hx=>hx.elim (fun k=>by have:=HP.out x k;have:=HBle.out;omega) (fun k=>by rw [←hG12];exact k.2))
  have HPq:=Qh (show ∀ x,(fun x=>P x∨(wr.heap.size≤x∧x<z2.heap.size)) x→P x∨wr.heap.size≤x from fun x hx=>hx.imp id (·.1))
  obtain ⟨PG,hPG⟩:∃ Q,(fun x=>P x∨(wr.heap.size≤x∧x<z2.heap.size))=Q:=⟨_,rfl⟩
  rw [hPG] at HT HPz HPq
  rw [hG12] at HBX HG3 HGw
  rw [hG10] at HBX
  rw [hG12,hG10]
  clear HB12' hb3 b12 b13 HB10 HLB1 HLB2 HZ1 HZ2 t1 t2 HD1 HD2 hz1 hz2 g1 g2 x0 x1 x2 y0 y1 y2 hG12 hG10 hPG HLB HPi
  generalize ((z2.alloc (.cells #[.int .i64 ei,.bool eg,.slice eA en ec] 67)).alloc (.cells #[.int .i64 di,.bool dg,.slice dA dn dc] 67))=Z3 at *
  have HC:=Qh (fcmp_any HT.out.2 HT.out.1 (fun x hx=>by have:=HPz.out x hx;have:=HG3.out.2;omega) HNd.out.2.tri HNd.out.1.tri)
  have HMn:=Qh (minE_cmp HNd.out.1.tri HNd.out.2.tri)
  rw [HEe.out.1,HEe.out.2] at HMn
  simp only [Bd.v,Bd.vals] at HC
  obtain ⟨v,hv⟩:∃ v,cmpB ⟨ei,eg,eA,en,ec,el⟩ ⟨di,dg,dA,dn,dc,dl⟩=v:=⟨_,rfl⟩
  rw [hv] at HC HMn
  clear hv
  obtain ⟨x0,x1,x2⟩:=HBX.out.1.cells
  obtain ⟨y0,y1,y2⟩:=HBX.out.2.2.1.cells
  simp only at x0 x1 x2 y0 y1 y2
  by_cases hlt:v<0
  focus
   have d1:decide (v<0)=true:=decide_eq_true hlt
   have HMe:=Qh (HMn.out.1 hlt)
   go_upto_region 8 with (go_at_call 38;(with_reducible refine HC.out.mono ?_);rintro e z4 ⟨rfl,hg4⟩;have H4:=Qh hg4.bel;clear hg4 x0 x1 x2 y0 y1 y2;obtain ⟨x0,x1,x2⟩:=(HBX.out.1.below H4.out).cells;obtain ⟨y0,y1,y2⟩:=(HBX.out.2.1.below H4.out).cells;obtain ⟨f0,f1,f2⟩:=(HBX.out.2.1.below H4.out).frozens;simp only at x0 x1 x2 y0 y1 y2)
   have S1:=(HBX.out.2.1.below H4.out).set3 (⟨ei,eg,eA,en,ec,el⟩:Bd)
   have hz4:=H4.out.size
   have HB13:=Qh S1.1
   have HLw:=Qh ((HBX.out.2.2.2.below H4.out).gro S1.2 (by have:=HBle.out;have:=HG3.out.1;omega))
   have HBW:=Qh ((Qt HZ3.out H4.out).grown S1.2 (Nat.le_trans HZ3.out.size hz4) (fun j e=>by injection e with e;have:=HG3.out.1;omega))
   have HEA:=Qh (HT.out.2.keep (Q:=PG) (w':=((z4.setCell ⟨G12+1,0,none⟩ (.int .i64 ei)).setCell ⟨G12+1,1,none⟩ (.bool eg)).setCell ⟨G12+1,2,none⟩ (.slice eA en ec)) (fun x hx=>⟨hx,(S1.2.block x (by have:=HPz.out x hx;have:=HG3.out.2;omega) (fun e=>by injection e with e;have:=HPz.out x hx;omega)).trans (H4.out.block x (by have:=HPz.out x hx;have:=HG3.out.2;omega))⟩))
   have HG8:=Qh (show G12+1+1≤(((z4.setCell ⟨G12+1,0,none⟩ (.int .i64 ei)).setCell ⟨G12+1,1,none⟩ (.bool eg)).setCell ⟨G12+1,2,none⟩ (.slice eA en ec)).heap.size by simp;have:=HG3.out.2;omega)
   have HNe:=Qh HNd.out.2
   have HMe2:=Qh (HMe.out.trans HEe.out.2.symm)
   simp only at HB13
   clear S1 hz4 H4 HBX HZ3 HT HG3 HNd HEe HC HMn HMe hlt d1 x0 x1 x2 y0 y1 y2 f0 f1 f2
   generalize ((z4.setCell ⟨G12+1,0,none⟩ (.int .i64 ei)).setCell ⟨G12+1,1,none⟩ (.bool eg)).setCell ⟨G12+1,2,none⟩ (.slice eA en ec)=W8 at *
   obtain ⟨fi,rfl⟩:∃ s,s=ei:=⟨_,rfl⟩
   obtain ⟨fg,rfl⟩:∃ s,s=eg:=⟨_,rfl⟩
   obtain ⟨fA,rfl⟩:∃ s,s=eA:=⟨_,rfl⟩
   obtain ⟨fn,rfl⟩:∃ s,s=en:=⟨_,rfl⟩
   obtain ⟨fc,rfl⟩:∃ s,s=ec:=⟨_,rfl⟩
   obtain ⟨fl,rfl⟩:∃ s,s=el:=⟨_,rfl⟩
  rotate_left
  focus
   have d1:decide (v<0)=false:=decide_eq_false hlt
   have HMe:=Qh (HMn.out.2 hlt)
   go_upto_region 8 with (go_at_call 38;(with_reducible refine HC.out.mono ?_);rintro e z4 ⟨rfl,hg4⟩;have H4:=Qh hg4.bel;clear hg4 x0 x1 x2 y0 y1 y2)
   have hz4:=H4.out.size
   have HB13:=Qh (HBX.out.2.1.below H4.out)
   have HLw:=Qh (HBX.out.2.2.2.below H4.out)
   have HBW:=Qh (Qt HZ3.out H4.out)
   have HEA:=Qh (HT.out.1.keep (Q:=PG) (w':=z4) (fun x hx=>⟨hx,H4.out.block x (by have:=HPz.out x hx;have:=HG3.out.2;omega)⟩))
   have HG8:=Qh (show G12+1+1≤z4.heap.size by have:=HG3.out.2;omega)
   have HNe:=Qh HNd.out.1
   have HMe2:=Qh (HMe.out.trans HEe.out.1.symm)
   obtain ⟨W8,rfl⟩:∃ s,s=z4:=⟨_,rfl⟩
   clear hz4 H4 HBX HZ3 HT HG3 HNd HEe HC HMn HMe hlt d1
   obtain ⟨fi,rfl⟩:∃ s,s=di:=⟨_,rfl⟩
   obtain ⟨fg,rfl⟩:∃ s,s=dg:=⟨_,rfl⟩
   obtain ⟨fA,rfl⟩:∃ s,s=dA:=⟨_,rfl⟩
   obtain ⟨fn,rfl⟩:∃ s,s=dn:=⟨_,rfl⟩
   obtain ⟨fc,rfl⟩:∃ s,s=dc:=⟨_,rfl⟩
   obtain ⟨fl,rfl⟩:∃ s,s=dl:=⟨_,rfl⟩
  rotate_left
  all_goals
   have HK:=Qh (HF.out b1 b2 W8)
   have HStp:=Qh (HI.out.1.ms.step (e:=Bd.ed ⟨fi,fg,fA,fn,fc,fl⟩) HNf.out.1.1 HNf.out.1.2 HNf.out.2.1 HNf.out.2.2 (by rw [HEd.out];exact HMe2.out) _ rfl)
   rw [HEd.out,HB12.out.1,HB12.out.2] at HStp
   have HRow:=Qh ((HI.out.1.row.keep HBW.out HPw.out).wide (Q:=Or P (B+1) W8) (fun b hb=>hb.imp id (fun k=>⟨k.1,Ql k.2 HBW.out.size⟩)))
   have HLo:=Qh (HI.out.1.lo.keep (Q:=fun x=>(B+1≤x∧x<wr.heap.size)∧(Value.slice A2 m c2).ownBlock≠some x) (fun x hx=>⟨hx,HBW.out.block x hx.1.2⟩))
   have HFn:=Qh (show fn≤33554432 by have h1:=HNe.out.szE HEA.out.lim.len;have h2:=HStp.out.1;have h3:=HM.out;simp only at h1;omega)
   obtain ⟨x0,x1,x2⟩:=HB13.out.cells
   obtain ⟨y0,y1,y2⟩:=HLw.out.cells
   simp only at x0 x1 x2 y0 y1 y2
   have tf : -1≤fi∧fi≤1:=by have:=HNe.out.tri;unfold Bd.Tri at this;simp only at this;omega
   obtain ⟨tf1,tf2⟩:=tf
   have HStp2:=Qh (fun z (hz:∀ x,PG x→z.heap[x]?=W8.heap[x]?) (hsz:W8.heap.size≤z.heap.size)=>step_fr (w:=z) 1 (.inl rfl) (HEA.out.keep (Q:=PG) (fun x hx=>⟨hx,hz x hx⟩)) (fun x hx=>by have:=HPz.out x hx;have:=HG8.out;omega) HNe.out.tri (fun _=>HNe.out) HFn.out)
   simp only [Bd.v,Bd.vals] at HStp2
   have HGq:=Qh (Gd.of_sz HLo.out HEA.out HI.out.1.nrm HNe.out (by rw [HEd.out];have:=HI.out.1.ms.lob;rw [HEd.out] at this;exact this) HStp.out.1 HM.out)
   cases hw:wt b1 b2
   ·rw [hw] at HK HStp
    have HMs:=Qh (show (Bd.ed ⟨fi,fg,fA,fn,fc,fl⟩ = .hi→MEnd wt La Lb M (qs.map edsR))∧(Bd.ed ⟨fi,fg,fA,fn,fc,fl⟩ ≠ .hi→MS wt La Lb M (qs.map edsR) (succE (Bd.ed ⟨fi,fg,fA,fn,fc,fl⟩))∧mu (succE (Bd.ed ⟨fi,fg,fA,fn,fc,fl⟩)) (La ++ Lb)<mu E (La ++ Lb)) by simpa using HStp.out.2)
    clear HStp hw
    by_cases c1:0<fi
    ·have d2:decide (0<fi)=true:=decide_eq_true c1
     have HFi:=Qh (HMs.out.1 (Bd.ed_hi c1))
     have hbB:Below B w W8:=HI.out.1.bel.trans (HBW.out.mono HBle.out)
     have HbB:=Qh hbB
     clear hbB
     go_wp2_with (go_at_fn F;(with_reducible refine HK.out.mono ?_);rintro e z9 ⟨rfl,rfl⟩)
     go_ret
     exact ⟨_,_,_,qs,rfl,(HRow.out.set (fun b h1 h2=>.inr ⟨h1,h2⟩)).wide (fun b hb=>hb.imp id (fun k=>⟨by have:=k.1;omega,k.2⟩)),HI.out.1.gd,HFi.out,HbB.out⟩
    ·have d2:decide (0<fi)=false:=decide_eq_false c1
     have hne:Bd.ed ⟨fi,fg,fA,fn,fc,fl⟩ ≠ .hi:=by unfold Bd.ed;simp only;rw [if_neg c1];split <;> simp
     have HNx:=Qh (HMs.out.2 hne)
     clear hne
     go_wp2_with (first
      | (go_at_fn F;(with_reducible refine HK.out.mono ?_);rintro e z9 ⟨rfl,rfl⟩)
      | (go_at_call 64;(with_reducible refine (HStp2.out _ (fun _ _=>rfl) (Nat.le_refl _)).mono ?_);rintro e W10 ⟨⟨gi,gg,gA,gn',gc,gl⟩,rfl,hgt,hgn,hge,hgb⟩;have HQ:=Qh (Qa hgt (Qa hgn hge));have HBq:=Qh hgb;have HLq:=Qh (HLw.out.below hgb);clear hgt hgn hge hgb y0 y1 y2;simp only [Bd.v,Bd.vals];obtain ⟨y0,y1,y2⟩:=HLq.out.cells;obtain ⟨f0,f1,f2⟩:=HLq.out.frozens))
     have HS3:=Qh (HLq.out.set3 (⟨gi,gg,gA,gn',gc,gl⟩:Bd))
     dsimp only at HS3
     go_roundg (mu (succE (Bd.ed ⟨fi,fg,fA,fn,fc,fl⟩)) (La ++ Lb))
     case measure=>rw [←HI.out.2,HEd.out];exact HNx.out.2
     case rel=>
      have e1:=HBW.out.size
      have e2:=HBq.out.size
      have e3:=HS3.out.2.size
      have e4:=HI.out.1.le
      have hP8:∀ x,Or P (B+1) W8 x→x<W8.heap.size:=fun x hx=>hx.elim (fun k=>by have:=HP.out x k;omega) (·.2)
      refine ⟨A2,m,c2,qs,⟨gi,gg,gA,gn',gc,gl⟩,rfl,Qh ⟨⟨HS3.out.1,((HI.out.1.bel.trans (HBW.out.mono HBle.out)).trans (HBq.out.mono (by omega))).grown HS3.out.2 (by omega) (Qg (by omega)),by omega,HQ.out.1.keep (fun x hx=>⟨⟨⟨by have:=hx.1;omega,Ql hx.2 e3⟩,?_⟩,HS3.out.2.block x hx.2 (fun e=>by injection e with e;have:=hx.1;omega)⟩),HQ.out.2.1,((HRow.out.keep HBq.out hP8).keepP (fun b k1 k2=>HS3.out.2.block b k2 (fun e=>by injection e with e;omega)) (fun b hb=>HS3.out.2.block b (hb.elim (fun k=>by have:=HP.out b k;omega) (fun k=>by have:=k.2;omega)) (fun e=>by injection e with e;rcases hb with k | k;have:=HP.out b k;omega;have:=k.1;omega))).wide (fun b hb=>hb.imp id (fun k=>⟨k.1,by have:=k.2;omega⟩)),HI.out.1.gd,by rw [HQ.out.2.2,←succE_sh];exact HNx.out.1⟩,by rw [HQ.out.2.2,←succE_sh]⟩⟩
      rcases HRow.out.block with ⟨h1,_⟩ | ⟨g1,h1,h2,h3,h4⟩
      ·subst h1;simp [Value.ownBlock]
      ·rw [h4];intro e;injection e with e;have:=hx.1;omega
   ·rw [hw] at HK HStp
    have HMs:=Qh (show (Bd.ed ⟨fi,fg,fA,fn,fc,fl⟩ = .hi→MEnd wt La Lb M ((qs ++ [((⟨li,lg,lA,ln,lc,ll⟩:Bd),(⟨fi,fg,fA,fn,fc,fl⟩:Bd))]).map edsR))∧(Bd.ed ⟨fi,fg,fA,fn,fc,fl⟩ ≠ .hi→MS wt La Lb M ((qs ++ [((⟨li,lg,lA,ln,lc,ll⟩:Bd),(⟨fi,fg,fA,fn,fc,fl⟩:Bd))]).map edsR) (succE (Bd.ed ⟨fi,fg,fA,fn,fc,fl⟩))∧mu (succE (Bd.ed ⟨fi,fg,fA,fn,fc,fl⟩)) (La ++ Lb)<mu E (La ++ Lb)) by
     have h9:=HStp.out.2
     rw [if_pos rfl] at h9
     have e9:(qs ++ [((⟨li,lg,lA,ln,lc,ll⟩:Bd),(⟨fi,fg,fA,fn,fc,fl⟩:Bd))]).map edsR=qs.map edsR ++ [(E,Bd.ed ⟨fi,fg,fA,fn,fc,fl⟩)]:=by rw [List.map_append,←HEd.out];rfl
     rw [e9]
     exact h9)
    have HGn:=Qh (show ∀ q∈qs ++ [((⟨li,lg,lA,ln,lc,ll⟩:Bd),(⟨fi,fg,fA,fn,fc,fl⟩:Bd))],Gd q from fun q hq=>by
     rcases List.mem_append.1 hq with h1 | h1
     ·exact HI.out.1.gd q h1
     ·rw [List.mem_singleton.1 h1];exact HGq.out)
    have hml:m+1≤maxRg:=by have h8:=HI.out.1.ms.cnt;rw [List.length_map,HI.out.1.row.len] at h8;have:=HN9.out;have:=HLe.out;unfold maxRg;omega
    have HMl:=Qh hml
    have hB8:B+1≤W8.heap.size:=by have:=HI.out.1.le;have:=HBW.out.size;omega
    have HB8:=Qh hB8
    have HKid:=Qh (show Rg.At W8 (fun b=>Or P (B+1) W8 b∧(Value.slice A2 m c2).ownBlock≠some b) (⟨li,lg,lA,ln,lc,ll⟩,⟨fi,fg,fA,fn,fc,fl⟩) from
     ⟨HLo.out.wide (fun x hx=>⟨.inr ⟨hx.1.1,Ql hx.1.2 HBW.out.size⟩,hx.2⟩),HEA.out.wide (fun x hx=>⟨(HPq.out x hx).imp id (fun k=>⟨by have:=HI.out.1.le;omega,by have:=HPz.out x hx;have:=HG8.out;omega⟩),by
      rcases HI.out.1.row.block with ⟨h1,_⟩ | ⟨g1,h1,h2,h3,h4⟩
      ·subst h1;simp [Value.ownBlock]
      ·rw [h4];intro e;injection e with e;rcases HPq.out x hx with k | k
       ·have:=HP.out x k;omega
       ·omega⟩)⟩)
    have HPo:=Qh (show ∀ x,PG x→(Value.slice A2 m c2).ownBlock≠some x from fun x hx=>by
     rcases HI.out.1.row.block with ⟨h1,_⟩ | ⟨g1,h1,h2,h3,h4⟩
     ·subst h1;simp [Value.ownBlock]
     ·rw [h4];intro e;injection e with e;rcases HPq.out x hx with k | k
      ·have:=HP.out x k;omega
      ·omega)
    have HO13:=Qh (show (Value.slice A2 m c2).ownBlock≠some (G12+1) by
     rcases HI.out.1.row.block with ⟨h1,_⟩ | ⟨g1,h1,h2,h3,h4⟩
     ·subst h1;simp [Value.ownBlock]
     ·rw [h4];intro e;injection e with e;have:=HGw.out;omega)
    clear HStp hw hml hB8
    by_cases c1:0<fi
    ·have d2:decide (0<fi)=true:=decide_eq_true c1
     have HFi:=Qh (HMs.out.1 (Bd.ed_hi c1))
     go_wp2_with (first
      | (go_at_fn F;(with_reducible refine HK.out.mono ?_);rintro e z9 ⟨rfl,rfl⟩)
      | (at_builtin;refine wpList_app1P rfl _ _ rfl rfl rfl HRow.out HB8.out (fun b hb=>by have:=HP.out b hb;omega) HKid.out HMl.out ?_;intro A6 c6 w8 hr8 hb8 hs8 hk8;have HR8:=Qh hr8;have HB9:=Qh hb8;have HS8:=Qh hs8;have HX8:=Qh (show EBox w8 (G12+1) ⟨fi,fg,fA,fn,fc,fl⟩ from (hk8 (G12+1) HB13.out.lt HO13.out).trans HB13.out);have HL8:=Qh (show EBox w8 B ⟨li,lg,lA,ln,lc,ll⟩ from (hb8.block B (Nat.lt_succ_self B)).trans HLw.out);have HK8:=Qh (show ∀ x,PG x→w8.heap[x]?=W8.heap[x]? from fun x hx=>hk8 x (by have:=HPz.out x hx;have:=HG8.out;omega) (HPo.out x hx));clear hr8 hb8 hs8 hk8 x0 x1 x2 y0 y1 y2;obtain ⟨x0,x1,x2⟩:=HX8.out.cells;obtain ⟨y0,y1,y2⟩:=HL8.out.cells;simp only at x0 x1 x2 y0 y1 y2))
     go_ret
     exact ⟨_,_,_,_,rfl,(HR8.out.set (fun b h1 h2=>.inr ⟨h1,h2⟩)).wide (fun b hb=>hb.imp id (fun k=>⟨by have:=k.1;omega,k.2⟩)),HGn.out,HFi.out,(HI.out.1.bel.trans (HBW.out.mono HBle.out)).trans (HB9.out.mono (by omega))⟩
    ·have d2:decide (0<fi)=false:=decide_eq_false c1
     have hne:Bd.ed ⟨fi,fg,fA,fn,fc,fl⟩ ≠ .hi:=by unfold Bd.ed;simp only;rw [if_neg c1];split <;> simp
     have HNx:=Qh (HMs.out.2 hne)
     clear hne
     go_wp2_with (first
      | (go_at_fn F;(with_reducible refine HK.out.mono ?_);rintro e z9 ⟨rfl,rfl⟩)
      | (at_builtin;refine wpList_app1P rfl _ _ rfl rfl rfl HRow.out HB8.out (fun b hb=>by have:=HP.out b hb;omega) HKid.out HMl.out ?_;intro A6 c6 w8 hr8 hb8 hs8 hk8;have HR8:=Qh hr8;have HB9:=Qh hb8;have HS8:=Qh hs8;have HX8:=Qh (show EBox w8 (G12+1) ⟨fi,fg,fA,fn,fc,fl⟩ from (hk8 (G12+1) HB13.out.lt HO13.out).trans HB13.out);have HL8:=Qh (show EBox w8 B ⟨li,lg,lA,ln,lc,ll⟩ from (hb8.block B (Nat.lt_succ_self B)).trans HLw.out);have HK8:=Qh (show ∀ x,PG x→w8.heap[x]?=W8.heap[x]? from fun x hx=>hk8 x (by have:=HPz.out x hx;have:=HG8.out;omega) (HPo.out x hx));clear hr8 hb8 hs8 hk8 x0 x1 x2 y0 y1 y2;obtain ⟨x0,x1,x2⟩:=HX8.out.cells;obtain ⟨y0,y1,y2⟩:=HL8.out.cells;simp only at x0 x1 x2 y0 y1 y2)
      | (go_at_call 64;(with_reducible refine (HStp2.out _ HK8.out HS8.out).mono ?_);rintro e W10 ⟨⟨gi,gg,gA,gn',gc,gl⟩,rfl,hgt,hgn,hge,hgb⟩;have HQ:=Qh (Qa hgt (Qa hgn hge));have HBq:=Qh hgb;have HLq:=Qh (HL8.out.below hgb);clear hgt hgn hge hgb y0 y1 y2;simp only [Bd.v,Bd.vals];obtain ⟨y0,y1,y2⟩:=HLq.out.cells;obtain ⟨f0,f1,f2⟩:=HLq.out.frozens))
     have HS3:=Qh (HLq.out.set3 (⟨gi,gg,gA,gn',gc,gl⟩:Bd))
     dsimp only at HS3
     go_roundg (mu (succE (Bd.ed ⟨fi,fg,fA,fn,fc,fl⟩)) (La ++ Lb))
     case measure=>rw [←HI.out.2,HEd.out];exact HNx.out.2
     case rel=>
      have e1:=HBW.out.size
      have e2:=HBq.out.size
      have e3:=HS3.out.2.size
      have e4:=HI.out.1.le
      have e5:=HS8.out
      have hP8:∀ x,Or P (B+1) w8 x→x<w8.heap.size:=fun x hx=>hx.elim (fun k=>by have:=HP.out x k;omega) (·.2)
      refine ⟨A6,m+1,c6,_,⟨gi,gg,gA,gn',gc,gl⟩,rfl,Qh ⟨⟨HS3.out.1,(((HI.out.1.bel.trans (HBW.out.mono HBle.out)).trans (HB9.out.mono (by omega))).trans (HBq.out.mono (by omega))).grown HS3.out.2 (by omega) (Qg (by omega)),by omega,HQ.out.1.keep (fun x hx=>⟨⟨⟨by have:=hx.1;omega,Ql hx.2 e3⟩,?_⟩,HS3.out.2.block x hx.2 (fun e=>by injection e with e;have:=hx.1;omega)⟩),HQ.out.2.1,((HR8.out.keep HBq.out hP8).keepP (fun b k1 k2=>HS3.out.2.block b k2 (fun e=>by injection e with e;omega)) (fun b hb=>HS3.out.2.block b (hb.elim (fun k=>by have:=HP.out b k;omega) (fun k=>by have:=k.2;omega)) (fun e=>by injection e with e;rcases hb with k | k;have:=HP.out b k;omega;have:=k.1;omega))).wide (fun b hb=>hb.imp id (fun k=>⟨k.1,by have:=k.2;omega⟩)),HGn.out,by rw [HQ.out.2.2,←succE_sh];exact HNx.out.1⟩,by rw [HQ.out.2.2,←succE_sh]⟩⟩
      rcases HR8.out.block with ⟨h1,_⟩ | ⟨g1,h1,h2,h3,h4⟩
      ·subst h1;simp [Value.ownBlock]
      ·rw [h4];intro e;injection e with e;have:=hx.1;omega
theorem inter_ok:KeepOk 66 (fun x y=>x && y):=by
 intro x y w
 cases x <;> cases y
 all_goals
  go_enter Tryz.func66,Tryz.ntmps66
  go_wp2
  go_ret
  exact ⟨rfl,rfl⟩
theorem longE_of {M:Nat} {L:List R} (h:Bnd M L) (hM:M≤128):longE L=false:=by
 unfold longE
 rw [List.any_eq_false]
 intro r hr
 have:=h r hr
 simp
 omega
theorem Bnd.ends {M:Nat} {L N:List R} (h:Bnd M L) (he:∀ r∈N,(∃ s∈L,s.1=r.1)∧∃ s∈L,s.2=r.2):Bnd M N:=fun r hr=>by
 obtain ⟨⟨s,h1,h2⟩,t,h3,h4⟩:=he r hr
 exact ⟨by rw [←h2];exact (h s h1).1,by rw [←h4];exact (h t h3).2⟩
theorem give_ok {w:World} {P:Nat→Prop} {A:Option Addr} {n c M:Nat} {ps:List Rg} (h:SetP w P A n c ps) (hP:∀ b,P b→b<w.heap.size) (hs:Szs ps) (hn:n≤1000) (hb:Bnd M (ps.map edsR)) (hM:M≤128) :
  Calls Tryz.prog 52 #[.slice A n c] w fun e w'=>∃ A' n' c' qs w1,e = .returned (.tuple #[.slice A' n' c',.int .i64 0])∧NormRes w (ps.map edsR) n A' n' c' qs w1∧Below w1.heap.size w1 w':=by
 have HN:=Qh (normal_any h hP hs (by omega))
 have HL:=Qh (longE_of hb hM)
 have HB:=Qh hb
 have hn9:=hn
 clear h hP hs hb
 generalize ps.map edsR=L at *
 go_enter Tryz.func52,Tryz.ntmps52
 go_wp2_with (go_at_call 73;(with_reducible refine HN.out.mono ?_);rintro e w1 ⟨A1,n1,c1,qs,rfl,hres⟩;have HR:=Qh hres;have hn1:n1≤1000:=Nat.le_trans hres.2.2.2.2.2.1 hn9;clear hres)
 have HF:=Qh (fine_any (w:=w1) false (HR.out.1.set (fun b h1 h2=>⟨h1,h2⟩)) (fun b hb=>hb.2) (fun q hq=>⟨fun _=>(HR.out.2.1 q hq).2.1,fun _=>(HR.out.2.1 q hq).2.2⟩) (by omega))
 have e:fineC (longP qs) false n1=0:=by rw [longP_E,longE_of (HB.out.ends HR.out.2.2.2.2.1) hM];simp [fineC];omega
 rw [e] at HF
 clear e
 go_wp2_with (go_at_call 72;(with_reducible refine HF.out.mono ?_);rintro e w2 ⟨rfl,hb2⟩)
 first
  | (go_ret;exact ⟨_,_,_,qs,w1,rfl,HR.out,hb2⟩)
  | exact bodyPost_ret (v:=.tuple #[.slice A1 n1 c1,.int .i64 0]) (by simp [results,Tryz.results52,go_sem]) rfl ⟨_,_,_,qs,w1,rfl,HR.out,hb2⟩
structure SIn (w:World) (P:Nat→Prop) (A:Option Addr) (n c:Nat) (ps:List Rg) (K M:Nat):Prop where
 set:SetP w P A n c ps
 szs:Szs ps
 len:n≤K
 bnd:Bnd M (ps.map edsR)
theorem SIn.keep {w w':World} {P Q:Nat→Prop} {A:Option Addr} {n c K M:Nat} {ps:List Rg} (h:SIn w P A n c ps K M) (hb:∀ b,P b→Q b∧w'.heap[b]?=w.heap[b]?):SIn w' Q A n c ps K M:=⟨h.set.keep hb,h.szs,h.len,h.bnd⟩
structure SOut (w:World) (B:Nat) (A:Option Addr) (n c:Nat) (qs:List Rg) (K M:Nat):Prop where
 row:RRow w B (Fr B w) A n c qs
 gd:∀ q∈qs,Gd q
 nf:NF (qs.map edsR)
 len:n≤K
 bnd:Bnd M (qs.map edsR)
theorem SOut.set {w:World} {B:Nat} {A:Option Addr} {n c K M:Nat} {qs:List Rg} (h:SOut w B A n c qs K M):SetP w (Fr B w) A n c qs:=h.row.set (fun b h1 h2=>⟨h1,h2⟩)
theorem SOut.sin {w:World} {B:Nat} {A:Option Addr} {n c K M:Nat} {qs:List Rg} (h:SOut w B A n c qs K M):SIn w (Fr B w) A n c qs K M:=⟨h.set,fun q hq=>⟨fun _=>(h.gd q hq).2.1,fun _=>(h.gd q hq).2.2⟩,h.len,h.bnd⟩
theorem SOut.below {w w':World} {B:Nat} {A:Option Addr} {n c K M:Nat} {qs:List Rg} (h:SOut w B A n c qs K M) (hb:Below w.heap.size w w'):SOut w' B A n c qs K M:=⟨h.row.fr hb,h.gd,h.nf,h.len,h.bnd⟩
theorem SOut.lower {w:World} {B B':Nat} {A:Option Addr} {n c K M:Nat} {qs:List Rg} (h:SOut w B A n c qs K M) (hB:B'≤B):SOut w B' A n c qs K M:=⟨(h.row.wide (fun b hb=>⟨by omega,hb.2⟩)).lower hB,h.gd,h.nf,h.len,h.bnd⟩
theorem Done.out {B ad K M:Nat} {w:World} {s:SRec} (h:Done B w ad s) (hK:s.n≤K) (hM:Bnd M (s.ps.map edsR)):∃ A' n' c' qs,VBox w ad A' n' c'∧SOut w B A' n' c' qs K M∧(∀ z,Hf.mem z (qs.map edsR)↔Hf.mem z (s.ps.map edsR)):=by
 obtain ⟨A',n',c',qs,h1,h2,h3,h4,h5,h6,h7,h8⟩:=h
 exact ⟨A',n',c',qs,h1,⟨h2,h3,h4,by omega,hM.ends h6⟩,h5⟩
theorem memB_congr {L M:List R} (h:∀ z,Hf.mem z L↔Hf.mem z M) (z:Int):memB z L=memB z M:=Bool.eq_iff_iff.2 (by rw [memB_iff,memB_iff];exact h z)
abbrev V2 (w:World) (A A':Option Addr) (n c n' c':Nat):World:=
 ((w.alloc (.cells #[.slice A n c] 22)).alloc (.cells #[.slice A' n' c'] 22)).alloc (.cells #[.pointer (some ⟨w.heap.size,0,none⟩),.pointer (some ⟨w.heap.size+1,0,none⟩)] 89)
theorem V2_take {w:World} {P:Nat→Prop} {A A':Option Addr} {n c n' c' K M:Nat} {ps ps':List Rg} (h:SIn w P A n c ps K M) (h':SIn w P A' n' c' ps' K M) (hP:∀ b,P b→b<w.heap.size) (hK:K≤1000) (hM:M≤128) :
  Calls Tryz.prog 35 #[.slice none 0 0,.slice (some ⟨w.heap.size+1+1,0,none⟩) 2 2] (V2 w A A' n c n' c') fun e w'=>e = .returned (.int .i64 0)∧Below w.heap.size w w'∧w.heap.size+3≤w'.heap.size ∧
   (∃ A1 n1 c1 qs,VBox w' w.heap.size A1 n1 c1∧SOut w' (w.heap.size+3) A1 n1 c1 qs K M∧(∀ z,Hf.mem z (qs.map edsR)↔Hf.mem z (ps.map edsR))) ∧
   ∃ A1 n1 c1 qs,VBox w' (w.heap.size+1) A1 n1 c1∧SOut w' (w.heap.size+3) A1 n1 c1 qs K M∧(∀ z,Hf.mem z (qs.map edsR)↔Hf.mem z (ps'.map edsR)):=by
 have hb:Below w.heap.size w (V2 w A A' n c n' c'):=((Qb).alloc (by simp) _).alloc (by simp;omega) _
 have hz:(V2 w A A' n c n' c').heap.size=w.heap.size+3:=by simp
 have v0:VBox (V2 w A A' n c n' c') w.heap.size A n c:=by
  have h0:VBox (w.alloc (.cells #[.slice A n c] 22)) w.heap.size A n c:=heap_alloc_new w _
  exact (((Qb).alloc (by simp) _).block w.heap.size (by simp)).trans h0
 have v1:VBox (V2 w A A' n c n' c') (w.heap.size+1) A' n' c':=by
  have h0:VBox ((w.alloc (.cells #[.slice A n c] 22)).alloc (.cells #[.slice A' n' c'] 22)) (w.heap.size+1) A' n' c':=by
   have:=heap_alloc_new (w.alloc (.cells #[.slice A n c] 22)) (.cells #[.slice A' n' c'] 22)
   rwa [World.size_alloc] at this
  exact ((Qb).block (w.heap.size+1) (by simp)).trans h0
 have hp:(V2 w A A' n c n' c').heap[w.heap.size+1+1]?=some (.cells #[.pointer (some ⟨w.heap.size,0,none⟩),.pointer (some ⟨w.heap.size+1,0,none⟩)] 89 (0,0)):=by
  have:=heap_alloc_new ((w.alloc (.cells #[.slice A n c] 22)).alloc (.cells #[.slice A' n' c'] 22)) (.cells #[.pointer (some ⟨w.heap.size,0,none⟩),.pointer (some ⟨w.heap.size+1,0,none⟩)] 89)
  simpa using this
 have k1:=h.keep (Q:=P) (fun b hb2=>⟨hb2,hb.block b (hP b hb2)⟩)
 have k2:=h'.keep (Q:=P) (fun b hb2=>⟨hb2,hb.block b (hP b hb2)⟩)
 generalize V2 w A A' n c n' c'=W at *
 have hT:=take_any (w:=W) (P:=P) (ads:=[w.heap.size,w.heap.size+1]) (ss:=[⟨A,n,c,ps⟩,⟨A',n',c',ps'⟩]) (ns:=[]) (G:=w.heap.size+1+1) (q:=2) (r:=0) (c:=2) (ci:=0) (AI:=none)
  ⟨rfl,fun j ad s h1 h2=>by
   match j with
   | 0=>cases h1;cases h2;exact v0
   | 1=>cases h1;cases h2;exact v1
   | j+2=>simp at h1,fun s hs=>by
   simp only [List.mem_cons,List.not_mem_nil,or_false] at hs
   rcases hs with rfl | rfl
   ·exact ⟨k1.set,k1.szs,by have:=k1.len;simp only;omega⟩
   ·exact ⟨k2.set,k2.szs,by have:=k2.len;simp only;omega⟩,fun b hb2=>⟨by have:=hP b hb2;omega,by simp;have:=hP b hb2;omega⟩,by simp⟩
  ⟨fun j x h=>by simp at h,fun x h=>by simp at h⟩ (fun j ad h1=>by
   match j with
   | 0=>cases h1;rw [cell_of_row W _ 0 _ _ (0,0) hp];rfl
   | 1=>cases h1;rw [cell_of_row W _ 1 _ _ (0,0) hp];rfl
   | j+2=>simp at h1) (by omega) (by simp;omega) rfl rfl (by omega) (by omega)
 have hnl:anyLong [⟨A,n,c,ps⟩,⟨A',n',c',ps'⟩] []=false:=by
  simp [anyLong,longP_E,longE_of h.bnd hM,longE_of h'.bnd hM]
 refine hT.mono fun e w' ⟨hch,hcs⟩=>?_
 rw [hnl] at hcs
 rcases hcs with ⟨_,h1⟩ | ⟨_,_,s,hs,M',h1,h2,h3,h4⟩ | ⟨he,_,hd⟩
 ·cases h1
 ·exfalso
  simp only [List.mem_cons,List.not_mem_nil,or_false] at hs
  rcases hs with rfl | rfl
  ·have:=h.len;simp only at h4;omega
  ·have:=h'.len;simp only at h4;omega
 ·have hs3:=hch.size
  rw [hz] at hs3
  rw [hz] at hd
  refine ⟨he,hb.trans (hch.below (by omega) (fun ad had=>by simp at had;omega)),hs3,?_,?_⟩
  ·obtain ⟨A1,n1,c1,qs,d1,d2,d3⟩:=(hd 0 _ _ rfl rfl).out (K:=K) (M:=M) h.len h.bnd
   exact ⟨A1,n1,c1,qs,d1,d2,d3⟩
  ·obtain ⟨A1,n1,c1,qs,d1,d2,d3⟩:=(hd 1 _ _ rfl rfl).out (K:=K) (M:=M) h'.len h'.bnd
   exact ⟨A1,n1,c1,qs,d1,d2,d3⟩
def TwoPost (w:World) (wt:Bool→Bool→Bool) (La Lb:List R) (K M:Nat) (e:Ending) (w':World):Prop:=
 ∃ A m c qs,e = .returned (.tuple #[.slice A m c,.int .i64 0])∧SOut w' w.heap.size A m c qs K M∧(∀ z,Hf.mem z (qs.map edsR)↔wt (memB z La) (memB z Lb)=true)∧Below w.heap.size w w'
theorem two_ok {w:World} {P:Nat→Prop} {A A':Option Addr} {n c n' c' K M:Nat} {ps ps':List Rg} {F:FuncId} {wt:Bool→Bool→Bool} (h:SIn w P A n c ps K M) (h':SIn w P A' n' c' ps' K M) (hP:∀ b,P b→b<w.heap.size)
  (hK:4 * K+1≤1000) (hM:M+1≤128) (hF:KeepOk F wt) (hen0:∀ args w,(callFunc F args).run Tryz.prog w = .ok (.enter F args) w) :
  Calls Tryz.prog 65 #[.slice A n c,.slice A' n' c',.func (.func F) #[] #[]] w (TwoPost w wt (ps.map edsR) (ps'.map edsR) (4 * K+1) (M+1)):=by
 have HT:=Qh (V2_take h h' hP (by omega) (by omega))
 have HF:=Qh hF
 have HEn:=Qh hen0
 have HKM:=Qh (Qa hK hM)
 clear h h' hP hF hen0 hK hM
 go_enter Tryz.func65,Tryz.ntmps65
 go_wp2_with (go_at_call 35;(with_reducible refine HT.out.mono ?_);rintro e w1 ⟨rfl,hb1,hz1,⟨A1,n1,c1,q1,v1,o1,m1⟩,A2,n2,c2,q2,v2,o2,m2⟩;have HB1:=Qh (Qa hb1 hz1);have HO:=Qh (Qa o1 o2);have HMm:=Qh (Qa m1 m2);have x1:=v1.cell.1;have x2:=v2.cell.1;clear hb1 hz1 o1 o2 m1 m2)
 have HMe:=Qh (merge_any (w:=w1) HO.out.1.set HO.out.2.set HO.out.1.gd HO.out.2.gd (fun b hb=>hb.2) (by have:=HO.out.1.len;have:=HKM.out;omega) (by have:=HO.out.2.len;have:=HKM.out;omega) HO.out.1.nf HO.out.2.nf HO.out.1.bnd HO.out.2.bnd (by have:=HKM.out;omega) HF.out HEn.out)
 go_wp2_with (go_at_call 91;(with_reducible refine HMe.out.mono ?_);rintro e w2 ⟨A3,n3,c3,q3,rfl,hset,hgd,hme,hb2⟩;have HS3:=Qh hset;have HG3:=Qh hgd;have HM3:=Qh hme;have HB2:=Qh hb2;clear hset hgd hme hb2)
 have HL3:=Qh (show n3≤4 * K+1 by
  have h1:=HM3.out.len
  rw [List.length_map,List.length_map,List.length_map,HS3.out.row.len,HO.out.1.row.len,HO.out.2.row.len] at h1
  have:=HO.out.1.len
  have:=HO.out.2.len
  omega)
 have HGi:=Qh (give_ok (w:=w2) HS3.out (fun b hb=>hb.elim (fun k=>Ql k.2 HB2.out.size) (·.2)) (fun q hq=>⟨fun _=>(HG3.out q hq).2.1,fun _=>(HG3.out q hq).2.2⟩) (by have:=HL3.out;have:=HKM.out;omega) HM3.out.bnd HKM.out.2)
 go_wp2_with (go_at_call 52;(with_reducible refine HGi.out.mono ?_);rintro e w3 ⟨A4,n4,c4,q4,w4,rfl,hres,hb3⟩;have HR:=Qh hres;have HB3:=Qh hb3;clear hres hb3)
 obtain ⟨r1,r2,r3,r4,r5,r6,r7⟩:=HR.out
 have key:TwoPost w wt (ps.map edsR) (ps'.map edsR) (4 * K+1) (M+1) (.returned (.tuple #[.slice A4 n4 c4,.int .i64 0])) w3:=by
  have s1:=HB1.out.1.size
  have s2:=HB2.out.size
  have s3:=r7.size
  refine ⟨A4,n4,c4,q4,rfl,((⟨r1,r2,r3,by have:=HL3.out;omega,Bnd.ends HM3.out.bnd r5⟩:SOut w4 w2.heap.size A4 n4 c4 q4 (4 * K+1) (M+1)).below HB3.out).lower (by omega),fun z=>?_,(HB1.out.1.trans (HB2.out.mono (by omega))).trans ((r7.trans (HB3.out.mono s3)).mono (by omega))⟩
  rw [r4 z,HM3.out.mi.mem,memB_congr HMm.out.1,memB_congr HMm.out.2]
  exact ⟨And.right,fun k=>⟨trivial,k⟩⟩
 first
  | (go_ret;exact key)
  | exact bodyPost_ret (by simp [results,Tryz.results65,go_sem]) rfl key
theorem Inter_ok {w:World} {P:Nat→Prop} {A A':Option Addr} {n c n' c' K M:Nat} {ps ps':List Rg} (h:SIn w P A n c ps K M) (h':SIn w P A' n' c' ps' K M) (hP:∀ b,P b→b<w.heap.size) (hK:4 * K+1≤1000) (hM:M+1≤128) :
  Calls Tryz.prog 26 #[.slice A n c,.slice A' n' c'] w (TwoPost w (fun x y=>x && y) (ps.map edsR) (ps'.map edsR) (4 * K+1) (M+1)):=by
 have HT:=Qh (two_ok h h' hP hK hM inter_ok (enters_of Tryz.func66 (by kernel_rfl) rfl))
 clear h h' hP hK hM
 go_enter Tryz.func26,Tryz.ntmps26
 go_wp2_with (go_at_call 65;(with_reducible refine HT.out.mono ?_);rintro e w1 ⟨A3,m,c3,qs,rfl,hr⟩;have HR:=Qh hr;clear hr)
 exact bodyPost_ret (v:=.tuple #[.slice A3 m c3,.int .i64 0]) (by simp [results,Tryz.results26,go_sem]) rfl ⟨_,_,_,qs,rfl,HR.out⟩
theorem take1 {W:World} {P:Nat→Prop} {A AI:Option Addr} {n c K M ad G r ci:Nat} {ps:List Rg} {ns:List IRec} (h:SIn W P A n c ps K M) (hP:∀ b,P b→b<W.heap.size∧b≠ad) (hv:VBox W ad A n c) (hG:W.cell? ⟨G,0,none⟩=some (.pointer (some ⟨ad,0,none⟩)))
  (hGl:G<W.heap.size) (hGn:G≠ad) (hin:InIn W AI ns) (hl:∀ x∈ns,lng x.l=false) (hr:ns.length=r) (hr9:r≤1000000) (hK:K≤1000) (hM:M≤128) :
  Calls Tryz.prog 35 #[.slice AI r ci,.slice (some ⟨G,0,none⟩) 1 1] W fun e w'=>e = .returned (.int .i64 0)∧Chg W w' [ad]∧∃ A1 n1 c1 qs,VBox w' ad A1 n1 c1∧SOut w' W.heap.size A1 n1 c1 qs K M∧(∀ z,Hf.mem z (qs.map edsR)↔Hf.mem z (ps.map edsR)):=by
 have hT:=take_any (w:=W) (P:=P) (ads:=[ad]) (ss:=[⟨A,n,c,ps⟩]) (ns:=ns) (G:=G) (q:=1) (r:=r) (c:=1) (ci:=ci) (AI:=AI)
  ⟨rfl,fun j ad s h1 h2=>by
   match j with
   | 0=>cases h1;cases h2;exact hv
   | j+1=>simp at h1,fun s hs=>by
   rw [List.mem_singleton.1 hs]
   exact ⟨h.set,h.szs,by have:=h.len;simp only;omega⟩,fun b hb2=>⟨(hP b hb2).1,by simpa using (hP b hb2).2⟩,by simp⟩
  hin (fun j ad h1=>by
   match j with
   | 0=>cases h1;exact hG
   | j+1=>simp at h1) hGl (by simpa using hGn) rfl hr (by omega) hr9
 have hnl:anyLong [⟨A,n,c,ps⟩] ns=false:=by
  unfold anyLong
  rw [Bool.or_eq_false_iff]
  refine ⟨by simp [longP_E,longE_of h.bnd hM],List.any_eq_false.2 fun x hx=>by rw [hl x hx];simp⟩
 refine hT.mono fun e w' ⟨hch,hcs⟩=>?_
 rw [hnl] at hcs
 rcases hcs with ⟨_,h1⟩ | ⟨_,_,s,hs,M',h1,h2,h3,h4⟩ | ⟨he,_,hd⟩
 ·cases h1
 ·exfalso
  rw [List.mem_singleton.1 hs] at h4
  have:=h.len;simp only at h4;omega
 ·exact ⟨he,hch,(hd 0 _ _ rfl rfl).out (K:=K) (M:=M) h.len h.bnd⟩
def OnePost (w:World) (L:List R) (K M:Nat) (e:Ending) (w':World):Prop:=
 ∃ A m c qs,e = .returned (.tuple #[.slice A m c,.int .i64 0])∧SOut w' w.heap.size A m c qs K M∧(∀ z,Hf.mem z (qs.map edsR)↔Hf.mem z L)∧Below w.heap.size w w'
abbrev V1 (w:World) (A:Option Addr) (n c:Nat):World:=(w.alloc (.cells #[.slice A n c] 22)).alloc (.cells #[.pointer (some ⟨w.heap.size,0,none⟩)] 89)
theorem V1_facts (w:World) (A:Option Addr) (n c:Nat):Below w.heap.size w (V1 w A n c)∧(V1 w A n c).heap.size=w.heap.size+2∧VBox (V1 w A n c) w.heap.size A n c∧(V1 w A n c).cell? ⟨w.heap.size+1,0,none⟩=some (.pointer (some ⟨w.heap.size,0,none⟩)):=by
 refine ⟨(Qb).alloc (by simp) _,by simp,?_,?_⟩
 ·have h0:VBox (w.alloc (.cells #[.slice A n c] 22)) w.heap.size A n c:=heap_alloc_new w _
  exact ((Qb).block w.heap.size (by simp)).trans h0
 ·have:=heap_alloc_new (w.alloc (.cells #[.slice A n c] 22)) (.cells #[.pointer (some ⟨w.heap.size,0,none⟩)] 89)
  rw [World.size_alloc] at this
  rw [cell_of_row _ _ 0 _ _ (0,0) this]
  rfl
theorem InIn.nil (W:World):InIn W none []:=⟨fun j x h=>by simp at h,fun x h=>by simp at h⟩
theorem V1_take {w:World} {P:Nat→Prop} {A:Option Addr} {n c K M:Nat} {ps:List Rg} (h:SIn w P A n c ps K M) (hP:∀ b,P b→b<w.heap.size) (hK:K≤1000) (hM:M≤128) :
  Calls Tryz.prog 35 #[.slice none 0 0,.slice (some ⟨w.heap.size+1,0,none⟩) 1 1] (V1 w A n c) fun e w'=>e = .returned (.int .i64 0)∧Below w.heap.size w w'∧w.heap.size+2≤w'.heap.size ∧
   ∃ A1 n1 c1 qs,VBox w' w.heap.size A1 n1 c1∧SOut w' (w.heap.size+2) A1 n1 c1 qs K M∧(∀ z,Hf.mem z (qs.map edsR)↔Hf.mem z (ps.map edsR)):=by
 obtain ⟨hb,hz,hv,hc⟩:=V1_facts w A n c
 have hk:=h.keep (Q:=P) (fun b hb2=>⟨hb2,hb.block b (hP b hb2)⟩)
 generalize V1 w A n c=W at *
 refine (take1 (r:=0) (ci:=0) hk (fun b hb2=>⟨by have:=hP b hb2;omega,by have:=hP b hb2;omega⟩) hv hc (by omega) (by omega) (InIn.nil W) (fun x hx=>by cases hx) rfl (by omega) hK hM).mono fun e w' ⟨he,hch,hd⟩=>?_
 have hs3:=hch.size
 rw [hz] at hs3 hd
 exact ⟨he,hb.trans (hch.below (by omega) (fun ad had=>by simp at had;omega)),hs3,hd⟩
theorem Norm_ok {w:World} {P:Nat→Prop} {A:Option Addr} {n c K M:Nat} {ps:List Rg} (h:SIn w P A n c ps K M) (hP:∀ b,P b→b<w.heap.size) (hK:K≤1000) (hM:M≤128) :
  Calls Tryz.prog 24 #[.slice A n c] w (OnePost w (ps.map edsR) K M):=by
 have HT:=Qh (V1_take h hP hK hM)
 clear h hP hK hM
 go_enter Tryz.func24,Tryz.ntmps24
 go_wp2_with (go_at_call 35;(with_reducible refine HT.out.mono ?_);rintro e w1 ⟨rfl,hb1,hz1,A1,n1,c1,q1,v1,o1,m1⟩;have HB1:=Qh (Qa hb1 hz1);have HO:=Qh (Qa o1 m1);have x1:=v1.cell.1;clear hb1 hz1 o1 m1 v1)
 exact bodyPost_ret (v:=.tuple #[.slice A1 n1 c1,.int .i64 0]) (by simp [results,Tryz.results24,go_sem]) rfl ⟨_,_,_,q1,rfl,HO.out.1.lower (by omega),HO.out.2,HB1.out.1⟩
theorem NormResT.res {w w':World} {L:List R} {n n' c':Nat} {A':Option Addr} {qs:List Rg} (h:NormResT w L n A' n' c' qs w'):NormRes w L n A' n' c' qs w':=
 ⟨h.1.wide (fun b hb=>hb.1),h.2⟩
def DoneT (B:Nat) (w:World) (ad:Nat) (s:SRec):Prop:=∃ A' n' c' qs,VBox w ad A' n' c'∧RRow w B (Ft B w) A' n' c' qs∧(∀ q∈qs,Gd q)∧NF (qs.map edsR)∧(∀ z,Hf.mem z (qs.map edsR)↔Hf.mem z (s.ps.map edsR))∧(∀ r∈qs.map edsR,(∃ t∈s.ps.map edsR,t.1=r.1)∧∃ t∈s.ps.map edsR,t.2=r.2)∧n'≤s.n∧n'≤1000
theorem DoneT.keep {B ad:Nat} {w w':World} {s:SRec} (h:DoneT B w ad s) (hb:∀ b,(B≤b∧b<w.heap.size)∨b=ad→w'.heap[b]?=w.heap[b]?) (hz:w.heap.size≤w'.heap.size):DoneT B w' ad s:=by
 obtain ⟨A',n',c',qs,h1,h2,h3⟩:=h
 exact ⟨A',n',c',qs,(hb ad (.inr rfl)).trans h1,(h2.keepP (fun b k1 k2=>hb b (.inl ⟨k1,k2⟩)) (fun b k=>hb b (.inl k.1))).wide (fun b k=>⟨⟨k.1.1,Ql k.1.2 hz⟩,k.2.of (hb b (.inl k.1))⟩),h3⟩
def TakePostT (w:World) (ads:List Nat) (ss:List SRec) (ns:List IRec) (e:Ending) (w':World):Prop:=
 Chg w w' ads∧((e = .returned (.int .i64 10)∧anyLong ss ns=true) ∨
  (e = .returned (.int .i64 90)∧anyLong ss ns=false∧∃ s∈ss,∃ M,NF M∧(∀ z,Hf.mem z M↔Hf.mem z (s.ps.map edsR))∧1000<M.length∧M.length≤s.n) ∨
  (e = .returned (.int .i64 0)∧anyLong ss ns=false∧∀ (j ad:Nat) (s:SRec),ads[j]?=some ad→ss[j]?=some s→DoneT w.heap.size w' ad s))
structure T3t (w:World) (ads:List Nat) (ss:List SRec) (k:Nat) (wr:World):Prop where
 chg:Chg w wr ads
 done:∀ (j ad:Nat) (s:SRec),j<k→ads[j]?=some ad→ss[j]?=some s→DoneT w.heap.size wr ad s
 todo:∀ (j ad:Nat) (s:SRec),k≤j→ads[j]?=some ad→ss[j]?=some s→VBox wr ad s.A s.n s.c
theorem T3t.at_ {w wr:World} {P:Nat→Prop} {ads:List Nat} {ss:List SRec} {k ad:Nat} {s:SRec} (h:T3t w ads ss k wr) (hi:TkIn w P ads ss) (ha:ads[k]?=some ad) (hs:ss[k]?=some s):VBox wr ad s.A s.n s.c∧ad<w.heap.size∧SetP wr P s.A s.n s.c s.ps∧(∀ b,P b→b<wr.heap.size):=by
 refine ⟨h.todo k ad s (Nat.le_refl _) ha hs,(hi.box k ad s ha hs).lt,(hi.set s (List.mem_of_getElem? hs)).1.keep (fun b hb=>⟨hb,h.chg.block b (hi.far b hb).1 (hi.far b hb).2⟩),fun b hb=>Ql (hi.far b hb).1 h.chg.size⟩
theorem T3t.next {w wr z1 z3:World} {P:Nat→Prop} {ads:List Nat} {ss:List SRec} {k ad n' c':Nat} {A':Option Addr} {s:SRec} {qs:List Rg} (h:T3t w ads ss k wr) (hi:TkIn w P ads ss) (ha:ads[k]?=some ad) (hs:ss[k]?=some s)
  (hr:NormResT wr (s.ps.map edsR) s.n A' n' c' qs z1) (h3:Below z1.heap.size (z1.setCell ⟨ad,0,none⟩ (.slice A' n' c')) z3) (hn:n'≤1000):T3t w ads ss (k+1) z3:=by
 obtain ⟨hrow,hg,hnf,hm,he,hle,hb⟩:=hr
 obtain ⟨hv,hadlt,_,_⟩:=h.at_ hi ha hs
 have hv1:VBox z1 ad s.A s.n s.c:=(hb.block ad hv.lt).trans hv
 obtain ⟨hv2,hg2⟩:=hv1.set A' n' c'
 have hs1:=h.chg.size
 have hs2:=hb.size
 have hs3:=h3.size
 rw [World.size_setCell] at hs3
 have hadm:ad∈ads:=List.mem_of_getElem? ha
 have blk:∀ b,b<wr.heap.size→b≠ad→z3.heap[b]?=wr.heap[b]?:=fun b h1 h2=>((h3.block b (by omega)).trans (hg2.block b (by omega) (fun e=>by injection e with e;exact h2 e))).trans (hb.block b h1)
 refine ⟨⟨(h3.os.trans hg2.os).trans (hb.os.trans h.chg.os),(h3.tape.trans hg2.tape).trans (hb.tape.trans h.chg.tape),(h3.output.trans hg2.output).trans (hb.output.trans h.chg.output),by omega,fun b h1 h2=>(blk b (by omega) (fun e=>h2 (e ▸ hadm))).trans (h.chg.block b h1 h2)⟩,fun j ad' s' hj ha' hs'=>?_,fun j ad' s' hj ha' hs'=>?_⟩
 ·by_cases hjk:j=k
  ·subst hjk
   rw [ha] at ha'
   rw [hs] at hs'
   injection ha' with ha'
   injection hs' with hs'
   subst ha'
   subst hs'
   refine ⟨A',n',c',qs,(h3.block ad (by omega)).trans hv2,?_,hg,hnf,hm,he,hle,hn⟩
   have k1:∀ b,wr.heap.size≤b→b<z1.heap.size→z3.heap[b]?=z1.heap[b]?:=fun b h1 h2=>(h3.block b h2).trans (hg2.block b h2 (fun e=>by injection e with e;omega))
   exact ((hrow.keepP k1 (fun b hb=>k1 b hb.1.1 hb.1.2)).wide (fun b hb=>⟨⟨by have:=hb.1.1;omega,by have:=hb.1.2;omega⟩,hb.2.of (k1 b hb.1.1 hb.1.2)⟩)).lower (by omega)
  ·have hne:ad'≠ad:=fun e=>by
    subst e
    have hj':j<ads.length:=(List.getElem?_eq_some_iff.1 ha').1
    exact hjk ((List.getElem?_inj hj' hi.dis).1 (ha'.trans ha.symm))
   exact (h.done j ad' s' (by omega) ha' hs').keep (fun b hb=>by
    rcases hb with hb | hb
    ·exact blk b hb.2 (by omega)
    ·subst hb
     exact blk _ (by have:=(hi.box j _ s' ha' hs').lt;omega) hne) (by omega)
 ·have hne:ad'≠ad:=fun e=>by
   subst e
   have hj':j<ads.length:=(List.getElem?_eq_some_iff.1 ha').1
   have:=(List.getElem?_inj hj' hi.dis).1 (ha'.trans ha.symm)
   omega
  exact (blk ad' (by have:=(hi.box j _ s' ha' hs').lt;omega) hne).trans (h.todo j ad' s' (by omega) ha' hs')
theorem T3t.chg_next {w wr z1 z3:World} {P:Nat→Prop} {ads:List Nat} {ss:List SRec} {k ad n' c':Nat} {A':Option Addr} {s:SRec} {L:List R} {n:Nat} {qs:List Rg} (h:T3t w ads ss k wr) (hi:TkIn w P ads ss) (ha:ads[k]?=some ad) (hs:ss[k]?=some s)
  (hr:NormResT wr L n A' n' c' qs z1) (h3:Below z1.heap.size (z1.setCell ⟨ad,0,none⟩ (.slice A' n' c')) z3):Chg w z3 ads:=by
 obtain ⟨hrow,hg,hnf,hm,he,hle,hb⟩:=hr
 obtain ⟨hv,hadlt,_,_⟩:=h.at_ hi ha hs
 have hv1:VBox z1 ad s.A s.n s.c:=(hb.block ad hv.lt).trans hv
 obtain ⟨hv2,hg2⟩:=hv1.set A' n' c'
 have hs1:=h.chg.size
 have hs2:=hb.size
 have hs3:=h3.size
 rw [World.size_setCell] at hs3
 have hadm:ad∈ads:=List.mem_of_getElem? ha
 have blk:∀ b,b<wr.heap.size→b≠ad→z3.heap[b]?=wr.heap[b]?:=fun b h1 h2=>((h3.block b (by omega)).trans (hg2.block b (by omega) (fun e=>by injection e with e;exact h2 e))).trans (hb.block b h1)
 exact ⟨(h3.os.trans hg2.os).trans (hb.os.trans h.chg.os),(h3.tape.trans hg2.tape).trans (hb.tape.trans h.chg.tape),(h3.output.trans hg2.output).trans (hb.output.trans h.chg.output),by omega,fun b h1 h2=>(blk b (by omega) (fun e=>h2 (e ▸ hadm))).trans (h.chg.block b h1 h2)⟩
theorem take_t {w:World} {P:Nat→Prop} {ads:List Nat} {ss:List SRec} {ns:List IRec} {G q r c ci:Nat} {AI:Option Addr} (hi:TkIn w P ads ss) (hn:InIn w AI ns) (hG:∀ (j ad:Nat),ads[j]?=some ad→w.cell? ⟨G,j,none⟩=some (.pointer (some ⟨ad,0,none⟩))) (hGl:G<w.heap.size) (hGn:G∉ads)
  (hq:ads.length=q) (hr:ns.length=r) (hq9:q≤1000000) (hr9:r≤1000000) :
  Calls Tryz.prog 35 #[.slice AI r ci,.slice (some ⟨G,0,none⟩) q c] w (TakePostT w ads ss ns):=by
 have HI:=Qh hi
 have HN:=Qh hn
 have HG:=Qh (Qa hG (Qa hGl hGn))
 have HL:=Qh (Qa hq hr)
 obtain ⟨B,hB⟩:∃ B,w.heap.size=B:=⟨_,rfl⟩
 have HB:=Qh hB
 have HB0:=Qh (Below.refl B w)
 have HPost:=Qh (fun e w'=>(Iff.rfl:TakePostT w ads ss ns e w'↔TakePostT w ads ss ns e w'))
 unfold TakePostT
 clear hi hn hG hGl hGn hq hr hB
 go_enter Tryz.func35,Tryz.ntmps35
 go_wp2_with fail
 go_loopw [15] (fun vi wr=>∃ k,k≤q∧vi = .int .i64 (k:Nat)∧Hid (Below B w wr∧(ss.take k).any (fun s=>longP s.ps)=false)) (fun vi _=>q - (intOf vi).toNat)
 case atStart=>exact ⟨0,Nat.zero_le _,rfl,Qh ⟨HB0.out,rfl⟩⟩
 case round=>
  obtain ⟨k,hk,rfl,HR⟩:=hrel
  clear HB0
  by_cases hkq:k<q
  ·obtain ⟨ad,had⟩:∃ ad,ads[k]?=some ad:=⟨ads[k]'(by have:=HL.out.1;omega),by simp⟩
   obtain ⟨s,hs⟩:∃ s,ss[k]?=some s:=⟨ss[k]'(by have:=HL.out.1;have:=HI.out.len;omega),by simp⟩
   have hv:=HI.out.box k ad s had hs
   have hv2:VBox wr ad s.A s.n s.c:=(HR.out.1.block ad (by have:=hv.lt;have:=HB.out;omega)).trans hv
   have hst:=HI.out.set s (List.mem_of_getElem? hs)
   have HF:=Qh (fine_any (w:=wr) true (hst.1.keep (Q:=P) (fun b hb=>⟨hb,HR.out.1.block b (by have:=(HI.out.far b hb).1;have:=HB.out;omega)⟩)) (fun b hb=>Ql (HI.out.far b hb).1 HR.out.1.size) hst.2.1 hst.2.2)
   have HS:=Qh hs
   have hp:=(HR.out.1.cell (p:=⟨G,k,none⟩) (show G<B by have:=HG.out.2.1;have:=HB.out;omega)).trans (HG.out.1 k ad had)
   obtain ⟨v0,_⟩:=hv2.cell
   obtain ⟨sA,sn,sc,sps⟩:=s
   simp only at v0 HF
   have hki:(k:Int)<(q:Int):=by omega
   have hk0:(0:Int)≤(k:Int):=by omega
   clear hv hv2 hst hs had
   cases hlo:longP sps
   ·have e:fineC (longP sps) true sn=0:=by rw [hlo];rfl
    rw [e] at HF
    have HO:=Qh hlo
    clear e hlo
    go_wp2_with (go_at_call 72;(with_reducible refine HF.out.mono ?_);rintro e w4 ⟨rfl,hb4⟩)
    go_roundw
    case rel=>exact ⟨k+1,by omega,by go_num,Qh ⟨HR.out.1.trans (hb4.mono (by have:=HR.out.1.size;have:=HB.out;omega)),long_upto HS.out HR.out.2 HO.out⟩⟩
    case measure=>simp [intOf];omega
   ·have e:fineC (longP sps) true sn=10:=by rw [hlo];rfl
    rw [e] at HF
    have HO:=Qh hlo
    clear e hlo
    go_wp2_with (go_at_call 72;(with_reducible refine HF.out.mono ?_);rintro e w4 ⟨rfl,hb4⟩)
    go_ret
    refine ⟨Chg.of_below (by rw [HB.out];exact HR.out.1.trans (hb4.mono (by have:=HR.out.1.size;have:=HB.out;omega))),.inl ⟨rfl,?_⟩⟩
    unfold anyLong
    rw [Bool.or_eq_true]
    exact .inl (List.any_eq_true.2 ⟨_,List.mem_of_getElem? HS.out,HO.out⟩)
  ·have hkq2:k=q:=by omega
   have hki:¬(k:Int)<(q:Int):=by omega
   have HF1:=Qh (show ss.any (fun s=>longP s.ps)=false by have:=HR.out.2;rwa [List.take_of_length_le (by have:=HL.out.1;have:=HI.out.len;omega)] at this)
   have HR1:=Qh HR.out.1
   clear hkq2 HR hk
   go_wp2_with fail
   go_loopw [29] (fun vi wr=>∃ k,k≤r∧vi = .int .i64 (k:Nat)∧Hid (Below B w wr∧(ns.take k).any (fun x=>lng x.l)=false)) (fun vi _=>r - (intOf vi).toNat)
   case atStart=>exact ⟨0,Nat.zero_le _,rfl,Qh ⟨HR1.out,rfl⟩⟩
   case round=>
    obtain ⟨k2,hk,rfl,HR⟩:=hrel
    clear HR1
    by_cases hkr:k2<r
    ·obtain ⟨x,hx⟩:∃ x,ns[k2]?=some x:=⟨ns[k2]'(by have:=HL.out.2;omega),by simp⟩
     obtain ⟨g,o,rfl,hg,q0,q1⟩:=HN.out.at_ k2 x hx
     have hsl:=HN.out.sl x (List.mem_of_getElem? hx)
     have i0:=(HR.out.1.cell (p:=⟨g,o+k2 * 2,none⟩) (show g<B by have:=HB.out;omega)).trans q0
     have i1:=(HR.out.1.cell (p:=⟨g,o+k2 * 2+1,none⟩) (show g<B by have:=HB.out;omega)).trans q1
     have HX:=Qh hx
     obtain ⟨xg,xA,xn,xc,xl⟩:=x
     simp only at i0 i1 hsl
     have HBt:=Qh (fun (z:World) (hz:Below B w z)=>bits_any xg (hsl.1.below (C:=w.heap.size) (by rw [HB.out];exact hz) (Nat.le_refl _)) hsl.2 (by rw [HB.out];exact Nat.le_trans (Nat.le_of_eq HB.out.symm) hz.size))
     have HA:=Qh (show Below B w (wr.alloc (.cells #[.bool xg,.slice xA xn xc] 56)) from HR.out.1.alloc (by have:=HR.out.1.size;have:=HB.out;omega) _)
     have hX:IntBox (wr.alloc (.cells #[.bool xg,.slice xA xn xc] 56)) wr.heap.size ⟨xg,xA,xn,xc,xl⟩:=heap_alloc_new wr _
     have HLn:=Qh (show lng xl=decide (4096<blen (nv W xl)) from rfl)
     generalize blen (nv W xl)=bl at *
     have hki:(k2:Int)<(r:Int):=by omega
     have hk0:(0:Int)≤(k2:Int):=by omega
     clear hx q0 q1 hsl hX
     by_cases hbl:4096<bl
     ·have d1:decide (4096<(bl:Int))=true:=decide_eq_true (by omega)
      go_wp2_with (go_at_call 67;(with_reducible refine (HBt.out _ HA.out).mono ?_);rintro e w4 ⟨rfl,hb4⟩)
      go_ret
      refine ⟨Chg.of_below (by rw [HB.out];exact HA.out.trans (hb4.mono (by have:=HA.out.size;have:=HB.out;omega))),.inl ⟨rfl,?_⟩⟩
      unfold anyLong
      rw [Bool.or_eq_true]
      exact .inr (List.any_eq_true.2 ⟨_,List.mem_of_getElem? HX.out,by rw [HLn.out];exact decide_eq_true hbl⟩)
     ·have d1:decide (4096<(bl:Int))=false:=decide_eq_false (by omega)
      go_wp2_with (go_at_call 67;(with_reducible refine (HBt.out _ HA.out).mono ?_);rintro e w4 ⟨rfl,hb4⟩)
      go_roundw
      case rel=>exact ⟨k2+1,by omega,by go_num,Qh ⟨HA.out.trans (hb4.mono (by have:=HA.out.size;have:=HB.out;omega)),long_upto' HX.out HR.out.2 (by rw [HLn.out];exact decide_eq_false hbl)⟩⟩
      case measure=>simp [intOf];omega
    ·have hkr2:k2=r:=by omega
     have hki:¬(k2:Int)<(r:Int):=by omega
     have HAL:=Qh (show anyLong ss ns=false by
      have h2:=HR.out.2
      rw [List.take_of_length_le (by have:=HL.out.2;omega)] at h2
      unfold anyLong
      rw [HF1.out,h2];rfl)
     have HT0:=Qh (show T3t w ads ss 0 wr from ⟨Chg.of_below (by rw [HB.out];exact HR.out.1),fun j ad s h=>absurd h (Nat.not_lt_zero _),fun j ad s _ h1 h2=>(HR.out.1.block ad (by have:=(HI.out.box j ad s h1 h2).lt;have:=HB.out;omega)).trans (HI.out.box j ad s h1 h2)⟩)
     clear hkr2 HR HF1 hk
     go_wp2_with fail
     go_loopw [39] (fun vi wr=>∃ k,k≤q∧vi = .int .i64 (k:Nat)∧Hid (T3t w ads ss k wr)) (fun vi _=>q - (intOf vi).toNat)
     case atStart=>exact ⟨0,Nat.zero_le _,rfl,HT0⟩
     case round=>
      obtain ⟨k3,hk,rfl,HR⟩:=hrel
      clear HT0
      by_cases hkq:k3<q
      ·obtain ⟨ad,had⟩:∃ ad,ads[k3]?=some ad:=⟨ads[k3]'(by have:=HL.out.1;omega),by simp⟩
       obtain ⟨s,hs⟩:∃ s,ss[k3]?=some s:=⟨ss[k3]'(by have:=HL.out.1;have:=HI.out.len;omega),by simp⟩
       obtain ⟨hv,hadl,hset,hPb⟩:=HR.out.at_ HI.out had hs
       have hst:=HI.out.set s (List.mem_of_getElem? hs)
       have HNo:=Qh (normal_t (w:=wr) hset hPb hst.2.1 hst.2.2)
       have HAS:=Qh (Qa had hs)
       have hp:wr.cell? ⟨G,k3,none⟩=some (.pointer (some ⟨ad,0,none⟩)):=(Qc (a:=⟨G,k3,none⟩) (HR.out.chg.block G HG.out.2.1 HG.out.2.2)).trans (HG.out.1 k3 ad had)
       have HV:=Qh hv
       obtain ⟨v0,f0⟩:=hv.cell
       have HGp:=Qh hp
       have HSn:=Qh hst.2.2
       have HNl:=Qh (show longE (s.ps.map edsR)=false by
        have h2:=HAL.out
        unfold anyLong at h2
        rw [Bool.or_eq_false_iff] at h2
        have:=(List.any_eq_false.1 h2.1) s (List.mem_of_getElem? hs)
        rw [←longP_E]
        simpa using this)
       obtain ⟨sA,sn,sc,sps⟩:=s
       simp only at v0 HNo HNl HV HSn
       have hki:(k3:Int)<(q:Int):=by omega
       have hk0:(0:Int)≤(k3:Int):=by omega
       clear hv hadl hset hPb hst had hs
       go_wp2_with (go_at_call 73;(with_reducible refine HNo.out.mono ?_);rintro e z1 ⟨A1,n1,c1,qs,rfl,hres⟩;have HRes:=Qh hres;have HV1:=Qh (show VBox z1 ad sA sn sc from (hres.2.2.2.2.2.2.block ad HV.out.lt).trans HV.out);clear hres v0 f0;obtain ⟨v0,f0⟩:=HV1.out.cell)
       have HFi:=Qh (fine_res HRes.out.res HNl.out HSn.out HV.out.lt (HV1.out.set A1 n1 c1).2 (World.size_setCell _ _ _))
       have HVs:=Qh (HV1.out.set A1 n1 c1).1
       have hp1:(z1.setCell ⟨ad,0,none⟩ (.slice A1 n1 c1)).cell? ⟨ad,0,none⟩=some (.slice A1 n1 c1):=HVs.out.cell.1
       by_cases h9:1000<n1
       ·rw [if_pos h9] at HFi
        have HT:=Qh (fun z3 h3=>HR.out.chg_next (z3:=z3) HI.out HAS.out.1 HAS.out.2 HRes.out h3)
        have H9:=Qh h9
        clear h9
        (with_reducible refine HFi.out.mono ?_)
        rintro e z3 ⟨rfl,hb3⟩
        have HB3:=Qh hb3
        clear hb3
        go_wp2_with fail
        go_ret
        refine ⟨HT.out _ HB3.out,.inr (.inl ⟨rfl,HAL.out,_,List.mem_of_getElem? HAS.out.2,qs.map edsR,HRes.out.2.2.1,HRes.out.2.2.2.1,?_⟩)⟩
        rw [List.length_map,HRes.out.1.len]
        exact ⟨H9.out,HRes.out.2.2.2.2.2.1⟩
       ·rw [if_neg h9] at HFi
        have HT:=Qh (fun z3 h3=>HR.out.next (z3:=z3) HI.out HAS.out.1 HAS.out.2 HRes.out h3 (by omega))
        clear h9
        (with_reducible refine HFi.out.mono ?_)
        rintro e z3 ⟨rfl,hb3⟩
        have HT3:=Qh (HT.out _ hb3)
        clear hb3
        go_wp2_with fail
        go_roundw
        case rel=>exact ⟨k3+1,by omega,by go_num,HT3⟩
        case measure=>simp [intOf];omega
      ·have hkq2:k3=q:=by omega
       have hki:¬(k3:Int)<(q:Int):=by omega
       have HD:=Qh (fun j ad s h1 h2=>HR.out.done j ad s (by have:=HL.out.1;have:=(List.getElem?_eq_some_iff.1 h1).1;omega) h1 h2)
       clear hkq2
       go_wp2_with fail
       go_ret
       exact ⟨HR.out.chg,.inr (.inr ⟨rfl,HAL.out,HD.out⟩)⟩
def NormTB (B:Nat) (w:World) (ps:List Rg) (e:Ending) (w':World):Prop:=
 Below B w w'∧((e = .returned (.tuple #[.slice none 0 0,.int .i64 10])∧longP ps=true) ∨
  (e = .returned (.tuple #[.slice none 0 0,.int .i64 90])∧longP ps=false∧∃ M,NF M∧(∀ z,Hf.mem z M↔Hf.mem z (ps.map edsR))∧1000<M.length) ∨
  (∃ A1 n1 c1 qs,e = .returned (.tuple #[.slice A1 n1 c1,.int .i64 0])∧longP ps=false∧RRow w' B (Ft B w') A1 n1 c1 qs∧(∀ q∈qs,Gd q)∧NF (qs.map edsR)∧(∀ z,Hf.mem z (qs.map edsR)↔Hf.mem z (ps.map edsR))∧n1≤1000))
def NormT (w:World) (ps:List Rg) (e:Ending) (w':World):Prop:=NormTB w.heap.size w ps e w'
theorem V1_take_t {w:World} {P:Nat→Prop} {A:Option Addr} {n c:Nat} {ps:List Rg} (h:SetP w P A n c ps) (hP:∀ b,P b→b<w.heap.size) (hs:Szs ps) (hn:n≤1073741824) :
  Calls Tryz.prog 35 #[.slice none 0 0,.slice (some ⟨w.heap.size+1,0,none⟩) 1 1] (V1 w A n c) fun e w'=>Below w.heap.size w w'∧w.heap.size+2≤w'.heap.size ∧
   ((e = .returned (.int .i64 10)∧longP ps=true)∨(e = .returned (.int .i64 90)∧longP ps=false∧∃ M,NF M∧(∀ z,Hf.mem z M↔Hf.mem z (ps.map edsR))∧1000<M.length) ∨
    (e = .returned (.int .i64 0)∧longP ps=false∧∃ A1 n1 c1 qs,VBox w' w.heap.size A1 n1 c1∧RRow w' w.heap.size (Ft w.heap.size w') A1 n1 c1 qs∧(∀ q∈qs,Gd q)∧NF (qs.map edsR)∧(∀ z,Hf.mem z (qs.map edsR)↔Hf.mem z (ps.map edsR))∧n1≤1000)):=by
 obtain ⟨hb,hz,hv,hc⟩:=V1_facts w A n c
 have hk:=h.keep (w':=V1 w A n c) (Q:=P) (fun b hb2=>⟨hb2,hb.block b (hP b hb2)⟩)
 generalize V1 w A n c=W at *
 have hT:=take_t (w:=W) (P:=P) (ads:=[w.heap.size]) (ss:=[⟨A,n,c,ps⟩]) (ns:=[]) (G:=w.heap.size+1) (q:=1) (r:=0) (c:=1) (ci:=0) (AI:=none)
  ⟨rfl,fun j ad s h1 h2=>by
   match j with
   | 0=>cases h1;cases h2;exact hv
   | j+1=>simp at h1,fun s hs2=>by
   rw [List.mem_singleton.1 hs2]
   exact ⟨hk,hs,hn⟩,fun b hb2=>⟨by have:=hP b hb2;omega,by have:=hP b hb2;simp;omega⟩,by simp⟩
  (InIn.nil W) (fun j ad h1=>by
   match j with
   | 0=>cases h1;exact hc
   | j+1=>simp at h1) (by omega) (by simp) rfl rfl (by omega) (by omega)
 have hnl:anyLong [⟨A,n,c,ps⟩] []=longP ps:=by simp [anyLong]
 refine hT.mono fun e w' ⟨hch,hcs⟩=>?_
 rw [hnl] at hcs
 have hs3:=hch.size
 rw [hz] at hs3
 refine ⟨hb.trans (hch.below (by omega) (fun ad had=>by simp at had;omega)),hs3,?_⟩
 rcases hcs with ⟨he,h1⟩ | ⟨he,h0,s,hs2,M',h1,h2,h3,h4⟩ | ⟨he,h0,hd⟩
 ·exact .inl ⟨he,h1⟩
 ·rw [List.mem_singleton.1 hs2] at h2
  exact .inr (.inl ⟨he,h0,M',h1,h2,h3⟩)
 ·obtain ⟨A1,n1,c1,qs,k1,k2,k3,k4,k5,k6,k7,k8⟩:=hd 0 _ _ rfl rfl
  rw [hz] at k2
  exact .inr (.inr ⟨he,h0,A1,n1,c1,qs,k1,(k2.lower (by omega)).wide (fun b hb2=>⟨⟨by have:=hb2.1.1;omega,hb2.1.2⟩,hb2.2⟩),k3,k4,k5,k8⟩)
theorem Norm_t {w:World} {P:Nat→Prop} {A:Option Addr} {n c:Nat} {ps:List Rg} (h:SetP w P A n c ps) (hP:∀ b,P b→b<w.heap.size) (hs:Szs ps) (hn:n≤1073741824) :
  Calls Tryz.prog 24 #[.slice A n c] w (NormT w ps):=by
 have HT:=Qh (V1_take_t h hP hs hn)
 have HPost:=Qh (fun e w' (h:NormTB w.heap.size w ps e w')=>show NormT w ps e w' from h)
 unfold NormT
 clear h hP hs hn
 go_enter Tryz.func24,Tryz.ntmps24
 go_wp2_with fail
 (with_reducible refine HT.out.mono ?_)
 rintro e w1 ⟨hb1,hz1,hcs⟩
 rcases hcs with ⟨he,h1⟩ | ⟨he,h0,M,h1⟩ | ⟨he,h0,A1,n1,c1,qs,hv,hrow,hrest⟩
 ·subst he
  have key:NormTB w.heap.size w ps (.returned (.tuple #[.slice none 0 0,.int .i64 10])) w1:=⟨hb1,.inl ⟨rfl,h1⟩⟩
  clear hb1 h1
  go_wp2_with fail
  exact bodyPost_ret (by simp [results,Tryz.results24,go_sem]) rfl key
 ·subst he
  have key:NormTB w.heap.size w ps (.returned (.tuple #[.slice none 0 0,.int .i64 90])) w1:=⟨hb1,.inr (.inl ⟨rfl,h0,M,h1⟩)⟩
  clear hb1 h1 h0
  go_wp2_with fail
  exact bodyPost_ret (by simp [results,Tryz.results24,go_sem]) rfl key
 ·subst he
  have key:NormTB w.heap.size w ps (.returned (.tuple #[.slice A1 n1 c1,.int .i64 0])) w1:=⟨hb1,.inr (.inr ⟨A1,n1,c1,qs,rfl,h0,hrow,hrest⟩)⟩
  have x1:=hv.cell.1
  clear hb1 hrow hrest h0 hv
  go_wp2_with fail
  exact bodyPost_ret (by simp [results,Tryz.results24,go_sem]) rfl key
end
section
open Go.RowKit Hb
abbrev OwnI:=Own 3
end
section
open Go.RowKit Hb
attribute [local go_sem ↓] Go.wp_at_zero Go.wp_at_succ
end
section
open Go.RowKit Hb
def Bx (w:World) (g:Nat) (x y:Value):Prop:=w.heap[g]?=some (.cells #[x,y] 56 (0,0))
section
variable {w w':World} {C g:Nat} {x y u v:Value} {p:Addr}
theorem Bx.below (h:Bx w g x y) (hb:Below C w w') (hg:g<C):Bx w' g x y:=(hb.block g hg).trans h
theorem Bx.facts (h:Bx w g x y):w.cell? ⟨g,0,none⟩=some x∧w.cell? ⟨g,1,none⟩=some y∧w.frozen? ⟨g,0,none⟩=false∧w.frozen? ⟨g,1,none⟩=false:=
 two_cells (Below.refl (g+1) w) h (by omega)
theorem Bx.lt (h:Bx w g x y):g<w.heap.size:=(Array.getElem?_eq_some_iff.1 h).1
theorem Bx.alloc (h:Bx w g x y) (o:Obj):Bx (w.alloc o) g x y:=by
 have:=h.lt
 unfold Bx at h ⊢
 rw [World.alloc]
 simp only [Array.getElem?_push]
 rw [if_neg (by omega)];exact h
theorem Bx.new (w:World) (x y:Value):Bx (w.alloc (.cells #[x,y] 56)) w.heap.size x y:=heap_alloc_new w _
end
theorem Own.farB {t:TypeId} {w:World} {B n c:Nat} {A:Option Addr} {xs:List Value} {p:Addr} (h:Own t w B A n c xs) (hp:p.block<B) (u:Value):Own t (w.setCell p u) B A n c xs:=by
 refine h.far ?_ u
 intro g' hA
 rcases h.form with ⟨h1,_⟩ | ⟨g2,h1,h2,_⟩
 ·rw [h1] at hA;cases hA
 ·rw [h1] at hA
  injection hA with hA
  injection hA with hA
  omega
def pval (r:Nat) (ds:List Nat):Nat:=ds.foldl (fun a d=>a * r+d) 0
theorem pval_snoc (r:Nat) (ds:List Nat) (d:Nat):pval r (ds ++ [d])=pval r ds * r+d:=by simp [pval]
theorem pval_take_succ (r:Nat) (ds:List Nat) {k:Nat} (h:k<ds.length):pval r (ds.take (k+1))=pval r (ds.take k) * r+ds.getD k 0:=by
 rw [List.take_succ_eq_append_getElem h,pval_snoc,getD_eq h]
theorem nrm_snoc {l:List Nat} {c:Nat} (hc:c≠0):Nrm (l ++ [c]):=by
 intro h;simpa using hc
theorem nrm_len {l:List Nat} (hn:Nrm l) {k:Nat} (h:nv W l<W ^ k):l.length≤k:=by
 by_cases hl:l = []
 ·simp [hl]
 ·have h1:=nv_ge (b:=W) hn hl
  have:=pow_lt_pow' (b:=W) (by decide) (Nat.lt_of_le_of_lt h1 h)
  have hlen:0<l.length:=List.length_pos_iff.2 hl
  omega
def PRel (W0:World) (r:Nat) (ds:List Nat) (i:Nat) (lv:Value) (wr:World):Prop:=
 ∃ A n c l,lv = .slice A n c∧OwnU wr W0.heap.size A n c (u32s l)∧l.length=n∧n≤128∧Dig W l∧Nrm l∧nv W l=pval r (ds.take i)∧nv W l<2 ^ 4096∧Below W0.heap.size W0 wr
def PIn (W0:World) (A:Option Addr) (n c:Nat) (l:List Nat) (r d k:Nat) (cv:Value) (wr:World):Prop:=
 ∃ (o:List Nat) (cy:Nat),cv = .int .u64 (cy:Int)∧cy<4294967296∧o.length=n∧Dig W o∧(∀ j,k≤j→o.getD j 0=l.getD j 0)∧nv W o+W ^ k * cy+nvp W l k=nvp W l k * r+d+nv W l ∧
  OwnU wr W0.heap.size A n c (u32s o)∧Below W0.heap.size W0 wr
theorem par_lt {x r c:Nat} (hx:x<4294967296) (hr:r≤36) (hc:c<4294967296):x * r≤154618822620∧(x * r+c) / 4294967296<4294967296:=by
 have h:x * r≤4294967295 * 36:=Nat.mul_le_mul (by omega) hr
 omega
theorem PIn.facts {W0 wr:World} {g n c:Nat} {l:List Nat} {r d k:Nat} {cv:Value} (h:PIn W0 (some ⟨g,0,none⟩) n c l r d k cv wr) (hk:k<n) (hr:r≤36) (hl:Dig W l) :
  ∃ cy:Nat,cv = .int .u64 (cy:Int)∧cy<4294967296∧wr.cell? ⟨g,k,none⟩=some (.int .u32 (l.getD k 0:Nat))∧wr.frozen? ⟨g,k,none⟩=false ∧
   PIn W0 (some ⟨g,0,none⟩) n c l r d (k+1) (.int .u64 (((l.getD k 0 * r+cy) / 4294967296:Nat):Int)) (wr.setCell ⟨g,k,none⟩ (.int .u32 (((l.getD k 0 * r+cy) % 4294967296:Nat):Int))):=by
 obtain ⟨o,cy,rfl,h1,h2,h3,h4,h5,h6,h7⟩:=h
 have hx:l.getD k 0<4294967296:=hl.getD (by decide) k
 obtain ⟨g1,g2⟩:=par_lt hx hr h1
 have hB:W0.heap.size≤g:=by
  obtain ⟨g',e,h8,_⟩:=Own.at_ h6 (by omega)
  injection e with e;injection e with e;omega
 refine ⟨cy,rfl,h1,by rw [Own.cell h6 hk,u32s_get (by omega),h4 k (Nat.le_refl _)],Own.frozen h6 k,?_⟩
 refine ⟨o.set k ((l.getD k 0 * r+cy) % 4294967296),_,rfl,g2,by simpa using h2,h3.set (Nat.mod_lt _ (by decide)) _,fun j hj=>?_,?_,?_,h7.setCell hB _⟩
 ·rw [lget_set_ne (by omega)];exact h4 j (by omega)
 ·have e1:=nv_set W (l:=o) (p:=k) (by omega) ((l.getD k 0 * r+cy) % 4294967296)
  rw [h4 k (Nat.le_refl _)] at e1
  rw [nvp_succ,pow_succ_mul]
  have e2:W ^ k * ((l.getD k 0 * r+cy) % 4294967296)+W ^ k * (W * ((l.getD k 0 * r+cy) / 4294967296))=W ^ k * (l.getD k 0 * r)+W ^ k * cy:=by
   rw [←Nat.mul_add,←Nat.mul_add]
   congr 1
   exact Nat.mod_add_div _ _
  rw [Nat.add_mul,Nat.mul_assoc (W ^ k)]
  omega
 ·have:=Own.set_ h6 k (.int .u32 (((l.getD k 0 * r+cy) % 4294967296:Nat):Int))
  rwa [u32s_set] at this
theorem PIn.done {W0 wr:World} {A:Option Addr} {n c:Nat} {l:List Nat} {r d:Nat} {cv:Value} (h:PIn W0 A n c l r d n cv wr) (hl:l.length=n) :
  ∃ (o:List Nat) (cy:Nat),cv = .int .u64 (cy:Int)∧cy<4294967296∧o.length=n∧Dig W o∧nv W o+W ^ n * cy=nv W l * r+d∧OwnU wr W0.heap.size A n c (u32s o)∧Below W0.heap.size W0 wr:=by
 obtain ⟨o,cy,rfl,h1,h2,h3,h4,h5,h6,h7⟩:=h
 rw [nvp_all (Nat.le_of_eq hl)] at h5
 exact ⟨o,cy,rfl,h1,h2,h3,by omega,h6,h7⟩
theorem PRel.more {W0 wr:World} {A:Option Addr} {n c:Nat} {l o:List Nat} {r i cy:Nat} {ds:List Nat} (hi:i<ds.length) (hv:nv W l=pval r (ds.take i)) (hcy:cy≠0) (hcy4:cy<4294967296)
  (h1:o.length=n) (h2:Dig W o) (h3:nv W o+W ^ n * cy=nv W l * r+ds.getD i 0) (h4:OwnU wr W0.heap.size A (n+1) c (u32s (o ++ [cy]))) (h5:Below W0.heap.size W0 wr) :
  nv W (o ++ [cy])=pval r (ds.take (i+1))∧(nv W (o ++ [cy])<2 ^ 4096→PRel W0 r ds (i+1) (.slice A (n+1) c) wr):=by
 have e:nv W (o ++ [cy])=pval r (ds.take (i+1)):=by rw [pval_take_succ r ds hi,←hv,←h3,nv_snoc,h1]
 have hl:(o ++ [cy]).length=n+1:=by simp [h1]
 refine ⟨e,fun hlt=>⟨A,n+1,c,o ++ [cy],rfl,h4,hl,?_,h2.append (Dig.cons hcy4 (Dig.nil _)),nrm_snoc hcy,e,hlt,h5⟩⟩
 have:=nrm_len (k:=128) (nrm_snoc (l:=o) hcy) (by rw [W128];exact hlt)
 omega
def chrN (d:Nat):Nat:=if d<10 then 48+d else 87+d
def u8s (l:List Nat):List Value:=l.map fun x:Nat=>Value.int .u8 (x:Int)
abbrev OwnB:=Own 5
theorem u8s_get {l:List Nat} {i:Nat} (h:i<l.length):(u8s l)[i]?=some (.int .u8 (l.getD i 0:Nat)):=by
 simp [u8s,h]
theorem u8s_set (l:List Nat) (k x:Nat):(u8s l).set k (.int .u8 (x:Int))=u8s (l.set k x):=by simp [u8s,List.map_set]
def TIn (W1:World) (B1 B2 g n c:Nat) (l:List Nat) (A':Option Addr) (n' c':Nat) (out:List Nat) (r i:Nat) (sv:Value) (wr:World):Prop:=
 ∃ (o:List Nat) (rem:Nat),sv = .int .u32 (rem:Int)∧rem<r∧o.length=n∧Dig W o∧(∀ j,j<i→o.getD j 0=l.getD j 0)∧nv W (o.drop i) * r+rem=nv W (l.drop i) ∧
  OwnU wr B1 (some ⟨g,0,none⟩) n c (u32s o)∧OwnB wr B2 A' n' c' (u8s out)∧Below B1 W1 wr
theorem drop_set_nv {o:List Nat} {j q:Nat} (h:j<o.length):nv W ((o.set j q).drop j)=q+W * nv W (o.drop (j+1)):=by
 rw [drop_nv W _ (by simpa using h),List.getD_eq_getElem?_getD,List.getElem?_set_self h,List.drop_set_of_lt (by omega)];rfl
theorem TIn.facts {W1 wr:World} {B1 B2 g n c:Nat} {l:List Nat} {A':Option Addr} {n' c':Nat} {out:List Nat} {r j:Nat} {sv:Value}
  (h:TIn W1 B1 B2 g n c l A' n' c' out r (j+1) sv wr) (hj:j<n) (hl:Dig W l) (hln:l.length=n) (hr:r≤36) (hg1:B1≤g) (hg2:g<B2) :
  ∃ rem:Nat,sv = .int .u32 (rem:Int)∧rem<r∧wr.cell? ⟨g,j,none⟩=some (.int .u32 (l.getD j 0:Nat))∧wr.frozen? ⟨g,j,none⟩=false ∧
   Hid (∀ w2,Dr wr w2→w2.cell? ⟨g,j,none⟩=some (.int .u32 (l.getD j 0:Nat))∧w2.frozen? ⟨g,j,none⟩=false∧TIn W1 B1 B2 g n c l A' n' c' out r j (.int .u32 (((rem * 4294967296+l.getD j 0) % r:Nat):Int)) (w2.setCell ⟨g,j,none⟩ (.int .u32 (((rem * 4294967296+l.getD j 0) / r:Nat):Int)))):=by
 obtain ⟨o,rem,rfl,h0,h1,h2,h3,h4,h5,h6,h7⟩:=h
 have hx:l.getD j 0<4294967296:=hl.getD (by decide) j
 have hc:wr.cell? ⟨g,j,none⟩=some (.int .u32 (l.getD j 0:Nat)):=by rw [Own.cell h5 hj,u32s_get (by omega),h3 j (by omega)]
 have hf:=Own.frozen h5 j
 have hq:(rem * 4294967296+l.getD j 0) / r<4294967296:=Nat.div_lt_of_lt_mul (by
  have:=Nat.mul_le_mul_right 4294967296 (show rem+1≤r from h0)
  rw [Nat.add_mul] at this
  rw [Nat.mul_comm r];omega)
 refine ⟨rem,rfl,h0,hc,hf,fun w2 hd=>⟨(hd.cell _).trans hc,(hd.frozen _).trans hf,?_⟩⟩
 have k5:OwnU w2 B1 (some ⟨g,0,none⟩) n c (u32s o):=by obtain ⟨k,rfl⟩:=hd;exact h5
 have k6:OwnB w2 B2 A' n' c' (u8s out):=by obtain ⟨k,rfl⟩:=hd;exact h6
 have k7:Below B1 W1 w2:=by obtain ⟨k,rfl⟩:=hd;exact belowN h7 k
 refine ⟨o.set j ((rem * 4294967296+l.getD j 0) / r),_,rfl,Nat.mod_lt _ (by omega),by simpa using h1,h2.set hq _,fun i hi=>?_,?_,?_,Own.farB k6 hg2 _,k7.setCell hg1 _⟩
 ·rw [lget_set_ne (by omega)];exact h3 i (by omega)
 ·rw [drop_set_nv (by omega),drop_nv W l (by omega),←h4]
  have e:=Nat.div_add_mod (rem * 4294967296+l.getD j 0) r
  show ((rem * 4294967296+l.getD j 0) / r+4294967296 * nv W (o.drop (j+1))) * r+_=l.getD j 0+4294967296 * _
  rw [Nat.add_mul,Nat.mul_add,Nat.mul_comm _ r,Nat.mul_assoc]
  omega
 ·have:=Own.set_ k5 j (.int .u32 (((rem * 4294967296+l.getD j 0) / r:Nat):Int))
  rwa [u32s_set] at this
theorem TIn.done {W1 wr:World} {B1 B2 g n c:Nat} {l:List Nat} {A':Option Addr} {n' c':Nat} {out:List Nat} {r:Nat} {sv:Value}
  (h:TIn W1 B1 B2 g n c l A' n' c' out r 0 sv wr) :
  ∃ o:List Nat,sv = .int .u32 ((nv W l % r:Nat):Int)∧nv W l % r<r∧o.length=n∧Dig W o∧nv W o=nv W l / r∧OwnU wr B1 (some ⟨g,0,none⟩) n c (u32s o)∧OwnB wr B2 A' n' c' (u8s out)∧Below B1 W1 wr:=by
 obtain ⟨o,rem,rfl,h0,h1,h2,h3,h4,h5,h6,h7⟩:=h
 simp only [List.drop_zero] at h4
 have e1:nv W l % r=rem:=by rw [←h4,Nat.mul_comm,Nat.mul_add_mod,Nat.mod_eq_of_lt h0]
 have e2:nv W l / r=nv W o:=by rw [←h4,Nat.mul_comm,Nat.mul_add_div (by omega),Nat.div_eq_of_lt h0,Nat.add_zero]
 exact ⟨o,by rw [e1],by rw [e1];exact h0,h1,h2,e2.symm,h5,h6,h7⟩
def TRel (W1:World) (B1 B2 g c r N:Nat) (lv ov:Value) (wr:World):Prop:=
 ∃ (n:Nat) (l:List Nat) (A':Option Addr) (n' c':Nat) (ds:List Nat),lv = .slice (some ⟨g,0,none⟩) n c∧ov = .slice A' n' c'∧l.length=n∧n≤128∧Dig W l∧Nrm l ∧
  digs r N=ds ++ digs r (nv W l)∧ds.length=n'∧n'≤4096∧OwnU wr B1 (some ⟨g,0,none⟩) n c (u32s l)∧OwnB wr B2 A' n' c' (u8s (ds.map chrN))∧Below B1 W1 wr
theorem TRel.lt {r N:Nat} {l:List Nat} {ds:List Nat} (hr:2≤r) (hn:l ≠ []) (hnrm:Nrm l) (h:digs r N=ds ++ digs r (nv W l)):ds.length<(digs r N).length:=by
 have h1:=nv_pos (b:=W) (by decide) hnrm hn
 rw [h,digs_pos (by omega) (by omega)]
 simp
def RvRel (w1:World) (B1 B2 n g c:Nat) (l:List Nat) (i:Nat) (wr:World):Prop:=
 ∃ o:List Nat,o.length=n∧(∀ j,j<n→o.getD j 0=if j<i∨n≤j+i then l.getD (n - 1 - j) 0 else l.getD j 0)∧OwnB wr B2 (some ⟨g,0,none⟩) n c (u8s o)∧Below B1 w1 wr
theorem RvRel.facts {w1 wr:World} {B1 B2 n g c i k:Nat} {l:List Nat} (h:RvRel w1 B1 B2 n g c l i wr) (hk:k+i+1=n) (hik:i<k) (hB:B1≤g) :
  wr.cell? ⟨g,i,none⟩=some (.int .u8 (l.getD i 0:Nat))∧wr.cell? ⟨g,k,none⟩=some (.int .u8 (l.getD k 0:Nat))∧wr.frozen? ⟨g,i,none⟩=false∧wr.frozen? ⟨g,k,none⟩=false ∧
   RvRel w1 B1 B2 n g c l (i+1) ((wr.setCell ⟨g,i,none⟩ (.int .u8 (l.getD k 0:Nat))).setCell ⟨g,k,none⟩ (.int .u8 (l.getD i 0:Nat))):=by
 obtain ⟨o,h1,h2,h3,h4⟩:=h
 have e1:=h2 i (by omega)
 rw [if_neg (by omega)] at e1
 have e2:=h2 k (by omega)
 rw [if_neg (by omega)] at e2
 refine ⟨by rw [Own.cell h3 (by omega),u8s_get (by omega),e1],by rw [Own.cell h3 (by omega),u8s_get (by omega),e2],Own.frozen h3 i,Own.frozen h3 k,?_⟩
 refine ⟨(o.set i (l.getD k 0)).set k (l.getD i 0),by simpa using h1,fun j hj=>?_,?_,(h4.setCell hB _).setCell hB _⟩
 ·by_cases hjk:j=k
  ·subst hjk
   rw [List.getD_eq_getElem?_getD,List.getElem?_set_self (by simp;omega),if_pos (by omega),show n - 1 - j=i by omega];rfl
  ·rw [lget_set_ne (by omega)]
   by_cases hji:j=i
   ·subst hji
    rw [List.getD_eq_getElem?_getD,List.getElem?_set_self (by omega),if_pos (by omega),show n - 1 - j=k by omega];rfl
   ·rw [lget_set_ne (by omega),h2 j hj]
    by_cases hc:j<i∨n≤j+i
    ·rw [if_pos hc,if_pos (by omega)]
    ·rw [if_neg hc,if_neg (by omega)]
 ·have:=Own.set_ (Own.set_ h3 i (.int .u8 (l.getD k 0:Nat))) k (.int .u8 (l.getD i 0:Nat))
  rwa [u8s_set,u8s_set] at this
theorem RvRel.done {w1 wr:World} {B1 B2 n g c i:Nat} {l:List Nat} (h:RvRel w1 B1 B2 n g c l i wr) (hl:l.length=n) (hi:n≤2 * i+1):OwnB wr B2 (some ⟨g,0,none⟩) n c (u8s l.reverse)∧Below B1 w1 wr:=by
 obtain ⟨o,h1,h2,h3,h4⟩:=h
 have:o=l.reverse:=by
  refine List.ext_getElem (by rw [List.length_reverse];omega) fun j hj hj2=>?_
  have e:=h2 j (by omega)
  rw [getD_eq hj] at e
  rw [e,List.getElem_reverse,←getD_eq]
  by_cases hc:j<i∨n≤j+i
  ·rw [if_pos hc,hl]
  ·rw [if_neg hc,hl,show n - 1 - j=j by omega]
 exact ⟨by rw [←this];exact h3,h4⟩
end
section
open Go.ChangeShapes Go.WideShapes Go.ChangeAt Go.RowKit Go.Joins Hb
section
end
end
section
open Go.RowKit Hb
structure VE where
 g:Nat
 neg:Bool
 A:Option Addr
 n:Nat
 c:Nat
 l:List Nat
section
end
section
end
section
end
section
end
theorem Own.same {t:TypeId} {w w':World} {B g n c:Nat} {xs:List Value} (h:Own t w B (some ⟨g,0,none⟩) n c xs) (he:w'.heap[g]?=w.heap[g]?):Own t w' B (some ⟨g,0,none⟩) n c xs:=by
 refine ⟨h.1,?_⟩
 rcases h.2 with ⟨h1,_⟩ | ⟨g',cap,cur,h1,h2,h3,h4⟩
 ·cases h1
 ·have h5:=h1
  injection h5 with a b cc
  injection a with a
  injection a with a
  subst a
  exact .inr ⟨g,cap,cur,h1,h2,he.trans h3,h4⟩
section
end
def ResB (w:World) (B:Nat) (v:Value) (z:Int):Prop:=
 ∃ A c,v = .agg #[.bool (decide (z<0)),.slice A (digs 2 z.natAbs).length c]∧OwnI w B A (digs 2 z.natAbs).length c (i64s (digs 2 z.natAbs))
theorem rsame_true (s:Bool) {B B':Nat} {A A':Option Addr} {l:List Nat} {n c c':Nat} {w:World} (hs:SlU w B A n c l) (ht:SlU w B' A' n c' l) (hB:B≤w.heap.size) (hB':B'≤w.heap.size) :
  Calls Tryz.prog 93 #[.agg #[.bool s,.slice A n c],.agg #[.bool s,.slice A' n c']] w fun e w'=>e = .returned (.bool true)∧Below w.heap.size w w':=by
 have hm:=hs.max
 have hcp:=hs.cap
 unfold maxLen at hm
 have HB:=Qh (((Below.refl w.heap.size w).alloc (Nat.le_refl _) (.cells #[.bool s,.slice A n c] 56)).alloc (by simp) (.cells #[.bool s,.slice A' n c'] 56))
 have HX0:=Qh ((Bx.new w (.bool s) (.slice A n c)).alloc (.cells #[.bool s,.slice A' n c'] 56))
 have hx1:=Bx.new (w.alloc (.cells #[.bool s,.slice A n c] 56)) (.bool s) (.slice A' n c')
 rw [World.size_alloc] at hx1
 have HX1:=Qh hx1
 have HS:=Qh (fun w1 (hb:Below w.heap.size w w1)=>Qa (hs.below (C:=w.heap.size) hb hB) (ht.below (C:=w.heap.size) hb hB'))
 have hn9:(n:Int)≤9223372036854775807:=by omega
 clear hs ht hB hB' hx1 hm hcp
 go_enter Tryz.func93,Tryz.ntmps93
 go_wp2_with fail
 generalize ((w.alloc (.cells #[.bool s,.slice A n c] 56)).alloc (.cells #[.bool s,.slice A' n c'] 56))=w2 at *
 go_loopw [5] (fun iv wr=>∃ i:Nat,i≤n∧iv = .int .i64 (i:Int)∧Dr w2 wr) (fun iv _=>n - (intOf iv).toNat)
 case atStart=>exact ⟨0,Nat.zero_le _,rfl,Dr.refl _⟩
 case round=>
  obtain ⟨i,hi,rfl,hdr⟩:=hrel
  have HDr:=Qh hdr
  have hbd:=hdr.below w2.heap.size
  obtain ⟨a0,a1,_,_⟩:=(HX0.out.below hbd (Bx.lt HX0.out)).facts
  obtain ⟨b0,b1,_,_⟩:=(HX1.out.below hbd (Bx.lt HX1.out)).facts
  have HBr:=Qh (Qt HB.out hbd)
  have hi0:(0:Int)≤(i:Int):=by omega
  clear hdr hbd
  by_cases hin:i<n
  ·have hiI:(i:Int)<(n:Int):=by omega
   obtain ⟨b,o,rfl,_,hc1⟩:=SlU.at_ (HS.out wr HBr.out).1 (by omega)
   obtain ⟨b',o',rfl,_,hc2⟩:=SlU.at_ (HS.out wr HBr.out).2 (by omega)
   have hx:=hc1 i hin
   have hy:=hc2 i hin
   generalize l.getD i 0=x at *
   clear hc1 hc2 HS
   go_wp2
   go_quiet (fail)
   go_wp2
   go_roundw
   case rel=>exact ⟨i+1,by omega,by go_num,HDr.out.more _⟩
   case measure=>simp [intOf];omega
  ·obtain rfl:i=n:=by omega
   clear HS
   go_wp2
   go_ret
   exact ⟨rfl,HBr.out⟩
end
end Go.Proofs.YtpikjceodmepiaaGreatDoor
