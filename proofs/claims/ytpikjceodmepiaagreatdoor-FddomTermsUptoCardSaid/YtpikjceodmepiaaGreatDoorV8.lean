import Derived.Shelf.Small.Bits
import Derived.Test.YtpikjceodmepiaaGreatDoorRows
import Derived.WalkKit
import Derived.Deep.QuietTactic
import Derived.BigQuiet
import Derived.Deep.RegionHeld3
import Derived.Deep.DrawnRows
import Derived.Deep.DeepCutAuto
import Derived.Deep.CutBlock
import Derived.Laws.BytesArg
import Derived.Laws.AppendOwnNone
import Derived.ProofKit
import Derived.OpenShut
import Derived.JoinedCond
import Derived.JoinedOf
import Derived.JoinedAt
import Derived.ChangeSame
import Derived.ChangeSlices
import Derived.RowKit3
import Derived.Carry
import Derived.Lib.SmallJoins
import Derived.Deep.LoopGhost
import Derived.Maps.AppendAt
import Derived.IntWalk
import Derived.Test.YtpikjceodmepiaaGreatDoorV1
import Derived.Test.YtpikjceodmepiaaGreatDoorV2
import Derived.Test.YtpikjceodmepiaaGreatDoorV3
import Derived.Test.YtpikjceodmepiaaGreatDoorV4
import Derived.Test.YtpikjceodmepiaaGreatDoorV6
import Derived.Test.YtpikjceodmepiaaGreatDoorV7
import Derived.Test.YtpikjceodmepiaaGreatDoorV0
set_option maxRecDepth 1000000
set_option maxHeartbeats 64000000
set_option linter.unusedVariables false
set_option linter.unusedSimpArgs false
namespace Go.Proofs.YtpikjceodmepiaaGreatDoor
section
open Go.RowKit Hb Hf
attribute [local go_sem ↓] Go.wp_at_zero Go.wp_at_succ
theorem Bd.Nrm.same {a b:Bd} (ha:a.Nrm) (hb:b.Nrm) (h:a.ed=b.ed):a.i=b.i∧a.g=b.g∧a.l=b.l:=by
 obtain ⟨ta,oa,da⟩:=ha
 obtain ⟨tb,ob,db⟩:=hb
 have key:a.i=b.i∧(a.i=0→a.z=b.z):=by
  rcases ta with t | t | t <;> rcases tb with s | s | s
  all_goals
   first | rw [Bd.ed_lo (b:=a) (by omega)] at h | rw [Bd.ed_zero (b:=a) t] at h | rw [Bd.ed_hi (b:=a) (by omega)] at h
   first | rw [Bd.ed_lo (b:=b) (by omega)] at h | rw [Bd.ed_zero (b:=b) s] at h | rw [Bd.ed_hi (b:=b) (by omega)] at h
   first
    | cases h;done
    | (refine ⟨by omega,fun h0=>?_⟩;first | omega | (injection h))
 obtain ⟨k1,k2⟩:=key
 by_cases h0:a.i=0
 ·rw [da.1,da.2,db.1,db.2,k2 h0];exact ⟨k1,rfl,rfl⟩
 ·rw [(oa h0).1,(oa h0).2,(ob (by omega)).1,(ob (by omega)).2];exact ⟨k1,rfl,rfl⟩
theorem sameBound_true {a b:Bd} {P:Nat→Prop} {w:World} (ha:a.At w P) (hb:b.At w P) (hP:∀ x,P x→x<w.heap.size) (h1:a.i=b.i) (h2:a.g=b.g) (h3:a.l=b.l) :
  Calls Tryz.prog 68 #[a.v,b.v] w fun e w'=>e = .returned (.bool true)∧Below w.heap.size w w':=by
 have HG:=Qh (((Below.refl w.heap.size w).alloc (Nat.le_refl _) (.cells a.vals.toArray 67)).alloc (by simp) (.cells b.vals.toArray 67))
 have r1:=ha.r1
 have r2:=ha.r2
 have hl:a.n=b.n:=by rw [←ha.lim.len,←hb.lim.len,h3]
 have hb2:SlU w w.heap.size b.A a.n b.c a.l:=by rw [h3,hl];exact hb.lim.sl hP
 have HC:=Qh (fun w1 (k1:Below w.heap.size w w1)=>rsame_true a.g ((ha.lim.sl hP).below (C:=w.heap.size) k1 (Nat.le_refl _)) (hb2.below (C:=w.heap.size) k1 (Nat.le_refl _)) k1.size k1.size)
 have e1:=EBox.new w a
 have e2:=EBox.new (w.alloc (.cells a.vals.toArray 67)) b
 have e3:=(EBox.below e1 (w':=(w.alloc (.cells a.vals.toArray 67)).alloc (.cells b.vals.toArray 67)) (Qb))
 obtain ⟨ai,ag,aA,an,ac,al⟩:=a
 obtain ⟨bi,bg,bA,bn,bc,bl⟩:=b
 simp only at h1 h2 h3 hl r1 r2
 subst h1 h2 h3 hl
 obtain ⟨x0,x1,x2⟩:=e3.cells
 obtain ⟨y0,y1,y2⟩:=e2.cells
 rw [World.size_alloc] at y0 y1 y2
 simp only [Bd.v,Bd.vals] at *
 clear ha hb hb2 hP e1 e2 e3
 go_enter Tryz.func68,Tryz.ntmps68
 go_wp2_with (go_at_call 93;(with_reducible refine (HC.out _ HG.out).mono ?_);rintro e w1 ⟨rfl,hg1⟩)
 go_ret
 exact ⟨rfl,Qt HG.out hg1⟩
theorem sameRanges_true {w:World} {P:Nat→Prop} {A A':Option Addr} {n n' c c':Nat} {ps qs:List Rg} (h:SetP w P A n c ps) (h':SetP w P A' n' c' qs) (hP:∀ b,P b→b<w.heap.size) (hg:∀ p∈ps,p.1.Nrm∧p.2.Nrm) (hg':∀ p∈qs,p.1.Nrm∧p.2.Nrm) (he:ps.map edsR=qs.map edsR) :
  Calls Tryz.prog 29 #[.slice A n c,.slice A' n' c'] w fun e w'=>e = .returned (.bool true)∧Below w.heap.size w w':=by
 have hnn:n'=n:=by
  have h1:=congrArg List.length he
  rw [List.length_map,List.length_map,h.row.len,h'.row.len] at h1
  exact h1.symm
 subst hnn
 have HS:=Qh (Qa h h')
 have HP:=Qh hP
 have HNm:=Qh (Qa hg hg')
 have HEq:=Qh he
 have HLn:=Qh (Qa h.row.len h'.row.len)
 have hcap:=h.row.cap
 have hmax:=h.row.max
 unfold maxLen at hmax
 obtain ⟨B,hB⟩:∃ B,w.heap.size=B:=⟨_,rfl⟩
 have HB:=Qh hB
 rw [hB]
 clear h h' hP hg hg' he hB
 go_enter Tryz.func29,Tryz.ntmps29
 go_wp2_with fail
 go_loopw [5] (fun vi wr=>∃ k,k≤n'∧vi = .int .i64 (k:Nat)∧Hid (Below B w wr)) (fun vi _=>n' - (intOf vi).toNat)
 case atStart=>exact ⟨0,Nat.zero_le _,rfl,Qh (Below.refl _ _)⟩
 case round=>
  obtain ⟨k,hk,rfl,HI⟩:=hrel
  by_cases hkn:k<n'
  ·skip
   obtain ⟨p,hp⟩:∃ p,ps[k]?=some p:=⟨ps[k]'(by have:=HLn.out;omega),by simp⟩
   obtain ⟨q,hq⟩:∃ q,qs[k]?=some q:=⟨qs[k]'(by have:=HLn.out;omega),by simp⟩
   obtain ⟨b,o,rfl,hPb,q0,q1,q2,q3,q4,q5⟩:=HS.out.1.row.at_ hp
   obtain ⟨b',o',rfl,hPb',q0',q1',q2',q3',q4',q5'⟩:=HS.out.2.row.at_ hq
   have hbB:b<B:=by have:=HP.out b hPb;have:=HB.out;omega
   have hbB':b'<B:=by have:=HP.out b' hPb';have:=HB.out;omega
   have HKp:=Qh (HS.out.1.kid p (List.mem_of_getElem? hp))
   have HKq:=Qh (HS.out.2.kid q (List.mem_of_getElem? hq))
   have HNp:=Qh (Qa (HNm.out.1 p (List.mem_of_getElem? hp)) (HNm.out.2 q (List.mem_of_getElem? hq)))
   have hee:edsR p=edsR q:=by
    have h1:=congrArg (fun l=>l[k]?) HEq.out
    simp only [List.getElem?_map,hp,hq,Option.map_some] at h1
    exact Option.some.inj h1
   unfold edsR at hee
   injection hee with he1 he2
   have HE:=Qh (Qa (Bd.Nrm.same HNp.out.1.1 HNp.out.2.1 he1) (Bd.Nrm.same HNp.out.1.2 HNp.out.2.2 he2))
   have HC:=Qh (Qa hPb hPb')
   have HQ:=Qh (Qa (Qa q0 (Qa q1 (Qa q2 (Qa q3 (Qa q4 q5))))) (Qa q0' (Qa q1' (Qa q2' (Qa q3' (Qa q4' q5'))))))
   have HSz:=Qh (show B≤wr.heap.size by have:=HI.out.size;have:=HB.out;omega)
   have keepP:∀ (z:World),Below B w z→∀ x,P x→P x∧z.heap[x]?=w.heap[x]?:=fun z hz x hx=>⟨hx,hz.block x (by have:=HP.out x hx;have:=HB.out;omega)⟩
   have HSb:=Qh (fun z (hz:Below B w z)=>Qa (sameBound_true (w:=z) (HKp.out.a.keep (keepP z hz)) (HKq.out.a.keep (keepP z hz)) (fun x hx=>Ql (HP.out x hx) hz.size) HE.out.1.1 HE.out.1.2.1 HE.out.1.2.2)
    (sameBound_true (w:=z) (HKp.out.b.keep (keepP z hz)) (HKq.out.b.keep (keepP z hz)) (fun x hx=>Ql (HP.out x hx) hz.size) HE.out.2.1 HE.out.2.2.1 HE.out.2.2.2))
   have cell1:∀ (z:World) (j:Nat),Below B w z→z.cell? ⟨b,j,none⟩=w.cell? ⟨b,j,none⟩:=fun z j hz=>Qc (a:=⟨b,j,none⟩) (hz.block b hbB)
   have cell2:∀ (z:World) (j:Nat),Below B w z→z.cell? ⟨b',j,none⟩=w.cell? ⟨b',j,none⟩:=fun z j hz=>Qc (a:=⟨b',j,none⟩) (hz.block b' hbB')
   have HC1:=Qh cell1
   have HC2:=Qh cell2
   obtain ⟨⟨p1i,p1g,p1A,p1n,p1c,p1l⟩,⟨p2i,p2g,p2A,p2n,p2c,p2l⟩⟩:=p
   obtain ⟨⟨r1i,r1g,r1A,r1n,r1c,r1l⟩,⟨r2i,r2g,r2A,r2n,r2c,r2l⟩⟩:=q
   simp only [Bd.v,Bd.vals] at HSb
   have hki:(k:Int)<(n':Int):=by omega
   have hk0:(0:Int)≤(k:Int):=by omega
   clear hp hq q0 q1 q2 q3 q4 q5 q0' q1' q2' q3' q4' q5' he1 he2 keepP cell1 cell2 HKp HKq HNp hPb hPb'
   go_upto_region 6 with fail
   refine wp_region_H (by kernel_rfl) (fun z0 K0 hs0=>?_)
   refine tH0 0 K0 ?_
   refine tH0 1 K0 ?_
   refine tH0 2 K0 ?_
   refine tH0 3 K0 ?_
   refine tH0 4 K0 ?_ (y:=fun z5 hS=>by have g0:=(HC1.out z5 (o+k * 6) (HI.out.trans (hS.mono HSz.out))).trans HQ.out.1.1;have g1:=(HC1.out z5 (o+k * 6+1) (HI.out.trans (hS.mono HSz.out))).trans HQ.out.1.2.1;have g2:=(HC1.out z5 (o+k * 6+2) (HI.out.trans (hS.mono HSz.out))).trans HQ.out.1.2.2.1;go_simp;rfl)
   refine tH0 5 K0 ?_
   refine tH0 6 K0 ?_
   refine tH0 7 K0 ?_
   refine tH0 8 K0 ?_
   refine tH0 9 K0 ?_ (y:=fun z5 hS=>by have g0:=(HC2.out z5 (o'+k * 6) (HI.out.trans (hS.mono HSz.out))).trans HQ.out.2.1;have g1:=(HC2.out z5 (o'+k * 6+1) (HI.out.trans (hS.mono HSz.out))).trans HQ.out.2.2.1;have g2:=(HC2.out z5 (o'+k * 6+2) (HI.out.trans (hS.mono HSz.out))).trans HQ.out.2.2.2.1;go_simp;rfl)
   refine oH0 10 fun K hK=>?_
   go_simp
   (with_reducible refine (HSb.out _ (HI.out.trans (K0.mono HSz.out))).1.mono ?_)
   rintro e z1 ⟨rfl,hb1⟩
   have K1:=Qt K0 hb1
   refine hK.out _ _ K1 ?_
   refine tH0 11 K1 ?_
   refine tH0 12 K1 ?_
   refine tH0 13 K1 ?_
   refine tH0 14 K1 ?_
   refine tH0 15 K1 ?_
   refine tH0 16 K1 ?_
   refine tH0 17 K1 ?_ (y:=fun z5 hS=>by have g0:=(HC1.out z5 (o+k * 6+3) (HI.out.trans (hS.mono HSz.out))).trans HQ.out.1.2.2.2.1;have g1:=(HC1.out z5 (o+k * 6+4) (HI.out.trans (hS.mono HSz.out))).trans HQ.out.1.2.2.2.2.1;have g2:=(HC1.out z5 (o+k * 6+5) (HI.out.trans (hS.mono HSz.out))).trans HQ.out.1.2.2.2.2.2;go_simp;rfl)
   refine tH0 18 K1 ?_
   refine tH0 19 K1 ?_
   refine tH0 20 K1 ?_
   refine tH0 21 K1 ?_
   refine tH0 22 K1 ?_ (y:=fun z5 hS=>by have g0:=(HC2.out z5 (o'+k * 6+3) (HI.out.trans (hS.mono HSz.out))).trans HQ.out.2.2.2.2.1;have g1:=(HC2.out z5 (o'+k * 6+4) (HI.out.trans (hS.mono HSz.out))).trans HQ.out.2.2.2.2.2.1;have g2:=(HC2.out z5 (o'+k * 6+5) (HI.out.trans (hS.mono HSz.out))).trans HQ.out.2.2.2.2.2.2;go_simp;rfl)
   refine oH0 23 fun K hK=>?_
   go_simp
   (with_reducible refine (HSb.out _ (HI.out.trans (K1.mono HSz.out))).2.mono ?_)
   rintro e z2 ⟨rfl,hb2⟩
   have K2:=Qt K1 hb2
   refine hK.out _ _ K2 ?_
   refine tH0 24 K2 ?_
   refine oH0 25 fun K hK=>?_
   go_simp
   refine hK.out _ _ K2 ?_
   refine wpAnyH_end (by kernel_rfl) ?_ _
   have HB2:=Qh (HI.out.trans (K2.mono HSz.out))
   clear K0 K1 K2 hb1 hb2 hs0
   go_wp2_with fail
   go_roundw
   case rel=>exact ⟨k+1,by omega,by go_num,HB2⟩
   case measure=>simp [intOf];omega
  ·have hki:¬(k:Int)<(n':Int):=by omega
   go_wp2_with fail
   go_ret
   exact ⟨rfl,HI.out⟩
end
section
open Go.RowKit Hb
end
section
open Go.ChangeShapes Go.WideShapes Go.ChangeAt Go.RowKit Go.Joins Hb
theorem cellsU:Tryz.prog.cellsOf 101=1:=by kernel_rfl
theorem cellsInt:Tryz.prog.cellsOf 56=2:=by kernel_rfl
section
end
end
section
open Go.RowKit Hb
section
end
section
end
section
end
section
end
section
end
end
section
open Go.RowKit Hb Hf
attribute [local go_sem ↓] Go.wp_at_zero Go.wp_at_succ
theorem wp_region_HB {P:Program} {ops:Array Oper} {Q:Exit→Act→World→Prop} {id:Nat} {a:Act} {w:World} (B:Nat) (hm:P.follows .mixedOrders=true)
  (h:∀ z,Below w.heap.size w z→z.heap.size=w.heap.size→wpAnyH P .any ops Q (fun z=>Below B w z) ops.size (Array.replicate ops.size false) a z):(Code.region id ops true).wp P Q a w:=
 wp_region_any hm (wpAny_of_held _ _ _ _ (h w.drew (Below.refl _ _).drew rfl))
theorem step_app1R {o:Oper} {a:Act} {K:Act→World→Prop} {Q:Exit→Act→World→Prop} {wr w3:World} {B n c:Nat} {A:Option Addr} {ps:List Rg} {q:Rg}
  (hgd:o.guard=none) (s x:Operand) (ho:o.op = .call { callee:=.builtin .append,args:=#[s,x],argTypes:=#[22,22] })
  (hs:a.eval s = .slice A n c) (hx:a.eval x = .slice (some ⟨w3.heap.size,0,none⟩) 1 1)
  (hrow:RRow wr B (Fr B wr) A n c ps) (hB:B≤wr.heap.size) (hw:Below wr.heap.size wr w3) (hf:Rg.At w3 (fun b=>(B≤b∧b<w3.heap.size)∧(Value.slice A n c).ownBlock≠some b) q) (hm:n+1≤maxRg)
  (hh:∀ A' c' w',RRow w' B (Fr B w') A' (n+1) c' (ps ++ [q])→Below B wr w'→wr.heap.size≤w'.heap.size→K (a.put o.dst (.slice A' (n+1) c')) w') :
  Oper.wp Tryz.prog o a (w3.alloc (.cells (cells6 q).toArray 69)) K Q:=by
 have hb6:Below w3.heap.size w3 (w3.alloc (.cells (cells6 q).toArray 69)):=Qb
 have hbw:=Qt hw hb6
 have hrow6:=RRow.fr hrow hbw
 have hnews:=heap_alloc_new w3 (.cells (cells6 q).toArray 69)
 have hnw:∀ j u,(fl6 [q])[j]?=some u→(w3.alloc (.cells (cells6 q).toArray 69)).cell? ((⟨w3.heap.size,0,none⟩:Addr).add j)=some u:=fun j u hj=>by
  rw [add_zero',cell_of_row _ w3.heap.size j _ _ (0,0) hnews,←hj]
  simp [fl6]
 have hkid:Rg.At (w3.alloc (.cells (cells6 q).toArray 69)) (fun b'=>(B≤b'∧b'<(w3.alloc (.cells (cells6 q).toArray 69)).heap.size)∧(Value.slice A n c).ownBlock≠some b') q:=hf.keep (fun b' hb=>⟨⟨⟨hb.1.1,Ql hb.1.2 hb6.size⟩,hb.2⟩,hb6.block b' hb.1.2⟩)
 generalize w3.alloc (.cells (cells6 q).toArray 69)=w6 at *
 refine step_append_R hgd s x ho [q] hs hrow6 (fun b hb=>hb.2) ⟨w3.heap.size,0,none⟩ 1 1 hx rfl (fun y hy=>by rw [List.mem_singleton.1 hy];exact hkid) hnw hm (by have:=hbw.size;omega) ?_
 intro A' c' w' hr hb hg
 exact hh A' c' w' (hr.wide (fun b hb2=>⟨hb2.1,Ql hb2.2 hg.size⟩)) ((hbw.mono hB).trans hb) (Nat.le_trans hbw.size hg.size)
def ZnR (ps:List Rg):Prop:=∀ p∈ps,(p.1.A=none→p.1.c=0)∧(p.2.A=none→p.2.c=0)
end
section
open Go.RowKit Hb Hf
structure LimB (w:World) (P:Nat→Prop) (A:Option Addr) (n c:Nat) (l:List Nat):Prop where
 len:l.length=n
 cap:n≤c
 max:c≤maxLen
 dig:Dig 2 l
 rd:l ≠ []→∃ b o,A=some ⟨b,o,none⟩∧P b∧∀ i v,(i64s l)[i]?=some v→w.cell? ⟨b,o+i,none⟩=some v
section
variable {w w':World} {P Q:Nat→Prop} {A:Option Addr} {n c B:Nat} {l:List Nat}
theorem LimB.keep (h:LimB w P A n c l) (hb:∀ b,P b→Q b∧w'.heap[b]?=w.heap[b]?):LimB w' Q A n c l:=
 ⟨h.len,h.cap,h.max,h.dig,fun hl=>by
  obtain ⟨b,o,e,hp,hc⟩:=h.rd hl
  exact ⟨b,o,e,(hb b hp).1,fun i v hv=>(Qc (a:=⟨b,o+i,none⟩) (hb b hp).2).trans (hc i v hv)⟩⟩
theorem LimB.wide (h:LimB w P A n c l) (hb:∀ b,P b→Q b):LimB w Q A n c l:=h.keep fun b hp=>⟨hb b hp,rfl⟩
theorem i64s_nil_iff {l:List Nat} : i64s l ≠ []↔l ≠ []:=by cases l <;> simp [i64s]
theorem LimB.sl (h:LimB w P A n c l) (hb:∀ b,P b→b<B):SlI w B A n c l:=
 ⟨h.len,h.cap,h.max,h.dig,fun hx=>by
  obtain ⟨b,o,e,hp,hc⟩:=h.rd (i64s_nil_iff.1 hx)
  exact ⟨b,o,e,hb b hp,hc⟩⟩
theorem LimB.of_own (h:OwnI w B A n c (i64s l)) (hd:Dig 2 l):LimB w (fun b=>B≤b∧b<w.heap.size) A n c l:=by
 have hl:l.length=n:=by rw [←i64s_length];exact h.length
 refine ⟨hl,h.cap.1,h.cap.2,hd,fun hx=>?_⟩
 have hn:0<n:=by rw [←hl];exact List.length_pos_iff.2 hx
 obtain ⟨g,rfl,h1,h2⟩:=h.at_ hn
 refine ⟨g,0,rfl,⟨h1,h2⟩,fun i v hi=>?_⟩
 have:=World.ownsRow.cells h (g:=g) rfl i v hi
 rw [add_zero' g i] at this
 rw [Nat.zero_add];exact this
theorem LimB.nil (w:World) (P:Nat→Prop) (A:Option Addr) {c:Nat} (hc:c≤maxLen):LimB w P A 0 c []:=⟨rfl,Nat.zero_le _,hc,Dig.nil _,fun h=>absurd rfl h⟩
end
def Bd.z2 (b:Bd):Int:=bval b.g b.l
def Bd.ed2 (b:Bd):Ed:=if b.i<0 then .lo else if 0<b.i then .hi else .num b.z2
def rb:Ed→Option Addr→Nat→Bd
 | .lo,_,_=>⟨-1,false,none,0,0,[]⟩
 | .num z,A,c=>⟨0,decide (z<0),A,(digs 2 z.natAbs).length,c,digs 2 z.natAbs⟩
 | .hi,_,_=>⟨1,false,none,0,0,[]⟩
theorem rb_ed (e:Ed) (A:Option Addr) (c:Nat):(rb e A c).ed2=e:=by
 cases e with
 | lo=>simp [rb,Bd.ed2]
 | num z=>
  show (if (0:Int)<0 then _ else if (0:Int)<0 then _ else Ed.num (Bd.z2 (rb (.num z) A c)))=_
  rw [if_neg (by omega),if_neg (by omega)]
  show Ed.num (bval (decide (z<0)) (digs 2 z.natAbs))=_
  rw [bval_digs]
 | hi=>simp [rb,Bd.ed2]
structure Sb (w:World) (P:Nat→Prop) (e:Ed) (b:Bd):Prop where
 lim:LimB w P b.A b.n b.c b.l
 is:∃ A c,b=rb e A c
 sm:b.n≤1000000000
theorem Sb.keep {w w':World} {P Q:Nat→Prop} {e:Ed} {b:Bd} (h:Sb w P e b) (hb:∀ x,P x→Q x∧w'.heap[x]?=w.heap[x]?):Sb w' Q e b:=⟨h.lim.keep hb,h.is,h.sm⟩
theorem Sb.wide {w:World} {P Q:Nat→Prop} {e:Ed} {b:Bd} (h:Sb w P e b) (hb:∀ x,P x→Q x):Sb w Q e b:=h.keep fun x hp=>⟨hb x hp,rfl⟩
theorem Sb.ed {w:World} {P:Nat→Prop} {e:Ed} {b:Bd} (h:Sb w P e b):b.ed2=e:=by
 obtain ⟨A,c,rfl⟩:=h.is
 exact rb_ed e A c
def edsS (p:Rg):R:=(p.1.ed2,p.2.ed2)
structure Sg (w:World) (P:Nat→Prop) (p:Rg):Prop where
 a:Sb w P p.1.ed2 p.1
 b:Sb w P p.2.ed2 p.2
theorem Sg.keep {w w':World} {P Q:Nat→Prop} {p:Rg} (h:Sg w P p) (hb:∀ x,P x→Q x∧w'.heap[x]?=w.heap[x]?):Sg w' Q p:=⟨h.a.keep hb,h.b.keep hb⟩
structure RefS (w:World) (P:Nat→Prop) (A:Option Addr) (n c:Nat) (ps:List Rg):Prop where
 row:RdR w P A n c ps
 kid:∀ p∈ps,Sg w P p
theorem RefS.keep {w w':World} {P Q:Nat→Prop} {A:Option Addr} {n c:Nat} {ps:List Rg} (h:RefS w P A n c ps) (hb:∀ b,P b→Q b∧w'.heap[b]?=w.heap[b]?):RefS w' Q A n c ps:=
 ⟨h.row.keep hb,fun p hp=>(h.kid p hp).keep hb⟩
theorem RefS.nil (w:World) (P:Nat→Prop):RefS w P none 0 0 []:=⟨⟨rfl,Nat.le_refl _,by simp [maxLen],fun h=>absurd rfl h⟩,fun p hp=>by cases hp⟩
theorem infoS:(Tryz.prog.info? 84).map (fun i=>(i.zero,i.size,i.bytes))=some (some (.agg #[.int .i64 0,.bool false,.slice none 0 0,.int .i64 0,.bool false,.slice none 0 0]),6,80):=by kernel_rfl
structure SRow (w:World) (B:Nat) (P:Nat→Prop) (A:Option Addr) (n c:Nat) (ps:List Rg):Prop where
 own:w.ownsRow B 84 6 (.slice A n c) n (fl6 ps)
 kid:∀ p∈ps,Sg w (fun b=>P b∧(Value.slice A n c).ownBlock≠some b) p
section
variable {w w':World} {B:Nat} {P:Nat→Prop} {A:Option Addr} {n c:Nat} {ps:List Rg}
theorem SRow.len (h:SRow w B P A n c ps):ps.length=n:=by have:=h.own.1;rw [fl6_length] at this;omega
theorem SRow.cap (h:SRow w B P A n c ps):n≤c∧c≤maxLen:=by
 rcases h.own.2 with ⟨h1,_⟩ | ⟨g,cap,cur,h1,h2,h3,h4,h5,_⟩
 ·injection h1 with a b c;subst b;subst c;exact ⟨Nat.le_refl _,by simp [maxLen]⟩
 ·injection h1 with a b c;subst c;exact ⟨h4,h5⟩
theorem SRow.nil (w:World) (B:Nat) (P:Nat→Prop):SRow w B P none 0 0 []:=⟨⟨rfl,.inl ⟨rfl,rfl⟩⟩,fun p hp=>by cases hp⟩
theorem SRow.block (h:SRow w B P A n c ps):(A=none∧n=0)∨∃ g,A=some ⟨g,0,none⟩∧B≤g∧g<w.heap.size∧(Value.slice A n c).ownBlock=some g:=by
 rcases h.own.2 with ⟨h1,_⟩ | ⟨g,cap,cur,h1,h2,h3,_⟩
 ·injection h1 with a b c;exact .inl ⟨a,b⟩
 ·injection h1 with a b c
  subst a
  exact .inr ⟨g,rfl,h2,(Array.getElem?_eq_some_iff.1 h3).1,rfl⟩
theorem SRow.wide {Q:Nat→Prop} (h:SRow w B P A n c ps) (hP:∀ b,P b→Q b):SRow w B Q A n c ps:=
 ⟨h.own,fun p hp=>(h.kid p hp).keep (fun b hb2=>⟨⟨hP b hb2.1,hb2.2⟩,rfl⟩)⟩
theorem SRow.lower {B':Nat} (h:SRow w B P A n c ps) (hB:B'≤B):SRow w B' P A n c ps:=by
 refine ⟨⟨h.own.1,?_⟩,h.kid⟩
 rcases h.own.2 with h1 | ⟨g,cap,cur,h1,h2,h3⟩
 ·exact .inl h1
 ·exact .inr ⟨g,cap,cur,h1,Nat.le_trans hB h2,h3⟩
theorem SRow.keepP (h:SRow w B P A n c ps) (hb:∀ b,B≤b→b<w.heap.size→w'.heap[b]?=w.heap[b]?) (hP:∀ b,P b→w'.heap[b]?=w.heap[b]?):SRow w' B P A n c ps:=by
 refine ⟨⟨h.own.1,?_⟩,fun p hp=>(h.kid p hp).keep (fun b hb2=>⟨hb2,hP b hb2.1⟩)⟩
 rcases h.own.2 with h1 | ⟨g,cap,cur,h1,h2,h3,h4⟩
 ·exact .inl h1
 ·exact .inr ⟨g,cap,cur,h1,h2,(hb g h2 (Array.getElem?_eq_some_iff.1 h3).1).trans h3,h4⟩
theorem SRow.keep (h:SRow w B P A n c ps) (hb:Below w.heap.size w w') (hP:∀ b,P b→b<w.heap.size):SRow w' B P A n c ps:=
 h.keepP (fun b _ hb2=>hb.block b hb2) (fun b hp=>hb.block b (hP b hp))
theorem SRow.set (h:SRow w B P A n c ps) (hP:∀ b,B≤b→b<w.heap.size→P b):RefS w P A n c ps:=by
 refine ⟨⟨h.len,h.cap.1,h.cap.2,fun hl=>?_⟩,fun p hp=>(h.kid p hp).keep fun b hb=>⟨hb.1,rfl⟩⟩
 have hn0:0<n:=by rw [←h.len];exact List.length_pos_iff.2 hl
 rcases h.block with ⟨_,h0⟩ | ⟨g,rfl,hB,hg,_⟩
 ·omega
 ·refine ⟨g,0,rfl,hP g hB hg,fun i v hv=>?_⟩
  have h9:=World.ownsRow.cells h.own (g:=g) rfl _ _ hv
  rw [add_zero'] at h9
  rw [Nat.zero_add]
  exact h9
end
theorem run_append_S {w:World} {B:Nat} {P:Nat→Prop} {A:Option Addr} {n c:Nat} {ps qs:List Rg} (h:SRow w B P A n c ps) (hP:∀ b,P b→b<w.heap.size) {ad:Addr} {m:Nat} (hq:qs.length=m)
  (hk:∀ q∈qs,Sg w (fun b=>P b∧(Value.slice A n c).ownBlock≠some b) q) (hnews:∀ j u,(fl6 qs)[j]?=some u→w.cell? (ad.add j)=some u) (hm:n+m≤maxRg) (hb:B≤w.heap.size)
  {v':Value} {w':World} (ho:w'.ownsRow B 84 6 v' (n+m) (fl6 ps ++ fl6 qs)) (hg:w.grownBy w' (Value.slice A n c).ownBlock) (hv:v'.ownBlock=(Value.slice A n c).ownBlock∨v'.ownBlock=some w.heap.size) :
  ∃ A' c',v' = .slice A' (n+m) c'∧SRow w' B P A' (n+m) c' (ps ++ qs)∧Below B w w':=by
 have hf:∃ A' c',v' = .slice A' (n+m) c':=by
  rcases ho.2 with ⟨h1,h2⟩ | ⟨g',cap,cur,h1,_⟩
  ·exact ⟨none,0,by rw [h1,h2]⟩
  ·exact ⟨_,cap,h1⟩
 obtain ⟨A',c',rfl⟩:=hf
 refine ⟨A',c',rfl,⟨by rw [fl6_append];exact ho,fun p hp=>?_⟩,⟨hg.os,hg.tape,hg.output,hg.size,fun j hj=>hg.block j (Ql hj hb) (fun e2=>?_)⟩⟩
 ·have hkid:Sg w (fun b=>P b∧(Value.slice A n c).ownBlock≠some b) p:=by
   rcases List.mem_append.1 hp with hp | hp
   ·exact h.kid p hp
   ·exact hk p hp
  refine hkid.keep (fun b hb2=>⟨⟨hb2.1,?_⟩,hg.block b (hP b hb2.1) (fun e=>hb2.2 e.symm)⟩)
  rcases hv with hv | hv
  ·rw [hv];exact hb2.2
  ·rw [hv];intro e;have:=hP b hb2.1;injection e with e;omega
 ·rcases h.block with ⟨h1,_⟩ | ⟨g,h1,h2,h3,h4⟩
  ·subst h1;simp [Value.ownBlock] at e2
  ·rw [h4] at e2;injection e2 with e2;omega
theorem wpList_append_S {ops:Array Oper} {rest:List Oper} {o:Oper} {a:Act} {Q:Exit→Act→World→Prop} {w:World} (hgd:o.guard=none) (s x:Operand)
  (ho:o.op = .call { callee:=.builtin .append,args:=#[s,x],argTypes:=#[29,29] })
  {B:Nat} {P:Nat→Prop} {A:Option Addr} {n c:Nat} {ps:List Rg} (qs:List Rg) (hs:a.eval s = .slice A n c) (h:SRow w B P A n c ps) (hP:∀ b,P b→b<w.heap.size)
  (ad:Addr) (m c2:Nat) (hx:a.eval x = .slice (some ad) m c2) (hq:qs.length=m) (hk:∀ q∈qs,Sg w (fun b=>P b∧(Value.slice A n c).ownBlock≠some b) q) (hnews:∀ j u,(fl6 qs)[j]?=some u→w.cell? (ad.add j)=some u)
  (hm:n+m≤maxRg) (hb:B≤w.heap.size)
  (hh:∀ A' c' w',SRow w' B P A' (n+m) c' (ps ++ qs)→Below B w w'→w.grownBy w' (Value.slice A n c).ownBlock→wpList Tryz.prog ops Q rest (a.put o.dst (.slice A' (n+m) c')) w') :
  wpList Tryz.prog ops Q (o :: rest) a w:=by
 obtain ⟨i0,hi,hz0,hz1,hz2⟩:=info_parts infoS
 have hml:n+m≤maxLen:=by unfold maxLen;unfold maxRg at hm;omega
 have hmb:(n+m) * 80≤140737488355328:=by unfold maxRg at hm;omega
 refine wpList_append_own_at _ hgd s x 29 ho B 84 i0 (.agg #[.int .i64 0,.bool false,.slice none 0 0,.int .i64 0,.bool false,.slice none 0 0]) 6 80 Tryz.underlying29 hi hz0 hz1 hz2 rfl (by decide) _ n (fl6 ps) hs h.own ad m c2 (fl6 qs) hx (by rw [fl6_length,hq]) hnews (fl6_one qs) hml hmb hb ?_
 intro v' w' ho' hg _ hv
 obtain ⟨A',c',rfl,hr,hbw⟩:=run_append_S h hP hq hk hnews hm hb ho' hg hv
 exact hh A' c' w' hr hbw hg
theorem step_append_S {o:Oper} {a:Act} {w:World} {K:Act→World→Prop} {Q:Exit→Act→World→Prop} (hgd:o.guard=none) (s x:Operand)
  (ho:o.op = .call { callee:=.builtin .append,args:=#[s,x],argTypes:=#[29,29] })
  {B:Nat} {P:Nat→Prop} {A:Option Addr} {n c:Nat} {ps:List Rg} (qs:List Rg) (hs:a.eval s = .slice A n c) (h:SRow w B P A n c ps) (hP:∀ b,P b→b<w.heap.size)
  (ad:Addr) (m c2:Nat) (hx:a.eval x = .slice (some ad) m c2) (hq:qs.length=m) (hk:∀ q∈qs,Sg w (fun b=>P b∧(Value.slice A n c).ownBlock≠some b) q) (hnews:∀ j u,(fl6 qs)[j]?=some u→w.cell? (ad.add j)=some u)
  (hm:n+m≤maxRg) (hb:B≤w.heap.size)
  (hh:∀ A' c' w',SRow w' B P A' (n+m) c' (ps ++ qs)→Below B w w'→w.grownBy w' (Value.slice A n c).ownBlock→K (a.put o.dst (.slice A' (n+m) c')) w') :
  Oper.wp Tryz.prog o a w K Q:=by
 obtain ⟨i0,hi,hz0,hz1,hz2⟩:=info_parts infoS
 have hml:n+m≤maxLen:=by unfold maxLen;unfold maxRg at hm;omega
 have hmb:(n+m) * 80≤140737488355328:=by unfold maxRg at hm;omega
 obtain ⟨v',w',hr,h2,h3,h4,h5⟩:=run_append_own_at (P:=Tryz.prog) w B 29 o.type 84 i0 (.agg #[.int .i64 0,.bool false,.slice none 0 0,.int .i64 0,.bool false,.slice none 0 0]) 6 80 Tryz.underlying29 hi hz0 hz1 hz2 rfl (by decide) (.slice A n c) n (fl6 ps) h.own ad m c2 (fl6 qs) (by rw [fl6_length,hq]) hnews (fl6_one qs) hml hmb hb
 obtain ⟨A',c',rfl,hr2,hbw⟩:=run_append_S h hP hq hk hnews hm hb h2 h3 h5
 unfold Oper.wp execOp
 simp only [ho,resolve,invoke,builtin,Sem.run_bind,Sem.run_pure,Result.andThen_ok,List.map_toArray,List.map_cons,List.map_nil,hs,hx,hr]
 exact hh _ _ _ hr2 hbw h3
theorem SRow.fr {w w':World} {B n c:Nat} {A:Option Addr} {ps:List Rg} (h:SRow w B (Fr B w) A n c ps) (hb:Below w.heap.size w w'):SRow w' B (Fr B w') A n c ps:=
 (h.keep hb (fun b hb=>hb.2)).wide (fun b hb2=>⟨hb2.1,Ql hb2.2 hb.size⟩)
theorem wpList_app1S {ops:Array Oper} {rest:List Oper} {o:Oper} {a:Act} {Q:Exit→Act→World→Prop} {wr w3:World} {B n c:Nat} {A:Option Addr} {ps:List Rg} {q:Rg}
  (hgd:o.guard=none) (s x:Operand) (ho:o.op = .call { callee:=.builtin .append,args:=#[s,x],argTypes:=#[29,29] })
  (hs:a.eval s = .slice A n c) (hx:a.eval x = .slice (some ⟨w3.heap.size,0,none⟩) 1 1)
  (hrow:SRow wr B (Fr B wr) A n c ps) (hB:B≤wr.heap.size) (hw:Below wr.heap.size wr w3) (hf:Sg w3 (fun b=>(B≤b∧b<w3.heap.size)∧(Value.slice A n c).ownBlock≠some b) q) (hm:n+1≤maxRg)
  (hh:∀ A' c' w',SRow w' B (Fr B w') A' (n+1) c' (ps ++ [q])→Below B wr w'→wr.heap.size≤w'.heap.size→wpList Tryz.prog ops Q rest (a.put o.dst (.slice A' (n+1) c')) w') :
  wpList Tryz.prog ops Q (o :: rest) a (w3.alloc (.cells (cells6 q).toArray 84)):=by
 have hb6:Below w3.heap.size w3 (w3.alloc (.cells (cells6 q).toArray 84)):=Qb
 have hbw:=Qt hw hb6
 have hrow6:=SRow.fr hrow hbw
 have hnews:=heap_alloc_new w3 (.cells (cells6 q).toArray 84)
 have hnw:∀ j u,(fl6 [q])[j]?=some u→(w3.alloc (.cells (cells6 q).toArray 84)).cell? ((⟨w3.heap.size,0,none⟩:Addr).add j)=some u:=fun j u hj=>by
  rw [add_zero',cell_of_row _ w3.heap.size j _ _ (0,0) hnews,←hj]
  simp [fl6]
 have hkid:Sg (w3.alloc (.cells (cells6 q).toArray 84)) (fun b'=>(B≤b'∧b'<(w3.alloc (.cells (cells6 q).toArray 84)).heap.size)∧(Value.slice A n c).ownBlock≠some b') q:=hf.keep (fun b' hb=>⟨⟨⟨hb.1.1,Ql hb.1.2 hb6.size⟩,hb.2⟩,hb6.block b' hb.1.2⟩)
 generalize w3.alloc (.cells (cells6 q).toArray 84)=w6 at *
 refine wpList_append_S hgd s x ho [q] hs hrow6 (fun b hb=>hb.2) ⟨w3.heap.size,0,none⟩ 1 1 hx rfl (fun y hy=>by rw [List.mem_singleton.1 hy];exact hkid) hnw hm (by have:=hbw.size;omega) ?_
 intro A' c' w' hr hb hg
 exact hh A' c' w' (hr.wide (fun b hb2=>⟨hb2.1,Ql hb2.2 hg.size⟩)) ((hbw.mono hB).trans hb) (Nat.le_trans hbw.size hg.size)
theorem SRow.apart {w w3:World} {B n c lo:Nat} {A:Option Addr} {ps:List Rg} {P:Nat→Prop} {q:Rg} (h:SRow w B P A n c ps) (hB:B≤w.heap.size) (hl:w.heap.size≤lo) (hq:Sg w3 (fun x=>lo≤x∧x<w3.heap.size) q):Sg w3 (fun b=>(B≤b∧b<w3.heap.size)∧(Value.slice A n c).ownBlock≠some b) q:=
 hq.keep fun b hb=>⟨⟨⟨by omega,hb.2⟩,by
  rcases h.block with ⟨h1,_⟩ | ⟨g1,h1,h2,h3,h4⟩
  ·subst h1;simp [Value.ownBlock]
  ·rw [h4];intro e;injection e with e;omega⟩,rfl⟩
theorem step_app1S {o:Oper} {a:Act} {K:Act→World→Prop} {Q:Exit→Act→World→Prop} {wr w3:World} {B n c:Nat} {A:Option Addr} {ps:List Rg} {q:Rg}
  (hgd:o.guard=none) (s x:Operand) (ho:o.op = .call { callee:=.builtin .append,args:=#[s,x],argTypes:=#[29,29] })
  (hs:a.eval s = .slice A n c) (hx:a.eval x = .slice (some ⟨w3.heap.size,0,none⟩) 1 1)
  (hrow:SRow wr B (Fr B wr) A n c ps) (hB:B≤wr.heap.size) (hw:Below wr.heap.size wr w3) (hf:Sg w3 (fun b=>(B≤b∧b<w3.heap.size)∧(Value.slice A n c).ownBlock≠some b) q) (hm:n+1≤maxRg)
  (hh:∀ A' c' w',SRow w' B (Fr B w') A' (n+1) c' (ps ++ [q])→Below B wr w'→wr.heap.size≤w'.heap.size→K (a.put o.dst (.slice A' (n+1) c')) w') :
  Oper.wp Tryz.prog o a (w3.alloc (.cells (cells6 q).toArray 84)) K Q:=by
 have hb6:Below w3.heap.size w3 (w3.alloc (.cells (cells6 q).toArray 84)):=Qb
 have hbw:=Qt hw hb6
 have hrow6:=SRow.fr hrow hbw
 have hnews:=heap_alloc_new w3 (.cells (cells6 q).toArray 84)
 have hnw:∀ j u,(fl6 [q])[j]?=some u→(w3.alloc (.cells (cells6 q).toArray 84)).cell? ((⟨w3.heap.size,0,none⟩:Addr).add j)=some u:=fun j u hj=>by
  rw [add_zero',cell_of_row _ w3.heap.size j _ _ (0,0) hnews,←hj]
  simp [fl6]
 have hkid:Sg (w3.alloc (.cells (cells6 q).toArray 84)) (fun b'=>(B≤b'∧b'<(w3.alloc (.cells (cells6 q).toArray 84)).heap.size)∧(Value.slice A n c).ownBlock≠some b') q:=hf.keep (fun b' hb=>⟨⟨⟨hb.1.1,Ql hb.1.2 hb6.size⟩,hb.2⟩,hb6.block b' hb.1.2⟩)
 generalize w3.alloc (.cells (cells6 q).toArray 84)=w6 at *
 refine step_append_S hgd s x ho [q] hs hrow6 (fun b hb=>hb.2) ⟨w3.heap.size,0,none⟩ 1 1 hx rfl (fun y hy=>by rw [List.mem_singleton.1 hy];exact hkid) hnw hm (by have:=hbw.size;omega) ?_
 intro A' c' w' hr hb hg
 exact hh A' c' w' (hr.wide (fun b hb2=>⟨hb2.1,Ql hb2.2 hg.size⟩)) ((hbw.mono hB).trans hb) (Nat.le_trans hbw.size hg.size)
def SBox (w:World) (g:Nat) (p:Rg):Prop:=w.heap[g]?=some (.cells (cells6 p).toArray 84 (0,0))
def NBox (w:World) (g:Nat) (b:Bd):Prop:=w.heap[g]?=some (.cells b.vals.toArray 81 (0,0))
section
variable {w w':World} {g:Nat} {p q:Rg} {b d:Bd}
theorem SBox.lt (h:SBox w g p):g<w.heap.size:=(Array.getElem?_eq_some_iff.1 h).1
theorem NBox.lt (h:NBox w g b):g<w.heap.size:=(Array.getElem?_eq_some_iff.1 h).1
theorem NBox.below (h:NBox w g b) (hb:Below w.heap.size w w'):NBox w' g b:=(hb.block g h.lt).trans h
theorem SBox.new (w:World) (p:Rg):SBox (w.alloc (.cells (cells6 p).toArray 84)) w.heap.size p:=heap_alloc_new w _
theorem NBox.new (w:World) (b:Bd):NBox (w.alloc (.cells b.vals.toArray 81)) w.heap.size b:=heap_alloc_new w _
theorem SBox.cells (h:SBox w g p):w.cell? ⟨g,0,none⟩=some (.int .i64 p.1.i)∧w.cell? ⟨g,1,none⟩=some (.bool p.1.g)∧w.cell? ⟨g,2,none⟩=some (.slice p.1.A p.1.n p.1.c) ∧
  w.cell? ⟨g,3,none⟩=some (.int .i64 p.2.i)∧w.cell? ⟨g,4,none⟩=some (.bool p.2.g)∧w.cell? ⟨g,5,none⟩=some (.slice p.2.A p.2.n p.2.c):=by
 refine ⟨?_,?_,?_,?_,?_,?_⟩ <;> (rw [cell_of_row w g _ _ _ (0,0) h];rfl)
theorem NBox.cells (h:NBox w g b):w.cell? ⟨g,0,none⟩=some (.int .i64 b.i)∧w.cell? ⟨g,1,none⟩=some (.bool b.g)∧w.cell? ⟨g,2,none⟩=some (.slice b.A b.n b.c):=by
 refine ⟨?_,?_,?_⟩ <;> (rw [cell_of_row w g _ _ _ (0,0) h];rfl)
theorem NBox.frozen (h:NBox w g b) (j:Nat):w.frozen? ⟨g,j,none⟩=false:=by unfold NBox at h;simp [World.frozen?,h]
theorem NBox.frozens (h:NBox w g b):w.frozen? ⟨g,0,none⟩=false∧w.frozen? ⟨g,1,none⟩=false∧w.frozen? ⟨g,2,none⟩=false:=⟨h.frozen 0,h.frozen 1,h.frozen 2⟩
theorem NBox.set3 (h:NBox w g b) (d:Bd) :
  NBox (((w.setCell ⟨g,0,none⟩ (.int .i64 d.i)).setCell ⟨g,1,none⟩ (.bool d.g)).setCell ⟨g,2,none⟩ (.slice d.A d.n d.c)) g d ∧
  w.grownBy (((w.setCell ⟨g,0,none⟩ (.int .i64 d.i)).setCell ⟨g,1,none⟩ (.bool d.g)).setCell ⟨g,2,none⟩ (.slice d.A d.n d.c)) (some g):=by
 refine ⟨?_,gb_setCell (gb_setCell (gb_setCell (gb_refl _ _) _ _) _ _) _ _⟩
 unfold NBox at h ⊢
 simp [World.setCell,Array.getElem?_modify,h,Bd.vals]
end
end
section
open Go.RowKit Hb Hf
attribute [local go_sem ↓] Go.wp_at_zero Go.wp_at_succ
theorem digs2_len {l:List Nat} {neg:Bool} {n:Nat} (hd:Dig W l) (hl:l.length=n):(digs 2 (ival neg l).natAbs).length≤32 * n:=by
 rw [ival_natAbs]
 refine digs_length_le (by decide) ?_
 have h:=nv_lt hd
 rw [hl] at h
 rw [Nat.pow_mul]
 exact h
theorem ResB.sb {w:World} {B:Nat} {v:Value} {z:Int} (h:ResB w B v z) (hs:(digs 2 z.natAbs).length≤1000000000):∃ A c,v = .agg #[.bool (decide (z<0)),.slice A (digs 2 z.natAbs).length c]∧Sb w (Fr B w) (.num z) (rb (.num z) A c):=by
 obtain ⟨A,c,hv,ho⟩:=h
 exact ⟨A,c,hv,⟨LimB.of_own ho (dig_digs (by decide) _),⟨A,c,rfl⟩,hs⟩⟩
theorem sb_lo (w:World) (P:Nat→Prop):Sb w P .lo (rb .lo none 0):=⟨LimB.nil w P none (c:=0) (by simp [maxLen]),⟨none,0,rfl⟩,Nat.zero_le _⟩
theorem sb_hi (w:World) (P:Nat→Prop):Sb w P .hi (rb .hi none 0):=⟨LimB.nil w P none (c:=0) (by simp [maxLen]),⟨none,0,rfl⟩,Nat.zero_le _⟩
def EndPost (w:World) (e0:Ed) (e:Ending) (w':World):Prop:=∃ d:Bd,e = .returned d.v∧Sb w' (Fr w.heap.size w') e0 d∧Below w.heap.size w w'
theorem rend_any {w:World} {P:Nat→Prop} {b:Bd} (h:b.At w P) (hP:∀ x,P x→x<w.heap.size) (hn:b.n≤31250000) :
  Calls Tryz.prog 31 #[b.v] w (EndPost w b.ed):=by
 obtain ⟨i,g,A,n,c,l⟩:=b
 have HL:=Qh h.lim
 have hz:(digs 2 (ival g l).natAbs).length≤32 * n:=digs2_len h.lim.dig h.lim.len
 have HE:=Qh (EBox.new w ⟨i,g,A,n,c,l⟩)
 have HBa:=Qh (show Below w.heap.size w (w.alloc (.cells (Bd.vals ⟨i,g,A,n,c,l⟩).toArray 67)) from Qb)
 have HN:=Qh (NBox.new (w.alloc (.cells (Bd.vals ⟨i,g,A,n,c,l⟩).toArray 67)) ⟨0,false,none,0,0,[]⟩)
 rw [World.size_alloc] at HN
 have HBb:=Qh (show Below (w.heap.size+1) (w.alloc (.cells (Bd.vals ⟨i,g,A,n,c,l⟩).toArray 67)) ((w.alloc (.cells (Bd.vals ⟨i,g,A,n,c,l⟩).toArray 67)).alloc (.cells (Bd.vals ⟨0,false,none,0,0,[]⟩).toArray 81)) from (Below.refl _ _).alloc (by simp) _)
 have HE2:=Qh (HE.out.below (HBb.out.mono (by simp)))
 have HO:=Qh (fun y (hy:Below w.heap.size w y)=>Of_any g (w:=y) ((h.lim.sl (B:=w.heap.size) hP).below hy (Nat.le_refl _)) (by have:n≤31250000:=hn;omega) hy.size rfl)
 have hsz:(digs 2 (ival g l).natAbs).length≤1000000000:=by have:n≤31250000:=hn;omega
 have HS:=Qh hsz
 have HF:=Qh (fun (d:Bd) (w':World) (h1:Below w.heap.size w w') (h2:Sb w' (Fr w.heap.size w') (Bd.ed ⟨i,g,A,n,c,l⟩) d)=>show EndPost w (Bd.ed ⟨i,g,A,n,c,l⟩) (.returned (.agg #[.int .i64 d.i,.bool d.g,.slice d.A d.n d.c])) w' from ⟨d,rfl,h2,h1⟩)
 simp only [Bd.v,Bd.vals]
 simp only [Bd.vals] at HE2 HN HBa HBb
 have HBt:=Qh (show Below w.heap.size w ((w.alloc (.cells #[.int .i64 i,.bool g,.slice A n c] 67)).alloc (.cells #[.int .i64 0,.bool false,.slice none 0 0] 81)) from HBa.out.trans (HBb.out.mono (by omega)))
 clear h hP hn hz hsz HE HL
 obtain ⟨x0,x1,x2⟩:=HE2.out.cells
 obtain ⟨y0,y1,y2⟩:=HN.out.cells
 obtain ⟨f0,f1,f2⟩:=HN.out.frozens
 simp only at x0 x1 x2 y0 y1 y2
 go_enter Tryz.func31,Tryz.ntmps31
 rcases (by omega:i<0∨0<i∨i=0) with hi | hi | hi
 ·have hed:Bd.ed ⟨i,g,A,n,c,l⟩ = .lo:=Bd.ed_lo hi
  rw [hed]
  rw [hed] at HF
  clear hed HO HE2 HN HBb
  have HNx:=Qh (NBox.new (w.alloc (.cells #[.int .i64 i,.bool g,.slice A n c] 67)) ⟨(-1),false,none,0,0,[]⟩)
  have HBx:=Qh (show Below w.heap.size w ((w.alloc (.cells #[.int .i64 i,.bool g,.slice A n c] 67)).alloc (.cells #[.int .i64 (-1),.bool false,.slice none 0 0] 81)) from HBa.out.alloc (by simp) _)
  have HGo:=Qh (HF.out (rb .lo none 0) _ HBx.out (sb_lo _ _))
  rw [World.size_alloc] at HNx
  simp only [Bd.vals] at HNx
  simp only [rb] at HGo
  obtain ⟨s0,s1,s2⟩:=HNx.out.cells
  simp only at s0 s1 s2
  go_wp2_with fail
  exact bodyPost_ret (v:=.agg #[.int .i64 (-1),.bool false,.slice none 0 0]) (by simp [results,Tryz.results31,go_sem,s0,s1,s2]) rfl HGo.out
 ·have hed:Bd.ed ⟨i,g,A,n,c,l⟩ = .hi:=Bd.ed_hi hi
  rw [hed]
  rw [hed] at HF
  clear hed HO HE2 HN HBb
  have HNx:=Qh (NBox.new (w.alloc (.cells #[.int .i64 i,.bool g,.slice A n c] 67)) ⟨1,false,none,0,0,[]⟩)
  have HBx:=Qh (show Below w.heap.size w ((w.alloc (.cells #[.int .i64 i,.bool g,.slice A n c] 67)).alloc (.cells #[.int .i64 1,.bool false,.slice none 0 0] 81)) from HBa.out.alloc (by simp) _)
  have HGo:=Qh (HF.out (rb .hi none 0) _ HBx.out (sb_hi _ _))
  rw [World.size_alloc] at HNx
  simp only [Bd.vals] at HNx
  simp only [rb] at HGo
  obtain ⟨s0,s1,s2⟩:=HNx.out.cells
  simp only at s0 s1 s2
  go_wp2_with fail
  exact bodyPost_ret (v:=.agg #[.int .i64 1,.bool false,.slice none 0 0]) (by simp [results,Tryz.results31,go_sem,s0,s1,s2]) rfl HGo.out
 ·subst hi
  have hed:Bd.ed ⟨0,g,A,n,c,l⟩ = .num (ival g l):=Bd.ed_zero rfl
  rw [hed]
  rw [hed] at HF
  clear hed
  have HZ2:=Qh (show ((w.alloc (.cells #[.int .i64 0,.bool g,.slice A n c] 67)).alloc (.cells #[.int .i64 0,.bool false,.slice none 0 0] 81)).heap.size=w.heap.size+2 by simp)
  generalize ival g l=z at *
  go_wp2_with fail
  (with_reducible refine (HO.out _ HBt.out).mono ?_)
  rintro e w3 ⟨v,he,hr,hb⟩
  obtain ⟨A2,c2,hv,hsb⟩:=hr.sb HS.out
  subst hv
  subst he
  have HB3:=Qh (Qt HBt.out hb)
  have HN3:=Qh (HN.out.below hb)
  have HSb:=Qh hsb
  have HS3:=Qh hb.size
  clear x0 x1 x2 y0 y1 y2 f0 f1 f2 hb hr hsb HBt HBb HBa HN HE2 HO
  generalize ((w.alloc (.cells #[.int .i64 0,.bool g,.slice A n c] 67)).alloc (.cells #[.int .i64 0,.bool false,.slice none 0 0] 81))=w2 at *
  obtain ⟨y0,y1,y2⟩:=HN3.out.cells
  obtain ⟨f0,f1,f2⟩:=HN3.out.frozens
  simp only at y0 y1 y2
  have hlt:=HN3.out.lt
  have HSet:=Qh (HN3.out.set3 (rb (.num z) A2 c2))
  simp only [rb] at HSet
  go_wp2_with fail
  have hs3:=HS3.out
  have hz2:=HZ2.out
  have HGo:=Qh (HF.out (rb (.num z) A2 c2) _ (HB3.out.grown HSet.out.2 (by omega) (Qg (by omega))) (HSb.out.keep (fun b hb=>⟨⟨by have:=hb.1;omega,by have:=hb.2;have:=HSet.out.2.size;omega⟩,HSet.out.2.block b hb.2 (fun e=>by injection e with e;have:=hb.1;omega)⟩)))
  simp only [rb] at HGo
  obtain ⟨s0,s1,s2⟩:=HSet.out.1.cells
  simp only at s0 s1 s2
  exact bodyPost_ret (v:=.agg #[.int .i64 0,.bool (decide (z<0)),.slice A2 (digs 2 z.natAbs).length c2]) (by simp [results,Tryz.results31,go_sem,s0,s1,s2]) rfl HGo.out
def infZ:Ed→Int | .lo=>-1 | .num _=>0 | .hi=>1
def cmpE:Ed→Ed→Int
 | .num x,.num y=>cmpZ x y
 | e,f=>infZ e - infZ f
theorem cmpE_le {e f:Ed} : cmpE e f≤0↔leE e f:=by
 cases e <;> cases f <;> simp [cmpE,infZ,leE,cmpZ]
 split
 ·simp;omega
 ·split <;> simp <;> omega
def KE (w:World) (k:Int) (e:Ending) (w':World):Prop:=e = .returned (.int .i64 k)∧Below w.heap.size w w'
theorem rCmpE {w:World} {P Q:Nat→Prop} {a b:Bd} {e f:Ed} (ha:Sb w P e a) (hb:Sb w Q f b) (hP:∀ x,P x→x<w.heap.size) (hQ:∀ x,Q x→x<w.heap.size) :
  Calls Tryz.prog 41 #[a.v,b.v] w (KE w (cmpE e f)):=by
 have HA:=Qh (NBox.new w a)
 have HBa:=Qh (show Below w.heap.size w (w.alloc (.cells a.vals.toArray 81)) from Qb)
 have HB:=Qh (NBox.new (w.alloc (.cells a.vals.toArray 81)) b)
 rw [World.size_alloc] at HB
 have HBb:=Qh (show Below (w.heap.size+1) (w.alloc (.cells a.vals.toArray 81)) ((w.alloc (.cells a.vals.toArray 81)).alloc (.cells b.vals.toArray 81)) from (Below.refl _ _).alloc (by simp) _)
 have HA2:=Qh (HA.out.below (HBb.out.mono (by simp)))
 have HBt:=Qh (show Below w.heap.size w ((w.alloc (.cells a.vals.toArray 81)).alloc (.cells b.vals.toArray 81)) from HBa.out.trans (HBb.out.mono (by omega)))
 obtain ⟨aA,ac,rfl⟩:=ha.is
 obtain ⟨bA,bc,rfl⟩:=hb.is
 have hla:=ha.lim.sl (B:=w.heap.size) hP
 have hlb:=hb.lim.sl (B:=w.heap.size) hQ
 have hsa:=ha.sm
 have hsb:=hb.sm
 have hz2:((w.alloc (.cells (rb e aA ac).vals.toArray 81)).alloc (.cells (rb f bA bc).vals.toArray 81)).heap.size=w.heap.size+2:=by simp
 have HZ:=Qh hz2
 simp only [Bd.v,Bd.vals] at HA2 HB HBt HZ ⊢
 obtain ⟨x0,x1,x2⟩:=HA2.out.cells
 obtain ⟨y0,y1,y2⟩:=HB.out.cells
 have xl:=HA2.out.lt
 have yl:=HB.out.lt
 clear ha hb hP hQ HA HBa HBb hz2
 have HC:=Qh (fun (x y:Int) (he:e = .num x) (hf:f = .num y) (u:World) (hu:Below w.heap.size w u)=>show Calls Tryz.prog 76 #[.agg #[.bool (decide (x<0)),.slice aA (digs 2 x.natAbs).length ac],.agg #[.bool (decide (y<0)),.slice bA (digs 2 y.natAbs).length bc]] u (KE u (cmpZ x y)) by
  subst he
  subst hf
  exact rcmp_any (hla.below (C:=w.heap.size) hu (Nat.le_refl _)) (hlb.below (C:=w.heap.size) hu (Nat.le_refl _)) hu.size hu.size (Nat.le_trans hsa (by omega)) (Nat.le_trans hsb (by omega)) rfl)
 clear hla hlb hsa hsb HA2 HB
 cases e with
 | lo=>
  cases f with
  | lo=>
   simp only [rb] at x0 x1 x2 y0 y1 y2 xl yl HBt HZ ⊢
   clear HC
   have HK:=Qh (fun u (hu:Below w.heap.size w u)=>show KE w (cmpE .lo .lo) (.returned (.int .i64 (0))) u from ⟨rfl,hu⟩)
   go_enter Tryz.func41,Tryz.ntmps41
   go_wp2_with fail
   exact bodyPost_ret (v:=.int .i64 (0)) (by simp [results,Tryz.results41,go_sem]) rfl (HK.out _ HBt.out)
  | num Y=>
   simp only [rb] at x0 x1 x2 y0 y1 y2 xl yl HBt HZ ⊢
   clear HC
   have HK:=Qh (fun u (hu:Below w.heap.size w u)=>show KE w (cmpE .lo (.num Y)) (.returned (.int .i64 (-1))) u from ⟨rfl,hu⟩)
   go_enter Tryz.func41,Tryz.ntmps41
   go_wp2_with fail
   exact bodyPost_ret (v:=.int .i64 (-1)) (by simp [results,Tryz.results41,go_sem]) rfl (HK.out _ HBt.out)
  | hi=>
   simp only [rb] at x0 x1 x2 y0 y1 y2 xl yl HBt HZ ⊢
   clear HC
   have HK:=Qh (fun u (hu:Below w.heap.size w u)=>show KE w (cmpE .lo .hi) (.returned (.int .i64 (-2))) u from ⟨rfl,hu⟩)
   go_enter Tryz.func41,Tryz.ntmps41
   go_wp2_with fail
   exact bodyPost_ret (v:=.int .i64 (-2)) (by simp [results,Tryz.results41,go_sem]) rfl (HK.out _ HBt.out)
 | num X=>
  cases f with
  | lo=>
   simp only [rb] at x0 x1 x2 y0 y1 y2 xl yl HBt HZ ⊢
   clear HC
   have HK:=Qh (fun u (hu:Below w.heap.size w u)=>show KE w (cmpE (.num X) .lo) (.returned (.int .i64 (1))) u from ⟨rfl,hu⟩)
   go_enter Tryz.func41,Tryz.ntmps41
   go_wp2_with fail
   exact bodyPost_ret (v:=.int .i64 (1)) (by simp [results,Tryz.results41,go_sem]) rfl (HK.out _ HBt.out)
  | num Y=>
   simp only [rb] at x0 x1 x2 y0 y1 y2 xl yl HBt HZ ⊢
   have HK:=Qh (HC.out X Y rfl rfl _ HBt.out)
   clear HC
   go_enter Tryz.func41,Tryz.ntmps41
   go_wp2_with fail
   (with_reducible refine HK.out.mono ?_)
   rintro r w3 ⟨he,hb3⟩
   subst he
   have HR:=Qh (Qt HBt.out hb3)
   clear x0 x1 x2 y0 y1 y2 hb3
   have key:KE w (cmpE (.num X) (.num Y)) (.returned (.int .i64 (cmpZ X Y))) w3:=⟨rfl,HR.out⟩
   go_wp2_with fail
   exact bodyPost_ret (by simp [results,Tryz.results41,go_sem]) rfl key
  | hi=>
   simp only [rb] at x0 x1 x2 y0 y1 y2 xl yl HBt HZ ⊢
   clear HC
   have HK:=Qh (fun u (hu:Below w.heap.size w u)=>show KE w (cmpE (.num X) .hi) (.returned (.int .i64 (-1))) u from ⟨rfl,hu⟩)
   go_enter Tryz.func41,Tryz.ntmps41
   go_wp2_with fail
   exact bodyPost_ret (v:=.int .i64 (-1)) (by simp [results,Tryz.results41,go_sem]) rfl (HK.out _ HBt.out)
 | hi=>
  cases f with
  | lo=>
   simp only [rb] at x0 x1 x2 y0 y1 y2 xl yl HBt HZ ⊢
   clear HC
   have HK:=Qh (fun u (hu:Below w.heap.size w u)=>show KE w (cmpE .hi .lo) (.returned (.int .i64 (2))) u from ⟨rfl,hu⟩)
   go_enter Tryz.func41,Tryz.ntmps41
   go_wp2_with fail
   exact bodyPost_ret (v:=.int .i64 (2)) (by simp [results,Tryz.results41,go_sem]) rfl (HK.out _ HBt.out)
  | num Y=>
   simp only [rb] at x0 x1 x2 y0 y1 y2 xl yl HBt HZ ⊢
   clear HC
   have HK:=Qh (fun u (hu:Below w.heap.size w u)=>show KE w (cmpE .hi (.num Y)) (.returned (.int .i64 (1))) u from ⟨rfl,hu⟩)
   go_enter Tryz.func41,Tryz.ntmps41
   go_wp2_with fail
   exact bodyPost_ret (v:=.int .i64 (1)) (by simp [results,Tryz.results41,go_sem]) rfl (HK.out _ HBt.out)
  | hi=>
   simp only [rb] at x0 x1 x2 y0 y1 y2 xl yl HBt HZ ⊢
   clear HC
   have HK:=Qh (fun u (hu:Below w.heap.size w u)=>show KE w (cmpE .hi .hi) (.returned (.int .i64 (0))) u from ⟨rfl,hu⟩)
   go_enter Tryz.func41,Tryz.ntmps41
   go_wp2_with fail
   exact bodyPost_ret (v:=.int .i64 (0)) (by simp [results,Tryz.results41,go_sem]) rfl (HK.out _ HBt.out)
theorem rb_i (e:Ed) (A:Option Addr) (c:Nat):(rb e A c).i=infZ e:=by cases e <;> rfl
theorem Sb.i {w:World} {P:Nat→Prop} {e:Ed} {b:Bd} (h:Sb w P e b):b.i=infZ e:=by
 obtain ⟨A,c,rfl⟩:=h.is
 exact rb_i e A c
def BP (w:World) (v:Bool) (e:Ending) (w':World):Prop:=e = .returned (.bool v)∧Below w.heap.size w w'
theorem rwanted0 (x y:Bool) (w:World):Calls Tryz.prog 96 #[.int .i64 0,.bool x,.bool y] w (BP w (x || y)):=by
 have HB:=Qh (Below.refl w.heap.size w)
 cases x <;> cases y
 ·go_enter Tryz.func96,Tryz.ntmps96
  go_wp2_with fail
  exact bodyPost_ret (v:=.bool false) (by simp [results,Tryz.results96,go_sem]) rfl ⟨rfl,by first | exact HB.out | exact HB.out.drew⟩
 ·go_enter Tryz.func96,Tryz.ntmps96
  go_wp2_with fail
  exact bodyPost_ret (v:=.bool true) (by simp [results,Tryz.results96,go_sem]) rfl ⟨rfl,by first | exact HB.out | exact HB.out.drew⟩
 ·go_enter Tryz.func96,Tryz.ntmps96
  go_wp2_with fail
  exact bodyPost_ret (v:=.bool true) (by simp [results,Tryz.results96,go_sem]) rfl ⟨rfl,by first | exact HB.out | exact HB.out.drew⟩
 ·go_enter Tryz.func96,Tryz.ntmps96
  go_wp2_with fail
  exact bodyPost_ret (v:=.bool true) (by simp [results,Tryz.results96,go_sem]) rfl ⟨rfl,by first | exact HB.out | exact HB.out.drew⟩
theorem any_take {L:List R} {el:R→Bool} {k:Nat} {r:R} (h:(L.take k).any el=false) (hk:L[k]?=some r) (hr:el r=false):(L.take (k+1)).any el=false:=by
 rw [List.take_add_one,hk,List.any_append,h]
 simp [hr]
theorem any_hit {L:List R} {el:R→Bool} {k:Nat} {r:R} {b:Bool} (h:L.any el=b) (hk:L[k]?=some r) (hr:el r=true):true=b:=by
 rw [←h,eq_comm,List.any_eq_true]
 exact ⟨r,List.mem_of_getElem? hk,hr⟩
def lowR (r:R):Bool:=decide (infZ r.1<0) && decide (0≤infZ r.2)
def lngE:Ed→Bool
 | .num z=>decide (4096<(digs 2 z.natAbs).length)
 | _=>false
def lngS (r:R):Bool:=lngE r.1 || lngE r.2
theorem rb_lng (e:Ed) (A:Option Addr) (c:Nat):(decide ((rb e A c).i=0) && decide (4096<(rb e A c).n))=lngE e:=by cases e <;> simp [rb,lngE] <;> rfl
theorem Sb.lng {w:World} {P:Nat→Prop} {e:Ed} {b:Bd} (h:Sb w P e b):(decide (b.i=0) && decide (4096<b.n))=lngE e:=by
 obtain ⟨A,c,rfl⟩:=h.is
 exact rb_lng e A c
theorem rLow_any {w:World} {P:Nat→Prop} {A:Option Addr} {n c:Nat} {ps:List Rg} (h:RefS w P A n c ps) (hP:∀ b,P b→b<w.heap.size) :
  Calls Tryz.prog 97 #[.slice A n c] w (BP w ((ps.map edsS).any lowR)):=by
 have HS:=Qh h
 have HP:=Qh hP
 have HLn:=Qh h.row.len
 have hcap:=h.row.cap
 have hmax:=h.row.max
 unfold maxLen at hmax
 obtain ⟨B,hB⟩:∃ B,w.heap.size=B:=⟨_,rfl⟩
 have HB:=Qh hB
 obtain ⟨r,hr⟩:∃ r,(ps.map edsS).any lowR=r:=⟨_,rfl⟩
 have HR:=Qh hr
 unfold BP
 rw [hr,hB]
 have HI0:=Qh (show Below B w w∧((ps.map edsS).take 0).any lowR=false from ⟨Below.refl _ _,rfl⟩)
 clear h hP hB hr
 go_enter Tryz.func97,Tryz.ntmps97
 go_wp2_with fail
 go_loopw [3] (fun vi wr=>∃ k,k≤n∧vi = .int .i64 (k:Nat)∧Hid (Below B w wr∧((ps.map edsS).take k).any lowR=false)) (fun vi _=>n - (intOf vi).toNat)
 case atStart=>exact ⟨0,Nat.zero_le _,rfl,HI0⟩
 case round=>
  obtain ⟨k,hk,rfl,HI⟩:=hrel
  clear HI0
  by_cases hkn:k<n
  ·obtain ⟨p,hp⟩:∃ p,ps[k]?=some p:=⟨ps[k]'(by have:=HLn.out;omega),by simp⟩
   obtain ⟨b,o,rfl,hPb,q0,q1,q2,q3,q4,q5⟩:=HS.out.row.at_ hp
   have hbB:b<B:=by have:=HP.out b hPb;have:=HB.out;omega
   have HK:=Qh (HS.out.kid p (List.mem_of_getElem? hp))
   have HPk:=Qh (show (ps.map edsS)[k]?=some (edsS p) by simp [hp])
   have HQ:=Qh (Qa q0 (Qa q1 (Qa q2 (Qa q3 (Qa q4 q5)))))
   have hblk:=HI.out.1.block b hbB
   have HNo:=Qh (fun (he:lowR (edsS p)=false)=>any_take HI.out.2 HPk.out he)
   have HYes:=Qh (fun (he:lowR (edsS p)=true)=>any_hit HR.out HPk.out he)
   have hki:(k:Int)<(n:Int):=by omega
   have hk0:(0:Int)≤(k:Int):=by omega
   have i0:=(Qc (a:=⟨b,o+k * 6,none⟩) hblk).trans q0
   have i1:=(Qc (a:=⟨b,o+k * 6+1,none⟩) hblk).trans q1
   have i2:=(Qc (a:=⟨b,o+k * 6+2,none⟩) hblk).trans q2
   have i3:=(Qc (a:=⟨b,o+k * 6+3,none⟩) hblk).trans q3
   have i4:=(Qc (a:=⟨b,o+k * 6+4,none⟩) hblk).trans q4
   have i5:=(Qc (a:=⟨b,o+k * 6+5,none⟩) hblk).trans q5
   clear q0 q1 q2 q3 q4 q5 hp hPb
   have HE:=Qh (show lowR (edsS p)=(decide (p.1.i<0) && decide (0≤p.2.i)) by
    unfold lowR
    rw [HK.out.a.i,HK.out.b.i]
    rfl)
   obtain ⟨⟨p1i,p1g,p1A,p1n,p1c,p1l⟩,⟨p2i,p2g,p2A,p2n,p2c,p2l⟩⟩:=p
   simp only at i0 i1 i2 i3 i4 i5 HE
   rcases (by omega:(p1i<0∧0≤p2i)∨(p1i<0∧¬0≤p2i)∨¬p1i<0) with ⟨c1,c2⟩ | ⟨c1,c2⟩ | c1
   ·go_wp2_with fail
    exact bodyPost_ret (v:=.bool true) (by simp [results,Tryz.results97,go_sem]) rfl ⟨by rw [←HYes.out (by rw [HE.out];simp [c1,c2])],HI.out.1⟩
   ·go_wp2_with fail
    exact ⟨⟨k+1,by omega,by go_num,Qh ⟨HI.out.1,HNo.out (by rw [HE.out];simp [c2])⟩⟩,by simp [intOf];omega⟩
   ·go_wp2_with fail
    exact ⟨⟨k+1,by omega,by go_num,Qh ⟨HI.out.1,HNo.out (by rw [HE.out];simp [c1])⟩⟩,by simp [intOf];omega⟩
  ·have hki:¬(k:Int)<(n:Int):=by omega
   have hf:false=r:=by
    rw [←HR.out,eq_comm]
    have h1:=HI.out.2
    rwa [List.take_of_length_le (by rw [List.length_map,HLn.out];omega)] at h1
   have HF:=Qh hf
   clear hf
   go_wp2_with fail
   exact bodyPost_ret (v:=.bool false) (by simp [results,Tryz.results97,go_sem]) rfl ⟨by rw [←HF.out],HI.out.1⟩
theorem rLong_set {w:World} {P:Nat→Prop} {A:Option Addr} {n c:Nat} {ps:List Rg} (h:RefS w P A n c ps) (hP:∀ b,P b→b<w.heap.size) :
  Calls Tryz.prog 32 #[.slice A n c] w (BP w ((ps.map edsS).any lngS)):=by
 have HS:=Qh h
 have HP:=Qh hP
 have HLn:=Qh h.row.len
 have hcap:=h.row.cap
 have hmax:=h.row.max
 unfold maxLen at hmax
 obtain ⟨B,hB⟩:∃ B,w.heap.size=B:=⟨_,rfl⟩
 have HB:=Qh hB
 obtain ⟨r,hr⟩:∃ r,(ps.map edsS).any lngS=r:=⟨_,rfl⟩
 have HR:=Qh hr
 unfold BP
 rw [hr,hB]
 have HI0:=Qh (show Below B w w∧((ps.map edsS).take 0).any lngS=false from ⟨Below.refl _ _,rfl⟩)
 clear h hP hB hr
 go_enter Tryz.func32,Tryz.ntmps32
 go_wp2_with fail
 go_loopw [3] (fun vi wr=>∃ k,k≤n∧vi = .int .i64 (k:Nat)∧Hid (Below B w wr∧((ps.map edsS).take k).any lngS=false)) (fun vi _=>n - (intOf vi).toNat)
 case atStart=>exact ⟨0,Nat.zero_le _,rfl,HI0⟩
 case round=>
  obtain ⟨k,hk,rfl,HI⟩:=hrel
  clear HI0
  by_cases hkn:k<n
  ·obtain ⟨p,hp⟩:∃ p,ps[k]?=some p:=⟨ps[k]'(by have:=HLn.out;omega),by simp⟩
   obtain ⟨b,o,rfl,hPb,q0,q1,q2,q3,q4,q5⟩:=HS.out.row.at_ hp
   have hbB:b<B:=by have:=HP.out b hPb;have:=HB.out;omega
   have HK:=Qh (HS.out.kid p (List.mem_of_getElem? hp))
   have HPk:=Qh (show (ps.map edsS)[k]?=some (edsS p) by simp [hp])
   have HQ:=Qh (Qa q0 (Qa q1 (Qa q2 (Qa q3 (Qa q4 q5)))))
   have hblk:=HI.out.1.block b hbB
   have HNo:=Qh (fun (he:lngS (edsS p)=false)=>any_take HI.out.2 HPk.out he)
   have HYes:=Qh (fun (he:lngS (edsS p)=true)=>any_hit HR.out HPk.out he)
   have hki:(k:Int)<(n:Int):=by omega
   have hk0:(0:Int)≤(k:Int):=by omega
   have i0:=(Qc (a:=⟨b,o+k * 6,none⟩) hblk).trans q0
   have i1:=(Qc (a:=⟨b,o+k * 6+1,none⟩) hblk).trans q1
   have i2:=(Qc (a:=⟨b,o+k * 6+2,none⟩) hblk).trans q2
   have i3:=(Qc (a:=⟨b,o+k * 6+3,none⟩) hblk).trans q3
   have i4:=(Qc (a:=⟨b,o+k * 6+4,none⟩) hblk).trans q4
   have i5:=(Qc (a:=⟨b,o+k * 6+5,none⟩) hblk).trans q5
   clear q0 q1 q2 q3 q4 q5 hp hPb
   have HE:=Qh (show lngS (edsS p)=((decide (p.1.i=0) && rlng p.1.n) || (decide (p.2.i=0) && rlng p.2.n)) by
    unfold rlng
    rw [HK.out.a.lng,HK.out.b.lng]
    rfl)
   have HL:=Qh (fun (z:World)=>Qa (rLong_any p.1.g p.1.A p.1.n p.1.c z) (rLong_any p.2.g p.2.A p.2.n p.2.c z))
   obtain ⟨⟨p1i,p1g,p1A,p1n,p1c,p1l⟩,⟨p2i,p2g,p2A,p2n,p2c,p2l⟩⟩:=p
   simp only at i0 i1 i2 i3 i4 i5 HE HL
   generalize rlng p1n=x at *
   generalize rlng p2n=y at *
   have hsz:=HI.out.1.size
   rw [HB.out] at hsz
   rcases (by omega:p1i=0∨¬p1i=0) with rfl | c1
   ·cases x
    ·go_wp2_with fail
     (with_reducible refine (HL.out _).1.mono ?_)
     rintro e u1 ⟨he,hb1⟩
     subst he
     have HB1:=Qh (HI.out.1.trans (hb1.mono (by have:=HI.out.1.size;have:=HB.out;omega)))
     have hblk1:=HB1.out.block b hbB
     have j3:=(Qc (a:=⟨b,o+k * 6+3,none⟩) hblk1).trans HQ.out.2.2.2.1
     have j4:=(Qc (a:=⟨b,o+k * 6+4,none⟩) hblk1).trans HQ.out.2.2.2.2.1
     have j5:=(Qc (a:=⟨b,o+k * 6+5,none⟩) hblk1).trans HQ.out.2.2.2.2.2
     (try simp only at j3 j4 j5)
     rcases (by omega:p2i=0∨¬p2i=0) with rfl | c2
     ·cases y
      ·go_wp2_with fail
       (with_reducible refine (HL.out _).2.mono ?_)
       rintro e u2 ⟨he,hb2⟩
       subst he
       have HB2:=Qh (HB1.out.trans (hb2.mono (by have:=HB1.out.size;have:=HB.out;omega)))
       go_wp2_with fail
       exact ⟨⟨k+1,by omega,by go_num,Qh ⟨HB2.out,HNo.out (by rw [HE.out];simp)⟩⟩,by simp [intOf];omega⟩
      ·go_wp2_with fail
       (with_reducible refine (HL.out _).2.mono ?_)
       rintro e u2 ⟨he,hb2⟩
       subst he
       have HB2:=Qh (HB1.out.trans (hb2.mono (by have:=HB1.out.size;have:=HB.out;omega)))
       go_wp2_with fail
       exact bodyPost_ret (v:=.bool true) (by simp [results,Tryz.results32,go_sem]) rfl ⟨by rw [←HYes.out (by rw [HE.out];simp)],HB2.out⟩
     ·have d2:(p2i==0)=false:=beq_eq_false_iff_ne.2 c2
      go_wp2_with fail
      exact ⟨⟨k+1,by omega,by go_num,Qh ⟨HB1.out,HNo.out (by rw [HE.out];simp [c2])⟩⟩,by simp [intOf];omega⟩
    ·go_wp2_with fail
     (with_reducible refine (HL.out _).1.mono ?_)
     rintro e u1 ⟨he,hb1⟩
     subst he
     have HB1:=Qh (HI.out.1.trans (hb1.mono (by have:=HI.out.1.size;have:=HB.out;omega)))
     go_wp2_with fail
     exact bodyPost_ret (v:=.bool true) (by simp [results,Tryz.results32,go_sem]) rfl ⟨by rw [←HYes.out (by rw [HE.out];simp)],HB1.out⟩
   ·have d1:(p1i==0)=false:=beq_eq_false_iff_ne.2 c1
    rcases (by omega:p2i=0∨¬p2i=0) with rfl | c2
    ·cases y
     ·go_wp2_with fail
      (with_reducible refine (HL.out _).2.mono ?_)
      rintro e u2 ⟨he,hb2⟩
      subst he
      have HB2:=Qh (HI.out.1.trans (hb2.mono (by have:=HI.out.1.size;have:=HB.out;omega)))
      go_wp2_with fail
      exact ⟨⟨k+1,by omega,by go_num,Qh ⟨HB2.out,HNo.out (by rw [HE.out];simp [c1])⟩⟩,by simp [intOf];omega⟩
     ·go_wp2_with fail
      (with_reducible refine (HL.out _).2.mono ?_)
      rintro e u2 ⟨he,hb2⟩
      subst he
      have HB2:=Qh (HI.out.1.trans (hb2.mono (by have:=HI.out.1.size;have:=HB.out;omega)))
      go_wp2_with fail
      exact bodyPost_ret (v:=.bool true) (by simp [results,Tryz.results32,go_sem]) rfl ⟨by rw [←HYes.out (by rw [HE.out];simp [c1])],HB2.out⟩
    ·have d2:(p2i==0)=false:=beq_eq_false_iff_ne.2 c2
     go_wp2_with fail
     exact ⟨⟨k+1,by omega,by go_num,Qh ⟨HI.out.1,HNo.out (by rw [HE.out];simp [c1,c2])⟩⟩,by simp [intOf];omega⟩
  ·have hki:¬(k:Int)<(n:Int):=by omega
   have hf:false=r:=by
    rw [←HR.out,eq_comm]
    have h1:=HI.out.2
    rwa [List.take_of_length_le (by rw [List.length_map,HLn.out];omega)] at h1
   have HF:=Qh hf
   clear hf
   go_wp2_with fail
   exact bodyPost_ret (v:=.bool false) (by simp [results,Tryz.results32,go_sem]) rfl ⟨by rw [←HF.out],HI.out.1⟩
def GBox (w:World) (g:Nat) (x:Bool) (y:Value):Prop:=w.heap[g]?=some (.cells #[.bool x,y] 79 (0,0))
section
variable {w w':World} {g:Nat} {x:Bool} {y:Value}
theorem GBox.of_new (x:Bool) (y:Value):GBox (w.alloc (.cells #[.bool x,y] 79)) w.heap.size x y:=heap_alloc_new w _
theorem GBox.lt (h:GBox w g x y):g<w.heap.size:=(Array.getElem?_eq_some_iff.1 h).1
theorem GBox.below (h:GBox w g x y) (hb:Below w.heap.size w w'):GBox w' g x y:=(hb.block g h.lt).trans h
theorem GBox.cells (h:GBox w g x y):w.cell? ⟨g,0,none⟩=some (.bool x)∧w.cell? ⟨g,1,none⟩=some y:=by
 refine ⟨?_,?_⟩ <;> (rw [cell_of_row w g _ _ _ (0,0) h];rfl)
end
theorem inB_le {z:Int} {r:R} : inB z r=(decide (leE r.1 (.num z)) && decide (leE (.num z) r.2)):=rfl
theorem rIn_any {w:World} {P:Nat→Prop} {A:Option Addr} {n c:Nat} {ps:List Rg} {Q:Nat→Prop} {z:Int} {Az:Option Addr} {cz:Nat} (h:RefS w P A n c ps) (hP:∀ b,P b→b<w.heap.size) (hz:Sb w Q (.num z) (rb (.num z) Az cz)) (hQ:∀ b,Q b→b<w.heap.size) :
  Calls Tryz.prog 98 #[.slice A n c,.agg #[.bool (decide (z<0)),.slice Az (digs 2 z.natAbs).length cz]] w (BP w ((ps.map edsS).any (inB z))):=by
 have HS:=Qh h
 have HP:=Qh hP
 have HLn:=Qh h.row.len
 have hcap:=h.row.cap
 have hmax:=h.row.max
 unfold maxLen at hmax
 obtain ⟨B,hB⟩:∃ B,w.heap.size=B:=⟨_,rfl⟩
 have HB:=Qh hB
 obtain ⟨r,hr⟩:∃ r,(ps.map edsS).any (inB z)=r:=⟨_,rfl⟩
 have HR:=Qh hr
 unfold BP
 rw [hr,hB]
 have HZ:=Qh hz
 have HQ0:=Qh hQ
 have HI0:=Qh (show Below B w (w.alloc (.cells #[.bool (decide (z<0)),.slice Az (digs 2 z.natAbs).length cz] 79))∧((ps.map edsS).take 0).any (inB z)=false∧GBox (w.alloc (.cells #[.bool (decide (z<0)),.slice Az (digs 2 z.natAbs).length cz] 79)) w.heap.size (decide (z<0)) (.slice Az (digs 2 z.natAbs).length cz) from ⟨hB ▸ Qb,rfl,GBox.of_new _ _⟩)
 clear hz hQ
 clear h hP hB hr
 go_enter Tryz.func98,Tryz.ntmps98
 go_wp2_with fail
 go_loopw [5] (fun vi wr=>∃ k,k≤n∧vi = .int .i64 (k:Nat)∧Hid (Below B w wr∧((ps.map edsS).take k).any (inB z)=false∧GBox wr w.heap.size (decide (z<0)) (.slice Az (digs 2 z.natAbs).length cz))) (fun vi _=>n - (intOf vi).toNat)
 case atStart=>exact ⟨0,Nat.zero_le _,rfl,HI0⟩
 case round=>
  obtain ⟨k,hk,rfl,HI⟩:=hrel
  clear HI0
  by_cases hkn:k<n
  ·obtain ⟨p,hp⟩:∃ p,ps[k]?=some p:=⟨ps[k]'(by have:=HLn.out;omega),by simp⟩
   obtain ⟨b,o,rfl,hPb,q0,q1,q2,q3,q4,q5⟩:=HS.out.row.at_ hp
   have hbB:b<B:=by have:=HP.out b hPb;have:=HB.out;omega
   have HK:=Qh (HS.out.kid p (List.mem_of_getElem? hp))
   have HPk:=Qh (show (ps.map edsS)[k]?=some (edsS p) by simp [hp])
   have HQ:=Qh (Qa q0 (Qa q1 (Qa q2 (Qa q3 (Qa q4 q5)))))
   have hblk:=HI.out.1.block b hbB
   have HNo:=Qh (fun (he:(inB z) (edsS p)=false)=>any_take HI.out.2.1 HPk.out he)
   have HYes:=Qh (fun (he:(inB z) (edsS p)=true)=>any_hit HR.out HPk.out he)
   have hki:(k:Int)<(n:Int):=by omega
   have hk0:(0:Int)≤(k:Int):=by omega
   clear q0 q1 q2 q3 q4 q5 hp hPb
   have HE:=Qh (show inB z (edsS p)=(decide (cmpE p.1.ed2 (.num z)≤0) && decide (cmpE (.num z) p.2.ed2≤0)) by
    rw [inB_le,decide_eq_decide.2 cmpE_le,decide_eq_decide.2 cmpE_le]
    rfl)
   have HC:=Qh (fun (u:World) (hu:Below B w u)=>And.intro
    (rCmpE (w:=u) (HK.out.a.keep (Q:=P) (fun x hx=>⟨hx,hu.block x (by have:=HP.out x hx;have:=HB.out;omega)⟩)) (HZ.out.keep (Q:=Q) (fun x hx=>⟨hx,hu.block x (by have:=HQ0.out x hx;have:=HB.out;omega)⟩)) (fun x hx=>by have:=HP.out x hx;have:=hu.size;omega) (fun x hx=>by have:=HQ0.out x hx;have:=hu.size;omega))
    (rCmpE (w:=u) (HZ.out.keep (Q:=Q) (fun x hx=>⟨hx,hu.block x (by have:=HQ0.out x hx;have:=HB.out;omega)⟩)) (HK.out.b.keep (Q:=P) (fun x hx=>⟨hx,hu.block x (by have:=HP.out x hx;have:=HB.out;omega)⟩)) (fun x hx=>by have:=HQ0.out x hx;have:=hu.size;omega) (fun x hx=>by have:=HP.out x hx;have:=hu.size;omega)))
   obtain ⟨x,hx⟩:∃ x,cmpE p.1.ed2 (.num z)=x:=⟨_,rfl⟩
   obtain ⟨y,hy⟩:∃ x,cmpE (.num z) p.2.ed2=x:=⟨_,rfl⟩
   rw [hx,hy] at HC HE
   clear hx hy
   obtain ⟨⟨p1i,p1g,p1A,p1n,p1c,p1l⟩,⟨p2i,p2g,p2A,p2n,p2c,p2l⟩⟩:=p
   simp only [Bd.v,Bd.vals,rb] at HC
   have HQ:=HQ
   have HSz:=Qh (show B≤wr.heap.size by have:=HI.out.1.size;have:=HB.out;omega)
   have cell:∀ (u:World) (j:Nat),Below wr.heap.size wr u→u.cell? ⟨b,j,none⟩=w.cell? ⟨b,j,none⟩:=fun u j hu=>Qc (a:=⟨b,j,none⟩) ((hu.block b (by have:=HSz.out;omega)).trans (HI.out.1.block b hbB))
   have HCl:=Qh cell
   clear cell hblk
   rcases (by omega:(x≤0∧y≤0)∨(x≤0∧¬y≤0)∨¬x≤0) with ⟨c1,c2⟩ | ⟨c1,c2⟩ | c1
   ·go_upto_region 4 with fail
    refine wp_region_H (by kernel_rfl) (fun z0 K0 hs0=>?_)
    refine tH0 0 K0 ?_
    refine tH0 1 K0 ?_
    refine tH0 2 K0 ?_
    refine tH0 3 K0 ?_
    refine tH0 4 K0 ?_ (y:=fun z5 hS=>by have g0:=(HCl.out z5 (o+k * 6) hS).trans HQ.out.1;have g1:=(HCl.out z5 (o+k * 6+1) hS).trans HQ.out.2.1;have g2:=(HCl.out z5 (o+k * 6+2) hS).trans HQ.out.2.2.1;(try simp only at g0 g1 g2);go_simp;rfl)
    refine tH0 5 K0 ?_ (y:=fun z5 hS=>by obtain ⟨q0,q1⟩:=(HI.out.2.2.below hS).cells;go_simp;rfl)
    refine tH0 6 K0 ?_
    refine oH0 7 fun K hK=>?_
    go_simp
    (with_reducible refine (HC.out _ (HI.out.1.trans (K0.mono HSz.out))).1.mono ?_)
    rintro e z1 ⟨he,hb1⟩
    subst he
    have K1:=Qt K0 hb1
    refine hK.out _ _ K1 ?_
    refine tH0 8 K1 ?_
    refine tH0 9 K1 ?_
    refine tH0 10 K1 ?_ (y:=fun z5 hS=>by obtain ⟨q0,q1⟩:=(HI.out.2.2.below hS).cells;go_simp;rfl)
    refine tH0 11 K1 ?_
    refine tH0 12 K1 ?_
    refine tH0 13 K1 ?_
    refine tH0 14 K1 ?_
    refine tH0 15 K1 ?_
    refine tH0 16 K1 ?_ (y:=fun z5 hS=>by have g0:=(HCl.out z5 (o+k * 6+3) hS).trans HQ.out.2.2.2.1;have g1:=(HCl.out z5 (o+k * 6+4) hS).trans HQ.out.2.2.2.2.1;have g2:=(HCl.out z5 (o+k * 6+5) hS).trans HQ.out.2.2.2.2.2;(try simp only at g0 g1 g2);go_simp;rfl)
    refine oH0 17 fun K hK=>?_
    go_simp
    (with_reducible refine (HC.out _ (HI.out.1.trans (K1.mono HSz.out))).2.mono ?_)
    rintro e z2 ⟨he,hb2⟩
    subst he
    have K2:=Qt K1 hb2
    refine hK.out _ _ K2 ?_
    refine tH0 18 K2 ?_
    refine oH0 19 fun K hK=>?_
    go_simp
    refine hK.out _ _ K2 ?_
    refine wpAnyH_end (by kernel_rfl) ?_ _
    have HBz:=Qh (HI.out.1.trans (K2.mono HSz.out))
    have HGz:=Qh (HI.out.2.2.below K2)
    clear K0 K1 hb1 hs0 K2 hb2
    go_wp2_with fail
    exact bodyPost_ret (v:=.bool true) (by simp [results,Tryz.results98,go_sem]) rfl ⟨by rw [←HYes.out (by rw [HE.out];simp [c1,c2])],HBz.out⟩
   ·go_upto_region 4 with fail
    refine wp_region_H (by kernel_rfl) (fun z0 K0 hs0=>?_)
    refine tH0 0 K0 ?_
    refine tH0 1 K0 ?_
    refine tH0 2 K0 ?_
    refine tH0 3 K0 ?_
    refine tH0 4 K0 ?_ (y:=fun z5 hS=>by have g0:=(HCl.out z5 (o+k * 6) hS).trans HQ.out.1;have g1:=(HCl.out z5 (o+k * 6+1) hS).trans HQ.out.2.1;have g2:=(HCl.out z5 (o+k * 6+2) hS).trans HQ.out.2.2.1;(try simp only at g0 g1 g2);go_simp;rfl)
    refine tH0 5 K0 ?_ (y:=fun z5 hS=>by obtain ⟨q0,q1⟩:=(HI.out.2.2.below hS).cells;go_simp;rfl)
    refine tH0 6 K0 ?_
    refine oH0 7 fun K hK=>?_
    go_simp
    (with_reducible refine (HC.out _ (HI.out.1.trans (K0.mono HSz.out))).1.mono ?_)
    rintro e z1 ⟨he,hb1⟩
    subst he
    have K1:=Qt K0 hb1
    refine hK.out _ _ K1 ?_
    refine tH0 8 K1 ?_
    refine tH0 9 K1 ?_
    refine tH0 10 K1 ?_ (y:=fun z5 hS=>by obtain ⟨q0,q1⟩:=(HI.out.2.2.below hS).cells;go_simp;rfl)
    refine tH0 11 K1 ?_
    refine tH0 12 K1 ?_
    refine tH0 13 K1 ?_
    refine tH0 14 K1 ?_
    refine tH0 15 K1 ?_
    refine tH0 16 K1 ?_ (y:=fun z5 hS=>by have g0:=(HCl.out z5 (o+k * 6+3) hS).trans HQ.out.2.2.2.1;have g1:=(HCl.out z5 (o+k * 6+4) hS).trans HQ.out.2.2.2.2.1;have g2:=(HCl.out z5 (o+k * 6+5) hS).trans HQ.out.2.2.2.2.2;(try simp only at g0 g1 g2);go_simp;rfl)
    refine oH0 17 fun K hK=>?_
    go_simp
    (with_reducible refine (HC.out _ (HI.out.1.trans (K1.mono HSz.out))).2.mono ?_)
    rintro e z2 ⟨he,hb2⟩
    subst he
    have K2:=Qt K1 hb2
    refine hK.out _ _ K2 ?_
    refine tH0 18 K2 ?_
    refine oH0 19 fun K hK=>?_
    go_simp
    refine hK.out _ _ K2 ?_
    refine wpAnyH_end (by kernel_rfl) ?_ _
    have HBz:=Qh (HI.out.1.trans (K2.mono HSz.out))
    have HGz:=Qh (HI.out.2.2.below K2)
    clear K0 K1 hb1 hs0 K2 hb2
    go_wp2_with fail
    exact ⟨⟨k+1,by omega,by go_num,Qh ⟨HBz.out,HNo.out (by rw [HE.out];simp [c2]),HGz.out⟩⟩,by simp [intOf];omega⟩
   ·go_upto_region 4 with fail
    refine wp_region_H (by kernel_rfl) (fun z0 K0 hs0=>?_)
    refine tH0 0 K0 ?_
    refine tH0 1 K0 ?_
    refine tH0 2 K0 ?_
    refine tH0 3 K0 ?_
    refine tH0 4 K0 ?_ (y:=fun z5 hS=>by have g0:=(HCl.out z5 (o+k * 6) hS).trans HQ.out.1;have g1:=(HCl.out z5 (o+k * 6+1) hS).trans HQ.out.2.1;have g2:=(HCl.out z5 (o+k * 6+2) hS).trans HQ.out.2.2.1;(try simp only at g0 g1 g2);go_simp;rfl)
    refine tH0 5 K0 ?_ (y:=fun z5 hS=>by obtain ⟨q0,q1⟩:=(HI.out.2.2.below hS).cells;go_simp;rfl)
    refine tH0 6 K0 ?_
    refine oH0 7 fun K hK=>?_
    go_simp
    (with_reducible refine (HC.out _ (HI.out.1.trans (K0.mono HSz.out))).1.mono ?_)
    rintro e z1 ⟨he,hb1⟩
    subst he
    have K1:=Qt K0 hb1
    refine hK.out _ _ K1 ?_
    refine tH0 8 K1 ?_
    refine tH0 9 K1 ?_
    refine tI0 10 K1 ?_
    refine tI0 11 K1 ?_
    refine tI0 12 K1 ?_
    refine tI0 13 K1 ?_
    refine tI0 14 K1 ?_
    refine tI0 15 K1 ?_
    refine tI0 16 K1 ?_
    refine tI0 17 K1 ?_
    refine tI0 18 K1 ?_
    refine oH0 19 fun K hK=>?_
    go_simp
    refine hK.out _ _ K1 ?_
    refine wpAnyH_end (by kernel_rfl) ?_ _
    have HBz:=Qh (HI.out.1.trans (K1.mono HSz.out))
    have HGz:=Qh (HI.out.2.2.below K1)
    clear K0 K1 hb1 hs0
    go_wp2_with fail
    exact ⟨⟨k+1,by omega,by go_num,Qh ⟨HBz.out,HNo.out (by rw [HE.out];simp [c1]),HGz.out⟩⟩,by simp [intOf];omega⟩
  ·have hki:¬(k:Int)<(n:Int):=by omega
   have hf:false=r:=by
    rw [←HR.out,eq_comm]
    have h1:=HI.out.2.1
    rwa [List.take_of_length_le (by rw [List.length_map,HLn.out];omega)] at h1
   have HF:=Qh hf
   clear hf
   go_wp2_with fail
   exact bodyPost_ret (v:=.bool false) (by simp [results,Tryz.results98,go_sem]) rfl ⟨by rw [←HF.out],HI.out.1⟩
def ROfB (B:Nat) (w:World) (L:List R) (n:Nat) (e:Ending) (w':World):Prop:=∃ A' c' qs,e = .returned (.slice A' n c')∧SRow w' B (Fr B w') A' n c' qs∧qs.map edsS=L∧Below B w w'
def ROf (w:World) (L:List R) (n:Nat) (e:Ending) (w':World):Prop:=ROfB w.heap.size w L n e w'
theorem Sb.mk_ {w:World} {P:Nat→Prop} {e:Ed} {b:Bd} (h:Sb w P e b):Sb w P b.ed2 b:=by
 have h2:=h.ed
 rw [h2]
 exact h
theorem rOf_any {w:World} {P:Nat→Prop} {A:Option Addr} {n c:Nat} {ps:List Rg} (h:SetP w P A n c ps) (hP:∀ b,P b→b<w.heap.size) (hs:∀ p∈ps,p.1.n≤31250000∧p.2.n≤31250000) (hn:n≤1000000000) :
  Calls Tryz.prog 6 #[.slice A n c] w (ROf w (ps.map edsR) n):=by
 have HS:=Qh h
 have HP:=Qh hP
 have HZ:=Qh hs
 have HLn:=Qh h.row.len
 have hcap:=h.row.cap
 have hmax:=h.row.max
 unfold maxLen at hmax
 obtain ⟨B,hB⟩:∃ B,w.heap.size=B:=⟨_,rfl⟩
 have HB:=Qh hB
 have HN0:=Qh (show Below B w w∧B≤w.heap.size∧SRow w B (Fr B w) none 0 0 []∧([]:List Rg).map edsS=(ps.take 0).map edsR from ⟨Below.refl _ _,by omega,SRow.nil _ _ _,rfl⟩)
 unfold ROf
 rw [hB]
 clear h hP hs hB
 go_enter Tryz.func6,Tryz.ntmps6
 go_wp2_with fail
 go_loopw [3,4] (fun vo vi wr=>∃ k A' c' qs,k≤n∧vi = .int .i64 (k:Nat)∧vo = .slice A' k c'∧Hid (Below B w wr∧B≤wr.heap.size∧SRow wr B (Fr B wr) A' k c' qs∧qs.map edsS=(ps.take k).map edsR)) (fun _ vi _=>n - (intOf vi).toNat)
 case atStart=>exact ⟨0,none,0,[],Nat.zero_le _,rfl,rfl,HN0⟩
 case round=>
  obtain ⟨k,A2,c2,qs,hk,rfl,rfl,HI⟩:=hrel
  clear HN0
  by_cases hkn:k<n
  ·obtain ⟨p,hp⟩:∃ p,ps[k]?=some p:=⟨ps[k]'(by have:=HLn.out;omega),by simp⟩
   obtain ⟨b,o,rfl,hPb,q0,q1,q2,q3,q4,q5⟩:=HS.out.row.at_ hp
   have hbB:b<B:=by have:=HP.out b hPb;have:=HB.out;omega
   have HKid:=Qh (HS.out.kid p (List.mem_of_getElem? hp))
   have HZp:=Qh (HZ.out p (List.mem_of_getElem? hp))
   have HPk:=Qh hp
   have HQ:=Qh (Qa q0 (Qa q1 (Qa q2 (Qa q3 (Qa q4 q5)))))
   have keepP:∀ (z:World),Below B w z→∀ x,P x→P x∧z.heap[x]?=w.heap[x]?:=fun z hz x hx=>⟨hx,hz.block x (by have:=HP.out x hx;have:=HB.out;omega)⟩
   have HSh:=Qh (fun z (hz:Below B w z)=>Qa (rend_any (w:=z) (HKid.out.a.keep (keepP z hz)) (fun x hx=>Ql (HP.out x hx) hz.size) HZp.out.1) (rend_any (w:=z) (HKid.out.b.keep (keepP z hz)) (fun x hx=>Ql (HP.out x hx) hz.size) HZp.out.2))
   have HC1:=Qh (fun (z:World) (j:Nat) (hz:Below B w z)=>(Qc (a:=⟨b,j,none⟩) (hz.block b hbB):z.cell? ⟨b,j,none⟩=w.cell? ⟨b,j,none⟩))
   have HEd:=Qh (show edsR p=(p.1.ed,p.2.ed) from rfl)
   obtain ⟨e1,he1⟩:∃ e,p.1.ed=e:=⟨_,rfl⟩
   obtain ⟨e2,he2⟩:∃ e,p.2.ed=e:=⟨_,rfl⟩
   rw [he1,he2] at HEd HSh
   obtain ⟨⟨p1i,p1g,p1A,p1n,p1c,p1l⟩,⟨p2i,p2g,p2A,p2n,p2c,p2l⟩⟩:=p
   simp only [Bd.v,Bd.vals] at HSh
   have hki:(k:Int)<(n:Int):=by omega
   have hk0:(0:Int)≤(k:Int):=by omega
   clear hp q0 q1 q2 q3 q4 q5 keepP HKid HZp hPb he1 he2
   go_upto_region 5 with fail
   refine wp_region_HB B (by kernel_rfl) (fun z0 K0 hs0=>?_)
   have S0:Below B wr z0:=K0.mono HI.out.2.1
   refine tH0 0 S0 ?_
   refine tH0 1 S0 ?_
   refine tH0 2 S0 ?_
   refine tH0 3 S0 ?_
   refine tH0 4 S0 ?_
   refine tH0 5 S0 ?_ (y:=fun z5 hS=>by have g0:=(HC1.out z5 (o+k * 6) (HI.out.1.trans hS)).trans HQ.out.1;have g1:=(HC1.out z5 (o+k * 6+1) (HI.out.1.trans hS)).trans HQ.out.2.1;have g2:=(HC1.out z5 (o+k * 6+2) (HI.out.1.trans hS)).trans HQ.out.2.2.1;go_simp;rfl)
   refine tH0 7 S0 ?_
   refine tH0 8 S0 ?_
   refine tH0 9 S0 ?_
   refine tH0 10 S0 ?_
   refine tH0 11 S0 ?_ (y:=fun z5 hS=>by have g0:=(HC1.out z5 (o+k * 6+3) (HI.out.1.trans hS)).trans HQ.out.2.2.2.1;have g1:=(HC1.out z5 (o+k * 6+4) (HI.out.1.trans hS)).trans HQ.out.2.2.2.2.1;have g2:=(HC1.out z5 (o+k * 6+5) (HI.out.1.trans hS)).trans HQ.out.2.2.2.2.2;go_simp;rfl)
   refine oH0 6 fun K hK=>?_
   go_simp
   (with_reducible refine (HSh.out _ (HI.out.1.trans S0)).1.mono ?_)
   rintro e z1 ⟨⟨ai,ag,aA,an,ac,al⟩,he,hat,hb1⟩
   simp only [Bd.v,Bd.vals] at he
   subst he
   have HAt1:=Qh hat
   have K1:=Qt K0 hb1
   have S1:Below B wr z1:=K1.mono HI.out.2.1
   refine hK.out _ _ S1 ?_
   refine oH0 12 fun K hK=>?_
   go_simp
   (with_reducible refine (HSh.out _ (HI.out.1.trans S1)).2.mono ?_)
   rintro e z2 ⟨⟨bi,bg,bA,bn,bc,bl⟩,he,hbt,hb2⟩
   simp only [Bd.v,Bd.vals] at he
   subst he
   have HAt2:=Qh hbt
   have K2:=Qt K1 hb2
   have S2:Below B wr z2:=K2.mono HI.out.2.1
   refine hK.out _ _ S2 ?_
   refine tH0 13 S2 ?_
   refine oH0 14 fun K hK=>?_
   go_simp
   have S3:Below B wr (z2.alloc (.cells #[.int .i64 ai,.bool ag,.slice aA an ac,.int .i64 bi,.bool bg,.slice bA bn bc] 84)):=S2.alloc (by have:=S2.size;have:=HI.out.2.1;omega) _
   refine hK.out _ _ S3 ?_
   refine oH0 15 fun K hK=>?_
   have hsz0:=K0.size
   have hsz1:=hb1.size
   have hsz2:=hb2.size
   have HAt:=Qh (show Sg z2 (fun x=>wr.heap.size≤x∧x<z2.heap.size) ((⟨ai,ag,aA,an,ac,al⟩:Bd),(⟨bi,bg,bA,bn,bc,bl⟩:Bd)) from ⟨Sb.mk_ (hat.keep (fun x hx=>⟨⟨by have:=hx.1;omega,by have:=hx.2;omega⟩,hb2.block x hx.2⟩)),Sb.mk_ (hbt.wide (fun x hx=>⟨by have:=hx.1;omega,hx.2⟩))⟩)
   refine step_app1S (q:=((⟨ai,ag,aA,an,ac,al⟩:Bd),(⟨bi,bg,bA,bn,bc,bl⟩:Bd))) rfl _ _ rfl (by rfl) (by rfl) HI.out.2.2.1 HI.out.2.1 K2 (HI.out.2.2.1.apart HI.out.2.1 (Nat.le_refl _) HAt.out) (by unfold maxRg;omega) ?_
   intro A6 c6 w6 hr6 hb6 hs6
   have HR6:=Qh (Qa hr6 (Qa hb6 hs6))
   clear hr6 hb6 hs6 hat hbt hb1 hb2 K1 K2 S0 S1 S2 S3 hs0 K0 hsz0 hsz1 hsz2
   refine hK.out _ _ HR6.out.2.1 ?_
   refine oH0 16 fun K hK=>?_
   go_simp
   refine hK.out _ _ HR6.out.2.1 ?_
   refine wpAnyH_end (by kernel_rfl) ?_ _
   have HG6:=Qh (show (qs ++ [((⟨ai,ag,aA,an,ac,al⟩:Bd),(⟨bi,bg,bA,bn,bc,bl⟩:Bd))]).map edsS=(ps.take (k+1)).map edsR from by
    rw [List.take_add_one,HPk.out,List.map_append,List.map_append,HI.out.2.2.2]
    congr 1
    simp only [Option.toList,List.map_cons,List.map_nil]
    rw [HEd.out]
    unfold edsS
    rw [HAt1.out.ed,HAt2.out.ed])
   go_wp2_with fail
   go_roundw
   case rel=>exact ⟨k+1,A6,c6,_,by omega,by go_num,by go_num,Qh ⟨HI.out.1.trans HR6.out.2.1,Nat.le_trans HI.out.2.1 HR6.out.2.2,HR6.out.1,HG6.out⟩⟩
   case measure=>simp [intOf];omega
  ·have hki:¬(k:Int)<(n:Int):=by omega
   have hkk:k=n:=by omega
   subst hkk
   have key:ROfB B w (ps.map edsR) k (.returned (.slice A2 k c2)) wr:=⟨A2,c2,qs,rfl,HI.out.2.2.1,by rw [HI.out.2.2.2,List.take_of_length_le (by rw [HLn.out];omega)],HI.out.1⟩
   go_wp2_with fail
   exact bodyPost_ret (by simp [results,Tryz.results6,go_sem]) rfl key
end
section
open Go.RowKit Hb Hf
structure Bg where
 z:Int
 A:Option Addr
 c:Nat
abbrev Bg.n (b:Bg):Nat:=(digs 2 b.z.natAbs).length
def cells2 (b:Bg):List Value:=[.bool (decide (b.z<0)),.slice b.A b.n b.c]
def Bg.At (w:World) (P:Nat→Prop) (b:Bg):Prop:=LimB w P b.A b.n b.c (digs 2 b.z.natAbs)
theorem Bg.At.keep {w w':World} {P Q:Nat→Prop} {b:Bg} (h:b.At w P) (hb:∀ x,P x→Q x∧w'.heap[x]?=w.heap[x]?):b.At w' Q:=LimB.keep h hb
def fl2 (ps:List Bg):List Value:=ps.flatMap cells2
theorem fl2_length (ps:List Bg):(fl2 ps).length=ps.length * 2:=by
 induction ps with
 | nil=>rfl
 | cons p ps ih=>
  have e:fl2 (p :: ps)=cells2 p ++ fl2 ps:=by simp [fl2]
  rw [e,List.length_append,ih,List.length_cons]
  show 2+_=_
  omega
theorem fl2_append (ps qs:List Bg):fl2 (ps ++ qs)=fl2 ps ++ fl2 qs:=by simp [fl2]
theorem fl2_get {ps:List Bg} {i j:Nat} {p:Bg} (hi:ps[i]?=some p) (hj:j<2):(fl2 ps)[i * 2+j]?=(cells2 p)[j]?:=by
 induction ps generalizing i with
 | nil=>simp at hi
 | cons q ps ih=>
  have e:fl2 (q :: ps)=cells2 q ++ fl2 ps:=by simp [fl2]
  have hl:(cells2 q).length=2:=rfl
  rw [e]
  cases i with
  | zero=>cases hi;rw [List.getElem?_append_left (by omega)];simp
  | succ i=>
   rw [List.getElem?_append_right (by omega),show (i+1) * 2+j - (cells2 q).length=i * 2+j by omega]
   exact ih (by simpa using hi)
theorem fl2_one (ps:List Bg):∀ u∈fl2 ps,u.oneCell'=true:=by
 intro u hu
 obtain ⟨p,hp,hy⟩:=List.mem_flatMap.1 hu
 simp [cells2] at hy
 rcases hy with rfl | rfl <;> rfl
structure RdB (w:World) (P:Nat→Prop) (A:Option Addr) (n c:Nat) (ps:List Bg):Prop where
 len:ps.length=n
 cap:n≤c
 max:c≤maxLen
 rd:ps ≠ []→∃ b o,A=some ⟨b,o,none⟩∧P b∧∀ i v,(fl2 ps)[i]?=some v→w.cell? ⟨b,o+i,none⟩=some v
 kid:∀ p∈ps,Bg.At w P p
theorem RdB.at_ {w:World} {P:Nat→Prop} {A:Option Addr} {n c:Nat} {ps:List Bg} (h:RdB w P A n c ps) {k:Nat} {p:Bg} (hk:ps[k]?=some p):∃ b o,A=some ⟨b,o,none⟩∧P b ∧
  w.cell? ⟨b,o+k * 2,none⟩=some (.bool (decide (p.z<0)))∧w.cell? ⟨b,o+k * 2+1,none⟩=some (.slice p.A p.n p.c):=by
 obtain ⟨b,o,e,hp,hc⟩:=h.rd (fun e=>by rw [e] at hk;simp at hk)
 have key:∀ j u,j<2→(cells2 p)[j]?=some u→w.cell? ⟨b,o+k * 2+j,none⟩=some u:=fun j u hj hu=>by
  have:=hc (k * 2+j) u ((fl2_get hk hj).trans hu)
  rwa [←Nat.add_assoc] at this
 exact ⟨b,o,e,hp,key 0 _ (by omega) rfl,key 1 _ (by omega) rfl⟩
theorem infoB:(Tryz.prog.info? 79).map (fun i=>(i.zero,i.size,i.bytes))=some (some (.agg #[.bool false,.slice none 0 0]),2,32):=by kernel_rfl
structure BRow (w:World) (B:Nat) (P:Nat→Prop) (A:Option Addr) (n c:Nat) (ps:List Bg):Prop where
 own:w.ownsRow B 79 2 (.slice A n c) n (fl2 ps)
 kid:∀ p∈ps,Bg.At w (fun b=>P b∧(Value.slice A n c).ownBlock≠some b) p
section
variable {w w':World} {B:Nat} {P:Nat→Prop} {A:Option Addr} {n c:Nat} {ps:List Bg}
theorem BRow.len (h:BRow w B P A n c ps):ps.length=n:=by have:=h.own.1;rw [fl2_length] at this;omega
theorem BRow.cap (h:BRow w B P A n c ps):n≤c∧c≤maxLen:=by
 rcases h.own.2 with ⟨h1,_⟩ | ⟨g,cap,cur,h1,h2,h3,h4,h5,_⟩
 ·injection h1 with a b c;subst b;subst c;exact ⟨Nat.le_refl _,by simp [maxLen]⟩
 ·injection h1 with a b c;subst c;exact ⟨h4,h5⟩
theorem BRow.nil (w:World) (B:Nat) (P:Nat→Prop):BRow w B P none 0 0 []:=⟨⟨rfl,.inl ⟨rfl,rfl⟩⟩,fun p hp=>by cases hp⟩
theorem BRow.block (h:BRow w B P A n c ps):(A=none∧n=0)∨∃ g,A=some ⟨g,0,none⟩∧B≤g∧g<w.heap.size∧(Value.slice A n c).ownBlock=some g:=by
 rcases h.own.2 with ⟨h1,_⟩ | ⟨g,cap,cur,h1,h2,h3,_⟩
 ·injection h1 with a b c;exact .inl ⟨a,b⟩
 ·injection h1 with a b c
  subst a
  exact .inr ⟨g,rfl,h2,(Array.getElem?_eq_some_iff.1 h3).1,rfl⟩
theorem BRow.wide {Q:Nat→Prop} (h:BRow w B P A n c ps) (hP:∀ b,P b→Q b):BRow w B Q A n c ps:=
 ⟨h.own,fun p hp=>(h.kid p hp).keep (fun b hb2=>⟨⟨hP b hb2.1,hb2.2⟩,rfl⟩)⟩
theorem BRow.lower {B':Nat} (h:BRow w B P A n c ps) (hB:B'≤B):BRow w B' P A n c ps:=by
 refine ⟨⟨h.own.1,?_⟩,h.kid⟩
 rcases h.own.2 with h1 | ⟨g,cap,cur,h1,h2,h3⟩
 ·exact .inl h1
 ·exact .inr ⟨g,cap,cur,h1,Nat.le_trans hB h2,h3⟩
theorem BRow.keepP (h:BRow w B P A n c ps) (hb:∀ b,B≤b→b<w.heap.size→w'.heap[b]?=w.heap[b]?) (hP:∀ b,P b→w'.heap[b]?=w.heap[b]?):BRow w' B P A n c ps:=by
 refine ⟨⟨h.own.1,?_⟩,fun p hp=>(h.kid p hp).keep (fun b hb2=>⟨hb2,hP b hb2.1⟩)⟩
 rcases h.own.2 with h1 | ⟨g,cap,cur,h1,h2,h3,h4⟩
 ·exact .inl h1
 ·exact .inr ⟨g,cap,cur,h1,h2,(hb g h2 (Array.getElem?_eq_some_iff.1 h3).1).trans h3,h4⟩
theorem BRow.keep (h:BRow w B P A n c ps) (hb:Below w.heap.size w w') (hP:∀ b,P b→b<w.heap.size):BRow w' B P A n c ps:=
 h.keepP (fun b _ hb2=>hb.block b hb2) (fun b hp=>hb.block b (hP b hp))
theorem BRow.set (h:BRow w B P A n c ps) (hP:∀ b,B≤b→b<w.heap.size→P b):RdB w P A n c ps:=by
 refine ⟨h.len,h.cap.1,h.cap.2,fun hl=>?_,fun p hp=>(h.kid p hp).keep fun b hb=>⟨hb.1,rfl⟩⟩
 have hn0:0<n:=by rw [←h.len];exact List.length_pos_iff.2 hl
 rcases h.block with ⟨_,h0⟩ | ⟨g,rfl,hB,hg,_⟩
 ·omega
 ·refine ⟨g,0,rfl,hP g hB hg,fun i v hv=>?_⟩
  have h9:=World.ownsRow.cells h.own (g:=g) rfl _ _ hv
  rw [add_zero'] at h9
  rw [Nat.zero_add]
  exact h9
end
theorem run_append_B {w:World} {B:Nat} {P:Nat→Prop} {A:Option Addr} {n c:Nat} {ps qs:List Bg} (h:BRow w B P A n c ps) (hP:∀ b,P b→b<w.heap.size) {ad:Addr} {m:Nat} (hq:qs.length=m)
  (hk:∀ q∈qs,Bg.At w (fun b=>P b∧(Value.slice A n c).ownBlock≠some b) q) (hnews:∀ j u,(fl2 qs)[j]?=some u→w.cell? (ad.add j)=some u) (hm:n+m≤maxRg) (hb:B≤w.heap.size)
  {v':Value} {w':World} (ho:w'.ownsRow B 79 2 v' (n+m) (fl2 ps ++ fl2 qs)) (hg:w.grownBy w' (Value.slice A n c).ownBlock) (hv:v'.ownBlock=(Value.slice A n c).ownBlock∨v'.ownBlock=some w.heap.size) :
  ∃ A' c',v' = .slice A' (n+m) c'∧BRow w' B P A' (n+m) c' (ps ++ qs)∧Below B w w':=by
 have hf:∃ A' c',v' = .slice A' (n+m) c':=by
  rcases ho.2 with ⟨h1,h2⟩ | ⟨g',cap,cur,h1,_⟩
  ·exact ⟨none,0,by rw [h1,h2]⟩
  ·exact ⟨_,cap,h1⟩
 obtain ⟨A',c',rfl⟩:=hf
 refine ⟨A',c',rfl,⟨by rw [fl2_append];exact ho,fun p hp=>?_⟩,⟨hg.os,hg.tape,hg.output,hg.size,fun j hj=>hg.block j (Ql hj hb) (fun e2=>?_)⟩⟩
 ·have hkid:Bg.At w (fun b=>P b∧(Value.slice A n c).ownBlock≠some b) p:=by
   rcases List.mem_append.1 hp with hp | hp
   ·exact h.kid p hp
   ·exact hk p hp
  refine hkid.keep (fun b hb2=>⟨⟨hb2.1,?_⟩,hg.block b (hP b hb2.1) (fun e=>hb2.2 e.symm)⟩)
  rcases hv with hv | hv
  ·rw [hv];exact hb2.2
  ·rw [hv];intro e;have:=hP b hb2.1;injection e with e;omega
 ·rcases h.block with ⟨h1,_⟩ | ⟨g,h1,h2,h3,h4⟩
  ·subst h1;simp [Value.ownBlock] at e2
  ·rw [h4] at e2;injection e2 with e2;omega
theorem wpList_append_B {ops:Array Oper} {rest:List Oper} {o:Oper} {a:Act} {Q:Exit→Act→World→Prop} {w:World} (hgd:o.guard=none) (s x:Operand)
  (ho:o.op = .call { callee:=.builtin .append,args:=#[s,x],argTypes:=#[85,85] })
  {B:Nat} {P:Nat→Prop} {A:Option Addr} {n c:Nat} {ps:List Bg} (qs:List Bg) (hs:a.eval s = .slice A n c) (h:BRow w B P A n c ps) (hP:∀ b,P b→b<w.heap.size)
  (ad:Addr) (m c2:Nat) (hx:a.eval x = .slice (some ad) m c2) (hq:qs.length=m) (hk:∀ q∈qs,Bg.At w (fun b=>P b∧(Value.slice A n c).ownBlock≠some b) q) (hnews:∀ j u,(fl2 qs)[j]?=some u→w.cell? (ad.add j)=some u)
  (hm:n+m≤maxRg) (hb:B≤w.heap.size)
  (hh:∀ A' c' w',BRow w' B P A' (n+m) c' (ps ++ qs)→Below B w w'→w.grownBy w' (Value.slice A n c).ownBlock→wpList Tryz.prog ops Q rest (a.put o.dst (.slice A' (n+m) c')) w') :
  wpList Tryz.prog ops Q (o :: rest) a w:=by
 obtain ⟨i0,hi,hz0,hz1,hz2⟩:=info_parts infoB
 have hml:n+m≤maxLen:=by unfold maxLen;unfold maxRg at hm;omega
 have hmb:(n+m) * 32≤140737488355328:=by unfold maxRg at hm;omega
 refine wpList_append_own_at _ hgd s x 85 ho B 79 i0 (.agg #[.bool false,.slice none 0 0]) 2 32 Tryz.underlying85 hi hz0 hz1 hz2 rfl (by decide) _ n (fl2 ps) hs h.own ad m c2 (fl2 qs) hx (by rw [fl2_length,hq]) hnews (fl2_one qs) hml hmb hb ?_
 intro v' w' ho' hg _ hv
 obtain ⟨A',c',rfl,hr,hbw⟩:=run_append_B h hP hq hk hnews hm hb ho' hg hv
 exact hh A' c' w' hr hbw hg
theorem step_append_B {o:Oper} {a:Act} {w:World} {K:Act→World→Prop} {Q:Exit→Act→World→Prop} (hgd:o.guard=none) (s x:Operand)
  (ho:o.op = .call { callee:=.builtin .append,args:=#[s,x],argTypes:=#[85,85] })
  {B:Nat} {P:Nat→Prop} {A:Option Addr} {n c:Nat} {ps:List Bg} (qs:List Bg) (hs:a.eval s = .slice A n c) (h:BRow w B P A n c ps) (hP:∀ b,P b→b<w.heap.size)
  (ad:Addr) (m c2:Nat) (hx:a.eval x = .slice (some ad) m c2) (hq:qs.length=m) (hk:∀ q∈qs,Bg.At w (fun b=>P b∧(Value.slice A n c).ownBlock≠some b) q) (hnews:∀ j u,(fl2 qs)[j]?=some u→w.cell? (ad.add j)=some u)
  (hm:n+m≤maxRg) (hb:B≤w.heap.size)
  (hh:∀ A' c' w',BRow w' B P A' (n+m) c' (ps ++ qs)→Below B w w'→w.grownBy w' (Value.slice A n c).ownBlock→K (a.put o.dst (.slice A' (n+m) c')) w') :
  Oper.wp Tryz.prog o a w K Q:=by
 obtain ⟨i0,hi,hz0,hz1,hz2⟩:=info_parts infoB
 have hml:n+m≤maxLen:=by unfold maxLen;unfold maxRg at hm;omega
 have hmb:(n+m) * 32≤140737488355328:=by unfold maxRg at hm;omega
 obtain ⟨v',w',hr,h2,h3,h4,h5⟩:=run_append_own_at (P:=Tryz.prog) w B 85 o.type 79 i0 (.agg #[.bool false,.slice none 0 0]) 2 32 Tryz.underlying85 hi hz0 hz1 hz2 rfl (by decide) (.slice A n c) n (fl2 ps) h.own ad m c2 (fl2 qs) (by rw [fl2_length,hq]) hnews (fl2_one qs) hml hmb hb
 obtain ⟨A',c',rfl,hr2,hbw⟩:=run_append_B h hP hq hk hnews hm hb h2 h3 h5
 unfold Oper.wp execOp
 simp only [ho,resolve,invoke,builtin,Sem.run_bind,Sem.run_pure,Result.andThen_ok,List.map_toArray,List.map_cons,List.map_nil,hs,hx,hr]
 exact hh _ _ _ hr2 hbw h3
section
variable {w w':World} {B g:Nat} {P:Nat→Prop} {n c:Nat} {ps:List Bg}
theorem BRow.frozen (h:BRow w B P (some ⟨g,0,none⟩) n c ps) (j:Nat):w.frozen? ⟨g,j,none⟩=false:=by
 rcases h.own.2 with ⟨h1,_⟩ | ⟨g',cap,cur,h1,h2,h3,_⟩
 ·cases h1
 ·injection h1 with a b c
  injection a with a
  injection a with a
  subst a
  simp [World.frozen?,h3]
theorem BRow.ne (h:BRow w B P (some ⟨g,0,none⟩) n c ps) {p:Bg} (hp:Bg.At w (fun b=>P b∧(Value.slice (some ⟨g,0,none⟩) n c).ownBlock≠some b) p) (hg:w.grownBy w' (some g)) (hP:∀ b,P b→b<w.heap.size):Bg.At w' (fun b=>P b∧(Value.slice (some ⟨g,0,none⟩) n c).ownBlock≠some b) p:=
 hp.keep fun b hb=>⟨hb,hg.block b (hP b hb.1) (fun e=>hb.2 e.symm)⟩
theorem fl2_set {ps:List Bg} {i:Nat} {p:Bg} (q:Bg) (hi:ps[i]?=some p) :
  fl2 (ps.set i q)=((fl2 ps).set (i * 2) (.bool (decide (q.z<0)))).set (i * 2+1) (.slice q.A q.n q.c):=by
 have hil:i<ps.length:=(List.getElem?_eq_some_iff.1 hi).1
 have hlen:(fl2 ps).length=ps.length * 2:=fl2_length ps
 apply List.ext_getElem?
 intro t
 by_cases ht:t<ps.length * 2
 ·have hm:t % 2<2:=Nat.mod_lt _ (by omega)
  have hq:t / 2<ps.length:=by omega
  have e:t / 2 * 2+t % 2=t:=by omega
  by_cases h:t / 2=i
  ·have h1:=fl2_get (ps:=ps.set i q) (i:=i) (j:=t % 2) (p:=q) (by simp [hil]) hm
   rw [←h,e] at h1
   rw [h] at h1
   rw [h1]
   have h6:t=i * 2∨t=i * 2+1:=by omega
   rcases h6 with rfl | rfl
   all_goals
    simp only [List.getElem?_set,List.length_set,hlen]
    simp [cells2,Nat.mul_add_mod,hil]
    try omega
  ·have h1:=fl2_get (ps:=ps.set i q) (i:=t / 2) (j:=t % 2) (p:=ps[t / 2]) (by rw [List.getElem?_set_ne (Ne.symm h)];simp [hq]) hm
   have h2:=fl2_get (ps:=ps) (i:=t / 2) (j:=t % 2) (p:=ps[t / 2]) (by simp [hq]) hm
   rw [e] at h1 h2
   rw [h1,←h2]
   have n0:i * 2≠t:=by omega
   have n1:i * 2+1≠t:=by omega
   rw [List.getElem?_set_ne n1,List.getElem?_set_ne n0]
 ·rw [List.getElem?_eq_none (by rw [fl2_length,List.length_set];omega),List.getElem?_eq_none (by simp only [List.length_set];omega)]
theorem BRow.put2 (h:BRow w B P (some ⟨g,0,none⟩) n c ps) (hP:∀ b,P b→b<w.heap.size) {i:Nat} {p:Bg} (hi:ps[i]?=some p) {q:Bg} (hq:Bg.At w (fun b=>P b∧(Value.slice (some ⟨g,0,none⟩) n c).ownBlock≠some b) q) :
  BRow ((w.setCell ⟨g,i * 2,none⟩ (.bool (decide (q.z<0)))).setCell ⟨g,i * 2+1,none⟩ (.slice q.A q.n q.c)) B P (some ⟨g,0,none⟩) n c (ps.set i q) ∧
  w.grownBy ((w.setCell ⟨g,i * 2,none⟩ (.bool (decide (q.z<0)))).setCell ⟨g,i * 2+1,none⟩ (.slice q.A q.n q.c)) (some g):=by
 have hgr:=gb_setCell (gb_setCell (g:=g) (gb_refl w _) (i * 2) (.bool (decide (q.z<0)))) (i * 2+1) (.slice q.A q.n q.c)
 refine ⟨⟨?_,fun p' hp'=>?_⟩,hgr⟩
 ·rw [fl2_set q hi]
  exact own_set (own_set h.own _ _) _ _
 ·refine BRow.ne h ?_ hgr hP
  rcases List.mem_or_eq_of_mem_set hp' with h1 | h1
  ·exact h.kid p' h1
  ·rw [h1];exact hq
end
theorem BRow.cells_at {w:World} {B g n c:Nat} {P:Nat→Prop} {ps:List Bg} (h:BRow w B P (some ⟨g,0,none⟩) n c ps) {k:Nat} {p:Bg} (hk:ps[k]?=some p) :
  w.cell? ⟨g,k * 2,none⟩=some (.bool (decide (p.z<0)))∧w.cell? ⟨g,k * 2+1,none⟩=some (.slice p.A p.n p.c):=by
 have key:∀ j u,j<2→(cells2 p)[j]?=some u→w.cell? ⟨g,k * 2+j,none⟩=some u:=fun j u hj hu=>by
  have:=World.ownsRow.cells h.own (g:=g) rfl (k * 2+j) u ((fl2_get hk hj).trans hu)
  rwa [add_zero'] at this
 exact ⟨key 0 _ (by omega) rfl,key 1 _ (by omega) rfl⟩
theorem BRow.some_ {w:World} {B n c:Nat} {P:Nat→Prop} {A:Option Addr} {ps:List Bg} (h:BRow w B P A n c ps) (hn:0<n):∃ g,A=some ⟨g,0,none⟩∧B≤g∧g<w.heap.size∧(Value.slice A n c).ownBlock=some g:=by
 rcases h.block with ⟨_,h1⟩ | h1
 ·omega
 ·exact h1
theorem wpList_app1PB {ops:Array Oper} {rest:List Oper} {o:Oper} {a:Act} {Q:Exit→Act→World→Prop} {w3:World} {P:Nat→Prop} {B n c:Nat} {A:Option Addr} {ps:List Bg} {q:Bg}
  (hgd:o.guard=none) (s x:Operand) (ho:o.op = .call { callee:=.builtin .append,args:=#[s,x],argTypes:=#[85,85] })
  (hs:a.eval s = .slice A n c) (hx:a.eval x = .slice (some ⟨w3.heap.size,0,none⟩) 1 1)
  (hrow:BRow w3 B (Or P B w3) A n c ps) (hB:B≤w3.heap.size) (hP:∀ b,P b→b<B) (hf:Bg.At w3 (fun b=>Or P B w3 b∧(Value.slice A n c).ownBlock≠some b) q) (hm:n+1≤maxRg)
  (hh:∀ A' c' w',BRow w' B (Or P B w') A' (n+1) c' (ps ++ [q])→Below B w3 w'→w3.heap.size≤w'.heap.size→(∀ b,b<w3.heap.size→(Value.slice A n c).ownBlock≠some b→w'.heap[b]?=w3.heap[b]?)→wpList Tryz.prog ops Q rest (a.put o.dst (.slice A' (n+1) c')) w') :
  wpList Tryz.prog ops Q (o :: rest) a (w3.alloc (.cells (cells2 q).toArray 79)):=by
 have hb6:Below w3.heap.size w3 (w3.alloc (.cells (cells2 q).toArray 79)):=Qb
 have hlt:∀ b,Or P B w3 b→b<w3.heap.size:=fun b hb=>hb.elim (fun k=>by have:=hP b k;omega) (·.2)
 have hrow6:=(hrow.keep hb6 hlt).wide (Q:=Or P B (w3.alloc (.cells (cells2 q).toArray 79))) (fun b hb=>hb.imp id (fun k=>⟨k.1,Ql k.2 hb6.size⟩))
 have hnews:=heap_alloc_new w3 (.cells (cells2 q).toArray 79)
 have hnw:∀ j u,(fl2 [q])[j]?=some u→(w3.alloc (.cells (cells2 q).toArray 79)).cell? ((⟨w3.heap.size,0,none⟩:Addr).add j)=some u:=fun j u hj=>by
  rw [add_zero',cell_of_row _ w3.heap.size j _ _ (0,0) hnews,←hj]
  simp [fl2]
 have hkid:Bg.At (w3.alloc (.cells (cells2 q).toArray 79)) (fun b'=>Or P B (w3.alloc (.cells (cells2 q).toArray 79)) b'∧(Value.slice A n c).ownBlock≠some b') q:=hf.keep (fun b' hb=>⟨⟨hb.1.imp id (fun k=>⟨k.1,Ql k.2 hb6.size⟩),hb.2⟩,hb6.block b' (hlt b' hb.1)⟩)
 have hlt6:∀ b,Or P B (w3.alloc (.cells (cells2 q).toArray 79)) b→b<(w3.alloc (.cells (cells2 q).toArray 79)).heap.size:=fun b hb=>hb.elim (fun k=>by have:=hP b k;have:=hb6.size;omega) (·.2)
 have hz6:=hb6.size
 generalize w3.alloc (.cells (cells2 q).toArray 79)=w6 at *
 refine wpList_append_B hgd s x ho [q] hs hrow6 hlt6 ⟨w3.heap.size,0,none⟩ 1 1 hx rfl (fun y hy=>by rw [List.mem_singleton.1 hy];exact hkid) hnw hm (by omega) ?_
 intro A' c' w' hr hb hg
 exact hh A' c' w' (hr.wide (fun b hb2=>hb2.imp id (fun k=>⟨k.1,Ql k.2 hg.size⟩))) ((hb6.mono hB).trans hb) (Nat.le_trans hz6 hg.size) (fun b k1 k2=>(hg.block b (by omega) (fun e=>k2 e.symm)).trans (hb6.block b k1))
theorem step_app1PB {o:Oper} {a:Act} {K:Act→World→Prop} {Q:Exit→Act→World→Prop} {w3:World} {P:Nat→Prop} {B n c:Nat} {A:Option Addr} {ps:List Bg} {q:Bg}
  (hgd:o.guard=none) (s x:Operand) (ho:o.op = .call { callee:=.builtin .append,args:=#[s,x],argTypes:=#[85,85] })
  (hs:a.eval s = .slice A n c) (hx:a.eval x = .slice (some ⟨w3.heap.size,0,none⟩) 1 1)
  (hrow:BRow w3 B (Or P B w3) A n c ps) (hB:B≤w3.heap.size) (hP:∀ b,P b→b<B) (hf:Bg.At w3 (fun b=>Or P B w3 b∧(Value.slice A n c).ownBlock≠some b) q) (hm:n+1≤maxRg)
  (hh:∀ A' c' w',BRow w' B (Or P B w') A' (n+1) c' (ps ++ [q])→Below B w3 w'→w3.heap.size≤w'.heap.size→(∀ b,b<w3.heap.size→(Value.slice A n c).ownBlock≠some b→w'.heap[b]?=w3.heap[b]?)→K (a.put o.dst (.slice A' (n+1) c')) w') :
  Oper.wp Tryz.prog o a (w3.alloc (.cells (cells2 q).toArray 79)) K Q:=by
 have hb6:Below w3.heap.size w3 (w3.alloc (.cells (cells2 q).toArray 79)):=Qb
 have hlt:∀ b,Or P B w3 b→b<w3.heap.size:=fun b hb=>hb.elim (fun k=>by have:=hP b k;omega) (·.2)
 have hrow6:=(hrow.keep hb6 hlt).wide (Q:=Or P B (w3.alloc (.cells (cells2 q).toArray 79))) (fun b hb=>hb.imp id (fun k=>⟨k.1,Ql k.2 hb6.size⟩))
 have hnews:=heap_alloc_new w3 (.cells (cells2 q).toArray 79)
 have hnw:∀ j u,(fl2 [q])[j]?=some u→(w3.alloc (.cells (cells2 q).toArray 79)).cell? ((⟨w3.heap.size,0,none⟩:Addr).add j)=some u:=fun j u hj=>by
  rw [add_zero',cell_of_row _ w3.heap.size j _ _ (0,0) hnews,←hj]
  simp [fl2]
 have hkid:Bg.At (w3.alloc (.cells (cells2 q).toArray 79)) (fun b'=>Or P B (w3.alloc (.cells (cells2 q).toArray 79)) b'∧(Value.slice A n c).ownBlock≠some b') q:=hf.keep (fun b' hb=>⟨⟨hb.1.imp id (fun k=>⟨k.1,Ql k.2 hb6.size⟩),hb.2⟩,hb6.block b' (hlt b' hb.1)⟩)
 have hlt6:∀ b,Or P B (w3.alloc (.cells (cells2 q).toArray 79)) b→b<(w3.alloc (.cells (cells2 q).toArray 79)).heap.size:=fun b hb=>hb.elim (fun k=>by have:=hP b k;have:=hb6.size;omega) (·.2)
 have hz6:=hb6.size
 generalize w3.alloc (.cells (cells2 q).toArray 79)=w6 at *
 refine step_append_B hgd s x ho [q] hs hrow6 hlt6 ⟨w3.heap.size,0,none⟩ 1 1 hx rfl (fun y hy=>by rw [List.mem_singleton.1 hy];exact hkid) hnw hm (by omega) ?_
 intro A' c' w' hr hb hg
 exact hh A' c' w' (hr.wide (fun b hb2=>hb2.imp id (fun k=>⟨k.1,Ql k.2 hg.size⟩))) ((hb6.mono hB).trans hb) (Nat.le_trans hz6 hg.size) (fun b k1 k2=>(hg.block b (by omega) (fun e=>k2 e.symm)).trans (hb6.block b k1))
theorem wpList_app1PS {ops:Array Oper} {rest:List Oper} {o:Oper} {a:Act} {Q:Exit→Act→World→Prop} {w3:World} {P:Nat→Prop} {B n c:Nat} {A:Option Addr} {ps:List Rg} {q:Rg}
  (hgd:o.guard=none) (s x:Operand) (ho:o.op = .call { callee:=.builtin .append,args:=#[s,x],argTypes:=#[29,29] })
  (hs:a.eval s = .slice A n c) (hx:a.eval x = .slice (some ⟨w3.heap.size,0,none⟩) 1 1)
  (hrow:SRow w3 B (Or P B w3) A n c ps) (hB:B≤w3.heap.size) (hP:∀ b,P b→b<B) (hf:Sg w3 (fun b=>Or P B w3 b∧(Value.slice A n c).ownBlock≠some b) q) (hm:n+1≤maxRg)
  (hh:∀ A' c' w',SRow w' B (Or P B w') A' (n+1) c' (ps ++ [q])→Below B w3 w'→w3.heap.size≤w'.heap.size→(∀ b,b<w3.heap.size→(Value.slice A n c).ownBlock≠some b→w'.heap[b]?=w3.heap[b]?)→wpList Tryz.prog ops Q rest (a.put o.dst (.slice A' (n+1) c')) w') :
  wpList Tryz.prog ops Q (o :: rest) a (w3.alloc (.cells (cells6 q).toArray 84)):=by
 have hb6:Below w3.heap.size w3 (w3.alloc (.cells (cells6 q).toArray 84)):=Qb
 have hlt:∀ b,Or P B w3 b→b<w3.heap.size:=fun b hb=>hb.elim (fun k=>by have:=hP b k;omega) (·.2)
 have hrow6:=(hrow.keep hb6 hlt).wide (Q:=Or P B (w3.alloc (.cells (cells6 q).toArray 84))) (fun b hb=>hb.imp id (fun k=>⟨k.1,Ql k.2 hb6.size⟩))
 have hnews:=heap_alloc_new w3 (.cells (cells6 q).toArray 84)
 have hnw:∀ j u,(fl6 [q])[j]?=some u→(w3.alloc (.cells (cells6 q).toArray 84)).cell? ((⟨w3.heap.size,0,none⟩:Addr).add j)=some u:=fun j u hj=>by
  rw [add_zero',cell_of_row _ w3.heap.size j _ _ (0,0) hnews,←hj]
  simp [fl6]
 have hkid:Sg (w3.alloc (.cells (cells6 q).toArray 84)) (fun b'=>Or P B (w3.alloc (.cells (cells6 q).toArray 84)) b'∧(Value.slice A n c).ownBlock≠some b') q:=hf.keep (fun b' hb=>⟨⟨hb.1.imp id (fun k=>⟨k.1,Ql k.2 hb6.size⟩),hb.2⟩,hb6.block b' (hlt b' hb.1)⟩)
 have hlt6:∀ b,Or P B (w3.alloc (.cells (cells6 q).toArray 84)) b→b<(w3.alloc (.cells (cells6 q).toArray 84)).heap.size:=fun b hb=>hb.elim (fun k=>by have:=hP b k;have:=hb6.size;omega) (·.2)
 have hz6:=hb6.size
 generalize w3.alloc (.cells (cells6 q).toArray 84)=w6 at *
 refine wpList_append_S hgd s x ho [q] hs hrow6 hlt6 ⟨w3.heap.size,0,none⟩ 1 1 hx rfl (fun y hy=>by rw [List.mem_singleton.1 hy];exact hkid) hnw hm (by omega) ?_
 intro A' c' w' hr hb hg
 exact hh A' c' w' (hr.wide (fun b hb2=>hb2.imp id (fun k=>⟨k.1,Ql k.2 hg.size⟩))) ((hb6.mono hB).trans hb) (Nat.le_trans hz6 hg.size) (fun b k1 k2=>(hg.block b (by omega) (fun e=>k2 e.symm)).trans (hb6.block b k1))
theorem step_app1PS {o:Oper} {a:Act} {K:Act→World→Prop} {Q:Exit→Act→World→Prop} {w3:World} {P:Nat→Prop} {B n c:Nat} {A:Option Addr} {ps:List Rg} {q:Rg}
  (hgd:o.guard=none) (s x:Operand) (ho:o.op = .call { callee:=.builtin .append,args:=#[s,x],argTypes:=#[29,29] })
  (hs:a.eval s = .slice A n c) (hx:a.eval x = .slice (some ⟨w3.heap.size,0,none⟩) 1 1)
  (hrow:SRow w3 B (Or P B w3) A n c ps) (hB:B≤w3.heap.size) (hP:∀ b,P b→b<B) (hf:Sg w3 (fun b=>Or P B w3 b∧(Value.slice A n c).ownBlock≠some b) q) (hm:n+1≤maxRg)
  (hh:∀ A' c' w',SRow w' B (Or P B w') A' (n+1) c' (ps ++ [q])→Below B w3 w'→w3.heap.size≤w'.heap.size→(∀ b,b<w3.heap.size→(Value.slice A n c).ownBlock≠some b→w'.heap[b]?=w3.heap[b]?)→K (a.put o.dst (.slice A' (n+1) c')) w') :
  Oper.wp Tryz.prog o a (w3.alloc (.cells (cells6 q).toArray 84)) K Q:=by
 have hb6:Below w3.heap.size w3 (w3.alloc (.cells (cells6 q).toArray 84)):=Qb
 have hlt:∀ b,Or P B w3 b→b<w3.heap.size:=fun b hb=>hb.elim (fun k=>by have:=hP b k;omega) (·.2)
 have hrow6:=(hrow.keep hb6 hlt).wide (Q:=Or P B (w3.alloc (.cells (cells6 q).toArray 84))) (fun b hb=>hb.imp id (fun k=>⟨k.1,Ql k.2 hb6.size⟩))
 have hnews:=heap_alloc_new w3 (.cells (cells6 q).toArray 84)
 have hnw:∀ j u,(fl6 [q])[j]?=some u→(w3.alloc (.cells (cells6 q).toArray 84)).cell? ((⟨w3.heap.size,0,none⟩:Addr).add j)=some u:=fun j u hj=>by
  rw [add_zero',cell_of_row _ w3.heap.size j _ _ (0,0) hnews,←hj]
  simp [fl6]
 have hkid:Sg (w3.alloc (.cells (cells6 q).toArray 84)) (fun b'=>Or P B (w3.alloc (.cells (cells6 q).toArray 84)) b'∧(Value.slice A n c).ownBlock≠some b') q:=hf.keep (fun b' hb=>⟨⟨hb.1.imp id (fun k=>⟨k.1,Ql k.2 hb6.size⟩),hb.2⟩,hb6.block b' (hlt b' hb.1)⟩)
 have hlt6:∀ b,Or P B (w3.alloc (.cells (cells6 q).toArray 84)) b→b<(w3.alloc (.cells (cells6 q).toArray 84)).heap.size:=fun b hb=>hb.elim (fun k=>by have:=hP b k;have:=hb6.size;omega) (·.2)
 have hz6:=hb6.size
 generalize w3.alloc (.cells (cells6 q).toArray 84)=w6 at *
 refine step_append_S hgd s x ho [q] hs hrow6 hlt6 ⟨w3.heap.size,0,none⟩ 1 1 hx rfl (fun y hy=>by rw [List.mem_singleton.1 hy];exact hkid) hnw hm (by omega) ?_
 intro A' c' w' hr hb hg
 exact hh A' c' w' (hr.wide (fun b hb2=>hb2.imp id (fun k=>⟨k.1,Ql k.2 hg.size⟩))) ((hb6.mono hB).trans hb) (Nat.le_trans hz6 hg.size) (fun b k1 k2=>(hg.block b (by omega) (fun e=>k2 e.symm)).trans (hb6.block b k1))
theorem BRow.up {w w':World} {B n c:Nat} {P:Nat→Prop} {A:Option Addr} {ps:List Bg} (h:BRow w B (Or P B w) A n c ps) (hB:B≤w.heap.size) (hP:∀ b,P b→b<B) (hb:Below w.heap.size w w'):BRow w' B (Or P B w') A n c ps:=
 (h.keep hb (fun b hb=>hb.elim (fun k=>by have:=hP b k;omega) (·.2))).wide (fun b hb2=>hb2.imp id (fun k=>⟨k.1,Ql k.2 hb.size⟩))
theorem SRow.up {w w':World} {B n c:Nat} {P:Nat→Prop} {A:Option Addr} {ps:List Rg} (h:SRow w B (Or P B w) A n c ps) (hB:B≤w.heap.size) (hP:∀ b,P b→b<B) (hb:Below w.heap.size w w'):SRow w' B (Or P B w') A n c ps:=
 (h.keep hb (fun b hb=>hb.elim (fun k=>by have:=hP b k;omega) (·.2))).wide (fun b hb2=>hb2.imp id (fun k=>⟨k.1,Ql k.2 hb.size⟩))
theorem BRow.ne_old {w:World} {B n c x:Nat} {P:Nat→Prop} {A:Option Addr} {ps:List Bg} (h:BRow w B P A n c ps) (hx:x<B∨w.heap.size≤x):(Value.slice A n c).ownBlock≠some x:=by
 rcases h.block with ⟨h1,_⟩ | ⟨g1,h1,h2,h3,h4⟩
 ·subst h1;simp [Value.ownBlock]
 ·rw [h4];intro e;injection e with e;omega
theorem SRow.ne_old {w:World} {B n c x:Nat} {P:Nat→Prop} {A:Option Addr} {ps:List Rg} (h:SRow w B P A n c ps) (hx:x<B∨w.heap.size≤x):(Value.slice A n c).ownBlock≠some x:=by
 rcases h.block with ⟨h1,_⟩ | ⟨g1,h1,h2,h3,h4⟩
 ·subst h1;simp [Value.ownBlock]
 ·rw [h4];intro e;injection e with e;omega
end
end Go.Proofs.YtpikjceodmepiaaGreatDoor
