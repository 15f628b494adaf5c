/- FddomTerms of layer 9: true for every input of a bulk of at most 1048576; it leaves its arguments as they were. -/
import Derived.Deep.Slices
import Derived.SizedLaws
import Derived.Deep.DeepHandedRow
import Derived.Shelf.Small.Bits
import Derived.Test.YtpikjceodmepiaaGreatDoorRows
import Derived.WalkKit
import Derived.Deep.QuietTactic
import Derived.BigQuiet
import Derived.Deep.RegionHeld3
import Derived.Deep.DrawnRows
import Derived.Deep.DeepCutAuto
import Derived.Deep.CutBlock
import Derived.Laws.BytesArg
import Derived.Laws.AppendOwnNone
import Derived.ProofKit
import Derived.OpenShut
import Derived.JoinedCond
import Derived.JoinedOf
import Derived.JoinedAt
import Derived.ChangeSame
import Derived.ChangeSlices
import Derived.RowKit3
import Derived.Carry
import Derived.Lib.SmallJoins
import Derived.Deep.LoopGhost
import Derived.Maps.AppendAt
import Derived.IntWalk
import Derived.StillTailTactics
import Derived.Lib.Hide
import Derived.Deep.AppendLies
import Derived.Deep.OwnRows
import Derived.Laws.Cover2
import Derived.Laws.FloatArith
import Derived.Lib.ValidU
import Derived.Shelf.Unicode.ValidAny
import Derived.Lib.LaidU8T
import Derived.Deep.Strs
import Derived.Deep.DeepWitnessRowRef
import Derived.Lib.LaidTab
import Derived.Lay
import Derived.ChangeMaps5
import Derived.Test.YtpikjceodmepiaaGreatDoorCards
import Derived.Test.YtpikjceodmepiaaGreatDoorTie
import Derived.Test.YtpikjceodmepiaaGreatDoorV1
import Derived.Test.YtpikjceodmepiaaGreatDoorV2
import Derived.Test.YtpikjceodmepiaaGreatDoorV3
import Derived.Test.YtpikjceodmepiaaGreatDoorV4
import Derived.Test.YtpikjceodmepiaaGreatDoorV6
import Derived.Test.YtpikjceodmepiaaGreatDoorV7
import Derived.Test.YtpikjceodmepiaaGreatDoorV8
import Derived.Test.YtpikjceodmepiaaGreatDoorV10
import Derived.Test.YtpikjceodmepiaaGreatDoorV11
import Derived.Test.YtpikjceodmepiaaGreatDoorV12
import Derived.Test.YtpikjceodmepiaaGreatDoorV13
import Derived.Test.YtpikjceodmepiaaGreatDoorV14
import Derived.Test.YtpikjceodmepiaaGreatDoorV15
import Derived.Test.YtpikjceodmepiaaGreatDoorV16
import Derived.Test.YtpikjceodmepiaaGreatDoorV0
set_option exponentiation.threshold 5000
set_option maxRecDepth 1000000
set_option maxHeartbeats 64000000
set_option linter.unusedVariables false
set_option linter.unusedSimpArgs false
namespace Go.Proofs.YtpikjceodmepiaaGreatDoor
section
open Go.RowKit Hb Hf Ht
theorem bn2_of {w:World} {P:Nat→Prop} {K:Nat} {ps:List Rg} (hk:∀ p∈ps,Rg.At w P p) (hs:∀ p∈ps,p.1.n≤K∧p.2.n≤K):Bn2 (32 * K) (ps.map edsR):=by
 have key:∀ d:Bd,d.At w P→d.n≤K→sz2 d.ed≤32 * K:=fun d hd hn=>by
  unfold Bd.ed
  split
  ·exact Nat.zero_le _
  ·split
   ·exact Nat.zero_le _
   ·exact Nat.le_trans (digs2_len (neg:=d.g) hd.lim.dig hd.lim.len) (Nat.mul_le_mul_left _ hn)
 intro r hr
 obtain ⟨p,hp,rfl⟩:=List.mem_map.1 hr
 exact ⟨key _ (hk p hp).a (hs p hp).1,key _ (hk p hp).b (hs p hp).2⟩
theorem bn2_mono {M M':Nat} {L:List R} (h:Bn2 M L) (hM:M≤M'):Bn2 M' L:=fun r hr=>⟨Nat.le_trans (h r hr).1 hM,Nat.le_trans (h r hr).2 hM⟩
def IsPost (w:World) (B:Nat) (e:Ending) (w':World):Prop:=e = .returned (.bool true)∧Below B w w'
theorem is_any {w u:World} {P:Nat→Prop} {B xn xc:Nat} {X:Option Addr} {xs ps:List Rg} {e:Ending} {k:Int} (hx:RefI u P X xn xc xs) (hP:∀ b,P b→b<u.heap.size) (hL:xs.map edsS=ps.map edsR)
  (hN:NormTB B w ps e u) (hk1:(ps.map edsR).any lngS=true→k=10) (hk2:∀ N,NF N→(∀ z,Hf.mem z N↔Hf.mem z (ps.map edsR))→k=tkC (ps.map edsR) N) (hB:B≤w.heap.size) :
  ∃ (A:Option Addr) (n c:Nat),e = .returned (.tuple #[.slice A n c,.int .i64 k])∧∀ u',Below u.heap.size u u'→Calls Tryz.prog 16 #[.slice A n c,.int .i64 k,.slice X xn xc,.int .i64 k] u' (IsPost u' B):=by
 obtain ⟨hb,hc⟩:=hN
 have hlg:longP ps=(ps.map edsR).any lngS:=by rw [longP_E,longE_lng]
 have hBu:B≤u.heap.size:=Nat.le_trans hB hb.size
 rcases hc with ⟨he,h1⟩ | ⟨he,h0,M,h1,h2,h3⟩ | ⟨A,n,c,qs,he,h0,hrow,hgd,hnf,hm,hn⟩
 ·rw [hlg] at h1
  rw [hk1 h1]
  exact ⟨none,0,0,he,fun u' hu=>(is_bad 10 (by omega) (by omega) (by omega) X xn xc).mono fun e w' ⟨h4,h5⟩=>⟨h4,h5.mono (Nat.le_trans hBu hu.size)⟩⟩
 ·rw [hlg] at h0
  have hk:k=90:=by
   rw [hk2 M h1 h2]
   unfold tkC
   rw [if_neg (by rw [h0];exact Bool.false_ne_true),if_pos h3]
  rw [hk]
  exact ⟨none,0,0,he,fun u' hu=>(is_bad 90 (by omega) (by omega) (by omega) X xn xc).mono fun e w' ⟨h4,h5⟩=>⟨h4,h5.mono (Nat.le_trans hBu hu.size)⟩⟩
 ·rw [hlg] at h0
  have hk:k=0:=by
   rw [hk2 _ hnf hm]
   unfold tkC
   rw [if_neg (by rw [h0];exact Bool.false_ne_true),if_neg (by rw [List.length_map,hrow.len];omega)]
  rw [hk]
  refine ⟨A,n,c,he,fun u' hu=>?_⟩
  exact is_ok (hrow.ft hu) (Nat.le_trans hBu hu.size) hgd hnf (hx.keep (Q:=fun b=>b<u'.heap.size) (fun b hb2=>⟨Ql (hP b hb2) hu.size,hu.block b (hP b hb2)⟩)) (fun b h=>h) (fun z=>by rw [hL];exact hm z) (by rw [hL];exact h0) hn
theorem RefI.lift {u u':World} {n c:Nat} {A:Option Addr} {xs:List Rg} (h:RefI u (fun b=>b<u.heap.size) A n c xs) (hb:Below u.heap.size u u'):RefI u' (fun b=>b<u'.heap.size) A n c xs:=
 h.keep (fun b h=>⟨Ql h hb.size,hb.block b h⟩)
theorem NormTB.up {w w' w'':World} {B:Nat} {ps:List Rg} {e:Ending} (h:NormTB B w ps e w') (hb:Below w'.heap.size w' w'') (hB:B≤w.heap.size):NormTB B w ps e w'':=by
 obtain ⟨h1,h2⟩:=h
 have hs:B≤w'.heap.size:=Nat.le_trans hB h1.size
 refine ⟨h1.trans (hb.mono hs),?_⟩
 rcases h2 with h2 | h2 | ⟨A1,n1,c1,qs,he,hl,hr,hx⟩
 ·exact .inl h2
 ·exact .inr (.inl h2)
 ·exact .inr (.inr ⟨A1,n1,c1,qs,he,hl,hr.ft hb,hx⟩)
theorem sz2_of {e:Ed} (h:szE e≤128):sz2 e≤4096:=by
 cases e with
 | lo=>exact Nat.zero_le _
 | hi=>exact Nat.zero_le _
 | num z=>
  have h0:(digs W z.natAbs).length≤128:=h
  have h1:=digs2_len (l:=digs W z.natAbs) (neg:=decide (z<0)) (dig_digs (by decide) _) rfl
  rw [ival_digs] at h1
  show (digs 2 z.natAbs).length≤4096
  omega
theorem bn2_bnd {L:List R} (h:Bnd 128 L):Bn2 4096 L:=fun r hr=>⟨sz2_of (h r hr).1,sz2_of (h r hr).2⟩
theorem one_bd (t:Tm):0≤Ht.one Lib.validD canonB floB t∧Ht.one Lib.validD canonB floB t≤23:=by
 unfold Ht.one
 split
 ·omega
 ·split
  ·omega
  ·split
   ·omega
   ·split <;> omega
theorem errss_bd:∀ (ts:List Tm),(∀ a∈ts,0≤errs Lib.validD canonB floB a∧errs Lib.validD canonB floB a≤23)→0≤errss Lib.validD canonB floB ts∧errss Lib.validD canonB floB ts≤23
 | [],_=>by rw [errss];omega
 | a :: ts,h=>by
  rw [errss]
  split
  ·exact h a (by simp)
  ·exact errss_bd ts (fun b hb=>h b (by simp [hb]))
theorem errs_bd (t:Tm):0≤errs Lib.validD canonB floB t∧errs Lib.validD canonB floB t≤23:=by
 refine Tm.ind (p:=fun t=>0≤errs Lib.validD canonB floB t∧errs Lib.validD canonB floB t≤23) (fun k n m b v ts ih=>?_) t
 rw [errs]
 split
 ·exact one_bd _
 ·exact errss_bd ts ih
theorem check_bd (t:Tm):0≤checkP t∧checkP t≤24:=by
 show 0≤check Lib.validD canonB floB t∧check Lib.validD canonB floB t≤24
 unfold check
 split
 ·omega
 ·have:=errs_bd t
  omega
theorem tk_code {L N:List R} {k:Int} (hk1:L.any lngS=true→k=10) (hk2:∀ N,NF N→(∀ z,Hf.mem z N↔Hf.mem z L)→k=tkC L N):(L.any lngS=true→k=10)∧(L.any lngS=false→NF N→(∀ z,Hf.mem z N↔Hf.mem z L)→(1000<N.length→k=90)∧(N.length≤1000→k=0)):=by
 refine ⟨hk1,fun h0 hN hm=>⟨fun hl=>?_,fun hl=>?_⟩⟩
 ·rw [hk2 N hN hm]
  unfold tkC
  rw [if_neg (by rw [h0];exact Bool.false_ne_true),if_pos hl]
 ·rw [hk2 N hN hm]
  unfold tkC
  rw [if_neg (by rw [h0];exact Bool.false_ne_true),if_neg (by omega)]
theorem refI_rd {u:World} {B n c:Nat} {A:Option Addr} {xs:List Rg} {L:List R} (h:SRow u B (fun b=>b<u.heap.size) A n c xs) (hx:xs.map edsS=L) (hb:Bnd 128 L) (hn:n≤1000000):RefI u (fun b=>b<u.heap.size) A n c xs:=
 ⟨h.set (fun b _ h=>h),by rw [hx];exact bn2_mono (bn2_bnd hb) (by omega),by omega⟩
theorem refI_of {u:World} {B n c:Nat} {A:Option Addr} {xs ps:List Rg} (h:SRow u B (Fr B u) A n c xs) (hx:xs.map edsS=ps.map edsR) (hb:Bn2 33554432 (ps.map edsR)) (hn:n≤1048576):RefI u (fun b=>b<u.heap.size) A n c xs:=
 ⟨(h.wide (Q:=fun b=>b<u.heap.size) (fun b hb=>hb.2)).set (fun b _ h=>h),by rw [hx];exact bn2_mono hb (by omega),by omega⟩
section
variable {P:Program} {md:Region.Mode} {ops:Array Oper} {Q:Exit→Act→World→Prop} {S:World→Prop} {st:Nat}
theorem qh (i:Nat) {oi:Oper} {v:Value} {fuel:Nat} {listed:Array Bool} {a:Act} {w:World} (hS:S w) (h:wpAnyH P md ops Q S fuel (listed.setIfInBounds i true) (a.put oi.dst v) w) (hi:ops[i]?=some oi:=by rfl) (hB:takeH md ops listed i=true:=by kernel_rfl) (hQ:∀ c a w,Q (.panic c) (a.put oi.dst v) w→Q (.panic c) a w:=by exact fun _ _ _ h=>h) (hg:Region.wanted oi (yielded ops a.tmps)=true:=by kernel_rfl)
  (y:∀ z,S z→(execOp a.eval oi).run P z = .ok (.value v) z:=by (intro _ _;go_simp;rfl)):wpAnyH P md ops Q S (fuel+1) listed a w:=tkH i hS hi hB hQ hg y h
theorem oq (i:Nat) {o:Oper} {fuel:Nat} {listed:Array Bool} {a:Act} {w:World}
  (h:∀ K':Act→World→Prop,Shut (∀ a w,S w→wpAnyH P md ops Q S fuel (listed.setIfInBounds i true) a w→K' a w)→Oper.wp P o a w K' Q) (hr:Region.ready md ops listed = [i]:=by kernel_rfl) (ho:ops[i]?=some o:=by rfl) (hw:Region.wanted o (yielded ops a.tmps)=true:=by kernel_rfl):wpAnyH P md ops Q S (fuel+1) listed a w:=wpAnyH_one hr ho hw h
theorem qz (i:Nat) {oi:Oper} {v:Value} {fuel:Nat} {listed:Array Bool} {a:Act} {w:World} (hS:S w) (h:wpAnyW P md ops Q S st fuel (listed.setIfInBounds i true) (a.put oi.dst v) w) (hi:ops[i]?=some oi:=by rfl) (hB:takeB md ops st [] listed i=true:=by kernel_rfl) (hQ:∀ c a w,Q (.panic c) (a.put oi.dst v) w→Q (.panic c) a w:=by exact fun _ _ _ h=>h) (hg:Region.wanted oi (yielded ops a.tmps)=true:=by kernel_rfl)
  (y:∀ z,S z→(execOp a.eval oi).run P z = .ok (.value v) z:=by (intro _ _;go_simp;rfl)):wpAnyW P md ops Q S st (fuel+1) listed a w:=tkW i hS hi hB hQ hg y h
end
end
section
open Go.RowKit Hb Hf Ht
attribute [local go_sem ↓] Go.wp_at_zero Go.wp_at_succ
attribute [local go_sem] Oper.semAt_some
theorem terms_walk {w:World} {A:Option Addr} {n c:Nat} {ps:List Rg} {t:Tm} {sl:Value} (h:SetP w (fun b=>b<w.heap.size) A n c ps) (hs:∀ p∈ps,p.1.n≤1048576∧p.2.n≤1048576) (hn:n≤1048576) (ht:TAt w w.heap.size t sl) (hf:Fits t) (hU:UOk w w) :
  Calls Tryz.prog 3 #[.slice A n c,valT t sl] w fun e w'=>e = .returned (.bool true)∧Below w.heap.size w w':=by
 obtain ⟨B,hB⟩:∃ B,w.heap.size=B:=⟨_,rfl⟩
 obtain ⟨A0,c0,rfl,hl1,hl2,hl3⟩:=ht.slice
 obtain ⟨k,nb,mb,b,v,hlt⟩:=tm_letters t
 have hv:∀ sl,valT t sl = .agg (Q5 k nb mb b v sl):=fun sl=>by unfold valT;rw [hlt]
 obtain ⟨q,hq⟩:∃ q,t.as.length=q:=⟨_,rfl⟩
 rw [hq] at ht ⊢
 have hX:=TBox.newL w (t:=t) (sl:=.slice A0 q c0) hlt
 have HBx:=Qh (show Below B w (w.alloc (.cells (Q5 k nb mb b v (.slice A0 q c0)) 26)) from by rw [←hB];exact Qb)
 have HS:=Qh (fun (u:World) (hu:Below B w u)=>h.keep (w':=u) (Q:=fun b=>b<B) (fun b hb=>⟨by omega,hu.block b (by omega)⟩))
 have HT:=Qh (fun (u:World) (hu:Below B w u)=>show TAt u u.heap.size t (.slice A0 q c0) from ht.to (by rw [hB];exact hu) (by have:=hu.size;omega))
 have HU:=Qh (fun (u:World) (hu:Below B w u)=>show UOk w u from hU.below (by rw [hB];exact hu))
 have HRd:=Qh (fun (u:World) (hu:Below B w u)=>show Calls Tryz.prog 11 #[.agg (Q5 k nb mb b v (.slice A0 q c0))] u (ReadGB u.heap.size u t) from by
  have hh:=Read_gen (HT.out u hu) (HU.out u hu)
  rw [hv] at hh
  exact hh)
 have HCk:=Qh (fun (u:World) (hu:Below B w u)=>show Calls Tryz.prog 12 #[.agg (Q5 k nb mb b v (.slice A0 q c0))] u (fun e w'=>e = .returned (.int .i64 (checkP t))∧Below u.heap.size u w') from by
  have hh:=rCheck_any (HT.out u hu) hf
  rw [hv] at hh
  exact hh)
 have HRr:=Qh (fun (hck:checkP t=0) (u:World) (hu:Below B w u)=>show Calls Tryz.prog 13 #[.agg (Q5 k nb mb b v (.slice A0 q c0))] u (RdPostB u.heap.size u t) from by
  have hh:=rRead_any t u _ (HT.out u hu) hck
  rw [hv] at hh
  exact hh)
 have HF2:=Qh (fun (u:World) (hu:Below B w u)=>show Calls Tryz.prog 14 #[.string ⟨#[116,121,112,101,95,101,114,114,111,114]⟩,.agg (Qn 2 ⟨#[102,100,95,100,111,109,97,105,110]⟩ (.slice none 0 0)),.agg (Q5 k nb mb b v (.slice A0 q c0))] u (fun e w'=>∃ A c,e = .returned (.agg (Qn 5 ⟨#[116,121,112,101,95,101,114,114,111,114]⟩ (.slice A 2 c)))∧TAtP w' (Grow (fun b=>b<B) u w') (errT t) (.slice A 2 c)∧Below u.heap.size u w') from by
  have hh:=F2_any2 (w:=u) (P:=fun b=>b<B) (ta:=atomT fdDom) (sa:=.slice none 0 0) (tb:=t) (s:=tyErr) (TAtP.leaf u _ rfl (by simp [maxLen]) (okF_atom (by decide))) (TAtP.keep t ht (fun b hb=>⟨by omega,hu.block b (by omega)⟩)) (fun b hb=>by have:=hu.size;omega) rfl (by decide)
  rw [hv] at hh
  exact hh)
 have HSz:=Qh (fun (hck:checkP t=0)=>show sz t≤4000 from (check_iff.1 hck).1)
 have HBn:=Qh (show Bn2 33554432 (ps.map edsR) from bn2_of (K:=1048576) h.kid hs)
 have HH:=Qh (Qa hs hn)
 have HSs:=Qh (show Szs ps from fun p hp=>⟨fun _=>by have:=(hs p hp).1;omega,fun _=>by have:=(hs p hp).2;omega⟩)
 have HLg:=Qh (show longP ps=(ps.map edsR).any lngS from by rw [longP_E,longE_lng])
 rw [hv,hB]
 rw [hB] at hX
 have HX:=Qh hX
 have HLt:=Qh hlt
 have HB:=Qh hB
 have HW1:=Qh (show (w.alloc (.cells (Q5 k nb mb b v (.slice A0 q c0)) 26)).heap.size=B+1 from by simp [hB])
 obtain ⟨kc,hkc⟩:∃ kc,checkP t=kc:=⟨_,rfl⟩
 have HKc:=Qh hkc
 have HKb:=Qh (show 0≤kc∧kc≤24 from by have:=check_bd t;omega)
 rw [hkc] at HCk
 clear h hs hn ht hf hU hlt hX hl1 hl2 hl3 hq hv hkc
 go_enter Tryz.func3,Tryz.ntmps3
 go_upto_region 1 with fail
 try rw [hB]
 clear hB
 generalize (w.alloc (.cells (Q5 k nb mb b v (.slice A0 q c0)) 26))=w1 at *
 go_wp2_with fail
 (with_reducible refine (awake_ok).mono ?_)
 rintro e u1 ⟨he,hb⟩
 subst he
 have HB1:=Qh (HBx.out.trans (hb.mono (by have:=HW1.out;omega)))
 have HZ1:=Qh (show B+1≤u1.heap.size by have:=hb.size;have:=HW1.out;omega)
 have HX1:=Qh (HX.out.below hb)
 clear hb HBx HW1 HX
 go_wp2_with fail
 (with_reducible refine (rOf_any (HS.out _ HB1.out) (fun b hb=>by have:=HZ1.out;omega) (fun p hp=>by have:=HH.out.1 p hp;omega) (by have:=HH.out.2;omega)).mono ?_)
 rintro e u2 ⟨X,xc,xs,he,hrx,hxs,hb⟩
 subst he
 have HR2:=Qh (refI_of hrx hxs HBn.out HH.out.2)
 have HXs:=Qh hxs
 have HB2:=Qh (HB1.out.trans (hb.mono (by have:=HZ1.out;omega)))
 have HZ2:=Qh (show B+1≤u2.heap.size by have:=hb.size;have:=HZ1.out;omega)
 have HX2:=Qh (HX1.out.below hb)
 clear hrx hxs hb HX1 HB1 HZ1
 have HBu:=Qh (show Below u2.heap.size u2 (u2.alloc (.cells #[.slice X n xc] 29)) from Qb)
 have hcl:(u2.alloc (.cells #[.slice X n xc] 29)).cell? ⟨u2.heap.size,0,none⟩=some (.slice X n xc):=by
  have h9:=heap_alloc_new u2 (.cells #[.slice X n xc] 29)
  rw [cell_of_row _ _ 0 _ _ (0,0) h9];rfl
 have HTk:=Qh (rTake_any (cG:=1) (HR2.out.lift HBu.out) (fun b h=>h) hcl (by simp))
 rw [HXs.out] at HTk
 clear hcl
 go_wp2_with fail
 (with_reducible refine HTk.out.mono ?_)
 rintro e u3 ⟨kx,he,hk1,hk2,hb⟩
 subst he
 have HB23:=Qh (show Below u2.heap.size u2 u3 from Qt HBu.out hb)
 have HB3:=Qh (HB2.out.trans (HB23.out.mono (by have:=HZ2.out;omega)))
 have HZ3:=Qh (show B+1≤u3.heap.size by have:=HB23.out.size;have:=HZ2.out;omega)
 have HX3:=Qh (HX2.out.below HB23.out)
 have HR3:=Qh (HR2.out.lift HB23.out)
 have HCo:=Qh (fun N=>tk_code (N:=N) hk1 hk2)
 clear hk1 hk2 hb HTk HBu HB23 HB2 HZ2 HX2 HR2
 go_wp2_with fail
 (with_reducible refine (Term_any (HS.out _ HB3.out) (fun b hb=>by have:=HZ3.out;omega) HSs.out (by have:=HH.out.2;omega)).mono ?_)
 rintro e u4 ⟨hb,hc⟩
 rw [HLg.out] at hc
 have HB4:=Qh (HB3.out.trans (hb.mono (by have:=HZ3.out;omega)))
 have HZ4:=Qh (show B+1≤u4.heap.size by have:=hb.size;have:=HZ3.out;omega)
 have HX4:=Qh (HX3.out.below hb)
 have HR4:=Qh (HR3.out.lift hb)
 clear hb HX3 HR3 HB3 HZ3 HLg
 have hc2:(∃ cd,cd≠0∧e = .returned (.tuple #[zeroTV,.int .i64 cd])∧kx=cd)∨((ps.map edsR).any lngS=false∧TermPostB u3.heap.size u3 (ps.map edsR) 1000 128 e u4):=by
  rcases hc with ⟨he,hx⟩ | ⟨he,hx⟩ | ⟨hx,hT⟩
  ·exact .inl ⟨10,by decide,he,(HCo.out []).1 hx⟩
  ·obtain ⟨h0,M,h1,h2,h3⟩:=hx
   exact .inl ⟨90,by decide,he,((HCo.out M).2 h0 h1 h2).1 h3⟩
  ·exact .inr ⟨hx,hT⟩
 clear hc
 rcases hc2 with ⟨cd,hcd,rfl,rfl⟩ | ⟨hx,N,sN,hnf,hmm,hln,hbn,rfl,hat,hbt⟩
 case' inl=>
  have hcb:(kx==0)=false:=beq_eq_false_iff_ne.2 hcd
  clear HCo HR4 HXs
  have hb:=(Below.refl u4.heap.size u4).alloc (Nat.le_refl _) (.cells Qz 26)
  have HB8:=Qh (HB4.out.trans (hb.mono (by have:=HZ4.out;omega)))
  have HZ8:=Qh (show B+1≤(u4.alloc (.cells Qz 26)).heap.size by have:=hb.size;have:=HZ4.out;omega)
  have HX8:=Qh (HX4.out.below hb)
  clear hb HB4 HZ4 HX4
  go_upto_region 8 with fail
  generalize (u4.alloc (.cells Qz 26))=u8 at *
  obtain ⟨x0,x1,x2,x3,x4,x5⟩:=TBox.cellsL HX8.out HLt.out
 case' inr=>
  obtain rfl:kx=0:=((HCo.out N).2 hx hnf hmm).2 hln
  obtain ⟨At,ct,rfl,hA1,hA2,hA3⟩:=TAtP.iff.1 hat
  obtain ⟨qt,hqt⟩:∃ q,(setT N).as.length=q:=⟨_,rfl⟩
  rw [hqt] at hat ⊢
  obtain ⟨kt,nt,mt,bt,vt,hlN⟩:=tm_letters (setT N)
  have HLN:=Qh hlN
  rw [show valT (setT N) (.slice At qt ct) = .agg (Q5 kt nt mt bt vt (.slice At qt ct)) from by unfold valT;rw [hlN]]
  have HAt:=Qh (show TAt u4 u4.heap.size (setT N) (.slice At qt ct) from hat.wide (fun b hb=>hb.2))
  have HNn:=Qh (Qa hnf (Qa (show ∀ z,Hf.mem z N↔Hf.mem z (xs.map edsS) from by rw [HXs.out];exact hmm) (Qa hbn hln)))
  clear hx HCo hat hnf hmm hln hbn hbt hqt hlN hA1 hA2 hA3 HXs
  have hb:=(Below.refl u4.heap.size u4).alloc (Nat.le_refl _) (.cells (Q5 kt nt mt bt vt (.slice At qt ct)) 26)
  have HN7:=Qh (TBox.newL u4 (sl:=.slice At qt ct) HLN.out)
  have HT7:=Qh (HAt.out.to hb hb.size)
  have HB7:=Qh (HB4.out.trans (hb.mono (by have:=HZ4.out;omega)))
  have HZ7:=Qh (show B+1≤(u4.alloc (.cells (Q5 kt nt mt bt vt (.slice At qt ct)) 26)).heap.size by have:=hb.size;have:=HZ4.out;omega)
  have HX7:=Qh (HX4.out.below hb)
  have HR7:=Qh (HR4.out.lift hb)
  clear hb HB4 HZ4 HX4 HR4 HAt
  go_upto_region 7 with fail
  generalize hgx:u4.heap.size=Gx at HN7
  try rw [hgx]
  generalize (u4.alloc (.cells (Q5 kt nt mt bt vt (.slice At qt ct)) 26))=u7 at *
  clear hgx
  refine wp_region_H (by kernel_rfl) (fun z0 K0 hs0=>?_)
  refine qh 0 K0 ?_
  refine qh 1 K0 ?_
  refine qh 2 K0 ?_
  refine qh 3 K0 ?_ (y:=fun z5 hS=>by obtain ⟨y0,y1,y2,y3,y4,y5⟩:=TBox.cellsL (HN7.out.below hS) HLN.out;go_simp;rfl)
  refine qh 4 K0 ?_
  refine oq 5 fun K hK=>?_
  go_simp
  (with_reducible refine (rTerm_ok (HR7.out.lift K0) (fun b h=>h) HNn.out.1 HNn.out.2.1 HNn.out.2.2.1 HNn.out.2.2.2).mono ?_)
  rintro e z1 ⟨sx,rfl,hat1,hb1⟩
  have K1:=Qt K0 hb1
  obtain ⟨At1,ct1,hsl1,_⟩:=TAtP.iff.1 hat1
  obtain ⟨qt1,hqt1⟩:∃ q,(setT N).as.length=q:=⟨_,rfl⟩
  rw [hqt1] at hsl1
  subst hsl1
  have HSm:=Qh (Same_any (setT N) z1 _ _ (HT7.out.to K1 K1.size) (show TAt z1 z1.heap.size (setT N) (.slice At1 qt1 ct1) from hat1.wide (fun b hb=>hb.2)))
  unfold valT at HSm ⊢
  rw [HLN.out,HLN.out] at HSm
  rw [HLN.out]
  refine hK.out _ _ K1 ?_
  refine oq 6 fun K hK=>?_
  go_simp
  (with_reducible refine HSm.out.mono ?_)
  rintro e u8 ⟨rfl,hb2⟩
  have K2:=Qt K1 hb2
  refine hK.out _ _ K2 ?_
  refine qh 7 K2 ?_
  refine oq 8 fun K hK=>?_
  go_simp
  refine hK.out _ _ K2 ?_
  refine wpAnyH_end (by kernel_rfl) ?_ _
  have HB8:=Qh (HB7.out.trans (K2.mono (by have:=HZ7.out;omega)))
  have HZ8:=Qh (show B+1≤u8.heap.size by have:=K2.size;have:=HZ7.out;omega)
  have HX8:=Qh (HX7.out.below K2)
  clear K0 K1 K2 hs0 hb1 hb2 HSm hqt1 HNn HT7 HN7 HR7 HX7 HZ7 HB7 HLN
  go_upto_region 8 with fail
  obtain ⟨x0,x1,x2,x3,x4,x5⟩:=TBox.cellsL HX8.out HLt.out
 all_goals
  go_wp2_with fail
  (with_reducible refine (HRd.out _ HB8.out).mono ?_)
  rintro e u9 ⟨hb,hc⟩
  have HB9:=Qh (HB8.out.trans (hb.mono (by have:=HZ8.out;omega)))
  have HZ9:=Qh (show B+1≤u9.heap.size by have:=hb.size;have:=HZ8.out;omega)
  have HX9:=Qh (HX8.out.below hb)
  clear hb HB8 HX8 x0 x1 x2 x3 x4 x5 HRd
  obtain ⟨x0,x1,x2,x3,x4,x5⟩:=TBox.cellsL HX9.out HLt.out
  rw [HKc.out] at hc
  rcases hc with ⟨hk,rfl⟩ | ⟨rfl,hrd,XB,sB,rfl,hbx,hbt⟩ | ⟨rfl,hrd,hbn,u5,pr,A3,n3,c3,k3,hbu,hps,hpl,hN,rfl⟩
  ·have hkb:(kc==0)=false:=beq_eq_false_iff_ne.2 hk
   have HKn:=Qh hk
   clear hk HZ8
   go_wp2_with fail
   (with_reducible refine (HCk.out _ HB9.out).mono ?_)
   rintro e ua ⟨rfl,hb⟩
   have HBa:=Qh (HB9.out.trans (hb.mono (by have:=HZ9.out;omega)))
   have HZa:=Qh (show B+1≤ua.heap.size by have:=hb.size;have:=HZ9.out;omega)
   clear hb HB9 HX9 HZ9 x0 x1 x2 x3 x4 x5
   go_wp2_with fail
   (with_reducible refine (is_bad kc HKn.out (by have:=HKb.out;omega) (by have:=HKb.out;omega) _ _ _).mono ?_)
   rintro e ub ⟨rfl,hb⟩
   have HBb:=Qh (HBa.out.trans (hb.mono (by have:=HZa.out;omega)))
   clear hb HBa HZa
   have ha:∀ (W:World) (v:Value),(Instr.typeAssert (.iface 31 v) 39 31 true).run Tryz.prog W = .ok (.tuple #[v,.bool true]) W:=fun W v=>by kernel_rfl
   go_wp2_with fail
   first
    | (go_ret;exact ⟨rfl,HBb.out⟩)
    | exact bodyPost_ret (v:=.bool true) (by simp [results,Tryz.results3,go_sem]) rfl ⟨rfl,HBb.out⟩
  ·have HEr:=Qh (Qa hbx hbt)
   have HRr2:=Qh (HRr.out HKc.out)
   unfold RdPostB at HRr2
   rw [hrd] at HRr2
   clear hrd hbx hbt HRr HZ8
   go_wp2_with fail
   (with_reducible refine (HCk.out _ HB9.out).mono ?_)
   rintro e ua ⟨rfl,hb⟩
   have HBa:=Qh (HB9.out.trans (hb.mono (by have:=HZ9.out;omega)))
   have HZa:=Qh (show B+1≤ua.heap.size by have:=hb.size;have:=HZ9.out;omega)
   have HXa:=Qh (HX9.out.below hb)
   have HEa:=Qh (Qa (HEr.out.1.below hb) (show TAt ua ua.heap.size (errT t) sB from TAtP.keep _ HEr.out.2 (fun b h=>⟨Ql h hb.size,hb.block b h⟩)))
   clear hb HB9 HX9 HZ9 HEr x0 x1 x2 x3 x4 x5
   obtain ⟨x0,x1,x2,x3,x4,x5⟩:=TBox.cellsL HXa.out HLt.out
   go_wp2_with fail
   (with_reducible refine (HRr2.out _ HBa.out).mono ?_)
   rintro e ub ⟨Ay,ny,cy,ys,rfl,hry,_,hny,hb⟩
   have HBb:=Qh (HBa.out.trans (hb.mono (by have:=HZa.out;omega)))
   have HZb:=Qh (show B+1≤ub.heap.size by have:=hb.size;have:=HZa.out;omega)
   have HXb:=Qh (HXa.out.below hb)
   have HEb:=Qh (Qa (HEa.out.1.below hb) (show TAt ub ub.heap.size (errT t) sB from HEa.out.2.to hb hb.size))
   clear hb HBa HXa HZa HEa x0 x1 x2 x3 x4 x5 hry hny
   have ha:∀ (W:World) (v:Value),(Instr.typeAssert (.iface 45 v) 39 45 true).run Tryz.prog W = .ok (.tuple #[v,.bool true]) W:=fun W v=>by kernel_rfl
   go_upto_region 15 with fail
   refine wp_region_U 4 (by kernel_rfl) (fun z0 K0 hs0=>?_)
   refine qz 1 K0 ?_ (y:=fun z5 hS=>by obtain ⟨q0,q1,q2,q3,q4,q5⟩:=TBox.cellsL (HXb.out.below hS) HLt.out;go_simp <;> rfl)
   refine wpAnyW_float [3] (fun _=>(.cells Qz 26)) (by kernel_rfl) (by kernel_rfl) (FloatRun.one rfl (fun a w=>by go_simp)) (fun _ _ h1 h2=>Qt h2 h1) (by kernel_rfl) (fun _ _ _ _ _ h=>h) rfl K0 ?_
   refine wpAnyF_one (i:=0) (by kernel_rfl) (by kernel_rfl) (fun _ _ _ _ _ h=>h) ⟨by kernel_rfl,by kernel_rfl⟩ (by kernel_rfl) rfl (by kernel_rfl) (fun z1 d1 K1 K hK=>?_)
   go_simp
   (with_reducible refine (A_any _ _).mono ?_)
   rintro e z2 ⟨rfl,hb2⟩
   have K2:=Qt K1 hb2
   refine hK.out _ _ hb2 K2 ?_
   refine wpAnyF_one (i:=2) (by kernel_rfl) (by kernel_rfl) (fun _ _ _ _ _ h=>h) ⟨by kernel_rfl,by kernel_rfl⟩ (by kernel_rfl) rfl (by kernel_rfl) (fun z3 d3 K3 K hK=>?_)
   go_simp
   (with_reducible refine (HF2.out _ (HBb.out.trans (K3.mono (by have:=HZb.out;omega)))).mono ?_)
   rintro e z4 ⟨A4,c4,rfl,hat4,hb4⟩
   have K4:=Qt K3 hb4
   refine hK.out _ _ hb4 K4 ?_
   refine wpAnyF_land1 (by kernel_rfl) rfl (fun z5 HA d5 K5 hA gA=>?_)
   have gA':((False∨(z0.heap.size≤HA∧HA<z1.heap.size))∨(z2.heap.size≤HA∧HA<z3.heap.size))∨(z4.heap.size≤HA∧HA<z5.heap.size):=gA
   have HGp:=Qh (show (HA<z3.heap.size∨z4.heap.size≤HA)∧ub.heap.size≤z3.heap.size∧z3.heap.size≤z4.heap.size∧z4.heap.size≤z5.heap.size∧ub.heap.size≤HA from by
    have h0:=K0.size
    have h1:=d1.size
    have h2:=hb2.size
    have h3:=d3.size
    have h4:=hb4.size
    have h5:=d5.size
    rcases gA' with ((h | h) | h) | h
    ·exact h.elim
    all_goals omega)
   replace hA:TBox z5 HA zeroT (.slice none 0 0):=hA
   obtain ⟨r0,r1,r2,r3,r4,r5⟩:=TBox.cells (nb:=⟨#[]⟩) (mb:=⟨#[]⟩) hA rfl rfl
   obtain ⟨s0,s1,s2,s3,s4,s5⟩:=TBox.frozens hA
   have hset:=TBox.setL (t':=errT t) (sl':=.slice A4 2 c4) (a0:=.int .i64 5) (a1:=.string ⟨#[116,121,112,101,95,101,114,114,111,114]⟩) (a2:=.string ⟨#[]⟩) (a3:=.int .u64 0) (a4:=.int .i64 0) hA (fun _=>rfl)
   have HAt5:=Qh (TAtP.keep _ hat4 (Q:=fun b=>b<B∨(z3.heap.size≤b∧b<z4.heap.size)) (fun b hb=>by
    have h0:=HGp.out
    have h1:=HZb.out
    rcases hb with hb | hb
    ·exact ⟨.inl hb,d5.block b (by omega)⟩
    ·exact ⟨.inr hb,d5.block b hb.2⟩))
   have HK5:=Qh K5
   clear gA gA' hb2 hb4 hat4 K0 K1 K2 K3 K4 K5 d1 d3 d5 hs0
   refine uW 4 fun K hK=>?_
   go_simp
   clear r0 r1 r2 r3 r4 r5 s0 s1 s2 s3 s4 s5
   generalize (((((z5.setCell ⟨HA,0,none⟩ (.int .i64 5)).setCell ⟨HA,1,none⟩ (.string ⟨#[116,121,112,101,95,101,114,114,111,114]⟩)).setCell ⟨HA,2,none⟩ (.string ⟨#[]⟩)).setCell ⟨HA,3,none⟩ (.int .u64 0)).setCell ⟨HA,4,none⟩ (.int .i64 0)).setCell ⟨HA,5,none⟩ (.slice A4 2 c4)=uc at *
   refine hK.out _ _ (fun h=>absurd h (by simp)) ?_
   refine wpAnyW_done (by kernel_rfl) ?_ _
   have HXc:=Qh hset.1
   have HGr:=Qh hset.2
   have HTc:=Qh (show TAt uc uc.heap.size (errT t) (.slice A4 2 c4) from by
    refine TAtP.keep _ HAt5.out (fun b hb=>?_)
    have h1:=HGp.out
    have h2:=HGr.out.size
    have h3:=HZb.out
    have hbb:b<z5.heap.size∧b≠HA:=by
     rcases hb with hb | hb <;> omega
    exact ⟨by omega,HGr.out.block b hbb.1 (fun e=>by injection e with e;omega)⟩)
   have HBbc:=Qh (show Below ub.heap.size ub uc from HK5.out.grown HGr.out HK5.out.size (fun j e=>by injection e with e;have:=HGp.out;omega))
   have HEc:=Qh (Qa (HEb.out.1.below HBbc.out) (show TAt uc uc.heap.size (errT t) sB from HEb.out.2.to HBbc.out HBbc.out.size))
   have HBc:=Qh (HBb.out.trans (HBbc.out.mono (by have:=HZb.out;omega)))
   have HZc:=Qh (show B+1≤uc.heap.size by have:=HBbc.out.size;have:=HZb.out;omega)
   obtain ⟨Ab,cb,rfl,hA1,hA2,hA3⟩:=TAtP.iff.1 HEc.out.2
   obtain ⟨qb,hqb⟩:∃ q,(errT t).as.length=q:=⟨_,rfl⟩
   rw [hqb] at HEc
   clear hset hA HAt5 HK5 HGp HGr HBbc HEb HBb HZb HXb hA1 hA2 hA3 hqb
   go_upto_region 16 with fail
   refine wp_region_H (by kernel_rfl) (fun z0 K0 hs0=>?_)
   refine qh 0 K0 ?_
   refine qh 1 K0 ?_
   refine qh 2 K0 ?_
   refine qh 3 K0 ?_
   refine qh 4 K0 ?_
   refine qh 5 K0 ?_
   refine qh 6 K0 ?_
   refine qh 7 K0 ?_
   refine qh 8 K0 ?_
   refine qh 9 K0 ?_
   refine qh 10 K0 ?_
   refine qh 11 K0 ?_
   refine qh 12 K0 ?_
   refine qh 13 K0 ?_
   refine qh 14 K0 ?_
   refine qh 15 K0 ?_
   refine qh 16 K0 ?_
   refine qh 17 K0 ?_
   refine qh 18 K0 ?_
   refine qh 19 K0 ?_
   refine qh 20 K0 ?_ (y:=fun z5 hS=>by obtain ⟨y0,y1,y2,y3,y4,y5⟩:=BBox.cellsL (a0:=.int .i64 5) (a1:=.string ⟨#[116,121,112,101,95,101,114,114,111,114]⟩) (a2:=.string ⟨#[]⟩) (a3:=.int .u64 0) (a4:=.int .i64 0) (HEc.out.1.below hS) (fun _=>rfl);go_simp;rfl)
   refine qh 21 K0 ?_ (y:=fun z5 hS=>by obtain ⟨y0,y1,y2,y3,y4,y5⟩:=TBox.cellsL (a0:=.int .i64 5) (a1:=.string ⟨#[116,121,112,101,95,101,114,114,111,114]⟩) (a2:=.string ⟨#[]⟩) (a3:=.int .u64 0) (a4:=.int .i64 0) (HXc.out.below hS) (fun _=>rfl);go_simp;rfl)
   refine oq 22 fun K hK=>?_
   go_simp
   have HSm:=Qh (Same_any (errT t) z0 _ _ (HEc.out.2.to K0 K0.size) (HTc.out.to K0 K0.size))
   unfold valT at HSm
   rw [show ∀ sl,Ht.cells6 (errT t) sl = [.int .i64 5,.string ⟨#[116,121,112,101,95,101,114,114,111,114]⟩,.string ⟨#[]⟩,.int .u64 0,.int .i64 0,sl] from fun _=>rfl,show ∀ sl,Ht.cells6 (errT t) sl = [.int .i64 5,.string ⟨#[116,121,112,101,95,101,114,114,111,114]⟩,.string ⟨#[]⟩,.int .u64 0,.int .i64 0,sl] from fun _=>rfl] at HSm
   (with_reducible refine HSm.out.mono ?_)
   rintro e z1 ⟨rfl,hb1⟩
   have K1:=Qt K0 hb1
   refine hK.out _ _ K1 ?_
   refine qh 23 K1 ?_
   refine oq 24 fun K hK=>?_
   go_simp
   refine hK.out _ _ K1 ?_
   refine wpAnyH_end (by kernel_rfl) ?_ _
   have HBd:=Qh (HBc.out.trans (K1.mono (by have:=HZc.out;omega)))
   clear K0 K1 hs0 hb1 HSm HBc HZc HEc HTc HXc
   go_wp2_with fail
   first
    | (go_ret;exact ⟨rfl,HBd.out⟩)
    | exact bodyPost_ret (v:=.bool true) (by simp [results,Tryz.results3,go_sem]) rfl ⟨rfl,HBd.out⟩
  ·have HNm:=Qh hN
   have HPr:=Qh (Qa hbu (Qa hps (Qa hpl hbn)))
   have HRr2:=Qh (HRr.out HKc.out)
   unfold RdPostB at HRr2
   rw [hrd] at HRr2
   clear hrd hbn hbu hps hpl HRr hN
   by_cases h0:k3=0
   ·subst h0
    rw [show errI 0=Value.nilIface from rfl]
    go_wp2_with fail
    (with_reducible refine (HCk.out _ HB9.out).mono ?_)
    rintro e ua ⟨rfl,hb⟩
    have HBa:=Qh (HB9.out.trans (hb.mono (by have:=HZ9.out;omega)))
    have HZa:=Qh (show B+1≤ua.heap.size by have:=hb.size;have:=HZ9.out;omega)
    have HXa:=Qh (HX9.out.below hb)
    have H9a:=Qh hb
    clear hb HB9 HX9 HZ9 x0 x1 x2 x3 x4 x5
    obtain ⟨x0,x1,x2,x3,x4,x5⟩:=TBox.cellsL HXa.out HLt.out
    go_wp2_with fail
    (with_reducible refine (HRr2.out _ HBa.out).mono ?_)
    rintro e ub ⟨Ay,ny,cy,ys,rfl,hry,hye,hny,hb⟩
    have HBb:=Qh (HBa.out.trans (hb.mono (by have:=HZa.out;omega)))
    have HZb:=Qh (show B+1≤ub.heap.size by have:=hb.size;have:=HZa.out;omega)
    have H9b:=Qh (Qt H9a.out hb)
    have HYe:=Qh (show ys.map edsS=pr.map edsR from by rw [hye (by trivial),HPr.out.2.1])
    have HYb:=Qh (refI_rd hry (hye (by trivial)) HPr.out.2.2.2 (by have:=HSz.out HKc.out;omega))
    clear hb HBa HXa HZa H9a x0 x1 x2 x3 x4 x5 hry hye hny
    have HBu:=Qh (show Below ub.heap.size ub (ub.alloc (.cells #[.slice Ay ny cy] 29)) from Qb)
    have hcl:(ub.alloc (.cells #[.slice Ay ny cy] 29)).cell? ⟨ub.heap.size,0,none⟩=some (.slice Ay ny cy):=by
     have h9:=heap_alloc_new ub (.cells #[.slice Ay ny cy] 29)
     rw [cell_of_row _ _ 0 _ _ (0,0) h9];rfl
    have HTk:=Qh (rTake_any (cG:=1) (HYb.out.lift HBu.out) (fun b h=>h) hcl (by simp))
    rw [HYe.out] at HTk
    clear hcl
    go_wp2_with fail
    (with_reducible refine HTk.out.mono ?_)
    rintro e uc ⟨ky,rfl,hk1,hk2,hb⟩
    have HBbc:=Qh (show Below ub.heap.size ub uc from Qt HBu.out hb)
    have HBc:=Qh (HBb.out.trans (HBbc.out.mono (by have:=HZb.out;omega)))
    have HZc:=Qh (show B+1≤uc.heap.size by have:=HBbc.out.size;have:=HZb.out;omega)
    have HNc:=Qh (HNm.out.up (Qt H9b.out HBbc.out) (Nat.le_refl _))
    obtain ⟨Ai,ni,ci,hei,hisc⟩:=is_any (w:=u5) (HYb.out.lift HBbc.out) (fun b h=>h) HYe.out HNc.out hk1 hk2 (Nat.le_refl _)
    obtain ⟨e1,e2,e3,e4⟩:=nt_inj hei
    subst e1
    subst e2
    subst e3
    subst e4
    have HIs:=Qh (hisc uc (Below.refl _ _))
    have HU5:=Qh (show u5.heap.size≤uc.heap.size from HNc.out.1.size)
    have HUB:=Qh (show B≤u5.heap.size from by have:=HPr.out.1.size;have:=HZ8.out;omega)
    clear hk1 hk2 hb hei hisc HTk HBu HBbc HBb HZb HNm H9b HZ8
    unfold IsPost at HIs
    go_wp2_with fail
    (with_reducible refine HIs.out.mono ?_)
    rintro e ud ⟨rfl,hb⟩
    have HBd:=Qh (HBc.out.trans (hb.mono HUB.out))
    clear hb HIs HBc HZc HNc HYb HYe
    go_wp2_with fail
    first
     | (go_ret;exact ⟨rfl,HBd.out⟩)
     | exact bodyPost_ret (v:=.bool true) (by simp [results,Tryz.results3,go_sem]) rfl ⟨rfl,HBd.out⟩
   ·rw [show errI k3 = .iface 31 (.int .i64 k3) from if_neg h0]
    have HK3:=Qh h0
    clear h0
    have ha:∀ (W:World) (v:Value),(Instr.typeAssert (.iface 31 v) 39 31 true).run Tryz.prog W = .ok (.tuple #[v,.bool true]) W:=fun W v=>by kernel_rfl
    go_wp2_with fail
    (with_reducible refine (HCk.out _ HB9.out).mono ?_)
    rintro e ua ⟨rfl,hb⟩
    have HBa:=Qh (HB9.out.trans (hb.mono (by have:=HZ9.out;omega)))
    have HZa:=Qh (show B+1≤ua.heap.size by have:=hb.size;have:=HZ9.out;omega)
    have HXa:=Qh (HX9.out.below hb)
    have H9a:=Qh hb
    clear hb HB9 HX9 HZ9 x0 x1 x2 x3 x4 x5
    obtain ⟨x0,x1,x2,x3,x4,x5⟩:=TBox.cellsL HXa.out HLt.out
    go_wp2_with fail
    (with_reducible refine (HRr2.out _ HBa.out).mono ?_)
    rintro e ub ⟨Ay,ny,cy,ys,rfl,hry,hye,hny,hb⟩
    have HBb:=Qh (HBa.out.trans (hb.mono (by have:=HZa.out;omega)))
    have HZb:=Qh (show B+1≤ub.heap.size by have:=hb.size;have:=HZa.out;omega)
    have H9b:=Qh (Qt H9a.out hb)
    have HYe:=Qh (show ys.map edsS=pr.map edsR from by rw [hye (by trivial),HPr.out.2.1])
    have HYb:=Qh (refI_rd hry (hye (by trivial)) HPr.out.2.2.2 (by have:=HSz.out HKc.out;omega))
    clear hb HBa HXa HZa H9a x0 x1 x2 x3 x4 x5 hry hye hny
    have HBu:=Qh (show Below ub.heap.size ub (ub.alloc (.cells #[.slice Ay ny cy] 29)) from Qb)
    have hcl:(ub.alloc (.cells #[.slice Ay ny cy] 29)).cell? ⟨ub.heap.size,0,none⟩=some (.slice Ay ny cy):=by
     have h9:=heap_alloc_new ub (.cells #[.slice Ay ny cy] 29)
     rw [cell_of_row _ _ 0 _ _ (0,0) h9];rfl
    have HTk:=Qh (rTake_any (cG:=1) (HYb.out.lift HBu.out) (fun b h=>h) hcl (by simp))
    rw [HYe.out] at HTk
    clear hcl
    go_wp2_with fail
    (with_reducible refine HTk.out.mono ?_)
    rintro e uc ⟨ky,rfl,hk1,hk2,hb⟩
    have HBbc:=Qh (show Below ub.heap.size ub uc from Qt HBu.out hb)
    have HBc:=Qh (HBb.out.trans (HBbc.out.mono (by have:=HZb.out;omega)))
    have HZc:=Qh (show B+1≤uc.heap.size by have:=HBbc.out.size;have:=HZb.out;omega)
    have HNc:=Qh (HNm.out.up (Qt H9b.out HBbc.out) (Nat.le_refl _))
    obtain ⟨Ai,ni,ci,hei,hisc⟩:=is_any (w:=u5) (HYb.out.lift HBbc.out) (fun b h=>h) HYe.out HNc.out hk1 hk2 (Nat.le_refl _)
    obtain ⟨e1,e2,e3,e4⟩:=nt_inj hei
    subst e1
    subst e2
    subst e3
    subst e4
    have HIs:=Qh (hisc uc (Below.refl _ _))
    have HU5:=Qh (show u5.heap.size≤uc.heap.size from HNc.out.1.size)
    have HUB:=Qh (show B≤u5.heap.size from by have:=HPr.out.1.size;have:=HZ8.out;omega)
    clear hk1 hk2 hb hei hisc HTk HBu HBbc HBb HZb HNm H9b HZ8
    unfold IsPost at HIs
    go_wp2_with fail
    (with_reducible refine HIs.out.mono ?_)
    rintro e ud ⟨rfl,hb⟩
    have HBd:=Qh (HBc.out.trans (hb.mono HUB.out))
    clear hb HIs HBc HZc HNc HYb HYe
    have hkb:(k3==0)=false:=beq_eq_false_iff_ne.2 HK3.out
    go_wp2_with fail
    first
     | (go_ret;exact ⟨rfl,HBd.out⟩)
     | exact bodyPost_ret (v:=.bool true) (by simp [results,Tryz.results3,go_sem]) rfl ⟨rfl,HBd.out⟩
end
section
open Go.ChangeShapes Go.WideShapes Go.ChangeAt Go.RowKit Go.Joins Go.Deep Hb Hf
theorem i64_wf {x:Int} (h:(Lit.int .i64 x).wf=true) : -9223372036854775808≤x∧x≤9223372036854775807:=by
 simp [Lit.wf,IntKind.has,IntKind.min,IntKind.max,IntKind.bits,IntKind.signed] at h
 omega
theorem list2 {α:Type} {l:List α} (h:l.length=2):∃ a b,l = [a,b]:=by
 match l,h with
 | [a,b],_=>exact ⟨a,b,rfl⟩
theorem list3 {α:Type} {l:List α} (h:l.length=3):∃ a b c,l = [a,b,c]:=by
 match l,h with
 | [a,b,c],_=>exact ⟨a,b,c,rfl⟩
theorem list6 {α:Type} {l:List α} (h:l.length=6):∃ a b c d e f,l = [a,b,c,d,e,f]:=by
 match l,h with
 | [a,b,c,d,e,f],_=>exact ⟨a,b,c,d,e,f,rfl⟩
theorem spot_none {w:World} {a:Addr} {v:Value} (h:w.cell? (a.add 0)=some v):∃ b o,a=⟨b,o,none⟩∧b<w.heap.size:=by
 obtain ⟨b,off,spot⟩:=a
 have hspot:spot=none:=by simpa [Addr.add] using World.cell?_spot h
 subst hspot
 refine ⟨b,off,rfl,?_⟩
 have:=World.block_lt_of_cell? _ _ h
 simpa [Addr.add] using this
theorem add_add (a:Addr) (m k:Nat):(a.add m).add k=a.add (m+k):=by
 unfold Addr.add
 by_cases h1:m=0
 ·subst h1;simp
 ·by_cases h2:k=0
  ·subst h2;simp [h1]
  ·simp [h1,h2,Nat.add_assoc]
theorem cellsBd:Tryz.prog.cellsOf 67=3:=by kernel_rfl
theorem cellsRg:Tryz.prog.cellsOf 69=6:=by kernel_rfl
section
end
end
section
open Go.RowKit Hb
end
section
open Go.RowKit Hb
attribute [local go_sem ↓] Go.wp_at_zero Go.wp_at_succ
end
section
open Go.RowKit Hb
section
end
end
section
open Go.ChangeShapes Go.WideShapes Go.ChangeAt Go.RowKit Go.Joins Hb
section
end
end
section
open Go.RowKit Hb
section
end
section
end
section
end
section
end
section
end
end
end Go.Proofs.YtpikjceodmepiaaGreatDoor
namespace Hb
end Hb
namespace Go.Proofs.YtpikjceodmepiaaGreatDoor
section
open Go.RowKit Hb
section
end
end
section
open Go.ChangeShapes Go.WideShapes Go.ChangeAt Go.RowKit Go.Joins Hb
theorem bulk_one {H:Type} (d:DataW H):1≤Rows.uptoBulk d:=by
 cases d with
 | lit l=>cases l <;> simp [Rows.uptoBulk]
 | nil=>simp [Rows.uptoBulk]
 | ptr d=>simp [Rows.uptoBulk]
 | slice elems spare=>simp [Rows.uptoBulk]
 | agg parts=>simp [Rows.uptoBulk]
 | iface t d=>simp [Rows.uptoBulk]
 | map entries=>simp [Rows.uptoBulk]
 | held h=>simp [Rows.uptoBulk]
theorem bulk_part {H:Type} {d:DataW H} {l:List (DataW H)} (h:d∈l):Rows.uptoBulk d≤Rows.uptoBulkAll l:=by
 induction l with
 | nil=>cases h
 | cons x r ih=>
  simp only [Rows.uptoBulkAll]
  cases List.mem_cons.1 h with
  | inl e=>subst e;omega
  | inr e=>have:=ih e;omega
theorem bulk_length {H:Type} (l:List (DataW H)):l.length≤Rows.uptoBulkAll l:=by
 induction l with
 | nil=>simp [Rows.uptoBulkAll]
 | cons x l ih=>have:=bulk_one x;simp only [Rows.uptoBulkAll,List.length_cons];omega
theorem bulk_in {H:Type} {ds gs:List (DataW H)} (hk:Rows.uptoSmall H (ds ++ gs)=true) {d:DataW H} (hd:d∈ds ++ gs):Rows.uptoBulk d≤1048576:=
 Nat.le_trans (bulk_part hd) (of_decide_eq_true hk)
end
section
open Go.RowKit Hb
section
end
section
end
end
section
open Go.ChangeShapes Go.WideShapes Go.ChangeAt Go.RowKit Go.Joins Go.Deep Hb Hf
theorem trod_two_b {H:Type} {enc:TypeId × Value→H} {P:Program} {w:World} {base:Nat} {spare:Nat→Bool} {held:Bool} {t:TypeId} {f0 f1:Field} {fuel:Nat} {cs:List Value} {x:DataW H × List MemPlace} (ht:P.underlying t=some (.struct #[f0,f1])) (h:DataW.trod enc P w base spare held fuel t cs=some x) :
  ∃ y0 y1 n,fuel=n+1∧cs.length=P.cellsOf t∧DataW.trod enc P w base spare held n f0.type ((cs.drop f0.offset).take (P.cellsOf f0.type))=some y0 ∧
   DataW.trod enc P w base spare held n f1.type ((cs.drop f1.offset).take (P.cellsOf f1.type))=some y1∧x.1 = .agg [y0.1,y1.1]:=by
 obtain ⟨xs,n,hn,rfl,hl,hlen,hf⟩:=DataW.trod_struct ht h
 match xs,hlen with
 | [y0,y1],_=>exact ⟨y0,y1,n,hn,hl,by simpa using hf 0 f0 rfl,by simpa using hf 1 f1 rfl,rfl⟩
section
variable {H:Type} {enc:TypeId × Value→H} {W:World}
theorem trod_Int_b {fuel:Nat} {cs:List Value} {x:DataW H × List MemPlace} (h:DataW.trod enc Tryz.prog W 0 (fun _=>true) true fuel 56 cs=some x) :
  ∃ (neg:Bool) (A:Option Addr) (n c:Nat) (l:List Nat),cs = [.bool neg,.slice A n c]∧SlU W W.heap.size A n c l∧(A=none→c=0)∧n≤Rows.uptoBulk x.1:=by
 obtain ⟨y0,y1,m,rfl,hl,h0,h1,hx1⟩:=trod_two_b Tryz.underlying56 h
 rw [cellsInt] at hl
 obtain ⟨v0,v1,rfl⟩:=list2 hl
 have eb:Tryz.prog.cellsOf 4=1:=by kernel_rfl
 have es:Tryz.prog.cellsOf 54=1:=by kernel_rfl
 simp [eb] at h0
 simp [es] at h1
 obtain ⟨neg,e0,_⟩:=DataW.trod_bool Tryz.underlying4 h0
 simp at e0
 subst e0
 rcases open_ints Tryz.underlying54 Tryz.underlying101 cellsU h1 with ⟨e1,_⟩ | ⟨a,n,c,zs,e1,_,hnc,hcm,hz,hx,hcell,hwf⟩
 ·simp at e1
  subst e1
  exact ⟨neg,none,0,0,[],rfl,SlU.nil _ _ _ _ (by simp [maxLen]),fun _=>rfl,Nat.zero_le _⟩
 ·simp at e1
  subst e1
  simp only [if_true] at hz
  have hw:∀ i,i<c→0≤zs.getD i 0∧zs.getD i 0<4294967296:=by
   intro i hi
   have hm:zs.getD i 0∈zs:=by
    rw [List.getD_eq_getElem?_getD,List.getElem?_eq_getElem (by omega)]
    exact List.getElem_mem _
   have:=hwf _ hm
   clear hm
   generalize zs.getD i 0=zz at *
   simp [Lit.wf,IntKind.min,IntKind.max,IntKind.signed,IntKind.bits] at this
   omega
  refine ⟨neg,some a,n,c,(zs.take n).map Int.toNat,rfl,⟨by simp;omega,hnc,hcm,?_,?_⟩,fun h=>(by cases h),?_⟩
  ·intro x hx
   obtain ⟨z,hz1,rfl⟩:=List.mem_map.1 hx
   obtain ⟨i,hi,rfl⟩:=List.getElem_of_mem hz1
   rw [List.length_take] at hi
   have h5:=hw i (by omega)
   have e:zs.getD i 0=zs[i]'(by omega):=by rw [List.getD_eq_getElem?_getD,List.getElem?_eq_getElem (by omega)];rfl
   rw [List.getElem_take,←e]
   show (zs.getD i 0).toNat<4294967296
   omega
  ·intro hne
   have hn:0<n:=by
    rcases Nat.eq_zero_or_pos n with h | h
    ·exfalso;apply hne;subst h;simp [u32s]
    ·exact h
   have g0:=hcell 0 (by omega)
   obtain ⟨b,off,spot⟩:=a
   have hspot:spot=none:=by simpa [Addr.add] using World.cell?_spot g0
   subst hspot
   refine ⟨b,off,rfl,?_,fun i u hu=>?_⟩
   ·have:=World.block_lt_of_cell? _ _ g0
    simpa [Addr.add] using this
   ·have hi:i<n:=by
     have:=(List.getElem?_eq_some_iff.1 hu).1
     rw [u32s_length,List.length_map,List.length_take] at this
     omega
    have h2:=hcell i (by omega)
    rw [addr_add] at h2
    rw [h2,←hu,u32s_get (by simp;omega)]
    congr 2
    have h3:=hw i (by omega)
    have e:zs.getD i 0=zs[i]'(by omega):=by rw [List.getD_eq_getElem?_getD,List.getElem?_eq_getElem (by omega)];rfl
    have e2:((zs.take n).map Int.toNat).getD i 0=(zs[i]'(by omega)).toNat:=by
     rw [List.getD_eq_getElem?_getD,List.getElem?_map,List.getElem?_take_of_lt hi,List.getElem?_eq_getElem (by omega)];rfl
    rw [e2,e]
    rw [e] at h3
    omega
  ·have h2:n≤zs.length:=by omega
   have h3:=bulk_part (d:=y1.1) (l:=[y0.1,y1.1]) (by simp)
   have h4:=bulk_length (lits (H:=H) .u32 (zs.take n))
   have h5:(lits (H:=H) .u32 (zs.take n)).length=n:=by simp [lits];omega
   rw [hx1]
   have h6:(lits (H:=H) .u32 (zs.take n)).length≤Rows.uptoBulk y1.1:=by
    rw [hx]
    simp only [Rows.uptoBulk]
    omega
   simp only [Rows.uptoBulk]
   omega
theorem trod_Bd_b {fuel:Nat} {cs:List Value} {x:DataW H × List MemPlace} (h:DataW.trod enc Tryz.prog W 0 (fun _=>true) true fuel 67 cs=some x) :
  ∃ b:Bd,cs=b.vals∧b.At W (fun b=>b<W.heap.size)∧(b.A=none→b.c=0)∧b.n≤Rows.uptoBulk x.1:=by
 obtain ⟨y0,y1,m,rfl,hl,h0,h1,hx1⟩:=trod_two_b Tryz.underlying67 h
 rw [cellsBd] at hl
 obtain ⟨v0,v1,v2,rfl⟩:=list3 hl
 have e3:Tryz.prog.cellsOf 3=1:=by kernel_rfl
 simp [e3] at h0
 simp [cellsInt] at h1
 obtain ⟨u0,k0,_,w0⟩:=DataW.trod_int Tryz.underlying3 h0
 simp at k0
 subst k0
 obtain ⟨neg,A,n,c,l,e,hs,hA,hbn⟩:=trod_Int_b h1
 simp at e
 obtain ⟨rfl,rfl⟩:=e
 exact ⟨⟨u0,neg,A,n,c,l⟩,rfl,⟨LimP.of_sl hs,(i64_wf w0).1,(i64_wf w0).2⟩,hA,by
  have h3:=bulk_part (d:=y1.1) (l:=[y0.1,y1.1]) (by simp)
  rw [hx1]
  simp only [Rows.uptoBulk]
  show n≤_
  omega⟩
theorem trod_Rg_b {fuel:Nat} {cs:List Value} {x:DataW H × List MemPlace} (h:DataW.trod enc Tryz.prog W 0 (fun _=>true) true fuel 69 cs=some x) :
  ∃ p:Rg,cs=cells6 p∧Rg.At W (fun b=>b<W.heap.size) p∧(p.1.A=none→p.1.c=0)∧(p.2.A=none→p.2.c=0)∧p.1.n≤Rows.uptoBulk x.1∧p.2.n≤Rows.uptoBulk x.1:=by
 obtain ⟨y0,y1,m,rfl,hl,h0,h1,hx1⟩:=trod_two_b Tryz.underlying69 h
 rw [cellsRg] at hl
 obtain ⟨v0,v1,v2,v3,v4,v5,rfl⟩:=list6 hl
 simp [cellsBd] at h0 h1
 obtain ⟨a,ea,ha,za,na⟩:=trod_Bd_b h0
 obtain ⟨b,eb,hb,zb,nb'⟩:=trod_Bd_b h1
 refine ⟨(a,b),?_,⟨ha,hb⟩,za,zb,?_,?_⟩
 ·show [v0,v1,v2,v3,v4,v5]=a.vals ++ b.vals
  rw [←ea,←eb]
  rfl
 ·have h3:=bulk_part (d:=y0.1) (l:=[y0.1,y1.1]) (by simp)
  rw [hx1]
  simp only [Rows.uptoBulk]
  show a.n≤_
  omega
 ·have h3:=bulk_part (d:=y1.1) (l:=[y0.1,y1.1]) (by simp)
  rw [hx1]
  simp only [Rows.uptoBulk]
  show b.n≤_
  omega
theorem open_Ranges_b {base:Nat} {v:Value} {d:DataW H} {p:List MemPlace} (hval:Value.okWide Tryz.prog W .any base 22 v)
  (h:DataW.Trod enc Tryz.prog W 0 (fun _=>true) true 22 v d p):∃ (A:Option Addr) (n c:Nat) (ps:List Rg),v = .slice A n c∧SetP W (fun b=>b<W.heap.size) A n c ps∧ZnR ps∧n≤Rows.uptoBulk d∧∀ p∈ps,p.1.n≤Rows.uptoBulk d∧p.2.n≤Rows.uptoBulk d:=by
 obtain ⟨A,n,c,rfl⟩:=okWide_slice Tryz.underlying22 hval
 obtain ⟨fuel,hf⟩:=h
 have hc:(Value.slice A n c).cells.toList = [.slice A n c]:=by simp [Value.cells]
 rw [hc] at hf
 rcases DataW.trod_slice Tryz.underlying22 hf with ⟨e1,_⟩ | ⟨a,len,cap,elems,rest,m,rfl,e1,hx5,_,hlc,hcm,hlen2,hel,_⟩
 ·simp at e1
  obtain ⟨rfl,rfl,rfl⟩:=e1
  exact ⟨none,0,0,[],rfl,⟨⟨rfl,Nat.le_refl _,by simp [maxLen],fun h=>absurd rfl h⟩,fun p hp=>(by cases hp)⟩,fun p hp=>(by cases hp),Nat.zero_le _,fun p hp=>(by cases hp)⟩
 ·simp at e1
  obtain ⟨rfl,rfl,rfl⟩:=e1
  have hd:d = .slice (elems.map (·.1)) (rest.map (·.1)):=congrArg Prod.fst hx5
  haveI:Inhabited Rg:=⟨(ib 0,ib 0)⟩
  obtain ⟨V,hV⟩:=choose_lt (α:=Rg) (n:=n) (p:=fun i y=>(∀ k,k<6→W.cell? (a.add (i * 6+k))=(cells6 y)[k]?)∧Rg.At W (fun b=>b<W.heap.size) y∧(y.1.A=none→y.1.c=0)∧(y.2.A=none→y.2.c=0)∧y.1.n≤Rows.uptoBulk d∧y.2.n≤Rows.uptoBulk d) (fun i hi=>by
   have h1:=hel i hi
   rw [List.getElem?_eq_getElem (by omega),Option.bind_eq_some_iff] at h1
   obtain ⟨cs',h2,h3⟩:=h1
   obtain ⟨t,rfl,ht,hz,hz2,b1,b2⟩:=trod_Rg_b h3
   have h9:Rows.uptoBulk (elems[i]'(by omega)).1≤Rows.uptoBulk d:=by
    have h8:=bulk_part (d:=(elems[i]'(by omega)).1) (l:=elems.map (·.1)) (List.mem_map.2 ⟨_,List.getElem_mem _,rfl⟩)
    rw [hd]
    simp only [Rows.uptoBulk]
    omega
   refine ⟨t,fun k hk=>?_,ht,hz,hz2,Nat.le_trans b1 h9,Nat.le_trans b2 h9⟩
   rw [cellsRg] at h2
   have h4:=(World.cells?_some h2).2.2 k hk
   rw [←add_add,h4])
  refine ⟨some a,n,c,(List.range n).map V,rfl,⟨⟨by simp,hlc,hcm,fun hne=>?_⟩,fun y hy=>?_⟩,fun y hy=>?_,?_,fun y hy=>?_⟩
  ·have hn0:0<n:=Nat.pos_of_ne_zero (fun e=>hne (by subst e;rfl))
   obtain ⟨hc0,_⟩:=hV 0 hn0
   obtain ⟨b,o,rfl,hb⟩:=spot_none (hc0 0 (by omega))
   refine ⟨b,o,rfl,hb,fun i x hx=>?_⟩
   have hi6:i<n * 6:=by
    have:=(List.getElem?_eq_some_iff.1 hx).1
    rw [fl6_length] at this
    simpa using this
   have hd:=Nat.div_add_mod i 6
   have hm:=Nat.mod_lt i (show 0<6 by omega)
   have hq:i / 6<n:=by omega
   have e:i=i / 6 * 6+i % 6:=by omega
   rw [e,fl6_get (p:=V (i / 6)) (by simp [hq]) hm] at hx
   have h5:=(hV (i / 6) hq).1 (i % 6) hm
   rw [addr_add] at h5
   rw [show o+i=o+(i / 6 * 6+i % 6) by omega,h5,hx]
  ·obtain ⟨i,hi,rfl⟩:=List.mem_map.1 hy
   exact (hV i (by simpa using hi)).2.1
  ·obtain ⟨i,hi,rfl⟩:=List.mem_map.1 hy
   exact ⟨(hV i (by simpa using hi)).2.2.1,(hV i (by simpa using hi)).2.2.2.1⟩
  ·have h8:=bulk_length (elems.map (·.1))
   rw [List.length_map,hlen2] at h8
   rw [hd]
   simp only [Rows.uptoBulk]
   omega
  ·obtain ⟨i,hi,rfl⟩:=List.mem_map.1 hy
   exact (hV i (by simpa using hi)).2.2.2.2
end
end
end Go.Proofs.YtpikjceodmepiaaGreatDoor
namespace Ht
namespace Tm
end Tm
section
end
end Ht
namespace Ht
def sDot:List UInt8:=[46]
def elems:Tm→List Tm × Tm
 | .mk k n m b v [x,y]=>if k=5∧n=sDot then (x :: (elems y).1,(elems y).2) else ([],.mk k n m b v [x,y])
 | t=>([],t)
end Ht
namespace Go.Proofs.YtpikjceodmepiaaGreatDoor
section
open Go.ChangeShapes Go.WideShapes Go.ChangeAt Go.RowKit Go.Joins Go.Deep Hb Ht
section
end
theorem i64_of_wf {x:Int} (h:(Lit.int .i64 x).wf=true) : -9223372036854775808≤x∧x≤9223372036854775807:=by
 simp [Lit.wf,IntKind.has,IntKind.min,IntKind.max,IntKind.bits,IntKind.signed] at h
 omega
theorem u64_of_wf {x:Int} (h:(Lit.int .u64 x).wf=true):0≤x∧x<18446744073709551616:=by
 simp [Lit.wf,IntKind.has,IntKind.min,IntKind.max,IntKind.bits,IntKind.signed] at h
 omega
theorem cellsTerm:Tryz.prog.cellsOf 26=6:=by kernel_rfl
theorem bytesTerm:Tryz.prog.bytesOf 26=80:=by kernel_rfl
theorem trod_six {H:Type} {enc:TypeId × Value→H} {P:Program} {w:World} {base:Nat} {spare:Nat→Bool} {held:Bool} {t:TypeId} {f0 f1 f2 f3 f4 f5:Field} {fuel:Nat} {cs:List Value} {x:DataW H × List MemPlace} (ht:P.underlying t=some (.struct #[f0,f1,f2,f3,f4,f5])) (h:DataW.trod enc P w base spare held fuel t cs=some x) :
  ∃ y0 y1 y2 y3 y4 y5 n,fuel=n+1∧x.1 = .agg [y0.1,y1.1,y2.1,y3.1,y4.1,y5.1]∧cs.length=P.cellsOf t∧DataW.trod enc P w base spare held n f0.type ((cs.drop f0.offset).take (P.cellsOf f0.type))=some y0 ∧
   DataW.trod enc P w base spare held n f1.type ((cs.drop f1.offset).take (P.cellsOf f1.type))=some y1∧DataW.trod enc P w base spare held n f2.type ((cs.drop f2.offset).take (P.cellsOf f2.type))=some y2 ∧
   DataW.trod enc P w base spare held n f3.type ((cs.drop f3.offset).take (P.cellsOf f3.type))=some y3∧DataW.trod enc P w base spare held n f4.type ((cs.drop f4.offset).take (P.cellsOf f4.type))=some y4 ∧
   DataW.trod enc P w base spare held n f5.type ((cs.drop f5.offset).take (P.cellsOf f5.type))=some y5:=by
 obtain ⟨xs,n,hn,rfl,hl,hlen,hf⟩:=DataW.trod_struct ht h
 match xs,hlen with
 | [y0,y1,y2,y3,y4,y5],_=>exact ⟨y0,y1,y2,y3,y4,y5,n,hn,rfl,hl,by simpa using hf 0 f0 rfl,by simpa using hf 1 f1 rfl,by simpa using hf 2 f2 rfl,by simpa using hf 3 f3 rfl,by simpa using hf 4 f4 rfl,by simpa using hf 5 f5 rfl⟩
theorem weights_all_mem {H:Type} {P:Program} {e:TypeId} {m:Nat} : ∀ {l:List (DataW H)} {d:DataW H},d∈l→m∈d.weights P e→m∈DataW.weightsAll P e l
 | d0 :: r,d,hd,hm=>by
  rw [DataW.weightsAll,List.mem_append]
  rcases List.mem_cons.1 hd with rfl | hd
  ·exact .inl hm
  ·exact .inr (weights_all_mem hd hm)
theorem trod_term {H:Type} {enc:TypeId × Value→H} {W:World} {sp:Nat→Bool} (fuel:Nat):∀ (cs:List Value) (x:DataW H × List MemPlace),DataW.trod enc Tryz.prog W 0 sp true fuel 26 cs=some x→(∀ m∈x.1.weights Tryz.prog 26,m≤reachBytes) →
  ∃ t sl,cs=Ht.cells6 t sl∧TAtP W (fun b=>b<W.heap.size) t sl∧Fits t:=by
 induction fuel using Nat.strongRecOn with
 | _ fuel ih=>
  intro cs x h hw
  obtain ⟨y0,y1,y2,y3,y4,y5,n,rfl,hx,hl,g0,g1,g2,g3,g4,g5⟩:=trod_six Tryz.underlying26 h
  rw [cellsTerm] at hl
  obtain ⟨c0,c1,c2,c3,c4,c5,rfl⟩:=list6 hl
  have e9:Tryz.prog.cellsOf 9=1:=by kernel_rfl
  have e3:Tryz.prog.cellsOf 3=1:=by kernel_rfl
  have e6:Tryz.prog.cellsOf 23=1:=by kernel_rfl
  have e7:Tryz.prog.cellsOf 24=1:=by kernel_rfl
  obtain ⟨u0,k0,_,w0⟩:=DataW.trod_int Tryz.underlying3 g0
  obtain ⟨s1,k1,hy1,hs1⟩:=DataW.trod_string Tryz.underlying9 g1
  obtain ⟨s2,k2,_,hs2⟩:=DataW.trod_string Tryz.underlying9 g2
  obtain ⟨u3,k3,_,w3⟩:=DataW.trod_int Tryz.underlying23 g3
  obtain ⟨u4,k4,_,w4⟩:=DataW.trod_int Tryz.underlying3 g4
  simp [e9] at k1 k2
  simp [e3] at k0 k4
  simp [e6] at k3
  subst k0 k1 k2 k3 k4
  simp [e7] at g5
  have hw5:∀ m∈y5.1.weights Tryz.prog 24,m≤reachBytes:=by
   intro m hm
   refine hw m ?_
   rw [hx,DataW.weights,Tryz.underlying26]
   exact DataW.weights_mem_each (j:=5) rfl rfl m hm
  have hw1:s1.data.toList.length≤4611686018427387904:=by
   have h1:=hw s1.data.toList.length (by
    rw [hx,DataW.weights,Tryz.underlying26]
    exact DataW.weights_mem_each (j:=1) rfl rfl _ (by rw [hy1];simp [DataW.weights]))
   unfold reachBytes at h1
   omega
  have hok:∀ ts,okF (.mk u0 s1.data.toList s2.data.toList u3 u4 ts):=fun ts=>⟨by simpa [Tm.n] using hs1,by simpa [Tm.m] using hs2,u64_of_wf w3,i64_of_wf w4,i64_of_wf w0⟩
  rcases DataW.trod_slice Tryz.underlying24 g5 with ⟨e1,_⟩ | ⟨a,len,cap,elems,rest,m,rfl,e1,hx5,_,hlc,hcm,hlen2,hel,_⟩
  ·simp at e1
   subst e1
   refine ⟨.mk u0 s1.data.toList s2.data.toList u3 u4 [],.slice none 0 0,rfl,?_,Fits.iff.2 ⟨hw1,fun a ha=>by cases ha⟩⟩
   rw [TAtP.iff]
   exact ⟨none,0,rfl,Nat.le_refl _,by simp [maxLen],Nat.zero_le _,hok [],fun hne=>absurd rfl hne⟩
  ·simp at e1
   subst e1
   rw [hx5] at hw5
   have hsz:len≤maxArgs:=by
    have:=hw5 ((elems.length+rest.length) * 80) (by rw [DataW.weights,Tryz.underlying24,←bytesTerm];simp)
    unfold reachBytes at this
    unfold maxArgs
    omega
   obtain ⟨V,hV⟩:=choose_lt (α:=Tm) (n:=len) (p:=fun i y=>∃ sl,(∀ k,k<6→W.cell? (a.add (i * 6+k))=(Ht.cells6 y sl)[k]?)∧TAtP W (fun b=>b<W.heap.size) y sl∧Fits y) (fun i hi=>by
    have h1:=hel i hi
    rw [List.getElem?_eq_getElem (by omega),Option.bind_eq_some_iff] at h1
    obtain ⟨cs',h2,h3⟩:=h1
    obtain ⟨t,sl,rfl,ht,hft⟩:=ih m (by omega) cs' _ h3 (fun q hq=>hw5 q (by
     rw [DataW.weights,Tryz.underlying24]
     refine List.mem_cons_of_mem _ (List.mem_append_left _ (weights_all_mem (List.mem_map.2 ⟨_,List.getElem_mem _,rfl⟩) hq))))
    refine ⟨t,sl,fun k hk=>?_,ht,hft⟩
    rw [cellsTerm] at h2
    have h4:=(World.cells?_some h2).2.2 k hk
    rw [←add_add,h4])
   refine ⟨.mk u0 s1.data.toList s2.data.toList u3 u4 ((List.range len).map V),.slice (some a) len cap,rfl,?_,Fits.iff.2 ⟨hw1,fun y hy=>by
    obtain ⟨i,hi,rfl⟩:=List.mem_map.1 hy
    obtain ⟨_,_,_,hf⟩:=hV i (by simpa using hi)
    exact hf⟩⟩
   rw [TAtP.iff]
   refine ⟨some a,cap,by simp [Tm.as],by simpa [Tm.as] using hlc,hcm,by simpa [Tm.as] using hsz,hok _,fun hne=>?_⟩
   have hn0:0<len:=Nat.pos_of_ne_zero (fun e=>hne (by subst e;rfl))
   obtain ⟨sl0,hc0,_⟩:=hV 0 hn0
   obtain ⟨b,o,rfl,hb⟩:=spot_none (hc0 0 (by omega))
   refine ⟨b,o,rfl,hb,fun i x hx=>?_⟩
   obtain ⟨hi,e⟩:=List.getElem?_eq_some_iff.1 hx
   have hin:i<len:=by simpa [Tm.as] using hi
   simp only [Tm.as,List.getElem_map,List.getElem_range] at e
   obtain ⟨sl,hc,ht,_⟩:=hV i hin
   rw [←e]
   exact ⟨sl,fun j hj=>by rw [←hc j hj,addr_add,Nat.add_assoc],ht⟩
theorem open_Term {H:Type} {enc:TypeId × Value→H} {W:World} {base:Nat} {v:Value} {d:DataW H} {p:List MemPlace} (hval:Value.okWide Tryz.prog W .any base 26 v)
  (h:DataW.Trod enc Tryz.prog W 0 (fun _=>true) true 26 v d p) (hw:∀ m∈d.weights Tryz.prog 26,m≤reachBytes):∃ t sl,v=valT t sl∧TAt W W.heap.size t sl∧Fits t:=by
 obtain ⟨cs,rfl,hsz⟩:=okWide_struct Tryz.underlying26 hval
 obtain ⟨fuel,hf⟩:=h
 obtain ⟨t,sl,e,ht,hft⟩:=trod_term fuel _ _ hf hw
 refine ⟨t,sl,?_,ht,hft⟩
 have e2:cs.toList=Ht.cells6 t sl:=by simpa [Value.cells] using e
 show Value.agg cs = .agg (Ht.cells6 t sl).toArray
 rw [←e2]
theorem arg_weights {H:Type} {d:DataW H} {l:List (DataW H)} {ts:List TypeId} {j:Nat} {t:TypeId} (hw:(DataW.weightsEach Tryz.prog ts l).all (· ≤ reachBytes)=true) (ht:ts[j]?=some t) (hd:l[j]?=some d):∀ m∈d.weights Tryz.prog t,m≤reachBytes:=fun m hm=>by
 have:=List.all_eq_true.1 hw m (DataW.weights_mem_each ht hd m hm)
 simpa using this
end
section
open Go.ChangeShapes Go.WideShapes Go.ChangeAt Go.RowKit Go.Joins Hb Ht Hf
theorem laidK:laidOutB Tryz.prog=true:=by kernel_rfl
section
variable {H:Type} {enc:TypeId × Value→H} {P:Program}
theorem args_stay (hl:laidOutB P=true) {W W':World} (hb:Below W.heap.size W W'):∀ (ts:List TypeId) (vs:List Value) (ds:List (DataW H)) (ps:List MemPlace),
  (∀ t∈ts,P.readableRec t=true∧t<P.types.size)→DataW.TrodAll enc P W 0 (fun _=>true) true ts vs ds ps→(∀ x∈ps,x.block<W.heap.size) →
  ∀ sp:Nat→Bool,(∀ x∈ps,sp x.block=true)→DataW.TrodAll enc P W' 0 sp true ts vs ds ps
 | [],vs,ds,ps,_,h,_,_,_=>by
  cases vs <;> cases ds <;> simp [DataW.TrodAll] at h ⊢
  exact h
 | t :: ts,vs,ds,ps,hr,h,hlt,sp,hs=>by
  obtain ⟨v,vs',d,ds',p,q,rfl,rfl,rfl,h1,h2⟩:=trodAll_cons h
  have hp:∀ x∈p,x.block<W.heap.size:=fun x hx=>hlt x (List.mem_append_left _ hx)
  have hq:∀ x∈q,x.block<W.heap.size:=fun x hx=>hlt x (List.mem_append_right _ hx)
  exact trodAll_cons_mk (WideElems.Trod_stays hl (hr t (by simp)).1 (hr t (by simp)).2 h1 (fun x hx=>hb.same (hp x hx)) (fun x hx=>hs x (List.mem_append_left _ hx)))
   (args_stay hl hb ts vs' ds' q (fun t ht=>hr t (List.mem_cons_of_mem _ ht)) h2 hq sp (fun x hx=>hs x (List.mem_append_right _ hx)))
theorem law_end {f:Func} {s:ChangeSpec} {fresh handsOn again:Bool} {W W':World} {args:Array Value} {ds gs:List (DataW H)} {before:List MemPlace} {bt:TypeId}
  (hl:laidOutB P=true) (hr:∀ t∈f.params.toList,P.readableRec t=true∧t<P.types.size) (hres:f.resultTypes = #[bt]) (hbt:P.underlying bt=some .bool)
  (hv:s.vars = []) (hW:DataW.Whole enc P f.params.toList s.vars false W args.toList ds gs before) (hfn:s.fn H (ds ++ gs) = { results:=[.lit (.bool true)],args:=ds }) (hb:Below W.heap.size W W') :
  s.post enc P f false fresh handsOn again W args (.bool true) W':=by
 have hlt:∀ p∈before,p.block<W.heap.size:=fun p hp=>hW.lt p hp
 have hW2:=hW
 obtain ⟨p,q,hA,hV,rfl,hz,_⟩:=hW2
 rw [hv] at hV
 obtain ⟨rfl,rfl⟩:=trodVars_none hV
 rw [List.append_nil] at *
 have hst:=args_stay hl hb _ _ _ _ hr hA hlt
 have hR:∀ (b:Nat) (sp:Nat→Bool) (hd:Bool),DataW.TrodAll enc P W' b sp hd f.resultTypes.toList ((Value.bool true).resultList f.resultTypes.size) (s.fn H ds).results []:=by
  intro b sp hd
  rw [hfn,hres]
  exact ⟨[],[],shut_bool hbt true,rfl,rfl⟩
 refine ⟨ds,[],p,[],p,[],by simpa using hW,by simpa using hR _ _ _,?_,?_,World.keptBut_mono (fun x hx=>⟨hx,.inr (.inl hx)⟩) (hb.frame (· ∈ p)),fun _=>⟨?_,[.lit (.bool true)] ++ ds,[],p,⟨p,[],?_,?_,by simp,?_,fun h=>by cases h⟩,fun x hx _=>hx⟩⟩
 ·rw [List.append_nil,hfn];exact hst _ (fun x hx=>by simpa using hlt x hx)
 ·rw [List.append_nil,hfn,hv];rfl
 ·intro j t r ht hj
  rw [hres] at ht hj
  cases j with
  | zero=>
   simp at ht hj
   subst ht
   obtain rfl:r = .bool true:=by simpa [Value.resultList] using hj.symm
   exact okWide_bool_mk hbt true
  | succ j=>simp at ht
 ·have h1:=hR 0 (fun _=>true) true
  rw [hfn] at h1
  have:=trodAll_append (hst (fun _=>true) (fun _ _=>rfl)) h1
  simpa using this
 ·rw [hv];rfl
 ·intro b off hp
  rw [hb.frozen (hlt _ hp)]
  exact hz b off hp
end
theorem dcgOwn:ownKnob Tryz.prog.godebug=none:=by kernel_rfl
noncomputable def dcgWorld (os:Os):World:=World.laidAll Tryz.prog os Rows.fddomTermsUptoRow.laid
theorem dcgWorld_met (os:Os) (args:Array Value):laidMetH Tryz.prog Rows.fddomTermsUptoRow.laid ((dcgWorld os).forCall (fun _ _=>0) ⟨#[],args,[]⟩).memory:=by
 rw [MakeChecks.laidMetH_plain _ _ _ (by kernel_rfl)]
 exact laidMet_laidAll _ (by kernel_rfl) (by kernel_rfl)
theorem vtabs_laid {W:World} (h:laidMetH Tryz.prog Rows.fddomTermsUptoRow.laid W):VTabs W:=
 utf8Tabs_of_readsT (U8Types.of196 Tryz.laysValid) ⟨by kernel_rfl,by kernel_rfl,by kernel_rfl,by kernel_rfl,by kernel_rfl,by kernel_rfl,by kernel_rfl⟩ (Lib.laidMet.reads h (.tail _ (.head _))) (Lib.laidMet.reads h (.head _))
theorem terms_res:Tryz.f3.resultTypes = #[4]:=by kernel_rfl
theorem terms_contract (H:Type) (enc:TypeId × Value→H) (W:World) (base:Nat) (args:Array Value) (ds gs:List (DataW H)) (before:List MemPlace)
  (hval:∀ (j:Nat) t v,Tryz.f3.params[j]?=some t→args[j]?=some v→Value.okWide Tryz.prog W .any base t v)
  (hW:DataW.Whole enc Tryz.prog Tryz.f3.params.toList Rows.fddomTermsSpec.vars false W args.toList ds gs before) (hwt:(DataW.weightsEach Tryz.prog (Tryz.f3.params.toList ++ []) (ds ++ gs)).all (· ≤ reachBytes)=true) (hL:laidMetH Tryz.prog Rows.fddomTermsUptoRow.laid W) (hk:Rows.uptoSmall H (ds ++ gs)=true) :
  Calls Tryz.prog 3 args W fun e W'=>∃ v,e = .returned v∧Rows.fddomTermsSpec.post enc Tryz.prog Tryz.f3 false true false false W args v W':=by
 have hW':=hW
 obtain ⟨p,q,hA0,hV,rfl,hfz,hnd⟩:=hW
 have hA:DataW.TrodAll enc Tryz.prog W 0 (fun _=>true) true Tryz.f3.params.toList args.toList ds p:=hA0
 rw [Tryz.params3] at hA hval hwt
 obtain ⟨v0,vs0,d0,ds0,p0,q0,hargs,rfl,rfl,h0,r0⟩:=trodAll_cons hA
 obtain ⟨v1,vs1,d1,ds1,p1,q1,rfl,rfl,rfl,h1,r1⟩:=trodAll_cons r0
 obtain ⟨rfl,rfl,rfl⟩:=trodAll_nil r1
 obtain rfl:args = #[v0,v1]:=by cases args;simp_all
 obtain ⟨rfl,rfl⟩:=trodVars_none hV
 obtain ⟨A0,n0,c0,l0,e0,ha0,hz0,b0,k0⟩:=open_Ranges_b (hval 0 22 v0 rfl rfl) h0
 subst e0
 obtain ⟨t1,sl1,e1,ha1,hf1⟩:=open_Term (hval 1 26 v1 rfl rfl) h1 (arg_weights (j:=1) hwt rfl rfl)
 subst e1
 have m0:=bulk_in hk (d:=d0) (by simp)
 have hwalk:=terms_walk ha0 (fun p hp=>⟨Nat.le_trans (k0 p hp).1 m0,Nat.le_trans (k0 p hp).2 m0⟩) (Nat.le_trans b0 m0) ha1 hf1 (vtabs_laid hL).ok
 refine hwalk.mono fun e W' ⟨he,hb⟩=>?_
 subst he
 refine ⟨_,rfl,law_end (bt:=4) laidK (fun t ht=>?_) terms_res Tryz.underlying4 rfl hW' rfl hb⟩
 rw [Tryz.params3] at ht
 simp at ht
 rcases ht with rfl | rfl
 all_goals exact ⟨by kernel_rfl,of_decide_eq_true (by kernel_rfl)⟩
theorem terms_reads (os:Os) {H:Type} (enc:TypeId × Value→H):∃ places,DataW.whole enc Tryz.prog ((dcgWorld os).forCall (fun _ _=>0) ⟨#[],#[.slice none 0 0,.agg Qz],[]⟩).memory Tryz.f3.params.toList Rows.fddomTermsSpec.vars false #[Value.slice none 0 0,Value.agg Qz].toList 8 =
  some ([.nil,.agg [.lit (.int .i64 0),.lit (.string []),.lit (.string []),.lit (.int .u64 0),.lit (.int .i64 0),.nil]],[],places):=
 ⟨[],by kernel_rfl⟩
theorem terms_lifted (os:Os) (started:os.Started) (H:Type) (enc:TypeId × Value→H) (F:Stop.Interp) :
  ReturnsInHanded {} Tryz.checked os 3 .any ((Rows.OpenSpec.upto Rows.fddomTermsSpec).preRow enc Tryz.prog Tryz.f3 Rows.fddomTermsUptoRow.domain false Rows.fddomTermsUptoRow.laid) (((Rows.OpenSpec.upto Rows.fddomTermsSpec).at F).post enc Tryz.prog Tryz.f3 false true false false):=by
 obtain ⟨places,hx⟩:=terms_reads os enc
 refine returnsInHanded_of_row (C:=Tryz.checked) (s:=Rows.OpenSpec.upto Rows.fddomTermsSpec) dcgOwn started (by kernel_rfl) Tryz.func3
  (witness_row_atRef (enc:=enc) (C:=Tryz.checked) false (dcgWorld os) #[.slice none 0 0,.agg Qz] (World.laidAll_os _ _ _) (by kernel_rfl) (by kernel_rfl) (by kernel_rfl)
   (OpenSpec.preRow_of_cond 8 hx (by kernel_rfl) (fun k hk=>by cases hk;rfl) (by kernel_rfl) (dcgWorld_met os _))) ?_
 intro W base args ds gs before hval hW _ hk hwt hL _ _
 exact terms_contract H enc W base args ds gs before hval hW hwt hL (hk _ rfl)
theorem terms_said:Rows.FddomTermsUptoSaid:=
 OpenClaim.holds_of_cond 3 Tryz.f3 rfl rfl rfl rfl rfl rfl rfl ⟨rfl,rfl,rfl,rfl,rfl⟩ rfl rfl rfl rfl rfl (by kernel_rfl) Tryz.func3 (by kernel_rfl)
  (of_decide_eq_true (by kernel_rfl)) (by unfold Func.isWrapper;first | (rw [if_pos (by decide +kernel)];kernel_rfl) | (rw [if_neg (by decide +kernel)];exact ⟨rfl,rfl⟩))
  (fun os started H enc _ F=>by rw [OpenClaim.pre_eq_preRow];exact terms_lifted os started H enc F)
theorem terms_plain (f:FuncId) (fn:Func) (hf:Tryz.pinned.checked.prog.funcNamed "hornbeam/hornbeamlaw09.FddomTerms" = some f) (hfn:Tryz.pinned.checked.prog.funcs[f]?=some fn) :
  true=Tryz.pinned.checked.prog.looks []∧∀ (j:Nat) t,fn.params[j]?=some t→Tryz.pinned.checked.prog.wantsStandIn t=false:=by
 obtain rfl:f=3:=Option.some.inj ((show Tryz.prog.funcNamed "hornbeam/hornbeamlaw09.FddomTerms" = some 3 by kernel_rfl).symm.trans hf) |>.symm
 obtain rfl:fn=Tryz.f3:=(Option.some.inj (Tryz.func3.symm.trans hfn)).symm
 refine ⟨by kernel_rfl,fun j t ht=>?_⟩
 rw [Tryz.params3] at ht
 have hm:t ∈ [22,26]:=by simpa using Array.mem_of_getElem? ht
 have hall:([22,26].all fun u=>!Tryz.prog.wantsStandIn u)=true:=by kernel_rfl
 exact (show Tryz.prog.wantsStandIn t=false by simpa using List.all_eq_true.1 hall t hm)
theorem terms_card:Rows.FddomTermsUptoCardSaid:=
 Claim7.holds_tied_plain_at .later [] _ _ _ _ terms_said (fun _ h=>by cases h) (by kernel_rfl) (fun _ h=>by cases h) fddomTermsUpto_row_tie rfl ⟨rfl,rfl⟩ (by kernel_rfl) rfl terms_plain (by kernel_rfl)
end
end Go.Proofs.YtpikjceodmepiaaGreatDoor
