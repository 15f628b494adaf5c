import Derived.Test.YtpikjceodmepiaaGreatDoorV6
import Derived.Test.YtpikjceodmepiaaGreatDoorV9
import Derived.Test.YtpikjceodmepiaaGreatDoorV0
set_option maxRecDepth 1000000
set_option maxHeartbeats 64000000
set_option linter.unusedVariables false
set_option linter.unusedSimpArgs false
namespace Go.Proofs.YtpikjceodmepiaaGreatDoor
open Go.RowKit Hb Hf
attribute [local go_sem ↓] Go.wp_at_zero Go.wp_at_succ
theorem pow128:W ^ 128=2 ^ 4096:=by
 show 4294967296 ^ 128=2 ^ 4096
 decide +kernel
theorem short_of {x m:Nat} (h:x<W ^ m) (hm:m≤128):¬4096<blen x:=by
 have h1:x<2 ^ 4096:=by rw [←pow128];exact Ql h (Nat.pow_le_pow_right (by decide) hm)
 have h2:blen x≤4096:=blen_le_iff.2 h1
 omega
theorem lng_of {l:List Nat} (hd:Dig W l) (h:l.length≤128):lng l=false:=decide_eq_false (short_of (nv_lt hd) h)
theorem long_mul {l m:List Nat} (hl:Dig W l) (hm:Dig W m) (na nb:Bool) (h:l.length+m.length≤128):tooLong (ival na l * ival nb m)=false:=by
 refine decide_eq_false (short_of ?_ h)
 have h1:=lt_of_digs_length (b:=W) (by decide) (mul_len hl hm rfl rfl na nb)
 exact h1
def TimesPost (w:World) (b:Bd) (n:Int) (e:Ending) (w':World):Prop:=
 ∃ d:Bd,e = .returned d.v∧d.At w' (Fr w.heap.size w')∧d.Nrm∧d.ed=mulE n b.ed∧Below w.heap.size w w'
theorem times_ok {b:Bd} {P:Nat→Prop} {w:World} {Gs Gn Gb nn nc:Nat} {ng:Bool} {nA:Option Addr} {nl:List Nat} {sg n:Int} (hb:b.At w P) (hP:∀ x,P x→x<w.heap.size) (hN:b.Nrm)
  (hs:w.cell? ⟨Gs,0,none⟩=some (.int .i64 sg)) (hsl:Gs<w.heap.size) (hsg:(0<n∧sg=1)∨(n<0∧sg = -1)) (hn:IBox w Gn ng (.slice nA nn nc)) (hl:LimP w (fun x=>x<w.heap.size) nA nn nc nl) (hv:ival ng nl=n) (hm:b.n+nn≤128) :
  Calls Tryz.prog 59 #[b.v,.pointer (some ⟨Gs,0,none⟩),.pointer (some ⟨Gn,0,none⟩),.pointer (some ⟨Gb,0,none⟩)] w (TimesPost w b n):=by
 have hG:=((Below.refl w.heap.size w).alloc (Nat.le_refl _) (.cells b.vals.toArray 67)).alloc (by simp) (.cells #[.int .i64 0,.bool false,.slice none 0 0] 67)
 have e1:=EBox.new w b
 have e2:EBox ((w.alloc (.cells b.vals.toArray 67)).alloc (.cells #[.int .i64 0,.bool false,.slice none 0 0] 67)) (w.alloc (.cells b.vals.toArray 67)).heap.size (ib 0):=EBox.new (w.alloc (.cells b.vals.toArray 67)) (ib 0)
 have e3:=(EBox.below e1 (w':=(w.alloc (.cells b.vals.toArray 67)).alloc (.cells #[.int .i64 0,.bool false,.slice none 0 0] 67)) (Qb))
 rw [World.size_alloc] at e2
 have i3:=hn.below hG
 have c3:=(hG.cell (p:=⟨Gs,0,none⟩) hsl).trans hs
 have HE:=Qh (Qa e3 e2)
 have HG:=Qh hG
 have HIn:=Qh i3
 obtain ⟨x0,x1,x2⟩:=e3.cells
 obtain ⟨y0,y1,y2⟩:=e2.cells
 obtain ⟨f0,f1,f2⟩:=e2.frozens
 obtain ⟨k0,k1⟩:=i3.cells
 have HNr:=Qh hN
 have htr:=hN.tri
 unfold Bd.Tri at htr
 by_cases h0:b.i=0
 ·have HSl:=Qh (hb.lim.sl hP)
  have HNl:=Qh (hl.sl (B:=w.heap.size) (fun _ h=>h))
  have HD:=Qh (show mulE n b.ed = .num (ival b.g b.l * n) by rw [Bd.ed_zero h0];rfl)
  have HTl:=Qh (show tooLong (ival b.g b.l * ival ng nl)=false from long_mul hb.lim.dig hl.dig _ _ (by rw [hb.lim.len,hl.len];exact hm))
  have HLg:=Qh (show lng b.l=false∧lng nl=false from ⟨lng_of hb.lim.dig (by rw [hb.lim.len];omega),lng_of hl.dig (by rw [hl.len];omega)⟩)
  have HM:=Qh (fun w1 (h1:Below w.heap.size w w1)=>show Calls Tryz.prog 60 #[.agg #[.bool b.g,.slice b.A b.n b.c],.agg #[.bool ng,.slice nA nn nc]] w1 (PostC w1 (ival b.g b.l * n) 0) from by
   have h:=Mul_any b.g ng (HSl.out.below h1 (Nat.le_refl _)) (HNl.out.below h1 (Nat.le_refl _)) (by omega) h1.size h1.size
   rw [HTl.out,HLg.out.1,HLg.out.2,hv] at h
   exact h)
  obtain ⟨bi,bg,bA,bn,bc,bl⟩:=b
  simp only at h0
  subst h0
  simp only [Bd.v,Bd.vals] at *
  clear hb hP hN htr hn hl hm hG e1 e2 e3 hv HTl HLg hs i3
  generalize ival bg bl * n=Z at *
  go_enter Tryz.func59,Tryz.ntmps59
  go_wp2_with (go_at_call 60;(with_reducible refine (HM.out _ HG.out).mono ?_);rintro e w3 ⟨v,rfl,hr,_,hb3⟩;obtain ⟨A3,c3,rfl,hat⟩:=(hr rfl).nb;have HB3:=Qh hb3;have HAt:=Qh hat;have HX:=Qh ((EBox.below (HE.out.2.below hb3) ((Below.refl w3.heap.size w3).alloc (Nat.le_refl _) (.cells #[.bool (decide (Z<0)),.slice A3 (digs W Z.natAbs).length c3] 56))));clear hr hat hb3 y0 y1 y2 f0 f1 f2;obtain ⟨y0,y1,y2⟩:=HX.out.cells;obtain ⟨f0,f1,f2⟩:=HX.out.frozens)
  have HS:=Qh (HX.out.set3 (nb Z A3 c3))
  have HBw:=Qh ((Qt HG.out HB3.out).alloc (Nat.le_trans HG.out.size HB3.out.size) (.cells #[.bool (decide (Z<0)),.slice A3 (digs W Z.natAbs).length c3] 56))
  have hZ:=HG.out.size
  have HA4:=Qh ((HAt.out.keep (fun x hx=>⟨hx,((Below.refl w3.heap.size w3).alloc (Nat.le_refl _) (.cells #[.bool (decide (Z<0)),.slice A3 (digs W Z.natAbs).length c3] 56)).block x hx.2⟩):Bd.At _ (Fr _ w3) (nb Z A3 c3)))
  have hz4:w3.heap.size+1=(w3.alloc (.cells #[.bool (decide (Z<0)),.slice A3 (digs W Z.natAbs).length c3] 56)).heap.size:=by simp
  have hz2:w.heap.size+2≤((w.alloc (.cells #[.int .i64 0,.bool bg,.slice bA bn bc] 67)).alloc (.cells #[.int .i64 0,.bool false,.slice none 0 0] 67)).heap.size:=by simp
  have hz3:=HB3.out.size
  simp only [nb] at HS
  generalize (((w3.alloc (.cells #[.bool (decide (Z<0)),.slice A3 (digs W Z.natAbs).length c3] 56)).setCell ⟨w.heap.size+1,0,none⟩ (.int .i64 0)).setCell ⟨w.heap.size+1,1,none⟩ (.bool (decide (Z<0)))).setCell ⟨w.heap.size+1,2,none⟩ (.slice A3 (digs W Z.natAbs).length c3)=w6 at *
  obtain ⟨r0,r1,r2⟩:=HS.out.1.cells
  have hz:=HS.out.2.size
  refine bodyPost_ret (v:=(nb Z A3 c3).v) (by simp [results,Tryz.results59,go_sem,r0,r1,r2];rfl) rfl ⟨nb Z A3 c3,rfl,?_,nb_nrm _ _ _,by rw [HD.out,nb_ed],HBw.out.grown HS.out.2 HBw.out.size (Qg (by omega))⟩
  exact HA4.out.keep fun x hx=>⟨⟨by have:=hx.1;omega,by have:=hx.2;omega⟩,HS.out.2.block x (by have:=hx.2;omega) (fun e=>by injection e with e;have:=hx.1;omega)⟩
 ·have HI0:=Qh h0
  obtain ⟨bi,bg,bA,bn,bc,bl⟩:=b
  simp only at h0 htr
  have hne:(bi==0)=false:=beq_eq_false_iff_ne.2 h0
  obtain ⟨q,hq⟩:∃ q,bi * sg=q:=⟨_,rfl⟩
  have hq1:q = -1∨q=1:=by
   rw [←hq]
   rcases hsg with ⟨_,h⟩ | ⟨_,h⟩ <;> rcases htr with h2 | h2 | h2 <;> subst h <;> subst h2 <;> simp at *
  have hw:IntKind.i64.wrap q=q:=by rcases hq1 with h | h <;> subst h <;> rfl
  have HD:=Qh (show (ib q).ed=mulE n (Bd.mk bi bg bA bn bc bl).ed by
   rcases hsg with ⟨hn1,h⟩ | ⟨hn1,h⟩ <;> rcases htr with h2 | h2 | h2 <;> subst h <;> subst h2 <;> simp at hq h0 <;> subst hq <;> simp [Bd.ed,ib,mulE,hn1,show ¬(0<n∧n<0) by omega] <;> omega)
  have HQ:=Qh hq1
  simp only [Bd.v,Bd.vals] at *
  clear hb hP hN htr hn hl hm hG e1 e2 e3 hv hs i3 hsg hq1 h0
  go_enter Tryz.func59,Tryz.ntmps59
  go_wp2
  have HX:=EBox.new (w.alloc (.cells #[.int .i64 bi,.bool bg,.slice bA bn bc] 67)) (ib q)
  rw [World.size_alloc] at HX
  obtain ⟨r0,r1,r2⟩:=HX.cells
  simp only [ib,Bd.vals] at r0 r1 r2
  refine bodyPost_ret (v:=(ib q).v) (by simp [results,Tryz.results59,go_sem,r0,r1,r2,Bd.v,Bd.vals,ib]) rfl ⟨ib q,rfl,ib_at _ _ (by have:=HQ.out;omega),ib_nrm HQ.out,HD.out,((Below.refl w.heap.size w).alloc (Nat.le_refl _) _).alloc (by simp) _⟩
def ScalePost (w:World) (L:List R) (n:Int) (K M:Nat) (e:Ending) (w':World):Prop:=
 ∃ A m c qs N,NF N∧(∀ z,Hf.mem z N↔Hf.mem z L)∧e = .returned (.tuple #[.slice A m c,.int .i64 0])∧SOut w' w.heap.size A m c qs K M∧(∀ z,Hf.mem z (qs.map edsR)↔Hf.mem z (N.map (scR n)))∧Below w.heap.size w w'
abbrev V3 (w:World) (A A':Option Addr) (n c n' c':Nat) (g:Bool):World:=
 (((w.alloc (.cells #[.slice A n c] 22)).alloc (.cells #[.bool g,.slice A' n' c'] 56)).alloc (.cells #[.bool g,.slice A' n' c'] 56)).alloc (.cells #[.pointer (some ⟨w.heap.size,0,none⟩)] 89)
theorem V3_facts (w:World) (A A':Option Addr) (n c n' c':Nat) (g:Bool):Below w.heap.size w (V3 w A A' n c n' c' g)∧(V3 w A A' n c n' c' g).heap.size=w.heap.size+4∧VBox (V3 w A A' n c n' c' g) w.heap.size A n c∧IBox (V3 w A A' n c n' c' g) (w.heap.size+1) g (.slice A' n' c') ∧
  IBox (V3 w A A' n c n' c' g) (w.heap.size+2) g (.slice A' n' c')∧(V3 w A A' n c n' c' g).cell? ⟨w.heap.size+3,0,none⟩=some (.pointer (some ⟨w.heap.size,0,none⟩)):=by
 refine ⟨(((Qb).alloc (by simp) _).alloc (by simp;omega) _).alloc (by simp;omega) _,by simp,?_,?_,?_,?_⟩
 ·have h0:VBox (w.alloc (.cells #[.slice A n c] 22)) w.heap.size A n c:=heap_alloc_new w _
  exact ((((Qb).alloc (by simp) _).alloc (by simp) _).block w.heap.size (by simp)).trans h0
 ·have h0:=heap_alloc_new (w.alloc (.cells #[.slice A n c] 22)) (.cells #[.bool g,.slice A' n' c'] 56)
  rw [World.size_alloc] at h0
  exact (((Qb).alloc (by simp) _).block (w.heap.size+1) (by simp)).trans h0
 ·have h0:=heap_alloc_new ((w.alloc (.cells #[.slice A n c] 22)).alloc (.cells #[.bool g,.slice A' n' c'] 56)) (.cells #[.bool g,.slice A' n' c'] 56)
  simp only [World.size_alloc] at h0
  exact ((Qb).block (w.heap.size+2) (by simp)).trans h0
 ·have:=heap_alloc_new (((w.alloc (.cells #[.slice A n c] 22)).alloc (.cells #[.bool g,.slice A' n' c'] 56)).alloc (.cells #[.bool g,.slice A' n' c'] 56)) (.cells #[.pointer (some ⟨w.heap.size,0,none⟩)] 89)
  simp only [World.size_alloc] at this
  rw [cell_of_row _ _ 0 _ _ (0,0) this]
  rfl
theorem V3_take {w:World} {P:Nat→Prop} {A A':Option Addr} {n c n' c' K M:Nat} {g:Bool} {l:List Nat} {ps:List Rg} (h:SIn w P A n c ps K M) (hl:LimP w P A' n' c' l) (hn:n'≤128) (hP:∀ b,P b→b<w.heap.size) (hK:K≤1000) (hM:M≤128) :
  Calls Tryz.prog 35 #[.slice (some ⟨w.heap.size+1+1,0,none⟩) 1 1,.slice (some ⟨w.heap.size+1+1+1,0,none⟩) 1 1] (V3 w A A' n c n' c' g) fun e w'=>e = .returned (.int .i64 0)∧Below w.heap.size w w'∧w.heap.size+4≤w'.heap.size∧IBox w' (w.heap.size+1) g (.slice A' n' c') ∧
   ∃ A1 n1 c1 qs,VBox w' w.heap.size A1 n1 c1∧SOut w' (w.heap.size+4) A1 n1 c1 qs K M∧(∀ z,Hf.mem z (qs.map edsR)↔Hf.mem z (ps.map edsR)):=by
 obtain ⟨hb,hz,hv,hi,hi2,hc⟩:=V3_facts w A A' n c n' c' g
 have hk:=h.keep (Q:=P) (fun b hb2=>⟨hb2,hb.block b (hP b hb2)⟩)
 have hl2:=hl.keep (Q:=P) (fun b hb2=>⟨hb2,hb.block b (hP b hb2)⟩)
 generalize V3 w A A' n c n' c' g=W at *
 have hin:InIn W (some ⟨w.heap.size+2,0,none⟩) [⟨g,A',n',c',l⟩]:=⟨fun j x hx=>by
  match j with
  | 0=>
   cases hx
   exact ⟨_,0,rfl,by omega,hi2.cells⟩
  | j+1=>simp at hx,fun x hx=>by
  rw [List.mem_singleton.1 hx]
  exact ⟨hl2.sl (fun b hb2=>by have:=hP b hb2;omega),by simp only;omega⟩⟩
 refine (take1 (r:=1) (ci:=1) hk (fun b hb2=>⟨by have:=hP b hb2;omega,by have:=hP b hb2;omega⟩) hv hc (by omega) (by omega) hin (fun x hx=>by rw [List.mem_singleton.1 hx];exact lng_of hl.dig (by rw [hl.len];exact hn)) rfl (by omega) hK hM).mono fun e w' ⟨he,hch,hd⟩=>?_
 have hs3:=hch.size
 rw [hz] at hs3 hd
 exact ⟨he,hb.trans (hch.below (by omega) (fun ad had=>by simp at had;omega)),hs3,(hch.block (w.heap.size+1) (by omega) (by simp)).trans hi,hd⟩
theorem szE_mul {e:Ed} {l:List Nat} {g:Bool} {z:Int} {n':Nat} (hd:Dig W l) (hl:l.length=n') (hz:ival g l=z):szE (mulE z e)≤szE e+n':=by
 cases e with
 | num x=>
  have h:=mul_len (dig_digs (b:=W) (by decide) x.natAbs) hd rfl hl (decide (x<0)) g
  rw [ival_digs,hz] at h
  exact h
 | lo=>simp only [mulE];split <;> simp [szE]
 | hi=>simp only [mulE];split <;> simp [szE]
theorem eds_step {rs qs:List Rg} {k:Nat} {p q:Rg} {f:R→R} (h:rs.map edsR=((qs.take k).map edsR).map f ++ (qs.drop k).map edsR) (hp:qs[k]?=some p) (hq:edsR q=f (edsR p)) :
  (rs.set k q).map edsR=((qs.take (k+1)).map edsR).map f ++ (qs.drop (k+1)).map edsR:=by
 have hk:=(List.getElem?_eq_some_iff.1 hp).1
 have hd:qs.drop k=p :: qs.drop (k+1):=by
  rw [List.drop_eq_getElem_cons hk]
  congr 1
  exact (List.getElem?_eq_some_iff.1 hp).2
 have hl:(((qs.take k).map edsR).map f).length=k:=by simp;omega
 rw [List.map_set,h,List.set_append_right _ _ (by omega),hl,Nat.sub_self,hd,List.map_cons,List.set_cons_zero,List.take_add_one,hp]
 simp [hq]
section
variable {P:Program} {ops:Array Oper} {Q:Exit→Act→World→Prop} {md:Region.Mode} {S:World→Prop}
theorem wpAnyW_true {st:Nat} : ∀ (fuel:Nat) (listed:Array Bool) (a:Act) (w:World),wpAny P md ops Q fuel listed a w→wpAnyW P md ops Q (fun _=>True) st fuel listed a w
 | 0,_,_,_,h=>h
 | fuel+1,_,_,_,h=>⟨h.1,fun i hi=>wpOp_mono (fun a' w' h'=>⟨fun _=>trivial,wpAnyW_true fuel _ a' w' h'⟩) (h.2 i hi)⟩
theorem wpAnyW_turn {st:Nat} (st':Nat) {fuel:Nat} {listed:Array Bool} {a:Act} {w:World} (h:wpAnyW P md ops Q S st' fuel listed a w):wpAnyW P md ops Q (fun _=>True) st fuel listed a w:=wpAnyW_true _ _ _ _ (wpAny_of_wait _ _ _ _ h)
theorem getD_keep {listed:Array Bool} {i st:Nat} (h:listed.getD st true=true):(listed.setIfInBounds i true).getD st true=true:=by
 by_cases e:i=st
 ·subst e
  rcases Nat.lt_or_ge i listed.size with h' | h'
  ·simp [h']
  ·simp [Array.getElem?_eq_none,h']
 ·rw [getD_set_ne true e];exact h
theorem wpAnyW_past {st:Nat} : ∀ (fuel:Nat) (listed:Array Bool) (a:Act) (w:World),listed.getD st true=true→wpAny P md ops Q fuel listed a w→wpAnyW P md ops Q S st fuel listed a w
 | 0,_,_,_,_,h=>h
 | fuel+1,_,_,_,hl,h=>⟨h.1,fun i hi=>wpOp_mono (fun a' w' h'=>⟨fun e=>(by rw [getD_keep hl] at e;cases e),wpAnyW_past fuel _ a' w' (getD_keep hl) h'⟩) (h.2 i hi)⟩
theorem wpAnyW_sooner {st st' k:Nat} (h1:waitsFor md ops st' k=true) (h2:waitsFor md ops k st=true):∀ (fuel:Nat) (listed:Array Bool) (a:Act) (w:World),listed.getD st' true=false→listed.getD k true=false →
  wpAnyW P md ops Q S st' fuel listed a w→wpAnyW P md ops Q S st fuel listed a w
 | 0,_,_,_,_,_,h=>h
 | fuel+1,listed,a,w,hs,hk,h=>by
  refine ⟨h.1,fun i hi=>wpOp_mono (fun a' w' h'=>?_) (h.2 i hi)⟩
  rcases Bool.eq_false_or_eq_true ((listed.setIfInBounds i true).getD st true) with e | e
  ·exact ⟨fun e2=>(by rw [e] at e2;cases e2),wpAnyW_past fuel _ a' w' e (wpAny_of_wait _ _ _ _ h'.2)⟩
  ·have e0:listed.getD st true=false:=by
    rcases Bool.eq_false_or_eq_true (listed.getD st true) with e1 | e1
    ·rw [getD_keep e1] at e;cases e
    ·exact e1
   have n1:i≠k:=fun x=>not_ready_of_unlisted h2 e0 (x ▸ hi)
   have n2:i≠st':=fun x=>not_ready_of_unlisted h1 hk (x ▸ hi)
   have hs':(listed.setIfInBounds i true).getD st' true=false:=by rw [getD_set_ne true n2];exact hs
   exact ⟨fun _=>h'.1 hs',wpAnyW_sooner h1 h2 fuel _ a' w' hs' (by rw [getD_set_ne true n1];exact hk) h'.2⟩
theorem wp_region_T {id:Nat} {a:Act} {w:World} (st:Nat) (hm:P.follows .mixedOrders=true)
  (h:∀ z,Below w.heap.size w z→z.heap.size=w.heap.size→wpAnyW P .any ops Q (fun _=>True) st ops.size (Array.replicate ops.size false) a z):(Code.region id ops true).wp P Q a w:=
 wp_region_wait _ st hm (h w.drew (Below.refl _ _).drew rfl)
end
theorem sc_drop {rs qs:List Rg} {k:Nat} {q:Rg} (h:rs.drop k=qs.drop k):(rs.set k q).drop (k+1)=qs.drop (k+1):=by
 rw [List.drop_set_of_lt (by omega),←List.drop_drop,←List.drop_drop (l:=qs)]
 first
  | rw [h]
  | (rw [Nat.add_comm,←List.drop_drop,h,List.drop_drop])
structure SC (w:World) (B G n1 c1 n' c':Nat) (g:Bool) (A1 A':Option Addr) (z sg:Int) (qs:List Rg) (k:Nat) (rs:List Rg) (wr:World):Prop where
 bel:Below B w wr
 box:VBox wr B A1 n1 c1
 int:IBox wr (B+1) g (.slice A' n' c')
 sgn:wr.cell? ⟨G,0,none⟩=some (.int .i64 sg)
 bad:wr.cell? ⟨G+1,0,none⟩=some (.int .i64 0)
 lt:G+1<wr.heap.size
 row:RRow wr (B+4) (Fr (B+4) wr) A1 n1 c1 rs
 blk:∀ R,A1=some ⟨R,0,none⟩→R<G
 gd:∀ q∈rs,Gd q
 eds:rs.map edsR=((qs.take k).map edsR).map (scR z) ++ (qs.drop k).map edsR
 same:rs.drop k=qs.drop k
theorem Scale_ok {w:World} {P:Nat→Prop} {A A':Option Addr} {n c n' c' K M:Nat} {g:Bool} {l:List Nat} {ps:List Rg} {z:Int} (h:SIn w P A n c ps K M) (hl:LimP w P A' n' c' l) (hP:∀ b,P b→b<w.heap.size) (hK:K≤1000) (hM:M+n'≤128) (hz:ival g l=z) (hz0:z≠0) :
  Calls Tryz.prog 22 #[.slice A n c,.agg #[.bool g,.slice A' n' c']] w (ScalePost w (ps.map edsR) z K (M+n')):=by
 obtain ⟨B,hB⟩:∃ B,w.heap.size=B:=⟨_,rfl⟩
 have HB:=Qh hB
 have HT:=Qh (V3_take (g:=g) h hl (by omega) hP hK (by omega))
 have HKM:=Qh (Qa hK hM)
 have HP:=Qh hP
 have HL:=Qh hl
 obtain ⟨sg,hsg⟩:∃ sg,z.sign=sg:=⟨_,rfl⟩
 have HZ:=Qh (show (0<z∧sg=1)∨(z<0∧sg = -1) from by
  rw [←hsg]
  rcases Int.lt_trichotomy z 0 with h | h | h
  ·exact .inr ⟨h,Int.sign_eq_neg_one_of_neg h⟩
  ·exact absurd h hz0
  ·exact .inl ⟨h,Int.sign_eq_one_of_pos h⟩)
 have hsgn:(sg==0)=false:=beq_eq_false_iff_ne.2 (by rcases HZ.out with h | h <;> omega)
 have HSg:=Qh (fun w1 (hb:Below B w w1)=>show Calls Tryz.prog 21 #[.agg #[.bool g,.slice A' n' c']] w1 (fun e w'=>e = .returned (.int .i64 sg)∧Gr w1 w') from by
  have hx:=sign_gr g (w:=w1) (B:=w.heap.size) ((hl.sl hP).below (C:=w.heap.size) (by rw [hB];exact hb) (Nat.le_refl _)) (by rw [hB];have:=hb.size;omega)
  rw [hz,hsg] at hx
  exact hx)
 have HV:=Qh hz
 unfold ScalePost
 rw [hB]
 unfold V3 at HT
 rw [hB] at HT
 clear h hl hP hK hM hB hz hsg
 go_enter Tryz.func22,Tryz.ntmps22
 go_wp2_with fail
 rw [HB.out]
 (with_reducible refine HT.out.mono ?_)
 rintro e w1 ⟨rfl,hb1,hz1,hi1,A1,n1,c1,qs,hv1,ho1,hm1⟩
 have HB1:=Qh hb1
 have HZ1:=Qh hz1
 have HI1:=Qh hi1
 have HV1:=Qh hv1
 have HO1:=Qh ho1
 have HM1:=Qh hm1
 obtain ⟨v0,_⟩:=hv1.cell
 obtain ⟨i0,i1⟩:=hi1.cells
 clear hb1 hz1 hi1 hv1 ho1 hm1 HT
 go_wp2_with (go_at_call 21;(with_reducible refine (HSg.out _ HB1.out).mono ?_);rintro e w2 ⟨rfl,hg2⟩;have HG2:=Qh hg2;have HV2:=Qh (show VBox w2 B A1 n1 c1 from (hg2.bel.block B (by have:=HZ1.out;omega)).trans HV1.out);have HV3:=Qh (show VBox ((w2.alloc (.cells #[.int .i64 sg] 3)).alloc (.cells #[.int .i64 0] 31)) B A1 n1 c1 from ((((Below.refl w2.heap.size w2).alloc (Nat.le_refl _) _).alloc (by simp) _).block B (by have:=HV2.out.lt;omega)).trans HV2.out);have v2:=HV3.out.cell.1;clear v0 i0 i1)
 have HC3:=Qh (show Below w2.heap.size w2 ((w2.alloc (.cells #[.int .i64 sg] 3)).alloc (.cells #[.int .i64 0] 31)) from ((Below.refl w2.heap.size w2).alloc (Nat.le_refl _) _).alloc (by simp) _)
 have HBe:=Qh (HB1.out.trans (HG2.out.bel.mono (by have:=HZ1.out;omega)))
 have HSC:=Qh (show SC w B w2.heap.size n1 c1 n' c' g A1 A' z sg qs 0 qs ((w2.alloc (.cells #[.int .i64 sg] 3)).alloc (.cells #[.int .i64 0] 31)) from
  ⟨HBe.out.trans (HC3.out.mono (by have:=HBe.out.size;have:=HB.out;omega)),HV3.out,(HI1.out.below HG2.out.bel).below HC3.out,by
   rw [World.cell?_alloc_past _ _ _ (show w2.heap.size<(w2.alloc (.cells #[.int .i64 sg] 3)).heap.size by simp)]
   have:=heap_alloc_new w2 (.cells #[.int .i64 sg] 3)
   rw [cell_of_row _ _ 0 _ _ (0,0) this]
   rfl,by
   have:=heap_alloc_new (w2.alloc (.cells #[.int .i64 sg] 3)) (.cells #[.int .i64 0] 31)
   rw [World.size_alloc] at this
   rw [cell_of_row _ _ 0 _ _ (0,0) this]
   rfl,by simp,((HO1.out.below HG2.out.bel).below HC3.out).row,fun R hR=>by
   rcases HO1.out.row.block with ⟨h1,_⟩ | ⟨R2,h1,_,h2,_⟩
   ·rw [h1] at hR;cases hR
   ·rw [h1] at hR;injection hR with hR;injection hR with hR;have:=HG2.out.bel.size;omega,HO1.out.gd,by simp,rfl⟩)
 have HLq:=Qh (show qs.length=n1∧n1≤K∧n1≤1000 from ⟨HO1.out.row.len,HO1.out.len,Nat.le_trans HO1.out.len HKM.out.1⟩)
 have hn9:n1≤1000:=HLq.out.2.2
 obtain ⟨G,hG⟩:∃ G,w2.heap.size=G:=⟨_,rfl⟩
 have HGz:=Qh (show B+4≤G from by have:=HZ1.out;have:=HG2.out.bel.size;omega)
 rw [hG] at HSC
 have HNf:=Qh (Qa HO1.out.nf (Qa HO1.out.bnd HM1.out))
 clear HB1 HV1 HV2 HV3 HI1 HM1 HG2 HC3 HBe HSg HZ1 v2 HO1
 rw [hG]
 clear hG
 go_loopw [34] (fun vi wr=>∃ k rs,k≤n1∧vi = .int .i64 (k:Nat)∧Hid (SC w B G n1 c1 n' c' g A1 A' z sg qs k rs wr)) (fun vi _=>n1 - (intOf vi).toNat)
 case atStart=>exact ⟨0,qs,Nat.zero_le _,rfl,HSC⟩
 case round=>
  obtain ⟨k,rs,hk,rfl,HI⟩:=hrel
  clear HSC
  by_cases hkn:k<n1
  ·have hlr:=HI.out.row.len
   obtain ⟨R,rfl,hR1,hR2,_⟩:=HI.out.row.some_ (by omega)
   obtain ⟨p,hp⟩:∃ p,rs[k]?=some p:=⟨rs[k]'(by omega),by simp⟩
   have HPq:=Qh (show qs[k]?=some p from by
    have h1:(rs.drop k)[0]?=some p:=by rw [List.getElem?_drop];exact hp
    rw [HI.out.same,List.getElem?_drop] at h1
    exact h1)
   have HPr:=Qh hp
   obtain ⟨i0,i1,i2,i3,i4,i5⟩:=HI.out.row.cells_at hp
   have hpm:=List.mem_of_getElem? hp
   have HGd:=Qh (HI.out.gd p hpm)
   have HKp:=Qh (HI.out.row.kid p hpm)
   have hX:=RBox.new wr p
   have HBx:=Qh (show Below wr.heap.size wr (wr.alloc (.cells (cells6 p).toArray 69)) from Qb)
   obtain ⟨⟨p1i,p1g,p1A,p1n,p1c,p1l⟩,⟨p2i,p2g,p2A,p2n,p2c,p2l⟩⟩:=p
   have HX:=Qh hX
   simp only [cells6_eq] at HX HBx
   simp only at i0 i1 i2 i3 i4 i5
   have hki:(k:Int)<(n1:Int):=by omega
   have hk0:(0:Int)≤(k:Int):=by omega
   have hlt:=HI.out.lt
   have HRG:=Qh (HI.out.blk R rfl)
   clear hp hX hlr
   go_upto_region 14 with fail
   have HKa:=Qh (show Bd.At wr (fun x=>x<wr.heap.size) ⟨p1i,p1g,p1A,p1n,p1c,p1l⟩ from HKp.out.a.wide (fun b hb=>hb.1.2))
   have HKb:=Qh (show Bd.At wr (fun x=>x<wr.heap.size) ⟨p2i,p2g,p2A,p2n,p2c,p2l⟩ from HKp.out.b.wide (fun b hb=>hb.1.2))
   have hM1:p1n≤M∧p2n≤M:=by
    have h1:=HNf.out.2.1 _ (List.mem_map.2 ⟨_,List.mem_of_getElem? HPq.out,rfl⟩)
    have h2:=HGd.out.1.1.szE HKa.out.lim.len
    have h3:=HGd.out.1.2.szE HKb.out.lim.len
    simp only at h2 h3
    rw [h2,h3]
    exact h1
   have HLw:=Qh (fun y (hy:Below wr.heap.size wr y)=>show LimP y (fun x=>x<y.heap.size) A' n' c' l from
    HL.out.keep (fun b hb=>⟨by have:=HP.out b hb;have:=HI.out.bel.size;have:=hy.size;have:=HB.out;omega,((HI.out.bel.trans (hy.mono (by have:=HI.out.bel.size;have:=HB.out;omega))).block b (by have:=HP.out b hb;have:=HB.out;omega))⟩))
   have HTm1:=Qh (fun y (hy:Below wr.heap.size wr y)=>times_ok (w:=y) (Gs:=G) (Gn:=B+1) (Gb:=G+1) (HKa.out.keep (Q:=fun x=>x<y.heap.size) (fun x hx=>⟨by have:=hy.size;omega,hy.block x hx⟩)) (fun _ h=>h) HGd.out.1.1
    ((hy.cell (p:=⟨G,0,none⟩) (show G<wr.heap.size by omega)).trans HI.out.sgn) (by have:=hy.size;omega) HZ.out (HI.out.int.below hy) (HLw.out y hy) HV.out (by have:=HKM.out.2;simp only;omega))
   have HTm2:=Qh (fun y (hy:Below wr.heap.size wr y)=>times_ok (w:=y) (Gs:=G) (Gn:=B+1) (Gb:=G+1) (HKb.out.keep (Q:=fun x=>x<y.heap.size) (fun x hx=>⟨by have:=hy.size;omega,hy.block x hx⟩)) (fun _ h=>h) HGd.out.1.2
    ((hy.cell (p:=⟨G,0,none⟩) (show G<wr.heap.size by omega)).trans HI.out.sgn) (by have:=hy.size;omega) HZ.out (HI.out.int.below hy) (HLw.out y hy) HV.out (by have:=HKM.out.2;simp only;omega))
   simp only [Bd.v,Bd.vals] at HTm1 HTm2
   have HV5:=Qh (show VBox _ B (some ⟨R,0,none⟩) n1 c1 from (HBx.out.block B HI.out.box.lt).trans HI.out.box)
   clear i0 i1 i2 i3 i4 i5 hpm
   generalize (wr.alloc (.cells #[.int .i64 p1i,.bool p1g,.slice p1A p1n p1c,.int .i64 p2i,.bool p2g,.slice p2A p2n p2c] 69))=w5 at *
   refine wp_region_U 12 (by kernel_rfl) (fun z9 K0 hs0=>?_)
   refine tZ0 0 K0 ?_ (y:=fun z5 hS=>by have q0:=(VBox.cell ((hS.block B HV5.out.lt).trans HV5.out)).1;go_simp;rfl)
   refine tZ0 1 K0 ?_
   refine tZ0 2 K0 ?_
   refine tZ0 3 K0 ?_
   refine tZ0 4 K0 ?_ (y:=fun z5 hS=>by obtain ⟨x0,x1,x2,x3,x4,x5⟩:=(HX.out.below hS).cells;simp only at x0 x1 x2 x3 x4 x5;go_simp;rfl)
   refine tZ0 6 K0 ?_
   refine tZ0 7 K0 ?_
   refine tZ0 8 K0 ?_ (y:=fun z5 hS=>by obtain ⟨x0,x1,x2,x3,x4,x5⟩:=(HX.out.below hS).cells;simp only at x0 x1 x2 x3 x4 x5;go_simp;rfl)
   refine uW 5 fun K hK=>?_
   go_simp
   (with_reducible refine (HTm1.out z9 (HBx.out.trans (K0.mono HBx.out.size))).mono ?_)
   rintro e u1 ⟨⟨ai,ag,aA,an,ac,al⟩,rfl,hat1,hnr1,hed1,hb1⟩
   have K1:=Qt K0 hb1
   refine hK.out _ _ (fun _=>K1) ?_
   refine uW 9 fun K hK=>?_
   go_simp
   (with_reducible refine (HTm2.out u1 (HBx.out.trans (K1.mono HBx.out.size))).mono ?_)
   rintro e u2 ⟨⟨ei,eg,eA,en,ec,el⟩,rfl,hat2,hnr2,hed2,hb2⟩
   have K2:=Qt K1 hb2
   refine hK.out _ _ (fun _=>K2) ?_
   simp only [Bd.v,Bd.vals]
   refine tZ0 10 K2 ?_
   have HBu:=Qh (Qt HBx.out K2)
   have hz5:=HBx.out.size
   have hz9:=K0.size
   have HQ:=Qh (show Rg.At u2 (fun x=>wr.heap.size≤x∧x<u2.heap.size) (⟨ai,ag,aA,an,ac,al⟩,⟨ei,eg,eA,en,ec,el⟩) from
    ⟨hat1.keep (fun x hx=>⟨⟨by have:=hx.1;omega,by have:=hx.2;have:=hb2.size;omega⟩,hb2.block x hx.2⟩),hat2.keep (fun x hx=>⟨⟨by have:=hx.1;have:=hb1.size;omega,hx.2⟩,rfl⟩)⟩)
   have HRw:=Qh (HI.out.row.fr HBu.out)
   have HQa:=Qh (HI.out.row.apart (by have:=HGz.out;omega) (Nat.le_refl _) HQ.out)
   have HV6:=Qh (show VBox u2 B (some ⟨R,0,none⟩) n1 c1 from (HBu.out.block B HI.out.box.lt).trans HI.out.box)
   have HEd:=Qh (show edsR ((⟨ai,ag,aA,an,ac,al⟩,⟨ei,eg,eA,en,ec,el⟩):Rg)=(mulE z (edsR ((⟨p1i,p1g,p1A,p1n,p1c,p1l⟩,⟨p2i,p2g,p2A,p2n,p2c,p2l⟩):Rg)).1,mulE z (edsR ((⟨p1i,p1g,p1A,p1n,p1c,p1l⟩,⟨p2i,p2g,p2A,p2n,p2c,p2l⟩):Rg)).2) from by unfold edsR;rw [hed1,hed2])
   have HNr:=Qh (Qa hnr1 hnr2)
   have HPut:=Qh (RRow.put6 HRw.out (fun b hb=>hb.2) HPr.out HQa.out)
   have fz:=RRow.frozen HRw.out
   have fz0:=fz (k * 6)
   have fz1:=fz (k * 6+1)
   have fz2:=fz (k * 6+2)
   have fz3:=fz (k * 6+3)
   have fz4:=fz (k * 6+4)
   have fz5:=fz (k * 6+5)
   obtain ⟨c0,c1',c2,c3,c4,c5⟩:=HRw.out.cells_at HPr.out
   simp only at c0 c1' c2 c3 c4 c5
   clear K1 hb1 hb2 hat1 hat2 hnr1 hnr2 hed1 hed2 K0 hs0 HTm1 HTm2 HKa HKb HLw fz
   refine uW 11 fun K hK=>?_
   go_simp
   refine hK.out _ _ (fun _=>K2) ?_
   refine uW 12 fun K hK=>?_
   go_simp
   refine hK.out _ _ (fun h=>absurd h (by simp)) ?_
   refine wpAnyW_done (by kernel_rfl) ?_ _
   have hz2:=HBu.out.size
   have HG6:=Qh HPut.out.2
   have HR6:=Qh (HPut.out.1)
   clear HPut HQa HRw fz0 fz1 fz2 fz3 fz4 fz5 c0 c1' c2 c3 c4 c5 K2 HV5 HX
   simp only at HR6 HG6
   generalize ((((((u2.setCell ⟨R,k * 6,none⟩ (.int .i64 ai)).setCell ⟨R,k * 6+1,none⟩ (.bool ag)).setCell ⟨R,k * 6+2,none⟩ (.slice aA an ac)).setCell ⟨R,k * 6+3,none⟩ (.int .i64 ei)).setCell ⟨R,k * 6+4,none⟩ (.bool eg)).setCell ⟨R,k * 6+5,none⟩ (.slice eA en ec))=u6 at *
   have hz6:=HG6.out.size
   have HRow:=Qh (HR6.out.wide (Q:=Fr (B+4) u6) (fun b hb=>⟨hb.1,by have:=hb.2;omega⟩))
   have HBl:=Qh (show Below B w u6 from (HI.out.bel.trans (HBu.out.mono (by have:=HI.out.bel.size;have:=HB.out;omega))).grown HG6.out (by have:=HI.out.bel.size;have:=HB.out;omega) (Qg (by omega)))
   have HVx:=Qh (show VBox u6 B (some ⟨R,0,none⟩) n1 c1 from (HG6.out.block B HV6.out.lt (fun e=>by injection e with e;omega)).trans HV6.out)
   have HIx:=Qh ((HI.out.int.below HBu.out).gro HG6.out (by omega))
   have hbG:∀ b,b<wr.heap.size→b≠R→u6.heap[b]?=wr.heap[b]?:=fun b h1 h2=>(HG6.out.block b (by omega) (fun e=>by injection e with e;exact h2 e)).trans (HBu.out.block b h1)
   have HSx:=Qh (show u6.cell? ⟨G,0,none⟩=some (.int .i64 sg) from (Qc (a:=⟨G,0,none⟩) (hbG G (by omega) (by have:=HRG.out;omega))).trans HI.out.sgn)
   have HBd:=Qh (show u6.cell? ⟨G+1,0,none⟩=some (.int .i64 0) from (Qc (a:=⟨G+1,0,none⟩) (hbG (G+1) (by omega) (by have:=HRG.out;omega))).trans HI.out.bad)
   have hlr:=HI.out.row.len
   have hkr:k<rs.length:=by omega
   have HGq:=Qh (show Gd ((⟨ai,ag,aA,an,ac,al⟩,⟨ei,eg,eA,en,ec,el⟩):Rg)∧Gd ((⟨ei,eg,eA,en,ec,el⟩,⟨ai,ag,aA,an,ac,al⟩):Rg) from by
    have hb:=HNf.out.2.1 _ (List.mem_map.2 ⟨_,List.mem_of_getElem? HPq.out,rfl⟩)
    have e1:Bd.ed ⟨ai,ag,aA,an,ac,al⟩=_:=congrArg Prod.fst HEd.out
    have e2:Bd.ed ⟨ei,eg,eA,en,ec,el⟩=_:=congrArg Prod.snd HEd.out
    have s1:szE (Bd.ed ⟨ai,ag,aA,an,ac,al⟩)≤33554432:=by
     rw [e1]
     refine Nat.le_trans (szE_mul HL.out.dig HL.out.len HV.out) ?_
     have:=hb.1;have:=HKM.out.2;omega
    have s2:szE (Bd.ed ⟨ei,eg,eA,en,ec,el⟩)≤33554432:=by
     rw [e2]
     refine Nat.le_trans (szE_mul HL.out.dig HL.out.len HV.out) ?_
     have:=hb.2;have:=HKM.out.2;omega
    exact ⟨Gd.mk' HQ.out HNr.out.1 HNr.out.2 s1 s2,Gd.mk' ⟨HQ.out.b,HQ.out.a⟩ HNr.out.2 HNr.out.1 s2 s1⟩)
   have hsx:=HSx.out
   have hGl:G<u6.heap.size:=by omega
   clear hbG HV6 HBu
   rcases HZ.out with ⟨hzp,hsg1⟩ | ⟨hzn,hsg1⟩
   ·subst hsg1
    go_wp2_with fail
    go_roundw
    case rel=>
     refine ⟨k+1,rs.set k ((⟨ai,ag,aA,an,ac,al⟩,⟨ei,eg,eA,en,ec,el⟩):Rg),by omega,by go_num,Qh ⟨HBl.out,HVx.out,HIx.out,hsx,HBd.out,by omega,HRow.out,HI.out.blk,fun q hq=>?_,?_,?_⟩⟩
     ·rcases List.mem_or_eq_of_mem_set hq with h1 | h1
      ·exact HI.out.gd q h1
      ·rw [h1];exact HGq.out.1
     ·exact eds_step HI.out.eds HPq.out (by rw [HEd.out];unfold scR;rw [if_pos hzp])
     ·exact sc_drop HI.out.same
    case measure=>simp [intOf];omega
   ·subst hsg1
    obtain ⟨vx,_⟩:=HVx.out.cell
    go_upto_region 16 with fail
    have hkl:(rs.set k ((⟨ai,ag,aA,an,ac,al⟩,⟨ei,eg,eA,en,ec,el⟩):Rg))[k]?=some ((⟨ai,ag,aA,an,ac,al⟩,⟨ei,eg,eA,en,ec,el⟩):Rg):=by rw [List.getElem?_set_self hkr]
    have HKl:=Qh hkl
    refine wp_region_T 19 (by kernel_rfl) (fun z9 K0 hs0=>?_)
    have K7:True:=trivial
    refine tZ0 3 K7 ?_
    refine tZ0 10 K7 ?_
    refine wpAnyW_turn (S:=fun z=>Below u6.heap.size u6 z) 12 ?_
    refine tZ0 9 K0 ?_ (y:=fun z5 hS=>by have q0:=(VBox.cell ((hS.block B HVx.out.lt).trans HVx.out)).1;go_simp;rfl)
    refine tZ0 11 K0 ?_
    refine wpAnyW_sooner (st':=16) (k:=13) (by kernel_rfl) (by kernel_rfl) _ _ _ _ (by kernel_rfl) (by kernel_rfl) ?_
    refine tZ0 0 K0 ?_ (y:=fun z5 hS=>by have q0:=(VBox.cell ((hS.block B HVx.out.lt).trans HVx.out)).1;go_simp;rfl)
    refine tZ0 1 K0 ?_
    refine tZ0 2 K0 ?_ (y:=fun z5 hS=>by have q0:=(VBox.cell ((hS.block B HVx.out.lt).trans HVx.out)).1;go_simp;rfl)
    refine tZ0 4 K0 ?_ (y:=fun z5 hS=>by have q0:=(VBox.cell ((hS.block B HVx.out.lt).trans HVx.out)).1;go_simp;rfl)
    refine tZ0 5 K0 ?_
    refine tZ0 6 K0 ?_
    refine tZ0 7 K0 ?_
    refine tZ0 8 K0 ?_ (y:=fun z5 hS=>by have q0:=(RRow.cells_at (RRow.fr HRow.out hS) HKl.out);simp only at q0;obtain ⟨q0,q1,q2,q3,q4,q5⟩:=q0;go_simp;rfl)
    refine tZ0 12 K0 ?_
    refine tZ0 13 K0 ?_ (y:=fun z5 hS=>by have q0:=(RRow.cells_at (RRow.fr HRow.out hS) HKl.out);simp only at q0;obtain ⟨q0,q1,q2,q3,q4,q5⟩:=q0;go_simp;rfl)
    refine tZ0 14 K0 ?_
    refine tZ0 15 K0 ?_
    have HQw:=Qh (HRow.out.fr K0)
    have fz:=RRow.frozen HQw.out
    have fz0:=fz (k * 6)
    have fz1:=fz (k * 6+1)
    have fz2:=fz (k * 6+2)
    have fz3:=fz (k * 6+3)
    have fz4:=fz (k * 6+4)
    have fz5:=fz (k * 6+5)
    obtain ⟨c0,c1',c2,c3,c4,c5⟩:=RRow.cells_at HQw.out HKl.out
    simp only at c0 c1' c2 c3 c4 c5
    have HKd:=Qh (HQw.out.kid _ (List.mem_of_getElem? HKl.out))
    have HPt:=Qh (RRow.put6 (q:=((⟨ei,eg,eA,en,ec,el⟩,⟨ai,ag,aA,an,ac,al⟩):Rg)) HQw.out (fun b hb=>hb.2) HKl.out ⟨HKd.out.b,HKd.out.a⟩)
    have HZz:=Qh K0
    clear fz
    refine uW 16 fun K hK=>?_
    go_simp
    refine hK.out _ _ (fun h=>absurd h (by simp)) ?_
    refine uW 17 fun K hK=>?_
    go_simp
    refine hK.out _ _ (fun h=>absurd h (by simp)) ?_
    refine uW 18 fun K hK=>?_
    go_simp
    refine hK.out _ _ (fun h=>absurd h (by simp)) ?_
    refine uW 19 fun K hK=>?_
    go_simp
    refine hK.out _ _ (fun h=>absurd h (by simp)) ?_
    refine wpAnyW_done (by kernel_rfl) ?_ _
    clear fz0 fz1 fz2 fz3 fz4 fz5 c0 c1' c2 c3 c4 c5 hs0 K7 K0 HQw HKd
    have hGz:u6.heap.size≤z9.heap.size:=HZz.out.size
    have HPu:=Qh (show RRow ((((((z9.setCell ⟨R,k * 6,none⟩ (.int .i64 ei)).setCell ⟨R,k * 6+1,none⟩ (.bool eg)).setCell ⟨R,k * 6+2,none⟩ (.slice eA en ec)).setCell ⟨R,k * 6+3,none⟩ (.int .i64 ai)).setCell ⟨R,k * 6+3+1,none⟩ (.bool ag)).setCell ⟨R,k * 6+3+2,none⟩ (.slice aA an ac)) (B+4) (Fr (B+4) z9) (some ⟨R,0,none⟩) n1 c1 ((rs.set k ((⟨ai,ag,aA,an,ac,al⟩,⟨ei,eg,eA,en,ec,el⟩):Rg)).set k ((⟨ei,eg,eA,en,ec,el⟩,⟨ai,ag,aA,an,ac,al⟩):Rg)) ∧
     z9.grownBy ((((((z9.setCell ⟨R,k * 6,none⟩ (.int .i64 ei)).setCell ⟨R,k * 6+1,none⟩ (.bool eg)).setCell ⟨R,k * 6+2,none⟩ (.slice eA en ec)).setCell ⟨R,k * 6+3,none⟩ (.int .i64 ai)).setCell ⟨R,k * 6+3+1,none⟩ (.bool ag)).setCell ⟨R,k * 6+3+2,none⟩ (.slice aA an ac)) (some R) from HPt.out)
    clear HPt
    generalize (((((z9.setCell ⟨R,k * 6,none⟩ (.int .i64 ei)).setCell ⟨R,k * 6+1,none⟩ (.bool eg)).setCell ⟨R,k * 6+2,none⟩ (.slice eA en ec)).setCell ⟨R,k * 6+3,none⟩ (.int .i64 ai)).setCell ⟨R,k * 6+3+1,none⟩ (.bool ag)).setCell ⟨R,k * 6+3+2,none⟩ (.slice aA an ac)=u7 at *
    rw [List.set_set] at HPu
    have hz7:=HPu.out.2.size
    have hbG7:∀ b,b<u6.heap.size→b≠R→u7.heap[b]?=u6.heap[b]?:=fun b h1 h2=>(HPu.out.2.block b (by omega) (fun e=>by injection e with e;exact h2 e)).trans (HZz.out.block b h1)
    have hB7:B+4≤G:=HGz.out
    have hRg:=HRG.out
    have HB7:=Qh (show Below B w u7 from (HBl.out.trans (HZz.out.mono (by have:=HBl.out.size;have:=HB.out;omega))).grown HPu.out.2 (by have:=HBl.out.size;have:=HB.out;omega) (Qg (by omega)))
    have HV7:=Qh (show VBox u7 B (some ⟨R,0,none⟩) n1 c1 from (hbG7 B HVx.out.lt (by omega)).trans HVx.out)
    have HI7:=Qh (show IBox u7 (B+1) g (.slice A' n' c') from (hbG7 (B+1) HIx.out.lt (by omega)).trans HIx.out)
    have HS7:=Qh (show u7.cell? ⟨G,0,none⟩=some (.int .i64 (-1)) from (Qc (a:=⟨G,0,none⟩) (hbG7 G (by omega) (by omega))).trans HSx.out)
    have HD7:=Qh (show u7.cell? ⟨G+1,0,none⟩=some (.int .i64 0) from (Qc (a:=⟨G+1,0,none⟩) (hbG7 (G+1) (by omega) (by omega))).trans HBd.out)
    have HR7:=Qh (HPu.out.1.wide (Q:=Fr (B+4) u7) (fun b hb=>⟨hb.1,by have:=hb.2;omega⟩))
    clear hbG7
    go_wp2_with fail
    go_roundw
    case rel=>
     refine ⟨k+1,rs.set k ((⟨ei,eg,eA,en,ec,el⟩,⟨ai,ag,aA,an,ac,al⟩):Rg),by omega,by go_num,Qh ⟨HB7.out,HV7.out,HI7.out,HS7.out,HD7.out,by omega,HR7.out,HI.out.blk,fun q hq=>?_,?_,?_⟩⟩
     ·rcases List.mem_or_eq_of_mem_set hq with h1 | h1
      ·exact HI.out.gd q h1
      ·rw [h1];exact HGq.out.2
     ·refine eds_step HI.out.eds HPq.out ?_
      have e1:Bd.ed ⟨ai,ag,aA,an,ac,al⟩=_:=congrArg Prod.fst HEd.out
      have e2:Bd.ed ⟨ei,eg,eA,en,ec,el⟩=_:=congrArg Prod.snd HEd.out
      unfold scR
      rw [if_neg (by omega)]
      exact Prod.ext e2 e1
     ·exact sc_drop HI.out.same
    case measure=>simp [intOf];omega
  ·have hkk:n1=k:=by omega
   subst hkk
   have hlr:=HI.out.row.len
   have hki:¬((n1:Int)<(n1:Int)):=by omega
   have HEe:=Qh (show rs.map edsR=(qs.map edsR).map (scR z) from by
    have h1:=HI.out.eds
    rw [List.take_of_length_le (Nat.le_of_eq HLq.out.1),List.drop_of_length_le (Nat.le_of_eq HLq.out.1)] at h1
    rw [h1]
    simp)
   have HBn:=Qh (show Bnd (M+n') (rs.map edsR) from by
    rw [HEe.out]
    intro r hr
    obtain ⟨r0,h1,rfl⟩:=List.mem_map.1 hr
    have h2:=HNf.out.2.1 r0 h1
    have h3:=szE_mul (e:=r0.1) HL.out.dig HL.out.len HV.out
    have h4:=szE_mul (e:=r0.2) HL.out.dig HL.out.len HV.out
    unfold scR
    split
    ·exact ⟨by simp only;omega,by simp only;omega⟩
    ·exact ⟨by simp only;omega,by simp only;omega⟩)
   have HGi:=Qh (give_ok (w:=wr) (HI.out.row.set (fun b h1 h2=>⟨h1,h2⟩)) (fun b hb=>hb.2) (fun q hq=>⟨fun _=>(HI.out.gd q hq).2.1,fun _=>(HI.out.gd q hq).2.2⟩) hn9 HBn.out HKM.out.2)
   obtain ⟨v0,_⟩:=HI.out.box.cell
   have t0:=HI.out.bad
   go_wp2_with (go_at_call 52;(with_reducible refine HGi.out.mono ?_);rintro e w3 ⟨A4,n4,c4,q4,w4,rfl,hres,hb3⟩;have HR:=Qh hres;have HB3:=Qh hb3;clear hres hb3)
   obtain ⟨r1,r2,r3,r4,r5,r6,r7⟩:=HR.out
   have s1:=HI.out.bel.size
   have s3:=r7.size
   have hlt:=HI.out.lt
   have hGz:=HGz.out
   have hBB:=HB.out
   have key:(∃ A m c qs N,NF N∧(∀ z,Hf.mem z N↔Hf.mem z (ps.map edsR))∧Ending.returned (.tuple #[.slice A4 n4 c4,.int .i64 0]) = .returned (.tuple #[.slice A m c,.int .i64 0])∧SOut w3 B A m c qs K (M+n')∧(∀ k,Hf.mem k (qs.map edsR)↔Hf.mem k (N.map (scR z)))∧Below B w w3):=
    ⟨A4,n4,c4,q4,qs.map edsR,HNf.out.1,HNf.out.2.2,rfl,((⟨r1,r2,r3,by have:=HLq.out.2.1;omega,Bnd.ends HBn.out r5⟩:SOut w4 wr.heap.size A4 n4 c4 q4 K (M+n')).below HB3.out).lower (by omega),fun k=>by rw [r4 k,HEe.out],(HI.out.bel.trans (r7.mono (by omega))).trans (HB3.out.mono (by omega))⟩
   first
    | (go_ret;exact key)
    | exact bodyPost_ret (by simp [results,Tryz.results22,go_sem]) rfl key
abbrev tR (lo hi:Int) (A A':Option Addr) (c c':Nat):Rg:=(nb lo A c,nb hi A' c')
def RangePost (lo hi:Int) (w:World) (e:Ending) (w':World):Prop:=
 ∃ A A' c c',e = .returned (rgV (tR lo hi A A' c c'))∧Rg.At w' (Fr w.heap.size w') (tR lo hi A A' c c')∧Below w.heap.size w w'
theorem Rg.At.lift {w w':World} {B:Nat} {p:Rg} (h:Rg.At w (Fr B w) p) (hb:Below w.heap.size w w'):Rg.At w' (Fr B w') p:=
 h.keep fun x hx=>⟨⟨hx.1,Ql hx.2 hb.size⟩,hb.block x hx.2⟩
theorem Rg.At.low {w:World} {B B':Nat} {p:Rg} (h:Rg.At w (Fr B w) p) (hB:B'≤B):Rg.At w (Fr B' w) p:=
 h.keep fun x hx=>⟨⟨Nat.le_trans hB hx.1,hx.2⟩,rfl⟩
theorem Bd.At.lift {w w':World} {B:Nat} {p:Bd} (h:p.At w (Fr B w)) (hb:Below w.heap.size w w'):p.At w' (Fr B w'):=
 h.keep fun x hx=>⟨⟨hx.1,Ql hx.2 hb.size⟩,hb.block x hx.2⟩
theorem to_ok (lo hi:Int) {w:World} (h1 : -9223372036854775808≤lo) (h2:lo≤9223372036854775807) (h3 : -9223372036854775808≤hi) (h4:hi≤9223372036854775807) :
  Calls Tryz.prog 25 #[.int .i64 lo,.int .i64 hi] w (RangePost lo hi w):=by
 have HF1:=Qh (fun w1=>from_any lo w1 h1 h2)
 have HF2:=Qh (fun w1=>from_any hi w1 h3 h4)
 have HX:=Qh (RBox.new w (ib 0,ib 0))
 have HB:=Qh ((Below.refl w.heap.size w).alloc (Nat.le_refl _) (.cells (cells6 (ib 0,ib 0)).toArray 69))
 simp only [cells6_eq,ib] at HX HB
 go_enter Tryz.func25,Tryz.ntmps25
 go_wp2_with fail
 (with_reducible refine (HF1.out _).mono ?_)
 rintro e u1 ⟨v,rfl,hr1,hb1⟩
 obtain ⟨A1,c1,rfl,hat1⟩:=hr1.nb
 go_wp2_with fail
 (with_reducible refine (HF2.out _).mono ?_)
 rintro e u2 ⟨v,rfl,hr2,hb2⟩
 obtain ⟨A2,c2,rfl,hat2⟩:=hr2.nb
 have hz1:=hb1.size
 have hz0:=HB.out.size
 have hb3:=Qt hb1 hb2
 have HX2:=Qh (HX.out.below hb3)
 have HBw:=Qh (HB.out.trans (hb3.mono hz0))
 obtain ⟨f0,f1,f2,f3,f4,f5⟩:=HX2.out.frozens
 obtain ⟨x0,x1,x2,x3,x4,x5⟩:=HX2.out.cells
 have HQ:=Qh (show Rg.At u2 (fun x=>w.heap.size+1≤x∧x<u2.heap.size) (tR lo hi A1 A2 c1 c2) from
  ⟨hat1.keep (fun x hx=>⟨⟨by have:=hx.1;simp at this;omega,by have:=hx.2;have:=hb2.size;omega⟩,hb2.block x hx.2⟩),hat2.keep (fun x hx=>⟨⟨by have:=hx.1;simp at hz1;omega,hx.2⟩,rfl⟩)⟩)
 have HS:=Qh (HX2.out.set6 (tR lo hi A1 A2 c1 c2))
 simp only [nb] at HS
 clear hb1 hb2 hb3 hr1 hr2 hat1 hat2 hz1 HF1 HF2
 go_wp2_with fail
 have hz9:=HS.out.2.size
 generalize (((((u2.setCell ⟨w.heap.size,0,none⟩ (.int .i64 0)).setCell ⟨w.heap.size,1,none⟩ (.bool (decide (lo<0)))).setCell ⟨w.heap.size,2,none⟩ (.slice A1 (digs W lo.natAbs).length c1)).setCell ⟨w.heap.size,3,none⟩ (.int .i64 0)).setCell ⟨w.heap.size,4,none⟩ (.bool (decide (hi<0)))).setCell ⟨w.heap.size,5,none⟩ (.slice A2 (digs W hi.natAbs).length c2)=u3 at *
 obtain ⟨r0,r1,r2,r3,r4,r5⟩:=HS.out.1.cells
 refine bodyPost_ret (v:=rgV (tR lo hi A1 A2 c1 c2)) (by simp [results,Tryz.results25,go_sem,r0,r1,r2,r3,r4,r5];rfl) rfl ⟨A1,A2,c1,c2,rfl,?_,HBw.out.grown HS.out.2 HBw.out.size (Qg (by omega))⟩
 exact HQ.out.keep fun x hx=>⟨⟨by have:=hx.1;omega,Ql hx.2 hz9⟩,HS.out.2.block x hx.2 (fun e=>by injection e with e;have:=hx.1;omega)⟩
theorem SetP.built {w:World} {B:Nat} {ps:List Rg} (hB:B≤w.heap.size) (hk:∀ p∈ps,Rg.At w (Fr B w) p) (hl:ps.length≤1000) :
  SetP (w.alloc (.cells (fl6 ps).toArray 69)) (Fr B (w.alloc (.cells (fl6 ps).toArray 69))) (some ⟨w.heap.size,0,none⟩) ps.length ps.length ps:=by
 have hb:Below w.heap.size w (w.alloc (.cells (fl6 ps).toArray 69)):=Qb
 refine ⟨⟨rfl,Nat.le_refl _,by simp only [maxLen];omega,fun _=>⟨w.heap.size,0,rfl,⟨hB,by simp⟩,fun i v hi=>?_⟩⟩,fun p hp=>(hk p hp).lift hb⟩
 have h:=heap_alloc_new w (.cells (fl6 ps).toArray 69)
 rw [Nat.zero_add,cell_of_row _ _ _ _ _ (0,0) h]
 simpa using hi
theorem szE_small {z:Int} (h:z.natAbs<4294967296):szE (.num z)≤1:=digs_length_le (k:=1) (by decide) (by rw [Nat.pow_one];exact h)
def SmB (a b:Bd):Prop:=a.i=b.i∧a.g=b.g∧a.l=b.l
theorem sameRanges_parts {w:World} {P:Nat→Prop} {A A':Option Addr} {n n' c c':Nat} {ps qs:List Rg} (h:SetP w P A n c ps) (h':SetP w P A' n' c' qs) (hP:∀ b,P b→b<w.heap.size) (hnn:n'=n) (hs:∀ (k:Nat) (p q:Rg),ps[k]?=some p→qs[k]?=some q→SmB p.1 q.1∧SmB p.2 q.2) :
  Calls Tryz.prog 29 #[.slice A n c,.slice A' n' c'] w fun e w'=>e = .returned (.bool true)∧Below w.heap.size w w':=by
 subst hnn
 have HS:=Qh (Qa h h')
 have HP:=Qh hP
 have HSm:=Qh hs
 have HLn:=Qh (Qa h.row.len h'.row.len)
 have hcap:=h.row.cap
 have hmax:=h.row.max
 unfold maxLen at hmax
 obtain ⟨B,hB⟩:∃ B,w.heap.size=B:=⟨_,rfl⟩
 have HB:=Qh hB
 rw [hB]
 clear h h' hP hs hB
 go_enter Tryz.func29,Tryz.ntmps29
 go_wp2_with fail
 go_loopw [5] (fun vi wr=>∃ k,k≤n'∧vi = .int .i64 (k:Nat)∧Hid (Below B w wr)) (fun vi _=>n' - (intOf vi).toNat)
 case atStart=>exact ⟨0,Nat.zero_le _,rfl,Qh (Below.refl _ _)⟩
 case round=>
  obtain ⟨k,hk,rfl,HI⟩:=hrel
  by_cases hkn:k<n'
  ·skip
   obtain ⟨p,hp⟩:∃ p,ps[k]?=some p:=⟨ps[k]'(by have:=HLn.out;omega),by simp⟩
   obtain ⟨q,hq⟩:∃ q,qs[k]?=some q:=⟨qs[k]'(by have:=HLn.out;omega),by simp⟩
   obtain ⟨b,o,rfl,hPb,q0,q1,q2,q3,q4,q5⟩:=HS.out.1.row.at_ hp
   obtain ⟨b',o',rfl,hPb',q0',q1',q2',q3',q4',q5'⟩:=HS.out.2.row.at_ hq
   have hbB:b<B:=by have:=HP.out b hPb;have:=HB.out;omega
   have hbB':b'<B:=by have:=HP.out b' hPb';have:=HB.out;omega
   have HKp:=Qh (HS.out.1.kid p (List.mem_of_getElem? hp))
   have HKq:=Qh (HS.out.2.kid q (List.mem_of_getElem? hq))
   have HE:=Qh (HSm.out k p q hp hq)
   have HC:=Qh (Qa hPb hPb')
   have HQ:=Qh (Qa (Qa q0 (Qa q1 (Qa q2 (Qa q3 (Qa q4 q5))))) (Qa q0' (Qa q1' (Qa q2' (Qa q3' (Qa q4' q5'))))))
   have HSz:=Qh (show B≤wr.heap.size by have:=HI.out.size;have:=HB.out;omega)
   have keepP:∀ (z:World),Below B w z→∀ x,P x→P x∧z.heap[x]?=w.heap[x]?:=fun z hz x hx=>⟨hx,hz.block x (by have:=HP.out x hx;have:=HB.out;omega)⟩
   have HSb:=Qh (fun z (hz:Below B w z)=>Qa (sameBound_true (w:=z) (HKp.out.a.keep (keepP z hz)) (HKq.out.a.keep (keepP z hz)) (fun x hx=>Ql (HP.out x hx) hz.size) HE.out.1.1 HE.out.1.2.1 HE.out.1.2.2)
    (sameBound_true (w:=z) (HKp.out.b.keep (keepP z hz)) (HKq.out.b.keep (keepP z hz)) (fun x hx=>Ql (HP.out x hx) hz.size) HE.out.2.1 HE.out.2.2.1 HE.out.2.2.2))
   have cell1:∀ (z:World) (j:Nat),Below B w z→z.cell? ⟨b,j,none⟩=w.cell? ⟨b,j,none⟩:=fun z j hz=>Qc (a:=⟨b,j,none⟩) (hz.block b hbB)
   have cell2:∀ (z:World) (j:Nat),Below B w z→z.cell? ⟨b',j,none⟩=w.cell? ⟨b',j,none⟩:=fun z j hz=>Qc (a:=⟨b',j,none⟩) (hz.block b' hbB')
   have HC1:=Qh cell1
   have HC2:=Qh cell2
   obtain ⟨⟨p1i,p1g,p1A,p1n,p1c,p1l⟩,⟨p2i,p2g,p2A,p2n,p2c,p2l⟩⟩:=p
   obtain ⟨⟨r1i,r1g,r1A,r1n,r1c,r1l⟩,⟨r2i,r2g,r2A,r2n,r2c,r2l⟩⟩:=q
   simp only [Bd.v,Bd.vals] at HSb
   have hki:(k:Int)<(n':Int):=by omega
   have hk0:(0:Int)≤(k:Int):=by omega
   clear hp hq q0 q1 q2 q3 q4 q5 q0' q1' q2' q3' q4' q5' keepP cell1 cell2 HKp HKq hPb hPb'
   go_upto_region 6 with fail
   refine wp_region_H (by kernel_rfl) (fun z0 K0 hs0=>?_)
   refine tH0 0 K0 ?_
   refine tH0 1 K0 ?_
   refine tH0 2 K0 ?_
   refine tH0 3 K0 ?_
   refine tH0 4 K0 ?_ (y:=fun z5 hS=>by have g0:=(HC1.out z5 (o+k * 6) (HI.out.trans (hS.mono HSz.out))).trans HQ.out.1.1;have g1:=(HC1.out z5 (o+k * 6+1) (HI.out.trans (hS.mono HSz.out))).trans HQ.out.1.2.1;have g2:=(HC1.out z5 (o+k * 6+2) (HI.out.trans (hS.mono HSz.out))).trans HQ.out.1.2.2.1;go_simp;rfl)
   refine tH0 5 K0 ?_
   refine tH0 6 K0 ?_
   refine tH0 7 K0 ?_
   refine tH0 8 K0 ?_
   refine tH0 9 K0 ?_ (y:=fun z5 hS=>by have g0:=(HC2.out z5 (o'+k * 6) (HI.out.trans (hS.mono HSz.out))).trans HQ.out.2.1;have g1:=(HC2.out z5 (o'+k * 6+1) (HI.out.trans (hS.mono HSz.out))).trans HQ.out.2.2.1;have g2:=(HC2.out z5 (o'+k * 6+2) (HI.out.trans (hS.mono HSz.out))).trans HQ.out.2.2.2.1;go_simp;rfl)
   refine oH0 10 fun K hK=>?_
   go_simp
   (with_reducible refine (HSb.out _ (HI.out.trans (K0.mono HSz.out))).1.mono ?_)
   rintro e z1 ⟨rfl,hb1⟩
   have K1:=Qt K0 hb1
   refine hK.out _ _ K1 ?_
   refine tH0 11 K1 ?_
   refine tH0 12 K1 ?_
   refine tH0 13 K1 ?_
   refine tH0 14 K1 ?_
   refine tH0 15 K1 ?_
   refine tH0 16 K1 ?_
   refine tH0 17 K1 ?_ (y:=fun z5 hS=>by have g0:=(HC1.out z5 (o+k * 6+3) (HI.out.trans (hS.mono HSz.out))).trans HQ.out.1.2.2.2.1;have g1:=(HC1.out z5 (o+k * 6+4) (HI.out.trans (hS.mono HSz.out))).trans HQ.out.1.2.2.2.2.1;have g2:=(HC1.out z5 (o+k * 6+5) (HI.out.trans (hS.mono HSz.out))).trans HQ.out.1.2.2.2.2.2;go_simp;rfl)
   refine tH0 18 K1 ?_
   refine tH0 19 K1 ?_
   refine tH0 20 K1 ?_
   refine tH0 21 K1 ?_
   refine tH0 22 K1 ?_ (y:=fun z5 hS=>by have g0:=(HC2.out z5 (o'+k * 6+3) (HI.out.trans (hS.mono HSz.out))).trans HQ.out.2.2.2.2.1;have g1:=(HC2.out z5 (o'+k * 6+4) (HI.out.trans (hS.mono HSz.out))).trans HQ.out.2.2.2.2.2.1;have g2:=(HC2.out z5 (o'+k * 6+5) (HI.out.trans (hS.mono HSz.out))).trans HQ.out.2.2.2.2.2.2;go_simp;rfl)
   refine oH0 23 fun K hK=>?_
   go_simp
   (with_reducible refine (HSb.out _ (HI.out.trans (K1.mono HSz.out))).2.mono ?_)
   rintro e z2 ⟨rfl,hb2⟩
   have K2:=Qt K1 hb2
   refine hK.out _ _ K2 ?_
   refine tH0 24 K2 ?_
   refine oH0 25 fun K hK=>?_
   go_simp
   refine hK.out _ _ K2 ?_
   refine wpAnyH_end (by kernel_rfl) ?_ _
   have HB2:=Qh (HI.out.trans (K2.mono HSz.out))
   clear K0 K1 K2 hb1 hb2 hs0
   go_wp2_with fail
   go_roundw
   case rel=>exact ⟨k+1,by omega,by go_num,HB2⟩
   case measure=>simp [intOf];omega
  ·have hki:¬(k:Int)<(n':Int):=by omega
   go_wp2_with fail
   go_ret
   exact ⟨rfl,HI.out⟩
theorem longE_lng (L:List R):longE L=L.any lngS:=by
 have h1:∀ e:Ed,decide (128<szE e)=lngE e:=fun e=>by
  cases e with
  | lo=>simp [szE,lngE]
  | hi=>simp [szE,lngE]
  | num z=>
   show decide (128<(digs W z.natAbs).length)=decide (4096<(digs 2 z.natAbs).length)
   obtain ⟨m,hm⟩:∃ m,32 * 128=m:=⟨_,rfl⟩
   rw [show 4096=m by omega]
   have hW:W ^ 128=2 ^ m:=by
    show (4294967296:Nat) ^ 128=2 ^ m
    rw [show (4294967296:Nat)=2 ^ 32 from rfl,←Nat.pow_mul,hm]
   clear hm
   have a1:(digs W z.natAbs).length≤128↔(digs 2 z.natAbs).length≤m:=by
    constructor
    ·intro h
     have:=lt_of_digs_length (b:=W) (by decide) h
     exact digs_length_le (by decide) (by rw [←hW];exact this)
    ·intro h
     have:=lt_of_digs_length (b:=2) (by decide) h
     exact digs_length_le (by decide) (by rw [hW];exact this)
   exact decide_eq_decide.2 (by omega)
 unfold longE
 congr 1
 funext r
 rw [h1,h1]
 rfl
theorem is_bad {w:World} (bad:Int) (hb:bad≠0) (h1 : -9223372036854775808≤bad) (h2:bad≤9223372036854775807) (X:Option Addr) (xn xc:Nat) :
  Calls Tryz.prog 16 #[.slice none 0 0,.int .i64 bad,.slice X xn xc,.int .i64 bad] w fun e w'=>e = .returned (.bool true)∧Below w.heap.size w w':=by
 have HS:=Qh (sameRanges_parts (w:=w) (P:=fun _=>False) (A:=none) (A':=none) (n:=0) (n':=0) (c:=0) (c':=0) (ps:=[]) (qs:=[]) ⟨⟨rfl,Nat.le_refl _,by simp [maxLen],fun h=>absurd rfl h⟩,fun p hp=>by cases hp⟩ ⟨⟨rfl,Nat.le_refl _,by simp [maxLen],fun h=>absurd rfl h⟩,fun p hp=>by cases hp⟩ (fun b h=>h.elim) rfl (fun k p q hp hq=>by simp at hp))
 have hbb:(bad==0)=false:=beq_eq_false_iff_ne.2 hb
 have HBB:=Qh hb
 clear hb
 go_enter Tryz.func16,Tryz.ntmps16
 go_wp2_with fail
 (with_reducible refine HS.out.mono ?_)
 rintro e w1 ⟨he,hb1⟩
 subst he
 have HB1:=Qh hb1
 clear hb1
 go_wp2_with fail
 go_loopw [12] (fun vi wr=>vi = .int .i64 0∧Hid (Below w.heap.size w wr)) (fun vi _=>0)
 case atStart=>exact ⟨rfl,HB1⟩
 case round=>
  obtain ⟨rfl,HI⟩:=hrel
  clear HB1
  go_wp2_with fail
  exact bodyPost_ret (v:=.bool true) (by simp [results,Tryz.results16,go_sem]) rfl ⟨rfl,HI.out⟩
def LoW (w:World) (B g:Nat) (b:Bd):Prop:=b.n≤maxLen∧∀ k,k<b.n→∃ x o v,b.A=some ⟨x,o,none⟩∧B≤x∧x≠g∧x<w.heap.size∧Th w x∧w.cell? ⟨x,o+k,none⟩=some v
structure Wr (w:World) (B g n c:Nat) (ps:List Rg):Prop where
 own:w.ownsRow B 69 6 (.slice (some ⟨g,0,none⟩) n c) n (fl6 ps)
 kid:∀ p∈ps,LoW w B g p.1
theorem frozen_put (w:World) (a:Addr) (v:Value) (x:Addr):(w.setCell a v).frozen? x=w.frozen? x:=World.frozen?_setCell w a x v
theorem LoW.put {w:World} {B g x j:Nat} {v:Value} {b:Bd} (h:LoW w B g b):LoW (w.setCell ⟨x,j,none⟩ v) B g b:=
 ⟨h.1,fun k hk=>by
  obtain ⟨x',o,v',h1,h2,h3,h4,h5,h6⟩:=h.2 k hk
  obtain ⟨v2,h7⟩:=cell?_setCell_some (p:=⟨x,j,none⟩) (x:=v) h6
  exact ⟨x',o,v2,h1,h2,h3,by rw [World.size_setCell];exact h4,fun t=>by rw [frozen_put];exact h5 t,h7⟩⟩
theorem Wr.limb {w:World} {B g n c x j:Nat} {v:Value} {ps:List Rg} (h:Wr w B g n c ps) (hx:x≠g):Wr (w.setCell ⟨x,j,none⟩ v) B g n c ps:=
 ⟨by
  have h1:(w.setCell ⟨x,j,none⟩ v).heap[g]?=w.heap[g]?:=Below.heap_setCell w ⟨x,j,none⟩ v g (Ne.symm hx)
  refine ⟨h.own.1,?_⟩
  rcases h.own.2 with ⟨h2,_⟩ | ⟨g',cap,cur,h2,h3,h4,h5⟩
  ·cases h2
  ·injection h2 with a b cc
   injection a with a
   injection a with a
   subst a
   subst cc
   exact .inr ⟨g,c,cur,rfl,h3,h1.trans h4,h5⟩,fun p hp=>(h.kid p hp).put⟩
theorem Wr.row {w:World} {B g n c i:Nat} {ps:List Rg} {p:Rg} (h:Wr w B g n c ps) (hi:ps[i]?=some p) (q:Rg) (hq:q.1.n=0) :
  Wr ((((((w.setCell ⟨g,i * 6,none⟩ (.int .i64 q.1.i)).setCell ⟨g,i * 6+1,none⟩ (.bool q.1.g)).setCell ⟨g,i * 6+2,none⟩ (.slice q.1.A q.1.n q.1.c)).setCell ⟨g,i * 6+3,none⟩ (.int .i64 q.2.i)).setCell ⟨g,i * 6+4,none⟩ (.bool q.2.g)).setCell ⟨g,i * 6+5,none⟩ (.slice q.2.A q.2.n q.2.c)) B g n c (ps.set i q):=
 ⟨by rw [fl6_set q hi];exact own_set (own_set (own_set (own_set (own_set (own_set h.own _ _) _ _) _ _) _ _) _ _) _ _,fun p' hp'=>by
  rcases List.mem_or_eq_of_mem_set hp' with h1 | h1
  ·exact (((((((h.kid p' h1).put).put).put).put).put).put)
  ·rw [h1];exact ⟨by rw [hq];exact Nat.zero_le _,fun k hk=>by omega⟩⟩
theorem Wr.cells {w:World} {B g n c i:Nat} {ps:List Rg} {p:Rg} (h:Wr w B g n c ps) (hk:ps[i]?=some p) :
  w.cell? ⟨g,i * 6,none⟩=some (.int .i64 p.1.i)∧w.cell? ⟨g,i * 6+1,none⟩=some (.bool p.1.g)∧w.cell? ⟨g,i * 6+2,none⟩=some (.slice p.1.A p.1.n p.1.c) ∧
  w.cell? ⟨g,i * 6+3,none⟩=some (.int .i64 p.2.i)∧w.cell? ⟨g,i * 6+4,none⟩=some (.bool p.2.g)∧w.cell? ⟨g,i * 6+5,none⟩=some (.slice p.2.A p.2.n p.2.c):=by
 have key:∀ j u,j<6→(cells6 p)[j]?=some u→w.cell? ⟨g,i * 6+j,none⟩=some u:=fun j u hj hu=>by
  have:=World.ownsRow.cells h.own (g:=g) rfl (i * 6+j) u ((fl6_get hk hj).trans hu)
  rwa [add_zero'] at this
 exact ⟨key 0 _ (by omega) rfl,key 1 _ (by omega) rfl,key 2 _ (by omega) rfl,key 3 _ (by omega) rfl,key 4 _ (by omega) rfl,key 5 _ (by omega) rfl⟩
theorem Wr.len {w:World} {B g n c:Nat} {ps:List Rg} (h:Wr w B g n c ps):ps.length=n:=by have:=h.own.1;rw [fl6_length] at this;omega
theorem Wr.of {w:World} {B g n c:Nat} {ps:List Rg} (h:RRow w B (Ft B w) (some ⟨g,0,none⟩) n c ps):Wr w B g n c ps:=
 ⟨h.own,fun p hp=>by
  have h1:=(h.kid p hp).a.lim
  refine ⟨Nat.le_trans h1.cap h1.max,fun k hk=>?_⟩
  obtain ⟨x,o,e,hx,hc⟩:=h1.rd (fun e=>by have:=h1.len;rw [e] at this;simp at this;omega)
  obtain ⟨v,hv⟩:∃ v,(u32s p.1.l)[k]?=some v:=⟨(u32s p.1.l)[k]'(by rw [u32s_length,h1.len];exact hk),by simp⟩
  exact ⟨x,o,v,e,hx.1.1.1,fun e2=>hx.2 (by rw [e2];rfl),hx.1.1.2,hx.1.2,hc k v hv⟩⟩
theorem is_ok {w:World} {P:Nat→Prop} {B n c xn xc:Nat} {A X:Option Addr} {qs xs:List Rg} (hrow:RRow w B (Ft B w) A n c qs) (hB:B≤w.heap.size) (hgd:∀ q∈qs,Gd q) (hnf:NF (qs.map edsR)) (hx:RefI w P X xn xc xs) (hP:∀ b,P b→b<w.heap.size)
  (hm:∀ z,Hf.mem z (qs.map edsR)↔Hf.mem z (xs.map edsS)) (hl:(xs.map edsS).any lngS=false) (hn:n≤1000) :
  Calls Tryz.prog 16 #[.slice A n c,.int .i64 0,.slice X xn xc,.int .i64 0] w fun e w'=>e = .returned (.bool true)∧Below B w w':=by
 have HRow:=Qh hrow
 have HGv:=Qh (rGive_any hx hP hl (fun N h1 h2=>by rw [NF.uniq h1 hnf (fun z=>(h2 z).trans (hm z).symm),List.length_map,hrow.len];exact hn))
 have HNf:=Qh (Qa hnf (Qa hm hgd))
 have HBz:=Qh hB
 have hcap:=hrow.cap
 have hmax:=hcap.2
 unfold maxLen at hmax
 clear hrow hB hgd hnf hx hP hm hl
 go_enter Tryz.func16,Tryz.ntmps16
 go_wp2_with fail
 (with_reducible refine HGv.out.mono ?_)
 rintro e w1 ⟨A1,n1,c1,rs,he,hset,hnf1,hm1,hnr,hb1⟩
 subst he
 have HR1:=Qh (HRow.out.keepP (w':=w1) (fun b _ hb=>hb1.block b hb) (fun b hb=>hb1.block b hb.1.2))
 have HEq:=Qh (show qs.map edsR=rs.map edsR from NF.uniq HNf.out.1 hnf1 (fun z=>(HNf.out.2.1 z).trans (hm1 z).symm))
 have HSm:=Qh (sameRanges_parts (w:=w1) (P:=fun b=>b<w1.heap.size) ((HR1.out.wide (Q:=fun b=>b<w1.heap.size) (fun b hb=>Ql hb.1.2 hb1.size)).set (fun b _ h=>h)) (hset.wide (fun b hb=>hb.2)) (fun b h=>h)
  (by
   have h1:=congrArg List.length HEq.out
   rw [List.length_map,List.length_map,HR1.out.len,hset.row.len] at h1
   exact h1.symm)
  (fun k p q hp hq=>by
   have h1:=congrArg (fun l=>l[k]?) HEq.out
   simp only [List.getElem?_map,hp,hq,Option.map_some] at h1
   have h2:=Option.some.inj h1
   unfold edsR at h2
   injection h2 with h3 h4
   have n1:=(HNf.out.2.2 p (List.mem_of_getElem? hp)).1
   have n2:=hnr q (List.mem_of_getElem? hq)
   exact ⟨Bd.Nrm.same n1.1 n2.1 h3,Bd.Nrm.same n1.2 n2.2 h4⟩))
 have HB1:=Qh hb1
 clear hset hnf1 hm1 hnr hb1 HGv
 go_wp2_with fail
 (with_reducible refine HSm.out.mono ?_)
 rintro e w2 ⟨he,hb2⟩
 subst he
 have HB2:=Qh (Qt HB1.out hb2)
 have HR2:=Qh (show RRow w2 B (Ft B w2) A n c qs from HRow.out.ft HB2.out)
 clear hb2 HSm HR1 HB1
 by_cases hn0:n=0
 ·subst hn0
  have HI0:=Qh (show Below B w w2 from HB2.out.mono HBz.out)
  go_wp2_with fail
  go_loopw [12] (fun vi wr=>vi = .int .i64 0∧Hid (Below B w wr)) (fun vi _=>0)
  case atStart=>exact ⟨rfl,HI0⟩
  case round=>
   obtain ⟨rfl,HI⟩:=hrel
   clear HI0
   go_wp2_with fail
   exact bodyPost_ret (v:=.bool true) (by simp [results,Tryz.results16,go_sem]) rfl ⟨rfl,HI.out⟩
 ·obtain ⟨g,rfl,hg1,hg2,_⟩:=HR2.out.some_ (by omega)
  have HI0:=Qh (show Below B w w2∧w2.heap.size≤w2.heap.size∧Wr w2 B g n c qs from ⟨HB2.out.mono HBz.out,Nat.le_refl _,Wr.of HR2.out⟩)
  clear hn0
  go_wp2_with fail
  go_loopw [12] (fun vi wr=>∃ i ps,i≤n∧vi = .int .i64 (i:Nat)∧Hid (Below B w wr∧w2.heap.size≤wr.heap.size∧Wr wr B g n c ps)) (fun vi _=>n - (intOf vi).toNat)
  case atStart=>exact ⟨0,qs,Nat.zero_le _,rfl,HI0⟩
  case round=>
   obtain ⟨i,ps,hi,rfl,HI⟩:=hrel
   clear HI0
   by_cases hin:i<n
   ·obtain ⟨p,hp⟩:∃ p,ps[i]?=some p:=⟨ps[i]'(by have:=HI.out.2.2.len;omega),by simp⟩
    have HKp:=Qh (HI.out.2.2.kid p (List.mem_of_getElem? hp))
    have HPp:=Qh hp
    have hmx:=HKp.out.1
    unfold maxLen at hmx
    have hii:(i:Int)<(n:Int):=by omega
    have hi0:(0:Int)≤(i:Int):=by omega
    have HJ0:=Qh HI.out
    clear hp HI HKp
    generalize wr=wo at *
    go_wp2_with fail
    go_loopw [13] (fun vk wr=>∃ k,k≤p.1.n∧vk = .int .i64 (k:Nat)∧Hid (Below B w wr∧w2.heap.size≤wr.heap.size∧Wr wr B g n c ps)) (fun vk _=>p.1.n - (intOf vk).toNat)
    case atStart=>exact ⟨0,Nat.zero_le _,rfl,HJ0⟩
    case round=>
     obtain ⟨k,hk,rfl,HJ⟩:=hrel
     clear HJ0
     obtain ⟨i0,i1,i2,i3,i4,i5⟩:=HJ.out.2.2.cells HPp.out
     have hg3:g<wr.heap.size:=by have:=HJ.out.2.1;omega
     have hk0:(0:Int)≤(k:Int):=by omega
     by_cases hkn:k<p.1.n
     ·obtain ⟨x,o,v,hA,hx1,hx2,hx3,hx4,hx5⟩:=(HJ.out.2.2.kid p (List.mem_of_getElem? HPp.out)).2 k hkn
      have HSt:=Qh (HJ.out.2.2.limb (x:=x) (j:=o+k) (v:=.int .u32 99) hx2)
      have f0:=hx4 (o+k)
      obtain ⟨⟨p1i,p1g,p1A,p1n,p1c,p1l⟩,p2⟩:=p
      simp only at hA hkn hk hmx i0 i1 i2
      subst hA
      have hki:(k:Int)<(p1n:Int):=by omega
      have HX:=Qh (Qa hx1 hx3)
      clear hx4
      go_wp2_with fail
      go_roundw
      case rel=>exact ⟨k+1,by omega,by go_num,Qh ⟨HJ.out.1.setCell HX.out.1 _,by rw [World.size_setCell];exact HJ.out.2.1,HSt.out⟩⟩
      case measure=>simp [intOf];omega
     ·have hki:¬(k:Int)<(p.1.n:Int):=by omega
      have HSt:=Qh (HJ.out.2.2.row HPp.out (⟨7,false,none,0,0,[]⟩,⟨0,false,none,0,0,[]⟩) rfl)
      have hth:=own_th HJ.out.2.2.own
      have f0:=hth (i * 6)
      have f1:=hth (i * 6+1)
      have f2:=hth (i * 6+2)
      have f3:=hth (i * 6+3)
      have f4:=hth (i * 6+4)
      have f5:=hth (i * 6+5)
      have HG:=Qh hg1
      simp only at HSt
      clear hth
      go_wp2_with fail
      go_roundw
      case rel=>exact ⟨i+1,_,by omega,by go_num,Qh ⟨(((((HJ.out.1.setCell HG.out _).setCell HG.out _).setCell HG.out _).setCell HG.out _).setCell HG.out _).setCell HG.out _,by simp only [World.size_setCell];exact HJ.out.2.1,HSt.out⟩⟩
      case measure=>simp [intOf];omega
   ·have hii:¬(i:Int)<(n:Int):=by omega
    go_wp2_with fail
    exact bodyPost_ret (v:=.bool true) (by simp [results,Tryz.results16,go_sem]) rfl ⟨rfl,HI.out.1⟩
end Go.Proofs.YtpikjceodmepiaaGreatDoor
