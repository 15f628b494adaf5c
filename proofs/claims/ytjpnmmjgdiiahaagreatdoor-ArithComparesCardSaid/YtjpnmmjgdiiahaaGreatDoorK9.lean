import Derived.Below
import Derived.Deep.RegionHeld3
import Derived.WalkKit
import Derived.Test.YtjpnmmjgdiiahaaGreatDoorK2
import Derived.Test.YtjpnmmjgdiiahaaGreatDoorK5
import Derived.Test.YtjpnmmjgdiiahaaGreatDoorK6
import Derived.Test.YtjpnmmjgdiiahaaGreatDoorK8
set_option linter.unusedVariables false
set_option linter.unusedSimpArgs false
namespace Go.Proofs.YtjpnmmjgdiiahaaGreatDoor
section
open Go.RowKit Hb Ht
attribute [local go_sem ↓] Go.wp_at_zero Go.wp_at_succ
def sEval:List UInt8:=[101,118,97,108,117,97,116,105,111,110,95,101,114,114,111,114]
def sOver:List UInt8:=[102,108,111,97,116,95,111,118,101,114,102,108,111,119]
def sZero:List UInt8:=[122,101,114,111,95,100,105,118,105,115,111,114]
def sRes:List UInt8:=[114,101,115,111,117,114,99,101,95,101,114,114,111,114]
def sBits:List UInt8:=[98,105,116,115]
def evT (s:List UInt8):Tm:=cmpT sEval [atomT s]
theorem atom_row {s s0:List UInt8} {nb:ByteArray} (hs:(⟨s.toArray⟩:ByteArray)=nb) (hl:s.length≤1000) (hl0:s0.length≤1000) {w1 w':World} {lo:Nat} (hlo:lo≤w1.heap.size)
  (hb:Below (w1.alloc (.cells #[.int .i64 2,.string nb,.string ⟨#[]⟩,.int .u64 0,.int .i64 0,.slice none 0 0] 25)).heap.size (w1.alloc (.cells #[.int .i64 2,.string nb,.string ⟨#[]⟩,.int .u64 0,.int .i64 0,.slice none 0 0] 25)) w') :
  TAtP w' (fun b=>lo≤b∧b<w'.heap.size) (cmpT s0 [atomT s]) (.slice (some ⟨w1.heap.size,0,none⟩) 1 1):=by
 subst hs
 have hz:=hb.size
 rw [World.size_alloc] at hz
 have h1:(w1.alloc (.cells #[.int .i64 2,.string ⟨s.toArray⟩,.string ⟨#[]⟩,.int .u64 0,.int .i64 0,.slice none 0 0] 25)).heap[w1.heap.size]?=some (.cells (Ht.fl6 [(atomT s,.slice none 0 0)]).toArray 25 (0,0)):=heap_alloc_new w1 _
 have h2:w'.heap[w1.heap.size]?=some (.cells (Ht.fl6 [(atomT s,.slice none 0 0)]).toArray 25 (0,0)):=(hb.block _ (by rw [World.size_alloc];omega)).trans h1
 refine RowP.term (RowP.block h2 (P:=fun b=>lo≤b∧b<w'.heap.size) (fun p hp=>?_)) (fun g o _ e=>?_) rfl (Nat.le_refl _) (by unfold maxLen;simp) (by unfold maxArgs;simp) (okF_cmp (by unfold maxLen;omega))
 ·simp only [List.mem_singleton] at hp
  subst hp
  exact TAtP.leaf _ _ (t:=atomT s) rfl (by unfold maxLen;omega) (okF_atom (by unfold maxLen;omega))
 ·injection e with e;injection e with e;omega
set_option maxRecDepth 100000 in
theorem evaluation_ok {s:List UInt8} {nb:ByteArray} (hs:(⟨s.toArray⟩:ByteArray)=nb) (hl:s.length≤1000) (w:World):Calls Tryz.prog 101 #[.string nb] w fun e w'=>∃ v,e = .returned v∧BallP w' w.heap.size (evT s) v∧Below w.heap.size w w':=by
 have HR:=Lib.hid (fun (w1 w':World) h1 h2=>atom_row (s0:=sEval) hs hl (by decide) (w1:=w1) (w':=w') (lo:=w.heap.size) h1 h2)
 go_enter Tryz.func101,Tryz.ntmps101
 go_wp2_with fail
 refine (atom_any _ _).mono ?_
 rintro e w1 ⟨rfl,hb1⟩
 go_wp2_with fail
 refine (of_any _ _ _ _ _).mono ?_
 rintro e w2 ⟨rfl,hb2⟩
 go_wp2_with fail
 refine (throw_any 5 0 0 sEval [] [atomT s] _ _ rfl rfl _ _ _ _).mono ?_
 rintro e w3 ⟨g,rfl,hg,hbx,hb3⟩
 go_wp2_with fail
 go_ret
 have hz1:=hb1.size
 have hz2:=hb2.size
 have hz:=World.size_alloc w1 (.cells #[.int .i64 2,.string nb,.string ⟨#[]⟩,.int .u64 0,.int .i64 0,.slice none 0 0] 25)
 refine ⟨_,rfl,⟨g,_,rfl,by omega,hbx,HR.out _ _ hz1 (hb2.trans (hb3.mono hz2))⟩,?_⟩
 exact (hb1.alloc hz1 _).trans ((hb2.trans (hb3.mono hz2)).mono (by omega))
set_option maxRecDepth 100000 in
theorem resource_ok (w:World):Calls Tryz.prog 167 #[] w fun e w'=>∃ v,e = .returned v∧BallP w' w.heap.size (cmpT sRes [atomT sBits]) v∧Below w.heap.size w w':=by
 have HR:=Lib.hid (fun (w1 w':World) h1 h2=>atom_row (s:=sBits) (s0:=sRes) rfl (by decide) (by decide) (w1:=w1) (w':=w') (lo:=w.heap.size) h1 h2)
 go_enter Tryz.func167,Tryz.ntmps167
 go_wp2_with fail
 refine (atom_any _ _).mono ?_
 rintro e w1 ⟨rfl,hb1⟩
 go_wp2_with fail
 refine (of_any _ _ _ _ _).mono ?_
 rintro e w2 ⟨rfl,hb2⟩
 go_wp2_with fail
 refine (throw_any 5 0 0 sRes [] [atomT sBits] _ _ rfl rfl _ _ _ _).mono ?_
 rintro e w3 ⟨g,rfl,hg,hbx,hb3⟩
 go_wp2_with fail
 go_ret
 have hz1:=hb1.size
 have hz2:=hb2.size
 have hz:=World.size_alloc w1 (.cells #[.int .i64 2,.string ⟨#[98,105,116,115]⟩,.string ⟨#[]⟩,.int .u64 0,.int .i64 0,.slice none 0 0] 25)
 refine ⟨_,rfl,⟨g,_,rfl,by omega,hbx,HR.out _ _ hz1 (hb2.trans (hb3.mono hz2))⟩,?_⟩
 exact (hb1.alloc hz1 _).trans ((hb2.trans (hb3.mono hz2)).mono (by omega))
theorem LimP.notN {w:World} {P:Nat→Prop} {A:Option Addr} {n c:Nat} {l:List Nat} (h:LimP w P A n c l) {B:Nat} {q0:Nv} (hb:NBox w B q0):LimP w (fun b=>P b∧b≠B) A n c l:=by
 refine ⟨h.len,h.cap,h.max,h.dig,fun hl=>?_⟩
 obtain ⟨b,o,e,hp,hc⟩:=h.rd hl
 refine ⟨b,o,e,⟨hp,fun e9=>?_⟩,hc⟩
 subst e9
 cases l with
 | nil=>exact hl rfl
 | cons x l=>
  have h0:=hc 0 (.int .u32 x) rfl
  unfold NBox at hb
  simp only [World.cell?,hb,Nv.vals] at h0
  rcases (by omega:o=0∨o=1∨o=2∨o=3∨4≤o) with rfl | rfl | rfl | rfl | h9
  ·simp at h0
  ·simp at h0
  ·simp at h0
  ·simp at h0
  ·obtain ⟨k,rfl⟩:∃ k,o=k+4:=⟨o - 4,by omega⟩
   simp at h0
theorem Nv.At.notN {w:World} {P:Nat→Prop} {q:Nv} (h:q.At w P) {B:Nat} {q0:Nv} (hb:NBox w B q0):q.At w (fun b=>P b∧b≠B):=⟨h.lim.notN hb,h.sm,h.fl,h.sh⟩
theorem Nv.At.gro {w w':World} {P:Nat→Prop} {q:Nv} (h:q.At w P) (hP:∀ b,P b→b<w.heap.size) {B:Nat} {q0:Nv} (hb:NBox w B q0) (hg:w.grownBy w' (some B)):q.At w' P:=
 (h.notN hb).keep fun b hp=>⟨hp.1,hg.block b (hP b hp.1) (fun e=>by injection e with e;exact hp.2 (by omega))⟩
theorem Out.gro {w w':World} {lo lb:Nat} {r:Rs} {q:Nv} {ev:Value} (h:Out w lo lb r q ev) {B:Nat} {q0:Nv} (hb:NBox w B q0) (hB:B<lb) (hg:w.grownBy w' (some B)):Out w' lo lb r q ev:=by
 rcases h with ⟨h1,h2,h3⟩ | ⟨t,h1,h2,h3⟩
 ·exact .inl ⟨h1,h2,(h3.gro (fun b h=>h.2) hb hg).wide (fun b h=>⟨h.1,Nat.lt_of_lt_of_le h.2 hg.size⟩)⟩
 ·exact .inr ⟨t,h1,h2,h3.gro hg hB⟩
theorem NPost.fin {w W W':World} {r:Rs} {q q0:Nv} {ev:Value} {B lo:Nat} (hb:Below w.heap.size w W) (hB:w.heap.size≤B) (hbox:NBox W B q0) (ho:Out W lo (B+1) r q ev) (hg:W.grownBy W' (some B)):NPostL lo w r (.returned (.tuple #[q.v,ev])) W':=
 ⟨hb.grown hg hb.size (fun j e=>by injection e with e;omega),q,ev,rfl,(ho.gro hbox (by omega) hg).lower (Nat.le_refl _) (by omega)⟩
def flowR (F:Nat):Rs:=match flowM F with
 | none=>.bad (evT sOver)
 | some G=>.ok (.flo G)
theorem order_zero {F:Nat} (h:Num64 F):∃ s r,F=Ieee.double.word s r∧r≤9218868437227405312∧F % 9223372036854775808=r∧Ieee.double.order F 0=some (if r=0 then .eq else if s then .lt else .gt):=by
 obtain ⟨s,r,rfl,hr⟩:=h
 refine ⟨s,r,rfl,hr,?_,?_⟩
 ·rw [word_val];cases s <;> simp <;> omega
 ·by_cases h0:r=0
  ·subst h0;rw [if_pos rfl];exact order_word0 s
  ·rw [if_neg h0];exact order_word (by omega) hr
theorem run_store_float (P:Program) (w:World) (a:Addr) (m:Mode) (k:FloatKind) (b:Nat):(store a (.float k b) m).run P w=stored P w a (.float k b) m:=run_store P w a _ m rfl
attribute [local go_sem] run_store_float
set_option maxRecDepth 100000 in
set_option maxHeartbeats 2000000 in
theorem flow_ok {F:Nat} (hF:Num64 F) (w:World):Calls Tryz.prog 77 #[.float .f64 F] w (NPost w (flowR F)):=by
 obtain ⟨s,r,hFw,hr,hFr,ho⟩:=order_zero hF
 have hX:=NBox.new w nought
 have HB:=Lib.hid (show Below w.heap.size w (w.alloc (.cells nought.vals.toArray 70)) from (Below.refl _ _).alloc (Nat.le_refl _) _)
 have HZ:=Lib.hid (World.size_alloc w (.cells nought.vals.toArray 70))
 have HF:=Lib.hid hF
 have HW:=Lib.hid hFw
 have HX:=Lib.hid hX
 simp only [nought,Nv.vals] at HX HB HZ
 clear hX hF hFw
 by_cases hinf:r=9218868437227405312
 ·have HI:=Lib.hid (IsInf_w HF.out (b:=true) (by rw [hFr,hinf];rfl))
  have HR:=Lib.hid (show flowR F = .bad (evT sOver) from by unfold flowR flowM;rw [hFr,if_pos hinf])
  clear ho hFr hr hinf
  go_enter Tryz.func77,Tryz.ntmps77
  go_upto_region 1 with fail
  generalize w.alloc (.cells #[.bool false,.slice none 0 0,.float .f64 0,.bool false] 70)=w0 at *
  go_wp2_with fail
  refine (HI.out _).mono ?_
  rintro e w1 ⟨rfl,rfl⟩
  go_wp2_with fail
  refine (evaluation_ok (s:=sOver) rfl (by decide) _).mono ?_
  rintro e w2 ⟨v,rfl,hv,hb2⟩
  obtain ⟨g,rfl⟩:=hv.iface
  have hX2:=HX.out.below hb2 HX.out.lt
  obtain ⟨c0,c1,c2,c3⟩:=hX2.cells
  obtain ⟨z0,z1,z2,z3⟩:=hX2.frozens
  have hS:=hX2.set4 nought
  simp only [nought] at hS c0 c1 c2 c3
  have HV:=Lib.hid hv
  have HB2:=Lib.hid hb2
  clear hv hb2
  go_wp2_with fail
  obtain ⟨r0,r1,r2,r3⟩:=hS.1.cells
  simp only at r0 r1 r2 r3
  refine bodyPost_ret (v:=.tuple #[.agg #[.bool false,.slice none 0 0,.float .f64 0,.bool false],.iface 95 (.pointer (some ⟨g,0,none⟩))]) (by simp [results,Tryz.results77,go_sem,r0,r1,r2,r3]) rfl ?_
  have hz:=HZ.out
  rw [HR.out]
  exact NPost.fin (q:=nought) (HB.out.trans (HB2.out.mono (by omega))) (Nat.le_refl _) hX2 (.inr ⟨_,rfl,rfl,HV.out.lower (by omega)⟩) hS.2
 ·have HI:=Lib.hid (IsInf_w HF.out (b:=false) (by rw [hFr];exact decide_eq_false hinf))
  have HN:=Lib.hid (IsNaN_w HF.out)
  have hrl:r<9218868437227405312:=by omega
  obtain ⟨b0,hb0⟩:∃ b,(FloatKind.f64.format.order F 0==some .eq)=b:=⟨_,rfl⟩
  by_cases h0:r=0
  ·have hb9:b0=true:=by rw [←hb0,show FloatKind.f64.format.order F 0=_ from ho,if_pos h0];rfl
   subst hb9
   have HR:=Lib.hid (show flowR F = .ok (.flo 0) from by unfold flowR flowM;rw [hFr,if_neg hinf,if_pos h0])
   have HA:=Lib.hid (Abs_w (F:=0) (R:=0) (by decide) (by decide))
   have HS:=Lib.hid (sign_f (F:=0) (o:=.eq) (by decide +kernel))
   have hmul:∀ w1,(binOp .mul 68 (.float .f64 0) (.float .f64 0)).run Tryz.prog w1 = .ok (.float .f64 0) w1:=fun w1=>run_float_arith w1 .mul _ .f64 _ _ _ mul_nought
   have HG:=Lib.hid flo0
   have hX2:=HX.out
   obtain ⟨c0,c1,c2,c3⟩:=hX2.cells
   obtain ⟨z0,z1,z2,z3⟩:=hX2.frozens
   have hS:=hX2.set4 (flv 0)
   simp only [flv] at hS c0 c1 c2 c3
   clear ho hFr hr hinf hrl h0
   go_enter Tryz.func77,Tryz.ntmps77
   go_upto_region 1 with fail
   generalize w.alloc (.cells #[.bool false,.slice none 0 0,.float .f64 0,.bool false] 70)=w0 at *
   go_wp2_with (first
    | (go_at_call 165;(with_reducible refine (HI.out _).mono ?_);rintro e w1 ⟨rfl,rfl⟩)
    | (go_at_call 166;(with_reducible refine (HN.out _).mono ?_);rintro e w1 ⟨rfl,rfl⟩)
    | (go_at_call 86;(with_reducible refine (HA.out _).mono ?_);rintro e w1 ⟨rfl,rfl⟩)
    | (go_at_call 64;(with_reducible refine (HS.out _).mono ?_);simp only [sgB];rintro e w1 ⟨rfl,rfl⟩))
   obtain ⟨r0,r1,r2,r3⟩:=hS.1.cells
   simp only at r0 r1 r2 r3
   refine bodyPost_ret (v:=.tuple #[.agg #[.bool false,.slice none 0 0,.float .f64 0,.bool true],.nilIface]) (by simp [results,Tryz.results77,go_sem,r0,r1,r2,r3]) rfl ?_
   have hz:=HZ.out
   rw [HR.out]
   exact NPost.fin (q:=flv 0) HB.out (Nat.le_refl _) hX2 (.inl ⟨rfl,rfl,flv_at _ _ HG.out⟩) hS.2
  ·have hb9:b0=false:=by rw [←hb0,show FloatKind.f64.format.order F 0=_ from ho,if_neg h0];cases s <;> rfl
   subst hb9
   have HR:=Lib.hid (show flowR F = .ok (.flo F) from by unfold flowR flowM;rw [hFr,if_neg hinf,if_neg h0])
   have HG:=Lib.hid (show Flo64 F from flowM_flo HF.out (by unfold flowM;rw [hFr,if_neg hinf,if_neg h0]))
   have HA:=Lib.hid (Abs_w (num_lt HF.out).1 hFr)
   obtain ⟨sg,hsg⟩:∃ x,(if s then 13830554455654793216 else 4607182418800017408)=x:=⟨_,rfl⟩
   have HS:=Lib.hid (sign_f ho)
   rw [if_neg h0,show sgB (if s then .lt else .gt)=sg from by rw [←hsg];cases s <;> rfl] at HS
   have hmul:∀ w1,(binOp .mul 68 (.float .f64 r) (.float .f64 sg)).run Tryz.prog w1 = .ok (.float .f64 F) w1:=fun w1=>run_float_arith w1 .mul _ .f64 _ _ _ (by rw [←hsg,HW.out];exact mul_sign s hrl (by omega))
   have hX2:=HX.out
   obtain ⟨c0,c1,c2,c3⟩:=hX2.cells
   obtain ⟨z0,z1,z2,z3⟩:=hX2.frozens
   have hS:=hX2.set4 (flv F)
   simp only [flv] at hS c0 c1 c2 c3
   clear ho hFr hr hinf hrl h0 hsg
   go_enter Tryz.func77,Tryz.ntmps77
   go_upto_region 1 with fail
   generalize w.alloc (.cells #[.bool false,.slice none 0 0,.float .f64 0,.bool false] 70)=w0 at *
   go_wp2_with (first
    | (go_at_call 165;(with_reducible refine (HI.out _).mono ?_);rintro e w1 ⟨rfl,rfl⟩)
    | (go_at_call 166;(with_reducible refine (HN.out _).mono ?_);rintro e w1 ⟨rfl,rfl⟩)
    | (go_at_call 86;(with_reducible refine (HA.out _).mono ?_);rintro e w1 ⟨rfl,rfl⟩)
    | (go_at_call 64;(with_reducible refine (HS.out _).mono ?_);rintro e w1 ⟨rfl,rfl⟩))
   obtain ⟨r0,r1,r2,r3⟩:=hS.1.cells
   simp only at r0 r1 r2 r3
   refine bodyPost_ret (v:=.tuple #[.agg #[.bool false,.slice none 0 0,.float .f64 F,.bool true],.nilIface]) (by simp [results,Tryz.results77,go_sem,r0,r1,r2,r3]) rfl ?_
   have hz:=HZ.out
   rw [HR.out]
   exact NPost.fin (q:=flv F) HB.out (Nat.le_refl _) hX2 (.inl ⟨rfl,rfl,flv_at _ _ HG.out⟩) hS.2
end
section
open Go.RowKit Hb Ht
attribute [local go_sem ↓] Go.wp_at_zero Go.wp_at_succ
attribute [local go_sem] run_store_float
def wholeR (z E:Int):Rs:=if E=0 then .ok (.int z) else if E=11 then .bad (evT sZero) else .bad (cmpT sRes [atomT sBits])
def KBox (w:World) (B:Nat) (g:Bool) (A:Option Addr) (n c:Nat):Prop:=w.heap[B]?=some (.cells #[.bool g,.slice A n c] 39 (0,0))
theorem KBox.lt {w:World} {B:Nat} {g:Bool} {A:Option Addr} {n c:Nat} (h:KBox w B g A n c):B<w.heap.size:=(Array.getElem?_eq_some_iff.1 h).1
theorem KBox.below {w w':World} {B C:Nat} {g:Bool} {A:Option Addr} {n c:Nat} (h:KBox w B g A n c) (hb:Below C w w') (hB:B<C):KBox w' B g A n c:=(hb.block B hB).trans h
theorem KBox.cells {w:World} {B:Nat} {g:Bool} {A:Option Addr} {n c:Nat} (h:KBox w B g A n c):w.cell? ⟨B,0,none⟩=some (.bool g)∧w.cell? ⟨B,1,none⟩=some (.slice A n c):=by
 unfold KBox at h
 refine ⟨?_,?_⟩ <;> simp [World.cell?,h]
theorem KBox.new (w:World) (g:Bool) (A:Option Addr) (n c:Nat):KBox (w.alloc (.cells #[.bool g,.slice A n c] 39)) w.heap.size g A n c:=heap_alloc_new w _
set_option maxRecDepth 100000 in
set_option maxHeartbeats 2000000 in
theorem whole_ok {lo:Nat} {g:Bool} {A:Option Addr} {n c:Nat} {l:List Nat} {z E:Int} (w:World) (hE:E=0→LimP w (fun b=>lo≤b∧b<w.heap.size) A n c l∧n≤10000∧ival g l=z∧tooLong z=false) :
  Calls Tryz.prog 83 #[.agg #[.bool g,.slice A n c],.int .i64 E] w (NPostL lo w (wholeR z E)):=by
 have hK:=KBox.new w g A n c
 have hB0:Below w.heap.size w (w.alloc (.cells #[.bool g,.slice A n c] 39)):=(Below.refl _ _).alloc (Nat.le_refl _) _
 have hZ0:=World.size_alloc w (.cells #[.bool g,.slice A n c] 39)
 have HE:=Lib.hid hE
 have hX:=NBox.new (w.alloc (.cells #[.bool g,.slice A n c] 39)) nought
 have hB1:Below w.heap.size w ((w.alloc (.cells #[.bool g,.slice A n c] 39)).alloc (.cells nought.vals.toArray 70)):=hB0.alloc hB0.size _
 have hK1:=hK.below ((Below.refl _ _).alloc (Nat.le_refl _) (.cells nought.vals.toArray 70)) hK.lt
 have hZ1:=World.size_alloc (w.alloc (.cells #[.bool g,.slice A n c] 39)) (.cells nought.vals.toArray 70)
 rw [hZ0] at hX hZ1
 have HX:=Lib.hid hX
 have HB:=Lib.hid hB1
 have HZ:=Lib.hid hZ1
 have HK:=Lib.hid hK1
 simp only [nought,Nv.vals] at HX HB HZ HK
 clear hX hK hB0 hZ0 hB1 hK1 hZ1 hE
 by_cases h0:E=0
 ·have HR:=Lib.hid (show wholeR z E = .ok (.int z) from by unfold wholeR;rw [if_pos h0])
  have HE0:=Lib.hid (HE.out h0)
  subst h0
  obtain ⟨k0,k1⟩:=HK.out.cells
  obtain ⟨c0,c1,c2,c3⟩:=HX.out.cells
  obtain ⟨z0,z1,z2,z3⟩:=HX.out.frozens
  have hS:=HX.out.set4 ⟨g,A,n,c,l,0,false⟩
  simp only at hS c0 c1 c2 c3
  clear HE
  go_enter Tryz.func83,Tryz.ntmps83
  go_upto_region 1 with fail
  generalize (w.alloc (.cells #[.bool g,.slice A n c] 39)).alloc (.cells #[.bool false,.slice none 0 0,.float .f64 0,.bool false] 70)=w0 at *
  go_wp2_with fail
  obtain ⟨r0,r1,r2,r3⟩:=hS.1.cells
  simp only at r0 r1 r2 r3
  refine bodyPost_ret (v:=.tuple #[.agg #[.bool g,.slice A n c,.float .f64 0,.bool false],.nilIface]) (by simp [results,Tryz.results83,go_sem,r0,r1,r2,r3]) rfl ?_
  rw [HR.out]
  have hz:=HZ.out
  obtain ⟨e1,e2,e3,e4⟩:=HE0.out
  have hat:Nv.At w0 (fun b=>lo≤b∧b<w0.heap.size) ⟨g,A,n,c,l,0,false⟩:=⟨e1.keep (fun b hb=>⟨by omega,HB.out.block b hb.2⟩),e2,flo0,by rw [show ival _ _=z from e3];exact e4⟩
  have hnm:Nv.nm ⟨g,A,n,c,l,0,false⟩ = .int z:=by unfold Nv.nm;simp only [Bool.false_eq_true,if_false];rw [e3]
  exact NPost.fin (q:=⟨g,A,n,c,l,0,false⟩) HB.out (by omega) HX.out (.inl ⟨by rw [hnm],rfl,hat⟩) hS.2
 ·have d0:(E==0)=false:=beq_eq_false_iff_ne.2 h0
  obtain ⟨b1,d1⟩:∃ b,(E==11)=b:=⟨_,rfl⟩
  have HR:=Lib.hid (show wholeR z E = .bad (if b1 then evT sZero else cmpT sRes [atomT sBits]) from by
   unfold wholeR
   rw [if_neg h0]
   cases b1
   ·rw [if_neg (by simpa using d1)];rfl
   ·rw [if_pos (by simpa using d1)];rfl)
  clear HE h0
  cases b1
  ·go_enter Tryz.func83,Tryz.ntmps83
   go_upto_region 1 with fail
   generalize (w.alloc (.cells #[.bool g,.slice A n c] 39)).alloc (.cells #[.bool false,.slice none 0 0,.float .f64 0,.bool false] 70)=w0 at *
   go_wp2_with fail
   refine (resource_ok _).mono ?_
   rintro e w2 ⟨v,rfl,hv,hb2⟩
   obtain ⟨gg,rfl⟩:=hv.iface
   have hX2:=HX.out.below hb2 HX.out.lt
   obtain ⟨c0,c1,c2,c3⟩:=hX2.cells
   obtain ⟨z0,z1,z2,z3⟩:=hX2.frozens
   have hS:=hX2.set4 nought
   simp only [nought] at hS c0 c1 c2 c3
   have HV:=Lib.hid hv
   have HB2:=Lib.hid hb2
   clear hv hb2
   go_wp2_with fail
   obtain ⟨r0,r1,r2,r3⟩:=hS.1.cells
   simp only at r0 r1 r2 r3
   refine bodyPost_ret (v:=.tuple #[.agg #[.bool false,.slice none 0 0,.float .f64 0,.bool false],.iface 95 (.pointer (some ⟨gg,0,none⟩))]) (by simp [results,Tryz.results83,go_sem,r0,r1,r2,r3]) rfl ?_
   have hz:=HZ.out
   rw [HR.out]
   exact NPost.fin (q:=nought) (HB.out.trans (HB2.out.mono (by omega))) (by omega) hX2 (.inr ⟨_,rfl,rfl,HV.out.lower (by omega)⟩) hS.2
  ·go_enter Tryz.func83,Tryz.ntmps83
   go_upto_region 1 with fail
   generalize (w.alloc (.cells #[.bool g,.slice A n c] 39)).alloc (.cells #[.bool false,.slice none 0 0,.float .f64 0,.bool false] 70)=w0 at *
   go_wp2_with fail
   refine (evaluation_ok (s:=sZero) rfl (by decide) _).mono ?_
   rintro e w2 ⟨v,rfl,hv,hb2⟩
   obtain ⟨gg,rfl⟩:=hv.iface
   have hX2:=HX.out.below hb2 HX.out.lt
   obtain ⟨c0,c1,c2,c3⟩:=hX2.cells
   obtain ⟨z0,z1,z2,z3⟩:=hX2.frozens
   have hS:=hX2.set4 nought
   simp only [nought] at hS c0 c1 c2 c3
   have HV:=Lib.hid hv
   have HB2:=Lib.hid hb2
   clear hv hb2
   go_wp2_with fail
   obtain ⟨r0,r1,r2,r3⟩:=hS.1.cells
   simp only at r0 r1 r2 r3
   refine bodyPost_ret (v:=.tuple #[.agg #[.bool false,.slice none 0 0,.float .f64 0,.bool false],.iface 95 (.pointer (some ⟨gg,0,none⟩))]) (by simp [results,Tryz.results83,go_sem,r0,r1,r2,r3]) rfl ?_
   have hz:=HZ.out
   rw [HR.out]
   exact NPost.fin (q:=nought) (HB.out.trans (HB2.out.mono (by omega))) (by omega) hX2 (.inr ⟨_,rfl,rfl,HV.out.lower (by omega)⟩) hS.2
def floR:Nm→Option Nat
 | .flo f=>some f
 | .int z=>if tfC z=0 then some (tfB z) else none
def FlPost (w:World) (x:Nm) (e:Ending) (w':World):Prop:=Below w.heap.size w w'∧∃ F v,e = .returned (.tuple #[.float .f64 F,v]) ∧
 ((floR x=some F∧Flo64 F∧v = .nilIface)∨(floR x=none∧BallP w' w.heap.size (evT sOver) v))
theorem tfB_flo {z:Int} (hl:tooLong z=false) (hc:tfC z=0):Flo64 (tfB z):=by
 unfold tfC at hc
 unfold tfB
 rw [hl] at hc ⊢
 simp only [Bool.false_eq_true,if_false] at hc ⊢
 by_cases h0:z=0
 ·rw [if_pos h0];exact flo0
 ·rw [if_neg h0]
  have hz:z.natAbs≠0:=by omega
  cases hi:flInf z.natAbs with
  | true=>rw [hi] at hc;simp at hc
  | false=>
   simp only [Bool.false_eq_true,if_false]
   unfold flInf at hi
   simp only [Bool.or_eq_false_iff,decide_eq_false_iff_not] at hi
   obtain ⟨h1,h2⟩:=flBits_le hz (by omega)
   have h3:flBits z.natAbs≠9218868437227405312:=hi.2
   unfold Flo64 Fin64
   split <;> omega
set_option maxRecDepth 100000 in
set_option maxHeartbeats 2000000 in
theorem floated_ok {q:Nv} {w:World} (hq:q.At w (fun b=>b<w.heap.size)):Calls Tryz.prog 76 #[q.v] w (FlPost w q.nm):=by
 have hX:=NBox.new w q
 have HB:=Lib.hid (show Below w.heap.size w (w.alloc (.cells q.vals.toArray 70)) from (Below.refl _ _).alloc (Nat.le_refl _) _)
 have HZ:=Lib.hid (World.size_alloc w (.cells q.vals.toArray 70))
 have HX:=Lib.hid hX
 have HQ:=Lib.hid hq
 obtain ⟨g,A,n,c,l,f,b⟩:=q
 simp only [Nv.vals] at HX HB HZ
 show Calls Tryz.prog 76 #[.agg #[.bool g,.slice A n c,.float .f64 f,.bool b]] w _
 obtain ⟨c0,c1,c2,c3⟩:=HX.out.cells
 simp only at c0 c1 c2 c3
 clear hX hq
 cases b
 ·have hnm:Nv.nm ⟨g,A,n,c,l,f,false⟩ = .int (ival g l):=rfl
  rw [hnm]
  have HT:=Lib.hid (fun (y:World) (hy:Below w.heap.size w y)=>ToFloat_any g (w:=y) (((HQ.out.keep (w':=y) (Q:=fun b=>b<y.heap.size) (fun b hb=>⟨Nat.lt_of_lt_of_le hb hy.size,hy.block b hb⟩)).lim).sl (fun b hb=>hb)) (Nat.le_trans HQ.out.sm (by decide)) (x:=ival g l) rfl rfl rfl)
  obtain ⟨F,hF⟩:∃ F,tfB (ival g l)=F:=⟨_,rfl⟩
  obtain ⟨co,hco⟩:∃ F,tfC (ival g l)=F:=⟨_,rfl⟩
  rw [hF,hco] at HT
  have hb:=run_frombits F
  by_cases h0:co=0
  ·subst h0
   have HK:=Lib.hid (show floR (.int (ival g l))=some F∧Flo64 F from ⟨by show (if tfC (ival g l)=0 then some (tfB (ival g l)) else none)=some F;rw [if_pos hco,hF],by rw [←hF];exact tfB_flo HQ.out.sh hco⟩)
   clear hF hco
   go_enter Tryz.func76,Tryz.ntmps76
   go_upto_region 1 with fail
   generalize w.alloc (.cells #[.bool g,.slice A n c,.float .f64 f,.bool false] 70)=w0 at *
   go_wp2_with fail
   refine (HT.out _ HB.out).mono ?_
   rintro e w1 ⟨rfl,hb1⟩
   go_wp2_with fail
   exact bodyPost_ret (v:=.tuple #[.float .f64 F,.nilIface]) (by simp [results,Tryz.results76,go_sem]) rfl ⟨HB.out.trans (hb1.mono HB.out.size),F,.nilIface,rfl,.inl ⟨HK.out.1,HK.out.2,rfl⟩⟩
  ·have d0:(co==0)=false:=beq_eq_false_iff_ne.2 h0
   have HK:=Lib.hid (show floR (.int (ival g l))=none from by show (if tfC (ival g l)=0 then some (tfB (ival g l)) else none)=none;rw [if_neg (by rw [hco];exact h0)])
   clear hF hco h0
   go_enter Tryz.func76,Tryz.ntmps76
   go_upto_region 1 with fail
   generalize w.alloc (.cells #[.bool g,.slice A n c,.float .f64 f,.bool false] 70)=w0 at *
   go_wp2_with fail
   refine (HT.out _ HB.out).mono ?_
   rintro e w1 ⟨rfl,hb1⟩
   go_wp2_with fail
   refine (evaluation_ok (s:=sOver) rfl (by decide) _).mono ?_
   rintro e w2 ⟨v,rfl,hv,hb2⟩
   obtain ⟨gg,rfl⟩:=hv.iface
   go_wp2_with fail
   have hz1:=hb1.size
   have hzz:=HB.out.size
   exact bodyPost_ret (v:=.tuple #[.float .f64 0,.iface 95 (.pointer (some ⟨gg,0,none⟩))]) (by simp [results,Tryz.results76,go_sem]) rfl ⟨(HB.out.trans (hb1.mono HB.out.size)).trans (hb2.mono (by omega)),0,_,rfl,.inr ⟨HK.out,hv.lower (by omega)⟩⟩
 ·have hnm:Nv.nm ⟨g,A,n,c,l,f,true⟩ = .flo f:=rfl
  rw [hnm]
  go_enter Tryz.func76,Tryz.ntmps76
  go_upto_region 1 with fail
  generalize w.alloc (.cells #[.bool g,.slice A n c,.float .f64 f,.bool true] 70)=w0 at *
  go_wp2_with fail
  exact bodyPost_ret (v:=.tuple #[.float .f64 f,.nilIface]) (by simp [results,Tryz.results76,go_sem]) rfl ⟨HB.out,f,.nilIface,rfl,.inl ⟨rfl,HQ.out.fl,rfl⟩⟩
def IPost (w:World) (z co:Int) (e:Ending) (w':World):Prop:=Below w.heap.size w w'∧∃ g A n c l,e = .returned (.tuple #[.agg #[.bool g,.slice A n c],.int .i64 co])∧(co=0→LimP w' (fun b=>w.heap.size≤b∧b<w'.heap.size) A n c l∧n≤10000∧ival g l=z∧tooLong z=false)
def FnB (f:FuncId):Prop:=∀ (args:Array Value) (w:World),(callFunc f args).run Tryz.prog w = .ok (.enter f args) w
def bothR (I:Int→Int→Int × Int) (Fo:Nat→Nat→Nat):Nm→Nm→Rs
 | .int a,.int b=>wholeR (I a b).1 (I a b).2
 | x,y=>match floR x with
  | none=>.bad (evT sOver)
  | some a=>match floR y with
   | none=>.bad (evT sOver)
   | some b=>flowR (Fo a b)
theorem bothR_flo {I:Int→Int→Int × Int} {Fo:Nat→Nat→Nat} {x y:Nm} (h:(∃ f,x = .flo f)∨(∃ f,y = .flo f)):bothR I Fo x y=match floR x with
  | none=>.bad (evT sOver)
  | some a=>match floR y with
   | none=>.bad (evT sOver)
   | some b=>flowR (Fo a b):=by
 cases x <;> cases y <;> first | rfl | (rcases h with ⟨f,h⟩ | ⟨f,h⟩ <;> cases h)
set_option maxRecDepth 100000 in
set_option maxHeartbeats 4000000 in
theorem both_ok {q1 q2:Nv} {ui uf:Value} {w:World} (h1:q1.At w (fun b=>b<w.heap.size)) (h2:q2.At w (fun b=>b<w.heap.size)) (I:Int→Int→Int × Int) (Fo:Nat→Nat→Nat)
  (hI:∀ a b,q1.nm = .int a→q2.nm = .int b→∃ fi,ui = .func (.func fi) #[] #[]∧FnB fi∧∀ y,Below w.heap.size w y→Calls Tryz.prog fi #[.agg #[.bool q1.g,.slice q1.A q1.n q1.c],.agg #[.bool q2.g,.slice q2.A q2.n q2.c]] y (IPost y (I a b).1 (I a b).2))
  (hF:(∃ f,q1.nm = .flo f)∨(∃ f,q2.nm = .flo f)→∃ ff,uf = .func (.func ff) #[] #[]∧FnB ff∧∀ a b,floR q1.nm=some a→floR q2.nm=some b→Num64 (Fo a b)∧∀ y,Calls Tryz.prog ff #[.float .f64 a,.float .f64 b] y (fun e w'=>e = .returned (.float .f64 (Fo a b))∧y=w')) :
  Calls Tryz.prog 107 #[q1.v,q2.v,ui,uf] w (NPost w (bothR I Fo q1.nm q2.nm)):=by
 have hX1:=NBox.new w q1
 have hB1:Below w.heap.size w (w.alloc (.cells q1.vals.toArray 70)):=(Below.refl _ _).alloc (Nat.le_refl _) _
 have hZ1:=World.size_alloc w (.cells q1.vals.toArray 70)
 have hX2:=NBox.new (w.alloc (.cells q1.vals.toArray 70)) q2
 have hB2:=hB1.alloc hB1.size (.cells q2.vals.toArray 70)
 have hZ2:=World.size_alloc (w.alloc (.cells q1.vals.toArray 70)) (.cells q2.vals.toArray 70)
 have hX1b:=hX1.below ((Below.refl _ _).alloc (Nat.le_refl _) (.cells q2.vals.toArray 70)) hX1.lt
 have hX0:=NBox.new ((w.alloc (.cells q1.vals.toArray 70)).alloc (.cells q2.vals.toArray 70)) nought
 have hB3:=hB2.alloc hB2.size (.cells nought.vals.toArray 70)
 have hZ3:=World.size_alloc ((w.alloc (.cells q1.vals.toArray 70)).alloc (.cells q2.vals.toArray 70)) (.cells nought.vals.toArray 70)
 have hX1c:=hX1b.below ((Below.refl _ _).alloc (Nat.le_refl _) (.cells nought.vals.toArray 70)) hX1b.lt
 have hX2c:=hX2.below ((Below.refl _ _).alloc (Nat.le_refl _) (.cells nought.vals.toArray 70)) hX2.lt
 rw [hZ2] at hX0 hZ3
 rw [hZ1] at hX2c hX0 hZ3
 have HA:=Lib.hid hX1c
 have HBx:=Lib.hid hX2c
 have HX:=Lib.hid hX0
 have HB:=Lib.hid hB3
 have HZ:=Lib.hid hZ3
 have HQ1:=Lib.hid h1
 have HQ2:=Lib.hid h2
 have HI:=Lib.hid hI
 have HF:=Lib.hid hF
 clear hX1 hB1 hZ1 hX2 hB2 hZ2 hX1b hX0 hB3 hZ3 hX1c hX2c h1 h2 hI hF
 obtain ⟨g,A,n,c,l,f,b⟩:=q1
 obtain ⟨g',A',n',c',l',f',b'⟩:=q2
 simp only [nought,Nv.vals] at HA HBx HX HB HZ
 simp only at HI
 show Calls Tryz.prog 107 #[.agg #[.bool g,.slice A n c,.float .f64 f,.bool b],.agg #[.bool g',.slice A' n' c',.float .f64 f',.bool b'],ui,uf] w _
 obtain ⟨a0,a1,a2,a3⟩:=HA.out.cells
 obtain ⟨b0,b1,b2,b3⟩:=HBx.out.cells
 simp only at a0 a1 a2 a3 b0 b1 b2 b3
 by_cases hbb:b=false∧b'=false
 ·obtain ⟨rfl,rfl⟩:=hbb
  obtain ⟨fi,rfl,hfb,hC⟩:=HI.out (ival g l) (ival g' l') rfl rfl
  have HC:=Lib.hid hC
  rw [show bothR I Fo (Nv.nm ⟨g,A,n,c,l,f,false⟩) (Nv.nm ⟨g',A',n',c',l',f',false⟩)=wholeR (I (ival g l) (ival g' l')).1 (I (ival g l) (ival g' l')).2 from rfl]
  generalize (I (ival g l) (ival g' l')).1=z at *
  generalize (I (ival g l) (ival g' l')).2=co at *
  have hrun:∀ (args:Array Value) (w:World),(callFunc fi args).run Tryz.prog w = .ok (.enter fi args) w:=hfb
  clear HI HF hC hfb
  go_enter Tryz.func107,Tryz.ntmps107
  go_upto_region 1 with fail
  generalize ((w.alloc (.cells #[.bool g,.slice A n c,.float .f64 f,.bool false] 70)).alloc (.cells #[.bool g',.slice A' n' c',.float .f64 f',.bool false] 70)).alloc (.cells #[.bool false,.slice none 0 0,.float .f64 0,.bool false] 70)=w0 at *
  go_wp2_with fail
  (with_reducible refine (HC.out _ HB.out).mono ?_)
  rintro e w1 ⟨hb1,g1,A1,n1,c1,l1,rfl,hv1⟩
  go_wp2_with fail
  (with_reducible refine (whole_ok w1 hv1).mono ?_)
  rintro e w2 ⟨hb2,q,ev,rfl,ho2⟩
  have hX2:=(HX.out.below hb1 HX.out.lt).below hb2 (Nat.lt_of_lt_of_le HX.out.lt hb1.size)
  obtain ⟨c0,c1',c2,c3⟩:=hX2.cells
  obtain ⟨z0,z1,z2,z3⟩:=hX2.frozens
  have hS:=hX2.set4 q
  have HB2:=Lib.hid (HB.out.trans ((hb1.trans (hb2.mono hb1.size)).mono HB.out.size))
  have hs1:=hb1.size
  have HO2:=Lib.hid (ho2.lower HB.out.size hs1)
  clear hb1 hb2 hv1 ho2 hs1 a0 a1 a2 a3 b0 b1 b2 b3
  obtain ⟨gq,Aq,nq,cq,lq,fq,bq⟩:=q
  simp only [nought] at c0 c1' c2 c3 hS
  simp only [Nv.v,Nv.vals]
  go_wp2_with fail
  obtain ⟨r0,r1,r2,r3⟩:=hS.1.cells
  simp only at r0 r1 r2 r3
  refine bodyPost_ret (v:=.tuple #[.agg #[.bool gq,.slice Aq nq cq,.float .f64 fq,.bool bq],ev]) (by simp [results,Tryz.results107,go_sem,r0,r1,r2,r3]) rfl ?_
  have hz:=HZ.out
  exact NPost.fin (q:=⟨gq,Aq,nq,cq,lq,fq,bq⟩) HB2.out (by omega) hX2 (HO2.out.lower (Nat.le_refl _) (by omega)) hS.2
 ·have hfl:(∃ x,Nv.nm ⟨g,A,n,c,l,f,b⟩ = .flo x)∨(∃ x,Nv.nm ⟨g',A',n',c',l',f',b'⟩ = .flo x):=by
   cases b
   ·cases b'
    ·exact absurd ⟨rfl,rfl⟩ hbb
    ·exact .inr ⟨f',rfl⟩
   ·exact .inl ⟨f,rfl⟩
  rw [bothR_flo hfl]
  obtain ⟨ff,rfl,hfb,hC⟩:=HF.out hfl
  have HC:=Lib.hid hC
  have hrun:∀ (args:Array Value) (w:World),(callFunc ff args).run Tryz.prog w = .ok (.enter ff args) w:=hfb
  have HF1:=Lib.hid (fun (y:World) (hy:Below w.heap.size w y)=>floated_ok (HQ1.out.up hy))
  have HF2:=Lib.hid (fun (y:World) (hy:Below w.heap.size w y)=>floated_ok (HQ2.out.up hy))
  simp only [Nv.v,Nv.vals] at HF1 HF2
  generalize Nv.nm ⟨g,A,n,c,l,f,b⟩=x1 at *
  generalize Nv.nm ⟨g',A',n',c',l',f',b'⟩=x2 at *
  clear HI HF hC hfb hfl HQ1 HQ2
  have HRx:=Lib.hid (fun R (h:(match floR x1 with | none=>Rs.bad (evT sOver) | some a=>match floR x2 with | none=>.bad (evT sOver) | some b=>flowR (Fo a b))=R)=>h)
  generalize hR:(match floR x1 with | none=>Rs.bad (evT sOver) | some a=>match floR x2 with | none=>.bad (evT sOver) | some b=>flowR (Fo a b))=R
  have HR:=Lib.hid hR
  clear HRx hR
  have key:∀ (k:Bool),k=(!b && !b')→k=false:=fun k h=>by
   cases b <;> cases b' <;> first | exact absurd ⟨rfl,rfl⟩ hbb | exact h
  clear key
  cases b
  all_goals cases b'
  case neg.false.false=>exact absurd ⟨rfl,rfl⟩ hbb
  all_goals
   clear hbb
   go_enter Tryz.func107,Tryz.ntmps107
   go_upto_region 1 with fail
   generalize ((w.alloc (.cells #[.bool g,.slice A n c,.float .f64 f,.bool _] 70)).alloc (.cells #[.bool g',.slice A' n' c',.float .f64 f',.bool _] 70)).alloc (.cells #[.bool false,.slice none 0 0,.float .f64 0,.bool false] 70)=w0 at *
   go_wp2_with fail
   (with_reducible refine (HF1.out _ HB.out).mono ?_)
   rintro e w1 ⟨hb1,F1,v1,rfl,hv1⟩
   have HB1:=Lib.hid hb1
   clear hb1
   rcases hv1 with ⟨e1,e2,rfl⟩ | ⟨e1,hv1⟩
   rotate_left
   ·obtain ⟨gg,rfl⟩:=hv1.iface
    have hX2:=HX.out.below HB1.out HX.out.lt
    obtain ⟨c0,c1',c2,c3⟩:=hX2.cells
    obtain ⟨z0,z1,z2,z3⟩:=hX2.frozens
    have hS:=hX2.set4 nought
    simp only [nought] at c0 c1' c2 c3 hS
    have HV:=Lib.hid hv1
    clear hv1
    go_wp2_with fail
    obtain ⟨r0,r1,r2,r3⟩:=hS.1.cells
    simp only at r0 r1 r2 r3
    refine bodyPost_ret (v:=.tuple #[.agg #[.bool false,.slice none 0 0,.float .f64 0,.bool false],.iface 95 (.pointer (some ⟨gg,0,none⟩))]) (by simp [results,Tryz.results107,go_sem,r0,r1,r2,r3]) rfl ?_
    have hz:=HZ.out
    have hs1:=HB1.out.size
    have hr:=HR.out
    rw [e1] at hr
    rw [←hr]
    exact NPost.fin (q:=nought) (HB.out.trans (HB1.out.mono HB.out.size)) (by omega) hX2 (.inr ⟨_,rfl,rfl,HV.out.lower (by omega)⟩) hS.2
   have HE1:=Lib.hid (And.intro e1 e2)
   clear e1 e2
   obtain ⟨b0,b1,b2,b3⟩:=(HBx.out.below HB1.out HBx.out.lt).cells
   simp only at b0 b1 b2 b3
   clear a0 a1 a2 a3
   go_wp2_with fail
   (with_reducible refine (HF2.out _ (HB.out.trans (HB1.out.mono HB.out.size))).mono ?_)
   rintro e w2 ⟨hb2,F2,v2,rfl,hv2⟩
   have HB2:=Lib.hid hb2
   clear hb2
   rcases hv2 with ⟨e1,e2,rfl⟩ | ⟨e1,hv2⟩
   rotate_left
   ·obtain ⟨gg,rfl⟩:=hv2.iface
    have hX2:=(HX.out.below HB1.out HX.out.lt).below HB2.out (Nat.lt_of_lt_of_le HX.out.lt HB1.out.size)
    obtain ⟨c0,c1',c2,c3⟩:=hX2.cells
    obtain ⟨z0,z1,z2,z3⟩:=hX2.frozens
    have hS:=hX2.set4 nought
    simp only [nought] at c0 c1' c2 c3 hS
    have HV:=Lib.hid hv2
    clear hv2
    go_wp2_with fail
    obtain ⟨r0,r1,r2,r3⟩:=hS.1.cells
    simp only at r0 r1 r2 r3
    refine bodyPost_ret (v:=.tuple #[.agg #[.bool false,.slice none 0 0,.float .f64 0,.bool false],.iface 95 (.pointer (some ⟨gg,0,none⟩))]) (by simp [results,Tryz.results107,go_sem,r0,r1,r2,r3]) rfl ?_
    have hz:=HZ.out
    have hs1:=HB1.out.size
    have hr:=HR.out
    rw [HE1.out.1,e1] at hr
    rw [←hr]
    exact NPost.fin (q:=nought) ((HB.out.trans (HB1.out.mono HB.out.size)).trans (HB2.out.mono (by have:=HB.out.size;omega))) (by omega) hX2 (.inr ⟨_,rfl,rfl,HV.out.lower (by omega)⟩) hS.2
   obtain ⟨hn,hc⟩:=HC.out F1 F2 HE1.out.1 e1
   have HN:=Lib.hid hn
   have HCc:=Lib.hid hc
   have HRr:=Lib.hid (show flowR (Fo F1 F2)=R from by have hr:=HR.out;rw [HE1.out.1,e1] at hr;exact hr)
   clear HC HE1 e1 e2 hn hc b0 b1 b2 b3
   go_wp2_with fail
   (with_reducible refine (HCc.out _).mono ?_)
   rintro e w3 ⟨rfl,rfl⟩
   go_wp2_with fail
   (with_reducible refine (flow_ok HN.out _).mono ?_)
   rintro e w3 ⟨hb3,q,ev,rfl,ho3⟩
   have hw2:=HB2.out.size
   have hw1:=HB1.out.size
   have hX2:=((HX.out.below HB1.out HX.out.lt).below HB2.out (Nat.lt_of_lt_of_le HX.out.lt hw1)).below hb3 (Nat.lt_of_lt_of_le HX.out.lt (by omega))
   obtain ⟨c0,c1',c2,c3⟩:=hX2.cells
   obtain ⟨z0,z1,z2,z3⟩:=hX2.frozens
   have hS:=hX2.set4 q
   have hw0:=HB.out.size
   have HB3:=Lib.hid ((HB.out.trans (HB1.out.mono hw0)).trans ((HB2.out.trans (hb3.mono hw2)).mono (by omega)))
   have HO3:=Lib.hid (ho3.lower (show w.heap.size≤_ by have:=HZ.out;omega) (show w.heap.size+1+1+1≤_ by have:=HZ.out;omega))
   clear hb3 ho3 hw1 hw2 hw0
   obtain ⟨gq,Aq,nq,cq,lq,fq,bq⟩:=q
   simp only [nought] at c0 c1' c2 c3 hS
   simp only [Nv.v,Nv.vals]
   go_wp2_with fail
   obtain ⟨r0,r1,r2,r3⟩:=hS.1.cells
   simp only at r0 r1 r2 r3
   refine bodyPost_ret (v:=.tuple #[.agg #[.bool gq,.slice Aq nq cq,.float .f64 fq,.bool bq],ev]) (by simp [results,Tryz.results107,go_sem,r0,r1,r2,r3]) rfl ?_
   have hz:=HZ.out
   rw [←HRr.out]
   exact NPost.fin (q:=⟨gq,Aq,nq,cq,lq,fq,bq⟩) HB3.out (by omega) hX2 HO3.out hS.2
def nmOf (t:Tm):Option Nm:=if t.k=3 then some (.int (pVal t.m 10)) else if t.k=4 then some (.flo t.b.toNat) else none
def RdOk (t:Tm):Prop:=(t.k=3→pCode t.m 10=0)∧(t.k=4→floB t.b=true)
def RdPost (w:World) (t:Tm) (e:Ending) (w':World):Prop:=Below w.heap.size w w'∧∃ (q:Nv) (ok:Bool),e = .returned (.tuple #[q.v,.bool ok])∧q.At w' (fun b=>w.heap.size≤b∧b<w'.heap.size)∧((ok=true∧nmOf t=some q.nm)∨(ok=false∧nmOf t=none))
theorem floB_flo {b:Int} (h:floB b=true) (h0:0≤b) (h1:b<18446744073709551616):Flo64 b.toNat:=by
 unfold floB floN at h
 simp only [Bool.and_eq_true,decide_eq_true_eq] at h
 exact ⟨⟨h.1,by omega⟩,h.2⟩
theorem short_len {z:Int} (h:tooLong z=false):(digs W z.natAbs).length≤10000:=by
 unfold tooLong at h
 have h1:blen z.natAbs≤4096:=by simpa using h
 exact Nat.le_trans (digs_W_le h1) (by decide)
theorem ival_digs0 (z:Int):ival (decide (z<0)) (digs W z.natAbs)=z:=by
 unfold ival
 rw [nv_digs (by decide)]
 by_cases h:z<0
 ·rw [if_pos (by simpa using h)];omega
 ·rw [if_neg (by simpa using h)];omega
theorem ResI.num {w:World} {B:Nat} {v:Value} {z:Int} (h:ResI w B v z) (hz:tooLong z=false):∃ g A n c l,v = .agg #[.bool g,.slice A n c]∧LimP w (fun b=>B≤b∧b<w.heap.size) A n c l∧n≤10000∧ival g l=z:=by
 obtain ⟨A,c,hv,ho⟩:=h
 exact ⟨_,A,_,c,_,hv,(LimP.of_own ho (dig_digs (by decide) _)),short_len hz,ival_digs0 z⟩
theorem PostC.num {w w':World} {z co:Int} {e:Ending} (h:PostC w z co e w') (hz:co=0→tooLong z=false):IPost w z co e w':=by
 obtain ⟨v,he,h1,h2,hb⟩:=h
 refine ⟨hb,?_⟩
 by_cases hc:co=0
 ·obtain ⟨g,A,n,c,l,rfl,e1,e2,e3⟩:=(h1 hc).num (hz hc)
  exact ⟨g,A,n,c,l,he,fun _=>⟨e1,e2,e3,hz hc⟩⟩
 ·have:=h2 hc
  subst this
  exact ⟨false,none,0,0,[],he,fun h=>absurd h hc⟩
set_option maxRecDepth 100000 in
set_option maxHeartbeats 2000000 in
theorem read_ok {t:Tm} {sl:Value} {w:World} (h:TAt w w.heap.size t sl) (ho:RdOk t):Calls Tryz.prog 32 #[valT t sl] w (RdPost w t):=by
 obtain ⟨k,nl,ml,b,v,ts,nb,mb,A,c,rfl,rfl,hnb,hmb,hl1,hl2,hl3,hv,hs1,hs2⟩:=h.letters
 have hok:=h.ok
 have hob:0≤b∧b<18446744073709551616:=hok.2.2.1
 rw [hv]
 have hX1:TBox (w.alloc (.cells #[.int .i64 k,.string nb,.string mb,.int .u64 b,.int .i64 v,.slice A ts.length c] 25)) w.heap.size (.mk k nl ml b v ts) (.slice A ts.length c):=TBox.new w hnb hmb
 have hB1:Below w.heap.size w (w.alloc (.cells #[.int .i64 k,.string nb,.string mb,.int .u64 b,.int .i64 v,.slice A ts.length c] 25)):=(Below.refl _ _).alloc (Nat.le_refl _) _
 have hZ1:=World.size_alloc w (.cells #[.int .i64 k,.string nb,.string mb,.int .u64 b,.int .i64 v,.slice A ts.length c] 25)
 have hX0:=NBox.new (w.alloc (.cells #[.int .i64 k,.string nb,.string mb,.int .u64 b,.int .i64 v,.slice A ts.length c] 25)) nought
 have hB2:=hB1.alloc hB1.size (.cells nought.vals.toArray 70)
 have hZ2:=World.size_alloc (w.alloc (.cells #[.int .i64 k,.string nb,.string mb,.int .u64 b,.int .i64 v,.slice A ts.length c] 25)) (.cells nought.vals.toArray 70)
 have hX1c:=hX1.below ((Below.refl _ _).alloc (Nat.le_refl _) (.cells nought.vals.toArray 70))
 rw [hZ1] at hX0 hZ2
 obtain ⟨x0,x1,x2,x3,x4,x5⟩:=hX1c.cells hnb hmb
 have HX:=Lib.hid hX0
 have HB:=Lib.hid hB2
 have HZ:=Lib.hid hZ2
 have HO:=Lib.hid (show (k=3→pCode ml 10=0)∧(k=4→floB b=true) from ho)
 have HM:=Lib.hid (show mb.data.toList=ml from by rw [←hmb])
 have HS2:=Lib.hid hs2
 simp only [nought,Nv.vals] at HX HB HZ x0 x1 x2 x3 x4 x5
 obtain ⟨q,hq⟩:∃ q,ts.length=q:=⟨_,rfl⟩
 rw [hq] at HX HB HZ x0 x1 x2 x3 x4 x5 ⊢
 clear hX1 hB1 hZ1 hX0 hB2 hZ2 hX1c h hok ho hv hl1 hl2 hl3 hs1 hs2 hnb hmb hq
 by_cases h3:k=3
 ·subst h3
  have HN:=Lib.hid (show nmOf (.mk 3 nl ml b v ts)=some (.int (pVal ml 10)) from rfl)
  have hcode:=HO.out.1 rfl
  have hP:∀ y:World,Calls Tryz.prog 18 #[.string mb,.int .i64 10] y (IPost y (pVal ml 10) 0):=fun y=>by
   have:=Parse_any mb 10 y HS2.out
   rw [HM.out,hcode] at this
   exact this.mono fun e w' hh=>hh.num (fun _=>code_ok hcode)
  have HP:=Lib.hid hP
  clear HO hcode hP
  go_enter Tryz.func32,Tryz.ntmps32
  go_upto_region 1 with fail
  generalize (w.alloc (.cells #[.int .i64 3,.string nb,.string mb,.int .u64 b,.int .i64 v,.slice A q c] 25)).alloc (.cells #[.bool false,.slice none 0 0,.float .f64 0,.bool false] 70)=w0 at *
  go_upto_region 3 with fail
  go_wp2_with fail
  (with_reducible refine (HP.out _).mono ?_)
  rintro e w1 ⟨hb1,g1,A1,n1,c1,l1,rfl,hv1⟩
  have HK1:=Lib.hid (KBox.new w1 g1 A1 n1 c1)
  have HBk:=Lib.hid (show Below w1.heap.size w1 (w1.alloc (.cells #[.bool g1,.slice A1 n1 c1] 39)) from (Below.refl _ _).alloc (Nat.le_refl _) _)
  have HZk:=Lib.hid (World.size_alloc w1 (.cells #[.bool g1,.slice A1 n1 c1] 39))
  have hX2:=(HX.out.below hb1 HX.out.lt).below HBk.out (Nat.lt_of_lt_of_le HX.out.lt hb1.size)
  have HV:=Lib.hid (hv1 rfl)
  have HB1:=Lib.hid hb1
  clear hb1 hv1 x0 x1 x2 x3 x4 x5
  go_upto_region 4 with fail
  generalize w1.alloc (.cells #[.bool g1,.slice A1 n1 c1] 39)=w2 at *
  obtain ⟨k0,k1⟩:=HK1.out.cells
  obtain ⟨c0,c1',c2,c3⟩:=hX2.cells
  obtain ⟨z0,z1,z2,z3⟩:=hX2.frozens
  have hS:=hX2.set4 ⟨g1,A1,n1,c1,l1,0,false⟩
  simp only [nought] at c0 c1' c2 c3 hS
  go_wp2_with fail
  obtain ⟨r0,r1,r2,r3⟩:=hS.1.cells
  simp only at r0 r1 r2 r3
  refine bodyPost_ret (v:=.tuple #[.agg #[.bool g1,.slice A1 n1 c1,.float .f64 0,.bool false],.bool true]) (by simp [results,Tryz.results32,go_sem,r0,r1,r2,r3]) rfl ?_
  have hz:=HZ.out
  have hs1:=HB1.out.size
  have hs2:=HBk.out.size
  have hs0:=HB.out.size
  obtain ⟨e1,e2,e3,e4⟩:=HV.out
  have hat:Nv.At w2 (fun b=>w.heap.size≤b∧b<w2.heap.size) ⟨g1,A1,n1,c1,l1,0,false⟩:=⟨e1.keep (fun b hb=>⟨by omega,HBk.out.block b hb.2⟩),e2,flo0,by rw [show ival _ _=_ from e3];exact e4⟩
  have hnm:Nv.nm ⟨g1,A1,n1,c1,l1,0,false⟩ = .int (pVal ml 10):=by unfold Nv.nm;simp only [Bool.false_eq_true,if_false];rw [e3]
  refine ⟨((HB.out.trans (HB1.out.mono hs0)).trans (HBk.out.mono (by omega))).grown hS.2 (by omega) (fun j e=>by injection e with e;omega),⟨g1,A1,n1,c1,l1,0,false⟩,true,rfl,(hat.gro (fun b h=>h.2) hX2 hS.2).wide (fun b h=>⟨h.1,Nat.lt_of_lt_of_le h.2 hS.2.size⟩),.inl ⟨rfl,by rw [hnm];exact HN.out⟩⟩
 ·have d3:(k==3)=false:=beq_eq_false_iff_ne.2 h3
  by_cases h4:k=4
  ·subst h4
   obtain ⟨F,hF⟩:∃ F:Nat,b=(F:Int):=⟨b.toNat,by omega⟩
   subst hF
   have HN:=Lib.hid (show nmOf (.mk 4 nl ml (F:Int) v ts)=some (.flo F) from by
    show some (Nm.flo (F:Int).toNat)=_
    rw [Int.toNat_natCast])
   have HG:=Lib.hid (show Flo64 F from by have:=floB_flo (HO.out.2 rfl) hob.1 hob.2;rwa [Int.toNat_natCast] at this)
   have hb:=run_frombits F
   obtain ⟨c0,c1',c2,c3⟩:=HX.out.cells
   obtain ⟨z0,z1,z2,z3⟩:=HX.out.frozens
   have hS:=HX.out.set4 (flv F)
   simp only [flv] at c0 c1' c2 c3 hS
   clear HO
   go_enter Tryz.func32,Tryz.ntmps32
   go_upto_region 1 with fail
   generalize (w.alloc (.cells #[.int .i64 4,.string nb,.string mb,.int .u64 (F:Int),.int .i64 v,.slice A q c] 25)).alloc (.cells #[.bool false,.slice none 0 0,.float .f64 0,.bool false] 70)=w0 at *
   go_wp2_with fail
   obtain ⟨r0,r1,r2,r3⟩:=hS.1.cells
   simp only at r0 r1 r2 r3
   refine bodyPost_ret (v:=.tuple #[.agg #[.bool false,.slice none 0 0,.float .f64 F,.bool true],.bool true]) (by simp [results,Tryz.results32,go_sem,r0,r1,r2,r3]) rfl ?_
   have hz:=HZ.out
   exact ⟨HB.out.grown hS.2 HB.out.size (fun j e=>by injection e with e;omega),flv F,true,rfl,flv_at _ _ HG.out,.inl ⟨rfl,HN.out⟩⟩
  ·have d4:(k==4)=false:=beq_eq_false_iff_ne.2 h4
   have HN:=Lib.hid (show nmOf (.mk k nl ml b v ts)=none from by
    show (if k=3 then some (Nm.int (pVal ml 10)) else if k=4 then some (.flo b.toNat) else none)=none
    rw [if_neg h3,if_neg h4])
   obtain ⟨c0,c1',c2,c3⟩:=HX.out.cells
   obtain ⟨z0,z1,z2,z3⟩:=HX.out.frozens
   have hS:=HX.out.set4 nought
   simp only [nought] at c0 c1' c2 c3 hS
   clear HO
   go_enter Tryz.func32,Tryz.ntmps32
   go_upto_region 1 with fail
   generalize (w.alloc (.cells #[.int .i64 k,.string nb,.string mb,.int .u64 b,.int .i64 v,.slice A q c] 25)).alloc (.cells #[.bool false,.slice none 0 0,.float .f64 0,.bool false] 70)=w0 at *
   go_wp2_with fail
   obtain ⟨r0,r1,r2,r3⟩:=hS.1.cells
   simp only at r0 r1 r2 r3
   refine bodyPost_ret (v:=.tuple #[.agg #[.bool false,.slice none 0 0,.float .f64 0,.bool false],.bool false]) (by simp [results,Tryz.results32,go_sem,r0,r1,r2,r3]) rfl ?_
   have hz:=HZ.out
   exact ⟨HB.out.grown hS.2 HB.out.size (fun j e=>by injection e with e;omega),nought,false,rfl,nought_at _ _,.inr ⟨rfl,HN.out⟩⟩
end
section
open Go Go.RowKit
section
variable {P:Program} {md:Region.Mode} {ops:Array Oper} {Q:Exit→Act→World→Prop} {S:World→Prop} {st:Nat}
def flAll:List Nat→Array Bool→Array Bool
 | [],l=>l
 | i :: E,l=>(flAll E l).setIfInBounds i true
def flL (D:Nat→Option Nat):List Nat→Array Bool→Array Bool
 | [],l=>l
 | i :: E,l=>if (D i).isSome then (flL D E l).setIfInBounds i true else flL D E l
def flA (ops:Array Oper) (D:Nat→Option Nat):List Nat→Act→Act
 | [],a=>a
 | i :: E,a=>match D i with
  | some H=>(flA ops D E a).put ((ops[i]?).bind (·.dst)) (.pointer (some ⟨H,0,none⟩))
  | none=>flA ops D E a
def pend (md:Region.Mode) (ops:Array Oper) (listed:Array Bool) (E:List Nat):List Nat:=
 (List.range ops.size).filter fun i=>!E.contains i && !listed.getD i true && ((ops[i]?).map fun o=>(o.after.all fun e=>!Region.binds md e || listed.getD e.on false || E.contains e.on) && E.any fun f=>o.after.all fun e=>!Region.binds md e || e.on != f).getD false
def farFrom (ops:Array Oper) (E:List Nat) (o:Oper):Bool:=E.all fun f=>match (ops[f]?).bind (·.dst) with
 | some d=>!(o.looksAt ops).contains d && o.dst != some d
 | none=>true
def floatsB (md:Region.Mode) (ops:Array Oper):List Nat→Bool
 | []=>true
 | i :: E=>!E.contains i && (match ops[i]? with
  | some o=>o.guard.isNone && (o.after.all fun e=>!Region.binds md e) && (match o.dst with
   | some d=>E.all fun j=>(ops[j]?).bind (·.dst) != some d
   | none=>false)
  | none=>false) && floatsB md ops E
def FloatRun (P:Program) (ops:Array Oper) (E:List Nat) (obj:Nat→Obj):Prop:=∀ i∈E,∀ o,ops[i]?=some o→∀ (a:Act) (w:World),(execOp a.eval o).run P w = .ok (.value (.pointer (some ⟨w.heap.size,0,none⟩))) (w.alloc (obj i))
theorem flL_getD (D:Nat→Option Nat) {j:Nat} {d:Bool} {l:Array Bool} : ∀ E:List Nat,((E.contains j && (D j).isSome)=false)→(flL D E l).getD j d=l.getD j d
 | [],_=>rfl
 | i :: E,h=>by
  have h':(E.contains j && (D j).isSome)=false:=by
   rw [List.contains_cons] at h
   cases hc:(D j).isSome
   ·simp
   ·rw [hc] at h;simp at h;simp [h.2]
  unfold flL
  split
  ·rename_i hs
   have hne:i≠j:=fun e=>by subst e;simp [hs] at h
   rw [getD_set_ne d hne];exact flL_getD D E h'
  ·exact flL_getD D E h'
theorem flL_or (D:Nat→Option Nat) {j:Nat} {l:Array Bool} : ∀ E:List Nat,(flL D E l).getD j false=true→l.getD j false=true∨(j∈E∧(D j).isSome=true)
 | [],h=>.inl h
 | i :: E,h=>by
  unfold flL at h
  split at h
  ·rename_i hs
   by_cases hij:i=j
   ·subst hij;exact .inr ⟨List.mem_cons_self,hs⟩
   ·rw [getD_set_ne false hij] at h
    exact (flL_or D E h).imp id fun h=>⟨List.mem_cons_of_mem _ h.1,h.2⟩
  ·exact (flL_or D E h).imp id fun h=>⟨List.mem_cons_of_mem _ h.1,h.2⟩
theorem flL_set (D:Nat→Option Nat) {j:Nat} {l:Array Bool} : ∀ E:List Nat,j∉E→flL D E (l.setIfInBounds j true)=(flL D E l).setIfInBounds j true
 | [],_=>rfl
 | i :: E,h=>by
  have h1:j∉E:=fun h'=>h (List.mem_cons_of_mem _ h')
  have h2:i≠j:=fun e=>h (e ▸ List.mem_cons_self)
  unfold flL
  split
  ·rw [flL_set D E h1,Array.setIfInBounds_comm _ _ (Ne.symm h2)]
  ·exact flL_set D E h1
theorem flL_all (D:Nat→Option Nat) {l:Array Bool} : ∀ E:List Nat,(∀ i∈E,(D i).isSome=true)→flL D E l=flAll E l
 | [],_=>rfl
 | i :: E,h=>by
  unfold flL flAll
  rw [if_pos (h i List.mem_cons_self),flL_all D E fun j hj=>h j (List.mem_cons_of_mem _ hj)]
def upd (D:Nat→Option Nat) (i H:Nat):Nat→Option Nat:=fun j=>if j=i then some H else D j
theorem flL_same {D D':Nat→Option Nat} {l:Array Bool} : ∀ E:List Nat,(∀ j∈E,D j=D' j)→flL D E l=flL D' E l
 | [],_=>rfl
 | i :: E,h=>by
  unfold flL
  rw [h i List.mem_cons_self,flL_same E fun j hj=>h j (List.mem_cons_of_mem _ hj)]
theorem flA_same {D D':Nat→Option Nat} {a:Act} : ∀ E:List Nat,(∀ j∈E,D j=D' j)→flA ops D E a=flA ops D' E a
 | [],_=>rfl
 | i :: E,h=>by
  unfold flA
  rw [h i List.mem_cons_self,flA_same E fun j hj=>h j (List.mem_cons_of_mem _ hj)]
theorem flL_upd {D:Nat→Option Nat} {i H:Nat} {l:Array Bool} : ∀ E:List Nat,floatsB md ops E=true→i∈E→D i=none→flL (upd D i H) E l=(flL D E l).setIfInBounds i true
 | [],_,hi,_=>by cases hi
 | k :: E,hf,hi,hn=>by
  simp only [floatsB,Bool.and_eq_true,Bool.not_eq_true'] at hf
  have hk:k∉E:=by simpa using hf.1.1
  by_cases hki:k=i
  ·subst hki
   unfold flL
   rw [hn]
   simp only [upd,if_pos,Option.isSome_some,Option.isSome_none,Bool.false_eq_true,if_false]
   rw [flL_same (D:=upd D k H) (D':=D) E fun j hj=>if_neg (fun e:j=k=>hk (by rw [←e];exact hj))]
  ·have hi':i∈E:=(List.mem_cons.1 hi).resolve_left (Ne.symm hki)
   unfold flL
   have:upd D i H k=D k:=if_neg hki
   rw [this,flL_upd E hf.2 hi' hn]
   split
   ·rw [Array.setIfInBounds_comm _ _ (Ne.symm hki)]
   ·rfl
theorem floatsB_dst {i:Nat} : ∀ E:List Nat,floatsB md ops E=true→i∈E→∃ o d,ops[i]?=some o∧o.guard=none∧o.dst=some d∧(∀ e∈o.after,Region.binds md e=false)
 | [],_,hi=>by cases hi
 | k :: E,hf,hi=>by
  simp only [floatsB,Bool.and_eq_true] at hf
  rcases List.mem_cons.1 hi with rfl | hi
  ·have h:=hf.1.2
   cases ho:ops[i]? with
   | none=>rw [ho] at h;simp at h
   | some o=>
    rw [ho] at h
    simp only [Bool.and_eq_true] at h
    cases hd:o.dst with
    | none=>rw [hd] at h;simp at h
    | some d=>exact ⟨o,d,rfl,by simpa using h.1.1,hd,fun e he=>by have:=Array.all_eq_true'.1 h.1.2 e he;simpa using this⟩
  ·exact floatsB_dst E hf.2 hi
theorem flA_upd {D:Nat→Option Nat} {i H:Nat} {a:Act} : ∀ E:List Nat,floatsB md ops E=true→i∈E→D i=none→flA ops (upd D i H) E a=(flA ops D E a).put ((ops[i]?).bind (·.dst)) (.pointer (some ⟨H,0,none⟩))
 | [],_,hi,_=>by cases hi
 | k :: E,hf,hi,hn=>by
  simp only [floatsB,Bool.and_eq_true,Bool.not_eq_true'] at hf
  have hk:k∉E:=by simpa using hf.1.1
  by_cases hki:k=i
  ·subst hki
   unfold flA
   rw [hn]
   have:upd D k H k=some H:=if_pos rfl
   rw [this]
   simp only
   rw [flA_same (D:=upd D k H) (D':=D) E fun j hj=>if_neg (fun e:j=k=>hk (by rw [←e];exact hj))]
  ·have hi':i∈E:=(List.mem_cons.1 hi).resolve_left (Ne.symm hki)
   unfold flA
   have:upd D i H k=D k:=if_neg hki
   rw [this,flA_upd E hf.2 hi' hn]
   split
   ·rw [Act.put_comm]
    intro d hd he
    have h:=hf.1.2
    cases ho:ops[k]? with
    | none=>rw [ho] at h;simp at h
    | some o=>
     rw [ho] at h he
     simp only [Bool.and_eq_true] at h
     have he':o.dst=some d:=he
     rw [he'] at h
     have:=List.all_eq_true.1 h.2 i hi'
     rw [hd] at this
     simp at this
   ·rfl
theorem wpOp_under {j:Nat} {oj:Oper} {d:Tmp} {v:Value} (hj:ops[j]?=some oj) (hsj:∀ cs b,oj.op ≠ .select cs b) (hlook:d∉oj.looksAt ops) (hdst:oj.dst≠some d)
  (hQ:∀ c (a:Act) d v w,Q (.panic c) a w→Q (.panic c) (a.put (some d) v) w) {K:Act→World→Prop} {a:Act} {w:World} (h:wpOp P ops Q j (fun a' w'=>K (a'.put (some d) v) w') a w) :
  wpOp P ops Q j K (a.put (some d) v) w:=by
 have h1:∀ d',some d=some d'→d'∉oj.looksAt ops:=fun d' e=>by injection e with e;exact e ▸ hlook
 have h2:∀ d',oj.dst=some d'→some d≠some d':=fun d' e e2=>hdst (e.trans e2.symm)
 unfold wpOp at *
 simp only [hj] at *
 rw [wanted_put oj a (some d) v h1]
 split
 ·rename_i hw
  simp only [hw,if_true] at h
  rcases h with h | ⟨hasks,hlets⟩
  case inr=>exact .inr ⟨by unfold Oper.asks at *;rw [execOp_put oj hsj a (some d) v h1];exact hasks,hlets⟩
  refine .inl ?_
  unfold Oper.wp at *
  rw [execOp_put oj hsj a (some d) v h1]
  generalize (execOp a.eval oj).run P w=r at *
  cases r with
  | ok n w'=>
   cases n <;> simp only [Oper.upon] at h ⊢
   case value u=>rw [←Act.put_comm a u v h2];exact h
   case skip=>rw [←Act.put_comm a undef v h2];exact h
   case defer dd=>
    rw [Act.put_defers,←Act.put_comm _ undef v h2]
    exact h
   case enter f args=>
    refine Calls.mono h fun e w'' he=>?_
    cases e with
    | returned u=>
     show K ((a.put (some d) v).put oj.dst u) w''
     rw [←Act.put_comm a u v h2];exact he
    | panicked c=>exact hQ _ _ _ _ _ he
    | outgrown=>exact he
   case row row args=>exact Rows.mono h fun u w'' he=>by rw [←Act.put_comm a u v h2];exact he
  | halt x w'=>
   cases x <;> simp only [Oper.upon] at h ⊢
   case panic u=>exact hQ _ _ _ _ _ h
 ·rename_i hw
  simp only [hw] at h
  rw [←Act.put_comm a undef v h2];exact h
theorem farFrom_spec {o:Oper} : ∀ E:List Nat,farFrom ops E o=true→∀ f∈E,∀ d,(ops[f]?).bind (·.dst)=some d→d∉o.looksAt ops∧o.dst≠some d:=fun E h f hf d hd=>by
 have h1:=List.all_eq_true.1 h f hf
 rw [hd] at h1
 simpa using h1
theorem wpOp_far {j:Nat} {oj:Oper} (hj:ops[j]?=some oj) (hsj:∀ cs b,oj.op ≠ .select cs b) (hQ:∀ c (a:Act) d v w,Q (.panic c) a w→Q (.panic c) (a.put (some d) v) w) (D:Nat→Option Nat) :
  ∀ (E:List Nat),floatsB md ops E=true→farFrom ops E oj=true→∀ {K:Act→World→Prop} {a:Act} {w:World},wpOp P ops Q j (fun a' w'=>K (flA ops D E a') w') a w→wpOp P ops Q j K (flA ops D E a) w
 | [],_,_,_,_,_,h=>h
 | i :: E,hf,hfar,K,a,w,h=>by
  have hff:=hf
  have hfar':=farFrom_spec _ hfar i List.mem_cons_self
  simp only [floatsB,Bool.and_eq_true] at hf
  simp only [farFrom,List.all_cons,Bool.and_eq_true] at hfar
  obtain ⟨o,d,ho,_,hd,_⟩:=floatsB_dst _ hff List.mem_cons_self
  have hod:(ops[i]?).bind (·.dst)=some d:=by rw [ho];exact hd
  unfold flA at h ⊢
  cases hD:D i with
  | none=>
   simp only [hD] at h ⊢
   exact wpOp_far hj hsj hQ D E hf.2 hfar.2 h
  | some H=>
   simp only [hD,hod] at h ⊢
   exact wpOp_under hj hsj (hfar' d hod).1 (hfar' d hod).2 hQ (wpOp_far hj hsj hQ D E hf.2 hfar.2 (K:=fun a' w'=>K (a'.put (some d) _) w') h)
def FlOk (E:List Nat) (obj:Nat→Obj) (D:Nat→Option Nat) (w:World) (G:Nat→Prop):Prop:=
 (∀ i∈E,∃ H,D i=some H∧w.heap[H]?=some (obj i)∧G H)∧∀ i∈E,∀ j∈E,i≠j→D i≠D j
def gapTo (G:Nat→Prop) (w w':World):Nat→Prop:=fun b=>G b∨(w.heap.size≤b∧b<w'.heap.size)
def wpAnyF (P:Program) (md:Region.Mode) (ops:Array Oper) (Q:Exit→Act→World→Prop) (S:World→Prop) (st:Nat) (E:List Nat) (obj:Nat→Obj):Nat→Array Bool→Act→World→(Nat→Prop)→Prop
 | 0,listed,a,w,G=>∀ w',Below w.heap.size w w'→S w' →
  (∀ D,FlOk E obj D w' (gapTo G w w')→wpAnyW P md ops Q S st 0 (flL D E listed) (flA ops D E a) w')∧pend md ops listed E = []
 | fuel+1,listed,a,w,G=>∀ w',Below w.heap.size w w'→S w' →
  (∀ D,FlOk E obj D w' (gapTo G w w')→wpAnyW P md ops Q S st (fuel+1) (flL D E listed) (flA ops D E a) w') ∧
  ∀ i∈pend md ops listed E,i∉E∧∃ o,ops[i]?=some o∧farFrom ops E o=true∧wpOp P ops Q i (fun a' w''=>Below w'.heap.size w' w''∧S w''∧wpAnyF P md ops Q S st E obj fuel (listed.setIfInBounds i true) a' w'' (gapTo G w w')) a w'
variable {E:List Nat} {obj:Nat→Obj}
theorem FlOk.more {D:Nat→Option Nat} {w:World} {G G':Nat→Prop} (h:FlOk E obj D w G) (hG:∀ b,G b→G' b):FlOk E obj D w G':=
 ⟨fun i hi=>let ⟨H,h1,h2,h3⟩:=h.1 i hi;⟨H,h1,h2,hG _ h3⟩,h.2⟩
theorem FlOk.below {D:Nat→Option Nat} {w w':World} {G:Nat→Prop} (h:FlOk E obj D w G) (hb:Below w.heap.size w w'):FlOk E obj D w' G:=
 ⟨fun i hi=>let ⟨H,h1,h2,h3⟩:=h.1 i hi;⟨H,h1,(hb.block H (Array.getElem?_eq_some_iff.1 h2).1).trans h2,h3⟩,h.2⟩
theorem gapTo_back {G:Nat→Prop} {w w1 w2:World} (h1:w.heap.size≤w1.heap.size) (h2:w1.heap.size≤w2.heap.size) (b:Nat) (h:gapTo (gapTo G w w1) w1 w2 b):gapTo G w w2 b:=by
 unfold gapTo at *
 rcases h with (h | h) | h
 ·exact .inl h
 ·exact .inr ⟨h.1,by omega⟩
 ·exact .inr ⟨by omega,h.2⟩
theorem wpAnyF_gap:∀ {fuel:Nat} {listed:Array Bool} {a:Act} {w:World} {G G':Nat→Prop},(∀ b,G' b→G b)→wpAnyF P md ops Q S st E obj fuel listed a w G→wpAnyF P md ops Q S st E obj fuel listed a w G'
 | 0,_,_,_,_,_,hG,h=>fun w' hb hS=>⟨fun D hD=>(h w' hb hS).1 D (hD.more fun b=>Or.imp (hG b) id),(h w' hb hS).2⟩
 | fuel+1,_,_,_,_,_,hG,h=>fun w' hb hS=>⟨fun D hD=>(h w' hb hS).1 D (hD.more fun b=>Or.imp (hG b) id),fun i hi=>let ⟨h1,o,h2,h3,h4⟩:=(h w' hb hS).2 i hi
   ⟨h1,o,h2,h3,wpOp_mono (fun a' w'' h=>⟨h.1,h.2.1,wpAnyF_gap (fun b=>Or.imp (hG b) id) h.2.2⟩) h4⟩⟩
theorem wpAnyF_later {fuel:Nat} {listed:Array Bool} {a:Act} {w w1:World} {G:Nat→Prop} (hb:Below w.heap.size w w1) (h:wpAnyF P md ops Q S st E obj fuel listed a w G):wpAnyF P md ops Q S st E obj fuel listed a w1 (gapTo G w w1):=by
 cases fuel with
 | zero=>
  intro w' hb' hS
  have h:=h w' (hb.trans (hb'.mono hb.size)) hS
  exact ⟨fun D hD=>h.1 D (hD.more (gapTo_back hb.size hb'.size)),h.2⟩
 | succ fuel=>
  intro w' hb' hS
  have h:=h w' (hb.trans (hb'.mono hb.size)) hS
  refine ⟨fun D hD=>h.1 D (hD.more (gapTo_back hb.size hb'.size)),fun i hi=>?_⟩
  obtain ⟨h1,o,h2,h3,h4⟩:=h.2 i hi
  exact ⟨h1,o,h2,h3,wpOp_mono (fun a' w'' h=>⟨h.1,h.2.1,wpAnyF_gap (gapTo_back hb.size hb'.size) h.2.2⟩) h4⟩
theorem flL_done {D:Nat→Option Nat} {i:Nat} {l:Array Bool} : ∀ E:List Nat,i∈E→(D i).isSome=true→(flL D E l).getD i true=true
 | [],h,_=>by cases h
 | k :: E,h,hs=>by
  have key:∀ (l':Array Bool),(l'.setIfInBounds i true).getD i true=true:=fun l'=>by
   rcases Nat.lt_or_ge i l'.size with h' | h'
   ·simp [h']
   ·simp [Array.getElem?_eq_none (show (l'.setIfInBounds i true).size≤i by simpa using h')]
  unfold flL
  by_cases hk:k=i
  ·subst hk
   rw [if_pos hs];exact key _
  ·have h1:i∈E:=(List.mem_cons.1 h).resolve_left (Ne.symm hk)
   split
   ·rw [getD_set_ne true hk];exact flL_done E h1 hs
   ·exact flL_done E h1 hs
theorem pend_of_ready {D:Nat→Option Nat} {i f:Nat} {l:Array Bool} (hf:f∈E) (hn:D f=none) (hl:l.getD f true=false) (hi:i∉E) (h:i∈Region.ready md ops (flL D E l)):i∈pend md ops l E:=by
 obtain ⟨h0,o,ho,hall⟩:=mem_ready.1 h
 have hlt:i<ops.size:=(Array.getElem?_eq_some_iff.1 ho).1
 have hc:E.contains i=false:=by simpa using hi
 rw [flL_getD D E (by simp [hi])] at h0
 unfold pend
 rw [List.mem_filter,List.mem_range]
 refine ⟨hlt,?_⟩
 rw [ho]
 simp only [Option.map_some,Option.getD_some,Bool.and_eq_true,Bool.not_eq_true']
 refine ⟨⟨hc,h0⟩,Array.all_eq_true'.2 fun e he=>?_,List.any_eq_true.2 ⟨f,hf,Array.all_eq_true'.2 fun e he=>?_⟩⟩
 ·cases hb:Region.binds md e with
  | false=>simp
  | true=>
   rcases flL_or D E (hall e he hb) with h | h
   ·simp [h]
   ·simp [h.1]
 ·cases hb:Region.binds md e with
  | false=>simp
  | true=>
   have h1:=hall e he hb
   by_cases hef:e.on=f
   ·rw [hef,flL_getD D E (by simp [hn])] at h1
    rcases Nat.lt_or_ge f l.size with h' | h'
    ·simp [h'] at hl h1;rw [hl] at h1;cases h1
    ·simp [Array.getElem?_eq_none h'] at h1
   ·simp [hef]
def outs (D:Nat→Option Nat):List Nat→Nat
 | []=>0
 | i :: E=>(if (D i).isSome then 0 else 1)+outs D E
theorem outs_zero {D:Nat→Option Nat} : ∀ E:List Nat,outs D E=0→∀ i∈E,∃ H,D i=some H
 | [],_,_,h=>by cases h
 | k :: E,h0,i,h=>by
  unfold outs at h0
  rcases List.mem_cons.1 h with rfl | h
  ·cases hD:D i with
   | none=>rw [hD] at h0;simp at h0
   | some H=>exact ⟨H,rfl⟩
  ·exact outs_zero E (by omega) i h
theorem outs_pos {D:Nat→Option Nat} : ∀ E:List Nat,outs D E≠0→∃ f∈E,D f=none
 | [],h=>absurd rfl h
 | k :: E,h=>by
  unfold outs at h
  cases hD:D k with
  | none=>exact ⟨k,List.mem_cons_self,hD⟩
  | some H=>
   rw [hD] at h
   obtain ⟨f,hf,hn⟩:=outs_pos E (by simpa using h)
   exact ⟨f,List.mem_cons_of_mem _ hf,hn⟩
theorem outs_same {D D':Nat→Option Nat} : ∀ E:List Nat,(∀ j∈E,D j=D' j)→outs D E=outs D' E
 | [],_=>rfl
 | i :: E,h=>by
  unfold outs
  rw [h i List.mem_cons_self,outs_same E fun j hj=>h j (List.mem_cons_of_mem _ hj)]
theorem outs_upd {D:Nat→Option Nat} {i H:Nat} : ∀ E:List Nat,floatsB md ops E=true→i∈E→D i=none→outs D E=outs (upd D i H) E+1
 | [],_,hi,_=>by cases hi
 | k :: E,hf,hi,hn=>by
  simp only [floatsB,Bool.and_eq_true,Bool.not_eq_true'] at hf
  have hk:k∉E:=by simpa using hf.1.1
  by_cases hki:k=i
  ·subst hki
   unfold outs
   rw [hn,outs_same (D:=upd D k H) (D':=D) E fun j hj=>if_neg (fun e:j=k=>hk (by rw [←e];exact hj))]
   simp [upd];omega
  ·have hi':i∈E:=(List.mem_cons.1 hi).resolve_left (Ne.symm hki)
   unfold outs
   have:upd D i H k=D k:=if_neg hki
   rw [this,outs_upd (H:=H) E hf.2 hi' hn]
   omega
theorem wpAnyF_core (hf:floatsB md ops E=true) (hrun:FloatRun P ops E obj) (hSs:∀ w w',Below w.heap.size w w'→S w→S w') (hsel:Region.noSelect ops=true)
  (hQ:∀ c (a:Act) d v w,Q (.panic c) a w→Q (.panic c) (a.put (some d) v) w) :
  ∀ (n fuel:Nat) (listed:Array Bool) (a:Act) (w:World) (G:Nat→Prop) (D:Nat→Option Nat),n=fuel+outs D E→(∀ i∈E,listed.getD i true=false) →
   (∀ i∈E,∀ H,D i=some H→w.heap[H]?=some (obj i)∧G H)→(∀ i∈E,∀ j∈E,i≠j→∀ H,D i=some H→D j≠some H)→S w →
   wpAnyF P md ops Q S st E obj fuel listed a w G→wpAnyW P md ops Q S st n (flL D E listed) (flA ops D E a) w:=by
 have full:∀ {D:Nat→Option Nat} {w:World} {G:Nat→Prop},outs D E=0→(∀ i∈E,∀ H,D i=some H→w.heap[H]?=some (obj i)∧G H)→(∀ i∈E,∀ j∈E,i≠j→∀ H,D i=some H→D j≠some H)→FlOk E obj D w (gapTo G w w):=fun h0 hD hne=>by
  refine ⟨fun i hi=>?_,fun i hi j hj hij e=>?_⟩
  ·obtain ⟨H,hH⟩:=outs_zero E h0 i hi
   exact ⟨H,hH,(hD i hi H hH).1,.inl (hD i hi H hH).2⟩
  ·obtain ⟨H,hH⟩:=outs_zero E h0 i hi
   exact hne i hi j hj hij H hH (e ▸ hH)
 intro n
 induction n with
 | zero=>
  intro fuel listed a w G D hn hl hD hne hS h
  obtain rfl:fuel=0:=by omega
  have h0:outs D E=0:=by omega
  exact (h w (Below.refl _ _) hS).1 D (full h0 hD hne)
 | succ n ih=>
  intro fuel listed a w G D hn hl hD hne hS h
  by_cases h0:outs D E=0
  ·obtain rfl:fuel=n+1:=by omega
   exact (h w (Below.refl _ _) hS).1 D (full h0 hD hne)
  ·obtain ⟨f,hfE,hfn⟩:=outs_pos E h0
   have hfr:f∈Region.ready md ops (flL D E listed):=by
    obtain ⟨o,d,ho,hg,hd,hafter⟩:=floatsB_dst E hf hfE
    exact mem_ready.2 ⟨by rw [flL_getD D E (by simp [hfn])];exact hl f hfE,o,ho,fun e he hb=>by rw [hafter e he] at hb;cases hb⟩
   refine ⟨fun he=>absurd (he ▸ hfr) (by simp),fun i hi=>?_⟩
   by_cases hiE:i∈E
   ·obtain ⟨o,d,ho,hg,hd,hafter⟩:=floatsB_dst E hf hiE
    have hDi:D i=none:=by
     cases hDi:D i with
     | none=>rfl
     | some H=>
      have h1:=(mem_ready.1 hi).1
      rw [flL_done E hiE (by rw [hDi];rfl)] at h1
      cases h1
    have hb:Below w.heap.size w (w.alloc (obj i)):=(Below.refl _ _).alloc (Nat.le_refl _) _
    refine wpOp_step ho fun K' hK=>?_
    rw [if_pos (show Region.wanted o _=true from by unfold Region.wanted;rw [hg])]
    unfold Oper.wp
    rw [hrun i hiE o ho]
    refine hK _ _ ⟨fun _=>hSs _ _ hb hS,?_⟩
    have hput:(flA ops D E a).put o.dst (.pointer (some ⟨w.heap.size,0,none⟩))=flA ops (upd D i w.heap.size) E a:=by
     rw [flA_upd E hf hiE hDi,ho];rfl
    rw [hput,←flL_upd E hf hiE hDi (H:=w.heap.size)]
    refine ih fuel listed a (w.alloc (obj i)) (gapTo G w (w.alloc (obj i))) (upd D i w.heap.size) (by have:=outs_upd (H:=w.heap.size) E hf hiE hDi;omega) hl (fun j hj H hH=>?_) (fun j hj k hk hjk H hH hH2=>?_) (hSs _ _ hb hS) (wpAnyF_later hb h)
    ·unfold upd at hH
     by_cases hji:j=i
     ·rw [if_pos hji] at hH
      injection hH with hH
      subst hH hji
      exact ⟨heap_alloc_new w _,.inr ⟨Nat.le_refl _,by simp⟩⟩
     ·rw [if_neg hji] at hH
      obtain ⟨h1,h2⟩:=hD j hj H hH
      exact ⟨(hb.block H (Array.getElem?_eq_some_iff.1 h1).1).trans h1,.inl h2⟩
    ·unfold upd at hH hH2
     by_cases hji:j=i
     ·have hki:k≠i:=fun e=>hjk (hji.trans e.symm)
      rw [if_pos hji] at hH
      rw [if_neg hki] at hH2
      injection hH with hH
      have h1:=(Array.getElem?_eq_some_iff.1 (hD k hk H hH2).1).1
      omega
     ·rw [if_neg hji] at hH
      by_cases hki:k=i
      ·rw [if_pos hki] at hH2
       injection hH2 with hH2
       have h1:=(Array.getElem?_eq_some_iff.1 (hD j hj H hH).1).1
       omega
      ·rw [if_neg hki] at hH2
       exact hne j hj k hk hjk H hH hH2
   ·have hpe:=pend_of_ready hfE hfn (hl f hfE) hiE hi
    cases fuel with
    | zero=>
     rw [(h w (Below.refl _ _) hS).2] at hpe
     cases hpe
    | succ fuel=>
     obtain ⟨_,o,ho,hfar,hw⟩:=(h w (Below.refl _ _) hS).2 i hpe
     refine wpOp_far ho (fun cs b=>Region.noSelect_spec hsel i o cs b ho) hQ D E hf hfar (wpOp_mono (fun a' w'' h=>⟨fun _=>h.2.1,?_⟩) hw)
     rw [←flL_set D E hiE]
     refine ih fuel (listed.setIfInBounds i true) a' w'' (gapTo G w w) D (by omega) (fun j hj=>?_) (fun j hj H hH=>?_) hne h.2.1 h.2.2
     ·rw [getD_set_ne true (fun e=>hiE (by rw [e];exact hj))];exact hl j hj
     ·obtain ⟨h1,h2⟩:=hD j hj H hH
      exact ⟨(h.1.block H (Array.getElem?_eq_some_iff.1 h1).1).trans h1,.inl h2⟩
theorem wpAnyW_float (E:List Nat) (obj:Nat→Obj) {n fuel:Nat} {listed:Array Bool} {a:Act} {w:World} (hf:floatsB md ops E=true) (hl:(E.all fun i=>!listed.getD i true)=true) (hrun:FloatRun P ops E obj) (hSs:∀ w w',Below w.heap.size w w'→S w→S w') (hsel:Region.noSelect ops=true)
  (hQ:∀ c (a:Act) d v w,Q (.panic c) a w→Q (.panic c) (a.put (some d) v) w) (hn:n=fuel+E.length) (hS:S w) (h:wpAnyF P md ops Q S st E obj fuel listed a w (fun _=>False)):wpAnyW P md ops Q S st n listed a w:=by
 have h1:∀ E:List Nat,flL (fun _=>none) E listed=listed:=fun E=>by induction E with
  | nil=>rfl
  | cons i E ih=>simpa [flL] using ih
 have h2:∀ E:List Nat,flA ops (fun _=>none) E a=a:=fun E=>by induction E with
  | nil=>rfl
  | cons i E ih=>simpa [flA] using ih
 have h3:∀ E:List Nat,outs (fun _=>none) E=E.length:=fun E=>by induction E with
  | nil=>rfl
  | cons i E ih=>simp [outs,ih];omega
 have:=wpAnyF_core (D:=fun _=>none) hf hrun hSs hsel hQ n fuel listed a w (fun _=>False) (by rw [h3];exact hn) (fun i hi=>by simpa using List.all_eq_true.1 hl i hi) (fun _ _ _ h=>by cases h) (fun _ _ _ _ _ _ h=>by cases h) hS h
 rw [h1,h2] at this
 exact this
theorem wpAnyF_one {i:Nat} {o:Oper} {fuel:Nat} {listed:Array Bool} {a:Act} {w:World} {G:Nat→Prop} (hf:floatsB md ops E=true) (hsel:Region.noSelect ops=true) (hQ:∀ c (a:Act) d v w,Q (.panic c) a w→Q (.panic c) (a.put (some d) v) w)
  (hp:pend md ops listed E = [i]∧Region.ready md ops (flAll E listed) = [i]) (hiE:E.contains i=false) (ho:ops[i]?=some o) (hfar:farFrom ops E o=true)
  (h:∀ w',Below w.heap.size w w'→S w'→∀ K':Act→World→Prop,Shut (∀ a'' w'',Below w'.heap.size w' w''→S w''→wpAnyF P md ops Q S st E obj fuel (listed.setIfInBounds i true) a'' w'' (gapTo G w w')→K' a'' w'')→if Region.wanted o (yielded ops a.tmps)=true then Oper.wp P o a w' K' Q else K' (a.put o.dst undef) w') :
  wpAnyF P md ops Q S st E obj (fuel+1) listed a w G:=by
 have hiE':i∉E:=by simpa using hiE
 intro w' hb hS
 have hop:wpOp P ops Q i (fun a' w''=>Below w'.heap.size w' w''∧S w''∧wpAnyF P md ops Q S st E obj fuel (listed.setIfInBounds i true) a' w'' (gapTo G w w')) a w':=
  wpOp_step ho fun K' hK=>h w' hb hS K' (fun a'' w'' h1 h2 h3=>hK a'' w'' ⟨h1,h2,h3⟩)
 refine ⟨fun D hD=>?_,fun j hj=>?_⟩
 ·have hall:∀ i∈E,(D i).isSome=true:=fun i hi=>let ⟨H,hH,_⟩:=hD.1 i hi;by rw [hH];rfl
  have hr:Region.ready md ops (flL D E listed) = [i]:=by rw [flL_all D E hall];exact hp.2
  refine ⟨fun h0=>absurd (hr ▸ h0) (by simp),fun j hj=>?_⟩
  rw [hr] at hj
  obtain rfl:j=i:=by simpa using hj
  refine wpOp_far ho (fun cs b=>Region.noSelect_spec hsel j o cs b ho) hQ D E hf hfar (wpOp_mono (fun a' w'' h=>⟨fun _=>h.2.1,?_⟩) hop)
  rw [←flL_set D E hiE']
  have hD':FlOk E obj D w'' (gapTo (gapTo G w w') w'' w''):=(hD.below h.1).more fun _ h=>.inl h
  cases fuel with
  | zero=>exact (h.2.2 w'' (Below.refl _ _) h.2.1).1 D hD'
  | succ fuel=>exact (h.2.2 w'' (Below.refl _ _) h.2.1).1 D hD'
 ·rw [hp.1] at hj
  obtain rfl:j=i:=by simpa using hj
  exact ⟨hiE',o,ho,hfar,hop⟩
theorem wpAnyF_land {fuel:Nat} {listed:Array Bool} {a:Act} {w:World} {G:Nat→Prop} (hp:pend md ops listed E = [])
  (h:∀ w' D,Below w.heap.size w w'→S w'→FlOk E obj D w' (gapTo G w w')→wpAnyW P md ops Q S st fuel (flAll E listed) (flA ops D E a) w'):wpAnyF P md ops Q S st E obj fuel listed a w G:=by
 have key:∀ w',Below w.heap.size w w'→S w'→∀ D,FlOk E obj D w' (gapTo G w w')→wpAnyW P md ops Q S st fuel (flL D E listed) (flA ops D E a) w':=fun w' hb hS D hD=>by
  rw [flL_all D E fun i hi=>let ⟨H,hH,_⟩:=hD.1 i hi;by rw [hH];rfl]
  exact h w' D hb hS hD
 cases fuel with
 | zero=>exact fun w' hb hS=>⟨key w' hb hS,hp⟩
 | succ fuel=>exact fun w' hb hS=>⟨key w' hb hS,fun i hi=>by rw [hp] at hi;cases hi⟩
theorem wpAnyF_land1 {i:Nat} {oi:Oper} {fuel:Nat} {listed:Array Bool} {a:Act} {w:World} {G:Nat→Prop} (hp:pend md ops listed [i] = []) (hi:ops[i]?=some oi)
  (h:∀ w' HA,Below w.heap.size w w'→S w'→w'.heap[HA]?=some (obj i)→gapTo G w w' HA→wpAnyW P md ops Q S st fuel (listed.setIfInBounds i true) (a.put oi.dst (.pointer (some ⟨HA,0,none⟩))) w'):wpAnyF P md ops Q S st [i] obj fuel listed a w G:=
 wpAnyF_land hp fun w' D hb hS hD=>by
  obtain ⟨HA,h1,h2,h3⟩:=hD.1 i (by simp)
  have:=h w' HA hb hS h2 h3
  simp only [flAll,flA,h1,hi,Option.bind_some]
  exact this
theorem wpAnyF_land2 {i j:Nat} {oi oj:Oper} {fuel:Nat} {listed:Array Bool} {a:Act} {w:World} {G:Nat→Prop} (hp:pend md ops listed [i,j] = []) (hij:(i==j)=false) (hi:ops[i]?=some oi) (hj:ops[j]?=some oj)
  (h:∀ w' HA HB,Below w.heap.size w w'→S w'→w'.heap[HA]?=some (obj i)→w'.heap[HB]?=some (obj j)→gapTo G w w' HA→gapTo G w w' HB→HA≠HB →
   wpAnyW P md ops Q S st fuel ((listed.setIfInBounds j true).setIfInBounds i true) ((a.put oj.dst (.pointer (some ⟨HB,0,none⟩))).put oi.dst (.pointer (some ⟨HA,0,none⟩))) w'):wpAnyF P md ops Q S st [i,j] obj fuel listed a w G:=
 wpAnyF_land hp fun w' D hb hS hD=>by
  obtain ⟨HA,h1,h2,h3⟩:=hD.1 i (by simp)
  obtain ⟨HB,k1,k2,k3⟩:=hD.1 j (by simp)
  have:=h w' HA HB hb hS h2 k2 h3 k3 (fun e=>hD.2 i (by simp) j (by simp) (by simpa using hij) (by rw [h1,k1,e]))
  simp only [flAll,flA,h1,k1,hi,hj,Option.bind_some]
  exact this
theorem pend_spec {j:Nat} {l:Array Bool} : j∈pend md ops l E↔j∉E∧l.getD j true=false∧∃ o,ops[j]?=some o∧(∀ e∈o.after,Region.binds md e=true→l.getD e.on false=true∨e.on∈E)∧∃ f∈E,∀ e∈o.after,Region.binds md e=true→e.on≠f:=by
 have bx:∀ {p q:Bool},(!p || q)=true↔(p=true→q=true):=by decide
 unfold pend
 rw [List.mem_filter,List.mem_range]
 cases ho:ops[j]? with
 | none=>simp
 | some o=>
  have hlt:j<ops.size:=(Array.getElem?_eq_some_iff.1 ho).1
  simp only [hlt,true_and,Option.map_some,Option.getD_some,Bool.and_eq_true,Bool.not_eq_true',Array.all_eq_true_iff_forall_mem,Bool.or_assoc,bx,Bool.or_eq_true,List.any_eq_true,bne_iff_ne,ne_eq,List.contains_eq_mem,decide_eq_false_iff_not,decide_eq_true_eq,Option.some.injEq,exists_eq_left',and_assoc]
theorem ready_flL {D:Nat→Option Nat} {i:Nat} {l:Array Bool} : ∀ E:List Nat,i∉E→i∈Region.ready md ops l→i∈Region.ready md ops (flL D E l)
 | [],_,h=>h
 | k :: E,hi,h=>by
  have h1:i∉E:=fun h'=>hi (List.mem_cons_of_mem _ h')
  have h2:i≠k:=fun e=>hi (e ▸ List.mem_cons_self)
  unfold flL
  split
  ·exact ready_mono (ready_flL E h1 h) h2
  ·exact ready_flL E h1 h
theorem flA_eval {o:Oper} (hs:∀ cs b,o.op ≠ .select cs b) (D:Nat→Option Nat) {a:Act} : ∀ E:List Nat,floatsB md ops E=true→farFrom ops E o=true →
  execOp (flA ops D E a).eval o=execOp a.eval o∧Region.wanted o (yielded ops (flA ops D E a).tmps)=Region.wanted o (yielded ops a.tmps)∧∀ v,(flA ops D E a).put o.dst v=flA ops D E (a.put o.dst v)
 | [],_,_=>⟨rfl,rfl,fun _=>rfl⟩
 | k :: E,hf,hfar=>by
  have hff:=hf
  have hfar':=farFrom_spec _ hfar k List.mem_cons_self
  simp only [floatsB,Bool.and_eq_true] at hf
  simp only [farFrom,List.all_cons,Bool.and_eq_true] at hfar
  obtain ⟨ok,d,ho,_,hd,_⟩:=floatsB_dst _ hff List.mem_cons_self
  have hod:(ops[k]?).bind (·.dst)=some d:=by rw [ho];exact hd
  obtain ⟨e1,e2,e3⟩:=flA_eval hs D (a:=a) E hf.2 hfar.2
  unfold flA
  cases hD:D k with
  | none=>exact ⟨e1,e2,e3⟩
  | some H=>
   simp only [hod]
   have h1:∀ d',some d=some d'→d'∉o.looksAt ops:=fun d' e=>by injection e with e;exact e ▸ (hfar' d hod).1
   refine ⟨(execOp_put o hs _ _ _ h1).trans e1,(wanted_put o _ _ _ h1).trans e2,fun v=>?_⟩
   rw [←e3 v,Act.put_comm _ _ v fun d' e=>by injection e with e;exact e ▸ (hfar' d hod).2]
theorem wpAnyF_first {i:Nat} {k:Nat} {oi:Oper} {v:Value} (hi:ops[i]?=some oi) (hsel:∀ (j:Nat) (o:Oper) cs b,ops[j]?=some o→o.op ≠ .select cs b) (hQ:∀ c a w,Q (.panic c) (a.put oi.dst v) w→Q (.panic c) a w)
  (hki:waitsFor md ops k i=true) (hnk:(k==i)=false) (hst:(st==k)=true∨waitsFor md ops st k=true) (hne:(st==i)=false) (hiE:i∉E) (hkE:k∉E) (hsE:st∉E) (hf:floatsB md ops E=true) (hfi:farFrom ops E oi=true) :
  ∀ (fuel:Nat) (listed:Array Bool) (a:Act) (w:World) (G:Nat→Prop),(∀ j oj,ops[j]?=some oj→j≠i→listed.getD j true=false→(∀ e∈oj.after,Region.binds md e=true→e.on≠i)→oi.apart ops oj=true)→i∈Region.ready md ops listed →
   listed.getD k true=false→listed.getD st true=false→YieldsIf P ops S oi v a →
   wpAnyF P md ops Q S st E obj fuel (listed.setIfInBounds i true) (a.put oi.dst v) w G→wpAnyF P md ops Q S st E obj (fuel+1) listed a w G:=by
 intro fuel
 induction fuel with
 | zero=>
  intro listed a w G hfree hr hk hl hy h w' hb hS
  have ee:=fun D=>flA_eval (md:=md) (a:=a) (hsel i oi · · hi) D E hf hfi
  refine ⟨fun D hD=>?_,fun j hj=>?_⟩
  ·refine wpAnyW_first hi hsel hQ hki hnk hst hne 0 (flL D E listed) (flA ops D E a) w' (fun j oj hj hji hun=>hfree j oj hj hji ?_) (ready_flL E hiE hr) (hy.of_same (ee D).1 (ee D).2.1) (by rw [flL_getD D E (by simp [hkE])];exact hk) (by rw [flL_getD D E (by simp [hsE])];exact hl) hS ?_
   ·cases hc:(E.contains j && (D j).isSome) with
    | false=>rw [flL_getD D E hc] at hun;exact hun
    | true=>
     simp only [Bool.and_eq_true] at hc
     rw [flL_done E (by simpa using hc.1) hc.2] at hun
     cases hun
   ·rw [(ee D).2.2,←flL_set D E hiE]
    exact (h w' hb hS).1 D hD
  ·by_cases hji:j=i
   ·subst hji
    exact ⟨hiE,oi,hi,hfi,hy.wpOp hi hS ⟨Below.refl _ _,hS,wpAnyF_later hb h⟩⟩
   ·have:=(h w' hb hS).2
    obtain ⟨p1,p2,o,p3,p4,p5⟩:=pend_spec.1 hj
    have hj':j∈pend md ops (listed.setIfInBounds i true) E:=pend_spec.2 ⟨p1,by rw [getD_set_ne true (Ne.symm hji)];exact p2,o,p3,fun e he hb=>(p4 e he hb).imp (fun h=>getD_set_true h) id,p5⟩
    rw [this] at hj'
    cases hj'
 | succ fuel ih=>
  intro listed a w G hfree hr hk hl hy h w' hb hS
  have ee:=fun D=>flA_eval (md:=md) (a:=a) (hsel i oi · · hi) D E hf hfi
  refine ⟨fun D hD=>?_,fun j hj=>?_⟩
  ·refine wpAnyW_first hi hsel hQ hki hnk hst hne (fuel+1) (flL D E listed) (flA ops D E a) w' (fun j oj hj hji hun=>hfree j oj hj hji ?_) (ready_flL E hiE hr) (hy.of_same (ee D).1 (ee D).2.1) (by rw [flL_getD D E (by simp [hkE])];exact hk) (by rw [flL_getD D E (by simp [hsE])];exact hl) hS ?_
   ·cases hc:(E.contains j && (D j).isSome) with
    | false=>rw [flL_getD D E hc] at hun;exact hun
    | true=>
     simp only [Bool.and_eq_true] at hc
     rw [flL_done E (by simpa using hc.1) hc.2] at hun
     cases hun
   ·rw [(ee D).2.2,←flL_set D E hiE]
    exact (h w' hb hS).1 D hD
  ·by_cases hji:j=i
   ·subst hji
    exact ⟨hiE,oi,hi,hfi,hy.wpOp hi hS ⟨Below.refl _ _,hS,wpAnyF_later hb h⟩⟩
   ·obtain ⟨p1,p2,o,p3,p4,p5⟩:=pend_spec.1 hj
    have hj':j∈pend md ops (listed.setIfInBounds i true) E:=pend_spec.2 ⟨p1,by rw [getD_set_ne true (Ne.symm hji)];exact p2,o,p3,fun e he hb=>(p4 e he hb).imp (fun h=>getD_set_true h) id,p5⟩
    obtain ⟨_,oj,hoj,hfar,hw⟩:=(h w' hb hS).2 j hj'
    obtain rfl:o=oj:=by rw [p3] at hoj;injection hoj
    have hiun:=(mem_ready.1 hr).1
    have hnw:∀ e∈o.after,Region.binds md e=true→e.on≠i:=fun e he hb heq=>by
     rcases p4 e he hb with h0 | h0
     ·rw [heq] at h0
      rcases Nat.lt_or_ge i listed.size with h' | h'
      ·simp [h'] at hiun h0;rw [hiun] at h0;cases h0
      ·simp [Array.getElem?_eq_none h'] at h0
     ·exact hiE (heq ▸ h0)
    have nw:∀ {q r:Nat},waitsFor md ops q r=true→listed.getD r true=false→r∉E→j≠q:=fun {q r} hw hun hrE e=>by
     subst e
     unfold waitsFor at hw
     simp only [p3] at hw
     obtain ⟨e,he,hb⟩:=Array.any_eq_true'.1 hw
     simp only [Bool.and_eq_true,beq_iff_eq] at hb
     rcases p4 e he hb.1 with h0 | h0
     ·rw [hb.2] at h0
      rcases Nat.lt_or_ge r listed.size with h' | h'
      ·simp [h'] at hun h0;rw [hun] at h0;cases h0
      ·simp [Array.getElem?_eq_none h'] at h0
     ·exact hrE (hb.2 ▸ h0)
    have hjk:j≠k:=nw hki hiun hiE
    have hjs:j≠st:=by
     rcases hst with h | h
     ·exact fun e=>hjk (e.trans (by simpa using h))
     ·exact nw h hk hkE
    refine ⟨p1,o,p3,hfar,?_⟩
    have h2:=wpOp_putIf p3 (hfree j o p3 hji p2 hnw) (fun cs b=>hsel i oi cs b hi) (fun cs b=>hsel j o cs b p3) hQ hy hw
    refine wpOp_mono (fun a' w'' h3=>⟨h3.2.1,h3.2.2.1,ih (listed.setIfInBounds j true) a' w'' _ (fun k' ok hk' hki' hun hno=>hfree k' ok hk' hki' ?_ hno) (ready_mono hr (Ne.symm hji)) (by rw [getD_set_ne true hjk];exact hk) (by rw [getD_set_ne true hjs];exact hl) h3.1 ?_⟩) h2
    ·by_cases hjk':j=k'
     ·subst hjk';exact p2
     ·rw [getD_set_ne true hjk'] at hun;exact hun
    ·rw [Array.setIfInBounds_comm _ _ hji]
     exact h3.2.2.2
theorem wpAnyF_take {i:Nat} (k:Nat) {oi:Oper} {v:Value} {fuel:Nat} {listed:Array Bool} {a:Act} {w:World} {G:Nat→Prop} (hi:ops[i]?=some oi) (hs:Region.noSelect ops=true) (hf:floatsB md ops E=true) (hfr:Region.free md ops listed i=true)
  (hc:((Region.ready md ops listed).contains i && waitsFor md ops k i && !(k==i) && (st==k || waitsFor md ops st k) && !(st==i) && !E.contains i && !E.contains k && !E.contains st && farFrom ops E oi && !listed.getD k true && !listed.getD st true)=true)
  (hQ:∀ c a w,Q (.panic c) (a.put oi.dst v) w→Q (.panic c) a w) (hy:YieldsIf P ops S oi v a) (h:wpAnyF P md ops Q S st E obj fuel (listed.setIfInBounds i true) (a.put oi.dst v) w G):wpAnyF P md ops Q S st E obj (fuel+1) listed a w G:=by
 simp only [Bool.and_eq_true,Bool.not_eq_true',Bool.or_eq_true,List.contains_eq_mem,decide_eq_false_iff_not,decide_eq_true_eq,and_assoc] at hc
 obtain ⟨h1,h2,h3,h4,h5,h6,h7,h8,h9,h10,h11⟩:=hc
 exact wpAnyF_first hi (Region.noSelect_spec hs) hQ h2 h3 h4 h5 h6 h7 h8 hf h9 fuel listed a w G (Region.free_spec hi hfr) h1 h10 h11 hy h
def gateB (md:Region.Mode) (ops:Array Oper) (st:Nat) (E:List Nat) (listed:Array Bool) (i:Nat):Bool:=(List.range ops.size).any fun k=>waitsFor md ops k i && !(k==i) && (st==k || waitsFor md ops st k) && !E.contains k && !listed.getD k true
def takeB (md:Region.Mode) (ops:Array Oper) (st:Nat) (E:List Nat) (listed:Array Bool) (i:Nat):Bool:=Region.noSelect ops && Region.free md ops listed i && (Region.ready md ops listed).contains i && gateB md ops st E listed i && !(st==i) && !E.contains i && !E.contains st && (match ops[i]? with | some o=>farFrom ops E o | none=>false) && !listed.getD st true && floatsB md ops E
theorem takeB_spec {i:Nat} {oi:Oper} {listed:Array Bool} (hi:ops[i]?=some oi) (h:takeB md ops st E listed i=true) :
  Region.noSelect ops=true∧floatsB md ops E=true∧Region.free md ops listed i=true∧∃ k,((Region.ready md ops listed).contains i && waitsFor md ops k i && !(k==i) && (st==k || waitsFor md ops st k) && !(st==i) && !E.contains i && !E.contains k && !E.contains st && farFrom ops E oi && !listed.getD k true && !listed.getD st true)=true:=by
 unfold takeB gateB at h
 rw [hi] at h
 simp only [Bool.and_eq_true,List.any_eq_true] at h
 obtain ⟨⟨⟨⟨⟨⟨⟨⟨⟨h1,h2⟩,h3⟩,k,hk0,hk⟩,h5⟩,h6⟩,h7⟩,h8⟩,h9⟩,h10⟩:=h
 obtain ⟨⟨⟨⟨k1,k2⟩,k3⟩,k4⟩,k5⟩:=hk
 refine ⟨h1,h10,h2,k,?_⟩
 simp only [h3,k1,k2,k3,h5,h6,k4,h7,h8,k5,h9,Bool.and_self]
theorem tkF (i:Nat) {oi:Oper} {v:Value} {fuel:Nat} {listed:Array Bool} {a:Act} {w:World} {G:Nat→Prop} (hi:ops[i]?=some oi) (hB:takeB md ops st E listed i=true) (hQ:∀ c a w,Q (.panic c) (a.put oi.dst v) w→Q (.panic c) a w)
  (hg:Region.wanted oi (yielded ops a.tmps)=true) (hy:∀ z,S z→(execOp a.eval oi).run P z = .ok (.value v) z) (h:wpAnyF P md ops Q S st E obj fuel (listed.setIfInBounds i true) (a.put oi.dst v) w G):wpAnyF P md ops Q S st E obj (fuel+1) listed a w G:=by
 obtain ⟨h1,h2,h3,k,h4⟩:=takeB_spec hi hB
 exact wpAnyF_take k hi h1 h2 h3 h4 hQ (.inl ⟨hg,hy⟩) h
theorem tkW (i:Nat) {oi:Oper} {v:Value} {fuel:Nat} {listed:Array Bool} {a:Act} {w:World} (hS:S w) (hi:ops[i]?=some oi) (hB:takeB md ops st [] listed i=true) (hQ:∀ c a w,Q (.panic c) (a.put oi.dst v) w→Q (.panic c) a w)
  (hg:Region.wanted oi (yielded ops a.tmps)=true) (hy:∀ z,S z→(execOp a.eval oi).run P z = .ok (.value v) z) (h:wpAnyW P md ops Q S st fuel (listed.setIfInBounds i true) (a.put oi.dst v) w):wpAnyW P md ops Q S st (fuel+1) listed a w:=by
 obtain ⟨h1,h2,h3,k,h4⟩:=takeB_spec hi hB
 simp only [Bool.and_eq_true] at h4
 obtain ⟨⟨⟨⟨⟨⟨⟨⟨⟨⟨k1,k2⟩,k3⟩,k4⟩,k5⟩,_⟩,_⟩,_⟩,_⟩,k6⟩,k7⟩:=h4
 exact wpAnyW_take k hi h1 h3 k1 (by simp only [k2,k3,k4,k5,k6,k7,Bool.and_self]) hQ (.inl ⟨hg,hy⟩) hS h
theorem tZ0 (i : Nat) {oi : Oper} {v : Value} {fuel : Nat} {listed : Array Bool} {a : Act} {w : World} (hS : S w) (h : wpAnyW P md ops Q S st fuel (listed.setIfInBounds i true) (a.put oi.dst v) w) (hi : ops[i]? = some oi := by rfl) (hB : takeB md ops st [] listed i = true := by kernel_rfl) (hQ : ∀ c a w, Q (.panic c) (a.put oi.dst v) w → Q (.panic c) a w := by exact fun _ _ _ h => h) (hg : Region.wanted oi (yielded ops a.tmps) = true := by kernel_rfl)
 (y : ∀ z, S z → (execOp a.eval oi).run P z = .ok (.value v) z := by (intro _ _; go_simp; rfl)) : wpAnyW P md ops Q S st (fuel + 1) listed a w := tkW i hS hi hB hQ hg y h
theorem tw (i : Nat) {oi : Oper} {v : Value} {fuel : Nat} {listed : Array Bool} {a : Act} {w : World} (hS : S w) (hy : ∀ z, S z → (execOp a.eval oi).run P z = .ok (.value v) z)
 (h : wpAnyW P md ops Q S st fuel (listed.setIfInBounds i true) (a.put oi.dst v) w) (hi : ops[i]? = some oi := by rfl) (hB : takeB md ops st [] listed i = true := by kernel_rfl) (hQ : ∀ c a w, Q (.panic c) (a.put oi.dst v) w → Q (.panic c) a w := by exact fun _ _ _ h => h) (hg : Region.wanted oi (yielded ops a.tmps) = true := by rfl) : wpAnyW P md ops Q S st (fuel + 1) listed a w := tkW i hS hi hB hQ hg hy h
theorem tf (i : Nat) {oi : Oper} {v : Value} {fuel : Nat} {listed : Array Bool} {a : Act} {w : World} {G : Nat → Prop} (hy : ∀ z, S z → (execOp a.eval oi).run P z = .ok (.value v) z)
 (h : wpAnyF P md ops Q S st E obj fuel (listed.setIfInBounds i true) (a.put oi.dst v) w G) (hi : ops[i]? = some oi := by rfl) (hB : takeB md ops st E listed i = true := by kernel_rfl) (hQ : ∀ c a w, Q (.panic c) (a.put oi.dst v) w → Q (.panic c) a w := by exact fun _ _ _ h => h) (hg : Region.wanted oi (yielded ops a.tmps) = true := by rfl) : wpAnyF P md ops Q S st E obj (fuel + 1) listed a w G := tkF i hi hB hQ hg hy h
theorem wp_region_U {id:Nat} {a:Act} {w:World} (st:Nat) (hm:P.follows .mixedOrders=true)
  (h:∀ z,Below w.heap.size w z→z.heap.size=w.heap.size→wpAnyW P .any ops Q (fun z=>Below w.heap.size w z) st ops.size (Array.replicate ops.size false) a z):(Code.region id ops true).wp P Q a w:=
 wp_region_wait _ st hm (h w.drew (Below.refl _ _).drew rfl)
theorem FloatRun.one {i:Nat} {oi:Oper} {bi:Obj} (hi:ops[i]?=some oi) (ri:∀ (a:Act) (w:World),(execOp a.eval oi).run P w = .ok (.value (.pointer (some ⟨w.heap.size,0,none⟩))) (w.alloc bi)):FloatRun P ops [i] (fun _=>bi):=fun q hq o ho=>by
 obtain rfl:q=i:=by simpa using hq
 rw [hi] at ho
 injection ho with ho
 exact ho ▸ ri
theorem FloatRun.two {i j:Nat} {oi oj:Oper} {bi bj:Obj} (hij:(j==i)=false) (hi:ops[i]?=some oi) (ri:∀ (a:Act) (w:World),(execOp a.eval oi).run P w = .ok (.value (.pointer (some ⟨w.heap.size,0,none⟩))) (w.alloc bi))
  (hj:ops[j]?=some oj) (rj:∀ (a:Act) (w:World),(execOp a.eval oj).run P w = .ok (.value (.pointer (some ⟨w.heap.size,0,none⟩))) (w.alloc bj)):FloatRun P ops [i,j] (fun q=>if q=i then bi else bj):=fun q hq o ho=>by
 rcases List.mem_cons.1 hq with rfl | hq
 ·rw [hi] at ho
  injection ho with ho
  simp only [if_pos]
  exact ho ▸ ri
 ·obtain rfl:q=j:=by simpa using hq
  rw [hj] at ho
  injection ho with ho
  simp only [if_neg (show ¬q=i by simpa using hij)]
  exact ho ▸ rj
end
end
section
open Go.RowKit
section
variable {P:Program} {md:Region.Mode} {ops:Array Oper} {Q:Exit→Act→World→Prop} {S:World→Prop} {st:Nat}
theorem tkS (i:Nat) {oi:Oper} {fuel:Nat} {listed:Array Bool} {a:Act} {w:World} (hS:S w) (hi:ops[i]?=some oi) (hB:takeB md ops st [] listed i=true) (hQ:∀ c a w,Q (.panic c) (a.put oi.dst undef) w→Q (.panic c) a w)
  (hg:Region.wanted oi (yielded ops a.tmps)=false) (h:wpAnyW P md ops Q S st fuel (listed.setIfInBounds i true) (a.put oi.dst undef) w):wpAnyW P md ops Q S st (fuel+1) listed a w:=by
 obtain ⟨h1,h2,h3,k,h4⟩:=takeB_spec hi hB
 simp only [Bool.and_eq_true] at h4
 obtain ⟨⟨⟨⟨⟨⟨⟨⟨⟨⟨k1,k2⟩,k3⟩,k4⟩,k5⟩,_⟩,_⟩,_⟩,_⟩,k6⟩,k7⟩:=h4
 exact wpAnyW_take k hi h1 h3 k1 (by simp only [k2,k3,k4,k5,k6,k7,Bool.and_self]) hQ (.inr ⟨hg,rfl⟩) hS h
end
section
variable {P:Program} {md:Region.Mode} {ops:Array Oper} {Q:Exit→Act→World→Prop} {S:World→Prop}
def takeH (md:Region.Mode) (ops:Array Oper) (listed:Array Bool) (i:Nat):Bool:=Region.noSelect ops && Region.free md ops listed i && (Region.ready md ops listed).contains i
theorem tkH (i:Nat) {oi:Oper} {v:Value} {fuel:Nat} {listed:Array Bool} {a:Act} {w:World} (hS:S w) (hi:ops[i]?=some oi) (hB:takeH md ops listed i=true) (hQ:∀ c a w,Q (.panic c) (a.put oi.dst v) w→Q (.panic c) a w)
  (hg:Region.wanted oi (yielded ops a.tmps)=true) (hy:∀ z,S z→(execOp a.eval oi).run P z = .ok (.value v) z) (h:wpAnyH P md ops Q S fuel (listed.setIfInBounds i true) (a.put oi.dst v) w):wpAnyH P md ops Q S (fuel+1) listed a w:=by
 unfold takeH at hB
 simp only [Bool.and_eq_true] at hB
 exact wpAnyH_take hi hB.1.1 hB.1.2 hB.2 hQ (.inl ⟨hg,hy⟩) hS h
theorem wpAnyH_one {i:Nat} {o:Oper} {fuel:Nat} {listed:Array Bool} {a:Act} {w:World} (hr:Region.ready md ops listed = [i]) (ho:ops[i]?=some o) (hw:Region.wanted o (yielded ops a.tmps)=true)
  (h:∀ K':Act→World→Prop,Shut (∀ a w,S w→wpAnyH P md ops Q S fuel (listed.setIfInBounds i true) a w→K' a w)→Oper.wp P o a w K' Q) :
  wpAnyH P md ops Q S (fuel+1) listed a w:=
 ⟨fun h0=>absurd (hr ▸ h0) (by simp),fun j hj=>by
  rw [hr] at hj
  obtain rfl:j=i:=by simpa using hj
  exact wpOp_step ho (fun K' hK=>by rw [if_pos hw];exact h K' (fun a w hS hW=>hK a w ⟨hS,hW⟩))⟩
theorem wpAnyH_end {listed:Array Bool} {a:Act} {w:World} (hr:Region.ready md ops listed = []) (h:Q .normal a w):∀ fuel,wpAnyH P md ops Q S fuel listed a w
 | 0=>⟨hr,h⟩
 | _+1=>⟨fun _=>h,by rw [hr];simp⟩
theorem wp_region_H {id:Nat} {a:Act} {w:World} (hm:P.follows .mixedOrders=true)
  (h:∀ z,Below w.heap.size w z→z.heap.size=w.heap.size→wpAnyH P .any ops Q (fun z=>Below w.heap.size w z) ops.size (Array.replicate ops.size false) a z):(Code.region id ops true).wp P Q a w:=
 wp_region_any hm (wpAny_of_held _ _ _ _ (h w.drew (Below.refl _ _).drew rfl))
end
section
variable {P:Program} {md:Region.Mode} {ops:Array Oper} {Q:Exit→Act→World→Prop} {S:World→Prop} {st:Nat}
theorem qh (i:Nat) {oi:Oper} {v:Value} {fuel:Nat} {listed:Array Bool} {a:Act} {w:World} (hS:S w) (h:wpAnyH P md ops Q S fuel (listed.setIfInBounds i true) (a.put oi.dst v) w) (hi:ops[i]?=some oi:=by rfl) (hB:takeH md ops listed i=true:=by kernel_rfl) (hQ:∀ c a w,Q (.panic c) (a.put oi.dst v) w→Q (.panic c) a w:=by exact fun _ _ _ h=>h) (hg:Region.wanted oi (yielded ops a.tmps)=true:=by kernel_rfl)
  (y:∀ z,S z→(execOp a.eval oi).run P z = .ok (.value v) z:=by (intro _ _;go_simp;rfl)):wpAnyH P md ops Q S (fuel+1) listed a w:=tkH i hS hi hB hQ hg y h
theorem oq (i:Nat) {o:Oper} {fuel:Nat} {listed:Array Bool} {a:Act} {w:World}
  (h:∀ K':Act→World→Prop,Shut (∀ a w,S w→wpAnyH P md ops Q S fuel (listed.setIfInBounds i true) a w→K' a w)→Oper.wp P o a w K' Q) (hr:Region.ready md ops listed = [i]:=by kernel_rfl) (ho:ops[i]?=some o:=by rfl) (hw:Region.wanted o (yielded ops a.tmps)=true:=by kernel_rfl):wpAnyH P md ops Q S (fuel+1) listed a w:=wpAnyH_one hr ho hw h
theorem qz (i:Nat) {oi:Oper} {v:Value} {fuel:Nat} {listed:Array Bool} {a:Act} {w:World} (hS:S w) (h:wpAnyW P md ops Q S st fuel (listed.setIfInBounds i true) (a.put oi.dst v) w) (hi:ops[i]?=some oi:=by rfl) (hB:takeB md ops st [] listed i=true:=by kernel_rfl) (hQ:∀ c a w,Q (.panic c) (a.put oi.dst v) w→Q (.panic c) a w:=by exact fun _ _ _ h=>h) (hg:Region.wanted oi (yielded ops a.tmps)=true:=by kernel_rfl)
  (y:∀ z,S z→(execOp a.eval oi).run P z = .ok (.value v) z:=by (intro _ _;go_simp;rfl)):wpAnyW P md ops Q S st (fuel+1) listed a w:=tkW i hS hi hB hQ hg y h
end
section
variable {P:Program} {md:Region.Mode} {ops:Array Oper} {Q:Exit→Act→World→Prop} {S:World→Prop} {st:Nat} {E:List Nat} {obj:Nat→Obj}
theorem qF (i:Nat) {oi:Oper} {v:Value} {fuel:Nat} {listed:Array Bool} {a:Act} {w:World} {G:Nat→Prop} (h:wpAnyF P md ops Q S st E obj fuel (listed.setIfInBounds i true) (a.put oi.dst v) w G) (hi:ops[i]?=some oi:=by rfl) (hB:takeB md ops st E listed i=true:=by kernel_rfl) (hQ:∀ c a w,Q (.panic c) (a.put oi.dst v) w→Q (.panic c) a w:=by exact fun _ _ _ h=>h) (hg:Region.wanted oi (yielded ops a.tmps)=true:=by kernel_rfl)
  (y:∀ z,S z→(execOp a.eval oi).run P z = .ok (.value v) z:=by (intro _ _;go_simp;rfl)):wpAnyF P md ops Q S st E obj (fuel+1) listed a w G:=tkF i hi hB hQ hg y h
end
end
section
open Go.RowKit Hb Ht
set_option exponentiation.threshold 5000
attribute [local go_sem ↓] Go.wp_at_zero Go.wp_at_succ
attribute [local go_sem] run_store_float
def nmV:Nm→Int
 | .int z=>z * U74
 | .flo f=>fV f
theorem cut_run (F:Nat) (h:Fin64 F) (w:World):(callFunc 159 #[.float .f64 F]).run Tryz.prog w = .ok (.value (.float .f64 (cutF F))) w:=by
 obtain ⟨m,p,e1,_⟩:=read_fin h
 have e2:cutF F=Ieee.double.write ((Ieee.double.read F).integral .zero):=rfl
 have e3:FloatKind.f64.decode F = .number (decide (9223372036854775808≤F)) m p:=e1
 have k:(callFunc 159 #[.float .f64 F]).run Tryz.prog w=(do let v ←Extern.MathFloor.toIntegral "math.archTrunc" .zero #[.float .f64 F];pure (Next.value v)).run Tryz.prog w:=by kernel_rfl
 have k2:Extern.MathFloor.toIntegral "math.archTrunc" .zero #[.float .f64 F]=(match FloatKind.f64.decode F with
  | .nan s t=>(if FloatKind.f64.format.quiet t=t then pure (.float .f64 F) else do
   let kept ←choose (.extern "math.Floor,Ceil,Trunc,RoundToEven.signallingNaN kept" 2)
   pure (.float .f64 (if kept==1 then F else FloatKind.f64.encode (.nan s (FloatKind.f64.format.quiet t)))))
  | d=>pure (.float .f64 (FloatKind.f64.encode (d.integral .zero)))):=rfl
 rw [k,k2,e3]
 rw [e2,e1]
 rfl
set_option maxRecDepth 100000 in
theorem Trunc_ok {F R:Nat} (h:Fin64 F) (hR:cutF F=R) (w:World):Calls Tryz.prog 67 #[.float .f64 F] w fun e w'=>e = .returned (.float .f64 R)∧w=w':=by
 have hb:=cut_run F h
 rw [hR] at hb
 go_enter Tryz.func67,Tryz.ntmps67
 go_wp2
 go_ret
 exact ⟨rfl,rfl⟩
def cmpM (x y:Nm):Int:=cmpE (nmV x) (nmV y)
def CmPost (w:World) (x y:Nm) (e:Ending) (w':World):Prop:=e = .returned (.int .i64 (cmpM x y))∧Below w.heap.size w w'
def sgI:Ordering→Int
 | .lt=>-1
 | .eq=>0
 | .gt=>1
theorem sgI_compare (a b:Int):sgI (compare a b)=cmpE a b:=by
 unfold cmpE
 rcases Int.lt_trichotomy a b with h | h | h
 ·rw [Int.compare_eq_lt.2 h,if_pos h];rfl
 ·subst h;rw [Int.compare_eq_eq.2 rfl,if_neg (by omega),if_neg (by omega)];rfl
 ·rw [Int.compare_eq_gt.2 h,if_neg (by omega),if_pos h];rfl
theorem conv_sg (o:Ordering) (w1:World):(convert 68 3 (.float .f64 (sgB o))).run Tryz.prog w1 = .ok (.int .i64 (sgI o)) w1:=by
 cases o
 ·exact run_convert_float_int w1 _ _ .f64 .i64 _ _ (by kernel_rfl) Tryz.underlying3 (by decide +kernel)
 ·exact run_convert_float_int w1 _ _ .f64 .i64 _ _ (by kernel_rfl) Tryz.underlying3 (by decide +kernel)
 ·exact run_convert_float_int w1 _ _ .f64 .i64 _ _ (by kernel_rfl) Tryz.underlying3 (by decide +kernel)
theorem cmpE_bound (a b:Int):cmpE a b = -1∨cmpE a b=0∨cmpE a b=1:=by
 unfold cmpE
 split
 ·exact .inl rfl
 ·split
  ·exact .inr (.inr rfl)
  ·exact .inr (.inl rfl)
theorem cmpZ_E (a b:Int):cmpZ a b=cmpE a b:=rfl
set_option maxRecDepth 100000 in
set_option maxHeartbeats 4000000 in
theorem cmp_ff {q1 q2:Nv} {w:World} (h1:q1.At w (fun b=>b<w.heap.size)) (h2:q2.At w (fun b=>b<w.heap.size)) (e1:q1.b=true) (e2:q2.b=true) :
  Calls Tryz.prog 33 #[q1.v,q2.v] w (CmPost w q1.nm q2.nm):=by
 have hX1:=NBox.new w q1
 have hB1:Below w.heap.size w (w.alloc (.cells q1.vals.toArray 70)):=(Below.refl _ _).alloc (Nat.le_refl _) _
 have hZ1:=World.size_alloc w (.cells q1.vals.toArray 70)
 have hX2:=NBox.new (w.alloc (.cells q1.vals.toArray 70)) q2
 have hB2:=hB1.alloc hB1.size (.cells q2.vals.toArray 70)
 have hX1b:=hX1.below ((Below.refl _ _).alloc (Nat.le_refl _) (.cells q2.vals.toArray 70)) hX1.lt
 have hZ2:=World.size_alloc (w.alloc (.cells q1.vals.toArray 70)) (.cells q2.vals.toArray 70)
 rw [hZ1] at hX2 hZ2
 have HA:=Lib.hid hX1b
 have HBx:=Lib.hid hX2
 have HB:=Lib.hid hB2
 have HZ:=Lib.hid hZ2
 have HQ1:=Lib.hid h1
 have HQ2:=Lib.hid h2
 clear hX1 hB1 hZ1 hX2 hB2 hX1b hZ2 h1 h2
 obtain ⟨g,A,n,c,l,f,b⟩:=q1
 obtain ⟨g',A',n',c',l',f',b'⟩:=q2
 simp only at e1 e2
 subst e1 e2
 simp only [Nv.vals] at HA HBx HB HZ
 show Calls Tryz.prog 33 #[.agg #[.bool g,.slice A n c,.float .f64 f,.bool true],.agg #[.bool g',.slice A' n' c',.float .f64 f',.bool true]] w _
 obtain ⟨a0,a1,a2,a3⟩:=HA.out.cells
 obtain ⟨b0,b1,b2,b3⟩:=HBx.out.cells
 simp only at a0 a1 a2 a3 b0 b1 b2 b3
 obtain ⟨r,hr,hr64,hor⟩:=sub_fin HQ1.out.fl.1 HQ2.out.fl.1
 try simp only at hr hor
 have hsub:∀ w1,(binOp .sub 68 (.float .f64 f) (.float .f64 f')).run Tryz.prog w1 = .ok (.float .f64 r) w1:=fun w1=>run_float_arith w1 .sub _ .f64 _ _ _ hr
 have HM:=Lib.hid (show cmpM (.flo f) (.flo f')=sgI (compare (fV f) (fV f')) from (sgI_compare _ _).symm)
 have HS:=Lib.hid (sign_f hor)
 generalize compare (fV f) (fV f')=o at *
 have hcv:=conv_sg o
 clear hr hor
 go_enter Tryz.func33,Tryz.ntmps33
 go_upto_region 1 with fail
 generalize (w.alloc (.cells #[.bool g,.slice A n c,.float .f64 f,.bool true] 70)).alloc (.cells #[.bool g',.slice A' n' c',.float .f64 f',.bool true] 70)=w0 at *
 go_wp2_with fail
 (with_reducible refine (HS.out _).mono ?_)
 rintro e w1 ⟨rfl,rfl⟩
 go_wp2_with fail
 have key:CmPost w (Nv.nm ⟨g,A,n,c,l,f,true⟩) (Nv.nm ⟨g',A',n',c',l',f',true⟩) (.returned (.int .i64 (sgI o))) w0:=⟨congrArg (fun z=>Ending.returned (.int .i64 z)) HM.out.symm,HB.out⟩
 go_ret
 exact key
set_option maxRecDepth 100000 in
set_option maxHeartbeats 4000000 in
theorem cmp_ii {q1 q2:Nv} {w:World} (h1:q1.At w (fun b=>b<w.heap.size)) (h2:q2.At w (fun b=>b<w.heap.size)) (e1:q1.b=false) (e2:q2.b=false) :
  Calls Tryz.prog 33 #[q1.v,q2.v] w (CmPost w q1.nm q2.nm):=by
 have hX1:=NBox.new w q1
 have hB1:Below w.heap.size w (w.alloc (.cells q1.vals.toArray 70)):=(Below.refl _ _).alloc (Nat.le_refl _) _
 have hZ1:=World.size_alloc w (.cells q1.vals.toArray 70)
 have hX2:=NBox.new (w.alloc (.cells q1.vals.toArray 70)) q2
 have hB2:=hB1.alloc hB1.size (.cells q2.vals.toArray 70)
 have hX1b:=hX1.below ((Below.refl _ _).alloc (Nat.le_refl _) (.cells q2.vals.toArray 70)) hX1.lt
 have hZ2:=World.size_alloc (w.alloc (.cells q1.vals.toArray 70)) (.cells q2.vals.toArray 70)
 rw [hZ1] at hX2 hZ2
 have HA:=Lib.hid hX1b
 have HBx:=Lib.hid hX2
 have HB:=Lib.hid hB2
 have HZ:=Lib.hid hZ2
 have HQ1:=Lib.hid h1
 have HQ2:=Lib.hid h2
 clear hX1 hB1 hZ1 hX2 hB2 hX1b hZ2 h1 h2
 obtain ⟨g,A,n,c,l,f,b⟩:=q1
 obtain ⟨g',A',n',c',l',f',b'⟩:=q2
 simp only at e1 e2
 subst e1 e2
 simp only [Nv.vals] at HA HBx HB HZ
 show Calls Tryz.prog 33 #[.agg #[.bool g,.slice A n c,.float .f64 f,.bool false],.agg #[.bool g',.slice A' n' c',.float .f64 f',.bool false]] w _
 obtain ⟨a0,a1,a2,a3⟩:=HA.out.cells
 obtain ⟨b0,b1,b2,b3⟩:=HBx.out.cells
 simp only at a0 a1 a2 a3 b0 b1 b2 b3
 have HC:=Lib.hid (fun (y:World) (hy:Below w.heap.size w y)=>Cmp_any g g' (w:=y) ((HQ1.out.up hy).lim.sl (fun b h=>h)) ((HQ2.out.up hy).lim.sl (fun b h=>h)) (Nat.le_refl _) (Nat.le_refl _))
 try simp only [CmpZPost] at HC
 have HM:=Lib.hid (show cmpM (Nv.nm ⟨g,A,n,c,l,f,false⟩) (Nv.nm ⟨g',A',n',c',l',f',false⟩)=cmpZ (ival g l) (ival g' l') from by
  show cmpE (ival g l * U74) (ival g' l' * U74)=_
  rw [cmpE_scale U74_pos];rfl)
 generalize cmpZ (ival g l) (ival g' l')=z at *
 go_enter Tryz.func33,Tryz.ntmps33
 go_upto_region 1 with fail
 generalize (w.alloc (.cells #[.bool g,.slice A n c,.float .f64 f,.bool false] 70)).alloc (.cells #[.bool g',.slice A' n' c',.float .f64 f',.bool false] 70)=w0 at *
 go_wp2_with fail
 (with_reducible refine (HC.out _ HB.out).mono ?_)
 rintro e w1 ⟨rfl,hb1⟩
 go_wp2_with fail
 have key:CmPost w (Nv.nm ⟨g,A,n,c,l,f,false⟩) (Nv.nm ⟨g',A',n',c',l',f',false⟩) (.returned (.int .i64 z)) w1:=⟨congrArg (fun z=>Ending.returned (.int .i64 z)) HM.out.symm,HB.out.trans (hb1.mono HB.out.size)⟩
 go_ret
 exact key
theorem fin_bits {f:Nat} (h:Fin64 f):f<18446744073709551616∧f / 4503599627370496 % 2048≠2047:=by
 obtain ⟨h1,h2⟩:=h
 exact ⟨h2,by omega⟩
theorem rv_bound {r:Nat} (h:r<9218868437227405312):rv r<2 ^ 2098:=by
 unfold rv
 split
 ·exact Nat.lt_of_lt_of_le (by omega:r<2 ^ 52) (Nat.pow_le_pow_right (by decide) (by decide))
 ·have h1:r / 2 ^ 52 - 1≤2045:=by omega
  have h2:2 ^ 52+r % 2 ^ 52<2 ^ 53:=by omega
  have h3:2 ^ (r / 2 ^ 52 - 1)≤2 ^ 2045:=Nat.pow_le_pow_right (by decide) h1
  calc (2 ^ 52+r % 2 ^ 52) * 2 ^ (r / 2 ^ 52 - 1)≤(2 ^ 52+r % 2 ^ 52) * 2 ^ 2045:=Nat.mul_le_mul_left _ h3
   _<2 ^ 53 * 2 ^ 2045:=Nat.mul_lt_mul_of_pos_right h2 (Nat.two_pow_pos _)
   _=2 ^ 2098:=by rw [←Nat.pow_add]
theorem ofZ_short {f:Nat} (h:Fin64 f):tooLong (ofZ f)=false:=by
 rw [ofZ_cut h]
 obtain ⟨s,r,rfl,hr⟩:=fin_word h
 refine tooLong_lt 2098 (by decide) ?_
 rw [(word_fin hr).2,Int.natAbs_tdiv]
 have hb:=rv_bound hr
 refine Nat.lt_of_le_of_lt (Nat.div_le_self _ _) ?_
 cases s <;> simp <;> exact hb
set_option maxRecDepth 100000 in
set_option maxHeartbeats 4000000 in
theorem cmp_fi {q1 q2:Nv} {w:World} (h1:q1.At w (fun b=>b<w.heap.size)) (h2:q2.At w (fun b=>b<w.heap.size)) (e1:q1.b=true) (e2:q2.b=false) :
  Calls Tryz.prog 33 #[q1.v,q2.v] w (CmPost w q1.nm q2.nm):=by
 have hX1:=NBox.new w q1
 have hB1:Below w.heap.size w (w.alloc (.cells q1.vals.toArray 70)):=(Below.refl _ _).alloc (Nat.le_refl _) _
 have hZ1:=World.size_alloc w (.cells q1.vals.toArray 70)
 have hX2:=NBox.new (w.alloc (.cells q1.vals.toArray 70)) q2
 have hB2:=hB1.alloc hB1.size (.cells q2.vals.toArray 70)
 have hX1b:=hX1.below ((Below.refl _ _).alloc (Nat.le_refl _) (.cells q2.vals.toArray 70)) hX1.lt
 have hZ2:=World.size_alloc (w.alloc (.cells q1.vals.toArray 70)) (.cells q2.vals.toArray 70)
 rw [hZ1] at hX2 hZ2
 have HA:=Lib.hid hX1b
 have HBx:=Lib.hid hX2
 have HB:=Lib.hid hB2
 have HZ:=Lib.hid hZ2
 have HQ1:=Lib.hid h1
 have HQ2:=Lib.hid h2
 clear hX1 hB1 hZ1 hX2 hB2 hX1b hZ2 h1 h2
 obtain ⟨g,A,n,c,l,f,b⟩:=q1
 obtain ⟨g',A',n',c',l',f',b'⟩:=q2
 simp only at e1 e2
 subst e1 e2
 simp only [Nv.vals] at HA HBx HB HZ
 show Calls Tryz.prog 33 #[.agg #[.bool g,.slice A n c,.float .f64 f,.bool true],.agg #[.bool g',.slice A' n' c',.float .f64 f',.bool false]] w _
 obtain ⟨a0,a1,a2,a3⟩:=HA.out.cells
 obtain ⟨b0,b1,b2,b3⟩:=HBx.out.cells
 simp only at a0 a1 a2 a3 b0 b1 b2 b3
 obtain ⟨z,hz⟩:∃ z,ofZ f=z:=⟨_,rfl⟩
 have hzs:tooLong z=false:=by rw [←hz];exact ofZ_short HQ1.out.fl.1
 have HO:=Lib.hid (fun (y:World)=>OfFloat_z (F:=f) (z:=z) y (fin_bits HQ1.out.fl.1) hz)
 obtain ⟨R,hR⟩:∃ R,cutF f=R:=⟨_,rfl⟩
 obtain ⟨cf,cv⟩:=cut_fin HQ1.out.fl.1
 have hzc:=ofZ_cut HQ1.out.fl.1
 simp only at cf cv hzc
 rw [hR] at cf cv
 rw [←hzc,hz] at cv
 rw [hz] at hzc
 have HT:=Lib.hid (Trunc_ok HQ1.out.fl.1 hR)
 try simp only at HT
 obtain ⟨r,hr,hr64,hor⟩:=sub_fin HQ1.out.fl.1 cf
 try simp only at hr hor
 have hsub:∀ w1,(binOp .sub 68 (.float .f64 f) (.float .f64 R)).run Tryz.prog w1 = .ok (.float .f64 r) w1:=fun w1=>run_float_arith w1 .sub _ .f64 _ _ _ hr
 have HS:=Lib.hid (sign_f hor)
 have HM:=Lib.hid (show cmpM (.flo f) (.int (ival g' l'))=if cmpZ z (ival g' l')≠0 then cmpZ z (ival g' l') else sgI (compare (fV f) (fV R)) from by
  show cmpE (fV f) (ival g' l' * U74)=_
  rw [sgI_compare,cv,cmpZ_E,cmp_mixed U74_pos hzc.symm])
 have HC:=Lib.hid (fun (y:World) (hy:Below w.heap.size w y) (g1:Bool) (A1:Option Addr) (n1 c1:Nat) (l1:List Nat) (h1:LimP y (fun b=>b<y.heap.size) A1 n1 c1 l1) (h2:ival g1 l1=z)=>(by
  have h3:=Cmp_any g1 g' (w:=y) (h1.sl (fun b h=>h)) ((HQ2.out.up hy).lim.sl (fun b h=>h)) (Nat.le_refl _) (Nat.le_refl _)
  rw [h2] at h3
  exact h3:Calls Tryz.prog 19 #[.agg #[.bool g1,.slice A1 n1 c1],.agg #[.bool g',.slice A' n' c']] y (CmpZPost (cmpZ z (ival g' l')) y)))
 try simp only [CmpZPost] at HC
 generalize compare (fV f) (fV R)=o at *
 generalize cmpZ z (ival g' l')=cz at *
 have hcv:=conv_sg o
 have hb:=run_bits f
 have HZs:=Lib.hid hzs
 clear hr hor cf cv hzc hzs hR hz hr64
 go_enter Tryz.func33,Tryz.ntmps33
 go_upto_region 1 with fail
 generalize (w.alloc (.cells #[.bool g,.slice A n c,.float .f64 f,.bool true] 70)).alloc (.cells #[.bool g',.slice A' n' c',.float .f64 f',.bool false] 70)=w0 at *
 go_wp2_with fail
 (with_reducible refine (HO.out _).mono ?_)
 rintro e w1 ⟨v1,rfl,hr1,hb1⟩
 obtain ⟨g1,A1,n1,c1,l1,rfl,d1,d2,d3⟩:=hr1.num HZs.out
 have HK1:=Lib.hid (KBox.new w1 g1 A1 n1 c1)
 have HBk:=Lib.hid (show Below w1.heap.size w1 (w1.alloc (.cells #[.bool g1,.slice A1 n1 c1] 39)) from (Below.refl _ _).alloc (Nat.le_refl _) _)
 have HB1:=Lib.hid (HB.out.trans (hb1.mono HB.out.size))
 have HB2:=Lib.hid (HB1.out.trans (HBk.out.mono HB1.out.size))
 have HA2:=Lib.hid ((HA.out.below hb1 HA.out.lt).below HBk.out (Nat.lt_of_lt_of_le HA.out.lt hb1.size))
 have HX2:=Lib.hid ((HBx.out.below hb1 HBx.out.lt).below HBk.out (Nat.lt_of_lt_of_le HBx.out.lt hb1.size))
 have HL:=Lib.hid (d1.keep (w':=w1.alloc (.cells #[.bool g1,.slice A1 n1 c1] 39)) (Q:=fun b=>b<(w1.alloc (.cells #[.bool g1,.slice A1 n1 c1] 39)).heap.size) (fun b hb=>⟨Nat.lt_of_lt_of_le hb.2 HBk.out.size,HBk.out.block b hb.2⟩))
 have HI1:=Lib.hid d3
 clear hb1 hr1 d1 d2 d3 a0 a1 a2 a3 b0 b1 b2 b3
 go_upto_region 8 with fail
 generalize w1.alloc (.cells #[.bool g1,.slice A1 n1 c1] 39)=w2 at *
 obtain ⟨k0,k1⟩:=HK1.out.cells
 obtain ⟨a0,a1,a2,a3⟩:=HA2.out.cells
 obtain ⟨b0,b1,b2,b3⟩:=HX2.out.cells
 simp only at a0 a1 a2 a3 b0 b1 b2 b3
 go_upto_region 9 with (go_at_call 19;(with_reducible refine (HC.out _ HB2.out _ _ _ _ _ HL.out HI1.out).mono ?_);rintro e w3 ⟨rfl,hb3⟩;have HB3:=Lib.hid (HB2.out.trans (hb3.mono HB2.out.size));have HA3:=Lib.hid (HA2.out.below hb3 HA2.out.lt);clear hb3)
 clear k0 k1 a0 a1 a2 a3 b0 b1 b2 b3
 obtain ⟨a0,a1,a2,a3⟩:=HA3.out.cells
 simp only at a0 a1 a2 a3
 by_cases hc0:cz=0
 ·subst hc0
  have key:∀ y,Below w3.heap.size w3 y→CmPost w (Nv.nm ⟨g,A,n,c,l,f,true⟩) (Nv.nm ⟨g',A',n',c',l',f',false⟩) (.returned (.int .i64 (sgI o))) y:=fun y hy=>⟨congrArg (fun z=>Ending.returned (.int .i64 z)) (HM.out.trans (if_neg (by simp))).symm,HB3.out.trans (hy.mono HB3.out.size)⟩
  have HK:=Lib.hid key
  clear key
  go_upto_region 11 with fail
  refine wp_region_H (by kernel_rfl) (fun z0 K0 hs0=>?_)
  refine qh 0 K0 ?_
  refine qh 1 K0 ?_ (y:=fun z5 hS=>by obtain ⟨y0,y1,y2,y3⟩:=(HA3.out.below hS HA3.out.lt).cells;simp only at y0 y1 y2 y3;go_simp;rfl)
  refine qh 2 K0 ?_
  refine qh 3 K0 ?_ (y:=fun z5 hS=>by obtain ⟨y0,y1,y2,y3⟩:=(HA3.out.below hS HA3.out.lt).cells;simp only at y0 y1 y2 y3;go_simp;rfl)
  refine oq 4 fun K hK=>?_
  go_simp
  (with_reducible refine (HT.out _).mono ?_)
  rintro e u1 ⟨rfl,rfl⟩
  refine hK.out _ _ K0 ?_
  refine qh 5 K0 ?_
  refine oq 6 fun K hK=>?_
  go_simp
  (with_reducible refine (HS.out _).mono ?_)
  rintro e u1 ⟨rfl,rfl⟩
  refine hK.out _ _ K0 ?_
  refine qh 7 K0 ?_
  refine qh 8 K0 ?_
  refine wpAnyH_end (by kernel_rfl) ?_ _
  have HKe:=Lib.hid (HK.out _ K0)
  go_wp2_with fail
  go_ret
  exact HKe.out
 ·have d0:(cz==0)=false:=beq_eq_false_iff_ne.2 hc0
  have key:CmPost w (Nv.nm ⟨g,A,n,c,l,f,true⟩) (Nv.nm ⟨g',A',n',c',l',f',false⟩) (.returned (.int .i64 cz)) w3:=⟨congrArg (fun z=>Ending.returned (.int .i64 z)) (HM.out.trans (if_pos hc0)).symm,HB3.out⟩
  have HK:=Lib.hid key
  clear key
  go_wp2_with fail
  go_ret
  exact HK.out
set_option maxRecDepth 100000 in
set_option maxHeartbeats 4000000 in
theorem cmp_if {q1 q2:Nv} {w:World} (h1:q1.At w (fun b=>b<w.heap.size)) (h2:q2.At w (fun b=>b<w.heap.size)) (e1:q1.b=false) (e2:q2.b=true) :
  Calls Tryz.prog 33 #[q1.v,q2.v] w (CmPost w q1.nm q2.nm):=by
 have hX1:=NBox.new w q1
 have hB1:Below w.heap.size w (w.alloc (.cells q1.vals.toArray 70)):=(Below.refl _ _).alloc (Nat.le_refl _) _
 have hZ1:=World.size_alloc w (.cells q1.vals.toArray 70)
 have hX2:=NBox.new (w.alloc (.cells q1.vals.toArray 70)) q2
 have hB2:=hB1.alloc hB1.size (.cells q2.vals.toArray 70)
 have hX1b:=hX1.below ((Below.refl _ _).alloc (Nat.le_refl _) (.cells q2.vals.toArray 70)) hX1.lt
 have hZ2:=World.size_alloc (w.alloc (.cells q1.vals.toArray 70)) (.cells q2.vals.toArray 70)
 rw [hZ1] at hX2 hZ2
 have HA:=Lib.hid hX1b
 have HBx:=Lib.hid hX2
 have HB:=Lib.hid hB2
 have HZ:=Lib.hid hZ2
 have HQ1:=Lib.hid h1
 have HQ2:=Lib.hid h2
 clear hX1 hB1 hZ1 hX2 hB2 hX1b hZ2 h1 h2
 obtain ⟨g,A,n,c,l,f,b⟩:=q1
 obtain ⟨g',A',n',c',l',f',b'⟩:=q2
 simp only at e1 e2
 subst e1 e2
 simp only [Nv.vals] at HA HBx HB HZ
 show Calls Tryz.prog 33 #[.agg #[.bool g,.slice A n c,.float .f64 f,.bool false],.agg #[.bool g',.slice A' n' c',.float .f64 f',.bool true]] w _
 obtain ⟨a0,a1,a2,a3⟩:=HA.out.cells
 obtain ⟨b0,b1,b2,b3⟩:=HBx.out.cells
 simp only at a0 a1 a2 a3 b0 b1 b2 b3
 have HC:=Lib.hid (fun (y:World) (hy:Below w.heap.size w y)=>cmp_fi (HQ2.out.up hy) (HQ1.out.up hy) rfl rfl)
 have HM:=Lib.hid (show cmpM (Nv.nm ⟨g,A,n,c,l,f,false⟩) (Nv.nm ⟨g',A',n',c',l',f',true⟩) = -cmpM (Nv.nm ⟨g',A',n',c',l',f',true⟩) (Nv.nm ⟨g,A,n,c,l,f,false⟩) from cmpE_swap _ _)
 have hcb:cmpM (Nv.nm ⟨g',A',n',c',l',f',true⟩) (Nv.nm ⟨g,A,n,c,l,f,false⟩) = -1∨cmpM (Nv.nm ⟨g',A',n',c',l',f',true⟩) (Nv.nm ⟨g,A,n,c,l,f,false⟩)=0∨cmpM (Nv.nm ⟨g',A',n',c',l',f',true⟩) (Nv.nm ⟨g,A,n,c,l,f,false⟩)=1:=cmpE_bound _ _
 have hunf:∀ (x y:Nm) (w0:World) e w1,CmPost w0 x y e w1→e = .returned (.int .i64 (cmpM x y))∧Below w0.heap.size w0 w1:=fun _ _ _ _ _ h=>h
 have HU:=Lib.hid hunf
 clear hunf
 simp only [Nv.v,Nv.vals] at HC
 generalize hz:cmpM (Nv.nm ⟨g',A',n',c',l',f',true⟩) (Nv.nm ⟨g,A,n,c,l,f,false⟩)=z at *
 have key:∀ (y:World),Below w.heap.size w y→CmPost w (Nv.nm ⟨g,A,n,c,l,f,false⟩) (Nv.nm ⟨g',A',n',c',l',f',true⟩) (.returned (.int .i64 (-z))) y:=fun y hy=>⟨congrArg (fun z=>Ending.returned (.int .i64 z)) HM.out.symm,hy⟩
 have HK:=Lib.hid key
 have HzI:=Lib.hid hz
 clear key hz
 rcases hcb with rfl | rfl | rfl
 all_goals
  go_enter Tryz.func33,Tryz.ntmps33
  go_upto_region 1 with fail
  generalize (w.alloc (.cells #[.bool g,.slice A n c,.float .f64 f,.bool false] 70)).alloc (.cells #[.bool g',.slice A' n' c',.float .f64 f',.bool true] 70)=w0 at *
  go_wp2_with fail
  (with_reducible refine (HC.out _ HB.out).mono ?_)
  intro e w1 hcp
  obtain ⟨he,hb1⟩:=HU.out _ _ _ _ _ hcp
  rw [HzI.out] at he
  subst he
  clear hcp
  go_wp2_with fail
  go_ret
  exact HK.out _ (HB.out.trans (hb1.mono HB.out.size))
theorem compare_ok {q1 q2:Nv} {w:World} (h1:q1.At w (fun b=>b<w.heap.size)) (h2:q2.At w (fun b=>b<w.heap.size)):Calls Tryz.prog 33 #[q1.v,q2.v] w (CmPost w q1.nm q2.nm):=by
 cases e1:q1.b <;> cases e2:q2.b
 ·exact cmp_ii h1 h2 e1 e2
 ·exact cmp_if h1 h2 e1 e2
 ·exact cmp_fi h1 h2 e1 e2
 ·exact cmp_ff h1 h2 e1 e2
end
end Go.Proofs.YtjpnmmjgdiiahaaGreatDoor
set_option exponentiation.threshold 5000
namespace Hb
def exF (F:Nat):Nat:=max (F / 4503599627370496 % 2048) 1 - 1
def mF (F:Nat):Nat:=if 0<F / 4503599627370496 % 2048 then F % 4503599627370496+4503599627370496 else F % 4503599627370496
def topF (F:Nat):Nat:=mF F * 2 ^ (exF F - 1074)
def botF (F:Nat):Nat:=2 ^ (1074 - exF F)
theorem mF_lt (F:Nat):mF F<9007199254740992:=by
 unfold mF
 split <;> omega
theorem exF_lt (F:Nat):exF F<2047:=by
 unfold exF
 omega
theorem botF_pos (F:Nat):0<botF F:=Nat.two_pow_pos _
theorem rv_parts {g:Nat} (h:g<9223372036854775808):rv g=mF g * 2 ^ exF g:=by
 unfold rv mF exF
 rw [show (2:Nat) ^ 52=4503599627370496 from rfl]
 by_cases hg:g<4503599627370496
 ·have h0:g / 4503599627370496=0:=Nat.div_eq_of_lt hg
  rw [if_pos hg,h0,if_neg (by decide),show max (0 % 2048) 1 - 1=0 from rfl,Nat.pow_zero,Nat.mul_one,Nat.mod_eq_of_lt hg]
 ·have h1:g / 4503599627370496 % 2048=g / 4503599627370496:=Nat.mod_eq_of_lt (by omega)
  have h2:0<g / 4503599627370496:=by omega
  rw [if_neg hg,h1,if_pos h2,Nat.max_eq_left h2,Nat.add_comm]
theorem mF_high {F:Nat} (h:9223372036854775808≤F) (h2:F<18446744073709551616):mF (F - 9223372036854775808)=mF F∧exF (F - 9223372036854775808)=exF F:=by
 have e1:(F - 9223372036854775808) / 4503599627370496 % 2048=F / 4503599627370496 % 2048:=by omega
 have e2:(F - 9223372036854775808) % 4503599627370496=F % 4503599627370496:=by omega
 unfold mF exF
 rw [e1,e2]
 exact ⟨rfl,rfl⟩
theorem top_bot {g:Nat} (h:g<9223372036854775808):topF g * 2 ^ 1074=rv g * botF g:=by
 rw [rv_parts h]
 unfold topF botF
 obtain ⟨e,he⟩:∃ e,exF g=e:=⟨_,rfl⟩
 have h1:(2:Nat) ^ (e - 1074) * 2 ^ 1074=2 ^ e * 2 ^ (1074 - e):=by
  rw [←Nat.pow_add,←Nat.pow_add]
  exact congrArg (fun k=>2 ^ k) (by omega)
 rw [he,Nat.mul_assoc,h1,Nat.mul_assoc]
theorem top_high {F:Nat} (h:9223372036854775808≤F) (h2:F<18446744073709551616):topF (F - 9223372036854775808)=topF F∧botF (F - 9223372036854775808)=botF F:=by
 obtain ⟨e1,e2⟩:=mF_high h h2
 unfold topF botF
 rw [e1,e2]
 exact ⟨rfl,rfl⟩
def topS (F:Nat):Int:=if F<9223372036854775808 then (topF F:Int) else -(topF F:Int)
theorem topS_val {F:Nat} (h:F<18446744073709551616):topS F * U74=fV F * (botF F:Int):=by
 unfold topS fV U74
 by_cases h1:F<9223372036854775808
 ·rw [if_pos h1,if_pos h1]
  have:=top_bot h1
  rw [←Int.natCast_mul,←Int.natCast_mul,this]
 ·rw [if_neg h1,if_neg h1]
  obtain ⟨e1,e2⟩:=top_high (by omega) h
  have:=top_bot (g:=F - 9223372036854775808) (by omega)
  rw [e1,e2] at this
  rw [Int.neg_mul,Int.neg_mul,←Int.natCast_mul,←Int.natCast_mul,this]
theorem topF_pos {F:Nat} (h:9223372036854775808<F) (h2:F<18446744073709551616):0<topF F:=by
 refine Nat.mul_pos ?_ (Nat.two_pow_pos _)
 unfold mF
 split <;> omega
theorem topS_neg {F:Nat} (h:F<18446744073709551616) (h0:F≠9223372036854775808):decide (topS F<0)=(decide (9223372036854775808≤F) && decide (F≠9223372036854775808)):=by
 unfold topS
 by_cases h1:F<9223372036854775808
 ·rw [if_pos h1,decide_eq_false (by omega),decide_eq_false (show ¬9223372036854775808≤F by omega)];rfl
 ·have:=topF_pos (F:=F) (by omega) h
  rw [if_neg h1,decide_eq_true (by omega),decide_eq_true (show 9223372036854775808≤F by omega),decide_eq_true h0];rfl
theorem topS_abs (F:Nat):(topS F).natAbs=topF F:=by
 unfold topS
 split <;> omega
theorem topF_lt (F:Nat):topF F<2 ^ 1100:=by
 have h1:=mF_lt F
 have h2:exF F - 1074≤1000:=by have:=exF_lt F;omega
 have h3:(2:Nat) ^ (exF F - 1074)≤2 ^ 1000:=Nat.pow_le_pow_right (by decide) h2
 have h4:topF F<9007199254740992 * 2 ^ 1000:=by
  unfold topF
  exact Nat.lt_of_lt_of_le (Nat.mul_lt_mul_of_pos_right h1 (Nat.two_pow_pos _)) (Nat.mul_le_mul_left _ h3)
 exact Nat.lt_of_lt_of_le h4 (by rw [show (9007199254740992:Nat)=2 ^ 53 from rfl,←Nat.pow_add];exact Nat.pow_le_pow_right (by decide) (by decide))
end Hb
namespace Go.Proofs.YtjpnmmjgdiiahaaGreatDoor
section
open Hb Ht
def qA:Nm→Int
 | .int z=>z
 | .flo f=>topS f
def qB:Nm→Nat
 | .int _=>1
 | .flo f=>botF f
theorem qB_pos (x:Nm):0<qB x:=by cases x <;> simp [qB,botF_pos]
theorem q_val {x:Nm} (h:∀ f,x = .flo f→f<18446744073709551616):qA x * U74=nmV x * (qB x:Int):=by
 cases x with
 | int z=>simp [qA,qB,nmV]
 | flo f=>exact topS_val (h f rfl)
theorem cmpZ_E9 (a b:Int):cmpZ a b=cmpE a b:=rfl
theorem q_cmp {x y:Nm} (hx:∀ f,x = .flo f→f<18446744073709551616) (hy:∀ f,y = .flo f→f<18446744073709551616):cmpZ (qA x * (qB y:Int)) (qA y * (qB x:Int))=cmpM x y:=by
 have h1:=q_val hx
 have h2:=q_val hy
 have px:(0:Int)<(qB x:Int):=by have:=qB_pos x;omega
 have py:(0:Int)<(qB y:Int):=by have:=qB_pos y;omega
 rw [cmpZ_E9,←cmpE_scale U74_pos]
 have e1:qA x * (qB y:Int) * U74=nmV x * ((qB x:Int) * (qB y:Int)):=by
  rw [Int.mul_right_comm,h1,Int.mul_assoc]
 have e2:qA y * (qB x:Int) * U74=nmV y * ((qB x:Int) * (qB y:Int)):=by
  rw [Int.mul_right_comm,h2,Int.mul_assoc,Int.mul_comm (qB y:Int)]
 rw [e1,e2,cmpE_scale (Int.mul_pos px py)]
 rfl
end
end Go.Proofs.YtjpnmmjgdiiahaaGreatDoor
set_option exponentiation.threshold 5000
namespace Go.Proofs.YtjpnmmjgdiiahaaGreatDoor
section
open Go.RowKit Hb Ht
attribute [local go_sem ↓] Go.wp_at_zero Go.wp_at_succ
theorem own_noneR {w:World} {B:Nat} {A:Option Addr} {n c:Nat} {xs:List Value} (h:OwnI w B A n c xs):A=none→c=0:=by
 intro e
 rcases Own.form h with ⟨_,_,hc⟩ | ⟨g,h1,_⟩
 ·exact hc
 ·rw [e] at h1;cases h1
set_option maxRecDepth 100000 in
theorem rOne_ok (w:World):Calls Tryz.prog 69 #[] w (PostB w 1):=by
 obtain ⟨z,hz⟩:∃ z:Int,(1:Int)=z:=⟨_,rfl⟩
 have HSm:=Lib.hid (fun (y:World)=>show Calls Tryz.prog 57 #[.int .i64 1] y (PostB y z) from by subst hz;exact Small_any 1 (by decide) y)
 have HB:=Lib.hid (show Below w.heap.size w (w.alloc (.cells #[.bool false,.slice none 0 0] 59)) from (Below.refl _ _).alloc (Nat.le_refl _) _)
 have HX:=Lib.hid (Bb.new w (.bool false) (.slice none 0 0))
 rw [hz]
 clear hz
 go_enter Tryz.func69,Tryz.ntmps69
 go_upto_region 1 with fail
 have hsz:w.heap.size<(w.alloc (.cells #[.bool false,.slice none 0 0] 59)).heap.size:=by simp
 generalize w.alloc (.cells #[.bool false,.slice none 0 0] 59)=W1 at *
 go_wp2_with fail
 (with_reducible refine (HSm.out W1).mono ?_)
 rintro e w2 ⟨v,rfl,⟨A,c,rfl,ho⟩,hb⟩
 obtain ⟨t0,t1,t2,t3⟩:=(HX.out.below hb hsz).facts
 have HO:=Lib.hid ho
 have HB2:=Lib.hid (HB.out.trans (hb.mono HB.out.size))
 clear ho hb
 go_wp2
 have hr:=ResB.stored (w:=w) (g:=w.heap.size) (u:=.bool (decide (z<0))) (u':=.slice A (digs 2 z.natAbs).length c) ⟨A,c,rfl,HO.out⟩ HB2.out hsz (Nat.le_refl _)
 exact bodyPost_ret (v:=.agg #[.bool (decide (z<0)),.slice A (digs 2 z.natAbs).length c]) (by simp [results,Tryz.results69,go_sem,t0,t1]) rfl ⟨_,rfl,hr.1,hr.2⟩
set_option maxRecDepth 100000 in
set_option maxHeartbeats 2000000 in
theorem rBot_ok (F:Nat) (hF:F<18446744073709551616) (w:World):Calls Tryz.prog 71 #[.int .u64 (F:Int)] w (PostB w (botF F:Int)):=by
 obtain ⟨E,hE⟩:∃ E,F / 4503599627370496 % 2048=E:=⟨_,rfl⟩
 have hEI:(F:Int) / 4503599627370496 % 2048=(E:Int):=by omega
 have hE2:E<2048:=by omega
 obtain ⟨m,hm⟩:∃ m,max E 1=m:=⟨_,rfl⟩
 have hmI:max (E:Int) 1=(m:Int):=by omega
 have hm2:1≤m∧m<2048:=by omega
 obtain ⟨k,hk⟩:∃ k,1074 - (m - 1)=k:=⟨_,rfl⟩
 have hkI:max (0:Int) (1074 - ((m:Int) - 1))=(k:Int):=by omega
 have hk2:k≤1074:=by omega
 obtain ⟨z,hz⟩:∃ z:Int,(botF F:Int)=z:=⟨_,rfl⟩
 have hz2:(1:Int) * 2 ^ k=z:=by
  rw [←hz,Int.one_mul]
  unfold botF exF
  rw [hE,hm,hk,Int.natCast_pow]
  rfl
 obtain ⟨y,hy⟩:∃ y:Int,(1:Int)=y:=⟨_,rfl⟩
 rw [hy] at hz2
 have hyl:(digs 2 y.natAbs).length≤33554432:=by rw [←hy];exact Nat.le_trans (digs_length_le (b:=2) (k:=1) (by decide) (by decide)) (by decide)
 have HOn:=Lib.hid (fun (u:World)=>show Calls Tryz.prog 69 #[] u (PostB u y) from by subst hy;exact rOne_ok u)
 have HSh:=Lib.hid (fun (u:World) (B:Nat) (A:Option Addr) (c:Nat) (ho:OwnI u B A (digs 2 y.natAbs).length c (i64s (digs 2 y.natAbs))) (hc:A=none→c=0)=>rShift_up (x:=y) (ho.sl (dig_digs (by decide) _) rfl) (Nat.le_refl _) hc hyl k (by omega) hz2)
 have HB:=Lib.hid (show Below w.heap.size w (w.alloc (.cells #[.bool false,.slice none 0 0] 59)) from (Below.refl _ _).alloc (Nat.le_refl _) _)
 have HX:=Lib.hid (Bb.new w (.bool false) (.slice none 0 0))
 rw [hz]
 obtain ⟨hm1,hm2⟩:=hm2
 have hm1I:(1:Int)≤(m:Int):=by omega
 have hm2I:(m:Int)<2048:=by omega
 have hE2I:(E:Int)<2048:=by omega
 have hk2I:(k:Int)≤1074:=by omega
 have hFI:(F:Int)<18446744073709551616:=by omega
 clear hz hE hm hk hz2 hy hyl hm1 hm2 hE2 hk2 hF
 go_enter Tryz.func71,Tryz.ntmps71
 go_upto_region 1 with fail
 have hsz:w.heap.size<(w.alloc (.cells #[.bool false,.slice none 0 0] 59)).heap.size:=by simp
 generalize w.alloc (.cells #[.bool false,.slice none 0 0] 59)=W1 at *
 go_wp2_with fail
 (with_reducible refine (HOn.out _).mono ?_)
 rintro e w2 ⟨v,rfl,⟨A,c,rfl,ho⟩,hb⟩
 have HB2:=Lib.hid (HB.out.trans (hb.mono HB.out.size))
 have HK:=Lib.hid (HSh.out w2 _ A c ho (own_noneR ho))
 have HX2:=Lib.hid (HX.out.below hb hsz)
 have hsz2:=Nat.lt_of_lt_of_le hsz hb.size
 clear ho hb
 go_wp2_with fail
 (with_reducible refine HK.out.mono ?_)
 rintro e w3 ⟨v,rfl,⟨A3,c3,rfl,ho⟩,hb⟩
 obtain ⟨t0,t1,t2,t3⟩:=(HX2.out.below hb hsz2).facts
 have HO:=Lib.hid ho
 have HB3:=Lib.hid (HB2.out.trans (hb.mono HB2.out.size))
 clear ho hb HK HX2
 go_wp2
 have hr:=ResB.stored (w:=w) (g:=w.heap.size) (u:=.bool (decide (z<0))) (u':=.slice A3 (digs 2 z.natAbs).length c3) ⟨A3,c3,rfl,HO.out⟩ HB3.out hsz2 (Nat.le_refl _)
 exact bodyPost_ret (v:=.agg #[.bool (decide (z<0)),.slice A3 (digs 2 z.natAbs).length c3]) (by simp [results,Tryz.results71,go_sem,t0,t1]) rfl ⟨_,rfl,hr.1,hr.2⟩
def TopRel (W0:World) (M N:Nat) (bv:Value) (wr:World):Prop:=∃ ds,digs 2 M=ds ++ digs 2 N∧OfRel W0 ds bv wr
def TopPost (w:World) (T:Nat) (e:Ending) (w':World):Prop:=∃ A c,e = .returned (.slice A (digs 2 T).length c)∧OwnI w' w.heap.size A (digs 2 T).length c (i64s (digs 2 T))∧Below w.heap.size w w'
set_option maxRecDepth 100000 in
set_option maxHeartbeats 4000000 in
theorem rTop_ok (F:Nat) (hF:F<18446744073709551616) (w:World):Calls Tryz.prog 70 #[.int .u64 (F:Int)] w (TopPost w (topF F)):=by
 obtain ⟨E,hE⟩:∃ E,F / 4503599627370496 % 2048=E:=⟨_,rfl⟩
 obtain ⟨M0,hM0⟩:∃ M,F % 4503599627370496=M:=⟨_,rfl⟩
 have hEI:(F:Int) / 4503599627370496 % 2048=(E:Int):=by omega
 have hMI:(F:Int) % 4503599627370496=(M0:Int):=by omega
 have hE2:(E:Int)<2048:=by omega
 have hM2:(M0:Int)<4503599627370496:=by omega
 have hFI:(F:Int)<18446744073709551616:=by omega
 obtain ⟨T,hT⟩:∃ T,topF F=T:=⟨_,rfl⟩
 have HT:=Lib.hid (show T=(if 0<E then M0+4503599627370496 else M0) * 2 ^ (max E 1 - 1 - 1074) from by rw [←hT];unfold topF mF exF;rw [hE,hM0])
 rw [hT]
 clear hT hE hM0 hF
 go_enter Tryz.func70,Tryz.ntmps70
 obtain ⟨M,e,hMe⟩:∃ M e:Nat,(if 0<E then M0+4503599627370496 else M0)=M∧max E 1 - 1=e:=⟨_,_,rfl,rfl⟩
 have HM:=Lib.hid hMe
 obtain ⟨k,hk⟩:∃ k:Nat,e - 1074=k:=⟨_,rfl⟩
 have HK:=Lib.hid hk
 clear hMe hk
 rcases Nat.eq_zero_or_pos E with h0 | h0
 ·have hE0:¬(0:Int)<(E:Int):=by omega
  have e1:M0=M:=by have:=HM.out.1;rw [if_neg (by omega)] at this;exact this
  have e2:(E:Int)=(e:Int):=by have:=HM.out.2;omega
  rw [e1] at hMI hM2
  rw [e2] at hEI hE0 hE2
  have hM3:(M:Int)<9007199254740992:=by omega
  have he3:(e:Int)<2048:=by omega
  have d0:decide (0<e)=false:=decide_eq_false (by omega)
  clear e1 h0 e2 hE0
  go_upto_region 3 with fail
  rw [hMI]
  clear hMI hEI hFI
  generalize (F:Int) / 4503599627370496=fq at *
  generalize (F:Int)=fI at *
  go_wp2_with fail
  go_loopw [4,5] (fun mv bv wr=>∃ N:Nat,mv = .int .u64 (N:Int)∧(N:Int)≤9007199254740992∧Hid (TopRel w M N bv wr)) (fun mv _ _=>(intOf mv).toNat)
  case atStart=>exact ⟨M,rfl,by omega,Lib.hid ⟨[],rfl,OfRel.start w⟩⟩
  case round=>
   obtain ⟨N,rfl,hN,HI⟩:=hrel
   obtain ⟨ds,hds,A1,n1,c1,rfl,ho1,hl1,hb1⟩:=HI.out
   have HDs:=Lib.hid hds
   have HO:=Lib.hid ho1
   have HL:=Lib.hid hl1
   have HB1:=Lib.hid hb1
   have hz1:=hb1.size
   have hn1:n1≤100:=by
    have h8:M<2 ^ 60:=Nat.lt_of_lt_of_le (show M<9007199254740992 by omega) (by decide)
    have h9:(digs 2 M).length≤60:=digs_length_le (by decide) h8
    rw [hds,List.length_append] at h9
    omega
   clear hds ho1 hl1 hb1 HI
   by_cases h0:N=0
   ·subst h0
    have HSh:=Lib.hid (show Calls Tryz.prog 146 #[.agg #[.bool false,.slice A1 n1 c1],.int .i64 (k:Int)] wr (PostB wr (T:Int)) from by
     have e9:ds=digs 2 M:=by have:=HDs.out;rw [digs_zero,List.append_nil] at this;exact this.symm
     have h9:=rShift_up (x:=(M:Int)) (B:=wr.heap.size) (A:=A1) (c:=c1) (w:=wr) (z:=(T:Int)) (by
      rw [Int.natAbs_natCast]
      have:=HO.out
      rw [e9] at this
      have hl:=HL.out
      rw [e9] at hl
      rw [←hl] at this
      exact this.sl (dig_digs (by decide) _) rfl) (Nat.le_refl _) (own_noneR HO.out) (by rw [Int.natAbs_natCast,←e9,HL.out];omega) k (by have:=HK.out;omega) (by
       rw [HT.out,HM.out.1,HM.out.2,HK.out,Int.natCast_mul,Int.natCast_pow]
       rfl)
     rw [Int.natAbs_natCast,←e9,HL.out,show decide ((M:Int)<0)=false from decide_eq_false (by omega)] at h9
     exact h9)
    have hkI:max (0:Int) ((e:Int) - 1074)=(k:Int):=by have:=HK.out;omega
    have hfd:∀ (s:Bool) (A:Option Addr) (n c:Nat) (w:World),(Instr.field 59 (.agg #[.bool s,.slice A n c]) 1).run Tryz.prog w = .ok (.slice A n c) w:=fun _ _ _ _ _=>by kernel_rfl
    go_wp2_with fail
    (with_reducible refine HSh.out.mono ?_)
    rintro ex w5 ⟨v5,rfl,⟨A5,c5,rfl,ho5⟩,hb5⟩
    rw [Int.natAbs_natCast] at ho5 ⊢
    rw [show decide ((T:Int)<0)=false from decide_eq_false (by omega)]
    have HO5:=Lib.hid (Own.mono ho5 hz1)
    have HB5:=Lib.hid (HB1.out.trans (hb5.mono hz1))
    clear ho5 hb5 HSh
    go_wp2_with fail
    go_ret
    exact ⟨A5,c5,rfl,HO5.out,HB5.out⟩
   ·have hN0:(0:Int)<(N:Int):=by omega
    have hNd:decide (0<N)=true:=decide_eq_true (by omega)
    obtain ⟨y,hy⟩:∃ y,N % 2=y:=⟨_,rfl⟩
    obtain ⟨h,hh⟩:∃ h,N / 2=h:=⟨_,rfl⟩
    have hyI:(N:Int) % 2=(y:Int):=by omega
    have hhI:(N:Int) / 2=(h:Int):=by omega
    have hy2:(y:Int)<2:=by omega
    have hh2:h<N:=by omega
    have HD2:=Lib.hid (show digs 2 M=(ds ++ [y]) ++ digs 2 h from by rw [HDs.out,digs_pos (by decide) h0,hy,hh];simp)
    have hwh:IntKind.u64.wrap (h:Int)=(h:Int):=IntWalk.u64_in _ (by omega)
    have HLT:=Lib.hid hh2
    have HNb:=Lib.hid hN
    have HM3:=Lib.hid hM3
    clear hy hh h0 hh2 hN hM3 hM2
    go_wp2_with (at_builtin;refine wpList_append_i64 (by rfl) _ _ (by rfl) w.heap.size A1 n1 c1 ds (by rfl) (Own.alloc HO.out _) wr.heap.size y (by rfl) (by simp [go_sem]) (Nat.le_trans hn1 (by decide)) (by simp;omega) ?_;intro A3 c3 w3 ho3 hb3)
    have HR3:=Lib.hid (show TopRel w M h (.slice A3 (n1+1) c3) w3 from ⟨ds ++ [y],HD2.out,A3,n1+1,c3,rfl,ho3,by rw [List.length_append,HL.out];rfl,(HB1.out.alloc (by omega) _).trans hb3⟩)
    clear ho3 hb3
    go_wp2_with fail
    go_roundw
    case rel=>exact ⟨h,rfl,by have:=HLT.out;have:=HNb.out;omega,HR3.out⟩
    case measure=>have:=HLT.out;simp [intOf];omega
 ·have hE0:(0:Int)<(E:Int):=by omega
  have e1:(M0:Int)+4503599627370496=(M:Int):=by have:=HM.out.1;rw [if_pos h0] at this;omega
  have e2:(E:Int) - 1=(e:Int):=by have:=HM.out.2;omega
  have hM3:(M:Int)<9007199254740992:=by omega
  have he3:(e:Int)<2048:=by omega
  have d0:decide (0<E)=true:=decide_eq_true (by omega)
  clear h0 hE0
  go_upto_region 3 with fail
  rw [hMI]
  clear hMI hEI hFI
  generalize (F:Int) / 4503599627370496=fq at *
  generalize (F:Int)=fI at *
  go_wp2_with fail
  go_loopw [4,5] (fun mv bv wr=>∃ N:Nat,mv = .int .u64 (N:Int)∧(N:Int)≤9007199254740992∧Hid (TopRel w M N bv wr)) (fun mv _ _=>(intOf mv).toNat)
  case atStart=>exact ⟨M,rfl,by omega,Lib.hid ⟨[],rfl,OfRel.start w⟩⟩
  case round=>
   obtain ⟨N,rfl,hN,HI⟩:=hrel
   obtain ⟨ds,hds,A1,n1,c1,rfl,ho1,hl1,hb1⟩:=HI.out
   have HDs:=Lib.hid hds
   have HO:=Lib.hid ho1
   have HL:=Lib.hid hl1
   have HB1:=Lib.hid hb1
   have hz1:=hb1.size
   have hn1:n1≤100:=by
    have h8:M<2 ^ 60:=Nat.lt_of_lt_of_le (show M<9007199254740992 by omega) (by decide)
    have h9:(digs 2 M).length≤60:=digs_length_le (by decide) h8
    rw [hds,List.length_append] at h9
    omega
   clear hds ho1 hl1 hb1 HI
   by_cases h0:N=0
   ·subst h0
    have HSh:=Lib.hid (show Calls Tryz.prog 146 #[.agg #[.bool false,.slice A1 n1 c1],.int .i64 (k:Int)] wr (PostB wr (T:Int)) from by
     have e9:ds=digs 2 M:=by have:=HDs.out;rw [digs_zero,List.append_nil] at this;exact this.symm
     have h9:=rShift_up (x:=(M:Int)) (B:=wr.heap.size) (A:=A1) (c:=c1) (w:=wr) (z:=(T:Int)) (by
      rw [Int.natAbs_natCast]
      have:=HO.out
      rw [e9] at this
      have hl:=HL.out
      rw [e9] at hl
      rw [←hl] at this
      exact this.sl (dig_digs (by decide) _) rfl) (Nat.le_refl _) (own_noneR HO.out) (by rw [Int.natAbs_natCast,←e9,HL.out];omega) k (by have:=HK.out;omega) (by
       rw [HT.out,HM.out.1,HM.out.2,HK.out,Int.natCast_mul,Int.natCast_pow]
       rfl)
     rw [Int.natAbs_natCast,←e9,HL.out,show decide ((M:Int)<0)=false from decide_eq_false (by omega)] at h9
     exact h9)
    have hkI:max (0:Int) ((e:Int) - 1074)=(k:Int):=by have:=HK.out;omega
    have hfd:∀ (s:Bool) (A:Option Addr) (n c:Nat) (w:World),(Instr.field 59 (.agg #[.bool s,.slice A n c]) 1).run Tryz.prog w = .ok (.slice A n c) w:=fun _ _ _ _ _=>by kernel_rfl
    go_wp2_with fail
    (with_reducible refine HSh.out.mono ?_)
    rintro ex w5 ⟨v5,rfl,⟨A5,c5,rfl,ho5⟩,hb5⟩
    rw [Int.natAbs_natCast] at ho5 ⊢
    rw [show decide ((T:Int)<0)=false from decide_eq_false (by omega)]
    have HO5:=Lib.hid (Own.mono ho5 hz1)
    have HB5:=Lib.hid (HB1.out.trans (hb5.mono hz1))
    clear ho5 hb5 HSh
    go_wp2_with fail
    go_ret
    exact ⟨A5,c5,rfl,HO5.out,HB5.out⟩
   ·have hN0:(0:Int)<(N:Int):=by omega
    have hNd:decide (0<N)=true:=decide_eq_true (by omega)
    obtain ⟨y,hy⟩:∃ y,N % 2=y:=⟨_,rfl⟩
    obtain ⟨h,hh⟩:∃ h,N / 2=h:=⟨_,rfl⟩
    have hyI:(N:Int) % 2=(y:Int):=by omega
    have hhI:(N:Int) / 2=(h:Int):=by omega
    have hy2:(y:Int)<2:=by omega
    have hh2:h<N:=by omega
    have HD2:=Lib.hid (show digs 2 M=(ds ++ [y]) ++ digs 2 h from by rw [HDs.out,digs_pos (by decide) h0,hy,hh];simp)
    have hwh:IntKind.u64.wrap (h:Int)=(h:Int):=IntWalk.u64_in _ (by omega)
    have HLT:=Lib.hid hh2
    have HNb:=Lib.hid hN
    have HM3:=Lib.hid hM3
    clear hy hh h0 hh2 hN hM3 hM2
    go_wp2_with (at_builtin;refine wpList_append_i64 (by rfl) _ _ (by rfl) w.heap.size A1 n1 c1 ds (by rfl) (Own.alloc HO.out _) wr.heap.size y (by rfl) (by simp [go_sem]) (Nat.le_trans hn1 (by decide)) (by simp;omega) ?_;intro A3 c3 w3 ho3 hb3)
    have HR3:=Lib.hid (show TopRel w M h (.slice A3 (n1+1) c3) w3 from ⟨ds ++ [y],HD2.out,A3,n1+1,c3,rfl,ho3,by rw [List.length_append,HL.out];rfl,(HB1.out.alloc (by omega) _).trans hb3⟩)
    clear ho3 hb3
    go_wp2_with fail
    go_roundw
    case rel=>exact ⟨h,rfl,by have:=HLT.out;have:=HNb.out;omega,HR3.out⟩
    case measure=>have:=HLT.out;simp [intOf];omega
end
end Go.Proofs.YtjpnmmjgdiiahaaGreatDoor
set_option exponentiation.threshold 5000
namespace Go.Proofs.YtjpnmmjgdiiahaaGreatDoor
section
open Go.RowKit Hb Ht
attribute [local go_sem ↓] Go.wp_at_zero Go.wp_at_succ
attribute [local go_sem] run_store_float
def isFl:Nm→Bool
 | .int _=>false
 | .flo _=>true
def qV (f sA:Bool) (A:Option Addr) (n c:Nat) (sB:Bool) (A':Option Addr) (n' c':Nat):Value:=.agg #[.bool f,.bool sA,.slice A n c,.bool sB,.slice A' n' c']
def QAt (w:World) (B:Nat) (x:Nm) (v:Value):Prop:=∃ A c A' c',v=qV (isFl x) (decide (qA x<0)) A (digs 2 (qA x).natAbs).length c (decide ((qB x:Int)<0)) A' (digs 2 (qB x:Int).natAbs).length c' ∧
 OwnI w B A (digs 2 (qA x).natAbs).length c (i64s (digs 2 (qA x).natAbs))∧OwnI w B A' (digs 2 (qB x:Int).natAbs).length c' (i64s (digs 2 (qB x:Int).natAbs))
theorem QAt.below {w w':World} {B:Nat} {x:Nm} {v:Value} (h:QAt w B x v) {C:Nat} (hb:Below C w w') (hC:w.heap.size≤C):QAt w' B x v:=by
 obtain ⟨A,c,A',c',hv,h1,h2⟩:=h
 exact ⟨A,c,A',c',hv,h1.below hb hC,h2.below hb hC⟩
theorem QAt.mono {w:World} {B B':Nat} {x:Nm} {v:Value} (h:QAt w B x v) (hB:B'≤B):QAt w B' x v:=by
 obtain ⟨A,c,A',c',hv,h1,h2⟩:=h
 exact ⟨A,c,A',c',hv,h1.mono hB,h2.mono hB⟩
theorem QAt.far {w:World} {B:Nat} {x:Nm} {v:Value} (h:QAt w B x v) {p:Addr} (hp:p.block<B) (u:Value):QAt (w.setCell p u) B x v:=by
 obtain ⟨A,c,A',c',hv,h1,h2⟩:=h
 exact ⟨A,c,A',c',hv,Own.farB h1 hp u,Own.farB h2 hp u⟩
def QBox (w:World) (g:Nat) (a b c d e:Value):Prop:=w.heap[g]?=some (.cells #[a,b,c,d,e] 61 (0,0))
section
variable {w w':World} {g:Nat} {a b c d e:Value}
theorem QBox.new (w:World) (a b c d e:Value):QBox (w.alloc (.cells #[a,b,c,d,e] 61)) w.heap.size a b c d e:=heap_alloc_new w _
theorem QBox.lt (h:QBox w g a b c d e):g<w.heap.size:=(Array.getElem?_eq_some_iff.1 h).1
theorem QBox.below (h:QBox w g a b c d e) {C:Nat} (hb:Below C w w') (hg:g<C):QBox w' g a b c d e:=(hb.block g hg).trans h
theorem QBox.cells (h:QBox w g a b c d e):w.cell? ⟨g,0,none⟩=some a∧w.cell? ⟨g,1,none⟩=some b∧w.cell? ⟨g,2,none⟩=some c∧w.cell? ⟨g,3,none⟩=some d∧w.cell? ⟨g,4,none⟩=some e:=by
 refine ⟨?_,?_,?_,?_,?_⟩ <;> (rw [cell_of_row w g _ _ _ (0,0) h];rfl)
theorem QBox.frozens (h:QBox w g a b c d e):w.frozen? ⟨g,0,none⟩=false∧w.frozen? ⟨g,1,none⟩=false∧w.frozen? ⟨g,2,none⟩=false∧w.frozen? ⟨g,3,none⟩=false∧w.frozen? ⟨g,4,none⟩=false:=by
 unfold QBox at h
 refine ⟨?_,?_,?_,?_,?_⟩ <;> simp [World.frozen?,h]
theorem QBox.set5 (h:QBox w g a b c d e) (a' b' c' d' e':Value):QBox (((((w.setCell ⟨g,0,none⟩ a').setCell ⟨g,1,none⟩ b').setCell ⟨g,2,none⟩ c').setCell ⟨g,3,none⟩ d').setCell ⟨g,4,none⟩ e') g a' b' c' d' e' ∧
  w.grownBy (((((w.setCell ⟨g,0,none⟩ a').setCell ⟨g,1,none⟩ b').setCell ⟨g,2,none⟩ c').setCell ⟨g,3,none⟩ d').setCell ⟨g,4,none⟩ e') (some g):=by
 constructor
 ·unfold QBox at h ⊢
  simp [World.setCell,Array.getElem?_modify,h]
 ·exact gb_setCell (gb_setCell (gb_setCell (gb_setCell (gb_setCell (gb_refl w (some g)) 0 _) 1 _) 2 _) 3 _) 4 _
theorem QAt.set5 {B:Nat} {x:Nm} {v:Value} (h:QAt w B x v) (hg:g<B) (a' b' c' d' e':Value):QAt (((((w.setCell ⟨g,0,none⟩ a').setCell ⟨g,1,none⟩ b').setCell ⟨g,2,none⟩ c').setCell ⟨g,3,none⟩ d').setCell ⟨g,4,none⟩ e') B x v:=
 ((((h.far (p:=⟨g,0,none⟩) hg a').far (p:=⟨g,1,none⟩) hg b').far (p:=⟨g,2,none⟩) hg c').far (p:=⟨g,3,none⟩) hg d').far (p:=⟨g,4,none⟩) hg e'
end
def zeroQ:Value:=.agg #[.bool false,.bool false,.slice none 0 0,.bool false,.slice none 0 0]
def RrPost (w:World) (t:Tm) (e:Ending) (w':World):Prop:=Below w.heap.size w w'∧((∃ x v,nmOf t=some x∧e = .returned (.tuple #[v,.bool true])∧QAt w' w.heap.size x v)∨(nmOf t=none∧e = .returned (.tuple #[zeroQ,.bool false])))
set_option maxRecDepth 100000 in
set_option maxHeartbeats 4000000 in
theorem rRead_ok {t:Tm} {sl:Value} {w:World} (h:TAt w w.heap.size t sl) (ho:RdOk t):Calls Tryz.prog 35 #[valT t sl] w (RrPost w t):=by
 obtain ⟨k,nl,ml,b,v,ts,nb,mb,A,c,rfl,rfl,hnb,hmb,hl1,hl2,hl3,hv,hs1,hs2⟩:=h.letters
 have hok:=h.ok
 have hob:0≤b∧b<18446744073709551616:=hok.2.2.1
 rw [hv]
 have hX1:TBox (w.alloc (.cells #[.int .i64 k,.string nb,.string mb,.int .u64 b,.int .i64 v,.slice A ts.length c] 25)) w.heap.size (.mk k nl ml b v ts) (.slice A ts.length c):=TBox.new w hnb hmb
 have hB1:Below w.heap.size w (w.alloc (.cells #[.int .i64 k,.string nb,.string mb,.int .u64 b,.int .i64 v,.slice A ts.length c] 25)):=(Below.refl _ _).alloc (Nat.le_refl _) _
 have hZ1:=World.size_alloc w (.cells #[.int .i64 k,.string nb,.string mb,.int .u64 b,.int .i64 v,.slice A ts.length c] 25)
 have hX0:=QBox.new (w.alloc (.cells #[.int .i64 k,.string nb,.string mb,.int .u64 b,.int .i64 v,.slice A ts.length c] 25)) (.bool false) (.bool false) (.slice none 0 0) (.bool false) (.slice none 0 0)
 have hB2:=hB1.alloc hB1.size (.cells #[.bool false,.bool false,.slice none 0 0,.bool false,.slice none 0 0] 61)
 have hZ2:=World.size_alloc (w.alloc (.cells #[.int .i64 k,.string nb,.string mb,.int .u64 b,.int .i64 v,.slice A ts.length c] 25)) (.cells #[.bool false,.bool false,.slice none 0 0,.bool false,.slice none 0 0] 61)
 have hX1c:=hX1.below ((Below.refl _ _).alloc (Nat.le_refl _) (.cells #[.bool false,.bool false,.slice none 0 0,.bool false,.slice none 0 0] 61))
 rw [hZ1] at hX0 hZ2
 obtain ⟨x0,x1,x2,x3,x4,x5⟩:=hX1c.cells hnb hmb
 have HX:=Lib.hid hX0
 have HB:=Lib.hid hB2
 have HZ:=Lib.hid hZ2
 have HO:=Lib.hid (show (k=3→pCode ml 10=0)∧(k=4→floB b=true) from ho)
 have HM:=Lib.hid (show mb.data.toList=ml from by rw [←hmb])
 have HS2:=Lib.hid hs2
 obtain ⟨q,hq⟩:∃ q,ts.length=q:=⟨_,rfl⟩
 rw [hq] at HX HB HZ x0 x1 x2 x3 x4 x5 hX1c ⊢
 have HT:=Lib.hid hX1c
 clear hX1 hB1 hZ1 hX0 hB2 hZ2 hX1c h hok ho hv hl1 hl2 hl3 hs1 hs2 hq
 have HNb:=Lib.hid hnb
 have HMb:=Lib.hid hmb
 clear hnb hmb
 by_cases h3:k=3
 ·subst h3
  have HN:=Lib.hid (show nmOf (.mk 3 nl ml b v ts)=some (.int (pVal ml 10)) from rfl)
  have hcode:=HO.out.1 rfl
  have HP:=Lib.hid (fun (y:World)=>show Calls Tryz.prog 68 #[.string mb,.int .i64 10] y (RpPost y (pVal ml 10) 0) from by
   have:=rParse_anyL mb 10 y (Nat.le_trans HS2.out (by decide))
   rwa [HM.out,hcode] at this)
  clear HO hcode
  generalize pVal ml 10=z at *
  obtain ⟨y,hy⟩:∃ y:Int,(1:Int)=y:=⟨_,rfl⟩
  have HOn:=Lib.hid (fun (u:World)=>show Calls Tryz.prog 69 #[] u (PostB u y) from by subst hy;exact rOne_ok u)
  have HY:=Lib.hid hy
  clear hy
  go_enter Tryz.func35,Tryz.ntmps35
  go_upto_region 1 with fail
  generalize (w.alloc (.cells #[.int .i64 3,.string nb,.string mb,.int .u64 b,.int .i64 v,.slice A q c] 25)).alloc (.cells #[.bool false,.bool false,.slice none 0 0,.bool false,.slice none 0 0] 61)=w0 at *
  go_upto_region 2 with fail
  go_wp2_with fail
  (with_reducible refine (HP.out _).mono ?_)
  rintro e w1 ⟨v1,rfl,hv1,_,hb1⟩
  obtain ⟨A1,c1,rfl,ho1⟩:=hv1 rfl
  obtain ⟨n1,hn1⟩:∃ n,(digs 2 z.natAbs).length=n:=⟨_,rfl⟩
  obtain ⟨s1,hs1⟩:∃ s,decide (z<0)=s:=⟨_,rfl⟩
  rw [hn1] at ho1
  rw [hn1,hs1]
  have HNS:=Lib.hid (And.intro hn1 hs1)
  clear hn1 hs1
  have HBb:=Lib.hid (Bb.new w1 (.bool s1) (.slice A1 n1 c1))
  have HBk:=Lib.hid (show Below w1.heap.size w1 (w1.alloc (.cells #[.bool s1,.slice A1 n1 c1] 59)) from (Below.refl _ _).alloc (Nat.le_refl _) _)
  have HX2:=Lib.hid ((HX.out.below hb1 HX.out.lt).below HBk.out (Nat.lt_of_lt_of_le HX.out.lt hb1.size))
  have HOw:=Lib.hid (ho1.below HBk.out (Nat.le_refl _))
  have HB1:=Lib.hid hb1
  clear hb1 hv1 x0 x1 x2 x3 x4 x5 ho1
  go_upto_region 3 with fail
  generalize w1.alloc (.cells #[.bool s1,.slice A1 n1 c1] 59)=w2 at *
  refine wp_region_U 3 (by kernel_rfl) (fun z0 K0 hs0=>?_)
  refine qz 0 K0 ?_ (y:=fun z5 hS=>by obtain ⟨r0,r1,r2,r3⟩:=(HBb.out.below hS (Bb.lt HBb.out)).facts;go_simp;rfl)
  refine uW 1 fun K hK=>?_
  go_simp
  (with_reducible refine (HOn.out z0).mono ?_)
  rintro e z1 ⟨v2,rfl,⟨A2,c2,rfl,ho2⟩,hb2⟩
  have K1:=K0.trans (hb2.mono K0.size)
  obtain ⟨n2,hn2⟩:∃ n,(digs 2 y.natAbs).length=n:=⟨_,rfl⟩
  obtain ⟨s2,hs2⟩:∃ s,decide (y<0)=s:=⟨_,rfl⟩
  rw [hn2] at ho2
  rw [hn2,hs2]
  refine hK.out _ _ (fun _=>K1) ?_
  refine uW 2 fun K hK=>?_
  go_simp
  refine hK.out _ _ (fun _=>K1) ?_
  have hX2:=HX2.out.below K1 HX2.out.lt
  obtain ⟨x0,x1,x2,x3,x4⟩:=hX2.cells
  obtain ⟨y0,y1,y2,y3,y4⟩:=hX2.frozens
  have hS:=hX2.set5 (.bool false) (.bool s1) (.slice A1 n1 c1) (.bool s2) (.slice A2 n2 c2)
  have HQ:=Lib.hid (show QAt (((((z1.setCell ⟨w.heap.size+1,0,none⟩ (.bool false)).setCell ⟨w.heap.size+1,1,none⟩ (.bool s1)).setCell ⟨w.heap.size+1,2,none⟩ (.slice A1 n1 c1)).setCell ⟨w.heap.size+1,3,none⟩ (.bool s2)).setCell ⟨w.heap.size+1,4,none⟩ (.slice A2 n2 c2)) w.heap.size (.int z) (.agg #[.bool false,.bool s1,.slice A1 n1 c1,.bool s2,.slice A2 n2 c2]) from by
   obtain ⟨e1,e2⟩:=HNS.out
   have hz:=HZ.out
   have g1:=HB1.out.size
   have g2:=HBk.out.size
   have g3:=K0.size
   have h9:QAt z1 (w.heap.size+1+1) (.int z) (.agg #[.bool false,.bool s1,.slice A1 n1 c1,.bool s2,.slice A2 n2 c2]):=by
    refine ⟨A1,c1,A2,c2,?_,?_,?_⟩
    ·show _=qV false (decide (z<0)) A1 (digs 2 z.natAbs).length c1 (decide ((1:Int)<0)) A2 (digs 2 (1:Int).natAbs).length c2
     rw [HY.out,hn2,hs2,e1,e2]
     rfl
    ·show OwnI z1 (w.heap.size+1+1) A1 (digs 2 z.natAbs).length c1 (i64s (digs 2 z.natAbs))
     rw [e1]
     exact (HOw.out.below K1 (Nat.le_refl _)).mono (by omega)
    ·show OwnI z1 (w.heap.size+1+1) A2 (digs 2 (1:Int).natAbs).length c2 (i64s (digs 2 (1:Int).natAbs))
     rw [HY.out,hn2]
     exact ho2.mono (by omega)
   exact (h9.set5 (by omega) _ _ _ _ _).mono (by omega))
  have HBo:=Lib.hid (((HB.out.trans (HB1.out.mono HB.out.size)).trans (HBk.out.mono (Nat.le_trans HB.out.size HB1.out.size))).trans (K1.mono (Nat.le_trans (Nat.le_trans HB.out.size HB1.out.size) HBk.out.size)))
  have HBg:=Lib.hid (HBo.out.grown hS.2 HBo.out.size (fun j e=>by injection e with e;omega))
  have HS1:=Lib.hid hS.1
  clear hS hX2 K0 hb2 hs0 ho2 hn2 hs2
  refine uW 3 fun K hK=>?_
  go_simp
  generalize ((((z1.setCell ⟨w.heap.size+1,0,none⟩ (.bool false)).setCell ⟨w.heap.size+1,1,none⟩ (.bool s1)).setCell ⟨w.heap.size+1,2,none⟩ (.slice A1 n1 c1)).setCell ⟨w.heap.size+1,3,none⟩ (.bool s2)).setCell ⟨w.heap.size+1,4,none⟩ (.slice A2 n2 c2)=u1 at *
  refine hK.out _ _ (fun h=>absurd h (by simp)) ?_
  clear K1 HBo x0 x1 x2 x3 x4 y0 y1 y2 y3 y4
  refine uW 4 fun K hK=>?_
  go_simp
  refine hK.out _ _ (fun h=>absurd h (by simp)) ?_
  refine wpAnyW_done (by kernel_rfl) ?_ _
  obtain ⟨r0,r1,r2,r3,r4⟩:=HS1.out.cells
  go_wp2_with fail
  refine bodyPost_ret (v:=.tuple #[.agg #[.bool false,.bool s1,.slice A1 n1 c1,.bool s2,.slice A2 n2 c2],.bool true]) (by simp [results,Tryz.results35,go_sem,r0,r1,r2,r3,r4]) rfl ?_
  exact ⟨HBg.out,.inl ⟨.int z,_,HN.out,rfl,HQ.out⟩⟩
 ·have d3:(k==3)=false:=beq_eq_false_iff_ne.2 h3
  by_cases h4:k=4
  ·subst h4
   obtain ⟨F,hF⟩:∃ F:Nat,b=(F:Int):=⟨b.toNat,by omega⟩
   subst hF
   have HN:=Lib.hid (show nmOf (.mk 4 nl ml (F:Int) v ts)=some (.flo F) from by
    show some (Nm.flo (F:Int).toNat)=_
    rw [Int.toNat_natCast])
   have hG:Flo64 F:=by have:=floB_flo (HO.out.2 rfl) hob.1 hob.2;rwa [Int.toNat_natCast] at this
   have hF64:F<18446744073709551616:=by omega
   have hF0:F≠9223372036854775808:=hG.2
   obtain ⟨T,hT⟩:∃ T,topF F=T:=⟨_,rfl⟩
   obtain ⟨Bz,hBz⟩:∃ Bz:Int,(botF F:Int)=Bz:=⟨_,rfl⟩
   have HTp:=Lib.hid (fun (u:World)=>show Calls Tryz.prog 70 #[.int .u64 (F:Int)] u (TopPost u T) from by rw [←hT];exact rTop_ok F hF64 u)
   have HBt:=Lib.hid (fun (u:World)=>show Calls Tryz.prog 71 #[.int .u64 (F:Int)] u (PostB u Bz) from by rw [←hBz];exact rBot_ok F hF64 u)
   have HSg:=Lib.hid (topS_neg hF64 hF0)
   have HTB:=Lib.hid (And.intro hT hBz)
   have HG:=Lib.hid (And.intro hF64 hF0)
   clear hT hBz HO hG hF64 hF0 hob h3 d3
   go_enter Tryz.func35,Tryz.ntmps35
   go_upto_region 1 with fail
   generalize (w.alloc (.cells #[.int .i64 4,.string nb,.string mb,.int .u64 (F:Int),.int .i64 v,.slice A q c] 25)).alloc (.cells #[.bool false,.bool false,.slice none 0 0,.bool false,.slice none 0 0] 61)=w0 at *
   go_upto_region 6 with fail
   clear x0 x1 x2 x3 x4 x5
   by_cases hge:9223372036854775808≤F
   ·have hge1:decide ((9223372036854775808:Int)≤(F:Int))=true:=decide_eq_true (by omega)
    have hne1:((F:Int) != 9223372036854775808)=true:=by have:=HG.out.2;simpa using (show (F:Int)≠9223372036854775808 by omega)
    have HE:=Lib.hid (show topF F=T∧(botF F:Int)=Bz∧decide (topS F<0)=true from ⟨HTB.out.1,HTB.out.2,by rw [HSg.out,decide_eq_true hge,decide_eq_true HG.out.2];rfl⟩)
    clear hge HSg HTB HG
    refine wp_region_U 16 (by kernel_rfl) (fun z0 K0 hs0=>?_)
    refine qz 0 K0 ?_
    refine qz 1 K0 ?_ (y:=fun z5 hS=>by obtain ⟨r0,r1,r2,r3,r4,r5⟩:=(HT.out.below hS).cells HNb.out HMb.out;go_simp;rfl)
    refine qz 2 K0 (v:=.bool true) ?_ (y:=fun z5 hS=>by go_simp)
    refine qz 3 K0 ?_
    refine qz 4 K0 ?_
    refine qz 5 K0 ?_ (y:=fun z5 hS=>by obtain ⟨r0,r1,r2,r3,r4,r5⟩:=(HT.out.below hS).cells HNb.out HMb.out;go_simp;rfl)
    refine qz 6 K0 ?_
    refine qz 7 K0 ?_
    refine qz 8 K0 ?_
    refine qz 9 K0 ?_ (y:=fun z5 hS=>by obtain ⟨r0,r1,r2,r3,r4,r5⟩:=(HT.out.below hS).cells HNb.out HMb.out;go_simp;rfl)
    refine qz 12 K0 ?_
    refine qz 13 K0 ?_ (y:=fun z5 hS=>by obtain ⟨r0,r1,r2,r3,r4,r5⟩:=(HT.out.below hS).cells HNb.out HMb.out;go_simp;rfl)
    refine uW 10 fun K hK=>?_
    go_simp
    (with_reducible refine (HTp.out z0).mono ?_)
    rintro e z1 ⟨A1,c1,rfl,ho1,hb1⟩
    have K1:=K0.trans (hb1.mono K0.size)
    obtain ⟨n1,hn1⟩:∃ n,(digs 2 T).length=n:=⟨_,rfl⟩
    rw [hn1] at ho1
    rw [hn1]
    refine hK.out _ _ (fun _=>K1) ?_
    refine qz 11 K1 ?_
    refine uW 14 fun K hK=>?_
    go_simp
    (with_reducible refine (HBt.out z1).mono ?_)
    rintro e z2 ⟨v2,rfl,⟨A2,c2,rfl,ho2⟩,hb2⟩
    have K2:=K1.trans (hb2.mono K1.size)
    obtain ⟨n2,hn2⟩:∃ n,(digs 2 Bz.natAbs).length=n:=⟨_,rfl⟩
    obtain ⟨s2,hs2⟩:∃ s,decide (Bz<0)=s:=⟨_,rfl⟩
    rw [hn2] at ho2
    rw [hn2,hs2]
    refine hK.out _ _ (fun _=>K2) ?_
    refine uW 15 fun K hK=>?_
    go_simp
    refine hK.out _ _ (fun _=>K2) ?_
    have hX2:=HX.out.below K2 HX.out.lt
    obtain ⟨x0,x1,x2,x3,x4⟩:=hX2.cells
    obtain ⟨y0,y1,y2,y3,y4⟩:=hX2.frozens
    have hS:=hX2.set5 (.bool true) (.bool true) (.slice A1 n1 c1) (.bool s2) (.slice A2 n2 c2)
    have HQ:=Lib.hid (show QAt (((((z2.setCell ⟨w.heap.size+1,0,none⟩ (.bool true)).setCell ⟨w.heap.size+1,1,none⟩ (.bool true)).setCell ⟨w.heap.size+1,2,none⟩ (.slice A1 n1 c1)).setCell ⟨w.heap.size+1,3,none⟩ (.bool s2)).setCell ⟨w.heap.size+1,4,none⟩ (.slice A2 n2 c2)) w.heap.size (.flo F) (.agg #[.bool true,.bool true,.slice A1 n1 c1,.bool s2,.slice A2 n2 c2]) from by
     have hz:=HZ.out
     have g3:=K0.size
     have g4:=hb1.size
     have h9:QAt z2 (w.heap.size+1+1) (.flo F) (.agg #[.bool true,.bool true,.slice A1 n1 c1,.bool s2,.slice A2 n2 c2]):=by
      refine ⟨A1,c1,A2,c2,?_,?_,?_⟩
      ·show _=qV true (decide (topS F<0)) A1 (digs 2 (topS F).natAbs).length c1 (decide ((botF F:Int)<0)) A2 (digs 2 (botF F:Int).natAbs).length c2
       rw [topS_abs,HE.out.1,HE.out.2.1,HE.out.2.2,hn1,hn2,hs2]
       rfl
      ·show OwnI z2 (w.heap.size+1+1) A1 (digs 2 (topS F).natAbs).length c1 (i64s (digs 2 (topS F).natAbs))
       rw [topS_abs,HE.out.1,hn1]
       exact (ho1.below hb2 (Nat.le_refl _)).mono (by omega)
      ·show OwnI z2 (w.heap.size+1+1) A2 (digs 2 (botF F:Int).natAbs).length c2 (i64s (digs 2 (botF F:Int).natAbs))
       rw [HE.out.2.1,hn2]
       exact ho2.mono (by omega)
     exact (h9.set5 (by omega) _ _ _ _ _).mono (by omega))
    have HBo:=Lib.hid (HB.out.trans (K2.mono HB.out.size))
    have HBg:=Lib.hid (HBo.out.grown hS.2 HBo.out.size (fun j e=>by injection e with e;omega))
    have HS1:=Lib.hid hS.1
    clear hS hX2 K0 K1 hb1 hb2 hs0 ho1 ho2 hn1 hn2 hs2
    refine uW 16 fun K hK=>?_
    go_simp
    generalize ((((z2.setCell ⟨w.heap.size+1,0,none⟩ (.bool true)).setCell ⟨w.heap.size+1,1,none⟩ (.bool true)).setCell ⟨w.heap.size+1,2,none⟩ (.slice A1 n1 c1)).setCell ⟨w.heap.size+1,3,none⟩ (.bool s2)).setCell ⟨w.heap.size+1,4,none⟩ (.slice A2 n2 c2)=u1 at *
    refine hK.out _ _ (fun h=>absurd h (by simp)) ?_
    clear K2 HBo x0 x1 x2 x3 x4 y0 y1 y2 y3 y4
    refine uW 17 fun K hK=>?_
    go_simp
    refine hK.out _ _ (fun h=>absurd h (by simp)) ?_
    refine wpAnyW_done (by kernel_rfl) ?_ _
    obtain ⟨r0,r1,r2,r3,r4⟩:=HS1.out.cells
    go_wp2_with fail
    refine bodyPost_ret (v:=.tuple #[.agg #[.bool true,.bool true,.slice A1 n1 c1,.bool s2,.slice A2 n2 c2],.bool true]) (by simp [results,Tryz.results35,go_sem,r0,r1,r2,r3,r4]) rfl ?_
    exact ⟨HBg.out,.inl ⟨.flo F,_,HN.out,rfl,HQ.out⟩⟩
   ·have hge1:decide ((9223372036854775808:Int)≤(F:Int))=false:=decide_eq_false (by omega)
    have HE:=Lib.hid (show topF F=T∧(botF F:Int)=Bz∧decide (topS F<0)=false from ⟨HTB.out.1,HTB.out.2,by rw [HSg.out,decide_eq_false hge];rfl⟩)
    clear hge HSg HTB HG
    refine wp_region_U 16 (by kernel_rfl) (fun z0 K0 hs0=>?_)
    refine qz 0 K0 ?_
    refine qz 1 K0 ?_ (y:=fun z5 hS=>by obtain ⟨r0,r1,r2,r3,r4,r5⟩:=(HT.out.below hS).cells HNb.out HMb.out;go_simp;rfl)
    refine qz 2 K0 (v:=.bool false) ?_ (y:=fun z5 hS=>by go_simp)
    refine qz 3 K0 ?_
    refine tkS 4 K0 rfl (by kernel_rfl) (fun _ _ _ h=>h) (by kernel_rfl) ?_
    refine tkS 5 K0 rfl (by kernel_rfl) (fun _ _ _ h=>h) (by kernel_rfl) ?_
    refine tkS 6 K0 rfl (by kernel_rfl) (fun _ _ _ h=>h) (by kernel_rfl) ?_
    refine qz 7 K0 ?_
    refine qz 8 K0 ?_
    refine qz 9 K0 ?_ (y:=fun z5 hS=>by obtain ⟨r0,r1,r2,r3,r4,r5⟩:=(HT.out.below hS).cells HNb.out HMb.out;go_simp;rfl)
    refine qz 12 K0 ?_
    refine qz 13 K0 ?_ (y:=fun z5 hS=>by obtain ⟨r0,r1,r2,r3,r4,r5⟩:=(HT.out.below hS).cells HNb.out HMb.out;go_simp;rfl)
    refine uW 10 fun K hK=>?_
    go_simp
    (with_reducible refine (HTp.out z0).mono ?_)
    rintro e z1 ⟨A1,c1,rfl,ho1,hb1⟩
    have K1:=K0.trans (hb1.mono K0.size)
    obtain ⟨n1,hn1⟩:∃ n,(digs 2 T).length=n:=⟨_,rfl⟩
    rw [hn1] at ho1
    rw [hn1]
    refine hK.out _ _ (fun _=>K1) ?_
    refine qz 11 K1 ?_
    refine uW 14 fun K hK=>?_
    go_simp
    (with_reducible refine (HBt.out z1).mono ?_)
    rintro e z2 ⟨v2,rfl,⟨A2,c2,rfl,ho2⟩,hb2⟩
    have K2:=K1.trans (hb2.mono K1.size)
    obtain ⟨n2,hn2⟩:∃ n,(digs 2 Bz.natAbs).length=n:=⟨_,rfl⟩
    obtain ⟨s2,hs2⟩:∃ s,decide (Bz<0)=s:=⟨_,rfl⟩
    rw [hn2] at ho2
    rw [hn2,hs2]
    refine hK.out _ _ (fun _=>K2) ?_
    refine uW 15 fun K hK=>?_
    go_simp
    refine hK.out _ _ (fun _=>K2) ?_
    have hX2:=HX.out.below K2 HX.out.lt
    obtain ⟨x0,x1,x2,x3,x4⟩:=hX2.cells
    obtain ⟨y0,y1,y2,y3,y4⟩:=hX2.frozens
    have hS:=hX2.set5 (.bool true) (.bool false) (.slice A1 n1 c1) (.bool s2) (.slice A2 n2 c2)
    have HQ:=Lib.hid (show QAt (((((z2.setCell ⟨w.heap.size+1,0,none⟩ (.bool true)).setCell ⟨w.heap.size+1,1,none⟩ (.bool false)).setCell ⟨w.heap.size+1,2,none⟩ (.slice A1 n1 c1)).setCell ⟨w.heap.size+1,3,none⟩ (.bool s2)).setCell ⟨w.heap.size+1,4,none⟩ (.slice A2 n2 c2)) w.heap.size (.flo F) (.agg #[.bool true,.bool false,.slice A1 n1 c1,.bool s2,.slice A2 n2 c2]) from by
     have hz:=HZ.out
     have g3:=K0.size
     have g4:=hb1.size
     have h9:QAt z2 (w.heap.size+1+1) (.flo F) (.agg #[.bool true,.bool false,.slice A1 n1 c1,.bool s2,.slice A2 n2 c2]):=by
      refine ⟨A1,c1,A2,c2,?_,?_,?_⟩
      ·show _=qV true (decide (topS F<0)) A1 (digs 2 (topS F).natAbs).length c1 (decide ((botF F:Int)<0)) A2 (digs 2 (botF F:Int).natAbs).length c2
       rw [topS_abs,HE.out.1,HE.out.2.1,HE.out.2.2,hn1,hn2,hs2]
       rfl
      ·show OwnI z2 (w.heap.size+1+1) A1 (digs 2 (topS F).natAbs).length c1 (i64s (digs 2 (topS F).natAbs))
       rw [topS_abs,HE.out.1,hn1]
       exact (ho1.below hb2 (Nat.le_refl _)).mono (by omega)
      ·show OwnI z2 (w.heap.size+1+1) A2 (digs 2 (botF F:Int).natAbs).length c2 (i64s (digs 2 (botF F:Int).natAbs))
       rw [HE.out.2.1,hn2]
       exact ho2.mono (by omega)
     exact (h9.set5 (by omega) _ _ _ _ _).mono (by omega))
    have HBo:=Lib.hid (HB.out.trans (K2.mono HB.out.size))
    have HBg:=Lib.hid (HBo.out.grown hS.2 HBo.out.size (fun j e=>by injection e with e;omega))
    have HS1:=Lib.hid hS.1
    clear hS hX2 K0 K1 hb1 hb2 hs0 ho1 ho2 hn1 hn2 hs2
    refine uW 16 fun K hK=>?_
    go_simp
    generalize ((((z2.setCell ⟨w.heap.size+1,0,none⟩ (.bool true)).setCell ⟨w.heap.size+1,1,none⟩ (.bool false)).setCell ⟨w.heap.size+1,2,none⟩ (.slice A1 n1 c1)).setCell ⟨w.heap.size+1,3,none⟩ (.bool s2)).setCell ⟨w.heap.size+1,4,none⟩ (.slice A2 n2 c2)=u1 at *
    refine hK.out _ _ (fun h=>absurd h (by simp)) ?_
    clear K2 HBo x0 x1 x2 x3 x4 y0 y1 y2 y3 y4
    refine uW 17 fun K hK=>?_
    go_simp
    refine hK.out _ _ (fun h=>absurd h (by simp)) ?_
    refine wpAnyW_done (by kernel_rfl) ?_ _
    obtain ⟨r0,r1,r2,r3,r4⟩:=HS1.out.cells
    go_wp2_with fail
    refine bodyPost_ret (v:=.tuple #[.agg #[.bool true,.bool false,.slice A1 n1 c1,.bool s2,.slice A2 n2 c2],.bool true]) (by simp [results,Tryz.results35,go_sem,r0,r1,r2,r3,r4]) rfl ?_
    exact ⟨HBg.out,.inl ⟨.flo F,_,HN.out,rfl,HQ.out⟩⟩
  ·have d4:(k != 4)=true:=by simpa using h4
   have HN:=Lib.hid (show nmOf (.mk k nl ml b v ts)=none from by
    show (if k=3 then some (Nm.int (pVal ml 10)) else if k=4 then some (.flo b.toNat) else none)=none
    rw [if_neg h3,if_neg h4])
   obtain ⟨z0,z1,z2,z3,z4⟩:=HX.out.frozens
   obtain ⟨c0,c1',c2,c3,c4⟩:=HX.out.cells
   have hS:=HX.out.set5 (.bool false) (.bool false) (.slice none 0 0) (.bool false) (.slice none 0 0)
   clear HO h3 h4 hob
   go_enter Tryz.func35,Tryz.ntmps35
   go_upto_region 1 with fail
   generalize (w.alloc (.cells #[.int .i64 k,.string nb,.string mb,.int .u64 b,.int .i64 v,.slice A q c] 25)).alloc (.cells #[.bool false,.bool false,.slice none 0 0,.bool false,.slice none 0 0] 61)=w0 at *
   go_wp2_with fail
   obtain ⟨r0,r1,r2,r3,r4⟩:=hS.1.cells
   refine bodyPost_ret (v:=.tuple #[.agg #[.bool false,.bool false,.slice none 0 0,.bool false,.slice none 0 0],.bool false]) (by simp [results,Tryz.results35,go_sem,r0,r1,r2,r3,r4]) rfl ?_
   have hz:=HZ.out
   exact ⟨HB.out.grown hS.2 HB.out.size (fun j e=>by injection e with e;omega),.inr ⟨HN.out,rfl⟩⟩
end
end Go.Proofs.YtjpnmmjgdiiahaaGreatDoor
