import Derived.Below
import Derived.Deep.RegionHeld3
import Derived.WalkKit
import Derived.Maps.OwnSet
import Derived.StringKeys
import Derived.Deep.AppendLies
import Derived.Maps.AppendAt
import Derived.Deep.OwnRows
import Derived.Test.YtjpnmmjgdiiahaaGreatDoorU2
import Derived.Test.YtjpnmmjgdiiahaaGreatDoorU5
import Derived.Test.YtjpnmmjgdiiahaaGreatDoorU6
import Derived.Test.YtjpnmmjgdiiahaaGreatDoorU60
set_option linter.unusedVariables false
set_option linter.unusedSimpArgs false
namespace Go.Proofs.YtjpnmmjgdiiahaaGreatDoor
section
open Go.RowKit Hb Ht
attribute [local go_sem ↓] Go.wp_at_zero Go.wp_at_succ
def sEval:List UInt8:=[101,118,97,108,117,97,116,105,111,110,95,101,114,114,111,114]
def sOver:List UInt8:=[102,108,111,97,116,95,111,118,101,114,102,108,111,119]
def sZero:List UInt8:=[122,101,114,111,95,100,105,118,105,115,111,114]
def sRes:List UInt8:=[114,101,115,111,117,114,99,101,95,101,114,114,111,114]
def sBits:List UInt8:=[98,105,116,115]
def evT (s:List UInt8):Tm:=cmpT sEval [atomT s]
theorem atom_row {s s0:List UInt8} {nb:ByteArray} (hs:(⟨s.toArray⟩:ByteArray)=nb) (hl:s.length≤1000) (hl0:s0.length≤1000) {w1 w':World} {lo:Nat} (hlo:lo≤w1.heap.size)
  (hb:Below (w1.alloc (.cells #[.int .i64 2,.string nb,.string ⟨#[]⟩,.int .u64 0,.int .i64 0,.slice none 0 0] 25)).heap.size (w1.alloc (.cells #[.int .i64 2,.string nb,.string ⟨#[]⟩,.int .u64 0,.int .i64 0,.slice none 0 0] 25)) w') :
  TAtP w' (fun b=>lo≤b∧b<w'.heap.size) (cmpT s0 [atomT s]) (.slice (some ⟨w1.heap.size,0,none⟩) 1 1):=by
 subst hs
 have hz:=hb.size
 rw [World.size_alloc] at hz
 have h1:(w1.alloc (.cells #[.int .i64 2,.string ⟨s.toArray⟩,.string ⟨#[]⟩,.int .u64 0,.int .i64 0,.slice none 0 0] 25)).heap[w1.heap.size]?=some (.cells (Ht.fl6 [(atomT s,.slice none 0 0)]).toArray 25 (0,0)):=heap_alloc_new w1 _
 have h2:w'.heap[w1.heap.size]?=some (.cells (Ht.fl6 [(atomT s,.slice none 0 0)]).toArray 25 (0,0)):=(hb.block _ (by rw [World.size_alloc];omega)).trans h1
 refine RowP.term (RowP.block h2 (P:=fun b=>lo≤b∧b<w'.heap.size) (fun p hp=>?_)) (fun g o _ e=>?_) rfl (Nat.le_refl _) (by unfold maxLen;simp) (by unfold maxArgs;simp) (okF_cmp (by unfold maxLen;omega))
 ·simp only [List.mem_singleton] at hp
  subst hp
  exact TAtP.leaf _ _ (t:=atomT s) rfl (by unfold maxLen;omega) (okF_atom (by unfold maxLen;omega))
 ·injection e with e;injection e with e;omega
set_option maxRecDepth 100000 in
theorem evaluation_ok {s:List UInt8} {nb:ByteArray} (hs:(⟨s.toArray⟩:ByteArray)=nb) (hl:s.length≤1000) (w:World):Calls Tryz.prog 101 #[.string nb] w fun e w'=>∃ v,e = .returned v∧BallP w' w.heap.size (evT s) v∧Below w.heap.size w w':=by
 have HR:=Lib.hid (fun (w1 w':World) h1 h2=>atom_row (s0:=sEval) hs hl (by decide) (w1:=w1) (w':=w') (lo:=w.heap.size) h1 h2)
 go_enter Tryz.func101,Tryz.ntmps101
 go_wp2_with fail
 refine (atom_any _ _).mono ?_
 rintro e w1 ⟨rfl,hb1⟩
 go_wp2_with fail
 refine (of_any _ _ _ _ _).mono ?_
 rintro e w2 ⟨rfl,hb2⟩
 go_wp2_with fail
 refine (throw_any 5 0 0 sEval [] [atomT s] _ _ rfl rfl _ _ _ _).mono ?_
 rintro e w3 ⟨g,rfl,hg,hbx,hb3⟩
 go_wp2_with fail
 go_ret
 have hz1:=hb1.size
 have hz2:=hb2.size
 have hz:=World.size_alloc w1 (.cells #[.int .i64 2,.string nb,.string ⟨#[]⟩,.int .u64 0,.int .i64 0,.slice none 0 0] 25)
 refine ⟨_,rfl,⟨g,_,rfl,by omega,hbx,HR.out _ _ hz1 (hb2.trans (hb3.mono hz2))⟩,?_⟩
 exact (hb1.alloc hz1 _).trans ((hb2.trans (hb3.mono hz2)).mono (by omega))
set_option maxRecDepth 100000 in
theorem resource_ok (w:World):Calls Tryz.prog 167 #[] w fun e w'=>∃ v,e = .returned v∧BallP w' w.heap.size (cmpT sRes [atomT sBits]) v∧Below w.heap.size w w':=by
 have HR:=Lib.hid (fun (w1 w':World) h1 h2=>atom_row (s:=sBits) (s0:=sRes) rfl (by decide) (by decide) (w1:=w1) (w':=w') (lo:=w.heap.size) h1 h2)
 go_enter Tryz.func167,Tryz.ntmps167
 go_wp2_with fail
 refine (atom_any _ _).mono ?_
 rintro e w1 ⟨rfl,hb1⟩
 go_wp2_with fail
 refine (of_any _ _ _ _ _).mono ?_
 rintro e w2 ⟨rfl,hb2⟩
 go_wp2_with fail
 refine (throw_any 5 0 0 sRes [] [atomT sBits] _ _ rfl rfl _ _ _ _).mono ?_
 rintro e w3 ⟨g,rfl,hg,hbx,hb3⟩
 go_wp2_with fail
 go_ret
 have hz1:=hb1.size
 have hz2:=hb2.size
 have hz:=World.size_alloc w1 (.cells #[.int .i64 2,.string ⟨#[98,105,116,115]⟩,.string ⟨#[]⟩,.int .u64 0,.int .i64 0,.slice none 0 0] 25)
 refine ⟨_,rfl,⟨g,_,rfl,by omega,hbx,HR.out _ _ hz1 (hb2.trans (hb3.mono hz2))⟩,?_⟩
 exact (hb1.alloc hz1 _).trans ((hb2.trans (hb3.mono hz2)).mono (by omega))
theorem LimP.notN {w:World} {P:Nat→Prop} {A:Option Addr} {n c:Nat} {l:List Nat} (h:LimP w P A n c l) {B:Nat} {q0:Nv} (hb:NBox w B q0):LimP w (fun b=>P b∧b≠B) A n c l:=by
 refine ⟨h.len,h.cap,h.max,h.dig,fun hl=>?_⟩
 obtain ⟨b,o,e,hp,hc⟩:=h.rd hl
 refine ⟨b,o,e,⟨hp,fun e9=>?_⟩,hc⟩
 subst e9
 cases l with
 | nil=>exact hl rfl
 | cons x l=>
  have h0:=hc 0 (.int .u32 x) rfl
  unfold NBox at hb
  simp only [World.cell?,hb,Nv.vals] at h0
  rcases (by omega:o=0∨o=1∨o=2∨o=3∨4≤o) with rfl | rfl | rfl | rfl | h9
  ·simp at h0
  ·simp at h0
  ·simp at h0
  ·simp at h0
  ·obtain ⟨k,rfl⟩:∃ k,o=k+4:=⟨o - 4,by omega⟩
   simp at h0
theorem Nv.At.notN {w:World} {P:Nat→Prop} {q:Nv} (h:q.At w P) {B:Nat} {q0:Nv} (hb:NBox w B q0):q.At w (fun b=>P b∧b≠B):=⟨h.lim.notN hb,h.sm,h.fl,h.sh⟩
theorem Nv.At.gro {w w':World} {P:Nat→Prop} {q:Nv} (h:q.At w P) (hP:∀ b,P b→b<w.heap.size) {B:Nat} {q0:Nv} (hb:NBox w B q0) (hg:w.grownBy w' (some B)):q.At w' P:=
 (h.notN hb).keep fun b hp=>⟨hp.1,hg.block b (hP b hp.1) (fun e=>by injection e with e;exact hp.2 (by omega))⟩
theorem Out.gro {w w':World} {lo lb:Nat} {r:Rs} {q:Nv} {ev:Value} (h:Out w lo lb r q ev) {B:Nat} {q0:Nv} (hb:NBox w B q0) (hB:B<lb) (hg:w.grownBy w' (some B)):Out w' lo lb r q ev:=by
 rcases h with ⟨h1,h2,h3⟩ | ⟨t,h1,h2,h3⟩
 ·exact .inl ⟨h1,h2,(h3.gro (fun b h=>h.2) hb hg).wide (fun b h=>⟨h.1,Nat.lt_of_lt_of_le h.2 hg.size⟩)⟩
 ·exact .inr ⟨t,h1,h2,h3.gro hg hB⟩
theorem NPost.fin {w W W':World} {r:Rs} {q q0:Nv} {ev:Value} {B lo:Nat} (hb:Below w.heap.size w W) (hB:w.heap.size≤B) (hbox:NBox W B q0) (ho:Out W lo (B+1) r q ev) (hg:W.grownBy W' (some B)):NPostL lo w r (.returned (.tuple #[q.v,ev])) W':=
 ⟨hb.grown hg hb.size (fun j e=>by injection e with e;omega),q,ev,rfl,(ho.gro hbox (by omega) hg).lower (Nat.le_refl _) (by omega)⟩
def flowR (F:Nat):Rs:=match flowM F with
 | none=>.bad (evT sOver)
 | some G=>.ok (.flo G)
theorem order_zero {F:Nat} (h:Num64 F):∃ s r,F=Ieee.double.word s r∧r≤9218868437227405312∧F % 9223372036854775808=r∧Ieee.double.order F 0=some (if r=0 then .eq else if s then .lt else .gt):=by
 obtain ⟨s,r,rfl,hr⟩:=h
 refine ⟨s,r,rfl,hr,?_,?_⟩
 ·rw [word_val];cases s <;> simp <;> omega
 ·by_cases h0:r=0
  ·subst h0;rw [if_pos rfl];exact order_word0 s
  ·rw [if_neg h0];exact order_word (by omega) hr
theorem run_store_float (P:Program) (w:World) (a:Addr) (m:Mode) (k:FloatKind) (b:Nat):(store a (.float k b) m).run P w=stored P w a (.float k b) m:=run_store P w a _ m rfl
attribute [local go_sem] run_store_float
set_option maxRecDepth 100000 in
set_option maxHeartbeats 2000000 in
theorem flow_ok {F:Nat} (hF:Num64 F) (w:World):Calls Tryz.prog 77 #[.float .f64 F] w (NPost w (flowR F)):=by
 obtain ⟨s,r,hFw,hr,hFr,ho⟩:=order_zero hF
 have hX:=NBox.new w nought
 have HB:=Lib.hid (show Below w.heap.size w (w.alloc (.cells nought.vals.toArray 70)) from (Below.refl _ _).alloc (Nat.le_refl _) _)
 have HZ:=Lib.hid (World.size_alloc w (.cells nought.vals.toArray 70))
 have HF:=Lib.hid hF
 have HW:=Lib.hid hFw
 have HX:=Lib.hid hX
 simp only [nought,Nv.vals] at HX HB HZ
 clear hX hF hFw
 by_cases hinf:r=9218868437227405312
 ·have HI:=Lib.hid (IsInf_w HF.out (b:=true) (by rw [hFr,hinf];rfl))
  have HR:=Lib.hid (show flowR F = .bad (evT sOver) from by unfold flowR flowM;rw [hFr,if_pos hinf])
  clear ho hFr hr hinf
  go_enter Tryz.func77,Tryz.ntmps77
  go_upto_region 1 with fail
  generalize w.alloc (.cells #[.bool false,.slice none 0 0,.float .f64 0,.bool false] 70)=w0 at *
  go_wp2_with fail
  refine (HI.out _).mono ?_
  rintro e w1 ⟨rfl,rfl⟩
  go_wp2_with fail
  refine (evaluation_ok (s:=sOver) rfl (by decide) _).mono ?_
  rintro e w2 ⟨v,rfl,hv,hb2⟩
  obtain ⟨g,rfl⟩:=hv.iface
  have hX2:=HX.out.below hb2 HX.out.lt
  obtain ⟨c0,c1,c2,c3⟩:=hX2.cells
  obtain ⟨z0,z1,z2,z3⟩:=hX2.frozens
  have hS:=hX2.set4 nought
  simp only [nought] at hS c0 c1 c2 c3
  have HV:=Lib.hid hv
  have HB2:=Lib.hid hb2
  clear hv hb2
  go_wp2_with fail
  obtain ⟨r0,r1,r2,r3⟩:=hS.1.cells
  simp only at r0 r1 r2 r3
  refine bodyPost_ret (v:=.tuple #[.agg #[.bool false,.slice none 0 0,.float .f64 0,.bool false],.iface 95 (.pointer (some ⟨g,0,none⟩))]) (by simp [results,Tryz.results77,go_sem,r0,r1,r2,r3]) rfl ?_
  have hz:=HZ.out
  rw [HR.out]
  exact NPost.fin (q:=nought) (HB.out.trans (HB2.out.mono (by omega))) (Nat.le_refl _) hX2 (.inr ⟨_,rfl,rfl,HV.out.lower (by omega)⟩) hS.2
 ·have HI:=Lib.hid (IsInf_w HF.out (b:=false) (by rw [hFr];exact decide_eq_false hinf))
  have HN:=Lib.hid (IsNaN_w HF.out)
  have hrl:r<9218868437227405312:=by omega
  obtain ⟨b0,hb0⟩:∃ b,(FloatKind.f64.format.order F 0==some .eq)=b:=⟨_,rfl⟩
  by_cases h0:r=0
  ·have hb9:b0=true:=by rw [←hb0,show FloatKind.f64.format.order F 0=_ from ho,if_pos h0];rfl
   subst hb9
   have HR:=Lib.hid (show flowR F = .ok (.flo 0) from by unfold flowR flowM;rw [hFr,if_neg hinf,if_pos h0])
   have HA:=Lib.hid (Abs_w (F:=0) (R:=0) (by decide) (by decide))
   have HS:=Lib.hid (sign_f (F:=0) (o:=.eq) (by decide +kernel))
   have hmul:∀ w1,(binOp .mul 68 (.float .f64 0) (.float .f64 0)).run Tryz.prog w1 = .ok (.float .f64 0) w1:=fun w1=>run_float_arith w1 .mul _ .f64 _ _ _ mul_nought
   have HG:=Lib.hid flo0
   have hX2:=HX.out
   obtain ⟨c0,c1,c2,c3⟩:=hX2.cells
   obtain ⟨z0,z1,z2,z3⟩:=hX2.frozens
   have hS:=hX2.set4 (flv 0)
   simp only [flv] at hS c0 c1 c2 c3
   clear ho hFr hr hinf hrl h0
   go_enter Tryz.func77,Tryz.ntmps77
   go_upto_region 1 with fail
   generalize w.alloc (.cells #[.bool false,.slice none 0 0,.float .f64 0,.bool false] 70)=w0 at *
   go_wp2_with (first
    | (go_at_call 165;(with_reducible refine (HI.out _).mono ?_);rintro e w1 ⟨rfl,rfl⟩)
    | (go_at_call 166;(with_reducible refine (HN.out _).mono ?_);rintro e w1 ⟨rfl,rfl⟩)
    | (go_at_call 86;(with_reducible refine (HA.out _).mono ?_);rintro e w1 ⟨rfl,rfl⟩)
    | (go_at_call 64;(with_reducible refine (HS.out _).mono ?_);simp only [sgB];rintro e w1 ⟨rfl,rfl⟩))
   obtain ⟨r0,r1,r2,r3⟩:=hS.1.cells
   simp only at r0 r1 r2 r3
   refine bodyPost_ret (v:=.tuple #[.agg #[.bool false,.slice none 0 0,.float .f64 0,.bool true],.nilIface]) (by simp [results,Tryz.results77,go_sem,r0,r1,r2,r3]) rfl ?_
   have hz:=HZ.out
   rw [HR.out]
   exact NPost.fin (q:=flv 0) HB.out (Nat.le_refl _) hX2 (.inl ⟨rfl,rfl,flv_at _ _ HG.out⟩) hS.2
  ·have hb9:b0=false:=by rw [←hb0,show FloatKind.f64.format.order F 0=_ from ho,if_neg h0];cases s <;> rfl
   subst hb9
   have HR:=Lib.hid (show flowR F = .ok (.flo F) from by unfold flowR flowM;rw [hFr,if_neg hinf,if_neg h0])
   have HG:=Lib.hid (show Flo64 F from flowM_flo HF.out (by unfold flowM;rw [hFr,if_neg hinf,if_neg h0]))
   have HA:=Lib.hid (Abs_w (num_lt HF.out).1 hFr)
   obtain ⟨sg,hsg⟩:∃ x,(if s then 13830554455654793216 else 4607182418800017408)=x:=⟨_,rfl⟩
   have HS:=Lib.hid (sign_f ho)
   rw [if_neg h0,show sgB (if s then .lt else .gt)=sg from by rw [←hsg];cases s <;> rfl] at HS
   have hmul:∀ w1,(binOp .mul 68 (.float .f64 r) (.float .f64 sg)).run Tryz.prog w1 = .ok (.float .f64 F) w1:=fun w1=>run_float_arith w1 .mul _ .f64 _ _ _ (by rw [←hsg,HW.out];exact mul_sign s hrl (by omega))
   have hX2:=HX.out
   obtain ⟨c0,c1,c2,c3⟩:=hX2.cells
   obtain ⟨z0,z1,z2,z3⟩:=hX2.frozens
   have hS:=hX2.set4 (flv F)
   simp only [flv] at hS c0 c1 c2 c3
   clear ho hFr hr hinf hrl h0 hsg
   go_enter Tryz.func77,Tryz.ntmps77
   go_upto_region 1 with fail
   generalize w.alloc (.cells #[.bool false,.slice none 0 0,.float .f64 0,.bool false] 70)=w0 at *
   go_wp2_with (first
    | (go_at_call 165;(with_reducible refine (HI.out _).mono ?_);rintro e w1 ⟨rfl,rfl⟩)
    | (go_at_call 166;(with_reducible refine (HN.out _).mono ?_);rintro e w1 ⟨rfl,rfl⟩)
    | (go_at_call 86;(with_reducible refine (HA.out _).mono ?_);rintro e w1 ⟨rfl,rfl⟩)
    | (go_at_call 64;(with_reducible refine (HS.out _).mono ?_);rintro e w1 ⟨rfl,rfl⟩))
   obtain ⟨r0,r1,r2,r3⟩:=hS.1.cells
   simp only at r0 r1 r2 r3
   refine bodyPost_ret (v:=.tuple #[.agg #[.bool false,.slice none 0 0,.float .f64 F,.bool true],.nilIface]) (by simp [results,Tryz.results77,go_sem,r0,r1,r2,r3]) rfl ?_
   have hz:=HZ.out
   rw [HR.out]
   exact NPost.fin (q:=flv F) HB.out (Nat.le_refl _) hX2 (.inl ⟨rfl,rfl,flv_at _ _ HG.out⟩) hS.2
end
section
open Go.RowKit Hb Ht
attribute [local go_sem ↓] Go.wp_at_zero Go.wp_at_succ
attribute [local go_sem] run_store_float
def wholeR (z E:Int):Rs:=if E=0 then .ok (.int z) else if E=11 then .bad (evT sZero) else .bad (cmpT sRes [atomT sBits])
def KBox (w:World) (B:Nat) (g:Bool) (A:Option Addr) (n c:Nat):Prop:=w.heap[B]?=some (.cells #[.bool g,.slice A n c] 39 (0,0))
theorem KBox.lt {w:World} {B:Nat} {g:Bool} {A:Option Addr} {n c:Nat} (h:KBox w B g A n c):B<w.heap.size:=(Array.getElem?_eq_some_iff.1 h).1
theorem KBox.below {w w':World} {B C:Nat} {g:Bool} {A:Option Addr} {n c:Nat} (h:KBox w B g A n c) (hb:Below C w w') (hB:B<C):KBox w' B g A n c:=(hb.block B hB).trans h
theorem KBox.cells {w:World} {B:Nat} {g:Bool} {A:Option Addr} {n c:Nat} (h:KBox w B g A n c):w.cell? ⟨B,0,none⟩=some (.bool g)∧w.cell? ⟨B,1,none⟩=some (.slice A n c):=by
 unfold KBox at h
 refine ⟨?_,?_⟩ <;> simp [World.cell?,h]
theorem KBox.frozens {w:World} {B:Nat} {g:Bool} {A:Option Addr} {n c:Nat} (h:KBox w B g A n c):w.frozen? ⟨B,0,none⟩=false∧w.frozen? ⟨B,1,none⟩=false:=by
 unfold KBox at h
 simp [World.frozen?,h]
theorem KBox.new (w:World) (g:Bool) (A:Option Addr) (n c:Nat):KBox (w.alloc (.cells #[.bool g,.slice A n c] 39)) w.heap.size g A n c:=heap_alloc_new w _
set_option maxRecDepth 100000 in
set_option maxHeartbeats 2000000 in
theorem whole_ok {lo:Nat} {g:Bool} {A:Option Addr} {n c:Nat} {l:List Nat} {z E:Int} (w:World) (hE:E=0→LimP w (fun b=>lo≤b∧b<w.heap.size) A n c l∧n≤10000∧ival g l=z∧tooLong z=false) :
  Calls Tryz.prog 83 #[.agg #[.bool g,.slice A n c],.int .i64 E] w (NPostL lo w (wholeR z E)):=by
 have hK:=KBox.new w g A n c
 have hB0:Below w.heap.size w (w.alloc (.cells #[.bool g,.slice A n c] 39)):=(Below.refl _ _).alloc (Nat.le_refl _) _
 have hZ0:=World.size_alloc w (.cells #[.bool g,.slice A n c] 39)
 have HE:=Lib.hid hE
 have hX:=NBox.new (w.alloc (.cells #[.bool g,.slice A n c] 39)) nought
 have hB1:Below w.heap.size w ((w.alloc (.cells #[.bool g,.slice A n c] 39)).alloc (.cells nought.vals.toArray 70)):=hB0.alloc hB0.size _
 have hK1:=hK.below ((Below.refl _ _).alloc (Nat.le_refl _) (.cells nought.vals.toArray 70)) hK.lt
 have hZ1:=World.size_alloc (w.alloc (.cells #[.bool g,.slice A n c] 39)) (.cells nought.vals.toArray 70)
 rw [hZ0] at hX hZ1
 have HX:=Lib.hid hX
 have HB:=Lib.hid hB1
 have HZ:=Lib.hid hZ1
 have HK:=Lib.hid hK1
 simp only [nought,Nv.vals] at HX HB HZ HK
 clear hX hK hB0 hZ0 hB1 hK1 hZ1 hE
 by_cases h0:E=0
 ·have HR:=Lib.hid (show wholeR z E = .ok (.int z) from by unfold wholeR;rw [if_pos h0])
  have HE0:=Lib.hid (HE.out h0)
  subst h0
  obtain ⟨k0,k1⟩:=HK.out.cells
  obtain ⟨c0,c1,c2,c3⟩:=HX.out.cells
  obtain ⟨z0,z1,z2,z3⟩:=HX.out.frozens
  have hS:=HX.out.set4 ⟨g,A,n,c,l,0,false⟩
  simp only at hS c0 c1 c2 c3
  clear HE
  go_enter Tryz.func83,Tryz.ntmps83
  go_upto_region 1 with fail
  generalize (w.alloc (.cells #[.bool g,.slice A n c] 39)).alloc (.cells #[.bool false,.slice none 0 0,.float .f64 0,.bool false] 70)=w0 at *
  go_wp2_with fail
  obtain ⟨r0,r1,r2,r3⟩:=hS.1.cells
  simp only at r0 r1 r2 r3
  refine bodyPost_ret (v:=.tuple #[.agg #[.bool g,.slice A n c,.float .f64 0,.bool false],.nilIface]) (by simp [results,Tryz.results83,go_sem,r0,r1,r2,r3]) rfl ?_
  rw [HR.out]
  have hz:=HZ.out
  obtain ⟨e1,e2,e3,e4⟩:=HE0.out
  have hat:Nv.At w0 (fun b=>lo≤b∧b<w0.heap.size) ⟨g,A,n,c,l,0,false⟩:=⟨e1.keep (fun b hb=>⟨by omega,HB.out.block b hb.2⟩),e2,flo0,by rw [show ival _ _=z from e3];exact e4⟩
  have hnm:Nv.nm ⟨g,A,n,c,l,0,false⟩ = .int z:=by unfold Nv.nm;simp only [Bool.false_eq_true,if_false];rw [e3]
  exact NPost.fin (q:=⟨g,A,n,c,l,0,false⟩) HB.out (by omega) HX.out (.inl ⟨by rw [hnm],rfl,hat⟩) hS.2
 ·have d0:(E==0)=false:=beq_eq_false_iff_ne.2 h0
  obtain ⟨b1,d1⟩:∃ b,(E==11)=b:=⟨_,rfl⟩
  have HR:=Lib.hid (show wholeR z E = .bad (if b1 then evT sZero else cmpT sRes [atomT sBits]) from by
   unfold wholeR
   rw [if_neg h0]
   cases b1
   ·rw [if_neg (by simpa using d1)];rfl
   ·rw [if_pos (by simpa using d1)];rfl)
  clear HE h0
  cases b1
  ·go_enter Tryz.func83,Tryz.ntmps83
   go_upto_region 1 with fail
   generalize (w.alloc (.cells #[.bool g,.slice A n c] 39)).alloc (.cells #[.bool false,.slice none 0 0,.float .f64 0,.bool false] 70)=w0 at *
   go_wp2_with fail
   refine (resource_ok _).mono ?_
   rintro e w2 ⟨v,rfl,hv,hb2⟩
   obtain ⟨gg,rfl⟩:=hv.iface
   have hX2:=HX.out.below hb2 HX.out.lt
   obtain ⟨c0,c1,c2,c3⟩:=hX2.cells
   obtain ⟨z0,z1,z2,z3⟩:=hX2.frozens
   have hS:=hX2.set4 nought
   simp only [nought] at hS c0 c1 c2 c3
   have HV:=Lib.hid hv
   have HB2:=Lib.hid hb2
   clear hv hb2
   go_wp2_with fail
   obtain ⟨r0,r1,r2,r3⟩:=hS.1.cells
   simp only at r0 r1 r2 r3
   refine bodyPost_ret (v:=.tuple #[.agg #[.bool false,.slice none 0 0,.float .f64 0,.bool false],.iface 95 (.pointer (some ⟨gg,0,none⟩))]) (by simp [results,Tryz.results83,go_sem,r0,r1,r2,r3]) rfl ?_
   have hz:=HZ.out
   rw [HR.out]
   exact NPost.fin (q:=nought) (HB.out.trans (HB2.out.mono (by omega))) (by omega) hX2 (.inr ⟨_,rfl,rfl,HV.out.lower (by omega)⟩) hS.2
  ·go_enter Tryz.func83,Tryz.ntmps83
   go_upto_region 1 with fail
   generalize (w.alloc (.cells #[.bool g,.slice A n c] 39)).alloc (.cells #[.bool false,.slice none 0 0,.float .f64 0,.bool false] 70)=w0 at *
   go_wp2_with fail
   refine (evaluation_ok (s:=sZero) rfl (by decide) _).mono ?_
   rintro e w2 ⟨v,rfl,hv,hb2⟩
   obtain ⟨gg,rfl⟩:=hv.iface
   have hX2:=HX.out.below hb2 HX.out.lt
   obtain ⟨c0,c1,c2,c3⟩:=hX2.cells
   obtain ⟨z0,z1,z2,z3⟩:=hX2.frozens
   have hS:=hX2.set4 nought
   simp only [nought] at hS c0 c1 c2 c3
   have HV:=Lib.hid hv
   have HB2:=Lib.hid hb2
   clear hv hb2
   go_wp2_with fail
   obtain ⟨r0,r1,r2,r3⟩:=hS.1.cells
   simp only at r0 r1 r2 r3
   refine bodyPost_ret (v:=.tuple #[.agg #[.bool false,.slice none 0 0,.float .f64 0,.bool false],.iface 95 (.pointer (some ⟨gg,0,none⟩))]) (by simp [results,Tryz.results83,go_sem,r0,r1,r2,r3]) rfl ?_
   have hz:=HZ.out
   rw [HR.out]
   exact NPost.fin (q:=nought) (HB.out.trans (HB2.out.mono (by omega))) (by omega) hX2 (.inr ⟨_,rfl,rfl,HV.out.lower (by omega)⟩) hS.2
def floR:Nm→Option Nat
 | .flo f=>some f
 | .int z=>if tfC z=0 then some (tfB z) else none
def FlPost (w:World) (x:Nm) (e:Ending) (w':World):Prop:=Below w.heap.size w w'∧∃ F v,e = .returned (.tuple #[.float .f64 F,v]) ∧
 ((floR x=some F∧Flo64 F∧v = .nilIface)∨(floR x=none∧BallP w' w.heap.size (evT sOver) v))
theorem tfB_flo {z:Int} (hl:tooLong z=false) (hc:tfC z=0):Flo64 (tfB z):=by
 unfold tfC at hc
 unfold tfB
 rw [hl] at hc ⊢
 simp only [Bool.false_eq_true,if_false] at hc ⊢
 by_cases h0:z=0
 ·rw [if_pos h0];exact flo0
 ·rw [if_neg h0]
  have hz:z.natAbs≠0:=by omega
  cases hi:flInf z.natAbs with
  | true=>rw [hi] at hc;simp at hc
  | false=>
   simp only [Bool.false_eq_true,if_false]
   unfold flInf at hi
   simp only [Bool.or_eq_false_iff,decide_eq_false_iff_not] at hi
   obtain ⟨h1,h2⟩:=flBits_le hz (by omega)
   have h3:flBits z.natAbs≠9218868437227405312:=hi.2
   unfold Flo64 Fin64
   split <;> omega
set_option maxRecDepth 100000 in
set_option maxHeartbeats 2000000 in
theorem floated_ok {q:Nv} {w:World} (hq:q.At w (fun b=>b<w.heap.size)):Calls Tryz.prog 76 #[q.v] w (FlPost w q.nm):=by
 have hX:=NBox.new w q
 have HB:=Lib.hid (show Below w.heap.size w (w.alloc (.cells q.vals.toArray 70)) from (Below.refl _ _).alloc (Nat.le_refl _) _)
 have HZ:=Lib.hid (World.size_alloc w (.cells q.vals.toArray 70))
 have HX:=Lib.hid hX
 have HQ:=Lib.hid hq
 obtain ⟨g,A,n,c,l,f,b⟩:=q
 simp only [Nv.vals] at HX HB HZ
 show Calls Tryz.prog 76 #[.agg #[.bool g,.slice A n c,.float .f64 f,.bool b]] w _
 obtain ⟨c0,c1,c2,c3⟩:=HX.out.cells
 simp only at c0 c1 c2 c3
 clear hX hq
 cases b
 ·have hnm:Nv.nm ⟨g,A,n,c,l,f,false⟩ = .int (ival g l):=rfl
  rw [hnm]
  have HT:=Lib.hid (fun (y:World) (hy:Below w.heap.size w y)=>ToFloat_any g (w:=y) (((HQ.out.keep (w':=y) (Q:=fun b=>b<y.heap.size) (fun b hb=>⟨Nat.lt_of_lt_of_le hb hy.size,hy.block b hb⟩)).lim).sl (fun b hb=>hb)) (Nat.le_trans HQ.out.sm (by decide)) (x:=ival g l) rfl rfl rfl)
  obtain ⟨F,hF⟩:∃ F,tfB (ival g l)=F:=⟨_,rfl⟩
  obtain ⟨co,hco⟩:∃ F,tfC (ival g l)=F:=⟨_,rfl⟩
  rw [hF,hco] at HT
  have hb:=run_frombits F
  by_cases h0:co=0
  ·subst h0
   have HK:=Lib.hid (show floR (.int (ival g l))=some F∧Flo64 F from ⟨by show (if tfC (ival g l)=0 then some (tfB (ival g l)) else none)=some F;rw [if_pos hco,hF],by rw [←hF];exact tfB_flo HQ.out.sh hco⟩)
   clear hF hco
   go_enter Tryz.func76,Tryz.ntmps76
   go_upto_region 1 with fail
   generalize w.alloc (.cells #[.bool g,.slice A n c,.float .f64 f,.bool false] 70)=w0 at *
   go_wp2_with fail
   refine (HT.out _ HB.out).mono ?_
   rintro e w1 ⟨rfl,hb1⟩
   go_wp2_with fail
   exact bodyPost_ret (v:=.tuple #[.float .f64 F,.nilIface]) (by simp [results,Tryz.results76,go_sem]) rfl ⟨HB.out.trans (hb1.mono HB.out.size),F,.nilIface,rfl,.inl ⟨HK.out.1,HK.out.2,rfl⟩⟩
  ·have d0:(co==0)=false:=beq_eq_false_iff_ne.2 h0
   have HK:=Lib.hid (show floR (.int (ival g l))=none from by show (if tfC (ival g l)=0 then some (tfB (ival g l)) else none)=none;rw [if_neg (by rw [hco];exact h0)])
   clear hF hco h0
   go_enter Tryz.func76,Tryz.ntmps76
   go_upto_region 1 with fail
   generalize w.alloc (.cells #[.bool g,.slice A n c,.float .f64 f,.bool false] 70)=w0 at *
   go_wp2_with fail
   refine (HT.out _ HB.out).mono ?_
   rintro e w1 ⟨rfl,hb1⟩
   go_wp2_with fail
   refine (evaluation_ok (s:=sOver) rfl (by decide) _).mono ?_
   rintro e w2 ⟨v,rfl,hv,hb2⟩
   obtain ⟨gg,rfl⟩:=hv.iface
   go_wp2_with fail
   have hz1:=hb1.size
   have hzz:=HB.out.size
   exact bodyPost_ret (v:=.tuple #[.float .f64 0,.iface 95 (.pointer (some ⟨gg,0,none⟩))]) (by simp [results,Tryz.results76,go_sem]) rfl ⟨(HB.out.trans (hb1.mono HB.out.size)).trans (hb2.mono (by omega)),0,_,rfl,.inr ⟨HK.out,hv.lower (by omega)⟩⟩
 ·have hnm:Nv.nm ⟨g,A,n,c,l,f,true⟩ = .flo f:=rfl
  rw [hnm]
  go_enter Tryz.func76,Tryz.ntmps76
  go_upto_region 1 with fail
  generalize w.alloc (.cells #[.bool g,.slice A n c,.float .f64 f,.bool true] 70)=w0 at *
  go_wp2_with fail
  exact bodyPost_ret (v:=.tuple #[.float .f64 f,.nilIface]) (by simp [results,Tryz.results76,go_sem]) rfl ⟨HB.out,f,.nilIface,rfl,.inl ⟨rfl,HQ.out.fl,rfl⟩⟩
def IPost (w:World) (z co:Int) (e:Ending) (w':World):Prop:=Below w.heap.size w w'∧∃ g A n c l,e = .returned (.tuple #[.agg #[.bool g,.slice A n c],.int .i64 co])∧(co=0→LimP w' (fun b=>w.heap.size≤b∧b<w'.heap.size) A n c l∧n≤10000∧ival g l=z∧tooLong z=false)
def FnB (f:FuncId):Prop:=∀ (args:Array Value) (w:World),(callFunc f args).run Tryz.prog w = .ok (.enter f args) w
def bothR (I:Int→Int→Int × Int) (Fo:Nat→Nat→Nat):Nm→Nm→Rs
 | .int a,.int b=>wholeR (I a b).1 (I a b).2
 | x,y=>match floR x with
  | none=>.bad (evT sOver)
  | some a=>match floR y with
   | none=>.bad (evT sOver)
   | some b=>flowR (Fo a b)
theorem bothR_flo {I:Int→Int→Int × Int} {Fo:Nat→Nat→Nat} {x y:Nm} (h:(∃ f,x = .flo f)∨(∃ f,y = .flo f)):bothR I Fo x y=match floR x with
  | none=>.bad (evT sOver)
  | some a=>match floR y with
   | none=>.bad (evT sOver)
   | some b=>flowR (Fo a b):=by
 cases x <;> cases y <;> first | rfl | (rcases h with ⟨f,h⟩ | ⟨f,h⟩ <;> cases h)
set_option maxRecDepth 100000 in
set_option maxHeartbeats 4000000 in
theorem both_ok {q1 q2:Nv} {ui uf:Value} {w:World} (h1:q1.At w (fun b=>b<w.heap.size)) (h2:q2.At w (fun b=>b<w.heap.size)) (I:Int→Int→Int × Int) (Fo:Nat→Nat→Nat)
  (hI:∀ a b,q1.nm = .int a→q2.nm = .int b→∃ fi,ui = .func (.func fi) #[] #[]∧FnB fi∧∀ y,Below w.heap.size w y→Calls Tryz.prog fi #[.agg #[.bool q1.g,.slice q1.A q1.n q1.c],.agg #[.bool q2.g,.slice q2.A q2.n q2.c]] y (IPost y (I a b).1 (I a b).2))
  (hF:(∃ f,q1.nm = .flo f)∨(∃ f,q2.nm = .flo f)→∃ ff,uf = .func (.func ff) #[] #[]∧FnB ff∧∀ a b,floR q1.nm=some a→floR q2.nm=some b→Num64 (Fo a b)∧∀ y,Calls Tryz.prog ff #[.float .f64 a,.float .f64 b] y (fun e w'=>e = .returned (.float .f64 (Fo a b))∧y=w')) :
  Calls Tryz.prog 107 #[q1.v,q2.v,ui,uf] w (NPost w (bothR I Fo q1.nm q2.nm)):=by
 have hX1:=NBox.new w q1
 have hB1:Below w.heap.size w (w.alloc (.cells q1.vals.toArray 70)):=(Below.refl _ _).alloc (Nat.le_refl _) _
 have hZ1:=World.size_alloc w (.cells q1.vals.toArray 70)
 have hX2:=NBox.new (w.alloc (.cells q1.vals.toArray 70)) q2
 have hB2:=hB1.alloc hB1.size (.cells q2.vals.toArray 70)
 have hZ2:=World.size_alloc (w.alloc (.cells q1.vals.toArray 70)) (.cells q2.vals.toArray 70)
 have hX1b:=hX1.below ((Below.refl _ _).alloc (Nat.le_refl _) (.cells q2.vals.toArray 70)) hX1.lt
 have hX0:=NBox.new ((w.alloc (.cells q1.vals.toArray 70)).alloc (.cells q2.vals.toArray 70)) nought
 have hB3:=hB2.alloc hB2.size (.cells nought.vals.toArray 70)
 have hZ3:=World.size_alloc ((w.alloc (.cells q1.vals.toArray 70)).alloc (.cells q2.vals.toArray 70)) (.cells nought.vals.toArray 70)
 have hX1c:=hX1b.below ((Below.refl _ _).alloc (Nat.le_refl _) (.cells nought.vals.toArray 70)) hX1b.lt
 have hX2c:=hX2.below ((Below.refl _ _).alloc (Nat.le_refl _) (.cells nought.vals.toArray 70)) hX2.lt
 rw [hZ2] at hX0 hZ3
 rw [hZ1] at hX2c hX0 hZ3
 have HA:=Lib.hid hX1c
 have HBx:=Lib.hid hX2c
 have HX:=Lib.hid hX0
 have HB:=Lib.hid hB3
 have HZ:=Lib.hid hZ3
 have HQ1:=Lib.hid h1
 have HQ2:=Lib.hid h2
 have HI:=Lib.hid hI
 have HF:=Lib.hid hF
 clear hX1 hB1 hZ1 hX2 hB2 hZ2 hX1b hX0 hB3 hZ3 hX1c hX2c h1 h2 hI hF
 obtain ⟨g,A,n,c,l,f,b⟩:=q1
 obtain ⟨g',A',n',c',l',f',b'⟩:=q2
 simp only [nought,Nv.vals] at HA HBx HX HB HZ
 simp only at HI
 show Calls Tryz.prog 107 #[.agg #[.bool g,.slice A n c,.float .f64 f,.bool b],.agg #[.bool g',.slice A' n' c',.float .f64 f',.bool b'],ui,uf] w _
 obtain ⟨a0,a1,a2,a3⟩:=HA.out.cells
 obtain ⟨b0,b1,b2,b3⟩:=HBx.out.cells
 simp only at a0 a1 a2 a3 b0 b1 b2 b3
 by_cases hbb:b=false∧b'=false
 ·obtain ⟨rfl,rfl⟩:=hbb
  obtain ⟨fi,rfl,hfb,hC⟩:=HI.out (ival g l) (ival g' l') rfl rfl
  have HC:=Lib.hid hC
  rw [show bothR I Fo (Nv.nm ⟨g,A,n,c,l,f,false⟩) (Nv.nm ⟨g',A',n',c',l',f',false⟩)=wholeR (I (ival g l) (ival g' l')).1 (I (ival g l) (ival g' l')).2 from rfl]
  generalize (I (ival g l) (ival g' l')).1=z at *
  generalize (I (ival g l) (ival g' l')).2=co at *
  have hrun:∀ (args:Array Value) (w:World),(callFunc fi args).run Tryz.prog w = .ok (.enter fi args) w:=hfb
  clear HI HF hC hfb
  go_enter Tryz.func107,Tryz.ntmps107
  go_upto_region 1 with fail
  generalize ((w.alloc (.cells #[.bool g,.slice A n c,.float .f64 f,.bool false] 70)).alloc (.cells #[.bool g',.slice A' n' c',.float .f64 f',.bool false] 70)).alloc (.cells #[.bool false,.slice none 0 0,.float .f64 0,.bool false] 70)=w0 at *
  go_wp2_with fail
  (with_reducible refine (HC.out _ HB.out).mono ?_)
  rintro e w1 ⟨hb1,g1,A1,n1,c1,l1,rfl,hv1⟩
  go_wp2_with fail
  (with_reducible refine (whole_ok w1 hv1).mono ?_)
  rintro e w2 ⟨hb2,q,ev,rfl,ho2⟩
  have hX2:=(HX.out.below hb1 HX.out.lt).below hb2 (Nat.lt_of_lt_of_le HX.out.lt hb1.size)
  obtain ⟨c0,c1',c2,c3⟩:=hX2.cells
  obtain ⟨z0,z1,z2,z3⟩:=hX2.frozens
  have hS:=hX2.set4 q
  have HB2:=Lib.hid (HB.out.trans ((hb1.trans (hb2.mono hb1.size)).mono HB.out.size))
  have hs1:=hb1.size
  have HO2:=Lib.hid (ho2.lower HB.out.size hs1)
  clear hb1 hb2 hv1 ho2 hs1 a0 a1 a2 a3 b0 b1 b2 b3
  obtain ⟨gq,Aq,nq,cq,lq,fq,bq⟩:=q
  simp only [nought] at c0 c1' c2 c3 hS
  simp only [Nv.v,Nv.vals]
  go_wp2_with fail
  obtain ⟨r0,r1,r2,r3⟩:=hS.1.cells
  simp only at r0 r1 r2 r3
  refine bodyPost_ret (v:=.tuple #[.agg #[.bool gq,.slice Aq nq cq,.float .f64 fq,.bool bq],ev]) (by simp [results,Tryz.results107,go_sem,r0,r1,r2,r3]) rfl ?_
  have hz:=HZ.out
  exact NPost.fin (q:=⟨gq,Aq,nq,cq,lq,fq,bq⟩) HB2.out (by omega) hX2 (HO2.out.lower (Nat.le_refl _) (by omega)) hS.2
 ·have hfl:(∃ x,Nv.nm ⟨g,A,n,c,l,f,b⟩ = .flo x)∨(∃ x,Nv.nm ⟨g',A',n',c',l',f',b'⟩ = .flo x):=by
   cases b
   ·cases b'
    ·exact absurd ⟨rfl,rfl⟩ hbb
    ·exact .inr ⟨f',rfl⟩
   ·exact .inl ⟨f,rfl⟩
  rw [bothR_flo hfl]
  obtain ⟨ff,rfl,hfb,hC⟩:=HF.out hfl
  have HC:=Lib.hid hC
  have hrun:∀ (args:Array Value) (w:World),(callFunc ff args).run Tryz.prog w = .ok (.enter ff args) w:=hfb
  have HF1:=Lib.hid (fun (y:World) (hy:Below w.heap.size w y)=>floated_ok (HQ1.out.up hy))
  have HF2:=Lib.hid (fun (y:World) (hy:Below w.heap.size w y)=>floated_ok (HQ2.out.up hy))
  simp only [Nv.v,Nv.vals] at HF1 HF2
  generalize Nv.nm ⟨g,A,n,c,l,f,b⟩=x1 at *
  generalize Nv.nm ⟨g',A',n',c',l',f',b'⟩=x2 at *
  clear HI HF hC hfb hfl HQ1 HQ2
  have HRx:=Lib.hid (fun R (h:(match floR x1 with | none=>Rs.bad (evT sOver) | some a=>match floR x2 with | none=>.bad (evT sOver) | some b=>flowR (Fo a b))=R)=>h)
  generalize hR:(match floR x1 with | none=>Rs.bad (evT sOver) | some a=>match floR x2 with | none=>.bad (evT sOver) | some b=>flowR (Fo a b))=R
  have HR:=Lib.hid hR
  clear HRx hR
  have key:∀ (k:Bool),k=(!b && !b')→k=false:=fun k h=>by
   cases b <;> cases b' <;> first | exact absurd ⟨rfl,rfl⟩ hbb | exact h
  clear key
  cases b
  all_goals cases b'
  case neg.false.false=>exact absurd ⟨rfl,rfl⟩ hbb
  all_goals
   clear hbb
   go_enter Tryz.func107,Tryz.ntmps107
   go_upto_region 1 with fail
   generalize ((w.alloc (.cells #[.bool g,.slice A n c,.float .f64 f,.bool _] 70)).alloc (.cells #[.bool g',.slice A' n' c',.float .f64 f',.bool _] 70)).alloc (.cells #[.bool false,.slice none 0 0,.float .f64 0,.bool false] 70)=w0 at *
   go_wp2_with fail
   (with_reducible refine (HF1.out _ HB.out).mono ?_)
   rintro e w1 ⟨hb1,F1,v1,rfl,hv1⟩
   have HB1:=Lib.hid hb1
   clear hb1
   rcases hv1 with ⟨e1,e2,rfl⟩ | ⟨e1,hv1⟩
   rotate_left
   ·obtain ⟨gg,rfl⟩:=hv1.iface
    have hX2:=HX.out.below HB1.out HX.out.lt
    obtain ⟨c0,c1',c2,c3⟩:=hX2.cells
    obtain ⟨z0,z1,z2,z3⟩:=hX2.frozens
    have hS:=hX2.set4 nought
    simp only [nought] at c0 c1' c2 c3 hS
    have HV:=Lib.hid hv1
    clear hv1
    go_wp2_with fail
    obtain ⟨r0,r1,r2,r3⟩:=hS.1.cells
    simp only at r0 r1 r2 r3
    refine bodyPost_ret (v:=.tuple #[.agg #[.bool false,.slice none 0 0,.float .f64 0,.bool false],.iface 95 (.pointer (some ⟨gg,0,none⟩))]) (by simp [results,Tryz.results107,go_sem,r0,r1,r2,r3]) rfl ?_
    have hz:=HZ.out
    have hs1:=HB1.out.size
    have hr:=HR.out
    rw [e1] at hr
    rw [←hr]
    exact NPost.fin (q:=nought) (HB.out.trans (HB1.out.mono HB.out.size)) (by omega) hX2 (.inr ⟨_,rfl,rfl,HV.out.lower (by omega)⟩) hS.2
   have HE1:=Lib.hid (And.intro e1 e2)
   clear e1 e2
   obtain ⟨b0,b1,b2,b3⟩:=(HBx.out.below HB1.out HBx.out.lt).cells
   simp only at b0 b1 b2 b3
   clear a0 a1 a2 a3
   go_wp2_with fail
   (with_reducible refine (HF2.out _ (HB.out.trans (HB1.out.mono HB.out.size))).mono ?_)
   rintro e w2 ⟨hb2,F2,v2,rfl,hv2⟩
   have HB2:=Lib.hid hb2
   clear hb2
   rcases hv2 with ⟨e1,e2,rfl⟩ | ⟨e1,hv2⟩
   rotate_left
   ·obtain ⟨gg,rfl⟩:=hv2.iface
    have hX2:=(HX.out.below HB1.out HX.out.lt).below HB2.out (Nat.lt_of_lt_of_le HX.out.lt HB1.out.size)
    obtain ⟨c0,c1',c2,c3⟩:=hX2.cells
    obtain ⟨z0,z1,z2,z3⟩:=hX2.frozens
    have hS:=hX2.set4 nought
    simp only [nought] at c0 c1' c2 c3 hS
    have HV:=Lib.hid hv2
    clear hv2
    go_wp2_with fail
    obtain ⟨r0,r1,r2,r3⟩:=hS.1.cells
    simp only at r0 r1 r2 r3
    refine bodyPost_ret (v:=.tuple #[.agg #[.bool false,.slice none 0 0,.float .f64 0,.bool false],.iface 95 (.pointer (some ⟨gg,0,none⟩))]) (by simp [results,Tryz.results107,go_sem,r0,r1,r2,r3]) rfl ?_
    have hz:=HZ.out
    have hs1:=HB1.out.size
    have hr:=HR.out
    rw [HE1.out.1,e1] at hr
    rw [←hr]
    exact NPost.fin (q:=nought) ((HB.out.trans (HB1.out.mono HB.out.size)).trans (HB2.out.mono (by have:=HB.out.size;omega))) (by omega) hX2 (.inr ⟨_,rfl,rfl,HV.out.lower (by omega)⟩) hS.2
   obtain ⟨hn,hc⟩:=HC.out F1 F2 HE1.out.1 e1
   have HN:=Lib.hid hn
   have HCc:=Lib.hid hc
   have HRr:=Lib.hid (show flowR (Fo F1 F2)=R from by have hr:=HR.out;rw [HE1.out.1,e1] at hr;exact hr)
   clear HC HE1 e1 e2 hn hc b0 b1 b2 b3
   go_wp2_with fail
   (with_reducible refine (HCc.out _).mono ?_)
   rintro e w3 ⟨rfl,rfl⟩
   go_wp2_with fail
   (with_reducible refine (flow_ok HN.out _).mono ?_)
   rintro e w3 ⟨hb3,q,ev,rfl,ho3⟩
   have hw2:=HB2.out.size
   have hw1:=HB1.out.size
   have hX2:=((HX.out.below HB1.out HX.out.lt).below HB2.out (Nat.lt_of_lt_of_le HX.out.lt hw1)).below hb3 (Nat.lt_of_lt_of_le HX.out.lt (by omega))
   obtain ⟨c0,c1',c2,c3⟩:=hX2.cells
   obtain ⟨z0,z1,z2,z3⟩:=hX2.frozens
   have hS:=hX2.set4 q
   have hw0:=HB.out.size
   have HB3:=Lib.hid ((HB.out.trans (HB1.out.mono hw0)).trans ((HB2.out.trans (hb3.mono hw2)).mono (by omega)))
   have HO3:=Lib.hid (ho3.lower (show w.heap.size≤_ by have:=HZ.out;omega) (show w.heap.size+1+1+1≤_ by have:=HZ.out;omega))
   clear hb3 ho3 hw1 hw2 hw0
   obtain ⟨gq,Aq,nq,cq,lq,fq,bq⟩:=q
   simp only [nought] at c0 c1' c2 c3 hS
   simp only [Nv.v,Nv.vals]
   go_wp2_with fail
   obtain ⟨r0,r1,r2,r3⟩:=hS.1.cells
   simp only at r0 r1 r2 r3
   refine bodyPost_ret (v:=.tuple #[.agg #[.bool gq,.slice Aq nq cq,.float .f64 fq,.bool bq],ev]) (by simp [results,Tryz.results107,go_sem,r0,r1,r2,r3]) rfl ?_
   have hz:=HZ.out
   rw [←HRr.out]
   exact NPost.fin (q:=⟨gq,Aq,nq,cq,lq,fq,bq⟩) HB3.out (by omega) hX2 HO3.out hS.2
def nmOf (t:Tm):Option Nm:=if t.k=3 then some (.int (pVal t.m 10)) else if t.k=4 then some (.flo t.b.toNat) else none
def RdOk (t:Tm):Prop:=(t.k=3→pCode t.m 10=0)∧(t.k=4→floB t.b=true)
def RdPost (w:World) (t:Tm) (e:Ending) (w':World):Prop:=Below w.heap.size w w'∧∃ (q:Nv) (ok:Bool),e = .returned (.tuple #[q.v,.bool ok])∧q.At w' (fun b=>w.heap.size≤b∧b<w'.heap.size)∧((ok=true∧nmOf t=some q.nm)∨(ok=false∧nmOf t=none))
theorem floB_flo {b:Int} (h:floB b=true) (h0:0≤b) (h1:b<18446744073709551616):Flo64 b.toNat:=by
 unfold floB floN at h
 simp only [Bool.and_eq_true,decide_eq_true_eq] at h
 exact ⟨⟨h.1,by omega⟩,h.2⟩
theorem short_len {z:Int} (h:tooLong z=false):(digs W z.natAbs).length≤10000:=by
 unfold tooLong at h
 have h1:blen z.natAbs≤4096:=by simpa using h
 exact Nat.le_trans (digs_W_le h1) (by decide)
theorem ival_digs0 (z:Int):ival (decide (z<0)) (digs W z.natAbs)=z:=by
 unfold ival
 rw [nv_digs (by decide)]
 by_cases h:z<0
 ·rw [if_pos (by simpa using h)];omega
 ·rw [if_neg (by simpa using h)];omega
theorem ResI.num {w:World} {B:Nat} {v:Value} {z:Int} (h:ResI w B v z) (hz:tooLong z=false):∃ g A n c l,v = .agg #[.bool g,.slice A n c]∧LimP w (fun b=>B≤b∧b<w.heap.size) A n c l∧n≤10000∧ival g l=z:=by
 obtain ⟨A,c,hv,ho⟩:=h
 exact ⟨_,A,_,c,_,hv,(LimP.of_own ho (dig_digs (by decide) _)),short_len hz,ival_digs0 z⟩
theorem PostC.num {w w':World} {z co:Int} {e:Ending} (h:PostC w z co e w') (hz:co=0→tooLong z=false):IPost w z co e w':=by
 obtain ⟨v,he,h1,h2,hb⟩:=h
 refine ⟨hb,?_⟩
 by_cases hc:co=0
 ·obtain ⟨g,A,n,c,l,rfl,e1,e2,e3⟩:=(h1 hc).num (hz hc)
  exact ⟨g,A,n,c,l,he,fun _=>⟨e1,e2,e3,hz hc⟩⟩
 ·have:=h2 hc
  subst this
  exact ⟨false,none,0,0,[],he,fun h=>absurd h hc⟩
set_option maxRecDepth 100000 in
set_option maxHeartbeats 2000000 in
theorem read_ok {t:Tm} {sl:Value} {w:World} (h:TAt w w.heap.size t sl) (ho:RdOk t):Calls Tryz.prog 32 #[valT t sl] w (RdPost w t):=by
 obtain ⟨k,nl,ml,b,v,ts,nb,mb,A,c,rfl,rfl,hnb,hmb,hl1,hl2,hl3,hv,hs1,hs2⟩:=h.letters
 have hok:=h.ok
 have hob:0≤b∧b<18446744073709551616:=hok.2.2.1
 rw [hv]
 have hX1:TBox (w.alloc (.cells #[.int .i64 k,.string nb,.string mb,.int .u64 b,.int .i64 v,.slice A ts.length c] 25)) w.heap.size (.mk k nl ml b v ts) (.slice A ts.length c):=TBox.new w hnb hmb
 have hB1:Below w.heap.size w (w.alloc (.cells #[.int .i64 k,.string nb,.string mb,.int .u64 b,.int .i64 v,.slice A ts.length c] 25)):=(Below.refl _ _).alloc (Nat.le_refl _) _
 have hZ1:=World.size_alloc w (.cells #[.int .i64 k,.string nb,.string mb,.int .u64 b,.int .i64 v,.slice A ts.length c] 25)
 have hX0:=NBox.new (w.alloc (.cells #[.int .i64 k,.string nb,.string mb,.int .u64 b,.int .i64 v,.slice A ts.length c] 25)) nought
 have hB2:=hB1.alloc hB1.size (.cells nought.vals.toArray 70)
 have hZ2:=World.size_alloc (w.alloc (.cells #[.int .i64 k,.string nb,.string mb,.int .u64 b,.int .i64 v,.slice A ts.length c] 25)) (.cells nought.vals.toArray 70)
 have hX1c:=hX1.below ((Below.refl _ _).alloc (Nat.le_refl _) (.cells nought.vals.toArray 70))
 rw [hZ1] at hX0 hZ2
 obtain ⟨x0,x1,x2,x3,x4,x5⟩:=hX1c.cells hnb hmb
 have HX:=Lib.hid hX0
 have HB:=Lib.hid hB2
 have HZ:=Lib.hid hZ2
 have HO:=Lib.hid (show (k=3→pCode ml 10=0)∧(k=4→floB b=true) from ho)
 have HM:=Lib.hid (show mb.data.toList=ml from by rw [←hmb])
 have HS2:=Lib.hid hs2
 simp only [nought,Nv.vals] at HX HB HZ x0 x1 x2 x3 x4 x5
 obtain ⟨q,hq⟩:∃ q,ts.length=q:=⟨_,rfl⟩
 rw [hq] at HX HB HZ x0 x1 x2 x3 x4 x5 ⊢
 clear hX1 hB1 hZ1 hX0 hB2 hZ2 hX1c h hok ho hv hl1 hl2 hl3 hs1 hs2 hnb hmb hq
 by_cases h3:k=3
 ·subst h3
  have HN:=Lib.hid (show nmOf (.mk 3 nl ml b v ts)=some (.int (pVal ml 10)) from rfl)
  have hcode:=HO.out.1 rfl
  have hP:∀ y:World,Calls Tryz.prog 18 #[.string mb,.int .i64 10] y (IPost y (pVal ml 10) 0):=fun y=>by
   have:=Parse_any mb 10 y HS2.out
   rw [HM.out,hcode] at this
   exact this.mono fun e w' hh=>hh.num (fun _=>code_ok hcode)
  have HP:=Lib.hid hP
  clear HO hcode hP
  go_enter Tryz.func32,Tryz.ntmps32
  go_upto_region 1 with fail
  generalize (w.alloc (.cells #[.int .i64 3,.string nb,.string mb,.int .u64 b,.int .i64 v,.slice A q c] 25)).alloc (.cells #[.bool false,.slice none 0 0,.float .f64 0,.bool false] 70)=w0 at *
  go_upto_region 3 with fail
  go_wp2_with fail
  (with_reducible refine (HP.out _).mono ?_)
  rintro e w1 ⟨hb1,g1,A1,n1,c1,l1,rfl,hv1⟩
  have HK1:=Lib.hid (KBox.new w1 g1 A1 n1 c1)
  have HBk:=Lib.hid (show Below w1.heap.size w1 (w1.alloc (.cells #[.bool g1,.slice A1 n1 c1] 39)) from (Below.refl _ _).alloc (Nat.le_refl _) _)
  have HZk:=Lib.hid (World.size_alloc w1 (.cells #[.bool g1,.slice A1 n1 c1] 39))
  have hX2:=(HX.out.below hb1 HX.out.lt).below HBk.out (Nat.lt_of_lt_of_le HX.out.lt hb1.size)
  have HV:=Lib.hid (hv1 rfl)
  have HB1:=Lib.hid hb1
  clear hb1 hv1 x0 x1 x2 x3 x4 x5
  go_upto_region 4 with fail
  generalize w1.alloc (.cells #[.bool g1,.slice A1 n1 c1] 39)=w2 at *
  obtain ⟨k0,k1⟩:=HK1.out.cells
  obtain ⟨c0,c1',c2,c3⟩:=hX2.cells
  obtain ⟨z0,z1,z2,z3⟩:=hX2.frozens
  have hS:=hX2.set4 ⟨g1,A1,n1,c1,l1,0,false⟩
  simp only [nought] at c0 c1' c2 c3 hS
  go_wp2_with fail
  obtain ⟨r0,r1,r2,r3⟩:=hS.1.cells
  simp only at r0 r1 r2 r3
  refine bodyPost_ret (v:=.tuple #[.agg #[.bool g1,.slice A1 n1 c1,.float .f64 0,.bool false],.bool true]) (by simp [results,Tryz.results32,go_sem,r0,r1,r2,r3]) rfl ?_
  have hz:=HZ.out
  have hs1:=HB1.out.size
  have hs2:=HBk.out.size
  have hs0:=HB.out.size
  obtain ⟨e1,e2,e3,e4⟩:=HV.out
  have hat:Nv.At w2 (fun b=>w.heap.size≤b∧b<w2.heap.size) ⟨g1,A1,n1,c1,l1,0,false⟩:=⟨e1.keep (fun b hb=>⟨by omega,HBk.out.block b hb.2⟩),e2,flo0,by rw [show ival _ _=_ from e3];exact e4⟩
  have hnm:Nv.nm ⟨g1,A1,n1,c1,l1,0,false⟩ = .int (pVal ml 10):=by unfold Nv.nm;simp only [Bool.false_eq_true,if_false];rw [e3]
  refine ⟨((HB.out.trans (HB1.out.mono hs0)).trans (HBk.out.mono (by omega))).grown hS.2 (by omega) (fun j e=>by injection e with e;omega),⟨g1,A1,n1,c1,l1,0,false⟩,true,rfl,(hat.gro (fun b h=>h.2) hX2 hS.2).wide (fun b h=>⟨h.1,Nat.lt_of_lt_of_le h.2 hS.2.size⟩),.inl ⟨rfl,by rw [hnm];exact HN.out⟩⟩
 ·have d3:(k==3)=false:=beq_eq_false_iff_ne.2 h3
  by_cases h4:k=4
  ·subst h4
   obtain ⟨F,hF⟩:∃ F:Nat,b=(F:Int):=⟨b.toNat,by omega⟩
   subst hF
   have HN:=Lib.hid (show nmOf (.mk 4 nl ml (F:Int) v ts)=some (.flo F) from by
    show some (Nm.flo (F:Int).toNat)=_
    rw [Int.toNat_natCast])
   have HG:=Lib.hid (show Flo64 F from by have:=floB_flo (HO.out.2 rfl) hob.1 hob.2;rwa [Int.toNat_natCast] at this)
   have hb:=run_frombits F
   obtain ⟨c0,c1',c2,c3⟩:=HX.out.cells
   obtain ⟨z0,z1,z2,z3⟩:=HX.out.frozens
   have hS:=HX.out.set4 (flv F)
   simp only [flv] at c0 c1' c2 c3 hS
   clear HO
   go_enter Tryz.func32,Tryz.ntmps32
   go_upto_region 1 with fail
   generalize (w.alloc (.cells #[.int .i64 4,.string nb,.string mb,.int .u64 (F:Int),.int .i64 v,.slice A q c] 25)).alloc (.cells #[.bool false,.slice none 0 0,.float .f64 0,.bool false] 70)=w0 at *
   go_wp2_with fail
   obtain ⟨r0,r1,r2,r3⟩:=hS.1.cells
   simp only at r0 r1 r2 r3
   refine bodyPost_ret (v:=.tuple #[.agg #[.bool false,.slice none 0 0,.float .f64 F,.bool true],.bool true]) (by simp [results,Tryz.results32,go_sem,r0,r1,r2,r3]) rfl ?_
   have hz:=HZ.out
   exact ⟨HB.out.grown hS.2 HB.out.size (fun j e=>by injection e with e;omega),flv F,true,rfl,flv_at _ _ HG.out,.inl ⟨rfl,HN.out⟩⟩
  ·have d4:(k==4)=false:=beq_eq_false_iff_ne.2 h4
   have HN:=Lib.hid (show nmOf (.mk k nl ml b v ts)=none from by
    show (if k=3 then some (Nm.int (pVal ml 10)) else if k=4 then some (.flo b.toNat) else none)=none
    rw [if_neg h3,if_neg h4])
   obtain ⟨c0,c1',c2,c3⟩:=HX.out.cells
   obtain ⟨z0,z1,z2,z3⟩:=HX.out.frozens
   have hS:=HX.out.set4 nought
   simp only [nought] at c0 c1' c2 c3 hS
   clear HO
   go_enter Tryz.func32,Tryz.ntmps32
   go_upto_region 1 with fail
   generalize (w.alloc (.cells #[.int .i64 k,.string nb,.string mb,.int .u64 b,.int .i64 v,.slice A q c] 25)).alloc (.cells #[.bool false,.slice none 0 0,.float .f64 0,.bool false] 70)=w0 at *
   go_wp2_with fail
   obtain ⟨r0,r1,r2,r3⟩:=hS.1.cells
   simp only at r0 r1 r2 r3
   refine bodyPost_ret (v:=.tuple #[.agg #[.bool false,.slice none 0 0,.float .f64 0,.bool false],.bool false]) (by simp [results,Tryz.results32,go_sem,r0,r1,r2,r3]) rfl ?_
   have hz:=HZ.out
   exact ⟨HB.out.grown hS.2 HB.out.size (fun j e=>by injection e with e;omega),nought,false,rfl,nought_at _ _,.inr ⟨rfl,HN.out⟩⟩
end
section
open Go Go.RowKit
section
variable {P:Program} {md:Region.Mode} {ops:Array Oper} {Q:Exit→Act→World→Prop} {S:World→Prop} {st:Nat}
def flAll:List Nat→Array Bool→Array Bool
 | [],l=>l
 | i :: E,l=>(flAll E l).setIfInBounds i true
def flL (D:Nat→Option Nat):List Nat→Array Bool→Array Bool
 | [],l=>l
 | i :: E,l=>if (D i).isSome then (flL D E l).setIfInBounds i true else flL D E l
def flA (ops:Array Oper) (D:Nat→Option Nat):List Nat→Act→Act
 | [],a=>a
 | i :: E,a=>match D i with
  | some H=>(flA ops D E a).put ((ops[i]?).bind (·.dst)) (.pointer (some ⟨H,0,none⟩))
  | none=>flA ops D E a
def pend (md:Region.Mode) (ops:Array Oper) (listed:Array Bool) (E:List Nat):List Nat:=
 (List.range ops.size).filter fun i=>!E.contains i && !listed.getD i true && ((ops[i]?).map fun o=>(o.after.all fun e=>!Region.binds md e || listed.getD e.on false || E.contains e.on) && E.any fun f=>o.after.all fun e=>!Region.binds md e || e.on != f).getD false
def farFrom (ops:Array Oper) (E:List Nat) (o:Oper):Bool:=E.all fun f=>match (ops[f]?).bind (·.dst) with
 | some d=>!(o.looksAt ops).contains d && o.dst != some d
 | none=>true
def floatsB (md:Region.Mode) (ops:Array Oper):List Nat→Bool
 | []=>true
 | i :: E=>!E.contains i && (match ops[i]? with
  | some o=>o.guard.isNone && (o.after.all fun e=>!Region.binds md e) && (match o.dst with
   | some d=>E.all fun j=>(ops[j]?).bind (·.dst) != some d
   | none=>false)
  | none=>false) && floatsB md ops E
def FloatRun (P:Program) (ops:Array Oper) (E:List Nat) (obj:Nat→Obj):Prop:=∀ i∈E,∀ o,ops[i]?=some o→∀ (a:Act) (w:World),(execOp a.eval o).run P w = .ok (.value (.pointer (some ⟨w.heap.size,0,none⟩))) (w.alloc (obj i))
theorem flL_getD (D:Nat→Option Nat) {j:Nat} {d:Bool} {l:Array Bool} : ∀ E:List Nat,((E.contains j && (D j).isSome)=false)→(flL D E l).getD j d=l.getD j d
 | [],_=>rfl
 | i :: E,h=>by
  have h':(E.contains j && (D j).isSome)=false:=by
   rw [List.contains_cons] at h
   cases hc:(D j).isSome
   ·simp
   ·rw [hc] at h;simp at h;simp [h.2]
  unfold flL
  split
  ·rename_i hs
   have hne:i≠j:=fun e=>by subst e;simp [hs] at h
   rw [getD_set_ne d hne];exact flL_getD D E h'
  ·exact flL_getD D E h'
theorem flL_or (D:Nat→Option Nat) {j:Nat} {l:Array Bool} : ∀ E:List Nat,(flL D E l).getD j false=true→l.getD j false=true∨(j∈E∧(D j).isSome=true)
 | [],h=>.inl h
 | i :: E,h=>by
  unfold flL at h
  split at h
  ·rename_i hs
   by_cases hij:i=j
   ·subst hij;exact .inr ⟨List.mem_cons_self,hs⟩
   ·rw [getD_set_ne false hij] at h
    exact (flL_or D E h).imp id fun h=>⟨List.mem_cons_of_mem _ h.1,h.2⟩
  ·exact (flL_or D E h).imp id fun h=>⟨List.mem_cons_of_mem _ h.1,h.2⟩
theorem flL_set (D:Nat→Option Nat) {j:Nat} {l:Array Bool} : ∀ E:List Nat,j∉E→flL D E (l.setIfInBounds j true)=(flL D E l).setIfInBounds j true
 | [],_=>rfl
 | i :: E,h=>by
  have h1:j∉E:=fun h'=>h (List.mem_cons_of_mem _ h')
  have h2:i≠j:=fun e=>h (e ▸ List.mem_cons_self)
  unfold flL
  split
  ·rw [flL_set D E h1,Array.setIfInBounds_comm _ _ (Ne.symm h2)]
  ·exact flL_set D E h1
theorem flL_all (D:Nat→Option Nat) {l:Array Bool} : ∀ E:List Nat,(∀ i∈E,(D i).isSome=true)→flL D E l=flAll E l
 | [],_=>rfl
 | i :: E,h=>by
  unfold flL flAll
  rw [if_pos (h i List.mem_cons_self),flL_all D E fun j hj=>h j (List.mem_cons_of_mem _ hj)]
def upd (D:Nat→Option Nat) (i H:Nat):Nat→Option Nat:=fun j=>if j=i then some H else D j
theorem flL_same {D D':Nat→Option Nat} {l:Array Bool} : ∀ E:List Nat,(∀ j∈E,D j=D' j)→flL D E l=flL D' E l
 | [],_=>rfl
 | i :: E,h=>by
  unfold flL
  rw [h i List.mem_cons_self,flL_same E fun j hj=>h j (List.mem_cons_of_mem _ hj)]
theorem flA_same {D D':Nat→Option Nat} {a:Act} : ∀ E:List Nat,(∀ j∈E,D j=D' j)→flA ops D E a=flA ops D' E a
 | [],_=>rfl
 | i :: E,h=>by
  unfold flA
  rw [h i List.mem_cons_self,flA_same E fun j hj=>h j (List.mem_cons_of_mem _ hj)]
theorem flL_upd {D:Nat→Option Nat} {i H:Nat} {l:Array Bool} : ∀ E:List Nat,floatsB md ops E=true→i∈E→D i=none→flL (upd D i H) E l=(flL D E l).setIfInBounds i true
 | [],_,hi,_=>by cases hi
 | k :: E,hf,hi,hn=>by
  simp only [floatsB,Bool.and_eq_true,Bool.not_eq_true'] at hf
  have hk:k∉E:=by simpa using hf.1.1
  by_cases hki:k=i
  ·subst hki
   unfold flL
   rw [hn]
   simp only [upd,if_pos,Option.isSome_some,Option.isSome_none,Bool.false_eq_true,if_false]
   rw [flL_same (D:=upd D k H) (D':=D) E fun j hj=>if_neg (fun e:j=k=>hk (by rw [←e];exact hj))]
  ·have hi':i∈E:=(List.mem_cons.1 hi).resolve_left (Ne.symm hki)
   unfold flL
   have:upd D i H k=D k:=if_neg hki
   rw [this,flL_upd E hf.2 hi' hn]
   split
   ·rw [Array.setIfInBounds_comm _ _ (Ne.symm hki)]
   ·rfl
theorem floatsB_dst {i:Nat} : ∀ E:List Nat,floatsB md ops E=true→i∈E→∃ o d,ops[i]?=some o∧o.guard=none∧o.dst=some d∧(∀ e∈o.after,Region.binds md e=false)
 | [],_,hi=>by cases hi
 | k :: E,hf,hi=>by
  simp only [floatsB,Bool.and_eq_true] at hf
  rcases List.mem_cons.1 hi with rfl | hi
  ·have h:=hf.1.2
   cases ho:ops[i]? with
   | none=>rw [ho] at h;simp at h
   | some o=>
    rw [ho] at h
    simp only [Bool.and_eq_true] at h
    cases hd:o.dst with
    | none=>rw [hd] at h;simp at h
    | some d=>exact ⟨o,d,rfl,by simpa using h.1.1,hd,fun e he=>by have:=Array.all_eq_true'.1 h.1.2 e he;simpa using this⟩
  ·exact floatsB_dst E hf.2 hi
theorem flA_upd {D:Nat→Option Nat} {i H:Nat} {a:Act} : ∀ E:List Nat,floatsB md ops E=true→i∈E→D i=none→flA ops (upd D i H) E a=(flA ops D E a).put ((ops[i]?).bind (·.dst)) (.pointer (some ⟨H,0,none⟩))
 | [],_,hi,_=>by cases hi
 | k :: E,hf,hi,hn=>by
  simp only [floatsB,Bool.and_eq_true,Bool.not_eq_true'] at hf
  have hk:k∉E:=by simpa using hf.1.1
  by_cases hki:k=i
  ·subst hki
   unfold flA
   rw [hn]
   have:upd D k H k=some H:=if_pos rfl
   rw [this]
   simp only
   rw [flA_same (D:=upd D k H) (D':=D) E fun j hj=>if_neg (fun e:j=k=>hk (by rw [←e];exact hj))]
  ·have hi':i∈E:=(List.mem_cons.1 hi).resolve_left (Ne.symm hki)
   unfold flA
   have:upd D i H k=D k:=if_neg hki
   rw [this,flA_upd E hf.2 hi' hn]
   split
   ·rw [Act.put_comm]
    intro d hd he
    have h:=hf.1.2
    cases ho:ops[k]? with
    | none=>rw [ho] at h;simp at h
    | some o=>
     rw [ho] at h he
     simp only [Bool.and_eq_true] at h
     have he':o.dst=some d:=he
     rw [he'] at h
     have:=List.all_eq_true.1 h.2 i hi'
     rw [hd] at this
     simp at this
   ·rfl
theorem wpOp_under {j:Nat} {oj:Oper} {d:Tmp} {v:Value} (hj:ops[j]?=some oj) (hsj:∀ cs b,oj.op ≠ .select cs b) (hlook:d∉oj.looksAt ops) (hdst:oj.dst≠some d)
  (hQ:∀ c (a:Act) d v w,Q (.panic c) a w→Q (.panic c) (a.put (some d) v) w) {K:Act→World→Prop} {a:Act} {w:World} (h:wpOp P ops Q j (fun a' w'=>K (a'.put (some d) v) w') a w) :
  wpOp P ops Q j K (a.put (some d) v) w:=by
 have h1:∀ d',some d=some d'→d'∉oj.looksAt ops:=fun d' e=>by injection e with e;exact e ▸ hlook
 have h2:∀ d',oj.dst=some d'→some d≠some d':=fun d' e e2=>hdst (e.trans e2.symm)
 unfold wpOp at *
 simp only [hj] at *
 rw [wanted_put oj a (some d) v h1]
 split
 ·rename_i hw
  simp only [hw,if_true] at h
  rcases h with h | ⟨hasks,hlets⟩
  case inr=>exact .inr ⟨by unfold Oper.asks at *;rw [execOp_put oj hsj a (some d) v h1];exact hasks,hlets⟩
  refine .inl ?_
  unfold Oper.wp at *
  rw [execOp_put oj hsj a (some d) v h1]
  generalize (execOp a.eval oj).run P w=r at *
  cases r with
  | ok n w'=>
   cases n <;> simp only [Oper.upon] at h ⊢
   case value u=>rw [←Act.put_comm a u v h2];exact h
   case skip=>rw [←Act.put_comm a undef v h2];exact h
   case defer dd=>
    rw [Act.put_defers,←Act.put_comm _ undef v h2]
    exact h
   case enter f args=>
    refine Calls.mono h fun e w'' he=>?_
    cases e with
    | returned u=>
     show K ((a.put (some d) v).put oj.dst u) w''
     rw [←Act.put_comm a u v h2];exact he
    | panicked c=>exact hQ _ _ _ _ _ he
    | outgrown=>exact he
   case row row args=>exact Rows.mono h fun u w'' he=>by rw [←Act.put_comm a u v h2];exact he
  | halt x w'=>
   cases x <;> simp only [Oper.upon] at h ⊢
   case panic u=>exact hQ _ _ _ _ _ h
 ·rename_i hw
  simp only [hw] at h
  rw [←Act.put_comm a undef v h2];exact h
theorem farFrom_spec {o:Oper} : ∀ E:List Nat,farFrom ops E o=true→∀ f∈E,∀ d,(ops[f]?).bind (·.dst)=some d→d∉o.looksAt ops∧o.dst≠some d:=fun E h f hf d hd=>by
 have h1:=List.all_eq_true.1 h f hf
 rw [hd] at h1
 simpa using h1
theorem wpOp_far {j:Nat} {oj:Oper} (hj:ops[j]?=some oj) (hsj:∀ cs b,oj.op ≠ .select cs b) (hQ:∀ c (a:Act) d v w,Q (.panic c) a w→Q (.panic c) (a.put (some d) v) w) (D:Nat→Option Nat) :
  ∀ (E:List Nat),floatsB md ops E=true→farFrom ops E oj=true→∀ {K:Act→World→Prop} {a:Act} {w:World},wpOp P ops Q j (fun a' w'=>K (flA ops D E a') w') a w→wpOp P ops Q j K (flA ops D E a) w
 | [],_,_,_,_,_,h=>h
 | i :: E,hf,hfar,K,a,w,h=>by
  have hff:=hf
  have hfar':=farFrom_spec _ hfar i List.mem_cons_self
  simp only [floatsB,Bool.and_eq_true] at hf
  simp only [farFrom,List.all_cons,Bool.and_eq_true] at hfar
  obtain ⟨o,d,ho,_,hd,_⟩:=floatsB_dst _ hff List.mem_cons_self
  have hod:(ops[i]?).bind (·.dst)=some d:=by rw [ho];exact hd
  unfold flA at h ⊢
  cases hD:D i with
  | none=>
   simp only [hD] at h ⊢
   exact wpOp_far hj hsj hQ D E hf.2 hfar.2 h
  | some H=>
   simp only [hD,hod] at h ⊢
   exact wpOp_under hj hsj (hfar' d hod).1 (hfar' d hod).2 hQ (wpOp_far hj hsj hQ D E hf.2 hfar.2 (K:=fun a' w'=>K (a'.put (some d) _) w') h)
def FlOk (E:List Nat) (obj:Nat→Obj) (D:Nat→Option Nat) (w:World) (G:Nat→Prop):Prop:=
 (∀ i∈E,∃ H,D i=some H∧w.heap[H]?=some (obj i)∧G H)∧∀ i∈E,∀ j∈E,i≠j→D i≠D j
def gapTo (G:Nat→Prop) (w w':World):Nat→Prop:=fun b=>G b∨(w.heap.size≤b∧b<w'.heap.size)
def wpAnyF (P:Program) (md:Region.Mode) (ops:Array Oper) (Q:Exit→Act→World→Prop) (S:World→Prop) (st:Nat) (E:List Nat) (obj:Nat→Obj):Nat→Array Bool→Act→World→(Nat→Prop)→Prop
 | 0,listed,a,w,G=>∀ w',Below w.heap.size w w'→S w' →
  (∀ D,FlOk E obj D w' (gapTo G w w')→wpAnyW P md ops Q S st 0 (flL D E listed) (flA ops D E a) w')∧pend md ops listed E = []
 | fuel+1,listed,a,w,G=>∀ w',Below w.heap.size w w'→S w' →
  (∀ D,FlOk E obj D w' (gapTo G w w')→wpAnyW P md ops Q S st (fuel+1) (flL D E listed) (flA ops D E a) w') ∧
  ∀ i∈pend md ops listed E,i∉E∧∃ o,ops[i]?=some o∧farFrom ops E o=true∧wpOp P ops Q i (fun a' w''=>Below w'.heap.size w' w''∧S w''∧wpAnyF P md ops Q S st E obj fuel (listed.setIfInBounds i true) a' w'' (gapTo G w w')) a w'
variable {E:List Nat} {obj:Nat→Obj}
theorem FlOk.more {D:Nat→Option Nat} {w:World} {G G':Nat→Prop} (h:FlOk E obj D w G) (hG:∀ b,G b→G' b):FlOk E obj D w G':=
 ⟨fun i hi=>let ⟨H,h1,h2,h3⟩:=h.1 i hi;⟨H,h1,h2,hG _ h3⟩,h.2⟩
theorem FlOk.below {D:Nat→Option Nat} {w w':World} {G:Nat→Prop} (h:FlOk E obj D w G) (hb:Below w.heap.size w w'):FlOk E obj D w' G:=
 ⟨fun i hi=>let ⟨H,h1,h2,h3⟩:=h.1 i hi;⟨H,h1,(hb.block H (Array.getElem?_eq_some_iff.1 h2).1).trans h2,h3⟩,h.2⟩
theorem gapTo_back {G:Nat→Prop} {w w1 w2:World} (h1:w.heap.size≤w1.heap.size) (h2:w1.heap.size≤w2.heap.size) (b:Nat) (h:gapTo (gapTo G w w1) w1 w2 b):gapTo G w w2 b:=by
 unfold gapTo at *
 rcases h with (h | h) | h
 ·exact .inl h
 ·exact .inr ⟨h.1,by omega⟩
 ·exact .inr ⟨by omega,h.2⟩
theorem wpAnyF_gap:∀ {fuel:Nat} {listed:Array Bool} {a:Act} {w:World} {G G':Nat→Prop},(∀ b,G' b→G b)→wpAnyF P md ops Q S st E obj fuel listed a w G→wpAnyF P md ops Q S st E obj fuel listed a w G'
 | 0,_,_,_,_,_,hG,h=>fun w' hb hS=>⟨fun D hD=>(h w' hb hS).1 D (hD.more fun b=>Or.imp (hG b) id),(h w' hb hS).2⟩
 | fuel+1,_,_,_,_,_,hG,h=>fun w' hb hS=>⟨fun D hD=>(h w' hb hS).1 D (hD.more fun b=>Or.imp (hG b) id),fun i hi=>let ⟨h1,o,h2,h3,h4⟩:=(h w' hb hS).2 i hi
   ⟨h1,o,h2,h3,wpOp_mono (fun a' w'' h=>⟨h.1,h.2.1,wpAnyF_gap (fun b=>Or.imp (hG b) id) h.2.2⟩) h4⟩⟩
theorem wpAnyF_later {fuel:Nat} {listed:Array Bool} {a:Act} {w w1:World} {G:Nat→Prop} (hb:Below w.heap.size w w1) (h:wpAnyF P md ops Q S st E obj fuel listed a w G):wpAnyF P md ops Q S st E obj fuel listed a w1 (gapTo G w w1):=by
 cases fuel with
 | zero=>
  intro w' hb' hS
  have h:=h w' (hb.trans (hb'.mono hb.size)) hS
  exact ⟨fun D hD=>h.1 D (hD.more (gapTo_back hb.size hb'.size)),h.2⟩
 | succ fuel=>
  intro w' hb' hS
  have h:=h w' (hb.trans (hb'.mono hb.size)) hS
  refine ⟨fun D hD=>h.1 D (hD.more (gapTo_back hb.size hb'.size)),fun i hi=>?_⟩
  obtain ⟨h1,o,h2,h3,h4⟩:=h.2 i hi
  exact ⟨h1,o,h2,h3,wpOp_mono (fun a' w'' h=>⟨h.1,h.2.1,wpAnyF_gap (gapTo_back hb.size hb'.size) h.2.2⟩) h4⟩
theorem flL_done {D:Nat→Option Nat} {i:Nat} {l:Array Bool} : ∀ E:List Nat,i∈E→(D i).isSome=true→(flL D E l).getD i true=true
 | [],h,_=>by cases h
 | k :: E,h,hs=>by
  have key:∀ (l':Array Bool),(l'.setIfInBounds i true).getD i true=true:=fun l'=>by
   rcases Nat.lt_or_ge i l'.size with h' | h'
   ·simp [h']
   ·simp [Array.getElem?_eq_none (show (l'.setIfInBounds i true).size≤i by simpa using h')]
  unfold flL
  by_cases hk:k=i
  ·subst hk
   rw [if_pos hs];exact key _
  ·have h1:i∈E:=(List.mem_cons.1 h).resolve_left (Ne.symm hk)
   split
   ·rw [getD_set_ne true hk];exact flL_done E h1 hs
   ·exact flL_done E h1 hs
theorem pend_of_ready {D:Nat→Option Nat} {i f:Nat} {l:Array Bool} (hf:f∈E) (hn:D f=none) (hl:l.getD f true=false) (hi:i∉E) (h:i∈Region.ready md ops (flL D E l)):i∈pend md ops l E:=by
 obtain ⟨h0,o,ho,hall⟩:=mem_ready.1 h
 have hlt:i<ops.size:=(Array.getElem?_eq_some_iff.1 ho).1
 have hc:E.contains i=false:=by simpa using hi
 rw [flL_getD D E (by simp [hi])] at h0
 unfold pend
 rw [List.mem_filter,List.mem_range]
 refine ⟨hlt,?_⟩
 rw [ho]
 simp only [Option.map_some,Option.getD_some,Bool.and_eq_true,Bool.not_eq_true']
 refine ⟨⟨hc,h0⟩,Array.all_eq_true'.2 fun e he=>?_,List.any_eq_true.2 ⟨f,hf,Array.all_eq_true'.2 fun e he=>?_⟩⟩
 ·cases hb:Region.binds md e with
  | false=>simp
  | true=>
   rcases flL_or D E (hall e he hb) with h | h
   ·simp [h]
   ·simp [h.1]
 ·cases hb:Region.binds md e with
  | false=>simp
  | true=>
   have h1:=hall e he hb
   by_cases hef:e.on=f
   ·rw [hef,flL_getD D E (by simp [hn])] at h1
    rcases Nat.lt_or_ge f l.size with h' | h'
    ·simp [h'] at hl h1;rw [hl] at h1;cases h1
    ·simp [Array.getElem?_eq_none h'] at h1
   ·simp [hef]
def outs (D:Nat→Option Nat):List Nat→Nat
 | []=>0
 | i :: E=>(if (D i).isSome then 0 else 1)+outs D E
theorem outs_zero {D:Nat→Option Nat} : ∀ E:List Nat,outs D E=0→∀ i∈E,∃ H,D i=some H
 | [],_,_,h=>by cases h
 | k :: E,h0,i,h=>by
  unfold outs at h0
  rcases List.mem_cons.1 h with rfl | h
  ·cases hD:D i with
   | none=>rw [hD] at h0;simp at h0
   | some H=>exact ⟨H,rfl⟩
  ·exact outs_zero E (by omega) i h
theorem outs_pos {D:Nat→Option Nat} : ∀ E:List Nat,outs D E≠0→∃ f∈E,D f=none
 | [],h=>absurd rfl h
 | k :: E,h=>by
  unfold outs at h
  cases hD:D k with
  | none=>exact ⟨k,List.mem_cons_self,hD⟩
  | some H=>
   rw [hD] at h
   obtain ⟨f,hf,hn⟩:=outs_pos E (by simpa using h)
   exact ⟨f,List.mem_cons_of_mem _ hf,hn⟩
theorem outs_same {D D':Nat→Option Nat} : ∀ E:List Nat,(∀ j∈E,D j=D' j)→outs D E=outs D' E
 | [],_=>rfl
 | i :: E,h=>by
  unfold outs
  rw [h i List.mem_cons_self,outs_same E fun j hj=>h j (List.mem_cons_of_mem _ hj)]
theorem outs_upd {D:Nat→Option Nat} {i H:Nat} : ∀ E:List Nat,floatsB md ops E=true→i∈E→D i=none→outs D E=outs (upd D i H) E+1
 | [],_,hi,_=>by cases hi
 | k :: E,hf,hi,hn=>by
  simp only [floatsB,Bool.and_eq_true,Bool.not_eq_true'] at hf
  have hk:k∉E:=by simpa using hf.1.1
  by_cases hki:k=i
  ·subst hki
   unfold outs
   rw [hn,outs_same (D:=upd D k H) (D':=D) E fun j hj=>if_neg (fun e:j=k=>hk (by rw [←e];exact hj))]
   simp [upd];omega
  ·have hi':i∈E:=(List.mem_cons.1 hi).resolve_left (Ne.symm hki)
   unfold outs
   have:upd D i H k=D k:=if_neg hki
   rw [this,outs_upd (H:=H) E hf.2 hi' hn]
   omega
theorem wpAnyF_core (hf:floatsB md ops E=true) (hrun:FloatRun P ops E obj) (hSs:∀ w w',Below w.heap.size w w'→S w→S w') (hsel:Region.noSelect ops=true)
  (hQ:∀ c (a:Act) d v w,Q (.panic c) a w→Q (.panic c) (a.put (some d) v) w) :
  ∀ (n fuel:Nat) (listed:Array Bool) (a:Act) (w:World) (G:Nat→Prop) (D:Nat→Option Nat),n=fuel+outs D E→(∀ i∈E,listed.getD i true=false) →
   (∀ i∈E,∀ H,D i=some H→w.heap[H]?=some (obj i)∧G H)→(∀ i∈E,∀ j∈E,i≠j→∀ H,D i=some H→D j≠some H)→S w →
   wpAnyF P md ops Q S st E obj fuel listed a w G→wpAnyW P md ops Q S st n (flL D E listed) (flA ops D E a) w:=by
 have full:∀ {D:Nat→Option Nat} {w:World} {G:Nat→Prop},outs D E=0→(∀ i∈E,∀ H,D i=some H→w.heap[H]?=some (obj i)∧G H)→(∀ i∈E,∀ j∈E,i≠j→∀ H,D i=some H→D j≠some H)→FlOk E obj D w (gapTo G w w):=fun h0 hD hne=>by
  refine ⟨fun i hi=>?_,fun i hi j hj hij e=>?_⟩
  ·obtain ⟨H,hH⟩:=outs_zero E h0 i hi
   exact ⟨H,hH,(hD i hi H hH).1,.inl (hD i hi H hH).2⟩
  ·obtain ⟨H,hH⟩:=outs_zero E h0 i hi
   exact hne i hi j hj hij H hH (e ▸ hH)
 intro n
 induction n with
 | zero=>
  intro fuel listed a w G D hn hl hD hne hS h
  obtain rfl:fuel=0:=by omega
  have h0:outs D E=0:=by omega
  exact (h w (Below.refl _ _) hS).1 D (full h0 hD hne)
 | succ n ih=>
  intro fuel listed a w G D hn hl hD hne hS h
  by_cases h0:outs D E=0
  ·obtain rfl:fuel=n+1:=by omega
   exact (h w (Below.refl _ _) hS).1 D (full h0 hD hne)
  ·obtain ⟨f,hfE,hfn⟩:=outs_pos E h0
   have hfr:f∈Region.ready md ops (flL D E listed):=by
    obtain ⟨o,d,ho,hg,hd,hafter⟩:=floatsB_dst E hf hfE
    exact mem_ready.2 ⟨by rw [flL_getD D E (by simp [hfn])];exact hl f hfE,o,ho,fun e he hb=>by rw [hafter e he] at hb;cases hb⟩
   refine ⟨fun he=>absurd (he ▸ hfr) (by simp),fun i hi=>?_⟩
   by_cases hiE:i∈E
   ·obtain ⟨o,d,ho,hg,hd,hafter⟩:=floatsB_dst E hf hiE
    have hDi:D i=none:=by
     cases hDi:D i with
     | none=>rfl
     | some H=>
      have h1:=(mem_ready.1 hi).1
      rw [flL_done E hiE (by rw [hDi];rfl)] at h1
      cases h1
    have hb:Below w.heap.size w (w.alloc (obj i)):=(Below.refl _ _).alloc (Nat.le_refl _) _
    refine wpOp_step ho fun K' hK=>?_
    rw [if_pos (show Region.wanted o _=true from by unfold Region.wanted;rw [hg])]
    unfold Oper.wp
    rw [hrun i hiE o ho]
    refine hK _ _ ⟨fun _=>hSs _ _ hb hS,?_⟩
    have hput:(flA ops D E a).put o.dst (.pointer (some ⟨w.heap.size,0,none⟩))=flA ops (upd D i w.heap.size) E a:=by
     rw [flA_upd E hf hiE hDi,ho];rfl
    rw [hput,←flL_upd E hf hiE hDi (H:=w.heap.size)]
    refine ih fuel listed a (w.alloc (obj i)) (gapTo G w (w.alloc (obj i))) (upd D i w.heap.size) (by have:=outs_upd (H:=w.heap.size) E hf hiE hDi;omega) hl (fun j hj H hH=>?_) (fun j hj k hk hjk H hH hH2=>?_) (hSs _ _ hb hS) (wpAnyF_later hb h)
    ·unfold upd at hH
     by_cases hji:j=i
     ·rw [if_pos hji] at hH
      injection hH with hH
      subst hH hji
      exact ⟨heap_alloc_new w _,.inr ⟨Nat.le_refl _,by simp⟩⟩
     ·rw [if_neg hji] at hH
      obtain ⟨h1,h2⟩:=hD j hj H hH
      exact ⟨(hb.block H (Array.getElem?_eq_some_iff.1 h1).1).trans h1,.inl h2⟩
    ·unfold upd at hH hH2
     by_cases hji:j=i
     ·have hki:k≠i:=fun e=>hjk (hji.trans e.symm)
      rw [if_pos hji] at hH
      rw [if_neg hki] at hH2
      injection hH with hH
      have h1:=(Array.getElem?_eq_some_iff.1 (hD k hk H hH2).1).1
      omega
     ·rw [if_neg hji] at hH
      by_cases hki:k=i
      ·rw [if_pos hki] at hH2
       injection hH2 with hH2
       have h1:=(Array.getElem?_eq_some_iff.1 (hD j hj H hH).1).1
       omega
      ·rw [if_neg hki] at hH2
       exact hne j hj k hk hjk H hH hH2
   ·have hpe:=pend_of_ready hfE hfn (hl f hfE) hiE hi
    cases fuel with
    | zero=>
     rw [(h w (Below.refl _ _) hS).2] at hpe
     cases hpe
    | succ fuel=>
     obtain ⟨_,o,ho,hfar,hw⟩:=(h w (Below.refl _ _) hS).2 i hpe
     refine wpOp_far ho (fun cs b=>Region.noSelect_spec hsel i o cs b ho) hQ D E hf hfar (wpOp_mono (fun a' w'' h=>⟨fun _=>h.2.1,?_⟩) hw)
     rw [←flL_set D E hiE]
     refine ih fuel (listed.setIfInBounds i true) a' w'' (gapTo G w w) D (by omega) (fun j hj=>?_) (fun j hj H hH=>?_) hne h.2.1 h.2.2
     ·rw [getD_set_ne true (fun e=>hiE (by rw [e];exact hj))];exact hl j hj
     ·obtain ⟨h1,h2⟩:=hD j hj H hH
      exact ⟨(h.1.block H (Array.getElem?_eq_some_iff.1 h1).1).trans h1,.inl h2⟩
theorem wpAnyW_float (E:List Nat) (obj:Nat→Obj) {n fuel:Nat} {listed:Array Bool} {a:Act} {w:World} (hf:floatsB md ops E=true) (hl:(E.all fun i=>!listed.getD i true)=true) (hrun:FloatRun P ops E obj) (hSs:∀ w w',Below w.heap.size w w'→S w→S w') (hsel:Region.noSelect ops=true)
  (hQ:∀ c (a:Act) d v w,Q (.panic c) a w→Q (.panic c) (a.put (some d) v) w) (hn:n=fuel+E.length) (hS:S w) (h:wpAnyF P md ops Q S st E obj fuel listed a w (fun _=>False)):wpAnyW P md ops Q S st n listed a w:=by
 have h1:∀ E:List Nat,flL (fun _=>none) E listed=listed:=fun E=>by induction E with
  | nil=>rfl
  | cons i E ih=>simpa [flL] using ih
 have h2:∀ E:List Nat,flA ops (fun _=>none) E a=a:=fun E=>by induction E with
  | nil=>rfl
  | cons i E ih=>simpa [flA] using ih
 have h3:∀ E:List Nat,outs (fun _=>none) E=E.length:=fun E=>by induction E with
  | nil=>rfl
  | cons i E ih=>simp [outs,ih];omega
 have:=wpAnyF_core (D:=fun _=>none) hf hrun hSs hsel hQ n fuel listed a w (fun _=>False) (by rw [h3];exact hn) (fun i hi=>by simpa using List.all_eq_true.1 hl i hi) (fun _ _ _ h=>by cases h) (fun _ _ _ _ _ _ h=>by cases h) hS h
 rw [h1,h2] at this
 exact this
theorem wpAnyF_one {i:Nat} {o:Oper} {fuel:Nat} {listed:Array Bool} {a:Act} {w:World} {G:Nat→Prop} (hf:floatsB md ops E=true) (hsel:Region.noSelect ops=true) (hQ:∀ c (a:Act) d v w,Q (.panic c) a w→Q (.panic c) (a.put (some d) v) w)
  (hp:pend md ops listed E = [i]∧Region.ready md ops (flAll E listed) = [i]) (hiE:E.contains i=false) (ho:ops[i]?=some o) (hfar:farFrom ops E o=true)
  (h:∀ w',Below w.heap.size w w'→S w'→∀ K':Act→World→Prop,Shut (∀ a'' w'',Below w'.heap.size w' w''→S w''→wpAnyF P md ops Q S st E obj fuel (listed.setIfInBounds i true) a'' w'' (gapTo G w w')→K' a'' w'')→if Region.wanted o (yielded ops a.tmps)=true then Oper.wp P o a w' K' Q else K' (a.put o.dst undef) w') :
  wpAnyF P md ops Q S st E obj (fuel+1) listed a w G:=by
 have hiE':i∉E:=by simpa using hiE
 intro w' hb hS
 have hop:wpOp P ops Q i (fun a' w''=>Below w'.heap.size w' w''∧S w''∧wpAnyF P md ops Q S st E obj fuel (listed.setIfInBounds i true) a' w'' (gapTo G w w')) a w':=
  wpOp_step ho fun K' hK=>h w' hb hS K' (fun a'' w'' h1 h2 h3=>hK a'' w'' ⟨h1,h2,h3⟩)
 refine ⟨fun D hD=>?_,fun j hj=>?_⟩
 ·have hall:∀ i∈E,(D i).isSome=true:=fun i hi=>let ⟨H,hH,_⟩:=hD.1 i hi;by rw [hH];rfl
  have hr:Region.ready md ops (flL D E listed) = [i]:=by rw [flL_all D E hall];exact hp.2
  refine ⟨fun h0=>absurd (hr ▸ h0) (by simp),fun j hj=>?_⟩
  rw [hr] at hj
  obtain rfl:j=i:=by simpa using hj
  refine wpOp_far ho (fun cs b=>Region.noSelect_spec hsel j o cs b ho) hQ D E hf hfar (wpOp_mono (fun a' w'' h=>⟨fun _=>h.2.1,?_⟩) hop)
  rw [←flL_set D E hiE']
  have hD':FlOk E obj D w'' (gapTo (gapTo G w w') w'' w''):=(hD.below h.1).more fun _ h=>.inl h
  cases fuel with
  | zero=>exact (h.2.2 w'' (Below.refl _ _) h.2.1).1 D hD'
  | succ fuel=>exact (h.2.2 w'' (Below.refl _ _) h.2.1).1 D hD'
 ·rw [hp.1] at hj
  obtain rfl:j=i:=by simpa using hj
  exact ⟨hiE',o,ho,hfar,hop⟩
theorem wpAnyF_land {fuel:Nat} {listed:Array Bool} {a:Act} {w:World} {G:Nat→Prop} (hp:pend md ops listed E = [])
  (h:∀ w' D,Below w.heap.size w w'→S w'→FlOk E obj D w' (gapTo G w w')→wpAnyW P md ops Q S st fuel (flAll E listed) (flA ops D E a) w'):wpAnyF P md ops Q S st E obj fuel listed a w G:=by
 have key:∀ w',Below w.heap.size w w'→S w'→∀ D,FlOk E obj D w' (gapTo G w w')→wpAnyW P md ops Q S st fuel (flL D E listed) (flA ops D E a) w':=fun w' hb hS D hD=>by
  rw [flL_all D E fun i hi=>let ⟨H,hH,_⟩:=hD.1 i hi;by rw [hH];rfl]
  exact h w' D hb hS hD
 cases fuel with
 | zero=>exact fun w' hb hS=>⟨key w' hb hS,hp⟩
 | succ fuel=>exact fun w' hb hS=>⟨key w' hb hS,fun i hi=>by rw [hp] at hi;cases hi⟩
theorem wpAnyF_land1 {i:Nat} {oi:Oper} {fuel:Nat} {listed:Array Bool} {a:Act} {w:World} {G:Nat→Prop} (hp:pend md ops listed [i] = []) (hi:ops[i]?=some oi)
  (h:∀ w' HA,Below w.heap.size w w'→S w'→w'.heap[HA]?=some (obj i)→gapTo G w w' HA→wpAnyW P md ops Q S st fuel (listed.setIfInBounds i true) (a.put oi.dst (.pointer (some ⟨HA,0,none⟩))) w'):wpAnyF P md ops Q S st [i] obj fuel listed a w G:=
 wpAnyF_land hp fun w' D hb hS hD=>by
  obtain ⟨HA,h1,h2,h3⟩:=hD.1 i (by simp)
  have:=h w' HA hb hS h2 h3
  simp only [flAll,flA,h1,hi,Option.bind_some]
  exact this
theorem wpAnyF_land2 {i j:Nat} {oi oj:Oper} {fuel:Nat} {listed:Array Bool} {a:Act} {w:World} {G:Nat→Prop} (hp:pend md ops listed [i,j] = []) (hij:(i==j)=false) (hi:ops[i]?=some oi) (hj:ops[j]?=some oj)
  (h:∀ w' HA HB,Below w.heap.size w w'→S w'→w'.heap[HA]?=some (obj i)→w'.heap[HB]?=some (obj j)→gapTo G w w' HA→gapTo G w w' HB→HA≠HB →
   wpAnyW P md ops Q S st fuel ((listed.setIfInBounds j true).setIfInBounds i true) ((a.put oj.dst (.pointer (some ⟨HB,0,none⟩))).put oi.dst (.pointer (some ⟨HA,0,none⟩))) w'):wpAnyF P md ops Q S st [i,j] obj fuel listed a w G:=
 wpAnyF_land hp fun w' D hb hS hD=>by
  obtain ⟨HA,h1,h2,h3⟩:=hD.1 i (by simp)
  obtain ⟨HB,k1,k2,k3⟩:=hD.1 j (by simp)
  have:=h w' HA HB hb hS h2 k2 h3 k3 (fun e=>hD.2 i (by simp) j (by simp) (by simpa using hij) (by rw [h1,k1,e]))
  simp only [flAll,flA,h1,k1,hi,hj,Option.bind_some]
  exact this
theorem pend_spec {j:Nat} {l:Array Bool} : j∈pend md ops l E↔j∉E∧l.getD j true=false∧∃ o,ops[j]?=some o∧(∀ e∈o.after,Region.binds md e=true→l.getD e.on false=true∨e.on∈E)∧∃ f∈E,∀ e∈o.after,Region.binds md e=true→e.on≠f:=by
 have bx:∀ {p q:Bool},(!p || q)=true↔(p=true→q=true):=by decide
 unfold pend
 rw [List.mem_filter,List.mem_range]
 cases ho:ops[j]? with
 | none=>simp
 | some o=>
  have hlt:j<ops.size:=(Array.getElem?_eq_some_iff.1 ho).1
  simp only [hlt,true_and,Option.map_some,Option.getD_some,Bool.and_eq_true,Bool.not_eq_true',Array.all_eq_true_iff_forall_mem,Bool.or_assoc,bx,Bool.or_eq_true,List.any_eq_true,bne_iff_ne,ne_eq,List.contains_eq_mem,decide_eq_false_iff_not,decide_eq_true_eq,Option.some.injEq,exists_eq_left',and_assoc]
theorem ready_flL {D:Nat→Option Nat} {i:Nat} {l:Array Bool} : ∀ E:List Nat,i∉E→i∈Region.ready md ops l→i∈Region.ready md ops (flL D E l)
 | [],_,h=>h
 | k :: E,hi,h=>by
  have h1:i∉E:=fun h'=>hi (List.mem_cons_of_mem _ h')
  have h2:i≠k:=fun e=>hi (e ▸ List.mem_cons_self)
  unfold flL
  split
  ·exact ready_mono (ready_flL E h1 h) h2
  ·exact ready_flL E h1 h
theorem flA_eval {o:Oper} (hs:∀ cs b,o.op ≠ .select cs b) (D:Nat→Option Nat) {a:Act} : ∀ E:List Nat,floatsB md ops E=true→farFrom ops E o=true →
  execOp (flA ops D E a).eval o=execOp a.eval o∧Region.wanted o (yielded ops (flA ops D E a).tmps)=Region.wanted o (yielded ops a.tmps)∧∀ v,(flA ops D E a).put o.dst v=flA ops D E (a.put o.dst v)
 | [],_,_=>⟨rfl,rfl,fun _=>rfl⟩
 | k :: E,hf,hfar=>by
  have hff:=hf
  have hfar':=farFrom_spec _ hfar k List.mem_cons_self
  simp only [floatsB,Bool.and_eq_true] at hf
  simp only [farFrom,List.all_cons,Bool.and_eq_true] at hfar
  obtain ⟨ok,d,ho,_,hd,_⟩:=floatsB_dst _ hff List.mem_cons_self
  have hod:(ops[k]?).bind (·.dst)=some d:=by rw [ho];exact hd
  obtain ⟨e1,e2,e3⟩:=flA_eval hs D (a:=a) E hf.2 hfar.2
  unfold flA
  cases hD:D k with
  | none=>exact ⟨e1,e2,e3⟩
  | some H=>
   simp only [hod]
   have h1:∀ d',some d=some d'→d'∉o.looksAt ops:=fun d' e=>by injection e with e;exact e ▸ (hfar' d hod).1
   refine ⟨(execOp_put o hs _ _ _ h1).trans e1,(wanted_put o _ _ _ h1).trans e2,fun v=>?_⟩
   rw [←e3 v,Act.put_comm _ _ v fun d' e=>by injection e with e;exact e ▸ (hfar' d hod).2]
theorem wpAnyF_first {i:Nat} {k:Nat} {oi:Oper} {v:Value} (hi:ops[i]?=some oi) (hsel:∀ (j:Nat) (o:Oper) cs b,ops[j]?=some o→o.op ≠ .select cs b) (hQ:∀ c a w,Q (.panic c) (a.put oi.dst v) w→Q (.panic c) a w)
  (hki:waitsFor md ops k i=true) (hnk:(k==i)=false) (hst:(st==k)=true∨waitsFor md ops st k=true) (hne:(st==i)=false) (hiE:i∉E) (hkE:k∉E) (hsE:st∉E) (hf:floatsB md ops E=true) (hfi:farFrom ops E oi=true) :
  ∀ (fuel:Nat) (listed:Array Bool) (a:Act) (w:World) (G:Nat→Prop),(∀ j oj,ops[j]?=some oj→j≠i→listed.getD j true=false→(∀ e∈oj.after,Region.binds md e=true→e.on≠i)→oi.apart ops oj=true)→i∈Region.ready md ops listed →
   listed.getD k true=false→listed.getD st true=false→YieldsIf P ops S oi v a →
   wpAnyF P md ops Q S st E obj fuel (listed.setIfInBounds i true) (a.put oi.dst v) w G→wpAnyF P md ops Q S st E obj (fuel+1) listed a w G:=by
 intro fuel
 induction fuel with
 | zero=>
  intro listed a w G hfree hr hk hl hy h w' hb hS
  have ee:=fun D=>flA_eval (md:=md) (a:=a) (hsel i oi · · hi) D E hf hfi
  refine ⟨fun D hD=>?_,fun j hj=>?_⟩
  ·refine wpAnyW_first hi hsel hQ hki hnk hst hne 0 (flL D E listed) (flA ops D E a) w' (fun j oj hj hji hun=>hfree j oj hj hji ?_) (ready_flL E hiE hr) (hy.of_same (ee D).1 (ee D).2.1) (by rw [flL_getD D E (by simp [hkE])];exact hk) (by rw [flL_getD D E (by simp [hsE])];exact hl) hS ?_
   ·cases hc:(E.contains j && (D j).isSome) with
    | false=>rw [flL_getD D E hc] at hun;exact hun
    | true=>
     simp only [Bool.and_eq_true] at hc
     rw [flL_done E (by simpa using hc.1) hc.2] at hun
     cases hun
   ·rw [(ee D).2.2,←flL_set D E hiE]
    exact (h w' hb hS).1 D hD
  ·by_cases hji:j=i
   ·subst hji
    exact ⟨hiE,oi,hi,hfi,hy.wpOp hi hS ⟨Below.refl _ _,hS,wpAnyF_later hb h⟩⟩
   ·have:=(h w' hb hS).2
    obtain ⟨p1,p2,o,p3,p4,p5⟩:=pend_spec.1 hj
    have hj':j∈pend md ops (listed.setIfInBounds i true) E:=pend_spec.2 ⟨p1,by rw [getD_set_ne true (Ne.symm hji)];exact p2,o,p3,fun e he hb=>(p4 e he hb).imp (fun h=>getD_set_true h) id,p5⟩
    rw [this] at hj'
    cases hj'
 | succ fuel ih=>
  intro listed a w G hfree hr hk hl hy h w' hb hS
  have ee:=fun D=>flA_eval (md:=md) (a:=a) (hsel i oi · · hi) D E hf hfi
  refine ⟨fun D hD=>?_,fun j hj=>?_⟩
  ·refine wpAnyW_first hi hsel hQ hki hnk hst hne (fuel+1) (flL D E listed) (flA ops D E a) w' (fun j oj hj hji hun=>hfree j oj hj hji ?_) (ready_flL E hiE hr) (hy.of_same (ee D).1 (ee D).2.1) (by rw [flL_getD D E (by simp [hkE])];exact hk) (by rw [flL_getD D E (by simp [hsE])];exact hl) hS ?_
   ·cases hc:(E.contains j && (D j).isSome) with
    | false=>rw [flL_getD D E hc] at hun;exact hun
    | true=>
     simp only [Bool.and_eq_true] at hc
     rw [flL_done E (by simpa using hc.1) hc.2] at hun
     cases hun
   ·rw [(ee D).2.2,←flL_set D E hiE]
    exact (h w' hb hS).1 D hD
  ·by_cases hji:j=i
   ·subst hji
    exact ⟨hiE,oi,hi,hfi,hy.wpOp hi hS ⟨Below.refl _ _,hS,wpAnyF_later hb h⟩⟩
   ·obtain ⟨p1,p2,o,p3,p4,p5⟩:=pend_spec.1 hj
    have hj':j∈pend md ops (listed.setIfInBounds i true) E:=pend_spec.2 ⟨p1,by rw [getD_set_ne true (Ne.symm hji)];exact p2,o,p3,fun e he hb=>(p4 e he hb).imp (fun h=>getD_set_true h) id,p5⟩
    obtain ⟨_,oj,hoj,hfar,hw⟩:=(h w' hb hS).2 j hj'
    obtain rfl:o=oj:=by rw [p3] at hoj;injection hoj
    have hiun:=(mem_ready.1 hr).1
    have hnw:∀ e∈o.after,Region.binds md e=true→e.on≠i:=fun e he hb heq=>by
     rcases p4 e he hb with h0 | h0
     ·rw [heq] at h0
      rcases Nat.lt_or_ge i listed.size with h' | h'
      ·simp [h'] at hiun h0;rw [hiun] at h0;cases h0
      ·simp [Array.getElem?_eq_none h'] at h0
     ·exact hiE (heq ▸ h0)
    have nw:∀ {q r:Nat},waitsFor md ops q r=true→listed.getD r true=false→r∉E→j≠q:=fun {q r} hw hun hrE e=>by
     subst e
     unfold waitsFor at hw
     simp only [p3] at hw
     obtain ⟨e,he,hb⟩:=Array.any_eq_true'.1 hw
     simp only [Bool.and_eq_true,beq_iff_eq] at hb
     rcases p4 e he hb.1 with h0 | h0
     ·rw [hb.2] at h0
      rcases Nat.lt_or_ge r listed.size with h' | h'
      ·simp [h'] at hun h0;rw [hun] at h0;cases h0
      ·simp [Array.getElem?_eq_none h'] at h0
     ·exact hrE (hb.2 ▸ h0)
    have hjk:j≠k:=nw hki hiun hiE
    have hjs:j≠st:=by
     rcases hst with h | h
     ·exact fun e=>hjk (e.trans (by simpa using h))
     ·exact nw h hk hkE
    refine ⟨p1,o,p3,hfar,?_⟩
    have h2:=wpOp_putIf p3 (hfree j o p3 hji p2 hnw) (fun cs b=>hsel i oi cs b hi) (fun cs b=>hsel j o cs b p3) hQ hy hw
    refine wpOp_mono (fun a' w'' h3=>⟨h3.2.1,h3.2.2.1,ih (listed.setIfInBounds j true) a' w'' _ (fun k' ok hk' hki' hun hno=>hfree k' ok hk' hki' ?_ hno) (ready_mono hr (Ne.symm hji)) (by rw [getD_set_ne true hjk];exact hk) (by rw [getD_set_ne true hjs];exact hl) h3.1 ?_⟩) h2
    ·by_cases hjk':j=k'
     ·subst hjk';exact p2
     ·rw [getD_set_ne true hjk'] at hun;exact hun
    ·rw [Array.setIfInBounds_comm _ _ hji]
     exact h3.2.2.2
theorem wpAnyF_take {i:Nat} (k:Nat) {oi:Oper} {v:Value} {fuel:Nat} {listed:Array Bool} {a:Act} {w:World} {G:Nat→Prop} (hi:ops[i]?=some oi) (hs:Region.noSelect ops=true) (hf:floatsB md ops E=true) (hfr:Region.free md ops listed i=true)
  (hc:((Region.ready md ops listed).contains i && waitsFor md ops k i && !(k==i) && (st==k || waitsFor md ops st k) && !(st==i) && !E.contains i && !E.contains k && !E.contains st && farFrom ops E oi && !listed.getD k true && !listed.getD st true)=true)
  (hQ:∀ c a w,Q (.panic c) (a.put oi.dst v) w→Q (.panic c) a w) (hy:YieldsIf P ops S oi v a) (h:wpAnyF P md ops Q S st E obj fuel (listed.setIfInBounds i true) (a.put oi.dst v) w G):wpAnyF P md ops Q S st E obj (fuel+1) listed a w G:=by
 simp only [Bool.and_eq_true,Bool.not_eq_true',Bool.or_eq_true,List.contains_eq_mem,decide_eq_false_iff_not,decide_eq_true_eq,and_assoc] at hc
 obtain ⟨h1,h2,h3,h4,h5,h6,h7,h8,h9,h10,h11⟩:=hc
 exact wpAnyF_first hi (Region.noSelect_spec hs) hQ h2 h3 h4 h5 h6 h7 h8 hf h9 fuel listed a w G (Region.free_spec hi hfr) h1 h10 h11 hy h
def gateB (md:Region.Mode) (ops:Array Oper) (st:Nat) (E:List Nat) (listed:Array Bool) (i:Nat):Bool:=(List.range ops.size).any fun k=>waitsFor md ops k i && !(k==i) && (st==k || waitsFor md ops st k) && !E.contains k && !listed.getD k true
def takeB (md:Region.Mode) (ops:Array Oper) (st:Nat) (E:List Nat) (listed:Array Bool) (i:Nat):Bool:=Region.noSelect ops && Region.free md ops listed i && (Region.ready md ops listed).contains i && gateB md ops st E listed i && !(st==i) && !E.contains i && !E.contains st && (match ops[i]? with | some o=>farFrom ops E o | none=>false) && !listed.getD st true && floatsB md ops E
theorem takeB_spec {i:Nat} {oi:Oper} {listed:Array Bool} (hi:ops[i]?=some oi) (h:takeB md ops st E listed i=true) :
  Region.noSelect ops=true∧floatsB md ops E=true∧Region.free md ops listed i=true∧∃ k,((Region.ready md ops listed).contains i && waitsFor md ops k i && !(k==i) && (st==k || waitsFor md ops st k) && !(st==i) && !E.contains i && !E.contains k && !E.contains st && farFrom ops E oi && !listed.getD k true && !listed.getD st true)=true:=by
 unfold takeB gateB at h
 rw [hi] at h
 simp only [Bool.and_eq_true,List.any_eq_true] at h
 obtain ⟨⟨⟨⟨⟨⟨⟨⟨⟨h1,h2⟩,h3⟩,k,hk0,hk⟩,h5⟩,h6⟩,h7⟩,h8⟩,h9⟩,h10⟩:=h
 obtain ⟨⟨⟨⟨k1,k2⟩,k3⟩,k4⟩,k5⟩:=hk
 refine ⟨h1,h10,h2,k,?_⟩
 simp only [h3,k1,k2,k3,h5,h6,k4,h7,h8,k5,h9,Bool.and_self]
theorem tkF (i:Nat) {oi:Oper} {v:Value} {fuel:Nat} {listed:Array Bool} {a:Act} {w:World} {G:Nat→Prop} (hi:ops[i]?=some oi) (hB:takeB md ops st E listed i=true) (hQ:∀ c a w,Q (.panic c) (a.put oi.dst v) w→Q (.panic c) a w)
  (hg:Region.wanted oi (yielded ops a.tmps)=true) (hy:∀ z,S z→(execOp a.eval oi).run P z = .ok (.value v) z) (h:wpAnyF P md ops Q S st E obj fuel (listed.setIfInBounds i true) (a.put oi.dst v) w G):wpAnyF P md ops Q S st E obj (fuel+1) listed a w G:=by
 obtain ⟨h1,h2,h3,k,h4⟩:=takeB_spec hi hB
 exact wpAnyF_take k hi h1 h2 h3 h4 hQ (.inl ⟨hg,hy⟩) h
theorem tkW (i:Nat) {oi:Oper} {v:Value} {fuel:Nat} {listed:Array Bool} {a:Act} {w:World} (hS:S w) (hi:ops[i]?=some oi) (hB:takeB md ops st [] listed i=true) (hQ:∀ c a w,Q (.panic c) (a.put oi.dst v) w→Q (.panic c) a w)
  (hg:Region.wanted oi (yielded ops a.tmps)=true) (hy:∀ z,S z→(execOp a.eval oi).run P z = .ok (.value v) z) (h:wpAnyW P md ops Q S st fuel (listed.setIfInBounds i true) (a.put oi.dst v) w):wpAnyW P md ops Q S st (fuel+1) listed a w:=by
 obtain ⟨h1,h2,h3,k,h4⟩:=takeB_spec hi hB
 simp only [Bool.and_eq_true] at h4
 obtain ⟨⟨⟨⟨⟨⟨⟨⟨⟨⟨k1,k2⟩,k3⟩,k4⟩,k5⟩,_⟩,_⟩,_⟩,_⟩,k6⟩,k7⟩:=h4
 exact wpAnyW_take k hi h1 h3 k1 (by simp only [k2,k3,k4,k5,k6,k7,Bool.and_self]) hQ (.inl ⟨hg,hy⟩) hS h
theorem tZ0 (i : Nat) {oi : Oper} {v : Value} {fuel : Nat} {listed : Array Bool} {a : Act} {w : World} (hS : S w) (h : wpAnyW P md ops Q S st fuel (listed.setIfInBounds i true) (a.put oi.dst v) w) (hi : ops[i]? = some oi := by rfl) (hB : takeB md ops st [] listed i = true := by kernel_rfl) (hQ : ∀ c a w, Q (.panic c) (a.put oi.dst v) w → Q (.panic c) a w := by exact fun _ _ _ h => h) (hg : Region.wanted oi (yielded ops a.tmps) = true := by kernel_rfl)
 (y : ∀ z, S z → (execOp a.eval oi).run P z = .ok (.value v) z := by (intro _ _; go_simp; rfl)) : wpAnyW P md ops Q S st (fuel + 1) listed a w := tkW i hS hi hB hQ hg y h
theorem tw (i : Nat) {oi : Oper} {v : Value} {fuel : Nat} {listed : Array Bool} {a : Act} {w : World} (hS : S w) (hy : ∀ z, S z → (execOp a.eval oi).run P z = .ok (.value v) z)
 (h : wpAnyW P md ops Q S st fuel (listed.setIfInBounds i true) (a.put oi.dst v) w) (hi : ops[i]? = some oi := by rfl) (hB : takeB md ops st [] listed i = true := by kernel_rfl) (hQ : ∀ c a w, Q (.panic c) (a.put oi.dst v) w → Q (.panic c) a w := by exact fun _ _ _ h => h) (hg : Region.wanted oi (yielded ops a.tmps) = true := by rfl) : wpAnyW P md ops Q S st (fuel + 1) listed a w := tkW i hS hi hB hQ hg hy h
theorem tf (i : Nat) {oi : Oper} {v : Value} {fuel : Nat} {listed : Array Bool} {a : Act} {w : World} {G : Nat → Prop} (hy : ∀ z, S z → (execOp a.eval oi).run P z = .ok (.value v) z)
 (h : wpAnyF P md ops Q S st E obj fuel (listed.setIfInBounds i true) (a.put oi.dst v) w G) (hi : ops[i]? = some oi := by rfl) (hB : takeB md ops st E listed i = true := by kernel_rfl) (hQ : ∀ c a w, Q (.panic c) (a.put oi.dst v) w → Q (.panic c) a w := by exact fun _ _ _ h => h) (hg : Region.wanted oi (yielded ops a.tmps) = true := by rfl) : wpAnyF P md ops Q S st E obj (fuel + 1) listed a w G := tkF i hi hB hQ hg hy h
theorem wp_region_U {id:Nat} {a:Act} {w:World} (st:Nat) (hm:P.follows .mixedOrders=true)
  (h:∀ z,Below w.heap.size w z→z.heap.size=w.heap.size→wpAnyW P .any ops Q (fun z=>Below w.heap.size w z) st ops.size (Array.replicate ops.size false) a z):(Code.region id ops true).wp P Q a w:=
 wp_region_wait _ st hm (h w.drew (Below.refl _ _).drew rfl)
theorem FloatRun.one {i:Nat} {oi:Oper} {bi:Obj} (hi:ops[i]?=some oi) (ri:∀ (a:Act) (w:World),(execOp a.eval oi).run P w = .ok (.value (.pointer (some ⟨w.heap.size,0,none⟩))) (w.alloc bi)):FloatRun P ops [i] (fun _=>bi):=fun q hq o ho=>by
 obtain rfl:q=i:=by simpa using hq
 rw [hi] at ho
 injection ho with ho
 exact ho ▸ ri
theorem FloatRun.two {i j:Nat} {oi oj:Oper} {bi bj:Obj} (hij:(j==i)=false) (hi:ops[i]?=some oi) (ri:∀ (a:Act) (w:World),(execOp a.eval oi).run P w = .ok (.value (.pointer (some ⟨w.heap.size,0,none⟩))) (w.alloc bi))
  (hj:ops[j]?=some oj) (rj:∀ (a:Act) (w:World),(execOp a.eval oj).run P w = .ok (.value (.pointer (some ⟨w.heap.size,0,none⟩))) (w.alloc bj)):FloatRun P ops [i,j] (fun q=>if q=i then bi else bj):=fun q hq o ho=>by
 rcases List.mem_cons.1 hq with rfl | hq
 ·rw [hi] at ho
  injection ho with ho
  simp only [if_pos]
  exact ho ▸ ri
 ·obtain rfl:q=j:=by simpa using hq
  rw [hj] at ho
  injection ho with ho
  simp only [if_neg (show ¬q=i by simpa using hij)]
  exact ho ▸ rj
end
end
section
open Go.RowKit
section
end
section
variable {P:Program} {md:Region.Mode} {ops:Array Oper} {Q:Exit→Act→World→Prop} {S:World→Prop}
def takeH (md:Region.Mode) (ops:Array Oper) (listed:Array Bool) (i:Nat):Bool:=Region.noSelect ops && Region.free md ops listed i && (Region.ready md ops listed).contains i
theorem tkH (i:Nat) {oi:Oper} {v:Value} {fuel:Nat} {listed:Array Bool} {a:Act} {w:World} (hS:S w) (hi:ops[i]?=some oi) (hB:takeH md ops listed i=true) (hQ:∀ c a w,Q (.panic c) (a.put oi.dst v) w→Q (.panic c) a w)
  (hg:Region.wanted oi (yielded ops a.tmps)=true) (hy:∀ z,S z→(execOp a.eval oi).run P z = .ok (.value v) z) (h:wpAnyH P md ops Q S fuel (listed.setIfInBounds i true) (a.put oi.dst v) w):wpAnyH P md ops Q S (fuel+1) listed a w:=by
 unfold takeH at hB
 simp only [Bool.and_eq_true] at hB
 exact wpAnyH_take hi hB.1.1 hB.1.2 hB.2 hQ (.inl ⟨hg,hy⟩) hS h
theorem wpAnyH_one {i:Nat} {o:Oper} {fuel:Nat} {listed:Array Bool} {a:Act} {w:World} (hr:Region.ready md ops listed = [i]) (ho:ops[i]?=some o) (hw:Region.wanted o (yielded ops a.tmps)=true)
  (h:∀ K':Act→World→Prop,Shut (∀ a w,S w→wpAnyH P md ops Q S fuel (listed.setIfInBounds i true) a w→K' a w)→Oper.wp P o a w K' Q) :
  wpAnyH P md ops Q S (fuel+1) listed a w:=
 ⟨fun h0=>absurd (hr ▸ h0) (by simp),fun j hj=>by
  rw [hr] at hj
  obtain rfl:j=i:=by simpa using hj
  exact wpOp_step ho (fun K' hK=>by rw [if_pos hw];exact h K' (fun a w hS hW=>hK a w ⟨hS,hW⟩))⟩
theorem wpAnyH_end {listed:Array Bool} {a:Act} {w:World} (hr:Region.ready md ops listed = []) (h:Q .normal a w):∀ fuel,wpAnyH P md ops Q S fuel listed a w
 | 0=>⟨hr,h⟩
 | _+1=>⟨fun _=>h,by rw [hr];simp⟩
theorem wp_region_H {id:Nat} {a:Act} {w:World} (hm:P.follows .mixedOrders=true)
  (h:∀ z,Below w.heap.size w z→z.heap.size=w.heap.size→wpAnyH P .any ops Q (fun z=>Below w.heap.size w z) ops.size (Array.replicate ops.size false) a z):(Code.region id ops true).wp P Q a w:=
 wp_region_any hm (wpAny_of_held _ _ _ _ (h w.drew (Below.refl _ _).drew rfl))
end
section
variable {P:Program} {md:Region.Mode} {ops:Array Oper} {Q:Exit→Act→World→Prop} {S:World→Prop} {st:Nat}
theorem qh (i:Nat) {oi:Oper} {v:Value} {fuel:Nat} {listed:Array Bool} {a:Act} {w:World} (hS:S w) (h:wpAnyH P md ops Q S fuel (listed.setIfInBounds i true) (a.put oi.dst v) w) (hi:ops[i]?=some oi:=by rfl) (hB:takeH md ops listed i=true:=by kernel_rfl) (hQ:∀ c a w,Q (.panic c) (a.put oi.dst v) w→Q (.panic c) a w:=by exact fun _ _ _ h=>h) (hg:Region.wanted oi (yielded ops a.tmps)=true:=by kernel_rfl)
  (y:∀ z,S z→(execOp a.eval oi).run P z = .ok (.value v) z:=by (intro _ _;go_simp;rfl)):wpAnyH P md ops Q S (fuel+1) listed a w:=tkH i hS hi hB hQ hg y h
theorem oq (i:Nat) {o:Oper} {fuel:Nat} {listed:Array Bool} {a:Act} {w:World}
  (h:∀ K':Act→World→Prop,Shut (∀ a w,S w→wpAnyH P md ops Q S fuel (listed.setIfInBounds i true) a w→K' a w)→Oper.wp P o a w K' Q) (hr:Region.ready md ops listed = [i]:=by kernel_rfl) (ho:ops[i]?=some o:=by rfl) (hw:Region.wanted o (yielded ops a.tmps)=true:=by kernel_rfl):wpAnyH P md ops Q S (fuel+1) listed a w:=wpAnyH_one hr ho hw h
theorem qz (i:Nat) {oi:Oper} {v:Value} {fuel:Nat} {listed:Array Bool} {a:Act} {w:World} (hS:S w) (h:wpAnyW P md ops Q S st fuel (listed.setIfInBounds i true) (a.put oi.dst v) w) (hi:ops[i]?=some oi:=by rfl) (hB:takeB md ops st [] listed i=true:=by kernel_rfl) (hQ:∀ c a w,Q (.panic c) (a.put oi.dst v) w→Q (.panic c) a w:=by exact fun _ _ _ h=>h) (hg:Region.wanted oi (yielded ops a.tmps)=true:=by kernel_rfl)
  (y:∀ z,S z→(execOp a.eval oi).run P z = .ok (.value v) z:=by (intro _ _;go_simp;rfl)):wpAnyW P md ops Q S st (fuel+1) listed a w:=tkW i hS hi hB hQ hg y h
end
section
variable {P:Program} {md:Region.Mode} {ops:Array Oper} {Q:Exit→Act→World→Prop} {S:World→Prop} {st:Nat} {E:List Nat} {obj:Nat→Obj}
theorem qF (i:Nat) {oi:Oper} {v:Value} {fuel:Nat} {listed:Array Bool} {a:Act} {w:World} {G:Nat→Prop} (h:wpAnyF P md ops Q S st E obj fuel (listed.setIfInBounds i true) (a.put oi.dst v) w G) (hi:ops[i]?=some oi:=by rfl) (hB:takeB md ops st E listed i=true:=by kernel_rfl) (hQ:∀ c a w,Q (.panic c) (a.put oi.dst v) w→Q (.panic c) a w:=by exact fun _ _ _ h=>h) (hg:Region.wanted oi (yielded ops a.tmps)=true:=by kernel_rfl)
  (y:∀ z,S z→(execOp a.eval oi).run P z = .ok (.value v) z:=by (intro _ _;go_simp;rfl)):wpAnyF P md ops Q S st E obj (fuel+1) listed a w G:=tkF i hi hB hQ hg y h
end
end
section
open Go.RowKit Hb Ht
set_option exponentiation.threshold 5000
attribute [local go_sem ↓] Go.wp_at_zero Go.wp_at_succ
attribute [local go_sem] run_store_float
def nmV:Nm→Int
 | .int z=>z * U74
 | .flo f=>fV f
theorem cut_run (F:Nat) (h:Fin64 F) (w:World):(callFunc 159 #[.float .f64 F]).run Tryz.prog w = .ok (.value (.float .f64 (cutF F))) w:=by
 obtain ⟨m,p,e1,_⟩:=read_fin h
 have e2:cutF F=Ieee.double.write ((Ieee.double.read F).integral .zero):=rfl
 have e3:FloatKind.f64.decode F = .number (decide (9223372036854775808≤F)) m p:=e1
 have k:(callFunc 159 #[.float .f64 F]).run Tryz.prog w=(do let v ←Extern.MathFloor.toIntegral "math.archTrunc" .zero #[.float .f64 F];pure (Next.value v)).run Tryz.prog w:=by kernel_rfl
 have k2:Extern.MathFloor.toIntegral "math.archTrunc" .zero #[.float .f64 F]=(match FloatKind.f64.decode F with
  | .nan s t=>(if FloatKind.f64.format.quiet t=t then pure (.float .f64 F) else do
   let kept ←choose (.extern "math.Floor,Ceil,Trunc,RoundToEven.signallingNaN kept" 2)
   pure (.float .f64 (if kept==1 then F else FloatKind.f64.encode (.nan s (FloatKind.f64.format.quiet t)))))
  | d=>pure (.float .f64 (FloatKind.f64.encode (d.integral .zero)))):=rfl
 rw [k,k2,e3]
 rw [e2,e1]
 rfl
set_option maxRecDepth 100000 in
theorem Trunc_ok {F R:Nat} (h:Fin64 F) (hR:cutF F=R) (w:World):Calls Tryz.prog 67 #[.float .f64 F] w fun e w'=>e = .returned (.float .f64 R)∧w=w':=by
 have hb:=cut_run F h
 rw [hR] at hb
 go_enter Tryz.func67,Tryz.ntmps67
 go_wp2
 go_ret
 exact ⟨rfl,rfl⟩
def cmpM (x y:Nm):Int:=cmpE (nmV x) (nmV y)
def CmPost (w:World) (x y:Nm) (e:Ending) (w':World):Prop:=e = .returned (.int .i64 (cmpM x y))∧Below w.heap.size w w'
def sgI:Ordering→Int
 | .lt=>-1
 | .eq=>0
 | .gt=>1
theorem sgI_compare (a b:Int):sgI (compare a b)=cmpE a b:=by
 unfold cmpE
 rcases Int.lt_trichotomy a b with h | h | h
 ·rw [Int.compare_eq_lt.2 h,if_pos h];rfl
 ·subst h;rw [Int.compare_eq_eq.2 rfl,if_neg (by omega),if_neg (by omega)];rfl
 ·rw [Int.compare_eq_gt.2 h,if_neg (by omega),if_pos h];rfl
theorem conv_sg (o:Ordering) (w1:World):(convert 68 3 (.float .f64 (sgB o))).run Tryz.prog w1 = .ok (.int .i64 (sgI o)) w1:=by
 cases o
 ·exact run_convert_float_int w1 _ _ .f64 .i64 _ _ (by kernel_rfl) Tryz.underlying3 (by decide +kernel)
 ·exact run_convert_float_int w1 _ _ .f64 .i64 _ _ (by kernel_rfl) Tryz.underlying3 (by decide +kernel)
 ·exact run_convert_float_int w1 _ _ .f64 .i64 _ _ (by kernel_rfl) Tryz.underlying3 (by decide +kernel)
theorem cmpE_bound (a b:Int):cmpE a b = -1∨cmpE a b=0∨cmpE a b=1:=by
 unfold cmpE
 split
 ·exact .inl rfl
 ·split
  ·exact .inr (.inr rfl)
  ·exact .inr (.inl rfl)
theorem cmpZ_E (a b:Int):cmpZ a b=cmpE a b:=rfl
set_option maxRecDepth 100000 in
set_option maxHeartbeats 4000000 in
theorem cmp_ff {q1 q2:Nv} {w:World} (h1:q1.At w (fun b=>b<w.heap.size)) (h2:q2.At w (fun b=>b<w.heap.size)) (e1:q1.b=true) (e2:q2.b=true) :
  Calls Tryz.prog 33 #[q1.v,q2.v] w (CmPost w q1.nm q2.nm):=by
 have hX1:=NBox.new w q1
 have hB1:Below w.heap.size w (w.alloc (.cells q1.vals.toArray 70)):=(Below.refl _ _).alloc (Nat.le_refl _) _
 have hZ1:=World.size_alloc w (.cells q1.vals.toArray 70)
 have hX2:=NBox.new (w.alloc (.cells q1.vals.toArray 70)) q2
 have hB2:=hB1.alloc hB1.size (.cells q2.vals.toArray 70)
 have hX1b:=hX1.below ((Below.refl _ _).alloc (Nat.le_refl _) (.cells q2.vals.toArray 70)) hX1.lt
 have hZ2:=World.size_alloc (w.alloc (.cells q1.vals.toArray 70)) (.cells q2.vals.toArray 70)
 rw [hZ1] at hX2 hZ2
 have HA:=Lib.hid hX1b
 have HBx:=Lib.hid hX2
 have HB:=Lib.hid hB2
 have HZ:=Lib.hid hZ2
 have HQ1:=Lib.hid h1
 have HQ2:=Lib.hid h2
 clear hX1 hB1 hZ1 hX2 hB2 hX1b hZ2 h1 h2
 obtain ⟨g,A,n,c,l,f,b⟩:=q1
 obtain ⟨g',A',n',c',l',f',b'⟩:=q2
 simp only at e1 e2
 subst e1 e2
 simp only [Nv.vals] at HA HBx HB HZ
 show Calls Tryz.prog 33 #[.agg #[.bool g,.slice A n c,.float .f64 f,.bool true],.agg #[.bool g',.slice A' n' c',.float .f64 f',.bool true]] w _
 obtain ⟨a0,a1,a2,a3⟩:=HA.out.cells
 obtain ⟨b0,b1,b2,b3⟩:=HBx.out.cells
 simp only at a0 a1 a2 a3 b0 b1 b2 b3
 obtain ⟨r,hr,hr64,hor⟩:=sub_fin HQ1.out.fl.1 HQ2.out.fl.1
 try simp only at hr hor
 have hsub:∀ w1,(binOp .sub 68 (.float .f64 f) (.float .f64 f')).run Tryz.prog w1 = .ok (.float .f64 r) w1:=fun w1=>run_float_arith w1 .sub _ .f64 _ _ _ hr
 have HM:=Lib.hid (show cmpM (.flo f) (.flo f')=sgI (compare (fV f) (fV f')) from (sgI_compare _ _).symm)
 have HS:=Lib.hid (sign_f hor)
 generalize compare (fV f) (fV f')=o at *
 have hcv:=conv_sg o
 clear hr hor
 go_enter Tryz.func33,Tryz.ntmps33
 go_upto_region 1 with fail
 generalize (w.alloc (.cells #[.bool g,.slice A n c,.float .f64 f,.bool true] 70)).alloc (.cells #[.bool g',.slice A' n' c',.float .f64 f',.bool true] 70)=w0 at *
 go_wp2_with fail
 (with_reducible refine (HS.out _).mono ?_)
 rintro e w1 ⟨rfl,rfl⟩
 go_wp2_with fail
 have key:CmPost w (Nv.nm ⟨g,A,n,c,l,f,true⟩) (Nv.nm ⟨g',A',n',c',l',f',true⟩) (.returned (.int .i64 (sgI o))) w0:=⟨congrArg (fun z=>Ending.returned (.int .i64 z)) HM.out.symm,HB.out⟩
 go_ret
 exact key
set_option maxRecDepth 100000 in
set_option maxHeartbeats 4000000 in
theorem cmp_ii {q1 q2:Nv} {w:World} (h1:q1.At w (fun b=>b<w.heap.size)) (h2:q2.At w (fun b=>b<w.heap.size)) (e1:q1.b=false) (e2:q2.b=false) :
  Calls Tryz.prog 33 #[q1.v,q2.v] w (CmPost w q1.nm q2.nm):=by
 have hX1:=NBox.new w q1
 have hB1:Below w.heap.size w (w.alloc (.cells q1.vals.toArray 70)):=(Below.refl _ _).alloc (Nat.le_refl _) _
 have hZ1:=World.size_alloc w (.cells q1.vals.toArray 70)
 have hX2:=NBox.new (w.alloc (.cells q1.vals.toArray 70)) q2
 have hB2:=hB1.alloc hB1.size (.cells q2.vals.toArray 70)
 have hX1b:=hX1.below ((Below.refl _ _).alloc (Nat.le_refl _) (.cells q2.vals.toArray 70)) hX1.lt
 have hZ2:=World.size_alloc (w.alloc (.cells q1.vals.toArray 70)) (.cells q2.vals.toArray 70)
 rw [hZ1] at hX2 hZ2
 have HA:=Lib.hid hX1b
 have HBx:=Lib.hid hX2
 have HB:=Lib.hid hB2
 have HZ:=Lib.hid hZ2
 have HQ1:=Lib.hid h1
 have HQ2:=Lib.hid h2
 clear hX1 hB1 hZ1 hX2 hB2 hX1b hZ2 h1 h2
 obtain ⟨g,A,n,c,l,f,b⟩:=q1
 obtain ⟨g',A',n',c',l',f',b'⟩:=q2
 simp only at e1 e2
 subst e1 e2
 simp only [Nv.vals] at HA HBx HB HZ
 show Calls Tryz.prog 33 #[.agg #[.bool g,.slice A n c,.float .f64 f,.bool false],.agg #[.bool g',.slice A' n' c',.float .f64 f',.bool false]] w _
 obtain ⟨a0,a1,a2,a3⟩:=HA.out.cells
 obtain ⟨b0,b1,b2,b3⟩:=HBx.out.cells
 simp only at a0 a1 a2 a3 b0 b1 b2 b3
 have HC:=Lib.hid (fun (y:World) (hy:Below w.heap.size w y)=>Cmp_any g g' (w:=y) ((HQ1.out.up hy).lim.sl (fun b h=>h)) ((HQ2.out.up hy).lim.sl (fun b h=>h)) (Nat.le_refl _) (Nat.le_refl _))
 try simp only [CmpZPost] at HC
 have HM:=Lib.hid (show cmpM (Nv.nm ⟨g,A,n,c,l,f,false⟩) (Nv.nm ⟨g',A',n',c',l',f',false⟩)=cmpZ (ival g l) (ival g' l') from by
  show cmpE (ival g l * U74) (ival g' l' * U74)=_
  rw [cmpE_scale U74_pos];rfl)
 generalize cmpZ (ival g l) (ival g' l')=z at *
 go_enter Tryz.func33,Tryz.ntmps33
 go_upto_region 1 with fail
 generalize (w.alloc (.cells #[.bool g,.slice A n c,.float .f64 f,.bool false] 70)).alloc (.cells #[.bool g',.slice A' n' c',.float .f64 f',.bool false] 70)=w0 at *
 go_wp2_with fail
 (with_reducible refine (HC.out _ HB.out).mono ?_)
 rintro e w1 ⟨rfl,hb1⟩
 go_wp2_with fail
 have key:CmPost w (Nv.nm ⟨g,A,n,c,l,f,false⟩) (Nv.nm ⟨g',A',n',c',l',f',false⟩) (.returned (.int .i64 z)) w1:=⟨congrArg (fun z=>Ending.returned (.int .i64 z)) HM.out.symm,HB.out.trans (hb1.mono HB.out.size)⟩
 go_ret
 exact key
theorem fin_bits {f:Nat} (h:Fin64 f):f<18446744073709551616∧f / 4503599627370496 % 2048≠2047:=by
 obtain ⟨h1,h2⟩:=h
 exact ⟨h2,by omega⟩
theorem rv_bound {r:Nat} (h:r<9218868437227405312):rv r<2 ^ 2098:=by
 unfold rv
 split
 ·exact Nat.lt_of_lt_of_le (by omega:r<2 ^ 52) (Nat.pow_le_pow_right (by decide) (by decide))
 ·have h1:r / 2 ^ 52 - 1≤2045:=by omega
  have h2:2 ^ 52+r % 2 ^ 52<2 ^ 53:=by omega
  have h3:2 ^ (r / 2 ^ 52 - 1)≤2 ^ 2045:=Nat.pow_le_pow_right (by decide) h1
  calc (2 ^ 52+r % 2 ^ 52) * 2 ^ (r / 2 ^ 52 - 1)≤(2 ^ 52+r % 2 ^ 52) * 2 ^ 2045:=Nat.mul_le_mul_left _ h3
   _<2 ^ 53 * 2 ^ 2045:=Nat.mul_lt_mul_of_pos_right h2 (Nat.two_pow_pos _)
   _=2 ^ 2098:=by rw [←Nat.pow_add]
theorem ofZ_short {f:Nat} (h:Fin64 f):tooLong (ofZ f)=false:=by
 rw [ofZ_cut h]
 obtain ⟨s,r,rfl,hr⟩:=fin_word h
 refine tooLong_lt 2098 (by decide) ?_
 rw [(word_fin hr).2,Int.natAbs_tdiv]
 have hb:=rv_bound hr
 refine Nat.lt_of_le_of_lt (Nat.div_le_self _ _) ?_
 cases s <;> simp <;> exact hb
set_option maxRecDepth 100000 in
set_option maxHeartbeats 4000000 in
theorem cmp_fi {q1 q2:Nv} {w:World} (h1:q1.At w (fun b=>b<w.heap.size)) (h2:q2.At w (fun b=>b<w.heap.size)) (e1:q1.b=true) (e2:q2.b=false) :
  Calls Tryz.prog 33 #[q1.v,q2.v] w (CmPost w q1.nm q2.nm):=by
 have hX1:=NBox.new w q1
 have hB1:Below w.heap.size w (w.alloc (.cells q1.vals.toArray 70)):=(Below.refl _ _).alloc (Nat.le_refl _) _
 have hZ1:=World.size_alloc w (.cells q1.vals.toArray 70)
 have hX2:=NBox.new (w.alloc (.cells q1.vals.toArray 70)) q2
 have hB2:=hB1.alloc hB1.size (.cells q2.vals.toArray 70)
 have hX1b:=hX1.below ((Below.refl _ _).alloc (Nat.le_refl _) (.cells q2.vals.toArray 70)) hX1.lt
 have hZ2:=World.size_alloc (w.alloc (.cells q1.vals.toArray 70)) (.cells q2.vals.toArray 70)
 rw [hZ1] at hX2 hZ2
 have HA:=Lib.hid hX1b
 have HBx:=Lib.hid hX2
 have HB:=Lib.hid hB2
 have HZ:=Lib.hid hZ2
 have HQ1:=Lib.hid h1
 have HQ2:=Lib.hid h2
 clear hX1 hB1 hZ1 hX2 hB2 hX1b hZ2 h1 h2
 obtain ⟨g,A,n,c,l,f,b⟩:=q1
 obtain ⟨g',A',n',c',l',f',b'⟩:=q2
 simp only at e1 e2
 subst e1 e2
 simp only [Nv.vals] at HA HBx HB HZ
 show Calls Tryz.prog 33 #[.agg #[.bool g,.slice A n c,.float .f64 f,.bool true],.agg #[.bool g',.slice A' n' c',.float .f64 f',.bool false]] w _
 obtain ⟨a0,a1,a2,a3⟩:=HA.out.cells
 obtain ⟨b0,b1,b2,b3⟩:=HBx.out.cells
 simp only at a0 a1 a2 a3 b0 b1 b2 b3
 obtain ⟨z,hz⟩:∃ z,ofZ f=z:=⟨_,rfl⟩
 have hzs:tooLong z=false:=by rw [←hz];exact ofZ_short HQ1.out.fl.1
 have HO:=Lib.hid (fun (y:World)=>OfFloat_z (F:=f) (z:=z) y (fin_bits HQ1.out.fl.1) hz)
 obtain ⟨R,hR⟩:∃ R,cutF f=R:=⟨_,rfl⟩
 obtain ⟨cf,cv⟩:=cut_fin HQ1.out.fl.1
 have hzc:=ofZ_cut HQ1.out.fl.1
 simp only at cf cv hzc
 rw [hR] at cf cv
 rw [←hzc,hz] at cv
 rw [hz] at hzc
 have HT:=Lib.hid (Trunc_ok HQ1.out.fl.1 hR)
 try simp only at HT
 obtain ⟨r,hr,hr64,hor⟩:=sub_fin HQ1.out.fl.1 cf
 try simp only at hr hor
 have hsub:∀ w1,(binOp .sub 68 (.float .f64 f) (.float .f64 R)).run Tryz.prog w1 = .ok (.float .f64 r) w1:=fun w1=>run_float_arith w1 .sub _ .f64 _ _ _ hr
 have HS:=Lib.hid (sign_f hor)
 have HM:=Lib.hid (show cmpM (.flo f) (.int (ival g' l'))=if cmpZ z (ival g' l')≠0 then cmpZ z (ival g' l') else sgI (compare (fV f) (fV R)) from by
  show cmpE (fV f) (ival g' l' * U74)=_
  rw [sgI_compare,cv,cmpZ_E,cmp_mixed U74_pos hzc.symm])
 have HC:=Lib.hid (fun (y:World) (hy:Below w.heap.size w y) (g1:Bool) (A1:Option Addr) (n1 c1:Nat) (l1:List Nat) (h1:LimP y (fun b=>b<y.heap.size) A1 n1 c1 l1) (h2:ival g1 l1=z)=>(by
  have h3:=Cmp_any g1 g' (w:=y) (h1.sl (fun b h=>h)) ((HQ2.out.up hy).lim.sl (fun b h=>h)) (Nat.le_refl _) (Nat.le_refl _)
  rw [h2] at h3
  exact h3:Calls Tryz.prog 19 #[.agg #[.bool g1,.slice A1 n1 c1],.agg #[.bool g',.slice A' n' c']] y (CmpZPost (cmpZ z (ival g' l')) y)))
 try simp only [CmpZPost] at HC
 generalize compare (fV f) (fV R)=o at *
 generalize cmpZ z (ival g' l')=cz at *
 have hcv:=conv_sg o
 have hb:=run_bits f
 have HZs:=Lib.hid hzs
 clear hr hor cf cv hzc hzs hR hz hr64
 go_enter Tryz.func33,Tryz.ntmps33
 go_upto_region 1 with fail
 generalize (w.alloc (.cells #[.bool g,.slice A n c,.float .f64 f,.bool true] 70)).alloc (.cells #[.bool g',.slice A' n' c',.float .f64 f',.bool false] 70)=w0 at *
 go_wp2_with fail
 (with_reducible refine (HO.out _).mono ?_)
 rintro e w1 ⟨v1,rfl,hr1,hb1⟩
 obtain ⟨g1,A1,n1,c1,l1,rfl,d1,d2,d3⟩:=hr1.num HZs.out
 have HK1:=Lib.hid (KBox.new w1 g1 A1 n1 c1)
 have HBk:=Lib.hid (show Below w1.heap.size w1 (w1.alloc (.cells #[.bool g1,.slice A1 n1 c1] 39)) from (Below.refl _ _).alloc (Nat.le_refl _) _)
 have HB1:=Lib.hid (HB.out.trans (hb1.mono HB.out.size))
 have HB2:=Lib.hid (HB1.out.trans (HBk.out.mono HB1.out.size))
 have HA2:=Lib.hid ((HA.out.below hb1 HA.out.lt).below HBk.out (Nat.lt_of_lt_of_le HA.out.lt hb1.size))
 have HX2:=Lib.hid ((HBx.out.below hb1 HBx.out.lt).below HBk.out (Nat.lt_of_lt_of_le HBx.out.lt hb1.size))
 have HL:=Lib.hid (d1.keep (w':=w1.alloc (.cells #[.bool g1,.slice A1 n1 c1] 39)) (Q:=fun b=>b<(w1.alloc (.cells #[.bool g1,.slice A1 n1 c1] 39)).heap.size) (fun b hb=>⟨Nat.lt_of_lt_of_le hb.2 HBk.out.size,HBk.out.block b hb.2⟩))
 have HI1:=Lib.hid d3
 clear hb1 hr1 d1 d2 d3 a0 a1 a2 a3 b0 b1 b2 b3
 go_upto_region 8 with fail
 generalize w1.alloc (.cells #[.bool g1,.slice A1 n1 c1] 39)=w2 at *
 obtain ⟨k0,k1⟩:=HK1.out.cells
 obtain ⟨a0,a1,a2,a3⟩:=HA2.out.cells
 obtain ⟨b0,b1,b2,b3⟩:=HX2.out.cells
 simp only at a0 a1 a2 a3 b0 b1 b2 b3
 go_upto_region 9 with (go_at_call 19;(with_reducible refine (HC.out _ HB2.out _ _ _ _ _ HL.out HI1.out).mono ?_);rintro e w3 ⟨rfl,hb3⟩;have HB3:=Lib.hid (HB2.out.trans (hb3.mono HB2.out.size));have HA3:=Lib.hid (HA2.out.below hb3 HA2.out.lt);clear hb3)
 clear k0 k1 a0 a1 a2 a3 b0 b1 b2 b3
 obtain ⟨a0,a1,a2,a3⟩:=HA3.out.cells
 simp only at a0 a1 a2 a3
 by_cases hc0:cz=0
 ·subst hc0
  have key:∀ y,Below w3.heap.size w3 y→CmPost w (Nv.nm ⟨g,A,n,c,l,f,true⟩) (Nv.nm ⟨g',A',n',c',l',f',false⟩) (.returned (.int .i64 (sgI o))) y:=fun y hy=>⟨congrArg (fun z=>Ending.returned (.int .i64 z)) (HM.out.trans (if_neg (by simp))).symm,HB3.out.trans (hy.mono HB3.out.size)⟩
  have HK:=Lib.hid key
  clear key
  go_upto_region 11 with fail
  refine wp_region_H (by kernel_rfl) (fun z0 K0 hs0=>?_)
  refine qh 0 K0 ?_
  refine qh 1 K0 ?_ (y:=fun z5 hS=>by obtain ⟨y0,y1,y2,y3⟩:=(HA3.out.below hS HA3.out.lt).cells;simp only at y0 y1 y2 y3;go_simp;rfl)
  refine qh 2 K0 ?_
  refine qh 3 K0 ?_ (y:=fun z5 hS=>by obtain ⟨y0,y1,y2,y3⟩:=(HA3.out.below hS HA3.out.lt).cells;simp only at y0 y1 y2 y3;go_simp;rfl)
  refine oq 4 fun K hK=>?_
  go_simp
  (with_reducible refine (HT.out _).mono ?_)
  rintro e u1 ⟨rfl,rfl⟩
  refine hK.out _ _ K0 ?_
  refine qh 5 K0 ?_
  refine oq 6 fun K hK=>?_
  go_simp
  (with_reducible refine (HS.out _).mono ?_)
  rintro e u1 ⟨rfl,rfl⟩
  refine hK.out _ _ K0 ?_
  refine qh 7 K0 ?_
  refine qh 8 K0 ?_
  refine wpAnyH_end (by kernel_rfl) ?_ _
  have HKe:=Lib.hid (HK.out _ K0)
  go_wp2_with fail
  go_ret
  exact HKe.out
 ·have d0:(cz==0)=false:=beq_eq_false_iff_ne.2 hc0
  have key:CmPost w (Nv.nm ⟨g,A,n,c,l,f,true⟩) (Nv.nm ⟨g',A',n',c',l',f',false⟩) (.returned (.int .i64 cz)) w3:=⟨congrArg (fun z=>Ending.returned (.int .i64 z)) (HM.out.trans (if_pos hc0)).symm,HB3.out⟩
  have HK:=Lib.hid key
  clear key
  go_wp2_with fail
  go_ret
  exact HK.out
set_option maxRecDepth 100000 in
set_option maxHeartbeats 4000000 in
theorem cmp_if {q1 q2:Nv} {w:World} (h1:q1.At w (fun b=>b<w.heap.size)) (h2:q2.At w (fun b=>b<w.heap.size)) (e1:q1.b=false) (e2:q2.b=true) :
  Calls Tryz.prog 33 #[q1.v,q2.v] w (CmPost w q1.nm q2.nm):=by
 have hX1:=NBox.new w q1
 have hB1:Below w.heap.size w (w.alloc (.cells q1.vals.toArray 70)):=(Below.refl _ _).alloc (Nat.le_refl _) _
 have hZ1:=World.size_alloc w (.cells q1.vals.toArray 70)
 have hX2:=NBox.new (w.alloc (.cells q1.vals.toArray 70)) q2
 have hB2:=hB1.alloc hB1.size (.cells q2.vals.toArray 70)
 have hX1b:=hX1.below ((Below.refl _ _).alloc (Nat.le_refl _) (.cells q2.vals.toArray 70)) hX1.lt
 have hZ2:=World.size_alloc (w.alloc (.cells q1.vals.toArray 70)) (.cells q2.vals.toArray 70)
 rw [hZ1] at hX2 hZ2
 have HA:=Lib.hid hX1b
 have HBx:=Lib.hid hX2
 have HB:=Lib.hid hB2
 have HZ:=Lib.hid hZ2
 have HQ1:=Lib.hid h1
 have HQ2:=Lib.hid h2
 clear hX1 hB1 hZ1 hX2 hB2 hX1b hZ2 h1 h2
 obtain ⟨g,A,n,c,l,f,b⟩:=q1
 obtain ⟨g',A',n',c',l',f',b'⟩:=q2
 simp only at e1 e2
 subst e1 e2
 simp only [Nv.vals] at HA HBx HB HZ
 show Calls Tryz.prog 33 #[.agg #[.bool g,.slice A n c,.float .f64 f,.bool false],.agg #[.bool g',.slice A' n' c',.float .f64 f',.bool true]] w _
 obtain ⟨a0,a1,a2,a3⟩:=HA.out.cells
 obtain ⟨b0,b1,b2,b3⟩:=HBx.out.cells
 simp only at a0 a1 a2 a3 b0 b1 b2 b3
 have HC:=Lib.hid (fun (y:World) (hy:Below w.heap.size w y)=>cmp_fi (HQ2.out.up hy) (HQ1.out.up hy) rfl rfl)
 have HM:=Lib.hid (show cmpM (Nv.nm ⟨g,A,n,c,l,f,false⟩) (Nv.nm ⟨g',A',n',c',l',f',true⟩) = -cmpM (Nv.nm ⟨g',A',n',c',l',f',true⟩) (Nv.nm ⟨g,A,n,c,l,f,false⟩) from cmpE_swap _ _)
 have hcb:cmpM (Nv.nm ⟨g',A',n',c',l',f',true⟩) (Nv.nm ⟨g,A,n,c,l,f,false⟩) = -1∨cmpM (Nv.nm ⟨g',A',n',c',l',f',true⟩) (Nv.nm ⟨g,A,n,c,l,f,false⟩)=0∨cmpM (Nv.nm ⟨g',A',n',c',l',f',true⟩) (Nv.nm ⟨g,A,n,c,l,f,false⟩)=1:=cmpE_bound _ _
 have hunf:∀ (x y:Nm) (w0:World) e w1,CmPost w0 x y e w1→e = .returned (.int .i64 (cmpM x y))∧Below w0.heap.size w0 w1:=fun _ _ _ _ _ h=>h
 have HU:=Lib.hid hunf
 clear hunf
 simp only [Nv.v,Nv.vals] at HC
 generalize hz:cmpM (Nv.nm ⟨g',A',n',c',l',f',true⟩) (Nv.nm ⟨g,A,n,c,l,f,false⟩)=z at *
 have key:∀ (y:World),Below w.heap.size w y→CmPost w (Nv.nm ⟨g,A,n,c,l,f,false⟩) (Nv.nm ⟨g',A',n',c',l',f',true⟩) (.returned (.int .i64 (-z))) y:=fun y hy=>⟨congrArg (fun z=>Ending.returned (.int .i64 z)) HM.out.symm,hy⟩
 have HK:=Lib.hid key
 have HzI:=Lib.hid hz
 clear key hz
 rcases hcb with rfl | rfl | rfl
 all_goals
  go_enter Tryz.func33,Tryz.ntmps33
  go_upto_region 1 with fail
  generalize (w.alloc (.cells #[.bool g,.slice A n c,.float .f64 f,.bool false] 70)).alloc (.cells #[.bool g',.slice A' n' c',.float .f64 f',.bool true] 70)=w0 at *
  go_wp2_with fail
  (with_reducible refine (HC.out _ HB.out).mono ?_)
  intro e w1 hcp
  obtain ⟨he,hb1⟩:=HU.out _ _ _ _ _ hcp
  rw [HzI.out] at he
  subst he
  clear hcp
  go_wp2_with fail
  go_ret
  exact HK.out _ (HB.out.trans (hb1.mono HB.out.size))
theorem compare_ok {q1 q2:Nv} {w:World} (h1:q1.At w (fun b=>b<w.heap.size)) (h2:q2.At w (fun b=>b<w.heap.size)):Calls Tryz.prog 33 #[q1.v,q2.v] w (CmPost w q1.nm q2.nm):=by
 cases e1:q1.b <;> cases e2:q2.b
 ·exact cmp_ii h1 h2 e1 e2
 ·exact cmp_if h1 h2 e1 e2
 ·exact cmp_fi h1 h2 e1 e2
 ·exact cmp_ff h1 h2 e1 e2
end
section
open Go.RowKit Hb Ht
attribute [local go_sem ↓] Go.wp_at_zero Go.wp_at_succ
attribute [local go_sem] run_store_float
def fl4 (qs:List Nv):List Value:=qs.flatMap Nv.vals
theorem fl4_length (qs:List Nv):(fl4 qs).length=qs.length * 4:=by
 induction qs with
 | nil=>rfl
 | cons q qs ih=>
  have e:fl4 (q :: qs)=q.vals ++ fl4 qs:=by simp [fl4]
  rw [e,List.length_append,ih,List.length_cons]
  show 4+_=_
  omega
theorem fl4_append (ps qs:List Nv):fl4 (ps ++ qs)=fl4 ps ++ fl4 qs:=by simp [fl4]
theorem fl4_one (qs:List Nv):∀ u∈fl4 qs,u.oneCell'=true:=by
 intro u hu
 obtain ⟨q,hq,hy⟩:=List.mem_flatMap.1 hu
 simp [Nv.vals] at hy
 rcases hy with rfl | rfl | rfl | rfl <;> rfl
structure NRd (lo:Nat) (w:World) (A:Option Addr) (n:Nat) (qs:List Nv):Prop where
 len:qs.length=n
 rd:qs ≠ []→∃ b o,A=some ⟨b,o,none⟩∧b<w.heap.size∧∀ i u,(fl4 qs)[i]?=some u→w.cell? ⟨b,o+i,none⟩=some u
 kid:∀ q∈qs,q.At w (fun b=>lo≤b∧b<w.heap.size)
theorem NRd.up {lo:Nat} {w w':World} {A:Option Addr} {n:Nat} {qs:List Nv} (h:NRd lo w A n qs) (hb:Below w.heap.size w w'):NRd lo w' A n qs:=
 ⟨h.len,fun hne=>by
  obtain ⟨b,o,e,hlt,hc⟩:=h.rd hne
  exact ⟨b,o,e,Nat.lt_of_lt_of_le hlt hb.size,fun i u hi=>(hb.cell (p:=⟨b,o+i,none⟩) hlt).trans (hc i u hi)⟩,fun q hq=>(h.kid q hq).upL hb⟩
theorem NRd.two {lo:Nat} {w:World} {A:Option Addr} {q1 q2:Nv} (h:NRd lo w A 2 [q1,q2]):∃ b o,A=some ⟨b,o,none⟩∧b<w.heap.size ∧
  (w.cell? ⟨b,o,none⟩=some (.bool q1.g)∧w.cell? ⟨b,o+1,none⟩=some (.slice q1.A q1.n q1.c)∧w.cell? ⟨b,o+2,none⟩=some (.float .f64 q1.f)∧w.cell? ⟨b,o+3,none⟩=some (.bool q1.b)) ∧
  (w.cell? ⟨b,o+4,none⟩=some (.bool q2.g)∧w.cell? ⟨b,o+5,none⟩=some (.slice q2.A q2.n q2.c)∧w.cell? ⟨b,o+6,none⟩=some (.float .f64 q2.f)∧w.cell? ⟨b,o+7,none⟩=some (.bool q2.b)):=by
 obtain ⟨b,o,e,hlt,hc⟩:=h.rd (by simp)
 exact ⟨b,o,e,hlt,⟨hc 0 _ rfl,hc 1 _ rfl,hc 2 _ rfl,hc 3 _ rfl⟩,⟨hc 4 _ rfl,hc 5 _ rfl,hc 6 _ rfl,hc 7 _ rfl⟩⟩
def UBox (w:World) (g:Nat) (t:TypeId) (u:Value):Prop:=w.heap[g]?=some (.cells #[u] t (0,0))
theorem UBox.lt {w:World} {g:Nat} {t:TypeId} {u:Value} (h:UBox w g t u):g<w.heap.size:=(Array.getElem?_eq_some_iff.1 h).1
theorem UBox.below {w w':World} {g B:Nat} {t:TypeId} {u:Value} (h:UBox w g t u) (hb:Below B w w') (hB:g<B):UBox w' g t u:=(hb.block g hB).trans h
theorem UBox.cell {w:World} {g:Nat} {t:TypeId} {u:Value} (h:UBox w g t u):w.cell? ⟨g,0,none⟩=some u:=by
 unfold UBox at h
 simp [World.cell?,h]
set_option maxRecDepth 100000 in
set_option maxHeartbeats 4000000 in
theorem any_ok {lo:Nat} {q1 q2:Nv} {ui uf:Value} {w:World} {A:Option Addr} {c D F:Nat} (h:NRd lo w A 2 [q1,q2]) (hD:UBox w D 134 ui) (hE:UBox w F 137 uf) (I:Int→Int→Int × Int) (Fo:Nat→Nat→Nat)
  (hI:∀ a b,q1.nm = .int a→q2.nm = .int b→∃ fi,ui = .func (.func fi) #[] #[]∧FnB fi∧∀ y,Below w.heap.size w y→Calls Tryz.prog fi #[.agg #[.bool q1.g,.slice q1.A q1.n q1.c],.agg #[.bool q2.g,.slice q2.A q2.n q2.c]] y (IPost y (I a b).1 (I a b).2))
  (hF:(∃ f,q1.nm = .flo f)∨(∃ f,q2.nm = .flo f)→∃ ff,uf = .func (.func ff) #[] #[]∧FnB ff∧∀ a b,floR q1.nm=some a→floR q2.nm=some b→Num64 (Fo a b)∧∀ y,Calls Tryz.prog ff #[.float .f64 a,.float .f64 b] y (fun e w'=>e = .returned (.float .f64 (Fo a b))∧y=w')) :
  Calls Tryz.prog 106 #[.slice A 2 c,.pointer (some ⟨D,0,none⟩),.pointer (some ⟨F,0,none⟩)] w (NPost w (bothR I Fo q1.nm q2.nm)):=by
 have HC:=Lib.hid (fun (y:World) (hy:Below w.heap.size w y)=>both_ok (w:=y) (((h.kid q1 (by simp)).upL hy).wide (fun b hb=>hb.2)) (((h.kid q2 (by simp)).upL hy).wide (fun b hb=>hb.2)) I Fo (fun a b e1 e2=>by
   obtain ⟨fi,r1,r2,r3⟩:=hI a b e1 e2
   exact ⟨fi,r1,r2,fun y2 hy2=>r3 y2 (hy.trans (hy2.mono hy.size))⟩) (fun hh=>hF hh))
 obtain ⟨Rb,Ro,rfl,hlt,⟨a0,a1,a2,a3⟩,⟨b0,b1,b2,b3⟩⟩:=h.two
 have HB:=Lib.hid (show Below w.heap.size w (w.alloc (.cells nought.vals.toArray 70)) from (Below.refl _ _).alloc (Nat.le_refl _) _)
 have HZ:=Lib.hid (World.size_alloc w (.cells nought.vals.toArray 70))
 have HX:=Lib.hid (NBox.new w nought)
 have HD:=Lib.hid (hD.below HB.out hD.lt)
 have HE:=Lib.hid (hE.below HB.out hE.lt)
 have HLt:=Lib.hid (And.intro hD.lt hE.lt)
 have HA:=Lib.hid (show ∀ y,Below w.heap.size w y→(y.cell? ⟨Rb,Ro,none⟩=some (.bool q1.g)∧y.cell? ⟨Rb,Ro+1,none⟩=some (.slice q1.A q1.n q1.c)∧y.cell? ⟨Rb,Ro+2,none⟩=some (.float .f64 q1.f)∧y.cell? ⟨Rb,Ro+3,none⟩=some (.bool q1.b))∧(y.cell? ⟨Rb,Ro+4,none⟩=some (.bool q2.g)∧y.cell? ⟨Rb,Ro+5,none⟩=some (.slice q2.A q2.n q2.c)∧y.cell? ⟨Rb,Ro+6,none⟩=some (.float .f64 q2.f)∧y.cell? ⟨Rb,Ro+7,none⟩=some (.bool q2.b)) from
  fun y hy=>⟨⟨(hy.cell (p:=⟨Rb,Ro,none⟩) hlt).trans a0,(hy.cell (p:=⟨Rb,Ro+1,none⟩) hlt).trans a1,(hy.cell (p:=⟨Rb,Ro+2,none⟩) hlt).trans a2,(hy.cell (p:=⟨Rb,Ro+3,none⟩) hlt).trans a3⟩,
   ⟨(hy.cell (p:=⟨Rb,Ro+4,none⟩) hlt).trans b0,(hy.cell (p:=⟨Rb,Ro+5,none⟩) hlt).trans b1,(hy.cell (p:=⟨Rb,Ro+6,none⟩) hlt).trans b2,(hy.cell (p:=⟨Rb,Ro+7,none⟩) hlt).trans b3⟩⟩)
 have HHz:=Lib.hid (World.size_alloc w (.cells nought.vals.toArray 70))
 clear h hD hE hI hF a0 a1 a2 a3 b0 b1 b2 b3 hlt
 obtain ⟨g,A,n,c,l,f,b⟩:=q1
 obtain ⟨g',A',n',c',l',f',b'⟩:=q2
 simp only [nought,Nv.vals] at HB HZ HX HD HE
 simp only [Nv.v,Nv.vals] at HC
 simp only at HA
 generalize Nv.nm ⟨g,A,n,c,l,f,b⟩=x1 at *
 generalize Nv.nm ⟨g',A',n',c',l',f',b'⟩=x2 at *
 generalize bothR I Fo x1 x2=R at *
 go_enter Tryz.func106,Tryz.ntmps106
 go_upto_region 1 with fail
 generalize w.alloc (.cells #[.bool false,.slice none 0 0,.float .f64 0,.bool false] 70)=w0 at *
 refine wp_region_U 11 (by kernel_rfl) (fun z0 K0 hs0=>?_)
 refine qz 0 K0 ?_
 refine qz 1 K0 ?_
 refine qz 2 K0 ?_ (y:=fun z5 hS=>by obtain ⟨⟨a0,a1,a2,a3⟩,⟨b0,b1,b2,b3⟩⟩:=HA.out _ (HB.out.trans (hS.mono HB.out.size));go_simp;rfl)
 refine qz 3 K0 ?_
 refine qz 4 K0 ?_
 refine qz 5 K0 ?_ (y:=fun z5 hS=>by obtain ⟨⟨a0,a1,a2,a3⟩,⟨b0,b1,b2,b3⟩⟩:=HA.out _ (HB.out.trans (hS.mono HB.out.size));go_simp;rfl)
 refine qz 6 K0 ?_ (y:=fun z5 hS=>by have q0:=(HD.out.below hS HD.out.lt).cell;go_simp;rfl)
 refine qz 7 K0 ?_ (y:=fun z5 hS=>by have q0:=(HE.out.below hS HE.out.lt).cell;go_simp;rfl)
 refine uW 8 fun K hK=>?_
 go_simp
 (with_reducible refine (HC.out z0 (HB.out.trans (K0.mono HB.out.size))).mono ?_)
 rintro e w2 ⟨hb2,q,ev,rfl,ho2⟩
 have K2:=K0.trans (hb2.mono K0.size)
 have hs0:=K0.size
 have hX2:=HX.out.below K2 HX.out.lt
 obtain ⟨c0,c1',c2,c3⟩:=hX2.cells
 obtain ⟨z0',z1,z2,z3⟩:=hX2.frozens
 have hS:=Lib.hid (hX2.set4 q)
 have HB2:=Lib.hid (HB.out.trans (K2.mono HB.out.size))
 have HO2:=Lib.hid (ho2.lower (lo':=w.heap.size) (by have:=HB.out.size;omega) hs0)
 have HX2:=Lib.hid hX2
 obtain ⟨gq,Aq,nq,cq,lq,fq,bq⟩:=q
 simp only [nought] at c0 c1' c2 c3 hS
 simp only [Nv.v,Nv.vals]
 refine hK.out _ _ (fun _=>K2) ?_
 refine qz 9 K2 ?_
 refine qz 10 K2 ?_
 refine uW 11 fun K hK=>?_
 go_simp
 refine hK.out _ _ (fun h=>absurd h (by simp)) ?_
 refine uW 12 fun K hK=>?_
 go_simp
 refine hK.out _ _ (fun h=>absurd h (by simp)) ?_
 refine wpAnyW_done (by kernel_rfl) ?_ _
 clear hX2 K2 K0 hs0 hb2 ho2
 go_wp2_with fail
 obtain ⟨r0,r1,r2,r3⟩:=hS.out.1.cells
 simp only at r0 r1 r2 r3
 refine bodyPost_ret (v:=.tuple #[.agg #[.bool gq,.slice Aq nq cq,.float .f64 fq,.bool bq],ev]) (by simp [results,Tryz.results106,go_sem,r0,r1,r2,r3]) rfl ?_
 have hz:=HZ.out
 exact NPost.fin (q:=⟨gq,Aq,nq,cq,lq,fq,bq⟩) HB2.out (by omega) HX2.out (HO2.out.lower (Nat.le_refl _) (by omega)) hS.out.2
end
end Go.Proofs.YtjpnmmjgdiiahaaGreatDoor
namespace Hq
open Go Go.Maps Go.WideMaps Go.RowKit
def heldR (v:Value):Option (DataW Value × List MemPlace):=some (.held v,[])
def FMap (P:Program) (K:TypeId) (w:World) (b N:Nat) (T:List (List UInt8 × Value)):Prop:=
 ∃ D:DataW Value,w.ownsMap P K heldR b N D∧∀ nm:List UInt8,Maps.has D (.string nm)=(T.lookup nm).isSome∧∀ x,T.lookup nm=some x→∀ z,D.atKey (.string nm) z = .held x
section
variable {P:Program} {K E t:TypeId} {w:World} {b N:Nat} {T:List (List UInt8 × Value)}
theorem FMap.lt (h:FMap P K w b N T):b<w.heap.size:=let ⟨_,h1,_⟩:=h;h1.lt
theorem FMap.below {w':World} {C:Nat} (h:FMap P K w b N T) (hb:Below C w w') (hC:b<C):FMap P K w' b N T:=by
 obtain ⟨D,⟨es,clock,h1,h3⟩,h2⟩:=h
 exact ⟨D,⟨es,clock,(hb.block b hC).trans h1,h3⟩,h2⟩
theorem FMap.made (w:World):FMap P K (w.alloc (.map #[] 0)) w.heap.size 0 []:=
 ⟨_,World.ownsMap_made w P K heldR,fun nm=>⟨rfl,fun x h=>by cases h⟩⟩
theorem FMap.look (h:FMap P K w b N T) (law:Keyed P K) (hk:P.underlying K=some .string) (ht:P.underlying t=some (.map K E)) {z:Value} (hz:(zeroValue E).run P w = .ok z w) {s:ByteArray} (hs:s.size≤maxLen) :
  (Instr.lookup t (.map (some b)) (.string s) false).run P w = .ok ((T.lookup s.data.toList).getD z) w:=by
 obtain ⟨D,h1,h2⟩:=h
 obtain ⟨e1,e2⟩:=h2 s.data.toList
 obtain ⟨v,ps,hrun,hv⟩:=h1.lookup law ht hz (zd:=.held z) (zp:=[]) rfl (keyOf_string_mk hk hs)
 rw [hrun]
 congr 1
 unfold heldR at hv
 cases hf:T.lookup s.data.toList with
 | none=>
  rw [hf] at e1
  rw [atKey_of_not_has (by simpa using e1)] at hv
  injection hv with hv
  injection hv with hv _
  injection hv
 | some x=>
  rw [e2 x hf] at hv
  injection hv with hv
  injection hv with hv _
  injection hv
theorem FMap.store (h:FMap P K w b N T) (law:Keyed P K) (hk:P.underlying K=some .string) (ht:P.underlying t=some (.map K E)) (hN:N<maxLen) {s:ByteArray} (hs:s.size≤maxLen) (x:Value) :
  ∃ w',(Instr.mapUpdate t (.map (some b)) (.string s) x).run P w = .ok () w'∧FMap P K w' b (N+1) ((s.data.toList,x) :: T)∧w.grownBy w' (some b):=by
 obtain ⟨D,h1,h2⟩:=h
 obtain ⟨w',hrun,hown,hg⟩:=h1.update law ht hN (keyOf_string_mk hk hs) (show heldR x=some (.held x,[]) from rfl)
 refine ⟨w',hrun,⟨_,hown,fun nm=>?_⟩,hg⟩
 have hm:=h1.isMap
 have hkey:WideAt.IsKeyLit (.string s.data.toList):=law.key (keyOf_string_mk hk hs)
 rw [List.lookup_cons]
 by_cases hn:nm=s.data.toList
 ·subst hn
  rw [has_put_same hm hkey,beq_self_eq_true]
  exact ⟨rfl,fun y hy z=>by rw [atKey_put_same hm hkey];injection hy with hy;rw [hy]⟩
 ·have hne:(Lit.string nm) ≠ .string s.data.toList:=fun e=>hn (by injection e)
  rw [has_put_other hne,show (nm==s.data.toList)=false from beq_eq_false_iff_ne.2 hn]
  exact ⟨(h2 nm).1,fun y hy z=>by rw [atKey_put_other hne];exact (h2 nm).2 y hy z⟩
end
end Hq
namespace Go.Proofs.YtjpnmmjgdiiahaaGreatDoor
section
open Go.RowKit Hb Ht Hq
attribute [local go_sem ↓] Go.wp_at_zero Go.wp_at_succ
theorem lawF:Go.Maps.Keyed Tryz.prog 9:=Go.Maps.string_keyed Tryz.underlying9
abbrev FM (w:World) (b N:Nat) (T:List (List UInt8 × Value)):Prop:=FMap Tryz.prog 9 w b N T
structure MS (w0 w:World) (b N:Nat) (T:List (List UInt8 × Value)) (bx:List (Nat × TypeId × Value)):Prop where
 bel:Below w0.heap.size w0 w
 fm:FM w b N T
 lo:w0.heap.size≤b
 box:∀ p∈bx,UBox w p.1 p.2.1 p.2.2∧p.1≠b
theorem MS.below {w0 w w':World} {b N:Nat} {T:List (List UInt8 × Value)} {bx:List (Nat × TypeId × Value)} (h:MS w0 w b N T bx) (hb:Below w.heap.size w w'):MS w0 w' b N T bx:=
 ⟨h.bel.trans (hb.mono h.bel.size),h.fm.below hb h.fm.lt,h.lo,fun p hp=>⟨(h.box p hp).1.below hb (h.box p hp).1.lt,(h.box p hp).2⟩⟩
theorem MS.more {w0 w:World} {b N:Nat} {T:List (List UInt8 × Value)} {bx:List (Nat × TypeId × Value)} (h:MS w0 w b N T bx) {g:Nat} {t:TypeId} {u:Value} (hu:UBox w g t u) (hg:g≠b):MS w0 w b N T ((g,t,u) :: bx):=
 ⟨h.bel,h.fm,h.lo,fun p hp=>by rcases List.mem_cons.1 hp with rfl | hp;exact ⟨hu,hg⟩;exact h.box p hp⟩
theorem MS.put {w0 w:World} {b N:Nat} {T:List (List UInt8 × Value)} {bx:List (Nat × TypeId × Value)} (h:MS w0 w b N T bx) (hN:N<1000) {s:ByteArray} (hs:s.size≤1000) (x:Value) :
  ∃ w',(Instr.mapUpdate 90 (.map (some b)) (.string s) x).run Tryz.prog w = .ok () w'∧MS w0 w' b (N+1) ((s.data.toList,x) :: T) bx:=by
 obtain ⟨w',h1,h2,h3⟩:=h.fm.store lawF Tryz.underlying9 Tryz.underlying90 (by unfold maxLen;omega) (s:=s) (by unfold maxLen;omega) x
 exact ⟨w',h1,h.bel.grown h3 h.bel.size (fun j e=>by injection e with e;have:=h.lo;omega),h2,h.lo,fun p hp=>⟨(h3.block p.1 (h.box p hp).1.lt (fun e=>by injection e with e;exact (h.box p hp).2 e)).trans (h.box p hp).1,(h.box p hp).2⟩⟩
theorem MS.made (w0:World):MS w0 (w0.alloc (.map #[] 0)) w0.heap.size 0 [] []:=⟨(Below.refl _ _).alloc (Nat.le_refl _) _,FMap.made w0,Nat.le_refl _,fun p hp=>by cases hp⟩
theorem MS.back {w0 w1 w:World} {b N:Nat} {T:List (List UInt8 × Value)} {bx:List (Nat × TypeId × Value)} (h:MS w1 w b N T bx) (hb:Below w0.heap.size w0 w1):MS w0 w b N T bx:=
 ⟨hb.trans (h.bel.mono hb.size),h.fm,Nat.le_trans hb.size h.lo,h.box⟩
theorem run_store_func (P:Program) (w:World) (a:Addr) (m:Mode) (fn:Fn) (first cap:Array Value):(store a (.func fn first cap) m).run P w=stored P w a (.func fn first cap) m:=run_store P w a _ m rfl
attribute [local go_sem] run_store_func
set_option maxRecDepth 100000 in
theorem any_mk (fi ff:FuncId) (w:World):Calls Tryz.prog 105 #[.func (.func fi) #[] #[],.func (.func ff) #[] #[]] w fun e w'=>∃ D E,e = .returned (.func (.func 106) #[] #[.pointer (some ⟨D,0,none⟩),.pointer (some ⟨E,0,none⟩)])∧UBox w' D 134 (.func (.func fi) #[] #[])∧UBox w' E 137 (.func (.func ff) #[] #[])∧w.heap.size≤D∧w.heap.size≤E∧Below w.heap.size w w':=by
 have hmf:∀ (fn:Fn) (first cap:Array Value) (w:World),(Instr.makeFunc fn first cap).run Tryz.prog w = .ok (.func fn first cap) w:=fun _ _ _ _=>rfl
 have h1:UBox (w.alloc (.cells #[.func (.func fi) #[] #[]] 134)) w.heap.size 134 (.func (.func fi) #[] #[]):=heap_alloc_new w _
 have h2:UBox ((w.alloc (.cells #[.func (.func fi) #[] #[]] 134)).alloc (.cells #[.func (.func ff) #[] #[]] 137)) (w.heap.size+1) 137 (.func (.func ff) #[] #[]):=by
  have:=heap_alloc_new (w.alloc (.cells #[.func (.func fi) #[] #[]] 134)) (.cells #[.func (.func ff) #[] #[]] 137)
  rwa [World.size_alloc] at this
 have HU:=Lib.hid (And.intro (h1.below ((Below.refl _ _).alloc (Nat.le_refl _) (.cells #[.func (.func ff) #[] #[]] 137)) h1.lt) (And.intro h2 (show Below w.heap.size w ((w.alloc (.cells #[.func (.func fi) #[] #[]] 134)).alloc (.cells #[.func (.func ff) #[] #[]] 137)) from ((Below.refl _ _).alloc (Nat.le_refl _) _).alloc (by simp) _)))
 clear h1 h2
 go_enter Tryz.func105,Tryz.ntmps105
 go_wp2_with fail
 go_ret
 exact ⟨_,_,rfl,HU.out.1,HU.out.2.1,Nat.le_refl _,Nat.le_succ _,HU.out.2.2⟩
set_option maxRecDepth 100000 in
theorem whole_mk (fi:FuncId) (w:World):Calls Tryz.prog 103 #[.func (.func fi) #[] #[]] w fun e w'=>∃ D,e = .returned (.func (.func 104) #[] #[.pointer (some ⟨D,0,none⟩)])∧UBox w' D 134 (.func (.func fi) #[] #[])∧w.heap.size≤D∧Below w.heap.size w w':=by
 have hmf:∀ (fn:Fn) (first cap:Array Value) (w:World),(Instr.makeFunc fn first cap).run Tryz.prog w = .ok (.func fn first cap) w:=fun _ _ _ _=>rfl
 have HU:=Lib.hid (And.intro (show UBox (w.alloc (.cells #[.func (.func fi) #[] #[]] 134)) w.heap.size 134 (.func (.func fi) #[] #[]) from heap_alloc_new w _) (show Below w.heap.size w (w.alloc (.cells #[.func (.func fi) #[] #[]] 134)) from (Below.refl _ _).alloc (Nat.le_refl _) _))
 go_enter Tryz.func103,Tryz.ntmps103
 go_wp2_with fail
 go_ret
 exact ⟨_,rfl,HU.out.1,Nat.le_refl _,HU.out.2⟩
set_option maxRecDepth 100000 in
theorem round_mk (fi:FuncId) (w:World):Calls Tryz.prog 78 #[.func (.func fi) #[] #[]] w fun e w'=>∃ D,e = .returned (.func (.func 79) #[] #[.pointer (some ⟨D,0,none⟩)])∧UBox w' D 110 (.func (.func fi) #[] #[])∧w.heap.size≤D∧Below w.heap.size w w':=by
 have hmf:∀ (fn:Fn) (first cap:Array Value) (w:World),(Instr.makeFunc fn first cap).run Tryz.prog w = .ok (.func fn first cap) w:=fun _ _ _ _=>rfl
 have HU:=Lib.hid (And.intro (show UBox (w.alloc (.cells #[.func (.func fi) #[] #[]] 110)) w.heap.size 110 (.func (.func fi) #[] #[]) from heap_alloc_new w _) (show Below w.heap.size w (w.alloc (.cells #[.func (.func fi) #[] #[]] 110)) from (Below.refl _ _).alloc (Nat.le_refl _) _))
 go_enter Tryz.func78,Tryz.ntmps78
 go_wp2_with fail
 go_ret
 exact ⟨_,rfl,HU.out.1,Nat.le_refl _,HU.out.2⟩
def twoT (D0 E0 D1 E1 D2 E2 D4 D5 D6 D7 D14 D15 D16 D17:Nat):List (List UInt8 × Value):=[([103,99,100],.func (.func 104) #[] #[.pointer (some ⟨D17,0,none⟩)]),([120,111,114],.func (.func 104) #[] #[.pointer (some ⟨D16,0,none⟩)]),([92,47],.func (.func 104) #[] #[.pointer (some ⟨D15,0,none⟩)]),([47,92],.func (.func 104) #[] #[.pointer (some ⟨D14,0,none⟩)]),([60,60],.func (.func 126) #[] #[]),([62,62],.func (.func 124) #[] #[]),([42,42],.func (.func 123) #[] #[]),([94],.func (.func 123) #[] #[]),([109,97,120],.func (.func 122) #[] #[]),([109,105,110],.func (.func 121) #[] #[]),([109,111,100],.func (.func 104) #[] #[.pointer (some ⟨D7,0,none⟩)]),([100,105,118],.func (.func 104) #[] #[.pointer (some ⟨D6,0,none⟩)]),([114,101,109],.func (.func 104) #[] #[.pointer (some ⟨D5,0,none⟩)]),([47,47],.func (.func 104) #[] #[.pointer (some ⟨D4,0,none⟩)]),([47],.func (.func 114) #[] #[]),([42],.func (.func 106) #[] #[.pointer (some ⟨D2,0,none⟩),.pointer (some ⟨E2,0,none⟩)]),([45],.func (.func 106) #[] #[.pointer (some ⟨D1,0,none⟩),.pointer (some ⟨E1,0,none⟩)]),([43],.func (.func 106) #[] #[.pointer (some ⟨D0,0,none⟩),.pointer (some ⟨E0,0,none⟩)])]
def twoX (D0 E0 D1 E1 D2 E2 D4 D5 D6 D7 D14 D15 D16 D17:Nat):List (Nat × TypeId × Value):=[(D17,134,.func (.func 130) #[] #[]),(D16,134,.func (.func 129) #[] #[]),(D15,134,.func (.func 128) #[] #[]),(D14,134,.func (.func 127) #[] #[]),(D7,134,.func (.func 120) #[] #[]),(D6,134,.func (.func 118) #[] #[]),(D5,134,.func (.func 117) #[] #[]),(D4,134,.func (.func 115) #[] #[]),(E2,137,.func (.func 113) #[] #[]),(D2,134,.func (.func 112) #[] #[]),(E1,137,.func (.func 111) #[] #[]),(D1,134,.func (.func 110) #[] #[]),(E0,137,.func (.func 109) #[] #[]),(D0,134,.func (.func 108) #[] #[])]
set_option maxRecDepth 100000 in
set_option maxHeartbeats 8000000 in
theorem two_ok (w:World):Calls Tryz.prog 46 #[] w fun e w'=>∃ b D0 E0 D1 E1 D2 E2 D4 D5 D6 D7 D14 D15 D16 D17,e = .returned (.map (some b))∧MS w w' b 18 (twoT D0 E0 D1 E1 D2 E2 D4 D5 D6 D7 D14 D15 D16 D17) (twoX D0 E0 D1 E1 D2 E2 D4 D5 D6 D7 D14 D15 D16 D17):=by
 have hmf:∀ (fn:Fn) (first cap:Array Value) (w:World),(Instr.makeFunc fn first cap).run Tryz.prog w = .ok (.func fn first cap) w:=fun _ _ _ _=>rfl
 have hmm:=@run_makeMap Tryz.prog
 have HM:=Lib.hid (MS.made w)
 go_enter Tryz.func46,Tryz.ntmps46
 go_wp2_with fail
 (with_reducible refine (any_mk _ _ _).mono ?_)
 rintro e v0 ⟨D0,E0,rfl,hd,he,hD,hE,hb⟩
 have hlt:=HM.out.fm.lt
 have HM:=Lib.hid (((HM.out.below hb).more hd (by omega)).more he (by omega))
 clear hd he hD hE hb hlt
 go_wp2_with fail
 obtain ⟨w10,hrun,hm⟩:=HM.out.put (by decide) (s:=⟨#[43]⟩) (by decide) (.func (.func 106) #[] #[.pointer (some ⟨D0,0,none⟩),.pointer (some ⟨E0,0,none⟩)])
 have HM:=Lib.hid hm
 clear hm
 go_wp2_with fail
 clear hrun
 (with_reducible refine (any_mk _ _ _).mono ?_)
 rintro e v1 ⟨D1,E1,rfl,hd,he,hD,hE,hb⟩
 have hlt:=HM.out.fm.lt
 have HM:=Lib.hid (((HM.out.below hb).more hd (by omega)).more he (by omega))
 clear hd he hD hE hb hlt
 go_wp2_with fail
 obtain ⟨w11,hrun,hm⟩:=HM.out.put (by decide) (s:=⟨#[45]⟩) (by decide) (.func (.func 106) #[] #[.pointer (some ⟨D1,0,none⟩),.pointer (some ⟨E1,0,none⟩)])
 have HM:=Lib.hid hm
 clear hm
 go_wp2_with fail
 clear hrun
 (with_reducible refine (any_mk _ _ _).mono ?_)
 rintro e v2 ⟨D2,E2,rfl,hd,he,hD,hE,hb⟩
 have hlt:=HM.out.fm.lt
 have HM:=Lib.hid (((HM.out.below hb).more hd (by omega)).more he (by omega))
 clear hd he hD hE hb hlt
 go_wp2_with fail
 obtain ⟨w12,hrun,hm⟩:=HM.out.put (by decide) (s:=⟨#[42]⟩) (by decide) (.func (.func 106) #[] #[.pointer (some ⟨D2,0,none⟩),.pointer (some ⟨E2,0,none⟩)])
 have HM:=Lib.hid hm
 clear hm
 go_wp2_with fail
 clear hrun
 obtain ⟨w13,hrun,hm⟩:=HM.out.put (by decide) (s:=⟨#[47]⟩) (by decide) (.func (.func 114) #[] #[])
 have HM:=Lib.hid hm
 clear hm
 go_wp2_with fail
 clear hrun
 (with_reducible refine (whole_mk _ _).mono ?_)
 rintro e v4 ⟨D4,rfl,hd,hD,hb⟩
 have hlt:=HM.out.fm.lt
 have HM:=Lib.hid ((HM.out.below hb).more hd (by omega))
 clear hd hD hb hlt
 go_wp2_with fail
 obtain ⟨w14,hrun,hm⟩:=HM.out.put (by decide) (s:=⟨#[47,47]⟩) (by decide) (.func (.func 104) #[] #[.pointer (some ⟨D4,0,none⟩)])
 have HM:=Lib.hid hm
 clear hm
 go_wp2_with fail
 clear hrun
 (with_reducible refine (whole_mk _ _).mono ?_)
 rintro e v5 ⟨D5,rfl,hd,hD,hb⟩
 have hlt:=HM.out.fm.lt
 have HM:=Lib.hid ((HM.out.below hb).more hd (by omega))
 clear hd hD hb hlt
 go_wp2_with fail
 obtain ⟨w15,hrun,hm⟩:=HM.out.put (by decide) (s:=⟨#[114,101,109]⟩) (by decide) (.func (.func 104) #[] #[.pointer (some ⟨D5,0,none⟩)])
 have HM:=Lib.hid hm
 clear hm
 go_wp2_with fail
 clear hrun
 (with_reducible refine (whole_mk _ _).mono ?_)
 rintro e v6 ⟨D6,rfl,hd,hD,hb⟩
 have hlt:=HM.out.fm.lt
 have HM:=Lib.hid ((HM.out.below hb).more hd (by omega))
 clear hd hD hb hlt
 go_wp2_with fail
 obtain ⟨w16,hrun,hm⟩:=HM.out.put (by decide) (s:=⟨#[100,105,118]⟩) (by decide) (.func (.func 104) #[] #[.pointer (some ⟨D6,0,none⟩)])
 have HM:=Lib.hid hm
 clear hm
 go_wp2_with fail
 clear hrun
 (with_reducible refine (whole_mk _ _).mono ?_)
 rintro e v7 ⟨D7,rfl,hd,hD,hb⟩
 have hlt:=HM.out.fm.lt
 have HM:=Lib.hid ((HM.out.below hb).more hd (by omega))
 clear hd hD hb hlt
 go_wp2_with fail
 obtain ⟨w17,hrun,hm⟩:=HM.out.put (by decide) (s:=⟨#[109,111,100]⟩) (by decide) (.func (.func 104) #[] #[.pointer (some ⟨D7,0,none⟩)])
 have HM:=Lib.hid hm
 clear hm
 go_wp2_with fail
 clear hrun
 obtain ⟨w18,hrun,hm⟩:=HM.out.put (by decide) (s:=⟨#[109,105,110]⟩) (by decide) (.func (.func 121) #[] #[])
 have HM:=Lib.hid hm
 clear hm
 go_wp2_with fail
 clear hrun
 obtain ⟨w19,hrun,hm⟩:=HM.out.put (by decide) (s:=⟨#[109,97,120]⟩) (by decide) (.func (.func 122) #[] #[])
 have HM:=Lib.hid hm
 clear hm
 go_wp2_with fail
 clear hrun
 obtain ⟨w20,hrun,hm⟩:=HM.out.put (by decide) (s:=⟨#[94]⟩) (by decide) (.func (.func 123) #[] #[])
 have HM:=Lib.hid hm
 clear hm
 go_wp2_with fail
 clear hrun
 obtain ⟨w21,hrun,hm⟩:=HM.out.put (by decide) (s:=⟨#[42,42]⟩) (by decide) (.func (.func 123) #[] #[])
 have HM:=Lib.hid hm
 clear hm
 go_wp2_with fail
 clear hrun
 obtain ⟨w22,hrun,hm⟩:=HM.out.put (by decide) (s:=⟨#[62,62]⟩) (by decide) (.func (.func 124) #[] #[])
 have HM:=Lib.hid hm
 clear hm
 go_wp2_with fail
 clear hrun
 obtain ⟨w23,hrun,hm⟩:=HM.out.put (by decide) (s:=⟨#[60,60]⟩) (by decide) (.func (.func 126) #[] #[])
 have HM:=Lib.hid hm
 clear hm
 go_wp2_with fail
 clear hrun
 (with_reducible refine (whole_mk _ _).mono ?_)
 rintro e v14 ⟨D14,rfl,hd,hD,hb⟩
 have hlt:=HM.out.fm.lt
 have HM:=Lib.hid ((HM.out.below hb).more hd (by omega))
 clear hd hD hb hlt
 go_wp2_with fail
 obtain ⟨w24,hrun,hm⟩:=HM.out.put (by decide) (s:=⟨#[47,92]⟩) (by decide) (.func (.func 104) #[] #[.pointer (some ⟨D14,0,none⟩)])
 have HM:=Lib.hid hm
 clear hm
 go_wp2_with fail
 clear hrun
 (with_reducible refine (whole_mk _ _).mono ?_)
 rintro e v15 ⟨D15,rfl,hd,hD,hb⟩
 have hlt:=HM.out.fm.lt
 have HM:=Lib.hid ((HM.out.below hb).more hd (by omega))
 clear hd hD hb hlt
 go_wp2_with fail
 obtain ⟨w25,hrun,hm⟩:=HM.out.put (by decide) (s:=⟨#[92,47]⟩) (by decide) (.func (.func 104) #[] #[.pointer (some ⟨D15,0,none⟩)])
 have HM:=Lib.hid hm
 clear hm
 go_wp2_with fail
 clear hrun
 (with_reducible refine (whole_mk _ _).mono ?_)
 rintro e v16 ⟨D16,rfl,hd,hD,hb⟩
 have hlt:=HM.out.fm.lt
 have HM:=Lib.hid ((HM.out.below hb).more hd (by omega))
 clear hd hD hb hlt
 go_wp2_with fail
 obtain ⟨w26,hrun,hm⟩:=HM.out.put (by decide) (s:=⟨#[120,111,114]⟩) (by decide) (.func (.func 104) #[] #[.pointer (some ⟨D16,0,none⟩)])
 have HM:=Lib.hid hm
 clear hm
 go_wp2_with fail
 clear hrun
 (with_reducible refine (whole_mk _ _).mono ?_)
 rintro e v17 ⟨D17,rfl,hd,hD,hb⟩
 have hlt:=HM.out.fm.lt
 have HM:=Lib.hid ((HM.out.below hb).more hd (by omega))
 clear hd hD hb hlt
 go_wp2_with fail
 obtain ⟨w27,hrun,hm⟩:=HM.out.put (by decide) (s:=⟨#[103,99,100]⟩) (by decide) (.func (.func 104) #[] #[.pointer (some ⟨D17,0,none⟩)])
 have HM:=Lib.hid hm
 clear hm
 go_wp2_with fail
 clear hrun
 have HE:=Lib.hid (HM.out)
 go_ret
 exact ⟨_,_,_,_,_,_,_,_,_,_,_,_,_,_,_,rfl,HE.out⟩
def oneT (G D6 D7 D8 D9 D10:Nat):List (List UInt8 × Value):=[([115,113,114,116],.func (.func 100) #[] #[]),([102,108,111,97,116,95,102,114,97,99,116,105,111,110,97,108,95,112,97,114,116],.func (.func 99) #[] #[]),([102,108,111,97,116,95,105,110,116,101,103,101,114,95,112,97,114,116],.func (.func 98) #[] #[]),([105,110,116,101,103,101,114],.func (.func 79) #[] #[.pointer (some ⟨D10,0,none⟩)]),([114,111,117,110,100],.func (.func 79) #[] #[.pointer (some ⟨D9,0,none⟩)]),([99,101,105,108,105,110,103],.func (.func 79) #[] #[.pointer (some ⟨D8,0,none⟩)]),([102,108,111,111,114],.func (.func 79) #[] #[.pointer (some ⟨D7,0,none⟩)]),([116,114,117,110,99,97,116,101],.func (.func 79) #[] #[.pointer (some ⟨D6,0,none⟩)]),([102,108,111,97,116],.func (.func 93) #[] #[.pointer (some ⟨G,0,none⟩)]),([92],.func (.func 89) #[] #[]),([115,105,103,110],.func (.func 87) #[] #[]),([97,98,115],.func (.func 85) #[] #[]),([45],.func (.func 82) #[] #[]),([43],.func (.func 81) #[] #[])]
def oneX (G D6 D7 D8 D9 D10:Nat):List (Nat × TypeId × Value):=[(D10,110,.func (.func 97) #[] #[]),(D9,110,.func (.func 97) #[] #[]),(D8,110,.func (.func 96) #[] #[]),(D7,110,.func (.func 95) #[] #[]),(D6,110,.func (.func 67) #[] #[]),(G,125,.func (.func 75) #[] #[])]
set_option maxRecDepth 100000 in
set_option maxHeartbeats 8000000 in
theorem one_ok (w:World):Calls Tryz.prog 45 #[] w fun e w'=>∃ b G D6 D7 D8 D9 D10,e = .returned (.map (some b))∧MS w w' b 14 (oneT G D6 D7 D8 D9 D10) (oneX G D6 D7 D8 D9 D10):=by
 have hmf:∀ (fn:Fn) (first cap:Array Value) (w:World),(Instr.makeFunc fn first cap).run Tryz.prog w = .ok (.func fn first cap) w:=fun _ _ _ _=>rfl
 have hmm:=@run_makeMap Tryz.prog
 obtain ⟨G,hG⟩:∃ G,w.heap.size=G:=⟨_,rfl⟩
 have HU:=Lib.hid (show UBox (w.alloc (.cells #[.func (.func 75) #[] #[]] 125)) G 125 (.func (.func 75) #[] #[]) from hG ▸ heap_alloc_new w _)
 have HBw:=Lib.hid (show Below w.heap.size w (w.alloc (.cells #[.func (.func 75) #[] #[]] 125)) from (Below.refl _ _).alloc (Nat.le_refl _) _)
 have HZw:=Lib.hid (World.size_alloc w (.cells #[.func (.func 75) #[] #[]] 125))
 go_enter Tryz.func45,Tryz.ntmps45
 go_upto_region 3 with fail
 clear hG
 generalize w.alloc (.cells #[.func (.func 75) #[] #[]] 125)=w1 at *
 have HM:=Lib.hid (((MS.made w1).below (Below.refl _ _)).more (HU.out.below (show Below w1.heap.size w1 (w1.alloc (.map #[] 0)) from (Below.refl _ _).alloc (Nat.le_refl _) _) HU.out.lt) (by have:=HU.out.lt;omega))
 go_wp2_with fail
 obtain ⟨w10,hrun,hm⟩:=HM.out.put (by decide) (s:=⟨#[43]⟩) (by decide) (.func (.func 81) #[] #[])
 have HM:=Lib.hid hm
 clear hm
 go_wp2_with fail
 clear hrun
 obtain ⟨w11,hrun,hm⟩:=HM.out.put (by decide) (s:=⟨#[45]⟩) (by decide) (.func (.func 82) #[] #[])
 have HM:=Lib.hid hm
 clear hm
 go_wp2_with fail
 clear hrun
 obtain ⟨w12,hrun,hm⟩:=HM.out.put (by decide) (s:=⟨#[97,98,115]⟩) (by decide) (.func (.func 85) #[] #[])
 have HM:=Lib.hid hm
 clear hm
 go_wp2_with fail
 clear hrun
 obtain ⟨w13,hrun,hm⟩:=HM.out.put (by decide) (s:=⟨#[115,105,103,110]⟩) (by decide) (.func (.func 87) #[] #[])
 have HM:=Lib.hid hm
 clear hm
 go_wp2_with fail
 clear hrun
 obtain ⟨w14,hrun,hm⟩:=HM.out.put (by decide) (s:=⟨#[92]⟩) (by decide) (.func (.func 89) #[] #[])
 have HM:=Lib.hid hm
 clear hm
 go_wp2_with fail
 clear hrun
 obtain ⟨w15,hrun,hm⟩:=HM.out.put (by decide) (s:=⟨#[102,108,111,97,116]⟩) (by decide) (.func (.func 93) #[] #[.pointer (some ⟨G,0,none⟩)])
 have HM:=Lib.hid hm
 clear hm
 go_wp2_with fail
 clear hrun
 (with_reducible refine (round_mk _ _).mono ?_)
 rintro e v6 ⟨D6,rfl,hd,hD,hb⟩
 have hlt:=HM.out.fm.lt
 have HM:=Lib.hid ((HM.out.below hb).more hd (by omega))
 clear hd hD hb hlt
 go_wp2_with fail
 obtain ⟨w16,hrun,hm⟩:=HM.out.put (by decide) (s:=⟨#[116,114,117,110,99,97,116,101]⟩) (by decide) (.func (.func 79) #[] #[.pointer (some ⟨D6,0,none⟩)])
 have HM:=Lib.hid hm
 clear hm
 go_wp2_with fail
 clear hrun
 (with_reducible refine (round_mk _ _).mono ?_)
 rintro e v7 ⟨D7,rfl,hd,hD,hb⟩
 have hlt:=HM.out.fm.lt
 have HM:=Lib.hid ((HM.out.below hb).more hd (by omega))
 clear hd hD hb hlt
 go_wp2_with fail
 obtain ⟨w17,hrun,hm⟩:=HM.out.put (by decide) (s:=⟨#[102,108,111,111,114]⟩) (by decide) (.func (.func 79) #[] #[.pointer (some ⟨D7,0,none⟩)])
 have HM:=Lib.hid hm
 clear hm
 go_wp2_with fail
 clear hrun
 (with_reducible refine (round_mk _ _).mono ?_)
 rintro e v8 ⟨D8,rfl,hd,hD,hb⟩
 have hlt:=HM.out.fm.lt
 have HM:=Lib.hid ((HM.out.below hb).more hd (by omega))
 clear hd hD hb hlt
 go_wp2_with fail
 obtain ⟨w18,hrun,hm⟩:=HM.out.put (by decide) (s:=⟨#[99,101,105,108,105,110,103]⟩) (by decide) (.func (.func 79) #[] #[.pointer (some ⟨D8,0,none⟩)])
 have HM:=Lib.hid hm
 clear hm
 go_wp2_with fail
 clear hrun
 (with_reducible refine (round_mk _ _).mono ?_)
 rintro e v9 ⟨D9,rfl,hd,hD,hb⟩
 have hlt:=HM.out.fm.lt
 have HM:=Lib.hid ((HM.out.below hb).more hd (by omega))
 clear hd hD hb hlt
 go_wp2_with fail
 obtain ⟨w19,hrun,hm⟩:=HM.out.put (by decide) (s:=⟨#[114,111,117,110,100]⟩) (by decide) (.func (.func 79) #[] #[.pointer (some ⟨D9,0,none⟩)])
 have HM:=Lib.hid hm
 clear hm
 go_wp2_with fail
 clear hrun
 (with_reducible refine (round_mk _ _).mono ?_)
 rintro e v10 ⟨D10,rfl,hd,hD,hb⟩
 have hlt:=HM.out.fm.lt
 have HM:=Lib.hid ((HM.out.below hb).more hd (by omega))
 clear hd hD hb hlt
 go_wp2_with fail
 obtain ⟨w20,hrun,hm⟩:=HM.out.put (by decide) (s:=⟨#[105,110,116,101,103,101,114]⟩) (by decide) (.func (.func 79) #[] #[.pointer (some ⟨D10,0,none⟩)])
 have HM:=Lib.hid hm
 clear hm
 go_wp2_with fail
 clear hrun
 obtain ⟨w21,hrun,hm⟩:=HM.out.put (by decide) (s:=⟨#[102,108,111,97,116,95,105,110,116,101,103,101,114,95,112,97,114,116]⟩) (by decide) (.func (.func 98) #[] #[])
 have HM:=Lib.hid hm
 clear hm
 go_wp2_with fail
 clear hrun
 obtain ⟨w22,hrun,hm⟩:=HM.out.put (by decide) (s:=⟨#[102,108,111,97,116,95,102,114,97,99,116,105,111,110,97,108,95,112,97,114,116]⟩) (by decide) (.func (.func 99) #[] #[])
 have HM:=Lib.hid hm
 clear hm
 go_wp2_with fail
 clear hrun
 obtain ⟨w23,hrun,hm⟩:=HM.out.put (by decide) (s:=⟨#[115,113,114,116]⟩) (by decide) (.func (.func 100) #[] #[])
 have HM:=Lib.hid hm
 clear hm
 go_wp2_with fail
 clear hrun
 have HE:=Lib.hid (HM.out.back HBw.out)
 go_ret
 exact ⟨_,_,_,_,_,_,_,rfl,HE.out⟩
end
section
open Go.RowKit Hb Ht
theorem infoN:(Tryz.prog.info? 70).map (fun i=>(i.zero,i.size,i.bytes))=some (some (.agg #[.bool false,.slice none 0 0,.float .f64 0,.bool false]),4,48):=by kernel_rfl
structure NRow (w:World) (B:Nat) (P:Nat→Prop) (A:Option Addr) (n c:Nat) (qs:List Nv):Prop where
 own:w.ownsRow B 70 4 (.slice A n c) n (fl4 qs)
 kid:∀ q∈qs,q.At w (fun b=>P b∧(Value.slice A n c).ownBlock≠some b)
section
variable {w w':World} {B:Nat} {P:Nat→Prop} {A:Option Addr} {n c:Nat} {qs:List Nv}
theorem NRow.len (h:NRow w B P A n c qs):qs.length=n:=by have:=h.own.1;rw [fl4_length] at this;omega
theorem NRow.nil (w:World) (B:Nat) (P:Nat→Prop):NRow w B P none 0 0 []:=⟨⟨rfl,.inl ⟨rfl,rfl⟩⟩,fun p hp=>by cases hp⟩
theorem NRow.block (h:NRow w B P A n c qs):(A=none∧n=0)∨∃ g,A=some ⟨g,0,none⟩∧B≤g∧g<w.heap.size∧(Value.slice A n c).ownBlock=some g:=by
 rcases h.own.2 with ⟨h1,_⟩ | ⟨g,cap,cur,h1,h2,h3,_⟩
 ·injection h1 with a b c;exact .inl ⟨a,b⟩
 ·injection h1 with a b c
  subst a
  exact .inr ⟨g,rfl,h2,(Array.getElem?_eq_some_iff.1 h3).1,rfl⟩
theorem NRow.keepP (h:NRow w B P A n c qs) (hb:∀ b,B≤b→b<w.heap.size→w'.heap[b]?=w.heap[b]?) (hP:∀ b,P b→w'.heap[b]?=w.heap[b]?):NRow w' B P A n c qs:=by
 refine ⟨⟨h.own.1,?_⟩,fun p hp=>(h.kid p hp).keep (fun b hb2=>⟨hb2,hP b hb2.1⟩)⟩
 rcases h.own.2 with h1 | ⟨g,cap,cur,h1,h2,h3,h4⟩
 ·exact .inl h1
 ·exact .inr ⟨g,cap,cur,h1,h2,(hb g h2 (Array.getElem?_eq_some_iff.1 h3).1).trans h3,h4⟩
theorem NRow.wide {Q:Nat→Prop} (h:NRow w B P A n c qs) (hP:∀ b,P b→Q b):NRow w B Q A n c qs:=
 ⟨h.own,fun p hp=>(h.kid p hp).keep (fun b hb2=>⟨⟨hP b hb2.1,hb2.2⟩,rfl⟩)⟩
theorem NRow.up {lo:Nat} (h:NRow w B (fun b=>lo≤b∧b<w.heap.size) A n c qs) (hb:Below w.heap.size w w'):NRow w' B (fun b=>lo≤b∧b<w'.heap.size) A n c qs:=
 (h.keepP (fun b _ h2=>hb.block b h2) (fun b h2=>hb.block b h2.2)).wide (fun b h2=>⟨h2.1,Nat.lt_of_lt_of_le h2.2 hb.size⟩)
theorem NRow.rd {lo:Nat} (h:NRow w B (fun b=>lo≤b∧b<w.heap.size) A n c qs):NRd lo w A n qs:=by
 refine ⟨h.len,fun hne=>?_,fun q hq=>(h.kid q hq).wide (fun b hb=>hb.1)⟩
 have hn:0<n:=by rw [←h.len];exact List.length_pos_iff.2 hne
 rcases h.block with ⟨_,h0⟩ | ⟨g,rfl,hB,hg,_⟩
 ·omega
 ·refine ⟨g,0,rfl,hg,fun i u hi=>?_⟩
  have h9:=World.ownsRow.cells h.own (g:=g) rfl _ _ hi
  rw [add_zero'] at h9
  rw [Nat.zero_add]
  exact h9
end
theorem wpList_append_N {ops:Array Oper} {rest:List Oper} {o:Oper} {a:Act} {Q:Exit→Act→World→Prop} {w:World} (hgd:o.guard=none) (s x:Operand)
  (ho:o.op = .call { callee:=.builtin .append,args:=#[s,x],argTypes:=#[127,127] })
  {B:Nat} {P:Nat→Prop} {A:Option Addr} {n c:Nat} {ps:List Nv} (qs:List Nv) (hs:a.eval s = .slice A n c) (h:NRow w B P A n c ps) (hP:∀ b,P b→b<w.heap.size)
  (ad:Addr) (m c2:Nat) (hx:a.eval x = .slice (some ad) m c2) (hq:qs.length=m) (hk:∀ q∈qs,q.At w (fun b=>P b∧(Value.slice A n c).ownBlock≠some b)) (hnews:∀ j u,(fl4 qs)[j]?=some u→w.cell? (ad.add j)=some u)
  (hm:n+m≤1000) (hb:B≤w.heap.size)
  (hh:∀ A' c' w',NRow w' B P A' (n+m) c' (ps ++ qs)→Below B w w'→w.grownBy w' (Value.slice A n c).ownBlock→wpList Tryz.prog ops Q rest (a.put o.dst (.slice A' (n+m) c')) w') :
  wpList Tryz.prog ops Q (o :: rest) a w:=by
 obtain ⟨i0,hi,hz0,hz1,hz2⟩:=info_parts infoN
 have hml:n+m≤maxLen:=by unfold maxLen;omega
 have hmb:(n+m) * 48≤140737488355328:=by omega
 refine wpList_append_own_at _ hgd s x 127 ho B 70 i0 (.agg #[.bool false,.slice none 0 0,.float .f64 0,.bool false]) 4 48 Tryz.underlying127 hi hz0 hz1 hz2 rfl (by decide) _ n (fl4 ps) hs h.own ad m c2 (fl4 qs) hx (by rw [fl4_length,hq]) hnews (fl4_one qs) hml hmb hb ?_
 intro v' w' ho' hg _ hv
 have hf:∃ A' c',v' = .slice A' (n+m) c':=by
  rcases ho'.2 with ⟨h1,h2⟩ | ⟨g',cap,cur,h1,_⟩
  ·exact ⟨none,0,by rw [h1,h2]⟩
  ·exact ⟨_,cap,h1⟩
 obtain ⟨A',c',rfl⟩:=hf
 refine hh A' c' w' ⟨by rw [fl4_append];exact ho',fun p hp=>?_⟩ ⟨hg.os,hg.tape,hg.output,hg.size,fun j hj=>hg.block j (Nat.lt_of_lt_of_le hj hb) (fun e2=>?_)⟩ hg
 ·have hkid:p.At w (fun b=>P b∧(Value.slice A n c).ownBlock≠some b):=by
   rcases List.mem_append.1 hp with hp | hp
   ·exact h.kid p hp
   ·exact hk p hp
  refine hkid.keep (fun b hb2=>⟨⟨hb2.1,?_⟩,hg.block b (hP b hb2.1) (fun e=>hb2.2 e.symm)⟩)
  rcases hv with hv | hv
  ·rw [hv];exact hb2.2
  ·rw [hv];intro e;have:=hP b hb2.1;injection e with e;omega
 ·rcases h.block with ⟨h1,_⟩ | ⟨g,h1,h2,h3,h4⟩
  ·subst h1;simp [Value.ownBlock] at e2
  ·rw [h4] at e2;injection e2 with e2;omega
end
section
open Go.RowKit Hb Ht Hq
attribute [local go_sem ↓] Go.wp_at_zero Go.wp_at_succ
attribute [local go_sem] run_store_float
def sumI (a b:Int):Int × Int:=(a+b,err (tooLong (a+b)))
def difI (a b:Int):Int × Int:=(a - b,err (tooLong (a - b)))
def mulI (a b:Int):Int × Int:=(a * b,err (tooLong (a * b)))
def sumF (a b:Nat):Nat:=(Ieee.double.add a b).getD 0
def difF (a b:Nat):Nat:=(Ieee.double.sub a b).getD 0
def mulF (a b:Nat):Nat:=(Ieee.double.mul a b).getD 0
theorem err_short {z:Int} : err (tooLong z)=0→tooLong z=false:=by
 cases h:tooLong z with
 | true=>intro h9;exact absurd h9 (by decide)
 | false=>intro _;rfl
def IFn (fi:FuncId) (I:Int→Int→Int × Int):Prop:=FnB fi∧∀ (q1 q2:Nv) (y:World),q1.At y (fun b=>b<y.heap.size)→q2.At y (fun b=>b<y.heap.size)→Calls Tryz.prog fi #[.agg #[.bool q1.g,.slice q1.A q1.n q1.c],.agg #[.bool q2.g,.slice q2.A q2.n q2.c]] y (IPost y (I (ival q1.g q1.l) (ival q2.g q2.l)).1 (I (ival q1.g q1.l) (ival q2.g q2.l)).2)
def FFn (ff:FuncId) (p:Nat→Nat→Prop) (Fo:Nat→Nat→Nat):Prop:=FnB ff∧∀ a b,Flo64 a→Flo64 b→p a b→Num64 (Fo a b)∧∀ y,Calls Tryz.prog ff #[.float .f64 a,.float .f64 b] y (fun e w'=>e = .returned (.float .f64 (Fo a b))∧y=w')
theorem Add_fn:IFn 108 sumI:=⟨fun _ _=>by kernel_rfl,fun q1 q2 y h1 h2=>by
 have h:=Add_any q1.g q2.g (w:=y) (h1.lim.sl (fun b hb=>hb)) (h2.lim.sl (fun b hb=>hb)) (Nat.le_trans h1.sm (by decide)) (Nat.le_trans h2.sm (by decide)) (Nat.le_refl _) (Nat.le_refl _)
 rw [lng_ival rfl,lng_ival rfl,h1.sh,h2.sh,Bool.false_or,Bool.false_or] at h
 exact h.mono fun e w' hh=>hh.num err_short⟩
theorem Sub_fn:IFn 110 difI:=⟨fun _ _=>by kernel_rfl,fun q1 q2 y h1 h2=>by
 have h:=Sub_any q1.g q2.g (w:=y) (h1.lim.sl (fun b hb=>hb)) (h2.lim.sl (fun b hb=>hb)) (Nat.le_trans h1.sm (by decide)) (Nat.le_trans h2.sm (by decide)) (Nat.le_refl _) (Nat.le_refl _)
 rw [lng_ival rfl,lng_ival rfl,h1.sh,h2.sh,Bool.false_or,Bool.false_or] at h
 exact h.mono fun e w' hh=>hh.num err_short⟩
theorem Mul_fn:IFn 112 mulI:=⟨fun _ _=>by kernel_rfl,fun q1 q2 y h1 h2=>by
 have h:=Mul_any q1.g q2.g (w:=y) (h1.lim.sl (fun b hb=>hb)) (h2.lim.sl (fun b hb=>hb)) (Nat.le_trans (Nat.add_le_add h1.sm h2.sm) (by decide)) (Nat.le_refl _) (Nat.le_refl _)
 rw [lng_ival rfl,lng_ival rfl,h1.sh,h2.sh,Bool.false_or,Bool.false_or] at h
 exact h.mono fun e w' hh=>hh.num err_short⟩
set_option maxRecDepth 100000 in
theorem add_fn:FFn 109 (fun _ _=>True) sumF:=⟨fun _ _=>by kernel_rfl,fun a b ha hb _=>by
 obtain ⟨r,hr,hn⟩:=add_num ha.1 hb.1
 have hF:sumF a b=r:=by unfold sumF;rw [hr];rfl
 rw [hF]
 refine ⟨hn,fun y=>?_⟩
 have hop:∀ w1,(binOp .add 68 (.float .f64 a) (.float .f64 b)).run Tryz.prog w1 = .ok (.float .f64 r) w1:=fun w1=>run_float_arith w1 .add _ .f64 _ _ _ hr
 go_enter Tryz.func109,Tryz.ntmps109
 go_wp2
 go_ret
 exact ⟨rfl,rfl⟩⟩
set_option maxRecDepth 100000 in
theorem sub_fn:FFn 111 (fun _ _=>True) difF:=⟨fun _ _=>by kernel_rfl,fun a b ha hb _=>by
 obtain ⟨r,hr,hn⟩:=sub_num ha.1 hb.1
 have hF:difF a b=r:=by unfold difF;rw [hr];rfl
 rw [hF]
 refine ⟨hn,fun y=>?_⟩
 have hop:∀ w1,(binOp .sub 68 (.float .f64 a) (.float .f64 b)).run Tryz.prog w1 = .ok (.float .f64 r) w1:=fun w1=>run_float_arith w1 .sub _ .f64 _ _ _ hr
 go_enter Tryz.func111,Tryz.ntmps111
 go_wp2
 go_ret
 exact ⟨rfl,rfl⟩⟩
set_option maxRecDepth 100000 in
theorem mul_fn:FFn 113 (fun _ _=>True) mulF:=⟨fun _ _=>by kernel_rfl,fun a b ha hb _=>by
 obtain ⟨r,hr,hn⟩:=mul_num ha.1 hb.1
 have hF:mulF a b=r:=by unfold mulF;rw [hr];rfl
 rw [hF]
 refine ⟨hn,fun y=>?_⟩
 have hop:∀ w1,(binOp .mul 68 (.float .f64 a) (.float .f64 b)).run Tryz.prog w1 = .ok (.float .f64 r) w1:=fun w1=>run_float_arith w1 .mul _ .f64 _ _ _ hr
 go_enter Tryz.func113,Tryz.ntmps113
 go_wp2
 go_ret
 exact ⟨rfl,rfl⟩⟩
def DoP (F:FuncId) (caps:Array Value) (f:Nm→Nm→Rs) (w0:World):Prop:=FnB F∧∀ (lo:Nat) (y:World) (A:Option Addr) (c:Nat) (q1 q2:Nv),Below w0.heap.size w0 y→lo≤y.heap.size→NRd lo y A 2 [q1,q2]→Calls Tryz.prog F (#[.slice A 2 c] ++ caps) y (NPostL lo y (f q1.nm q2.nm))
theorem floR_flo {x:Nm} {a:Nat} {q:Nv} {w:World} {P:Nat→Prop} (h:q.At w P) (e:floR q.nm=some a):Flo64 a:=by
 unfold Nv.nm at e
 cases hb:q.b with
 | true=>rw [hb] at e;simp only [if_true] at e;injection e with e;subst e;exact h.fl
 | false=>
  rw [hb] at e
  simp only [Bool.false_eq_true,if_false] at e
  unfold floR at e
  simp only at e
  by_cases hc:tfC (ival q.g q.l)=0
  ·rw [if_pos hc] at e;injection e with e;subst e;exact tfB_flo h.sh hc
  ·rw [if_neg hc] at e;cases e
theorem NPostL.low {lo:Nat} {w w':World} {r:Rs} {e:Ending} (h:NPost w r e w') (hl:lo≤w.heap.size):NPostL lo w r e w':=by
 obtain ⟨hb,q,ev,he,ho⟩:=h
 exact ⟨hb,q,ev,he,ho.lower hl (Nat.le_refl _)⟩
theorem any_do {fi ff:FuncId} {I:Int→Int→Int × Int} {Fo:Nat→Nat→Nat} (hI:IFn fi I) (hF:FFn ff (fun _ _=>True) Fo) {w0:World} {D E:Nat} (hD:UBox w0 D 134 (.func (.func fi) #[] #[])) (hE:UBox w0 E 137 (.func (.func ff) #[] #[])) :
  DoP 106 #[.pointer (some ⟨D,0,none⟩),.pointer (some ⟨E,0,none⟩)] (bothR I Fo) w0:=by
 refine ⟨fun _ _=>by kernel_rfl,fun lo y A c q1 q2 hy hlo hr=>?_⟩
 have k1:q1.At y (fun b=>b<y.heap.size):=(hr.kid q1 (by simp)).wide (fun b hb=>hb.2)
 have k2:q2.At y (fun b=>b<y.heap.size):=(hr.kid q2 (by simp)).wide (fun b hb=>hb.2)
 refine (any_ok hr (hD.below hy hD.lt) (hE.below hy hE.lt) I Fo (fun a b e1 e2=>⟨fi,rfl,hI.1,fun y2 hy2=>?_⟩) (fun _=>⟨ff,rfl,hF.1,fun a b e1 e2=>hF.2 a b (floR_flo (x:=.int 0) k1 e1) (floR_flo (x:=.int 0) k2 e2) trivial⟩)).mono fun e w' h=>NPostL.low h hlo
 have h:=hI.2 q1 q2 y2 (k1.up hy2) (k2.up hy2)
 have g1:ival q1.g q1.l=a:=by
  unfold Nv.nm at e1
  cases hb:q1.b with
  | true=>rw [hb] at e1;simp at e1
  | false=>rw [hb] at e1;simpa using e1
 have g2:ival q2.g q2.l=b:=by
  unfold Nv.nm at e2
  cases hb:q2.b with
  | true=>rw [hb] at e2;simp at e2
  | false=>rw [hb] at e2;simpa using e2
 rw [g1,g2] at h
 exact h
end
end Go.Proofs.YtjpnmmjgdiiahaaGreatDoor
