/- The law ArithOrders of layer 7 answers true for every input, and leaves its arguments as they were; its five listed variables hold what the program's text lays. -/
import Derived.Deep.Slices
import Derived.SizedLaws
import Derived.Deep.DeepHandedRow
import Derived.WalkKit
import Derived.Lib.Hide
import Derived.Test.YtjpnmmjgdiiahaaGreatDoorRows
import Derived.Deep.QuietTactic
import Derived.BigQuiet
import Derived.Deep.RegionHeld3
import Derived.Deep.DrawnRows
import Derived.Deep.DeepCutAuto
import Derived.Deep.CutBlock
import Derived.StillTailTactics
import Derived.Deep.AppendLies
import Derived.Maps.AppendAt
import Derived.Deep.OwnRows
import Derived.Shelf.Small.Bits
import Derived.Laws.BytesArg
import Derived.Laws.AppendOwnNone
import Derived.ProofKit
import Derived.OpenShut
import Derived.JoinedCond
import Derived.JoinedOf
import Derived.JoinedAt
import Derived.ChangeSame
import Derived.ChangeSlices
import Derived.RowKit3
import Derived.Carry
import Derived.Lib.SmallJoins
import Derived.Deep.LoopGhost
import Derived.IntWalk
import Derived.Laws.Cover2
import Derived.Laws.FloatArith
import Derived.Lib.ValidU
import Derived.Shelf.Unicode.ValidAny
import Derived.Lib.LaidU8T
import Derived.Deep.Strs
import Derived.Deep.DeepWitnessRowRef
import Derived.Lib.LaidTab
import Derived.Lay
import Derived.Test.YtjpnmmjgdiiahaaGreatDoorCards
import Derived.Test.YtjpnmmjgdiiahaaGreatDoorTie
import Derived.Test.YtjpnmmjgdiiahaaGreatDoorP1
import Derived.Test.YtjpnmmjgdiiahaaGreatDoorP2
import Derived.Test.YtjpnmmjgdiiahaaGreatDoorP3
import Derived.Test.YtjpnmmjgdiiahaaGreatDoorP4
import Derived.Test.YtjpnmmjgdiiahaaGreatDoorP5
import Derived.Test.YtjpnmmjgdiiahaaGreatDoorP8
import Derived.Test.YtjpnmmjgdiiahaaGreatDoorP9
import Derived.Test.YtjpnmmjgdiiahaaGreatDoorP10
import Derived.Test.YtjpnmmjgdiiahaaGreatDoorP11
import Derived.Test.YtjpnmmjgdiiahaaGreatDoorP12
set_option linter.unusedVariables false
set_option linter.unusedSimpArgs false
set_option exponentiation.threshold 5000
namespace Go.Proofs.YtjpnmmjgdiiahaaGreatDoor
section
open Go.RowKit Hb Ht Hq
attribute [local go_sem ↓] Go.wp_at_zero Go.wp_at_succ
attribute [local go_sem] run_store_float
def intT (m:List UInt8):Tm:=.mk 3 [] m 0 0 []
def floT (f:Nat):Tm:=.mk 4 [] [] (f:Int) 0 []
theorem int_leaf (w:World) (P:Nat→Prop) {m:List UInt8} (h:m.length≤1000):TAtP w P (intT m) (.slice none 0 0):=
 TAtP.leaf w P (t:=intT m) rfl (by unfold maxLen;omega) ⟨by show ([]:List UInt8).length≤_;unfold maxLen;simp,by show m.length≤maxLen;unfold maxLen;omega,by show (0:Int)≤0∧(0:Int)<18446744073709551616;omega,by show (-9223372036854775808:Int)≤0∧(0:Int)≤9223372036854775807;omega,by show (-9223372036854775808:Int)≤3∧(3:Int)≤9223372036854775807;omega⟩
theorem flo_leaf (w:World) (P:Nat→Prop) {f:Nat} (h:f<18446744073709551616):TAtP w P (floT f) (.slice none 0 0):=
 TAtP.leaf w P (t:=floT f) rfl (by unfold maxLen;omega) ⟨by show ([]:List UInt8).length≤_;unfold maxLen;simp,by show ([]:List UInt8).length≤_;unfold maxLen;simp,by show (0:Int)≤(f:Int)∧(f:Int)<18446744073709551616;omega,by show (-9223372036854775808:Int)≤0∧(0:Int)≤9223372036854775807;omega,by show (-9223372036854775808:Int)≤4∧(4:Int)≤9223372036854775807;omega⟩
theorem Eval_val {t:Tm} {r:Rs} {x:Nm} (hev:Ev binK t r) (hr:r = .ok x) (hc:checkP t=0) {w0' w:World} {sl:Value} (ht:TAt w w.heap.size t sl) (hU:UOk w0' w):Calls Tryz.prog 24 #[valT t sl] w fun e w'=>e = .returned (.tuple #[valT (numT x) (.slice none 0 0),.nilIface])∧Below w.heap.size w w':=
 (Eval_ok kok hev hc ht hU).mono fun e w' ⟨hb,h⟩=>by
  rcases h with ⟨y,h1,h2,_⟩ | ⟨t,v,h1,_⟩
  ·rw [hr] at h1;injection h1 with h1;subst h1;exact ⟨h2,hb⟩
  ·rw [hr] at h1;cases h1
theorem Eval_err {t b:Tm} {r:Rs} (hev:Ev binK t r) (hr:r = .bad b) (hc:checkP t=0) {w0' w:World} {sl:Value} (ht:TAt w w.heap.size t sl) (hU:UOk w0' w):Calls Tryz.prog 24 #[valT t sl] w fun e w'=>∃ g,e = .returned (.tuple #[valT zeroT (.slice none 0 0),.iface 95 (.pointer (some ⟨g,0,none⟩))])∧Below w.heap.size w w':=
 (Eval_ok kok hev hc ht hU).mono fun e w' ⟨hb,h⟩=>by
  rcases h with ⟨y,h1,h2,_⟩ | ⟨t,v,h1,h2,h3⟩
  ·rw [hr] at h1;cases h1
  ·obtain ⟨g,rfl⟩:=h3.iface
   exact ⟨g,h2,hb⟩
theorem ev_int {m:List UInt8} (h:pCode m 10=0):Ev binK (intT m) (.ok (.int (pVal m 10))):=.num rfl ⟨fun _=>h,fun e=>absurd e (by show ¬(3:Int)=4;decide)⟩
theorem ev_one:Ev binK (cmpT [43] [(intT [49]),(cmpT [42] [(intT [50]),(intT [51])])]) (.ok (.int 7)):=by
 have h:Ev binK (cmpT [43] [(intT [49]),(cmpT [42] [(intT [50]),(intT [51])])]) (seqR (.ok (.int (pVal [49] 10))) (seqR (.ok (.int (pVal [50] 10))) (.ok (.int (pVal [51] 10))) (bothR mulI mulF)) (bothR sumI sumF)):=.two rfl (ev_int (by decide +kernel)) (.two rfl (ev_int (by decide +kernel)) (ev_int (by decide +kernel)))
 have e:seqR (.ok (.int (pVal [49] 10))) (seqR (.ok (.int (pVal [50] 10))) (.ok (.int (pVal [51] 10))) (bothR mulI mulF)) (bothR sumI sumF) = .ok (.int 7):=by kernel_rfl
 rw [e] at h
 exact h
theorem ev_half:Ev binK (cmpT [47] [(intT [55]),(intT [50])]) (.ok (.flo 4615063718147915776)):=by
 have h:Ev binK (cmpT [47] [(intT [55]),(intT [50])]) (seqR (.ok (.int (pVal [55] 10))) (.ok (.int (pVal [50] 10))) divR):=.two rfl (ev_int (by decide +kernel)) (ev_int (by decide +kernel))
 have e:seqR (.ok (.int (pVal [55] 10))) (.ok (.int (pVal [50] 10))) divR = .ok (.flo 4615063718147915776):=by kernel_rfl
 rw [e] at h
 exact h
theorem ev_zero:Ev binK (cmpT [47] [(intT [49]),(intT [48])]) (.bad (evT sZero)):=by
 have h:Ev binK (cmpT [47] [(intT [49]),(intT [48])]) (seqR (.ok (.int (pVal [49] 10))) (.ok (.int (pVal [48] 10))) divR):=.two rfl (ev_int (by decide +kernel)) (ev_int (by decide +kernel))
 have e:seqR (.ok (.int (pVal [49] 10))) (.ok (.int (pVal [48] 10))) divR = .bad (evT sZero):=by kernel_rfl
 rw [e] at h
 exact h
theorem chk_one:checkP (cmpT [43] [(intT [49]),(cmpT [42] [(intT [50]),(intT [51])])])=0:=by decide +kernel
theorem chk_half:checkP (cmpT [47] [(intT [55]),(intT [50])])=0:=by decide +kernel
theorem chk_zero:checkP (cmpT [47] [(intT [49]),(intT [48])])=0:=by decide +kernel
theorem cmp_awake:cmpR (intT [57,48,48,55,49,57,57,50,53,52,55,52,48,57,57,51]) (floT 4845873199050653696)=(1,0):=by
 unfold cmpR
 rw [show checkP (intT [57,48,48,55,49,57,57,50,53,52,55,52,48,57,57,51])=0 from by decide +kernel,show checkP (floT 4845873199050653696)=0 from by decide +kernel]
 rw [if_neg (by simp),if_neg (by simp)]
 show (cmpE (pVal [57,48,48,55,49,57,57,50,53,52,55,52,48,57,57,51] 10 * U74) (fV 4845873199050653696),(0:Int))=_
 rw [show fV 4845873199050653696=9007199254740992 * U74 from by
  unfold fV U74
  decide +kernel]
 rw [cmpE_scale U74_pos]
 decide +kernel
set_option maxRecDepth 100000 in
set_option maxHeartbeats 8000000 in
theorem awake_ok {w0' w:World} (hU:UOk w0' w):Calls Tryz.prog 10 #[] w fun e w'=>e = .returned (.bool true)∧Below w.heap.size w w':=by
 have HU:=Lib.hid hU
 have HB0:=Lib.hid (Below.refl w.heap.size w)
 clear hU
 go_enter Tryz.func10,Tryz.ntmps10
 go_wp2_with fail
 refine (n_ok _ _).mono ?_
 rintro e v1 ⟨rfl,hb⟩
 have HB1:=Lib.hid (HB0.out.trans (hb.mono HB0.out.size))
 clear hb
 go_wp2_with fail
 refine (n_ok _ _).mono ?_
 rintro e v2 ⟨rfl,hb⟩
 have HB2:=Lib.hid (HB1.out.trans (hb.mono HB1.out.size))
 clear hb
 go_wp2_with fail
 refine (n_ok _ _).mono ?_
 rintro e v3 ⟨rfl,hb⟩
 have HB3:=Lib.hid (HB2.out.trans (hb.mono HB2.out.size))
 clear hb
 have HF:=Lib.hid (f2_ok (w:=v3) (P:=fun b=>b<v3.heap.size) (ta:=(intT [50])) (tb:=(intT [51])) (sa:=(.slice none 0 0)) (sb:=(.slice none 0 0)) (s:=[42]) (nb:=⟨#[42]⟩) (int_leaf _ _ (by decide)) (int_leaf _ _ (by decide)) (fun b h=>h) rfl (by decide))
 rw [show valT (intT [50]) (.slice none 0 0) = .agg #[.int .i64 3,.string ⟨#[]⟩,.string ⟨#[50]⟩,.int .u64 0,.int .i64 0,.slice none 0 0] from rfl,show valT (intT [51]) (.slice none 0 0) = .agg #[.int .i64 3,.string ⟨#[]⟩,.string ⟨#[51]⟩,.int .u64 0,.int .i64 0,.slice none 0 0] from rfl] at HF
 go_wp2_with fail
 (with_reducible refine HF.out.mono ?_)
 rintro e v4 ⟨sl4,rfl,hat,hb⟩
 obtain ⟨A4,c4,rfl,_⟩:=TAtP.iff.1 hat
 have HT4:=Lib.hid (show TAt v4 v4.heap.size (cmpT [42] [(intT [50]),(intT [51])]) (.slice A4 2 c4) from hat.wide (fun b hb2=>hb2.elim (fun h=>Nat.lt_of_lt_of_le h hb.size) (·.2)))
 have HB4:=Lib.hid (HB3.out.trans (hb.mono HB3.out.size))
 rw [show valT (cmpT [42] [(intT [50]),(intT [51])]) (.slice A4 (Ht.Tm.as (cmpT [42] [(intT [50]),(intT [51])])).length c4) = .agg #[.int .i64 5,.string ⟨#[42]⟩,.string ⟨#[]⟩,.int .u64 0,.int .i64 0,.slice A4 2 c4] from rfl]
 clear hb hat HF
 have HF:=Lib.hid (f2_ok (w:=v4) (P:=fun b=>b<v4.heap.size) (ta:=(intT [49])) (tb:=(cmpT [42] [(intT [50]),(intT [51])])) (sa:=(.slice none 0 0)) (sb:=(.slice A4 2 c4)) (s:=[43]) (nb:=⟨#[43]⟩) (int_leaf _ _ (by decide)) (HT4.out) (fun b h=>h) rfl (by decide))
 rw [show valT (intT [49]) (.slice none 0 0) = .agg #[.int .i64 3,.string ⟨#[]⟩,.string ⟨#[49]⟩,.int .u64 0,.int .i64 0,.slice none 0 0] from rfl,show valT (cmpT [42] [(intT [50]),(intT [51])]) (.slice A4 2 c4) = .agg #[.int .i64 5,.string ⟨#[42]⟩,.string ⟨#[]⟩,.int .u64 0,.int .i64 0,.slice A4 2 c4] from rfl] at HF
 go_wp2_with fail
 (with_reducible refine HF.out.mono ?_)
 rintro e v5 ⟨sl5,rfl,hat,hb⟩
 obtain ⟨A5,c5,rfl,_⟩:=TAtP.iff.1 hat
 have HT5:=Lib.hid (show TAt v5 v5.heap.size (cmpT [43] [(intT [49]),(cmpT [42] [(intT [50]),(intT [51])])]) (.slice A5 2 c5) from hat.wide (fun b hb2=>hb2.elim (fun h=>Nat.lt_of_lt_of_le h hb.size) (·.2)))
 have HB5:=Lib.hid (HB4.out.trans (hb.mono HB4.out.size))
 rw [show valT (cmpT [43] [(intT [49]),(cmpT [42] [(intT [50]),(intT [51])])]) (.slice A5 (Ht.Tm.as (cmpT [43] [(intT [49]),(cmpT [42] [(intT [50]),(intT [51])])])).length c5) = .agg #[.int .i64 5,.string ⟨#[43]⟩,.string ⟨#[]⟩,.int .u64 0,.int .i64 0,.slice A5 2 c5] from rfl]
 clear hb hat HF
 have HE:=Lib.hid (Eval_val ev_one rfl chk_one HT5.out (HU.out.below HB5.out))
 rw [show valT (cmpT [43] [(intT [49]),(cmpT [42] [(intT [50]),(intT [51])])]) (.slice A5 2 c5) = .agg #[.int .i64 5,.string ⟨#[43]⟩,.string ⟨#[]⟩,.int .u64 0,.int .i64 0,.slice A5 2 c5] from rfl] at HE
 go_wp2_with fail
 (with_reducible refine HE.out.mono ?_)
 rintro e v6 ⟨rfl,hb⟩
 rw [show valT (numT (.int 7)) (.slice none 0 0) = .agg #[.int .i64 3,.string ⟨#[]⟩,.string ⟨#[55]⟩,.int .u64 0,.int .i64 0,.slice none 0 0] from by kernel_rfl]
 have HX1:=Lib.hid (show (v6.alloc (.cells #[.int .i64 3,.string ⟨#[]⟩,.string ⟨#[55]⟩,.int .u64 0,.int .i64 0,.slice none 0 0] 25)).heap[v6.heap.size]?=some (.cells #[.int .i64 3,.string ⟨#[]⟩,.string ⟨#[55]⟩,.int .u64 0,.int .i64 0,.slice none 0 0] 25 (0,0)) from heap_alloc_new v6 _)
 have HBa:=Lib.hid (show Below v6.heap.size v6 (v6.alloc (.cells #[.int .i64 3,.string ⟨#[]⟩,.string ⟨#[55]⟩,.int .u64 0,.int .i64 0,.slice none 0 0] 25)) from (Below.refl _ _).alloc (Nat.le_refl _) _)
 have HBb:=Lib.hid (hb.trans (HBa.out.mono hb.size))
 have HB7:=Lib.hid (HB5.out.trans (HBb.out.mono HB5.out.size))
 clear hb HE HBa HBb
 go_upto_region 2 with fail
 generalize v6.alloc (.cells #[.int .i64 3,.string ⟨#[]⟩,.string ⟨#[55]⟩,.int .u64 0,.int .i64 0,.slice none 0 0] 25)=v7 at *
 go_wp2_with fail
 refine (n_ok _ _).mono ?_
 rintro e v8 ⟨rfl,hb⟩
 have HB8:=Lib.hid (HB7.out.trans (hb.mono HB7.out.size))
 have HX1:=Lib.hid ((hb.block _ (Array.getElem?_eq_some_iff.1 HX1.out).1).trans HX1.out)
 clear hb
 go_wp2_with fail
 refine (n_ok _ _).mono ?_
 rintro e v9 ⟨rfl,hb⟩
 have HB9:=Lib.hid (HB8.out.trans (hb.mono HB8.out.size))
 have HX1:=Lib.hid ((hb.block _ (Array.getElem?_eq_some_iff.1 HX1.out).1).trans HX1.out)
 clear hb
 have HF:=Lib.hid (f2_ok (w:=v9) (P:=fun b=>b<v9.heap.size) (ta:=(intT [55])) (tb:=(intT [50])) (sa:=(.slice none 0 0)) (sb:=(.slice none 0 0)) (s:=[47]) (nb:=⟨#[47]⟩) (int_leaf _ _ (by decide)) (int_leaf _ _ (by decide)) (fun b h=>h) rfl (by decide))
 rw [show valT (intT [55]) (.slice none 0 0) = .agg #[.int .i64 3,.string ⟨#[]⟩,.string ⟨#[55]⟩,.int .u64 0,.int .i64 0,.slice none 0 0] from rfl,show valT (intT [50]) (.slice none 0 0) = .agg #[.int .i64 3,.string ⟨#[]⟩,.string ⟨#[50]⟩,.int .u64 0,.int .i64 0,.slice none 0 0] from rfl] at HF
 go_wp2_with fail
 (with_reducible refine HF.out.mono ?_)
 rintro e v10 ⟨sl10,rfl,hat,hb⟩
 obtain ⟨A10,c10,rfl,_⟩:=TAtP.iff.1 hat
 have HT10:=Lib.hid (show TAt v10 v10.heap.size (cmpT [47] [(intT [55]),(intT [50])]) (.slice A10 2 c10) from hat.wide (fun b hb2=>hb2.elim (fun h=>Nat.lt_of_lt_of_le h hb.size) (·.2)))
 have HB10:=Lib.hid (HB9.out.trans (hb.mono HB9.out.size))
 rw [show valT (cmpT [47] [(intT [55]),(intT [50])]) (.slice A10 (Ht.Tm.as (cmpT [47] [(intT [55]),(intT [50])])).length c10) = .agg #[.int .i64 5,.string ⟨#[47]⟩,.string ⟨#[]⟩,.int .u64 0,.int .i64 0,.slice A10 2 c10] from rfl]
 have HX1:=Lib.hid ((hb.block _ (Array.getElem?_eq_some_iff.1 HX1.out).1).trans HX1.out)
 clear hb hat HF
 have HE:=Lib.hid (Eval_val ev_half rfl chk_half HT10.out (HU.out.below HB10.out))
 rw [show valT (cmpT [47] [(intT [55]),(intT [50])]) (.slice A10 2 c10) = .agg #[.int .i64 5,.string ⟨#[47]⟩,.string ⟨#[]⟩,.int .u64 0,.int .i64 0,.slice A10 2 c10] from rfl] at HE
 go_wp2_with fail
 (with_reducible refine HE.out.mono ?_)
 rintro e v11 ⟨rfl,hb⟩
 rw [show valT (numT (.flo 4615063718147915776)) (.slice none 0 0) = .agg #[.int .i64 4,.string ⟨#[]⟩,.string ⟨#[]⟩,.int .u64 4615063718147915776,.int .i64 0,.slice none 0 0] from by kernel_rfl]
 have HX2:=Lib.hid (show (v11.alloc (.cells #[.int .i64 4,.string ⟨#[]⟩,.string ⟨#[]⟩,.int .u64 4615063718147915776,.int .i64 0,.slice none 0 0] 25)).heap[v11.heap.size]?=some (.cells #[.int .i64 4,.string ⟨#[]⟩,.string ⟨#[]⟩,.int .u64 4615063718147915776,.int .i64 0,.slice none 0 0] 25 (0,0)) from heap_alloc_new v11 _)
 have HBa:=Lib.hid (show Below v11.heap.size v11 (v11.alloc (.cells #[.int .i64 4,.string ⟨#[]⟩,.string ⟨#[]⟩,.int .u64 4615063718147915776,.int .i64 0,.slice none 0 0] 25)) from (Below.refl _ _).alloc (Nat.le_refl _) _)
 have HBb:=Lib.hid (hb.trans (HBa.out.mono hb.size))
 have HB12:=Lib.hid (HB10.out.trans (HBb.out.mono HB10.out.size))
 have HX1:=Lib.hid ((HBb.out.block _ (Array.getElem?_eq_some_iff.1 HX1.out).1).trans HX1.out)
 clear hb HE HBa HBb
 go_upto_region 3 with fail
 generalize v11.alloc (.cells #[.int .i64 4,.string ⟨#[]⟩,.string ⟨#[]⟩,.int .u64 4615063718147915776,.int .i64 0,.slice none 0 0] 25)=v12 at *
 go_wp2_with fail
 refine (n_ok _ _).mono ?_
 rintro e v13 ⟨rfl,hb⟩
 have HB13:=Lib.hid (HB12.out.trans (hb.mono HB12.out.size))
 have HX1:=Lib.hid ((hb.block _ (Array.getElem?_eq_some_iff.1 HX1.out).1).trans HX1.out)
 have HX2:=Lib.hid ((hb.block _ (Array.getElem?_eq_some_iff.1 HX2.out).1).trans HX2.out)
 clear hb
 go_wp2_with fail
 refine (n_ok _ _).mono ?_
 rintro e v14 ⟨rfl,hb⟩
 have HB14:=Lib.hid (HB13.out.trans (hb.mono HB13.out.size))
 have HX1:=Lib.hid ((hb.block _ (Array.getElem?_eq_some_iff.1 HX1.out).1).trans HX1.out)
 have HX2:=Lib.hid ((hb.block _ (Array.getElem?_eq_some_iff.1 HX2.out).1).trans HX2.out)
 clear hb
 have HF:=Lib.hid (f2_ok (w:=v14) (P:=fun b=>b<v14.heap.size) (ta:=(intT [49])) (tb:=(intT [48])) (sa:=(.slice none 0 0)) (sb:=(.slice none 0 0)) (s:=[47]) (nb:=⟨#[47]⟩) (int_leaf _ _ (by decide)) (int_leaf _ _ (by decide)) (fun b h=>h) rfl (by decide))
 rw [show valT (intT [49]) (.slice none 0 0) = .agg #[.int .i64 3,.string ⟨#[]⟩,.string ⟨#[49]⟩,.int .u64 0,.int .i64 0,.slice none 0 0] from rfl,show valT (intT [48]) (.slice none 0 0) = .agg #[.int .i64 3,.string ⟨#[]⟩,.string ⟨#[48]⟩,.int .u64 0,.int .i64 0,.slice none 0 0] from rfl] at HF
 go_wp2_with fail
 (with_reducible refine HF.out.mono ?_)
 rintro e v15 ⟨sl15,rfl,hat,hb⟩
 obtain ⟨A15,c15,rfl,_⟩:=TAtP.iff.1 hat
 have HT15:=Lib.hid (show TAt v15 v15.heap.size (cmpT [47] [(intT [49]),(intT [48])]) (.slice A15 2 c15) from hat.wide (fun b hb2=>hb2.elim (fun h=>Nat.lt_of_lt_of_le h hb.size) (·.2)))
 have HB15:=Lib.hid (HB14.out.trans (hb.mono HB14.out.size))
 rw [show valT (cmpT [47] [(intT [49]),(intT [48])]) (.slice A15 (Ht.Tm.as (cmpT [47] [(intT [49]),(intT [48])])).length c15) = .agg #[.int .i64 5,.string ⟨#[47]⟩,.string ⟨#[]⟩,.int .u64 0,.int .i64 0,.slice A15 2 c15] from rfl]
 have HX1:=Lib.hid ((hb.block _ (Array.getElem?_eq_some_iff.1 HX1.out).1).trans HX1.out)
 have HX2:=Lib.hid ((hb.block _ (Array.getElem?_eq_some_iff.1 HX2.out).1).trans HX2.out)
 clear hb hat HF
 have HE:=Lib.hid (Eval_err ev_zero rfl chk_zero HT15.out (HU.out.below HB15.out))
 rw [show valT (cmpT [47] [(intT [49]),(intT [48])]) (.slice A15 2 c15) = .agg #[.int .i64 5,.string ⟨#[47]⟩,.string ⟨#[]⟩,.int .u64 0,.int .i64 0,.slice A15 2 c15] from rfl] at HE
 go_wp2_with fail
 (with_reducible refine HE.out.mono ?_)
 rintro e v16 ⟨gg,rfl,hb⟩
 rw [show valT zeroT (.slice none 0 0) = .agg #[.int .i64 0,.string ⟨#[]⟩,.string ⟨#[]⟩,.int .u64 0,.int .i64 0,.slice none 0 0] from rfl]
 have HX3:=Lib.hid (show (v16.alloc (.cells #[.int .i64 0,.string ⟨#[]⟩,.string ⟨#[]⟩,.int .u64 0,.int .i64 0,.slice none 0 0] 25)).heap[v16.heap.size]?=some (.cells #[.int .i64 0,.string ⟨#[]⟩,.string ⟨#[]⟩,.int .u64 0,.int .i64 0,.slice none 0 0] 25 (0,0)) from heap_alloc_new v16 _)
 have HBa:=Lib.hid (show Below v16.heap.size v16 (v16.alloc (.cells #[.int .i64 0,.string ⟨#[]⟩,.string ⟨#[]⟩,.int .u64 0,.int .i64 0,.slice none 0 0] 25)) from (Below.refl _ _).alloc (Nat.le_refl _) _)
 have HBb:=Lib.hid (hb.trans (HBa.out.mono hb.size))
 have HB17:=Lib.hid (HB15.out.trans (HBb.out.mono HB15.out.size))
 have HX1:=Lib.hid ((HBb.out.block _ (Array.getElem?_eq_some_iff.1 HX1.out).1).trans HX1.out)
 have HX2:=Lib.hid ((HBb.out.block _ (Array.getElem?_eq_some_iff.1 HX2.out).1).trans HX2.out)
 clear hb HE HBa HBb
 go_upto_region 4 with fail
 generalize v16.alloc (.cells #[.int .i64 0,.string ⟨#[]⟩,.string ⟨#[]⟩,.int .u64 0,.int .i64 0,.slice none 0 0] 25)=v17 at *
 go_wp2_with fail
 refine (n_ok _ _).mono ?_
 rintro e v18 ⟨rfl,hb⟩
 have HB18:=Lib.hid (HB17.out.trans (hb.mono HB17.out.size))
 have HX1:=Lib.hid ((hb.block _ (Array.getElem?_eq_some_iff.1 HX1.out).1).trans HX1.out)
 have HX2:=Lib.hid ((hb.block _ (Array.getElem?_eq_some_iff.1 HX2.out).1).trans HX2.out)
 have HX3:=Lib.hid ((hb.block _ (Array.getElem?_eq_some_iff.1 HX3.out).1).trans HX3.out)
 clear hb
 have HC:=Lib.hid (Compare_ok (w:=v18) (w0':=w0') (ta:=(intT [57,48,48,55,49,57,57,50,53,52,55,52,48,57,57,51])) (tb:=floT 4845873199050653696) (sa:=.slice none 0 0) (sb:=.slice none 0 0) (int_leaf _ _ (by decide)) (flo_leaf _ _ (by decide)) (HU.out.below HB18.out))
 rw [show valT (intT [57,48,48,55,49,57,57,50,53,52,55,52,48,57,57,51]) (.slice none 0 0) = .agg #[.int .i64 3,.string ⟨#[]⟩,.string ⟨#[57,48,48,55,49,57,57,50,53,52,55,52,48,57,57,51]⟩,.int .u64 0,.int .i64 0,.slice none 0 0] from rfl,show valT (floT 4845873199050653696) (.slice none 0 0) = .agg #[.int .i64 4,.string ⟨#[]⟩,.string ⟨#[]⟩,.int .u64 4845873199050653696,.int .i64 0,.slice none 0 0] from rfl] at HC
 have hcu:∀ (e:Ending) (w1:World),CompPost v18 (intT [57,48,48,55,49,57,57,50,53,52,55,52,48,57,57,51]) (floT 4845873199050653696) e w1→e = .returned (.tuple #[.int .i64 1,.int .i64 0])∧Below v18.heap.size v18 w1:=fun e w1 h=>by
  obtain ⟨h1,h2⟩:=h
  rw [cmp_awake] at h1
  exact ⟨h1,h2⟩
 go_wp2_with fail
 (with_reducible refine HC.out.mono ?_)
 intro e v19 hcp
 obtain ⟨rfl,hb⟩:=hcu _ _ hcp
 have HB19:=Lib.hid (HB18.out.trans (hb.mono HB18.out.size))
 have HX1:=Lib.hid ((hb.block _ (Array.getElem?_eq_some_iff.1 HX1.out).1).trans HX1.out)
 have HX2:=Lib.hid ((hb.block _ (Array.getElem?_eq_some_iff.1 HX2.out).1).trans HX2.out)
 have HX3:=Lib.hid ((hb.block _ (Array.getElem?_eq_some_iff.1 HX3.out).1).trans HX3.out)
 clear hb hcp hcu HC
 go_upto_region 5 with fail
 refine wp_region_H (by kernel_rfl) (fun z0 K0 hs0=>?_)
 refine qh 0 K0 ?_ (y:=fun z5 hS=>by obtain ⟨x0,x1,x2,x3,x4,x5⟩:z5.cell? ⟨v6.heap.size,0,none⟩=some (.int .i64 3)∧z5.cell? ⟨v6.heap.size,1,none⟩=some (.string ⟨#[]⟩)∧z5.cell? ⟨v6.heap.size,2,none⟩=some (.string ⟨#[55]⟩)∧z5.cell? ⟨v6.heap.size,3,none⟩=some (.int .u64 0)∧z5.cell? ⟨v6.heap.size,4,none⟩=some (.int .i64 0)∧z5.cell? ⟨v6.heap.size,5,none⟩=some (.slice none 0 0):=(by refine ⟨?_,?_,?_,?_,?_,?_⟩ <;> (rw [cell_of_row _ _ _ _ _ (0,0) ((hS.block _ (Array.getElem?_eq_some_iff.1 HX1.out).1).trans HX1.out)];rfl));go_simp;rfl)
 refine oq 1 fun K hK=>?_
 go_simp
 refine (n_ok _ _).mono ?_
 rintro e z1 ⟨rfl,hb1⟩
 have K1:=K0.trans (hb1.mono K0.size)
 refine hK.out _ _ K1 ?_
 have HSm:=Lib.hid (Same_any (intT [55]) z1 (.slice none 0 0) (.slice none 0 0) (int_leaf _ _ (by decide)) (int_leaf _ _ (by decide)))
 rw [show valT (intT [55]) (.slice none 0 0) = .agg #[.int .i64 3,.string ⟨#[]⟩,.string ⟨#[55]⟩,.int .u64 0,.int .i64 0,.slice none 0 0] from rfl] at HSm
 refine oq 2 fun K hK=>?_
 go_simp
 (with_reducible refine HSm.out.mono ?_)
 rintro e z2 ⟨rfl,hb2⟩
 have K2:=K1.trans (hb2.mono K1.size)
 refine hK.out _ _ K2 ?_
 refine qh 3 K2 ?_
 refine wpAnyH_end (by kernel_rfl) ?_ _
 have HBz:=Lib.hid (HB19.out.trans (K2.mono HB19.out.size))
 have HXz:=Lib.hid ((K2.block _ (Array.getElem?_eq_some_iff.1 HX2.out).1).trans HX2.out)
 clear K0 K1 K2 hs0 hb1 hb2 HSm
 obtain ⟨x0,x1,x2,x3,x4,x5⟩:z2.cell? ⟨v11.heap.size,0,none⟩=some (.int .i64 4)∧z2.cell? ⟨v11.heap.size,1,none⟩=some (.string ⟨#[]⟩)∧z2.cell? ⟨v11.heap.size,2,none⟩=some (.string ⟨#[]⟩)∧z2.cell? ⟨v11.heap.size,3,none⟩=some (.int .u64 4615063718147915776)∧z2.cell? ⟨v11.heap.size,4,none⟩=some (.int .i64 0)∧z2.cell? ⟨v11.heap.size,5,none⟩=some (.slice none 0 0):=(by refine ⟨?_,?_,?_,?_,?_,?_⟩ <;> (rw [cell_of_row _ _ _ _ _ (0,0) HXz.out];rfl))
 have HSm:=Lib.hid (Same_any (floT 4615063718147915776) z2 (.slice none 0 0) (.slice none 0 0) (flo_leaf _ _ (by decide)) (flo_leaf _ _ (by decide)))
 rw [show valT (floT 4615063718147915776) (.slice none 0 0) = .agg #[.int .i64 4,.string ⟨#[]⟩,.string ⟨#[]⟩,.int .u64 4615063718147915776,.int .i64 0,.slice none 0 0] from rfl] at HSm
 go_wp2_with fail
 (with_reducible refine HSm.out.mono ?_)
 rintro e z3 ⟨rfl,hb3⟩
 have HBe:=Lib.hid (HBz.out.trans (hb3.mono HBz.out.size))
 clear hb3 HSm
 go_wp2_with fail
 go_ret
 exact ⟨rfl,HBe.out⟩
def numB (t:Tm):Bool:=decide (checkP t=0) && (decide (t.k=3) || decide (t.k=4))
theorem numB_spec {t:Tm} (h:numB t=true):checkP t=0∧(t.k=3∨t.k=4):=by
 unfold numB at h
 simp only [Bool.and_eq_true,Bool.or_eq_true,decide_eq_true_eq] at h
 exact h
theorem numB_nm {t:Tm} (h:numB t=true):∃ x,nmOf t=some x:=by
 unfold nmOf
 rcases (numB_spec h).2 with h3 | h4
 ·rw [if_pos h3];exact ⟨_,rfl⟩
 ·rw [if_neg (by omega),if_pos h4];exact ⟨_,rfl⟩
theorem deq (x k:Int):decide (x=k)=(x==k):=by
 by_cases h:x=k
 ·rw [decide_eq_true h,h];simp
 ·rw [decide_eq_false h];exact (beq_eq_false_iff_ne.2 h).symm
set_option maxRecDepth 100000 in
set_option maxHeartbeats 4000000 in
theorem number_ok {t:Tm} {sl:Value} {w:World} (ht:TAt w w.heap.size t sl) (hf:Fits t):Calls Tryz.prog 17 #[valT t sl] w fun e w'=>e = .returned (.bool (numB t))∧Below w.heap.size w w':=by
 obtain ⟨k,nl,ml,b,v,ts,nb,mb,A,c,rfl,rfl,hnb,hmb,hl1,hl2,hl3,hv,hs1,hs2⟩:=ht.letters
 obtain ⟨q,hq⟩:∃ q,ts.length=q:=⟨_,rfl⟩
 have HCk:=Lib.hid (fun (y:World) (hy:Below w.heap.size w y)=>rCheck_any (ht.to hy hy.size) hf)
 rw [hv] at HCk ⊢
 rw [hq] at HCk ⊢
 have hN:numB (.mk k nl ml b v ts)=((checkP (.mk k nl ml b v ts)==0) && ((k==3) || (k==4))):=by
  unfold numB
  rw [deq]
  show ((checkP (.mk k nl ml b v ts)==0) && (decide (k=3) || decide (k=4)))=_
  rw [deq,deq]
 generalize checkP (.mk k nl ml b v ts)=x at *
 rw [hN]
 have hX1:=TBox.new (ts:=ts) w (k:=k) (b:=b) (v:=v) (sl:=.slice A q c) hnb hmb
 have HX:=Lib.hid hX1
 have HB:=Lib.hid (show Below w.heap.size w (w.alloc (.cells #[.int .i64 k,.string nb,.string mb,.int .u64 b,.int .i64 v,.slice A q c] 25)) from (Below.refl _ _).alloc (Nat.le_refl _) _)
 have HNm:=Lib.hid (And.intro hnb hmb)
 obtain ⟨x0,x1,x2,x3,x4,x5⟩:=hX1.cells hnb hmb
 obtain ⟨b0,d0⟩:∃ b,(x==0)=b:=⟨_,rfl⟩
 obtain ⟨b3,d3⟩:∃ b,(k==3)=b:=⟨_,rfl⟩
 obtain ⟨b4,d4⟩:∃ b,(k==4)=b:=⟨_,rfl⟩
 rw [d0,d3,d4]
 clear hX1 ht hf hv hl1 hl2 hl3 hs1 hs2 hnb hmb hq hN
 cases b0 <;> cases b3 <;> cases b4
 all_goals
  go_enter Tryz.func17,Tryz.ntmps17
  go_upto_region 1 with fail
  generalize w.alloc (.cells #[.int .i64 k,.string nb,.string mb,.int .u64 b,.int .i64 v,.slice A q c] 25)=w0 at *
  go_wp2_with (go_at_call 27;(with_reducible refine (HCk.out _ HB.out).mono ?_);rintro e w1 ⟨rfl,hb1⟩;have HB1:=Lib.hid (HB.out.trans (hb1.mono HB.out.size));have HX1:=Lib.hid (HX.out.below hb1);clear hb1 x0 x1 x2 x3 x4 x5;obtain ⟨x0,x1,x2,x3,x4,x5⟩:=HX1.out.cells HNm.out.1 HNm.out.2)
  go_ret
  exact ⟨rfl,HB1.out⟩
theorem Compare_num {ta tb:Tm} {x y:Nm} {z:Int} (ha:numB ta=true) (hb:numB tb=true) (hx:nmOf ta=some x) (hy:nmOf tb=some y) (hz:cmpM x y=z) {w0':World} {sa sb:Value} {w:World} (h1:TAt w w.heap.size ta sa) (h2:TAt w w.heap.size tb sb) (hU:UOk w0' w) :
  Calls Tryz.prog 15 #[valT ta sa,valT tb sb] w fun e w'=>e = .returned (.tuple #[.int .i64 z,.int .i64 0])∧Below w.heap.size w w':=by
 have hr:cmpR ta tb=(z,0):=by
  unfold cmpR
  rw [(numB_spec ha).1,(numB_spec hb).1,if_neg (by simp),if_neg (by simp),hx,hy]
  show (cmpM x y,(0:Int))=_
  rw [hz]
 refine (Compare_ok h1 h2 hU).mono fun e w' h=>?_
 obtain ⟨e1,e2⟩:=h
 rw [hr] at e1
 exact ⟨e1,e2⟩
set_option maxRecDepth 100000 in
set_option maxHeartbeats 16000000 in
theorem Orders_walk {ta tb tc:Tm} {sa sb sc:Value} {w0' w:World} (ha:TAt w w.heap.size ta sa) (hb:TAt w w.heap.size tb sb) (hc:TAt w w.heap.size tc sc) (fa:Fits ta) (fb:Fits tb) (fc:Fits tc) (hU:UOk w0' w) :
  Calls Tryz.prog 6 #[valT ta sa,valT tb sb,valT tc sc] w fun e w'=>e = .returned (.bool true)∧Below w.heap.size w w':=by
 obtain ⟨k0,nl0,ml0,b0,v0,ts0,nb0,mb0,A0,c0,rfl,rfl,hnb0,hmb0,_,_,_,hv0,hs0,hms0⟩:=ha.letters
 obtain ⟨k1,nl1,ml1,b1,v1,ts1,nb1,mb1,A1,c1,rfl,rfl,hnb1,hmb1,_,_,_,hv1,hs1,hms1⟩:=hb.letters
 obtain ⟨k2,nl2,ml2,b2,v2,ts2,nb2,mb2,A2,c2,rfl,rfl,hnb2,hmb2,_,_,_,hv2,hs2,hms2⟩:=hc.letters
 obtain ⟨q0,hq0⟩:∃ q,ts0.length=q:=⟨_,rfl⟩
 rw [hq0] at ha hv0 ⊢
 have HN0:=Lib.hid (fun (y:World) (hy:Below w.heap.size w y)=>number_ok (ha.to hy hy.size) fa)
 rw [hv0] at HN0 ⊢
 obtain ⟨q1,hq1⟩:∃ q,ts1.length=q:=⟨_,rfl⟩
 rw [hq1] at hb hv1 ⊢
 have HN1:=Lib.hid (fun (y:World) (hy:Below w.heap.size w y)=>number_ok (hb.to hy hy.size) fb)
 rw [hv1] at HN1 ⊢
 obtain ⟨q2,hq2⟩:∃ q,ts2.length=q:=⟨_,rfl⟩
 rw [hq2] at hc hv2 ⊢
 have HN2:=Lib.hid (fun (y:World) (hy:Below w.heap.size w y)=>number_ok (hc.to hy hy.size) fc)
 rw [hv2] at HN2 ⊢
 have HCab:=Lib.hid (fun (n1:numB (Tm.mk k0 nl0 ml0 b0 v0 ts0)=true) (n2:numB (Tm.mk k1 nl1 ml1 b1 v1 ts1)=true) (x y:Nm) (z:Int) (e1:nmOf (Tm.mk k0 nl0 ml0 b0 v0 ts0)=some x) (e2:nmOf (Tm.mk k1 nl1 ml1 b1 v1 ts1)=some y) (hz:cmpM x y=z) (yw:World) (hy:Below w.heap.size w yw)=>Compare_num (w0':=w0') n1 n2 e1 e2 hz (ha.to hy hy.size) (hb.to hy hy.size) (hU.below hy))
 rw [hv0,hv1] at HCab
 have HCba:=Lib.hid (fun (n1:numB (Tm.mk k1 nl1 ml1 b1 v1 ts1)=true) (n2:numB (Tm.mk k0 nl0 ml0 b0 v0 ts0)=true) (x y:Nm) (z:Int) (e1:nmOf (Tm.mk k1 nl1 ml1 b1 v1 ts1)=some x) (e2:nmOf (Tm.mk k0 nl0 ml0 b0 v0 ts0)=some y) (hz:cmpM x y=z) (yw:World) (hy:Below w.heap.size w yw)=>Compare_num (w0':=w0') n1 n2 e1 e2 hz (hb.to hy hy.size) (ha.to hy hy.size) (hU.below hy))
 rw [hv1,hv0] at HCba
 have HCbc:=Lib.hid (fun (n1:numB (Tm.mk k1 nl1 ml1 b1 v1 ts1)=true) (n2:numB (Tm.mk k2 nl2 ml2 b2 v2 ts2)=true) (x y:Nm) (z:Int) (e1:nmOf (Tm.mk k1 nl1 ml1 b1 v1 ts1)=some x) (e2:nmOf (Tm.mk k2 nl2 ml2 b2 v2 ts2)=some y) (hz:cmpM x y=z) (yw:World) (hy:Below w.heap.size w yw)=>Compare_num (w0':=w0') n1 n2 e1 e2 hz (hb.to hy hy.size) (hc.to hy hy.size) (hU.below hy))
 rw [hv1,hv2] at HCbc
 have HCac:=Lib.hid (fun (n1:numB (Tm.mk k0 nl0 ml0 b0 v0 ts0)=true) (n2:numB (Tm.mk k2 nl2 ml2 b2 v2 ts2)=true) (x y:Nm) (z:Int) (e1:nmOf (Tm.mk k0 nl0 ml0 b0 v0 ts0)=some x) (e2:nmOf (Tm.mk k2 nl2 ml2 b2 v2 ts2)=some y) (hz:cmpM x y=z) (yw:World) (hy:Below w.heap.size w yw)=>Compare_num (w0':=w0') n1 n2 e1 e2 hz (ha.to hy hy.size) (hc.to hy hy.size) (hU.below hy))
 rw [hv0,hv2] at HCac
 have HCaa:=Lib.hid (fun (n1:numB (Tm.mk k0 nl0 ml0 b0 v0 ts0)=true) (n2:numB (Tm.mk k0 nl0 ml0 b0 v0 ts0)=true) (x y:Nm) (z:Int) (e1:nmOf (Tm.mk k0 nl0 ml0 b0 v0 ts0)=some x) (e2:nmOf (Tm.mk k0 nl0 ml0 b0 v0 ts0)=some y) (hz:cmpM x y=z) (yw:World) (hy:Below w.heap.size w yw)=>Compare_num (w0':=w0') n1 n2 e1 e2 hz (ha.to hy hy.size) (ha.to hy hy.size) (hU.below hy))
 rw [hv0] at HCaa
 have HPa:=Lib.hid (fun (h0:pCode ml0 10=0) (y:World)=>(by
  have:=Parse_any mb0 10 y hms0
  rw [show mb0.data.toList=ml0 from by rw [←hmb0],h0] at this
  exact this.mono fun e w' hh=>hh.num (fun _=>code_ok h0):Calls Tryz.prog 18 #[.string mb0,.int .i64 10] y (IPost y (pVal ml0 10) 0)))
 have HPb:=Lib.hid (fun (h0:pCode ml1 10=0) (y:World)=>(by
  have:=Parse_any mb1 10 y hms1
  rw [show mb1.data.toList=ml1 from by rw [←hmb1],h0] at this
  exact this.mono fun e w' hh=>hh.num (fun _=>code_ok h0):Calls Tryz.prog 18 #[.string mb1,.int .i64 10] y (IPost y (pVal ml1 10) 0)))
 have HRd:=Lib.hid (fun (n1:numB (Tm.mk k0 nl0 ml0 b0 v0 ts0)=true) (n2:numB (Tm.mk k1 nl1 ml1 b1 v1 ts1)=true)=>And.intro (rdOk (numB_spec n1).1) (rdOk (numB_spec n2).1))
 have HAw:=Lib.hid (fun (y:World) (hy:Below w.heap.size w y)=>awake_ok (hU.below hy))
 have hXa:(w.alloc (.cells #[.int .i64 k0,.string nb0,.string mb0,.int .u64 b0,.int .i64 v0,.slice A0 q0 c0] 25)).heap[w.heap.size]?=some (.cells #[.int .i64 k0,.string nb0,.string mb0,.int .u64 b0,.int .i64 v0,.slice A0 q0 c0] 25 (0,0)):=heap_alloc_new w _
 have hXb:((w.alloc (.cells #[.int .i64 k0,.string nb0,.string mb0,.int .u64 b0,.int .i64 v0,.slice A0 q0 c0] 25)).alloc (.cells #[.int .i64 k1,.string nb1,.string mb1,.int .u64 b1,.int .i64 v1,.slice A1 q1 c1] 25)).heap[w.heap.size+1]?=some (.cells #[.int .i64 k1,.string nb1,.string mb1,.int .u64 b1,.int .i64 v1,.slice A1 q1 c1] 25 (0,0)):=by
  have:=heap_alloc_new (w.alloc (.cells #[.int .i64 k0,.string nb0,.string mb0,.int .u64 b0,.int .i64 v0,.slice A0 q0 c0] 25)) (.cells #[.int .i64 k1,.string nb1,.string mb1,.int .u64 b1,.int .i64 v1,.slice A1 q1 c1] 25)
  rwa [World.size_alloc] at this
 have hXc:(((w.alloc (.cells #[.int .i64 k0,.string nb0,.string mb0,.int .u64 b0,.int .i64 v0,.slice A0 q0 c0] 25)).alloc (.cells #[.int .i64 k1,.string nb1,.string mb1,.int .u64 b1,.int .i64 v1,.slice A1 q1 c1] 25)).alloc (.cells #[.int .i64 k2,.string nb2,.string mb2,.int .u64 b2,.int .i64 v2,.slice A2 q2 c2] 25)).heap[w.heap.size+1+1]?=some (.cells #[.int .i64 k2,.string nb2,.string mb2,.int .u64 b2,.int .i64 v2,.slice A2 q2 c2] 25 (0,0)):=by
  have:=heap_alloc_new ((w.alloc (.cells #[.int .i64 k0,.string nb0,.string mb0,.int .u64 b0,.int .i64 v0,.slice A0 q0 c0] 25)).alloc (.cells #[.int .i64 k1,.string nb1,.string mb1,.int .u64 b1,.int .i64 v1,.slice A1 q1 c1] 25)) (.cells #[.int .i64 k2,.string nb2,.string mb2,.int .u64 b2,.int .i64 v2,.slice A2 q2 c2] 25)
  rwa [World.size_alloc,World.size_alloc] at this
 have hb1:Below (w.heap.size+1) (w.alloc (.cells #[.int .i64 k0,.string nb0,.string mb0,.int .u64 b0,.int .i64 v0,.slice A0 q0 c0] 25)) ((w.alloc (.cells #[.int .i64 k0,.string nb0,.string mb0,.int .u64 b0,.int .i64 v0,.slice A0 q0 c0] 25)).alloc (.cells #[.int .i64 k1,.string nb1,.string mb1,.int .u64 b1,.int .i64 v1,.slice A1 q1 c1] 25)):=(Below.refl _ _).alloc (by simp) _
 have hb2:Below (w.heap.size+1+1) ((w.alloc (.cells #[.int .i64 k0,.string nb0,.string mb0,.int .u64 b0,.int .i64 v0,.slice A0 q0 c0] 25)).alloc (.cells #[.int .i64 k1,.string nb1,.string mb1,.int .u64 b1,.int .i64 v1,.slice A1 q1 c1] 25)) (((w.alloc (.cells #[.int .i64 k0,.string nb0,.string mb0,.int .u64 b0,.int .i64 v0,.slice A0 q0 c0] 25)).alloc (.cells #[.int .i64 k1,.string nb1,.string mb1,.int .u64 b1,.int .i64 v1,.slice A1 q1 c1] 25)).alloc (.cells #[.int .i64 k2,.string nb2,.string mb2,.int .u64 b2,.int .i64 v2,.slice A2 q2 c2] 25)):=(Below.refl _ _).alloc (by simp) _
 have hB:Below w.heap.size w (((w.alloc (.cells #[.int .i64 k0,.string nb0,.string mb0,.int .u64 b0,.int .i64 v0,.slice A0 q0 c0] 25)).alloc (.cells #[.int .i64 k1,.string nb1,.string mb1,.int .u64 b1,.int .i64 v1,.slice A1 q1 c1] 25)).alloc (.cells #[.int .i64 k2,.string nb2,.string mb2,.int .u64 b2,.int .i64 v2,.slice A2 q2 c2] 25)):=(((Below.refl _ _).alloc (Nat.le_refl _) _).alloc (by simp) _).alloc (by simp;omega) _
 have HXa:=Lib.hid (((hb1.trans (hb2.mono (by omega))).block w.heap.size (by omega)).trans hXa)
 have HXb:=Lib.hid ((hb2.block (w.heap.size+1) (by omega)).trans hXb)
 have HXc:=Lib.hid hXc
 have HB:=Lib.hid hB
 have HZ:=Lib.hid (show (((w.alloc (.cells #[.int .i64 k0,.string nb0,.string mb0,.int .u64 b0,.int .i64 v0,.slice A0 q0 c0] 25)).alloc (.cells #[.int .i64 k1,.string nb1,.string mb1,.int .u64 b1,.int .i64 v1,.slice A1 q1 c1] 25)).alloc (.cells #[.int .i64 k2,.string nb2,.string mb2,.int .u64 b2,.int .i64 v2,.slice A2 q2 c2] 25)).heap.size=w.heap.size+1+1+1 by simp)
 have HL:=Lib.hid (And.intro (@numB_nm (Tm.mk k0 nl0 ml0 b0 v0 ts0)) (And.intro (@numB_nm (Tm.mk k1 nl1 ml1 b1 v1 ts1)) (@numB_nm (Tm.mk k2 nl2 ml2 b2 v2 ts2))))
 have HKi:=Lib.hid (show k0=3→k1=3→nmOf (Tm.mk k0 nl0 ml0 b0 v0 ts0)=some (.int (pVal ml0 10))∧nmOf (Tm.mk k1 nl1 ml1 b1 v1 ts1)=some (.int (pVal ml1 10)) from fun e1 e2=>by subst e1 e2;exact ⟨rfl,rfl⟩)
 have HK9:=Lib.hid (And.intro (fun h=>(@numB_spec (Tm.mk k0 nl0 ml0 b0 v0 ts0) h).2) (fun h=>(@numB_spec (Tm.mk k1 nl1 ml1 b1 v1 ts1) h).2))
 clear hXa hXb hXc hb1 hb2 hB ha hb hc fa fb fc hU hv0 hv1 hv2 hs0 hs1 hs2 hms0 hms1 hms2 hnb0 hnb1 hnb2 hmb0 hmb1 hmb2 hq0 hq1 hq2
 generalize hTa:(Tm.mk k0 nl0 ml0 b0 v0 ts0)=Ta at *
 generalize hTb:(Tm.mk k1 nl1 ml1 b1 v1 ts1)=Tb at *
 generalize hTc:(Tm.mk k2 nl2 ml2 b2 v2 ts2)=Tc at *
 have HTk:=Lib.hid (show Ta.k=k0∧Tb.k=k1 from by subst hTa hTb;exact ⟨rfl,rfl⟩)
 have HTm:=Lib.hid (show Ta.m=ml0∧Tb.m=ml1 from by subst hTa hTb;exact ⟨rfl,rfl⟩)
 clear hTa hTb hTc
 obtain ⟨n1,hn1⟩:∃ b,numB Ta=b:=⟨_,rfl⟩
 obtain ⟨n2,hn2⟩:∃ b,numB Tb=b:=⟨_,rfl⟩
 obtain ⟨n3,hn3⟩:∃ b,numB Tc=b:=⟨_,rfl⟩
 rw [hn1] at HN0
 rw [hn2] at HN1
 rw [hn3] at HN2
 go_enter Tryz.func6,Tryz.ntmps6
 go_upto_region 1 with fail
 generalize (((w.alloc (.cells #[.int .i64 k0,.string nb0,.string mb0,.int .u64 b0,.int .i64 v0,.slice A0 q0 c0] 25)).alloc (.cells #[.int .i64 k1,.string nb1,.string mb1,.int .u64 b1,.int .i64 v1,.slice A1 q1 c1] 25)).alloc (.cells #[.int .i64 k2,.string nb2,.string mb2,.int .u64 b2,.int .i64 v2,.slice A2 q2 c2] 25))=w0 at *
 go_upto_region 2 with (go_at_call 10;(with_reducible refine (HAw.out _ HB.out).mono ?_);rintro e w1 ⟨rfl,hb⟩;have HW:=Lib.hid hb;clear hb)
 obtain ⟨xa0,xa1,xa2,xa3,xa4,xa5⟩:w1.cell? ⟨w.heap.size,0,none⟩=some (.int .i64 k0)∧w1.cell? ⟨w.heap.size,1,none⟩=some (.string nb0)∧w1.cell? ⟨w.heap.size,2,none⟩=some (.string mb0)∧w1.cell? ⟨w.heap.size,3,none⟩=some (.int .u64 b0)∧w1.cell? ⟨w.heap.size,4,none⟩=some (.int .i64 v0)∧w1.cell? ⟨w.heap.size,5,none⟩=some (.slice A0 q0 c0):=by
  refine ⟨?_,?_,?_,?_,?_,?_⟩ <;> (rw [cell_of_row _ _ _ _ _ (0,0) ((HW.out.block _ (by have:=HZ.out;omega)).trans HXa.out)];rfl)
 obtain ⟨xb0,xb1,xb2,xb3,xb4,xb5⟩:w1.cell? ⟨w.heap.size+1,0,none⟩=some (.int .i64 k1)∧w1.cell? ⟨w.heap.size+1,1,none⟩=some (.string nb1)∧w1.cell? ⟨w.heap.size+1,2,none⟩=some (.string mb1)∧w1.cell? ⟨w.heap.size+1,3,none⟩=some (.int .u64 b1)∧w1.cell? ⟨w.heap.size+1,4,none⟩=some (.int .i64 v1)∧w1.cell? ⟨w.heap.size+1,5,none⟩=some (.slice A1 q1 c1):=by
  refine ⟨?_,?_,?_,?_,?_,?_⟩ <;> (rw [cell_of_row _ _ _ _ _ (0,0) ((HW.out.block _ (by have:=HZ.out;omega)).trans HXb.out)];rfl)
 obtain ⟨xc0,xc1,xc2,xc3,xc4,xc5⟩:w1.cell? ⟨w.heap.size+1+1,0,none⟩=some (.int .i64 k2)∧w1.cell? ⟨w.heap.size+1+1,1,none⟩=some (.string nb2)∧w1.cell? ⟨w.heap.size+1+1,2,none⟩=some (.string mb2)∧w1.cell? ⟨w.heap.size+1+1,3,none⟩=some (.int .u64 b2)∧w1.cell? ⟨w.heap.size+1+1,4,none⟩=some (.int .i64 v2)∧w1.cell? ⟨w.heap.size+1+1,5,none⟩=some (.slice A2 q2 c2):=by
  refine ⟨?_,?_,?_,?_,?_,?_⟩ <;> (rw [cell_of_row _ _ _ _ _ (0,0) ((HW.out.block _ (by have:=HZ.out;omega)).trans HXc.out)];rfl)
 go_upto_region 3 with (go_at_call 17;(with_reducible refine (HN0.out _ (HB.out.trans (HW.out.mono HB.out.size))).mono ?_);rintro e w2 ⟨rfl,hb⟩;have HW':=Lib.hid (HW.out.trans (hb.mono HW.out.size));clear hb)
 clear xa0 xa1 xa2 xa3 xa4 xa5 xb0 xb1 xb2 xb3 xb4 xb5 xc0 xc1 xc2 xc3 xc4 xc5
 clear HW
 have HW:=Lib.hid HW'.out
 clear HW'
 obtain ⟨xa0,xa1,xa2,xa3,xa4,xa5⟩:w2.cell? ⟨w.heap.size,0,none⟩=some (.int .i64 k0)∧w2.cell? ⟨w.heap.size,1,none⟩=some (.string nb0)∧w2.cell? ⟨w.heap.size,2,none⟩=some (.string mb0)∧w2.cell? ⟨w.heap.size,3,none⟩=some (.int .u64 b0)∧w2.cell? ⟨w.heap.size,4,none⟩=some (.int .i64 v0)∧w2.cell? ⟨w.heap.size,5,none⟩=some (.slice A0 q0 c0):=by
  refine ⟨?_,?_,?_,?_,?_,?_⟩ <;> (rw [cell_of_row _ _ _ _ _ (0,0) ((HW.out.block _ (by have:=HZ.out;omega)).trans HXa.out)];rfl)
 obtain ⟨xb0,xb1,xb2,xb3,xb4,xb5⟩:w2.cell? ⟨w.heap.size+1,0,none⟩=some (.int .i64 k1)∧w2.cell? ⟨w.heap.size+1,1,none⟩=some (.string nb1)∧w2.cell? ⟨w.heap.size+1,2,none⟩=some (.string mb1)∧w2.cell? ⟨w.heap.size+1,3,none⟩=some (.int .u64 b1)∧w2.cell? ⟨w.heap.size+1,4,none⟩=some (.int .i64 v1)∧w2.cell? ⟨w.heap.size+1,5,none⟩=some (.slice A1 q1 c1):=by
  refine ⟨?_,?_,?_,?_,?_,?_⟩ <;> (rw [cell_of_row _ _ _ _ _ (0,0) ((HW.out.block _ (by have:=HZ.out;omega)).trans HXb.out)];rfl)
 obtain ⟨xc0,xc1,xc2,xc3,xc4,xc5⟩:w2.cell? ⟨w.heap.size+1+1,0,none⟩=some (.int .i64 k2)∧w2.cell? ⟨w.heap.size+1+1,1,none⟩=some (.string nb2)∧w2.cell? ⟨w.heap.size+1+1,2,none⟩=some (.string mb2)∧w2.cell? ⟨w.heap.size+1+1,3,none⟩=some (.int .u64 b2)∧w2.cell? ⟨w.heap.size+1+1,4,none⟩=some (.int .i64 v2)∧w2.cell? ⟨w.heap.size+1+1,5,none⟩=some (.slice A2 q2 c2):=by
  refine ⟨?_,?_,?_,?_,?_,?_⟩ <;> (rw [cell_of_row _ _ _ _ _ (0,0) ((HW.out.block _ (by have:=HZ.out;omega)).trans HXc.out)];rfl)
 go_upto_region 4 with (go_at_call 17;(with_reducible refine (HN1.out _ (HB.out.trans (HW.out.mono HB.out.size))).mono ?_);rintro e w3 ⟨rfl,hb⟩;have HW':=Lib.hid (HW.out.trans (hb.mono HW.out.size));clear hb)
 clear xa0 xa1 xa2 xa3 xa4 xa5 xb0 xb1 xb2 xb3 xb4 xb5 xc0 xc1 xc2 xc3 xc4 xc5
 clear HW
 have HW:=Lib.hid HW'.out
 clear HW'
 obtain ⟨xa0,xa1,xa2,xa3,xa4,xa5⟩:w3.cell? ⟨w.heap.size,0,none⟩=some (.int .i64 k0)∧w3.cell? ⟨w.heap.size,1,none⟩=some (.string nb0)∧w3.cell? ⟨w.heap.size,2,none⟩=some (.string mb0)∧w3.cell? ⟨w.heap.size,3,none⟩=some (.int .u64 b0)∧w3.cell? ⟨w.heap.size,4,none⟩=some (.int .i64 v0)∧w3.cell? ⟨w.heap.size,5,none⟩=some (.slice A0 q0 c0):=by
  refine ⟨?_,?_,?_,?_,?_,?_⟩ <;> (rw [cell_of_row _ _ _ _ _ (0,0) ((HW.out.block _ (by have:=HZ.out;omega)).trans HXa.out)];rfl)
 obtain ⟨xb0,xb1,xb2,xb3,xb4,xb5⟩:w3.cell? ⟨w.heap.size+1,0,none⟩=some (.int .i64 k1)∧w3.cell? ⟨w.heap.size+1,1,none⟩=some (.string nb1)∧w3.cell? ⟨w.heap.size+1,2,none⟩=some (.string mb1)∧w3.cell? ⟨w.heap.size+1,3,none⟩=some (.int .u64 b1)∧w3.cell? ⟨w.heap.size+1,4,none⟩=some (.int .i64 v1)∧w3.cell? ⟨w.heap.size+1,5,none⟩=some (.slice A1 q1 c1):=by
  refine ⟨?_,?_,?_,?_,?_,?_⟩ <;> (rw [cell_of_row _ _ _ _ _ (0,0) ((HW.out.block _ (by have:=HZ.out;omega)).trans HXb.out)];rfl)
 obtain ⟨xc0,xc1,xc2,xc3,xc4,xc5⟩:w3.cell? ⟨w.heap.size+1+1,0,none⟩=some (.int .i64 k2)∧w3.cell? ⟨w.heap.size+1+1,1,none⟩=some (.string nb2)∧w3.cell? ⟨w.heap.size+1+1,2,none⟩=some (.string mb2)∧w3.cell? ⟨w.heap.size+1+1,3,none⟩=some (.int .u64 b2)∧w3.cell? ⟨w.heap.size+1+1,4,none⟩=some (.int .i64 v2)∧w3.cell? ⟨w.heap.size+1+1,5,none⟩=some (.slice A2 q2 c2):=by
  refine ⟨?_,?_,?_,?_,?_,?_⟩ <;> (rw [cell_of_row _ _ _ _ _ (0,0) ((HW.out.block _ (by have:=HZ.out;omega)).trans HXc.out)];rfl)
 go_upto_region 5 with (go_at_call 17;(with_reducible refine (HN2.out _ (HB.out.trans (HW.out.mono HB.out.size))).mono ?_);rintro e w4 ⟨rfl,hb⟩;have HW':=Lib.hid (HW.out.trans (hb.mono HW.out.size));clear hb)
 clear xa0 xa1 xa2 xa3 xa4 xa5 xb0 xb1 xb2 xb3 xb4 xb5 xc0 xc1 xc2 xc3 xc4 xc5
 clear HW
 have HW:=Lib.hid HW'.out
 clear HW'
 by_cases hall:n1=true∧n2=true∧n3=true
 ·obtain ⟨rfl,rfl,rfl⟩:=hall
  obtain ⟨X,hX⟩:=HL.out.1 hn1
  obtain ⟨Y,hY⟩:=HL.out.2.1 hn2
  obtain ⟨Z,hZ⟩:=HL.out.2.2 hn3
  have HGab:=Lib.hid (HCab.out hn1 hn2 X Y _ hX hY rfl)
  have HGba:=Lib.hid (HCba.out hn2 hn1 Y X _ hY hX rfl)
  have HGbc:=Lib.hid (HCbc.out hn2 hn3 Y Z _ hY hZ rfl)
  have HGac:=Lib.hid (HCac.out hn1 hn3 X Z _ hX hZ rfl)
  have HGaa:=Lib.hid (HCaa.out hn1 hn1 X X _ hX hX rfl)
  have HRo:=Lib.hid (HRd.out hn1 hn2)
  have HKk:=Lib.hid (And.intro (HK9.out.1 hn1) (HK9.out.2 hn2))
  have HXY:=Lib.hid (And.intro hX hY)
  have hba:cmpM Y X = -cmpM X Y:=cmpE_swap _ _
  have haa:cmpM X X=0:=by show cmpE _ _=0;unfold cmpE;rw [if_neg (by omega),if_neg (by omega)]
  rw [hba] at HGba
  rw [haa] at HGaa
  obtain ⟨ab,hab⟩:∃ z,cmpM X Y=z:=⟨_,rfl⟩
  obtain ⟨bc,hbc⟩:∃ z,cmpM Y Z=z:=⟨_,rfl⟩
  obtain ⟨ac,hac⟩:∃ z,cmpM X Z=z:=⟨_,rfl⟩
  rw [hab] at HGab HGba
  rw [hbc] at HGbc
  rw [hac] at HGac
  have hcase:(ab = -1∧bc = -1∧ac = -1)∨(ab = -1∧bc=0∧ac = -1)∨(ab = -1∧bc=1∧ac=ac)∨(ab=0∧bc = -1∧ac = -1)∨(ab=0∧bc=0∧ac=0)∨(ab=0∧bc=1∧ac=1)∨(ab=1∧bc = -1∧ac=ac)∨(ab=1∧bc=0∧ac=1)∨(ab=1∧bc=1∧ac=1):=by
   rw [←hab,←hbc,←hac]
   unfold cmpM cmpE
   generalize nmV X=vx
   generalize nmV Y=vy
   generalize nmV Z=vz
   rcases Int.lt_trichotomy vx vy with h1 | h1 | h1 <;> rcases Int.lt_trichotomy vy vz with h2 | h2 | h2 <;> rcases Int.lt_trichotomy vx vz with h3 | h3 | h3
   all_goals (repeat' split) <;> omega
  have HAB:=Lib.hid hab
  clear HCab HCba HCbc HCac HCaa HN0 HN1 HN2 HAw HRd HL HK9 hn1 hn2 hn3 hba haa hab hbc hac hX hY hZ
  obtain ⟨xa0,xa1,xa2,xa3,xa4,xa5⟩:w4.cell? ⟨w.heap.size,0,none⟩=some (.int .i64 k0)∧w4.cell? ⟨w.heap.size,1,none⟩=some (.string nb0)∧w4.cell? ⟨w.heap.size,2,none⟩=some (.string mb0)∧w4.cell? ⟨w.heap.size,3,none⟩=some (.int .u64 b0)∧w4.cell? ⟨w.heap.size,4,none⟩=some (.int .i64 v0)∧w4.cell? ⟨w.heap.size,5,none⟩=some (.slice A0 q0 c0):=by
   refine ⟨?_,?_,?_,?_,?_,?_⟩ <;> (rw [cell_of_row _ _ _ _ _ (0,0) ((HW.out.block _ (by have:=HZ.out;omega)).trans HXa.out)];rfl)
  obtain ⟨xb0,xb1,xb2,xb3,xb4,xb5⟩:w4.cell? ⟨w.heap.size+1,0,none⟩=some (.int .i64 k1)∧w4.cell? ⟨w.heap.size+1,1,none⟩=some (.string nb1)∧w4.cell? ⟨w.heap.size+1,2,none⟩=some (.string mb1)∧w4.cell? ⟨w.heap.size+1,3,none⟩=some (.int .u64 b1)∧w4.cell? ⟨w.heap.size+1,4,none⟩=some (.int .i64 v1)∧w4.cell? ⟨w.heap.size+1,5,none⟩=some (.slice A1 q1 c1):=by
   refine ⟨?_,?_,?_,?_,?_,?_⟩ <;> (rw [cell_of_row _ _ _ _ _ (0,0) ((HW.out.block _ (by have:=HZ.out;omega)).trans HXb.out)];rfl)
  obtain ⟨xc0,xc1,xc2,xc3,xc4,xc5⟩:w4.cell? ⟨w.heap.size+1+1,0,none⟩=some (.int .i64 k2)∧w4.cell? ⟨w.heap.size+1+1,1,none⟩=some (.string nb2)∧w4.cell? ⟨w.heap.size+1+1,2,none⟩=some (.string mb2)∧w4.cell? ⟨w.heap.size+1+1,3,none⟩=some (.int .u64 b2)∧w4.cell? ⟨w.heap.size+1+1,4,none⟩=some (.int .i64 v2)∧w4.cell? ⟨w.heap.size+1+1,5,none⟩=some (.slice A2 q2 c2):=by
   refine ⟨?_,?_,?_,?_,?_,?_⟩ <;> (rw [cell_of_row _ _ _ _ _ (0,0) ((HW.out.block _ (by have:=HZ.out;omega)).trans HXc.out)];rfl)
  go_upto_region 8 with (go_at_call 15;(with_reducible refine (HGab.out _ (HB.out.trans (HW.out.mono HB.out.size))).mono ?_);rintro e w5 ⟨rfl,hb⟩;have HW':=Lib.hid (HW.out.trans (hb.mono HW.out.size));clear hb)
  clear xa0 xa1 xa2 xa3 xa4 xa5 xb0 xb1 xb2 xb3 xb4 xb5 xc0 xc1 xc2 xc3 xc4 xc5
  clear HW
  have HW:=Lib.hid HW'.out
  clear HW'
  obtain ⟨xa0,xa1,xa2,xa3,xa4,xa5⟩:w5.cell? ⟨w.heap.size,0,none⟩=some (.int .i64 k0)∧w5.cell? ⟨w.heap.size,1,none⟩=some (.string nb0)∧w5.cell? ⟨w.heap.size,2,none⟩=some (.string mb0)∧w5.cell? ⟨w.heap.size,3,none⟩=some (.int .u64 b0)∧w5.cell? ⟨w.heap.size,4,none⟩=some (.int .i64 v0)∧w5.cell? ⟨w.heap.size,5,none⟩=some (.slice A0 q0 c0):=by
   refine ⟨?_,?_,?_,?_,?_,?_⟩ <;> (rw [cell_of_row _ _ _ _ _ (0,0) ((HW.out.block _ (by have:=HZ.out;omega)).trans HXa.out)];rfl)
  obtain ⟨xb0,xb1,xb2,xb3,xb4,xb5⟩:w5.cell? ⟨w.heap.size+1,0,none⟩=some (.int .i64 k1)∧w5.cell? ⟨w.heap.size+1,1,none⟩=some (.string nb1)∧w5.cell? ⟨w.heap.size+1,2,none⟩=some (.string mb1)∧w5.cell? ⟨w.heap.size+1,3,none⟩=some (.int .u64 b1)∧w5.cell? ⟨w.heap.size+1,4,none⟩=some (.int .i64 v1)∧w5.cell? ⟨w.heap.size+1,5,none⟩=some (.slice A1 q1 c1):=by
   refine ⟨?_,?_,?_,?_,?_,?_⟩ <;> (rw [cell_of_row _ _ _ _ _ (0,0) ((HW.out.block _ (by have:=HZ.out;omega)).trans HXb.out)];rfl)
  obtain ⟨xc0,xc1,xc2,xc3,xc4,xc5⟩:w5.cell? ⟨w.heap.size+1+1,0,none⟩=some (.int .i64 k2)∧w5.cell? ⟨w.heap.size+1+1,1,none⟩=some (.string nb2)∧w5.cell? ⟨w.heap.size+1+1,2,none⟩=some (.string mb2)∧w5.cell? ⟨w.heap.size+1+1,3,none⟩=some (.int .u64 b2)∧w5.cell? ⟨w.heap.size+1+1,4,none⟩=some (.int .i64 v2)∧w5.cell? ⟨w.heap.size+1+1,5,none⟩=some (.slice A2 q2 c2):=by
   refine ⟨?_,?_,?_,?_,?_,?_⟩ <;> (rw [cell_of_row _ _ _ _ _ (0,0) ((HW.out.block _ (by have:=HZ.out;omega)).trans HXc.out)];rfl)
  go_upto_region 9 with (go_at_call 15;(with_reducible refine (HGba.out _ (HB.out.trans (HW.out.mono HB.out.size))).mono ?_);rintro e w6 ⟨rfl,hb⟩;have HW':=Lib.hid (HW.out.trans (hb.mono HW.out.size));clear hb)
  clear xa0 xa1 xa2 xa3 xa4 xa5 xb0 xb1 xb2 xb3 xb4 xb5 xc0 xc1 xc2 xc3 xc4 xc5
  clear HW
  have HW:=Lib.hid HW'.out
  clear HW'
  obtain ⟨xa0,xa1,xa2,xa3,xa4,xa5⟩:w6.cell? ⟨w.heap.size,0,none⟩=some (.int .i64 k0)∧w6.cell? ⟨w.heap.size,1,none⟩=some (.string nb0)∧w6.cell? ⟨w.heap.size,2,none⟩=some (.string mb0)∧w6.cell? ⟨w.heap.size,3,none⟩=some (.int .u64 b0)∧w6.cell? ⟨w.heap.size,4,none⟩=some (.int .i64 v0)∧w6.cell? ⟨w.heap.size,5,none⟩=some (.slice A0 q0 c0):=by
   refine ⟨?_,?_,?_,?_,?_,?_⟩ <;> (rw [cell_of_row _ _ _ _ _ (0,0) ((HW.out.block _ (by have:=HZ.out;omega)).trans HXa.out)];rfl)
  obtain ⟨xb0,xb1,xb2,xb3,xb4,xb5⟩:w6.cell? ⟨w.heap.size+1,0,none⟩=some (.int .i64 k1)∧w6.cell? ⟨w.heap.size+1,1,none⟩=some (.string nb1)∧w6.cell? ⟨w.heap.size+1,2,none⟩=some (.string mb1)∧w6.cell? ⟨w.heap.size+1,3,none⟩=some (.int .u64 b1)∧w6.cell? ⟨w.heap.size+1,4,none⟩=some (.int .i64 v1)∧w6.cell? ⟨w.heap.size+1,5,none⟩=some (.slice A1 q1 c1):=by
   refine ⟨?_,?_,?_,?_,?_,?_⟩ <;> (rw [cell_of_row _ _ _ _ _ (0,0) ((HW.out.block _ (by have:=HZ.out;omega)).trans HXb.out)];rfl)
  obtain ⟨xc0,xc1,xc2,xc3,xc4,xc5⟩:w6.cell? ⟨w.heap.size+1+1,0,none⟩=some (.int .i64 k2)∧w6.cell? ⟨w.heap.size+1+1,1,none⟩=some (.string nb2)∧w6.cell? ⟨w.heap.size+1+1,2,none⟩=some (.string mb2)∧w6.cell? ⟨w.heap.size+1+1,3,none⟩=some (.int .u64 b2)∧w6.cell? ⟨w.heap.size+1+1,4,none⟩=some (.int .i64 v2)∧w6.cell? ⟨w.heap.size+1+1,5,none⟩=some (.slice A2 q2 c2):=by
   refine ⟨?_,?_,?_,?_,?_,?_⟩ <;> (rw [cell_of_row _ _ _ _ _ (0,0) ((HW.out.block _ (by have:=HZ.out;omega)).trans HXc.out)];rfl)
  go_upto_region 10 with (go_at_call 15;(with_reducible refine (HGbc.out _ (HB.out.trans (HW.out.mono HB.out.size))).mono ?_);rintro e w7 ⟨rfl,hb⟩;have HW':=Lib.hid (HW.out.trans (hb.mono HW.out.size));clear hb)
  clear xa0 xa1 xa2 xa3 xa4 xa5 xb0 xb1 xb2 xb3 xb4 xb5 xc0 xc1 xc2 xc3 xc4 xc5
  clear HW
  have HW:=Lib.hid HW'.out
  clear HW'
  obtain ⟨xa0,xa1,xa2,xa3,xa4,xa5⟩:w7.cell? ⟨w.heap.size,0,none⟩=some (.int .i64 k0)∧w7.cell? ⟨w.heap.size,1,none⟩=some (.string nb0)∧w7.cell? ⟨w.heap.size,2,none⟩=some (.string mb0)∧w7.cell? ⟨w.heap.size,3,none⟩=some (.int .u64 b0)∧w7.cell? ⟨w.heap.size,4,none⟩=some (.int .i64 v0)∧w7.cell? ⟨w.heap.size,5,none⟩=some (.slice A0 q0 c0):=by
   refine ⟨?_,?_,?_,?_,?_,?_⟩ <;> (rw [cell_of_row _ _ _ _ _ (0,0) ((HW.out.block _ (by have:=HZ.out;omega)).trans HXa.out)];rfl)
  obtain ⟨xb0,xb1,xb2,xb3,xb4,xb5⟩:w7.cell? ⟨w.heap.size+1,0,none⟩=some (.int .i64 k1)∧w7.cell? ⟨w.heap.size+1,1,none⟩=some (.string nb1)∧w7.cell? ⟨w.heap.size+1,2,none⟩=some (.string mb1)∧w7.cell? ⟨w.heap.size+1,3,none⟩=some (.int .u64 b1)∧w7.cell? ⟨w.heap.size+1,4,none⟩=some (.int .i64 v1)∧w7.cell? ⟨w.heap.size+1,5,none⟩=some (.slice A1 q1 c1):=by
   refine ⟨?_,?_,?_,?_,?_,?_⟩ <;> (rw [cell_of_row _ _ _ _ _ (0,0) ((HW.out.block _ (by have:=HZ.out;omega)).trans HXb.out)];rfl)
  obtain ⟨xc0,xc1,xc2,xc3,xc4,xc5⟩:w7.cell? ⟨w.heap.size+1+1,0,none⟩=some (.int .i64 k2)∧w7.cell? ⟨w.heap.size+1+1,1,none⟩=some (.string nb2)∧w7.cell? ⟨w.heap.size+1+1,2,none⟩=some (.string mb2)∧w7.cell? ⟨w.heap.size+1+1,3,none⟩=some (.int .u64 b2)∧w7.cell? ⟨w.heap.size+1+1,4,none⟩=some (.int .i64 v2)∧w7.cell? ⟨w.heap.size+1+1,5,none⟩=some (.slice A2 q2 c2):=by
   refine ⟨?_,?_,?_,?_,?_,?_⟩ <;> (rw [cell_of_row _ _ _ _ _ (0,0) ((HW.out.block _ (by have:=HZ.out;omega)).trans HXc.out)];rfl)
  go_upto_region 11 with (go_at_call 15;(with_reducible refine (HGac.out _ (HB.out.trans (HW.out.mono HB.out.size))).mono ?_);rintro e w8 ⟨rfl,hb⟩;have HW':=Lib.hid (HW.out.trans (hb.mono HW.out.size));clear hb)
  clear xa0 xa1 xa2 xa3 xa4 xa5 xb0 xb1 xb2 xb3 xb4 xb5 xc0 xc1 xc2 xc3 xc4 xc5
  clear HW
  have HW:=Lib.hid HW'.out
  clear HW'
  obtain ⟨xa0,xa1,xa2,xa3,xa4,xa5⟩:w8.cell? ⟨w.heap.size,0,none⟩=some (.int .i64 k0)∧w8.cell? ⟨w.heap.size,1,none⟩=some (.string nb0)∧w8.cell? ⟨w.heap.size,2,none⟩=some (.string mb0)∧w8.cell? ⟨w.heap.size,3,none⟩=some (.int .u64 b0)∧w8.cell? ⟨w.heap.size,4,none⟩=some (.int .i64 v0)∧w8.cell? ⟨w.heap.size,5,none⟩=some (.slice A0 q0 c0):=by
   refine ⟨?_,?_,?_,?_,?_,?_⟩ <;> (rw [cell_of_row _ _ _ _ _ (0,0) ((HW.out.block _ (by have:=HZ.out;omega)).trans HXa.out)];rfl)
  obtain ⟨xb0,xb1,xb2,xb3,xb4,xb5⟩:w8.cell? ⟨w.heap.size+1,0,none⟩=some (.int .i64 k1)∧w8.cell? ⟨w.heap.size+1,1,none⟩=some (.string nb1)∧w8.cell? ⟨w.heap.size+1,2,none⟩=some (.string mb1)∧w8.cell? ⟨w.heap.size+1,3,none⟩=some (.int .u64 b1)∧w8.cell? ⟨w.heap.size+1,4,none⟩=some (.int .i64 v1)∧w8.cell? ⟨w.heap.size+1,5,none⟩=some (.slice A1 q1 c1):=by
   refine ⟨?_,?_,?_,?_,?_,?_⟩ <;> (rw [cell_of_row _ _ _ _ _ (0,0) ((HW.out.block _ (by have:=HZ.out;omega)).trans HXb.out)];rfl)
  obtain ⟨xc0,xc1,xc2,xc3,xc4,xc5⟩:w8.cell? ⟨w.heap.size+1+1,0,none⟩=some (.int .i64 k2)∧w8.cell? ⟨w.heap.size+1+1,1,none⟩=some (.string nb2)∧w8.cell? ⟨w.heap.size+1+1,2,none⟩=some (.string mb2)∧w8.cell? ⟨w.heap.size+1+1,3,none⟩=some (.int .u64 b2)∧w8.cell? ⟨w.heap.size+1+1,4,none⟩=some (.int .i64 v2)∧w8.cell? ⟨w.heap.size+1+1,5,none⟩=some (.slice A2 q2 c2):=by
   refine ⟨?_,?_,?_,?_,?_,?_⟩ <;> (rw [cell_of_row _ _ _ _ _ (0,0) ((HW.out.block _ (by have:=HZ.out;omega)).trans HXc.out)];rfl)
  go_upto_region 12 with (go_at_call 15;(with_reducible refine (HGaa.out _ (HB.out.trans (HW.out.mono HB.out.size))).mono ?_);rintro e w9 ⟨rfl,hb⟩;have HW':=Lib.hid (HW.out.trans (hb.mono HW.out.size));clear hb)
  clear xa0 xa1 xa2 xa3 xa4 xa5 xb0 xb1 xb2 xb3 xb4 xb5 xc0 xc1 xc2 xc3 xc4 xc5
  clear HW
  have HW:=Lib.hid HW'.out
  clear HW'
  clear HGab HGba HGbc HGac HGaa
  have hk0:k0=3∨k0=4:=by have:=HKk.out.1;rwa [HTk.out.1] at this
  have hk1:k1=3∨k1=4:=by have:=HKk.out.2;rwa [HTk.out.2] at this
  have HP0:=Lib.hid (fun (e0:k0=3)=>HPa.out (by have:=HRo.out.1.1 (HTk.out.1.trans e0);rwa [HTm.out.1] at this))
  have HP1:=Lib.hid (fun (e1:k1=3)=>HPb.out (by have:=HRo.out.2.1 (HTk.out.2.trans e1);rwa [HTm.out.2] at this))
  have HCZ:=Lib.hid (show k0=3→k1=3→cmpZ (pVal ml0 10) (pVal ml1 10)=ab from fun e0 e1=>by
   obtain ⟨i1,i2⟩:=HKi.out e0 e1
   have j1:=HXY.out.1
   have j2:=HXY.out.2
   rw [i1] at j1
   rw [i2] at j2
   injection j1 with j1
   injection j2 with j2
   rw [←HAB.out,←j1,←j2]
   show _=cmpE (pVal ml0 10 * U74) (pVal ml1 10 * U74)
   rw [cmpE_scale U74_pos]
   rfl)
  have HBw:=Lib.hid (HB.out.trans (HW.out.mono HB.out.size))
  clear HPa HPb HRo HKi HKk HXY HAB HTk HTm
  generalize pVal ml0 10=p0 at *
  generalize pVal ml1 10=p1 at *
  obtain ⟨xa0,xa1,xa2,xa3,xa4,xa5⟩:w9.cell? ⟨w.heap.size,0,none⟩=some (.int .i64 k0)∧w9.cell? ⟨w.heap.size,1,none⟩=some (.string nb0)∧w9.cell? ⟨w.heap.size,2,none⟩=some (.string mb0)∧w9.cell? ⟨w.heap.size,3,none⟩=some (.int .u64 b0)∧w9.cell? ⟨w.heap.size,4,none⟩=some (.int .i64 v0)∧w9.cell? ⟨w.heap.size,5,none⟩=some (.slice A0 q0 c0):=by
   refine ⟨?_,?_,?_,?_,?_,?_⟩ <;> (rw [cell_of_row _ _ _ _ _ (0,0) ((HW.out.block _ (by have:=HZ.out;omega)).trans HXa.out)];rfl)
  obtain ⟨xb0,xb1,xb2,xb3,xb4,xb5⟩:w9.cell? ⟨w.heap.size+1,0,none⟩=some (.int .i64 k1)∧w9.cell? ⟨w.heap.size+1,1,none⟩=some (.string nb1)∧w9.cell? ⟨w.heap.size+1,2,none⟩=some (.string mb1)∧w9.cell? ⟨w.heap.size+1,3,none⟩=some (.int .u64 b1)∧w9.cell? ⟨w.heap.size+1,4,none⟩=some (.int .i64 v1)∧w9.cell? ⟨w.heap.size+1,5,none⟩=some (.slice A1 q1 c1):=by
   refine ⟨?_,?_,?_,?_,?_,?_⟩ <;> (rw [cell_of_row _ _ _ _ _ (0,0) ((HW.out.block _ (by have:=HZ.out;omega)).trans HXb.out)];rfl)
  obtain ⟨xc0,xc1,xc2,xc3,xc4,xc5⟩:w9.cell? ⟨w.heap.size+1+1,0,none⟩=some (.int .i64 k2)∧w9.cell? ⟨w.heap.size+1+1,1,none⟩=some (.string nb2)∧w9.cell? ⟨w.heap.size+1+1,2,none⟩=some (.string mb2)∧w9.cell? ⟨w.heap.size+1+1,3,none⟩=some (.int .u64 b2)∧w9.cell? ⟨w.heap.size+1+1,4,none⟩=some (.int .i64 v2)∧w9.cell? ⟨w.heap.size+1+1,5,none⟩=some (.slice A2 q2 c2):=by
   refine ⟨?_,?_,?_,?_,?_,?_⟩ <;> (rw [cell_of_row _ _ _ _ _ (0,0) ((HW.out.block _ (by have:=HZ.out;omega)).trans HXc.out)];rfl)
  clear HXa HXc xc0 xc1 xc2 xc3 xc4 xc5
  rcases hcase with ⟨rfl,rfl,rfl⟩ | ⟨rfl,rfl,rfl⟩ | ⟨rfl,rfl,_⟩ | ⟨rfl,rfl,rfl⟩ | ⟨rfl,rfl,rfl⟩ | ⟨rfl,rfl,rfl⟩ | ⟨rfl,rfl,_⟩ | ⟨rfl,rfl,rfl⟩ | ⟨rfl,rfl,rfl⟩
  all_goals
   go_upto_region 14 with fail
   by_cases hk:k0=3∧k1=3
   ·obtain ⟨rfl,rfl⟩:=hk
    have hcz:=HCZ.out rfl rfl
    have HQ0:=Lib.hid (HP0.out rfl)
    have HQ1:=Lib.hid (HP1.out rfl)
    have HCZ2:=Lib.hid hcz
    clear hk0 hk1 HP0 HP1 HCZ hcz
    go_wp2_with fail
    (with_reducible refine (HQ0.out _).mono ?_)
    rintro e w10 ⟨hb10,g10,A10,n10,c10,l10,rfl,hv10⟩
    have HKb:=Lib.hid (KBox.new w10 g10 A10 n10 c10)
    have HBa:=Lib.hid (show Below w10.heap.size w10 (w10.alloc (.cells #[.bool g10,.slice A10 n10 c10] 39)) from (Below.refl _ _).alloc (Nat.le_refl _) _)
    have HB11:=Lib.hid (hb10.trans (HBa.out.mono hb10.size))
    have HL1:=Lib.hid ((hv10 rfl).1.keep (w':=w10.alloc (.cells #[.bool g10,.slice A10 n10 c10] 39)) (Q:=fun b=>b<(w10.alloc (.cells #[.bool g10,.slice A10 n10 c10] 39)).heap.size) (fun b hb=>⟨Nat.lt_of_lt_of_le hb.2 HBa.out.size,HBa.out.block b hb.2⟩))
    have HV1:=Lib.hid (hv10 rfl).2.2.1
    clear hb10 hv10 xa0 xa1 xa2 xa3 xa4 xa5 xb0 xb1 xb2 xb3 xb4 xb5 HQ0
    go_upto_region 16 with fail
    generalize w10.alloc (.cells #[.bool g10,.slice A10 n10 c10] 39)=w11 at *
    obtain ⟨xb0,xb1,xb2,xb3,xb4,xb5⟩:w11.cell? ⟨w.heap.size+1,0,none⟩=some (.int .i64 3)∧w11.cell? ⟨w.heap.size+1,1,none⟩=some (.string nb1)∧w11.cell? ⟨w.heap.size+1,2,none⟩=some (.string mb1)∧w11.cell? ⟨w.heap.size+1,3,none⟩=some (.int .u64 b1)∧w11.cell? ⟨w.heap.size+1,4,none⟩=some (.int .i64 v1)∧w11.cell? ⟨w.heap.size+1,5,none⟩=some (.slice A1 q1 c1):=by
     have hz:=HZ.out
     have hs:=HW.out.size
     refine ⟨?_,?_,?_,?_,?_,?_⟩ <;> (rw [cell_of_row _ _ _ _ _ (0,0) ((HB11.out.block _ (by omega)).trans ((HW.out.block _ (by omega)).trans HXb.out))];rfl)
    go_wp2_with fail
    (with_reducible refine (HQ1.out _).mono ?_)
    rintro e w12 ⟨hb12,g12,A12,n12,c12,l12,rfl,hv12⟩
    have HKc:=Lib.hid (KBox.new w12 g12 A12 n12 c12)
    have HBc:=Lib.hid (show Below w12.heap.size w12 (w12.alloc (.cells #[.bool g12,.slice A12 n12 c12] 39)) from (Below.refl _ _).alloc (Nat.le_refl _) _)
    have HB13:=Lib.hid (hb12.trans (HBc.out.mono hb12.size))
    have HKb13:=Lib.hid (HKb.out.below HB13.out HKb.out.lt)
    have HL13:=Lib.hid (HL1.out.keep (w':=w12.alloc (.cells #[.bool g12,.slice A12 n12 c12] 39)) (Q:=fun b=>b<(w12.alloc (.cells #[.bool g12,.slice A12 n12 c12] 39)).heap.size) (fun b hb=>⟨Nat.lt_of_lt_of_le hb HB13.out.size,HB13.out.block b hb⟩))
    have HL2:=Lib.hid ((hv12 rfl).1.keep (w':=w12.alloc (.cells #[.bool g12,.slice A12 n12 c12] 39)) (Q:=fun b=>b<(w12.alloc (.cells #[.bool g12,.slice A12 n12 c12] 39)).heap.size) (fun b hb=>⟨Nat.lt_of_lt_of_le hb.2 HBc.out.size,HBc.out.block b hb.2⟩))
    have HV2:=Lib.hid (hv12 rfl).2.2.1
    clear hb12 hv12 xb0 xb1 xb2 xb3 xb4 xb5 HQ1
    go_upto_region 17 with fail
    generalize w12.alloc (.cells #[.bool g12,.slice A12 n12 c12] 39)=w13 at *
    have HCm:=Lib.hid (Cmp_any g10 g12 (w:=w13) (HL13.out.sl (fun b h=>h)) (HL2.out.sl (fun b h=>h)) (Nat.le_refl _) (Nat.le_refl _))
    rw [HV1.out,HV2.out,HCZ2.out] at HCm
    obtain ⟨y0,y1⟩:=HKb13.out.cells
    obtain ⟨y2,y3⟩:=HKc.out.cells
    go_wp2_with fail
    (with_reducible refine HCm.out.mono ?_)
    rintro e w14 ⟨rfl,hb14⟩
    have HBe:=Lib.hid ((HBw.out.trans (HB11.out.mono HBw.out.size)).trans ((HB13.out.trans (hb14.mono HB13.out.size)).mono (Nat.le_trans HBw.out.size HB11.out.size)))
    clear hb14 y0 y1 y2 y3 HCm
    go_wp2_with fail
    go_ret
    exact ⟨rfl,HBe.out⟩
   ·obtain ⟨b30,d30⟩:∃ b,(k0==3)=b:=⟨_,rfl⟩
    obtain ⟨b31,d31⟩:∃ b,(k1==3)=b:=⟨_,rfl⟩
    have hbb:b30=false∨b31=false:=by
     cases b30
     ·exact .inl rfl
     ·cases b31
      ·exact .inr rfl
      ·exact absurd ⟨beq_iff_eq.1 d30,beq_iff_eq.1 d31⟩ hk
    clear hk hk0 hk1 HP0 HP1 HCZ
    cases b30
    ·go_wp2_with fail
     go_ret
     exact ⟨rfl,HBw.out⟩
    ·obtain rfl:b31=false:=by rcases hbb with h | h;cases h;exact h
     go_wp2_with fail
     go_ret
     exact ⟨rfl,HBw.out⟩
 ·have HBw:=Lib.hid (HB.out.trans (HW.out.mono HB.out.size))
  clear HCab HCba HCbc HCac HCaa HN0 HN1 HN2 HAw HRd HL HK9 hn1 hn2 hn3 HPa HPb HKi HTk HTm
  cases n1 <;> cases n2 <;> cases n3
  case neg.true.true.true=>exact absurd ⟨rfl,rfl,rfl⟩ hall
  all_goals
   go_wp2_with fail
   go_ret
   exact ⟨rfl,HBw.out⟩
end
section
open Go.ChangeShapes Go.WideShapes Go.ChangeAt Go.RowKit Go.Joins Go.Deep Hb
theorem list6 {α:Type} {l:List α} (h:l.length=6):∃ a b c d e f,l = [a,b,c,d,e,f]:=by
 match l,h with
 | [a,b,c,d,e,f],_=>exact ⟨a,b,c,d,e,f,rfl⟩
theorem spot_none {w:World} {a:Addr} {v:Value} (h:w.cell? (a.add 0)=some v):∃ b o,a=⟨b,o,none⟩∧b<w.heap.size:=by
 obtain ⟨b,off,spot⟩:=a
 have hspot:spot=none:=by simpa [Addr.add] using World.cell?_spot h
 subst hspot
 refine ⟨b,off,rfl,?_⟩
 have:=World.block_lt_of_cell? _ _ h
 simpa [Addr.add] using this
theorem add_add (a:Addr) (m k:Nat):(a.add m).add k=a.add (m+k):=by
 unfold Addr.add
 by_cases h1:m=0
 ·subst h1;simp
 ·by_cases h2:k=0
  ·subst h2;simp [h1]
  ·simp [h1,h2,Nat.add_assoc]
end
end Go.Proofs.YtjpnmmjgdiiahaaGreatDoor
namespace Ht
namespace Tm
end Tm
section
end
end Ht
namespace Ht
def sDot:List UInt8:=[46]
def elems:Tm→List Tm × Tm
 | .mk k n m b v [x,y]=>if k=5∧n=sDot then (x :: (elems y).1,(elems y).2) else ([],.mk k n m b v [x,y])
 | t=>([],t)
end Ht
namespace Go.Proofs.YtjpnmmjgdiiahaaGreatDoor
section
open Go.ChangeShapes Go.WideShapes Go.ChangeAt Go.RowKit Go.Joins Go.Deep Hb Ht
section
end
theorem i64_of_wf {x:Int} (h:(Lit.int .i64 x).wf=true) : -9223372036854775808≤x∧x≤9223372036854775807:=by
 simp [Lit.wf,IntKind.has,IntKind.min,IntKind.max,IntKind.bits,IntKind.signed] at h
 omega
theorem u64_of_wf {x:Int} (h:(Lit.int .u64 x).wf=true):0≤x∧x<18446744073709551616:=by
 simp [Lit.wf,IntKind.has,IntKind.min,IntKind.max,IntKind.bits,IntKind.signed] at h
 omega
theorem cellsTerm:Tryz.prog.cellsOf 25=6:=by kernel_rfl
theorem bytesTerm:Tryz.prog.bytesOf 25=80:=by kernel_rfl
theorem trod_six {H:Type} {enc:TypeId × Value→H} {P:Program} {w:World} {base:Nat} {spare:Nat→Bool} {held:Bool} {t:TypeId} {f0 f1 f2 f3 f4 f5:Field} {fuel:Nat} {cs:List Value} {x:DataW H × List MemPlace} (ht:P.underlying t=some (.struct #[f0,f1,f2,f3,f4,f5])) (h:DataW.trod enc P w base spare held fuel t cs=some x) :
  ∃ y0 y1 y2 y3 y4 y5 n,fuel=n+1∧x.1 = .agg [y0.1,y1.1,y2.1,y3.1,y4.1,y5.1]∧cs.length=P.cellsOf t∧DataW.trod enc P w base spare held n f0.type ((cs.drop f0.offset).take (P.cellsOf f0.type))=some y0 ∧
   DataW.trod enc P w base spare held n f1.type ((cs.drop f1.offset).take (P.cellsOf f1.type))=some y1∧DataW.trod enc P w base spare held n f2.type ((cs.drop f2.offset).take (P.cellsOf f2.type))=some y2 ∧
   DataW.trod enc P w base spare held n f3.type ((cs.drop f3.offset).take (P.cellsOf f3.type))=some y3∧DataW.trod enc P w base spare held n f4.type ((cs.drop f4.offset).take (P.cellsOf f4.type))=some y4 ∧
   DataW.trod enc P w base spare held n f5.type ((cs.drop f5.offset).take (P.cellsOf f5.type))=some y5:=by
 obtain ⟨xs,n,hn,rfl,hl,hlen,hf⟩:=DataW.trod_struct ht h
 match xs,hlen with
 | [y0,y1,y2,y3,y4,y5],_=>exact ⟨y0,y1,y2,y3,y4,y5,n,hn,rfl,hl,by simpa using hf 0 f0 rfl,by simpa using hf 1 f1 rfl,by simpa using hf 2 f2 rfl,by simpa using hf 3 f3 rfl,by simpa using hf 4 f4 rfl,by simpa using hf 5 f5 rfl⟩
theorem weights_all_mem {H:Type} {P:Program} {e:TypeId} {m:Nat} : ∀ {l:List (DataW H)} {d:DataW H},d∈l→m∈d.weights P e→m∈DataW.weightsAll P e l
 | d0 :: r,d,hd,hm=>by
  rw [DataW.weightsAll,List.mem_append]
  rcases List.mem_cons.1 hd with rfl | hd
  ·exact .inl hm
  ·exact .inr (weights_all_mem hd hm)
set_option maxRecDepth 1000000 in
theorem trod_term {H:Type} {enc:TypeId × Value→H} {W:World} {sp:Nat→Bool} (fuel:Nat):∀ (cs:List Value) (x:DataW H × List MemPlace),DataW.trod enc Tryz.prog W 0 sp true fuel 25 cs=some x→(∀ m∈x.1.weights Tryz.prog 25,m≤reachBytes) →
  ∃ t sl,cs=Ht.cells6 t sl∧TAtP W (fun b=>b<W.heap.size) t sl∧Fits t:=by
 induction fuel using Nat.strongRecOn with
 | _ fuel ih=>
  intro cs x h hw
  obtain ⟨y0,y1,y2,y3,y4,y5,n,rfl,hx,hl,g0,g1,g2,g3,g4,g5⟩:=trod_six Tryz.underlying25 h
  rw [cellsTerm] at hl
  obtain ⟨c0,c1,c2,c3,c4,c5,rfl⟩:=list6 hl
  have e9:Tryz.prog.cellsOf 9=1:=by kernel_rfl
  have e3:Tryz.prog.cellsOf 3=1:=by kernel_rfl
  have e6:Tryz.prog.cellsOf 22=1:=by kernel_rfl
  have e7:Tryz.prog.cellsOf 23=1:=by kernel_rfl
  obtain ⟨u0,k0,_,w0⟩:=DataW.trod_int Tryz.underlying3 g0
  obtain ⟨s1,k1,hy1,hs1⟩:=DataW.trod_string Tryz.underlying9 g1
  obtain ⟨s2,k2,_,hs2⟩:=DataW.trod_string Tryz.underlying9 g2
  obtain ⟨u3,k3,_,w3⟩:=DataW.trod_int Tryz.underlying22 g3
  obtain ⟨u4,k4,_,w4⟩:=DataW.trod_int Tryz.underlying3 g4
  simp [e9] at k1 k2
  simp [e3] at k0 k4
  simp [e6] at k3
  subst k0 k1 k2 k3 k4
  simp [e7] at g5
  have hw5:∀ m∈y5.1.weights Tryz.prog 23,m≤reachBytes:=by
   intro m hm
   refine hw m ?_
   rw [hx,DataW.weights,Tryz.underlying25]
   exact DataW.weights_mem_each (j:=5) rfl rfl m hm
  have hw1:s1.data.toList.length≤4611686018427387904:=by
   have h1:=hw s1.data.toList.length (by
    rw [hx,DataW.weights,Tryz.underlying25]
    exact DataW.weights_mem_each (j:=1) rfl rfl _ (by rw [hy1];simp [DataW.weights]))
   unfold reachBytes at h1
   omega
  have hok:∀ ts,okF (.mk u0 s1.data.toList s2.data.toList u3 u4 ts):=fun ts=>⟨by simpa [Tm.n] using hs1,by simpa [Tm.m] using hs2,u64_of_wf w3,i64_of_wf w4,i64_of_wf w0⟩
  rcases DataW.trod_slice Tryz.underlying23 g5 with ⟨e1,_⟩ | ⟨a,len,cap,elems,rest,m,rfl,e1,hx5,_,hlc,hcm,hlen2,hel,_⟩
  ·simp at e1
   subst e1
   refine ⟨.mk u0 s1.data.toList s2.data.toList u3 u4 [],.slice none 0 0,rfl,?_,Fits.iff.2 ⟨hw1,fun a ha=>by cases ha⟩⟩
   rw [TAtP.iff]
   exact ⟨none,0,rfl,Nat.le_refl _,by simp [maxLen],Nat.zero_le _,hok [],fun hne=>absurd rfl hne⟩
  ·simp at e1
   subst e1
   rw [hx5] at hw5
   have hsz:len≤maxArgs:=by
    have:=hw5 ((elems.length+rest.length) * 80) (by rw [DataW.weights,Tryz.underlying23,←bytesTerm];simp)
    unfold reachBytes at this
    unfold maxArgs
    omega
   obtain ⟨V,hV⟩:=choose_lt (α:=Tm) (n:=len) (p:=fun i y=>∃ sl,(∀ k,k<6→W.cell? (a.add (i * 6+k))=(Ht.cells6 y sl)[k]?)∧TAtP W (fun b=>b<W.heap.size) y sl∧Fits y) (fun i hi=>by
    have h1:=hel i hi
    rw [List.getElem?_eq_getElem (by omega),Option.bind_eq_some_iff] at h1
    obtain ⟨cs',h2,h3⟩:=h1
    obtain ⟨t,sl,rfl,ht,hft⟩:=ih m (by omega) cs' _ h3 (fun q hq=>hw5 q (by
     rw [DataW.weights,Tryz.underlying23]
     refine List.mem_cons_of_mem _ (List.mem_append_left _ (weights_all_mem (List.mem_map.2 ⟨_,List.getElem_mem _,rfl⟩) hq))))
    refine ⟨t,sl,fun k hk=>?_,ht,hft⟩
    rw [cellsTerm] at h2
    have h4:=(World.cells?_some h2).2.2 k hk
    rw [←add_add,h4])
   refine ⟨.mk u0 s1.data.toList s2.data.toList u3 u4 ((List.range len).map V),.slice (some a) len cap,rfl,?_,Fits.iff.2 ⟨hw1,fun y hy=>by
    obtain ⟨i,hi,rfl⟩:=List.mem_map.1 hy
    obtain ⟨_,_,_,hf⟩:=hV i (by simpa using hi)
    exact hf⟩⟩
   rw [TAtP.iff]
   refine ⟨some a,cap,by simp [Tm.as],by simpa [Tm.as] using hlc,hcm,by simpa [Tm.as] using hsz,hok _,fun hne=>?_⟩
   have hn0:0<len:=Nat.pos_of_ne_zero (fun e=>hne (by subst e;rfl))
   obtain ⟨sl0,hc0,_⟩:=hV 0 hn0
   obtain ⟨b,o,rfl,hb⟩:=spot_none (hc0 0 (by omega))
   refine ⟨b,o,rfl,hb,fun i x hx=>?_⟩
   obtain ⟨hi,e⟩:=List.getElem?_eq_some_iff.1 hx
   have hin:i<len:=by simpa [Tm.as] using hi
   simp only [Tm.as,List.getElem_map,List.getElem_range] at e
   obtain ⟨sl,hc,ht,_⟩:=hV i hin
   rw [←e]
   exact ⟨sl,fun j hj=>by rw [←hc j hj,addr_add,Nat.add_assoc],ht⟩
set_option maxRecDepth 1000000 in
theorem open_Term {H:Type} {enc:TypeId × Value→H} {W:World} {base:Nat} {v:Value} {d:DataW H} {p:List MemPlace} (hval:Value.okWide Tryz.prog W .any base 25 v)
  (h:DataW.Trod enc Tryz.prog W 0 (fun _=>true) true 25 v d p) (hw:∀ m∈d.weights Tryz.prog 25,m≤reachBytes):∃ t sl,v=valT t sl∧TAt W W.heap.size t sl∧Fits t:=by
 obtain ⟨cs,rfl,hsz⟩:=okWide_struct Tryz.underlying25 hval
 obtain ⟨fuel,hf⟩:=h
 obtain ⟨t,sl,e,ht,hft⟩:=trod_term fuel _ _ hf hw
 refine ⟨t,sl,?_,ht,hft⟩
 have e2:cs.toList=Ht.cells6 t sl:=by simpa [Value.cells] using e
 show Value.agg cs = .agg (Ht.cells6 t sl).toArray
 rw [←e2]
theorem arg_weights {H:Type} {d:DataW H} {l:List (DataW H)} {ts:List TypeId} {j:Nat} {t:TypeId} (hw:(DataW.weightsEach Tryz.prog ts l).all (· ≤ reachBytes)=true) (ht:ts[j]?=some t) (hd:l[j]?=some d):∀ m∈d.weights Tryz.prog t,m≤reachBytes:=fun m hm=>by
 have:=List.all_eq_true.1 hw m (DataW.weights_mem_each ht hd m hm)
 simpa using this
end
section
open Go.ChangeShapes Go.WideShapes Go.ChangeAt Go.RowKit Go.Joins Hb Ht
theorem laidK:laidOutB Tryz.prog=true:=by kernel_rfl
section
variable {H:Type} {enc:TypeId × Value→H} {P:Program}
theorem args_stay (hl:laidOutB P=true) {W W':World} (hb:Below W.heap.size W W'):∀ (ts:List TypeId) (vs:List Value) (ds:List (DataW H)) (ps:List MemPlace),
  (∀ t∈ts,P.readableRec t=true∧t<P.types.size)→DataW.TrodAll enc P W 0 (fun _=>true) true ts vs ds ps→(∀ x∈ps,x.block<W.heap.size) →
  ∀ sp:Nat→Bool,(∀ x∈ps,sp x.block=true)→DataW.TrodAll enc P W' 0 sp true ts vs ds ps
 | [],vs,ds,ps,_,h,_,_,_=>by
  cases vs <;> cases ds <;> simp [DataW.TrodAll] at h ⊢
  exact h
 | t :: ts,vs,ds,ps,hr,h,hlt,sp,hs=>by
  obtain ⟨v,vs',d,ds',p,q,rfl,rfl,rfl,h1,h2⟩:=trodAll_cons h
  have hp:∀ x∈p,x.block<W.heap.size:=fun x hx=>hlt x (List.mem_append_left _ hx)
  have hq:∀ x∈q,x.block<W.heap.size:=fun x hx=>hlt x (List.mem_append_right _ hx)
  exact trodAll_cons_mk (WideElems.Trod_stays hl (hr t (by simp)).1 (hr t (by simp)).2 h1 (fun x hx=>hb.same (hp x hx)) (fun x hx=>hs x (List.mem_append_left _ hx)))
   (args_stay hl hb ts vs' ds' q (fun t ht=>hr t (List.mem_cons_of_mem _ ht)) h2 hq sp (fun x hx=>hs x (List.mem_append_right _ hx)))
theorem law_end {f:Func} {s:ChangeSpec} {fresh handsOn again:Bool} {W W':World} {args:Array Value} {ds gs:List (DataW H)} {before:List MemPlace} {bt:TypeId}
  (hl:laidOutB P=true) (hr:∀ t∈f.params.toList,P.readableRec t=true∧t<P.types.size) (hres:f.resultTypes = #[bt]) (hbt:P.underlying bt=some .bool)
  (hv:s.vars = []) (hW:DataW.Whole enc P f.params.toList s.vars false W args.toList ds gs before) (hfn:s.fn H (ds ++ gs) = { results:=[.lit (.bool true)],args:=ds }) (hb:Below W.heap.size W W') :
  s.post enc P f false fresh handsOn again W args (.bool true) W':=by
 have hlt:∀ p∈before,p.block<W.heap.size:=fun p hp=>hW.lt p hp
 have hW2:=hW
 obtain ⟨p,q,hA,hV,rfl,hz,_⟩:=hW2
 rw [hv] at hV
 obtain ⟨rfl,rfl⟩:=trodVars_none hV
 rw [List.append_nil] at *
 have hst:=args_stay hl hb _ _ _ _ hr hA hlt
 have hR:∀ (b:Nat) (sp:Nat→Bool) (hd:Bool),DataW.TrodAll enc P W' b sp hd f.resultTypes.toList ((Value.bool true).resultList f.resultTypes.size) (s.fn H ds).results []:=by
  intro b sp hd
  rw [hfn,hres]
  exact ⟨[],[],shut_bool hbt true,rfl,rfl⟩
 refine ⟨ds,[],p,[],p,[],by simpa using hW,by simpa using hR _ _ _,?_,?_,World.keptBut_mono (fun x hx=>⟨hx,.inr (.inl hx)⟩) (hb.frame (· ∈ p)),fun _=>⟨?_,[.lit (.bool true)] ++ ds,[],p,⟨p,[],?_,?_,by simp,?_,fun h=>by cases h⟩,fun x hx _=>hx⟩⟩
 ·rw [List.append_nil,hfn];exact hst _ (fun x hx=>by simpa using hlt x hx)
 ·rw [List.append_nil,hfn,hv];rfl
 ·intro j t r ht hj
  rw [hres] at ht hj
  cases j with
  | zero=>
   simp at ht hj
   subst ht
   obtain rfl:r = .bool true:=by simpa [Value.resultList] using hj.symm
   exact okWide_bool_mk hbt true
  | succ j=>simp at ht
 ·have h1:=hR 0 (fun _=>true) true
  rw [hfn] at h1
  have:=trodAll_append (hst (fun _=>true) (fun _ _=>rfl)) h1
  simpa using this
 ·rw [hv];rfl
 ·intro b off hp
  rw [hb.frozen (hlt _ hp)]
  exact hz b off hp
end
theorem dcgOwn:ownKnob Tryz.prog.godebug=none:=by kernel_rfl
noncomputable def dcgWorld (os:Os):World:=World.laidAll Tryz.prog os Rows.arithOrdersRow.laid
set_option maxRecDepth 100000 in
theorem dcgWorld_met (os:Os) (args:Array Value):laidMetH Tryz.prog Rows.arithOrdersRow.laid ((dcgWorld os).forCall (fun _ _=>0) ⟨#[],args,[]⟩).memory:=by
 rw [MakeChecks.laidMetH_plain _ _ _ (by kernel_rfl)]
 exact laidMet_laidAll _ (by kernel_rfl) (by kernel_rfl)
set_option maxRecDepth 100000 in
theorem vtabs_laid {W:World} (h:laidMetH Tryz.prog Rows.arithOrdersRow.laid W):VTabs W:=
 utf8Tabs_of_readsT (U8Types.of196 Tryz.laysValid) ⟨by kernel_rfl,by kernel_rfl,by kernel_rfl,by kernel_rfl,by kernel_rfl,by kernel_rfl,by kernel_rfl⟩ (Lib.laidMet.reads h (.tail _ (.tail _ (.tail _ (.tail _ (.head _)))))) (Lib.laidMet.reads h (.tail _ (.tail _ (.tail _ (.head _)))))
theorem orders_res:Tryz.f6.resultTypes = #[4]:=by kernel_rfl
set_option maxRecDepth 1000000 in
theorem orders_contract (H:Type) (enc:TypeId × Value→H) (W:World) (base:Nat) (args:Array Value) (ds gs:List (DataW H)) (before:List MemPlace)
  (hval:∀ (j:Nat) t v,Tryz.f6.params[j]?=some t→args[j]?=some v→Value.okWide Tryz.prog W .any base t v)
  (hW:DataW.Whole enc Tryz.prog Tryz.f6.params.toList Rows.arithOrdersSpec.vars false W args.toList ds gs before) (hwt:(DataW.weightsEach Tryz.prog (Tryz.f6.params.toList ++ []) (ds ++ gs)).all (· ≤ reachBytes)=true) (hL:laidMetH Tryz.prog Rows.arithOrdersRow.laid W) :
  Calls Tryz.prog 6 args W fun e W'=>∃ v,e = .returned v∧Rows.arithOrdersSpec.post enc Tryz.prog Tryz.f6 false true false false W args v W':=by
 have hW':=hW
 obtain ⟨p,q,hA0,hV,rfl,hfz,hnd⟩:=hW
 have hA:DataW.TrodAll enc Tryz.prog W 0 (fun _=>true) true Tryz.f6.params.toList args.toList ds p:=hA0
 rw [Tryz.params6] at hA hval hwt
 obtain ⟨v0,vs0,d0,ds0,p0,q0,hargs,rfl,rfl,h0,r0⟩:=trodAll_cons hA
 obtain ⟨v1,vs1,d1,ds1,p1,q1,rfl,rfl,rfl,h1,r1⟩:=trodAll_cons r0
 obtain ⟨v2,vs2,d2,ds2,p2,q2,rfl,rfl,rfl,h2,r2⟩:=trodAll_cons r1
 obtain ⟨rfl,rfl,rfl⟩:=trodAll_nil r2
 obtain rfl:args = #[v0,v1,v2]:=by cases args;simp_all
 obtain ⟨rfl,rfl⟩:=trodVars_none hV
 obtain ⟨t0,sl0,e0,ha0,hf0⟩:=open_Term (hval 0 25 v0 rfl rfl) h0 (arg_weights (j:=0) hwt rfl rfl)
 subst e0
 obtain ⟨t1,sl1,e1,ha1,hf1⟩:=open_Term (hval 1 25 v1 rfl rfl) h1 (arg_weights (j:=1) hwt rfl rfl)
 subst e1
 obtain ⟨t2,sl2,e2,ha2,hf2⟩:=open_Term (hval 2 25 v2 rfl rfl) h2 (arg_weights (j:=2) hwt rfl rfl)
 subst e2
 have hwalk:=Orders_walk ha0 ha1 ha2 hf0 hf1 hf2 (vtabs_laid hL).ok
 refine hwalk.mono fun e W' ⟨he,hb⟩=>?_
 subst he
 refine ⟨_,rfl,law_end (bt:=4) laidK (fun t ht=>?_) orders_res Tryz.underlying4 rfl hW' rfl hb⟩
 rw [Tryz.params6] at ht
 simp at ht
 subst ht
 exact ⟨by kernel_rfl,of_decide_eq_true (by kernel_rfl)⟩
theorem orders_reads (os:Os) {H:Type} (enc:TypeId × Value→H):∃ places,DataW.whole enc Tryz.prog ((dcgWorld os).forCall (fun _ _=>0) ⟨#[],#[.agg #[.int .i64 0,.string ⟨#[]⟩,.string ⟨#[]⟩,.int .u64 0,.int .i64 0,.slice none 0 0],.agg #[.int .i64 0,.string ⟨#[]⟩,.string ⟨#[]⟩,.int .u64 0,.int .i64 0,.slice none 0 0],.agg #[.int .i64 0,.string ⟨#[]⟩,.string ⟨#[]⟩,.int .u64 0,.int .i64 0,.slice none 0 0]],[]⟩).memory Tryz.f6.params.toList Rows.arithOrdersSpec.vars false #[Value.agg #[.int .i64 0,.string ⟨#[]⟩,.string ⟨#[]⟩,.int .u64 0,.int .i64 0,.slice none 0 0],Value.agg #[.int .i64 0,.string ⟨#[]⟩,.string ⟨#[]⟩,.int .u64 0,.int .i64 0,.slice none 0 0],Value.agg #[.int .i64 0,.string ⟨#[]⟩,.string ⟨#[]⟩,.int .u64 0,.int .i64 0,.slice none 0 0]].toList 8 =
  some ([.agg [.lit (.int .i64 0),.lit (.string []),.lit (.string []),.lit (.int .u64 0),.lit (.int .i64 0),.nil],.agg [.lit (.int .i64 0),.lit (.string []),.lit (.string []),.lit (.int .u64 0),.lit (.int .i64 0),.nil],.agg [.lit (.int .i64 0),.lit (.string []),.lit (.string []),.lit (.int .u64 0),.lit (.int .i64 0),.nil]],[],places):=
 ⟨[],by kernel_rfl⟩
set_option maxRecDepth 100000 in
theorem orders_lifted (os:Os) (started:os.Started) (H:Type) (enc:TypeId × Value→H) (F:Stop.Interp) :
  ReturnsInHanded {} Tryz.checked os 6 .any ((OpenSpec.ofChange Rows.arithOrdersSpec).preRow enc Tryz.prog Tryz.f6 Rows.arithOrdersRow.domain false Rows.arithOrdersRow.laid) (((OpenSpec.ofChange Rows.arithOrdersSpec).at F).post enc Tryz.prog Tryz.f6 false true false false):=by
 obtain ⟨places,hx⟩:=orders_reads os enc
 refine returnsInHanded_of_row (C:=Tryz.checked) (s:=OpenSpec.ofChange Rows.arithOrdersSpec) dcgOwn started (by kernel_rfl) Tryz.func6
  (witness_row_atRef (enc:=enc) (C:=Tryz.checked) false (dcgWorld os) #[.agg #[.int .i64 0,.string ⟨#[]⟩,.string ⟨#[]⟩,.int .u64 0,.int .i64 0,.slice none 0 0],.agg #[.int .i64 0,.string ⟨#[]⟩,.string ⟨#[]⟩,.int .u64 0,.int .i64 0,.slice none 0 0],.agg #[.int .i64 0,.string ⟨#[]⟩,.string ⟨#[]⟩,.int .u64 0,.int .i64 0,.slice none 0 0]] (World.laidAll_os _ _ _) (by kernel_rfl) (by kernel_rfl) (by kernel_rfl)
   (OpenSpec.preRow_of_cond 8 hx (by kernel_rfl) (fun k hk=>by cases hk) (by kernel_rfl) (dcgWorld_met os _))) ?_
 intro W base args ds gs before hval hW _ _ hwt hL _ _
 exact orders_contract H enc W base args ds gs before hval hW hwt hL
theorem orders_said:Rows.ArithOrdersSaid:=
 OpenClaim.holds_of_cond 6 Tryz.f6 rfl rfl rfl rfl rfl rfl rfl ⟨rfl,rfl,rfl,rfl,rfl⟩ rfl rfl rfl rfl rfl (by kernel_rfl) Tryz.func6 (by kernel_rfl)
  (of_decide_eq_true (by kernel_rfl)) (by unfold Func.isWrapper;first | (rw [if_pos (by decide +kernel)];kernel_rfl) | (rw [if_neg (by decide +kernel)];exact ⟨rfl,rfl⟩))
  (fun os started H enc _ F=>by rw [OpenClaim.pre_eq_preRow];exact orders_lifted os started H enc F)
theorem orders_plain (f:FuncId) (fn:Func) (hf:Tryz.pinned.checked.prog.funcNamed "hornbeam/hornbeamlaw07.ArithOrders" = some f) (hfn:Tryz.pinned.checked.prog.funcs[f]?=some fn) :
  true=Tryz.pinned.checked.prog.looks []∧∀ (j:Nat) t,fn.params[j]?=some t→Tryz.pinned.checked.prog.wantsStandIn t=false:=by
 obtain rfl:f=6:=Option.some.inj ((show Tryz.prog.funcNamed "hornbeam/hornbeamlaw07.ArithOrders" = some 6 by kernel_rfl).symm.trans hf) |>.symm
 obtain rfl:fn=Tryz.f6:=(Option.some.inj (Tryz.func6.symm.trans hfn)).symm
 refine ⟨by kernel_rfl,fun j t ht=>?_⟩
 rw [Tryz.params6] at ht
 have hm:t ∈ [25,25,25]:=by simpa using Array.mem_of_getElem? ht
 have hall:([25,25,25].all fun u=>!Tryz.prog.wantsStandIn u)=true:=by kernel_rfl
 exact (show Tryz.prog.wantsStandIn t=false by simpa using List.all_eq_true.1 hall t hm)
theorem orders_card:Rows.ArithOrdersCardSaid:=
 Claim7.holds_tied_plain_at .later [] _ _ _ _ orders_said (fun _ h=>by cases h) (by kernel_rfl) (fun _ h=>by cases h) arithOrders_row_tie rfl ⟨rfl,rfl⟩ (by kernel_rfl) rfl orders_plain (by kernel_rfl)
end
end Go.Proofs.YtjpnmmjgdiiahaaGreatDoor
