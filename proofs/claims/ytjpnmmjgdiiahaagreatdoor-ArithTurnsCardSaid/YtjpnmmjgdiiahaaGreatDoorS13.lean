/- The law ArithTurns of layer 7 answers true for every input, and leaves its arguments as they were; its five listed variables hold what the program's text lays. -/
import Derived.Deep.Slices
import Derived.SizedLaws
import Derived.Deep.DeepHandedRow
import Derived.WalkKit
import Derived.Lib.Hide
import Derived.Test.YtjpnmmjgdiiahaaGreatDoorRows
import Derived.Deep.QuietTactic
import Derived.BigQuiet
import Derived.Deep.RegionHeld3
import Derived.Deep.DrawnRows
import Derived.Deep.DeepCutAuto
import Derived.Deep.CutBlock
import Derived.StillTailTactics
import Derived.Deep.AppendLies
import Derived.Maps.AppendAt
import Derived.Deep.OwnRows
import Derived.Shelf.Small.Bits
import Derived.Laws.BytesArg
import Derived.Laws.AppendOwnNone
import Derived.ProofKit
import Derived.OpenShut
import Derived.JoinedCond
import Derived.JoinedOf
import Derived.JoinedAt
import Derived.ChangeSame
import Derived.ChangeSlices
import Derived.RowKit3
import Derived.Carry
import Derived.Lib.SmallJoins
import Derived.Deep.LoopGhost
import Derived.IntWalk
import Derived.Laws.Cover2
import Derived.Laws.FloatArith
import Derived.Lib.ValidU
import Derived.Shelf.Unicode.ValidAny
import Derived.Lib.LaidU8T
import Derived.Deep.Strs
import Derived.Deep.DeepWitnessRowRef
import Derived.Lib.LaidTab
import Derived.Lay
import Derived.Test.YtjpnmmjgdiiahaaGreatDoorCards
import Derived.Test.YtjpnmmjgdiiahaaGreatDoorTie
import Derived.Test.YtjpnmmjgdiiahaaGreatDoorS1
import Derived.Test.YtjpnmmjgdiiahaaGreatDoorS2
import Derived.Test.YtjpnmmjgdiiahaaGreatDoorS3
import Derived.Test.YtjpnmmjgdiiahaaGreatDoorS4
import Derived.Test.YtjpnmmjgdiiahaaGreatDoorS5
import Derived.Test.YtjpnmmjgdiiahaaGreatDoorS8
import Derived.Test.YtjpnmmjgdiiahaaGreatDoorS9
import Derived.Test.YtjpnmmjgdiiahaaGreatDoorS10
import Derived.Test.YtjpnmmjgdiiahaaGreatDoorS11
import Derived.Test.YtjpnmmjgdiiahaaGreatDoorS12
set_option linter.unusedVariables false
set_option linter.unusedSimpArgs false
set_option exponentiation.threshold 5000
namespace Go.Proofs.YtjpnmmjgdiiahaaGreatDoor
section
open Go.RowKit Hb Ht Hq
attribute [local go_sem ↓] Go.wp_at_zero Go.wp_at_succ
attribute [local go_sem] run_store_float
def intT (m:List UInt8):Tm:=.mk 3 [] m 0 0 []
def floT (f:Nat):Tm:=.mk 4 [] [] (f:Int) 0 []
theorem int_leaf (w:World) (P:Nat→Prop) {m:List UInt8} (h:m.length≤1000):TAtP w P (intT m) (.slice none 0 0):=
 TAtP.leaf w P (t:=intT m) rfl (by unfold maxLen;omega) ⟨by show ([]:List UInt8).length≤_;unfold maxLen;simp,by show m.length≤maxLen;unfold maxLen;omega,by show (0:Int)≤0∧(0:Int)<18446744073709551616;omega,by show (-9223372036854775808:Int)≤0∧(0:Int)≤9223372036854775807;omega,by show (-9223372036854775808:Int)≤3∧(3:Int)≤9223372036854775807;omega⟩
theorem flo_leaf (w:World) (P:Nat→Prop) {f:Nat} (h:f<18446744073709551616):TAtP w P (floT f) (.slice none 0 0):=
 TAtP.leaf w P (t:=floT f) rfl (by unfold maxLen;omega) ⟨by show ([]:List UInt8).length≤_;unfold maxLen;simp,by show ([]:List UInt8).length≤_;unfold maxLen;simp,by show (0:Int)≤(f:Int)∧(f:Int)<18446744073709551616;omega,by show (-9223372036854775808:Int)≤0∧(0:Int)≤9223372036854775807;omega,by show (-9223372036854775808:Int)≤4∧(4:Int)≤9223372036854775807;omega⟩
theorem Eval_val {t:Tm} {r:Rs} {x:Nm} (hev:Ev binK t r) (hr:r = .ok x) (hc:checkP t=0) {w0' w:World} {sl:Value} (ht:TAt w w.heap.size t sl) (hU:UOk w0' w):Calls Tryz.prog 24 #[valT t sl] w fun e w'=>e = .returned (.tuple #[valT (numT x) (.slice none 0 0),.nilIface])∧Below w.heap.size w w':=
 (Eval_ok kok hev hc ht hU).mono fun e w' ⟨hb,h⟩=>by
  rcases h with ⟨y,h1,h2,_⟩ | ⟨t,v,h1,_⟩
  ·rw [hr] at h1;injection h1 with h1;subst h1;exact ⟨h2,hb⟩
  ·rw [hr] at h1;cases h1
theorem Eval_err {t b:Tm} {r:Rs} (hev:Ev binK t r) (hr:r = .bad b) (hc:checkP t=0) {w0' w:World} {sl:Value} (ht:TAt w w.heap.size t sl) (hU:UOk w0' w):Calls Tryz.prog 24 #[valT t sl] w fun e w'=>∃ g,e = .returned (.tuple #[valT zeroT (.slice none 0 0),.iface 95 (.pointer (some ⟨g,0,none⟩))])∧Below w.heap.size w w':=
 (Eval_ok kok hev hc ht hU).mono fun e w' ⟨hb,h⟩=>by
  rcases h with ⟨y,h1,h2,_⟩ | ⟨t,v,h1,h2,h3⟩
  ·rw [hr] at h1;cases h1
  ·obtain ⟨g,rfl⟩:=h3.iface
   exact ⟨g,h2,hb⟩
theorem ev_int {m:List UInt8} (h:pCode m 10=0):Ev binK (intT m) (.ok (.int (pVal m 10))):=.num rfl ⟨fun _=>h,fun e=>absurd e (by show ¬(3:Int)=4;decide)⟩
theorem ev_one:Ev binK (cmpT [43] [(intT [49]),(cmpT [42] [(intT [50]),(intT [51])])]) (.ok (.int 7)):=by
 have h:Ev binK (cmpT [43] [(intT [49]),(cmpT [42] [(intT [50]),(intT [51])])]) (seqR (.ok (.int (pVal [49] 10))) (seqR (.ok (.int (pVal [50] 10))) (.ok (.int (pVal [51] 10))) (bothR mulI mulF)) (bothR sumI sumF)):=.two rfl (ev_int (by decide +kernel)) (.two rfl (ev_int (by decide +kernel)) (ev_int (by decide +kernel)))
 have e:seqR (.ok (.int (pVal [49] 10))) (seqR (.ok (.int (pVal [50] 10))) (.ok (.int (pVal [51] 10))) (bothR mulI mulF)) (bothR sumI sumF) = .ok (.int 7):=by kernel_rfl
 rw [e] at h
 exact h
theorem ev_half:Ev binK (cmpT [47] [(intT [55]),(intT [50])]) (.ok (.flo 4615063718147915776)):=by
 have h:Ev binK (cmpT [47] [(intT [55]),(intT [50])]) (seqR (.ok (.int (pVal [55] 10))) (.ok (.int (pVal [50] 10))) divR):=.two rfl (ev_int (by decide +kernel)) (ev_int (by decide +kernel))
 have e:seqR (.ok (.int (pVal [55] 10))) (.ok (.int (pVal [50] 10))) divR = .ok (.flo 4615063718147915776):=by kernel_rfl
 rw [e] at h
 exact h
theorem ev_zero:Ev binK (cmpT [47] [(intT [49]),(intT [48])]) (.bad (evT sZero)):=by
 have h:Ev binK (cmpT [47] [(intT [49]),(intT [48])]) (seqR (.ok (.int (pVal [49] 10))) (.ok (.int (pVal [48] 10))) divR):=.two rfl (ev_int (by decide +kernel)) (ev_int (by decide +kernel))
 have e:seqR (.ok (.int (pVal [49] 10))) (.ok (.int (pVal [48] 10))) divR = .bad (evT sZero):=by kernel_rfl
 rw [e] at h
 exact h
theorem chk_one:checkP (cmpT [43] [(intT [49]),(cmpT [42] [(intT [50]),(intT [51])])])=0:=by decide +kernel
theorem chk_half:checkP (cmpT [47] [(intT [55]),(intT [50])])=0:=by decide +kernel
theorem chk_zero:checkP (cmpT [47] [(intT [49]),(intT [48])])=0:=by decide +kernel
theorem cmp_awake:cmpR (intT [57,48,48,55,49,57,57,50,53,52,55,52,48,57,57,51]) (floT 4845873199050653696)=(1,0):=by
 unfold cmpR
 rw [show checkP (intT [57,48,48,55,49,57,57,50,53,52,55,52,48,57,57,51])=0 from by decide +kernel,show checkP (floT 4845873199050653696)=0 from by decide +kernel]
 rw [if_neg (by simp),if_neg (by simp)]
 show (cmpE (pVal [57,48,48,55,49,57,57,50,53,52,55,52,48,57,57,51] 10 * U74) (fV 4845873199050653696),(0:Int))=_
 rw [show fV 4845873199050653696=9007199254740992 * U74 from by
  unfold fV U74
  decide +kernel]
 rw [cmpE_scale U74_pos]
 decide +kernel
set_option maxRecDepth 100000 in
set_option maxHeartbeats 8000000 in
theorem awake_ok {w0' w:World} (hU:UOk w0' w):Calls Tryz.prog 10 #[] w fun e w'=>e = .returned (.bool true)∧Below w.heap.size w w':=by
 have HU:=Lib.hid hU
 have HB0:=Lib.hid (Below.refl w.heap.size w)
 clear hU
 go_enter Tryz.func10,Tryz.ntmps10
 go_wp2_with fail
 refine (n_ok _ _).mono ?_
 rintro e v1 ⟨rfl,hb⟩
 have HB1:=Lib.hid (HB0.out.trans (hb.mono HB0.out.size))
 clear hb
 go_wp2_with fail
 refine (n_ok _ _).mono ?_
 rintro e v2 ⟨rfl,hb⟩
 have HB2:=Lib.hid (HB1.out.trans (hb.mono HB1.out.size))
 clear hb
 go_wp2_with fail
 refine (n_ok _ _).mono ?_
 rintro e v3 ⟨rfl,hb⟩
 have HB3:=Lib.hid (HB2.out.trans (hb.mono HB2.out.size))
 clear hb
 have HF:=Lib.hid (f2_ok (w:=v3) (P:=fun b=>b<v3.heap.size) (ta:=(intT [50])) (tb:=(intT [51])) (sa:=(.slice none 0 0)) (sb:=(.slice none 0 0)) (s:=[42]) (nb:=⟨#[42]⟩) (int_leaf _ _ (by decide)) (int_leaf _ _ (by decide)) (fun b h=>h) rfl (by decide))
 rw [show valT (intT [50]) (.slice none 0 0) = .agg #[.int .i64 3,.string ⟨#[]⟩,.string ⟨#[50]⟩,.int .u64 0,.int .i64 0,.slice none 0 0] from rfl,show valT (intT [51]) (.slice none 0 0) = .agg #[.int .i64 3,.string ⟨#[]⟩,.string ⟨#[51]⟩,.int .u64 0,.int .i64 0,.slice none 0 0] from rfl] at HF
 go_wp2_with fail
 (with_reducible refine HF.out.mono ?_)
 rintro e v4 ⟨sl4,rfl,hat,hb⟩
 obtain ⟨A4,c4,rfl,_⟩:=TAtP.iff.1 hat
 have HT4:=Lib.hid (show TAt v4 v4.heap.size (cmpT [42] [(intT [50]),(intT [51])]) (.slice A4 2 c4) from hat.wide (fun b hb2=>hb2.elim (fun h=>Nat.lt_of_lt_of_le h hb.size) (·.2)))
 have HB4:=Lib.hid (HB3.out.trans (hb.mono HB3.out.size))
 rw [show valT (cmpT [42] [(intT [50]),(intT [51])]) (.slice A4 (Ht.Tm.as (cmpT [42] [(intT [50]),(intT [51])])).length c4) = .agg #[.int .i64 5,.string ⟨#[42]⟩,.string ⟨#[]⟩,.int .u64 0,.int .i64 0,.slice A4 2 c4] from rfl]
 clear hb hat HF
 have HF:=Lib.hid (f2_ok (w:=v4) (P:=fun b=>b<v4.heap.size) (ta:=(intT [49])) (tb:=(cmpT [42] [(intT [50]),(intT [51])])) (sa:=(.slice none 0 0)) (sb:=(.slice A4 2 c4)) (s:=[43]) (nb:=⟨#[43]⟩) (int_leaf _ _ (by decide)) (HT4.out) (fun b h=>h) rfl (by decide))
 rw [show valT (intT [49]) (.slice none 0 0) = .agg #[.int .i64 3,.string ⟨#[]⟩,.string ⟨#[49]⟩,.int .u64 0,.int .i64 0,.slice none 0 0] from rfl,show valT (cmpT [42] [(intT [50]),(intT [51])]) (.slice A4 2 c4) = .agg #[.int .i64 5,.string ⟨#[42]⟩,.string ⟨#[]⟩,.int .u64 0,.int .i64 0,.slice A4 2 c4] from rfl] at HF
 go_wp2_with fail
 (with_reducible refine HF.out.mono ?_)
 rintro e v5 ⟨sl5,rfl,hat,hb⟩
 obtain ⟨A5,c5,rfl,_⟩:=TAtP.iff.1 hat
 have HT5:=Lib.hid (show TAt v5 v5.heap.size (cmpT [43] [(intT [49]),(cmpT [42] [(intT [50]),(intT [51])])]) (.slice A5 2 c5) from hat.wide (fun b hb2=>hb2.elim (fun h=>Nat.lt_of_lt_of_le h hb.size) (·.2)))
 have HB5:=Lib.hid (HB4.out.trans (hb.mono HB4.out.size))
 rw [show valT (cmpT [43] [(intT [49]),(cmpT [42] [(intT [50]),(intT [51])])]) (.slice A5 (Ht.Tm.as (cmpT [43] [(intT [49]),(cmpT [42] [(intT [50]),(intT [51])])])).length c5) = .agg #[.int .i64 5,.string ⟨#[43]⟩,.string ⟨#[]⟩,.int .u64 0,.int .i64 0,.slice A5 2 c5] from rfl]
 clear hb hat HF
 have HE:=Lib.hid (Eval_val ev_one rfl chk_one HT5.out (HU.out.below HB5.out))
 rw [show valT (cmpT [43] [(intT [49]),(cmpT [42] [(intT [50]),(intT [51])])]) (.slice A5 2 c5) = .agg #[.int .i64 5,.string ⟨#[43]⟩,.string ⟨#[]⟩,.int .u64 0,.int .i64 0,.slice A5 2 c5] from rfl] at HE
 go_wp2_with fail
 (with_reducible refine HE.out.mono ?_)
 rintro e v6 ⟨rfl,hb⟩
 rw [show valT (numT (.int 7)) (.slice none 0 0) = .agg #[.int .i64 3,.string ⟨#[]⟩,.string ⟨#[55]⟩,.int .u64 0,.int .i64 0,.slice none 0 0] from by kernel_rfl]
 have HX1:=Lib.hid (show (v6.alloc (.cells #[.int .i64 3,.string ⟨#[]⟩,.string ⟨#[55]⟩,.int .u64 0,.int .i64 0,.slice none 0 0] 25)).heap[v6.heap.size]?=some (.cells #[.int .i64 3,.string ⟨#[]⟩,.string ⟨#[55]⟩,.int .u64 0,.int .i64 0,.slice none 0 0] 25 (0,0)) from heap_alloc_new v6 _)
 have HBa:=Lib.hid (show Below v6.heap.size v6 (v6.alloc (.cells #[.int .i64 3,.string ⟨#[]⟩,.string ⟨#[55]⟩,.int .u64 0,.int .i64 0,.slice none 0 0] 25)) from (Below.refl _ _).alloc (Nat.le_refl _) _)
 have HBb:=Lib.hid (hb.trans (HBa.out.mono hb.size))
 have HB7:=Lib.hid (HB5.out.trans (HBb.out.mono HB5.out.size))
 clear hb HE HBa HBb
 go_upto_region 2 with fail
 generalize v6.alloc (.cells #[.int .i64 3,.string ⟨#[]⟩,.string ⟨#[55]⟩,.int .u64 0,.int .i64 0,.slice none 0 0] 25)=v7 at *
 go_wp2_with fail
 refine (n_ok _ _).mono ?_
 rintro e v8 ⟨rfl,hb⟩
 have HB8:=Lib.hid (HB7.out.trans (hb.mono HB7.out.size))
 have HX1:=Lib.hid ((hb.block _ (Array.getElem?_eq_some_iff.1 HX1.out).1).trans HX1.out)
 clear hb
 go_wp2_with fail
 refine (n_ok _ _).mono ?_
 rintro e v9 ⟨rfl,hb⟩
 have HB9:=Lib.hid (HB8.out.trans (hb.mono HB8.out.size))
 have HX1:=Lib.hid ((hb.block _ (Array.getElem?_eq_some_iff.1 HX1.out).1).trans HX1.out)
 clear hb
 have HF:=Lib.hid (f2_ok (w:=v9) (P:=fun b=>b<v9.heap.size) (ta:=(intT [55])) (tb:=(intT [50])) (sa:=(.slice none 0 0)) (sb:=(.slice none 0 0)) (s:=[47]) (nb:=⟨#[47]⟩) (int_leaf _ _ (by decide)) (int_leaf _ _ (by decide)) (fun b h=>h) rfl (by decide))
 rw [show valT (intT [55]) (.slice none 0 0) = .agg #[.int .i64 3,.string ⟨#[]⟩,.string ⟨#[55]⟩,.int .u64 0,.int .i64 0,.slice none 0 0] from rfl,show valT (intT [50]) (.slice none 0 0) = .agg #[.int .i64 3,.string ⟨#[]⟩,.string ⟨#[50]⟩,.int .u64 0,.int .i64 0,.slice none 0 0] from rfl] at HF
 go_wp2_with fail
 (with_reducible refine HF.out.mono ?_)
 rintro e v10 ⟨sl10,rfl,hat,hb⟩
 obtain ⟨A10,c10,rfl,_⟩:=TAtP.iff.1 hat
 have HT10:=Lib.hid (show TAt v10 v10.heap.size (cmpT [47] [(intT [55]),(intT [50])]) (.slice A10 2 c10) from hat.wide (fun b hb2=>hb2.elim (fun h=>Nat.lt_of_lt_of_le h hb.size) (·.2)))
 have HB10:=Lib.hid (HB9.out.trans (hb.mono HB9.out.size))
 rw [show valT (cmpT [47] [(intT [55]),(intT [50])]) (.slice A10 (Ht.Tm.as (cmpT [47] [(intT [55]),(intT [50])])).length c10) = .agg #[.int .i64 5,.string ⟨#[47]⟩,.string ⟨#[]⟩,.int .u64 0,.int .i64 0,.slice A10 2 c10] from rfl]
 have HX1:=Lib.hid ((hb.block _ (Array.getElem?_eq_some_iff.1 HX1.out).1).trans HX1.out)
 clear hb hat HF
 have HE:=Lib.hid (Eval_val ev_half rfl chk_half HT10.out (HU.out.below HB10.out))
 rw [show valT (cmpT [47] [(intT [55]),(intT [50])]) (.slice A10 2 c10) = .agg #[.int .i64 5,.string ⟨#[47]⟩,.string ⟨#[]⟩,.int .u64 0,.int .i64 0,.slice A10 2 c10] from rfl] at HE
 go_wp2_with fail
 (with_reducible refine HE.out.mono ?_)
 rintro e v11 ⟨rfl,hb⟩
 rw [show valT (numT (.flo 4615063718147915776)) (.slice none 0 0) = .agg #[.int .i64 4,.string ⟨#[]⟩,.string ⟨#[]⟩,.int .u64 4615063718147915776,.int .i64 0,.slice none 0 0] from by kernel_rfl]
 have HX2:=Lib.hid (show (v11.alloc (.cells #[.int .i64 4,.string ⟨#[]⟩,.string ⟨#[]⟩,.int .u64 4615063718147915776,.int .i64 0,.slice none 0 0] 25)).heap[v11.heap.size]?=some (.cells #[.int .i64 4,.string ⟨#[]⟩,.string ⟨#[]⟩,.int .u64 4615063718147915776,.int .i64 0,.slice none 0 0] 25 (0,0)) from heap_alloc_new v11 _)
 have HBa:=Lib.hid (show Below v11.heap.size v11 (v11.alloc (.cells #[.int .i64 4,.string ⟨#[]⟩,.string ⟨#[]⟩,.int .u64 4615063718147915776,.int .i64 0,.slice none 0 0] 25)) from (Below.refl _ _).alloc (Nat.le_refl _) _)
 have HBb:=Lib.hid (hb.trans (HBa.out.mono hb.size))
 have HB12:=Lib.hid (HB10.out.trans (HBb.out.mono HB10.out.size))
 have HX1:=Lib.hid ((HBb.out.block _ (Array.getElem?_eq_some_iff.1 HX1.out).1).trans HX1.out)
 clear hb HE HBa HBb
 go_upto_region 3 with fail
 generalize v11.alloc (.cells #[.int .i64 4,.string ⟨#[]⟩,.string ⟨#[]⟩,.int .u64 4615063718147915776,.int .i64 0,.slice none 0 0] 25)=v12 at *
 go_wp2_with fail
 refine (n_ok _ _).mono ?_
 rintro e v13 ⟨rfl,hb⟩
 have HB13:=Lib.hid (HB12.out.trans (hb.mono HB12.out.size))
 have HX1:=Lib.hid ((hb.block _ (Array.getElem?_eq_some_iff.1 HX1.out).1).trans HX1.out)
 have HX2:=Lib.hid ((hb.block _ (Array.getElem?_eq_some_iff.1 HX2.out).1).trans HX2.out)
 clear hb
 go_wp2_with fail
 refine (n_ok _ _).mono ?_
 rintro e v14 ⟨rfl,hb⟩
 have HB14:=Lib.hid (HB13.out.trans (hb.mono HB13.out.size))
 have HX1:=Lib.hid ((hb.block _ (Array.getElem?_eq_some_iff.1 HX1.out).1).trans HX1.out)
 have HX2:=Lib.hid ((hb.block _ (Array.getElem?_eq_some_iff.1 HX2.out).1).trans HX2.out)
 clear hb
 have HF:=Lib.hid (f2_ok (w:=v14) (P:=fun b=>b<v14.heap.size) (ta:=(intT [49])) (tb:=(intT [48])) (sa:=(.slice none 0 0)) (sb:=(.slice none 0 0)) (s:=[47]) (nb:=⟨#[47]⟩) (int_leaf _ _ (by decide)) (int_leaf _ _ (by decide)) (fun b h=>h) rfl (by decide))
 rw [show valT (intT [49]) (.slice none 0 0) = .agg #[.int .i64 3,.string ⟨#[]⟩,.string ⟨#[49]⟩,.int .u64 0,.int .i64 0,.slice none 0 0] from rfl,show valT (intT [48]) (.slice none 0 0) = .agg #[.int .i64 3,.string ⟨#[]⟩,.string ⟨#[48]⟩,.int .u64 0,.int .i64 0,.slice none 0 0] from rfl] at HF
 go_wp2_with fail
 (with_reducible refine HF.out.mono ?_)
 rintro e v15 ⟨sl15,rfl,hat,hb⟩
 obtain ⟨A15,c15,rfl,_⟩:=TAtP.iff.1 hat
 have HT15:=Lib.hid (show TAt v15 v15.heap.size (cmpT [47] [(intT [49]),(intT [48])]) (.slice A15 2 c15) from hat.wide (fun b hb2=>hb2.elim (fun h=>Nat.lt_of_lt_of_le h hb.size) (·.2)))
 have HB15:=Lib.hid (HB14.out.trans (hb.mono HB14.out.size))
 rw [show valT (cmpT [47] [(intT [49]),(intT [48])]) (.slice A15 (Ht.Tm.as (cmpT [47] [(intT [49]),(intT [48])])).length c15) = .agg #[.int .i64 5,.string ⟨#[47]⟩,.string ⟨#[]⟩,.int .u64 0,.int .i64 0,.slice A15 2 c15] from rfl]
 have HX1:=Lib.hid ((hb.block _ (Array.getElem?_eq_some_iff.1 HX1.out).1).trans HX1.out)
 have HX2:=Lib.hid ((hb.block _ (Array.getElem?_eq_some_iff.1 HX2.out).1).trans HX2.out)
 clear hb hat HF
 have HE:=Lib.hid (Eval_err ev_zero rfl chk_zero HT15.out (HU.out.below HB15.out))
 rw [show valT (cmpT [47] [(intT [49]),(intT [48])]) (.slice A15 2 c15) = .agg #[.int .i64 5,.string ⟨#[47]⟩,.string ⟨#[]⟩,.int .u64 0,.int .i64 0,.slice A15 2 c15] from rfl] at HE
 go_wp2_with fail
 (with_reducible refine HE.out.mono ?_)
 rintro e v16 ⟨gg,rfl,hb⟩
 rw [show valT zeroT (.slice none 0 0) = .agg #[.int .i64 0,.string ⟨#[]⟩,.string ⟨#[]⟩,.int .u64 0,.int .i64 0,.slice none 0 0] from rfl]
 have HX3:=Lib.hid (show (v16.alloc (.cells #[.int .i64 0,.string ⟨#[]⟩,.string ⟨#[]⟩,.int .u64 0,.int .i64 0,.slice none 0 0] 25)).heap[v16.heap.size]?=some (.cells #[.int .i64 0,.string ⟨#[]⟩,.string ⟨#[]⟩,.int .u64 0,.int .i64 0,.slice none 0 0] 25 (0,0)) from heap_alloc_new v16 _)
 have HBa:=Lib.hid (show Below v16.heap.size v16 (v16.alloc (.cells #[.int .i64 0,.string ⟨#[]⟩,.string ⟨#[]⟩,.int .u64 0,.int .i64 0,.slice none 0 0] 25)) from (Below.refl _ _).alloc (Nat.le_refl _) _)
 have HBb:=Lib.hid (hb.trans (HBa.out.mono hb.size))
 have HB17:=Lib.hid (HB15.out.trans (HBb.out.mono HB15.out.size))
 have HX1:=Lib.hid ((HBb.out.block _ (Array.getElem?_eq_some_iff.1 HX1.out).1).trans HX1.out)
 have HX2:=Lib.hid ((HBb.out.block _ (Array.getElem?_eq_some_iff.1 HX2.out).1).trans HX2.out)
 clear hb HE HBa HBb
 go_upto_region 4 with fail
 generalize v16.alloc (.cells #[.int .i64 0,.string ⟨#[]⟩,.string ⟨#[]⟩,.int .u64 0,.int .i64 0,.slice none 0 0] 25)=v17 at *
 go_wp2_with fail
 refine (n_ok _ _).mono ?_
 rintro e v18 ⟨rfl,hb⟩
 have HB18:=Lib.hid (HB17.out.trans (hb.mono HB17.out.size))
 have HX1:=Lib.hid ((hb.block _ (Array.getElem?_eq_some_iff.1 HX1.out).1).trans HX1.out)
 have HX2:=Lib.hid ((hb.block _ (Array.getElem?_eq_some_iff.1 HX2.out).1).trans HX2.out)
 have HX3:=Lib.hid ((hb.block _ (Array.getElem?_eq_some_iff.1 HX3.out).1).trans HX3.out)
 clear hb
 have HC:=Lib.hid (Compare_ok (w:=v18) (w0':=w0') (ta:=(intT [57,48,48,55,49,57,57,50,53,52,55,52,48,57,57,51])) (tb:=floT 4845873199050653696) (sa:=.slice none 0 0) (sb:=.slice none 0 0) (int_leaf _ _ (by decide)) (flo_leaf _ _ (by decide)) (HU.out.below HB18.out))
 rw [show valT (intT [57,48,48,55,49,57,57,50,53,52,55,52,48,57,57,51]) (.slice none 0 0) = .agg #[.int .i64 3,.string ⟨#[]⟩,.string ⟨#[57,48,48,55,49,57,57,50,53,52,55,52,48,57,57,51]⟩,.int .u64 0,.int .i64 0,.slice none 0 0] from rfl,show valT (floT 4845873199050653696) (.slice none 0 0) = .agg #[.int .i64 4,.string ⟨#[]⟩,.string ⟨#[]⟩,.int .u64 4845873199050653696,.int .i64 0,.slice none 0 0] from rfl] at HC
 have hcu:∀ (e:Ending) (w1:World),CompPost v18 (intT [57,48,48,55,49,57,57,50,53,52,55,52,48,57,57,51]) (floT 4845873199050653696) e w1→e = .returned (.tuple #[.int .i64 1,.int .i64 0])∧Below v18.heap.size v18 w1:=fun e w1 h=>by
  obtain ⟨h1,h2⟩:=h
  rw [cmp_awake] at h1
  exact ⟨h1,h2⟩
 go_wp2_with fail
 (with_reducible refine HC.out.mono ?_)
 intro e v19 hcp
 obtain ⟨rfl,hb⟩:=hcu _ _ hcp
 have HB19:=Lib.hid (HB18.out.trans (hb.mono HB18.out.size))
 have HX1:=Lib.hid ((hb.block _ (Array.getElem?_eq_some_iff.1 HX1.out).1).trans HX1.out)
 have HX2:=Lib.hid ((hb.block _ (Array.getElem?_eq_some_iff.1 HX2.out).1).trans HX2.out)
 have HX3:=Lib.hid ((hb.block _ (Array.getElem?_eq_some_iff.1 HX3.out).1).trans HX3.out)
 clear hb hcp hcu HC
 go_upto_region 5 with fail
 refine wp_region_H (by kernel_rfl) (fun z0 K0 hs0=>?_)
 refine qh 0 K0 ?_ (y:=fun z5 hS=>by obtain ⟨x0,x1,x2,x3,x4,x5⟩:z5.cell? ⟨v6.heap.size,0,none⟩=some (.int .i64 3)∧z5.cell? ⟨v6.heap.size,1,none⟩=some (.string ⟨#[]⟩)∧z5.cell? ⟨v6.heap.size,2,none⟩=some (.string ⟨#[55]⟩)∧z5.cell? ⟨v6.heap.size,3,none⟩=some (.int .u64 0)∧z5.cell? ⟨v6.heap.size,4,none⟩=some (.int .i64 0)∧z5.cell? ⟨v6.heap.size,5,none⟩=some (.slice none 0 0):=(by refine ⟨?_,?_,?_,?_,?_,?_⟩ <;> (rw [cell_of_row _ _ _ _ _ (0,0) ((hS.block _ (Array.getElem?_eq_some_iff.1 HX1.out).1).trans HX1.out)];rfl));go_simp;rfl)
 refine oq 1 fun K hK=>?_
 go_simp
 refine (n_ok _ _).mono ?_
 rintro e z1 ⟨rfl,hb1⟩
 have K1:=K0.trans (hb1.mono K0.size)
 refine hK.out _ _ K1 ?_
 have HSm:=Lib.hid (Same_any (intT [55]) z1 (.slice none 0 0) (.slice none 0 0) (int_leaf _ _ (by decide)) (int_leaf _ _ (by decide)))
 rw [show valT (intT [55]) (.slice none 0 0) = .agg #[.int .i64 3,.string ⟨#[]⟩,.string ⟨#[55]⟩,.int .u64 0,.int .i64 0,.slice none 0 0] from rfl] at HSm
 refine oq 2 fun K hK=>?_
 go_simp
 (with_reducible refine HSm.out.mono ?_)
 rintro e z2 ⟨rfl,hb2⟩
 have K2:=K1.trans (hb2.mono K1.size)
 refine hK.out _ _ K2 ?_
 refine qh 3 K2 ?_
 refine wpAnyH_end (by kernel_rfl) ?_ _
 have HBz:=Lib.hid (HB19.out.trans (K2.mono HB19.out.size))
 have HXz:=Lib.hid ((K2.block _ (Array.getElem?_eq_some_iff.1 HX2.out).1).trans HX2.out)
 clear K0 K1 K2 hs0 hb1 hb2 HSm
 obtain ⟨x0,x1,x2,x3,x4,x5⟩:z2.cell? ⟨v11.heap.size,0,none⟩=some (.int .i64 4)∧z2.cell? ⟨v11.heap.size,1,none⟩=some (.string ⟨#[]⟩)∧z2.cell? ⟨v11.heap.size,2,none⟩=some (.string ⟨#[]⟩)∧z2.cell? ⟨v11.heap.size,3,none⟩=some (.int .u64 4615063718147915776)∧z2.cell? ⟨v11.heap.size,4,none⟩=some (.int .i64 0)∧z2.cell? ⟨v11.heap.size,5,none⟩=some (.slice none 0 0):=(by refine ⟨?_,?_,?_,?_,?_,?_⟩ <;> (rw [cell_of_row _ _ _ _ _ (0,0) HXz.out];rfl))
 have HSm:=Lib.hid (Same_any (floT 4615063718147915776) z2 (.slice none 0 0) (.slice none 0 0) (flo_leaf _ _ (by decide)) (flo_leaf _ _ (by decide)))
 rw [show valT (floT 4615063718147915776) (.slice none 0 0) = .agg #[.int .i64 4,.string ⟨#[]⟩,.string ⟨#[]⟩,.int .u64 4615063718147915776,.int .i64 0,.slice none 0 0] from rfl] at HSm
 go_wp2_with fail
 (with_reducible refine HSm.out.mono ?_)
 rintro e z3 ⟨rfl,hb3⟩
 have HBe:=Lib.hid (HBz.out.trans (hb3.mono HBz.out.size))
 clear hb3 HSm
 go_wp2_with fail
 go_ret
 exact ⟨rfl,HBe.out⟩
def numB (t:Tm):Bool:=decide (checkP t=0) && (decide (t.k=3) || decide (t.k=4))
theorem numB_spec {t:Tm} (h:numB t=true):checkP t=0∧(t.k=3∨t.k=4):=by
 unfold numB at h
 simp only [Bool.and_eq_true,Bool.or_eq_true,decide_eq_true_eq] at h
 exact h
theorem numB_nm {t:Tm} (h:numB t=true):∃ x,nmOf t=some x:=by
 unfold nmOf
 rcases (numB_spec h).2 with h3 | h4
 ·rw [if_pos h3];exact ⟨_,rfl⟩
 ·rw [if_neg (by omega),if_pos h4];exact ⟨_,rfl⟩
theorem deq (x k:Int):decide (x=k)=(x==k):=by
 by_cases h:x=k
 ·rw [decide_eq_true h,h];simp
 ·rw [decide_eq_false h];exact (beq_eq_false_iff_ne.2 h).symm
set_option maxRecDepth 100000 in
set_option maxHeartbeats 4000000 in
theorem number_ok {t:Tm} {sl:Value} {w:World} (ht:TAt w w.heap.size t sl) (hf:Fits t):Calls Tryz.prog 17 #[valT t sl] w fun e w'=>e = .returned (.bool (numB t))∧Below w.heap.size w w':=by
 obtain ⟨k,nl,ml,b,v,ts,nb,mb,A,c,rfl,rfl,hnb,hmb,hl1,hl2,hl3,hv,hs1,hs2⟩:=ht.letters
 obtain ⟨q,hq⟩:∃ q,ts.length=q:=⟨_,rfl⟩
 have HCk:=Lib.hid (fun (y:World) (hy:Below w.heap.size w y)=>rCheck_any (ht.to hy hy.size) hf)
 rw [hv] at HCk ⊢
 rw [hq] at HCk ⊢
 have hN:numB (.mk k nl ml b v ts)=((checkP (.mk k nl ml b v ts)==0) && ((k==3) || (k==4))):=by
  unfold numB
  rw [deq]
  show ((checkP (.mk k nl ml b v ts)==0) && (decide (k=3) || decide (k=4)))=_
  rw [deq,deq]
 generalize checkP (.mk k nl ml b v ts)=x at *
 rw [hN]
 have hX1:=TBox.new (ts:=ts) w (k:=k) (b:=b) (v:=v) (sl:=.slice A q c) hnb hmb
 have HX:=Lib.hid hX1
 have HB:=Lib.hid (show Below w.heap.size w (w.alloc (.cells #[.int .i64 k,.string nb,.string mb,.int .u64 b,.int .i64 v,.slice A q c] 25)) from (Below.refl _ _).alloc (Nat.le_refl _) _)
 have HNm:=Lib.hid (And.intro hnb hmb)
 obtain ⟨x0,x1,x2,x3,x4,x5⟩:=hX1.cells hnb hmb
 obtain ⟨b0,d0⟩:∃ b,(x==0)=b:=⟨_,rfl⟩
 obtain ⟨b3,d3⟩:∃ b,(k==3)=b:=⟨_,rfl⟩
 obtain ⟨b4,d4⟩:∃ b,(k==4)=b:=⟨_,rfl⟩
 rw [d0,d3,d4]
 clear hX1 ht hf hv hl1 hl2 hl3 hs1 hs2 hnb hmb hq hN
 cases b0 <;> cases b3 <;> cases b4
 all_goals
  go_enter Tryz.func17,Tryz.ntmps17
  go_upto_region 1 with fail
  generalize w.alloc (.cells #[.int .i64 k,.string nb,.string mb,.int .u64 b,.int .i64 v,.slice A q c] 25)=w0 at *
  go_wp2_with (go_at_call 27;(with_reducible refine (HCk.out _ HB.out).mono ?_);rintro e w1 ⟨rfl,hb1⟩;have HB1:=Lib.hid (HB.out.trans (hb1.mono HB.out.size));have HX1:=Lib.hid (HX.out.below hb1);clear hb1 x0 x1 x2 x3 x4 x5;obtain ⟨x0,x1,x2,x3,x4,x5⟩:=HX1.out.cells HNm.out.1 HNm.out.2)
  go_ret
  exact ⟨rfl,HB1.out⟩
end
end Go.Proofs.YtjpnmmjgdiiahaaGreatDoor
set_option exponentiation.threshold 5000
namespace Go.Proofs.YtjpnmmjgdiiahaaGreatDoor
section
open Go.RowKit Hb Ht Hq
attribute [local go_sem ↓] Go.wp_at_zero Go.wp_at_succ
attribute [local go_sem] run_store_float
theorem bothR_comm {I:Int→Int→Int × Int} {Fo:Nat→Nat→Nat} (hI:∀ a b,I a b=I b a) (hF:∀ a b,Fo a b=Fo b a) (x y:Nm):bothR I Fo x y=bothR I Fo y x:=by
 cases x with
 | int a=>
  cases y with
  | int b=>show wholeR (I a b).1 (I a b).2=wholeR (I b a).1 (I b a).2;rw [hI]
  | flo b=>
   rw [bothR_flo (.inr ⟨b,rfl⟩),bothR_flo (.inl ⟨b,rfl⟩)]
   cases h1:floR (.int a) with
   | none=>rfl
   | some c=>show flowR (Fo c b)=flowR (Fo b c);rw [hF]
 | flo a=>
  rw [bothR_flo (.inl ⟨a,rfl⟩),bothR_flo (.inr ⟨a,rfl⟩)]
  cases h1:floR y with
  | none=>rfl
  | some c=>show flowR (Fo a c)=flowR (Fo c a);rw [hF]
theorem sumI_comm (a b:Int):sumI a b=sumI b a:=by unfold sumI;rw [Int.add_comm]
theorem mulI_comm (a b:Int):mulI a b=mulI b a:=by unfold mulI;rw [Int.mul_comm]
theorem sumF_comm (a b:Nat):sumF a b=sumF b a:=by unfold sumF;rw [add_comm64]
theorem mulF_comm (a b:Nat):mulF a b=mulF b a:=by unfold mulF;rw [mul_comm64]
theorem errs_two {s:List UInt8} {x y:Tm} (hs:Lib.validD s=true) (hl:s.length≤1000) (hx:errsP x=0) (hy:errsP y=0):errsP (cmpT s [x,y])=0:=by
 refine errs_iff.2 ⟨one_iff.2 ⟨by simp [cmpT,Tm.k],by simp [cmpT,stray,Tm.k,Tm.n,Tm.m,Tm.b,Tm.v,Tm.as],by simp [cmpT,Tm.v],fun _=>by simp [cmpT,Tm.as],hs,hl,fun h=>absurd h (by simp [cmpT,Tm.k]),fun h=>absurd h (by simp [cmpT,Tm.k])⟩,fun a ha=>?_⟩
 have ha:a ∈ [x,y]:=ha
 simp only [List.mem_cons,List.not_mem_nil,or_false] at ha
 rcases ha with rfl | rfl
 ·exact hx
 ·exact hy
theorem num_as {t:Tm} (h:numB t=true):t.as = []:=by
 have h1:=one_iff.1 (check_one (utf:=Lib.validD) (canon:=canonB) (flo:=floB) (numB_spec h).1)
 have h2:=h1.2.1
 unfold stray at h2
 simp only [Bool.or_eq_false_iff,Bool.and_eq_false_iff] at h2
 rcases h2.2 with h3 | h3
 ·have:t.as.length=0:=by simpa using h3
  exact List.length_eq_zero_iff.1 this
 ·have h4:t.k=5:=by simpa using h3
  rcases (numB_spec h).2 with h5 | h5 <;> omega
theorem num_sz {t:Tm} (h:numB t=true):sz t=1:=by
 have:=num_as h
 obtain ⟨k,n,m,b,v,zs⟩:=t
 change zs = [] at this
 subst this
 simp [sz,szs]
theorem chk_two {s:List UInt8} {x y:Tm} (hs:Lib.validD s=true) (hl:s.length≤1000) (hx:numB x=true) (hy:numB y=true):checkP (cmpT s [x,y])=0:=
 check_iff.2 ⟨by rw [show sz (cmpT s [x,y])=szs [x,y]+1 from by simp [cmpT,sz]];simp [szs,num_sz hx,num_sz hy],errs_two hs hl (check_iff.1 (numB_spec hx).1).2 (check_iff.1 (numB_spec hy).1).2⟩
theorem dec_len {z:Int} (h:tooLong z=false):(decB z).length≤4098:=by
 have h2:=Classical.not_not.1 (of_decide_eq_false (tooLong_iff ▸ h))
 have h3:(digs 10 z.natAbs).length≤4096:=digs_length_le (by decide) (Nat.lt_of_lt_of_le h2 (Nat.pow_le_pow_left (by decide) 4096))
 unfold decB
 rw [List.length_map,txtZ,txtL]
 split
 ·simp
 ·split <;> simp <;> omega
theorem num_leaf (w:World) (P:Nat→Prop) {x:Nm} (h:NmS x):TAtP w P (numT x) (.slice none 0 0):=by
 cases x with
 | int z=>
  have hl:=dec_len h
  exact TAtP.leaf w P (t:=numT (.int z)) rfl (by unfold maxLen;omega) ⟨by show ([]:List UInt8).length≤_;unfold maxLen;simp,by show (decB z).length≤maxLen;unfold maxLen;omega,by show (0:Int)≤0∧(0:Int)<18446744073709551616;omega,by show (-9223372036854775808:Int)≤0∧(0:Int)≤9223372036854775807;omega,by show (-9223372036854775808:Int)≤3∧(3:Int)≤9223372036854775807;omega⟩
 | flo f=>exact flo_leaf w P h.1.2
theorem zero_leaf (w:World) (P:Nat→Prop):TAtP w P zeroT (.slice none 0 0):=
 TAtP.leaf w P (t:=zeroT) rfl (by unfold maxLen;omega) ⟨by show ([]:List UInt8).length≤_;unfold maxLen;simp,by show ([]:List UInt8).length≤_;unfold maxLen;simp,by show (0:Int)≤0∧(0:Int)<18446744073709551616;omega,by show (-9223372036854775808:Int)≤0∧(0:Int)≤9223372036854775807;omega,by show (-9223372036854775808:Int)≤0∧(0:Int)≤9223372036854775807;omega⟩
theorem BBox.cells {w:World} {g:Nat} {k v b:Int} {n m:List UInt8} {ts:List Tm} {sl:Value} {nb mb:ByteArray} (h:BBox w g (.mk k n m b v ts) sl) (hn:(⟨n.toArray⟩:ByteArray)=nb) (hm:(⟨m.toArray⟩:ByteArray)=mb) :
  w.cell? ⟨g,0,none⟩=some (.int .i64 k)∧w.cell? ⟨g,1,none⟩=some (.string nb)∧w.cell? ⟨g,2,none⟩=some (.string mb)∧w.cell? ⟨g,3,none⟩=some (.int .u64 b)∧w.cell? ⟨g,4,none⟩=some (.int .i64 v)∧w.cell? ⟨g,5,none⟩=some sl:=by
 subst hn hm
 refine ⟨?_,?_,?_,?_,?_,?_⟩ <;> (rw [cell_of_row w g _ _ _ (0,0) h];rfl)
set_option maxRecDepth 100000 in
set_option maxHeartbeats 2000000 in
theorem thrown_ok {w:World} {lo:Nat} {t:Tm} {v:Value} (h:BallP w lo t v):Calls Tryz.prog 26 #[v] w fun e w'=>∃ sl,e = .returned (.tuple #[valT t sl,.bool true])∧TAt w' w'.heap.size t sl∧Below w.heap.size w w':=by
 obtain ⟨g,sl,rfl,hlo,hbx,ht⟩:=h
 obtain ⟨k,n,m,b,vv,ts,nb,mb,A,c,rfl,rfl,hn,hm,_,_,_,hv,_,_⟩:=ht.letters
 obtain ⟨q,hq⟩:∃ q,ts.length=q:=⟨_,rfl⟩
 rw [hq] at hbx ht hv
 have HT:=Lib.hid ht
 have ha:∀ (W:World) (v:Value),(Instr.typeAssert (.iface 95 v) 49 95 true).run Tryz.prog W = .ok (.tuple #[v,.bool true]) W:=fun W v=>by kernel_rfl
 have hB:Below w.heap.size w (w.alloc (.cells #[.int .i64 0,.string ⟨#[]⟩,.string ⟨#[]⟩,.int .u64 0,.int .i64 0,.slice none 0 0] 25)):=(Below.refl _ _).alloc (Nat.le_refl _) _
 have hX:TBox (w.alloc (.cells #[.int .i64 0,.string ⟨#[]⟩,.string ⟨#[]⟩,.int .u64 0,.int .i64 0,.slice none 0 0] 25)) w.heap.size zeroT (.slice none 0 0):=TBox.new w rfl rfl
 have hb1:=hbx.below hB hbx.lt
 have HL:=Lib.hid hbx.lt
 have HB:=Lib.hid hB
 have HS:=Lib.hid (hX.set6 (k:=k) (b:=b) (v:=vv) (n:=n) (m:=m) (nb:=nb) (mb:=mb) ts (.slice A q c) hn hm)
 have HNm:=Lib.hid (And.intro hn hm)
 have HV:=Lib.hid hv
 obtain ⟨x0,x1,x2,x3,x4,x5⟩:=hb1.cells hn hm
 obtain ⟨c0,c1,c2,c3,c4,c5⟩:=hX.cells rfl rfl
 obtain ⟨z0,z1,z2,z3,z4,z5⟩:=hX.frozens
 clear hB hX hb1 hbx ht hn hm hv hq
 go_enter Tryz.func26,Tryz.ntmps26
 go_upto_region 1 with fail
 generalize w.alloc (.cells #[.int .i64 0,.string ⟨#[]⟩,.string ⟨#[]⟩,.int .u64 0,.int .i64 0,.slice none 0 0] 25)=w0 at *
 go_wp2_with fail
 obtain ⟨hbx,hgr⟩:=HS.out
 generalize (((((w0.setCell ⟨w.heap.size,0,none⟩ (.int .i64 k)).setCell ⟨w.heap.size,1,none⟩ (.string nb)).setCell ⟨w.heap.size,2,none⟩ (.string mb)).setCell ⟨w.heap.size,3,none⟩ (.int .u64 b)).setCell ⟨w.heap.size,4,none⟩ (.int .i64 vv)).setCell ⟨w.heap.size,5,none⟩ (.slice A q c)=w6 at *
 obtain ⟨r0,r1,r2,r3,r4,r5⟩:=hbx.cells HNm.out.1 HNm.out.2
 have hBe:Below w.heap.size w w6:=HB.out.grown hgr HB.out.size (fun j e=>by injection e with e;omega)
 refine bodyPost_ret (v:=.tuple #[.agg #[.int .i64 k,.string nb,.string mb,.int .u64 b,.int .i64 vv,.slice A q c],.bool true]) (by simp [results,Tryz.results26,go_sem,r0,r1,r2,r3,r4,r5]) rfl ⟨.slice A q c,by rw [HV.out],?_,hBe⟩
 exact TAtP.keep _ HT.out (fun b hb=>⟨Nat.lt_of_lt_of_le hb.2 hBe.size,hBe.block b hb.2⟩)
end
end Go.Proofs.YtjpnmmjgdiiahaaGreatDoor
set_option exponentiation.threshold 5000
namespace Go.Proofs.YtjpnmmjgdiiahaaGreatDoor
section
open Go.RowKit Hb Ht Hq
attribute [local go_sem ↓] Go.wp_at_zero Go.wp_at_succ
attribute [local go_sem] run_store_float
def TwoEv (w:World) (s:List UInt8) (ta tb:Tm) (R:Rs):Prop:=∀ (y:World) (sl:Value),Below w.heap.size w y→TAt y y.heap.size (cmpT s [ta,tb]) sl→Calls Tryz.prog 24 #[valT (cmpT s [ta,tb]) sl] y (EvalPost y R)
theorem twoEv {w0' w:World} {s:List UInt8} {ta tb:Tm} {x y:Nm} {f:Nm→Nm→Rs} {R:Rs} (hs:Lib.validD s=true) (hl:s.length≤1000) (hf:binK s=some f) (ha:numB ta=true) (hb:numB tb=true) (hx:nmOf ta=some x) (hy:nmOf tb=some y) (hR:f x y=R) (hU:UOk w0' w):TwoEv w s ta tb R:=by
 intro u sl hu ht
 have hev:Ev binK (cmpT s [ta,tb]) (seqR (.ok x) (.ok y) f):=.two hf (.num hx (rdOk (numB_spec ha).1)) (.num hy (rdOk (numB_spec hb).1))
 rw [show seqR (.ok x) (.ok y) f=f x y from rfl,hR] at hev
 exact Eval_ok kok hev (chk_two hs hl ha hb) ht (hU.below hu)
theorem TwoEv.val {w:World} {s:List UInt8} {ta tb:Tm} {x:Nm} (h:TwoEv w s ta tb (.ok x)) (y:World) (sl:Value) (hy:Below w.heap.size w y) (ht:TAt y y.heap.size (cmpT s [ta,tb]) sl):Calls Tryz.prog 24 #[valT (cmpT s [ta,tb]) sl] y fun e w'=>e = .returned (.tuple #[valT (numT x) (.slice none 0 0),.nilIface])∧Below y.heap.size y w':=
 (h y sl hy ht).mono fun e w' ⟨hb,h⟩=>by
  rcases h with ⟨z,h1,h2,_⟩ | ⟨t,v,h1,_⟩
  ·injection h1 with h1;subst h1;exact ⟨h2,hb⟩
  ·cases h1
theorem TwoEv.err {w:World} {s:List UInt8} {ta tb t:Tm} (h:TwoEv w s ta tb (.bad t)) (y:World) (sl:Value) (hy:Below w.heap.size w y) (ht:TAt y y.heap.size (cmpT s [ta,tb]) sl):Calls Tryz.prog 24 #[valT (cmpT s [ta,tb]) sl] y fun e w'=>∃ g,e = .returned (.tuple #[valT zeroT (.slice none 0 0),.iface 95 (.pointer (some ⟨g,0,none⟩))])∧BallP w' y.heap.size t (.iface 95 (.pointer (some ⟨g,0,none⟩)))∧Below y.heap.size y w':=
 (h y sl hy ht).mono fun e w' ⟨hb,h⟩=>by
  rcases h with ⟨z,h1,_⟩ | ⟨t,v,h1,h2,h3⟩
  ·cases h1
  ·injection h1 with h1
   subst h1
   obtain ⟨g,rfl⟩:=h3.iface
   exact ⟨g,h2,h3,hb⟩
theorem rs_cases (R:Rs):(∃ x,R = .ok x)∨∃ t,R = .bad t:=by cases R with
 | ok x=>exact .inl ⟨x,rfl⟩
 | bad t=>exact .inr ⟨t,rfl⟩
theorem flowR_ok {F:Nat} {x:Nm} (h:Num64 F) (e:flowR F = .ok x):NmS x:=by
 unfold flowR at e
 split at e
 ·cases e
 ·rename_i G hG
  injection e with e
  subst e
  exact flowM_flo h hG
theorem wholeR_ok {z E:Int} {x:Nm} (h:E=0→tooLong z=false) (e:wholeR z E = .ok x):NmS x:=by
 unfold wholeR at e
 split at e
 ·rename_i h0;injection e with e;subst e;exact h h0
 ·split at e <;> cases e
theorem sum_ok {s:List UInt8} {x y z:Nm} {f:Nm→Nm→Rs} (hx:NmS x) (hy:NmS y) {I:Int→Int→Int × Int} {Fo:Nat→Nat→Nat} (hI:∀ a b,(I a b).2=0→tooLong (I a b).1=false) (hF:∀ a b,Flo64 a→Flo64 b→Num64 (Fo a b)) (e:bothR I Fo x y = .ok z):NmS z:=by
 have key:∀ {x:Nm} {a:Nat},NmS x→floR x=some a→Flo64 a:=by
  intro x a hx e
  cases x with
  | int z=>
   change (if tfC z=0 then some (tfB z) else none)=some a at e
   by_cases hc:tfC z=0
   ·rw [if_pos hc] at e;injection e with e;subst e;exact tfB_flo hx hc
   ·rw [if_neg hc] at e;cases e
  | flo f=>injection e with e;subst e;exact hx
 by_cases hf:(∃ f,x = .flo f)∨(∃ f,y = .flo f)
 ·rw [bothR_flo hf] at e
  cases h1:floR x with
  | none=>rw [h1] at e;cases e
  | some a=>
   cases h2:floR y with
   | none=>rw [h1,h2] at e;cases e
   | some b=>rw [h1,h2] at e;exact flowR_ok (hF a b (key hx h1) (key hy h2)) e
 ·cases x with
  | flo f=>exact absurd (.inl ⟨f,rfl⟩) hf
  | int a=>
   cases y with
   | flo f=>exact absurd (.inr ⟨f,rfl⟩) hf
   | int b=>exact wholeR_ok (hI a b) e
theorem nms_of {t:Tm} {x:Nm} (h:numB t=true) (hx:nmOf t=some x) (hb:0≤t.b∧t.b<18446744073709551616):NmS x:=by
 have hr:=rdOk (numB_spec h).1
 unfold nmOf at hx
 split at hx
 ·rename_i h3;injection hx with hx;subst hx;exact code_ok (hr.1 h3)
 ·split at hx
  ·rename_i h4;injection hx with hx;subst hx;exact floB_flo (hr.2 h4) hb.1 hb.2
  ·cases hx
set_option maxRecDepth 100000 in
set_option maxHeartbeats 16000000 in
theorem Turns_walk {ta tb:Tm} {sa sb:Value} {w0' w:World} (ha:TAt w w.heap.size ta sa) (hb:TAt w w.heap.size tb sb) (fa:Fits ta) (fb:Fits tb) (hU:UOk w0' w) :
  Calls Tryz.prog 8 #[valT ta sa,valT tb sb] w fun e w'=>e = .returned (.bool true)∧Below w.heap.size w w':=by
 obtain ⟨k0,nl0,ml0,b0,v0,ts0,nb0,mb0,A0,c0,rfl,rfl,hnb0,hmb0,_,_,_,hv0,hs0,hms0⟩:=ha.letters
 obtain ⟨k1,nl1,ml1,b1,v1,ts1,nb1,mb1,A1,c1,rfl,rfl,hnb1,hmb1,_,_,_,hv1,hs1,hms1⟩:=hb.letters
 obtain ⟨q0,hq0⟩:∃ q,ts0.length=q:=⟨_,rfl⟩
 rw [hq0] at ha hv0 ⊢
 have HN0:=Lib.hid (fun (y:World) (hy:Below w.heap.size w y)=>number_ok (ha.to hy hy.size) fa)
 rw [hv0] at HN0 ⊢
 have HTt0:=Lib.hid (fun (y:World) (hy:Below w.heap.size w y)=>ha.to hy hy.size)
 have hok0:0≤b0∧b0<18446744073709551616:=ha.ok.2.2.1
 obtain ⟨q1,hq1⟩:∃ q,ts1.length=q:=⟨_,rfl⟩
 rw [hq1] at hb hv1 ⊢
 have HN1:=Lib.hid (fun (y:World) (hy:Below w.heap.size w y)=>number_ok (hb.to hy hy.size) fb)
 rw [hv1] at HN1 ⊢
 have HTt1:=Lib.hid (fun (y:World) (hy:Below w.heap.size w y)=>hb.to hy hy.size)
 have hok1:0≤b1∧b1<18446744073709551616:=hb.ok.2.2.1
 have HAw:=Lib.hid (fun (y:World) (hy:Below w.heap.size w y)=>awake_ok (hU.below hy))
 have HTw:=Lib.hid (fun (n1:numB (Tm.mk k0 nl0 ml0 b0 v0 ts0)=true) (n2:numB (Tm.mk k1 nl1 ml1 b1 v1 ts1)=true) (x y:Nm) (e1:nmOf (Tm.mk k0 nl0 ml0 b0 v0 ts0)=some x) (e2:nmOf (Tm.mk k1 nl1 ml1 b1 v1 ts1)=some y)=>
  And.intro (And.intro (twoEv (w0':=w0') (w:=w) (s:=[43]) (by decide +kernel) (by decide) rfl n1 n2 e1 e2 (rfl:bothR sumI sumF x y=_) hU) (twoEv (w0':=w0') (w:=w) (s:=[43]) (by decide +kernel) (by decide) rfl n2 n1 e2 e1 (bothR_comm sumI_comm sumF_comm y x) hU))
   (And.intro (twoEv (w0':=w0') (w:=w) (s:=[42]) (by decide +kernel) (by decide) rfl n1 n2 e1 e2 (rfl:bothR mulI mulF x y=_) hU) (twoEv (w0':=w0') (w:=w) (s:=[42]) (by decide +kernel) (by decide) rfl n2 n1 e2 e1 (bothR_comm mulI_comm mulF_comm y x) hU)))
 have HNs:=Lib.hid (fun (n1:numB (Tm.mk k0 nl0 ml0 b0 v0 ts0)=true) (n2:numB (Tm.mk k1 nl1 ml1 b1 v1 ts1)=true) (x y:Nm) (e1:nmOf (Tm.mk k0 nl0 ml0 b0 v0 ts0)=some x) (e2:nmOf (Tm.mk k1 nl1 ml1 b1 v1 ts1)=some y)=>And.intro (nms_of n1 e1 hok0) (nms_of n2 e2 hok1))
 have hXa:(w.alloc (.cells #[.int .i64 k0,.string nb0,.string mb0,.int .u64 b0,.int .i64 v0,.slice A0 q0 c0] 25)).heap[w.heap.size]?=some (.cells #[.int .i64 k0,.string nb0,.string mb0,.int .u64 b0,.int .i64 v0,.slice A0 q0 c0] 25 (0,0)):=heap_alloc_new w _
 have hXb:((w.alloc (.cells #[.int .i64 k0,.string nb0,.string mb0,.int .u64 b0,.int .i64 v0,.slice A0 q0 c0] 25)).alloc (.cells #[.int .i64 k1,.string nb1,.string mb1,.int .u64 b1,.int .i64 v1,.slice A1 q1 c1] 25)).heap[w.heap.size+1]?=some (.cells #[.int .i64 k1,.string nb1,.string mb1,.int .u64 b1,.int .i64 v1,.slice A1 q1 c1] 25 (0,0)):=by
  have:=heap_alloc_new (w.alloc (.cells #[.int .i64 k0,.string nb0,.string mb0,.int .u64 b0,.int .i64 v0,.slice A0 q0 c0] 25)) (.cells #[.int .i64 k1,.string nb1,.string mb1,.int .u64 b1,.int .i64 v1,.slice A1 q1 c1] 25)
  rwa [World.size_alloc] at this
 have hb1:Below (w.heap.size+1) (w.alloc (.cells #[.int .i64 k0,.string nb0,.string mb0,.int .u64 b0,.int .i64 v0,.slice A0 q0 c0] 25)) ((w.alloc (.cells #[.int .i64 k0,.string nb0,.string mb0,.int .u64 b0,.int .i64 v0,.slice A0 q0 c0] 25)).alloc (.cells #[.int .i64 k1,.string nb1,.string mb1,.int .u64 b1,.int .i64 v1,.slice A1 q1 c1] 25)):=(Below.refl _ _).alloc (by simp) _
 have hB:Below w.heap.size w ((w.alloc (.cells #[.int .i64 k0,.string nb0,.string mb0,.int .u64 b0,.int .i64 v0,.slice A0 q0 c0] 25)).alloc (.cells #[.int .i64 k1,.string nb1,.string mb1,.int .u64 b1,.int .i64 v1,.slice A1 q1 c1] 25)):=((Below.refl _ _).alloc (Nat.le_refl _) _).alloc (by simp) _
 have HXa:=Lib.hid ((hb1.block w.heap.size (by omega)).trans hXa)
 have HXb:=Lib.hid hXb
 have HB:=Lib.hid hB
 have HZ:=Lib.hid (show ((w.alloc (.cells #[.int .i64 k0,.string nb0,.string mb0,.int .u64 b0,.int .i64 v0,.slice A0 q0 c0] 25)).alloc (.cells #[.int .i64 k1,.string nb1,.string mb1,.int .u64 b1,.int .i64 v1,.slice A1 q1 c1] 25)).heap.size=w.heap.size+1+1 by simp)
 have HL:=Lib.hid (And.intro (@numB_nm (Tm.mk k0 nl0 ml0 b0 v0 ts0)) (@numB_nm (Tm.mk k1 nl1 ml1 b1 v1 ts1)))
 have HV:=Lib.hid (And.intro hv0 hv1)
 clear hXa hXb hb1 hB ha hb fa fb hU hv0 hv1 hs0 hs1 hms0 hms1 hnb0 hnb1 hmb0 hmb1 hq0 hq1 hok0 hok1
 generalize hTa:(Tm.mk k0 nl0 ml0 b0 v0 ts0)=Ta at *
 generalize hTb:(Tm.mk k1 nl1 ml1 b1 v1 ts1)=Tb at *
 clear hTa hTb
 obtain ⟨n1,hn1⟩:∃ b,numB Ta=b:=⟨_,rfl⟩
 obtain ⟨n2,hn2⟩:∃ b,numB Tb=b:=⟨_,rfl⟩
 rw [hn1] at HN0
 rw [hn2] at HN1
 go_enter Tryz.func8,Tryz.ntmps8
 go_upto_region 1 with fail
 generalize ((w.alloc (.cells #[.int .i64 k0,.string nb0,.string mb0,.int .u64 b0,.int .i64 v0,.slice A0 q0 c0] 25)).alloc (.cells #[.int .i64 k1,.string nb1,.string mb1,.int .u64 b1,.int .i64 v1,.slice A1 q1 c1] 25))=w0 at *
 go_upto_region 2 with (go_at_call 10;(with_reducible refine (HAw.out _ HB.out).mono ?_);rintro e w1 ⟨rfl,hb⟩;have HW:=Lib.hid hb;clear hb)
 obtain ⟨xa0,xa1,xa2,xa3,xa4,xa5⟩:w1.cell? ⟨w.heap.size,0,none⟩=some (.int .i64 k0)∧w1.cell? ⟨w.heap.size,1,none⟩=some (.string nb0)∧w1.cell? ⟨w.heap.size,2,none⟩=some (.string mb0)∧w1.cell? ⟨w.heap.size,3,none⟩=some (.int .u64 b0)∧w1.cell? ⟨w.heap.size,4,none⟩=some (.int .i64 v0)∧w1.cell? ⟨w.heap.size,5,none⟩=some (.slice A0 q0 c0):=(by refine ⟨?_,?_,?_,?_,?_,?_⟩ <;> (rw [cell_of_row _ _ _ _ _ (0,0) ((HW.out.block _ (by have:=HZ.out;omega)).trans HXa.out)];rfl))
 obtain ⟨xb0,xb1,xb2,xb3,xb4,xb5⟩:w1.cell? ⟨w.heap.size+1,0,none⟩=some (.int .i64 k1)∧w1.cell? ⟨w.heap.size+1,1,none⟩=some (.string nb1)∧w1.cell? ⟨w.heap.size+1,2,none⟩=some (.string mb1)∧w1.cell? ⟨w.heap.size+1,3,none⟩=some (.int .u64 b1)∧w1.cell? ⟨w.heap.size+1,4,none⟩=some (.int .i64 v1)∧w1.cell? ⟨w.heap.size+1,5,none⟩=some (.slice A1 q1 c1):=(by refine ⟨?_,?_,?_,?_,?_,?_⟩ <;> (rw [cell_of_row _ _ _ _ _ (0,0) ((HW.out.block _ (by have:=HZ.out;omega)).trans HXb.out)];rfl))
 go_upto_region 3 with (go_at_call 17;(with_reducible refine (HN0.out _ (HB.out.trans (HW.out.mono HB.out.size))).mono ?_);rintro e w2 ⟨rfl,hb⟩;have HW':=Lib.hid (HW.out.trans (hb.mono HW.out.size));clear hb)
 clear xa0 xa1 xa2 xa3 xa4 xa5 xb0 xb1 xb2 xb3 xb4 xb5
 clear HW
 have HW:=Lib.hid HW'.out
 clear HW'
 obtain ⟨xa0,xa1,xa2,xa3,xa4,xa5⟩:w2.cell? ⟨w.heap.size,0,none⟩=some (.int .i64 k0)∧w2.cell? ⟨w.heap.size,1,none⟩=some (.string nb0)∧w2.cell? ⟨w.heap.size,2,none⟩=some (.string mb0)∧w2.cell? ⟨w.heap.size,3,none⟩=some (.int .u64 b0)∧w2.cell? ⟨w.heap.size,4,none⟩=some (.int .i64 v0)∧w2.cell? ⟨w.heap.size,5,none⟩=some (.slice A0 q0 c0):=(by refine ⟨?_,?_,?_,?_,?_,?_⟩ <;> (rw [cell_of_row _ _ _ _ _ (0,0) ((HW.out.block _ (by have:=HZ.out;omega)).trans HXa.out)];rfl))
 obtain ⟨xb0,xb1,xb2,xb3,xb4,xb5⟩:w2.cell? ⟨w.heap.size+1,0,none⟩=some (.int .i64 k1)∧w2.cell? ⟨w.heap.size+1,1,none⟩=some (.string nb1)∧w2.cell? ⟨w.heap.size+1,2,none⟩=some (.string mb1)∧w2.cell? ⟨w.heap.size+1,3,none⟩=some (.int .u64 b1)∧w2.cell? ⟨w.heap.size+1,4,none⟩=some (.int .i64 v1)∧w2.cell? ⟨w.heap.size+1,5,none⟩=some (.slice A1 q1 c1):=(by refine ⟨?_,?_,?_,?_,?_,?_⟩ <;> (rw [cell_of_row _ _ _ _ _ (0,0) ((HW.out.block _ (by have:=HZ.out;omega)).trans HXb.out)];rfl))
 go_upto_region 4 with (go_at_call 17;(with_reducible refine (HN1.out _ (HB.out.trans (HW.out.mono HB.out.size))).mono ?_);rintro e w3 ⟨rfl,hb⟩;have HW':=Lib.hid (HW.out.trans (hb.mono HW.out.size));clear hb)
 clear xa0 xa1 xa2 xa3 xa4 xa5 xb0 xb1 xb2 xb3 xb4 xb5
 clear HW
 have HW:=Lib.hid HW'.out
 clear HW'
 by_cases hall:n1=true∧n2=true
 ·obtain ⟨rfl,rfl⟩:=hall
  obtain ⟨X,hX⟩:=HL.out.1 hn1
  obtain ⟨Y0,hY0⟩:=HL.out.2 hn2
  obtain ⟨⟨ht1,ht2⟩,ht3,ht4⟩:=HTw.out hn1 hn2 X Y0 hX hY0
  have hnx:=HNs.out hn1 hn2 X Y0 hX hY0
  have HR0:=Lib.hid (show ∀ x,bothR sumI sumF X Y0 = .ok x→NmS x from fun x e=>sum_ok (s:=[]) (f:=fun _ _=>.ok X) hnx.1 hnx.2 (fun a b=>err_short) (fun a b ha hb=>(add_fn.2 a b ha hb trivial).1) e)
  have HR1:=Lib.hid (show ∀ x,bothR mulI mulF X Y0 = .ok x→NmS x from fun x e=>sum_ok (s:=[]) (f:=fun _ _=>.ok X) hnx.1 hnx.2 (fun a b=>err_short) (fun a b ha hb=>(mul_fn.2 a b ha hb trivial).1) e)
  generalize bothR sumI sumF X Y0=R0 at *
  generalize bothR mulI mulF X Y0=R1 at *
  have HT0:=Lib.hid (And.intro ht1 ht2)
  have HT1:=Lib.hid (And.intro ht3 ht4)
  clear ht1 ht2 ht3 ht4 hnx HTw HNs HL HN0 HN1 HAw hn1 hn2 hX hY0
  have HNm:=Lib.hid (show (w3.alloc (.cells #[.string ⟨#[43]⟩,.string ⟨#[42]⟩] 9)).heap[w3.heap.size]?=some (.cells #[.string ⟨#[43]⟩,.string ⟨#[42]⟩] 9 (0,0)) from heap_alloc_new w3 _)
  have HBs:=Lib.hid (show Below w3.heap.size w3 (w3.alloc (.cells #[.string ⟨#[43]⟩,.string ⟨#[42]⟩] 9)) from (Below.refl _ _).alloc (Nat.le_refl _) _)
  have HBn:=Lib.hid (HW.out.trans (HBs.out.mono HW.out.size))
  go_upto_region 8 with fail
  generalize w3.alloc (.cells #[.string ⟨#[43]⟩,.string ⟨#[42]⟩] 9)=w5 at *
  have HL5:=Lib.hid (Array.getElem?_eq_some_iff.1 HNm.out).1
  go_loopw [9] (fun v9 wr=>∃ i:Nat,v9 = .int .i64 (i:Int)∧i≤2∧Hid (Below w5.heap.size w5 wr)) (fun v9 _=>((2:Int) - intOf v9).toNat)
  case atStart=>exact ⟨0,rfl,by omega,Lib.hid (Below.refl _ _)⟩
  case round=>
   obtain ⟨i,rfl,hi,HI⟩:=hrel
   have HIw:=Lib.hid (HBn.out.trans (HI.out.mono HBn.out.size))
   have HNb:=Lib.hid (show ∀ y,Below wr.heap.size wr y→y.cell? ⟨w3.heap.size,0,none⟩=some (.string ⟨#[43]⟩)∧y.cell? ⟨w3.heap.size,1,none⟩=some (.string ⟨#[42]⟩) from fun y hy=>by
    have h9:=(hy.block w3.heap.size (Nat.lt_of_lt_of_le HL5.out HI.out.size)).trans ((HI.out.block w3.heap.size HL5.out).trans HNm.out)
    refine ⟨?_,?_⟩ <;> (rw [cell_of_row _ _ _ _ _ (0,0) h9];rfl))
   rcases (by omega:i=0∨i=1∨i=2) with rfl | rfl | rfl
   ·rcases rs_cases R0 with ⟨x,rfl⟩ | ⟨tt,rfl⟩
    ·have hns:=HR0.out x rfl
     have HNx:=Lib.hid (hns)
     generalize hY:numT x=Y at *
     obtain ⟨ky,ny,my,by1,vy,ay⟩:=Y
     obtain ⟨nyb,hny⟩:∃ x:ByteArray,(⟨ny.toArray⟩:ByteArray)=x:=⟨_,rfl⟩
     obtain ⟨myb,hmy⟩:∃ x:ByteArray,(⟨my.toArray⟩:ByteArray)=x:=⟨_,rfl⟩
     have HYl:=Lib.hid (And.intro hny hmy)
     obtain rfl:ay = []:=by cases x <;> (injection hY with _ _ _ _ _ h9;exact h9.symm)
     have HYv:=Lib.hid (show valT (numT x) (.slice none 0 0) = .agg #[.int .i64 ky,.string nyb,.string myb,.int .u64 by1,.int .i64 vy,.slice none 0 0] from by rw [hY];exact valT_mk hny hmy)
     have HYt:=Lib.hid (show ∀ u:World,TAt u u.heap.size (.mk ky ny my by1 vy []) (.slice none 0 0) from fun u=>by rw [←hY];exact num_leaf u _ HNx.out)
     clear hny hmy hY hns
     go_upto_region 10 with fail
     refine wp_region_U 13 (by kernel_rfl) (fun z0 K0 hs0=>?_)
     refine qz 0 K0 ?_
     refine qz 1 K0 ?_
     refine qz 2 K0 ?_
     refine qz 3 K0 ?_ (y:=fun z5 hS=>by have q0:=HNb.out z5 hS;obtain ⟨q1,q2⟩:=q0;go_simp;rfl)
     refine qz 4 K0 ?_ (y:=fun z5 hS=>by obtain ⟨xa0,xa1,xa2,xa3,xa4,xa5⟩:z5.cell? ⟨w.heap.size,0,none⟩=some (.int .i64 k0)∧z5.cell? ⟨w.heap.size,1,none⟩=some (.string nb0)∧z5.cell? ⟨w.heap.size,2,none⟩=some (.string mb0)∧z5.cell? ⟨w.heap.size,3,none⟩=some (.int .u64 b0)∧z5.cell? ⟨w.heap.size,4,none⟩=some (.int .i64 v0)∧z5.cell? ⟨w.heap.size,5,none⟩=some (.slice A0 q0 c0):=(by refine ⟨?_,?_,?_,?_,?_,?_⟩ <;> (rw [cell_of_row _ _ _ _ _ (0,0) (((HIw.out.trans (hS.mono HIw.out.size)).block _ (by have:=HZ.out;omega)).trans HXa.out)];rfl));go_simp;rfl)
     refine qz 5 K0 ?_ (y:=fun z5 hS=>by obtain ⟨xb0,xb1,xb2,xb3,xb4,xb5⟩:z5.cell? ⟨w.heap.size+1,0,none⟩=some (.int .i64 k1)∧z5.cell? ⟨w.heap.size+1,1,none⟩=some (.string nb1)∧z5.cell? ⟨w.heap.size+1,2,none⟩=some (.string mb1)∧z5.cell? ⟨w.heap.size+1,3,none⟩=some (.int .u64 b1)∧z5.cell? ⟨w.heap.size+1,4,none⟩=some (.int .i64 v1)∧z5.cell? ⟨w.heap.size+1,5,none⟩=some (.slice A1 q1 c1):=(by refine ⟨?_,?_,?_,?_,?_,?_⟩ <;> (rw [cell_of_row _ _ _ _ _ (0,0) (((HIw.out.trans (hS.mono HIw.out.size)).block _ (by have:=HZ.out;omega)).trans HXb.out)];rfl));go_simp;rfl)
     refine wpAnyW_float [11] (fun _=>(.cells #[.int .i64 0,.string ⟨#[]⟩,.string ⟨#[]⟩,.int .u64 0,.int .i64 0,.slice none 0 0] 25)) (by kernel_rfl) (by kernel_rfl) (FloatRun.one rfl (fun a w=>by go_simp)) (fun _ _ h1 h2=>h2.trans (h1.mono h2.size)) (by kernel_rfl) (fun _ _ _ _ _ h=>h) rfl K0 ?_
     refine wpAnyF_one (i:=6) (by kernel_rfl) (by kernel_rfl) (fun _ _ _ _ _ h=>h) ⟨by kernel_rfl,by kernel_rfl⟩ (by kernel_rfl) rfl (by kernel_rfl) (fun z1 d1 K1 K hK=>?_)
     go_simp
     have hwz:=HB.out.trans ((HIw.out.trans (K1.mono HIw.out.size)).mono HB.out.size)
     have HF:=Lib.hid (f2_ok (w:=z1) (P:=fun b=>b<z1.heap.size) (s:=[43]) (nb:=⟨#[43]⟩) (HTt0.out z1 hwz) (HTt1.out z1 hwz) (fun b h=>h) rfl (by decide))
     rw [HV.out.1,HV.out.2] at HF
     (with_reducible refine HF.out.mono ?_)
     rintro e z2 ⟨sl2,rfl,hat2,hb2⟩
     obtain ⟨A2,c2,rfl,_⟩:=TAtP.iff.1 hat2
     have K2:=K1.trans (hb2.mono K1.size)
     have HAt:=Lib.hid (show TAt z2 z2.heap.size (cmpT [43] [Ta,Tb]) (.slice A2 2 c2) from hat2.wide (fun b hb=>hb.elim (fun h=>Nat.lt_of_lt_of_le h hb2.size) (·.2)))
     rw [show valT (cmpT [43] [Ta,Tb]) (.slice A2 (Ht.Tm.as (cmpT [43] [Ta,Tb])).length c2) = .agg #[.int .i64 5,.string ⟨#[43]⟩,.string ⟨#[]⟩,.int .u64 0,.int .i64 0,.slice A2 2 c2] from rfl]
     refine hK.out _ _ hb2 K2 ?_
     clear hat2 HF
     refine wpAnyF_one (i:=7) (by kernel_rfl) (by kernel_rfl) (fun _ _ _ _ _ h=>h) ⟨by kernel_rfl,by kernel_rfl⟩ (by kernel_rfl) rfl (by kernel_rfl) (fun z3 d3 K3 K hK=>?_)
     go_simp
     have HE:=Lib.hid (HT0.out.1.val z3 (.slice A2 2 c2) (HB.out.trans ((HIw.out.trans (K3.mono HIw.out.size)).mono HB.out.size)) (HAt.out.to d3 d3.size))
     rw [show valT (cmpT [43] [Ta,Tb]) (.slice A2 2 c2) = .agg #[.int .i64 5,.string ⟨#[43]⟩,.string ⟨#[]⟩,.int .u64 0,.int .i64 0,.slice A2 2 c2] from rfl] at HE
     (with_reducible refine HE.out.mono ?_)
     rintro e z4 ⟨rfl,hb4⟩
     rw [HYv.out]
     have K4:=K3.trans (hb4.mono K3.size)
     refine hK.out _ _ hb4 K4 ?_
     clear HE
     refine qF 8 ?_
     refine qF 9 ?_
     refine qF 10 ?_
     refine wpAnyF_land1 (by kernel_rfl) rfl (fun z5 HP d5 K5 hA gA=>?_)
     have gA':((False∨(z0.heap.size≤HP∧HP<z1.heap.size))∨(z2.heap.size≤HP∧HP<z3.heap.size))∨(z4.heap.size≤HP∧HP<z5.heap.size):=gA
     have HGp:=Lib.hid (show (HP<z3.heap.size∨z4.heap.size≤HP)∧z3.heap.size≤z4.heap.size∧z4.heap.size≤z5.heap.size∧wr.heap.size≤HP from by
      have h0:=K0.size
      have h1:=d1.size
      have h2:=hb2.size
      have h3:=d3.size
      have h4:=hb4.size
      have h5:=d5.size
      rcases gA' with ((h | h) | h) | h
      ·exact h.elim
      all_goals omega)
     replace hA:TBox z5 HP zeroT (.slice none 0 0):=hA
     obtain ⟨r0,r1,r2,r3,r4,r5⟩:=TBox.cells (nb:=⟨#[]⟩) (mb:=⟨#[]⟩) hA rfl rfl
     obtain ⟨s0,s1,s2,s3,s4,s5⟩:=TBox.frozens hA
     have hset:=hA.set6 (k:=ky) (b:=by1) (v:=vy) (n:=ny) (m:=my) (nb:=nyb) (mb:=myb) [] (.slice none 0 0) HYl.out.1 HYl.out.2
     have HSet:=Lib.hid hset
     have HK5:=Lib.hid K5
     clear gA gA' hb2 hb4 K0 K1 K2 K3 K4 K5 d1 d3 d5 hs0 hset hA hwz HAt
     refine uW 12 fun K hK=>?_
     go_simp
     clear r0 r1 r2 r3 r4 r5 s0 s1 s2 s3 s4 s5
     generalize (((((z5.setCell ⟨HP,0,none⟩ (.int .i64 ky)).setCell ⟨HP,1,none⟩ (.string nyb)).setCell ⟨HP,2,none⟩ (.string myb)).setCell ⟨HP,3,none⟩ (.int .u64 by1)).setCell ⟨HP,4,none⟩ (.int .i64 vy)).setCell ⟨HP,5,none⟩ (.slice none 0 0)=u1 at *
     have HUP:=Lib.hid (show Below wr.heap.size wr u1 from HK5.out.grown HSet.out.2 HK5.out.size (fun j e=>by injection e with e;have:=HGp.out;omega))
     have HXP:=Lib.hid HSet.out.1
     refine hK.out _ _ (fun _=>HUP.out) ?_
     clear HSet HK5 HGp
     refine uW 13 fun K hK=>?_
     go_simp
     refine hK.out _ _ (fun h=>absurd h (by simp)) ?_
     refine wpAnyW_done (by kernel_rfl) ?_ _
     have HS1:=Lib.hid (HIw.out.trans (HUP.out.mono HIw.out.size))
     have HM1:=Lib.hid HUP.out
     go_upto_region 11 with fail
     refine wp_region_U 13 (by kernel_rfl) (fun z0 K0 hs0=>?_)
     refine qz 0 K0 ?_
     refine qz 1 K0 ?_
     refine qz 2 K0 ?_
     refine qz 3 K0 ?_ (y:=fun z5 hS=>by have q0:=HNb.out z5 (HUP.out.trans (hS.mono HUP.out.size));obtain ⟨q1,q2⟩:=q0;go_simp;rfl)
     refine qz 4 K0 ?_ (y:=fun z5 hS=>by obtain ⟨xb0,xb1,xb2,xb3,xb4,xb5⟩:z5.cell? ⟨w.heap.size+1,0,none⟩=some (.int .i64 k1)∧z5.cell? ⟨w.heap.size+1,1,none⟩=some (.string nb1)∧z5.cell? ⟨w.heap.size+1,2,none⟩=some (.string mb1)∧z5.cell? ⟨w.heap.size+1,3,none⟩=some (.int .u64 b1)∧z5.cell? ⟨w.heap.size+1,4,none⟩=some (.int .i64 v1)∧z5.cell? ⟨w.heap.size+1,5,none⟩=some (.slice A1 q1 c1):=(by refine ⟨?_,?_,?_,?_,?_,?_⟩ <;> (rw [cell_of_row _ _ _ _ _ (0,0) (((HS1.out.trans (hS.mono HS1.out.size)).block _ (by have:=HZ.out;omega)).trans HXb.out)];rfl));go_simp;rfl)
     refine qz 5 K0 ?_ (y:=fun z5 hS=>by obtain ⟨xa0,xa1,xa2,xa3,xa4,xa5⟩:z5.cell? ⟨w.heap.size,0,none⟩=some (.int .i64 k0)∧z5.cell? ⟨w.heap.size,1,none⟩=some (.string nb0)∧z5.cell? ⟨w.heap.size,2,none⟩=some (.string mb0)∧z5.cell? ⟨w.heap.size,3,none⟩=some (.int .u64 b0)∧z5.cell? ⟨w.heap.size,4,none⟩=some (.int .i64 v0)∧z5.cell? ⟨w.heap.size,5,none⟩=some (.slice A0 q0 c0):=(by refine ⟨?_,?_,?_,?_,?_,?_⟩ <;> (rw [cell_of_row _ _ _ _ _ (0,0) (((HS1.out.trans (hS.mono HS1.out.size)).block _ (by have:=HZ.out;omega)).trans HXa.out)];rfl));go_simp;rfl)
     refine wpAnyW_float [11] (fun _=>(.cells #[.int .i64 0,.string ⟨#[]⟩,.string ⟨#[]⟩,.int .u64 0,.int .i64 0,.slice none 0 0] 25)) (by kernel_rfl) (by kernel_rfl) (FloatRun.one rfl (fun a w=>by go_simp)) (fun _ _ h1 h2=>h2.trans (h1.mono h2.size)) (by kernel_rfl) (fun _ _ _ _ _ h=>h) rfl K0 ?_
     refine wpAnyF_one (i:=6) (by kernel_rfl) (by kernel_rfl) (fun _ _ _ _ _ h=>h) ⟨by kernel_rfl,by kernel_rfl⟩ (by kernel_rfl) rfl (by kernel_rfl) (fun z1 d1 K1 K hK=>?_)
     go_simp
     have hwz:=HB.out.trans ((HS1.out.trans (K1.mono HS1.out.size)).mono HB.out.size)
     have HF:=Lib.hid (f2_ok (w:=z1) (P:=fun b=>b<z1.heap.size) (s:=[43]) (nb:=⟨#[43]⟩) (HTt1.out z1 hwz) (HTt0.out z1 hwz) (fun b h=>h) rfl (by decide))
     rw [HV.out.2,HV.out.1] at HF
     (with_reducible refine HF.out.mono ?_)
     rintro e z2 ⟨sl2,rfl,hat2,hb2⟩
     obtain ⟨A2,c2,rfl,_⟩:=TAtP.iff.1 hat2
     have K2:=K1.trans (hb2.mono K1.size)
     have HAt:=Lib.hid (show TAt z2 z2.heap.size (cmpT [43] [Tb,Ta]) (.slice A2 2 c2) from hat2.wide (fun b hb=>hb.elim (fun h=>Nat.lt_of_lt_of_le h hb2.size) (·.2)))
     rw [show valT (cmpT [43] [Tb,Ta]) (.slice A2 (Ht.Tm.as (cmpT [43] [Tb,Ta])).length c2) = .agg #[.int .i64 5,.string ⟨#[43]⟩,.string ⟨#[]⟩,.int .u64 0,.int .i64 0,.slice A2 2 c2] from rfl]
     refine hK.out _ _ hb2 K2 ?_
     clear hat2 HF
     refine wpAnyF_one (i:=7) (by kernel_rfl) (by kernel_rfl) (fun _ _ _ _ _ h=>h) ⟨by kernel_rfl,by kernel_rfl⟩ (by kernel_rfl) rfl (by kernel_rfl) (fun z3 d3 K3 K hK=>?_)
     go_simp
     have HE:=Lib.hid (HT0.out.2.val z3 (.slice A2 2 c2) (HB.out.trans ((HS1.out.trans (K3.mono HS1.out.size)).mono HB.out.size)) (HAt.out.to d3 d3.size))
     rw [show valT (cmpT [43] [Tb,Ta]) (.slice A2 2 c2) = .agg #[.int .i64 5,.string ⟨#[43]⟩,.string ⟨#[]⟩,.int .u64 0,.int .i64 0,.slice A2 2 c2] from rfl] at HE
     (with_reducible refine HE.out.mono ?_)
     rintro e z4 ⟨rfl,hb4⟩
     rw [HYv.out]
     have K4:=K3.trans (hb4.mono K3.size)
     refine hK.out _ _ hb4 K4 ?_
     clear HE
     refine qF 8 ?_
     refine qF 9 ?_
     refine qF 10 ?_
     refine wpAnyF_land1 (by kernel_rfl) rfl (fun z5 HQ d5 K5 hA gA=>?_)
     have gA':((False∨(z0.heap.size≤HQ∧HQ<z1.heap.size))∨(z2.heap.size≤HQ∧HQ<z3.heap.size))∨(z4.heap.size≤HQ∧HQ<z5.heap.size):=gA
     have HGp:=Lib.hid (show (HQ<z3.heap.size∨z4.heap.size≤HQ)∧z3.heap.size≤z4.heap.size∧z4.heap.size≤z5.heap.size∧u1.heap.size≤HQ from by
      have h0:=K0.size
      have h1:=d1.size
      have h2:=hb2.size
      have h3:=d3.size
      have h4:=hb4.size
      have h5:=d5.size
      rcases gA' with ((h | h) | h) | h
      ·exact h.elim
      all_goals omega)
     replace hA:TBox z5 HQ zeroT (.slice none 0 0):=hA
     obtain ⟨r0,r1,r2,r3,r4,r5⟩:=TBox.cells (nb:=⟨#[]⟩) (mb:=⟨#[]⟩) hA rfl rfl
     obtain ⟨s0,s1,s2,s3,s4,s5⟩:=TBox.frozens hA
     have hset:=hA.set6 (k:=ky) (b:=by1) (v:=vy) (n:=ny) (m:=my) (nb:=nyb) (mb:=myb) [] (.slice none 0 0) HYl.out.1 HYl.out.2
     have HSet:=Lib.hid hset
     have HK5:=Lib.hid K5
     clear gA gA' hb2 hb4 K0 K1 K2 K3 K4 K5 d1 d3 d5 hs0 hset hA hwz HAt
     refine uW 12 fun K hK=>?_
     go_simp
     clear r0 r1 r2 r3 r4 r5 s0 s1 s2 s3 s4 s5
     generalize (((((z5.setCell ⟨HQ,0,none⟩ (.int .i64 ky)).setCell ⟨HQ,1,none⟩ (.string nyb)).setCell ⟨HQ,2,none⟩ (.string myb)).setCell ⟨HQ,3,none⟩ (.int .u64 by1)).setCell ⟨HQ,4,none⟩ (.int .i64 vy)).setCell ⟨HQ,5,none⟩ (.slice none 0 0)=u2 at *
     have HUQ:=Lib.hid (show Below u1.heap.size u1 u2 from HK5.out.grown HSet.out.2 HK5.out.size (fun j e=>by injection e with e;have:=HGp.out;omega))
     have HXQ:=Lib.hid HSet.out.1
     refine hK.out _ _ (fun _=>HUQ.out) ?_
     clear HSet HK5 HGp
     refine uW 13 fun K hK=>?_
     go_simp
     refine hK.out _ _ (fun h=>absurd h (by simp)) ?_
     refine wpAnyW_done (by kernel_rfl) ?_ _
     have HS2:=Lib.hid (HS1.out.trans (HUQ.out.mono HS1.out.size))
     have HM2:=Lib.hid (HM1.out.trans (HUQ.out.mono HM1.out.size))
     have HXP2:=Lib.hid (HXP.out.below HUQ.out)
     obtain ⟨r0,r1,r2,r3,r4,r5⟩:=HXP2.out.cells HYl.out.1 HYl.out.2
     obtain ⟨s0,s1,s2,s3,s4,s5⟩:=HXQ.out.cells HYl.out.1 HYl.out.2
     have HSm:=Lib.hid (Same_any (.mk ky ny my by1 vy []) u2 (.slice none 0 0) (.slice none 0 0) (HYt.out u2) (HYt.out u2))
     rw [show valT (.mk ky ny my by1 vy []) (.slice none 0 0) = .agg #[.int .i64 ky,.string nyb,.string myb,.int .u64 by1,.int .i64 vy,.slice none 0 0] from valT_mk HYl.out.1 HYl.out.2] at HSm
     go_wp2_with fail
     (with_reducible refine HSm.out.mono ?_)
     rintro e u3 ⟨rfl,hb3⟩
     have HS3:=Lib.hid (HS2.out.trans (hb3.mono HS2.out.size))
     have HM3:=Lib.hid (HM2.out.trans (hb3.mono HM2.out.size))
     clear hb3 HSm r0 r1 r2 r3 r4 r5 s0 s1 s2 s3 s4 s5
     go_upto_region 13 with fail
     refine wp_region_H (by kernel_rfl) (fun z0 K0 hs0=>?_)
     refine qh 0 K0 ?_
     refine qh 1 K0 ?_
     refine qh 2 K0 ?_
     refine qh 3 K0 ?_
     refine qh 4 K0 ?_
     refine qh 5 K0 ?_
     refine qh 6 K0 ?_
     refine qh 7 K0 ?_
     refine qh 8 K0 ?_
     refine wpAnyH_end (by kernel_rfl) ?_ _
     go_simp
     have HS4:=Lib.hid (HS3.out.trans (K0.mono HS3.out.size))
     have HM4:=Lib.hid (HM3.out.trans (K0.mono HM3.out.size))
     clear K0 hs0
     have HSe:=Lib.hid HM4.out
     go_wp2_with fail
     go_roundw
     case rel=>exact ⟨1,rfl,by omega,Lib.hid (HI.out.trans (HSe.out.mono HI.out.size))⟩
     case measure=>simp [intOf]
    ·go_upto_region 10 with fail
     refine wp_region_U 13 (by kernel_rfl) (fun z0 K0 hs0=>?_)
     refine qz 0 K0 ?_
     refine qz 1 K0 ?_
     refine qz 2 K0 ?_
     refine qz 3 K0 ?_ (y:=fun z5 hS=>by have q0:=HNb.out z5 hS;obtain ⟨q1,q2⟩:=q0;go_simp;rfl)
     refine qz 4 K0 ?_ (y:=fun z5 hS=>by obtain ⟨xa0,xa1,xa2,xa3,xa4,xa5⟩:z5.cell? ⟨w.heap.size,0,none⟩=some (.int .i64 k0)∧z5.cell? ⟨w.heap.size,1,none⟩=some (.string nb0)∧z5.cell? ⟨w.heap.size,2,none⟩=some (.string mb0)∧z5.cell? ⟨w.heap.size,3,none⟩=some (.int .u64 b0)∧z5.cell? ⟨w.heap.size,4,none⟩=some (.int .i64 v0)∧z5.cell? ⟨w.heap.size,5,none⟩=some (.slice A0 q0 c0):=(by refine ⟨?_,?_,?_,?_,?_,?_⟩ <;> (rw [cell_of_row _ _ _ _ _ (0,0) (((HIw.out.trans (hS.mono HIw.out.size)).block _ (by have:=HZ.out;omega)).trans HXa.out)];rfl));go_simp;rfl)
     refine qz 5 K0 ?_ (y:=fun z5 hS=>by obtain ⟨xb0,xb1,xb2,xb3,xb4,xb5⟩:z5.cell? ⟨w.heap.size+1,0,none⟩=some (.int .i64 k1)∧z5.cell? ⟨w.heap.size+1,1,none⟩=some (.string nb1)∧z5.cell? ⟨w.heap.size+1,2,none⟩=some (.string mb1)∧z5.cell? ⟨w.heap.size+1,3,none⟩=some (.int .u64 b1)∧z5.cell? ⟨w.heap.size+1,4,none⟩=some (.int .i64 v1)∧z5.cell? ⟨w.heap.size+1,5,none⟩=some (.slice A1 q1 c1):=(by refine ⟨?_,?_,?_,?_,?_,?_⟩ <;> (rw [cell_of_row _ _ _ _ _ (0,0) (((HIw.out.trans (hS.mono HIw.out.size)).block _ (by have:=HZ.out;omega)).trans HXb.out)];rfl));go_simp;rfl)
     refine wpAnyW_float [11] (fun _=>(.cells #[.int .i64 0,.string ⟨#[]⟩,.string ⟨#[]⟩,.int .u64 0,.int .i64 0,.slice none 0 0] 25)) (by kernel_rfl) (by kernel_rfl) (FloatRun.one rfl (fun a w=>by go_simp)) (fun _ _ h1 h2=>h2.trans (h1.mono h2.size)) (by kernel_rfl) (fun _ _ _ _ _ h=>h) rfl K0 ?_
     refine wpAnyF_one (i:=6) (by kernel_rfl) (by kernel_rfl) (fun _ _ _ _ _ h=>h) ⟨by kernel_rfl,by kernel_rfl⟩ (by kernel_rfl) rfl (by kernel_rfl) (fun z1 d1 K1 K hK=>?_)
     go_simp
     have hwz:=HB.out.trans ((HIw.out.trans (K1.mono HIw.out.size)).mono HB.out.size)
     have HF:=Lib.hid (f2_ok (w:=z1) (P:=fun b=>b<z1.heap.size) (s:=[43]) (nb:=⟨#[43]⟩) (HTt0.out z1 hwz) (HTt1.out z1 hwz) (fun b h=>h) rfl (by decide))
     rw [HV.out.1,HV.out.2] at HF
     (with_reducible refine HF.out.mono ?_)
     rintro e z2 ⟨sl2,rfl,hat2,hb2⟩
     obtain ⟨A2,c2,rfl,_⟩:=TAtP.iff.1 hat2
     have K2:=K1.trans (hb2.mono K1.size)
     have HAt:=Lib.hid (show TAt z2 z2.heap.size (cmpT [43] [Ta,Tb]) (.slice A2 2 c2) from hat2.wide (fun b hb=>hb.elim (fun h=>Nat.lt_of_lt_of_le h hb2.size) (·.2)))
     rw [show valT (cmpT [43] [Ta,Tb]) (.slice A2 (Ht.Tm.as (cmpT [43] [Ta,Tb])).length c2) = .agg #[.int .i64 5,.string ⟨#[43]⟩,.string ⟨#[]⟩,.int .u64 0,.int .i64 0,.slice A2 2 c2] from rfl]
     refine hK.out _ _ hb2 K2 ?_
     clear hat2 HF
     refine wpAnyF_one (i:=7) (by kernel_rfl) (by kernel_rfl) (fun _ _ _ _ _ h=>h) ⟨by kernel_rfl,by kernel_rfl⟩ (by kernel_rfl) rfl (by kernel_rfl) (fun z3 d3 K3 K hK=>?_)
     go_simp
     have HE:=Lib.hid (HT0.out.1.err z3 (.slice A2 2 c2) (HB.out.trans ((HIw.out.trans (K3.mono HIw.out.size)).mono HB.out.size)) (HAt.out.to d3 d3.size))
     rw [show valT (cmpT [43] [Ta,Tb]) (.slice A2 2 c2) = .agg #[.int .i64 5,.string ⟨#[43]⟩,.string ⟨#[]⟩,.int .u64 0,.int .i64 0,.slice A2 2 c2] from rfl] at HE
     (with_reducible refine HE.out.mono ?_)
     rintro e z4 ⟨gP,rfl,hball,hb4⟩
     rw [show valT zeroT (.slice none 0 0) = .agg #[.int .i64 0,.string ⟨#[]⟩,.string ⟨#[]⟩,.int .u64 0,.int .i64 0,.slice none 0 0] from rfl]
     have K4:=K3.trans (hb4.mono K3.size)
     refine hK.out _ _ hb4 K4 ?_
     clear HE
     refine qF 8 ?_
     refine qF 9 ?_
     refine qF 10 ?_
     refine wpAnyF_land1 (by kernel_rfl) rfl (fun z5 HP d5 K5 hA gA=>?_)
     have gA':((False∨(z0.heap.size≤HP∧HP<z1.heap.size))∨(z2.heap.size≤HP∧HP<z3.heap.size))∨(z4.heap.size≤HP∧HP<z5.heap.size):=gA
     have HGp:=Lib.hid (show (HP<z3.heap.size∨z4.heap.size≤HP)∧z3.heap.size≤z4.heap.size∧z4.heap.size≤z5.heap.size∧wr.heap.size≤HP from by
      have h0:=K0.size
      have h1:=d1.size
      have h2:=hb2.size
      have h3:=d3.size
      have h4:=hb4.size
      have h5:=d5.size
      rcases gA' with ((h | h) | h) | h
      ·exact h.elim
      all_goals omega)
     replace hA:TBox z5 HP zeroT (.slice none 0 0):=hA
     obtain ⟨r0,r1,r2,r3,r4,r5⟩:=TBox.cells (nb:=⟨#[]⟩) (mb:=⟨#[]⟩) hA rfl rfl
     obtain ⟨s0,s1,s2,s3,s4,s5⟩:=TBox.frozens hA
     have hset:=hA.set6 (k:=0) (b:=0) (v:=0) (n:=[]) (m:=[]) (nb:=⟨#[]⟩) (mb:=⟨#[]⟩) [] (.slice none 0 0) rfl rfl
     have HSet:=Lib.hid hset
     have HK5:=Lib.hid K5
     have HBl:=Lib.hid (show ∀ u:World,z5.grownBy u (some HP)→BallP u z3.heap.size tt (.iface 95 (.pointer (some ⟨gP,0,none⟩))) from fun u hg=>hball.skip (Nat.le_trans d5.size hg.size) (fun b h1 h2=>(hg.block b (Nat.lt_of_lt_of_le h2 d5.size) (fun e=>by injection e with e;have:=HGp.out;omega)).trans (d5.block b h2)))
     clear hball
     clear gA gA' hb2 hb4 K0 K1 K2 K3 K4 K5 d1 d3 d5 hs0 hset hA hwz HAt
     refine uW 12 fun K hK=>?_
     go_simp
     clear r0 r1 r2 r3 r4 r5 s0 s1 s2 s3 s4 s5
     generalize (((((z5.setCell ⟨HP,0,none⟩ (.int .i64 0)).setCell ⟨HP,1,none⟩ (.string ⟨#[]⟩)).setCell ⟨HP,2,none⟩ (.string ⟨#[]⟩)).setCell ⟨HP,3,none⟩ (.int .u64 0)).setCell ⟨HP,4,none⟩ (.int .i64 0)).setCell ⟨HP,5,none⟩ (.slice none 0 0)=u1 at *
     have HUP:=Lib.hid (show Below wr.heap.size wr u1 from HK5.out.grown HSet.out.2 HK5.out.size (fun j e=>by injection e with e;have:=HGp.out;omega))
     have HXP:=Lib.hid HSet.out.1
     have HBlP:=Lib.hid (HBl.out u1 HSet.out.2)
     clear HBl
     refine hK.out _ _ (fun _=>HUP.out) ?_
     clear HSet HK5 HGp
     refine uW 13 fun K hK=>?_
     go_simp
     refine hK.out _ _ (fun h=>absurd h (by simp)) ?_
     refine wpAnyW_done (by kernel_rfl) ?_ _
     have HS1:=Lib.hid (HIw.out.trans (HUP.out.mono HIw.out.size))
     have HM1:=Lib.hid HUP.out
     go_upto_region 11 with fail
     refine wp_region_U 13 (by kernel_rfl) (fun z0 K0 hs0=>?_)
     refine qz 0 K0 ?_
     refine qz 1 K0 ?_
     refine qz 2 K0 ?_
     refine qz 3 K0 ?_ (y:=fun z5 hS=>by have q0:=HNb.out z5 (HUP.out.trans (hS.mono HUP.out.size));obtain ⟨q1,q2⟩:=q0;go_simp;rfl)
     refine qz 4 K0 ?_ (y:=fun z5 hS=>by obtain ⟨xb0,xb1,xb2,xb3,xb4,xb5⟩:z5.cell? ⟨w.heap.size+1,0,none⟩=some (.int .i64 k1)∧z5.cell? ⟨w.heap.size+1,1,none⟩=some (.string nb1)∧z5.cell? ⟨w.heap.size+1,2,none⟩=some (.string mb1)∧z5.cell? ⟨w.heap.size+1,3,none⟩=some (.int .u64 b1)∧z5.cell? ⟨w.heap.size+1,4,none⟩=some (.int .i64 v1)∧z5.cell? ⟨w.heap.size+1,5,none⟩=some (.slice A1 q1 c1):=(by refine ⟨?_,?_,?_,?_,?_,?_⟩ <;> (rw [cell_of_row _ _ _ _ _ (0,0) (((HS1.out.trans (hS.mono HS1.out.size)).block _ (by have:=HZ.out;omega)).trans HXb.out)];rfl));go_simp;rfl)
     refine qz 5 K0 ?_ (y:=fun z5 hS=>by obtain ⟨xa0,xa1,xa2,xa3,xa4,xa5⟩:z5.cell? ⟨w.heap.size,0,none⟩=some (.int .i64 k0)∧z5.cell? ⟨w.heap.size,1,none⟩=some (.string nb0)∧z5.cell? ⟨w.heap.size,2,none⟩=some (.string mb0)∧z5.cell? ⟨w.heap.size,3,none⟩=some (.int .u64 b0)∧z5.cell? ⟨w.heap.size,4,none⟩=some (.int .i64 v0)∧z5.cell? ⟨w.heap.size,5,none⟩=some (.slice A0 q0 c0):=(by refine ⟨?_,?_,?_,?_,?_,?_⟩ <;> (rw [cell_of_row _ _ _ _ _ (0,0) (((HS1.out.trans (hS.mono HS1.out.size)).block _ (by have:=HZ.out;omega)).trans HXa.out)];rfl));go_simp;rfl)
     refine wpAnyW_float [11] (fun _=>(.cells #[.int .i64 0,.string ⟨#[]⟩,.string ⟨#[]⟩,.int .u64 0,.int .i64 0,.slice none 0 0] 25)) (by kernel_rfl) (by kernel_rfl) (FloatRun.one rfl (fun a w=>by go_simp)) (fun _ _ h1 h2=>h2.trans (h1.mono h2.size)) (by kernel_rfl) (fun _ _ _ _ _ h=>h) rfl K0 ?_
     refine wpAnyF_one (i:=6) (by kernel_rfl) (by kernel_rfl) (fun _ _ _ _ _ h=>h) ⟨by kernel_rfl,by kernel_rfl⟩ (by kernel_rfl) rfl (by kernel_rfl) (fun z1 d1 K1 K hK=>?_)
     go_simp
     have hwz:=HB.out.trans ((HS1.out.trans (K1.mono HS1.out.size)).mono HB.out.size)
     have HF:=Lib.hid (f2_ok (w:=z1) (P:=fun b=>b<z1.heap.size) (s:=[43]) (nb:=⟨#[43]⟩) (HTt1.out z1 hwz) (HTt0.out z1 hwz) (fun b h=>h) rfl (by decide))
     rw [HV.out.2,HV.out.1] at HF
     (with_reducible refine HF.out.mono ?_)
     rintro e z2 ⟨sl2,rfl,hat2,hb2⟩
     obtain ⟨A2,c2,rfl,_⟩:=TAtP.iff.1 hat2
     have K2:=K1.trans (hb2.mono K1.size)
     have HAt:=Lib.hid (show TAt z2 z2.heap.size (cmpT [43] [Tb,Ta]) (.slice A2 2 c2) from hat2.wide (fun b hb=>hb.elim (fun h=>Nat.lt_of_lt_of_le h hb2.size) (·.2)))
     rw [show valT (cmpT [43] [Tb,Ta]) (.slice A2 (Ht.Tm.as (cmpT [43] [Tb,Ta])).length c2) = .agg #[.int .i64 5,.string ⟨#[43]⟩,.string ⟨#[]⟩,.int .u64 0,.int .i64 0,.slice A2 2 c2] from rfl]
     refine hK.out _ _ hb2 K2 ?_
     clear hat2 HF
     refine wpAnyF_one (i:=7) (by kernel_rfl) (by kernel_rfl) (fun _ _ _ _ _ h=>h) ⟨by kernel_rfl,by kernel_rfl⟩ (by kernel_rfl) rfl (by kernel_rfl) (fun z3 d3 K3 K hK=>?_)
     go_simp
     have HE:=Lib.hid (HT0.out.2.err z3 (.slice A2 2 c2) (HB.out.trans ((HS1.out.trans (K3.mono HS1.out.size)).mono HB.out.size)) (HAt.out.to d3 d3.size))
     rw [show valT (cmpT [43] [Tb,Ta]) (.slice A2 2 c2) = .agg #[.int .i64 5,.string ⟨#[43]⟩,.string ⟨#[]⟩,.int .u64 0,.int .i64 0,.slice A2 2 c2] from rfl] at HE
     (with_reducible refine HE.out.mono ?_)
     rintro e z4 ⟨gQ,rfl,hball,hb4⟩
     rw [show valT zeroT (.slice none 0 0) = .agg #[.int .i64 0,.string ⟨#[]⟩,.string ⟨#[]⟩,.int .u64 0,.int .i64 0,.slice none 0 0] from rfl]
     have K4:=K3.trans (hb4.mono K3.size)
     refine hK.out _ _ hb4 K4 ?_
     clear HE
     refine qF 8 ?_
     refine qF 9 ?_
     refine qF 10 ?_
     refine wpAnyF_land1 (by kernel_rfl) rfl (fun z5 HQ d5 K5 hA gA=>?_)
     have gA':((False∨(z0.heap.size≤HQ∧HQ<z1.heap.size))∨(z2.heap.size≤HQ∧HQ<z3.heap.size))∨(z4.heap.size≤HQ∧HQ<z5.heap.size):=gA
     have HGp:=Lib.hid (show (HQ<z3.heap.size∨z4.heap.size≤HQ)∧z3.heap.size≤z4.heap.size∧z4.heap.size≤z5.heap.size∧u1.heap.size≤HQ from by
      have h0:=K0.size
      have h1:=d1.size
      have h2:=hb2.size
      have h3:=d3.size
      have h4:=hb4.size
      have h5:=d5.size
      rcases gA' with ((h | h) | h) | h
      ·exact h.elim
      all_goals omega)
     replace hA:TBox z5 HQ zeroT (.slice none 0 0):=hA
     obtain ⟨r0,r1,r2,r3,r4,r5⟩:=TBox.cells (nb:=⟨#[]⟩) (mb:=⟨#[]⟩) hA rfl rfl
     obtain ⟨s0,s1,s2,s3,s4,s5⟩:=TBox.frozens hA
     have hset:=hA.set6 (k:=0) (b:=0) (v:=0) (n:=[]) (m:=[]) (nb:=⟨#[]⟩) (mb:=⟨#[]⟩) [] (.slice none 0 0) rfl rfl
     have HSet:=Lib.hid hset
     have HK5:=Lib.hid K5
     have HBl:=Lib.hid (show ∀ u:World,z5.grownBy u (some HQ)→BallP u z3.heap.size tt (.iface 95 (.pointer (some ⟨gQ,0,none⟩))) from fun u hg=>hball.skip (Nat.le_trans d5.size hg.size) (fun b h1 h2=>(hg.block b (Nat.lt_of_lt_of_le h2 d5.size) (fun e=>by injection e with e;have:=HGp.out;omega)).trans (d5.block b h2)))
     clear hball
     clear gA gA' hb2 hb4 K0 K1 K2 K3 K4 K5 d1 d3 d5 hs0 hset hA hwz HAt
     refine uW 12 fun K hK=>?_
     go_simp
     clear r0 r1 r2 r3 r4 r5 s0 s1 s2 s3 s4 s5
     generalize (((((z5.setCell ⟨HQ,0,none⟩ (.int .i64 0)).setCell ⟨HQ,1,none⟩ (.string ⟨#[]⟩)).setCell ⟨HQ,2,none⟩ (.string ⟨#[]⟩)).setCell ⟨HQ,3,none⟩ (.int .u64 0)).setCell ⟨HQ,4,none⟩ (.int .i64 0)).setCell ⟨HQ,5,none⟩ (.slice none 0 0)=u2 at *
     have HUQ:=Lib.hid (show Below u1.heap.size u1 u2 from HK5.out.grown HSet.out.2 HK5.out.size (fun j e=>by injection e with e;have:=HGp.out;omega))
     have HXQ:=Lib.hid HSet.out.1
     have HBlQ:=Lib.hid (HBl.out u2 HSet.out.2)
     clear HBl
     refine hK.out _ _ (fun _=>HUQ.out) ?_
     clear HSet HK5 HGp
     refine uW 13 fun K hK=>?_
     go_simp
     refine hK.out _ _ (fun h=>absurd h (by simp)) ?_
     refine wpAnyW_done (by kernel_rfl) ?_ _
     have HS2:=Lib.hid (HS1.out.trans (HUQ.out.mono HS1.out.size))
     have HM2:=Lib.hid (HM1.out.trans (HUQ.out.mono HM1.out.size))
     have HXP2:=Lib.hid (HXP.out.below HUQ.out)
     obtain ⟨r0,r1,r2,r3,r4,r5⟩:=HXP2.out.cells (nb:=⟨#[]⟩) (mb:=⟨#[]⟩) rfl rfl
     obtain ⟨s0,s1,s2,s3,s4,s5⟩:=HXQ.out.cells (nb:=⟨#[]⟩) (mb:=⟨#[]⟩) rfl rfl
     have HSm:=Lib.hid (Same_any zeroT u2 (.slice none 0 0) (.slice none 0 0) (zero_leaf u2 _) (zero_leaf u2 _))
     rw [show valT zeroT (.slice none 0 0) = .agg #[.int .i64 0,.string ⟨#[]⟩,.string ⟨#[]⟩,.int .u64 0,.int .i64 0,.slice none 0 0] from rfl] at HSm
     go_wp2_with fail
     (with_reducible refine HSm.out.mono ?_)
     rintro e u3 ⟨rfl,hb3⟩
     have HS3:=Lib.hid (HS2.out.trans (hb3.mono HS2.out.size))
     have HM3:=Lib.hid (HM2.out.trans (hb3.mono HM2.out.size))
     have HBP:=Lib.hid ((HBlP.out.below HUQ.out).below hb3)
     have HBQ:=Lib.hid (HBlQ.out.below hb3)
     clear hb3 HSm r0 r1 r2 r3 r4 r5 s0 s1 s2 s3 s4 s5
     go_upto_region 13 with fail
     refine wp_region_H (by kernel_rfl) (fun z0 K0 hs0=>?_)
     refine qh 0 K0 ?_
     refine qh 1 K0 ?_
     refine qh 2 K0 ?_
     refine qh 3 K0 ?_
     refine qh 4 K0 ?_
     refine qh 5 K0 ?_
     refine qh 6 K0 ?_
     refine qh 7 K0 ?_
     refine qh 8 K0 ?_
     refine wpAnyH_end (by kernel_rfl) ?_ _
     go_simp
     have HS4:=Lib.hid (HS3.out.trans (K0.mono HS3.out.size))
     have HM4:=Lib.hid (HM3.out.trans (K0.mono HM3.out.size))
     have HBP4:=Lib.hid (HBP.out.below K0)
     have HBQ4:=Lib.hid (HBQ.out.below K0)
     clear K0 hs0
     go_wp2_with fail
     (with_reducible refine (thrown_ok HBP4.out).mono ?_)
     rintro e u5 ⟨sl5,rfl,hat5,hb5⟩
     obtain ⟨kt,nt,mt,bt,vt,tss,ntb,mtb,At,ct,htt,rfl,hnt,hmt,_,_,_,hvt,_,_⟩:=hat5.letters
     rw [hvt]
     obtain ⟨qt,hqt⟩:∃ q,tss.length=q:=⟨_,rfl⟩
     rw [hqt] at hat5 hvt ⊢
     have HX5:=Lib.hid (show TBox (u5.alloc (.cells #[.int .i64 kt,.string ntb,.string mtb,.int .u64 bt,.int .i64 vt,.slice At qt ct] 25)) u5.heap.size (.mk kt nt mt bt vt tss) (.slice At qt ct) from TBox.new u5 hnt hmt)
     have HBa:=Lib.hid (show Below u5.heap.size u5 (u5.alloc (.cells #[.int .i64 kt,.string ntb,.string mtb,.int .u64 bt,.int .i64 vt,.slice At qt ct] 25)) from (Below.refl _ _).alloc (Nat.le_refl _) _)
     have HS5:=Lib.hid (HS4.out.trans ((hb5.trans (HBa.out.mono hb5.size)).mono HS4.out.size))
     have HM5:=Lib.hid (HM4.out.trans ((hb5.trans (HBa.out.mono hb5.size)).mono HM4.out.size))
     have HBQ5:=Lib.hid ((HBQ4.out.below hb5).below HBa.out)
     have HAt5:=Lib.hid (hat5.to HBa.out HBa.out.size)
     have HNt:=Lib.hid (And.intro hnt hmt)
     have HVt:=Lib.hid hvt
     have HTt:=Lib.hid htt
     clear hat5 hb5 hvt hnt hmt hqt htt HBa
     go_upto_region 17 with fail
     generalize u5.alloc (.cells #[.int .i64 kt,.string ntb,.string mtb,.int .u64 bt,.int .i64 vt,.slice At qt ct] 25)=u6 at *
     go_wp2_with fail
     (with_reducible refine (thrown_ok HBQ5.out).mono ?_)
     rintro e u7 ⟨sl7,rfl,hat7,hb7⟩
     rw [HTt.out] at hat7
     obtain ⟨Au,cu,hsl7,_⟩:=TAtP.iff.1 hat7
     obtain ⟨qu,hqu⟩:∃ q,tss.length=q:=⟨_,rfl⟩
     change sl7 = .slice Au tss.length cu at hsl7
     rw [hqu] at hsl7
     subst hsl7
     rw [HTt.out,valT_mk HNt.out.1 HNt.out.2]
     have HX7:=Lib.hid (show TBox (u7.alloc (.cells #[.int .i64 kt,.string ntb,.string mtb,.int .u64 bt,.int .i64 vt,.slice Au qu cu] 25)) u7.heap.size (.mk kt nt mt bt vt tss) (.slice Au qu cu) from TBox.new u7 HNt.out.1 HNt.out.2)
     have HBa:=Lib.hid (show Below u7.heap.size u7 (u7.alloc (.cells #[.int .i64 kt,.string ntb,.string mtb,.int .u64 bt,.int .i64 vt,.slice Au qu cu] 25)) from (Below.refl _ _).alloc (Nat.le_refl _) _)
     have HB67:=Lib.hid (hb7.trans (HBa.out.mono hb7.size))
     have HS7:=Lib.hid (HS5.out.trans (HB67.out.mono HS5.out.size))
     have HM7:=Lib.hid (HM5.out.trans (HB67.out.mono HM5.out.size))
     have HAt7:=Lib.hid (hat7.to HBa.out HBa.out.size)
     have HX57:=Lib.hid (HX5.out.below HB67.out)
     have HAt57:=Lib.hid (HAt5.out.to HB67.out HB67.out.size)
     clear hat7 hb7 HBa hqu
     go_upto_region 18 with fail
     generalize u7.alloc (.cells #[.int .i64 kt,.string ntb,.string mtb,.int .u64 bt,.int .i64 vt,.slice Au qu cu] 25)=u8 at *
     obtain ⟨r0,r1,r2,r3,r4,r5⟩:=HX57.out.cells HNt.out.1 HNt.out.2
     obtain ⟨s0,s1,s2,s3,s4,s5⟩:=HX7.out.cells HNt.out.1 HNt.out.2
     have hat57:=HAt57.out
     rw [HTt.out] at hat57
     have HSm:=Lib.hid (Same_any (.mk kt nt mt bt vt tss) u8 (.slice At qt ct) (.slice Au qu cu) hat57 HAt7.out)
     rw [valT_mk HNt.out.1 HNt.out.2,valT_mk HNt.out.1 HNt.out.2] at HSm
     go_wp2_with fail
     (with_reducible refine HSm.out.mono ?_)
     rintro e u9 ⟨rfl,hb9⟩
     have HS9:=Lib.hid (HS7.out.trans (hb9.mono HS7.out.size))
     have HM9:=Lib.hid (HM7.out.trans (hb9.mono HM7.out.size))
     clear hb9 HSm r0 r1 r2 r3 r4 r5 s0 s1 s2 s3 s4 s5 hat57
     have HSe:=Lib.hid HM9.out
     go_wp2_with fail
     go_roundw
     case rel=>exact ⟨1,rfl,by omega,Lib.hid (HI.out.trans (HSe.out.mono HI.out.size))⟩
     case measure=>simp [intOf]
   ·rcases rs_cases R1 with ⟨x,rfl⟩ | ⟨tt,rfl⟩
    ·have hns:=HR1.out x rfl
     have HNx:=Lib.hid (hns)
     generalize hY:numT x=Y at *
     obtain ⟨ky,ny,my,by1,vy,ay⟩:=Y
     obtain ⟨nyb,hny⟩:∃ x:ByteArray,(⟨ny.toArray⟩:ByteArray)=x:=⟨_,rfl⟩
     obtain ⟨myb,hmy⟩:∃ x:ByteArray,(⟨my.toArray⟩:ByteArray)=x:=⟨_,rfl⟩
     have HYl:=Lib.hid (And.intro hny hmy)
     obtain rfl:ay = []:=by cases x <;> (injection hY with _ _ _ _ _ h9;exact h9.symm)
     have HYv:=Lib.hid (show valT (numT x) (.slice none 0 0) = .agg #[.int .i64 ky,.string nyb,.string myb,.int .u64 by1,.int .i64 vy,.slice none 0 0] from by rw [hY];exact valT_mk hny hmy)
     have HYt:=Lib.hid (show ∀ u:World,TAt u u.heap.size (.mk ky ny my by1 vy []) (.slice none 0 0) from fun u=>by rw [←hY];exact num_leaf u _ HNx.out)
     clear hny hmy hY hns
     go_upto_region 10 with fail
     refine wp_region_U 13 (by kernel_rfl) (fun z0 K0 hs0=>?_)
     refine qz 0 K0 ?_
     refine qz 1 K0 ?_
     refine qz 2 K0 ?_
     refine qz 3 K0 ?_ (y:=fun z5 hS=>by have q0:=HNb.out z5 hS;obtain ⟨q1,q2⟩:=q0;go_simp;rfl)
     refine qz 4 K0 ?_ (y:=fun z5 hS=>by obtain ⟨xa0,xa1,xa2,xa3,xa4,xa5⟩:z5.cell? ⟨w.heap.size,0,none⟩=some (.int .i64 k0)∧z5.cell? ⟨w.heap.size,1,none⟩=some (.string nb0)∧z5.cell? ⟨w.heap.size,2,none⟩=some (.string mb0)∧z5.cell? ⟨w.heap.size,3,none⟩=some (.int .u64 b0)∧z5.cell? ⟨w.heap.size,4,none⟩=some (.int .i64 v0)∧z5.cell? ⟨w.heap.size,5,none⟩=some (.slice A0 q0 c0):=(by refine ⟨?_,?_,?_,?_,?_,?_⟩ <;> (rw [cell_of_row _ _ _ _ _ (0,0) (((HIw.out.trans (hS.mono HIw.out.size)).block _ (by have:=HZ.out;omega)).trans HXa.out)];rfl));go_simp;rfl)
     refine qz 5 K0 ?_ (y:=fun z5 hS=>by obtain ⟨xb0,xb1,xb2,xb3,xb4,xb5⟩:z5.cell? ⟨w.heap.size+1,0,none⟩=some (.int .i64 k1)∧z5.cell? ⟨w.heap.size+1,1,none⟩=some (.string nb1)∧z5.cell? ⟨w.heap.size+1,2,none⟩=some (.string mb1)∧z5.cell? ⟨w.heap.size+1,3,none⟩=some (.int .u64 b1)∧z5.cell? ⟨w.heap.size+1,4,none⟩=some (.int .i64 v1)∧z5.cell? ⟨w.heap.size+1,5,none⟩=some (.slice A1 q1 c1):=(by refine ⟨?_,?_,?_,?_,?_,?_⟩ <;> (rw [cell_of_row _ _ _ _ _ (0,0) (((HIw.out.trans (hS.mono HIw.out.size)).block _ (by have:=HZ.out;omega)).trans HXb.out)];rfl));go_simp;rfl)
     refine wpAnyW_float [11] (fun _=>(.cells #[.int .i64 0,.string ⟨#[]⟩,.string ⟨#[]⟩,.int .u64 0,.int .i64 0,.slice none 0 0] 25)) (by kernel_rfl) (by kernel_rfl) (FloatRun.one rfl (fun a w=>by go_simp)) (fun _ _ h1 h2=>h2.trans (h1.mono h2.size)) (by kernel_rfl) (fun _ _ _ _ _ h=>h) rfl K0 ?_
     refine wpAnyF_one (i:=6) (by kernel_rfl) (by kernel_rfl) (fun _ _ _ _ _ h=>h) ⟨by kernel_rfl,by kernel_rfl⟩ (by kernel_rfl) rfl (by kernel_rfl) (fun z1 d1 K1 K hK=>?_)
     go_simp
     have hwz:=HB.out.trans ((HIw.out.trans (K1.mono HIw.out.size)).mono HB.out.size)
     have HF:=Lib.hid (f2_ok (w:=z1) (P:=fun b=>b<z1.heap.size) (s:=[42]) (nb:=⟨#[42]⟩) (HTt0.out z1 hwz) (HTt1.out z1 hwz) (fun b h=>h) rfl (by decide))
     rw [HV.out.1,HV.out.2] at HF
     (with_reducible refine HF.out.mono ?_)
     rintro e z2 ⟨sl2,rfl,hat2,hb2⟩
     obtain ⟨A2,c2,rfl,_⟩:=TAtP.iff.1 hat2
     have K2:=K1.trans (hb2.mono K1.size)
     have HAt:=Lib.hid (show TAt z2 z2.heap.size (cmpT [42] [Ta,Tb]) (.slice A2 2 c2) from hat2.wide (fun b hb=>hb.elim (fun h=>Nat.lt_of_lt_of_le h hb2.size) (·.2)))
     rw [show valT (cmpT [42] [Ta,Tb]) (.slice A2 (Ht.Tm.as (cmpT [42] [Ta,Tb])).length c2) = .agg #[.int .i64 5,.string ⟨#[42]⟩,.string ⟨#[]⟩,.int .u64 0,.int .i64 0,.slice A2 2 c2] from rfl]
     refine hK.out _ _ hb2 K2 ?_
     clear hat2 HF
     refine wpAnyF_one (i:=7) (by kernel_rfl) (by kernel_rfl) (fun _ _ _ _ _ h=>h) ⟨by kernel_rfl,by kernel_rfl⟩ (by kernel_rfl) rfl (by kernel_rfl) (fun z3 d3 K3 K hK=>?_)
     go_simp
     have HE:=Lib.hid (HT1.out.1.val z3 (.slice A2 2 c2) (HB.out.trans ((HIw.out.trans (K3.mono HIw.out.size)).mono HB.out.size)) (HAt.out.to d3 d3.size))
     rw [show valT (cmpT [42] [Ta,Tb]) (.slice A2 2 c2) = .agg #[.int .i64 5,.string ⟨#[42]⟩,.string ⟨#[]⟩,.int .u64 0,.int .i64 0,.slice A2 2 c2] from rfl] at HE
     (with_reducible refine HE.out.mono ?_)
     rintro e z4 ⟨rfl,hb4⟩
     rw [HYv.out]
     have K4:=K3.trans (hb4.mono K3.size)
     refine hK.out _ _ hb4 K4 ?_
     clear HE
     refine qF 8 ?_
     refine qF 9 ?_
     refine qF 10 ?_
     refine wpAnyF_land1 (by kernel_rfl) rfl (fun z5 HP d5 K5 hA gA=>?_)
     have gA':((False∨(z0.heap.size≤HP∧HP<z1.heap.size))∨(z2.heap.size≤HP∧HP<z3.heap.size))∨(z4.heap.size≤HP∧HP<z5.heap.size):=gA
     have HGp:=Lib.hid (show (HP<z3.heap.size∨z4.heap.size≤HP)∧z3.heap.size≤z4.heap.size∧z4.heap.size≤z5.heap.size∧wr.heap.size≤HP from by
      have h0:=K0.size
      have h1:=d1.size
      have h2:=hb2.size
      have h3:=d3.size
      have h4:=hb4.size
      have h5:=d5.size
      rcases gA' with ((h | h) | h) | h
      ·exact h.elim
      all_goals omega)
     replace hA:TBox z5 HP zeroT (.slice none 0 0):=hA
     obtain ⟨r0,r1,r2,r3,r4,r5⟩:=TBox.cells (nb:=⟨#[]⟩) (mb:=⟨#[]⟩) hA rfl rfl
     obtain ⟨s0,s1,s2,s3,s4,s5⟩:=TBox.frozens hA
     have hset:=hA.set6 (k:=ky) (b:=by1) (v:=vy) (n:=ny) (m:=my) (nb:=nyb) (mb:=myb) [] (.slice none 0 0) HYl.out.1 HYl.out.2
     have HSet:=Lib.hid hset
     have HK5:=Lib.hid K5
     clear gA gA' hb2 hb4 K0 K1 K2 K3 K4 K5 d1 d3 d5 hs0 hset hA hwz HAt
     refine uW 12 fun K hK=>?_
     go_simp
     clear r0 r1 r2 r3 r4 r5 s0 s1 s2 s3 s4 s5
     generalize (((((z5.setCell ⟨HP,0,none⟩ (.int .i64 ky)).setCell ⟨HP,1,none⟩ (.string nyb)).setCell ⟨HP,2,none⟩ (.string myb)).setCell ⟨HP,3,none⟩ (.int .u64 by1)).setCell ⟨HP,4,none⟩ (.int .i64 vy)).setCell ⟨HP,5,none⟩ (.slice none 0 0)=u1 at *
     have HUP:=Lib.hid (show Below wr.heap.size wr u1 from HK5.out.grown HSet.out.2 HK5.out.size (fun j e=>by injection e with e;have:=HGp.out;omega))
     have HXP:=Lib.hid HSet.out.1
     refine hK.out _ _ (fun _=>HUP.out) ?_
     clear HSet HK5 HGp
     refine uW 13 fun K hK=>?_
     go_simp
     refine hK.out _ _ (fun h=>absurd h (by simp)) ?_
     refine wpAnyW_done (by kernel_rfl) ?_ _
     have HS1:=Lib.hid (HIw.out.trans (HUP.out.mono HIw.out.size))
     have HM1:=Lib.hid HUP.out
     go_upto_region 11 with fail
     refine wp_region_U 13 (by kernel_rfl) (fun z0 K0 hs0=>?_)
     refine qz 0 K0 ?_
     refine qz 1 K0 ?_
     refine qz 2 K0 ?_
     refine qz 3 K0 ?_ (y:=fun z5 hS=>by have q0:=HNb.out z5 (HUP.out.trans (hS.mono HUP.out.size));obtain ⟨q1,q2⟩:=q0;go_simp;rfl)
     refine qz 4 K0 ?_ (y:=fun z5 hS=>by obtain ⟨xb0,xb1,xb2,xb3,xb4,xb5⟩:z5.cell? ⟨w.heap.size+1,0,none⟩=some (.int .i64 k1)∧z5.cell? ⟨w.heap.size+1,1,none⟩=some (.string nb1)∧z5.cell? ⟨w.heap.size+1,2,none⟩=some (.string mb1)∧z5.cell? ⟨w.heap.size+1,3,none⟩=some (.int .u64 b1)∧z5.cell? ⟨w.heap.size+1,4,none⟩=some (.int .i64 v1)∧z5.cell? ⟨w.heap.size+1,5,none⟩=some (.slice A1 q1 c1):=(by refine ⟨?_,?_,?_,?_,?_,?_⟩ <;> (rw [cell_of_row _ _ _ _ _ (0,0) (((HS1.out.trans (hS.mono HS1.out.size)).block _ (by have:=HZ.out;omega)).trans HXb.out)];rfl));go_simp;rfl)
     refine qz 5 K0 ?_ (y:=fun z5 hS=>by obtain ⟨xa0,xa1,xa2,xa3,xa4,xa5⟩:z5.cell? ⟨w.heap.size,0,none⟩=some (.int .i64 k0)∧z5.cell? ⟨w.heap.size,1,none⟩=some (.string nb0)∧z5.cell? ⟨w.heap.size,2,none⟩=some (.string mb0)∧z5.cell? ⟨w.heap.size,3,none⟩=some (.int .u64 b0)∧z5.cell? ⟨w.heap.size,4,none⟩=some (.int .i64 v0)∧z5.cell? ⟨w.heap.size,5,none⟩=some (.slice A0 q0 c0):=(by refine ⟨?_,?_,?_,?_,?_,?_⟩ <;> (rw [cell_of_row _ _ _ _ _ (0,0) (((HS1.out.trans (hS.mono HS1.out.size)).block _ (by have:=HZ.out;omega)).trans HXa.out)];rfl));go_simp;rfl)
     refine wpAnyW_float [11] (fun _=>(.cells #[.int .i64 0,.string ⟨#[]⟩,.string ⟨#[]⟩,.int .u64 0,.int .i64 0,.slice none 0 0] 25)) (by kernel_rfl) (by kernel_rfl) (FloatRun.one rfl (fun a w=>by go_simp)) (fun _ _ h1 h2=>h2.trans (h1.mono h2.size)) (by kernel_rfl) (fun _ _ _ _ _ h=>h) rfl K0 ?_
     refine wpAnyF_one (i:=6) (by kernel_rfl) (by kernel_rfl) (fun _ _ _ _ _ h=>h) ⟨by kernel_rfl,by kernel_rfl⟩ (by kernel_rfl) rfl (by kernel_rfl) (fun z1 d1 K1 K hK=>?_)
     go_simp
     have hwz:=HB.out.trans ((HS1.out.trans (K1.mono HS1.out.size)).mono HB.out.size)
     have HF:=Lib.hid (f2_ok (w:=z1) (P:=fun b=>b<z1.heap.size) (s:=[42]) (nb:=⟨#[42]⟩) (HTt1.out z1 hwz) (HTt0.out z1 hwz) (fun b h=>h) rfl (by decide))
     rw [HV.out.2,HV.out.1] at HF
     (with_reducible refine HF.out.mono ?_)
     rintro e z2 ⟨sl2,rfl,hat2,hb2⟩
     obtain ⟨A2,c2,rfl,_⟩:=TAtP.iff.1 hat2
     have K2:=K1.trans (hb2.mono K1.size)
     have HAt:=Lib.hid (show TAt z2 z2.heap.size (cmpT [42] [Tb,Ta]) (.slice A2 2 c2) from hat2.wide (fun b hb=>hb.elim (fun h=>Nat.lt_of_lt_of_le h hb2.size) (·.2)))
     rw [show valT (cmpT [42] [Tb,Ta]) (.slice A2 (Ht.Tm.as (cmpT [42] [Tb,Ta])).length c2) = .agg #[.int .i64 5,.string ⟨#[42]⟩,.string ⟨#[]⟩,.int .u64 0,.int .i64 0,.slice A2 2 c2] from rfl]
     refine hK.out _ _ hb2 K2 ?_
     clear hat2 HF
     refine wpAnyF_one (i:=7) (by kernel_rfl) (by kernel_rfl) (fun _ _ _ _ _ h=>h) ⟨by kernel_rfl,by kernel_rfl⟩ (by kernel_rfl) rfl (by kernel_rfl) (fun z3 d3 K3 K hK=>?_)
     go_simp
     have HE:=Lib.hid (HT1.out.2.val z3 (.slice A2 2 c2) (HB.out.trans ((HS1.out.trans (K3.mono HS1.out.size)).mono HB.out.size)) (HAt.out.to d3 d3.size))
     rw [show valT (cmpT [42] [Tb,Ta]) (.slice A2 2 c2) = .agg #[.int .i64 5,.string ⟨#[42]⟩,.string ⟨#[]⟩,.int .u64 0,.int .i64 0,.slice A2 2 c2] from rfl] at HE
     (with_reducible refine HE.out.mono ?_)
     rintro e z4 ⟨rfl,hb4⟩
     rw [HYv.out]
     have K4:=K3.trans (hb4.mono K3.size)
     refine hK.out _ _ hb4 K4 ?_
     clear HE
     refine qF 8 ?_
     refine qF 9 ?_
     refine qF 10 ?_
     refine wpAnyF_land1 (by kernel_rfl) rfl (fun z5 HQ d5 K5 hA gA=>?_)
     have gA':((False∨(z0.heap.size≤HQ∧HQ<z1.heap.size))∨(z2.heap.size≤HQ∧HQ<z3.heap.size))∨(z4.heap.size≤HQ∧HQ<z5.heap.size):=gA
     have HGp:=Lib.hid (show (HQ<z3.heap.size∨z4.heap.size≤HQ)∧z3.heap.size≤z4.heap.size∧z4.heap.size≤z5.heap.size∧u1.heap.size≤HQ from by
      have h0:=K0.size
      have h1:=d1.size
      have h2:=hb2.size
      have h3:=d3.size
      have h4:=hb4.size
      have h5:=d5.size
      rcases gA' with ((h | h) | h) | h
      ·exact h.elim
      all_goals omega)
     replace hA:TBox z5 HQ zeroT (.slice none 0 0):=hA
     obtain ⟨r0,r1,r2,r3,r4,r5⟩:=TBox.cells (nb:=⟨#[]⟩) (mb:=⟨#[]⟩) hA rfl rfl
     obtain ⟨s0,s1,s2,s3,s4,s5⟩:=TBox.frozens hA
     have hset:=hA.set6 (k:=ky) (b:=by1) (v:=vy) (n:=ny) (m:=my) (nb:=nyb) (mb:=myb) [] (.slice none 0 0) HYl.out.1 HYl.out.2
     have HSet:=Lib.hid hset
     have HK5:=Lib.hid K5
     clear gA gA' hb2 hb4 K0 K1 K2 K3 K4 K5 d1 d3 d5 hs0 hset hA hwz HAt
     refine uW 12 fun K hK=>?_
     go_simp
     clear r0 r1 r2 r3 r4 r5 s0 s1 s2 s3 s4 s5
     generalize (((((z5.setCell ⟨HQ,0,none⟩ (.int .i64 ky)).setCell ⟨HQ,1,none⟩ (.string nyb)).setCell ⟨HQ,2,none⟩ (.string myb)).setCell ⟨HQ,3,none⟩ (.int .u64 by1)).setCell ⟨HQ,4,none⟩ (.int .i64 vy)).setCell ⟨HQ,5,none⟩ (.slice none 0 0)=u2 at *
     have HUQ:=Lib.hid (show Below u1.heap.size u1 u2 from HK5.out.grown HSet.out.2 HK5.out.size (fun j e=>by injection e with e;have:=HGp.out;omega))
     have HXQ:=Lib.hid HSet.out.1
     refine hK.out _ _ (fun _=>HUQ.out) ?_
     clear HSet HK5 HGp
     refine uW 13 fun K hK=>?_
     go_simp
     refine hK.out _ _ (fun h=>absurd h (by simp)) ?_
     refine wpAnyW_done (by kernel_rfl) ?_ _
     have HS2:=Lib.hid (HS1.out.trans (HUQ.out.mono HS1.out.size))
     have HM2:=Lib.hid (HM1.out.trans (HUQ.out.mono HM1.out.size))
     have HXP2:=Lib.hid (HXP.out.below HUQ.out)
     obtain ⟨r0,r1,r2,r3,r4,r5⟩:=HXP2.out.cells HYl.out.1 HYl.out.2
     obtain ⟨s0,s1,s2,s3,s4,s5⟩:=HXQ.out.cells HYl.out.1 HYl.out.2
     have HSm:=Lib.hid (Same_any (.mk ky ny my by1 vy []) u2 (.slice none 0 0) (.slice none 0 0) (HYt.out u2) (HYt.out u2))
     rw [show valT (.mk ky ny my by1 vy []) (.slice none 0 0) = .agg #[.int .i64 ky,.string nyb,.string myb,.int .u64 by1,.int .i64 vy,.slice none 0 0] from valT_mk HYl.out.1 HYl.out.2] at HSm
     go_wp2_with fail
     (with_reducible refine HSm.out.mono ?_)
     rintro e u3 ⟨rfl,hb3⟩
     have HS3:=Lib.hid (HS2.out.trans (hb3.mono HS2.out.size))
     have HM3:=Lib.hid (HM2.out.trans (hb3.mono HM2.out.size))
     clear hb3 HSm r0 r1 r2 r3 r4 r5 s0 s1 s2 s3 s4 s5
     go_upto_region 13 with fail
     refine wp_region_H (by kernel_rfl) (fun z0 K0 hs0=>?_)
     refine qh 0 K0 ?_
     refine qh 1 K0 ?_
     refine qh 2 K0 ?_
     refine qh 3 K0 ?_
     refine qh 4 K0 ?_
     refine qh 5 K0 ?_
     refine qh 6 K0 ?_
     refine qh 7 K0 ?_
     refine qh 8 K0 ?_
     refine wpAnyH_end (by kernel_rfl) ?_ _
     go_simp
     have HS4:=Lib.hid (HS3.out.trans (K0.mono HS3.out.size))
     have HM4:=Lib.hid (HM3.out.trans (K0.mono HM3.out.size))
     clear K0 hs0
     have HSe:=Lib.hid HM4.out
     go_wp2_with fail
     go_roundw
     case rel=>exact ⟨2,rfl,by omega,Lib.hid (HI.out.trans (HSe.out.mono HI.out.size))⟩
     case measure=>simp [intOf]
    ·go_upto_region 10 with fail
     refine wp_region_U 13 (by kernel_rfl) (fun z0 K0 hs0=>?_)
     refine qz 0 K0 ?_
     refine qz 1 K0 ?_
     refine qz 2 K0 ?_
     refine qz 3 K0 ?_ (y:=fun z5 hS=>by have q0:=HNb.out z5 hS;obtain ⟨q1,q2⟩:=q0;go_simp;rfl)
     refine qz 4 K0 ?_ (y:=fun z5 hS=>by obtain ⟨xa0,xa1,xa2,xa3,xa4,xa5⟩:z5.cell? ⟨w.heap.size,0,none⟩=some (.int .i64 k0)∧z5.cell? ⟨w.heap.size,1,none⟩=some (.string nb0)∧z5.cell? ⟨w.heap.size,2,none⟩=some (.string mb0)∧z5.cell? ⟨w.heap.size,3,none⟩=some (.int .u64 b0)∧z5.cell? ⟨w.heap.size,4,none⟩=some (.int .i64 v0)∧z5.cell? ⟨w.heap.size,5,none⟩=some (.slice A0 q0 c0):=(by refine ⟨?_,?_,?_,?_,?_,?_⟩ <;> (rw [cell_of_row _ _ _ _ _ (0,0) (((HIw.out.trans (hS.mono HIw.out.size)).block _ (by have:=HZ.out;omega)).trans HXa.out)];rfl));go_simp;rfl)
     refine qz 5 K0 ?_ (y:=fun z5 hS=>by obtain ⟨xb0,xb1,xb2,xb3,xb4,xb5⟩:z5.cell? ⟨w.heap.size+1,0,none⟩=some (.int .i64 k1)∧z5.cell? ⟨w.heap.size+1,1,none⟩=some (.string nb1)∧z5.cell? ⟨w.heap.size+1,2,none⟩=some (.string mb1)∧z5.cell? ⟨w.heap.size+1,3,none⟩=some (.int .u64 b1)∧z5.cell? ⟨w.heap.size+1,4,none⟩=some (.int .i64 v1)∧z5.cell? ⟨w.heap.size+1,5,none⟩=some (.slice A1 q1 c1):=(by refine ⟨?_,?_,?_,?_,?_,?_⟩ <;> (rw [cell_of_row _ _ _ _ _ (0,0) (((HIw.out.trans (hS.mono HIw.out.size)).block _ (by have:=HZ.out;omega)).trans HXb.out)];rfl));go_simp;rfl)
     refine wpAnyW_float [11] (fun _=>(.cells #[.int .i64 0,.string ⟨#[]⟩,.string ⟨#[]⟩,.int .u64 0,.int .i64 0,.slice none 0 0] 25)) (by kernel_rfl) (by kernel_rfl) (FloatRun.one rfl (fun a w=>by go_simp)) (fun _ _ h1 h2=>h2.trans (h1.mono h2.size)) (by kernel_rfl) (fun _ _ _ _ _ h=>h) rfl K0 ?_
     refine wpAnyF_one (i:=6) (by kernel_rfl) (by kernel_rfl) (fun _ _ _ _ _ h=>h) ⟨by kernel_rfl,by kernel_rfl⟩ (by kernel_rfl) rfl (by kernel_rfl) (fun z1 d1 K1 K hK=>?_)
     go_simp
     have hwz:=HB.out.trans ((HIw.out.trans (K1.mono HIw.out.size)).mono HB.out.size)
     have HF:=Lib.hid (f2_ok (w:=z1) (P:=fun b=>b<z1.heap.size) (s:=[42]) (nb:=⟨#[42]⟩) (HTt0.out z1 hwz) (HTt1.out z1 hwz) (fun b h=>h) rfl (by decide))
     rw [HV.out.1,HV.out.2] at HF
     (with_reducible refine HF.out.mono ?_)
     rintro e z2 ⟨sl2,rfl,hat2,hb2⟩
     obtain ⟨A2,c2,rfl,_⟩:=TAtP.iff.1 hat2
     have K2:=K1.trans (hb2.mono K1.size)
     have HAt:=Lib.hid (show TAt z2 z2.heap.size (cmpT [42] [Ta,Tb]) (.slice A2 2 c2) from hat2.wide (fun b hb=>hb.elim (fun h=>Nat.lt_of_lt_of_le h hb2.size) (·.2)))
     rw [show valT (cmpT [42] [Ta,Tb]) (.slice A2 (Ht.Tm.as (cmpT [42] [Ta,Tb])).length c2) = .agg #[.int .i64 5,.string ⟨#[42]⟩,.string ⟨#[]⟩,.int .u64 0,.int .i64 0,.slice A2 2 c2] from rfl]
     refine hK.out _ _ hb2 K2 ?_
     clear hat2 HF
     refine wpAnyF_one (i:=7) (by kernel_rfl) (by kernel_rfl) (fun _ _ _ _ _ h=>h) ⟨by kernel_rfl,by kernel_rfl⟩ (by kernel_rfl) rfl (by kernel_rfl) (fun z3 d3 K3 K hK=>?_)
     go_simp
     have HE:=Lib.hid (HT1.out.1.err z3 (.slice A2 2 c2) (HB.out.trans ((HIw.out.trans (K3.mono HIw.out.size)).mono HB.out.size)) (HAt.out.to d3 d3.size))
     rw [show valT (cmpT [42] [Ta,Tb]) (.slice A2 2 c2) = .agg #[.int .i64 5,.string ⟨#[42]⟩,.string ⟨#[]⟩,.int .u64 0,.int .i64 0,.slice A2 2 c2] from rfl] at HE
     (with_reducible refine HE.out.mono ?_)
     rintro e z4 ⟨gP,rfl,hball,hb4⟩
     rw [show valT zeroT (.slice none 0 0) = .agg #[.int .i64 0,.string ⟨#[]⟩,.string ⟨#[]⟩,.int .u64 0,.int .i64 0,.slice none 0 0] from rfl]
     have K4:=K3.trans (hb4.mono K3.size)
     refine hK.out _ _ hb4 K4 ?_
     clear HE
     refine qF 8 ?_
     refine qF 9 ?_
     refine qF 10 ?_
     refine wpAnyF_land1 (by kernel_rfl) rfl (fun z5 HP d5 K5 hA gA=>?_)
     have gA':((False∨(z0.heap.size≤HP∧HP<z1.heap.size))∨(z2.heap.size≤HP∧HP<z3.heap.size))∨(z4.heap.size≤HP∧HP<z5.heap.size):=gA
     have HGp:=Lib.hid (show (HP<z3.heap.size∨z4.heap.size≤HP)∧z3.heap.size≤z4.heap.size∧z4.heap.size≤z5.heap.size∧wr.heap.size≤HP from by
      have h0:=K0.size
      have h1:=d1.size
      have h2:=hb2.size
      have h3:=d3.size
      have h4:=hb4.size
      have h5:=d5.size
      rcases gA' with ((h | h) | h) | h
      ·exact h.elim
      all_goals omega)
     replace hA:TBox z5 HP zeroT (.slice none 0 0):=hA
     obtain ⟨r0,r1,r2,r3,r4,r5⟩:=TBox.cells (nb:=⟨#[]⟩) (mb:=⟨#[]⟩) hA rfl rfl
     obtain ⟨s0,s1,s2,s3,s4,s5⟩:=TBox.frozens hA
     have hset:=hA.set6 (k:=0) (b:=0) (v:=0) (n:=[]) (m:=[]) (nb:=⟨#[]⟩) (mb:=⟨#[]⟩) [] (.slice none 0 0) rfl rfl
     have HSet:=Lib.hid hset
     have HK5:=Lib.hid K5
     have HBl:=Lib.hid (show ∀ u:World,z5.grownBy u (some HP)→BallP u z3.heap.size tt (.iface 95 (.pointer (some ⟨gP,0,none⟩))) from fun u hg=>hball.skip (Nat.le_trans d5.size hg.size) (fun b h1 h2=>(hg.block b (Nat.lt_of_lt_of_le h2 d5.size) (fun e=>by injection e with e;have:=HGp.out;omega)).trans (d5.block b h2)))
     clear hball
     clear gA gA' hb2 hb4 K0 K1 K2 K3 K4 K5 d1 d3 d5 hs0 hset hA hwz HAt
     refine uW 12 fun K hK=>?_
     go_simp
     clear r0 r1 r2 r3 r4 r5 s0 s1 s2 s3 s4 s5
     generalize (((((z5.setCell ⟨HP,0,none⟩ (.int .i64 0)).setCell ⟨HP,1,none⟩ (.string ⟨#[]⟩)).setCell ⟨HP,2,none⟩ (.string ⟨#[]⟩)).setCell ⟨HP,3,none⟩ (.int .u64 0)).setCell ⟨HP,4,none⟩ (.int .i64 0)).setCell ⟨HP,5,none⟩ (.slice none 0 0)=u1 at *
     have HUP:=Lib.hid (show Below wr.heap.size wr u1 from HK5.out.grown HSet.out.2 HK5.out.size (fun j e=>by injection e with e;have:=HGp.out;omega))
     have HXP:=Lib.hid HSet.out.1
     have HBlP:=Lib.hid (HBl.out u1 HSet.out.2)
     clear HBl
     refine hK.out _ _ (fun _=>HUP.out) ?_
     clear HSet HK5 HGp
     refine uW 13 fun K hK=>?_
     go_simp
     refine hK.out _ _ (fun h=>absurd h (by simp)) ?_
     refine wpAnyW_done (by kernel_rfl) ?_ _
     have HS1:=Lib.hid (HIw.out.trans (HUP.out.mono HIw.out.size))
     have HM1:=Lib.hid HUP.out
     go_upto_region 11 with fail
     refine wp_region_U 13 (by kernel_rfl) (fun z0 K0 hs0=>?_)
     refine qz 0 K0 ?_
     refine qz 1 K0 ?_
     refine qz 2 K0 ?_
     refine qz 3 K0 ?_ (y:=fun z5 hS=>by have q0:=HNb.out z5 (HUP.out.trans (hS.mono HUP.out.size));obtain ⟨q1,q2⟩:=q0;go_simp;rfl)
     refine qz 4 K0 ?_ (y:=fun z5 hS=>by obtain ⟨xb0,xb1,xb2,xb3,xb4,xb5⟩:z5.cell? ⟨w.heap.size+1,0,none⟩=some (.int .i64 k1)∧z5.cell? ⟨w.heap.size+1,1,none⟩=some (.string nb1)∧z5.cell? ⟨w.heap.size+1,2,none⟩=some (.string mb1)∧z5.cell? ⟨w.heap.size+1,3,none⟩=some (.int .u64 b1)∧z5.cell? ⟨w.heap.size+1,4,none⟩=some (.int .i64 v1)∧z5.cell? ⟨w.heap.size+1,5,none⟩=some (.slice A1 q1 c1):=(by refine ⟨?_,?_,?_,?_,?_,?_⟩ <;> (rw [cell_of_row _ _ _ _ _ (0,0) (((HS1.out.trans (hS.mono HS1.out.size)).block _ (by have:=HZ.out;omega)).trans HXb.out)];rfl));go_simp;rfl)
     refine qz 5 K0 ?_ (y:=fun z5 hS=>by obtain ⟨xa0,xa1,xa2,xa3,xa4,xa5⟩:z5.cell? ⟨w.heap.size,0,none⟩=some (.int .i64 k0)∧z5.cell? ⟨w.heap.size,1,none⟩=some (.string nb0)∧z5.cell? ⟨w.heap.size,2,none⟩=some (.string mb0)∧z5.cell? ⟨w.heap.size,3,none⟩=some (.int .u64 b0)∧z5.cell? ⟨w.heap.size,4,none⟩=some (.int .i64 v0)∧z5.cell? ⟨w.heap.size,5,none⟩=some (.slice A0 q0 c0):=(by refine ⟨?_,?_,?_,?_,?_,?_⟩ <;> (rw [cell_of_row _ _ _ _ _ (0,0) (((HS1.out.trans (hS.mono HS1.out.size)).block _ (by have:=HZ.out;omega)).trans HXa.out)];rfl));go_simp;rfl)
     refine wpAnyW_float [11] (fun _=>(.cells #[.int .i64 0,.string ⟨#[]⟩,.string ⟨#[]⟩,.int .u64 0,.int .i64 0,.slice none 0 0] 25)) (by kernel_rfl) (by kernel_rfl) (FloatRun.one rfl (fun a w=>by go_simp)) (fun _ _ h1 h2=>h2.trans (h1.mono h2.size)) (by kernel_rfl) (fun _ _ _ _ _ h=>h) rfl K0 ?_
     refine wpAnyF_one (i:=6) (by kernel_rfl) (by kernel_rfl) (fun _ _ _ _ _ h=>h) ⟨by kernel_rfl,by kernel_rfl⟩ (by kernel_rfl) rfl (by kernel_rfl) (fun z1 d1 K1 K hK=>?_)
     go_simp
     have hwz:=HB.out.trans ((HS1.out.trans (K1.mono HS1.out.size)).mono HB.out.size)
     have HF:=Lib.hid (f2_ok (w:=z1) (P:=fun b=>b<z1.heap.size) (s:=[42]) (nb:=⟨#[42]⟩) (HTt1.out z1 hwz) (HTt0.out z1 hwz) (fun b h=>h) rfl (by decide))
     rw [HV.out.2,HV.out.1] at HF
     (with_reducible refine HF.out.mono ?_)
     rintro e z2 ⟨sl2,rfl,hat2,hb2⟩
     obtain ⟨A2,c2,rfl,_⟩:=TAtP.iff.1 hat2
     have K2:=K1.trans (hb2.mono K1.size)
     have HAt:=Lib.hid (show TAt z2 z2.heap.size (cmpT [42] [Tb,Ta]) (.slice A2 2 c2) from hat2.wide (fun b hb=>hb.elim (fun h=>Nat.lt_of_lt_of_le h hb2.size) (·.2)))
     rw [show valT (cmpT [42] [Tb,Ta]) (.slice A2 (Ht.Tm.as (cmpT [42] [Tb,Ta])).length c2) = .agg #[.int .i64 5,.string ⟨#[42]⟩,.string ⟨#[]⟩,.int .u64 0,.int .i64 0,.slice A2 2 c2] from rfl]
     refine hK.out _ _ hb2 K2 ?_
     clear hat2 HF
     refine wpAnyF_one (i:=7) (by kernel_rfl) (by kernel_rfl) (fun _ _ _ _ _ h=>h) ⟨by kernel_rfl,by kernel_rfl⟩ (by kernel_rfl) rfl (by kernel_rfl) (fun z3 d3 K3 K hK=>?_)
     go_simp
     have HE:=Lib.hid (HT1.out.2.err z3 (.slice A2 2 c2) (HB.out.trans ((HS1.out.trans (K3.mono HS1.out.size)).mono HB.out.size)) (HAt.out.to d3 d3.size))
     rw [show valT (cmpT [42] [Tb,Ta]) (.slice A2 2 c2) = .agg #[.int .i64 5,.string ⟨#[42]⟩,.string ⟨#[]⟩,.int .u64 0,.int .i64 0,.slice A2 2 c2] from rfl] at HE
     (with_reducible refine HE.out.mono ?_)
     rintro e z4 ⟨gQ,rfl,hball,hb4⟩
     rw [show valT zeroT (.slice none 0 0) = .agg #[.int .i64 0,.string ⟨#[]⟩,.string ⟨#[]⟩,.int .u64 0,.int .i64 0,.slice none 0 0] from rfl]
     have K4:=K3.trans (hb4.mono K3.size)
     refine hK.out _ _ hb4 K4 ?_
     clear HE
     refine qF 8 ?_
     refine qF 9 ?_
     refine qF 10 ?_
     refine wpAnyF_land1 (by kernel_rfl) rfl (fun z5 HQ d5 K5 hA gA=>?_)
     have gA':((False∨(z0.heap.size≤HQ∧HQ<z1.heap.size))∨(z2.heap.size≤HQ∧HQ<z3.heap.size))∨(z4.heap.size≤HQ∧HQ<z5.heap.size):=gA
     have HGp:=Lib.hid (show (HQ<z3.heap.size∨z4.heap.size≤HQ)∧z3.heap.size≤z4.heap.size∧z4.heap.size≤z5.heap.size∧u1.heap.size≤HQ from by
      have h0:=K0.size
      have h1:=d1.size
      have h2:=hb2.size
      have h3:=d3.size
      have h4:=hb4.size
      have h5:=d5.size
      rcases gA' with ((h | h) | h) | h
      ·exact h.elim
      all_goals omega)
     replace hA:TBox z5 HQ zeroT (.slice none 0 0):=hA
     obtain ⟨r0,r1,r2,r3,r4,r5⟩:=TBox.cells (nb:=⟨#[]⟩) (mb:=⟨#[]⟩) hA rfl rfl
     obtain ⟨s0,s1,s2,s3,s4,s5⟩:=TBox.frozens hA
     have hset:=hA.set6 (k:=0) (b:=0) (v:=0) (n:=[]) (m:=[]) (nb:=⟨#[]⟩) (mb:=⟨#[]⟩) [] (.slice none 0 0) rfl rfl
     have HSet:=Lib.hid hset
     have HK5:=Lib.hid K5
     have HBl:=Lib.hid (show ∀ u:World,z5.grownBy u (some HQ)→BallP u z3.heap.size tt (.iface 95 (.pointer (some ⟨gQ,0,none⟩))) from fun u hg=>hball.skip (Nat.le_trans d5.size hg.size) (fun b h1 h2=>(hg.block b (Nat.lt_of_lt_of_le h2 d5.size) (fun e=>by injection e with e;have:=HGp.out;omega)).trans (d5.block b h2)))
     clear hball
     clear gA gA' hb2 hb4 K0 K1 K2 K3 K4 K5 d1 d3 d5 hs0 hset hA hwz HAt
     refine uW 12 fun K hK=>?_
     go_simp
     clear r0 r1 r2 r3 r4 r5 s0 s1 s2 s3 s4 s5
     generalize (((((z5.setCell ⟨HQ,0,none⟩ (.int .i64 0)).setCell ⟨HQ,1,none⟩ (.string ⟨#[]⟩)).setCell ⟨HQ,2,none⟩ (.string ⟨#[]⟩)).setCell ⟨HQ,3,none⟩ (.int .u64 0)).setCell ⟨HQ,4,none⟩ (.int .i64 0)).setCell ⟨HQ,5,none⟩ (.slice none 0 0)=u2 at *
     have HUQ:=Lib.hid (show Below u1.heap.size u1 u2 from HK5.out.grown HSet.out.2 HK5.out.size (fun j e=>by injection e with e;have:=HGp.out;omega))
     have HXQ:=Lib.hid HSet.out.1
     have HBlQ:=Lib.hid (HBl.out u2 HSet.out.2)
     clear HBl
     refine hK.out _ _ (fun _=>HUQ.out) ?_
     clear HSet HK5 HGp
     refine uW 13 fun K hK=>?_
     go_simp
     refine hK.out _ _ (fun h=>absurd h (by simp)) ?_
     refine wpAnyW_done (by kernel_rfl) ?_ _
     have HS2:=Lib.hid (HS1.out.trans (HUQ.out.mono HS1.out.size))
     have HM2:=Lib.hid (HM1.out.trans (HUQ.out.mono HM1.out.size))
     have HXP2:=Lib.hid (HXP.out.below HUQ.out)
     obtain ⟨r0,r1,r2,r3,r4,r5⟩:=HXP2.out.cells (nb:=⟨#[]⟩) (mb:=⟨#[]⟩) rfl rfl
     obtain ⟨s0,s1,s2,s3,s4,s5⟩:=HXQ.out.cells (nb:=⟨#[]⟩) (mb:=⟨#[]⟩) rfl rfl
     have HSm:=Lib.hid (Same_any zeroT u2 (.slice none 0 0) (.slice none 0 0) (zero_leaf u2 _) (zero_leaf u2 _))
     rw [show valT zeroT (.slice none 0 0) = .agg #[.int .i64 0,.string ⟨#[]⟩,.string ⟨#[]⟩,.int .u64 0,.int .i64 0,.slice none 0 0] from rfl] at HSm
     go_wp2_with fail
     (with_reducible refine HSm.out.mono ?_)
     rintro e u3 ⟨rfl,hb3⟩
     have HS3:=Lib.hid (HS2.out.trans (hb3.mono HS2.out.size))
     have HM3:=Lib.hid (HM2.out.trans (hb3.mono HM2.out.size))
     have HBP:=Lib.hid ((HBlP.out.below HUQ.out).below hb3)
     have HBQ:=Lib.hid (HBlQ.out.below hb3)
     clear hb3 HSm r0 r1 r2 r3 r4 r5 s0 s1 s2 s3 s4 s5
     go_upto_region 13 with fail
     refine wp_region_H (by kernel_rfl) (fun z0 K0 hs0=>?_)
     refine qh 0 K0 ?_
     refine qh 1 K0 ?_
     refine qh 2 K0 ?_
     refine qh 3 K0 ?_
     refine qh 4 K0 ?_
     refine qh 5 K0 ?_
     refine qh 6 K0 ?_
     refine qh 7 K0 ?_
     refine qh 8 K0 ?_
     refine wpAnyH_end (by kernel_rfl) ?_ _
     go_simp
     have HS4:=Lib.hid (HS3.out.trans (K0.mono HS3.out.size))
     have HM4:=Lib.hid (HM3.out.trans (K0.mono HM3.out.size))
     have HBP4:=Lib.hid (HBP.out.below K0)
     have HBQ4:=Lib.hid (HBQ.out.below K0)
     clear K0 hs0
     go_wp2_with fail
     (with_reducible refine (thrown_ok HBP4.out).mono ?_)
     rintro e u5 ⟨sl5,rfl,hat5,hb5⟩
     obtain ⟨kt,nt,mt,bt,vt,tss,ntb,mtb,At,ct,htt,rfl,hnt,hmt,_,_,_,hvt,_,_⟩:=hat5.letters
     rw [hvt]
     obtain ⟨qt,hqt⟩:∃ q,tss.length=q:=⟨_,rfl⟩
     rw [hqt] at hat5 hvt ⊢
     have HX5:=Lib.hid (show TBox (u5.alloc (.cells #[.int .i64 kt,.string ntb,.string mtb,.int .u64 bt,.int .i64 vt,.slice At qt ct] 25)) u5.heap.size (.mk kt nt mt bt vt tss) (.slice At qt ct) from TBox.new u5 hnt hmt)
     have HBa:=Lib.hid (show Below u5.heap.size u5 (u5.alloc (.cells #[.int .i64 kt,.string ntb,.string mtb,.int .u64 bt,.int .i64 vt,.slice At qt ct] 25)) from (Below.refl _ _).alloc (Nat.le_refl _) _)
     have HS5:=Lib.hid (HS4.out.trans ((hb5.trans (HBa.out.mono hb5.size)).mono HS4.out.size))
     have HM5:=Lib.hid (HM4.out.trans ((hb5.trans (HBa.out.mono hb5.size)).mono HM4.out.size))
     have HBQ5:=Lib.hid ((HBQ4.out.below hb5).below HBa.out)
     have HAt5:=Lib.hid (hat5.to HBa.out HBa.out.size)
     have HNt:=Lib.hid (And.intro hnt hmt)
     have HVt:=Lib.hid hvt
     have HTt:=Lib.hid htt
     clear hat5 hb5 hvt hnt hmt hqt htt HBa
     go_upto_region 17 with fail
     generalize u5.alloc (.cells #[.int .i64 kt,.string ntb,.string mtb,.int .u64 bt,.int .i64 vt,.slice At qt ct] 25)=u6 at *
     go_wp2_with fail
     (with_reducible refine (thrown_ok HBQ5.out).mono ?_)
     rintro e u7 ⟨sl7,rfl,hat7,hb7⟩
     rw [HTt.out] at hat7
     obtain ⟨Au,cu,hsl7,_⟩:=TAtP.iff.1 hat7
     obtain ⟨qu,hqu⟩:∃ q,tss.length=q:=⟨_,rfl⟩
     change sl7 = .slice Au tss.length cu at hsl7
     rw [hqu] at hsl7
     subst hsl7
     rw [HTt.out,valT_mk HNt.out.1 HNt.out.2]
     have HX7:=Lib.hid (show TBox (u7.alloc (.cells #[.int .i64 kt,.string ntb,.string mtb,.int .u64 bt,.int .i64 vt,.slice Au qu cu] 25)) u7.heap.size (.mk kt nt mt bt vt tss) (.slice Au qu cu) from TBox.new u7 HNt.out.1 HNt.out.2)
     have HBa:=Lib.hid (show Below u7.heap.size u7 (u7.alloc (.cells #[.int .i64 kt,.string ntb,.string mtb,.int .u64 bt,.int .i64 vt,.slice Au qu cu] 25)) from (Below.refl _ _).alloc (Nat.le_refl _) _)
     have HB67:=Lib.hid (hb7.trans (HBa.out.mono hb7.size))
     have HS7:=Lib.hid (HS5.out.trans (HB67.out.mono HS5.out.size))
     have HM7:=Lib.hid (HM5.out.trans (HB67.out.mono HM5.out.size))
     have HAt7:=Lib.hid (hat7.to HBa.out HBa.out.size)
     have HX57:=Lib.hid (HX5.out.below HB67.out)
     have HAt57:=Lib.hid (HAt5.out.to HB67.out HB67.out.size)
     clear hat7 hb7 HBa hqu
     go_upto_region 18 with fail
     generalize u7.alloc (.cells #[.int .i64 kt,.string ntb,.string mtb,.int .u64 bt,.int .i64 vt,.slice Au qu cu] 25)=u8 at *
     obtain ⟨r0,r1,r2,r3,r4,r5⟩:=HX57.out.cells HNt.out.1 HNt.out.2
     obtain ⟨s0,s1,s2,s3,s4,s5⟩:=HX7.out.cells HNt.out.1 HNt.out.2
     have hat57:=HAt57.out
     rw [HTt.out] at hat57
     have HSm:=Lib.hid (Same_any (.mk kt nt mt bt vt tss) u8 (.slice At qt ct) (.slice Au qu cu) hat57 HAt7.out)
     rw [valT_mk HNt.out.1 HNt.out.2,valT_mk HNt.out.1 HNt.out.2] at HSm
     go_wp2_with fail
     (with_reducible refine HSm.out.mono ?_)
     rintro e u9 ⟨rfl,hb9⟩
     have HS9:=Lib.hid (HS7.out.trans (hb9.mono HS7.out.size))
     have HM9:=Lib.hid (HM7.out.trans (hb9.mono HM7.out.size))
     clear hb9 HSm r0 r1 r2 r3 r4 r5 s0 s1 s2 s3 s4 s5 hat57
     have HSe:=Lib.hid HM9.out
     go_wp2_with fail
     go_roundw
     case rel=>exact ⟨2,rfl,by omega,Lib.hid (HI.out.trans (HSe.out.mono HI.out.size))⟩
     case measure=>simp [intOf]
   ·have HBe:=Lib.hid (HB.out.trans (HIw.out.mono HB.out.size))
    go_wp2_with fail
    go_ret
    exact ⟨rfl,HBe.out⟩
 ·have HBw:=Lib.hid (HB.out.trans (HW.out.mono HB.out.size))
  clear HN0 HN1 HAw HL hn1 hn2 HTw HNs
  cases n1 <;> cases n2
  case neg.true.true=>exact absurd ⟨rfl,rfl⟩ hall
  all_goals
   go_wp2_with fail
   go_ret
   exact ⟨rfl,HBw.out⟩
end
section
open Go.ChangeShapes Go.WideShapes Go.ChangeAt Go.RowKit Go.Joins Go.Deep Hb
theorem list6 {α:Type} {l:List α} (h:l.length=6):∃ a b c d e f,l = [a,b,c,d,e,f]:=by
 match l,h with
 | [a,b,c,d,e,f],_=>exact ⟨a,b,c,d,e,f,rfl⟩
theorem spot_none {w:World} {a:Addr} {v:Value} (h:w.cell? (a.add 0)=some v):∃ b o,a=⟨b,o,none⟩∧b<w.heap.size:=by
 obtain ⟨b,off,spot⟩:=a
 have hspot:spot=none:=by simpa [Addr.add] using World.cell?_spot h
 subst hspot
 refine ⟨b,off,rfl,?_⟩
 have:=World.block_lt_of_cell? _ _ h
 simpa [Addr.add] using this
theorem add_add (a:Addr) (m k:Nat):(a.add m).add k=a.add (m+k):=by
 unfold Addr.add
 by_cases h1:m=0
 ·subst h1;simp
 ·by_cases h2:k=0
  ·subst h2;simp [h1]
  ·simp [h1,h2,Nat.add_assoc]
end
end Go.Proofs.YtjpnmmjgdiiahaaGreatDoor
namespace Ht
namespace Tm
end Tm
section
end
end Ht
namespace Ht
def sDot:List UInt8:=[46]
def elems:Tm→List Tm × Tm
 | .mk k n m b v [x,y]=>if k=5∧n=sDot then (x :: (elems y).1,(elems y).2) else ([],.mk k n m b v [x,y])
 | t=>([],t)
end Ht
namespace Go.Proofs.YtjpnmmjgdiiahaaGreatDoor
section
open Go.ChangeShapes Go.WideShapes Go.ChangeAt Go.RowKit Go.Joins Go.Deep Hb Ht
section
end
theorem i64_of_wf {x:Int} (h:(Lit.int .i64 x).wf=true) : -9223372036854775808≤x∧x≤9223372036854775807:=by
 simp [Lit.wf,IntKind.has,IntKind.min,IntKind.max,IntKind.bits,IntKind.signed] at h
 omega
theorem u64_of_wf {x:Int} (h:(Lit.int .u64 x).wf=true):0≤x∧x<18446744073709551616:=by
 simp [Lit.wf,IntKind.has,IntKind.min,IntKind.max,IntKind.bits,IntKind.signed] at h
 omega
theorem cellsTerm:Tryz.prog.cellsOf 25=6:=by kernel_rfl
theorem bytesTerm:Tryz.prog.bytesOf 25=80:=by kernel_rfl
theorem trod_six {H:Type} {enc:TypeId × Value→H} {P:Program} {w:World} {base:Nat} {spare:Nat→Bool} {held:Bool} {t:TypeId} {f0 f1 f2 f3 f4 f5:Field} {fuel:Nat} {cs:List Value} {x:DataW H × List MemPlace} (ht:P.underlying t=some (.struct #[f0,f1,f2,f3,f4,f5])) (h:DataW.trod enc P w base spare held fuel t cs=some x) :
  ∃ y0 y1 y2 y3 y4 y5 n,fuel=n+1∧x.1 = .agg [y0.1,y1.1,y2.1,y3.1,y4.1,y5.1]∧cs.length=P.cellsOf t∧DataW.trod enc P w base spare held n f0.type ((cs.drop f0.offset).take (P.cellsOf f0.type))=some y0 ∧
   DataW.trod enc P w base spare held n f1.type ((cs.drop f1.offset).take (P.cellsOf f1.type))=some y1∧DataW.trod enc P w base spare held n f2.type ((cs.drop f2.offset).take (P.cellsOf f2.type))=some y2 ∧
   DataW.trod enc P w base spare held n f3.type ((cs.drop f3.offset).take (P.cellsOf f3.type))=some y3∧DataW.trod enc P w base spare held n f4.type ((cs.drop f4.offset).take (P.cellsOf f4.type))=some y4 ∧
   DataW.trod enc P w base spare held n f5.type ((cs.drop f5.offset).take (P.cellsOf f5.type))=some y5:=by
 obtain ⟨xs,n,hn,rfl,hl,hlen,hf⟩:=DataW.trod_struct ht h
 match xs,hlen with
 | [y0,y1,y2,y3,y4,y5],_=>exact ⟨y0,y1,y2,y3,y4,y5,n,hn,rfl,hl,by simpa using hf 0 f0 rfl,by simpa using hf 1 f1 rfl,by simpa using hf 2 f2 rfl,by simpa using hf 3 f3 rfl,by simpa using hf 4 f4 rfl,by simpa using hf 5 f5 rfl⟩
theorem weights_all_mem {H:Type} {P:Program} {e:TypeId} {m:Nat} : ∀ {l:List (DataW H)} {d:DataW H},d∈l→m∈d.weights P e→m∈DataW.weightsAll P e l
 | d0 :: r,d,hd,hm=>by
  rw [DataW.weightsAll,List.mem_append]
  rcases List.mem_cons.1 hd with rfl | hd
  ·exact .inl hm
  ·exact .inr (weights_all_mem hd hm)
set_option maxRecDepth 1000000 in
theorem trod_term {H:Type} {enc:TypeId × Value→H} {W:World} {sp:Nat→Bool} (fuel:Nat):∀ (cs:List Value) (x:DataW H × List MemPlace),DataW.trod enc Tryz.prog W 0 sp true fuel 25 cs=some x→(∀ m∈x.1.weights Tryz.prog 25,m≤reachBytes) →
  ∃ t sl,cs=Ht.cells6 t sl∧TAtP W (fun b=>b<W.heap.size) t sl∧Fits t:=by
 induction fuel using Nat.strongRecOn with
 | _ fuel ih=>
  intro cs x h hw
  obtain ⟨y0,y1,y2,y3,y4,y5,n,rfl,hx,hl,g0,g1,g2,g3,g4,g5⟩:=trod_six Tryz.underlying25 h
  rw [cellsTerm] at hl
  obtain ⟨c0,c1,c2,c3,c4,c5,rfl⟩:=list6 hl
  have e9:Tryz.prog.cellsOf 9=1:=by kernel_rfl
  have e3:Tryz.prog.cellsOf 3=1:=by kernel_rfl
  have e6:Tryz.prog.cellsOf 22=1:=by kernel_rfl
  have e7:Tryz.prog.cellsOf 23=1:=by kernel_rfl
  obtain ⟨u0,k0,_,w0⟩:=DataW.trod_int Tryz.underlying3 g0
  obtain ⟨s1,k1,hy1,hs1⟩:=DataW.trod_string Tryz.underlying9 g1
  obtain ⟨s2,k2,_,hs2⟩:=DataW.trod_string Tryz.underlying9 g2
  obtain ⟨u3,k3,_,w3⟩:=DataW.trod_int Tryz.underlying22 g3
  obtain ⟨u4,k4,_,w4⟩:=DataW.trod_int Tryz.underlying3 g4
  simp [e9] at k1 k2
  simp [e3] at k0 k4
  simp [e6] at k3
  subst k0 k1 k2 k3 k4
  simp [e7] at g5
  have hw5:∀ m∈y5.1.weights Tryz.prog 23,m≤reachBytes:=by
   intro m hm
   refine hw m ?_
   rw [hx,DataW.weights,Tryz.underlying25]
   exact DataW.weights_mem_each (j:=5) rfl rfl m hm
  have hw1:s1.data.toList.length≤4611686018427387904:=by
   have h1:=hw s1.data.toList.length (by
    rw [hx,DataW.weights,Tryz.underlying25]
    exact DataW.weights_mem_each (j:=1) rfl rfl _ (by rw [hy1];simp [DataW.weights]))
   unfold reachBytes at h1
   omega
  have hok:∀ ts,okF (.mk u0 s1.data.toList s2.data.toList u3 u4 ts):=fun ts=>⟨by simpa [Tm.n] using hs1,by simpa [Tm.m] using hs2,u64_of_wf w3,i64_of_wf w4,i64_of_wf w0⟩
  rcases DataW.trod_slice Tryz.underlying23 g5 with ⟨e1,_⟩ | ⟨a,len,cap,elems,rest,m,rfl,e1,hx5,_,hlc,hcm,hlen2,hel,_⟩
  ·simp at e1
   subst e1
   refine ⟨.mk u0 s1.data.toList s2.data.toList u3 u4 [],.slice none 0 0,rfl,?_,Fits.iff.2 ⟨hw1,fun a ha=>by cases ha⟩⟩
   rw [TAtP.iff]
   exact ⟨none,0,rfl,Nat.le_refl _,by simp [maxLen],Nat.zero_le _,hok [],fun hne=>absurd rfl hne⟩
  ·simp at e1
   subst e1
   rw [hx5] at hw5
   have hsz:len≤maxArgs:=by
    have:=hw5 ((elems.length+rest.length) * 80) (by rw [DataW.weights,Tryz.underlying23,←bytesTerm];simp)
    unfold reachBytes at this
    unfold maxArgs
    omega
   obtain ⟨V,hV⟩:=choose_lt (α:=Tm) (n:=len) (p:=fun i y=>∃ sl,(∀ k,k<6→W.cell? (a.add (i * 6+k))=(Ht.cells6 y sl)[k]?)∧TAtP W (fun b=>b<W.heap.size) y sl∧Fits y) (fun i hi=>by
    have h1:=hel i hi
    rw [List.getElem?_eq_getElem (by omega),Option.bind_eq_some_iff] at h1
    obtain ⟨cs',h2,h3⟩:=h1
    obtain ⟨t,sl,rfl,ht,hft⟩:=ih m (by omega) cs' _ h3 (fun q hq=>hw5 q (by
     rw [DataW.weights,Tryz.underlying23]
     refine List.mem_cons_of_mem _ (List.mem_append_left _ (weights_all_mem (List.mem_map.2 ⟨_,List.getElem_mem _,rfl⟩) hq))))
    refine ⟨t,sl,fun k hk=>?_,ht,hft⟩
    rw [cellsTerm] at h2
    have h4:=(World.cells?_some h2).2.2 k hk
    rw [←add_add,h4])
   refine ⟨.mk u0 s1.data.toList s2.data.toList u3 u4 ((List.range len).map V),.slice (some a) len cap,rfl,?_,Fits.iff.2 ⟨hw1,fun y hy=>by
    obtain ⟨i,hi,rfl⟩:=List.mem_map.1 hy
    obtain ⟨_,_,_,hf⟩:=hV i (by simpa using hi)
    exact hf⟩⟩
   rw [TAtP.iff]
   refine ⟨some a,cap,by simp [Tm.as],by simpa [Tm.as] using hlc,hcm,by simpa [Tm.as] using hsz,hok _,fun hne=>?_⟩
   have hn0:0<len:=Nat.pos_of_ne_zero (fun e=>hne (by subst e;rfl))
   obtain ⟨sl0,hc0,_⟩:=hV 0 hn0
   obtain ⟨b,o,rfl,hb⟩:=spot_none (hc0 0 (by omega))
   refine ⟨b,o,rfl,hb,fun i x hx=>?_⟩
   obtain ⟨hi,e⟩:=List.getElem?_eq_some_iff.1 hx
   have hin:i<len:=by simpa [Tm.as] using hi
   simp only [Tm.as,List.getElem_map,List.getElem_range] at e
   obtain ⟨sl,hc,ht,_⟩:=hV i hin
   rw [←e]
   exact ⟨sl,fun j hj=>by rw [←hc j hj,addr_add,Nat.add_assoc],ht⟩
set_option maxRecDepth 1000000 in
theorem open_Term {H:Type} {enc:TypeId × Value→H} {W:World} {base:Nat} {v:Value} {d:DataW H} {p:List MemPlace} (hval:Value.okWide Tryz.prog W .any base 25 v)
  (h:DataW.Trod enc Tryz.prog W 0 (fun _=>true) true 25 v d p) (hw:∀ m∈d.weights Tryz.prog 25,m≤reachBytes):∃ t sl,v=valT t sl∧TAt W W.heap.size t sl∧Fits t:=by
 obtain ⟨cs,rfl,hsz⟩:=okWide_struct Tryz.underlying25 hval
 obtain ⟨fuel,hf⟩:=h
 obtain ⟨t,sl,e,ht,hft⟩:=trod_term fuel _ _ hf hw
 refine ⟨t,sl,?_,ht,hft⟩
 have e2:cs.toList=Ht.cells6 t sl:=by simpa [Value.cells] using e
 show Value.agg cs = .agg (Ht.cells6 t sl).toArray
 rw [←e2]
theorem arg_weights {H:Type} {d:DataW H} {l:List (DataW H)} {ts:List TypeId} {j:Nat} {t:TypeId} (hw:(DataW.weightsEach Tryz.prog ts l).all (· ≤ reachBytes)=true) (ht:ts[j]?=some t) (hd:l[j]?=some d):∀ m∈d.weights Tryz.prog t,m≤reachBytes:=fun m hm=>by
 have:=List.all_eq_true.1 hw m (DataW.weights_mem_each ht hd m hm)
 simpa using this
end
section
open Go.ChangeShapes Go.WideShapes Go.ChangeAt Go.RowKit Go.Joins Hb Ht
theorem laidK:laidOutB Tryz.prog=true:=by kernel_rfl
section
variable {H:Type} {enc:TypeId × Value→H} {P:Program}
theorem args_stay (hl:laidOutB P=true) {W W':World} (hb:Below W.heap.size W W'):∀ (ts:List TypeId) (vs:List Value) (ds:List (DataW H)) (ps:List MemPlace),
  (∀ t∈ts,P.readableRec t=true∧t<P.types.size)→DataW.TrodAll enc P W 0 (fun _=>true) true ts vs ds ps→(∀ x∈ps,x.block<W.heap.size) →
  ∀ sp:Nat→Bool,(∀ x∈ps,sp x.block=true)→DataW.TrodAll enc P W' 0 sp true ts vs ds ps
 | [],vs,ds,ps,_,h,_,_,_=>by
  cases vs <;> cases ds <;> simp [DataW.TrodAll] at h ⊢
  exact h
 | t :: ts,vs,ds,ps,hr,h,hlt,sp,hs=>by
  obtain ⟨v,vs',d,ds',p,q,rfl,rfl,rfl,h1,h2⟩:=trodAll_cons h
  have hp:∀ x∈p,x.block<W.heap.size:=fun x hx=>hlt x (List.mem_append_left _ hx)
  have hq:∀ x∈q,x.block<W.heap.size:=fun x hx=>hlt x (List.mem_append_right _ hx)
  exact trodAll_cons_mk (WideElems.Trod_stays hl (hr t (by simp)).1 (hr t (by simp)).2 h1 (fun x hx=>hb.same (hp x hx)) (fun x hx=>hs x (List.mem_append_left _ hx)))
   (args_stay hl hb ts vs' ds' q (fun t ht=>hr t (List.mem_cons_of_mem _ ht)) h2 hq sp (fun x hx=>hs x (List.mem_append_right _ hx)))
theorem law_end {f:Func} {s:ChangeSpec} {fresh handsOn again:Bool} {W W':World} {args:Array Value} {ds gs:List (DataW H)} {before:List MemPlace} {bt:TypeId}
  (hl:laidOutB P=true) (hr:∀ t∈f.params.toList,P.readableRec t=true∧t<P.types.size) (hres:f.resultTypes = #[bt]) (hbt:P.underlying bt=some .bool)
  (hv:s.vars = []) (hW:DataW.Whole enc P f.params.toList s.vars false W args.toList ds gs before) (hfn:s.fn H (ds ++ gs) = { results:=[.lit (.bool true)],args:=ds }) (hb:Below W.heap.size W W') :
  s.post enc P f false fresh handsOn again W args (.bool true) W':=by
 have hlt:∀ p∈before,p.block<W.heap.size:=fun p hp=>hW.lt p hp
 have hW2:=hW
 obtain ⟨p,q,hA,hV,rfl,hz,_⟩:=hW2
 rw [hv] at hV
 obtain ⟨rfl,rfl⟩:=trodVars_none hV
 rw [List.append_nil] at *
 have hst:=args_stay hl hb _ _ _ _ hr hA hlt
 have hR:∀ (b:Nat) (sp:Nat→Bool) (hd:Bool),DataW.TrodAll enc P W' b sp hd f.resultTypes.toList ((Value.bool true).resultList f.resultTypes.size) (s.fn H ds).results []:=by
  intro b sp hd
  rw [hfn,hres]
  exact ⟨[],[],shut_bool hbt true,rfl,rfl⟩
 refine ⟨ds,[],p,[],p,[],by simpa using hW,by simpa using hR _ _ _,?_,?_,World.keptBut_mono (fun x hx=>⟨hx,.inr (.inl hx)⟩) (hb.frame (· ∈ p)),fun _=>⟨?_,[.lit (.bool true)] ++ ds,[],p,⟨p,[],?_,?_,by simp,?_,fun h=>by cases h⟩,fun x hx _=>hx⟩⟩
 ·rw [List.append_nil,hfn];exact hst _ (fun x hx=>by simpa using hlt x hx)
 ·rw [List.append_nil,hfn,hv];rfl
 ·intro j t r ht hj
  rw [hres] at ht hj
  cases j with
  | zero=>
   simp at ht hj
   subst ht
   obtain rfl:r = .bool true:=by simpa [Value.resultList] using hj.symm
   exact okWide_bool_mk hbt true
  | succ j=>simp at ht
 ·have h1:=hR 0 (fun _=>true) true
  rw [hfn] at h1
  have:=trodAll_append (hst (fun _=>true) (fun _ _=>rfl)) h1
  simpa using this
 ·rw [hv];rfl
 ·intro b off hp
  rw [hb.frozen (hlt _ hp)]
  exact hz b off hp
end
theorem dcgOwn:ownKnob Tryz.prog.godebug=none:=by kernel_rfl
noncomputable def dcgWorld (os:Os):World:=World.laidAll Tryz.prog os Rows.arithTurnsRow.laid
set_option maxRecDepth 100000 in
theorem dcgWorld_met (os:Os) (args:Array Value):laidMetH Tryz.prog Rows.arithTurnsRow.laid ((dcgWorld os).forCall (fun _ _=>0) ⟨#[],args,[]⟩).memory:=by
 rw [MakeChecks.laidMetH_plain _ _ _ (by kernel_rfl)]
 exact laidMet_laidAll _ (by kernel_rfl) (by kernel_rfl)
set_option maxRecDepth 100000 in
theorem vtabs_laid {W:World} (h:laidMetH Tryz.prog Rows.arithTurnsRow.laid W):VTabs W:=
 utf8Tabs_of_readsT (U8Types.of196 Tryz.laysValid) ⟨by kernel_rfl,by kernel_rfl,by kernel_rfl,by kernel_rfl,by kernel_rfl,by kernel_rfl,by kernel_rfl⟩ (Lib.laidMet.reads h (.tail _ (.tail _ (.tail _ (.tail _ (.head _)))))) (Lib.laidMet.reads h (.tail _ (.tail _ (.tail _ (.head _)))))
theorem turns_res:Tryz.f8.resultTypes = #[4]:=by kernel_rfl
set_option maxRecDepth 1000000 in
theorem turns_contract (H:Type) (enc:TypeId × Value→H) (W:World) (base:Nat) (args:Array Value) (ds gs:List (DataW H)) (before:List MemPlace)
  (hval:∀ (j:Nat) t v,Tryz.f8.params[j]?=some t→args[j]?=some v→Value.okWide Tryz.prog W .any base t v)
  (hW:DataW.Whole enc Tryz.prog Tryz.f8.params.toList Rows.arithTurnsSpec.vars false W args.toList ds gs before) (hwt:(DataW.weightsEach Tryz.prog (Tryz.f8.params.toList ++ []) (ds ++ gs)).all (· ≤ reachBytes)=true) (hL:laidMetH Tryz.prog Rows.arithTurnsRow.laid W) :
  Calls Tryz.prog 8 args W fun e W'=>∃ v,e = .returned v∧Rows.arithTurnsSpec.post enc Tryz.prog Tryz.f8 false true false false W args v W':=by
 have hW':=hW
 obtain ⟨p,q,hA0,hV,rfl,hfz,hnd⟩:=hW
 have hA:DataW.TrodAll enc Tryz.prog W 0 (fun _=>true) true Tryz.f8.params.toList args.toList ds p:=hA0
 rw [Tryz.params8] at hA hval hwt
 obtain ⟨v0,vs0,d0,ds0,p0,q0,hargs,rfl,rfl,h0,r0⟩:=trodAll_cons hA
 obtain ⟨v1,vs1,d1,ds1,p1,q1,rfl,rfl,rfl,h1,r1⟩:=trodAll_cons r0
 obtain ⟨rfl,rfl,rfl⟩:=trodAll_nil r1
 obtain rfl:args = #[v0,v1]:=by cases args;simp_all
 obtain ⟨rfl,rfl⟩:=trodVars_none hV
 obtain ⟨t0,sl0,e0,ha0,hf0⟩:=open_Term (hval 0 25 v0 rfl rfl) h0 (arg_weights (j:=0) hwt rfl rfl)
 subst e0
 obtain ⟨t1,sl1,e1,ha1,hf1⟩:=open_Term (hval 1 25 v1 rfl rfl) h1 (arg_weights (j:=1) hwt rfl rfl)
 subst e1
 have hwalk:=Turns_walk ha0 ha1 hf0 hf1 (vtabs_laid hL).ok
 refine hwalk.mono fun e W' ⟨he,hb⟩=>?_
 subst he
 refine ⟨_,rfl,law_end (bt:=4) laidK (fun t ht=>?_) turns_res Tryz.underlying4 rfl hW' rfl hb⟩
 rw [Tryz.params8] at ht
 simp at ht
 subst ht
 exact ⟨by kernel_rfl,of_decide_eq_true (by kernel_rfl)⟩
theorem turns_reads (os:Os) {H:Type} (enc:TypeId × Value→H):∃ places,DataW.whole enc Tryz.prog ((dcgWorld os).forCall (fun _ _=>0) ⟨#[],#[.agg #[.int .i64 0,.string ⟨#[]⟩,.string ⟨#[]⟩,.int .u64 0,.int .i64 0,.slice none 0 0],.agg #[.int .i64 0,.string ⟨#[]⟩,.string ⟨#[]⟩,.int .u64 0,.int .i64 0,.slice none 0 0]],[]⟩).memory Tryz.f8.params.toList Rows.arithTurnsSpec.vars false #[Value.agg #[.int .i64 0,.string ⟨#[]⟩,.string ⟨#[]⟩,.int .u64 0,.int .i64 0,.slice none 0 0],Value.agg #[.int .i64 0,.string ⟨#[]⟩,.string ⟨#[]⟩,.int .u64 0,.int .i64 0,.slice none 0 0]].toList 8 =
  some ([.agg [.lit (.int .i64 0),.lit (.string []),.lit (.string []),.lit (.int .u64 0),.lit (.int .i64 0),.nil],.agg [.lit (.int .i64 0),.lit (.string []),.lit (.string []),.lit (.int .u64 0),.lit (.int .i64 0),.nil]],[],places):=
 ⟨[],by kernel_rfl⟩
set_option maxRecDepth 100000 in
theorem turns_lifted (os:Os) (started:os.Started) (H:Type) (enc:TypeId × Value→H) (F:Stop.Interp) :
  ReturnsInHanded {} Tryz.checked os 8 .any ((OpenSpec.ofChange Rows.arithTurnsSpec).preRow enc Tryz.prog Tryz.f8 Rows.arithTurnsRow.domain false Rows.arithTurnsRow.laid) (((OpenSpec.ofChange Rows.arithTurnsSpec).at F).post enc Tryz.prog Tryz.f8 false true false false):=by
 obtain ⟨places,hx⟩:=turns_reads os enc
 refine returnsInHanded_of_row (C:=Tryz.checked) (s:=OpenSpec.ofChange Rows.arithTurnsSpec) dcgOwn started (by kernel_rfl) Tryz.func8
  (witness_row_atRef (enc:=enc) (C:=Tryz.checked) false (dcgWorld os) #[.agg #[.int .i64 0,.string ⟨#[]⟩,.string ⟨#[]⟩,.int .u64 0,.int .i64 0,.slice none 0 0],.agg #[.int .i64 0,.string ⟨#[]⟩,.string ⟨#[]⟩,.int .u64 0,.int .i64 0,.slice none 0 0]] (World.laidAll_os _ _ _) (by kernel_rfl) (by kernel_rfl) (by kernel_rfl)
   (OpenSpec.preRow_of_cond 8 hx (by kernel_rfl) (fun k hk=>by cases hk) (by kernel_rfl) (dcgWorld_met os _))) ?_
 intro W base args ds gs before hval hW _ _ hwt hL _ _
 exact turns_contract H enc W base args ds gs before hval hW hwt hL
theorem turns_said:Rows.ArithTurnsSaid:=
 OpenClaim.holds_of_cond 8 Tryz.f8 rfl rfl rfl rfl rfl rfl rfl ⟨rfl,rfl,rfl,rfl,rfl⟩ rfl rfl rfl rfl rfl (by kernel_rfl) Tryz.func8 (by kernel_rfl)
  (of_decide_eq_true (by kernel_rfl)) (by unfold Func.isWrapper;first | (rw [if_pos (by decide +kernel)];kernel_rfl) | (rw [if_neg (by decide +kernel)];exact ⟨rfl,rfl⟩))
  (fun os started H enc _ F=>by rw [OpenClaim.pre_eq_preRow];exact turns_lifted os started H enc F)
theorem turns_plain (f:FuncId) (fn:Func) (hf:Tryz.pinned.checked.prog.funcNamed "hornbeam/hornbeamlaw07.ArithTurns" = some f) (hfn:Tryz.pinned.checked.prog.funcs[f]?=some fn) :
  true=Tryz.pinned.checked.prog.looks []∧∀ (j:Nat) t,fn.params[j]?=some t→Tryz.pinned.checked.prog.wantsStandIn t=false:=by
 obtain rfl:f=8:=Option.some.inj ((show Tryz.prog.funcNamed "hornbeam/hornbeamlaw07.ArithTurns" = some 8 by kernel_rfl).symm.trans hf) |>.symm
 obtain rfl:fn=Tryz.f8:=(Option.some.inj (Tryz.func8.symm.trans hfn)).symm
 refine ⟨by kernel_rfl,fun j t ht=>?_⟩
 rw [Tryz.params8] at ht
 have hm:t ∈ [25,25]:=by simpa using Array.mem_of_getElem? ht
 have hall:([25,25].all fun u=>!Tryz.prog.wantsStandIn u)=true:=by kernel_rfl
 exact (show Tryz.prog.wantsStandIn t=false by simpa using List.all_eq_true.1 hall t hm)
theorem turns_card:Rows.ArithTurnsCardSaid:=
 Claim7.holds_tied_plain_at .later [] _ _ _ _ turns_said (fun _ h=>by cases h) (by kernel_rfl) (fun _ h=>by cases h) arithTurns_row_tie rfl ⟨rfl,rfl⟩ (by kernel_rfl) rfl turns_plain (by kernel_rfl)
end
end Go.Proofs.YtjpnmmjgdiiahaaGreatDoor
