import Derived.Shelf.Small.Bits
import Derived.Shelf.Unicode.ValidAny
import Derived.Lib.LaidU8T
import Derived.Deep.Strs
import Derived.Deep.Slices
import Derived.SizedLaws
import Derived.Deep.DeepHandedRow
import Derived.Deep.DeepWitnessRowRef
import Derived.Lib.LaidTab
import Derived.Lay
import Derived.Test.YtgfeainpeplphaaDoorTie
import Derived.Test.YtgfeainpeplphaaDoorCards
import Derived.ProofKit
import Derived.OpenShut
import Derived.JoinedCond
import Derived.JoinedOf
import Derived.JoinedAt
import Derived.ChangeSame
import Derived.ChangeSlices
import Derived.RowKit3
import Derived.Carry
import Derived.Lib.SmallJoins
import Derived.Test.YtgfeainpeplphaaDoorZ2
import Derived.Test.YtgfeainpeplphaaDoorZ4
import Derived.Test.YtgfeainpeplphaaDoorZ8
namespace Go.Proofs.YtgfeainpeplphaaDoor
open Go.RowKit Hb Ht
set_option linter.unusedVariables false
set_option linter.unusedSimpArgs false
attribute [local go_sem] Oper.semAt_some
theorem Rule_okL {w0 w:World} {t:Tm} {st:Value} {k v b:Int} {n m:List UInt8} {ts:List Tm} {nb mb:ByteArray} {q:Nat} (h1:TAt w w.heap.size t st) (hU:UOk w0 w) (hcs:checkP t=0) (hh:highB t=false) (hn:(⟨n.toArray⟩:ByteArray)=nb) (hm:(⟨m.toArray⟩:ByteArray)=mb) (hq:ts.length=q) (hr:ruleT t = .ok (.mk k n m b v ts)) :
  Calls Tryd.prog 9 #[valT t st] w fun e w'=>∃ A c,e = .returned (.tuple #[.agg #[.int .i64 k,.string nb,.string mb,.int .u64 b,.int .i64 v,.slice A q c],.nilIface])∧TOwn w' (.mk k n m b v ts) (.slice A q c) w.heap.size w'.heap.size∧Below w.heap.size w w':=by
 refine (Rule_main h1 hU hcs).mono ?_
 rintro e w' (⟨h,_⟩ | ⟨_,hb,h⟩)
 ·rw [hh] at h;cases h
 ·rw [hr] at h
  obtain ⟨sg,rfl,ho⟩:=h
  obtain ⟨_,_,_,A,c,hs,_⟩:=TOwn.iff.1 ho
  change sg = .slice A ts.length c at hs
  rw [hq] at hs
  subst hs
  exact ⟨A,c,by rw [valT_mk hn hm],ho,hb⟩
theorem Rule_badL {w0 w:World} {t g:Tm} {st:Value} (h1:TAt w w.heap.size t st) (hU:UOk w0 w) (hcs:checkP t=0) (hh:highB t=false) (hr:ruleT t = .error g) :
  Calls Tryd.prog 9 #[valT t st] w fun e w'=>∃ bb,e = .returned (.tuple #[zeroTV,.iface 82 (.pointer (some ⟨bb,0,none⟩))])∧BallAt w' bb g∧Below w.heap.size w w':=by
 refine (Rule_main h1 hU hcs).mono ?_
 rintro e w' (⟨h,_⟩ | ⟨_,hb,h⟩)
 ·rw [hh] at h;cases h
 ·rw [hr] at h
  obtain ⟨bb,rfl,hball⟩:=h
  exact ⟨bb,rfl,hball,hb⟩
theorem Body_okL {w0 w:World} {t f d:Tm} {st sf sd:Value} {nx n' k v b:Int} {n m:List UInt8} {ts:List Tm} {nb mb:ByteArray} {q:Nat} (h1:TAt w w.heap.size t st) (h2:TAt w w.heap.size f sf) (h3:TAt w w.heap.size d sd) (hU:UOk w0 w) (hcs:checksP [t,f,d]=0) (hc:0≤nx∧nx≤4611686018427387904) (hn:(⟨n.toArray⟩:ByteArray)=nb) (hm:(⟨m.toArray⟩:ByteArray)=mb) (hq:ts.length=q) (hr:bodyT t f d nx = .ok (.mk k n m b v ts,n')) :
  Calls Tryd.prog 16 #[valT t st,valT f sf,valT d sd,.int .i64 nx] w fun e w'=>∃ A c,e = .returned (.tuple #[.agg #[.int .i64 k,.string nb,.string mb,.int .u64 b,.int .i64 v,.slice A q c],.int .i64 n',.nilIface])∧TOwn w' (.mk k n m b v ts) (.slice A q c) w.heap.size w'.heap.size∧Below w.heap.size w w':=by
 refine (Body_main h1 h2 h3 hU hcs hc).mono ?_
 rintro e w' ⟨hb,h⟩
 rw [hr] at h
 obtain ⟨sg,rfl,ho⟩:=h
 obtain ⟨_,_,_,A,c,hs,_⟩:=TOwn.iff.1 ho
 change sg = .slice A ts.length c at hs
 rw [hq] at hs
 subst hs
 exact ⟨A,c,by rw [valT_mk hn hm],ho,hb⟩
theorem TOwn.new {w:World} {t:Tm} {sl:Value} {lo:Nat} (h:TOwn w t sl lo w.heap.size):TAt w w.heap.size t sl:=(TOwn.atP t h).wide (fun b hb=>hb.2)
theorem aw1:ruleT (cmpT [45,45,62] [(atomT [97]),(cmpT [44] [(atomT [98]),(atomT [99])])]) = .ok (cmpT [58,45] [(cmpT [97] [(varT 0),(varT 1)]),(cmpT [44] [(cmpT [98] [(varT 0),(varT 2)]),(cmpT [99] [(varT 2),(varT 1)])])]):=by rfl
theorem aw2:ruleT (cmpT [45,45,62] [(varT 0),(atomT [98])]) = .error (atomT sInst):=by rfl
theorem aw3:bodyT (cmpT [46] [(atomT [120]),(atomT [91,93])]) (varT 4) (varT 5) 6 = .ok ((cmpT [61] [(varT 4),(cmpT [46] [(atomT [120]),(varT 5)])]),6):=by rfl
theorem awc1:checkP (cmpT [45,45,62] [(atomT [97]),(cmpT [44] [(atomT [98]),(atomT [99])])])=0:=by decide +kernel
theorem awc2:checkP (cmpT [45,45,62] [(varT 0),(atomT [98])])=0:=by decide +kernel
theorem awc3:checksP [(cmpT [46] [(atomT [120]),(atomT [91,93])]),varT 4,varT 5]=0:=by decide +kernel
theorem awh1:highB (cmpT [45,45,62] [(atomT [97]),(cmpT [44] [(atomT [98]),(atomT [99])])])=false:=by decide +kernel
theorem awh2:highB (cmpT [45,45,62] [(varT 0),(atomT [98])])=false:=by decide +kernel
set_option maxRecDepth 100000 in
set_option maxHeartbeats 16000000 in
theorem awake_any {w0 w:World} (hU:UOk w0 w):Calls Tryd.prog 7 #[] w fun e w'=>e = .returned (.bool true)∧Below w.heap.size w w':=by
 have HU:=Lib.hid hU
 have KK:=Lib.hid (Below.refl w.heap.size w)
 clear hU
 go_enter Tryd.func7,Tryd.ntmps7
 go_wp2_with fail
 (with_reducible refine (latom_any _ _).mono ?_)
 rintro e v1 ⟨rfl,hb⟩
 replace KK:=Lib.hid (KK.out.trans ((hb).mono KK.out.size))
 clear hb
 go_wp2_with fail
 (with_reducible refine (latom_any _ _).mono ?_)
 rintro e v2 ⟨rfl,hb⟩
 replace KK:=Lib.hid (KK.out.trans ((hb).mono KK.out.size))
 clear hb
 go_wp2_with fail
 (with_reducible refine (latom_any _ _).mono ?_)
 rintro e v3 ⟨rfl,hb⟩
 replace KK:=Lib.hid (KK.out.trans ((hb).mono KK.out.size))
 clear hb
 go_wp2_with fail
 have hbA:Below v3.heap.size v3 (v3.alloc (.cells #[.int .i64 2,.string ⟨#[98]⟩,.string ⟨#[]⟩,.int .u64 0,.int .i64 0,.slice none 0 0,.int .i64 2,.string ⟨#[99]⟩,.string ⟨#[]⟩,.int .u64 0,.int .i64 0,.slice none 0 0] 25)):=(Below.refl _ _).alloc (Nat.le_refl _) _
 have hbu:=built (w:=v3) (P:=fun b=>b<v3.heap.size) (s:=[44]) (n:=2) (cs:=#[.int .i64 2,.string ⟨#[98]⟩,.string ⟨#[]⟩,.int .u64 0,.int .i64 0,.slice none 0 0,.int .i64 2,.string ⟨#[99]⟩,.string ⟨#[]⟩,.int .u64 0,.int .i64 0,.slice none 0 0]) (ps:=[((atomT [98]),Value.slice none 0 0),((atomT [99]),Value.slice none 0 0)]) rfl rfl (mem2 (atom_at _ _ (by decide)) (atom_at _ _ (by decide))) (fun b hb=>hb) (by unfold maxArgs;omega) (by decide)
 have HBA:=Lib.hid (And.intro hbA (And.intro hbu (show (v3.alloc (.cells #[.int .i64 2,.string ⟨#[98]⟩,.string ⟨#[]⟩,.int .u64 0,.int .i64 0,.slice none 0 0,.int .i64 2,.string ⟨#[99]⟩,.string ⟨#[]⟩,.int .u64 0,.int .i64 0,.slice none 0 0] 25)).heap.size=v3.heap.size+1 by simp)))
 clear hbA hbu
 replace KK:=Lib.hid (KK.out.trans ((HBA.out.1).mono KK.out.size))
 generalize (v3.alloc (.cells #[.int .i64 2,.string ⟨#[98]⟩,.string ⟨#[]⟩,.int .u64 0,.int .i64 0,.slice none 0 0,.int .i64 2,.string ⟨#[99]⟩,.string ⟨#[]⟩,.int .u64 0,.int .i64 0,.slice none 0 0] 25))=v4 at *
 generalize v3.heap.size=q1 at *
 (with_reducible refine (lf_any _ _ _ _ _).mono ?_)
 rintro e v5 ⟨rfl,hb⟩
 have HT1:=Lib.hid (show TAt v5 v5.heap.size (cmpT [44] [(atomT [98]),(atomT [99])]) (.slice (some ⟨q1,0,none⟩) 2 2) from TAt.any HBA.out.2.1 (fun b hb=>by have:=HBA.out.2.2;rcases hb with hb | hb <;> omega) hb)
 replace KK:=Lib.hid (KK.out.trans ((hb).mono KK.out.size))
 clear hb HBA
 go_wp2_with fail
 have hbA:Below v5.heap.size v5 (v5.alloc (.cells #[.int .i64 2,.string ⟨#[97]⟩,.string ⟨#[]⟩,.int .u64 0,.int .i64 0,.slice none 0 0,.int .i64 5,.string ⟨#[44]⟩,.string ⟨#[]⟩,.int .u64 0,.int .i64 0,.slice (some ⟨q1,0,none⟩) 2 2] 25)):=(Below.refl _ _).alloc (Nat.le_refl _) _
 have hbu:=built (w:=v5) (P:=fun b=>b<v5.heap.size) (s:=[45,45,62]) (n:=2) (cs:=#[.int .i64 2,.string ⟨#[97]⟩,.string ⟨#[]⟩,.int .u64 0,.int .i64 0,.slice none 0 0,.int .i64 5,.string ⟨#[44]⟩,.string ⟨#[]⟩,.int .u64 0,.int .i64 0,.slice (some ⟨q1,0,none⟩) 2 2]) (ps:=[((atomT [97]),Value.slice none 0 0),((cmpT [44] [(atomT [98]),(atomT [99])]),Value.slice (some ⟨q1,0,none⟩) 2 2)]) rfl rfl (mem2 (atom_at _ _ (by decide)) (HT1.out)) (fun b hb=>hb) (by unfold maxArgs;omega) (by decide)
 have HBA:=Lib.hid (And.intro hbA (And.intro hbu (show (v5.alloc (.cells #[.int .i64 2,.string ⟨#[97]⟩,.string ⟨#[]⟩,.int .u64 0,.int .i64 0,.slice none 0 0,.int .i64 5,.string ⟨#[44]⟩,.string ⟨#[]⟩,.int .u64 0,.int .i64 0,.slice (some ⟨q1,0,none⟩) 2 2] 25)).heap.size=v5.heap.size+1 by simp)))
 clear hbA hbu
 clear HT1
 replace KK:=Lib.hid (KK.out.trans ((HBA.out.1).mono KK.out.size))
 generalize (v5.alloc (.cells #[.int .i64 2,.string ⟨#[97]⟩,.string ⟨#[]⟩,.int .u64 0,.int .i64 0,.slice none 0 0,.int .i64 5,.string ⟨#[44]⟩,.string ⟨#[]⟩,.int .u64 0,.int .i64 0,.slice (some ⟨q1,0,none⟩) 2 2] 25))=v6 at *
 generalize v5.heap.size=q2 at *
 (with_reducible refine (lf_any _ _ _ _ _).mono ?_)
 rintro e v7 ⟨rfl,hb⟩
 have HT2:=Lib.hid (show TAt v7 v7.heap.size (cmpT [45,45,62] [(atomT [97]),(cmpT [44] [(atomT [98]),(atomT [99])])]) (.slice (some ⟨q2,0,none⟩) 2 2) from TAt.any HBA.out.2.1 (fun b hb=>by have:=HBA.out.2.2;rcases hb with hb | hb <;> omega) hb)
 replace KK:=Lib.hid (KK.out.trans ((hb).mono KK.out.size))
 clear hb HBA
 go_wp2_with fail
 have hR:=Rule_okL (w0:=w0) (nb:=⟨#[58,45]⟩) (mb:=⟨#[]⟩) (q:=2) HT2.out (HU.out.below KK.out) awc1 awh1 rfl rfl rfl aw1
 rw [show valT (cmpT [45,45,62] [(atomT [97]),(cmpT [44] [(atomT [98]),(atomT [99])])]) (.slice (some ⟨q2,0,none⟩) 2 2) = .agg #[.int .i64 5,.string ⟨#[45,45,62]⟩,.string ⟨#[]⟩,.int .u64 0,.int .i64 0,.slice (some ⟨q2,0,none⟩) 2 2] from rfl] at hR
 (with_reducible refine hR.mono ?_)
 rintro e x1 ⟨A1,c1,rfl,ho,hb⟩
 have HA1:=Lib.hid (show TAt x1 x1.heap.size (cmpT [58,45] [(cmpT [97] [(varT 0),(varT 1)]),(cmpT [44] [(cmpT [98] [(varT 0),(varT 2)]),(cmpT [99] [(varT 2),(varT 1)])])]) (.slice A1 2 c1) from TOwn.new ho)
 clear hR ho HT2
 replace KK:=Lib.hid (KK.out.trans ((hb).mono KK.out.size))
 clear hb
 go_upto_region 2 with fail
 have hbA:Below x1.heap.size x1 (x1.alloc (.cells #[.int .i64 5,.string ⟨#[58,45]⟩,.string ⟨#[]⟩,.int .u64 0,.int .i64 0,.slice A1 2 c1] 25)):=(Below.refl _ _).alloc (Nat.le_refl _) _
 have HX1:=Lib.hid (show TBox (x1.alloc (.cells #[.int .i64 5,.string ⟨#[58,45]⟩,.string ⟨#[]⟩,.int .u64 0,.int .i64 0,.slice A1 2 c1] 25)) x1.heap.size (cmpT [58,45] [(cmpT [97] [(varT 0),(varT 1)]),(cmpT [44] [(cmpT [98] [(varT 0),(varT 2)]),(cmpT [99] [(varT 2),(varT 1)])])]) (.slice A1 2 c1) from TBox.new x1 rfl rfl)
 replace HA1:=Lib.hid (TAt.any HA1.out (fun b hb=>hb) hbA)
 replace KK:=Lib.hid (KK.out.trans ((hbA).mono KK.out.size))
 clear hbA
 generalize (x1.alloc (.cells #[.int .i64 5,.string ⟨#[58,45]⟩,.string ⟨#[]⟩,.int .u64 0,.int .i64 0,.slice A1 2 c1] 25))=v8 at *
 generalize x1.heap.size=g1 at *
 go_wp2_with fail
 (with_reducible refine (lv_any _ _).mono ?_)
 rintro e v9 ⟨rfl,hb⟩
 replace HA1:=Lib.hid (TAt.any HA1.out (fun b hb=>hb) hb)
 replace HX1:=Lib.hid (HX1.out.below (hb))
 replace KK:=Lib.hid (KK.out.trans ((hb).mono KK.out.size))
 clear hb
 go_wp2_with fail
 (with_reducible refine (latom_any _ _).mono ?_)
 rintro e v10 ⟨rfl,hb⟩
 replace HA1:=Lib.hid (TAt.any HA1.out (fun b hb=>hb) hb)
 replace HX1:=Lib.hid (HX1.out.below (hb))
 replace KK:=Lib.hid (KK.out.trans ((hb).mono KK.out.size))
 clear hb
 go_wp2_with fail
 have hbA:Below v10.heap.size v10 (v10.alloc (.cells #[.int .i64 1,.string ⟨#[]⟩,.string ⟨#[]⟩,.int .u64 0,.int .i64 0,.slice none 0 0,.int .i64 2,.string ⟨#[98]⟩,.string ⟨#[]⟩,.int .u64 0,.int .i64 0,.slice none 0 0] 25)):=(Below.refl _ _).alloc (Nat.le_refl _) _
 have hbu:=built (w:=v10) (P:=fun b=>b<v10.heap.size) (s:=[45,45,62]) (n:=2) (cs:=#[.int .i64 1,.string ⟨#[]⟩,.string ⟨#[]⟩,.int .u64 0,.int .i64 0,.slice none 0 0,.int .i64 2,.string ⟨#[98]⟩,.string ⟨#[]⟩,.int .u64 0,.int .i64 0,.slice none 0 0]) (ps:=[((varT 0),Value.slice none 0 0),((atomT [98]),Value.slice none 0 0)]) rfl rfl (mem2 (var_at _ _ ⟨by omega,by omega⟩) (atom_at _ _ (by decide))) (fun b hb=>hb) (by unfold maxArgs;omega) (by decide)
 have HBA:=Lib.hid (And.intro hbA (And.intro hbu (show (v10.alloc (.cells #[.int .i64 1,.string ⟨#[]⟩,.string ⟨#[]⟩,.int .u64 0,.int .i64 0,.slice none 0 0,.int .i64 2,.string ⟨#[98]⟩,.string ⟨#[]⟩,.int .u64 0,.int .i64 0,.slice none 0 0] 25)).heap.size=v10.heap.size+1 by simp)))
 clear hbA hbu
 replace HA1:=Lib.hid (TAt.any HA1.out (fun b hb=>hb) HBA.out.1)
 replace HX1:=Lib.hid (HX1.out.below (HBA.out.1))
 replace KK:=Lib.hid (KK.out.trans ((HBA.out.1).mono KK.out.size))
 generalize (v10.alloc (.cells #[.int .i64 1,.string ⟨#[]⟩,.string ⟨#[]⟩,.int .u64 0,.int .i64 0,.slice none 0 0,.int .i64 2,.string ⟨#[98]⟩,.string ⟨#[]⟩,.int .u64 0,.int .i64 0,.slice none 0 0] 25))=v11 at *
 generalize v10.heap.size=q3 at *
 (with_reducible refine (lf_any _ _ _ _ _).mono ?_)
 rintro e v12 ⟨rfl,hb⟩
 have HT3:=Lib.hid (show TAt v12 v12.heap.size (cmpT [45,45,62] [(varT 0),(atomT [98])]) (.slice (some ⟨q3,0,none⟩) 2 2) from TAt.any HBA.out.2.1 (fun b hb=>by have:=HBA.out.2.2;rcases hb with hb | hb <;> omega) hb)
 replace HA1:=Lib.hid (TAt.any HA1.out (fun b hb=>hb) hb)
 replace HX1:=Lib.hid (HX1.out.below (hb))
 replace KK:=Lib.hid (KK.out.trans ((hb).mono KK.out.size))
 clear hb HBA
 go_wp2_with fail
 have hR:=Rule_badL (w0:=w0) HT3.out (HU.out.below KK.out) awc2 awh2 aw2
 rw [show valT (cmpT [45,45,62] [(varT 0),(atomT [98])]) (.slice (some ⟨q3,0,none⟩) 2 2) = .agg #[.int .i64 5,.string ⟨#[45,45,62]⟩,.string ⟨#[]⟩,.int .u64 0,.int .i64 0,.slice (some ⟨q3,0,none⟩) 2 2] from rfl,show zeroTV = .agg #[.int .i64 0,.string ⟨#[]⟩,.string ⟨#[]⟩,.int .u64 0,.int .i64 0,.slice none 0 0] from rfl] at hR
 (with_reducible refine hR.mono ?_)
 rintro e x2 ⟨bb,rfl,hball,hb⟩
 clear hR hball HT3
 replace HA1:=Lib.hid (TAt.any HA1.out (fun b hb=>hb) hb)
 replace HX1:=Lib.hid (HX1.out.below (hb))
 replace KK:=Lib.hid (KK.out.trans ((hb).mono KK.out.size))
 clear hb
 go_upto_region 3 with fail
 have hbA:Below x2.heap.size x2 (x2.alloc (.cells #[.int .i64 0,.string ⟨#[]⟩,.string ⟨#[]⟩,.int .u64 0,.int .i64 0,.slice none 0 0] 25)):=(Below.refl _ _).alloc (Nat.le_refl _) _
 replace HA1:=Lib.hid (TAt.any HA1.out (fun b hb=>hb) hbA)
 replace HX1:=Lib.hid (HX1.out.below (hbA))
 replace KK:=Lib.hid (KK.out.trans ((hbA).mono KK.out.size))
 clear hbA
 generalize (x2.alloc (.cells #[.int .i64 0,.string ⟨#[]⟩,.string ⟨#[]⟩,.int .u64 0,.int .i64 0,.slice none 0 0] 25))=x3 at *
 go_wp2_with fail
 (with_reducible refine (latom_any _ _).mono ?_)
 rintro e v13 ⟨rfl,hb⟩
 replace HA1:=Lib.hid (TAt.any HA1.out (fun b hb=>hb) hb)
 replace HX1:=Lib.hid (HX1.out.below (hb))
 replace KK:=Lib.hid (KK.out.trans ((hb).mono KK.out.size))
 clear hb
 go_wp2_with fail
 (with_reducible refine (latom_any _ _).mono ?_)
 rintro e v14 ⟨rfl,hb⟩
 replace HA1:=Lib.hid (TAt.any HA1.out (fun b hb=>hb) hb)
 replace HX1:=Lib.hid (HX1.out.below (hb))
 replace KK:=Lib.hid (KK.out.trans ((hb).mono KK.out.size))
 clear hb
 go_wp2_with fail
 have hbA:Below v14.heap.size v14 (v14.alloc (.cells #[.int .i64 2,.string ⟨#[120]⟩,.string ⟨#[]⟩,.int .u64 0,.int .i64 0,.slice none 0 0,.int .i64 2,.string ⟨#[91,93]⟩,.string ⟨#[]⟩,.int .u64 0,.int .i64 0,.slice none 0 0] 25)):=(Below.refl _ _).alloc (Nat.le_refl _) _
 have hbu:=built (w:=v14) (P:=fun b=>b<v14.heap.size) (s:=[46]) (n:=2) (cs:=#[.int .i64 2,.string ⟨#[120]⟩,.string ⟨#[]⟩,.int .u64 0,.int .i64 0,.slice none 0 0,.int .i64 2,.string ⟨#[91,93]⟩,.string ⟨#[]⟩,.int .u64 0,.int .i64 0,.slice none 0 0]) (ps:=[((atomT [120]),Value.slice none 0 0),((atomT [91,93]),Value.slice none 0 0)]) rfl rfl (mem2 (atom_at _ _ (by decide)) (atom_at _ _ (by decide))) (fun b hb=>hb) (by unfold maxArgs;omega) (by decide)
 have HBA:=Lib.hid (And.intro hbA (And.intro hbu (show (v14.alloc (.cells #[.int .i64 2,.string ⟨#[120]⟩,.string ⟨#[]⟩,.int .u64 0,.int .i64 0,.slice none 0 0,.int .i64 2,.string ⟨#[91,93]⟩,.string ⟨#[]⟩,.int .u64 0,.int .i64 0,.slice none 0 0] 25)).heap.size=v14.heap.size+1 by simp)))
 clear hbA hbu
 replace HA1:=Lib.hid (TAt.any HA1.out (fun b hb=>hb) HBA.out.1)
 replace HX1:=Lib.hid (HX1.out.below (HBA.out.1))
 replace KK:=Lib.hid (KK.out.trans ((HBA.out.1).mono KK.out.size))
 generalize (v14.alloc (.cells #[.int .i64 2,.string ⟨#[120]⟩,.string ⟨#[]⟩,.int .u64 0,.int .i64 0,.slice none 0 0,.int .i64 2,.string ⟨#[91,93]⟩,.string ⟨#[]⟩,.int .u64 0,.int .i64 0,.slice none 0 0] 25))=v15 at *
 generalize v14.heap.size=q4 at *
 (with_reducible refine (lf_any _ _ _ _ _).mono ?_)
 rintro e v16 ⟨rfl,hb⟩
 have HT4:=Lib.hid (show TAt v16 v16.heap.size (cmpT [46] [(atomT [120]),(atomT [91,93])]) (.slice (some ⟨q4,0,none⟩) 2 2) from TAt.any HBA.out.2.1 (fun b hb=>by have:=HBA.out.2.2;rcases hb with hb | hb <;> omega) hb)
 replace HA1:=Lib.hid (TAt.any HA1.out (fun b hb=>hb) hb)
 replace HX1:=Lib.hid (HX1.out.below (hb))
 replace KK:=Lib.hid (KK.out.trans ((hb).mono KK.out.size))
 clear hb HBA
 go_wp2_with fail
 (with_reducible refine (lv_any _ _).mono ?_)
 rintro e v17 ⟨rfl,hb⟩
 replace HA1:=Lib.hid (TAt.any HA1.out (fun b hb=>hb) hb)
 replace HT4:=Lib.hid (TAt.any HT4.out (fun b hb=>hb) hb)
 replace HX1:=Lib.hid (HX1.out.below (hb))
 replace KK:=Lib.hid (KK.out.trans ((hb).mono KK.out.size))
 clear hb
 go_wp2_with fail
 (with_reducible refine (lv_any _ _).mono ?_)
 rintro e v18 ⟨rfl,hb⟩
 replace HA1:=Lib.hid (TAt.any HA1.out (fun b hb=>hb) hb)
 replace HT4:=Lib.hid (TAt.any HT4.out (fun b hb=>hb) hb)
 replace HX1:=Lib.hid (HX1.out.below (hb))
 replace KK:=Lib.hid (KK.out.trans ((hb).mono KK.out.size))
 clear hb
 go_wp2_with fail
 have hR:=Body_okL (w0:=w0) (nb:=⟨#[61]⟩) (mb:=⟨#[]⟩) (q:=2) HT4.out (var_at _ _ (n:=4) ⟨by omega,by omega⟩) (var_at _ _ (n:=5) ⟨by omega,by omega⟩) (HU.out.below KK.out) awc3 ⟨by omega,by omega⟩ rfl rfl rfl aw3
 rw [show valT (cmpT [46] [(atomT [120]),(atomT [91,93])]) (.slice (some ⟨q4,0,none⟩) 2 2) = .agg #[.int .i64 5,.string ⟨#[46]⟩,.string ⟨#[]⟩,.int .u64 0,.int .i64 0,.slice (some ⟨q4,0,none⟩) 2 2] from rfl,show valT (varT 4) (.slice none 0 0) = .agg #[.int .i64 1,.string ⟨#[]⟩,.string ⟨#[]⟩,.int .u64 0,.int .i64 4,.slice none 0 0] from rfl,show valT (varT 5) (.slice none 0 0) = .agg #[.int .i64 1,.string ⟨#[]⟩,.string ⟨#[]⟩,.int .u64 0,.int .i64 5,.slice none 0 0] from rfl] at hR
 (with_reducible refine hR.mono ?_)
 rintro e x4 ⟨A5,c5,rfl,ho,hb⟩
 have HA5:=Lib.hid (show TAt x4 x4.heap.size (cmpT [61] [(varT 4),(cmpT [46] [(atomT [120]),(varT 5)])]) (.slice A5 2 c5) from TOwn.new ho)
 clear hR ho HT4
 replace HA1:=Lib.hid (TAt.any HA1.out (fun b hb=>hb) hb)
 replace HX1:=Lib.hid (HX1.out.below (hb))
 replace KK:=Lib.hid (KK.out.trans ((hb).mono KK.out.size))
 clear hb
 go_upto_region 4 with fail
 have hbA:Below x4.heap.size x4 (x4.alloc (.cells #[.int .i64 5,.string ⟨#[61]⟩,.string ⟨#[]⟩,.int .u64 0,.int .i64 0,.slice A5 2 c5] 25)):=(Below.refl _ _).alloc (Nat.le_refl _) _
 have HX5:=Lib.hid (show TBox (x4.alloc (.cells #[.int .i64 5,.string ⟨#[61]⟩,.string ⟨#[]⟩,.int .u64 0,.int .i64 0,.slice A5 2 c5] 25)) x4.heap.size (cmpT [61] [(varT 4),(cmpT [46] [(atomT [120]),(varT 5)])]) (.slice A5 2 c5) from TBox.new x4 rfl rfl)
 replace HA1:=Lib.hid (TAt.any HA1.out (fun b hb=>hb) hbA)
 replace HA5:=Lib.hid (TAt.any HA5.out (fun b hb=>hb) hbA)
 replace HX1:=Lib.hid (HX1.out.below (hbA))
 replace KK:=Lib.hid (KK.out.trans ((hbA).mono KK.out.size))
 clear hbA
 generalize (x4.alloc (.cells #[.int .i64 5,.string ⟨#[61]⟩,.string ⟨#[]⟩,.int .u64 0,.int .i64 0,.slice A5 2 c5] 25))=v19 at *
 generalize x4.heap.size=g5 at *
 have HSS:=Lib.hid (show ∀ z,Below v19.heap.size v19 z→(z.cell? ⟨g1,0,none⟩=some (.int .i64 5)∧z.cell? ⟨g1,1,none⟩=some (.string ⟨#[58,45]⟩)∧z.cell? ⟨g1,2,none⟩=some (.string ⟨#[]⟩)∧z.cell? ⟨g1,3,none⟩=some (.int .u64 0)∧z.cell? ⟨g1,4,none⟩=some (.int .i64 0)∧z.cell? ⟨g1,5,none⟩=some (.slice A1 2 c1)) from fun z hb=>(HX1.out.below hb).cells rfl rfl)
 refine wp_region_wait (fun z=>(z.cell? ⟨g1,0,none⟩=some (.int .i64 5)∧z.cell? ⟨g1,1,none⟩=some (.string ⟨#[58,45]⟩)∧z.cell? ⟨g1,2,none⟩=some (.string ⟨#[]⟩)∧z.cell? ⟨g1,3,none⟩=some (.int .u64 0)∧z.cell? ⟨g1,4,none⟩=some (.int .i64 0)∧z.cell? ⟨g1,5,none⟩=some (.slice A1 2 c1))) 17 (by kernel_rfl) ?_
 change wpAnyW _ _ _ _ _ _ _ _ _ v19.drew
 have hbd:=below_drew' v19
 have KB:=Lib.hid (show Below v19.heap.size v19 v19.drew from hbd)
 replace HA1:=Lib.hid (TAt.any HA1.out (fun b hb=>hb) hbd)
 replace HA5:=Lib.hid (TAt.any HA5.out (fun b hb=>hb) hbd)
 replace HX1:=Lib.hid (HX1.out.below (hbd))
 replace HX5:=Lib.hid (HX5.out.below (hbd))
 replace KK:=Lib.hid (KK.out.trans ((hbd).mono KK.out.size))
 clear hbd
 generalize v19.drew=v20 at *
 refine wpAnyW_take 17 (i:=0) (v:=.agg #[.int .i64 5,.string ⟨#[58,45]⟩,.string ⟨#[]⟩,.int .u64 0,.int .i64 0,.slice A1 2 c1]) rfl (by kernel_rfl) (by kernel_rfl) (by kernel_rfl) (by kernel_rfl) (fun _ _ _ h=>h) (Or.inl ⟨by rfl,?_⟩) (HSS.out _ KB.out) ?_
 ·intro w5 hSw
  obtain ⟨p0,p1,p2,p3,p4,p5⟩:=hSw
  go_simp
 refine wpAnyW_one (i:=1) (by kernel_rfl) rfl (fun K hK=>?_)
 go_simp
 (with_reducible refine (lv_any _ _).mono ?_)
 rintro e v21 ⟨rfl,hb⟩
 replace HA1:=Lib.hid (TAt.any HA1.out (fun b hb=>hb) hb)
 replace HA5:=Lib.hid (TAt.any HA5.out (fun b hb=>hb) hb)
 replace HX1:=Lib.hid (HX1.out.below (hb))
 replace HX5:=Lib.hid (HX5.out.below (hb))
 replace KK:=Lib.hid (KK.out.trans ((hb).mono KK.out.size))
 replace KB:=Lib.hid (KB.out.trans ((hb).mono KB.out.size))
 clear hb
 refine hK.out _ _ (fun _=>HSS.out _ KB.out) ?_
 refine wpAnyW_one (i:=2) (by kernel_rfl) rfl (fun K hK=>?_)
 go_simp
 (with_reducible refine (lv_any _ _).mono ?_)
 rintro e v22 ⟨rfl,hb⟩
 replace HA1:=Lib.hid (TAt.any HA1.out (fun b hb=>hb) hb)
 replace HA5:=Lib.hid (TAt.any HA5.out (fun b hb=>hb) hb)
 replace HX1:=Lib.hid (HX1.out.below (hb))
 replace HX5:=Lib.hid (HX5.out.below (hb))
 replace KK:=Lib.hid (KK.out.trans ((hb).mono KK.out.size))
 replace KB:=Lib.hid (KB.out.trans ((hb).mono KB.out.size))
 clear hb
 refine hK.out _ _ (fun _=>HSS.out _ KB.out) ?_
 refine wpAnyW_one (i:=3) (by kernel_rfl) rfl (fun K hK=>?_)
 go_simp
 have hbA:Below v22.heap.size v22 (v22.alloc (.cells #[.int .i64 1,.string ⟨#[]⟩,.string ⟨#[]⟩,.int .u64 0,.int .i64 0,.slice none 0 0,.int .i64 1,.string ⟨#[]⟩,.string ⟨#[]⟩,.int .u64 0,.int .i64 1,.slice none 0 0] 25)):=(Below.refl _ _).alloc (Nat.le_refl _) _
 have hbu:=built (w:=v22) (P:=fun b=>b<v22.heap.size) (s:=[97]) (n:=2) (cs:=#[.int .i64 1,.string ⟨#[]⟩,.string ⟨#[]⟩,.int .u64 0,.int .i64 0,.slice none 0 0,.int .i64 1,.string ⟨#[]⟩,.string ⟨#[]⟩,.int .u64 0,.int .i64 1,.slice none 0 0]) (ps:=[((varT 0),Value.slice none 0 0),((varT 1),Value.slice none 0 0)]) rfl rfl (mem2 (var_at _ _ ⟨by omega,by omega⟩) (var_at _ _ ⟨by omega,by omega⟩)) (fun b hb=>hb) (by unfold maxArgs;omega) (by decide)
 have HBA:=Lib.hid (And.intro hbA (And.intro hbu (show (v22.alloc (.cells #[.int .i64 1,.string ⟨#[]⟩,.string ⟨#[]⟩,.int .u64 0,.int .i64 0,.slice none 0 0,.int .i64 1,.string ⟨#[]⟩,.string ⟨#[]⟩,.int .u64 0,.int .i64 1,.slice none 0 0] 25)).heap.size=v22.heap.size+1 by simp)))
 clear hbA hbu
 replace HA1:=Lib.hid (TAt.any HA1.out (fun b hb=>hb) HBA.out.1)
 replace HA5:=Lib.hid (TAt.any HA5.out (fun b hb=>hb) HBA.out.1)
 replace HX1:=Lib.hid (HX1.out.below (HBA.out.1))
 replace HX5:=Lib.hid (HX5.out.below (HBA.out.1))
 replace KK:=Lib.hid (KK.out.trans ((HBA.out.1).mono KK.out.size))
 replace KB:=Lib.hid (KB.out.trans ((HBA.out.1).mono KB.out.size))
 refine hK.out _ _ (fun _=>HSS.out _ KB.out) ?_
 generalize (v22.alloc (.cells #[.int .i64 1,.string ⟨#[]⟩,.string ⟨#[]⟩,.int .u64 0,.int .i64 0,.slice none 0 0,.int .i64 1,.string ⟨#[]⟩,.string ⟨#[]⟩,.int .u64 0,.int .i64 1,.slice none 0 0] 25))=v23 at *
 generalize v22.heap.size=q5 at *
 refine wpAnyW_one (i:=4) (by kernel_rfl) rfl (fun K hK=>?_)
 go_simp
 (with_reducible refine (lf_any _ _ _ _ _).mono ?_)
 rintro e v24 ⟨rfl,hb⟩
 have HT5:=Lib.hid (show TAt v24 v24.heap.size (cmpT [97] [(varT 0),(varT 1)]) (.slice (some ⟨q5,0,none⟩) 2 2) from TAt.any HBA.out.2.1 (fun b hb=>by have:=HBA.out.2.2;rcases hb with hb | hb <;> omega) hb)
 replace HA1:=Lib.hid (TAt.any HA1.out (fun b hb=>hb) hb)
 replace HA5:=Lib.hid (TAt.any HA5.out (fun b hb=>hb) hb)
 replace HX1:=Lib.hid (HX1.out.below (hb))
 replace HX5:=Lib.hid (HX5.out.below (hb))
 replace KK:=Lib.hid (KK.out.trans ((hb).mono KK.out.size))
 replace KB:=Lib.hid (KB.out.trans ((hb).mono KB.out.size))
 clear hb HBA
 refine hK.out _ _ (fun _=>HSS.out _ KB.out) ?_
 refine wpAnyW_one (i:=5) (by kernel_rfl) rfl (fun K hK=>?_)
 go_simp
 (with_reducible refine (lv_any _ _).mono ?_)
 rintro e v25 ⟨rfl,hb⟩
 replace HA1:=Lib.hid (TAt.any HA1.out (fun b hb=>hb) hb)
 replace HA5:=Lib.hid (TAt.any HA5.out (fun b hb=>hb) hb)
 replace HT5:=Lib.hid (TAt.any HT5.out (fun b hb=>hb) hb)
 replace HX1:=Lib.hid (HX1.out.below (hb))
 replace HX5:=Lib.hid (HX5.out.below (hb))
 replace KK:=Lib.hid (KK.out.trans ((hb).mono KK.out.size))
 replace KB:=Lib.hid (KB.out.trans ((hb).mono KB.out.size))
 clear hb
 refine hK.out _ _ (fun _=>HSS.out _ KB.out) ?_
 refine wpAnyW_one (i:=6) (by kernel_rfl) rfl (fun K hK=>?_)
 go_simp
 (with_reducible refine (lv_any _ _).mono ?_)
 rintro e v26 ⟨rfl,hb⟩
 replace HA1:=Lib.hid (TAt.any HA1.out (fun b hb=>hb) hb)
 replace HA5:=Lib.hid (TAt.any HA5.out (fun b hb=>hb) hb)
 replace HT5:=Lib.hid (TAt.any HT5.out (fun b hb=>hb) hb)
 replace HX1:=Lib.hid (HX1.out.below (hb))
 replace HX5:=Lib.hid (HX5.out.below (hb))
 replace KK:=Lib.hid (KK.out.trans ((hb).mono KK.out.size))
 replace KB:=Lib.hid (KB.out.trans ((hb).mono KB.out.size))
 clear hb
 refine hK.out _ _ (fun _=>HSS.out _ KB.out) ?_
 refine wpAnyW_one (i:=7) (by kernel_rfl) rfl (fun K hK=>?_)
 go_simp
 have hbA:Below v26.heap.size v26 (v26.alloc (.cells #[.int .i64 1,.string ⟨#[]⟩,.string ⟨#[]⟩,.int .u64 0,.int .i64 0,.slice none 0 0,.int .i64 1,.string ⟨#[]⟩,.string ⟨#[]⟩,.int .u64 0,.int .i64 2,.slice none 0 0] 25)):=(Below.refl _ _).alloc (Nat.le_refl _) _
 have hbu:=built (w:=v26) (P:=fun b=>b<v26.heap.size) (s:=[98]) (n:=2) (cs:=#[.int .i64 1,.string ⟨#[]⟩,.string ⟨#[]⟩,.int .u64 0,.int .i64 0,.slice none 0 0,.int .i64 1,.string ⟨#[]⟩,.string ⟨#[]⟩,.int .u64 0,.int .i64 2,.slice none 0 0]) (ps:=[((varT 0),Value.slice none 0 0),((varT 2),Value.slice none 0 0)]) rfl rfl (mem2 (var_at _ _ ⟨by omega,by omega⟩) (var_at _ _ ⟨by omega,by omega⟩)) (fun b hb=>hb) (by unfold maxArgs;omega) (by decide)
 have HBA:=Lib.hid (And.intro hbA (And.intro hbu (show (v26.alloc (.cells #[.int .i64 1,.string ⟨#[]⟩,.string ⟨#[]⟩,.int .u64 0,.int .i64 0,.slice none 0 0,.int .i64 1,.string ⟨#[]⟩,.string ⟨#[]⟩,.int .u64 0,.int .i64 2,.slice none 0 0] 25)).heap.size=v26.heap.size+1 by simp)))
 clear hbA hbu
 replace HA1:=Lib.hid (TAt.any HA1.out (fun b hb=>hb) HBA.out.1)
 replace HA5:=Lib.hid (TAt.any HA5.out (fun b hb=>hb) HBA.out.1)
 replace HT5:=Lib.hid (TAt.any HT5.out (fun b hb=>hb) HBA.out.1)
 replace HX1:=Lib.hid (HX1.out.below (HBA.out.1))
 replace HX5:=Lib.hid (HX5.out.below (HBA.out.1))
 replace KK:=Lib.hid (KK.out.trans ((HBA.out.1).mono KK.out.size))
 replace KB:=Lib.hid (KB.out.trans ((HBA.out.1).mono KB.out.size))
 refine hK.out _ _ (fun _=>HSS.out _ KB.out) ?_
 generalize (v26.alloc (.cells #[.int .i64 1,.string ⟨#[]⟩,.string ⟨#[]⟩,.int .u64 0,.int .i64 0,.slice none 0 0,.int .i64 1,.string ⟨#[]⟩,.string ⟨#[]⟩,.int .u64 0,.int .i64 2,.slice none 0 0] 25))=v27 at *
 generalize v26.heap.size=q6 at *
 refine wpAnyW_one (i:=8) (by kernel_rfl) rfl (fun K hK=>?_)
 go_simp
 (with_reducible refine (lf_any _ _ _ _ _).mono ?_)
 rintro e v28 ⟨rfl,hb⟩
 have HT6:=Lib.hid (show TAt v28 v28.heap.size (cmpT [98] [(varT 0),(varT 2)]) (.slice (some ⟨q6,0,none⟩) 2 2) from TAt.any HBA.out.2.1 (fun b hb=>by have:=HBA.out.2.2;rcases hb with hb | hb <;> omega) hb)
 replace HA1:=Lib.hid (TAt.any HA1.out (fun b hb=>hb) hb)
 replace HA5:=Lib.hid (TAt.any HA5.out (fun b hb=>hb) hb)
 replace HT5:=Lib.hid (TAt.any HT5.out (fun b hb=>hb) hb)
 replace HX1:=Lib.hid (HX1.out.below (hb))
 replace HX5:=Lib.hid (HX5.out.below (hb))
 replace KK:=Lib.hid (KK.out.trans ((hb).mono KK.out.size))
 replace KB:=Lib.hid (KB.out.trans ((hb).mono KB.out.size))
 clear hb HBA
 refine hK.out _ _ (fun _=>HSS.out _ KB.out) ?_
 refine wpAnyW_one (i:=9) (by kernel_rfl) rfl (fun K hK=>?_)
 go_simp
 (with_reducible refine (lv_any _ _).mono ?_)
 rintro e v29 ⟨rfl,hb⟩
 replace HA1:=Lib.hid (TAt.any HA1.out (fun b hb=>hb) hb)
 replace HA5:=Lib.hid (TAt.any HA5.out (fun b hb=>hb) hb)
 replace HT5:=Lib.hid (TAt.any HT5.out (fun b hb=>hb) hb)
 replace HT6:=Lib.hid (TAt.any HT6.out (fun b hb=>hb) hb)
 replace HX1:=Lib.hid (HX1.out.below (hb))
 replace HX5:=Lib.hid (HX5.out.below (hb))
 replace KK:=Lib.hid (KK.out.trans ((hb).mono KK.out.size))
 replace KB:=Lib.hid (KB.out.trans ((hb).mono KB.out.size))
 clear hb
 refine hK.out _ _ (fun _=>HSS.out _ KB.out) ?_
 refine wpAnyW_one (i:=10) (by kernel_rfl) rfl (fun K hK=>?_)
 go_simp
 (with_reducible refine (lv_any _ _).mono ?_)
 rintro e v30 ⟨rfl,hb⟩
 replace HA1:=Lib.hid (TAt.any HA1.out (fun b hb=>hb) hb)
 replace HA5:=Lib.hid (TAt.any HA5.out (fun b hb=>hb) hb)
 replace HT5:=Lib.hid (TAt.any HT5.out (fun b hb=>hb) hb)
 replace HT6:=Lib.hid (TAt.any HT6.out (fun b hb=>hb) hb)
 replace HX1:=Lib.hid (HX1.out.below (hb))
 replace HX5:=Lib.hid (HX5.out.below (hb))
 replace KK:=Lib.hid (KK.out.trans ((hb).mono KK.out.size))
 replace KB:=Lib.hid (KB.out.trans ((hb).mono KB.out.size))
 clear hb
 refine hK.out _ _ (fun _=>HSS.out _ KB.out) ?_
 refine wpAnyW_one (i:=11) (by kernel_rfl) rfl (fun K hK=>?_)
 go_simp
 have hbA:Below v30.heap.size v30 (v30.alloc (.cells #[.int .i64 1,.string ⟨#[]⟩,.string ⟨#[]⟩,.int .u64 0,.int .i64 2,.slice none 0 0,.int .i64 1,.string ⟨#[]⟩,.string ⟨#[]⟩,.int .u64 0,.int .i64 1,.slice none 0 0] 25)):=(Below.refl _ _).alloc (Nat.le_refl _) _
 have hbu:=built (w:=v30) (P:=fun b=>b<v30.heap.size) (s:=[99]) (n:=2) (cs:=#[.int .i64 1,.string ⟨#[]⟩,.string ⟨#[]⟩,.int .u64 0,.int .i64 2,.slice none 0 0,.int .i64 1,.string ⟨#[]⟩,.string ⟨#[]⟩,.int .u64 0,.int .i64 1,.slice none 0 0]) (ps:=[((varT 2),Value.slice none 0 0),((varT 1),Value.slice none 0 0)]) rfl rfl (mem2 (var_at _ _ ⟨by omega,by omega⟩) (var_at _ _ ⟨by omega,by omega⟩)) (fun b hb=>hb) (by unfold maxArgs;omega) (by decide)
 have HBA:=Lib.hid (And.intro hbA (And.intro hbu (show (v30.alloc (.cells #[.int .i64 1,.string ⟨#[]⟩,.string ⟨#[]⟩,.int .u64 0,.int .i64 2,.slice none 0 0,.int .i64 1,.string ⟨#[]⟩,.string ⟨#[]⟩,.int .u64 0,.int .i64 1,.slice none 0 0] 25)).heap.size=v30.heap.size+1 by simp)))
 clear hbA hbu
 replace HA1:=Lib.hid (TAt.any HA1.out (fun b hb=>hb) HBA.out.1)
 replace HA5:=Lib.hid (TAt.any HA5.out (fun b hb=>hb) HBA.out.1)
 replace HT5:=Lib.hid (TAt.any HT5.out (fun b hb=>hb) HBA.out.1)
 replace HT6:=Lib.hid (TAt.any HT6.out (fun b hb=>hb) HBA.out.1)
 replace HX1:=Lib.hid (HX1.out.below (HBA.out.1))
 replace HX5:=Lib.hid (HX5.out.below (HBA.out.1))
 replace KK:=Lib.hid (KK.out.trans ((HBA.out.1).mono KK.out.size))
 replace KB:=Lib.hid (KB.out.trans ((HBA.out.1).mono KB.out.size))
 refine hK.out _ _ (fun _=>HSS.out _ KB.out) ?_
 generalize (v30.alloc (.cells #[.int .i64 1,.string ⟨#[]⟩,.string ⟨#[]⟩,.int .u64 0,.int .i64 2,.slice none 0 0,.int .i64 1,.string ⟨#[]⟩,.string ⟨#[]⟩,.int .u64 0,.int .i64 1,.slice none 0 0] 25))=v31 at *
 generalize v30.heap.size=q7 at *
 refine wpAnyW_one (i:=12) (by kernel_rfl) rfl (fun K hK=>?_)
 go_simp
 (with_reducible refine (lf_any _ _ _ _ _).mono ?_)
 rintro e v32 ⟨rfl,hb⟩
 have HT7:=Lib.hid (show TAt v32 v32.heap.size (cmpT [99] [(varT 2),(varT 1)]) (.slice (some ⟨q7,0,none⟩) 2 2) from TAt.any HBA.out.2.1 (fun b hb=>by have:=HBA.out.2.2;rcases hb with hb | hb <;> omega) hb)
 replace HA1:=Lib.hid (TAt.any HA1.out (fun b hb=>hb) hb)
 replace HA5:=Lib.hid (TAt.any HA5.out (fun b hb=>hb) hb)
 replace HT5:=Lib.hid (TAt.any HT5.out (fun b hb=>hb) hb)
 replace HT6:=Lib.hid (TAt.any HT6.out (fun b hb=>hb) hb)
 replace HX1:=Lib.hid (HX1.out.below (hb))
 replace HX5:=Lib.hid (HX5.out.below (hb))
 replace KK:=Lib.hid (KK.out.trans ((hb).mono KK.out.size))
 replace KB:=Lib.hid (KB.out.trans ((hb).mono KB.out.size))
 clear hb HBA
 refine hK.out _ _ (fun _=>HSS.out _ KB.out) ?_
 refine wpAnyW_one (i:=13) (by kernel_rfl) rfl (fun K hK=>?_)
 go_simp
 have hbA:Below v32.heap.size v32 (v32.alloc (.cells #[.int .i64 5,.string ⟨#[98]⟩,.string ⟨#[]⟩,.int .u64 0,.int .i64 0,.slice (some ⟨q6,0,none⟩) 2 2,.int .i64 5,.string ⟨#[99]⟩,.string ⟨#[]⟩,.int .u64 0,.int .i64 0,.slice (some ⟨q7,0,none⟩) 2 2] 25)):=(Below.refl _ _).alloc (Nat.le_refl _) _
 have hbu:=built (w:=v32) (P:=fun b=>b<v32.heap.size) (s:=[44]) (n:=2) (cs:=#[.int .i64 5,.string ⟨#[98]⟩,.string ⟨#[]⟩,.int .u64 0,.int .i64 0,.slice (some ⟨q6,0,none⟩) 2 2,.int .i64 5,.string ⟨#[99]⟩,.string ⟨#[]⟩,.int .u64 0,.int .i64 0,.slice (some ⟨q7,0,none⟩) 2 2]) (ps:=[((cmpT [98] [(varT 0),(varT 2)]),Value.slice (some ⟨q6,0,none⟩) 2 2),((cmpT [99] [(varT 2),(varT 1)]),Value.slice (some ⟨q7,0,none⟩) 2 2)]) rfl rfl (mem2 (HT6.out) (HT7.out)) (fun b hb=>hb) (by unfold maxArgs;omega) (by decide)
 have HBA:=Lib.hid (And.intro hbA (And.intro hbu (show (v32.alloc (.cells #[.int .i64 5,.string ⟨#[98]⟩,.string ⟨#[]⟩,.int .u64 0,.int .i64 0,.slice (some ⟨q6,0,none⟩) 2 2,.int .i64 5,.string ⟨#[99]⟩,.string ⟨#[]⟩,.int .u64 0,.int .i64 0,.slice (some ⟨q7,0,none⟩) 2 2] 25)).heap.size=v32.heap.size+1 by simp)))
 clear hbA hbu
 clear HT6
 clear HT7
 replace HA1:=Lib.hid (TAt.any HA1.out (fun b hb=>hb) HBA.out.1)
 replace HA5:=Lib.hid (TAt.any HA5.out (fun b hb=>hb) HBA.out.1)
 replace HT5:=Lib.hid (TAt.any HT5.out (fun b hb=>hb) HBA.out.1)
 replace HX1:=Lib.hid (HX1.out.below (HBA.out.1))
 replace HX5:=Lib.hid (HX5.out.below (HBA.out.1))
 replace KK:=Lib.hid (KK.out.trans ((HBA.out.1).mono KK.out.size))
 replace KB:=Lib.hid (KB.out.trans ((HBA.out.1).mono KB.out.size))
 refine hK.out _ _ (fun _=>HSS.out _ KB.out) ?_
 generalize (v32.alloc (.cells #[.int .i64 5,.string ⟨#[98]⟩,.string ⟨#[]⟩,.int .u64 0,.int .i64 0,.slice (some ⟨q6,0,none⟩) 2 2,.int .i64 5,.string ⟨#[99]⟩,.string ⟨#[]⟩,.int .u64 0,.int .i64 0,.slice (some ⟨q7,0,none⟩) 2 2] 25))=v33 at *
 generalize v32.heap.size=q8 at *
 refine wpAnyW_one (i:=14) (by kernel_rfl) rfl (fun K hK=>?_)
 go_simp
 (with_reducible refine (lf_any _ _ _ _ _).mono ?_)
 rintro e v34 ⟨rfl,hb⟩
 have HT8:=Lib.hid (show TAt v34 v34.heap.size (cmpT [44] [(cmpT [98] [(varT 0),(varT 2)]),(cmpT [99] [(varT 2),(varT 1)])]) (.slice (some ⟨q8,0,none⟩) 2 2) from TAt.any HBA.out.2.1 (fun b hb=>by have:=HBA.out.2.2;rcases hb with hb | hb <;> omega) hb)
 replace HA1:=Lib.hid (TAt.any HA1.out (fun b hb=>hb) hb)
 replace HA5:=Lib.hid (TAt.any HA5.out (fun b hb=>hb) hb)
 replace HT5:=Lib.hid (TAt.any HT5.out (fun b hb=>hb) hb)
 replace HX1:=Lib.hid (HX1.out.below (hb))
 replace HX5:=Lib.hid (HX5.out.below (hb))
 replace KK:=Lib.hid (KK.out.trans ((hb).mono KK.out.size))
 replace KB:=Lib.hid (KB.out.trans ((hb).mono KB.out.size))
 clear hb HBA
 refine hK.out _ _ (fun _=>HSS.out _ KB.out) ?_
 refine wpAnyW_one (i:=15) (by kernel_rfl) rfl (fun K hK=>?_)
 go_simp
 have hbA:Below v34.heap.size v34 (v34.alloc (.cells #[.int .i64 5,.string ⟨#[97]⟩,.string ⟨#[]⟩,.int .u64 0,.int .i64 0,.slice (some ⟨q5,0,none⟩) 2 2,.int .i64 5,.string ⟨#[44]⟩,.string ⟨#[]⟩,.int .u64 0,.int .i64 0,.slice (some ⟨q8,0,none⟩) 2 2] 25)):=(Below.refl _ _).alloc (Nat.le_refl _) _
 have hbu:=built (w:=v34) (P:=fun b=>b<v34.heap.size) (s:=[58,45]) (n:=2) (cs:=#[.int .i64 5,.string ⟨#[97]⟩,.string ⟨#[]⟩,.int .u64 0,.int .i64 0,.slice (some ⟨q5,0,none⟩) 2 2,.int .i64 5,.string ⟨#[44]⟩,.string ⟨#[]⟩,.int .u64 0,.int .i64 0,.slice (some ⟨q8,0,none⟩) 2 2]) (ps:=[((cmpT [97] [(varT 0),(varT 1)]),Value.slice (some ⟨q5,0,none⟩) 2 2),((cmpT [44] [(cmpT [98] [(varT 0),(varT 2)]),(cmpT [99] [(varT 2),(varT 1)])]),Value.slice (some ⟨q8,0,none⟩) 2 2)]) rfl rfl (mem2 (HT5.out) (HT8.out)) (fun b hb=>hb) (by unfold maxArgs;omega) (by decide)
 have HBA:=Lib.hid (And.intro hbA (And.intro hbu (show (v34.alloc (.cells #[.int .i64 5,.string ⟨#[97]⟩,.string ⟨#[]⟩,.int .u64 0,.int .i64 0,.slice (some ⟨q5,0,none⟩) 2 2,.int .i64 5,.string ⟨#[44]⟩,.string ⟨#[]⟩,.int .u64 0,.int .i64 0,.slice (some ⟨q8,0,none⟩) 2 2] 25)).heap.size=v34.heap.size+1 by simp)))
 clear hbA hbu
 clear HT5
 clear HT8
 replace HA1:=Lib.hid (TAt.any HA1.out (fun b hb=>hb) HBA.out.1)
 replace HA5:=Lib.hid (TAt.any HA5.out (fun b hb=>hb) HBA.out.1)
 replace HX1:=Lib.hid (HX1.out.below (HBA.out.1))
 replace HX5:=Lib.hid (HX5.out.below (HBA.out.1))
 replace KK:=Lib.hid (KK.out.trans ((HBA.out.1).mono KK.out.size))
 replace KB:=Lib.hid (KB.out.trans ((HBA.out.1).mono KB.out.size))
 refine hK.out _ _ (fun _=>HSS.out _ KB.out) ?_
 generalize (v34.alloc (.cells #[.int .i64 5,.string ⟨#[97]⟩,.string ⟨#[]⟩,.int .u64 0,.int .i64 0,.slice (some ⟨q5,0,none⟩) 2 2,.int .i64 5,.string ⟨#[44]⟩,.string ⟨#[]⟩,.int .u64 0,.int .i64 0,.slice (some ⟨q8,0,none⟩) 2 2] 25))=v35 at *
 generalize v34.heap.size=q9 at *
 refine wpAnyW_one (i:=16) (by kernel_rfl) rfl (fun K hK=>?_)
 go_simp
 (with_reducible refine (lf_any _ _ _ _ _).mono ?_)
 rintro e v36 ⟨rfl,hb⟩
 have HT9:=Lib.hid (show TAt v36 v36.heap.size (cmpT [58,45] [(cmpT [97] [(varT 0),(varT 1)]),(cmpT [44] [(cmpT [98] [(varT 0),(varT 2)]),(cmpT [99] [(varT 2),(varT 1)])])]) (.slice (some ⟨q9,0,none⟩) 2 2) from TAt.any HBA.out.2.1 (fun b hb=>by have:=HBA.out.2.2;rcases hb with hb | hb <;> omega) hb)
 replace HA1:=Lib.hid (TAt.any HA1.out (fun b hb=>hb) hb)
 replace HA5:=Lib.hid (TAt.any HA5.out (fun b hb=>hb) hb)
 replace HX1:=Lib.hid (HX1.out.below (hb))
 replace HX5:=Lib.hid (HX5.out.below (hb))
 replace KK:=Lib.hid (KK.out.trans ((hb).mono KK.out.size))
 replace KB:=Lib.hid (KB.out.trans ((hb).mono KB.out.size))
 clear hb HBA
 refine hK.out _ _ (fun _=>HSS.out _ KB.out) ?_
 refine wpAnyW_one (i:=17) (by kernel_rfl) rfl (fun K hK=>?_)
 go_simp
 have hR:=Same_any (cmpT [58,45] [(cmpT [97] [(varT 0),(varT 1)]),(cmpT [44] [(cmpT [98] [(varT 0),(varT 2)]),(cmpT [99] [(varT 2),(varT 1)])])]) _ _ _ HA1.out HT9.out
 rw [show valT (cmpT [58,45] [(cmpT [97] [(varT 0),(varT 1)]),(cmpT [44] [(cmpT [98] [(varT 0),(varT 2)]),(cmpT [99] [(varT 2),(varT 1)])])]) (.slice A1 2 c1) = .agg #[.int .i64 5,.string ⟨#[58,45]⟩,.string ⟨#[]⟩,.int .u64 0,.int .i64 0,.slice A1 2 c1] from rfl,show valT (cmpT [58,45] [(cmpT [97] [(varT 0),(varT 1)]),(cmpT [44] [(cmpT [98] [(varT 0),(varT 2)]),(cmpT [99] [(varT 2),(varT 1)])])]) (.slice (some ⟨q9,0,none⟩) 2 2) = .agg #[.int .i64 5,.string ⟨#[58,45]⟩,.string ⟨#[]⟩,.int .u64 0,.int .i64 0,.slice (some ⟨q9,0,none⟩) 2 2] from rfl] at hR
 (with_reducible refine hR.mono ?_)
 rintro e v37 ⟨rfl,hb⟩
 clear hR HT9
 replace HA1:=Lib.hid (TAt.any HA1.out (fun b hb=>hb) hb)
 replace HA5:=Lib.hid (TAt.any HA5.out (fun b hb=>hb) hb)
 replace HX1:=Lib.hid (HX1.out.below (hb))
 replace HX5:=Lib.hid (HX5.out.below (hb))
 replace KK:=Lib.hid (KK.out.trans ((hb).mono KK.out.size))
 clear hb HSS KB
 refine hK.out _ _ (fun h=>absurd h (by simp)) ?_
 refine wpAnyW_one (i:=18) (by kernel_rfl) rfl (fun K hK=>?_)
 go_simp
 refine hK.out _ _ (fun h=>absurd h (by simp)) ?_
 refine wpAnyW_done (by kernel_rfl) ?_ _
 go_upto_region 5 with fail
 have HSS:=Lib.hid (show ∀ z,Below v37.heap.size v37 z→(z.cell? ⟨g5,0,none⟩=some (.int .i64 5)∧z.cell? ⟨g5,1,none⟩=some (.string ⟨#[61]⟩)∧z.cell? ⟨g5,2,none⟩=some (.string ⟨#[]⟩)∧z.cell? ⟨g5,3,none⟩=some (.int .u64 0)∧z.cell? ⟨g5,4,none⟩=some (.int .i64 0)∧z.cell? ⟨g5,5,none⟩=some (.slice A5 2 c5)) from fun z hb=>(HX5.out.below hb).cells rfl rfl)
 refine wp_region_wait (fun z=>(z.cell? ⟨g5,0,none⟩=some (.int .i64 5)∧z.cell? ⟨g5,1,none⟩=some (.string ⟨#[61]⟩)∧z.cell? ⟨g5,2,none⟩=some (.string ⟨#[]⟩)∧z.cell? ⟨g5,3,none⟩=some (.int .u64 0)∧z.cell? ⟨g5,4,none⟩=some (.int .i64 0)∧z.cell? ⟨g5,5,none⟩=some (.slice A5 2 c5))) 8 (by kernel_rfl) ?_
 change wpAnyW _ _ _ _ _ _ _ _ _ v37.drew
 have hbd:=below_drew' v37
 have KB:=Lib.hid (show Below v37.heap.size v37 v37.drew from hbd)
 replace HA1:=Lib.hid (TAt.any HA1.out (fun b hb=>hb) hbd)
 replace HA5:=Lib.hid (TAt.any HA5.out (fun b hb=>hb) hbd)
 replace HX1:=Lib.hid (HX1.out.below (hbd))
 replace HX5:=Lib.hid (HX5.out.below (hbd))
 replace KK:=Lib.hid (KK.out.trans ((hbd).mono KK.out.size))
 clear hbd
 generalize v37.drew=v38 at *
 refine wpAnyW_take 8 (i:=0) (v:=.agg #[.int .i64 5,.string ⟨#[61]⟩,.string ⟨#[]⟩,.int .u64 0,.int .i64 0,.slice A5 2 c5]) rfl (by kernel_rfl) (by kernel_rfl) (by kernel_rfl) (by kernel_rfl) (fun _ _ _ h=>h) (Or.inl ⟨by rfl,?_⟩) (HSS.out _ KB.out) ?_
 ·intro w5 hSw
  obtain ⟨p0,p1,p2,p3,p4,p5⟩:=hSw
  go_simp
 refine wpAnyW_one (i:=1) (by kernel_rfl) rfl (fun K hK=>?_)
 go_simp
 (with_reducible refine (lv_any _ _).mono ?_)
 rintro e v39 ⟨rfl,hb⟩
 replace HA1:=Lib.hid (TAt.any HA1.out (fun b hb=>hb) hb)
 replace HA5:=Lib.hid (TAt.any HA5.out (fun b hb=>hb) hb)
 replace HX1:=Lib.hid (HX1.out.below (hb))
 replace HX5:=Lib.hid (HX5.out.below (hb))
 replace KK:=Lib.hid (KK.out.trans ((hb).mono KK.out.size))
 replace KB:=Lib.hid (KB.out.trans ((hb).mono KB.out.size))
 clear hb
 refine hK.out _ _ (fun _=>HSS.out _ KB.out) ?_
 refine wpAnyW_one (i:=2) (by kernel_rfl) rfl (fun K hK=>?_)
 go_simp
 (with_reducible refine (latom_any _ _).mono ?_)
 rintro e v40 ⟨rfl,hb⟩
 replace HA1:=Lib.hid (TAt.any HA1.out (fun b hb=>hb) hb)
 replace HA5:=Lib.hid (TAt.any HA5.out (fun b hb=>hb) hb)
 replace HX1:=Lib.hid (HX1.out.below (hb))
 replace HX5:=Lib.hid (HX5.out.below (hb))
 replace KK:=Lib.hid (KK.out.trans ((hb).mono KK.out.size))
 replace KB:=Lib.hid (KB.out.trans ((hb).mono KB.out.size))
 clear hb
 refine hK.out _ _ (fun _=>HSS.out _ KB.out) ?_
 refine wpAnyW_one (i:=3) (by kernel_rfl) rfl (fun K hK=>?_)
 go_simp
 (with_reducible refine (lv_any _ _).mono ?_)
 rintro e v41 ⟨rfl,hb⟩
 replace HA1:=Lib.hid (TAt.any HA1.out (fun b hb=>hb) hb)
 replace HA5:=Lib.hid (TAt.any HA5.out (fun b hb=>hb) hb)
 replace HX1:=Lib.hid (HX1.out.below (hb))
 replace HX5:=Lib.hid (HX5.out.below (hb))
 replace KK:=Lib.hid (KK.out.trans ((hb).mono KK.out.size))
 replace KB:=Lib.hid (KB.out.trans ((hb).mono KB.out.size))
 clear hb
 refine hK.out _ _ (fun _=>HSS.out _ KB.out) ?_
 refine wpAnyW_one (i:=4) (by kernel_rfl) rfl (fun K hK=>?_)
 go_simp
 have hbA:Below v41.heap.size v41 (v41.alloc (.cells #[.int .i64 2,.string ⟨#[120]⟩,.string ⟨#[]⟩,.int .u64 0,.int .i64 0,.slice none 0 0,.int .i64 1,.string ⟨#[]⟩,.string ⟨#[]⟩,.int .u64 0,.int .i64 5,.slice none 0 0] 25)):=(Below.refl _ _).alloc (Nat.le_refl _) _
 have hbu:=built (w:=v41) (P:=fun b=>b<v41.heap.size) (s:=[46]) (n:=2) (cs:=#[.int .i64 2,.string ⟨#[120]⟩,.string ⟨#[]⟩,.int .u64 0,.int .i64 0,.slice none 0 0,.int .i64 1,.string ⟨#[]⟩,.string ⟨#[]⟩,.int .u64 0,.int .i64 5,.slice none 0 0]) (ps:=[((atomT [120]),Value.slice none 0 0),((varT 5),Value.slice none 0 0)]) rfl rfl (mem2 (atom_at _ _ (by decide)) (var_at _ _ ⟨by omega,by omega⟩)) (fun b hb=>hb) (by unfold maxArgs;omega) (by decide)
 have HBA:=Lib.hid (And.intro hbA (And.intro hbu (show (v41.alloc (.cells #[.int .i64 2,.string ⟨#[120]⟩,.string ⟨#[]⟩,.int .u64 0,.int .i64 0,.slice none 0 0,.int .i64 1,.string ⟨#[]⟩,.string ⟨#[]⟩,.int .u64 0,.int .i64 5,.slice none 0 0] 25)).heap.size=v41.heap.size+1 by simp)))
 clear hbA hbu
 replace HA1:=Lib.hid (TAt.any HA1.out (fun b hb=>hb) HBA.out.1)
 replace HA5:=Lib.hid (TAt.any HA5.out (fun b hb=>hb) HBA.out.1)
 replace HX1:=Lib.hid (HX1.out.below (HBA.out.1))
 replace HX5:=Lib.hid (HX5.out.below (HBA.out.1))
 replace KK:=Lib.hid (KK.out.trans ((HBA.out.1).mono KK.out.size))
 replace KB:=Lib.hid (KB.out.trans ((HBA.out.1).mono KB.out.size))
 refine hK.out _ _ (fun _=>HSS.out _ KB.out) ?_
 generalize (v41.alloc (.cells #[.int .i64 2,.string ⟨#[120]⟩,.string ⟨#[]⟩,.int .u64 0,.int .i64 0,.slice none 0 0,.int .i64 1,.string ⟨#[]⟩,.string ⟨#[]⟩,.int .u64 0,.int .i64 5,.slice none 0 0] 25))=v42 at *
 generalize v41.heap.size=q10 at *
 refine wpAnyW_one (i:=5) (by kernel_rfl) rfl (fun K hK=>?_)
 go_simp
 (with_reducible refine (lf_any _ _ _ _ _).mono ?_)
 rintro e v43 ⟨rfl,hb⟩
 have HT10:=Lib.hid (show TAt v43 v43.heap.size (cmpT [46] [(atomT [120]),(varT 5)]) (.slice (some ⟨q10,0,none⟩) 2 2) from TAt.any HBA.out.2.1 (fun b hb=>by have:=HBA.out.2.2;rcases hb with hb | hb <;> omega) hb)
 replace HA1:=Lib.hid (TAt.any HA1.out (fun b hb=>hb) hb)
 replace HA5:=Lib.hid (TAt.any HA5.out (fun b hb=>hb) hb)
 replace HX1:=Lib.hid (HX1.out.below (hb))
 replace HX5:=Lib.hid (HX5.out.below (hb))
 replace KK:=Lib.hid (KK.out.trans ((hb).mono KK.out.size))
 replace KB:=Lib.hid (KB.out.trans ((hb).mono KB.out.size))
 clear hb HBA
 refine hK.out _ _ (fun _=>HSS.out _ KB.out) ?_
 refine wpAnyW_one (i:=6) (by kernel_rfl) rfl (fun K hK=>?_)
 go_simp
 have hbA:Below v43.heap.size v43 (v43.alloc (.cells #[.int .i64 1,.string ⟨#[]⟩,.string ⟨#[]⟩,.int .u64 0,.int .i64 4,.slice none 0 0,.int .i64 5,.string ⟨#[46]⟩,.string ⟨#[]⟩,.int .u64 0,.int .i64 0,.slice (some ⟨q10,0,none⟩) 2 2] 25)):=(Below.refl _ _).alloc (Nat.le_refl _) _
 have hbu:=built (w:=v43) (P:=fun b=>b<v43.heap.size) (s:=[61]) (n:=2) (cs:=#[.int .i64 1,.string ⟨#[]⟩,.string ⟨#[]⟩,.int .u64 0,.int .i64 4,.slice none 0 0,.int .i64 5,.string ⟨#[46]⟩,.string ⟨#[]⟩,.int .u64 0,.int .i64 0,.slice (some ⟨q10,0,none⟩) 2 2]) (ps:=[((varT 4),Value.slice none 0 0),((cmpT [46] [(atomT [120]),(varT 5)]),Value.slice (some ⟨q10,0,none⟩) 2 2)]) rfl rfl (mem2 (var_at _ _ ⟨by omega,by omega⟩) (HT10.out)) (fun b hb=>hb) (by unfold maxArgs;omega) (by decide)
 have HBA:=Lib.hid (And.intro hbA (And.intro hbu (show (v43.alloc (.cells #[.int .i64 1,.string ⟨#[]⟩,.string ⟨#[]⟩,.int .u64 0,.int .i64 4,.slice none 0 0,.int .i64 5,.string ⟨#[46]⟩,.string ⟨#[]⟩,.int .u64 0,.int .i64 0,.slice (some ⟨q10,0,none⟩) 2 2] 25)).heap.size=v43.heap.size+1 by simp)))
 clear hbA hbu
 clear HT10
 replace HA1:=Lib.hid (TAt.any HA1.out (fun b hb=>hb) HBA.out.1)
 replace HA5:=Lib.hid (TAt.any HA5.out (fun b hb=>hb) HBA.out.1)
 replace HX1:=Lib.hid (HX1.out.below (HBA.out.1))
 replace HX5:=Lib.hid (HX5.out.below (HBA.out.1))
 replace KK:=Lib.hid (KK.out.trans ((HBA.out.1).mono KK.out.size))
 replace KB:=Lib.hid (KB.out.trans ((HBA.out.1).mono KB.out.size))
 refine hK.out _ _ (fun _=>HSS.out _ KB.out) ?_
 generalize (v43.alloc (.cells #[.int .i64 1,.string ⟨#[]⟩,.string ⟨#[]⟩,.int .u64 0,.int .i64 4,.slice none 0 0,.int .i64 5,.string ⟨#[46]⟩,.string ⟨#[]⟩,.int .u64 0,.int .i64 0,.slice (some ⟨q10,0,none⟩) 2 2] 25))=v44 at *
 generalize v43.heap.size=q11 at *
 refine wpAnyW_one (i:=7) (by kernel_rfl) rfl (fun K hK=>?_)
 go_simp
 (with_reducible refine (lf_any _ _ _ _ _).mono ?_)
 rintro e v45 ⟨rfl,hb⟩
 have HT11:=Lib.hid (show TAt v45 v45.heap.size (cmpT [61] [(varT 4),(cmpT [46] [(atomT [120]),(varT 5)])]) (.slice (some ⟨q11,0,none⟩) 2 2) from TAt.any HBA.out.2.1 (fun b hb=>by have:=HBA.out.2.2;rcases hb with hb | hb <;> omega) hb)
 replace HA1:=Lib.hid (TAt.any HA1.out (fun b hb=>hb) hb)
 replace HA5:=Lib.hid (TAt.any HA5.out (fun b hb=>hb) hb)
 replace HX1:=Lib.hid (HX1.out.below (hb))
 replace HX5:=Lib.hid (HX5.out.below (hb))
 replace KK:=Lib.hid (KK.out.trans ((hb).mono KK.out.size))
 replace KB:=Lib.hid (KB.out.trans ((hb).mono KB.out.size))
 clear hb HBA
 refine hK.out _ _ (fun _=>HSS.out _ KB.out) ?_
 refine wpAnyW_one (i:=8) (by kernel_rfl) rfl (fun K hK=>?_)
 go_simp
 have hR:=Same_any (cmpT [61] [(varT 4),(cmpT [46] [(atomT [120]),(varT 5)])]) _ _ _ HA5.out HT11.out
 rw [show valT (cmpT [61] [(varT 4),(cmpT [46] [(atomT [120]),(varT 5)])]) (.slice A5 2 c5) = .agg #[.int .i64 5,.string ⟨#[61]⟩,.string ⟨#[]⟩,.int .u64 0,.int .i64 0,.slice A5 2 c5] from rfl,show valT (cmpT [61] [(varT 4),(cmpT [46] [(atomT [120]),(varT 5)])]) (.slice (some ⟨q11,0,none⟩) 2 2) = .agg #[.int .i64 5,.string ⟨#[61]⟩,.string ⟨#[]⟩,.int .u64 0,.int .i64 0,.slice (some ⟨q11,0,none⟩) 2 2] from rfl] at hR
 (with_reducible refine hR.mono ?_)
 rintro e v46 ⟨rfl,hb⟩
 clear hR HT11
 replace HA1:=Lib.hid (TAt.any HA1.out (fun b hb=>hb) hb)
 replace HA5:=Lib.hid (TAt.any HA5.out (fun b hb=>hb) hb)
 replace HX1:=Lib.hid (HX1.out.below (hb))
 replace HX5:=Lib.hid (HX5.out.below (hb))
 replace KK:=Lib.hid (KK.out.trans ((hb).mono KK.out.size))
 clear hb HSS KB
 refine hK.out _ _ (fun h=>absurd h (by simp)) ?_
 refine wpAnyW_one (i:=9) (by kernel_rfl) rfl (fun K hK=>?_)
 go_simp
 refine hK.out _ _ (fun h=>absurd h (by simp)) ?_
 refine wpAnyW_done (by kernel_rfl) ?_ _
 go_wp2
 go_ret
 exact ⟨rfl,KK.out⟩
end Go.Proofs.YtgfeainpeplphaaDoor
namespace Go.Proofs.YtgfeainpeplphaaDoor
open Go.Shelf Go.RowKit Hb Ht
def Tryd.laysValid_ren:Go.Shelf.Ren:=⟨fun | 196=>81 | 259=>90 | n=>n,fun | 9=>9 | 4=>4 | 3=>3 | 5=>5 | 12=>12 | 119=>121 | 0=>0 | 46=>110 | 139=>124 | 138=>123 | 53=>22 | n=>n,fun | 3=>0 | 4=>1 | n=>n⟩
theorem Tryd.laysValid:Go.Proofs.Lays.n196 Tryd.prog Tryd.laysValid_ren:={
 mixed:=by kernel_rfl
 f196:=Tryd.func81.trans (congrArg some (by kernel_rfl))
 f259:=Tryd.func90.trans (congrArg some (by kernel_rfl))
 t0:=Tryd.underlying0
 a0:=Tryd.isAgg0
 z0:=Tryd.sizeOf0
 v0:=Tryd.zeroValue0
 t3:=Tryd.underlying3
 a3:=Tryd.isAgg3
 z3:=Tryd.sizeOf3
 v3:=Tryd.zeroValue3
 t4:=Tryd.underlying4
 a4:=Tryd.isAgg4
 z4:=Tryd.sizeOf4
 v4:=Tryd.zeroValue4
 t5:=Tryd.underlying5
 a5:=Tryd.isAgg5
 z5:=Tryd.sizeOf5
 v5:=Tryd.zeroValue5
 t9:=Tryd.underlying9
 a9:=Tryd.isAgg9
 z9:=Tryd.sizeOf9
 v9:=Tryd.zeroValue9
 t12:=Tryd.underlying12
 a12:=Tryd.isAgg12
 z12:=Tryd.sizeOf12
 v12:=Tryd.zeroValue12
 t46:=Tryd.underlying110
 a46:=Tryd.isAgg110
 z46:=Tryd.sizeOf110
 v46:=Tryd.zeroValue110
 t53:=Tryd.underlying22
 a53:=Tryd.isAgg22
 z53:=Tryd.sizeOf22
 v53:=Tryd.zeroValue22
 t119:=Tryd.underlying121
 a119:=Tryd.isAgg121
 z119:=Tryd.sizeOf121
 t138:=Tryd.underlying123
 a138:=Tryd.isAgg123
 z138:=Tryd.sizeOf123
 v138:=Tryd.zeroValue123
 t139:=Tryd.underlying124
 a139:=Tryd.isAgg124
 z139:=Tryd.sizeOf124
 v139:=Tryd.zeroValue124
 g3:=by kernel_rfl
 g4:=by kernel_rfl }
def VTabs (w:World):Prop:=Lib.Utf8Tabs (Tryd.laysValid_ren.g 3) (Tryd.laysValid_ren.g 4) w
theorem valid_any (s:ByteArray) (w:World) (hs:s.size≤maxLen) (hT:VTabs w) :
  Calls Tryd.prog 81 #[.string s] w fun e w'=>e = .returned (.bool (Lib.validD s.data.toList))∧Below w.heap.size w w':=Any.utf8_ValidString Tryd.laysValid s w hs hT
theorem VTabs.below {w0 w:World} (h:VTabs w0) (hb:Below w0.heap.size w0 w):VTabs w:=by
 have key:∀ p u,w0.cell? p=some u→w.cell? p=some u:=fun p u hp=>(hb.cell (World.block_lt_of_cell? _ _ hp)).trans hp
 exact ⟨fun c hc=>key _ _ (h.1 c hc),fun i hi=>⟨key _ _ (h.2 i hi).1,key _ _ (h.2 i hi).2⟩⟩
theorem VTabs.u0 {w0:World} (h:VTabs w0):U0 w0:=fun w' hb s hs=>valid_any s w' hs (h.below hb)
theorem VTabs.ok {w0:World} (h:VTabs w0):UOk w0 w0:=⟨Below.refl _ _,h.u0⟩
end Go.Proofs.YtgfeainpeplphaaDoor
namespace Ht
mutual
def Fits:Tm→Prop
 | .mk _ n _ _ _ ts=>n.length≤4611686018427387904∧Fitss ts
def Fitss:List Tm→Prop
 | []=>True
 | a :: ts=>Fits a∧Fitss ts
end
theorem Fitss.iff:∀ {ts:List Tm},Fitss ts↔∀ a∈ts,Fits a
 | []=>by simp [Fitss]
 | a :: ts=>by rw [Fitss,Fitss.iff (ts:=ts)];simp
theorem Fits.iff {t:Tm} : Fits t↔t.n.length≤4611686018427387904∧∀ a∈t.as,Fits a:=by
 obtain ⟨k,n,m,b,v,ts⟩:=t
 rw [Fits,Fitss.iff]
 rfl
end Ht
namespace Go.Proofs.YtgfeainpeplphaaDoor
open Go.ChangeShapes Go.WideShapes Go.ChangeAt Go.RowKit Go.Joins Go.Deep Hb Ht
set_option linter.unusedVariables false
set_option linter.unusedSimpArgs false
theorem laidK:laidOutB Tryd.prog=true:=by kernel_rfl
section
variable {H:Type} {enc:TypeId × Value→H} {P:Program}
theorem args_stay (hl:laidOutB P=true) {W W':World} (hb:Below W.heap.size W W'):∀ (ts:List TypeId) (vs:List Value) (ds:List (DataW H)) (ps:List MemPlace),
  (∀ t∈ts,P.readableRec t=true∧t<P.types.size)→DataW.TrodAll enc P W 0 (fun _=>true) true ts vs ds ps→(∀ x∈ps,x.block<W.heap.size) →
  ∀ sp:Nat→Bool,(∀ x∈ps,sp x.block=true)→DataW.TrodAll enc P W' 0 sp true ts vs ds ps
 | [],vs,ds,ps,_,h,_,_,_=>by
  cases vs <;> cases ds <;> simp [DataW.TrodAll] at h ⊢
  exact h
 | t :: ts,vs,ds,ps,hr,h,hlt,sp,hs=>by
  obtain ⟨v,vs',d,ds',p,q,rfl,rfl,rfl,h1,h2⟩:=trodAll_cons h
  have hp:∀ x∈p,x.block<W.heap.size:=fun x hx=>hlt x (List.mem_append_left _ hx)
  have hq:∀ x∈q,x.block<W.heap.size:=fun x hx=>hlt x (List.mem_append_right _ hx)
  exact trodAll_cons_mk (WideElems.Trod_stays hl (hr t (by simp)).1 (hr t (by simp)).2 h1 (fun x hx=>hb.same (hp x hx)) (fun x hx=>hs x (List.mem_append_left _ hx)))
   (args_stay hl hb ts vs' ds' q (fun t ht=>hr t (List.mem_cons_of_mem _ ht)) h2 hq sp (fun x hx=>hs x (List.mem_append_right _ hx)))
theorem law_end {f:Func} {s:ChangeSpec} {fresh handsOn again:Bool} {W W':World} {args:Array Value} {ds gs:List (DataW H)} {before:List MemPlace} {bt:TypeId}
  (hl:laidOutB P=true) (hr:∀ t∈f.params.toList,P.readableRec t=true∧t<P.types.size) (hres:f.resultTypes = #[bt]) (hbt:P.underlying bt=some .bool)
  (hv:s.vars = []) (hW:DataW.Whole enc P f.params.toList s.vars false W args.toList ds gs before) (hfn:s.fn H (ds ++ gs) = { results:=[.lit (.bool true)],args:=ds }) (hb:Below W.heap.size W W') :
  s.post enc P f false fresh handsOn again W args (.bool true) W':=by
 have hlt:∀ p∈before,p.block<W.heap.size:=fun p hp=>hW.lt p hp
 have hW2:=hW
 obtain ⟨p,q,hA,hV,rfl,hz,_⟩:=hW2
 rw [hv] at hV
 obtain ⟨rfl,rfl⟩:=trodVars_none hV
 rw [List.append_nil] at *
 have hst:=args_stay hl hb _ _ _ _ hr hA hlt
 have hR:∀ (b:Nat) (sp:Nat→Bool) (hd:Bool),DataW.TrodAll enc P W' b sp hd f.resultTypes.toList ((Value.bool true).resultList f.resultTypes.size) (s.fn H ds).results []:=by
  intro b sp hd
  rw [hfn,hres]
  exact ⟨[],[],shut_bool hbt true,rfl,rfl⟩
 refine ⟨ds,[],p,[],p,[],by simpa using hW,by simpa using hR _ _ _,?_,?_,World.keptBut_mono (fun x hx=>⟨hx,.inr (.inl hx)⟩) (hb.frame (· ∈ p)),fun _=>⟨?_,[.lit (.bool true)] ++ ds,[],p,⟨p,[],?_,?_,by simp,?_,fun h=>by cases h⟩,fun x hx _=>hx⟩⟩
 ·rw [List.append_nil,hfn];exact hst _ (fun x hx=>by simpa using hlt x hx)
 ·rw [List.append_nil,hfn,hv];rfl
 ·intro j t r ht hj
  rw [hres] at ht hj
  cases j with
  | zero=>
   simp at ht hj
   subst ht
   obtain rfl:r = .bool true:=by simpa [Value.resultList] using hj.symm
   exact okWide_bool_mk hbt true
  | succ j=>simp at ht
 ·have h1:=hR 0 (fun _=>true) true
  rw [hfn] at h1
  have:=trodAll_append (hst (fun _=>true) (fun _ _=>rfl)) h1
  simpa using this
 ·rw [hv];rfl
 ·intro b off hp
  rw [hb.frozen (hlt _ hp)]
  exact hz b off hp
end
theorem i64_of_wf {x:Int} (h:(Lit.int .i64 x).wf=true) : -9223372036854775808≤x∧x≤9223372036854775807:=by
 simp [Lit.wf,IntKind.has,IntKind.min,IntKind.max,IntKind.bits,IntKind.signed] at h
 omega
theorem u64_of_wf {x:Int} (h:(Lit.int .u64 x).wf=true):0≤x∧x<18446744073709551616:=by
 simp [Lit.wf,IntKind.has,IntKind.min,IntKind.max,IntKind.bits,IntKind.signed] at h
 omega
theorem spot_none {w:World} {a:Addr} {v:Value} (h:w.cell? (a.add 0)=some v):∃ b o,a=⟨b,o,none⟩∧b<w.heap.size:=by
 obtain ⟨b,off,spot⟩:=a
 have hspot:spot=none:=by simpa [Addr.add] using World.cell?_spot h
 subst hspot
 refine ⟨b,off,rfl,?_⟩
 have:=World.block_lt_of_cell? _ _ h
 simpa [Addr.add] using this
theorem add_add (a:Addr) (m k:Nat):(a.add m).add k=a.add (m+k):=by
 unfold Addr.add
 by_cases h1:m=0
 ·subst h1;simp
 ·by_cases h2:k=0
  ·subst h2;simp [h1]
  ·simp [h1,h2,Nat.add_assoc]
theorem list6 {α:Type} {l:List α} (h:l.length=6):∃ a b c d e f,l = [a,b,c,d,e,f]:=by
 match l,h with
 | [a,b,c,d,e,f],_=>exact ⟨a,b,c,d,e,f,rfl⟩
theorem cellsTerm:Tryd.prog.cellsOf 25=6:=by kernel_rfl
theorem bytesTerm:Tryd.prog.bytesOf 25=80:=by kernel_rfl
theorem trod_six {H:Type} {enc:TypeId × Value→H} {P:Program} {w:World} {base:Nat} {spare:Nat→Bool} {held:Bool} {t:TypeId} {f0 f1 f2 f3 f4 f5:Field} {fuel:Nat} {cs:List Value} {x:DataW H × List MemPlace} (ht:P.underlying t=some (.struct #[f0,f1,f2,f3,f4,f5])) (h:DataW.trod enc P w base spare held fuel t cs=some x) :
  ∃ y0 y1 y2 y3 y4 y5 n,fuel=n+1∧x.1 = .agg [y0.1,y1.1,y2.1,y3.1,y4.1,y5.1]∧cs.length=P.cellsOf t∧DataW.trod enc P w base spare held n f0.type ((cs.drop f0.offset).take (P.cellsOf f0.type))=some y0 ∧
   DataW.trod enc P w base spare held n f1.type ((cs.drop f1.offset).take (P.cellsOf f1.type))=some y1∧DataW.trod enc P w base spare held n f2.type ((cs.drop f2.offset).take (P.cellsOf f2.type))=some y2 ∧
   DataW.trod enc P w base spare held n f3.type ((cs.drop f3.offset).take (P.cellsOf f3.type))=some y3∧DataW.trod enc P w base spare held n f4.type ((cs.drop f4.offset).take (P.cellsOf f4.type))=some y4 ∧
   DataW.trod enc P w base spare held n f5.type ((cs.drop f5.offset).take (P.cellsOf f5.type))=some y5:=by
 obtain ⟨xs,n,hn,rfl,hl,hlen,hf⟩:=DataW.trod_struct ht h
 match xs,hlen with
 | [y0,y1,y2,y3,y4,y5],_=>exact ⟨y0,y1,y2,y3,y4,y5,n,hn,rfl,hl,by simpa using hf 0 f0 rfl,by simpa using hf 1 f1 rfl,by simpa using hf 2 f2 rfl,by simpa using hf 3 f3 rfl,by simpa using hf 4 f4 rfl,by simpa using hf 5 f5 rfl⟩
theorem weights_all_mem {H:Type} {P:Program} {e:TypeId} {m:Nat} : ∀ {l:List (DataW H)} {d:DataW H},d∈l→m∈d.weights P e→m∈DataW.weightsAll P e l
 | d0 :: r,d,hd,hm=>by
  rw [DataW.weightsAll,List.mem_append]
  rcases List.mem_cons.1 hd with rfl | hd
  ·exact .inl hm
  ·exact .inr (weights_all_mem hd hm)
set_option maxRecDepth 1000000 in
theorem trod_term {H:Type} {enc:TypeId × Value→H} {W:World} {sp:Nat→Bool} (fuel:Nat):∀ (cs:List Value) (x:DataW H × List MemPlace),DataW.trod enc Tryd.prog W 0 sp true fuel 25 cs=some x→(∀ m∈x.1.weights Tryd.prog 25,m≤reachBytes) →
  ∃ t sl,cs=cells6 t sl∧TAtP W (fun b=>b<W.heap.size) t sl∧Fits t:=by
 induction fuel using Nat.strongRecOn with
 | _ fuel ih=>
  intro cs x h hw
  obtain ⟨y0,y1,y2,y3,y4,y5,n,rfl,hx,hl,g0,g1,g2,g3,g4,g5⟩:=trod_six Tryd.underlying25 h
  rw [cellsTerm] at hl
  obtain ⟨c0,c1,c2,c3,c4,c5,rfl⟩:=list6 hl
  have e9:Tryd.prog.cellsOf 9=1:=by kernel_rfl
  have e3:Tryd.prog.cellsOf 3=1:=by kernel_rfl
  have e6:Tryd.prog.cellsOf 22=1:=by kernel_rfl
  have e7:Tryd.prog.cellsOf 23=1:=by kernel_rfl
  obtain ⟨u0,k0,_,w0⟩:=DataW.trod_int Tryd.underlying3 g0
  obtain ⟨s1,k1,hy1,hs1⟩:=DataW.trod_string Tryd.underlying9 g1
  obtain ⟨s2,k2,_,hs2⟩:=DataW.trod_string Tryd.underlying9 g2
  obtain ⟨u3,k3,_,w3⟩:=DataW.trod_int Tryd.underlying22 g3
  obtain ⟨u4,k4,_,w4⟩:=DataW.trod_int Tryd.underlying3 g4
  simp [e9] at k1 k2
  simp [e3] at k0 k4
  simp [e6] at k3
  subst k0 k1 k2 k3 k4
  simp [e7] at g5
  have hw5:∀ m∈y5.1.weights Tryd.prog 23,m≤reachBytes:=by
   intro m hm
   refine hw m ?_
   rw [hx,DataW.weights,Tryd.underlying25]
   exact DataW.weights_mem_each (j:=5) rfl rfl m hm
  have hw1:s1.data.toList.length≤4611686018427387904:=by
   have h1:=hw s1.data.toList.length (by
    rw [hx,DataW.weights,Tryd.underlying25]
    exact DataW.weights_mem_each (j:=1) rfl rfl _ (by rw [hy1];simp [DataW.weights]))
   unfold reachBytes at h1
   omega
  have hok:∀ ts,okF (.mk u0 s1.data.toList s2.data.toList u3 u4 ts):=fun ts=>⟨by simpa [Tm.n] using hs1,by simpa [Tm.m] using hs2,u64_of_wf w3,i64_of_wf w4,i64_of_wf w0⟩
  rcases DataW.trod_slice Tryd.underlying23 g5 with ⟨e1,_⟩ | ⟨a,len,cap,elems,rest,m,rfl,e1,hx5,_,hlc,hcm,hlen2,hel,_⟩
  ·simp at e1
   subst e1
   refine ⟨.mk u0 s1.data.toList s2.data.toList u3 u4 [],.slice none 0 0,rfl,?_,Fits.iff.2 ⟨hw1,fun a ha=>by cases ha⟩⟩
   rw [TAtP.iff]
   exact ⟨none,0,rfl,Nat.le_refl _,by simp [maxLen],Nat.zero_le _,hok [],fun hne=>absurd rfl hne⟩
  ·simp at e1
   subst e1
   rw [hx5] at hw5
   have hsz:len≤maxArgs:=by
    have:=hw5 ((elems.length+rest.length) * 80) (by rw [DataW.weights,Tryd.underlying23,←bytesTerm];simp)
    unfold reachBytes at this
    unfold maxArgs
    omega
   obtain ⟨V,hV⟩:=choose_lt (α:=Tm) (n:=len) (p:=fun i y=>∃ sl,(∀ k,k<6→W.cell? (a.add (i * 6+k))=(cells6 y sl)[k]?)∧TAtP W (fun b=>b<W.heap.size) y sl∧Fits y) (fun i hi=>by
    have h1:=hel i hi
    rw [List.getElem?_eq_getElem (by omega),Option.bind_eq_some_iff] at h1
    obtain ⟨cs',h2,h3⟩:=h1
    obtain ⟨t,sl,rfl,ht,hft⟩:=ih m (by omega) cs' _ h3 (fun q hq=>hw5 q (by
     rw [DataW.weights,Tryd.underlying23]
     refine List.mem_cons_of_mem _ (List.mem_append_left _ (weights_all_mem (List.mem_map.2 ⟨_,List.getElem_mem _,rfl⟩) hq))))
    refine ⟨t,sl,fun k hk=>?_,ht,hft⟩
    rw [cellsTerm] at h2
    have h4:=(World.cells?_some h2).2.2 k hk
    rw [←add_add,h4])
   refine ⟨.mk u0 s1.data.toList s2.data.toList u3 u4 ((List.range len).map V),.slice (some a) len cap,rfl,?_,Fits.iff.2 ⟨hw1,fun y hy=>by
    obtain ⟨i,hi,rfl⟩:=List.mem_map.1 hy
    obtain ⟨_,_,_,hf⟩:=hV i (by simpa using hi)
    exact hf⟩⟩
   rw [TAtP.iff]
   refine ⟨some a,cap,by simp [Tm.as],by simpa [Tm.as] using hlc,hcm,by simpa [Tm.as] using hsz,hok _,fun hne=>?_⟩
   have hn0:0<len:=Nat.pos_of_ne_zero (fun e=>hne (by subst e;rfl))
   obtain ⟨sl0,hc0,_⟩:=hV 0 hn0
   obtain ⟨b,o,rfl,hb⟩:=spot_none (hc0 0 (by omega))
   refine ⟨b,o,rfl,hb,fun i x hx=>?_⟩
   obtain ⟨hi,e⟩:=List.getElem?_eq_some_iff.1 hx
   have hin:i<len:=by simpa [Tm.as] using hi
   simp only [Tm.as,List.getElem_map,List.getElem_range] at e
   obtain ⟨sl,hc,ht,_⟩:=hV i hin
   rw [←e]
   exact ⟨sl,fun j hj=>by rw [←hc j hj,addr_add,Nat.add_assoc],ht⟩
set_option maxRecDepth 1000000 in
theorem open_Term {H:Type} {enc:TypeId × Value→H} {W:World} {base:Nat} {v:Value} {d:DataW H} {p:List MemPlace} (hval:Value.okWide Tryd.prog W .any base 25 v)
  (h:DataW.Trod enc Tryd.prog W 0 (fun _=>true) true 25 v d p) (hw:∀ m∈d.weights Tryd.prog 25,m≤reachBytes):∃ t sl,v=valT t sl∧TAt W W.heap.size t sl∧Fits t:=by
 obtain ⟨cs,rfl,hsz⟩:=okWide_struct Tryd.underlying25 hval
 obtain ⟨fuel,hf⟩:=h
 obtain ⟨t,sl,e,ht,hft⟩:=trod_term fuel _ _ hf hw
 refine ⟨t,sl,?_,ht,hft⟩
 have e2:cs.toList=cells6 t sl:=by simpa [Value.cells] using e
 show Value.agg cs = .agg (cells6 t sl).toArray
 rw [←e2]
theorem arg_weights {H:Type} {d:DataW H} {l:List (DataW H)} {ts:List TypeId} {j:Nat} {t:TypeId} (hw:(DataW.weightsEach Tryd.prog ts l).all (· ≤ reachBytes)=true) (ht:ts[j]?=some t) (hd:l[j]?=some d):∀ m∈d.weights Tryd.prog t,m≤reachBytes:=fun m hm=>by
 have:=List.all_eq_true.1 hw m (DataW.weights_mem_each ht hd m hm)
 simpa using this
theorem dcgOwn:ownKnob Tryd.prog.godebug=none:=by kernel_rfl
noncomputable def dcgWorld (os:Os):World:=World.laidAll Tryd.prog os Rows.dcgFreshRow.laid
set_option maxRecDepth 100000 in
theorem dcgWorld_met (os:Os) (args:Array Value):laidMetH Tryd.prog Rows.dcgFreshRow.laid ((dcgWorld os).forCall (fun _ _=>0) ⟨#[],args,[]⟩).memory:=by
 rw [MakeChecks.laidMetH_plain _ _ _ (by kernel_rfl)]
 exact laidMet_laidAll _ (by kernel_rfl) (by kernel_rfl)
set_option maxRecDepth 100000 in
theorem vtabs_laid {W:World} (h:laidMetH Tryd.prog Rows.dcgFreshRow.laid W):VTabs W:=
 utf8Tabs_of_readsT (U8Types.of196 Tryd.laysValid) ⟨by kernel_rfl,by kernel_rfl,by kernel_rfl,by kernel_rfl,by kernel_rfl,by kernel_rfl,by kernel_rfl⟩ (Lib.laidMet.reads h (.tail _ (.head _))) (Lib.laidMet.reads h (.head _))
end Go.Proofs.YtgfeainpeplphaaDoor
namespace Go.Proofs.YtgfeainpeplphaaDoor
open Go.RowKit Hb Ht
set_option linter.unusedVariables false
set_option linter.unusedSimpArgs false
attribute [local go_sem] Oper.semAt_some
structure BRow (w:World) (A:Option Addr) (n c:Nat) (bs:List (Int × Tm × Value)):Prop where
 len:bs.length=n
 cap:n≤c∧n≤1000000
 rng:∀ p∈bs,-9223372036854775808≤p.1∧p.1≤9223372036854775807
 kid:∀ p∈bs,TAt w w.heap.size p.2.1 p.2.2
 row:n≠0→∃ g o,A=some ⟨g,o,none⟩∧g<w.heap.size∧∀ (i:Nat) p,bs[i]?=some p→w.cell? ⟨g,o+i * 7,none⟩=some (.int .i64 p.1)∧∀ j,j<6→w.cell? ⟨g,o+i * 7+1+j,none⟩=(cells6 p.2.1 p.2.2)[j]?
theorem BRow.below {w w':World} {A:Option Addr} {n c:Nat} {bs:List (Int × Tm × Value)} (h:BRow w A n c bs) (hb:Below w.heap.size w w'):BRow w' A n c bs:=
 ⟨h.len,h.cap,h.rng,fun p hp=>(h.kid p hp).to hb hb.size,fun hn=>by
  obtain ⟨g,o,h1,h2,h3⟩:=h.row hn
  refine ⟨g,o,h1,Nat.lt_of_lt_of_le h2 hb.size,fun i p hp=>⟨(hb.cell (p:=⟨g,_,none⟩) h2).trans (h3 i p hp).1,fun j hj=>(hb.cell (p:=⟨g,_,none⟩) h2).trans ((h3 i p hp).2 j hj)⟩⟩⟩
theorem BRow.at_ {w:World} {A:Option Addr} {n c:Nat} {bs:List (Int × Tm × Value)} (h:BRow w A n c bs) {i:Nat} {p:Int × Tm × Value} (hp:bs[i]?=some p) :
  ∃ g o k nl ml b v ts nb mb A' c',A=some ⟨g,o,none⟩∧p.2=(.mk k nl ml b v ts,.slice A' ts.length c')∧(⟨nl.toArray⟩:ByteArray)=nb∧(⟨ml.toArray⟩:ByteArray)=mb∧TAt w w.heap.size (.mk k nl ml b v ts) (.slice A' ts.length c')∧g<w.heap.size ∧
   w.cell? ⟨g,o+i * 7,none⟩=some (.int .i64 p.1)∧w.cell? ⟨g,o+i * 7+1,none⟩=some (.int .i64 k)∧w.cell? ⟨g,o+i * 7+2,none⟩=some (.string nb)∧w.cell? ⟨g,o+i * 7+3,none⟩=some (.string mb)∧w.cell? ⟨g,o+i * 7+4,none⟩=some (.int .u64 b)∧w.cell? ⟨g,o+i * 7+5,none⟩=some (.int .i64 v)∧w.cell? ⟨g,o+i * 7+6,none⟩=some (.slice A' ts.length c'):=by
 have hn:n≠0:=by
  have:=(List.getElem?_eq_some_iff.1 hp).1
  have:=h.len
  omega
 obtain ⟨g,o,h1,h2,h3⟩:=h.row hn
 have hk:=h.kid p (List.mem_of_getElem? hp)
 obtain ⟨x,t,sl⟩:=p
 obtain ⟨k,nl,ml,b,v,ts⟩:=t
 replace hk:TAt w w.heap.size (.mk k nl ml b v ts) sl:=hk
 obtain ⟨A',c',hsl,_⟩:=hk.slice
 replace hsl:sl = .slice A' ts.length c':=hsl
 subst hsl
 obtain ⟨h4,h5⟩:=h3 i _ hp
 exact ⟨g,o,k,nl,ml,b,v,ts,_,_,A',c',h1,rfl,rfl,rfl,hk,h2,h4,h5 0 (by omega),h5 1 (by omega),h5 2 (by omega),h5 3 (by omega),h5 4 (by omega),h5 5 (by omega)⟩
def lookB (bs:List (Int × Tm × Value)) (x:Int):Option (Tm × Value):=(bs.find? fun p=>p.1==x).map (·.2)
def zTV:Value:=.agg #[.int .i64 0,.string ⟨#[]⟩,.string ⟨#[]⟩,.int .u64 0,.int .i64 0,.slice none 0 0]
def FoundPost (w:World) (r:Option (Tm × Value)) (e:Ending) (w':World):Prop:=e = .returned (match r with | some p=>.tuple #[valT p.1 p.2,.bool true] | none=>.tuple #[zTV,.bool false])∧Below w.heap.size w w'
theorem lookB_at {bs:List (Int × Tm × Value)} {x:Int} {i:Nat} {p:Int × Tm × Value} (hp:bs[i]?=some p) (hx:p.1=x) (hlo:∀ j q,j<i→bs[j]?=some q→q.1≠x):lookB bs x=some p.2:=by
 induction bs generalizing i with
 | nil=>simp at hp
 | cons a bs ih=>
  unfold lookB
  cases i with
  | zero=>
   simp at hp
   subst hp
   rw [List.find?_cons_of_pos (by simpa using hx)];rfl
  | succ i=>
   have h0:a.1≠x:=hlo 0 a (by omega) rfl
   rw [List.find?_cons_of_neg (by simpa using h0)]
   exact ih (i:=i) (by simpa using hp) (fun j q hj hq=>hlo (j+1) q (by omega) (by simpa using hq))
theorem lookB_none {bs:List (Int × Tm × Value)} {x:Int} (h:∀ j q,j<bs.length→bs[j]?=some q→q.1≠x):lookB bs x=none:=by
 unfold lookB
 rw [List.find?_eq_none.2 fun p hp=>by
  obtain ⟨j,hj,e⟩:=List.getElem_of_mem hp
  simpa using h j p hj (by rw [List.getElem?_eq_getElem hj,e])]
 rfl
set_option maxRecDepth 100000 in
set_option maxHeartbeats 8000000 in
theorem Found_any {w:World} {A:Option Addr} {n c:Nat} {bs:List (Int × Tm × Value)} {x:Int} (h:BRow w A n c bs):Calls Tryd.prog 53 #[.slice A n c,.int .i64 x] w (FoundPost w (lookB bs x)):=by
 obtain ⟨R,hR⟩:∃ R,lookB bs x=R:=⟨_,rfl⟩
 rw [hR]
 have hnI:(n:Int)≤1000000:=by have:=h.cap.2;omega
 have HR:=Lib.hid hR
 have HC:=Lib.hid h
 obtain ⟨W1,hW1⟩:∃ W,w.alloc (.cells #[.int .i64 0,.string ⟨#[]⟩,.string ⟨#[]⟩,.int .u64 0,.int .i64 0,.slice none 0 0] 25)=W:=⟨_,rfl⟩
 have HB:=Lib.hid (show Below w.heap.size w W1 from by rw [←hW1];exact (Below.refl _ _).alloc (Nat.le_refl _) _)
 have HX:=Lib.hid (show TBox W1 w.heap.size zeroT (.slice none 0 0) from by rw [←hW1];exact heap_alloc_new w _)
 subst hW1
 clear h hR
 go_enter Tryd.func53,Tryd.ntmps53
 go_upto_region 2 with fail
 generalize w.alloc (.cells #[.int .i64 0,.string ⟨#[]⟩,.string ⟨#[]⟩,.int .u64 0,.int .i64 0,.slice none 0 0] 25)=W1 at *
 go_loopw [6] (fun v6 wr=>∃ i:Nat,v6 = .int .i64 (i:Int)∧i≤n∧Hid (Below W1.heap.size W1 wr∧∀ j q,j<i→bs[j]?=some q→q.1≠x)) (fun v6 _=>((n:Int) - intOf v6).toNat)
 case atStart=>exact ⟨0,rfl,Nat.zero_le _,Lib.hid ⟨Below.refl _ _,fun j q hj=>absurd hj (by omega)⟩⟩
 case round=>
  obtain ⟨i,rfl,hi,HI⟩:=hrel
  by_cases hlt:i<n
  ·have hltI:(i:Int)<(n:Int):=by omega
   have hi0:(0:Int)≤(i:Int):=by omega
   have hil:i<bs.length:=by rw [HC.out.len];exact hlt
   obtain ⟨p,hp⟩:∃ p,bs[i]?=some p:=⟨_,List.getElem?_eq_getElem hil⟩
   obtain ⟨g,o,k,nl,ml,b,v,ts,nb,mb,A',c',rfl,hp2,hnb,hmb,hta,hg,q0,q1,q2,q3,q4,q5,q6⟩:=((HC.out.below HB.out).below HI.out.1).at_ hp
   obtain ⟨y,pt⟩:=p
   obtain ⟨L,hL⟩:∃ L,ts.length=L:=⟨_,rfl⟩
   rw [hL] at q6
   obtain ⟨z0,z1,z2,z3,z4,z5⟩:=(HX.out.below HI.out.1).frozens
   obtain ⟨s0,s1,s2,s3,s4,s5⟩:=(HX.out.below HI.out.1).cells (nb:=⟨#[]⟩) (mb:=⟨#[]⟩) rfl rfl
   have HQ:=Lib.hid (And.intro hp (And.intro hp2 (And.intro hnb (And.intro hmb hL))))
   have HLT:=Lib.hid hlt
   have HXr:=Lib.hid (HX.out.below HI.out.1)
   have HBr:=Lib.hid (HB.out.trans (HI.out.1.mono HB.out.size))
   clear hp hp2 hnb hmb hta hg hL hlt hi hil
   change (wr.cell? ⟨g,o+i * 7,none⟩=some (.int .i64 y)) at q0
   by_cases hy:y=x
   ·have HE:=Lib.hid (lookB_at HQ.out.1 hy HI.out.2)
    subst hy
    have hyb:(y==y)=true:=beq_self_eq_true y
    go_wp2
    obtain ⟨hbx,hgr⟩:=HXr.out.set6 (k:=k) (b:=b) (v:=v) ts (.slice A' L c') HQ.out.2.2.1 HQ.out.2.2.2.1
    obtain ⟨r0,r1,r2,r3,r4,r5⟩:=hbx.cells HQ.out.2.2.1 HQ.out.2.2.2.1
    refine bodyPost_ret (v:=.tuple #[.agg #[.int .i64 k,.string nb,.string mb,.int .u64 b,.int .i64 v,.slice A' L c'],.bool true]) (by simp [results,Tryd.results53,go_sem,r0,r1,r2,r3,r4,r5]) rfl ⟨?_,?_⟩
    ·rw [←HR.out,HE.out]
     show _=Ending.returned (.tuple #[valT pt.1 pt.2,.bool true])
     have h2:pt=(.mk k nl ml b v ts,.slice A' ts.length c'):=HQ.out.2.1
     rw [h2,valT_mk HQ.out.2.2.1 HQ.out.2.2.2.1,HQ.out.2.2.2.2]
    ·exact HBr.out.grown hgr HBr.out.size (fun j e=>by injection e with e;omega)
   ·have hyb:(y==x)=false:=beq_eq_false_iff_ne.2 hy
    have HE:=Lib.hid (show ∀ j q,j<i+1→bs[j]?=some q→q.1≠x from fun j q hj hq=>by
     by_cases hji:j=i
     ·subst hji
      have:=HQ.out.1
      rw [hq] at this
      injection this with this
      rw [this];exact hy
     ·exact HI.out.2 j q (by omega) hq)
    clear hy q1 q2 q3 q4 q5 q6 z0 z1 z2 z3 z4 z5 s0 s1 s2 s3 s4 s5
    go_wp2
    go_roundw
    case rel=>exact ⟨i+1,rfl,HLT.out,Lib.hid ⟨HI.out.1,HE.out⟩⟩
    case measure=>
     have:=HLT.out
     show ((n:Int) - ((i:Int)+1)).toNat<((n:Int) - (i:Int)).toNat
     omega
  ·have ei:i=n:=by omega
   subst ei
   have hnn:¬(i:Int)<(i:Int):=by omega
   have HE:=Lib.hid (lookB_none (bs:=bs) (x:=x) (fun j q hj hq=>HI.out.2 j q (by rw [←HC.out.len];exact hj) hq))
   have HXr:=Lib.hid (HX.out.below HI.out.1)
   have HBr:=Lib.hid (HB.out.trans (HI.out.1.mono HB.out.size))
   obtain ⟨z0,z1,z2,z3,z4,z5⟩:=(HX.out.below HI.out.1).frozens
   obtain ⟨s0,s1,s2,s3,s4,s5⟩:=(HX.out.below HI.out.1).cells (nb:=⟨#[]⟩) (mb:=⟨#[]⟩) rfl rfl
   clear hlt hi
   go_wp2
   obtain ⟨hbx,hgr⟩:=HXr.out.set6 (k:=0) (b:=0) (v:=0) (n:=[]) (m:=[]) [] (.slice none 0 0) (nb:=⟨#[]⟩) (mb:=⟨#[]⟩) rfl rfl
   obtain ⟨r0,r1,r2,r3,r4,r5⟩:=hbx.cells (nb:=⟨#[]⟩) (mb:=⟨#[]⟩) rfl rfl
   refine bodyPost_ret (v:=.tuple #[zTV,.bool false]) (by simp [results,Tryd.results53,go_sem,r0,r1,r2,r3,r4,r5,zTV]) rfl ⟨?_,?_⟩
   ·rw [←HR.out,HE.out]
   ·exact HBr.out.grown hgr HBr.out.size (fun j e=>by injection e with e;omega)
end Go.Proofs.YtgfeainpeplphaaDoor
namespace Go.Proofs.YtgfeainpeplphaaDoor
open Go.RowKit Hb Ht
set_option linter.unusedVariables false
set_option linter.unusedSimpArgs false
attribute [local go_sem] Oper.semAt_some
def sigB (bs:List (Int × Tm × Value)) (x:Int):Option Tm:=(lookB bs x).map (·.1)
theorem inst_kid {σ:Int→Option Tm} {k b v:Int} {n m:List UInt8} {ts:List Tm} (h:k≠1):inst σ (.mk k n m b v ts) = .mk k n m b v (ts.map (inst σ)):=by rw [inst,if_neg h,insts_map]
theorem lookB_mem {bs:List (Int × Tm × Value)} {x:Int} {p:Tm × Value} (h:lookB bs x=some p):∃ y,(y,p)∈bs:=by
 unfold lookB at h
 cases hf:bs.find? (fun p=>p.1==x) with
 | none=>rw [hf] at h;cases h
 | some q=>
  rw [hf] at h
  injection h with h
  exact ⟨q.1,by rw [←h];exact List.mem_of_find?_eq_some hf⟩
def SizedOk (t:Tm):Prop:=∀ (w:World) (sl:Value) (n:Nat) (A:Option Addr) (nb c:Nat) (bs:List (Int × Tm × Value)),TAt w w.heap.size t sl→Bare t→n≤4000→BRow w A nb c bs→Calls Tryd.prog 54 #[valT t sl,.slice A nb c,.int .i64 (n:Int)] w fun e w'=>e = .returned (.int .i64 (cnt (inst (sigB bs) t) n:Nat))∧Below w.heap.size w w'
theorem found_some {w:World} {A:Option Addr} {n c:Nat} {bs:List (Int × Tm × Value)} {x k b v:Int} {nl ml:List UInt8} {ts:List Tm} {nb mb:ByteArray} {A':Option Addr} {c' L:Nat} (h:BRow w A n c bs) (hl:lookB bs x=some (.mk k nl ml b v ts,.slice A' L c')) (hn:(⟨nl.toArray⟩:ByteArray)=nb) (hm:(⟨ml.toArray⟩:ByteArray)=mb) :
  Calls Tryd.prog 53 #[.slice A n c,.int .i64 x] w fun e w'=>e = .returned (.tuple #[.agg #[.int .i64 k,.string nb,.string mb,.int .u64 b,.int .i64 v,.slice A' L c'],.bool true])∧Below w.heap.size w w':=
 (Found_any h).mono fun e w' he=>by
  obtain ⟨h1,h2⟩:=he
  rw [hl] at h1
  refine ⟨?_,h2⟩
  rw [h1]
  show Ending.returned (.tuple #[valT _ _,_])=_
  rw [valT_mk hn hm]
theorem found_none {w:World} {A:Option Addr} {n c:Nat} {bs:List (Int × Tm × Value)} {x:Int} (h:BRow w A n c bs) (hl:lookB bs x=none) :
  Calls Tryd.prog 53 #[.slice A n c,.int .i64 x] w fun e w'=>e = .returned (.tuple #[.agg #[.int .i64 0,.string ⟨#[]⟩,.string ⟨#[]⟩,.int .u64 0,.int .i64 0,.slice none 0 0],.bool false])∧Below w.heap.size w w':=
 (Found_any h).mono fun e w' he=>by
  obtain ⟨h1,h2⟩:=he
  rw [hl] at h1
  exact ⟨h1,h2⟩
set_option maxRecDepth 100000 in
set_option maxHeartbeats 8000000 in
theorem sized_any (t:Tm):SizedOk t:=by
 refine Tm.ind (p:=SizedOk) (fun k nl ml b v ts ih=>?_) t
 intro w sl n A nb_ c_ bs h hbare hn hbs
 obtain ⟨A0,c,rfl,hl1,hl2,hl3⟩:=h.slice
 obtain ⟨nb,hnb⟩:∃ nb:ByteArray,(⟨nl.toArray⟩:ByteArray)=nb:=⟨_,rfl⟩
 obtain ⟨mb,hmb⟩:∃ mb:ByteArray,(⟨ml.toArray⟩:ByteArray)=mb:=⟨_,rfl⟩
 obtain ⟨L,hL⟩:∃ L,ts.length=L:=⟨_,rfl⟩
 have hv:=(h.ok).2.2.2.1
 change -9223372036854775808≤v∧v≤9223372036854775807 at hv
 change ts.length≤c at hl1
 change ts.length≤maxArgs at hl3
 change TAt w w.heap.size (.mk k nl ml b v ts) (.slice A0 ts.length c) at h
 change Calls Tryd.prog 54 #[valT _ (.slice A0 ts.length c),_,_] w _
 rw [valT_mk hnb hmb]
 rw [hL] at h hl1 hl3 ⊢
 obtain ⟨R,hR⟩:∃ R,cnt (inst (sigB bs) (.mk k nl ml b v ts)) n=R:=⟨_,rfl⟩
 rw [hR]
 have hv1:=hv.1
 have hv2:=hv.2
 have HIH:=Lib.hid ih
 have HT:=Lib.hid h
 have HL:=Lib.hid hL
 have HRr:=Lib.hid hR
 have HBs:=Lib.hid hbs
 have HBa:=Lib.hid hbare
 have hLI:(L:Int)≤1759218604400:=by unfold maxArgs at hl3;omega
 have hX:=TBox.new (ts:=ts) w (k:=k) (b:=b) (v:=v) (sl:=.slice A0 L c) hnb hmb
 have hB:=Lib.hid (show Below w.heap.size w (w.alloc (.cells #[.int .i64 k,.string nb,.string mb,.int .u64 b,.int .i64 v,.slice A0 L c] 25)) from (Below.refl _ _).alloc (Nat.le_refl _) _)
 obtain ⟨x0,x1,x2,x3,x4,x5⟩:=hX.cells hnb hmb
 have HX:=Lib.hid hX
 have HM:=Lib.hid (And.intro hnb hmb)
 clear ih h hR hL hnb hmb hX hbs hbare hv
 go_enter Tryd.func54,Tryd.ntmps54
 by_cases hk:k=1
 ·subst hk
  obtain rfl:ts = []:=HBa.out.1 (by decide)
  obtain rfl:L=0:=HL.out.symm
  cases hlk:lookB bs v with
  | some p=>
   have HE:=Lib.hid (show cnt p.1 n=R from by rw [←HRr.out,inst,if_pos rfl];unfold sigB;rw [hlk];rfl)
   obtain ⟨y,hy⟩:=lookB_mem hlk
   have HK:=HBs.out.kid _ hy
   obtain ⟨u,su⟩:=p
   obtain ⟨k2,n2,m2,b2,v2,ts2,nb2,mb2,A2,c2,hT,hsl,hn2,hm2,_⟩:=HK.letters
   change u=_ at hT
   change su=_ at hsl
   subst hT hsl
   have HF:=Lib.hid (found_some (HBs.out.below hB.out) hlk hn2 hm2)
   have HK2:=Lib.hid (show TAt w w.heap.size (.mk k2 n2 m2 b2 v2 ts2) (.slice A2 ts2.length c2) from HK)
   have HM2:=Lib.hid (And.intro hn2 hm2)
   obtain ⟨L2,hL2⟩:∃ L,ts2.length=L:=⟨_,rfl⟩
   rw [hL2] at HF HK2
   clear HK hlk hy hn2 hm2 hL2
   go_wp2_with fail
   (with_reducible refine HF.out.mono ?_)
   rintro e w2 ⟨rfl,hb2⟩
   have HB2:=Lib.hid (hB.out.trans (hb2.mono hB.out.size))
   clear hb2 x0 x1 x2 x3 x4 x5 HF
   have hX2:=TBox.new (ts:=ts2) w2 (k:=k2) (b:=b2) (v:=v2) (sl:=.slice A2 L2 c2) HM2.out.1 HM2.out.2
   have HB3:=Lib.hid (show Below w.heap.size w (w2.alloc (.cells #[.int .i64 k2,.string nb2,.string mb2,.int .u64 b2,.int .i64 v2,.slice A2 L2 c2] 25)) from HB2.out.alloc HB2.out.size _)
   obtain ⟨y0,y1,y2,y3,y4,y5⟩:=hX2.cells HM2.out.1 HM2.out.2
   have HC:=Lib.hid (rcount_any (.mk k2 n2 m2 b2 v2 ts2) _ (.slice A2 L2 c2) n (HK2.out.to HB3.out HB3.out.size) hn)
   rw [valT_mk HM2.out.1 HM2.out.2] at HC
   clear hX2
   go_wp2_with fail
   (with_reducible refine HC.out.mono ?_)
   rintro e w4 ⟨rfl,hb4⟩
   have HB4:=Lib.hid (HB3.out.trans (hb4.mono HB3.out.size))
   clear hb4
   go_wp2
   go_ret
   exact ⟨by rw [←HE.out];rfl,HB4.out⟩
  | none=>
   have HE:=Lib.hid (show n+1=R from by rw [←HRr.out,inst,if_pos rfl];unfold sigB;rw [hlk];rfl)
   have HF:=Lib.hid (found_none (HBs.out.below hB.out) hlk)
   clear hlk
   go_upto_region 7 with (go_at_call 53;(with_reducible refine HF.out.mono ?_);rintro e w2 ⟨rfl,hb2⟩;have HB2:=Lib.hid (hB.out.trans (hb2.mono hB.out.size));have HX2:=Lib.hid (HX.out.below hb2);clear hb2 x0 x1 x2 x3 x4 x5 HF)
   have HB3:=Lib.hid (show Below w.heap.size w (w2.alloc (.cells #[.int .i64 0,.string ⟨#[]⟩,.string ⟨#[]⟩,.int .u64 0,.int .i64 0,.slice none 0 0] 25)) from HB2.out.alloc HB2.out.size _)
   have HX3:=Lib.hid (HX2.out.below ((Below.refl _ _).alloc (Nat.le_refl _) (.cells #[.int .i64 0,.string ⟨#[]⟩,.string ⟨#[]⟩,.int .u64 0,.int .i64 0,.slice none 0 0] 25)))
   generalize w2.alloc (.cells #[.int .i64 0,.string ⟨#[]⟩,.string ⟨#[]⟩,.int .u64 0,.int .i64 0,.slice none 0 0] 25)=w3 at *
   obtain ⟨x0,x1,x2,x3,x4,x5⟩:=HX3.out.cells HM.out.1 HM.out.2
   go_loopw [2,9] (fun v2 v9 wr=>v2 = .int .i64 ((n:Int)+1)∧v9 = .int .i64 0∧wr=w3) (fun _ _ _=>0)
   case atStart=>exact ⟨rfl,rfl,rfl⟩
   case round=>
    obtain ⟨rfl,rfl,rfl⟩:=hrel
    go_wp2
    go_ret
    exact ⟨by rw [←HE.out];rfl,HB3.out⟩
 ·have hk1:(k==1)=false:=beq_eq_false_iff_ne.2 hk
  have HE0:=Lib.hid (show cnts (ts.map (inst (sigB bs))) (n+1)=R from by rw [←HRr.out,inst_kid hk];rfl)
  go_upto_region 7 with fail
  obtain ⟨W1,hW1⟩:∃ W1,w.alloc (.cells #[.int .i64 k,.string nb,.string mb,.int .u64 b,.int .i64 v,.slice A0 L c] 25)=W1:=⟨_,rfl⟩
  rw [hW1] at hB HX x0 x1 x2 x3 x4 x5 ⊢
  have HT1:=Lib.hid (HT.out.to hB.out hB.out.size)
  clear hW1 x0 x1 x2 x3 x4 x5
  go_loopw [2,9] (fun v2 v9 wr=>∃ x i:Nat,v2 = .int .i64 (x:Int)∧v9 = .int .i64 (i:Int)∧i≤L∧x≤4001∧Hid (cnts ((ts.drop i).map (inst (sigB bs))) x=R∧Below W1.heap.size W1 wr)) (fun _ v9 _=>((L:Int) - intOf v9).toNat)
  case atStart=>exact ⟨n+1,0,rfl,rfl,Nat.zero_le _,by omega,Lib.hid ⟨HE0.out,Below.refl _ _⟩⟩
  case round=>
   obtain ⟨x,i,rfl,rfl,hi,hx,HI⟩:=hrel
   have hXr:=HX.out.below HI.out.2
   obtain ⟨x0,x1,x2,x3,x4,x5⟩:=hXr.cells HM.out.1 HM.out.2
   clear hXr
   by_cases hlt:i<L
   ·have hltI:(i:Int)<(L:Int):=by omega
    have hi0:(0:Int)≤(i:Int):=by omega
    have hil:i<ts.length:=by rw [HL.out];exact hlt
    obtain ⟨a,ha⟩:∃ a,ts[i]?=some a:=⟨_,List.getElem?_eq_getElem hil⟩
    have hTr:=(HT1.out.to HI.out.2 HI.out.2.size)
    obtain ⟨g,o,rfl,hgB,helt⟩:=hTr.arg ha
    obtain ⟨A',c',k',n',m',b',v',ts',nb',mb',rfl,hnb',hmb',hta,e0,e1,e2,e3,e4,e5⟩:=EltAt.cells helt
    have hd:ts.drop i = .mk k' n' m' b' v' ts' :: ts.drop (i+1):=by rw [List.drop_eq_getElem_cons hil,←List.getElem?_eq_some_iff.1 ha |>.2]
    have HC:=Lib.hid (HIH.out _ (List.mem_of_getElem? ha))
    have HN:=Lib.hid (And.intro hnb' hmb')
    have HTA:=Lib.hid hta
    have HLT:=Lib.hid hlt
    have HD:=Lib.hid hd
    have HBb:=Lib.hid (Bares.mem HBa.out.2 _ (List.mem_of_getElem? ha))
    clear hTr helt hta hnb' hmb' ha hil hlt hd hi
    by_cases hbig:4000<x
    ·have hbI:¬(x:Int)≤4000:=by omega
     have HE:=Lib.hid (show x=R from by
      have h9:=HI.out.1
      rw [HD.out,List.map_cons,cnts,if_pos hbig] at h9
      exact h9)
     have HB2:=Lib.hid HI.out.2
     clear hbig
     go_wp2
     go_ret
     exact ⟨by rw [HE.out];rfl,hB.out.trans (HB2.out.mono hB.out.size)⟩
    ·have hbI:(x:Int)≤4000:=by omega
     have HE:=Lib.hid (show cnts ((ts.drop (i+1)).map (inst (sigB bs))) (cnt (inst (sigB bs) (.mk k' n' m' b' v' ts')) x)=R from by
      have h9:=HI.out.1
      rw [HD.out,List.map_cons,cnts,if_neg hbig] at h9
      exact h9)
     have HCl:=Lib.hid (HC.out wr (.slice A' ts'.length c') x _ _ _ bs HTA.out HBb.out (by omega) ((HBs.out.below hB.out).below HI.out.2))
     rw [valT_mk HN.out.1 HN.out.2] at HCl
     have HSm:=Lib.hid (cnt_small (inst (sigB bs) (.mk k' n' m' b' v' ts')) x (by omega))
     have HB2:=Lib.hid HI.out.2
     generalize cnt (inst (sigB bs) (.mk k' n' m' b' v' ts')) x=z at *
     clear hbig
     go_wp2_with (go_at_call 54;(with_reducible refine HCl.out.mono ?_);rintro e w' ⟨rfl,hb3⟩;have HB3:=Lib.hid (HB2.out.trans (hb3.mono HB2.out.size));clear hb3)
     go_roundw
     case rel=>exact ⟨z,i+1,rfl,rfl,HLT.out,HSm.out,Lib.hid ⟨HE.out,HB3.out⟩⟩
     case measure=>
      have:=HLT.out
      show ((L:Int) - ((i:Int)+1)).toNat<((L:Int) - (i:Int)).toNat
      omega
   ·have ei:i=L:=by omega
    subst ei
    have HE:=Lib.hid (show x=R∧Below W1.heap.size W1 wr from by
     have h9:=HI.out
     rw [List.drop_of_length_le (by rw [HL.out];exact Nat.le_refl _)] at h9
     exact h9)
    clear hlt hi
    go_wp2
    go_ret
    exact ⟨by rw [HE.out.1];rfl,hB.out.trans (HE.out.2.mono hB.out.size)⟩
end Go.Proofs.YtgfeainpeplphaaDoor
namespace Go.Proofs.YtgfeainpeplphaaDoor
open Go.RowKit Hb Ht
set_option linter.unusedVariables false
set_option linter.unusedSimpArgs false
attribute [local go_sem] Oper.semAt_some
def InstOk (t:Tm):Prop:=∀ (w:World) (sl:Value) (B:Option Addr) (nb cb:Nat) (bs:List (Int × Tm × Value)),TAt w w.heap.size t sl→Bare t→BRow w B nb cb bs→Calls Tryd.prog 55 #[valT t sl,.slice B nb cb] w fun e w'=>∃ sl',e = .returned (valT (inst (sigB bs) t) sl')∧FreshT w w' (inst (sigB bs) t) sl'∧Below w.heap.size w w'
theorem TAtP.bare {w:World} {P:Nat→Prop} {t:Tm} {A:Option Addr} {c:Nat} (h:t.as = []) (hc:c≤maxLen) (ho:okF t):TAtP w P t (.slice A 0 c):=
 TAtP.iff.2 ⟨A,c,by rw [h];rfl,by rw [h];exact Nat.zero_le _,hc,by rw [h];exact Nat.zero_le _,ho,fun hn=>absurd h hn⟩
theorem FreshT.keepG {w w0 w' w2:World} {N:Nat} {t:Tm} {sl:Value} (h:FreshT w0 w' t sl) (hw:w.heap.size≤w0.heap.size) (hg:w'.grownBy w2 (some N)) (hN:N<w0.heap.size):FreshT w w2 t sl:=
 TAtP.keep _ h fun b hb=>⟨⟨Nat.le_trans hw hb.1,Nat.lt_of_lt_of_le hb.2 hg.size⟩,hg.block b hb.2 (fun e=>by injection e with e;have:=hb.1;omega)⟩
set_option maxRecDepth 100000 in
set_option maxHeartbeats 8000000 in
theorem Inst_any (t:Tm):InstOk t:=by
 refine Tm.ind (p:=InstOk) (fun k nl ml b v ts ih=>?_) t
 intro w sl BA nbs cbs bs h hbare hbs
 obtain ⟨A,c,rfl,hl1,hl2,hl3⟩:=h.slice
 have hok:=h.ok
 have hv : -9223372036854775808≤v∧v≤9223372036854775807:=hok.2.2.2.1
 have hv1:=hv.1
 have hv2:=hv.2
 obtain ⟨nb,hnb⟩:∃ nb:ByteArray,(⟨nl.toArray⟩:ByteArray)=nb:=⟨_,rfl⟩
 obtain ⟨mb,hmb⟩:∃ mb:ByteArray,(⟨ml.toArray⟩:ByteArray)=mb:=⟨_,rfl⟩
 obtain ⟨L,hL⟩:∃ L,ts.length=L:=⟨_,rfl⟩
 change ts.length≤c at hl1
 change ts.length≤maxArgs at hl3
 change TAt w w.heap.size (.mk k nl ml b v ts) (.slice A ts.length c) at h
 change Calls Tryd.prog 55 #[valT _ (.slice A ts.length c),_] w _
 rw [valT_mk hnb hmb]
 rw [hL] at h hl1 hl3 ⊢
 have HIH:=Lib.hid ih
 have HL:=Lib.hid hL
 have HM:=Lib.hid (And.intro hnb hmb)
 have HOk:=Lib.hid hok
 have HMx:=Lib.hid hl3
 have HBs:=Lib.hid hbs
 have HBa:=Lib.hid hbare
 have HCc:=Lib.hid hl2
 have hLI:(L:Int)≤1759218604400:=by unfold maxArgs at hl3;omega
 obtain ⟨W1,hW1⟩:∃ W1,w.alloc (.cells #[.int .i64 k,.string nb,.string mb,.int .u64 b,.int .i64 v,.slice A L c] 25)=W1:=⟨_,rfl⟩
 obtain ⟨W2,hW2⟩:∃ W2,W1.alloc (.cells #[.int .i64 0,.string ⟨#[]⟩,.string ⟨#[]⟩,.int .u64 0,.int .i64 0,.slice none 0 0] 25)=W2:=⟨_,rfl⟩
 obtain ⟨W3,hW3⟩:∃ W3,W2.alloc (.cells #[.int .i64 k,.string nb,.string mb,.int .u64 b,.int .i64 v,.slice none 0 0] 25)=W3:=⟨_,rfl⟩
 have hb1:Below w.heap.size w W1:=by rw [←hW1];exact (Below.refl _ _).alloc (Nat.le_refl _) _
 have s1:W1.heap.size=w.heap.size+1:=by rw [←hW1];simp
 have hb2:Below W1.heap.size W1 W2:=by rw [←hW2];exact (Below.refl _ _).alloc (Nat.le_refl _) _
 have s2:W2.heap.size=W1.heap.size+1:=by rw [←hW2];simp
 have hb3:Below W2.heap.size W2 W3:=by rw [←hW3];exact (Below.refl _ _).alloc (Nat.le_refl _) _
 have s3:W3.heap.size=W2.heap.size+1:=by rw [←hW3];simp
 have hX1:TBox W1 w.heap.size (.mk k nl ml b v ts) (.slice A L c):=by rw [←hW1];exact TBox.new w hnb hmb
 have hX2:TBox W2 W1.heap.size zeroT (.slice none 0 0):=by rw [←hW2];exact heap_alloc_new W1 _
 have hX3:TBox W3 W2.heap.size (.mk k nl ml b v ts) (.slice none 0 0):=by rw [←hW3];exact TBox.new W2 hnb hmb
 have hX1':=(hX1.below hb2).below hb3
 have hX2':=hX2.below hb3
 rw [s2,s1] at hX3
 rw [s1] at hX2'
 obtain ⟨x0,x1,x2,x3,x4,x5⟩:=(hX1.below hb2).cells hnb hmb
 have HB:=Lib.hid (hb1.trans ((hb2.trans (hb3.mono (by omega))).mono (by omega)))
 have HB0:=Lib.hid (hb1.trans (hb2.mono (by omega)))
 rw [s1] at hX2
 have HX0:=Lib.hid (And.intro (hX1.below hb2) hX2)
 have hs2:w.heap.size+1<W2.heap.size:=by omega
 have HT:=Lib.hid h
 have HS:=Lib.hid (show w.heap.size+1+1+1≤W3.heap.size by omega)
 have HW:=Lib.hid hW3
 have HI0:=Lib.hid (show ROwnI w w.heap.size 0 0 none (.mk k nl ml b v ts) (.slice A L c) [] W3 from ⟨HB.out,HS.out,hX1',hX2',hX3,TRow.nil _ _ _⟩)
 subst hW1 hW2
 clear ih h hL hnb hmb hok hl3 hX1 hX2 hX3 hX1' hX2' hb1 hb2 hb3 s1 s2 s3 hW3 hbs hbare hv hl2
 go_enter Tryd.func55,Tryd.ntmps55
 by_cases hk:k=1
 ·subst hk
  obtain rfl:ts = []:=HBa.out.1 (by decide)
  obtain rfl:L=0:=HL.out.symm
  clear HI0 HW HS HB
  cases hlk:lookB bs v with
  | some p=>
   have HE:=Lib.hid (show inst (sigB bs) (.mk 1 nl ml b v [])=p.1 from by rw [inst,if_pos rfl];unfold sigB;rw [hlk];rfl)
   obtain ⟨y,hy⟩:=lookB_mem hlk
   have HK:=HBs.out.kid _ hy
   obtain ⟨u,su⟩:=p
   obtain ⟨k2,n2,m2,b2,v2,ts2,nb2,mb2,A2,c2,hT,hsl,hn2,hm2,_⟩:=HK.letters
   change u=_ at hT
   change su=_ at hsl
   subst hT hsl
   have HF:=Lib.hid (found_some (HBs.out.below HB0.out) hlk hn2 hm2)
   have HK2:=Lib.hid (show TAt w w.heap.size (.mk k2 n2 m2 b2 v2 ts2) (.slice A2 ts2.length c2) from HK)
   have HM2:=Lib.hid (And.intro hn2 hm2)
   obtain ⟨L2,hL2⟩:∃ L,ts2.length=L:=⟨_,rfl⟩
   rw [hL2] at HF HK2
   have HL2:=Lib.hid hL2
   clear HK hlk hy hn2 hm2 hL2
   go_wp2_with fail
   (with_reducible refine HF.out.mono ?_)
   rintro e w2 ⟨rfl,hb2⟩
   have HB2:=Lib.hid (HB0.out.trans (hb2.mono HB0.out.size))
   have HX2:=Lib.hid (And.intro (HX0.out.2.below hb2) hb2.size)
   clear hb2 x0 x1 x2 x3 x4 x5 HF
   have hX2:=TBox.new (ts:=ts2) w2 (k:=k2) (b:=b2) (v:=v2) (sl:=.slice A2 L2 c2) HM2.out.1 HM2.out.2
   have hB3:Below w2.heap.size w2 (w2.alloc (.cells #[.int .i64 k2,.string nb2,.string mb2,.int .u64 b2,.int .i64 v2,.slice A2 L2 c2] 25)):=(Below.refl _ _).alloc (Nat.le_refl _) _
   have HB3:=Lib.hid (HB2.out.trans (hB3.mono HB2.out.size))
   have HX3:=Lib.hid (And.intro (HX2.out.1.below hB3) (Nat.le_trans HX2.out.2 hB3.size))
   obtain ⟨y0,y1,y2,y3,y4,y5⟩:=hX2.cells HM2.out.1 HM2.out.2
   have HC:=Lib.hid (fresh_letters HM2.out.1 HM2.out.2 HL2.out (ROwn_any (.mk k2 n2 m2 b2 v2 ts2) _ (.slice A2 L2 c2) (HK2.out.to HB3.out HB3.out.size)))
   rw [valT_mk HM2.out.1 HM2.out.2] at HC
   clear hX2 hB3
   go_wp2_with fail
   (with_reducible refine HC.out.mono ?_)
   rintro e w4 ⟨A4,c4,rfl,hf4,hb4⟩
   have HB4:=Lib.hid (HB3.out.trans (hb4.mono HB3.out.size))
   have HX4:=Lib.hid (And.intro (HX3.out.1.below hb4) hf4)
   clear hb4 hf4 y0 y1 y2 y3 y4 y5
   obtain ⟨u0,u1,u2,u3,u4,u5⟩:=HX4.out.1.cells (nb:=⟨#[]⟩) (mb:=⟨#[]⟩) rfl rfl
   obtain ⟨z0,z1,z2,z3,z4,z5⟩:=HX4.out.1.frozens
   go_wp2
   obtain ⟨hbx,hgr⟩:=HX4.out.1.set6 (k:=k2) (b:=b2) (v:=v2) ts2 (.slice A4 L2 c4) HM2.out.1 HM2.out.2
   obtain ⟨r0,r1,r2,r3,r4,r5⟩:=hbx.cells HM2.out.1 HM2.out.2
   have hz:=HB3.out.size
   have hz2:=HX3.out.2
   refine bodyPost_ret (v:=.agg #[.int .i64 k2,.string nb2,.string mb2,.int .u64 b2,.int .i64 v2,.slice A4 L2 c4]) (by simp [results,Tryd.results55,go_sem,r0,r1,r2,r3,r4,r5]) rfl ⟨.slice A4 L2 c4,by rw [HE.out];show _=Ending.returned (valT (.mk k2 n2 m2 b2 v2 ts2) _);rw [valT_mk HM2.out.1 HM2.out.2],?_,?_⟩
   ·rw [HE.out]
    exact HX4.out.2.keepG (by omega) hgr (by omega)
   ·exact HB4.out.grown hgr HB4.out.size (fun j e=>by injection e with e;omega)
  | none=>
   have HE:=Lib.hid (show inst (sigB bs) (.mk 1 nl ml b v []) = .mk 1 nl ml b v [] from by rw [inst,if_pos rfl];unfold sigB;rw [hlk];rfl)
   have HF:=Lib.hid (found_none (HBs.out.below HB0.out) hlk)
   clear hlk
   go_wp2_with fail
   (with_reducible refine HF.out.mono ?_)
   rintro e w2 ⟨rfl,hb2⟩
   have HB2:=Lib.hid (HB0.out.trans (hb2.mono HB0.out.size))
   have hB3:Below w2.heap.size w2 (w2.alloc (.cells #[.int .i64 0,.string ⟨#[]⟩,.string ⟨#[]⟩,.int .u64 0,.int .i64 0,.slice none 0 0] 25)):=(Below.refl _ _).alloc (Nat.le_refl _) _
   have HB3:=Lib.hid (HB2.out.trans (hB3.mono HB2.out.size))
   have HX3:=Lib.hid (And.intro ((HX0.out.2.below hb2).below hB3) ((HX0.out.1.below hb2).below hB3))
   clear hb2 x0 x1 x2 x3 x4 x5 HF hB3
   obtain ⟨u0,u1,u2,u3,u4,u5⟩:=HX3.out.1.cells (nb:=⟨#[]⟩) (mb:=⟨#[]⟩) rfl rfl
   obtain ⟨z0,z1,z2,z3,z4,z5⟩:=HX3.out.1.frozens
   obtain ⟨x0,x1,x2,x3,x4,x5⟩:=HX3.out.2.cells HM.out.1 HM.out.2
   go_wp2
   obtain ⟨hbx,hgr⟩:=HX3.out.1.set6 (k:=1) (b:=b) (v:=v) [] (.slice A 0 c) HM.out.1 HM.out.2
   obtain ⟨r0,r1,r2,r3,r4,r5⟩:=hbx.cells HM.out.1 HM.out.2
   refine bodyPost_ret (v:=.agg #[.int .i64 1,.string nb,.string mb,.int .u64 b,.int .i64 v,.slice A 0 c]) (by simp [results,Tryd.results55,go_sem,r0,r1,r2,r3,r4,r5]) rfl ⟨.slice A 0 c,by rw [HE.out,valT_mk HM.out.1 HM.out.2],?_,?_⟩
   ·rw [HE.out]
    exact TAtP.bare rfl HCc.out HOk.out
   ·exact HB3.out.grown hgr HB3.out.size (fun j e=>by injection e with e;omega)
 ·have hk1:(k==1)=false:=beq_eq_false_iff_ne.2 hk
  have HK1:=Lib.hid hk
  clear hk HX0 HB0 hs2
  go_upto_region 9 with fail
  rw [HW.out]
  clear x0 x1 x2 x3 x4 x5 HW
  obtain ⟨G,hG⟩:∃ G,w.heap.size=G:=⟨_,rfl⟩
  have HG:=Lib.hid hG
  rw [hG] at HI0 ⊢
  clear hG HB HS
  go_loopw [8] (fun v4 wr=>∃ i A2 c2 ps,v4 = .int .i64 (i:Nat)∧i≤L∧Hid (ROwnI w G i c2 A2 (.mk k nl ml b v ts) (.slice A L c) ps wr∧ps.map (·.1)=(ts.take i).map (inst (sigB bs)))) (fun v4 _=>((L:Int) - intOf v4).toNat)
  case atStart=>exact ⟨0,none,0,[],rfl,Nat.zero_le _,Lib.hid ⟨HI0.out,by simp⟩⟩
  case round=>
   obtain ⟨i,A2,c2,ps,rfl,hi,HI⟩:=hrel
   obtain ⟨x0,x1,x2,x3,x4,x5⟩:=HI.out.1.t1.cells HM.out.1 HM.out.2
   obtain ⟨y0,y1,y2,y3,y4,y5⟩:=HI.out.1.t3.cells HM.out.1 HM.out.2
   by_cases hlt:i<L
   ·have hltI:(i:Int)<(L:Int):=by omega
    have hi0:(0:Int)≤(i:Int):=by omega
    have hil:i<ts.length:=by rw [HL.out];exact hlt
    obtain ⟨a,ha⟩:∃ a,ts[i]?=some a:=⟨_,List.getElem?_eq_getElem hil⟩
    obtain ⟨g,o,rfl,hgB,helt⟩:=(HT.out.to HI.out.1.bel HI.out.1.bel.size).arg ha
    obtain ⟨A',c',k',n',m',b',v',ts',nb',mb',rfl,hnb',hmb',hta,e0,e1,e2,e3,e4,e5⟩:=EltAt.cells helt
    obtain ⟨q,hq⟩:∃ q,ts'.length=q:=⟨_,rfl⟩
    obtain ⟨U,hU⟩:∃ U,inst (sigB bs) (.mk k' n' m' b' v' ts')=U:=⟨_,rfl⟩
    obtain ⟨k3,n3,m3,b3,v3,ts3⟩:=U
    obtain ⟨nb3,hnb3⟩:∃ nb:ByteArray,(⟨n3.toArray⟩:ByteArray)=nb:=⟨_,rfl⟩
    obtain ⟨mb3,hmb3⟩:∃ mb:ByteArray,(⟨m3.toArray⟩:ByteArray)=mb:=⟨_,rfl⟩
    obtain ⟨q3,hq3⟩:∃ q,ts3.length=q:=⟨_,rfl⟩
    have HCl:=HIH.out _ (List.mem_of_getElem? ha) wr.drew _ BA nbs cbs bs (hta.to (below_drew' wr) (Nat.le_refl _)) (Bares.mem HBa.out.2 _ (List.mem_of_getElem? ha)) (HBs.out.below (HI.out.1.bel.trans ((below_drew' wr).mono HI.out.1.bel.size)))
    rw [hU] at HCl
    replace HCl:=Lib.hid (fresh_letters hnb3 hmb3 hq3 HCl)
    have HN3:=Lib.hid (And.intro hnb3 hmb3)
    rw [valT_mk hnb' hmb'] at HCl
    have HN:=Lib.hid (And.intro hnb' hmb')
    have HLT:=Lib.hid hlt
    have hgw:g<w.heap.size:=by
     obtain ⟨g1,o1,e9,hg1,_⟩:=HT.out.arg ha
     cases e9;exact hg1
    have HGW:=Lib.hid hgw
    have HTk:=Lib.hid (show (ts.take (i+1)).map (inst (sigB bs))=(ts.take i).map (inst (sigB bs)) ++ [.mk k3 n3 m3 b3 v3 ts3] by rw [List.take_succ_eq_append_getElem hil,(List.getElem?_eq_some_iff.1 ha).2,List.map_append,List.map_singleton,hU])
    rw [hq] at e5 HCl
    have hcap:=HI.out.1.row.cap
    clear helt hta hnb' hmb' ha hil hlt hi hq hgw hU hnb3 hmb3 hq3
    have KS:ROwnS G (G+1+1) g (o+i * 6) (.slice A2 i c2) (.slice (some ⟨g,o,none⟩) L c) k' nb' mb' b' v' (.slice A' q c') wr:=⟨y5,x5,e0,e1,e2,e3,e4,e5⟩
    clear x0 x1 x2 x3 x4 y0 y1 y2 y3 y4
    go_upto_region 11 with fail
    refine wp_region_wait (ROwnS G (G+1+1) g (o+i * 6) (.slice A2 i c2) (.slice (some ⟨g,o,none⟩) L c) k' nb' mb' b' v' (.slice A' q c')) 12 (by kernel_rfl) ?_
    refine wpAnyW_take 12 (i:=0) (v:=.pointer (some ⟨G+1+1,5,none⟩)) rfl (by kernel_rfl) (by kernel_rfl) (by kernel_rfl) (by kernel_rfl) (fun _ _ _ h=>h) (Or.inl ⟨by rfl,?_⟩) (by exact KS) ?_
    ·intro w5 hSw
     obtain ⟨s1,s2,s3,s4,s5,s6,s7,s8⟩:=hSw
     go_simp
    refine wpAnyW_take 12 (i:=1) (v:=.slice A2 i c2) rfl (by kernel_rfl) (by kernel_rfl) (by kernel_rfl) (by kernel_rfl) (fun _ _ _ h=>h) (Or.inl ⟨by rfl,?_⟩) (by exact KS) ?_
    ·intro w5 hSw
     obtain ⟨s1,s2,s3,s4,s5,s6,s7,s8⟩:=hSw
     go_simp
    refine wpAnyW_take 12 (i:=2) (v:=.pointer (some ⟨G,5,none⟩)) rfl (by kernel_rfl) (by kernel_rfl) (by kernel_rfl) (by kernel_rfl) (fun _ _ _ h=>h) (Or.inl ⟨by rfl,?_⟩) (by exact KS) ?_
    ·intro w5 hSw
     obtain ⟨s1,s2,s3,s4,s5,s6,s7,s8⟩:=hSw
     go_simp
    refine wpAnyW_take 12 (i:=3) (v:=.slice (some ⟨g,o,none⟩) L c) rfl (by kernel_rfl) (by kernel_rfl) (by kernel_rfl) (by kernel_rfl) (fun _ _ _ h=>h) (Or.inl ⟨by rfl,?_⟩) (by exact KS) ?_
    ·intro w5 hSw
     obtain ⟨s1,s2,s3,s4,s5,s6,s7,s8⟩:=hSw
     go_simp
    refine wpAnyW_take 12 (i:=4) (v:=.int .i64 (i:Int)) rfl (by kernel_rfl) (by kernel_rfl) (by kernel_rfl) (by kernel_rfl) (fun _ _ _ h=>h) (Or.inl ⟨by rfl,?_⟩) (by exact KS) ?_
    ·intro w5 hSw
     obtain ⟨s1,s2,s3,s4,s5,s6,s7,s8⟩:=hSw
     go_simp
    refine wpAnyW_take 12 (i:=5) (v:=.pointer (some ⟨g,o+i * 6,none⟩)) rfl (by kernel_rfl) (by kernel_rfl) (by kernel_rfl) (by kernel_rfl) (fun _ _ _ h=>h) (Or.inl ⟨by rfl,?_⟩) (by exact KS) ?_
    ·intro w5 hSw
     obtain ⟨s1,s2,s3,s4,s5,s6,s7,s8⟩:=hSw
     go_simp
    refine wpAnyW_take 12 (i:=6) (v:=(.agg #[.int .i64 k',.string nb',.string mb',.int .u64 b',.int .i64 v',.slice A' q c'])) rfl (by kernel_rfl) (by kernel_rfl) (by kernel_rfl) (by kernel_rfl) (fun _ _ _ h=>h) (Or.inl ⟨by rfl,?_⟩) (by exact KS) ?_
    ·intro w5 hSw
     obtain ⟨s1,s2,s3,s4,s5,s6,s7,s8⟩:=hSw
     go_simp
    refine wpAnyW_take 12 (i:=7) (v:=.slice BA nbs cbs) rfl (by kernel_rfl) (by kernel_rfl) (by kernel_rfl) (by kernel_rfl) (fun _ _ _ h=>h) (Or.inl ⟨by rfl,?_⟩) (by exact KS) ?_
    ·intro w5 hSw
     obtain ⟨s1,s2,s3,s4,s5,s6,s7,s8⟩:=hSw
     go_simp
    refine wpAnyW_one (i:=8) (by kernel_rfl) rfl (fun K hK=>?_)
    go_simp
    (with_reducible refine HCl.out.mono ?_)
    rintro ex w2 ⟨A4,c4,rfl,hf2,hb2⟩
    have hbw:Below wr.heap.size wr w2:=(below_drew' wr).trans hb2
    have KS2:=KS.keep (hbw.block _ HI.out.1.t3.lt) (hbw.block _ HI.out.1.t1.lt) (hbw.block _ hgB)
    have HBw:=Lib.hid hbw
    have HF2:=Lib.hid hf2
    clear hf2 hb2 hbw
    refine hK.out _ _ (fun _=>KS2) ?_
    refine wpAnyW_one (i:=9) (by kernel_rfl) rfl (fun K hK=>?_)
    go_simp
    have hb3:Below w2.heap.size w2 (w2.alloc (.cells #[.int .i64 k3,.string nb3,.string mb3,.int .u64 b3,.int .i64 v3,.slice A4 q3 c4] 25)):=(Below.refl _ _).alloc (Nat.le_refl _) _
    have hbw3:=HBw.out.trans (hb3.mono HBw.out.size)
    have KS3:=KS.keep (hbw3.block _ HI.out.1.t3.lt) (hbw3.block _ HI.out.1.t1.lt) (hbw3.block _ hgB)
    have hrow:=(HI.out.1.row.keep hbw3 (fun b hb=>hb.2)).wide (Q:=fun b=>G+1+1+1≤b∧b<(w2.alloc (.cells #[.int .i64 k3,.string nb3,.string mb3,.int .u64 b3,.int .i64 v3,.slice A4 q3 c4] 25)).heap.size) (fun b hb=>⟨hb.1,Nat.lt_of_lt_of_le hb.2 hbw3.size⟩)
    have hown:=HI.out.1.row.block
    have hkid:TAtP (w2.alloc (.cells #[.int .i64 k3,.string nb3,.string mb3,.int .u64 b3,.int .i64 v3,.slice A4 q3 c4] 25)) (fun b=>(G+1+1+1≤b∧b<(w2.alloc (.cells #[.int .i64 k3,.string nb3,.string mb3,.int .u64 b3,.int .i64 v3,.slice A4 q3 c4] 25)).heap.size)∧(Value.slice A2 i c2).ownBlock≠some b) (.mk k3 n3 m3 b3 v3 ts3) (.slice A4 q3 c4):=TAtP.keep _ HF2.out (fun b hb=>by
     have hle:=HI.out.1.le
     have hwb:wr.heap.size≤b:=hb.1
     refine ⟨⟨⟨by omega,Nat.lt_of_lt_of_le hb.2 hb3.size⟩,?_⟩,hb3.block b hb.2⟩
     rcases hown with ⟨h1,_⟩ | ⟨g1,h1,h2,h3,h4⟩
     ·subst h1;simp [Value.ownBlock]
     ·rw [h4];intro e;injection e with e;omega)
    have HR3:=Lib.hid (And.intro hrow (And.intro hkid hbw3))
    have hnews:=heap_alloc_new w2 (.cells #[.int .i64 k3,.string nb3,.string mb3,.int .u64 b3,.int .i64 v3,.slice A4 q3 c4] 25)
    have HNw:=Lib.hid (show ∀ j u,(fl6 [((.mk k3 n3 m3 b3 v3 ts3:Tm),Value.slice A4 q3 c4)])[j]?=some u→(w2.alloc (.cells #[.int .i64 k3,.string nb3,.string mb3,.int .u64 b3,.int .i64 v3,.slice A4 q3 c4] 25)).cell? ((⟨w2.heap.size,0,none⟩:Addr).add j)=some u from fun j u hj=>by
     rw [add_zero',cell_of_row _ w2.heap.size j _ _ (0,0) hnews,←hj,←HN3.out.1,←HN3.out.2]
     simp [fl6,cells6,Tm.k,Tm.n,Tm.m,Tm.b,Tm.v])
    clear hb3 hbw3 hrow hkid hnews hown
    generalize w2.alloc (.cells #[.int .i64 k3,.string nb3,.string mb3,.int .u64 b3,.int .i64 v3,.slice A4 q3 c4] 25)=w3 at *
    refine hK.out _ _ (fun _=>KS3) ?_
    refine wpAnyW_one (i:=10) (by kernel_rfl) rfl (fun K hK=>?_)
    refine step_append_T rfl _ _ rfl [((.mk k3 n3 m3 b3 v3 ts3:Tm),Value.slice A4 q3 c4)] rfl HR3.out.1 (fun b hb=>hb.2) ⟨w2.heap.size,0,none⟩ 1 1 rfl rfl (fun x hx=>by rw [List.mem_singleton.1 hx];exact HR3.out.2.1) HNw.out (by have:=HMx.out;have:=HLT.out;omega) (by have:=HI.out.1.le;have:=HR3.out.2.2.size;omega) ?_
    intro A5 c5 w4 hr4 hb4 hg4
    have hgG:g<G:=by rw [←HG.out];exact HGW.out
    have hle:=HI.out.1.le
    have e5:w4.heap[G+1+1]?=wr.heap[G+1+1]?:=(hb4.block _ (by omega)).trans (HR3.out.2.2.block _ (by omega))
    have e1:w4.heap[G]?=wr.heap[G]?:=(hb4.block _ (by omega)).trans (HR3.out.2.2.block _ (by omega))
    have e2:w4.heap[G+1]?=wr.heap[G+1]?:=(hb4.block _ (by omega)).trans (HR3.out.2.2.block _ (by omega))
    have KS4:=KS.keep e5 e1 ((hb4.block _ (by omega)).trans (HR3.out.2.2.block _ (by omega)))
    have ht1:TBox w4 G (.mk k nl ml b v ts) (.slice (some ⟨g,o,none⟩) L c):=e1.trans HI.out.1.t1
    have ht2:TBox w4 (G+1) zeroT (.slice none 0 0):=e2.trans HI.out.1.t2
    have ht3:TBox w4 (G+1+1) (.mk k nl ml b v ts) (.slice A2 i c2):=e5.trans HI.out.1.t3
    have z5:=ht3.frozen 5
    obtain ⟨_,_,_,_,_,y5⟩:=ht3.cells HM.out.1 HM.out.2
    have hsz:wr.heap.size≤w4.heap.size:=Nat.le_trans HR3.out.2.2.size hg4.size
    have hbel:Below G w w4:=by
     have h1:=HI.out.1.bel
     rw [HG.out] at h1
     exact h1.trans ((HR3.out.2.2.mono (by omega)).trans (hb4.mono (by omega)))
    have HE:=Lib.hid (show ROwnI w G (i+1) c5 A5 (.mk k nl ml b v ts) (.slice (some ⟨g,o,none⟩) L c) (ps ++ [((.mk k3 n3 m3 b3 v3 ts3:Tm),Value.slice A4 q3 c4)]) (w4.setCell ⟨G+1+1,5,none⟩ (.slice A5 (i+1) c5)) from
     ⟨by rw [HG.out];exact hbel.setCell (by show G≤G+1+1;omega) _,by show _≤(w4.setCell _ _).heap.size;simp [World.setCell];omega,ht1.far (by show G≠G+1+1;omega) _,ht2.far (by show G+1≠G+1+1;omega) _,ht3.args _,
      (hr4.keepP (fun b hb _=>Below.heap_setCell _ _ _ b (by show b≠G+1+1;omega)) (fun b hb=>Below.heap_setCell _ _ _ b (by show b≠G+1+1;omega))).wide (fun b hb=>⟨hb.1,by
       have h1:=hb.2;have h2:=hg4.size
       simp [World.setCell];omega⟩)⟩)
    have HE2:=Lib.hid (show (ps ++ [((.mk k3 n3 m3 b3 v3 ts3:Tm),Value.slice A4 q3 c4)]).map (·.1)=(ts.take (i+1)).map (inst (sigB bs)) from by rw [List.map_append,HI.out.2,HTk.out];rfl)
    clear hr4 hb4 hg4 hle e5 e1 e2 ht1 ht2 ht3 hsz hbel hgG
    refine hK.out _ _ (fun _=>KS4) ?_
    refine wpAnyW_one (i:=11) (by kernel_rfl) rfl (fun K hK=>?_)
    go_simp
    refine hK.out _ _ (fun _=>KS4) ?_
    refine wpAnyW_one (i:=12) (by kernel_rfl) rfl (fun K hK=>?_)
    go_simp
    refine hK.out _ _ (fun h=>absurd h (by simp)) ?_
    refine wpAnyW_done (by kernel_rfl) ?_ _
    clear KS KS2 KS3 KS4 z5
    go_wp2
    go_roundw
    case rel=>exact ⟨i+1,A5,c5,_,rfl,HLT.out,Lib.hid ⟨HE.out,HE2.out⟩⟩
    case measure=>
     have:=HLT.out
     show ((L:Int) - ((i:Int)+1)).toNat<((L:Int) - (i:Int)).toNat
     omega
   ·have ei:i=L:=by omega
    subst ei
    obtain ⟨u0,u1,u2,u3,u4,u5⟩:=HI.out.1.t2.cells rfl rfl
    have v0:=HI.out.1.t2.frozen 0
    have v1:=HI.out.1.t2.frozen 1
    have v2:=HI.out.1.t2.frozen 2
    have v3:=HI.out.1.t2.frozen 3
    have v4:=HI.out.1.t2.frozen 4
    have v5:=HI.out.1.t2.frozen 5
    clear hlt hi
    have HE:=Lib.hid HI.out
    go_wp2
    obtain ⟨hbx,hgr⟩:=HE.out.1.t2.set6 (k:=k) (b:=b) (v:=v) (ts.map (inst (sigB bs))) (.slice A2 i c2) HM.out.1 HM.out.2
    generalize (((((wr.setCell ⟨G+1,0,none⟩ (.int .i64 k)).setCell ⟨G+1,1,none⟩ (.string nb)).setCell ⟨G+1,2,none⟩ (.string mb)).setCell ⟨G+1,3,none⟩ (.int .u64 b)).setCell ⟨G+1,4,none⟩ (.int .i64 v)).setCell ⟨G+1,5,none⟩ (.slice A2 i c2)=w6 at *
    obtain ⟨r0,r1,r2,r3,r4,r5⟩:=hbx.cells HM.out.1 HM.out.2
    have hle:=HE.out.1.le
    have hGw:=HG.out
    have hbel:=HE.out.1.bel
    have hkeep:∀ b,G+1+1+1≤b→b<wr.heap.size→w6.heap[b]?=wr.heap[b]?:=fun b h1 h2=>hgr.block b h2 (fun e=>by injection e with e;omega)
    refine bodyPost_ret (v:=.agg #[.int .i64 k,.string nb,.string mb,.int .u64 b,.int .i64 v,.slice A2 i c2]) (by simp [results,Tryd.results55,go_sem,r0,r1,r2,r3,r4,r5]) rfl ⟨.slice A2 i c2,by rw [inst_kid HK1.out,valT_mk HM.out.1 HM.out.2],?_,?_⟩
    ·rw [inst_kid HK1.out]
     have h9:=HE.out.1.row.termP (t:=.mk k nl ml b v (ts.map (inst (sigB bs)))) (fun b h1 h2=>⟨h1,h2⟩) (by show ts.map _=_;rw [HE.out.2,List.take_of_length_le (by rw [HL.out];exact Nat.le_refl _)]) HMx.out HOk.out
     refine TAtP.keep _ h9 (fun b hb=>⟨⟨by have:=hb.1;omega,Nat.lt_of_lt_of_le hb.2 hgr.size⟩,hkeep b hb.1 hb.2⟩)
    ·exact hbel.grown hgr hbel.size (fun j e=>by injection e with e;omega)
end Go.Proofs.YtgfeainpeplphaaDoor
namespace Go.Proofs.YtgfeainpeplphaaDoor
open Go.RowKit Hb
set_option linter.unusedVariables false
set_option linter.unusedSimpArgs false
attribute [local go_sem] Oper.semAt_some
set_option maxRecDepth 100000 in
set_option maxHeartbeats 4000000 in
theorem rParse_goodL (s:ByteArray) (r:Nat) (w:World) (hs:s.size≤9223372036854775807) (hr:2≤r) (hr2:r≤36) :
  Calls Tryd.prog 78 #[.string s,.int .i64 (r:Int)] w (RpPost w (pVal s.data.toList r) (pCode s.data.toList r)):=by
 have HB:=Lib.hid ((Below.refl w.heap.size w).alloc (Nat.le_refl _) (.cells #[.bool false,.slice none 0 0] 106))
 have d1:decide ((r:Int)<2)=false:=decide_eq_false (by omega)
 have d2:decide ((36:Int)<(r:Int))=false:=decide_eq_false (by omega)
 have HP:=pNeg_cases s
 rcases HP with ⟨h1,hng⟩ | ⟨h1,hb,hng⟩ | ⟨h1,hb,hng,hs2,hsz2⟩
 ·obtain ⟨s',hs'⟩:∃ s':ByteArray,s'=s:=⟨_,rfl⟩
  have HS':=Lib.hid (And.intro (show s'.data.toList=pRest s.data.toList by rw [hs',pRest,hng];rfl) hng)
  have d5:decide ((0:Int)<(s'.size:Int))=false:=decide_eq_false (by rw [hs'];omega)
  have d6:decide (0<s'.size)=false:=decide_eq_false (by rw [hs'];omega)
  have hm:s'.size≤9223372036854775807:=by rw [hs'];omega
  have he0:s'.size=0:=by rw [hs'];exact h1
  rw [show (Value.string s) = .string s' by rw [hs']]
  clear hng h1 hs'
  go_enter Tryd.func78,Tryd.ntmps78
  have e1:=str_empty he0
  have HC:=Lib.hid (pCode_bad hr hr2 (pBad_empty (r:=r) HS'.out.1 he0))
  have hse:s'=⟨#[]⟩:=bytes_nil he0
  subst hse
  go_wp2
  exact bodyPost_ret (v:=.tuple #[zeroV,.int .i64 12]) (by simp [results,Tryd.results78,go_sem]) rfl (RpPost.bad HC.out (by decide) HB.out)
 ·obtain ⟨s',hs'⟩:∃ s':ByteArray,s'=s:=⟨_,rfl⟩
  have HS':=Lib.hid (And.intro (show s'.data.toList=pRest s.data.toList by rw [hs',pRest,hng];rfl) hng)
  have d5:decide ((0:Int)<(s'.size:Int))=true:=decide_eq_true (by rw [hs'];omega)
  have d6:decide (0<s'.size)=true:=decide_eq_true (by rw [hs'];exact h1)
  have hm:s'.size≤9223372036854775807:=by rw [hs'];omega
  have he:¬s'.size=0:=by rw [hs'];omega
  have hb9:∃ h:0<s'.size,s'[0].toNat≠45:=by subst hs';exact ⟨h1,hb⟩
  obtain ⟨h19,hb8⟩:=hb9
  rw [show (Value.string s) = .string s' by rw [hs']]
  have q2:(((s'[0]'h19).toNat:Int)==45)=false:=beq_eq_false_iff_ne.2 (by omega)
  clear hng h1 hs' hb hs hb8
  go_enter Tryd.func78,Tryd.ntmps78
  have hse:¬s'.size=0:=he
  have q1:=str_full hse
  go_wp2_with fail
  go_loop [7] (fun i=>∃ k:Nat,k≤s'.size∧i = .int .i64 k∧Hid (∀ j,j<k→(sdig s'.data.toList).getD j 0<r)) (fun i=>s'.size - (intOf i).toNat)
  case atStart=>exact ⟨0,Nat.zero_le _,rfl,Lib.hid (fun j hj=>absurd hj (Nat.not_lt_zero _))⟩
  case round=>
   obtain ⟨k,hk,rfl,hdj⟩:=hrel
   by_cases hks:k<s'.size
   ·have hk0:(0:Int)≤(k:Int):=by omega
    have hk1:(k:Int)<(s'.size:Int):=by omega
    have HV:=Lib.hid (fun w1=>rdigit_any s'[k].toNat w1 (UInt8.toNat_lt _))
    have HG:=Lib.hid (sdig_get s' hks)
    have H12:=Lib.hid (fun h=>pBad_at (r:=r) HS'.out.1 hks h)
    generalize hdv:dval s'[k].toNat=dv at *
    by_cases hlt:dv<r
    ·have d3:decide ((r:Int)≤(dv:Int))=false:=decide_eq_false (by omega)
     have d4:decide (r≤dv)=false:=decide_eq_false (by omega)
     clear hdv
     go_wp2_with (go_at_call 86;(with_reducible refine (HV.out _).mono ?_);rintro e w' ⟨rfl,rfl⟩)
     go_round
     case rel=>exact ⟨k+1,by omega,by go_num,Lib.hid (fun j hj=>by
      rcases Nat.lt_or_ge j k with h | h
      ·exact hdj.out j h
      ·obtain rfl:j=k:=by omega
       rw [HG.out];exact hlt)⟩
     case measure=>simp [intOf];omega
    ·have d3:decide ((r:Int)≤(dv:Int))=true:=decide_eq_true (by omega)
     have d4:decide (r≤dv)=true:=decide_eq_true (by omega)
     have HC:=Lib.hid (pCode_bad hr hr2 (H12.out (by omega)))
     clear hdv
     go_wp2_with (go_at_call 86;(with_reducible refine (HV.out _).mono ?_);rintro e w' ⟨rfl,rfl⟩)
     exact bodyPost_ret (v:=.tuple #[zeroV,.int .i64 12]) (by simp [results,Tryd.results78,go_sem]) rfl (RpPost.bad HC.out (by decide) HB.out)
   ·obtain rfl:k=s'.size:=by omega
    have HBd:=Lib.hid (pBad_none HS'.out.1 hse hdj.out)
    have HDJ:=hdj
    have hW0z:w.heap.size<(w.alloc (.cells #[.bool false,.slice none 0 0] 106)).heap.size:=by simp
    have HX:=Lib.hid (show (w.alloc (.cells #[.bool false,.slice none 0 0] 106)).heap[w.heap.size]?=some (.cells #[.bool false,.slice none 0 0] 106 (0,0)) from heap_alloc_new w _)
    go_wp2_with fail
    generalize (w.alloc (.cells #[.bool false,.slice none 0 0] 106))=W0 at *
    have HR0:=Lib.hid (RpRel.start W0)
    go_loopw [8,9] (fun bv iv wr=>∃ i:Nat,i≤s'.size∧iv = .int .i64 (i:Int)∧(digs 2 (pval r ((sdig s'.data.toList).take i))).length≤8192∧RpRel W0 (pval r ((sdig s'.data.toList).take i)) bv wr) (fun _ iv _=>s'.size - (intOf iv).toNat)
    case atStart=>exact ⟨0,Nat.zero_le _,rfl,by rw [List.take_zero];simp [pval,digs_zero],by rw [List.take_zero];exact HR0.out⟩
    case round=>
     obtain ⟨i,hi,rfl,hn8,A1,c1,rfl,ho1,hb1⟩:=hrel
     have HO:=Lib.hid ho1
     have HB1:=Lib.hid hb1
     have hz1:=hb1.size
     obtain ⟨V,hV⟩:∃ V,pval r ((sdig s'.data.toList).take i)=V:=⟨_,rfl⟩
     rw [hV] at HO hn8 ⊢
     have HV9:=Lib.hid hV
     have hi0:(0:Int)≤(i:Int):=by omega
     clear ho1 hb1 HR0 hV
     obtain ⟨n,hn⟩:∃ n,(digs 2 V).length=n:=⟨_,rfl⟩
     have HN:=Lib.hid hn
     rw [hn] at HO hn8 ⊢
     clear hn
     by_cases hgo:i<s'.size∧n≤4096
     ·have hiI:(i:Int)<(s'.size:Int):=by omega
      have hnI:(n:Int)≤4096:=by omega
      have hd6':decide (i<s'.size)=true:=decide_eq_true hgo.1
      have hd7':decide (n≤4096)=true:=decide_eq_true hgo.2
      have hd:=HDJ.out i hgo.1
      have HSn:=Lib.hid (show pval r ((sdig s'.data.toList).take (i+1))=V * r+dval s'[i].toNat by
       rw [List.take_succ_eq_append_getElem (by rw [sdig_length];exact hgo.1),pval_snoc,HV9.out,←sdig_get s' hgo.1,getD_eq (by rw [sdig_length];exact hgo.1)])
      rw [sdig_get s' hgo.1] at hd
      have HVd:=Lib.hid (fun w1=>rdigit_any s'[i].toNat w1 (UInt8.toNat_lt _))
      generalize dval s'[i].toNat=d at *
      obtain ⟨wo,hwo⟩:∃ wo:World,wo=wr:=⟨_,rfl⟩
      subst hwo
      have HDl:=Lib.hid (dig_digs (b:=2) (by decide) V)
      have HVl:=Lib.hid (nv_digs (b:=2) (by decide) V)
      generalize digs 2 V=l at *
      go_wp2_with (go_at_call 86;(with_reducible refine (HVd.out _).mono ?_);rintro e w' ⟨rfl,rfl⟩)
      go_loopw [10,11,12] (fun cv ov kv wr=>∃ (k cy:Nat) (O:List Nat) (A2:Option Addr) (c2:Nat),kv = .int .i64 (k:Int)∧cv = .int .i64 (cy:Int)∧ov = .slice A2 k c2∧Hid (RmInv l n r d k cy O)∧OwnI wr wo.heap.size A2 k c2 (i64s O)∧Below wo.heap.size wo wr) (fun cv _ kv _=>(n - (intOf kv).toNat) * 100+(intOf cv).toNat)
      case atStart=>exact ⟨0,d,[],none,0,rfl,rfl,rfl,Lib.hid ⟨rfl,Dig.nil _,by omega,fun _=>by omega,by simp [nvp_zero,nv]⟩,⟨rfl,.inl ⟨rfl,rfl⟩⟩,Below.refl _ _⟩
      case round=>
       obtain ⟨k,cy,O,A2,c2,rfl,rfl,rfl,HI,ho2,hb2⟩:=hrel
       have HO2:=Lib.hid ho2
       have HB2:=Lib.hid hb2
       have hz2:=hb2.size
       have hk0:(0:Int)≤(k:Int):=by omega
       have hcy:=HI.out.hc
       clear ho2 hb2
       by_cases hin:k<n∨0<cy
       ·have hk5:k≤5000:=by
         rcases Nat.lt_or_ge k n with h | h
         ·omega
         ·have:=HI.out.hb h;omega
        have HBt:=Lib.hid (show Calls Tryd.prog 87 #[.slice A1 n c1,.int .i64 (k:Int)] wr (fun e w'=>e = .returned (.int .i64 (l.getD k 0:Nat))∧wr=w') from by
         have h:=rbit_any ((HO.out.sl HDl.out HN.out).below (C:=wo.heap.size) HB2.out (Nat.le_refl _)) (k:Int)
         rwa [bitZ_nat] at h)
        have hyb:=HDl.out.getD (b:=2) (by decide) k
        have HSt:=Lib.hid (fun y t (hy:l.getD k 0=y) (hy2:y<2) (ht:y * r+cy=t)=>HI.out.step HN.out hr2 hy hy2 ht hin)
        obtain ⟨y,hy⟩:∃ y,l.getD k 0=y:=⟨_,rfl⟩
        rw [hy] at HBt hyb
        obtain ⟨p,hp⟩:∃ p,y * r=p:=⟨_,rfl⟩
        have hpi:(y:Int) * (r:Int)=(p:Int):=by rw [←hp];simp
        have hp36:p≤36:=by
         rcases (by omega:y=0∨y=1) with e | e <;> rw [←hp,e] <;> omega
        obtain ⟨t,ht⟩:∃ t,p+cy=t:=⟨_,rfl⟩
        have HS1:=Lib.hid (HSt.out y t hy hyb (by rw [hp];exact ht))
        have hti:(p:Int)+(cy:Int)=(t:Int):=by omega
        have ht9:(t:Int)≤72:=by omega
        have htm:(t:Int).tmod 2=((t % 2:Nat):Int):=by rw [Int.tmod_eq_emod_of_nonneg (by omega)];omega
        have htd:(t:Int).tdiv 2=((t / 2:Nat):Int):=by rw [Int.tdiv_eq_ediv_of_nonneg (by omega)];omega
        have hk5I:k≤4294967296:=by omega
        have hkI5:(k:Int)≤5000:=by omega
        have HME:=Lib.hid (show (n - (k+1)) * 100+t / 2<(n - k) * 100+cy by
         rcases Nat.lt_or_ge k n with h | h
         ·omega
         ·have hy0:y=0:=by rw [←hy];exact getD_past (by rw [HN.out];exact h)
          rw [hy0,Nat.zero_mul] at hp
          omega)
        clear hy hp ht HSt
        by_cases hkn:k<n
        case' pos=>
         have hkI:(k:Int)<(n:Int):=by omega
         have hkd:decide (k<n)=true:=decide_eq_true hkn
        case' neg=>
         have hkI:¬(k:Int)<(n:Int):=by omega
         have hkd:decide (k<n)=false:=decide_eq_false hkn
         have hcyI:(0:Int)<(cy:Int):=by omega
         have hcyd:decide (0<cy)=true:=decide_eq_true (by omega)
        all_goals
         go_wp2_with (first
          | (go_at_call 87;(with_reducible refine HBt.out.mono ?_);rintro e w' ⟨rfl,rfl⟩)
          | (at_builtin;refine wpList_append_i64 (by rfl) _ _ (by rfl) wo.heap.size A2 k c2 O (by rfl) (Own.alloc HO2.out _) wr.heap.size (t % 2) (by rfl) (by simp [go_sem]) hk5I (by simp;omega) ?_;intro A4 c4 w4 ho4 hb4))
         have HO4:=Lib.hid ho4
         have HB4:=Lib.hid ((HB2.out.alloc hz2 _).trans hb4)
         clear ho4 hb4
         go_wp2_with fail
         go_roundw
         case rel=>exact ⟨k+1,t / 2,O ++ [t % 2],A4,c4,by go_num,by first | rfl | go_num,rfl,HS1,HO4.out,HB4.out⟩
         case measure=>first | exact HME.out | (have:=HME.out;simp [intOf];omega)
       ·have hkn:n≤k:=by omega
        have hcy0:cy=0:=by omega
        subst hcy0
        have hk9:=HI.out.hb hkn
        have hv:=HI.out.hv
        rw [Nat.mul_zero,Nat.add_zero,nvp_all (by rw [HN.out];exact hkn),HVl.out] at hv
        have et:tr O=digs 2 (V * r+d):=by rw [tr_eq_digs (b:=2) (by decide) HI.out.dO,hv]
        have em:tlen O=(digs 2 (V * r+d)).length:=by rw [←et,tr_length]
        have hcut:=rcut_any (HO2.out.sl HI.out.dO HI.out.lo)
        rw [em] at hcut
        have HCut:=Lib.hid hcut
        have hml:tlen O≤k:=by rw [←HI.out.lo];exact tlen_le O
        have htk:=HO2.out.take hml
        rw [i64s_take] at htk
        have HR2:=Lib.hid (show RpRel W0 (pval r ((sdig s'.data.toList).take (i+1))) (.slice A2 (digs 2 (V * r+d)).length c2) wr from by
         rw [HSn.out]
         exact ⟨A2,c2,rfl,by rw [←em,←et];exact Own.mono htk hz1,HB1.out.trans (HB2.out.mono hz1)⟩)
        have HLe:=Lib.hid (show (digs 2 (pval r ((sdig s'.data.toList).take (i+1)))).length≤8192 by rw [HSn.out,←em];omega)
        have hk1:decide (k<n)=false:=decide_eq_false (by omega)
        have hk2:¬(k:Int)<(n:Int):=by omega
        clear hcut htk et em hv hml
        go_wp2_with (go_at_call 88;(with_reducible refine HCut.out.mono ?_);rintro e w2 ⟨rfl,rfl⟩)
        go_roundw
        case rel=>exact ⟨i+1,by omega,by go_num,HLe.out,HR2.out⟩
        case measure=>simp [intOf];omega
     ·have HPR:=Lib.hid HS'.out.1
      by_cases hbig:n≤4096
      ·obtain rfl:i=s'.size:=by omega
       have hVall:=HV9.out
       rw [List.take_of_length_le (by rw [sdig_length];exact Nat.le_refl _),HPR.out] at hVall
       have hVlt:=lt_of_digs_length (b:=2) (n:=V) (k:=4096) (by decide) (by rw [HN.out];exact hbig)
       have HC:=Lib.hid (pCode_ok hr hr2 HBd.out (by rw [hVall];exact hVlt))
       have HZ:=Lib.hid (show bval false (digs 2 V)=pVal s.data.toList (r:Int) by
        unfold bval pVal
        rw [nv_digs (by decide),HS'.out.2,Int.toNat_natCast,hVall])
       have hd6':decide (s'.size<s'.size)=false:=decide_eq_false (by omega)
       have hbigI:¬(4096:Int)<(n:Int):=by omega
       have hbd:decide (4096<n)=false:=decide_eq_false (by omega)
       have HDl:=Lib.hid (dig_digs (b:=2) (by decide) V)
       clear hVall hVlt
       generalize pVal s.data.toList (r:Int)=z at *
       generalize digs 2 V=l at *
       go_wp2_with fail
       (with_reducible refine (rlaid_at false HO.out HN.out HDl.out HZ.out).mono ?_)
       rintro ex w5 ⟨rfl,ho5,hb5⟩
       obtain ⟨r0,r1,r2,r3⟩:=two_cells (HB1.out.trans (hb5.mono hz1)) HX.out hW0z
       have HO5:=Lib.hid ho5
       have HB5:=Lib.hid (HB.out.trans ((HB1.out.trans (hb5.mono hz1)).mono HB.out.size))
       clear ho5 hb5
       go_wp2
       have hrr:=ResB.stored (w:=w) (g:=w.heap.size) (u:=.bool (decide (z<0))) (u':=.slice A1 (digs 2 z.natAbs).length c1) ⟨A1,c1,rfl,HO5.out⟩ HB5.out (by omega) (by omega)
       exact bodyPost_ret (v:=.tuple #[.agg #[.bool (decide (z<0)),.slice A1 (digs 2 z.natAbs).length c1],.int .i64 0]) (by simp [results,Tryd.results78,go_sem,r0,r1]) rfl
        ⟨_,by rw [HC.out],fun _=>hrr.1,fun h=>absurd HC.out h,hrr.2⟩
      ·have hVge:¬V<2 ^ 4096:=fun h=>hbig (by rw [←HN.out];exact digs_length_le (by decide) h)
       have HC:=Lib.hid (pCode_long hr hr2 HBd.out i (by rw [←HPR.out,HV9.out];exact hVge))
       have hbigI:(4096:Int)<(n:Int):=by omega
       have hbd:decide (4096<n)=true:=decide_eq_true (by omega)
       have hbd2:decide (n≤4096)=false:=decide_eq_false (by omega)
       have hbI2:¬(n:Int)≤4096:=by omega
       obtain ⟨r0,r1,r2,r3⟩:=two_cells HB1.out HX.out hW0z
       have HB5:=Lib.hid (HB.out.trans (HB1.out.mono HB.out.size))
       clear hVge
       by_cases his:i<s'.size
       case' pos=>
        have hisI:(i:Int)<(s'.size:Int):=by omega
        have hisd:decide (i<s'.size)=true:=decide_eq_true his
       case' neg=>
        have hisI:¬(i:Int)<(s'.size:Int):=by omega
        have hisd:decide (i<s'.size)=false:=decide_eq_false his
       all_goals
        go_wp2
        exact bodyPost_ret (v:=.tuple #[zeroV,.int .i64 10]) (by simp [results,Tryd.results78,go_sem,r0,r1]) rfl
         (RpPost.bad HC.out (by decide) ((HB5.out.setCell (Nat.le_refl _) _).setCell (Nat.le_refl _) _))
 ·obtain ⟨s',hs'⟩:∃ s',s.extract 1 s.size=s':=⟨_,rfl⟩
  have HS':=Lib.hid (And.intro (show s'.data.toList=pRest s.data.toList by rw [pRest,hng,if_pos rfl,←hs2,hs']) hng)
  rw [hs'] at hsz2
  have hsz3:s.size - 1=s'.size:=hsz2.symm
  have d5:decide ((0:Int)<(s.size:Int))=true:=decide_eq_true (by omega)
  have d6:decide (0<s.size)=true:=decide_eq_true h1
  have hm:s'.size≤9223372036854775807:=by omega
  have q2:(((s[0]'h1).toNat:Int)==45)=true:=by rw [hb];rfl
  clear hng hs2 hsz2
  go_enter Tryd.func78,Tryd.ntmps78
  by_cases he:s'.size=0
  ·have e1:=str_empty he
   have HC:=Lib.hid (pCode_bad hr hr2 (pBad_empty (r:=r) HS'.out.1 he))
   go_wp2
   exact bodyPost_ret (v:=.tuple #[zeroV,.int .i64 12]) (by simp [results,Tryd.results78,go_sem]) rfl (RpPost.bad HC.out (by decide) HB.out)
  ·skip
   have hse:¬s'.size=0:=he
   have q1:=str_full hse
   go_wp2_with fail
   clear hs' hsz3 hb d1 d2 d5 d6 h1 hs q2
   go_loop [7] (fun i=>∃ k:Nat,k≤s'.size∧i = .int .i64 k∧Hid (∀ j,j<k→(sdig s'.data.toList).getD j 0<r)) (fun i=>s'.size - (intOf i).toNat)
   case atStart=>exact ⟨0,Nat.zero_le _,rfl,Lib.hid (fun j hj=>absurd hj (Nat.not_lt_zero _))⟩
   case round=>
    obtain ⟨k,hk,rfl,hdj⟩:=hrel
    by_cases hks:k<s'.size
    ·have hk0:(0:Int)≤(k:Int):=by omega
     have hk1:(k:Int)<(s'.size:Int):=by omega
     have HV:=Lib.hid (fun w1=>rdigit_any s'[k].toNat w1 (UInt8.toNat_lt _))
     have HG:=Lib.hid (sdig_get s' hks)
     have H12:=Lib.hid (fun h=>pBad_at (r:=r) HS'.out.1 hks h)
     generalize hdv:dval s'[k].toNat=dv at *
     by_cases hlt:dv<r
     ·have d3:decide ((r:Int)≤(dv:Int))=false:=decide_eq_false (by omega)
      have d4:decide (r≤dv)=false:=decide_eq_false (by omega)
      clear hdv
      go_wp2_with (go_at_call 86;(with_reducible refine (HV.out _).mono ?_);rintro e w' ⟨rfl,rfl⟩)
      go_round
      case rel=>exact ⟨k+1,by omega,by go_num,Lib.hid (fun j hj=>by
       rcases Nat.lt_or_ge j k with h | h
       ·exact hdj.out j h
       ·obtain rfl:j=k:=by omega
        rw [HG.out];exact hlt)⟩
      case measure=>simp [intOf];omega
     ·have d3:decide ((r:Int)≤(dv:Int))=true:=decide_eq_true (by omega)
      have d4:decide (r≤dv)=true:=decide_eq_true (by omega)
      have HC:=Lib.hid (pCode_bad hr hr2 (H12.out (by omega)))
      clear hdv
      go_wp2_with (go_at_call 86;(with_reducible refine (HV.out _).mono ?_);rintro e w' ⟨rfl,rfl⟩)
      exact bodyPost_ret (v:=.tuple #[zeroV,.int .i64 12]) (by simp [results,Tryd.results78,go_sem]) rfl (RpPost.bad HC.out (by decide) HB.out)
    ·obtain rfl:k=s'.size:=by omega
     have HBd:=Lib.hid (pBad_none HS'.out.1 hse hdj.out)
     have HDJ:=hdj
     have hW0z:w.heap.size<(w.alloc (.cells #[.bool false,.slice none 0 0] 106)).heap.size:=by simp
     have HX:=Lib.hid (show (w.alloc (.cells #[.bool false,.slice none 0 0] 106)).heap[w.heap.size]?=some (.cells #[.bool false,.slice none 0 0] 106 (0,0)) from heap_alloc_new w _)
     go_wp2_with fail
     generalize (w.alloc (.cells #[.bool false,.slice none 0 0] 106))=W0 at *
     have HR0:=Lib.hid (RpRel.start W0)
     go_loopw [8,9] (fun bv iv wr=>∃ i:Nat,i≤s'.size∧iv = .int .i64 (i:Int)∧(digs 2 (pval r ((sdig s'.data.toList).take i))).length≤8192∧RpRel W0 (pval r ((sdig s'.data.toList).take i)) bv wr) (fun _ iv _=>s'.size - (intOf iv).toNat)
     case atStart=>exact ⟨0,Nat.zero_le _,rfl,by rw [List.take_zero];simp [pval,digs_zero],by rw [List.take_zero];exact HR0.out⟩
     case round=>
      obtain ⟨i,hi,rfl,hn8,A1,c1,rfl,ho1,hb1⟩:=hrel
      have HO:=Lib.hid ho1
      have HB1:=Lib.hid hb1
      have hz1:=hb1.size
      obtain ⟨V,hV⟩:∃ V,pval r ((sdig s'.data.toList).take i)=V:=⟨_,rfl⟩
      rw [hV] at HO hn8 ⊢
      have HV9:=Lib.hid hV
      have hi0:(0:Int)≤(i:Int):=by omega
      clear ho1 hb1 HR0 hV
      obtain ⟨n,hn⟩:∃ n,(digs 2 V).length=n:=⟨_,rfl⟩
      have HN:=Lib.hid hn
      rw [hn] at HO hn8 ⊢
      clear hn
      by_cases hgo:i<s'.size∧n≤4096
      ·have hiI:(i:Int)<(s'.size:Int):=by omega
       have hnI:(n:Int)≤4096:=by omega
       have hd6':decide (i<s'.size)=true:=decide_eq_true hgo.1
       have hd7':decide (n≤4096)=true:=decide_eq_true hgo.2
       have hd:=HDJ.out i hgo.1
       have HSn:=Lib.hid (show pval r ((sdig s'.data.toList).take (i+1))=V * r+dval s'[i].toNat by
        rw [List.take_succ_eq_append_getElem (by rw [sdig_length];exact hgo.1),pval_snoc,HV9.out,←sdig_get s' hgo.1,getD_eq (by rw [sdig_length];exact hgo.1)])
       rw [sdig_get s' hgo.1] at hd
       have HVd:=Lib.hid (fun w1=>rdigit_any s'[i].toNat w1 (UInt8.toNat_lt _))
       generalize dval s'[i].toNat=d at *
       obtain ⟨wo,hwo⟩:∃ wo:World,wo=wr:=⟨_,rfl⟩
       subst hwo
       have HDl:=Lib.hid (dig_digs (b:=2) (by decide) V)
       have HVl:=Lib.hid (nv_digs (b:=2) (by decide) V)
       generalize digs 2 V=l at *
       go_wp2_with (go_at_call 86;(with_reducible refine (HVd.out _).mono ?_);rintro e w' ⟨rfl,rfl⟩)
       go_loopw [10,11,12] (fun cv ov kv wr=>∃ (k cy:Nat) (O:List Nat) (A2:Option Addr) (c2:Nat),kv = .int .i64 (k:Int)∧cv = .int .i64 (cy:Int)∧ov = .slice A2 k c2∧Hid (RmInv l n r d k cy O)∧OwnI wr wo.heap.size A2 k c2 (i64s O)∧Below wo.heap.size wo wr) (fun cv _ kv _=>(n - (intOf kv).toNat) * 100+(intOf cv).toNat)
       case atStart=>exact ⟨0,d,[],none,0,rfl,rfl,rfl,Lib.hid ⟨rfl,Dig.nil _,by omega,fun _=>by omega,by simp [nvp_zero,nv]⟩,⟨rfl,.inl ⟨rfl,rfl⟩⟩,Below.refl _ _⟩
       case round=>
        obtain ⟨k,cy,O,A2,c2,rfl,rfl,rfl,HI,ho2,hb2⟩:=hrel
        have HO2:=Lib.hid ho2
        have HB2:=Lib.hid hb2
        have hz2:=hb2.size
        have hk0:(0:Int)≤(k:Int):=by omega
        have hcy:=HI.out.hc
        clear ho2 hb2
        by_cases hin:k<n∨0<cy
        ·have hk5:k≤5000:=by
          rcases Nat.lt_or_ge k n with h | h
          ·omega
          ·have:=HI.out.hb h;omega
         have HBt:=Lib.hid (show Calls Tryd.prog 87 #[.slice A1 n c1,.int .i64 (k:Int)] wr (fun e w'=>e = .returned (.int .i64 (l.getD k 0:Nat))∧wr=w') from by
          have h:=rbit_any ((HO.out.sl HDl.out HN.out).below (C:=wo.heap.size) HB2.out (Nat.le_refl _)) (k:Int)
          rwa [bitZ_nat] at h)
         have hyb:=HDl.out.getD (b:=2) (by decide) k
         have HSt:=Lib.hid (fun y t (hy:l.getD k 0=y) (hy2:y<2) (ht:y * r+cy=t)=>HI.out.step HN.out hr2 hy hy2 ht hin)
         obtain ⟨y,hy⟩:∃ y,l.getD k 0=y:=⟨_,rfl⟩
         rw [hy] at HBt hyb
         obtain ⟨p,hp⟩:∃ p,y * r=p:=⟨_,rfl⟩
         have hpi:(y:Int) * (r:Int)=(p:Int):=by rw [←hp];simp
         have hp36:p≤36:=by
          rcases (by omega:y=0∨y=1) with e | e <;> rw [←hp,e] <;> omega
         obtain ⟨t,ht⟩:∃ t,p+cy=t:=⟨_,rfl⟩
         have HS1:=Lib.hid (HSt.out y t hy hyb (by rw [hp];exact ht))
         have hti:(p:Int)+(cy:Int)=(t:Int):=by omega
         have ht9:(t:Int)≤72:=by omega
         have htm:(t:Int).tmod 2=((t % 2:Nat):Int):=by rw [Int.tmod_eq_emod_of_nonneg (by omega)];omega
         have htd:(t:Int).tdiv 2=((t / 2:Nat):Int):=by rw [Int.tdiv_eq_ediv_of_nonneg (by omega)];omega
         have hk5I:k≤4294967296:=by omega
         have hkI5:(k:Int)≤5000:=by omega
         have HME:=Lib.hid (show (n - (k+1)) * 100+t / 2<(n - k) * 100+cy by
          rcases Nat.lt_or_ge k n with h | h
          ·omega
          ·have hy0:y=0:=by rw [←hy];exact getD_past (by rw [HN.out];exact h)
           rw [hy0,Nat.zero_mul] at hp
           omega)
         clear hy hp ht HSt
         by_cases hkn:k<n
         case' pos=>
          have hkI:(k:Int)<(n:Int):=by omega
          have hkd:decide (k<n)=true:=decide_eq_true hkn
         case' neg=>
          have hkI:¬(k:Int)<(n:Int):=by omega
          have hkd:decide (k<n)=false:=decide_eq_false hkn
          have hcyI:(0:Int)<(cy:Int):=by omega
          have hcyd:decide (0<cy)=true:=decide_eq_true (by omega)
         all_goals
          go_wp2_with (first
           | (go_at_call 87;(with_reducible refine HBt.out.mono ?_);rintro e w' ⟨rfl,rfl⟩)
           | (at_builtin;refine wpList_append_i64 (by rfl) _ _ (by rfl) wo.heap.size A2 k c2 O (by rfl) (Own.alloc HO2.out _) wr.heap.size (t % 2) (by rfl) (by simp [go_sem]) hk5I (by simp;omega) ?_;intro A4 c4 w4 ho4 hb4))
          have HO4:=Lib.hid ho4
          have HB4:=Lib.hid ((HB2.out.alloc hz2 _).trans hb4)
          clear ho4 hb4
          go_wp2_with fail
          go_roundw
          case rel=>exact ⟨k+1,t / 2,O ++ [t % 2],A4,c4,by go_num,by first | rfl | go_num,rfl,HS1,HO4.out,HB4.out⟩
          case measure=>first | exact HME.out | (have:=HME.out;simp [intOf];omega)
        ·have hkn:n≤k:=by omega
         have hcy0:cy=0:=by omega
         subst hcy0
         have hk9:=HI.out.hb hkn
         have hv:=HI.out.hv
         rw [Nat.mul_zero,Nat.add_zero,nvp_all (by rw [HN.out];exact hkn),HVl.out] at hv
         have et:tr O=digs 2 (V * r+d):=by rw [tr_eq_digs (b:=2) (by decide) HI.out.dO,hv]
         have em:tlen O=(digs 2 (V * r+d)).length:=by rw [←et,tr_length]
         have hcut:=rcut_any (HO2.out.sl HI.out.dO HI.out.lo)
         rw [em] at hcut
         have HCut:=Lib.hid hcut
         have hml:tlen O≤k:=by rw [←HI.out.lo];exact tlen_le O
         have htk:=HO2.out.take hml
         rw [i64s_take] at htk
         have HR2:=Lib.hid (show RpRel W0 (pval r ((sdig s'.data.toList).take (i+1))) (.slice A2 (digs 2 (V * r+d)).length c2) wr from by
          rw [HSn.out]
          exact ⟨A2,c2,rfl,by rw [←em,←et];exact Own.mono htk hz1,HB1.out.trans (HB2.out.mono hz1)⟩)
         have HLe:=Lib.hid (show (digs 2 (pval r ((sdig s'.data.toList).take (i+1)))).length≤8192 by rw [HSn.out,←em];omega)
         have hk1:decide (k<n)=false:=decide_eq_false (by omega)
         have hk2:¬(k:Int)<(n:Int):=by omega
         clear hcut htk et em hv hml
         go_wp2_with (go_at_call 88;(with_reducible refine HCut.out.mono ?_);rintro e w2 ⟨rfl,rfl⟩)
         go_roundw
         case rel=>exact ⟨i+1,by omega,by go_num,HLe.out,HR2.out⟩
         case measure=>simp [intOf];omega
      ·have HPR:=Lib.hid HS'.out.1
       by_cases hbig:n≤4096
       ·obtain rfl:i=s'.size:=by omega
        have hVall:=HV9.out
        rw [List.take_of_length_le (by rw [sdig_length];exact Nat.le_refl _),HPR.out] at hVall
        have hVlt:=lt_of_digs_length (b:=2) (n:=V) (k:=4096) (by decide) (by rw [HN.out];exact hbig)
        have HC:=Lib.hid (pCode_ok hr hr2 HBd.out (by rw [hVall];exact hVlt))
        have HZ:=Lib.hid (show bval true (digs 2 V)=pVal s.data.toList (r:Int) by
         unfold bval pVal
         rw [nv_digs (by decide),HS'.out.2,Int.toNat_natCast,hVall])
        have hd6':decide (s'.size<s'.size)=false:=decide_eq_false (by omega)
        have hbigI:¬(4096:Int)<(n:Int):=by omega
        have hbd:decide (4096<n)=false:=decide_eq_false (by omega)
        have HDl:=Lib.hid (dig_digs (b:=2) (by decide) V)
        clear hVall hVlt
        generalize pVal s.data.toList (r:Int)=z at *
        generalize digs 2 V=l at *
        go_wp2_with fail
        (with_reducible refine (rlaid_at true HO.out HN.out HDl.out HZ.out).mono ?_)
        rintro ex w5 ⟨rfl,ho5,hb5⟩
        obtain ⟨r0,r1,r2,r3⟩:=two_cells (HB1.out.trans (hb5.mono hz1)) HX.out hW0z
        have HO5:=Lib.hid ho5
        have HB5:=Lib.hid (HB.out.trans ((HB1.out.trans (hb5.mono hz1)).mono HB.out.size))
        clear ho5 hb5
        go_wp2
        have hrr:=ResB.stored (w:=w) (g:=w.heap.size) (u:=.bool (decide (z<0))) (u':=.slice A1 (digs 2 z.natAbs).length c1) ⟨A1,c1,rfl,HO5.out⟩ HB5.out (by omega) (by omega)
        exact bodyPost_ret (v:=.tuple #[.agg #[.bool (decide (z<0)),.slice A1 (digs 2 z.natAbs).length c1],.int .i64 0]) (by simp [results,Tryd.results78,go_sem,r0,r1]) rfl
         ⟨_,by rw [HC.out],fun _=>hrr.1,fun h=>absurd HC.out h,hrr.2⟩
       ·have hVge:¬V<2 ^ 4096:=fun h=>hbig (by rw [←HN.out];exact digs_length_le (by decide) h)
        have HC:=Lib.hid (pCode_long hr hr2 HBd.out i (by rw [←HPR.out,HV9.out];exact hVge))
        have hbigI:(4096:Int)<(n:Int):=by omega
        have hbd:decide (4096<n)=true:=decide_eq_true (by omega)
        have hbd2:decide (n≤4096)=false:=decide_eq_false (by omega)
        have hbI2:¬(n:Int)≤4096:=by omega
        obtain ⟨r0,r1,r2,r3⟩:=two_cells HB1.out HX.out hW0z
        have HB5:=Lib.hid (HB.out.trans (HB1.out.mono HB.out.size))
        clear hVge
        by_cases his:i<s'.size
        case' pos=>
         have hisI:(i:Int)<(s'.size:Int):=by omega
         have hisd:decide (i<s'.size)=true:=decide_eq_true his
        case' neg=>
         have hisI:¬(i:Int)<(s'.size:Int):=by omega
         have hisd:decide (i<s'.size)=false:=decide_eq_false his
        all_goals
         go_wp2
         exact bodyPost_ret (v:=.tuple #[zeroV,.int .i64 10]) (by simp [results,Tryd.results78,go_sem,r0,r1]) rfl
          (RpPost.bad HC.out (by decide) ((HB5.out.setCell (Nat.le_refl _) _).setCell (Nat.le_refl _) _))
theorem rParse_anyL (s:ByteArray) (r:Int) (w:World) (hs:s.size≤9223372036854775807) :
  Calls Tryd.prog 78 #[.string s,.int .i64 r] w (RpPost w (pVal s.data.toList r) (pCode s.data.toList r)):=by
 by_cases h:r<2∨36<r
 ·exact rParse_radix s r w h _ _ (by rw [pCode,if_pos h])
 ·obtain ⟨n,rfl⟩:=Int.eq_ofNat_of_zero_le (show 0≤r by omega)
  exact rParse_goodL s n w hs (by omega) (by omega)
end Go.Proofs.YtgfeainpeplphaaDoor
