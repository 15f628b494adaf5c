import Derived.Test.YtgfeainpeplphaaDoorZ2
import Derived.Test.YtgfeainpeplphaaDoorZ8
import Derived.Test.YtgfeainpeplphaaDoorZ9
import Derived.Test.YtgfeainpeplphaaDoorZ10
set_option linter.unusedVariables false
set_option linter.unusedSimpArgs false
namespace Go.Proofs.YtgfeainpeplphaaDoor
open Go.RowKit Hb Ht
attribute [local go_sem] Oper.semAt_some
theorem Rule_okN {w0 w:World} {t:Tm} {st:Value} {k v b:Int} {n m:List UInt8} {ts:List Tm} {nb mb:ByteArray} {q:Nat} (h1:TAt w w.heap.size t st) (hU:UOk w0 w) (hcs:checkP t=0) (hnp:isC (t.as.getD 0 zeroT) sComma 2=false) (hru:isC t sRule 2=true) (hh:highB t=false) (hn:(⟨n.toArray⟩:ByteArray)=nb) (hm:(⟨m.toArray⟩:ByteArray)=mb) (hq:ts.length=q) (hr:ruleT t = .ok (.mk k n m b v ts)) :
  Calls Tryd.prog 9 #[valT t st] w fun e w'=>∃ A c,e = .returned (.tuple #[.agg #[.int .i64 k,.string nb,.string mb,.int .u64 b,.int .i64 v,.slice A q c],.nilIface])∧TOwn w' (.mk k n m b v ts) (.slice A q c) w.heap.size w'.heap.size∧Below w.heap.size w w':=by
 refine (Rule_plain h1 hU hcs hnp hru).mono ?_
 rintro e w' (⟨h,_⟩ | ⟨_,hb,h⟩)
 ·rw [hh] at h;cases h
 ·rw [hr] at h
  obtain ⟨sg,rfl,ho⟩:=h
  obtain ⟨_,_,_,A,c,hs,_⟩:=TOwn.iff.1 ho
  change sg = .slice A ts.length c at hs
  rw [hq] at hs
  subst hs
  exact ⟨A,c,by rw [valT_mk hn hm],ho,hb⟩
theorem Rule_badN {w0 w:World} {t g:Tm} {st:Value} (h1:TAt w w.heap.size t st) (hU:UOk w0 w) (hcs:checkP t=0) (hnp:isC (t.as.getD 0 zeroT) sComma 2=false) (hru:isC t sRule 2=true) (hh:highB t=false) (hr:ruleT t = .error g) :
  Calls Tryd.prog 9 #[valT t st] w fun e w'=>∃ bb,e = .returned (.tuple #[zeroTV,.iface 82 (.pointer (some ⟨bb,0,none⟩))])∧BallAt w' bb g∧Below w.heap.size w w':=by
 refine (Rule_plain h1 hU hcs hnp hru).mono ?_
 rintro e w' (⟨h,_⟩ | ⟨_,hb,h⟩)
 ·rw [hh] at h;cases h
 ·rw [hr] at h
  obtain ⟨bb,rfl,hball⟩:=h
  exact ⟨bb,rfl,hball,hb⟩
set_option maxRecDepth 100000 in
set_option maxHeartbeats 16000000 in
theorem awake_np {w0 w:World} (hU:UOk w0 w):Calls Tryd.prog 7 #[] w fun e w'=>e = .returned (.bool true)∧Below w.heap.size w w':=by
 have HU:=Lib.hid hU
 have KK:=Lib.hid (Below.refl w.heap.size w)
 clear hU
 go_enter Tryd.func7,Tryd.ntmps7
 go_wp2_with fail
 (with_reducible refine (latom_any _ _).mono ?_)
 rintro e v1 ⟨rfl,hb⟩
 replace KK:=Lib.hid (KK.out.trans ((hb).mono KK.out.size))
 clear hb
 go_wp2_with fail
 (with_reducible refine (latom_any _ _).mono ?_)
 rintro e v2 ⟨rfl,hb⟩
 replace KK:=Lib.hid (KK.out.trans ((hb).mono KK.out.size))
 clear hb
 go_wp2_with fail
 (with_reducible refine (latom_any _ _).mono ?_)
 rintro e v3 ⟨rfl,hb⟩
 replace KK:=Lib.hid (KK.out.trans ((hb).mono KK.out.size))
 clear hb
 go_wp2_with fail
 have hbA:Below v3.heap.size v3 (v3.alloc (.cells #[.int .i64 2,.string ⟨#[98]⟩,.string ⟨#[]⟩,.int .u64 0,.int .i64 0,.slice none 0 0,.int .i64 2,.string ⟨#[99]⟩,.string ⟨#[]⟩,.int .u64 0,.int .i64 0,.slice none 0 0] 25)):=(Below.refl _ _).alloc (Nat.le_refl _) _
 have hbu:=built (w:=v3) (P:=fun b=>b<v3.heap.size) (s:=[44]) (n:=2) (cs:=#[.int .i64 2,.string ⟨#[98]⟩,.string ⟨#[]⟩,.int .u64 0,.int .i64 0,.slice none 0 0,.int .i64 2,.string ⟨#[99]⟩,.string ⟨#[]⟩,.int .u64 0,.int .i64 0,.slice none 0 0]) (ps:=[((atomT [98]),Value.slice none 0 0),((atomT [99]),Value.slice none 0 0)]) rfl rfl (mem2 (atom_at _ _ (by decide)) (atom_at _ _ (by decide))) (fun b hb=>hb) (by unfold maxArgs;omega) (by decide)
 have HBA:=Lib.hid (And.intro hbA (And.intro hbu (show (v3.alloc (.cells #[.int .i64 2,.string ⟨#[98]⟩,.string ⟨#[]⟩,.int .u64 0,.int .i64 0,.slice none 0 0,.int .i64 2,.string ⟨#[99]⟩,.string ⟨#[]⟩,.int .u64 0,.int .i64 0,.slice none 0 0] 25)).heap.size=v3.heap.size+1 by simp)))
 clear hbA hbu
 replace KK:=Lib.hid (KK.out.trans ((HBA.out.1).mono KK.out.size))
 generalize (v3.alloc (.cells #[.int .i64 2,.string ⟨#[98]⟩,.string ⟨#[]⟩,.int .u64 0,.int .i64 0,.slice none 0 0,.int .i64 2,.string ⟨#[99]⟩,.string ⟨#[]⟩,.int .u64 0,.int .i64 0,.slice none 0 0] 25))=v4 at *
 generalize v3.heap.size=q1 at *
 (with_reducible refine (lf_any _ _ _ _ _).mono ?_)
 rintro e v5 ⟨rfl,hb⟩
 have HT1:=Lib.hid (show TAt v5 v5.heap.size (cmpT [44] [(atomT [98]),(atomT [99])]) (.slice (some ⟨q1,0,none⟩) 2 2) from TAt.any HBA.out.2.1 (fun b hb=>by have:=HBA.out.2.2;rcases hb with hb | hb <;> omega) hb)
 replace KK:=Lib.hid (KK.out.trans ((hb).mono KK.out.size))
 clear hb HBA
 go_wp2_with fail
 have hbA:Below v5.heap.size v5 (v5.alloc (.cells #[.int .i64 2,.string ⟨#[97]⟩,.string ⟨#[]⟩,.int .u64 0,.int .i64 0,.slice none 0 0,.int .i64 5,.string ⟨#[44]⟩,.string ⟨#[]⟩,.int .u64 0,.int .i64 0,.slice (some ⟨q1,0,none⟩) 2 2] 25)):=(Below.refl _ _).alloc (Nat.le_refl _) _
 have hbu:=built (w:=v5) (P:=fun b=>b<v5.heap.size) (s:=[45,45,62]) (n:=2) (cs:=#[.int .i64 2,.string ⟨#[97]⟩,.string ⟨#[]⟩,.int .u64 0,.int .i64 0,.slice none 0 0,.int .i64 5,.string ⟨#[44]⟩,.string ⟨#[]⟩,.int .u64 0,.int .i64 0,.slice (some ⟨q1,0,none⟩) 2 2]) (ps:=[((atomT [97]),Value.slice none 0 0),((cmpT [44] [(atomT [98]),(atomT [99])]),Value.slice (some ⟨q1,0,none⟩) 2 2)]) rfl rfl (mem2 (atom_at _ _ (by decide)) (HT1.out)) (fun b hb=>hb) (by unfold maxArgs;omega) (by decide)
 have HBA:=Lib.hid (And.intro hbA (And.intro hbu (show (v5.alloc (.cells #[.int .i64 2,.string ⟨#[97]⟩,.string ⟨#[]⟩,.int .u64 0,.int .i64 0,.slice none 0 0,.int .i64 5,.string ⟨#[44]⟩,.string ⟨#[]⟩,.int .u64 0,.int .i64 0,.slice (some ⟨q1,0,none⟩) 2 2] 25)).heap.size=v5.heap.size+1 by simp)))
 clear hbA hbu
 clear HT1
 replace KK:=Lib.hid (KK.out.trans ((HBA.out.1).mono KK.out.size))
 generalize (v5.alloc (.cells #[.int .i64 2,.string ⟨#[97]⟩,.string ⟨#[]⟩,.int .u64 0,.int .i64 0,.slice none 0 0,.int .i64 5,.string ⟨#[44]⟩,.string ⟨#[]⟩,.int .u64 0,.int .i64 0,.slice (some ⟨q1,0,none⟩) 2 2] 25))=v6 at *
 generalize v5.heap.size=q2 at *
 (with_reducible refine (lf_any _ _ _ _ _).mono ?_)
 rintro e v7 ⟨rfl,hb⟩
 have HT2:=Lib.hid (show TAt v7 v7.heap.size (cmpT [45,45,62] [(atomT [97]),(cmpT [44] [(atomT [98]),(atomT [99])])]) (.slice (some ⟨q2,0,none⟩) 2 2) from TAt.any HBA.out.2.1 (fun b hb=>by have:=HBA.out.2.2;rcases hb with hb | hb <;> omega) hb)
 replace KK:=Lib.hid (KK.out.trans ((hb).mono KK.out.size))
 clear hb HBA
 go_wp2_with fail
 have hR:=Rule_okN (w0:=w0) (nb:=⟨#[58,45]⟩) (mb:=⟨#[]⟩) (q:=2) HT2.out (HU.out.below KK.out) awc1 (by rfl) (by rfl) awh1 rfl rfl rfl aw1
 rw [show valT (cmpT [45,45,62] [(atomT [97]),(cmpT [44] [(atomT [98]),(atomT [99])])]) (.slice (some ⟨q2,0,none⟩) 2 2) = .agg #[.int .i64 5,.string ⟨#[45,45,62]⟩,.string ⟨#[]⟩,.int .u64 0,.int .i64 0,.slice (some ⟨q2,0,none⟩) 2 2] from rfl] at hR
 (with_reducible refine hR.mono ?_)
 rintro e x1 ⟨A1,c1,rfl,ho,hb⟩
 have HA1:=Lib.hid (show TAt x1 x1.heap.size (cmpT [58,45] [(cmpT [97] [(varT 0),(varT 1)]),(cmpT [44] [(cmpT [98] [(varT 0),(varT 2)]),(cmpT [99] [(varT 2),(varT 1)])])]) (.slice A1 2 c1) from TOwn.new ho)
 clear hR ho HT2
 replace KK:=Lib.hid (KK.out.trans ((hb).mono KK.out.size))
 clear hb
 go_upto_region 2 with fail
 have hbA:Below x1.heap.size x1 (x1.alloc (.cells #[.int .i64 5,.string ⟨#[58,45]⟩,.string ⟨#[]⟩,.int .u64 0,.int .i64 0,.slice A1 2 c1] 25)):=(Below.refl _ _).alloc (Nat.le_refl _) _
 have HX1:=Lib.hid (show TBox (x1.alloc (.cells #[.int .i64 5,.string ⟨#[58,45]⟩,.string ⟨#[]⟩,.int .u64 0,.int .i64 0,.slice A1 2 c1] 25)) x1.heap.size (cmpT [58,45] [(cmpT [97] [(varT 0),(varT 1)]),(cmpT [44] [(cmpT [98] [(varT 0),(varT 2)]),(cmpT [99] [(varT 2),(varT 1)])])]) (.slice A1 2 c1) from TBox.new x1 rfl rfl)
 replace HA1:=Lib.hid (TAt.any HA1.out (fun b hb=>hb) hbA)
 replace KK:=Lib.hid (KK.out.trans ((hbA).mono KK.out.size))
 clear hbA
 generalize (x1.alloc (.cells #[.int .i64 5,.string ⟨#[58,45]⟩,.string ⟨#[]⟩,.int .u64 0,.int .i64 0,.slice A1 2 c1] 25))=v8 at *
 generalize x1.heap.size=g1 at *
 go_wp2_with fail
 (with_reducible refine (lv_any _ _).mono ?_)
 rintro e v9 ⟨rfl,hb⟩
 replace HA1:=Lib.hid (TAt.any HA1.out (fun b hb=>hb) hb)
 replace HX1:=Lib.hid (HX1.out.below (hb))
 replace KK:=Lib.hid (KK.out.trans ((hb).mono KK.out.size))
 clear hb
 go_wp2_with fail
 (with_reducible refine (latom_any _ _).mono ?_)
 rintro e v10 ⟨rfl,hb⟩
 replace HA1:=Lib.hid (TAt.any HA1.out (fun b hb=>hb) hb)
 replace HX1:=Lib.hid (HX1.out.below (hb))
 replace KK:=Lib.hid (KK.out.trans ((hb).mono KK.out.size))
 clear hb
 go_wp2_with fail
 have hbA:Below v10.heap.size v10 (v10.alloc (.cells #[.int .i64 1,.string ⟨#[]⟩,.string ⟨#[]⟩,.int .u64 0,.int .i64 0,.slice none 0 0,.int .i64 2,.string ⟨#[98]⟩,.string ⟨#[]⟩,.int .u64 0,.int .i64 0,.slice none 0 0] 25)):=(Below.refl _ _).alloc (Nat.le_refl _) _
 have hbu:=built (w:=v10) (P:=fun b=>b<v10.heap.size) (s:=[45,45,62]) (n:=2) (cs:=#[.int .i64 1,.string ⟨#[]⟩,.string ⟨#[]⟩,.int .u64 0,.int .i64 0,.slice none 0 0,.int .i64 2,.string ⟨#[98]⟩,.string ⟨#[]⟩,.int .u64 0,.int .i64 0,.slice none 0 0]) (ps:=[((varT 0),Value.slice none 0 0),((atomT [98]),Value.slice none 0 0)]) rfl rfl (mem2 (var_at _ _ ⟨by omega,by omega⟩) (atom_at _ _ (by decide))) (fun b hb=>hb) (by unfold maxArgs;omega) (by decide)
 have HBA:=Lib.hid (And.intro hbA (And.intro hbu (show (v10.alloc (.cells #[.int .i64 1,.string ⟨#[]⟩,.string ⟨#[]⟩,.int .u64 0,.int .i64 0,.slice none 0 0,.int .i64 2,.string ⟨#[98]⟩,.string ⟨#[]⟩,.int .u64 0,.int .i64 0,.slice none 0 0] 25)).heap.size=v10.heap.size+1 by simp)))
 clear hbA hbu
 replace HA1:=Lib.hid (TAt.any HA1.out (fun b hb=>hb) HBA.out.1)
 replace HX1:=Lib.hid (HX1.out.below (HBA.out.1))
 replace KK:=Lib.hid (KK.out.trans ((HBA.out.1).mono KK.out.size))
 generalize (v10.alloc (.cells #[.int .i64 1,.string ⟨#[]⟩,.string ⟨#[]⟩,.int .u64 0,.int .i64 0,.slice none 0 0,.int .i64 2,.string ⟨#[98]⟩,.string ⟨#[]⟩,.int .u64 0,.int .i64 0,.slice none 0 0] 25))=v11 at *
 generalize v10.heap.size=q3 at *
 (with_reducible refine (lf_any _ _ _ _ _).mono ?_)
 rintro e v12 ⟨rfl,hb⟩
 have HT3:=Lib.hid (show TAt v12 v12.heap.size (cmpT [45,45,62] [(varT 0),(atomT [98])]) (.slice (some ⟨q3,0,none⟩) 2 2) from TAt.any HBA.out.2.1 (fun b hb=>by have:=HBA.out.2.2;rcases hb with hb | hb <;> omega) hb)
 replace HA1:=Lib.hid (TAt.any HA1.out (fun b hb=>hb) hb)
 replace HX1:=Lib.hid (HX1.out.below (hb))
 replace KK:=Lib.hid (KK.out.trans ((hb).mono KK.out.size))
 clear hb HBA
 go_wp2_with fail
 have hR:=Rule_badN (w0:=w0) HT3.out (HU.out.below KK.out) awc2 (by rfl) (by rfl) awh2 aw2
 rw [show valT (cmpT [45,45,62] [(varT 0),(atomT [98])]) (.slice (some ⟨q3,0,none⟩) 2 2) = .agg #[.int .i64 5,.string ⟨#[45,45,62]⟩,.string ⟨#[]⟩,.int .u64 0,.int .i64 0,.slice (some ⟨q3,0,none⟩) 2 2] from rfl,show zeroTV = .agg #[.int .i64 0,.string ⟨#[]⟩,.string ⟨#[]⟩,.int .u64 0,.int .i64 0,.slice none 0 0] from rfl] at hR
 (with_reducible refine hR.mono ?_)
 rintro e x2 ⟨bb,rfl,hball,hb⟩
 clear hR hball HT3
 replace HA1:=Lib.hid (TAt.any HA1.out (fun b hb=>hb) hb)
 replace HX1:=Lib.hid (HX1.out.below (hb))
 replace KK:=Lib.hid (KK.out.trans ((hb).mono KK.out.size))
 clear hb
 go_upto_region 3 with fail
 have hbA:Below x2.heap.size x2 (x2.alloc (.cells #[.int .i64 0,.string ⟨#[]⟩,.string ⟨#[]⟩,.int .u64 0,.int .i64 0,.slice none 0 0] 25)):=(Below.refl _ _).alloc (Nat.le_refl _) _
 replace HA1:=Lib.hid (TAt.any HA1.out (fun b hb=>hb) hbA)
 replace HX1:=Lib.hid (HX1.out.below (hbA))
 replace KK:=Lib.hid (KK.out.trans ((hbA).mono KK.out.size))
 clear hbA
 generalize (x2.alloc (.cells #[.int .i64 0,.string ⟨#[]⟩,.string ⟨#[]⟩,.int .u64 0,.int .i64 0,.slice none 0 0] 25))=x3 at *
 go_wp2_with fail
 (with_reducible refine (latom_any _ _).mono ?_)
 rintro e v13 ⟨rfl,hb⟩
 replace HA1:=Lib.hid (TAt.any HA1.out (fun b hb=>hb) hb)
 replace HX1:=Lib.hid (HX1.out.below (hb))
 replace KK:=Lib.hid (KK.out.trans ((hb).mono KK.out.size))
 clear hb
 go_wp2_with fail
 (with_reducible refine (latom_any _ _).mono ?_)
 rintro e v14 ⟨rfl,hb⟩
 replace HA1:=Lib.hid (TAt.any HA1.out (fun b hb=>hb) hb)
 replace HX1:=Lib.hid (HX1.out.below (hb))
 replace KK:=Lib.hid (KK.out.trans ((hb).mono KK.out.size))
 clear hb
 go_wp2_with fail
 have hbA:Below v14.heap.size v14 (v14.alloc (.cells #[.int .i64 2,.string ⟨#[120]⟩,.string ⟨#[]⟩,.int .u64 0,.int .i64 0,.slice none 0 0,.int .i64 2,.string ⟨#[91,93]⟩,.string ⟨#[]⟩,.int .u64 0,.int .i64 0,.slice none 0 0] 25)):=(Below.refl _ _).alloc (Nat.le_refl _) _
 have hbu:=built (w:=v14) (P:=fun b=>b<v14.heap.size) (s:=[46]) (n:=2) (cs:=#[.int .i64 2,.string ⟨#[120]⟩,.string ⟨#[]⟩,.int .u64 0,.int .i64 0,.slice none 0 0,.int .i64 2,.string ⟨#[91,93]⟩,.string ⟨#[]⟩,.int .u64 0,.int .i64 0,.slice none 0 0]) (ps:=[((atomT [120]),Value.slice none 0 0),((atomT [91,93]),Value.slice none 0 0)]) rfl rfl (mem2 (atom_at _ _ (by decide)) (atom_at _ _ (by decide))) (fun b hb=>hb) (by unfold maxArgs;omega) (by decide)
 have HBA:=Lib.hid (And.intro hbA (And.intro hbu (show (v14.alloc (.cells #[.int .i64 2,.string ⟨#[120]⟩,.string ⟨#[]⟩,.int .u64 0,.int .i64 0,.slice none 0 0,.int .i64 2,.string ⟨#[91,93]⟩,.string ⟨#[]⟩,.int .u64 0,.int .i64 0,.slice none 0 0] 25)).heap.size=v14.heap.size+1 by simp)))
 clear hbA hbu
 replace HA1:=Lib.hid (TAt.any HA1.out (fun b hb=>hb) HBA.out.1)
 replace HX1:=Lib.hid (HX1.out.below (HBA.out.1))
 replace KK:=Lib.hid (KK.out.trans ((HBA.out.1).mono KK.out.size))
 generalize (v14.alloc (.cells #[.int .i64 2,.string ⟨#[120]⟩,.string ⟨#[]⟩,.int .u64 0,.int .i64 0,.slice none 0 0,.int .i64 2,.string ⟨#[91,93]⟩,.string ⟨#[]⟩,.int .u64 0,.int .i64 0,.slice none 0 0] 25))=v15 at *
 generalize v14.heap.size=q4 at *
 (with_reducible refine (lf_any _ _ _ _ _).mono ?_)
 rintro e v16 ⟨rfl,hb⟩
 have HT4:=Lib.hid (show TAt v16 v16.heap.size (cmpT [46] [(atomT [120]),(atomT [91,93])]) (.slice (some ⟨q4,0,none⟩) 2 2) from TAt.any HBA.out.2.1 (fun b hb=>by have:=HBA.out.2.2;rcases hb with hb | hb <;> omega) hb)
 replace HA1:=Lib.hid (TAt.any HA1.out (fun b hb=>hb) hb)
 replace HX1:=Lib.hid (HX1.out.below (hb))
 replace KK:=Lib.hid (KK.out.trans ((hb).mono KK.out.size))
 clear hb HBA
 go_wp2_with fail
 (with_reducible refine (lv_any _ _).mono ?_)
 rintro e v17 ⟨rfl,hb⟩
 replace HA1:=Lib.hid (TAt.any HA1.out (fun b hb=>hb) hb)
 replace HT4:=Lib.hid (TAt.any HT4.out (fun b hb=>hb) hb)
 replace HX1:=Lib.hid (HX1.out.below (hb))
 replace KK:=Lib.hid (KK.out.trans ((hb).mono KK.out.size))
 clear hb
 go_wp2_with fail
 (with_reducible refine (lv_any _ _).mono ?_)
 rintro e v18 ⟨rfl,hb⟩
 replace HA1:=Lib.hid (TAt.any HA1.out (fun b hb=>hb) hb)
 replace HT4:=Lib.hid (TAt.any HT4.out (fun b hb=>hb) hb)
 replace HX1:=Lib.hid (HX1.out.below (hb))
 replace KK:=Lib.hid (KK.out.trans ((hb).mono KK.out.size))
 clear hb
 go_wp2_with fail
 have hR:=Body_okL (w0:=w0) (nb:=⟨#[61]⟩) (mb:=⟨#[]⟩) (q:=2) HT4.out (var_at _ _ (n:=4) ⟨by omega,by omega⟩) (var_at _ _ (n:=5) ⟨by omega,by omega⟩) (HU.out.below KK.out) awc3 ⟨by omega,by omega⟩ rfl rfl rfl aw3
 rw [show valT (cmpT [46] [(atomT [120]),(atomT [91,93])]) (.slice (some ⟨q4,0,none⟩) 2 2) = .agg #[.int .i64 5,.string ⟨#[46]⟩,.string ⟨#[]⟩,.int .u64 0,.int .i64 0,.slice (some ⟨q4,0,none⟩) 2 2] from rfl,show valT (varT 4) (.slice none 0 0) = .agg #[.int .i64 1,.string ⟨#[]⟩,.string ⟨#[]⟩,.int .u64 0,.int .i64 4,.slice none 0 0] from rfl,show valT (varT 5) (.slice none 0 0) = .agg #[.int .i64 1,.string ⟨#[]⟩,.string ⟨#[]⟩,.int .u64 0,.int .i64 5,.slice none 0 0] from rfl] at hR
 (with_reducible refine hR.mono ?_)
 rintro e x4 ⟨A5,c5,rfl,ho,hb⟩
 have HA5:=Lib.hid (show TAt x4 x4.heap.size (cmpT [61] [(varT 4),(cmpT [46] [(atomT [120]),(varT 5)])]) (.slice A5 2 c5) from TOwn.new ho)
 clear hR ho HT4
 replace HA1:=Lib.hid (TAt.any HA1.out (fun b hb=>hb) hb)
 replace HX1:=Lib.hid (HX1.out.below (hb))
 replace KK:=Lib.hid (KK.out.trans ((hb).mono KK.out.size))
 clear hb
 go_upto_region 4 with fail
 have hbA:Below x4.heap.size x4 (x4.alloc (.cells #[.int .i64 5,.string ⟨#[61]⟩,.string ⟨#[]⟩,.int .u64 0,.int .i64 0,.slice A5 2 c5] 25)):=(Below.refl _ _).alloc (Nat.le_refl _) _
 have HX5:=Lib.hid (show TBox (x4.alloc (.cells #[.int .i64 5,.string ⟨#[61]⟩,.string ⟨#[]⟩,.int .u64 0,.int .i64 0,.slice A5 2 c5] 25)) x4.heap.size (cmpT [61] [(varT 4),(cmpT [46] [(atomT [120]),(varT 5)])]) (.slice A5 2 c5) from TBox.new x4 rfl rfl)
 replace HA1:=Lib.hid (TAt.any HA1.out (fun b hb=>hb) hbA)
 replace HA5:=Lib.hid (TAt.any HA5.out (fun b hb=>hb) hbA)
 replace HX1:=Lib.hid (HX1.out.below (hbA))
 replace KK:=Lib.hid (KK.out.trans ((hbA).mono KK.out.size))
 clear hbA
 generalize (x4.alloc (.cells #[.int .i64 5,.string ⟨#[61]⟩,.string ⟨#[]⟩,.int .u64 0,.int .i64 0,.slice A5 2 c5] 25))=v19 at *
 generalize x4.heap.size=g5 at *
 have HSS:=Lib.hid (show ∀ z,Below v19.heap.size v19 z→(z.cell? ⟨g1,0,none⟩=some (.int .i64 5)∧z.cell? ⟨g1,1,none⟩=some (.string ⟨#[58,45]⟩)∧z.cell? ⟨g1,2,none⟩=some (.string ⟨#[]⟩)∧z.cell? ⟨g1,3,none⟩=some (.int .u64 0)∧z.cell? ⟨g1,4,none⟩=some (.int .i64 0)∧z.cell? ⟨g1,5,none⟩=some (.slice A1 2 c1)) from fun z hb=>(HX1.out.below hb).cells rfl rfl)
 refine wp_region_wait (fun z=>(z.cell? ⟨g1,0,none⟩=some (.int .i64 5)∧z.cell? ⟨g1,1,none⟩=some (.string ⟨#[58,45]⟩)∧z.cell? ⟨g1,2,none⟩=some (.string ⟨#[]⟩)∧z.cell? ⟨g1,3,none⟩=some (.int .u64 0)∧z.cell? ⟨g1,4,none⟩=some (.int .i64 0)∧z.cell? ⟨g1,5,none⟩=some (.slice A1 2 c1))) 17 (by kernel_rfl) ?_
 change wpAnyW _ _ _ _ _ _ _ _ _ v19.drew
 have hbd:=below_drew' v19
 have KB:=Lib.hid (show Below v19.heap.size v19 v19.drew from hbd)
 replace HA1:=Lib.hid (TAt.any HA1.out (fun b hb=>hb) hbd)
 replace HA5:=Lib.hid (TAt.any HA5.out (fun b hb=>hb) hbd)
 replace HX1:=Lib.hid (HX1.out.below (hbd))
 replace HX5:=Lib.hid (HX5.out.below (hbd))
 replace KK:=Lib.hid (KK.out.trans ((hbd).mono KK.out.size))
 clear hbd
 generalize v19.drew=v20 at *
 refine w3 17 0 (.agg #[.int .i64 5,.string ⟨#[58,45]⟩,.string ⟨#[]⟩,.int .u64 0,.int .i64 0,.slice A1 2 c1]) (HSS.out _ KB.out) ?_ ?_
 ·intro w5 hSw
  obtain ⟨p0,p1,p2,p3,p4,p5⟩:=hSw
  go_simp
 refine w1 1 fun K hK=>?_
 go_simp
 (with_reducible refine (lv_any _ _).mono ?_)
 rintro e v21 ⟨rfl,hb⟩
 replace HA1:=Lib.hid (TAt.any HA1.out (fun b hb=>hb) hb)
 replace HA5:=Lib.hid (TAt.any HA5.out (fun b hb=>hb) hb)
 replace HX1:=Lib.hid (HX1.out.below (hb))
 replace HX5:=Lib.hid (HX5.out.below (hb))
 replace KK:=Lib.hid (KK.out.trans ((hb).mono KK.out.size))
 replace KB:=Lib.hid (KB.out.trans ((hb).mono KB.out.size))
 clear hb
 refine hK.out _ _ (fun _=>HSS.out _ KB.out) ?_
 refine w1 2 fun K hK=>?_
 go_simp
 (with_reducible refine (lv_any _ _).mono ?_)
 rintro e v22 ⟨rfl,hb⟩
 replace HA1:=Lib.hid (TAt.any HA1.out (fun b hb=>hb) hb)
 replace HA5:=Lib.hid (TAt.any HA5.out (fun b hb=>hb) hb)
 replace HX1:=Lib.hid (HX1.out.below (hb))
 replace HX5:=Lib.hid (HX5.out.below (hb))
 replace KK:=Lib.hid (KK.out.trans ((hb).mono KK.out.size))
 replace KB:=Lib.hid (KB.out.trans ((hb).mono KB.out.size))
 clear hb
 refine hK.out _ _ (fun _=>HSS.out _ KB.out) ?_
 refine w1 3 fun K hK=>?_
 go_simp
 have hbA:Below v22.heap.size v22 (v22.alloc (.cells #[.int .i64 1,.string ⟨#[]⟩,.string ⟨#[]⟩,.int .u64 0,.int .i64 0,.slice none 0 0,.int .i64 1,.string ⟨#[]⟩,.string ⟨#[]⟩,.int .u64 0,.int .i64 1,.slice none 0 0] 25)):=(Below.refl _ _).alloc (Nat.le_refl _) _
 have hbu:=built (w:=v22) (P:=fun b=>b<v22.heap.size) (s:=[97]) (n:=2) (cs:=#[.int .i64 1,.string ⟨#[]⟩,.string ⟨#[]⟩,.int .u64 0,.int .i64 0,.slice none 0 0,.int .i64 1,.string ⟨#[]⟩,.string ⟨#[]⟩,.int .u64 0,.int .i64 1,.slice none 0 0]) (ps:=[((varT 0),Value.slice none 0 0),((varT 1),Value.slice none 0 0)]) rfl rfl (mem2 (var_at _ _ ⟨by omega,by omega⟩) (var_at _ _ ⟨by omega,by omega⟩)) (fun b hb=>hb) (by unfold maxArgs;omega) (by decide)
 have HBA:=Lib.hid (And.intro hbA (And.intro hbu (show (v22.alloc (.cells #[.int .i64 1,.string ⟨#[]⟩,.string ⟨#[]⟩,.int .u64 0,.int .i64 0,.slice none 0 0,.int .i64 1,.string ⟨#[]⟩,.string ⟨#[]⟩,.int .u64 0,.int .i64 1,.slice none 0 0] 25)).heap.size=v22.heap.size+1 by simp)))
 clear hbA hbu
 replace HA1:=Lib.hid (TAt.any HA1.out (fun b hb=>hb) HBA.out.1)
 replace HA5:=Lib.hid (TAt.any HA5.out (fun b hb=>hb) HBA.out.1)
 replace HX1:=Lib.hid (HX1.out.below (HBA.out.1))
 replace HX5:=Lib.hid (HX5.out.below (HBA.out.1))
 replace KK:=Lib.hid (KK.out.trans ((HBA.out.1).mono KK.out.size))
 replace KB:=Lib.hid (KB.out.trans ((HBA.out.1).mono KB.out.size))
 refine hK.out _ _ (fun _=>HSS.out _ KB.out) ?_
 generalize (v22.alloc (.cells #[.int .i64 1,.string ⟨#[]⟩,.string ⟨#[]⟩,.int .u64 0,.int .i64 0,.slice none 0 0,.int .i64 1,.string ⟨#[]⟩,.string ⟨#[]⟩,.int .u64 0,.int .i64 1,.slice none 0 0] 25))=v23 at *
 generalize v22.heap.size=q5 at *
 refine w1 4 fun K hK=>?_
 go_simp
 (with_reducible refine (lf_any _ _ _ _ _).mono ?_)
 rintro e v24 ⟨rfl,hb⟩
 have HT5:=Lib.hid (show TAt v24 v24.heap.size (cmpT [97] [(varT 0),(varT 1)]) (.slice (some ⟨q5,0,none⟩) 2 2) from TAt.any HBA.out.2.1 (fun b hb=>by have:=HBA.out.2.2;rcases hb with hb | hb <;> omega) hb)
 replace HA1:=Lib.hid (TAt.any HA1.out (fun b hb=>hb) hb)
 replace HA5:=Lib.hid (TAt.any HA5.out (fun b hb=>hb) hb)
 replace HX1:=Lib.hid (HX1.out.below (hb))
 replace HX5:=Lib.hid (HX5.out.below (hb))
 replace KK:=Lib.hid (KK.out.trans ((hb).mono KK.out.size))
 replace KB:=Lib.hid (KB.out.trans ((hb).mono KB.out.size))
 clear hb HBA
 refine hK.out _ _ (fun _=>HSS.out _ KB.out) ?_
 refine w1 5 fun K hK=>?_
 go_simp
 (with_reducible refine (lv_any _ _).mono ?_)
 rintro e v25 ⟨rfl,hb⟩
 replace HA1:=Lib.hid (TAt.any HA1.out (fun b hb=>hb) hb)
 replace HA5:=Lib.hid (TAt.any HA5.out (fun b hb=>hb) hb)
 replace HT5:=Lib.hid (TAt.any HT5.out (fun b hb=>hb) hb)
 replace HX1:=Lib.hid (HX1.out.below (hb))
 replace HX5:=Lib.hid (HX5.out.below (hb))
 replace KK:=Lib.hid (KK.out.trans ((hb).mono KK.out.size))
 replace KB:=Lib.hid (KB.out.trans ((hb).mono KB.out.size))
 clear hb
 refine hK.out _ _ (fun _=>HSS.out _ KB.out) ?_
 refine w1 6 fun K hK=>?_
 go_simp
 (with_reducible refine (lv_any _ _).mono ?_)
 rintro e v26 ⟨rfl,hb⟩
 replace HA1:=Lib.hid (TAt.any HA1.out (fun b hb=>hb) hb)
 replace HA5:=Lib.hid (TAt.any HA5.out (fun b hb=>hb) hb)
 replace HT5:=Lib.hid (TAt.any HT5.out (fun b hb=>hb) hb)
 replace HX1:=Lib.hid (HX1.out.below (hb))
 replace HX5:=Lib.hid (HX5.out.below (hb))
 replace KK:=Lib.hid (KK.out.trans ((hb).mono KK.out.size))
 replace KB:=Lib.hid (KB.out.trans ((hb).mono KB.out.size))
 clear hb
 refine hK.out _ _ (fun _=>HSS.out _ KB.out) ?_
 refine w1 7 fun K hK=>?_
 go_simp
 have hbA:Below v26.heap.size v26 (v26.alloc (.cells #[.int .i64 1,.string ⟨#[]⟩,.string ⟨#[]⟩,.int .u64 0,.int .i64 0,.slice none 0 0,.int .i64 1,.string ⟨#[]⟩,.string ⟨#[]⟩,.int .u64 0,.int .i64 2,.slice none 0 0] 25)):=(Below.refl _ _).alloc (Nat.le_refl _) _
 have hbu:=built (w:=v26) (P:=fun b=>b<v26.heap.size) (s:=[98]) (n:=2) (cs:=#[.int .i64 1,.string ⟨#[]⟩,.string ⟨#[]⟩,.int .u64 0,.int .i64 0,.slice none 0 0,.int .i64 1,.string ⟨#[]⟩,.string ⟨#[]⟩,.int .u64 0,.int .i64 2,.slice none 0 0]) (ps:=[((varT 0),Value.slice none 0 0),((varT 2),Value.slice none 0 0)]) rfl rfl (mem2 (var_at _ _ ⟨by omega,by omega⟩) (var_at _ _ ⟨by omega,by omega⟩)) (fun b hb=>hb) (by unfold maxArgs;omega) (by decide)
 have HBA:=Lib.hid (And.intro hbA (And.intro hbu (show (v26.alloc (.cells #[.int .i64 1,.string ⟨#[]⟩,.string ⟨#[]⟩,.int .u64 0,.int .i64 0,.slice none 0 0,.int .i64 1,.string ⟨#[]⟩,.string ⟨#[]⟩,.int .u64 0,.int .i64 2,.slice none 0 0] 25)).heap.size=v26.heap.size+1 by simp)))
 clear hbA hbu
 replace HA1:=Lib.hid (TAt.any HA1.out (fun b hb=>hb) HBA.out.1)
 replace HA5:=Lib.hid (TAt.any HA5.out (fun b hb=>hb) HBA.out.1)
 replace HT5:=Lib.hid (TAt.any HT5.out (fun b hb=>hb) HBA.out.1)
 replace HX1:=Lib.hid (HX1.out.below (HBA.out.1))
 replace HX5:=Lib.hid (HX5.out.below (HBA.out.1))
 replace KK:=Lib.hid (KK.out.trans ((HBA.out.1).mono KK.out.size))
 replace KB:=Lib.hid (KB.out.trans ((HBA.out.1).mono KB.out.size))
 refine hK.out _ _ (fun _=>HSS.out _ KB.out) ?_
 generalize (v26.alloc (.cells #[.int .i64 1,.string ⟨#[]⟩,.string ⟨#[]⟩,.int .u64 0,.int .i64 0,.slice none 0 0,.int .i64 1,.string ⟨#[]⟩,.string ⟨#[]⟩,.int .u64 0,.int .i64 2,.slice none 0 0] 25))=v27 at *
 generalize v26.heap.size=q6 at *
 refine w1 8 fun K hK=>?_
 go_simp
 (with_reducible refine (lf_any _ _ _ _ _).mono ?_)
 rintro e v28 ⟨rfl,hb⟩
 have HT6:=Lib.hid (show TAt v28 v28.heap.size (cmpT [98] [(varT 0),(varT 2)]) (.slice (some ⟨q6,0,none⟩) 2 2) from TAt.any HBA.out.2.1 (fun b hb=>by have:=HBA.out.2.2;rcases hb with hb | hb <;> omega) hb)
 replace HA1:=Lib.hid (TAt.any HA1.out (fun b hb=>hb) hb)
 replace HA5:=Lib.hid (TAt.any HA5.out (fun b hb=>hb) hb)
 replace HT5:=Lib.hid (TAt.any HT5.out (fun b hb=>hb) hb)
 replace HX1:=Lib.hid (HX1.out.below (hb))
 replace HX5:=Lib.hid (HX5.out.below (hb))
 replace KK:=Lib.hid (KK.out.trans ((hb).mono KK.out.size))
 replace KB:=Lib.hid (KB.out.trans ((hb).mono KB.out.size))
 clear hb HBA
 refine hK.out _ _ (fun _=>HSS.out _ KB.out) ?_
 refine w1 9 fun K hK=>?_
 go_simp
 (with_reducible refine (lv_any _ _).mono ?_)
 rintro e v29 ⟨rfl,hb⟩
 replace HA1:=Lib.hid (TAt.any HA1.out (fun b hb=>hb) hb)
 replace HA5:=Lib.hid (TAt.any HA5.out (fun b hb=>hb) hb)
 replace HT5:=Lib.hid (TAt.any HT5.out (fun b hb=>hb) hb)
 replace HT6:=Lib.hid (TAt.any HT6.out (fun b hb=>hb) hb)
 replace HX1:=Lib.hid (HX1.out.below (hb))
 replace HX5:=Lib.hid (HX5.out.below (hb))
 replace KK:=Lib.hid (KK.out.trans ((hb).mono KK.out.size))
 replace KB:=Lib.hid (KB.out.trans ((hb).mono KB.out.size))
 clear hb
 refine hK.out _ _ (fun _=>HSS.out _ KB.out) ?_
 refine w1 10 fun K hK=>?_
 go_simp
 (with_reducible refine (lv_any _ _).mono ?_)
 rintro e v30 ⟨rfl,hb⟩
 replace HA1:=Lib.hid (TAt.any HA1.out (fun b hb=>hb) hb)
 replace HA5:=Lib.hid (TAt.any HA5.out (fun b hb=>hb) hb)
 replace HT5:=Lib.hid (TAt.any HT5.out (fun b hb=>hb) hb)
 replace HT6:=Lib.hid (TAt.any HT6.out (fun b hb=>hb) hb)
 replace HX1:=Lib.hid (HX1.out.below (hb))
 replace HX5:=Lib.hid (HX5.out.below (hb))
 replace KK:=Lib.hid (KK.out.trans ((hb).mono KK.out.size))
 replace KB:=Lib.hid (KB.out.trans ((hb).mono KB.out.size))
 clear hb
 refine hK.out _ _ (fun _=>HSS.out _ KB.out) ?_
 refine w1 11 fun K hK=>?_
 go_simp
 have hbA:Below v30.heap.size v30 (v30.alloc (.cells #[.int .i64 1,.string ⟨#[]⟩,.string ⟨#[]⟩,.int .u64 0,.int .i64 2,.slice none 0 0,.int .i64 1,.string ⟨#[]⟩,.string ⟨#[]⟩,.int .u64 0,.int .i64 1,.slice none 0 0] 25)):=(Below.refl _ _).alloc (Nat.le_refl _) _
 have hbu:=built (w:=v30) (P:=fun b=>b<v30.heap.size) (s:=[99]) (n:=2) (cs:=#[.int .i64 1,.string ⟨#[]⟩,.string ⟨#[]⟩,.int .u64 0,.int .i64 2,.slice none 0 0,.int .i64 1,.string ⟨#[]⟩,.string ⟨#[]⟩,.int .u64 0,.int .i64 1,.slice none 0 0]) (ps:=[((varT 2),Value.slice none 0 0),((varT 1),Value.slice none 0 0)]) rfl rfl (mem2 (var_at _ _ ⟨by omega,by omega⟩) (var_at _ _ ⟨by omega,by omega⟩)) (fun b hb=>hb) (by unfold maxArgs;omega) (by decide)
 have HBA:=Lib.hid (And.intro hbA (And.intro hbu (show (v30.alloc (.cells #[.int .i64 1,.string ⟨#[]⟩,.string ⟨#[]⟩,.int .u64 0,.int .i64 2,.slice none 0 0,.int .i64 1,.string ⟨#[]⟩,.string ⟨#[]⟩,.int .u64 0,.int .i64 1,.slice none 0 0] 25)).heap.size=v30.heap.size+1 by simp)))
 clear hbA hbu
 replace HA1:=Lib.hid (TAt.any HA1.out (fun b hb=>hb) HBA.out.1)
 replace HA5:=Lib.hid (TAt.any HA5.out (fun b hb=>hb) HBA.out.1)
 replace HT5:=Lib.hid (TAt.any HT5.out (fun b hb=>hb) HBA.out.1)
 replace HT6:=Lib.hid (TAt.any HT6.out (fun b hb=>hb) HBA.out.1)
 replace HX1:=Lib.hid (HX1.out.below (HBA.out.1))
 replace HX5:=Lib.hid (HX5.out.below (HBA.out.1))
 replace KK:=Lib.hid (KK.out.trans ((HBA.out.1).mono KK.out.size))
 replace KB:=Lib.hid (KB.out.trans ((HBA.out.1).mono KB.out.size))
 refine hK.out _ _ (fun _=>HSS.out _ KB.out) ?_
 generalize (v30.alloc (.cells #[.int .i64 1,.string ⟨#[]⟩,.string ⟨#[]⟩,.int .u64 0,.int .i64 2,.slice none 0 0,.int .i64 1,.string ⟨#[]⟩,.string ⟨#[]⟩,.int .u64 0,.int .i64 1,.slice none 0 0] 25))=v31 at *
 generalize v30.heap.size=q7 at *
 refine w1 12 fun K hK=>?_
 go_simp
 (with_reducible refine (lf_any _ _ _ _ _).mono ?_)
 rintro e v32 ⟨rfl,hb⟩
 have HT7:=Lib.hid (show TAt v32 v32.heap.size (cmpT [99] [(varT 2),(varT 1)]) (.slice (some ⟨q7,0,none⟩) 2 2) from TAt.any HBA.out.2.1 (fun b hb=>by have:=HBA.out.2.2;rcases hb with hb | hb <;> omega) hb)
 replace HA1:=Lib.hid (TAt.any HA1.out (fun b hb=>hb) hb)
 replace HA5:=Lib.hid (TAt.any HA5.out (fun b hb=>hb) hb)
 replace HT5:=Lib.hid (TAt.any HT5.out (fun b hb=>hb) hb)
 replace HT6:=Lib.hid (TAt.any HT6.out (fun b hb=>hb) hb)
 replace HX1:=Lib.hid (HX1.out.below (hb))
 replace HX5:=Lib.hid (HX5.out.below (hb))
 replace KK:=Lib.hid (KK.out.trans ((hb).mono KK.out.size))
 replace KB:=Lib.hid (KB.out.trans ((hb).mono KB.out.size))
 clear hb HBA
 refine hK.out _ _ (fun _=>HSS.out _ KB.out) ?_
 refine w1 13 fun K hK=>?_
 go_simp
 have hbA:Below v32.heap.size v32 (v32.alloc (.cells #[.int .i64 5,.string ⟨#[98]⟩,.string ⟨#[]⟩,.int .u64 0,.int .i64 0,.slice (some ⟨q6,0,none⟩) 2 2,.int .i64 5,.string ⟨#[99]⟩,.string ⟨#[]⟩,.int .u64 0,.int .i64 0,.slice (some ⟨q7,0,none⟩) 2 2] 25)):=(Below.refl _ _).alloc (Nat.le_refl _) _
 have hbu:=built (w:=v32) (P:=fun b=>b<v32.heap.size) (s:=[44]) (n:=2) (cs:=#[.int .i64 5,.string ⟨#[98]⟩,.string ⟨#[]⟩,.int .u64 0,.int .i64 0,.slice (some ⟨q6,0,none⟩) 2 2,.int .i64 5,.string ⟨#[99]⟩,.string ⟨#[]⟩,.int .u64 0,.int .i64 0,.slice (some ⟨q7,0,none⟩) 2 2]) (ps:=[((cmpT [98] [(varT 0),(varT 2)]),Value.slice (some ⟨q6,0,none⟩) 2 2),((cmpT [99] [(varT 2),(varT 1)]),Value.slice (some ⟨q7,0,none⟩) 2 2)]) rfl rfl (mem2 (HT6.out) (HT7.out)) (fun b hb=>hb) (by unfold maxArgs;omega) (by decide)
 have HBA:=Lib.hid (And.intro hbA (And.intro hbu (show (v32.alloc (.cells #[.int .i64 5,.string ⟨#[98]⟩,.string ⟨#[]⟩,.int .u64 0,.int .i64 0,.slice (some ⟨q6,0,none⟩) 2 2,.int .i64 5,.string ⟨#[99]⟩,.string ⟨#[]⟩,.int .u64 0,.int .i64 0,.slice (some ⟨q7,0,none⟩) 2 2] 25)).heap.size=v32.heap.size+1 by simp)))
 clear hbA hbu
 clear HT6
 clear HT7
 replace HA1:=Lib.hid (TAt.any HA1.out (fun b hb=>hb) HBA.out.1)
 replace HA5:=Lib.hid (TAt.any HA5.out (fun b hb=>hb) HBA.out.1)
 replace HT5:=Lib.hid (TAt.any HT5.out (fun b hb=>hb) HBA.out.1)
 replace HX1:=Lib.hid (HX1.out.below (HBA.out.1))
 replace HX5:=Lib.hid (HX5.out.below (HBA.out.1))
 replace KK:=Lib.hid (KK.out.trans ((HBA.out.1).mono KK.out.size))
 replace KB:=Lib.hid (KB.out.trans ((HBA.out.1).mono KB.out.size))
 refine hK.out _ _ (fun _=>HSS.out _ KB.out) ?_
 generalize (v32.alloc (.cells #[.int .i64 5,.string ⟨#[98]⟩,.string ⟨#[]⟩,.int .u64 0,.int .i64 0,.slice (some ⟨q6,0,none⟩) 2 2,.int .i64 5,.string ⟨#[99]⟩,.string ⟨#[]⟩,.int .u64 0,.int .i64 0,.slice (some ⟨q7,0,none⟩) 2 2] 25))=v33 at *
 generalize v32.heap.size=q8 at *
 refine w1 14 fun K hK=>?_
 go_simp
 (with_reducible refine (lf_any _ _ _ _ _).mono ?_)
 rintro e v34 ⟨rfl,hb⟩
 have HT8:=Lib.hid (show TAt v34 v34.heap.size (cmpT [44] [(cmpT [98] [(varT 0),(varT 2)]),(cmpT [99] [(varT 2),(varT 1)])]) (.slice (some ⟨q8,0,none⟩) 2 2) from TAt.any HBA.out.2.1 (fun b hb=>by have:=HBA.out.2.2;rcases hb with hb | hb <;> omega) hb)
 replace HA1:=Lib.hid (TAt.any HA1.out (fun b hb=>hb) hb)
 replace HA5:=Lib.hid (TAt.any HA5.out (fun b hb=>hb) hb)
 replace HT5:=Lib.hid (TAt.any HT5.out (fun b hb=>hb) hb)
 replace HX1:=Lib.hid (HX1.out.below (hb))
 replace HX5:=Lib.hid (HX5.out.below (hb))
 replace KK:=Lib.hid (KK.out.trans ((hb).mono KK.out.size))
 replace KB:=Lib.hid (KB.out.trans ((hb).mono KB.out.size))
 clear hb HBA
 refine hK.out _ _ (fun _=>HSS.out _ KB.out) ?_
 refine w1 15 fun K hK=>?_
 go_simp
 have hbA:Below v34.heap.size v34 (v34.alloc (.cells #[.int .i64 5,.string ⟨#[97]⟩,.string ⟨#[]⟩,.int .u64 0,.int .i64 0,.slice (some ⟨q5,0,none⟩) 2 2,.int .i64 5,.string ⟨#[44]⟩,.string ⟨#[]⟩,.int .u64 0,.int .i64 0,.slice (some ⟨q8,0,none⟩) 2 2] 25)):=(Below.refl _ _).alloc (Nat.le_refl _) _
 have hbu:=built (w:=v34) (P:=fun b=>b<v34.heap.size) (s:=[58,45]) (n:=2) (cs:=#[.int .i64 5,.string ⟨#[97]⟩,.string ⟨#[]⟩,.int .u64 0,.int .i64 0,.slice (some ⟨q5,0,none⟩) 2 2,.int .i64 5,.string ⟨#[44]⟩,.string ⟨#[]⟩,.int .u64 0,.int .i64 0,.slice (some ⟨q8,0,none⟩) 2 2]) (ps:=[((cmpT [97] [(varT 0),(varT 1)]),Value.slice (some ⟨q5,0,none⟩) 2 2),((cmpT [44] [(cmpT [98] [(varT 0),(varT 2)]),(cmpT [99] [(varT 2),(varT 1)])]),Value.slice (some ⟨q8,0,none⟩) 2 2)]) rfl rfl (mem2 (HT5.out) (HT8.out)) (fun b hb=>hb) (by unfold maxArgs;omega) (by decide)
 have HBA:=Lib.hid (And.intro hbA (And.intro hbu (show (v34.alloc (.cells #[.int .i64 5,.string ⟨#[97]⟩,.string ⟨#[]⟩,.int .u64 0,.int .i64 0,.slice (some ⟨q5,0,none⟩) 2 2,.int .i64 5,.string ⟨#[44]⟩,.string ⟨#[]⟩,.int .u64 0,.int .i64 0,.slice (some ⟨q8,0,none⟩) 2 2] 25)).heap.size=v34.heap.size+1 by simp)))
 clear hbA hbu
 clear HT5
 clear HT8
 replace HA1:=Lib.hid (TAt.any HA1.out (fun b hb=>hb) HBA.out.1)
 replace HA5:=Lib.hid (TAt.any HA5.out (fun b hb=>hb) HBA.out.1)
 replace HX1:=Lib.hid (HX1.out.below (HBA.out.1))
 replace HX5:=Lib.hid (HX5.out.below (HBA.out.1))
 replace KK:=Lib.hid (KK.out.trans ((HBA.out.1).mono KK.out.size))
 replace KB:=Lib.hid (KB.out.trans ((HBA.out.1).mono KB.out.size))
 refine hK.out _ _ (fun _=>HSS.out _ KB.out) ?_
 generalize (v34.alloc (.cells #[.int .i64 5,.string ⟨#[97]⟩,.string ⟨#[]⟩,.int .u64 0,.int .i64 0,.slice (some ⟨q5,0,none⟩) 2 2,.int .i64 5,.string ⟨#[44]⟩,.string ⟨#[]⟩,.int .u64 0,.int .i64 0,.slice (some ⟨q8,0,none⟩) 2 2] 25))=v35 at *
 generalize v34.heap.size=q9 at *
 refine w1 16 fun K hK=>?_
 go_simp
 (with_reducible refine (lf_any _ _ _ _ _).mono ?_)
 rintro e v36 ⟨rfl,hb⟩
 have HT9:=Lib.hid (show TAt v36 v36.heap.size (cmpT [58,45] [(cmpT [97] [(varT 0),(varT 1)]),(cmpT [44] [(cmpT [98] [(varT 0),(varT 2)]),(cmpT [99] [(varT 2),(varT 1)])])]) (.slice (some ⟨q9,0,none⟩) 2 2) from TAt.any HBA.out.2.1 (fun b hb=>by have:=HBA.out.2.2;rcases hb with hb | hb <;> omega) hb)
 replace HA1:=Lib.hid (TAt.any HA1.out (fun b hb=>hb) hb)
 replace HA5:=Lib.hid (TAt.any HA5.out (fun b hb=>hb) hb)
 replace HX1:=Lib.hid (HX1.out.below (hb))
 replace HX5:=Lib.hid (HX5.out.below (hb))
 replace KK:=Lib.hid (KK.out.trans ((hb).mono KK.out.size))
 replace KB:=Lib.hid (KB.out.trans ((hb).mono KB.out.size))
 clear hb HBA
 refine hK.out _ _ (fun _=>HSS.out _ KB.out) ?_
 refine w1 17 fun K hK=>?_
 go_simp
 have hR:=Same_any (cmpT [58,45] [(cmpT [97] [(varT 0),(varT 1)]),(cmpT [44] [(cmpT [98] [(varT 0),(varT 2)]),(cmpT [99] [(varT 2),(varT 1)])])]) _ _ _ HA1.out HT9.out
 rw [show valT (cmpT [58,45] [(cmpT [97] [(varT 0),(varT 1)]),(cmpT [44] [(cmpT [98] [(varT 0),(varT 2)]),(cmpT [99] [(varT 2),(varT 1)])])]) (.slice A1 2 c1) = .agg #[.int .i64 5,.string ⟨#[58,45]⟩,.string ⟨#[]⟩,.int .u64 0,.int .i64 0,.slice A1 2 c1] from rfl,show valT (cmpT [58,45] [(cmpT [97] [(varT 0),(varT 1)]),(cmpT [44] [(cmpT [98] [(varT 0),(varT 2)]),(cmpT [99] [(varT 2),(varT 1)])])]) (.slice (some ⟨q9,0,none⟩) 2 2) = .agg #[.int .i64 5,.string ⟨#[58,45]⟩,.string ⟨#[]⟩,.int .u64 0,.int .i64 0,.slice (some ⟨q9,0,none⟩) 2 2] from rfl] at hR
 (with_reducible refine hR.mono ?_)
 rintro e v37 ⟨rfl,hb⟩
 clear hR HT9
 replace HA1:=Lib.hid (TAt.any HA1.out (fun b hb=>hb) hb)
 replace HA5:=Lib.hid (TAt.any HA5.out (fun b hb=>hb) hb)
 replace HX1:=Lib.hid (HX1.out.below (hb))
 replace HX5:=Lib.hid (HX5.out.below (hb))
 replace KK:=Lib.hid (KK.out.trans ((hb).mono KK.out.size))
 clear hb HSS KB
 refine hK.out _ _ (fun h=>absurd h (by simp)) ?_
 refine w1 18 fun K hK=>?_
 go_simp
 refine hK.out _ _ (fun h=>absurd h (by simp)) ?_
 refine wpAnyW_done (by kernel_rfl) ?_ _
 go_upto_region 5 with fail
 have HSS:=Lib.hid (show ∀ z,Below v37.heap.size v37 z→(z.cell? ⟨g5,0,none⟩=some (.int .i64 5)∧z.cell? ⟨g5,1,none⟩=some (.string ⟨#[61]⟩)∧z.cell? ⟨g5,2,none⟩=some (.string ⟨#[]⟩)∧z.cell? ⟨g5,3,none⟩=some (.int .u64 0)∧z.cell? ⟨g5,4,none⟩=some (.int .i64 0)∧z.cell? ⟨g5,5,none⟩=some (.slice A5 2 c5)) from fun z hb=>(HX5.out.below hb).cells rfl rfl)
 refine wp_region_wait (fun z=>(z.cell? ⟨g5,0,none⟩=some (.int .i64 5)∧z.cell? ⟨g5,1,none⟩=some (.string ⟨#[61]⟩)∧z.cell? ⟨g5,2,none⟩=some (.string ⟨#[]⟩)∧z.cell? ⟨g5,3,none⟩=some (.int .u64 0)∧z.cell? ⟨g5,4,none⟩=some (.int .i64 0)∧z.cell? ⟨g5,5,none⟩=some (.slice A5 2 c5))) 8 (by kernel_rfl) ?_
 change wpAnyW _ _ _ _ _ _ _ _ _ v37.drew
 have hbd:=below_drew' v37
 have KB:=Lib.hid (show Below v37.heap.size v37 v37.drew from hbd)
 replace HA1:=Lib.hid (TAt.any HA1.out (fun b hb=>hb) hbd)
 replace HA5:=Lib.hid (TAt.any HA5.out (fun b hb=>hb) hbd)
 replace HX1:=Lib.hid (HX1.out.below (hbd))
 replace HX5:=Lib.hid (HX5.out.below (hbd))
 replace KK:=Lib.hid (KK.out.trans ((hbd).mono KK.out.size))
 clear hbd
 generalize v37.drew=v38 at *
 refine w3 8 0 (.agg #[.int .i64 5,.string ⟨#[61]⟩,.string ⟨#[]⟩,.int .u64 0,.int .i64 0,.slice A5 2 c5]) (HSS.out _ KB.out) ?_ ?_
 ·intro w5 hSw
  obtain ⟨p0,p1,p2,p3,p4,p5⟩:=hSw
  go_simp
 refine w1 1 fun K hK=>?_
 go_simp
 (with_reducible refine (lv_any _ _).mono ?_)
 rintro e v39 ⟨rfl,hb⟩
 replace HA1:=Lib.hid (TAt.any HA1.out (fun b hb=>hb) hb)
 replace HA5:=Lib.hid (TAt.any HA5.out (fun b hb=>hb) hb)
 replace HX1:=Lib.hid (HX1.out.below (hb))
 replace HX5:=Lib.hid (HX5.out.below (hb))
 replace KK:=Lib.hid (KK.out.trans ((hb).mono KK.out.size))
 replace KB:=Lib.hid (KB.out.trans ((hb).mono KB.out.size))
 clear hb
 refine hK.out _ _ (fun _=>HSS.out _ KB.out) ?_
 refine w1 2 fun K hK=>?_
 go_simp
 (with_reducible refine (latom_any _ _).mono ?_)
 rintro e v40 ⟨rfl,hb⟩
 replace HA1:=Lib.hid (TAt.any HA1.out (fun b hb=>hb) hb)
 replace HA5:=Lib.hid (TAt.any HA5.out (fun b hb=>hb) hb)
 replace HX1:=Lib.hid (HX1.out.below (hb))
 replace HX5:=Lib.hid (HX5.out.below (hb))
 replace KK:=Lib.hid (KK.out.trans ((hb).mono KK.out.size))
 replace KB:=Lib.hid (KB.out.trans ((hb).mono KB.out.size))
 clear hb
 refine hK.out _ _ (fun _=>HSS.out _ KB.out) ?_
 refine w1 3 fun K hK=>?_
 go_simp
 (with_reducible refine (lv_any _ _).mono ?_)
 rintro e v41 ⟨rfl,hb⟩
 replace HA1:=Lib.hid (TAt.any HA1.out (fun b hb=>hb) hb)
 replace HA5:=Lib.hid (TAt.any HA5.out (fun b hb=>hb) hb)
 replace HX1:=Lib.hid (HX1.out.below (hb))
 replace HX5:=Lib.hid (HX5.out.below (hb))
 replace KK:=Lib.hid (KK.out.trans ((hb).mono KK.out.size))
 replace KB:=Lib.hid (KB.out.trans ((hb).mono KB.out.size))
 clear hb
 refine hK.out _ _ (fun _=>HSS.out _ KB.out) ?_
 refine w1 4 fun K hK=>?_
 go_simp
 have hbA:Below v41.heap.size v41 (v41.alloc (.cells #[.int .i64 2,.string ⟨#[120]⟩,.string ⟨#[]⟩,.int .u64 0,.int .i64 0,.slice none 0 0,.int .i64 1,.string ⟨#[]⟩,.string ⟨#[]⟩,.int .u64 0,.int .i64 5,.slice none 0 0] 25)):=(Below.refl _ _).alloc (Nat.le_refl _) _
 have hbu:=built (w:=v41) (P:=fun b=>b<v41.heap.size) (s:=[46]) (n:=2) (cs:=#[.int .i64 2,.string ⟨#[120]⟩,.string ⟨#[]⟩,.int .u64 0,.int .i64 0,.slice none 0 0,.int .i64 1,.string ⟨#[]⟩,.string ⟨#[]⟩,.int .u64 0,.int .i64 5,.slice none 0 0]) (ps:=[((atomT [120]),Value.slice none 0 0),((varT 5),Value.slice none 0 0)]) rfl rfl (mem2 (atom_at _ _ (by decide)) (var_at _ _ ⟨by omega,by omega⟩)) (fun b hb=>hb) (by unfold maxArgs;omega) (by decide)
 have HBA:=Lib.hid (And.intro hbA (And.intro hbu (show (v41.alloc (.cells #[.int .i64 2,.string ⟨#[120]⟩,.string ⟨#[]⟩,.int .u64 0,.int .i64 0,.slice none 0 0,.int .i64 1,.string ⟨#[]⟩,.string ⟨#[]⟩,.int .u64 0,.int .i64 5,.slice none 0 0] 25)).heap.size=v41.heap.size+1 by simp)))
 clear hbA hbu
 replace HA1:=Lib.hid (TAt.any HA1.out (fun b hb=>hb) HBA.out.1)
 replace HA5:=Lib.hid (TAt.any HA5.out (fun b hb=>hb) HBA.out.1)
 replace HX1:=Lib.hid (HX1.out.below (HBA.out.1))
 replace HX5:=Lib.hid (HX5.out.below (HBA.out.1))
 replace KK:=Lib.hid (KK.out.trans ((HBA.out.1).mono KK.out.size))
 replace KB:=Lib.hid (KB.out.trans ((HBA.out.1).mono KB.out.size))
 refine hK.out _ _ (fun _=>HSS.out _ KB.out) ?_
 generalize (v41.alloc (.cells #[.int .i64 2,.string ⟨#[120]⟩,.string ⟨#[]⟩,.int .u64 0,.int .i64 0,.slice none 0 0,.int .i64 1,.string ⟨#[]⟩,.string ⟨#[]⟩,.int .u64 0,.int .i64 5,.slice none 0 0] 25))=v42 at *
 generalize v41.heap.size=q10 at *
 refine w1 5 fun K hK=>?_
 go_simp
 (with_reducible refine (lf_any _ _ _ _ _).mono ?_)
 rintro e v43 ⟨rfl,hb⟩
 have HT10:=Lib.hid (show TAt v43 v43.heap.size (cmpT [46] [(atomT [120]),(varT 5)]) (.slice (some ⟨q10,0,none⟩) 2 2) from TAt.any HBA.out.2.1 (fun b hb=>by have:=HBA.out.2.2;rcases hb with hb | hb <;> omega) hb)
 replace HA1:=Lib.hid (TAt.any HA1.out (fun b hb=>hb) hb)
 replace HA5:=Lib.hid (TAt.any HA5.out (fun b hb=>hb) hb)
 replace HX1:=Lib.hid (HX1.out.below (hb))
 replace HX5:=Lib.hid (HX5.out.below (hb))
 replace KK:=Lib.hid (KK.out.trans ((hb).mono KK.out.size))
 replace KB:=Lib.hid (KB.out.trans ((hb).mono KB.out.size))
 clear hb HBA
 refine hK.out _ _ (fun _=>HSS.out _ KB.out) ?_
 refine w1 6 fun K hK=>?_
 go_simp
 have hbA:Below v43.heap.size v43 (v43.alloc (.cells #[.int .i64 1,.string ⟨#[]⟩,.string ⟨#[]⟩,.int .u64 0,.int .i64 4,.slice none 0 0,.int .i64 5,.string ⟨#[46]⟩,.string ⟨#[]⟩,.int .u64 0,.int .i64 0,.slice (some ⟨q10,0,none⟩) 2 2] 25)):=(Below.refl _ _).alloc (Nat.le_refl _) _
 have hbu:=built (w:=v43) (P:=fun b=>b<v43.heap.size) (s:=[61]) (n:=2) (cs:=#[.int .i64 1,.string ⟨#[]⟩,.string ⟨#[]⟩,.int .u64 0,.int .i64 4,.slice none 0 0,.int .i64 5,.string ⟨#[46]⟩,.string ⟨#[]⟩,.int .u64 0,.int .i64 0,.slice (some ⟨q10,0,none⟩) 2 2]) (ps:=[((varT 4),Value.slice none 0 0),((cmpT [46] [(atomT [120]),(varT 5)]),Value.slice (some ⟨q10,0,none⟩) 2 2)]) rfl rfl (mem2 (var_at _ _ ⟨by omega,by omega⟩) (HT10.out)) (fun b hb=>hb) (by unfold maxArgs;omega) (by decide)
 have HBA:=Lib.hid (And.intro hbA (And.intro hbu (show (v43.alloc (.cells #[.int .i64 1,.string ⟨#[]⟩,.string ⟨#[]⟩,.int .u64 0,.int .i64 4,.slice none 0 0,.int .i64 5,.string ⟨#[46]⟩,.string ⟨#[]⟩,.int .u64 0,.int .i64 0,.slice (some ⟨q10,0,none⟩) 2 2] 25)).heap.size=v43.heap.size+1 by simp)))
 clear hbA hbu
 clear HT10
 replace HA1:=Lib.hid (TAt.any HA1.out (fun b hb=>hb) HBA.out.1)
 replace HA5:=Lib.hid (TAt.any HA5.out (fun b hb=>hb) HBA.out.1)
 replace HX1:=Lib.hid (HX1.out.below (HBA.out.1))
 replace HX5:=Lib.hid (HX5.out.below (HBA.out.1))
 replace KK:=Lib.hid (KK.out.trans ((HBA.out.1).mono KK.out.size))
 replace KB:=Lib.hid (KB.out.trans ((HBA.out.1).mono KB.out.size))
 refine hK.out _ _ (fun _=>HSS.out _ KB.out) ?_
 generalize (v43.alloc (.cells #[.int .i64 1,.string ⟨#[]⟩,.string ⟨#[]⟩,.int .u64 0,.int .i64 4,.slice none 0 0,.int .i64 5,.string ⟨#[46]⟩,.string ⟨#[]⟩,.int .u64 0,.int .i64 0,.slice (some ⟨q10,0,none⟩) 2 2] 25))=v44 at *
 generalize v43.heap.size=q11 at *
 refine w1 7 fun K hK=>?_
 go_simp
 (with_reducible refine (lf_any _ _ _ _ _).mono ?_)
 rintro e v45 ⟨rfl,hb⟩
 have HT11:=Lib.hid (show TAt v45 v45.heap.size (cmpT [61] [(varT 4),(cmpT [46] [(atomT [120]),(varT 5)])]) (.slice (some ⟨q11,0,none⟩) 2 2) from TAt.any HBA.out.2.1 (fun b hb=>by have:=HBA.out.2.2;rcases hb with hb | hb <;> omega) hb)
 replace HA1:=Lib.hid (TAt.any HA1.out (fun b hb=>hb) hb)
 replace HA5:=Lib.hid (TAt.any HA5.out (fun b hb=>hb) hb)
 replace HX1:=Lib.hid (HX1.out.below (hb))
 replace HX5:=Lib.hid (HX5.out.below (hb))
 replace KK:=Lib.hid (KK.out.trans ((hb).mono KK.out.size))
 replace KB:=Lib.hid (KB.out.trans ((hb).mono KB.out.size))
 clear hb HBA
 refine hK.out _ _ (fun _=>HSS.out _ KB.out) ?_
 refine w1 8 fun K hK=>?_
 go_simp
 have hR:=Same_any (cmpT [61] [(varT 4),(cmpT [46] [(atomT [120]),(varT 5)])]) _ _ _ HA5.out HT11.out
 rw [show valT (cmpT [61] [(varT 4),(cmpT [46] [(atomT [120]),(varT 5)])]) (.slice A5 2 c5) = .agg #[.int .i64 5,.string ⟨#[61]⟩,.string ⟨#[]⟩,.int .u64 0,.int .i64 0,.slice A5 2 c5] from rfl,show valT (cmpT [61] [(varT 4),(cmpT [46] [(atomT [120]),(varT 5)])]) (.slice (some ⟨q11,0,none⟩) 2 2) = .agg #[.int .i64 5,.string ⟨#[61]⟩,.string ⟨#[]⟩,.int .u64 0,.int .i64 0,.slice (some ⟨q11,0,none⟩) 2 2] from rfl] at hR
 (with_reducible refine hR.mono ?_)
 rintro e v46 ⟨rfl,hb⟩
 clear hR HT11
 replace HA1:=Lib.hid (TAt.any HA1.out (fun b hb=>hb) hb)
 replace HA5:=Lib.hid (TAt.any HA5.out (fun b hb=>hb) hb)
 replace HX1:=Lib.hid (HX1.out.below (hb))
 replace HX5:=Lib.hid (HX5.out.below (hb))
 replace KK:=Lib.hid (KK.out.trans ((hb).mono KK.out.size))
 clear hb HSS KB
 refine hK.out _ _ (fun h=>absurd h (by simp)) ?_
 refine w1 9 fun K hK=>?_
 go_simp
 refine hK.out _ _ (fun h=>absurd h (by simp)) ?_
 refine wpAnyW_done (by kernel_rfl) ?_ _
 go_wp2
 go_ret
 exact ⟨rfl,KK.out⟩
set_option maxRecDepth 100000 in
set_option maxHeartbeats 16000000 in
theorem Bodies_walkM {w0 w:World} {t f d:Tm} {st sf sd:Value} {nx:Int} (hMk:RMakeOk t) (h1:TAt w w.heap.size t st) (h2:TAt w w.heap.size f sf) (h3:TAt w w.heap.size d sd) (hf1:Fits t) (hf2:Fits f) (hf3:Fits d) (hU:UOk w0 w) :
  Calls Tryd.prog 4 #[valT t st,valT f sf,valT d sd,.int .i64 nx] w fun e w'=>e = .returned (.bool true)∧Below w.heap.size w w':=by
 obtain ⟨k1,n1,m1,b1,v1,ts1,nb1,mb1,A1,c1,rfl,rfl,hn1,hm1,_,_,_,hv1,_,_⟩:=h1.letters
 obtain ⟨L1,hL1⟩:∃ L,ts1.length=L:=⟨_,rfl⟩
 rw [hL1] at h1 hv1 ⊢
 rw [hv1]
 obtain ⟨k2,n2,m2,b2,v2,ts2,nb2,mb2,A2,c2,rfl,rfl,hn2,hm2,_,_,_,hv2,_,_⟩:=h2.letters
 obtain ⟨L2,hL2⟩:∃ L,ts2.length=L:=⟨_,rfl⟩
 rw [hL2] at h2 hv2 ⊢
 rw [hv2]
 obtain ⟨k3,n3,m3,b3,v3,ts3,nb3,mb3,A3,c3,rfl,rfl,hn3,hm3,_,_,_,hv3,_,_⟩:=h3.letters
 obtain ⟨L3,hL3⟩:∃ L,ts3.length=L:=⟨_,rfl⟩
 rw [hL3] at h3 hv3 ⊢
 rw [hv3]
 obtain ⟨W1,hW1⟩:∃ W,w.alloc (.cells #[.int .i64 k1,.string nb1,.string mb1,.int .u64 b1,.int .i64 v1,.slice A1 L1 c1] 25)=W:=⟨_,rfl⟩
 have d1:Below w.heap.size w W1:=by rw [←hW1];exact (Below.refl _ _).alloc (Nat.le_refl _) _
 have s1:W1.heap.size=w.heap.size+1:=by rw [←hW1];simp
 have X1:TBox W1 w.heap.size (Tm.mk k1 n1 m1 b1 v1 ts1) (.slice A1 L1 c1):=by rw [←hW1];exact TBox.new w hn1 hm1
 obtain ⟨W2,hW2⟩:∃ W,W1.alloc (.cells #[.int .i64 k2,.string nb2,.string mb2,.int .u64 b2,.int .i64 v2,.slice A2 L2 c2] 25)=W:=⟨_,rfl⟩
 have d2:Below W1.heap.size W1 W2:=by rw [←hW2];exact (Below.refl _ _).alloc (Nat.le_refl _) _
 have s2:W2.heap.size=W1.heap.size+1:=by rw [←hW2];simp
 have X2:TBox W2 W1.heap.size (Tm.mk k2 n2 m2 b2 v2 ts2) (.slice A2 L2 c2):=by rw [←hW2];exact TBox.new W1 hn2 hm2
 obtain ⟨W3,hW3⟩:∃ W,W2.alloc (.cells #[.int .i64 k3,.string nb3,.string mb3,.int .u64 b3,.int .i64 v3,.slice A3 L3 c3] 25)=W:=⟨_,rfl⟩
 have d3:Below W2.heap.size W2 W3:=by rw [←hW3];exact (Below.refl _ _).alloc (Nat.le_refl _) _
 have s3:W3.heap.size=W2.heap.size+1:=by rw [←hW3];simp
 have X3:TBox W3 W2.heap.size (Tm.mk k3 n3 m3 b3 v3 ts3) (.slice A3 L3 c3):=by rw [←hW3];exact TBox.new W2 hn3 hm3
 rw [s1] at X2
 rw [s2,s1] at X3
 have hb0:Below w.heap.size w W3:=d1.trans ((d2.trans (d3.mono (by omega))).mono (by omega))
 have HXt:=Lib.hid (show ∀ z,Below W3.heap.size W3 z→TBox z w.heap.size (Tm.mk k1 n1 m1 b1 v1 ts1) (.slice A1 L1 c1)∧TBox z (w.heap.size+1) (Tm.mk k2 n2 m2 b2 v2 ts2) (.slice A2 L2 c2)∧TBox z (w.heap.size+1+1) (Tm.mk k3 n3 m3 b3 v3 ts3) (.slice A3 L3 c3)∧TAt z z.heap.size (Tm.mk k1 n1 m1 b1 v1 ts1) (.slice A1 L1 c1)∧TAt z z.heap.size (Tm.mk k2 n2 m2 b2 v2 ts2) (.slice A2 L2 c2)∧TAt z z.heap.size (Tm.mk k3 n3 m3 b3 v3 ts3) (.slice A3 L3 c3)∧UOk w0 z∧Below w.heap.size w z from fun z hb=>by
  have hz:=hb0.trans (hb.mono hb0.size)
  exact ⟨((X1.below d2).below d3).below hb,(X2.below d3).below hb,X3.below hb,h1.to hz hz.size,h2.to hz hz.size,h3.to hz hz.size,hU.below hz,hz⟩)
 have HXb:=Lib.hid (show ∀ z,Below W3.heap.size W3 z→TAt z w.heap.size (Tm.mk k1 n1 m1 b1 v1 ts1) (.slice A1 L1 c1)∧TAt z w.heap.size (Tm.mk k2 n2 m2 b2 v2 ts2) (.slice A2 L2 c2)∧TAt z w.heap.size (Tm.mk k3 n3 m3 b3 v3 ts3) (.slice A3 L3 c3) from fun z hb=>by
  have hz:=hb0.trans (hb.mono hb0.size)
  exact ⟨TAt.below _ h1 hz (Nat.le_refl _),TAt.below _ h2 hz (Nat.le_refl _),TAt.below _ h3 hz (Nat.le_refl _)⟩)
 have HM1:=Lib.hid (And.intro hn1 (And.intro hm1 hL1))
 have HM2:=Lib.hid (And.intro hn2 (And.intro hm2 hL2))
 have HM3:=Lib.hid (And.intro hn3 (And.intro hm3 hL3))
 have HFi:=Lib.hid (And.intro hf1 (And.intro hf2 hf3))
 have HA:=Lib.hid (awake_np (hU.below hb0))
 have HMk:=Lib.hid hMk
 obtain ⟨cc,hcc⟩:∃ cc,checksP [(Tm.mk k1 n1 m1 b1 v1 ts1),(Tm.mk k2 n2 m2 b2 v2 ts2),(Tm.mk k3 n3 m3 b3 v3 ts3)]=cc:=⟨_,rfl⟩
 obtain ⟨N,hN⟩:∃ N,expN cc nx=N:=⟨_,rfl⟩
 obtain ⟨X,hX⟩:∃ X,expA N (Tm.mk k1 n1 m1 b1 v1 ts1) (Tm.mk k2 n2 m2 b2 v2 ts2) (Tm.mk k3 n3 m3 b3 v3 ts3) nx=X:=⟨_,rfl⟩
 obtain ⟨g4,na,ia,g9⟩:=X
 obtain ⟨k4,n4,m4,b4,v4,ts4⟩:=g4
 obtain ⟨nb4,hnb4⟩:∃ nb:ByteArray,(⟨n4.toArray⟩:ByteArray)=nb:=⟨_,rfl⟩
 obtain ⟨mb4,hmb4⟩:∃ mb:ByteArray,(⟨m4.toArray⟩:ByteArray)=mb:=⟨_,rfl⟩
 obtain ⟨L4,hL4⟩:∃ L,ts4.length=L:=⟨_,rfl⟩
 have HL4:=Lib.hid (And.intro hnb4 (And.intro hmb4 hL4))
 clear hnb4 hmb4 hL4
 obtain ⟨k9,n9,m9,b9,v9,ts9⟩:=g9
 obtain ⟨nb9,hnb9⟩:∃ nb:ByteArray,(⟨n9.toArray⟩:ByteArray)=nb:=⟨_,rfl⟩
 obtain ⟨mb9,hmb9⟩:∃ mb:ByteArray,(⟨m9.toArray⟩:ByteArray)=mb:=⟨_,rfl⟩
 obtain ⟨L9,hL9⟩:∃ L,ts9.length=L:=⟨_,rfl⟩
 have HL9:=Lib.hid (And.intro hnb9 (And.intro hmb9 hL9))
 clear hnb9 hmb9 hL9
 have HC:=Lib.hid (And.intro hcc (And.intro hN hX))
 have HBd:=Lib.hid (show ∀ z,Below W3.heap.size W3 z→Calls Tryd.prog 16 #[.agg #[.int .i64 k1,.string nb1,.string mb1,.int .u64 b1,.int .i64 v1,.slice A1 L1 c1],.agg #[.int .i64 k2,.string nb2,.string mb2,.int .u64 b2,.int .i64 v2,.slice A2 L2 c2],.agg #[.int .i64 k3,.string nb3,.string mb3,.int .u64 b3,.int .i64 v3,.slice A3 L3 c3],.int .i64 nx] z (fun e w'=>∃ A c ev,e = .returned (.tuple #[.agg #[.int .i64 k4,.string nb4,.string mb4,.int .u64 b4,.int .i64 v4,.slice A L4 c],.int .i64 na,ev])∧TOwn w' (Tm.mk k4 n4 m4 b4 v4 ts4) (.slice A L4 c) z.heap.size w'.heap.size∧WrongOk w' ev N ia (Tm.mk k9 n9 m9 b9 v9 ts9)∧Below z.heap.size z w') from fun z hz=>by
  obtain ⟨_,_,_,t1,t2,t3,hu,_⟩:=HXt.out z hz
  have h:=Body_X t1 t2 t3 hu HC.out.1 HC.out.2.1
  rw [HC.out.2.2,hv1,hv2,hv3] at h
  exact h.mono (fun e w' h=>BodyX.letters HL4.out.1 HL4.out.2.1 HL4.out.2.2 h))
 have HR3:=Lib.hid (show ∀ z,Below W3.heap.size W3 z→RowP (z.alloc (.cells #[.int .i64 k1,.string nb1,.string mb1,.int .u64 b1,.int .i64 v1,.slice A1 L1 c1,.int .i64 k2,.string nb2,.string mb2,.int .u64 b2,.int .i64 v2,.slice A2 L2 c2,.int .i64 k3,.string nb3,.string mb3,.int .u64 b3,.int .i64 v3,.slice A3 L3 c3] 25)) (fun b=>b<(z.alloc (.cells #[.int .i64 k1,.string nb1,.string mb1,.int .u64 b1,.int .i64 v1,.slice A1 L1 c1,.int .i64 k2,.string nb2,.string mb2,.int .u64 b2,.int .i64 v2,.slice A2 L2 c2,.int .i64 k3,.string nb3,.string mb3,.int .u64 b3,.int .i64 v3,.slice A3 L3 c3] 25)).heap.size) (some ⟨z.heap.size,0,none⟩) 3 [((Tm.mk k1 n1 m1 b1 v1 ts1),Value.slice A1 L1 c1),((Tm.mk k2 n2 m2 b2 v2 ts2),Value.slice A2 L2 c2),((Tm.mk k3 n3 m3 b3 v3 ts3),Value.slice A3 L3 c3)]∧Below z.heap.size z (z.alloc (.cells #[.int .i64 k1,.string nb1,.string mb1,.int .u64 b1,.int .i64 v1,.slice A1 L1 c1,.int .i64 k2,.string nb2,.string mb2,.int .u64 b2,.int .i64 v2,.slice A2 L2 c2,.int .i64 k3,.string nb3,.string mb3,.int .u64 b3,.int .i64 v3,.slice A3 L3 c3] 25)) from fun z hz=>by
  have hb:Below z.heap.size z (z.alloc (.cells #[.int .i64 k1,.string nb1,.string mb1,.int .u64 b1,.int .i64 v1,.slice A1 L1 c1,.int .i64 k2,.string nb2,.string mb2,.int .u64 b2,.int .i64 v2,.slice A2 L2 c2,.int .i64 k3,.string nb3,.string mb3,.int .u64 b3,.int .i64 v3,.slice A3 L3 c3] 25)):=(Below.refl _ _).alloc (Nat.le_refl _) _
  obtain ⟨_,_,_,t1,t2,t3,_,_⟩:=HXt.out _ (hz.trans (hb.mono hz.size))
  exact ⟨rowP_at (heap_alloc_new z _) (by rw [←HM1.out.1,←HM1.out.2.1,←HM2.out.1,←HM2.out.2.1,←HM3.out.1,←HM3.out.2.1];rfl) rfl (mem3 t1 t2 t3),hb⟩)
 subst hW1 hW2 hW3
 clear h1 h2 h3 hU hv1 hv2 hv3 hf1 hf2 hf3 hn1 hm1 hn2 hm2 hn3 hm3 d1 d2 d3 s1 s2 s3 X1 X2 X3 hb0 hL1 hL2 hL3 hMk hcc hN hX
 go_enter Tryd.func4,Tryd.ntmps4
 go_upto_region 1 with fail
 generalize (((w.alloc (.cells #[.int .i64 k1,.string nb1,.string mb1,.int .u64 b1,.int .i64 v1,.slice A1 L1 c1] 25)).alloc (.cells #[.int .i64 k2,.string nb2,.string mb2,.int .u64 b2,.int .i64 v2,.slice A2 L2 c2] 25)).alloc (.cells #[.int .i64 k3,.string nb3,.string mb3,.int .u64 b3,.int .i64 v3,.slice A3 L3 c3] 25))=u0 at *
 go_upto_region 2 with (go_at_call 7;(with_reducible refine HA.out.mono ?_);rintro e u1 ⟨rfl,hb⟩;have KM:=Lib.hid hb;clear hb)
 clear HA
 have HO:=Lib.hid (show ∀ z,Below u1.heap.size u1 z→Calls Tryd.prog 8 #[.agg #[.int .i64 k1,.string nb1,.string mb1,.int .u64 b1,.int .i64 v1,.slice A1 L1 c1]] z (fun e w'=>∃ A c,e = .returned (.agg #[.int .i64 k1,.string nb1,.string mb1,.int .u64 b1,.int .i64 v1,.slice A L1 c])∧FreshT z w' (Tm.mk k1 n1 m1 b1 v1 ts1) (.slice A L1 c)∧Below z.heap.size z w')∧Calls Tryd.prog 8 #[.agg #[.int .i64 k2,.string nb2,.string mb2,.int .u64 b2,.int .i64 v2,.slice A2 L2 c2]] z (fun e w'=>∃ A c,e = .returned (.agg #[.int .i64 k2,.string nb2,.string mb2,.int .u64 b2,.int .i64 v2,.slice A L2 c])∧FreshT z w' (Tm.mk k2 n2 m2 b2 v2 ts2) (.slice A L2 c)∧Below z.heap.size z w')∧Calls Tryd.prog 8 #[.agg #[.int .i64 k3,.string nb3,.string mb3,.int .u64 b3,.int .i64 v3,.slice A3 L3 c3]] z (fun e w'=>∃ A c,e = .returned (.agg #[.int .i64 k3,.string nb3,.string mb3,.int .u64 b3,.int .i64 v3,.slice A L3 c])∧FreshT z w' (Tm.mk k3 n3 m3 b3 v3 ts3) (.slice A L3 c)∧Below z.heap.size z w') from fun z hz=>by
  obtain ⟨_,_,_,t1,t2,t3,_,_⟩:=HXt.out _ (KM.out.trans (hz.mono KM.out.size))
  refine ⟨fresh_letters HM1.out.1 HM1.out.2.1 HM1.out.2.2 ?_,fresh_letters HM2.out.1 HM2.out.2.1 HM2.out.2.2 ?_,fresh_letters HM3.out.1 HM3.out.2.1 HM3.out.2.2 ?_⟩
  ·have h:=ROwn_any (Tm.mk k1 n1 m1 b1 v1 ts1) z (.slice A1 L1 c1) t1
   rw [valT_mk (sl:=.slice A1 L1 c1) HM1.out.1 HM1.out.2.1] at h
   exact h
  ·have h:=ROwn_any (Tm.mk k2 n2 m2 b2 v2 ts2) z (.slice A2 L2 c2) t2
   rw [valT_mk (sl:=.slice A2 L2 c2) HM2.out.1 HM2.out.2.1] at h
   exact h
  ·have h:=ROwn_any (Tm.mk k3 n3 m3 b3 v3 ts3) z (.slice A3 L3 c3) t3
   rw [valT_mk (sl:=.slice A3 L3 c3) HM3.out.1 HM3.out.2.1] at h
   exact h)
 refine wp_region_U 7 (by kernel_rfl) (fun g0 K0 hs0=>?_)
 refine tw 0 K0 (v:=?tv1) (fun w5 hS=>?ty1) ?_
 case ty1=>obtain ⟨x0,x1,x2,x3,x4,x5⟩:=(HXt.out _ (KM.out.trans (hS.mono KM.out.size))).1.cells HM1.out.1 HM1.out.2.1;go_simp;rfl
 refine tw 2 K0 (v:=?tv2) (fun w5 hS=>?ty2) ?_
 case ty2=>obtain ⟨y0,y1,y2,y3,y4,y5⟩:=(HXt.out _ (KM.out.trans (hS.mono KM.out.size))).2.1.cells HM2.out.1 HM2.out.2.1;go_simp;rfl
 refine tw 4 K0 (v:=?tv3) (fun w5 hS=>?ty3) ?_
 case ty3=>obtain ⟨z0,z1,z2,z3,z4,z5⟩:=(HXt.out _ (KM.out.trans (hS.mono KM.out.size))).2.2.1.cells HM3.out.1 HM3.out.2.1;go_simp;rfl
 refine w1 1 fun K hK=>?_
 go_simp
 (with_reducible refine (HO.out _ K0).1.mono ?_)
 rintro e g1 ⟨A1w,c1w,rfl,hw1,hg1⟩
 have K1:=K0.trans (hg1.mono K0.size)
 refine hK.out _ _ (fun _=>K1) ?_
 refine w1 3 fun K hK=>?_
 go_simp
 (with_reducible refine (HO.out _ K1).2.1.mono ?_)
 rintro e g2 ⟨A2w,c2w,rfl,hw2,hg2⟩
 have K2:=K1.trans (hg2.mono K1.size)
 refine hK.out _ _ (fun _=>K2) ?_
 refine w1 5 fun K hK=>?_
 go_simp
 (with_reducible refine (HO.out _ K2).2.2.mono ?_)
 rintro e g3 ⟨A3w,c3w,rfl,hw3,hg3⟩
 have K3:=K2.trans (hg3.mono K2.size)
 refine hK.out _ _ (fun _=>K3) ?_
 have HWs:=Lib.hid (show ∀ z,g3.alloc (.cells #[.int .i64 k1,.string nb1,.string mb1,.int .u64 b1,.int .i64 v1,.slice A1w L1 c1w,.int .i64 k2,.string nb2,.string mb2,.int .u64 b2,.int .i64 v2,.slice A2w L2 c2w,.int .i64 k3,.string nb3,.string mb3,.int .u64 b3,.int .i64 v3,.slice A3w L3 c3w] 25)=z→∀ G,g3.heap.size=G→RowP z (fun b=>b<z.heap.size) (some ⟨G,0,none⟩) 3 [((Tm.mk k1 n1 m1 b1 v1 ts1),Value.slice A1w L1 c1w),((Tm.mk k2 n2 m2 b2 v2 ts2),Value.slice A2w L2 c2w),((Tm.mk k3 n3 m3 b3 v3 ts3),Value.slice A3w L3 c3w)]∧Below u1.heap.size u1 z∧G<z.heap.size from fun z e G eG=>by
  rw [←e,←eG]
  have hb:Below g3.heap.size g3 (g3.alloc (.cells #[.int .i64 k1,.string nb1,.string mb1,.int .u64 b1,.int .i64 v1,.slice A1w L1 c1w,.int .i64 k2,.string nb2,.string mb2,.int .u64 b2,.int .i64 v2,.slice A2w L2 c2w,.int .i64 k3,.string nb3,.string mb3,.int .u64 b3,.int .i64 v3,.slice A3w L3 c3w] 25)):=(Below.refl _ _).alloc (Nat.le_refl _) _
  have e3:=hg3.trans (hb.mono hg3.size)
  have e2:=hg2.trans (e3.mono hg2.size)
  exact ⟨rowP_at (heap_alloc_new g3 _) (by rw [←HM1.out.1,←HM1.out.2.1,←HM2.out.1,←HM2.out.2.1,←HM3.out.1,←HM3.out.2.1];rfl) rfl (mem3 (hw1.at_.to e2 e2.size) (hw2.at_.to e3 e3.size) (hw3.at_.to hb hb.size)),K3.trans (hb.mono K3.size),by simp⟩)
 clear hw1 hw2 hw3 hg1 hg2 hg3
 refine w1 6 fun K hK=>?_
 go_simp
 generalize g3.alloc (.cells #[.int .i64 k1,.string nb1,.string mb1,.int .u64 b1,.int .i64 v1,.slice A1w L1 c1w,.int .i64 k2,.string nb2,.string mb2,.int .u64 b2,.int .i64 v2,.slice A2w L2 c2w,.int .i64 k3,.string nb3,.string mb3,.int .u64 b3,.int .i64 v3,.slice A3w L3 c3w] 25)=g4w at *
 replace HWs:=Lib.hid (HWs.out _ rfl)
 generalize g3.heap.size=GW0 at *
 replace HWs:=Lib.hid (HWs.out _ rfl)
 refine hK.out _ _ (fun _=>HWs.out.2.1) ?_
 refine w1 7 fun K hK=>?_
 go_simp
 refine hK.out _ _ (fun h=>absurd h (by simp)) ?_
 refine wpAnyW_done (by kernel_rfl) ?_ _
 clear K0 K1 K2 K3 hs0 HO
 replace KM:=Lib.hid (KM.out.trans (HWs.out.2.1.mono KM.out.size))
 obtain ⟨x0,x1,x2,x3,x4,x5⟩:=(HXt.out _ (KM.out)).1.cells HM1.out.1 HM1.out.2.1
 obtain ⟨y0,y1,y2,y3,y4,y5⟩:=(HXt.out _ (KM.out)).2.1.cells HM2.out.1 HM2.out.2.1
 obtain ⟨z0,z1,z2,z3,z4,z5⟩:=(HXt.out _ (KM.out)).2.2.1.cells HM3.out.1 HM3.out.2.1
 go_upto_region 4 with (go_at_call 16;(with_reducible refine (HBd.out _ KM.out).mono ?_);rintro e u3 ⟨A5,c5,ev4,rfl,ho,hw,hb⟩;have HV:=Lib.hid (And.intro ho (And.intro hw hb));clear ho hw hb)
 clear x0 x1 x2 x3 x4 x5 y0 y1 y2 y3 y4 y5 z0 z1 z2 z3 z4 z5 HBd
 have HK:=Lib.hid (show ∀ u,u3.alloc (.cells #[.int .i64 k4,.string nb4,.string mb4,.int .u64 b4,.int .i64 v4,.slice A5 L4 c5] 25)=u→∀ LA GA,g4w.heap.size=LA→u3.heap.size=GA→∀ z,Below u.heap.size u z→Below u0.heap.size u0 z∧TBox z GA (Tm.mk k4 n4 m4 b4 v4 ts4) (.slice A5 L4 c5)∧TOwn z (Tm.mk k4 n4 m4 b4 v4 ts4) (.slice A5 L4 c5) LA GA∧WrongOk z ev4 N ia (Tm.mk k9 n9 m9 b9 v9 ts9)∧RowP z (fun b=>b<LA) (some ⟨GW0,0,none⟩) 3 [((Tm.mk k1 n1 m1 b1 v1 ts1),Value.slice A1w L1 c1w),((Tm.mk k2 n2 m2 b2 v2 ts2),Value.slice A2w L2 c2w),((Tm.mk k3 n3 m3 b3 v3 ts3),Value.slice A3w L3 c3w)]∧GW0<LA∧u0.heap.size≤LA∧LA≤GA∧GA<z.heap.size from fun u e LA GA e1 e2 z hz=>by
  have hb:Below u3.heap.size u3 u:=by rw [←e];exact (Below.refl _ _).alloc (Nat.le_refl _) _
  have hx:TBox u u3.heap.size (Tm.mk k4 n4 m4 b4 v4 ts4) (.slice A5 L4 c5):=by rw [←e];exact TBox.new u3 HL4.out.1 HL4.out.2.1
  have h3:Below u3.heap.size u3 z:=hb.trans (hz.mono hb.size)
  have h2:Below g4w.heap.size g4w z:=HV.out.2.2.trans (h3.mono HV.out.2.2.size)
  have hsz:u3.heap.size<z.heap.size:=Nat.lt_of_lt_of_le hx.lt hz.size
  subst e1 e2
  exact ⟨KM.out.trans (h2.mono KM.out.size),hx.below hz,TOwn.keep _ HV.out.1 (fun b _ h=>h3.block b h),HV.out.2.1.below h3,HWs.out.1.below h2 (fun b hb=>hb),HWs.out.2.2,KM.out.size,HV.out.2.2.size,hsz⟩)
 generalize u3.alloc (.cells #[.int .i64 k4,.string nb4,.string mb4,.int .u64 b4,.int .i64 v4,.slice A5 L4 c5] 25)=u4 at *
 replace HK:=Lib.hid (HK.out _ rfl)
 generalize hGA:u3.heap.size=GA
 generalize hLA:g4w.heap.size=LA at *
 replace HK:=Lib.hid (HK.out _ _ rfl hGA)
 clear hGA HV HWs KM hLA
 have KM:=Lib.hid (HK.out _ (Below.refl _ _)).1
 have K4:=Lib.hid (Below.refl u4.heap.size u4)
 obtain ⟨x0,x1,x2,x3,x4,x5⟩:=(HXt.out _ (KM.out)).1.cells HM1.out.1 HM1.out.2.1
 obtain ⟨y0,y1,y2,y3,y4,y5⟩:=(HXt.out _ (KM.out)).2.1.cells HM2.out.1 HM2.out.2.1
 obtain ⟨z0,z1,z2,z3,z4,z5⟩:=(HXt.out _ (KM.out)).2.2.1.cells HM3.out.1 HM3.out.2.1
 go_wp2_with fail
 (with_reducible refine (rChecks_any (c:=3) (HR3.out _ KM.out).1 (fun b hb=>hb) (by unfold maxArgs;omega) (by omega) (mem3 HFi.out.1 HFi.out.2.1 HFi.out.2.2)).mono ?_)
 rintro e u5 ⟨rfl,hb⟩
 rw [show checksP (List.map (·.1) [((Tm.mk k1 n1 m1 b1 v1 ts1),Value.slice A1 L1 c1),((Tm.mk k2 n2 m2 b2 v2 ts2),Value.slice A2 L2 c2),((Tm.mk k3 n3 m3 b3 v3 ts3),Value.slice A3 L3 c3)])=cc from HC.out.1]
 replace K4:=Lib.hid ((HR3.out _ KM.out).2.trans (hb.mono (HR3.out _ KM.out).2.size))
 clear x0 x1 x2 x3 x4 x5 y0 y1 y2 y3 y4 y5 z0 z1 z2 z3 z4 z5 hb
 have HFn:=Lib.hid (show cc≠0∨(cc=0∧nx<0)∨(cc=0∧0≤nx∧4611686018427387904<nx)∨(cc=0∧0≤nx∧nx≤4611686018427387904) from by omega)
 obtain h0 | ⟨h0,hr⟩ | ⟨h0,hr,hr2⟩ | ⟨h0,hr,hr2⟩:=HFn.out
 focus
  have h0b:(cc==0)=false:=by simpa using h0
  obtain rfl:N=cc:=HC.out.2.1.symm.trans (if_pos h0)
  have HE0:=Lib.hid (show (⟨zeroT,0,false,zeroT⟩:Ans)=⟨(Tm.mk k4 n4 m4 b4 v4 ts4),na,ia,(Tm.mk k9 n9 m9 b9 v9 ts9)⟩ from ((if_pos h0).symm.trans HC.out.2.2))
  obtain rfl:na=0:=by
   have h9:=HE0.out
   injection h9 with a1 a2 a3 a4
   exact a2.symm
  obtain rfl:ia=false:=by
   have h9:=HE0.out
   injection h9 with a1 a2 a3 a4
   exact a3.symm
  have HWB:=Lib.hid (show ∀ z,((u5.alloc (.cells #[.int .i64 0,.string ⟨#[]⟩,.string ⟨#[]⟩,.int .u64 0,.int .i64 0,.slice none 0 0] 25)).alloc (.cells #[.bool false,.int .i64 0,.string ⟨#[]⟩,.string ⟨#[]⟩,.int .u64 0,.int .i64 0,.slice none 0 0] 35))=z→∀ GW GB,u5.heap.size=GW→u5.heap.size+1=GB→TBox z GW (Tm.mk k4 n4 m4 b4 v4 ts4) (.slice none 0 0)∧BBox z GB false (Tm.mk k9 n9 m9 b9 v9 ts9) (.slice none 0 0)∧TAt z z.heap.size (Tm.mk k4 n4 m4 b4 v4 ts4) (.slice none 0 0)∧TAt z z.heap.size (Tm.mk k9 n9 m9 b9 v9 ts9) (.slice none 0 0)∧Below u4.heap.size u4 z from fun z e GW GB e1 e2=>by
   have h9:=HE0.out
   injection h9 with a1 a2 a3 a4
   rw [←a1,←a4,←e,←e1,←e2]
   have hb1:Below u5.heap.size u5 (u5.alloc (.cells #[.int .i64 0,.string ⟨#[]⟩,.string ⟨#[]⟩,.int .u64 0,.int .i64 0,.slice none 0 0] 25)):=(Below.refl _ _).alloc (Nat.le_refl _) _
   have hs1:(u5.alloc (.cells #[.int .i64 0,.string ⟨#[]⟩,.string ⟨#[]⟩,.int .u64 0,.int .i64 0,.slice none 0 0] 25)).heap.size=u5.heap.size+1:=by simp
   have hb2:Below (u5.alloc (.cells #[.int .i64 0,.string ⟨#[]⟩,.string ⟨#[]⟩,.int .u64 0,.int .i64 0,.slice none 0 0] 25)).heap.size (u5.alloc (.cells #[.int .i64 0,.string ⟨#[]⟩,.string ⟨#[]⟩,.int .u64 0,.int .i64 0,.slice none 0 0] 25)) ((u5.alloc (.cells #[.int .i64 0,.string ⟨#[]⟩,.string ⟨#[]⟩,.int .u64 0,.int .i64 0,.slice none 0 0] 25)).alloc (.cells #[.bool false,.int .i64 0,.string ⟨#[]⟩,.string ⟨#[]⟩,.int .u64 0,.int .i64 0,.slice none 0 0] 35)):=(Below.refl _ _).alloc (Nat.le_refl _) _
   have hY:BBox ((u5.alloc (.cells #[.int .i64 0,.string ⟨#[]⟩,.string ⟨#[]⟩,.int .u64 0,.int .i64 0,.slice none 0 0] 25)).alloc (.cells #[.bool false,.int .i64 0,.string ⟨#[]⟩,.string ⟨#[]⟩,.int .u64 0,.int .i64 0,.slice none 0 0] 35)) (u5.alloc (.cells #[.int .i64 0,.string ⟨#[]⟩,.string ⟨#[]⟩,.int .u64 0,.int .i64 0,.slice none 0 0] 25)).heap.size false zeroT (.slice none 0 0):=heap_alloc_new (u5.alloc (.cells #[.int .i64 0,.string ⟨#[]⟩,.string ⟨#[]⟩,.int .u64 0,.int .i64 0,.slice none 0 0] 25)) _
   rw [hs1] at hY
   exact ⟨(show TBox (u5.alloc (.cells #[.int .i64 0,.string ⟨#[]⟩,.string ⟨#[]⟩,.int .u64 0,.int .i64 0,.slice none 0 0] 25)) u5.heap.size zeroT (.slice none 0 0) from heap_alloc_new u5 _).below hb2,hY,zero_at _ _,zero_at _ _,K4.out.trans ((hb1.trans (hb2.mono hb1.size)).mono K4.out.size)⟩)
  go_upto_region 12 with fail
  generalize ((u5.alloc (.cells #[.int .i64 0,.string ⟨#[]⟩,.string ⟨#[]⟩,.int .u64 0,.int .i64 0,.slice none 0 0] 25)).alloc (.cells #[.bool false,.int .i64 0,.string ⟨#[]⟩,.string ⟨#[]⟩,.int .u64 0,.int .i64 0,.slice none 0 0] 35))=u9 at *
  replace HWB:=Lib.hid (HWB.out _ rfl)
  generalize hGB:u5.heap.size+1=GB
  generalize hGW:u5.heap.size=GW
  replace HWB:=Lib.hid (HWB.out _ _ hGW hGB)
  clear hGB hGW HE0 HMk h0 h0b
 rotate_left
 focus
  subst h0
  obtain rfl:N=1:=HC.out.2.1.symm.trans ((if_neg (by simp)).trans (if_pos (Or.inl hr)))
  have HE0:=Lib.hid (show (⟨zeroT,0,false,zeroT⟩:Ans)=⟨(Tm.mk k4 n4 m4 b4 v4 ts4),na,ia,(Tm.mk k9 n9 m9 b9 v9 ts9)⟩ from ((if_pos (by decide)).symm.trans HC.out.2.2))
  obtain rfl:na=0:=by
   have h9:=HE0.out
   injection h9 with a1 a2 a3 a4
   exact a2.symm
  obtain rfl:ia=false:=by
   have h9:=HE0.out
   injection h9 with a1 a2 a3 a4
   exact a3.symm
  have HWB:=Lib.hid (show ∀ z,((u5.alloc (.cells #[.int .i64 0,.string ⟨#[]⟩,.string ⟨#[]⟩,.int .u64 0,.int .i64 0,.slice none 0 0] 25)).alloc (.cells #[.bool false,.int .i64 0,.string ⟨#[]⟩,.string ⟨#[]⟩,.int .u64 0,.int .i64 0,.slice none 0 0] 35))=z→∀ GW GB,u5.heap.size=GW→u5.heap.size+1=GB→TBox z GW (Tm.mk k4 n4 m4 b4 v4 ts4) (.slice none 0 0)∧BBox z GB false (Tm.mk k9 n9 m9 b9 v9 ts9) (.slice none 0 0)∧TAt z z.heap.size (Tm.mk k4 n4 m4 b4 v4 ts4) (.slice none 0 0)∧TAt z z.heap.size (Tm.mk k9 n9 m9 b9 v9 ts9) (.slice none 0 0)∧Below u4.heap.size u4 z from fun z e GW GB e1 e2=>by
   have h9:=HE0.out
   injection h9 with a1 a2 a3 a4
   rw [←a1,←a4,←e,←e1,←e2]
   have hb1:Below u5.heap.size u5 (u5.alloc (.cells #[.int .i64 0,.string ⟨#[]⟩,.string ⟨#[]⟩,.int .u64 0,.int .i64 0,.slice none 0 0] 25)):=(Below.refl _ _).alloc (Nat.le_refl _) _
   have hs1:(u5.alloc (.cells #[.int .i64 0,.string ⟨#[]⟩,.string ⟨#[]⟩,.int .u64 0,.int .i64 0,.slice none 0 0] 25)).heap.size=u5.heap.size+1:=by simp
   have hb2:Below (u5.alloc (.cells #[.int .i64 0,.string ⟨#[]⟩,.string ⟨#[]⟩,.int .u64 0,.int .i64 0,.slice none 0 0] 25)).heap.size (u5.alloc (.cells #[.int .i64 0,.string ⟨#[]⟩,.string ⟨#[]⟩,.int .u64 0,.int .i64 0,.slice none 0 0] 25)) ((u5.alloc (.cells #[.int .i64 0,.string ⟨#[]⟩,.string ⟨#[]⟩,.int .u64 0,.int .i64 0,.slice none 0 0] 25)).alloc (.cells #[.bool false,.int .i64 0,.string ⟨#[]⟩,.string ⟨#[]⟩,.int .u64 0,.int .i64 0,.slice none 0 0] 35)):=(Below.refl _ _).alloc (Nat.le_refl _) _
   have hY:BBox ((u5.alloc (.cells #[.int .i64 0,.string ⟨#[]⟩,.string ⟨#[]⟩,.int .u64 0,.int .i64 0,.slice none 0 0] 25)).alloc (.cells #[.bool false,.int .i64 0,.string ⟨#[]⟩,.string ⟨#[]⟩,.int .u64 0,.int .i64 0,.slice none 0 0] 35)) (u5.alloc (.cells #[.int .i64 0,.string ⟨#[]⟩,.string ⟨#[]⟩,.int .u64 0,.int .i64 0,.slice none 0 0] 25)).heap.size false zeroT (.slice none 0 0):=heap_alloc_new (u5.alloc (.cells #[.int .i64 0,.string ⟨#[]⟩,.string ⟨#[]⟩,.int .u64 0,.int .i64 0,.slice none 0 0] 25)) _
   rw [hs1] at hY
   exact ⟨(show TBox (u5.alloc (.cells #[.int .i64 0,.string ⟨#[]⟩,.string ⟨#[]⟩,.int .u64 0,.int .i64 0,.slice none 0 0] 25)) u5.heap.size zeroT (.slice none 0 0) from heap_alloc_new u5 _).below hb2,hY,zero_at _ _,zero_at _ _,K4.out.trans ((hb1.trans (hb2.mono hb1.size)).mono K4.out.size)⟩)
  go_upto_region 12 with fail
  generalize ((u5.alloc (.cells #[.int .i64 0,.string ⟨#[]⟩,.string ⟨#[]⟩,.int .u64 0,.int .i64 0,.slice none 0 0] 25)).alloc (.cells #[.bool false,.int .i64 0,.string ⟨#[]⟩,.string ⟨#[]⟩,.int .u64 0,.int .i64 0,.slice none 0 0] 35))=u9 at *
  replace HWB:=Lib.hid (HWB.out _ rfl)
  generalize hGB:u5.heap.size+1=GB
  generalize hGW:u5.heap.size=GW
  replace HWB:=Lib.hid (HWB.out _ _ hGW hGB)
  clear hGB hGW HE0 HMk hr
 rotate_left
 focus
  subst h0
  have hrb:(decide (nx<0))=false:=decide_eq_false (by omega)
  obtain rfl:N=1:=HC.out.2.1.symm.trans ((if_neg (by simp)).trans (if_pos (Or.inr hr2)))
  have HE0:=Lib.hid (show (⟨zeroT,0,false,zeroT⟩:Ans)=⟨(Tm.mk k4 n4 m4 b4 v4 ts4),na,ia,(Tm.mk k9 n9 m9 b9 v9 ts9)⟩ from ((if_pos (by decide)).symm.trans HC.out.2.2))
  obtain rfl:na=0:=by
   have h9:=HE0.out
   injection h9 with a1 a2 a3 a4
   exact a2.symm
  obtain rfl:ia=false:=by
   have h9:=HE0.out
   injection h9 with a1 a2 a3 a4
   exact a3.symm
  have HWB:=Lib.hid (show ∀ z,((u5.alloc (.cells #[.int .i64 0,.string ⟨#[]⟩,.string ⟨#[]⟩,.int .u64 0,.int .i64 0,.slice none 0 0] 25)).alloc (.cells #[.bool false,.int .i64 0,.string ⟨#[]⟩,.string ⟨#[]⟩,.int .u64 0,.int .i64 0,.slice none 0 0] 35))=z→∀ GW GB,u5.heap.size=GW→u5.heap.size+1=GB→TBox z GW (Tm.mk k4 n4 m4 b4 v4 ts4) (.slice none 0 0)∧BBox z GB false (Tm.mk k9 n9 m9 b9 v9 ts9) (.slice none 0 0)∧TAt z z.heap.size (Tm.mk k4 n4 m4 b4 v4 ts4) (.slice none 0 0)∧TAt z z.heap.size (Tm.mk k9 n9 m9 b9 v9 ts9) (.slice none 0 0)∧Below u4.heap.size u4 z from fun z e GW GB e1 e2=>by
   have h9:=HE0.out
   injection h9 with a1 a2 a3 a4
   rw [←a1,←a4,←e,←e1,←e2]
   have hb1:Below u5.heap.size u5 (u5.alloc (.cells #[.int .i64 0,.string ⟨#[]⟩,.string ⟨#[]⟩,.int .u64 0,.int .i64 0,.slice none 0 0] 25)):=(Below.refl _ _).alloc (Nat.le_refl _) _
   have hs1:(u5.alloc (.cells #[.int .i64 0,.string ⟨#[]⟩,.string ⟨#[]⟩,.int .u64 0,.int .i64 0,.slice none 0 0] 25)).heap.size=u5.heap.size+1:=by simp
   have hb2:Below (u5.alloc (.cells #[.int .i64 0,.string ⟨#[]⟩,.string ⟨#[]⟩,.int .u64 0,.int .i64 0,.slice none 0 0] 25)).heap.size (u5.alloc (.cells #[.int .i64 0,.string ⟨#[]⟩,.string ⟨#[]⟩,.int .u64 0,.int .i64 0,.slice none 0 0] 25)) ((u5.alloc (.cells #[.int .i64 0,.string ⟨#[]⟩,.string ⟨#[]⟩,.int .u64 0,.int .i64 0,.slice none 0 0] 25)).alloc (.cells #[.bool false,.int .i64 0,.string ⟨#[]⟩,.string ⟨#[]⟩,.int .u64 0,.int .i64 0,.slice none 0 0] 35)):=(Below.refl _ _).alloc (Nat.le_refl _) _
   have hY:BBox ((u5.alloc (.cells #[.int .i64 0,.string ⟨#[]⟩,.string ⟨#[]⟩,.int .u64 0,.int .i64 0,.slice none 0 0] 25)).alloc (.cells #[.bool false,.int .i64 0,.string ⟨#[]⟩,.string ⟨#[]⟩,.int .u64 0,.int .i64 0,.slice none 0 0] 35)) (u5.alloc (.cells #[.int .i64 0,.string ⟨#[]⟩,.string ⟨#[]⟩,.int .u64 0,.int .i64 0,.slice none 0 0] 25)).heap.size false zeroT (.slice none 0 0):=heap_alloc_new (u5.alloc (.cells #[.int .i64 0,.string ⟨#[]⟩,.string ⟨#[]⟩,.int .u64 0,.int .i64 0,.slice none 0 0] 25)) _
   rw [hs1] at hY
   exact ⟨(show TBox (u5.alloc (.cells #[.int .i64 0,.string ⟨#[]⟩,.string ⟨#[]⟩,.int .u64 0,.int .i64 0,.slice none 0 0] 25)) u5.heap.size zeroT (.slice none 0 0) from heap_alloc_new u5 _).below hb2,hY,zero_at _ _,zero_at _ _,K4.out.trans ((hb1.trans (hb2.mono hb1.size)).mono K4.out.size)⟩)
  go_upto_region 12 with fail
  generalize ((u5.alloc (.cells #[.int .i64 0,.string ⟨#[]⟩,.string ⟨#[]⟩,.int .u64 0,.int .i64 0,.slice none 0 0] 25)).alloc (.cells #[.bool false,.int .i64 0,.string ⟨#[]⟩,.string ⟨#[]⟩,.int .u64 0,.int .i64 0,.slice none 0 0] 35))=u9 at *
  replace HWB:=Lib.hid (HWB.out _ rfl)
  generalize hGB:u5.heap.size+1=GB
  generalize hGW:u5.heap.size=GW
  replace HWB:=Lib.hid (HWB.out _ _ hGW hGB)
  clear hGB hGW HE0 HMk hr hrb hr2
 rotate_left
 focus
  subst h0
  have hrb:(decide (nx<0))=false:=decide_eq_false (by omega)
  have hrc:(decide (4611686018427387904<nx))=false:=decide_eq_false (by omega)
  obtain rfl:N=0:=HC.out.2.1.symm.trans ((if_neg (by simp)).trans (if_neg (by omega)))
  have HRB:=Lib.hid (show ∀ z,Below u0.heap.size u0 z→Calls Tryd.prog 18 #[.agg #[.int .i64 k1,.string nb1,.string mb1,.int .u64 b1,.int .i64 v1,.slice A1 L1 c1],.agg #[.int .i64 k2,.string nb2,.string mb2,.int .u64 b2,.int .i64 v2,.slice A2 L2 c2],.agg #[.int .i64 k3,.string nb3,.string mb3,.int .u64 b3,.int .i64 v3,.slice A3 L3 c3],.int .i64 nx] z (fun e w'=>∃ A c A2 c2,e = .returned (.tuple #[.agg #[.int .i64 k4,.string nb4,.string mb4,.int .u64 b4,.int .i64 v4,.slice A L4 c],.int .i64 na,.agg #[.bool ia,.int .i64 k9,.string nb9,.string mb9,.int .u64 b9,.int .i64 v9,.slice A2 L9 c2]])∧TAtP w' (Grow (fun b=>b<w.heap.size) z w') (Tm.mk k4 n4 m4 b4 v4 ts4) (.slice A L4 c)∧TAtP w' (Grow (fun b=>b<w.heap.size) z w') (Tm.mk k9 n9 m9 b9 v9 ts9) (.slice A2 L9 c2)∧Below z.heap.size z w') from fun z hz=>by
   obtain ⟨t1,t2,t3⟩:=HXb.out z hz
   have h:=rBody_any (P:=fun b=>b<w.heap.size) HMk.out t1 t2 t3 (fun b hb=>Nat.lt_of_lt_of_le hb (HXt.out z hz).2.2.2.2.2.2.2.size) hr (by have:=(check_iff.1 (checks3.1 HC.out.1).1).1;omega) (checks3.1 HC.out.1).1
   rw [show bodyA2 (ansM (Tm.mk k1 n1 m1 b1 v1 ts1) (Tm.mk k2 n2 m2 b2 v2 ts2) (Tm.mk k3 n3 m3 b3 v3 ts3) nx)=⟨(Tm.mk k4 n4 m4 b4 v4 ts4),na,ia,(Tm.mk k9 n9 m9 b9 v9 ts9)⟩ from (if_neg (by simp)).symm.trans HC.out.2.2,valT_mk HM1.out.1 HM1.out.2.1,valT_mk HM2.out.1 HM2.out.2.1,valT_mk HM3.out.1 HM3.out.2.1] at h
   exact h.mono (fun e w' h=>AnsP.letters HL4.out.1 HL4.out.2.1 HL4.out.2.2 HL9.out.1 HL9.out.2.1 HL9.out.2.2 h))
  go_upto_region 11 with fail
  have HZ:=Lib.hid (show ∀ z,((u5.alloc (.cells #[.int .i64 0,.string ⟨#[]⟩,.string ⟨#[]⟩,.int .u64 0,.int .i64 0,.slice none 0 0] 25)).alloc (.cells #[.bool false,.int .i64 0,.string ⟨#[]⟩,.string ⟨#[]⟩,.int .u64 0,.int .i64 0,.slice none 0 0] 35))=z→∀ GW GB,u5.heap.size=GW→u5.heap.size+1=GB→TBox z GW zeroT (.slice none 0 0)∧BBox z GB false zeroT (.slice none 0 0)∧Below u4.heap.size u4 z∧u4.heap.size≤GW∧GB=GW+1 from fun z e GW GB e1 e2=>by
   rw [←e,←e1,←e2]
   have hb1:Below u5.heap.size u5 (u5.alloc (.cells #[.int .i64 0,.string ⟨#[]⟩,.string ⟨#[]⟩,.int .u64 0,.int .i64 0,.slice none 0 0] 25)):=(Below.refl _ _).alloc (Nat.le_refl _) _
   have hs1:(u5.alloc (.cells #[.int .i64 0,.string ⟨#[]⟩,.string ⟨#[]⟩,.int .u64 0,.int .i64 0,.slice none 0 0] 25)).heap.size=u5.heap.size+1:=by simp
   have hb2:Below (u5.alloc (.cells #[.int .i64 0,.string ⟨#[]⟩,.string ⟨#[]⟩,.int .u64 0,.int .i64 0,.slice none 0 0] 25)).heap.size (u5.alloc (.cells #[.int .i64 0,.string ⟨#[]⟩,.string ⟨#[]⟩,.int .u64 0,.int .i64 0,.slice none 0 0] 25)) ((u5.alloc (.cells #[.int .i64 0,.string ⟨#[]⟩,.string ⟨#[]⟩,.int .u64 0,.int .i64 0,.slice none 0 0] 25)).alloc (.cells #[.bool false,.int .i64 0,.string ⟨#[]⟩,.string ⟨#[]⟩,.int .u64 0,.int .i64 0,.slice none 0 0] 35)):=(Below.refl _ _).alloc (Nat.le_refl _) _
   have hY:BBox ((u5.alloc (.cells #[.int .i64 0,.string ⟨#[]⟩,.string ⟨#[]⟩,.int .u64 0,.int .i64 0,.slice none 0 0] 25)).alloc (.cells #[.bool false,.int .i64 0,.string ⟨#[]⟩,.string ⟨#[]⟩,.int .u64 0,.int .i64 0,.slice none 0 0] 35)) (u5.alloc (.cells #[.int .i64 0,.string ⟨#[]⟩,.string ⟨#[]⟩,.int .u64 0,.int .i64 0,.slice none 0 0] 25)).heap.size false zeroT (.slice none 0 0):=heap_alloc_new (u5.alloc (.cells #[.int .i64 0,.string ⟨#[]⟩,.string ⟨#[]⟩,.int .u64 0,.int .i64 0,.slice none 0 0] 25)) _
   rw [hs1] at hY
   exact ⟨(show TBox (u5.alloc (.cells #[.int .i64 0,.string ⟨#[]⟩,.string ⟨#[]⟩,.int .u64 0,.int .i64 0,.slice none 0 0] 25)) u5.heap.size zeroT (.slice none 0 0) from heap_alloc_new u5 _).below hb2,hY,K4.out.trans ((hb1.trans (hb2.mono hb1.size)).mono K4.out.size),K4.out.size,rfl⟩)
  generalize ((u5.alloc (.cells #[.int .i64 0,.string ⟨#[]⟩,.string ⟨#[]⟩,.int .u64 0,.int .i64 0,.slice none 0 0] 25)).alloc (.cells #[.bool false,.int .i64 0,.string ⟨#[]⟩,.string ⟨#[]⟩,.int .u64 0,.int .i64 0,.slice none 0 0] 35))=u6 at *
  replace HZ:=Lib.hid (HZ.out _ rfl)
  generalize hGB:u5.heap.size+1=GB
  generalize hGW:u5.heap.size=GW
  replace HZ:=Lib.hid (HZ.out _ _ hGW hGB)
  clear hGB hGW HMk
  have KM6:=Lib.hid (HK.out _ HZ.out.2.2.1).1
  obtain ⟨x0,x1,x2,x3,x4,x5⟩:=(HXt.out _ (KM6.out)).1.cells HM1.out.1 HM1.out.2.1
  obtain ⟨y0,y1,y2,y3,y4,y5⟩:=(HXt.out _ (KM6.out)).2.1.cells HM2.out.1 HM2.out.2.1
  obtain ⟨z0,z1,z2,z3,z4,z5⟩:=(HXt.out _ (KM6.out)).2.2.1.cells HM3.out.1 HM3.out.2.1
  go_upto_region 12 with (go_at_call 18;(with_reducible refine (HRB.out _ KM6.out).mono ?_);rintro e u7 ⟨A8,c8,A9,c9,rfl,ht1,ht2,hb⟩;have HV2:=Lib.hid (And.intro ht1 (And.intro ht2 hb));clear ht1 ht2 x0 x1 x2 x3 x4 x5 y0 y1 y2 y3 y4 y5 z0 z1 z2 z3 z4 z5;have HQ1:=Lib.hid (HZ.out.1.below hb);have HQ2:=Lib.hid (HZ.out.2.1.below hb);clear hb;obtain ⟨a0,a1,a2,a3,a4,a5⟩:=HQ1.out.cells rfl rfl;obtain ⟨f0,f1,f2,f3,f4,f5⟩:=HQ1.out.frozens;have HS1:=Lib.hid (HQ1.out.set6 (k:=k4) (b:=b4) (v:=v4) (n:=n4) (m:=m4) ts4 (.slice A8 L4 c8) (nb:=nb4) (mb:=mb4) HL4.out.1 HL4.out.2.1);have HQ3:=Lib.hid (HQ2.out.gro HS1.out.2 (by have:=HZ.out.2.2.2.2;omega));obtain ⟨g0,g1,g2,g3,g4,g5,g6⟩:=HQ3.out.cells rfl rfl;obtain ⟨e0,e1,e2,e3,e4,e5,e6⟩:=HQ3.out.frozens)
  clear a0 a1 a2 a3 a4 a5 f0 f1 f2 f3 f4 f5 g0 g1 g2 g3 g4 g5 g6 e0 e1 e2 e3 e4 e5 e6 HRB hr hr2 hrb hrc
  generalize ((((((u7.setCell ⟨GW,0,none⟩ (.int .i64 k4)).setCell ⟨GW,1,none⟩ (.string nb4)).setCell ⟨GW,2,none⟩ (.string mb4)).setCell ⟨GW,3,none⟩ (.int .u64 b4)).setCell ⟨GW,4,none⟩ (.int .i64 v4)).setCell ⟨GW,5,none⟩ (.slice A8 L4 c8))=z1 at *
  have HS2:=Lib.hid (HQ3.out.set7 ia (k:=k9) (b:=b9) (v:=v9) (n:=n9) (m:=m9) ts9 (.slice A9 L9 c9) (nb:=nb9) (mb:=mb9) HL9.out.1 HL9.out.2.1)
  generalize (((((((z1.setCell ⟨GB,0,none⟩ (.bool ia)).setCell ⟨GB,1,none⟩ (.int .i64 k9)).setCell ⟨GB,2,none⟩ (.string nb9)).setCell ⟨GB,3,none⟩ (.string mb9)).setCell ⟨GB,4,none⟩ (.int .u64 b9)).setCell ⟨GB,5,none⟩ (.int .i64 v9)).setCell ⟨GB,6,none⟩ (.slice A9 L9 c9))=u9 at *
  have HWB:=Lib.hid (show TBox u9 GW (Tm.mk k4 n4 m4 b4 v4 ts4) (.slice A8 L4 c8)∧BBox u9 GB ia (Tm.mk k9 n9 m9 b9 v9 ts9) (.slice A9 L9 c9)∧TAt u9 u9.heap.size (Tm.mk k4 n4 m4 b4 v4 ts4) (.slice A8 L4 c8)∧TAt u9 u9.heap.size (Tm.mk k9 n9 m9 b9 v9 ts9) (.slice A9 L9 c9)∧Below u4.heap.size u4 u9 from by
   have h3:=HV2.out.2.2
   have h4:=HS1.out.2
   have h5:=HS2.out.2
   have e3:=h3.size
   have e4:=h4.size
   have e5:=h5.size
   have hz:=HZ.out.2.2.1
   have e6:=HZ.out.2.2.2
   have e7:=hz.size
   have e8:=HZ.out.2.1.lt
   have e9:=(HXt.out _ (HK.out _ (Below.refl u4.heap.size u4)).1).2.2.2.2.2.2.2.size
   have b7:=hz.trans (h3.mono e7)
   have b8:=b7.grown h4 b7.size (fun j e=>by injection e with e;omega)
   have kp:∀ (t:Tm) (s:Value),TAtP u7 (Grow (fun b=>b<w.heap.size) u6 u7) t s→TAt u9 u9.heap.size t s:=fun t s h=>TAtP.keep _ h fun b hb=>by
    have hlt:b<u7.heap.size∧b≠GW∧b≠GB:=by rcases hb with h | h <;> omega
    refine ⟨by omega,?_⟩
    rw [h5.block b (by omega) (fun e=>by injection e with e;omega),h4.block b hlt.1 (fun e=>by injection e with e;omega)]
   exact ⟨HS1.out.1.gro h5 (by omega),HS2.out.1,kp _ _ HV2.out.1,kp _ _ HV2.out.2.1,b8.grown h5 b8.size (fun j e=>by injection e with e;omega)⟩)
  clear HV2 HQ1 HQ2 HQ3 HS1 HS2 HZ KM6
 rotate_left
 all_goals (
  have KM:=Lib.hid (HK.out _ HWB.out.2.2.2.2)
  obtain ⟨x0,x1,x2,x3,x4,x5⟩:=KM.out.2.1.cells HL4.out.1 HL4.out.2.1
  obtain ⟨y0,y1,y2,y3,y4,y5⟩:=HWB.out.1.cells HL4.out.1 HL4.out.2.1
  have hS:=Same_any (Tm.mk k4 n4 m4 b4 v4 ts4) u9 _ _ ((TOwn.atP _ KM.out.2.2.1).wide (fun b hb=>Nat.lt_trans hb.2 KM.out.2.2.2.2.2.2.2.2)) HWB.out.2.2.1
  rw [valT_mk (sl:=.slice A5 L4 c5) HL4.out.1 HL4.out.2.1,valT_mk HL4.out.1 HL4.out.2.1] at hS
  have HS:=Lib.hid hS
  clear hS
  go_wp2_with fail
  (with_reducible refine HS.out.mono ?_)
  rintro e u10 ⟨rfl,hb⟩
  have KB:=Lib.hid hb
  have KM10:=Lib.hid (HK.out _ (HWB.out.2.2.2.2.trans (hb.mono HWB.out.2.2.2.2.size)))
  clear hb HS x0 x1 x2 x3 x4 x5 y0 y1 y2 y3 y4 y5 KM
  obtain ⟨q0,q1,q2,q3,q4,q5,q6⟩:=(HWB.out.2.1.below KB.out).cells HL9.out.1 HL9.out.2.1
  go_wp2_with fail
  (with_reducible refine (wrong_any HL9.out.1 HL9.out.2.1 KM10.out.2.2.2.1 (HWB.out.2.2.2.1.to KB.out KB.out.size)).mono ?_)
  rintro e u11 ⟨rfl,hb⟩
  replace KB:=Lib.hid (KB.out.trans (hb.mono KB.out.size))
  have KM11:=Lib.hid (HK.out _ (HWB.out.2.2.2.2.trans (KB.out.mono HWB.out.2.2.2.2.size)))
  clear hb q0 q1 q2 q3 q4 q5 q6 KM10
  obtain ⟨x0,x1,x2,x3,x4,x5⟩:=KM11.out.2.1.cells HL4.out.1 HL4.out.2.1
  have hS:=spoil_any (Tm.mk k4 n4 m4 b4 v4 ts4) u11 _ LA GA KM11.out.2.2.1 (Nat.le_of_lt KM11.out.2.2.2.2.2.2.2.2)
  rw [valT_mk HL4.out.1 HL4.out.2.1] at hS
  have HS:=Lib.hid hS
  clear hS
  go_wp2_with fail
  (with_reducible refine HS.out.mono ?_)
  rintro e u12 ⟨rfl,hwr⟩
  have hbL:=hwr.below (Nat.le_of_lt (Nat.lt_of_le_of_lt KM11.out.2.2.2.2.2.2.2.1 KM11.out.2.2.2.2.2.2.2.2))
  have KM12:=Lib.hid (And.intro (KM11.out.1.trans (hbL.mono KM11.out.2.2.2.2.2.2.1)) (And.intro (KM11.out.2.2.2.2.1.upto hbL (fun b hb=>hb) KM11.out.2.2.2.2.2.1) (show LA≤u12.heap.size from by have h1:=hbL.size;have h2:=KM11.out.2.2.2.2.2.2.2;omega)))
  clear hbL hwr HS x0 x1 x2 x3 x4 x5 KM11
  obtain ⟨x0,x1,x2,x3,x4,x5⟩:=(HXt.out _ (KM12.out.1)).1.cells HM1.out.1 HM1.out.2.1
  obtain ⟨y0,y1,y2,y3,y4,y5⟩:=(HXt.out _ (KM12.out.1)).2.1.cells HM2.out.1 HM2.out.2.1
  obtain ⟨z0,z1,z2,z3,z4,z5⟩:=(HXt.out _ (KM12.out.1)).2.2.1.cells HM3.out.1 HM3.out.2.1
  go_wp2_with fail
  (with_reducible refine (sameList_any (c:=3) (c2:=3) (HR3.out _ KM12.out.1).1 (fun b hb=>hb) (KM12.out.2.1.below (HR3.out _ KM12.out.1).2 (fun b hb=>Nat.lt_of_lt_of_le hb KM12.out.2.2)) (fun b hb=>Nat.lt_of_lt_of_le hb (Nat.le_trans KM12.out.2.2 (HR3.out _ KM12.out.1).2.size)) (by unfold maxArgs;omega) (by omega) (by omega) rfl).mono ?_)
  rintro e u13 ⟨rfl,hb⟩
  have h3:=(HR3.out _ KM12.out.1).2
  have K13:=Lib.hid (HXt.out _ (KM12.out.1.trans ((h3.trans (hb.mono h3.size)).mono KM12.out.1.size))).2.2.2.2.2.2.2
  clear h3 hb x0 x1 x2 x3 x4 x5 y0 y1 y2 y3 y4 y5 z0 z1 z2 z3 z4 z5
  go_wp2
  go_ret
  exact ⟨rfl,K13.out⟩)
set_option maxRecDepth 100000 in
set_option maxHeartbeats 16000000 in
theorem rtwo_any {w:World} {P:Nat→Prop} {s:List UInt8} {sb:ByteArray} (hs:(⟨s.toArray⟩:ByteArray)=sb) (hsl:s.length≤maxLen) {v1 b1:Int} {n1 m1:List UInt8} {nb1 mb1:ByteArray} {A1:Option Addr} {c1:Nat} {x y:Tm} {k2 v2 b2:Int} {n2 m2:List UInt8} {ts2:List Tm} {nb2 mb2:ByteArray} {A2:Option Addr} {L2 c2:Nat} {k3 v3 b3:Int} {n3 m3:List UInt8} {ts3:List Tm} {nb3 mb3:ByteArray} {A3:Option Addr} {L3 c3:Nat} (hn1:(⟨n1.toArray⟩:ByteArray)=nb1) (hm1:(⟨m1.toArray⟩:ByteArray)=mb1) (hn2:(⟨n2.toArray⟩:ByteArray)=nb2) (hm2:(⟨m2.toArray⟩:ByteArray)=mb2) (hL2:ts2.length=L2) (hn3:(⟨n3.toArray⟩:ByteArray)=nb3) (hm3:(⟨m3.toArray⟩:ByteArray)=mb3) (hL3:ts3.length=L3)
  (h1:TAtP w P (.mk 5 n1 m1 b1 v1 [x,y]) (.slice A1 2 c1)) (h2:TAtP w P (.mk k2 n2 m2 b2 v2 ts2) (.slice A2 L2 c2)) (h3:TAtP w P (.mk k3 n3 m3 b3 v3 ts3) (.slice A3 L3 c3)) (hP:∀ b,P b→b<w.heap.size) (hx:RMakeOk x) (hy:RMakeOk y) {nx:Int} (h0:0≤nx) (hbd:nx+sz x+sz y≤4611686018427395999) (hcx:checkP x=0) (hcy:checkP y=0) :
  Calls Tryd.prog 68 #[.string sb,.agg #[.int .i64 5,.string nb1,.string mb1,.int .u64 b1,.int .i64 v1,.slice A1 2 c1],.agg #[.int .i64 k2,.string nb2,.string mb2,.int .u64 b2,.int .i64 v2,.slice A2 L2 c2],.agg #[.int .i64 k3,.string nb3,.string mb3,.int .u64 b3,.int .i64 v3,.slice A3 L3 c3],.int .i64 nx] w (AnsP w P (twoA s x y (.mk k2 n2 m2 b2 v2 ts2) (.mk k3 n3 m3 b3 v3 ts3) nx)):=by
 obtain ⟨A0,c0,hst,hc1,hc2,_,_,hgo⟩:=TAtP.iff.1 h1
 obtain ⟨g,o,hA,hPg,hel⟩:=hgo (by simp [Tm.as])
 injection hst with e1 e2 e3
 rw [hA] at e1
 subst e1
 clear e2 e3 hA hgo hc1 hc2 c0
 have hex:=hel 0 x rfl
 obtain ⟨A4,c4,k4,n4,m4,b4,v4,ts4,nb4,mb4,rfl,hnb,hmb,htx,q0,q1,q2,q3,q4,q5⟩:=EltP.cells hex
 obtain ⟨L4,hL⟩:∃ L,ts4.length=L:=⟨_,rfl⟩
 rw [hL] at q5 htx
 rw [Nat.zero_mul,Nat.add_zero] at q0 q1 q2 q3 q4 q5
 have HL4:=Lib.hid (And.intro hnb (And.intro hmb hL))
 have HE4:=Lib.hid (And.intro htx (And.intro q0 (And.intro q1 (And.intro q2 (And.intro q3 (And.intro q4 q5))))))
 clear hnb hmb hL htx q0 q1 q2 q3 q4 q5 hex
 have hex:=hel 1 y rfl
 obtain ⟨A5,c5,k5,n5,m5,b5,v5,ts5,nb5,mb5,rfl,hnb,hmb,htx,q0,q1,q2,q3,q4,q5⟩:=EltP.cells hex
 obtain ⟨L5,hL⟩:∃ L,ts5.length=L:=⟨_,rfl⟩
 rw [hL] at q5 htx
 rw [Nat.one_mul] at q0 q1 q2 q3 q4 q5
 have HL5:=Lib.hid (And.intro hnb (And.intro hmb hL))
 have HE5:=Lib.hid (And.intro htx (And.intro q0 (And.intro q1 (And.intro q2 (And.intro q3 (And.intro q4 q5))))))
 clear hnb hmb hL htx q0 q1 q2 q3 q4 q5 hex
 obtain ⟨W1,hW1⟩:∃ W,w.alloc (.cells #[.int .i64 5,.string nb1,.string mb1,.int .u64 b1,.int .i64 v1,.slice (some ⟨g,o,none⟩) 2 c1] 25)=W:=⟨_,rfl⟩
 have d1:Below w.heap.size w W1:=by rw [←hW1];exact (Below.refl _ _).alloc (Nat.le_refl _) _
 have s1:W1.heap.size=w.heap.size+1:=by rw [←hW1];simp
 have X1:TBox W1 w.heap.size (Tm.mk 5 n1 m1 b1 v1 [(Tm.mk k4 n4 m4 b4 v4 ts4),(Tm.mk k5 n5 m5 b5 v5 ts5)]) (.slice (some ⟨g,o,none⟩) 2 c1):=by rw [←hW1];exact TBox.new w hn1 hm1
 obtain ⟨W2,hW2⟩:∃ W,W1.alloc (.cells #[.int .i64 k2,.string nb2,.string mb2,.int .u64 b2,.int .i64 v2,.slice A2 L2 c2] 25)=W:=⟨_,rfl⟩
 have d2:Below W1.heap.size W1 W2:=by rw [←hW2];exact (Below.refl _ _).alloc (Nat.le_refl _) _
 have s2:W2.heap.size=W1.heap.size+1:=by rw [←hW2];simp
 have X2:TBox W2 W1.heap.size (.mk k2 n2 m2 b2 v2 ts2) (.slice A2 L2 c2):=by rw [←hW2];exact TBox.new W1 hn2 hm2
 obtain ⟨W3,hW3⟩:∃ W,W2.alloc (.cells #[.int .i64 k3,.string nb3,.string mb3,.int .u64 b3,.int .i64 v3,.slice A3 L3 c3] 25)=W:=⟨_,rfl⟩
 have d3:Below W2.heap.size W2 W3:=by rw [←hW3];exact (Below.refl _ _).alloc (Nat.le_refl _) _
 have s3:W3.heap.size=W2.heap.size+1:=by rw [←hW3];simp
 have X3:TBox W3 W2.heap.size (.mk k3 n3 m3 b3 v3 ts3) (.slice A3 L3 c3):=by rw [←hW3];exact TBox.new W2 hn3 hm3
 obtain ⟨W4,hW4⟩:∃ W,W3.alloc (.cells #[.int .i64 0,.string ⟨#[]⟩,.string ⟨#[]⟩,.int .u64 0,.int .i64 0,.slice none 0 0] 25)=W:=⟨_,rfl⟩
 have d4:Below W3.heap.size W3 W4:=by rw [←hW4];exact (Below.refl _ _).alloc (Nat.le_refl _) _
 have s4:W4.heap.size=W3.heap.size+1:=by rw [←hW4];simp
 have X4:TBox W4 W3.heap.size zeroT (.slice none 0 0):=by rw [←hW4];exact heap_alloc_new W3 _
 obtain ⟨W5,hW5⟩:∃ W,W4.alloc (.cells #[.bool false,.int .i64 0,.string ⟨#[]⟩,.string ⟨#[]⟩,.int .u64 0,.int .i64 0,.slice none 0 0] 35)=W:=⟨_,rfl⟩
 have d5:Below W4.heap.size W4 W5:=by rw [←hW5];exact (Below.refl _ _).alloc (Nat.le_refl _) _
 have s5:W5.heap.size=W4.heap.size+1:=by rw [←hW5];simp
 have X5:BBox W5 W4.heap.size false zeroT (.slice none 0 0):=by rw [←hW5];exact heap_alloc_new W4 _
 replace X1:=X1.below d2
 replace X1:=X1.below d3
 replace X1:=X1.below d4
 replace X1:=X1.below d5
 replace X2:=X2.below d3
 replace X2:=X2.below d4
 replace X2:=X2.below d5
 replace X3:=X3.below d4
 replace X3:=X3.below d5
 replace X4:=X4.below d5
 have hb0:Below w.heap.size w W5:=d1.trans ((d2.trans ((d3.trans ((d4.trans ((d5).mono (by omega))).mono (by omega))).mono (by omega))).mono (by omega))
 have hsz0:W5.heap.size=w.heap.size+1+1+1+1+1:=by omega
 rw [s1] at X2
 rw [s2,s1] at X3
 rw [s3,s2,s1] at X4
 rw [s4,s3,s2,s1] at X5
 have HX:=Lib.hid (And.intro X1 (And.intro X2 (And.intro X3 (And.intro X4 (And.intro X5 (And.intro hb0 hsz0))))))
 subst hW1 hW2 hW3 hW4 hW5
 clear X1 d1 s1 X2 d2 s2 X3 d3 s3 X4 d4 s4 X5 d5 s5 hb0 hsz0
 have HM:=Lib.hid (And.intro hn1 (And.intro hm1 (And.intro hn2 (And.intro hm2 (And.intro hn3 hm3)))))
 have HLs:=Lib.hid (And.intro hL2 (And.intro hL3 (And.intro hs hsl)))
 have HT:=Lib.hid (And.intro h1 (And.intro h2 h3))
 have HPP:=Lib.hid hP
 have HPg:=Lib.hid (show g<w.heap.size from hP g hPg)
 have HRx:=Lib.hid (And.intro hx (And.intro hy (And.intro hcx hcy)))
 have hszx:=sz_pos (Tm.mk k4 n4 m4 b4 v4 ts4)
 have hszy:=sz_pos (Tm.mk k5 n5 m5 b5 v5 ts5)
 obtain ⟨R,hR⟩:∃ R,twoA s (Tm.mk k4 n4 m4 b4 v4 ts4) (Tm.mk k5 n5 m5 b5 v5 ts5) (.mk k2 n2 m2 b2 v2 ts2) (.mk k3 n3 m3 b3 v3 ts3) nx=R:=⟨_,rfl⟩
 rw [hR]
 have HR0:=Lib.hid hR
 have HBd:=Lib.hid (And.intro h0 hbd)
 have hnx:nx≤4611686018427395999:=by omega
 clear hR h1 h2 h3 hP hPg hx hy hcx hcy hn1 hm1 hn2 hm2 hn3 hm3 hL2 hL3 hs hsl hel hbd hszx hszy
 go_enter Tryd.func68,Tryd.ntmps68
 go_upto_region 1 with fail
 generalize (((((w.alloc (.cells #[.int .i64 5,.string nb1,.string mb1,.int .u64 b1,.int .i64 v1,.slice (some ⟨g,o,none⟩) 2 c1] 25)).alloc (.cells #[.int .i64 k2,.string nb2,.string mb2,.int .u64 b2,.int .i64 v2,.slice A2 L2 c2] 25)).alloc (.cells #[.int .i64 k3,.string nb3,.string mb3,.int .u64 b3,.int .i64 v3,.slice A3 L3 c3] 25)).alloc (.cells #[.int .i64 0,.string ⟨#[]⟩,.string ⟨#[]⟩,.int .u64 0,.int .i64 0,.slice none 0 0] 25)).alloc (.cells #[.bool false,.int .i64 0,.string ⟨#[]⟩,.string ⟨#[]⟩,.int .u64 0,.int .i64 0,.slice none 0 0] 35))=u0 at *
 go_upto_region 2 with (go_at_call 47;(with_reducible refine (V_any _ _).mono ?_);rintro e u1 ⟨rfl,hb⟩;have HV1:=Lib.hid hb;clear hb)
 have HU:=Lib.hid (show ∀ z,u1.alloc (.cells #[.int .i64 1,.string ⟨#[]⟩,.string ⟨#[]⟩,.int .u64 0,.int .i64 nx,.slice none 0 0] 25)=z→Below u0.heap.size u0 z∧TBox z u1.heap.size (varT nx) (.slice none 0 0)∧u1.heap.size<z.heap.size from fun z e=>by
  rw [←e]
  have hb:Below u1.heap.size u1 (u1.alloc (.cells #[.int .i64 1,.string ⟨#[]⟩,.string ⟨#[]⟩,.int .u64 0,.int .i64 nx,.slice none 0 0] 25)):=(Below.refl _ _).alloc (Nat.le_refl _) _
  exact ⟨HV1.out.trans (hb.mono HV1.out.size),heap_alloc_new u1 _,by simp⟩)
 have HG:=Lib.hid HV1.out.size
 generalize u1.alloc (.cells #[.int .i64 1,.string ⟨#[]⟩,.string ⟨#[]⟩,.int .u64 0,.int .i64 nx,.slice none 0 0] 25)=u2 at *
 generalize u1.heap.size=G at *
 replace HU:=Lib.hid (HU.out _ rfl)
 have HW2:=Lib.hid (And.intro ((HX.out.2.2.2.2.2.1).trans (HU.out.1.mono (HX.out.2.2.2.2.2.1).size)) (show w.heap.size+1+1+1+1+1≤u2.heap.size from by have h1:=HX.out.2.2.2.2.2.2;have h2:=HU.out.1.size;omega))
 clear HV1
 obtain ⟨a,ha⟩:∃ a,ansM (Tm.mk k4 n4 m4 b4 v4 ts4) (.mk k2 n2 m2 b2 v2 ts2) (varT nx) (nx+1)=a:=⟨_,rfl⟩
 have hna:=ansM_n (f:=(.mk k2 n2 m2 b2 v2 ts2)) (d:=varT nx) (nx:=nx+1) (check_iff.1 HRx.out.2.2.1).2 (by omega)
 rw [ha] at hna
 obtain ⟨ga,na,ia,ba⟩:=a
 change 0≤na∧na≤_ at hna
 have HA0:=Lib.hid (And.intro ha hna)
 have hna0:=hna.1
 have hwr:IntKind.i64.wrap (nx+1)=nx+1:=IntWalk.i64_in _ (by omega)
 have hna1:na≤4611686018427396000:=by have:=HBd.out.2;have:=sz_pos (Tm.mk k5 n5 m5 b5 v5 ts5);omega
 clear ha hna
 obtain ⟨k6,n6,m6,b6,v6,ts6⟩:=ga
 obtain ⟨nb6,hnb6⟩:∃ nb:ByteArray,(⟨n6.toArray⟩:ByteArray)=nb:=⟨_,rfl⟩
 obtain ⟨mb6,hmb6⟩:∃ mb:ByteArray,(⟨m6.toArray⟩:ByteArray)=mb:=⟨_,rfl⟩
 obtain ⟨L6,hL6⟩:∃ L,ts6.length=L:=⟨_,rfl⟩
 have HL6:=Lib.hid (And.intro hnb6 (And.intro hmb6 hL6))
 clear hnb6 hmb6 hL6
 obtain ⟨k7,n7,m7,b7,v7,ts7⟩:=ba
 obtain ⟨nb7,hnb7⟩:∃ nb:ByteArray,(⟨n7.toArray⟩:ByteArray)=nb:=⟨_,rfl⟩
 obtain ⟨mb7,hmb7⟩:∃ mb:ByteArray,(⟨m7.toArray⟩:ByteArray)=mb:=⟨_,rfl⟩
 obtain ⟨L7,hL7⟩:∃ L,ts7.length=L:=⟨_,rfl⟩
 have HL7:=Lib.hid (And.intro hnb7 (And.intro hmb7 hL7))
 clear hnb7 hmb7 hL7
 have HCl:=Lib.hid (show ∀ z,Below u2.heap.size u2 z→Calls Tryd.prog 49 #[.agg #[.int .i64 k4,.string nb4,.string mb4,.int .u64 b4,.int .i64 v4,.slice A4 L4 c4],.agg #[.int .i64 k2,.string nb2,.string mb2,.int .u64 b2,.int .i64 v2,.slice A2 L2 c2],.agg #[.int .i64 1,.string ⟨#[]⟩,.string ⟨#[]⟩,.int .u64 0,.int .i64 nx,.slice none 0 0],.int .i64 (nx+1)] z (fun e w'=>∃ A c A2 c2,e = .returned (.tuple #[.agg #[.int .i64 k6,.string nb6,.string mb6,.int .u64 b6,.int .i64 v6,.slice A L6 c],.int .i64 na,.agg #[.bool ia,.int .i64 k7,.string nb7,.string mb7,.int .u64 b7,.int .i64 v7,.slice A2 L7 c2]])∧TAtP w' (Grow P z w') (Tm.mk k6 n6 m6 b6 v6 ts6) (.slice A L6 c)∧TAtP w' (Grow P z w') (Tm.mk k7 n7 m7 b7 v7 ts7) (.slice A2 L7 c2)∧Below z.heap.size z w') from fun z hz=>by
  have hwz:=HW2.out.1.trans (hz.mono HW2.out.1.size)
  have h:=HRx.out.1 z P (.mk k2 n2 m2 b2 v2 ts2) (varT nx) (.slice A4 L4 c4) (.slice A2 L2 c2) (.slice none 0 0) (nx+1) (HE4.out.1.below hwz HPP.out) (HT.out.2.1.below hwz HPP.out) (var_at z P ⟨by omega,by omega⟩) (fun b hb=>Nat.lt_of_lt_of_le (HPP.out b hb) hwz.size) (by omega) (by have:=HBd.out.2;have:=sz_pos (Tm.mk k5 n5 m5 b5 v5 ts5);omega) HRx.out.2.2.1
  rw [HA0.out.1,valT_mk HL4.out.1 HL4.out.2.1,valT_mk HM.out.2.2.1 HM.out.2.2.2.1,show valT (varT nx) (.slice none 0 0) = .agg #[.int .i64 1,.string ⟨#[]⟩,.string ⟨#[]⟩,.int .u64 0,.int .i64 nx,.slice none 0 0] from rfl] at h
  exact h.mono (fun e w' h=>AnsP.letters HL6.out.1 HL6.out.2.1 HL6.out.2.2 HL7.out.1 HL7.out.2.1 HL7.out.2.2 h))
 have HSS:=Lib.hid (show ∀ z,Below u2.heap.size u2 z→((z.cell? ⟨w.heap.size,5,none⟩=some (.slice (some ⟨g,o,none⟩) 2 c1))∧(z.cell? ⟨g,o,none⟩=some (.int .i64 k4)∧z.cell? ⟨g,o+1,none⟩=some (.string nb4)∧z.cell? ⟨g,o+2,none⟩=some (.string mb4)∧z.cell? ⟨g,o+3,none⟩=some (.int .u64 b4)∧z.cell? ⟨g,o+4,none⟩=some (.int .i64 v4)∧z.cell? ⟨g,o+5,none⟩=some (.slice A4 L4 c4))∧(z.cell? ⟨w.heap.size+1,0,none⟩=some (.int .i64 k2)∧z.cell? ⟨w.heap.size+1,1,none⟩=some (.string nb2)∧z.cell? ⟨w.heap.size+1,2,none⟩=some (.string mb2)∧z.cell? ⟨w.heap.size+1,3,none⟩=some (.int .u64 b2)∧z.cell? ⟨w.heap.size+1,4,none⟩=some (.int .i64 v2)∧z.cell? ⟨w.heap.size+1,5,none⟩=some (.slice A2 L2 c2))∧(z.cell? ⟨G,0,none⟩=some (.int .i64 1)∧z.cell? ⟨G,1,none⟩=some (.string ⟨#[]⟩)∧z.cell? ⟨G,2,none⟩=some (.string ⟨#[]⟩)∧z.cell? ⟨G,3,none⟩=some (.int .u64 0)∧z.cell? ⟨G,4,none⟩=some (.int .i64 nx)∧z.cell? ⟨G,5,none⟩=some (.slice none 0 0))) from fun z hb=>by
  have hwz:=HW2.out.1.trans (hb.mono HW2.out.1.size)
  exact ⟨(((HX.out.1).below (HU.out.1.trans (hb.mono HU.out.1.size))).cells HM.out.1 HM.out.2.1).2.2.2.2.2,⟨(hwz.cell (p:=⟨g,_,none⟩) HPg.out).trans HE4.out.2.1,(hwz.cell (p:=⟨g,_,none⟩) HPg.out).trans HE4.out.2.2.1,(hwz.cell (p:=⟨g,_,none⟩) HPg.out).trans HE4.out.2.2.2.1,(hwz.cell (p:=⟨g,_,none⟩) HPg.out).trans HE4.out.2.2.2.2.1,(hwz.cell (p:=⟨g,_,none⟩) HPg.out).trans HE4.out.2.2.2.2.2.1,(hwz.cell (p:=⟨g,_,none⟩) HPg.out).trans HE4.out.2.2.2.2.2.2⟩,((HX.out.2.1).below (HU.out.1.trans (hb.mono HU.out.1.size))).cells HM.out.2.2.1 HM.out.2.2.2.1,(HU.out.2.1.below hb).cells rfl rfl⟩)
 refine wp_region_U 17 (by kernel_rfl) (fun z0 K0 hs0=>?_)
 refine tw 0 K0 (v:=?tv1) (fun w5 hS=>?ty1) ?_
 case ty1=>obtain ⟨s1,⟨p0,p1,p2,p3,p4,p5⟩,⟨q0,q1,q2,q3,q4,q5⟩,⟨r0,r1,r2,r3,r4,r5⟩⟩:=HSS.out _ hS;go_simp;rfl
 refine tw 1 K0 (v:=?tv2) (fun w5 hS=>?ty2) ?_
 case ty2=>obtain ⟨s1,⟨p0,p1,p2,p3,p4,p5⟩,⟨q0,q1,q2,q3,q4,q5⟩,⟨r0,r1,r2,r3,r4,r5⟩⟩:=HSS.out _ hS;go_simp;rfl
 refine tw 2 K0 (v:=?tv3) (fun w5 hS=>?ty3) ?_
 case ty3=>obtain ⟨s1,⟨p0,p1,p2,p3,p4,p5⟩,⟨q0,q1,q2,q3,q4,q5⟩,⟨r0,r1,r2,r3,r4,r5⟩⟩:=HSS.out _ hS;go_simp;rfl
 refine tw 3 K0 (v:=?tv4) (fun w5 hS=>?ty4) ?_
 case ty4=>obtain ⟨s1,⟨p0,p1,p2,p3,p4,p5⟩,⟨q0,q1,q2,q3,q4,q5⟩,⟨r0,r1,r2,r3,r4,r5⟩⟩:=HSS.out _ hS;go_simp;rfl
 refine tw 4 K0 (v:=?tv5) (fun w5 hS=>?ty5) ?_
 case ty5=>obtain ⟨s1,⟨p0,p1,p2,p3,p4,p5⟩,⟨q0,q1,q2,q3,q4,q5⟩,⟨r0,r1,r2,r3,r4,r5⟩⟩:=HSS.out _ hS;go_simp;rfl
 refine tw 5 K0 (v:=?tv6) (fun w5 hS=>?ty6) ?_
 case ty6=>obtain ⟨s1,⟨p0,p1,p2,p3,p4,p5⟩,⟨q0,q1,q2,q3,q4,q5⟩,⟨r0,r1,r2,r3,r4,r5⟩⟩:=HSS.out _ hS;go_simp;rfl
 refine tw 6 K0 (v:=?tv7) (fun w5 hS=>?ty7) ?_
 case ty7=>obtain ⟨s1,⟨p0,p1,p2,p3,p4,p5⟩,⟨q0,q1,q2,q3,q4,q5⟩,⟨r0,r1,r2,r3,r4,r5⟩⟩:=HSS.out _ hS;go_simp;rfl
 refine tw 7 K0 (v:=?tv8) (fun w5 hS=>?ty8) ?_
 case ty8=>obtain ⟨s1,⟨p0,p1,p2,p3,p4,p5⟩,⟨q0,q1,q2,q3,q4,q5⟩,⟨r0,r1,r2,r3,r4,r5⟩⟩:=HSS.out _ hS;go_simp;rfl
 refine wpAnyW_float [13,14] (fun q=>if q=13 then .cells #[.int .i64 0,.string ⟨#[]⟩,.string ⟨#[]⟩,.int .u64 0,.int .i64 0,.slice none 0 0] 25 else .cells #[.bool false,.int .i64 0,.string ⟨#[]⟩,.string ⟨#[]⟩,.int .u64 0,.int .i64 0,.slice none 0 0] 35) (by kernel_rfl) (by kernel_rfl) (FloatRun.two rfl rfl (fun a w=>by go_simp) rfl (fun a w=>by go_simp)) (fun _ _ h1 h2=>h2.trans (h1.mono h2.size)) (by kernel_rfl) (fun _ _ _ _ _ h=>h) rfl K0 ?_
 refine wpAnyF_one (i:=8) (by kernel_rfl) (by kernel_rfl) (fun _ _ _ _ _ h=>h) ⟨by kernel_rfl,by kernel_rfl⟩ (by kernel_rfl) rfl (by kernel_rfl) (fun f1 d1 K1 K hK=>?_)
 go_simp
 (with_reducible refine (HCl.out _ K1).mono ?_)
 rintro e f2 ⟨A6,c6,A7,c7,rfl,hg1,hg2,hb⟩
 refine hK.out _ _ hb (K1.trans (hb.mono K1.size)) ?_
 refine tf 9 (v:=?tv9) (fun w5 hS=>?ty9) ?_
 case ty9=>go_simp;rfl
 refine tf 10 (v:=?tv10) (fun w5 hS=>?ty10) ?_
 case ty10=>go_simp;rfl
 refine tf 11 (v:=?tv11) (fun w5 hS=>?ty11) ?_
 case ty11=>go_simp;rfl
 refine tf 12 (v:=?tv12) (fun w5 hS=>?ty12) ?_
 case ty12=>go_simp;rfl
 refine wpAnyF_land2 (by kernel_rfl) rfl rfl rfl (fun f3 H14 H16 d3 K3 hA hB gA gB hne=>?_)
 replace hA:TBox f3 H14 zeroT (.slice none 0 0):=hA
 replace hB:BBox f3 H16 false zeroT (.slice none 0 0):=hB
 refine stT (i:=15) (t:=(Tm.mk k6 n6 m6 b6 v6 ts6)) (A:=A6) (L:=L6) (c:=c6) (by kernel_rfl) rfl (by kernel_rfl) rfl rfl (by kernel_rfl) (.trans (by kernel_rfl) (valT_mk HL6.out.1 HL6.out.2.1).symm) hA (fun f4 hT4 g4=>?_)
 have K4:=K3.grown g4 K3.size (fun j e=>by injection e with e;have h1:=K1.size;have h2:=hb.size;rcases gA with (h | h) | h;exact h.elim;all_goals omega)
 refine ⟨fun _=>K4,?_⟩
 refine w1 16 fun K hK=>?_
 go_simp
 refine hK.out _ _ (fun _=>K4) ?_
 refine stB (i:=17) (j:=ia) (t:=(Tm.mk k7 n7 m7 b7 v7 ts7)) (A:=A7) (L:=L7) (c:=c7) (by kernel_rfl) rfl (by kernel_rfl) rfl rfl (by kernel_rfl) (.trans (by kernel_rfl) (badV_mk HL7.out.1 HL7.out.2.1).symm) (hB.gro g4 hne.symm) (fun z3 hB5 g5=>⟨fun h=>absurd h (by simp),?_⟩)
 refine wpAnyW_done (by kernel_rfl) ?_ _
 obtain ⟨hz,hzA,hzB⟩:=box_end hs0 K1 hb d3 (fun b hb=>Nat.lt_of_lt_of_le (HPP.out b hb) HW2.out.1.size) hg1 hg2 gA gB ⟨hT4,g4⟩ ⟨hB5,g5⟩ hne
 have Hz3:=Lib.hid hz
 have H14L:=Lib.hid hzA
 have H16L:=Lib.hid hzB
 clear hz hzA hzB hT4 g4 hB5 g5 K4 hA hB gA gB hne d3 K3 hg1 hg2 hb d1 K1 K0 hs0 HSS
 have HB3:=Lib.hid (HU.out.1.trans (Hz3.out.2.2.2.2.mono HU.out.1.size))
 have HW3:=Lib.hid (HW2.out.1.trans (Hz3.out.2.2.2.2.mono HW2.out.1.size))
 have HS3:=Lib.hid (show w.heap.size+1+1+1+1+1≤z3.heap.size∧u2.heap.size≤z3.heap.size from ⟨Nat.le_trans HW2.out.2 Hz3.out.2.2.2.2.size,Hz3.out.2.2.2.2.size⟩)
 obtain ⟨y0,y1,y2,y3,y4,y5,y6⟩:=Hz3.out.2.1.cells HL7.out.1 HL7.out.2.1
 cases ia with
 | true=>
  go_upto_region 4 with fail
  clear y0 y1 y2 y3 y4 y5 y6
  have HE:=Lib.hid (show (⟨zeroT,0,true,(Tm.mk k7 n7 m7 b7 v7 ts7)⟩:Ans)=R from by rw [←HR0.out,twoA,HA0.out.1];rfl)
  have hlo:=HW2.out.2
  have hH:=H16L.out
  refine wp_region_G (w.heap.size+1+1+1) 4 (by kernel_rfl) (fun v0 KK KG=>?_)
  refine tw 0 KG (v:=?tv13) (fun w5 hS=>?ty13) ?_
  case ty13=>go_simp;rfl
  refine tw 1 KG (v:=?tv14) (fun w5 hS=>?ty14) ?_
  case ty14=>obtain ⟨p0,p1,p2,p3,p4,p5,p6⟩:=(Hz3.out.2.1.gro hS (by omega)).cells HL7.out.1 HL7.out.2.1;go_simp;rfl
  refine stT (i:=2) (t:=(Tm.mk 0 [] [] 0 0 [])) (by kernel_rfl) rfl (by kernel_rfl) rfl rfl (by kernel_rfl) (.trans (by kernel_rfl) (valT_mk (sl:=.slice none 0 0) (nb:=⟨#[]⟩) (mb:=⟨#[]⟩) rfl rfl).symm) ((HX.out.2.2.2.1).below (HB3.out.trans (KK.mono HB3.out.size))) (fun x1 hT5 g5=>⟨fun _=>grown_trans KG g5,?_⟩)
  refine w1 3 fun K hK=>?_
  go_simp
  refine hK.out _ _ (fun _=>grown_trans KG g5) ?_
  refine stB (i:=4) (j:=true) (t:=(Tm.mk k7 n7 m7 b7 v7 ts7)) (by kernel_rfl) rfl (by kernel_rfl) rfl rfl (by kernel_rfl) (.trans (by kernel_rfl) (badV_mk (i:=true) (sl:=.slice A7 L7 c7) HL7.out.1 HL7.out.2.1).symm) (BBox.gro ((HX.out.2.2.2.2.1).below (HB3.out.trans (KK.mono HB3.out.size))) g5 (by omega)) (fun x2 hB6 g6=>⟨fun h=>absurd h (by simp),?_⟩)
  refine wpAnyW_done (by kernel_rfl) ?_ _
  go_wp2
  have hcc:=(hT5.gro g6 (by omega)).cells (nb:=⟨#[]⟩) (mb:=⟨#[]⟩) rfl rfl
  have a0:=hcc.1
  have a1:=hcc.2.1
  have a2:=hcc.2.2.1
  have a3:=hcc.2.2.2.1
  have a4:=hcc.2.2.2.2.1
  have a5:=hcc.2.2.2.2.2
  clear hcc
  have hcc:=hB6.cells HL7.out.1 HL7.out.2.1
  have s0:=hcc.1
  have s1:=hcc.2.1
  have s2:=hcc.2.2.1
  have s3:=hcc.2.2.2.1
  have s4:=hcc.2.2.2.2.1
  have s5:=hcc.2.2.2.2.2.1
  have s6:=hcc.2.2.2.2.2.2
  clear hcc
  refine bodyPost_ret (v:=.tuple #[.agg #[.int .i64 0,.string ⟨#[]⟩,.string ⟨#[]⟩,.int .u64 0,.int .i64 0,.slice none 0 0],.int .i64 0,.agg #[.bool true,.int .i64 k7,.string nb7,.string mb7,.int .u64 b7,.int .i64 v7,.slice A7 L7 c7]]) (by simp [results,Tryd.results68,go_sem,a0,a1,a2,a3,a4,a5,s0,s1,s2,s3,s4,s5,s6]) rfl ?_
  rw [←HE.out]
  exact ans_end HPP.out (HW3.out.trans (KK.mono HW3.out.size)) ⟨by omega,Nat.lt_succ_of_lt (Nat.lt_succ_self _)⟩ ⟨by omega,Nat.lt_succ_self _⟩ g5 g6 (zero_at v0 _) (NW.keep (NW.low Hz3.out.2.2.2.1 HW2.out.2) KK (fun b hb=>Nat.lt_of_lt_of_le (HPP.out b hb) HW3.out.size)) (by
   show _=Ending.returned (.tuple #[valT (Tm.mk 0 [] [] 0 0 []) (.slice none 0 0),_,badV true (Tm.mk k7 n7 m7 b7 v7 ts7) (.slice A7 L7 c7)])
   rw [valT_mk (nb:=⟨#[]⟩) (mb:=⟨#[]⟩) rfl rfl,badV_mk HL7.out.1 HL7.out.2.1]
   all_goals rfl)
 | false=>
  go_upto_region 5 with fail
  clear y0 y1 y2 y3 y4 y5 y6 hwr HCl
  obtain ⟨a,ha⟩:∃ a,ansM (Tm.mk k5 n5 m5 b5 v5 ts5) (varT nx) (.mk k3 n3 m3 b3 v3 ts3) na=a:=⟨_,rfl⟩
  obtain ⟨gc,nc,ic,bc⟩:=a
  have HC0:=Lib.hid ha
  clear ha
  have HE:=Lib.hid (show (⟨cmpT s [(Tm.mk k6 n6 m6 b6 v6 ts6),gc],nc,ic,bc⟩:Ans)=R from by rw [←HR0.out,twoA,HA0.out.1,if_neg (by simp),HC0.out];rfl)
  obtain ⟨k8,n8,m8,b8,v8,ts8⟩:=gc
  obtain ⟨nb8,hnb8⟩:∃ nb:ByteArray,(⟨n8.toArray⟩:ByteArray)=nb:=⟨_,rfl⟩
  obtain ⟨mb8,hmb8⟩:∃ mb:ByteArray,(⟨m8.toArray⟩:ByteArray)=mb:=⟨_,rfl⟩
  obtain ⟨L8,hL8⟩:∃ L,ts8.length=L:=⟨_,rfl⟩
  have HL8:=Lib.hid (And.intro hnb8 (And.intro hmb8 hL8))
  clear hnb8 hmb8 hL8
  obtain ⟨k9,n9,m9,b9,v9,ts9⟩:=bc
  obtain ⟨nb9,hnb9⟩:∃ nb:ByteArray,(⟨n9.toArray⟩:ByteArray)=nb:=⟨_,rfl⟩
  obtain ⟨mb9,hmb9⟩:∃ mb:ByteArray,(⟨m9.toArray⟩:ByteArray)=mb:=⟨_,rfl⟩
  obtain ⟨L9,hL9⟩:∃ L,ts9.length=L:=⟨_,rfl⟩
  have HL9:=Lib.hid (And.intro hnb9 (And.intro hmb9 hL9))
  clear hnb9 hmb9 hL9
  have HCl:=Lib.hid (show ∀ z,Below z3.heap.size z3 z→Calls Tryd.prog 49 #[.agg #[.int .i64 k5,.string nb5,.string mb5,.int .u64 b5,.int .i64 v5,.slice A5 L5 c5],.agg #[.int .i64 1,.string ⟨#[]⟩,.string ⟨#[]⟩,.int .u64 0,.int .i64 nx,.slice none 0 0],.agg #[.int .i64 k3,.string nb3,.string mb3,.int .u64 b3,.int .i64 v3,.slice A3 L3 c3],.int .i64 na] z (fun e w'=>∃ A c A2 c2,e = .returned (.tuple #[.agg #[.int .i64 k8,.string nb8,.string mb8,.int .u64 b8,.int .i64 v8,.slice A L8 c],.int .i64 nc,.agg #[.bool ic,.int .i64 k9,.string nb9,.string mb9,.int .u64 b9,.int .i64 v9,.slice A2 L9 c2]])∧TAtP w' (Grow P z w') (Tm.mk k8 n8 m8 b8 v8 ts8) (.slice A L8 c)∧TAtP w' (Grow P z w') (Tm.mk k9 n9 m9 b9 v9 ts9) (.slice A2 L9 c2)∧Below z.heap.size z w') from fun z hz=>by
   have hwz:=HW3.out.trans (hz.mono HW3.out.size)
   have h:=HRx.out.2.1 z P (varT nx) (.mk k3 n3 m3 b3 v3 ts3) (.slice A5 L5 c5) (.slice none 0 0) (.slice A3 L3 c3) na (HE5.out.1.below hwz HPP.out) (var_at z P ⟨by omega,by omega⟩) (HT.out.2.2.below hwz HPP.out) (fun b hb=>Nat.lt_of_lt_of_le (HPP.out b hb) hwz.size) (by omega) (by have:=HBd.out.2;have:=HA0.out.2.2;omega) HRx.out.2.2.2
   rw [HC0.out,valT_mk HL5.out.1 HL5.out.2.1,valT_mk HM.out.2.2.2.2.1 HM.out.2.2.2.2.2,show valT (varT nx) (.slice none 0 0) = .agg #[.int .i64 1,.string ⟨#[]⟩,.string ⟨#[]⟩,.int .u64 0,.int .i64 nx,.slice none 0 0] from rfl] at h
   exact h.mono (fun e w' h=>AnsP.letters HL8.out.1 HL8.out.2.1 HL8.out.2.2 HL9.out.1 HL9.out.2.1 HL9.out.2.2 h))
  have HSS:=Lib.hid (show ∀ z,Below z3.heap.size z3 z→((z.cell? ⟨w.heap.size,5,none⟩=some (.slice (some ⟨g,o,none⟩) 2 c1))∧(z.cell? ⟨g,o+6,none⟩=some (.int .i64 k5)∧z.cell? ⟨g,o+7,none⟩=some (.string nb5)∧z.cell? ⟨g,o+8,none⟩=some (.string mb5)∧z.cell? ⟨g,o+9,none⟩=some (.int .u64 b5)∧z.cell? ⟨g,o+10,none⟩=some (.int .i64 v5)∧z.cell? ⟨g,o+11,none⟩=some (.slice A5 L5 c5))∧(z.cell? ⟨G,0,none⟩=some (.int .i64 1)∧z.cell? ⟨G,1,none⟩=some (.string ⟨#[]⟩)∧z.cell? ⟨G,2,none⟩=some (.string ⟨#[]⟩)∧z.cell? ⟨G,3,none⟩=some (.int .u64 0)∧z.cell? ⟨G,4,none⟩=some (.int .i64 nx)∧z.cell? ⟨G,5,none⟩=some (.slice none 0 0))∧(z.cell? ⟨w.heap.size+1+1,0,none⟩=some (.int .i64 k3)∧z.cell? ⟨w.heap.size+1+1,1,none⟩=some (.string nb3)∧z.cell? ⟨w.heap.size+1+1,2,none⟩=some (.string mb3)∧z.cell? ⟨w.heap.size+1+1,3,none⟩=some (.int .u64 b3)∧z.cell? ⟨w.heap.size+1+1,4,none⟩=some (.int .i64 v3)∧z.cell? ⟨w.heap.size+1+1,5,none⟩=some (.slice A3 L3 c3))) from fun z hb=>by
   have hwz:=HW3.out.trans (hb.mono HW3.out.size)
   have hbz:=HB3.out.trans (hb.mono HB3.out.size)
   exact ⟨(((HX.out.1).below hbz).cells HM.out.1 HM.out.2.1).2.2.2.2.2,⟨(hwz.cell (p:=⟨g,_,none⟩) HPg.out).trans HE5.out.2.1,(hwz.cell (p:=⟨g,_,none⟩) HPg.out).trans HE5.out.2.2.1,(hwz.cell (p:=⟨g,_,none⟩) HPg.out).trans HE5.out.2.2.2.1,(hwz.cell (p:=⟨g,_,none⟩) HPg.out).trans HE5.out.2.2.2.2.1,(hwz.cell (p:=⟨g,_,none⟩) HPg.out).trans HE5.out.2.2.2.2.2.1,(hwz.cell (p:=⟨g,_,none⟩) HPg.out).trans HE5.out.2.2.2.2.2.2⟩,(HU.out.2.1.below (Hz3.out.2.2.2.2.trans (hb.mono Hz3.out.2.2.2.2.size))).cells rfl rfl,((HX.out.2.2.1).below hbz).cells HM.out.2.2.2.2.1 HM.out.2.2.2.2.2⟩)
  refine wp_region_U 16 (by kernel_rfl) (fun z0 K0 hs0=>?_)
  refine tw 0 K0 (v:=?tv15) (fun w5 hS=>?ty15) ?_
  case ty15=>obtain ⟨s1,⟨p0,p1,p2,p3,p4,p5⟩,⟨q0,q1,q2,q3,q4,q5⟩,⟨r0,r1,r2,r3,r4,r5⟩⟩:=HSS.out _ hS;go_simp;rfl
  refine tw 1 K0 (v:=?tv16) (fun w5 hS=>?ty16) ?_
  case ty16=>obtain ⟨s1,⟨p0,p1,p2,p3,p4,p5⟩,⟨q0,q1,q2,q3,q4,q5⟩,⟨r0,r1,r2,r3,r4,r5⟩⟩:=HSS.out _ hS;go_simp;rfl
  refine tw 2 K0 (v:=?tv17) (fun w5 hS=>?ty17) ?_
  case ty17=>obtain ⟨s1,⟨p0,p1,p2,p3,p4,p5⟩,⟨q0,q1,q2,q3,q4,q5⟩,⟨r0,r1,r2,r3,r4,r5⟩⟩:=HSS.out _ hS;go_simp;rfl
  refine tw 3 K0 (v:=?tv18) (fun w5 hS=>?ty18) ?_
  case ty18=>obtain ⟨s1,⟨p0,p1,p2,p3,p4,p5⟩,⟨q0,q1,q2,q3,q4,q5⟩,⟨r0,r1,r2,r3,r4,r5⟩⟩:=HSS.out _ hS;go_simp;rfl
  refine tw 4 K0 (v:=?tv19) (fun w5 hS=>?ty19) ?_
  case ty19=>obtain ⟨s1,⟨p0,p1,p2,p3,p4,p5⟩,⟨q0,q1,q2,q3,q4,q5⟩,⟨r0,r1,r2,r3,r4,r5⟩⟩:=HSS.out _ hS;go_simp;rfl
  refine tw 5 K0 (v:=?tv20) (fun w5 hS=>?ty20) ?_
  case ty20=>obtain ⟨s1,⟨p0,p1,p2,p3,p4,p5⟩,⟨q0,q1,q2,q3,q4,q5⟩,⟨r0,r1,r2,r3,r4,r5⟩⟩:=HSS.out _ hS;go_simp;rfl
  refine tw 6 K0 (v:=?tv21) (fun w5 hS=>?ty21) ?_
  case ty21=>obtain ⟨s1,⟨p0,p1,p2,p3,p4,p5⟩,⟨q0,q1,q2,q3,q4,q5⟩,⟨r0,r1,r2,r3,r4,r5⟩⟩:=HSS.out _ hS;go_simp;rfl
  refine wpAnyW_float [12,13] (fun q=>if q=12 then .cells #[.int .i64 0,.string ⟨#[]⟩,.string ⟨#[]⟩,.int .u64 0,.int .i64 0,.slice none 0 0] 25 else .cells #[.bool false,.int .i64 0,.string ⟨#[]⟩,.string ⟨#[]⟩,.int .u64 0,.int .i64 0,.slice none 0 0] 35) (by kernel_rfl) (by kernel_rfl) (FloatRun.two rfl rfl (fun a w=>by go_simp) rfl (fun a w=>by go_simp)) (fun _ _ h1 h2=>h2.trans (h1.mono h2.size)) (by kernel_rfl) (fun _ _ _ _ _ h=>h) rfl K0 ?_
  refine wpAnyF_one (i:=7) (by kernel_rfl) (by kernel_rfl) (fun _ _ _ _ _ h=>h) ⟨by kernel_rfl,by kernel_rfl⟩ (by kernel_rfl) rfl (by kernel_rfl) (fun f1 d1 K1 K hK=>?_)
  go_simp
  (with_reducible refine (HCl.out _ K1).mono ?_)
  rintro e f2 ⟨A8,c8,A9,c9,rfl,hg1,hg2,hb⟩
  refine hK.out _ _ hb (K1.trans (hb.mono K1.size)) ?_
  refine tf 8 (v:=?tv22) (fun w5 hS=>?ty22) ?_
  case ty22=>go_simp;rfl
  refine tf 9 (v:=?tv23) (fun w5 hS=>?ty23) ?_
  case ty23=>go_simp;rfl
  refine tf 10 (v:=?tv24) (fun w5 hS=>?ty24) ?_
  case ty24=>go_simp;rfl
  refine tf 11 (v:=?tv25) (fun w5 hS=>?ty25) ?_
  case ty25=>go_simp;rfl
  refine wpAnyF_land2 (by kernel_rfl) rfl rfl rfl (fun f3 H17 H19 d3 K3 hA hB gA gB hne=>?_)
  replace hA:TBox f3 H17 zeroT (.slice none 0 0):=hA
  replace hB:BBox f3 H19 false zeroT (.slice none 0 0):=hB
  refine stT (i:=14) (t:=(Tm.mk k8 n8 m8 b8 v8 ts8)) (A:=A8) (L:=L8) (c:=c8) (by kernel_rfl) rfl (by kernel_rfl) rfl rfl (by kernel_rfl) (.trans (by kernel_rfl) (valT_mk HL8.out.1 HL8.out.2.1).symm) hA (fun f4 hT4 g4=>?_)
  have K4:=K3.grown g4 K3.size (fun j e=>by injection e with e;have h1:=K1.size;have h2:=hb.size;rcases gA with (h | h) | h;exact h.elim;all_goals omega)
  refine ⟨fun _=>K4,?_⟩
  refine w1 15 fun K hK=>?_
  go_simp
  refine hK.out _ _ (fun _=>K4) ?_
  refine stB (i:=16) (j:=ic) (t:=(Tm.mk k9 n9 m9 b9 v9 ts9)) (A:=A9) (L:=L9) (c:=c9) (by kernel_rfl) rfl (by kernel_rfl) rfl rfl (by kernel_rfl) (.trans (by kernel_rfl) (badV_mk HL9.out.1 HL9.out.2.1).symm) (hB.gro g4 hne.symm) (fun z6 hB5 g5=>⟨fun h=>absurd h (by simp),?_⟩)
  refine wpAnyW_done (by kernel_rfl) ?_ _
  obtain ⟨hz,hzA,hzB⟩:=box_end hs0 K1 hb d3 (fun b hb=>Nat.lt_of_lt_of_le (HPP.out b hb) HW3.out.size) hg1 hg2 gA gB ⟨hT4,g4⟩ ⟨hB5,g5⟩ hne
  have Hz6:=Lib.hid hz
  have H17L:=Lib.hid hzA
  have H19L:=Lib.hid hzB
  clear hz hzA hzB hT4 g4 hB5 g5 K4 hA hB gA gB hne d3 K3 hg1 hg2 hb d1 K1 K0 hs0 HSS
  have HB6:=Lib.hid (HB3.out.trans (Hz6.out.2.2.2.2.mono HB3.out.size))
  have HW6:=Lib.hid (HW3.out.trans (Hz6.out.2.2.2.2.mono HW3.out.size))
  go_upto_region 6 with fail
  have h1:=H14L.out
  have h2:=H17L.out
  have h3:=H19L.out
  have h4:=HW2.out.2
  have h5:=HS3.out.1
  refine wp_region_G (w.heap.size+1+1+1) 8 (by kernel_rfl) (fun v0 KK KG=>?_)
  refine tw 0 KG (v:=?tv26) (fun w5 hS=>?ty26) ?_
  case ty26=>go_simp;rfl
  refine tw 1 KG (v:=?tv27) (fun w5 hS=>?ty27) ?_
  case ty27=>obtain ⟨p0,p1,p2,p3,p4,p5⟩:=((Hz3.out.1.below Hz6.out.2.2.2.2).gro hS (by omega)).cells HL6.out.1 HL6.out.2.1;go_simp;rfl
  refine tw 2 KG (v:=?tv28) (fun w5 hS=>?ty28) ?_
  case ty28=>obtain ⟨p0,p1,p2,p3,p4,p5⟩:=(Hz6.out.1.gro hS (by omega)).cells HL8.out.1 HL8.out.2.1;go_simp;rfl
  refine tw 4 KG (v:=?tv29) (fun w5 hS=>?ty29) ?_
  case ty29=>go_simp;rfl
  refine tw 5 KG (v:=?tv30) (fun w5 hS=>?ty30) ?_
  case ty30=>obtain ⟨p0,p1,p2,p3,p4,p5,p6⟩:=(Hz6.out.2.1.gro hS (by omega)).cells HL9.out.1 HL9.out.2.1;go_simp;rfl
  have hP6:∀ b,P b→b<z6.heap.size:=fun b hb=>Nat.lt_of_lt_of_le (HPP.out b hb) HW6.out.size
  have ht3:=NW.keep (NW.keep (NW.low Hz3.out.2.2.1 HW2.out.2) Hz6.out.2.2.2.2 (fun b hb=>Nat.lt_of_lt_of_le (HPP.out b hb) HW3.out.size)) KK hP6
  have ht6:=NW.keep (NW.low Hz6.out.2.2.1 HS3.out.1) KK hP6
  have htb:=NW.keep (NW.low Hz6.out.2.2.2.1 HS3.out.1) KK hP6
  have hPv:∀ b,P b→b<v0.heap.size:=fun b hb=>Nat.lt_of_lt_of_le (hP6 b hb) KK.size
  have hF:=F2_any ht3 ht6 (NW.lt hPv) sb (by rw [←HLs.out.2.2.1];show s.toArray.size≤_;rw [List.size_toArray];exact HLs.out.2.2.2)
  rw [valT_mk HL6.out.1 HL6.out.2.1,valT_mk HL8.out.1 HL8.out.2.1,show sb.data.toList=s from by rw [←HLs.out.2.2.1]] at hF
  have HF:=Lib.hid hF
  clear hF
  refine w1 3 fun K hK=>?_
  go_simp
  (with_reducible refine HF.out.mono ?_)
  rintro e v1_ ⟨A10,c10,rfl,ht,hb⟩
  have KV:=KK.trans (hb.mono KK.size)
  have htg:TAtP v1_ (NW P (w.heap.size+1+1+1+1+1) v1_) (cmpT s [(Tm.mk k6 n6 m6 b6 v6 ts6),(Tm.mk k8 n8 m8 b8 v8 ts8)]) (.slice A10 2 c10):=ht.wide (fun b hb2=>by
   have e1:=KK.size
   have e2:=hb.size
   have e3:=Hz6.out.2.2.2.2.size
   have e4:=HS3.out
   rcases hb2 with (h | h) | h
   ·exact .inl h
   ·exact .inr ⟨h.1,by omega⟩
   ·exact .inr ⟨by omega,h.2⟩)
  have htb1:=NW.keep htb hb hPv
  refine hK.out _ _ (fun _=>grown_below KV) ?_
  clear ht hb HF
  refine stT (i:=6) (t:=(Tm.mk 5 s [] 0 0 [(Tm.mk k6 n6 m6 b6 v6 ts6),(Tm.mk k8 n8 m8 b8 v8 ts8)])) (by kernel_rfl) rfl (by kernel_rfl) rfl rfl (by kernel_rfl) (.trans (by kernel_rfl) (valT_mk (sl:=.slice A10 2 c10) (mb:=⟨#[]⟩) HLs.out.2.2.1 rfl).symm) ((HX.out.2.2.2.1).below (HB6.out.trans (KV.mono HB6.out.size))) (fun x1 hT5 g5=>⟨fun _=>grown_trans (grown_below KV) g5,?_⟩)
  refine w1 7 fun K hK=>?_
  go_simp
  refine hK.out _ _ (fun _=>grown_trans (grown_below KV) g5) ?_
  refine stB (i:=8) (j:=ic) (t:=(Tm.mk k9 n9 m9 b9 v9 ts9)) (by kernel_rfl) rfl (by kernel_rfl) rfl rfl (by kernel_rfl) (.trans (by kernel_rfl) (badV_mk (i:=ic) (sl:=.slice A9 L9 c9) HL9.out.1 HL9.out.2.1).symm) (BBox.gro ((HX.out.2.2.2.2.1).below (HB6.out.trans (KV.mono HB6.out.size))) g5 (by omega)) (fun x2 hB6 g6=>⟨fun h=>absurd h (by simp),?_⟩)
  refine wpAnyW_done (by kernel_rfl) ?_ _
  go_wp2
  have hcc:=(hT5.gro g6 (by omega)).cells (mb:=⟨#[]⟩) HLs.out.2.2.1 rfl
  have a0:=hcc.1
  have a1:=hcc.2.1
  have a2:=hcc.2.2.1
  have a3:=hcc.2.2.2.1
  have a4:=hcc.2.2.2.2.1
  have a5:=hcc.2.2.2.2.2
  clear hcc
  have hcc:=hB6.cells HL9.out.1 HL9.out.2.1
  have s0:=hcc.1
  have s1:=hcc.2.1
  have s2:=hcc.2.2.1
  have s3:=hcc.2.2.2.1
  have s4:=hcc.2.2.2.2.1
  have s5:=hcc.2.2.2.2.2.1
  have s6:=hcc.2.2.2.2.2.2
  clear hcc
  refine bodyPost_ret (v:=.tuple #[.agg #[.int .i64 5,.string sb,.string ⟨#[]⟩,.int .u64 0,.int .i64 0,.slice A10 2 c10],.int .i64 nc,.agg #[.bool ic,.int .i64 k9,.string nb9,.string mb9,.int .u64 b9,.int .i64 v9,.slice A9 L9 c9]]) (by simp [results,Tryd.results68,go_sem,a0,a1,a2,a3,a4,a5,s0,s1,s2,s3,s4,s5,s6]) rfl ?_
  rw [←HE.out]
  exact ans_end HPP.out (HW6.out.trans (KV.mono HW6.out.size)) ⟨by omega,Nat.lt_succ_of_lt (Nat.lt_succ_self _)⟩ ⟨by omega,Nat.lt_succ_self _⟩ g5 g6 htg htb1 (by
   show _=Ending.returned (.tuple #[valT (Tm.mk 5 s [] 0 0 [(Tm.mk k6 n6 m6 b6 v6 ts6),(Tm.mk k8 n8 m8 b8 v8 ts8)]) (.slice A10 2 c10),_,badV ic (Tm.mk k9 n9 m9 b9 v9 ts9) (.slice A9 L9 c9)])
   rw [valT_mk (mb:=⟨#[]⟩) HLs.out.2.2.1 rfl,badV_mk HL9.out.1 HL9.out.2.1]
   all_goals rfl)
theorem RowP.get {w:World} {P:Nat→Prop} {A:Option Addr} {n:Nat} {ps:List (Tm × Value)} (h:RowP w P A n ps) {i:Nat} {p:Tm × Value} (hp:ps[i]?=some p) :
  ∃ g o k nl ml b v ts nb mb A' c',A=some ⟨g,o,none⟩∧p=(.mk k nl ml b v ts,.slice A' ts.length c')∧(⟨nl.toArray⟩:ByteArray)=nb∧(⟨ml.toArray⟩:ByteArray)=mb∧TAtP w P (.mk k nl ml b v ts) (.slice A' ts.length c')∧g<w.heap.size ∧
   w.cell? ⟨g,o+i * 6,none⟩=some (.int .i64 k)∧w.cell? ⟨g,o+i * 6+1,none⟩=some (.string nb)∧w.cell? ⟨g,o+i * 6+2,none⟩=some (.string mb)∧w.cell? ⟨g,o+i * 6+3,none⟩=some (.int .u64 b)∧w.cell? ⟨g,o+i * 6+4,none⟩=some (.int .i64 v)∧w.cell? ⟨g,o+i * 6+5,none⟩=some (.slice A' ts.length c'):=by
 have hi:=(List.getElem?_eq_some_iff.1 hp).1
 obtain ⟨g,o,h1,h2,h3⟩:=h.2.2 (by rw [←h.1];omega)
 have hk:=h.2.1 p (List.mem_of_getElem? hp)
 obtain ⟨t,sl⟩:=p
 obtain ⟨k,nl,ml,b,v,ts⟩:=t
 replace hk:TAtP w P (.mk k nl ml b v ts) sl:=hk
 obtain ⟨A',c',hsl,_⟩:=TAtP.iff.1 hk
 replace hsl:sl = .slice A' ts.length c':=hsl
 subst hsl
 have key:∀ j u,j<6→(cells6 (.mk k nl ml b v ts) (.slice A' ts.length c'))[j]?=some u→w.cell? ⟨g,o+(i * 6+j),none⟩=some u:=fun j u hj hu=>h3 (i * 6+j) u (by rw [fl6_get hp hj];exact hu)
 exact ⟨g,o,k,nl,ml,b,v,ts,_,_,A',c',h1,rfl,rfl,rfl,hk,h2,key 0 _ (by omega) rfl,key 1 _ (by omega) rfl,key 2 _ (by omega) rfl,key 3 _ (by omega) rfl,key 4 _ (by omega) rfl,key 5 _ (by omega) rfl⟩
theorem TAtP.str {w:World} {P:Nat→Prop} {t:Tm} {sl:Value} (h:TAtP w P t sl):∃ A c,sl = .slice A t.as.length c:=by
 obtain ⟨A,c,e,_⟩:=TAtP.iff.1 h
 exact ⟨A,c,e⟩
set_option maxRecDepth 100000 in
set_option maxHeartbeats 8000000 in
theorem Listed_any {w:World} {P:Nat→Prop} {A:Option Addr} {n c:Nat} {ps:List (Tm × Value)} {d:Tm} {sd:Value} (h:RowP w P A n ps) (hP:∀ b,P b→b<w.heap.size) (hn:n≤4000) (hd:TAtP w P d sd) :
  Calls Tryd.prog 52 #[.slice A n c,valT d sd] w fun e w'=>∃ sl,e = .returned (valT (endT (ps.map (·.1)) d) sl)∧FreshT w w' (endT (ps.map (·.1)) d) sl∧Below w.heap.size w w':=by
 obtain ⟨k2,n2,m2,b2,v2,ts2,nb2,mb2,A2,c2,rfl,rfl,hn2,hm2,_,_,_,hv2,_,_⟩:=hd.letters
 obtain ⟨L2,hL2⟩:∃ L,ts2.length=L:=⟨_,rfl⟩
 rw [valT_mk hn2 hm2]
 rw [hL2] at hd ⊢
 have hnI:(n:Int)≤4000:=by omega
 have hnI0:(0:Int)≤(n:Int):=by omega
 obtain ⟨W1,hW1⟩:∃ W,w.alloc (.cells #[.int .i64 k2,.string nb2,.string mb2,.int .u64 b2,.int .i64 v2,.slice A2 L2 c2] 25)=W:=⟨_,rfl⟩
 obtain ⟨W2,hW2⟩:∃ W,W1.alloc (.cells #[.int .i64 0,.string ⟨#[]⟩,.string ⟨#[]⟩,.int .u64 0,.int .i64 0,.slice none 0 0] 25)=W:=⟨_,rfl⟩
 have d1:Below w.heap.size w W1:=by rw [←hW1];exact (Below.refl _ _).alloc (Nat.le_refl _) _
 have s1:W1.heap.size=w.heap.size+1:=by rw [←hW1];simp
 have X1:TBox W1 w.heap.size (.mk k2 n2 m2 b2 v2 ts2) (.slice A2 L2 c2):=by rw [←hW1];exact TBox.new w hn2 hm2
 have d2:Below W1.heap.size W1 W2:=by rw [←hW2];exact (Below.refl _ _).alloc (Nat.le_refl _) _
 have s2:W2.heap.size=W1.heap.size+1:=by rw [←hW2];simp
 have X2:TBox W2 W1.heap.size zeroT (.slice none 0 0):=by rw [←hW2];exact heap_alloc_new W1 _
 rw [s1] at X2
 have HB:=Lib.hid (And.intro (d1.trans (d2.mono (by omega))) (show w.heap.size+1+1≤W2.heap.size by omega))
 have HX:=Lib.hid X2
 obtain ⟨x0,x1,x2,x3,x4,x5⟩:=(X1.below d2).cells hn2 hm2
 have HM:=Lib.hid (And.intro hn2 (And.intro hm2 hL2))
 have HR:=Lib.hid h
 have HPP:=Lib.hid hP
 have HD:=Lib.hid hd
 have HO:=Lib.hid (fresh_letters hn2 hm2 hL2 (ROwn_any (.mk k2 n2 m2 b2 v2 ts2) W2 (.slice A2 L2 c2) (((hd.below HB.out.1 hP).wide (fun b hb=>Nat.lt_of_lt_of_le (hP b hb) HB.out.1.size)))))
 rw [valT_mk hn2 hm2] at HO
 subst hW1 hW2
 clear X1 X2 d1 d2 s1 s2 h hP hd hn2 hm2 hL2 hv2
 go_enter Tryd.func52,Tryd.ntmps52
 go_upto_region 3 with (go_at_call 8;(with_reducible refine HO.out.mono ?_);rintro e u1 ⟨A3,c3,rfl,hf,hb⟩;have HV:=Lib.hid (And.intro hf hb);clear hf hb)
 have HU:=Lib.hid (show ∀ z,u1.alloc (.cells #[.int .i64 k2,.string nb2,.string mb2,.int .u64 b2,.int .i64 v2,.slice A3 L2 c3] 25)=z→Below w.heap.size w z∧TBox z u1.heap.size (.mk k2 n2 m2 b2 v2 ts2) (.slice A3 L2 c3)∧TAtP z (fun b=>w.heap.size+1+1≤b∧b<z.heap.size∧b≠u1.heap.size) (.mk k2 n2 m2 b2 v2 ts2) (.slice A3 L2 c3)∧TBox z (w.heap.size+1) zeroT (.slice none 0 0)∧w.heap.size+1+1≤u1.heap.size from fun z e=>by
  rw [←e]
  have hb:Below u1.heap.size u1 (u1.alloc (.cells #[.int .i64 k2,.string nb2,.string mb2,.int .u64 b2,.int .i64 v2,.slice A3 L2 c3] 25)):=(Below.refl _ _).alloc (Nat.le_refl _) _
  have h2:=HB.out.2
  have h3:=HV.out.2.size
  have h4:=hb.size
  have hbw:=HB.out.1.trans (HV.out.2.mono HB.out.1.size)
  refine ⟨hbw.trans (hb.mono hbw.size),TBox.new u1 HM.out.1 HM.out.2.1,TAtP.keep _ HV.out.1 (fun b hb2=>⟨⟨by omega,by omega,by omega⟩,hb.block b hb2.2⟩),(HX.out.below HV.out.2).below hb,by omega⟩)
 generalize u1.alloc (.cells #[.int .i64 k2,.string nb2,.string mb2,.int .u64 b2,.int .i64 v2,.slice A3 L2 c3] 25)=u2 at *
 replace HU:=Lib.hid (HU.out _ rfl)
 generalize u1.heap.size=G at *
 clear x0 x1 x2 x3 x4 x5 HO HV HX HB
 go_loopw [6] (fun v6 wr=>∃ j:Nat,v6 = .int .i64 ((j:Int) - 1)∧j≤n∧Hid (∃ sl,Below w.heap.size w wr∧TBox wr G (endT ((ps.drop j).map (·.1)) (.mk k2 n2 m2 b2 v2 ts2)) sl∧TAtP wr (fun b=>w.heap.size+1+1≤b∧b<wr.heap.size∧b≠G) (endT ((ps.drop j).map (·.1)) (.mk k2 n2 m2 b2 v2 ts2)) sl∧TBox wr (w.heap.size+1) zeroT (.slice none 0 0)∧w.heap.size+1+1≤G)) (fun v6 _=>(intOf v6+1).toNat)
 case atStart=>
  refine ⟨n,rfl,Nat.le_refl _,Lib.hid ⟨.slice A3 L2 c3,HU.out.1,?_⟩⟩
  rw [List.drop_of_length_le (by rw [HR.out.1];exact Nat.le_refl _)]
  exact ⟨HU.out.2.1,HU.out.2.2.1,HU.out.2.2.2⟩
 case round=>
  obtain ⟨j,rfl,hj,HI⟩:=hrel
  obtain ⟨sO,hI⟩:=HI.out
  obtain ⟨T,hT⟩:∃ T,endT ((ps.drop j).map (·.1)) (.mk k2 n2 m2 b2 v2 ts2)=T:=⟨_,rfl⟩
  rw [hT] at hI
  obtain ⟨k4,n4,m4,b4,v4,ts4⟩:=T
  obtain ⟨A4,c4,hsO⟩:=TAtP.str hI.2.2.1
  replace hsO:sO = .slice A4 ts4.length c4:=hsO
  subst hsO
  obtain ⟨nb4,hn4⟩:∃ nb:ByteArray,(⟨n4.toArray⟩:ByteArray)=nb:=⟨_,rfl⟩
  obtain ⟨mb4,hm4⟩:∃ mb:ByteArray,(⟨m4.toArray⟩:ByteArray)=mb:=⟨_,rfl⟩
  obtain ⟨L4,hL4⟩:∃ L,ts4.length=L:=⟨_,rfl⟩
  rw [hL4] at hI
  have HI2:=Lib.hid hI
  have HM4:=Lib.hid (And.intro hn4 (And.intro hm4 hL4))
  have HT:=Lib.hid hT
  clear hI HI hn4 hm4 hL4 hT
  by_cases h0:j=0
  ·subst h0
   obtain ⟨x0,x1,x2,x3,x4,x5⟩:=HI2.out.2.1.cells HM4.out.1 HM4.out.2.1
   obtain ⟨u0,u1,u2,u3,u4,u5⟩:=HI2.out.2.2.2.1.cells (nb:=⟨#[]⟩) (mb:=⟨#[]⟩) rfl rfl
   obtain ⟨z0,z1,z2,z3,z4,z5⟩:=HI2.out.2.2.2.1.frozens
   have hneg:¬(0:Int)≤((0:Nat):Int) - 1:=by omega
   go_wp2
   obtain ⟨hbx,hgr⟩:=HI2.out.2.2.2.1.set6 (k:=k4) (b:=b4) (v:=v4) ts4 (.slice A4 L4 c4) HM4.out.1 HM4.out.2.1
   obtain ⟨r0,r1,r2,r3,r4,r5⟩:=hbx.cells HM4.out.1 HM4.out.2.1
   refine bodyPost_ret (v:=.agg #[.int .i64 k4,.string nb4,.string mb4,.int .u64 b4,.int .i64 v4,.slice A4 L4 c4]) (by simp [results,Tryd.results52,go_sem,r0,r1,r2,r3,r4,r5]) rfl ⟨.slice A4 L4 c4,?_,?_,?_⟩
   ·rw [show endT (ps.map (·.1)) (.mk k2 n2 m2 b2 v2 ts2) = .mk k4 n4 m4 b4 v4 ts4 from HT.out,valT_mk HM4.out.1 HM4.out.2.1]
   ·rw [show endT (ps.map (·.1)) (.mk k2 n2 m2 b2 v2 ts2) = .mk k4 n4 m4 b4 v4 ts4 from HT.out]
    exact TAtP.keep _ HI2.out.2.2.1 (fun b hb=>⟨⟨by omega,Nat.lt_of_lt_of_le hb.2.1 hgr.size⟩,hgr.block b hb.2.1 (fun e=>by injection e with e;omega)⟩)
   ·exact HI2.out.1.grown hgr HI2.out.1.size (fun j e=>by injection e with e;omega)
  ·obtain ⟨i,rfl⟩:∃ i,j=i+1:=⟨j - 1,by omega⟩
   have hiI:(((i+1:Nat):Int) - 1)=(i:Int):=by omega
   have hi0:(0:Int)≤(i:Int):=by omega
   have hin:i<n:=by omega
   have hinI:(i:Int)<(n:Int):=by omega
   obtain ⟨p,hp⟩:∃ p,ps[i]?=some p:=⟨_,List.getElem?_eq_getElem (by rw [HR.out.1];exact hin)⟩
   obtain ⟨g,o,k',nl',ml',b',v',ts',nb',mb',A',c',rfl,hpe,hnb',hmb',hta,hg,q0,q1,q2,q3,q4,q5⟩:=HR.out.get hp
   subst hpe
   obtain ⟨L',hL'⟩:∃ L,ts'.length=L:=⟨_,rfl⟩
   rw [hL'] at q5 hta
   have hdr:ps.drop i=(.mk k' nl' ml' b' v' ts',.slice A' ts'.length c') :: ps.drop (i+1):=by rw [List.drop_eq_getElem_cons (by rw [HR.out.1];exact hin),(List.getElem?_eq_some_iff.1 hp).2]
   have HDr:=Lib.hid (show endT ((ps.drop i).map (·.1)) (.mk k2 n2 m2 b2 v2 ts2)=cmpT sDot [.mk k' nl' ml' b' v' ts',.mk k4 n4 m4 b4 v4 ts4] from by rw [hdr,←HT.out];rfl)
   have HQ:=Lib.hid (And.intro q0 (And.intro q1 (And.intro q2 (And.intro q3 (And.intro q4 q5)))))
   have HM':=Lib.hid (And.intro hnb' (And.intro hmb' hL'))
   have HTa:=Lib.hid hta
   have HG:=Lib.hid (And.intro hg hj)
   rw [hiI]
   clear hta hp hdr q0 q1 q2 q3 q4 q5 hnb' hmb' hL' hg h0 hj hiI
   go_upto_region 5 with fail
   refine wp_region_U 7 (by kernel_rfl) (fun z0 K0 hs0=>?_)
   refine tw 0 K0 (v:=?tv1) (fun w5 hS=>?ty1) ?_
   case ty1=>go_simp;rfl
   refine tw 1 K0 (v:=?tv2) (fun w5 hS=>?ty2) ?_
   case ty2=>go_simp;rfl
   refine tw 2 K0 (v:=?tv3) (fun w5 hS=>?ty3) ?_
   case ty3=>go_simp;rfl
   refine tw 3 K0 (v:=?tv4) (fun w5 hS=>?ty4) ?_
   case ty4=>have key:=fun q:Nat=>(HI2.out.1.trans (hS.mono HI2.out.1.size)).cell (p:=⟨g,q,none⟩) HG.out.1;have q0:=(key _).trans HQ.out.1;have q1:=(key _).trans HQ.out.2.1;have q2:=(key _).trans HQ.out.2.2.1;have q3:=(key _).trans HQ.out.2.2.2.1;have q4:=(key _).trans HQ.out.2.2.2.2.1;have q5:=(key _).trans HQ.out.2.2.2.2.2;clear key;go_simp;rfl
   refine tw 5 K0 (v:=?tv5) (fun w5 hS=>?ty5) ?_
   case ty5=>obtain ⟨x0,x1,x2,x3,x4,x5⟩:=(HI2.out.2.1.below hS).cells HM4.out.1 HM4.out.2.1;go_simp;rfl
   have hw0:=HI2.out.1.trans (K0.mono HI2.out.1.size)
   have hO:=fresh_letters HM'.out.1 HM'.out.2.1 HM'.out.2.2 (ROwn_any (.mk k' nl' ml' b' v' ts') z0 (.slice A' L' c') ((HTa.out.below hw0 HPP.out).wide (fun b hb=>Nat.lt_of_lt_of_le (HPP.out b hb) hw0.size)))
   rw [valT_mk HM'.out.1 HM'.out.2.1] at hO
   have HO:=Lib.hid hO
   clear hO
   refine w1 4 fun K hK=>?_
   go_simp
   (with_reducible refine HO.out.mono ?_)
   rintro e z1 ⟨A5,c5,rfl,hf,hb⟩
   have K1:=K0.trans (hb.mono K0.size)
   refine hK.out _ _ (fun _=>K1) ?_
   have hz1:=hb.size
   have hsz0:=HI2.out.1.size
   have hgl:=HI2.out.2.2.2.2
   have hGl:=HI2.out.2.1.lt
   have ha:TAtP z1 (fun b=>w.heap.size+1+1≤b∧b<z1.heap.size∧b≠G) (.mk k' nl' ml' b' v' ts') (.slice A5 L' c5):=hf.wide (fun b h=>⟨by omega,h.2,by omega⟩)
   have hb4:TAtP z1 (fun b=>w.heap.size+1+1≤b∧b<z1.heap.size∧b≠G) (.mk k4 n4 m4 b4 v4 ts4) (.slice A4 L4 c4):=TAtP.keep _ HI2.out.2.2.1 (fun b h=>⟨⟨h.1,by omega,h.2.2⟩,K1.block b h.2.1⟩)
   have hF:=F2_any ha hb4 (fun b h=>h.2.1) ⟨#[46]⟩ (by decide)
   rw [valT_mk HM'.out.1 HM'.out.2.1,valT_mk HM4.out.1 HM4.out.2.1] at hF
   have HF:=Lib.hid hF
   clear hF ha hb4 hf
   refine w1 6 fun K hK=>?_
   go_simp
   (with_reducible refine HF.out.mono ?_)
   rintro e z2 ⟨A6,c6,rfl,ht,hb2⟩
   have K2:=K1.trans (hb2.mono K1.size)
   refine hK.out _ _ (fun _=>K2) ?_
   have hbG:=HI2.out.2.1.below K2
   obtain ⟨x0,x1,x2,x3,x4,x5⟩:=hbG.cells HM4.out.1 HM4.out.2.1
   obtain ⟨s0,s1,s2,s3,s4,s5⟩:=hbG.frozens
   refine w1 7 fun K hK=>?_
   go_simp
   clear x0 x1 x2 x3 x4 x5 s0 s1 s2 s3 s4 s5
   have h5:=hbG.set6 (k:=5) (b:=0) (v:=0) (n:=sDot) (m:=[]) [.mk k' nl' ml' b' v' ts',.mk k4 n4 m4 b4 v4 ts4] (.slice A6 2 c6) (nb:=⟨#[46]⟩) (mb:=⟨#[]⟩) rfl rfl
   generalize (((((z2.setCell ⟨G,0,none⟩ (.int .i64 5)).setCell ⟨G,1,none⟩ (.string ⟨#[46]⟩)).setCell ⟨G,2,none⟩ (.string ⟨#[]⟩)).setCell ⟨G,3,none⟩ (.int .u64 0)).setCell ⟨G,4,none⟩ (.int .i64 0)).setCell ⟨G,5,none⟩ (.slice A6 2 c6)=z3 at *
   refine hK.out _ _ (fun h=>absurd h (by simp)) ?_
   refine wpAnyW_done (by kernel_rfl) ?_ _
   have hsz3:=h5.2.size
   have hsz2:=hb2.size
   have HE:=Lib.hid (show ∃ sl,Below w.heap.size w z3∧TBox z3 G (endT ((ps.drop i).map (·.1)) (.mk k2 n2 m2 b2 v2 ts2)) sl∧TAtP z3 (fun b=>w.heap.size+1+1≤b∧b<z3.heap.size∧b≠G) (endT ((ps.drop i).map (·.1)) (.mk k2 n2 m2 b2 v2 ts2)) sl∧TBox z3 (w.heap.size+1) zeroT (.slice none 0 0)∧w.heap.size+1+1≤G from by
    rw [HDr.out]
    refine ⟨.slice A6 2 c6,(HI2.out.1.trans (K2.mono hsz0)).grown h5.2 (by have:=K2.size;omega) (fun j e=>by injection e with e;omega),h5.1,TAtP.keep _ ht (fun b h=>?_),(HI2.out.2.2.2.1.below K2).gro h5.2 (by omega),hgl⟩
    have hb3:w.heap.size+1+1≤b∧b<z2.heap.size∧b≠G:=by
     rcases h with h | h
     ·exact ⟨h.1,by omega,h.2.2⟩
     ·exact ⟨by omega,h.2,by omega⟩
    exact ⟨⟨hb3.1,by omega,hb3.2.2⟩,h5.2.block b hb3.2.1 (fun e=>by injection e with e;exact hb3.2.2 e)⟩)
   clear ht hb hb2 K0 K1 K2 hs0 hbG h5 hw0 HF HO hz1 hsz0 hgl hGl hsz3 hsz2
   go_wp2
   go_roundw
   case rel=>exact ⟨i,rfl,by have:=HG.out.2;omega,HE⟩
   case measure=>
    show ((i:Int) - 1+1).toNat<((i:Int)+1).toNat
    omega
end Go.Proofs.YtgfeainpeplphaaDoor
