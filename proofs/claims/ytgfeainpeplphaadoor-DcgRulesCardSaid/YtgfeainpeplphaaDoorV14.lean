import Derived.Test.YtgfeainpeplphaaDoorV2
import Derived.Test.YtgfeainpeplphaaDoorV8
import Derived.Test.YtgfeainpeplphaaDoorV9
import Derived.Test.YtgfeainpeplphaaDoorV0
set_option maxRecDepth 1000000
set_option maxHeartbeats 64000000
set_option linter.unusedVariables false
set_option linter.unusedSimpArgs false
namespace Go.Proofs.YtgfeainpeplphaaDoor
open Go.RowKit Hb Ht
attribute [local go_sem] Oper.semAt_some
def WrongOk (w:World) (ev:Value) (N:Int) (i:Bool) (b:Tm):Prop:=
 (N≠0∧ev = .iface 32 (.int .i64 N))∨(N=0∧i=true∧∃ bb,ev = .iface 82 (.pointer (some ⟨bb,0,none⟩))∧BallAt w bb b)∨(N=0∧i=false∧ev = .nilIface)
theorem BallAt.below {w w':World} {bb:Nat} {t:Tm} (h:BallAt w bb t) (hb:Below w.heap.size w w'):BallAt w' bb t:=by
 obtain ⟨sl,h1,h2⟩:=h
 exact ⟨sl,(hb.block bb (Array.getElem?_eq_some_iff.1 h1).1).trans h1,h2.to hb hb.size⟩
theorem WrongOk.below {w w':World} {ev:Value} {N:Int} {i:Bool} {b:Tm} (h:WrongOk w ev N i b) (hb:Below w.heap.size w w'):WrongOk w' ev N i b:=by
 rcases h with h | ⟨h1,h2,bb,h3,h4⟩ | h
 ·exact .inl h
 ·exact .inr (.inl ⟨h1,h2,bb,h3,h4.below hb⟩)
 ·exact .inr (.inr h)
theorem BallAt.cells {w:World} {bb:Nat} {k v b:Int} {n m:List UInt8} {ts:List Tm} {nb mb:ByteArray} {L:Nat} (h:BallAt w bb (.mk k n m b v ts)) (hn:(⟨n.toArray⟩:ByteArray)=nb) (hm:(⟨m.toArray⟩:ByteArray)=mb) (hL:ts.length=L):∃ A c,TAt w w.heap.size (.mk k n m b v ts) (.slice A L c)∧bb<w.heap.size ∧
  Q6 w bb k nb mb b v (.slice A L c):=by
 obtain ⟨sl,h,ht⟩:=h
 obtain ⟨A,c,rfl⟩:=TAtP.sl hL ht
 subst hn hm
 refine ⟨A,c,ht,(Array.getElem?_eq_some_iff.1 h).1,?_,?_,?_,?_,?_,?_⟩ <;> (rw [cell_of_row w bb _ _ _ (0,0) h];rfl)
theorem wrong_any {w:World} {ev:Value} {N:Int} {i:Bool} {k v b:Int} {n m:List UInt8} {ts:List Tm} {nb mb:ByteArray} {A:Option Addr} {L c:Nat} (hn:(⟨n.toArray⟩:ByteArray)=nb) (hm:(⟨m.toArray⟩:ByteArray)=mb) (hW:WrongOk w ev N i (.mk k n m b v ts)) (ht:TAt w w.heap.size (.mk k n m b v ts) (.slice A L c)) :
  Calls Tryd.prog 14 #[ev,.int .i64 N,.agg #[.bool i,.int .i64 k,.string nb,.string mb,.int .u64 b,.int .i64 v,.slice A L c]] w fun e w'=>e = .returned (.bool true)∧Below w.heap.size w w':=by
 have hL:ts.length=L:=by
  obtain ⟨A',c',e,_⟩:=TAtP.iff.1 ht
  injection e with e1 e2 e3
  exact e2.symm
 obtain ⟨W1,hW1⟩:∃ W,w.alloc (.cells #[.bool i,.int .i64 k,.string nb,.string mb,.int .u64 b,.int .i64 v,.slice A L c] 35)=W:=⟨_,rfl⟩
 have d1:Below w.heap.size w W1:=by rw [←hW1];exact Qb
 have s1:W1.heap.size=w.heap.size+1:=by rw [←hW1];simp
 have X1:BBox W1 w.heap.size i (.mk k n m b v ts) (.slice A L c):=by rw [←hW1];exact BBox.new w hn hm
 have hb0:Below w.heap.size w W1:=d1
 have hsz0:W1.heap.size=w.heap.size+1:=by omega
 have HX:=Qh (Qa X1 (Qa hb0 hsz0))
 subst hW1
 clear X1 d1 s1 hb0 hsz0
 have HM:=Qh (Qa hn (Qa hm hL))
 have HT:=Qh ht
 clear hn hm hL ht
 rcases hW with ⟨hN,rfl⟩ | ⟨rfl,rfl,bb,rfl,hball⟩ | ⟨rfl,rfl,rfl⟩
 ·have ha:∀ (W:World) (v:Value),(Instr.typeAssert (.iface 32 v) 29 32 true).run Tryd.prog W = .ok (.tuple #[v,.bool true]) W:=fun W v=>by kernel_rfl
  have hNb:(N != 0)=true:=by simpa using hN
  clear hN
  go_enter Tryd.func14,Tryd.ntmps14
  go_wp2
  go_ret
  exact ⟨rfl,HX.out.2.1⟩
 ·have ha:∀ (W:World) (v:Value),(Instr.typeAssert (.iface 82 v) 29 82 true).run Tryd.prog W = .ok (.tuple #[v,.bool true]) W:=fun W v=>by kernel_rfl
  have hbx:=HX.out.1
  obtain ⟨p0,p1,p2,p3,p4,p5,p6⟩:=hbx.cells HM.out.1 HM.out.2.1
  clear hbx
  have HBa:=Qh hball
  clear hball
  go_enter Tryd.func14,Tryd.ntmps14
  go_upto_region 6 with fail
  clear p0 p1 p2 p3 p4 p5 p6 ha
  generalize (w.alloc (.cells #[.bool true,.int .i64 k,.string nb,.string mb,.int .u64 b,.int .i64 v,.slice A L c] 35))=u0 at *
  have HKb:=Qh (HBa.out.below HX.out.2.1)
  obtain ⟨A9,c9,ht9,hlt9,e0,e1,e2,e3,e4,e5⟩:=HKb.out.cells HM.out.1 HM.out.2.1 HM.out.2.2
  have HT9:=Qh ht9
  have HL9:=Qh hlt9
  have HE:=Qh (Qa e0 (Qa e1 (Qa e2 (Qa e3 (Qa e4 e5)))))
  clear e0 e1 e2 e3 e4 e5 ht9 hlt9 HKb HBa
  refine wp_region_U 14 (by kernel_rfl) (fun z0 K0 hs0=>?_)
  refine tkW 0 (v:=?tv9) K0 rfl (by kernel_rfl) ?tq9 (by kernel_rfl) (fun w5 hS=>?ty9) ?_
  case ty9=>go_simp;rfl
  case tq9=>exact fun _ _ _ h=>h
  refine tkW 1 (v:=?tv10) K0 rfl (by kernel_rfl) ?tq10 (by kernel_rfl) (fun w5 hS=>?ty10) ?_
  case ty10=>go_simp;rfl
  case tq10=>exact fun _ _ _ h=>h
  refine tkW 2 (v:=?tv11) K0 rfl (by kernel_rfl) ?tq11 (by kernel_rfl) (fun w5 hS=>?ty11) ?_
  case ty11=>go_simp;rfl
  case tq11=>exact fun _ _ _ h=>h
  refine tkW 3 (v:=?tv12) K0 rfl (by kernel_rfl) ?tq12 (by kernel_rfl) (fun w5 hS=>?ty12) ?_
  case ty12=>go_simp;rfl
  case tq12=>exact fun _ _ _ h=>h
  refine tkW 4 (v:=?tv13) K0 rfl (by kernel_rfl) ?tq13 (by kernel_rfl) (fun w5 hS=>?ty13) ?_
  case ty13=>go_simp;rfl
  case tq13=>exact fun _ _ _ h=>h
  refine tkW 5 (v:=?tv14) K0 rfl (by kernel_rfl) ?tq14 (by kernel_rfl) (fun w5 hS=>?ty14) ?_
  case ty14=>go_simp;rfl
  case tq14=>exact fun _ _ _ h=>h
  refine tkW 6 (v:=?tv15) K0 rfl (by kernel_rfl) ?tq15 (by kernel_rfl) (fun w5 hS=>?ty15) ?_
  case ty15=>go_simp;rfl
  case tq15=>exact fun _ _ _ h=>h
  refine tkW 7 (v:=?tv16) K0 rfl (by kernel_rfl) ?tq16 (by kernel_rfl) (fun w5 hS=>?ty16) ?_
  case ty16=>go_simp;rfl
  case tq16=>exact fun _ _ _ h=>h
  refine tkW 8 (v:=?tv17) K0 rfl (by kernel_rfl) ?tq17 (by kernel_rfl) (fun w5 hS=>?ty17) ?_
  case ty17=>go_simp;rfl
  case tq17=>exact fun _ _ _ h=>h
  refine tkW 9 (v:=?tv18) K0 rfl (by kernel_rfl) ?tq18 (by kernel_rfl) (fun w5 hS=>?ty18) ?_
  case ty18=>have key:=fun q:Nat=>hS.cell (p:=⟨bb,q,none⟩) HL9.out;have e0:=(key _).trans HE.out.1;have e1:=(key _).trans HE.out.2.1;have e2:=(key _).trans HE.out.2.2.1;have e3:=(key _).trans HE.out.2.2.2.1;have e4:=(key _).trans HE.out.2.2.2.2.1;have e5:=(key _).trans HE.out.2.2.2.2.2;clear key;go_simp;rfl
  case tq18=>exact fun _ _ _ h=>h
  refine tkW 10 (v:=?tv19) K0 rfl (by kernel_rfl) ?tq19 (by kernel_rfl) (fun w5 hS=>?ty19) ?_
  case ty19=>go_simp;rfl
  case tq19=>exact fun _ _ _ h=>h
  refine tkW 11 (v:=?tv20) K0 rfl (by kernel_rfl) ?tq20 (by kernel_rfl) (fun w5 hS=>?ty20) ?_
  case ty20=>obtain ⟨p0,p1,p2,p3,p4,p5,p6⟩:=(HX.out.1.below hS).cells HM.out.1 HM.out.2.1;go_simp;rfl
  case tq20=>exact fun _ _ _ h=>h
  refine w1 12 fun K hK=>?_
  have hS:=Same_any (.mk k n m b v ts) z0 (.slice A9 L c9) (.slice A L c) (HT9.out.to K0 K0.size) (HT.out.to (Qt HX.out.2.1 K0) (Qt HX.out.2.1 K0).size)
  rw [valT_mk (sl:=.slice A9 L c9) HM.out.1 HM.out.2.1,valT_mk (sl:=.slice A L c) HM.out.1 HM.out.2.1] at hS
  have HS:=Qh hS
  clear hS
  go_simp
  (with_reducible refine HS.out.mono ?_)
  rintro e z1 ⟨rfl,hb⟩
  have K1:=Qt K0 hb
  refine hK.out _ _ (fun _=>K1) ?_
  refine w1 13 fun K hK=>?_
  go_simp
  refine hK.out _ _ (fun _=>K1) ?_
  refine w1 14 fun K hK=>?_
  go_simp
  refine hK.out _ _ (fun h=>absurd h (by simp)) ?_
  refine wpAnyW_done (by kernel_rfl) ?_ _
  have HB4:=Qh (Qt HX.out.2.1 K1)
  clear K0 K1 hb hs0 HS HE
  go_wp2
  go_ret
  exact ⟨rfl,HB4.out⟩
 ·have hbx:=HX.out.1
  obtain ⟨p0,p1,p2,p3,p4,p5,p6⟩:=hbx.cells HM.out.1 HM.out.2.1
  clear hbx
  go_enter Tryd.func14,Tryd.ntmps14
  go_wp2
  go_ret
  exact ⟨rfl,HX.out.2.1⟩
theorem Rule_okL {w0 w:World} {t:Tm} {st:Value} {k v b:Int} {n m:List UInt8} {ts:List Tm} {nb mb:ByteArray} {q:Nat} (h1:TAt w w.heap.size t st) (hU:UOk w0 w) (hcs:checkP t=0) (hh:highB t=false) (hn:(⟨n.toArray⟩:ByteArray)=nb) (hm:(⟨m.toArray⟩:ByteArray)=mb) (hq:ts.length=q) (hr:ruleT t = .ok (.mk k n m b v ts)) :
  Calls Tryd.prog 9 #[valT t st] w fun e w'=>∃ A c,e = .returned (.tuple #[.agg (Q5 k nb mb b v (.slice A q c)),.nilIface])∧TOwn w' (.mk k n m b v ts) (.slice A q c) w.heap.size w'.heap.size∧Below w.heap.size w w':=by
 refine (Rule_main h1 hU hcs).mono ?_
 rintro e w' (⟨h,_⟩ | ⟨_,hb,h⟩)
 ·rw [hh] at h;cases h
 ·rw [hr] at h
  obtain ⟨sg,rfl,ho⟩:=h
  obtain ⟨_,_,_,A,c,hs,_⟩:=TOwn.iff.1 ho
  change sg = .slice A ts.length c at hs
  rw [hq] at hs
  subst hs
  exact ⟨A,c,by rw [valT_mk hn hm],ho,hb⟩
theorem Rule_badL {w0 w:World} {t g:Tm} {st:Value} (h1:TAt w w.heap.size t st) (hU:UOk w0 w) (hcs:checkP t=0) (hh:highB t=false) (hr:ruleT t = .error g) :
  Calls Tryd.prog 9 #[valT t st] w fun e w'=>∃ bb,e = .returned (.tuple #[zeroTV,.iface 82 (.pointer (some ⟨bb,0,none⟩))])∧BallAt w' bb g∧Below w.heap.size w w':=by
 refine (Rule_main h1 hU hcs).mono ?_
 rintro e w' (⟨h,_⟩ | ⟨_,hb,h⟩)
 ·rw [hh] at h;cases h
 ·rw [hr] at h
  obtain ⟨bb,rfl,hball⟩:=h
  exact ⟨bb,rfl,hball,hb⟩
theorem Body_okL {w0 w:World} {t f d:Tm} {st sf sd:Value} {nx n' k v b:Int} {n m:List UInt8} {ts:List Tm} {nb mb:ByteArray} {q:Nat} (h1:TAt w w.heap.size t st) (h2:TAt w w.heap.size f sf) (h3:TAt w w.heap.size d sd) (hU:UOk w0 w) (hcs:checksP [t,f,d]=0) (hc:0≤nx∧nx≤4611686018427387904) (hn:(⟨n.toArray⟩:ByteArray)=nb) (hm:(⟨m.toArray⟩:ByteArray)=mb) (hq:ts.length=q) (hr:bodyT t f d nx = .ok (.mk k n m b v ts,n')) :
  Calls Tryd.prog 16 #[valT t st,valT f sf,valT d sd,.int .i64 nx] w fun e w'=>∃ A c,e = .returned (.tuple #[.agg (Q5 k nb mb b v (.slice A q c)),.int .i64 n',.nilIface])∧TOwn w' (.mk k n m b v ts) (.slice A q c) w.heap.size w'.heap.size∧Below w.heap.size w w':=by
 refine (Body_main h1 h2 h3 hU hcs hc).mono ?_
 rintro e w' ⟨hb,h⟩
 rw [hr] at h
 obtain ⟨sg,rfl,ho⟩:=h
 obtain ⟨_,_,_,A,c,hs,_⟩:=TOwn.iff.1 ho
 change sg = .slice A ts.length c at hs
 rw [hq] at hs
 subst hs
 exact ⟨A,c,by rw [valT_mk hn hm],ho,hb⟩
theorem TOwn.new {w:World} {t:Tm} {sl:Value} {lo:Nat} (h:TOwn w t sl lo w.heap.size):TAt w w.heap.size t sl:=(TOwn.atP t h).wide (fun b hb=>hb.2)
theorem aw1:ruleT (cmpT [45,45,62] [(atomT [97]),(cmpT [44] [(atomT [98]),(atomT [99])])]) = .ok (cmpT [58,45] [(cmpT [97] [(varT 0),(varT 1)]),(cmpT [44] [(cmpT [98] [(varT 0),(varT 2)]),(cmpT [99] [(varT 2),(varT 1)])])]):=by rfl
theorem aw2:ruleT (cmpT [45,45,62] [(varT 0),(atomT [98])]) = .error (atomT sInst):=by rfl
theorem aw3:bodyT (cmpT [46] [(atomT [120]),(atomT [91,93])]) (varT 4) (varT 5) 6 = .ok ((cmpT [61] [(varT 4),(cmpT [46] [(atomT [120]),(varT 5)])]),6):=by rfl
theorem awc1:checkP (cmpT [45,45,62] [(atomT [97]),(cmpT [44] [(atomT [98]),(atomT [99])])])=0:=by decide +kernel
theorem awc2:checkP (cmpT [45,45,62] [(varT 0),(atomT [98])])=0:=by decide +kernel
theorem awc3:checksP [(cmpT [46] [(atomT [120]),(atomT [91,93])]),varT 4,varT 5]=0:=by decide +kernel
theorem awh1:highB (cmpT [45,45,62] [(atomT [97]),(cmpT [44] [(atomT [98]),(atomT [99])])])=false:=by decide +kernel
theorem awh2:highB (cmpT [45,45,62] [(varT 0),(atomT [98])])=false:=by decide +kernel
theorem awake_any {w0 w:World} (hU:UOk w0 w):Calls Tryd.prog 7 #[] w fun e w'=>e = .returned (.bool true)∧Below w.heap.size w w':=by
 have HU:=Qh hU
 have KK:=Qh (Below.refl w.heap.size w)
 clear hU
 go_enter Tryd.func7,Tryd.ntmps7
 go_wp2_with fail
 (with_reducible refine (latom_any _ _).mono ?_)
 rintro e v1 ⟨rfl,hb⟩
 replace KK:=Qh (Qt KK.out hb)
 clear hb
 go_wp2_with fail
 (with_reducible refine (latom_any _ _).mono ?_)
 rintro e v2 ⟨rfl,hb⟩
 replace KK:=Qh (Qt KK.out hb)
 clear hb
 go_wp2_with fail
 (with_reducible refine (latom_any _ _).mono ?_)
 rintro e v3 ⟨rfl,hb⟩
 replace KK:=Qh (Qt KK.out hb)
 clear hb
 go_wp2_with fail
 have hbA:Below v3.heap.size v3 (v3.alloc (.cells #[.int .i64 2,.string ⟨#[98]⟩,.string ⟨#[]⟩,.int .u64 0,.int .i64 0,.slice none 0 0,.int .i64 2,.string ⟨#[99]⟩,.string ⟨#[]⟩,.int .u64 0,.int .i64 0,.slice none 0 0] 25)):=Qb
 have hbu:=built (w:=v3) (P:=fun b=>b<v3.heap.size) (s:=[44]) (n:=2) (cs:=#[.int .i64 2,.string ⟨#[98]⟩,.string ⟨#[]⟩,.int .u64 0,.int .i64 0,.slice none 0 0,.int .i64 2,.string ⟨#[99]⟩,.string ⟨#[]⟩,.int .u64 0,.int .i64 0,.slice none 0 0]) (ps:=[((atomT [98]),Value.slice none 0 0),((atomT [99]),Value.slice none 0 0)]) rfl rfl (mem2 (atom_at _ _ (by decide)) (atom_at _ _ (by decide))) (fun b hb=>hb) (by unfold maxArgs;omega) (by decide)
 have HBA:=Qh (Qa hbA (Qa hbu (show (v3.alloc (.cells #[.int .i64 2,.string ⟨#[98]⟩,.string ⟨#[]⟩,.int .u64 0,.int .i64 0,.slice none 0 0,.int .i64 2,.string ⟨#[99]⟩,.string ⟨#[]⟩,.int .u64 0,.int .i64 0,.slice none 0 0] 25)).heap.size=v3.heap.size+1 by simp)))
 clear hbA hbu
 replace KK:=Qh (Qt KK.out HBA.out.1)
 generalize (v3.alloc (.cells #[.int .i64 2,.string ⟨#[98]⟩,.string ⟨#[]⟩,.int .u64 0,.int .i64 0,.slice none 0 0,.int .i64 2,.string ⟨#[99]⟩,.string ⟨#[]⟩,.int .u64 0,.int .i64 0,.slice none 0 0] 25))=v4 at *
 generalize v3.heap.size=q1 at *
 (with_reducible refine (lf_any _ _ _ _ _).mono ?_)
 rintro e v5 ⟨rfl,hb⟩
 have HT1:=Qh (show TAt v5 v5.heap.size (cmpT [44] [(atomT [98]),(atomT [99])]) (.slice (some ⟨q1,0,none⟩) 2 2) from TAt.any HBA.out.2.1 (fun b hb=>by have:=HBA.out.2.2;rcases hb with hb | hb <;> omega) hb)
 replace KK:=Qh (Qt KK.out hb)
 clear hb HBA
 go_wp2_with fail
 have hbA:Below v5.heap.size v5 (v5.alloc (.cells #[.int .i64 2,.string ⟨#[97]⟩,.string ⟨#[]⟩,.int .u64 0,.int .i64 0,.slice none 0 0,.int .i64 5,.string ⟨#[44]⟩,.string ⟨#[]⟩,.int .u64 0,.int .i64 0,.slice (some ⟨q1,0,none⟩) 2 2] 25)):=Qb
 have hbu:=built (w:=v5) (P:=fun b=>b<v5.heap.size) (s:=[45,45,62]) (n:=2) (cs:=#[.int .i64 2,.string ⟨#[97]⟩,.string ⟨#[]⟩,.int .u64 0,.int .i64 0,.slice none 0 0,.int .i64 5,.string ⟨#[44]⟩,.string ⟨#[]⟩,.int .u64 0,.int .i64 0,.slice (some ⟨q1,0,none⟩) 2 2]) (ps:=[((atomT [97]),Value.slice none 0 0),((cmpT [44] [(atomT [98]),(atomT [99])]),Value.slice (some ⟨q1,0,none⟩) 2 2)]) rfl rfl (mem2 (atom_at _ _ (by decide)) (HT1.out)) (fun b hb=>hb) (by unfold maxArgs;omega) (by decide)
 have HBA:=Qh (Qa hbA (Qa hbu (show (v5.alloc (.cells #[.int .i64 2,.string ⟨#[97]⟩,.string ⟨#[]⟩,.int .u64 0,.int .i64 0,.slice none 0 0,.int .i64 5,.string ⟨#[44]⟩,.string ⟨#[]⟩,.int .u64 0,.int .i64 0,.slice (some ⟨q1,0,none⟩) 2 2] 25)).heap.size=v5.heap.size+1 by simp)))
 clear hbA hbu
 clear HT1
 replace KK:=Qh (Qt KK.out HBA.out.1)
 generalize (v5.alloc (.cells #[.int .i64 2,.string ⟨#[97]⟩,.string ⟨#[]⟩,.int .u64 0,.int .i64 0,.slice none 0 0,.int .i64 5,.string ⟨#[44]⟩,.string ⟨#[]⟩,.int .u64 0,.int .i64 0,.slice (some ⟨q1,0,none⟩) 2 2] 25))=v6 at *
 generalize v5.heap.size=q2 at *
 (with_reducible refine (lf_any _ _ _ _ _).mono ?_)
 rintro e v7 ⟨rfl,hb⟩
 have HT2:=Qh (show TAt v7 v7.heap.size (cmpT [45,45,62] [(atomT [97]),(cmpT [44] [(atomT [98]),(atomT [99])])]) (.slice (some ⟨q2,0,none⟩) 2 2) from TAt.any HBA.out.2.1 (fun b hb=>by have:=HBA.out.2.2;rcases hb with hb | hb <;> omega) hb)
 replace KK:=Qh (Qt KK.out hb)
 clear hb HBA
 go_wp2_with fail
 have hR:=Rule_okL (w0:=w0) (nb:=⟨#[58,45]⟩) (mb:=⟨#[]⟩) (q:=2) HT2.out (HU.out.below KK.out) awc1 awh1 rfl rfl rfl aw1
 rw [show valT (cmpT [45,45,62] [(atomT [97]),(cmpT [44] [(atomT [98]),(atomT [99])])]) (.slice (some ⟨q2,0,none⟩) 2 2) = .agg (Qn 5 ⟨#[45,45,62]⟩ (.slice (some ⟨q2,0,none⟩) 2 2)) from rfl] at hR
 (with_reducible refine hR.mono ?_)
 rintro e x1 ⟨A1,c1,rfl,ho,hb⟩
 have HA1:=Qh (show TAt x1 x1.heap.size (cmpT [58,45] [(cmpT [97] [(varT 0),(varT 1)]),(cmpT [44] [(cmpT [98] [(varT 0),(varT 2)]),(cmpT [99] [(varT 2),(varT 1)])])]) (.slice A1 2 c1) from TOwn.new ho)
 clear hR ho HT2
 replace KK:=Qh (Qt KK.out hb)
 clear hb
 go_upto_region 2 with fail
 have hbA:Below x1.heap.size x1 (x1.alloc (.cells (Qn 5 ⟨#[58,45]⟩ (.slice A1 2 c1)) 25)):=Qb
 have HX1:=Qh (show TBox (x1.alloc (.cells (Qn 5 ⟨#[58,45]⟩ (.slice A1 2 c1)) 25)) x1.heap.size (cmpT [58,45] [(cmpT [97] [(varT 0),(varT 1)]),(cmpT [44] [(cmpT [98] [(varT 0),(varT 2)]),(cmpT [99] [(varT 2),(varT 1)])])]) (.slice A1 2 c1) from TBox.new x1 rfl rfl)
 replace HA1:=Qh (TAt.any HA1.out (fun b hb=>hb) hbA)
 replace KK:=Qh (Qt KK.out hbA)
 clear hbA
 generalize (x1.alloc (.cells (Qn 5 ⟨#[58,45]⟩ (.slice A1 2 c1)) 25))=v8 at *
 generalize x1.heap.size=g1 at *
 go_wp2_with fail
 (with_reducible refine (lv_any _ _).mono ?_)
 rintro e v9 ⟨rfl,hb⟩
 replace HA1:=Qh (TAt.any HA1.out (fun b hb=>hb) hb)
 replace HX1:=Qh (HX1.out.below (hb))
 replace KK:=Qh (Qt KK.out hb)
 clear hb
 go_wp2_with fail
 (with_reducible refine (latom_any _ _).mono ?_)
 rintro e v10 ⟨rfl,hb⟩
 replace HA1:=Qh (TAt.any HA1.out (fun b hb=>hb) hb)
 replace HX1:=Qh (HX1.out.below (hb))
 replace KK:=Qh (Qt KK.out hb)
 clear hb
 go_wp2_with fail
 have hbA:Below v10.heap.size v10 (v10.alloc (.cells #[.int .i64 1,.string ⟨#[]⟩,.string ⟨#[]⟩,.int .u64 0,.int .i64 0,.slice none 0 0,.int .i64 2,.string ⟨#[98]⟩,.string ⟨#[]⟩,.int .u64 0,.int .i64 0,.slice none 0 0] 25)):=Qb
 have hbu:=built (w:=v10) (P:=fun b=>b<v10.heap.size) (s:=[45,45,62]) (n:=2) (cs:=#[.int .i64 1,.string ⟨#[]⟩,.string ⟨#[]⟩,.int .u64 0,.int .i64 0,.slice none 0 0,.int .i64 2,.string ⟨#[98]⟩,.string ⟨#[]⟩,.int .u64 0,.int .i64 0,.slice none 0 0]) (ps:=[((varT 0),Value.slice none 0 0),((atomT [98]),Value.slice none 0 0)]) rfl rfl (mem2 (var_at _ _ ⟨by omega,by omega⟩) (atom_at _ _ (by decide))) (fun b hb=>hb) (by unfold maxArgs;omega) (by decide)
 have HBA:=Qh (Qa hbA (Qa hbu (show (v10.alloc (.cells #[.int .i64 1,.string ⟨#[]⟩,.string ⟨#[]⟩,.int .u64 0,.int .i64 0,.slice none 0 0,.int .i64 2,.string ⟨#[98]⟩,.string ⟨#[]⟩,.int .u64 0,.int .i64 0,.slice none 0 0] 25)).heap.size=v10.heap.size+1 by simp)))
 clear hbA hbu
 replace HA1:=Qh (TAt.any HA1.out (fun b hb=>hb) HBA.out.1)
 replace HX1:=Qh (HX1.out.below (HBA.out.1))
 replace KK:=Qh (Qt KK.out HBA.out.1)
 generalize (v10.alloc (.cells #[.int .i64 1,.string ⟨#[]⟩,.string ⟨#[]⟩,.int .u64 0,.int .i64 0,.slice none 0 0,.int .i64 2,.string ⟨#[98]⟩,.string ⟨#[]⟩,.int .u64 0,.int .i64 0,.slice none 0 0] 25))=v11 at *
 generalize v10.heap.size=q3 at *
 (with_reducible refine (lf_any _ _ _ _ _).mono ?_)
 rintro e v12 ⟨rfl,hb⟩
 have HT3:=Qh (show TAt v12 v12.heap.size (cmpT [45,45,62] [(varT 0),(atomT [98])]) (.slice (some ⟨q3,0,none⟩) 2 2) from TAt.any HBA.out.2.1 (fun b hb=>by have:=HBA.out.2.2;rcases hb with hb | hb <;> omega) hb)
 replace HA1:=Qh (TAt.any HA1.out (fun b hb=>hb) hb)
 replace HX1:=Qh (HX1.out.below (hb))
 replace KK:=Qh (Qt KK.out hb)
 clear hb HBA
 go_wp2_with fail
 have hR:=Rule_badL (w0:=w0) HT3.out (HU.out.below KK.out) awc2 awh2 aw2
 rw [show valT (cmpT [45,45,62] [(varT 0),(atomT [98])]) (.slice (some ⟨q3,0,none⟩) 2 2) = .agg (Qn 5 ⟨#[45,45,62]⟩ (.slice (some ⟨q3,0,none⟩) 2 2)) from rfl,show zeroTV = .agg Qz from rfl] at hR
 (with_reducible refine hR.mono ?_)
 rintro e x2 ⟨bb,rfl,hball,hb⟩
 clear hR hball HT3
 replace HA1:=Qh (TAt.any HA1.out (fun b hb=>hb) hb)
 replace HX1:=Qh (HX1.out.below (hb))
 replace KK:=Qh (Qt KK.out hb)
 clear hb
 go_upto_region 3 with fail
 have hbA:Below x2.heap.size x2 (x2.alloc (.cells Qz 25)):=Qb
 replace HA1:=Qh (TAt.any HA1.out (fun b hb=>hb) hbA)
 replace HX1:=Qh (HX1.out.below (hbA))
 replace KK:=Qh (Qt KK.out hbA)
 clear hbA
 generalize (x2.alloc (.cells Qz 25))=x3 at *
 go_wp2_with fail
 (with_reducible refine (latom_any _ _).mono ?_)
 rintro e v13 ⟨rfl,hb⟩
 replace HA1:=Qh (TAt.any HA1.out (fun b hb=>hb) hb)
 replace HX1:=Qh (HX1.out.below (hb))
 replace KK:=Qh (Qt KK.out hb)
 clear hb
 go_wp2_with fail
 (with_reducible refine (latom_any _ _).mono ?_)
 rintro e v14 ⟨rfl,hb⟩
 replace HA1:=Qh (TAt.any HA1.out (fun b hb=>hb) hb)
 replace HX1:=Qh (HX1.out.below (hb))
 replace KK:=Qh (Qt KK.out hb)
 clear hb
 go_wp2_with fail
 have hbA:Below v14.heap.size v14 (v14.alloc (.cells #[.int .i64 2,.string ⟨#[120]⟩,.string ⟨#[]⟩,.int .u64 0,.int .i64 0,.slice none 0 0,.int .i64 2,.string ⟨#[91,93]⟩,.string ⟨#[]⟩,.int .u64 0,.int .i64 0,.slice none 0 0] 25)):=Qb
 have hbu:=built (w:=v14) (P:=fun b=>b<v14.heap.size) (s:=[46]) (n:=2) (cs:=#[.int .i64 2,.string ⟨#[120]⟩,.string ⟨#[]⟩,.int .u64 0,.int .i64 0,.slice none 0 0,.int .i64 2,.string ⟨#[91,93]⟩,.string ⟨#[]⟩,.int .u64 0,.int .i64 0,.slice none 0 0]) (ps:=[((atomT [120]),Value.slice none 0 0),((atomT [91,93]),Value.slice none 0 0)]) rfl rfl (mem2 (atom_at _ _ (by decide)) (atom_at _ _ (by decide))) (fun b hb=>hb) (by unfold maxArgs;omega) (by decide)
 have HBA:=Qh (Qa hbA (Qa hbu (show (v14.alloc (.cells #[.int .i64 2,.string ⟨#[120]⟩,.string ⟨#[]⟩,.int .u64 0,.int .i64 0,.slice none 0 0,.int .i64 2,.string ⟨#[91,93]⟩,.string ⟨#[]⟩,.int .u64 0,.int .i64 0,.slice none 0 0] 25)).heap.size=v14.heap.size+1 by simp)))
 clear hbA hbu
 replace HA1:=Qh (TAt.any HA1.out (fun b hb=>hb) HBA.out.1)
 replace HX1:=Qh (HX1.out.below (HBA.out.1))
 replace KK:=Qh (Qt KK.out HBA.out.1)
 generalize (v14.alloc (.cells #[.int .i64 2,.string ⟨#[120]⟩,.string ⟨#[]⟩,.int .u64 0,.int .i64 0,.slice none 0 0,.int .i64 2,.string ⟨#[91,93]⟩,.string ⟨#[]⟩,.int .u64 0,.int .i64 0,.slice none 0 0] 25))=v15 at *
 generalize v14.heap.size=q4 at *
 (with_reducible refine (lf_any _ _ _ _ _).mono ?_)
 rintro e v16 ⟨rfl,hb⟩
 have HT4:=Qh (show TAt v16 v16.heap.size (cmpT [46] [(atomT [120]),(atomT [91,93])]) (.slice (some ⟨q4,0,none⟩) 2 2) from TAt.any HBA.out.2.1 (fun b hb=>by have:=HBA.out.2.2;rcases hb with hb | hb <;> omega) hb)
 replace HA1:=Qh (TAt.any HA1.out (fun b hb=>hb) hb)
 replace HX1:=Qh (HX1.out.below (hb))
 replace KK:=Qh (Qt KK.out hb)
 clear hb HBA
 go_wp2_with fail
 (with_reducible refine (lv_any _ _).mono ?_)
 rintro e v17 ⟨rfl,hb⟩
 replace HA1:=Qh (TAt.any HA1.out (fun b hb=>hb) hb)
 replace HT4:=Qh (TAt.any HT4.out (fun b hb=>hb) hb)
 replace HX1:=Qh (HX1.out.below (hb))
 replace KK:=Qh (Qt KK.out hb)
 clear hb
 go_wp2_with fail
 (with_reducible refine (lv_any _ _).mono ?_)
 rintro e v18 ⟨rfl,hb⟩
 replace HA1:=Qh (TAt.any HA1.out (fun b hb=>hb) hb)
 replace HT4:=Qh (TAt.any HT4.out (fun b hb=>hb) hb)
 replace HX1:=Qh (HX1.out.below (hb))
 replace KK:=Qh (Qt KK.out hb)
 clear hb
 go_wp2_with fail
 have hR:=Body_okL (w0:=w0) (nb:=⟨#[61]⟩) (mb:=⟨#[]⟩) (q:=2) HT4.out (var_at _ _ (n:=4) ⟨by omega,by omega⟩) (var_at _ _ (n:=5) ⟨by omega,by omega⟩) (HU.out.below KK.out) awc3 ⟨by omega,by omega⟩ rfl rfl rfl aw3
 rw [show valT (cmpT [46] [(atomT [120]),(atomT [91,93])]) (.slice (some ⟨q4,0,none⟩) 2 2) = .agg (Qn 5 ⟨#[46]⟩ (.slice (some ⟨q4,0,none⟩) 2 2)) from rfl,show valT (varT 4) (.slice none 0 0) = .agg (Qv 4) from rfl,show valT (varT 5) (.slice none 0 0) = .agg (Qv 5) from rfl] at hR
 (with_reducible refine hR.mono ?_)
 rintro e x4 ⟨A5,c5,rfl,ho,hb⟩
 have HA5:=Qh (show TAt x4 x4.heap.size (cmpT [61] [(varT 4),(cmpT [46] [(atomT [120]),(varT 5)])]) (.slice A5 2 c5) from TOwn.new ho)
 clear hR ho HT4
 replace HA1:=Qh (TAt.any HA1.out (fun b hb=>hb) hb)
 replace HX1:=Qh (HX1.out.below (hb))
 replace KK:=Qh (Qt KK.out hb)
 clear hb
 go_upto_region 4 with fail
 have hbA:Below x4.heap.size x4 (x4.alloc (.cells (Qn 5 ⟨#[61]⟩ (.slice A5 2 c5)) 25)):=Qb
 have HX5:=Qh (show TBox (x4.alloc (.cells (Qn 5 ⟨#[61]⟩ (.slice A5 2 c5)) 25)) x4.heap.size (cmpT [61] [(varT 4),(cmpT [46] [(atomT [120]),(varT 5)])]) (.slice A5 2 c5) from TBox.new x4 rfl rfl)
 replace HA1:=Qh (TAt.any HA1.out (fun b hb=>hb) hbA)
 replace HA5:=Qh (TAt.any HA5.out (fun b hb=>hb) hbA)
 replace HX1:=Qh (HX1.out.below (hbA))
 replace KK:=Qh (Qt KK.out hbA)
 clear hbA
 generalize (x4.alloc (.cells (Qn 5 ⟨#[61]⟩ (.slice A5 2 c5)) 25))=v19 at *
 generalize x4.heap.size=g5 at *
 have HSS:=Qh (show ∀ z,Below v19.heap.size v19 z→(Q6 z g1 5 ⟨#[58,45]⟩ ⟨#[]⟩ 0 0 (.slice A1 2 c1)) from fun z hb=>(HX1.out.below hb).cells rfl rfl)
 refine wp_region_wait (fun z=>(Q6 z g1 5 ⟨#[58,45]⟩ ⟨#[]⟩ 0 0 (.slice A1 2 c1))) 17 (by kernel_rfl) ?_
 change wpAnyW _ _ _ _ _ _ _ _ _ v19.drew
 have hbd:=below_drew' v19
 have KB:=Qh (show Below v19.heap.size v19 v19.drew from hbd)
 replace HA1:=Qh (TAt.any HA1.out (fun b hb=>hb) hbd)
 replace HA5:=Qh (TAt.any HA5.out (fun b hb=>hb) hbd)
 replace HX1:=Qh (HX1.out.below (hbd))
 replace HX5:=Qh (HX5.out.below (hbd))
 replace KK:=Qh (Qt KK.out hbd)
 clear hbd
 generalize v19.drew=v20 at *
 refine w3 17 0 (.agg (Qn 5 ⟨#[58,45]⟩ (.slice A1 2 c1))) (HSS.out _ KB.out) ?_ ?_
 ·intro w5 hSw
  obtain ⟨p0,p1,p2,p3,p4,p5⟩:=hSw
  go_simp
 refine w1 1 fun K hK=>?_
 go_simp
 (with_reducible refine (lv_any _ _).mono ?_)
 rintro e v21 ⟨rfl,hb⟩
 replace HA1:=Qh (TAt.any HA1.out (fun b hb=>hb) hb)
 replace HA5:=Qh (TAt.any HA5.out (fun b hb=>hb) hb)
 replace HX1:=Qh (HX1.out.below (hb))
 replace HX5:=Qh (HX5.out.below (hb))
 replace KK:=Qh (Qt KK.out hb)
 replace KB:=Qh (Qt KB.out hb)
 clear hb
 refine hK.out _ _ (fun _=>HSS.out _ KB.out) ?_
 refine w1 2 fun K hK=>?_
 go_simp
 (with_reducible refine (lv_any _ _).mono ?_)
 rintro e v22 ⟨rfl,hb⟩
 replace HA1:=Qh (TAt.any HA1.out (fun b hb=>hb) hb)
 replace HA5:=Qh (TAt.any HA5.out (fun b hb=>hb) hb)
 replace HX1:=Qh (HX1.out.below (hb))
 replace HX5:=Qh (HX5.out.below (hb))
 replace KK:=Qh (Qt KK.out hb)
 replace KB:=Qh (Qt KB.out hb)
 clear hb
 refine hK.out _ _ (fun _=>HSS.out _ KB.out) ?_
 refine w1 3 fun K hK=>?_
 go_simp
 have hbA:Below v22.heap.size v22 (v22.alloc (.cells #[.int .i64 1,.string ⟨#[]⟩,.string ⟨#[]⟩,.int .u64 0,.int .i64 0,.slice none 0 0,.int .i64 1,.string ⟨#[]⟩,.string ⟨#[]⟩,.int .u64 0,.int .i64 1,.slice none 0 0] 25)):=Qb
 have hbu:=built (w:=v22) (P:=fun b=>b<v22.heap.size) (s:=[97]) (n:=2) (cs:=#[.int .i64 1,.string ⟨#[]⟩,.string ⟨#[]⟩,.int .u64 0,.int .i64 0,.slice none 0 0,.int .i64 1,.string ⟨#[]⟩,.string ⟨#[]⟩,.int .u64 0,.int .i64 1,.slice none 0 0]) (ps:=[((varT 0),Value.slice none 0 0),((varT 1),Value.slice none 0 0)]) rfl rfl (mem2 (var_at _ _ ⟨by omega,by omega⟩) (var_at _ _ ⟨by omega,by omega⟩)) (fun b hb=>hb) (by unfold maxArgs;omega) (by decide)
 have HBA:=Qh (Qa hbA (Qa hbu (show (v22.alloc (.cells #[.int .i64 1,.string ⟨#[]⟩,.string ⟨#[]⟩,.int .u64 0,.int .i64 0,.slice none 0 0,.int .i64 1,.string ⟨#[]⟩,.string ⟨#[]⟩,.int .u64 0,.int .i64 1,.slice none 0 0] 25)).heap.size=v22.heap.size+1 by simp)))
 clear hbA hbu
 replace HA1:=Qh (TAt.any HA1.out (fun b hb=>hb) HBA.out.1)
 replace HA5:=Qh (TAt.any HA5.out (fun b hb=>hb) HBA.out.1)
 replace HX1:=Qh (HX1.out.below (HBA.out.1))
 replace HX5:=Qh (HX5.out.below (HBA.out.1))
 replace KK:=Qh (Qt KK.out HBA.out.1)
 replace KB:=Qh (Qt KB.out HBA.out.1)
 refine hK.out _ _ (fun _=>HSS.out _ KB.out) ?_
 generalize (v22.alloc (.cells #[.int .i64 1,.string ⟨#[]⟩,.string ⟨#[]⟩,.int .u64 0,.int .i64 0,.slice none 0 0,.int .i64 1,.string ⟨#[]⟩,.string ⟨#[]⟩,.int .u64 0,.int .i64 1,.slice none 0 0] 25))=v23 at *
 generalize v22.heap.size=q5 at *
 refine w1 4 fun K hK=>?_
 go_simp
 (with_reducible refine (lf_any _ _ _ _ _).mono ?_)
 rintro e v24 ⟨rfl,hb⟩
 have HT5:=Qh (show TAt v24 v24.heap.size (cmpT [97] [(varT 0),(varT 1)]) (.slice (some ⟨q5,0,none⟩) 2 2) from TAt.any HBA.out.2.1 (fun b hb=>by have:=HBA.out.2.2;rcases hb with hb | hb <;> omega) hb)
 replace HA1:=Qh (TAt.any HA1.out (fun b hb=>hb) hb)
 replace HA5:=Qh (TAt.any HA5.out (fun b hb=>hb) hb)
 replace HX1:=Qh (HX1.out.below (hb))
 replace HX5:=Qh (HX5.out.below (hb))
 replace KK:=Qh (Qt KK.out hb)
 replace KB:=Qh (Qt KB.out hb)
 clear hb HBA
 refine hK.out _ _ (fun _=>HSS.out _ KB.out) ?_
 refine w1 5 fun K hK=>?_
 go_simp
 (with_reducible refine (lv_any _ _).mono ?_)
 rintro e v25 ⟨rfl,hb⟩
 replace HA1:=Qh (TAt.any HA1.out (fun b hb=>hb) hb)
 replace HA5:=Qh (TAt.any HA5.out (fun b hb=>hb) hb)
 replace HT5:=Qh (TAt.any HT5.out (fun b hb=>hb) hb)
 replace HX1:=Qh (HX1.out.below (hb))
 replace HX5:=Qh (HX5.out.below (hb))
 replace KK:=Qh (Qt KK.out hb)
 replace KB:=Qh (Qt KB.out hb)
 clear hb
 refine hK.out _ _ (fun _=>HSS.out _ KB.out) ?_
 refine w1 6 fun K hK=>?_
 go_simp
 (with_reducible refine (lv_any _ _).mono ?_)
 rintro e v26 ⟨rfl,hb⟩
 replace HA1:=Qh (TAt.any HA1.out (fun b hb=>hb) hb)
 replace HA5:=Qh (TAt.any HA5.out (fun b hb=>hb) hb)
 replace HT5:=Qh (TAt.any HT5.out (fun b hb=>hb) hb)
 replace HX1:=Qh (HX1.out.below (hb))
 replace HX5:=Qh (HX5.out.below (hb))
 replace KK:=Qh (Qt KK.out hb)
 replace KB:=Qh (Qt KB.out hb)
 clear hb
 refine hK.out _ _ (fun _=>HSS.out _ KB.out) ?_
 refine w1 7 fun K hK=>?_
 go_simp
 have hbA:Below v26.heap.size v26 (v26.alloc (.cells #[.int .i64 1,.string ⟨#[]⟩,.string ⟨#[]⟩,.int .u64 0,.int .i64 0,.slice none 0 0,.int .i64 1,.string ⟨#[]⟩,.string ⟨#[]⟩,.int .u64 0,.int .i64 2,.slice none 0 0] 25)):=Qb
 have hbu:=built (w:=v26) (P:=fun b=>b<v26.heap.size) (s:=[98]) (n:=2) (cs:=#[.int .i64 1,.string ⟨#[]⟩,.string ⟨#[]⟩,.int .u64 0,.int .i64 0,.slice none 0 0,.int .i64 1,.string ⟨#[]⟩,.string ⟨#[]⟩,.int .u64 0,.int .i64 2,.slice none 0 0]) (ps:=[((varT 0),Value.slice none 0 0),((varT 2),Value.slice none 0 0)]) rfl rfl (mem2 (var_at _ _ ⟨by omega,by omega⟩) (var_at _ _ ⟨by omega,by omega⟩)) (fun b hb=>hb) (by unfold maxArgs;omega) (by decide)
 have HBA:=Qh (Qa hbA (Qa hbu (show (v26.alloc (.cells #[.int .i64 1,.string ⟨#[]⟩,.string ⟨#[]⟩,.int .u64 0,.int .i64 0,.slice none 0 0,.int .i64 1,.string ⟨#[]⟩,.string ⟨#[]⟩,.int .u64 0,.int .i64 2,.slice none 0 0] 25)).heap.size=v26.heap.size+1 by simp)))
 clear hbA hbu
 replace HA1:=Qh (TAt.any HA1.out (fun b hb=>hb) HBA.out.1)
 replace HA5:=Qh (TAt.any HA5.out (fun b hb=>hb) HBA.out.1)
 replace HT5:=Qh (TAt.any HT5.out (fun b hb=>hb) HBA.out.1)
 replace HX1:=Qh (HX1.out.below (HBA.out.1))
 replace HX5:=Qh (HX5.out.below (HBA.out.1))
 replace KK:=Qh (Qt KK.out HBA.out.1)
 replace KB:=Qh (Qt KB.out HBA.out.1)
 refine hK.out _ _ (fun _=>HSS.out _ KB.out) ?_
 generalize (v26.alloc (.cells #[.int .i64 1,.string ⟨#[]⟩,.string ⟨#[]⟩,.int .u64 0,.int .i64 0,.slice none 0 0,.int .i64 1,.string ⟨#[]⟩,.string ⟨#[]⟩,.int .u64 0,.int .i64 2,.slice none 0 0] 25))=v27 at *
 generalize v26.heap.size=q6 at *
 refine w1 8 fun K hK=>?_
 go_simp
 (with_reducible refine (lf_any _ _ _ _ _).mono ?_)
 rintro e v28 ⟨rfl,hb⟩
 have HT6:=Qh (show TAt v28 v28.heap.size (cmpT [98] [(varT 0),(varT 2)]) (.slice (some ⟨q6,0,none⟩) 2 2) from TAt.any HBA.out.2.1 (fun b hb=>by have:=HBA.out.2.2;rcases hb with hb | hb <;> omega) hb)
 replace HA1:=Qh (TAt.any HA1.out (fun b hb=>hb) hb)
 replace HA5:=Qh (TAt.any HA5.out (fun b hb=>hb) hb)
 replace HT5:=Qh (TAt.any HT5.out (fun b hb=>hb) hb)
 replace HX1:=Qh (HX1.out.below (hb))
 replace HX5:=Qh (HX5.out.below (hb))
 replace KK:=Qh (Qt KK.out hb)
 replace KB:=Qh (Qt KB.out hb)
 clear hb HBA
 refine hK.out _ _ (fun _=>HSS.out _ KB.out) ?_
 refine w1 9 fun K hK=>?_
 go_simp
 (with_reducible refine (lv_any _ _).mono ?_)
 rintro e v29 ⟨rfl,hb⟩
 replace HA1:=Qh (TAt.any HA1.out (fun b hb=>hb) hb)
 replace HA5:=Qh (TAt.any HA5.out (fun b hb=>hb) hb)
 replace HT5:=Qh (TAt.any HT5.out (fun b hb=>hb) hb)
 replace HT6:=Qh (TAt.any HT6.out (fun b hb=>hb) hb)
 replace HX1:=Qh (HX1.out.below (hb))
 replace HX5:=Qh (HX5.out.below (hb))
 replace KK:=Qh (Qt KK.out hb)
 replace KB:=Qh (Qt KB.out hb)
 clear hb
 refine hK.out _ _ (fun _=>HSS.out _ KB.out) ?_
 refine w1 10 fun K hK=>?_
 go_simp
 (with_reducible refine (lv_any _ _).mono ?_)
 rintro e v30 ⟨rfl,hb⟩
 replace HA1:=Qh (TAt.any HA1.out (fun b hb=>hb) hb)
 replace HA5:=Qh (TAt.any HA5.out (fun b hb=>hb) hb)
 replace HT5:=Qh (TAt.any HT5.out (fun b hb=>hb) hb)
 replace HT6:=Qh (TAt.any HT6.out (fun b hb=>hb) hb)
 replace HX1:=Qh (HX1.out.below (hb))
 replace HX5:=Qh (HX5.out.below (hb))
 replace KK:=Qh (Qt KK.out hb)
 replace KB:=Qh (Qt KB.out hb)
 clear hb
 refine hK.out _ _ (fun _=>HSS.out _ KB.out) ?_
 refine w1 11 fun K hK=>?_
 go_simp
 have hbA:Below v30.heap.size v30 (v30.alloc (.cells #[.int .i64 1,.string ⟨#[]⟩,.string ⟨#[]⟩,.int .u64 0,.int .i64 2,.slice none 0 0,.int .i64 1,.string ⟨#[]⟩,.string ⟨#[]⟩,.int .u64 0,.int .i64 1,.slice none 0 0] 25)):=Qb
 have hbu:=built (w:=v30) (P:=fun b=>b<v30.heap.size) (s:=[99]) (n:=2) (cs:=#[.int .i64 1,.string ⟨#[]⟩,.string ⟨#[]⟩,.int .u64 0,.int .i64 2,.slice none 0 0,.int .i64 1,.string ⟨#[]⟩,.string ⟨#[]⟩,.int .u64 0,.int .i64 1,.slice none 0 0]) (ps:=[((varT 2),Value.slice none 0 0),((varT 1),Value.slice none 0 0)]) rfl rfl (mem2 (var_at _ _ ⟨by omega,by omega⟩) (var_at _ _ ⟨by omega,by omega⟩)) (fun b hb=>hb) (by unfold maxArgs;omega) (by decide)
 have HBA:=Qh (Qa hbA (Qa hbu (show (v30.alloc (.cells #[.int .i64 1,.string ⟨#[]⟩,.string ⟨#[]⟩,.int .u64 0,.int .i64 2,.slice none 0 0,.int .i64 1,.string ⟨#[]⟩,.string ⟨#[]⟩,.int .u64 0,.int .i64 1,.slice none 0 0] 25)).heap.size=v30.heap.size+1 by simp)))
 clear hbA hbu
 replace HA1:=Qh (TAt.any HA1.out (fun b hb=>hb) HBA.out.1)
 replace HA5:=Qh (TAt.any HA5.out (fun b hb=>hb) HBA.out.1)
 replace HT5:=Qh (TAt.any HT5.out (fun b hb=>hb) HBA.out.1)
 replace HT6:=Qh (TAt.any HT6.out (fun b hb=>hb) HBA.out.1)
 replace HX1:=Qh (HX1.out.below (HBA.out.1))
 replace HX5:=Qh (HX5.out.below (HBA.out.1))
 replace KK:=Qh (Qt KK.out HBA.out.1)
 replace KB:=Qh (Qt KB.out HBA.out.1)
 refine hK.out _ _ (fun _=>HSS.out _ KB.out) ?_
 generalize (v30.alloc (.cells #[.int .i64 1,.string ⟨#[]⟩,.string ⟨#[]⟩,.int .u64 0,.int .i64 2,.slice none 0 0,.int .i64 1,.string ⟨#[]⟩,.string ⟨#[]⟩,.int .u64 0,.int .i64 1,.slice none 0 0] 25))=v31 at *
 generalize v30.heap.size=q7 at *
 refine w1 12 fun K hK=>?_
 go_simp
 (with_reducible refine (lf_any _ _ _ _ _).mono ?_)
 rintro e v32 ⟨rfl,hb⟩
 have HT7:=Qh (show TAt v32 v32.heap.size (cmpT [99] [(varT 2),(varT 1)]) (.slice (some ⟨q7,0,none⟩) 2 2) from TAt.any HBA.out.2.1 (fun b hb=>by have:=HBA.out.2.2;rcases hb with hb | hb <;> omega) hb)
 replace HA1:=Qh (TAt.any HA1.out (fun b hb=>hb) hb)
 replace HA5:=Qh (TAt.any HA5.out (fun b hb=>hb) hb)
 replace HT5:=Qh (TAt.any HT5.out (fun b hb=>hb) hb)
 replace HT6:=Qh (TAt.any HT6.out (fun b hb=>hb) hb)
 replace HX1:=Qh (HX1.out.below (hb))
 replace HX5:=Qh (HX5.out.below (hb))
 replace KK:=Qh (Qt KK.out hb)
 replace KB:=Qh (Qt KB.out hb)
 clear hb HBA
 refine hK.out _ _ (fun _=>HSS.out _ KB.out) ?_
 refine w1 13 fun K hK=>?_
 go_simp
 have hbA:Below v32.heap.size v32 (v32.alloc (.cells #[.int .i64 5,.string ⟨#[98]⟩,.string ⟨#[]⟩,.int .u64 0,.int .i64 0,.slice (some ⟨q6,0,none⟩) 2 2,.int .i64 5,.string ⟨#[99]⟩,.string ⟨#[]⟩,.int .u64 0,.int .i64 0,.slice (some ⟨q7,0,none⟩) 2 2] 25)):=Qb
 have hbu:=built (w:=v32) (P:=fun b=>b<v32.heap.size) (s:=[44]) (n:=2) (cs:=#[.int .i64 5,.string ⟨#[98]⟩,.string ⟨#[]⟩,.int .u64 0,.int .i64 0,.slice (some ⟨q6,0,none⟩) 2 2,.int .i64 5,.string ⟨#[99]⟩,.string ⟨#[]⟩,.int .u64 0,.int .i64 0,.slice (some ⟨q7,0,none⟩) 2 2]) (ps:=[((cmpT [98] [(varT 0),(varT 2)]),Value.slice (some ⟨q6,0,none⟩) 2 2),((cmpT [99] [(varT 2),(varT 1)]),Value.slice (some ⟨q7,0,none⟩) 2 2)]) rfl rfl (mem2 (HT6.out) (HT7.out)) (fun b hb=>hb) (by unfold maxArgs;omega) (by decide)
 have HBA:=Qh (Qa hbA (Qa hbu (show (v32.alloc (.cells #[.int .i64 5,.string ⟨#[98]⟩,.string ⟨#[]⟩,.int .u64 0,.int .i64 0,.slice (some ⟨q6,0,none⟩) 2 2,.int .i64 5,.string ⟨#[99]⟩,.string ⟨#[]⟩,.int .u64 0,.int .i64 0,.slice (some ⟨q7,0,none⟩) 2 2] 25)).heap.size=v32.heap.size+1 by simp)))
 clear hbA hbu
 clear HT6
 clear HT7
 replace HA1:=Qh (TAt.any HA1.out (fun b hb=>hb) HBA.out.1)
 replace HA5:=Qh (TAt.any HA5.out (fun b hb=>hb) HBA.out.1)
 replace HT5:=Qh (TAt.any HT5.out (fun b hb=>hb) HBA.out.1)
 replace HX1:=Qh (HX1.out.below (HBA.out.1))
 replace HX5:=Qh (HX5.out.below (HBA.out.1))
 replace KK:=Qh (Qt KK.out HBA.out.1)
 replace KB:=Qh (Qt KB.out HBA.out.1)
 refine hK.out _ _ (fun _=>HSS.out _ KB.out) ?_
 generalize (v32.alloc (.cells #[.int .i64 5,.string ⟨#[98]⟩,.string ⟨#[]⟩,.int .u64 0,.int .i64 0,.slice (some ⟨q6,0,none⟩) 2 2,.int .i64 5,.string ⟨#[99]⟩,.string ⟨#[]⟩,.int .u64 0,.int .i64 0,.slice (some ⟨q7,0,none⟩) 2 2] 25))=v33 at *
 generalize v32.heap.size=q8 at *
 refine w1 14 fun K hK=>?_
 go_simp
 (with_reducible refine (lf_any _ _ _ _ _).mono ?_)
 rintro e v34 ⟨rfl,hb⟩
 have HT8:=Qh (show TAt v34 v34.heap.size (cmpT [44] [(cmpT [98] [(varT 0),(varT 2)]),(cmpT [99] [(varT 2),(varT 1)])]) (.slice (some ⟨q8,0,none⟩) 2 2) from TAt.any HBA.out.2.1 (fun b hb=>by have:=HBA.out.2.2;rcases hb with hb | hb <;> omega) hb)
 replace HA1:=Qh (TAt.any HA1.out (fun b hb=>hb) hb)
 replace HA5:=Qh (TAt.any HA5.out (fun b hb=>hb) hb)
 replace HT5:=Qh (TAt.any HT5.out (fun b hb=>hb) hb)
 replace HX1:=Qh (HX1.out.below (hb))
 replace HX5:=Qh (HX5.out.below (hb))
 replace KK:=Qh (Qt KK.out hb)
 replace KB:=Qh (Qt KB.out hb)
 clear hb HBA
 refine hK.out _ _ (fun _=>HSS.out _ KB.out) ?_
 refine w1 15 fun K hK=>?_
 go_simp
 have hbA:Below v34.heap.size v34 (v34.alloc (.cells #[.int .i64 5,.string ⟨#[97]⟩,.string ⟨#[]⟩,.int .u64 0,.int .i64 0,.slice (some ⟨q5,0,none⟩) 2 2,.int .i64 5,.string ⟨#[44]⟩,.string ⟨#[]⟩,.int .u64 0,.int .i64 0,.slice (some ⟨q8,0,none⟩) 2 2] 25)):=Qb
 have hbu:=built (w:=v34) (P:=fun b=>b<v34.heap.size) (s:=[58,45]) (n:=2) (cs:=#[.int .i64 5,.string ⟨#[97]⟩,.string ⟨#[]⟩,.int .u64 0,.int .i64 0,.slice (some ⟨q5,0,none⟩) 2 2,.int .i64 5,.string ⟨#[44]⟩,.string ⟨#[]⟩,.int .u64 0,.int .i64 0,.slice (some ⟨q8,0,none⟩) 2 2]) (ps:=[((cmpT [97] [(varT 0),(varT 1)]),Value.slice (some ⟨q5,0,none⟩) 2 2),((cmpT [44] [(cmpT [98] [(varT 0),(varT 2)]),(cmpT [99] [(varT 2),(varT 1)])]),Value.slice (some ⟨q8,0,none⟩) 2 2)]) rfl rfl (mem2 (HT5.out) (HT8.out)) (fun b hb=>hb) (by unfold maxArgs;omega) (by decide)
 have HBA:=Qh (Qa hbA (Qa hbu (show (v34.alloc (.cells #[.int .i64 5,.string ⟨#[97]⟩,.string ⟨#[]⟩,.int .u64 0,.int .i64 0,.slice (some ⟨q5,0,none⟩) 2 2,.int .i64 5,.string ⟨#[44]⟩,.string ⟨#[]⟩,.int .u64 0,.int .i64 0,.slice (some ⟨q8,0,none⟩) 2 2] 25)).heap.size=v34.heap.size+1 by simp)))
 clear hbA hbu
 clear HT5
 clear HT8
 replace HA1:=Qh (TAt.any HA1.out (fun b hb=>hb) HBA.out.1)
 replace HA5:=Qh (TAt.any HA5.out (fun b hb=>hb) HBA.out.1)
 replace HX1:=Qh (HX1.out.below (HBA.out.1))
 replace HX5:=Qh (HX5.out.below (HBA.out.1))
 replace KK:=Qh (Qt KK.out HBA.out.1)
 replace KB:=Qh (Qt KB.out HBA.out.1)
 refine hK.out _ _ (fun _=>HSS.out _ KB.out) ?_
 generalize (v34.alloc (.cells #[.int .i64 5,.string ⟨#[97]⟩,.string ⟨#[]⟩,.int .u64 0,.int .i64 0,.slice (some ⟨q5,0,none⟩) 2 2,.int .i64 5,.string ⟨#[44]⟩,.string ⟨#[]⟩,.int .u64 0,.int .i64 0,.slice (some ⟨q8,0,none⟩) 2 2] 25))=v35 at *
 generalize v34.heap.size=q9 at *
 refine w1 16 fun K hK=>?_
 go_simp
 (with_reducible refine (lf_any _ _ _ _ _).mono ?_)
 rintro e v36 ⟨rfl,hb⟩
 have HT9:=Qh (show TAt v36 v36.heap.size (cmpT [58,45] [(cmpT [97] [(varT 0),(varT 1)]),(cmpT [44] [(cmpT [98] [(varT 0),(varT 2)]),(cmpT [99] [(varT 2),(varT 1)])])]) (.slice (some ⟨q9,0,none⟩) 2 2) from TAt.any HBA.out.2.1 (fun b hb=>by have:=HBA.out.2.2;rcases hb with hb | hb <;> omega) hb)
 replace HA1:=Qh (TAt.any HA1.out (fun b hb=>hb) hb)
 replace HA5:=Qh (TAt.any HA5.out (fun b hb=>hb) hb)
 replace HX1:=Qh (HX1.out.below (hb))
 replace HX5:=Qh (HX5.out.below (hb))
 replace KK:=Qh (Qt KK.out hb)
 replace KB:=Qh (Qt KB.out hb)
 clear hb HBA
 refine hK.out _ _ (fun _=>HSS.out _ KB.out) ?_
 refine w1 17 fun K hK=>?_
 go_simp
 have hR:=Same_any (cmpT [58,45] [(cmpT [97] [(varT 0),(varT 1)]),(cmpT [44] [(cmpT [98] [(varT 0),(varT 2)]),(cmpT [99] [(varT 2),(varT 1)])])]) _ _ _ HA1.out HT9.out
 rw [show valT (cmpT [58,45] [(cmpT [97] [(varT 0),(varT 1)]),(cmpT [44] [(cmpT [98] [(varT 0),(varT 2)]),(cmpT [99] [(varT 2),(varT 1)])])]) (.slice A1 2 c1) = .agg (Qn 5 ⟨#[58,45]⟩ (.slice A1 2 c1)) from rfl,show valT (cmpT [58,45] [(cmpT [97] [(varT 0),(varT 1)]),(cmpT [44] [(cmpT [98] [(varT 0),(varT 2)]),(cmpT [99] [(varT 2),(varT 1)])])]) (.slice (some ⟨q9,0,none⟩) 2 2) = .agg (Qn 5 ⟨#[58,45]⟩ (.slice (some ⟨q9,0,none⟩) 2 2)) from rfl] at hR
 (with_reducible refine hR.mono ?_)
 rintro e v37 ⟨rfl,hb⟩
 clear hR HT9
 replace HA1:=Qh (TAt.any HA1.out (fun b hb=>hb) hb)
 replace HA5:=Qh (TAt.any HA5.out (fun b hb=>hb) hb)
 replace HX1:=Qh (HX1.out.below (hb))
 replace HX5:=Qh (HX5.out.below (hb))
 replace KK:=Qh (Qt KK.out hb)
 clear hb HSS KB
 refine hK.out _ _ (fun h=>absurd h (by simp)) ?_
 refine w1 18 fun K hK=>?_
 go_simp
 refine hK.out _ _ (fun h=>absurd h (by simp)) ?_
 refine wpAnyW_done (by kernel_rfl) ?_ _
 go_upto_region 5 with fail
 have HSS:=Qh (show ∀ z,Below v37.heap.size v37 z→(Q6 z g5 5 ⟨#[61]⟩ ⟨#[]⟩ 0 0 (.slice A5 2 c5)) from fun z hb=>(HX5.out.below hb).cells rfl rfl)
 refine wp_region_wait (fun z=>(Q6 z g5 5 ⟨#[61]⟩ ⟨#[]⟩ 0 0 (.slice A5 2 c5))) 8 (by kernel_rfl) ?_
 change wpAnyW _ _ _ _ _ _ _ _ _ v37.drew
 have hbd:=below_drew' v37
 have KB:=Qh (show Below v37.heap.size v37 v37.drew from hbd)
 replace HA1:=Qh (TAt.any HA1.out (fun b hb=>hb) hbd)
 replace HA5:=Qh (TAt.any HA5.out (fun b hb=>hb) hbd)
 replace HX1:=Qh (HX1.out.below (hbd))
 replace HX5:=Qh (HX5.out.below (hbd))
 replace KK:=Qh (Qt KK.out hbd)
 clear hbd
 generalize v37.drew=v38 at *
 refine w3 8 0 (.agg (Qn 5 ⟨#[61]⟩ (.slice A5 2 c5))) (HSS.out _ KB.out) ?_ ?_
 ·intro w5 hSw
  obtain ⟨p0,p1,p2,p3,p4,p5⟩:=hSw
  go_simp
 refine w1 1 fun K hK=>?_
 go_simp
 (with_reducible refine (lv_any _ _).mono ?_)
 rintro e v39 ⟨rfl,hb⟩
 replace HA1:=Qh (TAt.any HA1.out (fun b hb=>hb) hb)
 replace HA5:=Qh (TAt.any HA5.out (fun b hb=>hb) hb)
 replace HX1:=Qh (HX1.out.below (hb))
 replace HX5:=Qh (HX5.out.below (hb))
 replace KK:=Qh (Qt KK.out hb)
 replace KB:=Qh (Qt KB.out hb)
 clear hb
 refine hK.out _ _ (fun _=>HSS.out _ KB.out) ?_
 refine w1 2 fun K hK=>?_
 go_simp
 (with_reducible refine (latom_any _ _).mono ?_)
 rintro e v40 ⟨rfl,hb⟩
 replace HA1:=Qh (TAt.any HA1.out (fun b hb=>hb) hb)
 replace HA5:=Qh (TAt.any HA5.out (fun b hb=>hb) hb)
 replace HX1:=Qh (HX1.out.below (hb))
 replace HX5:=Qh (HX5.out.below (hb))
 replace KK:=Qh (Qt KK.out hb)
 replace KB:=Qh (Qt KB.out hb)
 clear hb
 refine hK.out _ _ (fun _=>HSS.out _ KB.out) ?_
 refine w1 3 fun K hK=>?_
 go_simp
 (with_reducible refine (lv_any _ _).mono ?_)
 rintro e v41 ⟨rfl,hb⟩
 replace HA1:=Qh (TAt.any HA1.out (fun b hb=>hb) hb)
 replace HA5:=Qh (TAt.any HA5.out (fun b hb=>hb) hb)
 replace HX1:=Qh (HX1.out.below (hb))
 replace HX5:=Qh (HX5.out.below (hb))
 replace KK:=Qh (Qt KK.out hb)
 replace KB:=Qh (Qt KB.out hb)
 clear hb
 refine hK.out _ _ (fun _=>HSS.out _ KB.out) ?_
 refine w1 4 fun K hK=>?_
 go_simp
 have hbA:Below v41.heap.size v41 (v41.alloc (.cells #[.int .i64 2,.string ⟨#[120]⟩,.string ⟨#[]⟩,.int .u64 0,.int .i64 0,.slice none 0 0,.int .i64 1,.string ⟨#[]⟩,.string ⟨#[]⟩,.int .u64 0,.int .i64 5,.slice none 0 0] 25)):=Qb
 have hbu:=built (w:=v41) (P:=fun b=>b<v41.heap.size) (s:=[46]) (n:=2) (cs:=#[.int .i64 2,.string ⟨#[120]⟩,.string ⟨#[]⟩,.int .u64 0,.int .i64 0,.slice none 0 0,.int .i64 1,.string ⟨#[]⟩,.string ⟨#[]⟩,.int .u64 0,.int .i64 5,.slice none 0 0]) (ps:=[((atomT [120]),Value.slice none 0 0),((varT 5),Value.slice none 0 0)]) rfl rfl (mem2 (atom_at _ _ (by decide)) (var_at _ _ ⟨by omega,by omega⟩)) (fun b hb=>hb) (by unfold maxArgs;omega) (by decide)
 have HBA:=Qh (Qa hbA (Qa hbu (show (v41.alloc (.cells #[.int .i64 2,.string ⟨#[120]⟩,.string ⟨#[]⟩,.int .u64 0,.int .i64 0,.slice none 0 0,.int .i64 1,.string ⟨#[]⟩,.string ⟨#[]⟩,.int .u64 0,.int .i64 5,.slice none 0 0] 25)).heap.size=v41.heap.size+1 by simp)))
 clear hbA hbu
 replace HA1:=Qh (TAt.any HA1.out (fun b hb=>hb) HBA.out.1)
 replace HA5:=Qh (TAt.any HA5.out (fun b hb=>hb) HBA.out.1)
 replace HX1:=Qh (HX1.out.below (HBA.out.1))
 replace HX5:=Qh (HX5.out.below (HBA.out.1))
 replace KK:=Qh (Qt KK.out HBA.out.1)
 replace KB:=Qh (Qt KB.out HBA.out.1)
 refine hK.out _ _ (fun _=>HSS.out _ KB.out) ?_
 generalize (v41.alloc (.cells #[.int .i64 2,.string ⟨#[120]⟩,.string ⟨#[]⟩,.int .u64 0,.int .i64 0,.slice none 0 0,.int .i64 1,.string ⟨#[]⟩,.string ⟨#[]⟩,.int .u64 0,.int .i64 5,.slice none 0 0] 25))=v42 at *
 generalize v41.heap.size=q10 at *
 refine w1 5 fun K hK=>?_
 go_simp
 (with_reducible refine (lf_any _ _ _ _ _).mono ?_)
 rintro e v43 ⟨rfl,hb⟩
 have HT10:=Qh (show TAt v43 v43.heap.size (cmpT [46] [(atomT [120]),(varT 5)]) (.slice (some ⟨q10,0,none⟩) 2 2) from TAt.any HBA.out.2.1 (fun b hb=>by have:=HBA.out.2.2;rcases hb with hb | hb <;> omega) hb)
 replace HA1:=Qh (TAt.any HA1.out (fun b hb=>hb) hb)
 replace HA5:=Qh (TAt.any HA5.out (fun b hb=>hb) hb)
 replace HX1:=Qh (HX1.out.below (hb))
 replace HX5:=Qh (HX5.out.below (hb))
 replace KK:=Qh (Qt KK.out hb)
 replace KB:=Qh (Qt KB.out hb)
 clear hb HBA
 refine hK.out _ _ (fun _=>HSS.out _ KB.out) ?_
 refine w1 6 fun K hK=>?_
 go_simp
 have hbA:Below v43.heap.size v43 (v43.alloc (.cells #[.int .i64 1,.string ⟨#[]⟩,.string ⟨#[]⟩,.int .u64 0,.int .i64 4,.slice none 0 0,.int .i64 5,.string ⟨#[46]⟩,.string ⟨#[]⟩,.int .u64 0,.int .i64 0,.slice (some ⟨q10,0,none⟩) 2 2] 25)):=Qb
 have hbu:=built (w:=v43) (P:=fun b=>b<v43.heap.size) (s:=[61]) (n:=2) (cs:=#[.int .i64 1,.string ⟨#[]⟩,.string ⟨#[]⟩,.int .u64 0,.int .i64 4,.slice none 0 0,.int .i64 5,.string ⟨#[46]⟩,.string ⟨#[]⟩,.int .u64 0,.int .i64 0,.slice (some ⟨q10,0,none⟩) 2 2]) (ps:=[((varT 4),Value.slice none 0 0),((cmpT [46] [(atomT [120]),(varT 5)]),Value.slice (some ⟨q10,0,none⟩) 2 2)]) rfl rfl (mem2 (var_at _ _ ⟨by omega,by omega⟩) (HT10.out)) (fun b hb=>hb) (by unfold maxArgs;omega) (by decide)
 have HBA:=Qh (Qa hbA (Qa hbu (show (v43.alloc (.cells #[.int .i64 1,.string ⟨#[]⟩,.string ⟨#[]⟩,.int .u64 0,.int .i64 4,.slice none 0 0,.int .i64 5,.string ⟨#[46]⟩,.string ⟨#[]⟩,.int .u64 0,.int .i64 0,.slice (some ⟨q10,0,none⟩) 2 2] 25)).heap.size=v43.heap.size+1 by simp)))
 clear hbA hbu
 clear HT10
 replace HA1:=Qh (TAt.any HA1.out (fun b hb=>hb) HBA.out.1)
 replace HA5:=Qh (TAt.any HA5.out (fun b hb=>hb) HBA.out.1)
 replace HX1:=Qh (HX1.out.below (HBA.out.1))
 replace HX5:=Qh (HX5.out.below (HBA.out.1))
 replace KK:=Qh (Qt KK.out HBA.out.1)
 replace KB:=Qh (Qt KB.out HBA.out.1)
 refine hK.out _ _ (fun _=>HSS.out _ KB.out) ?_
 generalize (v43.alloc (.cells #[.int .i64 1,.string ⟨#[]⟩,.string ⟨#[]⟩,.int .u64 0,.int .i64 4,.slice none 0 0,.int .i64 5,.string ⟨#[46]⟩,.string ⟨#[]⟩,.int .u64 0,.int .i64 0,.slice (some ⟨q10,0,none⟩) 2 2] 25))=v44 at *
 generalize v43.heap.size=q11 at *
 refine w1 7 fun K hK=>?_
 go_simp
 (with_reducible refine (lf_any _ _ _ _ _).mono ?_)
 rintro e v45 ⟨rfl,hb⟩
 have HT11:=Qh (show TAt v45 v45.heap.size (cmpT [61] [(varT 4),(cmpT [46] [(atomT [120]),(varT 5)])]) (.slice (some ⟨q11,0,none⟩) 2 2) from TAt.any HBA.out.2.1 (fun b hb=>by have:=HBA.out.2.2;rcases hb with hb | hb <;> omega) hb)
 replace HA1:=Qh (TAt.any HA1.out (fun b hb=>hb) hb)
 replace HA5:=Qh (TAt.any HA5.out (fun b hb=>hb) hb)
 replace HX1:=Qh (HX1.out.below (hb))
 replace HX5:=Qh (HX5.out.below (hb))
 replace KK:=Qh (Qt KK.out hb)
 replace KB:=Qh (Qt KB.out hb)
 clear hb HBA
 refine hK.out _ _ (fun _=>HSS.out _ KB.out) ?_
 refine w1 8 fun K hK=>?_
 go_simp
 have hR:=Same_any (cmpT [61] [(varT 4),(cmpT [46] [(atomT [120]),(varT 5)])]) _ _ _ HA5.out HT11.out
 rw [show valT (cmpT [61] [(varT 4),(cmpT [46] [(atomT [120]),(varT 5)])]) (.slice A5 2 c5) = .agg (Qn 5 ⟨#[61]⟩ (.slice A5 2 c5)) from rfl,show valT (cmpT [61] [(varT 4),(cmpT [46] [(atomT [120]),(varT 5)])]) (.slice (some ⟨q11,0,none⟩) 2 2) = .agg (Qn 5 ⟨#[61]⟩ (.slice (some ⟨q11,0,none⟩) 2 2)) from rfl] at hR
 (with_reducible refine hR.mono ?_)
 rintro e v46 ⟨rfl,hb⟩
 clear hR HT11
 replace HA1:=Qh (TAt.any HA1.out (fun b hb=>hb) hb)
 replace HA5:=Qh (TAt.any HA5.out (fun b hb=>hb) hb)
 replace HX1:=Qh (HX1.out.below (hb))
 replace HX5:=Qh (HX5.out.below (hb))
 replace KK:=Qh (Qt KK.out hb)
 clear hb HSS KB
 refine hK.out _ _ (fun h=>absurd h (by simp)) ?_
 refine w1 9 fun K hK=>?_
 go_simp
 refine hK.out _ _ (fun h=>absurd h (by simp)) ?_
 refine wpAnyW_done (by kernel_rfl) ?_ _
 go_wp2
 go_ret
 exact ⟨rfl,KK.out⟩
end Go.Proofs.YtgfeainpeplphaaDoor
