/- The law DcgLists of layer 10 answers true for every input, and leaves its arguments as they were; its two listed variables hold what the program's text lays. -/
import Derived.Test.YtgfeainpeplphaaDoorCards
import Derived.Test.YtgfeainpeplphaaDoorTie
import Derived.Lay
import Derived.Test.YtgfeainpeplphaaDoorZ9
import Derived.Test.YtgfeainpeplphaaDoorZ10
namespace Go.Proofs.YtgfeainpeplphaaDoor
open Go.RowKit Hb Ht
set_option linter.unusedVariables false
set_option linter.unusedSimpArgs false
attribute [local go_sem] Oper.semAt_some
theorem BRow.take {w:World} {A:Option Addr} {n c i:Nat} {bs:List (Int × Tm × Value)} (h:BRow w A n c bs) (hi:i≤n):BRow w A i c (bs.take i):=
 ⟨by rw [List.length_take,h.len];omega,⟨by have:=h.cap.1;omega,by have:=h.cap.2;omega⟩,fun p hp=>h.rng p (List.mem_of_mem_take hp),fun p hp=>h.kid p (List.mem_of_mem_take hp),fun hn=>by
  obtain ⟨g,o,h1,h2,h3⟩:=h.row (by omega)
  refine ⟨g,o,h1,h2,fun j p hp=>h3 j p ?_⟩
  rw [List.getElem?_take] at hp
  split at hp
  ·exact hp
  ·cases hp⟩
structure PutOk (w:World) (A:Option Addr) (n c:Nat) (bs:List (Int × Tm × Value)):Prop where
 row:BRow w A n c bs
 pos:∀ p∈bs,0≤p.1
 uniq:∀ (i j:Nat) (p q:Int × Tm × Value),i<j→bs[i]?=some p→bs[j]?=some q→p.1≠q.1
 fit:∀ p∈bs,Fits p.2.1
 chk:∀ p∈bs,checkP p.2.1=0
theorem PutOk.first {w:World} {A:Option Addr} {n c i:Nat} {bs:List (Int × Tm × Value)} {p:Int × Tm × Value} (h:PutOk w A n c bs) (hp:bs[i]?=some p):lookB (bs.take i) p.1=none:=
 lookB_none fun j q hj hq=>by
  have hji:j<i:=by rw [List.length_take] at hj;omega
  rw [List.getElem?_take_of_lt hji] at hq
  exact h.uniq j i q p hji hq hp
set_option maxRecDepth 100000 in
set_option maxHeartbeats 8000000 in
theorem Put_any {w:World} {t:Tm} {sl:Value} {A:Option Addr} {n c:Nat} {bs:List (Int × Tm × Value)} (ht:TAt w w.heap.size t sl) (hf:Fits t) (hc:checkP t=0) (hb:PutOk w A n c bs) (hsz:sz (inst (sigB bs) t)≤4000) :
  Calls Tryd.prog 22 #[valT t sl,.slice A n c] w fun e w'=>∃ sl',e = .returned (.tuple #[valT (inst (sigB bs) t) sl',.int .i64 0])∧FreshT w w' (inst (sigB bs) t) sl'∧Below w.heap.size w w':=by
 have hcn:cnt (inst (sigB bs) t) 0≤4000:=by
  have:=nodes_le.2 hsz
  unfold nodes at this
  omega
 obtain ⟨R,hR⟩:∃ R,inst (sigB bs) t=R:=⟨_,rfl⟩
 rw [hR] at hcn ⊢
 have hbare:=bare_check hc
 obtain ⟨k,nl,ml,b,v,ts,nb,mb,A0,c0,rfl,rfl,hnb,hmb,hl1,hl2,hl3,hv,_,_⟩:=ht.letters
 obtain ⟨L,hL⟩:∃ L,ts.length=L:=⟨_,rfl⟩
 rw [valT_mk hnb hmb]
 rw [hL] at ht ⊢
 obtain ⟨k3,n3,m3,b3,v3,ts3⟩:=R
 obtain ⟨nb3,hnb3⟩:∃ nb:ByteArray,(⟨n3.toArray⟩:ByteArray)=nb:=⟨_,rfl⟩
 obtain ⟨mb3,hmb3⟩:∃ mb:ByteArray,(⟨m3.toArray⟩:ByteArray)=mb:=⟨_,rfl⟩
 obtain ⟨L3,hL3⟩:∃ L,ts3.length=L:=⟨_,rfl⟩
 obtain ⟨z,hz⟩:∃ z,cnt (.mk k3 n3 m3 b3 v3 ts3) 0=z:=⟨_,rfl⟩
 rw [hz] at hcn
 have hzI:¬(4000:Int)<(z:Int):=by omega
 have hnI:(n:Int)≤1000000:=by have:=hb.row.cap.2;omega
 have HM:=Lib.hid (And.intro hnb hmb)
 have HM3:=Lib.hid (And.intro hnb3 (And.intro hmb3 hL3))
 have HT:=Lib.hid ht
 have HR:=Lib.hid (And.intro hR hz)
 have HP:=Lib.hid hb
 have HF:=Lib.hid (And.intro hf (And.intro hc hbare))
 obtain ⟨W1,hW1⟩:∃ W,w.alloc (.cells #[.int .i64 k,.string nb,.string mb,.int .u64 b,.int .i64 v,.slice A0 L c0] 25)=W:=⟨_,rfl⟩
 obtain ⟨W2,hW2⟩:∃ W,W1.alloc (.cells #[.int .i64 0,.string ⟨#[]⟩,.string ⟨#[]⟩,.int .u64 0,.int .i64 0,.slice none 0 0] 25)=W:=⟨_,rfl⟩
 have d1:Below w.heap.size w W1:=by rw [←hW1];exact (Below.refl _ _).alloc (Nat.le_refl _) _
 have s1:W1.heap.size=w.heap.size+1:=by rw [←hW1];simp
 have X1:TBox W1 w.heap.size (.mk k nl ml b v ts) (.slice A0 L c0):=by rw [←hW1];exact TBox.new w hnb hmb
 have d2:Below W1.heap.size W1 W2:=by rw [←hW2];exact (Below.refl _ _).alloc (Nat.le_refl _) _
 have s2:W2.heap.size=W1.heap.size+1:=by rw [←hW2];simp
 have X2:TBox W2 W1.heap.size zeroT (.slice none 0 0):=by rw [←hW2];exact heap_alloc_new W1 _
 rw [s1] at X2
 have HX:=Lib.hid (And.intro (X1.below d2) X2)
 have HB:=Lib.hid (And.intro (d1.trans (d2.mono (by omega))) (show w.heap.size+1+1≤W2.heap.size by omega))
 have HC:=Lib.hid (rCheck_any (ht.to HB.out.1 HB.out.1.size) hf)
 rw [hc,valT_mk hnb hmb] at HC
 obtain ⟨x0,x1,x2,x3,x4,x5⟩:=(X1.below d2).cells hnb hmb
 subst hW1 hW2
 clear X1 X2 d1 d2 s1 s2 ht hf hc hb hnb hmb hnb3 hmb3 hL3 hR hz hv hL hbare
 go_enter Tryd.func22,Tryd.ntmps22
 go_upto_region 5 with (go_at_call 10;(with_reducible refine HC.out.mono ?_);rintro e w1 ⟨rfl,hb1⟩;have HB1:=Lib.hid (HB.out.1.trans (hb1.mono HB.out.1.size));have HX1:=Lib.hid (And.intro (HX.out.1.below hb1) (And.intro (HX.out.2.below hb1) (Nat.le_trans HB.out.2 hb1.size)));clear hb1 x0 x1 x2 x3 x4 x5)
 clear HX HB HC
 go_loopw [6,7] (fun v6 v7 wr=>∃ i:Nat,v6 = .int .i64 0∧v7 = .int .i64 (i:Int)∧i≤n∧Hid (Below w1.heap.size w1 wr)) (fun _ v7 _=>((n:Int) - intOf v7).toNat)
 case atStart=>exact ⟨0,rfl,rfl,Nat.zero_le _,Lib.hid (Below.refl _ _)⟩
 case round=>
  obtain ⟨i,rfl,rfl,hi,HI⟩:=hrel
  by_cases hlt:i<n
  ·have hltI:(i:Int)<(n:Int):=by omega
   have hi0:(0:Int)≤(i:Int):=by omega
   have hil:i<bs.length:=by rw [HP.out.row.len];exact hlt
   obtain ⟨p,hp⟩:∃ p,bs[i]?=some p:=⟨_,List.getElem?_eq_getElem hil⟩
   have HBr:=Lib.hid (HB1.out.trans (HI.out.mono HB1.out.size))
   have hrow:=HP.out.row.below HBr.out
   have hfd:=fun z (hz:Below wr.heap.size wr z)=>found_none ((hrow.below hz).take (Nat.le_of_lt hlt)) (HP.out.first hp)
   have hmem:=List.mem_of_getElem? hp
   have hpos:=HP.out.pos p hmem
   have hck:=HP.out.chk p hmem
   have hft:=HP.out.fit p hmem
   obtain ⟨g,o,k',nl',ml',b',v',ts',nb',mb',A',c',rfl,hp2,hnb',hmb',hta,hg,q0,q1,q2,q3,q4,q5,q6⟩:=hrow.at_ hp
   obtain ⟨y,pt⟩:=p
   change pt=_ at hp2
   subst hp2
   change 0≤y at hpos
   change checkP (.mk k' nl' ml' b' v' ts')=0 at hck
   change Fits (.mk k' nl' ml' b' v' ts') at hft
   change wr.cell? ⟨g,o+i * 7,none⟩=some (.int .i64 y) at q0
   obtain ⟨L',hL'⟩:∃ L,ts'.length=L:=⟨_,rfl⟩
   rw [hL'] at q6 hta
   have hyI:¬y<0:=by omega
   have hnc:(i:Int)≤(n:Int):=by omega
   have hncc:(n:Int)≤(c:Int):=by have:=hrow.cap.1;omega
   have hic:i≤c:=by omega
   have HQ:=Lib.hid (And.intro q0 (And.intro q1 (And.intro q2 (And.intro q3 (And.intro q4 (And.intro q5 q6))))))
   have HLT:=Lib.hid hlt
   have HFd:=Lib.hid hfd
   have HTa:=Lib.hid (And.intro hta (And.intro hft hck))
   have HM':=Lib.hid (And.intro hnb' hmb')
   have HG:=Lib.hid hg
   clear hlt hi hil hp hrow hfd hmem hpos hck hft hta hg hnb' hmb' hL' q1 q2 q3 q4 q5 q6
   go_upto_region 7 with fail
   refine wp_region_U 14 (by kernel_rfl) (fun z0 K0 hs0=>?_)
   refine tkW 0 (v:=?tv0) K0 rfl (by kernel_rfl) ?tq0 rfl (fun z5 hS=>?ty0) ?_
   case ty0=>go_simp;rfl
   case tq0=>exact fun _ _ _ h=>h
   refine tkW 1 (v:=?tv1) K0 rfl (by kernel_rfl) ?tq1 rfl (fun z5 hS=>?ty1) ?_
   case ty1=>go_simp;rfl
   case tq1=>exact fun _ _ _ h=>h
   refine tkW 2 (v:=?tv2) K0 rfl (by kernel_rfl) ?tq2 rfl (fun z5 hS=>?ty2) ?_
   case ty2=>go_simp;rfl
   case tq2=>exact fun _ _ _ h=>h
   refine tkW 3 (v:=?tv3) K0 rfl (by kernel_rfl) ?tq3 rfl (fun z5 hS=>?ty3) ?_
   case ty3=>go_simp;rfl
   case tq3=>exact fun _ _ _ h=>h
   refine tkW 4 (v:=?tv4) K0 rfl (by kernel_rfl) ?tq4 rfl (fun z5 hS=>?ty4) ?_
   case ty4=>go_simp;rfl
   case tq4=>exact fun _ _ _ h=>h
   refine tkW 5 (v:=?tv5) K0 rfl (by kernel_rfl) ?tq5 rfl (fun z5 hS=>?ty5) ?_
   case ty5=>go_simp;rfl
   case tq5=>exact fun _ _ _ h=>h
   refine tkW 6 (v:=?tv6) K0 rfl (by kernel_rfl) ?tq6 rfl (fun z5 hS=>?ty6) ?_
   case ty6=>go_simp;rfl
   case tq6=>exact fun _ _ _ h=>h
   refine tkW 7 (v:=?tv7) K0 rfl (by kernel_rfl) ?tq7 rfl (fun z5 hS=>?ty7) ?_
   case ty7=>have q9:=(hS.cell (p:=⟨g,o+i * 7,none⟩) HG.out).trans HQ.out.1;go_simp;rfl
   case tq7=>exact fun _ _ _ h=>h
   refine wpAnyW_float [12] (fun _=>(.cells #[.int .i64 0,.string ⟨#[]⟩,.string ⟨#[]⟩,.int .u64 0,.int .i64 0,.slice none 0 0] 25)) (by kernel_rfl) (by kernel_rfl) (FloatRun.one rfl (fun a w=>by go_simp)) (fun _ _ h1 h2=>h2.trans (h1.mono h2.size)) (by kernel_rfl) (fun _ _ _ _ _ h=>h) rfl K0 ?_
   refine wpAnyF_one (i:=8) (by kernel_rfl) (by kernel_rfl) (fun _ _ _ _ _ h=>h) ⟨by kernel_rfl,by kernel_rfl⟩ (by kernel_rfl) rfl (by kernel_rfl) (fun z1 d1 K1 K hK=>?_)
   go_simp
   (with_reducible refine (HFd.out _ K1).mono ?_)
   rintro e z2 ⟨rfl,hb⟩
   refine hK.out _ _ hb (K1.trans (hb.mono K1.size)) ?_
   refine tkF 9 (v:=?tv9) rfl (by kernel_rfl) ?tq9 rfl (fun z5 hS=>?ty9) ?_
   case ty9=>go_simp;rfl
   case tq9=>exact fun _ _ _ h=>h
   refine tkF 10 (v:=?tv10) rfl (by kernel_rfl) ?tq10 rfl (fun z5 hS=>?ty10) ?_
   case ty10=>go_simp;rfl
   case tq10=>exact fun _ _ _ h=>h
   refine tkF 11 (v:=?tv11) rfl (by kernel_rfl) ?tq11 rfl (fun z5 hS=>?ty11) ?_
   case ty11=>go_simp;rfl
   case tq11=>exact fun _ _ _ h=>h
   refine wpAnyF_land1 (by kernel_rfl) rfl (fun z3 HA d3 K3 hA gA=>?_)
   have hAl:wr.heap.size≤HA:=by
    have h1:=K1.size
    have h2:=hb.size
    rcases gA with (h | h) | h
    ·exact h.elim
    ·omega
    ·omega
   replace hA:TBox z3 HA zeroT (.slice none 0 0):=hA
   obtain ⟨u0,u1,u2,u3,u4,u5⟩:=hA.cells (nb:=⟨#[]⟩) (mb:=⟨#[]⟩) rfl rfl
   obtain ⟨s0,s1,s2,s3,s4,s5⟩:=hA.frozens
   obtain ⟨hbx,hgr⟩:=hA.set6 (k:=0) (b:=0) (v:=0) (n:=[]) (m:=[]) [] (.slice none 0 0) (nb:=⟨#[]⟩) (mb:=⟨#[]⟩) rfl rfl
   have HZ:=Lib.hid (K3.grown hgr K3.size (fun j e=>by injection e with e;omega))
   clear hbx hgr hb d1 d3 K1 gA hA
   refine wpAnyW_one (i:=13) (by kernel_rfl) rfl (fun K hK=>?_)
   go_simp
   generalize (((((z3.setCell ⟨HA,0,none⟩ (.int .i64 0)).setCell ⟨HA,1,none⟩ (.string ⟨#[]⟩)).setCell ⟨HA,2,none⟩ (.string ⟨#[]⟩)).setCell ⟨HA,3,none⟩ (.int .u64 0)).setCell ⟨HA,4,none⟩ (.int .i64 0)).setCell ⟨HA,5,none⟩ (.slice none 0 0)=z4 at *
   refine hK.out _ _ (fun _=>HZ.out) ?_
   refine wpAnyW_one (i:=14) (by kernel_rfl) rfl (fun K hK=>?_)
   go_simp
   refine hK.out _ _ (fun _=>HZ.out) ?_
   refine wpAnyW_done (by kernel_rfl) ?_ _
   have key:=fun q:Nat=>HZ.out.cell (p:=⟨g,q,none⟩) HG.out
   have q0:=(key _).trans HQ.out.1
   have q1:=(key _).trans HQ.out.2.1
   have q2:=(key _).trans HQ.out.2.2.1
   have q3:=(key _).trans HQ.out.2.2.2.1
   have q4:=(key _).trans HQ.out.2.2.2.2.1
   have q5:=(key _).trans HQ.out.2.2.2.2.2.1
   have q6:=(key _).trans HQ.out.2.2.2.2.2.2
   have HCk:=Lib.hid (rCheck_any (HTa.out.1.to HZ.out HZ.out.size) HTa.out.2.1)
   rw [HTa.out.2.2,valT_mk HM'.out.1 HM'.out.2] at HCk
   clear key u0 u1 u2 u3 u4 u5 s0 s1 s2 s3 s4 s5 K3 K0 hAl hs0
   go_wp2_with (go_at_call 10;(with_reducible refine HCk.out.mono ?_);rintro e w' ⟨rfl,hb3⟩;have HB3:=Lib.hid (HI.out.trans ((HZ.out.trans (hb3.mono HZ.out.size)).mono HI.out.size));clear hb3)
   go_roundw
   case rel=>exact ⟨i+1,rfl,rfl,HLT.out,HB3⟩
   case measure=>
    have:=HLT.out
    show ((n:Int) - ((i:Int)+1)).toNat<((n:Int) - (i:Int)).toNat
    omega
  ·have ei:i=n:=by omega
   subst ei
   have hnn:¬(i:Int)<(i:Int):=by omega
   have HBr:=Lib.hid (HB1.out.trans (HI.out.mono HB1.out.size))
   have HXr:=Lib.hid (And.intro (HX1.out.1.below HI.out) (And.intro (HX1.out.2.1.below HI.out) (Nat.le_trans HX1.out.2.2 HI.out.size)))
   have HS:=Lib.hid (sized_any (.mk k nl ml b v ts) wr (.slice A0 L c0) 0 A i c bs (HT.out.to HBr.out HBr.out.size) HF.out.2.2 (by omega) (HP.out.row.below HBr.out))
   rw [HR.out.1,HR.out.2,valT_mk HM.out.1 HM.out.2,show ((0:Nat):Int)=0 from rfl] at HS
   obtain ⟨x0,x1,x2,x3,x4,x5⟩:=HXr.out.1.cells HM.out.1 HM.out.2
   clear hlt hi
   go_upto_region 15 with (go_at_call 54;(with_reducible refine HS.out.mono ?_);rintro e w2 ⟨rfl,hb2⟩;have HB2:=Lib.hid (HBr.out.trans (hb2.mono HBr.out.size));have HX2:=Lib.hid (And.intro (HXr.out.1.below hb2) (And.intro (HXr.out.2.1.below hb2) (Nat.le_trans HXr.out.2.2 hb2.size)));clear hb2 x0 x1 x2 x3 x4 x5)
   have hI:=Inst_any (.mk k nl ml b v ts) w2 (.slice A0 L c0) A i c bs (HT.out.to HB2.out HB2.out.size) HF.out.2.2 (HP.out.row.below HB2.out)
   rw [HR.out.1,valT_mk HM.out.1 HM.out.2] at hI
   have HIn:=Lib.hid (fresh_letters HM3.out.1 HM3.out.2.1 HM3.out.2.2 hI)
   clear hI
   obtain ⟨x0,x1,x2,x3,x4,x5⟩:=HX2.out.1.cells HM.out.1 HM.out.2
   go_wp2_with fail
   (with_reducible refine HIn.out.mono ?_)
   rintro e w4 ⟨A4,c4,rfl,hf4,hb4⟩
   have HB4:=Lib.hid (HB2.out.trans (hb4.mono HB2.out.size))
   have HX4:=Lib.hid (And.intro (HX2.out.2.1.below hb4) hf4)
   clear hb4 hf4 x0 x1 x2 x3 x4 x5
   obtain ⟨u0,u1,u2,u3,u4,u5⟩:=HX4.out.1.cells (nb:=⟨#[]⟩) (mb:=⟨#[]⟩) rfl rfl
   obtain ⟨z0,z1,z2,z3,z4,z5⟩:=HX4.out.1.frozens
   go_wp2
   obtain ⟨hbx,hgr⟩:=HX4.out.1.set6 (k:=k3) (b:=b3) (v:=v3) ts3 (.slice A4 L3 c4) HM3.out.1 HM3.out.2.1
   obtain ⟨r0,r1,r2,r3,r4,r5⟩:=hbx.cells HM3.out.1 HM3.out.2.1
   have hz2:=HX2.out.2.2
   have hz4:=HB2.out.size
   refine bodyPost_ret (v:=.tuple #[.agg #[.int .i64 k3,.string nb3,.string mb3,.int .u64 b3,.int .i64 v3,.slice A4 L3 c4],.int .i64 0]) (by simp [results,Tryd.results22,go_sem,r0,r1,r2,r3,r4,r5]) rfl ⟨.slice A4 L3 c4,by rw [valT_mk HM3.out.1 HM3.out.2.1],?_,?_⟩
   ·exact HX4.out.2.keepG (by omega) hgr (by omega)
   ·exact HB4.out.grown hgr HB4.out.size (fun j e=>by injection e with e;omega)
end Go.Proofs.YtgfeainpeplphaaDoor
namespace Go.Proofs.YtgfeainpeplphaaDoor
open Go.RowKit Hb Ht
set_option linter.unusedVariables false
set_option linter.unusedSimpArgs false
attribute [local go_sem] Oper.semAt_some
theorem fits_errs (t:Tm):errsP t=0→Fits t:=by
 refine Tm.ind (p:=fun t=>errsP t=0→Fits t) (fun k n m b v ts ih h=>?_) t
 obtain ⟨h1,h2⟩:=errs_iff.1 h
 have hl:n.length≤1000:=(one_iff.1 h1).2.2.2.2.2.1
 exact Fits.iff.2 ⟨by show n.length≤_;omega,fun a ha=>ih a ha (h2 a ha)⟩
theorem fits_check {t:Tm} (h:checkP t=0):Fits t:=fits_errs t (check_iff.1 h).2
theorem check_var {x:Int} (hx:0≤x):checkP (varT x)=0:=check_iff.2 ⟨by simp [varT,sz,szs],errs_var names_ok.2.2.2.2.2.2.2.2 hx⟩
theorem checks3 {t f d:Tm} : checksP [t,f,d]=0↔checkP t=0∧checkP f=0∧checkP d=0:=by
 unfold checksP checks
 by_cases e1:checkP t=0
 ·rw [if_neg (by simpa using e1)]
  unfold checks
  by_cases e2:checkP f=0
  ·rw [if_neg (by simpa using e2)]
   unfold checks
   by_cases e3:checkP d=0
   ·rw [if_neg (by simpa using e3)];simp [checks,e1,e2,e3]
   ·rw [if_pos (by simpa using e3)];simp [e1,e2,e3]
  ·rw [if_pos (by simpa using e2)];simp [e1,e2]
 ·rw [if_pos (by simpa using e1)];simp [e1]
def BodyQ (w:World) (t f d:Tm) (nx:Int) (e:Ending) (w':World):Prop:=
 Below w.heap.size w w' ∧
 ((¬ ∃ r,bodyT t f d nx = .ok r∧nx≤4611686018427387904)∧((∃ c,e = .returned (.tuple #[.agg #[.int .i64 0,.string ⟨#[]⟩,.string ⟨#[]⟩,.int .u64 0,.int .i64 0,.slice none 0 0],.int .i64 0,.iface 32 (.int .i64 c)])) ∨
   (∃ bb,e = .returned (.tuple #[.agg #[.int .i64 0,.string ⟨#[]⟩,.string ⟨#[]⟩,.int .u64 0,.int .i64 0,.slice none 0 0],.int .i64 0,.iface 82 (.pointer (some ⟨bb,0,none⟩))]))) ∨
  (∃ k nl ml b v ts n nb mb A L c,bodyT t f d nx = .ok (.mk k nl ml b v ts,n)∧nx≤4611686018427387904∧(⟨nl.toArray⟩:ByteArray)=nb∧(⟨ml.toArray⟩:ByteArray)=mb∧ts.length=L∧e = .returned (.tuple #[.agg #[.int .i64 k,.string nb,.string mb,.int .u64 b,.int .i64 v,.slice A L c],.int .i64 n,.nilIface])∧FreshT w w' (.mk k nl ml b v ts) (.slice A L c)))
theorem Body_q {w0 w:World} {t f d:Tm} {st sf sd:Value} {nx:Int} (h1:TAt w w.heap.size t st) (h2:TAt w w.heap.size f sf) (h3:TAt w w.heap.size d sd) (hU:UOk w0 w) (hcs:checksP [t,f,d]=0) (h0:0≤nx) :
  Calls Tryd.prog 16 #[valT t st,valT f sf,valT d sd,.int .i64 nx] w (BodyQ w t f d nx):=by
 by_cases hn:4611686018427387904<nx
 ·refine (Body_arg h1 h2 h3 hU hcs (.inr hn)).mono ?_
  rintro e w' ⟨rfl,hb⟩
  exact ⟨hb,.inl ⟨fun ⟨r,_,h⟩=>by omega,.inl ⟨1,rfl⟩⟩⟩
 ·refine (Body_main h1 h2 h3 hU hcs ⟨h0,by omega⟩).mono ?_
  rintro e w' ⟨hb,h⟩
  cases hr:bodyT t f d nx with
  | error x=>
   rw [hr] at h
   obtain ⟨bb,rfl,_⟩:=h
   exact ⟨hb,.inl ⟨(fun ⟨r,h,_⟩=>by rw [hr] at h;cases h),.inr ⟨bb,rfl⟩⟩⟩
  | ok p=>
   rw [hr] at h
   obtain ⟨⟨k,nl,ml,b,v,ts⟩,n⟩:=p
   obtain ⟨sg,rfl,ho⟩:=h
   have hT:=TOwn.new ho
   obtain ⟨A,c,hs,_⟩:=hT.slice
   change sg = .slice A ts.length c at hs
   subst hs
   exact ⟨hb,.inr ⟨k,nl,ml,b,v,ts,n,_,_,A,_,c,hr,by omega,rfl,rfl,rfl,by rw [valT_mk rfl rfl],TOwn.atP _ ho⟩⟩
theorem BodyQ.letters {w w':World} {t f d:Tm} {nx:Int} {e:Ending} (h:BodyQ w t f d nx e w'):∃ k nl ml b v ts nb mb A L c kk ev,e = .returned (.tuple #[.agg #[.int .i64 k,.string nb,.string mb,.int .u64 b,.int .i64 v,.slice A L c],.int .i64 kk,ev])∧(⟨nl.toArray⟩:ByteArray)=nb∧(⟨ml.toArray⟩:ByteArray)=mb∧ts.length=L∧Below w.heap.size w w' ∧
  (((¬ ∃ r,bodyT t f d nx = .ok r∧nx≤4611686018427387904)∧((∃ c,ev = .iface 32 (.int .i64 c))∨∃ bb,ev = .iface 82 (.pointer (some ⟨bb,0,none⟩)))) ∨
   (bodyT t f d nx = .ok (.mk k nl ml b v ts,kk)∧nx≤4611686018427387904∧ev = .nilIface∧FreshT w w' (.mk k nl ml b v ts) (.slice A L c))):=by
 obtain ⟨hb,⟨hno,⟨c,rfl⟩ | ⟨bb,rfl⟩⟩ | ⟨k,nl,ml,b,v,ts,n,nb,mb,A,L,c,h1,h2,h3,h4,h5,h6,h7⟩⟩:=h
 ·exact ⟨0,[],[],0,0,[],_,_,none,0,0,0,_,rfl,rfl,rfl,rfl,hb,.inl ⟨hno,.inl ⟨c,rfl⟩⟩⟩
 ·exact ⟨0,[],[],0,0,[],_,_,none,0,0,0,_,rfl,rfl,rfl,rfl,hb,.inl ⟨hno,.inr ⟨bb,rfl⟩⟩⟩
 ·exact ⟨k,nl,ml,b,v,ts,nb,mb,A,L,c,n,.nilIface,h6,h3,h4,h5,hb,.inr ⟨h1,h2,rfl,h7⟩⟩
theorem put_letters {f:Nat} {args:Array Value} {w:World} {k b v:Int} {n m:List UInt8} {ts:List Tm} {nb mb:ByteArray} {q:Nat} (hn:(⟨n.toArray⟩:ByteArray)=nb) (hm:(⟨m.toArray⟩:ByteArray)=mb) (hq:ts.length=q)
  (h:Calls Tryd.prog f args w fun e w'=>∃ sl',e = .returned (.tuple #[valT (.mk k n m b v ts) sl',.int .i64 0])∧FreshT w w' (.mk k n m b v ts) sl'∧Below w.heap.size w w') :
  Calls Tryd.prog f args w fun e w'=>∃ A c,e = .returned (.tuple #[.agg #[.int .i64 k,.string nb,.string mb,.int .u64 b,.int .i64 v,.slice A q c],.int .i64 0])∧FreshT w w' (.mk k n m b v ts) (.slice A q c)∧Below w.heap.size w w':=
 h.mono fun e w' ⟨sl',he,hf,hb⟩=>by
  obtain ⟨A,c,rfl,_⟩:=hf.at_.slice
  change e = .returned (.tuple #[valT _ (.slice A ts.length c),_]) at he
  change FreshT w w' _ (.slice A ts.length c) at hf
  rw [valT_mk hn hm,hq] at he
  rw [hq] at hf
  exact ⟨A,c,he,hf,hb⟩
theorem sigB_bind {n:Int} {f d:Tm} {sf sd:Value} : sigB [(n,f,sf),(n+1,d,sd)]=bind2 n f d:=by
 funext x
 unfold sigB lookB bind2
 by_cases h:x=n
 ·subst h
  rw [List.find?_cons_of_pos (by simp),if_pos rfl];rfl
 ·rw [List.find?_cons_of_neg (by simpa using fun e=>h e.symm),if_neg h]
  by_cases h2:x=n+1
  ·subst h2
   rw [List.find?_cons_of_pos (by simp),if_pos rfl];rfl
  ·rw [List.find?_cons_of_neg (by simpa using fun e=>h2 e.symm),if_neg h2];rfl
theorem lists_k {t f d:Tm} {n:Int} {a:Tm} {k:Int} (hc:checksP [t,f,d]=0) (hn:above t≤n) (h:bodyT t f d (n+2) = .ok (a,k)) :
  ∃ b,bodyT t (varT n) (varT (n+1)) (n+2) = .ok (b,k)∧(∀ sf sd,inst (sigB [(n,f,sf),(n+1,d,sd)]) b=a)∧checkP b=0∧sz a≤4000:=by
 obtain ⟨h1,h2,h3⟩:=checks3.1 hc
 have h0:=above_nn t
 obtain ⟨b,hb,hi,hcb,hs⟩:=lists_law names_ok h1 (by omega) hn h
 exact ⟨b,hb,fun sf sd=>by rw [sigB_bind];exact hi,hcb,hs⟩
theorem bRow2 {w:World} {G:Nat} {n:Int} {k1 v1 b1 k2 v2 b2:Int} {n1 m1 n2 m2:List UInt8} {ts1 ts2:List Tm} {nb1 mb1 nb2 mb2:ByteArray} {A1 A2:Option Addr} {L1 c1 L2 c2:Nat} {ty:TypeId} {q:Nat × Nat} (hn1:(⟨n1.toArray⟩:ByteArray)=nb1) (hm1:(⟨m1.toArray⟩:ByteArray)=mb1) (hn2:(⟨n2.toArray⟩:ByteArray)=nb2) (hm2:(⟨m2.toArray⟩:ByteArray)=mb2)
  (hr:0≤n∧n≤4611686018427397904) (h1:TAt w w.heap.size (.mk k1 n1 m1 b1 v1 ts1) (.slice A1 L1 c1)) (h2:TAt w w.heap.size (.mk k2 n2 m2 b2 v2 ts2) (.slice A2 L2 c2))
  (hg:w.heap[G]?=some (.cells #[.int .i64 n,.int .i64 k1,.string nb1,.string mb1,.int .u64 b1,.int .i64 v1,.slice A1 L1 c1,.int .i64 (n+1),.int .i64 k2,.string nb2,.string mb2,.int .u64 b2,.int .i64 v2,.slice A2 L2 c2] ty q)) :
  BRow w (some ⟨G,0,none⟩) 2 2 [(n,.mk k1 n1 m1 b1 v1 ts1,.slice A1 L1 c1),(n+1,.mk k2 n2 m2 b2 v2 ts2,.slice A2 L2 c2)]:=by
 subst hn1 hm1 hn2 hm2
 refine ⟨rfl,⟨by omega,by omega⟩,fun p hp=>?_,fun p hp=>?_,fun _=>⟨G,0,rfl,(Array.getElem?_eq_some_iff.1 hg).1,fun i p hp=>?_⟩⟩
 ·simp only [List.mem_cons,List.not_mem_nil,or_false] at hp
  rcases hp with rfl | rfl
  ·show _≤n∧n≤_;omega
  ·show _≤n+1∧n+1≤_;omega
 ·simp only [List.mem_cons,List.not_mem_nil,or_false] at hp
  rcases hp with rfl | rfl
  ·exact h1
  ·exact h2
 ·match i,hp with
  | 0,hp=>
   simp only [List.getElem?_cons_zero,Option.some.injEq] at hp
   subst hp
   refine ⟨by rw [cell_of_row w G _ _ ty q hg];rfl,fun j hj=>?_⟩
   rw [cell_of_row w G _ _ ty q hg]
   match j,hj with
   | 0,_=>rfl
   | 1,_=>rfl
   | 2,_=>rfl
   | 3,_=>rfl
   | 4,_=>rfl
   | 5,_=>rfl
  | 1,hp=>
   simp only [List.getElem?_cons_succ,List.getElem?_cons_zero,Option.some.injEq] at hp
   subst hp
   refine ⟨by rw [cell_of_row w G _ _ ty q hg];rfl,fun j hj=>?_⟩
   rw [cell_of_row w G _ _ ty q hg]
   match j,hj with
   | 0,_=>rfl
   | 1,_=>rfl
   | 2,_=>rfl
   | 3,_=>rfl
   | 4,_=>rfl
   | 5,_=>rfl
  | i+2,hp=>simp at hp
theorem putOk2 {w:World} {A:Option Addr} {n:Int} {f d:Tm} {sf sd:Value} (h:BRow w A 2 2 [(n,f,sf),(n+1,d,sd)]) (h0:0≤n) (hf:checkP f=0) (hd:checkP d=0):PutOk w A 2 2 [(n,f,sf),(n+1,d,sd)]:=by
 refine ⟨h,fun p hp=>?_,fun i j p q hij hp hq=>?_,fun p hp=>?_,fun p hp=>?_⟩
 ·simp only [List.mem_cons,List.not_mem_nil,or_false] at hp
  rcases hp with rfl | rfl
  ·exact h0
  ·show 0≤n+1;omega
 ·have hj:j<2:=(List.getElem?_eq_some_iff.1 hq).1
  obtain rfl:i=0:=by omega
  obtain rfl:j=1:=by omega
  simp only [List.getElem?_cons_succ,List.getElem?_cons_zero,Option.some.injEq] at hp hq
  subst hp hq
  show n≠n+1
  omega
 ·simp only [List.mem_cons,List.not_mem_nil,or_false] at hp
  rcases hp with rfl | rfl
  ·exact fits_check hf
  ·exact fits_check hd
 ·simp only [List.mem_cons,List.not_mem_nil,or_false] at hp
  rcases hp with rfl | rfl
  ·exact hf
  ·exact hd
end Go.Proofs.YtgfeainpeplphaaDoor
namespace Go.Proofs.YtgfeainpeplphaaDoor
open Go.RowKit Hb Ht
set_option linter.unusedVariables false
set_option linter.unusedSimpArgs false
attribute [local go_sem] Oper.semAt_some
theorem highB_le' {t:Tm} (h:highB t=false):∀ x∈vars t [],x≤4611686018427387904:=fun x hx=>by simpa using List.any_eq_false.1 h x hx
theorem vars_nn' {t:Tm} (h:checkP t=0):∀ x∈vars t [],0≤x:=fun x hx=>hasV_nn h (((vars_mem t [] x).1 hx).resolve_left (by simp))
theorem above_le {t:Tm} (h:highB t=false):above t≤4611686018427387905:=by
 unfold above
 rcases (foldl_max (vars t []) 0).2.2 with e | ⟨x,hx,e⟩
 ·rw [e];omega
 ·rw [e];have:=highB_le' h x hx;omega
theorem if_max {a b:Int} [Decidable (a<b)]:(if a<b then b else a)=max a b:=by split <;> omega
theorem three {a b c:Int} : ∃ n,max (max a b) c=n∧a≤n∧b≤n∧c≤n∧(n=a∨n=b∨n=c):=⟨_,rfl,by omega,by omega,by omega,by omega⟩
set_option maxRecDepth 100000 in
set_option maxHeartbeats 16000000 in
theorem Lists_walk {w0 w:World} {t f d:Tm} {st sf sd:Value} (h1:TAt w w.heap.size t st) (h2:TAt w w.heap.size f sf) (h3:TAt w w.heap.size d sd) (hf1:Fits t) (hf2:Fits f) (hf3:Fits d) (hU:UOk w0 w) :
  Calls Tryd.prog 5 #[valT t st,valT f sf,valT d sd] w fun e w'=>e = .returned (.bool true)∧Below w.heap.size w w':=by
 obtain ⟨k1,n1,m1,b1,v1,ts1,nb1,mb1,A1,c1,hT1,rfl,hn1,hm1,_,_,_,hv1,_,_⟩:=h1.letters
 obtain ⟨L1,hL1⟩:∃ L,ts1.length=L:=⟨_,rfl⟩
 rw [hL1] at h1 hv1 ⊢
 rw [hv1]
 obtain ⟨k2,n2,m2,b2,v2,ts2,nb2,mb2,A2,c2,hT2,rfl,hn2,hm2,_,_,_,hv2,_,_⟩:=h2.letters
 obtain ⟨L2,hL2⟩:∃ L,ts2.length=L:=⟨_,rfl⟩
 rw [hL2] at h2 hv2 ⊢
 rw [hv2]
 obtain ⟨k3,n3,m3,b3,v3,ts3,nb3,mb3,A3,c3,hT3,rfl,hn3,hm3,_,_,_,hv3,_,_⟩:=h3.letters
 obtain ⟨L3,hL3⟩:∃ L,ts3.length=L:=⟨_,rfl⟩
 rw [hL3] at h3 hv3 ⊢
 rw [hv3]
 obtain ⟨W1,hW1⟩:∃ W,w.alloc (.cells #[.int .i64 k1,.string nb1,.string mb1,.int .u64 b1,.int .i64 v1,.slice A1 L1 c1] 25)=W:=⟨_,rfl⟩
 have d1:Below w.heap.size w W1:=by rw [←hW1];exact (Below.refl _ _).alloc (Nat.le_refl _) _
 have s1:W1.heap.size=w.heap.size+1:=by rw [←hW1];simp
 have X1:TBox W1 w.heap.size (.mk k1 n1 m1 b1 v1 ts1) (.slice A1 L1 c1):=by rw [←hW1];exact TBox.new w hn1 hm1
 obtain ⟨W2,hW2⟩:∃ W,W1.alloc (.cells #[.int .i64 k2,.string nb2,.string mb2,.int .u64 b2,.int .i64 v2,.slice A2 L2 c2] 25)=W:=⟨_,rfl⟩
 have d2:Below W1.heap.size W1 W2:=by rw [←hW2];exact (Below.refl _ _).alloc (Nat.le_refl _) _
 have s2:W2.heap.size=W1.heap.size+1:=by rw [←hW2];simp
 have X2:TBox W2 W1.heap.size (.mk k2 n2 m2 b2 v2 ts2) (.slice A2 L2 c2):=by rw [←hW2];exact TBox.new W1 hn2 hm2
 obtain ⟨W3,hW3⟩:∃ W,W2.alloc (.cells #[.int .i64 k3,.string nb3,.string mb3,.int .u64 b3,.int .i64 v3,.slice A3 L3 c3] 25)=W:=⟨_,rfl⟩
 have d3:Below W2.heap.size W2 W3:=by rw [←hW3];exact (Below.refl _ _).alloc (Nat.le_refl _) _
 have s3:W3.heap.size=W2.heap.size+1:=by rw [←hW3];simp
 have X3:TBox W3 W2.heap.size (.mk k3 n3 m3 b3 v3 ts3) (.slice A3 L3 c3):=by rw [←hW3];exact TBox.new W2 hn3 hm3
 rw [s1] at X2
 rw [s2,s1] at X3
 have hb0:Below w.heap.size w W3:=d1.trans ((d2.trans (d3.mono (by omega))).mono (by omega))
 have HXt:=Lib.hid (show ∀ z,Below W3.heap.size W3 z→TBox z w.heap.size (.mk k1 n1 m1 b1 v1 ts1) (.slice A1 L1 c1)∧TBox z (w.heap.size+1) (.mk k2 n2 m2 b2 v2 ts2) (.slice A2 L2 c2)∧TBox z (w.heap.size+1+1) (.mk k3 n3 m3 b3 v3 ts3) (.slice A3 L3 c3)∧TAt z z.heap.size t (.slice A1 L1 c1)∧TAt z z.heap.size f (.slice A2 L2 c2)∧TAt z z.heap.size d (.slice A3 L3 c3)∧UOk w0 z∧Below w.heap.size w z from fun z hb=>by
  have hz:=hb0.trans (hb.mono hb0.size)
  exact ⟨((X1.below d2).below d3).below hb,(X2.below d3).below hb,X3.below hb,h1.to hz hz.size,h2.to hz hz.size,h3.to hz hz.size,hU.below hz,hz⟩)
 have HM1:=Lib.hid (And.intro hn1 hm1)
 have HM2:=Lib.hid (And.intro hn2 hm2)
 have HM3:=Lib.hid (And.intro hn3 hm3)
 have HV:=Lib.hid (And.intro hv1 (And.intro hv2 hv3))
 have HTE:=Lib.hid (And.intro hT1 (And.intro hT2 hT3))
 have HFi:=Lib.hid (And.intro hf1 (And.intro hf2 hf3))
 have HA:=Lib.hid (awake_any (hU.below hb0))
 subst hW1 hW2 hW3
 clear h1 h2 h3 hU hv1 hv2 hv3 hT1 hT2 hT3 hf1 hf2 hf3 hn1 hm1 hn2 hm2 hn3 hm3 d1 d2 d3 s1 s2 s3 X1 X2 X3 hb0 hL1 hL2 hL3
 go_enter Tryd.func5,Tryd.ntmps5
 go_upto_region 1 with fail
 generalize (((w.alloc (.cells #[.int .i64 k1,.string nb1,.string mb1,.int .u64 b1,.int .i64 v1,.slice A1 L1 c1] 25)).alloc (.cells #[.int .i64 k2,.string nb2,.string mb2,.int .u64 b2,.int .i64 v2,.slice A2 L2 c2] 25)).alloc (.cells #[.int .i64 k3,.string nb3,.string mb3,.int .u64 b3,.int .i64 v3,.slice A3 L3 c3] 25))=u0 at *
 go_upto_region 2 with (go_at_call 7;(with_reducible refine HA.out.mono ?_);rintro e u1 ⟨rfl,hb⟩;have KM:=Lib.hid hb;clear hb)
 clear HA
 obtain ⟨x0,x1,x2,x3,x4,x5⟩:=(HXt.out _ KM.out).1.cells HM1.out.1 HM1.out.2
 obtain ⟨y0,y1,y2,y3,y4,y5⟩:=(HXt.out _ KM.out).2.1.cells HM2.out.1 HM2.out.2
 obtain ⟨z0,z1,z2,z3,z4,z5⟩:=(HXt.out _ KM.out).2.2.1.cells HM3.out.1 HM3.out.2
 go_wp2_with fail
 have hbr:Below u1.heap.size u1 (u1.alloc (.cells #[.int .i64 k1,.string nb1,.string mb1,.int .u64 b1,.int .i64 v1,.slice A1 L1 c1,.int .i64 k2,.string nb2,.string mb2,.int .u64 b2,.int .i64 v2,.slice A2 L2 c2,.int .i64 k3,.string nb3,.string mb3,.int .u64 b3,.int .i64 v3,.slice A3 L3 c3] 25)):=(Below.refl _ _).alloc (Nat.le_refl _) _
 have KR:=Lib.hid (KM.out.trans (hbr.mono KM.out.size))
 have hro:=rowP_at (P:=fun b=>b<(u1.alloc (.cells #[.int .i64 k1,.string nb1,.string mb1,.int .u64 b1,.int .i64 v1,.slice A1 L1 c1,.int .i64 k2,.string nb2,.string mb2,.int .u64 b2,.int .i64 v2,.slice A2 L2 c2,.int .i64 k3,.string nb3,.string mb3,.int .u64 b3,.int .i64 v3,.slice A3 L3 c3] 25)).heap.size) (n:=3) (ps:=[(t,.slice A1 L1 c1),(f,.slice A2 L2 c2),(d,.slice A3 L3 c3)]) (heap_alloc_new u1 (.cells #[.int .i64 k1,.string nb1,.string mb1,.int .u64 b1,.int .i64 v1,.slice A1 L1 c1,.int .i64 k2,.string nb2,.string mb2,.int .u64 b2,.int .i64 v2,.slice A2 L2 c2,.int .i64 k3,.string nb3,.string mb3,.int .u64 b3,.int .i64 v3,.slice A3 L3 c3] 25)) (by rw [HTE.out.1,HTE.out.2.1,HTE.out.2.2,←HM1.out.1,←HM1.out.2,←HM2.out.1,←HM2.out.2,←HM3.out.1,←HM3.out.2];rfl) rfl (mem3 (HXt.out _ KR.out).2.2.2.1 (HXt.out _ KR.out).2.2.2.2.1 (HXt.out _ KR.out).2.2.2.2.2.1)
 (with_reducible refine (rChecks_any (c:=3) hro (fun b hb=>hb) (by unfold maxArgs;omega) (by omega) (mem3 HFi.out.1 HFi.out.2.1 HFi.out.2.2)).mono ?_)
 rintro e u2 ⟨rfl,hb⟩
 replace KM:=Lib.hid (KR.out.trans (hb.mono KR.out.size))
 obtain ⟨cc,hcc⟩:∃ cc,checksP [t,f,d]=cc:=⟨_,rfl⟩
 rw [show checksP (List.map (·.1) [(t,Value.slice A1 L1 c1),(f,.slice A2 L2 c2),(d,.slice A3 L3 c3)])=cc from hcc]
 clear hro hbr hb KR
 clear x0 x1 x2 x3 x4 x5 y0 y1 y2 y3 y4 y5 z0 z1 z2 z3 z4 z5
 by_cases h0:cc=0
 ·subst h0
  have HCC:=Lib.hid hcc
  have HSz:=Lib.hid (show sz t≤100000∧sz f≤100000∧sz d≤100000 from by
   obtain ⟨h1,h2,h3⟩:=checks3.1 hcc
   have:=(check_iff.1 h1).1
   have:=(check_iff.1 h2).1
   have:=(check_iff.1 h3).1
   omega)
  clear hcc
  obtain ⟨x0,x1,x2,x3,x4,x5⟩:=(HXt.out _ KM.out).1.cells HM1.out.1 HM1.out.2
  have hH:=high_any (HXt.out _ KM.out).2.2.2.1 HSz.out.1
  rw [HV.out.1] at hH
  have HH:=Lib.hid hH
  clear hH
  go_wp2_with fail
  (with_reducible refine HH.out.mono ?_)
  rintro e u3 ⟨rfl,hb⟩
  replace KM:=Lib.hid (KM.out.trans (hb.mono KM.out.size))
  obtain ⟨B1,hB1⟩:∃ B,highB t=B:=⟨_,rfl⟩
  rw [hB1]
  have HB1:=Lib.hid hB1
  clear hb HH hB1 x0 x1 x2 x3 x4 x5
  cases B1
  case true=>
   go_wp2
   go_ret
   exact ⟨rfl,(HXt.out _ KM.out).2.2.2.2.2.2.2⟩
  obtain ⟨y0,y1,y2,y3,y4,y5⟩:=(HXt.out _ KM.out).2.1.cells HM2.out.1 HM2.out.2
  have hH:=high_any (HXt.out _ KM.out).2.2.2.2.1 HSz.out.2.1
  rw [HV.out.2.1] at hH
  have HH:=Lib.hid hH
  clear hH
  go_wp2_with fail
  (with_reducible refine HH.out.mono ?_)
  rintro e u4 ⟨rfl,hb⟩
  replace KM:=Lib.hid (KM.out.trans (hb.mono KM.out.size))
  obtain ⟨B2,hB2⟩:∃ B,highB f=B:=⟨_,rfl⟩
  rw [hB2]
  have HB2:=Lib.hid hB2
  clear hb HH hB2 y0 y1 y2 y3 y4 y5
  cases B2
  case true=>
   go_wp2
   go_ret
   exact ⟨rfl,(HXt.out _ KM.out).2.2.2.2.2.2.2⟩
  obtain ⟨z0,z1,z2,z3,z4,z5⟩:=(HXt.out _ KM.out).2.2.1.cells HM3.out.1 HM3.out.2
  have hH:=high_any (HXt.out _ KM.out).2.2.2.2.2.1 HSz.out.2.2
  rw [HV.out.2.2] at hH
  have HH:=Lib.hid hH
  clear hH
  go_wp2_with fail
  (with_reducible refine HH.out.mono ?_)
  rintro e u5 ⟨rfl,hb⟩
  replace KM:=Lib.hid (KM.out.trans (hb.mono KM.out.size))
  obtain ⟨B3,hB3⟩:∃ B,highB d=B:=⟨_,rfl⟩
  rw [hB3]
  have HB3:=Lib.hid hB3
  clear hb HH hB3 z0 z1 z2 z3 z4 z5
  cases B3
  case true=>
   go_wp2
   go_ret
   exact ⟨rfl,(HXt.out _ KM.out).2.2.2.2.2.2.2⟩
  go_upto_region 4 with fail
  refine wp_region_U 7 (by kernel_rfl) (fun g0 K0 hs0=>?_)
  refine tkW 0 (v:=?tv1) K0 rfl (by kernel_rfl) ?tq1 rfl (fun w5 hS=>?ty1) ?_
  case ty1=>obtain ⟨x0,x1,x2,x3,x4,x5⟩:=(HXt.out _ (KM.out.trans (hS.mono KM.out.size))).1.cells HM1.out.1 HM1.out.2;go_simp;rfl
  case tq1=>exact fun _ _ _ h=>h
  refine tkW 2 (v:=?tv2) K0 rfl (by kernel_rfl) ?tq2 rfl (fun w5 hS=>?ty2) ?_
  case ty2=>obtain ⟨y0,y1,y2,y3,y4,y5⟩:=(HXt.out _ (KM.out.trans (hS.mono KM.out.size))).2.1.cells HM2.out.1 HM2.out.2;go_simp;rfl
  case tq2=>exact fun _ _ _ h=>h
  refine tkW 4 (v:=?tv3) K0 rfl (by kernel_rfl) ?tq3 rfl (fun w5 hS=>?ty3) ?_
  case ty3=>obtain ⟨z0,z1,z2,z3,z4,z5⟩:=(HXt.out _ (KM.out.trans (hS.mono KM.out.size))).2.2.1.cells HM3.out.1 HM3.out.2;go_simp;rfl
  case tq3=>exact fun _ _ _ h=>h
  refine wpAnyW_one (i:=1) (by kernel_rfl) rfl (fun K hK=>?_)
  have hA:=Above_any (HXt.out _ (KM.out.trans (K0.mono KM.out.size))).2.2.2.1 HSz.out.1 (fun x hx=>⟨vars_nn' (checks3.1 HCC.out).1 x hx,by have:=highB_le' HB1.out x hx;omega⟩)
  rw [HV.out.1] at hA
  have HA:=Lib.hid hA
  clear hA
  go_simp
  (with_reducible refine HA.out.mono ?_)
  rintro e g1 ⟨rfl,hb⟩
  have K1:=K0.trans (hb.mono K0.size)
  clear hb HA
  refine hK.out _ _ (fun _=>K1) ?_
  refine wpAnyW_one (i:=3) (by kernel_rfl) rfl (fun K hK=>?_)
  have hA:=Above_any (HXt.out _ (KM.out.trans (K1.mono KM.out.size))).2.2.2.2.1 HSz.out.2.1 (fun x hx=>⟨vars_nn' (checks3.1 HCC.out).2.1 x hx,by have:=highB_le' HB2.out x hx;omega⟩)
  rw [HV.out.2.1] at hA
  have HA:=Lib.hid hA
  clear hA
  go_simp
  (with_reducible refine HA.out.mono ?_)
  rintro e g2 ⟨rfl,hb⟩
  have K2:=K1.trans (hb.mono K1.size)
  clear hb HA
  refine hK.out _ _ (fun _=>K2) ?_
  refine wpAnyW_one (i:=5) (by kernel_rfl) rfl (fun K hK=>?_)
  have hA:=Above_any (HXt.out _ (KM.out.trans (K2.mono KM.out.size))).2.2.2.2.2.1 HSz.out.2.2 (fun x hx=>⟨vars_nn' (checks3.1 HCC.out).2.2 x hx,by have:=highB_le' HB3.out x hx;omega⟩)
  rw [HV.out.2.2] at hA
  have HA:=Lib.hid hA
  clear hA
  go_simp
  (with_reducible refine HA.out.mono ?_)
  rintro e g3 ⟨rfl,hb⟩
  have K3:=K2.trans (hb.mono K2.size)
  clear hb HA
  refine hK.out _ _ (fun _=>K3) ?_
  obtain ⟨n,hn,hn1,hn2,hn3,hn4⟩:=three (a:=above t) (b:=above f) (c:=above d)
  have hnn:=above_nn t
  have hna:=above_le HB1.out
  have hnb:=above_le HB2.out
  have hnc:=above_le HB3.out
  have hn0:0≤n:=by omega
  have hnM:n≤4611686018427387905:=by omega
  have HN:=Lib.hid (And.intro hn hn1)
  have HAb:=Lib.hid (show above t≤4611686018427387905∧above f≤4611686018427387905∧above d≤4611686018427387905∧0≤above t∧0≤above f∧0≤above d from ⟨hna,hnb,hnc,hnn,above_nn f,above_nn d⟩)
  generalize hp1:above t=p1 at *
  generalize above f=p2 at *
  generalize above d=p3 at *
  have HP1:=Lib.hid hp1
  clear hp1
  clear hn1 hn2 hn3 hn4 hnn hna hnb hnc
  refine wpAnyW_one (i:=6) (by kernel_rfl) rfl (fun K hK=>?_)
  go_simp
  simp only [if_max,hn]
  refine hK.out _ _ (fun _=>K3) ?_
  refine wpAnyW_one (i:=7) (by kernel_rfl) rfl (fun K hK=>?_)
  go_simp
  refine hK.out _ _ (fun _=>K3) ?_
  refine wpAnyW_done (by kernel_rfl) ?_ _
  clear hn
  replace KM:=Lib.hid (KM.out.trans (K3.mono KM.out.size))
  clear K0 K1 K2 K3 hs0
  obtain ⟨x0,x1,x2,x3,x4,x5⟩:=(HXt.out _ KM.out).1.cells HM1.out.1 HM1.out.2
  obtain ⟨y0,y1,y2,y3,y4,y5⟩:=(HXt.out _ KM.out).2.1.cells HM2.out.1 HM2.out.2
  obtain ⟨z0,z1,z2,z3,z4,z5⟩:=(HXt.out _ KM.out).2.2.1.cells HM3.out.1 HM3.out.2
  have hB:=Body_q (HXt.out _ KM.out).2.2.2.1 (HXt.out _ KM.out).2.2.2.2.1 (HXt.out _ KM.out).2.2.2.2.2.1 (HXt.out _ KM.out).2.2.2.2.2.2.1 HCC.out (show 0≤n+2 by omega)
  rw [HV.out.1,HV.out.2.1,HV.out.2.2] at hB
  have HB:=Lib.hid hB
  clear hB
  go_wp2_with fail
  (with_reducible refine HB.out.mono ?_)
  rintro e u5 hq
  obtain ⟨k4,n4,m4,b4,v4,ts4,nb4,mb4,A4,L4,c4,kk4,ev4,rfl,hn4,hm4,hL4,hb,hq⟩:=hq.letters
  replace KM:=Lib.hid (KM.out.trans (hb.mono KM.out.size))
  have HQ4:=Lib.hid hq
  have HM4:=Lib.hid (And.intro hn4 (And.intro hm4 hL4))
  clear hb hq hn4 hm4 hL4 HB
  clear x0 x1 x2 x3 x4 x5 y0 y1 y2 y3 y4 y5 z0 z1 z2 z3 z4 z5
  go_upto_region 6 with fail
  have HU:=Lib.hid (show ∀ z,u5.alloc (.cells #[.int .i64 k4,.string nb4,.string mb4,.int .u64 b4,.int .i64 v4,.slice A4 L4 c4] 25)=z→Below u0.heap.size u0 z∧TBox z u5.heap.size (.mk k4 n4 m4 b4 v4 ts4) (.slice A4 L4 c4)∧Below u5.heap.size u5 z from fun z e=>by
   rw [←e]
   have hb:Below u5.heap.size u5 (u5.alloc (.cells #[.int .i64 k4,.string nb4,.string mb4,.int .u64 b4,.int .i64 v4,.slice A4 L4 c4] 25)):=(Below.refl _ _).alloc (Nat.le_refl _) _
   exact ⟨KM.out.trans (hb.mono KM.out.size),TBox.new u5 HM4.out.1 HM4.out.2.1,hb⟩)
  generalize u5.alloc (.cells #[.int .i64 k4,.string nb4,.string mb4,.int .u64 b4,.int .i64 v4,.slice A4 L4 c4] 25)=u6 at *
  replace HU:=Lib.hid (HU.out _ rfl)
  replace KM:=Lib.hid HU.out.1
  replace HQ4:=Lib.hid (HQ4.out.imp id (fun h=>And.intro h.1 (And.intro h.2.1 (And.intro h.2.2.1 (h.2.2.2.at_.to HU.out.2.2 HU.out.2.2.size)))))
  replace HU:=Lib.hid HU.out.2.1
  generalize u5.heap.size=G4 at *
  have hwr1:IntKind.i64.wrap (n+1)=n+1:=IntWalk.i64_in _ (by omega)
  have hwr2:IntKind.i64.wrap (n+2)=n+2:=IntWalk.i64_in _ (by omega)
  refine wp_region_U 16 (by kernel_rfl) (fun g0 K0 hs0=>?_)
  refine tkW 0 (v:=?tv4) K0 rfl (by kernel_rfl) ?tq4 rfl (fun w5 hS=>?ty4) ?_
  case ty4=>obtain ⟨x0,x1,x2,x3,x4,x5⟩:=(HXt.out _ (KM.out.trans (hS.mono KM.out.size))).1.cells HM1.out.1 HM1.out.2;go_simp;rfl
  case tq4=>exact fun _ _ _ h=>h
  refine tkW 1 (v:=?tv5) K0 rfl (by kernel_rfl) ?tq5 rfl (fun w5 hS=>?ty5) ?_
  case ty5=>go_simp;rfl
  case tq5=>exact fun _ _ _ h=>h
  refine tkW 3 (v:=?tv6) K0 rfl (by kernel_rfl) ?tq6 rfl (fun w5 hS=>?ty6) ?_
  case ty6=>go_simp;rfl
  case tq6=>exact fun _ _ _ h=>h
  refine tkW 4 (v:=?tv7) K0 rfl (by kernel_rfl) ?tq7 rfl (fun w5 hS=>?ty7) ?_
  case ty7=>go_simp;rfl
  case tq7=>exact fun _ _ _ h=>h
  refine tkW 6 (v:=?tv8) K0 rfl (by kernel_rfl) ?tq8 rfl (fun w5 hS=>?ty8) ?_
  case ty8=>go_simp;rfl
  case tq8=>exact fun _ _ _ h=>h
  refine tkW 7 (v:=?tv9) K0 rfl (by kernel_rfl) ?tq9 rfl (fun w5 hS=>?ty9) ?_
  case ty9=>go_simp;rfl
  case tq9=>exact fun _ _ _ h=>h
  refine wpAnyW_float [13] (fun _=>.cells #[.int .i64 0,.string ⟨#[]⟩,.string ⟨#[]⟩,.int .u64 0,.int .i64 0,.slice none 0 0] 25) (by kernel_rfl) (by kernel_rfl) (FloatRun.one rfl (fun a w=>by go_simp)) (fun _ _ h1 h2=>h2.trans (h1.mono h2.size)) (by kernel_rfl) (fun _ _ _ _ _ h=>h) rfl K0 ?_
  refine wpAnyF_one (i:=2) (by kernel_rfl) (by kernel_rfl) (fun _ _ _ _ _ h=>h) ⟨by kernel_rfl,by kernel_rfl⟩ (by kernel_rfl) rfl (by kernel_rfl) (fun g1 d1 K1 K hK=>?_)
  go_simp
  (with_reducible refine (lv_any _ _).mono ?_)
  rintro e g2 ⟨rfl,hb⟩
  have K2:=K1.trans (hb.mono K1.size)
  have hs12:=hb.size
  refine hK.out _ _ hb K2 ?_
  clear hb
  refine wpAnyF_one (i:=5) (by kernel_rfl) (by kernel_rfl) (fun _ _ _ _ _ h=>h) ⟨by kernel_rfl,by kernel_rfl⟩ (by kernel_rfl) rfl (by kernel_rfl) (fun g3 d3 K3 K hK=>?_)
  go_simp
  (with_reducible refine (lv_any _ _).mono ?_)
  rintro e g4 ⟨rfl,hb⟩
  have K4:=K3.trans (hb.mono K3.size)
  have hs34:=hb.size
  refine hK.out _ _ hb K4 ?_
  clear hb
  refine wpAnyF_one (i:=8) (by kernel_rfl) (by kernel_rfl) (fun _ _ _ _ _ h=>h) ⟨by kernel_rfl,by kernel_rfl⟩ (by kernel_rfl) rfl (by kernel_rfl) (fun g5 d5 K5 K hK=>?_)
  have K5':=KM.out.trans (K5.mono KM.out.size)
  have hB:=Body_q (HXt.out _ K5').2.2.2.1 (var_at g5 (fun b=>b<g5.heap.size) (n:=n) (by omega)) (var_at g5 (fun b=>b<g5.heap.size) (n:=n+1) (by omega)) (HXt.out _ K5').2.2.2.2.2.2.1 (nx:=n+2) (checks3.2 ⟨(checks3.1 HCC.out).1,check_var hn0,check_var (by omega)⟩) (show 0≤n+2 by omega)
  rw [HV.out.1,show valT (varT n) (.slice none 0 0) = .agg #[.int .i64 1,.string ⟨#[]⟩,.string ⟨#[]⟩,.int .u64 0,.int .i64 n,.slice none 0 0] from rfl,show valT (varT (n+1)) (.slice none 0 0) = .agg #[.int .i64 1,.string ⟨#[]⟩,.string ⟨#[]⟩,.int .u64 0,.int .i64 (n+1),.slice none 0 0] from rfl] at hB
  have HB:=Lib.hid hB
  clear hB K5'
  go_simp
  (with_reducible refine HB.out.mono ?_)
  rintro e g6 hq
  obtain ⟨k5,n5,m5,b5,v5,ts5,nb5,mb5,A5,L5,c5,kk5,ev5,rfl,hn5,hm5,hL5,hb,hq⟩:=hq.letters
  have K6:=K5.trans (hb.mono K5.size)
  have hs56:=hb.size
  have HQ5:=Lib.hid hq
  have HM5:=Lib.hid (And.intro hn5 (And.intro hm5 hL5))
  refine hK.out _ _ hb K6 ?_
  clear hb hq hn5 hm5 hL5 HB
  refine tkF 9 (v:=?tv10) rfl (by kernel_rfl) ?tq10 rfl (fun w5 hS=>?ty10) ?_
  case ty10=>go_simp;rfl
  case tq10=>exact fun _ _ _ h=>h
  refine tkF 10 (v:=?tv11) rfl (by kernel_rfl) ?tq11 rfl (fun w5 hS=>?ty11) ?_
  case ty11=>go_simp;rfl
  case tq11=>exact fun _ _ _ h=>h
  refine tkF 11 (v:=?tv12) rfl (by kernel_rfl) ?tq12 rfl (fun w5 hS=>?ty12) ?_
  case ty12=>go_simp;rfl
  case tq12=>exact fun _ _ _ h=>h
  refine tkF 12 (v:=?tv13) rfl (by kernel_rfl) ?tq13 rfl (fun w5 hS=>?ty13) ?_
  case ty13=>go_simp;rfl
  case tq13=>exact fun _ _ _ h=>h
  refine wpAnyF_land1 (by kernel_rfl) rfl (fun g7 HA d7 K7 hA gA=>?_)
  have hAl:u6.heap.size≤HA:=by
   have h1:=K1.size
   have h2:=K2.size
   have h3:=K3.size
   have h4:=K4.size
   have h5:=K5.size
   have h6:=K6.size
   have hd1:=d1.size
   have hd3:=d3.size
   have hd5:=d5.size
   rcases gA with (((h | h) | h) | h) | h
   ·exact h.elim
   ·omega
   ·omega
   ·omega
   ·omega
  have hAg:HA≠G4:=by have:=HU.out.lt;omega
  replace hA:TBox g7 HA zeroT (.slice none 0 0):=hA
  have hAf:HA<g5.heap.size∨g6.heap.size≤HA:=by
   have h1:=K1.size
   have hd1:=d1.size
   have hd3:=d3.size
   have hd5:=d5.size
   rcases gA with (((h | h) | h) | h) | h
   ·exact h.elim
   ·omega
   ·omega
   ·omega
   ·omega
  obtain ⟨a0,a1,a2,a3,a4,a5⟩:=hA.cells (nb:=⟨#[]⟩) (mb:=⟨#[]⟩) rfl rfl
  obtain ⟨f0,f1,f2,f3,f4,f5⟩:=hA.frozens
  have HS:=Lib.hid (hA.set6 (k:=k5) (b:=b5) (v:=v5) ts5 (.slice A5 L5 c5) HM5.out.1 HM5.out.2.1)
  refine wpAnyW_one (i:=14) (by kernel_rfl) rfl (fun K hK=>?_)
  go_simp
  generalize (((((g7.setCell ⟨HA,0,none⟩ (.int .i64 k5)).setCell ⟨HA,1,none⟩ (.string nb5)).setCell ⟨HA,2,none⟩ (.string mb5)).setCell ⟨HA,3,none⟩ (.int .u64 b5)).setCell ⟨HA,4,none⟩ (.int .i64 v5)).setCell ⟨HA,5,none⟩ (.slice A5 L5 c5)=u7 at *
  have hK7:=K7.grown HS.out.2 K7.size (fun j e=>by injection e with e;omega)
  refine hK.out _ _ (fun _=>hK7) ?_
  refine wpAnyW_one (i:=15) (by kernel_rfl) rfl (fun K hK=>?_)
  go_simp
  refine hK.out _ _ (fun _=>hK7) ?_
  refine wpAnyW_one (i:=16) (by kernel_rfl) rfl (fun K hK=>?_)
  go_simp
  refine hK.out _ _ (fun _=>hK7) ?_
  refine wpAnyW_done (by kernel_rfl) ?_ _
  have HY:=Lib.hid (show Below u0.heap.size u0 u7∧TBox u7 G4 (.mk k4 n4 m4 b4 v4 ts4) (.slice A4 L4 c4)∧TBox u7 HA (.mk k5 n5 m5 b5 v5 ts5) (.slice A5 L5 c5) from ⟨KM.out.trans (hK7.mono KM.out.size),(HU.out.below K7).gro HS.out.2 hAg.symm,HS.out.1⟩)
  replace HQ4:=Lib.hid (HQ4.out.imp id (fun h=>And.intro h.1 (And.intro h.2.1 (And.intro h.2.2.1 (h.2.2.2.to hK7 hK7.size)))))
  replace HQ5:=Lib.hid (HQ5.out.imp id (fun h=>And.intro h.1 (And.intro h.2.1 (And.intro h.2.2.1 (show TAt u7 u7.heap.size (.mk k5 n5 m5 b5 v5 ts5) (.slice A5 L5 c5) from TAtP.keep _ h.2.2.2 (fun b hb=>by
   have h6:=d7.size
   have h7:=HS.out.2.size
   refine ⟨by omega,(HS.out.2.block b (by omega) (fun e=>by injection e with e;omega)).trans (d7.block b hb.2)⟩))))))
  clear K0 K1 K2 K3 K4 K5 K6 K7 d1 d3 d5 d7 hs0 hA gA hAl hAf hAg a0 a1 a2 a3 a4 a5 f0 f1 f2 f3 f4 f5 HS hK7 KM HU hs12 hs34 hs56
  rcases HQ4.out with ⟨_,hbad⟩ | ⟨hr4,hnx,he4,_⟩
  ·rcases hbad with ⟨ce,rfl⟩ | ⟨bb,rfl⟩
   ·go_wp2
    go_ret
    exact ⟨rfl,(HXt.out _ HY.out.1).2.2.2.2.2.2.2⟩
   ·go_wp2
    go_ret
    exact ⟨rfl,(HXt.out _ HY.out.1).2.2.2.2.2.2.2⟩
  subst he4
  obtain ⟨bt,hbt,hin,hck,hsz⟩:=lists_k HCC.out (show above t≤n by rw [HP1.out];exact HN.out.2) hr4
  obtain ⟨hr5,he5,ht5⟩:bodyT t (varT n) (varT (n+1)) (n+2) = .ok ((.mk k5 n5 m5 b5 v5 ts5),kk5)∧ev5 = .nilIface∧TAt u7 u7.heap.size (.mk k5 n5 m5 b5 v5 ts5) (.slice A5 L5 c5):=by
   rcases HQ5.out with ⟨hno,_⟩ | ⟨h1,_,h2,h3⟩
   ·exact absurd ⟨_,hbt,hnx⟩ hno
   ·exact ⟨h1,h2,h3⟩
  subst he5
  rw [hbt] at hr5
  injection hr5 with hr5
  injection hr5 with e1 e2
  subst e1 e2
  have HIn:=Lib.hid (And.intro hin (And.intro hck (And.intro hsz ht5)))
  clear hbt hin hck hsz ht5 hr4 hnx
  obtain ⟨a0,a1,a2,a3,a4,a5⟩:=HY.out.2.2.cells HM5.out.1 HM5.out.2.1
  obtain ⟨y0,y1,y2,y3,y4,y5⟩:=(HXt.out _ HY.out.1).2.1.cells HM2.out.1 HM2.out.2
  obtain ⟨z0,z1,z2,z3,z4,z5⟩:=(HXt.out _ HY.out.1).2.2.1.cells HM3.out.1 HM3.out.2
  go_wp2_with fail
  obtain ⟨_,ef,ed⟩:=HTE.out
  subst ef ed
  have hbr:Below u7.heap.size u7 (u7.alloc (.cells #[.int .i64 n,.int .i64 k2,.string nb2,.string mb2,.int .u64 b2,.int .i64 v2,.slice A2 L2 c2,.int .i64 (n+1),.int .i64 k3,.string nb3,.string mb3,.int .u64 b3,.int .i64 v3,.slice A3 L3 c3] 54)):=(Below.refl _ _).alloc (Nat.le_refl _) _
  have KR:=Lib.hid (HY.out.1.trans (hbr.mono HY.out.1.size))
  have hrow:=bRow2 (w:=u7.alloc (.cells #[.int .i64 n,.int .i64 k2,.string nb2,.string mb2,.int .u64 b2,.int .i64 v2,.slice A2 L2 c2,.int .i64 (n+1),.int .i64 k3,.string nb3,.string mb3,.int .u64 b3,.int .i64 v3,.slice A3 L3 c3] 54)) (G:=u7.heap.size) (n:=n) HM2.out.1 HM2.out.2 HM3.out.1 HM3.out.2 ⟨hn0,by omega⟩ (HXt.out _ KR.out).2.2.2.2.1 (HXt.out _ KR.out).2.2.2.2.2.1 (heap_alloc_new u7 (.cells #[.int .i64 n,.int .i64 k2,.string nb2,.string mb2,.int .u64 b2,.int .i64 v2,.slice A2 L2 c2,.int .i64 (n+1),.int .i64 k3,.string nb3,.string mb3,.int .u64 b3,.int .i64 v3,.slice A3 L3 c3] 54))
  have hP:=Put_any (HIn.out.2.2.2.to hbr hbr.size) (fits_check HIn.out.2.1) HIn.out.2.1 (putOk2 hrow hn0 (checks3.1 HCC.out).2.1 (checks3.1 HCC.out).2.2) (by rw [HIn.out.1];exact HIn.out.2.2.1)
  rw [HIn.out.1,valT_mk HM5.out.1 HM5.out.2.1] at hP
  have HP:=Lib.hid (put_letters HM4.out.1 HM4.out.2.1 HM4.out.2.2 hP)
  have HBr:=Lib.hid hbr
  clear hP hrow hbr a0 a1 a2 a3 a4 a5 y0 y1 y2 y3 y4 y5 z0 z1 z2 z3 z4 z5
  (with_reducible refine HP.out.mono ?_)
  rintro e u9 ⟨A6,c6,rfl,hf6,hb⟩
  replace KR:=Lib.hid (KR.out.trans (hb.mono KR.out.size))
  have HF6:=Lib.hid hf6
  have HY9:=Lib.hid (show TBox u9 G4 (.mk k4 n4 m4 b4 v4 ts4) (.slice A4 L4 c4)∧TAt u9 u9.heap.size (.mk k4 n4 m4 b4 v4 ts4) (.slice A4 L4 c4) from by
   have h9:=HBr.out.trans (hb.mono HBr.out.size)
   refine ⟨HY.out.2.1.below h9,?_⟩
   rcases HQ4.out with ⟨_,⟨ce,h⟩ | ⟨bb,h⟩⟩ | ⟨_,_,_,h⟩
   ·cases h
   ·cases h
   ·exact h.to h9 h9.size)
  clear hf6 hb HP HBr
  go_upto_region 10 with fail
  have HZ:=Lib.hid (show ∀ z,u9.alloc (.cells #[.int .i64 k4,.string nb4,.string mb4,.int .u64 b4,.int .i64 v4,.slice A6 L4 c6] 25)=z→Below u0.heap.size u0 z∧TBox z u9.heap.size (.mk k4 n4 m4 b4 v4 ts4) (.slice A6 L4 c6)∧TBox z G4 (.mk k4 n4 m4 b4 v4 ts4) (.slice A4 L4 c4)∧TAt z z.heap.size (.mk k4 n4 m4 b4 v4 ts4) (.slice A6 L4 c6)∧TAt z z.heap.size (.mk k4 n4 m4 b4 v4 ts4) (.slice A4 L4 c4) from fun z e=>by
   rw [←e]
   have hb:Below u9.heap.size u9 (u9.alloc (.cells #[.int .i64 k4,.string nb4,.string mb4,.int .u64 b4,.int .i64 v4,.slice A6 L4 c6] 25)):=(Below.refl _ _).alloc (Nat.le_refl _) _
   exact ⟨KR.out.trans (hb.mono KR.out.size),TBox.new u9 HM4.out.1 HM4.out.2.1,HY9.out.1.below hb,HF6.out.at_.to hb hb.size,HY9.out.2.to hb hb.size⟩)
  generalize u9.alloc (.cells #[.int .i64 k4,.string nb4,.string mb4,.int .u64 b4,.int .i64 v4,.slice A6 L4 c6] 25)=z9 at *
  replace HZ:=Lib.hid (HZ.out _ rfl)
  generalize u9.heap.size=G6 at *
  obtain ⟨a0,a1,a2,a3,a4,a5⟩:=HZ.out.2.1.cells HM4.out.1 HM4.out.2.1
  obtain ⟨y0,y1,y2,y3,y4,y5⟩:=HZ.out.2.2.1.cells HM4.out.1 HM4.out.2.1
  have hSm:=Same_any (.mk k4 n4 m4 b4 v4 ts4) z9 (.slice A4 L4 c4) (.slice A6 L4 c6) HZ.out.2.2.2.2 HZ.out.2.2.2.1
  rw [valT_mk HM4.out.1 HM4.out.2.1,valT_mk HM4.out.1 HM4.out.2.1] at hSm
  have HSm:=Lib.hid hSm
  clear hSm
  go_wp2_with fail
  (with_reducible refine HSm.out.mono ?_)
  rintro e u10 ⟨rfl,hb⟩
  have KL:=Lib.hid (HZ.out.1.trans (hb.mono HZ.out.1.size))
  clear hb HSm a0 a1 a2 a3 a4 a5 y0 y1 y2 y3 y4 y5
  have hkk:(kk4==kk4)=true:=beq_self_eq_true kk4
  go_wp2
  go_ret
  exact ⟨rfl,(HXt.out _ KL.out).2.2.2.2.2.2.2⟩
 ·have hcb:(cc==0)=false:=beq_eq_false_iff_ne.2 h0
  go_wp2
  go_ret
  exact ⟨rfl,(HXt.out _ KM.out).2.2.2.2.2.2.2⟩
end Go.Proofs.YtgfeainpeplphaaDoor
namespace Go.Proofs.YtgfeainpeplphaaDoor
open Go.ChangeShapes Go.WideShapes Go.ChangeAt Go.RowKit Go.Joins Hb Ht
set_option linter.unusedVariables false
theorem lists_res:Tryd.f5.resultTypes = #[4]:=by kernel_rfl
set_option maxRecDepth 1000000 in
theorem lists_contract (H:Type) (enc:TypeId × Value→H) (W:World) (base:Nat) (args:Array Value) (ds gs:List (DataW H)) (before:List MemPlace)
  (hval:∀ (j:Nat) t v,Tryd.f5.params[j]?=some t→args[j]?=some v→Value.okWide Tryd.prog W .any base t v)
  (hW:DataW.Whole enc Tryd.prog Tryd.f5.params.toList Rows.dcgListsSpec.vars false W args.toList ds gs before) (hwt:(DataW.weightsEach Tryd.prog (Tryd.f5.params.toList ++ []) (ds ++ gs)).all (· ≤ reachBytes)=true) (hL:laidMetH Tryd.prog Rows.dcgFreshRow.laid W) :
  Calls Tryd.prog 5 args W fun e W'=>∃ v,e = .returned v∧Rows.dcgListsSpec.post enc Tryd.prog Tryd.f5 false true false false W args v W':=by
 have hW':=hW
 obtain ⟨p,q,hA0,hV,rfl,hfz,hnd⟩:=hW
 have hA:DataW.TrodAll enc Tryd.prog W 0 (fun _=>true) true Tryd.f5.params.toList args.toList ds p:=hA0
 rw [Tryd.params5] at hA hval hwt
 obtain ⟨v0,vs0,d0,ds0,p0,q0,hargs,rfl,rfl,h0,r0⟩:=trodAll_cons hA
 obtain ⟨v1,vs1,d1,ds1,p1,q1,rfl,rfl,rfl,h1,r1⟩:=trodAll_cons r0
 obtain ⟨v2,vs2,d2,ds2,p2,q2,rfl,rfl,rfl,h2,r2⟩:=trodAll_cons r1
 obtain ⟨rfl,rfl,rfl⟩:=trodAll_nil r2
 obtain rfl:args = #[v0,v1,v2]:=by cases args;simp_all
 obtain ⟨rfl,rfl⟩:=trodVars_none hV
 obtain ⟨t0,sl0,e0,ha0,hf0⟩:=open_Term (hval 0 25 v0 rfl rfl) h0 (arg_weights (j:=0) hwt rfl rfl)
 subst e0
 obtain ⟨t1,sl1,e1,ha1,hf1⟩:=open_Term (hval 1 25 v1 rfl rfl) h1 (arg_weights (j:=1) hwt rfl rfl)
 subst e1
 obtain ⟨t2,sl2,e2,ha2,hf2⟩:=open_Term (hval 2 25 v2 rfl rfl) h2 (arg_weights (j:=2) hwt rfl rfl)
 subst e2
 have hwalk:=Lists_walk ha0 ha1 ha2 hf0 hf1 hf2 (vtabs_laid hL).ok
 refine hwalk.mono fun e W' ⟨he,hb⟩=>?_
 subst he
 refine ⟨_,rfl,law_end (bt:=4) laidK (fun t ht=>?_) lists_res Tryd.underlying4 rfl hW' rfl hb⟩
 rw [Tryd.params5] at ht
 simp at ht
 subst ht
 exact ⟨by kernel_rfl,of_decide_eq_true (by kernel_rfl)⟩
theorem lists_reads (os:Os) {H:Type} (enc:TypeId × Value→H):∃ places,DataW.whole enc Tryd.prog ((dcgWorld os).forCall (fun _ _=>0) ⟨#[],#[.agg #[.int .i64 0,.string ⟨#[]⟩,.string ⟨#[]⟩,.int .u64 0,.int .i64 0,.slice none 0 0],.agg #[.int .i64 0,.string ⟨#[]⟩,.string ⟨#[]⟩,.int .u64 0,.int .i64 0,.slice none 0 0],.agg #[.int .i64 0,.string ⟨#[]⟩,.string ⟨#[]⟩,.int .u64 0,.int .i64 0,.slice none 0 0]],[]⟩).memory Tryd.f5.params.toList Rows.dcgListsSpec.vars false #[Value.agg #[.int .i64 0,.string ⟨#[]⟩,.string ⟨#[]⟩,.int .u64 0,.int .i64 0,.slice none 0 0],Value.agg #[.int .i64 0,.string ⟨#[]⟩,.string ⟨#[]⟩,.int .u64 0,.int .i64 0,.slice none 0 0],Value.agg #[.int .i64 0,.string ⟨#[]⟩,.string ⟨#[]⟩,.int .u64 0,.int .i64 0,.slice none 0 0]].toList 8 =
  some ([.agg [.lit (.int .i64 0),.lit (.string []),.lit (.string []),.lit (.int .u64 0),.lit (.int .i64 0),.nil],.agg [.lit (.int .i64 0),.lit (.string []),.lit (.string []),.lit (.int .u64 0),.lit (.int .i64 0),.nil],.agg [.lit (.int .i64 0),.lit (.string []),.lit (.string []),.lit (.int .u64 0),.lit (.int .i64 0),.nil]],[],places):=
 ⟨[],by kernel_rfl⟩
set_option maxRecDepth 100000 in
theorem lists_lifted (os:Os) (started:os.Started) (H:Type) (enc:TypeId × Value→H) (F:Stop.Interp) :
  ReturnsInHanded {} Tryd.checked os 5 .any ((OpenSpec.ofChange Rows.dcgListsSpec).preRow enc Tryd.prog Tryd.f5 Rows.dcgListsRow.domain false Rows.dcgListsRow.laid) (((OpenSpec.ofChange Rows.dcgListsSpec).at F).post enc Tryd.prog Tryd.f5 false true false false):=by
 obtain ⟨places,hx⟩:=lists_reads os enc
 refine returnsInHanded_of_row (C:=Tryd.checked) (s:=OpenSpec.ofChange Rows.dcgListsSpec) dcgOwn started (by kernel_rfl) Tryd.func5
  (witness_row_atRef (enc:=enc) (C:=Tryd.checked) false (dcgWorld os) #[.agg #[.int .i64 0,.string ⟨#[]⟩,.string ⟨#[]⟩,.int .u64 0,.int .i64 0,.slice none 0 0],.agg #[.int .i64 0,.string ⟨#[]⟩,.string ⟨#[]⟩,.int .u64 0,.int .i64 0,.slice none 0 0],.agg #[.int .i64 0,.string ⟨#[]⟩,.string ⟨#[]⟩,.int .u64 0,.int .i64 0,.slice none 0 0]] (World.laidAll_os _ _ _) (by kernel_rfl) (by kernel_rfl) (by kernel_rfl)
   (OpenSpec.preRow_of_cond 8 hx (by kernel_rfl) (fun k hk=>by cases hk) (by kernel_rfl) (dcgWorld_met os _))) ?_
 intro W base args ds gs before hval hW _ _ hwt hL _ _
 exact lists_contract H enc W base args ds gs before hval hW hwt hL
theorem lists_said:Rows.DcgListsSaid:=
 OpenClaim.holds_of_cond 5 Tryd.f5 rfl rfl rfl rfl rfl rfl rfl ⟨rfl,rfl,rfl,rfl,rfl⟩ rfl rfl rfl rfl rfl (by kernel_rfl) Tryd.func5 (by kernel_rfl)
  (of_decide_eq_true (by kernel_rfl)) (by unfold Func.isWrapper;first | (rw [if_pos (by decide +kernel)];kernel_rfl) | (rw [if_neg (by decide +kernel)];exact ⟨rfl,rfl⟩))
  (fun os started H enc _ F=>by rw [OpenClaim.pre_eq_preRow];exact lists_lifted os started H enc F)
theorem lists_plain (f:FuncId) (fn:Func) (hf:Tryd.pinned.checked.prog.funcNamed "hornbeam/hornbeamlaw10.DcgLists" = some f) (hfn:Tryd.pinned.checked.prog.funcs[f]?=some fn) :
  true=Tryd.pinned.checked.prog.looks []∧∀ (j:Nat) t,fn.params[j]?=some t→Tryd.pinned.checked.prog.wantsStandIn t=false:=by
 obtain rfl:f=5:=Option.some.inj ((show Tryd.prog.funcNamed "hornbeam/hornbeamlaw10.DcgLists" = some 5 by kernel_rfl).symm.trans hf) |>.symm
 obtain rfl:fn=Tryd.f5:=(Option.some.inj (Tryd.func5.symm.trans hfn)).symm
 refine ⟨by kernel_rfl,fun j t ht=>?_⟩
 rw [Tryd.params5] at ht
 have hm:t ∈ [25,25,25]:=by simpa using Array.mem_of_getElem? ht
 have hall:([25,25,25].all fun u=>!Tryd.prog.wantsStandIn u)=true:=by kernel_rfl
 exact (show Tryd.prog.wantsStandIn t=false by simpa using List.all_eq_true.1 hall t hm)
theorem lists_card:Rows.DcgListsCardSaid:=
 Claim7.holds_tied_plain_at .later [] _ _ _ _ lists_said (fun _ h=>by cases h) (by kernel_rfl) (fun _ h=>by cases h) dcgLists_row_tie rfl ⟨rfl,rfl⟩ (by kernel_rfl) rfl lists_plain (by kernel_rfl)
end Go.Proofs.YtgfeainpeplphaaDoor
