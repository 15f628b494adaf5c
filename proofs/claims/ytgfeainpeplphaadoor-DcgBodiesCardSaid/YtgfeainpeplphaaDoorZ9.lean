import Derived.Lib.ValidLaws
import Derived.Lib.TrimUEq
import Derived.Test.YtgfeainpeplphaaDoorZ2
import Derived.Test.YtgfeainpeplphaaDoorZ4
import Derived.Test.YtgfeainpeplphaaDoorZ8
set_option linter.unusedVariables false
set_option linter.unusedSimpArgs false
namespace Go.Proofs.YtgfeainpeplphaaDoor
open Go.RowKit Hb
attribute [local go_sem] Oper.semAt_some
set_option maxRecDepth 100000 in
set_option maxHeartbeats 4000000 in
theorem rParse_goodL (s:ByteArray) (r:Nat) (w:World) (hs:s.size≤9223372036854775807) (hr:2≤r) (hr2:r≤36) :
  Calls Tryd.prog 78 #[.string s,.int .i64 (r:Int)] w (RpPost w (pVal s.data.toList r) (pCode s.data.toList r)):=by
 have HB:=Lib.hid ((Below.refl w.heap.size w).alloc (Nat.le_refl _) (.cells #[.bool false,.slice none 0 0] 106))
 have d1:decide ((r:Int)<2)=false:=decide_eq_false (by omega)
 have d2:decide ((36:Int)<(r:Int))=false:=decide_eq_false (by omega)
 have HP:=pNeg_cases s
 rcases HP with ⟨h1,hng⟩ | ⟨h1,hb,hng⟩ | ⟨h1,hb,hng,hs2,hsz2⟩
 ·obtain ⟨s',hs'⟩:∃ s':ByteArray,s'=s:=⟨_,rfl⟩
  have HS':=Lib.hid (And.intro (show s'.data.toList=pRest s.data.toList by rw [hs',pRest,hng];rfl) hng)
  have d5:decide ((0:Int)<(s'.size:Int))=false:=decide_eq_false (by rw [hs'];omega)
  have d6:decide (0<s'.size)=false:=decide_eq_false (by rw [hs'];omega)
  have hm:s'.size≤9223372036854775807:=by rw [hs'];omega
  have he0:s'.size=0:=by rw [hs'];exact h1
  rw [show (Value.string s) = .string s' by rw [hs']]
  clear hng h1 hs'
  go_enter Tryd.func78,Tryd.ntmps78
  have e1:=str_empty he0
  have HC:=Lib.hid (pCode_bad hr hr2 (pBad_empty (r:=r) HS'.out.1 he0))
  have hse:s'=⟨#[]⟩:=bytes_nil he0
  subst hse
  go_wp2
  exact bodyPost_ret (v:=.tuple #[zeroV,.int .i64 12]) (by simp [results,Tryd.results78,go_sem]) rfl (RpPost.bad HC.out (by decide) HB.out)
 ·obtain ⟨s',hs'⟩:∃ s':ByteArray,s'=s:=⟨_,rfl⟩
  have HS':=Lib.hid (And.intro (show s'.data.toList=pRest s.data.toList by rw [hs',pRest,hng];rfl) hng)
  have d5:decide ((0:Int)<(s'.size:Int))=true:=decide_eq_true (by rw [hs'];omega)
  have d6:decide (0<s'.size)=true:=decide_eq_true (by rw [hs'];exact h1)
  have hm:s'.size≤9223372036854775807:=by rw [hs'];omega
  have he:¬s'.size=0:=by rw [hs'];omega
  have hb9:∃ h:0<s'.size,s'[0].toNat≠45:=by subst hs';exact ⟨h1,hb⟩
  obtain ⟨h19,hb8⟩:=hb9
  rw [show (Value.string s) = .string s' by rw [hs']]
  have q2:(((s'[0]'h19).toNat:Int)==45)=false:=beq_eq_false_iff_ne.2 (by omega)
  clear hng h1 hs' hb hs hb8
  go_enter Tryd.func78,Tryd.ntmps78
  have hse:¬s'.size=0:=he
  have q1:=str_full hse
  go_wp2_with fail
  go_loop [7] (fun i=>∃ k:Nat,k≤s'.size∧i = .int .i64 k∧Hid (∀ j,j<k→(sdig s'.data.toList).getD j 0<r)) (fun i=>s'.size - (intOf i).toNat)
  case atStart=>exact ⟨0,Nat.zero_le _,rfl,Lib.hid (fun j hj=>absurd hj (Nat.not_lt_zero _))⟩
  case round=>
   obtain ⟨k,hk,rfl,hdj⟩:=hrel
   by_cases hks:k<s'.size
   ·have hk0:(0:Int)≤(k:Int):=by omega
    have hk1:(k:Int)<(s'.size:Int):=by omega
    have HV:=Lib.hid (fun w1=>rdigit_any s'[k].toNat w1 (UInt8.toNat_lt _))
    have HG:=Lib.hid (sdig_get s' hks)
    have H12:=Lib.hid (fun h=>pBad_at (r:=r) HS'.out.1 hks h)
    generalize hdv:dval s'[k].toNat=dv at *
    by_cases hlt:dv<r
    ·have d3:decide ((r:Int)≤(dv:Int))=false:=decide_eq_false (by omega)
     have d4:decide (r≤dv)=false:=decide_eq_false (by omega)
     clear hdv
     go_wp2_with (go_at_call 86;(with_reducible refine (HV.out _).mono ?_);rintro e w' ⟨rfl,rfl⟩)
     go_round
     case rel=>exact ⟨k+1,by omega,by go_num,Lib.hid (fun j hj=>by
      rcases Nat.lt_or_ge j k with h | h
      ·exact hdj.out j h
      ·obtain rfl:j=k:=by omega
       rw [HG.out];exact hlt)⟩
     case measure=>simp [intOf];omega
    ·have d3:decide ((r:Int)≤(dv:Int))=true:=decide_eq_true (by omega)
     have d4:decide (r≤dv)=true:=decide_eq_true (by omega)
     have HC:=Lib.hid (pCode_bad hr hr2 (H12.out (by omega)))
     clear hdv
     go_wp2_with (go_at_call 86;(with_reducible refine (HV.out _).mono ?_);rintro e w' ⟨rfl,rfl⟩)
     exact bodyPost_ret (v:=.tuple #[zeroV,.int .i64 12]) (by simp [results,Tryd.results78,go_sem]) rfl (RpPost.bad HC.out (by decide) HB.out)
   ·obtain rfl:k=s'.size:=by omega
    have HBd:=Lib.hid (pBad_none HS'.out.1 hse hdj.out)
    have HDJ:=hdj
    have hW0z:w.heap.size<(w.alloc (.cells #[.bool false,.slice none 0 0] 106)).heap.size:=by simp
    have HX:=Lib.hid (show (w.alloc (.cells #[.bool false,.slice none 0 0] 106)).heap[w.heap.size]?=some (.cells #[.bool false,.slice none 0 0] 106 (0,0)) from heap_alloc_new w _)
    go_wp2_with fail
    generalize (w.alloc (.cells #[.bool false,.slice none 0 0] 106))=W0 at *
    have HR0:=Lib.hid (RpRel.start W0)
    go_loopw [8,9] (fun bv iv wr=>∃ i:Nat,i≤s'.size∧iv = .int .i64 (i:Int)∧(digs 2 (pval r ((sdig s'.data.toList).take i))).length≤8192∧RpRel W0 (pval r ((sdig s'.data.toList).take i)) bv wr) (fun _ iv _=>s'.size - (intOf iv).toNat)
    case atStart=>exact ⟨0,Nat.zero_le _,rfl,by rw [List.take_zero];simp [pval,digs_zero],by rw [List.take_zero];exact HR0.out⟩
    case round=>
     obtain ⟨i,hi,rfl,hn8,A1,c1,rfl,ho1,hb1⟩:=hrel
     have HO:=Lib.hid ho1
     have HB1:=Lib.hid hb1
     have hz1:=hb1.size
     obtain ⟨V,hV⟩:∃ V,pval r ((sdig s'.data.toList).take i)=V:=⟨_,rfl⟩
     rw [hV] at HO hn8 ⊢
     have HV9:=Lib.hid hV
     have hi0:(0:Int)≤(i:Int):=by omega
     clear ho1 hb1 HR0 hV
     obtain ⟨n,hn⟩:∃ n,(digs 2 V).length=n:=⟨_,rfl⟩
     have HN:=Lib.hid hn
     rw [hn] at HO hn8 ⊢
     clear hn
     by_cases hgo:i<s'.size∧n≤4096
     ·have hiI:(i:Int)<(s'.size:Int):=by omega
      have hnI:(n:Int)≤4096:=by omega
      have hd6':decide (i<s'.size)=true:=decide_eq_true hgo.1
      have hd7':decide (n≤4096)=true:=decide_eq_true hgo.2
      have hd:=HDJ.out i hgo.1
      have HSn:=Lib.hid (show pval r ((sdig s'.data.toList).take (i+1))=V * r+dval s'[i].toNat by
       rw [List.take_succ_eq_append_getElem (by rw [sdig_length];exact hgo.1),pval_snoc,HV9.out,←sdig_get s' hgo.1,getD_eq (by rw [sdig_length];exact hgo.1)])
      rw [sdig_get s' hgo.1] at hd
      have HVd:=Lib.hid (fun w1=>rdigit_any s'[i].toNat w1 (UInt8.toNat_lt _))
      generalize dval s'[i].toNat=d at *
      obtain ⟨wo,hwo⟩:∃ wo:World,wo=wr:=⟨_,rfl⟩
      subst hwo
      have HDl:=Lib.hid (dig_digs (b:=2) (by decide) V)
      have HVl:=Lib.hid (nv_digs (b:=2) (by decide) V)
      generalize digs 2 V=l at *
      go_wp2_with (go_at_call 86;(with_reducible refine (HVd.out _).mono ?_);rintro e w' ⟨rfl,rfl⟩)
      go_loopw [10,11,12] (fun cv ov kv wr=>∃ (k cy:Nat) (O:List Nat) (A2:Option Addr) (c2:Nat),kv = .int .i64 (k:Int)∧cv = .int .i64 (cy:Int)∧ov = .slice A2 k c2∧Hid (RmInv l n r d k cy O)∧OwnI wr wo.heap.size A2 k c2 (i64s O)∧Below wo.heap.size wo wr) (fun cv _ kv _=>(n - (intOf kv).toNat) * 100+(intOf cv).toNat)
      case atStart=>exact ⟨0,d,[],none,0,rfl,rfl,rfl,Lib.hid ⟨rfl,Dig.nil _,by omega,fun _=>by omega,by simp [nvp_zero,nv]⟩,⟨rfl,.inl ⟨rfl,rfl⟩⟩,Below.refl _ _⟩
      case round=>
       obtain ⟨k,cy,O,A2,c2,rfl,rfl,rfl,HI,ho2,hb2⟩:=hrel
       have HO2:=Lib.hid ho2
       have HB2:=Lib.hid hb2
       have hz2:=hb2.size
       have hk0:(0:Int)≤(k:Int):=by omega
       have hcy:=HI.out.hc
       clear ho2 hb2
       by_cases hin:k<n∨0<cy
       ·have hk5:k≤5000:=by
         rcases Nat.lt_or_ge k n with h | h
         ·omega
         ·have:=HI.out.hb h;omega
        have HBt:=Lib.hid (show Calls Tryd.prog 87 #[.slice A1 n c1,.int .i64 (k:Int)] wr (fun e w'=>e = .returned (.int .i64 (l.getD k 0:Nat))∧wr=w') from by
         have h:=rbit_any ((HO.out.sl HDl.out HN.out).below (C:=wo.heap.size) HB2.out (Nat.le_refl _)) (k:Int)
         rwa [bitZ_nat] at h)
        have hyb:=HDl.out.getD (b:=2) (by decide) k
        have HSt:=Lib.hid (fun y t (hy:l.getD k 0=y) (hy2:y<2) (ht:y * r+cy=t)=>HI.out.step HN.out hr2 hy hy2 ht hin)
        obtain ⟨y,hy⟩:∃ y,l.getD k 0=y:=⟨_,rfl⟩
        rw [hy] at HBt hyb
        obtain ⟨p,hp⟩:∃ p,y * r=p:=⟨_,rfl⟩
        have hpi:(y:Int) * (r:Int)=(p:Int):=by rw [←hp];simp
        have hp36:p≤36:=by
         rcases (by omega:y=0∨y=1) with e | e <;> rw [←hp,e] <;> omega
        obtain ⟨t,ht⟩:∃ t,p+cy=t:=⟨_,rfl⟩
        have HS1:=Lib.hid (HSt.out y t hy hyb (by rw [hp];exact ht))
        have hti:(p:Int)+(cy:Int)=(t:Int):=by omega
        have ht9:(t:Int)≤72:=by omega
        have htm:(t:Int).tmod 2=((t % 2:Nat):Int):=by rw [Int.tmod_eq_emod_of_nonneg (by omega)];omega
        have htd:(t:Int).tdiv 2=((t / 2:Nat):Int):=by rw [Int.tdiv_eq_ediv_of_nonneg (by omega)];omega
        have hk5I:k≤4294967296:=by omega
        have hkI5:(k:Int)≤5000:=by omega
        have HME:=Lib.hid (show (n - (k+1)) * 100+t / 2<(n - k) * 100+cy by
         rcases Nat.lt_or_ge k n with h | h
         ·omega
         ·have hy0:y=0:=by rw [←hy];exact getD_past (by rw [HN.out];exact h)
          rw [hy0,Nat.zero_mul] at hp
          omega)
        clear hy hp ht HSt
        by_cases hkn:k<n
        case' pos=>
         have hkI:(k:Int)<(n:Int):=by omega
         have hkd:decide (k<n)=true:=decide_eq_true hkn
        case' neg=>
         have hkI:¬(k:Int)<(n:Int):=by omega
         have hkd:decide (k<n)=false:=decide_eq_false hkn
         have hcyI:(0:Int)<(cy:Int):=by omega
         have hcyd:decide (0<cy)=true:=decide_eq_true (by omega)
        all_goals
         go_wp2_with (first
          | (go_at_call 87;(with_reducible refine HBt.out.mono ?_);rintro e w' ⟨rfl,rfl⟩)
          | (at_builtin;refine wpList_append_i64 (by rfl) _ _ (by rfl) wo.heap.size A2 k c2 O (by rfl) (Own.alloc HO2.out _) wr.heap.size (t % 2) (by rfl) (by simp [go_sem]) hk5I (by simp;omega) ?_;intro A4 c4 w4 ho4 hb4))
         have HO4:=Lib.hid ho4
         have HB4:=Lib.hid ((HB2.out.alloc hz2 _).trans hb4)
         clear ho4 hb4
         go_wp2_with fail
         go_roundw
         case rel=>exact ⟨k+1,t / 2,O ++ [t % 2],A4,c4,by go_num,by first | rfl | go_num,rfl,HS1,HO4.out,HB4.out⟩
         case measure=>first | exact HME.out | (have:=HME.out;simp [intOf];omega)
       ·have hkn:n≤k:=by omega
        have hcy0:cy=0:=by omega
        subst hcy0
        have hk9:=HI.out.hb hkn
        have hv:=HI.out.hv
        rw [Nat.mul_zero,Nat.add_zero,nvp_all (by rw [HN.out];exact hkn),HVl.out] at hv
        have et:tr O=digs 2 (V * r+d):=by rw [tr_eq_digs (b:=2) (by decide) HI.out.dO,hv]
        have em:tlen O=(digs 2 (V * r+d)).length:=by rw [←et,tr_length]
        have hcut:=rcut_any (HO2.out.sl HI.out.dO HI.out.lo)
        rw [em] at hcut
        have HCut:=Lib.hid hcut
        have hml:tlen O≤k:=by rw [←HI.out.lo];exact tlen_le O
        have htk:=HO2.out.take hml
        rw [i64s_take] at htk
        have HR2:=Lib.hid (show RpRel W0 (pval r ((sdig s'.data.toList).take (i+1))) (.slice A2 (digs 2 (V * r+d)).length c2) wr from by
         rw [HSn.out]
         exact ⟨A2,c2,rfl,by rw [←em,←et];exact Own.mono htk hz1,HB1.out.trans (HB2.out.mono hz1)⟩)
        have HLe:=Lib.hid (show (digs 2 (pval r ((sdig s'.data.toList).take (i+1)))).length≤8192 by rw [HSn.out,←em];omega)
        have hk1:decide (k<n)=false:=decide_eq_false (by omega)
        have hk2:¬(k:Int)<(n:Int):=by omega
        clear hcut htk et em hv hml
        go_wp2_with (go_at_call 88;(with_reducible refine HCut.out.mono ?_);rintro e w2 ⟨rfl,rfl⟩)
        go_roundw
        case rel=>exact ⟨i+1,by omega,by go_num,HLe.out,HR2.out⟩
        case measure=>simp [intOf];omega
     ·have HPR:=Lib.hid HS'.out.1
      by_cases hbig:n≤4096
      ·obtain rfl:i=s'.size:=by omega
       have hVall:=HV9.out
       rw [List.take_of_length_le (by rw [sdig_length];exact Nat.le_refl _),HPR.out] at hVall
       have hVlt:=lt_of_digs_length (b:=2) (n:=V) (k:=4096) (by decide) (by rw [HN.out];exact hbig)
       have HC:=Lib.hid (pCode_ok hr hr2 HBd.out (by rw [hVall];exact hVlt))
       have HZ:=Lib.hid (show bval false (digs 2 V)=pVal s.data.toList (r:Int) by
        unfold bval pVal
        rw [nv_digs (by decide),HS'.out.2,Int.toNat_natCast,hVall])
       have hd6':decide (s'.size<s'.size)=false:=decide_eq_false (by omega)
       have hbigI:¬(4096:Int)<(n:Int):=by omega
       have hbd:decide (4096<n)=false:=decide_eq_false (by omega)
       have HDl:=Lib.hid (dig_digs (b:=2) (by decide) V)
       clear hVall hVlt
       generalize pVal s.data.toList (r:Int)=z at *
       generalize digs 2 V=l at *
       go_wp2_with fail
       (with_reducible refine (rlaid_at false HO.out HN.out HDl.out HZ.out).mono ?_)
       rintro ex w5 ⟨rfl,ho5,hb5⟩
       obtain ⟨r0,r1,r2,r3⟩:=two_cells (HB1.out.trans (hb5.mono hz1)) HX.out hW0z
       have HO5:=Lib.hid ho5
       have HB5:=Lib.hid (HB.out.trans ((HB1.out.trans (hb5.mono hz1)).mono HB.out.size))
       clear ho5 hb5
       go_wp2
       have hrr:=ResB.stored (w:=w) (g:=w.heap.size) (u:=.bool (decide (z<0))) (u':=.slice A1 (digs 2 z.natAbs).length c1) ⟨A1,c1,rfl,HO5.out⟩ HB5.out (by omega) (by omega)
       exact bodyPost_ret (v:=.tuple #[.agg #[.bool (decide (z<0)),.slice A1 (digs 2 z.natAbs).length c1],.int .i64 0]) (by simp [results,Tryd.results78,go_sem,r0,r1]) rfl
        ⟨_,by rw [HC.out],fun _=>hrr.1,fun h=>absurd HC.out h,hrr.2⟩
      ·have hVge:¬V<2 ^ 4096:=fun h=>hbig (by rw [←HN.out];exact digs_length_le (by decide) h)
       have HC:=Lib.hid (pCode_long hr hr2 HBd.out i (by rw [←HPR.out,HV9.out];exact hVge))
       have hbigI:(4096:Int)<(n:Int):=by omega
       have hbd:decide (4096<n)=true:=decide_eq_true (by omega)
       have hbd2:decide (n≤4096)=false:=decide_eq_false (by omega)
       have hbI2:¬(n:Int)≤4096:=by omega
       obtain ⟨r0,r1,r2,r3⟩:=two_cells HB1.out HX.out hW0z
       have HB5:=Lib.hid (HB.out.trans (HB1.out.mono HB.out.size))
       clear hVge
       by_cases his:i<s'.size
       case' pos=>
        have hisI:(i:Int)<(s'.size:Int):=by omega
        have hisd:decide (i<s'.size)=true:=decide_eq_true his
       case' neg=>
        have hisI:¬(i:Int)<(s'.size:Int):=by omega
        have hisd:decide (i<s'.size)=false:=decide_eq_false his
       all_goals
        go_wp2
        exact bodyPost_ret (v:=.tuple #[zeroV,.int .i64 10]) (by simp [results,Tryd.results78,go_sem,r0,r1]) rfl
         (RpPost.bad HC.out (by decide) ((HB5.out.setCell (Nat.le_refl _) _).setCell (Nat.le_refl _) _))
 ·obtain ⟨s',hs'⟩:∃ s',s.extract 1 s.size=s':=⟨_,rfl⟩
  have HS':=Lib.hid (And.intro (show s'.data.toList=pRest s.data.toList by rw [pRest,hng,if_pos rfl,←hs2,hs']) hng)
  rw [hs'] at hsz2
  have hsz3:s.size - 1=s'.size:=hsz2.symm
  have d5:decide ((0:Int)<(s.size:Int))=true:=decide_eq_true (by omega)
  have d6:decide (0<s.size)=true:=decide_eq_true h1
  have hm:s'.size≤9223372036854775807:=by omega
  have q2:(((s[0]'h1).toNat:Int)==45)=true:=by rw [hb];rfl
  clear hng hs2 hsz2
  go_enter Tryd.func78,Tryd.ntmps78
  by_cases he:s'.size=0
  ·have e1:=str_empty he
   have HC:=Lib.hid (pCode_bad hr hr2 (pBad_empty (r:=r) HS'.out.1 he))
   go_wp2
   exact bodyPost_ret (v:=.tuple #[zeroV,.int .i64 12]) (by simp [results,Tryd.results78,go_sem]) rfl (RpPost.bad HC.out (by decide) HB.out)
  ·skip
   have hse:¬s'.size=0:=he
   have q1:=str_full hse
   go_wp2_with fail
   clear hs' hsz3 hb d1 d2 d5 d6 h1 hs q2
   go_loop [7] (fun i=>∃ k:Nat,k≤s'.size∧i = .int .i64 k∧Hid (∀ j,j<k→(sdig s'.data.toList).getD j 0<r)) (fun i=>s'.size - (intOf i).toNat)
   case atStart=>exact ⟨0,Nat.zero_le _,rfl,Lib.hid (fun j hj=>absurd hj (Nat.not_lt_zero _))⟩
   case round=>
    obtain ⟨k,hk,rfl,hdj⟩:=hrel
    by_cases hks:k<s'.size
    ·have hk0:(0:Int)≤(k:Int):=by omega
     have hk1:(k:Int)<(s'.size:Int):=by omega
     have HV:=Lib.hid (fun w1=>rdigit_any s'[k].toNat w1 (UInt8.toNat_lt _))
     have HG:=Lib.hid (sdig_get s' hks)
     have H12:=Lib.hid (fun h=>pBad_at (r:=r) HS'.out.1 hks h)
     generalize hdv:dval s'[k].toNat=dv at *
     by_cases hlt:dv<r
     ·have d3:decide ((r:Int)≤(dv:Int))=false:=decide_eq_false (by omega)
      have d4:decide (r≤dv)=false:=decide_eq_false (by omega)
      clear hdv
      go_wp2_with (go_at_call 86;(with_reducible refine (HV.out _).mono ?_);rintro e w' ⟨rfl,rfl⟩)
      go_round
      case rel=>exact ⟨k+1,by omega,by go_num,Lib.hid (fun j hj=>by
       rcases Nat.lt_or_ge j k with h | h
       ·exact hdj.out j h
       ·obtain rfl:j=k:=by omega
        rw [HG.out];exact hlt)⟩
      case measure=>simp [intOf];omega
     ·have d3:decide ((r:Int)≤(dv:Int))=true:=decide_eq_true (by omega)
      have d4:decide (r≤dv)=true:=decide_eq_true (by omega)
      have HC:=Lib.hid (pCode_bad hr hr2 (H12.out (by omega)))
      clear hdv
      go_wp2_with (go_at_call 86;(with_reducible refine (HV.out _).mono ?_);rintro e w' ⟨rfl,rfl⟩)
      exact bodyPost_ret (v:=.tuple #[zeroV,.int .i64 12]) (by simp [results,Tryd.results78,go_sem]) rfl (RpPost.bad HC.out (by decide) HB.out)
    ·obtain rfl:k=s'.size:=by omega
     have HBd:=Lib.hid (pBad_none HS'.out.1 hse hdj.out)
     have HDJ:=hdj
     have hW0z:w.heap.size<(w.alloc (.cells #[.bool false,.slice none 0 0] 106)).heap.size:=by simp
     have HX:=Lib.hid (show (w.alloc (.cells #[.bool false,.slice none 0 0] 106)).heap[w.heap.size]?=some (.cells #[.bool false,.slice none 0 0] 106 (0,0)) from heap_alloc_new w _)
     go_wp2_with fail
     generalize (w.alloc (.cells #[.bool false,.slice none 0 0] 106))=W0 at *
     have HR0:=Lib.hid (RpRel.start W0)
     go_loopw [8,9] (fun bv iv wr=>∃ i:Nat,i≤s'.size∧iv = .int .i64 (i:Int)∧(digs 2 (pval r ((sdig s'.data.toList).take i))).length≤8192∧RpRel W0 (pval r ((sdig s'.data.toList).take i)) bv wr) (fun _ iv _=>s'.size - (intOf iv).toNat)
     case atStart=>exact ⟨0,Nat.zero_le _,rfl,by rw [List.take_zero];simp [pval,digs_zero],by rw [List.take_zero];exact HR0.out⟩
     case round=>
      obtain ⟨i,hi,rfl,hn8,A1,c1,rfl,ho1,hb1⟩:=hrel
      have HO:=Lib.hid ho1
      have HB1:=Lib.hid hb1
      have hz1:=hb1.size
      obtain ⟨V,hV⟩:∃ V,pval r ((sdig s'.data.toList).take i)=V:=⟨_,rfl⟩
      rw [hV] at HO hn8 ⊢
      have HV9:=Lib.hid hV
      have hi0:(0:Int)≤(i:Int):=by omega
      clear ho1 hb1 HR0 hV
      obtain ⟨n,hn⟩:∃ n,(digs 2 V).length=n:=⟨_,rfl⟩
      have HN:=Lib.hid hn
      rw [hn] at HO hn8 ⊢
      clear hn
      by_cases hgo:i<s'.size∧n≤4096
      ·have hiI:(i:Int)<(s'.size:Int):=by omega
       have hnI:(n:Int)≤4096:=by omega
       have hd6':decide (i<s'.size)=true:=decide_eq_true hgo.1
       have hd7':decide (n≤4096)=true:=decide_eq_true hgo.2
       have hd:=HDJ.out i hgo.1
       have HSn:=Lib.hid (show pval r ((sdig s'.data.toList).take (i+1))=V * r+dval s'[i].toNat by
        rw [List.take_succ_eq_append_getElem (by rw [sdig_length];exact hgo.1),pval_snoc,HV9.out,←sdig_get s' hgo.1,getD_eq (by rw [sdig_length];exact hgo.1)])
       rw [sdig_get s' hgo.1] at hd
       have HVd:=Lib.hid (fun w1=>rdigit_any s'[i].toNat w1 (UInt8.toNat_lt _))
       generalize dval s'[i].toNat=d at *
       obtain ⟨wo,hwo⟩:∃ wo:World,wo=wr:=⟨_,rfl⟩
       subst hwo
       have HDl:=Lib.hid (dig_digs (b:=2) (by decide) V)
       have HVl:=Lib.hid (nv_digs (b:=2) (by decide) V)
       generalize digs 2 V=l at *
       go_wp2_with (go_at_call 86;(with_reducible refine (HVd.out _).mono ?_);rintro e w' ⟨rfl,rfl⟩)
       go_loopw [10,11,12] (fun cv ov kv wr=>∃ (k cy:Nat) (O:List Nat) (A2:Option Addr) (c2:Nat),kv = .int .i64 (k:Int)∧cv = .int .i64 (cy:Int)∧ov = .slice A2 k c2∧Hid (RmInv l n r d k cy O)∧OwnI wr wo.heap.size A2 k c2 (i64s O)∧Below wo.heap.size wo wr) (fun cv _ kv _=>(n - (intOf kv).toNat) * 100+(intOf cv).toNat)
       case atStart=>exact ⟨0,d,[],none,0,rfl,rfl,rfl,Lib.hid ⟨rfl,Dig.nil _,by omega,fun _=>by omega,by simp [nvp_zero,nv]⟩,⟨rfl,.inl ⟨rfl,rfl⟩⟩,Below.refl _ _⟩
       case round=>
        obtain ⟨k,cy,O,A2,c2,rfl,rfl,rfl,HI,ho2,hb2⟩:=hrel
        have HO2:=Lib.hid ho2
        have HB2:=Lib.hid hb2
        have hz2:=hb2.size
        have hk0:(0:Int)≤(k:Int):=by omega
        have hcy:=HI.out.hc
        clear ho2 hb2
        by_cases hin:k<n∨0<cy
        ·have hk5:k≤5000:=by
          rcases Nat.lt_or_ge k n with h | h
          ·omega
          ·have:=HI.out.hb h;omega
         have HBt:=Lib.hid (show Calls Tryd.prog 87 #[.slice A1 n c1,.int .i64 (k:Int)] wr (fun e w'=>e = .returned (.int .i64 (l.getD k 0:Nat))∧wr=w') from by
          have h:=rbit_any ((HO.out.sl HDl.out HN.out).below (C:=wo.heap.size) HB2.out (Nat.le_refl _)) (k:Int)
          rwa [bitZ_nat] at h)
         have hyb:=HDl.out.getD (b:=2) (by decide) k
         have HSt:=Lib.hid (fun y t (hy:l.getD k 0=y) (hy2:y<2) (ht:y * r+cy=t)=>HI.out.step HN.out hr2 hy hy2 ht hin)
         obtain ⟨y,hy⟩:∃ y,l.getD k 0=y:=⟨_,rfl⟩
         rw [hy] at HBt hyb
         obtain ⟨p,hp⟩:∃ p,y * r=p:=⟨_,rfl⟩
         have hpi:(y:Int) * (r:Int)=(p:Int):=by rw [←hp];simp
         have hp36:p≤36:=by
          rcases (by omega:y=0∨y=1) with e | e <;> rw [←hp,e] <;> omega
         obtain ⟨t,ht⟩:∃ t,p+cy=t:=⟨_,rfl⟩
         have HS1:=Lib.hid (HSt.out y t hy hyb (by rw [hp];exact ht))
         have hti:(p:Int)+(cy:Int)=(t:Int):=by omega
         have ht9:(t:Int)≤72:=by omega
         have htm:(t:Int).tmod 2=((t % 2:Nat):Int):=by rw [Int.tmod_eq_emod_of_nonneg (by omega)];omega
         have htd:(t:Int).tdiv 2=((t / 2:Nat):Int):=by rw [Int.tdiv_eq_ediv_of_nonneg (by omega)];omega
         have hk5I:k≤4294967296:=by omega
         have hkI5:(k:Int)≤5000:=by omega
         have HME:=Lib.hid (show (n - (k+1)) * 100+t / 2<(n - k) * 100+cy by
          rcases Nat.lt_or_ge k n with h | h
          ·omega
          ·have hy0:y=0:=by rw [←hy];exact getD_past (by rw [HN.out];exact h)
           rw [hy0,Nat.zero_mul] at hp
           omega)
         clear hy hp ht HSt
         by_cases hkn:k<n
         case' pos=>
          have hkI:(k:Int)<(n:Int):=by omega
          have hkd:decide (k<n)=true:=decide_eq_true hkn
         case' neg=>
          have hkI:¬(k:Int)<(n:Int):=by omega
          have hkd:decide (k<n)=false:=decide_eq_false hkn
          have hcyI:(0:Int)<(cy:Int):=by omega
          have hcyd:decide (0<cy)=true:=decide_eq_true (by omega)
         all_goals
          go_wp2_with (first
           | (go_at_call 87;(with_reducible refine HBt.out.mono ?_);rintro e w' ⟨rfl,rfl⟩)
           | (at_builtin;refine wpList_append_i64 (by rfl) _ _ (by rfl) wo.heap.size A2 k c2 O (by rfl) (Own.alloc HO2.out _) wr.heap.size (t % 2) (by rfl) (by simp [go_sem]) hk5I (by simp;omega) ?_;intro A4 c4 w4 ho4 hb4))
          have HO4:=Lib.hid ho4
          have HB4:=Lib.hid ((HB2.out.alloc hz2 _).trans hb4)
          clear ho4 hb4
          go_wp2_with fail
          go_roundw
          case rel=>exact ⟨k+1,t / 2,O ++ [t % 2],A4,c4,by go_num,by first | rfl | go_num,rfl,HS1,HO4.out,HB4.out⟩
          case measure=>first | exact HME.out | (have:=HME.out;simp [intOf];omega)
        ·have hkn:n≤k:=by omega
         have hcy0:cy=0:=by omega
         subst hcy0
         have hk9:=HI.out.hb hkn
         have hv:=HI.out.hv
         rw [Nat.mul_zero,Nat.add_zero,nvp_all (by rw [HN.out];exact hkn),HVl.out] at hv
         have et:tr O=digs 2 (V * r+d):=by rw [tr_eq_digs (b:=2) (by decide) HI.out.dO,hv]
         have em:tlen O=(digs 2 (V * r+d)).length:=by rw [←et,tr_length]
         have hcut:=rcut_any (HO2.out.sl HI.out.dO HI.out.lo)
         rw [em] at hcut
         have HCut:=Lib.hid hcut
         have hml:tlen O≤k:=by rw [←HI.out.lo];exact tlen_le O
         have htk:=HO2.out.take hml
         rw [i64s_take] at htk
         have HR2:=Lib.hid (show RpRel W0 (pval r ((sdig s'.data.toList).take (i+1))) (.slice A2 (digs 2 (V * r+d)).length c2) wr from by
          rw [HSn.out]
          exact ⟨A2,c2,rfl,by rw [←em,←et];exact Own.mono htk hz1,HB1.out.trans (HB2.out.mono hz1)⟩)
         have HLe:=Lib.hid (show (digs 2 (pval r ((sdig s'.data.toList).take (i+1)))).length≤8192 by rw [HSn.out,←em];omega)
         have hk1:decide (k<n)=false:=decide_eq_false (by omega)
         have hk2:¬(k:Int)<(n:Int):=by omega
         clear hcut htk et em hv hml
         go_wp2_with (go_at_call 88;(with_reducible refine HCut.out.mono ?_);rintro e w2 ⟨rfl,rfl⟩)
         go_roundw
         case rel=>exact ⟨i+1,by omega,by go_num,HLe.out,HR2.out⟩
         case measure=>simp [intOf];omega
      ·have HPR:=Lib.hid HS'.out.1
       by_cases hbig:n≤4096
       ·obtain rfl:i=s'.size:=by omega
        have hVall:=HV9.out
        rw [List.take_of_length_le (by rw [sdig_length];exact Nat.le_refl _),HPR.out] at hVall
        have hVlt:=lt_of_digs_length (b:=2) (n:=V) (k:=4096) (by decide) (by rw [HN.out];exact hbig)
        have HC:=Lib.hid (pCode_ok hr hr2 HBd.out (by rw [hVall];exact hVlt))
        have HZ:=Lib.hid (show bval true (digs 2 V)=pVal s.data.toList (r:Int) by
         unfold bval pVal
         rw [nv_digs (by decide),HS'.out.2,Int.toNat_natCast,hVall])
        have hd6':decide (s'.size<s'.size)=false:=decide_eq_false (by omega)
        have hbigI:¬(4096:Int)<(n:Int):=by omega
        have hbd:decide (4096<n)=false:=decide_eq_false (by omega)
        have HDl:=Lib.hid (dig_digs (b:=2) (by decide) V)
        clear hVall hVlt
        generalize pVal s.data.toList (r:Int)=z at *
        generalize digs 2 V=l at *
        go_wp2_with fail
        (with_reducible refine (rlaid_at true HO.out HN.out HDl.out HZ.out).mono ?_)
        rintro ex w5 ⟨rfl,ho5,hb5⟩
        obtain ⟨r0,r1,r2,r3⟩:=two_cells (HB1.out.trans (hb5.mono hz1)) HX.out hW0z
        have HO5:=Lib.hid ho5
        have HB5:=Lib.hid (HB.out.trans ((HB1.out.trans (hb5.mono hz1)).mono HB.out.size))
        clear ho5 hb5
        go_wp2
        have hrr:=ResB.stored (w:=w) (g:=w.heap.size) (u:=.bool (decide (z<0))) (u':=.slice A1 (digs 2 z.natAbs).length c1) ⟨A1,c1,rfl,HO5.out⟩ HB5.out (by omega) (by omega)
        exact bodyPost_ret (v:=.tuple #[.agg #[.bool (decide (z<0)),.slice A1 (digs 2 z.natAbs).length c1],.int .i64 0]) (by simp [results,Tryd.results78,go_sem,r0,r1]) rfl
         ⟨_,by rw [HC.out],fun _=>hrr.1,fun h=>absurd HC.out h,hrr.2⟩
       ·have hVge:¬V<2 ^ 4096:=fun h=>hbig (by rw [←HN.out];exact digs_length_le (by decide) h)
        have HC:=Lib.hid (pCode_long hr hr2 HBd.out i (by rw [←HPR.out,HV9.out];exact hVge))
        have hbigI:(4096:Int)<(n:Int):=by omega
        have hbd:decide (4096<n)=true:=decide_eq_true (by omega)
        have hbd2:decide (n≤4096)=false:=decide_eq_false (by omega)
        have hbI2:¬(n:Int)≤4096:=by omega
        obtain ⟨r0,r1,r2,r3⟩:=two_cells HB1.out HX.out hW0z
        have HB5:=Lib.hid (HB.out.trans (HB1.out.mono HB.out.size))
        clear hVge
        by_cases his:i<s'.size
        case' pos=>
         have hisI:(i:Int)<(s'.size:Int):=by omega
         have hisd:decide (i<s'.size)=true:=decide_eq_true his
        case' neg=>
         have hisI:¬(i:Int)<(s'.size:Int):=by omega
         have hisd:decide (i<s'.size)=false:=decide_eq_false his
        all_goals
         go_wp2
         exact bodyPost_ret (v:=.tuple #[zeroV,.int .i64 10]) (by simp [results,Tryd.results78,go_sem,r0,r1]) rfl
          (RpPost.bad HC.out (by decide) ((HB5.out.setCell (Nat.le_refl _) _).setCell (Nat.le_refl _) _))
theorem rParse_anyL (s:ByteArray) (r:Int) (w:World) (hs:s.size≤9223372036854775807) :
  Calls Tryd.prog 78 #[.string s,.int .i64 r] w (RpPost w (pVal s.data.toList r) (pCode s.data.toList r)):=by
 by_cases h:r<2∨36<r
 ·exact rParse_radix s r w h _ _ (by rw [pCode,if_pos h])
 ·obtain ⟨n,rfl⟩:=Int.eq_ofNat_of_zero_le (show 0≤r by omega)
  exact rParse_goodL s n w hs (by omega) (by omega)
end Go.Proofs.YtgfeainpeplphaaDoor
namespace Hb
open Go Go.Lib
def accU (l:List UInt8) (v0 k:Nat):Nat:=(List.range k).foldl (fun a j=>a * 64+((l.getD (j+1) 0).toNat - 128)) v0
theorem accU_zero (l:List UInt8) (v0:Nat):accU l v0 0=v0:=rfl
theorem accU_succ (l:List UInt8) (v0 k:Nat):accU l v0 (k+1)=accU l v0 k * 64+((l.getD (k+1) 0).toNat - 128):=by
 unfold accU
 rw [List.range_succ,List.foldl_append]
 rfl
def contU (l:List UInt8) (j:Nat):Prop:=j<l.length∧128≤(l.getD j 0).toNat∧(l.getD j 0).toNat<192
def contsU (l:List UInt8) (k:Nat):Prop:=∀ j,1≤j→j≤k→contU l j
def ClsU (b n least v0:Nat):Prop:=(192≤b∧b<224∧n=1∧least=128∧v0=b - 192)∨(224≤b∧b<240∧n=2∧least=2048∧v0=b - 224)∨(240≤b∧b<248∧n=3∧least=65536∧v0=b - 240)
theorem accU_lt {l:List UInt8} {v0:Nat} (h0:v0<32):∀ k,contsU l k→accU l v0 k<32 * 64 ^ k
 | 0,_=>by rw [accU_zero];omega
 | k+1,h=>by
  have h1:=accU_lt h0 k (fun j hj hk=>h j hj (by omega))
  have h2:=(h (k+1) (by omega) (Nat.le_refl _)).2.2
  have h3:(64:Nat) ^ (k+1)=64 ^ k * 64:=Nat.pow_succ ..
  rw [accU_succ,h3]
  omega
theorem valid_none {l:List UInt8} (hne:l ≠ []) (h:decodeN l.length (l.getD 0 0).toNat (l.getD 1 0).toNat (l.getD 2 0).toNat (l.getD 3 0).toNat=(65533,1)):validD l=false:=by
 rw [validD_step l hne,decodeL_N,h]
 simp
theorem valid_some {l:List UInt8} (hne:l ≠ []) {k:Nat} (hk:2≤k) (h:(decodeN l.length (l.getD 0 0).toNat (l.getD 1 0).toNat (l.getD 2 0).toNat (l.getD 3 0).toNat).2=k):validD l=validD (l.drop k):=by
 rw [validD_step l hne,decodeL_N,h,if_neg (by omega)]
theorem cls_none {l:List UInt8} (hne:l ≠ []) (h:(128≤(l.getD 0 0).toNat∧(l.getD 0 0).toNat<192)∨248≤(l.getD 0 0).toNat):validD l=false:=by
 refine valid_none hne (decodeN_bad _ _ _ _ _ ?_)
 have:=(l.getD 0 0).toNat_lt
 omega
set_option maxRecDepth 100000 in
set_option maxHeartbeats 4000000 in
theorem cls_bad {l:List UInt8} (hne:l ≠ []) {b n least v0 k:Nat} (hb:(l.getD 0 0).toNat=b) (hc:ClsU b n least v0) (hk:1≤k∧k≤n) (hn:¬contU l k):validD l=false:=by
 refine valid_none hne ?_
 rw [hb]
 have h1:=(l.getD 1 0).toNat_lt
 have h2:=(l.getD 2 0).toNat_lt
 have h3:=(l.getD 3 0).toNat_lt
 unfold contU at hn
 have hk3:k=1∨k=2∨k=3:=by unfold ClsU at hc;omega
 generalize l.length=N at *
 rcases hk3 with rfl | rfl | rfl
 all_goals
  generalize (l.getD 1 0).toNat=c1 at *
  generalize (l.getD 2 0).toNat=c2 at *
  generalize (l.getD 3 0).toNat=c3 at *
  unfold ClsU at hc
  unfold decodeN
  rcases hc with ⟨a1,a2,a3,a4,a5⟩ | ⟨a1,a2,a3,a4,a5⟩ | ⟨a1,a2,a3,a4,a5⟩
  all_goals
   repeat' split
   all_goals first | rfl | (exfalso;omega)
set_option maxRecDepth 100000 in
set_option maxHeartbeats 4000000 in
theorem cls_end {l:List UInt8} (hne:l ≠ []) {b n least v0 V:Nat} (hb:(l.getD 0 0).toNat=b) (hc:ClsU b n least v0) (hn:contsU l n) (hV:accU l v0 n=V) :
  ((V<least∨1114111<V∨(55296≤V∧V<57344))→validD l=false)∧(¬(V<least∨1114111<V∨(55296≤V∧V<57344))→validD l=validD (l.drop (n+1))):=by
 rcases hc with ⟨a1,a2,rfl,rfl,rfl⟩ | ⟨a1,a2,rfl,rfl,rfl⟩ | ⟨a1,a2,rfl,rfl,rfl⟩
 ·subst hV
  have g1:=hn 1 (by omega) (by omega)
  unfold contU at g1
  obtain ⟨V,hV⟩:∃ V,accU l (b - 192) 1=V:=⟨_,rfl⟩
  rw [hV]
  simp only [accU_succ,accU_zero,Nat.zero_add,Nat.reduceAdd] at hV
  constructor
  ·intro h
   refine valid_none hne ?_
   rw [hb]
   generalize (l.getD 1 0).toNat=c1 at *
   generalize (l.getD 2 0).toNat=c2 at *
   generalize (l.getD 3 0).toNat=c3 at *
   unfold decodeN
   repeat' split
   all_goals first | rfl | (exfalso;omega)
  ·intro h
   refine valid_some hne (by omega) ?_
   rw [hb]
   generalize (l.getD 1 0).toNat=c1 at *
   generalize (l.getD 2 0).toNat=c2 at *
   generalize (l.getD 3 0).toNat=c3 at *
   unfold decodeN
   repeat' split
   all_goals first | rfl | (exfalso;omega)
 ·subst hV
  have g1:=hn 1 (by omega) (by omega)
  have g2:=hn 2 (by omega) (by omega)
  unfold contU at g1 g2
  obtain ⟨V,hV⟩:∃ V,accU l (b - 224) 2=V:=⟨_,rfl⟩
  rw [hV]
  simp only [accU_succ,accU_zero,Nat.zero_add,Nat.reduceAdd] at hV
  constructor
  ·intro h
   refine valid_none hne ?_
   rw [hb]
   generalize (l.getD 1 0).toNat=c1 at *
   generalize (l.getD 2 0).toNat=c2 at *
   generalize (l.getD 3 0).toNat=c3 at *
   unfold decodeN
   repeat' split
   all_goals first | rfl | (exfalso;omega)
  ·intro h
   refine valid_some hne (by omega) ?_
   rw [hb]
   generalize (l.getD 1 0).toNat=c1 at *
   generalize (l.getD 2 0).toNat=c2 at *
   generalize (l.getD 3 0).toNat=c3 at *
   unfold decodeN
   repeat' split
   all_goals first | rfl | (exfalso;omega)
 ·subst hV
  have g1:=hn 1 (by omega) (by omega)
  have g2:=hn 2 (by omega) (by omega)
  have g3:=hn 3 (by omega) (by omega)
  unfold contU at g1 g2 g3
  obtain ⟨V,hV⟩:∃ V,accU l (b - 240) 3=V:=⟨_,rfl⟩
  rw [hV]
  simp only [accU_succ,accU_zero,Nat.zero_add,Nat.reduceAdd] at hV
  constructor
  ·intro h
   refine valid_none hne ?_
   rw [hb]
   generalize (l.getD 1 0).toNat=c1 at *
   generalize (l.getD 2 0).toNat=c2 at *
   generalize (l.getD 3 0).toNat=c3 at *
   unfold decodeN
   repeat' split
   all_goals first | rfl | (exfalso;omega)
  ·intro h
   refine valid_some hne (by omega) ?_
   rw [hb]
   generalize (l.getD 1 0).toNat=c1 at *
   generalize (l.getD 2 0).toNat=c2 at *
   generalize (l.getD 3 0).toNat=c3 at *
   unfold decodeN
   repeat' split
   all_goals first | rfl | (exfalso;omega)
theorem getD_drop_get (s:ByteArray) (i j:Nat) (h:i+j<s.size):(s.data.toList.drop i).getD j 0=s[i+j]:=by
 rw [getD_dropU,List.getD_eq_getElem?_getD,List.getElem?_eq_getElem (by simpa using h)]
 rfl
theorem drop_ascii (s:ByteArray) (i:Nat) (h:i<s.size) (h2:(s[i]).toNat<128):validD (s.data.toList.drop i)=validD (s.data.toList.drop (i+1)):=by
 rw [List.drop_eq_getElem_cons (by simpa using h)]
 exact validD_cons _ _ h2
end Hb
namespace Go.Proofs.YtgfeainpeplphaaDoor
open Go.RowKit Hb Ht
attribute [local go_sem] Oper.semAt_some
set_option maxRecDepth 100000 in
set_option maxHeartbeats 8000000 in
theorem UTF_any (s:ByteArray) (w:World) (hs:s.size≤4611686018427387904):Calls Tryd.prog 74 #[.string s] w fun e w'=>e = .returned (.bool (Lib.validD s.data.toList))∧w=w':=by
 obtain ⟨ANS,hA⟩:∃ ANS,Lib.validD s.data.toList=ANS:=⟨_,rfl⟩
 rw [hA]
 obtain ⟨N,hN⟩:∃ N,s.size=N:=⟨_,rfl⟩
 rw [hN] at hs
 have HN:=Lib.hid (And.intro hN hA)
 have hNI:(N:Int)≤4611686018427387904:=by omega
 clear hA
 go_enter Tryd.func74,Tryd.ntmps74
 go_upto_region 2 with fail
 go_loopw [3] (fun v3 wr=>w=wr∧∃ i:Nat,v3 = .int .i64 (i:Int)∧i≤N∧Hid (Lib.validD (s.data.toList.drop i)=ANS)) (fun v3 _=>((N:Int) - intOf v3).toNat)
 case atStart=>exact ⟨rfl,0,rfl,Nat.zero_le _,Lib.hid HN.out.2⟩
 case round=>
  obtain ⟨rfl,i,rfl,hi,HI⟩:=hrel
  by_cases hlt:i<N
  ·have hltI:(i:Int)<(N:Int):=by omega
   have hi0:(0:Int)≤(i:Int):=by omega
   go_upto_region 4 with fail
   have his:i<s.size:=by rw [HN.out.1];exact hlt
   have hne:s.data.toList.drop i ≠ []:=by
    intro e
    have h1:=congrArg List.length e
    simp only [List.length_drop,Array.length_toList,List.length_nil] at h1
    change s.size - i=0 at h1
    omega
   have hB0:((s.data.toList.drop i).getD 0 0).toNat=(s[i]'his).toNat:=by rw [getD_drop_get s i 0 his];rfl
   have hasc:=drop_ascii s i his
   generalize hB:(s[i]'his).toNat=B at *
   have HNE:=Lib.hid hne
   have HB:=Lib.hid hB0
   have HLT:=Lib.hid hlt
   have hB256:B<256:=by rw [←hB];exact UInt8.toNat_lt _
   have HAs:=Lib.hid hasc
   clear hne hB0 hB hasc hlt hi
   by_cases b1:B<128
   ·have b1I:(B:Int)<128:=by omega
    have HE:=Lib.hid (HAs.out b1)
    clear b1 hB256 his
    go_wp2
    refine ⟨⟨trivial,i+1,rfl,HLT.out,Lib.hid (by rw [←HI.out,HE.out])⟩,?_⟩
    have:=HLT.out
    show ((N:Int) - ((i:Int)+1)).toNat<((N:Int) - (i:Int)).toNat
    omega
   have b1I:¬(B:Int)<128:=by omega
   by_cases b2:B<192
   ·have b2I:¬(192:Int)≤(B:Int):=by omega
    have b3I:¬(224:Int)≤(B:Int):=by omega
    have b4I:¬(240:Int)≤(B:Int):=by omega
    have HE:=Lib.hid (show false=ANS from by rw [←HI.out];exact (cls_none HNE.out (by rw [HB.out];omega)).symm)
    clear b1 b2 hB256 his
    go_wp2
    go_ret
    exact ⟨by rw [←HE.out];rfl,rfl⟩
   by_cases b5:248≤B
   ·have b2I:¬(B:Int)<224:=by omega
    have b3I:¬(B:Int)<240:=by omega
    have b4I:¬(B:Int)<248:=by omega
    have b5I:(192:Int)≤(B:Int):=by omega
    have b6I:(224:Int)≤(B:Int):=by omega
    have b7I:(240:Int)≤(B:Int):=by omega
    have HE:=Lib.hid (show false=ANS from by rw [←HI.out];exact (cls_none HNE.out (by rw [HB.out];omega)).symm)
    clear b1 b2 b5 hB256 his
    go_wp2
    go_ret
    exact ⟨by rw [←HE.out];rfl,rfl⟩
   by_cases b3:B<224
   ·have b2I:(B:Int)<224:=by omega
    have b5I:(192:Int)≤(B:Int):=by omega
    obtain ⟨v0,hv0⟩:∃ v0:Nat,B - 192=v0:=⟨_,rfl⟩
    have HC:=Lib.hid (show ClsU B 1 128 v0 from .inl ⟨by omega,by omega,rfl,rfl,hv0.symm⟩)
    have hvI:(B:Int) - 192=(v0:Int):=by omega
    have hv32:v0<32:=by omega
    have HV0:=Lib.hid hv32
    have hlo:(192:Int)≤(B:Int):=by omega
    have hhi:(B:Int)<224:=by omega
    clear hv0 hv32
    go_upto_region 23 with fail
    clear hvI hlo hhi
    go_loopw [7,8] (fun v7 v8 wr2=>w=wr2∧∃ (k V:Nat),v8 = .int .i64 (k:Int)∧v7 = .int .i64 (V:Int)∧1≤k∧k≤2∧Hid (accU (s.data.toList.drop i) v0 (k - 1)=V∧contsU (s.data.toList.drop i) (k - 1))) (fun _ v8 _=>(2 - intOf v8).toNat)
    case atStart=>exact ⟨rfl,1,v0,rfl,rfl,Nat.le_refl _,by omega,Lib.hid ⟨rfl,fun j h1 h2=>by omega⟩⟩
    case round=>
     obtain ⟨rfl,k,V,rfl,rfl,hk1,hk2,HI2⟩:=hrel
     by_cases hkn:k≤1
     ·have hknI:(k:Int)≤1:=by omega
      have hk0I:(1:Int)≤(k:Int):=by omega
      have hVb:(V:Int)≤131071:=by
       have h1:=accU_lt HV0.out (k - 1) HI2.out.2
       have h2:(64:Nat) ^ (k - 1)≤64 ^ 2:=Nat.pow_le_pow_right (by decide) (by omega)
       rw [HI2.out.1] at h1
       rw [show (64:Nat) ^ 2=4096 from by decide] at h2
       omega
      have hV0I:(0:Int)≤(V:Int):=by omega
      obtain ⟨j,hj⟩:∃ j,i+k=j:=⟨_,rfl⟩
      have hjI:(i:Int)+(k:Int)=(j:Int):=by omega
      have hkL:∀ h:j<s.size,((s.data.toList.drop i).getD k 0).toNat=s[j].toNat:=by
       subst hj
       intro h
       rw [getD_drop_get s i k h]
      have HKL:=Lib.hid hkL
      have HJ:=Lib.hid hj
      clear hj hkL
      by_cases hin:j<N
      ·have hjN:(j:Int)<(N:Int):=by omega
       have hj0:(0:Int)≤(j:Int):=by omega
       have hjs:j<s.size:=by rw [HN.out.1];exact hin
       have hCl:=HKL.out hjs
       obtain ⟨C,hC⟩:∃ C,(s[j]'hjs).toNat=C:=⟨_,rfl⟩
       rw [hC] at hCl
       have HCC:=Lib.hid (And.intro hC hCl)
       have hC256:C<256:=by rw [←hC];exact UInt8.toNat_lt _
       clear hC hCl
       by_cases c1:C<128
       ·have c1I:(C:Int)<128:=by omega
        have c2I:((s[j]'hjs).toNat:Int)<128:=by rw [HCC.out.1];exact c1I
        have HE:=Lib.hid (show false=ANS from by rw [←HI.out];exact (cls_bad HNE.out HB.out HC.out ⟨hk1,hkn⟩ (fun h=>by have h1:=h.2.1;rw [HCC.out.2] at h1;omega)).symm)
        clear hkn hk1 hk2 hin hC256 c1
        go_wp2
        go_ret
        exact ⟨by rw [←HE.out];rfl,rfl⟩
       ·by_cases c2:192≤C
        ·have c1I:¬((s[j]'hjs).toNat:Int)<128:=by rw [HCC.out.1];omega
         have c2I:(192:Int)≤((s[j]'hjs).toNat:Int):=by rw [HCC.out.1];omega
         have HE:=Lib.hid (show false=ANS from by rw [←HI.out];exact (cls_bad HNE.out HB.out HC.out ⟨hk1,hkn⟩ (fun h=>by have h1:=h.2.2;rw [HCC.out.2] at h1;omega)).symm)
         clear hkn hk1 hk2 hin hC256 c1 c2
         go_wp2
         go_ret
         exact ⟨by rw [←HE.out];rfl,rfl⟩
        ·have c1I:(128:Int)≤((s[j]'hjs).toNat:Int):=by rw [HCC.out.1];omega
         have c2I:((s[j]'hjs).toNat:Int)<192:=by rw [HCC.out.1];omega
         have HE:=Lib.hid (show accU (s.data.toList.drop i) v0 (k+1 - 1)=V * 64+C - 128∧contsU (s.data.toList.drop i) (k+1 - 1) from by
          have e:k+1 - 1=(k - 1)+1:=by omega
          rw [e]
          refine ⟨?_,fun q h1 h2=>?_⟩
          ·rw [accU_succ,HI2.out.1,show k - 1+1=k by omega,HCC.out.2];omega
          ·by_cases hq:q≤k - 1
           ·exact HI2.out.2 q h1 hq
           ·have hqk:q=k:=by omega
            rw [hqk]
            refine ⟨?_,by rw [HCC.out.2];omega,by rw [HCC.out.2];omega⟩
            have hj:=HJ.out
            have hn:=HN.out.1
            simp only [List.length_drop,Array.length_toList]
            show k<s.size - i
            omega)
         have HK:=Lib.hid (And.intro hkn (And.intro (show 128≤C by omega) (show C<192 by omega)))
         clear hkn hk1 hk2 hin hC256 c1 c2
         go_wp2
         refine ⟨⟨trivial,k+1,V * 64+C - 128,rfl,?_,by omega,by have:=HK.out.1;omega,HE⟩,?_⟩
         ·have h1:=HK.out.2
          rw [HCC.out.1]
          congr 1
          omega
         ·have:=HK.out.1
          show (2 - ((k:Int)+1)).toNat<(2 - (k:Int)).toNat
          omega
      ·have hjN:(N:Int)≤(j:Int):=by omega
       have HE:=Lib.hid (show false=ANS from by
        rw [←HI.out]
        refine (cls_bad HNE.out HB.out HC.out ⟨hk1,hkn⟩ (fun h=>?_)).symm
        have h1:=h.1
        have hj:=HJ.out
        have hn:=HN.out.1
        simp only [List.length_drop,Array.length_toList] at h1
        change k<s.size - i at h1
        omega)
       clear hkn hk1 hk2 hin
       go_wp2
       go_ret
       exact ⟨by rw [←HE.out];rfl,rfl⟩
     ·have hk:k=2:=by omega
      subst hk
      have hV:accU (s.data.toList.drop i) v0 1=V:=HI2.out.1
      have hVb:V≤8388607:=by
       have h1:=accU_lt HV0.out 1 HI2.out.2
       rw [hV] at h1
       have h2:32 * (64:Nat) ^ 1≤8388608:=by decide
       omega
      obtain ⟨HGb,HGg⟩:=cls_end HNE.out HB.out HC.out HI2.out.2 hV
      have hV0I:(0:Int)≤(V:Int):=by omega
      have hVI:(V:Int)≤8388607:=by omega
      have HI2c:=Lib.hid (HI2.out.2)
      have HGb:=Lib.hid HGb
      have HGg:=Lib.hid HGg
      clear hkn hk1 hk2 hV hVb HI2
      by_cases d1:V<128
      ·have d1I:(V:Int)<128:=by omega
       have HE:=Lib.hid (show false=ANS from by rw [←HI.out];exact (HGb.out (.inl d1)).symm)
       clear d1
       go_wp2
       go_ret
       exact ⟨by rw [←HE.out];rfl,rfl⟩
      by_cases d2:1114111<V
      ·have d1I:¬(V:Int)<128:=by omega
       have d2I:(1114111:Int)<(V:Int):=by omega
       have HE:=Lib.hid (show false=ANS from by rw [←HI.out];exact (HGb.out (.inr (.inl d2))).symm)
       clear d1 d2
       go_wp2
       go_ret
       exact ⟨by rw [←HE.out];rfl,rfl⟩
      by_cases d3:55296≤V
      ·by_cases d4:V<57344
       ·have d1I:¬(V:Int)<128:=by omega
        have d2I:¬(1114111:Int)<(V:Int):=by omega
        have d3I:(55296:Int)≤(V:Int):=by omega
        have d4I:(V:Int)<57344:=by omega
        have HE:=Lib.hid (show false=ANS from by rw [←HI.out];exact (HGb.out (.inr (.inr ⟨d3,d4⟩))).symm)
        clear d1 d2 d3 d4
        go_wp2
        go_ret
        exact ⟨by rw [←HE.out];rfl,rfl⟩
       ·have d1I:¬(V:Int)<128:=by omega
        have d2I:¬(1114111:Int)<(V:Int):=by omega
        have d3I:(55296:Int)≤(V:Int):=by omega
        have d4I:¬(V:Int)<57344:=by omega
        have HE:=Lib.hid (HGg.out (by omega))
        clear d1 d2 d3 d4
        have HLn:=Lib.hid (show i+2≤N from by
         have h1:=(HI2c.out 1 (by omega) (Nat.le_refl _)).1
         have hn:=HN.out.1
         simp only [List.length_drop,Array.length_toList] at h1
         change 1<s.size - i at h1
         omega)
        have hLn:(i:Int)+1+1≤(N:Int):=by have:=HLn.out;omega
        go_wp2
        refine ⟨⟨trivial,i+2,?_,HLn.out,Lib.hid (by rw [←HI.out,HE.out,List.drop_drop])⟩,?_⟩
        ·congr 1
        ·show ((N:Int) - ((i:Int)+1+1)).toNat<((N:Int) - (i:Int)).toNat
         have:=HLn.out
         omega
      ·have d1I:¬(V:Int)<128:=by omega
       have d2I:¬(1114111:Int)<(V:Int):=by omega
       have d3I:¬(55296:Int)≤(V:Int):=by omega
       have HE:=Lib.hid (HGg.out (by omega))
       clear d1 d2 d3
       have HLn:=Lib.hid (show i+2≤N from by
        have h1:=(HI2c.out 1 (by omega) (Nat.le_refl _)).1
        have hn:=HN.out.1
        simp only [List.length_drop,Array.length_toList] at h1
        change 1<s.size - i at h1
        omega)
       have hLn:(i:Int)+1+1≤(N:Int):=by have:=HLn.out;omega
       go_wp2
       refine ⟨⟨trivial,i+2,?_,HLn.out,Lib.hid (by rw [←HI.out,HE.out,List.drop_drop])⟩,?_⟩
       ·congr 1
       ·show ((N:Int) - ((i:Int)+1+1)).toNat<((N:Int) - (i:Int)).toNat
        have:=HLn.out
        omega
   by_cases b4:B<240
   ·have b2I:¬(B:Int)<224:=by omega
    have b5I:(192:Int)≤(B:Int):=by omega
    have b6I:(224:Int)≤(B:Int):=by omega
    have b7I:(B:Int)<240:=by omega
    obtain ⟨v0,hv0⟩:∃ v0:Nat,B - 224=v0:=⟨_,rfl⟩
    have HC:=Lib.hid (show ClsU B 2 2048 v0 from .inr (.inl ⟨by omega,by omega,rfl,rfl,hv0.symm⟩))
    have hvI:(B:Int) - 224=(v0:Int):=by omega
    have hv32:v0<32:=by omega
    have HV0:=Lib.hid hv32
    have hlo:(224:Int)≤(B:Int):=by omega
    have hhi:(B:Int)<240:=by omega
    clear hv0 hv32
    go_upto_region 23 with fail
    clear hvI hlo hhi
    go_loopw [7,8] (fun v7 v8 wr2=>w=wr2∧∃ (k V:Nat),v8 = .int .i64 (k:Int)∧v7 = .int .i64 (V:Int)∧1≤k∧k≤3∧Hid (accU (s.data.toList.drop i) v0 (k - 1)=V∧contsU (s.data.toList.drop i) (k - 1))) (fun _ v8 _=>(3 - intOf v8).toNat)
    case atStart=>exact ⟨rfl,1,v0,rfl,rfl,Nat.le_refl _,by omega,Lib.hid ⟨rfl,fun j h1 h2=>by omega⟩⟩
    case round=>
     obtain ⟨rfl,k,V,rfl,rfl,hk1,hk2,HI2⟩:=hrel
     by_cases hkn:k≤2
     ·have hknI:(k:Int)≤2:=by omega
      have hk0I:(1:Int)≤(k:Int):=by omega
      have hVb:(V:Int)≤131071:=by
       have h1:=accU_lt HV0.out (k - 1) HI2.out.2
       have h2:(64:Nat) ^ (k - 1)≤64 ^ 2:=Nat.pow_le_pow_right (by decide) (by omega)
       rw [HI2.out.1] at h1
       rw [show (64:Nat) ^ 2=4096 from by decide] at h2
       omega
      have hV0I:(0:Int)≤(V:Int):=by omega
      obtain ⟨j,hj⟩:∃ j,i+k=j:=⟨_,rfl⟩
      have hjI:(i:Int)+(k:Int)=(j:Int):=by omega
      have hkL:∀ h:j<s.size,((s.data.toList.drop i).getD k 0).toNat=s[j].toNat:=by
       subst hj
       intro h
       rw [getD_drop_get s i k h]
      have HKL:=Lib.hid hkL
      have HJ:=Lib.hid hj
      clear hj hkL
      by_cases hin:j<N
      ·have hjN:(j:Int)<(N:Int):=by omega
       have hj0:(0:Int)≤(j:Int):=by omega
       have hjs:j<s.size:=by rw [HN.out.1];exact hin
       have hCl:=HKL.out hjs
       obtain ⟨C,hC⟩:∃ C,(s[j]'hjs).toNat=C:=⟨_,rfl⟩
       rw [hC] at hCl
       have HCC:=Lib.hid (And.intro hC hCl)
       have hC256:C<256:=by rw [←hC];exact UInt8.toNat_lt _
       clear hC hCl
       by_cases c1:C<128
       ·have c1I:(C:Int)<128:=by omega
        have c2I:((s[j]'hjs).toNat:Int)<128:=by rw [HCC.out.1];exact c1I
        have HE:=Lib.hid (show false=ANS from by rw [←HI.out];exact (cls_bad HNE.out HB.out HC.out ⟨hk1,hkn⟩ (fun h=>by have h1:=h.2.1;rw [HCC.out.2] at h1;omega)).symm)
        clear hkn hk1 hk2 hin hC256 c1
        go_wp2
        go_ret
        exact ⟨by rw [←HE.out];rfl,rfl⟩
       ·by_cases c2:192≤C
        ·have c1I:¬((s[j]'hjs).toNat:Int)<128:=by rw [HCC.out.1];omega
         have c2I:(192:Int)≤((s[j]'hjs).toNat:Int):=by rw [HCC.out.1];omega
         have HE:=Lib.hid (show false=ANS from by rw [←HI.out];exact (cls_bad HNE.out HB.out HC.out ⟨hk1,hkn⟩ (fun h=>by have h1:=h.2.2;rw [HCC.out.2] at h1;omega)).symm)
         clear hkn hk1 hk2 hin hC256 c1 c2
         go_wp2
         go_ret
         exact ⟨by rw [←HE.out];rfl,rfl⟩
        ·have c1I:(128:Int)≤((s[j]'hjs).toNat:Int):=by rw [HCC.out.1];omega
         have c2I:((s[j]'hjs).toNat:Int)<192:=by rw [HCC.out.1];omega
         have HE:=Lib.hid (show accU (s.data.toList.drop i) v0 (k+1 - 1)=V * 64+C - 128∧contsU (s.data.toList.drop i) (k+1 - 1) from by
          have e:k+1 - 1=(k - 1)+1:=by omega
          rw [e]
          refine ⟨?_,fun q h1 h2=>?_⟩
          ·rw [accU_succ,HI2.out.1,show k - 1+1=k by omega,HCC.out.2];omega
          ·by_cases hq:q≤k - 1
           ·exact HI2.out.2 q h1 hq
           ·have hqk:q=k:=by omega
            rw [hqk]
            refine ⟨?_,by rw [HCC.out.2];omega,by rw [HCC.out.2];omega⟩
            have hj:=HJ.out
            have hn:=HN.out.1
            simp only [List.length_drop,Array.length_toList]
            show k<s.size - i
            omega)
         have HK:=Lib.hid (And.intro hkn (And.intro (show 128≤C by omega) (show C<192 by omega)))
         clear hkn hk1 hk2 hin hC256 c1 c2
         go_wp2
         refine ⟨⟨trivial,k+1,V * 64+C - 128,rfl,?_,by omega,by have:=HK.out.1;omega,HE⟩,?_⟩
         ·have h1:=HK.out.2
          rw [HCC.out.1]
          congr 1
          omega
         ·have:=HK.out.1
          show (3 - ((k:Int)+1)).toNat<(3 - (k:Int)).toNat
          omega
      ·have hjN:(N:Int)≤(j:Int):=by omega
       have HE:=Lib.hid (show false=ANS from by
        rw [←HI.out]
        refine (cls_bad HNE.out HB.out HC.out ⟨hk1,hkn⟩ (fun h=>?_)).symm
        have h1:=h.1
        have hj:=HJ.out
        have hn:=HN.out.1
        simp only [List.length_drop,Array.length_toList] at h1
        change k<s.size - i at h1
        omega)
       clear hkn hk1 hk2 hin
       go_wp2
       go_ret
       exact ⟨by rw [←HE.out];rfl,rfl⟩
     ·have hk:k=3:=by omega
      subst hk
      have hV:accU (s.data.toList.drop i) v0 2=V:=HI2.out.1
      have hVb:V≤8388607:=by
       have h1:=accU_lt HV0.out 2 HI2.out.2
       rw [hV] at h1
       have h2:32 * (64:Nat) ^ 2≤8388608:=by decide
       omega
      obtain ⟨HGb,HGg⟩:=cls_end HNE.out HB.out HC.out HI2.out.2 hV
      have hV0I:(0:Int)≤(V:Int):=by omega
      have hVI:(V:Int)≤8388607:=by omega
      have HI2c:=Lib.hid (HI2.out.2)
      have HGb:=Lib.hid HGb
      have HGg:=Lib.hid HGg
      clear hkn hk1 hk2 hV hVb HI2
      by_cases d1:V<2048
      ·have d1I:(V:Int)<2048:=by omega
       have HE:=Lib.hid (show false=ANS from by rw [←HI.out];exact (HGb.out (.inl d1)).symm)
       clear d1
       go_wp2
       go_ret
       exact ⟨by rw [←HE.out];rfl,rfl⟩
      by_cases d2:1114111<V
      ·have d1I:¬(V:Int)<2048:=by omega
       have d2I:(1114111:Int)<(V:Int):=by omega
       have HE:=Lib.hid (show false=ANS from by rw [←HI.out];exact (HGb.out (.inr (.inl d2))).symm)
       clear d1 d2
       go_wp2
       go_ret
       exact ⟨by rw [←HE.out];rfl,rfl⟩
      by_cases d3:55296≤V
      ·by_cases d4:V<57344
       ·have d1I:¬(V:Int)<2048:=by omega
        have d2I:¬(1114111:Int)<(V:Int):=by omega
        have d3I:(55296:Int)≤(V:Int):=by omega
        have d4I:(V:Int)<57344:=by omega
        have HE:=Lib.hid (show false=ANS from by rw [←HI.out];exact (HGb.out (.inr (.inr ⟨d3,d4⟩))).symm)
        clear d1 d2 d3 d4
        go_wp2
        go_ret
        exact ⟨by rw [←HE.out];rfl,rfl⟩
       ·have d1I:¬(V:Int)<2048:=by omega
        have d2I:¬(1114111:Int)<(V:Int):=by omega
        have d3I:(55296:Int)≤(V:Int):=by omega
        have d4I:¬(V:Int)<57344:=by omega
        have HE:=Lib.hid (HGg.out (by omega))
        clear d1 d2 d3 d4
        have HLn:=Lib.hid (show i+3≤N from by
         have h1:=(HI2c.out 2 (by omega) (Nat.le_refl _)).1
         have hn:=HN.out.1
         simp only [List.length_drop,Array.length_toList] at h1
         change 2<s.size - i at h1
         omega)
        have hLn:(i:Int)+2+1≤(N:Int):=by have:=HLn.out;omega
        go_wp2
        refine ⟨⟨trivial,i+3,?_,HLn.out,Lib.hid (by rw [←HI.out,HE.out,List.drop_drop])⟩,?_⟩
        ·congr 1
        ·show ((N:Int) - ((i:Int)+2+1)).toNat<((N:Int) - (i:Int)).toNat
         have:=HLn.out
         omega
      ·have d1I:¬(V:Int)<2048:=by omega
       have d2I:¬(1114111:Int)<(V:Int):=by omega
       have d3I:¬(55296:Int)≤(V:Int):=by omega
       have HE:=Lib.hid (HGg.out (by omega))
       clear d1 d2 d3
       have HLn:=Lib.hid (show i+3≤N from by
        have h1:=(HI2c.out 2 (by omega) (Nat.le_refl _)).1
        have hn:=HN.out.1
        simp only [List.length_drop,Array.length_toList] at h1
        change 2<s.size - i at h1
        omega)
       have hLn:(i:Int)+2+1≤(N:Int):=by have:=HLn.out;omega
       go_wp2
       refine ⟨⟨trivial,i+3,?_,HLn.out,Lib.hid (by rw [←HI.out,HE.out,List.drop_drop])⟩,?_⟩
       ·congr 1
       ·show ((N:Int) - ((i:Int)+2+1)).toNat<((N:Int) - (i:Int)).toNat
        have:=HLn.out
        omega
   ·have b2I:¬(B:Int)<224:=by omega
    have b5I:(192:Int)≤(B:Int):=by omega
    have b6I:¬(B:Int)<240:=by omega
    have b7I:(240:Int)≤(B:Int):=by omega
    have b8I:(B:Int)<248:=by omega
    have b9I:(224:Int)≤(B:Int):=by omega
    obtain ⟨v0,hv0⟩:∃ v0:Nat,B - 240=v0:=⟨_,rfl⟩
    have HC:=Lib.hid (show ClsU B 3 65536 v0 from .inr (.inr ⟨by omega,by omega,rfl,rfl,hv0.symm⟩))
    have hvI:(B:Int) - 240=(v0:Int):=by omega
    have hv32:v0<32:=by omega
    have HV0:=Lib.hid hv32
    have hlo:(240:Int)≤(B:Int):=by omega
    have hhi:(B:Int)<248:=by omega
    clear hv0 hv32
    go_upto_region 23 with fail
    clear hvI hlo hhi
    go_loopw [7,8] (fun v7 v8 wr2=>w=wr2∧∃ (k V:Nat),v8 = .int .i64 (k:Int)∧v7 = .int .i64 (V:Int)∧1≤k∧k≤4∧Hid (accU (s.data.toList.drop i) v0 (k - 1)=V∧contsU (s.data.toList.drop i) (k - 1))) (fun _ v8 _=>(4 - intOf v8).toNat)
    case atStart=>exact ⟨rfl,1,v0,rfl,rfl,Nat.le_refl _,by omega,Lib.hid ⟨rfl,fun j h1 h2=>by omega⟩⟩
    case round=>
     obtain ⟨rfl,k,V,rfl,rfl,hk1,hk2,HI2⟩:=hrel
     by_cases hkn:k≤3
     ·have hknI:(k:Int)≤3:=by omega
      have hk0I:(1:Int)≤(k:Int):=by omega
      have hVb:(V:Int)≤131071:=by
       have h1:=accU_lt HV0.out (k - 1) HI2.out.2
       have h2:(64:Nat) ^ (k - 1)≤64 ^ 2:=Nat.pow_le_pow_right (by decide) (by omega)
       rw [HI2.out.1] at h1
       rw [show (64:Nat) ^ 2=4096 from by decide] at h2
       omega
      have hV0I:(0:Int)≤(V:Int):=by omega
      obtain ⟨j,hj⟩:∃ j,i+k=j:=⟨_,rfl⟩
      have hjI:(i:Int)+(k:Int)=(j:Int):=by omega
      have hkL:∀ h:j<s.size,((s.data.toList.drop i).getD k 0).toNat=s[j].toNat:=by
       subst hj
       intro h
       rw [getD_drop_get s i k h]
      have HKL:=Lib.hid hkL
      have HJ:=Lib.hid hj
      clear hj hkL
      by_cases hin:j<N
      ·have hjN:(j:Int)<(N:Int):=by omega
       have hj0:(0:Int)≤(j:Int):=by omega
       have hjs:j<s.size:=by rw [HN.out.1];exact hin
       have hCl:=HKL.out hjs
       obtain ⟨C,hC⟩:∃ C,(s[j]'hjs).toNat=C:=⟨_,rfl⟩
       rw [hC] at hCl
       have HCC:=Lib.hid (And.intro hC hCl)
       have hC256:C<256:=by rw [←hC];exact UInt8.toNat_lt _
       clear hC hCl
       by_cases c1:C<128
       ·have c1I:(C:Int)<128:=by omega
        have c2I:((s[j]'hjs).toNat:Int)<128:=by rw [HCC.out.1];exact c1I
        have HE:=Lib.hid (show false=ANS from by rw [←HI.out];exact (cls_bad HNE.out HB.out HC.out ⟨hk1,hkn⟩ (fun h=>by have h1:=h.2.1;rw [HCC.out.2] at h1;omega)).symm)
        clear hkn hk1 hk2 hin hC256 c1
        go_wp2
        go_ret
        exact ⟨by rw [←HE.out];rfl,rfl⟩
       ·by_cases c2:192≤C
        ·have c1I:¬((s[j]'hjs).toNat:Int)<128:=by rw [HCC.out.1];omega
         have c2I:(192:Int)≤((s[j]'hjs).toNat:Int):=by rw [HCC.out.1];omega
         have HE:=Lib.hid (show false=ANS from by rw [←HI.out];exact (cls_bad HNE.out HB.out HC.out ⟨hk1,hkn⟩ (fun h=>by have h1:=h.2.2;rw [HCC.out.2] at h1;omega)).symm)
         clear hkn hk1 hk2 hin hC256 c1 c2
         go_wp2
         go_ret
         exact ⟨by rw [←HE.out];rfl,rfl⟩
        ·have c1I:(128:Int)≤((s[j]'hjs).toNat:Int):=by rw [HCC.out.1];omega
         have c2I:((s[j]'hjs).toNat:Int)<192:=by rw [HCC.out.1];omega
         have HE:=Lib.hid (show accU (s.data.toList.drop i) v0 (k+1 - 1)=V * 64+C - 128∧contsU (s.data.toList.drop i) (k+1 - 1) from by
          have e:k+1 - 1=(k - 1)+1:=by omega
          rw [e]
          refine ⟨?_,fun q h1 h2=>?_⟩
          ·rw [accU_succ,HI2.out.1,show k - 1+1=k by omega,HCC.out.2];omega
          ·by_cases hq:q≤k - 1
           ·exact HI2.out.2 q h1 hq
           ·have hqk:q=k:=by omega
            rw [hqk]
            refine ⟨?_,by rw [HCC.out.2];omega,by rw [HCC.out.2];omega⟩
            have hj:=HJ.out
            have hn:=HN.out.1
            simp only [List.length_drop,Array.length_toList]
            show k<s.size - i
            omega)
         have HK:=Lib.hid (And.intro hkn (And.intro (show 128≤C by omega) (show C<192 by omega)))
         clear hkn hk1 hk2 hin hC256 c1 c2
         go_wp2
         refine ⟨⟨trivial,k+1,V * 64+C - 128,rfl,?_,by omega,by have:=HK.out.1;omega,HE⟩,?_⟩
         ·have h1:=HK.out.2
          rw [HCC.out.1]
          congr 1
          omega
         ·have:=HK.out.1
          show (4 - ((k:Int)+1)).toNat<(4 - (k:Int)).toNat
          omega
      ·have hjN:(N:Int)≤(j:Int):=by omega
       have HE:=Lib.hid (show false=ANS from by
        rw [←HI.out]
        refine (cls_bad HNE.out HB.out HC.out ⟨hk1,hkn⟩ (fun h=>?_)).symm
        have h1:=h.1
        have hj:=HJ.out
        have hn:=HN.out.1
        simp only [List.length_drop,Array.length_toList] at h1
        change k<s.size - i at h1
        omega)
       clear hkn hk1 hk2 hin
       go_wp2
       go_ret
       exact ⟨by rw [←HE.out];rfl,rfl⟩
     ·have hk:k=4:=by omega
      subst hk
      have hV:accU (s.data.toList.drop i) v0 3=V:=HI2.out.1
      have hVb:V≤8388607:=by
       have h1:=accU_lt HV0.out 3 HI2.out.2
       rw [hV] at h1
       have h2:32 * (64:Nat) ^ 3≤8388608:=by decide
       omega
      obtain ⟨HGb,HGg⟩:=cls_end HNE.out HB.out HC.out HI2.out.2 hV
      have hV0I:(0:Int)≤(V:Int):=by omega
      have hVI:(V:Int)≤8388607:=by omega
      have HI2c:=Lib.hid (HI2.out.2)
      have HGb:=Lib.hid HGb
      have HGg:=Lib.hid HGg
      clear hkn hk1 hk2 hV hVb HI2
      by_cases d1:V<65536
      ·have d1I:(V:Int)<65536:=by omega
       have HE:=Lib.hid (show false=ANS from by rw [←HI.out];exact (HGb.out (.inl d1)).symm)
       clear d1
       go_wp2
       go_ret
       exact ⟨by rw [←HE.out];rfl,rfl⟩
      by_cases d2:1114111<V
      ·have d1I:¬(V:Int)<65536:=by omega
       have d2I:(1114111:Int)<(V:Int):=by omega
       have HE:=Lib.hid (show false=ANS from by rw [←HI.out];exact (HGb.out (.inr (.inl d2))).symm)
       clear d1 d2
       go_wp2
       go_ret
       exact ⟨by rw [←HE.out];rfl,rfl⟩
      by_cases d3:55296≤V
      ·by_cases d4:V<57344
       ·have d1I:¬(V:Int)<65536:=by omega
        have d2I:¬(1114111:Int)<(V:Int):=by omega
        have d3I:(55296:Int)≤(V:Int):=by omega
        have d4I:(V:Int)<57344:=by omega
        have HE:=Lib.hid (show false=ANS from by rw [←HI.out];exact (HGb.out (.inr (.inr ⟨d3,d4⟩))).symm)
        clear d1 d2 d3 d4
        go_wp2
        go_ret
        exact ⟨by rw [←HE.out];rfl,rfl⟩
       ·have d1I:¬(V:Int)<65536:=by omega
        have d2I:¬(1114111:Int)<(V:Int):=by omega
        have d3I:(55296:Int)≤(V:Int):=by omega
        have d4I:¬(V:Int)<57344:=by omega
        have HE:=Lib.hid (HGg.out (by omega))
        clear d1 d2 d3 d4
        have HLn:=Lib.hid (show i+4≤N from by
         have h1:=(HI2c.out 3 (by omega) (Nat.le_refl _)).1
         have hn:=HN.out.1
         simp only [List.length_drop,Array.length_toList] at h1
         change 3<s.size - i at h1
         omega)
        have hLn:(i:Int)+3+1≤(N:Int):=by have:=HLn.out;omega
        go_wp2
        refine ⟨⟨trivial,i+4,?_,HLn.out,Lib.hid (by rw [←HI.out,HE.out,List.drop_drop])⟩,?_⟩
        ·congr 1
        ·show ((N:Int) - ((i:Int)+3+1)).toNat<((N:Int) - (i:Int)).toNat
         have:=HLn.out
         omega
      ·have d1I:¬(V:Int)<65536:=by omega
       have d2I:¬(1114111:Int)<(V:Int):=by omega
       have d3I:¬(55296:Int)≤(V:Int):=by omega
       have HE:=Lib.hid (HGg.out (by omega))
       clear d1 d2 d3
       have HLn:=Lib.hid (show i+4≤N from by
        have h1:=(HI2c.out 3 (by omega) (Nat.le_refl _)).1
        have hn:=HN.out.1
        simp only [List.length_drop,Array.length_toList] at h1
        change 3<s.size - i at h1
        omega)
       have hLn:(i:Int)+3+1≤(N:Int):=by have:=HLn.out;omega
       go_wp2
       refine ⟨⟨trivial,i+4,?_,HLn.out,Lib.hid (by rw [←HI.out,HE.out,List.drop_drop])⟩,?_⟩
       ·congr 1
       ·show ((N:Int) - ((i:Int)+3+1)).toNat<((N:Int) - (i:Int)).toNat
        have:=HLn.out
        omega
  ·have ei:i=N:=by omega
   have HE:=Lib.hid (show true=ANS from by
    rw [←HI.out,List.drop_of_length_le (by rw [Array.length_toList,ei,←HN.out.1];exact Nat.le_refl _)]
    rfl)
   subst ei
   clear hlt hi
   go_wp2
   go_ret
   exact ⟨by rw [←HE.out];rfl,rfl⟩
end Go.Proofs.YtgfeainpeplphaaDoor
namespace Go.Proofs.YtgfeainpeplphaaDoor
open Go.RowKit Hb Ht
attribute [local go_sem] Oper.semAt_some
theorem digs_2_le {n k:Nat} (h:blen n≤k):(digs 2 n).length≤k:=digs_length_le (by decide) (blen_le_iff.1 h)
set_option maxRecDepth 100000 in
set_option maxHeartbeats 2000000 in
theorem rcanonical_any (s:ByteArray) (w:World) (hs:s.size≤maxLen) :
  Calls Tryd.prog 75 #[.string s] w fun e w'=>e = .returned (.bool (canonB s.data.toList))∧Below w.heap.size w w':=by
 have HP:=Lib.hid (rParse_anyL s 10 w (by unfold maxLen at hs;omega))
 obtain ⟨co,hco⟩:∃ co,pCode s.data.toList 10=co:=⟨_,rfl⟩
 obtain ⟨z,hz⟩:∃ z,pVal s.data.toList 10=z:=⟨_,rfl⟩
 obtain ⟨st,hst⟩:∃ st,strN (txtZ z 10)=st:=⟨_,rfl⟩
 have hC:canonB s.data.toList=(decide (co=0) && decide (st.data.toList=s.data.toList)):=by unfold canonB;rw [hco,hz,←hst];rfl
 rw [hC]
 obtain ⟨R,hR⟩:∃ R,(decide (co=0) && decide (st.data.toList=s.data.toList))=R:=⟨_,rfl⟩
 rw [hR]
 have HR:=Lib.hid hR
 have HSt:=Lib.hid hst
 rw [hco,hz] at HP
 have HT:=Lib.hid (fun h:co=0=>show tooLong z=false by rw [←hz];exact code_ok (hco.trans h))
 clear hC hco hz hR hst
 go_enter Tryd.func75,Tryd.ntmps75
 go_wp2_with fail
 (with_reducible refine HP.out.mono ?_)
 rintro e w1 ⟨v,rfl,hv0,hv1,hb1⟩
 by_cases h0:co=0
 ·subst h0
  obtain ⟨A,c,rfl,ho⟩:=hv0 rfl
  have ht:=HT.out rfl
  have hbl:=short_blen ht
  have hdl:=digs_2_le hbl
  have hsl:SlI w1 w1.heap.size A (digs 2 z.natAbs).length c (digs 2 z.natAbs):=ho.sl (dig_digs (by decide) _) rfl
  have hb2:Below w1.heap.size w1 (w1.alloc (.cells #[.bool (decide (z<0)),.slice A (digs 2 z.natAbs).length c] 106)):=(Below.refl _ _).alloc (Nat.le_refl _) _
  have hT:=rText_any (x:=z) (w:=w1.alloc (.cells #[.bool (decide (z<0)),.slice A (digs 2 z.natAbs).length c] 106)) ((hsl.below (C:=w1.heap.size) hb2 (Nat.le_refl _)).mono hb2.size) (Nat.le_refl _) hdl 10 (by omega) (by omega)
  rw [show ((10:Nat):Int)=10 from rfl,HSt.out] at hT
  have HX:=Lib.hid hT
  have HB:=Lib.hid (hb1.trans (hb2.mono hb1.size))
  clear hT hv0 hv1 hb1 ho ht hbl hdl hsl hb2
  generalize (digs 2 z.natAbs).length=n at *
  generalize decide (z<0)=sgn at *
  go_wp2_with fail
  (with_reducible refine HX.out.mono ?_)
  rintro e w3 ⟨rfl,hb3⟩
  have HB3:=Lib.hid (HB.out.trans (hb3.mono HB.out.size))
  clear hb3
  by_cases he:st.data.toList=s.data.toList
  ·have s1:(st.toList==s.toList)=true:=by rw [ByteArray.toList_eq,ByteArray.toList_eq,he];simp
   have HE:=Lib.hid (show true=R by rw [←HR.out,decide_eq_true he];rfl)
   clear he
   go_wp2
   go_ret
   exact ⟨by rw [←HE.out];rfl,HB3.out⟩
  ·have s1:(st.toList==s.toList)=false:=by rw [ByteArray.toList_eq,ByteArray.toList_eq];exact beq_eq_false_iff_ne.2 he
   have HE:=Lib.hid (show false=R by rw [←HR.out,decide_eq_false he];simp)
   clear he
   go_wp2
   go_ret
   exact ⟨by rw [←HE.out];rfl,HB3.out⟩
 ·have hv:=hv1 h0
  subst hv
  have h0b:(co != 0)=true:=by simpa using h0
  have HE:=Lib.hid (show false=R by rw [←HR.out,decide_eq_false h0];simp)
  have HB:=Lib.hid hb1
  clear hv0 hv1 h0 hb1
  go_wp2
  go_ret
  exact ⟨by rw [←HE.out];rfl,HB.out.alloc HB.out.size _⟩
theorem one20 {t:Tm} (h:t.k<1∨5<t.k∨stray t=true∨t.v<0∨(t.k=5∧(t.as.length=0∨64<t.as.length))):oneP t=20:=if_pos h
theorem one_go {t:Tm} (h:¬(t.k<1∨5<t.k∨stray t=true∨t.v<0∨(t.k=5∧(t.as.length=0∨64<t.as.length)))):oneP t=if Lib.validD t.n=false∨1000<t.n.length then 21
 else if t.k=3∧canonB t.m=false then 22
 else if t.k=4∧floB t.b=false then 23
 else 0:=if_neg h
theorem stray_n {t:Tm} (h:t.n ≠ []) (h2:t.k≠2) (h5:t.k≠5):stray t=true:=by simp [stray,h,h2,h5]
theorem stray_m {t:Tm} (h:t.m ≠ []) (h3:t.k≠3):stray t=true:=by simp [stray,h,h3]
theorem stray_b {t:Tm} (h:t.b≠0) (h4:t.k≠4):stray t=true:=by simp [stray,h,h4]
theorem stray_v {t:Tm} (h:t.v≠0) (h1:t.k≠1):stray t=true:=by simp [stray,h,h1]
theorem stray_l {t:Tm} (h:t.as.length≠0) (h5:t.k≠5):stray t=true:=by unfold stray;simp only [Bool.or_eq_true];exact .inr (by simp [h,h5])
theorem stray_no {t:Tm} (hn:t.n = []∨t.k=2∨t.k=5) (hm:t.m = []∨t.k=3) (hb:t.b=0∨t.k=4) (hv:t.v=0∨t.k=1) (hl:t.as.length=0∨t.k=5):stray t=false:=by
 unfold stray
 simp only [Bool.or_eq_false_iff]
 refine ⟨⟨⟨⟨?_,?_⟩,?_⟩,?_⟩,?_⟩
 ·rcases hn with h | h | h <;> simp [h]
 ·rcases hm with h | h <;> simp [h]
 ·rcases hb with h | h <;> simp [h]
 ·rcases hv with h | h <;> simp [h]
 ·rcases hl with h | h <;> simp [h]
theorem bytes_ne {n:List UInt8} {nb:ByteArray} (h:(⟨n.toArray⟩:ByteArray)=nb) (hn:n ≠ []):nb.toList.isEmpty=false∧(nb.toList == [])=false∧¬nb.toList = []:=by
 have e:nb.toList=n:=by rw [←h,ByteArray.toList_eq]
 rw [e]
 cases n with
 | nil=>exact absurd rfl hn
 | cons a l=>exact ⟨rfl,rfl,by simp⟩
set_option maxRecDepth 100000 in
set_option maxHeartbeats 16000000 in
theorem rone_any {w:World} {t:Tm} {sl:Value} (h:TAt w w.heap.size t sl) (hf:t.n.length≤4611686018427387904):Calls Tryd.prog 65 #[valT t sl] w fun e w'=>e = .returned (.int .i64 (oneP t))∧Below w.heap.size w w':=by
 obtain ⟨k,nl,ml,b,v,ts,nb,mb,A,c,rfl,rfl,hnb,hmb,hl1,hl2,hl3,hv,hs1,hs2⟩:=h.letters
 have hok:=h.ok
 obtain ⟨L,hL⟩:∃ L,ts.length=L:=⟨_,rfl⟩
 rw [hv]
 rw [hL] at h hl1 hl3 ⊢
 obtain ⟨R,hR⟩:∃ R,oneP (.mk k nl ml b v ts)=R:=⟨_,rfl⟩
 rw [hR]
 have HR:=Lib.hid hR
 have hUv:=fun (w':World)=>UTF_any nb w' (by rw [←hnb];show nl.toArray.size≤_;rw [List.size_toArray];exact hf)
 rw [show nb.data.toList=nl by rw [←hnb]] at hUv
 obtain ⟨U,hUu⟩:∃ U,Lib.validD nl=U:=⟨_,rfl⟩
 obtain ⟨N,hN⟩:∃ N,nl.length=N:=⟨_,rfl⟩
 have hsz:nb.size=N:=by rw [←hN,←hnb];exact List.size_toArray
 have hNI:(N:Int)≤4611686018427387904:=by change nl.length≤_ at hf;omega
 rw [hUu] at hUv
 have HUv:=Lib.hid hUv
 have hIn:=fun (w':World)=>rcanonical_any mb w' hs2
 rw [show mb.data.toList=ml by rw [←hmb]] at hIn
 obtain ⟨C,hC⟩:∃ C,canonB ml=C:=⟨_,rfl⟩
 rw [hC] at hIn
 have HIn:=Lib.hid hIn
 obtain ⟨F,hF⟩:∃ F,floB b=F:=⟨_,rfl⟩
 have hFl:=fun (w':World)=>rfloats_any b.toNat (by have:=hok.2.2.1;simp only [Tm.b] at this;omega) w'
 rw [show floN b.toNat=F from hF,show ((b.toNat:Nat):Int)=b by have:=hok.2.2.1;simp only [Tm.b] at this;omega] at hFl
 have HFl:=Lib.hid hFl
 have HD:=Lib.hid (And.intro hUu (And.intro hN (And.intro hC (And.intro hF hL))))
 have hLI:(L:Int)≤1759218604400:=by unfold maxArgs at hl3;omega
 obtain ⟨W1,hW1⟩:∃ W1,(w.alloc (.cells #[.int .i64 k,.string nb,.string mb,.int .u64 b,.int .i64 v,.slice A L c] 25))=W1:=⟨_,rfl⟩
 have hb1:Below w.heap.size w W1:=by rw [←hW1];exact (Below.refl _ _).alloc (Nat.le_refl _) _
 have hX:TBox W1 w.heap.size (.mk k nl ml b v ts) (.slice A L c):=by rw [←hW1];exact TBox.new w hnb hmb
 obtain ⟨x0,x1,x2,x3,x4,x5⟩:=hX.cells hnb hmb
 have HX:=Lib.hid (And.intro hb1 hX)
 have HM:=Lib.hid (And.intro hnb hmb)
 have HKb:=Lib.hid (show 0≤b∧b<18446744073709551616 from hok.2.2.1)
 have hbu0:=HKb.out.1
 have hbu1:=HKb.out.2
 subst hW1
 clear h hv hok hf hb1 hX hUv hIn hFl hUu hC hF hN hR hnb hmb hL hs1 hs2 hl1 hl3
 by_cases hk1:k<1
 ·have hk1b:(k==1)=false:=beq_eq_false_iff_ne.2 (by omega)
  have hk2b:(k==2)=false:=beq_eq_false_iff_ne.2 (by omega)
  have hk3b:(k==3)=false:=beq_eq_false_iff_ne.2 (by omega)
  have hk4b:(k==4)=false:=beq_eq_false_iff_ne.2 (by omega)
  have hk5b:(k==5)=false:=beq_eq_false_iff_ne.2 (by omega)
  have HE:=Lib.hid (show (20:Int)=R by rw [←HR.out];refine Eq.symm ?_;exact one20 (.inl hk1))
  go_enter Tryd.func65,Tryd.ntmps65
  go_wp2_with (first
   | (go_at_call 74;(with_reducible refine (HUv.out _).mono ?_);rintro e w2 ⟨rfl,rfl⟩)
   | (go_at_call 75;(with_reducible refine (HIn.out _).mono ?_);rintro e w4 ⟨rfl,hb4⟩;have HX4:=Lib.hid (HX.out.1.trans (hb4.mono HX.out.1.size));clear hb4)
   | (go_at_call 76;(with_reducible refine (HFl.out _).mono ?_);rintro e w5 ⟨rfl,rfl⟩))
  all_goals
   go_ret
   exact ⟨by rw [←HE.out];rfl,HX.out.1⟩
 by_cases hk5:5<k
 ·have hk1b:(k==1)=false:=beq_eq_false_iff_ne.2 (by omega)
  have hk2b:(k==2)=false:=beq_eq_false_iff_ne.2 (by omega)
  have hk3b:(k==3)=false:=beq_eq_false_iff_ne.2 (by omega)
  have hk4b:(k==4)=false:=beq_eq_false_iff_ne.2 (by omega)
  have hk5b:(k==5)=false:=beq_eq_false_iff_ne.2 (by omega)
  have HE:=Lib.hid (show (20:Int)=R by rw [←HR.out];refine Eq.symm ?_;exact one20 (.inr (.inl hk5)))
  go_enter Tryd.func65,Tryd.ntmps65
  go_wp2_with (first
   | (go_at_call 74;(with_reducible refine (HUv.out _).mono ?_);rintro e w2 ⟨rfl,rfl⟩)
   | (go_at_call 75;(with_reducible refine (HIn.out _).mono ?_);rintro e w4 ⟨rfl,hb4⟩;have HX4:=Lib.hid (HX.out.1.trans (hb4.mono HX.out.1.size));clear hb4)
   | (go_at_call 76;(with_reducible refine (HFl.out _).mono ?_);rintro e w5 ⟨rfl,rfl⟩))
  all_goals
   go_ret
   exact ⟨by rw [←HE.out];rfl,HX.out.1⟩
 have hkk:k=1∨k=2∨k=3∨k=4∨k=5:=by omega
 clear hk1 hk5
 rcases hkk with rfl | rfl | rfl | rfl | rfl
 ·skip
  by_cases hn0:nl = []
  case neg=>
   obtain ⟨e1,e2,e3⟩:=bytes_ne HM.out.1 hn0
   have HE:=Lib.hid (show (20:Int)=R by rw [←HR.out];refine Eq.symm ?_;exact one20 (.inr (.inr (.inl (stray_n hn0 (show (1:Int)≠2 by decide) (show (1:Int)≠5 by decide))))))
   clear hn0
   go_enter Tryd.func65,Tryd.ntmps65
   go_wp2_with (first
    | (go_at_call 74;(with_reducible refine (HUv.out _).mono ?_);rintro e w2 ⟨rfl,rfl⟩)
    | (go_at_call 75;(with_reducible refine (HIn.out _).mono ?_);rintro e w4 ⟨rfl,hb4⟩;have HX4:=Lib.hid (HX.out.1.trans (hb4.mono HX.out.1.size));clear hb4)
    | (go_at_call 76;(with_reducible refine (HFl.out _).mono ?_);rintro e w5 ⟨rfl,rfl⟩))
   all_goals
    go_ret
    exact ⟨by rw [←HE.out];rfl,HX.out.1⟩
  subst hn0
  obtain rfl:nb=⟨#[]⟩:=HM.out.1.symm
  by_cases hm0:ml = []
  case neg=>
   obtain ⟨f1,f2,f3⟩:=bytes_ne HM.out.2 hm0
   have HE:=Lib.hid (show (20:Int)=R by rw [←HR.out];refine Eq.symm ?_;exact one20 (.inr (.inr (.inl (stray_m hm0 (show (1:Int)≠3 by decide))))))
   clear hm0
   go_enter Tryd.func65,Tryd.ntmps65
   go_wp2_with (first
    | (go_at_call 74;(with_reducible refine (HUv.out _).mono ?_);rintro e w2 ⟨rfl,rfl⟩)
    | (go_at_call 75;(with_reducible refine (HIn.out _).mono ?_);rintro e w4 ⟨rfl,hb4⟩;have HX4:=Lib.hid (HX.out.1.trans (hb4.mono HX.out.1.size));clear hb4)
    | (go_at_call 76;(with_reducible refine (HFl.out _).mono ?_);rintro e w5 ⟨rfl,rfl⟩))
   all_goals
    go_ret
    exact ⟨by rw [←HE.out];rfl,HX.out.1⟩
  subst hm0
  obtain rfl:mb=⟨#[]⟩:=HM.out.2.symm
  by_cases hb0:b=0
  case neg=>
   have g1:(b != 0)=true:=by simpa using hb0
   have g2:¬b=0:=hb0
   have HE:=Lib.hid (show (20:Int)=R by rw [←HR.out];refine Eq.symm ?_;exact one20 (.inr (.inr (.inl (stray_b hb0 (show (1:Int)≠4 by decide))))))
   clear hb0
   go_enter Tryd.func65,Tryd.ntmps65
   go_wp2_with (first
    | (go_at_call 74;(with_reducible refine (HUv.out _).mono ?_);rintro e w2 ⟨rfl,rfl⟩)
    | (go_at_call 75;(with_reducible refine (HIn.out _).mono ?_);rintro e w4 ⟨rfl,hb4⟩;have HX4:=Lib.hid (HX.out.1.trans (hb4.mono HX.out.1.size));clear hb4)
    | (go_at_call 76;(with_reducible refine (HFl.out _).mono ?_);rintro e w5 ⟨rfl,rfl⟩))
   all_goals
    go_ret
    exact ⟨by rw [←HE.out];rfl,HX.out.1⟩
  subst hb0
  by_cases hvz:v=0
  ·subst hvz
   by_cases hL0:L=0
   case neg=>
    have g1:(0:Int)<(L:Int):=by omega
    have HE:=Lib.hid (show (20:Int)=R by rw [←HR.out];refine Eq.symm ?_;exact one20 (.inr (.inr (.inl (stray_l (show ts.length≠0 by rw [HD.out.2.2.2.2];exact hL0) (show (1:Int)≠5 by decide))))))
    clear hL0
    go_enter Tryd.func65,Tryd.ntmps65
    go_wp2_with (first
     | (go_at_call 74;(with_reducible refine (HUv.out _).mono ?_);rintro e w2 ⟨rfl,rfl⟩)
     | (go_at_call 75;(with_reducible refine (HIn.out _).mono ?_);rintro e w4 ⟨rfl,hb4⟩;have HX4:=Lib.hid (HX.out.1.trans (hb4.mono HX.out.1.size));clear hb4)
     | (go_at_call 76;(with_reducible refine (HFl.out _).mono ?_);rintro e w5 ⟨rfl,rfl⟩))
    all_goals
     go_ret
     exact ⟨by rw [←HE.out];rfl,HX.out.1⟩
   subst hL0
   have hgo:=Lib.hid (one_go (t:=.mk 1 [] [] 0 0 ts) (fun h=>by
    have hs:=stray_no (t:=.mk 1 [] [] 0 0 ts) (.inl rfl) (.inl rfl) (.inl rfl) (.inr rfl) (.inl HD.out.2.2.2.2)
    rcases h with h | h | h | h | h
    ·exact absurd h (by show ¬(1:Int)<1;omega)
    ·exact absurd h (by show ¬(5:Int)<1;omega)
    ·rw [hs] at h;cases h
    ·exact absurd h (by show ¬(0:Int)<0;omega)
    ·exact absurd h (fun h=>absurd h.1 (show (1:Int)≠5 by decide))))
   cases U
   ·skip
    have HE:=Lib.hid (show (21:Int)=R by rw [←HR.out];refine Eq.symm ?_;exact hgo.out.trans (if_pos (.inl HD.out.1)))
    go_enter Tryd.func65,Tryd.ntmps65
    go_wp2_with (first
     | (go_at_call 74;(with_reducible refine (HUv.out _).mono ?_);rintro e w2 ⟨rfl,rfl⟩)
     | (go_at_call 75;(with_reducible refine (HIn.out _).mono ?_);rintro e w4 ⟨rfl,hb4⟩;have HX4:=Lib.hid (HX.out.1.trans (hb4.mono HX.out.1.size));clear hb4)
     | (go_at_call 76;(with_reducible refine (HFl.out _).mono ?_);rintro e w5 ⟨rfl,rfl⟩))
    all_goals
     go_ret
     exact ⟨by rw [←HE.out];rfl,HX.out.1⟩
   by_cases h1000:1000<N
   ·have h1I:(1000:Int)<(N:Int):=by omega
    have HE:=Lib.hid (show (21:Int)=R by rw [←HR.out];refine Eq.symm ?_;exact hgo.out.trans (if_pos (.inr (by show 1000<([]:List UInt8).length;rw [HD.out.2.1];exact h1000))))
    clear h1000
    go_enter Tryd.func65,Tryd.ntmps65
    go_wp2_with (first
     | (go_at_call 74;(with_reducible refine (HUv.out _).mono ?_);rintro e w2 ⟨rfl,rfl⟩)
     | (go_at_call 75;(with_reducible refine (HIn.out _).mono ?_);rintro e w4 ⟨rfl,hb4⟩;have HX4:=Lib.hid (HX.out.1.trans (hb4.mono HX.out.1.size));clear hb4)
     | (go_at_call 76;(with_reducible refine (HFl.out _).mono ?_);rintro e w5 ⟨rfl,rfl⟩))
    all_goals
     go_ret
     exact ⟨by rw [←HE.out];rfl,HX.out.1⟩
   have h1I:¬(1000:Int)<(N:Int):=by omega
   have h1J:(N:Int)≤1000:=by omega
   have HU2:=Lib.hid (show ¬(Lib.validD []=false∨1000<([]:List UInt8).length) from fun h=>by
    rcases h with h | h
    ·rw [HD.out.1] at h;cases h
    ·rw [HD.out.2.1] at h;exact h1000 h)
   clear h1000
   have HE:=Lib.hid (show (0:Int)=R by rw [←HR.out];refine Eq.symm ?_;exact hgo.out.trans ((if_neg HU2.out).trans ((if_neg (fun h=>absurd h.1 (show (1:Int)≠3 by decide))).trans (if_neg (fun h=>absurd h.1 (show (1:Int)≠4 by decide))))))
   go_enter Tryd.func65,Tryd.ntmps65
   go_wp2_with (first
    | (go_at_call 74;(with_reducible refine (HUv.out _).mono ?_);rintro e w2 ⟨rfl,rfl⟩)
    | (go_at_call 75;(with_reducible refine (HIn.out _).mono ?_);rintro e w4 ⟨rfl,hb4⟩;have HX4:=Lib.hid (HX.out.1.trans (hb4.mono HX.out.1.size));clear hb4)
    | (go_at_call 76;(with_reducible refine (HFl.out _).mono ?_);rintro e w5 ⟨rfl,rfl⟩))
   all_goals
    go_ret
    exact ⟨by rw [←HE.out];rfl,HX.out.1⟩
  ·have g8:(v != 0)=true:=by simpa using hvz
   have g9:¬v=0:=hvz
   by_cases hL0:L=0
   case neg=>
    have g1:(0:Int)<(L:Int):=by omega
    have HE:=Lib.hid (show (20:Int)=R by rw [←HR.out];refine Eq.symm ?_;exact one20 (.inr (.inr (.inl (stray_l (show ts.length≠0 by rw [HD.out.2.2.2.2];exact hL0) (show (1:Int)≠5 by decide))))))
    clear hL0
    go_enter Tryd.func65,Tryd.ntmps65
    go_wp2_with (first
     | (go_at_call 74;(with_reducible refine (HUv.out _).mono ?_);rintro e w2 ⟨rfl,rfl⟩)
     | (go_at_call 75;(with_reducible refine (HIn.out _).mono ?_);rintro e w4 ⟨rfl,hb4⟩;have HX4:=Lib.hid (HX.out.1.trans (hb4.mono HX.out.1.size));clear hb4)
     | (go_at_call 76;(with_reducible refine (HFl.out _).mono ?_);rintro e w5 ⟨rfl,rfl⟩))
    all_goals
     go_ret
     exact ⟨by rw [←HE.out];rfl,HX.out.1⟩
   subst hL0
   by_cases hv0:v<0
   ·have g1:(v != 0)=true:=by simp;omega
    have HE:=Lib.hid (show (20:Int)=R by rw [←HR.out];refine Eq.symm ?_;exact one20 (.inr (.inr (.inr (.inl hv0)))))
    go_enter Tryd.func65,Tryd.ntmps65
    go_wp2_with (first
     | (go_at_call 74;(with_reducible refine (HUv.out _).mono ?_);rintro e w2 ⟨rfl,rfl⟩)
     | (go_at_call 75;(with_reducible refine (HIn.out _).mono ?_);rintro e w4 ⟨rfl,hb4⟩;have HX4:=Lib.hid (HX.out.1.trans (hb4.mono HX.out.1.size));clear hb4)
     | (go_at_call 76;(with_reducible refine (HFl.out _).mono ?_);rintro e w5 ⟨rfl,rfl⟩))
    all_goals
     go_ret
     exact ⟨by rw [←HE.out];rfl,HX.out.1⟩
   have hv1:0<v:=by omega
   have hgo:=Lib.hid (one_go (t:=.mk 1 [] [] 0 v ts) (fun h=>by
    have hs:=stray_no (t:=.mk 1 [] [] 0 v ts) (.inl rfl) (.inl rfl) (.inl rfl) (.inr rfl) (.inl HD.out.2.2.2.2)
    rcases h with h | h | h | h | h
    ·exact absurd h (by show ¬(1:Int)<1;omega)
    ·exact absurd h (by show ¬(5:Int)<1;omega)
    ·rw [hs] at h;cases h
    ·exact absurd h (by show ¬v<0;omega)
    ·exact absurd h (fun h=>absurd h.1 (show (1:Int)≠5 by decide))))
   cases U
   ·skip
    have HE:=Lib.hid (show (21:Int)=R by rw [←HR.out];refine Eq.symm ?_;exact hgo.out.trans (if_pos (.inl HD.out.1)))
    go_enter Tryd.func65,Tryd.ntmps65
    go_wp2_with (first
     | (go_at_call 74;(with_reducible refine (HUv.out _).mono ?_);rintro e w2 ⟨rfl,rfl⟩)
     | (go_at_call 75;(with_reducible refine (HIn.out _).mono ?_);rintro e w4 ⟨rfl,hb4⟩;have HX4:=Lib.hid (HX.out.1.trans (hb4.mono HX.out.1.size));clear hb4)
     | (go_at_call 76;(with_reducible refine (HFl.out _).mono ?_);rintro e w5 ⟨rfl,rfl⟩))
    all_goals
     go_ret
     exact ⟨by rw [←HE.out];rfl,HX.out.1⟩
   by_cases h1000:1000<N
   ·have h1I:(1000:Int)<(N:Int):=by omega
    have HE:=Lib.hid (show (21:Int)=R by rw [←HR.out];refine Eq.symm ?_;exact hgo.out.trans (if_pos (.inr (by show 1000<([]:List UInt8).length;rw [HD.out.2.1];exact h1000))))
    clear h1000
    go_enter Tryd.func65,Tryd.ntmps65
    go_wp2_with (first
     | (go_at_call 74;(with_reducible refine (HUv.out _).mono ?_);rintro e w2 ⟨rfl,rfl⟩)
     | (go_at_call 75;(with_reducible refine (HIn.out _).mono ?_);rintro e w4 ⟨rfl,hb4⟩;have HX4:=Lib.hid (HX.out.1.trans (hb4.mono HX.out.1.size));clear hb4)
     | (go_at_call 76;(with_reducible refine (HFl.out _).mono ?_);rintro e w5 ⟨rfl,rfl⟩))
    all_goals
     go_ret
     exact ⟨by rw [←HE.out];rfl,HX.out.1⟩
   have h1I:¬(1000:Int)<(N:Int):=by omega
   have h1J:(N:Int)≤1000:=by omega
   have HU2:=Lib.hid (show ¬(Lib.validD []=false∨1000<([]:List UInt8).length) from fun h=>by
    rcases h with h | h
    ·rw [HD.out.1] at h;cases h
    ·rw [HD.out.2.1] at h;exact h1000 h)
   clear h1000
   have HE:=Lib.hid (show (0:Int)=R by rw [←HR.out];refine Eq.symm ?_;exact hgo.out.trans ((if_neg HU2.out).trans ((if_neg (fun h=>absurd h.1 (show (1:Int)≠3 by decide))).trans (if_neg (fun h=>absurd h.1 (show (1:Int)≠4 by decide))))))
   go_enter Tryd.func65,Tryd.ntmps65
   go_wp2_with (first
    | (go_at_call 74;(with_reducible refine (HUv.out _).mono ?_);rintro e w2 ⟨rfl,rfl⟩)
    | (go_at_call 75;(with_reducible refine (HIn.out _).mono ?_);rintro e w4 ⟨rfl,hb4⟩;have HX4:=Lib.hid (HX.out.1.trans (hb4.mono HX.out.1.size));clear hb4)
    | (go_at_call 76;(with_reducible refine (HFl.out _).mono ?_);rintro e w5 ⟨rfl,rfl⟩))
   all_goals
    go_ret
    exact ⟨by rw [←HE.out];rfl,HX.out.1⟩
 ·skip
  by_cases hm0:ml = []
  case neg=>
   obtain ⟨f1,f2,f3⟩:=bytes_ne HM.out.2 hm0
   have HE:=Lib.hid (show (20:Int)=R by rw [←HR.out];refine Eq.symm ?_;exact one20 (.inr (.inr (.inl (stray_m hm0 (show (2:Int)≠3 by decide))))))
   clear hm0
   go_enter Tryd.func65,Tryd.ntmps65
   go_wp2_with (first
    | (go_at_call 74;(with_reducible refine (HUv.out _).mono ?_);rintro e w2 ⟨rfl,rfl⟩)
    | (go_at_call 75;(with_reducible refine (HIn.out _).mono ?_);rintro e w4 ⟨rfl,hb4⟩;have HX4:=Lib.hid (HX.out.1.trans (hb4.mono HX.out.1.size));clear hb4)
    | (go_at_call 76;(with_reducible refine (HFl.out _).mono ?_);rintro e w5 ⟨rfl,rfl⟩))
   all_goals
    go_ret
    exact ⟨by rw [←HE.out];rfl,HX.out.1⟩
  subst hm0
  obtain rfl:mb=⟨#[]⟩:=HM.out.2.symm
  by_cases hb0:b=0
  case neg=>
   have g1:(b != 0)=true:=by simpa using hb0
   have g2:¬b=0:=hb0
   have HE:=Lib.hid (show (20:Int)=R by rw [←HR.out];refine Eq.symm ?_;exact one20 (.inr (.inr (.inl (stray_b hb0 (show (2:Int)≠4 by decide))))))
   clear hb0
   go_enter Tryd.func65,Tryd.ntmps65
   go_wp2_with (first
    | (go_at_call 74;(with_reducible refine (HUv.out _).mono ?_);rintro e w2 ⟨rfl,rfl⟩)
    | (go_at_call 75;(with_reducible refine (HIn.out _).mono ?_);rintro e w4 ⟨rfl,hb4⟩;have HX4:=Lib.hid (HX.out.1.trans (hb4.mono HX.out.1.size));clear hb4)
    | (go_at_call 76;(with_reducible refine (HFl.out _).mono ?_);rintro e w5 ⟨rfl,rfl⟩))
   all_goals
    go_ret
    exact ⟨by rw [←HE.out];rfl,HX.out.1⟩
  subst hb0
  by_cases hv0:v=0
  case neg=>
   have g1:(v != 0)=true:=by simpa using hv0
   have g2:¬v=0:=hv0
   have HE:=Lib.hid (show (20:Int)=R by rw [←HR.out];refine Eq.symm ?_;exact one20 (.inr (.inr (.inl (stray_v hv0 (show (2:Int)≠1 by decide))))))
   clear hv0
   go_enter Tryd.func65,Tryd.ntmps65
   go_wp2_with (first
    | (go_at_call 74;(with_reducible refine (HUv.out _).mono ?_);rintro e w2 ⟨rfl,rfl⟩)
    | (go_at_call 75;(with_reducible refine (HIn.out _).mono ?_);rintro e w4 ⟨rfl,hb4⟩;have HX4:=Lib.hid (HX.out.1.trans (hb4.mono HX.out.1.size));clear hb4)
    | (go_at_call 76;(with_reducible refine (HFl.out _).mono ?_);rintro e w5 ⟨rfl,rfl⟩))
   all_goals
    go_ret
    exact ⟨by rw [←HE.out];rfl,HX.out.1⟩
  subst hv0
  by_cases hL0:L=0
  case neg=>
   have g1:(0:Int)<(L:Int):=by omega
   have HE:=Lib.hid (show (20:Int)=R by rw [←HR.out];refine Eq.symm ?_;exact one20 (.inr (.inr (.inl (stray_l (show ts.length≠0 by rw [HD.out.2.2.2.2];exact hL0) (show (2:Int)≠5 by decide))))))
   clear hL0
   go_enter Tryd.func65,Tryd.ntmps65
   go_wp2_with (first
    | (go_at_call 74;(with_reducible refine (HUv.out _).mono ?_);rintro e w2 ⟨rfl,rfl⟩)
    | (go_at_call 75;(with_reducible refine (HIn.out _).mono ?_);rintro e w4 ⟨rfl,hb4⟩;have HX4:=Lib.hid (HX.out.1.trans (hb4.mono HX.out.1.size));clear hb4)
    | (go_at_call 76;(with_reducible refine (HFl.out _).mono ?_);rintro e w5 ⟨rfl,rfl⟩))
   all_goals
    go_ret
    exact ⟨by rw [←HE.out];rfl,HX.out.1⟩
  subst hL0
  have hgo:=Lib.hid (one_go (t:=.mk 2 nl [] 0 0 ts) (fun h=>by
   have hs:=stray_no (t:=.mk 2 nl [] 0 0 ts) (.inr (.inl rfl)) (.inl rfl) (.inl rfl) (.inl rfl) (.inl HD.out.2.2.2.2)
   rcases h with h | h | h | h | h
   ·exact absurd h (by show ¬(2:Int)<1;omega)
   ·exact absurd h (by show ¬(5:Int)<2;omega)
   ·rw [hs] at h;cases h
   ·exact absurd h (by show ¬(0:Int)<0;omega)
   ·exact absurd h (fun h=>absurd h.1 (show (2:Int)≠5 by decide))))
  cases U
  ·skip
   have HE:=Lib.hid (show (21:Int)=R by rw [←HR.out];refine Eq.symm ?_;exact hgo.out.trans (if_pos (.inl HD.out.1)))
   go_enter Tryd.func65,Tryd.ntmps65
   go_wp2_with (first
    | (go_at_call 74;(with_reducible refine (HUv.out _).mono ?_);rintro e w2 ⟨rfl,rfl⟩)
    | (go_at_call 75;(with_reducible refine (HIn.out _).mono ?_);rintro e w4 ⟨rfl,hb4⟩;have HX4:=Lib.hid (HX.out.1.trans (hb4.mono HX.out.1.size));clear hb4)
    | (go_at_call 76;(with_reducible refine (HFl.out _).mono ?_);rintro e w5 ⟨rfl,rfl⟩))
   all_goals
    go_ret
    exact ⟨by rw [←HE.out];rfl,HX.out.1⟩
  by_cases h1000:1000<N
  ·have h1I:(1000:Int)<(N:Int):=by omega
   have HE:=Lib.hid (show (21:Int)=R by rw [←HR.out];refine Eq.symm ?_;exact hgo.out.trans (if_pos (.inr (by show 1000<(nl:List UInt8).length;rw [HD.out.2.1];exact h1000))))
   clear h1000
   go_enter Tryd.func65,Tryd.ntmps65
   go_wp2_with (first
    | (go_at_call 74;(with_reducible refine (HUv.out _).mono ?_);rintro e w2 ⟨rfl,rfl⟩)
    | (go_at_call 75;(with_reducible refine (HIn.out _).mono ?_);rintro e w4 ⟨rfl,hb4⟩;have HX4:=Lib.hid (HX.out.1.trans (hb4.mono HX.out.1.size));clear hb4)
    | (go_at_call 76;(with_reducible refine (HFl.out _).mono ?_);rintro e w5 ⟨rfl,rfl⟩))
   all_goals
    go_ret
    exact ⟨by rw [←HE.out];rfl,HX.out.1⟩
  have h1I:¬(1000:Int)<(N:Int):=by omega
  have h1J:(N:Int)≤1000:=by omega
  have HU2:=Lib.hid (show ¬(Lib.validD nl=false∨1000<(nl:List UInt8).length) from fun h=>by
   rcases h with h | h
   ·rw [HD.out.1] at h;cases h
   ·rw [HD.out.2.1] at h;exact h1000 h)
  clear h1000
  have HE:=Lib.hid (show (0:Int)=R by rw [←HR.out];refine Eq.symm ?_;exact hgo.out.trans ((if_neg HU2.out).trans ((if_neg (fun h=>absurd h.1 (show (2:Int)≠3 by decide))).trans (if_neg (fun h=>absurd h.1 (show (2:Int)≠4 by decide))))))
  go_enter Tryd.func65,Tryd.ntmps65
  go_wp2_with (first
   | (go_at_call 74;(with_reducible refine (HUv.out _).mono ?_);rintro e w2 ⟨rfl,rfl⟩)
   | (go_at_call 75;(with_reducible refine (HIn.out _).mono ?_);rintro e w4 ⟨rfl,hb4⟩;have HX4:=Lib.hid (HX.out.1.trans (hb4.mono HX.out.1.size));clear hb4)
   | (go_at_call 76;(with_reducible refine (HFl.out _).mono ?_);rintro e w5 ⟨rfl,rfl⟩))
  all_goals
   go_ret
   exact ⟨by rw [←HE.out];rfl,HX.out.1⟩
 ·skip
  by_cases hn0:nl = []
  case neg=>
   obtain ⟨e1,e2,e3⟩:=bytes_ne HM.out.1 hn0
   have HE:=Lib.hid (show (20:Int)=R by rw [←HR.out];refine Eq.symm ?_;exact one20 (.inr (.inr (.inl (stray_n hn0 (show (3:Int)≠2 by decide) (show (3:Int)≠5 by decide))))))
   clear hn0
   go_enter Tryd.func65,Tryd.ntmps65
   go_wp2_with (first
    | (go_at_call 74;(with_reducible refine (HUv.out _).mono ?_);rintro e w2 ⟨rfl,rfl⟩)
    | (go_at_call 75;(with_reducible refine (HIn.out _).mono ?_);rintro e w4 ⟨rfl,hb4⟩;have HX4:=Lib.hid (HX.out.1.trans (hb4.mono HX.out.1.size));clear hb4)
    | (go_at_call 76;(with_reducible refine (HFl.out _).mono ?_);rintro e w5 ⟨rfl,rfl⟩))
   all_goals
    go_ret
    exact ⟨by rw [←HE.out];rfl,HX.out.1⟩
  subst hn0
  obtain rfl:nb=⟨#[]⟩:=HM.out.1.symm
  by_cases hmz:ml = []
  ·subst hmz
   obtain rfl:mb=⟨#[]⟩:=HM.out.2.symm
   by_cases hb0:b=0
   case neg=>
    have g1:(b != 0)=true:=by simpa using hb0
    have g2:¬b=0:=hb0
    have HE:=Lib.hid (show (20:Int)=R by rw [←HR.out];refine Eq.symm ?_;exact one20 (.inr (.inr (.inl (stray_b hb0 (show (3:Int)≠4 by decide))))))
    clear hb0
    go_enter Tryd.func65,Tryd.ntmps65
    go_wp2_with (first
     | (go_at_call 74;(with_reducible refine (HUv.out _).mono ?_);rintro e w2 ⟨rfl,rfl⟩)
     | (go_at_call 75;(with_reducible refine (HIn.out _).mono ?_);rintro e w4 ⟨rfl,hb4⟩;have HX4:=Lib.hid (HX.out.1.trans (hb4.mono HX.out.1.size));clear hb4)
     | (go_at_call 76;(with_reducible refine (HFl.out _).mono ?_);rintro e w5 ⟨rfl,rfl⟩))
    all_goals
     go_ret
     exact ⟨by rw [←HE.out];rfl,HX.out.1⟩
   subst hb0
   by_cases hv0:v=0
   case neg=>
    have g1:(v != 0)=true:=by simpa using hv0
    have g2:¬v=0:=hv0
    have HE:=Lib.hid (show (20:Int)=R by rw [←HR.out];refine Eq.symm ?_;exact one20 (.inr (.inr (.inl (stray_v hv0 (show (3:Int)≠1 by decide))))))
    clear hv0
    go_enter Tryd.func65,Tryd.ntmps65
    go_wp2_with (first
     | (go_at_call 74;(with_reducible refine (HUv.out _).mono ?_);rintro e w2 ⟨rfl,rfl⟩)
     | (go_at_call 75;(with_reducible refine (HIn.out _).mono ?_);rintro e w4 ⟨rfl,hb4⟩;have HX4:=Lib.hid (HX.out.1.trans (hb4.mono HX.out.1.size));clear hb4)
     | (go_at_call 76;(with_reducible refine (HFl.out _).mono ?_);rintro e w5 ⟨rfl,rfl⟩))
    all_goals
     go_ret
     exact ⟨by rw [←HE.out];rfl,HX.out.1⟩
   subst hv0
   by_cases hL0:L=0
   case neg=>
    have g1:(0:Int)<(L:Int):=by omega
    have HE:=Lib.hid (show (20:Int)=R by rw [←HR.out];refine Eq.symm ?_;exact one20 (.inr (.inr (.inl (stray_l (show ts.length≠0 by rw [HD.out.2.2.2.2];exact hL0) (show (3:Int)≠5 by decide))))))
    clear hL0
    go_enter Tryd.func65,Tryd.ntmps65
    go_wp2_with (first
     | (go_at_call 74;(with_reducible refine (HUv.out _).mono ?_);rintro e w2 ⟨rfl,rfl⟩)
     | (go_at_call 75;(with_reducible refine (HIn.out _).mono ?_);rintro e w4 ⟨rfl,hb4⟩;have HX4:=Lib.hid (HX.out.1.trans (hb4.mono HX.out.1.size));clear hb4)
     | (go_at_call 76;(with_reducible refine (HFl.out _).mono ?_);rintro e w5 ⟨rfl,rfl⟩))
    all_goals
     go_ret
     exact ⟨by rw [←HE.out];rfl,HX.out.1⟩
   subst hL0
   have hgo:=Lib.hid (one_go (t:=.mk 3 [] [] 0 0 ts) (fun h=>by
    have hs:=stray_no (t:=.mk 3 [] [] 0 0 ts) (.inl rfl) (.inr rfl) (.inl rfl) (.inl rfl) (.inl HD.out.2.2.2.2)
    rcases h with h | h | h | h | h
    ·exact absurd h (by show ¬(3:Int)<1;omega)
    ·exact absurd h (by show ¬(5:Int)<3;omega)
    ·rw [hs] at h;cases h
    ·exact absurd h (by show ¬(0:Int)<0;omega)
    ·exact absurd h (fun h=>absurd h.1 (show (3:Int)≠5 by decide))))
   cases U
   ·skip
    have HE:=Lib.hid (show (21:Int)=R by rw [←HR.out];refine Eq.symm ?_;exact hgo.out.trans (if_pos (.inl HD.out.1)))
    go_enter Tryd.func65,Tryd.ntmps65
    go_wp2_with (first
     | (go_at_call 74;(with_reducible refine (HUv.out _).mono ?_);rintro e w2 ⟨rfl,rfl⟩)
     | (go_at_call 75;(with_reducible refine (HIn.out _).mono ?_);rintro e w4 ⟨rfl,hb4⟩;have HX4:=Lib.hid (HX.out.1.trans (hb4.mono HX.out.1.size));clear hb4)
     | (go_at_call 76;(with_reducible refine (HFl.out _).mono ?_);rintro e w5 ⟨rfl,rfl⟩))
    all_goals
     go_ret
     exact ⟨by rw [←HE.out];rfl,HX.out.1⟩
   by_cases h1000:1000<N
   ·have h1I:(1000:Int)<(N:Int):=by omega
    have HE:=Lib.hid (show (21:Int)=R by rw [←HR.out];refine Eq.symm ?_;exact hgo.out.trans (if_pos (.inr (by show 1000<([]:List UInt8).length;rw [HD.out.2.1];exact h1000))))
    clear h1000
    go_enter Tryd.func65,Tryd.ntmps65
    go_wp2_with (first
     | (go_at_call 74;(with_reducible refine (HUv.out _).mono ?_);rintro e w2 ⟨rfl,rfl⟩)
     | (go_at_call 75;(with_reducible refine (HIn.out _).mono ?_);rintro e w4 ⟨rfl,hb4⟩;have HX4:=Lib.hid (HX.out.1.trans (hb4.mono HX.out.1.size));clear hb4)
     | (go_at_call 76;(with_reducible refine (HFl.out _).mono ?_);rintro e w5 ⟨rfl,rfl⟩))
    all_goals
     go_ret
     exact ⟨by rw [←HE.out];rfl,HX.out.1⟩
   have h1I:¬(1000:Int)<(N:Int):=by omega
   have h1J:(N:Int)≤1000:=by omega
   have HU2:=Lib.hid (show ¬(Lib.validD []=false∨1000<([]:List UInt8).length) from fun h=>by
    rcases h with h | h
    ·rw [HD.out.1] at h;cases h
    ·rw [HD.out.2.1] at h;exact h1000 h)
   clear h1000
   cases C
   ·skip
    have HE:=Lib.hid (show (22:Int)=R by rw [←HR.out];refine Eq.symm ?_;exact hgo.out.trans ((if_neg HU2.out).trans (if_pos ⟨rfl,HD.out.2.2.1⟩)))
    go_enter Tryd.func65,Tryd.ntmps65
    go_wp2_with (first
     | (go_at_call 74;(with_reducible refine (HUv.out _).mono ?_);rintro e w2 ⟨rfl,rfl⟩)
     | (go_at_call 75;(with_reducible refine (HIn.out _).mono ?_);rintro e w4 ⟨rfl,hb4⟩;have HX4:=Lib.hid (HX.out.1.trans (hb4.mono HX.out.1.size));clear hb4)
     | (go_at_call 76;(with_reducible refine (HFl.out _).mono ?_);rintro e w5 ⟨rfl,rfl⟩))
    all_goals
     go_ret
     exact ⟨by rw [←HE.out];rfl,HX4.out⟩
   ·skip
    have HE:=Lib.hid (show (0:Int)=R by rw [←HR.out];refine Eq.symm ?_;exact hgo.out.trans ((if_neg HU2.out).trans ((if_neg (fun h=>by have h2:=h.2;change canonB []=false at h2;rw [HD.out.2.2.1] at h2;cases h2)).trans (if_neg (fun h=>absurd h.1 (show (3:Int)≠4 by decide))))))
    go_enter Tryd.func65,Tryd.ntmps65
    go_wp2_with (first
     | (go_at_call 74;(with_reducible refine (HUv.out _).mono ?_);rintro e w2 ⟨rfl,rfl⟩)
     | (go_at_call 75;(with_reducible refine (HIn.out _).mono ?_);rintro e w4 ⟨rfl,hb4⟩;have HX4:=Lib.hid (HX.out.1.trans (hb4.mono HX.out.1.size));clear hb4)
     | (go_at_call 76;(with_reducible refine (HFl.out _).mono ?_);rintro e w5 ⟨rfl,rfl⟩))
    all_goals
     go_ret
     exact ⟨by rw [←HE.out];rfl,HX4.out⟩
  ·obtain ⟨f1,f2,f3⟩:=bytes_ne HM.out.2 hmz
   clear hmz
   by_cases hb0:b=0
   case neg=>
    have g1:(b != 0)=true:=by simpa using hb0
    have g2:¬b=0:=hb0
    have HE:=Lib.hid (show (20:Int)=R by rw [←HR.out];refine Eq.symm ?_;exact one20 (.inr (.inr (.inl (stray_b hb0 (show (3:Int)≠4 by decide))))))
    clear hb0
    go_enter Tryd.func65,Tryd.ntmps65
    go_wp2_with (first
     | (go_at_call 74;(with_reducible refine (HUv.out _).mono ?_);rintro e w2 ⟨rfl,rfl⟩)
     | (go_at_call 75;(with_reducible refine (HIn.out _).mono ?_);rintro e w4 ⟨rfl,hb4⟩;have HX4:=Lib.hid (HX.out.1.trans (hb4.mono HX.out.1.size));clear hb4)
     | (go_at_call 76;(with_reducible refine (HFl.out _).mono ?_);rintro e w5 ⟨rfl,rfl⟩))
    all_goals
     go_ret
     exact ⟨by rw [←HE.out];rfl,HX.out.1⟩
   subst hb0
   by_cases hv0:v=0
   case neg=>
    have g1:(v != 0)=true:=by simpa using hv0
    have g2:¬v=0:=hv0
    have HE:=Lib.hid (show (20:Int)=R by rw [←HR.out];refine Eq.symm ?_;exact one20 (.inr (.inr (.inl (stray_v hv0 (show (3:Int)≠1 by decide))))))
    clear hv0
    go_enter Tryd.func65,Tryd.ntmps65
    go_wp2_with (first
     | (go_at_call 74;(with_reducible refine (HUv.out _).mono ?_);rintro e w2 ⟨rfl,rfl⟩)
     | (go_at_call 75;(with_reducible refine (HIn.out _).mono ?_);rintro e w4 ⟨rfl,hb4⟩;have HX4:=Lib.hid (HX.out.1.trans (hb4.mono HX.out.1.size));clear hb4)
     | (go_at_call 76;(with_reducible refine (HFl.out _).mono ?_);rintro e w5 ⟨rfl,rfl⟩))
    all_goals
     go_ret
     exact ⟨by rw [←HE.out];rfl,HX.out.1⟩
   subst hv0
   by_cases hL0:L=0
   case neg=>
    have g1:(0:Int)<(L:Int):=by omega
    have HE:=Lib.hid (show (20:Int)=R by rw [←HR.out];refine Eq.symm ?_;exact one20 (.inr (.inr (.inl (stray_l (show ts.length≠0 by rw [HD.out.2.2.2.2];exact hL0) (show (3:Int)≠5 by decide))))))
    clear hL0
    go_enter Tryd.func65,Tryd.ntmps65
    go_wp2_with (first
     | (go_at_call 74;(with_reducible refine (HUv.out _).mono ?_);rintro e w2 ⟨rfl,rfl⟩)
     | (go_at_call 75;(with_reducible refine (HIn.out _).mono ?_);rintro e w4 ⟨rfl,hb4⟩;have HX4:=Lib.hid (HX.out.1.trans (hb4.mono HX.out.1.size));clear hb4)
     | (go_at_call 76;(with_reducible refine (HFl.out _).mono ?_);rintro e w5 ⟨rfl,rfl⟩))
    all_goals
     go_ret
     exact ⟨by rw [←HE.out];rfl,HX.out.1⟩
   subst hL0
   have hgo:=Lib.hid (one_go (t:=.mk 3 [] ml 0 0 ts) (fun h=>by
    have hs:=stray_no (t:=.mk 3 [] ml 0 0 ts) (.inl rfl) (.inr rfl) (.inl rfl) (.inl rfl) (.inl HD.out.2.2.2.2)
    rcases h with h | h | h | h | h
    ·exact absurd h (by show ¬(3:Int)<1;omega)
    ·exact absurd h (by show ¬(5:Int)<3;omega)
    ·rw [hs] at h;cases h
    ·exact absurd h (by show ¬(0:Int)<0;omega)
    ·exact absurd h (fun h=>absurd h.1 (show (3:Int)≠5 by decide))))
   cases U
   ·skip
    have HE:=Lib.hid (show (21:Int)=R by rw [←HR.out];refine Eq.symm ?_;exact hgo.out.trans (if_pos (.inl HD.out.1)))
    go_enter Tryd.func65,Tryd.ntmps65
    go_wp2_with (first
     | (go_at_call 74;(with_reducible refine (HUv.out _).mono ?_);rintro e w2 ⟨rfl,rfl⟩)
     | (go_at_call 75;(with_reducible refine (HIn.out _).mono ?_);rintro e w4 ⟨rfl,hb4⟩;have HX4:=Lib.hid (HX.out.1.trans (hb4.mono HX.out.1.size));clear hb4)
     | (go_at_call 76;(with_reducible refine (HFl.out _).mono ?_);rintro e w5 ⟨rfl,rfl⟩))
    all_goals
     go_ret
     exact ⟨by rw [←HE.out];rfl,HX.out.1⟩
   by_cases h1000:1000<N
   ·have h1I:(1000:Int)<(N:Int):=by omega
    have HE:=Lib.hid (show (21:Int)=R by rw [←HR.out];refine Eq.symm ?_;exact hgo.out.trans (if_pos (.inr (by show 1000<([]:List UInt8).length;rw [HD.out.2.1];exact h1000))))
    clear h1000
    go_enter Tryd.func65,Tryd.ntmps65
    go_wp2_with (first
     | (go_at_call 74;(with_reducible refine (HUv.out _).mono ?_);rintro e w2 ⟨rfl,rfl⟩)
     | (go_at_call 75;(with_reducible refine (HIn.out _).mono ?_);rintro e w4 ⟨rfl,hb4⟩;have HX4:=Lib.hid (HX.out.1.trans (hb4.mono HX.out.1.size));clear hb4)
     | (go_at_call 76;(with_reducible refine (HFl.out _).mono ?_);rintro e w5 ⟨rfl,rfl⟩))
    all_goals
     go_ret
     exact ⟨by rw [←HE.out];rfl,HX.out.1⟩
   have h1I:¬(1000:Int)<(N:Int):=by omega
   have h1J:(N:Int)≤1000:=by omega
   have HU2:=Lib.hid (show ¬(Lib.validD []=false∨1000<([]:List UInt8).length) from fun h=>by
    rcases h with h | h
    ·rw [HD.out.1] at h;cases h
    ·rw [HD.out.2.1] at h;exact h1000 h)
   clear h1000
   cases C
   ·skip
    have HE:=Lib.hid (show (22:Int)=R by rw [←HR.out];refine Eq.symm ?_;exact hgo.out.trans ((if_neg HU2.out).trans (if_pos ⟨rfl,HD.out.2.2.1⟩)))
    go_enter Tryd.func65,Tryd.ntmps65
    go_wp2_with (first
     | (go_at_call 74;(with_reducible refine (HUv.out _).mono ?_);rintro e w2 ⟨rfl,rfl⟩)
     | (go_at_call 75;(with_reducible refine (HIn.out _).mono ?_);rintro e w4 ⟨rfl,hb4⟩;have HX4:=Lib.hid (HX.out.1.trans (hb4.mono HX.out.1.size));clear hb4)
     | (go_at_call 76;(with_reducible refine (HFl.out _).mono ?_);rintro e w5 ⟨rfl,rfl⟩))
    all_goals
     go_ret
     exact ⟨by rw [←HE.out];rfl,HX4.out⟩
   ·skip
    have HE:=Lib.hid (show (0:Int)=R by rw [←HR.out];refine Eq.symm ?_;exact hgo.out.trans ((if_neg HU2.out).trans ((if_neg (fun h=>by have h2:=h.2;change canonB ml=false at h2;rw [HD.out.2.2.1] at h2;cases h2)).trans (if_neg (fun h=>absurd h.1 (show (3:Int)≠4 by decide))))))
    go_enter Tryd.func65,Tryd.ntmps65
    go_wp2_with (first
     | (go_at_call 74;(with_reducible refine (HUv.out _).mono ?_);rintro e w2 ⟨rfl,rfl⟩)
     | (go_at_call 75;(with_reducible refine (HIn.out _).mono ?_);rintro e w4 ⟨rfl,hb4⟩;have HX4:=Lib.hid (HX.out.1.trans (hb4.mono HX.out.1.size));clear hb4)
     | (go_at_call 76;(with_reducible refine (HFl.out _).mono ?_);rintro e w5 ⟨rfl,rfl⟩))
    all_goals
     go_ret
     exact ⟨by rw [←HE.out];rfl,HX4.out⟩
 ·skip
  by_cases hn0:nl = []
  case neg=>
   obtain ⟨e1,e2,e3⟩:=bytes_ne HM.out.1 hn0
   have HE:=Lib.hid (show (20:Int)=R by rw [←HR.out];refine Eq.symm ?_;exact one20 (.inr (.inr (.inl (stray_n hn0 (show (4:Int)≠2 by decide) (show (4:Int)≠5 by decide))))))
   clear hn0
   go_enter Tryd.func65,Tryd.ntmps65
   go_wp2_with (first
    | (go_at_call 74;(with_reducible refine (HUv.out _).mono ?_);rintro e w2 ⟨rfl,rfl⟩)
    | (go_at_call 75;(with_reducible refine (HIn.out _).mono ?_);rintro e w4 ⟨rfl,hb4⟩;have HX4:=Lib.hid (HX.out.1.trans (hb4.mono HX.out.1.size));clear hb4)
    | (go_at_call 76;(with_reducible refine (HFl.out _).mono ?_);rintro e w5 ⟨rfl,rfl⟩))
   all_goals
    go_ret
    exact ⟨by rw [←HE.out];rfl,HX.out.1⟩
  subst hn0
  obtain rfl:nb=⟨#[]⟩:=HM.out.1.symm
  by_cases hm0:ml = []
  case neg=>
   obtain ⟨f1,f2,f3⟩:=bytes_ne HM.out.2 hm0
   have HE:=Lib.hid (show (20:Int)=R by rw [←HR.out];refine Eq.symm ?_;exact one20 (.inr (.inr (.inl (stray_m hm0 (show (4:Int)≠3 by decide))))))
   clear hm0
   go_enter Tryd.func65,Tryd.ntmps65
   go_wp2_with (first
    | (go_at_call 74;(with_reducible refine (HUv.out _).mono ?_);rintro e w2 ⟨rfl,rfl⟩)
    | (go_at_call 75;(with_reducible refine (HIn.out _).mono ?_);rintro e w4 ⟨rfl,hb4⟩;have HX4:=Lib.hid (HX.out.1.trans (hb4.mono HX.out.1.size));clear hb4)
    | (go_at_call 76;(with_reducible refine (HFl.out _).mono ?_);rintro e w5 ⟨rfl,rfl⟩))
   all_goals
    go_ret
    exact ⟨by rw [←HE.out];rfl,HX.out.1⟩
  subst hm0
  obtain rfl:mb=⟨#[]⟩:=HM.out.2.symm
  by_cases hbz:b=0
  ·subst hbz
   by_cases hv0:v=0
   case neg=>
    have g1:(v != 0)=true:=by simpa using hv0
    have g2:¬v=0:=hv0
    have HE:=Lib.hid (show (20:Int)=R by rw [←HR.out];refine Eq.symm ?_;exact one20 (.inr (.inr (.inl (stray_v hv0 (show (4:Int)≠1 by decide))))))
    clear hv0
    go_enter Tryd.func65,Tryd.ntmps65
    go_wp2_with (first
     | (go_at_call 74;(with_reducible refine (HUv.out _).mono ?_);rintro e w2 ⟨rfl,rfl⟩)
     | (go_at_call 75;(with_reducible refine (HIn.out _).mono ?_);rintro e w4 ⟨rfl,hb4⟩;have HX4:=Lib.hid (HX.out.1.trans (hb4.mono HX.out.1.size));clear hb4)
     | (go_at_call 76;(with_reducible refine (HFl.out _).mono ?_);rintro e w5 ⟨rfl,rfl⟩))
    all_goals
     go_ret
     exact ⟨by rw [←HE.out];rfl,HX.out.1⟩
   subst hv0
   by_cases hL0:L=0
   case neg=>
    have g1:(0:Int)<(L:Int):=by omega
    have HE:=Lib.hid (show (20:Int)=R by rw [←HR.out];refine Eq.symm ?_;exact one20 (.inr (.inr (.inl (stray_l (show ts.length≠0 by rw [HD.out.2.2.2.2];exact hL0) (show (4:Int)≠5 by decide))))))
    clear hL0
    go_enter Tryd.func65,Tryd.ntmps65
    go_wp2_with (first
     | (go_at_call 74;(with_reducible refine (HUv.out _).mono ?_);rintro e w2 ⟨rfl,rfl⟩)
     | (go_at_call 75;(with_reducible refine (HIn.out _).mono ?_);rintro e w4 ⟨rfl,hb4⟩;have HX4:=Lib.hid (HX.out.1.trans (hb4.mono HX.out.1.size));clear hb4)
     | (go_at_call 76;(with_reducible refine (HFl.out _).mono ?_);rintro e w5 ⟨rfl,rfl⟩))
    all_goals
     go_ret
     exact ⟨by rw [←HE.out];rfl,HX.out.1⟩
   subst hL0
   have hgo:=Lib.hid (one_go (t:=.mk 4 [] [] 0 0 ts) (fun h=>by
    have hs:=stray_no (t:=.mk 4 [] [] 0 0 ts) (.inl rfl) (.inl rfl) (.inr rfl) (.inl rfl) (.inl HD.out.2.2.2.2)
    rcases h with h | h | h | h | h
    ·exact absurd h (by show ¬(4:Int)<1;omega)
    ·exact absurd h (by show ¬(5:Int)<4;omega)
    ·rw [hs] at h;cases h
    ·exact absurd h (by show ¬(0:Int)<0;omega)
    ·exact absurd h (fun h=>absurd h.1 (show (4:Int)≠5 by decide))))
   cases U
   ·skip
    have HE:=Lib.hid (show (21:Int)=R by rw [←HR.out];refine Eq.symm ?_;exact hgo.out.trans (if_pos (.inl HD.out.1)))
    go_enter Tryd.func65,Tryd.ntmps65
    go_wp2_with (first
     | (go_at_call 74;(with_reducible refine (HUv.out _).mono ?_);rintro e w2 ⟨rfl,rfl⟩)
     | (go_at_call 75;(with_reducible refine (HIn.out _).mono ?_);rintro e w4 ⟨rfl,hb4⟩;have HX4:=Lib.hid (HX.out.1.trans (hb4.mono HX.out.1.size));clear hb4)
     | (go_at_call 76;(with_reducible refine (HFl.out _).mono ?_);rintro e w5 ⟨rfl,rfl⟩))
    all_goals
     go_ret
     exact ⟨by rw [←HE.out];rfl,HX.out.1⟩
   by_cases h1000:1000<N
   ·have h1I:(1000:Int)<(N:Int):=by omega
    have HE:=Lib.hid (show (21:Int)=R by rw [←HR.out];refine Eq.symm ?_;exact hgo.out.trans (if_pos (.inr (by show 1000<([]:List UInt8).length;rw [HD.out.2.1];exact h1000))))
    clear h1000
    go_enter Tryd.func65,Tryd.ntmps65
    go_wp2_with (first
     | (go_at_call 74;(with_reducible refine (HUv.out _).mono ?_);rintro e w2 ⟨rfl,rfl⟩)
     | (go_at_call 75;(with_reducible refine (HIn.out _).mono ?_);rintro e w4 ⟨rfl,hb4⟩;have HX4:=Lib.hid (HX.out.1.trans (hb4.mono HX.out.1.size));clear hb4)
     | (go_at_call 76;(with_reducible refine (HFl.out _).mono ?_);rintro e w5 ⟨rfl,rfl⟩))
    all_goals
     go_ret
     exact ⟨by rw [←HE.out];rfl,HX.out.1⟩
   have h1I:¬(1000:Int)<(N:Int):=by omega
   have h1J:(N:Int)≤1000:=by omega
   have HU2:=Lib.hid (show ¬(Lib.validD []=false∨1000<([]:List UInt8).length) from fun h=>by
    rcases h with h | h
    ·rw [HD.out.1] at h;cases h
    ·rw [HD.out.2.1] at h;exact h1000 h)
   clear h1000
   cases F
   ·skip
    have HE:=Lib.hid (show (23:Int)=R by rw [←HR.out];refine Eq.symm ?_;exact hgo.out.trans ((if_neg HU2.out).trans ((if_neg (fun h=>absurd h.1 (show (4:Int)≠3 by decide))).trans (if_pos ⟨rfl,HD.out.2.2.2.1⟩))))
    go_enter Tryd.func65,Tryd.ntmps65
    go_wp2_with (first
     | (go_at_call 74;(with_reducible refine (HUv.out _).mono ?_);rintro e w2 ⟨rfl,rfl⟩)
     | (go_at_call 75;(with_reducible refine (HIn.out _).mono ?_);rintro e w4 ⟨rfl,hb4⟩;have HX4:=Lib.hid (HX.out.1.trans (hb4.mono HX.out.1.size));clear hb4)
     | (go_at_call 76;(with_reducible refine (HFl.out _).mono ?_);rintro e w5 ⟨rfl,rfl⟩))
    all_goals
     go_ret
     exact ⟨by rw [←HE.out];rfl,HX.out.1⟩
   ·skip
    have HE:=Lib.hid (show (0:Int)=R by rw [←HR.out];refine Eq.symm ?_;exact hgo.out.trans ((if_neg HU2.out).trans ((if_neg (fun h=>absurd h.1 (show (4:Int)≠3 by decide))).trans (if_neg (fun h=>by have h2:=h.2;change floB 0=false at h2;rw [HD.out.2.2.2.1] at h2;cases h2)))))
    go_enter Tryd.func65,Tryd.ntmps65
    go_wp2_with (first
     | (go_at_call 74;(with_reducible refine (HUv.out _).mono ?_);rintro e w2 ⟨rfl,rfl⟩)
     | (go_at_call 75;(with_reducible refine (HIn.out _).mono ?_);rintro e w4 ⟨rfl,hb4⟩;have HX4:=Lib.hid (HX.out.1.trans (hb4.mono HX.out.1.size));clear hb4)
     | (go_at_call 76;(with_reducible refine (HFl.out _).mono ?_);rintro e w5 ⟨rfl,rfl⟩))
    all_goals
     go_ret
     exact ⟨by rw [←HE.out];rfl,HX.out.1⟩
  ·have g8:(b != 0)=true:=by simpa using hbz
   have g9:¬b=0:=hbz
   clear hbz
   by_cases hv0:v=0
   case neg=>
    have g1:(v != 0)=true:=by simpa using hv0
    have g2:¬v=0:=hv0
    have HE:=Lib.hid (show (20:Int)=R by rw [←HR.out];refine Eq.symm ?_;exact one20 (.inr (.inr (.inl (stray_v hv0 (show (4:Int)≠1 by decide))))))
    clear hv0
    go_enter Tryd.func65,Tryd.ntmps65
    go_wp2_with (first
     | (go_at_call 74;(with_reducible refine (HUv.out _).mono ?_);rintro e w2 ⟨rfl,rfl⟩)
     | (go_at_call 75;(with_reducible refine (HIn.out _).mono ?_);rintro e w4 ⟨rfl,hb4⟩;have HX4:=Lib.hid (HX.out.1.trans (hb4.mono HX.out.1.size));clear hb4)
     | (go_at_call 76;(with_reducible refine (HFl.out _).mono ?_);rintro e w5 ⟨rfl,rfl⟩))
    all_goals
     go_ret
     exact ⟨by rw [←HE.out];rfl,HX.out.1⟩
   subst hv0
   by_cases hL0:L=0
   case neg=>
    have g1:(0:Int)<(L:Int):=by omega
    have HE:=Lib.hid (show (20:Int)=R by rw [←HR.out];refine Eq.symm ?_;exact one20 (.inr (.inr (.inl (stray_l (show ts.length≠0 by rw [HD.out.2.2.2.2];exact hL0) (show (4:Int)≠5 by decide))))))
    clear hL0
    go_enter Tryd.func65,Tryd.ntmps65
    go_wp2_with (first
     | (go_at_call 74;(with_reducible refine (HUv.out _).mono ?_);rintro e w2 ⟨rfl,rfl⟩)
     | (go_at_call 75;(with_reducible refine (HIn.out _).mono ?_);rintro e w4 ⟨rfl,hb4⟩;have HX4:=Lib.hid (HX.out.1.trans (hb4.mono HX.out.1.size));clear hb4)
     | (go_at_call 76;(with_reducible refine (HFl.out _).mono ?_);rintro e w5 ⟨rfl,rfl⟩))
    all_goals
     go_ret
     exact ⟨by rw [←HE.out];rfl,HX.out.1⟩
   subst hL0
   have hgo:=Lib.hid (one_go (t:=.mk 4 [] [] b 0 ts) (fun h=>by
    have hs:=stray_no (t:=.mk 4 [] [] b 0 ts) (.inl rfl) (.inl rfl) (.inr rfl) (.inl rfl) (.inl HD.out.2.2.2.2)
    rcases h with h | h | h | h | h
    ·exact absurd h (by show ¬(4:Int)<1;omega)
    ·exact absurd h (by show ¬(5:Int)<4;omega)
    ·rw [hs] at h;cases h
    ·exact absurd h (by show ¬(0:Int)<0;omega)
    ·exact absurd h (fun h=>absurd h.1 (show (4:Int)≠5 by decide))))
   cases U
   ·skip
    have HE:=Lib.hid (show (21:Int)=R by rw [←HR.out];refine Eq.symm ?_;exact hgo.out.trans (if_pos (.inl HD.out.1)))
    go_enter Tryd.func65,Tryd.ntmps65
    go_wp2_with (first
     | (go_at_call 74;(with_reducible refine (HUv.out _).mono ?_);rintro e w2 ⟨rfl,rfl⟩)
     | (go_at_call 75;(with_reducible refine (HIn.out _).mono ?_);rintro e w4 ⟨rfl,hb4⟩;have HX4:=Lib.hid (HX.out.1.trans (hb4.mono HX.out.1.size));clear hb4)
     | (go_at_call 76;(with_reducible refine (HFl.out _).mono ?_);rintro e w5 ⟨rfl,rfl⟩))
    all_goals
     go_ret
     exact ⟨by rw [←HE.out];rfl,HX.out.1⟩
   by_cases h1000:1000<N
   ·have h1I:(1000:Int)<(N:Int):=by omega
    have HE:=Lib.hid (show (21:Int)=R by rw [←HR.out];refine Eq.symm ?_;exact hgo.out.trans (if_pos (.inr (by show 1000<([]:List UInt8).length;rw [HD.out.2.1];exact h1000))))
    clear h1000
    go_enter Tryd.func65,Tryd.ntmps65
    go_wp2_with (first
     | (go_at_call 74;(with_reducible refine (HUv.out _).mono ?_);rintro e w2 ⟨rfl,rfl⟩)
     | (go_at_call 75;(with_reducible refine (HIn.out _).mono ?_);rintro e w4 ⟨rfl,hb4⟩;have HX4:=Lib.hid (HX.out.1.trans (hb4.mono HX.out.1.size));clear hb4)
     | (go_at_call 76;(with_reducible refine (HFl.out _).mono ?_);rintro e w5 ⟨rfl,rfl⟩))
    all_goals
     go_ret
     exact ⟨by rw [←HE.out];rfl,HX.out.1⟩
   have h1I:¬(1000:Int)<(N:Int):=by omega
   have h1J:(N:Int)≤1000:=by omega
   have HU2:=Lib.hid (show ¬(Lib.validD []=false∨1000<([]:List UInt8).length) from fun h=>by
    rcases h with h | h
    ·rw [HD.out.1] at h;cases h
    ·rw [HD.out.2.1] at h;exact h1000 h)
   clear h1000
   cases F
   ·skip
    have HE:=Lib.hid (show (23:Int)=R by rw [←HR.out];refine Eq.symm ?_;exact hgo.out.trans ((if_neg HU2.out).trans ((if_neg (fun h=>absurd h.1 (show (4:Int)≠3 by decide))).trans (if_pos ⟨rfl,HD.out.2.2.2.1⟩))))
    go_enter Tryd.func65,Tryd.ntmps65
    go_wp2_with (first
     | (go_at_call 74;(with_reducible refine (HUv.out _).mono ?_);rintro e w2 ⟨rfl,rfl⟩)
     | (go_at_call 75;(with_reducible refine (HIn.out _).mono ?_);rintro e w4 ⟨rfl,hb4⟩;have HX4:=Lib.hid (HX.out.1.trans (hb4.mono HX.out.1.size));clear hb4)
     | (go_at_call 76;(with_reducible refine (HFl.out _).mono ?_);rintro e w5 ⟨rfl,rfl⟩))
    all_goals
     go_ret
     exact ⟨by rw [←HE.out];rfl,HX.out.1⟩
   ·skip
    have HE:=Lib.hid (show (0:Int)=R by rw [←HR.out];refine Eq.symm ?_;exact hgo.out.trans ((if_neg HU2.out).trans ((if_neg (fun h=>absurd h.1 (show (4:Int)≠3 by decide))).trans (if_neg (fun h=>by have h2:=h.2;change floB b=false at h2;rw [HD.out.2.2.2.1] at h2;cases h2)))))
    go_enter Tryd.func65,Tryd.ntmps65
    go_wp2_with (first
     | (go_at_call 74;(with_reducible refine (HUv.out _).mono ?_);rintro e w2 ⟨rfl,rfl⟩)
     | (go_at_call 75;(with_reducible refine (HIn.out _).mono ?_);rintro e w4 ⟨rfl,hb4⟩;have HX4:=Lib.hid (HX.out.1.trans (hb4.mono HX.out.1.size));clear hb4)
     | (go_at_call 76;(with_reducible refine (HFl.out _).mono ?_);rintro e w5 ⟨rfl,rfl⟩))
    all_goals
     go_ret
     exact ⟨by rw [←HE.out];rfl,HX.out.1⟩
 ·skip
  by_cases hm0:ml = []
  case neg=>
   obtain ⟨f1,f2,f3⟩:=bytes_ne HM.out.2 hm0
   have HE:=Lib.hid (show (20:Int)=R by rw [←HR.out];refine Eq.symm ?_;exact one20 (.inr (.inr (.inl (stray_m hm0 (show (5:Int)≠3 by decide))))))
   clear hm0
   go_enter Tryd.func65,Tryd.ntmps65
   go_wp2_with (first
    | (go_at_call 74;(with_reducible refine (HUv.out _).mono ?_);rintro e w2 ⟨rfl,rfl⟩)
    | (go_at_call 75;(with_reducible refine (HIn.out _).mono ?_);rintro e w4 ⟨rfl,hb4⟩;have HX4:=Lib.hid (HX.out.1.trans (hb4.mono HX.out.1.size));clear hb4)
    | (go_at_call 76;(with_reducible refine (HFl.out _).mono ?_);rintro e w5 ⟨rfl,rfl⟩))
   all_goals
    go_ret
    exact ⟨by rw [←HE.out];rfl,HX.out.1⟩
  subst hm0
  obtain rfl:mb=⟨#[]⟩:=HM.out.2.symm
  by_cases hb0:b=0
  case neg=>
   have g1:(b != 0)=true:=by simpa using hb0
   have g2:¬b=0:=hb0
   have HE:=Lib.hid (show (20:Int)=R by rw [←HR.out];refine Eq.symm ?_;exact one20 (.inr (.inr (.inl (stray_b hb0 (show (5:Int)≠4 by decide))))))
   clear hb0
   go_enter Tryd.func65,Tryd.ntmps65
   go_wp2_with (first
    | (go_at_call 74;(with_reducible refine (HUv.out _).mono ?_);rintro e w2 ⟨rfl,rfl⟩)
    | (go_at_call 75;(with_reducible refine (HIn.out _).mono ?_);rintro e w4 ⟨rfl,hb4⟩;have HX4:=Lib.hid (HX.out.1.trans (hb4.mono HX.out.1.size));clear hb4)
    | (go_at_call 76;(with_reducible refine (HFl.out _).mono ?_);rintro e w5 ⟨rfl,rfl⟩))
   all_goals
    go_ret
    exact ⟨by rw [←HE.out];rfl,HX.out.1⟩
  subst hb0
  by_cases hv0:v=0
  case neg=>
   have g1:(v != 0)=true:=by simpa using hv0
   have g2:¬v=0:=hv0
   have HE:=Lib.hid (show (20:Int)=R by rw [←HR.out];refine Eq.symm ?_;exact one20 (.inr (.inr (.inl (stray_v hv0 (show (5:Int)≠1 by decide))))))
   clear hv0
   go_enter Tryd.func65,Tryd.ntmps65
   go_wp2_with (first
    | (go_at_call 74;(with_reducible refine (HUv.out _).mono ?_);rintro e w2 ⟨rfl,rfl⟩)
    | (go_at_call 75;(with_reducible refine (HIn.out _).mono ?_);rintro e w4 ⟨rfl,hb4⟩;have HX4:=Lib.hid (HX.out.1.trans (hb4.mono HX.out.1.size));clear hb4)
    | (go_at_call 76;(with_reducible refine (HFl.out _).mono ?_);rintro e w5 ⟨rfl,rfl⟩))
   all_goals
    go_ret
    exact ⟨by rw [←HE.out];rfl,HX.out.1⟩
  subst hv0
  by_cases hL0:L=0
  ·subst hL0
   have HE:=Lib.hid (show (20:Int)=R by rw [←HR.out];refine Eq.symm ?_;exact one20 (.inr (.inr (.inr (.inr ⟨rfl,.inl HD.out.2.2.2.2⟩)))))
   go_enter Tryd.func65,Tryd.ntmps65
   go_wp2_with (first
    | (go_at_call 74;(with_reducible refine (HUv.out _).mono ?_);rintro e w2 ⟨rfl,rfl⟩)
    | (go_at_call 75;(with_reducible refine (HIn.out _).mono ?_);rintro e w4 ⟨rfl,hb4⟩;have HX4:=Lib.hid (HX.out.1.trans (hb4.mono HX.out.1.size));clear hb4)
    | (go_at_call 76;(with_reducible refine (HFl.out _).mono ?_);rintro e w5 ⟨rfl,rfl⟩))
   all_goals
    go_ret
    exact ⟨by rw [←HE.out];rfl,HX.out.1⟩
  by_cases hL6:64<L
  ·have g1:(64:Int)<(L:Int):=by omega
   have g2:¬(L:Int)=0:=by omega
   have g3:(0:Int)<(L:Int):=by omega
   have HE:=Lib.hid (show (20:Int)=R by rw [←HR.out];refine Eq.symm ?_;exact one20 (.inr (.inr (.inr (.inr ⟨rfl,.inr (by show 64<ts.length;rw [HD.out.2.2.2.2];exact hL6)⟩)))))
   clear hL0 hL6
   go_enter Tryd.func65,Tryd.ntmps65
   go_wp2_with (first
    | (go_at_call 74;(with_reducible refine (HUv.out _).mono ?_);rintro e w2 ⟨rfl,rfl⟩)
    | (go_at_call 75;(with_reducible refine (HIn.out _).mono ?_);rintro e w4 ⟨rfl,hb4⟩;have HX4:=Lib.hid (HX.out.1.trans (hb4.mono HX.out.1.size));clear hb4)
    | (go_at_call 76;(with_reducible refine (HFl.out _).mono ?_);rintro e w5 ⟨rfl,rfl⟩))
   all_goals
    go_ret
    exact ⟨by rw [←HE.out];rfl,HX.out.1⟩
  have g1:(L:Int)≤64:=by omega
  have g2:¬(L:Int)=0:=by omega
  have g3:(0:Int)<(L:Int):=by omega
  have g4:¬L=0:=by omega
  have g5:L≤64:=by omega
  have g6:((L:Int)==0)=false:=beq_eq_false_iff_ne.2 g2
  have g7:decide (64<L)=false:=decide_eq_false (by omega)
  have g8:(L==0)=false:=beq_eq_false_iff_ne.2 g4
  have hgo:=Lib.hid (one_go (t:=.mk 5 nl [] 0 0 ts) (fun h=>by
   have hs:=stray_no (t:=.mk 5 nl [] 0 0 ts) (.inr (.inr rfl)) (.inl rfl) (.inl rfl) (.inl rfl) (.inr rfl)
   rcases h with h | h | h | h | h
   ·exact absurd h (by show ¬(5:Int)<1;omega)
   ·exact absurd h (by show ¬(5:Int)<5;omega)
   ·rw [hs] at h;cases h
   ·exact absurd h (by show ¬(0:Int)<0;omega)
   ·exact absurd h (fun h=>by have:=h.2;have e:=HD.out.2.2.2.2;change ts.length=0∨64<ts.length at this;rw [e] at this;omega)))
  clear hL0 hL6
  cases U
  ·skip
   have HE:=Lib.hid (show (21:Int)=R by rw [←HR.out];refine Eq.symm ?_;exact hgo.out.trans (if_pos (.inl HD.out.1)))
   go_enter Tryd.func65,Tryd.ntmps65
   go_wp2_with (first
    | (go_at_call 74;(with_reducible refine (HUv.out _).mono ?_);rintro e w2 ⟨rfl,rfl⟩)
    | (go_at_call 75;(with_reducible refine (HIn.out _).mono ?_);rintro e w4 ⟨rfl,hb4⟩;have HX4:=Lib.hid (HX.out.1.trans (hb4.mono HX.out.1.size));clear hb4)
    | (go_at_call 76;(with_reducible refine (HFl.out _).mono ?_);rintro e w5 ⟨rfl,rfl⟩))
   all_goals
    go_ret
    exact ⟨by rw [←HE.out];rfl,HX.out.1⟩
  by_cases h1000:1000<N
  ·have h1I:(1000:Int)<(N:Int):=by omega
   have HE:=Lib.hid (show (21:Int)=R by rw [←HR.out];refine Eq.symm ?_;exact hgo.out.trans (if_pos (.inr (by show 1000<(nl:List UInt8).length;rw [HD.out.2.1];exact h1000))))
   clear h1000
   go_enter Tryd.func65,Tryd.ntmps65
   go_wp2_with (first
    | (go_at_call 74;(with_reducible refine (HUv.out _).mono ?_);rintro e w2 ⟨rfl,rfl⟩)
    | (go_at_call 75;(with_reducible refine (HIn.out _).mono ?_);rintro e w4 ⟨rfl,hb4⟩;have HX4:=Lib.hid (HX.out.1.trans (hb4.mono HX.out.1.size));clear hb4)
    | (go_at_call 76;(with_reducible refine (HFl.out _).mono ?_);rintro e w5 ⟨rfl,rfl⟩))
   all_goals
    go_ret
    exact ⟨by rw [←HE.out];rfl,HX.out.1⟩
  have h1I:¬(1000:Int)<(N:Int):=by omega
  have h1J:(N:Int)≤1000:=by omega
  have HU2:=Lib.hid (show ¬(Lib.validD nl=false∨1000<(nl:List UInt8).length) from fun h=>by
   rcases h with h | h
   ·rw [HD.out.1] at h;cases h
   ·rw [HD.out.2.1] at h;exact h1000 h)
  clear h1000
  have HE:=Lib.hid (show (0:Int)=R by rw [←HR.out];refine Eq.symm ?_;exact hgo.out.trans ((if_neg HU2.out).trans ((if_neg (fun h=>absurd h.1 (show (5:Int)≠3 by decide))).trans (if_neg (fun h=>absurd h.1 (show (5:Int)≠4 by decide))))))
  go_enter Tryd.func65,Tryd.ntmps65
  go_wp2_with (first
   | (go_at_call 74;(with_reducible refine (HUv.out _).mono ?_);rintro e w2 ⟨rfl,rfl⟩)
   | (go_at_call 75;(with_reducible refine (HIn.out _).mono ?_);rintro e w4 ⟨rfl,hb4⟩;have HX4:=Lib.hid (HX.out.1.trans (hb4.mono HX.out.1.size));clear hb4)
   | (go_at_call 76;(with_reducible refine (HFl.out _).mono ?_);rintro e w5 ⟨rfl,rfl⟩))
  all_goals
   go_ret
   exact ⟨by rw [←HE.out];rfl,HX.out.1⟩
def RAllOk (t:Tm):Prop:=∀ (w:World) (sl:Value),TAt w w.heap.size t sl→Fits t→Calls Tryd.prog 41 #[valT t sl] w fun e w'=>e = .returned (.int .i64 (errsP t))∧Below w.heap.size w w'
set_option maxRecDepth 100000 in
set_option maxHeartbeats 8000000 in
theorem rall_any (t:Tm):RAllOk t:=by
 refine Tm.ind (p:=RAllOk) (fun k nl ml b v ts ih=>?_) t
 intro w sl h hFit
 obtain ⟨A,c,rfl,hl1,hl2,hl3⟩:=h.slice
 obtain ⟨nb,hnb⟩:∃ nb:ByteArray,(⟨nl.toArray⟩:ByteArray)=nb:=⟨_,rfl⟩
 obtain ⟨mb,hmb⟩:∃ mb:ByteArray,(⟨ml.toArray⟩:ByteArray)=mb:=⟨_,rfl⟩
 obtain ⟨L,hL⟩:∃ L,ts.length=L:=⟨_,rfl⟩
 change ts.length≤c at hl1
 change ts.length≤maxArgs at hl3
 change TAt w w.heap.size (.mk k nl ml b v ts) (.slice A ts.length c) at h
 change Calls Tryd.prog 41 #[valT _ (.slice A ts.length c)] w _
 have hNd:=fun w1 (hb:Below w.heap.size w w1)=>rone_any (h.to hb hb.size) (Fits.iff.1 hFit).1
 simp only [valT_mk hnb hmb] at hNd
 rw [valT_mk hnb hmb]
 rw [hL] at h hl1 hl3 hNd ⊢
 obtain ⟨R,hR⟩:∃ R,errsP (.mk k nl ml b v ts)=R:=⟨_,rfl⟩
 obtain ⟨R0,hR0⟩:∃ R0,oneP (.mk k nl ml b v ts)=R0:=⟨_,rfl⟩
 rw [hR]
 have HR:=Lib.hid (show (R0≠0→R0=R)∧(R0=0→errss Lib.validD canonB floB ts=R) from by
  have h9:(if oneP (.mk k nl ml b v ts)≠0 then oneP (.mk k nl ml b v ts) else errss Lib.validD canonB floB ts)=R:=hR
  rw [hR0] at h9
  by_cases h0:R0=0
  ·rw [if_neg (by simp [h0])] at h9;exact ⟨fun h=>absurd h0 h,fun _=>h9⟩
  ·rw [if_pos h0] at h9;exact ⟨fun _=>h9,fun h=>absurd h h0⟩)
 have HNd:=Lib.hid hNd
 rw [hR0] at HNd
 have HIH:=Lib.hid (And.intro ih (Fits.iff.1 hFit).2)
 have HT:=Lib.hid h
 have HL:=Lib.hid hL
 have HM:=Lib.hid (And.intro hnb hmb)
 have hLI:(L:Int)≤1759218604400:=by unfold maxArgs at hl3;omega
 obtain ⟨W1,hW1⟩:∃ W1,w.alloc (.cells #[.int .i64 k,.string nb,.string mb,.int .u64 b,.int .i64 v,.slice A L c] 25)=W1:=⟨_,rfl⟩
 have hb1:Below w.heap.size w W1:=by rw [←hW1];exact (Below.refl _ _).alloc (Nat.le_refl _) _
 have hX:=TBox.new (ts:=ts) w (k:=k) (b:=b) (v:=v) (sl:=.slice A L c) hnb hmb
 rw [hW1] at hX
 obtain ⟨x0,x1,x2,x3,x4,x5⟩:=hX.cells hnb hmb
 have HB:=Lib.hid (And.intro hb1 hX)
 subst hW1
 clear ih h hR hR0 hL hnb hmb hX hb1 hNd hFit
 go_enter Tryd.func41,Tryd.ntmps41
 go_wp2_with fail
 (with_reducible refine (HNd.out _ HB.out.1).mono ?_)
 rintro e w2 ⟨rfl,hb2⟩
 have HB2:=Lib.hid (And.intro (HB.out.1.trans (hb2.mono HB.out.1.size)) (HB.out.2.below hb2))
 clear hb2 x0 x1 x2 x3 x4 x5 HNd
 go_upto_region 3 with fail
 go_loopw [3,4] (fun v3 v4 wr=>∃ (i:Nat) (E:Int),v3 = .int .i64 E∧v4 = .int .i64 (i:Int)∧i≤L∧Hid ((E≠0→E=R)∧(E=0→errss Lib.validD canonB floB (ts.drop i)=R)∧Below w.heap.size w wr∧TBox wr w.heap.size (.mk k nl ml b v ts) (.slice A L c))) (fun _ v4 _=>((L:Int) - intOf v4).toNat)
 case atStart=>exact ⟨0,R0,rfl,rfl,Nat.zero_le _,Lib.hid ⟨HR.out.1,HR.out.2,HB2.out.1,HB2.out.2⟩⟩
 case round=>
  obtain ⟨i,E,rfl,rfl,hi,HI⟩:=hrel
  obtain ⟨x0,x1,x2,x3,x4,x5⟩:=HI.out.2.2.2.cells HM.out.1 HM.out.2
  by_cases hlt:i<L
  ·have hltI:(i:Int)<(L:Int):=by omega
   have hi0:(0:Int)≤(i:Int):=by omega
   by_cases h0:E=0
   ·subst h0
    have hil:i<ts.length:=by rw [HL.out];exact hlt
    obtain ⟨a,ha⟩:∃ a,ts[i]?=some a:=⟨_,List.getElem?_eq_getElem hil⟩
    obtain ⟨g,o,rfl,hgB,helt⟩:=(HT.out.to HI.out.2.2.1 HI.out.2.2.1.size).arg ha
    have HD:=Lib.hid (errss_drop ha (HI.out.2.1 rfl))
    obtain ⟨A',c',k',n',m',b',v',ts',nb',mb',rfl,hnb',hmb',hta,e0,e1,e2,e3,e4,e5⟩:=EltAt.cells helt
    obtain ⟨q,hq⟩:∃ q,ts'.length=q:=⟨_,rfl⟩
    have hC:=HIH.out.1 _ (List.mem_of_getElem? ha) wr _ hta (HIH.out.2 _ (List.mem_of_getElem? ha))
    rw [valT_mk hnb' hmb',hq] at hC
    obtain ⟨R1,hR1⟩:∃ R1,errsP (.mk k' n' m' b' v' ts')=R1:=⟨_,rfl⟩
    rw [hR1] at hC HD
    have HC:=Lib.hid hC
    have HLT:=Lib.hid hlt
    rw [hq] at e5
    clear helt hta hnb' hmb' ha hil hlt hi hq hC hR1
    go_wp2_with (go_at_call 41;(with_reducible refine HC.out.mono ?_);rintro e w' ⟨rfl,hb4⟩;have HB4:=Lib.hid (And.intro (HI.out.2.2.1.trans (hb4.mono HI.out.2.2.1.size)) (HI.out.2.2.2.below hb4));clear hb4)
    refine ⟨⟨i+1,R1,rfl,rfl,HLT.out,Lib.hid ⟨HD.out.1,HD.out.2,HB4.out.1,HB4.out.2⟩⟩,?_⟩
    have:=HLT.out
    show ((L:Int) - ((i:Int)+1)).toNat<((L:Int) - (i:Int)).toNat
    omega
   ·have h0b:(E==0)=false:=beq_eq_false_iff_ne.2 h0
    have HE:=Lib.hid (HI.out.1 h0)
    clear h0 hlt hi
    go_wp2
    go_ret
    exact ⟨by rw [←HE.out];rfl,HI.out.2.2.1⟩
  ·have ei:i=L:=by omega
   subst ei
   have HE:=Lib.hid (show E=R from by
    by_cases h0:E=0
    ·have h9:=HI.out.2.1 h0
     rw [List.drop_of_length_le (by rw [HL.out];exact Nat.le_refl _)] at h9
     rw [h0];exact h9
    ·exact HI.out.1 h0)
   clear hlt hi
   go_wp2
   go_ret
   exact ⟨by rw [←HE.out];rfl,HI.out.2.2.1⟩
set_option maxRecDepth 100000 in
set_option maxHeartbeats 2000000 in
theorem rCheck_any {w:World} {t:Tm} {sl:Value} (h:TAt w w.heap.size t sl) (hf:Fits t):Calls Tryd.prog 10 #[valT t sl] w fun e w'=>e = .returned (.int .i64 (checkP t))∧Below w.heap.size w w':=by
 obtain ⟨k,nl,ml,b,v,ts,nb,mb,A,c,rfl,rfl,hnb,hmb,hl1,hl2,hl3,hv,hs1,hs2⟩:=h.letters
 have hb1:Below w.heap.size w (w.alloc (.cells #[.int .i64 k,.string nb,.string mb,.int .u64 b,.int .i64 v,.slice A ts.length c] 25)):=(Below.refl _ _).alloc (Nat.le_refl _) _
 have HC:=Lib.hid (rNodes_any (h.to hb1 hb1.size))
 have HN:=Lib.hid (fun w2 (hb:Below _ (w.alloc (.cells #[.int .i64 k,.string nb,.string mb,.int .u64 b,.int .i64 v,.slice A ts.length c] 25)) w2)=>rall_any (.mk k nl ml b v ts) w2 (.slice A ts.length c) ((h.to hb1 hb1.size).to hb hb.size) hf)
 rw [hv] at HC HN ⊢
 obtain ⟨n,hn⟩:∃ n,nodes (.mk k nl ml b v ts)=n:=⟨_,rfl⟩
 obtain ⟨E,hE⟩:∃ E,errsP (.mk k nl ml b v ts)=E:=⟨_,rfl⟩
 have hR:checkP (.mk k nl ml b v ts)=if 4000<n then 24 else E:=by rw [←hn,←hE];rfl
 have hnl:n≤4001:=by rw [←hn];unfold nodes;omega
 rw [hR]
 rw [hn] at HC
 rw [hE] at HN
 have hX:=TBox.new (ts:=ts) w (k:=k) (b:=b) (v:=v) (sl:=.slice A ts.length c) hnb hmb
 have HB:=Lib.hid (And.intro hb1 hX)
 have HM:=Lib.hid (And.intro hnb hmb)
 obtain ⟨x0,x1,x2,x3,x4,x5⟩:=hX.cells hnb hmb
 have hzI:(n:Int)≤4001:=by omega
 clear h hv hR hX hn hE hb1 hf
 by_cases hz:4000<n
 ·have hzI:(4000:Int)<(n:Int):=by omega
  rw [if_pos hz]
  clear hz
  go_enter Tryd.func10,Tryd.ntmps10
  go_wp2_with (go_at_call 40;(with_reducible refine HC.out.mono ?_);rintro e w' ⟨rfl,hb3⟩;have HB3:=Lib.hid (HB.out.1.trans (hb3.mono HB.out.1.size));clear hb3)
  go_ret
  exact ⟨rfl,HB3.out⟩
 ·have hzI:¬(4000:Int)<(n:Int):=by omega
  rw [if_neg hz]
  clear hz
  go_enter Tryd.func10,Tryd.ntmps10
  go_wp2_with (first
   | (go_at_call 40;(with_reducible refine HC.out.mono ?_);rintro e w' ⟨rfl,hb3⟩;obtain ⟨y0,y1,y2,y3,y4,y5⟩:=(HB.out.2.below hb3).cells HM.out.1 HM.out.2;have HB3:=Lib.hid (And.intro (HB.out.1.trans (hb3.mono HB.out.1.size)) hb3);clear hb3)
   | (go_at_call 41;(with_reducible refine (HN.out _ HB3.out.2).mono ?_);rintro e w' ⟨rfl,hb4⟩;have HB4:=Lib.hid (HB3.out.1.trans (hb4.mono HB3.out.1.size));clear hb4))
  go_ret
  exact ⟨rfl,HB4.out⟩
set_option maxRecDepth 100000 in
set_option maxHeartbeats 4000000 in
theorem rChecks_any {w:World} {P:Nat→Prop} {A:Option Addr} {n c:Nat} {ps:List (Tm × Value)} (h:RowP w P A n ps) (hP:∀ b,P b→b<w.heap.size) (hn:n≤maxArgs) (hc:n≤c) (hf:∀ p∈ps,Fits p.1) :
  Calls Tryd.prog 17 #[.slice A n c] w fun e w'=>e = .returned (.int .i64 (checksP (ps.map (·.1))))∧Below w.heap.size w w':=by
 obtain ⟨R,hR⟩:∃ R,checksP (ps.map (·.1))=R:=⟨_,rfl⟩
 rw [hR]
 obtain ⟨ts,hts⟩:∃ ts,ps.map (·.1)=ts:=⟨_,rfl⟩
 rw [hts] at hR
 have HL:=Lib.hid (show ts.length=n from by rw [←hts,List.length_map,h.1])
 have HH:=Lib.hid (And.intro h (And.intro hP hts))
 have HF:=Lib.hid hf
 have HR:=Lib.hid hR
 have hnI:(n:Int)≤1759218604400:=by unfold maxArgs at hn;omega
 clear h hP hR hts hf
 go_enter Tryd.func17,Tryd.ntmps17
 go_upto_region 2 with fail
 go_loopw [3] (fun vi wr=>∃ i:Nat,vi = .int .i64 (i:Int)∧i≤n∧Hid (checksP (ts.drop i)=R∧Below w.heap.size w wr)) (fun vi _=>((n:Int) - intOf vi).toNat)
 case atStart=>exact ⟨0,rfl,Nat.zero_le _,Lib.hid ⟨HR.out,Below.refl _ _⟩⟩
 case round=>
  obtain ⟨i,rfl,hi,HI⟩:=hrel
  by_cases hlt:i<n
  ·have hltI:(i:Int)<(n:Int):=by omega
   have hi0:(0:Int)≤(i:Int):=by omega
   obtain ⟨p,hp⟩:∃ p,ps[i]?=some p:=⟨_,List.getElem?_eq_getElem (by rw [HH.out.1.1];exact hlt)⟩
   have ha:ts[i]?=some p.1:=by rw [←HH.out.2.2,List.getElem?_map,hp];rfl
   obtain ⟨g,o,rfl,hgB,helt0⟩:=(HH.out.1.below HI.out.2 HH.out.2.1).elt hp
   have helt:=EltP.at_ helt0 (fun b hb=>Nat.lt_of_lt_of_le (HH.out.2.1 b hb) HI.out.2.size)
   have HD:=Lib.hid (checks_drop ha HI.out.1)
   have hfp:=HF.out p (List.mem_of_getElem? hp)
   obtain ⟨pt,psl⟩:=p
   obtain ⟨A',c',k',n',m',b',v',ts',nb',mb',rfl,hnb',hmb',hta,e0,e1,e2,e3,e4,e5⟩:=EltAt.cells helt
   obtain ⟨q,hq⟩:∃ q,ts'.length=q:=⟨_,rfl⟩
   have hCl:=rCheck_any hta hfp
   rw [valT_mk hnb' hmb',hq] at hCl
   obtain ⟨R1,hR1⟩:∃ R1,checkP (.mk k' n' m' b' v' ts')=R1:=⟨_,rfl⟩
   rw [hR1] at hCl HD
   have HCl:=Lib.hid hCl
   have HLT:=Lib.hid hlt
   rw [hq] at e5
   clear helt helt0 hta hnb' hmb' ha hlt hi hq hp hCl hR1 hfp
   by_cases h1:R1=0
   ·subst h1
    have HE:=Lib.hid (HD.out.2 rfl)
    go_wp2_with (go_at_call 10;(with_reducible refine HCl.out.mono ?_);rintro e w' ⟨rfl,hb4⟩;have HB4:=Lib.hid (HI.out.2.trans (hb4.mono HI.out.2.size));clear hb4)
    refine ⟨⟨i+1,rfl,HLT.out,Lib.hid ⟨HE.out,HB4.out⟩⟩,?_⟩
    have:=HLT.out
    show ((n:Int) - ((i:Int)+1)).toNat<((n:Int) - (i:Int)).toNat
    omega
   ·have h1b:(R1 != 0)=true:=by simpa using h1
    have HE:=Lib.hid (HD.out.1 h1)
    clear h1
    go_wp2_with (go_at_call 10;(with_reducible refine HCl.out.mono ?_);rintro e w' ⟨rfl,hb4⟩;have HB4:=Lib.hid (HI.out.2.trans (hb4.mono HI.out.2.size));clear hb4)
    go_ret
    exact ⟨by rw [←HE.out];rfl,HB4.out⟩
  ·have ei:i=n:=by omega
   subst ei
   have HE:=Lib.hid (show (0:Int)=R∧Below w.heap.size w wr from by
    have h9:=HI.out
    rw [List.drop_of_length_le (by rw [HL.out];exact Nat.le_refl _)] at h9
    exact h9)
   clear hlt hi
   go_wp2
   go_ret
   exact ⟨by rw [←HE.out.1];rfl,HE.out.2⟩
theorem checks3 {t f d:Tm} : checksP [t,f,d]=0↔checkP t=0∧checkP f=0∧checkP d=0:=by
 unfold checksP checks
 by_cases e1:checkP t=0
 ·rw [if_neg (by simpa using e1)]
  unfold checks
  by_cases e2:checkP f=0
  ·rw [if_neg (by simpa using e2)]
   unfold checks
   by_cases e3:checkP d=0
   ·rw [if_neg (by simpa using e3)];simp [checks,e1,e2,e3]
   ·rw [if_pos (by simpa using e3)];simp [e1,e2,e3]
  ·rw [if_pos (by simpa using e2)];simp [e1,e2]
 ·rw [if_pos (by simpa using e1)];simp [e1]
theorem bodyA2_eq {t f d:Tm} {nx:Int} (h:errsP t=0) (h0:0≤nx):bodyA2 (ansM t f d nx)=match bodyT t f d nx with | .ok (g,n)=>okA g n | .error e=>badA e:=by
 have hr:=rel_any t (f:=f) (d:=d) (nx:=nx) h h0
 unfold bodyT
 cases hm:mkB t f d nx with
 | error e=>
  rw [hm] at hr
  obtain ⟨h1,h2,_⟩:=hr
  show bodyA2 (ansM t f d nx)=badA e
  unfold bodyA2 wholeA
  simp [h1,h2]
 | ok p=>
  obtain ⟨g,n⟩:=p
  rw [hm] at hr
  have hr':ansM t f d nx=okA g n:=hr
  rw [hr']
  unfold bodyA2 wholeA whole okA
  by_cases hz:4000<nodes g <;> simp [hz,badA]
def expN (cc nx:Int):Int:=if cc≠0 then cc else if nx<0∨4611686018427387904<nx then 1 else 0
def expA (N:Int) (t f d:Tm) (nx:Int):Ans:=if N≠0 then ⟨zeroT,0,false,zeroT⟩ else bodyA2 (ansM t f d nx)
theorem own_zero {w:World} {lo hi:Nat} (h:lo≤hi):TOwn w zeroT (.slice none 0 0) lo hi:=
 TOwn.iff.2 ⟨okF_zero,Nat.zero_le _,h,none,0,rfl,Nat.le_refl _,Nat.zero_le _,fun hne=>absurd rfl hne⟩
def BodyX (w:World) (N:Int) (X:Ans) (e:Ending) (w':World):Prop:=
 ∃ sg ev,e = .returned (.tuple #[valT X.g sg,.int .i64 X.n,ev])∧TOwn w' X.g sg w.heap.size w'.heap.size∧WrongOk w' ev N X.i X.b∧Below w.heap.size w w'
theorem Body_X {w0 w:World} {t f d:Tm} {st sf sd:Value} {nx cc N:Int} (h1:TAt w w.heap.size t st) (h2:TAt w w.heap.size f sf) (h3:TAt w w.heap.size d sd) (hU:UOk w0 w) (hcc:checksP [t,f,d]=cc) (hN:expN cc nx=N) :
  Calls Tryd.prog 16 #[valT t st,valT f sf,valT d sd,.int .i64 nx] w (BodyX w N (expA N t f d nx)):=by
 by_cases h0:cc=0
 ·subst h0
  by_cases hr:nx<0∨4611686018427387904<nx
  ·have e1:N=1:=by rw [←hN];exact (if_neg (by simp)).trans (if_pos hr)
   subst e1
   refine (Body_arg h1 h2 h3 hU hcc hr).mono ?_
   rintro e w' ⟨rfl,hb⟩
   rw [show expA 1 t f d nx=⟨zeroT,0,false,zeroT⟩ from if_pos (by decide)]
   exact ⟨.slice none 0 0,_,rfl,own_zero hb.size,.inl ⟨by decide,rfl⟩,hb⟩
  ·have e1:N=0:=by rw [←hN];exact (if_neg (by simp)).trans (if_neg hr)
   subst e1
   refine (Body_main h1 h2 h3 hU hcc ⟨by omega,by omega⟩).mono ?_
   rintro e w' ⟨hb,h⟩
   rw [show expA 0 t f d nx=bodyA2 (ansM t f d nx) from if_neg (by simp),bodyA2_eq (check_iff.1 (checks3.1 hcc).1).2 (by omega)]
   cases hq:bodyT t f d nx with
   | error b=>
    rw [hq] at h
    obtain ⟨bb,rfl,hball⟩:=h
    exact ⟨.slice none 0 0,_,rfl,own_zero hb.size,.inr (.inl ⟨rfl,rfl,bb,rfl,hball⟩),hb⟩
   | ok p=>
    obtain ⟨g,n⟩:=p
    rw [hq] at h
    obtain ⟨sg,rfl,ho⟩:=h
    exact ⟨sg,_,rfl,ho,.inr (.inr ⟨rfl,rfl,rfl⟩),hb⟩
 ·have e1:N=cc:=by rw [←hN];exact if_pos h0
  subst e1
  refine (Body_err h1 h2 h3 hU hcc h0).mono ?_
  rintro e w' ⟨rfl,hb⟩
  rw [show expA N t f d nx=⟨zeroT,0,false,zeroT⟩ from if_pos h0]
  exact ⟨.slice none 0 0,_,rfl,own_zero hb.size,.inl ⟨h0,rfl⟩,hb⟩
theorem BodyX.letters {w w':World} {N:Int} {k v b k2 v2 b2 n':Int} {i:Bool} {n m n2 m2:List UInt8} {ts ts2:List Tm} {nb mb:ByteArray} {q:Nat} {e:Ending} (hn:(⟨n.toArray⟩:ByteArray)=nb) (hm:(⟨m.toArray⟩:ByteArray)=mb) (hq:ts.length=q)
  (h:BodyX w N ⟨.mk k n m b v ts,n',i,.mk k2 n2 m2 b2 v2 ts2⟩ e w'):∃ A c ev,e = .returned (.tuple #[.agg #[.int .i64 k,.string nb,.string mb,.int .u64 b,.int .i64 v,.slice A q c],.int .i64 n',ev]) ∧
   TOwn w' (.mk k n m b v ts) (.slice A q c) w.heap.size w'.heap.size∧WrongOk w' ev N i (.mk k2 n2 m2 b2 v2 ts2)∧Below w.heap.size w w':=by
 obtain ⟨sg,ev,he,h1,h2,hb⟩:=h
 obtain ⟨A,c,rfl⟩:=TAtP.sl hq (TOwn.atP _ h1)
 exact ⟨A,c,ev,by rw [he];show Ending.returned (.tuple #[valT (.mk k n m b v ts) _,_,_])=_;rw [valT_mk hn hm],h1,h2,hb⟩
theorem RowP.upto {w w':World} {B g n:Nat} {P:Nat→Prop} {ps:List (Tm × Value)} (h:RowP w P (some ⟨g,0,none⟩) n ps) (hb:Below B w w') (hP:∀ b,P b→b<B) (hg:g<B):RowP w' P (some ⟨g,0,none⟩) n ps:=by
 refine ⟨h.1,fun p hp=>TAtP.keep _ (h.2.1 p hp) fun b h2=>⟨h2,hb.block b (hP b h2)⟩,fun hn=>?_⟩
 obtain ⟨g',o,e,hlt,hc⟩:=h.2.2 hn
 injection e with e
 injection e with e1 e2
 subst e1 e2
 exact ⟨g,0,rfl,Nat.lt_of_lt_of_le hlt hb.size,fun j u hj=>(World.cell?_of_block (a:=⟨g,0+j,none⟩) (hb.block g hg)).trans (hc j u hj)⟩
end Go.Proofs.YtgfeainpeplphaaDoor
