import Derived.Shelf.Small.Bits
import Derived.Shelf.Unicode.ValidAny
import Derived.Lib.LaidU8T
import Derived.Lib.ValidLaws
import Derived.Lib.TrimUEq
import Derived.Deep.Strs
import Derived.Deep.Slices
import Derived.SizedLaws
import Derived.Deep.DeepHandedRow
import Derived.Deep.DeepWitnessRowRef
import Derived.Lib.LaidTab
import Derived.Lay
import Derived.Test.YtgfeainpeplphaaDoorTie
import Derived.Test.YtgfeainpeplphaaDoorCards
import Derived.ProofKit
import Derived.OpenShut
import Derived.JoinedCond
import Derived.JoinedOf
import Derived.JoinedAt
import Derived.ChangeSame
import Derived.ChangeSlices
import Derived.RowKit3
import Derived.Carry
import Derived.Lib.SmallJoins
import Derived.Test.YtgfeainpeplphaaDoorV2
import Derived.Test.YtgfeainpeplphaaDoorV4
import Derived.Test.YtgfeainpeplphaaDoorV0
set_option maxRecDepth 1000000
set_option maxHeartbeats 64000000
set_option linter.unusedVariables false
set_option linter.unusedSimpArgs false
namespace Go.Proofs.YtgfeainpeplphaaDoor
open Go.RowKit Hb
attribute [local go_sem] Oper.semAt_some
theorem rParse_goodL (s:ByteArray) (r:Nat) (w:World) (hs:s.size≤9223372036854775807) (hr:2≤r) (hr2:r≤36) :
  Calls Tryd.prog 78 #[.string s,.int .i64 (r:Int)] w (RpPost w (pVal s.data.toList r) (pCode s.data.toList r)):=by
 have HB:=Qh ((Below.refl w.heap.size w).alloc (Nat.le_refl _) (.cells #[.bool false,.slice none 0 0] 106))
 have d1:decide ((r:Int)<2)=false:=decide_eq_false (by omega)
 have d2:decide ((36:Int)<(r:Int))=false:=decide_eq_false (by omega)
 have HP:=pNeg_cases s
 rcases HP with ⟨h1,hng⟩ | ⟨h1,hb,hng⟩ | ⟨h1,hb,hng,hs2,hsz2⟩
 ·obtain ⟨s',hs'⟩:∃ s':ByteArray,s'=s:=⟨_,rfl⟩
  have HS':=Qh (Qa (show s'.data.toList=pRest s.data.toList by rw [hs',pRest,hng];rfl) hng)
  have d5:decide ((0:Int)<(s'.size:Int))=false:=decide_eq_false (by rw [hs'];omega)
  have d6:decide (0<s'.size)=false:=decide_eq_false (by rw [hs'];omega)
  have hm:s'.size≤9223372036854775807:=by rw [hs'];omega
  have he0:s'.size=0:=by rw [hs'];exact h1
  rw [show (Value.string s) = .string s' by rw [hs']]
  clear hng h1 hs'
  go_enter Tryd.func78,Tryd.ntmps78
  have e1:=str_empty he0
  have HC:=Qh (pCode_bad hr hr2 (pBad_empty (r:=r) HS'.out.1 he0))
  have hse:s'=⟨#[]⟩:=bytes_nil he0
  subst hse
  go_wp2
  exact bodyPost_ret (v:=.tuple #[zeroV,.int .i64 12]) (by simp [results,Tryd.results78,go_sem]) rfl (RpPost.bad HC.out (by decide) HB.out)
 ·obtain ⟨s',hs'⟩:∃ s':ByteArray,s'=s:=⟨_,rfl⟩
  have HS':=Qh (Qa (show s'.data.toList=pRest s.data.toList by rw [hs',pRest,hng];rfl) hng)
  have d5:decide ((0:Int)<(s'.size:Int))=true:=decide_eq_true (by rw [hs'];omega)
  have d6:decide (0<s'.size)=true:=decide_eq_true (by rw [hs'];exact h1)
  have hm:s'.size≤9223372036854775807:=by rw [hs'];omega
  have he:¬s'.size=0:=by rw [hs'];omega
  have hb9:∃ h:0<s'.size,s'[0].toNat≠45:=by subst hs';exact ⟨h1,hb⟩
  obtain ⟨h19,hb8⟩:=hb9
  rw [show (Value.string s) = .string s' by rw [hs']]
  have q2:(((s'[0]'h19).toNat:Int)==45)=false:=beq_eq_false_iff_ne.2 (by omega)
  clear hng h1 hs' hb hs hb8
  go_enter Tryd.func78,Tryd.ntmps78
  have hse:¬s'.size=0:=he
  have q1:=str_full hse
  go_wp2_with fail
  go_loop [7] (fun i=>∃ k:Nat,k≤s'.size∧i = .int .i64 k∧Hid (∀ j,j<k→(sdig s'.data.toList).getD j 0<r)) (fun i=>s'.size - (intOf i).toNat)
  case atStart=>exact ⟨0,Nat.zero_le _,rfl,Qh (fun j hj=>absurd hj (Nat.not_lt_zero _))⟩
  case round=>
   obtain ⟨k,hk,rfl,hdj⟩:=hrel
   by_cases hks:k<s'.size
   ·have hk0:(0:Int)≤(k:Int):=by omega
    have hk1:(k:Int)<(s'.size:Int):=by omega
    have HV:=Qh (fun w1=>rdigit_any s'[k].toNat w1 (UInt8.toNat_lt _))
    have HG:=Qh (sdig_get s' hks)
    have H12:=Qh (fun h=>pBad_at (r:=r) HS'.out.1 hks h)
    generalize hdv:dval s'[k].toNat=dv at *
    by_cases hlt:dv<r
    ·have d3:decide ((r:Int)≤(dv:Int))=false:=decide_eq_false (by omega)
     have d4:decide (r≤dv)=false:=decide_eq_false (by omega)
     clear hdv
     go_wp2_with (go_at_call 86;(with_reducible refine (HV.out _).mono ?_);rintro e w' ⟨rfl,rfl⟩)
     go_round
     case rel=>exact ⟨k+1,by omega,by go_num,Qh (fun j hj=>by
      rcases Nat.lt_or_ge j k with h | h
      ·exact hdj.out j h
      ·obtain rfl:j=k:=by omega
       rw [HG.out];exact hlt)⟩
     case measure=>simp [intOf];omega
    ·have d3:decide ((r:Int)≤(dv:Int))=true:=decide_eq_true (by omega)
     have d4:decide (r≤dv)=true:=decide_eq_true (by omega)
     have HC:=Qh (pCode_bad hr hr2 (H12.out (by omega)))
     clear hdv
     go_wp2_with (go_at_call 86;(with_reducible refine (HV.out _).mono ?_);rintro e w' ⟨rfl,rfl⟩)
     exact bodyPost_ret (v:=.tuple #[zeroV,.int .i64 12]) (by simp [results,Tryd.results78,go_sem]) rfl (RpPost.bad HC.out (by decide) HB.out)
   ·obtain rfl:k=s'.size:=by omega
    have HBd:=Qh (pBad_none HS'.out.1 hse hdj.out)
    have HDJ:=hdj
    have hW0z:w.heap.size<(w.alloc (.cells #[.bool false,.slice none 0 0] 106)).heap.size:=by simp
    have HX:=Qh (show (w.alloc (.cells #[.bool false,.slice none 0 0] 106)).heap[w.heap.size]?=some (.cells #[.bool false,.slice none 0 0] 106 (0,0)) from heap_alloc_new w _)
    go_wp2_with fail
    generalize (w.alloc (.cells #[.bool false,.slice none 0 0] 106))=W0 at *
    have HR0:=Qh (RpRel.start W0)
    go_loopw [8,9] (fun bv iv wr=>∃ i:Nat,i≤s'.size∧iv = .int .i64 (i:Int)∧(digs 2 (pval r ((sdig s'.data.toList).take i))).length≤8192∧RpRel W0 (pval r ((sdig s'.data.toList).take i)) bv wr) (fun _ iv _=>s'.size - (intOf iv).toNat)
    case atStart=>exact ⟨0,Nat.zero_le _,rfl,by rw [List.take_zero];simp [pval,digs_zero],by rw [List.take_zero];exact HR0.out⟩
    case round=>
     obtain ⟨i,hi,rfl,hn8,A1,c1,rfl,ho1,hb1⟩:=hrel
     have HO:=Qh ho1
     have HB1:=Qh hb1
     have hz1:=hb1.size
     obtain ⟨V,hV⟩:∃ V,pval r ((sdig s'.data.toList).take i)=V:=⟨_,rfl⟩
     rw [hV] at HO hn8 ⊢
     have HV9:=Qh hV
     have hi0:(0:Int)≤(i:Int):=by omega
     clear ho1 hb1 HR0 hV
     obtain ⟨n,hn⟩:∃ n,(digs 2 V).length=n:=⟨_,rfl⟩
     have HN:=Qh hn
     rw [hn] at HO hn8 ⊢
     clear hn
     by_cases hgo:i<s'.size∧n≤4096
     ·have hiI:(i:Int)<(s'.size:Int):=by omega
      have hnI:(n:Int)≤4096:=by omega
      have hd6':decide (i<s'.size)=true:=decide_eq_true hgo.1
      have hd7':decide (n≤4096)=true:=decide_eq_true hgo.2
      have hd:=HDJ.out i hgo.1
      have HSn:=Qh (show pval r ((sdig s'.data.toList).take (i+1))=V * r+dval s'[i].toNat by
       rw [List.take_succ_eq_append_getElem (by rw [sdig_length];exact hgo.1),pval_snoc,HV9.out,←sdig_get s' hgo.1,getD_eq (by rw [sdig_length];exact hgo.1)])
      rw [sdig_get s' hgo.1] at hd
      have HVd:=Qh (fun w1=>rdigit_any s'[i].toNat w1 (UInt8.toNat_lt _))
      generalize dval s'[i].toNat=d at *
      obtain ⟨wo,hwo⟩:∃ wo:World,wo=wr:=⟨_,rfl⟩
      subst hwo
      have HDl:=Qh (dig_digs (b:=2) (by decide) V)
      have HVl:=Qh (nv_digs (b:=2) (by decide) V)
      generalize digs 2 V=l at *
      go_wp2_with (go_at_call 86;(with_reducible refine (HVd.out _).mono ?_);rintro e w' ⟨rfl,rfl⟩)
      go_loopw [10,11,12] (fun cv ov kv wr=>∃ (k cy:Nat) (O:List Nat) (A2:Option Addr) (c2:Nat),kv = .int .i64 (k:Int)∧cv = .int .i64 (cy:Int)∧ov = .slice A2 k c2∧Hid (RmInv l n r d k cy O)∧OwnI wr wo.heap.size A2 k c2 (i64s O)∧Below wo.heap.size wo wr) (fun cv _ kv _=>(n - (intOf kv).toNat) * 100+(intOf cv).toNat)
      case atStart=>exact ⟨0,d,[],none,0,rfl,rfl,rfl,Qh ⟨rfl,Dig.nil _,by omega,fun _=>by omega,by simp [nvp_zero,nv]⟩,⟨rfl,.inl ⟨rfl,rfl⟩⟩,Below.refl _ _⟩
      case round=>
       obtain ⟨k,cy,O,A2,c2,rfl,rfl,rfl,HI,ho2,hb2⟩:=hrel
       have HO2:=Qh ho2
       have HB2:=Qh hb2
       have hz2:=hb2.size
       have hk0:(0:Int)≤(k:Int):=by omega
       have hcy:=HI.out.hc
       clear ho2 hb2
       by_cases hin:k<n∨0<cy
       ·have hk5:k≤5000:=by
         rcases Nat.lt_or_ge k n with h | h
         ·omega
         ·have:=HI.out.hb h;omega
        have HBt:=Qh (show Calls Tryd.prog 87 #[.slice A1 n c1,.int .i64 (k:Int)] wr (fun e w'=>e = .returned (.int .i64 (l.getD k 0:Nat))∧wr=w') from by
         have h:=rbit_any ((HO.out.sl HDl.out HN.out).below (C:=wo.heap.size) HB2.out (Nat.le_refl _)) (k:Int)
         rwa [bitZ_nat] at h)
        have hyb:=HDl.out.getD (b:=2) (by decide) k
        have HSt:=Qh (fun y t (hy:l.getD k 0=y) (hy2:y<2) (ht:y * r+cy=t)=>HI.out.step HN.out hr2 hy hy2 ht hin)
        obtain ⟨y,hy⟩:∃ y,l.getD k 0=y:=⟨_,rfl⟩
        rw [hy] at HBt hyb
        obtain ⟨p,hp⟩:∃ p,y * r=p:=⟨_,rfl⟩
        have hpi:(y:Int) * (r:Int)=(p:Int):=by rw [←hp];simp
        have hp36:p≤36:=by
         rcases (by omega:y=0∨y=1) with e | e <;> rw [←hp,e] <;> omega
        obtain ⟨t,ht⟩:∃ t,p+cy=t:=⟨_,rfl⟩
        have HS1:=Qh (HSt.out y t hy hyb (by rw [hp];exact ht))
        have hti:(p:Int)+(cy:Int)=(t:Int):=by omega
        have ht9:(t:Int)≤72:=by omega
        have htm:(t:Int).tmod 2=((t % 2:Nat):Int):=by rw [Int.tmod_eq_emod_of_nonneg (by omega)];omega
        have htd:(t:Int).tdiv 2=((t / 2:Nat):Int):=by rw [Int.tdiv_eq_ediv_of_nonneg (by omega)];omega
        have hk5I:k≤4294967296:=by omega
        have hkI5:(k:Int)≤5000:=by omega
        have HME:=Qh (show (n - (k+1)) * 100+t / 2<(n - k) * 100+cy by
         rcases Nat.lt_or_ge k n with h | h
         ·omega
         ·have hy0:y=0:=by rw [←hy];exact getD_past (by rw [HN.out];exact h)
          rw [hy0,Nat.zero_mul] at hp
          omega)
        clear hy hp ht HSt
        by_cases hkn:k<n
        case' pos=>
         have hkI:(k:Int)<(n:Int):=by omega
         have hkd:decide (k<n)=true:=decide_eq_true hkn
        case' neg=>
         have hkI:¬(k:Int)<(n:Int):=by omega
         have hkd:decide (k<n)=false:=decide_eq_false hkn
         have hcyI:(0:Int)<(cy:Int):=by omega
         have hcyd:decide (0<cy)=true:=decide_eq_true (by omega)
        all_goals
         go_wp2_with (first
          | (go_at_call 87;(with_reducible refine HBt.out.mono ?_);rintro e w' ⟨rfl,rfl⟩)
          | (at_builtin;refine wpList_append_i64 (by rfl) _ _ (by rfl) wo.heap.size A2 k c2 O (by rfl) (Own.alloc HO2.out _) wr.heap.size (t % 2) (by rfl) (by simp [go_sem]) hk5I (by simp;omega) ?_;intro A4 c4 w4 ho4 hb4))
         have HO4:=Qh ho4
         have HB4:=Qh ((HB2.out.alloc hz2 _).trans hb4)
         clear ho4 hb4
         go_wp2_with fail
         go_roundw
         case rel=>exact ⟨k+1,t / 2,O ++ [t % 2],A4,c4,by go_num,by first | rfl | go_num,rfl,HS1,HO4.out,HB4.out⟩
         case measure=>first | exact HME.out | (have:=HME.out;simp [intOf];omega)
       ·have hkn:n≤k:=by omega
        have hcy0:cy=0:=by omega
        subst hcy0
        have hk9:=HI.out.hb hkn
        have hv:=HI.out.hv
        rw [Nat.mul_zero,Nat.add_zero,nvp_all (by rw [HN.out];exact hkn),HVl.out] at hv
        have et:tr O=digs 2 (V * r+d):=by rw [tr_eq_digs (b:=2) (by decide) HI.out.dO,hv]
        have em:tlen O=(digs 2 (V * r+d)).length:=by rw [←et,tr_length]
        have hcut:=rcut_any (HO2.out.sl HI.out.dO HI.out.lo)
        rw [em] at hcut
        have HCut:=Qh hcut
        have hml:tlen O≤k:=by rw [←HI.out.lo];exact tlen_le O
        have htk:=HO2.out.take hml
        rw [i64s_take] at htk
        have HR2:=Qh (show RpRel W0 (pval r ((sdig s'.data.toList).take (i+1))) (.slice A2 (digs 2 (V * r+d)).length c2) wr from by
         rw [HSn.out]
         exact ⟨A2,c2,rfl,by rw [←em,←et];exact Own.mono htk hz1,HB1.out.trans (HB2.out.mono hz1)⟩)
        have HLe:=Qh (show (digs 2 (pval r ((sdig s'.data.toList).take (i+1)))).length≤8192 by rw [HSn.out,←em];omega)
        have hk1:decide (k<n)=false:=decide_eq_false (by omega)
        have hk2:¬(k:Int)<(n:Int):=by omega
        clear hcut htk et em hv hml
        go_wp2_with (go_at_call 88;(with_reducible refine HCut.out.mono ?_);rintro e w2 ⟨rfl,rfl⟩)
        go_roundw
        case rel=>exact ⟨i+1,by omega,by go_num,HLe.out,HR2.out⟩
        case measure=>simp [intOf];omega
     ·have HPR:=Qh HS'.out.1
      by_cases hbig:n≤4096
      ·obtain rfl:i=s'.size:=by omega
       have hVall:=HV9.out
       rw [List.take_of_length_le (by rw [sdig_length];exact Nat.le_refl _),HPR.out] at hVall
       have hVlt:=lt_of_digs_length (b:=2) (n:=V) (k:=4096) (by decide) (by rw [HN.out];exact hbig)
       have HC:=Qh (pCode_ok hr hr2 HBd.out (by rw [hVall];exact hVlt))
       have HZ:=Qh (show bval false (digs 2 V)=pVal s.data.toList (r:Int) by
        unfold bval pVal
        rw [nv_digs (by decide),HS'.out.2,Int.toNat_natCast,hVall])
       have hd6':decide (s'.size<s'.size)=false:=decide_eq_false (by omega)
       have hbigI:¬(4096:Int)<(n:Int):=by omega
       have hbd:decide (4096<n)=false:=decide_eq_false (by omega)
       have HDl:=Qh (dig_digs (b:=2) (by decide) V)
       clear hVall hVlt
       generalize pVal s.data.toList (r:Int)=z at *
       generalize digs 2 V=l at *
       go_wp2_with fail
       (with_reducible refine (rlaid_at false HO.out HN.out HDl.out HZ.out).mono ?_)
       rintro ex w5 ⟨rfl,ho5,hb5⟩
       obtain ⟨r0,r1,r2,r3⟩:=two_cells (HB1.out.trans (hb5.mono hz1)) HX.out hW0z
       have HO5:=Qh ho5
       have HB5:=Qh (HB.out.trans ((HB1.out.trans (hb5.mono hz1)).mono HB.out.size))
       clear ho5 hb5
       go_wp2
       have hrr:=ResB.stored (w:=w) (g:=w.heap.size) (u:=.bool (decide (z<0))) (u':=.slice A1 (digs 2 z.natAbs).length c1) ⟨A1,c1,rfl,HO5.out⟩ HB5.out (by omega) (by omega)
       exact bodyPost_ret (v:=.tuple #[.agg #[.bool (decide (z<0)),.slice A1 (digs 2 z.natAbs).length c1],.int .i64 0]) (by simp [results,Tryd.results78,go_sem,r0,r1]) rfl
        ⟨_,by rw [HC.out],fun _=>hrr.1,fun h=>absurd HC.out h,hrr.2⟩
      ·have hVge:¬V<2 ^ 4096:=fun h=>hbig (by rw [←HN.out];exact digs_length_le (by decide) h)
       have HC:=Qh (pCode_long hr hr2 HBd.out i (by rw [←HPR.out,HV9.out];exact hVge))
       have hbigI:(4096:Int)<(n:Int):=by omega
       have hbd:decide (4096<n)=true:=decide_eq_true (by omega)
       have hbd2:decide (n≤4096)=false:=decide_eq_false (by omega)
       have hbI2:¬(n:Int)≤4096:=by omega
       obtain ⟨r0,r1,r2,r3⟩:=two_cells HB1.out HX.out hW0z
       have HB5:=Qh (Qt HB.out HB1.out)
       clear hVge
       by_cases his:i<s'.size
       case' pos=>
        have hisI:(i:Int)<(s'.size:Int):=by omega
        have hisd:decide (i<s'.size)=true:=decide_eq_true his
       case' neg=>
        have hisI:¬(i:Int)<(s'.size:Int):=by omega
        have hisd:decide (i<s'.size)=false:=decide_eq_false his
       all_goals
        go_wp2
        exact bodyPost_ret (v:=.tuple #[zeroV,.int .i64 10]) (by simp [results,Tryd.results78,go_sem,r0,r1]) rfl
         (RpPost.bad HC.out (by decide) ((HB5.out.setCell (Nat.le_refl _) _).setCell (Nat.le_refl _) _))
 ·obtain ⟨s',hs'⟩:∃ s',s.extract 1 s.size=s':=⟨_,rfl⟩
  have HS':=Qh (Qa (show s'.data.toList=pRest s.data.toList by rw [pRest,hng,if_pos rfl,←hs2,hs']) hng)
  rw [hs'] at hsz2
  have hsz3:s.size - 1=s'.size:=hsz2.symm
  have d5:decide ((0:Int)<(s.size:Int))=true:=decide_eq_true (by omega)
  have d6:decide (0<s.size)=true:=decide_eq_true h1
  have hm:s'.size≤9223372036854775807:=by omega
  have q2:(((s[0]'h1).toNat:Int)==45)=true:=by rw [hb];rfl
  clear hng hs2 hsz2
  go_enter Tryd.func78,Tryd.ntmps78
  by_cases he:s'.size=0
  ·have e1:=str_empty he
   have HC:=Qh (pCode_bad hr hr2 (pBad_empty (r:=r) HS'.out.1 he))
   go_wp2
   exact bodyPost_ret (v:=.tuple #[zeroV,.int .i64 12]) (by simp [results,Tryd.results78,go_sem]) rfl (RpPost.bad HC.out (by decide) HB.out)
  ·skip
   have hse:¬s'.size=0:=he
   have q1:=str_full hse
   go_wp2_with fail
   clear hs' hsz3 hb d1 d2 d5 d6 h1 hs q2
   go_loop [7] (fun i=>∃ k:Nat,k≤s'.size∧i = .int .i64 k∧Hid (∀ j,j<k→(sdig s'.data.toList).getD j 0<r)) (fun i=>s'.size - (intOf i).toNat)
   case atStart=>exact ⟨0,Nat.zero_le _,rfl,Qh (fun j hj=>absurd hj (Nat.not_lt_zero _))⟩
   case round=>
    obtain ⟨k,hk,rfl,hdj⟩:=hrel
    by_cases hks:k<s'.size
    ·have hk0:(0:Int)≤(k:Int):=by omega
     have hk1:(k:Int)<(s'.size:Int):=by omega
     have HV:=Qh (fun w1=>rdigit_any s'[k].toNat w1 (UInt8.toNat_lt _))
     have HG:=Qh (sdig_get s' hks)
     have H12:=Qh (fun h=>pBad_at (r:=r) HS'.out.1 hks h)
     generalize hdv:dval s'[k].toNat=dv at *
     by_cases hlt:dv<r
     ·have d3:decide ((r:Int)≤(dv:Int))=false:=decide_eq_false (by omega)
      have d4:decide (r≤dv)=false:=decide_eq_false (by omega)
      clear hdv
      go_wp2_with (go_at_call 86;(with_reducible refine (HV.out _).mono ?_);rintro e w' ⟨rfl,rfl⟩)
      go_round
      case rel=>exact ⟨k+1,by omega,by go_num,Qh (fun j hj=>by
       rcases Nat.lt_or_ge j k with h | h
       ·exact hdj.out j h
       ·obtain rfl:j=k:=by omega
        rw [HG.out];exact hlt)⟩
      case measure=>simp [intOf];omega
     ·have d3:decide ((r:Int)≤(dv:Int))=true:=decide_eq_true (by omega)
      have d4:decide (r≤dv)=true:=decide_eq_true (by omega)
      have HC:=Qh (pCode_bad hr hr2 (H12.out (by omega)))
      clear hdv
      go_wp2_with (go_at_call 86;(with_reducible refine (HV.out _).mono ?_);rintro e w' ⟨rfl,rfl⟩)
      exact bodyPost_ret (v:=.tuple #[zeroV,.int .i64 12]) (by simp [results,Tryd.results78,go_sem]) rfl (RpPost.bad HC.out (by decide) HB.out)
    ·obtain rfl:k=s'.size:=by omega
     have HBd:=Qh (pBad_none HS'.out.1 hse hdj.out)
     have HDJ:=hdj
     have hW0z:w.heap.size<(w.alloc (.cells #[.bool false,.slice none 0 0] 106)).heap.size:=by simp
     have HX:=Qh (show (w.alloc (.cells #[.bool false,.slice none 0 0] 106)).heap[w.heap.size]?=some (.cells #[.bool false,.slice none 0 0] 106 (0,0)) from heap_alloc_new w _)
     go_wp2_with fail
     generalize (w.alloc (.cells #[.bool false,.slice none 0 0] 106))=W0 at *
     have HR0:=Qh (RpRel.start W0)
     go_loopw [8,9] (fun bv iv wr=>∃ i:Nat,i≤s'.size∧iv = .int .i64 (i:Int)∧(digs 2 (pval r ((sdig s'.data.toList).take i))).length≤8192∧RpRel W0 (pval r ((sdig s'.data.toList).take i)) bv wr) (fun _ iv _=>s'.size - (intOf iv).toNat)
     case atStart=>exact ⟨0,Nat.zero_le _,rfl,by rw [List.take_zero];simp [pval,digs_zero],by rw [List.take_zero];exact HR0.out⟩
     case round=>
      obtain ⟨i,hi,rfl,hn8,A1,c1,rfl,ho1,hb1⟩:=hrel
      have HO:=Qh ho1
      have HB1:=Qh hb1
      have hz1:=hb1.size
      obtain ⟨V,hV⟩:∃ V,pval r ((sdig s'.data.toList).take i)=V:=⟨_,rfl⟩
      rw [hV] at HO hn8 ⊢
      have HV9:=Qh hV
      have hi0:(0:Int)≤(i:Int):=by omega
      clear ho1 hb1 HR0 hV
      obtain ⟨n,hn⟩:∃ n,(digs 2 V).length=n:=⟨_,rfl⟩
      have HN:=Qh hn
      rw [hn] at HO hn8 ⊢
      clear hn
      by_cases hgo:i<s'.size∧n≤4096
      ·have hiI:(i:Int)<(s'.size:Int):=by omega
       have hnI:(n:Int)≤4096:=by omega
       have hd6':decide (i<s'.size)=true:=decide_eq_true hgo.1
       have hd7':decide (n≤4096)=true:=decide_eq_true hgo.2
       have hd:=HDJ.out i hgo.1
       have HSn:=Qh (show pval r ((sdig s'.data.toList).take (i+1))=V * r+dval s'[i].toNat by
        rw [List.take_succ_eq_append_getElem (by rw [sdig_length];exact hgo.1),pval_snoc,HV9.out,←sdig_get s' hgo.1,getD_eq (by rw [sdig_length];exact hgo.1)])
       rw [sdig_get s' hgo.1] at hd
       have HVd:=Qh (fun w1=>rdigit_any s'[i].toNat w1 (UInt8.toNat_lt _))
       generalize dval s'[i].toNat=d at *
       obtain ⟨wo,hwo⟩:∃ wo:World,wo=wr:=⟨_,rfl⟩
       subst hwo
       have HDl:=Qh (dig_digs (b:=2) (by decide) V)
       have HVl:=Qh (nv_digs (b:=2) (by decide) V)
       generalize digs 2 V=l at *
       go_wp2_with (go_at_call 86;(with_reducible refine (HVd.out _).mono ?_);rintro e w' ⟨rfl,rfl⟩)
       go_loopw [10,11,12] (fun cv ov kv wr=>∃ (k cy:Nat) (O:List Nat) (A2:Option Addr) (c2:Nat),kv = .int .i64 (k:Int)∧cv = .int .i64 (cy:Int)∧ov = .slice A2 k c2∧Hid (RmInv l n r d k cy O)∧OwnI wr wo.heap.size A2 k c2 (i64s O)∧Below wo.heap.size wo wr) (fun cv _ kv _=>(n - (intOf kv).toNat) * 100+(intOf cv).toNat)
       case atStart=>exact ⟨0,d,[],none,0,rfl,rfl,rfl,Qh ⟨rfl,Dig.nil _,by omega,fun _=>by omega,by simp [nvp_zero,nv]⟩,⟨rfl,.inl ⟨rfl,rfl⟩⟩,Below.refl _ _⟩
       case round=>
        obtain ⟨k,cy,O,A2,c2,rfl,rfl,rfl,HI,ho2,hb2⟩:=hrel
        have HO2:=Qh ho2
        have HB2:=Qh hb2
        have hz2:=hb2.size
        have hk0:(0:Int)≤(k:Int):=by omega
        have hcy:=HI.out.hc
        clear ho2 hb2
        by_cases hin:k<n∨0<cy
        ·have hk5:k≤5000:=by
          rcases Nat.lt_or_ge k n with h | h
          ·omega
          ·have:=HI.out.hb h;omega
         have HBt:=Qh (show Calls Tryd.prog 87 #[.slice A1 n c1,.int .i64 (k:Int)] wr (fun e w'=>e = .returned (.int .i64 (l.getD k 0:Nat))∧wr=w') from by
          have h:=rbit_any ((HO.out.sl HDl.out HN.out).below (C:=wo.heap.size) HB2.out (Nat.le_refl _)) (k:Int)
          rwa [bitZ_nat] at h)
         have hyb:=HDl.out.getD (b:=2) (by decide) k
         have HSt:=Qh (fun y t (hy:l.getD k 0=y) (hy2:y<2) (ht:y * r+cy=t)=>HI.out.step HN.out hr2 hy hy2 ht hin)
         obtain ⟨y,hy⟩:∃ y,l.getD k 0=y:=⟨_,rfl⟩
         rw [hy] at HBt hyb
         obtain ⟨p,hp⟩:∃ p,y * r=p:=⟨_,rfl⟩
         have hpi:(y:Int) * (r:Int)=(p:Int):=by rw [←hp];simp
         have hp36:p≤36:=by
          rcases (by omega:y=0∨y=1) with e | e <;> rw [←hp,e] <;> omega
         obtain ⟨t,ht⟩:∃ t,p+cy=t:=⟨_,rfl⟩
         have HS1:=Qh (HSt.out y t hy hyb (by rw [hp];exact ht))
         have hti:(p:Int)+(cy:Int)=(t:Int):=by omega
         have ht9:(t:Int)≤72:=by omega
         have htm:(t:Int).tmod 2=((t % 2:Nat):Int):=by rw [Int.tmod_eq_emod_of_nonneg (by omega)];omega
         have htd:(t:Int).tdiv 2=((t / 2:Nat):Int):=by rw [Int.tdiv_eq_ediv_of_nonneg (by omega)];omega
         have hk5I:k≤4294967296:=by omega
         have hkI5:(k:Int)≤5000:=by omega
         have HME:=Qh (show (n - (k+1)) * 100+t / 2<(n - k) * 100+cy by
          rcases Nat.lt_or_ge k n with h | h
          ·omega
          ·have hy0:y=0:=by rw [←hy];exact getD_past (by rw [HN.out];exact h)
           rw [hy0,Nat.zero_mul] at hp
           omega)
         clear hy hp ht HSt
         by_cases hkn:k<n
         case' pos=>
          have hkI:(k:Int)<(n:Int):=by omega
          have hkd:decide (k<n)=true:=decide_eq_true hkn
         case' neg=>
          have hkI:¬(k:Int)<(n:Int):=by omega
          have hkd:decide (k<n)=false:=decide_eq_false hkn
          have hcyI:(0:Int)<(cy:Int):=by omega
          have hcyd:decide (0<cy)=true:=decide_eq_true (by omega)
         all_goals
          go_wp2_with (first
           | (go_at_call 87;(with_reducible refine HBt.out.mono ?_);rintro e w' ⟨rfl,rfl⟩)
           | (at_builtin;refine wpList_append_i64 (by rfl) _ _ (by rfl) wo.heap.size A2 k c2 O (by rfl) (Own.alloc HO2.out _) wr.heap.size (t % 2) (by rfl) (by simp [go_sem]) hk5I (by simp;omega) ?_;intro A4 c4 w4 ho4 hb4))
          have HO4:=Qh ho4
          have HB4:=Qh ((HB2.out.alloc hz2 _).trans hb4)
          clear ho4 hb4
          go_wp2_with fail
          go_roundw
          case rel=>exact ⟨k+1,t / 2,O ++ [t % 2],A4,c4,by go_num,by first | rfl | go_num,rfl,HS1,HO4.out,HB4.out⟩
          case measure=>first | exact HME.out | (have:=HME.out;simp [intOf];omega)
        ·have hkn:n≤k:=by omega
         have hcy0:cy=0:=by omega
         subst hcy0
         have hk9:=HI.out.hb hkn
         have hv:=HI.out.hv
         rw [Nat.mul_zero,Nat.add_zero,nvp_all (by rw [HN.out];exact hkn),HVl.out] at hv
         have et:tr O=digs 2 (V * r+d):=by rw [tr_eq_digs (b:=2) (by decide) HI.out.dO,hv]
         have em:tlen O=(digs 2 (V * r+d)).length:=by rw [←et,tr_length]
         have hcut:=rcut_any (HO2.out.sl HI.out.dO HI.out.lo)
         rw [em] at hcut
         have HCut:=Qh hcut
         have hml:tlen O≤k:=by rw [←HI.out.lo];exact tlen_le O
         have htk:=HO2.out.take hml
         rw [i64s_take] at htk
         have HR2:=Qh (show RpRel W0 (pval r ((sdig s'.data.toList).take (i+1))) (.slice A2 (digs 2 (V * r+d)).length c2) wr from by
          rw [HSn.out]
          exact ⟨A2,c2,rfl,by rw [←em,←et];exact Own.mono htk hz1,HB1.out.trans (HB2.out.mono hz1)⟩)
         have HLe:=Qh (show (digs 2 (pval r ((sdig s'.data.toList).take (i+1)))).length≤8192 by rw [HSn.out,←em];omega)
         have hk1:decide (k<n)=false:=decide_eq_false (by omega)
         have hk2:¬(k:Int)<(n:Int):=by omega
         clear hcut htk et em hv hml
         go_wp2_with (go_at_call 88;(with_reducible refine HCut.out.mono ?_);rintro e w2 ⟨rfl,rfl⟩)
         go_roundw
         case rel=>exact ⟨i+1,by omega,by go_num,HLe.out,HR2.out⟩
         case measure=>simp [intOf];omega
      ·have HPR:=Qh HS'.out.1
       by_cases hbig:n≤4096
       ·obtain rfl:i=s'.size:=by omega
        have hVall:=HV9.out
        rw [List.take_of_length_le (by rw [sdig_length];exact Nat.le_refl _),HPR.out] at hVall
        have hVlt:=lt_of_digs_length (b:=2) (n:=V) (k:=4096) (by decide) (by rw [HN.out];exact hbig)
        have HC:=Qh (pCode_ok hr hr2 HBd.out (by rw [hVall];exact hVlt))
        have HZ:=Qh (show bval true (digs 2 V)=pVal s.data.toList (r:Int) by
         unfold bval pVal
         rw [nv_digs (by decide),HS'.out.2,Int.toNat_natCast,hVall])
        have hd6':decide (s'.size<s'.size)=false:=decide_eq_false (by omega)
        have hbigI:¬(4096:Int)<(n:Int):=by omega
        have hbd:decide (4096<n)=false:=decide_eq_false (by omega)
        have HDl:=Qh (dig_digs (b:=2) (by decide) V)
        clear hVall hVlt
        generalize pVal s.data.toList (r:Int)=z at *
        generalize digs 2 V=l at *
        go_wp2_with fail
        (with_reducible refine (rlaid_at true HO.out HN.out HDl.out HZ.out).mono ?_)
        rintro ex w5 ⟨rfl,ho5,hb5⟩
        obtain ⟨r0,r1,r2,r3⟩:=two_cells (HB1.out.trans (hb5.mono hz1)) HX.out hW0z
        have HO5:=Qh ho5
        have HB5:=Qh (HB.out.trans ((HB1.out.trans (hb5.mono hz1)).mono HB.out.size))
        clear ho5 hb5
        go_wp2
        have hrr:=ResB.stored (w:=w) (g:=w.heap.size) (u:=.bool (decide (z<0))) (u':=.slice A1 (digs 2 z.natAbs).length c1) ⟨A1,c1,rfl,HO5.out⟩ HB5.out (by omega) (by omega)
        exact bodyPost_ret (v:=.tuple #[.agg #[.bool (decide (z<0)),.slice A1 (digs 2 z.natAbs).length c1],.int .i64 0]) (by simp [results,Tryd.results78,go_sem,r0,r1]) rfl
         ⟨_,by rw [HC.out],fun _=>hrr.1,fun h=>absurd HC.out h,hrr.2⟩
       ·have hVge:¬V<2 ^ 4096:=fun h=>hbig (by rw [←HN.out];exact digs_length_le (by decide) h)
        have HC:=Qh (pCode_long hr hr2 HBd.out i (by rw [←HPR.out,HV9.out];exact hVge))
        have hbigI:(4096:Int)<(n:Int):=by omega
        have hbd:decide (4096<n)=true:=decide_eq_true (by omega)
        have hbd2:decide (n≤4096)=false:=decide_eq_false (by omega)
        have hbI2:¬(n:Int)≤4096:=by omega
        obtain ⟨r0,r1,r2,r3⟩:=two_cells HB1.out HX.out hW0z
        have HB5:=Qh (Qt HB.out HB1.out)
        clear hVge
        by_cases his:i<s'.size
        case' pos=>
         have hisI:(i:Int)<(s'.size:Int):=by omega
         have hisd:decide (i<s'.size)=true:=decide_eq_true his
        case' neg=>
         have hisI:¬(i:Int)<(s'.size:Int):=by omega
         have hisd:decide (i<s'.size)=false:=decide_eq_false his
        all_goals
         go_wp2
         exact bodyPost_ret (v:=.tuple #[zeroV,.int .i64 10]) (by simp [results,Tryd.results78,go_sem,r0,r1]) rfl
          (RpPost.bad HC.out (by decide) ((HB5.out.setCell (Nat.le_refl _) _).setCell (Nat.le_refl _) _))
theorem rParse_anyL (s:ByteArray) (r:Int) (w:World) (hs:s.size≤9223372036854775807) :
  Calls Tryd.prog 78 #[.string s,.int .i64 r] w (RpPost w (pVal s.data.toList r) (pCode s.data.toList r)):=by
 by_cases h:r<2∨36<r
 ·exact rParse_radix s r w h _ _ (by rw [pCode,if_pos h])
 ·obtain ⟨n,rfl⟩:=Int.eq_ofNat_of_zero_le (show 0≤r by omega)
  exact rParse_goodL s n w hs (by omega) (by omega)
end Go.Proofs.YtgfeainpeplphaaDoor
namespace Go.Proofs.YtgfeainpeplphaaDoor
open Go.Shelf Go.RowKit Hb Ht
def Tryd.laysValid_ren:Go.Shelf.Ren:=⟨fun | 196=>81 | 259=>90 | n=>n,fun | 9=>9 | 4=>4 | 3=>3 | 5=>5 | 12=>12 | 119=>121 | 0=>0 | 46=>110 | 139=>124 | 138=>123 | 53=>22 | n=>n,fun | 3=>0 | 4=>1 | n=>n⟩
theorem Tryd.laysValid:Go.Proofs.Lays.n196 Tryd.prog Tryd.laysValid_ren:={
 mixed:=by kernel_rfl
 f196:=Tryd.func81.trans (congrArg some (by kernel_rfl))
 f259:=Tryd.func90.trans (congrArg some (by kernel_rfl))
 t0:=Tryd.underlying0
 a0:=Tryd.isAgg0
 z0:=Tryd.sizeOf0
 v0:=Tryd.zeroValue0
 t3:=Tryd.underlying3
 a3:=Tryd.isAgg3
 z3:=Tryd.sizeOf3
 v3:=Tryd.zeroValue3
 t4:=Tryd.underlying4
 a4:=Tryd.isAgg4
 z4:=Tryd.sizeOf4
 v4:=Tryd.zeroValue4
 t5:=Tryd.underlying5
 a5:=Tryd.isAgg5
 z5:=Tryd.sizeOf5
 v5:=Tryd.zeroValue5
 t9:=Tryd.underlying9
 a9:=Tryd.isAgg9
 z9:=Tryd.sizeOf9
 v9:=Tryd.zeroValue9
 t12:=Tryd.underlying12
 a12:=Tryd.isAgg12
 z12:=Tryd.sizeOf12
 v12:=Tryd.zeroValue12
 t46:=Tryd.underlying110
 a46:=Tryd.isAgg110
 z46:=Tryd.sizeOf110
 v46:=Tryd.zeroValue110
 t53:=Tryd.underlying22
 a53:=Tryd.isAgg22
 z53:=Tryd.sizeOf22
 v53:=Tryd.zeroValue22
 t119:=Tryd.underlying121
 a119:=Tryd.isAgg121
 z119:=Tryd.sizeOf121
 t138:=Tryd.underlying123
 a138:=Tryd.isAgg123
 z138:=Tryd.sizeOf123
 v138:=Tryd.zeroValue123
 t139:=Tryd.underlying124
 a139:=Tryd.isAgg124
 z139:=Tryd.sizeOf124
 v139:=Tryd.zeroValue124
 g3:=by kernel_rfl
 g4:=by kernel_rfl }
def VTabs (w:World):Prop:=Lib.Utf8Tabs (Tryd.laysValid_ren.g 3) (Tryd.laysValid_ren.g 4) w
theorem valid_any (s:ByteArray) (w:World) (hs:s.size≤maxLen) (hT:VTabs w) :
  Calls Tryd.prog 81 #[.string s] w fun e w'=>e = .returned (.bool (Lib.validD s.data.toList))∧Below w.heap.size w w':=Any.utf8_ValidString Tryd.laysValid s w hs hT
theorem VTabs.below {w0 w:World} (h:VTabs w0) (hb:Below w0.heap.size w0 w):VTabs w:=by
 have key:∀ p u,w0.cell? p=some u→w.cell? p=some u:=fun p u hp=>(hb.cell (World.block_lt_of_cell? _ _ hp)).trans hp
 exact ⟨fun c hc=>key _ _ (h.1 c hc),fun i hi=>⟨key _ _ (h.2 i hi).1,key _ _ (h.2 i hi).2⟩⟩
theorem VTabs.u0 {w0:World} (h:VTabs w0):U0 w0:=fun w' hb s hs=>valid_any s w' hs (h.below hb)
theorem VTabs.ok {w0:World} (h:VTabs w0):UOk w0 w0:=⟨Below.refl _ _,h.u0⟩
end Go.Proofs.YtgfeainpeplphaaDoor
namespace Hb
open Go Go.Lib
def accU (l:List UInt8) (v0 k:Nat):Nat:=(List.range k).foldl (fun a j=>a * 64+((l.getD (j+1) 0).toNat - 128)) v0
theorem accU_zero (l:List UInt8) (v0:Nat):accU l v0 0=v0:=rfl
theorem accU_succ (l:List UInt8) (v0 k:Nat):accU l v0 (k+1)=accU l v0 k * 64+((l.getD (k+1) 0).toNat - 128):=by
 unfold accU
 rw [List.range_succ,List.foldl_append]
 rfl
def contU (l:List UInt8) (j:Nat):Prop:=j<l.length∧128≤(l.getD j 0).toNat∧(l.getD j 0).toNat<192
def contsU (l:List UInt8) (k:Nat):Prop:=∀ j,1≤j→j≤k→contU l j
def ClsU (b n least v0:Nat):Prop:=(192≤b∧b<224∧n=1∧least=128∧v0=b - 192)∨(224≤b∧b<240∧n=2∧least=2048∧v0=b - 224)∨(240≤b∧b<248∧n=3∧least=65536∧v0=b - 240)
theorem accU_lt {l:List UInt8} {v0:Nat} (h0:v0<32):∀ k,contsU l k→accU l v0 k<32 * 64 ^ k
 | 0,_=>by rw [accU_zero];omega
 | k+1,h=>by
  have h1:=accU_lt h0 k (fun j hj hk=>h j hj (by omega))
  have h2:=(h (k+1) (by omega) (Nat.le_refl _)).2.2
  have h3:(64:Nat) ^ (k+1)=64 ^ k * 64:=Nat.pow_succ ..
  rw [accU_succ,h3]
  omega
theorem valid_none {l:List UInt8} (hne:l ≠ []) (h:decodeN l.length (l.getD 0 0).toNat (l.getD 1 0).toNat (l.getD 2 0).toNat (l.getD 3 0).toNat=(65533,1)):validD l=false:=by
 rw [validD_step l hne,decodeL_N,h]
 simp
theorem valid_some {l:List UInt8} (hne:l ≠ []) {k:Nat} (hk:2≤k) (h:(decodeN l.length (l.getD 0 0).toNat (l.getD 1 0).toNat (l.getD 2 0).toNat (l.getD 3 0).toNat).2=k):validD l=validD (l.drop k):=by
 rw [validD_step l hne,decodeL_N,h,if_neg (by omega)]
theorem cls_none {l:List UInt8} (hne:l ≠ []) (h:(128≤(l.getD 0 0).toNat∧(l.getD 0 0).toNat<192)∨248≤(l.getD 0 0).toNat):validD l=false:=by
 refine valid_none hne (decodeN_bad _ _ _ _ _ ?_)
 have:=(l.getD 0 0).toNat_lt
 omega
theorem cls_bad {l:List UInt8} (hne:l ≠ []) {b n least v0 k:Nat} (hb:(l.getD 0 0).toNat=b) (hc:ClsU b n least v0) (hk:1≤k∧k≤n) (hn:¬contU l k):validD l=false:=by
 refine valid_none hne ?_
 rw [hb]
 have h1:=(l.getD 1 0).toNat_lt
 have h2:=(l.getD 2 0).toNat_lt
 have h3:=(l.getD 3 0).toNat_lt
 unfold contU at hn
 have hk3:k=1∨k=2∨k=3:=by unfold ClsU at hc;omega
 generalize l.length=N at *
 rcases hk3 with rfl | rfl | rfl
 all_goals
  generalize (l.getD 1 0).toNat=c1 at *
  generalize (l.getD 2 0).toNat=c2 at *
  generalize (l.getD 3 0).toNat=c3 at *
  unfold ClsU at hc
  unfold decodeN
  rcases hc with ⟨a1,a2,a3,a4,a5⟩ | ⟨a1,a2,a3,a4,a5⟩ | ⟨a1,a2,a3,a4,a5⟩
  all_goals
   repeat' split
   all_goals first | rfl | (exfalso;omega)
theorem cls_end {l:List UInt8} (hne:l ≠ []) {b n least v0 V:Nat} (hb:(l.getD 0 0).toNat=b) (hc:ClsU b n least v0) (hn:contsU l n) (hV:accU l v0 n=V) :
  ((V<least∨1114111<V∨(55296≤V∧V<57344))→validD l=false)∧(¬(V<least∨1114111<V∨(55296≤V∧V<57344))→validD l=validD (l.drop (n+1))):=by
 rcases hc with ⟨a1,a2,rfl,rfl,rfl⟩ | ⟨a1,a2,rfl,rfl,rfl⟩ | ⟨a1,a2,rfl,rfl,rfl⟩
 ·subst hV
  have g1:=hn 1 (by omega) (by omega)
  unfold contU at g1
  obtain ⟨V,hV⟩:∃ V,accU l (b - 192) 1=V:=⟨_,rfl⟩
  rw [hV]
  simp only [accU_succ,accU_zero,Nat.zero_add,Nat.reduceAdd] at hV
  constructor
  ·intro h
   refine valid_none hne ?_
   rw [hb]
   generalize (l.getD 1 0).toNat=c1 at *
   generalize (l.getD 2 0).toNat=c2 at *
   generalize (l.getD 3 0).toNat=c3 at *
   unfold decodeN
   repeat' split
   all_goals first | rfl | (exfalso;omega)
  ·intro h
   refine valid_some hne (by omega) ?_
   rw [hb]
   generalize (l.getD 1 0).toNat=c1 at *
   generalize (l.getD 2 0).toNat=c2 at *
   generalize (l.getD 3 0).toNat=c3 at *
   unfold decodeN
   repeat' split
   all_goals first | rfl | (exfalso;omega)
 ·subst hV
  have g1:=hn 1 (by omega) (by omega)
  have g2:=hn 2 (by omega) (by omega)
  unfold contU at g1 g2
  obtain ⟨V,hV⟩:∃ V,accU l (b - 224) 2=V:=⟨_,rfl⟩
  rw [hV]
  simp only [accU_succ,accU_zero,Nat.zero_add,Nat.reduceAdd] at hV
  constructor
  ·intro h
   refine valid_none hne ?_
   rw [hb]
   generalize (l.getD 1 0).toNat=c1 at *
   generalize (l.getD 2 0).toNat=c2 at *
   generalize (l.getD 3 0).toNat=c3 at *
   unfold decodeN
   repeat' split
   all_goals first | rfl | (exfalso;omega)
  ·intro h
   refine valid_some hne (by omega) ?_
   rw [hb]
   generalize (l.getD 1 0).toNat=c1 at *
   generalize (l.getD 2 0).toNat=c2 at *
   generalize (l.getD 3 0).toNat=c3 at *
   unfold decodeN
   repeat' split
   all_goals first | rfl | (exfalso;omega)
 ·subst hV
  have g1:=hn 1 (by omega) (by omega)
  have g2:=hn 2 (by omega) (by omega)
  have g3:=hn 3 (by omega) (by omega)
  unfold contU at g1 g2 g3
  obtain ⟨V,hV⟩:∃ V,accU l (b - 240) 3=V:=⟨_,rfl⟩
  rw [hV]
  simp only [accU_succ,accU_zero,Nat.zero_add,Nat.reduceAdd] at hV
  constructor
  ·intro h
   refine valid_none hne ?_
   rw [hb]
   generalize (l.getD 1 0).toNat=c1 at *
   generalize (l.getD 2 0).toNat=c2 at *
   generalize (l.getD 3 0).toNat=c3 at *
   unfold decodeN
   repeat' split
   all_goals first | rfl | (exfalso;omega)
  ·intro h
   refine valid_some hne (by omega) ?_
   rw [hb]
   generalize (l.getD 1 0).toNat=c1 at *
   generalize (l.getD 2 0).toNat=c2 at *
   generalize (l.getD 3 0).toNat=c3 at *
   unfold decodeN
   repeat' split
   all_goals first | rfl | (exfalso;omega)
theorem getD_drop_get (s:ByteArray) (i j:Nat) (h:i+j<s.size):(s.data.toList.drop i).getD j 0=s[i+j]:=by
 rw [getD_dropU,List.getD_eq_getElem?_getD,List.getElem?_eq_getElem (by simpa using h)]
 rfl
theorem drop_ascii (s:ByteArray) (i:Nat) (h:i<s.size) (h2:(s[i]).toNat<128):validD (s.data.toList.drop i)=validD (s.data.toList.drop (i+1)):=by
 rw [List.drop_eq_getElem_cons (by simpa using h)]
 exact validD_cons _ _ h2
end Hb
namespace Go.Proofs.YtgfeainpeplphaaDoor
open Go.RowKit Hb Ht
attribute [local go_sem] Oper.semAt_some
theorem UTF_any (s:ByteArray) (w:World) (hs:s.size≤4611686018427387904):Calls Tryd.prog 74 #[.string s] w fun e w'=>e = .returned (.bool (Lib.validD s.data.toList))∧w=w':=by
 obtain ⟨ANS,hA⟩:∃ ANS,Lib.validD s.data.toList=ANS:=⟨_,rfl⟩
 rw [hA]
 obtain ⟨N,hN⟩:∃ N,s.size=N:=⟨_,rfl⟩
 rw [hN] at hs
 have HN:=Qh (Qa hN hA)
 have hNI:(N:Int)≤4611686018427387904:=by omega
 clear hA
 go_enter Tryd.func74,Tryd.ntmps74
 go_upto_region 2 with fail
 go_loopw [3] (fun v3 wr=>w=wr∧∃ i:Nat,v3 = .int .i64 (i:Int)∧i≤N∧Hid (Lib.validD (s.data.toList.drop i)=ANS)) (fun v3 _=>((N:Int) - intOf v3).toNat)
 case atStart=>exact ⟨rfl,0,rfl,Nat.zero_le _,Qh HN.out.2⟩
 case round=>
  obtain ⟨rfl,i,rfl,hi,HI⟩:=hrel
  by_cases hlt:i<N
  ·have hltI:(i:Int)<(N:Int):=by omega
   have hi0:(0:Int)≤(i:Int):=by omega
   go_upto_region 4 with fail
   have his:i<s.size:=by rw [HN.out.1];exact hlt
   have hne:s.data.toList.drop i ≠ []:=by
    intro e
    have h1:=congrArg List.length e
    simp only [List.length_drop,Array.length_toList,List.length_nil] at h1
    change s.size - i=0 at h1
    omega
   have hB0:((s.data.toList.drop i).getD 0 0).toNat=(s[i]'his).toNat:=by rw [getD_drop_get s i 0 his];rfl
   have hasc:=drop_ascii s i his
   generalize hB:(s[i]'his).toNat=B at *
   have HNE:=Qh hne
   have HB:=Qh hB0
   have HLT:=Qh hlt
   have hB256:B<256:=by rw [←hB];exact UInt8.toNat_lt _
   have HAs:=Qh hasc
   clear hne hB0 hB hasc hlt hi
   by_cases b1:B<128
   ·have b1I:(B:Int)<128:=by omega
    have HE:=Qh (HAs.out b1)
    clear b1 hB256 his
    go_wp2
    refine ⟨⟨trivial,i+1,rfl,HLT.out,Qh (by rw [←HI.out,HE.out])⟩,?_⟩
    have:=HLT.out
    show ((N:Int) - ((i:Int)+1)).toNat<((N:Int) - (i:Int)).toNat
    omega
   have b1I:¬(B:Int)<128:=by omega
   by_cases b2:B<192
   ·have b2I:¬(192:Int)≤(B:Int):=by omega
    have b3I:¬(224:Int)≤(B:Int):=by omega
    have b4I:¬(240:Int)≤(B:Int):=by omega
    have HE:=Qh (show false=ANS from by rw [←HI.out];exact (cls_none HNE.out (by rw [HB.out];omega)).symm)
    clear b1 b2 hB256 his
    go_wp2
    go_ret
    exact ⟨by rw [←HE.out];rfl,rfl⟩
   by_cases b5:248≤B
   ·have b2I:¬(B:Int)<224:=by omega
    have b3I:¬(B:Int)<240:=by omega
    have b4I:¬(B:Int)<248:=by omega
    have b5I:(192:Int)≤(B:Int):=by omega
    have b6I:(224:Int)≤(B:Int):=by omega
    have b7I:(240:Int)≤(B:Int):=by omega
    have HE:=Qh (show false=ANS from by rw [←HI.out];exact (cls_none HNE.out (by rw [HB.out];omega)).symm)
    clear b1 b2 b5 hB256 his
    go_wp2
    go_ret
    exact ⟨by rw [←HE.out];rfl,rfl⟩
   by_cases b3:B<224
   ·have b2I:(B:Int)<224:=by omega
    have b5I:(192:Int)≤(B:Int):=by omega
    obtain ⟨v0,hv0⟩:∃ v0:Nat,B - 192=v0:=⟨_,rfl⟩
    have HC:=Qh (show ClsU B 1 128 v0 from .inl ⟨by omega,by omega,rfl,rfl,hv0.symm⟩)
    have hvI:(B:Int) - 192=(v0:Int):=by omega
    have hv32:v0<32:=by omega
    have HV0:=Qh hv32
    have hlo:(192:Int)≤(B:Int):=by omega
    have hhi:(B:Int)<224:=by omega
    clear hv0 hv32
    go_upto_region 23 with fail
    clear hvI hlo hhi
    go_loopw [7,8] (fun v7 v8 wr2=>w=wr2∧∃ (k V:Nat),v8 = .int .i64 (k:Int)∧v7 = .int .i64 (V:Int)∧1≤k∧k≤2∧Hid (accU (s.data.toList.drop i) v0 (k - 1)=V∧contsU (s.data.toList.drop i) (k - 1))) (fun _ v8 _=>(2 - intOf v8).toNat)
    case atStart=>exact ⟨rfl,1,v0,rfl,rfl,Nat.le_refl _,by omega,Qh ⟨rfl,fun j h1 h2=>by omega⟩⟩
    case round=>
     obtain ⟨rfl,k,V,rfl,rfl,hk1,hk2,HI2⟩:=hrel
     by_cases hkn:k≤1
     ·have hknI:(k:Int)≤1:=by omega
      have hk0I:(1:Int)≤(k:Int):=by omega
      have hVb:(V:Int)≤131071:=by
       have h1:=accU_lt HV0.out (k - 1) HI2.out.2
       have h2:(64:Nat) ^ (k - 1)≤64 ^ 2:=Nat.pow_le_pow_right (by decide) (by omega)
       rw [HI2.out.1] at h1
       rw [show (64:Nat) ^ 2=4096 from by decide] at h2
       omega
      have hV0I:(0:Int)≤(V:Int):=by omega
      obtain ⟨j,hj⟩:∃ j,i+k=j:=⟨_,rfl⟩
      have hjI:(i:Int)+(k:Int)=(j:Int):=by omega
      have hkL:∀ h:j<s.size,((s.data.toList.drop i).getD k 0).toNat=s[j].toNat:=by
       subst hj
       intro h
       rw [getD_drop_get s i k h]
      have HKL:=Qh hkL
      have HJ:=Qh hj
      clear hj hkL
      by_cases hin:j<N
      ·have hjN:(j:Int)<(N:Int):=by omega
       have hj0:(0:Int)≤(j:Int):=by omega
       have hjs:j<s.size:=by rw [HN.out.1];exact hin
       have hCl:=HKL.out hjs
       obtain ⟨C,hC⟩:∃ C,(s[j]'hjs).toNat=C:=⟨_,rfl⟩
       rw [hC] at hCl
       have HCC:=Qh (Qa hC hCl)
       have hC256:C<256:=by rw [←hC];exact UInt8.toNat_lt _
       clear hC hCl
       by_cases c1:C<128
       ·have c1I:(C:Int)<128:=by omega
        have c2I:((s[j]'hjs).toNat:Int)<128:=by rw [HCC.out.1];exact c1I
        have HE:=Qh (show false=ANS from by rw [←HI.out];exact (cls_bad HNE.out HB.out HC.out ⟨hk1,hkn⟩ (fun h=>by have h1:=h.2.1;rw [HCC.out.2] at h1;omega)).symm)
        clear hkn hk1 hk2 hin hC256 c1
        go_wp2
        go_ret
        exact ⟨by rw [←HE.out];rfl,rfl⟩
       ·by_cases c2:192≤C
        ·have c1I:¬((s[j]'hjs).toNat:Int)<128:=by rw [HCC.out.1];omega
         have c2I:(192:Int)≤((s[j]'hjs).toNat:Int):=by rw [HCC.out.1];omega
         have HE:=Qh (show false=ANS from by rw [←HI.out];exact (cls_bad HNE.out HB.out HC.out ⟨hk1,hkn⟩ (fun h=>by have h1:=h.2.2;rw [HCC.out.2] at h1;omega)).symm)
         clear hkn hk1 hk2 hin hC256 c1 c2
         go_wp2
         go_ret
         exact ⟨by rw [←HE.out];rfl,rfl⟩
        ·have c1I:(128:Int)≤((s[j]'hjs).toNat:Int):=by rw [HCC.out.1];omega
         have c2I:((s[j]'hjs).toNat:Int)<192:=by rw [HCC.out.1];omega
         have HE:=Qh (show accU (s.data.toList.drop i) v0 (k+1 - 1)=V * 64+C - 128∧contsU (s.data.toList.drop i) (k+1 - 1) from by
          have e:k+1 - 1=(k - 1)+1:=by omega
          rw [e]
          refine ⟨?_,fun q h1 h2=>?_⟩
          ·rw [accU_succ,HI2.out.1,show k - 1+1=k by omega,HCC.out.2];omega
          ·by_cases hq:q≤k - 1
           ·exact HI2.out.2 q h1 hq
           ·have hqk:q=k:=by omega
            rw [hqk]
            refine ⟨?_,by rw [HCC.out.2];omega,by rw [HCC.out.2];omega⟩
            have hj:=HJ.out
            have hn:=HN.out.1
            simp only [List.length_drop,Array.length_toList]
            show k<s.size - i
            omega)
         have HK:=Qh (Qa hkn (Qa (show 128≤C by omega) (show C<192 by omega)))
         clear hkn hk1 hk2 hin hC256 c1 c2
         go_wp2
         refine ⟨⟨trivial,k+1,V * 64+C - 128,rfl,?_,by omega,by have:=HK.out.1;omega,HE⟩,?_⟩
         ·have h1:=HK.out.2
          rw [HCC.out.1]
          congr 1
          omega
         ·have:=HK.out.1
          show (2 - ((k:Int)+1)).toNat<(2 - (k:Int)).toNat
          omega
      ·have hjN:(N:Int)≤(j:Int):=by omega
       have HE:=Qh (show false=ANS from by
        rw [←HI.out]
        refine (cls_bad HNE.out HB.out HC.out ⟨hk1,hkn⟩ (fun h=>?_)).symm
        have h1:=h.1
        have hj:=HJ.out
        have hn:=HN.out.1
        simp only [List.length_drop,Array.length_toList] at h1
        change k<s.size - i at h1
        omega)
       clear hkn hk1 hk2 hin
       go_wp2
       go_ret
       exact ⟨by rw [←HE.out];rfl,rfl⟩
     ·have hk:k=2:=by omega
      subst hk
      have hV:accU (s.data.toList.drop i) v0 1=V:=HI2.out.1
      have hVb:V≤8388607:=by
       have h1:=accU_lt HV0.out 1 HI2.out.2
       rw [hV] at h1
       have h2:32 * (64:Nat) ^ 1≤8388608:=by decide
       omega
      obtain ⟨HGb,HGg⟩:=cls_end HNE.out HB.out HC.out HI2.out.2 hV
      have hV0I:(0:Int)≤(V:Int):=by omega
      have hVI:(V:Int)≤8388607:=by omega
      have HI2c:=Qh (HI2.out.2)
      have HGb:=Qh HGb
      have HGg:=Qh HGg
      clear hkn hk1 hk2 hV hVb HI2
      by_cases d1:V<128
      ·have d1I:(V:Int)<128:=by omega
       have HE:=Qh (show false=ANS from by rw [←HI.out];exact (HGb.out (.inl d1)).symm)
       clear d1
       go_wp2
       go_ret
       exact ⟨by rw [←HE.out];rfl,rfl⟩
      by_cases d2:1114111<V
      ·have d1I:¬(V:Int)<128:=by omega
       have d2I:(1114111:Int)<(V:Int):=by omega
       have HE:=Qh (show false=ANS from by rw [←HI.out];exact (HGb.out (.inr (.inl d2))).symm)
       clear d1 d2
       go_wp2
       go_ret
       exact ⟨by rw [←HE.out];rfl,rfl⟩
      by_cases d3:55296≤V
      ·by_cases d4:V<57344
       ·have d1I:¬(V:Int)<128:=by omega
        have d2I:¬(1114111:Int)<(V:Int):=by omega
        have d3I:(55296:Int)≤(V:Int):=by omega
        have d4I:(V:Int)<57344:=by omega
        have HE:=Qh (show false=ANS from by rw [←HI.out];exact (HGb.out (.inr (.inr ⟨d3,d4⟩))).symm)
        clear d1 d2 d3 d4
        go_wp2
        go_ret
        exact ⟨by rw [←HE.out];rfl,rfl⟩
       ·have d1I:¬(V:Int)<128:=by omega
        have d2I:¬(1114111:Int)<(V:Int):=by omega
        have d3I:(55296:Int)≤(V:Int):=by omega
        have d4I:¬(V:Int)<57344:=by omega
        have HE:=Qh (HGg.out (by omega))
        clear d1 d2 d3 d4
        have HLn:=Qh (show i+2≤N from by
         have h1:=(HI2c.out 1 (by omega) (Nat.le_refl _)).1
         have hn:=HN.out.1
         simp only [List.length_drop,Array.length_toList] at h1
         change 1<s.size - i at h1
         omega)
        have hLn:(i:Int)+1+1≤(N:Int):=by have:=HLn.out;omega
        go_wp2
        refine ⟨⟨trivial,i+2,?_,HLn.out,Qh (by rw [←HI.out,HE.out,List.drop_drop])⟩,?_⟩
        ·congr 1
        ·show ((N:Int) - ((i:Int)+1+1)).toNat<((N:Int) - (i:Int)).toNat
         have:=HLn.out
         omega
      ·have d1I:¬(V:Int)<128:=by omega
       have d2I:¬(1114111:Int)<(V:Int):=by omega
       have d3I:¬(55296:Int)≤(V:Int):=by omega
       have HE:=Qh (HGg.out (by omega))
       clear d1 d2 d3
       have HLn:=Qh (show i+2≤N from by
        have h1:=(HI2c.out 1 (by omega) (Nat.le_refl _)).1
        have hn:=HN.out.1
        simp only [List.length_drop,Array.length_toList] at h1
        change 1<s.size - i at h1
        omega)
       have hLn:(i:Int)+1+1≤(N:Int):=by have:=HLn.out;omega
       go_wp2
       refine ⟨⟨trivial,i+2,?_,HLn.out,Qh (by rw [←HI.out,HE.out,List.drop_drop])⟩,?_⟩
       ·congr 1
       ·show ((N:Int) - ((i:Int)+1+1)).toNat<((N:Int) - (i:Int)).toNat
        have:=HLn.out
        omega
   by_cases b4:B<240
   ·have b2I:¬(B:Int)<224:=by omega
    have b5I:(192:Int)≤(B:Int):=by omega
    have b6I:(224:Int)≤(B:Int):=by omega
    have b7I:(B:Int)<240:=by omega
    obtain ⟨v0,hv0⟩:∃ v0:Nat,B - 224=v0:=⟨_,rfl⟩
    have HC:=Qh (show ClsU B 2 2048 v0 from .inr (.inl ⟨by omega,by omega,rfl,rfl,hv0.symm⟩))
    have hvI:(B:Int) - 224=(v0:Int):=by omega
    have hv32:v0<32:=by omega
    have HV0:=Qh hv32
    have hlo:(224:Int)≤(B:Int):=by omega
    have hhi:(B:Int)<240:=by omega
    clear hv0 hv32
    go_upto_region 23 with fail
    clear hvI hlo hhi
    go_loopw [7,8] (fun v7 v8 wr2=>w=wr2∧∃ (k V:Nat),v8 = .int .i64 (k:Int)∧v7 = .int .i64 (V:Int)∧1≤k∧k≤3∧Hid (accU (s.data.toList.drop i) v0 (k - 1)=V∧contsU (s.data.toList.drop i) (k - 1))) (fun _ v8 _=>(3 - intOf v8).toNat)
    case atStart=>exact ⟨rfl,1,v0,rfl,rfl,Nat.le_refl _,by omega,Qh ⟨rfl,fun j h1 h2=>by omega⟩⟩
    case round=>
     obtain ⟨rfl,k,V,rfl,rfl,hk1,hk2,HI2⟩:=hrel
     by_cases hkn:k≤2
     ·have hknI:(k:Int)≤2:=by omega
      have hk0I:(1:Int)≤(k:Int):=by omega
      have hVb:(V:Int)≤131071:=by
       have h1:=accU_lt HV0.out (k - 1) HI2.out.2
       have h2:(64:Nat) ^ (k - 1)≤64 ^ 2:=Nat.pow_le_pow_right (by decide) (by omega)
       rw [HI2.out.1] at h1
       rw [show (64:Nat) ^ 2=4096 from by decide] at h2
       omega
      have hV0I:(0:Int)≤(V:Int):=by omega
      obtain ⟨j,hj⟩:∃ j,i+k=j:=⟨_,rfl⟩
      have hjI:(i:Int)+(k:Int)=(j:Int):=by omega
      have hkL:∀ h:j<s.size,((s.data.toList.drop i).getD k 0).toNat=s[j].toNat:=by
       subst hj
       intro h
       rw [getD_drop_get s i k h]
      have HKL:=Qh hkL
      have HJ:=Qh hj
      clear hj hkL
      by_cases hin:j<N
      ·have hjN:(j:Int)<(N:Int):=by omega
       have hj0:(0:Int)≤(j:Int):=by omega
       have hjs:j<s.size:=by rw [HN.out.1];exact hin
       have hCl:=HKL.out hjs
       obtain ⟨C,hC⟩:∃ C,(s[j]'hjs).toNat=C:=⟨_,rfl⟩
       rw [hC] at hCl
       have HCC:=Qh (Qa hC hCl)
       have hC256:C<256:=by rw [←hC];exact UInt8.toNat_lt _
       clear hC hCl
       by_cases c1:C<128
       ·have c1I:(C:Int)<128:=by omega
        have c2I:((s[j]'hjs).toNat:Int)<128:=by rw [HCC.out.1];exact c1I
        have HE:=Qh (show false=ANS from by rw [←HI.out];exact (cls_bad HNE.out HB.out HC.out ⟨hk1,hkn⟩ (fun h=>by have h1:=h.2.1;rw [HCC.out.2] at h1;omega)).symm)
        clear hkn hk1 hk2 hin hC256 c1
        go_wp2
        go_ret
        exact ⟨by rw [←HE.out];rfl,rfl⟩
       ·by_cases c2:192≤C
        ·have c1I:¬((s[j]'hjs).toNat:Int)<128:=by rw [HCC.out.1];omega
         have c2I:(192:Int)≤((s[j]'hjs).toNat:Int):=by rw [HCC.out.1];omega
         have HE:=Qh (show false=ANS from by rw [←HI.out];exact (cls_bad HNE.out HB.out HC.out ⟨hk1,hkn⟩ (fun h=>by have h1:=h.2.2;rw [HCC.out.2] at h1;omega)).symm)
         clear hkn hk1 hk2 hin hC256 c1 c2
         go_wp2
         go_ret
         exact ⟨by rw [←HE.out];rfl,rfl⟩
        ·have c1I:(128:Int)≤((s[j]'hjs).toNat:Int):=by rw [HCC.out.1];omega
         have c2I:((s[j]'hjs).toNat:Int)<192:=by rw [HCC.out.1];omega
         have HE:=Qh (show accU (s.data.toList.drop i) v0 (k+1 - 1)=V * 64+C - 128∧contsU (s.data.toList.drop i) (k+1 - 1) from by
          have e:k+1 - 1=(k - 1)+1:=by omega
          rw [e]
          refine ⟨?_,fun q h1 h2=>?_⟩
          ·rw [accU_succ,HI2.out.1,show k - 1+1=k by omega,HCC.out.2];omega
          ·by_cases hq:q≤k - 1
           ·exact HI2.out.2 q h1 hq
           ·have hqk:q=k:=by omega
            rw [hqk]
            refine ⟨?_,by rw [HCC.out.2];omega,by rw [HCC.out.2];omega⟩
            have hj:=HJ.out
            have hn:=HN.out.1
            simp only [List.length_drop,Array.length_toList]
            show k<s.size - i
            omega)
         have HK:=Qh (Qa hkn (Qa (show 128≤C by omega) (show C<192 by omega)))
         clear hkn hk1 hk2 hin hC256 c1 c2
         go_wp2
         refine ⟨⟨trivial,k+1,V * 64+C - 128,rfl,?_,by omega,by have:=HK.out.1;omega,HE⟩,?_⟩
         ·have h1:=HK.out.2
          rw [HCC.out.1]
          congr 1
          omega
         ·have:=HK.out.1
          show (3 - ((k:Int)+1)).toNat<(3 - (k:Int)).toNat
          omega
      ·have hjN:(N:Int)≤(j:Int):=by omega
       have HE:=Qh (show false=ANS from by
        rw [←HI.out]
        refine (cls_bad HNE.out HB.out HC.out ⟨hk1,hkn⟩ (fun h=>?_)).symm
        have h1:=h.1
        have hj:=HJ.out
        have hn:=HN.out.1
        simp only [List.length_drop,Array.length_toList] at h1
        change k<s.size - i at h1
        omega)
       clear hkn hk1 hk2 hin
       go_wp2
       go_ret
       exact ⟨by rw [←HE.out];rfl,rfl⟩
     ·have hk:k=3:=by omega
      subst hk
      have hV:accU (s.data.toList.drop i) v0 2=V:=HI2.out.1
      have hVb:V≤8388607:=by
       have h1:=accU_lt HV0.out 2 HI2.out.2
       rw [hV] at h1
       have h2:32 * (64:Nat) ^ 2≤8388608:=by decide
       omega
      obtain ⟨HGb,HGg⟩:=cls_end HNE.out HB.out HC.out HI2.out.2 hV
      have hV0I:(0:Int)≤(V:Int):=by omega
      have hVI:(V:Int)≤8388607:=by omega
      have HI2c:=Qh (HI2.out.2)
      have HGb:=Qh HGb
      have HGg:=Qh HGg
      clear hkn hk1 hk2 hV hVb HI2
      by_cases d1:V<2048
      ·have d1I:(V:Int)<2048:=by omega
       have HE:=Qh (show false=ANS from by rw [←HI.out];exact (HGb.out (.inl d1)).symm)
       clear d1
       go_wp2
       go_ret
       exact ⟨by rw [←HE.out];rfl,rfl⟩
      by_cases d2:1114111<V
      ·have d1I:¬(V:Int)<2048:=by omega
       have d2I:(1114111:Int)<(V:Int):=by omega
       have HE:=Qh (show false=ANS from by rw [←HI.out];exact (HGb.out (.inr (.inl d2))).symm)
       clear d1 d2
       go_wp2
       go_ret
       exact ⟨by rw [←HE.out];rfl,rfl⟩
      by_cases d3:55296≤V
      ·by_cases d4:V<57344
       ·have d1I:¬(V:Int)<2048:=by omega
        have d2I:¬(1114111:Int)<(V:Int):=by omega
        have d3I:(55296:Int)≤(V:Int):=by omega
        have d4I:(V:Int)<57344:=by omega
        have HE:=Qh (show false=ANS from by rw [←HI.out];exact (HGb.out (.inr (.inr ⟨d3,d4⟩))).symm)
        clear d1 d2 d3 d4
        go_wp2
        go_ret
        exact ⟨by rw [←HE.out];rfl,rfl⟩
       ·have d1I:¬(V:Int)<2048:=by omega
        have d2I:¬(1114111:Int)<(V:Int):=by omega
        have d3I:(55296:Int)≤(V:Int):=by omega
        have d4I:¬(V:Int)<57344:=by omega
        have HE:=Qh (HGg.out (by omega))
        clear d1 d2 d3 d4
        have HLn:=Qh (show i+3≤N from by
         have h1:=(HI2c.out 2 (by omega) (Nat.le_refl _)).1
         have hn:=HN.out.1
         simp only [List.length_drop,Array.length_toList] at h1
         change 2<s.size - i at h1
         omega)
        have hLn:(i:Int)+2+1≤(N:Int):=by have:=HLn.out;omega
        go_wp2
        refine ⟨⟨trivial,i+3,?_,HLn.out,Qh (by rw [←HI.out,HE.out,List.drop_drop])⟩,?_⟩
        ·congr 1
        ·show ((N:Int) - ((i:Int)+2+1)).toNat<((N:Int) - (i:Int)).toNat
         have:=HLn.out
         omega
      ·have d1I:¬(V:Int)<2048:=by omega
       have d2I:¬(1114111:Int)<(V:Int):=by omega
       have d3I:¬(55296:Int)≤(V:Int):=by omega
       have HE:=Qh (HGg.out (by omega))
       clear d1 d2 d3
       have HLn:=Qh (show i+3≤N from by
        have h1:=(HI2c.out 2 (by omega) (Nat.le_refl _)).1
        have hn:=HN.out.1
        simp only [List.length_drop,Array.length_toList] at h1
        change 2<s.size - i at h1
        omega)
       have hLn:(i:Int)+2+1≤(N:Int):=by have:=HLn.out;omega
       go_wp2
       refine ⟨⟨trivial,i+3,?_,HLn.out,Qh (by rw [←HI.out,HE.out,List.drop_drop])⟩,?_⟩
       ·congr 1
       ·show ((N:Int) - ((i:Int)+2+1)).toNat<((N:Int) - (i:Int)).toNat
        have:=HLn.out
        omega
   ·have b2I:¬(B:Int)<224:=by omega
    have b5I:(192:Int)≤(B:Int):=by omega
    have b6I:¬(B:Int)<240:=by omega
    have b7I:(240:Int)≤(B:Int):=by omega
    have b8I:(B:Int)<248:=by omega
    have b9I:(224:Int)≤(B:Int):=by omega
    obtain ⟨v0,hv0⟩:∃ v0:Nat,B - 240=v0:=⟨_,rfl⟩
    have HC:=Qh (show ClsU B 3 65536 v0 from .inr (.inr ⟨by omega,by omega,rfl,rfl,hv0.symm⟩))
    have hvI:(B:Int) - 240=(v0:Int):=by omega
    have hv32:v0<32:=by omega
    have HV0:=Qh hv32
    have hlo:(240:Int)≤(B:Int):=by omega
    have hhi:(B:Int)<248:=by omega
    clear hv0 hv32
    go_upto_region 23 with fail
    clear hvI hlo hhi
    go_loopw [7,8] (fun v7 v8 wr2=>w=wr2∧∃ (k V:Nat),v8 = .int .i64 (k:Int)∧v7 = .int .i64 (V:Int)∧1≤k∧k≤4∧Hid (accU (s.data.toList.drop i) v0 (k - 1)=V∧contsU (s.data.toList.drop i) (k - 1))) (fun _ v8 _=>(4 - intOf v8).toNat)
    case atStart=>exact ⟨rfl,1,v0,rfl,rfl,Nat.le_refl _,by omega,Qh ⟨rfl,fun j h1 h2=>by omega⟩⟩
    case round=>
     obtain ⟨rfl,k,V,rfl,rfl,hk1,hk2,HI2⟩:=hrel
     by_cases hkn:k≤3
     ·have hknI:(k:Int)≤3:=by omega
      have hk0I:(1:Int)≤(k:Int):=by omega
      have hVb:(V:Int)≤131071:=by
       have h1:=accU_lt HV0.out (k - 1) HI2.out.2
       have h2:(64:Nat) ^ (k - 1)≤64 ^ 2:=Nat.pow_le_pow_right (by decide) (by omega)
       rw [HI2.out.1] at h1
       rw [show (64:Nat) ^ 2=4096 from by decide] at h2
       omega
      have hV0I:(0:Int)≤(V:Int):=by omega
      obtain ⟨j,hj⟩:∃ j,i+k=j:=⟨_,rfl⟩
      have hjI:(i:Int)+(k:Int)=(j:Int):=by omega
      have hkL:∀ h:j<s.size,((s.data.toList.drop i).getD k 0).toNat=s[j].toNat:=by
       subst hj
       intro h
       rw [getD_drop_get s i k h]
      have HKL:=Qh hkL
      have HJ:=Qh hj
      clear hj hkL
      by_cases hin:j<N
      ·have hjN:(j:Int)<(N:Int):=by omega
       have hj0:(0:Int)≤(j:Int):=by omega
       have hjs:j<s.size:=by rw [HN.out.1];exact hin
       have hCl:=HKL.out hjs
       obtain ⟨C,hC⟩:∃ C,(s[j]'hjs).toNat=C:=⟨_,rfl⟩
       rw [hC] at hCl
       have HCC:=Qh (Qa hC hCl)
       have hC256:C<256:=by rw [←hC];exact UInt8.toNat_lt _
       clear hC hCl
       by_cases c1:C<128
       ·have c1I:(C:Int)<128:=by omega
        have c2I:((s[j]'hjs).toNat:Int)<128:=by rw [HCC.out.1];exact c1I
        have HE:=Qh (show false=ANS from by rw [←HI.out];exact (cls_bad HNE.out HB.out HC.out ⟨hk1,hkn⟩ (fun h=>by have h1:=h.2.1;rw [HCC.out.2] at h1;omega)).symm)
        clear hkn hk1 hk2 hin hC256 c1
        go_wp2
        go_ret
        exact ⟨by rw [←HE.out];rfl,rfl⟩
       ·by_cases c2:192≤C
        ·have c1I:¬((s[j]'hjs).toNat:Int)<128:=by rw [HCC.out.1];omega
         have c2I:(192:Int)≤((s[j]'hjs).toNat:Int):=by rw [HCC.out.1];omega
         have HE:=Qh (show false=ANS from by rw [←HI.out];exact (cls_bad HNE.out HB.out HC.out ⟨hk1,hkn⟩ (fun h=>by have h1:=h.2.2;rw [HCC.out.2] at h1;omega)).symm)
         clear hkn hk1 hk2 hin hC256 c1 c2
         go_wp2
         go_ret
         exact ⟨by rw [←HE.out];rfl,rfl⟩
        ·have c1I:(128:Int)≤((s[j]'hjs).toNat:Int):=by rw [HCC.out.1];omega
         have c2I:((s[j]'hjs).toNat:Int)<192:=by rw [HCC.out.1];omega
         have HE:=Qh (show accU (s.data.toList.drop i) v0 (k+1 - 1)=V * 64+C - 128∧contsU (s.data.toList.drop i) (k+1 - 1) from by
          have e:k+1 - 1=(k - 1)+1:=by omega
          rw [e]
          refine ⟨?_,fun q h1 h2=>?_⟩
          ·rw [accU_succ,HI2.out.1,show k - 1+1=k by omega,HCC.out.2];omega
          ·by_cases hq:q≤k - 1
           ·exact HI2.out.2 q h1 hq
           ·have hqk:q=k:=by omega
            rw [hqk]
            refine ⟨?_,by rw [HCC.out.2];omega,by rw [HCC.out.2];omega⟩
            have hj:=HJ.out
            have hn:=HN.out.1
            simp only [List.length_drop,Array.length_toList]
            show k<s.size - i
            omega)
         have HK:=Qh (Qa hkn (Qa (show 128≤C by omega) (show C<192 by omega)))
         clear hkn hk1 hk2 hin hC256 c1 c2
         go_wp2
         refine ⟨⟨trivial,k+1,V * 64+C - 128,rfl,?_,by omega,by have:=HK.out.1;omega,HE⟩,?_⟩
         ·have h1:=HK.out.2
          rw [HCC.out.1]
          congr 1
          omega
         ·have:=HK.out.1
          show (4 - ((k:Int)+1)).toNat<(4 - (k:Int)).toNat
          omega
      ·have hjN:(N:Int)≤(j:Int):=by omega
       have HE:=Qh (show false=ANS from by
        rw [←HI.out]
        refine (cls_bad HNE.out HB.out HC.out ⟨hk1,hkn⟩ (fun h=>?_)).symm
        have h1:=h.1
        have hj:=HJ.out
        have hn:=HN.out.1
        simp only [List.length_drop,Array.length_toList] at h1
        change k<s.size - i at h1
        omega)
       clear hkn hk1 hk2 hin
       go_wp2
       go_ret
       exact ⟨by rw [←HE.out];rfl,rfl⟩
     ·have hk:k=4:=by omega
      subst hk
      have hV:accU (s.data.toList.drop i) v0 3=V:=HI2.out.1
      have hVb:V≤8388607:=by
       have h1:=accU_lt HV0.out 3 HI2.out.2
       rw [hV] at h1
       have h2:32 * (64:Nat) ^ 3≤8388608:=by decide
       omega
      obtain ⟨HGb,HGg⟩:=cls_end HNE.out HB.out HC.out HI2.out.2 hV
      have hV0I:(0:Int)≤(V:Int):=by omega
      have hVI:(V:Int)≤8388607:=by omega
      have HI2c:=Qh (HI2.out.2)
      have HGb:=Qh HGb
      have HGg:=Qh HGg
      clear hkn hk1 hk2 hV hVb HI2
      by_cases d1:V<65536
      ·have d1I:(V:Int)<65536:=by omega
       have HE:=Qh (show false=ANS from by rw [←HI.out];exact (HGb.out (.inl d1)).symm)
       clear d1
       go_wp2
       go_ret
       exact ⟨by rw [←HE.out];rfl,rfl⟩
      by_cases d2:1114111<V
      ·have d1I:¬(V:Int)<65536:=by omega
       have d2I:(1114111:Int)<(V:Int):=by omega
       have HE:=Qh (show false=ANS from by rw [←HI.out];exact (HGb.out (.inr (.inl d2))).symm)
       clear d1 d2
       go_wp2
       go_ret
       exact ⟨by rw [←HE.out];rfl,rfl⟩
      by_cases d3:55296≤V
      ·by_cases d4:V<57344
       ·have d1I:¬(V:Int)<65536:=by omega
        have d2I:¬(1114111:Int)<(V:Int):=by omega
        have d3I:(55296:Int)≤(V:Int):=by omega
        have d4I:(V:Int)<57344:=by omega
        have HE:=Qh (show false=ANS from by rw [←HI.out];exact (HGb.out (.inr (.inr ⟨d3,d4⟩))).symm)
        clear d1 d2 d3 d4
        go_wp2
        go_ret
        exact ⟨by rw [←HE.out];rfl,rfl⟩
       ·have d1I:¬(V:Int)<65536:=by omega
        have d2I:¬(1114111:Int)<(V:Int):=by omega
        have d3I:(55296:Int)≤(V:Int):=by omega
        have d4I:¬(V:Int)<57344:=by omega
        have HE:=Qh (HGg.out (by omega))
        clear d1 d2 d3 d4
        have HLn:=Qh (show i+4≤N from by
         have h1:=(HI2c.out 3 (by omega) (Nat.le_refl _)).1
         have hn:=HN.out.1
         simp only [List.length_drop,Array.length_toList] at h1
         change 3<s.size - i at h1
         omega)
        have hLn:(i:Int)+3+1≤(N:Int):=by have:=HLn.out;omega
        go_wp2
        refine ⟨⟨trivial,i+4,?_,HLn.out,Qh (by rw [←HI.out,HE.out,List.drop_drop])⟩,?_⟩
        ·congr 1
        ·show ((N:Int) - ((i:Int)+3+1)).toNat<((N:Int) - (i:Int)).toNat
         have:=HLn.out
         omega
      ·have d1I:¬(V:Int)<65536:=by omega
       have d2I:¬(1114111:Int)<(V:Int):=by omega
       have d3I:¬(55296:Int)≤(V:Int):=by omega
       have HE:=Qh (HGg.out (by omega))
       clear d1 d2 d3
       have HLn:=Qh (show i+4≤N from by
        have h1:=(HI2c.out 3 (by omega) (Nat.le_refl _)).1
        have hn:=HN.out.1
        simp only [List.length_drop,Array.length_toList] at h1
        change 3<s.size - i at h1
        omega)
       have hLn:(i:Int)+3+1≤(N:Int):=by have:=HLn.out;omega
       go_wp2
       refine ⟨⟨trivial,i+4,?_,HLn.out,Qh (by rw [←HI.out,HE.out,List.drop_drop])⟩,?_⟩
       ·congr 1
       ·show ((N:Int) - ((i:Int)+3+1)).toNat<((N:Int) - (i:Int)).toNat
        have:=HLn.out
        omega
  ·have ei:i=N:=by omega
   have HE:=Qh (show true=ANS from by
    rw [←HI.out,List.drop_of_length_le (by rw [Array.length_toList,ei,←HN.out.1];exact Nat.le_refl _)]
    rfl)
   subst ei
   clear hlt hi
   go_wp2
   go_ret
   exact ⟨by rw [←HE.out];rfl,rfl⟩
end Go.Proofs.YtgfeainpeplphaaDoor
namespace Ht
mutual
def Fits:Tm→Prop
 | .mk _ n _ _ _ ts=>n.length≤4611686018427387904∧Fitss ts
def Fitss:List Tm→Prop
 | []=>True
 | a :: ts=>Fits a∧Fitss ts
end
theorem Fitss.iff:∀ {ts:List Tm},Fitss ts↔∀ a∈ts,Fits a
 | []=>by simp [Fitss]
 | a :: ts=>by rw [Fitss,Fitss.iff (ts:=ts)];simp
theorem Fits.iff {t:Tm} : Fits t↔t.n.length≤4611686018427387904∧∀ a∈t.as,Fits a:=by
 obtain ⟨k,n,m,b,v,ts⟩:=t
 rw [Fits,Fitss.iff]
 rfl
end Ht
namespace Go.Proofs.YtgfeainpeplphaaDoor
open Go.ChangeShapes Go.WideShapes Go.ChangeAt Go.RowKit Go.Joins Go.Deep Hb Ht
theorem laidK:laidOutB Tryd.prog=true:=by kernel_rfl
section
variable {H:Type} {enc:TypeId × Value→H} {P:Program}
theorem args_stay (hl:laidOutB P=true) {W W':World} (hb:Below W.heap.size W W'):∀ (ts:List TypeId) (vs:List Value) (ds:List (DataW H)) (ps:List MemPlace),
  (∀ t∈ts,P.readableRec t=true∧t<P.types.size)→DataW.TrodAll enc P W 0 (fun _=>true) true ts vs ds ps→(∀ x∈ps,x.block<W.heap.size) →
  ∀ sp:Nat→Bool,(∀ x∈ps,sp x.block=true)→DataW.TrodAll enc P W' 0 sp true ts vs ds ps
 | [],vs,ds,ps,_,h,_,_,_=>by
  cases vs <;> cases ds <;> simp [DataW.TrodAll] at h ⊢
  exact h
 | t :: ts,vs,ds,ps,hr,h,hlt,sp,hs=>by
  obtain ⟨v,vs',d,ds',p,q,rfl,rfl,rfl,h1,h2⟩:=trodAll_cons h
  have hp:∀ x∈p,x.block<W.heap.size:=fun x hx=>hlt x (List.mem_append_left _ hx)
  have hq:∀ x∈q,x.block<W.heap.size:=fun x hx=>hlt x (List.mem_append_right _ hx)
  exact trodAll_cons_mk (WideElems.Trod_stays hl (hr t (by simp)).1 (hr t (by simp)).2 h1 (fun x hx=>hb.same (hp x hx)) (fun x hx=>hs x (List.mem_append_left _ hx)))
   (args_stay hl hb ts vs' ds' q (fun t ht=>hr t (List.mem_cons_of_mem _ ht)) h2 hq sp (fun x hx=>hs x (List.mem_append_right _ hx)))
theorem law_end {f:Func} {s:ChangeSpec} {fresh handsOn again:Bool} {W W':World} {args:Array Value} {ds gs:List (DataW H)} {before:List MemPlace} {bt:TypeId}
  (hl:laidOutB P=true) (hr:∀ t∈f.params.toList,P.readableRec t=true∧t<P.types.size) (hres:f.resultTypes = #[bt]) (hbt:P.underlying bt=some .bool)
  (hv:s.vars = []) (hW:DataW.Whole enc P f.params.toList s.vars false W args.toList ds gs before) (hfn:s.fn H (ds ++ gs) = { results:=[.lit (.bool true)],args:=ds }) (hb:Below W.heap.size W W') :
  s.post enc P f false fresh handsOn again W args (.bool true) W':=by
 have hlt:∀ p∈before,p.block<W.heap.size:=fun p hp=>hW.lt p hp
 have hW2:=hW
 obtain ⟨p,q,hA,hV,rfl,hz,_⟩:=hW2
 rw [hv] at hV
 obtain ⟨rfl,rfl⟩:=trodVars_none hV
 rw [List.append_nil] at *
 have hst:=args_stay hl hb _ _ _ _ hr hA hlt
 have hR:∀ (b:Nat) (sp:Nat→Bool) (hd:Bool),DataW.TrodAll enc P W' b sp hd f.resultTypes.toList ((Value.bool true).resultList f.resultTypes.size) (s.fn H ds).results []:=by
  intro b sp hd
  rw [hfn,hres]
  exact ⟨[],[],shut_bool hbt true,rfl,rfl⟩
 refine ⟨ds,[],p,[],p,[],by simpa using hW,by simpa using hR _ _ _,?_,?_,World.keptBut_mono (fun x hx=>⟨hx,.inr (.inl hx)⟩) (hb.frame (· ∈ p)),fun _=>⟨?_,[.lit (.bool true)] ++ ds,[],p,⟨p,[],?_,?_,by simp,?_,fun h=>by cases h⟩,fun x hx _=>hx⟩⟩
 ·rw [List.append_nil,hfn];exact hst _ (fun x hx=>by simpa using hlt x hx)
 ·rw [List.append_nil,hfn,hv];rfl
 ·intro j t r ht hj
  rw [hres] at ht hj
  cases j with
  | zero=>
   simp at ht hj
   subst ht
   obtain rfl:r = .bool true:=by simpa [Value.resultList] using hj.symm
   exact okWide_bool_mk hbt true
  | succ j=>simp at ht
 ·have h1:=hR 0 (fun _=>true) true
  rw [hfn] at h1
  have:=trodAll_append (hst (fun _=>true) (fun _ _=>rfl)) h1
  simpa using this
 ·rw [hv];rfl
 ·intro b off hp
  rw [hb.frozen (hlt _ hp)]
  exact hz b off hp
end
theorem i64_of_wf {x:Int} (h:(Lit.int .i64 x).wf=true) : -9223372036854775808≤x∧x≤9223372036854775807:=by
 simp [Lit.wf,IntKind.has,IntKind.min,IntKind.max,IntKind.bits,IntKind.signed] at h
 omega
theorem u64_of_wf {x:Int} (h:(Lit.int .u64 x).wf=true):0≤x∧x<18446744073709551616:=by
 simp [Lit.wf,IntKind.has,IntKind.min,IntKind.max,IntKind.bits,IntKind.signed] at h
 omega
theorem spot_none {w:World} {a:Addr} {v:Value} (h:w.cell? (a.add 0)=some v):∃ b o,a=⟨b,o,none⟩∧b<w.heap.size:=by
 obtain ⟨b,off,spot⟩:=a
 have hspot:spot=none:=by simpa [Addr.add] using World.cell?_spot h
 subst hspot
 refine ⟨b,off,rfl,?_⟩
 have:=World.block_lt_of_cell? _ _ h
 simpa [Addr.add] using this
theorem add_add (a:Addr) (m k:Nat):(a.add m).add k=a.add (m+k):=by
 unfold Addr.add
 by_cases h1:m=0
 ·subst h1;simp
 ·by_cases h2:k=0
  ·subst h2;simp [h1]
  ·simp [h1,h2,Nat.add_assoc]
theorem list6 {α:Type} {l:List α} (h:l.length=6):∃ a b c d e f,l = [a,b,c,d,e,f]:=by
 match l,h with
 | [a,b,c,d,e,f],_=>exact ⟨a,b,c,d,e,f,rfl⟩
theorem cellsTerm:Tryd.prog.cellsOf 25=6:=by kernel_rfl
theorem bytesTerm:Tryd.prog.bytesOf 25=80:=by kernel_rfl
theorem trod_six {H:Type} {enc:TypeId × Value→H} {P:Program} {w:World} {base:Nat} {spare:Nat→Bool} {held:Bool} {t:TypeId} {f0 f1 f2 f3 f4 f5:Field} {fuel:Nat} {cs:List Value} {x:DataW H × List MemPlace} (ht:P.underlying t=some (.struct #[f0,f1,f2,f3,f4,f5])) (h:DataW.trod enc P w base spare held fuel t cs=some x) :
  ∃ y0 y1 y2 y3 y4 y5 n,fuel=n+1∧x.1 = .agg [y0.1,y1.1,y2.1,y3.1,y4.1,y5.1]∧cs.length=P.cellsOf t∧DataW.trod enc P w base spare held n f0.type ((cs.drop f0.offset).take (P.cellsOf f0.type))=some y0 ∧
   DataW.trod enc P w base spare held n f1.type ((cs.drop f1.offset).take (P.cellsOf f1.type))=some y1∧DataW.trod enc P w base spare held n f2.type ((cs.drop f2.offset).take (P.cellsOf f2.type))=some y2 ∧
   DataW.trod enc P w base spare held n f3.type ((cs.drop f3.offset).take (P.cellsOf f3.type))=some y3∧DataW.trod enc P w base spare held n f4.type ((cs.drop f4.offset).take (P.cellsOf f4.type))=some y4 ∧
   DataW.trod enc P w base spare held n f5.type ((cs.drop f5.offset).take (P.cellsOf f5.type))=some y5:=by
 obtain ⟨xs,n,hn,rfl,hl,hlen,hf⟩:=DataW.trod_struct ht h
 match xs,hlen with
 | [y0,y1,y2,y3,y4,y5],_=>exact ⟨y0,y1,y2,y3,y4,y5,n,hn,rfl,hl,by simpa using hf 0 f0 rfl,by simpa using hf 1 f1 rfl,by simpa using hf 2 f2 rfl,by simpa using hf 3 f3 rfl,by simpa using hf 4 f4 rfl,by simpa using hf 5 f5 rfl⟩
theorem weights_all_mem {H:Type} {P:Program} {e:TypeId} {m:Nat} : ∀ {l:List (DataW H)} {d:DataW H},d∈l→m∈d.weights P e→m∈DataW.weightsAll P e l
 | d0 :: r,d,hd,hm=>by
  rw [DataW.weightsAll,List.mem_append]
  rcases List.mem_cons.1 hd with rfl | hd
  ·exact .inl hm
  ·exact .inr (weights_all_mem hd hm)
theorem trod_term {H:Type} {enc:TypeId × Value→H} {W:World} {sp:Nat→Bool} (fuel:Nat):∀ (cs:List Value) (x:DataW H × List MemPlace),DataW.trod enc Tryd.prog W 0 sp true fuel 25 cs=some x→(∀ m∈x.1.weights Tryd.prog 25,m≤reachBytes) →
  ∃ t sl,cs=cells6 t sl∧TAtP W (fun b=>b<W.heap.size) t sl∧Fits t:=by
 induction fuel using Nat.strongRecOn with
 | _ fuel ih=>
  intro cs x h hw
  obtain ⟨y0,y1,y2,y3,y4,y5,n,rfl,hx,hl,g0,g1,g2,g3,g4,g5⟩:=trod_six Tryd.underlying25 h
  rw [cellsTerm] at hl
  obtain ⟨c0,c1,c2,c3,c4,c5,rfl⟩:=list6 hl
  have e9:Tryd.prog.cellsOf 9=1:=by kernel_rfl
  have e3:Tryd.prog.cellsOf 3=1:=by kernel_rfl
  have e6:Tryd.prog.cellsOf 22=1:=by kernel_rfl
  have e7:Tryd.prog.cellsOf 23=1:=by kernel_rfl
  obtain ⟨u0,k0,_,w0⟩:=DataW.trod_int Tryd.underlying3 g0
  obtain ⟨s1,k1,hy1,hs1⟩:=DataW.trod_string Tryd.underlying9 g1
  obtain ⟨s2,k2,_,hs2⟩:=DataW.trod_string Tryd.underlying9 g2
  obtain ⟨u3,k3,_,w3⟩:=DataW.trod_int Tryd.underlying22 g3
  obtain ⟨u4,k4,_,w4⟩:=DataW.trod_int Tryd.underlying3 g4
  simp [e9] at k1 k2
  simp [e3] at k0 k4
  simp [e6] at k3
  subst k0 k1 k2 k3 k4
  simp [e7] at g5
  have hw5:∀ m∈y5.1.weights Tryd.prog 23,m≤reachBytes:=by
   intro m hm
   refine hw m ?_
   rw [hx,DataW.weights,Tryd.underlying25]
   exact DataW.weights_mem_each (j:=5) rfl rfl m hm
  have hw1:s1.data.toList.length≤4611686018427387904:=by
   have h1:=hw s1.data.toList.length (by
    rw [hx,DataW.weights,Tryd.underlying25]
    exact DataW.weights_mem_each (j:=1) rfl rfl _ (by rw [hy1];simp [DataW.weights]))
   unfold reachBytes at h1
   omega
  have hok:∀ ts,okF (.mk u0 s1.data.toList s2.data.toList u3 u4 ts):=fun ts=>⟨by simpa [Tm.n] using hs1,by simpa [Tm.m] using hs2,u64_of_wf w3,i64_of_wf w4,i64_of_wf w0⟩
  rcases DataW.trod_slice Tryd.underlying23 g5 with ⟨e1,_⟩ | ⟨a,len,cap,elems,rest,m,rfl,e1,hx5,_,hlc,hcm,hlen2,hel,_⟩
  ·simp at e1
   subst e1
   refine ⟨.mk u0 s1.data.toList s2.data.toList u3 u4 [],.slice none 0 0,rfl,?_,Fits.iff.2 ⟨hw1,fun a ha=>by cases ha⟩⟩
   rw [TAtP.iff]
   exact ⟨none,0,rfl,Nat.le_refl _,by simp [maxLen],Nat.zero_le _,hok [],fun hne=>absurd rfl hne⟩
  ·simp at e1
   subst e1
   rw [hx5] at hw5
   have hsz:len≤maxArgs:=by
    have:=hw5 ((elems.length+rest.length) * 80) (by rw [DataW.weights,Tryd.underlying23,←bytesTerm];simp)
    unfold reachBytes at this
    unfold maxArgs
    omega
   obtain ⟨V,hV⟩:=choose_lt (α:=Tm) (n:=len) (p:=fun i y=>∃ sl,(∀ k,k<6→W.cell? (a.add (i * 6+k))=(cells6 y sl)[k]?)∧TAtP W (fun b=>b<W.heap.size) y sl∧Fits y) (fun i hi=>by
    have h1:=hel i hi
    rw [List.getElem?_eq_getElem (by omega),Option.bind_eq_some_iff] at h1
    obtain ⟨cs',h2,h3⟩:=h1
    obtain ⟨t,sl,rfl,ht,hft⟩:=ih m (by omega) cs' _ h3 (fun q hq=>hw5 q (by
     rw [DataW.weights,Tryd.underlying23]
     refine List.mem_cons_of_mem _ (List.mem_append_left _ (weights_all_mem (List.mem_map.2 ⟨_,List.getElem_mem _,rfl⟩) hq))))
    refine ⟨t,sl,fun k hk=>?_,ht,hft⟩
    rw [cellsTerm] at h2
    have h4:=(World.cells?_some h2).2.2 k hk
    rw [←add_add,h4])
   refine ⟨.mk u0 s1.data.toList s2.data.toList u3 u4 ((List.range len).map V),.slice (some a) len cap,rfl,?_,Fits.iff.2 ⟨hw1,fun y hy=>by
    obtain ⟨i,hi,rfl⟩:=List.mem_map.1 hy
    obtain ⟨_,_,_,hf⟩:=hV i (by simpa using hi)
    exact hf⟩⟩
   rw [TAtP.iff]
   refine ⟨some a,cap,by simp [Tm.as],by simpa [Tm.as] using hlc,hcm,by simpa [Tm.as] using hsz,hok _,fun hne=>?_⟩
   have hn0:0<len:=Nat.pos_of_ne_zero (fun e=>hne (by subst e;rfl))
   obtain ⟨sl0,hc0,_⟩:=hV 0 hn0
   obtain ⟨b,o,rfl,hb⟩:=spot_none (hc0 0 (by omega))
   refine ⟨b,o,rfl,hb,fun i x hx=>?_⟩
   obtain ⟨hi,e⟩:=List.getElem?_eq_some_iff.1 hx
   have hin:i<len:=by simpa [Tm.as] using hi
   simp only [Tm.as,List.getElem_map,List.getElem_range] at e
   obtain ⟨sl,hc,ht,_⟩:=hV i hin
   rw [←e]
   exact ⟨sl,fun j hj=>by rw [←hc j hj,addr_add,Nat.add_assoc],ht⟩
theorem open_Term {H:Type} {enc:TypeId × Value→H} {W:World} {base:Nat} {v:Value} {d:DataW H} {p:List MemPlace} (hval:Value.okWide Tryd.prog W .any base 25 v)
  (h:DataW.Trod enc Tryd.prog W 0 (fun _=>true) true 25 v d p) (hw:∀ m∈d.weights Tryd.prog 25,m≤reachBytes):∃ t sl,v=valT t sl∧TAt W W.heap.size t sl∧Fits t:=by
 obtain ⟨cs,rfl,hsz⟩:=okWide_struct Tryd.underlying25 hval
 obtain ⟨fuel,hf⟩:=h
 obtain ⟨t,sl,e,ht,hft⟩:=trod_term fuel _ _ hf hw
 refine ⟨t,sl,?_,ht,hft⟩
 have e2:cs.toList=cells6 t sl:=by simpa [Value.cells] using e
 show Value.agg cs = .agg (cells6 t sl).toArray
 rw [←e2]
theorem arg_weights {H:Type} {d:DataW H} {l:List (DataW H)} {ts:List TypeId} {j:Nat} {t:TypeId} (hw:(DataW.weightsEach Tryd.prog ts l).all (· ≤ reachBytes)=true) (ht:ts[j]?=some t) (hd:l[j]?=some d):∀ m∈d.weights Tryd.prog t,m≤reachBytes:=fun m hm=>by
 have:=List.all_eq_true.1 hw m (DataW.weights_mem_each ht hd m hm)
 simpa using this
theorem dcgOwn:ownKnob Tryd.prog.godebug=none:=by kernel_rfl
noncomputable def dcgWorld (os:Os):World:=World.laidAll Tryd.prog os Rows.dcgFreshRow.laid
theorem dcgWorld_met (os:Os) (args:Array Value):laidMetH Tryd.prog Rows.dcgFreshRow.laid ((dcgWorld os).forCall (fun _ _=>0) ⟨#[],args,[]⟩).memory:=by
 rw [MakeChecks.laidMetH_plain _ _ _ (by kernel_rfl)]
 exact laidMet_laidAll _ (by kernel_rfl) (by kernel_rfl)
theorem vtabs_laid {W:World} (h:laidMetH Tryd.prog Rows.dcgFreshRow.laid W):VTabs W:=
 utf8Tabs_of_readsT (U8Types.of196 Tryd.laysValid) ⟨by kernel_rfl,by kernel_rfl,by kernel_rfl,by kernel_rfl,by kernel_rfl,by kernel_rfl,by kernel_rfl⟩ (Lib.laidMet.reads h (.tail _ (.head _))) (Lib.laidMet.reads h (.head _))
end Go.Proofs.YtgfeainpeplphaaDoor
